/- The law OffSums: of any numbers the sum and the product, or that there is none. No condition. -/
import Derived.Test.YtobdiaalmhcimaaAvOff
import Derived.Test.YtobdiaalmhcimaaAvOffRuns
import Derived.Test.YtobdiaalmhcimaaLOffSums
set_option linter.unusedVariables false
set_option linter.unusedSimpArgs false
namespace Go.Proofs.Ytobdiaalmhcimaa.Av
open Go Go.RowKit
theorem offSums_calls (x0 : Sl Int) (h : offSums_r0.ok x0) : ACalls Try.prog 4 (offSums_r0.enc x0) [] fun r _ => r = .lit (.bool true) := by
  have hv : SV encI 1 x0.l (if x0.nil then .lit (.slice none 0 0) else .imm (x0.l.flatMap encI) x0.l.length 1) := sl_sv (Rd.int (P := Try.prog) .i64 Try.underlying3 (by kernel_rfl)) x0 h.1 (fun _ => rfl) (fun _ _ => rfl)
  show ACalls Try.prog 4 [if x0.nil then .lit (.slice none 0 0) else .imm (x0.l.flatMap encI) x0.l.length 1] [] _
  generalize (if x0.nil then AV.lit (.slice none 0 0) else .imm (x0.l.flatMap encI) x0.l.length 1) = v at hv
  generalize x0.l = l at hv
  refine law_of (salvorlaw1_OffSums_ok ?_)
  unfold salvorlaw1_OffSums
  simp [hv.len]
  by_cases hl : (300 : Int) < l.length
  · simp [hl]
    exact bP_pure offRuns_p rfl
  · simp [hl]
    have e0 : ∀ o : Option Int, ∃ a b, oI o = .tup [I a, B b] := fun o => by cases o; exact ⟨0, false, rfl⟩; exact ⟨_, true, rfl⟩
    refine bP_pure (off_Add_p hv (by omega)) ?_
    obtain ⟨a, b, hab⟩ := e0 (addS l)
    rw [hab]
    simp
    refine bP_pure (ref1_Add_p hv (by omega)) ?_
    rw [hab]
    simp
    refine bP_pure (off_Mul_p hv (by omega)) ?_
    obtain ⟨c, d, hcd⟩ := e0 (mulS l)
    rw [hcd]
    simp
    refine bP_pure (ref1_Mul_p hv (by omega)) ?_
    rw [hcd]
    simp
    refine salvorlaw1_OffSums_L10_rule (fun n x0 x3 x4 x5 x6 x7 x8 x9 x10 x11 H' => ∃ k : Nat, k + n = l.length ∧ x0 = v ∧ x3 = I a ∧ x4 = B b ∧ x5 = I a ∧ x6 = B b ∧ x7 = I c ∧ x8 = B d ∧ x9 = I c ∧ x10 = B d ∧ x11 = I k) ?_ l.length ⟨0, by simp, rfl, rfl, rfl, rfl, rfl, rfl, rfl, rfl, rfl, rfl⟩
    rintro n x0 x3 x4 x5 x6 x7 x8 x9 x10 x11 H' R hR ⟨k, hk, rfl, rfl, rfl, rfl, rfl, rfl, rfl, rfl, rfl, rfl⟩
    unfold salvorlaw1_OffSums_L10_b
    rcases Nat.lt_or_ge k l.length with hlt | hge
    · have hx := List.getElem?_eq_getElem hlt
      generalize l[k] = y at hx
      simp [hv.len, hlt, hv.idx encI_len hx rfl, encI]
      refine bP_of (off_May_p _) ?_
      refine bP_of (ref1_May_p _) ?_
      simp [abI_add (a := k) (b := 1) (by omega) (by omega)]
      exact hR (n - 1) _ _ _ _ _ _ _ _ _ _ _ (by omega) ⟨k + 1, by omega, rfl, rfl, rfl, rfl, rfl, rfl, rfl, rfl, rfl, rfl⟩
    · have hlt : ¬ k < l.length := by omega
      simp [hv.len, hlt]
      refine bP_pure offRuns_p ?_
      simp
end Go.Proofs.Ytobdiaalmhcimaa.Av
namespace Go.Proofs.Ytobdiaalmhcimaa
theorem offSums_holds : Rows.OffSumsSaid := offSums_of Av.offSums_calls
#print axioms offSums_holds
end Go.Proofs.Ytobdiaalmhcimaa
