/- The law ExtentSized: cut off, what was ahead stays; made longer again, noughts stand behind; of the old blocks none is there behind the end. No condition. -/
import Derived.Test.YtflodknflaallaaAvExtN
import Derived.Test.YtflodknflaallaaAvExtG
import Derived.Test.YtflodknflaallaaLExtentSized
set_option linter.unusedVariables false
set_option linter.unusedSimpArgs false
set_option maxRecDepth 100000
namespace Go.Proofs.Ytflodknflaallaa.Av
open Go Go.RowKit
theorem in16s {n : Int} (h : IntKind.u16.min ≤ n ∧ n ≤ IntKind.u16.max) : 0 ≤ n ∧ n ≤ 65535 := by
  simpa [IntKind.min, IntKind.max, IntKind.signed, IntKind.bits] using h
theorem truncL_len (l : List Ext) (size : Int) : (truncL l size).length ≤ l.length := by
  simp only [truncL, wipeL, List.length_map]; exact List.length_filter_le _ _
theorem extentSized_calls (x0 : Int × Sl XE × Unit) (h0 : extentSized_r0.ok x0) (x1 : Int) (h1 : extentSized_r1.ok x1) (x2 : Int) (h2 : extentSized_r2.ok x2) (x3 : Int) (h3 : extentSized_r3.ok x3) :
    ACalls Try.prog 9 ([.agg (extentSized_r0.enc x0)] ++ extentSized_r1.enc x1 ++ extentSized_r2.enc x2 ++ extentSized_r3.enc x3) [] fun r _ => r = .lit (.bool true) := by
  obtain ⟨sa, la, u⟩ := x0
  obtain ⟨l, hl1, hl⟩ := cont_sv la h0.2.1.1 (fun x hx => (h0.2.1.2.2 x hx).2.1.1)
  obtain ⟨u1, u2⟩ := in16s h1
  obtain ⟨u3, u4⟩ := in16s h2
  show ACalls Try.prog 9 [.agg [I sa, if la.nil then AV.lit (.slice none 0 0) else .imm (la.l.flatMap xenc) la.l.length 9], .lit (.int .u16 x1), .lit (.int .u16 x2), I x3] [] _
  generalize (if la.nil then AV.lit (.slice none 0 0) else .imm (la.l.flatMap xenc) la.l.length 9) = v at hl
  refine law_of (salvorlaw11_ExtentSized_ok ?_)
  unfold salvorlaw11_ExtentSized
  simp [oneA_sv hl, rdCells]
  first | refine bP_of (law11_Few_p hl) ?_ | refine bP_pure (law11_Few_p hl) ?_
  by_cases c1 : l.length ≤ 60
  · simp [c1]
    first | refine bP_of (extent_May_p hl (by omega)) ?_ | refine bP_pure (extent_May_p hl (by omega)) ?_
    by_cases c2 : mayC sa l
    · simp [c2, abI_rem (k := .u16) (a := x1) (b := 600) (by omega) (by omega), abI_rem (k := .u16) (a := x2) (b := 600) (by omega) (by omega), acI_i64 (k' := .u16) (a := x1 % 600) (by omega) (by omega), acI_i64 (k' := .u16) (a := x2 % 600) (by omega) (by omega), abI_add (a := x1 % 600) (b := x2 % 600) (by omega) (by omega)]
      have ha0 : 0 ≤ x1 % 600 := by omega
      have ha1 : x1 % 600 < 600 := by omega
      have hb0 : x1 % 600 ≤ x1 % 600 + x2 % 600 := by omega
      have hb1 : x1 % 600 + x2 % 600 ≤ 1200 := by omega
      generalize x1 % 600 + x2 % 600 = b at hb0 hb1
      generalize x1 % 600 = a at ha0 ha1 hb0
      obtain ⟨R1, s1, q1⟩ := extent_Truncate_p (size0 := sa) hl (by omega) a
      have t1 : truncC (sa, l) a = some (a, truncL l a) := trunc_some (c := (sa, l)) c2 (by omega) (by omega)
      have m1 := may_trunc t1
      have e1 := trunc_at (c := (sa, l)) c2 (size := a) (by omega) (by omega) x3
      have n1 := truncL_len l a
      rw [t1] at s1 q1
      simp only [cS, cL, Option.getD_some, Option.isSome_some] at s1 q1 m1 e1
      obtain ⟨R2, s2, q2⟩ := extent_Truncate_p (size0 := a) s1 (by omega) b
      have t2 : truncC (a, truncL l a) b = some (b, truncL (truncL l a) b) := trunc_some (c := (a, truncL l a)) m1 (by omega) (by omega)
      have m2 := may_trunc t2
      have e2 := trunc_at (c := (a, truncL l a)) m1 (size := b) (by omega) (by omega) x3
      have n2 := truncL_len (truncL l a) b
      rw [t2] at s2 q2
      simp only [cS, cL, Option.getD_some, Option.isSome_some] at s2 q2 m2 e2
      have hno : ∀ x ∈ truncL (truncL l a) b, -1 ≤ x.no ∧ x.no < 137438953472 ∧ x.no * 8 < a := by
        intro x hx
        have h3 := (may_at.1 m2).2.2.2.1 x.no ⟨x, hx, rfl⟩
        have h4 := tr_has.1 ((tr_has (no := x.no)).1 ⟨x, hx, rfl⟩).1
        exact ⟨by omega, h3.2, h4.2⟩
      generalize truncL (truncL l a) b = M2 at *
      generalize truncL l a = M1 at *
      first | refine bP_of (q1) ?_ | refine bP_pure (q1) ?_
      simp [oneA_sv s1, ast, rdCells]
      first | refine bP_of (q2) ?_ | refine bP_pure (q2) ?_
      simp [oneA_sv s2, ast, rdCells]
      first | refine bP_of (extent_May_p (size := a) s1 (by omega)) ?_ | refine bP_pure (extent_May_p (size := a) s1 (by omega)) ?_
      simp [m1]
      first | refine bP_of (extent_May_p (size := b) s2 (by omega)) ?_ | refine bP_pure (extent_May_p (size := b) s2 (by omega)) ?_
      simp [m2]
      have j11 : ∀ want, want = atC b M2 x3 → salvorlaw11_ExtentSized_J11 (I x3) (I a) (.ptr 2 0) (I want) [some (.cells [I sa, v]), some (.cells [I a, R1]), some (.cells [I b, R2])] (fun r H' => r = B true) := by
        rintro want rfl
        rw [salvorlaw11_ExtentSized_J11_eq]
        unfold salvorlaw11_ExtentSized_J11_b
        rw [salvorlaw11_ExtentSized_J15_eq]
        unfold salvorlaw11_ExtentSized_J15_b
        refine salvorlaw11_ExtentSized_L16_rule (fun q y3 y9 y13 y15 y16 H => ∃ i : Nat, i + q = M2.length ∧ y3 = I x3 ∧ y9 = I a ∧ y13 = .ptr 2 0 ∧ y15 = I (atC b M2 x3) ∧ y16 = I i ∧ H = [some (.cells [I sa, v]), some (.cells [I a, R1]), some (.cells [I b, R2])]) ?_ M2.length ⟨0, by omega, rfl, rfl, rfl, rfl, rfl, rfl⟩
        rintro q y3 y9 y13 y15 y16 H R hR ⟨i, hi, rfl, rfl, rfl, rfl, rfl, rfl⟩
        unfold salvorlaw11_ExtentSized_L16_b
        rcases Nat.lt_or_ge i M2.length with hlt | hge
        · have hx := List.getElem?_eq_getElem hlt
          generalize M2[i] = x at hx
          obtain ⟨z1, z2, z3⟩ := hno x (List.mem_of_getElem? hx)
          simp [s2.len, hlt, s2.idx encE_len hx rfl, abI_mul (a := x.no) (b := 8) (by omega) (by omega), show ¬ a ≤ x.no * 8 by omega, abI_add (a := i) (b := 1) (by omega) (by omega)]
          exact hR (q - 1) _ _ _ _ _ _ (by omega) ⟨i + 1, by omega, rfl, rfl, rfl, rfl, rfl, rfl⟩
        · simp [s2.len, show ¬ i < M2.length by omega, rdCells]
          first | refine bP_of (law11_at_p (size := b) s2 (by omega) x3) ?_ | refine bP_pure (law11_at_p (size := b) s2 (by omega) x3) ?_
          simp
          first | refine bP_of (extentRuns_p) ?_ | refine bP_pure (extentRuns_p) ?_
          simp
      by_cases k1 : x3 < 0
      · simp [k1]
        exact j11 _ (by rw [e2, if_neg (by omega)])
      · by_cases k2 : b ≤ x3
        · simp [k1, k2]
          exact j11 _ (by rw [e2, if_neg (by omega)])
        · rw [if_pos (by omega)] at e2
          by_cases k3 : x3 < a
          · rw [if_pos k3, e1, if_pos (by omega)] at e2
            by_cases k4 : x3 < sa
            · rw [if_pos k4] at e2
              simp [k1, k2, k3, k4, rdCells]
              first | refine bP_of (law11_at_p (size := sa) hl (by omega) x3) ?_ | refine bP_pure (law11_at_p (size := sa) hl (by omega) x3) ?_
              exact j11 _ e2.symm
            · rw [if_neg k4] at e2
              simp [k1, k2, k3, k4]
              exact j11 _ e2.symm
          · rw [if_neg k3] at e2
            simp [k1, k2, k3]
            exact j11 _ e2.symm
    · simp [c2]
      first | refine bP_of (extentRuns_p) ?_ | refine bP_pure (extentRuns_p) ?_
      simp
  · simp [c1]
    first | refine bP_of (extentRuns_p) ?_ | refine bP_pure (extentRuns_p) ?_
    simp
end Go.Proofs.Ytflodknflaallaa.Av
namespace Go.Proofs.Ytflodknflaallaa
theorem extentSized_holds : Rows.ExtentSizedSaid := extentSized_of Av.extentSized_calls
#print axioms extentSized_holds
end Go.Proofs.Ytflodknflaallaa
