/- The law DiskShorts: the first reads answer no more than they are told, all others all. No condition. -/
import Derived.Test.YthgkepaadkmhoaaAvDkS
import Derived.Test.YthgkepaadkmhoaaLDiskShorts
set_option linter.unusedVariables false
set_option linter.unusedSimpArgs false
set_option maxRecDepth 100000
namespace Go.Proofs.Ythgkepaadkmhoaa.Av
open Go Go.RowKit
theorem diskShorts_calls (x0 : Sl Int) (h0 : diskShorts_r0.ok x0) (x1 : UInt8) (h1 : diskShorts_r1.ok x1) :
    ACalls Try.prog 4 (diskShorts_r0.enc x0 ++ diskShorts_r1.enc x1) [] fun r _ => r = .lit (.bool true) := by
  have hv := ints_sv x0 h0.1
  show ACalls Try.prog 4 [if x0.nil then AV.lit (.slice none 0 0) else .imm (x0.l.flatMap encI) x0.l.length 1, .lit (.int .u8 x1.toNat)] [] _
  generalize (if x0.nil then AV.lit (.slice none 0 0) else .imm (x0.l.flatMap encI) x0.l.length 1) = v at hv
  generalize x0.l = l at hv
  refine salvorlaw10_DiskShorts_ok ?_
  unfold salvorlaw10_DiskShorts
  simp [hv.len]
  by_cases c1 : (100 : Int) < l.length
  · simp [c1]
    first | refine bP_of (diskRuns_p) ?_ | refine bP_pure (diskRuns_p) ?_
    rfl
  · simp [c1, amk, -zrow, cellsA_one (oneA_sv hv)]
    refine ⟨_, disk_New_a (d := ⟨List.replicate 300 0, [], [], l⟩) ⟨zslice rfl, rfl, rfl, hv.2 _⟩ (by simp) (by simp) (by simp) (by simp only; omega), ?_⟩
    rintro r H1 ⟨o, n1, dv, bo, lo, sv, rfl, hP, g⟩
    have hm : mayD ⟨List.replicate 300 0, [], [], l⟩ := ⟨by simp, by simp, by simp⟩
    have he : Eff ⟨List.replicate 300 0, [], [], l⟩ = ⟨List.replicate 300 0, [], [], l⟩ := if_pos hm
    rw [he] at hP
    generalize hD : (⟨List.replicate 300 0, [], [], l⟩ : Dev) = D at hP hm
    have dl : D.data.length = 300 := by rw [← hD]; simp
    have db : D.bad = [] := by rw [← hD]
    have dsh : D.shorts = l := by rw [← hD]
    have ds : ∀ k, sumS D.soft k = 0 := fun k => by rw [← hD]; rfl
    have e0 : abN .eql nilP (.ptr o 0) (.lit (.pointer none)) = some (B false) := rfl
    have hu := x1.toNat_lt
    simp [e0, acI_i64 (a := (x1.toNat : Int)) (by omega) (by omega)]
    generalize x1.toNat = k at hu
    refine salvorlaw10_DiskShorts_L11_rule (fun n y0 y5 y6 y7 H => ∃ i : Nat, i + n = l.length + 2 ∧ y0 = v ∧ y5 = .ptr o 0 ∧ y6 = I k ∧ y7 = I i ∧ DiskP 1 n1 H o D (sumS D.soft) i dv bo lo sv) ?_ (l.length + 2) ⟨0, by omega, rfl, rfl, rfl, rfl, hP⟩
    rintro n y0 y5 y6 y7 H R hR ⟨i, hi, rfl, rfl, rfl, rfl, hQ⟩
    unfold salvorlaw10_DiskShorts_L11_b
    have hlt2 : ((i : Int) < (l.length : Int) + 2) = (i < l.length + 2) := propext (by omega)
    simp [hv.len, abI_add (a := l.length) (b := 2) (by omega) (by omega)]
    by_cases hlt : i < l.length + 2
    · have hlt' : (i : Int) < (l.length : Int) + 2 := by omega
      have hf : Fine D (sumS D.soft) i := ⟨fun k => by rw [ds]; omega, by omega, by omega, by rw [dsh]; omega⟩
      -- what is asked for, and answered
      have main : ∀ want : Int, want = (if (i : Int) < l.length ∧ 0 < shortS D i then min (k : Int) (shortS D i) else k) → salvorlaw10_DiskShorts_J16 R y0 (.ptr o 0) (I k) (I i) (I want) H (fun r x => r = B true) := by
        rintro want hw
        rw [salvorlaw10_DiskShorts_J16_eq]
        unfold salvorlaw10_DiskShorts_J16_b
        simp [abI_rem (a := (i : Int)) (b := 40) (by omega) (by omega)]
        obtain ⟨r, H2, ⟨w, rfl, a1, -, -, a2, a3⟩, a4⟩ := disk_Get_c hQ hf ((i : Int) % 40) k (by omega)
        have hask : askS D i ((i : Int) % 40) k = want := by
          have h5 : min (k : Int) (max 0 (((300 : Nat) : Int) - (i : Int) % 40)) = k := by omega
          unfold askS
          rw [dl, dsh, hw, h5]
        have hres : getS D (sumS D.soft) i ((i : Int) % 40) k = ((getS D (sumS D.soft) i ((i : Int) % 40) k).1, 0, sumS D.soft, (i : Int) + 1) ∧ ((getS D (sumS D.soft) i ((i : Int) % 40) k).1.length : Int) = want := by
          by_cases w0 : want = 0
          · have : getS D (sumS D.soft) i ((i : Int) % 40) k = ([], 0, sumS D.soft, (i : Int) + 1) := by
              unfold getS
              rw [if_neg (by omega), hask, if_pos w0]
            rw [this, w0]; exact ⟨rfl, rfl⟩
          · have hwk : 0 ≤ want ∧ want ≤ k := by rw [hw]; split <;> omega
            have nf : ∀ q, ¬ failS D (sumS D.soft) q := fun q => by unfold failS; rw [db, ds]; simp
            have := getS_ok (D := D) (L := sumS D.soft) (c := i) (pos := (i : Int) % 40) (n := k) (m := want) (e := (i : Int) % 40 + want) (by omega) (by omega) (by omega) hask w0 (nf _) ⟨.inl rfl, fun q _ _ => nf q⟩
            rw [this]
            refine ⟨rfl, ?_⟩
            simp only
            rw [partB_len (by omega) (by omega) (by rw [dl]; omega)]; omega
        obtain ⟨hr1, hr2⟩ := hres
        generalize (getS D (sumS D.soft) i ((i : Int) % 40) k).1 = bs at hr1 hr2
        rw [hr1] at a1 a2 a4
        refine bC_of a4 ?_
        have q1 := alnS_spec a1
        simp only at q1
        rw [hr2] at q1
        simp
        rw [salvorlaw10_DiskShorts_J18_eq]
        unfold salvorlaw10_DiskShorts_J18_b
        simp [q1]
        rw [salvorlaw10_DiskShorts_J19_eq]
        unfold salvorlaw10_DiskShorts_J19_b
        simp
        rw [salvorlaw10_DiskShorts_J14_eq]
        unfold salvorlaw10_DiskShorts_J14_b
        simp [abI_add (a := i) (b := 1) (by omega) (by omega)]
        exact hR (n - 1) _ _ _ _ _ (by omega) ⟨i + 1, by omega, rfl, rfl, rfl, rfl, a2⟩
      by_cases d1 : i < l.length
      · have hx := List.getElem?_eq_getElem d1
        generalize l[i] = y at hx
        have hy : shortS D i = y := by unfold shortS; rw [dsh, Int.toNat_natCast, hx]; rfl
        have d1' : (i : Int) < l.length := by omega
        have ix := hv.idx encI_len hx (i := i) rfl
        by_cases d2 : 0 < y
        · by_cases d3 : y < k
          · simp [hlt', d1, ix, encI, d2, d3]
            exact main y (by rw [if_pos ⟨d1', by rw [hy]; exact d2⟩, hy]; omega)
          · simp [hlt', d1, ix, encI, d2, d3]
            exact main k (by rw [if_pos ⟨d1', by rw [hy]; exact d2⟩, hy]; omega)
        · simp [hlt', d1, ix, encI, d2]
          exact main k (by rw [if_neg (fun h => d2 (by rw [← hy]; exact h.2))])
      · simp [hlt', d1]
        exact main k (by rw [if_neg (fun h => d1 (by omega))])
    · have hlt' : ¬ (i : Int) < (l.length : Int) + 2 := by omega
      simp [hlt']
      first | refine bP_of (diskRuns_p) ?_ | refine bP_pure (diskRuns_p) ?_
      rfl
end Go.Proofs.Ythgkepaadkmhoaa.Av
namespace Go.Proofs.Ythgkepaadkmhoaa
theorem diskShorts_holds : Rows.DiskShortsSaid := diskShorts_of Av.diskShorts_calls
#print axioms diskShorts_holds
end Go.Proofs.Ythgkepaadkmhoaa
