/- Chapter 10: the closed sentence. -/
import Derived.Test.YthgkepaadkmhoaaAvDkR
set_option linter.unusedVariables false
set_option linter.unusedSimpArgs false
set_option maxRecDepth 100000
namespace Go.Proofs.Ythgkepaadkmhoaa.Av
open Go Go.RowKit
theorem zrow_bytes (m : Nat) : zrow [(.lit (.int .u8 0))] m = encB (List.replicate m (0 : UInt8)) := by
  unfold zrow
  induction m with
  | zero => rfl
  | succ m ih => rw [List.replicate_succ, List.replicate_succ, List.flatten_cons, ih]; rfl
theorem zslice {H : AH} {o m : Nat} {cap : Room} (h : H[o]? = some (some (.cells (zrow [(.lit (.int .u8 0))] m)))) : sliceCells H 1 (.sl o 0 m 1 cap) = some (encB (List.replicate m (0 : UInt8)), (List.replicate m (0 : UInt8)).length) := by
  have hl := zrow_length [(AV.lit (.int .u8 0))] m
  simp only [List.length_cons, List.length_nil] at hl
  rw [sliceCells_sl h (by omega), List.drop_zero, List.take_of_length_le (by omega), zrow_bytes, List.length_replicate]
theorem fine0 {D : Dev} (hm : mayD D) (h1 : D.soft.length ≤ 1000000) (h2 : D.shorts.length ≤ 1000000) : Fine D (sumS D.soft) 0 :=
  ⟨fun k => by have := sumS_bnd hm.2.2 k; omega, by omega, by have := hm.1; omega, h2⟩
theorem getS_ok {D : Dev} {L : Int → Int} {c pos n m e : Int} (h1 : 0 ≤ pos) (h2 : 0 ≤ n) (h3 : n ≤ 4096) (hm : askS D c pos n = m) (h4 : m ≠ 0) (h5 : ¬ failS D L (pos / 8)) (he : endP D L (pos / 8 + 1) (pos + m) e) : getS D L c pos n = (partB D.data pos e, 0, L, c + 1) := by
  unfold getS
  rw [if_neg (by omega), hm, if_neg h4, if_neg h5, (endS_spec D L (pos / 8 + 1) (pos + m)).uniq he]
theorem partB_len {l : List UInt8} {a b : Int} (h0 : 0 ≤ a) (h1 : a ≤ b) (h2 : b ≤ l.length) : ((partB l a b).length : Int) = b - a := by
  unfold partB
  rw [List.length_take, List.length_drop]; omega
theorem diskRuns_a : ACalls Try.prog 3 [] [] fun r _ => r = B true := salvorlaw10_DiskRuns_ok (by
  unfold salvorlaw10_DiskRuns
  simp [amk, -zrow]
  refine ⟨_, disk_New_a (d := ⟨List.replicate 16 0, [], [(1, 1)], []⟩) ⟨zslice rfl, rfl, rfl, rfl⟩ (by simp) (by simp) (by simp) (by simp), ?_⟩
  rintro r H1 ⟨o, n1, dv, bo, lo, sv, rfl, hP, g⟩
  have hm : mayD ⟨List.replicate 16 0, [], [(1, 1)], []⟩ := by decide
  have he : Eff ⟨List.replicate 16 0, [], [(1, 1)], []⟩ = ⟨List.replicate 16 0, [], [(1, 1)], []⟩ := if_pos hm
  rw [he] at hP
  have hf := fine0 hm (by simp) (by simp)
  generalize hD : (⟨List.replicate 16 0, [], [(1, 1)], []⟩ : Dev) = D at hP hf hm
  have dl : D.data.length = 16 := by rw [← hD]; simp
  have db : D.bad = [] := by rw [← hD]
  have dsh : D.shorts = [] := by rw [← hD]
  have ds : ∀ k, sumS D.soft k = if k = 1 then 1 else 0 := fun k => by
    rw [← hD]; simp only [sumS]; split <;> split <;> omega
  have ask : ∀ c pos n, askS D c pos n = min n (max 0 (16 - pos)) := fun c pos n => by
    have h0 : ¬ (c < D.shorts.length ∧ 0 < shortS D c) := fun h => by
      have : shortS D c = 0 := by unfold shortS; rw [dsh]; rfl
      omega
    unfold askS
    rw [if_neg h0, dl]; omega
  have fl : ∀ (L : Int → Int) k, failS D L k ↔ 0 < L k := fun L k => by unfold failS; rw [db]; simp
  have s1 : getS D (sumS D.soft) 0 0 16 = (partB D.data 0 8, 0, sumS D.soft, 1) := getS_ok (m := 16) (by omega) (by omega) (by omega) (by rw [ask]; omega) (by omega) (by rw [fl, ds]; simp)
    ⟨.inr ⟨1, by omega, by omega, by omega, by rw [fl, ds]; simp⟩, fun k h1 h2 => by omega⟩
  have s2 : getS D (sumS D.soft) 1 8 8 = ([], 1, (fun k => if k = 1 then sumS D.soft 1 - 1 else sumS D.soft k), 2) := by
    unfold getS
    rw [if_neg (by omega), ask, if_neg (by omega), if_pos (by rw [fl, ds]; simp), if_neg (by rw [db]; simp)]
    rfl
  generalize hL2 : (fun k => if k = 1 then sumS D.soft 1 - 1 else sumS D.soft k) = L2 at s2
  have l2 : ∀ k, L2 k = 0 := fun k => by
    rw [← hL2]; simp only [ds]
    by_cases c : k = 1 <;> simp [c]
  have s3 : getS D L2 2 8 8 = (partB D.data 8 16, 0, L2, 3) := getS_ok (m := 8) (by omega) (by omega) (by omega) (by rw [ask]; omega) (by omega) (by rw [fl, l2]; omega) ⟨.inl (by omega), fun k h1 h2 => by rw [fl, l2]; omega⟩
  have hf1 : Fine D (sumS D.soft) 1 := ⟨hf.l, by omega, hf.data, hf.shorts⟩
  have hf2 : Fine D L2 2 := ⟨fun k => by rw [l2]; omega, by omega, hf.data, hf.shorts⟩
  have e0 : abN .eql nilP (.ptr o 0) (.lit (.pointer none)) = some (B false) := rfl
  simp [e0]
  obtain ⟨r1, H2, ⟨v1, rfl, a1, -, -, a2, a3⟩, a4⟩ := disk_Get_c hP hf 0 16 (by omega)
  rw [s1] at a1 a2 a4
  refine bC_of a4 ?_
  obtain ⟨r2, H3, ⟨v2, rfl, b1, -, -, b2, b3⟩, b4⟩ := disk_Get_c a2 hf1 8 8 (by omega)
  rw [s2] at b1 b2 b4
  simp
  refine bC_of b4 ?_
  obtain ⟨r3, H4, ⟨v3, rfl, d1, -, -, d2, d3⟩, d4⟩ := disk_Get_c b2 hf2 8 8 (by omega)
  rw [s3] at d1 d2 d4
  simp
  refine bC_of d4 ?_
  have p1 := partB_len (l := D.data) (a := 0) (b := 8) (by omega) (by omega) (by omega)
  have p2 := partB_len (l := D.data) (a := 8) (b := 16) (by omega) (by omega) (by omega)
  have q1 := alnS_spec a1
  have q2 := alnS_spec b1
  have q3 := alnS_spec d1
  simp only at q1 q2 q3
  rw [p1] at q1
  rw [p2] at q3
  simp [q1, q2, q3]
  refine bC_of (disk_Long_c d2) ?_
  simp [dl]
  refine bC_of (disk_Calls_c d2) ?_
  simp)
theorem diskRuns_p : BPure Try.prog 3 [] (B true) := .of_true diskRuns_a
end Go.Proofs.Ythgkepaadkmhoaa.Av
