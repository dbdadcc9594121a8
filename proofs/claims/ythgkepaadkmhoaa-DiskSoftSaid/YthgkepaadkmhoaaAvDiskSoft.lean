/- The law DiskSoft: a sector that fails for a while fails so many times, and then no more. No condition. -/
import Derived.Test.YthgkepaadkmhoaaAvDkS
import Derived.Test.YthgkepaadkmhoaaLDiskSoft
set_option linter.unusedVariables false
set_option linter.unusedSimpArgs false
set_option maxRecDepth 100000
namespace Go.Proofs.Ythgkepaadkmhoaa.Av
open Go Go.RowKit
theorem diskSoft_calls (x0 : UInt8) (h0 : diskSoft_r0.ok x0) (x1 : UInt8) (h1 : diskSoft_r1.ok x1) (x2 : UInt8) (h2 : diskSoft_r2.ok x2) :
    ACalls Try.prog 8 (diskSoft_r0.enc x0 ++ diskSoft_r1.enc x1 ++ diskSoft_r2.enc x2) [] fun r _ => r = .lit (.bool true) := by
  show ACalls Try.prog 8 [.lit (.int .u8 x0.toNat), .lit (.int .u8 x1.toNat), .lit (.int .u8 x2.toNat)] [] _
  have hu0 := x0.toNat_lt
  have hu1 := x1.toNat_lt
  have hu2 := x2.toNat_lt
  generalize x0.toNat = t at hu0
  generalize x1.toNat = sec at hu1
  generalize x2.toNat = more at hu2
  refine salvorlaw10_DiskSoft_ok ?_
  unfold salvorlaw10_DiskSoft
  simp [abI_rem (k := .u8) (a := (sec : Int)) (b := 10) (by omega) (by omega), abI_rem (k := .u8) (a := (t : Int)) (b := 21) (by omega) (by omega), acI_i64 (k' := .u8) (a := (sec : Int) % 10) (by omega) (by omega), acI_i64 (k' := .u8) (a := (t : Int) % 21) (by omega) (by omega), amk, -zrow]
  have hk0 : 0 ≤ (sec : Int) % 10 := by omega
  have hk1 : (sec : Int) % 10 < 10 := by omega
  have hn0 : 0 ≤ (t : Int) % 21 := by omega
  have hn1 : (t : Int) % 21 ≤ 20 := by omega
  generalize (sec : Int) % 10 = k at hk0 hk1
  generalize (t : Int) % 21 = n at hn0 hn1
  simp [zrow]
  refine ⟨_, disk_New_a (d := ⟨List.replicate 80 0, [], [(k, n), (90, 3)], []⟩) ⟨zslice (o := 0) rfl, rfl, rfl, rfl⟩ (by simp) (by simp) (by simp) (by simp), ?_⟩
  rintro r H1 ⟨o, n1, dv, bo, lo, sv, rfl, hP, g⟩
  have hm : mayD ⟨List.replicate 80 0, [], [(k, n), (90, 3)], []⟩ := ⟨by simp, by simp, by simp; omega⟩
  have he : Eff ⟨List.replicate 80 0, [], [(k, n), (90, 3)], []⟩ = ⟨List.replicate 80 0, [], [(k, n), (90, 3)], []⟩ := if_pos hm
  rw [he] at hP
  generalize hD : (⟨List.replicate 80 0, [], [(k, n), (90, 3)], []⟩ : Dev) = D at hP hm
  have dl : D.data.length = 80 := by rw [← hD]; simp
  have db : D.bad = [] := by rw [← hD]
  have dsh : D.shorts = [] := by rw [← hD]
  have ds : ∀ q, sumS D.soft q = if q = k then n else if q = 90 then 3 else 0 := fun q => by
    rw [← hD]; simp only [sumS]
    by_cases c1 : q = k
    · subst c1; simp [show ¬ (90 : Int) = q by omega]
    · by_cases c2 : q = 90
      · subst c2; simp [show ¬ k = 90 by omega, show ¬ (90 : Int) = k by omega]
      · simp [c1, c2, show ¬ k = q by omega, show ¬ (90 : Int) = q by omega]
  have nsc : nsec D = 10 := by unfold nsec; rw [dl]; rfl
  have ask : ∀ c pos m, askS D c pos m = min m (max 0 (80 - pos)) := fun c pos m => by
    have h0 : ¬ (c < D.shorts.length ∧ 0 < shortS D c) := fun h => by
      have : shortS D c = 0 := by unfold shortS; rw [dsh]; rfl
      omega
    unfold askS
    rw [if_neg h0, dl]; omega
  have fl : ∀ (L : Int → Int) q, failS D L q ↔ 0 < L q := fun L q => by unfold failS; rw [db]; simp
  have lf : ∀ (L : Int → Int), leftS D L k = L k ∧ leftS D L 90 = 0 := fun L => by
    refine ⟨if_neg ?_, if_pos ?_⟩
    · rw [nsc, db]; simp; omega
    · rw [nsc]; omega
  have e0 : abN .eql nilP (.ptr o 0) (.lit (.pointer none)) = some (B false) := rfl
  simp [e0]
  refine salvorlaw10_DiskSoft_L8_rule (fun q y2 y7 y8 y9 y10 H => ∃ (i : Nat) (L : Int → Int) (n0 : Nat), (i : Int) + q = n ∧ y2 = .lit (.int .u8 more) ∧ y7 = I k ∧ y8 = I n ∧ y9 = .ptr o 0 ∧ y10 = I i ∧ DiskP n0 n1 H o D L i dv bo lo sv ∧ ∀ q, L q = if q = k then n - i else if q = 90 then 3 else 0) ?_ n.toNat
    ⟨0, sumS D.soft, _, by omega, rfl, rfl, rfl, rfl, rfl, hP, fun q => by rw [ds]; simp⟩
  rintro q y2 y7 y8 y9 y10 H R hR ⟨i, L, n0, hi, rfl, rfl, rfl, rfl, rfl, hQ, hL⟩
  unfold salvorlaw10_DiskSoft_L8_b
  have hf : Fine D L i := ⟨fun q => by rw [hL]; split; omega; split <;> omega, by omega, by omega, by rw [dsh]; simp⟩
  by_cases hlt : (i : Int) < n
  · have hp8 : (8 * k + (i : Int) % 8) / 8 = k := by omega
    have hs : getS D L i (8 * k + (i : Int) % 8) 5 = ([], 1, (fun q => if q = k then L k - 1 else L q), (i : Int) + 1) := by
      unfold getS
      rw [if_neg (by omega), ask, if_neg (by omega), hp8, if_pos (by rw [fl, hL, if_pos rfl]; omega), if_neg (by rw [db]; simp)]
    simp [hlt, abI_mul (a := 8) (b := k) (by omega) (by omega), abI_rem (a := (i : Int)) (b := 8) (by omega) (by omega), abI_add (a := 8 * k) (b := (i : Int) % 8) (by omega) (by omega)]
    obtain ⟨r, H2, ⟨w, rfl, a1, -, -, a2, a3⟩, a4⟩ := disk_Get_c hQ hf (8 * k + (i : Int) % 8) 5 (by omega)
    rw [hs] at a1 a2 a4
    refine bC_of a4 ?_
    have q1 := alnS_spec a1
    simp only [List.length_nil] at q1
    simp only at a2
    generalize hL2 : (fun q => if q = k then L k - 1 else L q) = L2 at a2
    have l2 : ∀ q, L2 q = if q = k then n - ((i + 1 : Nat) : Int) else if q = 90 then 3 else 0 := fun q => by
      rw [← hL2]; simp only [hL]
      by_cases c : q = k
      · rw [if_pos c, if_pos c]; simp; omega
      · simp [c]
    have a2' : DiskP n0 n1 H2 o D L2 ((i + 1 : Nat) : Int) dv bo lo sv := a2
    have hf2 : Fine D L2 ((i + 1 : Nat) : Int) := ⟨fun q => by rw [l2]; split; omega; split <;> omega, by omega, by omega, by rw [dsh]; simp⟩
    simp [q1]
    refine bC_of (disk_Left_c a2' hf2 k) ?_
    rw [(lf L2).1, l2, if_pos rfl]
    simp [abI_sub (a := n) (b := 1) (by omega) (by omega), abI_sub (a := n - 1) (b := i) (by omega) (by omega), abI_add (a := i) (b := 1) (by omega) (by omega), show n - ((i : Int) + 1) = n - 1 - i by omega]
    exact hR (q - 1) _ _ _ _ _ _ (by omega) ⟨i + 1, L2, n0, by omega, rfl, rfl, rfl, rfl, rfl, a2', l2⟩
  · have hin : (i : Int) = n := by omega
    simp [hlt]
    refine salvorlaw10_DiskSoft_L17_rule (fun q y2 y7 y9 y13 H => ∃ (j : Nat), (j : Int) + q = (more : Int) % 20 + 1 ∧ y2 = .lit (.int .u8 more) ∧ y7 = I k ∧ y9 = .ptr o 0 ∧ y13 = I j ∧ DiskP n0 n1 H o D L ((i : Int) + j) dv bo lo sv) ?_ ((more : Int) % 20 + 1).toNat ⟨0, by omega, rfl, rfl, rfl, rfl, by simpa using hQ⟩
    rintro q y2 y7 y9 y13 H R hR ⟨j, hj, rfl, rfl, rfl, rfl, hQ⟩
    unfold salvorlaw10_DiskSoft_L17_b
    have hf : Fine D L ((i : Int) + j) := ⟨fun q => by rw [hL]; split; omega; split <;> omega, by omega, by omega, by rw [dsh]; simp⟩
    simp [abI_rem (k := .u8) (a := (more : Int)) (b := 20) (by omega) (by omega), acI_i64 (k' := .u8) (a := (more : Int) % 20) (by omega) (by omega), abI_add (a := (more : Int) % 20) (b := 1) (by omega) (by omega)]
    by_cases hlt2 : (j : Int) < (more : Int) % 20 + 1
    · have hs : getS D L ((i : Int) + j) (8 * k) 8 = (partB D.data (8 * k) (8 * k + 8), 0, L, (i : Int) + j + 1) := getS_ok (m := 8) (by omega) (by omega) (by omega) (by rw [ask]; omega) (by omega) (by rw [fl, hL, if_pos (by omega)]; omega) ⟨.inl rfl, fun q h1 h2 => by omega⟩
      simp [hlt2, abI_mul (a := 8) (b := k) (by omega) (by omega)]
      obtain ⟨r, H2, ⟨w, rfl, a1, -, -, a2, a3⟩, a4⟩ := disk_Get_c hQ hf (8 * k) 8 (by omega)
      rw [hs] at a1 a2 a4
      refine bC_of a4 ?_
      have p1 := partB_len (l := D.data) (a := 8 * k) (b := 8 * k + 8) (by omega) (by omega) (by omega)
      have q1 := alnS_spec a1
      simp only at q1
      rw [p1] at q1
      simp [q1, show 8 * k + 8 - 8 * k = 8 by omega, abI_add (a := j) (b := 1) (by omega) (by omega)]
      exact hR (q - 1) _ _ _ _ _ (by omega) ⟨j + 1, by omega, rfl, rfl, rfl, rfl, by rw [show (i : Int) + ((j + 1 : Nat) : Int) = (i : Int) + j + 1 by omega]; exact a2⟩
    · simp [hlt2]
      refine bC_of (disk_Left_c hQ hf k) ?_
      rw [(lf L).1, hL, if_pos rfl]
      simp [show n - (i : Int) = 0 by omega]
      refine bC_of (disk_Left_c hQ hf 90) ?_
      rw [(lf L).2]
      simp
      first | refine bP_of (diskRuns_p) ?_ | refine bP_pure (diskRuns_p) ?_
      simp
end Go.Proofs.Ythgkepaadkmhoaa.Av
namespace Go.Proofs.Ythgkepaadkmhoaa
theorem diskSoft_holds : Rows.DiskSoftSaid := diskSoft_of Av.diskSoft_calls
#print axioms diskSoft_holds
end Go.Proofs.Ythgkepaadkmhoaa
