/- Chapter 10: what a disk answers. -/
import Derived.Test.YthgkepaadkmhoaaAvDkM
set_option linter.unusedVariables false
set_option linter.unusedSimpArgs false
set_option maxRecDepth 100000
namespace Go.Proofs.Ythgkepaadkmhoaa.Av
open Go Go.RowKit
def nsec (D : Dev) : Int := ((D.data.length : Int) + 8 - 1) / 8
def leftS (D : Dev) (L : Int → Int) (k : Int) : Int := if k < 0 ∨ nsec D ≤ k ∨ k ∈ D.bad then 0 else L k
def failS (D : Dev) (L : Int → Int) (k : Int) : Prop := k ∈ D.bad ∨ 0 < L k
instance (D : Dev) (L : Int → Int) (k : Int) : Decidable (failS D L k) := by unfold failS; infer_instance
def shortS (D : Dev) (c : Int) : Int := (D.shorts[c.toNat]?).getD 0
def askS (D : Dev) (c pos n : Int) : Int := if c < D.shorts.length ∧ 0 < shortS D c then min (min n (max 0 (D.data.length - pos))) (shortS D c) else min n (max 0 (D.data.length - pos))
/-- Where an answer ends: ahead of the first sector that fails. -/
def endP (D : Dev) (L : Int → Int) (k0 e0 e : Int) : Prop := (e = e0 ∨ ∃ k, k0 ≤ k ∧ e = k * 8 ∧ k * 8 < e0 ∧ failS D L k) ∧ ∀ k, k0 ≤ k → k * 8 < e → ¬ failS D L k
theorem endP.uniq {D : Dev} {L : Int → Int} {k0 e0 a b : Int} (h : endP D L k0 e0 a) (h' : endP D L k0 e0 b) : a = b := by
  have key : ∀ {a b : Int}, endP D L k0 e0 a → endP D L k0 e0 b → ¬ a < b := by
    intro a b h h' hlt
    rcases h.1 with rfl | ⟨k, k1, rfl, k2, k3⟩
    · rcases h'.1 with rfl | ⟨k, k1, rfl, k2, k3⟩ <;> omega
    · exact h'.2 k k1 hlt k3
  have := key h h'; have := key h' h; omega
theorem end_ex (D : Dev) (L : Int → Int) : ∀ (n : Nat) (k0 e0 : Int), (e0 - k0 * 8).toNat ≤ n → ∃ e, endP D L k0 e0 e := by
  intro n
  induction n with
  | zero => intro k0 e0 h; exact ⟨e0, .inl rfl, fun k h1 h2 => by omega⟩
  | succ n ih =>
    intro k0 e0 h
    by_cases c : k0 * 8 < e0
    · by_cases hf : failS D L k0
      · exact ⟨k0 * 8, .inr ⟨k0, by omega, rfl, c, hf⟩, fun k h1 h2 => by omega⟩
      · obtain ⟨e, h1, h2⟩ := ih (k0 + 1) e0 (by omega)
        refine ⟨e, h1.imp id fun ⟨k, a, b, c, d⟩ => ⟨k, by omega, b, c, d⟩, fun k h3 h4 => ?_⟩
        by_cases hk : k = k0
        · rw [hk]; exact hf
        · exact h2 k (by omega) h4
    · exact ⟨e0, .inl rfl, fun k h1 h2 => by omega⟩
noncomputable def endS (D : Dev) (L : Int → Int) (k0 e0 : Int) : Int := Classical.choose (end_ex D L (e0 - k0 * 8).toNat k0 e0 (Nat.le_refl _))
theorem endS_spec (D : Dev) (L : Int → Int) (k0 e0 : Int) : endP D L k0 e0 (endS D L k0 e0) := Classical.choose_spec (end_ex D L (e0 - k0 * 8).toNat k0 e0 (Nat.le_refl _))
theorem endP.le {D : Dev} {L : Int → Int} {k0 e0 e : Int} (h : endP D L k0 e0 e) : e ≤ e0 ∧ (e = e0 ∨ k0 * 8 ≤ e) := by
  rcases h.1 with rfl | ⟨k, k1, rfl, k2, k3⟩
  · exact ⟨by omega, .inl rfl⟩
  · exact ⟨by omega, .inr (by omega)⟩
def partB (l : List UInt8) (a b : Int) : List UInt8 := (l.drop a.toNat).take (b - a).toNat
noncomputable def getS (D : Dev) (L : Int → Int) (c pos n : Int) : List UInt8 × Int × (Int → Int) × Int :=
  if pos < 0 ∨ n < 0 ∨ 4096 < n then ([], 5, L, c)
  else if askS D c pos n = 0 then ([], 0, L, c + 1)
  else if failS D L (pos / 8) then ([], 1, (if pos / 8 ∈ D.bad then L else fun k => if k = pos / 8 then L (pos / 8) - 1 else L k), c + 1)
  else (partB D.data pos (endS D L (pos / 8 + 1) (pos + askS D c pos n)), 0, L, c + 1)
/-- Numbers are not too great. -/
structure Fine (D : Dev) (L : Int → Int) (c : Int) : Prop where
  l : ∀ k, -1000000000000 ≤ L k ∧ L k ≤ 1000000000000
  c : 0 ≤ c ∧ c ≤ 1000000000000
  data : D.data.length ≤ 1000000
  shorts : D.shorts.length ≤ 1000000
section
variable {n0 n1 : Nat} {H : AH} {o : Nat} {D : Dev} {L : Int → Int} {c : Int} {dv sv : AV} {bo lo : Nat}
theorem DiskP.getB (h : DiskP n0 n1 H o D L c dv bo lo sv) (k : Int) : alk (.int .i64) (.bool false) H (.mp bo) (I k) false = some (B (decide (k ∈ D.bad))) := MapI.get (zv := .bool false) h.bad k
theorem DiskP.getL (h : DiskP n0 n1 H o D L c dv bo lo sv) (k : Int) : alk (.int .i64) (.int .i64 0) H (.mp lo) (I k) false = some (I (L k)) := MapI.get (zv := .int .i64 0) h.left k
theorem disk_sectors_c (h : DiskP n0 n1 H o D L c dv bo lo sv) (hf : Fine D L c) : BCall Try.prog 25 [.ptr o 0] H (I (nsec D)) H := by
  have hd := hf.data
  obtain ⟨r, H', ⟨rfl, rfl⟩, hc⟩ := disk_Disk_sectors_ok (K := fun r H' => r = I (nsec D) ∧ H' = H) (a0 := .ptr o 0) (H := H) (by
    unfold disk_Disk_sectors
    simp [h.obj, alnS_spec h.data, abI_add (a := D.data.length) (b := 8) (by omega) (by omega), abI_sub (a := (D.data.length : Int) + 8) (b := 1) (by omega) (by omega), abI_quo (a := (D.data.length : Int) + 8 - 1) (b := 8) (by omega) (by omega) (by omega)]
    rfl)
  exact hc
theorem disk_Long_c (h : DiskP n0 n1 H o D L c dv bo lo sv) : BCall Try.prog 11 [.ptr o 0] H (I D.data.length) H := by
  obtain ⟨r, H', ⟨rfl, rfl⟩, hc⟩ := disk_Disk_Long_ok (K := fun r H' => r = I D.data.length ∧ H' = H) (a0 := .ptr o 0) (H := H) (by
    unfold disk_Disk_Long
    simp [h.obj, alnS_spec h.data])
  exact hc
theorem disk_Calls_c (h : DiskP n0 n1 H o D L c dv bo lo sv) : BCall Try.prog 12 [.ptr o 0] H (I c) H := by
  obtain ⟨r, H', ⟨rfl, rfl⟩, hc⟩ := disk_Disk_Calls_ok (K := fun r H' => r = I c ∧ H' = H) (a0 := .ptr o 0) (H := H) (by
    unfold disk_Disk_Calls
    simp [h.obj])
  exact hc
theorem disk_Left_c (h : DiskP n0 n1 H o D L c dv bo lo sv) (hf : Fine D L c) (k : Int) : BCall Try.prog 15 [.ptr o 0, I k] H (I (leftS D L k)) H := by
  obtain ⟨r, H', ⟨rfl, rfl⟩, hc⟩ := disk_Disk_Left_ok (K := fun r H' => r = I (leftS D L k) ∧ H' = H) (a0 := .ptr o 0) (a1 := I k) (H := H) (by
    unfold disk_Disk_Left
    by_cases h1 : k < 0
    · simp [h1, leftS]
    · simp [h1]
      refine bC_of (disk_sectors_c h hf) ?_
      by_cases h2 : nsec D ≤ k
      · simp [h2, leftS]
      · simp [h2, h.obj, h.getB]
        by_cases h3 : k ∈ D.bad
        · simp [h3, leftS]
        · simp [h3, h.obj, h.getL, leftS, h1, h2])
  exact hc
theorem disk_fails_c (h : DiskP n0 n1 H o D L c dv bo lo sv) (k : Int) : BCall Try.prog 24 [.ptr o 0, I k] H (B (decide (failS D L k))) H := by
  obtain ⟨r, H', ⟨rfl, rfl⟩, hc⟩ := disk_Disk_fails_ok (K := fun r H' => r = B (decide (failS D L k)) ∧ H' = H) (a0 := .ptr o 0) (a1 := I k) (H := H) (by
    unfold disk_Disk_fails
    by_cases h3 : k ∈ D.bad
    · simp [h.obj, h.getB, h3, failS]
    · simp [h.obj, h.getB, h3, h.getL, failS])
  exact hc
theorem disk_asked_c (h : DiskP n0 n1 H o D L c dv bo lo sv) (hf : Fine D L c) (pos n : Int) (hp : 0 ≤ pos) (hp2 : pos ≤ 9223372036854775807) : BCall Try.prog 23 [.ptr o 0, I pos, I n] H (I (askS D c pos n)) H := by
  have hd := hf.data
  have hc0 := hf.c
  obtain ⟨r, H', ⟨rfl, rfl⟩, hc⟩ := disk_Disk_asked_ok (K := fun r H' => r = I (askS D c pos n) ∧ H' = H) (a0 := .ptr o 0) (a1 := I pos) (a2 := I n) (H := H) (by
    unfold disk_Disk_asked
    have hm : min (max (D.data.length - pos) 0) n = min n (max 0 (D.data.length - pos)) := by omega
    simp [h.obj, alnS_spec h.data, abI_sub (a := (D.data.length : Int)) (b := pos) (by omega) (by omega), hm, alnS_spec h.shorts]
    have fin : ∀ x, x = askS D c pos n → disk_Disk_asked_J2 (I x) H fun r H' => r = I (askS D c pos n) ∧ H' = H := by
      rintro x rfl
      rw [disk_Disk_asked_J2_eq]
      unfold disk_Disk_asked_J2_b
      exact ⟨rfl, rfl⟩
    by_cases h1 : c < D.shorts.length
    · have hx := List.getElem?_eq_getElem (l := D.shorts) (i := c.toNat) (by omega)
      generalize D.shorts[c.toNat]'(by omega) = y at hx
      have hy : shortS D c = y := by unfold shortS; rw [hx]; rfl
      obtain ⟨p, e1, e2⟩ := aix_int h.shorts hx (i := c) (by omega)
      by_cases h2 : 0 < y
      · simp [h1, e1, e2, h2, h.obj]
        exact fin _ (by unfold askS; rw [if_pos ⟨h1, by rw [hy]; exact h2⟩, hy]; omega)
      · simp [h1, e1, e2, h2, h.obj]
        exact fin _ (by unfold askS; rw [if_neg (fun h => h2 (by rw [← hy]; exact h.2))])
    · simp [h1]
      exact fin _ (by unfold askS; rw [if_neg (fun h => h1 h.1)]))
  exact hc
end
/-- What a Get leaves. -/
def GetK (n0 n1 : Nat) (H : AH) (o : Nat) (D : Dev) (dv : AV) (bo lo : Nat) (sv : AV) (res : List UInt8 × Int × (Int → Int) × Int) (r : AV) (H' : AH) : Prop :=
  ∃ v, r = .tup [v, I res.2.1] ∧ sliceCells H' 1 v = some (encB res.1, res.1.length) ∧ ownedS v = true ∧ (∀ i ∈ idS v, H.length ≤ i) ∧ DiskP n0 n1 H' o D res.2.2.1 res.2.2.2 dv bo lo sv ∧ Keep n0 n1 H H'
theorem ask_bnd {D : Dev} {c pos n : Int} (hn : 0 ≤ n) : 0 ≤ askS D c pos n ∧ askS D c pos n ≤ n ∧ (0 < askS D c pos n → pos + askS D c pos n ≤ D.data.length) := by
  unfold askS
  split
  · rename_i h
    have := h.2
    refine ⟨by omega, by omega, fun h => by omega⟩
  · refine ⟨by omega, by omega, fun h => by omega⟩
theorem DiskP.set {n0 n1 : Nat} {H : AH} {o : Nat} {D : Dev} {L : Int → Int} {c c' : Int} {dv sv : AV} {bo lo : Nat} (h : DiskP n0 n1 H o D L c dv bo lo sv) : DiskP n0 n1 (H.set o (some (.cells [dv, .mp bo, .mp lo, sv, I c']))) o D L c' dv bo lo sv ∧ Keep n0 n1 H (H.set o (some (.cells [dv, .mp bo, .mp lo, sv, I c']))) := by
  have hol := (List.getElem?_eq_some_iff.1 h.obj).1
  have hb : bo ≠ o := by
    rintro rfl
    obtain ⟨ps, h1, -⟩ := h.bad
    rw [h.obj] at h1; simp at h1
  have hl : lo ≠ o := by
    rintro rfl
    obtain ⟨ps, h1, -⟩ := h.left
    rw [h.obj] at h1; simp at h1
  refine ⟨⟨List.getElem?_set_self hol, sliceCells_keep h.data fun i hi => List.getElem?_set_ne (fun (e : o = i) => h.od (e ▸ hi)), h.bad.keep (List.getElem?_set_ne (Ne.symm hb)), h.left.keep (List.getElem?_set_ne (Ne.symm hl)), sliceCells_keep h.shorts fun i hi => List.getElem?_set_ne (fun (e : o = i) => h.os (e ▸ hi)), h.ne, h.od, h.os, h.low, h.high, by simpa using h.top, h.one⟩,
    by simp, fun i hi hn => List.getElem?_set_ne (by have := h.low.1; have := h.high.1; omega)⟩
theorem disk_Get_c {n0 n1 : Nat} {H : AH} {o : Nat} {D : Dev} {L : Int → Int} {c : Int} {dv sv : AV} {bo lo : Nat} (h : DiskP n0 n1 H o D L c dv bo lo sv) (hf : Fine D L c) (pos n : Int) (hp : pos ≤ 9223372036854775807) :
    ∃ r H', GetK n0 n1 H o D dv bo lo sv (getS D L c pos n) r H' ∧ BCall Try.prog 10 [.ptr o 0, I pos, I n] H r H' := disk_Disk_Get_ok (by
  unfold disk_Disk_Get
  have hd := hf.data
  have hc0 := hf.c
  have empty : ∀ (x : Int) L' c' H', DiskP n0 n1 H' o D L' c' dv bo lo sv → Keep n0 n1 H H' → getS D L c pos n = ([], x, L', c') → GetK n0 n1 H o D dv bo lo sv (getS D L c pos n) (.tup [nilSl, I x]) H' := by
    intro x L' c' H' h1 h2 h3
    rw [h3]
    exact ⟨nilSl, rfl, rfl, rfl, by simp [idS], h1, h2⟩
  by_cases h1 : pos < 0
  · simp [h1]
    exact empty 5 L c H h ⟨Nat.le_refl _, fun _ _ _ => rfl⟩ (if_pos (.inl h1))
  · by_cases h2 : n < 0
    · simp [h1, h2]
      exact empty 5 L c H h ⟨Nat.le_refl _, fun _ _ _ => rfl⟩ (if_pos (.inr (.inl h2)))
    · by_cases h3 : 4096 < n
      · simp [h1, h2, h3]
        exact empty 5 L c H h ⟨Nat.le_refl _, fun _ _ _ => rfl⟩ (if_pos (.inr (.inr h3)))
      · have hg : getS D L c pos n = _ := if_neg (fun hh => by omega)
        simp [h1, h2, h3]
        refine bC_of (disk_asked_c h hf pos n (by omega) hp) ?_
        obtain ⟨b1, b2, b3⟩ := ask_bnd (D := D) (c := c) (pos := pos) (n := n) (by omega)
        simp [h.obj, abI_add (a := c) (b := 1) (by omega) (by omega)]
        rw [ast_ptr (n := 1) (off := 4) (xs := [I (c + 1)]) rfl h.obj rfl (by simp)]
        simp
        obtain ⟨h', kp⟩ := h.set (c' := c + 1)
        generalize (H.set o (some (.cells [dv, .mp bo, .mp lo, sv, I (c + 1)]))) = H1 at h' kp
        generalize hm : askS D c pos n = m at *
        by_cases h4 : m = 0
        · rw [if_pos h4] at hg
          simp [h4]
          exact empty 0 L (c + 1) H1 h' kp hg
        · rw [if_neg h4] at hg
          have hpm := b3 (by omega)
          simp [h4, abI_quo (a := pos) (b := 8) (by omega) (by omega) (by omega)]
          refine bC_of (disk_fails_c h' (pos / 8)) ?_
          by_cases h5 : failS D L (pos / 8)
          · rw [if_pos h5] at hg
            simp [h5, h'.obj, h'.getB]
            by_cases h6 : pos / 8 ∈ D.bad
            · rw [if_pos h6] at hg
              simp [h6]
              rw [disk_Disk_Get_J12_eq]
              unfold disk_Disk_Get_J12_b
              exact empty 1 L (c + 1) H1 h' kp hg
            · rw [if_neg h6] at hg
              have hL := hf.l (pos / 8)
              obtain ⟨H2, p1, p2, p3, p4⟩ := h'.left.put (k := pos / 8) (v := I (L (pos / 8) - 1))
              simp [h6, h'.obj, h'.getL, abI_sub (a := L (pos / 8)) (b := 1) (by omega) (by omega), p1]
              rw [disk_Disk_Get_J12_eq]
              unfold disk_Disk_Get_J12_b
              have hlo : lo ≠ o := by
                rintro rfl
                obtain ⟨ps, h1, -⟩ := h'.left
                rw [h'.obj] at h1; simp at h1
              have nd : lo ∉ idS dv := fun hi => by
                obtain ⟨ps, z1, -⟩ := h'.left
                have z2 := h'.data
                cases dv <;> simp [idS] at hi
                subst hi; simp [sliceCells, z1] at z2
              have ns : lo ∉ idS sv := fun hi => by
                obtain ⟨ps, z1, -⟩ := h'.left
                have z2 := h'.shorts
                cases sv <;> simp [idS] at hi
                subst hi; simp [sliceCells, z1] at z2
              have kp2 : Keep n0 n1 H1 H2 := ⟨by omega, fun i hi hn => p3 i (by have := h'.low; have := h'.high; omega)⟩
              refine empty 1 _ (c + 1) H2 ⟨(p3 o (Ne.symm hlo)).trans h'.obj, sliceCells_keep h'.data fun i hi => p3 i (fun e => nd (e ▸ hi)), h'.bad.keep (p3 bo h'.ne), ?_, sliceCells_keep h'.shorts fun i hi => p3 i (fun e => ns (e ▸ hi)), h'.ne, h'.od, h'.os, h'.low, h'.high, by have := h'.top; omega, h'.one⟩ (kp.trans kp2) hg
              obtain ⟨ps, z1, z2⟩ := p4
              refine ⟨ps, z1, fun k => ?_⟩
              rw [z2]
              by_cases hk : k = pos / 8 <;> simp [hk]
          · rw [if_neg h5] at hg
            simp [h5, abI_add (a := pos) (b := m) (by omega) (by omega), abI_add (a := pos / 8) (b := 1) (by omega) (by omega)]
            refine disk_Disk_Get_L18_rule (fun q x0 x1 x9 x10 H' => ∃ (k e : Int), q = (pos + m - k * 8).toNat ∧ x0 = .ptr o 0 ∧ x1 = I pos ∧ x9 = I e ∧ x10 = I k ∧ H' = H1 ∧ pos / 8 + 1 ≤ k ∧ (e = pos + m ∨ ∃ k2, pos / 8 + 1 ≤ k2 ∧ k2 < k ∧ e = k2 * 8 ∧ k2 * 8 < pos + m ∧ failS D L k2) ∧ (∀ k2, pos / 8 + 1 ≤ k2 → k2 < k → k2 * 8 < e → ¬ failS D L k2) ∧ k * 8 ≤ pos + m + 8) ?_ (pos + m - (pos / 8 + 1) * 8).toNat
              ⟨pos / 8 + 1, pos + m, rfl, rfl, rfl, rfl, rfl, rfl, by omega, .inl rfl, fun k2 _ _ => by omega, by omega⟩
            rintro q x0 x1 x9 x10 H' R hR ⟨k, e, rfl, rfl, rfl, rfl, rfl, rfl, k1, k2, k3, k4⟩
            unfold disk_Disk_Get_L18_b
            have hle : e ≤ pos + m := by rcases k2 with rfl | ⟨a, _, _, rfl, _, _⟩ <;> omega
            simp [abI_mul (a := k) (b := 8) (by omega) (by omega)]
            by_cases c1 : k * 8 < e
            · simp [c1]
              refine bC_of (disk_fails_c h' k) ?_
              by_cases c2 : failS D L k
              · simp [c2, abI_mul (a := k) (b := 8) (by omega) (by omega)]
                rw [disk_Disk_Get_J21_eq]
                unfold disk_Disk_Get_J21_b
                simp [abI_add (a := k) (b := 1) (by omega) (by omega)]
                refine hR _ _ _ _ _ _ (by omega) ⟨k + 1, k * 8, rfl, rfl, rfl, rfl, rfl, rfl, by omega, .inr ⟨k, k1, by omega, rfl, by omega, c2⟩, fun k2 h1 h2 h3 => k3 k2 h1 (by omega) (by omega), by omega⟩
              · simp [c2]
                rw [disk_Disk_Get_J21_eq]
                unfold disk_Disk_Get_J21_b
                simp [abI_add (a := k) (b := 1) (by omega) (by omega)]
                refine hR _ _ _ _ _ _ (by omega) ⟨k + 1, e, rfl, rfl, rfl, rfl, rfl, rfl, by omega, k2.imp id fun ⟨a, b, cc, d⟩ => ⟨a, b, by omega, d⟩, fun k2 h1 h2 h3 => ?_, by omega⟩
                by_cases h : k2 = k
                · rw [h]; exact c2
                · exact k3 k2 h1 (by omega) h3
            · have hend : endP D L (pos / 8 + 1) (pos + m) e := ⟨k2.imp id fun ⟨a, b, cc, d⟩ => ⟨a, b, d⟩, fun k2 h1 h2 => k3 k2 h1 (by omega) h2⟩
              have he := hend.uniq (endS_spec D L (pos / 8 + 1) (pos + m))
              have hel := hend.le
              rw [← he] at hg
              have hge : pos ≤ e := by omega
              obtain ⟨r10, s1, s2, -, -, -⟩ := aslS_spec h'.data (lo := some (I pos)) (hi := some (I e)) (l := pos.toNat) (k := e.toNat) (by simp [abnd]; omega) (by simp [abnd]; omega) (by omega) (by omega)
              simp [c1, h'.obj, s1]
              obtain ⟨r, H2, ⟨q1, q2, q3, q4⟩, q5⟩ := cloneB_c s2 (by omega)
              refine bC_of q5 ?_
              rw [hg]
              have hl : (partB D.data pos e).length = e.toNat - pos.toNat := by unfold partB; rw [List.length_take, List.length_drop]; omega
              refine ⟨r, rfl, ?_, q1, fun i hi => Nat.le_trans kp.1 (q4 i hi), h'.keep (Keep.of (a := n1) (b := n1) q3) (.inl (Nat.le_refl _)), kp.trans (Keep.of q3)⟩
              rw [q2, hl]
              simp only [partB, encB_drop, encB_take, Nat.mul_one]
              rw [show (e - pos).toNat = e.toNat - pos.toNat by omega])
end Go.Proofs.Ythgkepaadkmhoaa.Av
