/- Chapter 10: the document's own disk. -/
import Derived.Test.YthgkepaadkmhoaaAvDkG
set_option linter.unusedVariables false
set_option linter.unusedSimpArgs false
set_option maxRecDepth 100000
namespace Go.Proofs.Ythgkepaadkmhoaa.Av
open Go Go.RowKit
/-- The document's disk, in objects n0 to n1; gone: how often each sector has failed. -/
structure RefP (n0 n1 : Nat) (H : AH) (o : Nat) (D : Dev) (gone : List Int) (c : Int) (a b s e gv : AV) : Prop where
  obj : H[o]? = some (some (.cells [a, b, s, e, gv, I c]))
  dev : DevV D a b s e
  gone : sliceCells H 1 gv = some (gone.flatMap encI, gone.length)
  own : ownedS gv = true
  og : o ∉ idS gv
  low : n0 ≤ o ∧ ∀ i ∈ idS gv, n0 ≤ i
  high : o < n1 ∧ ∀ i ∈ idS gv, i < n1
  top : n1 ≤ H.length
theorem RefP.keep {a b c e : Nat} {H H' : AH} {o : Nat} {D : Dev} {g : List Int} {cc : Int} {x1 x2 x3 x4 gv : AV} (h : RefP a b H o D g cc x1 x2 x3 x4 gv) (k : Keep c e H H') (hd : b ≤ c ∨ e ≤ a) : RefP a b H' o D g cc x1 x2 x3 x4 gv := by
  have hin : ∀ i, a ≤ i → i < b → H'[i]? = H[i]? := fun i h1 h2 => k.2 i (by have := h.top; omega) (by omega)
  exact ⟨(hin o h.low.1 h.high.1).trans h.obj, h.dev, sliceCells_keep h.gone fun i hi => hin i (h.low.2 i hi) (h.high.2 i hi), h.own, h.og, h.low, h.high, Nat.le_trans h.top k.1⟩
theorem zrow_ints (m : Nat) : zrow [(.lit (.int .i64 0))] m = (List.replicate m (0 : Int)).flatMap encI := by
  unfold zrow
  induction m with
  | zero => rfl
  | succ m ih => rw [List.replicate_succ, List.replicate_succ, List.flatten_cons, List.flatMap_cons, ih]; rfl
def RNewK (H : AH) (d : Dev) (r : AV) (H' : AH) : Prop := ∃ o n1 a b s e gv, r = .ptr o 0 ∧ RefP H.length n1 H' o (Eff d) (List.replicate (nsec (Eff d)).toNat 0) 0 a b s e gv ∧ Grew H H'
theorem ref_NewDisk_c {d : Dev} {a b c e : AV} (h : DevV d a b c e) (h1 : d.bad.length ≤ 1000000) (h2 : d.soft.length ≤ 1000000) (h3 : d.data.length ≤ 1000000) (H : AH) :
    ∃ r H', RNewK H d r H' ∧ BCall Try.prog 14 [.agg [a, b, c, e]] H r H' := salvorref6_NewDisk_ok (by
  unfold salvorref6_NewDisk
  simp [oneA_sv h.data, oneA_sv h.bad, oneA_sv h.soft, oneA_sv h.shorts, rdCells]
  refine bP_pure (ref_MayDevice_p h (by omega) (by omega)) ?_
  have main : ∀ (D : Dev) (a b c e : AV) (H1 : AH), D = Eff d → DevV D a b c e → D.data.length ≤ 1000000 → H1.length = H.length + 1 → (∀ i, i < H.length → H1[i]? = H[i]?) → H1[H.length]? = some (some (.cells [a, b, c, e])) → salvorref6_NewDisk_J1 (.ptr H.length 0) H1 (RNewK H d) := by
    intro D a b c e H1 hD hv b3 hlen hold hp
    rw [salvorref6_NewDisk_J1_eq]
    unfold salvorref6_NewDisk_J1_b
    have hn : nsec D = ((nsec D).toNat : Int) := by unfold nsec; omega
    have hnb : nsec D ≤ 1000000 := by unfold nsec; omega
    have hn0 : 0 ≤ nsec D := by unfold nsec; omega
    have e1 : ((D.data.length : Int) + 8 - 1) / 8 = nsec D := rfl
    have hp' : (H1 ++ [some (AObj.cells (zrow [(.lit (.int .i64 0))] (nsec D).toNat))])[H.length]? = some (some (.cells [a, b, c, e])) := by
      rw [List.getElem?_append_left (by omega)]; exact hp
    have g0 := Grew.app H1 [some (AObj.cells (zrow [(.lit (.int .i64 0))] (nsec D).toNat))]
    simp [hp, rdCells, hv.data.len, abI_add (a := D.data.length) (b := 8) (by omega) (by omega), abI_sub (a := (D.data.length : Int) + 8) (b := 1) (by omega) (by omega), abI_quo (a := (D.data.length : Int) + 8 - 1) (b := 8) (by omega) (by omega) (by omega), e1, amk, hn0, show 8 * nsec D ≤ 281474976710656 by omega, show nsec D ≤ 9223372036854775807 by omega, oneA_sv hv.data, oneA_sv hv.bad, oneA_sv hv.soft, oneA_sv hv.shorts]
    rw [List.getElem?_append_left (by omega), hp]
    simp
    refine ⟨H.length + 2, H.length + 3, a, b, c, e, .sl (H.length + 1) 0 (nsec D).toNat 1 (.ex (nsec D).toNat), by rw [hlen], ?_, by simp; omega, fun i hi => ?_⟩
    · rw [← hD]
      refine ⟨?_, hv, ?_, rfl, by simp [idS], ⟨by omega, by simp [idS]⟩, ⟨by omega, by simp [idS]⟩, by simp; omega⟩
      · rw [List.getElem?_append_right (by omega)]; simp [hlen]
      · rw [← zrow_ints]
        have hzl := zrow_length [(AV.lit (.int .i64 0))] (nsec D).toNat
        simp only [List.length_cons, List.length_nil] at hzl
        rw [sliceCells_sl (c := zrow [(.lit (.int .i64 0))] (nsec D).toNat) (by rw [List.getElem?_append_right (by omega)]; simp [hlen]) (by rw [hzl]; omega)]
        rw [List.drop_zero, List.take_of_length_le (by rw [hzl]; omega), List.length_replicate]
    · rw [List.getElem?_append_left (by omega)]; exact hold i hi
  by_cases hm : mayD d
  · simp [hm]
    exact main d a b c e _ (by unfold Eff; rw [if_pos hm]) h h3 (by simp) (fun i hi => List.getElem?_append_left hi) (by simp)
  · simp [hm, ast]
    refine main ⟨[], [], [], []⟩ nilSl nilSl nilSl nilSl _ (by unfold Eff; rw [if_neg hm]) ⟨SV.nil, SV.nil, SV.nil, SV.nil⟩ (by simp) (by simp) (fun i hi => ?_) ?_
    · rw [List.getElem?_append_left hi]
    · simp)
section
variable {n0 n1 : Nat} {H : AH} {o : Nat} {D : Dev} {gone : List Int} {c : Int} {a b s e gv : AV}
theorem ref_Bad_c (h : RefP n0 n1 H o D gone c a b s e gv) (hl : D.bad.length ≤ 1000000) (k : Int) : BCall Try.prog 26 [.ptr o 0, I k] H (B (decide (k ∈ D.bad))) H := by
  obtain ⟨r, H', ⟨rfl, rfl⟩, hc⟩ := salvorref6_Disk_Bad_ok (K := fun r H' => r = B (decide (k ∈ D.bad)) ∧ H' = H) (a0 := .ptr o 0) (a1 := I k) (H := H) (by
    unfold salvorref6_Disk_Bad
    refine salvorref6_Disk_Bad_L3_rule (fun n x0 x1 x5 H' => ∃ j : Nat, j + n = D.bad.length ∧ x0 = .ptr o 0 ∧ x1 = I k ∧ x5 = I j ∧ H' = H ∧ ∀ (m : Nat) y, m < j → D.bad[m]? = some y → y ≠ k) ?_ D.bad.length ⟨0, by omega, rfl, rfl, rfl, rfl, by simp⟩
    rintro n x0 x1 x5 H' R hR ⟨j, hj, rfl, rfl, rfl, rfl, hm⟩
    unfold salvorref6_Disk_Bad_L3_b
    rcases Nat.lt_or_ge j D.bad.length with hlt | hge
    · have hx := List.getElem?_eq_getElem hlt
      generalize D.bad[j] = y at hx
      by_cases c1 : y = k
      · have : k ∈ D.bad := c1 ▸ List.mem_of_getElem? hx
        simp [h.obj, h.dev.bad.len, hlt, h.dev.bad.idx encI_len hx rfl, encI, c1, this]
      · simp [h.obj, h.dev.bad.len, hlt, h.dev.bad.idx encI_len hx rfl, encI, c1, abI_add (a := j) (b := 1) (by omega) (by omega)]
        refine hR (n - 1) _ _ _ _ (by omega) ⟨j + 1, by omega, rfl, rfl, rfl, rfl, fun m z hmj hz => ?_⟩
        by_cases hh : m = j
        · subst hh; rw [hx] at hz; injection hz with hz; subst hz; exact c1
        · exact hm m z (by omega) hz
    · have : ¬ k ∈ D.bad := fun hk => by
        obtain ⟨m, hm2⟩ := List.mem_iff_getElem?.1 hk
        exact hm m k (by have := (List.getElem?_eq_some_iff.1 hm2).1; omega) hm2 rfl
      simp [h.obj, h.dev.bad.len, show ¬ j < D.bad.length by omega, this])
  exact hc
/-- How often a sector still fails. -/
def remS (D : Dev) (gone : List Int) (k : Int) : Int := sumS D.soft k - if k < 0 then 0 else (gone[k.toNat]?).getD 0
structure RFine (D : Dev) (gone : List Int) : Prop where
  may : mayD D
  bad : D.bad.length ≤ 1000000
  soft : D.soft.length ≤ 1000000
  shorts : D.shorts.length ≤ 1000000
  len : (gone.length : Int) = nsec D
  g : ∀ x ∈ gone, 0 ≤ x ∧ x ≤ 1000000000
theorem ref_Left_c (h : RefP n0 n1 H o D gone c a b s e gv) (hf : RFine D gone) (k : Int) : BCall Try.prog 16 [.ptr o 0, I k] H (I (leftS D (remS D gone) k)) H := by
  have hfb := hf.bad
  have hfs := hf.soft
  obtain ⟨r, H', ⟨rfl, rfl⟩, hc⟩ := salvorref6_Disk_Left_ok (K := fun r H' => r = I (leftS D (remS D gone) k) ∧ H' = H) (a0 := .ptr o 0) (a1 := I k) (H := H) (by
    unfold salvorref6_Disk_Left
    by_cases h1 : k < 0
    · simp [h1, leftS]
    · by_cases h2 : (gone.length : Int) ≤ k
      · have : leftS D (remS D gone) k = 0 := if_pos (.inr (.inl (by rw [← hf.len]; exact h2)))
        simp [h1, h.obj, alnS_spec h.gone, h2, this]
      · simp [h1, h.obj, alnS_spec h.gone, h2]
        refine bC_of (ref_Bad_c h hfb k) ?_
        by_cases h3 : k ∈ D.bad
        · simp [h3, leftS]
        · simp [h3]
          have hL : leftS D (remS D gone) k = remS D gone k := if_neg (fun hh => by
            rcases hh with hh | hh | hh
            · omega
            · rw [← hf.len] at hh; omega
            · exact h3 hh)
          refine salvorref6_Disk_Left_L7_rule (fun n x0 x1 x5 x6 H' => ∃ j : Nat, j + n = D.soft.length ∧ x0 = .ptr o 0 ∧ x1 = I k ∧ x5 = I (sumS (D.soft.take j) k) ∧ x6 = I j ∧ H' = H) ?_ D.soft.length ⟨0, by omega, rfl, rfl, rfl, rfl, rfl⟩
          rintro n x0 x1 x5 x6 H' R hR ⟨j, hj, rfl, rfl, rfl, rfl, rfl⟩
          unfold salvorref6_Disk_Left_L7_b
          have hsum := sumS_bnd (l := D.soft.take j) (fun s hs => hf.may.2.2 s (List.mem_of_mem_take hs)) k
          have htl : (D.soft.take j).length ≤ D.soft.length := by rw [List.length_take]; omega
          rcases Nat.lt_or_ge j D.soft.length with hlt | hge
          · have hx := List.getElem?_eq_getElem hlt
            generalize D.soft[j] = y at hx
            have hy := hf.may.2.2 y (List.mem_of_getElem? hx)
            have hst : sumS (D.soft.take (j + 1)) k = sumS (D.soft.take j) k + if y.1 = k then y.2 else 0 := by
              rw [List.take_add_one, hx, sumS_app]; simp [sumS]
            have nxt : ∀ q, q = sumS (D.soft.take (j + 1)) k → salvorref6_Disk_Left_J10 R (.ptr o 0) (I k) (I q) (I j) H' (fun r H2 => r = I (leftS D (remS D gone) k) ∧ H2 = H') := by
              rintro q rfl
              rw [salvorref6_Disk_Left_J10_eq]
              unfold salvorref6_Disk_Left_J10_b
              simp [abI_add (a := j) (b := 1) (by omega) (by omega)]
              exact hR (n - 1) _ _ _ _ _ (by omega) ⟨j + 1, by omega, rfl, rfl, rfl, rfl, rfl⟩
            by_cases c1 : y.1 = k
            · rw [if_pos c1] at hst
              simp [h.obj, h.dev.soft.len, hlt, h.dev.soft.idx encS_len hx rfl, encS, c1, abI_add (a := sumS (D.soft.take j) k) (b := y.2) (by omega) (by omega)]
              exact nxt _ hst.symm
            · rw [if_neg c1] at hst
              simp [h.obj, h.dev.soft.len, hlt, h.dev.soft.idx encS_len hx rfl, encS, c1]
              exact nxt _ (by rw [hst]; omega)
          · have : j = D.soft.length := by omega
            subst this
            rw [List.take_length] at hsum ⊢
            have hx := List.getElem?_eq_getElem (l := gone) (i := k.toNat) (by omega)
            have hgx := hf.g _ (List.getElem_mem (l := gone) (n := k.toNat) (by omega))
            generalize gone[k.toNat]'(by omega) = y at hx hgx
            obtain ⟨p, e1, e2⟩ := aix_int h.gone hx (i := k) (by omega)
            simp [h.obj, h.dev.soft.len, e1, e2, abI_sub (a := sumS D.soft k) (b := y) (by omega) (by omega)]
            rw [hL]; unfold remS; rw [hx, if_neg h1]; rfl)
  exact hc
theorem ref_fail {D : Dev} {gone : List Int} {k : Int} (h0 : 0 ≤ k) (h1 : k < nsec D) : (k ∈ D.bad ∨ 0 < leftS D (remS D gone) k) ↔ failS D (remS D gone) k := by
  unfold failS leftS
  by_cases h3 : k ∈ D.bad
  · simp [h3]
  · rw [if_neg (fun hh => by rcases hh with hh | hh | hh; omega; omega; exact h3 hh)]
def RGetK (n0 n1 : Nat) (H : AH) (o : Nat) (D : Dev) (gone : List Int) (a b s e gv : AV) (res : List UInt8 × Int × (Int → Int) × Int) (r : AV) (H' : AH) : Prop :=
  ∃ v gone', r = .tup [v, I res.2.1] ∧ sliceCells H' 1 v = some (encB res.1, res.1.length) ∧ RefP n0 n1 H' o D gone' res.2.2.2 a b s e gv ∧ remS D gone' = res.2.2.1 ∧ (gone'.length : Int) = nsec D ∧ (∀ T : Int, (∀ x ∈ gone, 0 ≤ x ∧ x ≤ T) → ∀ x ∈ gone', 0 ≤ x ∧ x ≤ T + 1) ∧ Keep n0 n1 H H'
theorem RefP.set (h : RefP n0 n1 H o D gone c a b s e gv) {c' : Int} : RefP n0 n1 (H.set o (some (.cells [a, b, s, e, gv, I c']))) o D gone c' a b s e gv ∧ Keep n0 n1 H (H.set o (some (.cells [a, b, s, e, gv, I c']))) := by
  have hol := (List.getElem?_eq_some_iff.1 h.obj).1
  refine ⟨⟨List.getElem?_set_self hol, h.dev, sliceCells_keep h.gone fun i hi => List.getElem?_set_ne (fun (e : o = i) => h.og (e ▸ hi)), h.own, h.og, h.low, h.high, by simpa using h.top⟩,
    by simp, fun i hi hn => List.getElem?_set_ne (by have := h.low.1; have := h.high.1; omega)⟩
end
section
variable {n0 n1 : Nat} {H : AH} {o : Nat} {D : Dev} {gone : List Int} {c : Int} {a b s e gv : AV}
/-- A number is written into a slice of one's own. -/
theorem sl_int {H : AH} {w : AV} {l : List Int} {n i : Nat} {q x : Int} (hw : sliceCells H 1 w = some (l.flatMap encI, n)) (ho : ownedS w = true) (hi : i < l.length) (hq : q = i) :
    ∃ p H', aixS 1 w (I q) = some p ∧ ast 1 H p (I x) = some H' ∧ H'.length = H.length ∧ (∀ j, j ∉ idS w → H'[j]? = H[j]?) ∧ sliceCells H' 1 w = some ((l.set i x).flatMap encI, n) := by
  have hn : n = l.length := by have h1 := sliceCells_len hw; have h2 := flatMap_len encI_len l; omega
  obtain ⟨p, H', h1, h2, h3, h4, h5⟩ := ast_cell (x := I x) hw ho hq (by omega) rfl
  refine ⟨p, H', h1, h2, h4, h5, ?_⟩
  rw [h3]
  congr 2
  have : ∀ (l : List Int) (i : Nat), (l.flatMap encI).set i (I x) = (l.set i x).flatMap encI := by
    intro l
    induction l with
    | nil => intro i; rfl
    | cons y l ih => intro i; cases i with
      | zero => rfl
      | succ i => rw [List.flatMap_cons, List.set_cons_succ, List.flatMap_cons, ← ih i]; rfl
  exact this l i
theorem ref_Get_c (h : RefP n0 n1 H o D gone c a b s e gv) (hf : RFine D gone) (hc0 : 0 ≤ c ∧ c ≤ 1000000000000) (pos n : Int) (hp : pos ≤ 9223372036854775807) :
    ∃ r H', RGetK n0 n1 H o D gone a b s e gv (getS D (remS D gone) c pos n) r H' ∧ BCall Try.prog 19 [.ptr o 0, I pos, I n] H r H' := salvorref6_Disk_Get_ok (by
  unfold salvorref6_Disk_Get
  have hd := hf.may.1
  have hsh := hf.shorts
  have hfb := hf.bad
  have gb : ∀ T : Int, (∀ x ∈ gone, 0 ≤ x ∧ x ≤ T) → ∀ x ∈ gone, 0 ≤ x ∧ x ≤ T + 1 := fun T h x hx => ⟨(h x hx).1, by have := (h x hx).2; omega⟩
  have empty : ∀ (x : Int) c' H', RefP n0 n1 H' o D gone c' a b s e gv → Keep n0 n1 H H' → getS D (remS D gone) c pos n = ([], x, remS D gone, c') → RGetK n0 n1 H o D gone a b s e gv (getS D (remS D gone) c pos n) (.tup [nilSl, I x]) H' := by
    intro x c' H' h1 h2 h3
    rw [h3]
    exact ⟨nilSl, gone, rfl, rfl, h1, rfl, hf.len, gb, h2⟩
  by_cases h1 : pos < 0
  · simp [h1]
    exact empty 5 c H h ⟨Nat.le_refl _, fun _ _ _ => rfl⟩ (if_pos (.inl h1))
  · by_cases h2 : n < 0
    · simp [h1, h2]
      exact empty 5 c H h ⟨Nat.le_refl _, fun _ _ _ => rfl⟩ (if_pos (.inr (.inl h2)))
    · by_cases h3 : 4096 < n
      · simp [h1, h2, h3]
        exact empty 5 c H h ⟨Nat.le_refl _, fun _ _ _ => rfl⟩ (if_pos (.inr (.inr h3)))
      · have hg : getS D (remS D gone) c pos n = _ := if_neg (fun hh => by omega)
        obtain ⟨b1, b2, b3⟩ := ask_bnd (D := D) (c := c) (pos := pos) (n := n) (by omega)
        simp [h1, h2, h3, h.obj, abI_add (a := c) (b := 1) (by omega) (by omega)]
        rw [ast_ptr (n := 1) (off := 5) (xs := [I (c + 1)]) rfl h.obj rfl (by simp)]
        simp
        obtain ⟨h', kp⟩ := h.set (c' := c + 1)
        generalize (H.set o (some (.cells [a, b, s, e, gv, I (c + 1)]))) = H1 at h' kp
        have j7 : ∀ m, m = askS D c pos n → salvorref6_Disk_Get_J7 (.ptr o 0) (I pos) (I m) H1 (RGetK n0 n1 H o D gone a b s e gv (getS D (remS D gone) c pos n)) := by
          rintro m rfl
          generalize hm : askS D c pos n = m at *
          rw [salvorref6_Disk_Get_J7_eq]
          unfold salvorref6_Disk_Get_J7_b
          simp
          rw [salvorref6_Disk_Get_J10_eq]
          unfold salvorref6_Disk_Get_J10_b
          by_cases h4 : m = 0
          · rw [if_pos h4] at hg
            simp [h4]
            exact empty 0 (c + 1) H1 h' kp hg
          · rw [if_neg h4] at hg
            have hpm := b3 (by omega)
            have hns : nsec D = ((D.data.length : Int) + 8 - 1) / 8 := rfl
            simp [h4]
            rw [salvorref6_Disk_Get_J9_eq]
            unfold salvorref6_Disk_Get_J9_b
            simp [abI_quo (a := pos) (b := 8) (by omega) (by omega) (by omega)]
            rw [salvorref6_Disk_Get_J12_eq]
            unfold salvorref6_Disk_Get_J12_b
            refine bC_of (ref_Bad_c h' hfb (pos / 8)) ?_
            rw [salvorref6_Disk_Get_J14_eq]
            unfold salvorref6_Disk_Get_J14_b
            have hff := ref_fail (D := D) (gone := gone) (k := pos / 8) (by omega) (by omega)
            by_cases h6 : pos / 8 ∈ D.bad
            · rw [if_pos (.inl h6), if_pos h6] at hg
              simp [h6]
              exact empty 1 (c + 1) H1 h' kp hg
            · simp [h6]
              rw [salvorref6_Disk_Get_J13_eq]
              unfold salvorref6_Disk_Get_J13_b
              refine bC_of (ref_Left_c h' hf (pos / 8)) ?_
              simp
              rw [salvorref6_Disk_Get_J17_eq]
              unfold salvorref6_Disk_Get_J17_b
              by_cases h7 : 0 < leftS D (remS D gone) (pos / 8)
              · rw [if_pos (hff.1 (.inr h7)), if_neg h6] at hg
                have hx := List.getElem?_eq_getElem (l := gone) (i := (pos / 8).toNat) (by have := hf.len; omega)
                have hgx := hf.g _ (List.getElem_mem (l := gone) (n := (pos / 8).toNat) (by have := hf.len; omega))
                generalize gone[(pos / 8).toNat]'(by have := hf.len; omega) = y at hx hgx
                obtain ⟨p1, e1, e2⟩ := aix_int h'.gone hx (i := pos / 8) (by omega)
                obtain ⟨p2, H2, f1, f2, f3, f4, f5⟩ := sl_int (x := y + 1) h'.gone h'.own (i := (pos / 8).toNat) (q := pos / 8) (List.getElem?_eq_some_iff.1 hx).1 (by omega)
                rw [e1] at f1
                injection f1 with f1
                subst f1
                simp [h7, h'.obj, e1, e2, abI_add (a := y) (b := 1) (by omega) (by omega), f2]
                rw [salvorref6_Disk_Get_J18_eq]
                unfold salvorref6_Disk_Get_J18_b
                rw [hg]
                have hkp : Keep n0 n1 H1 H2 := ⟨by omega, fun i hi hn => f4 i (fun hm => hn ⟨h'.low.2 i hm, h'.high.2 i hm⟩)⟩
                have hgl : (gone.set (pos / 8).toNat (y + 1)).length = gone.length := List.length_set
                have hmem : ∀ x ∈ gone.set (pos / 8).toNat (y + 1), x ∈ gone ∨ x = y + 1 := fun x hx => List.mem_or_eq_of_mem_set hx
                refine ⟨nilSl, gone.set (pos / 8).toNat (y + 1), rfl, rfl, ⟨(f4 o h'.og).trans h'.obj, h'.dev, by rw [f5, hgl], h'.own, h'.og, h'.low, h'.high, by have := h'.top; omega⟩, ?_, by rw [hgl]; exact hf.len, fun T hT x hx2 => ?_, kp.trans hkp⟩
                · funext k
                  unfold remS
                  simp only
                  by_cases k0 : k < 0
                  · rw [if_pos k0, if_neg (by omega), if_pos k0]
                  · rw [if_neg k0, List.getElem?_set]
                    by_cases k1 : k = pos / 8
                    · subst k1
                      rw [if_pos rfl, if_pos rfl, if_pos (List.getElem?_eq_some_iff.1 hx).1, if_neg k0, hx]
                      simp; omega
                    · rw [if_neg (by omega), if_neg k1, if_neg k0]
                · have hym := List.mem_of_getElem? hx
                  have hyT := hT y hym
                  rcases hmem x hx2 with hx2 | rfl
                  · have := hT x hx2; omega
                  · omega
              · have h5 : ¬ failS D (remS D gone) (pos / 8) := fun hh => (hff.2 hh).elim h6 h7
                rw [if_neg h5] at hg
                simp [h7]
                rw [salvorref6_Disk_Get_J16_eq]
                unfold salvorref6_Disk_Get_J16_b
                simp [abI_add (a := pos / 8) (b := 1) (by omega) (by omega)]
                rw [salvorref6_Disk_Get_J21_eq]
                unfold salvorref6_Disk_Get_J21_b
                refine salvorref6_Disk_Get_L22_rule (fun q x0 x1 x9 x11 H' => ∃ (k e : Int), q = (pos + m - k * 8).toNat ∧ x0 = .ptr o 0 ∧ x1 = I pos ∧ x9 = I (e - pos) ∧ x11 = I k ∧ H' = H1 ∧ pos / 8 + 1 ≤ k ∧ (e = pos + m ∨ ∃ k2, pos / 8 + 1 ≤ k2 ∧ k2 < k ∧ e = k2 * 8 ∧ k2 * 8 < pos + m ∧ failS D (remS D gone) k2) ∧ (∀ k2, pos / 8 + 1 ≤ k2 → k2 < k → k2 * 8 < e → ¬ failS D (remS D gone) k2) ∧ k * 8 ≤ pos + m + 8) ?_ (pos + m - (pos / 8 + 1) * 8).toNat
                  ⟨pos / 8 + 1, pos + m, rfl, rfl, rfl, by rw [show pos + m - pos = m by omega], rfl, rfl, by omega, .inl rfl, fun k2 _ _ => by omega, by omega⟩
                rintro q x0 x1 x9 x11 H' R hR ⟨k, ee, rfl, rfl, rfl, rfl, rfl, rfl, k1, k2, k3, k4⟩
                unfold salvorref6_Disk_Get_L22_b
                have hle : ee ≤ pos + m := by rcases k2 with rfl | ⟨a, _, _, rfl, _, _⟩ <;> omega
                have hge0 : pos ≤ ee := by rcases k2 with rfl | ⟨a, _, _, rfl, _, _⟩ <;> omega
                simp [abI_mul (a := k) (b := 8) (by omega) (by omega), abI_add (a := pos) (b := ee - pos) (by omega) (by omega), show pos + (ee - pos) = ee by omega]
                by_cases c1 : k * 8 < ee
                · have hfk := ref_fail (D := D) (gone := gone) (k := k) (by omega) (by omega)
                  have nxt : ∀ q', q' = ee ∧ ¬ failS D (remS D gone) k ∨ q' = k * 8 ∧ failS D (remS D gone) k → salvorref6_Disk_Get_J25 R (.ptr o 0) (I pos) (I (q' - pos)) (I k) H' (RGetK n0 n1 H o D gone a b s e gv (getS D (remS D gone) c pos n)) := by
                    intro q' hq
                    rw [salvorref6_Disk_Get_J25_eq]
                    unfold salvorref6_Disk_Get_J25_b
                    simp [abI_add (a := k) (b := 1) (by omega) (by omega)]
                    rcases hq with ⟨rfl, c2⟩ | ⟨rfl, c2⟩
                    · refine hR _ _ _ _ _ _ (by omega) ⟨k + 1, q', rfl, rfl, rfl, rfl, rfl, rfl, by omega, k2.imp id fun ⟨a, b, cc, d⟩ => ⟨a, b, by omega, d⟩, fun k2 h1 h2 h3 => ?_, by omega⟩
                      by_cases hk : k2 = k
                      · rw [hk]; exact c2
                      · exact k3 k2 h1 (by omega) h3
                    · exact hR _ _ _ _ _ _ (by omega) ⟨k + 1, k * 8, rfl, rfl, rfl, rfl, rfl, rfl, by omega, .inr ⟨k, k1, by omega, rfl, by omega, c2⟩, fun k2 h1 h2 h3 => k3 k2 h1 (by omega) (by omega), by omega⟩
                  simp [c1]
                  refine bC_of (ref_Bad_c h' hfb k) ?_
                  by_cases d1 : k ∈ D.bad
                  · simp [d1, abI_mul (a := k) (b := 8) (by omega) (by omega), abI_sub (a := k * 8) (b := pos) (by omega) (by omega)]
                    exact nxt (k * 8) (.inr ⟨rfl, .inl d1⟩)
                  · simp [d1]
                    refine bC_of (ref_Left_c h' hf k) ?_
                    by_cases d2 : 0 < leftS D (remS D gone) k
                    · simp [d2, abI_mul (a := k) (b := 8) (by omega) (by omega), abI_sub (a := k * 8) (b := pos) (by omega) (by omega)]
                      exact nxt (k * 8) (.inr ⟨rfl, hfk.1 (.inr d2)⟩)
                    · simp [d2]
                      exact nxt ee (.inl ⟨rfl, fun hh => (hfk.2 hh).elim d1 d2⟩)
                · have hend : endP D (remS D gone) (pos / 8 + 1) (pos + m) ee := ⟨k2.imp id fun ⟨a, b, cc, d⟩ => ⟨a, b, d⟩, fun k2 h1 h2 => k3 k2 h1 (by omega) h2⟩
                  have he := hend.uniq (endS_spec D (remS D gone) (pos / 8 + 1) (pos + m))
                  rw [← he] at hg
                  obtain ⟨r10, s1, s2, -, -, -⟩ := aslS_spec (h'.dev.data.bytes H') (lo := some (I pos)) (hi := some (I ee)) (l := pos.toNat) (k := ee.toNat) (by simp [abnd]; omega) (by simp [abnd]; omega) (by omega) (by omega)
                  obtain ⟨r, H2, q1, q2, q3, q4, q5, q6⟩ := aap_spec (sz := 1) (bytes := 1) (H := H') (v := nilSl) (cs := []) (n := 0) rfl rfl (appended_slice s2) (by omega)
                  have g2 : Grew H' H2 := ⟨q4, fun i hi => q5 i hi (by simp [idS])⟩
                  simp [c1, h'.obj, abI_add (a := pos) (b := ee - pos) (by omega) (by omega), show pos + (ee - pos) = ee by omega, s1, q1]
                  rw [hg]
                  have hl : (partB D.data pos ee).length = ee.toNat - pos.toNat := by unfold partB; rw [List.length_take, List.length_drop]; omega
                  refine ⟨r, gone, rfl, ?_, h'.keep (Keep.of (a := n1) (b := n1) g2) (.inl (Nat.le_refl _)), rfl, hf.len, gb, kp.trans (Keep.of g2)⟩
                  rw [q3, hl]
                  simp only [partB, encB_drop, encB_take, Nat.mul_one, List.nil_append, Nat.zero_add]
                  rw [show (ee - pos).toNat = ee.toNat - pos.toNat by omega]
        have hmm : min (max 0 ((D.data.length : Int) - pos)) n = min n (max 0 (D.data.length - pos)) := by omega
        simp [h'.obj, h'.dev.data.len, abI_sub (a := (D.data.length : Int)) (b := pos) (by omega) (by omega), hmm, h'.dev.shorts.len]
        by_cases d1 : c < D.shorts.length
        · have hx := List.getElem?_eq_getElem (l := D.shorts) (i := c.toNat) (by omega)
          generalize D.shorts[c.toNat]'(by omega) = y at hx
          have hy : shortS D c = y := by unfold shortS; rw [hx]; rfl
          obtain ⟨p, e1, e2⟩ := aix_int (h'.dev.shorts.2 H1) hx (i := c) (by omega)
          by_cases d2 : 0 < y
          · simp [d1, e1, e2, d2, h'.obj]
            exact j7 _ (by unfold askS; rw [if_pos ⟨d1, by rw [hy]; exact d2⟩, hy]; omega)
          · simp [d1, e1, e2, d2, h'.obj]
            exact j7 _ (by unfold askS; rw [if_neg (fun h => d2 (by rw [← hy]; exact h.2))])
        · simp [d1]
          exact j7 _ (by unfold askS; rw [if_neg (fun h => d1 h.1)]))
end
end Go.Proofs.Ythgkepaadkmhoaa.Av
