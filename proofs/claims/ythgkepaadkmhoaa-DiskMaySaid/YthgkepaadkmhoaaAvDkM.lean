/- Chapter 10: New. -/
import Derived.Test.YthgkepaadkmhoaaAvDkN
set_option linter.unusedVariables false
set_option linter.unusedSimpArgs false
set_option maxRecDepth 100000
namespace Go.Proofs.Ythgkepaadkmhoaa.Av
open Go Go.RowKit
theorem sumS_app (l m : List (Int × Int)) (k : Int) : sumS (l ++ m) k = sumS l k + sumS m k := by
  induction l with
  | nil => simp [sumS]
  | cons a l ih => simp only [List.cons_append, sumS, ih]; omega
theorem sumS_bnd : ∀ {l : List (Int × Int)} (_ : ∀ s ∈ l, 0 ≤ s.1 ∧ 0 ≤ s.2 ∧ s.2 ≤ 20) (k : Int), 0 ≤ sumS l k ∧ sumS l k ≤ 20 * l.length
  | [], _, k => by simp [sumS]
  | s :: l, h, k => by
    have h1 := sumS_bnd (l := l) (fun s hs => h s (by simp [hs])) k
    have h2 := h s (by simp)
    simp only [sumS, List.length_cons]
    split <;> omega
theorem eff_may (d : Dev) : mayD (Eff d) := by
  unfold Eff
  split
  · assumption
  · exact ⟨by simp, by simp, by simp⟩
/-- What a disk is made of, told in a heap. -/
structure DevH (H : AH) (d : Dev) (a b c e : AV) : Prop where
  data : sliceCells H 1 a = some (encB d.data, d.data.length)
  bad : sliceCells H 1 b = some (d.bad.flatMap encI, d.bad.length)
  soft : sliceCells H 2 c = some (d.soft.flatMap encS, d.soft.length)
  shorts : sliceCells H 1 e = some (d.shorts.flatMap encI, d.shorts.length)
theorem DevV.dh {d : Dev} {a b c e : AV} (h : DevV d a b c e) (H : AH) : DevH H d a b c e := ⟨h.data.bytes H, h.bad.2 H, h.soft.2 H, h.shorts.2 H⟩
theorem DevH.grew {H H' : AH} {d : Dev} {a b c e : AV} (h : DevH H d a b c e) (g : Grew H H') : DevH H' d a b c e := ⟨g.slice h.data, g.slice h.bad, g.slice h.soft, g.slice h.shorts⟩
theorem one_slice {H : AH} {sz : Nat} {v : AV} {q : List AV × Nat} (h : sliceCells H sz v = some q) : oneA v = true := by
  cases v with
  | lit a => cases a <;> first | rfl | (simp [sliceCells] at h)
  | _ => first | rfl | (simp [sliceCells] at h)
theorem DevH.fz {H : AH} {d : Dev} {a b c e : AV} (h : DevH H d a b c e) : ∃ A B C E, DevV d A B C E ∧ FZ H (.agg [a, b, c, e]) (.agg [A, B, C, E]) := by
  obtain ⟨A, hA, fA⟩ := FZ.sv (enc := encU) (l := d.data) (by rw [flat_encU]; exact h.data) (by rw [flat_encU]; exact noIdss_encB _)
  obtain ⟨B, hB, fB⟩ := FZ.sv h.bad (noIdss_ints _)
  obtain ⟨C, hC, fC⟩ := FZ.sv h.soft (noIdss_softs _)
  obtain ⟨E, hE, fE⟩ := FZ.sv h.shorts (noIdss_ints _)
  exact ⟨A, B, C, E, ⟨hA, hB, hC, hE⟩, FZ.agg (FZs.cons fA (FZs.cons fB (FZs.cons fC (FZs.cons fE FZs.nil))))⟩
theorem aix_int {H : AH} {v : AV} {l : List Int} {n k : Nat} {i x : Int} (h : sliceCells H 1 v = some (l.flatMap encI, n)) (hx : l[k]? = some x) (hi : i = k) : ∃ p, aixS 1 v (I i) = some p ∧ ald false 1 H p = some (I x) := by
  have hk := (List.getElem?_eq_some_iff.1 hx).1
  have hn : n = l.length := by have h1 := sliceCells_len h; have h2 := flatMap_len encI_len l; omega
  obtain ⟨p, c, h1, h2, h3, h4⟩ := aixS_spec h hi (show k < n by omega)
  refine ⟨p, h1, ?_⟩
  rw [ald_at h2 (by omega) h4, rdCells_one]
  have := congrArg (fun l => l[0]?) h3
  simp only [flatMap_split encI_len hx, encI, List.cons_append, List.nil_append, List.take_succ_cons, List.take_zero, List.getElem?_cons_zero] at this
  rw [List.getElem?_take_of_lt (by omega)] at this
  exact this
theorem aix_soft {H : AH} {v : AV} {l : List (Int × Int)} {n k : Nat} {i : Int} {x : Int × Int} (h : sliceCells H 2 v = some (l.flatMap encS, n)) (hx : l[k]? = some x) (hi : i = k) : ∃ p, aixS 2 v (I i) = some p ∧ ald true 2 H p = some (.agg (encS x)) := by
  have hk := (List.getElem?_eq_some_iff.1 hx).1
  have hn : n = l.length := by have h1 := sliceCells_len h; have h2 := flatMap_len encS_len l; omega
  obtain ⟨p, c, h1, h2, h3, h4⟩ := aixS_spec h hi (show k < n by omega)
  refine ⟨p, h1, ?_⟩
  rw [ald_at h2 (by omega) h4, rdCells_agg (by omega), List.drop_zero, h3, flatMap_split encS_len hx, List.take_append_of_le_length (by simp [encS]), List.take_of_length_le (by simp [encS])]
def NewK (H : AH) (d : Dev) (r : AV) (H' : AH) : Prop := ∃ o n1 dv bo lo sv, r = .ptr o 0 ∧ DiskP H.length n1 H' o (Eff d) (sumS (Eff d).soft) 0 dv bo lo sv ∧ Grew H H'
theorem look_nil (z : AV) (k : Int) : look z [] k = z := rfl
theorem MapI.put {H : AH} {o : Nat} {z v : AV} {f : Int → AV} {k : Int} (h : MapI H o z f) : ∃ H', amu (.int .i64) H (.mp o) (I k) v = some H' ∧ H'.length = H.length ∧ (∀ i, i ≠ o → H'[i]? = H[i]?) ∧ MapI H' o z (fun k2 => if k2 = k then v else f k2) := by
  obtain ⟨ps, h1, h2⟩ := h
  refine ⟨_, amu_int h1, by simp, fun i hi => List.getElem?_set_ne (Ne.symm hi), putM ps k v, List.getElem?_set_self (List.getElem?_eq_some_iff.1 h1).1, fun k2 => ?_⟩
  rw [putM_look, h2]
theorem MapI.get {H : AH} {o : Nat} {zv : Value} {f : Int → AV} (h : MapI H o (.ofV zv) f) (k : Int) : alk (.int .i64) zv H (.mp o) (I k) false = some (f k) := by
  obtain ⟨ps, h1, h2⟩ := h
  rw [alk_int h1, h2]
theorem disk_New_a {d : Dev} {a b c e : AV} {H : AH} (h : DevH H d a b c e) (h1 : d.bad.length ≤ 1000000) (h2 : d.soft.length ≤ 1000000) (h3 : d.data.length ≤ 1000000) (h4 : d.shorts.length ≤ 1000000) :
    ACalls Try.prog 9 [.agg [a, b, c, e]] H (NewK H d) := disk_New_ok (by
  unfold disk_New
  have g0 := Grew.app H [some (.cells [a, b, c, e])]
  obtain ⟨A, B', C, E, hV, fV⟩ := (h.grew g0).fz
  simp [one_slice h.data, one_slice h.bad, one_slice h.soft, one_slice h.shorts, rdCells]
  refine bP_of (PCall.lend (FZs.cons fV FZs.nil) rfl (disk_May_p hV (by omega) (by omega))) ?_
  -- what follows, of a device that may be
  have main : ∀ (D : Dev) (a b c e : AV) (H1 : AH), mayD D → D = Eff d → DevH H1 D a b c e → D.bad.length ≤ 1000000 → D.soft.length ≤ 1000000 → D.data.length ≤ 1000000 → D.shorts.length ≤ 1000000 → H1.length = H.length + 1 → (∀ i, i < H.length → H1[i]? = H[i]?) → H1[H.length]? = some (some (.cells [a, b, c, e])) →
      disk_New_J1 (.ptr H.length 0) H1 (NewK H d) := by
    intro D a b c e H1 hm hD hv b1 b2 b3 b4 hlen hold hp
    rw [disk_New_J1_eq]
    unfold disk_New_J1_b
    refine new_region hp hv.data hv.shorts b3 b4 ?_
    intro H2 o dv m1 m2 sv g k1 k2 k3 k4 k5 k6 k7 k8 k9 k10 k11 k12 k13
    rw [disk_New_J3_eq]
    unfold disk_New_J3_b
    have hp2 := g.cells hp
    have hv2 := hv.grew g
    simp [hp2, alnS_spec hv2.bad]
    have hol := (List.getElem?_eq_some_iff.1 k1).1
    have hm1 := (List.getElem?_eq_some_iff.1 k6).1
    have hm2 := (List.getElem?_eq_some_iff.1 k7).1
    have hom1 : o ≠ m1 := by rintro rfl; rw [k1] at k6; simp at k6
    have hom2 : o ≠ m2 := by rintro rfl; rw [k1] at k7; simp at k7
    have nd1 : m1 ∉ idS dv := fun hi => by
      cases dv <;> simp [idS] at hi
      subst hi; simp [sliceCells, k6] at k2
    have nd2 : m2 ∉ idS dv := fun hi => by
      cases dv <;> simp [idS] at hi
      subst hi; simp [sliceCells, k7] at k2
    have ns1 : m1 ∉ idS sv := fun hi => by
      cases sv <;> simp [idS] at hi
      subst hi; simp [sliceCells, k6] at k3
    have ns2 : m2 ∉ idS sv := fun hi => by
      cases sv <;> simp [idS] at hi
      subst hi; simp [sliceCells, k7] at k3
    have kb : ∀ H3 : AH, (∀ i, i < H1.length → H3[i]? = H2[i]?) → DevH H3 D a b c e := fun H3 hs => by
      have : ∀ {sz : Nat} {v : AV} {q : List AV × Nat}, sliceCells H1 sz v = some q → sliceCells H3 sz v = some q := fun {sz v q} hh => sliceCells_keep hh fun i hi => by
        rw [hs i (sliceCells_lt hh i hi), g.2 i (sliceCells_lt hh i hi)]
      exact ⟨this hv.data, this hv.bad, this hv.soft, this hv.shorts⟩
    -- what does not change
    have stay : ∀ H3 : AH, H3.length = H2.length → (∀ i, i ≠ m1 → i ≠ m2 → H3[i]? = H2[i]?) → H3[H.length]? = some (some (.cells [a, b, c, e])) ∧ H3[o]? = some (some (.cells [dv, .mp m1, .mp m2, sv, I 0])) ∧ sliceCells H3 1 dv = some (encB D.data, D.data.length) ∧ sliceCells H3 1 sv = some (D.shorts.flatMap encI, D.shorts.length) ∧ Grew H H3 := by
      intro H3 hl hs
      refine ⟨(hs _ (by omega) (by omega)).trans hp2, (hs o hom1 hom2).trans k1, sliceCells_keep k2 fun i hi => hs i (fun h => nd1 (h ▸ hi)) (fun h => nd2 (h ▸ hi)), sliceCells_keep k3 fun i hi => hs i (fun h => ns1 (h ▸ hi)) (fun h => ns2 (h ▸ hi)), ?_, fun i hi => ?_⟩
      · have := g.1; omega
      · rw [hs i (by omega) (by omega), g.2 i (by omega), hold i hi]
    refine disk_New_L6_rule (fun n x1 x3 x23 x24 x25 H3 => ∃ k : Nat, k + n = D.bad.length ∧ x1 = .ptr H.length 0 ∧ x3 = .ptr o 0 ∧ x23 = b ∧ x24 = I D.bad.length ∧ x25 = I k ∧ H3.length = H2.length ∧ (∀ i, i ≠ m1 → i ≠ m2 → H3[i]? = H2[i]?) ∧ MapI H3 m1 (B false) (fun q => B (decide (q ∈ D.bad.take k))) ∧ MapI H3 m2 (I 0) (fun _ => I 0)) ?_ D.bad.length
      ⟨0, by omega, rfl, rfl, rfl, rfl, rfl, rfl, fun _ _ _ => rfl, ⟨[], k6, fun k => by rw [look_nil]; simp⟩, ⟨[], k7, fun k => look_nil _ _⟩⟩
    rintro n x1 x3 x23 x24 x25 H3 R hR ⟨k, hk, rfl, rfl, rfl, rfl, rfl, hl3, hs3, hb3, hf3⟩
    unfold disk_New_L6_b
    obtain ⟨t1, t2, t3, t4, t5⟩ := stay H3 hl3 hs3
    have hv3 := kb H3 fun i hi => hs3 i (by omega) (by omega)
    rcases Nat.lt_or_ge k D.bad.length with hlt | hge
    · have hx := List.getElem?_eq_getElem hlt
      generalize D.bad[k] = y at hx
      obtain ⟨H4, p1, p2, p3, p4⟩ := hb3.put (k := y) (v := B true)
      obtain ⟨qp, e1, e2⟩ := aix_int (i := k) hv3.bad hx rfl
      simp [hlt, e1, e2, t2, p1, abI_add (a := k) (b := 1) (by omega) (by omega)]
      refine hR (n - 1) _ _ _ _ _ _ (by omega) ⟨k + 1, by omega, rfl, rfl, rfl, rfl, rfl, by omega, fun i hi hi2 => by rw [p3 i hi]; exact hs3 i hi hi2, ?_, hf3.keep (p3 m2 (Ne.symm k8))⟩
      obtain ⟨ps, z1, z2⟩ := p4
      refine ⟨ps, z1, fun q => ?_⟩
      rw [z2, List.take_add_one, hx]
      by_cases c : q = y <;> simp [c]
    · have hkl : k = D.bad.length := by omega
      subst hkl
      rw [List.take_length] at hb3
      simp [t1, alnS_spec hv3.soft]
      refine disk_New_L13_rule (fun n x3 x36 x37 x38 H4 => ∃ k : Nat, k + n = D.soft.length ∧ x3 = .ptr o 0 ∧ x36 = c ∧ x37 = I D.soft.length ∧ x38 = I k ∧ H2.length ≤ H4.length ∧ (∀ i, i < H2.length → i ≠ m1 → i ≠ m2 → H4[i]? = H2[i]?) ∧ MapI H4 m1 (B false) (fun q => B (decide (q ∈ D.bad))) ∧ MapI H4 m2 (I 0) (fun q => I (sumS (D.soft.take k) q))) ?_ D.soft.length
        ⟨0, by omega, rfl, rfl, rfl, rfl, by omega, fun i _ => hs3 i, hb3, hf3⟩
      rintro n x3 x36 x37 x38 H4 R hR ⟨k, hk, rfl, rfl, rfl, rfl, hl4, hs4, hb4, hf4⟩
      unfold disk_New_L13_b
      have u2 : H4[o]? = some (some (.cells [dv, .mp m1, .mp m2, sv, I 0])) := (hs4 o hol hom1 hom2).trans k1
      rcases Nat.lt_or_ge k D.soft.length with hlt | hge
      · have hx := List.getElem?_eq_getElem hlt
        generalize D.soft[k] = y at hx
        have hy := hm.2.2 y (List.mem_of_getElem? hx)
        have hsum := sumS_bnd (l := D.soft.take k) (fun s hs => hm.2.2 s (List.mem_of_mem_take hs)) y.1
        have htl : (D.soft.take k).length ≤ D.soft.length := by rw [List.length_take]; omega
        have gA := Grew.app H4 [some (.cells (encS y))]
        have f5 : MapI (H4 ++ [some (.cells (encS y))]) m2 (.ofV (.int .i64 0)) (fun q => I (sumS (D.soft.take k) q)) := hf4.keep (gA.2 m2 (by omega))
        obtain ⟨H5, p1, p2, p3, p4⟩ := f5.put (k := y.1) (v := I (sumS (D.soft.take k) y.1 + y.2))
        have hg := f5.get y.1
        have u2' := gA.cells u2
        unfold encS at p1 hg u2'
        have hv4 := kb H4 fun i hi => hs4 i (by have := g.1; omega) (by omega) (by omega)
        obtain ⟨qp, e1, e2⟩ := aix_soft (i := k) hv4.soft hx rfl
        simp [hlt, e1, e2, encS, rdCells, ast]
        simp [u2']
        simp [hg, abI_add (a := sumS (D.soft.take k) y.1) (b := y.2) (by omega) (by omega), p1, abI_add (a := k) (b := 1) (by omega) (by omega)]
        have hlA : (H4 ++ [some (AObj.cells (encS y))]).length = H4.length + 1 := by simp
        refine hR (n - 1) _ _ _ _ _ (by omega) ⟨k + 1, by omega, rfl, rfl, rfl, rfl, by omega, fun i hi hi1 hi2 => by rw [p3 i hi2, gA.2 i (by omega)]; exact hs4 i hi hi1 hi2, (hb4.keep (gA.2 m1 (by omega))).keep (p3 m1 k8), ?_⟩
        obtain ⟨ps, z1, z2⟩ := p4
        refine ⟨ps, z1, fun q => ?_⟩
        rw [show (I 0 : AV) = AV.ofV (.int .i64 0) from rfl, z2, List.take_add_one, hx]
        simp only [sumS_app]
        by_cases cq : q = y.1
        · rw [if_pos cq, cq]; simp [sumS]
        · rw [if_neg cq]; simp [sumS, show ¬ y.1 = q by omega]
      · have hkl : k = D.soft.length := by omega
        subst hkl
        rw [List.take_length] at hf4
        simp
        have keep : ∀ i, i < H2.length → i ≠ m1 → i ≠ m2 → H4[i]? = H2[i]? := hs4
        refine ⟨o, H4.length, dv, m1, m2, sv, rfl, ?_, by omega, fun i hi => ?_⟩
        · rw [← hD]
          refine ⟨u2, sliceCells_keep k2 fun i hi => keep i (sliceCells_lt k2 i hi) (fun h => nd1 (h ▸ hi)) (fun h => nd2 (h ▸ hi)), hb4, hf4, sliceCells_keep k3 fun i hi => keep i (sliceCells_lt k3 i hi) (fun h => ns1 (h ▸ hi)) (fun h => ns2 (h ▸ hi)), k8, fun hi => (k12 o hi).2 rfl, fun hi => (k13 o hi).2 rfl,
            ⟨by omega, by omega, by omega, fun i hi => by have := (k12 i hi).1; omega, fun i hi => by have := (k13 i hi).1; omega⟩, ⟨by omega, by omega, by omega, fun i hi => by have := sliceCells_lt k2 i hi; omega, fun i hi => by have := sliceCells_lt k3 i hi; omega⟩, Nat.le_refl _, oneA_owned k4, oneA_owned k5⟩
        · rw [keep i (by have := g.1; omega) (by omega) (by omega), g.2 i (by omega), hold i hi]
  by_cases hm : mayD d
  · simp [hm]
    exact main d a b c e _ hm (by unfold Eff; rw [if_pos hm]) (h.grew g0) h1 h2 h3 h4 (by simp) (fun i hi => List.getElem?_append_left hi) (by simp)
  · simp [hm, ast]
    refine main ⟨[], [], [], []⟩ nilSl nilSl nilSl nilSl _ ⟨by simp, by simp, by simp⟩ (by unfold Eff; rw [if_neg hm]) ⟨rfl, rfl, rfl, rfl⟩ (by simp) (by simp) (by simp) (by simp) (by simp) (fun i hi => ?_) ?_
    · rw [List.getElem?_append_left hi]
    · simp)
end Go.Proofs.Ythgkepaadkmhoaa.Av
