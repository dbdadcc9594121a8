/- Chapter 11: a content of one's own; a block that is needed. -/
import Derived.Test.YtflodknflaallaaAvExtI
import Derived.Test.YtflodknflaallaaAvExtW
import Derived.Test.YtflodknflaallaaAvN2
set_option linter.unusedVariables false
set_option linter.unusedSimpArgs false
set_option maxRecDepth 100000
namespace Go.Proofs.Ytflodknflaallaa.Av
open Go Go.RowKit

theorem oneA_owned {v : AV} (h : ownedS v = true) : oneA v = true := by
  unfold ownedS at h
  split at h
  · rfl
  · rfl
  · rfl
  · cases h
theorem flat_take {α : Type} {enc : α → List AV} {sz : Nat} (hsz : ∀ x, (enc x).length = sz) : ∀ (l : List α) (i : Nat), (l.flatMap enc).take (i * sz) = (l.take i).flatMap enc
  | [], i => by simp
  | a :: l, 0 => by simp
  | a :: l, i + 1 => by
    have ha := hsz a
    rw [List.take_succ_cons, List.flatMap_cons, List.flatMap_cons, ← flat_take hsz l i, show (i + 1) * sz = (enc a).length + i * sz by rw [ha, Nat.succ_mul]; omega, List.take_length_add_append]
theorem flat_drop {α : Type} {enc : α → List AV} {sz : Nat} (hsz : ∀ x, (enc x).length = sz) : ∀ (l : List α) (i : Nat), (l.flatMap enc).drop (i * sz) = (l.drop i).flatMap enc
  | [], i => by simp
  | a :: l, 0 => by simp
  | a :: l, i + 1 => by
    have ha := hsz a
    rw [List.drop_succ_cons, List.flatMap_cons, ← flat_drop hsz l i, show (i + 1) * sz = (enc a).length + i * sz by rw [ha, Nat.succ_mul]; omega, List.drop_length_add_append]
/-- What was there is as it was. -/
def Grew (H H' : AH) : Prop := H.length ≤ H'.length ∧ ∀ i, i < H.length → H'[i]? = H[i]?
theorem Grew.refl (H : AH) : Grew H H := ⟨Nat.le_refl _, fun _ _ => rfl⟩
theorem Grew.trans {A B C : AH} (h : Grew A B) (k : Grew B C) : Grew A C := ⟨Nat.le_trans h.1 k.1, fun i hi => (k.2 i (Nat.lt_of_lt_of_le hi h.1)).trans (h.2 i hi)⟩
theorem Grew.app (H X : AH) : Grew H (H ++ X) := ⟨by simp, fun i hi => List.getElem?_append_left hi⟩
theorem Grew.cells {H H' : AH} (h : Grew H H') {o : Nat} {x : Option AObj} (ho : H[o]? = some x) : H'[o]? = some x := by
  rw [h.2 o (List.getElem?_eq_some_iff.1 ho).1]; exact ho
theorem Grew.slice {H H' : AH} (h : Grew H H') {sz : Nat} {v : AV} {q : List AV × Nat} (hv : sliceCells H sz v = some q) : sliceCells H' sz v = some q :=
  sliceCells_keep hv fun i hi => h.2 i (sliceCells_lt hv i hi)
theorem nilS_slice {H : AH} {sz : Nat} {v : AV} {cs : List AV} {n : Nat} (h : sliceCells H sz v = some (cs, n)) : (v = nilSl ∧ cs = [] ∧ n = 0) ∨ abN .eql nilS v nilSl = some (B false) := by
  unfold sliceCells at h
  split at h
  · exact .inr rfl
  · exact .inr rfl
  · injection h with h; injection h with h1 h2; exact .inl ⟨rfl, h1.symm, h2.symm⟩
  · exact .inr rfl
  · cases h
theorem ext_Clone_c {H : AH} {v : AV} {cs : List AV} {n : Nat} (h : sliceCells H 9 v = some (cs, n)) (hn : n ≤ 1000000000) :
    ∃ r H', (ownedS r = true ∧ sliceCells H' 9 r = some (cs, n) ∧ Grew H H' ∧ ∀ i ∈ idS r, H.length ≤ i) ∧ BCall Try.prog 51 [v] H r H' := slices_Clone_Lapi_Ext_api_Ext_ok (by
  unfold slices_Clone_Lapi_Ext_api_Ext
  rcases nilS_slice h with ⟨rfl, rfl, rfl⟩ | hb
  · have e : abN .eql nilS nilSl nilSl = some (B true) := rfl
    simp only [e, bO_some, bB_bool, bI_true]
    exact ⟨rfl, h, Grew.refl H, by simp [idS]⟩
  · simp only [hb, bO_some, bB_bool, bI_false]
    have e : absl H 9 0 (zrow [(.lit (.int .i64 0)), (.lit (.int .u8 0)), (.lit (.int .u8 0)), (.lit (.int .u8 0)), (.lit (.int .u8 0)), (.lit (.int .u8 0)), (.lit (.int .u8 0)), (.lit (.int .u8 0)), (.lit (.int .u8 0))] 0) [] = some (.sl H.length 0 0 9 (.ex 0), H ++ [some (.cells [])]) := rfl
    simp only [e, bH_some]
    have g := Grew.app H [some (.cells [])]
    obtain ⟨r, H2, a1, a2, a3, a4, a5, a6⟩ := aap_spec (sz := 9) (bytes := 16) (H := H ++ [some (.cells [])]) (v := .sl H.length 0 0 9 (.ex 0)) (cs := []) (n := 0) (by simp [sliceCells]) rfl (appended_slice (g.slice h)) (by omega)
    simp only [a1, bH_some]
    refine ⟨a2, by simpa using a3, ⟨by simp at a4; omega, fun i hi => ?_⟩, fun i hi => ?_⟩
    · rw [a5 i (by simp; omega) (by simp [idS]; omega)]
      exact g.2 i hi
    · rcases a6 i hi with h | h
      · simp [idS] at h; omega
      · simp at h; omega)
theorem copied_c {H : AH} {size : Int} {v : AV} {cs : List AV} {n : Nat} (h : sliceCells H 9 v = some (cs, n)) (h1 : oneA v = true) (hn : n ≤ 1000000000) :
    ∃ r H', (∃ w, r = .agg [I size, w] ∧ ownedS w = true ∧ sliceCells H' 9 w = some (cs, n) ∧ Grew H H' ∧ ∀ i ∈ idS w, H.length ≤ i) ∧ BCall Try.prog 33 [.agg [I size, v]] H r H' := extent_copied_ok (by
  unfold extent_copied
  have g := Grew.app H [some (.cells [I size, v]), some (.cells [I 0, nilSl])]
  obtain ⟨w, H2, ⟨a2, a3, a4, a5⟩, a1⟩ := ext_Clone_c (g.slice h) hn
  have c0 := a4.cells (o := H.length) (x := some (.cells [I size, v])) (by simp)
  have c1 := a4.cells (o := H.length + 1) (x := some (.cells [I 0, nilSl])) (by rw [List.getElem?_append_right (by omega)]; simp)
  have l2 : H.length + 2 ≤ H2.length := by have := a4.1; simpa using this
  have hw := oneA_owned a2
  simp [h1]
  refine bC_of a1 ?_
  simp [cellsA_one hw]
  rw [ast_ptr (n := 2) (off := 0) (x := .agg [I size, w]) (xs := [I size, w]) (cs := [I 0, nilSl]) (by simp [hw]) c1 rfl (by simp)]
  simp [show H.length + 1 < H2.length by omega, c0, rdCells]
  refine ⟨a2, sliceCells_keep a3 fun i hi => List.getElem?_set_ne ?_, ?_, fun i hi => ?_⟩
  · have := a5 i hi; simp at this; omega
  · refine ⟨by simp; omega, fun i hi => ?_⟩
    rw [List.getElem?_set_ne (by omega), a4.2 i (by simp; omega), g.2 i hi]
  · have := a5 i hi; simp at this; omega)
theorem insE_ok {H : AH} {s : AV} {cs : List AV} {n ov i : Nat} {x : Ext} (hs : sliceCells H 9 s = some (cs, n)) (ho : ownedS s = true) (hi : i ≤ n) (hn : n ≤ 100000000) (hv : H[ov]? = some (some (.cells (encE x)))) (hne : ov ∉ idS s) :
    ∃ r H', InsP H s (cs.take (i * 9) ++ encE x ++ cs.drop (i * 9)) n r H' ∧ BCall Try.prog 53 [s, I i, .sl ov 0 1 9 (.ex 1)] H r H' := by
  have hcl := sliceCells_len hs
  rcases Nat.lt_or_ge i n with h | h
  · obtain ⟨o, off, cap, cells, rfl, h1, h2, rfl⟩ := owned_sl hs ho (by omega)
    have hov : ov ≠ o := by simpa [idS] using hne
    have hol := (List.getElem?_eq_some_iff.1 h1).1
    have hxl := encE_len x
    have e1 : ((cells.drop off).take (n * 9)).take (i * 9) = (cells.drop off).take (i * 9) := by rw [List.take_take]; congr 1; omega
    have e2 : ((cells.drop off).take (n * 9)).drop (i * 9) = (cells.drop (off + i * 9)).take ((n - i) * 9) := by rw [List.drop_take, List.drop_drop]; congr 1; omega
    refine ⟨_, _, ?_, insE_mid h1 h2 h hn hv hov⟩
    rw [e1, e2]
    refine ⟨rfl, ?_, by simp, fun j hj hn => ?_, fun j hj => .inr (by simp [idS] at hj; omega)⟩
    · rw [sliceCells_sl (c := (cells.drop off).take (i * 9) ++ encE x ++ (cells.drop (off + i * 9)).take ((n - i) * 9)) (by rw [List.getElem?_append_right (by simp)]; simp) (by simp; omega)]
      rw [List.drop_zero, List.take_of_length_le (by simp; omega)]
    · rw [List.getElem?_append_left (by simpa using hj), List.getElem?_set_ne (by simp [idS] at hn; omega)]
  · have : i = n := by omega
    subst this
    obtain ⟨r, H', h1, h2⟩ := insE_end hs ho hn hv
    refine ⟨r, H', ?_, h2⟩
    rw [List.take_of_length_le (by omega), List.drop_of_length_le (by omega), List.append_nil]
    exact h1
/-- What a call leaves of a content that is one's own: a slice that was changed, or a new one. -/
def ContP (H : AH) (oc : Nat) (size : Int) (v : AV) (l : List Ext) (H' : AH) : Prop :=
  ∃ v', H'[oc]? = some (some (.cells [I size, v'])) ∧ sliceCells H' 9 v' = some (l.flatMap encE, l.length) ∧ ownedS v' = true ∧ oc ∉ idS v' ∧ H.length ≤ H'.length ∧ (∀ i, i < H.length → i ≠ oc → i ∉ idS v → H'[i]? = H[i]?) ∧ ∀ i ∈ idS v', i ∈ idS v ∨ H.length ≤ i
theorem encE_new (no : Int) : encE (newE no) = [I no, .lit (.int .u8 0), .lit (.int .u8 0), .lit (.int .u8 0), .lit (.int .u8 0), .lit (.int .u8 0), .lit (.int .u8 0), .lit (.int .u8 0), .lit (.int .u8 0)] := rfl
theorem extent_need_c' {H : AH} {oc : Nat} {size no : Int} {v : AV} {l : List Ext} (hc : H[oc]? = some (some (.cells [I size, v]))) (hv : sliceCells H 9 v = some (l.flatMap encE, l.length)) (ho : ownedS v = true) (hne : oc ∉ idS v) (hs : srt l) (hl : l.length ≤ 100000000) :
    ∃ H', ContP H oc size v (needL l no) H' ∧ BCall Try.prog 35 [.ptr oc 0, I no] H (I (posL l no)) H' := by
  have key : ∃ r H', (r = I (posL l no) ∧ ContP H oc size v (needL l no) H') ∧ BCall Try.prog 35 [.ptr oc 0, I no] H r H' := extent_need_ok (by
    unfold extent_need
    have hol := (List.getElem?_eq_some_iff.1 hc).1
    obtain ⟨R, hR, fR⟩ := FZ.sv hv (noIdss_flat fun x _ => noIdss_encE x)
    have h1 := oneA_owned ho
    simp [hc]
    refine bP_of (PCall.lend (FZs.cons fR (FZs.cons (FZ.lit _) FZs.nil)) rfl (extent_place_p hR hs (by omega) no)) ?_
    simp
    by_cases hh : hasL l no
    · have e : needL l no = l := if_pos hh
      simp [hh]
      rw [extent_need_J2_eq]
      unfold extent_need_J2_b
      rw [e]
      exact ⟨rfl, v, hc, hv, ho, hne, Nat.le_refl _, fun _ _ _ _ => rfl, fun i hi => .inl hi⟩
    · have e : needL l no = l.take (posL l no) ++ newE no :: l.drop (posL l no) := if_neg hh
      simp [hh]
      have g := Grew.app H [some (.cells (encE (newE no)))]
      obtain ⟨r, H2, ⟨b1, b2, b3, b4, b5⟩, a1⟩ := insE_ok (x := newE no) (ov := H.length) (g.slice hv) ho (posL_le l no) hl (by simp) (fun h => by have := sliceCells_lt hv _ h; omega)
      rw [← encE_new]
      refine bC_of a1 ?_
      have c2 : H2[oc]? = some (some (.cells [I size, v])) := by
        rw [b4 oc (by simp; omega) hne]; exact g.cells hc
      have hr := oneA_owned b1
      have hol2 := (List.getElem?_eq_some_iff.1 c2).1
      rw [ast_ptr (n := 1) (off := 1) (xs := [r]) (cs := [I size, v]) (cellsA_one hr) c2 rfl (by simp)]
      simp
      rw [extent_need_J2_eq]
      unfold extent_need_J2_b
      have hoc : oc ∉ idS r := fun h => (b5 oc h).elim hne (fun h => by simp at h; omega)
      refine ⟨rfl, r, by simp [hol2], ?_, b1, hoc, by simp at b3; simp; omega, fun i hi h1 h2 => ?_, fun i hi => (b5 i hi).imp id (fun h => by simp at h; omega)⟩
      · rw [sliceCells_keep b2 (fun i hi => List.getElem?_set_ne (fun (h : oc = i) => hoc (h ▸ hi)))]
        rw [flat_take encE_len, flat_drop encE_len, e, List.flatMap_append, List.flatMap_cons, List.append_assoc]
        have := posL_le l no
        simp; omega
      · rw [List.getElem?_set_ne (by omega), b4 i (by simp; omega) h2]
        exact g.2 i hi)
  obtain ⟨r, H', ⟨rfl, h1⟩, h2⟩ := key
  exact ⟨H', h1, h2⟩
end Go.Proofs.Ytflodknflaallaa.Av
