/- Chapter 11: room, and the document's own. -/
import Derived.Test.YtflodknflaallaaAvExtE
set_option linter.unusedVariables false
set_option linter.unusedSimpArgs false
set_option maxRecDepth 100000
namespace Go.Proofs.Ytflodknflaallaa.Av
open Go Go.RowKit
def maySp (pos n : Int) : Prop := 0 ≤ pos ∧ 1 ≤ n ∧ n ≤ 1099511627776 ∧ pos ≤ 1099511627776 - n
instance (pos n : Int) : Decidable (maySp pos n) := by unfold maySp; infer_instance
theorem extent_span_p (pos n : Int) : BPure Try.prog 45 [I pos, I n] (B (decide (maySp pos n))) := BPure.flat fun H => extent_span_ok (by
  unfold extent_span maySp
  by_cases h1 : 0 ≤ pos
  · by_cases h2 : 1 ≤ n
    · by_cases h3 : n ≤ 1099511627776
      · simp [h1, h2, h3, abI_sub (a := 1099511627776) (b := n) (by omega) (by omega)]
      · simp [h1, h2, h3]
    · simp [h1, h2]
  · simp [h1])
theorem extent_Allocate_p {size : Int} {l : List Ext} {v : AV} (hv : SV encE 9 l v) (hl : l.length ≤ 1000000) (pos n : Int) (keep : Bool) :
    ∃ R, SV encE 9 (cL (allocC (size, l) pos n keep)) R ∧ BPure Try.prog 26 [.agg [I size, v], I pos, I n, B keep] (.tup [.agg [I (cS (allocC (size, l) pos n keep)), R], B (allocC (size, l) pos n keep).isSome]) := by
  refine BPure.cont (by simp [noIdss, noIds, hv.1]) (extent_Allocate_ok ?_)
  unfold extent_Allocate
  simp [oneA_sv hv, rdCells]
  refine bP_pure (extent_May_p hv (by omega)) ?_
  by_cases h1 : mayC size l
  · simp [h1]
    refine bP_pure (extent_span_p pos n) ?_
    by_cases h2 : maySp pos n
    · by_cases h3 : 32768 < n
      · have hn : allocC (size, l) pos n keep = none := if_neg (fun h => by omega)
        simp [h2, h3, ast]
        exact ContK.none hn
      · obtain ⟨g1, g2, g3, g4⟩ := h2
        have hw : allocC (size, l) pos n keep = some (if keep then size else max size (pos + n), allocL l pos n) := if_pos ⟨h1, g1, g2, by omega, g4⟩
        simp [show maySp pos n from ⟨g1, g2, g3, g4⟩, h3]
        obtain ⟨r, H2, ⟨w, rfl, a2, a3, a4, a5⟩, a1⟩ := copied_c (size := size) (hv.2 [some (.cells [I size, v]), some (.cells [I 0, nilSl])]) (oneA_sv hv) (by omega)
        refine bC_of a1 ?_
        have c0 := a4.cells (o := 0) (x := some (.cells [I size, v])) rfl
        have c1 := a4.cells (o := 1) (x := some (.cells [I 0, nilSl])) rfl
        have hl2 := a4.1
        simp only [List.length_cons, List.length_nil] at hl2
        have hwo := oneA_owned a2
        have id0 : ∀ j, j < 2 → j ∉ idS w := fun j hj h => by have := a5 j h; simp at this; omega
        rw [ast_ptr (n := 2) (off := 0) (x := .agg [I size, w]) (xs := [I size, w]) (by simp [hwo]) c0 rfl (by simp)]
        simp [abI_quo (a := pos) (b := 8) (by omega) (by omega) (by omega)]
        have hs0 := okL_srt h1.2.2
        have hN : allocN pos n ≤ 4098 := by unfold allocN; omega
        refine extent_Allocate_L7_rule (fun m x1 x2 x3 x4 x8 x10 H => ∃ (d : Nat) (w : AV), d + m = allocN pos n ∧ x1 = I pos ∧ x2 = I n ∧ x3 = B keep ∧ x4 = .ptr 0 0 ∧ x8 = .ptr 1 0 ∧ x10 = I (pos / 8 + d) ∧ H[0]? = some (some (.cells [I size, w])) ∧ H[1]? = some (some (.cells [I 0, nilSl])) ∧
          sliceCells H 9 w = some ((needs l (pos / 8) d).flatMap encE, (needs l (pos / 8) d).length) ∧ ownedS w = true ∧ (∀ j, j < 2 → j ∉ idS w)) ?_ (allocN pos n)
          ⟨0, w, by simp, rfl, rfl, rfl, rfl, rfl, by simp, List.getElem?_set_self (by omega), (List.getElem?_set_ne (by omega)).trans c1, ?_, a2, id0⟩
        · rintro m x1 x2 x3 x4 x8 x10 H R hR ⟨d, w, hdn, rfl, rfl, rfl, rfl, rfl, rfl, k0, k1, kw, ko, kid⟩
          unfold extent_Allocate_L7_b
          have hH0 := (List.getElem?_eq_some_iff.1 k0).1
          have hH1 := (List.getElem?_eq_some_iff.1 k1).1
          simp [abI_add (a := pos) (b := n) (by omega) (by omega), abI_sub (a := pos + n) (b := 1) (by omega) (by omega), abI_quo (a := pos + n - 1) (b := 8) (by omega) (by omega) (by omega)]
          by_cases hd : d < allocN pos n
          · have hc : pos / 8 + (d : Int) ≤ (pos + n - 1) / 8 := by unfold allocN at hd; omega
            have hws := ns_srt (k := d) hs0 (pos / 8)
            have hlen := ns_len (k := d) (l := l) (no := pos / 8)
            obtain ⟨H11, ⟨w', q1, q2, q3, q4, q5, q6, q7⟩, q8⟩ := extent_need_c' (no := pos / 8 + d) k0 kw ko (kid 0 (by omega)) hws (by omega)
            simp [hc]
            refine bC_of q8 ?_
            have hid' : ∀ i, i < H.length → i ∉ idS w → i ∉ idS w' := fun i h1 h2 h3 => (q7 i h3).elim h2 (fun h => by omega)
            simp [abI_add (a := pos / 8 + d) (b := 1) (by omega) (by omega)]
            refine hR (m - 1) _ _ _ _ _ _ _ (by omega) ⟨d + 1, w', by omega, rfl, rfl, rfl, rfl, rfl, by rw [show pos / 8 + (d : Int) + 1 = pos / 8 + ((d + 1 : Nat) : Int) by omega], q1, ?_, ?_, q3, fun i hi => hid' i (by omega) (kid i hi)⟩
            · rw [q6 1 hH1 (by omega) (kid 1 (by omega))]; exact k1
            · rw [ns_succ]; exact q2
          · have hd' : d = allocN pos n := by omega
            subst hd'
            have hc : ¬ pos / 8 + ((allocN pos n : Nat) : Int) ≤ (pos + n - 1) / 8 := by unfold allocN; omega
            have hko := oneA_owned ko
            have tail : ∀ s H2, H2.length = H.length → H2[0]? = some (some (.cells [I s, w])) → H2[1]? = some (some (.cells [I 0, nilSl])) → sliceCells H2 9 w = some ((allocL l pos n).flatMap encE, (allocL l pos n).length) → allocC (size, l) pos n keep = some (s, allocL l pos n) → extent_Allocate_J11 (.ptr 0 0) (.ptr 1 0) H2 (ContK (allocC (size, l) pos n keep)) := by
              intro s H2 hl2 e0 e1 e2 e3
              rw [extent_Allocate_J11_eq]
              unfold extent_Allocate_J11_b
              simp [-ald_ptr', ald_ptr e0, rdCells]
              rw [ast_ptr (n := 2) (off := 0) (xs := [I s, w]) (cs := [I 0, nilSl]) (by simp [hko]) e1 rfl (by simp)]
              simp [show 1 < H2.length by omega, rdCells]
              exact ContK.some e3 (sliceCells_keep e2 fun i hi => by
                have h2 : 2 ≤ i := Nat.le_of_not_lt fun h => kid i h hi
                rw [List.getElem?_set_ne (by omega)])
            simp [hc]
            cases keep with
            | true =>
              simp
              exact tail size H rfl k0 k1 kw hw
            | false =>
              have hmx : max (pos + n) size = max size (pos + n) := by omega
              simp [k0, abI_add (a := pos) (b := n) (by omega) (by omega), hmx]
              rw [ast_ptr (n := 1) (off := 0) (xs := [I (max size (pos + n))]) (cs := [I size, w]) rfl k0 rfl (by simp)]
              simp
              refine tail _ _ (by simp) (List.getElem?_set_self hH0) ((List.getElem?_set_ne (by omega)).trans k1) (sliceCells_keep kw fun i hi => by
                have h2 : 2 ≤ i := Nat.le_of_not_lt fun h => kid i h hi
                rw [List.getElem?_set_ne (by omega)]) hw
        · exact sliceCells_keep a3 fun i hi => by
            have h2 : 2 ≤ i := Nat.le_of_not_lt fun h => id0 i h hi
            rw [List.getElem?_set_ne (by omega)]
    · have hn : allocC (size, l) pos n keep = none := if_neg (fun h => h2 ⟨h.2.1, h.2.2.1, by omega, h.2.2.2.2⟩)
      simp [h2, ast]
      exact ContK.none hn
  · have hn : allocC (size, l) pos n keep = none := if_neg (fun h => h1 h.1)
    simp [h1, ast]
    exact ContK.none hn
theorem ref_AllocateContent_p {size : Int} {l : List Ext} {v : AV} (hv : SV encE 9 l v) (hl : l.length ≤ 1000000) (pos n : Int) (keep : Bool) :
    ∃ R, SV encE 9 (cL (allocC (size, l) pos n keep)) R ∧ BPure Try.prog 30 [.agg [I size, v], I pos, I n, B keep] (.tup [.agg [I (cS (allocC (size, l) pos n keep)), R], B (allocC (size, l) pos n keep).isSome]) := by
  refine BPure.cont (by simp [noIdss, noIds, hv.1]) (salvorref11_AllocateContent_ok ?_)
  unfold salvorref11_AllocateContent
  simp [oneA_sv hv, rdCells]
  refine bP_pure (ref_MayContent_p hv (by omega)) ?_
  by_cases h1 : mayC size l
  · by_cases h2 : maySp pos n
    · by_cases h3 : 32768 < n
      · have hn : allocC (size, l) pos n keep = none := if_neg (fun h => by omega)
        obtain ⟨g1, g2, g3, g4⟩ := h2
        simp [h1, show ¬ pos < 0 by omega, show ¬ n < 1 by omega, h3, ast]
        exact ContK.none hn
      · obtain ⟨g1, g2, g3, g4⟩ := h2
        have hw : allocC (size, l) pos n keep = some (if keep then size else max size (pos + n), allocL l pos n) := if_pos ⟨h1, g1, g2, by omega, g4⟩
        simp [h1, show ¬ pos < 0 by omega, show ¬ n < 1 by omega, h3, abI_sub (a := 1099511627776) (b := n) (by omega) (by omega), show ¬ 1099511627776 - n < pos by omega]
        obtain ⟨r, H2, ⟨w, rfl, a2, a3, a4, a5⟩, a1⟩ := ref_copyOf_c (size := size) (hv.2 [some (.cells [I size, v]), some (.cells [I 0, nilSl])]) (oneA_sv hv) (by omega)
        refine bC_of a1 ?_
        have c0 := a4.cells (o := 0) (x := some (.cells [I size, v])) rfl
        have c1 := a4.cells (o := 1) (x := some (.cells [I 0, nilSl])) rfl
        have hl2 := a4.1
        simp only [List.length_cons, List.length_nil] at hl2
        have hwo := oneA_owned a2
        have id0 : ∀ j, j < 2 → j ∉ idS w := fun j hj h => by have := a5 j h; simp at this; omega
        rw [ast_ptr (n := 2) (off := 0) (x := .agg [I size, w]) (xs := [I size, w]) (by simp [hwo]) c0 rfl (by simp)]
        simp [abI_quo (a := pos) (b := 8) (by omega) (by omega) (by omega)]
        have hs0 := okL_srt h1.2.2
        have hN : allocN pos n ≤ 4098 := by unfold allocN; omega
        refine salvorref11_AllocateContent_L7_rule (fun m x1 x2 x3 x4 x8 x10 H => ∃ (d : Nat) (w : AV), d + m = allocN pos n ∧ x1 = I pos ∧ x2 = I n ∧ x3 = B keep ∧ x4 = .ptr 0 0 ∧ x8 = .ptr 1 0 ∧ x10 = I (pos / 8 + d) ∧ H[0]? = some (some (.cells [I size, w])) ∧ H[1]? = some (some (.cells [I 0, nilSl])) ∧
          sliceCells H 9 w = some ((needs l (pos / 8) d).flatMap encE, (needs l (pos / 8) d).length) ∧ ownedS w = true ∧ (∀ j, j < 2 → j ∉ idS w)) ?_ (allocN pos n)
          ⟨0, w, by simp, rfl, rfl, rfl, rfl, rfl, by simp, List.getElem?_set_self (by omega), (List.getElem?_set_ne (by omega)).trans c1, ?_, a2, id0⟩
        · rintro m x1 x2 x3 x4 x8 x10 H R hR ⟨d, w, hdn, rfl, rfl, rfl, rfl, rfl, rfl, k0, k1, kw, ko, kid⟩
          unfold salvorref11_AllocateContent_L7_b
          have hH0 := (List.getElem?_eq_some_iff.1 k0).1
          have hH1 := (List.getElem?_eq_some_iff.1 k1).1
          have hub : allocN pos n = ((pos + n - 1) / 8 - pos / 8 + 1).toNat := rfl
          simp [abI_add (a := pos) (b := n) (by omega) (by omega), abI_mul (a := pos / 8 + d) (b := 8) (by omega) (by omega)]
          by_cases hd : d < allocN pos n
          · have hc : (pos / 8 + (d : Int)) * 8 < pos + n := by unfold allocN at hd; omega
            have hws := ns_srt (k := d) hs0 (pos / 8)
            have hlen := ns_len (k := d) (l := l) (no := pos / 8)
            obtain ⟨H11, ⟨w', q1, q2, q3, q4, q5, q6, q7⟩, q8⟩ := ref_need_c' (no := pos / 8 + d) k0 kw ko (kid 0 (by omega)) hws (by omega)
            simp [hc]
            refine bC_of q8 ?_
            have hid' : ∀ i, i < H.length → i ∉ idS w → i ∉ idS w' := fun i h1 h2 h3 => (q7 i h3).elim h2 (fun h => by omega)
            simp [abI_add (a := pos / 8 + d) (b := 1) (by omega) (by omega)]
            refine hR (m - 1) _ _ _ _ _ _ _ (by omega) ⟨d + 1, w', by omega, rfl, rfl, rfl, rfl, rfl, by rw [show pos / 8 + (d : Int) + 1 = pos / 8 + ((d + 1 : Nat) : Int) by omega], q1, ?_, ?_, q3, fun i hi => hid' i (by omega) (kid i hi)⟩
            · rw [q6 1 hH1 (by omega) (kid 1 (by omega))]; exact k1
            · rw [ns_succ]; exact q2
          · have hd' : d = allocN pos n := by omega
            subst hd'
            have hc : ¬ (pos / 8 + ((allocN pos n : Nat) : Int)) * 8 < pos + n := by unfold allocN; omega
            have hko := oneA_owned ko
            have tail : ∀ s H2, H2.length = H.length → H2[0]? = some (some (.cells [I s, w])) → H2[1]? = some (some (.cells [I 0, nilSl])) → sliceCells H2 9 w = some ((allocL l pos n).flatMap encE, (allocL l pos n).length) → allocC (size, l) pos n keep = some (s, allocL l pos n) → salvorref11_AllocateContent_J11 (.ptr 0 0) (.ptr 1 0) H2 (ContK (allocC (size, l) pos n keep)) := by
              intro s H2 hl2 e0 e1 e2 e3
              rw [salvorref11_AllocateContent_J11_eq]
              unfold salvorref11_AllocateContent_J11_b
              simp [-ald_ptr', ald_ptr e0, rdCells]
              rw [ast_ptr (n := 2) (off := 0) (xs := [I s, w]) (cs := [I 0, nilSl]) (by simp [hko]) e1 rfl (by simp)]
              simp [show 1 < H2.length by omega, rdCells]
              exact ContK.some e3 (sliceCells_keep e2 fun i hi => by
                have h2 : 2 ≤ i := Nat.le_of_not_lt fun h => kid i h hi
                rw [List.getElem?_set_ne (by omega)])
            simp [hc]
            cases keep with
            | true =>
              simp
              exact tail size H rfl k0 k1 kw hw
            | false =>
              have hmx : max (pos + n) size = max size (pos + n) := by omega
              simp [k0, abI_add (a := pos) (b := n) (by omega) (by omega), hmx]
              rw [ast_ptr (n := 1) (off := 0) (xs := [I (max size (pos + n))]) (cs := [I size, w]) rfl k0 rfl (by simp)]
              simp
              refine tail _ _ (by simp) (List.getElem?_set_self hH0) ((List.getElem?_set_ne (by omega)).trans k1) (sliceCells_keep kw fun i hi => by
                have h2 : 2 ≤ i := Nat.le_of_not_lt fun h => kid i h hi
                rw [List.getElem?_set_ne (by omega)]) hw
        · exact sliceCells_keep a3 fun i hi => by
            have h2 : 2 ≤ i := Nat.le_of_not_lt fun h => id0 i h hi
            rw [List.getElem?_set_ne (by omega)]
    · have hn : allocC (size, l) pos n keep = none := if_neg (fun h => h2 ⟨h.2.1, h.2.2.1, by omega, h.2.2.2.2⟩)
      by_cases g1 : pos < 0
      · simp [h1, g1, ast]
        exact ContK.none hn
      · by_cases g2 : n < 1
        · simp [h1, g1, g2, ast]
          exact ContK.none hn
        · by_cases g3 : 32768 < n
          · simp [h1, g1, g2, g3, ast]
            exact ContK.none hn
          · have g4 : 1099511627776 - n < pos := Int.lt_of_not_ge fun h => h2 ⟨by omega, by omega, by omega, h⟩
            simp [h1, g1, g2, g3, abI_sub (a := 1099511627776) (b := n) (by omega) (by omega), g4, ast]
            exact ContK.none hn
  · have hn : allocC (size, l) pos n keep = none := if_neg (fun h => h1 h.1)
    simp [h1, ast]
    exact ContK.none hn
end Go.Proofs.Ytflodknflaallaa.Av
