/- Chapter 11: the document's own other size, and holes. -/
import Derived.Test.YtflodknflaallaaAvExtG
set_option linter.unusedVariables false
set_option linter.unusedSimpArgs false
set_option maxRecDepth 100000
namespace Go.Proofs.Ytflodknflaallaa.Av
open Go Go.RowKit
theorem enc_set0 {x y : Ext} {j : Nat} (hn : y.no = x.no) (hj : j < 8) (h : ∀ k, k < 8 → y.b.getD k 0 = if k = j then 0 else x.b.getD k 0) : (encE x).set (1 + j) (.lit (.int .u8 0)) = encE y := by
  refine List.ext_getElem? fun q => ?_
  rw [List.getElem?_set]
  cases q with
  | zero => rw [if_neg (by omega)]; simp [encE, hn]
  | succ q =>
    by_cases hq : q < 8
    · rw [encE_get _ hq, encE_get _ hq, h q hq, encE_len]
      by_cases c : 1 + j = q + 1
      · rw [if_pos c, if_pos (by omega), if_pos (by omega)]; rfl
      · rw [if_neg c, if_neg (by omega)]
    · rw [List.getElem?_eq_none (by rw [encE_len]; omega), List.getElem?_eq_none (by rw [encE_len]; omega), encE_len]
      rw [if_neg (by omega)]
theorem wipe_none {x : Ext} {a b : Int} (h : b ≤ a ∨ b ≤ x.no * 8 ∨ x.no * 8 + 8 ≤ a) : wipeE x a b = x := ext_eq rfl fun k hk => by rw [wipeE_get hk, if_neg (by omega)]
/-- What is built: the parts of a content, in objects 0, 1 and 2. -/
def BuildP (a v : AV) (s : Int) (F : List Ext) (w : AV) (H : AH) : Prop :=
  H[0]? = some (some (.cells [a, v])) ∧ H[1]? = some (some (.cells [I 0, nilSl])) ∧ H[2]? = some (some (.cells [I s, w])) ∧ sliceCells H 9 w = some (F.flatMap encE, F.length) ∧ ownedS w = true ∧ ∀ j, j < 3 → j ∉ idS w
theorem BuildP.grew {a v w : AV} {s : Int} {F : List Ext} {H H' : AH} (h : BuildP a v s F w H) (g : Grew H H') : BuildP a v s F w H' := by
  obtain ⟨h0, h1, h2, h3, h4, h5⟩ := h
  exact ⟨g.cells h0, g.cells h1, g.cells h2, g.slice h3, h4, h5⟩
theorem BuildP.other {a v w : AV} {s : Int} {F : List Ext} {H : AH} (h : BuildP a v s F w H) {o : Nat} {x : Option AObj} (ho : 3 ≤ o) (hw : o ∉ idS w) : BuildP a v s F w (H.set o x) := by
  obtain ⟨h0, h1, h2, h3, h4, h5⟩ := h
  exact ⟨(List.getElem?_set_ne (by omega)).trans h0, (List.getElem?_set_ne (by omega)).trans h1, (List.getElem?_set_ne (by omega)).trans h2, sliceCells_keep h3 fun i hi => List.getElem?_set_ne (fun (e : o = i) => hw (e ▸ hi)), h4, h5⟩
theorem BuildP.add {a v w : AV} {s : Int} {F : List Ext} {H : AH} (h : BuildP a v s F w H) (Y : Ext) (hF : F.length ≤ 10000000) :
    ∃ r H2 H3, aap 9 16 (H ++ [some (.cells (encE Y))]) w (.sl H.length 0 1 9 (.ex 1)) = some (r, H2) ∧ H2[2]? = some (some (.cells [I s, w])) ∧ oneA r = true ∧ H3 = H2.set 2 (some (.cells [I s, r])) ∧ BuildP a v s (F ++ [Y]) r H3 ∧ H.length ≤ H3.length := by
  obtain ⟨h0, h1, h2, h3, h4, h5⟩ := h
  have g := Grew.app H [some (.cells (encE Y))]
  obtain ⟨r, H2, b1, b2, b3, b4, b5, b6⟩ := aap_spec (sz := 9) (bytes := 16) (g.slice h3) h4 (appended_slice (v := .sl H.length 0 1 9 (.ex 1)) (q := (encE Y, 1)) (by simp [sliceCells, encE_len, List.take_of_length_le])) (by omega)
  have hl := (List.getElem?_eq_some_iff.1 h2).1
  have k : ∀ j, j < 3 → H2[j]? = H[j]? := fun j hj => by rw [b5 j (by simp; omega) (h5 j hj), g.2 j (by omega)]
  have hid : ∀ j, j < 3 → j ∉ idS r := fun j hj h => (b6 j h).elim (h5 j hj) (fun h => by simp at h; omega)
  have hl2 : 2 < H2.length := by simp at b4; omega
  refine ⟨r, H2, _, b1, by rw [k 2 (by omega)]; exact h2, oneA_owned b2, rfl, ⟨?_, ?_, List.getElem?_set_self hl2, ?_, b2, hid⟩, by simp at b4; simp; omega⟩
  · rw [List.getElem?_set_ne (by omega), k 0 (by omega)]; exact h0
  · rw [List.getElem?_set_ne (by omega), k 1 (by omega)]; exact h1
  · rw [sliceCells_keep b3 fun i hi => List.getElem?_set_ne (fun (e : 2 = i) => hid 2 (by omega) (e ▸ hi))]
    simp [List.flatMap_append]
theorem absl_e {H : AH} (Y : Ext) : absl H 9 1 (zrow [(.lit (.int .i64 0)), (.lit (.int .u8 0)), (.lit (.int .u8 0)), (.lit (.int .u8 0)), (.lit (.int .u8 0)), (.lit (.int .u8 0)), (.lit (.int .u8 0)), (.lit (.int .u8 0)), (.lit (.int .u8 0))] 1) [(0, 9, .agg (encE Y))] = some (.sl H.length 0 1 9 (.ex 1), H ++ [some (.cells (encE Y))]) := by
  have hl := encE_len Y
  have e : zrow [(.lit (.int .i64 0)), (.lit (.int .u8 0)), (.lit (.int .u8 0)), (.lit (.int .u8 0)), (.lit (.int .u8 0)), (.lit (.int .u8 0)), (.lit (.int .u8 0)), (.lit (.int .u8 0)), (.lit (.int .u8 0))] 1 = encE (newE 0) := rfl
  rw [e]
  have hz := encE_len (newE 0)
  have : fillR (encE (newE 0)) [(0, 9, .agg (encE Y))] = some (encE Y) := by
    rw [fillR_cons]
    simp only [cellsA_agg, encE_all, if_true]
    rw [if_pos ⟨hl, by omega⟩, splice_eq _ _ _ (by omega), List.take_zero, List.nil_append, List.drop_of_length_le (by omega), List.append_nil]
    rfl
  unfold absl
  rw [this]; rfl
theorem ref_TruncateContent_p {size0 : Int} {l : List Ext} {v : AV} (hv : SV encE 9 l v) (hl : l.length ≤ 1000000) (size : Int) :
    ∃ R, SV encE 9 (cL (truncC (size0, l) size)) R ∧ BPure Try.prog 29 [.agg [I size0, v], I size] (.tup [.agg [I (cS (truncC (size0, l) size)), R], B (truncC (size0, l) size).isSome]) := by
  refine BPure.cont (by simp [noIdss, noIds, hv.1]) (salvorref11_TruncateContent_ok ?_)
  unfold salvorref11_TruncateContent
  simp [oneA_sv hv, rdCells]
  refine bP_pure (ref_MayContent_p hv (by omega)) ?_
  by_cases h1 : mayC size0 l
  · by_cases h2 : size < 0
    · have hn : truncC (size0, l) size = none := if_neg (fun h => by omega)
      simp [h1, h2, ast]
      exact ContK.none hn
    · by_cases h3 : 1099511627776 < size
      · have hn : truncC (size0, l) size = none := if_neg (fun h => by omega)
        simp [h1, h2, h3, ast]
        exact ContK.none hn
      · have hw : truncC (size0, l) size = some (size, truncL l size) := if_pos ⟨h1, by omega, by omega⟩
        simp [h1, h2, h3, ast]
        have hno := fun x hx => (okL_all h1.2.2 x hx)
        have hstep : ∀ (k : Nat) (y : Ext), l[k]? = some y → truncL (l.take (k + 1)) size = truncL (l.take k) size ++ if y.no * 8 < size then [wipeE y size 1099511627776] else [] := by
          intro k y hy
          unfold truncL wipeL
          rw [List.take_add_one, hy, List.filter_append, List.map_append]
          congr 1
          split <;> simp [*]
        have hlenF : ∀ k, (truncL (l.take k) size).length ≤ l.length := fun k => by
          unfold truncL wipeL
          rw [List.length_map]
          exact Nat.le_trans (List.length_filter_le _ _) (by rw [List.length_take]; omega)
        refine salvorref11_TruncateContent_L7_rule (fun t x1 x2 x4 x6 x7 H => ∃ (k : Nat) (w : AV), k + t = l.length ∧ x1 = I size ∧ x2 = .ptr 0 0 ∧ x4 = .ptr 1 0 ∧ x6 = .ptr 2 0 ∧ x7 = I k ∧ BuildP (I size0) v size (truncL (l.take k) size) w H) ?_ l.length
          ⟨0, nilSl, by omega, rfl, rfl, rfl, rfl, rfl, rfl, rfl, rfl, rfl, rfl, by simp [idS]⟩
        rintro t x1 x2 x4 x6 x7 H R hR ⟨k, w, hk, rfl, rfl, rfl, rfl, rfl, hB⟩
        unfold salvorref11_TruncateContent_L7_b
        have hB' := hB
        obtain ⟨e0, e1, e2, e3, e4, e5⟩ := hB'
        have hH2 := (List.getElem?_eq_some_iff.1 e2).1
        rcases Nat.lt_or_ge k l.length with hlt | hge
        · have hx := List.getElem?_eq_getElem hlt
          generalize l[k] = y at hx
          have hy := hno y (List.mem_of_getElem? hx)
          have g := Grew.app H [some (.cells (encE y))]
          simp [e0, hv.len, hlt, hv.idx encE_len hx rfl, -ald_ptr', ald_ptr e0]
          rw [ast_e (by simp) (by rfl)]
          have nxt : ∀ H2 w2, BuildP (I size0) v size (truncL (l.take (k + 1)) size) w2 H2 → salvorref11_TruncateContent_J10 R (I size) (.ptr 0 0) (.ptr 1 0) (.ptr 2 0) (I k) H2 (ContK (truncC (size0, l) size)) := by
            intro H2 w2 h2
            rw [salvorref11_TruncateContent_J10_eq]
            unfold salvorref11_TruncateContent_J10_b
            simp [abI_add (a := k) (b := 1) (by omega) (by omega)]
            exact hR (t - 1) _ _ _ _ _ _ (by omega) ⟨k + 1, w2, by omega, rfl, rfl, rfl, rfl, rfl, h2⟩
          by_cases hc : size ≤ y.no * 8
          · simp [abI_mul (a := y.no) (b := 8) (by omega) (by omega), hc]
            refine nxt _ w ?_
            rw [hstep k y hx, if_neg (by omega), List.append_nil]
            exact hB.grew g
          · simp [abI_mul (a := y.no) (b := 8) (by omega) (by omega), hc]
            have hxo : H.length ∉ idS w := fun h => by have := sliceCells_lt e3 _ h; omega
            refine salvorref11_TruncateContent_L16_rule R (fun q z1 z2 z4 z6 z7 z8 z9 H2 => ∃ j : Nat, j + q = 8 ∧ z1 = I size ∧ z2 = .ptr 0 0 ∧ z4 = .ptr 1 0 ∧ z6 = .ptr 2 0 ∧ z7 = I k ∧ z8 = .ptr H.length 0 ∧ z9 = I j ∧ BuildP (I size0) v size (truncL (l.take k) size) w H2 ∧ H2[H.length]? = some (some (.cells (encE (wipeE y size (y.no * 8 + j)))))) ?_ 8
              ⟨0, rfl, rfl, rfl, rfl, rfl, rfl, rfl, rfl, hB.grew g, by rw [wipe_none (.inr (.inl (by omega)))]; simp⟩
            rintro q z1 z2 z4 z6 z7 z8 z9 H2 R2 hR2 ⟨j, hj, rfl, rfl, rfl, rfl, rfl, rfl, rfl, hB2, hxc⟩
            unfold salvorref11_TruncateContent_L16_b
            have hxol := (List.getElem?_eq_some_iff.1 hxc).1
            have nxt2 : ∀ H3, BuildP (I size0) v size (truncL (l.take k) size) w H3 → H3[H.length]? = some (some (.cells (encE (wipeE y size (y.no * 8 + ((j + 1 : Nat) : Int)))))) → j < 8 → salvorref11_TruncateContent_J19 R2 R (I size) (.ptr 0 0) (.ptr 1 0) (.ptr 2 0) (I k) (.ptr H.length 0) (I j) H3 (ContK (truncC (size0, l) size)) := by
              intro H3 h1 h2 h3
              rw [salvorref11_TruncateContent_J19_eq]
              unfold salvorref11_TruncateContent_J19_b
              simp [abI_add (a := j) (b := 1) (by omega) (by omega)]
              exact hR2 (q - 1) _ _ _ _ _ _ _ _ (by omega) ⟨j + 1, by omega, rfl, rfl, rfl, rfl, rfl, rfl, rfl, h1, h2⟩
            rcases Nat.lt_or_ge j 8 with hlj | hgj
            · have hlj' : (j : Int) < 8 := by omega
              have hn0 : (encE (wipeE y size (y.no * 8 + j)))[0]? = some (I y.no) := rfl
              simp [hlj', hxc, hn0, abI_mul (a := y.no) (b := 8) (by omega) (by omega), abI_add (a := y.no * 8) (b := j) (by omega) (by omega)]
              by_cases hs : size ≤ y.no * 8 + j
              · have e1 : aixA 8 1 (.ptr H.length 1) (I j) = some (.ptr H.length (1 + j)) := by
                  simp [aixA, aint]; omega
                have hwl := encE_len (wipeE y size (y.no * 8 + j))
                simp [hs, e1]
                rw [ast_ptr (n := 1) (off := 1 + j) (xs := [.lit (.int .u8 0)]) rfl hxc rfl (by omega)]
                simp
                refine nxt2 _ (hB2.other (by omega) hxo) ?_ hlj
                rw [List.getElem?_set_self hxol, enc_set0 (x := wipeE y size (y.no * 8 + j)) (y := wipeE y size (y.no * 8 + ((j + 1 : Nat) : Int))) rfl hlj]
                intro a ha
                rw [wipeE_get ha, wipeE_get ha]
                by_cases c1 : a = j
                · rw [if_pos c1, if_pos (by omega)]
                · rw [if_neg c1]
                  by_cases c2 : size ≤ y.no * 8 + (a : Int) ∧ y.no * 8 + (a : Int) < y.no * 8 + j
                  · rw [if_pos c2, if_pos (by omega)]
                  · rw [if_neg c2, if_neg (by omega)]
              · simp [hs]
                refine nxt2 _ hB2 ?_ hlj
                rw [hxc, wipe_none (.inl (by omega)), wipe_none (.inl (by omega))]
            · have : j = 8 := by omega
              subst this
              have hY : wipeE y size (y.no * 8 + ((8 : Nat) : Int)) = wipeE y size 1099511627776 := ext_eq rfl fun a ha => by
                rw [wipeE_get ha, wipeE_get ha]
                by_cases c2 : size ≤ y.no * 8 + (a : Int)
                · rw [if_pos (by omega), if_pos (by omega)]
                · rw [if_neg (by omega), if_neg (by omega)]
              rw [hY] at hxc
              obtain ⟨d0, d1, d2, d3, d4, d5⟩ := hB2
              obtain ⟨r, H4, H5, q1, q2, q3, q4, q5, q6⟩ := BuildP.add ⟨d0, d1, d2, d3, d4, d5⟩ (wipeE y size 1099511627776) (by have := hlenF k; omega)
              simp only [show ¬ ((8 : Nat) : Int) < 8 by omega, abI_lss, bO_some, decide_false, bB_bool, bI_false, ashift_ptr, Nat.zero_add, Nat.add_zero, ald_ptr d2, rdCells_one, ald_ptr hxc, rd_e']
              simp only [List.getElem?_cons_succ, List.getElem?_cons_zero, bO_some, absl_e, bH_some, q1]
              rw [ast_ptr (n := 1) (off := 1) (xs := [r]) (cs := [I size, w]) (cellsA_one q3) q2 rfl (by simp)]
              simp
              refine nxt _ r ?_
              rw [hstep k y hx, if_pos (by omega)]
              rw [q4] at q5
              exact q5
        · have : k = l.length := by omega
          subst this
          have hko := oneA_owned e4
          simp [hv.len, -ald_ptr', ald_ptr e0, ald_ptr e2, rdCells]
          rw [ast_ptr (n := 2) (off := 0) (xs := [I size, w]) (cs := [I 0, nilSl]) (by simp [hko]) e1 rfl (by simp)]
          simp [show 1 < H.length by omega, rdCells]
          rw [List.take_length] at e3
          exact ContK.some hw (sliceCells_keep e3 fun i hi => by
            have h2 : 3 ≤ i := Nat.le_of_not_lt fun h => e5 i h hi
            rw [List.getElem?_set_ne (by omega)])
  · have hn : truncC (size0, l) size = none := if_neg (fun h => h1 h.1)
    simp [h1, ast]
    exact ContK.none hn
theorem ref_PunchContent_p {size : Int} {l : List Ext} {v : AV} (hv : SV encE 9 l v) (hl : l.length ≤ 1000000) (pos n : Int) :
    ∃ R, SV encE 9 (cL (punchC (size, l) pos n)) R ∧ BPure Try.prog 31 [.agg [I size, v], I pos, I n] (.tup [.agg [I (cS (punchC (size, l) pos n)), R], B (punchC (size, l) pos n).isSome]) := by
  refine BPure.cont (by simp [noIdss, noIds, hv.1]) (salvorref11_PunchContent_ok ?_)
  unfold salvorref11_PunchContent
  simp [oneA_sv hv, rdCells]
  refine bP_pure (ref_MayContent_p hv (by omega)) ?_
  by_cases h1 : mayC size l
  · by_cases h2 : maySp pos n
    · have hw : punchC (size, l) pos n = some (size, punchL l pos n) := if_pos ⟨h1, h2⟩
      obtain ⟨g1, g2, g3, g4⟩ := h2
      simp [h1, show ¬ pos < 0 by omega, show ¬ n < 1 by omega, show ¬ 1099511627776 < n by omega, abI_sub (a := 1099511627776) (b := n) (by omega) (by omega), show ¬ 1099511627776 - n < pos by omega, ast]
      have hno := fun x hx => (okL_all h1.2.2 x hx)
      have hstep : ∀ (k : Nat) (y : Ext), l[k]? = some y → punchL (l.take (k + 1)) pos n = punchL (l.take k) pos n ++ if pos ≤ y.no * 8 ∧ y.no * 8 + 8 ≤ pos + n then [] else [wipeE y pos (pos + n)] := by
        intro k y hy
        unfold punchL wipeL gone
        rw [List.take_add_one, hy, List.filter_append, List.map_append]
        congr 1
        by_cases c1 : pos ≤ y.no * 8 <;> by_cases c2 : y.no * 8 + 8 ≤ pos + n <;> simp [c1, c2]
      have hlenF : ∀ k, (punchL (l.take k) pos n).length ≤ l.length := fun k => by
        unfold punchL wipeL
        rw [List.length_map]
        exact Nat.le_trans (List.length_filter_le _ _) (by rw [List.length_take]; omega)
      refine salvorref11_PunchContent_L7_rule (fun t x1 x2 x3 x6 x8 x9 H => ∃ (k : Nat) (w : AV), k + t = l.length ∧ x1 = I pos ∧ x2 = I n ∧ x3 = .ptr 0 0 ∧ x6 = .ptr 1 0 ∧ x8 = .ptr 2 0 ∧ x9 = I k ∧ BuildP (I size) v size (punchL (l.take k) pos n) w H) ?_ l.length
        ⟨0, nilSl, by omega, rfl, rfl, rfl, rfl, rfl, rfl, rfl, rfl, rfl, rfl, rfl, by simp [idS]⟩
      rintro t x1 x2 x3 x6 x8 x9 H R hR ⟨k, w, hk, rfl, rfl, rfl, rfl, rfl, rfl, hB⟩
      unfold salvorref11_PunchContent_L7_b
      have hB' := hB
      obtain ⟨e0, e1, e2, e3, e4, e5⟩ := hB'
      have hH2 := (List.getElem?_eq_some_iff.1 e2).1
      rcases Nat.lt_or_ge k l.length with hlt | hge
      · have hx := List.getElem?_eq_getElem hlt
        generalize l[k] = y at hx
        have hy := hno y (List.mem_of_getElem? hx)
        have g := Grew.app H [some (.cells (encE y))]
        simp [e0, hv.len, hlt, hv.idx encE_len hx rfl, -ald_ptr', ald_ptr e0]
        rw [ast_e (by simp) (by rfl)]
        simp
        have nxt : ∀ H2 w2, BuildP (I size) v size (punchL (l.take (k + 1)) pos n) w2 H2 → salvorref11_PunchContent_J10 R (I pos) (I n) (.ptr 0 0) (.ptr 1 0) (.ptr 2 0) (I k) H2 (ContK (punchC (size, l) pos n)) := by
          intro H2 w2 h2
          rw [salvorref11_PunchContent_J10_eq]
          unfold salvorref11_PunchContent_J10_b
          simp [abI_add (a := k) (b := 1) (by omega) (by omega)]
          exact hR (t - 1) _ _ _ _ _ _ _ (by omega) ⟨k + 1, w2, by omega, rfl, rfl, rfl, rfl, rfl, rfl, h2⟩
        have hxo : H.length ∉ idS w := fun h => by have := sliceCells_lt e3 _ h; omega
        refine salvorref11_PunchContent_L15_rule R (fun q z1 z2 z3 z6 z8 z9 z10 z11 z12 H2 => ∃ j : Nat, j + q = 8 ∧ z1 = I pos ∧ z2 = I n ∧ z3 = .ptr 0 0 ∧ z6 = .ptr 1 0 ∧ z8 = .ptr 2 0 ∧ z9 = I k ∧ z10 = .ptr H.length 0 ∧ z11 = I (max 0 (min (pos + n) (y.no * 8 + j) - max pos (y.no * 8))) ∧ z12 = I j ∧ BuildP (I size) v size (punchL (l.take k) pos n) w H2 ∧
          H2[H.length]? = some (some (.cells (encE (wipeE y pos (min (pos + n) (y.no * 8 + j))))))) ?_ 8
          ⟨0, rfl, rfl, rfl, rfl, rfl, rfl, rfl, rfl, by rw [show max 0 (min (pos + n) (y.no * 8 + ((0 : Nat) : Int)) - max pos (y.no * 8)) = 0 by omega], rfl, hB.grew g, by rw [wipe_none (by omega)]; simp⟩
        rintro q z1 z2 z3 z6 z8 z9 z10 z11 z12 H2 R2 hR2 ⟨j, hj, rfl, rfl, rfl, rfl, rfl, rfl, rfl, rfl, rfl, hB2, hxc⟩
        unfold salvorref11_PunchContent_L15_b
        have hxol := (List.getElem?_eq_some_iff.1 hxc).1
        have nxt2 : ∀ H3 c, c = max 0 (min (pos + n) (y.no * 8 + ((j + 1 : Nat) : Int)) - max pos (y.no * 8)) → BuildP (I size) v size (punchL (l.take k) pos n) w H3 → H3[H.length]? = some (some (.cells (encE (wipeE y pos (min (pos + n) (y.no * 8 + ((j + 1 : Nat) : Int))))))) → j < 8 → salvorref11_PunchContent_J18 R2 R (I pos) (I n) (.ptr 0 0) (.ptr 1 0) (.ptr 2 0) (I k) (.ptr H.length 0) (I c) (I j) H3 (ContK (punchC (size, l) pos n)) := by
          rintro H3 c rfl h1 h2 h3
          rw [salvorref11_PunchContent_J18_eq]
          unfold salvorref11_PunchContent_J18_b
          simp [abI_add (a := j) (b := 1) (by omega) (by omega)]
          exact hR2 (q - 1) _ _ _ _ _ _ _ _ _ _ (by omega) ⟨j + 1, by omega, rfl, rfl, rfl, rfl, rfl, rfl, rfl, rfl, rfl, h1, h2⟩
        rcases Nat.lt_or_ge j 8 with hlj | hgj
        · have hlj' : (j : Int) < 8 := by omega
          have hn0 : (encE (wipeE y pos (min (pos + n) (y.no * 8 + j))))[0]? = some (I y.no) := rfl
          by_cases hs : pos ≤ y.no * 8 + j ∧ y.no * 8 + j < pos + n
          · have e1 : aixA 8 1 (.ptr H.length 1) (I j) = some (.ptr H.length (1 + j)) := by
              simp [aixA, aint]; omega
            have hwl := encE_len (wipeE y pos (min (pos + n) (y.no * 8 + j)))
            simp [hlj', hxc, hn0, abI_mul (a := y.no) (b := 8) (by omega) (by omega), abI_add (a := y.no * 8) (b := j) (by omega) (by omega), abI_add (a := pos) (b := n) (by omega) (by omega), hs.1, hs.2, e1]
            rw [ast_ptr (n := 1) (off := 1 + j) (xs := [.lit (.int .u8 0)]) rfl hxc rfl (by omega)]
            simp
            rw [abI_add (by omega) (by omega)]
            simp
            refine nxt2 _ _ (by omega) (hB2.other (by omega) hxo) ?_ hlj
            rw [List.getElem?_set_self hxol, enc_set0 (x := wipeE y pos (min (pos + n) (y.no * 8 + j))) (y := wipeE y pos (min (pos + n) (y.no * 8 + ((j + 1 : Nat) : Int)))) rfl hlj]
            intro a ha
            rw [wipeE_get ha, wipeE_get ha]
            by_cases c1 : a = j
            · rw [if_pos c1, if_pos (by omega)]
            · rw [if_neg c1]
              by_cases c2 : pos ≤ y.no * 8 + (a : Int) ∧ y.no * 8 + (a : Int) < min (pos + n) (y.no * 8 + j)
              · rw [if_pos c2, if_pos (by omega)]
              · rw [if_neg c2, if_neg (by omega)]
          · have hsame : encE (wipeE y pos (min (pos + n) (y.no * 8 + ((j + 1 : Nat) : Int)))) = encE (wipeE y pos (min (pos + n) (y.no * 8 + j))) := by
              congr 1
              refine ext_eq rfl fun a ha => ?_
              rw [wipeE_get ha, wipeE_get ha]
              by_cases c2 : pos ≤ y.no * 8 + (a : Int) ∧ y.no * 8 + (a : Int) < min (pos + n) (y.no * 8 + j)
              · rw [if_pos c2, if_pos (by omega)]
              · rw [if_neg c2, if_neg (by omega)]
            by_cases hs1 : pos ≤ y.no * 8 + j
            · have hs2 : ¬ y.no * 8 + j < pos + n := fun h => hs ⟨hs1, h⟩
              simp [hlj', hxc, hn0, abI_mul (a := y.no) (b := 8) (by omega) (by omega), abI_add (a := y.no * 8) (b := j) (by omega) (by omega), abI_add (a := pos) (b := n) (by omega) (by omega), hs1, hs2]
              exact nxt2 _ _ (by omega) hB2 (by rw [hsame]; exact hxc) hlj
            · simp [hlj', hxc, hn0, abI_mul (a := y.no) (b := 8) (by omega) (by omega), abI_add (a := y.no * 8) (b := j) (by omega) (by omega), abI_add (a := pos) (b := n) (by omega) (by omega), hs1]
              exact nxt2 _ _ (by omega) hB2 (by rw [hsame]; exact hxc) hlj
        · have : j = 8 := by omega
          subst this
          have hY : wipeE y pos (min (pos + n) (y.no * 8 + ((8 : Nat) : Int))) = wipeE y pos (pos + n) := ext_eq rfl fun a ha => by
            rw [wipeE_get ha, wipeE_get ha]
            by_cases c2 : pos ≤ y.no * 8 + (a : Int) ∧ y.no * 8 + (a : Int) < pos + n
            · rw [if_pos (by omega), if_pos (by omega)]
            · rw [if_neg (by omega), if_neg (by omega)]
          rw [hY] at hxc
          simp only [show ¬ ((8 : Nat) : Int) < 8 by omega, abI_lss, bO_some, decide_false, bB_bool, bI_false]
          by_cases hg : pos ≤ y.no * 8 ∧ y.no * 8 + 8 ≤ pos + n
          · have hc : ¬ max 0 (min (pos + n) (y.no * 8 + ((8 : Nat) : Int)) - max pos (y.no * 8)) < 8 := by omega
            simp only [hc, decide_false, bI_false]
            refine nxt _ w ?_
            rw [hstep k y hx, if_pos hg, List.append_nil]
            exact hB2
          · have hc : max 0 (min (pos + n) (y.no * 8 + ((8 : Nat) : Int)) - max pos (y.no * 8)) < 8 := by omega
            simp only [hc, decide_true, bI_true]
            obtain ⟨d0, d1, d2, d3, d4, d5⟩ := hB2
            obtain ⟨r, H4, H5, q1, q2, q3, q4, q5, q6⟩ := BuildP.add ⟨d0, d1, d2, d3, d4, d5⟩ (wipeE y pos (pos + n)) (by have := hlenF k; omega)
            simp only [ashift_ptr, Nat.zero_add, Nat.add_zero, ald_ptr d2, rdCells_one, ald_ptr hxc, rd_e']
            simp only [List.getElem?_cons_succ, List.getElem?_cons_zero, bO_some, absl_e, bH_some, q1]
            rw [ald_ptr d2]
            simp only [rdCells_one, List.getElem?_cons_succ, List.getElem?_cons_zero, bO_some, bH_some, q1]
            rw [ast_ptr (n := 1) (off := 1) (xs := [r]) (cs := [I size, w]) (cellsA_one q3) q2 rfl (by simp)]
            simp
            refine nxt _ r ?_
            rw [hstep k y hx, if_neg hg]
            rw [q4] at q5
            exact q5
      · have : k = l.length := by omega
        subst this
        have hko := oneA_owned e4
        simp [hv.len, -ald_ptr', ald_ptr e0, ald_ptr e2, rdCells]
        rw [ast_ptr (n := 2) (off := 0) (xs := [I size, w]) (cs := [I 0, nilSl]) (by simp [hko]) e1 rfl (by simp)]
        simp [show 1 < H.length by omega, rdCells]
        rw [List.take_length] at e3
        exact ContK.some hw (sliceCells_keep e3 fun i hi => by
          have h2 : 3 ≤ i := Nat.le_of_not_lt fun h => e5 i h hi
          rw [List.getElem?_set_ne (by omega)])
    · have hn : punchC (size, l) pos n = none := if_neg (fun h => h2 h.2)
      by_cases g1 : pos < 0
      · simp [h1, g1, ast]
        exact ContK.none hn
      · by_cases g2 : n < 1
        · simp [h1, g1, g2, ast]
          exact ContK.none hn
        · by_cases g3 : 1099511627776 < n
          · simp [h1, g1, g2, g3, ast]
            exact ContK.none hn
          · have g4 : 1099511627776 - n < pos := Int.lt_of_not_ge fun h => h2 ⟨by omega, by omega, by omega, h⟩
            simp [h1, g1, g2, g3, abI_sub (a := 1099511627776) (b := n) (by omega) (by omega), g4, ast]
            exact ContK.none hn
  · have hn : punchC (size, l) pos n = none := if_neg (fun h => h1 h.1)
    simp [h1, ast]
    exact ContK.none hn
end Go.Proofs.Ytflodknflaallaa.Av
