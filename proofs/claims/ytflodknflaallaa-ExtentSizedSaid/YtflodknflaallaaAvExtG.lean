/- Chapter 11: Truncate and Punch. -/
import Derived.Test.YtflodknflaallaaAvExtF
set_option linter.unusedVariables false
set_option linter.unusedSimpArgs false
set_option maxRecDepth 100000
namespace Go.Proofs.Ytflodknflaallaa.Av
open Go Go.RowKit
theorem sl_wipe {H : AH} {w : AV} {l : List Ext} {i : Nat} {a : Int} {x : Ext} {s : Sp} (hw : sliceCells H 9 w = some (l.flatMap encE, l.length)) (ho : ownedS w = true) (hx : l[i]? = some x) (ha : a = i) (hs : MaySpan s) (h0 : 0 ≤ x.no) (h1 : x.no < 137438953472) :
    ∃ p H', aixS 9 w (I a) = some p ∧ BCall Try.prog 48 [p, .agg (encSp s)] H (.tup []) H' ∧ H.length ≤ H'.length ∧ (∀ j, j < H.length → j ∉ idS w → H'[j]? = H[j]?) ∧ sliceCells H' 9 w = some ((l.set i (wipeE x s.pos (s.pos + s.len))).flatMap encE, l.length) := by
  subst ha
  have hi := (List.getElem?_eq_some_iff.1 hx).1
  obtain ⟨o, off, cap, cells, rfl, h2, h3, h4⟩ := owned_sl hw ho (by omega)
  have hol := (List.getElem?_eq_some_iff.1 h2).1
  have hmul : i * 9 + 9 ≤ l.length * 9 := by rw [← Nat.succ_mul]; exact Nat.mul_le_mul_right _ hi
  have hxl := encE_len x
  have hwl := encE_len (wipeE x s.pos (s.pos + s.len))
  have hpart : (cells.drop (off + i * 9)).take 9 = encE x := by
    have e : ((l.flatMap encE).drop (i * 9)).take 9 = encE x := by
      rw [flatMap_split encE_len hx, List.take_append_of_le_length (by omega), List.take_of_length_le (by omega)]
    rw [h4, List.drop_take, List.drop_drop, List.take_take, Nat.min_eq_left (by omega)] at e
    exact e
  obtain ⟨H', ⟨k1, k2, k3⟩, k4⟩ := wipe_c (q := off + i * 9) h2 hpart (by omega) hs h0 h1
  refine ⟨.ptr o (off + i * 9), H', ?_, k4, k2, fun j h5 h6 => k3 j h5 (by simp [idS] at h6; omega), ?_⟩
  · simp only [aixS, aint]
    rw [if_pos ⟨by omega, by omega⟩]; simp
  · rw [sliceCells_sl k1 (by rw [over_len (by omega)]; exact h3)]
    rw [show off + i * 9 = off + (i * 9 + 0) by omega, over_part h3 (by omega), ← h4, over_flat (q := 0) encE_len hx (by unfold over; rw [List.take_zero, List.nil_append, List.drop_of_length_le (by omega), List.append_nil]) (by omega)]
theorem map_set {f : Ext → Ext} {l : List Ext} {i : Nat} {x : Ext} (hx : l[i]? = some x) : ((l.take i).map f ++ l.drop i).set i (f x) = (l.take (i + 1)).map f ++ l.drop (i + 1) := by
  have hi := (List.getElem?_eq_some_iff.1 hx).1
  rw [drop_cons hx, List.set_append_right _ _ (by rw [List.length_map, List.length_take]; omega), List.take_add_one, hx]
  simp [show i - min i l.length = 0 by omega]
theorem map_get {f : Ext → Ext} {l : List Ext} {i : Nat} {x : Ext} (hx : l[i]? = some x) : ((l.take i).map f ++ l.drop i)[i]? = some x := by
  have hi := (List.getElem?_eq_some_iff.1 hx).1
  rw [List.getElem?_append_right (by rw [List.length_map, List.length_take]; omega), List.getElem?_drop]
  simp only [List.length_map, List.length_take]
  rw [show i + (i - min i l.length) = i by omega]; exact hx
theorem map_len {f : Ext → Ext} {l : List Ext} {i : Nat} : ((l.take i).map f ++ l.drop i).length = l.length := by
  simp; omega
theorem trunc_del (size : Int) (l : List Ext) (h : ∀ x ∈ l, -1 ≤ x.no ∧ x.no < 137438953472) : DelP 47 1 [I size] l (fun x => decide (size ≤ x.no * 8)) := by
  refine ⟨by kernel_rfl, rfl, fun x hx H a ha => ?_⟩
  obtain ⟨h1, h2⟩ := h x hx
  have key : ∃ r H', (r = B (decide (size ≤ x.no * 8)) ∧ Grew H H') ∧ BCall Try.prog 47 [.agg (encE x), a] H r H' := extent_Truncate_1_ok (by
    unfold extent_Truncate_1
    have g := Grew.app H [some (.cells (encE x))]
    rcases ha with rfl | ⟨rfl, hc⟩
    · simp [abI_mul (a := x.no) (b := 8) (by omega) (by omega)]
      exact g
    · have h1' := (List.getElem?_eq_some_iff.1 hc).1
      have hc' := g.cells hc
      simp [abI_mul (a := x.no) (b := 8) (by omega) (by omega), hc']
      exact g)
  obtain ⟨r, H', ⟨rfl, g⟩, hc⟩ := key
  exact ⟨H', g, hc⟩
theorem punch_del (oc : Nat) (s : Sp) (l : List Ext) (h : ∀ x ∈ l, 0 ≤ x.no ∧ x.no < 137438953472) : DelP 49 oc (encSp s) l (fun x => decide (Within ⟨x.no * 8, 8⟩ s)) := by
  refine ⟨by kernel_rfl, rfl, fun x hx H a ha => ?_⟩
  obtain ⟨h1, h2⟩ := h x hx
  have key : ∃ r H', (r = B (decide (Within ⟨x.no * 8, 8⟩ s)) ∧ Grew H H') ∧ BCall Try.prog 49 [.agg (encE x), a] H r H' := extent_Punch_1_ok (by
    unfold extent_Punch_1
    have g := Grew.app H [some (.cells (encE x))]
    simp
    refine bP_of (extent_whole_p x.no h1 h2) ?_
    have ha' : ald true 2 (H ++ [some (.cells (encE x))]) a = some (.agg (encSp s)) := by
      rcases ha with rfl | ⟨rfl, hc⟩
      · rfl
      · rw [ald_ptr (g.cells hc)]; rfl
    rw [ha']
    simp
    refine bP_of (off_Within_p ⟨x.no * 8, 8⟩ s) ?_
    exact ⟨rfl, g⟩)
  obtain ⟨r, H', ⟨rfl, g⟩, hc⟩ := key
  exact ⟨H', g, hc⟩
theorem extent_Truncate_p {size0 : Int} {l : List Ext} {v : AV} (hv : SV encE 9 l v) (hl : l.length ≤ 1000000) (size : Int) :
    ∃ R, SV encE 9 (cL (truncC (size0, l) size)) R ∧ BPure Try.prog 27 [.agg [I size0, v], I size] (.tup [.agg [I (cS (truncC (size0, l) size)), R], B (truncC (size0, l) size).isSome]) := by
  refine BPure.cont (by simp [noIdss, noIds, hv.1]) (extent_Truncate_ok ?_)
  unfold extent_Truncate
  simp [oneA_sv hv, rdCells, anew_lit]
  refine bP_pure (extent_May_p hv (by omega)) ?_
  by_cases h1 : mayC size0 l
  · by_cases h2 : size < 0
    · have hn : truncC (size0, l) size = none := if_neg (fun h => by omega)
      simp [h1, h2, ast]
      exact ContK.none hn
    · by_cases h3 : 1099511627776 < size
      · have hn : truncC (size0, l) size = none := if_neg (fun h => by omega)
        simp [h1, h2, h3, ast]
        exact ContK.none hn
      · have hw : truncC (size0, l) size = some (size, truncL l size) := if_pos ⟨h1, by omega, by omega⟩
        simp [h1, h2, h3]
        obtain ⟨r, H2, ⟨w, rfl, a2, a3, a4, a5⟩, a1⟩ := copied_c (size := size0) (hv.2 [some (.cells [I size0, v]), some (.cells [I size]), some (.cells [I 0, nilSl])]) (oneA_sv hv) (by omega)
        refine bC_of a1 ?_
        have c0 := a4.cells (o := 0) (x := some (.cells [I size0, v])) rfl
        have c1 := a4.cells (o := 1) (x := some (.cells [I size])) rfl
        have c2 := a4.cells (o := 2) (x := some (.cells [I 0, nilSl])) rfl
        have hl2 := a4.1
        simp only [List.length_cons, List.length_nil] at hl2
        have hwo := oneA_owned a2
        have id0 : ∀ j, j < 3 → j ∉ idS w := fun j hj h => by have := a5 j h; simp at this; omega
        have hs0 := okL_srt h1.2.2
        have hno := fun x hx => (okL_all h1.2.2 x hx)
        rw [ast_ptr (n := 2) (off := 0) (x := .agg [I size0, w]) (xs := [I size0, w]) (by simp [hwo]) c0 rfl (by simp)]
        simp [c1]
        rw [ast_ptr (n := 1) (off := 0) (xs := [I size]) (cs := [I size0, w]) rfl (List.getElem?_set_self (by omega)) rfl (by simp)]
        simp [show 0 < H2.length by omega]
        have keep0 : ∀ j x, j ≠ 0 → (H2.set 0 x)[j]? = H2[j]? := fun j x hj => List.getElem?_set_ne (by omega)
        have hw1 : sliceCells (H2.set 0 (some (.cells [I size, w]))) 9 w = some (l.flatMap encE, l.length) := sliceCells_keep a3 fun i hi => keep0 i _ (fun h => id0 0 (by omega) (h ▸ hi))
        obtain ⟨r2, H3, ⟨b1, b2, b3, b4, b5⟩, b6⟩ := ext_DeleteFunc_c (k := 47) hw1 a2 (by omega) (oc := 1) (c := [I size]) (by rw [keep0 1 _ (by omega)]; exact c1) (id0 1 (by omega)) (trunc_del size l fun x hx => by have := hno x hx; omega)
        have hfe : (l.filter fun x => !decide (size ≤ x.no * 8)) = l.filter fun x => decide (x.no * 8 < size) := List.filter_congr fun x _ => by
          by_cases c : size ≤ x.no * 8
          · simp [c, show ¬ x.no * 8 < size by omega]
          · simp [c, show x.no * 8 < size by omega]
        rw [hfe] at b2
        refine bC_of b6 ?_
        simp at b3
        have id3 : ∀ j, j < 3 → j ∉ idS r2 := fun j hj h => id0 j hj (b5 j h)
        have d0 : H3[0]? = some (some (.cells [I size, w])) := by rw [b4 0 (by simp; omega) (id0 0 (by omega))]; exact List.getElem?_set_self (by omega)
        have d1 : H3[1]? = some (some (.cells [I size])) := by rw [b4 1 (by simp; omega) (id0 1 (by omega)), keep0 1 _ (by omega)]; exact c1
        have d2 : H3[2]? = some (some (.cells [I 0, nilSl])) := by rw [b4 2 (by simp; omega) (id0 2 (by omega)), keep0 2 _ (by omega)]; exact c2
        have hr2 := oneA_owned b1
        rw [ast_ptr (n := 1) (off := 1) (xs := [r2]) (cs := [I size, w]) (cellsA_one hr2) d0 rfl (by simp)]
        have hfl : (l.filter fun x => decide (x.no * 8 < size)).length ≤ l.length := List.length_filter_le _ _
        have hfm : ∀ x ∈ (l.filter fun x => decide (x.no * 8 < size)), 0 ≤ x.no ∧ x.no < 137438953472 := fun x hx => by
          have := hno x (List.mem_filter.1 hx).1; omega
        have hte : truncL l size = (l.filter fun x => decide (x.no * 8 < size)).map fun x => wipeE x size 1099511627776 := rfl
        generalize (l.filter fun x => decide (x.no * 8 < size)) = F at b2 hfl hfm hte
        simp [show 0 < H3.length by omega, alnS_spec b2]
        have hsp : MaySpan ⟨size, 1099511627776 - size⟩ := by simp only [MaySpan, May]; omega
        refine extent_Truncate_L9_rule (fun t x2 x3 x4 x30 x31 H => ∃ i : Nat, i + t = F.length ∧ x2 = .ptr 0 0 ∧ x3 = .ptr 1 0 ∧ x4 = .ptr 2 0 ∧ x30 = I F.length ∧ x31 = I i ∧ H[0]? = some (some (.cells [I size, r2])) ∧ H[1]? = some (some (.cells [I size])) ∧ H[2]? = some (some (.cells [I 0, nilSl])) ∧
          sliceCells H 9 r2 = some (((F.take i).map (fun x => wipeE x size 1099511627776) ++ F.drop i).flatMap encE, ((F.take i).map (fun x => wipeE x size 1099511627776) ++ F.drop i).length)) ?_ F.length
          ⟨0, by omega, rfl, rfl, rfl, rfl, rfl, List.getElem?_set_self (by omega), (List.getElem?_set_ne (by omega)).trans d1, (List.getElem?_set_ne (by omega)).trans d2, ?_⟩
        · rintro t x2 x3 x4 x30 x31 H R hR ⟨i, hi, rfl, rfl, rfl, rfl, rfl, e0, e1, e2, e3⟩
          unfold extent_Truncate_L9_b
          have hH0 := (List.getElem?_eq_some_iff.1 e0).1
          have hH1 := (List.getElem?_eq_some_iff.1 e1).1
          have hH2 := (List.getElem?_eq_some_iff.1 e2).1
          rcases Nat.lt_or_ge i F.length with hlt | hge
          · have hx := List.getElem?_eq_getElem hlt
            generalize F[i] = x at hx
            obtain ⟨x0, x1⟩ := hfm x (List.mem_of_getElem? hx)
            obtain ⟨p, H', f1, f2, f3, f4, f5⟩ := sl_wipe (s := ⟨size, 1099511627776 - size⟩) e3 b1 (map_get hx) (a := i) rfl hsp x0 x1
            simp only [show size + (1099511627776 - size) = 1099511627776 by omega] at f5
            rw [map_set (f := fun x => wipeE x size 1099511627776) hx] at f5
            simp [hlt, e0, e1, f1, abI_sub (a := 1099511627776) (b := size) (by omega) (by omega)]
            refine bC_of f2 ?_
            simp [abI_add (a := i) (b := 1) (by omega) (by omega)]
            refine hR (t - 1) _ _ _ _ _ _ (by omega) ⟨i + 1, by omega, rfl, rfl, rfl, rfl, rfl, by rw [f4 0 hH0 (id3 0 (by omega))]; exact e0, by rw [f4 1 hH1 (id3 1 (by omega))]; exact e1, by rw [f4 2 hH2 (id3 2 (by omega))]; exact e2, by rw [f5, map_len, map_len]⟩
          · have : i = F.length := by omega
            subst this
            simp [e0, rdCells]
            rw [ast_ptr (n := 2) (off := 0) (xs := [I size, r2]) (cs := [I 0, nilSl]) (by simp [hr2]) e2 rfl (by simp)]
            simp [hH2]
            rw [List.take_length, List.drop_length, List.append_nil, ← hte] at e3
            exact ContK.some hw (sliceCells_keep e3 fun i hi => by
              have h2 : 3 ≤ i := Nat.le_of_not_lt fun h => id3 i h hi
              rw [List.getElem?_set_ne (by omega)])
        · simp only [List.take_zero, List.map_nil, List.nil_append, List.drop_zero]
          exact sliceCells_keep b2 fun i hi => by
            have h2 : 3 ≤ i := Nat.le_of_not_lt fun h => id3 i h hi
            rw [List.getElem?_set_ne (by omega)]
  · have hn : truncC (size0, l) size = none := if_neg (fun h => h1 h.1)
    simp [h1, ast]
    exact ContK.none hn
theorem within_gone {no pos n : Int} (h : maySp pos n) (h0 : 0 ≤ no) (h1 : no < 137438953472) : (!decide (Within ⟨no * 8, 8⟩ ⟨pos, n⟩)) = !gone pos n no := by
  have e : Within ⟨no * 8, 8⟩ ⟨pos, n⟩ ↔ (pos ≤ no * 8 ∧ no * 8 + 8 ≤ pos + n) := by
    rw [within_iff]
    unfold Within' MaySpan May
    unfold maySp at h
    simp only
    omega
  unfold gone
  by_cases c1 : pos ≤ no * 8 <;> by_cases c2 : no * 8 + 8 ≤ pos + n <;> simp [e, c1, c2]
theorem extent_Punch_p {size : Int} {l : List Ext} {v : AV} (hv : SV encE 9 l v) (hl : l.length ≤ 1000000) (pos n : Int) :
    ∃ R, SV encE 9 (cL (punchC (size, l) pos n)) R ∧ BPure Try.prog 28 [.agg [I size, v], I pos, I n] (.tup [.agg [I (cS (punchC (size, l) pos n)), R], B (punchC (size, l) pos n).isSome]) := by
  refine BPure.cont (by simp [noIdss, noIds, hv.1]) (extent_Punch_ok ?_)
  unfold extent_Punch
  simp [oneA_sv hv, rdCells]
  refine bP_pure (extent_May_p hv (by omega)) ?_
  by_cases h1 : mayC size l
  · simp [h1]
    refine bP_pure (extent_span_p pos n) ?_
    by_cases h2 : maySp pos n
    · have hw : punchC (size, l) pos n = some (size, punchL l pos n) := if_pos ⟨h1, h2⟩
      have h2' := h2
      obtain ⟨g1, g2, g3, g4⟩ := h2'
      simp [h2]
      obtain ⟨r, H2, ⟨w, rfl, a2, a3, a4, a5⟩, a1⟩ := copied_c (size := size) (hv.2 [some (.cells [I size, v]), some (.cells [I 0, nilSl])]) (oneA_sv hv) (by omega)
      refine bC_of a1 ?_
      have c0 := a4.cells (o := 0) (x := some (.cells [I size, v])) rfl
      have c2 := a4.cells (o := 1) (x := some (.cells [I 0, nilSl])) rfl
      have hl2 := a4.1
      simp only [List.length_cons, List.length_nil] at hl2
      have hwo := oneA_owned a2
      have id0 : ∀ j, j < 2 → j ∉ idS w := fun j hj h => by have := a5 j h; simp at this; omega
      have hs0 := okL_srt h1.2.2
      have hno := fun x hx => (okL_all h1.2.2 x hx)
      rw [ast_ptr (n := 2) (off := 0) (x := .agg [I size, w]) (xs := [I size, w]) (by simp [hwo]) c0 rfl (by simp)]
      simp
      rw [ast_ptr (n := 2) (off := 0) (x := .agg [I pos, I n]) (xs := [I pos, I n]) (cs := [I 0, I 0]) (by simp) (by rw [List.getElem?_append_right (by simp)]; simp) rfl (by simp)]
      have hset : ((H2.set 0 (some (AObj.cells [I size, w]))) ++ [some (AObj.cells [I 0, I 0])]).set H2.length (some (AObj.cells (splice [I 0, I 0] 0 [I pos, I n]))) = (H2.set 0 (some (AObj.cells [I size, w]))) ++ [some (AObj.cells [I pos, I n])] := by
        rw [List.set_append_right _ _ (by simp)]; simp
      rw [hset]
      have g := Grew.app (H2.set 0 (some (AObj.cells [I size, w]))) [some (.cells [I pos, I n])]
      have keep0 : ∀ j x, j ≠ 0 → (H2.set 0 x)[j]? = H2[j]? := fun j x hj => List.getElem?_set_ne (by omega)
      have z0 := g.cells (o := 0) (x := some (.cells [I size, w])) (List.getElem?_set_self (by omega))
      have z1 := g.cells (o := 1) (x := some (.cells [I 0, nilSl])) (by rw [keep0 1 _ (by omega)]; exact c2)
      have z2 : (H2.set 0 (some (AObj.cells [I size, w])) ++ [some (AObj.cells [I pos, I n])])[H2.length]? = some (some (.cells [I pos, I n])) := by rw [List.getElem?_append_right (by simp)]; simp
      have zid : H2.length ∉ idS w := fun h => by have := sliceCells_lt a3 _ h; omega
      have hlen3 : (H2.set 0 (some (AObj.cells [I size, w])) ++ [some (AObj.cells [I pos, I n])]).length = H2.length + 1 := by simp
      have hw1 := g.slice (sliceCells_keep (H' := H2.set 0 (some (AObj.cells [I size, w]))) a3 fun i hi => keep0 i _ (fun h => id0 0 (by omega) (h ▸ hi)))
      generalize hH3 : (H2.set 0 (some (AObj.cells [I size, w])) ++ [some (AObj.cells [I pos, I n])]) = H3 at g z0 z1 z2 hw1 hlen3
      generalize H2.length = so at z2 zid hlen3 hl2
      simp [z0]
      obtain ⟨r2, H4, ⟨b1, b2, b3, b4, b5⟩, b6⟩ := ext_DeleteFunc_c (k := 49) hw1 a2 (by omega) (oc := so) (c := encSp ⟨pos, n⟩) z2 zid (punch_del so ⟨pos, n⟩ l fun x hx => by have := hno x hx; omega)
      have hfe : (l.filter fun x => !decide (Within ⟨x.no * 8, 8⟩ ⟨pos, n⟩)) = l.filter fun x => !gone pos n x.no := List.filter_congr fun x hx => by
        have := hno x hx
        exact within_gone h2 (by omega) (by omega)
      rw [hfe] at b2
      refine bC_of b6 ?_
      have id3 : ∀ j, j < 2 → j ∉ idS r2 := fun j hj h => id0 j hj (b5 j h)
      have id4 : so ∉ idS r2 := fun h => zid (b5 so h)
      have d0 : H4[0]? = some (some (.cells [I size, w])) := by rw [b4 0 (by omega) (id0 0 (by omega))]; exact z0
      have d1 : H4[1]? = some (some (.cells [I 0, nilSl])) := by rw [b4 1 (by omega) (id0 1 (by omega))]; exact z1
      have d2 : H4[so]? = some (some (.cells [I pos, I n])) := by rw [b4 so (by omega) zid]; exact z2
      have hr2 := oneA_owned b1
      rw [ast_ptr (n := 1) (off := 1) (xs := [r2]) (cs := [I size, w]) (cellsA_one hr2) d0 rfl (by simp)]
      have hfl : (l.filter fun x => !gone pos n x.no).length ≤ l.length := List.length_filter_le _ _
      have hfm : ∀ x ∈ (l.filter fun x => !gone pos n x.no), 0 ≤ x.no ∧ x.no < 137438953472 := fun x hx => by
        have := hno x (List.mem_filter.1 hx).1; omega
      have hte : punchL l pos n = (l.filter fun x => !gone pos n x.no).map fun x => wipeE x pos (pos + n) := rfl
      generalize (l.filter fun x => !gone pos n x.no) = F at b2 hfl hfm hte
      simp [show 0 < H4.length by omega, alnS_spec b2]
      have hsp : MaySpan ⟨pos, n⟩ := by simp only [MaySpan, May]; omega
      refine extent_Punch_L9_rule (fun t x3 x6 x8 x32 x33 H => ∃ i : Nat, i + t = F.length ∧ x3 = .ptr 0 0 ∧ x6 = .ptr 1 0 ∧ x8 = .ptr so 0 ∧ x32 = I F.length ∧ x33 = I i ∧ H[0]? = some (some (.cells [I size, r2])) ∧ H[1]? = some (some (.cells [I 0, nilSl])) ∧ H[so]? = some (some (.cells [I pos, I n])) ∧
        sliceCells H 9 r2 = some (((F.take i).map (fun x => wipeE x pos (pos + n)) ++ F.drop i).flatMap encE, ((F.take i).map (fun x => wipeE x pos (pos + n)) ++ F.drop i).length)) ?_ F.length
        ⟨0, by omega, rfl, rfl, rfl, rfl, rfl, List.getElem?_set_self (by omega), (List.getElem?_set_ne (by omega)).trans d1, (List.getElem?_set_ne (by omega)).trans d2, ?_⟩
      · rintro t x3 x6 x8 x32 x33 H R hR ⟨i, hi, rfl, rfl, rfl, rfl, rfl, e0, e1, e2, e3⟩
        unfold extent_Punch_L9_b
        have hH0 := (List.getElem?_eq_some_iff.1 e0).1
        have hH1 := (List.getElem?_eq_some_iff.1 e1).1
        have hH2 := (List.getElem?_eq_some_iff.1 e2).1
        rcases Nat.lt_or_ge i F.length with hlt | hge
        · have hx := List.getElem?_eq_getElem hlt
          generalize F[i] = x at hx
          obtain ⟨x0, x1⟩ := hfm x (List.mem_of_getElem? hx)
          obtain ⟨p, H', f1, f2, f3, f4, f5⟩ := sl_wipe (s := ⟨pos, n⟩) e3 b1 (map_get hx) (a := i) rfl hsp x0 x1
          rw [map_set (f := fun x => wipeE x pos (pos + n)) hx] at f5
          simp [hlt, e0, e2, f1, rdCells]
          refine bC_of f2 ?_
          simp [abI_add (a := i) (b := 1) (by omega) (by omega)]
          refine hR (t - 1) _ _ _ _ _ _ (by omega) ⟨i + 1, by omega, rfl, rfl, rfl, rfl, rfl, by rw [f4 0 hH0 (id3 0 (by omega))]; exact e0, by rw [f4 1 hH1 (id3 1 (by omega))]; exact e1, by rw [f4 so hH2 id4]; exact e2, by rw [f5, map_len, map_len]⟩
        · have : i = F.length := by omega
          subst this
          simp [e0, rdCells]
          rw [ast_ptr (n := 2) (off := 0) (xs := [I size, r2]) (cs := [I 0, nilSl]) (by simp [hr2]) e1 rfl (by simp)]
          simp [hH1]
          rw [List.take_length, List.drop_length, List.append_nil, ← hte] at e3
          exact ContK.some hw (sliceCells_keep e3 fun i hi => by
            have h2 : 2 ≤ i := Nat.le_of_not_lt fun h => id3 i h hi
            rw [List.getElem?_set_ne (by omega)])
      · simp only [List.take_zero, List.map_nil, List.nil_append, List.drop_zero]
        exact sliceCells_keep b2 fun i hi => by
          have h2 : 2 ≤ i := Nat.le_of_not_lt fun h => id3 i h hi
          rw [List.getElem?_set_ne (by omega)]
    · have hn : punchC (size, l) pos n = none := if_neg (fun h => h2 h.2)
      simp [h2, ast]
      exact ContK.none hn
  · have hn : punchC (size, l) pos n = none := if_neg (fun h => h1 h.1)
    simp [h1, ast]
    exact ContK.none hn
end Go.Proofs.Ytflodknflaallaa.Av
