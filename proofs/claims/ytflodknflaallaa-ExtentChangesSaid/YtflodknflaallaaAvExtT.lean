/- Chapter 11: what is read. -/
import Derived.Test.YtflodknflaallaaAvExtS
set_option linter.unusedVariables false
set_option linter.unusedSimpArgs false
set_option maxRecDepth 100000
namespace Go.Proofs.Ytflodknflaallaa.Av
open Go Go.RowKit

/-- The byte at a place. -/
def atL (l : List Ext) (p : Int) : UInt8 := match l.find? fun x => decide (x.no = p / 8) with
  | some x => x.b.getD (p % 8).toNat 0
  | none => 0
theorem atL_none {l : List Ext} {p : Int} (h : ¬ hasL l (p / 8)) : atL l p = 0 := by
  have : l.find? (fun x => decide (x.no = p / 8)) = none := by
    rw [List.find?_eq_none]
    intro x hx he
    exact h ⟨x, hx, by simpa using he⟩
  unfold atL; rw [this]
theorem atL_some {l : List Ext} (hs : srt l) {p : Int} {k : Nat} {x : Ext} (hx : l[k]? = some x) (he : x.no = p / 8) : atL l p = x.b.getD (p % 8).toNat 0 := by
  have : l.find? (fun x => decide (x.no = p / 8)) = some x := by
    rw [List.find?_eq_some_iff_getElem]
    obtain ⟨h1, h2⟩ := List.getElem?_eq_some_iff.1 hx
    refine ⟨by simp [he], k, h1, h2, ?_⟩
    intro j hj
    have := srt_get hs (List.getElem?_eq_getElem (Nat.lt_trans hj h1)) hx hj
    simp; omega
  unfold atL; rw [this]
def inC (size : Int) (l : List Ext) (pos n : Int) : Prop := mayC size l ∧ 0 ≤ pos ∧ 0 ≤ n ∧ n ≤ 4096 ∧ pos < size
instance (size : Int) (l : List Ext) (pos n : Int) : Decidable (inC size l pos n) := by unfold inC; infer_instance
def bytesL (l : List Ext) (pos : Int) (k : Nat) : List UInt8 := (List.range k).map fun (i : Nat) => atL l (pos + (i : Int))
theorem bytesL_len (l : List Ext) (pos : Int) (k : Nat) : (bytesL l pos k).length = k := by simp [bytesL]
theorem bytesL_succ (l : List Ext) (pos : Int) (k : Nat) : bytesL l pos (k + 1) = bytesL l pos k ++ [atL l (pos + k)] := by simp [bytesL, List.range_succ]
/-- What is read. -/
def readC (size : Int) (l : List Ext) (pos n : Int) : List UInt8 := if inC size l pos n then bytesL l pos (min n (size - pos)).toNat else []
theorem ref_At_p {size : Int} {l : List Ext} {v : AV} (hv : SV encE 9 l v) (hs : srt l) (hl : l.length ≤ 281474976710656) (pos : Int) (h0 : 0 ≤ pos) (h1 : pos ≤ 9223372036854775807) :
    BPure Try.prog 44 [.agg [I size, v], I pos] (.lit (.int .u8 (atL l pos).toNat)) := BPure.val (by simp [noIdss, noIds, hv.1]) rfl (salvorref11_At_ok (by
  unfold salvorref11_At
  simp [oneA_sv hv, rdCells, abI_quo (a := pos) (b := 8) (by omega) (by omega)]
  refine bP_pure (ref_find_p hv hs hl (pos / 8)) ?_
  by_cases c : hasL l (pos / 8)
  · obtain ⟨x, hx, he⟩ := (hasL_iff hs).1 c
    have hb := x.hb
    have hr : (pos % 8) = ((pos % 8).toNat : Int) := by omega
    have hy := List.getElem?_eq_getElem (l := x.b) (i := (pos % 8).toNat) (by omega)
    generalize hu : x.b[(pos % 8).toNat]'(by omega) = u at hy
    obtain ⟨q, e1, e2⟩ := aixA_b (t := (l.drop (posL l (pos / 8) + 1)).flatMap encE) (H := [some (.cells [I size, v])]) hy (by omega)
    have e0 : (encE x ++ (l.drop (posL l (pos / 8) + 1)).flatMap encE).drop 1 = encB x.b ++ (l.drop (posL l (pos / 8) + 1)).flatMap encE := rfl
    rw [← hr] at e1
    have hn : ¬ ((posL l (pos / 8) : Nat) : Int) < 0 := by omega
    simp [c, hn, hv.idx encE_len hx rfl, abI_rem (a := pos) (b := 8) (by omega) (by omega), e0, e1, e2, atL_some hs hx he, List.getD_eq_getElem?_getD, hy]
  · simp [c, atL_none c]))
theorem ref_ReadContent_p {size : Int} {l : List Ext} {v : AV} (hv : SV encE 9 l v) (hl : l.length ≤ 281474976710656) (pos n : Int) :
    ∃ r, SV encU 1 (readC size l pos n) r ∧ BPure Try.prog 25 [.agg [I size, v], I pos, I n] r := by
  unfold SV
  simp only [flat_encU]
  have : ∃ r, (noIds r = true ∧ ∀ H, sliceCells H 1 r = some (encB (readC size l pos n), (readC size l pos n).length)) ∧ BPure Try.prog 25 [.agg [I size, v], I pos, I n] r := by
    refine BPure.sl (sz := 1) (by simp [noIdss, noIds, hv.1]) (noIdss_encB _) (salvorref11_ReadContent_ok ?_)
    unfold salvorref11_ReadContent
    simp [oneA_sv hv, rdCells]
    refine bP_pure (ref_MayContent_p hv hl) ?_
    have nix : ∀ H, ¬ inC size l pos n → sliceCells H 1 (.lit (.slice none 0 0)) = some (encB (readC size l pos n), (readC size l pos n).length) := by
      intro H h
      have : readC size l pos n = [] := if_neg h
      rw [this]; rfl
    by_cases h1 : mayC size l
    · by_cases h2 : pos < 0
      · simp [h1, h2, nix _ (fun h => by have := h.2.1; omega)]
      · by_cases h3 : n < 0
        · simp [h1, h2, h3, nix _ (fun h => by have := h.2.2.1; omega)]
        · by_cases h4 : 4096 < n
          · simp [h1, h2, h3, h4, nix _ (fun h => by have := h.2.2.2.1; omega)]
          · simp [h1, h2, h3, h4]
            have hs := okL_srt h1.2.2
            have hsz := h1.2.1
            have hsz0 := h1.1
            have hm : ∃ m : Nat, (m = min n (size - pos) ∨ (size ≤ pos ∧ m = 0)) ∧ readC size l pos n = bytesL l pos m := by
              by_cases h5 : pos < size
              · exact ⟨(min n (size - pos)).toNat, .inl (by omega), if_pos ⟨h1, by omega, by omega, by omega, h5⟩⟩
              · refine ⟨0, .inr ⟨by omega, rfl⟩, (if_neg (fun h => h5 h.2.2.2.2)).trans rfl⟩
            obtain ⟨m, hm, hr⟩ := hm
            rw [hr, bytesL_len]
            refine salvorref11_ReadContent_L7_rule (fun q x1 x2 x3 x7 x8 H' => ∃ k : Nat, k + q = m ∧ x1 = I pos ∧ x2 = I n ∧ x3 = .ptr 0 0 ∧ x8 = I k ∧ H'[0]? = some (some (.cells [I size, v])) ∧ ownedS x7 = true ∧ sliceCells H' 1 x7 = some (encB (bytesL l pos k), k) ∧ 0 ∉ idS x7) ?_ m ⟨0, by omega, rfl, rfl, rfl, rfl, rfl, rfl, rfl, by simp [idS]⟩
            rintro q x1 x2 x3 x7 x8 H R hR ⟨k, hk, rfl, rfl, rfl, rfl, hH, ho, hsl, hid⟩
            unfold salvorref11_ReadContent_L7_b
            by_cases hc : k < m
            · have c1 : (k : Int) < n := by omega
              have c2 : pos < size - k := by omega
              simp [c1, hH, abI_sub (a := size) (b := k) (by omega) (by omega), c2, rdCells, abI_add (a := pos) (b := k) (by omega) (by omega)]
              refine bP_pure (ref_At_p hv hs hl (pos + k) (by omega) (by omega)) ?_
              have hH0 := (List.getElem?_eq_some_iff.1 hH).1
              have hs1 : sliceCells (H ++ [some (.cells (encB [atL l (pos + k)]))]) 1 x7 = some (encB (bytesL l pos k), k) := sliceCells_keep hsl fun i hi => List.getElem?_append_left (sliceCells_lt hsl i hi)
              obtain ⟨r, H2, a1, a2, a3, a4, a5, a6⟩ := aap_spec (bytes := 1) hs1 ho (appended_slice (v := .sl H.length 0 1 1 (.ex 1)) (q := (encB [atL l (pos + k)], 1)) (by simp [sliceCells, encB])) (by omega)
              have e : encB [atL l (pos + k)] = [.lit (.int .u8 (atL l (pos + k)).toNat)] := rfl
              rw [e] at a1 a5
              have hH2 : H2[0]? = some (some (.cells [I size, v])) := by
                rw [a5 0 (by simp) hid, List.getElem?_append_left hH0]; exact hH
              simp [a1, abI_add (a := k) (b := 1) (by omega) (by omega)]
              refine hR (q - 1) _ _ _ _ _ _ (by omega) ⟨k + 1, by omega, rfl, rfl, rfl, rfl, hH2, a2, ?_, fun hi => (a6 0 hi).elim hid (by simp)⟩
              rw [a3, bytesL_succ, encB_app]
            · have c1 : ¬ ((k : Int) < n ∧ pos < size - k) := by omega
              have hkm : k = m := by omega
              subst hkm
              by_cases c2 : (k : Int) < n
              · have c3 : ¬ pos < size - k := fun h => c1 ⟨c2, h⟩
                simp [c2, hH, abI_sub (a := size) (b := k) (by omega) (by omega), c3, hsl]
              · simp [c2, hsl]
    · simp [h1, nix _ (fun h => h1 h.1)]
  exact this

theorem srt_take {l : List Ext} (h : srt l) (k : Nat) : srt (l.take k) := List.Pairwise.sublist (List.take_sublist k l) h
theorem atL_succ {l : List Ext} (hs : srt l) {k : Nat} {y : Ext} (hx : l[k]? = some y) (p : Int) : atL (l.take (k + 1)) p = if y.no = p / 8 then y.b.getD (p % 8).toNat 0 else atL (l.take k) p := by
  split
  · rename_i h
    exact atL_some (srt_take hs (k + 1)) (k := k) (by rw [List.getElem?_take, if_pos (by omega)]; exact hx) h
  · rename_i h
    unfold atL
    rw [List.take_add_one, hx, List.find?_append]
    simp [h]
theorem bytesL_get {l : List Ext} {pos : Int} {m i : Nat} : (bytesL l pos m)[i]? = if i < m then some (atL l (pos + i)) else none := by
  unfold bytesL
  rw [List.getElem?_map]
  by_cases h : i < m
  · simp [h]
  · simp [h]
theorem read_skip {l : List Ext} (hs : srt l) {k m : Nat} {y : Ext} (hx : l[k]? = some y) {pos : Int} (h : ¬ max (y.no * 8) pos < min (y.no * 8 + 8) (pos + m)) : bytesL (l.take (k + 1)) pos m = bytesL (l.take k) pos m := by
  refine List.ext_getElem? fun i => ?_
  rw [bytesL_get, bytesL_get]
  split
  · rw [atL_succ hs hx, if_neg (by omega)]
  · rfl
theorem read_step {l : List Ext} (hs : srt l) {k m : Nat} {y : Ext} (hx : l[k]? = some y) {pos : Int} {off from' mlen : Nat} (h : max (y.no * 8) pos < min (y.no * 8 + 8) (pos + m))
    (h1 : (off : Int) = max (y.no * 8) pos - pos) (h2 : (from' : Int) = max (y.no * 8) pos - y.no * 8) (h3 : (mlen : Int) = min (y.no * 8 + 8) (pos + m) - max (y.no * 8) pos) :
    (bytesL (l.take k) pos m).take off ++ ((y.b.drop from').take mlen) ++ (bytesL (l.take k) pos m).drop (off + mlen) = bytesL (l.take (k + 1)) pos m := by
  have hb := y.hb
  refine List.ext_getElem? fun i => ?_
  have hl1 : ((bytesL (l.take k) pos m).take off).length = off := by rw [List.length_take, bytesL_len]; omega
  have hl2 : ((y.b.drop from').take mlen).length = mlen := by rw [List.length_take, List.length_drop]; omega
  by_cases c1 : i < off
  · rw [List.append_assoc, List.getElem?_append_left (by omega), List.getElem?_take, if_pos c1, bytesL_get, bytesL_get]
    split
    · rw [atL_succ hs hx, if_neg (by omega)]
    · rfl
  · by_cases c2 : i < off + mlen
    · rw [List.getElem?_append_left (by rw [List.length_append]; omega), List.getElem?_append_right (by omega), hl1, List.getElem?_take, if_pos (by omega), List.getElem?_drop, bytesL_get, if_pos (by omega), atL_succ hs hx, if_pos (by omega)]
      rw [show ((pos + (i : Int)) % 8).toNat = from' + (i - off) by omega]
      rw [List.getD_eq_getElem?_getD, List.getElem?_eq_getElem (by omega)]
      simp
    · rw [List.getElem?_append_right (by rw [List.length_append]; omega), List.length_append, hl1, hl2, List.getElem?_drop, bytesL_get, bytesL_get, show off + mlen + (i - (off + mlen)) = i by omega]
      split
      · rw [atL_succ hs hx, if_neg (by omega)]
      · rfl
theorem over_encB (a b : List UInt8) (off : Nat) : over (encB a) off (encB b) = encB (a.take off ++ b ++ a.drop (off + b.length)) := by
  unfold over
  rw [encB_len, encB_take, encB_drop, encB_app, encB_app]
theorem zrow_bytes (l : List Ext) (pos : Int) (m : Nat) : List.replicate m (AV.lit (.int .u8 0)) = encB (bytesL (l.take 0) pos m) := by
  refine List.ext_getElem? fun i => ?_
  rw [encB_get, bytesL_get, List.getElem?_replicate]
  by_cases h : i < m
  · rw [if_pos h, if_pos h]
    simp [atL]
  · rw [if_neg h, if_neg h]
    rfl
theorem extent_Read_p {size : Int} {l : List Ext} {v : AV} (hv : SV encE 9 l v) (hl : l.length ≤ 281474976710656) (pos n : Int) :
    ∃ r, SV encU 1 (readC size l pos n) r ∧ BPure Try.prog 15 [.agg [I size, v], I pos, I n] r := by
  unfold SV
  simp only [flat_encU]
  have : ∃ r, (noIds r = true ∧ ∀ H, sliceCells H 1 r = some (encB (readC size l pos n), (readC size l pos n).length)) ∧ BPure Try.prog 15 [.agg [I size, v], I pos, I n] r := by
    refine BPure.sl (sz := 1) (by simp [noIdss, noIds, hv.1]) (noIdss_encB _) (extent_Read_ok ?_)
    unfold extent_Read
    simp [oneA_sv hv, rdCells]
    refine bP_pure (extent_May_p hv hl) ?_
    have nix : ∀ H, ¬ inC size l pos n → sliceCells H 1 (.lit (.slice none 0 0)) = some (encB (readC size l pos n), (readC size l pos n).length) := by
      intro H h
      have : readC size l pos n = [] := if_neg h
      rw [this]; rfl
    by_cases h1 : mayC size l
    · by_cases h2 : pos < 0
      · simp [h1, h2, nix _ (fun h => by have := h.2.1; omega)]
      · by_cases h3 : n < 0
        · simp [h1, h2, h3, nix _ (fun h => by have := h.2.2.1; omega)]
        · by_cases h4 : 4096 < n
          · simp [h1, h2, h3, h4, nix _ (fun h => by have := h.2.2.2.1; omega)]
          · by_cases h5 : size ≤ pos
            · simp [h1, h2, h3, h4, h5, nix _ (fun h => by have := h.2.2.2.2; omega)]
            · have hs := okL_srt h1.2.2
              have hsz := h1.2.1
              have hsz0 := h1.1
              have hr : readC size l pos n = bytesL l pos (min n (size - pos)).toNat := if_pos ⟨h1, by omega, by omega, by omega, by omega⟩
              rw [hr, bytesL_len]
              obtain ⟨m, hm⟩ : ∃ m : Nat, (m : Int) = min n (size - pos) := ⟨(min n (size - pos)).toNat, by omega⟩
              have hm' : min (size - pos) n = (m : Int) := by omega
              rw [show (min n (size - pos)).toNat = m by omega]
              simp [h1, h2, h3, h4, h5, abI_sub (a := size) (b := pos) (by omega) (by omega), hm', amk, show (m : Int) ≤ 281474976710656 by omega, show (m : Int) ≤ 9223372036854775807 by omega, hv.len]
              have hz := zrow_bytes l pos m
              refine extent_Read_L8_rule (fun q x1 x2 x7 x41 x42 x43 H' => ∃ k : Nat, k + q = l.length ∧ x1 = I pos ∧ x2 = I m ∧ x7 = .sl 1 0 m 1 (.ex m) ∧ x41 = v ∧ x42 = I l.length ∧ x43 = I k ∧ ∃ X, H' = some (.cells [I size, v]) :: some (.cells (encB (bytesL (l.take k) pos m))) :: X) ?_ l.length ⟨0, by omega, rfl, rfl, rfl, rfl, rfl, rfl, [], by rw [← hz]⟩
              rintro q x1 x2 x7 x41 x42 x43 H R hR ⟨k, hk, rfl, rfl, rfl, rfl, rfl, rfl, X, rfl⟩
              unfold extent_Read_L8_b
              rcases Nat.lt_or_ge k l.length with hlt | hge
              · have hx := List.getElem?_eq_getElem hlt
                generalize l[k] = y at hx
                have hy := okL_all h1.2.2 y (List.mem_of_getElem? hx)
                simp [hlt, hv.idx encE_len hx rfl, -ald_ptr']
                rw [← List.cons_append, ← List.cons_append, ast_e (by simp) (by rfl)]
                simp
                refine bP_pure (extent_whole_p y.no (by omega) (by omega)) ?_
                have nxt : ∀ Y, (extent_Read_J11 R (I pos) (I m) (.sl 1 0 m 1 (.ex m)) x41 (I l.length) (I k) (some (.cells [I size, x41]) :: some (.cells (encB (bytesL (l.take (k + 1)) pos m))) :: Y) fun r H' => sliceCells H' 1 r = some (encB (bytesL l pos m), m)) := by
                  intro Y
                  rw [extent_Read_J11_eq]
                  unfold extent_Read_J11_b
                  simp [abI_add (a := k) (b := 1) (by omega) (by omega)]
                  exact hR (q - 1) _ _ _ _ _ _ _ (by omega) ⟨k + 1, by omega, rfl, rfl, rfl, rfl, rfl, rfl, Y, rfl⟩
                have w1 : MaySpan ⟨y.no * 8, 8⟩ := by simp only [MaySpan, May]; omega
                have w2 : MaySpan ⟨pos, m⟩ := by simp only [MaySpan, May]; omega
                refine bP_pure (off_Meet_p ⟨y.no * 8, 8⟩ ⟨pos, m⟩) ?_
                by_cases c : max (y.no * 8) pos < min (y.no * 8 + 8) (pos + m)
                · have e : meet ⟨y.no * 8, 8⟩ ⟨pos, m⟩ = ⟨max (y.no * 8) pos, min (y.no * 8 + 8) (pos + m) - max (y.no * 8) pos⟩ := if_pos ⟨w1, w2, c⟩
                  rw [e]
                  obtain ⟨off, ho⟩ : ∃ off : Nat, (off : Int) = max (y.no * 8) pos - pos := ⟨(max (y.no * 8) pos - pos).toNat, by omega⟩
                  obtain ⟨fr, hf⟩ : ∃ fr : Nat, (fr : Int) = max (y.no * 8) pos - y.no * 8 := ⟨(max (y.no * 8) pos - y.no * 8).toNat, by omega⟩
                  obtain ⟨ml, hml⟩ : ∃ ml : Nat, (ml : Int) = min (y.no * 8 + 8) (pos + m) - max (y.no * 8) pos := ⟨(min (y.no * 8 + 8) (pos + m) - max (y.no * 8) pos).toNat, by omega⟩
                  have hst := read_step hs hx c ho hf hml
                  have hb := y.hb
                  have e1 : aslS 1 (.sl 1 0 m 1 (.ex m)) (some (I off)) none none = some (.sl 1 off (m - off) 1 (.ex (m - off))) := by
                    simp [aslS, abnd, Room.least, Room.cut]; omega
                  have e3 : ∀ o, aslS 1 (.sl o (1 + fr) (8 - fr) 1 (.ex (8 - fr))) none (some (I ml)) none = some (.sl o (1 + fr) ml 1 (.ex (8 - fr))) := by
                    intro o
                    simp [aslS, abnd, Room.least, Room.cut]; omega
                  have key : ∀ (HH Y : AH) (o : Nat), HH = some (.cells [I size, x41]) :: some (.cells (encB (bytesL (l.take k) pos m))) :: Y → HH[o]? = some (some (.cells (encE y))) →
                      aslA 8 1 HH (.ptr o 1) (some (I fr)) none = some (.sl o (1 + fr) (8 - fr) 1 (.ex (8 - fr))) ∧
                      acp 1 HH (.sl 1 off (m - off) 1 (.ex (m - off))) (.sl o (1 + fr) ml 1 (.ex (8 - fr))) = some (I ml, some (.cells [I size, x41]) :: some (.cells (encB (bytesL (l.take (k + 1)) pos m))) :: Y) := by
                    intro HH Y o hHH hHo
                    refine ⟨by simp [aslA, abnd, hHo, encE_len]; omega, ?_⟩
                    have a1 : sliceCells HH 1 (.sl o (1 + fr) ml 1 (.ex (8 - fr))) = some (encB ((y.b.drop fr).take ml), ml) := by
                      have : (encE y).drop (1 + fr) = encB (y.b.drop fr) := by
                        rw [Nat.add_comm]
                        show (encB y.b).drop fr = _
                        rw [encB_drop]
                      simp [sliceCells, hHo, encE_len, this, encB_take]
                      omega
                    unfold acp acp0
                    rw [appended_slice a1, hHH]
                    have a2 : min ml (m - off) = ml := by omega
                    have a3 : ((y.b.drop fr).take ml).length = ml := by simp; omega
                    have hle : off ≤ m := by omega
                    simp [encB_len, bytesL_len, a2, encB_take, hle]
                    have a4 : List.take ml (List.take ml (y.b.drop fr)) = (y.b.drop fr).take ml := by rw [List.take_take, Nat.min_self]
                    rw [a4, over_encB, a3, hst]
                  simp [encSp, ast, c, abI_sub (a := max (y.no * 8) pos) (b := pos) (by omega) (by omega), ← ho, e1, abI_mul (a := y.no) (b := 8) (by omega) (by omega), abI_sub (a := max (y.no * 8) pos) (b := y.no * 8) (by omega) (by omega), ← hf, ← hml]
                  obtain ⟨k1, k2⟩ := key _ (X ++ [some (.cells (encE y)), some (.cells [I (max (y.no * 8) pos), I ml])]) (X.length + 1 + 1) rfl (by simp)
                  rw [k1]
                  simp [e3]
                  rw [k2]
                  simp [show 0 < ml by omega]
                  exact nxt _
                · have e : meet ⟨y.no * 8, 8⟩ ⟨pos, m⟩ = ⟨0, 0⟩ := if_neg (fun h => c h.2.2)
                  rw [e]
                  simp [encSp, ast]
                  rw [← read_skip hs hx c]
                  exact nxt _
              · have : k = l.length := by omega
                subst this
                rw [List.take_length]
                simp [sliceCells, encB_len, bytesL_len]
                rw [List.take_of_length_le (by rw [encB_len, bytesL_len]; omega)]
    · simp [h1, nix _ (fun h => h1 h.1)]
  exact this
end Go.Proofs.Ytflodknflaallaa.Av
