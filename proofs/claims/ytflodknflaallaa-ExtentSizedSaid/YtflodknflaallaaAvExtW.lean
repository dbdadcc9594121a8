/- Chapter 11, in plain terms: rising lists of blocks; what writing, another size, room and holes make of them. -/
import Derived.Test.YtflodknflaallaaAvExtT
set_option linter.unusedVariables false
set_option linter.unusedSimpArgs false
set_option maxRecDepth 100000
namespace Go.Proofs.Ytflodknflaallaa.Av
open Go Go.RowKit
/-! two rising lists that have the same blocks with the same bytes -/
theorem srt_mem : ∀ {l m : List Ext}, srt l → srt m → (∀ x, x ∈ l ↔ x ∈ m) → l = m
  | [], [], _, _, _ => rfl
  | [], y :: m, _, _, h => by have := (h y).2 (by simp); simp at this
  | x :: l, [], _, _, h => by have := (h x).1 (by simp); simp at this
  | x :: l, y :: m, hl, hm, h => by
    have hl' := List.pairwise_cons.1 hl
    have hm' := List.pairwise_cons.1 hm
    have e : x = y := by
      rcases List.mem_cons.1 ((h x).1 (by simp)) with e | h1
      · exact e
      · rcases List.mem_cons.1 ((h y).2 (by simp)) with e | h2
        · exact e.symm
        · have := hm'.1 x h1; have := hl'.1 y h2; omega
    subst e
    refine congrArg _ (srt_mem hl'.2 hm'.2 fun z => ?_)
    constructor
    · intro hz
      rcases List.mem_cons.1 ((h z).1 (by simp [hz])) with e | h1
      · have := hl'.1 z hz; rw [e] at this; omega
      · exact h1
    · intro hz
      rcases List.mem_cons.1 ((h z).2 (by simp [hz])) with e | h1
      · have := hm'.1 z hz; rw [e] at this; omega
      · exact h1
theorem ext_eq {x y : Ext} (h1 : x.no = y.no) (h2 : ∀ k, k < 8 → x.b.getD k 0 = y.b.getD k 0) : x = y := by
  obtain ⟨a, b, hb⟩ := x
  obtain ⟨c, d, hd⟩ := y
  simp only at h1 h2
  subst h1
  have : b = d := by
    refine List.ext_getElem (by omega) fun k hk1 hk2 => ?_
    have := h2 k (by omega)
    rw [List.getD_eq_getElem?_getD, List.getD_eq_getElem?_getD, List.getElem?_eq_getElem hk1, List.getElem?_eq_getElem hk2] at this
    simpa using this
  subst this; rfl
theorem mem_get {l : List Ext} {x : Ext} (h : x ∈ l) : ∃ k : Nat, l[k]? = some x := List.mem_iff_getElem?.1 h
theorem at_blk {l : List Ext} (hs : srt l) {x : Ext} (hx : x ∈ l) {k : Nat} (hk : k < 8) : atL l (x.no * 8 + k) = x.b.getD k 0 := by
  obtain ⟨i, hi⟩ := mem_get hx
  rw [atL_some hs hi (by omega), show ((x.no * 8 + (k : Int)) % 8).toNat = k by omega]
theorem srt_ext {l m : List Ext} (hl : srt l) (hm : srt m) (h1 : ∀ no, hasL l no ↔ hasL m no) (h2 : ∀ p, atL l p = atL m p) : l = m := by
  have key : ∀ {l m : List Ext}, srt l → srt m → (∀ no, hasL l no ↔ hasL m no) → (∀ p, atL l p = atL m p) → ∀ x, x ∈ l → x ∈ m := by
    intro l m hl hm h1 h2 x hx
    obtain ⟨y, hy, e⟩ := (h1 x.no).1 ⟨x, hx, rfl⟩
    have : x = y := ext_eq e.symm fun k hk => by
      rw [← at_blk hl hx hk, ← at_blk hm hy hk, h2, e]
    rw [this]; exact hy
  exact srt_mem hl hm fun x => ⟨key hl hm h1 h2 x, key hm hl (fun no => (h1 no).symm) (fun p => (h2 p).symm) x⟩

/-! a block that is needed -/
def newE (no : Int) : Ext := ⟨no, List.replicate 8 0, by simp⟩
def needL (l : List Ext) (no : Int) : List Ext := if hasL l no then l else l.take (posL l no) ++ newE no :: l.drop (posL l no)
theorem posL_mem_lt {l : List Ext} {no : Int} {x : Ext} (h : x ∈ l.take (posL l no)) : x.no < no := by
  obtain ⟨k, hk⟩ := mem_get h
  have h1 := (List.getElem?_eq_some_iff.1 hk).1
  rw [List.length_take] at h1
  rw [List.getElem?_take, if_pos (by omega)] at hk
  exact posL_lt (by omega) hk
theorem posL_mem_ge {l : List Ext} (hs : srt l) {no : Int} {x : Ext} (h : x ∈ l.drop (posL l no)) : no ≤ x.no := by
  obtain ⟨k, hk⟩ := mem_get h
  rw [List.getElem?_drop] at hk
  cases h0 : l[posL l no]? with
  | none => 
    have h1 := (List.getElem?_eq_some_iff.1 hk).1
    rw [List.getElem?_eq_none_iff] at h0; omega
  | some y =>
    have h2 := posL_ge h0
    rcases Nat.eq_zero_or_pos k with h3 | h3
    · subst h3; rw [Nat.add_zero, h0] at hk; injection hk with hk; rw [← hk]; exact h2
    · have := srt_get hs h0 hk (by omega); omega
theorem need_srt {l : List Ext} (hs : srt l) (no : Int) : srt (needL l no) := by
  unfold needL
  split
  · exact hs
  · rename_i h
    have hd : ∀ x ∈ l.drop (posL l no), no < x.no := by
      intro x hx
      have h1 := posL_mem_ge hs hx
      have h2 : x.no ≠ no := fun e => h ⟨x, List.mem_of_mem_drop hx, e⟩
      omega
    refine List.pairwise_append.2 ⟨List.Pairwise.sublist (List.take_sublist _ l) hs, List.pairwise_cons.2 ⟨hd, List.Pairwise.sublist (List.drop_sublist _ l) hs⟩, ?_⟩
    intro a ha b hb
    have h1 := posL_mem_lt ha
    rcases List.mem_cons.1 hb with rfl | hb
    · exact h1
    · have := hd b hb; omega
theorem need_mem {l : List Ext} {no : Int} {x : Ext} : x ∈ needL l no ↔ x ∈ l ∨ (¬ hasL l no ∧ x = newE no) := by
  unfold needL
  split
  · rename_i h; simp [h]
  · rename_i h
    rw [List.mem_append, List.mem_cons]
    have : x ∈ l ↔ x ∈ l.take (posL l no) ∨ x ∈ l.drop (posL l no) := by rw [← List.mem_append, List.take_append_drop]
    rw [this]
    constructor
    · rintro (h1 | h1 | h1)
      · exact .inl (.inl h1)
      · exact .inr ⟨h, h1⟩
      · exact .inl (.inr h1)
    · rintro ((h1 | h1) | ⟨_, h1⟩)
      · exact .inl h1
      · exact .inr (.inr h1)
      · exact .inr (.inl h1)
theorem need_has {l : List Ext} {no a : Int} : hasL (needL l no) a ↔ hasL l a ∨ a = no := by
  unfold hasL
  constructor
  · rintro ⟨x, hx, e⟩
    rcases need_mem.1 hx with h | ⟨_, rfl⟩
    · exact .inl ⟨x, h, e⟩
    · exact .inr e.symm
  · rintro (⟨x, hx, e⟩ | rfl)
    · exact ⟨x, need_mem.2 (.inl hx), e⟩
    · by_cases h : hasL l a
      · obtain ⟨x, hx, e⟩ := h
        exact ⟨x, need_mem.2 (.inl hx), e⟩
      · exact ⟨newE a, need_mem.2 (.inr ⟨h, rfl⟩), rfl⟩
theorem at_mem {l : List Ext} (hs : srt l) {x : Ext} (hx : x ∈ l) {p : Int} (h : x.no = p / 8) : atL l p = x.b.getD (p % 8).toNat 0 := by
  obtain ⟨k, hk⟩ := mem_get hx
  exact atL_some hs hk h
theorem need_at {l : List Ext} (hs : srt l) (no p : Int) : atL (needL l no) p = atL l p := by
  by_cases h : hasL l (p / 8)
  · obtain ⟨x, hx, e⟩ := h
    rw [at_mem hs hx e, at_mem (need_srt hs no) (need_mem.2 (.inl hx)) e]
  · rw [atL_none h]
    by_cases h2 : p / 8 = no
    · rw [at_mem (need_srt hs no) (need_mem.2 (.inr ⟨h2 ▸ h, rfl⟩)) h2.symm]
      have : (p % 8).toNat < 8 := by omega
      simp only [newE]
      rw [List.getD_eq_getElem?_getD, List.getElem?_replicate, if_pos this]; rfl
    · exact atL_none (fun h3 => (need_has.1 h3).elim h h2)
theorem need_pos {l : List Ext} (hs : srt l) (no : Int) : posL (needL l no) no = posL l no := by
  unfold needL
  split
  · rfl
  · rename_i h
    have hp := posL_le l no
    refine posL_eq (by simp; omega) ?_ ?_
    · intro m x hm hx
      rw [List.getElem?_append_left (by rw [List.length_take]; omega), List.getElem?_take, if_pos hm] at hx
      exact posL_lt hm hx
    · intro x hx
      rw [List.getElem?_append_right (by rw [List.length_take]; omega), List.length_take, show posL l no - min (posL l no) l.length = 0 by omega] at hx
      simp at hx; rw [← hx]; simp [newE]
theorem need_get {l : List Ext} (hs : srt l) (no : Int) : ∃ x, (needL l no)[posL l no]? = some x ∧ x.no = no := by
  have := (hasL_iff (need_srt hs no) (no := no)).1 (need_has.2 (.inr rfl))
  rwa [need_pos hs] at this
theorem need_len (l : List Ext) (no : Int) : (needL l no).length ≤ l.length + 1 ∧ l.length ≤ (needL l no).length := by
  have hp := posL_le l no
  unfold needL
  split
  · omega
  · simp; omega

/-! bytes of a block -/
def putE (x : Ext) (off : Nat) (bs : List UInt8) : Ext := if h : off + bs.length ≤ 8 then ⟨x.no, x.b.take off ++ bs ++ x.b.drop (off + bs.length), by have := x.hb; simp; omega⟩ else x
theorem putE_no (x : Ext) (off : Nat) (bs : List UInt8) : (putE x off bs).no = x.no := by unfold putE; split <;> rfl
theorem putE_b {x : Ext} {off : Nat} {bs : List UInt8} (h : off + bs.length ≤ 8) : (putE x off bs).b = x.b.take off ++ bs ++ x.b.drop (off + bs.length) := by unfold putE; rw [dif_pos h]
theorem putE_get {x : Ext} {off : Nat} {bs : List UInt8} (h : off + bs.length ≤ 8) {k : Nat} (hk : k < 8) : (putE x off bs).b.getD k 0 = if off ≤ k ∧ k < off + bs.length then bs.getD (k - off) 0 else x.b.getD k 0 := by
  have hb := x.hb
  have h1 : (x.b.take off).length = off := by rw [List.length_take]; omega
  rw [putE_b h]
  simp only [List.getD_eq_getElem?_getD]
  split
  · rename_i c
    rw [List.getElem?_append_left (by rw [List.length_append]; omega), List.getElem?_append_right (by omega), h1]
  · rename_i c
    by_cases c1 : k < off
    · rw [List.append_assoc, List.getElem?_append_left (by omega), List.getElem?_take, if_pos c1]
    · rw [List.getElem?_append_right (by rw [List.length_append]; omega), List.length_append, h1, List.getElem?_drop]
      congr 2; omega
def putL (l : List Ext) (no : Int) (off : Nat) (bs : List UInt8) : List Ext := l.map fun x => if x.no = no then putE x off bs else x
theorem put_no (no : Int) (off : Nat) (bs : List UInt8) (x : Ext) : (if x.no = no then putE x off bs else x).no = x.no := by split; exact putE_no ..; rfl
theorem srt_map {l : List Ext} {f : Ext → Ext} (hf : ∀ x ∈ l, (f x).no = x.no) (hs : srt l) : srt (l.map f) := by
  unfold srt at *
  rw [List.pairwise_map]
  refine hs.imp_of_mem fun ha hb h => ?_
  rw [hf _ ha, hf _ hb]; exact h
theorem map_has {l : List Ext} {f : Ext → Ext} (hf : ∀ x ∈ l, (f x).no = x.no) {no : Int} : hasL (l.map f) no ↔ hasL l no := by
  unfold hasL
  constructor
  · rintro ⟨y, hy, e⟩
    obtain ⟨x, hx, rfl⟩ := List.mem_map.1 hy
    exact ⟨x, hx, by rw [← e, hf x hx]⟩
  · rintro ⟨x, hx, e⟩
    exact ⟨f x, List.mem_map.2 ⟨x, hx, rfl⟩, by rw [← e, hf x hx]⟩
theorem put_srt {l : List Ext} (hs : srt l) (no : Int) (off : Nat) (bs : List UInt8) : srt (putL l no off bs) := srt_map (fun x _ => put_no ..) hs
theorem put_has {l : List Ext} {no a : Int} {off : Nat} {bs : List UInt8} : hasL (putL l no off bs) a ↔ hasL l a := map_has (fun x _ => put_no ..)
theorem put_at {l : List Ext} (hs : srt l) {no : Int} {off : Nat} {bs : List UInt8} (h : off + bs.length ≤ 8) (hn : hasL l no) (p : Int) :
    atL (putL l no off bs) p = if no * 8 + off ≤ p ∧ p < no * 8 + off + bs.length then bs.getD (p - (no * 8 + off)).toNat 0 else atL l p := by
  by_cases h0 : hasL l (p / 8)
  · obtain ⟨x, hx, e⟩ := h0
    rw [at_mem (x := if x.no = no then putE x off bs else x) (put_srt hs no off bs) (List.mem_map.2 ⟨x, hx, rfl⟩) (by rw [put_no]; exact e), at_mem hs hx e]
    by_cases c : x.no = no
    · rw [if_pos c, putE_get h (by omega)]
      by_cases c2 : no * 8 + off ≤ p ∧ p < no * 8 + off + bs.length
      · rw [if_pos c2, if_pos (by omega)]; congr 1; omega
      · rw [if_neg c2, if_neg (by omega)]
    · rw [if_neg c, if_neg (by omega)]
  · rw [atL_none (by rw [put_has]; exact h0), atL_none h0, if_neg]
    intro c
    have : p / 8 = no := by omega
    exact h0 (this ▸ hn)
theorem put_set {l : List Ext} (hs : srt l) {k : Nat} {x : Ext} (hx : l[k]? = some x) (off : Nat) (bs : List UInt8) : l.set k (putE x off bs) = putL l x.no off bs := by
  refine List.ext_getElem? fun i => ?_
  unfold putL
  rw [List.getElem?_map, List.getElem?_set]
  have hk := (List.getElem?_eq_some_iff.1 hx).1
  by_cases h : k = i
  · subst h
    obtain ⟨h1, h2⟩ := List.getElem?_eq_some_iff.1 hx
    simp [hk, h2]
  · rw [if_neg h]
    cases hi : l[i]? with
    | none => rfl
    | some y =>
      have : y.no ≠ x.no := by
        rcases Nat.lt_or_gt_of_ne h with h | h
        · have := srt_get hs hx hi h; omega
        · have := srt_get hs hi hx h; omega
      simp [this]
/-- Bytes of one block, which is there then. -/
def needPut (l : List Ext) (p : Int) (bs : List UInt8) : List Ext := putL (needL l (p / 8)) (p / 8) (p % 8).toNat bs
theorem np_srt {l : List Ext} (hs : srt l) (p : Int) (bs : List UInt8) : srt (needPut l p bs) := put_srt (need_srt hs _) ..
theorem np_has {l : List Ext} {p a : Int} {bs : List UInt8} : hasL (needPut l p bs) a ↔ hasL l a ∨ a = p / 8 := by unfold needPut; rw [put_has, need_has]
theorem np_at {l : List Ext} (hs : srt l) {p : Int} {bs : List UInt8} (h : p % 8 + bs.length ≤ 8) (q : Int) : atL (needPut l p bs) q = if p ≤ q ∧ q < p + bs.length then bs.getD (q - p).toNat 0 else atL l q := by
  unfold needPut
  rw [put_at (need_srt hs _) (by omega) (need_has.2 (.inr rfl)), need_at hs, show p / 8 * 8 + ((p % 8).toNat : Int) = p by omega]
def writeL (l : List Ext) (p : Int) : List UInt8 → List Ext
  | [] => l
  | b :: r => writeL (needPut l p [b]) (p + 1) r
theorem wr_srt : ∀ {bs : List UInt8} {l : List Ext} (hs : srt l) (p : Int), srt (writeL l p bs)
  | [], l, hs, p => hs
  | b :: r, l, hs, p => wr_srt (np_srt hs p [b]) (p + 1)
theorem wr_has : ∀ {bs : List UInt8} {l : List Ext} {p a : Int}, hasL (writeL l p bs) a ↔ hasL l a ∨ ∃ q, p ≤ q ∧ q < p + bs.length ∧ a = q / 8
  | [], l, p, a => by
    unfold writeL
    simp only [List.length_nil]
    exact ⟨.inl, fun h => h.elim id fun ⟨q, h1, h2, _⟩ => by omega⟩
  | b :: r, l, p, a => by
    unfold writeL
    rw [wr_has, np_has]
    simp only [List.length_cons]
    constructor
    · rintro ((h | h) | ⟨q, h1, h2, h3⟩)
      · exact .inl h
      · exact .inr ⟨p, by omega, by omega, h⟩
      · exact .inr ⟨q, by omega, by omega, h3⟩
    · rintro (h | ⟨q, h1, h2, h3⟩)
      · exact .inl (.inl h)
      · by_cases c : q = p
        · exact .inl (.inr (c ▸ h3))
        · exact .inr ⟨q, by omega, by omega, h3⟩
theorem wr_at : ∀ {bs : List UInt8} {l : List Ext} (hs : srt l) (p q : Int), atL (writeL l p bs) q = if p ≤ q ∧ q < p + bs.length then bs.getD (q - p).toNat 0 else atL l q
  | [], l, hs, p, q => by
    unfold writeL
    rw [if_neg (by simp only [List.length_nil]; omega)]
  | b :: r, l, hs, p, q => by
    unfold writeL
    rw [wr_at (np_srt hs p [b]), np_at hs (by simp only [List.length_cons, List.length_nil]; omega)]
    simp only [List.length_cons, List.length_nil]
    by_cases c : p + 1 ≤ q ∧ q < p + 1 + r.length
    · rw [if_pos c, if_pos (by omega), show (q - p).toNat = (q - (p + 1)).toNat + 1 by omega]; rfl
    · rw [if_neg c]
      by_cases c2 : p = q
      · subst c2
        rw [if_pos (by omega), if_pos (by omega)]; simp
      · rw [if_neg (by omega), if_neg (by omega)]
theorem wr_app : ∀ {bs cs : List UInt8} {l : List Ext} {p : Int}, writeL l p (bs ++ cs) = writeL (writeL l p bs) (p + bs.length) cs
  | [], cs, l, p => by simp [writeL]
  | b :: r, cs, l, p => by
    show writeL (needPut l p [b]) (p + 1) (r ++ cs) = writeL (writeL (needPut l p [b]) (p + 1) r) (p + (r.length + 1 : Nat)) cs
    rw [wr_app]; congr 1; omega
theorem wr_one {l : List Ext} (hs : srt l) {p : Int} {bs : List UInt8} (h : p % 8 + bs.length ≤ 8) (hb : bs ≠ []) : needPut l p bs = writeL l p bs := by
  have hlen : 0 < bs.length := List.length_pos_iff.2 hb
  refine srt_ext (np_srt hs p bs) (wr_srt hs p) (fun a => ?_) (fun q => ?_)
  · rw [np_has, wr_has]
    refine or_congr_right ⟨fun h1 => ⟨p, by omega, by omega, h1⟩, ?_⟩
    rintro ⟨q, h1, h2, rfl⟩; omega
  · rw [np_at hs h, wr_at hs]
theorem wr_len : ∀ {bs : List UInt8} {l : List Ext} {p : Int}, (writeL l p bs).length ≤ l.length + bs.length
  | [], l, p => by simp [writeL]
  | b :: r, l, p => by
    unfold writeL
    have h1 := wr_len (bs := r) (l := needPut l p [b]) (p := p + 1)
    have h2 : (needPut l p [b]).length = (needL l (p / 8)).length := by simp [needPut, putL]
    have h3 := (need_len l (p / 8)).1
    simp only [List.length_cons]; omega

/-! all numbers, and what lies behind the size -/
theorem cleanB_iff {size : Int} : ∀ {b : List UInt8} {p : Int}, cleanB size p b ↔ ∀ k : Nat, k < b.length → size ≤ p + k → b.getD k 0 = 0
  | [], p => by simp [cleanB]
  | x :: r, p => by
    unfold cleanB
    rw [cleanB_iff]
    constructor
    · rintro ⟨h1, h2⟩ k hk hs
      cases k with
      | zero => 
        simp
        by_cases c : x = 0
        · exact c
        · have := h1 c; omega
      | succ k => 
        have := h2 k (by simpa using hk) (by omega)
        simpa using this
    · intro h
      refine ⟨fun hx => ?_, fun k hk hs => ?_⟩
      · have := h 0 (by simp)
        simp at this
        by_cases c : p < size
        · exact c
        · exact absurd (this (by omega)) hx
      · have := h (k + 1) (by simpa using hk) (by omega)
        simpa using this
theorem cleanE_iff {size : Int} {x : Ext} : cleanE size x ↔ ∀ k : Nat, k < 8 → size ≤ x.no * 8 + k → x.b.getD k 0 = 0 := by
  have := cleanB_iff (size := size) (b := x.b) (p := x.no * 8)
  rw [x.hb] at this; exact this
theorem okL_iff {size : Int} : ∀ {l : List Ext} {p : Int}, okL size p l ↔ srt l ∧ ∀ x ∈ l, p < x.no ∧ x.no < 137438953472 ∧ cleanE size x
  | [], p => by simp [okL, srt]
  | x :: r, p => by
    rw [okL_cons, okL_iff]
    constructor
    · rintro ⟨h1, h2, h3, h4, h5⟩
      refine ⟨List.pairwise_cons.2 ⟨fun y hy => (h5 y hy).1, h4⟩, fun y hy => ?_⟩
      rcases List.mem_cons.1 hy with rfl | hy
      · exact ⟨h1, h2, h3⟩
      · have := h5 y hy; exact ⟨by omega, this.2⟩
    · rintro ⟨h1, h2⟩
      have h1' := List.pairwise_cons.1 h1
      have h3 := h2 x (by simp)
      refine ⟨h3.1, h3.2.1, h3.2.2, h1'.2, fun y hy => ?_⟩
      have := h2 y (by simp [hy])
      exact ⟨h1'.1 y hy, this.2⟩
/-- May content be, told by its places. -/
theorem okL_at {size : Int} {l : List Ext} : okL size (-1) l ↔ srt l ∧ (∀ no, hasL l no → 0 ≤ no ∧ no < 137438953472) ∧ ∀ p, size ≤ p → atL l p = 0 := by
  rw [okL_iff]
  constructor
  · rintro ⟨hs, h⟩
    refine ⟨hs, ?_, fun p hp => ?_⟩
    · rintro no ⟨x, hx, rfl⟩
      have := h x hx; omega
    · by_cases c : hasL l (p / 8)
      · obtain ⟨x, hx, e⟩ := c
        rw [at_mem hs hx e]
        exact cleanE_iff.1 (h x hx).2.2 _ (by omega) (by omega)
      · exact atL_none c
  · rintro ⟨hs, h1, h2⟩
    refine ⟨hs, fun x hx => ?_⟩
    have := h1 x.no ⟨x, hx, rfl⟩
    refine ⟨by omega, this.2, cleanE_iff.2 fun k hk hz => ?_⟩
    rw [← at_blk hs hx hk]; exact h2 _ hz
/-! what is taken -/
def wipeE (x : Ext) (a b : Int) : Ext := ⟨x.no, x.b.mapIdx fun k y => if a ≤ x.no * 8 + (k : Int) ∧ x.no * 8 + (k : Int) < b then 0 else y, by have := x.hb; simpa using this⟩
theorem wipeE_get {x : Ext} {a b : Int} {k : Nat} (hk : k < 8) : (wipeE x a b).b.getD k 0 = if a ≤ x.no * 8 + (k : Int) ∧ x.no * 8 + (k : Int) < b then 0 else x.b.getD k 0 := by
  have hb := x.hb
  unfold wipeE
  simp only [List.getD_eq_getElem?_getD, List.getElem?_mapIdx]
  rw [List.getElem?_eq_getElem (show k < x.b.length by omega)]
  rfl
def wipeL (l : List Ext) (a b : Int) : List Ext := l.map fun x => wipeE x a b
theorem wipe_srt {l : List Ext} (hs : srt l) (a b : Int) : srt (wipeL l a b) := srt_map (fun _ _ => rfl) hs
theorem wipe_has {l : List Ext} {a b no : Int} : hasL (wipeL l a b) no ↔ hasL l no := map_has (f := fun x => wipeE x a b) (fun _ _ => rfl)
theorem wipe_at {l : List Ext} (hs : srt l) (a b p : Int) : atL (wipeL l a b) p = if a ≤ p ∧ p < b then 0 else atL l p := by
  by_cases h : hasL l (p / 8)
  · obtain ⟨x, hx, e⟩ := h
    rw [at_mem (x := wipeE x a b) (wipe_srt hs a b) (List.mem_map.2 ⟨x, hx, rfl⟩) e, at_mem hs hx e, wipeE_get (by omega)]
    rw [show x.no * 8 + ((p % 8).toNat : Int) = p by omega]
  · rw [atL_none h, atL_none (by rw [wipe_has]; exact h)]; split <;> rfl
theorem filter_srt {l : List Ext} (hs : srt l) (f : Ext → Bool) : srt (l.filter f) := List.Pairwise.filter f hs
theorem filter_has {l : List Ext} {f : Int → Bool} {no : Int} : hasL (l.filter fun x => f x.no) no ↔ hasL l no ∧ f no = true := by
  unfold hasL
  constructor
  · rintro ⟨x, hx, rfl⟩
    rw [List.mem_filter] at hx
    exact ⟨⟨x, hx.1, rfl⟩, hx.2⟩
  · rintro ⟨⟨x, hx, rfl⟩, h⟩
    exact ⟨x, List.mem_filter.2 ⟨hx, h⟩, rfl⟩
theorem filter_at {l : List Ext} (hs : srt l) {f : Int → Bool} (p : Int) : atL (l.filter fun x => f x.no) p = if f (p / 8) = true then atL l p else 0 := by
  by_cases h : hasL l (p / 8)
  · obtain ⟨x, hx, e⟩ := h
    split
    · rename_i c
      rw [at_mem (filter_srt hs _) (List.mem_filter.2 ⟨hx, by rw [e]; exact c⟩) e, at_mem hs hx e]
    · rename_i c
      exact atL_none (fun h2 => c (filter_has.1 h2).2)
  · rw [atL_none h, atL_none (fun h2 => h (filter_has.1 h2).1)]; split <;> rfl
/-- Another size. -/
def truncL (l : List Ext) (size : Int) : List Ext := wipeL (l.filter fun x => decide (x.no * 8 < size)) size 1099511627776
theorem tr_srt {l : List Ext} (hs : srt l) (size : Int) : srt (truncL l size) := wipe_srt (filter_srt hs _) _ _
theorem tr_has {l : List Ext} {size no : Int} : hasL (truncL l size) no ↔ hasL l no ∧ no * 8 < size := by
  unfold truncL
  rw [wipe_has, filter_has (f := fun no => decide (no * 8 < size))]; simp
theorem tr_at {l : List Ext} (hs : srt l) {size : Int} (h : ∀ no, hasL l no → no < 137438953472) (p : Int) : atL (truncL l size) p = if p < size then atL l p else 0 := by
  unfold truncL
  rw [wipe_at (filter_srt hs _), filter_at hs (f := fun no => decide (no * 8 < size))]
  by_cases c : p < size
  · rw [if_neg (by omega), if_pos c, if_pos (by simp; omega)]
  · rw [if_neg c]
    by_cases c2 : p < 1099511627776
    · rw [if_pos ⟨by omega, c2⟩]
    · rw [if_neg (by omega), atL_none]
      · split <;> rfl
      · intro h2; have := h _ h2; omega
/-- Less. -/
def gone (pos n no : Int) : Bool := decide (pos ≤ no * 8) && decide (no * 8 + 8 ≤ pos + n)
def punchL (l : List Ext) (pos n : Int) : List Ext := wipeL (l.filter fun x => !gone pos n x.no) pos (pos + n)
theorem pu_srt {l : List Ext} (hs : srt l) (pos n : Int) : srt (punchL l pos n) := wipe_srt (filter_srt hs _) _ _
theorem pu_has {l : List Ext} {pos n no : Int} : hasL (punchL l pos n) no ↔ hasL l no ∧ ¬ (pos ≤ no * 8 ∧ no * 8 + 8 ≤ pos + n) := by
  unfold punchL
  rw [wipe_has, filter_has (f := fun no => !gone pos n no)]; simp [gone]; intro _; omega
theorem pu_at {l : List Ext} (hs : srt l) (pos n p : Int) : atL (punchL l pos n) p = if pos ≤ p ∧ p < pos + n then 0 else atL l p := by
  unfold punchL
  rw [wipe_at (filter_srt hs _), filter_at hs (f := fun no => !gone pos n no)]
  split
  · rfl
  · rename_i c
    split
    · rfl
    · rename_i c2
      simp [gone] at c2
      omega
/-- Room. -/
def needs (l : List Ext) (no : Int) : Nat → List Ext
  | 0 => l
  | k + 1 => needs (needL l no) (no + 1) k
theorem ns_srt : ∀ {k : Nat} {l : List Ext} (hs : srt l) (no : Int), srt (needs l no k)
  | 0, l, hs, no => hs
  | k + 1, l, hs, no => ns_srt (k := k) (need_srt hs no) (no + 1)
theorem ns_has : ∀ {k : Nat} {l : List Ext} {no a : Int}, hasL (needs l no k) a ↔ hasL l a ∨ (no ≤ a ∧ a < no + k)
  | 0, l, no, a => by unfold needs; exact ⟨.inl, fun h => h.elim id fun h => by omega⟩
  | k + 1, l, no, a => by
    unfold needs
    rw [ns_has, need_has]
    constructor
    · rintro ((h | h) | h)
      · exact .inl h
      · exact .inr (by omega)
      · exact .inr (by omega)
    · rintro (h | h)
      · exact .inl (.inl h)
      · by_cases c : a = no
        · exact .inl (.inr c)
        · exact .inr (by omega)
theorem ns_at : ∀ {k : Nat} {l : List Ext} (hs : srt l) (no p : Int), atL (needs l no k) p = atL l p
  | 0, l, hs, no, p => rfl
  | k + 1, l, hs, no, p => by
    unfold needs
    rw [ns_at (need_srt hs no), need_at hs]
theorem ns_succ : ∀ {k : Nat} {l : List Ext} {no : Int}, needs l no (k + 1) = needL (needs l no k) (no + k)
  | 0, l, no => by simp [needs]
  | k + 1, l, no => by
    show needs (needL l no) (no + 1) (k + 1) = _
    rw [ns_succ (k := k)]
    show needL (needs (needL l no) (no + 1) k) (no + 1 + k) = needL (needs (needL l no) (no + 1) k) (no + (k + 1 : Nat))
    congr 1; omega
theorem ns_len : ∀ {k : Nat} {l : List Ext} {no : Int}, (needs l no k).length ≤ l.length + k ∧ l.length ≤ (needs l no k).length
  | 0, l, no => by simp [needs]
  | k + 1, l, no => by
    unfold needs
    have h1 := ns_len (k := k) (l := needL l no) (no := no + 1)
    have h2 := need_len l no
    omega
def allocN (pos n : Int) : Nat := ((pos + n - 1) / 8 - pos / 8 + 1).toNat
def allocL (l : List Ext) (pos n : Int) : List Ext := needs l (pos / 8) (allocN pos n)

/-! what the calls come to -/
abbrev Cont := Int × List Ext
def writeC (c : Cont) (pos : Int) (bs : List UInt8) : Option Cont :=
  if mayC c.1 c.2 ∧ 0 ≤ pos ∧ bs.length ≤ 4096 ∧ pos ≤ 1099511627776 - bs.length then some (if bs = [] then c else (max c.1 (pos + bs.length), writeL c.2 pos bs)) else none
def truncC (c : Cont) (size : Int) : Option Cont := if mayC c.1 c.2 ∧ 0 ≤ size ∧ size ≤ 1099511627776 then some (size, truncL c.2 size) else none
def allocC (c : Cont) (pos n : Int) (keep : Bool) : Option Cont :=
  if mayC c.1 c.2 ∧ 0 ≤ pos ∧ 1 ≤ n ∧ n ≤ 32768 ∧ pos ≤ 1099511627776 - n then some (if keep then c.1 else max c.1 (pos + n), allocL c.2 pos n) else none
def punchC (c : Cont) (pos n : Int) : Option Cont :=
  if mayC c.1 c.2 ∧ 0 ≤ pos ∧ 1 ≤ n ∧ n ≤ 1099511627776 ∧ pos ≤ 1099511627776 - n then some (c.1, punchL c.2 pos n) else none
theorem may_at {size : Int} {l : List Ext} : mayC size l ↔ 0 ≤ size ∧ size ≤ 1099511627776 ∧ srt l ∧ (∀ no, hasL l no → 0 ≤ no ∧ no < 137438953472) ∧ ∀ p, size ≤ p → atL l p = 0 := by
  unfold mayC; rw [okL_at]
theorem may_write {c d : Cont} {pos : Int} {bs : List UInt8} (h : writeC c pos bs = some d) : mayC d.1 d.2 := by
  unfold writeC at h
  split at h
  · rename_i g
    injection h with h
    subst h
    split
    · exact g.1
    · rename_i hb
      have hlen : 0 < bs.length := List.length_pos_iff.2 hb
      obtain ⟨g1, g2, g3, g4⟩ := g
      rw [may_at] at g1 ⊢
      obtain ⟨a1, a2, a3, a4, a5⟩ := g1
      refine ⟨by simp only; omega, by simp only; omega, wr_srt a3 pos, ?_, ?_⟩
      · intro no hno
        rcases wr_has.1 hno with h | ⟨q, h1, h2, h3⟩
        · exact a4 no h
        · omega
      · intro p hp
        simp only at hp
        rw [wr_at a3, if_neg (by omega)]
        exact a5 p (by omega)
  · cases h
theorem may_trunc {c d : Cont} {size : Int} (h : truncC c size = some d) : mayC d.1 d.2 := by
  unfold truncC at h
  split at h
  · rename_i g
    injection h with h
    subst h
    obtain ⟨g1, g2, g3⟩ := g
    rw [may_at] at g1 ⊢
    obtain ⟨a1, a2, a3, a4, a5⟩ := g1
    refine ⟨g2, g3, tr_srt a3 size, fun no hno => a4 no (tr_has.1 hno).1, fun p hp => ?_⟩
    rw [tr_at a3 (fun no h => (a4 no h).2), if_neg (by simp only at hp; omega)]
  · cases h
theorem may_alloc {c d : Cont} {pos n : Int} {keep : Bool} (h : allocC c pos n keep = some d) : mayC d.1 d.2 := by
  unfold allocC at h
  split at h
  · rename_i g
    injection h with h
    subst h
    obtain ⟨g1, g2, g3, g4, g5⟩ := g
    rw [may_at] at g1 ⊢
    obtain ⟨a1, a2, a3, a4, a5⟩ := g1
    refine ⟨by simp only; split <;> omega, by simp only; split <;> omega, ns_srt a3 _, fun no hno => ?_, fun p hp => ?_⟩
    · rcases ns_has.1 hno with h | h
      · exact a4 no h
      · unfold allocN at h; omega
    · unfold allocL
      rw [ns_at a3]
      refine a5 p ?_
      simp only at hp
      split at hp <;> omega
  · cases h
theorem may_punch {c d : Cont} {pos n : Int} (h : punchC c pos n = some d) : mayC d.1 d.2 := by
  unfold punchC at h
  split at h
  · rename_i g
    injection h with h
    subst h
    obtain ⟨g1, g2, g3, g4, g5⟩ := g
    rw [may_at] at g1 ⊢
    obtain ⟨a1, a2, a3, a4, a5⟩ := g1
    refine ⟨a1, a2, pu_srt a3 _ _, fun no hno => a4 no (pu_has.1 hno).1, fun p hp => ?_⟩
    rw [pu_at a3]
    split
    · rfl
    · exact a5 p hp
  · cases h
end Go.Proofs.Ytflodknflaallaa.Av
