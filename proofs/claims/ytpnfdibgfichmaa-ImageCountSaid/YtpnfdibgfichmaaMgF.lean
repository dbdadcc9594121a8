/- Texts of this proof, one behind the other, packed into one file by a program of this session. No condition. -/
import Derived.Test.YtpnfdibgfichmaaMgE
import Derived.KernelRfl
/-! YtpnfdibgfichmaaAvExtW -/
section
/- Chapter 11, in plain terms: rising lists of blocks; what writing, another size, room and holes make of them. -/
set_option linter.unusedVariables false
set_option linter.unusedSimpArgs false
set_option maxRecDepth 100000
namespace Go.Proofs.Ytpnfdibgfichmaa.Av
open Go Go.RowKit
/-! two rising lists that have the same blocks with the same bytes -/
theorem srt_mem : ∀ {l m : List Ext}, srt l → srt m → (∀ x, x ∈ l ↔ x ∈ m) → l = m
  | [], [], _, _, _ => rfl
  | [], y :: m, _, _, h => by have := (h y).2 (by simp); simp at this
  | x :: l, [], _, _, h => by have := (h x).1 (by simp); simp at this
  | x :: l, y :: m, hl, hm, h => by
    have hl' := List.pairwise_cons.1 hl
    have hm' := List.pairwise_cons.1 hm
    have e : x = y := by
      rcases List.mem_cons.1 ((h x).1 (by simp)) with e | h1
      · exact e
      · rcases List.mem_cons.1 ((h y).2 (by simp)) with e | h2
        · exact e.symm
        · have := hm'.1 x h1; have := hl'.1 y h2; omega
    subst e
    refine congrArg _ (srt_mem hl'.2 hm'.2 fun z => ?_)
    constructor
    · intro hz
      rcases List.mem_cons.1 ((h z).1 (by simp [hz])) with e | h1
      · have := hl'.1 z hz; rw [e] at this; omega
      · exact h1
    · intro hz
      rcases List.mem_cons.1 ((h z).2 (by simp [hz])) with e | h1
      · have := hm'.1 z hz; rw [e] at this; omega
      · exact h1
theorem ext_eq {x y : Ext} (h1 : x.no = y.no) (h2 : ∀ k, k < 8 → x.b.getD k 0 = y.b.getD k 0) : x = y := by
  obtain ⟨a, b, hb⟩ := x
  obtain ⟨c, d, hd⟩ := y
  simp only at h1 h2
  subst h1
  have : b = d := by
    refine List.ext_getElem (by omega) fun k hk1 hk2 => ?_
    have := h2 k (by omega)
    rw [List.getD_eq_getElem?_getD, List.getD_eq_getElem?_getD, List.getElem?_eq_getElem hk1, List.getElem?_eq_getElem hk2] at this
    simpa using this
  subst this; rfl
theorem mem_get {l : List Ext} {x : Ext} (h : x ∈ l) : ∃ k : Nat, l[k]? = some x := List.mem_iff_getElem?.1 h
theorem at_blk {l : List Ext} (hs : srt l) {x : Ext} (hx : x ∈ l) {k : Nat} (hk : k < 8) : atL l (x.no * 8 + k) = x.b.getD k 0 := by
  obtain ⟨i, hi⟩ := mem_get hx
  rw [atL_some hs hi (by omega), show ((x.no * 8 + (k : Int)) % 8).toNat = k by omega]
theorem srt_ext {l m : List Ext} (hl : srt l) (hm : srt m) (h1 : ∀ no, hasL l no ↔ hasL m no) (h2 : ∀ p, atL l p = atL m p) : l = m := by
  have key : ∀ {l m : List Ext}, srt l → srt m → (∀ no, hasL l no ↔ hasL m no) → (∀ p, atL l p = atL m p) → ∀ x, x ∈ l → x ∈ m := by
    intro l m hl hm h1 h2 x hx
    obtain ⟨y, hy, e⟩ := (h1 x.no).1 ⟨x, hx, rfl⟩
    have : x = y := ext_eq e.symm fun k hk => by
      rw [← at_blk hl hx hk, ← at_blk hm hy hk, h2, e]
    rw [this]; exact hy
  exact srt_mem hl hm fun x => ⟨key hl hm h1 h2 x, key hm hl (fun no => (h1 no).symm) (fun p => (h2 p).symm) x⟩

/-! a block that is needed -/
def newE (no : Int) : Ext := ⟨no, List.replicate 8 0, by simp⟩
def needL (l : List Ext) (no : Int) : List Ext := if hasL l no then l else l.take (posL l no) ++ newE no :: l.drop (posL l no)
theorem posL_mem_lt {l : List Ext} {no : Int} {x : Ext} (h : x ∈ l.take (posL l no)) : x.no < no := by
  obtain ⟨k, hk⟩ := mem_get h
  have h1 := (List.getElem?_eq_some_iff.1 hk).1
  rw [List.length_take] at h1
  rw [List.getElem?_take, if_pos (by omega)] at hk
  exact posL_lt (by omega) hk
theorem posL_mem_ge {l : List Ext} (hs : srt l) {no : Int} {x : Ext} (h : x ∈ l.drop (posL l no)) : no ≤ x.no := by
  obtain ⟨k, hk⟩ := mem_get h
  rw [List.getElem?_drop] at hk
  cases h0 : l[posL l no]? with
  | none => 
    have h1 := (List.getElem?_eq_some_iff.1 hk).1
    rw [List.getElem?_eq_none_iff] at h0; omega
  | some y =>
    have h2 := posL_ge h0
    rcases Nat.eq_zero_or_pos k with h3 | h3
    · subst h3; rw [Nat.add_zero, h0] at hk; injection hk with hk; rw [← hk]; exact h2
    · have := srt_get hs h0 hk (by omega); omega
theorem need_srt {l : List Ext} (hs : srt l) (no : Int) : srt (needL l no) := by
  unfold needL
  split
  · exact hs
  · rename_i h
    have hd : ∀ x ∈ l.drop (posL l no), no < x.no := by
      intro x hx
      have h1 := posL_mem_ge hs hx
      have h2 : x.no ≠ no := fun e => h ⟨x, List.mem_of_mem_drop hx, e⟩
      omega
    refine List.pairwise_append.2 ⟨List.Pairwise.sublist (List.take_sublist _ l) hs, List.pairwise_cons.2 ⟨hd, List.Pairwise.sublist (List.drop_sublist _ l) hs⟩, ?_⟩
    intro a ha b hb
    have h1 := posL_mem_lt ha
    rcases List.mem_cons.1 hb with rfl | hb
    · exact h1
    · have := hd b hb; omega
theorem need_mem {l : List Ext} {no : Int} {x : Ext} : x ∈ needL l no ↔ x ∈ l ∨ (¬ hasL l no ∧ x = newE no) := by
  unfold needL
  split
  · rename_i h; simp [h]
  · rename_i h
    rw [List.mem_append, List.mem_cons]
    have : x ∈ l ↔ x ∈ l.take (posL l no) ∨ x ∈ l.drop (posL l no) := by rw [← List.mem_append, List.take_append_drop]
    rw [this]
    constructor
    · rintro (h1 | h1 | h1)
      · exact .inl (.inl h1)
      · exact .inr ⟨h, h1⟩
      · exact .inl (.inr h1)
    · rintro ((h1 | h1) | ⟨_, h1⟩)
      · exact .inl h1
      · exact .inr (.inr h1)
      · exact .inr (.inl h1)
theorem need_has {l : List Ext} {no a : Int} : hasL (needL l no) a ↔ hasL l a ∨ a = no := by
  unfold hasL
  constructor
  · rintro ⟨x, hx, e⟩
    rcases need_mem.1 hx with h | ⟨_, rfl⟩
    · exact .inl ⟨x, h, e⟩
    · exact .inr e.symm
  · rintro (⟨x, hx, e⟩ | rfl)
    · exact ⟨x, need_mem.2 (.inl hx), e⟩
    · by_cases h : hasL l a
      · obtain ⟨x, hx, e⟩ := h
        exact ⟨x, need_mem.2 (.inl hx), e⟩
      · exact ⟨newE a, need_mem.2 (.inr ⟨h, rfl⟩), rfl⟩
theorem at_mem {l : List Ext} (hs : srt l) {x : Ext} (hx : x ∈ l) {p : Int} (h : x.no = p / 8) : atL l p = x.b.getD (p % 8).toNat 0 := by
  obtain ⟨k, hk⟩ := mem_get hx
  exact atL_some hs hk h
theorem need_at {l : List Ext} (hs : srt l) (no p : Int) : atL (needL l no) p = atL l p := by
  by_cases h : hasL l (p / 8)
  · obtain ⟨x, hx, e⟩ := h
    rw [at_mem hs hx e, at_mem (need_srt hs no) (need_mem.2 (.inl hx)) e]
  · rw [atL_none h]
    by_cases h2 : p / 8 = no
    · rw [at_mem (need_srt hs no) (need_mem.2 (.inr ⟨h2 ▸ h, rfl⟩)) h2.symm]
      have : (p % 8).toNat < 8 := by omega
      simp only [newE]
      rw [List.getD_eq_getElem?_getD, List.getElem?_replicate, if_pos this]; rfl
    · exact atL_none (fun h3 => (need_has.1 h3).elim h h2)
theorem need_pos {l : List Ext} (hs : srt l) (no : Int) : posL (needL l no) no = posL l no := by
  unfold needL
  split
  · rfl
  · rename_i h
    have hp := posL_le l no
    refine posL_eq (by simp; omega) ?_ ?_
    · intro m x hm hx
      rw [List.getElem?_append_left (by rw [List.length_take]; omega), List.getElem?_take, if_pos hm] at hx
      exact posL_lt hm hx
    · intro x hx
      rw [List.getElem?_append_right (by rw [List.length_take]; omega), List.length_take, show posL l no - min (posL l no) l.length = 0 by omega] at hx
      simp at hx; rw [← hx]; simp [newE]
theorem need_get {l : List Ext} (hs : srt l) (no : Int) : ∃ x, (needL l no)[posL l no]? = some x ∧ x.no = no := by
  have := (hasL_iff (need_srt hs no) (no := no)).1 (need_has.2 (.inr rfl))
  rwa [need_pos hs] at this
theorem need_len (l : List Ext) (no : Int) : (needL l no).length ≤ l.length + 1 ∧ l.length ≤ (needL l no).length := by
  have hp := posL_le l no
  unfold needL
  split
  · omega
  · simp; omega

/-! bytes of a block -/
def putE (x : Ext) (off : Nat) (bs : List UInt8) : Ext := if h : off + bs.length ≤ 8 then ⟨x.no, x.b.take off ++ bs ++ x.b.drop (off + bs.length), by have := x.hb; simp; omega⟩ else x
theorem putE_no (x : Ext) (off : Nat) (bs : List UInt8) : (putE x off bs).no = x.no := by unfold putE; split <;> rfl
theorem putE_b {x : Ext} {off : Nat} {bs : List UInt8} (h : off + bs.length ≤ 8) : (putE x off bs).b = x.b.take off ++ bs ++ x.b.drop (off + bs.length) := by unfold putE; rw [dif_pos h]
theorem putE_get {x : Ext} {off : Nat} {bs : List UInt8} (h : off + bs.length ≤ 8) {k : Nat} (hk : k < 8) : (putE x off bs).b.getD k 0 = if off ≤ k ∧ k < off + bs.length then bs.getD (k - off) 0 else x.b.getD k 0 := by
  have hb := x.hb
  have h1 : (x.b.take off).length = off := by rw [List.length_take]; omega
  rw [putE_b h]
  simp only [List.getD_eq_getElem?_getD]
  split
  · rename_i c
    rw [List.getElem?_append_left (by rw [List.length_append]; omega), List.getElem?_append_right (by omega), h1]
  · rename_i c
    by_cases c1 : k < off
    · rw [List.append_assoc, List.getElem?_append_left (by omega), List.getElem?_take, if_pos c1]
    · rw [List.getElem?_append_right (by rw [List.length_append]; omega), List.length_append, h1, List.getElem?_drop]
      congr 2; omega
def putL (l : List Ext) (no : Int) (off : Nat) (bs : List UInt8) : List Ext := l.map fun x => if x.no = no then putE x off bs else x
theorem put_no (no : Int) (off : Nat) (bs : List UInt8) (x : Ext) : (if x.no = no then putE x off bs else x).no = x.no := by split; exact putE_no ..; rfl
theorem srt_map {l : List Ext} {f : Ext → Ext} (hf : ∀ x ∈ l, (f x).no = x.no) (hs : srt l) : srt (l.map f) := by
  unfold srt at *
  rw [List.pairwise_map]
  refine hs.imp_of_mem fun ha hb h => ?_
  rw [hf _ ha, hf _ hb]; exact h
theorem map_has {l : List Ext} {f : Ext → Ext} (hf : ∀ x ∈ l, (f x).no = x.no) {no : Int} : hasL (l.map f) no ↔ hasL l no := by
  unfold hasL
  constructor
  · rintro ⟨y, hy, e⟩
    obtain ⟨x, hx, rfl⟩ := List.mem_map.1 hy
    exact ⟨x, hx, by rw [← e, hf x hx]⟩
  · rintro ⟨x, hx, e⟩
    exact ⟨f x, List.mem_map.2 ⟨x, hx, rfl⟩, by rw [← e, hf x hx]⟩
theorem put_srt {l : List Ext} (hs : srt l) (no : Int) (off : Nat) (bs : List UInt8) : srt (putL l no off bs) := srt_map (fun x _ => put_no ..) hs
theorem put_has {l : List Ext} {no a : Int} {off : Nat} {bs : List UInt8} : hasL (putL l no off bs) a ↔ hasL l a := map_has (fun x _ => put_no ..)
theorem put_at {l : List Ext} (hs : srt l) {no : Int} {off : Nat} {bs : List UInt8} (h : off + bs.length ≤ 8) (hn : hasL l no) (p : Int) :
    atL (putL l no off bs) p = if no * 8 + off ≤ p ∧ p < no * 8 + off + bs.length then bs.getD (p - (no * 8 + off)).toNat 0 else atL l p := by
  by_cases h0 : hasL l (p / 8)
  · obtain ⟨x, hx, e⟩ := h0
    rw [at_mem (x := if x.no = no then putE x off bs else x) (put_srt hs no off bs) (List.mem_map.2 ⟨x, hx, rfl⟩) (by rw [put_no]; exact e), at_mem hs hx e]
    by_cases c : x.no = no
    · rw [if_pos c, putE_get h (by omega)]
      by_cases c2 : no * 8 + off ≤ p ∧ p < no * 8 + off + bs.length
      · rw [if_pos c2, if_pos (by omega)]; congr 1; omega
      · rw [if_neg c2, if_neg (by omega)]
    · rw [if_neg c, if_neg (by omega)]
  · rw [atL_none (by rw [put_has]; exact h0), atL_none h0, if_neg]
    intro c
    have : p / 8 = no := by omega
    exact h0 (this ▸ hn)
theorem put_set {l : List Ext} (hs : srt l) {k : Nat} {x : Ext} (hx : l[k]? = some x) (off : Nat) (bs : List UInt8) : l.set k (putE x off bs) = putL l x.no off bs := by
  refine List.ext_getElem? fun i => ?_
  unfold putL
  rw [List.getElem?_map, List.getElem?_set]
  have hk := (List.getElem?_eq_some_iff.1 hx).1
  by_cases h : k = i
  · subst h
    obtain ⟨h1, h2⟩ := List.getElem?_eq_some_iff.1 hx
    simp [hk, h2]
  · rw [if_neg h]
    cases hi : l[i]? with
    | none => rfl
    | some y =>
      have : y.no ≠ x.no := by
        rcases Nat.lt_or_gt_of_ne h with h | h
        · have := srt_get hs hx hi h; omega
        · have := srt_get hs hi hx h; omega
      simp [this]
/-- Bytes of one block, which is there then. -/
def needPut (l : List Ext) (p : Int) (bs : List UInt8) : List Ext := putL (needL l (p / 8)) (p / 8) (p % 8).toNat bs
theorem np_srt {l : List Ext} (hs : srt l) (p : Int) (bs : List UInt8) : srt (needPut l p bs) := put_srt (need_srt hs _) ..
theorem np_has {l : List Ext} {p a : Int} {bs : List UInt8} : hasL (needPut l p bs) a ↔ hasL l a ∨ a = p / 8 := by unfold needPut; rw [put_has, need_has]
theorem np_at {l : List Ext} (hs : srt l) {p : Int} {bs : List UInt8} (h : p % 8 + bs.length ≤ 8) (q : Int) : atL (needPut l p bs) q = if p ≤ q ∧ q < p + bs.length then bs.getD (q - p).toNat 0 else atL l q := by
  unfold needPut
  rw [put_at (need_srt hs _) (by omega) (need_has.2 (.inr rfl)), need_at hs, show p / 8 * 8 + ((p % 8).toNat : Int) = p by omega]
def writeL (l : List Ext) (p : Int) : List UInt8 → List Ext
  | [] => l
  | b :: r => writeL (needPut l p [b]) (p + 1) r
theorem wr_srt : ∀ {bs : List UInt8} {l : List Ext} (hs : srt l) (p : Int), srt (writeL l p bs)
  | [], l, hs, p => hs
  | b :: r, l, hs, p => wr_srt (np_srt hs p [b]) (p + 1)
theorem wr_has : ∀ {bs : List UInt8} {l : List Ext} {p a : Int}, hasL (writeL l p bs) a ↔ hasL l a ∨ ∃ q, p ≤ q ∧ q < p + bs.length ∧ a = q / 8
  | [], l, p, a => by
    unfold writeL
    simp only [List.length_nil]
    exact ⟨.inl, fun h => h.elim id fun ⟨q, h1, h2, _⟩ => by omega⟩
  | b :: r, l, p, a => by
    unfold writeL
    rw [wr_has, np_has]
    simp only [List.length_cons]
    constructor
    · rintro ((h | h) | ⟨q, h1, h2, h3⟩)
      · exact .inl h
      · exact .inr ⟨p, by omega, by omega, h⟩
      · exact .inr ⟨q, by omega, by omega, h3⟩
    · rintro (h | ⟨q, h1, h2, h3⟩)
      · exact .inl (.inl h)
      · by_cases c : q = p
        · exact .inl (.inr (c ▸ h3))
        · exact .inr ⟨q, by omega, by omega, h3⟩
theorem wr_at : ∀ {bs : List UInt8} {l : List Ext} (hs : srt l) (p q : Int), atL (writeL l p bs) q = if p ≤ q ∧ q < p + bs.length then bs.getD (q - p).toNat 0 else atL l q
  | [], l, hs, p, q => by
    unfold writeL
    rw [if_neg (by simp only [List.length_nil]; omega)]
  | b :: r, l, hs, p, q => by
    unfold writeL
    rw [wr_at (np_srt hs p [b]), np_at hs (by simp only [List.length_cons, List.length_nil]; omega)]
    simp only [List.length_cons, List.length_nil]
    by_cases c : p + 1 ≤ q ∧ q < p + 1 + r.length
    · rw [if_pos c, if_pos (by omega), show (q - p).toNat = (q - (p + 1)).toNat + 1 by omega]; rfl
    · rw [if_neg c]
      by_cases c2 : p = q
      · subst c2
        rw [if_pos (by omega), if_pos (by omega)]; simp
      · rw [if_neg (by omega), if_neg (by omega)]
theorem wr_app : ∀ {bs cs : List UInt8} {l : List Ext} {p : Int}, writeL l p (bs ++ cs) = writeL (writeL l p bs) (p + bs.length) cs
  | [], cs, l, p => by simp [writeL]
  | b :: r, cs, l, p => by
    show writeL (needPut l p [b]) (p + 1) (r ++ cs) = writeL (writeL (needPut l p [b]) (p + 1) r) (p + (r.length + 1 : Nat)) cs
    rw [wr_app]; congr 1; omega
theorem wr_one {l : List Ext} (hs : srt l) {p : Int} {bs : List UInt8} (h : p % 8 + bs.length ≤ 8) (hb : bs ≠ []) : needPut l p bs = writeL l p bs := by
  have hlen : 0 < bs.length := List.length_pos_iff.2 hb
  refine srt_ext (np_srt hs p bs) (wr_srt hs p) (fun a => ?_) (fun q => ?_)
  · rw [np_has, wr_has]
    refine or_congr_right ⟨fun h1 => ⟨p, by omega, by omega, h1⟩, ?_⟩
    rintro ⟨q, h1, h2, rfl⟩; omega
  · rw [np_at hs h, wr_at hs]
theorem wr_len : ∀ {bs : List UInt8} {l : List Ext} {p : Int}, (writeL l p bs).length ≤ l.length + bs.length
  | [], l, p => by simp [writeL]
  | b :: r, l, p => by
    unfold writeL
    have h1 := wr_len (bs := r) (l := needPut l p [b]) (p := p + 1)
    have h2 : (needPut l p [b]).length = (needL l (p / 8)).length := by simp [needPut, putL]
    have h3 := (need_len l (p / 8)).1
    simp only [List.length_cons]; omega

/-! all numbers, and what lies behind the size -/
theorem cleanB_iff {size : Int} : ∀ {b : List UInt8} {p : Int}, cleanB size p b ↔ ∀ k : Nat, k < b.length → size ≤ p + k → b.getD k 0 = 0
  | [], p => by simp [cleanB]
  | x :: r, p => by
    unfold cleanB
    rw [cleanB_iff]
    constructor
    · rintro ⟨h1, h2⟩ k hk hs
      cases k with
      | zero => 
        simp
        by_cases c : x = 0
        · exact c
        · have := h1 c; omega
      | succ k => 
        have := h2 k (by simpa using hk) (by omega)
        simpa using this
    · intro h
      refine ⟨fun hx => ?_, fun k hk hs => ?_⟩
      · have := h 0 (by simp)
        simp at this
        by_cases c : p < size
        · exact c
        · exact absurd (this (by omega)) hx
      · have := h (k + 1) (by simpa using hk) (by omega)
        simpa using this
theorem cleanE_iff {size : Int} {x : Ext} : cleanE size x ↔ ∀ k : Nat, k < 8 → size ≤ x.no * 8 + k → x.b.getD k 0 = 0 := by
  have := cleanB_iff (size := size) (b := x.b) (p := x.no * 8)
  rw [x.hb] at this; exact this
theorem okL_iff {size : Int} : ∀ {l : List Ext} {p : Int}, okL size p l ↔ srt l ∧ ∀ x ∈ l, p < x.no ∧ x.no < 137438953472 ∧ cleanE size x
  | [], p => by simp [okL, srt]
  | x :: r, p => by
    rw [okL_cons, okL_iff]
    constructor
    · rintro ⟨h1, h2, h3, h4, h5⟩
      refine ⟨List.pairwise_cons.2 ⟨fun y hy => (h5 y hy).1, h4⟩, fun y hy => ?_⟩
      rcases List.mem_cons.1 hy with rfl | hy
      · exact ⟨h1, h2, h3⟩
      · have := h5 y hy; exact ⟨by omega, this.2⟩
    · rintro ⟨h1, h2⟩
      have h1' := List.pairwise_cons.1 h1
      have h3 := h2 x (by simp)
      refine ⟨h3.1, h3.2.1, h3.2.2, h1'.2, fun y hy => ?_⟩
      have := h2 y (by simp [hy])
      exact ⟨h1'.1 y hy, this.2⟩
/-- May content be, told by its places. -/
theorem okL_at {size : Int} {l : List Ext} : okL size (-1) l ↔ srt l ∧ (∀ no, hasL l no → 0 ≤ no ∧ no < 137438953472) ∧ ∀ p, size ≤ p → atL l p = 0 := by
  rw [okL_iff]
  constructor
  · rintro ⟨hs, h⟩
    refine ⟨hs, ?_, fun p hp => ?_⟩
    · rintro no ⟨x, hx, rfl⟩
      have := h x hx; omega
    · by_cases c : hasL l (p / 8)
      · obtain ⟨x, hx, e⟩ := c
        rw [at_mem hs hx e]
        exact cleanE_iff.1 (h x hx).2.2 _ (by omega) (by omega)
      · exact atL_none c
  · rintro ⟨hs, h1, h2⟩
    refine ⟨hs, fun x hx => ?_⟩
    have := h1 x.no ⟨x, hx, rfl⟩
    refine ⟨by omega, this.2, cleanE_iff.2 fun k hk hz => ?_⟩
    rw [← at_blk hs hx hk]; exact h2 _ hz
/-! what is taken -/
def wipeE (x : Ext) (a b : Int) : Ext := ⟨x.no, x.b.mapIdx fun k y => if a ≤ x.no * 8 + (k : Int) ∧ x.no * 8 + (k : Int) < b then 0 else y, by have := x.hb; simpa using this⟩
theorem wipeE_get {x : Ext} {a b : Int} {k : Nat} (hk : k < 8) : (wipeE x a b).b.getD k 0 = if a ≤ x.no * 8 + (k : Int) ∧ x.no * 8 + (k : Int) < b then 0 else x.b.getD k 0 := by
  have hb := x.hb
  unfold wipeE
  simp only [List.getD_eq_getElem?_getD, List.getElem?_mapIdx]
  rw [List.getElem?_eq_getElem (show k < x.b.length by omega)]
  rfl
def wipeL (l : List Ext) (a b : Int) : List Ext := l.map fun x => wipeE x a b
theorem wipe_srt {l : List Ext} (hs : srt l) (a b : Int) : srt (wipeL l a b) := srt_map (fun _ _ => rfl) hs
theorem wipe_has {l : List Ext} {a b no : Int} : hasL (wipeL l a b) no ↔ hasL l no := map_has (f := fun x => wipeE x a b) (fun _ _ => rfl)
theorem wipe_at {l : List Ext} (hs : srt l) (a b p : Int) : atL (wipeL l a b) p = if a ≤ p ∧ p < b then 0 else atL l p := by
  by_cases h : hasL l (p / 8)
  · obtain ⟨x, hx, e⟩ := h
    rw [at_mem (x := wipeE x a b) (wipe_srt hs a b) (List.mem_map.2 ⟨x, hx, rfl⟩) e, at_mem hs hx e, wipeE_get (by omega)]
    rw [show x.no * 8 + ((p % 8).toNat : Int) = p by omega]
  · rw [atL_none h, atL_none (by rw [wipe_has]; exact h)]; split <;> rfl
theorem filter_srt {l : List Ext} (hs : srt l) (f : Ext → Bool) : srt (l.filter f) := List.Pairwise.filter f hs
theorem filter_has {l : List Ext} {f : Int → Bool} {no : Int} : hasL (l.filter fun x => f x.no) no ↔ hasL l no ∧ f no = true := by
  unfold hasL
  constructor
  · rintro ⟨x, hx, rfl⟩
    rw [List.mem_filter] at hx
    exact ⟨⟨x, hx.1, rfl⟩, hx.2⟩
  · rintro ⟨⟨x, hx, rfl⟩, h⟩
    exact ⟨x, List.mem_filter.2 ⟨hx, h⟩, rfl⟩
theorem filter_at {l : List Ext} (hs : srt l) {f : Int → Bool} (p : Int) : atL (l.filter fun x => f x.no) p = if f (p / 8) = true then atL l p else 0 := by
  by_cases h : hasL l (p / 8)
  · obtain ⟨x, hx, e⟩ := h
    split
    · rename_i c
      rw [at_mem (filter_srt hs _) (List.mem_filter.2 ⟨hx, by rw [e]; exact c⟩) e, at_mem hs hx e]
    · rename_i c
      exact atL_none (fun h2 => c (filter_has.1 h2).2)
  · rw [atL_none h, atL_none (fun h2 => h (filter_has.1 h2).1)]; split <;> rfl
/-- Another size. -/
def truncL (l : List Ext) (size : Int) : List Ext := wipeL (l.filter fun x => decide (x.no * 8 < size)) size 1099511627776
theorem tr_srt {l : List Ext} (hs : srt l) (size : Int) : srt (truncL l size) := wipe_srt (filter_srt hs _) _ _
theorem tr_has {l : List Ext} {size no : Int} : hasL (truncL l size) no ↔ hasL l no ∧ no * 8 < size := by
  unfold truncL
  rw [wipe_has, filter_has (f := fun no => decide (no * 8 < size))]; simp
theorem tr_at {l : List Ext} (hs : srt l) {size : Int} (h : ∀ no, hasL l no → no < 137438953472) (p : Int) : atL (truncL l size) p = if p < size then atL l p else 0 := by
  unfold truncL
  rw [wipe_at (filter_srt hs _), filter_at hs (f := fun no => decide (no * 8 < size))]
  by_cases c : p < size
  · rw [if_neg (by omega), if_pos c, if_pos (by simp; omega)]
  · rw [if_neg c]
    by_cases c2 : p < 1099511627776
    · rw [if_pos ⟨by omega, c2⟩]
    · rw [if_neg (by omega), atL_none]
      · split <;> rfl
      · intro h2; have := h _ h2; omega
/-- Less. -/
def gone (pos n no : Int) : Bool := decide (pos ≤ no * 8) && decide (no * 8 + 8 ≤ pos + n)
def punchL (l : List Ext) (pos n : Int) : List Ext := wipeL (l.filter fun x => !gone pos n x.no) pos (pos + n)
theorem pu_srt {l : List Ext} (hs : srt l) (pos n : Int) : srt (punchL l pos n) := wipe_srt (filter_srt hs _) _ _
theorem pu_has {l : List Ext} {pos n no : Int} : hasL (punchL l pos n) no ↔ hasL l no ∧ ¬ (pos ≤ no * 8 ∧ no * 8 + 8 ≤ pos + n) := by
  unfold punchL
  rw [wipe_has, filter_has (f := fun no => !gone pos n no)]; simp [gone]; intro _; omega
theorem pu_at {l : List Ext} (hs : srt l) (pos n p : Int) : atL (punchL l pos n) p = if pos ≤ p ∧ p < pos + n then 0 else atL l p := by
  unfold punchL
  rw [wipe_at (filter_srt hs _), filter_at hs (f := fun no => !gone pos n no)]
  split
  · rfl
  · rename_i c
    split
    · rfl
    · rename_i c2
      simp [gone] at c2
      omega
/-- Room. -/
def needs (l : List Ext) (no : Int) : Nat → List Ext
  | 0 => l
  | k + 1 => needs (needL l no) (no + 1) k
theorem ns_srt : ∀ {k : Nat} {l : List Ext} (hs : srt l) (no : Int), srt (needs l no k)
  | 0, l, hs, no => hs
  | k + 1, l, hs, no => ns_srt (k := k) (need_srt hs no) (no + 1)
theorem ns_has : ∀ {k : Nat} {l : List Ext} {no a : Int}, hasL (needs l no k) a ↔ hasL l a ∨ (no ≤ a ∧ a < no + k)
  | 0, l, no, a => by unfold needs; exact ⟨.inl, fun h => h.elim id fun h => by omega⟩
  | k + 1, l, no, a => by
    unfold needs
    rw [ns_has, need_has]
    constructor
    · rintro ((h | h) | h)
      · exact .inl h
      · exact .inr (by omega)
      · exact .inr (by omega)
    · rintro (h | h)
      · exact .inl (.inl h)
      · by_cases c : a = no
        · exact .inl (.inr c)
        · exact .inr (by omega)
theorem ns_at : ∀ {k : Nat} {l : List Ext} (hs : srt l) (no p : Int), atL (needs l no k) p = atL l p
  | 0, l, hs, no, p => rfl
  | k + 1, l, hs, no, p => by
    unfold needs
    rw [ns_at (need_srt hs no), need_at hs]
theorem ns_succ : ∀ {k : Nat} {l : List Ext} {no : Int}, needs l no (k + 1) = needL (needs l no k) (no + k)
  | 0, l, no => by simp [needs]
  | k + 1, l, no => by
    show needs (needL l no) (no + 1) (k + 1) = _
    rw [ns_succ (k := k)]
    show needL (needs (needL l no) (no + 1) k) (no + 1 + k) = needL (needs (needL l no) (no + 1) k) (no + (k + 1 : Nat))
    congr 1; omega
theorem ns_len : ∀ {k : Nat} {l : List Ext} {no : Int}, (needs l no k).length ≤ l.length + k ∧ l.length ≤ (needs l no k).length
  | 0, l, no => by simp [needs]
  | k + 1, l, no => by
    unfold needs
    have h1 := ns_len (k := k) (l := needL l no) (no := no + 1)
    have h2 := need_len l no
    omega
def allocN (pos n : Int) : Nat := ((pos + n - 1) / 8 - pos / 8 + 1).toNat
def allocL (l : List Ext) (pos n : Int) : List Ext := needs l (pos / 8) (allocN pos n)

/-! what the calls come to -/
abbrev Cont := Int × List Ext
def writeC (c : Cont) (pos : Int) (bs : List UInt8) : Option Cont :=
  if mayC c.1 c.2 ∧ 0 ≤ pos ∧ bs.length ≤ 4096 ∧ pos ≤ 1099511627776 - bs.length then some (if bs = [] then c else (max c.1 (pos + bs.length), writeL c.2 pos bs)) else none
def truncC (c : Cont) (size : Int) : Option Cont := if mayC c.1 c.2 ∧ 0 ≤ size ∧ size ≤ 1099511627776 then some (size, truncL c.2 size) else none
def allocC (c : Cont) (pos n : Int) (keep : Bool) : Option Cont :=
  if mayC c.1 c.2 ∧ 0 ≤ pos ∧ 1 ≤ n ∧ n ≤ 32768 ∧ pos ≤ 1099511627776 - n then some (if keep then c.1 else max c.1 (pos + n), allocL c.2 pos n) else none
def punchC (c : Cont) (pos n : Int) : Option Cont :=
  if mayC c.1 c.2 ∧ 0 ≤ pos ∧ 1 ≤ n ∧ n ≤ 1099511627776 ∧ pos ≤ 1099511627776 - n then some (c.1, punchL c.2 pos n) else none
theorem may_at {size : Int} {l : List Ext} : mayC size l ↔ 0 ≤ size ∧ size ≤ 1099511627776 ∧ srt l ∧ (∀ no, hasL l no → 0 ≤ no ∧ no < 137438953472) ∧ ∀ p, size ≤ p → atL l p = 0 := by
  unfold mayC; rw [okL_at]
theorem may_write {c d : Cont} {pos : Int} {bs : List UInt8} (h : writeC c pos bs = some d) : mayC d.1 d.2 := by
  unfold writeC at h
  split at h
  · rename_i g
    injection h with h
    subst h
    split
    · exact g.1
    · rename_i hb
      have hlen : 0 < bs.length := List.length_pos_iff.2 hb
      obtain ⟨g1, g2, g3, g4⟩ := g
      rw [may_at] at g1 ⊢
      obtain ⟨a1, a2, a3, a4, a5⟩ := g1
      refine ⟨by simp only; omega, by simp only; omega, wr_srt a3 pos, ?_, ?_⟩
      · intro no hno
        rcases wr_has.1 hno with h | ⟨q, h1, h2, h3⟩
        · exact a4 no h
        · omega
      · intro p hp
        simp only at hp
        rw [wr_at a3, if_neg (by omega)]
        exact a5 p (by omega)
  · cases h
theorem may_trunc {c d : Cont} {size : Int} (h : truncC c size = some d) : mayC d.1 d.2 := by
  unfold truncC at h
  split at h
  · rename_i g
    injection h with h
    subst h
    obtain ⟨g1, g2, g3⟩ := g
    rw [may_at] at g1 ⊢
    obtain ⟨a1, a2, a3, a4, a5⟩ := g1
    refine ⟨g2, g3, tr_srt a3 size, fun no hno => a4 no (tr_has.1 hno).1, fun p hp => ?_⟩
    rw [tr_at a3 (fun no h => (a4 no h).2), if_neg (by simp only at hp; omega)]
  · cases h
theorem may_alloc {c d : Cont} {pos n : Int} {keep : Bool} (h : allocC c pos n keep = some d) : mayC d.1 d.2 := by
  unfold allocC at h
  split at h
  · rename_i g
    injection h with h
    subst h
    obtain ⟨g1, g2, g3, g4, g5⟩ := g
    rw [may_at] at g1 ⊢
    obtain ⟨a1, a2, a3, a4, a5⟩ := g1
    refine ⟨by simp only; split <;> omega, by simp only; split <;> omega, ns_srt a3 _, fun no hno => ?_, fun p hp => ?_⟩
    · rcases ns_has.1 hno with h | h
      · exact a4 no h
      · unfold allocN at h; omega
    · unfold allocL
      rw [ns_at a3]
      refine a5 p ?_
      simp only at hp
      split at hp <;> omega
  · cases h
theorem may_punch {c d : Cont} {pos n : Int} (h : punchC c pos n = some d) : mayC d.1 d.2 := by
  unfold punchC at h
  split at h
  · rename_i g
    injection h with h
    subst h
    obtain ⟨g1, g2, g3, g4, g5⟩ := g
    rw [may_at] at g1 ⊢
    obtain ⟨a1, a2, a3, a4, a5⟩ := g1
    refine ⟨a1, a2, pu_srt a3 _ _, fun no hno => a4 no (pu_has.1 hno).1, fun p hp => ?_⟩
    rw [pu_at a3]
    split
    · rfl
    · exact a5 p hp
  · cases h
end Go.Proofs.Ytpnfdibgfichmaa.Av
end
/-! YtpnfdibgfichmaaAvExtC -/
section
/- Chapter 11: a content of one's own; a block that is needed. -/
set_option linter.unusedVariables false
set_option linter.unusedSimpArgs false
set_option maxRecDepth 100000
namespace Go.Proofs.Ytpnfdibgfichmaa.Av
open Go Go.RowKit

theorem oneA_owned {v : AV} (h : ownedS v = true) : oneA v = true := by
  unfold ownedS at h
  split at h
  · rfl
  · rfl
  · rfl
  · cases h
theorem flat_take {α : Type} {enc : α → List AV} {sz : Nat} (hsz : ∀ x, (enc x).length = sz) : ∀ (l : List α) (i : Nat), (l.flatMap enc).take (i * sz) = (l.take i).flatMap enc
  | [], i => by simp
  | a :: l, 0 => by simp
  | a :: l, i + 1 => by
    have ha := hsz a
    rw [List.take_succ_cons, List.flatMap_cons, List.flatMap_cons, ← flat_take hsz l i, show (i + 1) * sz = (enc a).length + i * sz by rw [ha, Nat.succ_mul]; omega, List.take_length_add_append]
theorem flat_drop {α : Type} {enc : α → List AV} {sz : Nat} (hsz : ∀ x, (enc x).length = sz) : ∀ (l : List α) (i : Nat), (l.flatMap enc).drop (i * sz) = (l.drop i).flatMap enc
  | [], i => by simp
  | a :: l, 0 => by simp
  | a :: l, i + 1 => by
    have ha := hsz a
    rw [List.drop_succ_cons, List.flatMap_cons, ← flat_drop hsz l i, show (i + 1) * sz = (enc a).length + i * sz by rw [ha, Nat.succ_mul]; omega, List.drop_length_add_append]
/-- What was there is as it was. -/
def Grew (H H' : AH) : Prop := H.length ≤ H'.length ∧ ∀ i, i < H.length → H'[i]? = H[i]?
theorem Grew.refl (H : AH) : Grew H H := ⟨Nat.le_refl _, fun _ _ => rfl⟩
theorem Grew.trans {A B C : AH} (h : Grew A B) (k : Grew B C) : Grew A C := ⟨Nat.le_trans h.1 k.1, fun i hi => (k.2 i (Nat.lt_of_lt_of_le hi h.1)).trans (h.2 i hi)⟩
theorem Grew.app (H X : AH) : Grew H (H ++ X) := ⟨by simp, fun i hi => List.getElem?_append_left hi⟩
theorem Grew.cells {H H' : AH} (h : Grew H H') {o : Nat} {x : Option AObj} (ho : H[o]? = some x) : H'[o]? = some x := by
  rw [h.2 o (List.getElem?_eq_some_iff.1 ho).1]; exact ho
theorem Grew.slice {H H' : AH} (h : Grew H H') {sz : Nat} {v : AV} {q : List AV × Nat} (hv : sliceCells H sz v = some q) : sliceCells H' sz v = some q :=
  sliceCells_keep hv fun i hi => h.2 i (sliceCells_lt hv i hi)
theorem nilS_slice {H : AH} {sz : Nat} {v : AV} {cs : List AV} {n : Nat} (h : sliceCells H sz v = some (cs, n)) : (v = nilSl ∧ cs = [] ∧ n = 0) ∨ abN .eql nilS v nilSl = some (B false) := by
  unfold sliceCells at h
  split at h
  · exact .inr rfl
  · exact .inr rfl
  · injection h with h; injection h with h1 h2; exact .inl ⟨rfl, h1.symm, h2.symm⟩
  · exact .inr rfl
  · cases h
theorem ext_Clone_c {H : AH} {v : AV} {cs : List AV} {n : Nat} (h : sliceCells H 9 v = some (cs, n)) (hn : n ≤ 1000000000) :
    ∃ r H', (ownedS r = true ∧ sliceCells H' 9 r = some (cs, n) ∧ Grew H H' ∧ ∀ i ∈ idS r, H.length ≤ i) ∧ BCall Try.prog 68 [v] H r H' := slices_Clone_Lapi_Ext_api_Ext_ok (by
  unfold slices_Clone_Lapi_Ext_api_Ext
  rcases nilS_slice h with ⟨rfl, rfl, rfl⟩ | hb
  · have e : abN .eql nilS nilSl nilSl = some (B true) := rfl
    simp only [e, bO_some, bB_bool, bI_true]
    exact ⟨rfl, h, Grew.refl H, by simp [idS]⟩
  · simp only [hb, bO_some, bB_bool, bI_false]
    have e : absl H 9 0 (zrow [(.lit (.int .i64 0)), (.lit (.int .u8 0)), (.lit (.int .u8 0)), (.lit (.int .u8 0)), (.lit (.int .u8 0)), (.lit (.int .u8 0)), (.lit (.int .u8 0)), (.lit (.int .u8 0)), (.lit (.int .u8 0))] 0) [] = some (.sl H.length 0 0 9 (.ex 0), H ++ [some (.cells [])]) := rfl
    simp only [e, bH_some]
    have g := Grew.app H [some (.cells [])]
    obtain ⟨r, H2, a1, a2, a3, a4, a5, a6⟩ := aap_spec (sz := 9) (bytes := 16) (H := H ++ [some (.cells [])]) (v := .sl H.length 0 0 9 (.ex 0)) (cs := []) (n := 0) (by simp [sliceCells]) rfl (appended_slice (g.slice h)) (by omega)
    simp only [a1, bH_some]
    refine ⟨a2, by simpa using a3, ⟨by simp at a4; omega, fun i hi => ?_⟩, fun i hi => ?_⟩
    · rw [a5 i (by simp; omega) (by simp [idS]; omega)]
      exact g.2 i hi
    · rcases a6 i hi with h | h
      · simp [idS] at h; omega
      · simp at h; omega)
theorem copied_c {H : AH} {size : Int} {v : AV} {cs : List AV} {n : Nat} (h : sliceCells H 9 v = some (cs, n)) (h1 : oneA v = true) (hn : n ≤ 1000000000) :
    ∃ r H', (∃ w, r = .agg [I size, w] ∧ ownedS w = true ∧ sliceCells H' 9 w = some (cs, n) ∧ Grew H H' ∧ ∀ i ∈ idS w, H.length ≤ i) ∧ BCall Try.prog 90 [.agg [I size, v]] H r H' := extent_copied_ok (by
  unfold extent_copied
  have g := Grew.app H [some (.cells [I size, v]), some (.cells [I 0, nilSl])]
  obtain ⟨w, H2, ⟨a2, a3, a4, a5⟩, a1⟩ := ext_Clone_c (g.slice h) hn
  have c0 := a4.cells (o := H.length) (x := some (.cells [I size, v])) (by simp)
  have c1 := a4.cells (o := H.length + 1) (x := some (.cells [I 0, nilSl])) (by rw [List.getElem?_append_right (by omega)]; simp)
  have l2 : H.length + 2 ≤ H2.length := by have := a4.1; simpa using this
  have hw := oneA_owned a2
  simp [h1]
  refine bC_of a1 ?_
  simp [cellsA_one hw]
  rw [ast_ptr (n := 2) (off := 0) (x := .agg [I size, w]) (xs := [I size, w]) (cs := [I 0, nilSl]) (by simp [hw]) c1 rfl (by simp)]
  simp [show H.length + 1 < H2.length by omega, c0, rdCells]
  refine ⟨a2, sliceCells_keep a3 fun i hi => List.getElem?_set_ne ?_, ?_, fun i hi => ?_⟩
  · have := a5 i hi; simp at this; omega
  · refine ⟨by simp; omega, fun i hi => ?_⟩
    rw [List.getElem?_set_ne (by omega), a4.2 i (by simp; omega), g.2 i hi]
  · have := a5 i hi; simp at this; omega)
theorem insE_ok {H : AH} {s : AV} {cs : List AV} {n ov i : Nat} {x : Ext} (hs : sliceCells H 9 s = some (cs, n)) (ho : ownedS s = true) (hi : i ≤ n) (hn : n ≤ 100000000) (hv : H[ov]? = some (some (.cells (encE x)))) (hne : ov ∉ idS s) :
    ∃ r H', InsP H s (cs.take (i * 9) ++ encE x ++ cs.drop (i * 9)) n r H' ∧ BCall Try.prog 106 [s, I i, .sl ov 0 1 9 (.ex 1)] H r H' := by
  have hcl := sliceCells_len hs
  rcases Nat.lt_or_ge i n with h | h
  · obtain ⟨o, off, cap, cells, rfl, h1, h2, rfl⟩ := owned_sl hs ho (by omega)
    have hov : ov ≠ o := by simpa [idS] using hne
    have hol := (List.getElem?_eq_some_iff.1 h1).1
    have hxl := encE_len x
    have e1 : ((cells.drop off).take (n * 9)).take (i * 9) = (cells.drop off).take (i * 9) := by rw [List.take_take]; congr 1; omega
    have e2 : ((cells.drop off).take (n * 9)).drop (i * 9) = (cells.drop (off + i * 9)).take ((n - i) * 9) := by rw [List.drop_take, List.drop_drop]; congr 1; omega
    refine ⟨_, _, ?_, insE_mid h1 h2 h hn hv hov⟩
    rw [e1, e2]
    refine ⟨rfl, ?_, by simp, fun j hj hn => ?_, fun j hj => .inr (by simp [idS] at hj; omega)⟩
    · rw [sliceCells_sl (c := (cells.drop off).take (i * 9) ++ encE x ++ (cells.drop (off + i * 9)).take ((n - i) * 9)) (by rw [List.getElem?_append_right (by simp)]; simp) (by simp; omega)]
      rw [List.drop_zero, List.take_of_length_le (by simp; omega)]
    · rw [List.getElem?_append_left (by simpa using hj), List.getElem?_set_ne (by simp [idS] at hn; omega)]
  · have : i = n := by omega
    subst this
    obtain ⟨r, H', h1, h2⟩ := insE_end hs ho hn hv
    refine ⟨r, H', ?_, h2⟩
    rw [List.take_of_length_le (by omega), List.drop_of_length_le (by omega), List.append_nil]
    exact h1
/-- What a call leaves of a content that is one's own: a slice that was changed, or a new one. -/
def ContP (H : AH) (oc : Nat) (size : Int) (v : AV) (l : List Ext) (H' : AH) : Prop :=
  ∃ v', H'[oc]? = some (some (.cells [I size, v'])) ∧ sliceCells H' 9 v' = some (l.flatMap encE, l.length) ∧ ownedS v' = true ∧ oc ∉ idS v' ∧ H.length ≤ H'.length ∧ (∀ i, i < H.length → i ≠ oc → i ∉ idS v → H'[i]? = H[i]?) ∧ ∀ i ∈ idS v', i ∈ idS v ∨ H.length ≤ i
theorem encE_new (no : Int) : encE (newE no) = [I no, .lit (.int .u8 0), .lit (.int .u8 0), .lit (.int .u8 0), .lit (.int .u8 0), .lit (.int .u8 0), .lit (.int .u8 0), .lit (.int .u8 0), .lit (.int .u8 0)] := rfl
theorem extent_need_c' {H : AH} {oc : Nat} {size no : Int} {v : AV} {l : List Ext} (hc : H[oc]? = some (some (.cells [I size, v]))) (hv : sliceCells H 9 v = some (l.flatMap encE, l.length)) (ho : ownedS v = true) (hne : oc ∉ idS v) (hs : srt l) (hl : l.length ≤ 100000000) :
    ∃ H', ContP H oc size v (needL l no) H' ∧ BCall Try.prog 92 [.ptr oc 0, I no] H (I (posL l no)) H' := by
  have key : ∃ r H', (r = I (posL l no) ∧ ContP H oc size v (needL l no) H') ∧ BCall Try.prog 92 [.ptr oc 0, I no] H r H' := extent_need_ok (by
    unfold extent_need
    have hol := (List.getElem?_eq_some_iff.1 hc).1
    obtain ⟨R, hR, fR⟩ := FZ.sv hv (noIdss_flat fun x _ => noIdss_encE x)
    have h1 := oneA_owned ho
    simp [hc]
    refine bP_of (PCall.lend (FZs.cons fR (FZs.cons (FZ.lit _) FZs.nil)) rfl (extent_place_p hR hs (by omega) no)) ?_
    simp
    by_cases hh : hasL l no
    · have e : needL l no = l := if_pos hh
      simp [hh]
      rw [extent_need_J2_eq]
      unfold extent_need_J2_b
      rw [e]
      exact ⟨rfl, v, hc, hv, ho, hne, Nat.le_refl _, fun _ _ _ _ => rfl, fun i hi => .inl hi⟩
    · have e : needL l no = l.take (posL l no) ++ newE no :: l.drop (posL l no) := if_neg hh
      simp [hh]
      have g := Grew.app H [some (.cells (encE (newE no)))]
      obtain ⟨r, H2, ⟨b1, b2, b3, b4, b5⟩, a1⟩ := insE_ok (x := newE no) (ov := H.length) (g.slice hv) ho (posL_le l no) hl (by simp) (fun h => by have := sliceCells_lt hv _ h; omega)
      rw [← encE_new]
      refine bC_of a1 ?_
      have c2 : H2[oc]? = some (some (.cells [I size, v])) := by
        rw [b4 oc (by simp; omega) hne]; exact g.cells hc
      have hr := oneA_owned b1
      have hol2 := (List.getElem?_eq_some_iff.1 c2).1
      rw [ast_ptr (n := 1) (off := 1) (xs := [r]) (cs := [I size, v]) (cellsA_one hr) c2 rfl (by simp)]
      simp
      rw [extent_need_J2_eq]
      unfold extent_need_J2_b
      have hoc : oc ∉ idS r := fun h => (b5 oc h).elim hne (fun h => by simp at h; omega)
      refine ⟨rfl, r, by simp [hol2], ?_, b1, hoc, by simp at b3; simp; omega, fun i hi h1 h2 => ?_, fun i hi => (b5 i hi).imp id (fun h => by simp at h; omega)⟩
      · rw [sliceCells_keep b2 (fun i hi => List.getElem?_set_ne (fun (h : oc = i) => hoc (h ▸ hi)))]
        rw [flat_take encE_len, flat_drop encE_len, e, List.flatMap_append, List.flatMap_cons, List.append_assoc]
        have := posL_le l no
        simp; omega
      · rw [List.getElem?_set_ne (by omega), b4 i (by simp; omega) h2]
        exact g.2 i hi)
  obtain ⟨r, H', ⟨rfl, h1⟩, h2⟩ := key
  exact ⟨H', h1, h2⟩
end Go.Proofs.Ytpnfdibgfichmaa.Av
end
/-! YtpnfdibgfichmaaAvIn -/
section
/- Chapter 12: which names are right, which images may be. -/
set_option linter.unusedVariables false
set_option linter.unusedSimpArgs false
set_option maxRecDepth 100000
namespace Go.Proofs.Ytpnfdibgfichmaa.Av
open Go Go.RowKit

section
variable {κ α : Type} {c : κ → κ → Int} {key : α → κ}
theorem srtK_snoc (hc : KO c) {l : List α} {x : α} : srtK c key (l ++ [x]) ↔ srtK c key l ∧ ∀ y, l.getLast? = some y → c (key y) (key x) < 0 := by
  unfold srtK
  rw [List.pairwise_append]
  constructor
  · rintro ⟨h1, -, h3⟩
    exact ⟨h1, fun y hy => h3 y (List.mem_of_getLast? hy) x (by simp)⟩
  · rintro ⟨h1, h2⟩
    refine ⟨h1, List.pairwise_singleton _ _, fun a ha b hb => ?_⟩
    rw [List.mem_singleton] at hb
    subst hb
    obtain ⟨m, hm⟩ := List.mem_iff_getElem?.1 ha
    have hl := (List.getElem?_eq_some_iff.1 hm).1
    have hy : l.getLast? = some (l[l.length - 1]) := by rw [List.getLast?_eq_getElem?, List.getElem?_eq_getElem (by omega)]
    have h3 := h2 _ hy
    rcases Nat.lt_or_ge m (l.length - 1) with h | h
    · exact hc.trans _ _ _ (srtK_get h1 hm (List.getElem?_eq_getElem (by omega)) h) h3
    · have : m = l.length - 1 := by omega
      subst this
      rw [List.getElem?_eq_getElem (by omega)] at hm
      injection hm with hm
      rw [← hm]; exact h3
end
/-! names -/
def okN (l : List Nm) : Prop := (∀ x ∈ l, mayN x.name ∧ 1 ≤ x.ino ∧ x.ino ≤ 4611686018427387904) ∧ srtK cmpN Nm.name l ∧ (l.map Nm.ino).Nodup
instance (l : List Nm) : Decidable (okN l) := by unfold okN; infer_instance
def mayNs (l : List Nm) : Prop := l.length ≤ 16 ∧ okN l
instance (l : List Nm) : Decidable (mayNs l) := by unfold mayNs; infer_instance
theorem okN_snoc {l : List Nm} {x : Nm} : okN (l ++ [x]) ↔ okN l ∧ (mayN x.name ∧ (∀ y, l.getLast? = some y → cmpN y.name x.name < 0) ∧ 1 ≤ x.ino ∧ x.ino ≤ 4611686018427387904 ∧ ¬ hasK Nm.ino l x.ino) := by
  unfold okN
  rw [srtK_snoc koN, List.map_append, List.nodup_append]
  simp only [List.mem_append, List.mem_singleton, List.map_cons, List.map_nil, List.nodup_cons, List.not_mem_nil, not_false_eq_true, List.nodup_nil, and_self, true_and]
  constructor
  · rintro ⟨h1, ⟨h2, h3⟩, h4, h5⟩
    refine ⟨⟨fun y hy => h1 y (.inl hy), h2, h4⟩, (h1 x (.inr rfl)).1, h3, (h1 x (.inr rfl)).2.1, (h1 x (.inr rfl)).2.2, ?_⟩
    rintro ⟨y, hy, e⟩
    exact h5 y.ino (List.mem_map_of_mem hy) x.ino rfl e
  · rintro ⟨⟨h1, h2, h4⟩, h5, h6, h7, h8, h9⟩
    refine ⟨?_, ⟨h2, h6⟩, h4, ?_⟩
    · rintro y (hy | rfl)
      · exact h1 y hy
      · exact ⟨h5, h7, h8⟩
    · rintro a ha b rfl e
      obtain ⟨y, hy, e2⟩ := List.mem_map.1 ha
      exact h9 ⟨y, hy, by rw [e2, e]⟩
theorem okN_app {a b : List Nm} (h : okN (a ++ b)) : okN a := by
  unfold okN at h ⊢
  refine ⟨fun x hx => h.1 x (by simp [hx]), (List.pairwise_append.1 h.2.1).1, ?_⟩
  have := h.2.2
  rw [List.map_append, List.nodup_append] at this
  exact this.1
/-- The numbers, as a map. -/
def inoM (l : List Nm) : List (Int × AV) := l.map fun x => (x.ino, B true)
theorem look_inoM (l : List Nm) (k : Int) : look (B false) (inoM l) k = B (decide (hasK Nm.ino l k)) := by
  induction l with
  | nil => simp [look, inoM, hasK]
  | cons a l ih =>
    unfold look inoM at ih ⊢
    rw [List.map_cons]
    by_cases h : a.ino = k
    · rw [List.find?_cons_of_pos (by simp [h])]
      have : hasK Nm.ino (a :: l) k := ⟨a, by simp, h⟩
      simp [this]
    · rw [List.find?_cons_of_neg (by simp [h]), ih]
      have : hasK Nm.ino (a :: l) k ↔ hasK Nm.ino l k := by
        unfold hasK
        simp [h]
      simp [this]
theorem putM_inoM {l : List Nm} {x : Nm} (h : ¬ hasK Nm.ino l x.ino) : putM (inoM l) x.ino (B true) = inoM (l ++ [x]) := by
  unfold putM
  have : (inoM l).findIdx? (fun p => p.1 == x.ino) = none := by
    rw [List.findIdx?_eq_none_iff]
    intro p hp
    obtain ⟨y, hy, rfl⟩ := List.mem_map.1 hp
    simp only [beq_eq_false_iff_ne, ne_eq]
    exact fun e => h ⟨y, hy, e⟩
  rw [this]
  simp [inoM]
/-- What names answers. -/
def NmsK (H : AH) (l : List Nm) (r : AV) (H' : AH) : Prop := Grew H H' ∧
  (mayNs l → ∃ o, r = .tup [.mp o, B true] ∧ H'[o]? = some (some (.map (encM (inoM l))))) ∧ (¬ mayNs l → r = .tup [.lit (.map none), B false])
theorem names_c {H : AH} {l : List Nm} {v : AV} (hv : SV encN 2 l v) (hl : l.length ≤ 281474976710656) (hs : ∀ x ∈ l, x.name.length ≤ 9223372036854775807) : ∃ r H', NmsK H l r H' ∧ BCall Try.prog 51 [v] H r H' := image_names_ok (by
  unfold image_names
  by_cases h16 : l.length ≤ 16
  · have e16 : ¬ (16 : Int) < l.length := by omega
    simp [hv.len, e16]
    refine image_names_L7_rule (fun n x0 x4 x11 x12 x13 H' => ∃ k : Nat, k + n = l.length ∧ x0 = v ∧ x4 = .mp H.length ∧ x11 = v ∧ x12 = I l.length ∧ x13 = I k ∧ Grew H H' ∧ H'[H.length]? = some (some (.map (encM (inoM (l.take k))))) ∧ okN (l.take k)) ?_ l.length ⟨0, by omega, rfl, rfl, rfl, rfl, rfl, Grew.app _ _, by simp; rfl, by simp [okN, srtK]⟩
    rintro n x0 x4 x11 x12 x13 H' R hR ⟨k, hk, rfl, rfl, rfl, rfl, rfl, hg, hm, hok⟩
    unfold image_names_L7_b
    rcases Nat.lt_or_ge k l.length with h | h
    · have hx := List.getElem?_eq_getElem h
      generalize l[k] = x at hx
      have htk : l.take (k + 1) = l.take k ++ [x] := by rw [List.take_add_one, hx]; rfl
      have hgt : ∀ y, (l.take k).getLast? = some y ↔ 0 < k ∧ l[k - 1]? = some y := by
        intro y
        rw [List.getLast?_eq_getElem?, List.length_take, Nat.min_eq_left (by omega), List.getElem?_take]
        by_cases c : 0 < k
        · rw [if_pos (by omega)]; exact ⟨fun h => ⟨c, h⟩, fun h => h.2⟩
        · rw [if_neg (by omega)]; exact ⟨fun h => (by cases h), fun h => absurd h.1 c⟩
      have hstep : mayNs l → mayN x.name ∧ (∀ y, 0 < k ∧ l[k - 1]? = some y → cmpN y.name x.name < 0) ∧ 1 ≤ x.ino ∧ x.ino ≤ 4611686018427387904 ∧ ¬ hasK Nm.ino (l.take k) x.ino := by
        rintro ⟨-, ho⟩
        rw [← List.take_append_drop (k + 1) l, htk] at ho
        have := (okN_snoc.1 (okN_app ho)).2
        simpa only [hgt] using this
      have hsx := hs x (List.mem_of_getElem? hx)
      have g1 := Grew.app H' [some (.cells (encN x))]
      have c1 : (H' ++ [some (AObj.cells [S (bstr x.name), I x.ino])])[H.length]? = some (some (.map (encM (inoM (l.take k))))) := g1.cells hm
      have ea : ast 2 (H' ++ [some (.cells [S (bstr []), I 0])]) (.ptr H'.length 0) (.agg (encN x)) = some (H' ++ [some (.cells (encN x))]) := by
        simp [ast, encN, splice]
      simp [h, hv.idx encN_len hx rfl, rdh_N, bstr_nil, ea]
      simp [encN]
      refine bP_of (MayName_p (s := x.name) (by omega)) ?_
      have hno : ¬ (mayN x.name ∧ (∀ y, 0 < k ∧ l[k - 1]? = some y → cmpN y.name x.name < 0) ∧ 1 ≤ x.ino ∧ x.ino ≤ 4611686018427387904 ∧ ¬ hasK Nm.ino (l.take k) x.ino) → NmsK H l (.tup [.lit (.map none), B false]) (H' ++ [some (.cells (encN x))]) := fun hn => ⟨hg.trans g1, fun hh => absurd (hstep hh) hn, fun _ => rfl⟩
      have key : (∀ y, 0 < k ∧ l[k - 1]? = some y → cmpN y.name x.name < 0) → mayN x.name → True := fun _ _ => trivial
      by_cases a1 : mayN x.name
      · have hal : alk (.int .i64) (.bool false) (H' ++ [some (AObj.cells [S (bstr x.name), I x.ino])]) (.mp H.length) (I x.ino) false = some (B (decide (hasK Nm.ino (l.take k) x.ino))) := by
          rw [alk_int c1]; exact congrArg some (look_inoM _ _)
        have ham : ¬ hasK Nm.ino (l.take k) x.ino → amu (.int .i64) (H' ++ [some (AObj.cells [S (bstr x.name), I x.ino])]) (.mp H.length) (I x.ino) (.lit (.bool true)) = some ((H' ++ [some (AObj.cells [S (bstr x.name), I x.ino])]).set H.length (some (.map (encM (inoM (l.take k ++ [x])))))) := fun hn => by
          rw [amu_int c1, putM_inoM hn]
        have hol : H.length < H'.length := (List.getElem?_eq_some_iff.1 hm).1
        rcases Nat.eq_zero_or_pos k with h0 | hk0
        · have e0 : ¬ 0 < k := by omega
          have a5 : ∀ y, (l.take k).getLast? = some y → cmpN y.name x.name < 0 := fun y hy => by have := (hgt y).1 hy; omega
          by_cases a2 : x.ino < 1
          · simp [a1, e0, a2]
            exact hno fun hh => by omega
          · by_cases a3 : 4611686018427387904 < x.ino
            · simp [a1, e0, a2, a3]
              exact hno fun hh => by omega
            · by_cases a4 : hasK Nm.ino (l.take k) x.ino
              · simp [a1, e0, a2, a3, hal, a4]
                exact hno fun hh => hh.2.2.2.2 a4
              · simp [a1, e0, a2, a3, hal, a4, ham a4, abI_add (a := (k : Nat)) (b := 1) (by omega) (by omega)]
                refine hR (n - 1) _ _ _ _ _ _ (by omega) ⟨k + 1, by omega, rfl, rfl, rfl, rfl, by simp, ⟨Nat.le_trans (hg.trans g1).1 (Nat.le_of_eq List.length_set.symm), fun i hi => (List.getElem?_set_ne (by omega)).trans ((hg.trans g1).2 i hi)⟩, by rw [htk, List.getElem?_set_self (by simp; omega)], by rw [htk, okN_snoc]; exact ⟨hok, a1, a5, by omega, by omega, a4⟩⟩
        · have e0 : 0 < k := hk0
          have hy := List.getElem?_eq_getElem (l := l) (i := k - 1) (by omega)
          generalize l[k - 1] = y at hy
          have es : abI .sub (I k) (.lit (.int .i64 1)) = some (I ((k - 1 : Nat) : Int)) := by rw [abI_sub (by omega) (by omega)]; congr 3; omega
          have ei := hv.idx encN_len hy (i := ((k - 1 : Nat) : Int)) rfl
          by_cases a6 : cmpN y.name x.name < 0
          · have a5 : ∀ y, (l.take k).getLast? = some y → cmpN y.name x.name < 0 := fun z hz => by have := ((hgt z).1 hz).2; rw [hy] at this; injection this with this; rw [← this]; exact a6
            by_cases a2 : x.ino < 1
            · simp [a1, e0, es, ei, encN_0, abT_geq, a6, a2]
              exact hno fun hh => by omega
            · by_cases a3 : 4611686018427387904 < x.ino
              · simp [a1, e0, es, ei, encN_0, abT_geq, a6, a2, a3]
                exact hno fun hh => by omega
              · by_cases a4 : hasK Nm.ino (l.take k) x.ino
                · simp [a1, e0, es, ei, encN_0, abT_geq, a6, a2, a3, hal, a4]
                  exact hno fun hh => hh.2.2.2.2 a4
                · simp [a1, e0, es, ei, encN_0, abT_geq, a6, a2, a3, hal, a4, ham a4, abI_add (a := (k : Nat)) (b := 1) (by omega) (by omega)]
                  refine hR (n - 1) _ _ _ _ _ _ (by omega) ⟨k + 1, by omega, rfl, rfl, rfl, rfl, by simp, ⟨Nat.le_trans (hg.trans g1).1 (Nat.le_of_eq List.length_set.symm), fun i hi => (List.getElem?_set_ne (by omega)).trans ((hg.trans g1).2 i hi)⟩, by rw [htk, List.getElem?_set_self (by simp; omega)], by rw [htk, okN_snoc]; exact ⟨hok, a1, a5, by omega, by omega, a4⟩⟩
          · simp [a1, e0, es, ei, encN_0, abT_geq, a6]
            exact hno fun hh => a6 (hh.2.1 y ⟨hk0, hy⟩)
      · simp [a1]
        exact hno fun hh => a1 hh.1
    · have : l.take k = l := List.take_of_length_le (by omega)
      rw [this] at hm hok
      simp [show ¬ k < l.length by omega]
      exact ⟨hg, fun _ => ⟨_, rfl, hm⟩, fun hn => absurd ⟨h16, hok⟩ hn⟩
  · have e16 : (16 : Int) < l.length := by omega
    have : ¬ mayNs l := fun h => h16 h.1
    simp [hv.len, e16]
    exact ⟨Grew.refl _, fun h => absurd h this, fun _ => rfl⟩)
end Go.Proofs.Ytpnfdibgfichmaa.Av
end
/-! YtpnfdibgfichmaaAvIo -/
section
/- Chapter 12: which images may be; the document's. -/
set_option linter.unusedVariables false
set_option linter.unusedSimpArgs false
set_option maxRecDepth 100000
namespace Go.Proofs.Ytpnfdibgfichmaa.Av
open Go Go.RowKit

/-- May an image be? -/
def okD (ns : List Nm) (ds : List Nd) : Prop := srtK cmpI Nd.ino ds ∧ ∀ d ∈ ds, hasK Nm.ino ns d.ino ∧ mayC d.size d.l
instance (ns : List Nm) (ds : List Nd) : Decidable (okD ns ds) := by unfold okD; infer_instance
def mayI (ns : List Nm) (ds : List Nd) : Prop := mayNs ns ∧ ds.length = ns.length ∧ okD ns ds
instance (ns : List Nm) (ds : List Nd) : Decidable (mayI ns ds) := by unfold mayI; infer_instance
/-- Not too much. -/
def Sm (ns : List Nm) (ds : List Nd) : Prop := ns.length ≤ 100000 ∧ ds.length ≤ 100000 ∧ (∀ x ∈ ns, x.name.length ≤ 9223372036854775807) ∧ ∀ d ∈ ds, d.l.length ≤ 1000000
/-- An image, as memory that nobody writes. -/
def ImV (ns : List Nm) (ds : List Nd) (v : AV) : Prop := ∃ a b dv, v = .agg [a, b] ∧ SV encN 2 ns a ∧ SV encD 3 dv b ∧ dv.map NdV.nd = ds
theorem ImV.noIds {ns : List Nm} {ds : List Nd} {v : AV} (h : ImV ns ds v) : noIdss [v] = true := by
  obtain ⟨a, b, dv, rfl, h1, h2, rfl⟩ := h
  simp [noIdss, Av.noIds, h1.1, h2.1]
theorem okD_snoc {ns : List Nm} {ds : List Nd} {d : Nd} : okD ns (ds ++ [d]) ↔ okD ns ds ∧ (∀ y, ds.getLast? = some y → y.ino < d.ino) ∧ hasK Nm.ino ns d.ino ∧ mayC d.size d.l := by
  unfold okD
  rw [srtK_snoc koI]
  simp only [cmpI_lt, List.mem_append, List.mem_singleton]
  constructor
  · rintro ⟨⟨h1, h2⟩, h3⟩
    exact ⟨⟨h1, fun y hy => h3 y (.inl hy)⟩, h2, h3 d (.inr rfl)⟩
  · rintro ⟨⟨h1, h3⟩, h2, h4⟩
    refine ⟨⟨h1, h2⟩, ?_⟩
    rintro y (hy | rfl)
    · exact h3 y hy
    · exact h4
theorem okD_app {ns : List Nm} {a b : List Nd} (h : okD ns (a ++ b)) : okD ns a :=
  ⟨(List.pairwise_append.1 h.1).1, fun d hd => h.2 d (by simp [hd])⟩
theorem getLast_take {α : Type} {l : List α} {k : Nat} (hk : k ≤ l.length) (y : α) : (l.take k).getLast? = some y ↔ 0 < k ∧ l[k - 1]? = some y := by
  rw [List.getLast?_eq_getElem?, List.length_take, Nat.min_eq_left hk, List.getElem?_take]
  by_cases c : 0 < k
  · rw [if_pos (by omega)]; exact ⟨fun h => ⟨c, h⟩, fun h => h.2⟩
  · rw [if_neg (by omega)]; exact ⟨fun h => (by cases h), fun h => absurd h.1 c⟩
theorem take_snoc {α : Type} {l : List α} {k : Nat} {x : α} (hx : l[k]? = some x) : l.take (k + 1) = l.take k ++ [x] := by rw [List.take_add_one, hx]; rfl
theorem May_p {ns : List Nm} {ds : List Nd} {v : AV} (hv : ImV ns ds v) (hb : Sm ns ds) : BPure Try.prog 22 [v] (B (decide (mayI ns ds))) := BPure.val hv.noIds rfl (image_May_ok (by
  obtain ⟨a, b, dv, rfl, ha, hbv, rfl⟩ := hv
  have b1 := hb.1
  have b2 := hb.2.1
  rw [List.length_map] at b2
  unfold image_May
  have oa := SV.oneA ha
  have ob := SV.oneA hbv
  simp [oa, ob]
  obtain ⟨r, H5, ⟨hg, hy, hn⟩, hc⟩ := names_c (H := [some (.cells [a, b])]) ha (by omega) (fun x hx => by have := hb.2.2.1 x hx; omega)
  refine bC_of hc ?_
  have c0 : H5[0]? = some (some (.cells [a, b])) := hg.cells rfl
  by_cases hm : mayNs ns
  · obtain ⟨o, rfl, hmap⟩ := hy hm
    have hal : alnM H5 (.mp o) = some (I ns.length) := by
      simp [alnM, hmap, encM, inoM, goInt]
    simp [c0, hbv.len, hal]
    by_cases hlen : dv.length = ns.length
    · have hlI : ¬ ((dv.length : Int) ≠ ns.length) := by omega
      simp [hlen, c0, hbv.len]
      refine image_May_L8_rule (fun n x3 x5 x25 x26 x27 H' => ∃ k : Nat, k + n = dv.length ∧ x3 = .mp o ∧ (∃ last : Int, x5 = I last ∧ 0 ≤ last ∧ (∀ y, (dv.take k).getLast? = some y → y.ino ≤ last) ∧ (last = 0 ∨ ∃ y, (dv.take k).getLast? = some y ∧ y.ino = last)) ∧ x25 = b ∧ x26 = I ns.length ∧ x27 = I k ∧ Grew H5 H' ∧ okD ns ((dv.take k).map NdV.nd)) ?_ dv.length ⟨0, by omega, rfl, ⟨0, rfl, by omega, by simp, .inl rfl⟩, rfl, rfl, rfl, Grew.refl _, by simp [okD, srtK]⟩
      rintro n x3 x5 x25 x26 x27 H' R hR ⟨k, hk, rfl, ⟨last, rfl, hl0, hl1, hl2⟩, rfl, rfl, rfl, hg2, hok⟩
      unfold image_May_L8_b
      rcases Nat.lt_or_ge k ns.length with h | h
      · have hx := List.getElem?_eq_getElem (l := dv) (i := k) (by omega)
        generalize dv[k] = d at hx
        have ea : ast 3 (H' ++ [some (.cells [I 0, I 0, nilSl])]) (.ptr H'.length 0) (.agg (encD d)) = some (H' ++ [some (.cells (encD d))]) := by
          have := SV.oneA d.h
          simp [ast, encD, splice, this]
        have g1 := Grew.app H' [some (.cells (encD d))]
        have c1 : (H' ++ [some (AObj.cells [I d.nd.ino, I d.nd.size, d.R])])[o]? = some (some (.map (encM (inoM ns)))) := g1.cells (hg2.cells hmap)
        have hal2 : alk (.int .i64) (.bool false) (H' ++ [some (AObj.cells [I d.nd.ino, I d.nd.size, d.R])]) (.mp o) (I d.nd.ino) false = some (B (decide (hasK Nm.ino ns d.nd.ino))) := by
          rw [alk_int c1]; exact congrArg some (look_inoM _ _)
        have hdl : d.nd.l.length ≤ 281474976710656 := by
          have := hb.2.2.2 d.nd (List.mem_map_of_mem (List.mem_of_getElem? hx)); omega
        have htk := take_snoc hx
        have hstep : mayI ns (dv.map NdV.nd) → last < d.nd.ino ∧ hasK Nm.ino ns d.nd.ino ∧ mayC d.nd.size d.nd.l := by
          rintro ⟨-, -, ho⟩
          rw [← List.take_append_drop (k + 1) dv, htk, List.map_append, List.map_append] at ho
          have h3 := (okD_snoc.1 (okD_app ho)).2
          refine ⟨?_, h3.2⟩
          rcases hl2 with rfl | ⟨y, hy, rfl⟩
          · obtain ⟨x, hx, e⟩ := h3.2.1
            have := (hm.2.1 x hx).2.1
            omega
          · exact h3.1 y.nd (by rw [List.getLast?_map, hy]; rfl)
        simp [h, hbv.idx encD_len hx rfl, rdh_D, ea]
        simp [encD]
        by_cases a1 : d.nd.ino ≤ last
        · have : ¬ mayI ns (dv.map NdV.nd) := fun hh => by have := (hstep hh).1; omega
          simp [a1, this]
        · by_cases a2 : hasK Nm.ino ns d.nd.ino
          · simp [a1, hal2, a2, rdCells]
            refine bP_pure (extent_May_p d.h hdl) ?_
            by_cases a3 : mayC d.nd.size d.nd.l
            · simp [a3, abI_add (a := k) (b := 1) (by omega) (by omega)]
              refine hR (n - 1) _ _ _ _ _ _ (by omega) ⟨k + 1, by omega, rfl, ⟨d.nd.ino, rfl, by omega, ?_, .inr ⟨d, by rw [htk]; simp, rfl⟩⟩, rfl, rfl, by simp, hg2.trans g1, ?_⟩
              · intro y hy
                rw [htk] at hy
                simp at hy
                rw [← hy]; exact Int.le_refl _
              · rw [htk, List.map_append]
                refine okD_snoc.2 ⟨hok, fun y hy => ?_, a2, a3⟩
                rw [List.getLast?_map] at hy
                obtain ⟨z, hz, rfl⟩ := Option.map_eq_some_iff.1 hy
                have h9 : z.nd.ino ≤ last := hl1 z hz
                show z.nd.ino < d.nd.ino
                omega
            · have : ¬ mayI ns (dv.map NdV.nd) := fun hh => a3 (hstep hh).2.2
              simp [a3, this]
          · have : ¬ mayI ns (dv.map NdV.nd) := fun hh => a2 (hstep hh).2.1
            simp [a1, hal2, a2, this]
      · have e : dv.take k = dv := List.take_of_length_le (by omega)
        rw [e] at hok
        have : mayI ns (dv.map NdV.nd) := ⟨hm, by simp [hlen], hok⟩
        simp [show ¬ k < ns.length by omega, this]
    · have : ¬ mayI ns (dv.map NdV.nd) := fun h => hlen (by simpa using h.2.1)
      have hlI : ((dv.length : Int) ≠ ns.length) := by omega
      simp [hlI, this]
  · have : ¬ mayI ns (dv.map NdV.nd) := fun h => hm h.1
    rw [hn hm]
    simp [this]))
/-! the document's -/
theorem ref_MayName_p {s : List UInt8} (hs : s.length ≤ 9223372036854775807) : BPure Try.prog 27 [S (bstr s)] (B (decide (mayN s))) := BPure.flat fun H => salvorref11_MayName_ok (by
  unfold salvorref11_MayName
  refine salvorref11_MayName_L3_rule (fun n x0 x3 H' => ∃ k : Nat, k + n = s.length ∧ x0 = S (bstr s) ∧ x3 = I k ∧ H' = H ∧ (∀ m y, m < k → s[m]? = some y → mayB y) ∧ (0 < k → s[0]? ≠ some 45)) ?_ s.length ⟨0, by omega, rfl, rfl, rfl, by omega, by omega⟩
  rintro n x0 x3 H' R hR ⟨k, hk, rfl, rfl, rfl, hb, h45⟩
  unfold salvorref11_MayName_L3_b
  rw [alnT_spec (by omega)]
  rcases Nat.lt_or_ge k s.length with h | h
  · have hx := List.getElem?_eq_getElem h
    generalize s[k] = y at hx
    have hno : ¬ (mayB y ∧ (k = 0 → ¬ (y.toNat : Int) = 45)) → ¬ mayN s := fun hn hm => hn ⟨hm.2.2.2 y (List.mem_of_getElem? hx), fun e0 e => hm.2.2.1 (by rw [← e0, hx]; congr 1; exact (u8c (k := 45) rfl).mp e)⟩
    have next : mayB y → (k = 0 → ¬ (y.toNat : Int) = 45) → R [S (bstr s), I ((k : Int) + 1)] H' := fun h1 h2 => hR (n - 1) _ _ _ (by omega) ⟨k + 1, by omega, rfl, by simp, rfl, fun m z hm hz => by
      by_cases c : m = k
      · rw [c, hx] at hz; injection hz with hz; rw [← hz]; exact h1
      · exact hb m z (by omega) hz, fun _ => by
      rcases Nat.eq_zero_or_pos k with rfl | h0
      · rw [hx]; intro e; injection e with e; exact h2 rfl ((u8c (k := 45) rfl).mpr e)
      · exact h45 h0⟩
    have e1 := abI_add (a := k) (b := 1) (by omega) (by omega)
    simp [h, aivT_spec rfl hx]
    by_cases c1 : (y.toNat : Int) < 97
    · by_cases c2 : (y.toNat : Int) < 48
      · by_cases c3 : (y.toNat : Int) = 46
        · simp [c1, c2, c3, e1]
          exact next (by unfold mayB; omega) (by omega)
        · by_cases c4 : (y.toNat : Int) = 45
          · rcases Nat.eq_zero_or_pos k with h0 | h0
            · have : ¬ mayN s := hno fun hh => hh.2 h0 c4
              simp [c1, c2, c3, c4, h0, this]
            · simp [c1, c2, c3, c4, e1, show ¬ k = 0 by omega]
              exact next (by unfold mayB; omega) (by omega)
          · have e95 : ¬ (y.toNat : Int) = 95 := by omega
            have : ¬ mayN s := hno fun hh => by unfold mayB at hh; omega
            simp [c1, c2, c3, c4, e95, this]
      · by_cases c3 : (57 : Int) < y.toNat
        · by_cases c4 : (y.toNat : Int) = 95
          · simp [c1, c2, c3, c4, e1]
            exact next (by unfold mayB; omega) (by omega)
          · have e46 : ¬ (y.toNat : Int) = 46 := by omega
            have e45 : ¬ (y.toNat : Int) = 45 := by omega
            have : ¬ mayN s := hno fun hh => by unfold mayB at hh; omega
            simp [c1, c2, c3, c4, e46, e45, this]
        · simp [c1, c2, c3, e1]
          exact next (by unfold mayB; omega) (by omega)
    · by_cases c2 : (122 : Int) < y.toNat
      · have e48 : ¬ (y.toNat : Int) < 48 := by omega
        have e57 : (57 : Int) < y.toNat := by omega
        have e46 : ¬ (y.toNat : Int) = 46 := by omega
        have e95 : ¬ (y.toNat : Int) = 95 := by omega
        have e45 : ¬ (y.toNat : Int) = 45 := by omega
        have : ¬ mayN s := hno fun hh => by unfold mayB at hh; omega
        simp [c1, c2, e48, e57, e46, e95, e45, this]
      · simp [c1, c2, e1]
        exact next (by unfold mayB; omega) (by omega)
  · have hall : ∀ b ∈ s, mayB b := fun b hb' => by
      obtain ⟨m, hm⟩ := List.mem_iff_getElem?.1 hb'
      have := (List.getElem?_eq_some_iff.1 hm).1
      exact hb m b (by omega) hm
    have e0 : ¬ k < s.length := by omega
    rcases Nat.eq_zero_or_pos s.length with h0 | h0
    · have : ¬ mayN s := fun hm => hm.1 (List.length_eq_zero_iff.1 h0)
      have e1 : ¬ (1 : Int) ≤ s.length := by omega
      have e2 : ¬ 1 ≤ s.length := by omega
      simp only [abI_lss, bO_some, bB_bool, Int.ofNat_lt, e0, decide_false, bI_false]
      simp [bstr_size, h0, this]
    · by_cases h20 : s.length ≤ 20
      · have : mayN s := ⟨fun e => by rw [e] at h0; simp at h0, h20, h45 (by omega), hall⟩
        have e1 : (1 : Int) ≤ s.length := by omega
        have e2 : (s.length : Int) ≤ 20 := by omega
        simp [e0, e1, e2, bstr_size, this]
      · have : ¬ mayN s := fun hm => h20 hm.2.1
        have e1 : (1 : Int) ≤ s.length := by omega
        have e2 : ¬ (s.length : Int) ≤ 20 := by omega
        simp [e0, e1, e2, bstr_size, this]
        try omega)
end Go.Proofs.Ytpnfdibgfichmaa.Av
end
/-! YtpnfdibgfichmaaAvIp -/
section
/- Chapter 12: where the document finds a name and a file; which images may be by it. -/
set_option linter.unusedVariables false
set_option linter.unusedSimpArgs false
set_option maxRecDepth 100000
namespace Go.Proofs.Ytpnfdibgfichmaa.Av
open Go Go.RowKit

section
variable {κ α : Type} [DecidableEq κ] {c : κ → κ → Int} {key : α → κ}
/-- Where a key is first; below 0: nowhere. -/
def idxK (key : α → κ) (l : List α) (k : κ) : Int := match l.findIdx? (fun x => decide (key x = k)) with
  | some j => j
  | none => -1
theorem idxK_none {l : List α} {k : κ} (h : ¬ hasK key l k) : idxK key l k = -1 := by
  unfold idxK
  have : l.findIdx? (fun x => decide (key x = k)) = none := by
    rw [List.findIdx?_eq_none_iff]
    intro x hx
    simp only [decide_eq_false_iff_not]
    exact fun e => h ⟨x, hx, e⟩
  rw [this]
theorem idxK_at {l : List α} {k : κ} {j : Nat} {x : α} (hx : l[j]? = some x) (hk : key x = k) (hn : ∀ m y, m < j → l[m]? = some y → key y ≠ k) : idxK key l k = j := by
  unfold idxK
  have : l.findIdx? (fun x => decide (key x = k)) = some j := by
    obtain ⟨h1, h2⟩ := List.getElem?_eq_some_iff.1 hx
    rw [List.findIdx?_eq_some_iff_getElem]
    refine ⟨h1, by rw [h2]; simp [hk], fun m hm => ?_⟩
    have := hn m _ hm (List.getElem?_eq_getElem (by omega))
    simp [this]
  rw [this]
theorem idxK_has {l : List α} {k : κ} (h : hasK key l k) : ∃ (j : Nat) (x : α), idxK key l k = j ∧ l[j]? = some x ∧ key x = k := by
  unfold idxK
  cases hf : l.findIdx? (fun x => decide (key x = k)) with
  | none =>
    rw [List.findIdx?_eq_none_iff] at hf
    obtain ⟨x, hx, e⟩ := h
    have := hf x hx
    simp [e] at this
  | some j =>
    obtain ⟨h1, h2, h3⟩ := List.findIdx?_eq_some_iff_getElem.1 hf
    exact ⟨j, l[j], rfl, List.getElem?_eq_getElem h1, by simpa using h2⟩
theorem idxK_pos (hc : KO c) {l : List α} (hs : srtK c key l) {k : κ} (h : hasK key l k) : idxK key l k = posK c key l k := by
  obtain ⟨j, x, h1, h2, rfl⟩ := idxK_has h
  rw [h1, posK_at hc hs h2]
theorem idxK_lt {l : List α} {k : κ} : idxK key l k < 0 ↔ ¬ hasK key l k := by
  constructor
  · intro h hh
    obtain ⟨j, x, h1, h2, rfl⟩ := idxK_has hh
    omega
  · intro h; rw [idxK_none h]; omega
end
theorem ref_named_p {ns : List Nm} {ds : List Nd} {v : AV} (hv : ImV ns ds v) (hb : Sm ns ds) (s : List UInt8) : BPure Try.prog 43 [v, S (bstr s)] (I (idxK Nm.name ns s)) := BPure.val (by have := hv.noIds; simpa [noIdss, noIds] using this) rfl (salvorref11_named_ok (by
  obtain ⟨a, b, dv, rfl, ha, hbv, rfl⟩ := hv
  have b1 := hb.1
  unfold salvorref11_named
  have oa := SV.oneA ha
  have ob := SV.oneA hbv
  simp [oa, ob]
  refine salvorref11_named_L3_rule (fun n x1 x2 x5 H' => ∃ k : Nat, k + n = ns.length ∧ x1 = S (bstr s) ∧ x2 = .ptr 0 0 ∧ x5 = I k ∧ H' = [some (.cells [a, b])] ∧ ∀ m y, m < k → ns[m]? = some y → y.name ≠ s) ?_ ns.length ⟨0, by omega, rfl, rfl, rfl, rfl, by omega⟩
  rintro n x1 x2 x5 H' R hR ⟨k, hk, rfl, rfl, rfl, rfl, hn⟩
  unfold salvorref11_named_L3_b
  rcases Nat.lt_or_ge k ns.length with h | h
  · have hx := List.getElem?_eq_getElem h
    generalize ns[k] = x at hx
    simp [ha.len, h, ha.idx encN_len hx rfl, encN_0, abT_eql]
    by_cases c : x.name = s
    · have := idxK_at hx c hn
      simp [c, this]
    · simp [c, abI_add (a := k) (b := 1) (by omega) (by omega)]
      exact hR (n - 1) _ _ _ _ (by omega) ⟨k + 1, by omega, rfl, rfl, by simp, rfl, fun m y hm hy => by
        by_cases c2 : m = k
        · rw [c2, hx] at hy; injection hy with hy; rw [← hy]; exact c
        · exact hn m y (by omega) hy⟩
  · have : idxK Nm.name ns s = -1 := idxK_none (by
      rintro ⟨x, hx, e⟩
      obtain ⟨m, hm⟩ := List.mem_iff_getElem?.1 hx
      have := (List.getElem?_eq_some_iff.1 hm).1
      exact hn m x (by omega) hm e)
    simp [ha.len, show ¬ k < ns.length by omega, this]))
theorem getElem?_map_nd {dv : List NdV} {k : Nat} {d : Nd} (h : (dv.map NdV.nd)[k]? = some d) : ∃ x, dv[k]? = some x ∧ x.nd = d := by
  rw [List.getElem?_map] at h
  exact Option.map_eq_some_iff.1 h
theorem ref_node_p {ns : List Nm} {ds : List Nd} {v : AV} (hv : ImV ns ds v) (hb : Sm ns ds) (no : Int) : BPure Try.prog 44 [v, I no] (I (idxK Nd.ino ds no)) := BPure.val (by have := hv.noIds; simpa [noIdss, noIds] using this) rfl (salvorref11_node_ok (by
  obtain ⟨a, b, dv, rfl, ha, hbv, rfl⟩ := hv
  have b1 := hb.2.1
  rw [List.length_map] at b1
  unfold salvorref11_node
  have oa := SV.oneA ha
  have ob := SV.oneA hbv
  simp [oa, ob]
  refine salvorref11_node_L3_rule (fun n x1 x2 x5 H' => ∃ k : Nat, k + n = dv.length ∧ x1 = I no ∧ x2 = .ptr 0 0 ∧ x5 = I k ∧ H' = [some (.cells [a, b])] ∧ ∀ m y, m < k → (dv.map NdV.nd)[m]? = some y → y.ino ≠ no) ?_ dv.length ⟨0, by omega, rfl, rfl, rfl, rfl, by omega⟩
  rintro n x1 x2 x5 H' R hR ⟨k, hk, rfl, rfl, rfl, rfl, hn⟩
  unfold salvorref11_node_L3_b
  rcases Nat.lt_or_ge k dv.length with h | h
  · have hx := List.getElem?_eq_getElem h
    generalize dv[k] = x at hx
    have hx2 : (dv.map NdV.nd)[k]? = some x.nd := by rw [List.getElem?_map, hx]; rfl
    simp [hbv.len, h, hbv.idx encD_len hx rfl, encD_0]
    by_cases c : x.nd.ino = no
    · have := idxK_at (key := Nd.ino) hx2 c hn
      simp [c, this]
    · simp [c, abI_add (a := k) (b := 1) (by omega) (by omega)]
      exact hR (n - 1) _ _ _ _ (by omega) ⟨k + 1, by omega, rfl, rfl, by simp, rfl, fun m y hm hy => by
        by_cases c2 : m = k
        · rw [c2, hx2] at hy; injection hy with hy; rw [← hy]; exact c
        · exact hn m y (by omega) hy⟩
  · have : idxK Nd.ino (dv.map NdV.nd) no = -1 := idxK_none (by
      rintro ⟨x, hx, e⟩
      obtain ⟨m, hm⟩ := List.mem_iff_getElem?.1 hx
      have := (List.getElem?_eq_some_iff.1 hm).1
      rw [List.length_map] at this
      exact hn m x (by omega) hm e)
    simp [hbv.len, show ¬ k < dv.length by omega, this]))
theorem pigeon : ∀ {A B : List Int}, A.Nodup → (∀ a ∈ A, a ∈ B) → B.length ≤ A.length → ∀ b ∈ B, b ∈ A
  | [], B, _, _, hl, b, hb => by
    have : B = [] := List.length_eq_zero_iff.1 (by simpa using hl)
    rw [this] at hb; exact hb
  | a :: A, B, hn, hs, hl, b, hb => by
    rw [List.nodup_cons] at hn
    by_cases e : b = a
    · simp [e]
    · have haB := hs a (by simp)
      have hl2 : (B.erase a).length ≤ A.length := by
        rw [List.length_erase_of_mem haB]; simp at hl; omega
      have := pigeon (A := A) (B := B.erase a) hn.2 (fun x hx => (List.mem_erase_of_ne (fun (e2 : x = a) => hn.1 (e2 ▸ hx))).2 (hs x (by simp [hx]))) hl2 b ((List.mem_erase_of_ne e).2 hb)
      simp [this]
/-- What the document asks of an image. -/
def okP (N : List Nd) (ns : List Nm) (ds : List Nd) : Prop := okN ns ∧ srtK cmpI Nd.ino ds ∧ (∀ x ∈ ns, hasK Nd.ino N x.ino) ∧ ∀ d ∈ ds, mayC d.size d.l
theorem mayI_doc {ns : List Nm} {ds : List Nd} : mayI ns ds ↔ ns.length ≤ 16 ∧ ds.length = ns.length ∧ okP ds ns ds := by
  unfold mayI mayNs okD okP
  constructor
  · rintro ⟨⟨h1, h2⟩, h3, h4, h5⟩
    refine ⟨h1, h3, h2, h4, ?_, fun d hd => (h5 d hd).2⟩
    have hn : (ds.map Nd.ino).Nodup := by
      rw [List.Nodup, List.pairwise_map]
      exact h4.imp fun h => by rw [cmpI_lt] at h; omega
    have := pigeon (A := ds.map Nd.ino) (B := ns.map Nm.ino) hn (fun a ha => by
      obtain ⟨d, hd, rfl⟩ := List.mem_map.1 ha
      obtain ⟨x, hx, e⟩ := (h5 d hd).1
      rw [← e]; exact List.mem_map_of_mem hx) (by simp [h3])
    intro x hx
    obtain ⟨d, hd, e⟩ := List.mem_map.1 (this x.ino (List.mem_map_of_mem hx))
    exact ⟨d, hd, e⟩
  · rintro ⟨h1, h3, h2, h4, h5, h6⟩
    refine ⟨⟨h1, h2⟩, h3, h4, fun d hd => ⟨?_, h6 d hd⟩⟩
    have := pigeon (A := ns.map Nm.ino) (B := ds.map Nd.ino) h2.2.2 (fun a ha => by
      obtain ⟨x, hx, rfl⟩ := List.mem_map.1 ha
      obtain ⟨d, hd, e⟩ := h5 x hx
      rw [← e]; exact List.mem_map_of_mem hd) (by simp [h3])
    obtain ⟨x, hx, e⟩ := List.mem_map.1 (this d.ino (List.mem_map_of_mem hd))
    exact ⟨x, hx, e⟩
theorem ref_MayImage_p {ns : List Nm} {ds : List Nd} {v : AV} (hv : ImV ns ds v) (hb : Sm ns ds) : BPure Try.prog 28 [v] (B (decide (mayI ns ds))) := BPure.val hv.noIds rfl (salvorref11_MayImage_ok (by
  have hv0 := hv
  obtain ⟨a, b, dv, rfl, ha, hbv, rfl⟩ := hv
  have b1 := hb.1
  have b2 := hb.2.1
  rw [List.length_map] at b2
  unfold salvorref11_MayImage
  have oa := SV.oneA ha
  have ob := SV.oneA hbv
  simp [oa, ob, ha.len, hbv.len]
  by_cases h16 : ns.length ≤ 16
  · have e16 : ¬ (16 : Int) < ns.length := by omega
    by_cases hlen : dv.length = ns.length
    · have hlI : ((ns.length : Int) = dv.length) := by omega
      simp [e16, show ¬ (16 : Int) < dv.length by omega, hlI, ha.len, hbv.len]
      refine salvorref11_MayImage_L6_rule (fun n x1 x3 H' => ∃ k : Nat, k + n = ns.length ∧ x1 = .ptr 0 0 ∧ x3 = I k ∧ Grew [some (.cells [a, b])] H' ∧ okP (dv.map NdV.nd) (ns.take k) ((dv.take k).map NdV.nd)) ?_ ns.length ⟨0, by omega, rfl, rfl, Grew.refl _, by simp [okP, okN, srtK]⟩
      rintro n x1 x3 H' R hR ⟨k, hk, rfl, rfl, hg, hok⟩
      unfold salvorref11_MayImage_L6_b
      have c0 : H'[0]? = some (some (.cells [a, b])) := hg.cells rfl
      rcases Nat.lt_or_ge k ns.length with h | h
      · have hx := List.getElem?_eq_getElem h
        generalize ns[k] = x at hx
        have hd := List.getElem?_eq_getElem (l := dv) (i := k) (by omega)
        generalize dv[k] = d at hd
        have hsx := hb.2.2.1 x (List.mem_of_getElem? hx)
        have htx := take_snoc hx
        have htd := take_snoc hd
        have hdl : d.nd.l.length ≤ 281474976710656 := by
          have := hb.2.2.2 d.nd (List.mem_map_of_mem (List.mem_of_getElem? hd)); omega
        have hstep : mayI ns (dv.map NdV.nd) → (mayN x.name ∧ (∀ y, 0 < k ∧ ns[k - 1]? = some y → cmpN y.name x.name < 0) ∧ 1 ≤ x.ino ∧ x.ino ≤ 4611686018427387904 ∧ ¬ hasK Nm.ino (ns.take k) x.ino) ∧ (∀ y, 0 < k ∧ dv[k - 1]? = some y → y.nd.ino < d.nd.ino) ∧ hasK Nd.ino (dv.map NdV.nd) x.ino ∧ mayC d.nd.size d.nd.l := by
          intro hm
          obtain ⟨-, -, o1, o2, o3, o4⟩ := mayI_doc.1 hm
          refine ⟨?_, ?_, o3 x (List.mem_of_getElem? hx), o4 d.nd (List.mem_map_of_mem (List.mem_of_getElem? hd))⟩
          · rw [← List.take_append_drop (k + 1) ns, htx] at o1
            have := (okN_snoc.1 (okN_app o1)).2
            simpa only [getLast_take (show k ≤ ns.length by omega)] using this
          · rintro y ⟨h0, hy⟩
            have := srtK_get o2 (i := k - 1) (j := k) (x := y.nd) (y := d.nd) (by rw [List.getElem?_map, hy]; rfl) (by rw [List.getElem?_map, hd]; rfl) (by omega)
            rwa [cmpI_lt] at this
        obtain ⟨X, ea, c1, c2, g2⟩ : ∃ X, ast 2 (H' ++ [some (.cells [S (bstr []), I 0])]) (.ptr H'.length 0) (.agg (encN x)) = some X ∧ X[0]? = some (some (.cells [a, b])) ∧ X[H'.length]? = some (some (.cells [S (bstr x.name), I x.ino])) ∧ Grew H' X := by
          have g1 := Grew.app H' [some (.cells (encN x))]
          exact ⟨_, by simp [ast, encN, splice], g1.cells c0, by simp [encN], g1⟩
        simp [c0, ha.len, h, ha.idx encN_len hx rfl, rdh_N, bstr_nil, ea]
        simp [c2]
        refine bP_of (ref_MayName_p (s := x.name) (by omega)) ?_
        by_cases a1 : mayN x.name
        · by_cases a2 : x.ino < 1
          · have : ¬ mayI ns (dv.map NdV.nd) := fun hm => by have := (hstep hm).1.2.2.1; omega
            simp [c2, a1, a2, this]
          · by_cases a3 : 4611686018427387904 < x.ino
            · have : ¬ mayI ns (dv.map NdV.nd) := fun hm => by have := (hstep hm).1.2.2.2.1; omega
              simp [c2, a1, a2, a3, this]
            · rcases Nat.eq_zero_or_pos k with h0 | hk0
              · have e0 : ¬ 0 < k := by omega
                simp [c2, a1, a2, a3, e0, c1, rdCells]
                refine bP_of (ref_node_p hv0 hb x.ino) ?_
                by_cases a4 : hasK Nd.ino (dv.map NdV.nd) x.ino
                · have i4 : ¬ idxK Nd.ino (dv.map NdV.nd) x.ino < 0 := by rw [idxK_lt]; exact fun h => h a4
                  simp [c2, i4]
                  refine salvorref11_MayImage_L16_rule _ (fun n x1 x3 x4 x5 H'' => ∃ j : Nat, j + n = k ∧ x1 = .ptr 0 0 ∧ x3 = I k ∧ x4 = .ptr H'.length 0 ∧ x5 = I j ∧ X = H'' ∧ ¬ hasK Nm.ino (ns.take j) x.ino) ?_ k ⟨0, by omega, rfl, rfl, rfl, rfl, rfl, by simp [c2, hasK]⟩
                  rintro n2 y1 y3 y4 y5 H2 R2 hR2 ⟨j, hj, rfl, rfl, rfl, rfl, rfl, hnj⟩
                  unfold salvorref11_MayImage_L16_b
                  rcases Nat.lt_or_ge j k with hjk | hjk
                  · have hz := List.getElem?_eq_getElem (l := ns) (i := j) (by omega)
                    generalize ns[j] = z at hz
                    simp [c2, hjk, c1, ha.idx encN_len hz rfl, encN_1]
                    by_cases cz : z.ino = x.ino
                    · have : ¬ mayI ns (dv.map NdV.nd) := fun hm => (hstep hm).1.2.2.2.2 ⟨z, List.mem_iff_getElem?.2 ⟨j, by rw [List.getElem?_take, if_pos hjk]; exact hz⟩, cz⟩
                      simp [c2, cz, this]
                    · simp [c2, cz, abI_add (a := j) (b := 1) (by omega) (by omega)]
                      refine hR2 (n2 - 1) _ _ _ _ _ (by omega) ⟨j + 1, by omega, rfl, rfl, rfl, by simp, rfl, ?_⟩
                      rw [take_snoc hz]
                      rintro ⟨w, hw, e⟩
                      rcases List.mem_append.1 hw with hw | hw
                      · exact hnj ⟨w, hw, e⟩
                      · rw [List.mem_singleton] at hw; subst hw; exact cz e
                  · have ejk : j = k := by omega
                    subst ejk
                    have nj : ¬ j < j := by omega
                    have ei := hbv.idx encD_len hd rfl
                    have nxt : (∀ y, 0 < j ∧ dv[j - 1]? = some y → y.nd.ino < d.nd.ino) → mayC d.nd.size d.nd.l → R [.ptr 0 0, I ((j : Int) + 1)] X := fun q1 q2 => by
                      refine hR (n - 1) _ _ _ (by omega) ⟨j + 1, by omega, rfl, by simp, hg.trans g2, ?_⟩
                      rw [htx, htd, List.map_append]
                      obtain ⟨o1, o2, o3, o4⟩ := hok
                      refine ⟨okN_snoc.2 ⟨o1, a1, (fun y hy => by have := (getLast_take (by omega) y).1 hy; omega), by omega, by omega, hnj⟩, (srtK_snoc koI).2 ⟨o2, ?_⟩, ?_, ?_⟩
                      · intro y hy
                        rw [List.getLast?_map] at hy
                        obtain ⟨w, hw, rfl⟩ := Option.map_eq_some_iff.1 hy
                        rw [cmpI_lt]
                        exact q1 w ((getLast_take (by omega) w).1 hw)
                      · intro y hy
                        rcases List.mem_append.1 hy with hy | hy
                        · exact o3 y hy
                        · rw [List.mem_singleton] at hy; subst hy; exact a4
                      · intro y hy
                        rcases List.mem_append.1 hy with hy | hy
                        · exact o4 y hy
                        · simp at hy; subst hy; exact q2
                    have n0 : ¬ 0 < j := by omega
                    simp [c2, n0, c1, ei, encD_c]
                    refine bP_of (ref_MayContent_p d.h hdl) ?_
                    by_cases q2 : mayC d.nd.size d.nd.l
                    · simp [c2, q2, abI_add (a := j) (b := 1) (by omega) (by omega)]
                      exact nxt (fun y hy => by omega) q2
                    · have : ¬ mayI ns (dv.map NdV.nd) := fun hm => q2 (hstep hm).2.2.2
                      simp [c2, q2, this]
                · have i4 : idxK Nd.ino (dv.map NdV.nd) x.ino < 0 := idxK_lt.2 a4
                  have : ¬ mayI ns (dv.map NdV.nd) := fun hm => a4 (hstep hm).2.2.1
                  simp [c2, i4, this]
              · have hy := List.getElem?_eq_getElem (l := ns) (i := k - 1) (by omega)
                generalize ns[k - 1] = y at hy
                have es : abI .sub (I k) (.lit (.int .i64 1)) = some (I ((k - 1 : Nat) : Int)) := by rw [abI_sub (by omega) (by omega)]; congr 3; omega
                have eiy := ha.idx encN_len hy (i := ((k - 1 : Nat) : Int)) rfl
                simp [c2, a1, a2, a3, hk0, c1, es, eiy, encN_0, abT_geq]
                by_cases a6 : cmpN y.name x.name < 0
                · simp [c2, show ¬ 0 ≤ cmpN y.name x.name by omega, c1, rdCells]
                  refine bP_of (ref_node_p hv0 hb x.ino) ?_
                  by_cases a4 : hasK Nd.ino (dv.map NdV.nd) x.ino
                  · have i4 : ¬ idxK Nd.ino (dv.map NdV.nd) x.ino < 0 := by rw [idxK_lt]; exact fun h => h a4
                    simp [c2, i4]
                    refine salvorref11_MayImage_L16_rule _ (fun n x1 x3 x4 x5 H'' => ∃ j : Nat, j + n = k ∧ x1 = .ptr 0 0 ∧ x3 = I k ∧ x4 = .ptr H'.length 0 ∧ x5 = I j ∧ X = H'' ∧ ¬ hasK Nm.ino (ns.take j) x.ino) ?_ k ⟨0, by omega, rfl, rfl, rfl, rfl, rfl, by simp [c2, hasK]⟩
                    rintro n2 y1 y3 y4 y5 H2 R2 hR2 ⟨j, hj, rfl, rfl, rfl, rfl, rfl, hnj⟩
                    unfold salvorref11_MayImage_L16_b
                    rcases Nat.lt_or_ge j k with hjk | hjk
                    · have hz := List.getElem?_eq_getElem (l := ns) (i := j) (by omega)
                      generalize ns[j] = z at hz
                      simp [c2, hjk, c1, ha.idx encN_len hz rfl, encN_1]
                      by_cases cz : z.ino = x.ino
                      · have : ¬ mayI ns (dv.map NdV.nd) := fun hm => (hstep hm).1.2.2.2.2 ⟨z, List.mem_iff_getElem?.2 ⟨j, by rw [List.getElem?_take, if_pos hjk]; exact hz⟩, cz⟩
                        simp [c2, cz, this]
                      · simp [c2, cz, abI_add (a := j) (b := 1) (by omega) (by omega)]
                        refine hR2 (n2 - 1) _ _ _ _ _ (by omega) ⟨j + 1, by omega, rfl, rfl, rfl, by simp, rfl, ?_⟩
                        rw [take_snoc hz]
                        rintro ⟨w, hw, e⟩
                        rcases List.mem_append.1 hw with hw | hw
                        · exact hnj ⟨w, hw, e⟩
                        · rw [List.mem_singleton] at hw; subst hw; exact cz e
                    · have ejk : j = k := by omega
                      subst ejk
                      have nj : ¬ j < j := by omega
                      have ei := hbv.idx encD_len hd rfl
                      have nxt : (∀ y, 0 < j ∧ dv[j - 1]? = some y → y.nd.ino < d.nd.ino) → mayC d.nd.size d.nd.l → R [.ptr 0 0, I ((j : Int) + 1)] X := fun q1 q2 => by
                        refine hR (n - 1) _ _ _ (by omega) ⟨j + 1, by omega, rfl, by simp, hg.trans g2, ?_⟩
                        rw [htx, htd, List.map_append]
                        obtain ⟨o1, o2, o3, o4⟩ := hok
                        refine ⟨okN_snoc.2 ⟨o1, a1, (fun z hz => by have := ((getLast_take (by omega) z).1 hz).2; rw [hy] at this; injection this with this; rw [← this]; exact a6), by omega, by omega, hnj⟩, (srtK_snoc koI).2 ⟨o2, ?_⟩, ?_, ?_⟩
                        · intro y hy
                          rw [List.getLast?_map] at hy
                          obtain ⟨w, hw, rfl⟩ := Option.map_eq_some_iff.1 hy
                          rw [cmpI_lt]
                          exact q1 w ((getLast_take (by omega) w).1 hw)
                        · intro y hy
                          rcases List.mem_append.1 hy with hy | hy
                          · exact o3 y hy
                          · rw [List.mem_singleton] at hy; subst hy; exact a4
                        · intro y hy
                          rcases List.mem_append.1 hy with hy | hy
                          · exact o4 y hy
                          · simp at hy; subst hy; exact q2
                      have hw := List.getElem?_eq_getElem (l := dv) (i := j - 1) (by omega)
                      generalize dv[j - 1] = w at hw
                      have es : abI .sub (I j) (.lit (.int .i64 1)) = some (I ((j - 1 : Nat) : Int)) := by rw [abI_sub (by omega) (by omega)]; congr 3; omega
                      have ew := hbv.idx encD_len hw (i := ((j - 1 : Nat) : Int)) rfl
                      simp [c2, hk0, c1, es, ew, ei, encD_0]
                      by_cases q1 : d.nd.ino ≤ w.nd.ino
                      · have : ¬ mayI ns (dv.map NdV.nd) := fun hm => by have := (hstep hm).2.1 w ⟨hk0, hw⟩; omega
                        simp [c2, q1, this]
                      · simp [c2, q1, c1, ei, encD_c]
                        refine bP_of (ref_MayContent_p d.h hdl) ?_
                        by_cases q2 : mayC d.nd.size d.nd.l
                        · simp [c2, q2, abI_add (a := j) (b := 1) (by omega) (by omega)]
                          exact nxt (fun y hy => by have := hy.2; rw [hw] at this; injection this with this; rw [← this]; omega) q2
                        · have : ¬ mayI ns (dv.map NdV.nd) := fun hm => q2 (hstep hm).2.2.2
                          simp [c2, q2, this]
                  · have i4 : idxK Nd.ino (dv.map NdV.nd) x.ino < 0 := idxK_lt.2 a4
                    have : ¬ mayI ns (dv.map NdV.nd) := fun hm => a4 (hstep hm).2.2.1
                    simp [c2, i4, this]
                · have : ¬ mayI ns (dv.map NdV.nd) := fun hm => a6 ((hstep hm).1.2.1 y ⟨hk0, hy⟩)
                  simp [c2, show 0 ≤ cmpN y.name x.name by omega, this]
        · have : ¬ mayI ns (dv.map NdV.nd) := fun hm => a1 (hstep hm).1.1
          simp [c2, a1, this]
      · have e1 : ns.take k = ns := List.take_of_length_le (by omega)
        have e2 : dv.take k = dv := List.take_of_length_le (by omega)
        rw [e1, e2] at hok
        have : mayI ns (dv.map NdV.nd) := mayI_doc.2 ⟨h16, by simp [hlen], hok⟩
        simp [c0, ha.len, show ¬ k < ns.length by omega, this]
    · have : ¬ mayI ns (dv.map NdV.nd) := fun h => hlen (by simpa using h.2.1)
      have hlI : ¬ ((ns.length : Int) = dv.length) := by omega
      simp [e16, hlI, ha.len, hbv.len, this]
  · have : ¬ mayI ns (dv.map NdV.nd) := fun h => h16 h.1.1
    have e16 : (16 : Int) < ns.length := by omega
    simp [e16, this]))
end Go.Proofs.Ytpnfdibgfichmaa.Av
end
/-! YtpnfdibgfichmaaAvExtD -/
section
/- Chapter 11: Write, and the document's own. -/
set_option linter.unusedVariables false
set_option linter.unusedSimpArgs false
set_option maxRecDepth 100000
namespace Go.Proofs.Ytpnfdibgfichmaa.Av
open Go Go.RowKit

def cS (o : Option Cont) : Int := (o.getD (0, [])).1
def cL (o : Option Cont) : List Ext := (o.getD (0, [])).2
theorem noIdss_exts (l : List Ext) : noIdss (l.flatMap encE) = true := noIdss_flat fun x _ => noIdss_encE x
/-- A call comes to a content, and whether there is one. -/
def ContK (res : Option Cont) (r : AV) (X : AH) : Prop := ∃ w, r = .tup [.agg [I (cS res), w], B res.isSome] ∧ sliceCells X 9 w = some ((cL res).flatMap encE, (cL res).length)
theorem ContK.none {res : Option Cont} (h : res = none) {X : AH} : ContK res (.tup [.agg [I 0, nilSl], B false]) X := by
  subst h; exact ⟨_, rfl, rfl⟩
theorem ContK.some {res : Option Cont} {s : Int} {l : List Ext} (h : res = some (s, l)) {X : AH} {w : AV} (hw : sliceCells X 9 w = some (l.flatMap encE, l.length)) : ContK res (.tup [.agg [I s, w], B true]) X := by
  subst h; exact ⟨_, rfl, hw⟩
theorem BPure.cont {P : Program} {f : FuncId} {args : List AV} {res : Option Cont} (hb : noIdss args = true) (h : ∃ r X, ContK res r X ∧ BCall P f args [] r X) :
    ∃ R, SV encE 9 (cL res) R ∧ BPure P f args (.tup [.agg [I (cS res), R], B res.isSome]) := by
  obtain ⟨r, X, ⟨w, rfl, hw⟩, h⟩ := h
  obtain ⟨R, hR, fR⟩ := FZ.sv hw (noIdss_exts _)
  obtain ⟨R', ⟨rfl, _⟩, h2⟩ := BPure.FZ (Q := fun R' => R' = .tup [.agg [I (cS res), R], B res.isSome] ∧ True) hb ⟨_, X, ⟨_, FZ.tup (FZs.cons (FZ.agg (FZs.cons (FZ.lit _) (FZs.cons fR FZs.nil))) (FZs.cons (FZ.lit _) FZs.nil)), rfl, trivial⟩, h⟩
  exact ⟨R, hR, h2⟩
theorem encE_put {x : Ext} {k : Nat} {bs : List UInt8} (h : k + bs.length ≤ 8) : encE (putE x k bs) = over (encE x) (1 + k) (encB bs) := by
  have e : over (encE x) (1 + k) (encB bs) = I x.no :: over (encB x.b) k (encB bs) := by
    unfold over encE
    rw [Nat.add_comm 1 k, List.take_succ_cons, show k + 1 + (encB bs).length = (k + (encB bs).length) + 1 by omega, List.drop_succ_cons]
    rfl
  rw [e, over_encB]
  unfold encE
  rw [putE_no, putE_b h]
/-- Bytes are copied into a block that lies in a slice of one's own. -/
theorem sl_copy {H : AH} {w s : AV} {l : List Ext} {bs : List UInt8} {x : Ext} {i k m : Nat} {a b : Int} (hw : sliceCells H 9 w = some (l.flatMap encE, l.length)) (ho : ownedS w = true) (hx : l[i]? = some x) (hs : sliceCells H 1 s = some (encB bs, m)) (hk : k + bs.length ≤ 8) (ha : a = i) (hb : b = k) :
    ∃ p q d H', aixS 9 w (I a) = some p ∧ ashift 1 p = some q ∧ aslA 8 1 H q (some (I b)) none = some d ∧ acp 1 H d s = some (I bs.length, H') ∧ H'.length = H.length ∧ (∀ j, j ∉ idS w → H'[j]? = H[j]?) ∧ sliceCells H' 9 w = some ((l.set i (putE x k bs)).flatMap encE, l.length) := by
  subst ha; subst hb
  have hi := (List.getElem?_eq_some_iff.1 hx).1
  obtain ⟨o, off, cap, cells, rfl, h1, h2, h3⟩ := owned_sl hw ho (by omega)
  have hol := (List.getElem?_eq_some_iff.1 h1).1
  have hm : m = bs.length := by have := sliceCells_len hs; rw [encB_len] at this; omega
  subst hm
  have hmul : i * 9 + 9 ≤ l.length * 9 := by rw [← Nat.succ_mul]; exact Nat.mul_le_mul_right _ hi
  have e1 : min bs.length (8 - k) = bs.length := by omega
  refine ⟨.ptr o (off + i * 9), .ptr o (off + i * 9 + 1), .sl o (off + i * 9 + 1 + k) (8 - k) 1 (.ex (8 - k)), H.set o (some (.cells (over cells (off + (i * 9 + (1 + k))) (encB bs)))), ?_, rfl, ?_, ?_, by simp, fun j hj => List.getElem?_set_ne (by simp [idS] at hj; omega), ?_⟩
  · simp only [aixS, aint]
    rw [if_pos ⟨by omega, by omega⟩]; simp
  · simp [aslA, abnd, h1]; omega
  · unfold acp acp0
    rw [appended_slice hs]
    simp only [h1]
    rw [if_pos ⟨trivial, by omega⟩, e1, Nat.mul_one, List.take_of_length_le (by rw [encB_len]; omega)]
    simp only [show off + i * 9 + 1 + k = off + (i * 9 + (1 + k)) by omega]
  · rw [sliceCells_sl (c := over cells (off + (i * 9 + (1 + k))) (encB bs)) (by simp [hol]) (by rw [over_len (by rw [encB_len]; omega)]; exact h2)]
    rw [over_part h2 (by rw [encB_len]; omega), ← h3, over_flat encE_len hx (encE_put hk) (by rw [encB_len]; omega)]
theorem extent_Fits_p (pos : Int) (n : Nat) (hn : n ≤ 281474976710656) : BPure Try.prog 89 [I pos, I n] (B (decide (0 ≤ pos ∧ n ≤ 4096 ∧ pos ≤ 1099511627776 - n))) := BPure.flat fun H => extent_Fits_ok (by
  unfold extent_Fits
  by_cases h1 : 0 ≤ pos
  · by_cases h2 : n ≤ 4096
    · have : (n : Int) ≤ 4096 := by omega
      simp [h1, h2, this, abI_sub (a := 1099511627776) (b := n) (by omega) (by omega)]
    · have : ¬ (n : Int) ≤ 4096 := by omega
      simp [h1, h2, this]
  · simp [h1])
theorem cuts_more {f g : Nat} {p n : Int} (hf : n.toNat ≤ f) (hg : n.toNat ≤ g) (hp : 0 ≤ p) : cutsS f p n 8 = cutsS g p n 8 := by
  by_cases h : 0 < n
  · rw [cutsS_step hf h hp (by omega), cutsS_step hg h hp (by omega)]
  · rw [cutsS_stop h, cutsS_stop h]
theorem extent_Write_p {size : Int} {l : List Ext} {v bv : AV} {bs : List UInt8} (hv : SV encE 9 l v) (hl : l.length ≤ 1000000) (pos : Int) (hb : SV encU 1 bs bv) (hbl : bs.length ≤ 281474976710656) :
    ∃ R, SV encE 9 (cL (writeC (size, l) pos bs)) R ∧ BPure Try.prog 71 [.agg [I size, v], I pos, bv] (.tup [.agg [I (cS (writeC (size, l) pos bs)), R], B (writeC (size, l) pos bs).isSome]) := by
  refine BPure.cont (by simp [noIdss, noIds, hv.1, hb.1]) (extent_Write_ok ?_)
  unfold extent_Write
  simp [oneA_sv hv, rdCells]
  refine bP_pure (extent_May_p hv (by omega)) ?_
  by_cases h1 : mayC size l
  · simp [h1, hb.len]
    refine bP_pure (extent_Fits_p pos bs.length hbl) ?_
    by_cases h2 : 0 ≤ pos ∧ bs.length ≤ 4096 ∧ pos ≤ 1099511627776 - bs.length
    · have hw : writeC (size, l) pos bs = some (if bs = [] then (size, l) else (max size (pos + bs.length), writeL l pos bs)) := if_pos ⟨h1, h2⟩
      obtain ⟨g1, g2, g3⟩ := h2
      simp [g1, g2, g3]
      obtain ⟨r, H2, ⟨w, rfl, a2, a3, a4, a5⟩, a1⟩ := copied_c (size := size) (hv.2 [some (.cells [I size, v]), some (.cells [I 0, nilSl])]) (oneA_sv hv) (by omega)
      refine bC_of a1 ?_
      have c0 := a4.cells (o := 0) (x := some (.cells [I size, v])) rfl
      have c1 := a4.cells (o := 1) (x := some (.cells [I 0, nilSl])) rfl
      have hl2 := a4.1
      simp only [List.length_cons, List.length_nil] at hl2
      have hwo := oneA_owned a2
      have id0 : ∀ j, j < 2 → j ∉ idS w := fun j hj h => by have := a5 j h; simp at this; omega
      rw [ast_ptr (n := 2) (off := 0) (x := .agg [I size, w]) (xs := [I size, w]) (by simp [hwo]) c0 rfl (by simp)]
      simp
      by_cases hbs : bs = []
      · subst hbs
        simp [show 0 < H2.length by omega]
        rw [ast_ptr (n := 2) (off := 0) (x := .agg [I size, w]) (xs := [I size, w]) (cs := [I 0, nilSl]) (by simp [hwo]) (by rw [List.getElem?_set_ne (by omega)]; exact c1) rfl (by simp)]
        simp [show 1 < H2.length by omega]
        exact ContK.some hw (sliceCells_keep a3 fun i hi => by
          have h2 : 2 ≤ i := Nat.le_of_not_lt fun h => id0 i h hi
          rw [List.getElem?_set_ne (by omega), List.getElem?_set_ne (by omega)])
      · have hlen : 0 < bs.length := List.length_pos_iff.2 hbs
        rw [if_neg hbs] at hw
        simp [hbs]
        obtain ⟨pv, hpv, pq⟩ := off_Parts_p ⟨pos, bs.length⟩ (unit := 8) (by omega)
        refine bP_pure pq ?_
        have hP : partsS ⟨pos, bs.length⟩ 8 = cutsS bs.length pos bs.length 8 := if_pos ⟨by simp only [MaySpan, May]; omega, by simp only; omega, by omega⟩
        generalize partsS ⟨pos, (bs.length : Int)⟩ 8 = parts at hpv hP
        simp [hpv.len]
        have hs0 := okL_srt h1.2.2
        refine extent_Write_L10_rule (fun n x1 x2 x3 x6 x33 x34 x35 H => ∃ (j d : Nat) (w : AV), j + n = parts.length ∧ x1 = I pos ∧ x2 = bv ∧ x3 = .ptr 0 0 ∧ x6 = .ptr 1 0 ∧ x33 = pv ∧ x34 = I parts.length ∧ x35 = I j ∧ H[0]? = some (some (.cells [I size, w])) ∧ H[1]? = some (some (.cells [I 0, nilSl])) ∧
          sliceCells H 9 w = some ((writeL l pos (bs.take d)).flatMap encE, (writeL l pos (bs.take d)).length) ∧ ownedS w = true ∧ (∀ j, j < 2 → j ∉ idS w) ∧ d ≤ bs.length ∧ parts.drop j = cutsS (bs.length - d) (pos + d) (bs.length - d : Nat) 8 ∧ j ≤ d) ?_ parts.length
          ⟨0, 0, w, by simp, rfl, rfl, rfl, rfl, rfl, rfl, rfl, List.getElem?_set_self (by omega), (List.getElem?_set_ne (by omega)).trans c1, ?_, a2, id0, by omega, by simpa using hP, by omega⟩
        · rintro n x1 x2 x3 x6 x33 x34 x35 H R hR ⟨j, d, w, hj, rfl, rfl, rfl, rfl, rfl, rfl, rfl, k0, k1, kw, ko, kid, kd, kp, kj⟩
          unfold extent_Write_L10_b
          by_cases hd : d < bs.length
          · rw [cutsS_step (by omega) (by omega) (by omega) (by omega)] at kp
            obtain ⟨m, hm⟩ : ∃ m : Nat, (m : Int) = min ((bs.length - d : Nat) : Int) (8 - (pos + d) % 8) := ⟨(min ((bs.length - d : Nat) : Int) (8 - (pos + d) % 8)).toNat, by omega⟩
            rw [← hm] at kp
            have hpj : parts[j]? = some ⟨pos + d, m⟩ := by
              have := congrArg (fun q => q[0]?) kp
              simpa using this
            have hjl := (List.getElem?_eq_some_iff.1 hpj).1
            simp [hjl, hpv.idx encSp_len hpj rfl, encSp, rdCells, ast, abI_quo (a := pos + d) (b := 8) (by omega) (by omega) (by omega)]
            have g := Grew.app H [some (.cells [I (pos + d), I m])]
            have hlL := wr_len (bs := bs.take d) (l := l) (p := pos)
            have htl : (bs.take d).length = d := by rw [List.length_take]; omega
            have hws := wr_srt (bs := bs.take d) hs0 pos
            generalize hL : writeL l pos (bs.take d) = L at kw hlL hws
            have hH0 := (List.getElem?_eq_some_iff.1 k0).1
            have hH1 := (List.getElem?_eq_some_iff.1 k1).1
            obtain ⟨H11, ⟨w', q1, q2, q3, q4, q5, q6, q7⟩, q8⟩ := extent_need_c' (no := (pos + d) / 8) (g.cells k0) (g.slice kw) ko (kid 0 (by omega)) hws (by omega)
            refine bC_of q8 ?_
            have hid' : ∀ i, i < H.length → i ∉ idS w → i ∉ idS w' := fun i h1 h2 h3 => (q7 i h3).elim h2 (fun h => by simp at h; omega)
            have z1 : H11[1]? = some (some (.cells [I 0, nilSl])) := by
              rw [q6 1 (by simp; omega) (by omega) (kid 1 (by omega))]; exact g.cells k1
            have z2 : H11[H.length]? = some (some (.cells [I (pos + d), I m])) := by
              rw [q6 H.length (by simp) (by omega) (fun h => by have := sliceCells_lt kw _ h; omega)]; simp
            obtain ⟨x, hx, hxn⟩ := need_get hws ((pos + d) / 8)
            obtain ⟨r24, s1, s2, -, -, s3⟩ := aslS_spec (H := H11) (hb.bytes H11) (lo := some (I d)) (hi := none) (l := d) (k := bs.length) (by simp [abnd]) rfl kd (Nat.le_refl _)
            obtain ⟨r27, t1, t2, -, -, -⟩ := aslS_spec (H := H11) s2 (lo := none) (hi := some (I m)) (l := 0) (k := m) rfl (by simp [abnd]) (by omega) (by omega)
            have t3 : sliceCells H11 1 r27 = some (encB ((bs.drop d).take m), m) := by
              rw [t2]
              simp [encB_take, encB_drop]
              rw [List.take_of_length_le (l := bs.drop d) (by simp)]
            have hbl2 : ((bs.drop d).take m).length = m := by rw [List.length_take, List.length_drop]; omega
            obtain ⟨p, q, dd, H29, u1, u2, u3, u4, u5, u6, u7⟩ := sl_copy (a := posL L ((pos + d) / 8)) (b := pos + d - (pos + d) / 8 * 8) (k := ((pos + d) % 8).toNat) q2 q3 hx t3 (by omega) rfl (by omega)
            rw [hbl2] at u4
            simp [q1, z2, u1, u2, abI_mul (a := (pos + d) / 8) (b := 8) (by omega) (by omega), abI_sub (a := pos + d) (b := (pos + d) / 8 * 8) (by omega) (by omega), u3, abI_sub (a := pos + d) (b := pos) (by omega) (by omega), show pos + (d : Int) - pos = d by omega, s1, t1, u4, abI_add (a := j) (b := 1) (by omega) (by omega)]
            rw [put_set (need_srt hws _) hx, hxn] at u7
            have hnp : putL (needL L ((pos + d) / 8)) ((pos + d) / 8) ((pos + d) % 8).toNat ((bs.drop d).take m) = writeL l pos (bs.take (d + m)) := by
              show needPut L (pos + d) _ = _
              rw [wr_one hws (by omega) (fun h => by rw [h] at hbl2; simp at hbl2; omega), ← hL, List.take_add, wr_app, htl]
            rw [hnp] at u7
            have hll : (needL L ((pos + d) / 8)).length = (writeL l pos (bs.take (d + m))).length := by rw [← hnp]; simp [putL]
            rw [hll] at u7
            refine hR (n - 1) _ _ _ _ _ _ _ _ (by omega) ⟨j + 1, d + m, w', by omega, rfl, rfl, rfl, rfl, rfl, rfl, rfl, ?_, ?_, u7, q3, fun i hi => hid' i (by omega) (kid i hi), by omega, ?_, by omega⟩
            · rw [u6 0 (hid' 0 (by omega) (kid 0 (by omega)))]; exact q1
            · rw [u6 1 (hid' 1 (by omega) (kid 1 (by omega)))]; exact z1
            · have := congrArg List.tail kp
              rw [List.tail_drop] at this
              rw [this, List.tail_cons, show pos + (d : Int) + m = pos + ((d + m : Nat) : Int) by omega, show ((bs.length - d : Nat) : Int) - m = ((bs.length - (d + m) : Nat) : Int) by omega]
              rfl
          · have hd' : d = bs.length := by omega
            subst hd'
            rw [cutsS_stop (by omega)] at kp
            have hjl : ¬ j < parts.length := fun h => by
              have := congrArg List.length kp
              rw [List.length_drop] at this; simp at this; omega
            rw [List.take_length] at kw
            have hH0 := (List.getElem?_eq_some_iff.1 k0).1
            have hH1 := (List.getElem?_eq_some_iff.1 k1).1
            have hko := oneA_owned ko
            have hmx : max (pos + (bs.length : Int)) size = max size (pos + bs.length) := by omega
            simp [hjl, k0, hb.len, abI_add (a := pos) (b := bs.length) (by omega) (by omega), hmx]
            rw [ast_ptr (n := 1) (off := 0) (xs := [I (max size (pos + bs.length))]) (cs := [I size, w]) rfl k0 rfl (by simp)]
            simp [hH0, rdCells]
            rw [ast_ptr (n := 2) (off := 0) (xs := [I (max size (pos + bs.length)), w]) (cs := [I 0, nilSl]) (by simp [hko]) ((List.getElem?_set_ne (by omega)).trans k1) rfl (by simp)]
            simp [hH1]
            exact ContK.some hw (sliceCells_keep kw fun i hi => by
              have h2 : 2 ≤ i := Nat.le_of_not_lt fun h => kid i h hi
              rw [List.getElem?_set_ne (by omega), List.getElem?_set_ne (by omega)])
        · simp only [List.take_zero, writeL]
          exact sliceCells_keep a3 fun i hi => by
            have h2 : 2 ≤ i := Nat.le_of_not_lt fun h => id0 i h hi
            rw [List.getElem?_set_ne (by omega)]
    · have hn : writeC (size, l) pos bs = none := if_neg (fun h => h2 h.2)
      have h2' : ¬ (0 ≤ pos ∧ bs.length ≤ 4096 ∧ pos ≤ 1099511627776 - bs.length) := h2
      simp [h2', ast]
      exact ContK.none hn
  · have hn : writeC (size, l) pos bs = none := if_neg (fun h => h1 h.1)
    simp [h1, ast]
    exact ContK.none hn
end Go.Proofs.Ytpnfdibgfichmaa.Av
end
/-! YtpnfdibgfichmaaAvExtE -/
section
/- Chapter 11: the document's own writing. -/
set_option linter.unusedVariables false
set_option linter.unusedSimpArgs false
set_option maxRecDepth 100000
namespace Go.Proofs.Ytpnfdibgfichmaa.Av
open Go Go.RowKit

/-- A block's number, in a slice. -/
theorem sl_no {H : AH} {w : AV} {l : List Ext} {n k : Nat} {a : Int} {x : Ext} (hw : sliceCells H 9 w = some (l.flatMap encE, n)) (hx : l[k]? = some x) (ha : a = k) :
    ∃ p q, aixS 9 w (I a) = some p ∧ ashift 0 p = some q ∧ ald false 1 H q = some (I x.no) ∧ ald true 9 H p = some (.agg (encE x)) := by
  have hk := (List.getElem?_eq_some_iff.1 hx).1
  have hn : n = l.length := by have h1 := sliceCells_len hw; have h2 := flatMap_len encE_len l; omega
  obtain ⟨p, c, h1, h2, h3, h4⟩ := aixS_spec hw ha (show k < n by omega)
  obtain ⟨q, h5, h6⟩ := ashift_at (k := 0) h2
  have hc : c.take 9 = encE x := by
    rw [h3, flatMap_split encE_len hx, List.take_append_of_le_length (by rw [encE_len]; omega), List.take_of_length_le (by rw [encE_len]; omega)]
  refine ⟨p, q, h1, h5, ?_, ?_⟩
  · rw [ald_at h6 (by omega) (by simp; omega), rdCells_one]
    have := congrArg (fun l => l[0]?) hc
    simp only [List.drop_zero] at this ⊢
    rw [List.getElem?_take_of_lt (by omega)] at this
    exact this
  · rw [ald_at h2 (by omega) h4, rdCells_agg (by omega), List.drop_zero, hc]
/-- A byte is written into a block that lies in a slice of one's own. -/
theorem sl_byte {H : AH} {w : AV} {l : List Ext} {y : UInt8} {x : Ext} {i k : Nat} {a b : Int} (hw : sliceCells H 9 w = some (l.flatMap encE, l.length)) (ho : ownedS w = true) (hx : l[i]? = some x) (hk : k < 8) (ha : a = i) (hb : b = k) :
    ∃ p q d H', aixS 9 w (I a) = some p ∧ ashift 1 p = some q ∧ aixA 8 1 q (I b) = some d ∧ ast 1 H d (.lit (.int .u8 y.toNat)) = some H' ∧ H'.length = H.length ∧ (∀ j, j ∉ idS w → H'[j]? = H[j]?) ∧ sliceCells H' 9 w = some ((l.set i (putE x k [y])).flatMap encE, l.length) := by
  subst ha; subst hb
  have hi := (List.getElem?_eq_some_iff.1 hx).1
  obtain ⟨o, off, cap, cells, rfl, h1, h2, h3⟩ := owned_sl hw ho (by omega)
  have hol := (List.getElem?_eq_some_iff.1 h1).1
  have hmul : i * 9 + 9 ≤ l.length * 9 := by rw [← Nat.succ_mul]; exact Nat.mul_le_mul_right _ hi
  refine ⟨.ptr o (off + i * 9), .ptr o (off + i * 9 + 1), .ptr o (off + (i * 9 + (1 + k))), H.set o (some (.cells (over cells (off + (i * 9 + (1 + k))) (encB [y])))), ?_, rfl, ?_, ?_, by simp, fun j hj => List.getElem?_set_ne (by simp [idS] at hj; omega), ?_⟩
  · simp only [aixS, aint]
    rw [if_pos ⟨by omega, by omega⟩]; simp
  · simp only [aixA, aint]
    rw [if_pos ⟨by omega, by omega⟩]
    simp only [ashift_ptr, Int.toNat_natCast, Nat.mul_one]
    rw [show off + i * 9 + 1 + k = off + (i * 9 + (1 + k)) by omega]
  · rw [ast_ptr (n := 1) (off := off + (i * 9 + (1 + k))) (xs := encB [y]) rfl h1 rfl (by omega), splice_eq _ _ _ (by rw [encB_len]; simp; omega)]; rfl
  · rw [sliceCells_sl (c := over cells (off + (i * 9 + (1 + k))) (encB [y])) (by simp [hol]) (by rw [over_len (by rw [encB_len]; simp; omega)]; exact h2)]
    rw [over_part h2 (by rw [encB_len]; simp; omega), ← h3, over_flat encE_len hx (encE_put (by simp; omega)) (by rw [encB_len]; simp; omega)]
theorem ref_copyOf_c {H : AH} {size : Int} {v : AV} {cs : List AV} {n : Nat} (h : sliceCells H 9 v = some (cs, n)) (h1 : oneA v = true) (hn : n ≤ 1000000000) :
    ∃ r H', (∃ w, r = .agg [I size, w] ∧ ownedS w = true ∧ sliceCells H' 9 w = some (cs, n) ∧ Grew H H' ∧ ∀ i ∈ idS w, H.length ≤ i) ∧ BCall Try.prog 55 [.agg [I size, v]] H r H' := salvorref11_copyOf_ok (by
  unfold salvorref11_copyOf
  have g := Grew.app H [some (.cells [I size, v]), some (.cells [I 0, nilSl])]
  obtain ⟨w, H2, a1, a2, a3, a4, a5, a6⟩ := aap_spec (sz := 9) (bytes := 16) (H := H ++ [some (.cells [I size, v]), some (.cells [I 0, nilSl])]) (v := nilSl) (cs := []) (n := 0) rfl rfl (appended_slice (g.slice h)) (by omega)
  have g2 : Grew (H ++ [some (.cells [I size, v]), some (.cells [I 0, nilSl])]) H2 := ⟨a4, fun i hi => a5 i hi (by simp [idS])⟩
  have c0 := g2.cells (o := H.length) (x := some (.cells [I size, v])) (by simp)
  have c1 := g2.cells (o := H.length + 1) (x := some (.cells [I 0, nilSl])) (by rw [List.getElem?_append_right (by omega)]; simp)
  have l2 : H.length + 2 ≤ H2.length := by simpa using a4
  have hw := oneA_owned a2
  have a6' : ∀ i ∈ idS w, H.length + 2 ≤ i := fun i hi => (a6 i hi).elim (by simp [idS]) (fun h => by simpa using h)
  simp [h1, a1, cellsA_one hw]
  rw [ast_ptr (n := 2) (off := 0) (x := .agg [I size, w]) (xs := [I size, w]) (cs := [I 0, nilSl]) (by simp [hw]) c1 rfl (by simp)]
  simp [show H.length + 1 < H2.length by omega, c0, rdCells]
  refine ⟨a2, by simpa using (sliceCells_keep a3 fun i hi => List.getElem?_set_ne (by have := a6' i hi; omega)), ?_, fun i hi => ?_⟩
  · refine ⟨by simp; omega, fun i hi => ?_⟩
    rw [List.getElem?_set_ne (by omega), g2.2 i (by simp; omega), g.2 i hi]
  · have := a6' i hi; omega)
theorem ref_need_c' {H : AH} {oc : Nat} {size no : Int} {v : AV} {l : List Ext} (hc : H[oc]? = some (some (.cells [I size, v]))) (hv : sliceCells H 9 v = some (l.flatMap encE, l.length)) (ho : ownedS v = true) (hne : oc ∉ idS v) (hs : srt l) (hl : l.length ≤ 100000000) :
    ∃ H', ContP H oc size v (needL l no) H' ∧ BCall Try.prog 100 [.ptr oc 0, I no] H (I (posL l no)) H' := by
  have key : ∃ r H', (r = I (posL l no) ∧ ContP H oc size v (needL l no) H') ∧ BCall Try.prog 100 [.ptr oc 0, I no] H r H' := salvorref11_need_ok (by
    unfold salvorref11_need
    have hol := (List.getElem?_eq_some_iff.1 hc).1
    refine salvorref11_need_L3_rule (fun n x0 x1 x5 H' => ∃ k : Nat, k + n = l.length ∧ x0 = .ptr oc 0 ∧ x1 = I no ∧ x5 = I k ∧ H' = H ∧ ∀ m x, m < k → l[m]? = some x → x.no < no) ?_ l.length ⟨0, by simp, rfl, rfl, rfl, rfl, by simp⟩
    rintro n x0 x1 x5 H' R hR ⟨k, hk, rfl, rfl, rfl, hHe, hm⟩
    replace hHe := hHe.symm
    subst hHe
    unfold salvorref11_need_L3_b
    have hcase : (∃ y, l[k]? = some y ∧ y.no < no) ∨ (∃ y, l[k]? = some y ∧ y.no = no) ∨ (∃ y, l[k]? = some y ∧ no < y.no) ∨ k = l.length := by
      rcases Nat.lt_or_ge k l.length with h | h
      · have hx := List.getElem?_eq_getElem h
        rcases Int.lt_trichotomy (l[k]).no no with c | c | c
        · exact .inl ⟨_, hx, c⟩
        · exact .inr (.inl ⟨_, hx, c⟩)
        · exact .inr (.inr (.inl ⟨_, hx, c⟩))
      · exact .inr (.inr (.inr (by omega)))
    have hlen := alnS_spec hv
    rcases hcase with ⟨y, hy, c⟩ | ⟨y, hy, c⟩ | h3 | h3
    · obtain ⟨p, q, e1, e2, e3, -⟩ := sl_no (a := k) hv hy rfl
      have hkl := (List.getElem?_eq_some_iff.1 hy).1
      simp [hc, hlen, hkl, e1, e2, e3, c, -ald_ptr', ald_ptr hc]
      simp [abI_add (a := k) (b := 1) (by omega) (by omega)]
      refine hR (n - 1) _ _ _ _ (by omega) ⟨k + 1, by omega, rfl, rfl, rfl, rfl, fun m x hmk hx => ?_⟩
      by_cases h : m = k
      · subst h; rw [hy] at hx; injection hx with hx; rw [← hx]; exact c
      · exact hm m x (by omega) hx
    · obtain ⟨p, q, e1, e2, e3, -⟩ := sl_no (a := k) hv hy rfl
      have hkl := (List.getElem?_eq_some_iff.1 hy).1
      have hh : hasL l no := ⟨y, List.mem_of_getElem? hy, c⟩
      have hp : posL l no = k := by rw [← c]; exact posL_at hs hy
      have e : needL l no = l := if_pos hh
      simp [hc, hlen, hkl, e1, e2, e3, c, -ald_ptr', ald_ptr hc]
      rw [hp, e]
      exact ⟨rfl, v, hc, hv, ho, hne, Nat.le_refl _, fun _ _ _ _ => rfl, fun i hi => .inl hi⟩
    all_goals
      have h : (∃ y, l[k]? = some y ∧ no < y.no) ∨ k = l.length := by first | exact .inl h3 | exact .inr h3
      have hp : posL l no = k := by
        rcases h with ⟨y, hy, c⟩ | h
        · exact posL_eq (by omega) hm (fun x hx => by rw [hy] at hx; injection hx with hx; rw [← hx]; omega)
        · exact posL_eq (by omega) hm (fun x hx => by have := (List.getElem?_eq_some_iff.1 hx).1; omega)
      have hh : ¬ hasL l no := by
        rw [hasL_iff hs, hp]
        rintro ⟨z, hz, e⟩
        rcases h with ⟨y, hy, c⟩ | h
        · rw [hy] at hz; injection hz with hz; rw [hz] at c; omega
        · have := (List.getElem?_eq_some_iff.1 hz).1; omega
      have e : needL l no = l.take k ++ newE no :: l.drop k := by rw [← hp]; exact if_neg hh
      obtain ⟨r1, f1, f2, f3, f4, -⟩ := aslS_spec hv (lo := none) (hi := some (I k)) (l := 0) (k := k) rfl (by simp [abnd]) (by omega) (by omega)
      simp only [Nat.zero_mul, List.drop_zero, Nat.sub_zero, flat_take encE_len] at f2
      obtain ⟨r2, H2, a1, a2, a3, a4, a5, a6⟩ := aap_spec (sz := 9) (bytes := 16) (H := H) (v := nilSl) (cs := []) (n := 0) rfl rfl (appended_slice f2) (by omega)
      have g2 : Grew H H2 := ⟨a4, fun i hi => a5 i hi (by simp [idS])⟩
      have g3 := Grew.app H2 [some (.cells (encE (newE no)))]
      obtain ⟨r3, H3, b1, b2, b3, b4, b5, b6⟩ := aap_spec (sz := 9) (bytes := 16) (g3.slice a3) a2 (appended_slice (v := .sl H2.length 0 1 9 (.ex 1)) (q := (encE (newE no), 1)) (by simp [sliceCells, encE_len, List.take_of_length_le])) (by omega)
      have hid2 : ∀ i ∈ idS r2, H.length ≤ i := fun i hi => (a6 i hi).elim (by simp [idS]) id
      have g4 : ∀ i, i < H.length → H3[i]? = H[i]? := fun i hi => by
        rw [b5 i (by simp; omega) (fun h => by have := hid2 i h; omega), g3.2 i (by omega), g2.2 i hi]
      have c3 : H3[oc]? = some (some (.cells [I size, v])) := by rw [g4 oc hol]; exact hc
      have hv3 : sliceCells H3 9 v = some (l.flatMap encE, l.length) := sliceCells_keep hv fun i hi => g4 i (sliceCells_lt hv i hi)
      obtain ⟨r4, d1, d2, d3, d4, -⟩ := aslS_spec hv3 (lo := some (I k)) (hi := none) (l := k) (k := l.length) (by simp [abnd]) rfl (by omega) (by omega)
      rw [flat_drop encE_len, List.take_of_length_le (by rw [flatMap_len encE_len, List.length_drop]; omega)] at d2
      obtain ⟨r5, H5, j1, j2, j3, j4, j5, j6⟩ := aap_spec (sz := 9) (bytes := 16) b3 b2 (appended_slice d2) (by omega)
      have hid3 : ∀ i ∈ idS r3, H.length ≤ i := fun i hi => (b6 i hi).elim (hid2 i) (fun h => by simp at h; omega)
      have hid5 : ∀ i ∈ idS r5, H.length ≤ i := fun i hi => (j6 i hi).elim (hid3 i) (fun h => by simp at b4; omega)
      have g5 : ∀ i, i < H.length → H5[i]? = H[i]? := fun i hi => by
        rw [j5 i (by simp at b4; omega) (fun h => by have := hid3 i h; omega), g4 i hi]
      have c5 : H5[oc]? = some (some (.cells [I size, v])) := by rw [g5 oc hol]; exact hc
      have hol5 := (List.getElem?_eq_some_iff.1 c5).1
      have hle : H.length ≤ H5.length := by simp at b4; omega
      rw [encE_new] at b1
      first
        | (obtain ⟨y, hy, c⟩ := h3
           obtain ⟨p, q, e1, e2, e3, -⟩ := sl_no (a := k) hv hy rfl
           have hkl := (List.getElem?_eq_some_iff.1 hy).1
           simp [hlen, hkl, e1, e2, e3, show ¬ y.no < no by omega, show ¬ y.no = no by omega, -ald_ptr', ald_ptr hc])
        | (have hkl : ¬ k < l.length := by omega
           simp [hlen, hkl, -ald_ptr', ald_ptr hc])
      simp [f1, a1, -ald_ptr']
      simp [b1, ald_ptr c3, d1, j1, -ald_ptr']
      rw [ast_ptr (n := 1) (off := 1) (xs := [r5]) (cs := [I size, v]) (cellsA_one (oneA_owned j2)) c5 rfl (by simp)]
      simp
      have hoc : oc ∉ idS r5 := fun h => by have := hid5 oc h; omega
      refine ⟨by rw [hp], r5, by simp [hol5], ?_, j2, hoc, by simp; omega, fun i hi h1 h2 => ?_, fun i hi => .inr (hid5 i hi)⟩
      · rw [sliceCells_keep j3 (fun i hi => List.getElem?_set_ne (fun (h : oc = i) => hoc (h ▸ hi))), e]
        simp [List.flatMap_append]
        omega
      · rw [List.getElem?_set_ne (by omega), g5 i hi])
  obtain ⟨r, H', ⟨rfl, h1⟩, h2⟩ := key
  exact ⟨H', h1, h2⟩
theorem ref_WriteContent_p {size : Int} {l : List Ext} {v bv : AV} {bs : List UInt8} (hv : SV encE 9 l v) (hl : l.length ≤ 1000000) (pos : Int) (hb : SV encU 1 bs bv) (hbl : bs.length ≤ 281474976710656) :
    ∃ R, SV encE 9 (cL (writeC (size, l) pos bs)) R ∧ BPure Try.prog 77 [.agg [I size, v], I pos, bv] (.tup [.agg [I (cS (writeC (size, l) pos bs)), R], B (writeC (size, l) pos bs).isSome]) := by
  refine BPure.cont (by simp [noIdss, noIds, hv.1, hb.1]) (salvorref11_WriteContent_ok ?_)
  unfold salvorref11_WriteContent
  simp [oneA_sv hv, rdCells]
  refine bP_pure (ref_MayContent_p hv (by omega)) ?_
  by_cases h1 : mayC size l
  · by_cases h0 : pos < 0
    · have hn : writeC (size, l) pos bs = none := if_neg (fun h => by omega)
      simp [h1, h0, ast]
      exact ContK.none hn
    · by_cases h2 : 4096 < bs.length
      · have hn : writeC (size, l) pos bs = none := if_neg (fun h => by omega)
        simp [h1, h0, hb.len, show (4096 : Int) < bs.length by omega, ast]
        exact ContK.none hn
      · simp [h1, h0, hb.len, show ¬ (4096 : Int) < bs.length by omega, abI_sub (a := 1099511627776) (b := bs.length) (by omega) (by omega)]
        by_cases h3 : 1099511627776 - (bs.length : Int) < pos
        · have hn : writeC (size, l) pos bs = none := if_neg (fun h => by omega)
          simp [h3, ast]
          exact ContK.none hn
        · have hw : writeC (size, l) pos bs = some (if bs = [] then (size, l) else (max size (pos + bs.length), writeL l pos bs)) := if_pos ⟨h1, by omega, by omega, by omega⟩
          simp [h3]
          obtain ⟨r, H2, ⟨w, rfl, a2, a3, a4, a5⟩, a1⟩ := ref_copyOf_c (size := size) (hv.2 [some (.cells [I size, v]), some (.cells [I 0, nilSl])]) (oneA_sv hv) (by omega)
          refine bC_of a1 ?_
          have c0 := a4.cells (o := 0) (x := some (.cells [I size, v])) rfl
          have c1 := a4.cells (o := 1) (x := some (.cells [I 0, nilSl])) rfl
          have hl2 := a4.1
          simp only [List.length_cons, List.length_nil] at hl2
          have hwo := oneA_owned a2
          have id0 : ∀ j, j < 2 → j ∉ idS w := fun j hj h => by have := a5 j h; simp at this; omega
          rw [ast_ptr (n := 2) (off := 0) (x := .agg [I size, w]) (xs := [I size, w]) (by simp [hwo]) c0 rfl (by simp)]
          simp
          have hs0 := okL_srt h1.2.2
          refine salvorref11_WriteContent_L7_rule (fun n x1 x2 x3 x6 x8 H => ∃ (d : Nat) (w : AV), d + n = bs.length ∧ x1 = I pos ∧ x2 = bv ∧ x3 = .ptr 0 0 ∧ x6 = .ptr 1 0 ∧ x8 = I d ∧ H[0]? = some (some (.cells [I size, w])) ∧ H[1]? = some (some (.cells [I 0, nilSl])) ∧
            sliceCells H 9 w = some ((writeL l pos (bs.take d)).flatMap encE, (writeL l pos (bs.take d)).length) ∧ ownedS w = true ∧ (∀ j, j < 2 → j ∉ idS w)) ?_ bs.length
            ⟨0, w, by simp, rfl, rfl, rfl, rfl, rfl, List.getElem?_set_self (by omega), (List.getElem?_set_ne (by omega)).trans c1, ?_, a2, id0⟩
          · rintro n x1 x2 x3 x6 x8 H R hR ⟨d, w, hdn, rfl, rfl, rfl, rfl, rfl, k0, k1, kw, ko, kid⟩
            unfold salvorref11_WriteContent_L7_b
            by_cases hd : d < bs.length
            · have hlL := wr_len (bs := bs.take d) (l := l) (p := pos)
              have htl : (bs.take d).length = d := by rw [List.length_take]; omega
              have hws := wr_srt (bs := bs.take d) hs0 pos
              generalize hL : writeL l pos (bs.take d) = L at kw hlL hws
              have hy := List.getElem?_eq_getElem hd
              generalize bs[d] = y at hy
              simp [hb.len, hd, abI_add (a := pos) (b := d) (by omega) (by omega), abI_quo (a := pos + d) (b := 8) (by omega) (by omega) (by omega)]
              obtain ⟨H11, ⟨w', q1, q2, q3, q4, q5, q6, q7⟩, q8⟩ := ref_need_c' (no := (pos + d) / 8) k0 kw ko (kid 0 (by omega)) hws (by omega)
              refine bC_of q8 ?_
              have hH0 := (List.getElem?_eq_some_iff.1 k0).1
              have hH1 := (List.getElem?_eq_some_iff.1 k1).1
              have hid' : ∀ i, i < H.length → i ∉ idS w → i ∉ idS w' := fun i h1 h2 h3 => (q7 i h3).elim h2 (fun h => by omega)
              have z1 : H11[1]? = some (some (.cells [I 0, nilSl])) := by
                rw [q6 1 hH1 (by omega) (kid 1 (by omega))]; exact k1
              obtain ⟨x, hx, hxn⟩ := need_get hws ((pos + d) / 8)
              obtain ⟨p, q, dd, H29, u1, u2, u3, u4, u5, u6, u7⟩ := sl_byte (y := y) (a := posL L ((pos + d) / 8)) (b := (pos + d) % 8) (k := ((pos + d) % 8).toNat) q2 q3 hx (by omega) rfl (by omega)
              obtain ⟨p2, s1, -, s2⟩ := aix_byte (H := H11) (hb.bytes H11) (i := d) (k := d) rfl hy
              simp [q1, abI_rem (a := pos + d) (b := 8) (by omega) (by omega), s1, s2, u1, u2, u3, u4, abI_add (a := d) (b := 1) (by omega) (by omega), -ald_ptr', ald_ptr q1]
              rw [put_set (need_srt hws _) hx, hxn] at u7
              have hnp : putL (needL L ((pos + d) / 8)) ((pos + d) / 8) ((pos + d) % 8).toNat [y] = writeL l pos (bs.take (d + 1)) := by
                show needPut L (pos + d) _ = _
                rw [wr_one hws (by simp; omega) (by simp), ← hL, List.take_add_one, hy, wr_app, htl]
                rfl
              rw [hnp] at u7
              have hll : (needL L ((pos + d) / 8)).length = (writeL l pos (bs.take (d + 1))).length := by rw [← hnp]; simp [putL]
              rw [hll] at u7
              refine hR (n - 1) _ _ _ _ _ _ (by omega) ⟨d + 1, w', by omega, rfl, rfl, rfl, rfl, rfl, ?_, ?_, u7, q3, fun i hi => hid' i (by omega) (kid i hi)⟩
              · rw [u6 0 (hid' 0 (by omega) (kid 0 (by omega)))]; exact q1
              · rw [u6 1 (hid' 1 (by omega) (kid 1 (by omega)))]; exact z1
            · have hd' : d = bs.length := by omega
              subst hd'
              rw [List.take_length] at kw
              have hH0 := (List.getElem?_eq_some_iff.1 k0).1
              have hH1 := (List.getElem?_eq_some_iff.1 k1).1
              have hko := oneA_owned ko
              have tail : ∀ s H2, H2.length = H.length → H2[0]? = some (some (.cells [I s, w])) → H2[1]? = some (some (.cells [I 0, nilSl])) → sliceCells H2 9 w = some ((writeL l pos bs).flatMap encE, (writeL l pos bs).length) → writeC (size, l) pos bs = some (s, writeL l pos bs) → salvorref11_WriteContent_J12 (.ptr 0 0) (.ptr 1 0) H2 (ContK (writeC (size, l) pos bs)) := by
                intro s H2 hl2 e0 e1 e2 e3
                rw [salvorref11_WriteContent_J12_eq]
                unfold salvorref11_WriteContent_J12_b
                simp [-ald_ptr', ald_ptr e0, rdCells]
                rw [ast_ptr (n := 2) (off := 0) (xs := [I s, w]) (cs := [I 0, nilSl]) (by simp [hko]) e1 rfl (by simp)]
                simp [show 1 < H2.length by omega, rdCells]
                exact ContK.some e3 (sliceCells_keep e2 fun i hi => by
                  have h2 : 2 ≤ i := Nat.le_of_not_lt fun h => kid i h hi
                  rw [List.getElem?_set_ne (by omega)])
              by_cases hbs : bs = []
              · rw [if_pos hbs] at hw
                have h00 : ¬ 0 < bs.length := by rw [hbs]; simp
                simp only [hb.len, bO_some, abI_gtr, abI_lss, Int.lt_irrefl, bB_bool, show ¬ (0 : Int) < bs.length by omega, decide_false, bI_false]
                refine tail size H rfl k0 k1 kw ?_
                rw [hw, hbs]; rfl
              · rw [if_neg hbs] at hw
                have hlen : 0 < bs.length := List.length_pos_iff.2 hbs
                have hmx : max (pos + (bs.length : Int)) size = max size (pos + bs.length) := by omega
                simp [hb.len, hlen, -ald_ptr', ald_ptr k0, abI_add (a := pos) (b := bs.length) (by omega) (by omega), hmx]
                rw [ast_ptr (n := 1) (off := 0) (xs := [I (max size (pos + bs.length))]) (cs := [I size, w]) rfl k0 rfl (by simp)]
                simp
                refine tail _ _ (by simp) (List.getElem?_set_self hH0) ((List.getElem?_set_ne (by omega)).trans k1) (sliceCells_keep kw fun i hi => by
                  have h2 : 2 ≤ i := Nat.le_of_not_lt fun h => kid i h hi
                  rw [List.getElem?_set_ne (by omega)]) hw
          · simp only [List.take_zero, writeL]
            exact sliceCells_keep a3 fun i hi => by
              have h2 : 2 ≤ i := Nat.le_of_not_lt fun h => id0 i h hi
              rw [List.getElem?_set_ne (by omega)]
  · have hn : writeC (size, l) pos bs = none := if_neg (fun h => h1 h.1)
    simp [h1, ast]
    exact ContK.none hn
end Go.Proofs.Ytpnfdibgfichmaa.Av
end
/-! YtpnfdibgfichmaaAvIq -/
section
/- Chapter 12: what is found, how much is there, which images are one. -/
set_option linter.unusedVariables false
set_option linter.unusedSimpArgs false
set_option maxRecDepth 100000
namespace Go.Proofs.Ytpnfdibgfichmaa.Av
open Go Go.RowKit

section
variable {κ α : Type} [DecidableEq κ] {c : κ → κ → Int} {key : α → κ}
/-- What a key has. -/
def atK (key : α → κ) (l : List α) (k : κ) : Option α := l.find? (fun x => decide (key x = k))
theorem atK_has {l : List α} {k : κ} (h : hasK key l k) : ∃ x, atK key l k = some x ∧ x ∈ l ∧ key x = k := by
  obtain ⟨y, hy, e⟩ := h
  unfold atK
  cases hf : l.find? (fun x => decide (key x = k)) with
  | none => rw [List.find?_eq_none] at hf; have := hf y hy; simp [e] at this
  | some x => exact ⟨x, rfl, List.mem_of_find?_eq_some hf, by simpa using List.find?_some hf⟩
theorem atK_none {l : List α} {k : κ} (h : ¬ hasK key l k) : atK key l k = none := by
  unfold atK
  rw [List.find?_eq_none]
  intro x hx
  simp only [decide_eq_true_eq]
  exact fun e => h ⟨x, hx, e⟩
theorem atK_eq (hc : KO c) {l : List α} (hs : srtK c key l) {x : α} (hx : x ∈ l) : atK key l (key x) = some x := by
  obtain ⟨y, h1, h2, h3⟩ := atK_has (l := l) (k := key x) ⟨x, hx, rfl⟩
  rw [h1, srtK_uniq hc hs h2 hx h3]
theorem posK_atK (hc : KO c) {l : List α} (hs : srtK c key l) {k : κ} (h : hasK key l k) : ∃ x, l[posK c key l k]? = some x ∧ atK key l k = some x ∧ key x = k := by
  obtain ⟨x, h1, rfl⟩ := (hasK_iff hc hs).1 h
  exact ⟨x, h1, atK_eq hc hs (List.mem_of_getElem? h1), rfl⟩
end
theorem srtK_map {l : List NdV} : srtK cmpI Nd.ino (l.map NdV.nd) ↔ srtK cmpI NdV.ino l := by
  unfold srtK; rw [List.pairwise_map]
theorem hasK_map {l : List NdV} {k : Int} : hasK Nd.ino (l.map NdV.nd) k ↔ hasK NdV.ino l k := by
  constructor
  · rintro ⟨x, hx, e⟩
    obtain ⟨y, hy, rfl⟩ := List.mem_map.1 hx
    exact ⟨y, hy, e⟩
  · rintro ⟨y, hy, e⟩
    exact ⟨y.nd, List.mem_map_of_mem hy, e⟩
theorem posK_map {l : List NdV} {k : Int} : posK cmpI Nd.ino (l.map NdV.nd) k = posK cmpI NdV.ino l k := by
  unfold posK
  rw [List.takeWhile_map, List.length_map]
  rfl
theorem named_p {ns : List Nm} {a b : AV} {dv : List NdV} (ha : SV encN 2 ns a) (hb : SV encD 3 dv b) (hs : srtK cmpN Nm.name ns) (hl : ns.length ≤ 281474976710656) (s : List UInt8) :
    BPure Try.prog 34 [.agg [a, b], S (bstr s)] (.tup [I (posK cmpN Nm.name ns s), B (decide (hasK Nm.name ns s))]) := BPure.val (by simp [noIdss, noIds, ha.1, hb.1]) rfl (image_named_ok (by
  unfold image_named
  have oa := SV.oneA ha
  have ob := SV.oneA hb
  simp [oa, ob]
  refine bP_pure (srch_N ha hs hl s) ?_
  simp))
theorem node_p {ns : List Nm} {a b : AV} {dv : List NdV} (ha : SV encN 2 ns a) (hb : SV encD 3 dv b) (hs : srtK cmpI NdV.ino dv) (hl : dv.length ≤ 281474976710656) (no : Int) :
    BPure Try.prog 35 [.agg [a, b], I no] (.tup [I (posK cmpI NdV.ino dv no), B (decide (hasK NdV.ino dv no))]) := BPure.val (by simp [noIdss, noIds, ha.1, hb.1]) rfl (image_node_ok (by
  unfold image_node
  have oa := SV.oneA ha
  have ob := SV.oneA hb
  simp [oa, ob]
  refine bP_pure (srch_D hb hs hl no) ?_
  simp))
/-! contents, copied -/
theorem cloneE_p {l : List Ext} {v : AV} (hv : SV encE 9 l v) (hl : l.length ≤ 1000000000) : ∃ R, SV encE 9 l R ∧ BPure Try.prog 68 [v] R := by
  obtain ⟨r, X, ⟨-, h1, -, -⟩, h2⟩ := ext_Clone_c (hv.2 []) hl
  exact BPure.sl (by simp [noIdss, hv.1]) (noIdss_flat fun x _ => noIdss_encE x) ⟨r, X, h1, h2⟩
theorem copied_p {l : List Ext} {v : AV} {size : Int} (hv : SV encE 9 l v) (hl : l.length ≤ 1000000000) : ∃ R, SV encE 9 l R ∧ BPure Try.prog 36 [.agg [I size, v]] (.agg [I size, R]) := by
  obtain ⟨R, hR, hc⟩ := cloneE_p hv hl
  refine ⟨R, hR, BPure.val (by simp [noIdss, noIds, hv.1]) (by simp [noIds, noIdss, hR.1]) (image_copied_ok ?_)⟩
  unfold image_copied
  have o1 := SV.oneA hv
  have o2 := SV.oneA hR
  simp [o1]
  refine bP_of hc ?_
  simp [o2, cellsA_one o2, ast, splice, rdCells]
theorem copyOf_p {l : List Ext} {v : AV} {size : Int} (hv : SV encE 9 l v) (hl : l.length ≤ 1000000000) : ∃ R, SV encE 9 l R ∧ BPure Try.prog 55 [.agg [I size, v]] (.agg [I size, R]) := by
  obtain ⟨r, X, ⟨w, rfl, h3, h1, -, -⟩, h2⟩ := ref_copyOf_c (size := size) (hv.2 []) (SV.oneA hv) hl
  obtain ⟨R, hR, fR⟩ := FZ.sv h1 (noIdss_flat fun x _ => noIdss_encE x)
  obtain ⟨R2, rfl, h⟩ := BPure.FZ (Q := fun R' => R' = .agg [I size, R]) (by simp [noIdss, noIds, hv.1]) ⟨_, X, ⟨_, FZ.agg (FZs.cons (FZ.lit _) (FZs.cons fR FZs.nil)), rfl⟩, h2⟩
  exact ⟨R, hR, h⟩
/-! what is found -/
def nameI (ns : List Nm) (s : List UInt8) : Int := match atK Nm.name ns s with
  | some x => x.ino
  | none => 0
def hasI (ns : List Nm) (ds : List Nd) (s : List UInt8) : Prop := mayI ns ds ∧ hasK Nm.name ns s
instance (ns : List Nm) (ds : List Nd) (s : List UInt8) : Decidable (hasI ns ds s) := by unfold hasI; infer_instance
def findI (ns : List Nm) (ds : List Nd) (s : List UInt8) : Int := if hasI ns ds s then nameI ns s else 0
theorem Find_p {ns : List Nm} {ds : List Nd} {v : AV} (hv : ImV ns ds v) (hb : Sm ns ds) (s : List UInt8) : BPure Try.prog 11 [v, S (bstr s)] (.tup [I (findI ns ds s), B (decide (hasI ns ds s))]) := BPure.val (by have := hv.noIds; simpa [noIdss, noIds] using this) rfl (image_Find_ok (by
  have hv0 := hv
  obtain ⟨a, b, dv, rfl, ha, hbv, rfl⟩ := hv
  unfold image_Find
  have oa := SV.oneA ha
  have ob := SV.oneA hbv
  simp [oa, ob, rdCells]
  refine bP_pure (May_p hv0 hb) ?_
  by_cases hm : mayI ns (dv.map NdV.nd)
  · simp [hm, rdCells]
    refine bC_of (named_p ha hbv hm.1.2.2.1 (by have := hb.1; omega) s _) ?_
    by_cases hh : hasK Nm.name ns s
    · obtain ⟨x, h1, h2, h3⟩ := posK_atK koN hm.1.2.2.1 hh
      have e : findI ns (dv.map NdV.nd) s = x.ino := by unfold findI nameI; rw [if_pos ⟨hm, hh⟩, h2]
      have e2 : hasI ns (dv.map NdV.nd) s := ⟨hm, hh⟩
      simp [hh, ha.idx encN_len h1 rfl, encN_1, e, e2]
    · have e2 : ¬ hasI ns (dv.map NdV.nd) s := fun h => hh h.2
      have e : findI ns (dv.map NdV.nd) s = 0 := if_neg e2
      simp [hh, e, e2]
  · have e2 : ¬ hasI ns (dv.map NdV.nd) s := fun h => hm h.1
    have e : findI ns (dv.map NdV.nd) s = 0 := if_neg e2
    simp [hm, e, e2]))
theorem ref_Find_p {ns : List Nm} {ds : List Nd} {v : AV} (hv : ImV ns ds v) (hb : Sm ns ds) (s : List UInt8) : BPure Try.prog 25 [v, S (bstr s)] (.tup [I (findI ns ds s), B (decide (hasI ns ds s))]) := BPure.val (by have := hv.noIds; simpa [noIdss, noIds] using this) rfl (salvorref11_Find_ok (by
  have hv0 := hv
  obtain ⟨a, b, dv, rfl, ha, hbv, rfl⟩ := hv
  unfold salvorref11_Find
  have oa := SV.oneA ha
  have ob := SV.oneA hbv
  simp [oa, ob, rdCells]
  refine bP_pure (ref_named_p hv0 hb s) ?_
  refine bP_pure (ref_MayImage_p hv0 hb) ?_
  by_cases hm : mayI ns (dv.map NdV.nd)
  · by_cases hh : hasK Nm.name ns s
    · obtain ⟨x, h1, h2, h3⟩ := posK_atK koN hm.1.2.2.1 hh
      have e : findI ns (dv.map NdV.nd) s = x.ino := by unfold findI nameI; rw [if_pos ⟨hm, hh⟩, h2]
      have e2 : hasI ns (dv.map NdV.nd) s := ⟨hm, hh⟩
      have e3 := idxK_pos koN hm.1.2.2.1 hh
      have e4 : ¬ idxK Nm.name ns s < 0 := by omega
      simp [hm, e3, show ¬ ((posK cmpN Nm.name ns s : Nat) : Int) < 0 by omega, ha.idx encN_len h1 rfl, encN_1, e, e2]
    · have e2 : ¬ hasI ns (dv.map NdV.nd) s := fun h => hh h.2
      have e : findI ns (dv.map NdV.nd) s = 0 := if_neg e2
      have e4 : idxK Nm.name ns s < 0 := idxK_lt.2 hh
      simp [hm, e4, e, e2]
  · have e2 : ¬ hasI ns (dv.map NdV.nd) s := fun h => hm h.1
    have e : findI ns (dv.map NdV.nd) s = 0 := if_neg e2
    simp [hm, e, e2]))
end Go.Proofs.Ytpnfdibgfichmaa.Av
end
/-! YtpnfdibgfichmaaAvIr -/
section
/- Chapter 12: a file's content, how many blocks there are, which images are one. -/
set_option linter.unusedVariables false
set_option linter.unusedSimpArgs false
set_option maxRecDepth 100000
namespace Go.Proofs.Ytpnfdibgfichmaa.Av
open Go Go.RowKit

/-- What a number has. -/
def hasG (ns : List Nm) (ds : List Nd) (no : Int) : Prop := mayI ns ds ∧ hasK Nd.ino ds no
instance (ns : List Nm) (ds : List Nd) (no : Int) : Decidable (hasG ns ds no) := by unfold hasG; infer_instance
def getN (ns : List Nm) (ds : List Nd) (no : Int) : Nd := if hasG ns ds no then (atK Nd.ino ds no).getD ⟨0, 0, []⟩ else ⟨0, 0, []⟩
theorem atK_map {dv : List NdV} {no : Int} {x : NdV} (h : atK NdV.ino dv no = some x) : atK Nd.ino (dv.map NdV.nd) no = some x.nd := by
  unfold atK at h ⊢
  rw [List.find?_map]
  show Option.map NdV.nd (dv.find? fun x => decide (x.nd.ino = no)) = _
  rw [show (dv.find? fun x => decide (x.nd.ino = no)) = some x from h]
  rfl
theorem Get_p {ns : List Nm} {ds : List Nd} {v : AV} (hv : ImV ns ds v) (hb : Sm ns ds) (no : Int) : ∃ R, SV encE 9 (getN ns ds no).l R ∧ BPure Try.prog 12 [v, I no] (.tup [.agg [I (getN ns ds no).size, R], B (decide (hasG ns ds no))]) := by
  have hv0 := hv
  obtain ⟨a, b, dv, rfl, ha, hbv, rfl⟩ := hv
  have oa := SV.oneA ha
  have ob := SV.oneA hbv
  by_cases hh : hasG ns (dv.map NdV.nd) no
  · have hm := hh.1
    have hs := srtK_map.1 hm.2.2.1
    have hk := hasK_map.1 hh.2
    obtain ⟨x, h1, h2, h3⟩ := posK_atK koI hs hk
    have e : getN ns (dv.map NdV.nd) no = x.nd := by unfold getN; rw [if_pos hh, atK_map h2]; rfl
    rw [e]
    obtain ⟨R, hR, hc⟩ := copied_p (size := x.nd.size) x.h (by have := hb.2.2.2 x.nd (List.mem_map_of_mem (List.mem_of_getElem? h1)); omega)
    refine ⟨R, hR, BPure.val (by have := hv0.noIds; simpa [noIdss, noIds] using this) (by simp [noIds, noIdss, hR.1]) (image_Get_ok ?_)⟩
    unfold image_Get
    simp [oa, ob, rdCells]
    refine bP_pure (May_p hv0 hb) ?_
    simp [hm, rdCells]
    refine bC_of (node_p ha hbv hs (by have := hb.2.1; simp at this; omega) no _) ?_
    simp [hk, hbv.idx encD_len h1 rfl, encD_c]
    refine bP_pure hc ?_
    have o2 := SV.oneA hR
    simp [o2, cellsA_one o2, ast, splice, rdCells, hh]
  · have e : getN ns (dv.map NdV.nd) no = ⟨0, 0, []⟩ := if_neg hh
    rw [e]
    refine ⟨nilSl, SV.nil, BPure.val (by have := hv0.noIds; simpa [noIdss, noIds] using this) rfl (image_Get_ok ?_)⟩
    unfold image_Get
    simp [oa, ob, rdCells]
    refine bP_pure (May_p hv0 hb) ?_
    by_cases hm : mayI ns (dv.map NdV.nd)
    · have hs := srtK_map.1 hm.2.2.1
      have hk : ¬ hasK NdV.ino dv no := fun h => hh ⟨hm, hasK_map.2 h⟩
      simp [hm, rdCells]
      refine bC_of (node_p ha hbv hs (by have := hb.2.1; simp at this; omega) no _) ?_
      simp [hk, ast, splice, rdCells, hh]
    · simp [hm, ast, splice, rdCells, hh]
theorem ref_Get_p {ns : List Nm} {ds : List Nd} {v : AV} (hv : ImV ns ds v) (hb : Sm ns ds) (no : Int) : ∃ R, SV encE 9 (getN ns ds no).l R ∧ BPure Try.prog 26 [v, I no] (.tup [.agg [I (getN ns ds no).size, R], B (decide (hasG ns ds no))]) := by
  have hv0 := hv
  obtain ⟨a, b, dv, rfl, ha, hbv, rfl⟩ := hv
  have oa := SV.oneA ha
  have ob := SV.oneA hbv
  by_cases hh : hasG ns (dv.map NdV.nd) no
  · have hm := hh.1
    have hs := srtK_map.1 hm.2.2.1
    have hk := hasK_map.1 hh.2
    obtain ⟨x, h1, h2, h3⟩ := posK_atK koI hs hk
    have e : getN ns (dv.map NdV.nd) no = x.nd := by unfold getN; rw [if_pos hh, atK_map h2]; rfl
    rw [e]
    obtain ⟨R, hR, hc⟩ := copyOf_p (size := x.nd.size) x.h (by have := hb.2.2.2 x.nd (List.mem_map_of_mem (List.mem_of_getElem? h1)); omega)
    refine ⟨R, hR, BPure.val (by have := hv0.noIds; simpa [noIdss, noIds] using this) (by simp [noIds, noIdss, hR.1]) (salvorref11_Get_ok ?_)⟩
    unfold salvorref11_Get
    simp [oa, ob, rdCells]
    refine bP_pure (ref_node_p hv0 hb no) ?_
    refine bP_pure (ref_MayImage_p hv0 hb) ?_
    have e3 : idxK Nd.ino (dv.map NdV.nd) no = posK cmpI NdV.ino dv no := by rw [idxK_pos koI hm.2.2.1 hh.2, posK_map]
    simp [hm, e3, show ¬ ((posK cmpI NdV.ino dv no : Nat) : Int) < 0 by omega, hbv.idx encD_len h1 rfl, encD_c]
    refine bP_pure hc ?_
    have o2 := SV.oneA hR
    simp [o2, cellsA_one o2, ast, splice, rdCells, hh]
  · have e : getN ns (dv.map NdV.nd) no = ⟨0, 0, []⟩ := if_neg hh
    rw [e]
    refine ⟨nilSl, SV.nil, BPure.val (by have := hv0.noIds; simpa [noIdss, noIds] using this) rfl (salvorref11_Get_ok ?_)⟩
    unfold salvorref11_Get
    simp [oa, ob, rdCells]
    refine bP_pure (ref_node_p hv0 hb no) ?_
    refine bP_pure (ref_MayImage_p hv0 hb) ?_
    by_cases hm : mayI ns (dv.map NdV.nd)
    · have hk : ¬ hasK Nd.ino (dv.map NdV.nd) no := fun h => hh ⟨hm, h⟩
      have e4 := (idxK_lt (key := Nd.ino)).2 hk
      simp [hm, e4, ast, splice, rdCells, hh]
    · simp [hm, ast, splice, rdCells, hh]
/-! blocks, counted -/
def sumL (ds : List Nd) : Nat := (ds.map fun d => d.l.length).sum
def usedI (ns : List Nm) (ds : List Nd) : Int := if mayI ns ds then sumL ds else 0
theorem sumL_snoc {ds : List Nd} {d : Nd} : sumL (ds ++ [d]) = sumL ds + d.l.length := by simp [sumL]
theorem sumL_le {N : Nat} : ∀ {ds : List Nd}, (∀ d ∈ ds, d.l.length ≤ N) → sumL ds ≤ ds.length * N
  | [], _ => by simp [sumL]
  | d :: ds, h => by
    have ih := sumL_le (ds := ds) fun x hx => h x (by simp [hx])
    have := h d (by simp)
    unfold sumL at ih ⊢
    rw [List.map_cons, List.sum_cons, List.length_cons, Nat.succ_mul]
    omega
theorem sumL_take {ds : List Nd} (h : ∀ d ∈ ds, d.l.length ≤ 1000000) (hn : ds.length ≤ 100000) (k : Nat) : sumL (ds.take k) ≤ 100000000000 := by
  have h1 := sumL_le (N := 1000000) (ds := ds.take k) fun d hd => h d (List.mem_of_mem_take hd)
  have : (ds.take k).length ≤ 100000 := by rw [List.length_take]; omega
  have := Nat.mul_le_mul_right 1000000 this
  omega
theorem Used_p {ns : List Nm} {ds : List Nd} {v : AV} (hv : ImV ns ds v) (hb : Sm ns ds) : BPure Try.prog 13 [v] (I (usedI ns ds)) := BPure.val hv.noIds rfl (image_Used_ok (by
  have hv0 := hv
  obtain ⟨a, b, dv, rfl, ha, hbv, rfl⟩ := hv
  have oa := SV.oneA ha
  have ob := SV.oneA hbv
  have b2 := hb.2.1
  unfold image_Used
  simp [oa, ob, rdCells]
  refine bP_pure (May_p hv0 hb) ?_
  by_cases hm : mayI ns (dv.map NdV.nd)
  · simp [hm, hbv.len]
    have e : usedI ns (dv.map NdV.nd) = sumL (dv.map NdV.nd) := if_pos hm
    rw [e]
    refine image_Used_L7_rule (fun n x3 x10 x11 x12 H' => ∃ k : Nat, k + n = dv.length ∧ x3 = I (sumL ((dv.map NdV.nd).take k)) ∧ x10 = b ∧ x11 = I dv.length ∧ x12 = I k) ?_ dv.length ⟨0, by omega, rfl, rfl, rfl, rfl⟩
    rintro n x3 x10 x11 x12 H' R hR ⟨k, hk, rfl, rfl, rfl, rfl⟩
    unfold image_Used_L7_b
    rw [List.length_map] at b2
    rcases Nat.lt_or_ge k dv.length with h | h
    · have hx := List.getElem?_eq_getElem h
      generalize dv[k] = d at hx
      have hx2 : (dv.map NdV.nd)[k]? = some d.nd := by rw [List.getElem?_map, hx]; rfl
      have h1 := sumL_take hb.2.2.2 (by simpa using b2) k
      have h2 := hb.2.2.2 d.nd (List.mem_of_getElem? hx2)
      have ea : ast 3 (H' ++ [some (.cells [I 0, I 0, nilSl])]) (.ptr H'.length 0) (.agg (encD d)) = some (H' ++ [some (.cells (encD d))]) := by
        have := SV.oneA d.h
        simp [ast, encD, splice, this]
      simp [h, hbv.idx encD_len hx rfl, rdh_D, ea]
      simp [encD, d.h.len, abI_add (a := k) (b := 1) (by omega) (by omega), abI_add (a := (sumL (List.take k (dv.map NdV.nd)) : Int)) (b := d.nd.l.length) (by omega) (by omega)]
      exact hR (n - 1) _ _ _ _ _ (by omega) ⟨k + 1, by omega, by rw [take_snoc hx2, sumL_snoc]; simp, rfl, rfl, by simp⟩
    · have : (dv.map NdV.nd).take k = dv.map NdV.nd := List.take_of_length_le (by simp; omega)
      simp [show ¬ k < dv.length by omega, this]
  · have e : usedI ns (dv.map NdV.nd) = 0 := if_neg hm
    simp [hm, e]))
theorem ref_Used_p {ns : List Nm} {ds : List Nd} {v : AV} (hv : ImV ns ds v) (hb : Sm ns ds) : BPure Try.prog 30 [v] (I (usedI ns ds)) := BPure.val hv.noIds rfl (salvorref11_Used_ok (by
  have hv0 := hv
  obtain ⟨a, b, dv, rfl, ha, hbv, rfl⟩ := hv
  have oa := SV.oneA ha
  have ob := SV.oneA hbv
  have b2 := hb.2.1
  rw [List.length_map] at b2
  unfold salvorref11_Used
  simp [oa, ob, rdCells]
  refine salvorref11_Used_L4_rule (fun n x1 x3 x4 H' => ∃ k : Nat, k + n = dv.length ∧ x1 = .ptr 0 0 ∧ x3 = I (sumL ((dv.map NdV.nd).take k)) ∧ x4 = I k ∧ H' = [some (.cells [a, b])] ∧ (0 < k → mayI ns (dv.map NdV.nd))) ?_ dv.length ⟨0, by omega, rfl, rfl, rfl, rfl, by omega⟩
  rintro n x1 x3 x4 H' R hR ⟨k, hk, rfl, rfl, rfl, rfl, h0⟩
  unfold salvorref11_Used_L4_b
  rcases Nat.lt_or_ge k dv.length with h | h
  · have hx := List.getElem?_eq_getElem h
    generalize dv[k] = d at hx
    have hx2 : (dv.map NdV.nd)[k]? = some d.nd := by rw [List.getElem?_map, hx]; rfl
    have h1 := sumL_take hb.2.2.2 (by simpa using b2) k
    have h2 := hb.2.2.2 d.nd (List.mem_of_getElem? hx2)
    simp [h, hbv.len, rdCells]
    refine bP_pure (ref_MayImage_p hv0 hb) ?_
    by_cases hm : mayI ns (dv.map NdV.nd)
    · simp [hm, hbv.idx encD_len hx rfl, encD_2, d.h.len, abI_add (a := k) (b := 1) (by omega) (by omega), abI_add (a := (sumL (List.take k (dv.map NdV.nd)) : Int)) (b := d.nd.l.length) (by omega) (by omega)]
      exact hR (n - 1) _ _ _ _ (by omega) ⟨k + 1, by omega, rfl, by rw [take_snoc hx2, sumL_snoc]; simp, by simp, rfl, fun _ => hm⟩
    · have e : usedI ns (dv.map NdV.nd) = 0 := if_neg hm
      have : k = 0 := by
        rcases Nat.eq_zero_or_pos k with h | h
        · exact h
        · exact absurd (h0 h) hm
      simp [hm, e, this, sumL]
  · have : (dv.map NdV.nd).take k = dv.map NdV.nd := List.take_of_length_le (by simp; omega)
    have e : usedI ns (dv.map NdV.nd) = sumL (dv.map NdV.nd) := by
      unfold usedI
      by_cases hm : mayI ns (dv.map NdV.nd)
      · rw [if_pos hm]
      · rcases Nat.eq_zero_or_pos k with h | h
        · have : dv = [] := List.length_eq_zero_iff.1 (by omega)
          rw [if_neg hm, this]; rfl
        · exact absurd (h0 h) hm
    simp [hbv.len, show ¬ k < dv.length by omega, this, e]))
/-! one image -/
def sameI (ns : List Nm) (ds : List Nd) (ms : List Nm) (es : List Nd) : Prop := ns = ms ∧ ds = es
instance (ns : List Nm) (ds : List Nd) (ms : List Nm) (es : List Nd) : Decidable (sameI ns ds ms es) := by unfold sameI; infer_instance
theorem neNm_a (a c : ByteArray) (b d : Int) : abin Try.prog .neq 57 (.agg [S a, I b]) (.agg [S c, I d]) = some (B !(a.toList == c.toList && (b == d && true))) := by kernel_rfl
theorem neNm (x y : Nm) : abin Try.prog .neq 57 (.agg (encN x)) (.agg (encN y)) = some (B (decide (x ≠ y))) := by
  obtain ⟨a, b⟩ := x
  obtain ⟨c, d⟩ := y
  refine (neNm_a _ _ _ _).trans ?_
  rw [bstr_toList, bstr_toList]
  by_cases h : a = c
  · by_cases h2 : b = d <;> simp [h, h2]
  · simp [h]
theorem EqualN_p {l m : List Nm} {v w : AV} (hv : SV encN 2 l v) (hw : SV encN 2 m w) (hl : l.length ≤ 281474976710656) :
    BPure Try.prog 57 [v, w] (B (decide (l = m))) := BPure.val (by simp [noIdss, noIds, hv.1, hw.1]) rfl (slices_Equal_Lapi_Name_api_Name_ok (by
  unfold slices_Equal_Lapi_Name_api_Name
  simp [hv.len, hw.len]
  by_cases h0 : l.length = m.length
  · simp [h0]
    refine slices_Equal_Lapi_Name_api_Name_L6_rule (fun n x0 x1 x12 x13 H' => ∃ k : Nat, k + n = l.length ∧ x0 = v ∧ x1 = w ∧ x12 = I l.length ∧ x13 = I k ∧ H' = [] ∧ l.take k = m.take k) ?_ l.length ⟨0, by simp, rfl, rfl, by rw [h0], rfl, rfl, rfl⟩
    rintro n x0 x1 x12 x13 H' R hR ⟨k, hk, rfl, rfl, rfl, rfl, rfl, ht⟩
    unfold slices_Equal_Lapi_Name_api_Name_L6_b
    rcases Nat.lt_or_ge k l.length with hlt | hge
    · have hx := List.getElem?_eq_getElem hlt
      have hy := List.getElem?_eq_getElem (l := m) (i := k) (by omega)
      generalize l[k] = x at hx
      generalize m[k]'(by omega) = y at hy
      simp [hlt, hv.idx encN_len hx rfl, hw.idx encN_len hy rfl, neNm, rdh_N]
      by_cases hxy : x = y
      · simp [hxy, abI_add (a := k) (b := 1) (by omega) (by omega)]
        refine hR (n - 1) _ _ _ _ _ (by omega) ⟨k + 1, by omega, rfl, rfl, rfl, rfl, rfl, ?_⟩
        rw [List.take_add_one, List.take_add_one, hx, hy, ht, hxy]
      · have : l ≠ m := by
          rintro rfl
          rw [hx] at hy; injection hy with hy; exact hxy hy
        simp [hxy, this]
    · have : k = l.length := by omega
      subst this
      have e : l = m := by
        rw [List.take_length, h0, List.take_length] at ht; exact ht
      simp [e]
  · have : l ≠ m := fun h => h0 (by rw [h])
    have h0' : ¬ (l.length : Int) = m.length := by omega
    simp [h0, h0', this]))
theorem Same1_p (x y : NdV) (hl : x.nd.l.length ≤ 281474976710656) : BPure Try.prog 59 [.agg (encD x), .agg (encD y)] (B (decide (x.nd = y.nd))) := BPure.val (by simp [noIdss, noIds, noIdss_encD]) rfl (image_Same_1_ok (by
  have o1 := SV.oneA x.h
  have o2 := SV.oneA y.h
  unfold image_Same_1 encD
  simp [o1, o2]
  have e : x.nd = y.nd ↔ x.nd.ino = y.nd.ino ∧ sameC x.nd.size x.nd.l y.nd.size y.nd.l := by
    unfold sameC
    cases x.nd; cases y.nd; simp
  by_cases h : x.nd.ino = y.nd.ino
  · simp [h, rdCells]
    refine bP_pure (extent_Same_p x.h y.h hl) ?_
    simp [e, h]
  · have : ¬ x.nd = y.nd := fun hh => h (e.1 hh).1
    simp [h, this]))
theorem goF_S1 : goFunc Try.prog 59 = true := by kernel_rfl
theorem EqualD_p {l m : List NdV} {v w : AV} (hv : SV encD 3 l v) (hw : SV encD 3 m w) (hl : l.length ≤ 281474976710656) (hb : ∀ d ∈ l, d.nd.l.length ≤ 281474976710656) :
    BPure Try.prog 58 [v, w, .fn (.func 59) [] []] (B (decide (l.map NdV.nd = m.map NdV.nd))) := BPure.val (by simp [noIdss, noIds, hv.1, hw.1]) rfl (slices_EqualFunc_Lapi_Node_Lapi_Node_api_Node_api_Node_ok (by
  unfold slices_EqualFunc_Lapi_Node_Lapi_Node_api_Node_api_Node
  simp [hv.len, hw.len]
  by_cases h0 : l.length = m.length
  · simp [h0]
    refine slices_EqualFunc_Lapi_Node_Lapi_Node_api_Node_api_Node_L6_rule (fun n x1 x2 x15 x16 x17 H' => ∃ k : Nat, k + n = l.length ∧ x1 = w ∧ x2 = .fn (.func 59) [] [] ∧ x15 = v ∧ x16 = I l.length ∧ x17 = I k ∧ (l.take k).map NdV.nd = (m.take k).map NdV.nd) ?_ l.length ⟨0, by simp, rfl, rfl, rfl, by rw [h0], rfl, rfl⟩
    rintro n x1 x2 x15 x16 x17 H' R hR ⟨k, hk, rfl, rfl, rfl, rfl, rfl, ht⟩
    unfold slices_EqualFunc_Lapi_Node_Lapi_Node_api_Node_api_Node_L6_b
    rcases Nat.lt_or_ge k l.length with hlt | hge
    · have hx := List.getElem?_eq_getElem hlt
      have hy := List.getElem?_eq_getElem (l := m) (i := k) (by omega)
      generalize l[k] = x at hx
      generalize m[k]'(by omega) = y at hy
      have ea : ∀ (X : AH) (d : NdV), ast 3 (X ++ [some (.cells [I 0, I 0, nilSl])]) (.ptr X.length 0) (.agg (encD d)) = some (X ++ [some (.cells (encD d))]) := by
        intro X d
        have := SV.oneA d.h
        simp [ast, encD, splice, this]
      simp [hlt, hv.idx encD_len hx rfl, hw.idx encD_len hy rfl, rdh_D, ea, goF_S1]
      have rd : ∀ d : NdV, rdCells true 3 (encD d) 0 = some (.agg (encD d)) := fun d => by simp [rdCells, encD]
      simp only [rd, bO_some]
      refine bC_of (Same1_p x y (hb x (List.mem_of_getElem? hx)) _) ?_
      by_cases hxy : x.nd = y.nd
      · simp [hxy, abI_add (a := k) (b := 1) (by omega) (by omega)]
        refine hR (n - 1) _ _ _ _ _ _ (by omega) ⟨k + 1, by omega, rfl, rfl, rfl, rfl, by simp, ?_⟩
        rw [take_snoc hx, take_snoc hy, List.map_append, List.map_append, ht]
        simp [hxy]
      · have : ¬ l.map NdV.nd = m.map NdV.nd := by
          intro e
          have h1 : (l.map NdV.nd)[k]? = some x.nd := by rw [List.getElem?_map, hx]; rfl
          rw [e, List.getElem?_map, hy] at h1
          injection h1 with h1
          exact hxy h1.symm
        simp [hxy, this]
    · have : k = l.length := by omega
      subst this
      have e : l.map NdV.nd = m.map NdV.nd := by
        rw [List.take_length, h0, List.take_length] at ht; exact ht
      simp [e]
  · have : l.map NdV.nd ≠ m.map NdV.nd := fun h => h0 (by have := congrArg List.length h; simpa using this)
    have h0' : ¬ (l.length : Int) = m.length := by omega
    simp [h0, h0', this]))
theorem Same_p {ns ms : List Nm} {ds es : List Nd} {v w : AV} (hv : ImV ns ds v) (hw : ImV ms es w) (hb : Sm ns ds) : BPure Try.prog 31 [v, w] (B (decide (sameI ns ds ms es))) := BPure.val (by have h1 := hv.noIds; have h2 := hw.noIds; simp [noIdss] at h1 h2 ⊢; exact ⟨h1, h2⟩) rfl (image_Same_ok (by
  obtain ⟨a, b, dv, rfl, ha, hbv, rfl⟩ := hv
  obtain ⟨c, d, dw, rfl, hc, hdw, rfl⟩ := hw
  have oa := SV.oneA ha
  have ob := SV.oneA hbv
  have oc := SV.oneA hc
  have od := SV.oneA hdw
  have b1 := hb.1
  have b2 := hb.2.1
  unfold image_Same
  simp [oa, ob, oc, od]
  refine bP_pure (EqualN_p ha hc (by omega)) ?_
  by_cases h : ns = ms
  · simp [h]
    refine bP_pure (EqualD_p hbv hdw (by simp at b2; omega) fun x hx => by have := hb.2.2.2 x.nd (List.mem_map_of_mem hx); omega) ?_
    simp [sameI]
  · simp [h, sameI]))
theorem ref_SameImage_p {ns ms : List Nm} {ds es : List Nd} {v w : AV} (hv : ImV ns ds v) (hw : ImV ms es w) (hb : Sm ns ds) : BPure Try.prog 17 [v, w] (B (decide (sameI ns ds ms es))) := BPure.val (by have h1 := hv.noIds; have h2 := hw.noIds; simp [noIdss] at h1 h2 ⊢; exact ⟨h1, h2⟩) rfl (salvorref11_SameImage_ok (by
  obtain ⟨a, b, dv, rfl, ha, hbv, rfl⟩ := hv
  obtain ⟨c, d, dw, rfl, hc, hdw, rfl⟩ := hw
  have oa := SV.oneA ha
  have ob := SV.oneA hbv
  have oc := SV.oneA hc
  have od := SV.oneA hdw
  have b1 := hb.1
  have b2 := hb.2.1
  rw [List.length_map] at b2
  unfold salvorref11_SameImage
  simp [oa, ob, oc, od, ha.len, hc.len]
  by_cases h0 : ns.length = ms.length
  · have h0' : (ns.length : Int) = ms.length := by omega
    simp [h0', hbv.len, hdw.len]
    by_cases h1 : dv.length = dw.length
    · have h1' : (dv.length : Int) = dw.length := by omega
      simp [h1']
      refine salvorref11_SameImage_L6_rule (fun n x2 x3 x5 H' => ∃ k : Nat, k + n = ns.length ∧ x2 = .ptr 0 0 ∧ x3 = .ptr 1 0 ∧ x5 = I k ∧ H' = [some (.cells [a, b]), some (.cells [c, d])] ∧ ns.take k = ms.take k) ?_ ns.length ⟨0, by simp, rfl, rfl, rfl, rfl, rfl⟩
      rintro n x2 x3 x5 H' R hR ⟨k, hk, rfl, rfl, rfl, rfl, ht⟩
      unfold salvorref11_SameImage_L6_b
      rcases Nat.lt_or_ge k ns.length with hlt | hge
      · have hx := List.getElem?_eq_getElem hlt
        have hy := List.getElem?_eq_getElem (l := ms) (i := k) (by omega)
        generalize ns[k] = x at hx
        generalize ms[k]'(by omega) = y at hy
        simp [hlt, ha.len, ha.idx encN_len hx rfl, hc.idx encN_len hy rfl, neNm, rdh_N]
        by_cases hxy : x = y
        · simp [hxy, abI_add (a := k) (b := 1) (by omega) (by omega)]
          refine hR (n - 1) _ _ _ _ (by omega) ⟨k + 1, by omega, rfl, rfl, by simp, rfl, ?_⟩
          rw [take_snoc hx, take_snoc hy, ht, hxy]
        · have : ns ≠ ms := by
            rintro rfl
            rw [hx] at hy; injection hy with hy; exact hxy hy
          simp [hxy, this, sameI]
      · have : k = ns.length := by omega
        subst this
        have e : ns = ms := by
          rw [List.take_length, h0, List.take_length] at ht; exact ht
        simp [ha.len, e]
        refine salvorref11_SameImage_L14_rule (fun n x2 x3 x6 H' => ∃ k : Nat, k + n = dv.length ∧ x2 = .ptr 0 0 ∧ x3 = .ptr 1 0 ∧ x6 = I k ∧ H' = [some (.cells [a, b]), some (.cells [c, d])] ∧ (dv.take k).map NdV.nd = (dw.take k).map NdV.nd) ?_ dv.length ⟨0, by simp, rfl, rfl, rfl, rfl, rfl⟩
        rintro n x2 x3 x6 H' R hR ⟨k, hk, rfl, rfl, rfl, rfl, ht⟩
        unfold salvorref11_SameImage_L14_b
        rcases Nat.lt_or_ge k dv.length with hlt | hge
        · have hx := List.getElem?_eq_getElem hlt
          have hy := List.getElem?_eq_getElem (l := dw) (i := k) (by omega)
          generalize dv[k] = x at hx
          generalize dw[k]'(by omega) = y at hy
          have ei := hbv.idx encD_len hx rfl
          have ej := hdw.idx encD_len hy rfl
          have e9 : x.nd = y.nd ↔ x.nd.ino = y.nd.ino ∧ sameC x.nd.size x.nd.l y.nd.size y.nd.l := by
            unfold sameC
            cases x.nd; cases y.nd; simp
          have hno : x.nd ≠ y.nd → ¬ sameI ns (dv.map NdV.nd) ms (dw.map NdV.nd) := by
            rintro hne ⟨-, e⟩
            have h1 : (dv.map NdV.nd)[k]? = some x.nd := by rw [List.getElem?_map, hx]; rfl
            rw [e, List.getElem?_map, hy] at h1
            injection h1 with h1
            exact hne h1.symm
          rw [e] at hno
          simp [hlt, hbv.len, ei, ej, encD_0]
          by_cases hi : x.nd.ino = y.nd.ino
          · simp [hi, ei, ej, encD_c]
            refine bP_of (ref_SameContent_p x.h y.h (by have := hb.2.2.2 x.nd (List.mem_map_of_mem (List.mem_of_getElem? hx)); omega)) ?_
            by_cases hc : sameC x.nd.size x.nd.l y.nd.size y.nd.l
            · simp [hc, abI_add (a := k) (b := 1) (by omega) (by omega)]
              refine hR (n - 1) _ _ _ _ (by omega) ⟨k + 1, by omega, rfl, rfl, by simp, rfl, ?_⟩
              rw [take_snoc hx, take_snoc hy, List.map_append, List.map_append, ht]
              simp [e9.2 ⟨hi, hc⟩]
            · have := hno fun hh => hc (e9.1 hh).2
              simp [hc, this]
          · have := hno fun hh => hi (e9.1 hh).1
            simp [hi, this]
        · have : k = dv.length := by omega
          subst this
          have e2 : dv.map NdV.nd = dw.map NdV.nd := by
            rw [List.take_length, h1, List.take_length] at ht; exact ht
          simp [hbv.len, sameI, e2]
    · have : ¬ sameI ns (dv.map NdV.nd) ms (dw.map NdV.nd) := fun h => h1 (by have := congrArg List.length h.2; simpa using this)
      have h1' : ¬ (dv.length : Int) = dw.length := by omega
      simp [h1', this]
  · have : ¬ sameI ns (dv.map NdV.nd) ms (dw.map NdV.nd) := fun h => h0 (by rw [h.1])
    have h0' : ¬ (ns.length : Int) = ms.length := by omega
    simp [h0', this]))
end Go.Proofs.Ytpnfdibgfichmaa.Av
end
/-! YtpnfdibgfichmaaAvExtL -/
section
/- Chapter 11's laws: what they are handed; few; a byte; the closed sentence. -/
set_option linter.unusedVariables false
set_option linter.unusedSimpArgs false
set_option maxRecDepth 100000
namespace Go.Proofs.Ytpnfdibgfichmaa.Av
open Go Go.RowKit
abbrev XE := Int × List UInt8 × Unit
def xe (x : XE) : Ext := if h : x.2.1.length = 8 then ⟨x.1, x.2.1, h⟩ else ⟨x.1, List.replicate 8 0, by simp⟩
def xenc (x : XE) : List AV := [I x.1] ++ ((x.2.1.flatMap fun b => [AV.lit (.int .u8 b.toNat)]) ++ [])
theorem xenc_eq {x : XE} (h : x.2.1.length = 8) : xenc x = encE (xe x) := by
  unfold xenc xe encE encB
  rw [dif_pos h]
  simp [List.flatMap_singleton']
  induction x.2.1 with
  | nil => rfl
  | cons a l ih => simp [ih]
/-- A list of blocks that is handed. -/
theorem cont_sv (s : Sl XE) (hn : s.nil = true → s.l = []) (hok : ∀ x ∈ s.l, x.2.1.length = 8) : ∃ l, l.length = s.l.length ∧ SV encE 9 l (if s.nil then .lit (.slice none 0 0) else .imm (s.l.flatMap xenc) s.l.length 9) := by
  refine ⟨s.l.map xe, by simp, ?_⟩
  obtain ⟨l, nil⟩ := s
  cases nil with
  | true =>
    have := hn rfl
    simp only at this
    subst this
    exact SV.nil
  | false =>
    have e : l.flatMap xenc = (l.map xe).flatMap encE := by
      clear hn
      simp only at hok
      induction l with
      | nil => rfl
      | cons a r ih =>
        rw [List.flatMap_cons, List.map_cons, List.flatMap_cons, ih (fun x hx => hok x (by simp [hx])), xenc_eq (hok a (by simp))]
    have h2 := SV.imm (enc := encE) (sz := 9) (l := l.map xe) encE_len (fun x _ => noIdss_encE x)
    rw [← e, List.length_map] at h2
    exact h2
end Go.Proofs.Ytpnfdibgfichmaa.Av
end
/-! YtpnfdibgfichmaaPc -/
section
/- Formulas of functions of the program: printed by a program of this session (wip/tools/Pr.lean.txt), each checked by the kernel. -/
set_option linter.unusedVariables false
set_option maxRecDepth 100000
namespace Go.Proofs.Ytpnfdibgfichmaa.Av
open Go
def pqc : FuncId → Bool := inL [33,18,19,17,31,11,12,13,22,14,25,26,30,28,27,29,24,3,15,16,21,20,49,32,50,48,23]
def pqca : FuncId → Bool := inL []
/-! salvor/image.All -/
def image_All_fl : Floats := flOf []
def image_All_kp : Nat → Option (List Bool) := kpOf [(4, mk 20 0 [2, 4, 9, 10, 11])]
def image_All_c (p : List Bool) (n : Nat) : List AV → AH → Kf → Prop := sCode Try.prog image_All_fl pqc none0 none0 image_All_kp (sub p (bodyOf Try.f10)) n
def image_All_L4 (x2 x4 x9 x10 x11 : AV) (H : AH) (K : AV → AH → Prop) : Prop := lp (mk 20 0 [2, 4, 9, 10, 11]) (image_All_c [true, true, false, true, false, false] 5) [x2, x4, x9, x10, x11] H (kBlk 0 (kSeq (image_All_c [true, true, true] 9) (kRet Try.prog Try.f10.results.toList K)))
def image_All_L4_b (R4 : List AV → AH → Prop) (x2 x4 x9 x10 x11 : AV) (H : AH) (K : AV → AH → Prop) : Prop :=
 bO (abI .lss x11 x10) fun v0 =>
 bB v0 fun t1 => bI t1 (
 bO (aixS 8 x9 x11) fun v2 =>
 bO (ald true 8 H v2) fun v3 =>
 bH (anew H (.agg [(.lit (.int .i64 0)), (.lit (.int .i64 0)), (.lit (.int .i64 0)), (.lit (.int .i64 0)), (.lit (.bool false)), (.lit (.string ⟨#[]⟩)), (.lit (.string ⟨#[]⟩)), (.lit (.slice none 0 0))])) fun v4 H5 =>
 bS (ast 8 H5 v4 v3) fun H6 =>
 bO (ald true 2 H6 x2) fun v7 =>
 bO (ald true 8 H6 v4) fun v8 =>
 bP (PCall Try.prog 18 [v7, v8] H6) fun v9 =>
 bS (ast 2 H6 x2 v9) fun H10 =>
 bO (abI .add x11 (.lit (.int .i64 1))) fun v11 =>
 R4 [x2, x4, x9, x10, v11] H10)
 (bO (ald true 2 H x2) fun v12 =>
 bS (ast 2 H x4 v12) fun H13 =>
 bO (ald true 2 H13 x4) fun v14 =>
 K v14 H13)
theorem image_All_L4_eq (R4 : List AV → AH → Prop) (x2 x4 x9 x10 x11 : AV) (H : AH) (K : AV → AH → Prop) : image_All_c [true, true, false, true, false, false] 5 (expand (mk 20 0 [2, 4, 9, 10, 11]) [x2, x4, x9, x10, x11]) H (kLp (mk 20 0 [2, 4, 9, 10, 11]) R4 (kBlk 0 (kSeq (image_All_c [true, true, true] 9) (kRet Try.prog Try.f10.results.toList K)))) = image_All_L4_b R4 x2 x4 x9 x10 x11 H K := by kernel_rfl
theorem image_All_L4_rule {K : AV → AH → Prop} (I : Nat → AV → AV → AV → AV → AV → AH → Prop) (round : ∀ (n : Nat) (x2 x4 x9 x10 x11 : AV) (H : AH) (R : List AV → AH → Prop), (∀ (m : Nat) (y2 y4 y9 y10 y11 : AV) (H' : AH), m < n → I m y2 y4 y9 y10 y11 H' → R [y2, y4, y9, y10, y11] H') → I n x2 x4 x9 x10 x11 H → image_All_L4_b R x2 x4 x9 x10 x11 H K) (n : Nat) {x2 x4 x9 x10 x11 : AV} {H : AH} (h : I n x2 x4 x9 x10 x11 H) : image_All_L4 x2 x4 x9 x10 x11 H K := by
  refine lp_upto (sCode_one _ _) (LI5 I) ?_ n h
  intro n X H h
  obtain ⟨x2, x4, x9, x10, x11, rfl, h⟩ := h.elim
  exact Eq.mpr (image_All_L4_eq _ x2 x4 x9 x10 x11 H K) (round n x2 x4 x9 x10 x11 H (fun X H' => ∃ m, m < n ∧ LI5 I m X H') (fun m y2 y4 y9 y10 y11 H' hm hi => ⟨m, hm, hi⟩) h)
def image_All (a0 a1 : AV) (H : AH) (K : AV → AH → Prop) : Prop :=
 bH (anew H a0) fun v0 H1 =>
 bH (anew H1 (.agg [(.lit (.slice none 0 0)), (.lit (.slice none 0 0))])) fun v2 H3 =>
 bO (ald true 2 H3 v0) fun v4 =>
 bP (PCall Try.prog 33 [v4] H3) fun v5 =>
 bS (ast 2 H3 v0 v5) fun H6 =>
 bO (alnS a1) fun v7 =>
 image_All_L4 v0 v2 a1 v7 (.lit (.int .i64 0)) H6 K
theorem image_All_eq (a0 a1 : AV) (H : AH) (K : AV → AH → Prop) : sFun Try.prog image_All_fl pqc none0 none0 image_All_kp Try.f10 [a0, a1] H K = image_All a0 a1 H K := by kernel_rfl
theorem image_All_ok {a0 a1 : AV} {H : AH} {K : AV → AH → Prop} (h : image_All a0 a1 H K) : ∃ r H', K r H' ∧ BCall Try.prog 10 [a0, a1] H r H' :=
  sFun_ok mixP Try.func10 (by kernel_rfl) (Eq.mpr (image_All_eq a0 a1 H K) h)
/-! salvor/salvorlaw12.ImageCount -/
def salvorlaw12_ImageCount_fl : Floats := flOf []
def salvorlaw12_ImageCount_kp : Nat → Option (List Bool) := kpOf [(5, mk 49 0 [3, 4, 5])]
def salvorlaw12_ImageCount_c (p : List Bool) (n : Nat) : List AV → AH → Kf → Prop := sCode Try.prog salvorlaw12_ImageCount_fl pqc none0 none0 salvorlaw12_ImageCount_kp (sub p (bodyOf Try.f6)) n
def salvorlaw12_ImageCount_L5 (x3 x4 x5 : AV) (H : AH) (K : AV → AH → Prop) : Prop := lp (mk 49 0 [3, 4, 5]) (salvorlaw12_ImageCount_c [true, true, true, false, true, false, false] 6) [x3, x4, x5] H (kBlk 0 (kSeq (salvorlaw12_ImageCount_c [true, true, true, true] 9) (kRet Try.prog Try.f6.results.toList K)))
def salvorlaw12_ImageCount_L5_b (R5 : List AV → AH → Prop) (x3 x4 x5 : AV) (H : AH) (K : AV → AH → Prop) : Prop :=
 bO (abI .lss x5 x4) fun v0 =>
 bB v0 fun t1 => bI t1 (
 bP (PCall Try.prog 23 [x5] H) fun v2 =>
 bO (abT .add (.lit (.string ⟨#[102]⟩)) v2) fun v3 =>
 bO (abI .add (.lit (.int .i64 1)) x5) fun v4 =>
 bO (abl [(.lit (.int .i64 0)), (.lit (.int .i64 0)), (.lit (.int .i64 0)), (.lit (.int .i64 0)), (.lit (.bool false)), (.lit (.string ⟨#[]⟩)), (.lit (.string ⟨#[]⟩)), (.lit (.slice none 0 0))] [(0, 1, (.lit (.int .i64 1))), (5, 1, v3), (1, 1, v4)]) fun v5 =>
 bH (absl H 8 1 (zrow [(.lit (.int .i64 0)), (.lit (.int .i64 0)), (.lit (.int .i64 0)), (.lit (.int .i64 0)), (.lit (.bool false)), (.lit (.string ⟨#[]⟩)), (.lit (.string ⟨#[]⟩)), (.lit (.slice none 0 0))] 1) [(0, 8, v5)]) fun v6 H7 =>
 bH (aap 8 96 H7 x3 v6) fun v8 H9 =>
 bO (abI .add x5 (.lit (.int .i64 1))) fun v10 =>
 R5 [v8, x4, v10] H9)
 (bO (abl [(.lit (.slice none 0 0)), (.lit (.slice none 0 0))] []) fun v11 =>
 bC (BCall Try.prog 10 [v11, x3] H) fun v12 H13 =>
 bH (anew H13 (.agg [(.lit (.slice none 0 0)), (.lit (.slice none 0 0))])) fun v14 H15 =>
 bS (ast 2 H15 v14 v12) fun H16 =>
 bO (ashift 0 v14) fun v17 =>
 bO (ald false 1 H16 v17) fun v18 =>
 bO (alnS v18) fun v19 =>
 bO (amm imn [x4, (.lit (.int .i64 16))]) fun v20 =>
 bO (abI .eql v19 v20) fun v21 =>
 bG v21 true fun w22 =>
 gO w22 (ashift 1 v14) fun v23 =>
 bG v21 true fun w24 =>
 gO w24 (ald false 1 H16 v23) fun v25 =>
 bG v21 true fun w26 =>
 gO w26 (alnS v25) fun v27 =>
 bG v21 true fun w28 =>
 gO w28 (ashift 0 v14) fun v29 =>
 bG v21 true fun w30 =>
 gO w30 (ald false 1 H16 v29) fun v31 =>
 bG v21 true fun w32 =>
 gO w32 (alnS v31) fun v33 =>
 bG v21 true fun w34 =>
 gO w34 (abI .eql v27 v33) fun v35 =>
 bO (apick v21 v35 (.lit (.bool false))) fun v36 =>
 bG v36 true fun w37 =>
 gO w37 (ald true 2 H16 v14) fun v38 =>
 bG v36 true fun w39 =>
 gP w39 (PCall Try.prog 22 [v38] H16) fun v40 =>
 bO (apick v36 v40 (.lit (.bool false))) fun v41 =>
 bG v41 true fun w42 =>
 gP w42 (PCall Try.prog 3 [] H16) fun v43 =>
 bO (apick v41 v43 (.lit (.bool false))) fun v44 =>
 K v44 H16)
theorem salvorlaw12_ImageCount_L5_eq (R5 : List AV → AH → Prop) (x3 x4 x5 : AV) (H : AH) (K : AV → AH → Prop) : salvorlaw12_ImageCount_c [true, true, true, false, true, false, false] 6 (expand (mk 49 0 [3, 4, 5]) [x3, x4, x5]) H (kLp (mk 49 0 [3, 4, 5]) R5 (kBlk 0 (kSeq (salvorlaw12_ImageCount_c [true, true, true, true] 9) (kRet Try.prog Try.f6.results.toList K)))) = salvorlaw12_ImageCount_L5_b R5 x3 x4 x5 H K := by kernel_rfl
theorem salvorlaw12_ImageCount_L5_rule {K : AV → AH → Prop} (I : Nat → AV → AV → AV → AH → Prop) (round : ∀ (n : Nat) (x3 x4 x5 : AV) (H : AH) (R : List AV → AH → Prop), (∀ (m : Nat) (y3 y4 y5 : AV) (H' : AH), m < n → I m y3 y4 y5 H' → R [y3, y4, y5] H') → I n x3 x4 x5 H → salvorlaw12_ImageCount_L5_b R x3 x4 x5 H K) (n : Nat) {x3 x4 x5 : AV} {H : AH} (h : I n x3 x4 x5 H) : salvorlaw12_ImageCount_L5 x3 x4 x5 H K := by
  refine lp_upto (sCode_one _ _) (LI3 I) ?_ n h
  intro n X H h
  obtain ⟨x3, x4, x5, rfl, h⟩ := h.elim
  exact Eq.mpr (salvorlaw12_ImageCount_L5_eq _ x3 x4 x5 H K) (round n x3 x4 x5 H (fun X H' => ∃ m, m < n ∧ LI3 I m X H') (fun m y3 y4 y5 H' hm hi => ⟨m, hm, hi⟩) h)
def salvorlaw12_ImageCount (a0 : AV) (H : AH) (K : AV → AH → Prop) : Prop :=
 bO (abI .rem a0 (.lit (.int .u8 30))) fun v0 =>
 bO (acI .i64 v0) fun v1 =>
 salvorlaw12_ImageCount_L5 (.lit (.slice none 0 0)) v1 (.lit (.int .i64 0)) H K
theorem salvorlaw12_ImageCount_eq (a0 : AV) (H : AH) (K : AV → AH → Prop) : sFun Try.prog salvorlaw12_ImageCount_fl pqc none0 none0 salvorlaw12_ImageCount_kp Try.f6 [a0] H K = salvorlaw12_ImageCount a0 H K := by kernel_rfl
theorem salvorlaw12_ImageCount_ok {a0 : AV} {H : AH} {K : AV → AH → Prop} (h : salvorlaw12_ImageCount a0 H K) : ∃ r H', K r H' ∧ BCall Try.prog 6 [a0] H r H' :=
  sFun_ok mixP Try.func6 (by kernel_rfl) (Eq.mpr (salvorlaw12_ImageCount_eq a0 H K) h)
/-! salvor/salvorlaw12.Few -/
def salvorlaw12_Few_fl : Floats := flOf []
def salvorlaw12_Few_kp : Nat → Option (List Bool) := kpOf [(7, mk 43 0 [1, 3, 4])]
def salvorlaw12_Few_c (p : List Bool) (n : Nat) : List AV → AH → Kf → Prop := sCode Try.prog salvorlaw12_Few_fl pqc none0 none0 salvorlaw12_Few_kp (sub p (bodyOf Try.f15)) n
def salvorlaw12_Few_L7 (x1 x3 x4 : AV) (H : AH) (K : AV → AH → Prop) : Prop := lp (mk 43 0 [1, 3, 4]) (salvorlaw12_Few_c [true, true, true, false, true, false, false] 8) [x1, x3, x4] H (kBlk 0 (kSeq (salvorlaw12_Few_c [true, true, true, true] 14) (kRet Try.prog Try.f15.results.toList K)))
def salvorlaw12_Few_L7_b (R7 : List AV → AH → Prop) (x1 x3 x4 : AV) (H : AH) (K : AV → AH → Prop) : Prop :=
 bO (ashift 1 x1) fun v0 =>
 bO (ald false 1 H v0) fun v1 =>
 bO (alnS v1) fun v2 =>
 bO (abI .lss x4 v2) fun v3 =>
 bB v3 fun t4 => bI t4 (
 bO (ashift 1 x1) fun v5 =>
 bO (ald false 1 H v5) fun v6 =>
 bO (aixS 3 v6 x4) fun v7 =>
 bO (ashift 1 v7) fun v8 =>
 bO (ashift 1 v8) fun v9 =>
 bO (ald false 1 H v9) fun v10 =>
 bO (alnS v10) fun v11 =>
 bO (abI .gtr v11 (.lit (.int .i64 60))) fun v12 =>
 bB v12 fun t13 => bI t13 (
 K (.lit (.bool false)) H)
 (bO (ashift 1 x1) fun v14 =>
 bO (ald false 1 H v14) fun v15 =>
 bO (aixS 3 v15 x4) fun v16 =>
 bO (ashift 1 v16) fun v17 =>
 bO (ashift 1 v17) fun v18 =>
 bO (ald false 1 H v18) fun v19 =>
 bO (alnS v19) fun v20 =>
 bO (abI .add x3 v20) fun v21 =>
 bO (abI .add x4 (.lit (.int .i64 1))) fun v22 =>
 R7 [x1, v21, v22] H))
 (bO (abI .leq x3 (.lit (.int .i64 300))) fun v23 =>
 K v23 H)
theorem salvorlaw12_Few_L7_eq (R7 : List AV → AH → Prop) (x1 x3 x4 : AV) (H : AH) (K : AV → AH → Prop) : salvorlaw12_Few_c [true, true, true, false, true, false, false] 8 (expand (mk 43 0 [1, 3, 4]) [x1, x3, x4]) H (kLp (mk 43 0 [1, 3, 4]) R7 (kBlk 0 (kSeq (salvorlaw12_Few_c [true, true, true, true] 14) (kRet Try.prog Try.f15.results.toList K)))) = salvorlaw12_Few_L7_b R7 x1 x3 x4 H K := by kernel_rfl
theorem salvorlaw12_Few_L7_rule {K : AV → AH → Prop} (I : Nat → AV → AV → AV → AH → Prop) (round : ∀ (n : Nat) (x1 x3 x4 : AV) (H : AH) (R : List AV → AH → Prop), (∀ (m : Nat) (y1 y3 y4 : AV) (H' : AH), m < n → I m y1 y3 y4 H' → R [y1, y3, y4] H') → I n x1 x3 x4 H → salvorlaw12_Few_L7_b R x1 x3 x4 H K) (n : Nat) {x1 x3 x4 : AV} {H : AH} (h : I n x1 x3 x4 H) : salvorlaw12_Few_L7 x1 x3 x4 H K := by
  refine lp_upto (sCode_one _ _) (LI3 I) ?_ n h
  intro n X H h
  obtain ⟨x1, x3, x4, rfl, h⟩ := h.elim
  exact Eq.mpr (salvorlaw12_Few_L7_eq _ x1 x3 x4 H K) (round n x1 x3 x4 H (fun X H' => ∃ m, m < n ∧ LI3 I m X H') (fun m y1 y3 y4 H' hm hi => ⟨m, hm, hi⟩) h)
def salvorlaw12_Few (a0 : AV) (H : AH) (K : AV → AH → Prop) : Prop :=
 bH (anew H a0) fun v0 H1 =>
 bO (ashift 0 v0) fun v2 =>
 bO (ald false 1 H1 v2) fun v3 =>
 bO (alnS v3) fun v4 =>
 bO (abI .gtr v4 (.lit (.int .i64 30))) fun v5 =>
 bG v5 false fun w6 =>
 gO w6 (ashift 1 v0) fun v7 =>
 bG v5 false fun w8 =>
 gO w8 (ald false 1 H1 v7) fun v9 =>
 bG v5 false fun w10 =>
 gO w10 (alnS v9) fun v11 =>
 bG v5 false fun w12 =>
 gO w12 (abI .gtr v11 (.lit (.int .i64 30))) fun v13 =>
 bO (apick v5 (.lit (.bool true)) v13) fun v14 =>
 bB v14 fun t15 => bI t15 (
 K (.lit (.bool false)) H1)
 (salvorlaw12_Few_L7 v0 (.lit (.int .i64 0)) (.lit (.int .i64 0)) H1 K)
theorem salvorlaw12_Few_eq (a0 : AV) (H : AH) (K : AV → AH → Prop) : sFun Try.prog salvorlaw12_Few_fl pqc none0 none0 salvorlaw12_Few_kp Try.f15 [a0] H K = salvorlaw12_Few a0 H K := by kernel_rfl
theorem salvorlaw12_Few_ok {a0 : AV} {H : AH} {K : AV → AH → Prop} (h : salvorlaw12_Few a0 H K) : ∃ r H', K r H' ∧ BCall Try.prog 15 [a0] H r H' :=
  sFun_ok mixP Try.func15 (by kernel_rfl) (Eq.mpr (salvorlaw12_Few_eq a0 H K) h)
end Go.Proofs.Ytpnfdibgfichmaa.Av
end
/-! YtpnfdibgfichmaaAvImL -/
section
/- Chapter 12's laws: what they are handed; few; the closed sentence. -/
set_option linter.unusedVariables false
set_option linter.unusedSimpArgs false
set_option maxRecDepth 100000
namespace Go.Proofs.Ytpnfdibgfichmaa.Av
open Go Go.RowKit

abbrev XN := ByteArray × (Int × Unit)
abbrev XD := Int × ((Int × ((Sl XE) × Unit)) × Unit)
abbrev XI := (Sl XN) × ((Sl XD) × Unit)
abbrev XO := Int × (Int × (Int × (Int × (Bool × (ByteArray × (ByteArray × ((Sl UInt8) × Unit)))))))
def xnm (x : XN) : Nm := ⟨x.1.data.toList, x.2.1⟩
def xnEnc (x : XN) : List AV := [AV.lit (.string x.1)] ++ ([AV.lit (.int .i64 x.2.1)] ++ [])
theorem bstr_data (s : ByteArray) : bstr s.data.toList = s := by cases s; simp [bstr]
theorem xnEnc_eq (x : XN) : xnEnc x = encN (xnm x) := by
  unfold xnEnc encN xnm
  rw [bstr_data]; rfl
def slA (enc : XE → List AV) (s : Sl XE) : AV := if s.nil then .lit (.slice none 0 0) else .imm (s.l.flatMap enc) s.l.length 9
def xdEnc (x : XD) : List AV := [AV.lit (.int .i64 x.1)] ++ (([AV.lit (.int .i64 x.2.1.1)] ++ ([slA xenc x.2.1.2.1] ++ [])) ++ [])
def sokE (s : Sl XE) : Prop := (s.nil = true → s.l = []) ∧ ∀ x ∈ s.l, x.2.1.length = 8
theorem xd_ex (x : XD) (h : sokE x.2.1.2.1) : ∃ d : NdV, encD d = xdEnc x := by
  obtain ⟨l, -, hl⟩ := cont_sv x.2.1.2.1 h.1 h.2
  exact ⟨⟨⟨x.1, x.2.1.1, l⟩, _, hl⟩, rfl⟩
theorem xds_ex : ∀ (l : List XD), (∀ x ∈ l, sokE x.2.1.2.1) → ∃ dv : List NdV, dv.length = l.length ∧ dv.flatMap encD = l.flatMap xdEnc
  | [], _ => ⟨[], rfl, rfl⟩
  | x :: l, h => by
    obtain ⟨d, hd⟩ := xd_ex x (h x (by simp))
    obtain ⟨dv, h1, h2⟩ := xds_ex l fun y hy => h y (by simp [hy])
    exact ⟨d :: dv, by simp [h1], by rw [List.flatMap_cons, List.flatMap_cons, hd, h2]⟩
/-- An image that is handed. -/
theorem img_sv (s : Sl XN) (t : Sl XD) (h1 : s.nil = true → s.l = []) (h2 : t.nil = true → t.l = []) (h3 : ∀ x ∈ t.l, sokE x.2.1.2.1) :
    ∃ ns ds, ImV ns ds (.agg [if s.nil then .lit (.slice none 0 0) else .imm (s.l.flatMap xnEnc) s.l.length 2, if t.nil then .lit (.slice none 0 0) else .imm (t.l.flatMap xdEnc) t.l.length 3]) ∧ ns = s.l.map xnm := by
  obtain ⟨l, nil⟩ := s
  obtain ⟨m, nilm⟩ := t
  simp only at h1 h2 h3 ⊢
  have ha : SV encN 2 (l.map xnm) (if nil = true then .lit (.slice none 0 0) else .imm (l.flatMap xnEnc) l.length 2) := by
    cases nil with
    | true => rw [h1 rfl]; exact SV.nil
    | false =>
      have e : l.flatMap xnEnc = (l.map xnm).flatMap encN := by
        rw [List.flatMap_map]
        exact congrArg (fun f => l.flatMap f) (funext xnEnc_eq)
      have := SV.imm (enc := encN) (sz := 2) (l := l.map xnm) encN_len (fun x _ => noIdss_encN x)
      rw [← e, List.length_map] at this
      exact this
  obtain ⟨dv, hb⟩ : ∃ dv : List NdV, SV encD 3 dv (if nilm = true then .lit (.slice none 0 0) else .imm (m.flatMap xdEnc) m.length 3) := by
    cases nilm with
    | true => exact ⟨[], SV.nil⟩
    | false =>
      obtain ⟨dv, e1, e2⟩ := xds_ex m h3
      refine ⟨dv, ?_⟩
      have := SV.imm (enc := encD) (sz := 3) (l := dv) encD_len (fun x _ => noIdss_encD x)
      rw [e1, e2] at this
      exact this
  exact ⟨_, _, ⟨_, _, dv, rfl, ha, hb, rfl⟩, rfl⟩
theorem bytes12_sv (s : Sl UInt8) (hn : s.nil = true → s.l = []) : SV encU 1 s.l (if s.nil then .lit (.slice none 0 0) else .imm (s.l.flatMap encU) s.l.length 1) := by
  obtain ⟨l, nil⟩ := s
  cases nil with
  | true =>
    have := hn rfl
    simp only at this
    subst this
    exact SV.nil
  | false => exact SV.imm encU_len (fun x _ => rfl)
/-! few -/
def FewI (ns : List Nm) (ds : List Nd) : Prop := ns.length ≤ 30 ∧ ds.length ≤ 30 ∧ (∀ d ∈ ds, d.l.length ≤ 60) ∧ sumL ds ≤ 300
instance (ns : List Nm) (ds : List Nd) : Decidable (FewI ns ds) := by unfold FewI; infer_instance
theorem law12_Few_p {ns : List Nm} {ds : List Nd} {v : AV} (hv : ImV ns ds v) : BPure Try.prog 15 [v] (B (decide (FewI ns ds))) := BPure.val hv.noIds rfl (salvorlaw12_Few_ok (by
  obtain ⟨a, b, dv, rfl, sa, sb, rfl⟩ := hv
  have oa := SV.oneA sa
  have ob := SV.oneA sb
  unfold salvorlaw12_Few
  simp [oa, ob, sa.len]
  by_cases c1 : ns.length ≤ 30
  · have c1' : ¬ (30 : Int) < ns.length := by omega
    simp [c1', sb.len]
    by_cases c2 : dv.length ≤ 30
    · have c2' : ¬ (30 : Int) < dv.length := by omega
      simp [c2']
      refine salvorlaw12_Few_L7_rule (fun n x1 x3 x4 H' => ∃ k : Nat, k + n = dv.length ∧ x1 = .ptr 0 0 ∧ x3 = I (sumL ((dv.map NdV.nd).take k)) ∧ x4 = I k ∧ H' = [some (.cells [a, b])] ∧ ∀ m d, m < k → dv[m]? = some d → d.nd.l.length ≤ 60) ?_ dv.length ⟨0, by omega, rfl, rfl, rfl, rfl, by omega⟩
      rintro n x1 x3 x4 H' R hR ⟨k, hk, rfl, rfl, rfl, rfl, hall⟩
      unfold salvorlaw12_Few_L7_b
      rcases Nat.lt_or_ge k dv.length with h | h
      · have hx := List.getElem?_eq_getElem h
        generalize dv[k] = d at hx
        have hx2 : (dv.map NdV.nd)[k]? = some d.nd := by rw [List.getElem?_map, hx]; rfl
        have ei := sb.idx encD_len hx rfl
        by_cases c3 : d.nd.l.length ≤ 60
        · have c3' : ¬ (60 : Int) < d.nd.l.length := by omega
          have hs : sumL ((dv.map NdV.nd).take k) ≤ 1800 := by
            have := sumL_le (N := 60) (ds := (dv.map NdV.nd).take k) (by
              intro y hy
              obtain ⟨m, hm⟩ := List.mem_iff_getElem?.1 hy
              rw [List.getElem?_take] at hm
              split at hm
              · rename_i hmk
                obtain ⟨z, hz, rfl⟩ := getElem?_map_nd hm
                exact hall m z hmk hz
              · cases hm)
            have l2 : ((dv.map NdV.nd).take k).length ≤ 30 := by simp; omega
            have := Nat.mul_le_mul_right 60 l2
            omega
          simp [h, sb.len, ei, encD_2, d.h.len, c3', abI_add (a := k) (b := 1) (by omega) (by omega), abI_add (a := (sumL (List.take k (dv.map NdV.nd)) : Int)) (b := d.nd.l.length) (by omega) (by omega)]
          exact hR (n - 1) _ _ _ _ (by omega) ⟨k + 1, by omega, rfl, by rw [take_snoc hx2, sumL_snoc]; simp, by simp, rfl, fun m y hm hy => by
            by_cases c : m = k
            · rw [c, hx] at hy; injection hy with hy; rw [← hy]; exact c3
            · exact hall m y (by omega) hy⟩
        · have c3' : (60 : Int) < d.nd.l.length := by omega
          have : ¬ FewI ns (dv.map NdV.nd) := fun hf => c3 (hf.2.2.1 d.nd (List.mem_of_getElem? hx2))
          simp [h, sb.len, ei, encD_2, d.h.len, c3', this]
      · have e : (dv.map NdV.nd).take k = dv.map NdV.nd := List.take_of_length_le (by simp; omega)
        have : FewI ns (dv.map NdV.nd) ↔ ((sumL (dv.map NdV.nd) : Nat) : Int) ≤ 300 := by
          constructor
          · intro hf; have := hf.2.2.2; omega
          · intro hf
            refine ⟨c1, by simpa using c2, fun d hd => ?_, by omega⟩
            obtain ⟨m, hm⟩ := List.mem_iff_getElem?.1 hd
            obtain ⟨z, hz, rfl⟩ := getElem?_map_nd hm
            have := (List.getElem?_eq_some_iff.1 hz).1
            exact hall m z (by omega) hz
        simp [sb.len, show ¬ k < dv.length by omega, e, this]
    · have c2' : (30 : Int) < dv.length := by omega
      have : ¬ FewI ns (dv.map NdV.nd) := fun hf => c2 (by simpa using hf.2.1)
      simp [c2', this]
  · have c1' : (30 : Int) < ns.length := by omega
    have : ¬ FewI ns (dv.map NdV.nd) := fun hf => c1 hf.1
    simp [c1', this]))
theorem FewI.sm {ns : List Nm} {ds : List Nd} (h : FewI ns ds) (hn : ∀ x ∈ ns, x.name.length ≤ 9223372036854775807) : Sm ns ds :=
  ⟨by have := h.1; omega, by have := h.2.1; omega, hn, fun d hd => by have := h.2.2.1 d hd; omega⟩
theorem imageRuns_ran : isTrue (run Try.prog cmpExt (inL []) (inL []) 100000 100 3 [] []) = true := by kernel_rfl
theorem imageRuns_p : BPure Try.prog 3 [] (B true) := .of_true (run_true cmpExt_ok imageRuns_ran)
end Go.Proofs.Ytpnfdibgfichmaa.Av
end
/-! YtpnfdibgfichmaaAvIh -/
section
/- Chapter 12: images that are changed: a name or a file more, or less. -/
set_option linter.unusedVariables false
set_option linter.unusedSimpArgs false
set_option maxRecDepth 100000
namespace Go.Proofs.Ytpnfdibgfichmaa.Av
open Go Go.RowKit

/-- An element of a slice of one's own. -/
theorem own_at {α : Type} {enc : α → List AV} {sz : Nat} (hsz : ∀ x, (enc x).length = sz) (h0 : 0 < sz) {H : AH} {v : AV} {l : List α} {k : Nat} {x : α} (hs : sliceCells H sz v = some (l.flatMap enc, l.length)) (ho : ownedS v = true) (hx : l[k]? = some x) :
    ∃ o off cells, aixS sz v (I k) = some (.ptr o off) ∧ o ∈ idS v ∧ H[o]? = some (some (.cells cells)) ∧ off + sz ≤ cells.length ∧ (∀ j, j < sz → cells[off + j]? = (enc x)[j]?) ∧
      ∀ y q xs, enc y = over (enc x) q xs → q + xs.length ≤ sz → sliceCells (H.set o (some (.cells (splice cells (off + q) xs)))) sz v = some ((l.set k y).flatMap enc, l.length) := by
  have hk := (List.getElem?_eq_some_iff.1 hx).1
  obtain ⟨o, off, cap, cells, rfl, h1, h2, h3⟩ := owned_sl hs ho (by omega)
  have hol := (List.getElem?_eq_some_iff.1 h1).1
  have hmul : (k + 1) * sz ≤ l.length * sz := Nat.mul_le_mul_right _ (by omega)
  have hms : (k + 1) * sz = k * sz + sz := Nat.succ_mul _ _
  refine ⟨o, off + k * sz, cells, ?_, by simp [idS], h1, by omega, fun j hj => ?_, fun y q xs hy hq => ?_⟩
  · simp [aixS, aint]
    omega
  · have e : (l.flatMap enc)[k * sz + j]? = cells[off + k * sz + j]? := by
      rw [h3, List.getElem?_take, if_pos (by omega), List.getElem?_drop]; congr 1; omega
    rw [← e]
    have e2 := flat_drop hsz l k
    have e3 : (l.flatMap enc)[k * sz + j]? = ((l.flatMap enc).drop (k * sz))[j]? := by rw [List.getElem?_drop]
    rw [e3, e2, List.drop_eq_getElem_cons hk, (List.getElem?_eq_some_iff.1 hx).2, List.flatMap_cons, List.getElem?_append_left (by rw [hsz]; exact hj)]
  · have hxs : off + k * sz + q + xs.length ≤ cells.length := by omega
    rw [splice_eq _ _ _ hxs]
    show sliceCells (H.set o (some (.cells (over cells (off + k * sz + q) xs)))) sz _ = _
    rw [Nat.add_assoc, sliceCells_sl (c := over cells (off + (k * sz + q)) xs) (by simp [hol]) (by rw [over_len (by omega)]; exact h2)]
    rw [over_part h2 (by omega), ← h3, over_flat hsz hx hy hq]
theorem size_nm (w : World) : (Go.sizeOf 57).run Try.prog w = .ok 2 w := run_sizeOf (by kernel_rfl)
theorem size_nd (w : World) : (Go.sizeOf 67).run Try.prog w = .ok 3 w := run_sizeOf (by kernel_rfl)
theorem ov_nm {H : AH} {oa offa la ea ka ob offb lb eb kb : Nat} {ca cb : List AV} (ha : H[oa]? = some (some (.cells ca))) (hbo : H[ob]? = some (some (.cells cb))) (hne : oa ≠ ob) (hka : ka ≠ 0) (hkb : kb ≠ 0) (hcb : cb ≠ []) :
    ExtR Try.prog 85 [.sl oa offa la ea (.ex ka), .sl ob offb lb eb (.ex kb)] H (B false) :=
  ExtR.apart (tS := 22) (tR := 4) (fn := Try.f85) (by kernel_rfl) (by kernel_rfl) (by kernel_rfl) (by kernel_rfl) (by kernel_rfl) (by kernel_rfl) size_nm ha hbo hne hka hkb hcb
theorem ov_nd {H : AH} {oa offa la ea ka ob offb lb eb kb : Nat} {ca cb : List AV} (ha : H[oa]? = some (some (.cells ca))) (hbo : H[ob]? = some (some (.cells cb))) (hne : oa ≠ ob) (hka : ka ≠ 0) (hkb : kb ≠ 0) (hcb : cb ≠ []) :
    ExtR Try.prog 87 [.sl oa offa la ea (.ex ka), .sl ob offb lb eb (.ex kb)] H (B false) :=
  ExtR.apart (tS := 23) (tR := 4) (fn := Try.f87) (by kernel_rfl) (by kernel_rfl) (by kernel_rfl) (by kernel_rfl) (by kernel_rfl) (by kernel_rfl) size_nd ha hbo hne hka hkb hcb
def zN : List AV := [S ⟨#[]⟩, I 0]
def zD : List AV := [I 0, I 0, nilSl]
theorem insN_c {H : AH} {s : AV} {l : List Nm} {i oj : Nat} {x : Nm} (hs : sliceCells H 2 s = some (l.flatMap encN, l.length)) (ho : ownedS s = true) (hc : capOk s l.length) (hi : i ≤ l.length) (hn : l.length ≤ 1000000) (hv : H[oj]? = some (some (.cells (encN x)))) (hne : oj ∉ idS s) :
    ∃ r H', InsG 2 H s ((l.take i ++ x :: l.drop i).flatMap encN) l.length r H' ∧ BCall Try.prog 69 [s, I i, .sl oj 0 1 2 (.ex 1)] H r H' := by
  have := ins_ok (P := Try.prog) (sz := 2) (bytes := 24) (zc := zN) (f := 69) (ov := 85) (rot := 86) (by omega) rfl
    (fun a0 a1 a2 H K h => slices_Insert_Lapi_Name_api_Name_ok h) hs ho hc hi hn (by omega) hv (encN_len x) hne (fun m => by simp [encN, Bels, Bel]) (fun h1 h2 h3 h4 => ov_nm hv h1 h2 (by omega) h3 h4)
  rwa [flat_take encN_len, flat_drop encN_len, List.append_assoc, show encN x ++ (l.drop i).flatMap encN = (x :: l.drop i).flatMap encN from rfl, ← List.flatMap_append] at this
theorem insD_c {H : AH} {s : AV} {l : List NdV} {i oj : Nat} {x : NdV} (hs : sliceCells H 3 s = some (l.flatMap encD, l.length)) (ho : ownedS s = true) (hc : capOk s l.length) (hi : i ≤ l.length) (hn : l.length ≤ 1000000) (hv : H[oj]? = some (some (.cells (encD x)))) (hne : oj ∉ idS s) :
    ∃ r H', InsG 3 H s ((l.take i ++ x :: l.drop i).flatMap encD) l.length r H' ∧ BCall Try.prog 70 [s, I i, .sl oj 0 1 3 (.ex 1)] H r H' := by
  have := ins_ok (P := Try.prog) (sz := 3) (bytes := 40) (zc := zD) (f := 70) (ov := 87) (rot := 88) (by omega) rfl
    (fun a0 a1 a2 H K h => slices_Insert_Lapi_Node_api_Node_ok h) hs ho hc hi hn (by omega) hv (encD_len x) hne (fun m => noIdss_belG (noIdss_encD x)) (fun h1 h2 h3 h4 => ov_nd hv h1 h2 (by omega) h3 h4)
  rwa [flat_take encD_len, flat_drop encD_len, List.append_assoc, show encD x ++ (l.drop i).flatMap encD = (x :: l.drop i).flatMap encD from rfl, ← List.flatMap_append] at this
theorem delN_c {H : AH} {s : AV} {l : List Nm} {i : Nat} (hs : sliceCells H 2 s = some (l.flatMap encN, l.length)) (ho : ownedS s = true) (hc : capOk s l.length) (hi : i < l.length) (hn : l.length ≤ 1000000) :
    ∃ r H', DelG 2 H s ((l.take i ++ l.drop (i + 1)).flatMap encN) (l.length - 1) r H' ∧ BCall Try.prog 75 [s, I i, I ((i : Int) + 1)] H r H' := by
  obtain ⟨m, hm⟩ : ∃ m, l.length = m + 1 := ⟨l.length - 1, by omega⟩
  rw [hm] at hs hc
  obtain ⟨r, H', h1, h2⟩ := del_ok (sz := 2) (bytes := 24) (zc := zN) (by omega) rfl hs ho hc (show i ≤ m by omega) (by omega) (by omega)
  have h2' : slices_Delete_Lapi_Name_api_Name s (I i) (I ((i : Int) + 1)) H fun r' H'' => r' = r ∧ H'' = H' := h2
  obtain ⟨r2, H2, ⟨rfl, rfl⟩, h3⟩ := slices_Delete_Lapi_Name_api_Name_ok h2'
  rw [flat_take encN_len, flat_drop encN_len, ← List.flatMap_append] at h1
  exact ⟨_, _, by rw [hm]; exact h1, h3⟩
theorem delD_c {H : AH} {s : AV} {l : List NdV} {i : Nat} (hs : sliceCells H 3 s = some (l.flatMap encD, l.length)) (ho : ownedS s = true) (hc : capOk s l.length) (hi : i < l.length) (hn : l.length ≤ 1000000) :
    ∃ r H', DelG 3 H s ((l.take i ++ l.drop (i + 1)).flatMap encD) (l.length - 1) r H' ∧ BCall Try.prog 76 [s, I i, I ((i : Int) + 1)] H r H' := by
  obtain ⟨m, hm⟩ : ∃ m, l.length = m + 1 := ⟨l.length - 1, by omega⟩
  rw [hm] at hs hc
  obtain ⟨r, H', h1, h2⟩ := del_ok (sz := 3) (bytes := 40) (zc := zD) (by omega) rfl hs ho hc (show i ≤ m by omega) (by omega) (by omega)
  have h2' : slices_Delete_Lapi_Node_api_Node s (I i) (I ((i : Int) + 1)) H fun r' H'' => r' = r ∧ H'' = H' := h2
  obtain ⟨r2, H2, ⟨rfl, rfl⟩, h3⟩ := slices_Delete_Lapi_Node_api_Node_ok h2'
  rw [flat_take encD_len, flat_drop encD_len, ← List.flatMap_append] at h1
  exact ⟨_, _, by rw [hm]; exact h1, h3⟩
/-! an image of one's own -/
structure ImH (L oi : Nat) (ns : List Nm) (dv : List NdV) (a b : AV) (H : AH) : Prop where
  obj : H[oi]? = some (some (.cells [a, b]))
  lo : oi ∉ idS a ∧ oi ∉ idS b
  len : L ≤ H.length
  sa : sliceCells H 2 a = some (ns.flatMap encN, ns.length)
  oa : ownedS a = true
  ca : capOk a ns.length
  ia : ∀ i ∈ idS a, L ≤ i
  sb : sliceCells H 3 b = some (dv.flatMap encD, dv.length)
  ob : ownedS b = true
  cb : capOk b dv.length
  ib : ∀ i ∈ idS b, L ≤ i
  ab : ∀ i ∈ idS a, i ∉ idS b
/-- What lies below stays, but for one object. -/
def FrL (L oi : Nat) (H H' : AH) : Prop := H.length ≤ H'.length ∧ ∀ j, j < L → j ≠ oi → H'[j]? = H[j]?
theorem FrL.refl (L oi : Nat) (H : AH) : FrL L oi H H := ⟨Nat.le_refl _, fun _ _ _ => rfl⟩
theorem FrL.trans {L oi : Nat} {A B C : AH} (h : FrL L oi A B) (k : FrL L oi B C) : FrL L oi A C := ⟨Nat.le_trans h.1 k.1, fun j h1 h2 => (k.2 j h1 h2).trans (h.2 j h1 h2)⟩
theorem ImH.noA {L oi : Nat} {ns : List Nm} {dv : List NdV} {a b : AV} {H : AH} (h : ImH L oi ns dv a b H) : oi ∉ idS a := h.lo.1
theorem ImH.noB {L oi : Nat} {ns : List Nm} {dv : List NdV} {a b : AV} {H : AH} (h : ImH L oi ns dv a b H) : oi ∉ idS b := h.lo.2
/-- An image of one's own, lent. -/
theorem ImH.lend {L oi : Nat} {ns : List Nm} {dv : List NdV} {a b : AV} {H : AH} (h : ImH L oi ns dv a b H) : ∃ Ra Rb, SV encN 2 ns Ra ∧ SV encD 3 dv Rb ∧ FZ H (.agg [a, b]) (.agg [Ra, Rb]) := by
  obtain ⟨Ra, h1, f1⟩ := FZ.sv h.sa (noIdss_flat fun x _ => noIdss_encN x)
  obtain ⟨Rb, h2, f2⟩ := FZ.sv h.sb (noIdss_flat fun x _ => noIdss_encD x)
  exact ⟨Ra, Rb, h1, h2, FZ.agg (FZs.cons f1 (FZs.cons f2 FZs.nil))⟩
theorem ImH.grew {L oi : Nat} {ns : List Nm} {dv : List NdV} {a b : AV} {H H' : AH} (h : ImH L oi ns dv a b H) (g : Grew H H') : ImH L oi ns dv a b H' :=
  ⟨g.cells h.obj, h.lo, Nat.le_trans h.len g.1, g.slice h.sa, h.oa, h.ca, h.ia, g.slice h.sb, h.ob, h.cb, h.ib, h.ab⟩
/-- New names are stored. -/
theorem ImH.newA {L oi : Nat} {ns ms : List Nm} {dv : List NdV} {a b r : AV} {H H' : AH} (h : ImH L oi ns dv a b H) (hl : H.length ≤ H'.length) (hk : ∀ i, i < H.length → i ∉ idS a → H'[i]? = H[i]?) (h1 : sliceCells H' 2 r = some (ms.flatMap encN, ms.length)) (h2 : ownedS r = true) (h3 : capOk r ms.length) (h4 : ∀ i ∈ idS r, i ∈ idS a ∨ H.length ≤ i) :
    ∃ H2, ast 1 H' (.ptr oi 0) r = some H2 ∧ ImH L oi ms dv r b H2 ∧ FrL L oi H H2 := by
  have c0 : H'[oi]? = some (some (.cells [a, b])) := by rw [hk oi (List.getElem?_eq_some_iff.1 h.obj).1 h.noA]; exact h.obj
  have hr := oneA_owned h2
  have hol1 := (List.getElem?_eq_some_iff.1 h.obj).1
  have nro : oi ∉ idS r := fun q => (h4 oi q).elim h.noA (fun q => by omega)
  have hle := h.len
  have hol := (List.getElem?_eq_some_iff.1 c0).1
  have nr : ∀ i ∈ idS r, L ≤ i := fun i hi => (h4 i hi).elim (h.ia i) (fun q => by omega)
  refine ⟨H'.set oi (some (.cells [r, b])), ?_, ⟨by simp [hol], ⟨nro, h.noB⟩, by simp; omega, ?_, h2, h3, nr, ?_, h.ob, h.cb, h.ib, fun i hi hb => ?_⟩, ⟨by simp; omega, fun j h5 h6 => ?_⟩⟩
  · rw [ast_ptr (n := 1) (off := 0) (xs := [r]) (cs := [a, b]) (cellsA_one hr) c0 rfl (by simp)]; rfl
  · exact sliceCells_keep h1 fun i hi => List.getElem?_set_ne (fun (e : oi = i) => nro (e ▸ hi))
  · refine sliceCells_keep h.sb fun i hi => ?_
    rw [List.getElem?_set_ne (fun (e : oi = i) => h.noB (e ▸ hi))]
    exact hk i (sliceCells_lt h.sb i hi) fun q => h.ab i q hi
  · rcases h4 i hi with q | q
    · exact h.ab i q hb
    · have := sliceCells_lt h.sb i hb; omega
  · rw [List.getElem?_set_ne (by omega)]
    exact hk j (by omega) fun q => by have := h.ia j q; omega
/-- New files are stored. -/
theorem ImH.newB {L oi : Nat} {ns : List Nm} {dv ew : List NdV} {a b r : AV} {H H' : AH} (h : ImH L oi ns dv a b H) (hl : H.length ≤ H'.length) (hk : ∀ i, i < H.length → i ∉ idS b → H'[i]? = H[i]?) (h1 : sliceCells H' 3 r = some (ew.flatMap encD, ew.length)) (h2 : ownedS r = true) (h3 : capOk r ew.length) (h4 : ∀ i ∈ idS r, i ∈ idS b ∨ H.length ≤ i) :
    ∃ H2, ast 1 H' (.ptr oi 1) r = some H2 ∧ ImH L oi ns ew a r H2 ∧ FrL L oi H H2 := by
  have c0 : H'[oi]? = some (some (.cells [a, b])) := by rw [hk oi (List.getElem?_eq_some_iff.1 h.obj).1 h.noB]; exact h.obj
  have hr := oneA_owned h2
  have hol1 := (List.getElem?_eq_some_iff.1 h.obj).1
  have nro : oi ∉ idS r := fun q => (h4 oi q).elim h.noB (fun q => by omega)
  have hle := h.len
  have hol := (List.getElem?_eq_some_iff.1 c0).1
  have nr : ∀ i ∈ idS r, L ≤ i := fun i hi => (h4 i hi).elim (h.ib i) (fun q => by omega)
  refine ⟨H'.set oi (some (.cells [a, r])), ?_, ⟨by simp [hol], ⟨h.noA, nro⟩, by simp; omega, ?_, h.oa, h.ca, h.ia, ?_, h2, h3, nr, fun i ha hi => ?_⟩, ⟨by simp; omega, fun j h5 h6 => ?_⟩⟩
  · rw [ast_ptr (n := 1) (off := 1) (xs := [r]) (cs := [a, b]) (cellsA_one hr) c0 rfl (by simp)]; rfl
  · refine sliceCells_keep h.sa fun i hi => ?_
    rw [List.getElem?_set_ne (fun (e : oi = i) => h.noA (e ▸ hi))]
    exact hk i (sliceCells_lt h.sa i hi) fun q => h.ab i hi q
  · exact sliceCells_keep h1 fun i hi => List.getElem?_set_ne (fun (e : oi = i) => nro (e ▸ hi))
  · rcases h4 i hi with q | q
    · exact h.ab i ha q
    · have := sliceCells_lt h.sa i ha; omega
  · rw [List.getElem?_set_ne (by omega)]
    exact hk j (by omega) fun q => by have := h.ib j q; omega
end Go.Proofs.Ytpnfdibgfichmaa.Av
end
/-! YtpnfdibgfichmaaAvDr -/
section
/- A region in whatever order is drawn, told operation by operation. -/
set_option linter.unusedVariables false
set_option linter.unusedSimpArgs false
namespace Go.Proofs.Ytpnfdibgfichmaa.Av
open Go Go.RowKit
section
variable {P : Program}
/-- Operation i of a region: those of 'need' are done ahead of it; it comes to K where F holds. -/
def OpIs (P : Program) (ops : List Oper) (T : List AV) (i : Nat) (need : List Nat) (F : (Nat → AV) → AH → (AV → AH → Prop) → Prop) : Prop :=
  ∃ o, ops[i]? = some o ∧ o.guard = none ∧ (∀ j ∈ need, ∃ e ∈ o.after, Region.binds .any e = true ∧ e.on = j) ∧ ∀ vals H K, F vals H K → AStep P (pt ops vals (fun _ => true) T i) H o K
def needsB (o : Oper) (need : List Nat) : Bool := need.all fun j => o.after.toList.any fun e => Region.binds .any e && Nat.beq e.on j
theorem needsB_ok {o : Oper} {need : List Nat} (h : needsB o need = true) : ∀ j ∈ need, ∃ e ∈ o.after, Region.binds .any e = true ∧ e.on = j := by
  intro j hj
  have := List.all_eq_true.1 h j hj
  obtain ⟨e, he, hb⟩ := List.any_eq_true.1 this
  simp only [Bool.and_eq_true] at hb
  exact ⟨e, by simpa using he, hb.1, Nat.eq_of_beq_eq_true hb.2⟩
theorem OpIs.op {ql : FuncId → Bool} {ops : List Oper} {T : List AV} {i : Nat} {need : List Nat} {F : (Nat → AV) → AH → (AV → AH → Prop) → Prop} (o : Oper) (ho : ops[i]? = some o) (hg : o.guard = none) (hn : needsB o need = true) (hb : isBS o.op = false) (hc : ∀ ρ, acall ρ o = none)
    (hF : ∀ vals H K, F vals H K → sOp P ql none0 false (aeval (pt ops vals (fun _ => true) T i)) H o true K) : OpIs P ops T i need F := by
  refine ⟨o, ho, hg, needsB_ok hn, fun vals H K h => ?_⟩
  obtain ⟨r, H', h1, h2, -⟩ := sOp_one (hF vals H K h)
  rcases h2 with ⟨-, h2 | ⟨h2, h3⟩⟩ | ⟨h2, -⟩
  · rw [opD_aop hb] at h2
    exact .inl ⟨r, H', h2, h1⟩
  · exfalso
    unfold wCall at h3
    rw [hc] at h3; exact h3
  · cases h2
theorem OpIs.call {ops : List Oper} {T : List AV} {i : Nat} {need : List Nat} {F : (Nat → AV) → AH → (AV → AH → Prop) → Prop} (o : Oper) (ho : ops[i]? = some o) (hg : o.guard = none) (hn : needsB o need = true) (k : FuncId) (args : (Nat → AV) → List AV) (hk : goFunc P k = true)
    (hc : ∀ vals, acall (aeval (pt ops vals (fun _ => true) T i)) o = some (k, args vals)) (hF : ∀ vals H K, F vals H K → ACalls P k (args vals) H K) : OpIs P ops T i need F :=
  ⟨o, ho, hg, needsB_ok hn, fun vals H K h => .inr (.inr ⟨k, args vals, hc vals, hk, hF vals H K h⟩)⟩
def valUp (vals : Nat → AV) (i : Nat) (r : AV) : Nat → AV := fun j => if j = i then r else vals j
theorem ACode.told {id : Nat} {ops : List Oper} {Q : AQ} {T : List AV} {H : AH} (hm : P.follows .mixedOrders = true) (hk : ordOk ops = true) (Inv : AH → (Nat → AV) → (Nat → Bool) → Prop) (v0 : Nat → AV) (h0 : Inv H v0 (fun _ => false))
    (hs : ∀ i, i < ops.length → ∃ need F, OpIs P ops T i need F ∧ ∀ (S : Nat → Bool) Hc vals, S i = false → (∀ j ∈ need, S j = true) → Inv Hc vals S → F vals Hc fun r H' => Inv H' (valUp vals i r) (upd S i))
    (last : ∀ Hc vals S, (∀ j, j < ops.length → S j = true) → Inv Hc vals S → Q .normal (pt ops vals (fun _ => true) T ops.length) Hc) : ACode P (.region id ops.toArray true) Q T H := by
  refine ACode.drawn hm hk (Ω := AH × (Nat → AV)) (fun ω S => Inv ω.1 ω.2 S) (fun ω => ω.2) (fun ω _ => ω.1) (H, v0) h0 rfl ?_ (fun ω S hS hI => last ω.1 ω.2 S hS hI)
  intro ω S i o hr hI
  obtain ⟨ho, hcl, hSi, haft⟩ := hr
  obtain ⟨need, F, ⟨o', ho', hg, hn, hF⟩, hstep⟩ := hs i (List.getElem?_eq_some_iff.1 ho).1
  rw [ho] at ho'
  injection ho' with ho'
  subst ho'
  refine ⟨true, by unfold awanted; rw [hg], fun _ => ?_, fun h => by cases h⟩
  have h1 := hF ω.2 ω.1 _ (hstep S ω.1 ω.2 hSi (fun j hj => by
    obtain ⟨e, he, hb, rfl⟩ := hn j hj
    exact haft e he hb) hI)
  have conv : ∀ r H', Inv H' (valUp ω.2 i r) (upd S i) → ∃ ω' : AH × (Nat → AV), Inv ω'.1 ω'.2 (upd S i) ∧ (∀ j, S j = true → ω'.2 j = ω.2 j) ∧ ω'.2 i = r ∧ ω'.1 = H' := by
    intro r H' h
    refine ⟨(H', valUp ω.2 i r), h, fun j hj => ?_, by simp [valUp], rfl⟩
    have : j ≠ i := by rintro rfl; rw [hSi] at hj; cases hj
    simp [valUp, this]
  rcases h1 with ⟨r, H', h2, h3⟩ | ⟨r, h2, h3⟩ | ⟨k, args, h2, h3, h4⟩
  · exact .inl ⟨r, H', h2, conv _ _ h3⟩
  · exact .inr (.inl ⟨r, h2, conv _ _ h3⟩)
  · exact .inr (.inr ⟨k, args, h2, h3, h4.mono conv⟩)
end
end Go.Proofs.Ytpnfdibgfichmaa.Av
end
/-! YtpnfdibgfichmaaAvDo -/
section
/- A drawn region whose operations' answers are told ahead. -/
set_option linter.unusedVariables false
set_option linter.unusedSimpArgs false
namespace Go.Proofs.Ytpnfdibgfichmaa.Av
open Go Go.RowKit
section
variable {P : Program}
theorem OpIs.opB {ql : FuncId → Bool} {ops : List Oper} {T : List AV} {i : Nat} {need : List Nat} {F : (Nat → AV) → AH → (AV → AH → Prop) → Prop} (o : Oper) (ho : ops[i]? = some o) (hg : o.guard = none) (hn : needsB o need = true) (hc : ∀ ρ, acall ρ o = none)
    (hF : ∀ vals H K, F vals H K → sOp P ql none0 false (aeval (pt ops vals (fun _ => true) T i)) H o true K) : OpIs P ops T i need F := by
  refine ⟨o, ho, hg, needsB_ok hn, fun vals H K h => ?_⟩
  obtain ⟨r, H', h1, h2, -⟩ := sOp_one (hF vals H K h)
  rcases h2 with ⟨-, h2 | ⟨h2, h3⟩⟩ | ⟨h2, -⟩
  · have e : opD P false (aeval (pt ops vals (fun _ => true) T i)) H o = aop P (aeval (pt ops vals (fun _ => true) T i)) H o := by unfold opD; simp
    rw [e] at h2
    exact .inl ⟨r, H', h2, h1⟩
  · exfalso
    unfold wCall at h3
    rw [hc] at h3; exact h3
  · cases h2
/-- Each operation's answer is V; the heap is hp of what is done. -/
theorem ACode.told2 {id : Nat} {ops : List Oper} {Q : AQ} {T : List AV} {H : AH} (hm : P.follows .mixedOrders = true) (hk : ordOk ops = true) (need : Nat → List Nat) (F : Nat → (Nat → AV) → AH → (AV → AH → Prop) → Prop) (V : Nat → AV) (hp : (Nat → Bool) → AH)
    (ho : ∀ i, i < ops.length → OpIs P ops T i (need i) (F i)) (h0 : hp (fun _ => false) = H)
    (hs : ∀ i, i < ops.length → ∀ (S : Nat → Bool) vals, S i = false → (∀ a, S a = true → ∀ b ∈ need a, S b = true) → (∀ j ∈ need i, S j = true ∧ vals j = V j) → F i vals (hp S) fun r H' => r = V i ∧ H' = hp (upd S i))
    (last : ∀ (S : Nat → Bool) vals, (∀ j, j < ops.length → S j = true ∧ vals j = V j) → Q .normal (pt ops vals (fun _ => true) T ops.length) (hp S)) : ACode P (.region id ops.toArray true) Q T H := by
  refine ACode.told hm hk (fun Hc vals S => Hc = hp S ∧ (∀ j, S j = true → vals j = V j) ∧ ∀ a, S a = true → ∀ b ∈ need a, S b = true) (fun _ => undefA) ⟨h0.symm, by simp, by simp⟩ ?_ ?_
  · intro i hi
    obtain ⟨o, h1, h2, h3, h4⟩ := ho i hi
    -- whatever F tells for one K, it tells for a greater one
    refine ⟨need i, fun vals Hc K => ∃ S, Hc = hp S ∧ S i = false ∧ (∀ a, S a = true → ∀ b ∈ need a, S b = true) ∧ (∀ j ∈ need i, S j = true ∧ vals j = V j) ∧ K (V i) (hp (upd S i)), ⟨o, h1, h2, h3, ?_⟩, ?_⟩
    · rintro vals Hc K ⟨S, rfl, hS, hcl, hn, hK⟩
      have := h4 vals (hp S) _ (hs i hi S vals hS hcl hn)
      rcases this with ⟨r, H', a1, rfl, rfl⟩ | ⟨r, a1, rfl, a2⟩ | ⟨k, args, a1, a2, a3⟩
      · exact .inl ⟨_, _, a1, hK⟩
      · exact .inr (.inl ⟨_, a1, by rw [a2]; exact hK⟩)
      · exact .inr (.inr ⟨k, args, a1, a2, a3.mono (by rintro r H' ⟨rfl, rfl⟩; exact hK)⟩)
    · rintro S Hc vals hSi hn ⟨rfl, hv, hcl⟩
      refine ⟨S, rfl, hSi, hcl, fun j hj => ⟨hn j hj, hv j (hn j hj)⟩, rfl, fun j hj => ?_, fun a ha b hb => ?_⟩
      · unfold valUp
        by_cases c : j = i
        · rw [if_pos c, c]
        · rw [if_neg c]
          unfold upd at hj
          rw [if_neg c] at hj
          exact hv j hj
      · unfold upd at ha ⊢
        by_cases c : b = i
        · rw [if_pos c]
        · rw [if_neg c]
          by_cases c2 : a = i
          · subst c2; exact hn b hb
          · rw [if_neg c2] at ha; exact hcl a ha b hb
  · rintro Hc vals S hS ⟨rfl, h1, h2⟩
    exact last S vals fun j hj => ⟨hS j hj, h1 j (hS j hj)⟩
end
end Go.Proofs.Ytpnfdibgfichmaa.Av
end
/-! YtpnfdibgfichmaaAvIu -/
section
/- Chapter 12: the two drawn regions that make a file, told operation by operation (printed by opis.py). -/
set_option linter.unusedVariables false
set_option linter.unusedSimpArgs false
set_option maxRecDepth 100000
namespace Go.Proofs.Ytpnfdibgfichmaa.Av
open Go Go.RowKit
noncomputable def crNOps : List Oper := (opsOf (sub [true, true, true, true, false] (bodyOf Try.f38))).toList
def crNT (x0 x3 x4 x6 : AV) : List AV := expand (mk 82 0 [0, 3, 4, 6]) [x0, x3, x4, x6]
theorem crNLen : crNOps.length = 16 := by kernel_rfl
theorem crNOrd : ordOk crNOps = true := by kernel_rfl
theorem crN_e0 (x0 x3 x4 x6 : AV) (vals : Nat → AV) (H : AH) (K : AV → AH → Prop) : sOp Try.prog pqb none0 false (aeval (pt crNOps vals (fun _ => true) (crNT x0 x3 x4 x6) 0)) H (crNOps.getD 0 default) true K = gO true (some x0) fun v => K v H := by kernel_rfl
theorem crN_op0 (x0 x3 x4 x6 : AV) : OpIs Try.prog crNOps (crNT x0 x3 x4 x6) 0 [] fun vals H K => gO true (some x0) fun v => K v H := by
  refine OpIs.opB (ql := pqb) (crNOps.getD 0 default) (by kernel_rfl) (by kernel_rfl) (by kernel_rfl) (fun ρ => by kernel_rfl) ?_
  intro vals H K h
  rw [crN_e0]
  exact h
theorem crN_e1 (x0 x3 x4 x6 : AV) (vals : Nat → AV) (H : AH) (K : AV → AH → Prop) : sOp Try.prog pqb none0 false (aeval (pt crNOps vals (fun _ => true) (crNT x0 x3 x4 x6) 1)) H (crNOps.getD 1 default) true K = gO true (some x0) fun v => K v H := by kernel_rfl
theorem crN_op1 (x0 x3 x4 x6 : AV) : OpIs Try.prog crNOps (crNT x0 x3 x4 x6) 1 [] fun vals H K => gO true (some x0) fun v => K v H := by
  refine OpIs.opB (ql := pqb) (crNOps.getD 1 default) (by kernel_rfl) (by kernel_rfl) (by kernel_rfl) (fun ρ => by kernel_rfl) ?_
  intro vals H K h
  rw [crN_e1]
  exact h
theorem crN_e2 (x0 x3 x4 x6 : AV) (vals : Nat → AV) (H : AH) (K : AV → AH → Prop) : sOp Try.prog pqb none0 false (aeval (pt crNOps vals (fun _ => true) (crNT x0 x3 x4 x6) 2)) H (crNOps.getD 2 default) true K = gO true (anilCheck (vals 1)) fun v => K v H := by kernel_rfl
theorem crN_op2 (x0 x3 x4 x6 : AV) : OpIs Try.prog crNOps (crNT x0 x3 x4 x6) 2 [1] fun vals H K => gO true (anilCheck (vals 1)) fun v => K v H := by
  refine OpIs.opB (ql := pqb) (crNOps.getD 2 default) (by kernel_rfl) (by kernel_rfl) (by kernel_rfl) (fun ρ => by kernel_rfl) ?_
  intro vals H K h
  rw [crN_e2]
  exact h
theorem crN_e3 (x0 x3 x4 x6 : AV) (vals : Nat → AV) (H : AH) (K : AV → AH → Prop) : sOp Try.prog pqb none0 false (aeval (pt crNOps vals (fun _ => true) (crNT x0 x3 x4 x6) 3)) H (crNOps.getD 3 default) true K = gO true (ashift 0 (vals 2)) fun v => K v H := by kernel_rfl
theorem crN_op3 (x0 x3 x4 x6 : AV) : OpIs Try.prog crNOps (crNT x0 x3 x4 x6) 3 [2] fun vals H K => gO true (ashift 0 (vals 2)) fun v => K v H := by
  refine OpIs.opB (ql := pqb) (crNOps.getD 3 default) (by kernel_rfl) (by kernel_rfl) (by kernel_rfl) (fun ρ => by kernel_rfl) ?_
  intro vals H K h
  rw [crN_e3]
  exact h
theorem crN_e4 (x0 x3 x4 x6 : AV) (vals : Nat → AV) (H : AH) (K : AV → AH → Prop) : sOp Try.prog pqb none0 false (aeval (pt crNOps vals (fun _ => true) (crNT x0 x3 x4 x6) 4)) H (crNOps.getD 4 default) true K = gO true (ald false 1 H (vals 3)) fun v => K v H := by kernel_rfl
theorem crN_op4 (x0 x3 x4 x6 : AV) : OpIs Try.prog crNOps (crNT x0 x3 x4 x6) 4 [3] fun vals H K => gO true (ald false 1 H (vals 3)) fun v => K v H := by
  refine OpIs.opB (ql := pqb) (crNOps.getD 4 default) (by kernel_rfl) (by kernel_rfl) (by kernel_rfl) (fun ρ => by kernel_rfl) ?_
  intro vals H K h
  rw [crN_e4]
  exact h
theorem crN_e5 (x0 x3 x4 x6 : AV) (vals : Nat → AV) (H : AH) (K : AV → AH → Prop) : sOp Try.prog pqb none0 false (aeval (pt crNOps vals (fun _ => true) (crNT x0 x3 x4 x6) 5)) H (crNOps.getD 5 default) true K = gO true (some x4) fun v => K v H := by kernel_rfl
theorem crN_op5 (x0 x3 x4 x6 : AV) : OpIs Try.prog crNOps (crNT x0 x3 x4 x6) 5 [] fun vals H K => gO true (some x4) fun v => K v H := by
  refine OpIs.opB (ql := pqb) (crNOps.getD 5 default) (by kernel_rfl) (by kernel_rfl) (by kernel_rfl) (fun ρ => by kernel_rfl) ?_
  intro vals H K h
  rw [crN_e5]
  exact h
theorem crN_e6 (x0 x3 x4 x6 : AV) (vals : Nat → AV) (H : AH) (K : AV → AH → Prop) : sOp Try.prog pqb none0 false (aeval (pt crNOps vals (fun _ => true) (crNT x0 x3 x4 x6) 6)) H (crNOps.getD 6 default) true K = gO true (ashift 5 x3) fun v => K v H := by kernel_rfl
theorem crN_op6 (x0 x3 x4 x6 : AV) : OpIs Try.prog crNOps (crNT x0 x3 x4 x6) 6 [] fun vals H K => gO true (ashift 5 x3) fun v => K v H := by
  refine OpIs.opB (ql := pqb) (crNOps.getD 6 default) (by kernel_rfl) (by kernel_rfl) (by kernel_rfl) (fun ρ => by kernel_rfl) ?_
  intro vals H K h
  rw [crN_e6]
  exact h
theorem crN_e7 (x0 x3 x4 x6 : AV) (vals : Nat → AV) (H : AH) (K : AV → AH → Prop) : sOp Try.prog pqb none0 false (aeval (pt crNOps vals (fun _ => true) (crNT x0 x3 x4 x6) 7)) H (crNOps.getD 7 default) true K = gO true (ald false 1 H (vals 6)) fun v => K v H := by kernel_rfl
theorem crN_op7 (x0 x3 x4 x6 : AV) : OpIs Try.prog crNOps (crNT x0 x3 x4 x6) 7 [6] fun vals H K => gO true (ald false 1 H (vals 6)) fun v => K v H := by
  refine OpIs.opB (ql := pqb) (crNOps.getD 7 default) (by kernel_rfl) (by kernel_rfl) (by kernel_rfl) (fun ρ => by kernel_rfl) ?_
  intro vals H K h
  rw [crN_e7]
  exact h
theorem crN_e8 (x0 x3 x4 x6 : AV) (vals : Nat → AV) (H : AH) (K : AV → AH → Prop) : sOp Try.prog pqb none0 false (aeval (pt crNOps vals (fun _ => true) (crNT x0 x3 x4 x6) 8)) H (crNOps.getD 8 default) true K = gO true (ashift 1 x3) fun v => K v H := by kernel_rfl
theorem crN_op8 (x0 x3 x4 x6 : AV) : OpIs Try.prog crNOps (crNT x0 x3 x4 x6) 8 [] fun vals H K => gO true (ashift 1 x3) fun v => K v H := by
  refine OpIs.opB (ql := pqb) (crNOps.getD 8 default) (by kernel_rfl) (by kernel_rfl) (by kernel_rfl) (fun ρ => by kernel_rfl) ?_
  intro vals H K h
  rw [crN_e8]
  exact h
theorem crN_e9 (x0 x3 x4 x6 : AV) (vals : Nat → AV) (H : AH) (K : AV → AH → Prop) : sOp Try.prog pqb none0 false (aeval (pt crNOps vals (fun _ => true) (crNT x0 x3 x4 x6) 9)) H (crNOps.getD 9 default) true K = gO true (ald false 1 H (vals 8)) fun v => K v H := by kernel_rfl
theorem crN_op9 (x0 x3 x4 x6 : AV) : OpIs Try.prog crNOps (crNT x0 x3 x4 x6) 9 [8] fun vals H K => gO true (ald false 1 H (vals 8)) fun v => K v H := by
  refine OpIs.opB (ql := pqb) (crNOps.getD 9 default) (by kernel_rfl) (by kernel_rfl) (by kernel_rfl) (fun ρ => by kernel_rfl) ?_
  intro vals H K h
  rw [crN_e9]
  exact h
theorem crN_e10 (x0 x3 x4 x6 : AV) (vals : Nat → AV) (H : AH) (K : AV → AH → Prop) : sOp Try.prog pqb none0 false (aeval (pt crNOps vals (fun _ => true) (crNT x0 x3 x4 x6) 10)) H (crNOps.getD 10 default) true K = gO true (abl zN [(0, 1, (vals 7)), (1, 1, (vals 9))]) fun v => K v H := by kernel_rfl
theorem crN_op10 (x0 x3 x4 x6 : AV) : OpIs Try.prog crNOps (crNT x0 x3 x4 x6) 10 [7, 9] fun vals H K => gO true (abl zN [(0, 1, (vals 7)), (1, 1, (vals 9))]) fun v => K v H := by
  refine OpIs.opB (ql := pqb) (crNOps.getD 10 default) (by kernel_rfl) (by kernel_rfl) (by kernel_rfl) (fun ρ => by kernel_rfl) ?_
  intro vals H K h
  rw [crN_e10]
  exact h
theorem crN_e11 (x0 x3 x4 x6 : AV) (vals : Nat → AV) (H : AH) (K : AV → AH → Prop) : sOp Try.prog pqb none0 false (aeval (pt crNOps vals (fun _ => true) (crNT x0 x3 x4 x6) 11)) H (crNOps.getD 11 default) true K = gH true (absl H 2 1 (zrow zN 1) [(0, 2, (vals 10))]) H K := by kernel_rfl
theorem crN_op11 (x0 x3 x4 x6 : AV) : OpIs Try.prog crNOps (crNT x0 x3 x4 x6) 11 [10] fun vals H K => gH true (absl H 2 1 (zrow zN 1) [(0, 2, (vals 10))]) H K := by
  refine OpIs.opB (ql := pqb) (crNOps.getD 11 default) (by kernel_rfl) (by kernel_rfl) (by kernel_rfl) (fun ρ => by kernel_rfl) ?_
  intro vals H K h
  rw [crN_e11]
  exact h
theorem crN_op12 (x0 x3 x4 x6 : AV) : OpIs Try.prog crNOps (crNT x0 x3 x4 x6) 12 [4, 5, 11] fun vals H K => ACalls Try.prog 69 [(vals 4), (vals 5), (vals 11)] H K :=
  OpIs.call (crNOps.getD 12 default) (by kernel_rfl) (by kernel_rfl) (by kernel_rfl) _ (fun vals => [(vals 4), (vals 5), (vals 11)]) (by kernel_rfl) (fun vals => by kernel_rfl) (fun vals H K h => h)
theorem crN_e13 (x0 x3 x4 x6 : AV) (vals : Nat → AV) (H : AH) (K : AV → AH → Prop) : sOp Try.prog pqb none0 false (aeval (pt crNOps vals (fun _ => true) (crNT x0 x3 x4 x6) 13)) H (crNOps.getD 13 default) true K = gO true (anilCheck (vals 0)) fun v => K v H := by kernel_rfl
theorem crN_op13 (x0 x3 x4 x6 : AV) : OpIs Try.prog crNOps (crNT x0 x3 x4 x6) 13 [0, 1, 2, 3, 4, 5, 6, 7, 8, 9, 10, 11, 12] fun vals H K => gO true (anilCheck (vals 0)) fun v => K v H := by
  refine OpIs.opB (ql := pqb) (crNOps.getD 13 default) (by kernel_rfl) (by kernel_rfl) (by kernel_rfl) (fun ρ => by kernel_rfl) ?_
  intro vals H K h
  rw [crN_e13]
  exact h
theorem crN_e14 (x0 x3 x4 x6 : AV) (vals : Nat → AV) (H : AH) (K : AV → AH → Prop) : sOp Try.prog pqb none0 false (aeval (pt crNOps vals (fun _ => true) (crNT x0 x3 x4 x6) 14)) H (crNOps.getD 14 default) true K = gO true (ashift 0 (vals 13)) fun v => K v H := by kernel_rfl
theorem crN_op14 (x0 x3 x4 x6 : AV) : OpIs Try.prog crNOps (crNT x0 x3 x4 x6) 14 [0, 1, 2, 3, 4, 5, 6, 7, 8, 9, 10, 11, 12, 13] fun vals H K => gO true (ashift 0 (vals 13)) fun v => K v H := by
  refine OpIs.opB (ql := pqb) (crNOps.getD 14 default) (by kernel_rfl) (by kernel_rfl) (by kernel_rfl) (fun ρ => by kernel_rfl) ?_
  intro vals H K h
  rw [crN_e14]
  exact h
theorem crN_e15 (x0 x3 x4 x6 : AV) (vals : Nat → AV) (H : AH) (K : AV → AH → Prop) : sOp Try.prog pqb none0 false (aeval (pt crNOps vals (fun _ => true) (crNT x0 x3 x4 x6) 15)) H (crNOps.getD 15 default) true K = gS true (ast 1 H (vals 14) (vals 12)) H fun H' => K undefA H' := by kernel_rfl
theorem crN_op15 (x0 x3 x4 x6 : AV) : OpIs Try.prog crNOps (crNT x0 x3 x4 x6) 15 [0, 1, 2, 3, 4, 5, 6, 7, 8, 9, 10, 11, 12, 14] fun vals H K => gS true (ast 1 H (vals 14) (vals 12)) H fun H' => K undefA H' := by
  refine OpIs.opB (ql := pqb) (crNOps.getD 15 default) (by kernel_rfl) (by kernel_rfl) (by kernel_rfl) (fun ρ => by kernel_rfl) ?_
  intro vals H K h
  rw [crN_e15]
  exact h
def crNNeed : List (List Nat) := [[], [], [1], [2], [3], [], [], [6], [], [8], [7, 9], [10], [4, 5, 11], [0, 1, 2, 3, 4, 5, 6, 7, 8, 9, 10, 11, 12], [0, 1, 2, 3, 4, 5, 6, 7, 8, 9, 10, 11, 12, 13], [0, 1, 2, 3, 4, 5, 6, 7, 8, 9, 10, 11, 12, 14]]
def crNF (x0 x3 x4 x6 : AV) : List ((Nat → AV) → AH → (AV → AH → Prop) → Prop) := [
  fun vals H K => gO true (some x0) fun v => K v H,
  fun vals H K => gO true (some x0) fun v => K v H,
  fun vals H K => gO true (anilCheck (vals 1)) fun v => K v H,
  fun vals H K => gO true (ashift 0 (vals 2)) fun v => K v H,
  fun vals H K => gO true (ald false 1 H (vals 3)) fun v => K v H,
  fun vals H K => gO true (some x4) fun v => K v H,
  fun vals H K => gO true (ashift 5 x3) fun v => K v H,
  fun vals H K => gO true (ald false 1 H (vals 6)) fun v => K v H,
  fun vals H K => gO true (ashift 1 x3) fun v => K v H,
  fun vals H K => gO true (ald false 1 H (vals 8)) fun v => K v H,
  fun vals H K => gO true (abl zN [(0, 1, (vals 7)), (1, 1, (vals 9))]) fun v => K v H,
  fun vals H K => gH true (absl H 2 1 (zrow zN 1) [(0, 2, (vals 10))]) H K,
  fun vals H K => ACalls Try.prog 69 [(vals 4), (vals 5), (vals 11)] H K,
  fun vals H K => gO true (anilCheck (vals 0)) fun v => K v H,
  fun vals H K => gO true (ashift 0 (vals 13)) fun v => K v H,
  fun vals H K => gS true (ast 1 H (vals 14) (vals 12)) H fun H' => K undefA H']
theorem crNIs (x0 x3 x4 x6 : AV) : ∀ i, i < crNOps.length → OpIs Try.prog crNOps (crNT x0 x3 x4 x6) i (crNNeed.getD i []) ((crNF x0 x3 x4 x6).getD i (fun _ _ _ => False)) := by
  intro i hi
  rw [crNLen] at hi
  have : i = 0 ∨ i = 1 ∨ i = 2 ∨ i = 3 ∨ i = 4 ∨ i = 5 ∨ i = 6 ∨ i = 7 ∨ i = 8 ∨ i = 9 ∨ i = 10 ∨ i = 11 ∨ i = 12 ∨ i = 13 ∨ i = 14 ∨ i = 15 := by omega
  rcases this with rfl | rfl | rfl | rfl | rfl | rfl | rfl | rfl | rfl | rfl | rfl | rfl | rfl | rfl | rfl | rfl
  · exact crN_op0 x0 x3 x4 x6
  · exact crN_op1 x0 x3 x4 x6
  · exact crN_op2 x0 x3 x4 x6
  · exact crN_op3 x0 x3 x4 x6
  · exact crN_op4 x0 x3 x4 x6
  · exact crN_op5 x0 x3 x4 x6
  · exact crN_op6 x0 x3 x4 x6
  · exact crN_op7 x0 x3 x4 x6
  · exact crN_op8 x0 x3 x4 x6
  · exact crN_op9 x0 x3 x4 x6
  · exact crN_op10 x0 x3 x4 x6
  · exact crN_op11 x0 x3 x4 x6
  · exact crN_op12 x0 x3 x4 x6
  · exact crN_op13 x0 x3 x4 x6
  · exact crN_op14 x0 x3 x4 x6
  · exact crN_op15 x0 x3 x4 x6
noncomputable def crDOps : List Oper := (opsOf (sub [true, true, true, true, true] (bodyOf Try.f38))).toList
def crDT (x0 x3 x6 : AV) : List AV := expand (mk 82 0 [0, 3, 6]) [x0, x3, x6]
theorem crDLen : crDOps.length = 14 := by kernel_rfl
theorem crDOrd : ordOk crDOps = true := by kernel_rfl
theorem crD_e0 (x0 x3 x6 : AV) (vals : Nat → AV) (H : AH) (K : AV → AH → Prop) : sOp Try.prog pqb none0 false (aeval (pt crDOps vals (fun _ => true) (crDT x0 x3 x6) 0)) H (crDOps.getD 0 default) true K = gO true (some x0) fun v => K v H := by kernel_rfl
theorem crD_op0 (x0 x3 x6 : AV) : OpIs Try.prog crDOps (crDT x0 x3 x6) 0 [] fun vals H K => gO true (some x0) fun v => K v H := by
  refine OpIs.opB (ql := pqb) (crDOps.getD 0 default) (by kernel_rfl) (by kernel_rfl) (by kernel_rfl) (fun ρ => by kernel_rfl) ?_
  intro vals H K h
  rw [crD_e0]
  exact h
theorem crD_e1 (x0 x3 x6 : AV) (vals : Nat → AV) (H : AH) (K : AV → AH → Prop) : sOp Try.prog pqb none0 false (aeval (pt crDOps vals (fun _ => true) (crDT x0 x3 x6) 1)) H (crDOps.getD 1 default) true K = gO true (some x0) fun v => K v H := by kernel_rfl
theorem crD_op1 (x0 x3 x6 : AV) : OpIs Try.prog crDOps (crDT x0 x3 x6) 1 [] fun vals H K => gO true (some x0) fun v => K v H := by
  refine OpIs.opB (ql := pqb) (crDOps.getD 1 default) (by kernel_rfl) (by kernel_rfl) (by kernel_rfl) (fun ρ => by kernel_rfl) ?_
  intro vals H K h
  rw [crD_e1]
  exact h
theorem crD_e2 (x0 x3 x6 : AV) (vals : Nat → AV) (H : AH) (K : AV → AH → Prop) : sOp Try.prog pqb none0 false (aeval (pt crDOps vals (fun _ => true) (crDT x0 x3 x6) 2)) H (crDOps.getD 2 default) true K = gO true (anilCheck (vals 1)) fun v => K v H := by kernel_rfl
theorem crD_op2 (x0 x3 x6 : AV) : OpIs Try.prog crDOps (crDT x0 x3 x6) 2 [1] fun vals H K => gO true (anilCheck (vals 1)) fun v => K v H := by
  refine OpIs.opB (ql := pqb) (crDOps.getD 2 default) (by kernel_rfl) (by kernel_rfl) (by kernel_rfl) (fun ρ => by kernel_rfl) ?_
  intro vals H K h
  rw [crD_e2]
  exact h
theorem crD_e3 (x0 x3 x6 : AV) (vals : Nat → AV) (H : AH) (K : AV → AH → Prop) : sOp Try.prog pqb none0 false (aeval (pt crDOps vals (fun _ => true) (crDT x0 x3 x6) 3)) H (crDOps.getD 3 default) true K = gO true (ashift 1 (vals 2)) fun v => K v H := by kernel_rfl
theorem crD_op3 (x0 x3 x6 : AV) : OpIs Try.prog crDOps (crDT x0 x3 x6) 3 [2] fun vals H K => gO true (ashift 1 (vals 2)) fun v => K v H := by
  refine OpIs.opB (ql := pqb) (crDOps.getD 3 default) (by kernel_rfl) (by kernel_rfl) (by kernel_rfl) (fun ρ => by kernel_rfl) ?_
  intro vals H K h
  rw [crD_e3]
  exact h
theorem crD_e4 (x0 x3 x6 : AV) (vals : Nat → AV) (H : AH) (K : AV → AH → Prop) : sOp Try.prog pqb none0 false (aeval (pt crDOps vals (fun _ => true) (crDT x0 x3 x6) 4)) H (crDOps.getD 4 default) true K = gO true (ald false 1 H (vals 3)) fun v => K v H := by kernel_rfl
theorem crD_op4 (x0 x3 x6 : AV) : OpIs Try.prog crDOps (crDT x0 x3 x6) 4 [3] fun vals H K => gO true (ald false 1 H (vals 3)) fun v => K v H := by
  refine OpIs.opB (ql := pqb) (crDOps.getD 4 default) (by kernel_rfl) (by kernel_rfl) (by kernel_rfl) (fun ρ => by kernel_rfl) ?_
  intro vals H K h
  rw [crD_e4]
  exact h
theorem crD_e5 (x0 x3 x6 : AV) (vals : Nat → AV) (H : AH) (K : AV → AH → Prop) : sOp Try.prog pqb none0 false (aeval (pt crDOps vals (fun _ => true) (crDT x0 x3 x6) 5)) H (crDOps.getD 5 default) true K = gO true (some x6) fun v => K v H := by kernel_rfl
theorem crD_op5 (x0 x3 x6 : AV) : OpIs Try.prog crDOps (crDT x0 x3 x6) 5 [] fun vals H K => gO true (some x6) fun v => K v H := by
  refine OpIs.opB (ql := pqb) (crDOps.getD 5 default) (by kernel_rfl) (by kernel_rfl) (by kernel_rfl) (fun ρ => by kernel_rfl) ?_
  intro vals H K h
  rw [crD_e5]
  exact h
theorem crD_e6 (x0 x3 x6 : AV) (vals : Nat → AV) (H : AH) (K : AV → AH → Prop) : sOp Try.prog pqb none0 false (aeval (pt crDOps vals (fun _ => true) (crDT x0 x3 x6) 6)) H (crDOps.getD 6 default) true K = gO true (ashift 1 x3) fun v => K v H := by kernel_rfl
theorem crD_op6 (x0 x3 x6 : AV) : OpIs Try.prog crDOps (crDT x0 x3 x6) 6 [] fun vals H K => gO true (ashift 1 x3) fun v => K v H := by
  refine OpIs.opB (ql := pqb) (crDOps.getD 6 default) (by kernel_rfl) (by kernel_rfl) (by kernel_rfl) (fun ρ => by kernel_rfl) ?_
  intro vals H K h
  rw [crD_e6]
  exact h
theorem crD_e7 (x0 x3 x6 : AV) (vals : Nat → AV) (H : AH) (K : AV → AH → Prop) : sOp Try.prog pqb none0 false (aeval (pt crDOps vals (fun _ => true) (crDT x0 x3 x6) 7)) H (crDOps.getD 7 default) true K = gO true (ald false 1 H (vals 6)) fun v => K v H := by kernel_rfl
theorem crD_op7 (x0 x3 x6 : AV) : OpIs Try.prog crDOps (crDT x0 x3 x6) 7 [6] fun vals H K => gO true (ald false 1 H (vals 6)) fun v => K v H := by
  refine OpIs.opB (ql := pqb) (crDOps.getD 7 default) (by kernel_rfl) (by kernel_rfl) (by kernel_rfl) (fun ρ => by kernel_rfl) ?_
  intro vals H K h
  rw [crD_e7]
  exact h
theorem crD_e8 (x0 x3 x6 : AV) (vals : Nat → AV) (H : AH) (K : AV → AH → Prop) : sOp Try.prog pqb none0 false (aeval (pt crDOps vals (fun _ => true) (crDT x0 x3 x6) 8)) H (crDOps.getD 8 default) true K = gO true (abl zD [(0, 1, (vals 7))]) fun v => K v H := by kernel_rfl
theorem crD_op8 (x0 x3 x6 : AV) : OpIs Try.prog crDOps (crDT x0 x3 x6) 8 [7] fun vals H K => gO true (abl zD [(0, 1, (vals 7))]) fun v => K v H := by
  refine OpIs.opB (ql := pqb) (crDOps.getD 8 default) (by kernel_rfl) (by kernel_rfl) (by kernel_rfl) (fun ρ => by kernel_rfl) ?_
  intro vals H K h
  rw [crD_e8]
  exact h
theorem crD_e9 (x0 x3 x6 : AV) (vals : Nat → AV) (H : AH) (K : AV → AH → Prop) : sOp Try.prog pqb none0 false (aeval (pt crDOps vals (fun _ => true) (crDT x0 x3 x6) 9)) H (crDOps.getD 9 default) true K = gH true (absl H 3 1 (zrow zD 1) [(0, 3, (vals 8))]) H K := by kernel_rfl
theorem crD_op9 (x0 x3 x6 : AV) : OpIs Try.prog crDOps (crDT x0 x3 x6) 9 [8] fun vals H K => gH true (absl H 3 1 (zrow zD 1) [(0, 3, (vals 8))]) H K := by
  refine OpIs.opB (ql := pqb) (crDOps.getD 9 default) (by kernel_rfl) (by kernel_rfl) (by kernel_rfl) (fun ρ => by kernel_rfl) ?_
  intro vals H K h
  rw [crD_e9]
  exact h
theorem crD_op10 (x0 x3 x6 : AV) : OpIs Try.prog crDOps (crDT x0 x3 x6) 10 [4, 5, 9] fun vals H K => ACalls Try.prog 70 [(vals 4), (vals 5), (vals 9)] H K :=
  OpIs.call (crDOps.getD 10 default) (by kernel_rfl) (by kernel_rfl) (by kernel_rfl) _ (fun vals => [(vals 4), (vals 5), (vals 9)]) (by kernel_rfl) (fun vals => by kernel_rfl) (fun vals H K h => h)
theorem crD_e11 (x0 x3 x6 : AV) (vals : Nat → AV) (H : AH) (K : AV → AH → Prop) : sOp Try.prog pqb none0 false (aeval (pt crDOps vals (fun _ => true) (crDT x0 x3 x6) 11)) H (crDOps.getD 11 default) true K = gO true (anilCheck (vals 0)) fun v => K v H := by kernel_rfl
theorem crD_op11 (x0 x3 x6 : AV) : OpIs Try.prog crDOps (crDT x0 x3 x6) 11 [0, 1, 2, 3, 4, 5, 6, 7, 8, 9, 10] fun vals H K => gO true (anilCheck (vals 0)) fun v => K v H := by
  refine OpIs.opB (ql := pqb) (crDOps.getD 11 default) (by kernel_rfl) (by kernel_rfl) (by kernel_rfl) (fun ρ => by kernel_rfl) ?_
  intro vals H K h
  rw [crD_e11]
  exact h
theorem crD_e12 (x0 x3 x6 : AV) (vals : Nat → AV) (H : AH) (K : AV → AH → Prop) : sOp Try.prog pqb none0 false (aeval (pt crDOps vals (fun _ => true) (crDT x0 x3 x6) 12)) H (crDOps.getD 12 default) true K = gO true (ashift 1 (vals 11)) fun v => K v H := by kernel_rfl
theorem crD_op12 (x0 x3 x6 : AV) : OpIs Try.prog crDOps (crDT x0 x3 x6) 12 [0, 1, 2, 3, 4, 5, 6, 7, 8, 9, 10, 11] fun vals H K => gO true (ashift 1 (vals 11)) fun v => K v H := by
  refine OpIs.opB (ql := pqb) (crDOps.getD 12 default) (by kernel_rfl) (by kernel_rfl) (by kernel_rfl) (fun ρ => by kernel_rfl) ?_
  intro vals H K h
  rw [crD_e12]
  exact h
theorem crD_e13 (x0 x3 x6 : AV) (vals : Nat → AV) (H : AH) (K : AV → AH → Prop) : sOp Try.prog pqb none0 false (aeval (pt crDOps vals (fun _ => true) (crDT x0 x3 x6) 13)) H (crDOps.getD 13 default) true K = gS true (ast 1 H (vals 12) (vals 10)) H fun H' => K undefA H' := by kernel_rfl
theorem crD_op13 (x0 x3 x6 : AV) : OpIs Try.prog crDOps (crDT x0 x3 x6) 13 [0, 1, 2, 3, 4, 5, 6, 7, 8, 9, 10, 12] fun vals H K => gS true (ast 1 H (vals 12) (vals 10)) H fun H' => K undefA H' := by
  refine OpIs.opB (ql := pqb) (crDOps.getD 13 default) (by kernel_rfl) (by kernel_rfl) (by kernel_rfl) (fun ρ => by kernel_rfl) ?_
  intro vals H K h
  rw [crD_e13]
  exact h
def crDNeed : List (List Nat) := [[], [], [1], [2], [3], [], [], [6], [7], [8], [4, 5, 9], [0, 1, 2, 3, 4, 5, 6, 7, 8, 9, 10], [0, 1, 2, 3, 4, 5, 6, 7, 8, 9, 10, 11], [0, 1, 2, 3, 4, 5, 6, 7, 8, 9, 10, 12]]
def crDF (x0 x3 x6 : AV) : List ((Nat → AV) → AH → (AV → AH → Prop) → Prop) := [
  fun vals H K => gO true (some x0) fun v => K v H,
  fun vals H K => gO true (some x0) fun v => K v H,
  fun vals H K => gO true (anilCheck (vals 1)) fun v => K v H,
  fun vals H K => gO true (ashift 1 (vals 2)) fun v => K v H,
  fun vals H K => gO true (ald false 1 H (vals 3)) fun v => K v H,
  fun vals H K => gO true (some x6) fun v => K v H,
  fun vals H K => gO true (ashift 1 x3) fun v => K v H,
  fun vals H K => gO true (ald false 1 H (vals 6)) fun v => K v H,
  fun vals H K => gO true (abl zD [(0, 1, (vals 7))]) fun v => K v H,
  fun vals H K => gH true (absl H 3 1 (zrow zD 1) [(0, 3, (vals 8))]) H K,
  fun vals H K => ACalls Try.prog 70 [(vals 4), (vals 5), (vals 9)] H K,
  fun vals H K => gO true (anilCheck (vals 0)) fun v => K v H,
  fun vals H K => gO true (ashift 1 (vals 11)) fun v => K v H,
  fun vals H K => gS true (ast 1 H (vals 12) (vals 10)) H fun H' => K undefA H']
theorem crDIs (x0 x3 x6 : AV) : ∀ i, i < crDOps.length → OpIs Try.prog crDOps (crDT x0 x3 x6) i (crDNeed.getD i []) ((crDF x0 x3 x6).getD i (fun _ _ _ => False)) := by
  intro i hi
  rw [crDLen] at hi
  have : i = 0 ∨ i = 1 ∨ i = 2 ∨ i = 3 ∨ i = 4 ∨ i = 5 ∨ i = 6 ∨ i = 7 ∨ i = 8 ∨ i = 9 ∨ i = 10 ∨ i = 11 ∨ i = 12 ∨ i = 13 := by omega
  rcases this with rfl | rfl | rfl | rfl | rfl | rfl | rfl | rfl | rfl | rfl | rfl | rfl | rfl | rfl
  · exact crD_op0 x0 x3 x6
  · exact crD_op1 x0 x3 x6
  · exact crD_op2 x0 x3 x6
  · exact crD_op3 x0 x3 x6
  · exact crD_op4 x0 x3 x6
  · exact crD_op5 x0 x3 x6
  · exact crD_op6 x0 x3 x6
  · exact crD_op7 x0 x3 x6
  · exact crD_op8 x0 x3 x6
  · exact crD_op9 x0 x3 x6
  · exact crD_op10 x0 x3 x6
  · exact crD_op11 x0 x3 x6
  · exact crD_op12 x0 x3 x6
  · exact crD_op13 x0 x3 x6
end Go.Proofs.Ytpnfdibgfichmaa.Av
end
