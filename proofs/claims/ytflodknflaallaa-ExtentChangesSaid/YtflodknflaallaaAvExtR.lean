/- Chapter 11: where a block lies, which contents are one, where data and holes are. -/
import Derived.Test.YtflodknflaallaaAvExt
set_option linter.unusedVariables false
set_option linter.unusedSimpArgs false
set_option maxRecDepth 100000
namespace Go.Proofs.Ytflodknflaallaa.Av
open Go Go.RowKit

/-! rising blocks -/
def srt (l : List Ext) : Prop := l.Pairwise fun a b => a.no < b.no
theorem okL_all {size : Int} : ∀ {l : List Ext} {p : Int}, okL size p l → ∀ x ∈ l, p < x.no ∧ x.no < 137438953472 ∧ cleanE size x
  | [], p, h => by simp
  | a :: r, p, h => by
    rw [okL_cons] at h
    intro x hx
    rcases List.mem_cons.1 hx with rfl | hx
    · exact ⟨h.1, h.2.1, h.2.2.1⟩
    · have := okL_all h.2.2.2 x hx
      exact ⟨by omega, this.2⟩
theorem okL_srt {size : Int} : ∀ {l : List Ext} {p : Int}, okL size p l → srt l
  | [], p, h => List.Pairwise.nil
  | a :: r, p, h => by
    rw [okL_cons] at h
    exact List.Pairwise.cons (fun b hb => (okL_all h.2.2.2 b hb).1) (okL_srt h.2.2.2)
theorem srt_get {l : List Ext} (h : srt l) {i j : Nat} {x y : Ext} (hi : l[i]? = some x) (hj : l[j]? = some y) (hij : i < j) : x.no < y.no := by
  obtain ⟨h1, e1⟩ := List.getElem?_eq_some_iff.1 hi
  obtain ⟨h2, e2⟩ := List.getElem?_eq_some_iff.1 hj
  have := List.pairwise_iff_getElem.1 h i j h1 h2 hij
  rw [e1, e2] at this; exact this
/-- How many blocks lie ahead of a number. -/
def posL (l : List Ext) (no : Int) : Nat := (l.takeWhile fun x => decide (x.no < no)).length
def hasL (l : List Ext) (no : Int) : Prop := ∃ x ∈ l, x.no = no
instance (l : List Ext) (no : Int) : Decidable (hasL l no) := by unfold hasL; infer_instance
theorem posL_eq {no : Int} : ∀ {l : List Ext} {i : Nat}, i ≤ l.length → (∀ m x, m < i → l[m]? = some x → x.no < no) → (∀ x, l[i]? = some x → no ≤ x.no) → posL l no = i
  | [], i, hi, _, _ => by simp at hi; simp [posL, hi]
  | a :: r, 0, _, _, h => by
    have := h a (by simp)
    have : ¬ a.no < no := by omega
    simp [posL, this]
  | a :: r, i + 1, hi, h1, h2 => by
    have := h1 0 a (by omega) (by simp)
    have ih := posL_eq (l := r) (i := i) (no := no) (by simpa using hi) (fun m x hm hx => h1 (m + 1) x (by omega) (by simpa using hx)) (fun x hx => h2 x (by simpa using hx))
    unfold posL at ih ⊢
    simp [this, ih]
theorem posL_le (l : List Ext) (no : Int) : posL l no ≤ l.length := by
  unfold posL
  exact (List.takeWhile_sublist _).length_le
theorem posL_lt {no : Int} : ∀ {l : List Ext} {m : Nat} {x : Ext}, m < posL l no → l[m]? = some x → x.no < no
  | a :: r, m, x, hm, hx => by
    by_cases ha : a.no < no
    · cases m with
      | zero => simp at hx; rw [← hx]; exact ha
      | succ m =>
        refine posL_lt (l := r) (m := m) ?_ (by simpa using hx)
        unfold posL at hm ⊢
        simp [ha] at hm
        exact hm
    · unfold posL at hm
      simp [ha] at hm
  | [], m, x, hm, hx => by simp at hx
theorem posL_ge {no : Int} : ∀ {l : List Ext} {x : Ext}, l[posL l no]? = some x → no ≤ x.no
  | a :: r, x, hx => by
    by_cases ha : a.no < no
    · refine posL_ge (l := r) ?_
      unfold posL at hx ⊢
      simpa [ha] using hx
    · unfold posL at hx
      simp [ha] at hx
      rw [← hx]; omega
  | [], x, hx => by simp at hx
theorem hasL_iff {l : List Ext} (h : srt l) {no : Int} : hasL l no ↔ ∃ x, l[posL l no]? = some x ∧ x.no = no := by
  constructor
  · rintro ⟨x, hx, rfl⟩
    obtain ⟨m, hm⟩ := List.mem_iff_getElem?.1 hx
    refine ⟨x, ?_, rfl⟩
    have : posL l x.no = m := posL_eq (Nat.le_of_lt (List.getElem?_eq_some_iff.1 hm).1) (fun k y hk hy => srt_get h hy hm hk) (fun y hy => by rw [hm] at hy; injection hy with hy; rw [hy]; omega)
    rw [this]; exact hm
  · rintro ⟨x, hx, e⟩
    exact ⟨x, List.mem_of_getElem? hx, e⟩
def cmpI (a b : Int) : Int := if a < b then -1 else if b < a then 1 else 0
theorem cmp_isNaN_p (a : Int) : BPure Try.prog 61 [I a] (B false) := BPure.flat fun H => cmp_isNaN_int_ok (by
  unfold cmp_isNaN_int
  simp)
theorem cmp_Compare_p (a b : Int) : BPure Try.prog 56 [I a, I b] (I (cmpI a b)) := BPure.flat fun H => cmp_Compare_int_ok (by
  unfold cmp_Compare_int
  refine bP_pure (cmp_isNaN_p a) ?_
  refine bP_pure (cmp_isNaN_p b) ?_
  unfold cmpI
  by_cases h1 : a < b
  · simp [h1]
  · by_cases h2 : b < a
    · simp [h1, h2]
    · simp [h1, h2])
theorem place1_p (x : Ext) (no : Int) : BPure Try.prog 55 [.agg (encE x), I no] (I (cmpI x.no no)) := BPure.val (by simp [noIdss, noIds, noIdss_encE]) rfl (extent_place_1_ok (by
  unfold extent_place_1
  simp
  refine bP_pure (cmp_Compare_p x.no no) ?_
  rfl))
theorem acI_u64 {n : Int} {k : IntKind} (h1 : 0 ≤ n) (h2 : n ≤ 9223372036854775807) : acI .u64 (.lit (.int k n)) = some (.lit (.int .u64 n)) := by
  have e1 : IntKind.u64.wrap n = n := by
    simp [IntKind.wrap, IntKind.bits, IntKind.signed]; omega
  simp [acI, e1]
theorem abI_shr1 {n : Int} : abI .shr (.lit (.int .u64 n)) (.lit (.int .u64 1)) = some (.lit (.int .u64 (n / 2))) := by
  have e2 : n.fdiv 2 = n / 2 := Int.fdiv_eq_ediv_of_nonneg _ (by omega)
  simp [abI, ashiftOp, IntKind.bits, e2]
theorem goF55 : goFunc Try.prog 55 = true := by kernel_rfl
theorem search_p {l : List Ext} {v : AV} (hv : SV encE 9 l v) (hs : srt l) (hl : l.length ≤ 281474976710656) (no : Int) :
    BPure Try.prog 54 [v, I no, .fn (.func 55) [] []] (.tup [I (posL l no), B (decide (hasL l no))]) := BPure.val (by simp [noIdss, noIds, hv.1]) rfl (slices_BinarySearchFunc_Lapi_Ext_api_Ext_int_ok (by
  unfold slices_BinarySearchFunc_Lapi_Ext_api_Ext_int
  simp [hv.len]
  refine slices_BinarySearchFunc_Lapi_Ext_api_Ext_int_L4_rule (fun n x0 x1 x2 x8 x9 x10 H' => ∃ i j : Nat, i + n = j ∧ j ≤ l.length ∧ x0 = v ∧ x1 = I no ∧ x2 = .fn (.func 55) [] [] ∧ x8 = I l.length ∧ x9 = I i ∧ x10 = I j ∧ H' = [] ∧ (∀ m x, m < i → l[m]? = some x → x.no < no) ∧ (∀ m x, j ≤ m → l[m]? = some x → no ≤ x.no)) ?_ l.length ⟨0, l.length, by simp, by omega, rfl, rfl, rfl, rfl, rfl, rfl, rfl, by simp, fun m x hm hx => by have := (List.getElem?_eq_some_iff.1 hx).1; omega⟩
  rintro n x0 x1 x2 x8 x9 x10 H' R hR ⟨i, j, hij, hj, rfl, rfl, rfl, rfl, rfl, rfl, rfl, h1, h2⟩
  unfold slices_BinarySearchFunc_Lapi_Ext_api_Ext_int_L4_b
  rcases Nat.lt_or_ge i j with hlt | hge
  · have hx := List.getElem?_eq_getElem (l := l) (i := (i + j) / 2) (by omega)
    generalize l[(i + j) / 2]'(by omega) = y at hx
    simp [hlt, abI_add (a := i) (b := j) (by omega) (by omega), acI_u64 (n := (i : Int) + j) (by omega) (by omega), abI_shr1, acI_i64 (a := ((i : Int) + j) / 2) (by omega) (by omega), hv.idx encE_len hx (i := ((i : Int) + j) / 2) (by omega), goF55]
    refine bC_of (place1_p y no []) ?_
    unfold cmpI
    by_cases c1 : y.no < no
    · simp [c1, abI_add (a := ((i : Int) + j) / 2) (b := 1) (by omega) (by omega)]
      refine hR (j - ((i + j) / 2 + 1)) _ _ _ _ _ _ _ (by omega) ⟨(i + j) / 2 + 1, j, by omega, hj, rfl, rfl, rfl, rfl, by simp, rfl, rfl, ?_, h2⟩
      intro m x hm hmx
      by_cases hm2 : m = (i + j) / 2
      · rw [hm2, hx] at hmx; injection hmx with e; rw [← e]; exact c1
      · have := srt_get hs hmx hx (by omega); omega
    · have e : ¬ (if no < y.no then (1 : Int) else 0) < 0 := by split <;> omega
      simp [c1, e]
      refine hR ((i + j) / 2 - i) _ _ _ _ _ _ _ (by omega) ⟨i, (i + j) / 2, by omega, by omega, rfl, rfl, rfl, rfl, rfl, by simp, rfl, h1, ?_⟩
      intro m x hm hmx
      by_cases hm2 : m = (i + j) / 2
      · rw [hm2, hx] at hmx; injection hmx with e; rw [← e]; omega
      · have := srt_get hs hx hmx (by omega); omega
  · have hi : i = j := by omega
    subst hi
    have hp : posL l no = i := posL_eq (by omega) h1 (fun x hx => h2 i x (by omega) hx)
    rcases Nat.lt_or_ge i l.length with hil | hil
    · have hx := List.getElem?_eq_getElem (l := l) (i := i) hil
      generalize l[i] = y at hx
      have hh : hasL l no ↔ cmpI y.no no = 0 := by
        rw [hasL_iff hs, hp]
        have := h2 i y (by omega) hx
        constructor
        · rintro ⟨z, hz, e⟩
          rw [hx] at hz; injection hz with hz; rw [hz, e]; unfold cmpI; simp
        · intro e
          refine ⟨y, hx, ?_⟩
          unfold cmpI at e
          split at e
          · omega
          · split at e <;> omega
      simp [hil, hv.idx encE_len hx rfl, goF55]
      refine bC_of (place1_p y no []) ?_
      simp [hp, hh]
    · have hn : ¬ hasL l no := by
        rw [hasL_iff hs, hp]
        rintro ⟨z, hz, e⟩
        have := (List.getElem?_eq_some_iff.1 hz).1
        omega
      simp [show ¬ i < l.length by omega, hp, hn]))
theorem extent_place_p {l : List Ext} {v : AV} (hv : SV encE 9 l v) (hs : srt l) (hl : l.length ≤ 281474976710656) (no : Int) :
    BPure Try.prog 36 [v, I no] (.tup [I (posL l no), B (decide (hasL l no))]) := BPure.val (by simp [noIdss, noIds, hv.1]) rfl (extent_place_ok (by
  unfold extent_place
  refine bP_pure (search_p hv hs hl no) ?_
  simp))

/-! one content -/
theorem neExt_a (a c b0 b1 b2 b3 b4 b5 b6 b7 d0 d1 d2 d3 d4 d5 d6 d7 : Int) : abin Try.prog .neq 32 (.agg [I a, .lit (.int .u8 b0), .lit (.int .u8 b1), .lit (.int .u8 b2), .lit (.int .u8 b3), .lit (.int .u8 b4), .lit (.int .u8 b5), .lit (.int .u8 b6), .lit (.int .u8 b7)]) (.agg [I c, .lit (.int .u8 d0), .lit (.int .u8 d1), .lit (.int .u8 d2), .lit (.int .u8 d3), .lit (.int .u8 d4), .lit (.int .u8 d5), .lit (.int .u8 d6), .lit (.int .u8 d7)]) = some (B !(a == c && ((b0 == d0 && (b1 == d1 && (b2 == d2 && (b3 == d3 && (b4 == d4 && (b5 == d5 && (b6 == d6 && (b7 == d7 && true)))))))) && true))) := by kernel_rfl
theorem u8i {a b : UInt8} : ((a.toNat : Int) == (b.toNat : Int)) = decide (a = b) := by
  by_cases h : a = b
  · subst h; simp
  · have : ¬ (a.toNat : Int) = b.toNat := fun e => h (UInt8.toNat_inj.1 (by omega))
    simp [h, this]
theorem neExt (x y : Ext) : abin Try.prog .neq 32 (.agg (encE x)) (.agg (encE y)) = some (B (decide (x ≠ y))) := by
  obtain ⟨a, b, hb⟩ := x
  obtain ⟨c, d, hd⟩ := y
  match b, d, hb, hd with
  | [b0, b1, b2, b3, b4, b5, b6, b7], [d0, d1, d2, d3, d4, d5, d6, d7], hb, hd =>
    refine (neExt_a a c b0.toNat b1.toNat b2.toNat b3.toNat b4.toNat b5.toNat b6.toNat b7.toNat d0.toNat d1.toNat d2.toNat d3.toNat d4.toNat d5.toNat d6.toNat d7.toNat).trans ?_
    have e : (a == c) = decide (a = c) := by by_cases h : a = c <;> simp [h]
    simp only [u8i, e]
    simp
theorem extent_Equal_p {l m : List Ext} {v w : AV} (hv : SV encE 9 l v) (hw : SV encE 9 m w) (hl : l.length ≤ 281474976710656) :
    BPure Try.prog 43 [v, w] (B (decide (l = m))) := BPure.val (by simp [noIdss, noIds, hv.1, hw.1]) rfl (slices_Equal_Lapi_Ext_api_Ext_ok (by
  unfold slices_Equal_Lapi_Ext_api_Ext
  simp [hv.len, hw.len]
  by_cases h0 : l.length = m.length
  · simp [h0]
    refine slices_Equal_Lapi_Ext_api_Ext_L6_rule (fun n x0 x1 x12 x13 H' => ∃ k : Nat, k + n = l.length ∧ x0 = v ∧ x1 = w ∧ x12 = I l.length ∧ x13 = I k ∧ H' = [] ∧ l.take k = m.take k) ?_ l.length ⟨0, by simp, rfl, rfl, by rw [h0], rfl, rfl, rfl⟩
    rintro n x0 x1 x12 x13 H' R hR ⟨k, hk, rfl, rfl, rfl, rfl, rfl, ht⟩
    unfold slices_Equal_Lapi_Ext_api_Ext_L6_b
    rcases Nat.lt_or_ge k l.length with hlt | hge
    · have hx := List.getElem?_eq_getElem hlt
      have hy := List.getElem?_eq_getElem (l := m) (i := k) (by omega)
      generalize l[k] = x at hx
      generalize m[k]'(by omega) = y at hy
      simp [hlt, hv.idx encE_len hx rfl, hw.idx encE_len hy rfl, neExt]
      by_cases hxy : x = y
      · simp [hxy, abI_add (a := k) (b := 1) (by omega) (by omega)]
        refine hR (n - 1) _ _ _ _ _ (by omega) ⟨k + 1, by omega, rfl, rfl, rfl, rfl, rfl, ?_⟩
        rw [List.take_add_one, List.take_add_one, hx, hy, ht, hxy]
      · have : l ≠ m := by
          rintro rfl
          rw [hx] at hy; injection hy with hy; exact hxy hy
        simp [hxy, this]
    · have : k = l.length := by omega
      subst this
      have e : l = m := by
        rw [List.take_length, h0, List.take_length] at ht; exact ht
      simp [e]
  · have : l ≠ m := fun h => h0 (by rw [h])
    have h0' : ¬ (l.length : Int) = m.length := by omega
    simp [h0, h0', this]))
def sameC (a : Int) (l : List Ext) (b : Int) (m : List Ext) : Prop := a = b ∧ l = m
instance (a : Int) (l : List Ext) (b : Int) (m : List Ext) : Decidable (sameC a l b m) := by unfold sameC; infer_instance
theorem extent_Same_p {a b : Int} {l m : List Ext} {v w : AV} (hv : SV encE 9 l v) (hw : SV encE 9 m w) (hl : l.length ≤ 281474976710656) :
    BPure Try.prog 24 [.agg [I a, v], .agg [I b, w]] (B (decide (sameC a l b m))) := BPure.val (by simp [noIdss, noIds, hv.1, hw.1]) rfl (extent_Same_ok (by
  unfold extent_Same
  simp [oneA_sv hv, oneA_sv hw]
  by_cases h : a = b
  · simp [h]
    refine bP_pure (extent_Equal_p hv hw hl) ?_
    simp [sameC]
  · simp [h, sameC]))
theorem ref_SameContent_p {a b : Int} {l m : List Ext} {v w : AV} (hv : SV encE 9 l v) (hw : SV encE 9 m w) (hl : l.length ≤ 281474976710656) :
    BPure Try.prog 19 [.agg [I a, v], .agg [I b, w]] (B (decide (sameC a l b m))) := BPure.val (by simp [noIdss, noIds, hv.1, hw.1]) rfl (salvorref11_SameContent_ok (by
  unfold salvorref11_SameContent
  simp [oneA_sv hv, oneA_sv hw]
  by_cases h : a = b
  · by_cases h0 : l.length = m.length
    · simp [h, hv.len, hw.len, h0]
      refine salvorref11_SameContent_L6_rule (fun n x2 x3 x5 H' => ∃ k : Nat, k + n = l.length ∧ x2 = .ptr 0 0 ∧ x3 = .ptr 1 0 ∧ x5 = I k ∧ H' = [some (.cells [I b, v]), some (.cells [I b, w])] ∧ l.take k = m.take k) ?_ l.length ⟨0, by simp, rfl, rfl, rfl, rfl, rfl⟩
      rintro n x2 x3 x5 H' R hR ⟨k, hk, rfl, rfl, rfl, rfl, ht⟩
      unfold salvorref11_SameContent_L6_b
      rcases Nat.lt_or_ge k l.length with hlt | hge
      · have hx := List.getElem?_eq_getElem hlt
        have hy := List.getElem?_eq_getElem (l := m) (i := k) (by omega)
        generalize l[k] = x at hx
        generalize m[k]'(by omega) = y at hy
        simp [hlt, hv.len, hv.idx encE_len hx rfl, hw.idx encE_len hy rfl, neExt]
        by_cases hxy : x = y
        · simp [hxy, abI_add (a := k) (b := 1) (by omega) (by omega)]
          refine hR (n - 1) _ _ _ _ (by omega) ⟨k + 1, by omega, rfl, rfl, rfl, rfl, ?_⟩
          rw [List.take_add_one, List.take_add_one, hx, hy, ht, hxy]
        · have : l ≠ m := by
            rintro rfl
            rw [hx] at hy; injection hy with hy; exact hxy hy
          simp [hxy, this, sameC]
      · have : k = l.length := by omega
        subst this
        have e : l = m := by
          rw [List.take_length, h0, List.take_length] at ht; exact ht
        simp [hv.len, e, sameC]
    · have : l ≠ m := fun h => h0 (by rw [h])
      have h0' : ¬ (l.length : Int) = m.length := by omega
      simp [h, hv.len, hw.len, h0, h0', this, sameC]
  · simp [h, sameC]))

/-! a block's bytes -/
theorem posL_at {l : List Ext} (h : srt l) {k : Nat} {x : Ext} (hx : l[k]? = some x) : posL l x.no = k :=
  posL_eq (Nat.le_of_lt (List.getElem?_eq_some_iff.1 hx).1) (fun j y hj hy => srt_get h hy hx hj) (fun y hy => by rw [hx] at hy; injection hy with hy; rw [hy]; omega)
theorem ref_find_p {size : Int} {l : List Ext} {v : AV} (hv : SV encE 9 l v) (hs : srt l) (hl : l.length ≤ 281474976710656) (no : Int) :
    BPure Try.prog 42 [.agg [I size, v], I no] (I (if hasL l no then (posL l no : Int) else -1)) := BPure.val (by simp [noIdss, noIds, hv.1]) rfl (salvorref11_find_ok (by
  unfold salvorref11_find
  simp [oneA_sv hv]
  refine salvorref11_find_L3_rule (fun n x1 x2 x5 H' => ∃ k : Nat, k + n = l.length ∧ x1 = I no ∧ x2 = .ptr 0 0 ∧ x5 = I k ∧ H' = [some (.cells [I size, v])] ∧ ∀ m x, m < k → l[m]? = some x → x.no ≠ no) ?_ l.length ⟨0, by simp, rfl, rfl, rfl, rfl, by simp⟩
  rintro n x1 x2 x5 H' R hR ⟨k, hk, rfl, rfl, rfl, rfl, hm⟩
  unfold salvorref11_find_L3_b
  rcases Nat.lt_or_ge k l.length with hlt | hge
  · have hx := List.getElem?_eq_getElem hlt
    generalize l[k] = x at hx
    simp [hlt, hv.len, hv.idx encE_len hx rfl]
    by_cases he : x.no = no
    · have h1 : hasL l no := ⟨x, List.mem_of_getElem? hx, he⟩
      have h2 := posL_at hs hx
      rw [he] at h2
      simp [he, h1, h2]
    · simp [he, abI_add (a := k) (b := 1) (by omega) (by omega)]
      refine hR (n - 1) _ _ _ _ (by omega) ⟨k + 1, by omega, rfl, rfl, rfl, rfl, ?_⟩
      intro m y hmk hy
      by_cases hmk2 : m = k
      · rw [hmk2, hx] at hy; injection hy with hy; rw [← hy]; exact he
      · exact hm m y (by omega) hy
  · have : ¬ hasL l no := by
      rintro ⟨x, hx, he⟩
      obtain ⟨m, hmx⟩ := List.mem_iff_getElem?.1 hx
      exact hm m x (by have := (List.getElem?_eq_some_iff.1 hmx).1; omega) hmx he
    have hk' : k = l.length := by omega
    simp [hk', hv.len, this]))
end Go.Proofs.Ytflodknflaallaa.Av
