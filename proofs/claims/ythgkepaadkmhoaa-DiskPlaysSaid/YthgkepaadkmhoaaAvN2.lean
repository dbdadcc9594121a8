/- Freezing what is answered, part by part. -/
import Derived.Test.YthgkepaadkmhoaaAvJ
import Derived.Test.YthgkepaadkmhoaaAvK3
set_option linter.unusedVariables false
set_option linter.unusedSimpArgs false
namespace Go.Proofs.Ythgkepaadkmhoaa.Av
open Go Go.RowKit

/-- v, with what it names in X, is R as memory that nobody writes. -/
def FZ (X : AH) (v R : AV) : Prop := ∃ n0, ∀ n, n0 ≤ n → frz X n v = some R
def FZs (X : AH) (vs Rs : List AV) : Prop := ∃ n0, ∀ n, n0 ≤ n → mapO (frz X n) vs = some Rs
theorem FZs.nil {X : AH} : FZs X [] [] := ⟨0, fun _ _ => rfl⟩
theorem FZs.cons {X : AH} {v R : AV} {vs Rs : List AV} (h : FZ X v R) (hs : FZs X vs Rs) : FZs X (v :: vs) (R :: Rs) := by
  obtain ⟨a, ha⟩ := h
  obtain ⟨b, hb⟩ := hs
  exact ⟨a + b, fun n hn => by simp only [mapO, ha n (by omega), hb n (by omega)]⟩
theorem FZ.agg {X : AH} {vs Rs : List AV} (hs : FZs X vs Rs) : FZ X (.agg vs) (.agg Rs) := by
  obtain ⟨b, hb⟩ := hs
  refine ⟨b + 1, fun n hn => ?_⟩
  cases n with
  | zero => omega
  | succ n => simp only [frz, hb n (by omega)]; rfl
theorem FZ.tup {X : AH} {vs Rs : List AV} (hs : FZs X vs Rs) : FZ X (.tup vs) (.tup Rs) := by
  obtain ⟨b, hb⟩ := hs
  refine ⟨b + 1, fun n hn => ?_⟩
  cases n with
  | zero => omega
  | succ n => simp only [frz, hb n (by omega)]; rfl
theorem FZ.lit {X : AH} (v : Value) : FZ X (.lit v) (.lit v) := ⟨1, fun n hn => by cases n with
  | zero => omega
  | succ n => rfl⟩
theorem FZ.same {X : AH} {v : AV} (h : noIds v = true) : FZ X v v := frz_noIds X v h
theorem FZ.sv {α : Type} {enc : α → List AV} {X : AH} {sz : Nat} {l : List α} {v : AV} (h : sliceCells X sz v = some (l.flatMap enc, l.length)) (hc : noIdss (l.flatMap enc) = true) : ∃ R, SV enc sz l R ∧ FZ X v R := by
  obtain ⟨R, n0, h1, h2, h3⟩ := frz_slice h hc
  exact ⟨R, ⟨h1, h2⟩, n0, h3⟩
section
variable {P : Program} {f : FuncId} {args : List AV}
theorem BPure.FZ {Q : AV → Prop} (hb : noIdss args = true) (h : ∃ r X, (∃ R, Av.FZ X r R ∧ Q R) ∧ BCall P f args [] r X) : ∃ R, Q R ∧ BPure P f args R := by
  obtain ⟨r, X, ⟨R, ⟨n, hn⟩, hq⟩, h⟩ := h
  exact BPure.fz hb ⟨r, X, ⟨n, R, hn n (Nat.le_refl _), hq⟩, h⟩
/-- What is one's own may be lent, if the answer points nowhere. -/
theorem PCall.lend {H : AH} {args' : List AV} {x : AV} (hs : FZs H args args') (hx : flatA x = true) (h : BPure P f args' x) : PCall P f args H x := by
  obtain ⟨n, hn⟩ := hs
  exact .inr ⟨n, args', hn n (Nat.le_refl _), hx, h⟩
end
theorem noIdss_app : ∀ {a b : List AV}, noIdss a = true → noIdss b = true → noIdss (a ++ b) = true
  | [], b, _, h => h
  | x :: a, b, h1, h2 => by
    simp only [noIdss, Bool.and_eq_true, List.cons_append] at h1 ⊢
    exact ⟨h1.1, noIdss_app h1.2 h2⟩
theorem noIdss_flat {α : Type} {enc : α → List AV} : ∀ {l : List α}, (∀ x ∈ l, noIdss (enc x) = true) → noIdss (l.flatMap enc) = true
  | [], _ => rfl
  | a :: l, h => by
    rw [List.flatMap_cons]
    exact noIdss_app (h a (by simp)) (noIdss_flat fun x hx => h x (by simp [hx]))
/-- A slice of one's own that has elements lies in an object. -/
theorem owned_sl {H : AH} {sz n : Nat} {v : AV} {cs : List AV} (h : sliceCells H sz v = some (cs, n)) (ho : ownedS v = true) (hn : 0 < n) :
    ∃ o off cap cells, v = .sl o off n sz cap ∧ H[o]? = some (some (.cells cells)) ∧ off + n * sz ≤ cells.length ∧ cs = (cells.drop off).take (n * sz) := by
  unfold sliceCells at h
  split at h
  · simp [ownedS] at ho
  · rename_i o off len esz cap
    split at h
    · rename_i c hoc
      split at h
      · rename_i hb
        obtain ⟨rfl, hb⟩ := hb
        injection h with h; injection h with h1 h2
        subst h1; subst h2
        exact ⟨o, off, cap, c, rfl, hoc, hb, rfl⟩
      · cases h
    · cases h
  · injection h with h; injection h with h1 h2; omega
  · injection h with h; injection h with h1 h2; omega
  · cases h
theorem over_len {cs xs : List AV} {k : Nat} (h : k + xs.length ≤ cs.length) : (over cs k xs).length = cs.length := by
  unfold over
  simp only [List.length_append, List.length_take, List.length_drop]; omega
theorem over_get {cs xs : List AV} {k : Nat} (h : k + xs.length ≤ cs.length) (i : Nat) : (over cs k xs)[i]? = if k ≤ i ∧ i < k + xs.length then xs[i - k]? else cs[i]? := by
  have h1 : (cs.take k).length = k := by rw [List.length_take]; omega
  unfold over
  split
  · rename_i c
    rw [List.getElem?_append_left (by rw [List.length_append]; omega), List.getElem?_append_right (by omega), h1]
  · rename_i c
    by_cases c1 : i < k
    · rw [List.append_assoc, List.getElem?_append_left (by omega), List.getElem?_take, if_pos c1]
    · rw [List.getElem?_append_right (by rw [List.length_append]; omega), List.length_append, h1, List.getElem?_drop]
      congr 1; omega
/-- What a slice in an object holds, when its object was written. -/
theorem over_part {cs xs : List AV} {off m k : Nat} (h1 : off + m ≤ cs.length) (h2 : k + xs.length ≤ m) : ((over cs (off + k) xs).drop off).take m = over ((cs.drop off).take m) k xs := by
  refine List.ext_getElem? fun i => ?_
  rw [List.getElem?_take, List.getElem?_drop, over_get (by omega), over_get (by rw [List.length_take, List.length_drop]; omega), List.getElem?_take, List.getElem?_drop]
  by_cases c : i < m
  · rw [if_pos c]
    by_cases c2 : k ≤ i ∧ i < k + xs.length
    · rw [if_pos c2, if_pos (by omega)]; congr 1; omega
    · rw [if_neg c2, if_neg (by omega), if_pos c]
  · rw [if_neg c, if_neg (by omega), if_neg c]
/-- One element of a list of elements. -/
theorem over_flat {α : Type} {enc : α → List AV} {sz : Nat} (hsz : ∀ x, (enc x).length = sz) {l : List α} {k q : Nat} {x y : α} {xs : List AV} (hx : l[k]? = some x) (hy : enc y = over (enc x) q xs) (hq : q + xs.length ≤ sz) :
    over (l.flatMap enc) (k * sz + q) xs = (l.set k y).flatMap enc := by
  induction l generalizing k with
  | nil => simp at hx
  | cons a l ih =>
    cases k with
    | zero =>
      simp at hx
      subst hx
      rw [List.set_cons_zero, List.flatMap_cons, List.flatMap_cons, hy]
      have ha := hsz a
      unfold over
      rw [Nat.zero_mul, Nat.zero_add, List.take_append_of_le_length (by omega), List.drop_append_of_le_length (by omega)]
      simp [List.append_assoc]
    | succ k =>
      simp at hx
      rw [List.set_cons_succ, List.flatMap_cons, List.flatMap_cons, ← ih hx]
      have ha := hsz a
      unfold over
      have e : (k + 1) * sz + q = (enc a).length + (k * sz + q) := by rw [ha, Nat.succ_mul]; omega
      rw [e, List.take_length_add_append, show (enc a).length + (k * sz + q) + xs.length = (enc a).length + (k * sz + q + xs.length) by omega, List.drop_length_add_append]
      simp [List.append_assoc]
end Go.Proofs.Ythgkepaadkmhoaa.Av
