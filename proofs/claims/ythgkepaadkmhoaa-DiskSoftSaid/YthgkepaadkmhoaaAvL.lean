/- The operations on slices, in terms of what a slice holds. -/
import Derived.Test.YthgkepaadkmhoaaAvXe
set_option linter.unusedVariables false
set_option linter.unusedSimpArgs false
namespace Go.Proofs.Ythgkepaadkmhoaa.Av
open Go Go.RowKit

/-- A slice that may be appended to: nil, empty, or in an object. -/
def ownedS : AV → Bool
  | .lit (.slice none _ _) => true
  | .emp => true
  | .sl _ _ _ _ _ => true
  | _ => false
def idS : AV → List Nat
  | .sl o _ _ _ _ => [o]
  | _ => []
theorem sliceCells_len {H : AH} {sz : Nat} {v : AV} {cs : List AV} {n : Nat} (h : sliceCells H sz v = some (cs, n)) : cs.length = n * sz := by
  unfold sliceCells at h
  split at h
  · split at h
    · rename_i hb
      injection h with h; injection h with h1 h2
      subst h1; subst h2
      exact hb.2
    · cases h
  · split at h
    · split at h
      · rename_i hb
        injection h with h; injection h with h1 h2
        subst h1; subst h2
        rw [List.length_take, List.length_drop]; omega
      · cases h
    · cases h
  · injection h with h; injection h with h1 h2; subst h1; subst h2; simp
  · injection h with h; injection h with h1 h2; subst h1; subst h2; simp
  · cases h
theorem appended_len {H : AH} {sz : Nat} {v : AV} {cs : List AV} {n : Nat} (h : appended H sz v = some (cs, n)) : cs.length = n * sz := by
  unfold appended at h
  split at h
  · split at h
    · rename_i hs
      injection h with h; injection h with h1 h2
      subst h1; subst h2; subst hs
      simp
    · cases h
  · exact sliceCells_len h
theorem appended_slice {H : AH} {sz : Nat} {v : AV} {q : List AV × Nat} (h : sliceCells H sz v = some q) : appended H sz v = some q := by
  unfold appended
  split
  · cases h
  · exact h
theorem over_read (cs : List AV) (off l : Nat) (ds : List AV) (h : off + l ≤ cs.length) : ((over cs (off + l) ds).drop off).take (l + ds.length) = (cs.drop off).take l ++ ds ∧ off + (l + ds.length) ≤ (over cs (off + l) ds).length := by
  unfold over
  constructor
  · rw [List.append_assoc, List.drop_append_of_le_length (by rw [List.length_take]; omega), List.take_append]
    have e1 : ((cs.take (off + l)).drop off) = (cs.drop off).take l := by rw [List.drop_take]; congr 1; omega
    rw [e1]
    have e2 : ((cs.drop off).take l).length = l := by rw [List.length_take, List.length_drop]; omega
    rw [e2, List.take_of_length_le (by omega)]
    congr 1
    rw [show l + ds.length - l = ds.length by omega, List.take_left]
  · simp only [List.length_append, List.length_take]; omega
theorem sliceCells_sl {H : AH} {sz o off n : Nat} {cap : Room} {c : List AV} (ho : H[o]? = some (some (.cells c))) (hf : off + n * sz ≤ c.length) : sliceCells H sz (.sl o off n sz cap) = some ((c.drop off).take (n * sz), n) := by
  simp [sliceCells, ho, hf]
theorem sliceCells_keep {H H' : AH} {sz : Nat} {v : AV} {q : List AV × Nat} (h : sliceCells H sz v = some q) (hk : ∀ i ∈ idS v, H'[i]? = H[i]?) : sliceCells H' sz v = some q := by
  cases v with
  | sl o off len esz cap =>
    have := hk o (by simp [idS])
    simp only [sliceCells] at h ⊢
    rw [this]; exact h
  | lit u =>
    unfold sliceCells at h ⊢
    split at h <;> simp_all
  | imm cs len esz => simpa only [sliceCells] using h
  | emp => simpa only [sliceCells] using h
  | _ => simp [sliceCells] at h
theorem sliceCells_lt {H : AH} {sz : Nat} {v : AV} {q : List AV × Nat} (h : sliceCells H sz v = some q) : ∀ i ∈ idS v, i < H.length := by
  intro i hi
  cases v with
  | sl o off len esz cap =>
    simp only [idS, List.mem_singleton] at hi
    subst hi
    simp only [sliceCells] at h
    split at h
    · rename_i ho
      exact (List.getElem?_eq_some_iff.1 ho).1
    · cases h
  | _ => simp [idS] at hi

section
variable {P : Program}
def elemOkB (P : Program) (e : TypeId) (sz bytes : Nat) : Bool :=
  match P.info? e with
  | some i => match i.zero with
    | some z => decide (i.size = sz) && decide (i.bytes = bytes) && decide (sz ≠ 0) && decide (bytes ≠ 0) && decide (z.cells.size = sz)
    | none => false
  | none => false
/-- append, its types worked out. -/
theorem aapp1_spec {sz bytes : Nat} {H : AH} {s : AV} {cs ds : List AV} {n m : Nat} (h1 : sliceCells H sz s = some (cs, n)) (ho : ownedS s = true) (hdl : ds.length = m * sz) (hb : (n + m) * bytes ≤ 140737488355328) :
    ∃ r H', aapp1 H sz bytes s ds m = some (r, H') ∧ ownedS r = true ∧ sliceCells H' sz r = some (cs ++ ds, n + m) ∧ H.length ≤ H'.length ∧ (∀ i, i < H.length → i ∉ idS s → H'[i]? = H[i]?) ∧ ∀ i ∈ idS r, i ∈ idS s ∨ H.length ≤ i := by
  have hcl := sliceCells_len h1
  have newc : sliceCells (H ++ [some (.cells ds)]) sz (.sl H.length 0 m sz (.ge m)) = some (ds, m) := by
    rw [sliceCells_sl (c := ds) (by simp) (by omega)]
    simp only [List.drop_zero]
    rw [List.take_of_length_le (by omega)]
  have keep : ∀ (X : AH) (i : Nat), i < H.length → (H ++ X)[i]? = H[i]? := fun X i hi => List.getElem?_append_left hi
  have hnil : n = 0 → cs = [] := fun h0 => List.eq_nil_of_length_eq_zero (by rw [hcl, h0]; simp)
  unfold sliceCells at h1
  split at h1
  · simp [ownedS] at ho
  · -- an object
    rename_i o off len esz cap
    split at h1
    · rename_i c hoc
      split at h1
      · rename_i hb1
        obtain ⟨rfl, hfit⟩ := hb1
        injection h1 with h1
        injection h1 with h3 h4
        subst h3; subst h4
        have hol := (List.getElem?_eq_some_iff.1 hoc).1
        have hadd : (len + m) * esz = len * esz + m * esz := Nat.add_mul _ _ _
        obtain ⟨ov1, ov2⟩ := over_read c off (len * esz) ds hfit
        have inplace : ∀ cap', sliceCells (H.set o (some (.cells (over c (off + len * esz) ds)))) esz (.sl o off (len + m) esz cap') = some ((c.drop off).take (len * esz) ++ ds, len + m) := by
          intro cap'
          rw [sliceCells_sl (c := over c (off + len * esz) ds) (by rw [List.getElem?_set_self hol]) (by rw [hadd, ← hdl]; exact ov2)]
          rw [hadd, ← hdl, ov1]
        have fresh : ∀ (H2 : AH) cap', H2.length = H.length → sliceCells (H2 ++ [some (.cells ((c.drop off).take (len * esz) ++ ds))]) esz (.sl H.length 0 (len + m) esz cap') = some ((c.drop off).take (len * esz) ++ ds, len + m) := by
          intro H2 cap' hl
          rw [sliceCells_sl (c := (c.drop off).take (len * esz) ++ ds) (by rw [← hl]; simp) (by rw [List.length_append, hcl, hdl]; omega)]
          simp only [List.drop_zero]
          rw [List.take_of_length_le (by rw [List.length_append, hcl, hdl]; omega)]
        have hkeep : ∀ (y : Option AObj) (X : AH) (i : Nat), i < H.length → i ∉ idS (.sl o off len esz cap) → (H.set o y ++ X)[i]? = H[i]? := by
          intro y X i hi hn
          rw [List.getElem?_append_left (by simpa using hi), List.getElem?_set_ne (by simp [idS] at hn; omega)]
        unfold aapp1
        simp only [hoc, ne_eq, not_true_eq_false, false_or, hfit, if_false]
        cases cap with
        | ex k =>
          simp only
          by_cases hk : len + m ≤ k
          · rw [if_pos hk]
            exact ⟨_, _, rfl, rfl, inplace _, by simp, fun i hi hn => by simpa using hkeep _ [] i hi hn, fun i hi => .inl (by simpa [idS] using hi)⟩
          · rw [if_neg hk, if_pos hb]
            exact ⟨_, _, rfl, rfl, fresh H _ rfl, by simp, fun i hi _ => keep _ i hi, fun i hi => .inr (by simp [idS] at hi; omega)⟩
        | ge k =>
          simp only
          by_cases hm : m = 0
          · subst hm
            have hd0 : ds = [] := List.eq_nil_of_length_eq_zero (by rw [hdl]; simp)
            subst hd0
            rw [if_pos rfl]
            exact ⟨_, _, rfl, rfl, by rw [sliceCells_sl hoc hfit]; simp, Nat.le_refl _, fun _ _ _ => rfl, fun i hi => .inl hi⟩
          · rw [if_neg hm]
            by_cases hk : len + m ≤ k
            · rw [if_pos hk]
              exact ⟨_, _, rfl, rfl, inplace _, by simp, fun i hi hn => by simpa using hkeep _ [] i hi hn, fun i hi => .inl (by simpa [idS] using hi)⟩
            · rw [if_neg hk, if_pos hb]
              exact ⟨_, _, rfl, rfl, fresh (H.set o none) _ (by simp), by simp, fun i hi hn => hkeep none _ i hi hn, fun i hi => .inr (by simp [idS] at hi; omega)⟩
      · cases h1
    · cases h1
  · -- nil
    injection h1 with h1
    injection h1 with h3 h4
    subst h3; subst h4
    unfold aapp1
    simp only
    by_cases hm : m = 0
    · subst hm
      have hd0 : ds = [] := List.eq_nil_of_length_eq_zero (by rw [hdl]; simp)
      subst hd0
      rw [if_pos rfl]
      exact ⟨_, _, rfl, rfl, rfl, Nat.le_refl _, fun _ _ _ => rfl, fun i hi => .inl hi⟩
    · rw [if_neg hm, if_pos (by simpa using hb)]
      exact ⟨_, _, rfl, rfl, by simpa using newc, by simp, fun i hi _ => keep _ i hi, fun i hi => .inr (by simp [idS] at hi; omega)⟩
  · -- empty
    injection h1 with h1
    injection h1 with h3 h4
    subst h3; subst h4
    unfold aapp1
    simp only
    by_cases hm : m = 0
    · subst hm
      have hd0 : ds = [] := List.eq_nil_of_length_eq_zero (by rw [hdl]; simp)
      subst hd0
      rw [if_pos rfl]
      exact ⟨_, _, rfl, rfl, rfl, Nat.le_refl _, fun _ _ _ => rfl, fun i hi => .inl hi⟩
    · rw [if_neg hm, if_pos (by simpa using hb)]
      exact ⟨_, _, rfl, rfl, by simpa using newc, by simp, fun i hi _ => keep _ i hi, fun i hi => .inr (by simp [idS] at hi; omega)⟩
  · cases h1
/-- append. -/
theorem aappend_spec {ts tx e : TypeId} {sz bytes : Nat} (hs : P.underlying ts = some (.slice e)) (hx : (∃ e', P.underlying tx = some (.slice e')) ∨ P.underlying tx = some .string) (he : elemOkB P e sz bytes = true)
    {H : AH} {s x : AV} {cs ds : List AV} {n m : Nat} (h1 : sliceCells H sz s = some (cs, n)) (ho : ownedS s = true) (h2 : appended H sz x = some (ds, m)) (hb : (n + m) * bytes ≤ 140737488355328) :
    ∃ r H', aappend P H ts tx s x = some (r, H') ∧ ownedS r = true ∧ sliceCells H' sz r = some (cs ++ ds, n + m) ∧ H.length ≤ H'.length ∧ (∀ i, i < H.length → i ∉ idS s → H'[i]? = H[i]?) ∧ ∀ i ∈ idS r, i ∈ idS s ∨ H.length ≤ i := by
  have hdl := appended_len h2
  have key : aappend P H ts tx s x = aapp1 H sz bytes s ds m := by
    unfold elemOkB at he
    split at he
    · rename_i i hi
      split at he
      · rename_i z hz
        simp only [Bool.and_eq_true, decide_eq_true_eq] at he
        obtain ⟨⟨⟨⟨rfl, rfl⟩, e3⟩, e4⟩, e5⟩ := he
        unfold aappend
        rcases hx with ⟨e', hx⟩ | hx <;> simp [hs, hx, hi, hz, h2, e3, e4, e5]
      · cases he
    · cases he
  rw [key]
  exact aapp1_spec h1 ho hdl hb
/-- len of a slice. -/
theorem alen_spec {t e : TypeId} (hu : P.underlying t = some (.slice e)) {H : AH} {sz : Nat} {v : AV} {cs : List AV} {n : Nat} (h : sliceCells H sz v = some (cs, n)) : alen P t v = some (.lit (.int .i64 n)) := by
  unfold sliceCells at h
  unfold alen
  split at h
  · split at h
    · injection h with h; injection h with h1 h2; subst h2; simp [hu]
    · cases h
  · split at h
    · split at h
      · injection h with h; injection h with h1 h2; subst h2; simp [hu]
      · cases h
    · cases h
  · injection h with h; injection h with h1 h2; subst h2; simp [hu]
  · injection h with h; injection h with h1 h2; subst h2; simp [hu]
  · cases h
/-- A part of a slice. -/
theorem aslice_spec {t e : TypeId} (hu : P.underlying t = some (.slice e)) {sz : Nat} (hz : tSize P e = some sz) {H : AH} {v : AV} {cs : List AV} {n : Nat} (h : sliceCells H sz v = some (cs, n)) {lo hi : Option AV} {l k : Nat}
    (hl : abnd lo 0 = some l) (hk : abnd hi n = some k) (hlk : l ≤ k) (hkn : k ≤ n) :
    ∃ r, aslice P H t v lo hi none = some r ∧ sliceCells H sz r = some ((cs.drop (l * sz)).take ((k - l) * sz), k - l) ∧ (∀ i ∈ idS r, i ∈ idS v) ∧ (ownedS v = true → ownedS r = true) := by
  have hcl := sliceCells_len h
  have hmul : l * sz + (k - l) * sz = k * sz := by rw [← Nat.add_mul]; congr 1; omega
  have hmul2 : k * sz ≤ n * sz := Nat.mul_le_mul_right _ hkn
  unfold sliceCells at h
  unfold aslice
  simp only [hu, hz]
  split at h
  · rename_i c len esz
    split at h
    · rename_i hb
      obtain ⟨rfl, hb⟩ := hb
      injection h with h; injection h with h1 h2
      subst h1; subst h2
      simp only [hl, hk, hlk, hkn, and_self, if_true]
      refine ⟨_, rfl, ?_, (fun i hi => hi), (fun h => by simp [ownedS] at h)⟩
      simp only [sliceCells, true_and]
      rw [if_pos (by rw [List.length_take, List.length_drop]; omega)]
    · cases h
  · rename_i o off len esz cap
    split at h
    · rename_i c hoc
      split at h
      · rename_i hb
        obtain ⟨rfl, hb⟩ := hb
        injection h with h; injection h with h1 h2
        subst h1; subst h2
        simp only [ne_eq, not_true_eq_false, if_false, hl, hk]
        rw [if_pos ⟨hlk, by omega⟩]
        refine ⟨_, rfl, ?_, (fun i hi => hi), (fun _ => rfl)⟩
        rw [sliceCells_sl hoc (by omega), List.drop_take, List.drop_drop, List.take_take]
        congr 3
        omega
      · cases h
    · cases h
  · injection h with h; injection h with h1 h2
    subst h1; subst h2
    obtain rfl : k = 0 := by omega
    obtain rfl : l = 0 := by omega
    simp only [hl, hk]
    exact ⟨_, rfl, by simp [sliceCells], (fun i hi => hi), (fun _ => rfl)⟩
  · injection h with h; injection h with h1 h2
    subst h1; subst h2
    obtain rfl : k = 0 := by omega
    obtain rfl : l = 0 := by omega
    simp only [hl, hk]
    exact ⟨_, rfl, by simp [sliceCells], (fun i hi => hi), (fun _ => rfl)⟩
  · cases h
/-- An element of a slice, where it is one cell. -/
theorem index_spec {t e : TypeId} (hu : P.underlying t = some (.slice e)) (hz : tSize P e = some 1) (ha : tAgg P e = some false) {H : AH} {v b : AV} {cs : List AV} {n k : Nat} {ik : IntKind} (h : sliceCells H 1 v = some (cs, n)) (hb : cs[k]? = some b) :
    ∃ a, aindexAddr P t v (.lit (.int ik k)) = some a ∧ aload P H e a = some b := by
  have hcl := sliceCells_len h
  have hk : k < n := by have := (List.getElem?_eq_some_iff.1 hb).1; omega
  unfold sliceCells at h
  unfold aindexAddr
  simp only [aint, hu, hz]
  split at h
  · split at h
    · injection h with h; injection h with h1 h2
      subst h1; subst h2
      refine ⟨_, if_pos (by omega), ?_⟩
      simp [aload, hz, ha, rdCells, hb]
    · cases h
  · rename_i o off len esz cap
    split at h
    · rename_i c hoc
      split at h
      · rename_i hb1
        obtain ⟨rfl, hb1⟩ := hb1
        injection h with h; injection h with h1 h2
        subst h1; subst h2
        refine ⟨_, if_pos (by omega), ?_⟩
        rw [List.getElem?_take, if_pos (by omega), List.getElem?_drop] at hb
        simp [aload, hz, ha, rdCells, hoc, hb]
      · cases h
    · cases h
  · injection h with h; injection h with h1 h2
    subst h1; simp at hb
  · injection h with h; injection h with h1 h2
    subst h1; simp at hb
  · cases h
end
end Go.Proofs.Ythgkepaadkmhoaa.Av
