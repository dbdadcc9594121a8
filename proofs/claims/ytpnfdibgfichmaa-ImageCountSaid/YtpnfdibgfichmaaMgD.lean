/- Texts of this proof, one behind the other, packed into one file by a program of this session. No condition. -/
import Derived.Test.YtpnfdibgfichmaaMgC
import Derived.ChangeArms
import Derived.DataElems
import Derived.DataReads
import Derived.KernelRfl
import Derived.Laws.IdiomStrings
import Derived.Lib.Bytealg
import Derived.OpenShut
import Derived.ProofKit
import Derived.SizedLaws
import Derived.Test.YtpnfdibgfichmaaRows
import Derived.WalkKit
/-! YtpnfdibgfichmaaAvL -/
section
/- The operations on slices, in terms of what a slice holds. -/
set_option linter.unusedVariables false
set_option linter.unusedSimpArgs false
namespace Go.Proofs.Ytpnfdibgfichmaa.Av
open Go Go.RowKit

/-- A slice that may be appended to: nil, empty, or in an object. -/
def ownedS : AV → Bool
  | .lit (.slice none _ _) => true
  | .emp => true
  | .sl _ _ _ _ _ => true
  | _ => false
def idS : AV → List Nat
  | .sl o _ _ _ _ => [o]
  | _ => []
theorem sliceCells_len {H : AH} {sz : Nat} {v : AV} {cs : List AV} {n : Nat} (h : sliceCells H sz v = some (cs, n)) : cs.length = n * sz := by
  unfold sliceCells at h
  split at h
  · split at h
    · rename_i hb
      injection h with h; injection h with h1 h2
      subst h1; subst h2
      exact hb.2
    · cases h
  · split at h
    · split at h
      · rename_i hb
        injection h with h; injection h with h1 h2
        subst h1; subst h2
        rw [List.length_take, List.length_drop]; omega
      · cases h
    · cases h
  · injection h with h; injection h with h1 h2; subst h1; subst h2; simp
  · injection h with h; injection h with h1 h2; subst h1; subst h2; simp
  · cases h
theorem appended_len {H : AH} {sz : Nat} {v : AV} {cs : List AV} {n : Nat} (h : appended H sz v = some (cs, n)) : cs.length = n * sz := by
  unfold appended at h
  split at h
  · split at h
    · rename_i hs
      injection h with h; injection h with h1 h2
      subst h1; subst h2; subst hs
      simp
    · cases h
  · exact sliceCells_len h
theorem appended_slice {H : AH} {sz : Nat} {v : AV} {q : List AV × Nat} (h : sliceCells H sz v = some q) : appended H sz v = some q := by
  unfold appended
  split
  · cases h
  · exact h
theorem over_read (cs : List AV) (off l : Nat) (ds : List AV) (h : off + l ≤ cs.length) : ((over cs (off + l) ds).drop off).take (l + ds.length) = (cs.drop off).take l ++ ds ∧ off + (l + ds.length) ≤ (over cs (off + l) ds).length := by
  unfold over
  constructor
  · rw [List.append_assoc, List.drop_append_of_le_length (by rw [List.length_take]; omega), List.take_append]
    have e1 : ((cs.take (off + l)).drop off) = (cs.drop off).take l := by rw [List.drop_take]; congr 1; omega
    rw [e1]
    have e2 : ((cs.drop off).take l).length = l := by rw [List.length_take, List.length_drop]; omega
    rw [e2, List.take_of_length_le (by omega)]
    congr 1
    rw [show l + ds.length - l = ds.length by omega, List.take_left]
  · simp only [List.length_append, List.length_take]; omega
theorem sliceCells_sl {H : AH} {sz o off n : Nat} {cap : Room} {c : List AV} (ho : H[o]? = some (some (.cells c))) (hf : off + n * sz ≤ c.length) : sliceCells H sz (.sl o off n sz cap) = some ((c.drop off).take (n * sz), n) := by
  simp [sliceCells, ho, hf]
theorem sliceCells_keep {H H' : AH} {sz : Nat} {v : AV} {q : List AV × Nat} (h : sliceCells H sz v = some q) (hk : ∀ i ∈ idS v, H'[i]? = H[i]?) : sliceCells H' sz v = some q := by
  cases v with
  | sl o off len esz cap =>
    have := hk o (by simp [idS])
    simp only [sliceCells] at h ⊢
    rw [this]; exact h
  | lit u =>
    unfold sliceCells at h ⊢
    split at h <;> simp_all
  | imm cs len esz => simpa only [sliceCells] using h
  | emp => simpa only [sliceCells] using h
  | _ => simp [sliceCells] at h
theorem sliceCells_lt {H : AH} {sz : Nat} {v : AV} {q : List AV × Nat} (h : sliceCells H sz v = some q) : ∀ i ∈ idS v, i < H.length := by
  intro i hi
  cases v with
  | sl o off len esz cap =>
    simp only [idS, List.mem_singleton] at hi
    subst hi
    simp only [sliceCells] at h
    split at h
    · rename_i ho
      exact (List.getElem?_eq_some_iff.1 ho).1
    · cases h
  | _ => simp [idS] at hi

section
variable {P : Program}
def elemOkB (P : Program) (e : TypeId) (sz bytes : Nat) : Bool :=
  match P.info? e with
  | some i => match i.zero with
    | some z => decide (i.size = sz) && decide (i.bytes = bytes) && decide (sz ≠ 0) && decide (bytes ≠ 0) && decide (z.cells.size = sz)
    | none => false
  | none => false
/-- append, its types worked out. -/
theorem aapp1_spec {sz bytes : Nat} {H : AH} {s : AV} {cs ds : List AV} {n m : Nat} (h1 : sliceCells H sz s = some (cs, n)) (ho : ownedS s = true) (hdl : ds.length = m * sz) (hb : (n + m) * bytes ≤ 140737488355328) :
    ∃ r H', aapp1 H sz bytes s ds m = some (r, H') ∧ ownedS r = true ∧ sliceCells H' sz r = some (cs ++ ds, n + m) ∧ H.length ≤ H'.length ∧ (∀ i, i < H.length → i ∉ idS s → H'[i]? = H[i]?) ∧ ∀ i ∈ idS r, i ∈ idS s ∨ H.length ≤ i := by
  have hcl := sliceCells_len h1
  have newc : sliceCells (H ++ [some (.cells ds)]) sz (.sl H.length 0 m sz (.ge m)) = some (ds, m) := by
    rw [sliceCells_sl (c := ds) (by simp) (by omega)]
    simp only [List.drop_zero]
    rw [List.take_of_length_le (by omega)]
  have keep : ∀ (X : AH) (i : Nat), i < H.length → (H ++ X)[i]? = H[i]? := fun X i hi => List.getElem?_append_left hi
  have hnil : n = 0 → cs = [] := fun h0 => List.eq_nil_of_length_eq_zero (by rw [hcl, h0]; simp)
  unfold sliceCells at h1
  split at h1
  · simp [ownedS] at ho
  · -- an object
    rename_i o off len esz cap
    split at h1
    · rename_i c hoc
      split at h1
      · rename_i hb1
        obtain ⟨rfl, hfit⟩ := hb1
        injection h1 with h1
        injection h1 with h3 h4
        subst h3; subst h4
        have hol := (List.getElem?_eq_some_iff.1 hoc).1
        have hadd : (len + m) * esz = len * esz + m * esz := Nat.add_mul _ _ _
        obtain ⟨ov1, ov2⟩ := over_read c off (len * esz) ds hfit
        have inplace : ∀ cap', sliceCells (H.set o (some (.cells (over c (off + len * esz) ds)))) esz (.sl o off (len + m) esz cap') = some ((c.drop off).take (len * esz) ++ ds, len + m) := by
          intro cap'
          rw [sliceCells_sl (c := over c (off + len * esz) ds) (by rw [List.getElem?_set_self hol]) (by rw [hadd, ← hdl]; exact ov2)]
          rw [hadd, ← hdl, ov1]
        have fresh : ∀ (H2 : AH) cap', H2.length = H.length → sliceCells (H2 ++ [some (.cells ((c.drop off).take (len * esz) ++ ds))]) esz (.sl H.length 0 (len + m) esz cap') = some ((c.drop off).take (len * esz) ++ ds, len + m) := by
          intro H2 cap' hl
          rw [sliceCells_sl (c := (c.drop off).take (len * esz) ++ ds) (by rw [← hl]; simp) (by rw [List.length_append, hcl, hdl]; omega)]
          simp only [List.drop_zero]
          rw [List.take_of_length_le (by rw [List.length_append, hcl, hdl]; omega)]
        have hkeep : ∀ (y : Option AObj) (X : AH) (i : Nat), i < H.length → i ∉ idS (.sl o off len esz cap) → (H.set o y ++ X)[i]? = H[i]? := by
          intro y X i hi hn
          rw [List.getElem?_append_left (by simpa using hi), List.getElem?_set_ne (by simp [idS] at hn; omega)]
        unfold aapp1
        simp only [hoc, ne_eq, not_true_eq_false, false_or, hfit, if_false]
        cases cap with
        | ex k =>
          simp only
          by_cases hk : len + m ≤ k
          · rw [if_pos hk]
            exact ⟨_, _, rfl, rfl, inplace _, by simp, fun i hi hn => by simpa using hkeep _ [] i hi hn, fun i hi => .inl (by simpa [idS] using hi)⟩
          · rw [if_neg hk, if_pos hb]
            exact ⟨_, _, rfl, rfl, fresh H _ rfl, by simp, fun i hi _ => keep _ i hi, fun i hi => .inr (by simp [idS] at hi; omega)⟩
        | ge k =>
          simp only
          by_cases hm : m = 0
          · subst hm
            have hd0 : ds = [] := List.eq_nil_of_length_eq_zero (by rw [hdl]; simp)
            subst hd0
            rw [if_pos rfl]
            exact ⟨_, _, rfl, rfl, by rw [sliceCells_sl hoc hfit]; simp, Nat.le_refl _, fun _ _ _ => rfl, fun i hi => .inl hi⟩
          · rw [if_neg hm]
            by_cases hk : len + m ≤ k
            · rw [if_pos hk]
              exact ⟨_, _, rfl, rfl, inplace _, by simp, fun i hi hn => by simpa using hkeep _ [] i hi hn, fun i hi => .inl (by simpa [idS] using hi)⟩
            · rw [if_neg hk, if_pos hb]
              exact ⟨_, _, rfl, rfl, fresh (H.set o none) _ (by simp), by simp, fun i hi hn => hkeep none _ i hi hn, fun i hi => .inr (by simp [idS] at hi; omega)⟩
      · cases h1
    · cases h1
  · -- nil
    injection h1 with h1
    injection h1 with h3 h4
    subst h3; subst h4
    unfold aapp1
    simp only
    by_cases hm : m = 0
    · subst hm
      have hd0 : ds = [] := List.eq_nil_of_length_eq_zero (by rw [hdl]; simp)
      subst hd0
      rw [if_pos rfl]
      exact ⟨_, _, rfl, rfl, rfl, Nat.le_refl _, fun _ _ _ => rfl, fun i hi => .inl hi⟩
    · rw [if_neg hm, if_pos (by simpa using hb)]
      exact ⟨_, _, rfl, rfl, by simpa using newc, by simp, fun i hi _ => keep _ i hi, fun i hi => .inr (by simp [idS] at hi; omega)⟩
  · -- empty
    injection h1 with h1
    injection h1 with h3 h4
    subst h3; subst h4
    unfold aapp1
    simp only
    by_cases hm : m = 0
    · subst hm
      have hd0 : ds = [] := List.eq_nil_of_length_eq_zero (by rw [hdl]; simp)
      subst hd0
      rw [if_pos rfl]
      exact ⟨_, _, rfl, rfl, rfl, Nat.le_refl _, fun _ _ _ => rfl, fun i hi => .inl hi⟩
    · rw [if_neg hm, if_pos (by simpa using hb)]
      exact ⟨_, _, rfl, rfl, by simpa using newc, by simp, fun i hi _ => keep _ i hi, fun i hi => .inr (by simp [idS] at hi; omega)⟩
  · cases h1
/-- append. -/
theorem aappend_spec {ts tx e : TypeId} {sz bytes : Nat} (hs : P.underlying ts = some (.slice e)) (hx : (∃ e', P.underlying tx = some (.slice e')) ∨ P.underlying tx = some .string) (he : elemOkB P e sz bytes = true)
    {H : AH} {s x : AV} {cs ds : List AV} {n m : Nat} (h1 : sliceCells H sz s = some (cs, n)) (ho : ownedS s = true) (h2 : appended H sz x = some (ds, m)) (hb : (n + m) * bytes ≤ 140737488355328) :
    ∃ r H', aappend P H ts tx s x = some (r, H') ∧ ownedS r = true ∧ sliceCells H' sz r = some (cs ++ ds, n + m) ∧ H.length ≤ H'.length ∧ (∀ i, i < H.length → i ∉ idS s → H'[i]? = H[i]?) ∧ ∀ i ∈ idS r, i ∈ idS s ∨ H.length ≤ i := by
  have hdl := appended_len h2
  have key : aappend P H ts tx s x = aapp1 H sz bytes s ds m := by
    unfold elemOkB at he
    split at he
    · rename_i i hi
      split at he
      · rename_i z hz
        simp only [Bool.and_eq_true, decide_eq_true_eq] at he
        obtain ⟨⟨⟨⟨rfl, rfl⟩, e3⟩, e4⟩, e5⟩ := he
        unfold aappend
        rcases hx with ⟨e', hx⟩ | hx <;> simp [hs, hx, hi, hz, h2, e3, e4, e5]
      · cases he
    · cases he
  rw [key]
  exact aapp1_spec h1 ho hdl hb
/-- len of a slice. -/
theorem alen_spec {t e : TypeId} (hu : P.underlying t = some (.slice e)) {H : AH} {sz : Nat} {v : AV} {cs : List AV} {n : Nat} (h : sliceCells H sz v = some (cs, n)) : alen P t v = some (.lit (.int .i64 n)) := by
  unfold sliceCells at h
  unfold alen
  split at h
  · split at h
    · injection h with h; injection h with h1 h2; subst h2; simp [hu]
    · cases h
  · split at h
    · split at h
      · injection h with h; injection h with h1 h2; subst h2; simp [hu]
      · cases h
    · cases h
  · injection h with h; injection h with h1 h2; subst h2; simp [hu]
  · injection h with h; injection h with h1 h2; subst h2; simp [hu]
  · cases h
/-- A part of a slice. -/
theorem aslice_spec {t e : TypeId} (hu : P.underlying t = some (.slice e)) {sz : Nat} (hz : tSize P e = some sz) {H : AH} {v : AV} {cs : List AV} {n : Nat} (h : sliceCells H sz v = some (cs, n)) {lo hi : Option AV} {l k : Nat}
    (hl : abnd lo 0 = some l) (hk : abnd hi n = some k) (hlk : l ≤ k) (hkn : k ≤ n) :
    ∃ r, aslice P H t v lo hi none = some r ∧ sliceCells H sz r = some ((cs.drop (l * sz)).take ((k - l) * sz), k - l) ∧ (∀ i ∈ idS r, i ∈ idS v) ∧ (ownedS v = true → ownedS r = true) := by
  have hcl := sliceCells_len h
  have hmul : l * sz + (k - l) * sz = k * sz := by rw [← Nat.add_mul]; congr 1; omega
  have hmul2 : k * sz ≤ n * sz := Nat.mul_le_mul_right _ hkn
  unfold sliceCells at h
  unfold aslice
  simp only [hu, hz]
  split at h
  · rename_i c len esz
    split at h
    · rename_i hb
      obtain ⟨rfl, hb⟩ := hb
      injection h with h; injection h with h1 h2
      subst h1; subst h2
      simp only [hl, hk, hlk, hkn, and_self, if_true]
      refine ⟨_, rfl, ?_, (fun i hi => hi), (fun h => by simp [ownedS] at h)⟩
      simp only [sliceCells, true_and]
      rw [if_pos (by rw [List.length_take, List.length_drop]; omega)]
    · cases h
  · rename_i o off len esz cap
    split at h
    · rename_i c hoc
      split at h
      · rename_i hb
        obtain ⟨rfl, hb⟩ := hb
        injection h with h; injection h with h1 h2
        subst h1; subst h2
        simp only [ne_eq, not_true_eq_false, if_false, hl, hk]
        rw [if_pos ⟨hlk, by omega⟩]
        refine ⟨_, rfl, ?_, (fun i hi => hi), (fun _ => rfl)⟩
        rw [sliceCells_sl hoc (by omega), List.drop_take, List.drop_drop, List.take_take]
        congr 3
        omega
      · cases h
    · cases h
  · injection h with h; injection h with h1 h2
    subst h1; subst h2
    obtain rfl : k = 0 := by omega
    obtain rfl : l = 0 := by omega
    simp only [hl, hk]
    exact ⟨_, rfl, by simp [sliceCells], (fun i hi => hi), (fun _ => rfl)⟩
  · injection h with h; injection h with h1 h2
    subst h1; subst h2
    obtain rfl : k = 0 := by omega
    obtain rfl : l = 0 := by omega
    simp only [hl, hk]
    exact ⟨_, rfl, by simp [sliceCells], (fun i hi => hi), (fun _ => rfl)⟩
  · cases h
/-- An element of a slice, where it is one cell. -/
theorem index_spec {t e : TypeId} (hu : P.underlying t = some (.slice e)) (hz : tSize P e = some 1) (ha : tAgg P e = some false) {H : AH} {v b : AV} {cs : List AV} {n k : Nat} {ik : IntKind} (h : sliceCells H 1 v = some (cs, n)) (hb : cs[k]? = some b) :
    ∃ a, aindexAddr P t v (.lit (.int ik k)) = some a ∧ aload P H e a = some b := by
  have hcl := sliceCells_len h
  have hk : k < n := by have := (List.getElem?_eq_some_iff.1 hb).1; omega
  unfold sliceCells at h
  unfold aindexAddr
  simp only [aint, hu, hz]
  split at h
  · split at h
    · injection h with h; injection h with h1 h2
      subst h1; subst h2
      refine ⟨_, if_pos (by omega), ?_⟩
      simp [aload, hz, ha, rdCells, hb]
    · cases h
  · rename_i o off len esz cap
    split at h
    · rename_i c hoc
      split at h
      · rename_i hb1
        obtain ⟨rfl, hb1⟩ := hb1
        injection h with h; injection h with h1 h2
        subst h1; subst h2
        refine ⟨_, if_pos (by omega), ?_⟩
        rw [List.getElem?_take, if_pos (by omega), List.getElem?_drop] at hb
        simp [aload, hz, ha, rdCells, hoc, hb]
      · cases h
    · cases h
  · injection h with h; injection h with h1 h2
    subst h1; simp at hb
  · injection h with h; injection h with h1 h2
    subst h1; simp at hb
  · cases h
end
end Go.Proofs.Ytpnfdibgfichmaa.Av
end
/-! YtpnfdibgfichmaaAvM -/
section
/- Moving along formulas: what simp uses. -/
set_option linter.unusedVariables false
set_option linter.unusedSimpArgs false
namespace Go.Proofs.Ytpnfdibgfichmaa.Av
open Go Go.RowKit

abbrev I (n : Int) : AV := .lit (.int .i64 n)
abbrev B (b : Bool) : AV := .lit (.bool b)
abbrev U8 (n : Int) : AV := .lit (.int .u8 n)
abbrev S (s : ByteArray) : AV := .lit (.string s)
abbrev nilSl : AV := .lit (.slice none 0 0)

/-! only the head is looked at -/
@[congr] theorem bO_congr {x x' : Option AV} {K : AV → Prop} (h : x = x') : bO x K = bO x' K := by rw [h]
@[congr] theorem bH_congr {x x' : Option (AV × AH)} {K : AV → AH → Prop} (h : x = x') : bH x K = bH x' K := by rw [h]
@[congr] theorem bS_congr {x x' : Option AH} {K : AH → Prop} (h : x = x') : bS x K = bS x' K := by rw [h]
@[congr] theorem bB_congr {v v' : AV} {K : Bool → Prop} (h : v = v') : bB v K = bB v' K := by rw [h]
@[congr] theorem bI_congr {b b' : Bool} {A B : Prop} (h : b = b') : bI b A B = bI b' A B := by rw [h]
@[congr] theorem bG_congr {v v' : AV} {w : Bool} {K : Bool → Prop} (h : v = v') : bG v w K = bG v' w K := by rw [h]
@[congr] theorem bF_congr {w w' : Bool} {v v' : AV} {K : FuncId → List AV → List AV → Prop} (hw : w = w') (h : v = v') : bF w v K = bF w' v' K := by rw [hw, h]
@[congr] theorem bT_congr {b b' : Bool} {A : Prop} (h : b = b') : bT b A = bT b' A := by rw [h]
@[congr] theorem bC_congr {R : AV → AH → Prop} {K : AV → AH → Prop} : bC R K = bC R K := rfl
@[congr] theorem bP_congr {R : AV → Prop} {K : AV → Prop} : bP R K = bP R K := rfl
@[congr] theorem gO_congr {w w' : Bool} {x : Option AV} {K : AV → Prop} (h : w = w') : gO w x K = gO w' x K := by rw [h]
@[congr] theorem gH_congr {w w' : Bool} {x : Option (AV × AH)} {H : AH} {K : AV → AH → Prop} (h : w = w') : gH w x H K = gH w' x H K := by rw [h]
@[congr] theorem gS_congr {w w' : Bool} {x : Option AH} {H : AH} {K : AH → Prop} (h : w = w') : gS w x H K = gS w' x H K := by rw [h]
@[congr] theorem gC_congr {w w' : Bool} {R : AV → AH → Prop} {H : AH} {K : AV → AH → Prop} (h : w = w') : gC w R H K = gC w' R H K := by rw [h]
@[congr] theorem gP_congr {w w' : Bool} {R : AV → Prop} {K : AV → Prop} (h : w = w') : gP w R K = gP w' R K := by rw [h]

@[simp] theorem bO_some {v : AV} {K : AV → Prop} : bO (some v) K = K v := by unfold bO; exact Eq.refl _
@[simp] theorem bH_some {v : AV} {H : AH} {K : AV → AH → Prop} : bH (some (v, H)) K = K v H := by unfold bH; exact Eq.refl _
@[simp] theorem bS_some {H : AH} {K : AH → Prop} : bS (some H) K = K H := by unfold bS; exact Eq.refl _
@[simp] theorem bB_bool {b : Bool} {K : Bool → Prop} : bB (.lit (.bool b)) K = K b := by unfold bB; exact Eq.refl _
@[simp] theorem bI_true {A B : Prop} : bI true A B = A := by unfold bI; exact Eq.refl _
@[simp] theorem bI_false {A B : Prop} : bI false A B = B := by unfold bI; exact Eq.refl _
@[simp] theorem bG_bool {b w : Bool} {K : Bool → Prop} : bG (.lit (.bool b)) w K = K (b == w) := by unfold bG; exact Eq.refl _
@[simp] theorem bG_undef {w : Bool} {K : Bool → Prop} : bG undefA w K = K false := by unfold bG; exact Eq.refl _
@[simp] theorem bT_true {A : Prop} : bT true A = A := by unfold bT; exact Eq.refl _
@[simp] theorem bF_fn {w : Bool} {k : FuncId} {a b : List AV} {K : FuncId → List AV → List AV → Prop} : bF w (.fn (.func k) a b) K = K k a b := by unfold bF; exact Eq.refl _
@[simp] theorem bF_undef {K : FuncId → List AV → List AV → Prop} : bF false undefA K = K 0 [] [] := by unfold bF undefA; exact Eq.refl _
@[simp] theorem gO_true {x : Option AV} {K : AV → Prop} : gO true x K = bO x K := by unfold gO; exact Eq.refl _
@[simp] theorem gO_false {x : Option AV} {K : AV → Prop} : gO false x K = K undefA := by unfold gO; exact Eq.refl _
@[simp] theorem gH_true {x : Option (AV × AH)} {H : AH} {K : AV → AH → Prop} : gH true x H K = bH x K := by unfold gH; exact Eq.refl _
@[simp] theorem gH_false {x : Option (AV × AH)} {H : AH} {K : AV → AH → Prop} : gH false x H K = K undefA H := by unfold gH; exact Eq.refl _
@[simp] theorem gS_true {x : Option AH} {H : AH} {K : AH → Prop} : gS true x H K = bS x K := by unfold gS; exact Eq.refl _
@[simp] theorem gS_false {x : Option AH} {H : AH} {K : AH → Prop} : gS false x H K = K H := by unfold gS; exact Eq.refl _
@[simp] theorem gC_true {R : AV → AH → Prop} {H : AH} {K : AV → AH → Prop} : gC true R H K = bC R K := by unfold gC; exact Eq.refl _
@[simp] theorem gC_false {R : AV → AH → Prop} {H : AH} {K : AV → AH → Prop} : gC false R H K = K undefA H := by unfold gC; exact Eq.refl _
@[simp] theorem gP_true {R : AV → Prop} {K : AV → Prop} : gP true R K = bP R K := by unfold gP; exact Eq.refl _
@[simp] theorem gP_false {R : AV → Prop} {K : AV → Prop} : gP false R K = K undefA := by unfold gP; exact Eq.refl _
theorem bI_dec {p : Prop} [Decidable p] {A B : Prop} (h1 : p → A) (h2 : ¬ p → B) : bI (decide p) A B := by
  by_cases h : p
  · rw [decide_eq_true h]; exact h1 h
  · rw [decide_eq_false h]; exact h2 h
theorem bI_cases {b : Bool} {A B : Prop} (h1 : b = true → A) (h2 : b = false → B) : bI b A B := by
  cases b
  · exact h2 rfl
  · exact h1 rfl
theorem bP_of {R : AV → Prop} {K : AV → Prop} {r : AV} (h : R r) (hk : K r) : bP R K := ⟨r, h, hk⟩
theorem bP_pure {P : Program} {f : FuncId} {args : List AV} {H : AH} {K : AV → Prop} {r : AV} (h : BPure P f args r) (hk : K r) : bP (PCall P f args H) K := ⟨r, .inl h, hk⟩
theorem bP_lend {P : Program} {f : FuncId} {args args' : List AV} {H : AH} {K : AV → Prop} {r : AV} (n : Nat) (hf : mapO (frz H n) args = some args') (hr : flatA r = true) (h : BPure P f args' r) (hk : K r) : bP (PCall P f args H) K := ⟨r, .inr ⟨n, args', hf, hr, h⟩, hk⟩
theorem bC_of {R : AV → AH → Prop} {K : AV → AH → Prop} {r : AV} {H : AH} (h : R r H) (hk : K r H) : bC R K := ⟨r, H, h, hk⟩

/-! numbers -/
theorem emod_le_self {n u : Int} (h : 0 ≤ n) (hu : 0 < u) : n % u ≤ n := by
  have h1 := Int.mul_ediv_add_emod n u
  have h2 := Int.mul_nonneg (Int.le_of_lt hu) (Int.ediv_nonneg h (Int.le_of_lt hu))
  omega
theorem wrap64 {x : Int} (h1 : -9223372036854775808 ≤ x) (h2 : x ≤ 9223372036854775807) : IntKind.i64.wrap x = x := by
  simp [IntKind.wrap, IntKind.bits, IntKind.signed]; omega
theorem wrap8 {x : Int} (h1 : 0 ≤ x) (h2 : x ≤ 255) : IntKind.u8.wrap x = x := by
  simp [IntKind.wrap, IntKind.bits, IntKind.signed]; omega
section
variable {k : IntKind} {a b : Int}
theorem abI_add (h1 : -9223372036854775808 ≤ a + b) (h2 : a + b ≤ 9223372036854775807) : abI .add (I a) (I b) = some (I (a + b)) := by simp [abI, aint2, wrap64 h1 h2]
theorem abI_sub (h1 : -9223372036854775808 ≤ a - b) (h2 : a - b ≤ 9223372036854775807) : abI .sub (I a) (I b) = some (I (a - b)) := by simp [abI, aint2, wrap64 h1 h2]
theorem abI_mul (h1 : -9223372036854775808 ≤ a * b) (h2 : a * b ≤ 9223372036854775807) : abI .mul (I a) (I b) = some (I (a * b)) := by simp [abI, aint2, wrap64 h1 h2]
theorem abI_quo (h1 : 0 ≤ a) (h2 : a ≤ 9223372036854775807) (h3 : 0 < b) : abI .quo (I a) (I b) = some (I (a / b)) := by
  have e : a.tdiv b = a / b := Int.tdiv_eq_ediv_of_nonneg h1
  have h4 : 0 ≤ a / b := Int.ediv_nonneg h1 (by omega)
  have h5 : a / b ≤ a := Int.ediv_le_self _ h1
  simp [abI, aint2, e, wrap64 (x := a / b) (by omega) (by omega)]; omega
theorem abI_rem (h1 : 0 ≤ a) (h3 : 0 < b) : abI .rem (.lit (.int k a)) (.lit (.int k b)) = some (.lit (.int k (a % b))) := by
  have e : a.tmod b = a % b := Int.tmod_eq_emod_of_nonneg h1
  simp [abI, aint2, e]; omega
@[simp] theorem abI_eql : abI .eql (.lit (.int k a)) (.lit (.int k b)) = some (B (decide (a = b))) := by simp [abI, aint2]; rfl
@[simp] theorem abI_neq : abI .neq (.lit (.int k a)) (.lit (.int k b)) = some (B (decide (a ≠ b))) := by
  simp [abI, aint2]
  by_cases h : a = b <;> simp [h]
@[simp] theorem abI_lss : abI .lss (.lit (.int k a)) (.lit (.int k b)) = some (B (decide (a < b))) := by simp [abI, aint2]
@[simp] theorem abI_leq : abI .leq (.lit (.int k a)) (.lit (.int k b)) = some (B (decide (a ≤ b))) := by simp [abI, aint2]
@[simp] theorem abI_gtr : abI .gtr (.lit (.int k a)) (.lit (.int k b)) = some (B (decide (b < a))) := by simp [abI, aint2]
@[simp] theorem abI_geq : abI .geq (.lit (.int k a)) (.lit (.int k b)) = some (B (decide (b ≤ a))) := by simp [abI, aint2]
@[simp] theorem abB_eql {x y : Bool} : abB .eql (.lit (.bool x)) (.lit (.bool y)) = some (B (decide (x = y))) := by cases x <;> cases y <;> rfl
@[simp] theorem abB_neq {x y : Bool} : abB .neq (.lit (.bool x)) (.lit (.bool y)) = some (B (decide (x ≠ y))) := by cases x <;> cases y <;> rfl
@[simp] theorem aun_not {x : Bool} : aun .not (.lit (.bool x)) = some (B !x) := rfl
@[simp] theorem apick_bool {t : Bool} {x y : AV} : apick (.lit (.bool t)) x y = some (if t then x else y) := rfl
@[simp] theorem imn_eq : imn a b = min b a := by unfold imn; omega
@[simp] theorem imx_eq : imx a b = max b a := by unfold imx; omega
@[simp] theorem amm_two {f : Int → Int → Int} : amm f [.lit (.int k a), .lit (.int k b)] = some (.lit (.int k (f a b))) := rfl
theorem acI_i64 {k' : IntKind} (h1 : -9223372036854775808 ≤ a) (h2 : a ≤ 9223372036854775807) : acI .i64 (.lit (.int k' a)) = some (I a) := by simp [acI, wrap64 h1 h2]
end
@[simp] theorem aextract_tup {vs : List AV} {i : Nat} : aextract (.tup vs) i = vs[i]? := rfl
@[simp] theorem anilCheck_ptr {o off : Nat} : anilCheck (.ptr o off) = some (.ptr o off) := rfl
@[simp] theorem anilCheck_ip {cs : List AV} : anilCheck (.ip cs) = some (.ip cs) := rfl
@[simp] theorem ashift_ptr {k o off : Nat} : ashift k (.ptr o off) = some (.ptr o (off + k)) := rfl
@[simp] theorem ashift_ip {k : Nat} {cs : List AV} : ashift k (.ip cs) = some (.ip (cs.drop k)) := rfl
@[simp] theorem ald_ip {g : Bool} {n : Nat} {H : AH} {cs : List AV} : ald g n H (.ip cs) = rdCells g n cs 0 := rfl
theorem ald_ptr {g : Bool} {n o off : Nat} {H : AH} {cs : List AV} (h : H[o]? = some (some (.cells cs))) : ald g n H (.ptr o off) = rdCells g n cs off := by simp [ald, h]
@[simp] theorem rdCells_one {n : Nat} {cs : List AV} {off : Nat} : rdCells false n cs off = cs[off]? := by simp [rdCells]
theorem rdCells_agg {n : Nat} {cs : List AV} {off : Nat} (h : off + n ≤ cs.length) : rdCells true n cs off = some (.agg ((cs.drop off).take n)) := by simp [rdCells, h]
@[simp] theorem aprt_agg {g : Bool} {n off : Nat} {cs : List AV} : aprt g n off (.agg cs) = rdCells g n cs off := rfl
@[simp] theorem anew_agg {H : AH} {cs : List AV} : anew H (.agg cs) = if cs.all oneA then some (.ptr H.length 0, H ++ [some (.cells cs)]) else none := by
  unfold anew cellsA
  simp only
  split <;> simp
theorem anew_lit {H : AH} {v : Value} (h : oneA (.lit v) = true) : anew H (.lit v) = some (.ptr H.length 0, H ++ [some (.cells [.lit v])]) := by
  unfold anew cellsA
  simp only [h, if_true]
  rfl
theorem ast_ptr {n o off : Nat} {H : AH} {x : AV} {xs cs : List AV} (hx : cellsA x = some xs) (h : H[o]? = some (some (.cells cs))) (hl : xs.length = n) (hb : off + n ≤ cs.length) : ast n H (.ptr o off) x = some (H.set o (some (.cells (splice cs off xs)))) := by
  simp [ast, hx, h, hl, hb]
@[simp] theorem oneA_int {k : IntKind} {n : Int} : oneA (.lit (.int k n)) = true := rfl
@[simp] theorem oneA_bool {b : Bool} : oneA (.lit (.bool b)) = true := rfl
@[simp] theorem oneA_str {s : ByteArray} : oneA (.lit (.string s)) = true := rfl
@[simp] theorem oneA_nil {n c : Nat} : oneA (.lit (.slice none n c)) = true := rfl
@[simp] theorem oneA_nilm : oneA (.lit (.map none)) = true := rfl
@[simp] theorem oneA_nilp : oneA (.lit (.pointer none)) = true := rfl
@[simp] theorem oneA_sl {o off len esz : Nat} {cap : Room} : oneA (.sl o off len esz cap) = true := rfl
@[simp] theorem oneA_imm {cs : List AV} {len esz : Nat} : oneA (.imm cs len esz) = true := rfl
@[simp] theorem oneA_ptr {o off : Nat} : oneA (.ptr o off) = true := rfl
@[simp] theorem oneA_emp : oneA .emp = true := rfl
@[simp] theorem oneA_mp {o : Nat} : oneA (.mp o) = true := rfl
@[simp] theorem cellsA_int {k : IntKind} {n : Int} : cellsA (.lit (.int k n)) = some [.lit (.int k n)] := rfl
@[simp] theorem cellsA_bool {b : Bool} : cellsA (.lit (.bool b)) = some [.lit (.bool b)] := rfl
@[simp] theorem cellsA_str {s : ByteArray} : cellsA (.lit (.string s)) = some [.lit (.string s)] := rfl
@[simp] theorem cellsA_nil {n c : Nat} : cellsA (.lit (.slice none n c)) = some [.lit (.slice none n c)] := rfl
@[simp] theorem cellsA_nilm : cellsA (.lit (.map none)) = some [.lit (.map none)] := rfl
@[simp] theorem cellsA_nilp : cellsA (.lit (.pointer none)) = some [.lit (.pointer none)] := rfl
@[simp] theorem cellsA_sl {o off len esz : Nat} {cap : Room} : cellsA (.sl o off len esz cap) = some [.sl o off len esz cap] := rfl
@[simp] theorem cellsA_imm {cs : List AV} {len esz : Nat} : cellsA (.imm cs len esz) = some [.imm cs len esz] := rfl
@[simp] theorem cellsA_ptr {o off : Nat} : cellsA (.ptr o off) = some [.ptr o off] := rfl
@[simp] theorem cellsA_emp : cellsA .emp = some [.emp] := rfl
@[simp] theorem cellsA_mp {o : Nat} : cellsA (.mp o) = some [.mp o] := rfl
@[simp] theorem cellsA_agg {cs : List AV} : cellsA (.agg cs) = if cs.all oneA then some cs else none := rfl
theorem cellsA_one {v : AV} (h : oneA v = true) : cellsA v = some [v] := by
  cases v <;> first
    | rfl
    | (rename_i u; cases u <;> first | rfl | simp [oneA] at h)
    | simp [oneA] at h
@[simp] theorem fillR_nil {cells : List AV} : fillR cells [] = some cells := rfl
@[simp] theorem fillR_cons {cells : List AV} {off size : Nat} {v : AV} {r : List (Nat × Nat × AV)} : fillR cells ((off, size, v) :: r) = match cellsA v with
    | some xs => if xs.length = size ∧ off + size ≤ cells.length then fillR (splice cells off xs) r else none
    | none => none := rfl
attribute [simp] abl absl absf zrow splice LI0 LI1 LI2 LI3 LI4 LI5 LI6 LI7 LI8 LI9 LI10 LI11 LI12 LI13 LI14 LI15 LI16 LI17 LI18
@[simp] theorem ald_ptr' {g : Bool} {n o off : Nat} {H : AH} : ald g n H (.ptr o off) = match H[o]? with
    | some (some (.cells cs)) => rdCells g n cs off
    | _ => none := rfl
@[simp] theorem alnS_imm {cs : List AV} {len esz : Nat} : alnS (.imm cs len esz) = some (I len) := rfl
@[simp] theorem alnS_nil : alnS (.lit (.slice none 0 0)) = some (I 0) := rfl
@[simp] theorem alnS_sl {o off len esz : Nat} {cap : Room} : alnS (.sl o off len esz cap) = some (I len) := rfl
@[simp] theorem alnT_str {s : ByteArray} : alnT (.lit (.string s)) = some (I s.size) := rfl

/-! ### contracts -/
section
variable {P : Program} {f : FuncId} {args : List AV} {R : AV}
theorem BPure.flat (h : ∀ H, ∃ r H', (r = R ∧ H' = H) ∧ BCall P f args H r H') : BPure P f args R := fun H => by
  obtain ⟨r, H', ⟨rfl, rfl⟩, h⟩ := h H
  exact h
theorem BPure.frozen (hb : noIdss args = true) (h : ∃ r X, (∃ n, frz X n r = some R) ∧ BCall P f args [] r X) : BPure P f args R := by
  obtain ⟨r, X, ⟨n, hf⟩, h⟩ := h
  exact BPure.of h hb hf
end

/-! ### slices that name no object -/
/-- v holds the list l, each element in sz cells, and names no object. -/
def SV {α : Type} (enc : α → List AV) (sz : Nat) (l : List α) (v : AV) : Prop := noIds v = true ∧ ∀ H, sliceCells H sz v = some (l.flatMap enc, l.length)
section
variable {α : Type} {enc : α → List AV} {sz : Nat} {l : List α} {v : AV}
theorem SV.nil : SV enc sz [] nilSl := ⟨rfl, fun _ => rfl⟩
theorem SV.len (h : SV enc sz l v) : alnS v = some (I l.length) := by
  have h2 := h.2 []
  unfold sliceCells at h2
  split at h2
  · split at h2
    · injection h2 with h2; injection h2 with e1 e2; rw [← e2]; rfl
    · cases h2
  · simp at h2
  · injection h2 with h2; injection h2 with e1 e2; rw [← e2]; rfl
  · injection h2 with h2; injection h2 with e1 e2; rw [← e2]; rfl
  · cases h2
theorem flatMap_split (hsz : ∀ x, (enc x).length = sz) : ∀ {l : List α} {k : Nat} {x : α}, l[k]? = some x → (l.flatMap enc).drop (k * sz) = enc x ++ (l.drop (k + 1)).flatMap enc
  | [], k, x, h => by simp at h
  | a :: l, 0, x, h => by simp at h; subst h; simp
  | a :: l, k + 1, x, h => by
    have := flatMap_split hsz (l := l) (k := k) (by simpa using h)
    rw [List.flatMap_cons, Nat.succ_mul, Nat.add_comm, ← List.drop_drop, List.drop_left' (hsz a)]
    simpa using this
theorem flatMap_len (hsz : ∀ x, (enc x).length = sz) (l : List α) : (l.flatMap enc).length = l.length * sz := by
  induction l with
  | nil => simp
  | cons a l ih => simp [List.flatMap_cons, hsz, ih, Nat.succ_mul]; omega
theorem SV.imm (hsz : ∀ x, (enc x).length = sz) (hn : ∀ x ∈ l, noIdss (enc x) = true) : SV enc sz l (.imm (l.flatMap enc) l.length sz) := by
  refine ⟨?_, fun H => ?_⟩
  · simp only [noIds]
    induction l with
    | nil => rfl
    | cons a l ih =>
      rw [List.flatMap_cons]
      have h1 := hn a (by simp)
      have h2 := ih fun x hx => hn x (by simp [hx])
      generalize enc a = c at h1
      induction c with
      | nil => exact h2
      | cons b c ihc => simp only [noIdss, Bool.and_eq_true, List.cons_append] at h1 ⊢; exact ⟨h1.1, ihc h1.2⟩
  · simp [sliceCells, flatMap_len hsz]
/-- The element k, as memory that nobody writes. -/
theorem SV.idx (h : SV enc sz l v) (hsz : ∀ x, (enc x).length = sz) {k : Nat} {x : α} {i : Int} (hk : l[k]? = some x) (hi : i = k) : aixS sz v (.lit (.int .i64 i)) = some (.ip (enc x ++ (l.drop (k + 1)).flatMap enc)) := by
  subst hi
  have hlt := (List.getElem?_eq_some_iff.1 hk).1
  have h1 := h.1
  have h2 := h.2 []
  unfold sliceCells at h2
  split at h2
  · rename_i cs len esz
    split at h2
    · injection h2 with h2; injection h2 with e1 e2
      subst e1; subst e2
      simp only [aixS, aint]
      rw [if_pos ⟨by omega, by omega⟩]
      simp [flatMap_split hsz hk]
    · cases h2
  · simp [noIds] at h1
  · injection h2 with h2; injection h2 with e1 e2; rw [← e2] at hlt; omega
  · injection h2 with h2; injection h2 with e1 e2; rw [← e2] at hlt; omega
  · cases h2
end
end Go.Proofs.Ytpnfdibgfichmaa.Av
end
/-! YtpnfdibgfichmaaAvN -/
section
/- The operations on slices as formulas have them, in terms of what a slice holds; calls that are lent what is one's own. -/
set_option linter.unusedVariables false
set_option linter.unusedSimpArgs false
namespace Go.Proofs.Ytpnfdibgfichmaa.Av
open Go Go.RowKit

section
variable {α : Type} {sz : Nat} {H : AH} {v : AV} {cs : List AV} {n : Nat}
theorem alnS_spec (h : sliceCells H sz v = some (cs, n)) : alnS v = some (I n) := by
  unfold sliceCells at h
  split at h
  · split at h
    · injection h with h; injection h with h1 h2; rw [← h2]; rfl
    · cases h
  · split at h
    · split at h
      · injection h with h; injection h with h1 h2; rw [← h2]; rfl
      · cases h
    · cases h
  · injection h with h; injection h with h1 h2; rw [← h2]; rfl
  · injection h with h; injection h with h1 h2; rw [← h2]; rfl
  · cases h
theorem aap_spec {bytes : Nat} {x : AV} {ds : List AV} {m : Nat} (h1 : sliceCells H sz v = some (cs, n)) (ho : ownedS v = true) (h2 : appended H sz x = some (ds, m)) (hb : (n + m) * bytes ≤ 140737488355328) :
    ∃ r H', aap sz bytes H v x = some (r, H') ∧ ownedS r = true ∧ sliceCells H' sz r = some (cs ++ ds, n + m) ∧ H.length ≤ H'.length ∧ (∀ i, i < H.length → i ∉ idS v → H'[i]? = H[i]?) ∧ ∀ i ∈ idS r, i ∈ idS v ∨ H.length ≤ i := by
  obtain ⟨r, H', h⟩ := aapp1_spec h1 ho (appended_len h2) hb
  exact ⟨r, H', by unfold aap; rw [h2]; exact h.1, h.2⟩
/-- A part of a slice. -/
theorem aslS_spec (h : sliceCells H sz v = some (cs, n)) {lo hi : Option AV} {l k : Nat} (hl : abnd lo 0 = some l) (hk : abnd hi n = some k) (hlk : l ≤ k) (hkn : k ≤ n) :
    ∃ r, aslS sz v lo hi none = some r ∧ sliceCells H sz r = some ((cs.drop (l * sz)).take ((k - l) * sz), k - l) ∧ (∀ i ∈ idS r, i ∈ idS v) ∧ (ownedS v = true → ownedS r = true) ∧ (noIds v = true → noIds r = true) := by
  have hcl := sliceCells_len h
  have hmul : l * sz + (k - l) * sz = k * sz := by rw [← Nat.add_mul]; congr 1; omega
  have hmul2 : k * sz ≤ n * sz := Nat.mul_le_mul_right _ hkn
  unfold sliceCells at h
  unfold aslS
  split at h
  · rename_i c len esz
    split at h
    · rename_i hb
      obtain ⟨rfl, hb⟩ := hb
      injection h with h; injection h with h1 h2
      subst h1; subst h2
      simp only [hl, hk, hlk, hkn, and_self, if_true]
      refine ⟨_, rfl, ?_, (fun i hi => hi), (fun h => by simp [ownedS] at h), fun h => ?_⟩
      · simp only [sliceCells, true_and]
        rw [if_pos (by rw [List.length_take, List.length_drop]; omega)]
      · simp only [noIds] at h ⊢
        have key : ∀ (c : List AV) (a b : Nat), noIdss c = true → noIdss ((c.drop a).take b) = true := by
          intro c
          induction c with
          | nil => intro a b _; simp [noIdss]
          | cons x c ih =>
            intro a b hc
            simp only [noIdss, Bool.and_eq_true] at hc
            cases a with
            | zero =>
              cases b with
              | zero => rfl
              | succ b => simp only [List.drop_zero, List.take_succ_cons, noIdss, Bool.and_eq_true]; exact ⟨hc.1, by simpa using ih 0 b hc.2⟩
            | succ a => simpa using ih a b hc.2
        exact key _ _ _ h
    · cases h
  · rename_i o off len esz cap
    split at h
    · rename_i c hoc
      split at h
      · rename_i hb
        obtain ⟨rfl, hb⟩ := hb
        injection h with h; injection h with h1 h2
        subst h1; subst h2
        simp only [ne_eq, not_true_eq_false, if_false, hl, hk]
        rw [if_pos ⟨hlk, by omega⟩]
        refine ⟨_, rfl, ?_, (fun i hi => hi), (fun _ => rfl), fun h => by simp [noIds] at h⟩
        rw [sliceCells_sl hoc (by omega), List.drop_take, List.drop_drop, List.take_take]
        congr 3
        omega
      · cases h
    · cases h
  · injection h with h; injection h with h1 h2
    subst h1; subst h2
    obtain rfl : k = 0 := by omega
    obtain rfl : l = 0 := by omega
    simp only [hl, hk]
    exact ⟨_, rfl, by simp [sliceCells], (fun i hi => hi), (fun _ => rfl), fun _ => rfl⟩
  · injection h with h; injection h with h1 h2
    subst h1; subst h2
    obtain rfl : k = 0 := by omega
    obtain rfl : l = 0 := by omega
    simp only [hl, hk]
    exact ⟨_, rfl, by simp [sliceCells], (fun i hi => hi), (fun _ => rfl), fun _ => rfl⟩
  · cases h
/-- What lies at a pointer, as far as is told. -/
def rdAt (H : AH) : AV → Option (List AV)
  | .ptr o off => match H[o]? with
    | some (some (.cells cs)) => some (cs.drop off)
    | _ => none
  | .ip cs => some cs
  | _ => none
theorem ald_at {g : Bool} {k : Nat} {p : AV} (h : rdAt H p = some cs) (hk : 0 < k) (hl : k ≤ cs.length) : ald g k H p = rdCells g k cs 0 := by
  unfold rdAt at h
  unfold ald
  split at h
  · rename_i o off
    simp only
    split at h
    · rename_i c hc
      injection h with h
      subst h
      unfold rdCells
      rw [List.length_drop] at hl
      simp only [hc]
      cases g
      · simp
      · simp only [if_true]
        rw [if_pos (by omega), if_pos (by rw [List.length_drop]; omega)]
        simp
    · cases h
  · injection h with h
    subst h; rfl
  · cases h
theorem ashift_at {k : Nat} {p : AV} (h : rdAt H p = some cs) : ∃ q, ashift k p = some q ∧ rdAt H q = some (cs.drop k) := by
  unfold rdAt at h
  split at h
  · rename_i o off
    split at h
    · rename_i c hc
      injection h with h
      subst h
      exact ⟨_, rfl, by simp [rdAt, hc]⟩
    · cases h
  · injection h with h
    subst h
    exact ⟨_, rfl, rfl⟩
  · cases h
/-- An element of a slice: where it lies. -/
theorem aixS_spec (h : sliceCells H sz v = some (cs, n)) {k : Nat} {i : Int} (hi : i = k) (hk : k < n) : ∃ p c, aixS sz v (.lit (.int .i64 i)) = some p ∧ rdAt H p = some c ∧ c.take sz = (cs.drop (k * sz)).take sz ∧ sz ≤ c.length := by
  subst hi
  have hcl := sliceCells_len h
  have hmul : k * sz + sz ≤ n * sz := by rw [← Nat.succ_mul]; exact Nat.mul_le_mul_right _ hk
  unfold sliceCells at h
  unfold aixS
  simp only [aint]
  split at h
  · rename_i c len esz
    split at h
    · rename_i hb
      obtain ⟨rfl, hb⟩ := hb
      injection h with h; injection h with h1 h2
      subst h1; subst h2
      refine ⟨_, _, if_pos (by omega), rfl, by simp, by simp; omega⟩
    · cases h
  · rename_i o off len esz cap
    split at h
    · rename_i c hoc
      split at h
      · rename_i hb
        obtain ⟨rfl, hb⟩ := hb
        injection h with h; injection h with h1 h2
        subst h1; subst h2
        refine ⟨_, c.drop (off + k * esz), if_pos (by omega), by simp [rdAt, hoc], ?_, by rw [List.length_drop]; omega⟩
        rw [List.drop_take, List.drop_drop, List.take_take]
        congr 1
        omega
      · cases h
    · cases h
  · injection h with h; injection h with h1 h2; omega
  · injection h with h; injection h with h1 h2; omega
  · cases h
end


/-! ### freezing what is answered -/
mutual
theorem frz_noIds (X : AH) : ∀ (a : AV), noIds a = true → ∃ n0, ∀ n, n0 ≤ n → frz X n a = some a
  | .lit v, _ => ⟨1, fun n hn => by cases n with
    | zero => omega
    | succ n => rfl⟩
  | .ip cs, h => by
    simp only [noIds] at h
    obtain ⟨n0, h0⟩ := frz_noIdss X cs h
    refine ⟨n0 + 1, fun n hn => ?_⟩
    cases n with
    | zero => omega
    | succ n => simp only [frz, h0 n (by omega)]; rfl
  | .imm cs len esz, h => by
    simp only [noIds] at h
    obtain ⟨n0, h0⟩ := frz_noIdss X cs h
    refine ⟨n0 + 1, fun n hn => ?_⟩
    cases n with
    | zero => omega
    | succ n => simp only [frz, h0 n (by omega)]; rfl
  | .agg cs, h => by
    simp only [noIds] at h
    obtain ⟨n0, h0⟩ := frz_noIdss X cs h
    refine ⟨n0 + 1, fun n hn => ?_⟩
    cases n with
    | zero => omega
    | succ n => simp only [frz, h0 n (by omega)]; rfl
  | .tup cs, h => by
    simp only [noIds] at h
    obtain ⟨n0, h0⟩ := frz_noIdss X cs h
    refine ⟨n0 + 1, fun n hn => ?_⟩
    cases n with
    | zero => omega
    | succ n => simp only [frz, h0 n (by omega)]; rfl
  | .fn f a b, h => by
    simp only [noIds, Bool.and_eq_true] at h
    obtain ⟨n0, h0⟩ := frz_noIdss X a h.1
    obtain ⟨n1, h1⟩ := frz_noIdss X b h.2
    refine ⟨n0 + n1 + 1, fun n hn => ?_⟩
    cases n with
    | zero => omega
    | succ n => simp only [frz, h0 n (by omega), h1 n (by omega)]
  | .emp, _ => ⟨1, fun n hn => by cases n with
    | zero => omega
    | succ n => rfl⟩
  | .junk, _ => ⟨1, fun n hn => by cases n with
    | zero => omega
    | succ n => rfl⟩
  | .ptr .., h => by simp [noIds] at h
  | .sl .., h => by simp [noIds] at h
  | .mp .., h => by simp [noIds] at h
theorem frz_noIdss (X : AH) : ∀ (asx : List AV), noIdss asx = true → ∃ n0, ∀ n, n0 ≤ n → mapO (frz X n) asx = some asx
  | [], _ => ⟨0, fun _ _ => rfl⟩
  | a :: asx, h => by
    simp only [noIdss, Bool.and_eq_true] at h
    obtain ⟨n0, h0⟩ := frz_noIds X a h.1
    obtain ⟨n1, h1⟩ := frz_noIdss X asx h.2
    exact ⟨n0 + n1, fun n hn => by simp only [mapO, h0 n (by omega), h1 n (by omega)]⟩
end
/-- A slice, frozen. -/
theorem frz_slice {X : AH} {sz : Nat} {r : AV} {cs : List AV} {m : Nat} (h : sliceCells X sz r = some (cs, m)) (hc : noIdss cs = true) : ∃ R n0, noIds R = true ∧ (∀ H, sliceCells H sz R = some (cs, m)) ∧ ∀ n, n0 ≤ n → frz X n r = some R := by
  have hcl := sliceCells_len h
  unfold sliceCells at h
  split at h
  · rename_i c len esz
    split at h
    · rename_i hb
      injection h with h; injection h with h1 h2
      subst h1; subst h2
      obtain ⟨n0, h0⟩ := frz_noIds X (.imm c len esz) (by simpa only [noIds] using hc)
      exact ⟨_, n0, by simpa only [noIds] using hc, fun H => by simp [sliceCells, hb.1, hb.2], h0⟩
    · cases h
  · rename_i o off len esz cap
    split at h
    · rename_i c hoc
      split at h
      · rename_i hb
        injection h with h; injection h with h1 h2
        obtain ⟨n0, h0⟩ := frz_noIdss X cs hc
        refine ⟨.imm cs len esz, n0 + 1, by simpa only [noIds] using hc, fun H => ?_, fun n hn => ?_⟩
        · rw [← h2] at hcl ⊢
          simp [sliceCells, hb.1, hcl]
        · cases n with
          | zero => omega
          | succ n =>
            obtain ⟨rfl, -⟩ := hb
            simp only [frz, hoc, h1, h0 n (by omega)]
            rfl
      · cases h
    · cases h
  · injection h with h; injection h with h1 h2
    subst h1; subst h2
    exact ⟨_, 1, rfl, fun H => rfl, fun n hn => by cases n with
      | zero => omega
      | succ n => rfl⟩
  · injection h with h; injection h with h1 h2
    subst h1; subst h2
    exact ⟨_, 1, rfl, fun H => rfl, fun n hn => by cases n with
      | zero => omega
      | succ n => rfl⟩
  · cases h
section
variable {P : Program} {f : FuncId} {args : List AV}
theorem BPure.fz {Q : AV → Prop} (hb : noIdss args = true) (h : ∃ r X, (∃ n R, frz X n r = some R ∧ Q R) ∧ BCall P f args [] r X) : ∃ R, Q R ∧ BPure P f args R := by
  obtain ⟨r, X, ⟨n, R, hf, hq⟩, h⟩ := h
  exact ⟨R, hq, BPure.of h hb hf⟩
theorem BPure.val {R : AV} (hb : noIdss args = true) (hR : noIds R = true) (h : ∃ r X, r = R ∧ BCall P f args [] r X) : BPure P f args R := by
  obtain ⟨r, X, rfl, h⟩ := h
  obtain ⟨n0, h0⟩ := frz_noIds X r hR
  exact BPure.of h hb (h0 n0 (Nat.le_refl _))
theorem BPure.sl {sz : Nat} {cs : List AV} {m : Nat} (hb : noIdss args = true) (hc : noIdss cs = true) (h : ∃ r X, sliceCells X sz r = some (cs, m) ∧ BCall P f args [] r X) : ∃ R, (noIds R = true ∧ ∀ H, sliceCells H sz R = some (cs, m)) ∧ BPure P f args R := by
  obtain ⟨r, X, h1, h⟩ := h
  obtain ⟨R, n0, h2, h3, h4⟩ := frz_slice h1 hc
  exact ⟨R, ⟨h2, h3⟩, BPure.of h hb (h4 n0 (Nat.le_refl _))⟩
/-- One slice of one's own, lent. -/
theorem PCall.lend1 {H : AH} {sz : Nat} {r x : AV} {cs : List AV} {m : Nat} (hs : sliceCells H sz r = some (cs, m)) (hc : noIdss cs = true) (hx : flatA x = true) (h : ∀ R, noIds R = true → (∀ H, sliceCells H sz R = some (cs, m)) → BPure P f [R] x) : PCall P f [r] H x := by
  obtain ⟨R, n0, h1, h2, h3⟩ := frz_slice hs hc
  exact .inr ⟨n0, [R], by simp only [mapO, h3 n0 (Nat.le_refl _)], hx, h R h1 h2⟩
end
end Go.Proofs.Ytpnfdibgfichmaa.Av
end
/-! YtpnfdibgfichmaaAvY -/
section
/- The abstract machine, run: what it comes to is what the program comes to. -/
set_option linter.unusedVariables false
set_option linter.unusedSimpArgs false
namespace Go.Proofs.Ytpnfdibgfichmaa.Av
open Go Go.RowKit

section
variable {P : Program}

def runOps (P : Program) (call : CallFn) (ops : Array Oper) : List Oper → List AV → AH → Option (List AV × AH)
  | [], T, H => some (T, H)
  | o :: l, T, H => match awanted ops T o with
    | none => none
    | some false => runOps P call ops l (aput T o.dst undefA) H
    | some true => match aop P (aeval T) H o with
      | some (r, H') => runOps P call ops l (aput T o.dst r) H'
      | none => match acall (aeval T) o with
        | some (f, args) => if goFunc P f then match call f args H with
            | some (r, H') => runOps P call ops l (aput T o.dst r) H'
            | none => none
          else none
        | none => none
def noCall : CallFn := fun _ _ _ => none
theorem noCall_ok : CallOk P noCall := fun f args H r H' h => by cases h
theorem runOps_ok {call : CallFn} (hc : CallOk P call) {ops : Array Oper} : ∀ (l : List Oper) (T T' : List AV) (H H' : AH), runOps P call ops l T H = some (T', H') → ∀ {Q : AQ}, Q .normal T' H' → AOps P ops Q l T H
  | [], T, T', H, H', h, Q, hq => by
    simp only [runOps] at h
    injection h with h
    injection h with h1 h2
    subst h1; subst h2
    exact AOps.nil hq
  | o :: l, T, T', H, H', h, Q, hq => by
    unfold runOps at h
    split at h
    · cases h
    · rename_i hw
      exact AOps.unwanted hw (runOps_ok hc l _ _ _ _ h hq)
    · rename_i hw
      split at h
      · rename_i r H1 hop
        exact AOps.op hw hop (runOps_ok hc l _ _ _ _ h hq)
      · split at h
        · rename_i f args hcall
          split at h
          · rename_i hgo
            split at h
            · rename_i r H1 hcf
              refine AOps.call hw hcall hgo ((hc f args H r H1 hcf).mono ?_)
              rintro r' H'' ⟨rfl, rfl⟩
              exact runOps_ok hc l _ _ _ _ h hq
            · cases h
          · cases h
        · cases h
def exec (P : Program) (pl : FuncId → Bool) (pure : PureFn) (call : CallFn) : Nat → Code → List AV → AH → Option (Exit × List AV × AH)
  | 0, _, _, _ => none
  | n + 1, c, T, H => match c with
    | .skip => some (.normal, T, H)
    | .label _ => some (.normal, T, H)
    | .ret => some (.ret, T, H)
    | .exit id => some (.exit id, T, H)
    | .region _ ops false => (runOps P call ops ops.toList T H).map fun p => (.normal, p.1, p.2)
    | .region _ ops true => (runDraw P pl pure call ops.toList T H).map fun p => (.normal, p.1, p.2)
    | .seq a b => match exec P pl pure call n a T H with
      | some (.normal, T', H') => exec P pl pure call n b T' H'
      | r => r
    | .cond x a b => match aeval T x with
      | .lit (.bool t) => exec P pl pure call n (if t then a else b) T H
      | _ => none
    | .block id b => match exec P pl pure call n b T H with
      | some (.exit id', T', H') => if id' = id then some (.normal, T', H') else some (.exit id', T', H')
      | r => r
    | .loop b => match exec P pl pure call n b T H with
      | some (.normal, T', H') => exec P pl pure call n (.loop b) T' H'
      | r => r
    | _ => none
theorem exec_ok {pl : FuncId → Bool} {pure : PureFn} (hp : PureOk P pure) {call : CallFn} (hc : CallOk P call) : ∀ (n : Nat) (c : Code) (T : List AV) (H : AH) (r : Exit × List AV × AH), exec P pl pure call n c T H = some r → ACode P c (AQ.is r) T H := by
  intro n
  induction n using Nat.strongRecOn with
  | _ n ih =>
  intro c T H r h
  cases n with
  | zero => simp [exec] at h
  | succ n =>
  unfold exec at h
  split at h
  · injection h with h; exact ACode.skip (by rw [← h]; rfl)
  · injection h with h; exact ACode.label (by rw [← h]; rfl)
  · injection h with h; exact ACode.ret (by rw [← h]; rfl)
  · injection h with h; exact ACode.exit (by rw [← h]; rfl)
  · obtain ⟨⟨T', H'⟩, h1, rfl⟩ := Option.map_eq_some_iff.1 h
    exact ACode.region (runOps_ok hc _ _ _ _ _ h1 rfl)
  · obtain ⟨⟨T', H'⟩, h1, rfl⟩ := Option.map_eq_some_iff.1 h
    rename_i ops
    have := runDraw_ok hp hc (id := 0) h1 (Q := AQ.is (.normal, T', H')) rfl
    have := runDraw_ok hp hc (id := by assumption) h1 (Q := AQ.is (.normal, T', H')) rfl
    simpa using this
  · rename_i a b
    refine ACode.seq ?_
    split at h
    · rename_i T' H' h1
      refine (ih n (by omega) a T H _ h1).mono ?_
      rintro e T1 H1 he
      simp only [AQ.is, Prod.mk.injEq] at he
      obtain ⟨rfl, rfl, rfl⟩ := he
      exact ih n (by omega) b _ _ r h
    · rename_i hne
      refine (ih n (by omega) a T H r h).mono ?_
      rintro e T1 H1 he
      cases e with
      | normal =>
        simp only [AQ.is] at he
        subst he
        exact absurd h (hne T1 H1)
      | _ => exact he
  · rename_i x a b
    split at h
    · rename_i t ht
      exact ACode.cond ht (ih n (by omega) _ _ _ _ h)
    · cases h
  · rename_i id b
    refine ACode.block ?_
    split at h
    · rename_i id' T' H' h1
      refine (ih n (by omega) b T H _ h1).mono ?_
      rintro e T1 H1 he
      simp only [AQ.is, Prod.mk.injEq] at he
      obtain ⟨rfl, rfl, rfl⟩ := he
      simp only [AQ.inBlock]
      split at h <;> (injection h with h; rename_i hid)
      · rw [if_pos hid]; exact h
      · rw [if_neg hid]; exact h
    · rename_i hne
      refine (ih n (by omega) b T H r h).mono ?_
      rintro e T1 H1 he
      cases e with
      | exit id' =>
        simp only [AQ.is] at he
        subst he
        exact absurd h (hne id' T1 H1)
      | _ => exact he
  · rename_i b
    refine ACode.loop (fun m T1 H1 => m ≤ n + 1 ∧ exec P pl pure call m (.loop b) T1 H1 = some r) (n + 1) ⟨Nat.le_refl _, ?_⟩ ?_
    · unfold exec; exact h
    · rintro m T1 H1 ⟨hm, h1⟩
      cases m with
      | zero => simp [exec] at h1
      | succ m =>
        unfold exec at h1
        simp only at h1
        split at h1
        · rename_i T2 H2 h2
          refine (ih m (by omega) b T1 H1 _ h2).mono ?_
          rintro e T3 H3 he
          simp only [AQ.is, Prod.mk.injEq] at he
          obtain ⟨rfl, rfl, rfl⟩ := he
          exact ⟨m, by omega, by omega, h1⟩
        · rename_i hne
          refine (ih m (by omega) b T1 H1 r h1).mono ?_
          rintro e T3 H3 he
          cases e with
          | normal =>
            simp only [AQ.is] at he
            subst he
            exact absurd h1 (hne T3 H3)
          | _ => exact he
  · cases h
/-- A call as if it left nothing: from the empty heap, what it made frozen. -/
def pureOf (P : Program) (pl : FuncId → Bool) (call : CallFn) : PureFn := fun f args =>
  if pl f && goFunc P f && noIdss args then match call f args [] with
    | some (r, X) => frz X 64 r
    | none => none
  else none
theorem pureOf_ok {pl : FuncId → Bool} {call : CallFn} (hc : CallOk P call) : PureOk P (pureOf P pl call) := by
  intro f args r h
  unfold pureOf at h
  split at h
  · rename_i hb
    simp only [Bool.and_eq_true] at hb
    split at h
    · rename_i r0 X hr
      refine ⟨hb.1.2, fun H => ?_⟩
      exact ACalls.pure (R' := fun r' => r' = r) (hc f args [] r0 X hr) (noIdss_bel hb.2) (fun r1 X1 h1 => ⟨64, r, by rw [h1.1, h1.2]; exact h, rfl⟩) H
    · cases h
  · cases h
/-- A function's own text, run. -/
def runBody (P : Program) (pl : FuncId → Bool) (call : CallFn) (fuel : Nat) (f : FuncId) (args : List AV) (H : AH) : Option (AV × AH) :=
  match P.funcs[f]? with
  | some fn => match fn.body with
    | some c => match exec P pl (pureOf P pl call) call fuel c (args ++ List.replicate (fn.ntmps - args.length) undefA) H with
      | some (e, T, H') => if isOut e then (ares P H' T fn.results.toList).map fun xs => (mkres xs, H') else none
      | none => none
    | none => none
  | none => none
theorem runBody_ok {pl : FuncId → Bool} {call : CallFn} (hc : CallOk P call) {fuel : Nat} : CallOk P (runBody P pl call fuel) := by
  intro f args H r H' h
  unfold runBody at h
  split at h
  · rename_i fn hf
    split at h
    · rename_i c hb
      split at h
      · rename_i e T H1 he
        split at h
        · rename_i ho
          obtain ⟨xs, hxs, heq⟩ := Option.map_eq_some_iff.1 h
          injection heq with h1 h2
          subst h1; subst h2
          refine ACalls.of_body hf hb ((exec_ok (pureOf_ok hc) hc fuel c _ H _ he).mono ?_)
          rintro e' T' H' hq
          simp only [AQ.is, Prod.mk.injEq] at hq
          obtain ⟨rfl, rfl, rfl⟩ := hq
          refine ⟨?_, xs, hxs, rfl, rfl⟩
          revert ho
          cases e' <;> simp [isOut]
        · cases h
      · cases h
    · cases h
  · cases h
/-- A call, run: 'ext' first (functions whose contracts are proved beside), then as if it left nothing (functions of pl), else the function's own text. ql: those of pl that may stand anywhere in a drawn region. -/
def run (P : Program) (ext : CallFn) (pl ql : FuncId → Bool) (fuel : Nat) : Nat → CallFn
  | 0 => fun _ _ _ => none
  | n + 1 => fun f args H => match ext f args H with
    | some r => some r
    | none => if pl f && noIdss args then match runBody P ql (run P ext pl ql fuel n) fuel f args [] with
        | some (r, X) => (frz X 64 r).map (·, H)
        | none => none
      else runBody P ql (run P ext pl ql fuel n) fuel f args H
theorem run_ok {ext : CallFn} (hx : CallOk P ext) {fuel : Nat} {pl ql : FuncId → Bool} : ∀ n, CallOk P (run P ext pl ql fuel n)
  | 0 => fun f args H r H' h => by cases h
  | n + 1 => fun f args H r H' h => by
    unfold run at h
    split at h
    · rename_i q hq
      injection h with h
      subst h
      exact hx f args H r H' hq
    · split at h
      · rename_i hb
        simp only [Bool.and_eq_true] at hb
        split at h
        · rename_i r0 X hr
          obtain ⟨r1, h1, h2⟩ := Option.map_eq_some_iff.1 h
          injection h2 with h2 h3
          subst h2; subst h3
          exact ACalls.pure (R' := fun r' => r' = r1) (runBody_ok (run_ok hx n) f args [] r0 X hr) (noIdss_bel hb.2) (fun r2 X2 h2 => ⟨64, r1, by rw [h2.1, h2.2]; exact h1, rfl⟩) H
        · cases h
      · exact runBody_ok (run_ok hx n) f args H r H' h

/-- At the start: nothing is told of memory. -/
def Cfg.start (W : World) : Cfg := { w := W, n := 0, μ := fun _ => (0, 0, 0), L := fun _ => False, K := fun _ => False }
theorem HR.start (W : World) : HR (Cfg.start W) [] := ⟨rfl, fun o x h => by simp at h, fun o o' x x' h => by simp at h, fun o x h => by simp at h, fun b h => h.elim (fun h => h.elim) (fun h => h.elim)⟩
theorem Evo.below {G' : Cfg} {W : World} (h : Evo (Cfg.start W) G') : Below W.heap.size W G'.w := ⟨h.os, h.tape, h.output, h.size, fun k hk => (h.keep k hk (fun h => h)).1⟩
/-- A law: whatever is read, it returns true, and what was there is as it was. -/
theorem law_calls {f : FuncId} {args : List AV} (h : ACalls P f args [] fun r _ => r = .lit (.bool true)) (W : World) {vs : List Value} (hv : VRs (Cfg.start W) args vs) :
    Calls P f vs.toArray W fun e W' => e = .returned (.bool true) ∧ Below W.heap.size W W' :=
  (h (Cfg.start W) vs (HR.start W) hv).mono fun e w' ⟨r, H', G', v, he, hw, hE, hx, _, hr⟩ => by
    subst hr
    simp only [VR] at hx
    subst hx
    rw [← hw]
    exact ⟨he, hE.below⟩
end
end Go.Proofs.Ytpnfdibgfichmaa.Av
end
/-! YtpnfdibgfichmaaAvZ -/
section
/- The seat's closed facts, and laws without arguments by a run of the abstract machine. -/
set_option linter.unusedVariables false
namespace Go.Proofs.Ytpnfdibgfichmaa.Av
open Go
theorem own : ownKnob Try.prog.godebug = none := by kernel_rfl
theorem laidOut : laidOutB Try.prog = true := by kernel_rfl
def isTrue : Option (AV × AH) → Bool
  | some (.lit (.bool b), _) => b
  | _ => false
theorem run_true {P : Program} {ext : CallFn} (hx : CallOk P ext) {pl ql : FuncId → Bool} {fuel n : Nat} {f : FuncId} {args : List AV} (h : isTrue (run P ext pl ql fuel n f args []) = true) : ACalls P f args [] fun r _ => r = .lit (.bool true) := by
  cases hr : run P ext pl ql fuel n f args [] with
  | none => rw [hr] at h; cases h
  | some q =>
    obtain ⟨r, H⟩ := q
    rw [hr] at h
    refine (run_ok hx n f args [] r H hr).mono ?_
    rintro r' H' ⟨rfl, rfl⟩
    unfold isTrue at h
    split at h
    · rename_i he
      injection he with he
      injection he with h1 h2
      rw [h1, h]
    · cases h
end Go.Proofs.Ytpnfdibgfichmaa.Av
end
/-! YtpnfdibgfichmaaPa -/
section
/- Formulas of functions of the program: printed by a program of this session (wip/tools/Pr.lean.txt), each checked by the kernel. -/
set_option linter.unusedVariables false
set_option maxRecDepth 100000
namespace Go.Proofs.Ytpnfdibgfichmaa.Av
open Go
def pql : FuncId → Bool := inL [71,52,77,29,56,24,73,72,74,78,79,80,89,91,105,108,99,81,54,96,98,104,112,67,107,111,84]
def pqla : FuncId → Bool := inL [114]
theorem mixP : Try.prog.follows .mixedOrders = true := by kernel_rfl
/-! salvor/extent.Write -/
def extent_Write_fl : Floats := flOf []
def extent_Write_kp : Nat → Option (List Bool) := kpOf [(10, mk 75 0 [1, 2, 3, 6, 33, 34, 35])]
def extent_Write_c (p : List Bool) (n : Nat) : List AV → AH → Kf → Prop := sCode Try.prog extent_Write_fl pql none0 none0 extent_Write_kp (sub p (bodyOf Try.f71)) n
def extent_Write_L10 (x1 x2 x3 x6 x33 x34 x35 : AV) (H : AH) (K : AV → AH → Prop) : Prop := lp (mk 75 0 [1, 2, 3, 6, 33, 34, 35]) (extent_Write_c [true, true, true, true, false, true, false, false] 11) [x1, x2, x3, x6, x33, x34, x35] H (kBlk 0 (kSeq (extent_Write_c [true, true, true, true, true] 17) (kRet Try.prog Try.f71.results.toList K)))
def extent_Write_L10_b (R10 : List AV → AH → Prop) (x1 x2 x3 x6 x33 x34 x35 : AV) (H : AH) (K : AV → AH → Prop) : Prop :=
 bO (abI .lss x35 x34) fun v0 =>
 bB v0 fun t1 => bI t1 (
 bO (aixS 2 x33 x35) fun v2 =>
 bO (ald true 2 H v2) fun v3 =>
 bH (anew H (.agg [(.lit (.int .i64 0)), (.lit (.int .i64 0))])) fun v4 H5 =>
 bS (ast 2 H5 v4 v3) fun H6 =>
 bO (ashift 0 v4) fun v7 =>
 bO (ald false 1 H6 v7) fun v8 =>
 bO (abI .quo v8 (.lit (.int .i64 8))) fun v9 =>
 bC (BCall Try.prog 92 [x3, v9] H6) fun v10 H11 =>
 bO (ashift 1 x3) fun v12 =>
 bO (ald false 1 H11 v12) fun v13 =>
 bO (aixS 9 v13 v10) fun v14 =>
 bO (ashift 1 v14) fun v15 =>
 bO (ashift 0 v4) fun v16 =>
 bO (ald false 1 H11 v16) fun v17 =>
 bO (abI .mul v9 (.lit (.int .i64 8))) fun v18 =>
 bO (abI .sub v17 v18) fun v19 =>
 bO (aslA 8 1 H11 v15 (some v19) none) fun v20 =>
 bO (ashift 0 v4) fun v21 =>
 bO (ald false 1 H11 v21) fun v22 =>
 bO (abI .sub v22 x1) fun v23 =>
 bO (aslS 1 x2 (some v23) none none) fun v24 =>
 bO (ashift 1 v4) fun v25 =>
 bO (ald false 1 H11 v25) fun v26 =>
 bO (aslS 1 v24 none (some v26) none) fun v27 =>
 bH (acp 1 H11 v20 v27) fun v28 H29 =>
 bO (abI .add x35 (.lit (.int .i64 1))) fun v30 =>
 R10 [x1, x2, x3, x6, x33, x34, v30] H29)
 (bO (ashift 0 x3) fun v31 =>
 bO (ald false 1 H v31) fun v32 =>
 bO (alnS x2) fun v33 =>
 bO (abI .add x1 v33) fun v34 =>
 bO (amm imx [v32, v34]) fun v35 =>
 bO (ashift 0 x3) fun v36 =>
 bS (ast 1 H v36 v35) fun H37 =>
 bO (ald true 2 H37 x3) fun v38 =>
 bS (ast 2 H37 x6 v38) fun H39 =>
 bO (ald true 2 H39 x6) fun v40 =>
 K (.tup [v40, (.lit (.bool true))]) H39)
theorem extent_Write_L10_eq (R10 : List AV → AH → Prop) (x1 x2 x3 x6 x33 x34 x35 : AV) (H : AH) (K : AV → AH → Prop) : extent_Write_c [true, true, true, true, false, true, false, false] 11 (expand (mk 75 0 [1, 2, 3, 6, 33, 34, 35]) [x1, x2, x3, x6, x33, x34, x35]) H (kLp (mk 75 0 [1, 2, 3, 6, 33, 34, 35]) R10 (kBlk 0 (kSeq (extent_Write_c [true, true, true, true, true] 17) (kRet Try.prog Try.f71.results.toList K)))) = extent_Write_L10_b R10 x1 x2 x3 x6 x33 x34 x35 H K := by kernel_rfl
theorem extent_Write_L10_rule {K : AV → AH → Prop} (I : Nat → AV → AV → AV → AV → AV → AV → AV → AH → Prop) (round : ∀ (n : Nat) (x1 x2 x3 x6 x33 x34 x35 : AV) (H : AH) (R : List AV → AH → Prop), (∀ (m : Nat) (y1 y2 y3 y6 y33 y34 y35 : AV) (H' : AH), m < n → I m y1 y2 y3 y6 y33 y34 y35 H' → R [y1, y2, y3, y6, y33, y34, y35] H') → I n x1 x2 x3 x6 x33 x34 x35 H → extent_Write_L10_b R x1 x2 x3 x6 x33 x34 x35 H K) (n : Nat) {x1 x2 x3 x6 x33 x34 x35 : AV} {H : AH} (h : I n x1 x2 x3 x6 x33 x34 x35 H) : extent_Write_L10 x1 x2 x3 x6 x33 x34 x35 H K := by
  refine lp_upto (sCode_one _ _) (LI7 I) ?_ n h
  intro n X H h
  obtain ⟨x1, x2, x3, x6, x33, x34, x35, rfl, h⟩ := h.elim
  exact Eq.mpr (extent_Write_L10_eq _ x1 x2 x3 x6 x33 x34 x35 H K) (round n x1 x2 x3 x6 x33 x34 x35 H (fun X H' => ∃ m, m < n ∧ LI7 I m X H') (fun m y1 y2 y3 y6 y33 y34 y35 H' hm hi => ⟨m, hm, hi⟩) h)
def extent_Write (a0 a1 a2 : AV) (H : AH) (K : AV → AH → Prop) : Prop :=
 bH (anew H a0) fun v0 H1 =>
 bH (anew H1 (.agg [(.lit (.int .i64 0)), (.lit (.slice none 0 0))])) fun v2 H3 =>
 bO (ald true 2 H3 v0) fun v4 =>
 bP (PCall Try.prog 52 [v4] H3) fun v5 =>
 bO (aun .not v5) fun v6 =>
 bG v6 false fun w7 =>
 gO w7 (some a1) fun v8 =>
 bG v6 false fun w9 =>
 gO w9 (some a2) fun v10 =>
 bG v6 false fun w11 =>
 gO w11 (alnS v10) fun v12 =>
 bG v6 false fun w13 =>
 gP w13 (PCall Try.prog 89 [v8, v12] H3) fun v14 =>
 bG v6 false fun w15 =>
 gO w15 (aun .not v14) fun v16 =>
 bO (apick v6 (.lit (.bool true)) v16) fun v17 =>
 bB v17 fun t18 => bI t18 (
 bO (abl [(.lit (.int .i64 0)), (.lit (.slice none 0 0))] []) fun v19 =>
 bS (ast 2 H3 v2 v19) fun H20 =>
 bO (ald true 2 H20 v2) fun v21 =>
 K (.tup [v21, (.lit (.bool false))]) H20)
 (bO (ald true 2 H3 v0) fun v22 =>
 bC (BCall Try.prog 90 [v22] H3) fun v23 H24 =>
 bS (ast 2 H24 v0 v23) fun H25 =>
 bO (alnS a2) fun v26 =>
 bO (abI .eql v26 (.lit (.int .i64 0))) fun v27 =>
 bB v27 fun t28 => bI t28 (
 bO (ald true 2 H25 v0) fun v29 =>
 bS (ast 2 H25 v2 v29) fun H30 =>
 bO (ald true 2 H30 v2) fun v31 =>
 K (.tup [v31, (.lit (.bool true))]) H30)
 (bO (alnS a2) fun v32 =>
 bO (abl [(.lit (.int .i64 0)), (.lit (.int .i64 0))] [(0, 1, a1), (1, 1, v32)]) fun v33 =>
 bP (PCall Try.prog 91 [v33, (.lit (.int .i64 8))] H25) fun v34 =>
 bO (alnS v34) fun v35 =>
 extent_Write_L10 a1 a2 v0 v2 v34 v35 (.lit (.int .i64 0)) H25 K))
theorem extent_Write_eq (a0 a1 a2 : AV) (H : AH) (K : AV → AH → Prop) : sFun Try.prog extent_Write_fl pql none0 none0 extent_Write_kp Try.f71 [a0, a1, a2] H K = extent_Write a0 a1 a2 H K := by kernel_rfl
theorem extent_Write_ok {a0 a1 a2 : AV} {H : AH} {K : AV → AH → Prop} (h : extent_Write a0 a1 a2 H K) : ∃ r H', K r H' ∧ BCall Try.prog 71 [a0, a1, a2] H r H' :=
  sFun_ok mixP Try.func71 (by kernel_rfl) (Eq.mpr (extent_Write_eq a0 a1 a2 H K) h)
/-! salvor/extent.May -/
def extent_May_fl : Floats := flOf []
def extent_May_kp : Nat → Option (List Bool) := kpOf [(7, mk 40 0 [1, 3, 15, 16, 17])]
def extent_May_c (p : List Bool) (n : Nat) : List AV → AH → Kf → Prop := sCode Try.prog extent_May_fl pql none0 none0 extent_May_kp (sub p (bodyOf Try.f52)) n
def extent_May_L7 (x1 x3 x15 x16 x17 : AV) (H : AH) (K : AV → AH → Prop) : Prop := lp (mk 40 0 [1, 3, 15, 16, 17]) (extent_May_c [true, true, true, false, true, false, false] 8) [x1, x3, x15, x16, x17] H (kBlk 0 (kSeq (extent_May_c [true, true, true, true] 15) (kRet Try.prog Try.f52.results.toList K)))
def extent_May_L7_b (R7 : List AV → AH → Prop) (x1 x3 x15 x16 x17 : AV) (H : AH) (K : AV → AH → Prop) : Prop :=
 bO (abI .lss x17 x16) fun v0 =>
 bB v0 fun t1 => bI t1 (
 bO (aixS 9 x15 x17) fun v2 =>
 bO (ald true 9 H v2) fun v3 =>
 bH (anew H (.agg [(.lit (.int .i64 0)), (.lit (.int .u8 0)), (.lit (.int .u8 0)), (.lit (.int .u8 0)), (.lit (.int .u8 0)), (.lit (.int .u8 0)), (.lit (.int .u8 0)), (.lit (.int .u8 0)), (.lit (.int .u8 0))])) fun v4 H5 =>
 bS (ast 9 H5 v4 v3) fun H6 =>
 bO (ashift 0 v4) fun v7 =>
 bO (ald false 1 H6 v7) fun v8 =>
 bO (abI .leq v8 x3) fun v9 =>
 bG v9 false fun w10 =>
 gO w10 (ashift 0 v4) fun v11 =>
 bG v9 false fun w12 =>
 gO w12 (ald false 1 H6 v11) fun v13 =>
 bG v9 false fun w14 =>
 gO w14 (abI .geq v13 (.lit (.int .i64 137438953472))) fun v15 =>
 bO (apick v9 (.lit (.bool true)) v15) fun v16 =>
 bG v16 false fun w17 =>
 gO w17 (ald true 9 H6 v4) fun v18 =>
 bG v16 false fun w19 =>
 gO w19 (ashift 0 x1) fun v20 =>
 bG v16 false fun w21 =>
 gO w21 (ald false 1 H6 v20) fun v22 =>
 bG v16 false fun w23 =>
 gP w23 (PCall Try.prog 81 [v18, v22] H6) fun v24 =>
 bG v16 false fun w25 =>
 gO w25 (aun .not v24) fun v26 =>
 bO (apick v16 (.lit (.bool true)) v26) fun v27 =>
 bB v27 fun t28 => bI t28 (
 K (.lit (.bool false)) H6)
 (bO (ashift 0 v4) fun v29 =>
 bO (ald false 1 H6 v29) fun v30 =>
 bO (abI .add x17 (.lit (.int .i64 1))) fun v31 =>
 R7 [x1, v30, x15, x16, v31] H6))
 (K (.lit (.bool true)) H)
theorem extent_May_L7_eq (R7 : List AV → AH → Prop) (x1 x3 x15 x16 x17 : AV) (H : AH) (K : AV → AH → Prop) : extent_May_c [true, true, true, false, true, false, false] 8 (expand (mk 40 0 [1, 3, 15, 16, 17]) [x1, x3, x15, x16, x17]) H (kLp (mk 40 0 [1, 3, 15, 16, 17]) R7 (kBlk 0 (kSeq (extent_May_c [true, true, true, true] 15) (kRet Try.prog Try.f52.results.toList K)))) = extent_May_L7_b R7 x1 x3 x15 x16 x17 H K := by kernel_rfl
theorem extent_May_L7_rule {K : AV → AH → Prop} (I : Nat → AV → AV → AV → AV → AV → AH → Prop) (round : ∀ (n : Nat) (x1 x3 x15 x16 x17 : AV) (H : AH) (R : List AV → AH → Prop), (∀ (m : Nat) (y1 y3 y15 y16 y17 : AV) (H' : AH), m < n → I m y1 y3 y15 y16 y17 H' → R [y1, y3, y15, y16, y17] H') → I n x1 x3 x15 x16 x17 H → extent_May_L7_b R x1 x3 x15 x16 x17 H K) (n : Nat) {x1 x3 x15 x16 x17 : AV} {H : AH} (h : I n x1 x3 x15 x16 x17 H) : extent_May_L7 x1 x3 x15 x16 x17 H K := by
  refine lp_upto (sCode_one _ _) (LI5 I) ?_ n h
  intro n X H h
  obtain ⟨x1, x3, x15, x16, x17, rfl, h⟩ := h.elim
  exact Eq.mpr (extent_May_L7_eq _ x1 x3 x15 x16 x17 H K) (round n x1 x3 x15 x16 x17 H (fun X H' => ∃ m, m < n ∧ LI5 I m X H') (fun m y1 y3 y15 y16 y17 H' hm hi => ⟨m, hm, hi⟩) h)
def extent_May (a0 : AV) (H : AH) (K : AV → AH → Prop) : Prop :=
 bH (anew H a0) fun v0 H1 =>
 bO (ashift 0 v0) fun v2 =>
 bO (ald false 1 H1 v2) fun v3 =>
 bO (abI .lss v3 (.lit (.int .i64 0))) fun v4 =>
 bG v4 false fun w5 =>
 gO w5 (ashift 0 v0) fun v6 =>
 bG v4 false fun w7 =>
 gO w7 (ald false 1 H1 v6) fun v8 =>
 bG v4 false fun w9 =>
 gO w9 (abI .gtr v8 (.lit (.int .i64 1099511627776))) fun v10 =>
 bO (apick v4 (.lit (.bool true)) v10) fun v11 =>
 bB v11 fun t12 => bI t12 (
 K (.lit (.bool false)) H1)
 (bO (ashift 1 v0) fun v13 =>
 bO (ald false 1 H1 v13) fun v14 =>
 bO (alnS v14) fun v15 =>
 extent_May_L7 v0 (.lit (.int .i64 (-1))) v14 v15 (.lit (.int .i64 0)) H1 K)
theorem extent_May_eq (a0 : AV) (H : AH) (K : AV → AH → Prop) : sFun Try.prog extent_May_fl pql none0 none0 extent_May_kp Try.f52 [a0] H K = extent_May a0 H K := by kernel_rfl
theorem extent_May_ok {a0 : AV} {H : AH} {K : AV → AH → Prop} (h : extent_May a0 H K) : ∃ r H', K r H' ∧ BCall Try.prog 52 [a0] H r H' :=
  sFun_ok mixP Try.func52 (by kernel_rfl) (Eq.mpr (extent_May_eq a0 H K) h)
/-! salvor/salvorref11.WriteContent -/
def salvorref11_WriteContent_fl : Floats := flOf []
def salvorref11_WriteContent_kp : Nat → Option (List Bool) := kpOf [(12, mk 69 0 [3, 6]), (7, mk 69 0 [1, 2, 3, 6, 8])]
def salvorref11_WriteContent_c (p : List Bool) (n : Nat) : List AV → AH → Kf → Prop := sCode Try.prog salvorref11_WriteContent_fl pql none0 none0 salvorref11_WriteContent_kp (sub p (bodyOf Try.f77)) n
def salvorref11_WriteContent_J12 (x3 x6 : AV) (H : AH) (K : AV → AH → Prop) : Prop := jn (mk 69 0 [3, 6]) (salvorref11_WriteContent_c [true, true, true, true, true] 14) [x3, x6] H (kRet Try.prog Try.f77.results.toList K)
def salvorref11_WriteContent_L7 (x1 x2 x3 x6 x8 : AV) (H : AH) (K : AV → AH → Prop) : Prop := lp (mk 69 0 [1, 2, 3, 6, 8]) (salvorref11_WriteContent_c [true, true, true, false, true, false, false] 8) [x1, x2, x3, x6, x8] H (kBlk 0 (kSeq (salvorref11_WriteContent_c [true, true, true, true] 12) (kRet Try.prog Try.f77.results.toList K)))
def salvorref11_WriteContent_J12_b (x3 x6 : AV) (H : AH) (K : AV → AH → Prop) : Prop :=
 bO (ald true 2 H x3) fun v0 =>
 bS (ast 2 H x6 v0) fun H1 =>
 bO (ald true 2 H1 x6) fun v2 =>
 K (.tup [v2, (.lit (.bool true))]) H1
theorem salvorref11_WriteContent_J12_eq0 (x3 x6 : AV) (H : AH) (K : AV → AH → Prop) : salvorref11_WriteContent_c [true, true, true, true, true] 14 (expand (mk 69 0 [3, 6]) [x3, x6]) H (kRet Try.prog Try.f77.results.toList K) = salvorref11_WriteContent_J12_b x3 x6 H K := by kernel_rfl
theorem salvorref11_WriteContent_J12_eq (x3 x6 : AV) (H : AH) (K : AV → AH → Prop) : salvorref11_WriteContent_J12 x3 x6 H K = salvorref11_WriteContent_J12_b x3 x6 H K := (jn_eq _ _ _ _ _).trans (salvorref11_WriteContent_J12_eq0 x3 x6 H K)
def salvorref11_WriteContent_L7_b (R7 : List AV → AH → Prop) (x1 x2 x3 x6 x8 : AV) (H : AH) (K : AV → AH → Prop) : Prop :=
 bO (alnS x2) fun v0 =>
 bO (abI .lss x8 v0) fun v1 =>
 bB v1 fun t2 => bI t2 (
 bO (abI .add x1 x8) fun v3 =>
 bO (abI .quo v3 (.lit (.int .i64 8))) fun v4 =>
 bC (BCall Try.prog 100 [x3, v4] H) fun v5 H6 =>
 bO (ashift 1 x3) fun v7 =>
 bO (ald false 1 H6 v7) fun v8 =>
 bO (abI .add x1 x8) fun v9 =>
 bO (abI .rem v9 (.lit (.int .i64 8))) fun v10 =>
 bO (aixS 1 x2 x8) fun v11 =>
 bO (ald false 1 H6 v11) fun v12 =>
 bO (aixS 9 v8 v5) fun v13 =>
 bO (ashift 1 v13) fun v14 =>
 bO (aixA 8 1 v14 v10) fun v15 =>
 bS (ast 1 H6 v15 v12) fun H16 =>
 bO (abI .add x8 (.lit (.int .i64 1))) fun v17 =>
 R7 [x1, x2, x3, x6, v17] H16)
 (bO (alnS x2) fun v18 =>
 bO (abI .gtr v18 (.lit (.int .i64 0))) fun v19 =>
 bB v19 fun t20 => bI t20 (
 bO (ashift 0 x3) fun v21 =>
 bO (ald false 1 H v21) fun v22 =>
 bO (alnS x2) fun v23 =>
 bO (abI .add x1 v23) fun v24 =>
 bO (amm imx [v22, v24]) fun v25 =>
 bO (ashift 0 x3) fun v26 =>
 bS (ast 1 H v26 v25) fun H27 =>
 salvorref11_WriteContent_J12 x3 x6 H27 K)
 (salvorref11_WriteContent_J12 x3 x6 H K))
theorem salvorref11_WriteContent_L7_eq (R7 : List AV → AH → Prop) (x1 x2 x3 x6 x8 : AV) (H : AH) (K : AV → AH → Prop) : salvorref11_WriteContent_c [true, true, true, false, true, false, false] 8 (expand (mk 69 0 [1, 2, 3, 6, 8]) [x1, x2, x3, x6, x8]) H (kLp (mk 69 0 [1, 2, 3, 6, 8]) R7 (kBlk 0 (kSeq (salvorref11_WriteContent_c [true, true, true, true] 12) (kRet Try.prog Try.f77.results.toList K)))) = salvorref11_WriteContent_L7_b R7 x1 x2 x3 x6 x8 H K := by kernel_rfl
theorem salvorref11_WriteContent_L7_rule {K : AV → AH → Prop} (I : Nat → AV → AV → AV → AV → AV → AH → Prop) (round : ∀ (n : Nat) (x1 x2 x3 x6 x8 : AV) (H : AH) (R : List AV → AH → Prop), (∀ (m : Nat) (y1 y2 y3 y6 y8 : AV) (H' : AH), m < n → I m y1 y2 y3 y6 y8 H' → R [y1, y2, y3, y6, y8] H') → I n x1 x2 x3 x6 x8 H → salvorref11_WriteContent_L7_b R x1 x2 x3 x6 x8 H K) (n : Nat) {x1 x2 x3 x6 x8 : AV} {H : AH} (h : I n x1 x2 x3 x6 x8 H) : salvorref11_WriteContent_L7 x1 x2 x3 x6 x8 H K := by
  refine lp_upto (sCode_one _ _) (LI5 I) ?_ n h
  intro n X H h
  obtain ⟨x1, x2, x3, x6, x8, rfl, h⟩ := h.elim
  exact Eq.mpr (salvorref11_WriteContent_L7_eq _ x1 x2 x3 x6 x8 H K) (round n x1 x2 x3 x6 x8 H (fun X H' => ∃ m, m < n ∧ LI5 I m X H') (fun m y1 y2 y3 y6 y8 H' hm hi => ⟨m, hm, hi⟩) h)
def salvorref11_WriteContent (a0 a1 a2 : AV) (H : AH) (K : AV → AH → Prop) : Prop :=
 bH (anew H a0) fun v0 H1 =>
 bH (anew H1 (.agg [(.lit (.int .i64 0)), (.lit (.slice none 0 0))])) fun v2 H3 =>
 bO (ald true 2 H3 v0) fun v4 =>
 bP (PCall Try.prog 56 [v4] H3) fun v5 =>
 bO (aun .not v5) fun v6 =>
 bG v6 false fun w7 =>
 gO w7 (some a1) fun v8 =>
 bG v6 false fun w9 =>
 gO w9 (abI .lss v8 (.lit (.int .i64 0))) fun v10 =>
 bO (apick v6 (.lit (.bool true)) v10) fun v11 =>
 bG v11 false fun w12 =>
 gO w12 (some a2) fun v13 =>
 bG v11 false fun w14 =>
 gO w14 (alnS v13) fun v15 =>
 bG v11 false fun w16 =>
 gO w16 (abI .gtr v15 (.lit (.int .i64 4096))) fun v17 =>
 bO (apick v11 (.lit (.bool true)) v17) fun v18 =>
 bG v18 false fun w19 =>
 gO w19 (some a1) fun v20 =>
 bG v18 false fun w21 =>
 gO w21 (some a2) fun v22 =>
 bG v18 false fun w23 =>
 gO w23 (alnS v22) fun v24 =>
 bG v18 false fun w25 =>
 gO w25 (abI .sub (.lit (.int .i64 1099511627776)) v24) fun v26 =>
 bG v18 false fun w27 =>
 gO w27 (abI .gtr v20 v26) fun v28 =>
 bO (apick v18 (.lit (.bool true)) v28) fun v29 =>
 bB v29 fun t30 => bI t30 (
 bO (abl [(.lit (.int .i64 0)), (.lit (.slice none 0 0))] []) fun v31 =>
 bS (ast 2 H3 v2 v31) fun H32 =>
 bO (ald true 2 H32 v2) fun v33 =>
 K (.tup [v33, (.lit (.bool false))]) H32)
 (bO (ald true 2 H3 v0) fun v34 =>
 bC (BCall Try.prog 55 [v34] H3) fun v35 H36 =>
 bS (ast 2 H36 v0 v35) fun H37 =>
 salvorref11_WriteContent_L7 a1 a2 v0 v2 (.lit (.int .i64 0)) H37 K)
theorem salvorref11_WriteContent_eq (a0 a1 a2 : AV) (H : AH) (K : AV → AH → Prop) : sFun Try.prog salvorref11_WriteContent_fl pql none0 none0 salvorref11_WriteContent_kp Try.f77 [a0, a1, a2] H K = salvorref11_WriteContent a0 a1 a2 H K := by kernel_rfl
theorem salvorref11_WriteContent_ok {a0 a1 a2 : AV} {H : AH} {K : AV → AH → Prop} (h : salvorref11_WriteContent a0 a1 a2 H K) : ∃ r H', K r H' ∧ BCall Try.prog 77 [a0, a1, a2] H r H' :=
  sFun_ok mixP Try.func77 (by kernel_rfl) (Eq.mpr (salvorref11_WriteContent_eq a0 a1 a2 H K) h)
/-! salvor/salvorref11.SameContent -/
def salvorref11_SameContent_fl : Floats := flOf []
def salvorref11_SameContent_kp : Nat → Option (List Bool) := kpOf [(6, mk 38 0 [2, 3, 5])]
def salvorref11_SameContent_c (p : List Bool) (n : Nat) : List AV → AH → Kf → Prop := sCode Try.prog salvorref11_SameContent_fl pql none0 none0 salvorref11_SameContent_kp (sub p (bodyOf Try.f29)) n
def salvorref11_SameContent_L6 (x2 x3 x5 : AV) (H : AH) (K : AV → AH → Prop) : Prop := lp (mk 38 0 [2, 3, 5]) (salvorref11_SameContent_c [true, true, false, true, false, false] 7) [x2, x3, x5] H (kBlk 0 (kSeq (salvorref11_SameContent_c [true, true, true] 12) (kRet Try.prog Try.f29.results.toList K)))
def salvorref11_SameContent_L6_b (R6 : List AV → AH → Prop) (x2 x3 x5 : AV) (H : AH) (K : AV → AH → Prop) : Prop :=
 bO (ashift 1 x2) fun v0 =>
 bO (ald false 1 H v0) fun v1 =>
 bO (alnS v1) fun v2 =>
 bO (abI .lss x5 v2) fun v3 =>
 bB v3 fun t4 => bI t4 (
 bO (ashift 1 x2) fun v5 =>
 bO (ald false 1 H v5) fun v6 =>
 bO (aixS 9 v6 x5) fun v7 =>
 bO (ald true 9 H v7) fun v8 =>
 bO (ashift 1 x3) fun v9 =>
 bO (ald false 1 H v9) fun v10 =>
 bO (aixS 9 v10 x5) fun v11 =>
 bO (ald true 9 H v11) fun v12 =>
 bO (abin Try.prog .neq 90 v8 v12) fun v13 =>
 bB v13 fun t14 => bI t14 (
 K (.lit (.bool false)) H)
 (bO (abI .add x5 (.lit (.int .i64 1))) fun v15 =>
 R6 [x2, x3, v15] H))
 (K (.lit (.bool true)) H)
theorem salvorref11_SameContent_L6_eq (R6 : List AV → AH → Prop) (x2 x3 x5 : AV) (H : AH) (K : AV → AH → Prop) : salvorref11_SameContent_c [true, true, false, true, false, false] 7 (expand (mk 38 0 [2, 3, 5]) [x2, x3, x5]) H (kLp (mk 38 0 [2, 3, 5]) R6 (kBlk 0 (kSeq (salvorref11_SameContent_c [true, true, true] 12) (kRet Try.prog Try.f29.results.toList K)))) = salvorref11_SameContent_L6_b R6 x2 x3 x5 H K := by kernel_rfl
theorem salvorref11_SameContent_L6_rule {K : AV → AH → Prop} (I : Nat → AV → AV → AV → AH → Prop) (round : ∀ (n : Nat) (x2 x3 x5 : AV) (H : AH) (R : List AV → AH → Prop), (∀ (m : Nat) (y2 y3 y5 : AV) (H' : AH), m < n → I m y2 y3 y5 H' → R [y2, y3, y5] H') → I n x2 x3 x5 H → salvorref11_SameContent_L6_b R x2 x3 x5 H K) (n : Nat) {x2 x3 x5 : AV} {H : AH} (h : I n x2 x3 x5 H) : salvorref11_SameContent_L6 x2 x3 x5 H K := by
  refine lp_upto (sCode_one _ _) (LI3 I) ?_ n h
  intro n X H h
  obtain ⟨x2, x3, x5, rfl, h⟩ := h.elim
  exact Eq.mpr (salvorref11_SameContent_L6_eq _ x2 x3 x5 H K) (round n x2 x3 x5 H (fun X H' => ∃ m, m < n ∧ LI3 I m X H') (fun m y2 y3 y5 H' hm hi => ⟨m, hm, hi⟩) h)
def salvorref11_SameContent (a0 a1 : AV) (H : AH) (K : AV → AH → Prop) : Prop :=
 bH (anew H a0) fun v0 H1 =>
 bH (anew H1 a1) fun v2 H3 =>
 bO (ashift 0 v0) fun v4 =>
 bO (ald false 1 H3 v4) fun v5 =>
 bO (ashift 0 v2) fun v6 =>
 bO (ald false 1 H3 v6) fun v7 =>
 bO (abI .neq v5 v7) fun v8 =>
 bG v8 false fun w9 =>
 gO w9 (ashift 1 v0) fun v10 =>
 bG v8 false fun w11 =>
 gO w11 (ald false 1 H3 v10) fun v12 =>
 bG v8 false fun w13 =>
 gO w13 (alnS v12) fun v14 =>
 bG v8 false fun w15 =>
 gO w15 (ashift 1 v2) fun v16 =>
 bG v8 false fun w17 =>
 gO w17 (ald false 1 H3 v16) fun v18 =>
 bG v8 false fun w19 =>
 gO w19 (alnS v18) fun v20 =>
 bG v8 false fun w21 =>
 gO w21 (abI .neq v14 v20) fun v22 =>
 bO (apick v8 (.lit (.bool true)) v22) fun v23 =>
 bB v23 fun t24 => bI t24 (
 K (.lit (.bool false)) H3)
 (salvorref11_SameContent_L6 v0 v2 (.lit (.int .i64 0)) H3 K)
theorem salvorref11_SameContent_eq (a0 a1 : AV) (H : AH) (K : AV → AH → Prop) : sFun Try.prog salvorref11_SameContent_fl pql none0 none0 salvorref11_SameContent_kp Try.f29 [a0, a1] H K = salvorref11_SameContent a0 a1 H K := by kernel_rfl
theorem salvorref11_SameContent_ok {a0 a1 : AV} {H : AH} {K : AV → AH → Prop} (h : salvorref11_SameContent a0 a1 H K) : ∃ r H', K r H' ∧ BCall Try.prog 29 [a0, a1] H r H' :=
  sFun_ok mixP Try.func29 (by kernel_rfl) (Eq.mpr (salvorref11_SameContent_eq a0 a1 H K) h)
/-! salvor/salvorref11.MayContent -/
def salvorref11_MayContent_fl : Floats := flOf []
def salvorref11_MayContent_kp : Nat → Option (List Bool) := kpOf [(15, mk 70 0 [1, 3, 4, 5]), (6, mk 70 0 [1, 3])]
def salvorref11_MayContent_c (p : List Bool) (n : Nat) : List AV → AH → Kf → Prop := sCode Try.prog salvorref11_MayContent_fl pql none0 none0 salvorref11_MayContent_kp (sub p (bodyOf Try.f56)) n
def salvorref11_MayContent_L15 (R6 : List AV → AH → Prop) (x1 x3 x4 x5 : AV) (H : AH) (K : AV → AH → Prop) : Prop := lp (mk 70 0 [1, 3, 4, 5]) (salvorref11_MayContent_c [true, true, false, true, false, false, true, false, false, true, true, true, false, false] 16) [x1, x3, x4, x5] H (kBlk 2 (kBlk 1 (kSeq (salvorref11_MayContent_c [true, true, false, true, false, false, true, true] 21) (kLp (mk 70 0 [1, 3]) R6 (kBlk 0 (kSeq (salvorref11_MayContent_c [true, true, true] 21) (kRet Try.prog Try.f56.results.toList K)))))))
def salvorref11_MayContent_L6 (x1 x3 : AV) (H : AH) (K : AV → AH → Prop) : Prop := lp (mk 70 0 [1, 3]) (salvorref11_MayContent_c [true, true, false, true, false, false] 7) [x1, x3] H (kBlk 0 (kSeq (salvorref11_MayContent_c [true, true, true] 21) (kRet Try.prog Try.f56.results.toList K)))
def salvorref11_MayContent_L15_b (R6 : List AV → AH → Prop) (R15 : List AV → AH → Prop) (x1 x3 x4 x5 : AV) (H : AH) (K : AV → AH → Prop) : Prop :=
 bO (abI .lss x5 (.lit (.int .i64 8))) fun v0 =>
 bB v0 fun t1 => bI t1 (
 bO (abI .mul x4 (.lit (.int .i64 8))) fun v2 =>
 bO (abI .add v2 x5) fun v3 =>
 bO (ashift 0 x1) fun v4 =>
 bO (ald false 1 H v4) fun v5 =>
 bO (abI .geq v3 v5) fun v6 =>
 bG v6 true fun w7 =>
 gO w7 (ashift 1 x1) fun v8 =>
 bG v6 true fun w9 =>
 gO w9 (ald false 1 H v8) fun v10 =>
 bG v6 true fun w11 =>
 gO w11 (some x3) fun v12 =>
 bG v6 true fun w13 =>
 gO w13 (some x5) fun v14 =>
 bG v6 true fun w15 =>
 gO w15 (aixS 9 v10 v12) fun v16 =>
 bG v6 true fun w17 =>
 gO w17 (ashift 1 v16) fun v18 =>
 bG v6 true fun w19 =>
 gO w19 (aixA 8 1 v18 v14) fun v20 =>
 bG v6 true fun w21 =>
 gO w21 (ald false 1 H v20) fun v22 =>
 bG v6 true fun w23 =>
 gO w23 (abI .neq v22 (.lit (.int .u8 0))) fun v24 =>
 bO (apick v6 v24 (.lit (.bool false))) fun v25 =>
 bB v25 fun t26 => bI t26 (
 K (.lit (.bool false)) H)
 (bO (abI .add x5 (.lit (.int .i64 1))) fun v27 =>
 R15 [x1, x3, x4, v27] H))
 (bO (abI .add x3 (.lit (.int .i64 1))) fun v28 =>
 R6 [x1, v28] H)
theorem salvorref11_MayContent_L15_eq (R6 : List AV → AH → Prop) (R15 : List AV → AH → Prop) (x1 x3 x4 x5 : AV) (H : AH) (K : AV → AH → Prop) : salvorref11_MayContent_c [true, true, false, true, false, false, true, false, false, true, true, true, false, false] 16 (expand (mk 70 0 [1, 3, 4, 5]) [x1, x3, x4, x5]) H (kLp (mk 70 0 [1, 3, 4, 5]) R15 (kBlk 2 (kBlk 1 (kSeq (salvorref11_MayContent_c [true, true, false, true, false, false, true, true] 21) (kLp (mk 70 0 [1, 3]) R6 (kBlk 0 (kSeq (salvorref11_MayContent_c [true, true, true] 21) (kRet Try.prog Try.f56.results.toList K)))))))) = salvorref11_MayContent_L15_b R6 R15 x1 x3 x4 x5 H K := by kernel_rfl
theorem salvorref11_MayContent_L15_rule (R6 : List AV → AH → Prop) {K : AV → AH → Prop} (I : Nat → AV → AV → AV → AV → AH → Prop) (round : ∀ (n : Nat) (x1 x3 x4 x5 : AV) (H : AH) (R : List AV → AH → Prop), (∀ (m : Nat) (y1 y3 y4 y5 : AV) (H' : AH), m < n → I m y1 y3 y4 y5 H' → R [y1, y3, y4, y5] H') → I n x1 x3 x4 x5 H → salvorref11_MayContent_L15_b R6 R x1 x3 x4 x5 H K) (n : Nat) {x1 x3 x4 x5 : AV} {H : AH} (h : I n x1 x3 x4 x5 H) : salvorref11_MayContent_L15 R6 x1 x3 x4 x5 H K := by
  refine lp_upto (sCode_one _ _) (LI4 I) ?_ n h
  intro n X H h
  obtain ⟨x1, x3, x4, x5, rfl, h⟩ := h.elim
  exact Eq.mpr (salvorref11_MayContent_L15_eq R6 _ x1 x3 x4 x5 H K) (round n x1 x3 x4 x5 H (fun X H' => ∃ m, m < n ∧ LI4 I m X H') (fun m y1 y3 y4 y5 H' hm hi => ⟨m, hm, hi⟩) h)
def salvorref11_MayContent_L6_b (R6 : List AV → AH → Prop) (x1 x3 : AV) (H : AH) (K : AV → AH → Prop) : Prop :=
 bO (ashift 1 x1) fun v0 =>
 bO (ald false 1 H v0) fun v1 =>
 bO (alnS v1) fun v2 =>
 bO (abI .lss x3 v2) fun v3 =>
 bB v3 fun t4 => bI t4 (
 bO (ashift 1 x1) fun v5 =>
 bO (ald false 1 H v5) fun v6 =>
 bO (aixS 9 v6 x3) fun v7 =>
 bO (ashift 0 v7) fun v8 =>
 bO (ald false 1 H v8) fun v9 =>
 bO (abI .lss v9 (.lit (.int .i64 0))) fun v10 =>
 bG v10 false fun w11 =>
 gO w11 (some v9) fun v12 =>
 bG v10 false fun w13 =>
 gO w13 (abI .geq v12 (.lit (.int .i64 137438953472))) fun v14 =>
 bO (apick v10 (.lit (.bool true)) v14) fun v15 =>
 bG v15 false fun w16 =>
 gO w16 (some x3) fun v17 =>
 bG v15 false fun w18 =>
 gO w18 (abI .gtr v17 (.lit (.int .i64 0))) fun v19 =>
 bG v15 false fun w20 =>
 gO w20 (some v19) fun v21 =>
 bG v21 true fun w22 =>
 gO w22 (ashift 1 x1) fun v23 =>
 bG v21 true fun w24 =>
 gO w24 (ald false 1 H v23) fun v25 =>
 bG v21 true fun w26 =>
 gO w26 (some x3) fun v27 =>
 bG v21 true fun w28 =>
 gO w28 (abI .sub v27 (.lit (.int .i64 1))) fun v29 =>
 bG v21 true fun w30 =>
 gO w30 (aixS 9 v25 v29) fun v31 =>
 bG v21 true fun w32 =>
 gO w32 (ashift 0 v31) fun v33 =>
 bG v21 true fun w34 =>
 gO w34 (ald false 1 H v33) fun v35 =>
 bG v21 true fun w36 =>
 gO w36 (some v9) fun v37 =>
 bG v21 true fun w38 =>
 gO w38 (abI .geq v35 v37) fun v39 =>
 bG v15 false fun w40 =>
 gO w40 (apick v21 v39 (.lit (.bool false))) fun v41 =>
 bO (apick v15 (.lit (.bool true)) v41) fun v42 =>
 bB v42 fun t43 => bI t43 (
 K (.lit (.bool false)) H)
 (salvorref11_MayContent_L15 R6 x1 x3 v9 (.lit (.int .i64 0)) H K))
 (K (.lit (.bool true)) H)
theorem salvorref11_MayContent_L6_eq (R6 : List AV → AH → Prop) (x1 x3 : AV) (H : AH) (K : AV → AH → Prop) : salvorref11_MayContent_c [true, true, false, true, false, false] 7 (expand (mk 70 0 [1, 3]) [x1, x3]) H (kLp (mk 70 0 [1, 3]) R6 (kBlk 0 (kSeq (salvorref11_MayContent_c [true, true, true] 21) (kRet Try.prog Try.f56.results.toList K)))) = salvorref11_MayContent_L6_b R6 x1 x3 H K := by kernel_rfl
theorem salvorref11_MayContent_L6_rule {K : AV → AH → Prop} (I : Nat → AV → AV → AH → Prop) (round : ∀ (n : Nat) (x1 x3 : AV) (H : AH) (R : List AV → AH → Prop), (∀ (m : Nat) (y1 y3 : AV) (H' : AH), m < n → I m y1 y3 H' → R [y1, y3] H') → I n x1 x3 H → salvorref11_MayContent_L6_b R x1 x3 H K) (n : Nat) {x1 x3 : AV} {H : AH} (h : I n x1 x3 H) : salvorref11_MayContent_L6 x1 x3 H K := by
  refine lp_upto (sCode_one _ _) (LI2 I) ?_ n h
  intro n X H h
  obtain ⟨x1, x3, rfl, h⟩ := h.elim
  exact Eq.mpr (salvorref11_MayContent_L6_eq _ x1 x3 H K) (round n x1 x3 H (fun X H' => ∃ m, m < n ∧ LI2 I m X H') (fun m y1 y3 H' hm hi => ⟨m, hm, hi⟩) h)
def salvorref11_MayContent (a0 : AV) (H : AH) (K : AV → AH → Prop) : Prop :=
 bH (anew H a0) fun v0 H1 =>
 bO (ashift 0 v0) fun v2 =>
 bO (ald false 1 H1 v2) fun v3 =>
 bO (abI .lss v3 (.lit (.int .i64 0))) fun v4 =>
 bG v4 false fun w5 =>
 gO w5 (ashift 0 v0) fun v6 =>
 bG v4 false fun w7 =>
 gO w7 (ald false 1 H1 v6) fun v8 =>
 bG v4 false fun w9 =>
 gO w9 (abI .gtr v8 (.lit (.int .i64 1099511627776))) fun v10 =>
 bO (apick v4 (.lit (.bool true)) v10) fun v11 =>
 bB v11 fun t12 => bI t12 (
 K (.lit (.bool false)) H1)
 (salvorref11_MayContent_L6 v0 (.lit (.int .i64 0)) H1 K)
theorem salvorref11_MayContent_eq (a0 : AV) (H : AH) (K : AV → AH → Prop) : sFun Try.prog salvorref11_MayContent_fl pql none0 none0 salvorref11_MayContent_kp Try.f56 [a0] H K = salvorref11_MayContent a0 H K := by kernel_rfl
theorem salvorref11_MayContent_ok {a0 : AV} {H : AH} {K : AV → AH → Prop} (h : salvorref11_MayContent a0 H K) : ∃ r H', K r H' ∧ BCall Try.prog 56 [a0] H r H' :=
  sFun_ok mixP Try.func56 (by kernel_rfl) (Eq.mpr (salvorref11_MayContent_eq a0 H K) h)
/-! salvor/extent.Same -/
def extent_Same_fl : Floats := flOf []
def extent_Same_kp : Nat → Option (List Bool) := kpOf []
def extent_Same_c (p : List Bool) (n : Nat) : List AV → AH → Kf → Prop := sCode Try.prog extent_Same_fl pql none0 none0 extent_Same_kp (sub p (bodyOf Try.f24)) n
def extent_Same (a0 a1 : AV) (H : AH) (K : AV → AH → Prop) : Prop :=
 bH (anew H a0) fun v0 H1 =>
 bH (anew H1 a1) fun v2 H3 =>
 bO (ashift 0 v0) fun v4 =>
 bO (ald false 1 H3 v4) fun v5 =>
 bO (ashift 0 v2) fun v6 =>
 bO (ald false 1 H3 v6) fun v7 =>
 bO (abI .eql v5 v7) fun v8 =>
 bG v8 true fun w9 =>
 gO w9 (ashift 1 v0) fun v10 =>
 bG v8 true fun w11 =>
 gO w11 (ald false 1 H3 v10) fun v12 =>
 bG v8 true fun w13 =>
 gO w13 (ashift 1 v2) fun v14 =>
 bG v8 true fun w15 =>
 gO w15 (ald false 1 H3 v14) fun v16 =>
 bG v8 true fun w17 =>
 gP w17 (PCall Try.prog 54 [v12, v16] H3) fun v18 =>
 bO (apick v8 v18 (.lit (.bool false))) fun v19 =>
 K v19 H3
theorem extent_Same_eq (a0 a1 : AV) (H : AH) (K : AV → AH → Prop) : sFun Try.prog extent_Same_fl pql none0 none0 extent_Same_kp Try.f24 [a0, a1] H K = extent_Same a0 a1 H K := by kernel_rfl
theorem extent_Same_ok {a0 a1 : AV} {H : AH} {K : AV → AH → Prop} (h : extent_Same a0 a1 H K) : ∃ r H', K r H' ∧ BCall Try.prog 24 [a0, a1] H r H' :=
  sFun_ok mixP Try.func24 (by kernel_rfl) (Eq.mpr (extent_Same_eq a0 a1 H K) h)
/-! salvor/extent.Allocate -/
def extent_Allocate_fl : Floats := flOf []
def extent_Allocate_kp : Nat → Option (List Bool) := kpOf [(11, mk 50 0 [4, 8]), (7, mk 50 0 [1, 2, 3, 4, 8, 10])]
def extent_Allocate_c (p : List Bool) (n : Nat) : List AV → AH → Kf → Prop := sCode Try.prog extent_Allocate_fl pql none0 none0 extent_Allocate_kp (sub p (bodyOf Try.f73)) n
def extent_Allocate_J11 (x4 x8 : AV) (H : AH) (K : AV → AH → Prop) : Prop := jn (mk 50 0 [4, 8]) (extent_Allocate_c [true, true, true, true, true] 13) [x4, x8] H (kRet Try.prog Try.f73.results.toList K)
def extent_Allocate_L7 (x1 x2 x3 x4 x8 x10 : AV) (H : AH) (K : AV → AH → Prop) : Prop := lp (mk 50 0 [1, 2, 3, 4, 8, 10]) (extent_Allocate_c [true, true, true, false, true, false, false] 8) [x1, x2, x3, x4, x8, x10] H (kBlk 0 (kSeq (extent_Allocate_c [true, true, true, true] 11) (kRet Try.prog Try.f73.results.toList K)))
def extent_Allocate_J11_b (x4 x8 : AV) (H : AH) (K : AV → AH → Prop) : Prop :=
 bO (ald true 2 H x4) fun v0 =>
 bS (ast 2 H x8 v0) fun H1 =>
 bO (ald true 2 H1 x8) fun v2 =>
 K (.tup [v2, (.lit (.bool true))]) H1
theorem extent_Allocate_J11_eq0 (x4 x8 : AV) (H : AH) (K : AV → AH → Prop) : extent_Allocate_c [true, true, true, true, true] 13 (expand (mk 50 0 [4, 8]) [x4, x8]) H (kRet Try.prog Try.f73.results.toList K) = extent_Allocate_J11_b x4 x8 H K := by kernel_rfl
theorem extent_Allocate_J11_eq (x4 x8 : AV) (H : AH) (K : AV → AH → Prop) : extent_Allocate_J11 x4 x8 H K = extent_Allocate_J11_b x4 x8 H K := (jn_eq _ _ _ _ _).trans (extent_Allocate_J11_eq0 x4 x8 H K)
def extent_Allocate_L7_b (R7 : List AV → AH → Prop) (x1 x2 x3 x4 x8 x10 : AV) (H : AH) (K : AV → AH → Prop) : Prop :=
 bO (abI .add x1 x2) fun v0 =>
 bO (abI .sub v0 (.lit (.int .i64 1))) fun v1 =>
 bO (abI .quo v1 (.lit (.int .i64 8))) fun v2 =>
 bO (abI .leq x10 v2) fun v3 =>
 bB v3 fun t4 => bI t4 (
 bC (BCall Try.prog 92 [x4, x10] H) fun v5 H6 =>
 bO (abI .add x10 (.lit (.int .i64 1))) fun v7 =>
 R7 [x1, x2, x3, x4, x8, v7] H6)
 (bO (aun .not x3) fun v8 =>
 bB v8 fun t9 => bI t9 (
 bO (ashift 0 x4) fun v10 =>
 bO (ald false 1 H v10) fun v11 =>
 bO (abI .add x1 x2) fun v12 =>
 bO (amm imx [v11, v12]) fun v13 =>
 bO (ashift 0 x4) fun v14 =>
 bS (ast 1 H v14 v13) fun H15 =>
 extent_Allocate_J11 x4 x8 H15 K)
 (extent_Allocate_J11 x4 x8 H K))
theorem extent_Allocate_L7_eq (R7 : List AV → AH → Prop) (x1 x2 x3 x4 x8 x10 : AV) (H : AH) (K : AV → AH → Prop) : extent_Allocate_c [true, true, true, false, true, false, false] 8 (expand (mk 50 0 [1, 2, 3, 4, 8, 10]) [x1, x2, x3, x4, x8, x10]) H (kLp (mk 50 0 [1, 2, 3, 4, 8, 10]) R7 (kBlk 0 (kSeq (extent_Allocate_c [true, true, true, true] 11) (kRet Try.prog Try.f73.results.toList K)))) = extent_Allocate_L7_b R7 x1 x2 x3 x4 x8 x10 H K := by kernel_rfl
theorem extent_Allocate_L7_rule {K : AV → AH → Prop} (I : Nat → AV → AV → AV → AV → AV → AV → AH → Prop) (round : ∀ (n : Nat) (x1 x2 x3 x4 x8 x10 : AV) (H : AH) (R : List AV → AH → Prop), (∀ (m : Nat) (y1 y2 y3 y4 y8 y10 : AV) (H' : AH), m < n → I m y1 y2 y3 y4 y8 y10 H' → R [y1, y2, y3, y4, y8, y10] H') → I n x1 x2 x3 x4 x8 x10 H → extent_Allocate_L7_b R x1 x2 x3 x4 x8 x10 H K) (n : Nat) {x1 x2 x3 x4 x8 x10 : AV} {H : AH} (h : I n x1 x2 x3 x4 x8 x10 H) : extent_Allocate_L7 x1 x2 x3 x4 x8 x10 H K := by
  refine lp_upto (sCode_one _ _) (LI6 I) ?_ n h
  intro n X H h
  obtain ⟨x1, x2, x3, x4, x8, x10, rfl, h⟩ := h.elim
  exact Eq.mpr (extent_Allocate_L7_eq _ x1 x2 x3 x4 x8 x10 H K) (round n x1 x2 x3 x4 x8 x10 H (fun X H' => ∃ m, m < n ∧ LI6 I m X H') (fun m y1 y2 y3 y4 y8 y10 H' hm hi => ⟨m, hm, hi⟩) h)
def extent_Allocate (a0 a1 a2 a3 : AV) (H : AH) (K : AV → AH → Prop) : Prop :=
 bH (anew H a0) fun v0 H1 =>
 bH (anew H1 (.agg [(.lit (.int .i64 0)), (.lit (.slice none 0 0))])) fun v2 H3 =>
 bO (ald true 2 H3 v0) fun v4 =>
 bP (PCall Try.prog 52 [v4] H3) fun v5 =>
 bO (aun .not v5) fun v6 =>
 bG v6 false fun w7 =>
 gO w7 (some a1) fun v8 =>
 bG v6 false fun w9 =>
 gO w9 (some a2) fun v10 =>
 bG v6 false fun w11 =>
 gP w11 (PCall Try.prog 96 [v8, v10] H3) fun v12 =>
 bG v6 false fun w13 =>
 gO w13 (aun .not v12) fun v14 =>
 bO (apick v6 (.lit (.bool true)) v14) fun v15 =>
 bG v15 false fun w16 =>
 gO w16 (some a2) fun v17 =>
 bG v15 false fun w18 =>
 gO w18 (abI .gtr v17 (.lit (.int .i64 32768))) fun v19 =>
 bO (apick v15 (.lit (.bool true)) v19) fun v20 =>
 bB v20 fun t21 => bI t21 (
 bO (abl [(.lit (.int .i64 0)), (.lit (.slice none 0 0))] []) fun v22 =>
 bS (ast 2 H3 v2 v22) fun H23 =>
 bO (ald true 2 H23 v2) fun v24 =>
 K (.tup [v24, (.lit (.bool false))]) H23)
 (bO (ald true 2 H3 v0) fun v25 =>
 bC (BCall Try.prog 90 [v25] H3) fun v26 H27 =>
 bS (ast 2 H27 v0 v26) fun H28 =>
 bO (abI .quo a1 (.lit (.int .i64 8))) fun v29 =>
 extent_Allocate_L7 a1 a2 a3 v0 v2 v29 H28 K)
theorem extent_Allocate_eq (a0 a1 a2 a3 : AV) (H : AH) (K : AV → AH → Prop) : sFun Try.prog extent_Allocate_fl pql none0 none0 extent_Allocate_kp Try.f73 [a0, a1, a2, a3] H K = extent_Allocate a0 a1 a2 a3 H K := by kernel_rfl
theorem extent_Allocate_ok {a0 a1 a2 a3 : AV} {H : AH} {K : AV → AH → Prop} (h : extent_Allocate a0 a1 a2 a3 H K) : ∃ r H', K r H' ∧ BCall Try.prog 73 [a0, a1, a2, a3] H r H' :=
  sFun_ok mixP Try.func73 (by kernel_rfl) (Eq.mpr (extent_Allocate_eq a0 a1 a2 a3 H K) h)
/-! salvor/extent.Truncate -/
def extent_Truncate_fl : Floats := flOf []
def extent_Truncate_kp : Nat → Option (List Bool) := kpOf [(9, mk 45 0 [2, 3, 4, 30, 31])]
def extent_Truncate_c (p : List Bool) (n : Nat) : List AV → AH → Kf → Prop := sCode Try.prog extent_Truncate_fl pql none0 none0 extent_Truncate_kp (sub p (bodyOf Try.f72)) n
def extent_Truncate_L9 (x2 x3 x4 x30 x31 : AV) (H : AH) (K : AV → AH → Prop) : Prop := lp (mk 45 0 [2, 3, 4, 30, 31]) (extent_Truncate_c [true, true, true, true, true, false, true, false, false] 10) [x2, x3, x4, x30, x31] H (kBlk 0 (kSeq (extent_Truncate_c [true, true, true, true, true, true] 14) (kRet Try.prog Try.f72.results.toList K)))
def extent_Truncate_L9_b (R9 : List AV → AH → Prop) (x2 x3 x4 x30 x31 : AV) (H : AH) (K : AV → AH → Prop) : Prop :=
 bO (abI .lss x31 x30) fun v0 =>
 bB v0 fun t1 => bI t1 (
 bO (ashift 1 x2) fun v2 =>
 bO (ald false 1 H v2) fun v3 =>
 bO (aixS 9 v3 x31) fun v4 =>
 bO (ald false 1 H x3) fun v5 =>
 bO (ald false 1 H x3) fun v6 =>
 bO (abI .sub (.lit (.int .i64 1099511627776)) v6) fun v7 =>
 bO (abl [(.lit (.int .i64 0)), (.lit (.int .i64 0))] [(0, 1, v5), (1, 1, v7)]) fun v8 =>
 bC (BCall Try.prog 95 [v4, v8] H) fun v9 H10 =>
 bO (abI .add x31 (.lit (.int .i64 1))) fun v11 =>
 R9 [x2, x3, x4, x30, v11] H10)
 (bO (ald true 2 H x2) fun v12 =>
 bS (ast 2 H x4 v12) fun H13 =>
 bO (ald true 2 H13 x4) fun v14 =>
 K (.tup [v14, (.lit (.bool true))]) H13)
theorem extent_Truncate_L9_eq (R9 : List AV → AH → Prop) (x2 x3 x4 x30 x31 : AV) (H : AH) (K : AV → AH → Prop) : extent_Truncate_c [true, true, true, true, true, false, true, false, false] 10 (expand (mk 45 0 [2, 3, 4, 30, 31]) [x2, x3, x4, x30, x31]) H (kLp (mk 45 0 [2, 3, 4, 30, 31]) R9 (kBlk 0 (kSeq (extent_Truncate_c [true, true, true, true, true, true] 14) (kRet Try.prog Try.f72.results.toList K)))) = extent_Truncate_L9_b R9 x2 x3 x4 x30 x31 H K := by kernel_rfl
theorem extent_Truncate_L9_rule {K : AV → AH → Prop} (I : Nat → AV → AV → AV → AV → AV → AH → Prop) (round : ∀ (n : Nat) (x2 x3 x4 x30 x31 : AV) (H : AH) (R : List AV → AH → Prop), (∀ (m : Nat) (y2 y3 y4 y30 y31 : AV) (H' : AH), m < n → I m y2 y3 y4 y30 y31 H' → R [y2, y3, y4, y30, y31] H') → I n x2 x3 x4 x30 x31 H → extent_Truncate_L9_b R x2 x3 x4 x30 x31 H K) (n : Nat) {x2 x3 x4 x30 x31 : AV} {H : AH} (h : I n x2 x3 x4 x30 x31 H) : extent_Truncate_L9 x2 x3 x4 x30 x31 H K := by
  refine lp_upto (sCode_one _ _) (LI5 I) ?_ n h
  intro n X H h
  obtain ⟨x2, x3, x4, x30, x31, rfl, h⟩ := h.elim
  exact Eq.mpr (extent_Truncate_L9_eq _ x2 x3 x4 x30 x31 H K) (round n x2 x3 x4 x30 x31 H (fun X H' => ∃ m, m < n ∧ LI5 I m X H') (fun m y2 y3 y4 y30 y31 H' hm hi => ⟨m, hm, hi⟩) h)
def extent_Truncate (a0 a1 : AV) (H : AH) (K : AV → AH → Prop) : Prop :=
 bH (anew H a0) fun v0 H1 =>
 bH (anew H1 a1) fun v2 H3 =>
 bH (anew H3 (.agg [(.lit (.int .i64 0)), (.lit (.slice none 0 0))])) fun v4 H5 =>
 bO (ald true 2 H5 v0) fun v6 =>
 bP (PCall Try.prog 52 [v6] H5) fun v7 =>
 bO (aun .not v7) fun v8 =>
 bG v8 false fun w9 =>
 gO w9 (ald false 1 H5 v2) fun v10 =>
 bG v8 false fun w11 =>
 gO w11 (abI .lss v10 (.lit (.int .i64 0))) fun v12 =>
 bO (apick v8 (.lit (.bool true)) v12) fun v13 =>
 bG v13 false fun w14 =>
 gO w14 (ald false 1 H5 v2) fun v15 =>
 bG v13 false fun w16 =>
 gO w16 (abI .gtr v15 (.lit (.int .i64 1099511627776))) fun v17 =>
 bO (apick v13 (.lit (.bool true)) v17) fun v18 =>
 bB v18 fun t19 => bI t19 (
 bO (abl [(.lit (.int .i64 0)), (.lit (.slice none 0 0))] []) fun v20 =>
 bS (ast 2 H5 v4 v20) fun H21 =>
 bO (ald true 2 H21 v4) fun v22 =>
 K (.tup [v22, (.lit (.bool false))]) H21)
 (bO (ald true 2 H5 v0) fun v23 =>
 bC (BCall Try.prog 90 [v23] H5) fun v24 H25 =>
 bS (ast 2 H25 v0 v24) fun H26 =>
 bO (ald false 1 H26 v2) fun v27 =>
 bO (ashift 0 v0) fun v28 =>
 bS (ast 1 H26 v28 v27) fun H29 =>
 bO (ashift 1 v0) fun v30 =>
 bO (ald false 1 H29 v30) fun v31 =>
 bC (BCall Try.prog 93 [v31, (.fn (.func 94) [] [v2])] H29) fun v32 H33 =>
 bO (ashift 1 v0) fun v34 =>
 bS (ast 1 H33 v34 v32) fun H35 =>
 bO (ashift 1 v0) fun v36 =>
 bO (ald false 1 H35 v36) fun v37 =>
 bO (alnS v37) fun v38 =>
 extent_Truncate_L9 v0 v2 v4 v38 (.lit (.int .i64 0)) H35 K)
theorem extent_Truncate_eq (a0 a1 : AV) (H : AH) (K : AV → AH → Prop) : sFun Try.prog extent_Truncate_fl pql none0 none0 extent_Truncate_kp Try.f72 [a0, a1] H K = extent_Truncate a0 a1 H K := by kernel_rfl
theorem extent_Truncate_ok {a0 a1 : AV} {H : AH} {K : AV → AH → Prop} (h : extent_Truncate a0 a1 H K) : ∃ r H', K r H' ∧ BCall Try.prog 72 [a0, a1] H r H' :=
  sFun_ok mixP Try.func72 (by kernel_rfl) (Eq.mpr (extent_Truncate_eq a0 a1 H K) h)
/-! salvor/extent.Punch -/
def extent_Punch_fl : Floats := flOf []
def extent_Punch_kp : Nat → Option (List Bool) := kpOf [(9, mk 44 0 [3, 6, 8, 32, 33])]
def extent_Punch_c (p : List Bool) (n : Nat) : List AV → AH → Kf → Prop := sCode Try.prog extent_Punch_fl pql none0 none0 extent_Punch_kp (sub p (bodyOf Try.f74)) n
def extent_Punch_L9 (x3 x6 x8 x32 x33 : AV) (H : AH) (K : AV → AH → Prop) : Prop := lp (mk 44 0 [3, 6, 8, 32, 33]) (extent_Punch_c [true, true, true, true, true, false, true, false, false] 10) [x3, x6, x8, x32, x33] H (kBlk 0 (kSeq (extent_Punch_c [true, true, true, true, true, true] 14) (kRet Try.prog Try.f74.results.toList K)))
def extent_Punch_L9_b (R9 : List AV → AH → Prop) (x3 x6 x8 x32 x33 : AV) (H : AH) (K : AV → AH → Prop) : Prop :=
 bO (abI .lss x33 x32) fun v0 =>
 bB v0 fun t1 => bI t1 (
 bO (ashift 1 x3) fun v2 =>
 bO (ald false 1 H v2) fun v3 =>
 bO (aixS 9 v3 x33) fun v4 =>
 bO (ald true 2 H x8) fun v5 =>
 bC (BCall Try.prog 95 [v4, v5] H) fun v6 H7 =>
 bO (abI .add x33 (.lit (.int .i64 1))) fun v8 =>
 R9 [x3, x6, x8, x32, v8] H7)
 (bO (ald true 2 H x3) fun v9 =>
 bS (ast 2 H x6 v9) fun H10 =>
 bO (ald true 2 H10 x6) fun v11 =>
 K (.tup [v11, (.lit (.bool true))]) H10)
theorem extent_Punch_L9_eq (R9 : List AV → AH → Prop) (x3 x6 x8 x32 x33 : AV) (H : AH) (K : AV → AH → Prop) : extent_Punch_c [true, true, true, true, true, false, true, false, false] 10 (expand (mk 44 0 [3, 6, 8, 32, 33]) [x3, x6, x8, x32, x33]) H (kLp (mk 44 0 [3, 6, 8, 32, 33]) R9 (kBlk 0 (kSeq (extent_Punch_c [true, true, true, true, true, true] 14) (kRet Try.prog Try.f74.results.toList K)))) = extent_Punch_L9_b R9 x3 x6 x8 x32 x33 H K := by kernel_rfl
theorem extent_Punch_L9_rule {K : AV → AH → Prop} (I : Nat → AV → AV → AV → AV → AV → AH → Prop) (round : ∀ (n : Nat) (x3 x6 x8 x32 x33 : AV) (H : AH) (R : List AV → AH → Prop), (∀ (m : Nat) (y3 y6 y8 y32 y33 : AV) (H' : AH), m < n → I m y3 y6 y8 y32 y33 H' → R [y3, y6, y8, y32, y33] H') → I n x3 x6 x8 x32 x33 H → extent_Punch_L9_b R x3 x6 x8 x32 x33 H K) (n : Nat) {x3 x6 x8 x32 x33 : AV} {H : AH} (h : I n x3 x6 x8 x32 x33 H) : extent_Punch_L9 x3 x6 x8 x32 x33 H K := by
  refine lp_upto (sCode_one _ _) (LI5 I) ?_ n h
  intro n X H h
  obtain ⟨x3, x6, x8, x32, x33, rfl, h⟩ := h.elim
  exact Eq.mpr (extent_Punch_L9_eq _ x3 x6 x8 x32 x33 H K) (round n x3 x6 x8 x32 x33 H (fun X H' => ∃ m, m < n ∧ LI5 I m X H') (fun m y3 y6 y8 y32 y33 H' hm hi => ⟨m, hm, hi⟩) h)
def extent_Punch (a0 a1 a2 : AV) (H : AH) (K : AV → AH → Prop) : Prop :=
 bH (anew H a0) fun v0 H1 =>
 bH (anew H1 (.agg [(.lit (.int .i64 0)), (.lit (.slice none 0 0))])) fun v2 H3 =>
 bO (ald true 2 H3 v0) fun v4 =>
 bP (PCall Try.prog 52 [v4] H3) fun v5 =>
 bO (aun .not v5) fun v6 =>
 bG v6 false fun w7 =>
 gO w7 (some a1) fun v8 =>
 bG v6 false fun w9 =>
 gO w9 (some a2) fun v10 =>
 bG v6 false fun w11 =>
 gP w11 (PCall Try.prog 96 [v8, v10] H3) fun v12 =>
 bG v6 false fun w13 =>
 gO w13 (aun .not v12) fun v14 =>
 bO (apick v6 (.lit (.bool true)) v14) fun v15 =>
 bB v15 fun t16 => bI t16 (
 bO (abl [(.lit (.int .i64 0)), (.lit (.slice none 0 0))] []) fun v17 =>
 bS (ast 2 H3 v2 v17) fun H18 =>
 bO (ald true 2 H18 v2) fun v19 =>
 K (.tup [v19, (.lit (.bool false))]) H18)
 (bO (ald true 2 H3 v0) fun v20 =>
 bC (BCall Try.prog 90 [v20] H3) fun v21 H22 =>
 bS (ast 2 H22 v0 v21) fun H23 =>
 bO (abl [(.lit (.int .i64 0)), (.lit (.int .i64 0))] [(0, 1, a1), (1, 1, a2)]) fun v24 =>
 bH (anew H23 (.agg [(.lit (.int .i64 0)), (.lit (.int .i64 0))])) fun v25 H26 =>
 bS (ast 2 H26 v25 v24) fun H27 =>
 bO (ashift 1 v0) fun v28 =>
 bO (ald false 1 H27 v28) fun v29 =>
 bC (BCall Try.prog 93 [v29, (.fn (.func 97) [] [v25])] H27) fun v30 H31 =>
 bO (ashift 1 v0) fun v32 =>
 bS (ast 1 H31 v32 v30) fun H33 =>
 bO (ashift 1 v0) fun v34 =>
 bO (ald false 1 H33 v34) fun v35 =>
 bO (alnS v35) fun v36 =>
 extent_Punch_L9 v0 v2 v25 v36 (.lit (.int .i64 0)) H33 K)
theorem extent_Punch_eq (a0 a1 a2 : AV) (H : AH) (K : AV → AH → Prop) : sFun Try.prog extent_Punch_fl pql none0 none0 extent_Punch_kp Try.f74 [a0, a1, a2] H K = extent_Punch a0 a1 a2 H K := by kernel_rfl
theorem extent_Punch_ok {a0 a1 a2 : AV} {H : AH} {K : AV → AH → Prop} (h : extent_Punch a0 a1 a2 H K) : ∃ r H', K r H' ∧ BCall Try.prog 74 [a0, a1, a2] H r H' :=
  sFun_ok mixP Try.func74 (by kernel_rfl) (Eq.mpr (extent_Punch_eq a0 a1 a2 H K) h)
/-! salvor/salvorref11.TruncateContent -/
def salvorref11_TruncateContent_fl : Floats := flOf []
def salvorref11_TruncateContent_kp : Nat → Option (List Bool) := kpOf [(19, mk 62 0 [1, 2, 4, 6, 7, 8, 9]), (16, mk 62 0 [1, 2, 4, 6, 7, 8, 9]), (10, mk 62 0 [1, 2, 4, 6, 7]), (7, mk 62 0 [1, 2, 4, 6, 7])]
def salvorref11_TruncateContent_c (p : List Bool) (n : Nat) : List AV → AH → Kf → Prop := sCode Try.prog salvorref11_TruncateContent_fl pql none0 none0 salvorref11_TruncateContent_kp (sub p (bodyOf Try.f78)) n
def salvorref11_TruncateContent_J10 (R7 : List AV → AH → Prop) (x1 x2 x4 x6 x7 : AV) (H : AH) (K : AV → AH → Prop) : Prop := jn (mk 62 0 [1, 2, 4, 6, 7]) (salvorref11_TruncateContent_c [true, true, true, false, true, false, false, true, true] 21) [x1, x2, x4, x6, x7] H (kLp (mk 62 0 [1, 2, 4, 6, 7]) R7 (kBlk 0 (kSeq (salvorref11_TruncateContent_c [true, true, true, true] 21) (kRet Try.prog Try.f78.results.toList K))))
def salvorref11_TruncateContent_J19 (R16 : List AV → AH → Prop) (R7 : List AV → AH → Prop) (x1 x2 x4 x6 x7 x8 x9 : AV) (H : AH) (K : AV → AH → Prop) : Prop := jn (mk 62 0 [1, 2, 4, 6, 7, 8, 9]) (salvorref11_TruncateContent_c [true, true, true, false, true, false, false, true, false, false, true, true, false, true, false, false, true, true] 21) [x1, x2, x4, x6, x7, x8, x9] H (kLp (mk 62 0 [1, 2, 4, 6, 7, 8, 9]) R16 (kBlk 2 (kSeq (salvorref11_TruncateContent_c [true, true, true, false, true, false, false, true, false, false, true, true, true] 21) (kBlk 1 (kSeq (cutC (mk 62 0 [1, 2, 4, 6, 7]) (salvorref11_TruncateContent_c [true, true, true, false, true, false, false, true, true] 21)) (kLp (mk 62 0 [1, 2, 4, 6, 7]) R7 (kBlk 0 (kSeq (salvorref11_TruncateContent_c [true, true, true, true] 21) (kRet Try.prog Try.f78.results.toList K)))))))))
def salvorref11_TruncateContent_L16 (R7 : List AV → AH → Prop) (x1 x2 x4 x6 x7 x8 x9 : AV) (H : AH) (K : AV → AH → Prop) : Prop := lp (mk 62 0 [1, 2, 4, 6, 7, 8, 9]) (salvorref11_TruncateContent_c [true, true, true, false, true, false, false, true, false, false, true, true, false, true, false, false] 17) [x1, x2, x4, x6, x7, x8, x9] H (kBlk 2 (kSeq (salvorref11_TruncateContent_c [true, true, true, false, true, false, false, true, false, false, true, true, true] 21) (kBlk 1 (kSeq (cutC (mk 62 0 [1, 2, 4, 6, 7]) (salvorref11_TruncateContent_c [true, true, true, false, true, false, false, true, true] 21)) (kLp (mk 62 0 [1, 2, 4, 6, 7]) R7 (kBlk 0 (kSeq (salvorref11_TruncateContent_c [true, true, true, true] 21) (kRet Try.prog Try.f78.results.toList K))))))))
def salvorref11_TruncateContent_L7 (x1 x2 x4 x6 x7 : AV) (H : AH) (K : AV → AH → Prop) : Prop := lp (mk 62 0 [1, 2, 4, 6, 7]) (salvorref11_TruncateContent_c [true, true, true, false, true, false, false] 8) [x1, x2, x4, x6, x7] H (kBlk 0 (kSeq (salvorref11_TruncateContent_c [true, true, true, true] 21) (kRet Try.prog Try.f78.results.toList K)))
def salvorref11_TruncateContent_J10_b (R7 : List AV → AH → Prop) (x1 x2 x4 x6 x7 : AV) (H : AH) (K : AV → AH → Prop) : Prop :=
 bO (abI .add x7 (.lit (.int .i64 1))) fun v0 =>
 R7 [x1, x2, x4, x6, v0] H
theorem salvorref11_TruncateContent_J10_eq0 (R7 : List AV → AH → Prop) (x1 x2 x4 x6 x7 : AV) (H : AH) (K : AV → AH → Prop) : salvorref11_TruncateContent_c [true, true, true, false, true, false, false, true, true] 21 (expand (mk 62 0 [1, 2, 4, 6, 7]) [x1, x2, x4, x6, x7]) H (kLp (mk 62 0 [1, 2, 4, 6, 7]) R7 (kBlk 0 (kSeq (salvorref11_TruncateContent_c [true, true, true, true] 21) (kRet Try.prog Try.f78.results.toList K)))) = salvorref11_TruncateContent_J10_b R7 x1 x2 x4 x6 x7 H K := by kernel_rfl
theorem salvorref11_TruncateContent_J10_eq (R7 : List AV → AH → Prop) (x1 x2 x4 x6 x7 : AV) (H : AH) (K : AV → AH → Prop) : salvorref11_TruncateContent_J10 R7 x1 x2 x4 x6 x7 H K = salvorref11_TruncateContent_J10_b R7 x1 x2 x4 x6 x7 H K := (jn_eq _ _ _ _ _).trans (salvorref11_TruncateContent_J10_eq0 R7 x1 x2 x4 x6 x7 H K)
def salvorref11_TruncateContent_J19_b (R16 : List AV → AH → Prop) (R7 : List AV → AH → Prop) (x1 x2 x4 x6 x7 x8 x9 : AV) (H : AH) (K : AV → AH → Prop) : Prop :=
 bO (abI .add x9 (.lit (.int .i64 1))) fun v0 =>
 R16 [x1, x2, x4, x6, x7, x8, v0] H
theorem salvorref11_TruncateContent_J19_eq0 (R16 : List AV → AH → Prop) (R7 : List AV → AH → Prop) (x1 x2 x4 x6 x7 x8 x9 : AV) (H : AH) (K : AV → AH → Prop) : salvorref11_TruncateContent_c [true, true, true, false, true, false, false, true, false, false, true, true, false, true, false, false, true, true] 21 (expand (mk 62 0 [1, 2, 4, 6, 7, 8, 9]) [x1, x2, x4, x6, x7, x8, x9]) H (kLp (mk 62 0 [1, 2, 4, 6, 7, 8, 9]) R16 (kBlk 2 (kSeq (salvorref11_TruncateContent_c [true, true, true, false, true, false, false, true, false, false, true, true, true] 21) (kBlk 1 (kSeq (cutC (mk 62 0 [1, 2, 4, 6, 7]) (salvorref11_TruncateContent_c [true, true, true, false, true, false, false, true, true] 21)) (kLp (mk 62 0 [1, 2, 4, 6, 7]) R7 (kBlk 0 (kSeq (salvorref11_TruncateContent_c [true, true, true, true] 21) (kRet Try.prog Try.f78.results.toList K))))))))) = salvorref11_TruncateContent_J19_b R16 R7 x1 x2 x4 x6 x7 x8 x9 H K := by kernel_rfl
theorem salvorref11_TruncateContent_J19_eq (R16 : List AV → AH → Prop) (R7 : List AV → AH → Prop) (x1 x2 x4 x6 x7 x8 x9 : AV) (H : AH) (K : AV → AH → Prop) : salvorref11_TruncateContent_J19 R16 R7 x1 x2 x4 x6 x7 x8 x9 H K = salvorref11_TruncateContent_J19_b R16 R7 x1 x2 x4 x6 x7 x8 x9 H K := (jn_eq _ _ _ _ _).trans (salvorref11_TruncateContent_J19_eq0 R16 R7 x1 x2 x4 x6 x7 x8 x9 H K)
def salvorref11_TruncateContent_L16_b (R7 : List AV → AH → Prop) (R16 : List AV → AH → Prop) (x1 x2 x4 x6 x7 x8 x9 : AV) (H : AH) (K : AV → AH → Prop) : Prop :=
 bO (abI .lss x9 (.lit (.int .i64 8))) fun v0 =>
 bB v0 fun t1 => bI t1 (
 bO (ashift 0 x8) fun v2 =>
 bO (ald false 1 H v2) fun v3 =>
 bO (abI .mul v3 (.lit (.int .i64 8))) fun v4 =>
 bO (abI .add v4 x9) fun v5 =>
 bO (abI .geq v5 x1) fun v6 =>
 bB v6 fun t7 => bI t7 (
 bO (ashift 1 x8) fun v8 =>
 bO (aixA 8 1 v8 x9) fun v9 =>
 bS (ast 1 H v9 (.lit (.int .u8 0))) fun H10 =>
 salvorref11_TruncateContent_J19 R16 R7 x1 x2 x4 x6 x7 x8 x9 H10 K)
 (salvorref11_TruncateContent_J19 R16 R7 x1 x2 x4 x6 x7 x8 x9 H K))
 (bO (ashift 1 x6) fun v11 =>
 bO (ald false 1 H v11) fun v12 =>
 bO (ald true 9 H x8) fun v13 =>
 bH (absl H 9 1 (zrow [(.lit (.int .i64 0)), (.lit (.int .u8 0)), (.lit (.int .u8 0)), (.lit (.int .u8 0)), (.lit (.int .u8 0)), (.lit (.int .u8 0)), (.lit (.int .u8 0)), (.lit (.int .u8 0)), (.lit (.int .u8 0))] 1) [(0, 9, v13)]) fun v14 H15 =>
 bH (aap 9 16 H15 v12 v14) fun v16 H17 =>
 bO (ashift 1 x6) fun v18 =>
 bS (ast 1 H17 v18 v16) fun H19 =>
 salvorref11_TruncateContent_J10 R7 x1 x2 x4 x6 x7 H19 K)
theorem salvorref11_TruncateContent_L16_eq (R7 : List AV → AH → Prop) (R16 : List AV → AH → Prop) (x1 x2 x4 x6 x7 x8 x9 : AV) (H : AH) (K : AV → AH → Prop) : salvorref11_TruncateContent_c [true, true, true, false, true, false, false, true, false, false, true, true, false, true, false, false] 17 (expand (mk 62 0 [1, 2, 4, 6, 7, 8, 9]) [x1, x2, x4, x6, x7, x8, x9]) H (kLp (mk 62 0 [1, 2, 4, 6, 7, 8, 9]) R16 (kBlk 2 (kSeq (salvorref11_TruncateContent_c [true, true, true, false, true, false, false, true, false, false, true, true, true] 21) (kBlk 1 (kSeq (cutC (mk 62 0 [1, 2, 4, 6, 7]) (salvorref11_TruncateContent_c [true, true, true, false, true, false, false, true, true] 21)) (kLp (mk 62 0 [1, 2, 4, 6, 7]) R7 (kBlk 0 (kSeq (salvorref11_TruncateContent_c [true, true, true, true] 21) (kRet Try.prog Try.f78.results.toList K))))))))) = salvorref11_TruncateContent_L16_b R7 R16 x1 x2 x4 x6 x7 x8 x9 H K := by kernel_rfl
theorem salvorref11_TruncateContent_L16_rule (R7 : List AV → AH → Prop) {K : AV → AH → Prop} (I : Nat → AV → AV → AV → AV → AV → AV → AV → AH → Prop) (round : ∀ (n : Nat) (x1 x2 x4 x6 x7 x8 x9 : AV) (H : AH) (R : List AV → AH → Prop), (∀ (m : Nat) (y1 y2 y4 y6 y7 y8 y9 : AV) (H' : AH), m < n → I m y1 y2 y4 y6 y7 y8 y9 H' → R [y1, y2, y4, y6, y7, y8, y9] H') → I n x1 x2 x4 x6 x7 x8 x9 H → salvorref11_TruncateContent_L16_b R7 R x1 x2 x4 x6 x7 x8 x9 H K) (n : Nat) {x1 x2 x4 x6 x7 x8 x9 : AV} {H : AH} (h : I n x1 x2 x4 x6 x7 x8 x9 H) : salvorref11_TruncateContent_L16 R7 x1 x2 x4 x6 x7 x8 x9 H K := by
  refine lp_upto (sCode_one _ _) (LI7 I) ?_ n h
  intro n X H h
  obtain ⟨x1, x2, x4, x6, x7, x8, x9, rfl, h⟩ := h.elim
  exact Eq.mpr (salvorref11_TruncateContent_L16_eq R7 _ x1 x2 x4 x6 x7 x8 x9 H K) (round n x1 x2 x4 x6 x7 x8 x9 H (fun X H' => ∃ m, m < n ∧ LI7 I m X H') (fun m y1 y2 y4 y6 y7 y8 y9 H' hm hi => ⟨m, hm, hi⟩) h)
def salvorref11_TruncateContent_L7_b (R7 : List AV → AH → Prop) (x1 x2 x4 x6 x7 : AV) (H : AH) (K : AV → AH → Prop) : Prop :=
 bO (ashift 1 x2) fun v0 =>
 bO (ald false 1 H v0) fun v1 =>
 bO (alnS v1) fun v2 =>
 bO (abI .lss x7 v2) fun v3 =>
 bB v3 fun t4 => bI t4 (
 bO (ashift 1 x2) fun v5 =>
 bO (ald false 1 H v5) fun v6 =>
 bO (aixS 9 v6 x7) fun v7 =>
 bO (ald true 9 H v7) fun v8 =>
 bH (anew H (.agg [(.lit (.int .i64 0)), (.lit (.int .u8 0)), (.lit (.int .u8 0)), (.lit (.int .u8 0)), (.lit (.int .u8 0)), (.lit (.int .u8 0)), (.lit (.int .u8 0)), (.lit (.int .u8 0)), (.lit (.int .u8 0))])) fun v9 H10 =>
 bS (ast 9 H10 v9 v8) fun H11 =>
 bO (ashift 0 v9) fun v12 =>
 bO (ald false 1 H11 v12) fun v13 =>
 bO (abI .mul v13 (.lit (.int .i64 8))) fun v14 =>
 bO (abI .geq v14 x1) fun v15 =>
 bB v15 fun t16 => bI t16 (
 salvorref11_TruncateContent_J10 R7 x1 x2 x4 x6 x7 H11 K)
 (salvorref11_TruncateContent_L16 R7 x1 x2 x4 x6 x7 v9 (.lit (.int .i64 0)) H11 K))
 (bO (ald true 2 H x6) fun v17 =>
 bS (ast 2 H x4 v17) fun H18 =>
 bO (ald true 2 H18 x4) fun v19 =>
 K (.tup [v19, (.lit (.bool true))]) H18)
theorem salvorref11_TruncateContent_L7_eq (R7 : List AV → AH → Prop) (x1 x2 x4 x6 x7 : AV) (H : AH) (K : AV → AH → Prop) : salvorref11_TruncateContent_c [true, true, true, false, true, false, false] 8 (expand (mk 62 0 [1, 2, 4, 6, 7]) [x1, x2, x4, x6, x7]) H (kLp (mk 62 0 [1, 2, 4, 6, 7]) R7 (kBlk 0 (kSeq (salvorref11_TruncateContent_c [true, true, true, true] 21) (kRet Try.prog Try.f78.results.toList K)))) = salvorref11_TruncateContent_L7_b R7 x1 x2 x4 x6 x7 H K := by kernel_rfl
theorem salvorref11_TruncateContent_L7_rule {K : AV → AH → Prop} (I : Nat → AV → AV → AV → AV → AV → AH → Prop) (round : ∀ (n : Nat) (x1 x2 x4 x6 x7 : AV) (H : AH) (R : List AV → AH → Prop), (∀ (m : Nat) (y1 y2 y4 y6 y7 : AV) (H' : AH), m < n → I m y1 y2 y4 y6 y7 H' → R [y1, y2, y4, y6, y7] H') → I n x1 x2 x4 x6 x7 H → salvorref11_TruncateContent_L7_b R x1 x2 x4 x6 x7 H K) (n : Nat) {x1 x2 x4 x6 x7 : AV} {H : AH} (h : I n x1 x2 x4 x6 x7 H) : salvorref11_TruncateContent_L7 x1 x2 x4 x6 x7 H K := by
  refine lp_upto (sCode_one _ _) (LI5 I) ?_ n h
  intro n X H h
  obtain ⟨x1, x2, x4, x6, x7, rfl, h⟩ := h.elim
  exact Eq.mpr (salvorref11_TruncateContent_L7_eq _ x1 x2 x4 x6 x7 H K) (round n x1 x2 x4 x6 x7 H (fun X H' => ∃ m, m < n ∧ LI5 I m X H') (fun m y1 y2 y4 y6 y7 H' hm hi => ⟨m, hm, hi⟩) h)
def salvorref11_TruncateContent (a0 a1 : AV) (H : AH) (K : AV → AH → Prop) : Prop :=
 bH (anew H a0) fun v0 H1 =>
 bH (anew H1 (.agg [(.lit (.int .i64 0)), (.lit (.slice none 0 0))])) fun v2 H3 =>
 bO (ald true 2 H3 v0) fun v4 =>
 bP (PCall Try.prog 56 [v4] H3) fun v5 =>
 bO (aun .not v5) fun v6 =>
 bG v6 false fun w7 =>
 gO w7 (some a1) fun v8 =>
 bG v6 false fun w9 =>
 gO w9 (abI .lss v8 (.lit (.int .i64 0))) fun v10 =>
 bO (apick v6 (.lit (.bool true)) v10) fun v11 =>
 bG v11 false fun w12 =>
 gO w12 (some a1) fun v13 =>
 bG v11 false fun w14 =>
 gO w14 (abI .gtr v13 (.lit (.int .i64 1099511627776))) fun v15 =>
 bO (apick v11 (.lit (.bool true)) v15) fun v16 =>
 bB v16 fun t17 => bI t17 (
 bO (abl [(.lit (.int .i64 0)), (.lit (.slice none 0 0))] []) fun v18 =>
 bS (ast 2 H3 v2 v18) fun H19 =>
 bO (ald true 2 H19 v2) fun v20 =>
 K (.tup [v20, (.lit (.bool false))]) H19)
 (bO (abl [(.lit (.int .i64 0)), (.lit (.slice none 0 0))] [(0, 1, a1)]) fun v21 =>
 bH (anew H3 (.agg [(.lit (.int .i64 0)), (.lit (.slice none 0 0))])) fun v22 H23 =>
 bS (ast 2 H23 v22 v21) fun H24 =>
 salvorref11_TruncateContent_L7 a1 v0 v2 v22 (.lit (.int .i64 0)) H24 K)
theorem salvorref11_TruncateContent_eq (a0 a1 : AV) (H : AH) (K : AV → AH → Prop) : sFun Try.prog salvorref11_TruncateContent_fl pql none0 none0 salvorref11_TruncateContent_kp Try.f78 [a0, a1] H K = salvorref11_TruncateContent a0 a1 H K := by kernel_rfl
theorem salvorref11_TruncateContent_ok {a0 a1 : AV} {H : AH} {K : AV → AH → Prop} (h : salvorref11_TruncateContent a0 a1 H K) : ∃ r H', K r H' ∧ BCall Try.prog 78 [a0, a1] H r H' :=
  sFun_ok mixP Try.func78 (by kernel_rfl) (Eq.mpr (salvorref11_TruncateContent_eq a0 a1 H K) h)
/-! salvor/salvorref11.AllocateContent -/
def salvorref11_AllocateContent_fl : Floats := flOf []
def salvorref11_AllocateContent_kp : Nat → Option (List Bool) := kpOf [(11, mk 57 0 [4, 8]), (7, mk 57 0 [1, 2, 3, 4, 8, 10])]
def salvorref11_AllocateContent_c (p : List Bool) (n : Nat) : List AV → AH → Kf → Prop := sCode Try.prog salvorref11_AllocateContent_fl pql none0 none0 salvorref11_AllocateContent_kp (sub p (bodyOf Try.f79)) n
def salvorref11_AllocateContent_J11 (x4 x8 : AV) (H : AH) (K : AV → AH → Prop) : Prop := jn (mk 57 0 [4, 8]) (salvorref11_AllocateContent_c [true, true, true, true, true] 13) [x4, x8] H (kRet Try.prog Try.f79.results.toList K)
def salvorref11_AllocateContent_L7 (x1 x2 x3 x4 x8 x10 : AV) (H : AH) (K : AV → AH → Prop) : Prop := lp (mk 57 0 [1, 2, 3, 4, 8, 10]) (salvorref11_AllocateContent_c [true, true, true, false, true, false, false] 8) [x1, x2, x3, x4, x8, x10] H (kBlk 0 (kSeq (salvorref11_AllocateContent_c [true, true, true, true] 11) (kRet Try.prog Try.f79.results.toList K)))
def salvorref11_AllocateContent_J11_b (x4 x8 : AV) (H : AH) (K : AV → AH → Prop) : Prop :=
 bO (ald true 2 H x4) fun v0 =>
 bS (ast 2 H x8 v0) fun H1 =>
 bO (ald true 2 H1 x8) fun v2 =>
 K (.tup [v2, (.lit (.bool true))]) H1
theorem salvorref11_AllocateContent_J11_eq0 (x4 x8 : AV) (H : AH) (K : AV → AH → Prop) : salvorref11_AllocateContent_c [true, true, true, true, true] 13 (expand (mk 57 0 [4, 8]) [x4, x8]) H (kRet Try.prog Try.f79.results.toList K) = salvorref11_AllocateContent_J11_b x4 x8 H K := by kernel_rfl
theorem salvorref11_AllocateContent_J11_eq (x4 x8 : AV) (H : AH) (K : AV → AH → Prop) : salvorref11_AllocateContent_J11 x4 x8 H K = salvorref11_AllocateContent_J11_b x4 x8 H K := (jn_eq _ _ _ _ _).trans (salvorref11_AllocateContent_J11_eq0 x4 x8 H K)
def salvorref11_AllocateContent_L7_b (R7 : List AV → AH → Prop) (x1 x2 x3 x4 x8 x10 : AV) (H : AH) (K : AV → AH → Prop) : Prop :=
 bO (abI .mul x10 (.lit (.int .i64 8))) fun v0 =>
 bO (abI .add x1 x2) fun v1 =>
 bO (abI .lss v0 v1) fun v2 =>
 bB v2 fun t3 => bI t3 (
 bC (BCall Try.prog 100 [x4, x10] H) fun v4 H5 =>
 bO (abI .add x10 (.lit (.int .i64 1))) fun v6 =>
 R7 [x1, x2, x3, x4, x8, v6] H5)
 (bO (aun .not x3) fun v7 =>
 bB v7 fun t8 => bI t8 (
 bO (ashift 0 x4) fun v9 =>
 bO (ald false 1 H v9) fun v10 =>
 bO (abI .add x1 x2) fun v11 =>
 bO (amm imx [v10, v11]) fun v12 =>
 bO (ashift 0 x4) fun v13 =>
 bS (ast 1 H v13 v12) fun H14 =>
 salvorref11_AllocateContent_J11 x4 x8 H14 K)
 (salvorref11_AllocateContent_J11 x4 x8 H K))
theorem salvorref11_AllocateContent_L7_eq (R7 : List AV → AH → Prop) (x1 x2 x3 x4 x8 x10 : AV) (H : AH) (K : AV → AH → Prop) : salvorref11_AllocateContent_c [true, true, true, false, true, false, false] 8 (expand (mk 57 0 [1, 2, 3, 4, 8, 10]) [x1, x2, x3, x4, x8, x10]) H (kLp (mk 57 0 [1, 2, 3, 4, 8, 10]) R7 (kBlk 0 (kSeq (salvorref11_AllocateContent_c [true, true, true, true] 11) (kRet Try.prog Try.f79.results.toList K)))) = salvorref11_AllocateContent_L7_b R7 x1 x2 x3 x4 x8 x10 H K := by kernel_rfl
theorem salvorref11_AllocateContent_L7_rule {K : AV → AH → Prop} (I : Nat → AV → AV → AV → AV → AV → AV → AH → Prop) (round : ∀ (n : Nat) (x1 x2 x3 x4 x8 x10 : AV) (H : AH) (R : List AV → AH → Prop), (∀ (m : Nat) (y1 y2 y3 y4 y8 y10 : AV) (H' : AH), m < n → I m y1 y2 y3 y4 y8 y10 H' → R [y1, y2, y3, y4, y8, y10] H') → I n x1 x2 x3 x4 x8 x10 H → salvorref11_AllocateContent_L7_b R x1 x2 x3 x4 x8 x10 H K) (n : Nat) {x1 x2 x3 x4 x8 x10 : AV} {H : AH} (h : I n x1 x2 x3 x4 x8 x10 H) : salvorref11_AllocateContent_L7 x1 x2 x3 x4 x8 x10 H K := by
  refine lp_upto (sCode_one _ _) (LI6 I) ?_ n h
  intro n X H h
  obtain ⟨x1, x2, x3, x4, x8, x10, rfl, h⟩ := h.elim
  exact Eq.mpr (salvorref11_AllocateContent_L7_eq _ x1 x2 x3 x4 x8 x10 H K) (round n x1 x2 x3 x4 x8 x10 H (fun X H' => ∃ m, m < n ∧ LI6 I m X H') (fun m y1 y2 y3 y4 y8 y10 H' hm hi => ⟨m, hm, hi⟩) h)
def salvorref11_AllocateContent (a0 a1 a2 a3 : AV) (H : AH) (K : AV → AH → Prop) : Prop :=
 bH (anew H a0) fun v0 H1 =>
 bH (anew H1 (.agg [(.lit (.int .i64 0)), (.lit (.slice none 0 0))])) fun v2 H3 =>
 bO (ald true 2 H3 v0) fun v4 =>
 bP (PCall Try.prog 56 [v4] H3) fun v5 =>
 bO (aun .not v5) fun v6 =>
 bG v6 false fun w7 =>
 gO w7 (some a1) fun v8 =>
 bG v6 false fun w9 =>
 gO w9 (abI .lss v8 (.lit (.int .i64 0))) fun v10 =>
 bO (apick v6 (.lit (.bool true)) v10) fun v11 =>
 bG v11 false fun w12 =>
 gO w12 (some a2) fun v13 =>
 bG v11 false fun w14 =>
 gO w14 (abI .lss v13 (.lit (.int .i64 1))) fun v15 =>
 bO (apick v11 (.lit (.bool true)) v15) fun v16 =>
 bG v16 false fun w17 =>
 gO w17 (some a2) fun v18 =>
 bG v16 false fun w19 =>
 gO w19 (abI .gtr v18 (.lit (.int .i64 32768))) fun v20 =>
 bO (apick v16 (.lit (.bool true)) v20) fun v21 =>
 bG v21 false fun w22 =>
 gO w22 (some a1) fun v23 =>
 bG v21 false fun w24 =>
 gO w24 (some a2) fun v25 =>
 bG v21 false fun w26 =>
 gO w26 (abI .sub (.lit (.int .i64 1099511627776)) v25) fun v27 =>
 bG v21 false fun w28 =>
 gO w28 (abI .gtr v23 v27) fun v29 =>
 bO (apick v21 (.lit (.bool true)) v29) fun v30 =>
 bB v30 fun t31 => bI t31 (
 bO (abl [(.lit (.int .i64 0)), (.lit (.slice none 0 0))] []) fun v32 =>
 bS (ast 2 H3 v2 v32) fun H33 =>
 bO (ald true 2 H33 v2) fun v34 =>
 K (.tup [v34, (.lit (.bool false))]) H33)
 (bO (ald true 2 H3 v0) fun v35 =>
 bC (BCall Try.prog 55 [v35] H3) fun v36 H37 =>
 bS (ast 2 H37 v0 v36) fun H38 =>
 bO (abI .quo a1 (.lit (.int .i64 8))) fun v39 =>
 salvorref11_AllocateContent_L7 a1 a2 a3 v0 v2 v39 H38 K)
theorem salvorref11_AllocateContent_eq (a0 a1 a2 a3 : AV) (H : AH) (K : AV → AH → Prop) : sFun Try.prog salvorref11_AllocateContent_fl pql none0 none0 salvorref11_AllocateContent_kp Try.f79 [a0, a1, a2, a3] H K = salvorref11_AllocateContent a0 a1 a2 a3 H K := by kernel_rfl
theorem salvorref11_AllocateContent_ok {a0 a1 a2 a3 : AV} {H : AH} {K : AV → AH → Prop} (h : salvorref11_AllocateContent a0 a1 a2 a3 H K) : ∃ r H', K r H' ∧ BCall Try.prog 79 [a0, a1, a2, a3] H r H' :=
  sFun_ok mixP Try.func79 (by kernel_rfl) (Eq.mpr (salvorref11_AllocateContent_eq a0 a1 a2 a3 H K) h)
/-! salvor/salvorref11.PunchContent -/
def salvorref11_PunchContent_fl : Floats := flOf []
def salvorref11_PunchContent_kp : Nat → Option (List Bool) := kpOf [(10, mk 84 0 [1, 2, 3, 6, 8, 9]), (18, mk 84 0 [1, 2, 3, 6, 8, 9, 10, 11, 12]), (15, mk 84 0 [1, 2, 3, 6, 8, 9, 10, 11, 12]), (7, mk 84 0 [1, 2, 3, 6, 8, 9])]
def salvorref11_PunchContent_c (p : List Bool) (n : Nat) : List AV → AH → Kf → Prop := sCode Try.prog salvorref11_PunchContent_fl pql none0 none0 salvorref11_PunchContent_kp (sub p (bodyOf Try.f80)) n
def salvorref11_PunchContent_J18 (R15 : List AV → AH → Prop) (R7 : List AV → AH → Prop) (x1 x2 x3 x6 x8 x9 x10 x11 x12 : AV) (H : AH) (K : AV → AH → Prop) : Prop := jn (mk 84 0 [1, 2, 3, 6, 8, 9, 10, 11, 12]) (salvorref11_PunchContent_c [true, true, true, false, true, false, false, true, false, false, true, true, false, true, false, false, true, true] 22) [x1, x2, x3, x6, x8, x9, x10, x11, x12] H (kLp (mk 84 0 [1, 2, 3, 6, 8, 9, 10, 11, 12]) R15 (kBlk 2 (kSeq (salvorref11_PunchContent_c [true, true, true, false, true, false, false, true, false, false, true, true, true] 22) (kBlk 1 (kSeq (cutC (mk 84 0 [1, 2, 3, 6, 8, 9]) (salvorref11_PunchContent_c [true, true, true, false, true, false, false, true, true] 23)) (kLp (mk 84 0 [1, 2, 3, 6, 8, 9]) R7 (kBlk 0 (kSeq (salvorref11_PunchContent_c [true, true, true, true] 23) (kRet Try.prog Try.f80.results.toList K)))))))))
def salvorref11_PunchContent_J10 (R7 : List AV → AH → Prop) (x1 x2 x3 x6 x8 x9 : AV) (H : AH) (K : AV → AH → Prop) : Prop := jn (mk 84 0 [1, 2, 3, 6, 8, 9]) (salvorref11_PunchContent_c [true, true, true, false, true, false, false, true, true] 23) [x1, x2, x3, x6, x8, x9] H (kLp (mk 84 0 [1, 2, 3, 6, 8, 9]) R7 (kBlk 0 (kSeq (salvorref11_PunchContent_c [true, true, true, true] 23) (kRet Try.prog Try.f80.results.toList K))))
def salvorref11_PunchContent_L15 (R7 : List AV → AH → Prop) (x1 x2 x3 x6 x8 x9 x10 x11 x12 : AV) (H : AH) (K : AV → AH → Prop) : Prop := lp (mk 84 0 [1, 2, 3, 6, 8, 9, 10, 11, 12]) (salvorref11_PunchContent_c [true, true, true, false, true, false, false, true, false, false, true, true, false, true, false, false] 16) [x1, x2, x3, x6, x8, x9, x10, x11, x12] H (kBlk 2 (kSeq (salvorref11_PunchContent_c [true, true, true, false, true, false, false, true, false, false, true, true, true] 22) (kBlk 1 (kSeq (cutC (mk 84 0 [1, 2, 3, 6, 8, 9]) (salvorref11_PunchContent_c [true, true, true, false, true, false, false, true, true] 23)) (kLp (mk 84 0 [1, 2, 3, 6, 8, 9]) R7 (kBlk 0 (kSeq (salvorref11_PunchContent_c [true, true, true, true] 23) (kRet Try.prog Try.f80.results.toList K))))))))
def salvorref11_PunchContent_L7 (x1 x2 x3 x6 x8 x9 : AV) (H : AH) (K : AV → AH → Prop) : Prop := lp (mk 84 0 [1, 2, 3, 6, 8, 9]) (salvorref11_PunchContent_c [true, true, true, false, true, false, false] 8) [x1, x2, x3, x6, x8, x9] H (kBlk 0 (kSeq (salvorref11_PunchContent_c [true, true, true, true] 23) (kRet Try.prog Try.f80.results.toList K)))
def salvorref11_PunchContent_J18_b (R15 : List AV → AH → Prop) (R7 : List AV → AH → Prop) (x1 x2 x3 x6 x8 x9 x10 x11 x12 : AV) (H : AH) (K : AV → AH → Prop) : Prop :=
 bO (abI .add x12 (.lit (.int .i64 1))) fun v0 =>
 R15 [x1, x2, x3, x6, x8, x9, x10, x11, v0] H
theorem salvorref11_PunchContent_J18_eq0 (R15 : List AV → AH → Prop) (R7 : List AV → AH → Prop) (x1 x2 x3 x6 x8 x9 x10 x11 x12 : AV) (H : AH) (K : AV → AH → Prop) : salvorref11_PunchContent_c [true, true, true, false, true, false, false, true, false, false, true, true, false, true, false, false, true, true] 22 (expand (mk 84 0 [1, 2, 3, 6, 8, 9, 10, 11, 12]) [x1, x2, x3, x6, x8, x9, x10, x11, x12]) H (kLp (mk 84 0 [1, 2, 3, 6, 8, 9, 10, 11, 12]) R15 (kBlk 2 (kSeq (salvorref11_PunchContent_c [true, true, true, false, true, false, false, true, false, false, true, true, true] 22) (kBlk 1 (kSeq (cutC (mk 84 0 [1, 2, 3, 6, 8, 9]) (salvorref11_PunchContent_c [true, true, true, false, true, false, false, true, true] 23)) (kLp (mk 84 0 [1, 2, 3, 6, 8, 9]) R7 (kBlk 0 (kSeq (salvorref11_PunchContent_c [true, true, true, true] 23) (kRet Try.prog Try.f80.results.toList K))))))))) = salvorref11_PunchContent_J18_b R15 R7 x1 x2 x3 x6 x8 x9 x10 x11 x12 H K := by kernel_rfl
theorem salvorref11_PunchContent_J18_eq (R15 : List AV → AH → Prop) (R7 : List AV → AH → Prop) (x1 x2 x3 x6 x8 x9 x10 x11 x12 : AV) (H : AH) (K : AV → AH → Prop) : salvorref11_PunchContent_J18 R15 R7 x1 x2 x3 x6 x8 x9 x10 x11 x12 H K = salvorref11_PunchContent_J18_b R15 R7 x1 x2 x3 x6 x8 x9 x10 x11 x12 H K := (jn_eq _ _ _ _ _).trans (salvorref11_PunchContent_J18_eq0 R15 R7 x1 x2 x3 x6 x8 x9 x10 x11 x12 H K)
def salvorref11_PunchContent_J10_b (R7 : List AV → AH → Prop) (x1 x2 x3 x6 x8 x9 : AV) (H : AH) (K : AV → AH → Prop) : Prop :=
 bO (abI .add x9 (.lit (.int .i64 1))) fun v0 =>
 R7 [x1, x2, x3, x6, x8, v0] H
theorem salvorref11_PunchContent_J10_eq0 (R7 : List AV → AH → Prop) (x1 x2 x3 x6 x8 x9 : AV) (H : AH) (K : AV → AH → Prop) : salvorref11_PunchContent_c [true, true, true, false, true, false, false, true, true] 23 (expand (mk 84 0 [1, 2, 3, 6, 8, 9]) [x1, x2, x3, x6, x8, x9]) H (kLp (mk 84 0 [1, 2, 3, 6, 8, 9]) R7 (kBlk 0 (kSeq (salvorref11_PunchContent_c [true, true, true, true] 23) (kRet Try.prog Try.f80.results.toList K)))) = salvorref11_PunchContent_J10_b R7 x1 x2 x3 x6 x8 x9 H K := by kernel_rfl
theorem salvorref11_PunchContent_J10_eq (R7 : List AV → AH → Prop) (x1 x2 x3 x6 x8 x9 : AV) (H : AH) (K : AV → AH → Prop) : salvorref11_PunchContent_J10 R7 x1 x2 x3 x6 x8 x9 H K = salvorref11_PunchContent_J10_b R7 x1 x2 x3 x6 x8 x9 H K := (jn_eq _ _ _ _ _).trans (salvorref11_PunchContent_J10_eq0 R7 x1 x2 x3 x6 x8 x9 H K)
def salvorref11_PunchContent_L15_b (R7 : List AV → AH → Prop) (R15 : List AV → AH → Prop) (x1 x2 x3 x6 x8 x9 x10 x11 x12 : AV) (H : AH) (K : AV → AH → Prop) : Prop :=
 bO (abI .lss x12 (.lit (.int .i64 8))) fun v0 =>
 bB v0 fun t1 => bI t1 (
 bO (ashift 0 x10) fun v2 =>
 bO (ald false 1 H v2) fun v3 =>
 bO (abI .mul v3 (.lit (.int .i64 8))) fun v4 =>
 bO (abI .add v4 x12) fun v5 =>
 bO (abI .geq v5 x1) fun v6 =>
 bG v6 true fun w7 =>
 gO w7 (some v5) fun v8 =>
 bG v6 true fun w9 =>
 gO w9 (some x1) fun v10 =>
 bG v6 true fun w11 =>
 gO w11 (some x2) fun v12 =>
 bG v6 true fun w13 =>
 gO w13 (abI .add v10 v12) fun v14 =>
 bG v6 true fun w15 =>
 gO w15 (abI .lss v8 v14) fun v16 =>
 bO (apick v6 v16 (.lit (.bool false))) fun v17 =>
 bB v17 fun t18 => bI t18 (
 bO (ashift 1 x10) fun v19 =>
 bO (aixA 8 1 v19 x12) fun v20 =>
 bS (ast 1 H v20 (.lit (.int .u8 0))) fun H21 =>
 bO (abI .add x11 (.lit (.int .i64 1))) fun v22 =>
 salvorref11_PunchContent_J18 R15 R7 x1 x2 x3 x6 x8 x9 x10 v22 x12 H21 K)
 (salvorref11_PunchContent_J18 R15 R7 x1 x2 x3 x6 x8 x9 x10 x11 x12 H K))
 (bO (abI .lss x11 (.lit (.int .i64 8))) fun v23 =>
 bB v23 fun t24 => bI t24 (
 bO (ashift 1 x8) fun v25 =>
 bO (ald false 1 H v25) fun v26 =>
 bO (ald true 9 H x10) fun v27 =>
 bH (absl H 9 1 (zrow [(.lit (.int .i64 0)), (.lit (.int .u8 0)), (.lit (.int .u8 0)), (.lit (.int .u8 0)), (.lit (.int .u8 0)), (.lit (.int .u8 0)), (.lit (.int .u8 0)), (.lit (.int .u8 0)), (.lit (.int .u8 0))] 1) [(0, 9, v27)]) fun v28 H29 =>
 bH (aap 9 16 H29 v26 v28) fun v30 H31 =>
 bO (ashift 1 x8) fun v32 =>
 bS (ast 1 H31 v32 v30) fun H33 =>
 salvorref11_PunchContent_J10 R7 x1 x2 x3 x6 x8 x9 H33 K)
 (salvorref11_PunchContent_J10 R7 x1 x2 x3 x6 x8 x9 H K))
theorem salvorref11_PunchContent_L15_eq (R7 : List AV → AH → Prop) (R15 : List AV → AH → Prop) (x1 x2 x3 x6 x8 x9 x10 x11 x12 : AV) (H : AH) (K : AV → AH → Prop) : salvorref11_PunchContent_c [true, true, true, false, true, false, false, true, false, false, true, true, false, true, false, false] 16 (expand (mk 84 0 [1, 2, 3, 6, 8, 9, 10, 11, 12]) [x1, x2, x3, x6, x8, x9, x10, x11, x12]) H (kLp (mk 84 0 [1, 2, 3, 6, 8, 9, 10, 11, 12]) R15 (kBlk 2 (kSeq (salvorref11_PunchContent_c [true, true, true, false, true, false, false, true, false, false, true, true, true] 22) (kBlk 1 (kSeq (cutC (mk 84 0 [1, 2, 3, 6, 8, 9]) (salvorref11_PunchContent_c [true, true, true, false, true, false, false, true, true] 23)) (kLp (mk 84 0 [1, 2, 3, 6, 8, 9]) R7 (kBlk 0 (kSeq (salvorref11_PunchContent_c [true, true, true, true] 23) (kRet Try.prog Try.f80.results.toList K))))))))) = salvorref11_PunchContent_L15_b R7 R15 x1 x2 x3 x6 x8 x9 x10 x11 x12 H K := by kernel_rfl
theorem salvorref11_PunchContent_L15_rule (R7 : List AV → AH → Prop) {K : AV → AH → Prop} (I : Nat → AV → AV → AV → AV → AV → AV → AV → AV → AV → AH → Prop) (round : ∀ (n : Nat) (x1 x2 x3 x6 x8 x9 x10 x11 x12 : AV) (H : AH) (R : List AV → AH → Prop), (∀ (m : Nat) (y1 y2 y3 y6 y8 y9 y10 y11 y12 : AV) (H' : AH), m < n → I m y1 y2 y3 y6 y8 y9 y10 y11 y12 H' → R [y1, y2, y3, y6, y8, y9, y10, y11, y12] H') → I n x1 x2 x3 x6 x8 x9 x10 x11 x12 H → salvorref11_PunchContent_L15_b R7 R x1 x2 x3 x6 x8 x9 x10 x11 x12 H K) (n : Nat) {x1 x2 x3 x6 x8 x9 x10 x11 x12 : AV} {H : AH} (h : I n x1 x2 x3 x6 x8 x9 x10 x11 x12 H) : salvorref11_PunchContent_L15 R7 x1 x2 x3 x6 x8 x9 x10 x11 x12 H K := by
  refine lp_upto (sCode_one _ _) (LI9 I) ?_ n h
  intro n X H h
  obtain ⟨x1, x2, x3, x6, x8, x9, x10, x11, x12, rfl, h⟩ := h.elim
  exact Eq.mpr (salvorref11_PunchContent_L15_eq R7 _ x1 x2 x3 x6 x8 x9 x10 x11 x12 H K) (round n x1 x2 x3 x6 x8 x9 x10 x11 x12 H (fun X H' => ∃ m, m < n ∧ LI9 I m X H') (fun m y1 y2 y3 y6 y8 y9 y10 y11 y12 H' hm hi => ⟨m, hm, hi⟩) h)
def salvorref11_PunchContent_L7_b (R7 : List AV → AH → Prop) (x1 x2 x3 x6 x8 x9 : AV) (H : AH) (K : AV → AH → Prop) : Prop :=
 bO (ashift 1 x3) fun v0 =>
 bO (ald false 1 H v0) fun v1 =>
 bO (alnS v1) fun v2 =>
 bO (abI .lss x9 v2) fun v3 =>
 bB v3 fun t4 => bI t4 (
 bO (ashift 1 x3) fun v5 =>
 bO (ald false 1 H v5) fun v6 =>
 bO (aixS 9 v6 x9) fun v7 =>
 bO (ald true 9 H v7) fun v8 =>
 bH (anew H (.agg [(.lit (.int .i64 0)), (.lit (.int .u8 0)), (.lit (.int .u8 0)), (.lit (.int .u8 0)), (.lit (.int .u8 0)), (.lit (.int .u8 0)), (.lit (.int .u8 0)), (.lit (.int .u8 0)), (.lit (.int .u8 0))])) fun v9 H10 =>
 bS (ast 9 H10 v9 v8) fun H11 =>
 salvorref11_PunchContent_L15 R7 x1 x2 x3 x6 x8 x9 v9 (.lit (.int .i64 0)) (.lit (.int .i64 0)) H11 K)
 (bO (ald true 2 H x8) fun v12 =>
 bS (ast 2 H x6 v12) fun H13 =>
 bO (ald true 2 H13 x6) fun v14 =>
 K (.tup [v14, (.lit (.bool true))]) H13)
theorem salvorref11_PunchContent_L7_eq (R7 : List AV → AH → Prop) (x1 x2 x3 x6 x8 x9 : AV) (H : AH) (K : AV → AH → Prop) : salvorref11_PunchContent_c [true, true, true, false, true, false, false] 8 (expand (mk 84 0 [1, 2, 3, 6, 8, 9]) [x1, x2, x3, x6, x8, x9]) H (kLp (mk 84 0 [1, 2, 3, 6, 8, 9]) R7 (kBlk 0 (kSeq (salvorref11_PunchContent_c [true, true, true, true] 23) (kRet Try.prog Try.f80.results.toList K)))) = salvorref11_PunchContent_L7_b R7 x1 x2 x3 x6 x8 x9 H K := by kernel_rfl
theorem salvorref11_PunchContent_L7_rule {K : AV → AH → Prop} (I : Nat → AV → AV → AV → AV → AV → AV → AH → Prop) (round : ∀ (n : Nat) (x1 x2 x3 x6 x8 x9 : AV) (H : AH) (R : List AV → AH → Prop), (∀ (m : Nat) (y1 y2 y3 y6 y8 y9 : AV) (H' : AH), m < n → I m y1 y2 y3 y6 y8 y9 H' → R [y1, y2, y3, y6, y8, y9] H') → I n x1 x2 x3 x6 x8 x9 H → salvorref11_PunchContent_L7_b R x1 x2 x3 x6 x8 x9 H K) (n : Nat) {x1 x2 x3 x6 x8 x9 : AV} {H : AH} (h : I n x1 x2 x3 x6 x8 x9 H) : salvorref11_PunchContent_L7 x1 x2 x3 x6 x8 x9 H K := by
  refine lp_upto (sCode_one _ _) (LI6 I) ?_ n h
  intro n X H h
  obtain ⟨x1, x2, x3, x6, x8, x9, rfl, h⟩ := h.elim
  exact Eq.mpr (salvorref11_PunchContent_L7_eq _ x1 x2 x3 x6 x8 x9 H K) (round n x1 x2 x3 x6 x8 x9 H (fun X H' => ∃ m, m < n ∧ LI6 I m X H') (fun m y1 y2 y3 y6 y8 y9 H' hm hi => ⟨m, hm, hi⟩) h)
def salvorref11_PunchContent (a0 a1 a2 : AV) (H : AH) (K : AV → AH → Prop) : Prop :=
 bH (anew H a0) fun v0 H1 =>
 bH (anew H1 (.agg [(.lit (.int .i64 0)), (.lit (.slice none 0 0))])) fun v2 H3 =>
 bO (ald true 2 H3 v0) fun v4 =>
 bP (PCall Try.prog 56 [v4] H3) fun v5 =>
 bO (aun .not v5) fun v6 =>
 bG v6 false fun w7 =>
 gO w7 (some a1) fun v8 =>
 bG v6 false fun w9 =>
 gO w9 (abI .lss v8 (.lit (.int .i64 0))) fun v10 =>
 bO (apick v6 (.lit (.bool true)) v10) fun v11 =>
 bG v11 false fun w12 =>
 gO w12 (some a2) fun v13 =>
 bG v11 false fun w14 =>
 gO w14 (abI .lss v13 (.lit (.int .i64 1))) fun v15 =>
 bO (apick v11 (.lit (.bool true)) v15) fun v16 =>
 bG v16 false fun w17 =>
 gO w17 (some a2) fun v18 =>
 bG v16 false fun w19 =>
 gO w19 (abI .gtr v18 (.lit (.int .i64 1099511627776))) fun v20 =>
 bO (apick v16 (.lit (.bool true)) v20) fun v21 =>
 bG v21 false fun w22 =>
 gO w22 (some a1) fun v23 =>
 bG v21 false fun w24 =>
 gO w24 (some a2) fun v25 =>
 bG v21 false fun w26 =>
 gO w26 (abI .sub (.lit (.int .i64 1099511627776)) v25) fun v27 =>
 bG v21 false fun w28 =>
 gO w28 (abI .gtr v23 v27) fun v29 =>
 bO (apick v21 (.lit (.bool true)) v29) fun v30 =>
 bB v30 fun t31 => bI t31 (
 bO (abl [(.lit (.int .i64 0)), (.lit (.slice none 0 0))] []) fun v32 =>
 bS (ast 2 H3 v2 v32) fun H33 =>
 bO (ald true 2 H33 v2) fun v34 =>
 K (.tup [v34, (.lit (.bool false))]) H33)
 (bO (ashift 0 v0) fun v35 =>
 bO (ald false 1 H3 v35) fun v36 =>
 bO (abl [(.lit (.int .i64 0)), (.lit (.slice none 0 0))] [(0, 1, v36)]) fun v37 =>
 bH (anew H3 (.agg [(.lit (.int .i64 0)), (.lit (.slice none 0 0))])) fun v38 H39 =>
 bS (ast 2 H39 v38 v37) fun H40 =>
 salvorref11_PunchContent_L7 a1 a2 v0 v2 v38 (.lit (.int .i64 0)) H40 K)
theorem salvorref11_PunchContent_eq (a0 a1 a2 : AV) (H : AH) (K : AV → AH → Prop) : sFun Try.prog salvorref11_PunchContent_fl pql none0 none0 salvorref11_PunchContent_kp Try.f80 [a0, a1, a2] H K = salvorref11_PunchContent a0 a1 a2 H K := by kernel_rfl
theorem salvorref11_PunchContent_ok {a0 a1 a2 : AV} {H : AH} {K : AV → AH → Prop} (h : salvorref11_PunchContent a0 a1 a2 H K) : ∃ r H', K r H' ∧ BCall Try.prog 80 [a0, a1, a2] H r H' :=
  sFun_ok mixP Try.func80 (by kernel_rfl) (Eq.mpr (salvorref11_PunchContent_eq a0 a1 a2 H K) h)
/-! salvor/extent.Fits -/
def extent_Fits_fl : Floats := flOf []
def extent_Fits_kp : Nat → Option (List Bool) := kpOf []
def extent_Fits_c (p : List Bool) (n : Nat) : List AV → AH → Kf → Prop := sCode Try.prog extent_Fits_fl pql none0 none0 extent_Fits_kp (sub p (bodyOf Try.f89)) n
def extent_Fits (a0 a1 : AV) (H : AH) (K : AV → AH → Prop) : Prop :=
 bO (abI .geq a0 (.lit (.int .i64 0))) fun v0 =>
 bG v0 true fun w1 =>
 gO w1 (some a1) fun v2 =>
 bG v0 true fun w3 =>
 gO w3 (abI .leq v2 (.lit (.int .i64 4096))) fun v4 =>
 bO (apick v0 v4 (.lit (.bool false))) fun v5 =>
 bG v5 true fun w6 =>
 gO w6 (some a0) fun v7 =>
 bG v5 true fun w8 =>
 gO w8 (some a1) fun v9 =>
 bG v5 true fun w10 =>
 gO w10 (abI .sub (.lit (.int .i64 1099511627776)) v9) fun v11 =>
 bG v5 true fun w12 =>
 gO w12 (abI .leq v7 v11) fun v13 =>
 bO (apick v5 v13 (.lit (.bool false))) fun v14 =>
 K v14 H
theorem extent_Fits_eq (a0 a1 : AV) (H : AH) (K : AV → AH → Prop) : sFun Try.prog extent_Fits_fl pql none0 none0 extent_Fits_kp Try.f89 [a0, a1] H K = extent_Fits a0 a1 H K := by kernel_rfl
theorem extent_Fits_ok {a0 a1 : AV} {H : AH} {K : AV → AH → Prop} (h : extent_Fits a0 a1 H K) : ∃ r H', K r H' ∧ BCall Try.prog 89 [a0, a1] H r H' :=
  sFun_ok mixP Try.func89 (by kernel_rfl) (Eq.mpr (extent_Fits_eq a0 a1 H K) h)
/-! salvor/extent.copied -/
def extent_copied_fl : Floats := flOf [(1, [(1, some 4)])]
def extent_copied_kp : Nat → Option (List Bool) := kpOf []
def extent_copied_c (p : List Bool) (n : Nat) : List AV → AH → Kf → Prop := sCode Try.prog extent_copied_fl pql none0 none0 extent_copied_kp (sub p (bodyOf Try.f90)) n
def extent_copied (a0 : AV) (H : AH) (K : AV → AH → Prop) : Prop :=
 bH (anew H a0) fun v0 H1 =>
 bH (anew H1 (.agg [(.lit (.int .i64 0)), (.lit (.slice none 0 0))])) fun v2 H3 =>
 bO (ashift 0 v0) fun v4 =>
 bO (ald false 1 H3 v4) fun v5 =>
 bO (ashift 1 v0) fun v6 =>
 bO (ald false 1 H3 v6) fun v7 =>
 bC (BCall Try.prog 68 [v7] H3) fun v8 H9 =>
 bO (abl [(.lit (.int .i64 0)), (.lit (.slice none 0 0))] [(0, 1, v5), (1, 1, v8)]) fun v10 =>
 bS (ast 2 H9 v2 v10) fun H11 =>
(ald false 1 H9 v4 = some v5) ∧
 bO (ald true 2 H11 v2) fun v12 =>
 K v12 H11
theorem extent_copied_eq (a0 : AV) (H : AH) (K : AV → AH → Prop) : sFun Try.prog extent_copied_fl pql none0 none0 extent_copied_kp Try.f90 [a0] H K = extent_copied a0 H K := by kernel_rfl
theorem extent_copied_ok {a0 : AV} {H : AH} {K : AV → AH → Prop} (h : extent_copied a0 H K) : ∃ r H', K r H' ∧ BCall Try.prog 90 [a0] H r H' :=
  sFun_ok mixP Try.func90 (by kernel_rfl) (Eq.mpr (extent_copied_eq a0 H K) h)
/-! salvor/off.Parts -/
def off_Parts_fl : Floats := flOf []
def off_Parts_kp : Nat → Option (List Bool) := kpOf [(6, mk 48 0 [1, 2, 5])]
def off_Parts_c (p : List Bool) (n : Nat) : List AV → AH → Kf → Prop := sCode Try.prog off_Parts_fl pql none0 none0 off_Parts_kp (sub p (bodyOf Try.f91)) n
def off_Parts_L6 (x1 x2 x5 : AV) (H : AH) (K : AV → AH → Prop) : Prop := lp (mk 48 0 [1, 2, 5]) (off_Parts_c [true, true, true, false, false, false] 7) [x1, x2, x5] H (kBlk 0 (kSeq (off_Parts_c [true, true, true, true] 11) (kRet Try.prog Try.f91.results.toList K)))
def off_Parts_L6_b (R6 : List AV → AH → Prop) (x1 x2 x5 : AV) (H : AH) (K : AV → AH → Prop) : Prop :=
 bO (ashift 1 x2) fun v0 =>
 bO (ald false 1 H v0) fun v1 =>
 bO (abI .gtr v1 (.lit (.int .i64 0))) fun v2 =>
 bB v2 fun t3 => bI t3 (
 bO (ashift 1 x2) fun v4 =>
 bO (ald false 1 H v4) fun v5 =>
 bO (ashift 0 x2) fun v6 =>
 bO (ald false 1 H v6) fun v7 =>
 bO (abI .rem v7 x1) fun v8 =>
 bO (abI .sub x1 v8) fun v9 =>
 bO (amm imn [v5, v9]) fun v10 =>
 bO (ashift 0 x2) fun v11 =>
 bO (ald false 1 H v11) fun v12 =>
 bO (abl [(.lit (.int .i64 0)), (.lit (.int .i64 0))] [(0, 1, v12), (1, 1, v10)]) fun v13 =>
 bH (absl H 2 1 (zrow [(.lit (.int .i64 0)), (.lit (.int .i64 0))] 1) [(0, 2, v13)]) fun v14 H15 =>
 bH (aap 2 16 H15 x5 v14) fun v16 H17 =>
 bO (ashift 0 x2) fun v18 =>
 bO (ald false 1 H17 v18) fun v19 =>
 bO (abI .add v19 v10) fun v20 =>
 bO (ashift 1 x2) fun v21 =>
 bO (ald false 1 H17 v21) fun v22 =>
 bO (abI .sub v22 v10) fun v23 =>
 bO (abl [(.lit (.int .i64 0)), (.lit (.int .i64 0))] [(0, 1, v20), (1, 1, v23)]) fun v24 =>
 bS (ast 2 H17 x2 v24) fun H25 =>
 R6 [x1, x2, v16] H25)
 (K x5 H)
theorem off_Parts_L6_eq (R6 : List AV → AH → Prop) (x1 x2 x5 : AV) (H : AH) (K : AV → AH → Prop) : off_Parts_c [true, true, true, false, false, false] 7 (expand (mk 48 0 [1, 2, 5]) [x1, x2, x5]) H (kLp (mk 48 0 [1, 2, 5]) R6 (kBlk 0 (kSeq (off_Parts_c [true, true, true, true] 11) (kRet Try.prog Try.f91.results.toList K)))) = off_Parts_L6_b R6 x1 x2 x5 H K := by kernel_rfl
theorem off_Parts_L6_rule {K : AV → AH → Prop} (I : Nat → AV → AV → AV → AH → Prop) (round : ∀ (n : Nat) (x1 x2 x5 : AV) (H : AH) (R : List AV → AH → Prop), (∀ (m : Nat) (y1 y2 y5 : AV) (H' : AH), m < n → I m y1 y2 y5 H' → R [y1, y2, y5] H') → I n x1 x2 x5 H → off_Parts_L6_b R x1 x2 x5 H K) (n : Nat) {x1 x2 x5 : AV} {H : AH} (h : I n x1 x2 x5 H) : off_Parts_L6 x1 x2 x5 H K := by
  refine lp_upto (sCode_one _ _) (LI3 I) ?_ n h
  intro n X H h
  obtain ⟨x1, x2, x5, rfl, h⟩ := h.elim
  exact Eq.mpr (off_Parts_L6_eq _ x1 x2 x5 H K) (round n x1 x2 x5 H (fun X H' => ∃ m, m < n ∧ LI3 I m X H') (fun m y1 y2 y5 H' hm hi => ⟨m, hm, hi⟩) h)
def off_Parts (a0 a1 : AV) (H : AH) (K : AV → AH → Prop) : Prop :=
 bH (anew H a0) fun v0 H1 =>
 bO (ald true 2 H1 v0) fun v2 =>
 bP (PCall Try.prog 104 [v2] H1) fun v3 =>
 bO (aun .not v3) fun v4 =>
 bG v4 false fun w5 =>
 gO w5 (ashift 1 v0) fun v6 =>
 bG v4 false fun w7 =>
 gO w7 (ald false 1 H1 v6) fun v8 =>
 bG v4 false fun w9 =>
 gO w9 (abI .gtr v8 (.lit (.int .i64 4096))) fun v10 =>
 bO (apick v4 (.lit (.bool true)) v10) fun v11 =>
 bG v11 false fun w12 =>
 gO w12 (some a1) fun v13 =>
 bG v11 false fun w14 =>
 gO w14 (abI .lss v13 (.lit (.int .i64 1))) fun v15 =>
 bO (apick v11 (.lit (.bool true)) v15) fun v16 =>
 bB v16 fun t17 => bI t17 (
 K (.lit (.slice none 0 0)) H1)
 (off_Parts_L6 a1 v0 (.lit (.slice none 0 0)) H1 K)
theorem off_Parts_eq (a0 a1 : AV) (H : AH) (K : AV → AH → Prop) : sFun Try.prog off_Parts_fl pql none0 none0 off_Parts_kp Try.f91 [a0, a1] H K = off_Parts a0 a1 H K := by kernel_rfl
theorem off_Parts_ok {a0 a1 : AV} {H : AH} {K : AV → AH → Prop} (h : off_Parts a0 a1 H K) : ∃ r H', K r H' ∧ BCall Try.prog 91 [a0, a1] H r H' :=
  sFun_ok mixP Try.func91 (by kernel_rfl) (Eq.mpr (off_Parts_eq a0 a1 H K) h)
/-! salvor/extent.need -/
def extent_need_fl : Floats := flOf []
def extent_need_kp : Nat → Option (List Bool) := kpOf [(2, mk 31 0 [5])]
def extent_need_c (p : List Bool) (n : Nat) : List AV → AH → Kf → Prop := sCode Try.prog extent_need_fl pql none0 none0 extent_need_kp (sub p (bodyOf Try.f92)) n
def extent_need_J2 (x5 : AV) (H : AH) (K : AV → AH → Prop) : Prop := jn (mk 31 0 [5]) (extent_need_c [true, true, true] 4) [x5] H (kRet Try.prog Try.f92.results.toList K)
def extent_need_J2_b (x5 : AV) (H : AH) (K : AV → AH → Prop) : Prop :=
 K x5 H
theorem extent_need_J2_eq0 (x5 : AV) (H : AH) (K : AV → AH → Prop) : extent_need_c [true, true, true] 4 (expand (mk 31 0 [5]) [x5]) H (kRet Try.prog Try.f92.results.toList K) = extent_need_J2_b x5 H K := by kernel_rfl
theorem extent_need_J2_eq (x5 : AV) (H : AH) (K : AV → AH → Prop) : extent_need_J2 x5 H K = extent_need_J2_b x5 H K := (jn_eq _ _ _ _ _).trans (extent_need_J2_eq0 x5 H K)
def extent_need (a0 a1 : AV) (H : AH) (K : AV → AH → Prop) : Prop :=
 bO (anilCheck a0) fun v0 =>
 bO (ashift 1 v0) fun v1 =>
 bO (ald false 1 H v1) fun v2 =>
 bP (PCall Try.prog 105 [v2, a1] H) fun v3 =>
 bO (aextract v3 0) fun v4 =>
 bO (aextract v3 1) fun v5 =>
 bO (aun .not v5) fun v6 =>
 bB v6 fun t7 => bI t7 (
 bO (anilCheck a0) fun v8 =>
 bO (ashift 1 v8) fun v9 =>
 bO (ald false 1 H v9) fun v10 =>
 bO (abl [(.lit (.int .i64 0)), (.lit (.int .u8 0)), (.lit (.int .u8 0)), (.lit (.int .u8 0)), (.lit (.int .u8 0)), (.lit (.int .u8 0)), (.lit (.int .u8 0)), (.lit (.int .u8 0)), (.lit (.int .u8 0))] [(0, 1, a1)]) fun v11 =>
 bH (absl H 9 1 (zrow [(.lit (.int .i64 0)), (.lit (.int .u8 0)), (.lit (.int .u8 0)), (.lit (.int .u8 0)), (.lit (.int .u8 0)), (.lit (.int .u8 0)), (.lit (.int .u8 0)), (.lit (.int .u8 0)), (.lit (.int .u8 0))] 1) [(0, 9, v11)]) fun v12 H13 =>
 bC (BCall Try.prog 106 [v10, v4, v12] H13) fun v14 H15 =>
 bO (anilCheck a0) fun v16 =>
 bO (ashift 1 v16) fun v17 =>
 bS (ast 1 H15 v17 v14) fun H18 =>
 extent_need_J2 v4 H18 K)
 (extent_need_J2 v4 H K)
theorem extent_need_eq (a0 a1 : AV) (H : AH) (K : AV → AH → Prop) : sFun Try.prog extent_need_fl pql none0 none0 extent_need_kp Try.f92 [a0, a1] H K = extent_need a0 a1 H K := by kernel_rfl
theorem extent_need_ok {a0 a1 : AV} {H : AH} {K : AV → AH → Prop} (h : extent_need a0 a1 H K) : ∃ r H', K r H' ∧ BCall Try.prog 92 [a0, a1] H r H' :=
  sFun_ok mixP Try.func92 (by kernel_rfl) (Eq.mpr (extent_need_eq a0 a1 H K) h)
/-! salvor/extent.place -/
def extent_place_fl : Floats := flOf []
def extent_place_kp : Nat → Option (List Bool) := kpOf []
def extent_place_c (p : List Bool) (n : Nat) : List AV → AH → Kf → Prop := sCode Try.prog extent_place_fl pql none0 none0 extent_place_kp (sub p (bodyOf Try.f105)) n
def extent_place (a0 a1 : AV) (H : AH) (K : AV → AH → Prop) : Prop :=
 bP (PCall Try.prog 112 [a0, a1, (.fn (.func 113) [] [])] H) fun v0 =>
 bO (aextract v0 0) fun v1 =>
 bO (aextract v0 1) fun v2 =>
 K (.tup [v1, v2]) H
theorem extent_place_eq (a0 a1 : AV) (H : AH) (K : AV → AH → Prop) : sFun Try.prog extent_place_fl pql none0 none0 extent_place_kp Try.f105 [a0, a1] H K = extent_place a0 a1 H K := by kernel_rfl
theorem extent_place_ok {a0 a1 : AV} {H : AH} {K : AV → AH → Prop} (h : extent_place a0 a1 H K) : ∃ r H', K r H' ∧ BCall Try.prog 105 [a0, a1] H r H' :=
  sFun_ok mixP Try.func105 (by kernel_rfl) (Eq.mpr (extent_place_eq a0 a1 H K) h)
/-! salvor/off.Meet -/
def off_Meet_fl : Floats := flOf []
def off_Meet_kp : Nat → Option (List Bool) := kpOf []
def off_Meet_c (p : List Bool) (n : Nat) : List AV → AH → Kf → Prop := sCode Try.prog off_Meet_fl pql none0 none0 off_Meet_kp (sub p (bodyOf Try.f108)) n
def off_Meet (a0 a1 : AV) (H : AH) (K : AV → AH → Prop) : Prop :=
 bH (anew H a0) fun v0 H1 =>
 bH (anew H1 a1) fun v2 H3 =>
 bH (anew H3 (.agg [(.lit (.int .i64 0)), (.lit (.int .i64 0))])) fun v4 H5 =>
 bO (ald true 2 H5 v0) fun v6 =>
 bP (PCall Try.prog 104 [v6] H5) fun v7 =>
 bO (aun .not v7) fun v8 =>
 bG v8 false fun w9 =>
 gO w9 (ald true 2 H5 v2) fun v10 =>
 bG v8 false fun w11 =>
 gP w11 (PCall Try.prog 104 [v10] H5) fun v12 =>
 bG v8 false fun w13 =>
 gO w13 (aun .not v12) fun v14 =>
 bO (apick v8 (.lit (.bool true)) v14) fun v15 =>
 bB v15 fun t16 => bI t16 (
 bO (abl [(.lit (.int .i64 0)), (.lit (.int .i64 0))] []) fun v17 =>
 bS (ast 2 H5 v4 v17) fun H18 =>
 bO (ald true 2 H18 v4) fun v19 =>
 K v19 H18)
 (bO (ashift 0 v0) fun v20 =>
 bO (ald false 1 H5 v20) fun v21 =>
 bO (ashift 0 v2) fun v22 =>
 bO (ald false 1 H5 v22) fun v23 =>
 bO (amm imx [v21, v23]) fun v24 =>
 bO (ashift 0 v0) fun v25 =>
 bO (ald false 1 H5 v25) fun v26 =>
 bO (ashift 1 v0) fun v27 =>
 bO (ald false 1 H5 v27) fun v28 =>
 bO (abI .add v26 v28) fun v29 =>
 bO (ashift 0 v2) fun v30 =>
 bO (ald false 1 H5 v30) fun v31 =>
 bO (ashift 1 v2) fun v32 =>
 bO (ald false 1 H5 v32) fun v33 =>
 bO (abI .add v31 v33) fun v34 =>
 bO (amm imn [v29, v34]) fun v35 =>
 bO (abI .geq v24 v35) fun v36 =>
 bB v36 fun t37 => bI t37 (
 bO (abl [(.lit (.int .i64 0)), (.lit (.int .i64 0))] []) fun v38 =>
 bS (ast 2 H5 v4 v38) fun H39 =>
 bO (ald true 2 H39 v4) fun v40 =>
 K v40 H39)
 (bO (abI .sub v35 v24) fun v41 =>
 bO (abl [(.lit (.int .i64 0)), (.lit (.int .i64 0))] [(0, 1, v24), (1, 1, v41)]) fun v42 =>
 bS (ast 2 H5 v4 v42) fun H43 =>
 bO (ald true 2 H43 v4) fun v44 =>
 K v44 H43))
theorem off_Meet_eq (a0 a1 : AV) (H : AH) (K : AV → AH → Prop) : sFun Try.prog off_Meet_fl pql none0 none0 off_Meet_kp Try.f108 [a0, a1] H K = off_Meet a0 a1 H K := by kernel_rfl
theorem off_Meet_ok {a0 a1 : AV} {H : AH} {K : AV → AH → Prop} (h : off_Meet a0 a1 H K) : ∃ r H', K r H' ∧ BCall Try.prog 108 [a0, a1] H r H' :=
  sFun_ok mixP Try.func108 (by kernel_rfl) (Eq.mpr (off_Meet_eq a0 a1 H K) h)
/-! salvor/extent.whole -/
def extent_whole_fl : Floats := flOf []
def extent_whole_kp : Nat → Option (List Bool) := kpOf []
def extent_whole_c (p : List Bool) (n : Nat) : List AV → AH → Kf → Prop := sCode Try.prog extent_whole_fl pql none0 none0 extent_whole_kp (sub p (bodyOf Try.f99)) n
def extent_whole (a0 : AV) (H : AH) (K : AV → AH → Prop) : Prop :=
 bH (anew H (.agg [(.lit (.int .i64 0)), (.lit (.int .i64 0))])) fun v0 H1 =>
 bO (abI .mul a0 (.lit (.int .i64 8))) fun v2 =>
 bO (abl [(.lit (.int .i64 0)), (.lit (.int .i64 0))] [(0, 1, v2), (1, 1, (.lit (.int .i64 8)))]) fun v3 =>
 bS (ast 2 H1 v0 v3) fun H4 =>
 bO (ald true 2 H4 v0) fun v5 =>
 K v5 H4
theorem extent_whole_eq (a0 : AV) (H : AH) (K : AV → AH → Prop) : sFun Try.prog extent_whole_fl pql none0 none0 extent_whole_kp Try.f99 [a0] H K = extent_whole a0 H K := by kernel_rfl
theorem extent_whole_ok {a0 : AV} {H : AH} {K : AV → AH → Prop} (h : extent_whole a0 H K) : ∃ r H', K r H' ∧ BCall Try.prog 99 [a0] H r H' :=
  sFun_ok mixP Try.func99 (by kernel_rfl) (Eq.mpr (extent_whole_eq a0 H K) h)
/-! salvor/extent.clean -/
def extent_clean_fl : Floats := flOf []
def extent_clean_kp : Nat → Option (List Bool) := kpOf [(3, mk 25 0 [1, 2, 8, 9])]
def extent_clean_c (p : List Bool) (n : Nat) : List AV → AH → Kf → Prop := sCode Try.prog extent_clean_fl pql none0 none0 extent_clean_kp (sub p (bodyOf Try.f81)) n
def extent_clean_L3 (x1 x2 x8 x9 : AV) (H : AH) (K : AV → AH → Prop) : Prop := lp (mk 25 0 [1, 2, 8, 9]) (extent_clean_c [true, false, true, false, false] 4) [x1, x2, x8, x9] H (kBlk 0 (kSeq (extent_clean_c [true, true] 10) (kRet Try.prog Try.f81.results.toList K)))
def extent_clean_L3_b (R3 : List AV → AH → Prop) (x1 x2 x8 x9 : AV) (H : AH) (K : AV → AH → Prop) : Prop :=
 bO (abI .lss x9 (.lit (.int .i64 8))) fun v0 =>
 bB v0 fun t1 => bI t1 (
 bO (aivA false 1 8 1 x8 x9) fun v2 =>
 bO (abI .neq v2 (.lit (.int .u8 0))) fun v3 =>
 bG v3 true fun w4 =>
 gO w4 (ashift 0 x2) fun v5 =>
 bG v3 true fun w6 =>
 gO w6 (ald false 1 H v5) fun v7 =>
 bG v3 true fun w8 =>
 gO w8 (abI .mul v7 (.lit (.int .i64 8))) fun v9 =>
 bG v3 true fun w10 =>
 gO w10 (some x9) fun v11 =>
 bG v3 true fun w12 =>
 gO w12 (abI .add v9 v11) fun v13 =>
 bG v3 true fun w14 =>
 gO w14 (some x1) fun v15 =>
 bG v3 true fun w16 =>
 gO w16 (abI .geq v13 v15) fun v17 =>
 bO (apick v3 v17 (.lit (.bool false))) fun v18 =>
 bB v18 fun t19 => bI t19 (
 K (.lit (.bool false)) H)
 (bO (abI .add x9 (.lit (.int .i64 1))) fun v20 =>
 R3 [x1, x2, x8, v20] H))
 (K (.lit (.bool true)) H)
theorem extent_clean_L3_eq (R3 : List AV → AH → Prop) (x1 x2 x8 x9 : AV) (H : AH) (K : AV → AH → Prop) : extent_clean_c [true, false, true, false, false] 4 (expand (mk 25 0 [1, 2, 8, 9]) [x1, x2, x8, x9]) H (kLp (mk 25 0 [1, 2, 8, 9]) R3 (kBlk 0 (kSeq (extent_clean_c [true, true] 10) (kRet Try.prog Try.f81.results.toList K)))) = extent_clean_L3_b R3 x1 x2 x8 x9 H K := by kernel_rfl
theorem extent_clean_L3_rule {K : AV → AH → Prop} (I : Nat → AV → AV → AV → AV → AH → Prop) (round : ∀ (n : Nat) (x1 x2 x8 x9 : AV) (H : AH) (R : List AV → AH → Prop), (∀ (m : Nat) (y1 y2 y8 y9 : AV) (H' : AH), m < n → I m y1 y2 y8 y9 H' → R [y1, y2, y8, y9] H') → I n x1 x2 x8 x9 H → extent_clean_L3_b R x1 x2 x8 x9 H K) (n : Nat) {x1 x2 x8 x9 : AV} {H : AH} (h : I n x1 x2 x8 x9 H) : extent_clean_L3 x1 x2 x8 x9 H K := by
  refine lp_upto (sCode_one _ _) (LI4 I) ?_ n h
  intro n X H h
  obtain ⟨x1, x2, x8, x9, rfl, h⟩ := h.elim
  exact Eq.mpr (extent_clean_L3_eq _ x1 x2 x8 x9 H K) (round n x1 x2 x8 x9 H (fun X H' => ∃ m, m < n ∧ LI4 I m X H') (fun m y1 y2 y8 y9 H' hm hi => ⟨m, hm, hi⟩) h)
def extent_clean (a0 a1 : AV) (H : AH) (K : AV → AH → Prop) : Prop :=
 bH (anew H a0) fun v0 H1 =>
 bO (ashift 1 v0) fun v2 =>
 bO (ald true 8 H1 v2) fun v3 =>
 extent_clean_L3 a1 v0 v3 (.lit (.int .i64 0)) H1 K
theorem extent_clean_eq (a0 a1 : AV) (H : AH) (K : AV → AH → Prop) : sFun Try.prog extent_clean_fl pql none0 none0 extent_clean_kp Try.f81 [a0, a1] H K = extent_clean a0 a1 H K := by kernel_rfl
theorem extent_clean_ok {a0 a1 : AV} {H : AH} {K : AV → AH → Prop} (h : extent_clean a0 a1 H K) : ∃ r H', K r H' ∧ BCall Try.prog 81 [a0, a1] H r H' :=
  sFun_ok mixP Try.func81 (by kernel_rfl) (Eq.mpr (extent_clean_eq a0 a1 H K) h)
/-! salvor/salvorref11.copyOf -/
def salvorref11_copyOf_fl : Floats := flOf [(1, [(1, some 4)])]
def salvorref11_copyOf_kp : Nat → Option (List Bool) := kpOf []
def salvorref11_copyOf_c (p : List Bool) (n : Nat) : List AV → AH → Kf → Prop := sCode Try.prog salvorref11_copyOf_fl pql none0 none0 salvorref11_copyOf_kp (sub p (bodyOf Try.f55)) n
def salvorref11_copyOf (a0 : AV) (H : AH) (K : AV → AH → Prop) : Prop :=
 bH (anew H a0) fun v0 H1 =>
 bH (anew H1 (.agg [(.lit (.int .i64 0)), (.lit (.slice none 0 0))])) fun v2 H3 =>
 bO (ashift 0 v0) fun v4 =>
 bO (ald false 1 H3 v4) fun v5 =>
 bO (ashift 1 v0) fun v6 =>
 bO (ald false 1 H3 v6) fun v7 =>
 bH (aap 9 16 H3 (.lit (.slice none 0 0)) v7) fun v8 H9 =>
 bO (abl [(.lit (.int .i64 0)), (.lit (.slice none 0 0))] [(0, 1, v5), (1, 1, v8)]) fun v10 =>
 bS (ast 2 H9 v2 v10) fun H11 =>
(ald false 1 H9 v4 = some v5) ∧
 bO (ald true 2 H11 v2) fun v12 =>
 K v12 H11
theorem salvorref11_copyOf_eq (a0 : AV) (H : AH) (K : AV → AH → Prop) : sFun Try.prog salvorref11_copyOf_fl pql none0 none0 salvorref11_copyOf_kp Try.f55 [a0] H K = salvorref11_copyOf a0 H K := by kernel_rfl
theorem salvorref11_copyOf_ok {a0 : AV} {H : AH} {K : AV → AH → Prop} (h : salvorref11_copyOf a0 H K) : ∃ r H', K r H' ∧ BCall Try.prog 55 [a0] H r H' :=
  sFun_ok mixP Try.func55 (by kernel_rfl) (Eq.mpr (salvorref11_copyOf_eq a0 H K) h)
/-! salvor/salvorref11.need -/
def salvorref11_need_fl : Floats := flOf []
def salvorref11_need_kp : Nat → Option (List Bool) := kpOf [(3, mk 72 0 [0, 1, 5])]
def salvorref11_need_c (p : List Bool) (n : Nat) : List AV → AH → Kf → Prop := sCode Try.prog salvorref11_need_fl pql none0 none0 salvorref11_need_kp (sub p (bodyOf Try.f100)) n
def salvorref11_need_L3 (x0 x1 x5 : AV) (H : AH) (K : AV → AH → Prop) : Prop := lp (mk 72 0 [0, 1, 5]) (salvorref11_need_c [true, true, false, false, false] 4) [x0, x1, x5] H (kBlk 0 (kSeq (salvorref11_need_c [true, true, true] 6) (kRet Try.prog Try.f100.results.toList K)))
def salvorref11_need_L3_b (R3 : List AV → AH → Prop) (x0 x1 x5 : AV) (H : AH) (K : AV → AH → Prop) : Prop :=
 bO (anilCheck x0) fun v0 =>
 bO (ashift 1 v0) fun v1 =>
 bO (ald false 1 H v1) fun v2 =>
 bO (alnS v2) fun v3 =>
 bO (abI .lss x5 v3) fun v4 =>
 bG v4 true fun w5 =>
 gO w5 (some x0) fun v6 =>
 bG v4 true fun w7 =>
 gO w7 (anilCheck v6) fun v8 =>
 bG v4 true fun w9 =>
 gO w9 (ashift 1 v8) fun v10 =>
 bG v4 true fun w11 =>
 gO w11 (ald false 1 H v10) fun v12 =>
 bG v4 true fun w13 =>
 gO w13 (some x5) fun v14 =>
 bG v4 true fun w15 =>
 gO w15 (aixS 9 v12 v14) fun v16 =>
 bG v4 true fun w17 =>
 gO w17 (ashift 0 v16) fun v18 =>
 bG v4 true fun w19 =>
 gO w19 (ald false 1 H v18) fun v20 =>
 bG v4 true fun w21 =>
 gO w21 (some x1) fun v22 =>
 bG v4 true fun w23 =>
 gO w23 (abI .lss v20 v22) fun v24 =>
 bO (apick v4 v24 (.lit (.bool false))) fun v25 =>
 bB v25 fun t26 => bI t26 (
 bO (abI .add x5 (.lit (.int .i64 1))) fun v27 =>
 R3 [x0, x1, v27] H)
 (bO (anilCheck x0) fun v28 =>
 bO (ashift 1 v28) fun v29 =>
 bO (ald false 1 H v29) fun v30 =>
 bO (alnS v30) fun v31 =>
 bO (abI .lss x5 v31) fun v32 =>
 bG v32 true fun w33 =>
 gO w33 (some x0) fun v34 =>
 bG v32 true fun w35 =>
 gO w35 (anilCheck v34) fun v36 =>
 bG v32 true fun w37 =>
 gO w37 (ashift 1 v36) fun v38 =>
 bG v32 true fun w39 =>
 gO w39 (ald false 1 H v38) fun v40 =>
 bG v32 true fun w41 =>
 gO w41 (some x5) fun v42 =>
 bG v32 true fun w43 =>
 gO w43 (aixS 9 v40 v42) fun v44 =>
 bG v32 true fun w45 =>
 gO w45 (ashift 0 v44) fun v46 =>
 bG v32 true fun w47 =>
 gO w47 (ald false 1 H v46) fun v48 =>
 bG v32 true fun w49 =>
 gO w49 (some x1) fun v50 =>
 bG v32 true fun w51 =>
 gO w51 (abI .eql v48 v50) fun v52 =>
 bO (apick v32 v52 (.lit (.bool false))) fun v53 =>
 bB v53 fun t54 => bI t54 (
 K x5 H)
 (bO (anilCheck x0) fun v55 =>
 bO (ashift 1 v55) fun v56 =>
 bO (ald false 1 H v56) fun v57 =>
 bO (aslS 9 v57 none (some x5) none) fun v58 =>
 bH (aap 9 16 H (.lit (.slice none 0 0)) v58) fun v59 H60 =>
 bO (abl [(.lit (.int .i64 0)), (.lit (.int .u8 0)), (.lit (.int .u8 0)), (.lit (.int .u8 0)), (.lit (.int .u8 0)), (.lit (.int .u8 0)), (.lit (.int .u8 0)), (.lit (.int .u8 0)), (.lit (.int .u8 0))] [(0, 1, x1)]) fun v61 =>
 bH (absl H60 9 1 (zrow [(.lit (.int .i64 0)), (.lit (.int .u8 0)), (.lit (.int .u8 0)), (.lit (.int .u8 0)), (.lit (.int .u8 0)), (.lit (.int .u8 0)), (.lit (.int .u8 0)), (.lit (.int .u8 0)), (.lit (.int .u8 0))] 1) [(0, 9, v61)]) fun v62 H63 =>
 bH (aap 9 16 H63 v59 v62) fun v64 H65 =>
 bO (anilCheck x0) fun v66 =>
 bO (ashift 1 v66) fun v67 =>
 bO (ald false 1 H65 v67) fun v68 =>
 bO (aslS 9 v68 (some x5) none none) fun v69 =>
 bH (aap 9 16 H65 v64 v69) fun v70 H71 =>
 bO (anilCheck x0) fun v72 =>
 bO (ashift 1 v72) fun v73 =>
 bS (ast 1 H71 v73 v70) fun H74 =>
 K x5 H74))
theorem salvorref11_need_L3_eq (R3 : List AV → AH → Prop) (x0 x1 x5 : AV) (H : AH) (K : AV → AH → Prop) : salvorref11_need_c [true, true, false, false, false] 4 (expand (mk 72 0 [0, 1, 5]) [x0, x1, x5]) H (kLp (mk 72 0 [0, 1, 5]) R3 (kBlk 0 (kSeq (salvorref11_need_c [true, true, true] 6) (kRet Try.prog Try.f100.results.toList K)))) = salvorref11_need_L3_b R3 x0 x1 x5 H K := by kernel_rfl
theorem salvorref11_need_L3_rule {K : AV → AH → Prop} (I : Nat → AV → AV → AV → AH → Prop) (round : ∀ (n : Nat) (x0 x1 x5 : AV) (H : AH) (R : List AV → AH → Prop), (∀ (m : Nat) (y0 y1 y5 : AV) (H' : AH), m < n → I m y0 y1 y5 H' → R [y0, y1, y5] H') → I n x0 x1 x5 H → salvorref11_need_L3_b R x0 x1 x5 H K) (n : Nat) {x0 x1 x5 : AV} {H : AH} (h : I n x0 x1 x5 H) : salvorref11_need_L3 x0 x1 x5 H K := by
  refine lp_upto (sCode_one _ _) (LI3 I) ?_ n h
  intro n X H h
  obtain ⟨x0, x1, x5, rfl, h⟩ := h.elim
  exact Eq.mpr (salvorref11_need_L3_eq _ x0 x1 x5 H K) (round n x0 x1 x5 H (fun X H' => ∃ m, m < n ∧ LI3 I m X H') (fun m y0 y1 y5 H' hm hi => ⟨m, hm, hi⟩) h)
def salvorref11_need (a0 a1 : AV) (H : AH) (K : AV → AH → Prop) : Prop :=
 salvorref11_need_L3 a0 a1 (.lit (.int .i64 0)) H K
theorem salvorref11_need_eq (a0 a1 : AV) (H : AH) (K : AV → AH → Prop) : sFun Try.prog salvorref11_need_fl pql none0 none0 salvorref11_need_kp Try.f100 [a0, a1] H K = salvorref11_need a0 a1 H K := by kernel_rfl
theorem salvorref11_need_ok {a0 a1 : AV} {H : AH} {K : AV → AH → Prop} (h : salvorref11_need a0 a1 H K) : ∃ r H', K r H' ∧ BCall Try.prog 100 [a0, a1] H r H' :=
  sFun_ok mixP Try.func100 (by kernel_rfl) (Eq.mpr (salvorref11_need_eq a0 a1 H K) h)
/-! slices.Equal[[]salvor/api.Ext,salvor/api.Ext] -/
def slices_Equal_Lapi_Ext_api_Ext_fl : Floats := flOf []
def slices_Equal_Lapi_Ext_api_Ext_kp : Nat → Option (List Bool) := kpOf [(6, mk 26 0 [0, 1, 12, 13])]
def slices_Equal_Lapi_Ext_api_Ext_c (p : List Bool) (n : Nat) : List AV → AH → Kf → Prop := sCode Try.prog slices_Equal_Lapi_Ext_api_Ext_fl pql none0 none0 slices_Equal_Lapi_Ext_api_Ext_kp (sub p (bodyOf Try.f54)) n
def slices_Equal_Lapi_Ext_api_Ext_L6 (x0 x1 x12 x13 : AV) (H : AH) (K : AV → AH → Prop) : Prop := lp (mk 26 0 [0, 1, 12, 13]) (slices_Equal_Lapi_Ext_api_Ext_c [true, true, false, true, false, false] 7) [x0, x1, x12, x13] H (kBlk 0 (kSeq (slices_Equal_Lapi_Ext_api_Ext_c [true, true, true] 13) (kRet Try.prog Try.f54.results.toList K)))
def slices_Equal_Lapi_Ext_api_Ext_L6_b (R6 : List AV → AH → Prop) (x0 x1 x12 x13 : AV) (H : AH) (K : AV → AH → Prop) : Prop :=
 bO (abI .lss x13 x12) fun v0 =>
 bB v0 fun t1 => bI t1 (
 bO (aixS 9 x0 x13) fun v2 =>
 bO (ald true 9 H v2) fun v3 =>
 bO (aixS 9 x1 x13) fun v4 =>
 bO (ald true 9 H v4) fun v5 =>
 bO (abin Try.prog .neq 90 v3 v5) fun v6 =>
 bB v6 fun t7 => bI t7 (
 K (.lit (.bool false)) H)
 (bO (abI .add x13 (.lit (.int .i64 1))) fun v8 =>
 R6 [x0, x1, x12, v8] H))
 (K (.lit (.bool true)) H)
theorem slices_Equal_Lapi_Ext_api_Ext_L6_eq (R6 : List AV → AH → Prop) (x0 x1 x12 x13 : AV) (H : AH) (K : AV → AH → Prop) : slices_Equal_Lapi_Ext_api_Ext_c [true, true, false, true, false, false] 7 (expand (mk 26 0 [0, 1, 12, 13]) [x0, x1, x12, x13]) H (kLp (mk 26 0 [0, 1, 12, 13]) R6 (kBlk 0 (kSeq (slices_Equal_Lapi_Ext_api_Ext_c [true, true, true] 13) (kRet Try.prog Try.f54.results.toList K)))) = slices_Equal_Lapi_Ext_api_Ext_L6_b R6 x0 x1 x12 x13 H K := by kernel_rfl
theorem slices_Equal_Lapi_Ext_api_Ext_L6_rule {K : AV → AH → Prop} (I : Nat → AV → AV → AV → AV → AH → Prop) (round : ∀ (n : Nat) (x0 x1 x12 x13 : AV) (H : AH) (R : List AV → AH → Prop), (∀ (m : Nat) (y0 y1 y12 y13 : AV) (H' : AH), m < n → I m y0 y1 y12 y13 H' → R [y0, y1, y12, y13] H') → I n x0 x1 x12 x13 H → slices_Equal_Lapi_Ext_api_Ext_L6_b R x0 x1 x12 x13 H K) (n : Nat) {x0 x1 x12 x13 : AV} {H : AH} (h : I n x0 x1 x12 x13 H) : slices_Equal_Lapi_Ext_api_Ext_L6 x0 x1 x12 x13 H K := by
  refine lp_upto (sCode_one _ _) (LI4 I) ?_ n h
  intro n X H h
  obtain ⟨x0, x1, x12, x13, rfl, h⟩ := h.elim
  exact Eq.mpr (slices_Equal_Lapi_Ext_api_Ext_L6_eq _ x0 x1 x12 x13 H K) (round n x0 x1 x12 x13 H (fun X H' => ∃ m, m < n ∧ LI4 I m X H') (fun m y0 y1 y12 y13 H' hm hi => ⟨m, hm, hi⟩) h)
def slices_Equal_Lapi_Ext_api_Ext (a0 a1 : AV) (H : AH) (K : AV → AH → Prop) : Prop :=
 bO (alnS a0) fun v0 =>
 bO (alnS a1) fun v1 =>
 bO (abI .neq v0 v1) fun v2 =>
 bB v2 fun t3 => bI t3 (
 K (.lit (.bool false)) H)
 (bO (alnS a0) fun v4 =>
 slices_Equal_Lapi_Ext_api_Ext_L6 a0 a1 v4 (.lit (.int .i64 0)) H K)
theorem slices_Equal_Lapi_Ext_api_Ext_eq (a0 a1 : AV) (H : AH) (K : AV → AH → Prop) : sFun Try.prog slices_Equal_Lapi_Ext_api_Ext_fl pql none0 none0 slices_Equal_Lapi_Ext_api_Ext_kp Try.f54 [a0, a1] H K = slices_Equal_Lapi_Ext_api_Ext a0 a1 H K := by kernel_rfl
theorem slices_Equal_Lapi_Ext_api_Ext_ok {a0 a1 : AV} {H : AH} {K : AV → AH → Prop} (h : slices_Equal_Lapi_Ext_api_Ext a0 a1 H K) : ∃ r H', K r H' ∧ BCall Try.prog 54 [a0, a1] H r H' :=
  sFun_ok mixP Try.func54 (by kernel_rfl) (Eq.mpr (slices_Equal_Lapi_Ext_api_Ext_eq a0 a1 H K) h)
/-! salvor/extent.span -/
def extent_span_fl : Floats := flOf []
def extent_span_kp : Nat → Option (List Bool) := kpOf []
def extent_span_c (p : List Bool) (n : Nat) : List AV → AH → Kf → Prop := sCode Try.prog extent_span_fl pql none0 none0 extent_span_kp (sub p (bodyOf Try.f96)) n
def extent_span (a0 a1 : AV) (H : AH) (K : AV → AH → Prop) : Prop :=
 bO (abI .geq a0 (.lit (.int .i64 0))) fun v0 =>
 bG v0 true fun w1 =>
 gO w1 (some a1) fun v2 =>
 bG v0 true fun w3 =>
 gO w3 (abI .geq v2 (.lit (.int .i64 1))) fun v4 =>
 bO (apick v0 v4 (.lit (.bool false))) fun v5 =>
 bG v5 true fun w6 =>
 gO w6 (some a1) fun v7 =>
 bG v5 true fun w8 =>
 gO w8 (abI .leq v7 (.lit (.int .i64 1099511627776))) fun v9 =>
 bO (apick v5 v9 (.lit (.bool false))) fun v10 =>
 bG v10 true fun w11 =>
 gO w11 (some a0) fun v12 =>
 bG v10 true fun w13 =>
 gO w13 (some a1) fun v14 =>
 bG v10 true fun w15 =>
 gO w15 (abI .sub (.lit (.int .i64 1099511627776)) v14) fun v16 =>
 bG v10 true fun w17 =>
 gO w17 (abI .leq v12 v16) fun v18 =>
 bO (apick v10 v18 (.lit (.bool false))) fun v19 =>
 K v19 H
theorem extent_span_eq (a0 a1 : AV) (H : AH) (K : AV → AH → Prop) : sFun Try.prog extent_span_fl pql none0 none0 extent_span_kp Try.f96 [a0, a1] H K = extent_span a0 a1 H K := by kernel_rfl
theorem extent_span_ok {a0 a1 : AV} {H : AH} {K : AV → AH → Prop} (h : extent_span a0 a1 H K) : ∃ r H', K r H' ∧ BCall Try.prog 96 [a0, a1] H r H' :=
  sFun_ok mixP Try.func96 (by kernel_rfl) (Eq.mpr (extent_span_eq a0 a1 H K) h)
/-! slices.DeleteFunc[[]salvor/api.Ext,salvor/api.Ext] -/
def slices_DeleteFunc_Lapi_Ext_api_Ext_fl : Floats := flOf []
def slices_DeleteFunc_Lapi_Ext_api_Ext_kp : Nat → Option (List Bool) := kpOf [(10, mk 42 0 [0, 1, 5, 6]), (7, mk 42 0 [0, 1, 5, 6])]
def slices_DeleteFunc_Lapi_Ext_api_Ext_c (p : List Bool) (n : Nat) : List AV → AH → Kf → Prop := sCode Try.prog slices_DeleteFunc_Lapi_Ext_api_Ext_fl pql none0 none0 slices_DeleteFunc_Lapi_Ext_api_Ext_kp (sub p (bodyOf Try.f93)) n
def slices_DeleteFunc_Lapi_Ext_api_Ext_J10 (R7 : List AV → AH → Prop) (x0 x1 x5 x6 : AV) (H : AH) (K : AV → AH → Prop) : Prop := jn (mk 42 0 [0, 1, 5, 6]) (slices_DeleteFunc_Lapi_Ext_api_Ext_c [true, true, true, false, true, false, false, true, true] 14) [x0, x1, x5, x6] H (kLp (mk 42 0 [0, 1, 5, 6]) R7 (kBlk 0 (kSeq (slices_DeleteFunc_Lapi_Ext_api_Ext_c [true, true, true, true] 14) (kRet Try.prog Try.f93.results.toList K))))
def slices_DeleteFunc_Lapi_Ext_api_Ext_L7 (x0 x1 x5 x6 : AV) (H : AH) (K : AV → AH → Prop) : Prop := lp (mk 42 0 [0, 1, 5, 6]) (slices_DeleteFunc_Lapi_Ext_api_Ext_c [true, true, true, false, true, false, false] 8) [x0, x1, x5, x6] H (kBlk 0 (kSeq (slices_DeleteFunc_Lapi_Ext_api_Ext_c [true, true, true, true] 14) (kRet Try.prog Try.f93.results.toList K)))
def slices_DeleteFunc_Lapi_Ext_api_Ext_J10_b (R7 : List AV → AH → Prop) (x0 x1 x5 x6 : AV) (H : AH) (K : AV → AH → Prop) : Prop :=
 bO (abI .add x6 (.lit (.int .i64 1))) fun v0 =>
 R7 [x0, x1, x5, v0] H
theorem slices_DeleteFunc_Lapi_Ext_api_Ext_J10_eq0 (R7 : List AV → AH → Prop) (x0 x1 x5 x6 : AV) (H : AH) (K : AV → AH → Prop) : slices_DeleteFunc_Lapi_Ext_api_Ext_c [true, true, true, false, true, false, false, true, true] 14 (expand (mk 42 0 [0, 1, 5, 6]) [x0, x1, x5, x6]) H (kLp (mk 42 0 [0, 1, 5, 6]) R7 (kBlk 0 (kSeq (slices_DeleteFunc_Lapi_Ext_api_Ext_c [true, true, true, true] 14) (kRet Try.prog Try.f93.results.toList K)))) = slices_DeleteFunc_Lapi_Ext_api_Ext_J10_b R7 x0 x1 x5 x6 H K := by kernel_rfl
theorem slices_DeleteFunc_Lapi_Ext_api_Ext_J10_eq (R7 : List AV → AH → Prop) (x0 x1 x5 x6 : AV) (H : AH) (K : AV → AH → Prop) : slices_DeleteFunc_Lapi_Ext_api_Ext_J10 R7 x0 x1 x5 x6 H K = slices_DeleteFunc_Lapi_Ext_api_Ext_J10_b R7 x0 x1 x5 x6 H K := (jn_eq _ _ _ _ _).trans (slices_DeleteFunc_Lapi_Ext_api_Ext_J10_eq0 R7 x0 x1 x5 x6 H K)
def slices_DeleteFunc_Lapi_Ext_api_Ext_L7_b (R7 : List AV → AH → Prop) (x0 x1 x5 x6 : AV) (H : AH) (K : AV → AH → Prop) : Prop :=
 bO (alnS x0) fun v0 =>
 bO (abI .lss x6 v0) fun v1 =>
 bB v1 fun t2 => bI t2 (
 bO (aixS 9 x0 x6) fun v3 =>
 bO (ald true 9 H v3) fun v4 =>
 bH (anew H (.agg [(.lit (.int .i64 0)), (.lit (.int .u8 0)), (.lit (.int .u8 0)), (.lit (.int .u8 0)), (.lit (.int .u8 0)), (.lit (.int .u8 0)), (.lit (.int .u8 0)), (.lit (.int .u8 0)), (.lit (.int .u8 0))])) fun v5 H6 =>
 bS (ast 9 H6 v5 v4) fun H7 =>
 bO (ald true 9 H7 v5) fun v8 =>
 bF true x1 fun k11 f11 c11 =>
 bT (goFunc Try.prog k11 || !true) <|
 bC (BCall Try.prog k11 (f11 ++ [v8] ++ c11) H7) fun v9 H10 =>
 bO (aun .not v9) fun v12 =>
 bB v12 fun t13 => bI t13 (
 bO (ald true 9 H10 v5) fun v14 =>
 bO (aixS 9 x0 x5) fun v15 =>
 bS (ast 9 H10 v15 v14) fun H16 =>
 bO (abI .add x5 (.lit (.int .i64 1))) fun v17 =>
 slices_DeleteFunc_Lapi_Ext_api_Ext_J10 R7 x0 x1 v17 x6 H16 K)
 (slices_DeleteFunc_Lapi_Ext_api_Ext_J10 R7 x0 x1 x5 x6 H10 K))
 (bO (aslS 9 x0 (some x5) none none) fun v18 =>
 bS (acl [(.lit (.int .i64 0)), (.lit (.int .u8 0)), (.lit (.int .u8 0)), (.lit (.int .u8 0)), (.lit (.int .u8 0)), (.lit (.int .u8 0)), (.lit (.int .u8 0)), (.lit (.int .u8 0)), (.lit (.int .u8 0))] H v18) fun H19 =>
 bO (aslS 9 x0 none (some x5) none) fun v20 =>
 K v20 H19)
theorem slices_DeleteFunc_Lapi_Ext_api_Ext_L7_eq (R7 : List AV → AH → Prop) (x0 x1 x5 x6 : AV) (H : AH) (K : AV → AH → Prop) : slices_DeleteFunc_Lapi_Ext_api_Ext_c [true, true, true, false, true, false, false] 8 (expand (mk 42 0 [0, 1, 5, 6]) [x0, x1, x5, x6]) H (kLp (mk 42 0 [0, 1, 5, 6]) R7 (kBlk 0 (kSeq (slices_DeleteFunc_Lapi_Ext_api_Ext_c [true, true, true, true] 14) (kRet Try.prog Try.f93.results.toList K)))) = slices_DeleteFunc_Lapi_Ext_api_Ext_L7_b R7 x0 x1 x5 x6 H K := by kernel_rfl
theorem slices_DeleteFunc_Lapi_Ext_api_Ext_L7_rule {K : AV → AH → Prop} (I : Nat → AV → AV → AV → AV → AH → Prop) (round : ∀ (n : Nat) (x0 x1 x5 x6 : AV) (H : AH) (R : List AV → AH → Prop), (∀ (m : Nat) (y0 y1 y5 y6 : AV) (H' : AH), m < n → I m y0 y1 y5 y6 H' → R [y0, y1, y5, y6] H') → I n x0 x1 x5 x6 H → slices_DeleteFunc_Lapi_Ext_api_Ext_L7_b R x0 x1 x5 x6 H K) (n : Nat) {x0 x1 x5 x6 : AV} {H : AH} (h : I n x0 x1 x5 x6 H) : slices_DeleteFunc_Lapi_Ext_api_Ext_L7 x0 x1 x5 x6 H K := by
  refine lp_upto (sCode_one _ _) (LI4 I) ?_ n h
  intro n X H h
  obtain ⟨x0, x1, x5, x6, rfl, h⟩ := h.elim
  exact Eq.mpr (slices_DeleteFunc_Lapi_Ext_api_Ext_L7_eq _ x0 x1 x5 x6 H K) (round n x0 x1 x5 x6 H (fun X H' => ∃ m, m < n ∧ LI4 I m X H') (fun m y0 y1 y5 y6 H' hm hi => ⟨m, hm, hi⟩) h)
def slices_DeleteFunc_Lapi_Ext_api_Ext (a0 a1 : AV) (H : AH) (K : AV → AH → Prop) : Prop :=
 bP (PCall Try.prog 107 [a0, a1] H) fun v0 =>
 bO (abI .eql v0 (.lit (.int .i64 (-1)))) fun v1 =>
 bB v1 fun t2 => bI t2 (
 K a0 H)
 (bO (abI .add v0 (.lit (.int .i64 1))) fun v3 =>
 slices_DeleteFunc_Lapi_Ext_api_Ext_L7 a0 a1 v0 v3 H K)
theorem slices_DeleteFunc_Lapi_Ext_api_Ext_eq (a0 a1 : AV) (H : AH) (K : AV → AH → Prop) : sFun Try.prog slices_DeleteFunc_Lapi_Ext_api_Ext_fl pql none0 none0 slices_DeleteFunc_Lapi_Ext_api_Ext_kp Try.f93 [a0, a1] H K = slices_DeleteFunc_Lapi_Ext_api_Ext a0 a1 H K := by kernel_rfl
theorem slices_DeleteFunc_Lapi_Ext_api_Ext_ok {a0 a1 : AV} {H : AH} {K : AV → AH → Prop} (h : slices_DeleteFunc_Lapi_Ext_api_Ext a0 a1 H K) : ∃ r H', K r H' ∧ BCall Try.prog 93 [a0, a1] H r H' :=
  sFun_ok mixP Try.func93 (by kernel_rfl) (Eq.mpr (slices_DeleteFunc_Lapi_Ext_api_Ext_eq a0 a1 H K) h)
/-! salvor/extent.Truncate$1 -/
def extent_Truncate_1_fl : Floats := flOf []
def extent_Truncate_1_kp : Nat → Option (List Bool) := kpOf []
def extent_Truncate_1_c (p : List Bool) (n : Nat) : List AV → AH → Kf → Prop := sCode Try.prog extent_Truncate_1_fl pql none0 none0 extent_Truncate_1_kp (sub p (bodyOf Try.f94)) n
def extent_Truncate_1 (a0 a1 : AV) (H : AH) (K : AV → AH → Prop) : Prop :=
 bH (anew H a0) fun v0 H1 =>
 bO (ashift 0 v0) fun v2 =>
 bO (ald false 1 H1 v2) fun v3 =>
 bO (abI .mul v3 (.lit (.int .i64 8))) fun v4 =>
 bO (ald false 1 H1 a1) fun v5 =>
 bO (abI .geq v4 v5) fun v6 =>
 K v6 H1
theorem extent_Truncate_1_eq (a0 a1 : AV) (H : AH) (K : AV → AH → Prop) : sFun Try.prog extent_Truncate_1_fl pql none0 none0 extent_Truncate_1_kp Try.f94 [a0, a1] H K = extent_Truncate_1 a0 a1 H K := by kernel_rfl
theorem extent_Truncate_1_ok {a0 a1 : AV} {H : AH} {K : AV → AH → Prop} (h : extent_Truncate_1 a0 a1 H K) : ∃ r H', K r H' ∧ BCall Try.prog 94 [a0, a1] H r H' :=
  sFun_ok mixP Try.func94 (by kernel_rfl) (Eq.mpr (extent_Truncate_1_eq a0 a1 H K) h)
/-! salvor/extent.wipe -/
def extent_wipe_fl : Floats := flOf [(1, [(3, some 7), (5, some 7)])]
def extent_wipe_kp : Nat → Option (List Bool) := kpOf [(3, mk 33 0 [0, 4, 14, 15])]
def extent_wipe_c (p : List Bool) (n : Nat) : List AV → AH → Kf → Prop := sCode Try.prog extent_wipe_fl pql none0 none0 extent_wipe_kp (sub p (bodyOf Try.f95)) n
def extent_wipe_L3 (x0 x4 x14 x15 : AV) (H : AH) (K : AV → AH → Prop) : Prop := lp (mk 33 0 [0, 4, 14, 15]) (extent_wipe_c [true, true, true, false, false] 4) [x0, x4, x14, x15] H (kBlk 0 (kRet Try.prog Try.f95.results.toList K))
def extent_wipe_L3_b (R3 : List AV → AH → Prop) (x0 x4 x14 x15 : AV) (H : AH) (K : AV → AH → Prop) : Prop :=
 bO (abI .lss x15 x14) fun v0 =>
 bB v0 fun t1 => bI t1 (
 bO (ashift 0 x4) fun v2 =>
 bO (ald false 1 H v2) fun v3 =>
 bO (anilCheck x0) fun v4 =>
 bO (ashift 0 v4) fun v5 =>
 bO (ald false 1 H v5) fun v6 =>
 bO (abI .mul v6 (.lit (.int .i64 8))) fun v7 =>
 bO (abI .sub v3 v7) fun v8 =>
 bO (abI .add v8 x15) fun v9 =>
 bO (anilCheck x0) fun v10 =>
 bO (ashift 1 v10) fun v11 =>
 bO (aixA 8 1 v11 v9) fun v12 =>
 bS (ast 1 H v12 (.lit (.int .u8 0))) fun H13 =>
 bO (abI .add x15 (.lit (.int .i64 1))) fun v14 =>
 R3 [x0, x4, x14, v14] H13)
 (K (.tup []) H)
theorem extent_wipe_L3_eq (R3 : List AV → AH → Prop) (x0 x4 x14 x15 : AV) (H : AH) (K : AV → AH → Prop) : extent_wipe_c [true, true, true, false, false] 4 (expand (mk 33 0 [0, 4, 14, 15]) [x0, x4, x14, x15]) H (kLp (mk 33 0 [0, 4, 14, 15]) R3 (kBlk 0 (kRet Try.prog Try.f95.results.toList K))) = extent_wipe_L3_b R3 x0 x4 x14 x15 H K := by kernel_rfl
theorem extent_wipe_L3_rule {K : AV → AH → Prop} (I : Nat → AV → AV → AV → AV → AH → Prop) (round : ∀ (n : Nat) (x0 x4 x14 x15 : AV) (H : AH) (R : List AV → AH → Prop), (∀ (m : Nat) (y0 y4 y14 y15 : AV) (H' : AH), m < n → I m y0 y4 y14 y15 H' → R [y0, y4, y14, y15] H') → I n x0 x4 x14 x15 H → extent_wipe_L3_b R x0 x4 x14 x15 H K) (n : Nat) {x0 x4 x14 x15 : AV} {H : AH} (h : I n x0 x4 x14 x15 H) : extent_wipe_L3 x0 x4 x14 x15 H K := by
  refine lp_upto (sCode_one _ _) (LI4 I) ?_ n h
  intro n X H h
  obtain ⟨x0, x4, x14, x15, rfl, h⟩ := h.elim
  exact Eq.mpr (extent_wipe_L3_eq _ x0 x4 x14 x15 H K) (round n x0 x4 x14 x15 H (fun X H' => ∃ m, m < n ∧ LI4 I m X H') (fun m y0 y4 y14 y15 H' hm hi => ⟨m, hm, hi⟩) h)
def extent_wipe (a0 a1 : AV) (H : AH) (K : AV → AH → Prop) : Prop :=
 bH (anew H a1) fun v0 H1 =>
 bO (anilCheck a0) fun v2 =>
 bO (ashift 0 v2) fun v3 =>
 bO (ald false 1 H1 v3) fun v4 =>
 bP (BPure Try.prog 99 [v4]) fun v5 =>
 bO (ald true 2 H1 v0) fun v6 =>
 bP (BPure Try.prog 108 [v5, v6]) fun v7 =>
 bH (anew H1 (.agg [(.lit (.int .i64 0)), (.lit (.int .i64 0))])) fun v8 H9 =>
 bS (ast 2 H9 v8 v7) fun H10 =>
(ald false 1 H9 v3 = some v4) ∧
(ald true 2 H9 v0 = some v6) ∧
 bO (ashift 1 v8) fun v11 =>
 bO (ald false 1 H10 v11) fun v12 =>
 extent_wipe_L3 a0 v8 v12 (.lit (.int .i64 0)) H10 K
theorem extent_wipe_eq (a0 a1 : AV) (H : AH) (K : AV → AH → Prop) : sFun Try.prog extent_wipe_fl pql none0 none0 extent_wipe_kp Try.f95 [a0, a1] H K = extent_wipe a0 a1 H K := by kernel_rfl
theorem extent_wipe_ok {a0 a1 : AV} {H : AH} {K : AV → AH → Prop} (h : extent_wipe a0 a1 H K) : ∃ r H', K r H' ∧ BCall Try.prog 95 [a0, a1] H r H' :=
  sFun_ok mixP Try.func95 (by kernel_rfl) (Eq.mpr (extent_wipe_eq a0 a1 H K) h)
/-! salvor/extent.Punch$1 -/
def extent_Punch_1_fl : Floats := flOf []
def extent_Punch_1_kp : Nat → Option (List Bool) := kpOf []
def extent_Punch_1_c (p : List Bool) (n : Nat) : List AV → AH → Kf → Prop := sCode Try.prog extent_Punch_1_fl pql none0 none0 extent_Punch_1_kp (sub p (bodyOf Try.f97)) n
def extent_Punch_1 (a0 a1 : AV) (H : AH) (K : AV → AH → Prop) : Prop :=
 bH (anew H a0) fun v0 H1 =>
 bO (ashift 0 v0) fun v2 =>
 bO (ald false 1 H1 v2) fun v3 =>
 bP (BPure Try.prog 99 [v3]) fun v4 =>
 bO (ald true 2 H1 a1) fun v5 =>
 bP (BPure Try.prog 98 [v4, v5]) fun v6 =>
 K v6 H1
theorem extent_Punch_1_eq (a0 a1 : AV) (H : AH) (K : AV → AH → Prop) : sFun Try.prog extent_Punch_1_fl pql none0 none0 extent_Punch_1_kp Try.f97 [a0, a1] H K = extent_Punch_1 a0 a1 H K := by kernel_rfl
theorem extent_Punch_1_ok {a0 a1 : AV} {H : AH} {K : AV → AH → Prop} (h : extent_Punch_1 a0 a1 H K) : ∃ r H', K r H' ∧ BCall Try.prog 97 [a0, a1] H r H' :=
  sFun_ok mixP Try.func97 (by kernel_rfl) (Eq.mpr (extent_Punch_1_eq a0 a1 H K) h)
/-! salvor/off.Within -/
def off_Within_fl : Floats := flOf []
def off_Within_kp : Nat → Option (List Bool) := kpOf []
def off_Within_c (p : List Bool) (n : Nat) : List AV → AH → Kf → Prop := sCode Try.prog off_Within_fl pql none0 none0 off_Within_kp (sub p (bodyOf Try.f98)) n
def off_Within (a0 a1 : AV) (H : AH) (K : AV → AH → Prop) : Prop :=
 bH (anew H a0) fun v0 H1 =>
 bH (anew H1 a1) fun v2 H3 =>
 bO (ald true 2 H3 v0) fun v4 =>
 bP (PCall Try.prog 104 [v4] H3) fun v5 =>
 bO (aun .not v5) fun v6 =>
 bG v6 false fun w7 =>
 gO w7 (ald true 2 H3 v2) fun v8 =>
 bG v6 false fun w9 =>
 gP w9 (PCall Try.prog 104 [v8] H3) fun v10 =>
 bG v6 false fun w11 =>
 gO w11 (aun .not v10) fun v12 =>
 bO (apick v6 (.lit (.bool true)) v12) fun v13 =>
 bB v13 fun t14 => bI t14 (
 K (.lit (.bool false)) H3)
 (bO (ashift 1 v0) fun v15 =>
 bO (ald false 1 H3 v15) fun v16 =>
 bO (abI .eql v16 (.lit (.int .i64 0))) fun v17 =>
 bG v17 false fun w18 =>
 gO w18 (ald true 2 H3 v0) fun v19 =>
 bG v17 false fun w20 =>
 gO w20 (ald true 2 H3 v2) fun v21 =>
 bG v17 false fun w22 =>
 gP w22 (BPure Try.prog 108 [v19, v21]) fun v23 =>
 bG v17 false fun w24 =>
 gO w24 (ald true 2 H3 v0) fun v25 =>
 bG v17 false fun w26 =>
 gO w26 (abin Try.prog .eql 125 v23 v25) fun v27 =>
 bO (apick v17 (.lit (.bool true)) v27) fun v28 =>
 K v28 H3)
theorem off_Within_eq (a0 a1 : AV) (H : AH) (K : AV → AH → Prop) : sFun Try.prog off_Within_fl pql none0 none0 off_Within_kp Try.f98 [a0, a1] H K = off_Within a0 a1 H K := by kernel_rfl
theorem off_Within_ok {a0 a1 : AV} {H : AH} {K : AV → AH → Prop} (h : off_Within a0 a1 H K) : ∃ r H', K r H' ∧ BCall Try.prog 98 [a0, a1] H r H' :=
  sFun_ok mixP Try.func98 (by kernel_rfl) (Eq.mpr (off_Within_eq a0 a1 H K) h)
/-! slices.Clone[[]salvor/api.Ext,salvor/api.Ext] -/
def slices_Clone_Lapi_Ext_api_Ext_fl : Floats := flOf []
def slices_Clone_Lapi_Ext_api_Ext_kp : Nat → Option (List Bool) := kpOf []
def slices_Clone_Lapi_Ext_api_Ext_c (p : List Bool) (n : Nat) : List AV → AH → Kf → Prop := sCode Try.prog slices_Clone_Lapi_Ext_api_Ext_fl pql none0 none0 slices_Clone_Lapi_Ext_api_Ext_kp (sub p (bodyOf Try.f68)) n
def slices_Clone_Lapi_Ext_api_Ext (a0 : AV) (H : AH) (K : AV → AH → Prop) : Prop :=
 bO (abN .eql nilS a0 (.lit (.slice none 0 0))) fun v0 =>
 bB v0 fun t1 => bI t1 (
 K (.lit (.slice none 0 0)) H)
 (bH (absl H 9 0 (zrow [(.lit (.int .i64 0)), (.lit (.int .u8 0)), (.lit (.int .u8 0)), (.lit (.int .u8 0)), (.lit (.int .u8 0)), (.lit (.int .u8 0)), (.lit (.int .u8 0)), (.lit (.int .u8 0)), (.lit (.int .u8 0))] 0) []) fun v2 H3 =>
 bH (aap 9 16 H3 v2 a0) fun v4 H5 =>
 K v4 H5)
theorem slices_Clone_Lapi_Ext_api_Ext_eq (a0 : AV) (H : AH) (K : AV → AH → Prop) : sFun Try.prog slices_Clone_Lapi_Ext_api_Ext_fl pql none0 none0 slices_Clone_Lapi_Ext_api_Ext_kp Try.f68 [a0] H K = slices_Clone_Lapi_Ext_api_Ext a0 H K := by kernel_rfl
theorem slices_Clone_Lapi_Ext_api_Ext_ok {a0 : AV} {H : AH} {K : AV → AH → Prop} (h : slices_Clone_Lapi_Ext_api_Ext a0 H K) : ∃ r H', K r H' ∧ BCall Try.prog 68 [a0] H r H' :=
  sFun_ok mixP Try.func68 (by kernel_rfl) (Eq.mpr (slices_Clone_Lapi_Ext_api_Ext_eq a0 H K) h)
/-! salvor/off.MaySpan -/
def off_MaySpan_fl : Floats := flOf []
def off_MaySpan_kp : Nat → Option (List Bool) := kpOf []
def off_MaySpan_c (p : List Bool) (n : Nat) : List AV → AH → Kf → Prop := sCode Try.prog off_MaySpan_fl pql none0 none0 off_MaySpan_kp (sub p (bodyOf Try.f104)) n
def off_MaySpan (a0 : AV) (H : AH) (K : AV → AH → Prop) : Prop :=
 bH (anew H a0) fun v0 H1 =>
 bO (ashift 0 v0) fun v2 =>
 bO (ald false 1 H1 v2) fun v3 =>
 bP (PCall Try.prog 111 [v3] H1) fun v4 =>
 bG v4 true fun w5 =>
 gO w5 (ashift 1 v0) fun v6 =>
 bG v4 true fun w7 =>
 gO w7 (ald false 1 H1 v6) fun v8 =>
 bG v4 true fun w9 =>
 gP w9 (PCall Try.prog 111 [v8] H1) fun v10 =>
 bO (apick v4 v10 (.lit (.bool false))) fun v11 =>
 bG v11 true fun w12 =>
 gO w12 (ashift 1 v0) fun v13 =>
 bG v11 true fun w14 =>
 gO w14 (ald false 1 H1 v13) fun v15 =>
 bG v11 true fun w16 =>
 gO w16 (ashift 0 v0) fun v17 =>
 bG v11 true fun w18 =>
 gO w18 (ald false 1 H1 v17) fun v19 =>
 bG v11 true fun w20 =>
 gO w20 (abI .sub (.lit (.int .i64 4611686018427387904)) v19) fun v21 =>
 bG v11 true fun w22 =>
 gO w22 (abI .leq v15 v21) fun v23 =>
 bO (apick v11 v23 (.lit (.bool false))) fun v24 =>
 K v24 H1
theorem off_MaySpan_eq (a0 : AV) (H : AH) (K : AV → AH → Prop) : sFun Try.prog off_MaySpan_fl pql none0 none0 off_MaySpan_kp Try.f104 [a0] H K = off_MaySpan a0 H K := by kernel_rfl
theorem off_MaySpan_ok {a0 : AV} {H : AH} {K : AV → AH → Prop} (h : off_MaySpan a0 H K) : ∃ r H', K r H' ∧ BCall Try.prog 104 [a0] H r H' :=
  sFun_ok mixP Try.func104 (by kernel_rfl) (Eq.mpr (off_MaySpan_eq a0 H K) h)
/-! slices.Insert[[]salvor/api.Ext,salvor/api.Ext] -/
def slices_Insert_Lapi_Ext_api_Ext_fl : Floats := flOf []
def slices_Insert_Lapi_Ext_api_Ext_kp : Nat → Option (List Bool) := kpOf []
def slices_Insert_Lapi_Ext_api_Ext_un : Nat → Bool := inL []
def slices_Insert_Lapi_Ext_api_Ext_c (p : List Bool) (n : Nat) : List AV → AH → Kf → Prop := sCode Try.prog slices_Insert_Lapi_Ext_api_Ext_fl pql pqla slices_Insert_Lapi_Ext_api_Ext_un slices_Insert_Lapi_Ext_api_Ext_kp (sub p (bodyOf Try.f106)) n
def slices_Insert_Lapi_Ext_api_Ext (a0 a1 a2 : AV) (H : AH) (K : AV → AH → Prop) : Prop :=
 bO (aslS 9 a0 (some a1) none none) fun v0 =>
 bO (alnS a2) fun v1 =>
 bO (abI .eql v1 (.lit (.int .i64 0))) fun v2 =>
 bB v2 fun t3 => bI t3 (
 K a0 H)
 (bO (alnS a0) fun v4 =>
 bO (abI .eql a1 v4) fun v5 =>
 bB v5 fun t6 => bI t6 (
 bH (aap 9 16 H a0 a2) fun v7 H8 =>
 K v7 H8)
 (bO (abI .add v4 v1) fun v9 =>
 bO (acpS a0) fun v10 =>
 bO (abI .gtr v9 v10) fun v11 =>
 bB v11 fun t12 => bI t12 (
 bO (aslS 9 a0 none (some a1) none) fun v13 =>
 bO (abI .add v4 v1) fun v14 =>
 bO (abI .sub v14 a1) fun v15 =>
 bH (aappZ1 H 9 16 [(.lit (.int .i64 0)), (.lit (.int .u8 0)), (.lit (.int .u8 0)), (.lit (.int .u8 0)), (.lit (.int .u8 0)), (.lit (.int .u8 0)), (.lit (.int .u8 0)), (.lit (.int .u8 0)), (.lit (.int .u8 0))] v13 v15) fun v16 H17 =>
 bO (aslS 9 v16 (some a1) none none) fun v18 =>
 bH (acp 9 H17 v18 a2) fun v19 H20 =>
 bO (abI .add a1 v1) fun v21 =>
 bO (aslS 9 v16 (some v21) none none) fun v22 =>
 bO (aslS 9 a0 (some a1) none none) fun v23 =>
 bH (acp 9 H20 v22 v23) fun v24 H25 =>
 K v16 H25)
 (bO (abI .add v4 v1) fun v26 =>
 bO (aslS 9 a0 none (some v26) none) fun v27 =>
 bO (abI .add a1 v1) fun v28 =>
 bO (aslS 9 v27 (some v28) none none) fun v29 =>
 bP (ExtR Try.prog 114 [a2, v29] H) fun v30 =>
 bO (aun .not v30) fun v31 =>
 bB v31 fun t32 => bI t32 (
 bO (abI .add a1 v1) fun v33 =>
 bO (aslS 9 v27 (some v33) none none) fun v34 =>
 bO (aslS 9 v27 (some a1) none none) fun v35 =>
 bH (acp 9 H v34 v35) fun v36 H37 =>
 bO (aslS 9 v27 (some a1) none none) fun v38 =>
 bH (acp 9 H37 v38 a2) fun v39 H40 =>
 K v27 H40)
 (bO (aslS 9 v27 (some v4) none none) fun v41 =>
 bH (acp 9 H v41 a2) fun v42 H43 =>
 bO (aslS 9 v27 (some a1) none none) fun v44 =>
 bC (BCall Try.prog 115 [v44, v1] H43) fun v45 H46 =>
 K v27 H46))))
theorem slices_Insert_Lapi_Ext_api_Ext_eq (a0 a1 a2 : AV) (H : AH) (K : AV → AH → Prop) : sFun Try.prog slices_Insert_Lapi_Ext_api_Ext_fl pql pqla slices_Insert_Lapi_Ext_api_Ext_un slices_Insert_Lapi_Ext_api_Ext_kp Try.f106 [a0, a1, a2] H K = slices_Insert_Lapi_Ext_api_Ext a0 a1 a2 H K := by kernel_rfl
theorem slices_Insert_Lapi_Ext_api_Ext_ok {a0 a1 a2 : AV} {H : AH} {K : AV → AH → Prop} (h : slices_Insert_Lapi_Ext_api_Ext a0 a1 a2 H K) : ACalls Try.prog 106 [a0, a1, a2] H K :=
  sFun_wp mixP Try.func106 (by kernel_rfl) (Eq.mpr (slices_Insert_Lapi_Ext_api_Ext_eq a0 a1 a2 H K) h)
/-! slices.BinarySearchFunc[[]salvor/api.Ext,salvor/api.Ext,int] -/
def slices_BinarySearchFunc_Lapi_Ext_api_Ext_int_fl : Floats := flOf []
def slices_BinarySearchFunc_Lapi_Ext_api_Ext_int_kp : Nat → Option (List Bool) := kpOf [(4, mk 49 0 [0, 1, 2, 8, 9, 10])]
def slices_BinarySearchFunc_Lapi_Ext_api_Ext_int_c (p : List Bool) (n : Nat) : List AV → AH → Kf → Prop := sCode Try.prog slices_BinarySearchFunc_Lapi_Ext_api_Ext_int_fl pql none0 none0 slices_BinarySearchFunc_Lapi_Ext_api_Ext_int_kp (sub p (bodyOf Try.f112)) n
def slices_BinarySearchFunc_Lapi_Ext_api_Ext_int_L4 (x0 x1 x2 x8 x9 x10 : AV) (H : AH) (K : AV → AH → Prop) : Prop := lp (mk 49 0 [0, 1, 2, 8, 9, 10]) (slices_BinarySearchFunc_Lapi_Ext_api_Ext_int_c [true, true, true, false, false, false] 5) [x0, x1, x2, x8, x9, x10] H (kBlk 0 (kSeq (slices_BinarySearchFunc_Lapi_Ext_api_Ext_int_c [true, true, true, true] 9) (kRet Try.prog Try.f112.results.toList K)))
def slices_BinarySearchFunc_Lapi_Ext_api_Ext_int_L4_b (R4 : List AV → AH → Prop) (x0 x1 x2 x8 x9 x10 : AV) (H : AH) (K : AV → AH → Prop) : Prop :=
 bO (abI .lss x9 x10) fun v0 =>
 bB v0 fun t1 => bI t1 (
 bO (abI .add x9 x10) fun v2 =>
 bO (acI .u64 v2) fun v3 =>
 bO (abI .shr v3 (.lit (.int .u64 1))) fun v4 =>
 bO (acI .i64 v4) fun v5 =>
 bO (aixS 9 x0 v5) fun v6 =>
 bO (ald true 9 H v6) fun v7 =>
 bF true x2 fun k10 f10 c10 =>
 bT (goFunc Try.prog k10 || !true) <|
 bC (BCall Try.prog k10 (f10 ++ [v7, x1] ++ c10) H) fun v8 H9 =>
 bO (abI .lss v8 (.lit (.int .i64 0))) fun v11 =>
 bB v11 fun t12 => bI t12 (
 bO (abI .add v5 (.lit (.int .i64 1))) fun v13 =>
 R4 [x0, x1, x2, x8, v13, x10] H9)
 (R4 [x0, x1, x2, x8, x9, v5] H9))
 (bO (abI .lss x9 x8) fun v14 =>
 bG v14 true fun w15 =>
 gO w15 (some x2) fun v16 =>
 bG v14 true fun w17 =>
 gO w17 (some x0) fun v18 =>
 bG v14 true fun w19 =>
 gO w19 (some x9) fun v20 =>
 bG v14 true fun w21 =>
 gO w21 (aixS 9 v18 v20) fun v22 =>
 bG v14 true fun w23 =>
 gO w23 (ald true 9 H v22) fun v24 =>
 bG v14 true fun w25 =>
 gO w25 (some x1) fun v26 =>
 bG v14 true fun w27 =>
 bF w27 v16 fun k30 f30 c30 =>
 bT (goFunc Try.prog k30 || !w27) <|
 gC w27 (BCall Try.prog k30 (f30 ++ [v24, v26] ++ c30) H) H fun v28 H29 =>
 bG v14 true fun w31 =>
 gO w31 (abI .eql v28 (.lit (.int .i64 0))) fun v32 =>
 bO (apick v14 v32 (.lit (.bool false))) fun v33 =>
 K (.tup [x9, v33]) H29)
theorem slices_BinarySearchFunc_Lapi_Ext_api_Ext_int_L4_eq (R4 : List AV → AH → Prop) (x0 x1 x2 x8 x9 x10 : AV) (H : AH) (K : AV → AH → Prop) : slices_BinarySearchFunc_Lapi_Ext_api_Ext_int_c [true, true, true, false, false, false] 5 (expand (mk 49 0 [0, 1, 2, 8, 9, 10]) [x0, x1, x2, x8, x9, x10]) H (kLp (mk 49 0 [0, 1, 2, 8, 9, 10]) R4 (kBlk 0 (kSeq (slices_BinarySearchFunc_Lapi_Ext_api_Ext_int_c [true, true, true, true] 9) (kRet Try.prog Try.f112.results.toList K)))) = slices_BinarySearchFunc_Lapi_Ext_api_Ext_int_L4_b R4 x0 x1 x2 x8 x9 x10 H K := by kernel_rfl
theorem slices_BinarySearchFunc_Lapi_Ext_api_Ext_int_L4_rule {K : AV → AH → Prop} (I : Nat → AV → AV → AV → AV → AV → AV → AH → Prop) (round : ∀ (n : Nat) (x0 x1 x2 x8 x9 x10 : AV) (H : AH) (R : List AV → AH → Prop), (∀ (m : Nat) (y0 y1 y2 y8 y9 y10 : AV) (H' : AH), m < n → I m y0 y1 y2 y8 y9 y10 H' → R [y0, y1, y2, y8, y9, y10] H') → I n x0 x1 x2 x8 x9 x10 H → slices_BinarySearchFunc_Lapi_Ext_api_Ext_int_L4_b R x0 x1 x2 x8 x9 x10 H K) (n : Nat) {x0 x1 x2 x8 x9 x10 : AV} {H : AH} (h : I n x0 x1 x2 x8 x9 x10 H) : slices_BinarySearchFunc_Lapi_Ext_api_Ext_int_L4 x0 x1 x2 x8 x9 x10 H K := by
  refine lp_upto (sCode_one _ _) (LI6 I) ?_ n h
  intro n X H h
  obtain ⟨x0, x1, x2, x8, x9, x10, rfl, h⟩ := h.elim
  exact Eq.mpr (slices_BinarySearchFunc_Lapi_Ext_api_Ext_int_L4_eq _ x0 x1 x2 x8 x9 x10 H K) (round n x0 x1 x2 x8 x9 x10 H (fun X H' => ∃ m, m < n ∧ LI6 I m X H') (fun m y0 y1 y2 y8 y9 y10 H' hm hi => ⟨m, hm, hi⟩) h)
def slices_BinarySearchFunc_Lapi_Ext_api_Ext_int (a0 a1 a2 : AV) (H : AH) (K : AV → AH → Prop) : Prop :=
 bO (alnS a0) fun v0 =>
 slices_BinarySearchFunc_Lapi_Ext_api_Ext_int_L4 a0 a1 a2 v0 (.lit (.int .i64 0)) v0 H K
theorem slices_BinarySearchFunc_Lapi_Ext_api_Ext_int_eq (a0 a1 a2 : AV) (H : AH) (K : AV → AH → Prop) : sFun Try.prog slices_BinarySearchFunc_Lapi_Ext_api_Ext_int_fl pql none0 none0 slices_BinarySearchFunc_Lapi_Ext_api_Ext_int_kp Try.f112 [a0, a1, a2] H K = slices_BinarySearchFunc_Lapi_Ext_api_Ext_int a0 a1 a2 H K := by kernel_rfl
theorem slices_BinarySearchFunc_Lapi_Ext_api_Ext_int_ok {a0 a1 a2 : AV} {H : AH} {K : AV → AH → Prop} (h : slices_BinarySearchFunc_Lapi_Ext_api_Ext_int a0 a1 a2 H K) : ∃ r H', K r H' ∧ BCall Try.prog 112 [a0, a1, a2] H r H' :=
  sFun_ok mixP Try.func112 (by kernel_rfl) (Eq.mpr (slices_BinarySearchFunc_Lapi_Ext_api_Ext_int_eq a0 a1 a2 H K) h)
/-! salvor/extent.place$1 -/
def extent_place_1_fl : Floats := flOf []
def extent_place_1_kp : Nat → Option (List Bool) := kpOf []
def extent_place_1_c (p : List Bool) (n : Nat) : List AV → AH → Kf → Prop := sCode Try.prog extent_place_1_fl pql none0 none0 extent_place_1_kp (sub p (bodyOf Try.f113)) n
def extent_place_1 (a0 a1 : AV) (H : AH) (K : AV → AH → Prop) : Prop :=
 bH (anew H a0) fun v0 H1 =>
 bO (ashift 0 v0) fun v2 =>
 bO (ald false 1 H1 v2) fun v3 =>
 bP (PCall Try.prog 67 [v3, a1] H1) fun v4 =>
 K v4 H1
theorem extent_place_1_eq (a0 a1 : AV) (H : AH) (K : AV → AH → Prop) : sFun Try.prog extent_place_1_fl pql none0 none0 extent_place_1_kp Try.f113 [a0, a1] H K = extent_place_1 a0 a1 H K := by kernel_rfl
theorem extent_place_1_ok {a0 a1 : AV} {H : AH} {K : AV → AH → Prop} (h : extent_place_1 a0 a1 H K) : ∃ r H', K r H' ∧ BCall Try.prog 113 [a0, a1] H r H' :=
  sFun_ok mixP Try.func113 (by kernel_rfl) (Eq.mpr (extent_place_1_eq a0 a1 H K) h)
/-! cmp.Compare[int] -/
def cmp_Compare_int_fl : Floats := flOf []
def cmp_Compare_int_kp : Nat → Option (List Bool) := kpOf []
def cmp_Compare_int_c (p : List Bool) (n : Nat) : List AV → AH → Kf → Prop := sCode Try.prog cmp_Compare_int_fl pql none0 none0 cmp_Compare_int_kp (sub p (bodyOf Try.f67)) n
def cmp_Compare_int (a0 a1 : AV) (H : AH) (K : AV → AH → Prop) : Prop :=
 bP (PCall Try.prog 84 [a0] H) fun v0 =>
 bP (PCall Try.prog 84 [a1] H) fun v1 =>
 bB v0 fun t2 => bI t2 (
 bB v1 fun t3 => bI t3 (
 K (.lit (.int .i64 0)) H)
 (K (.lit (.int .i64 (-1))) H))
 (bB v1 fun t4 => bI t4 (
 K (.lit (.int .i64 1)) H)
 (bO (abI .lss a0 a1) fun v5 =>
 bB v5 fun t6 => bI t6 (
 K (.lit (.int .i64 (-1))) H)
 (bO (abI .gtr a0 a1) fun v7 =>
 bB v7 fun t8 => bI t8 (
 K (.lit (.int .i64 1)) H)
 (K (.lit (.int .i64 0)) H))))
theorem cmp_Compare_int_eq (a0 a1 : AV) (H : AH) (K : AV → AH → Prop) : sFun Try.prog cmp_Compare_int_fl pql none0 none0 cmp_Compare_int_kp Try.f67 [a0, a1] H K = cmp_Compare_int a0 a1 H K := by kernel_rfl
theorem cmp_Compare_int_ok {a0 a1 : AV} {H : AH} {K : AV → AH → Prop} (h : cmp_Compare_int a0 a1 H K) : ∃ r H', K r H' ∧ BCall Try.prog 67 [a0, a1] H r H' :=
  sFun_ok mixP Try.func67 (by kernel_rfl) (Eq.mpr (cmp_Compare_int_eq a0 a1 H K) h)
/-! slices.IndexFunc[[]salvor/api.Ext,salvor/api.Ext] -/
def slices_IndexFunc_Lapi_Ext_api_Ext_fl : Floats := flOf []
def slices_IndexFunc_Lapi_Ext_api_Ext_kp : Nat → Option (List Bool) := kpOf [(3, mk 19 0 [0, 1, 7, 8])]
def slices_IndexFunc_Lapi_Ext_api_Ext_c (p : List Bool) (n : Nat) : List AV → AH → Kf → Prop := sCode Try.prog slices_IndexFunc_Lapi_Ext_api_Ext_fl pql none0 none0 slices_IndexFunc_Lapi_Ext_api_Ext_kp (sub p (bodyOf Try.f107)) n
def slices_IndexFunc_Lapi_Ext_api_Ext_L3 (x0 x1 x7 x8 : AV) (H : AH) (K : AV → AH → Prop) : Prop := lp (mk 19 0 [0, 1, 7, 8]) (slices_IndexFunc_Lapi_Ext_api_Ext_c [true, false, true, false, false] 4) [x0, x1, x7, x8] H (kBlk 0 (kSeq (slices_IndexFunc_Lapi_Ext_api_Ext_c [true, true] 10) (kRet Try.prog Try.f107.results.toList K)))
def slices_IndexFunc_Lapi_Ext_api_Ext_L3_b (R3 : List AV → AH → Prop) (x0 x1 x7 x8 : AV) (H : AH) (K : AV → AH → Prop) : Prop :=
 bO (abI .lss x8 x7) fun v0 =>
 bB v0 fun t1 => bI t1 (
 bO (aixS 9 x0 x8) fun v2 =>
 bO (ald true 9 H v2) fun v3 =>
 bF true x1 fun k6 f6 c6 =>
 bT (goFunc Try.prog k6 || !true) <|
 bC (BCall Try.prog k6 (f6 ++ [v3] ++ c6) H) fun v4 H5 =>
 bB v4 fun t7 => bI t7 (
 K x8 H5)
 (bO (abI .add x8 (.lit (.int .i64 1))) fun v8 =>
 R3 [x0, x1, x7, v8] H5))
 (K (.lit (.int .i64 (-1))) H)
theorem slices_IndexFunc_Lapi_Ext_api_Ext_L3_eq (R3 : List AV → AH → Prop) (x0 x1 x7 x8 : AV) (H : AH) (K : AV → AH → Prop) : slices_IndexFunc_Lapi_Ext_api_Ext_c [true, false, true, false, false] 4 (expand (mk 19 0 [0, 1, 7, 8]) [x0, x1, x7, x8]) H (kLp (mk 19 0 [0, 1, 7, 8]) R3 (kBlk 0 (kSeq (slices_IndexFunc_Lapi_Ext_api_Ext_c [true, true] 10) (kRet Try.prog Try.f107.results.toList K)))) = slices_IndexFunc_Lapi_Ext_api_Ext_L3_b R3 x0 x1 x7 x8 H K := by kernel_rfl
theorem slices_IndexFunc_Lapi_Ext_api_Ext_L3_rule {K : AV → AH → Prop} (I : Nat → AV → AV → AV → AV → AH → Prop) (round : ∀ (n : Nat) (x0 x1 x7 x8 : AV) (H : AH) (R : List AV → AH → Prop), (∀ (m : Nat) (y0 y1 y7 y8 : AV) (H' : AH), m < n → I m y0 y1 y7 y8 H' → R [y0, y1, y7, y8] H') → I n x0 x1 x7 x8 H → slices_IndexFunc_Lapi_Ext_api_Ext_L3_b R x0 x1 x7 x8 H K) (n : Nat) {x0 x1 x7 x8 : AV} {H : AH} (h : I n x0 x1 x7 x8 H) : slices_IndexFunc_Lapi_Ext_api_Ext_L3 x0 x1 x7 x8 H K := by
  refine lp_upto (sCode_one _ _) (LI4 I) ?_ n h
  intro n X H h
  obtain ⟨x0, x1, x7, x8, rfl, h⟩ := h.elim
  exact Eq.mpr (slices_IndexFunc_Lapi_Ext_api_Ext_L3_eq _ x0 x1 x7 x8 H K) (round n x0 x1 x7 x8 H (fun X H' => ∃ m, m < n ∧ LI4 I m X H') (fun m y0 y1 y7 y8 H' hm hi => ⟨m, hm, hi⟩) h)
def slices_IndexFunc_Lapi_Ext_api_Ext (a0 a1 : AV) (H : AH) (K : AV → AH → Prop) : Prop :=
 bO (alnS a0) fun v0 =>
 slices_IndexFunc_Lapi_Ext_api_Ext_L3 a0 a1 v0 (.lit (.int .i64 0)) H K
theorem slices_IndexFunc_Lapi_Ext_api_Ext_eq (a0 a1 : AV) (H : AH) (K : AV → AH → Prop) : sFun Try.prog slices_IndexFunc_Lapi_Ext_api_Ext_fl pql none0 none0 slices_IndexFunc_Lapi_Ext_api_Ext_kp Try.f107 [a0, a1] H K = slices_IndexFunc_Lapi_Ext_api_Ext a0 a1 H K := by kernel_rfl
theorem slices_IndexFunc_Lapi_Ext_api_Ext_ok {a0 a1 : AV} {H : AH} {K : AV → AH → Prop} (h : slices_IndexFunc_Lapi_Ext_api_Ext a0 a1 H K) : ∃ r H', K r H' ∧ BCall Try.prog 107 [a0, a1] H r H' :=
  sFun_ok mixP Try.func107 (by kernel_rfl) (Eq.mpr (slices_IndexFunc_Lapi_Ext_api_Ext_eq a0 a1 H K) h)
/-! salvor/off.May -/
def off_May_fl : Floats := flOf []
def off_May_kp : Nat → Option (List Bool) := kpOf []
def off_May_c (p : List Bool) (n : Nat) : List AV → AH → Kf → Prop := sCode Try.prog off_May_fl pql none0 none0 off_May_kp (sub p (bodyOf Try.f111)) n
def off_May (a0 : AV) (H : AH) (K : AV → AH → Prop) : Prop :=
 bO (abI .geq a0 (.lit (.int .i64 0))) fun v0 =>
 bG v0 true fun w1 =>
 gO w1 (some a0) fun v2 =>
 bG v0 true fun w3 =>
 gO w3 (abI .leq v2 (.lit (.int .i64 4611686018427387904))) fun v4 =>
 bO (apick v0 v4 (.lit (.bool false))) fun v5 =>
 K v5 H
theorem off_May_eq (a0 : AV) (H : AH) (K : AV → AH → Prop) : sFun Try.prog off_May_fl pql none0 none0 off_May_kp Try.f111 [a0] H K = off_May a0 H K := by kernel_rfl
theorem off_May_ok {a0 : AV} {H : AH} {K : AV → AH → Prop} (h : off_May a0 H K) : ∃ r H', K r H' ∧ BCall Try.prog 111 [a0] H r H' :=
  sFun_ok mixP Try.func111 (by kernel_rfl) (Eq.mpr (off_May_eq a0 H K) h)
/-! cmp.isNaN[int] -/
def cmp_isNaN_int_fl : Floats := flOf []
def cmp_isNaN_int_kp : Nat → Option (List Bool) := kpOf []
def cmp_isNaN_int_c (p : List Bool) (n : Nat) : List AV → AH → Kf → Prop := sCode Try.prog cmp_isNaN_int_fl pql none0 none0 cmp_isNaN_int_kp (sub p (bodyOf Try.f84)) n
def cmp_isNaN_int (a0 : AV) (H : AH) (K : AV → AH → Prop) : Prop :=
 bO (abI .neq a0 a0) fun v0 =>
 K v0 H
theorem cmp_isNaN_int_eq (a0 : AV) (H : AH) (K : AV → AH → Prop) : sFun Try.prog cmp_isNaN_int_fl pql none0 none0 cmp_isNaN_int_kp Try.f84 [a0] H K = cmp_isNaN_int a0 H K := by kernel_rfl
theorem cmp_isNaN_int_ok {a0 : AV} {H : AH} {K : AV → AH → Prop} (h : cmp_isNaN_int a0 H K) : ∃ r H', K r H' ∧ BCall Try.prog 84 [a0] H r H' :=
  sFun_ok mixP Try.func84 (by kernel_rfl) (Eq.mpr (cmp_isNaN_int_eq a0 H K) h)
end Go.Proofs.Ytpnfdibgfichmaa.Av
end
/-! YtpnfdibgfichmaaAvOff -/
section
/- Chapter 1's functions, told: the program's and the reference's. -/
set_option linter.unusedVariables false
set_option linter.unusedSimpArgs false
namespace Go.Proofs.Ytpnfdibgfichmaa.Av
open Go Go.RowKit

def May (n : Int) : Prop := 0 ≤ n ∧ n ≤ 4611686018427387904
instance (n : Int) : Decidable (May n) := by unfold May; infer_instance
def encI (n : Int) : List AV := [I n]
theorem encI_len (n : Int) : (encI n).length = 1 := rfl
/-- A number, or none. -/
def oI : Option Int → AV
  | some n => .tup [I n, B true]
  | none => .tup [I 0, B false]
def addS (l : List Int) : Option Int := if (∀ n ∈ l, May n) ∧ l.sum ≤ 4611686018427387904 then some l.sum else none

theorem off_May_p (n : Int) : BPure Try.prog 111 [I n] (B (decide (May n))) := BPure.flat fun H => off_May_ok (by
  unfold off_May
  by_cases h1 : 0 ≤ n <;> by_cases h2 : n ≤ 4611686018427387904 <;> simp [May, h1, h2])

/-! spans -/
structure Sp where
  pos : Int
  len : Int
  deriving DecidableEq, Inhabited
def encSp (s : Sp) : List AV := [I s.pos, I s.len]
theorem encSp_len (s : Sp) : (encSp s).length = 2 := rfl
def MaySpan (s : Sp) : Prop := May s.pos ∧ May s.len ∧ s.len ≤ 4611686018427387904 - s.pos
instance (s : Sp) : Decidable (MaySpan s) := by unfold MaySpan; infer_instance
theorem off_MaySpan_p (s : Sp) : BPure Try.prog 104 [.agg (encSp s)] (B (decide (MaySpan s))) := BPure.val rfl rfl (off_MaySpan_ok (by
  unfold off_MaySpan
  obtain ⟨p, n⟩ := s
  simp [encSp, ald_ptr']
  refine bP_pure (off_May_p _) ?_
  by_cases h1 : May p
  · have h1' := h1
    unfold May at h1'
    simp [h1]
    refine bP_pure (off_May_p _) ?_
    by_cases h2 : May n
    · simp [h2, abI_sub (a := 4611686018427387904) (b := p) (by omega) (by omega), MaySpan, h1]
    · simp [h2, MaySpan]
  · simp [h1, MaySpan]))
def meet (a b : Sp) : Sp :=
  if MaySpan a ∧ MaySpan b ∧ max a.pos b.pos < min (a.pos + a.len) (b.pos + b.len) then ⟨max a.pos b.pos, min (a.pos + a.len) (b.pos + b.len) - max a.pos b.pos⟩ else ⟨0, 0⟩
theorem off_Meet_p (a b : Sp) : BPure Try.prog 108 [.agg (encSp a), .agg (encSp b)] (.agg (encSp (meet a b))) := BPure.val rfl rfl (off_Meet_ok (by
  unfold off_Meet
  simp [encSp, ald_ptr', rdCells]
  refine bP_pure (off_MaySpan_p a) ?_
  by_cases h1 : MaySpan a
  · simp [h1]
    refine bP_pure (off_MaySpan_p b) ?_
    by_cases h2 : MaySpan b
    · have h1' := h1
      have h2' := h2
      simp only [MaySpan, May] at h1' h2'
      obtain ⟨p, n⟩ := a
      obtain ⟨q, m⟩ := b
      simp only at h1' h2'
      simp [h2, abI_add (a := p) (b := n) (by omega) (by omega), abI_add (a := q) (b := m) (by omega) (by omega)]
      by_cases h3 : max p q < min (p + n) (q + m)
      · have h3' : ¬ min (q + m) (p + n) ≤ max q p := by omega
        simp [h3', abI_sub (a := min (q + m) (p + n)) (b := max q p) (by omega) (by omega), ast, meet, h1, h2, h3]
        omega
      · have h3' : min (q + m) (p + n) ≤ max q p := by omega
        simp [h3', ast, meet, h3]
    · simp [h2, ast, meet]
  · simp [h1, ast, meet]))
theorem eqSp_a (a b c d : Int) : abin Try.prog .eql 125 (.agg [I a, I b]) (.agg [I c, I d]) = some (B (a == c && (b == d && true))) := by kernel_rfl
theorem neSp_a (a b c d : Int) : abin Try.prog .neq 125 (.agg [I a, I b]) (.agg [I c, I d]) = some (B !(a == c && (b == d && true))) := by kernel_rfl
theorem sp_beq (x y : Sp) : (x.pos == y.pos && (x.len == y.len && true)) = decide (x = y) := by
  obtain ⟨a, b⟩ := x
  obtain ⟨c, d⟩ := y
  by_cases h1 : a = c <;> by_cases h2 : b = d <;> simp [h1, h2]
theorem eqSp (x y : Sp) : abin Try.prog .eql 125 (.agg (encSp x)) (.agg (encSp y)) = some (B (decide (x = y))) := by rw [← sp_beq]; exact eqSp_a _ _ _ _
theorem neSp (x y : Sp) : abin Try.prog .neq 125 (.agg (encSp x)) (.agg (encSp y)) = some (B (decide (x ≠ y))) := by
  rw [decide_not, ← sp_beq]; exact neSp_a _ _ _ _
def Within (a b : Sp) : Prop := MaySpan a ∧ MaySpan b ∧ (a.len = 0 ∨ meet a b = a)
instance (a b : Sp) : Decidable (Within a b) := by unfold Within; infer_instance
theorem off_Within_p (a b : Sp) : BPure Try.prog 98 [.agg (encSp a), .agg (encSp b)] (B (decide (Within a b))) := BPure.val rfl rfl (off_Within_ok (by
  unfold off_Within
  simp [encSp, ald_ptr', rdCells]
  refine bP_pure (off_MaySpan_p a) ?_
  by_cases h1 : MaySpan a
  · simp [h1]
    refine bP_pure (off_MaySpan_p b) ?_
    by_cases h2 : MaySpan b
    · by_cases h3 : a.len = 0
      · simp [h2, h3, Within, h1]
      · simp [h2, h3, Within, h1]
        refine bP_of (off_Meet_p a b) ?_
        have := eqSp (meet a b) a
        simp only [encSp] at this ⊢
        simp [this]
    · simp [h2, Within]
  · simp [h1, Within]))

/-! lists of numbers -/
theorem sum_take {l : List Int} (h : ∀ n ∈ l, May n) (k : Nat) : 0 ≤ (l.take k).sum ∧ (l.take k).sum ≤ l.sum := by
  induction l generalizing k with
  | nil => simp
  | cons a l ih =>
    have ha := h a (by simp)
    have := ih (fun n hn => h n (by simp [hn]))
    cases k with
    | zero => have := this l.length; simp at this ⊢; unfold May at ha; omega
    | succ k => have := this k; simp; unfold May at ha; omega
theorem take_succ_sum {l : List Int} {k : Nat} {x : Int} (h : l[k]? = some x) : (l.take (k + 1)).sum = (l.take k).sum + x := by
  rw [List.take_add_one, h]; simp
def mulS (l : List Int) : Option Int := if ∀ n ∈ l, May n then if 0 ∈ l then some 0 else if l.prod ≤ 4611686018427387904 then some l.prod else none else none
theorem prod_take {l : List Int} (h : ∀ n ∈ l, May n) (h0 : 0 ∉ l) (k : Nat) : 1 ≤ (l.take k).prod ∧ (l.take k).prod ≤ l.prod := by
  induction l generalizing k with
  | nil => simp
  | cons a l ih =>
    have ha := h a (by simp)
    have ha0 : a ≠ 0 := fun hh => h0 (by simp [hh])
    unfold May at ha
    have this := ih (fun n hn => h n (by simp [hn])) (fun hh => h0 (by simp [hh]))
    have h1 := this l.length
    simp at h1
    cases k with
    | zero =>
      simp
      have : (1 : Int) * 1 ≤ a * l.prod := Int.mul_le_mul (by omega) h1 (by omega) (by omega)
      omega
    | succ k =>
      have h2 := this k
      simp
      constructor
      · have : (1 : Int) * 1 ≤ a * (l.take k).prod := Int.mul_le_mul (by omega) h2.1 (by omega) (by omega)
        omega
      · exact Int.mul_le_mul_of_nonneg_left h2.2 (by omega)
theorem take_succ_prod {l : List Int} {k : Nat} {x : Int} (h : l[k]? = some x) : (l.take (k + 1)).prod = (l.take k).prod * x := by
  rw [List.take_add_one, h]; simp [List.prod_append]
theorem le_div {m p y : Int} (hp : 1 ≤ p) : y ≤ m / p ↔ p * y ≤ m := by
  rw [Int.le_ediv_iff_mul_le (by omega), Int.mul_comm]

/-! cut at multiples -/
def cutsS : Nat → Int → Int → Int → List Sp
  | 0, _, _, _ => []
  | f + 1, pos, len, unit => if 0 < len then ⟨pos, min len (unit - pos % unit)⟩ :: cutsS f (pos + min len (unit - pos % unit)) (len - min len (unit - pos % unit)) unit else []
def partsS (s : Sp) (unit : Int) : List Sp := if MaySpan s ∧ s.len ≤ 4096 ∧ 1 ≤ unit then cutsS s.len.toNat s.pos s.len unit else []
theorem cutsS_step {f : Nat} {pos len unit : Int} (hf : len.toNat ≤ f) (hl : 0 < len) (hp : 0 ≤ pos) (hu : 1 ≤ unit) : cutsS f pos len unit = ⟨pos, min len (unit - pos % unit)⟩ :: cutsS (len - min len (unit - pos % unit)).toNat (pos + min len (unit - pos % unit)) (len - min len (unit - pos % unit)) unit := by
  induction f using Nat.strongRecOn generalizing pos len with
  | _ f ih =>
    have h1 := Int.emod_lt_of_pos pos (show 0 < unit by omega)
    have h2 := Int.emod_nonneg pos (show unit ≠ 0 by omega)
    cases f with
    | zero => omega
    | succ f =>
      simp only [cutsS, hl, if_true]
      congr 1
      have hm : 1 ≤ min len (unit - pos % unit) := by omega
      generalize min len (unit - pos % unit) = m at *
      have more : ∀ (a b : Nat) (p n : Int), n.toNat ≤ a → n.toNat ≤ b → 0 ≤ p → cutsS a p n unit = cutsS b p n unit := by
        intro a
        induction a with
        | zero =>
          intro b p n ha hb hp
          cases b with
          | zero => rfl
          | succ b => simp only [cutsS]; rw [if_neg (by omega)]
        | succ a iha =>
          intro b p n ha hb hp
          have h1 := Int.emod_lt_of_pos p (show 0 < unit by omega)
          have h2 := Int.emod_nonneg p (show unit ≠ 0 by omega)
          cases b with
          | zero => simp only [cutsS]; rw [if_neg (by omega)]
          | succ b =>
            simp only [cutsS]
            split
            · rw [iha b _ _ (by omega) (by omega) (by omega)]
            · rfl
      exact more _ _ _ _ (by omega) (by omega) (by omega)
theorem cutsS_stop {f : Nat} {pos len unit : Int} (hl : ¬ 0 < len) : cutsS f pos len unit = [] := by
  cases f with
  | zero => rfl
  | succ f => simp only [cutsS, if_neg hl]
theorem noIdss_sp (l : List Sp) : noIdss (l.flatMap encSp) = true := by
  induction l with
  | nil => rfl
  | cons a l ih => rw [List.flatMap_cons]; simp [encSp, noIdss, noIds]; simpa [encSp] using ih
theorem off_Parts_p (s : Sp) {unit : Int} (hu : unit ≤ 9223372036854775807) : ∃ v, SV encSp 2 (partsS s unit) v ∧ BPure Try.prog 91 [.agg (encSp s), I unit] v := by
  refine BPure.sl (sz := 2) rfl (noIdss_sp _) (off_Parts_ok ?_)
  unfold off_Parts
  obtain ⟨p, n⟩ := s
  simp [encSp, rdCells]
  refine bP_pure (off_MaySpan_p ⟨p, n⟩) ?_
  by_cases h1 : MaySpan ⟨p, n⟩
  · simp [h1]
    by_cases h2 : 4096 < n
    · have : partsS ⟨p, n⟩ unit = [] := if_neg (by simp only; omega)
      simp [h2, this, sliceCells]
    · simp [h2]
      by_cases h3 : unit < 1
      · have : partsS ⟨p, n⟩ unit = [] := if_neg (by omega)
        simp [h3, this, sliceCells]
      · simp [h3]
        have hP : partsS ⟨p, n⟩ unit = cutsS n.toNat p n unit := if_pos ⟨h1, by simp only; omega, by omega⟩
        simp only [MaySpan, May] at h1
        refine off_Parts_L6_rule (fun k x1 x2 x5 H => ∃ (pos len : Int) (l : List Sp), k = len.toNat ∧ x1 = I unit ∧ x2 = .ptr 0 0 ∧ H[0]? = some (some (.cells [I pos, I len])) ∧ ownedS x5 = true ∧ sliceCells H 2 x5 = some (l.flatMap encSp, l.length) ∧ 0 ∉ idS x5 ∧
          0 ≤ pos ∧ 0 ≤ len ∧ pos + len ≤ 4611686018427387904 ∧ (l.length : Int) + len ≤ 4096 ∧ l ++ cutsS len.toNat pos len unit = cutsS n.toNat p n unit) ?_ n.toNat
          ⟨p, n, [], rfl, rfl, rfl, rfl, rfl, rfl, by simp [idS], by omega, by omega, by omega, by simp; omega, rfl⟩
        rintro k x1 x2 x5 H R hR ⟨pos, len, l, rfl, rfl, rfl, hH, ho, hs, hid, hp, hl, hpl, hll, hc⟩
        unfold off_Parts_L6_b
        have e1 := Int.emod_lt_of_pos pos (show 0 < unit by omega)
        have e2 := Int.emod_nonneg pos (show unit ≠ 0 by omega)
        by_cases hlen : 0 < len
        · rw [cutsS_step (Nat.le_refl _) hlen hp (by omega)] at hc
          have hcomm : min (unit - pos % unit) len = min len (unit - pos % unit) := by omega
          have hm1 : 1 ≤ min len (unit - pos % unit) := by omega
          have hm2 : min len (unit - pos % unit) ≤ len := by omega
          generalize min len (unit - pos % unit) = m at hcomm hm1 hm2 hc
          have hH0 := (List.getElem?_eq_some_iff.1 hH).1
          have hs1 : sliceCells (H ++ [some (.cells [I pos, I m])]) 2 x5 = some (l.flatMap encSp, l.length) := sliceCells_keep hs fun i hi => List.getElem?_append_left (sliceCells_lt hs i hi)
          obtain ⟨r, H2, a1, a2, a3, a4, a5, a6⟩ := aap_spec (bytes := 16) hs1 ho (appended_slice (v := .sl H.length 0 1 2 (.ex 1)) (q := ([I pos, I m], 1)) (by simp [sliceCells])) (by omega)
          have hH2 : H2[0]? = some (some (.cells [I pos, I len])) := by
            rw [a5 0 (by simp) hid, List.getElem?_append_left hH0]; exact hH
          have hid2 : 0 ∉ idS r := fun hi => (a6 0 hi).elim hid (by simp)
          have hH20 := (List.getElem?_eq_some_iff.1 hH2).1
          have keep : ∀ c, sliceCells (H2.set 0 c) 2 r = some ((l ++ [(⟨pos, m⟩ : Sp)]).flatMap encSp, (l ++ [(⟨pos, m⟩ : Sp)]).length) := fun c => by
            rw [sliceCells_keep a3 (fun i hi => List.getElem?_set_ne (by rintro rfl; exact hid2 hi))]
            simp [encSp]
          simp [hH, hlen, abI_rem (a := pos) (b := unit) (by omega) (by omega), abI_sub (a := unit) (b := pos % unit) (by omega) (by omega), hcomm, a1, hH2, abI_add (a := pos) (b := m) (by omega) (by omega), abI_sub (a := len) (b := m) (by omega) (by omega), ast]
          refine hR (len - m).toNat _ _ _ _ (by omega) ?_
          exact ⟨pos + m, len - m, l ++ [(⟨pos, m⟩ : Sp)], rfl, rfl, rfl, by simp [hH20], a2, keep _, hid2, by omega, by omega, by omega, by simp; omega, by simpa using hc⟩
        · rw [cutsS_stop hlen, List.append_nil] at hc
          simp [hH, hlen]
          rw [hP, ← hc]
          exact hs
  · have : partsS ⟨p, n⟩ unit = [] := if_neg (fun h => h1 h.1)
    simp [h1, this, sliceCells]

/-! multiples -/
def down (n unit : Int) : Int := if May n ∧ 1 ≤ unit then n - n % unit else 0
def up (n unit : Int) : Option Int := if May n ∧ 1 ≤ unit then if n % unit = 0 then some n else if n - n % unit + unit ≤ 4611686018427387904 then some (n - n % unit + unit) else none else none
/-- .. as the document says it. -/
def Within' (a b : Sp) : Prop := MaySpan a ∧ MaySpan b ∧ (a.len = 0 ∨ (b.pos ≤ a.pos ∧ a.pos + a.len ≤ b.pos + b.len))
instance (a b : Sp) : Decidable (Within' a b) := by unfold Within'; infer_instance
theorem within_iff (a b : Sp) : Within a b ↔ Within' a b := by
  unfold Within Within'
  by_cases h1 : MaySpan a <;> by_cases h2 : MaySpan b <;> simp [h1, h2]
  have h1' := h1
  have h2' := h2
  simp only [MaySpan, May] at h1' h2'
  by_cases h0 : a.len = 0
  · simp [h0]
  · simp only [h0, false_or]
    unfold meet
    obtain ⟨p, n⟩ := a
    obtain ⟨q, m⟩ := b
    simp only at h1' h2' h0 ⊢
    split
    · rename_i h; simp only [Sp.mk.injEq]; omega
    · rename_i h
      simp only [h1, h2, true_and] at h
      simp only [Sp.mk.injEq]
      omega
end Go.Proofs.Ytpnfdibgfichmaa.Av
end
/-! YtpnfdibgfichmaaAvJ -/
section
/- Bytes and texts. -/
set_option linter.unusedVariables false
set_option linter.unusedSimpArgs false
namespace Go.Proofs.Ytpnfdibgfichmaa.Av
open Go Go.RowKit

def encB (l : List UInt8) : List AV := l.map fun b => .lit (.int .u8 b.toNat)
theorem encB_app (a b : List UInt8) : encB (a ++ b) = encB a ++ encB b := by simp [encB]
theorem encB_len (a : List UInt8) : (encB a).length = a.length := by simp [encB]
theorem encB_take (a : List UInt8) (n : Nat) : (encB a).take n = encB (a.take n) := by simp [encB]
theorem encB_drop (a : List UInt8) (n : Nat) : (encB a).drop n = encB (a.drop n) := by simp [encB]
theorem encB_get (a : List UInt8) (n : Nat) : (encB a)[n]? = (a[n]?).map fun b => .lit (.int .u8 b.toNat) := by simp [encB]
def encU (b : UInt8) : List AV := [.lit (.int .u8 b.toNat)]
theorem encU_len (b : UInt8) : (encU b).length = 1 := rfl
theorem flat_encU (l : List UInt8) : l.flatMap encU = encB l := by
  induction l with
  | nil => rfl
  | cons a l ih => rw [List.flatMap_cons, ih]; rfl
theorem noIdss_encB (l : List UInt8) : noIdss (encB l) = true := by
  induction l with
  | nil => rfl
  | cons a l ih => simpa [encB, noIdss, noIds] using ih
/-- A text of bytes. -/
def bstr (l : List UInt8) : ByteArray := ⟨l.toArray⟩
theorem bstr_size (l : List UInt8) : (bstr l).size = l.length := rfl
theorem bstr_app (a b : List UInt8) : bstr a ++ bstr b = bstr (a ++ b) := by
  have : (bstr a ++ bstr b).data = (bstr (a ++ b)).data := by simp [bstr]
  cases h : bstr a ++ bstr b; rw [h] at this; simp only at this; rw [this]
theorem toList_loop (s : ByteArray) : ∀ (n i : Nat) (r : List UInt8), s.size - i = n → ByteArray.toList.loop s i r = r.reverse ++ s.data.toList.drop i := by
  intro n
  induction n with
  | zero =>
    intro i r h
    unfold ByteArray.toList.loop
    rw [if_neg (by omega), List.drop_of_length_le (by have : s.data.toList.length = s.size := by rw [Array.length_toList]; rfl
                                                      omega)]
    simp
  | succ n ih =>
    intro i r h
    unfold ByteArray.toList.loop
    have hi : i < s.size := by omega
    rw [if_pos hi, ih (i + 1) _ (by omega)]
    have hl : i < s.data.toList.length := by rw [Array.length_toList]; exact hi
    rw [List.drop_eq_getElem_cons hl]
    simp [ByteArray.get!, getElem!_def]
    have : s.data[i]? = some s.data[i] := Array.getElem?_eq_getElem hi
    simp [this]
theorem toList_data (s : ByteArray) : s.toList = s.data.toList := by
  unfold ByteArray.toList
  rw [toList_loop s s.size 0 [] (by simp)]
  simp
theorem bstr_toList (l : List UInt8) : (bstr l).toList = l := by rw [toList_data]; simp [bstr]
theorem bstr_of (s : ByteArray) : ∃ l, s = bstr l := ⟨s.data.toList, by cases s; simp [bstr]⟩
theorem bstr_inj {a b : List UInt8} : bstr a = bstr b ↔ a = b := ⟨fun h => by have := congrArg ByteArray.toList h; rwa [bstr_toList, bstr_toList] at this, fun h => by rw [h]⟩
theorem avInts_encB (l : List UInt8) : avInts (encB l) = some (l.map fun b => (b.toNat : Int)) := by
  induction l with
  | nil => rfl
  | cons a l ih =>
    have : encB (a :: l) = .lit (.int .u8 a.toNat) :: encB l := rfl
    rw [this]; simp only [avInts, ih]; rfl
theorem pushAll_bytes (l : List UInt8) : pushAll (l.map fun b => (b.toNat : Int)) = bstr l := by
  unfold pushAll
  rw [foldl_push_byteCells]
  unfold bstr
  have : (ByteArray.empty.data ++ l.toArray) = l.toArray := by
    apply Array.ext'
    simp [ByteArray.empty, ByteArray.emptyWithCapacity]
    try rfl
  rw [this]
theorem acB_spec {H : AH} {x : AV} {l : List UInt8} {n : Nat} (h : sliceCells H 1 x = some (encB l, n)) : acB H x = some (S (bstr l)) := by
  unfold acB
  split
  · simp [sliceCells] at h
  · rw [h]; simp only [avInts_encB]; rw [← pushAll_bytes]; rfl
theorem abT_eql {a b : List UInt8} : abT .eql (S (bstr a)) (S (bstr b)) = some (B (decide (a = b))) := by
  simp only [abT, astr2, bstr_toList, Option.map_some]
  by_cases h : a = b <;> simp [h]
theorem abT_neq {a b : List UInt8} : abT .neq (S (bstr a)) (S (bstr b)) = some (B (decide (a ≠ b))) := by
  simp only [abT, astr2, bstr_toList, Option.map_some]
  by_cases h : a = b <;> simp [h]
theorem abT_add {a b : List UInt8} (h : a.length + b.length ≤ 9223372036854775807) : abT .add (S (bstr a)) (S (bstr b)) = some (S (bstr (a ++ b))) := by
  unfold abT astr2
  have h1 : ¬ (((bstr a).size + (bstr b).size : Nat) : Int) > 9223372036854775807 := by rw [bstr_size, bstr_size]; omega
  simp only [if_neg h1, bstr_app]
  rfl
theorem bstr_nil : (⟨#[]⟩ : ByteArray) = bstr [] := rfl
/-- A list of bytes that is handed. -/
theorem SV.bytes {l : List UInt8} {v : AV} (h : SV encU 1 l v) (H : AH) : sliceCells H 1 v = some (encB l, l.length) := by rw [h.2 H, flat_encU]
theorem SV.noId {α : Type} {enc : α → List AV} {sz : Nat} {l : List α} {v : AV} (h : SV enc sz l v) : idS v = [] := by
  have := h.1
  cases v <;> simp [idS, noIds] at this ⊢
/-- An element, by its cells. -/
theorem aix_byte {H : AH} {v : AV} {l : List UInt8} {n k : Nat} {i : Int} {b : UInt8} (h : sliceCells H 1 v = some (encB l, n)) (hi : i = k) (hb : l[k]? = some b) : ∃ p, aixS 1 v (.lit (.int .i64 i)) = some p ∧ (∃ c, rdAt H p = some c) ∧ ald false 1 H p = some (.lit (.int .u8 b.toNat)) := by
  have hl := sliceCells_len h
  rw [encB_len] at hl
  have hk := (List.getElem?_eq_some_iff.1 hb).1
  obtain ⟨p, c, h1, h2, h3, h4⟩ := aixS_spec h hi (show k < n by omega)
  refine ⟨p, h1, ⟨c, h2⟩, ?_⟩
  rw [ald_at h2 (by omega) h4, rdCells_one]
  have := congrArg (fun l => l[0]?) h3
  simp only [Nat.mul_one] at this
  rw [List.getElem?_take_of_lt (by omega), List.getElem?_take_of_lt (by omega), List.getElem?_drop, Nat.add_zero, encB_get, hb] at this
  exact this
/-- An element is written, where it is one cell. -/
theorem ast_cell {H : AH} {v x : AV} {cs : List AV} {n k : Nat} {i : Int} (h : sliceCells H 1 v = some (cs, n)) (ho : ownedS v = true) (hi : i = k) (hk : k < n) (hx : oneA x = true) :
    ∃ p H', aixS 1 v (.lit (.int .i64 i)) = some p ∧ ast 1 H p x = some H' ∧ sliceCells H' 1 v = some (cs.set k x, n) ∧ H'.length = H.length ∧ ∀ j, j ∉ idS v → H'[j]? = H[j]? := by
  subst hi
  have hcl := sliceCells_len h
  unfold sliceCells at h
  split at h
  · simp [ownedS] at ho
  · rename_i o off len esz cap
    split at h
    · rename_i c hoc
      split at h
      · rename_i hb
        obtain ⟨rfl, hb⟩ := hb
        injection h with h; injection h with h1 h2
        subst h1; subst h2
        have hol := (List.getElem?_eq_some_iff.1 hoc).1
        refine ⟨.ptr o (off + k * 1), H.set o (some (.cells (c.set (off + k) x))), ?_, ?_, ?_, by simp, fun j hj => List.getElem?_set_ne (by simp [idS] at hj; omega)⟩
        · simp only [aixS, aint]
          rw [if_pos ⟨by omega, by omega⟩]
          simp
        · simp only [ast, cellsA_one hx, hoc]
          rw [if_pos ⟨rfl, by omega⟩]
          simp [splice]
        · rw [sliceCells_sl (c := c.set (off + k) x) (by rw [List.getElem?_set_self hol]) (by simpa using hb)]
          congr 2
          have hle : ¬ off + k < off := by omega
          have hs : off + k - off = k := by omega
          rw [List.drop_set, if_neg hle, List.take_set, hs]
      · cases h
    · cases h
  · injection h with h; injection h with h1 h2; omega
  · injection h with h; injection h with h1 h2; omega
  · cases h
theorem wrap_u8 (n : Int) : ∃ b : UInt8, IntKind.u8.wrap n = b.toNat := by
  refine ⟨UInt8.ofNat (IntKind.u8.wrap n).toNat, ?_⟩
  have : 0 ≤ IntKind.u8.wrap n ∧ IntKind.u8.wrap n < 256 := by simp [IntKind.wrap, IntKind.bits, IntKind.signed]; omega
  have h2 : (IntKind.u8.wrap n).toNat < 256 := by omega
  rw [UInt8.toNat_ofNat_of_lt' h2]
  omega
theorem encB_set (l : List UInt8) (k : Nat) (b : UInt8) : (encB l).set k (.lit (.int .u8 b.toNat)) = encB (l.set k b) := by simp [encB, List.map_set]
end Go.Proofs.Ytpnfdibgfichmaa.Av
end
/-! YtpnfdibgfichmaaAvExt -/
section
/- Chapter 11: blocks and contents; which may be, what is read, where data and holes are. -/
set_option linter.unusedVariables false
set_option linter.unusedSimpArgs false
set_option maxRecDepth 100000
namespace Go.Proofs.Ytpnfdibgfichmaa.Av
open Go Go.RowKit

/-- A block that is there. -/
structure Ext where
  no : Int
  b : List UInt8
  hb : b.length = 8
  deriving DecidableEq
def encE (x : Ext) : List AV := I x.no :: encB x.b
theorem encE_len (x : Ext) : (encE x).length = 9 := by simp [encE, encB_len, x.hb]
theorem encB_all (l : List UInt8) : (encB l).all oneA = true := by simp [encB]
@[simp] theorem encE_all (x : Ext) : (encE x).all oneA = true := by
  show (oneA (I x.no) && (encB x.b).all oneA) = true
  rw [encB_all]; rfl
theorem noIdss_encE (x : Ext) : noIdss (encE x) = true := by
  show noIdss (I x.no :: encB x.b) = true
  simp [noIdss, noIds, noIdss_encB]
@[simp] theorem encE_no (x : Ext) (t : List AV) : (encE x ++ t)[0]? = some (I x.no) := rfl
@[simp] theorem encE_no' (x : Ext) : (encE x)[0]? = some (I x.no) := rfl
@[simp] theorem rd_b (x : Ext) : rdCells true 8 (encE x) 1 = some (.agg (encB x.b)) := by
  have := x.hb
  simp [rdCells, encE, encB_len, this, List.take_of_length_le]
@[simp] theorem rd_e (x : Ext) (t : List AV) : rdCells true 9 (encE x ++ t) 0 = some (.agg (encE x)) := by
  have := encE_len x
  simp [rdCells, this, List.take_append_of_le_length]
@[simp] theorem rd_e' (x : Ext) : rdCells true 9 (encE x) 0 = some (.agg (encE x)) := by
  have := encE_len x
  simp [rdCells, this, List.take_of_length_le]
theorem aiv_b {b : List UInt8} {k : Nat} {y : UInt8} (h : b[k]? = some y) (hk : k < 8) : aivA false 1 8 1 (.agg (encB b)) (I k) = some (.lit (.int .u8 y.toNat)) := by
  have : (k : Int) < 8 := by omega
  simp [aivA, aint, this, encB_get, h]
theorem ast_e {H : AH} {z : List AV} {x : Ext} {o : Nat} (ho : o = H.length) (hz : z.length = 9) : ast 9 (H ++ [some (.cells z)]) (.ptr o 0) (.agg (encE x)) = some (H ++ [some (.cells (encE x))]) := by
  have := encE_len x
  have e : splice z 0 (encE x) = encE x := by
    have hb : (encB x.b).length = 8 := by rw [encB_len, x.hb]
    unfold encE
    cases hB : encB x.b with
    | nil => rw [hB] at hb; simp at hb
    | cons a r => rw [hB] at hb; simp at hb; simp [splice, hz, hb]
  simp [ast, ho, this, hz, e, -splice]
theorem u8z {y : UInt8} : (y.toNat = 0) = (y = 0) := by
  refine propext ⟨fun h => ?_, fun h => by rw [h]; rfl⟩
  apply UInt8.toNat_inj.1
  rw [h]; rfl
/-- Bytes from a place on: at or behind the size 0. -/
def cleanB (size : Int) : Int → List UInt8 → Prop
  | _, [] => True
  | p, b :: r => (b ≠ 0 → p < size) ∧ cleanB size (p + 1) r
instance cleanB.dec (size : Int) : ∀ (p : Int) (l : List UInt8), Decidable (cleanB size p l)
  | _, [] => Decidable.isTrue True.intro
  | p, b :: r => by
    have := cleanB.dec size (p + 1) r
    unfold cleanB; infer_instance
def cleanE (size : Int) (x : Ext) : Prop := cleanB size (x.no * 8) x.b
instance (size : Int) (x : Ext) : Decidable (cleanE size x) := by unfold cleanE; infer_instance
/-- Blocks that rise, and may be. -/
def okL (size : Int) : Int → List Ext → Prop
  | _, [] => True
  | p, x :: r => p < x.no ∧ x.no < 137438953472 ∧ cleanE size x ∧ okL size x.no r
instance okL.dec (size : Int) : ∀ (p : Int) (l : List Ext), Decidable (okL size p l)
  | _, [] => Decidable.isTrue True.intro
  | p, x :: r => by
    have := okL.dec size x.no r
    unfold okL; infer_instance
theorem okL_cons {size p : Int} {x : Ext} {r : List Ext} : okL size p (x :: r) = (p < x.no ∧ x.no < 137438953472 ∧ cleanE size x ∧ okL size x.no r) := rfl
theorem okL_nil {size p : Int} : okL size p [] = True := rfl
/-- May content be? -/
def mayC (size : Int) (l : List Ext) : Prop := 0 ≤ size ∧ size ≤ 1099511627776 ∧ okL size (-1) l
instance (size : Int) (l : List Ext) : Decidable (mayC size l) := by unfold mayC; infer_instance
theorem drop_cons {α : Type} {l : List α} {k : Nat} {y : α} (h : l[k]? = some y) : l.drop k = y :: l.drop (k + 1) := by
  obtain ⟨hk, e⟩ := List.getElem?_eq_some_iff.1 h
  rw [List.drop_eq_getElem_cons hk, e]

theorem extent_clean_p (x : Ext) (size : Int) (h0 : -1 ≤ x.no) (h1 : x.no < 137438953472) : BPure Try.prog 81 [.agg (encE x), I size] (B (decide (cleanE size x))) := BPure.val (by simp [noIdss, noIds, noIdss_encE]) rfl (extent_clean_ok (by
  unfold extent_clean
  simp
  refine extent_clean_L3_rule (fun n x1 x2 x8 x9 H' => ∃ k : Nat, k + n = 8 ∧ x1 = I size ∧ x2 = .ptr 0 0 ∧ x8 = .agg (encB x.b) ∧ x9 = I k ∧ H' = [some (.cells (encE x))] ∧ (cleanE size x ↔ cleanB size (x.no * 8 + k) (x.b.drop k))) ?_ 8 ⟨0, rfl, rfl, rfl, rfl, rfl, rfl, by simp [cleanE]⟩
  rintro n x1 x2 x8 x9 H' R hR ⟨k, hk, rfl, rfl, rfl, rfl, rfl, hm⟩
  unfold extent_clean_L3_b
  rcases Nat.lt_or_ge k 8 with hlt | hge
  · have hlt' : (k : Int) < 8 := by omega
    have hx := List.getElem?_eq_getElem (l := x.b) (i := k) (by rw [x.hb]; exact hlt)
    generalize x.b[k]'(by rw [x.hb]; exact hlt) = y at hx
    rw [drop_cons hx] at hm
    unfold cleanB at hm
    simp [hlt', aiv_b hx hlt, u8z]
    have hkk : (k : Int) + 1 = ((k + 1 : Nat) : Int) := by omega
    by_cases hy : y = 0
    · simp [hy, abI_add (a := k) (b := 1) (by omega) (by omega)]
      refine hR (n - 1) _ _ _ _ _ (by omega) ⟨k + 1, by omega, rfl, rfl, rfl, rfl, rfl, ?_⟩
      rw [hm]
      simp [hy, Int.add_assoc]
    · simp [hy, abI_mul (a := x.no) (b := 8) (by omega) (by omega), abI_add (a := x.no * 8) (b := k) (by omega) (by omega)]
      by_cases hs : size ≤ x.no * 8 + k
      · have : ¬ cleanE size x := by rw [hm]; intro h; have := h.1 hy; omega
        simp [hs, this]
      · simp [hs, abI_add (a := k) (b := 1) (by omega) (by omega)]
        refine hR (n - 1) _ _ _ _ _ (by omega) ⟨k + 1, by omega, rfl, rfl, rfl, rfl, rfl, ?_⟩
        rw [hm]
        simp [hy, Int.add_assoc]
        omega
  · have : k = 8 := by omega
    subst this
    have e : x.b.drop 8 = [] := by rw [List.drop_eq_nil_iff, x.hb]; omega
    rw [e] at hm
    simp only [cleanB, iff_true] at hm
    simp [hm]))

theorem oneA_sv {α : Type} {enc : α → List AV} {sz : Nat} {l : List α} {v : AV} (hv : SV enc sz l v) : oneA v = true := by
  have h1 := hv.1
  have h2 := hv.2 []
  cases v with
  | lit a => cases a <;> first | rfl | (simp [sliceCells] at h2)
  | _ => first | rfl | (simp [sliceCells] at h2)
theorem extent_whole_p (no : Int) (h0 : 0 ≤ no) (h1 : no < 137438953472) : BPure Try.prog 99 [I no] (.agg (encSp ⟨no * 8, 8⟩)) := BPure.val (by simp [noIdss, noIds]) rfl (extent_whole_ok (by
  unfold extent_whole
  simp [abI_mul (a := no) (b := 8) (by omega) (by omega), ast, rdCells, encSp]))
theorem exts_nat {l : List Ext} {k : Nat} : (k : Int) + 1 = ((k + 1 : Nat) : Int) := by omega

theorem extent_May_p {size : Int} {l : List Ext} {v : AV} (hv : SV encE 9 l v) (hl : l.length ≤ 281474976710656) : BPure Try.prog 52 [.agg [I size, v]] (B (decide (mayC size l))) := BPure.val (by simp [noIdss, noIds, hv.1]) rfl (extent_May_ok (by
  unfold extent_May
  simp [oneA_sv hv]
  by_cases h1 : size < 0
  · have : ¬ mayC size l := fun h => by have := h.1; omega
    simp [h1, this]
  · by_cases h2 : 1099511627776 < size
    · have : ¬ mayC size l := fun h => by have := h.2.1; omega
      simp [h1, h2, this]
    · simp [h1, h2, hv.len]
      have hm : mayC size l ↔ okL size (-1) l := by unfold mayC; constructor <;> intro h <;> simp_all <;> omega
      have e : decide (mayC size l) = decide (okL size (-1) l) := decide_eq_decide.2 hm
      rw [e]
      refine extent_May_L7_rule (fun n x1 x3 x15 x16 x17 H' => ∃ (k : Nat) (p : Int), k + n = l.length ∧ x1 = .ptr 0 0 ∧ x3 = I p ∧ x15 = v ∧ x16 = I l.length ∧ x17 = I k ∧ (∃ X, H' = some (.cells [I size, v]) :: X) ∧ -1 ≤ p ∧ (okL size (-1) l ↔ okL size p (l.drop k))) ?_ l.length ⟨0, -1, by simp, rfl, rfl, rfl, rfl, rfl, ⟨[], rfl⟩, by omega, by simp⟩
      rintro n x1 x3 x15 x16 x17 H' R hR ⟨k, p, hk, rfl, rfl, rfl, rfl, rfl, ⟨X, rfl⟩, hp, hm⟩
      unfold extent_May_L7_b
      rcases Nat.lt_or_ge k l.length with hlt | hge
      · have hx := List.getElem?_eq_getElem hlt
        generalize l[k] = y at hx
        rw [drop_cons hx] at hm
        rw [okL_cons] at hm
        simp [hlt, hv.idx encE_len hx rfl, -ald_ptr']
        rw [← List.cons_append, ast_e (by simp) (by rfl)]
        simp
        by_cases c1 : y.no ≤ p
        · have : ¬ okL size (-1) l := by rw [hm]; intro h; omega
          simp [c1, this]
        · by_cases c2 : 137438953472 ≤ y.no
          · have : ¬ okL size (-1) l := by rw [hm]; intro h; omega
            simp [c1, c2, this]
          · simp [c1, c2]
            refine bP_pure (extent_clean_p y size (by omega) (by omega)) ?_
            by_cases c3 : cleanE size y
            · simp [c3, abI_add (a := k) (b := 1) (by omega) (by omega)]
              refine hR (n - 1) _ _ _ _ _ _ (by omega) ⟨k + 1, y.no, by omega, rfl, rfl, rfl, rfl, rfl, ⟨X ++ [some (.cells (encE y))], rfl⟩, by omega, ?_⟩
              rw [hm]
              exact ⟨fun h => h.2.2.2, fun h => ⟨by omega, by omega, c3, h⟩⟩
            · have : ¬ okL size (-1) l := by rw [hm]; intro h; exact c3 h.2.2.1
              simp [c3, this]
      · have : k = l.length := by omega
        subst this
        rw [List.drop_length] at hm
        simp only [okL_nil, iff_true] at hm
        simp [hm]))

theorem aixA_b {b : List UInt8} {t : List AV} {k : Nat} {y : UInt8} {H : AH} (h : b[k]? = some y) (hk : k < 8) : ∃ q, aixA 8 1 (.ip (encB b ++ t)) (I k) = some q ∧ ald false 1 H q = some (.lit (.int .u8 y.toNat)) := by
  have hk' : (k : Int) < 8 := by omega
  have hl : k < b.length := (List.getElem?_eq_some_iff.1 h).1
  refine ⟨.ip ((encB b ++ t).drop k), by simp [aixA, aint, hk'], ?_⟩
  have hl' : k < (encB b).length := by rw [encB_len]; exact hl
  simp [List.getElem?_append_left hl', encB_get, h]
theorem ref_MayContent_p {size : Int} {l : List Ext} {v : AV} (hv : SV encE 9 l v) (hl : l.length ≤ 281474976710656) : BPure Try.prog 56 [.agg [I size, v]] (B (decide (mayC size l))) := BPure.val (by simp [noIdss, noIds, hv.1]) rfl (salvorref11_MayContent_ok (by
  unfold salvorref11_MayContent
  simp [oneA_sv hv]
  by_cases h1 : size < 0
  · have : ¬ mayC size l := fun h => by have := h.1; omega
    simp [h1, this]
  · by_cases h2 : 1099511627776 < size
    · have : ¬ mayC size l := fun h => by have := h.2.1; omega
      simp [h1, h2, this]
    · simp [h1, h2]
      have hm : mayC size l ↔ okL size (-1) l := by unfold mayC; constructor <;> intro h <;> simp_all <;> omega
      have e : decide (mayC size l) = decide (okL size (-1) l) := decide_eq_decide.2 hm
      rw [e]
      refine salvorref11_MayContent_L6_rule (fun n x1 x3 H' => ∃ (k : Nat) (p : Int), k + n = l.length ∧ x1 = .ptr 0 0 ∧ x3 = I k ∧ H' = [some (.cells [I size, v])] ∧ -1 ≤ p ∧ (k = 0 → p = -1) ∧ (∀ z, 0 < k → l[k - 1]? = some z → p = z.no) ∧ (okL size (-1) l ↔ okL size p (l.drop k))) ?_ l.length ⟨0, -1, by simp, rfl, rfl, rfl, by omega, by simp, by simp, by simp⟩
      rintro n x1 x3 H' R hR ⟨k, p, hk, rfl, rfl, rfl, hp, hp0, hp1, hm⟩
      unfold salvorref11_MayContent_L6_b
      rcases Nat.lt_or_ge k l.length with hlt | hge
      · have hx := List.getElem?_eq_getElem hlt
        generalize l[k] = y at hx
        rw [drop_cons hx] at hm
        rw [okL_cons] at hm
        simp [hlt, hv.len, hv.idx encE_len hx rfl]
        have fin : ¬ p < y.no ∨ ¬ y.no < 137438953472 → ¬ okL size (-1) l := by
          rw [hm]; intro h h'; omega
        have go : -1 ≤ y.no → y.no < 137438953472 → p < y.no → salvorref11_MayContent_L15 R (.ptr 0 0) (I k) (I y.no) (I 0) [some (.cells [I size, v])] (fun r H' => r = B (decide (okL size (-1) l))) := by
          intro g1 g2 g3
          refine salvorref11_MayContent_L15_rule R (fun m x1 x3 x4 x5 H' => ∃ (j : Nat), j + m = 8 ∧ x1 = .ptr 0 0 ∧ x3 = I k ∧ x4 = I y.no ∧ x5 = I j ∧ H' = [some (.cells [I size, v])] ∧ (cleanE size y ↔ cleanB size (y.no * 8 + j) (y.b.drop j))) ?_ 8 ⟨0, rfl, rfl, rfl, rfl, rfl, rfl, by simp [cleanE]⟩
          rintro m x1 x3 x4 x5 H' R2 hR2 ⟨j, hj, rfl, rfl, rfl, rfl, rfl, hc⟩
          unfold salvorref11_MayContent_L15_b
          rcases Nat.lt_or_ge j 8 with hlj | hgj
          · have hlj' : (j : Int) < 8 := by omega
            have hy := List.getElem?_eq_getElem (l := y.b) (i := j) (by rw [y.hb]; exact hlj)
            generalize y.b[j]'(by rw [y.hb]; exact hlj) = u at hy
            rw [drop_cons hy] at hc
            simp only [cleanB] at hc
            simp [hlj', abI_mul (a := y.no) (b := 8) (by omega) (by omega), abI_add (a := y.no * 8) (b := j) (by omega) (by omega)]
            have nxt : (u ≠ 0 → y.no * 8 + j < size) → (bO (abI .add (I j) (I 1)) fun v20 => R2 [.ptr 0 0, I k, I y.no, v20] [some (.cells [I size, v])]) := by
              intro hu
              simp [abI_add (a := j) (b := 1) (by omega) (by omega)]
              refine hR2 (m - 1) _ _ _ _ _ (by omega) ⟨j + 1, by omega, rfl, rfl, rfl, rfl, rfl, ?_⟩
              rw [hc]
              have : y.no * 8 + (j : Int) + 1 = y.no * 8 + ((j + 1 : Nat) : Int) := by omega
              rw [this]
              exact ⟨fun h => h.2, fun h => ⟨hu, h⟩⟩
            by_cases hs : size ≤ y.no * 8 + j
            · obtain ⟨q, e1, e2⟩ := aixA_b (t := (l.drop (k + 1)).flatMap encE) (H := [some (.cells [I size, v])]) hy hlj
              have e0 : (encE y ++ (l.drop (k + 1)).flatMap encE).drop 1 = encB y.b ++ (l.drop (k + 1)).flatMap encE := rfl
              simp [hs, hv.idx encE_len hx rfl, e0, e1, e2, u8z]
              by_cases hu : u = 0
              · simp [hu]
                exact nxt (fun h => absurd hu h)
              · have : ¬ okL size (-1) l := by rw [hm]; intro h; have := (hc.1 h.2.2.1).1 hu; omega
                simp [hu, this]
            · simp [hs]
              exact nxt (fun h => by omega)
          · have : j = 8 := by omega
            subst this
            have e : y.b.drop 8 = [] := by rw [List.drop_eq_nil_iff, y.hb]; omega
            rw [e] at hc
            simp only [cleanB, iff_true] at hc
            simp [abI_add (a := k) (b := 1) (by omega) (by omega)]
            refine hR (n - 1) _ _ _ (by omega) ⟨k + 1, y.no, by omega, rfl, rfl, rfl, by omega, by omega, ?_, ?_⟩
            · intro z _ hz; simp [hx] at hz; rw [hz]
            · rw [hm]
              exact ⟨fun h => h.2.2.2, fun h => ⟨by omega, by omega, hc, h⟩⟩
        by_cases c1 : y.no < 0
        · simp [c1, fin (.inl (by omega))]
        · by_cases c2 : 137438953472 ≤ y.no
          · simp [c1, c2, fin (.inr (by omega))]
          · simp [c1, c2]
            rcases Nat.eq_zero_or_pos k with k0 | k0
            · subst k0
              simp
              have := hp0 rfl
              exact go (by omega) (by omega) (by omega)
            · have hxp := List.getElem?_eq_getElem (l := l) (i := k - 1) (by omega)
              generalize l[k - 1]'(by omega) = z at hxp
              have hpz := hp1 z k0 hxp
              simp [k0, abI_sub (a := k) (b := 1) (by omega) (by omega), hv.idx encE_len hxp (i := (k : Int) - 1) (by omega)]
              by_cases c3 : y.no ≤ z.no
              · simp [c3, fin (.inl (by omega))]
              · simp [c3]
                exact go (by omega) (by omega) (by omega)
      · have : k = l.length := by omega
        subst this
        rw [List.drop_length] at hm
        simp only [okL_nil, iff_true] at hm
        simp [hm, hv.len]))
end Go.Proofs.Ytpnfdibgfichmaa.Av
end
/-! YtpnfdibgfichmaaAvExtR -/
section
/- Chapter 11: where a block lies, which contents are one, where data and holes are. -/
set_option linter.unusedVariables false
set_option linter.unusedSimpArgs false
set_option maxRecDepth 100000
namespace Go.Proofs.Ytpnfdibgfichmaa.Av
open Go Go.RowKit

/-! rising blocks -/
def srt (l : List Ext) : Prop := l.Pairwise fun a b => a.no < b.no
theorem okL_all {size : Int} : ∀ {l : List Ext} {p : Int}, okL size p l → ∀ x ∈ l, p < x.no ∧ x.no < 137438953472 ∧ cleanE size x
  | [], p, h => by simp
  | a :: r, p, h => by
    rw [okL_cons] at h
    intro x hx
    rcases List.mem_cons.1 hx with rfl | hx
    · exact ⟨h.1, h.2.1, h.2.2.1⟩
    · have := okL_all h.2.2.2 x hx
      exact ⟨by omega, this.2⟩
theorem okL_srt {size : Int} : ∀ {l : List Ext} {p : Int}, okL size p l → srt l
  | [], p, h => List.Pairwise.nil
  | a :: r, p, h => by
    rw [okL_cons] at h
    exact List.Pairwise.cons (fun b hb => (okL_all h.2.2.2 b hb).1) (okL_srt h.2.2.2)
theorem srt_get {l : List Ext} (h : srt l) {i j : Nat} {x y : Ext} (hi : l[i]? = some x) (hj : l[j]? = some y) (hij : i < j) : x.no < y.no := by
  obtain ⟨h1, e1⟩ := List.getElem?_eq_some_iff.1 hi
  obtain ⟨h2, e2⟩ := List.getElem?_eq_some_iff.1 hj
  have := List.pairwise_iff_getElem.1 h i j h1 h2 hij
  rw [e1, e2] at this; exact this
/-- How many blocks lie ahead of a number. -/
def posL (l : List Ext) (no : Int) : Nat := (l.takeWhile fun x => decide (x.no < no)).length
def hasL (l : List Ext) (no : Int) : Prop := ∃ x ∈ l, x.no = no
instance (l : List Ext) (no : Int) : Decidable (hasL l no) := by unfold hasL; infer_instance
theorem posL_eq {no : Int} : ∀ {l : List Ext} {i : Nat}, i ≤ l.length → (∀ m x, m < i → l[m]? = some x → x.no < no) → (∀ x, l[i]? = some x → no ≤ x.no) → posL l no = i
  | [], i, hi, _, _ => by simp at hi; simp [posL, hi]
  | a :: r, 0, _, _, h => by
    have := h a (by simp)
    have : ¬ a.no < no := by omega
    simp [posL, this]
  | a :: r, i + 1, hi, h1, h2 => by
    have := h1 0 a (by omega) (by simp)
    have ih := posL_eq (l := r) (i := i) (no := no) (by simpa using hi) (fun m x hm hx => h1 (m + 1) x (by omega) (by simpa using hx)) (fun x hx => h2 x (by simpa using hx))
    unfold posL at ih ⊢
    simp [this, ih]
theorem posL_le (l : List Ext) (no : Int) : posL l no ≤ l.length := by
  unfold posL
  exact (List.takeWhile_sublist _).length_le
theorem posL_lt {no : Int} : ∀ {l : List Ext} {m : Nat} {x : Ext}, m < posL l no → l[m]? = some x → x.no < no
  | a :: r, m, x, hm, hx => by
    by_cases ha : a.no < no
    · cases m with
      | zero => simp at hx; rw [← hx]; exact ha
      | succ m =>
        refine posL_lt (l := r) (m := m) ?_ (by simpa using hx)
        unfold posL at hm ⊢
        simp [ha] at hm
        exact hm
    · unfold posL at hm
      simp [ha] at hm
  | [], m, x, hm, hx => by simp at hx
theorem posL_ge {no : Int} : ∀ {l : List Ext} {x : Ext}, l[posL l no]? = some x → no ≤ x.no
  | a :: r, x, hx => by
    by_cases ha : a.no < no
    · refine posL_ge (l := r) ?_
      unfold posL at hx ⊢
      simpa [ha] using hx
    · unfold posL at hx
      simp [ha] at hx
      rw [← hx]; omega
  | [], x, hx => by simp at hx
theorem hasL_iff {l : List Ext} (h : srt l) {no : Int} : hasL l no ↔ ∃ x, l[posL l no]? = some x ∧ x.no = no := by
  constructor
  · rintro ⟨x, hx, rfl⟩
    obtain ⟨m, hm⟩ := List.mem_iff_getElem?.1 hx
    refine ⟨x, ?_, rfl⟩
    have : posL l x.no = m := posL_eq (Nat.le_of_lt (List.getElem?_eq_some_iff.1 hm).1) (fun k y hk hy => srt_get h hy hm hk) (fun y hy => by rw [hm] at hy; injection hy with hy; rw [hy]; omega)
    rw [this]; exact hm
  · rintro ⟨x, hx, e⟩
    exact ⟨x, List.mem_of_getElem? hx, e⟩
def cmpI (a b : Int) : Int := if a < b then -1 else if b < a then 1 else 0
theorem cmp_isNaN_p (a : Int) : BPure Try.prog 84 [I a] (B false) := BPure.flat fun H => cmp_isNaN_int_ok (by
  unfold cmp_isNaN_int
  simp)
theorem cmp_Compare_p (a b : Int) : BPure Try.prog 67 [I a, I b] (I (cmpI a b)) := BPure.flat fun H => cmp_Compare_int_ok (by
  unfold cmp_Compare_int
  refine bP_pure (cmp_isNaN_p a) ?_
  refine bP_pure (cmp_isNaN_p b) ?_
  unfold cmpI
  by_cases h1 : a < b
  · simp [h1]
  · by_cases h2 : b < a
    · simp [h1, h2]
    · simp [h1, h2])
theorem place1_p (x : Ext) (no : Int) : BPure Try.prog 113 [.agg (encE x), I no] (I (cmpI x.no no)) := BPure.val (by simp [noIdss, noIds, noIdss_encE]) rfl (extent_place_1_ok (by
  unfold extent_place_1
  simp
  refine bP_pure (cmp_Compare_p x.no no) ?_
  rfl))
theorem acI_u64 {n : Int} {k : IntKind} (h1 : 0 ≤ n) (h2 : n ≤ 9223372036854775807) : acI .u64 (.lit (.int k n)) = some (.lit (.int .u64 n)) := by
  have e1 : IntKind.u64.wrap n = n := by
    simp [IntKind.wrap, IntKind.bits, IntKind.signed]; omega
  simp [acI, e1]
theorem abI_shr1 {n : Int} : abI .shr (.lit (.int .u64 n)) (.lit (.int .u64 1)) = some (.lit (.int .u64 (n / 2))) := by
  have e2 : n.fdiv 2 = n / 2 := Int.fdiv_eq_ediv_of_nonneg _ (by omega)
  simp [abI, ashiftOp, IntKind.bits, e2]
theorem goF55 : goFunc Try.prog 113 = true := by kernel_rfl
theorem search_p {l : List Ext} {v : AV} (hv : SV encE 9 l v) (hs : srt l) (hl : l.length ≤ 281474976710656) (no : Int) :
    BPure Try.prog 112 [v, I no, .fn (.func 113) [] []] (.tup [I (posL l no), B (decide (hasL l no))]) := BPure.val (by simp [noIdss, noIds, hv.1]) rfl (slices_BinarySearchFunc_Lapi_Ext_api_Ext_int_ok (by
  unfold slices_BinarySearchFunc_Lapi_Ext_api_Ext_int
  simp [hv.len]
  refine slices_BinarySearchFunc_Lapi_Ext_api_Ext_int_L4_rule (fun n x0 x1 x2 x8 x9 x10 H' => ∃ i j : Nat, i + n = j ∧ j ≤ l.length ∧ x0 = v ∧ x1 = I no ∧ x2 = .fn (.func 113) [] [] ∧ x8 = I l.length ∧ x9 = I i ∧ x10 = I j ∧ H' = [] ∧ (∀ m x, m < i → l[m]? = some x → x.no < no) ∧ (∀ m x, j ≤ m → l[m]? = some x → no ≤ x.no)) ?_ l.length ⟨0, l.length, by simp, by omega, rfl, rfl, rfl, rfl, rfl, rfl, rfl, by simp, fun m x hm hx => by have := (List.getElem?_eq_some_iff.1 hx).1; omega⟩
  rintro n x0 x1 x2 x8 x9 x10 H' R hR ⟨i, j, hij, hj, rfl, rfl, rfl, rfl, rfl, rfl, rfl, h1, h2⟩
  unfold slices_BinarySearchFunc_Lapi_Ext_api_Ext_int_L4_b
  rcases Nat.lt_or_ge i j with hlt | hge
  · have hx := List.getElem?_eq_getElem (l := l) (i := (i + j) / 2) (by omega)
    generalize l[(i + j) / 2]'(by omega) = y at hx
    simp [hlt, abI_add (a := i) (b := j) (by omega) (by omega), acI_u64 (n := (i : Int) + j) (by omega) (by omega), abI_shr1, acI_i64 (a := ((i : Int) + j) / 2) (by omega) (by omega), hv.idx encE_len hx (i := ((i : Int) + j) / 2) (by omega), goF55]
    refine bC_of (place1_p y no []) ?_
    unfold cmpI
    by_cases c1 : y.no < no
    · simp [c1, abI_add (a := ((i : Int) + j) / 2) (b := 1) (by omega) (by omega)]
      refine hR (j - ((i + j) / 2 + 1)) _ _ _ _ _ _ _ (by omega) ⟨(i + j) / 2 + 1, j, by omega, hj, rfl, rfl, rfl, rfl, by simp, rfl, rfl, ?_, h2⟩
      intro m x hm hmx
      by_cases hm2 : m = (i + j) / 2
      · rw [hm2, hx] at hmx; injection hmx with e; rw [← e]; exact c1
      · have := srt_get hs hmx hx (by omega); omega
    · have e : ¬ (if no < y.no then (1 : Int) else 0) < 0 := by split <;> omega
      simp [c1, e]
      refine hR ((i + j) / 2 - i) _ _ _ _ _ _ _ (by omega) ⟨i, (i + j) / 2, by omega, by omega, rfl, rfl, rfl, rfl, rfl, by simp, rfl, h1, ?_⟩
      intro m x hm hmx
      by_cases hm2 : m = (i + j) / 2
      · rw [hm2, hx] at hmx; injection hmx with e; rw [← e]; omega
      · have := srt_get hs hx hmx (by omega); omega
  · have hi : i = j := by omega
    subst hi
    have hp : posL l no = i := posL_eq (by omega) h1 (fun x hx => h2 i x (by omega) hx)
    rcases Nat.lt_or_ge i l.length with hil | hil
    · have hx := List.getElem?_eq_getElem (l := l) (i := i) hil
      generalize l[i] = y at hx
      have hh : hasL l no ↔ cmpI y.no no = 0 := by
        rw [hasL_iff hs, hp]
        have := h2 i y (by omega) hx
        constructor
        · rintro ⟨z, hz, e⟩
          rw [hx] at hz; injection hz with hz; rw [hz, e]; unfold cmpI; simp
        · intro e
          refine ⟨y, hx, ?_⟩
          unfold cmpI at e
          split at e
          · omega
          · split at e <;> omega
      simp [hil, hv.idx encE_len hx rfl, goF55]
      refine bC_of (place1_p y no []) ?_
      simp [hp, hh]
    · have hn : ¬ hasL l no := by
        rw [hasL_iff hs, hp]
        rintro ⟨z, hz, e⟩
        have := (List.getElem?_eq_some_iff.1 hz).1
        omega
      simp [show ¬ i < l.length by omega, hp, hn]))
theorem extent_place_p {l : List Ext} {v : AV} (hv : SV encE 9 l v) (hs : srt l) (hl : l.length ≤ 281474976710656) (no : Int) :
    BPure Try.prog 105 [v, I no] (.tup [I (posL l no), B (decide (hasL l no))]) := BPure.val (by simp [noIdss, noIds, hv.1]) rfl (extent_place_ok (by
  unfold extent_place
  refine bP_pure (search_p hv hs hl no) ?_
  simp))

/-! one content -/
theorem neExt_a (a c b0 b1 b2 b3 b4 b5 b6 b7 d0 d1 d2 d3 d4 d5 d6 d7 : Int) : abin Try.prog .neq 90 (.agg [I a, .lit (.int .u8 b0), .lit (.int .u8 b1), .lit (.int .u8 b2), .lit (.int .u8 b3), .lit (.int .u8 b4), .lit (.int .u8 b5), .lit (.int .u8 b6), .lit (.int .u8 b7)]) (.agg [I c, .lit (.int .u8 d0), .lit (.int .u8 d1), .lit (.int .u8 d2), .lit (.int .u8 d3), .lit (.int .u8 d4), .lit (.int .u8 d5), .lit (.int .u8 d6), .lit (.int .u8 d7)]) = some (B !(a == c && ((b0 == d0 && (b1 == d1 && (b2 == d2 && (b3 == d3 && (b4 == d4 && (b5 == d5 && (b6 == d6 && (b7 == d7 && true)))))))) && true))) := by kernel_rfl
theorem u8i {a b : UInt8} : ((a.toNat : Int) == (b.toNat : Int)) = decide (a = b) := by
  by_cases h : a = b
  · subst h; simp
  · have : ¬ (a.toNat : Int) = b.toNat := fun e => h (UInt8.toNat_inj.1 (by omega))
    simp [h, this]
theorem neExt (x y : Ext) : abin Try.prog .neq 90 (.agg (encE x)) (.agg (encE y)) = some (B (decide (x ≠ y))) := by
  obtain ⟨a, b, hb⟩ := x
  obtain ⟨c, d, hd⟩ := y
  match b, d, hb, hd with
  | [b0, b1, b2, b3, b4, b5, b6, b7], [d0, d1, d2, d3, d4, d5, d6, d7], hb, hd =>
    refine (neExt_a a c b0.toNat b1.toNat b2.toNat b3.toNat b4.toNat b5.toNat b6.toNat b7.toNat d0.toNat d1.toNat d2.toNat d3.toNat d4.toNat d5.toNat d6.toNat d7.toNat).trans ?_
    have e : (a == c) = decide (a = c) := by by_cases h : a = c <;> simp [h]
    simp only [u8i, e]
    simp
theorem extent_Equal_p {l m : List Ext} {v w : AV} (hv : SV encE 9 l v) (hw : SV encE 9 m w) (hl : l.length ≤ 281474976710656) :
    BPure Try.prog 54 [v, w] (B (decide (l = m))) := BPure.val (by simp [noIdss, noIds, hv.1, hw.1]) rfl (slices_Equal_Lapi_Ext_api_Ext_ok (by
  unfold slices_Equal_Lapi_Ext_api_Ext
  simp [hv.len, hw.len]
  by_cases h0 : l.length = m.length
  · simp [h0]
    refine slices_Equal_Lapi_Ext_api_Ext_L6_rule (fun n x0 x1 x12 x13 H' => ∃ k : Nat, k + n = l.length ∧ x0 = v ∧ x1 = w ∧ x12 = I l.length ∧ x13 = I k ∧ H' = [] ∧ l.take k = m.take k) ?_ l.length ⟨0, by simp, rfl, rfl, by rw [h0], rfl, rfl, rfl⟩
    rintro n x0 x1 x12 x13 H' R hR ⟨k, hk, rfl, rfl, rfl, rfl, rfl, ht⟩
    unfold slices_Equal_Lapi_Ext_api_Ext_L6_b
    rcases Nat.lt_or_ge k l.length with hlt | hge
    · have hx := List.getElem?_eq_getElem hlt
      have hy := List.getElem?_eq_getElem (l := m) (i := k) (by omega)
      generalize l[k] = x at hx
      generalize m[k]'(by omega) = y at hy
      simp [hlt, hv.idx encE_len hx rfl, hw.idx encE_len hy rfl, neExt]
      by_cases hxy : x = y
      · simp [hxy, abI_add (a := k) (b := 1) (by omega) (by omega)]
        refine hR (n - 1) _ _ _ _ _ (by omega) ⟨k + 1, by omega, rfl, rfl, rfl, rfl, rfl, ?_⟩
        rw [List.take_add_one, List.take_add_one, hx, hy, ht, hxy]
      · have : l ≠ m := by
          rintro rfl
          rw [hx] at hy; injection hy with hy; exact hxy hy
        simp [hxy, this]
    · have : k = l.length := by omega
      subst this
      have e : l = m := by
        rw [List.take_length, h0, List.take_length] at ht; exact ht
      simp [e]
  · have : l ≠ m := fun h => h0 (by rw [h])
    have h0' : ¬ (l.length : Int) = m.length := by omega
    simp [h0, h0', this]))
def sameC (a : Int) (l : List Ext) (b : Int) (m : List Ext) : Prop := a = b ∧ l = m
instance (a : Int) (l : List Ext) (b : Int) (m : List Ext) : Decidable (sameC a l b m) := by unfold sameC; infer_instance
theorem extent_Same_p {a b : Int} {l m : List Ext} {v w : AV} (hv : SV encE 9 l v) (hw : SV encE 9 m w) (hl : l.length ≤ 281474976710656) :
    BPure Try.prog 24 [.agg [I a, v], .agg [I b, w]] (B (decide (sameC a l b m))) := BPure.val (by simp [noIdss, noIds, hv.1, hw.1]) rfl (extent_Same_ok (by
  unfold extent_Same
  simp [oneA_sv hv, oneA_sv hw]
  by_cases h : a = b
  · simp [h]
    refine bP_pure (extent_Equal_p hv hw hl) ?_
    simp [sameC]
  · simp [h, sameC]))
theorem ref_SameContent_p {a b : Int} {l m : List Ext} {v w : AV} (hv : SV encE 9 l v) (hw : SV encE 9 m w) (hl : l.length ≤ 281474976710656) :
    BPure Try.prog 29 [.agg [I a, v], .agg [I b, w]] (B (decide (sameC a l b m))) := BPure.val (by simp [noIdss, noIds, hv.1, hw.1]) rfl (salvorref11_SameContent_ok (by
  unfold salvorref11_SameContent
  simp [oneA_sv hv, oneA_sv hw]
  by_cases h : a = b
  · by_cases h0 : l.length = m.length
    · simp [h, hv.len, hw.len, h0]
      refine salvorref11_SameContent_L6_rule (fun n x2 x3 x5 H' => ∃ k : Nat, k + n = l.length ∧ x2 = .ptr 0 0 ∧ x3 = .ptr 1 0 ∧ x5 = I k ∧ H' = [some (.cells [I b, v]), some (.cells [I b, w])] ∧ l.take k = m.take k) ?_ l.length ⟨0, by simp, rfl, rfl, rfl, rfl, rfl⟩
      rintro n x2 x3 x5 H' R hR ⟨k, hk, rfl, rfl, rfl, rfl, ht⟩
      unfold salvorref11_SameContent_L6_b
      rcases Nat.lt_or_ge k l.length with hlt | hge
      · have hx := List.getElem?_eq_getElem hlt
        have hy := List.getElem?_eq_getElem (l := m) (i := k) (by omega)
        generalize l[k] = x at hx
        generalize m[k]'(by omega) = y at hy
        simp [hlt, hv.len, hv.idx encE_len hx rfl, hw.idx encE_len hy rfl, neExt]
        by_cases hxy : x = y
        · simp [hxy, abI_add (a := k) (b := 1) (by omega) (by omega)]
          refine hR (n - 1) _ _ _ _ (by omega) ⟨k + 1, by omega, rfl, rfl, rfl, rfl, ?_⟩
          rw [List.take_add_one, List.take_add_one, hx, hy, ht, hxy]
        · have : l ≠ m := by
            rintro rfl
            rw [hx] at hy; injection hy with hy; exact hxy hy
          simp [hxy, this, sameC]
      · have : k = l.length := by omega
        subst this
        have e : l = m := by
          rw [List.take_length, h0, List.take_length] at ht; exact ht
        simp [hv.len, e, sameC]
    · have : l ≠ m := fun h => h0 (by rw [h])
      have h0' : ¬ (l.length : Int) = m.length := by omega
      simp [h, hv.len, hw.len, h0, h0', this, sameC]
  · simp [h, sameC]))

/-! a block's bytes -/
theorem posL_at {l : List Ext} (h : srt l) {k : Nat} {x : Ext} (hx : l[k]? = some x) : posL l x.no = k :=
  posL_eq (Nat.le_of_lt (List.getElem?_eq_some_iff.1 hx).1) (fun j y hj hy => srt_get h hy hx hj) (fun y hy => by rw [hx] at hy; injection hy with hy; rw [hy]; omega)
end Go.Proofs.Ytpnfdibgfichmaa.Av
end
/-! YtpnfdibgfichmaaAvSo -/
section
/- Lists that rise by a key. Texts, ordered. No program in sight. -/
set_option linter.unusedVariables false
set_option linter.unusedSimpArgs false
namespace Go.Proofs.Ytpnfdibgfichmaa.Av
open Go Go.RowKit

/-- An order, by a comparison. -/
structure KO {κ : Type} (c : κ → κ → Int) : Prop where
  eq : ∀ a b, c a b = 0 ↔ a = b
  anti : ∀ a b, c a b < 0 ↔ 0 < c b a
  trans : ∀ a b d, c a b < 0 → c b d < 0 → c a d < 0
section
variable {κ α : Type} {c : κ → κ → Int} {key : α → κ}
theorem KO.irr (h : KO c) (a : κ) : ¬ c a a < 0 := by have := (h.eq a a).2 rfl; omega
theorem KO.tri (h : KO c) {a b : κ} (h1 : ¬ c a b < 0) (h2 : ¬ c b a < 0) : a = b := by
  refine (h.eq a b).1 ?_
  rw [h.anti] at h2
  omega
def srtK (c : κ → κ → Int) (key : α → κ) (l : List α) : Prop := l.Pairwise fun a b => c (key a) (key b) < 0
def posK (c : κ → κ → Int) (key : α → κ) (l : List α) (k : κ) : Nat := (l.takeWhile fun x => decide (c (key x) k < 0)).length
def hasK (key : α → κ) (l : List α) (k : κ) : Prop := ∃ x ∈ l, key x = k
instance [DecidableEq κ] (key : α → κ) (l : List α) (k : κ) : Decidable (hasK key l k) := by unfold hasK; infer_instance
instance (c : κ → κ → Int) (key : α → κ) (l : List α) : Decidable (srtK c key l) := by unfold srtK; infer_instance
theorem srtK_get {l : List α} (h : srtK c key l) {i j : Nat} {x y : α} (hi : l[i]? = some x) (hj : l[j]? = some y) (hij : i < j) : c (key x) (key y) < 0 := by
  obtain ⟨h1, e1⟩ := List.getElem?_eq_some_iff.1 hi
  obtain ⟨h2, e2⟩ := List.getElem?_eq_some_iff.1 hj
  have := List.pairwise_iff_getElem.1 h i j h1 h2 hij
  rw [e1, e2] at this; exact this
theorem posK_eq {k : κ} : ∀ {l : List α} {i : Nat}, i ≤ l.length → (∀ m x, m < i → l[m]? = some x → c (key x) k < 0) → (∀ x, l[i]? = some x → ¬ c (key x) k < 0) → posK c key l k = i
  | [], i, hi, _, _ => by simp at hi; simp [posK, hi]
  | a :: r, 0, _, _, h => by
    have := h a (by simp)
    simp [posK, this]
  | a :: r, i + 1, hi, h1, h2 => by
    have := h1 0 a (by omega) (by simp)
    have ih := posK_eq (l := r) (i := i) (k := k) (by simpa using hi) (fun m x hm hx => h1 (m + 1) x (by omega) (by simpa using hx)) (fun x hx => h2 x (by simpa using hx))
    unfold posK at ih ⊢
    simp [this, ih]
theorem posK_le (l : List α) (k : κ) : posK c key l k ≤ l.length := by
  unfold posK
  exact (List.takeWhile_sublist _).length_le
theorem posK_lt {k : κ} : ∀ {l : List α} {m : Nat} {x : α}, m < posK c key l k → l[m]? = some x → c (key x) k < 0
  | a :: r, m, x, hm, hx => by
    by_cases ha : c (key a) k < 0
    · cases m with
      | zero => simp at hx; rw [← hx]; exact ha
      | succ m =>
        refine posK_lt (l := r) (m := m) ?_ (by simpa using hx)
        unfold posK at hm ⊢
        simp [ha] at hm
        exact hm
    · unfold posK at hm
      simp [ha] at hm
  | [], m, x, hm, hx => by simp at hx
theorem posK_ge {k : κ} : ∀ {l : List α} {x : α}, l[posK c key l k]? = some x → ¬ c (key x) k < 0
  | a :: r, x, hx => by
    by_cases ha : c (key a) k < 0
    · refine posK_ge (l := r) ?_
      unfold posK at hx ⊢
      simpa [ha] using hx
    · unfold posK at hx
      simp [ha] at hx
      rw [← hx]; exact ha
  | [], x, hx => by simp at hx
theorem posK_at (hc : KO c) {l : List α} (h : srtK c key l) {m : Nat} {x : α} (hm : l[m]? = some x) : posK c key l (key x) = m :=
  posK_eq (Nat.le_of_lt (List.getElem?_eq_some_iff.1 hm).1) (fun k y hk hy => srtK_get h hy hm hk) (fun y hy => by rw [hm] at hy; injection hy with hy; rw [hy]; exact hc.irr _)
theorem hasK_iff (hc : KO c) {l : List α} (h : srtK c key l) {k : κ} : hasK key l k ↔ ∃ x, l[posK c key l k]? = some x ∧ key x = k := by
  constructor
  · rintro ⟨x, hx, rfl⟩
    obtain ⟨m, hm⟩ := List.mem_iff_getElem?.1 hx
    exact ⟨x, by rw [posK_at hc h hm]; exact hm, rfl⟩
  · rintro ⟨x, hx, e⟩
    exact ⟨x, List.mem_of_getElem? hx, e⟩
theorem hasK_pos (hc : KO c) {l : List α} (h : srtK c key l) {k : κ} (hk : hasK key l k) : posK c key l k < l.length := by
  obtain ⟨x, hx, -⟩ := (hasK_iff hc h).1 hk
  exact (List.getElem?_eq_some_iff.1 hx).1
theorem srtK_uniq (hc : KO c) {l : List α} (h : srtK c key l) {x y : α} (hx : x ∈ l) (hy : y ∈ l) (e : key x = key y) : x = y := by
  obtain ⟨m, hm⟩ := List.mem_iff_getElem?.1 hx
  obtain ⟨m', hm'⟩ := List.mem_iff_getElem?.1 hy
  have h1 := posK_at hc h hm
  have h2 := posK_at hc h hm'
  rw [e, h2] at h1
  subst h1
  rw [hm] at hm'
  injection hm'
/-- One more, in its place. -/
def insK (c : κ → κ → Int) (key : α → κ) (l : List α) (x : α) : List α := l.take (posK c key l (key x)) ++ x :: l.drop (posK c key l (key x))
/-- One less. -/
def delK (c : κ → κ → Int) (key : α → κ) (l : List α) (k : κ) : List α := l.take (posK c key l k) ++ l.drop (posK c key l k + 1)
theorem mem_insK {l : List α} {x y : α} : y ∈ insK c key l x ↔ y = x ∨ y ∈ l := by
  unfold insK
  rw [List.mem_append, List.mem_cons]
  constructor
  · rintro (h | h | h)
    · exact .inr (List.mem_of_mem_take h)
    · exact .inl h
    · exact .inr (List.mem_of_mem_drop h)
  · rintro (h | h)
    · exact .inr (.inl h)
    · rw [← List.take_append_drop (posK c key l (key x)) l, List.mem_append] at h
      exact h.imp id .inr
theorem srtK_ins (hc : KO c) {l : List α} (h : srtK c key l) {x : α} (hn : ¬ hasK key l (key x)) : srtK c key (insK c key l x) := by
  unfold insK srtK
  have hl : ∀ y ∈ l.take (posK c key l (key x)), c (key y) (key x) < 0 := by
    intro y hy
    obtain ⟨m, hm⟩ := List.mem_iff_getElem?.1 hy
    rw [List.getElem?_take] at hm
    split at hm
    · rename_i h1; exact posK_lt h1 hm
    · cases hm
  have hr : ∀ y ∈ l.drop (posK c key l (key x)), c (key x) (key y) < 0 := by
    intro y hy
    obtain ⟨m, hm⟩ := List.mem_iff_getElem?.1 hy
    rw [List.getElem?_drop] at hm
    have hg : ¬ c (key y) (key x) < 0 := by
      rcases Nat.eq_zero_or_pos m with rfl | hm0
      · exact posK_ge hm
      · intro h2
        have hlt : posK c key l (key x) < l.length := by have := (List.getElem?_eq_some_iff.1 hm).1; omega
        have h3 := List.getElem?_eq_getElem hlt
        exact posK_ge h3 (hc.trans _ _ _ (srtK_get h h3 hm (by omega)) h2)
    by_cases h1 : c (key x) (key y) < 0
    · exact h1
    · exact absurd ⟨y, List.mem_of_getElem? hm, (hc.tri h1 hg).symm⟩ hn
  refine List.pairwise_append.2 ⟨h.sublist (List.take_sublist _ _), List.pairwise_cons.2 ⟨hr, h.sublist (List.drop_sublist _ _)⟩, ?_⟩
  intro a ha b hb
  rcases List.mem_cons.1 hb with rfl | hb
  · exact hl a ha
  · exact hc.trans _ _ _ (hl a ha) (hr b hb)
theorem delK_sub {l : List α} {k : κ} : (delK c key l k).Sublist l := by
  unfold delK
  conv => rhs; rw [← List.take_append_drop (posK c key l k) l]
  refine List.Sublist.append (List.Sublist.refl _) ?_
  rw [← List.drop_drop]
  exact List.drop_sublist _ _
theorem srtK_del {l : List α} (h : srtK c key l) {k : κ} : srtK c key (delK c key l k) := h.sublist delK_sub
theorem mem_delK (hc : KO c) {l : List α} (h : srtK c key l) {k : κ} (hk : hasK key l k) {y : α} : y ∈ delK c key l k ↔ y ∈ l ∧ key y ≠ k := by
  obtain ⟨x, hx, rfl⟩ := (hasK_iff hc h).1 hk
  have hlt := (List.getElem?_eq_some_iff.1 hx).1
  have e : l = l.take (posK c key l (key x)) ++ x :: l.drop (posK c key l (key x) + 1) := by
    conv => lhs; rw [← List.take_append_drop (posK c key l (key x)) l]
    rw [List.drop_eq_getElem_cons hlt, (List.getElem?_eq_some_iff.1 hx).2]
  have hs := h
  unfold srtK at hs
  generalize posK c key l (key x) = p at *
  unfold delK
  rw [posK_at hc h hx]
  rw [e] at hs
  rw [List.pairwise_append, List.pairwise_cons] at hs
  constructor
  · intro hy
    rw [List.mem_append] at hy
    rcases hy with hy | hy
    · exact ⟨List.mem_of_mem_take hy, fun e2 => hc.irr (key x) (e2 ▸ hs.2.2 y hy x (by simp))⟩
    · exact ⟨List.mem_of_mem_drop hy, fun e2 => hc.irr (key x) (e2 ▸ hs.2.1.1 y hy)⟩
  · rintro ⟨hy, hne⟩
    rw [e, List.mem_append, List.mem_cons] at hy
    rw [List.mem_append]
    rcases hy with hy | rfl | hy
    · exact .inl hy
    · exact absurd rfl hne
    · exact .inr hy
theorem insK_len {l : List α} {x : α} : (insK c key l x).length = l.length + 1 := by
  have := posK_le (c := c) (key := key) l (key x)
  unfold insK
  rw [List.length_append, List.length_cons, List.length_take, List.length_drop]; omega
theorem delK_len {l : List α} {k : κ} (h : posK c key l k < l.length) : (delK c key l k).length + 1 = l.length := by
  unfold delK
  rw [List.length_append, List.length_take, List.length_drop]; omega
end
/-! texts -/
abbrev cmpN : List UInt8 → List UInt8 → Int := Lib.compareBytes
theorem cmpN_eq : ∀ a b : List UInt8, cmpN a b = 0 ↔ a = b
  | [], [] => by simp [cmpN, Lib.compareBytes]
  | [], _ :: _ => by simp [cmpN, Lib.compareBytes]
  | _ :: _, [] => by simp [cmpN, Lib.compareBytes]
  | x :: a, y :: b => by
    have ih := cmpN_eq a b
    simp only [cmpN] at ih ⊢
    unfold Lib.compareBytes
    by_cases h1 : x < y
    · have : x ≠ y := fun e => by subst e; exact UInt8.lt_irrefl _ h1
      simp [h1, this]
    · by_cases h2 : y < x
      · have : x ≠ y := fun e => by subst e; exact UInt8.lt_irrefl _ h2
        simp [h1, h2, this]
      · have : x = y := UInt8.le_antisymm (UInt8.not_lt.1 h2) (UInt8.not_lt.1 h1)
        simp [h1, h2, this, ih]
theorem cmpN_lt : ∀ a b : List UInt8, cmpN a b < 0 ↔ a < b
  | [], [] => by simp [cmpN, Lib.compareBytes]
  | [], _ :: _ => by simp [cmpN, Lib.compareBytes]
  | _ :: _, [] => by simp [cmpN, Lib.compareBytes]
  | x :: a, y :: b => by
    have ih := cmpN_lt a b
    simp only [cmpN] at ih ⊢
    unfold Lib.compareBytes
    rw [List.cons_lt_cons_iff]
    by_cases h1 : x < y
    · simp [h1]
    · by_cases h2 : y < x
      · have : x ≠ y := fun e => by subst e; exact UInt8.lt_irrefl _ h2
        simp [h1, h2, this]
      · have : x = y := UInt8.le_antisymm (UInt8.not_lt.1 h2) (UInt8.not_lt.1 h1)
        simp [h1, h2, this, ih]
theorem cmpN_gt : ∀ a b : List UInt8, 0 < cmpN a b ↔ b < a
  | [], [] => by simp [cmpN, Lib.compareBytes]
  | [], _ :: _ => by simp [cmpN, Lib.compareBytes]
  | _ :: _, [] => by simp [cmpN, Lib.compareBytes]
  | x :: a, y :: b => by
    have ih := cmpN_gt a b
    simp only [cmpN] at ih ⊢
    unfold Lib.compareBytes
    rw [List.cons_lt_cons_iff]
    by_cases h1 : x < y
    · have : ¬ y < x := fun h => UInt8.lt_asymm h1 h
      have h3 : y ≠ x := fun e => by subst e; exact UInt8.lt_irrefl _ h1
      simp [h1, this, h3]
    · by_cases h2 : y < x
      · simp [h1, h2]
      · have : x = y := UInt8.le_antisymm (UInt8.not_lt.1 h2) (UInt8.not_lt.1 h1)
        simp [h1, h2, this, ih]
theorem koN : KO cmpN where
  eq := cmpN_eq
  anti a b := by rw [cmpN_lt, cmpN_gt]
  trans a b d h1 h2 := by rw [cmpN_lt] at *; exact List.lt_trans h1 h2
theorem bytesLess_cmp : ∀ a b : List UInt8, Op.bytesLess a b = decide (cmpN a b < 0)
  | [], [] => by simp [Op.bytesLess, cmpN, Lib.compareBytes]
  | _ :: _, [] => by simp [Op.bytesLess, cmpN, Lib.compareBytes]
  | [], _ :: _ => by simp [Op.bytesLess, cmpN, Lib.compareBytes]
  | x :: a, y :: b => by
    have ih := bytesLess_cmp a b
    simp only [cmpN] at ih ⊢
    unfold Op.bytesLess Lib.compareBytes
    rw [ih]
    by_cases h1 : x < y
    · simp [h1]
    · by_cases h2 : y < x
      · have : x ≠ y := fun e => by subst e; exact UInt8.lt_irrefl _ h2
        simp [h1, h2, this]
      · have : x = y := UInt8.le_antisymm (UInt8.not_lt.1 h2) (UInt8.not_lt.1 h1)
        simp [h1, h2, this]
theorem abT_geq {a b : List UInt8} : abT .geq (S (bstr a)) (S (bstr b)) = some (B (decide (¬ cmpN a b < 0))) := by
  simp only [abT, astr2, bstr_toList, Option.map_some, bytesLess_cmp]
  by_cases h : cmpN a b < 0 <;> simp [h]
theorem abT_lss {a b : List UInt8} : abT .lss (S (bstr a)) (S (bstr b)) = some (B (decide (cmpN a b < 0))) := by
  simp only [abT, astr2, bstr_toList, Option.map_some, bytesLess_cmp]
theorem aivT_spec {l : List UInt8} {k : Nat} {i : Int} {y : UInt8} (hi : i = k) (h : l[k]? = some y) : aivT (S (bstr l)) (I i) = some (.lit (.int .u8 y.toNat)) := by
  subst hi
  have : (bstr l)[k]? = some y := by
    obtain ⟨h1, h2⟩ := List.getElem?_eq_some_iff.1 h
    have hs : k < (bstr l).size := by rw [bstr_size]; exact h1
    rw [getElem?_pos (bstr l) k hs]
    congr 1
  simp [aivT, aint, this]
theorem alnT_spec {l : List UInt8} (h : l.length ≤ 9223372036854775807) : alnT (S (bstr l)) = some (I l.length) := by
  simp [alnT, bstr_size]
end Go.Proofs.Ytpnfdibgfichmaa.Av
end
/-! YtpnfdibgfichmaaAvK -/
section
/- What a law is handed, as abstract values: readers, one for each shape of type. -/
set_option linter.unusedVariables false
set_option linter.unusedSimpArgs false
namespace Go.Proofs.Ytpnfdibgfichmaa.Av
open Go Go.RowKit

/-- A slice that is handed: what it holds, and whether it is nil. -/
structure Sl (α : Type) where
  l : List α
  nil : Bool

/-- How values of a type are read: each one that may be handed is some x of α, written in cells. -/
structure Rd (P : Program) (t : TypeId) (α : Type) where
  size : Nat
  enc : α → List AV
  ok : α → Prop
  cells : P.cellsOf t = size
  read : ∀ {H : Type} {e : TypeId × Value → H} {W : World} {fuel : Nat} {cs : List Value} {d : DataW H × List MemPlace}, DataW.trod e P W 0 (fun _ => true) true fuel t cs = some d →
    ∃ x, ok x ∧ cs.length = size ∧ VRs (Cfg.start W) (enc x) cs ∧ ∀ u ∈ cs, u.oneCell' = true

section
variable {P : Program}
def Rd.int {t : TypeId} (k : IntKind) (hu : P.underlying t = some (.int k)) (hc : P.cellsOf t = 1) : Rd P t Int where
  size := 1
  enc n := [.lit (.int k n)]
  ok n := k.min ≤ n ∧ n ≤ k.max
  cells := hc
  read {H e W fuel cs d} h := by
    obtain ⟨n, rfl, -, hw⟩ := DataW.trod_int hu h
    refine ⟨n, by simpa [Lit.wf] using hw, rfl, .cons (by simp only [VR]) .nil, by simp [Value.oneCell']⟩
def Rd.bool {t : TypeId} (hu : P.underlying t = some .bool) (hc : P.cellsOf t = 1) : Rd P t Bool where
  size := 1
  enc b := [.lit (.bool b)]
  ok _ := True
  cells := hc
  read {H e W fuel cs d} h := by
    obtain ⟨b, rfl, -⟩ := DataW.trod_bool hu h
    exact ⟨b, trivial, rfl, .cons (by simp only [VR]) .nil, by simp [Value.oneCell']⟩
def Rd.string {t : TypeId} (hu : P.underlying t = some .string) (hc : P.cellsOf t = 1) : Rd P t ByteArray where
  size := 1
  enc s := [.lit (.string s)]
  ok s := s.size ≤ maxLen
  cells := hc
  read {H e W fuel cs d} h := by
    obtain ⟨s, rfl, -, hs⟩ := DataW.trod_string hu h
    exact ⟨s, hs, rfl, .cons (by simp only [VR]) .nil, by simp [Value.oneCell']⟩
/-- Elements that lie one behind the other. -/
theorem read_row {t : TypeId} {α : Type} (E : Rd P t α) {W : World} {a : Addr} {H : Type} {e : TypeId × Value → H} {fuel : Nat} : ∀ (n : Nat) (ds : List (DataW H × List MemPlace)), ds.length = n →
    (∀ i, i < n → (W.cells? 0 (a.add (i * P.cellsOf t)) (P.cellsOf t)).bind (DataW.trod e P W 0 (fun _ => true) true fuel t) = ds[i]?) →
    ∃ (xs : List α) (vs : List Value), xs.length = n ∧ (∀ x ∈ xs, E.ok x) ∧ vs.length = n * E.size ∧ VRs (Cfg.start W) (xs.flatMap E.enc) vs ∧ ∀ (i : Nat) (v : Value), vs[i]? = some v → W.cell? (a.add i) = some v ∧ v.oneCell' = true
  | 0, ds, hl, h => ⟨[], [], rfl, by simp, by simp, .nil, by simp⟩
  | n + 1, ds, hl, h => by
    obtain ⟨xs, vs, h1, h2, h3, h4, h5⟩ := read_row E n (ds.take n) (by rw [List.length_take]; omega) (fun i hi => by
      rw [h i (by omega), List.getElem?_take, if_pos hi])
    have hn := h n (by omega)
    rw [List.getElem?_eq_getElem (by omega)] at hn
    obtain ⟨cs, hcs, htr⟩ := Option.bind_eq_some_iff.1 hn
    obtain ⟨x, hx, hxl, hxv, hx1⟩ := E.read htr
    obtain ⟨-, hcl, hcell⟩ := World.cells?_some hcs
    refine ⟨xs ++ [x], vs ++ cs, by simp [h1], ?_, ?_, ?_, ?_⟩
    · intro y hy
      simp only [List.mem_append, List.mem_singleton] at hy
      rcases hy with hy | rfl
      · exact h2 y hy
      · exact hx
    · rw [List.length_append, h3, hxl, Nat.succ_mul]
    · rw [List.flatMap_append]
      simpa using h4.append hxv
    · intro i v hv
      rcases Nat.lt_or_ge i vs.length with hlt | hge
      · rw [List.getElem?_append_left hlt] at hv
        exact h5 i v hv
      · rw [List.getElem?_append_right hge, h3] at hv
        have hlt := (List.getElem?_eq_some_iff.1 hv).1
        have := hcell (i - n * E.size) (by rw [← hcl]; exact hlt)
        rw [hv, E.cells, Addr.add_add] at this
        rw [show n * E.size + (i - n * E.size) = i by omega] at this
        exact ⟨this, hx1 v (List.mem_of_getElem? hv)⟩
def Rd.slice {t e : TypeId} {α : Type} (E : Rd P e α) (hu : P.underlying t = some (.slice e)) (hc : P.cellsOf t = 1) : Rd P t (Sl α) where
  size := 1
  enc s := [if s.nil then .lit (.slice none 0 0) else .imm (s.l.flatMap E.enc) s.l.length E.size]
  ok s := (s.nil = true → s.l = []) ∧ s.l.length ≤ maxLen ∧ ∀ x ∈ s.l, E.ok x
  cells := hc
  read {H e' W fuel cs d} h := by
    rcases DataW.trod_slice hu h with ⟨rfl, -⟩ | ⟨a, len, cap, elems, rest, n, -, rfl, -, -, h1, h2, h3, h4, -, -⟩
    · exact ⟨⟨[], true⟩, ⟨fun _ => rfl, by simp, by simp⟩, rfl, .cons (by simp only [if_true, VR]) .nil, by simp [Value.oneCell']⟩
    · obtain ⟨xs, vs, g1, g2, g3, g4, g5⟩ := read_row E len elems h3 h4
      refine ⟨⟨xs, false⟩, ⟨by simp, by simp only; omega, g2⟩, rfl, .cons ?_ .nil, by simp [Value.oneCell']⟩
      simp only [Bool.false_eq_true, if_false, VR]
      refine ⟨a, cap, vs, by rw [g1], by omega, .inr ⟨fun hh => hh.elim id id, g5⟩, g4⟩
/-- The fields of a struct from one on. -/
structure Rds (P : Program) (fs : List Field) (off total : Nat) (α : Type) where
  enc : α → List AV
  ok : α → Prop
  le : off ≤ total
  read : ∀ {H : Type} {e : TypeId × Value → H} {W : World} {fuel : Nat} {cs : List Value} {ds : List (DataW H × List MemPlace)}, cs.length = total → ds.length = fs.length →
    (∀ (i : Nat) (f : Field), fs[i]? = some f → DataW.trod e P W 0 (fun _ => true) true fuel f.type ((cs.drop f.offset).take (P.cellsOf f.type)) = ds[i]?) →
    ∃ x, ok x ∧ VRs (Cfg.start W) (enc x) (cs.drop off) ∧ ∀ u ∈ cs.drop off, u.oneCell' = true
def Rds.nil (P : Program) (total : Nat) : Rds P [] total total Unit where
  enc _ := []
  ok _ := True
  le := Nat.le_refl _
  read {H e W fuel cs ds} hl _ _ := ⟨(), trivial, by rw [List.drop_of_length_le (by omega)]; exact .nil, by rw [List.drop_of_length_le (by omega)]; simp⟩
def Rds.cons {f : Field} {fs : List Field} {t : TypeId} {off total : Nat} {α β : Type} (E : Rd P t α) (R : Rds P fs (off + E.size) total β) (ht : f.type = t) (ho : f.offset = off) : Rds P (f :: fs) off total (α × β) where
  enc x := E.enc x.1 ++ R.enc x.2
  ok x := E.ok x.1 ∧ R.ok x.2
  le := Nat.le_trans (Nat.le_add_right _ _) R.le
  read {H e W fuel cs ds} hl hd h := by
    subst ht
    cases ds with
    | nil => simp at hd
    | cons d ds =>
      have h0 := h 0 f rfl
      simp only [List.getElem?_cons_zero] at h0
      obtain ⟨x, hx, hxl, hxv, hx1⟩ := E.read h0
      obtain ⟨y, hy, hyv, hy1⟩ := R.read hl (by simpa using hd) (fun i g hg => by simpa using h (i + 1) g (by simpa using hg))
      have e1 : cs.drop off = (cs.drop f.offset).take (P.cellsOf f.type) ++ cs.drop (off + E.size) := by
        rw [ho, E.cells]
        rw [← List.drop_drop, List.take_append_drop]
      rw [e1]
      refine ⟨(x, y), ⟨hx, hy⟩, hxv.append hyv, ?_⟩
      intro u hu
      rcases List.mem_append.1 hu with hu | hu
      · exact hx1 u hu
      · exact hy1 u hu
def Rd.struct {t : TypeId} {fs : Array Field} {total : Nat} {α : Type} (R : Rds P fs.toList 0 total α) (hu : P.underlying t = some (.struct fs)) (hc : P.cellsOf t = total) : Rd P t α where
  size := total
  enc := R.enc
  ok := R.ok
  cells := hc
  read {H e W fuel cs d} h := by
    obtain ⟨xs, n, -, -, hl, hxl, hx⟩ := DataW.trod_struct hu h
    rw [hc] at hl
    obtain ⟨x, h1, h2, h3⟩ := R.read (ds := xs) hl (by simpa using hxl) (fun i f hf => hx i f (by simpa using hf))
    exact ⟨x, h1, hl, by simpa using h2, by simpa using h3⟩
/-- An array's elements. -/
theorem read_arr {t : TypeId} {α : Type} (E : Rd P t α) {W : World} {H : Type} {e : TypeId × Value → H} {fuel : Nat} : ∀ (n : Nat) (cs : List Value) (ds : List (DataW H × List MemPlace)), ds.length = n → cs.length = n * E.size →
    (∀ i, i < n → DataW.trod e P W 0 (fun _ => true) true fuel t ((cs.drop (i * P.cellsOf t)).take (P.cellsOf t)) = ds[i]?) →
    ∃ (xs : List α), xs.length = n ∧ (∀ x ∈ xs, E.ok x) ∧ VRs (Cfg.start W) (xs.flatMap E.enc) cs ∧ ∀ u ∈ cs, u.oneCell' = true
  | 0, cs, ds, hl, hc, h => by
    have : cs = [] := List.eq_nil_of_length_eq_zero (by simpa using hc)
    subst this
    exact ⟨[], rfl, by simp, .nil, by simp⟩
  | n + 1, cs, d :: ds, hl, hc, h => by
    have h0 := h 0 (by omega)
    simp only [Nat.zero_mul, List.drop_zero, List.getElem?_cons_zero] at h0
    obtain ⟨x, hx, hxl, hxv, hx1⟩ := E.read h0
    obtain ⟨xs, h1, h2, h3, h4⟩ := read_arr E n (cs.drop E.size) ds (by simpa using hl) (by rw [List.length_drop, hc, Nat.succ_mul]; omega) (fun i hi => by
      have := h (i + 1) (by omega)
      rw [List.getElem?_cons_succ] at this
      rw [← this, List.drop_drop, E.cells]
      congr 3
      rw [Nat.succ_mul]; omega)
    refine ⟨x :: xs, by simp [h1], ?_, ?_, ?_⟩
    · intro y hy
      rcases List.mem_cons.1 hy with rfl | hy
      · exact hx
      · exact h2 y hy
    · rw [List.flatMap_cons, ← List.take_append_drop E.size cs]
      rw [E.cells] at hxv
      exact hxv.append h3
    · intro u hu
      rw [← List.take_append_drop E.size cs] at hu
      rcases List.mem_append.1 hu with hu | hu
      · exact hx1 u (by rw [E.cells]; exact hu)
      · exact h4 u hu
def Rd.array {t e : TypeId} {α : Type} (n : Nat) (E : Rd P e α) (hu : P.underlying t = some (.array n e)) (hc : P.cellsOf t = n * E.size) : Rd P t (List α) where
  size := n * E.size
  enc xs := xs.flatMap E.enc
  ok xs := xs.length = n ∧ ∀ x ∈ xs, E.ok x
  cells := hc
  read {H e' W fuel cs d} h := by
    obtain ⟨xs, m, -, -, hl, hxl, hx⟩ := DataW.trod_array hu h
    rw [hc] at hl
    obtain ⟨ys, h1, h2, h3, h4⟩ := read_arr E n cs xs hxl hl hx
    exact ⟨ys, ⟨h1, h2⟩, hl, h3, h4⟩
/-- A whole argument: one cell, or a struct's (an array's) cells. -/
theorem Rd.arg1 {t : TypeId} {α : Type} (E : Rd P t α) {H : Type} {e : TypeId × Value → H} {W : World} {v : Value} {d : DataW H} {ps : List MemPlace} (hv : v.cells = #[v])
    (h : DataW.Trod e P W 0 (fun _ => true) true t v d ps) : ∃ x, E.ok x ∧ VRs (Cfg.start W) (E.enc x) [v] := by
  obtain ⟨fuel, h⟩ := h
  obtain ⟨x, h1, -, h2, -⟩ := E.read h
  rw [hv] at h2
  exact ⟨x, h1, h2⟩
theorem Rd.argN {t : TypeId} {α : Type} (E : Rd P t α) {H : Type} {e : TypeId × Value → H} {W : World} {cs : Array Value} {d : DataW H} {ps : List MemPlace}
    (h : DataW.Trod e P W 0 (fun _ => true) true t (.agg cs) d ps) : ∃ x, E.ok x ∧ VRs (Cfg.start W) [.agg (E.enc x)] [.agg cs] := by
  obtain ⟨fuel, h⟩ := h
  obtain ⟨x, h1, -, h2, -⟩ := E.read h
  exact ⟨x, h1, .cons (by simp only [VR]; exact ⟨cs, rfl, h2⟩) .nil⟩
end
end Go.Proofs.Ytpnfdibgfichmaa.Av
end
/-! YtpnfdibgfichmaaAvK2 -/
section
/- Bytes that are handed. -/
set_option linter.unusedVariables false
set_option linter.unusedSimpArgs false
namespace Go.Proofs.Ytpnfdibgfichmaa.Av
open Go Go.RowKit
def Rd.byte {P : Program} {t : TypeId} (hu : P.underlying t = some (.int .u8)) (hc : P.cellsOf t = 1) : Rd P t UInt8 where
  size := 1
  enc b := [.lit (.int .u8 b.toNat)]
  ok _ := True
  cells := hc
  read {H e W fuel cs d} h := by
    obtain ⟨n, rfl, -, hw⟩ := DataW.trod_int hu h
    have hb : 0 ≤ n ∧ n ≤ 255 := by simpa [Lit.wf, IntKind.min, IntKind.max, IntKind.signed, IntKind.bits] using hw
    refine ⟨UInt8.ofNat n.toNat, trivial, rfl, .cons ?_ .nil, by simp [Value.oneCell']⟩
    simp only [VR]
    congr 1
    have : n.toNat < 256 := by omega
    rw [UInt8.toNat_ofNat_of_lt' this]
    omega
end Go.Proofs.Ytpnfdibgfichmaa.Av
end
/-! YtpnfdibgfichmaaAvK3 -/
section
/- Laws: what they are handed as lists; that they come to true. -/
set_option linter.unusedVariables false
set_option linter.unusedSimpArgs false
namespace Go.Proofs.Ytpnfdibgfichmaa.Av
open Go Go.RowKit
section
variable {P : Program} {f : FuncId} {args : List AV}
theorem BPure.of_true (h : ACalls P f [] [] fun r _ => r = B true) : BPure P f [] (B true) := fun H =>
  ACalls.pure (R' := fun r => r = B true) h (by simp only [Bels]) (fun r X hr => ⟨1, r, by rw [hr]; rfl, hr⟩) H
theorem law_of {H : AH} (h : ∃ r H', r = B true ∧ BCall P f args H r H') : ACalls P f args H fun r _ => r = .lit (.bool true) := by
  obtain ⟨r, H', rfl, h⟩ := h
  exact h.mono fun r1 H1 h1 => h1.1
/-- A slice that is handed, as a value that names no object. -/
theorem sl_sv {α : Type} {t : TypeId} (E : Rd P t α) (s : Sl α) (hn : s.nil = true → s.l = []) (hsz : ∀ x, (E.enc x).length = E.size) (hi : ∀ x ∈ s.l, noIdss (E.enc x) = true) :
    SV E.enc E.size s.l (if s.nil then .lit (.slice none 0 0) else .imm (s.l.flatMap E.enc) s.l.length E.size) := by
  obtain ⟨l, nil⟩ := s
  cases nil with
  | true =>
    have := hn rfl
    simp only at this
    subst this
    exact SV.nil
  | false => exact SV.imm hsz hi
end
end Go.Proofs.Ytpnfdibgfichmaa.Av
end
