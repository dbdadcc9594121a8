/- Bytes and texts. -/
import Derived.Test.YthgkepaadkmhoaaAvN
import Derived.Laws.IdiomStrings
set_option linter.unusedVariables false
set_option linter.unusedSimpArgs false
namespace Go.Proofs.Ythgkepaadkmhoaa.Av
open Go Go.RowKit

def encB (l : List UInt8) : List AV := l.map fun b => .lit (.int .u8 b.toNat)
theorem encB_app (a b : List UInt8) : encB (a ++ b) = encB a ++ encB b := by simp [encB]
theorem encB_len (a : List UInt8) : (encB a).length = a.length := by simp [encB]
theorem encB_take (a : List UInt8) (n : Nat) : (encB a).take n = encB (a.take n) := by simp [encB]
theorem encB_drop (a : List UInt8) (n : Nat) : (encB a).drop n = encB (a.drop n) := by simp [encB]
theorem encB_get (a : List UInt8) (n : Nat) : (encB a)[n]? = (a[n]?).map fun b => .lit (.int .u8 b.toNat) := by simp [encB]
def encU (b : UInt8) : List AV := [.lit (.int .u8 b.toNat)]
theorem encU_len (b : UInt8) : (encU b).length = 1 := rfl
theorem flat_encU (l : List UInt8) : l.flatMap encU = encB l := by
  induction l with
  | nil => rfl
  | cons a l ih => rw [List.flatMap_cons, ih]; rfl
theorem noIdss_encB (l : List UInt8) : noIdss (encB l) = true := by
  induction l with
  | nil => rfl
  | cons a l ih => simpa [encB, noIdss, noIds] using ih
/-- A text of bytes. -/
def bstr (l : List UInt8) : ByteArray := ⟨l.toArray⟩
theorem bstr_size (l : List UInt8) : (bstr l).size = l.length := rfl
theorem bstr_app (a b : List UInt8) : bstr a ++ bstr b = bstr (a ++ b) := by
  have : (bstr a ++ bstr b).data = (bstr (a ++ b)).data := by simp [bstr]
  cases h : bstr a ++ bstr b; rw [h] at this; simp only at this; rw [this]
theorem toList_loop (s : ByteArray) : ∀ (n i : Nat) (r : List UInt8), s.size - i = n → ByteArray.toList.loop s i r = r.reverse ++ s.data.toList.drop i := by
  intro n
  induction n with
  | zero =>
    intro i r h
    unfold ByteArray.toList.loop
    rw [if_neg (by omega), List.drop_of_length_le (by have : s.data.toList.length = s.size := by rw [Array.length_toList]; rfl
                                                      omega)]
    simp
  | succ n ih =>
    intro i r h
    unfold ByteArray.toList.loop
    have hi : i < s.size := by omega
    rw [if_pos hi, ih (i + 1) _ (by omega)]
    have hl : i < s.data.toList.length := by rw [Array.length_toList]; exact hi
    rw [List.drop_eq_getElem_cons hl]
    simp [ByteArray.get!, getElem!_def]
    have : s.data[i]? = some s.data[i] := Array.getElem?_eq_getElem hi
    simp [this]
theorem toList_data (s : ByteArray) : s.toList = s.data.toList := by
  unfold ByteArray.toList
  rw [toList_loop s s.size 0 [] (by simp)]
  simp
theorem bstr_toList (l : List UInt8) : (bstr l).toList = l := by rw [toList_data]; simp [bstr]
theorem bstr_of (s : ByteArray) : ∃ l, s = bstr l := ⟨s.data.toList, by cases s; simp [bstr]⟩
theorem bstr_inj {a b : List UInt8} : bstr a = bstr b ↔ a = b := ⟨fun h => by have := congrArg ByteArray.toList h; rwa [bstr_toList, bstr_toList] at this, fun h => by rw [h]⟩
theorem avInts_encB (l : List UInt8) : avInts (encB l) = some (l.map fun b => (b.toNat : Int)) := by
  induction l with
  | nil => rfl
  | cons a l ih =>
    have : encB (a :: l) = .lit (.int .u8 a.toNat) :: encB l := rfl
    rw [this]; simp only [avInts, ih]; rfl
theorem pushAll_bytes (l : List UInt8) : pushAll (l.map fun b => (b.toNat : Int)) = bstr l := by
  unfold pushAll
  rw [foldl_push_byteCells]
  unfold bstr
  have : (ByteArray.empty.data ++ l.toArray) = l.toArray := by
    apply Array.ext'
    simp [ByteArray.empty, ByteArray.emptyWithCapacity]
    try rfl
  rw [this]
theorem acB_spec {H : AH} {x : AV} {l : List UInt8} {n : Nat} (h : sliceCells H 1 x = some (encB l, n)) : acB H x = some (S (bstr l)) := by
  unfold acB
  split
  · simp [sliceCells] at h
  · rw [h]; simp only [avInts_encB]; rw [← pushAll_bytes]; rfl
theorem abT_eql {a b : List UInt8} : abT .eql (S (bstr a)) (S (bstr b)) = some (B (decide (a = b))) := by
  simp only [abT, astr2, bstr_toList, Option.map_some]
  by_cases h : a = b <;> simp [h]
theorem abT_neq {a b : List UInt8} : abT .neq (S (bstr a)) (S (bstr b)) = some (B (decide (a ≠ b))) := by
  simp only [abT, astr2, bstr_toList, Option.map_some]
  by_cases h : a = b <;> simp [h]
theorem abT_add {a b : List UInt8} (h : a.length + b.length ≤ 9223372036854775807) : abT .add (S (bstr a)) (S (bstr b)) = some (S (bstr (a ++ b))) := by
  unfold abT astr2
  have h1 : ¬ (((bstr a).size + (bstr b).size : Nat) : Int) > 9223372036854775807 := by rw [bstr_size, bstr_size]; omega
  simp only [if_neg h1, bstr_app]
  rfl
theorem bstr_nil : (⟨#[]⟩ : ByteArray) = bstr [] := rfl
/-- A list of bytes that is handed. -/
theorem SV.bytes {l : List UInt8} {v : AV} (h : SV encU 1 l v) (H : AH) : sliceCells H 1 v = some (encB l, l.length) := by rw [h.2 H, flat_encU]
theorem SV.noId {α : Type} {enc : α → List AV} {sz : Nat} {l : List α} {v : AV} (h : SV enc sz l v) : idS v = [] := by
  have := h.1
  cases v <;> simp [idS, noIds] at this ⊢
/-- An element, by its cells. -/
theorem aix_byte {H : AH} {v : AV} {l : List UInt8} {n k : Nat} {i : Int} {b : UInt8} (h : sliceCells H 1 v = some (encB l, n)) (hi : i = k) (hb : l[k]? = some b) : ∃ p, aixS 1 v (.lit (.int .i64 i)) = some p ∧ (∃ c, rdAt H p = some c) ∧ ald false 1 H p = some (.lit (.int .u8 b.toNat)) := by
  have hl := sliceCells_len h
  rw [encB_len] at hl
  have hk := (List.getElem?_eq_some_iff.1 hb).1
  obtain ⟨p, c, h1, h2, h3, h4⟩ := aixS_spec h hi (show k < n by omega)
  refine ⟨p, h1, ⟨c, h2⟩, ?_⟩
  rw [ald_at h2 (by omega) h4, rdCells_one]
  have := congrArg (fun l => l[0]?) h3
  simp only [Nat.mul_one] at this
  rw [List.getElem?_take_of_lt (by omega), List.getElem?_take_of_lt (by omega), List.getElem?_drop, Nat.add_zero, encB_get, hb] at this
  exact this
/-- An element is written, where it is one cell. -/
theorem ast_cell {H : AH} {v x : AV} {cs : List AV} {n k : Nat} {i : Int} (h : sliceCells H 1 v = some (cs, n)) (ho : ownedS v = true) (hi : i = k) (hk : k < n) (hx : oneA x = true) :
    ∃ p H', aixS 1 v (.lit (.int .i64 i)) = some p ∧ ast 1 H p x = some H' ∧ sliceCells H' 1 v = some (cs.set k x, n) ∧ H'.length = H.length ∧ ∀ j, j ∉ idS v → H'[j]? = H[j]? := by
  subst hi
  have hcl := sliceCells_len h
  unfold sliceCells at h
  split at h
  · simp [ownedS] at ho
  · rename_i o off len esz cap
    split at h
    · rename_i c hoc
      split at h
      · rename_i hb
        obtain ⟨rfl, hb⟩ := hb
        injection h with h; injection h with h1 h2
        subst h1; subst h2
        have hol := (List.getElem?_eq_some_iff.1 hoc).1
        refine ⟨.ptr o (off + k * 1), H.set o (some (.cells (c.set (off + k) x))), ?_, ?_, ?_, by simp, fun j hj => List.getElem?_set_ne (by simp [idS] at hj; omega)⟩
        · simp only [aixS, aint]
          rw [if_pos ⟨by omega, by omega⟩]
          simp
        · simp only [ast, cellsA_one hx, hoc]
          rw [if_pos ⟨rfl, by omega⟩]
          simp [splice]
        · rw [sliceCells_sl (c := c.set (off + k) x) (by rw [List.getElem?_set_self hol]) (by simpa using hb)]
          congr 2
          have hle : ¬ off + k < off := by omega
          have hs : off + k - off = k := by omega
          rw [List.drop_set, if_neg hle, List.take_set, hs]
      · cases h
    · cases h
  · injection h with h; injection h with h1 h2; omega
  · injection h with h; injection h with h1 h2; omega
  · cases h
theorem wrap_u8 (n : Int) : ∃ b : UInt8, IntKind.u8.wrap n = b.toNat := by
  refine ⟨UInt8.ofNat (IntKind.u8.wrap n).toNat, ?_⟩
  have : 0 ≤ IntKind.u8.wrap n ∧ IntKind.u8.wrap n < 256 := by simp [IntKind.wrap, IntKind.bits, IntKind.signed]; omega
  have h2 : (IntKind.u8.wrap n).toNat < 256 := by omega
  rw [UInt8.toNat_ofNat_of_lt' h2]
  omega
theorem encB_set (l : List UInt8) (k : Nat) (b : UInt8) : (encB l).set k (.lit (.int .u8 b.toNat)) = encB (l.set k b) := by simp [encB, List.map_set]
end Go.Proofs.Ythgkepaadkmhoaa.Av
