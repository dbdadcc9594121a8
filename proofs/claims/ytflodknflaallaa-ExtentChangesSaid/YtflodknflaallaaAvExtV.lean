/- Chapter 11, in plain terms: what is read of what was written, cut off, given, taken. -/
import Derived.Test.YtflodknflaallaaAvExtM
import Derived.Test.YtflodknflaallaaAvExtW
set_option linter.unusedVariables false
set_option linter.unusedSimpArgs false
set_option maxRecDepth 100000
namespace Go.Proofs.Ytflodknflaallaa.Av
open Go Go.RowKit
theorem atC_may {size : Int} {l : List Ext} (h : mayC size l) (p : Int) : atC size l p = if 0 ≤ p ∧ p < size then ((atL l p).toNat : Int) else -1 := by
  unfold atC
  by_cases c : 0 ≤ p ∧ p < size
  · rw [if_pos (show inC size l p 1 from ⟨h, c.1, by omega, by omega, c.2⟩), if_pos c]
  · rw [if_neg (fun (g : inC size l p 1) => c ⟨g.2.1, g.2.2.2.2⟩), if_neg c]
theorem writeC_none {c : Cont} {pos : Int} {bs : List UInt8} (hm : mayC c.1 c.2) (hb : bs.length ≤ 4096) : writeC c pos bs = none ↔ (pos < 0 ∨ 1099511627776 - bs.length < pos) := by
  unfold writeC
  split
  · rename_i g
    simp; omega
  · rename_i g
    simp only [true_iff]
    by_cases h : pos < 0
    · exact .inl h
    · exact .inr (by
        have : ¬ (pos ≤ 1099511627776 - bs.length) := fun h2 => g ⟨hm, by omega, hb, h2⟩
        omega)
theorem writeC_some {c d : Cont} {pos : Int} {bs : List UInt8} (h : writeC c pos bs = some d) : mayC c.1 c.2 ∧ 0 ≤ pos ∧ bs.length ≤ 4096 ∧ pos ≤ 1099511627776 - bs.length ∧ d = if bs = [] then c else (max c.1 (pos + bs.length), writeL c.2 pos bs) := by
  unfold writeC at h
  split at h
  · rename_i g
    injection h with h
    exact ⟨g.1, g.2.1, g.2.2.1, g.2.2.2, h.symm⟩
  · cases h
theorem write_read {c d : Cont} {pos : Int} {bs : List UInt8} (h : writeC c pos bs = some d) : readC d.1 d.2 pos bs.length = bs := by
  have hm := may_write h
  obtain ⟨g1, g2, g3, g4, rfl⟩ := writeC_some h
  unfold readC
  by_cases hb : bs = []
  · subst hb
    rw [if_pos rfl]
    split
    · simp [bytesL, show (min 0 (c.1 - pos)).toNat = 0 by omega]
    · rfl
  · have hlen : 0 < bs.length := List.length_pos_iff.2 hb
    rw [if_neg hb] at hm ⊢
    have hs := (may_at.1 g1).2.2.1
    rw [if_pos ⟨hm, g2, by omega, by omega, by simp only; omega⟩]
    refine List.ext_getElem? fun i => ?_
    rw [bytesL_get]
    simp only
    by_cases hi : i < bs.length
    · rw [if_pos (by omega), wr_at hs, if_pos (by omega), show (pos + (i : Int) - pos).toNat = i by omega, List.getD_eq_getElem?_getD, List.getElem?_eq_getElem hi]; rfl
    · rw [if_neg (by omega), List.getElem?_eq_none (by omega)]
theorem write_at {c d : Cont} {pos : Int} {bs : List UInt8} (h : writeC c pos bs = some d) (p : Int) :
    atC d.1 d.2 p = if pos ≤ p ∧ p - pos < bs.length then ((bs.getD (p - pos).toNat 0).toNat : Int) else if 0 < bs.length ∧ c.1 ≤ p ∧ p < pos then 0 else atC c.1 c.2 p := by
  have hm := may_write h
  obtain ⟨g1, g2, g3, g4, rfl⟩ := writeC_some h
  rw [atC_may hm, atC_may g1]
  by_cases hb : bs = []
  · subst hb
    simp only [if_true, List.length_nil]
    rw [if_neg (c := pos ≤ p ∧ _) (by omega), if_neg (c := 0 < 0 ∧ _) (by omega)]
  · have hlen : 0 < bs.length := List.length_pos_iff.2 hb
    have hs := (may_at.1 g1).2.2.1
    have hz := (may_at.1 g1).2.2.2.2
    have h0 := g1.1
    rw [if_neg hb]
    simp only
    rw [wr_at hs]
    by_cases c1 : pos ≤ p ∧ p - pos < bs.length
    · rw [if_pos (by omega), if_pos (by omega), if_pos c1]
    · rw [if_neg c1, if_neg (c := pos ≤ p ∧ p < pos + _) (by omega)]
      by_cases c2 : c.1 ≤ p ∧ p < pos
      · rw [if_pos (by omega), if_pos ⟨hlen, c2.1, c2.2⟩, hz p c2.1]; rfl
      · rw [if_neg (c := 0 < bs.length ∧ _) (fun h => c2 h.2)]
        by_cases c3 : 0 ≤ p ∧ p < c.1
        · rw [if_pos (by omega), if_pos c3]
        · rw [if_neg (by omega), if_neg c3]
theorem trunc_some {c : Cont} {size : Int} (hm : mayC c.1 c.2) (h0 : 0 ≤ size) (h1 : size ≤ 1099511627776) : truncC c size = some (size, truncL c.2 size) := if_pos ⟨hm, h0, h1⟩
theorem trunc_at {c : Cont} {size : Int} (hm : mayC c.1 c.2) (h0 : 0 ≤ size) (h1 : size ≤ 1099511627776) (p : Int) : atC size (truncL c.2 size) p = if 0 ≤ p ∧ p < size then (if p < c.1 then atC c.1 c.2 p else 0) else -1 := by
  rw [atC_may (may_trunc (trunc_some hm h0 h1)), atC_may hm]
  obtain ⟨-, -, a3, a4, a5⟩ := may_at.1 hm
  rw [tr_at a3 (fun no h => (a4 no h).2)]
  by_cases c1 : 0 ≤ p ∧ p < size
  · rw [if_pos c1, if_pos c1, if_pos c1.2]
    by_cases c2 : p < c.1
    · rw [if_pos c2, if_pos ⟨c1.1, c2⟩]
    · rw [if_neg c2, a5 p (by omega)]; rfl
  · rw [if_neg c1, if_neg c1]
theorem punch_some {c : Cont} {pos n : Int} (hm : mayC c.1 c.2) (h0 : 0 ≤ pos) (h1 : 1 ≤ n) (h2 : n ≤ 1099511627776) (h3 : pos ≤ 1099511627776 - n) : punchC c pos n = some (c.1, punchL c.2 pos n) := if_pos ⟨hm, h0, h1, h2, h3⟩
theorem punch_at {c d : Cont} {pos n : Int} (h : punchC c pos n = some d) (p : Int) : atC d.1 d.2 p = if 0 ≤ atC c.1 c.2 p ∧ pos ≤ p ∧ p < pos + n then 0 else atC c.1 c.2 p := by
  have hm := may_punch h
  unfold punchC at h
  split at h
  · rename_i g
    injection h with h
    subst h
    simp only at hm ⊢
    rw [atC_may hm, atC_may g.1, pu_at (may_at.1 g.1).2.2.1]
    by_cases c1 : 0 ≤ p ∧ p < c.1
    · rw [if_pos c1, if_pos c1]
      by_cases c2 : pos ≤ p ∧ p < pos + n
      · rw [if_pos c2, if_pos ⟨by omega, c2⟩]; rfl
      · rw [if_neg c2, if_neg (fun h => c2 h.2)]
    · rw [if_neg c1, if_neg c1, if_neg (by omega)]
  · cases h
theorem punch_len (l : List Ext) (pos n : Int) : (punchL l pos n).length = (l.filter fun x => decide (x.no * 8 < pos) || decide (pos + n < (x.no + 1) * 8)).length := by
  unfold punchL wipeL
  rw [List.length_map]
  congr 1
  refine List.filter_congr fun x _ => ?_
  unfold gone
  by_cases c1 : pos ≤ x.no * 8 <;> by_cases c2 : x.no * 8 + 8 ≤ pos + n <;> simp [c1, c2] <;> omega
theorem alloc_some {c : Cont} {pos n : Int} {keep : Bool} (hm : mayC c.1 c.2) (h0 : 0 ≤ pos) (h1 : 1 ≤ n) (h2 : n ≤ 32768) (h3 : pos ≤ 1099511627776 - n) : allocC c pos n keep = some (if keep then c.1 else max c.1 (pos + n), allocL c.2 pos n) := if_pos ⟨hm, h0, h1, h2, h3⟩
theorem alloc_at {c d : Cont} {pos n : Int} {keep : Bool} (h : allocC c pos n keep = some d) (p : Int) : atC d.1 d.2 p = if c.1 ≤ p ∧ p < d.1 then 0 else atC c.1 c.2 p := by
  have hm := may_alloc h
  unfold allocC at h
  split at h
  · rename_i g
    injection h with h
    subst h
    have hz := (may_at.1 g.1).2.2.2.2
    have h0 := g.1.1
    rw [atC_may hm, atC_may g.1]
    simp only [allocL]
    rw [ns_at (may_at.1 g.1).2.2.1]
    have hle : c.1 ≤ if keep then c.1 else max c.1 (pos + n) := by split <;> omega
    generalize (if keep then c.1 else max c.1 (pos + n)) = s at hle
    by_cases c1 : c.1 ≤ p ∧ p < s
    · rw [if_pos c1, if_pos (by omega), hz p c1.1]; rfl
    · rw [if_neg c1]
      by_cases c2 : 0 ≤ p ∧ p < c.1
      · rw [if_pos c2, if_pos (by omega)]
      · rw [if_neg c2, if_neg (by omega)]
  · cases h
theorem data_here {size p : Int} {l : List Ext} (hm : mayC size l) (h0 : 0 ≤ p) (h1 : p < size) (h : hasL l (p / 8)) : dataC size l p = some p := by
  have hs := (may_at.1 hm).2.2.1
  obtain ⟨a, b⟩ := dataL_spec (size := size) h0 hs
  unfold dataC
  rw [if_pos ⟨hm, h0⟩]
  cases hd : dataL size p l with
  | none => exact absurd h (b hd p (by omega) h1)
  | some d =>
    obtain ⟨e1, e2, e3, e4⟩ := a d hd
    by_cases c : p < d
    · exact absurd h (e4 p (by omega) c)
    · congr 1; omega
theorem alloc_data {c d : Cont} {pos n : Int} {keep : Bool} (h : allocC c pos n keep = some d) {i : Int} (h1 : pos ≤ i) (h2 : i < pos + n) (h3 : i < d.1) : dataC d.1 d.2 i = some i := by
  have hm := may_alloc h
  unfold allocC at h
  split at h
  · rename_i g
    injection h with h
    subst h
    refine data_here hm (by omega) h3 (ns_has.2 (.inr ?_))
    unfold allocN; omega
  · cases h
end Go.Proofs.Ytflodknflaallaa.Av
