/- Chapter 11's laws: a byte at a place; what Data tells. -/
import Derived.Test.YtflodknflaallaaAvExtL
set_option linter.unusedVariables false
set_option linter.unusedSimpArgs false
set_option maxRecDepth 100000
namespace Go.Proofs.Ytflodknflaallaa.Av
open Go Go.RowKit

/-- The byte at a place; one that is behind the size reads as none. -/
def atC (size : Int) (l : List Ext) (pos : Int) : Int := if inC size l pos 1 then ((atL l pos).toNat : Int) else -1
theorem law11_at_p {size : Int} {l : List Ext} {v : AV} (hv : SV encE 9 l v) (hl : l.length ≤ 281474976710656) (pos : Int) : BPure Try.prog 20 [.agg [I size, v], I pos] (I (atC size l pos)) := BPure.val (by simp [noIdss, noIds, hv.1]) rfl (salvorlaw11_at_ok (by
  unfold salvorlaw11_at
  simp [oneA_sv hv, rdCells]
  obtain ⟨r, s1, q1⟩ := extent_Read_p (size := size) hv hl pos 1
  refine bP_pure q1 ?_
  by_cases h : inC size l pos 1
  · have h5 := h.2.2.2.2
    have e : readC size l pos 1 = [atL l pos] := by
      unfold readC
      rw [if_pos h, show (min 1 (size - pos)).toNat = 1 by omega]
      simp [bytesL]
    have ix := s1.idx encU_len (k := 0) (i := 0) (x := atL l pos) (by rw [e]; rfl) rfl
    have hu := (atL l pos).toNat_lt
    simp [s1.len, e, ix, encU, acI_i64 (a := ((atL l pos).toNat : Int)) (by omega) (by omega), atC, h]
  · have e : readC size l pos 1 = [] := if_neg h
    simp [s1.len, e, atC, h]))
theorem dataL_spec {size p : Int} (hp : 0 ≤ p) : ∀ {l : List Ext}, srt l → (∀ d, dataL size p l = some d → p ≤ d ∧ d < size ∧ hasL l (d / 8) ∧ ∀ r, p ≤ r → r < d → ¬ hasL l (r / 8)) ∧ (dataL size p l = none → ∀ r, p ≤ r → r < size → ¬ hasL l (r / 8))
  | [], _ => ⟨by simp [dataL], fun _ r _ _ => by simp [hasL]⟩
  | x :: l, hs => by
    have hs' := List.pairwise_cons.1 hs
    obtain ⟨i1, i2⟩ := dataL_spec hp (l := l) hs'.2
    rw [dataL_cons]
    split
    · rename_i hc
      refine ⟨fun d hd => ?_, fun h => by cases h⟩
      injection hd with hd
      subst hd
      refine ⟨by omega, by omega, ⟨x, by simp, by omega⟩, ?_⟩
      rintro r h1 h2 ⟨y, hy, e⟩
      rcases List.mem_cons.1 hy with rfl | hy
      · omega
      · have := hs'.1 y hy; omega
    · rename_i hc
      have nx : ∀ r, p ≤ r → r < size → ¬ x.no = r / 8 := by intro r h1 h2 h3; omega
      have up : ∀ r, p ≤ r → r < size → ¬ hasL l (r / 8) → ¬ hasL (x :: l) (r / 8) := by
        rintro r h1 h2 h3 ⟨y, hy, e⟩
        rcases List.mem_cons.1 hy with rfl | hy
        · exact nx r h1 h2 e
        · exact h3 ⟨y, hy, e⟩
      refine ⟨fun d hd => ?_, fun h r h1 h2 => up r h1 h2 (i2 h r h1 h2)⟩
      obtain ⟨a, b, c, e⟩ := i1 d hd
      obtain ⟨y, hy, he⟩ := c
      exact ⟨a, b, ⟨y, by simp [hy], he⟩, fun r h1 h2 => up r h1 (by omega) (e r h1 h2)⟩
end Go.Proofs.Ytflodknflaallaa.Av
