/- The law OffParts: a span cut at all multiples. No condition. -/
import Derived.Test.YtobdiaalmhcimaaAvOff
import Derived.Test.YtobdiaalmhcimaaAvOffRuns
import Derived.Test.YtobdiaalmhcimaaLOffParts
set_option linter.unusedVariables false
set_option linter.unusedSimpArgs false
namespace Go.Proofs.Ytobdiaalmhcimaa.Av
open Go Go.RowKit
theorem in64 {n : Int} (h : IntKind.i64.min ≤ n ∧ n ≤ IntKind.i64.max) : -9223372036854775808 ≤ n ∧ n ≤ 9223372036854775807 := by
  simpa [IntKind.min, IntKind.max, IntKind.signed, IntKind.bits] using h
theorem cutsS_len {f : Nat} {pos len unit : Int} : (cutsS f pos len unit).length ≤ f := by
  induction f generalizing pos len with
  | zero => simp [cutsS]
  | succ f ih =>
    simp only [cutsS]
    split
    · have := ih (pos := pos + min len (unit - pos % unit)) (len := len - min len (unit - pos % unit)); simp; omega
    · simp
theorem partsS_len (s : Sp) (unit : Int) : (partsS s unit).length ≤ 4096 := by
  unfold partsS
  split
  · rename_i h
    have := cutsS_len (f := s.len.toNat) (pos := s.pos) (len := s.len) (unit := unit)
    omega
  · simp
theorem offParts_calls (x0 : Int × Int × Unit) (h0 : offParts_r0.ok x0) (x1 : Int) (h1 : offParts_r1.ok x1) : ACalls Try.prog 5 ([.agg (offParts_r0.enc x0)] ++ offParts_r1.enc x1) [] fun r _ => r = .lit (.bool true) := by
  obtain ⟨a, b, u⟩ := x0
  have hu := in64 h1
  show ACalls Try.prog 5 [.agg (encSp ⟨a, b⟩), I x1] [] _
  refine law_of (salvorlaw1_OffParts_ok ?_)
  unfold salvorlaw1_OffParts
  have e : AV.agg (encSp ⟨a, b⟩) = .agg [I a, I b] := rfl
  obtain ⟨v, hv, hp⟩ := off_Parts_p ⟨a, b⟩ hu.2
  obtain ⟨w, hw, hq⟩ := ref1_Parts_p ⟨a, b⟩ hu.2
  rw [e] at hp hq ⊢
  simp [rdCells]
  first | refine bP_of (hp) ?_ | refine bP_pure (hp) ?_
  first | refine bP_of (hq) ?_ | refine bP_pure (hq) ?_
  first | refine bP_of (law1_same_p hv hw (by have := partsS_len ⟨a, b⟩ x1; omega)) ?_ | refine bP_pure (law1_same_p hv hw (by have := partsS_len ⟨a, b⟩ x1; omega)) ?_
  simp
  first | refine bP_of (offRuns_p) ?_ | refine bP_pure (offRuns_p) ?_
  simp
end Go.Proofs.Ytobdiaalmhcimaa.Av
namespace Go.Proofs.Ytobdiaalmhcimaa
theorem offParts_holds : Rows.OffPartsSaid := offParts_of Av.offParts_calls
#print axioms offParts_holds
end Go.Proofs.Ytobdiaalmhcimaa
