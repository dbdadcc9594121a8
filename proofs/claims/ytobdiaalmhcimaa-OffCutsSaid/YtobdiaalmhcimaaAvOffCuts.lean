/- The law OffCuts: multiples below and above, spans that may be, what two have together, which lies in which. No condition. -/
import Derived.Test.YtobdiaalmhcimaaAvOff
import Derived.Test.YtobdiaalmhcimaaAvOffRuns
import Derived.Test.YtobdiaalmhcimaaLOffCuts
set_option linter.unusedVariables false
set_option linter.unusedSimpArgs false
namespace Go.Proofs.Ytobdiaalmhcimaa.Av
open Go Go.RowKit
theorem in64c {n : Int} (h : IntKind.i64.min ≤ n ∧ n ≤ IntKind.i64.max) : -9223372036854775808 ≤ n ∧ n ≤ 9223372036854775807 := by
  simpa [IntKind.min, IntKind.max, IntKind.signed, IntKind.bits] using h
theorem offCuts_calls (x0 : Int) (h0 : offCuts_r0.ok x0) (x1 : Int) (h1 : offCuts_r1.ok x1) (x2 : Int × Int × Unit) (h2 : offCuts_r2.ok x2) (x3 : Int × Int × Unit) (h3 : offCuts_r3.ok x3) :
    ACalls Try.prog 10 (offCuts_r0.enc x0 ++ offCuts_r1.enc x1 ++ [.agg (offCuts_r2.enc x2)] ++ [.agg (offCuts_r3.enc x3)]) [] fun r _ => r = .lit (.bool true) := by
  obtain ⟨a, b, u⟩ := x2
  obtain ⟨c, d, u2⟩ := x3
  have hu := in64c h1
  show ACalls Try.prog 10 [I x0, I x1, .agg (encSp ⟨a, b⟩), .agg (encSp ⟨c, d⟩)] [] _
  refine law_of (salvorlaw1_OffCuts_ok ?_)
  unfold salvorlaw1_OffCuts
  have e : AV.agg (encSp ⟨a, b⟩) = .agg [I a, I b] := rfl
  have e2 : AV.agg (encSp ⟨c, d⟩) = .agg [I c, I d] := rfl
  have e0 : oI (up x0 x1) = .tup [I ((up x0 x1).getD 0), B (up x0 x1).isSome] := by cases up x0 x1 <;> rfl
  have m1 := off_MaySpan_p ⟨a, b⟩
  have m2 := ref1_MaySpan_p ⟨a, b⟩
  have m3 := off_Meet_p ⟨a, b⟩ ⟨c, d⟩
  have m4 := ref1_Meet_p ⟨a, b⟩ ⟨c, d⟩
  have m5 := off_Within_p ⟨a, b⟩ ⟨c, d⟩
  have m6 := ref1_Within_p ⟨a, b⟩ ⟨c, d⟩
  rw [e] at *
  rw [e2] at *
  simp [rdCells]
  first | refine bP_of (off_Up_p hu.2) ?_ | refine bP_pure (off_Up_p hu.2) ?_
  rw [e0]
  simp
  first | refine bP_of (ref1_Up_p hu.2) ?_ | refine bP_pure (ref1_Up_p hu.2) ?_
  rw [e0]
  simp
  first | refine bP_of (off_Down_p _ _) ?_ | refine bP_pure (off_Down_p _ _) ?_
  first | refine bP_of (ref1_Down_p _ _) ?_ | refine bP_pure (ref1_Down_p _ _) ?_
  simp
  first | refine bP_of (m1) ?_ | refine bP_pure (m1) ?_
  first | refine bP_of (m2) ?_ | refine bP_pure (m2) ?_
  simp
  first | refine bP_of (m3) ?_ | refine bP_pure (m3) ?_
  first | refine bP_of (m4) ?_ | refine bP_pure (m4) ?_
  simp [eqSp]
  first | refine bP_of (m5) ?_ | refine bP_pure (m5) ?_
  first | refine bP_of (m6) ?_ | refine bP_pure (m6) ?_
  simp [within_iff]
  first | refine bP_of (offRuns_p) ?_ | refine bP_pure (offRuns_p) ?_
  simp
end Go.Proofs.Ytobdiaalmhcimaa.Av
namespace Go.Proofs.Ytobdiaalmhcimaa
theorem offCuts_holds : Rows.OffCutsSaid := offCuts_of Av.offCuts_calls
#print axioms offCuts_holds
end Go.Proofs.Ytobdiaalmhcimaa
