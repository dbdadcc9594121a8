/- The law ExtentWrites: what any content is with any bytes, anywhere. No condition. -/
import Derived.Test.YtflodknflaallaaAvExtN
import Derived.Test.YtflodknflaallaaLExtentWrites
set_option linter.unusedVariables false
set_option linter.unusedSimpArgs false
set_option maxRecDepth 100000
namespace Go.Proofs.Ytflodknflaallaa.Av
open Go Go.RowKit
theorem extentWrites_calls (x0 : Int × Sl XE × Unit) (h0 : extentWrites_r0.ok x0) (x1 : Int) (h1 : extentWrites_r1.ok x1) (x2 : Sl UInt8) (h2 : extentWrites_r2.ok x2) :
    ACalls Try.prog 4 ([.agg (extentWrites_r0.enc x0)] ++ extentWrites_r1.enc x1 ++ extentWrites_r2.enc x2) [] fun r _ => r = .lit (.bool true) := by
  obtain ⟨sa, la, u⟩ := x0
  obtain ⟨l, hl1, hl⟩ := cont_sv la h0.2.1.1 (fun x hx => (h0.2.1.2.2 x hx).2.1.1)
  have hb := bytes_sv x2 h2.1
  show ACalls Try.prog 4 [.agg [I sa, if la.nil then AV.lit (.slice none 0 0) else .imm (la.l.flatMap xenc) la.l.length 9], I x1, if x2.nil then AV.lit (.slice none 0 0) else .imm (x2.l.flatMap encU) x2.l.length 1] [] _
  generalize (if la.nil then AV.lit (.slice none 0 0) else .imm (la.l.flatMap xenc) la.l.length 9) = v at hl
  generalize (if x2.nil then AV.lit (.slice none 0 0) else .imm (x2.l.flatMap encU) x2.l.length 1) = bv at hb
  generalize x2.l = bs at hb
  refine law_of (salvorlaw11_ExtentWrites_ok ?_)
  unfold salvorlaw11_ExtentWrites
  simp [oneA_sv hl, rdCells]
  first | refine bP_of (law11_Few_p hl) ?_ | refine bP_pure (law11_Few_p hl) ?_
  by_cases c1 : l.length ≤ 60
  · by_cases c2 : 300 < bs.length ∧ bs.length ≠ 4097
    · have c3 : ¬ (bs.length : Int) = 4097 := by omega
      simp [c1, hb.len, show (300 : Int) < bs.length by omega, c3]
      first | refine bP_of (extentRuns_p) ?_ | refine bP_pure (extentRuns_p) ?_
      simp
    · obtain ⟨R1, s1, q1⟩ := extent_Write_p (size := sa) hl (by omega) x1 hb (by omega)
      obtain ⟨R2, s2, q2⟩ := ref_WriteContent_p (size := sa) hl (by omega) x1 hb (by omega)
      have hlen := write_len (sa, l) x1 bs
      simp only at hlen
      have e : ¬ (300 : Int) < bs.length ∨ ((300 : Int) < bs.length ∧ (bs.length : Int) = 4097) := by omega
      rcases e with e | ⟨e, e'⟩
      all_goals
        first | simp [c1, hb.len, e, e'] | simp [c1, hb.len, e]
        first | refine bP_of (q1) ?_ | refine bP_pure (q1) ?_
        simp [oneA_sv s1, oneA_sv s2, rdCells, ast]
        first | refine bP_of (q2) ?_ | refine bP_pure (q2) ?_
        simp [oneA_sv s1, oneA_sv s2, rdCells, ast]
        first | refine bP_of (ref_SameContent_p s1 s2 (by omega)) ?_ | refine bP_pure (ref_SameContent_p s1 s2 (by omega)) ?_
        simp [sameC]
        first | refine bP_of (extentRuns_p) ?_ | refine bP_pure (extentRuns_p) ?_
        simp
  · simp [c1]
    first | refine bP_of (extentRuns_p) ?_ | refine bP_pure (extentRuns_p) ?_
    simp
end Go.Proofs.Ytflodknflaallaa.Av
namespace Go.Proofs.Ytflodknflaallaa
theorem extentWrites_holds : Rows.ExtentWritesSaid := extentWrites_of Av.extentWrites_calls
#print axioms extentWrites_holds
end Go.Proofs.Ytflodknflaallaa
