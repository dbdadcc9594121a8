/- The law ExtentChanges: what any content is with another size, with room, with less. No condition. -/
import Derived.Test.YtflodknflaallaaAvExtN
import Derived.Test.YtflodknflaallaaAvExtH
import Derived.Test.YtflodknflaallaaLExtentChanges
set_option linter.unusedVariables false
set_option linter.unusedSimpArgs false
set_option maxRecDepth 100000
set_option maxHeartbeats 2000000
namespace Go.Proofs.Ytflodknflaallaa.Av
open Go Go.RowKit
theorem alloc_len' (c : Cont) (pos n : Int) (keep : Bool) : (cL (allocC c pos n keep)).length ≤ c.2.length + 4098 := by
  unfold allocC
  split
  · rename_i h
    simp only [cL, Option.getD_some, allocL]
    have := (ns_len (k := allocN pos n) (l := c.2) (no := pos / 8)).1
    have hN : allocN pos n ≤ 4098 := by unfold allocN; omega
    omega
  · simp [cL]
theorem trunc_len (c : Cont) (size : Int) : (cL (truncC c size)).length ≤ c.2.length := by
  unfold truncC
  split
  · simp only [cL, Option.getD_some, truncL, wipeL, List.length_map]; exact List.length_filter_le _ _
  · simp [cL]
theorem punch_len' (c : Cont) (pos n : Int) : (cL (punchC c pos n)).length ≤ c.2.length := by
  unfold punchC
  split
  · simp only [cL, Option.getD_some, punchL, wipeL, List.length_map]; exact List.length_filter_le _ _
  · simp [cL]
theorem extentChanges_calls (x0 : Int × Sl XE × Unit) (h0 : extentChanges_r0.ok x0) (x1 : Int) (h1 : extentChanges_r1.ok x1) (x2 : Int) (h2 : extentChanges_r2.ok x2) (x3 : Int) (h3 : extentChanges_r3.ok x3) (x4 : Bool) (h4 : extentChanges_r4.ok x4) :
    ACalls Try.prog 11 ([.agg (extentChanges_r0.enc x0)] ++ extentChanges_r1.enc x1 ++ extentChanges_r2.enc x2 ++ extentChanges_r3.enc x3 ++ extentChanges_r4.enc x4) [] fun r _ => r = .lit (.bool true) := by
  obtain ⟨sa, la, u⟩ := x0
  obtain ⟨l, hl1, hl⟩ := cont_sv la h0.2.1.1 (fun x hx => (h0.2.1.2.2 x hx).2.1.1)
  show ACalls Try.prog 11 [.agg [I sa, if la.nil then AV.lit (.slice none 0 0) else .imm (la.l.flatMap xenc) la.l.length 9], I x1, I x2, I x3, B x4] [] _
  generalize (if la.nil then AV.lit (.slice none 0 0) else .imm (la.l.flatMap xenc) la.l.length 9) = v at hl
  refine law_of (salvorlaw11_ExtentChanges_ok ?_)
  unfold salvorlaw11_ExtentChanges
  simp [oneA_sv hl, rdCells]
  first | refine bP_of (law11_Few_p hl) ?_ | refine bP_pure (law11_Few_p hl) ?_
  by_cases c1 : l.length ≤ 60
  · by_cases c2 : 400 < x2 ∧ x2 ≤ 32768
    · simp [c1, c2.1, c2.2]
      first | refine bP_of (extentRuns_p) ?_ | refine bP_pure (extentRuns_p) ?_
      simp
    · obtain ⟨R1, s1, q1⟩ := extent_Truncate_p (size0 := sa) hl (by omega) x3
      obtain ⟨R2, s2, q2⟩ := ref_TruncateContent_p (size0 := sa) hl (by omega) x3
      obtain ⟨R3, s3, q3⟩ := extent_Allocate_p (size := sa) hl (by omega) x1 x2 x4
      obtain ⟨R4, s4, q4⟩ := ref_AllocateContent_p (size := sa) hl (by omega) x1 x2 x4
      obtain ⟨R5, s5, q5⟩ := extent_Punch_p (size := sa) hl (by omega) x1 x2
      obtain ⟨R6, s6, q6⟩ := ref_PunchContent_p (size := sa) hl (by omega) x1 x2
      have l1 := trunc_len (sa, l) x3
      have l2 := alloc_len' (sa, l) x1 x2 x4
      have l3 := punch_len' (sa, l) x1 x2
      simp only at l1 l2 l3
      generalize truncC (sa, l) x3 = rA at *
      generalize allocC (sa, l) x1 x2 x4 = rB at *
      generalize punchC (sa, l) x1 x2 = rC at *
      generalize cS rA = nA at *
      generalize cS rB = nB at *
      generalize cS rC = nC at *
      have e : ¬ 400 < x2 ∨ (400 < x2 ∧ ¬ x2 ≤ 32768) := by omega
      rcases e with e | ⟨e, e'⟩
      all_goals
        first | simp [c1, e, e'] | simp [c1, e]
        first | refine bP_of (q1) ?_ | refine bP_pure (q1) ?_
        simp [oneA_sv s1, ast]
        first | refine bP_of (q2) ?_ | refine bP_pure (q2) ?_
        simp [oneA_sv s2, ast]
        first | refine bP_of (q3) ?_ | refine bP_pure (q3) ?_
        simp [oneA_sv s3, ast]
        first | refine bP_of (q4) ?_ | refine bP_pure (q4) ?_
        simp [oneA_sv s4, ast]
        first | refine bP_of (q5) ?_ | refine bP_pure (q5) ?_
        simp [oneA_sv s5, ast]
        first | refine bP_of (q6) ?_ | refine bP_pure (q6) ?_
        simp [oneA_sv s6, ast, rdCells]
        first | refine bP_of (ref_SameContent_p s1 s2 (by omega)) ?_ | refine bP_pure (ref_SameContent_p s1 s2 (by omega)) ?_
        simp [sameC, rdCells]
        first | refine bP_of (ref_SameContent_p s3 s4 (by omega)) ?_ | refine bP_pure (ref_SameContent_p s3 s4 (by omega)) ?_
        simp [sameC, rdCells]
        first | refine bP_of (ref_SameContent_p s5 s6 (by omega)) ?_ | refine bP_pure (ref_SameContent_p s5 s6 (by omega)) ?_
        simp [sameC]
        first | refine bP_of (extentRuns_p) ?_ | refine bP_pure (extentRuns_p) ?_
        simp
  · simp [c1]
    first | refine bP_of (extentRuns_p) ?_ | refine bP_pure (extentRuns_p) ?_
    simp
end Go.Proofs.Ytflodknflaallaa.Av
namespace Go.Proofs.Ytflodknflaallaa
theorem extentChanges_holds : Rows.ExtentChangesSaid := extentChanges_of Av.extentChanges_calls
#print axioms extentChanges_holds
end Go.Proofs.Ytflodknflaallaa
