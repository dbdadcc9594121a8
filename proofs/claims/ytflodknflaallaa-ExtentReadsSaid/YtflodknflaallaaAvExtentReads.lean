/- The law ExtentReads: which contents may be, which are one, what is read, where data and holes are. No condition. -/
import Derived.Test.YtflodknflaallaaAvExtL
import Derived.Test.YtflodknflaallaaLExtentReads
set_option linter.unusedVariables false
set_option linter.unusedSimpArgs false
set_option maxRecDepth 100000
namespace Go.Proofs.Ytflodknflaallaa.Av
open Go Go.RowKit
theorem extentReads_calls (x0 : Int × Sl XE × Unit) (h0 : extentReads_r0.ok x0) (x1 : Int × Sl XE × Unit) (h1 : extentReads_r1.ok x1) (x2 : Int) (h2 : extentReads_r2.ok x2) (x3 : Int) (h3 : extentReads_r3.ok x3) :
    ACalls Try.prog 6 ([.agg (extentReads_r0.enc x0)] ++ [.agg (extentReads_r1.enc x1)] ++ extentReads_r2.enc x2 ++ extentReads_r3.enc x3) [] fun r _ => r = .lit (.bool true) := by
  obtain ⟨sa, la, u⟩ := x0
  obtain ⟨sb, lb, u2⟩ := x1
  obtain ⟨l, hl1, hl⟩ := cont_sv la h0.2.1.1 (fun x hx => (h0.2.1.2.2 x hx).2.1.1)
  obtain ⟨m, hm1, hm⟩ := cont_sv lb h1.2.1.1 (fun x hx => (h1.2.1.2.2 x hx).2.1.1)
  obtain ⟨hu1, hu2⟩ := in64 h3
  show ACalls Try.prog 6 [.agg [I sa, if la.nil then AV.lit (.slice none 0 0) else .imm (la.l.flatMap xenc) la.l.length 9], .agg [I sb, if lb.nil then AV.lit (.slice none 0 0) else .imm (lb.l.flatMap xenc) lb.l.length 9], I x2, I x3] [] _
  generalize (if la.nil then AV.lit (.slice none 0 0) else .imm (la.l.flatMap xenc) la.l.length 9) = v at hl
  generalize (if lb.nil then AV.lit (.slice none 0 0) else .imm (lb.l.flatMap xenc) lb.l.length 9) = w at hm
  refine law_of (salvorlaw11_ExtentReads_ok ?_)
  unfold salvorlaw11_ExtentReads
  simp [oneA_sv hl, oneA_sv hm, rdCells]
  first | refine bP_of (law11_Few_p hl) ?_ | refine bP_pure (law11_Few_p hl) ?_
  by_cases c1 : l.length ≤ 60
  · simp [c1]
    first | refine bP_of (law11_Few_p hm) ?_ | refine bP_pure (law11_Few_p hm) ?_
    by_cases c2 : m.length ≤ 60
    · by_cases c3 : 600 < x3 ∧ x3 ≤ 4096
      · simp [c2, c3.1, c3.2]
        first | refine bP_of (extentRuns_p) ?_ | refine bP_pure (extentRuns_p) ?_
        simp
      · have hsplit : (600 < x3 ∧ ¬ x3 ≤ 4096) ∨ ¬ 600 < x3 := by omega
        have e1 := oI_pair (dataC sa l x2)
        have e2 := oI_pair (holeC sa l x2)
        have p2 := ref_DataContent_p (size := sa) hl (by omega) x2
        have p3 := extent_Hole_p (size := sa) hl (by omega) x2
        have p4 := ref_HoleContent_p (size := sa) hl (by omega) x2
        rw [e1] at p2
        rw [e2] at p3 p4
        have p1' := extent_Data_p (size := sa) hl (by omega) x2
        rw [e1] at p1'
        obtain ⟨r1, s1, q1⟩ := extent_Read_p (size := sa) hl (by omega) x2 x3
        obtain ⟨r2, s2, q2⟩ := ref_ReadContent_p (size := sa) hl (by omega) x2 x3
        have b1 := fun H => acB_spec (s1.bytes H)
        have b2 := fun H => acB_spec (s2.bytes H)
        rcases hsplit with c4 | c4
        · simp [c2, c4.1, c4.2]
          first | refine bP_of (p1') ?_ | refine bP_pure (p1') ?_
          simp
          first | refine bP_of (p2) ?_ | refine bP_pure (p2) ?_
          simp
          first | refine bP_of (p3) ?_ | refine bP_pure (p3) ?_
          simp
          first | refine bP_of (p4) ?_ | refine bP_pure (p4) ?_
          simp
          first | refine bP_of (extent_May_p hl (by omega)) ?_ | refine bP_pure (extent_May_p hl (by omega)) ?_
          first | refine bP_of (ref_MayContent_p hl (by omega)) ?_ | refine bP_pure (ref_MayContent_p hl (by omega)) ?_
          simp
          first | refine bP_of (extent_Same_p hl hm (by omega)) ?_ | refine bP_pure (extent_Same_p hl hm (by omega)) ?_
          first | refine bP_of (ref_SameContent_p hl hm (by omega)) ?_ | refine bP_pure (ref_SameContent_p hl hm (by omega)) ?_
          simp
          first | refine bP_of (q1) ?_ | refine bP_pure (q1) ?_
          simp [b1]
          first | refine bP_of (q2) ?_ | refine bP_pure (q2) ?_
          simp [b2, abT_eql]
          first | refine bP_of (extentRuns_p) ?_ | refine bP_pure (extentRuns_p) ?_
          simp
        · simp [c2, c4]
          first | refine bP_of (p1') ?_ | refine bP_pure (p1') ?_
          simp
          first | refine bP_of (p2) ?_ | refine bP_pure (p2) ?_
          simp
          first | refine bP_of (p3) ?_ | refine bP_pure (p3) ?_
          simp
          first | refine bP_of (p4) ?_ | refine bP_pure (p4) ?_
          simp
          first | refine bP_of (extent_May_p hl (by omega)) ?_ | refine bP_pure (extent_May_p hl (by omega)) ?_
          first | refine bP_of (ref_MayContent_p hl (by omega)) ?_ | refine bP_pure (ref_MayContent_p hl (by omega)) ?_
          simp
          first | refine bP_of (extent_Same_p hl hm (by omega)) ?_ | refine bP_pure (extent_Same_p hl hm (by omega)) ?_
          first | refine bP_of (ref_SameContent_p hl hm (by omega)) ?_ | refine bP_pure (ref_SameContent_p hl hm (by omega)) ?_
          simp
          first | refine bP_of (q1) ?_ | refine bP_pure (q1) ?_
          simp [b1]
          first | refine bP_of (q2) ?_ | refine bP_pure (q2) ?_
          simp [b2, abT_eql]
          first | refine bP_of (extentRuns_p) ?_ | refine bP_pure (extentRuns_p) ?_
          simp
    · simp [c2]
      first | refine bP_of (extentRuns_p) ?_ | refine bP_pure (extentRuns_p) ?_
      simp
  · simp [c1]
    first | refine bP_of (extentRuns_p) ?_ | refine bP_pure (extentRuns_p) ?_
    simp
end Go.Proofs.Ytflodknflaallaa.Av
namespace Go.Proofs.Ytflodknflaallaa
theorem extentReads_holds : Rows.ExtentReadsSaid := extentReads_of Av.extentReads_calls
#print axioms extentReads_holds
end Go.Proofs.Ytflodknflaallaa
