/- The law OffMeets: a place is in what two spans have together just if it is in both; that lies in each of them. No condition. -/
import Derived.Test.YtobdiaalmhcimaaAvOff
import Derived.Test.YtobdiaalmhcimaaAvOffRuns
import Derived.Test.YtobdiaalmhcimaaLOffMeets
set_option linter.unusedVariables false
set_option linter.unusedSimpArgs false
set_option maxRecDepth 100000
namespace Go.Proofs.Ytobdiaalmhcimaa.Av
open Go Go.RowKit
theorem meet_comm (a b : Sp) : meet a b = meet b a := by
  unfold meet
  by_cases h1 : MaySpan a <;> by_cases h2 : MaySpan b <;> simp [h1, h2]
  rw [Int.max_comm a.pos, Int.min_comm (a.pos + a.len)]
theorem meet_may {a b : Sp} (h1 : MaySpan a) (h2 : MaySpan b) : MaySpan (meet a b) := by
  have h1' := h1
  have h2' := h2
  simp only [MaySpan, May] at h1' h2'
  unfold meet
  split
  · simp only [MaySpan, May]; omega
  · simp [MaySpan, May]
theorem meet_within {a b : Sp} (h1 : MaySpan a) (h2 : MaySpan b) : Within (meet a b) a := by
  rw [within_iff]
  refine ⟨meet_may h1 h2, h1, ?_⟩
  unfold meet
  split
  · right; simp only; omega
  · left; rfl
theorem meet_self_len {a : Sp} (h1 : MaySpan a) : (meet a a).len = a.len := by
  have h1' := h1
  simp only [MaySpan, May] at h1'
  unfold meet
  split
  · simp only; omega
  · rename_i h; simp [h1] at h; simp only; omega
theorem meet_in {a b : Sp} (h1 : MaySpan a) (h2 : MaySpan b) (n : Int) : (a.pos ≤ n ∧ n - a.pos < a.len ∧ b.pos ≤ n ∧ n - b.pos < b.len) ↔ ((meet a b).pos ≤ n ∧ n - (meet a b).pos < (meet a b).len) := by
  unfold meet
  split
  · simp only; omega
  · rename_i h
    simp [h1, h2] at h
    simp only
    omega
theorem offMeets_calls (x0 : Int × Int × Unit) (h0 : offMeets_r0.ok x0) (x1 : Int × Int × Unit) (h1 : offMeets_r1.ok x1) (x2 : Int) (h2 : offMeets_r2.ok x2) :
    ACalls Try.prog 8 ([.agg (offMeets_r0.enc x0)] ++ [.agg (offMeets_r1.enc x1)] ++ offMeets_r2.enc x2) [] fun r _ => r = .lit (.bool true) := by
  obtain ⟨a, b, u⟩ := x0
  obtain ⟨c, d, u2⟩ := x1
  show ACalls Try.prog 8 [.agg (encSp ⟨a, b⟩), .agg (encSp ⟨c, d⟩), I x2] [] _
  refine law_of (salvorlaw1_OffMeets_ok ?_)
  unfold salvorlaw1_OffMeets
  have e : AV.agg (encSp ⟨a, b⟩) = .agg [I a, I b] := rfl
  have e2 : AV.agg (encSp ⟨c, d⟩) = .agg [I c, I d] := rfl
  have p1 := off_MaySpan_p ⟨a, b⟩
  have p2 := off_MaySpan_p ⟨c, d⟩
  have p3 := off_Meet_p ⟨a, b⟩ ⟨c, d⟩
  have p4 := off_Meet_p ⟨c, d⟩ ⟨a, b⟩
  have p5 := off_Meet_p ⟨a, b⟩ ⟨a, b⟩
  have p6 := off_Within_p (meet ⟨a, b⟩ ⟨c, d⟩) ⟨a, b⟩
  have p7 := off_Within_p (meet ⟨a, b⟩ ⟨c, d⟩) ⟨c, d⟩
  rw [e] at *
  rw [e2] at *
  simp [rdCells]
  first | refine bP_of (p1) ?_ | refine bP_pure (p1) ?_
  by_cases hA : MaySpan ⟨a, b⟩
  case neg =>
    simp [hA]
    first | refine bP_of (offRuns_p) ?_ | refine bP_pure (offRuns_p) ?_
    rfl
  simp [hA]
  first | refine bP_of (p2) ?_ | refine bP_pure (p2) ?_
  by_cases hB : MaySpan ⟨c, d⟩
  case neg =>
    simp [hB]
    first | refine bP_of (offRuns_p) ?_ | refine bP_pure (offRuns_p) ?_
    rfl
  simp [hB]
  first | refine bP_of (off_May_p _) ?_ | refine bP_pure (off_May_p _) ?_
  by_cases hN : May x2
  case neg =>
    simp [hN]
    first | refine bP_of (offRuns_p) ?_ | refine bP_pure (offRuns_p) ?_
    rfl
  simp [hN]
  first | refine bP_of (p3) ?_ | refine bP_pure (p3) ?_
  have hin := meet_in hA hB x2
  have hc := meet_comm ⟨c, d⟩ ⟨a, b⟩
  rw [hc] at p4
  have w1 := meet_within hA hB
  have w2 := meet_within hB hA
  rw [hc] at w2
  have hs := meet_self_len hA
  have hm := meet_may hA hB
  generalize hM : meet ⟨a, b⟩ ⟨c, d⟩ = M at *
  obtain ⟨p, q⟩ := M
  simp only [encSp] at p3 p4 p6 p7 ⊢
  simp only at hin hs
  simp only [MaySpan, May] at hA hB hN hm
  generalize hS : meet ⟨a, b⟩ ⟨a, b⟩ = M2 at *
  obtain ⟨p', q'⟩ := M2
  simp only at hs
  simp only [encSp] at p5
  simp only [w1, w2, decide_true] at p6 p7
  have s1 : abI .sub (I x2) (I a) = some (I (x2 - a)) := abI_sub (by omega) (by omega)
  have s2 : abI .sub (I x2) (I c) = some (I (x2 - c)) := abI_sub (by omega) (by omega)
  have s3 : abI .sub (I x2) (I p) = some (I (x2 - p)) := abI_sub (by omega) (by omega)
  have q1 := eqSp ⟨p, q⟩ ⟨p, q⟩
  simp only [encSp] at q1
  by_cases c1 : a ≤ x2 <;> by_cases c2 : x2 - a < b <;> by_cases c3 : c ≤ x2 <;> by_cases c4 : x2 - c < d <;> by_cases c5 : p ≤ x2 <;> by_cases c6 : x2 - p < q <;>
    first
    | (exfalso; simp only [c1, c2, c3, c4, c5, c6, true_and, and_true, false_and, and_false, true_iff, iff_true, not_true_eq_false, not_false_eq_true] at hin; done)
    | (simp [ast, c1, c2, c3, c4, c5, c6, s1, s2, s3, rdCells]
       first | refine bP_of (p6) ?_ | refine bP_pure (p6) ?_
       simp
       first | refine bP_of (p7) ?_ | refine bP_pure (p7) ?_
       simp
       first | refine bP_of (p4) ?_ | refine bP_pure (p4) ?_
       simp [q1]
       first | refine bP_of (p5) ?_ | refine bP_pure (p5) ?_
       simp [hs]
       first | refine bP_of (offRuns_p) ?_ | refine bP_pure (offRuns_p) ?_
       rfl)
end Go.Proofs.Ytobdiaalmhcimaa.Av
namespace Go.Proofs.Ytobdiaalmhcimaa
theorem offMeets_holds : Rows.OffMeetsSaid := offMeets_of Av.offMeets_calls
#print axioms offMeets_holds
end Go.Proofs.Ytobdiaalmhcimaa
