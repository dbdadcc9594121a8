/- The law ExtentPunched: what is taken reads as noughts, all else as it was; no block all of whose places were taken is there, each other one still is; the size stays. No condition. -/
import Derived.Test.YtflodknflaallaaAvExtN
import Derived.Test.YtflodknflaallaaAvExtG
import Derived.Test.YtflodknflaallaaLExtentPunched
set_option linter.unusedVariables false
set_option linter.unusedSimpArgs false
set_option maxRecDepth 100000
namespace Go.Proofs.Ytflodknflaallaa.Av
open Go Go.RowKit
theorem in16p {n : Int} (h : IntKind.u16.min ≤ n ∧ n ≤ IntKind.u16.max) : 0 ≤ n ∧ n ≤ 65535 := by
  simpa [IntKind.min, IntKind.max, IntKind.signed, IntKind.bits] using h
theorem extentPunched_calls (x0 : Int × Sl XE × Unit) (h0 : extentPunched_r0.ok x0) (x1 : Int) (h1 : extentPunched_r1.ok x1) (x2 : Int) (h2 : extentPunched_r2.ok x2) (x3 : Int) (h3 : extentPunched_r3.ok x3) :
    ACalls Try.prog 10 ([.agg (extentPunched_r0.enc x0)] ++ extentPunched_r1.enc x1 ++ extentPunched_r2.enc x2 ++ extentPunched_r3.enc x3) [] fun r _ => r = .lit (.bool true) := by
  obtain ⟨sa, la, u⟩ := x0
  obtain ⟨l, hl1, hl⟩ := cont_sv la h0.2.1.1 (fun x hx => (h0.2.1.2.2 x hx).2.1.1)
  obtain ⟨u1, u2⟩ := in16p h1
  obtain ⟨u3, u4⟩ := in16p h2
  obtain ⟨u5, u6⟩ := in64 h3
  show ACalls Try.prog 10 [.agg [I sa, if la.nil then AV.lit (.slice none 0 0) else .imm (la.l.flatMap xenc) la.l.length 9], .lit (.int .u16 x1), .lit (.int .u16 x2), I x3] [] _
  generalize (if la.nil then AV.lit (.slice none 0 0) else .imm (la.l.flatMap xenc) la.l.length 9) = v at hl
  refine law_of (salvorlaw11_ExtentPunched_ok ?_)
  unfold salvorlaw11_ExtentPunched
  simp [oneA_sv hl, rdCells]
  first | refine bP_of (law11_Few_p hl) ?_ | refine bP_pure (law11_Few_p hl) ?_
  by_cases c1 : l.length ≤ 60
  · simp [c1]
    first | refine bP_of (extent_May_p hl (by omega)) ?_ | refine bP_pure (extent_May_p hl (by omega)) ?_
    by_cases c2 : mayC sa l
    · simp [c2, abI_rem (k := .u16) (a := x1) (b := 600) (by omega) (by omega), abI_rem (k := .u16) (a := x2) (b := 300) (by omega) (by omega), acI_i64 (k' := .u16) (a := x1 % 600) (by omega) (by omega), acI_i64 (k' := .u16) (a := x2 % 300) (by omega) (by omega), abI_add (a := x2 % 300) (b := 1) (by omega) (by omega)]
      have hp0 : 0 ≤ x1 % 600 := by omega
      have hp1 : x1 % 600 < 600 := by omega
      have hk0 : 1 ≤ x2 % 300 + 1 := by omega
      have hk1 : x2 % 300 + 1 ≤ 300 := by omega
      generalize x1 % 600 = p at hp0 hp1
      generalize x2 % 300 + 1 = k at hk0 hk1
      obtain ⟨R1, s1, q1⟩ := extent_Punch_p (size := sa) hl (by omega) p k
      have ha : punchC (sa, l) p k = some (sa, punchL l p k) := punch_some (c := (sa, l)) c2 (by omega) (by omega) (by omega) (by omega)
      have hm := may_punch ha
      have hat := punch_at ha x3
      have hlen := punch_len l p k
      have hle : (l.filter fun x => decide (x.no * 8 < p) || decide (p + k < (x.no + 1) * 8)).length ≤ l.length := List.length_filter_le _ _
      rw [ha] at s1 q1
      simp only [cS, cL, Option.getD_some, Option.isSome_some] at s1 q1 hm hat
      generalize punchL l p k = M at *
      have hno := okL_all c2.2.2
      first | refine bP_of (q1) ?_ | refine bP_pure (q1) ?_
      simp [oneA_sv s1, ast, rdCells]
      first | refine bP_of (extent_May_p (size := sa) s1 (by omega)) ?_ | refine bP_pure (extent_May_p (size := sa) s1 (by omega)) ?_
      simp [hm]
      first | refine bP_of (law11_at_p (size := sa) hl (by omega) x3) ?_ | refine bP_pure (law11_at_p (size := sa) hl (by omega) x3) ?_
      have j10 : ∀ want, want = atC sa M x3 → salvorlaw11_ExtentPunched_J10 (I x3) (.ptr 0 0) (I p) (I k) (.ptr 1 0) (I want) [some (.cells [I sa, v]), some (.cells [I sa, R1])] (fun r H' => r = B true) := by
        rintro want rfl
        rw [salvorlaw11_ExtentPunched_J10_eq]
        unfold salvorlaw11_ExtentPunched_J10_b
        rw [salvorlaw11_ExtentPunched_J12_eq]
        unfold salvorlaw11_ExtentPunched_J12_b
        rw [salvorlaw11_ExtentPunched_J14_eq]
        unfold salvorlaw11_ExtentPunched_J14_b
        refine salvorlaw11_ExtentPunched_L15_rule (fun q y3 y4 y9 y10 y11 y13 y14 y15 H => ∃ i : Nat, i + q = l.length ∧ y3 = I x3 ∧ y4 = .ptr 0 0 ∧ y9 = I p ∧ y10 = I k ∧ y11 = .ptr 1 0 ∧ y13 = I (atC sa M x3) ∧ y14 = I ((l.take i).filter fun x => decide (x.no * 8 < p) || decide (p + k < (x.no + 1) * 8)).length ∧ y15 = I i ∧ H = [some (.cells [I sa, v]), some (.cells [I sa, R1])]) ?_ l.length ⟨0, by omega, rfl, rfl, rfl, rfl, rfl, rfl, rfl, rfl, rfl⟩
        rintro q y3 y4 y9 y10 y11 y13 y14 y15 H R hR ⟨i, hi, rfl, rfl, rfl, rfl, rfl, rfl, rfl, rfl, rfl⟩
        unfold salvorlaw11_ExtentPunched_L15_b
        rcases Nat.lt_or_ge i l.length with hlt | hge
        · have hx := List.getElem?_eq_getElem hlt
          generalize l[i] = x at hx
          obtain ⟨z1, z2, z3⟩ := hno x (List.mem_of_getElem? hx)
          have hfi : ((l.take i).filter fun x => decide (x.no * 8 < p) || decide (p + k < (x.no + 1) * 8)).length ≤ i := Nat.le_trans (List.length_filter_le _ _) (by rw [List.length_take]; omega)
          have hst : ((l.take (i + 1)).filter fun x => decide (x.no * 8 < p) || decide (p + k < (x.no + 1) * 8)).length = ((l.take i).filter fun x => decide (x.no * 8 < p) || decide (p + k < (x.no + 1) * 8)).length + if x.no * 8 < p ∨ p + k < (x.no + 1) * 8 then 1 else 0 := by
            rw [List.take_add_one, hx, List.filter_append, List.length_append]
            congr 1
            by_cases d1 : x.no * 8 < p <;> by_cases d2 : p + k < (x.no + 1) * 8 <;> simp [d1, d2]
          have nxt : ∀ c : Int, c = ((l.take (i + 1)).filter fun x => decide (x.no * 8 < p) || decide (p + k < (x.no + 1) * 8)).length → salvorlaw11_ExtentPunched_J18 R (I x3) (.ptr 0 0) (I p) (I k) (.ptr 1 0) (I (atC sa M x3)) (I c) (I i) [some (.cells [I sa, v]), some (.cells [I sa, R1])] (fun r H' => r = B true) := by
            rintro c rfl
            rw [salvorlaw11_ExtentPunched_J18_eq]
            unfold salvorlaw11_ExtentPunched_J18_b
            simp [abI_add (a := i) (b := 1) (by omega) (by omega)]
            exact hR (q - 1) _ _ _ _ _ _ _ _ _ (by omega) ⟨i + 1, by omega, rfl, rfl, rfl, rfl, rfl, rfl, rfl, rfl, rfl⟩
          generalize hc0 : ((l.take i).filter fun x => decide (x.no * 8 < p) || decide (p + k < (x.no + 1) * 8)).length = c0 at hfi hst
          by_cases d1 : x.no * 8 < p
          · rw [if_pos (.inl d1)] at hst
            simp [hl.len, hlt, hl.idx encE_len hx rfl, abI_mul (a := x.no) (b := 8) (by omega) (by omega), d1, abI_add (a := c0) (b := 1) (by omega) (by omega)]
            exact nxt _ (by rw [hst]; rfl)
          · by_cases d2 : p + k < (x.no + 1) * 8
            · rw [if_pos (.inr d2)] at hst
              simp [hl.len, hlt, hl.idx encE_len hx rfl, abI_mul (a := x.no) (b := 8) (by omega) (by omega), d1, abI_add (a := x.no) (b := 1) (by omega) (by omega), abI_mul (a := x.no + 1) (b := 8) (by omega) (by omega), abI_add (a := p) (b := k) (by omega) (by omega), d2, abI_add (a := c0) (b := 1) (by omega) (by omega)]
              exact nxt _ (by rw [hst]; rfl)
            · rw [if_neg (fun h => h.elim d1 d2)] at hst
              simp [hl.len, hlt, hl.idx encE_len hx rfl, abI_mul (a := x.no) (b := 8) (by omega) (by omega), d1, abI_add (a := x.no) (b := 1) (by omega) (by omega), abI_mul (a := x.no + 1) (b := 8) (by omega) (by omega), abI_add (a := p) (b := k) (by omega) (by omega), d2]
              exact nxt _ (by rw [hst]; rfl)
        · have : i = l.length := by omega
          subst this
          simp [hl.len, rdCells]
          first | refine bP_of (law11_at_p (size := sa) s1 (by omega) x3) ?_ | refine bP_pure (law11_at_p (size := sa) s1 (by omega) x3) ?_
          have hs1 := s1.len
          rw [hlen] at hs1
          simp [hs1]
          first | refine bP_of (extentRuns_p) ?_ | refine bP_pure (extentRuns_p) ?_
          simp
      by_cases k1 : 0 ≤ atC sa l x3
      · by_cases k2 : p ≤ x3
        · by_cases k3 : x3 < p + k
          · simp [k1, k2, k3, abI_add (a := p) (b := k) (by omega) (by omega)]
            exact j10 _ (by rw [hat, if_pos ⟨k1, k2, k3⟩])
          · simp [k1, k2, k3, abI_add (a := p) (b := k) (by omega) (by omega)]
            exact j10 _ (by rw [hat, if_neg (fun h => k3 h.2.2)])
        · simp [k1, k2]
          exact j10 _ (by rw [hat, if_neg (fun h => k2 h.2.1)])
      · simp [k1]
        exact j10 _ (by rw [hat, if_neg (fun h => k1 h.1)])
    · simp [c2]
      first | refine bP_of (extentRuns_p) ?_ | refine bP_pure (extentRuns_p) ?_
      simp
  · simp [c1]
    first | refine bP_of (extentRuns_p) ?_ | refine bP_pure (extentRuns_p) ?_
    simp
end Go.Proofs.Ytflodknflaallaa.Av
namespace Go.Proofs.Ytflodknflaallaa
theorem extentPunched_holds : Rows.ExtentPunchedSaid := extentPunched_of Av.extentPunched_calls
#print axioms extentPunched_holds
end Go.Proofs.Ytflodknflaallaa
