/- The law ExtentSeeks: from any place the next data and the next hole. No condition. -/
import Derived.Test.YtflodknflaallaaAvExtM
import Derived.Test.YtflodknflaallaaLExtentSeeks
set_option linter.unusedVariables false
set_option linter.unusedSimpArgs false
set_option maxRecDepth 100000
namespace Go.Proofs.Ytflodknflaallaa.Av
open Go Go.RowKit
theorem extentSeeks_calls (x0 : Int × Sl XE × Unit) (h0 : extentSeeks_r0.ok x0) (x1 : Int) (h1 : extentSeeks_r1.ok x1) :
    ACalls Try.prog 5 ([.agg (extentSeeks_r0.enc x0)] ++ extentSeeks_r1.enc x1) [] fun r _ => r = .lit (.bool true) := by
  obtain ⟨size, la, u⟩ := x0
  obtain ⟨l, hl1, hl⟩ := cont_sv la h0.2.1.1 (fun x hx => (h0.2.1.2.2 x hx).2.1.1)
  have hu : 0 ≤ x1 ∧ x1 ≤ 65535 := by
    have : IntKind.u16.min ≤ x1 ∧ x1 ≤ IntKind.u16.max := h1
    simpa [IntKind.min, IntKind.max, IntKind.signed, IntKind.bits] using this
  show ACalls Try.prog 5 [.agg [I size, if la.nil then AV.lit (.slice none 0 0) else .imm (la.l.flatMap xenc) la.l.length 9], .lit (.int .u16 x1)] [] _
  generalize (if la.nil then AV.lit (.slice none 0 0) else .imm (la.l.flatMap xenc) la.l.length 9) = v at hl
  refine law_of (salvorlaw11_ExtentSeeks_ok ?_)
  unfold salvorlaw11_ExtentSeeks
  simp [oneA_sv hl, rdCells]
  first | refine bP_of (law11_Few_p hl) ?_ | refine bP_pure (law11_Few_p hl) ?_
  by_cases c1 : l.length ≤ 60
  · simp [c1]
    first | refine bP_of (extent_May_p hl (by omega)) ?_ | refine bP_pure (extent_May_p hl (by omega)) ?_
    by_cases c2 : mayC size l
    · by_cases c3 : 2000 < size
      · simp [c2, c3]
        first | refine bP_of (extentRuns_p) ?_ | refine bP_pure (extentRuns_p) ?_
        simp
      · have hsz := c2.1
        have hs := okL_srt c2.2.2
        have hp1 := Int.emod_nonneg x1 (show size + 1 ≠ 0 by omega)
        have hp2 := Int.emod_lt_of_pos x1 (show 0 < size + 1 by omega)
        simp [c2, c3, acI_i64 (a := x1) (by omega) (by omega), abI_add (a := size) (b := 1) (by omega) (by omega), abI_rem (a := x1) (b := size + 1) (by omega) (by omega)]
        generalize x1 % (size + 1) = p at hp1 hp2
        have e1 := oI_pair (dataC size l p)
        have e2 := oI_pair (holeC size l p)
        have q1 := extent_Data_p (size := size) hl (by omega) p
        have q2 := extent_Hole_p (size := size) hl (by omega) p
        rw [e1] at q1
        rw [e2] at q2
        first | refine bP_of (q1) ?_ | refine bP_pure (q1) ?_
        simp
        first | refine bP_of (q2) ?_ | refine bP_pure (q2) ?_
        simp
        have hd : dataC size l p = dataL size p l := if_pos ⟨c2, hp1⟩
        obtain ⟨d1, d2⟩ := dataL_spec (size := size) hp1 hs
        by_cases c4 : size ≤ p
        · have e3 : dataC size l p = none := by
            rw [hd]
            cases hh : dataL size p l with
            | none => rfl
            | some d => have := d1 d hh; omega
          have e4 : holeC size l p = none := holeC_none (fun h => by omega)
          simp [c4, e3, e4]
          first | refine bP_of (extentRuns_p) ?_ | refine bP_pure (extentRuns_p) ?_
          simp
        · obtain ⟨h, e4, hh⟩ := holeC_some (size := size) (l := l) (pos := p) ⟨c2, hp1, by omega⟩
          have lp : ∀ (e : Int), e ≤ size → (∀ r, p ≤ r → r < e → ¬ hasL l (r / 8)) → (e = (match dataC size l p with | some d => d | none => size)) →
              salvorlaw11_ExtentSeeks_L15 (.ptr 0 0) (I p) (I ((dataC size l p).getD 0)) (B (dataC size l p).isSome) (I h) (B true) (I e) (I p) [some (.cells [I size, v])] (fun r H' => r = B true) := by
            intro e he hno hee
            refine salvorlaw11_ExtentSeeks_L15_rule (fun n x2 x5 x6 x7 x8 x9 x10 x11 H' => ∃ i : Int, (e - i).toNat = n ∧ p ≤ i ∧ x2 = .ptr 0 0 ∧ x5 = I p ∧ x6 = I ((dataC size l p).getD 0) ∧ x7 = B (dataC size l p).isSome ∧ x8 = I h ∧ x9 = B true ∧ x10 = I e ∧ x11 = I i ∧ H' = [some (.cells [I size, v])]) ?_ (e - p).toNat ⟨p, rfl, by omega, rfl, rfl, rfl, rfl, rfl, rfl, rfl, rfl, rfl⟩
            rintro n x2 x5 x6 x7 x8 x9 x10 x11 H' R hR ⟨i, hn, hi, rfl, rfl, rfl, rfl, rfl, rfl, rfl, rfl, rfl⟩
            unfold salvorlaw11_ExtentSeeks_L15_b
            by_cases c5 : i < e
            · have ha : atC size l i = 0 := by
                have : atL l i = 0 := atL_none (hno i hi c5)
                unfold atC
                rw [if_pos ⟨c2, by omega, by omega, by omega, by omega⟩, this]; rfl
              simp [c5, rdCells]
              first | refine bP_of (law11_at_p hl (by omega) i) ?_ | refine bP_pure (law11_at_p hl (by omega) i) ?_
              simp [ha, abI_add (a := i) (b := 1) (by omega) (by omega)]
              exact hR (e - (i + 1)).toNat _ _ _ _ _ _ _ _ _ (by omega) ⟨i + 1, rfl, by omega, rfl, rfl, rfl, rfl, rfl, rfl, rfl, rfl, rfl⟩
            · obtain ⟨g1, g2, g3, g4⟩ := hh
              have key : ((dataC size l p).isSome = true ∧ (dataC size l p).getD 0 = p) ↔ ¬ h = p := by
                rw [hd]
                cases hdd : dataL size p l with
                | none =>
                  have := d2 hdd p (by omega) (by omega)
                  simp
                  by_cases c6 : h = p
                  · exact c6
                  · exact (this (g3 p (by omega) (by omega))).elim
                | some d =>
                  obtain ⟨a1, a2, a3, a4⟩ := d1 d hdd
                  simp
                  constructor
                  · intro hdp hhp
                    subst hdp
                    rw [hhp] at g4
                    rcases g4 with g4 | g4
                    · omega
                    · exact g4 a3
                  · intro hhp
                    by_cases c6 : d = p
                    · exact c6
                    · exact (a4 p (by omega) (by omega) (g3 p (by omega) (by omega))).elim
              have key2 : (dataC size l p).isSome = true → p ≤ (dataC size l p).getD 0 ∧ (dataC size l p).getD 0 < size := by
                rw [hd]
                cases hdd : dataL size p l with
                | none => intro h; cases h
                | some d => intro _; have := d1 d hdd; exact ⟨this.1, this.2.1⟩
              simp [c5, g1, g2]
              cases hb : (dataC size l p).isSome with
              | false =>
                rw [hb] at key
                simp at key
                simp [key]
                first | refine bP_of (extentRuns_p) ?_ | refine bP_pure (extentRuns_p) ?_
                simp
              | true =>
                rw [hb] at key
                simp at key
                obtain ⟨k1, k2⟩ := key2 hb
                by_cases c6 : h = p
                · have c7 : ¬ (dataC size l p).getD 0 = p := fun hx => (key.1 hx) c6
                  simp [c6, c7, k1, k2]
                  first | refine bP_of (extentRuns_p) ?_ | refine bP_pure (extentRuns_p) ?_
                  simp
                · have c7 := key.2 c6
                  simp [c6, c7, show p < size by omega]
                  first | refine bP_of (extentRuns_p) ?_ | refine bP_pure (extentRuns_p) ?_
                  simp
          simp [c4, e4]
          have lp2 := lp
          rw [hd] at lp2 ⊢
          cases hdd : dataL size p l with
          | none =>
            rw [hdd] at lp2
            simp
            rw [salvorlaw11_ExtentSeeks_J11_eq]
            unfold salvorlaw11_ExtentSeeks_J11_b
            rw [salvorlaw11_ExtentSeeks_J14_eq]
            unfold salvorlaw11_ExtentSeeks_J14_b
            exact lp2 size (by omega) (d2 hdd) rfl
          | some d =>
            rw [hdd] at lp2
            obtain ⟨a1, a2, a3, a4⟩ := d1 d hdd
            simp
            rw [salvorlaw11_ExtentSeeks_J11_eq]
            unfold salvorlaw11_ExtentSeeks_J11_b
            rw [salvorlaw11_ExtentSeeks_J14_eq]
            unfold salvorlaw11_ExtentSeeks_J14_b
            exact lp2 d (by omega) a4 rfl
    · simp [c2]
      first | refine bP_of (extentRuns_p) ?_ | refine bP_pure (extentRuns_p) ?_
      simp
  · simp [c1]
    first | refine bP_of (extentRuns_p) ?_ | refine bP_pure (extentRuns_p) ?_
    simp
end Go.Proofs.Ytflodknflaallaa.Av
namespace Go.Proofs.Ytflodknflaallaa
theorem extentSeeks_holds : Rows.ExtentSeeksSaid := extentSeeks_of Av.extentSeeks_calls
#print axioms extentSeeks_holds
end Go.Proofs.Ytflodknflaallaa
