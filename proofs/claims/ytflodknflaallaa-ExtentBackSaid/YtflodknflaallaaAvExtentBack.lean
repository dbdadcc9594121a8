/- The law ExtentBack: what is written is read again; all else is as it was, and between the old end and what was written stand noughts. No condition. -/
import Derived.Test.YtflodknflaallaaAvExtN
import Derived.Test.YtflodknflaallaaLExtentBack
set_option linter.unusedVariables false
set_option linter.unusedSimpArgs false
set_option maxRecDepth 100000
namespace Go.Proofs.Ytflodknflaallaa.Av
open Go Go.RowKit
theorem extentBack_calls (x0 : Int × Sl XE × Unit) (h0 : extentBack_r0.ok x0) (x1 : Int) (h1 : extentBack_r1.ok x1) (x2 : Sl UInt8) (h2 : extentBack_r2.ok x2) (x3 : Int) (h3 : extentBack_r3.ok x3) :
    ACalls Try.prog 7 ([.agg (extentBack_r0.enc x0)] ++ extentBack_r1.enc x1 ++ extentBack_r2.enc x2 ++ extentBack_r3.enc x3) [] fun r _ => r = .lit (.bool true) := by
  obtain ⟨sa, la, u⟩ := x0
  obtain ⟨l, hl1, hl⟩ := cont_sv la h0.2.1.1 (fun x hx => (h0.2.1.2.2 x hx).2.1.1)
  have hb := bytes_sv x2 h2.1
  obtain ⟨hu1, hu2⟩ := in64 h3
  show ACalls Try.prog 7 [.agg [I sa, if la.nil then AV.lit (.slice none 0 0) else .imm (la.l.flatMap xenc) la.l.length 9], I x1, if x2.nil then AV.lit (.slice none 0 0) else .imm (x2.l.flatMap encU) x2.l.length 1, I x3] [] _
  generalize (if la.nil then AV.lit (.slice none 0 0) else .imm (la.l.flatMap xenc) la.l.length 9) = v at hl
  generalize (if x2.nil then AV.lit (.slice none 0 0) else .imm (x2.l.flatMap encU) x2.l.length 1) = bv at hb
  generalize x2.l = bs at hb
  refine law_of (salvorlaw11_ExtentBack_ok ?_)
  unfold salvorlaw11_ExtentBack
  simp [oneA_sv hl, rdCells]
  first | refine bP_of (law11_Few_p hl) ?_ | refine bP_pure (law11_Few_p hl) ?_
  by_cases c1 : l.length ≤ 60
  · simp [c1]
    first | refine bP_of (extent_May_p hl (by omega)) ?_ | refine bP_pure (extent_May_p hl (by omega)) ?_
    by_cases c2 : mayC sa l
    · by_cases c3 : (200 : Int) < bs.length
      · simp [c2, hb.len, c3]
        first | refine bP_of (extentRuns_p) ?_ | refine bP_pure (extentRuns_p) ?_
        simp
      · simp [c2, hb.len, c3]
        obtain ⟨R1, s1, q1⟩ := extent_Write_p (size := sa) hl (by omega) x1 hb (by omega)
        have hlen := write_len (sa, l) x1 bs
        simp only at hlen
        first | refine bP_of (q1) ?_ | refine bP_pure (q1) ?_
        simp [oneA_sv s1, ast]
        have hwn := writeC_none (c := (sa, l)) (pos := x1) (bs := bs) c2 (by omega)
        cases hw : writeC (sa, l) x1 bs with
        | none =>
          rw [hw] at s1
          have hx := hwn.1 hw
          simp [cS, abI_sub (a := 1099511627776) (b := bs.length) (by omega) (by omega)]
          have hl0 : alnS R1 = some (I 0) := s1.len
          by_cases hx1 : x1 < 0
          · simp [hx1, hl0]
            first | refine bP_of (extentRuns_p) ?_ | refine bP_pure (extentRuns_p) ?_
            simp
          · have hx2 : 1099511627776 - (bs.length : Int) < x1 := by omega
            simp [hx1, hb.len, abI_sub (a := 1099511627776) (b := bs.length) (by omega) (by omega), hx2, hl0]
            first | refine bP_of (extentRuns_p) ?_ | refine bP_pure (extentRuns_p) ?_
            simp
        | some d =>
          have hm := may_write hw
          have hr := write_read hw
          have ha := write_at hw x3
          have e1 : cS (some d) = d.1 := rfl
          have e2 : cL (some d) = d.2 := rfl
          rw [hw] at s1 hlen
          rw [e2] at s1 hlen
          have hpos := writeC_some hw
          obtain ⟨ds, dl⟩ := d
          simp only at e1 e2 hm hr ha s1 hlen
          simp [e1]
          obtain ⟨R2, s2, q2⟩ := extent_Read_p (size := ds) s1 (by omega) x1 bs.length
          first | refine bP_of (q2) ?_ | refine bP_pure (q2) ?_
          rw [hr] at s2
          simp [acB_spec (s2.bytes _), acB_spec (hb.bytes _), abT_neq]
          first | refine bP_of (extent_May_p (size := ds) s1 (by omega)) ?_ | refine bP_pure (extent_May_p (size := ds) s1 (by omega)) ?_
          simp [hm]
          first | refine bP_of (law11_at_p (size := sa) hl (by omega) x3) ?_ | refine bP_pure (law11_at_p (size := sa) hl (by omega) x3) ?_
          have tail : ∀ want, want = atC ds dl x3 → salvorlaw11_ExtentBack_J12 bv (I x3) (.ptr 0 0) (.ptr 1 0) (I want) [some (.cells [I sa, v]), some (.cells [I ds, R1])] (fun r H' => r = B true) := by
            rintro want rfl
            rw [salvorlaw11_ExtentBack_J12_eq]
            unfold salvorlaw11_ExtentBack_J12_b
            simp [rdCells]
            first | refine bP_of (law11_at_p (size := ds) s1 (by omega) x3) ?_ | refine bP_pure (law11_at_p (size := ds) s1 (by omega) x3) ?_
            by_cases c4 : bs = []
            · have e := hpos.2.2.2.2
              rw [if_pos c4] at e
              injection e with e3 e4
              subst e3; subst e4
              subst c4
              simp [hb.len]
              first | refine bP_of (extent_Same_p (a := ds) (b := ds) s1 hl (by omega)) ?_ | refine bP_pure (extent_Same_p (a := ds) (b := ds) s1 hl (by omega)) ?_
              simp [sameC]
              first | refine bP_of (extentRuns_p) ?_ | refine bP_pure (extentRuns_p) ?_
              simp
            · have : 0 < bs.length := List.length_pos_iff.2 c4
              simp [hb.len, this]
              first | refine bP_of (extentRuns_p) ?_ | refine bP_pure (extentRuns_p) ?_
              simp
          by_cases c4 : x1 ≤ x3 ∧ x3 - x1 < bs.length
          · rw [if_pos c4] at ha
            have hg := List.getElem?_eq_getElem (l := bs) (i := (x3 - x1).toNat) (by omega)
            generalize bs[(x3 - x1).toNat]'(by omega) = y at hg
            have hy : bs.getD (x3 - x1).toNat 0 = y := by rw [List.getD_eq_getElem?_getD, hg]; rfl
            obtain ⟨p, g1, -, g2⟩ := aix_byte (H := [some (.cells [I sa, v]), some (.cells [I ds, R1])]) (hb.bytes _) (i := x3 - x1) (k := (x3 - x1).toNat) (by omega) hg
            have hlt := y.toNat_lt
            simp [c4.1, abI_sub (a := x3) (b := x1) (by omega) (by omega), hb.len, c4.2, g1, g2, acI_i64 (a := (y.toNat : Int)) (by omega) (by omega)]
            exact tail _ (by rw [ha, hy])
          · rw [if_neg c4] at ha
            by_cases k1 : x1 ≤ x3
            · have k2 : ¬ x3 - x1 < bs.length := fun h => c4 ⟨k1, h⟩
              have k3 : ¬ x3 < x1 := by omega
              have hr : atC sa l x3 = atC ds dl x3 := by rw [ha, if_neg (fun h => k3 h.2.2)]
              by_cases m1 : 0 < bs.length
              · by_cases m2 : sa ≤ x3
                · simp [k1, abI_sub (a := x3) (b := x1) (by omega) (by omega), hb.len, k2, m1, m2, k3]
                  exact tail _ hr
                · simp [k1, abI_sub (a := x3) (b := x1) (by omega) (by omega), hb.len, k2, m1, m2]
                  exact tail _ hr
              · simp [k1, abI_sub (a := x3) (b := x1) (by omega) (by omega), hb.len, k2, m1]
                exact tail _ hr
            · have k3 : x3 < x1 := by omega
              by_cases m1 : 0 < bs.length
              · by_cases m2 : sa ≤ x3
                · simp [k1, hb.len, m1, m2, k3]
                  exact tail _ (by rw [ha, if_pos ⟨m1, m2, k3⟩])
                · simp [k1, hb.len, m1, m2]
                  exact tail _ (by rw [ha, if_neg (fun h => m2 h.2.1)])
              · simp [k1, hb.len, m1]
                exact tail _ (by rw [ha, if_neg (fun h => m1 h.1)])
    · simp [c2]
      first | refine bP_of (extentRuns_p) ?_ | refine bP_pure (extentRuns_p) ?_
      simp
  · simp [c1]
    first | refine bP_of (extentRuns_p) ?_ | refine bP_pure (extentRuns_p) ?_
    simp
end Go.Proofs.Ytflodknflaallaa.Av
namespace Go.Proofs.Ytflodknflaallaa
theorem extentBack_holds : Rows.ExtentBackSaid := extentBack_of Av.extentBack_calls
#print axioms extentBack_holds
end Go.Proofs.Ytflodknflaallaa
