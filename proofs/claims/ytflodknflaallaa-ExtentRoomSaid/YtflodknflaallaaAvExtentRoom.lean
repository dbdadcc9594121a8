/- The law ExtentRoom: room changes no byte that was there; each place of it is data then, as far as the size; the size grows, or stays. No condition. -/
import Derived.Test.YtflodknflaallaaAvExtN
import Derived.Test.YtflodknflaallaaAvExtA
import Derived.Test.YtflodknflaallaaLExtentRoom
set_option linter.unusedVariables false
set_option linter.unusedSimpArgs false
set_option maxRecDepth 100000
namespace Go.Proofs.Ytflodknflaallaa.Av
open Go Go.RowKit
theorem in16 {n : Int} (h : IntKind.u16.min ≤ n ∧ n ≤ IntKind.u16.max) : 0 ≤ n ∧ n ≤ 65535 := by
  simpa [IntKind.min, IntKind.max, IntKind.signed, IntKind.bits] using h
theorem alloc_len (c : Cont) (pos n : Int) (keep : Bool) : (cL (allocC c pos n keep)).length ≤ c.2.length + 4098 := by
  unfold allocC
  split
  · rename_i h
    simp only [cL, Option.getD_some, allocL]
    have := (ns_len (k := allocN pos n) (l := c.2) (no := pos / 8)).1
    have hN : allocN pos n ≤ 4098 := by unfold allocN; omega
    omega
  · simp [cL]
theorem extentRoom_calls (x0 : Int × Sl XE × Unit) (h0 : extentRoom_r0.ok x0) (x1 : Int) (h1 : extentRoom_r1.ok x1) (x2 : Int) (h2 : extentRoom_r2.ok x2) (x3 : Bool) (h3 : extentRoom_r3.ok x3) (x4 : Int) (h4 : extentRoom_r4.ok x4) :
    ACalls Try.prog 8 ([.agg (extentRoom_r0.enc x0)] ++ extentRoom_r1.enc x1 ++ extentRoom_r2.enc x2 ++ extentRoom_r3.enc x3 ++ extentRoom_r4.enc x4) [] fun r _ => r = .lit (.bool true) := by
  obtain ⟨sa, la, u⟩ := x0
  obtain ⟨l, hl1, hl⟩ := cont_sv la h0.2.1.1 (fun x hx => (h0.2.1.2.2 x hx).2.1.1)
  obtain ⟨u1, u2⟩ := in16 h1
  obtain ⟨u3, u4⟩ := in16 h2
  obtain ⟨u5, u6⟩ := in64 h4
  show ACalls Try.prog 8 [.agg [I sa, if la.nil then AV.lit (.slice none 0 0) else .imm (la.l.flatMap xenc) la.l.length 9], .lit (.int .u16 x1), .lit (.int .u16 x2), B x3, I x4] [] _
  generalize (if la.nil then AV.lit (.slice none 0 0) else .imm (la.l.flatMap xenc) la.l.length 9) = v at hl
  refine law_of (salvorlaw11_ExtentRoom_ok ?_)
  unfold salvorlaw11_ExtentRoom
  simp [oneA_sv hl, rdCells]
  first | refine bP_of (law11_Few_p hl) ?_ | refine bP_pure (law11_Few_p hl) ?_
  by_cases c1 : l.length ≤ 60
  · simp [c1]
    first | refine bP_of (extent_May_p hl (by omega)) ?_ | refine bP_pure (extent_May_p hl (by omega)) ?_
    by_cases c2 : mayC sa l
    · simp [c2, abI_rem (k := .u16) (a := x1) (b := 600) (by omega) (by omega), abI_rem (k := .u16) (a := x2) (b := 200) (by omega) (by omega), acI_i64 (k' := .u16) (a := x1 % 600) (by omega) (by omega), acI_i64 (k' := .u16) (a := x2 % 200) (by omega) (by omega), abI_add (a := x2 % 200) (b := 1) (by omega) (by omega)]
      have hp0 : 0 ≤ x1 % 600 := by omega
      have hp1 : x1 % 600 < 600 := by omega
      have hk0 : 1 ≤ x2 % 200 + 1 := by omega
      have hk1 : x2 % 200 + 1 ≤ 200 := by omega
      generalize x1 % 600 = p at hp0 hp1
      generalize x2 % 200 + 1 = k at hk0 hk1
      obtain ⟨R1, s1, q1⟩ := extent_Allocate_p (size := sa) hl (by omega) p k x3
      have hlen := alloc_len (sa, l) p k x3
      have ha : allocC (sa, l) p k x3 = some (if x3 then sa else max sa (p + k), allocL l p k) := alloc_some (c := (sa, l)) c2 (by omega) (by omega) (by omega) (by omega)
      have hm := may_alloc ha
      have hat := alloc_at ha x4
      have hda := fun (i : Int) => alloc_data (i := i) ha
      have hmm := atC_may hm
      rw [ha] at s1 hlen q1
      simp only [cS, cL, Option.getD_some, Option.isSome_some] at s1 hlen q1 hm hat hda
      generalize hsz : (if x3 = true then sa else max sa (p + k)) = sz at *
      generalize allocL l p k = m at *
      first | refine bP_of (q1) ?_ | refine bP_pure (q1) ?_
      simp [oneA_sv s1, ast]
      have j7 : salvorlaw11_ExtentRoom_J7 (I x4) (.ptr 0 0) (I p) (I k) (.ptr 1 0) (B true) (I sz) [some (.cells [I sa, v]), some (.cells [I sz, R1])] (fun r H' => r = B true) := by
        rw [salvorlaw11_ExtentRoom_J7_eq]
        unfold salvorlaw11_ExtentRoom_J7_b
        simp [rdCells]
        first | refine bP_of (extent_May_p (size := sz) s1 (by omega)) ?_ | refine bP_pure (extent_May_p (size := sz) s1 (by omega)) ?_
        simp [hm]
        rw [salvorlaw11_ExtentRoom_J10_eq]
        unfold salvorlaw11_ExtentRoom_J10_b
        simp
        rw [salvorlaw11_ExtentRoom_J9_eq]
        unfold salvorlaw11_ExtentRoom_J9_b
        simp [rdCells]
        first | refine bP_of (law11_at_p (size := sa) hl (by omega) x4) ?_ | refine bP_pure (law11_at_p (size := sa) hl (by omega) x4) ?_
        rw [salvorlaw11_ExtentRoom_J12_eq]
        unfold salvorlaw11_ExtentRoom_J12_b
        have j13 : salvorlaw11_ExtentRoom_J13 (I x4) (I p) (I k) (.ptr 1 0) (I sz) (I (atC sz m x4)) [some (.cells [I sa, v]), some (.cells [I sz, R1])] (fun r H' => r = B true) := by
          rw [salvorlaw11_ExtentRoom_J13_eq]
          unfold salvorlaw11_ExtentRoom_J13_b
          rw [salvorlaw11_ExtentRoom_J16_eq]
          unfold salvorlaw11_ExtentRoom_J16_b
          refine salvorlaw11_ExtentRoom_L17_rule (fun q y4 y11 y12 y13 y15 y16 y17 H => ∃ i : Int, q = (p + k - i).toNat ∧ p ≤ i ∧ y4 = I x4 ∧ y11 = I p ∧ y12 = I k ∧ y13 = .ptr 1 0 ∧ y15 = I sz ∧ y16 = I (atC sz m x4) ∧ y17 = I i ∧ H = [some (.cells [I sa, v]), some (.cells [I sz, R1])]) ?_ (p + k - p).toNat ⟨p, rfl, by omega, rfl, rfl, rfl, rfl, rfl, rfl, rfl, rfl⟩
          rintro q y4 y11 y12 y13 y15 y16 y17 H R hR ⟨i, rfl, hi, rfl, rfl, rfl, rfl, rfl, rfl, rfl, rfl⟩
          unfold salvorlaw11_ExtentRoom_L17_b
          simp [abI_add (a := p) (b := k) (by omega) (by omega)]
          have fin : bO (ald true 2 [some (.cells [I sa, v]), some (.cells [I sz, R1])] (.ptr 1 0)) fun v24 => bP (PCall Try.prog 20 [v24, I x4] [some (.cells [I sa, v]), some (.cells [I sz, R1])]) fun v25 => bO (abI .eql v25 (I (atC sz m x4))) fun v26 => bG v26 true fun w27 => gP w27 (PCall Try.prog 3 [] [some (.cells [I sa, v]), some (.cells [I sz, R1])]) fun v28 => bO (apick v26 v28 (.lit (.bool false))) fun v29 => v29 = B true := by
            simp [rdCells]
            first | refine bP_of (law11_at_p (size := sz) s1 (by omega) x4) ?_ | refine bP_pure (law11_at_p (size := sz) s1 (by omega) x4) ?_
            simp
            first | refine bP_of (extentRuns_p) ?_ | refine bP_pure (extentRuns_p) ?_
            simp
          by_cases g1 : i < p + k
          · by_cases g2 : i < sz
            · have hd := extent_Data_p (size := sz) s1 (by omega) i
              rw [hda i hi g1 g2] at hd
              simp [g1, g2, rdCells]
              first | refine bP_of (hd) ?_ | refine bP_pure (hd) ?_
              simp [oI, abI_add (a := i) (b := 1) (by omega) (by omega)]
              exact hR (p + k - (i + 1)).toNat _ _ _ _ _ _ _ _ (by omega) ⟨i + 1, rfl, by omega, rfl, rfl, rfl, rfl, rfl, rfl, rfl, rfl⟩
            · simp [g1, g2]
              simpa using fin
          · simp [g1]
            simpa using fin
        by_cases g1 : sa ≤ x4
        · by_cases g2 : x4 < sz
          · rw [if_pos ⟨g1, g2⟩] at hat
            simp [g1, g2]
            rw [salvorlaw11_ExtentRoom_J14_eq]
            unfold salvorlaw11_ExtentRoom_J14_b
            simp
            rw [hat] at j13
            exact j13
          · rw [if_neg (fun h => g2 h.2)] at hat
            simp [g1, g2]
            rw [salvorlaw11_ExtentRoom_J14_eq]
            unfold salvorlaw11_ExtentRoom_J14_b
            simp
            rw [hat] at j13
            exact j13
        · rw [if_neg (fun h => g1 h.1)] at hat
          simp [g1]
          rw [salvorlaw11_ExtentRoom_J14_eq]
          unfold salvorlaw11_ExtentRoom_J14_b
          simp
          rw [hat] at j13
          exact j13
      cases x3 with
      | true =>
        simp only [if_true] at hsz
        subst hsz
        simp
        exact j7
      | false =>
        simp only [Bool.false_eq_true, if_false] at hsz
        have : max (p + k) sa = sz := by omega
        simp [abI_add (a := p) (b := k) (by omega) (by omega), this]
        exact j7
    · simp [c2]
      first | refine bP_of (extentRuns_p) ?_ | refine bP_pure (extentRuns_p) ?_
      simp
  · simp [c1]
    first | refine bP_of (extentRuns_p) ?_ | refine bP_pure (extentRuns_p) ?_
    simp
end Go.Proofs.Ytflodknflaallaa.Av
namespace Go.Proofs.Ytflodknflaallaa
theorem extentRoom_holds : Rows.ExtentRoomSaid := extentRoom_of Av.extentRoom_calls
#print axioms extentRoom_holds
end Go.Proofs.Ytflodknflaallaa
