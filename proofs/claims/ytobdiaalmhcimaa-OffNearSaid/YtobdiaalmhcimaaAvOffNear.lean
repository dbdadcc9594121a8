/- The law OffNear: the multiples below and above are the nearest. No condition. -/
import Derived.Test.YtobdiaalmhcimaaAvOff
import Derived.Test.YtobdiaalmhcimaaAvOffRuns
import Derived.Test.YtobdiaalmhcimaaLOffNear
set_option linter.unusedVariables false
set_option linter.unusedSimpArgs false
set_option maxRecDepth 100000
namespace Go.Proofs.Ytobdiaalmhcimaa.Av
open Go Go.RowKit
theorem in64n {n : Int} (h : IntKind.i64.min ≤ n ∧ n ≤ IntKind.i64.max) : -9223372036854775808 ≤ n ∧ n ≤ 9223372036854775807 := by
  simpa [IntKind.min, IntKind.max, IntKind.signed, IntKind.bits] using h
theorem offNear_calls (x0 : Int) (h0 : offNear_r0.ok x0) (x1 : Int) (h1 : offNear_r1.ok x1) : ACalls Try.prog 9 (offNear_r0.enc x0 ++ offNear_r1.enc x1) [] fun r _ => r = .lit (.bool true) := by
  have hu := in64n h1
  show ACalls Try.prog 9 [I x0, I x1] [] _
  refine law_of (salvorlaw1_OffNear_ok ?_)
  unfold salvorlaw1_OffNear
  have e0 : oI (up x0 x1) = .tup [I ((up x0 x1).getD 0), B (up x0 x1).isSome] := by cases up x0 x1 <;> rfl
  first | refine bP_of (off_Down_p _ _) ?_ | refine bP_pure (off_Down_p _ _) ?_
  first | refine bP_of (off_Up_p hu.2) ?_ | refine bP_pure (off_Up_p hu.2) ?_
  rw [e0]
  simp
  first | refine bP_of (off_May_p _) ?_ | refine bP_pure (off_May_p _) ?_
  by_cases hM : May x0
  case neg =>
    have h1 : up x0 x1 = none := if_neg (fun h => hM h.1)
    have h2 : down x0 x1 = 0 := if_neg (fun h => hM h.1)
    simp [hM, h1, h2]
    first | refine bP_of (offRuns_p) ?_ | refine bP_pure (offRuns_p) ?_
    simp
  by_cases hU : x1 < 1
  case pos =>
    have h1 : up x0 x1 = none := if_neg (fun h => by omega)
    have h2 : down x0 x1 = 0 := if_neg (fun h => by omega)
    simp [hM, hU, h1, h2]
    first | refine bP_of (offRuns_p) ?_ | refine bP_pure (offRuns_p) ?_
    simp
  have hd : down x0 x1 = x0 - x0 % x1 := if_pos ⟨hM, by omega⟩
  have hup : up x0 x1 = if x0 % x1 = 0 then some x0 else if x0 - x0 % x1 + x1 ≤ 4611686018427387904 then some (x0 - x0 % x1 + x1) else none := if_pos ⟨hM, by omega⟩
  have e1 := Int.emod_lt_of_pos x0 (show 0 < x1 by omega)
  have e2 := Int.emod_nonneg x0 (show x1 ≠ 0 by omega)
  have e3 := emod_le_self (n := x0) (u := x1) (by unfold May at hM; omega) (by omega)
  have d1 : (x0 - x0 % x1) % x1 = 0 := by rw [Int.sub_emod, Int.emod_emod, Int.sub_self]; simp
  have d2 : (x0 - x0 % x1 + x1) % x1 = 0 := by rw [Int.add_emod_right]; exact d1
  have hM' := hM
  unfold May at hM'
  have c1 : ¬ x0 < x0 - x0 % x1 := by omega
  have c2 : ¬ x1 ≤ x0 % x1 := by omega
  have c3 : ¬ x0 - x0 % x1 < 0 := by omega
  have r1 : abI .rem (I (x0 - x0 % x1)) (I x1) = some (I 0) := by rw [abI_rem (by omega) (by omega), d1]
  have r2 : abI .sub (I x0) (I (x0 - x0 % x1)) = some (I (x0 % x1)) := by rw [abI_sub (by omega) (by omega), show x0 - (x0 - x0 % x1) = x0 % x1 by omega]
  simp [hM, hU, hd, r1, c1, r2, c2, c3]
  by_cases h3 : x0 % x1 = 0
  · have hs : up x0 x1 = some x0 := by rw [hup, if_pos h3]
    have r3 : abI .rem (I x0) (I x1) = some (I 0) := by rw [abI_rem (by omega) (by omega), h3]
    have r4 : abI .sub (I x0) (I x0) = some (I 0) := by rw [abI_sub (by omega) (by omega), Int.sub_self]
    have c4 : 0 < x1 := by omega
    simp [hs, r3, r4, c4, hM'.2]
    first | refine bP_of (offRuns_p) ?_ | refine bP_pure (offRuns_p) ?_
    simp
  · by_cases h4 : x0 - x0 % x1 + x1 ≤ 4611686018427387904
    · have hs : up x0 x1 = some (x0 - x0 % x1 + x1) := by rw [hup, if_neg h3, if_pos h4]
      have r3 : abI .rem (I (x0 - x0 % x1 + x1)) (I x1) = some (I 0) := by rw [abI_rem (by omega) (by omega), d2]
      have r4 : abI .sub (I (x0 - x0 % x1 + x1)) (I x0) = some (I (x1 - x0 % x1)) := by rw [abI_sub (by omega) (by omega), show x0 - x0 % x1 + x1 - x0 = x1 - x0 % x1 by omega]
      have c4 : x0 ≤ x0 - x0 % x1 + x1 := by omega
      have c5 : x1 - x0 % x1 < x1 := by omega
      simp [hs, r3, r4, c4, c5, h4]
      first | refine bP_of (offRuns_p) ?_ | refine bP_pure (offRuns_p) ?_
      simp
    · have hs : up x0 x1 = none := by rw [hup, if_neg h3, if_neg h4]
      have r3 : abI .rem (I x0) (I x1) = some (I (x0 % x1)) := abI_rem (by omega) (by omega)
      have r4 : abI .sub (I x1) (I (x0 % x1)) = some (I (x1 - x0 % x1)) := abI_sub (by omega) (by omega)
      have r5 : abI .sub (I 4611686018427387904) (I x0) = some (I (4611686018427387904 - x0)) := abI_sub (by omega) (by omega)
      have c4 : 0 < x0 % x1 := by omega
      have c5 : 4611686018427387904 - x0 < x1 - x0 % x1 := by omega
      simp [hs, r3, r4, r5, c4, c5]
      first | refine bP_of (offRuns_p) ?_ | refine bP_pure (offRuns_p) ?_
      simp
end Go.Proofs.Ytobdiaalmhcimaa.Av
namespace Go.Proofs.Ytobdiaalmhcimaa
theorem offNear_holds : Rows.OffNearSaid := offNear_of Av.offNear_calls
#print axioms offNear_holds
end Go.Proofs.Ytobdiaalmhcimaa
