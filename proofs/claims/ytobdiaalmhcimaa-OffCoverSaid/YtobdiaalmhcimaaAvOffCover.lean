/- The law OffCover: the parts of a span follow one another, from its beginning to its end; each but the first begins at a multiple, none is longer. No condition. -/
import Derived.Test.YtobdiaalmhcimaaAvOff
import Derived.Test.YtobdiaalmhcimaaAvOffRuns
import Derived.Test.YtobdiaalmhcimaaLOffCover
set_option linter.unusedVariables false
set_option linter.unusedSimpArgs false
set_option maxRecDepth 100000
namespace Go.Proofs.Ytobdiaalmhcimaa.Av
open Go Go.RowKit
theorem in64v {n : Int} (h : IntKind.i64.min ≤ n ∧ n ≤ IntKind.i64.max) : -9223372036854775808 ≤ n ∧ n ≤ 9223372036854775807 := by
  simpa [IntKind.min, IntKind.max, IntKind.signed, IntKind.bits] using h
theorem offCover_calls (x0 : Int × Int × Unit) (h0 : offCover_r0.ok x0) (x1 : Int) (h1 : offCover_r1.ok x1) : ACalls Try.prog 7 ([.agg (offCover_r0.enc x0)] ++ offCover_r1.enc x1) [] fun r _ => r = .lit (.bool true) := by
  obtain ⟨a, b, u⟩ := x0
  have hu := in64v h1
  show ACalls Try.prog 7 [.agg (encSp ⟨a, b⟩), I x1] [] _
  refine law_of (salvorlaw1_OffCover_ok ?_)
  unfold salvorlaw1_OffCover
  obtain ⟨v, hv, hp⟩ := off_Parts_p ⟨a, b⟩ hu.2
  have p1 := off_MaySpan_p ⟨a, b⟩
  simp only [encSp] at hp p1 ⊢
  simp [rdCells]
  first | refine bP_of (hp) ?_ | refine bP_pure (hp) ?_
  first | refine bP_of (p1) ?_ | refine bP_pure (p1) ?_
  by_cases hA : MaySpan ⟨a, b⟩
  case neg =>
    have : partsS ⟨a, b⟩ x1 = [] := if_neg (fun h => hA h.1)
    simp [hA, hv.len, this]
    first | refine bP_of (offRuns_p) ?_ | refine bP_pure (offRuns_p) ?_
    rfl
  simp [hA]
  by_cases hB : 4096 < b
  case pos =>
    have : partsS ⟨a, b⟩ x1 = [] := if_neg (fun h => by have := h.2.1; simp only at this; omega)
    simp [hB, hv.len, this]
    first | refine bP_of (offRuns_p) ?_ | refine bP_pure (offRuns_p) ?_
    rfl
  simp [hB]
  by_cases hU : x1 < 1
  case pos =>
    have : partsS ⟨a, b⟩ x1 = [] := if_neg (fun h => by omega)
    simp [hU, hv.len, this]
    first | refine bP_of (offRuns_p) ?_ | refine bP_pure (offRuns_p) ?_
    rfl
  simp [hU]
  have hP : partsS ⟨a, b⟩ x1 = cutsS b.toNat a b x1 := if_pos ⟨hA, by simp only; omega, by omega⟩
  rw [hP] at hv
  generalize hL : cutsS b.toNat a b x1 = L at hv
  simp only [MaySpan, May] at hA
  refine salvorlaw1_OffCover_L8_rule (fun n x1' x2 x5 x6 x7 H => ∃ (k : Nat) (at' len : Int), k + n = L.length ∧ x1' = I x1 ∧ x2 = .ptr 0 0 ∧ x5 = v ∧ x6 = I at' ∧ x7 = I k ∧ H[0]? = some (some (.cells [I a, I b])) ∧
    L.drop k = cutsS len.toNat at' len x1 ∧ at' + len = a + b ∧ 0 ≤ at' ∧ 0 ≤ len ∧ at' + len ≤ 4611686018427387904 ∧ len ≤ b ∧ (0 < k → 0 < len → at' % x1 = 0) ∧ (k : Int) + len ≤ b) ?_ L.length
    ⟨0, a, b, by simp, rfl, rfl, rfl, rfl, rfl, rfl, by simpa using hL.symm, by omega, by omega, by omega, by omega, by omega, by omega, by omega⟩
  rintro n y1 x2 x5 x6 x7 H R hR ⟨k, at', len, hk, rfl, rfl, rfl, rfl, rfl, hH, hd, hs, hat, hlen, hmx, hlb, hmul, hkb⟩
  unfold salvorlaw1_OffCover_L8_b
  by_cases hl : 0 < len
  · rw [cutsS_step (Nat.le_refl _) hl hat (by omega)] at hd
    have e1 := Int.emod_lt_of_pos at' (show 0 < x1 by omega)
    have e2 := Int.emod_nonneg at' (show x1 ≠ 0 by omega)
    have hmm : (at' + (x1 - at' % x1)) % x1 = 0 := by
      rw [show at' + (x1 - at' % x1) = (at' - at' % x1) + x1 by omega, Int.add_emod_right, Int.sub_emod, Int.emod_emod, Int.sub_self]; simp
    have hmc : min len (x1 - at' % x1) = len ∨ min len (x1 - at' % x1) = x1 - at' % x1 := by omega
    have hm1 : 1 ≤ min len (x1 - at' % x1) := by omega
    have hm2 : min len (x1 - at' % x1) ≤ len := by omega
    have hm3 : min len (x1 - at' % x1) ≤ x1 := by omega
    have hm4 : min len (x1 - at' % x1) = len ∨ (at' + min len (x1 - at' % x1)) % x1 = 0 := by
      rcases hmc with h | h
      · exact .inl h
      · right; rw [h]; exact hmm
    generalize min len (x1 - at' % x1) = m at *
    have hx : L[k]? = some ⟨at', m⟩ := by
      have := congrArg (fun l => l[0]?) hd
      simpa [List.getElem?_drop] using this
    have hkl := (List.getElem?_eq_some_iff.1 hx).1
    have hd2 : L.drop (k + 1) = cutsS (len - m).toNat (at' + m) (len - m) x1 := by
      have := congrArg (List.drop 1) hd
      simpa [List.drop_drop] using this
    have c1 : ¬ m < 1 := by omega
    have c2 : ¬ x1 < m := by omega
    have c3 : ¬ b < m := by omega
    have a1 : abI .add (I at') (I m) = some (I (at' + m)) := abI_add (by omega) (by omega)
    have a2 : abI .add (I k) (I 1) = some (I (k + 1)) := abI_add (by omega) (by omega)
    have r1 : abI .rem (I at') (I x1) = some (I (at' % x1)) := abI_rem (by omega) (by omega)
    have step := hR (n - 1) (I x1) (.ptr 0 0) x5 (I (at' + m)) (I (k + 1)) H (by omega) ⟨k + 1, at' + m, len - m, by omega, rfl, rfl, rfl, rfl, rfl, hH, hd2, by omega, by omega, by omega, by omega, by omega, fun _ h => by rcases hm4 with h4 | h4; omega; exact h4, by omega⟩
    by_cases hk0 : 0 < k
    · have hz := hmul hk0 hl
      simp [hv.len, hkl, hv.idx encSp_len hx rfl, encSp, c1, c2, c3, hk0, hz, r1, hH, a1, a2]
      exact step
    · simp [hv.len, hkl, hv.idx encSp_len hx rfl, encSp, c1, c2, c3, hk0, hH, a1, a2]
      exact step
  · rw [cutsS_stop hl, List.drop_eq_nil_iff] at hd
    have hkl : ¬ k < L.length := by omega
    have a1 : abI .add (I a) (I b) = some (I (a + b)) := abI_add (by omega) (by omega)
    have : at' = a + b := by omega
    subst this
    simp [hv.len, hkl, hH, a1]
    first | refine bP_of (offRuns_p) ?_ | refine bP_pure (offRuns_p) ?_
    rfl
end Go.Proofs.Ytobdiaalmhcimaa.Av
namespace Go.Proofs.Ytobdiaalmhcimaa
theorem offCover_holds : Rows.OffCoverSaid := offCover_of Av.offCover_calls
#print axioms offCover_holds
end Go.Proofs.Ytobdiaalmhcimaa
