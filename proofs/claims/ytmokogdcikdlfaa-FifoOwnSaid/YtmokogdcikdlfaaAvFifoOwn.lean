/- The law FifoOwn: what was handed in may be changed by who did so, and what comes out, too: what is in it stays. No condition. -/
import Derived.Test.YtmokogdcikdlfaaAvFifoL
import Derived.Test.YtmokogdcikdlfaaLFifoOwn
set_option linter.unusedVariables false
set_option linter.unusedSimpArgs false
set_option maxRecDepth 100000
namespace Go.Proofs.Ytmokogdcikdlfaa.Av
open Go Go.RowKit
theorem abI_add8 {a b : Int} : abI .add (.lit (.int .u8 a)) (.lit (.int .u8 b)) = some (.lit (.int .u8 (IntKind.u8.wrap (a + b)))) := by simp [abI, aint2]
/-- One round of either loop that changes a list's bytes. -/
theorem bump {H : AH} {v : AV} {l : List UInt8} {n k : Nat} (h : sliceCells H 1 v = some (encB l, n)) (ho : ownedS v = true) (hk : k < n) :
    ∃ (p : AV) (b c : UInt8) (l' : List UInt8) (H' : AH), aixS 1 v (I k) = some p ∧ ald false 1 H p = some (.lit (.int .u8 b.toNat)) ∧ IntKind.u8.wrap (b.toNat + 1) = c.toNat ∧ ast 1 H p (.lit (.int .u8 c.toNat)) = some H' ∧
      sliceCells H' 1 v = some (encB l', n) ∧ H'.length = H.length ∧ ∀ j, j ∉ idS v → H'[j]? = H[j]? := by
  have hl := sliceCells_len h
  rw [encB_len] at hl
  have hx := List.getElem?_eq_getElem (show k < l.length by omega)
  generalize l[k] = b at hx
  obtain ⟨p, p1, -, p3⟩ := aix_byte h rfl hx
  obtain ⟨c, hc⟩ := wrap_u8 (b.toNat + 1)
  obtain ⟨p', H', q1, q2, q3, q4, q5⟩ := ast_cell (x := .lit (.int .u8 c.toNat)) h ho rfl hk rfl
  rw [p1] at q1
  injection q1 with q1
  subst q1
  exact ⟨p, b, c, l.set k c, H', p1, p3, hc, q2, by rw [q3, encB_set], q4, q5⟩
theorem fifoOwn_calls (x0 : Sl UInt8) (h0 : fifoOwn_r0.ok x0) (x1 : UInt8) (h1 : fifoOwn_r1.ok x1) :
    ACalls Try.prog 6 (fifoOwn_r0.enc x0 ++ fifoOwn_r1.enc x1) [] fun r _ => r = .lit (.bool true) := by
  have hargs : fifoOwn_r0.enc x0 ++ fifoOwn_r1.enc x1 = [slU x0, .lit (.int .u8 x1.toNat)] := by
    unfold slU; rw [← flat_encU]; rfl
  have ok0 : okS x0 := h0.1
  rw [hargs]
  refine law_of (salvorlaw4_FifoOwn_ok ?_)
  unfold salvorlaw4_FifoOwn
  by_cases hl : (500 : Int) < x0.l.length
  case pos =>
    simp [slU_len ok0, hl]
    first | refine bP_of (fifoRuns_p) ?_ | refine bP_pure (fifoRuns_p) ?_
    rfl
  have hx1 : (x1.toNat : Int) < 256 := by have := UInt8.toNat_lt x1; omega
  simp [slU_len ok0, hl, acI_i64 (a := x1.toNat) (by omega) (by omega)]
  obtain ⟨r, H1, ⟨rfl, a1, a2⟩, hc⟩ := fifoNew_ok [] (x1.toNat : Int)
  refine bC_of hc ?_
  clear hc
  have hkp := kOf_pos (x1.toNat : Int)
  generalize kOf (x1.toNat : Int) = size at *
  obtain ⟨x, H2, b1, b2, b3, b4, b5, b6⟩ := aap_spec (sz := 1) (bytes := 1) (H := H1) (v := nilSl) (cs := []) (n := 0) rfl rfl (appended_slice (slU_cells ok0 H1)) (by omega)
  simp at b3
  have hxF : ∀ i ∈ idS x, H1.length ≤ i ∧ i < H2.length := fun i hi => ⟨(b6 i hi).elim (fun h => by simp [idS] at h) id, sliceCells_lt b3 i hi⟩
  have a1' : FifoAt (H2 ++ [some (.cells [x, x])]) 0 size [] [0] := a1.frame fun i hi => by
    have := a1.lt i hi
    rw [List.getElem?_append_left (by omega)]
    exact b5 i this (by simp [idS])
  simp [abN, nilP, anil2, aEq, b1, cellsA_owned b2]
  have b3' : sliceCells (H2 ++ [some (.cells [x, x])]) 1 x = some (encB x0.l, x0.l.length) := sliceCells_keep b3 fun i hi => List.getElem?_append_left (hxF i hi).2
  have hH1 : 0 < H1.length := a1.lt 0 (by simp)
  obtain ⟨r, H3, ⟨F3, c1, c2⟩, hc⟩ := fifoPut_ok (b := .sl H2.length 0 2 1 (.ex 2)) (bs := [x, x]) (ds := [x0.l, x0.l]) a1' (by simp [sliceCells]) (by
    intro j y hj
    match j, hj with
    | 0, hj => simp at hj; subst hj; exact ⟨_, rfl, b3', fun i hi => by have := (hxF i hi).1; simp; omega⟩
    | 1, hj => simp at hj; subst hj; exact ⟨_, rfl, b3', fun i hi => by have := (hxF i hi).1; simp; omega⟩
    | j + 2, hj => simp at hj) (fun i hi => by simp only [idS, List.mem_singleton] at hi ⊢; omega) (by simp; omega) (by simp)
  refine bC_of hc ?_
  clear hc
  simp at c1
  have xkeep : sliceCells H3 1 x = some (encB x0.l, x0.l.length) := sliceCells_keep b3' fun i hi => c2.keep i (by have := (hxF i hi).2; rw [List.length_append]; omega) (by have := (hxF i hi).1; simp; omega)
  have xF3 : ∀ i ∈ F3, i ∉ idS x := fun i hi hh => by
    rcases c2.new i hi with h | h
    · have := (hxF i hh).1; simp at h; omega
    · have := (hxF i hh).2; simp at h; omega
  refine salvorlaw4_FifoOwn_L12_rule (fun n y0 y5 y6 y7 H => ∃ (k : Nat) (l : List UInt8), k + n = x0.l.length ∧ y0 = slU x0 ∧ y5 = .ptr 0 0 ∧ y6 = x ∧ y7 = I k ∧ FifoAt H 0 size (x0.l ++ x0.l) F3 ∧ sliceCells H 1 x = some (encB l, x0.l.length)) ?_ x0.l.length ⟨0, x0.l, by simp, rfl, rfl, rfl, rfl, by simpa using c1, xkeep⟩
  rintro n y0 y5 y6 y7 H R hR ⟨k, l, hk, rfl, rfl, rfl, rfl, g1, g2⟩
  unfold salvorlaw4_FifoOwn_L12_b
  by_cases hlt : k < x0.l.length
  · obtain ⟨p, b, c, l', H', e1, e2, e3, e4, e5, e6, e7⟩ := bump g2 b2 hlt
    simp [alnS_spec g2, hlt, e1, e2, abI_add8, e3, e4, abI_add (a := k) (b := 1) (by omega) (by omega)]
    exact hR (n - 1) _ _ _ _ _ (by omega) ⟨k + 1, l', by omega, rfl, rfl, rfl, rfl, g1.frame fun i hi => e7 i (xF3 i hi), e5⟩
  · simp [alnS_spec g2, hlt]
    clear hR R hk
    have fin : ∀ (K : AV → AH → Prop), (∀ H, K (B true) H) → ∀ (H : AH) (F : List Nat) (was rest : List UInt8), FifoAt H 0 size rest F → was ++ rest = x0.l ++ x0.l → salvorlaw4_FifoOwn_J24 (slU x0) (.ptr 0 0) (S (bstr was)) H K := by
      intro K hK H F was rest hat hwr
      have hlen := congrArg List.length hwr
      simp only [List.length_append] at hlen
      rw [salvorlaw4_FifoOwn_J24_eq]
      unfold salvorlaw4_FifoOwn_J24_b
      obtain ⟨r, H4, ⟨F5, d1, d2, d3, d4, d5⟩, hc⟩ := fifoRest_ok hat (by omega)
      refine bC_of hc ?_
      simp [acB_spec d1, acB_spec (slU_cells ok0 H4), acB_spec (slU_cells ok0 H), abT_add (a := was) (b := rest) (by omega), abT_add (a := x0.l) (b := x0.l) (by omega), abT_eql, hwr]
      first | refine bP_of (fifoRuns_p) ?_ | refine bP_pure (fifoRuns_p) ?_
      (try simp)
      exact hK _
    rcases Nat.lt_or_ge (x0.l ++ x0.l).length size with hlt2 | hge2
    · obtain ⟨r, H4, ⟨rfl, rfl⟩, hc⟩ := fifoTake_no g1 hlt2
      refine bC_of hc ?_
      simp [acB_spec (l := []) (n := 0) (H := H4) (x := nilSl) rfl]
      refine salvorlaw4_FifoOwn_L20_rule (fun n z0 z5 z8 z9 z10 z11 H' => z0 = slU x0 ∧ z5 = .ptr 0 0 ∧ z8 = nilSl ∧ z9 = B false ∧ z10 = S (bstr []) ∧ z11 = I 0 ∧ H' = H4) ?_ 0 ⟨rfl, rfl, rfl, rfl, rfl, rfl, rfl⟩
      rintro n z0 z5 z8 z9 z10 z11 H' R hR ⟨rfl, rfl, rfl, rfl, rfl, rfl, rfl⟩
      unfold salvorlaw4_FifoOwn_L20_b
      simp [bstr_nil]
      exact fin _ (fun _ => rfl) _ _ [] _ g1 rfl
    · obtain ⟨r, H4, ⟨b, F5, rfl, d1, d2, d3, d4, d5⟩, hc⟩ := fifoTake_yes g1 hge2 (by simp; omega)
      refine bC_of hc ?_
      have htl : ((x0.l ++ x0.l).take size).length = size := by rw [List.length_take]; omega
      simp only [bO_some, aextract_tup]
      simp [acB_spec d2]
      refine salvorlaw4_FifoOwn_L20_rule (fun n z0 z5 z8 z9 z10 z11 H' => ∃ (k : Nat) (l : List UInt8), k + n = size ∧ z0 = slU x0 ∧ z5 = .ptr 0 0 ∧ z8 = b ∧ z9 = B true ∧ z10 = S (bstr ((x0.l ++ x0.l).take size)) ∧ z11 = I k ∧ FifoAt H' 0 size ((x0.l ++ x0.l).drop size) F5 ∧ sliceCells H' 1 b = some (encB l, size)) ?_ size ⟨0, _, by simp, rfl, rfl, rfl, rfl, rfl, rfl, d3, d2⟩
      rintro n z0 z5 z8 z9 z10 z11 H' R hR ⟨k2, l2, hk2, rfl, rfl, rfl, rfl, rfl, rfl, f1, f2⟩
      unfold salvorlaw4_FifoOwn_L20_b
      by_cases hlt3 : k2 < size
      · obtain ⟨p, b, c, l', H6, e1, e2, e3, e4, e5, e6, e7⟩ := bump f2 d1 hlt3
        simp [alnS_spec f2, hlt3, e1, e2, abI_add8, e3, e4, abI_add (a := k2) (b := 1) (by omega) (by omega)]
        exact hR (n - 1) _ _ _ _ _ _ _ (by omega) ⟨k2 + 1, l', by omega, rfl, rfl, rfl, rfl, rfl, rfl, f1.frame fun i hi => e7 i (fun hh => (d5 i hh).1 hi), e5⟩
      · simp [alnS_spec f2, hlt3]
        exact fin _ (fun _ => rfl) _ _ _ _ f1 (List.take_append_drop _ _)
end Go.Proofs.Ytmokogdcikdlfaa.Av
namespace Go.Proofs.Ytmokogdcikdlfaa
theorem fifoOwn_holds : Rows.FifoOwnSaid := fifoOwn_of Av.fifoOwn_calls
#print axioms fifoOwn_holds
end Go.Proofs.Ytmokogdcikdlfaa
