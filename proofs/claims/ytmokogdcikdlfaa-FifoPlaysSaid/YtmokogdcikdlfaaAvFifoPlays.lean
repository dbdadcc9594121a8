/- The law FifoPlays: whatever goes in, is taken, or comes out at once. No condition. -/
import Derived.Test.YtmokogdcikdlfaaAvFifoL
import Derived.Test.YtmokogdcikdlfaaLFifoPlays
set_option linter.unusedVariables false
set_option linter.unusedSimpArgs false
set_option maxRecDepth 100000
namespace Go.Proofs.Ytmokogdcikdlfaa.Av
open Go Go.RowKit
section
variable {R : List AV → AH → Prop} {K : AV → AH → Prop} {H : AH} {v : AV} {o o' size k : Nat} {l : List UInt8}
/-- Behind each step. -/
theorem j14 (hb : Both H o o' size l) (hk : k ≤ 1000000) (hR : R [v, .ptr o 0, .ptr o' 0, I (k + 1)] H) : salvorlaw4_FifoPlays_J14 R v (.ptr o 0) (.ptr o' 0) (I k) H K := by
  obtain ⟨F, F', h1, h2, hd⟩ := hb
  rw [salvorlaw4_FifoPlays_J14_eq]
  unfold salvorlaw4_FifoPlays_J14_b
  obtain ⟨r, H1, ⟨rfl, rfl⟩, hc⟩ := fifoLen_ok h1
  refine bC_of hc ?_
  obtain ⟨u, u1, u2, u3, -, -⟩ := h2
  simp [u1, alnS_spec u3]
  rw [salvorlaw4_FifoPlays_J27_eq]
  unfold salvorlaw4_FifoPlays_J27_b
  simp
  rw [salvorlaw4_FifoPlays_J13_eq]
  unfold salvorlaw4_FifoPlays_J13_b
  simp [abI_add (a := k) (b := 1) (by omega) (by omega)]
  exact hR
end
theorem fifoPlays_calls (x0 : Int) (h0 : fifoPlays_r0.ok x0) (x1 : Sl (UInt8 × (Sl UInt8 × (Sl UInt8 × Unit)))) (h1 : fifoPlays_r1.ok x1) :
    ACalls Try.prog 4 (fifoPlays_r0.enc x0 ++ fifoPlays_r1.enc x1) [] fun r _ => r = .lit (.bool true) := by
  obtain ⟨hn, hlen, hel⟩ := h1
  have henc : ∀ (x : Stp), [AV.lit (.int .u8 x.1.toNat)] ++ ([if x.2.1.nil then .lit (.slice none 0 0) else .imm (x.2.1.l.flatMap encU) x.2.1.l.length 1] ++ ([if x.2.2.1.nil then .lit (.slice none 0 0) else .imm (x.2.2.1.l.flatMap encU) x.2.2.1.l.length 1] ++ [])) = encStp x := fun x => by
    simp only [flat_encU]; rfl
  have hv : SV encStp 3 x1.l (if x1.nil then .lit (.slice none 0 0) else .imm (x1.l.flatMap encStp) x1.l.length 3) := by
    cases hnil : x1.nil with
    | true => simp only [if_true]; rw [hn hnil]; exact SV.nil
    | false =>
      simp only [Bool.false_eq_true, if_false]
      exact SV.imm (fun _ => rfl) (fun x hx => by simp only [encStp, noIdss, slU_noIds]; rfl)
  have hargs : fifoPlays_r0.enc x0 ++ fifoPlays_r1.enc x1 = [I x0, if x1.nil then .lit (.slice none 0 0) else .imm (x1.l.flatMap encStp) x1.l.length 3] := by
    have : (fun x : Stp => [AV.lit (.int .u8 x.1.toNat)] ++ ([if x.2.1.nil then .lit (.slice none 0 0) else .imm (x.2.1.l.flatMap encU) x.2.1.l.length 1] ++ ([if x.2.2.1.nil then .lit (.slice none 0 0) else .imm (x.2.2.1.l.flatMap encU) x.2.2.1.l.length 1] ++ []))) = encStp := funext henc
    rw [← this]
    rfl
  have hok : ∀ x ∈ x1.l, okStp x := fun x hx => ⟨(hel x hx).2.1.1, (hel x hx).2.2.1.1⟩
  rw [hargs]
  generalize (if x1.nil then AV.lit (.slice none 0 0) else .imm (x1.l.flatMap encStp) x1.l.length 3) = v at hv
  generalize x1.l = L at *
  refine law_of (salvorlaw4_FifoPlays_ok ?_)
  unfold salvorlaw4_FifoPlays
  obtain ⟨b, hb, hf⟩ := few_p hv hok
  first | refine bP_of (hf) ?_ | refine bP_pure (hf) ?_
  cases b with
  | false =>
    simp
    first | refine bP_of (fifoRuns_p) ?_ | refine bP_pure (fifoRuns_p) ?_
    rfl
  | true =>
    obtain ⟨hl60, hsz⟩ := hb rfl
    simp
    obtain ⟨r, H1, ⟨rfl, a1, a2⟩, hc⟩ := fifoNew_ok [] x0
    refine bC_of hc ?_
    obtain ⟨r, H2, ⟨rfl, b1, b2⟩, hc⟩ := refNew_ok H1 x0
    refine bC_of hc ?_
    have hboth : Both H2 0 H1.length (kOf x0) [] := ⟨_, _, (frame2 a1 b2 (by simp)).1, b1, fun i hi hh => by simp at hi hh; have := a1.lt i (by simp [hi]); omega⟩
    simp [abN, nilP, anil2, aEq]
    refine salvorlaw4_FifoPlays_L10_rule (fun n x1 x5 x6 x7 H => ∃ (k : Nat) (l : List UInt8), k + n = L.length ∧ x1 = v ∧ x5 = .ptr 0 0 ∧ x6 = .ptr H1.length 0 ∧ x7 = I k ∧ Both H 0 H1.length (kOf x0) l ∧ l.length ≤ sizes (L.take k)) ?_ L.length ⟨0, [], by simp, rfl, rfl, rfl, rfl, hboth, by simp⟩
    rintro n y1 x5 x6 x7 H R hR ⟨k, l, hk, rfl, rfl, rfl, rfl, hB, hll⟩
    generalize H1.length = o' at *
    have hsl := sizes_le L k
    unfold salvorlaw4_FifoPlays_L10_b
    by_cases hlt : k < L.length
    case neg =>
      simp [hv.len, hlt]
      first | refine bP_of (fifoRuns_p) ?_ | refine bP_pure (fifoRuns_p) ?_
      rfl
    have hx := List.getElem?_eq_getElem hlt
    generalize L[k] = y at hx
    obtain ⟨o1, o2⟩ := hok y (List.mem_of_getElem? hx)
    have hst := sizes_take hx
    have hsl1 := sizes_le L (k + 1)
    have next : ∀ (K : AV → AH → Prop) (H' : AH) (l' : List UInt8), Both H' 0 o' (kOf x0) l' → l'.length ≤ sizes (L.take (k + 1)) → salvorlaw4_FifoPlays_J14 R y1 (.ptr 0 0) (.ptr o' 0) (I k) H' K := fun K H' l' hB' hl' =>
      j14 hB' (by omega) (hR (n - 1) _ _ _ _ _ (by omega) ⟨k + 1, l', by omega, rfl, rfl, rfl, rfl, hB', hl'⟩)
    obtain ⟨F, F', g1, g2, gd⟩ := hB
    -- Put
    have put : ∀ (K : AV → AH → Prop) x33, salvorlaw4_FifoPlays_J16 R y1 (.ptr 0 0) (.ptr o' 0) (I k) x33 (B true) H K := by
      intro K x33
      rw [salvorlaw4_FifoPlays_J16_eq]
      unfold salvorlaw4_FifoPlays_J16_b
      simp [hv.idx encStp_len hx rfl, encStp, slU_cellsA]
      obtain ⟨r, H3, ⟨F2, c1, c2⟩, hc⟩ := fifoPut_ok (b := .imm [slU y.2.1, slU y.2.2.1] 2 1) (bs := [slU y.2.1, slU y.2.2.1]) (ds := [y.2.1.l, y.2.2.1.l]) g1 (by simp [sliceCells]) (by
        intro j x hj
        match j, hj with
        | 0, hj => simp at hj; subst hj; exact ⟨_, rfl, slU_cells o1 H, by simp [slU_ids]⟩
        | 1, hj => simp at hj; subst hj; exact ⟨_, rfl, slU_cells o2 H, by simp [slU_ids]⟩
        | j + 2, hj => simp at hj) (by simp [idS]) (by simp; omega) (by simp)
      refine bC_of hc ?_
      obtain ⟨g2', gd'⟩ := frame2 g2 c2 gd
      rw [salvorlaw4_FifoPlays_J18_eq]
      unfold salvorlaw4_FifoPlays_J18_b
      simp [hv.idx encStp_len hx rfl, encStp]
      obtain ⟨r, H4, ⟨F3, d1, d2⟩, hc⟩ := refPut_ok (b := slU y.2.1) (d := y.2.1.l) g2' (slU_cells o1 H3) (by omega)
      refine bC_of hc ?_
      obtain ⟨c1', cd'⟩ := frame2 c1 d2 (fun i hi hh => gd' i hh hi)
      rw [salvorlaw4_FifoPlays_J19_eq]
      unfold salvorlaw4_FifoPlays_J19_b
      simp [hv.idx encStp_len hx rfl, encStp]
      obtain ⟨r, H5, ⟨F4, e1, e2⟩, hc⟩ := refPut_ok (b := slU y.2.2.1) (d := y.2.2.1.l) d1 (slU_cells o2 H4) (by simp; omega)
      refine bC_of hc ?_
      obtain ⟨c1'', cd''⟩ := frame2 c1' e2 cd'
      exact next _ H5 _ ⟨_, _, by simpa using c1'', by simpa using e1, fun i hi hh => cd'' i hh hi⟩ (by simp; omega)
    have rest : ∀ (K : AV → AH → Prop) (c : Int), (c = 2 ∨ c ≠ 2) → salvorlaw4_FifoPlays_J16 R y1 (.ptr 0 0) (.ptr o' 0) (I k) (.lit (.int .u8 c)) (B false) H K := by
      intro K c _
      rw [salvorlaw4_FifoPlays_J16_eq]
      unfold salvorlaw4_FifoPlays_J16_b
      simp
      rw [salvorlaw4_FifoPlays_J20_eq]
      unfold salvorlaw4_FifoPlays_J20_b
      by_cases hc2 : c = 2
      · simp [hc2]
        have fin : ∀ (a b : AV) (t : Bool) (H' : AH) (la : List UInt8) (l' : List UInt8), sliceCells H' 1 a = some (encB la, la.length) → sliceCells H' 1 b = some (encB la, la.length) → Both H' 0 o' (kOf x0) l' → l'.length ≤ sizes (L.take (k + 1)) →
            salvorlaw4_FifoPlays_J22 R y1 (.ptr 0 0) (.ptr o' 0) (I k) a (B t) b (B t) H' K := by
          intro a b t H' la l' ha hb' hB' hl'
          rw [salvorlaw4_FifoPlays_J22_eq]
          unfold salvorlaw4_FifoPlays_J22_b
          simp [acB_spec ha, acB_spec hb', abT_neq]
          rw [salvorlaw4_FifoPlays_J23_eq]
          unfold salvorlaw4_FifoPlays_J23_b
          simp
          exact next _ H' l' hB' hl'
        rcases Nat.lt_or_ge l.length (kOf x0) with hlt2 | hge2
        · obtain ⟨r, H3, ⟨rfl, rfl⟩, hc⟩ := fifoTake_no g1 hlt2
          refine bC_of hc ?_
          simp
          rw [salvorlaw4_FifoPlays_J21_eq]
          unfold salvorlaw4_FifoPlays_J21_b
          obtain ⟨r, H4, ⟨rfl, rfl⟩, hc⟩ := refTake_no g2 hlt2
          refine bC_of hc ?_
          simp
          exact fin _ _ _ _ [] l rfl rfl ⟨F, F', g1, g2, gd⟩ (by omega)
        · obtain ⟨r, H3, ⟨b, F2, rfl, c1, c2, c3, c4, c5⟩, hc⟩ := fifoTake_yes g1 hge2 (by omega)
          refine bC_of hc ?_
          have c4' : Fr H H3 F F2 := ⟨c4.le, c4.keep, fun i hi => c4.new i (by simp [hi])⟩
          obtain ⟨g2', gd'⟩ := frame2 g2 c4' gd
          simp
          rw [salvorlaw4_FifoPlays_J21_eq]
          unfold salvorlaw4_FifoPlays_J21_b
          obtain ⟨r, H4, ⟨b', F3, rfl, d1, d2, d3, d4, d5⟩, hc⟩ := refTake_yes g2' hge2 (by omega)
          refine bC_of hc ?_
          have d4' : Fr H3 H4 F' F3 := ⟨d4.le, d4.keep, fun i hi => d4.new i (by simp [hi])⟩
          obtain ⟨c3', cd'⟩ := frame2 c3 d4' (fun i hi hh => gd' i hh hi)
          simp
          have hlen : (l.take (kOf x0)).length = kOf x0 := by rw [List.length_take]; omega
          refine fin b b' true H4 (l.take (kOf x0)) (l.drop (kOf x0)) ?_ (by rw [hlen]; exact d2) ⟨_, _, c3', d3, fun i hi hh => cd' i hh hi⟩ (by rw [List.length_drop]; omega)
          rw [hlen]
          refine sliceCells_keep c2 fun i hi => d4.keep i (sliceCells_lt c2 i hi) fun hh => ?_
          have := (c5 i hi).2
          have := g2.lt i hh
          omega
      · simp [hc2]
        obtain ⟨r, H3, ⟨F2, c1, c2, c3, c4, c5⟩, hc⟩ := fifoRest_ok g1 (by omega)
        refine bC_of hc ?_
        obtain ⟨g2', gd'⟩ := frame2 g2 c3 gd
        simp [acB_spec c1]
        obtain ⟨r', H4, ⟨F3, d1, d2, d3, d4, d5⟩, hc⟩ := refRest_ok g2'
        refine bC_of hc ?_
        obtain ⟨c2', cd'⟩ := frame2 c2 d3 (fun i hi hh => gd' i hh hi)
        have c1' : sliceCells H4 1 r = some (encB l, l.length) := sliceCells_keep c1 fun i hi => d3.keep i (sliceCells_lt c1 i hi) fun hh => by
          rcases c4.new i hi with h | h
          · exact gd i h hh
          · have := g2.lt i hh; omega
        simp [acB_spec d1, acB_spec c1', abT_neq]
        rw [salvorlaw4_FifoPlays_J25_eq]
        unfold salvorlaw4_FifoPlays_J25_b
        simp
        exact next _ H4 [] ⟨_, _, c2', d2, fun i hi hh => cd' i hh hi⟩ (by simp)
    have ix := hv.idx encStp_len hx rfl
    simp only [encStp] at ix
    have hr : abI .rem (.lit (.int .u8 y.1.toNat)) (.lit (.int .u8 4)) = some (.lit (.int .u8 ((y.1.toNat : Int) % 4))) := abI_rem (by omega) (by omega)
    simp [hv.len, hlt, ix, hr]
    by_cases q0 : (y.1.toNat : Int) % 4 = 0
    · simp [q0]
      exact put _ _
    · simp [q0]
      by_cases q1 : (y.1.toNat : Int) % 4 = 1
      · simp [q1]
        exact put _ _
      · simp [q1]
        exact rest _ _ (Decidable.em _)
end Go.Proofs.Ytmokogdcikdlfaa.Av
namespace Go.Proofs.Ytmokogdcikdlfaa
theorem fifoPlays_holds : Rows.FifoPlaysSaid := fifoPlays_of Av.fifoPlays_calls
#print axioms fifoPlays_holds
end Go.Proofs.Ytmokogdcikdlfaa
