/- The law FifoOrder: all that goes in comes out, in order, in blocks of one size, and a rest that is less. No condition. -/
import Derived.Test.YtmokogdcikdlfaaAvFifoL
import Derived.Test.YtmokogdcikdlfaaLFifoOrder
set_option linter.unusedVariables false
set_option linter.unusedSimpArgs false
set_option maxRecDepth 100000
namespace Go.Proofs.Ytmokogdcikdlfaa.Av
open Go Go.RowKit
theorem fifoOrder_calls (x0 : Int) (h0 : fifoOrder_r0.ok x0) (x1 : Sl (UInt8 × (Sl UInt8 × (Sl UInt8 × Unit)))) (h1 : fifoOrder_r1.ok x1) :
    ACalls Try.prog 5 (fifoOrder_r0.enc x0 ++ fifoOrder_r1.enc x1) [] fun r _ => r = .lit (.bool true) := by
  obtain ⟨hn, hlen, hel⟩ := h1
  have henc : ∀ (x : Stp), [AV.lit (.int .u8 x.1.toNat)] ++ ([if x.2.1.nil then .lit (.slice none 0 0) else .imm (x.2.1.l.flatMap encU) x.2.1.l.length 1] ++ ([if x.2.2.1.nil then .lit (.slice none 0 0) else .imm (x.2.2.1.l.flatMap encU) x.2.2.1.l.length 1] ++ [])) = encStp x := fun x => by
    simp only [flat_encU]; rfl
  have hv : SV encStp 3 x1.l (if x1.nil then .lit (.slice none 0 0) else .imm (x1.l.flatMap encStp) x1.l.length 3) := by
    cases hnil : x1.nil with
    | true => simp only [if_true]; rw [hn hnil]; exact SV.nil
    | false =>
      simp only [Bool.false_eq_true, if_false]
      exact SV.imm (fun _ => rfl) (fun x hx => by simp only [encStp, noIdss, slU_noIds]; rfl)
  have hargs : fifoOrder_r0.enc x0 ++ fifoOrder_r1.enc x1 = [I x0, if x1.nil then .lit (.slice none 0 0) else .imm (x1.l.flatMap encStp) x1.l.length 3] := by
    have : (fun x : Stp => [AV.lit (.int .u8 x.1.toNat)] ++ ([if x.2.1.nil then .lit (.slice none 0 0) else .imm (x.2.1.l.flatMap encU) x.2.1.l.length 1] ++ ([if x.2.2.1.nil then .lit (.slice none 0 0) else .imm (x.2.2.1.l.flatMap encU) x.2.2.1.l.length 1] ++ []))) = encStp := funext henc
    rw [← this]
    rfl
  have hok : ∀ x ∈ x1.l, okStp x := fun x hx => ⟨(hel x hx).2.1.1, (hel x hx).2.2.1.1⟩
  rw [hargs]
  generalize (if x1.nil then AV.lit (.slice none 0 0) else .imm (x1.l.flatMap encStp) x1.l.length 3) = v at hv
  generalize x1.l = L at *
  clear hargs henc hel hlen hn
  refine law_of (salvorlaw4_FifoOrder_ok ?_)
  unfold salvorlaw4_FifoOrder
  obtain ⟨b, hb, hf⟩ := few_p hv hok
  first | refine bP_of (hf) ?_ | refine bP_pure (hf) ?_
  cases b with
  | false =>
    simp
    first | refine bP_of (fifoRuns_p) ?_ | refine bP_pure (fifoRuns_p) ?_
    rfl
  | true =>
    obtain ⟨hl60, hsz⟩ := hb rfl
    simp
    obtain ⟨r, H1, ⟨rfl, a1, a2⟩, hc⟩ := fifoNew_ok [] x0
    refine bC_of hc ?_
    have hk : min 4096 (max 1 x0) = (kOf x0 : Int) := by unfold kOf; omega
    have hkp := kOf_pos x0
    simp [abN, nilP, anil2, aEq, hk]
    clear hk hc
    generalize kOf x0 = size at *
    rw [bstr_nil]
    refine salvorlaw4_FifoOrder_L12_rule (fun n x1 x5 x6 x7 x8 x9 H => ∃ (k : Nat) (l out : List UInt8) (F : List Nat), k + n = L.length ∧ x1 = v ∧ x5 = .ptr 0 0 ∧ x6 = I size ∧ x7 = S (bstr (out ++ l)) ∧ x8 = S (bstr out) ∧ x9 = I k ∧ FifoAt H 0 size l F ∧ l.length < size ∧ (out ++ l).length = sizes (L.take k)) ?_ L.length ⟨0, [], [], _, by simp, rfl, rfl, rfl, rfl, rfl, rfl, a1, by simp; omega, by simp [sizes]⟩
    rintro n y1 x5 x6 x7 x8 x9 H R hR ⟨k, l, out, F, hk, rfl, rfl, rfl, rfl, rfl, rfl, g1, hls, hll⟩
    have hsl := sizes_le L k
    rw [List.length_append] at hll
    unfold salvorlaw4_FifoOrder_L12_b
    by_cases hlt : k < L.length
    case neg =>
      simp [hv.len, hlt]
      obtain ⟨r, H3, ⟨F2, c1, c2, c3, c4, c5⟩, hc⟩ := fifoRest_ok g1 (by omega)
      refine bC_of hc ?_
      simp [alnS_spec c1, hls, acB_spec c1, abT_add (a := out) (b := l) (by omega), abT_eql]
      obtain ⟨r', H4, ⟨F3, d1, d2, d3, d4, d5⟩, hc⟩ := fifoRest_ok c2 (by simp)
      refine bC_of hc ?_
      simp [alnS_spec d1]
      first | refine bP_of (fifoRuns_p) ?_ | refine bP_pure (fifoRuns_p) ?_
      simp
    have hx := List.getElem?_eq_getElem hlt
    generalize L[k] = y at hx
    obtain ⟨o1, o2⟩ := hok y (List.mem_of_getElem? hx)
    have hst := sizes_take hx
    have hsl1 := sizes_le L (k + 1)
    have ix := hv.idx encStp_len hx rfl
    simp only [encStp] at ix
    simp [hv.len, hlt]
    obtain ⟨r, H2, ⟨F2, b1, b2⟩, hc⟩ := fifoPut_ok (b := nilSl) (bs := []) (ds := []) g1 rfl (by simp) (by simp [idS]) (by simp; omega) (by simp)
    refine bC_of hc ?_
    simp at b1
    simp [ix, slU_cellsA]
    obtain ⟨r, H3, ⟨F3, c1, c2⟩, hc⟩ := fifoPut_ok (b := .imm [slU y.2.1, nilSl, slU y.2.2.1] 3 1) (bs := [slU y.2.1, nilSl, slU y.2.2.1]) (ds := [y.2.1.l, [], y.2.2.1.l]) b1 (by simp [sliceCells]) (by
      intro j x hj
      match j, hj with
      | 0, hj => simp at hj; subst hj; exact ⟨_, rfl, slU_cells o1 H2, by simp [slU_ids]⟩
      | 1, hj => simp at hj; subst hj; exact ⟨_, rfl, rfl, by simp [idS]⟩
      | 2, hj => simp at hj; subst hj; exact ⟨_, rfl, slU_cells o2 H2, by simp [slU_ids]⟩
      | j + 3, hj => simp at hj) (by simp [idS]) (by simp; omega) (by simp)
    refine bC_of hc ?_
    simp at c1
    simp [ix, acB_spec (slU_cells o1 H3), acB_spec (slU_cells o2 H3), abT_add (a := out ++ l) (b := y.2.1.l) (by rw [List.length_append]; omega), abT_add (a := out ++ (l ++ y.2.1.l)) (b := y.2.2.1.l) (by simp; omega)]
    have e1 : out ++ (l ++ (y.2.1.l ++ y.2.2.1.l)) = out ++ (l ++ y.2.1.l ++ y.2.2.1.l) := by simp
    generalize hm : l ++ (y.2.1.l ++ y.2.2.1.l) = m at *
    have hml : (out ++ m).length = sizes (L.take (k + 1)) := by rw [← hm]; simp; omega
    refine salvorlaw4_FifoOrder_L20_rule R (fun n x1 x5 x6 x7 x8 x9 H => ∃ (l2 out2 : List UInt8) (F : List Nat), n = l2.length ∧ x1 = y1 ∧ x5 = .ptr 0 0 ∧ x6 = I size ∧ x7 = S (bstr (out ++ m)) ∧ x8 = S (bstr out2) ∧ x9 = I k ∧ FifoAt H 0 size l2 F ∧ out2 ++ l2 = out ++ m) ?_ m.length ⟨m, out, F3, rfl, rfl, rfl, rfl, rfl, rfl, rfl, c1, rfl⟩
    rintro n2 z1 x5 x6 x7 x8 x9 H5 R2 hR2 ⟨l2, out2, F5, rfl, rfl, rfl, rfl, rfl, rfl, rfl, d1, d2⟩
    have hl2 := congrArg List.length d2
    rw [hml, List.length_append] at hl2
    unfold salvorlaw4_FifoOrder_L20_b
    obtain ⟨r, H6, ⟨rfl, rfl⟩, hc⟩ := fifoLen_ok d1
    refine bC_of hc ?_
    rcases Nat.lt_or_ge l2.length size with hlt2 | hge2
    · have q : ¬ size ≤ l2.length := by omega
      simp [q]
      obtain ⟨r, H7, ⟨rfl, rfl⟩, hc⟩ := fifoTake_no d1 hlt2
      refine bC_of hc ?_
      simp [abI_add (a := k) (b := 1) (by omega) (by omega)]
      exact hR (n - 1) _ _ _ _ _ _ _ (by omega) ⟨k + 1, l2, out2, F5, by omega, rfl, rfl, rfl, by rw [d2], rfl, rfl, d1, hlt2, by rw [d2]; exact hml⟩
    · simp [hge2]
      obtain ⟨r, H7, ⟨b, F7, rfl, e1, e2, e3, e4, e5⟩, hc⟩ := fifoTake_yes d1 hge2 (by omega)
      refine bC_of hc ?_
      have htl : (l2.take size).length = size := by rw [List.length_take]; omega
      simp [alnS_spec e2, acB_spec e2, abT_add (a := out2) (b := l2.take size) (by rw [htl]; omega)]
      refine hR2 (l2.drop size).length _ _ _ _ _ _ _ (by rw [List.length_drop]; omega) ⟨l2.drop size, out2 ++ l2.take size, F7, rfl, rfl, rfl, rfl, rfl, rfl, rfl, e3, ?_⟩
      rw [List.append_assoc, List.take_append_drop]; exact d2
end Go.Proofs.Ytmokogdcikdlfaa.Av
namespace Go.Proofs.Ytmokogdcikdlfaa
theorem fifoOrder_holds : Rows.FifoOrderSaid := fifoOrder_of Av.fifoOrder_calls
#print axioms fifoOrder_holds
end Go.Proofs.Ytmokogdcikdlfaa
