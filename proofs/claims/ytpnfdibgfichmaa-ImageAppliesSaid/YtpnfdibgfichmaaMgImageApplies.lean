/- The law and its row. No condition. -/
import Derived.Test.YtpnfdibgfichmaaMgG
import Derived.Below
import Derived.Carry
import Derived.ChangeOld
import Derived.OpenShut
import Derived.ProofKit
import Derived.ShutString
import Derived.SizedLaws
import Derived.Test.YtpnfdibgfichmaaRows
import Derived.WalkKit
/-! YtpnfdibgfichmaaLImageApplies -/
section
/- The row of the law ImageApplies, out of what a call of it comes to. No condition. Printed by a program of this session. -/
set_option linter.unusedVariables false
namespace Go.Proofs.Ytpnfdibgfichmaa.Av
open Go Go.RowKit
noncomputable def imageApplies_r0 : Rd Try.prog 25 ((Sl (ByteArray × (Int × Unit))) × ((Sl (Int × ((Int × ((Sl (Int × ((List UInt8) × Unit))) × Unit)) × Unit))) × Unit)) := (Rd.struct (Rds.cons (Rd.slice (Rd.struct (Rds.cons (Rd.string Try.underlying9 (by kernel_rfl)) (Rds.cons (Rd.int .i64 Try.underlying3 (by kernel_rfl)) (Rds.nil _ _) rfl rfl) rfl rfl) Try.underlying57 (by kernel_rfl)) Try.underlying22 (by kernel_rfl)) (Rds.cons (Rd.slice (Rd.struct (Rds.cons (Rd.int .i64 Try.underlying3 (by kernel_rfl)) (Rds.cons (Rd.struct (Rds.cons (Rd.int .i64 Try.underlying3 (by kernel_rfl)) (Rds.cons (Rd.slice (Rd.struct (Rds.cons (Rd.int .i64 Try.underlying3 (by kernel_rfl)) (Rds.cons (Rd.array 8 (Rd.byte Try.underlying5 (by kernel_rfl)) Try.underlying88 (by kernel_rfl)) (Rds.nil _ _) rfl rfl) rfl rfl) Try.underlying90 (by kernel_rfl)) Try.underlying32 (by kernel_rfl)) (Rds.nil _ _) rfl rfl) rfl rfl) Try.underlying34 (by kernel_rfl)) (Rds.nil _ _) rfl rfl) rfl rfl) Try.underlying67 (by kernel_rfl)) Try.underlying23 (by kernel_rfl)) (Rds.nil _ _) rfl rfl) rfl rfl) Try.underlying25 (by kernel_rfl))
noncomputable def imageApplies_r1 : Rd Try.prog 29 (Int × (Int × (Int × (Int × (Bool × (ByteArray × (ByteArray × ((Sl UInt8) × Unit)))))))) := (Rd.struct (Rds.cons (Rd.int .i64 Try.underlying3 (by kernel_rfl)) (Rds.cons (Rd.int .i64 Try.underlying3 (by kernel_rfl)) (Rds.cons (Rd.int .i64 Try.underlying3 (by kernel_rfl)) (Rds.cons (Rd.int .i64 Try.underlying3 (by kernel_rfl)) (Rds.cons (Rd.bool Try.underlying4 (by kernel_rfl)) (Rds.cons (Rd.string Try.underlying9 (by kernel_rfl)) (Rds.cons (Rd.string Try.underlying9 (by kernel_rfl)) (Rds.cons (Rd.slice (Rd.byte Try.underlying5 (by kernel_rfl)) Try.underlying27 (by kernel_rfl)) (Rds.nil _ _) rfl rfl) rfl rfl) rfl rfl) rfl rfl) rfl rfl) rfl rfl) rfl rfl) rfl rfl) Try.underlying29 (by kernel_rfl))
end Go.Proofs.Ytpnfdibgfichmaa.Av
namespace Go.Proofs.Ytpnfdibgfichmaa
open Go.ChangeShapes Go.WideShapes Go.ChangeAt Go.RowKit
namespace imageApplies
set_option maxRecDepth 100000 in
theorem lifted (calls : ∀ (x0 : ((Av.Sl (ByteArray × (Int × Unit))) × ((Av.Sl (Int × ((Int × ((Av.Sl (Int × ((List UInt8) × Unit))) × Unit)) × Unit))) × Unit))), Av.imageApplies_r0.ok x0 → ∀ (x1 : (Int × (Int × (Int × (Int × (Bool × (ByteArray × (ByteArray × ((Av.Sl UInt8) × Unit))))))))), Av.imageApplies_r1.ok x1 → Av.ACalls Try.prog 4 ([.agg (Av.imageApplies_r0.enc x0)] ++ [.agg (Av.imageApplies_r1.enc x1)]) [] fun r _ => r = .lit (.bool true)) (os : Os) (started : os.Started) (H : Type) (enc : TypeId × Value → H) :
    ReturnsInHanded {} Try.checked os 4 .any (Rows.imageAppliesSpec.pre6 enc Try.prog Try.f4 Rows.imageAppliesRow.domain false) (Rows.imageAppliesSpec.post enc Try.prog Try.f4 false true false false) := by
  refine returnsInHanded_of_change_sized (C := Try.checked) Av.own started (by kernel_rfl) Try.func4
    (ChangeSpec.witness6 (enc := enc) (C := Try.checked) false ⟨#[], #[.agg #[.slice none 0 0, .slice none 0 0], .agg #[.int .i64 0, .int .i64 0, .int .i64 0, .int .i64 0, .bool false, .string ByteArray.empty, .string ByteArray.empty, .slice none 0 0]], []⟩ 8 (by kernel_rfl) (by kernel_rfl) (by kernel_rfl) (by kernel_rfl)) ?_
  intro W base args ds gs before hval0 hW hcnd hsz0 _
  have hval : ∀ (j : Nat) t v, Try.f4.params[j]? = some t → args[j]? = some v → Value.okWide Try.prog W .any base t v := hval0
  have hW' := hW
  obtain ⟨p, q, hA0, hV, rfl, hfz, hnd⟩ := hW
  have hA : DataW.TrodAll enc Try.prog W 0 (fun _ => true) true Try.f4.params.toList args.toList ds p := hA0
  rw [Try.params4] at hA hval
  obtain ⟨v0, vs0, d0, ds0, p0, q0, hargs, rfl, rfl, h0, r0⟩ := trodAll_cons hA
  obtain ⟨v1, vs1, d1, ds1, p1, q1, rfl, rfl, rfl, h1, r1⟩ := trodAll_cons r0
  obtain ⟨rfl, rfl, rfl⟩ := trodAll_nil r1
  obtain rfl : args = #[v0, v1] := by cases args; simp_all
  obtain ⟨rfl, rfl⟩ := trodVars_none hV
  obtain ⟨b0, rfl, -⟩ := okWide_struct Try.underlying25 (hval 0 25 v0 rfl rfl)
  have lt0 : ∀ x ∈ p0, x.block < W.heap.size := by obtain ⟨m, hm⟩ := h0; exact DataW.trod_lt m _ _ _ hm
  obtain ⟨x0, ok0, vr0⟩ := Av.imageApplies_r0.argN h0
  obtain ⟨b1, rfl, -⟩ := okWide_struct Try.underlying29 (hval 1 29 v1 rfl rfl)
  have lt1 : ∀ x ∈ p1, x.block < W.heap.size := by obtain ⟨m, hm⟩ := h1; exact DataW.trod_lt m _ _ _ hm
  obtain ⟨x1, ok1, vr1⟩ := Av.imageApplies_r1.argN h1
  refine (Av.law_calls (calls x0 ok0 x1 ok1) W (vr0.append vr1)).mono fun e W' ⟨he, bel⟩ => ?_
  subst he
  exact ⟨_, rfl, _, _, _, [], _, [], hW', trodAll_mk1 (shut_bool Try.underlying4 _), (trodAll_cons_mk (Below.trod Av.laidOut (by kernel_rfl) (of_decide_eq_true (by kernel_rfl)) h0 bel lt0) (trodAll_cons_mk (Below.trod Av.laidOut (by kernel_rfl) (of_decide_eq_true (by kernel_rfl)) h1 bel lt1) trodAll_mk0)), rfl, bel.frame _, fun h => by cases h⟩
end imageApplies
theorem imageApplies_of (calls : ∀ (x0 : ((Av.Sl (ByteArray × (Int × Unit))) × ((Av.Sl (Int × ((Int × ((Av.Sl (Int × ((List UInt8) × Unit))) × Unit)) × Unit))) × Unit))), Av.imageApplies_r0.ok x0 → ∀ (x1 : (Int × (Int × (Int × (Int × (Bool × (ByteArray × (ByteArray × ((Av.Sl UInt8) × Unit))))))))), Av.imageApplies_r1.ok x1 → Av.ACalls Try.prog 4 ([.agg (Av.imageApplies_r0.enc x0)] ++ [.agg (Av.imageApplies_r1.enc x1)]) [] fun r _ => r = .lit (.bool true)) : Rows.ImageAppliesSaid :=
  OpenClaim.holds_of_wide 4 Try.f4 rfl rfl rfl rfl rfl rfl rfl ⟨rfl, rfl, rfl, rfl, rfl⟩ rfl rfl rfl rfl rfl (by kernel_rfl) Try.func4 (by kernel_rfl)
    (of_decide_eq_true (by kernel_rfl)) (by unfold Func.isWrapper; first | (rw [if_pos (by decide +kernel)]; kernel_rfl) | (rw [if_neg (by decide +kernel)]; exact ⟨rfl, rfl⟩))
    (fun os started H enc _ => imageApplies.lifted calls os started H enc)
end Go.Proofs.Ytpnfdibgfichmaa
end
/-! YtpnfdibgfichmaaAvImageApplies -/
section
/- The law ImageApplies: what any change makes of any image. No condition. -/
set_option linter.unusedVariables false
set_option linter.unusedSimpArgs false
set_option maxRecDepth 100000
set_option maxHeartbeats 2000000
namespace Go.Proofs.Ytpnfdibgfichmaa.Av
open Go Go.RowKit

def fewO (o : OpM) : Prop := o.b.length ≤ 100 ∧ o.name.length ≤ 60 ∧ o.to.length ≤ 60 ∧ (o.size ≤ 400 ∨ 32768 < o.size)
instance (o : OpM) : Decidable (fewO o) := by unfold fewO; infer_instance
theorem law12_few_p {o : OpM} {bv : AV} (hb : SV encU 1 o.b bv) : BPure Try.prog 16 [.agg (opA o bv)] (B (decide (fewO o))) := BPure.val (by simp [noIdss, noIds, opA, hb.1]) rfl (salvorlaw12_few_ok (by
  have ob := SV.oneA hb
  unfold salvorlaw12_few
  unfold opA
  simp [ob, hb.len, bstr_size]
  have e1 : ((o.b.length : Int) ≤ 100) = (o.b.length ≤ 100) := propext (by omega)
  have e2 : ((o.name.length : Int) ≤ 60) = (o.name.length ≤ 60) := propext (by omega)
  have e3 : ((o.to.length : Int) ≤ 60) = (o.to.length ≤ 60) := propext (by omega)
  unfold fewO
  by_cases c1 : o.b.length ≤ 100
  · by_cases c2 : o.name.length ≤ 60
    · by_cases c3 : o.to.length ≤ 60
      · by_cases c4 : o.size ≤ 400
        · simp [e1, e2, e3, c1, c2, c3, c4, bstr_size]
        · simp [e1, e2, e3, c1, c2, c3, c4, bstr_size]
      · simp [e1, e2, e3, c1, c2, c3, bstr_size]
    · simp [e1, e2, e3, c1, c2, bstr_size]
  · simp [e1, e2, e3, c1]))
theorem imageApplies_calls (x0 : XI) (h0 : imageApplies_r0.ok x0) (x1 : XO) (h1 : imageApplies_r1.ok x1) :
    ACalls Try.prog 4 ([.agg (imageApplies_r0.enc x0)] ++ [.agg (imageApplies_r1.enc x1)]) [] fun r _ => r = .lit (.bool true) := by
  obtain ⟨sa, sb, u⟩ := x0
  obtain ⟨ns, ds, hI, hns⟩ := img_sv sa sb h0.1.1 h0.2.1.1 (fun x hx => by
    have h := h0.2.1.2.2 x hx
    have h2 := h.2.1.2.1
    exact ⟨h2.1, fun y hy => (h2.2.2 y hy).2.1.1⟩)
  have hnl : ∀ x ∈ ns, x.name.length ≤ 9223372036854775807 := by
    rw [hns]
    intro x hx
    obtain ⟨y, hy, rfl⟩ := List.mem_map.1 hx
    have h := (h0.1.2.2 y hy).1
    have h2 : y.1.size ≤ 9223372036854775807 := h
    show y.1.data.toList.length ≤ _
    simpa using h2
  obtain ⟨kind, ino, pos, size, keep, name, to, bb, u2⟩ := x1
  have hb0 := h1.2.2.2.2.2.2.2.1
  obtain ⟨o, bv, ho, hbv⟩ : ∃ (o : OpM) (bv : AV), [AV.agg (imageApplies_r1.enc (kind, ino, pos, size, keep, name, to, bb, u2))] = [AV.agg (opA o bv)] ∧ SV encU 1 o.b bv := by
    refine ⟨⟨kind, ino, pos, size, keep, name.data.toList, to.data.toList, bb.l⟩, if bb.nil then .lit (.slice none 0 0) else .imm (bb.l.flatMap encU) bb.l.length 1, ?_, bytes12_sv bb hb0.1⟩
    unfold opA
    rw [bstr_data, bstr_data]
    rfl
  rw [ho]
  show ACalls Try.prog 4 ([.agg [if sa.nil then .lit (.slice none 0 0) else .imm (sa.l.flatMap xnEnc) sa.l.length 2, if sb.nil then .lit (.slice none 0 0) else .imm (sb.l.flatMap xdEnc) sb.l.length 3]] ++ [.agg (opA o bv)]) [] _
  generalize AV.agg [if sa.nil then .lit (.slice none 0 0) else .imm (sa.l.flatMap xnEnc) sa.l.length 2, if sb.nil then .lit (.slice none 0 0) else .imm (sb.l.flatMap xdEnc) sb.l.length 3] = v at hI
  clear hns
  refine law_of (salvorlaw12_ImageApplies_ok ?_)
  unfold salvorlaw12_ImageApplies
  have hI0 := hI
  obtain ⟨a, b, dv, rfl, ha, hbd, rfl⟩ := hI
  have oa := SV.oneA ha
  have ob := SV.oneA hbd
  have oc := SV.oneA hbv
  have b0 : rdCells true 2 [a, b] 0 = some (.agg [a, b]) := rfl
  have b8 : rdCells true 8 (opA o bv) 0 = some (.agg (opA o bv)) := rfl
  have e1 : anew [some (.cells [a, b])] (.agg (opA o bv)) = some (.ptr 1 0, [some (.cells [a, b]), some (.cells (opA o bv))]) := by simp [opA, oc]
  simp [oa, ob, e1, b0]
  first | refine bP_of (law12_Few_p hI0) ?_ | refine bP_pure (law12_Few_p hI0) ?_
  by_cases c1 : FewI ns (dv.map NdV.nd)
  · simp [c1, b8]
    first | refine bP_of (law12_few_p hbv) ?_ | refine bP_pure (law12_few_p hbv) ?_
    by_cases c2 : fewO o
    · have sm := c1.sm hnl
      obtain ⟨R1, s1, p1⟩ := Apply_p (o := o) hI0 sm hbv (by have := c2.1; omega) (by have := c2.2.1; omega) (by have := c2.2.2.1; omega)
      obtain ⟨R2, s2, p2⟩ := ref_Apply_p (o := o) hI0 sm hbv (by have := c2.1; omega) (by have := c2.2.1; omega) (by have := c2.2.2.1; omega)
      simp [c2, b0, b8]
      first | refine bP_of (p1) ?_ | refine bP_pure (p1) ?_
      have sm2 : Sm (applyI ns (dv.map NdV.nd) o).1 (applyI ns (dv.map NdV.nd) o).2 := by
        obtain ⟨l1, l2, l3, l4⟩ := applyI_len (ns := ns) (ds := dv.map NdV.nd) (o := o)
        have d1 := c1.1
        have d2 := c1.2.1
        refine ⟨by omega, by omega, fun x hx => ?_, fun d hd => ?_⟩
        · rcases l3 x hx with h | h | h
          · exact hnl x h
          · rw [h]; have := c2.2.1; omega
          · rw [h]; have := c2.2.2.1; omega
        · rcases l4 d hd with h | h | ⟨e, h, h5⟩
          · have := c1.2.2.1 d h; omega
          · rw [h]; simp
          · have := c1.2.2.1 e h; have := c2.1; omega
      first | refine bP_of (p2) ?_ | refine bP_pure (p2) ?_
      first | refine bP_of (ref_SameImage_p s1 s2 sm2) ?_ | refine bP_pure (ref_SameImage_p s1 s2 sm2) ?_
      simp [sameI]
      first | refine bP_of (imageRuns_p) ?_ | refine bP_pure (imageRuns_p) ?_
      simp
    · simp [c2]
      first | refine bP_of (imageRuns_p) ?_ | refine bP_pure (imageRuns_p) ?_
      simp
  · simp [c1]
    first | refine bP_of (imageRuns_p) ?_ | refine bP_pure (imageRuns_p) ?_
    simp
end Go.Proofs.Ytpnfdibgfichmaa.Av
namespace Go.Proofs.Ytpnfdibgfichmaa
theorem imageApplies_holds : Rows.ImageAppliesSaid := imageApplies_of Av.imageApplies_calls
#print axioms imageApplies_holds
end Go.Proofs.Ytpnfdibgfichmaa
end
