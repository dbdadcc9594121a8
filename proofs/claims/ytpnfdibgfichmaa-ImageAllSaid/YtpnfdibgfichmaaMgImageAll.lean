/- The law and its row. No condition. -/
import Derived.Test.YtpnfdibgfichmaaMgH
import Derived.Below
import Derived.Carry
import Derived.ChangeOld
import Derived.OpenShut
import Derived.ProofKit
import Derived.ShutString
import Derived.SizedLaws
import Derived.Test.YtpnfdibgfichmaaRows
import Derived.WalkKit
/-! YtpnfdibgfichmaaLImageAll -/
section
/- The row of the law ImageAll, out of what a call of it comes to. No condition. Printed by a program of this session. -/
set_option linter.unusedVariables false
namespace Go.Proofs.Ytpnfdibgfichmaa.Av
open Go Go.RowKit
noncomputable def imageAll_r0 : Rd Try.prog 45 (Sl (UInt8 × (Int × ((Sl (UInt8 × (UInt8 × Unit))) × Unit)))) := (Rd.slice (Rd.struct (Rds.cons (Rd.byte Try.underlying5 (by kernel_rfl)) (Rds.cons (Rd.int .u16 Try.underlying49 (by kernel_rfl)) (Rds.cons (Rd.slice (Rd.struct (Rds.cons (Rd.byte Try.underlying5 (by kernel_rfl)) (Rds.cons (Rd.byte Try.underlying5 (by kernel_rfl)) (Rds.nil _ _) rfl rfl) rfl rfl) Try.underlying112 (by kernel_rfl)) Try.underlying78 (by kernel_rfl)) (Rds.nil _ _) rfl rfl) rfl rfl) rfl rfl) Try.underlying80 (by kernel_rfl)) Try.underlying45 (by kernel_rfl))
noncomputable def imageAll_r1 : Rd Try.prog 46 (Sl (UInt8 × (UInt8 × (UInt8 × (UInt8 × (Int × (Int × (Bool × Unit)))))))) := (Rd.slice (Rd.struct (Rds.cons (Rd.byte Try.underlying5 (by kernel_rfl)) (Rds.cons (Rd.byte Try.underlying5 (by kernel_rfl)) (Rds.cons (Rd.byte Try.underlying5 (by kernel_rfl)) (Rds.cons (Rd.byte Try.underlying5 (by kernel_rfl)) (Rds.cons (Rd.int .u16 Try.underlying49 (by kernel_rfl)) (Rds.cons (Rd.int .u16 Try.underlying49 (by kernel_rfl)) (Rds.cons (Rd.bool Try.underlying4 (by kernel_rfl)) (Rds.nil _ _) rfl rfl) rfl rfl) rfl rfl) rfl rfl) rfl rfl) rfl rfl) rfl rfl) Try.underlying51 (by kernel_rfl)) Try.underlying46 (by kernel_rfl))
end Go.Proofs.Ytpnfdibgfichmaa.Av
namespace Go.Proofs.Ytpnfdibgfichmaa
open Go.ChangeShapes Go.WideShapes Go.ChangeAt Go.RowKit
namespace imageAll
set_option maxRecDepth 100000 in
theorem lifted (calls : ∀ (x0 : (Av.Sl (UInt8 × (Int × ((Av.Sl (UInt8 × (UInt8 × Unit))) × Unit))))), Av.imageAll_r0.ok x0 → ∀ (x1 : (Av.Sl (UInt8 × (UInt8 × (UInt8 × (UInt8 × (Int × (Int × (Bool × Unit))))))))), Av.imageAll_r1.ok x1 → Av.ACalls Try.prog 5 (Av.imageAll_r0.enc x0 ++ Av.imageAll_r1.enc x1) [] fun r _ => r = .lit (.bool true)) (os : Os) (started : os.Started) (H : Type) (enc : TypeId × Value → H) :
  ReturnsInHanded {} Try.checked os 5 .any (Rows.imageAllSpec.pre6 enc Try.prog Try.f5 Rows.imageAllRow.domain false) (Rows.imageAllSpec.post enc Try.prog Try.f5 false true false false) := by
 refine returnsInHanded_of_change_sized (C := Try.checked) Av.own started (by kernel_rfl) Try.func5
  (ChangeSpec.witness6 (enc := enc) (C := Try.checked) false ⟨#[], #[.slice none 0 0, .slice none 0 0], []⟩ 8 (by kernel_rfl) (by kernel_rfl) (by kernel_rfl) (by kernel_rfl)) ?_
 intro W base args ds gs before hval0 hW hcnd hsz0 _
 have hval : ∀ (j : Nat) t v, Try.f5.params[j]? = some t → args[j]? = some v → Value.okWide Try.prog W .any base t v := hval0
 have hW' := hW
 obtain ⟨p, q, hA0, hV, rfl, hfz, hnd⟩ := hW
 have hA : DataW.TrodAll enc Try.prog W 0 (fun _ => true) true Try.f5.params.toList args.toList ds p := hA0
 rw [Try.params5] at hA hval
 obtain ⟨v0, vs0, d0, ds0, p0, q0, hargs, rfl, rfl, h0, r0⟩ := trodAll_cons hA
 obtain ⟨v1, vs1, d1, ds1, p1, q1, rfl, rfl, rfl, h1, r1⟩ := trodAll_cons r0
 obtain ⟨rfl, rfl, rfl⟩ := trodAll_nil r1
 obtain rfl : args = #[v0, v1] := by cases args; simp_all
 obtain ⟨rfl, rfl⟩ := trodVars_none hV
 obtain ⟨b0, len0, cap0, rfl⟩ := okWide_slice Try.underlying45 (hval 0 45 v0 rfl rfl)
 have lt0 : ∀ x ∈ p0, x.block < W.heap.size := by obtain ⟨m, hm⟩ := h0; exact DataW.trod_lt m _ _ _ hm
 obtain ⟨x0, ok0, vr0⟩ := Av.imageAll_r0.arg1 rfl h0
 obtain ⟨b1, len1, cap1, rfl⟩ := okWide_slice Try.underlying46 (hval 1 46 v1 rfl rfl)
 have lt1 : ∀ x ∈ p1, x.block < W.heap.size := by obtain ⟨m, hm⟩ := h1; exact DataW.trod_lt m _ _ _ hm
 obtain ⟨x1, ok1, vr1⟩ := Av.imageAll_r1.arg1 rfl h1
 refine (Av.law_calls (calls x0 ok0 x1 ok1) W (vr0.append vr1)).mono fun e W' ⟨he, bel⟩ => ?_
 subst he
 exact ⟨_, rfl, _, _, _, [], _, [], hW', trodAll_mk1 (shut_bool Try.underlying4 _), (trodAll_cons_mk (Below.trod Av.laidOut (by kernel_rfl) (of_decide_eq_true (by kernel_rfl)) h0 bel lt0) (trodAll_cons_mk (Below.trod Av.laidOut (by kernel_rfl) (of_decide_eq_true (by kernel_rfl)) h1 bel lt1) trodAll_mk0)), rfl, bel.frame _, fun h => by cases h⟩
end imageAll
theorem imageAll_of (calls : ∀ (x0 : (Av.Sl (UInt8 × (Int × ((Av.Sl (UInt8 × (UInt8 × Unit))) × Unit))))), Av.imageAll_r0.ok x0 → ∀ (x1 : (Av.Sl (UInt8 × (UInt8 × (UInt8 × (UInt8 × (Int × (Int × (Bool × Unit))))))))), Av.imageAll_r1.ok x1 → Av.ACalls Try.prog 5 (Av.imageAll_r0.enc x0 ++ Av.imageAll_r1.enc x1) [] fun r _ => r = .lit (.bool true)) : Rows.ImageAllSaid :=
 OpenClaim.holds_of_wide 5 Try.f5 rfl rfl rfl rfl rfl rfl rfl ⟨rfl, rfl, rfl, rfl, rfl⟩ rfl rfl rfl rfl rfl (by kernel_rfl) Try.func5 (by kernel_rfl)
  (of_decide_eq_true (by kernel_rfl)) (by unfold Func.isWrapper; first | (rw [if_pos (by decide +kernel)]; kernel_rfl) | (rw [if_neg (by decide +kernel)]; exact ⟨rfl, rfl⟩))
  (fun os started H enc _ => imageAll.lifted calls os started H enc)
end Go.Proofs.Ytpnfdibgfichmaa
end
/-! YtpnfdibgfichmaaAvImageAll -/
section
/- The law ImageAll: what any changes make of files, one behind the other; it may be each time. No condition. -/
set_option linter.unusedVariables false
set_option linter.unusedSimpArgs false
set_option maxRecDepth 100000
set_option maxHeartbeats 2000000
namespace Go.Proofs.Ytpnfdibgfichmaa.Av
open Go Go.RowKit

noncomputable def opV (x : OpX) : OpV := ⟨opK x, Classical.choose (Op_p x), (Classical.choose_spec (Op_p x)).1⟩
theorem opV_p (x : OpX) : BPure Try.prog 21 [.agg (opX x)] (.agg (encO (opV x))) := (Classical.choose_spec (Op_p x)).2
theorem opX_len (x : OpX) : (opX x).length = 7 := rfl
theorem noIdss_opX (x : OpX) : noIdss (opX x) = true := rfl
theorem allI_snoc {ns : List Nm} {ds : List Nd} {l : List OpM} {o : OpM} : allI ns ds (l ++ [o]) = applyI (allI ns ds l).1 (allI ns ds l).2 o := by
 unfold allI
 rw [List.foldl_append]; rfl
theorem allI_fit {ns : List Nm} {ds : List Nd} (h : Fit 0 ns ds) (l : List OpX) : ∀ m, m ≤ l.length → Fit m (allI ns ds ((l.take m).map opK)).1 (allI ns ds ((l.take m).map opK)).2
 | 0, _ => h
 | m + 1, hm => by
  have hx := List.getElem?_eq_getElem (l := l) (i := m) (by omega)
  rw [zgzZ hx, List.map_append, List.map_cons, List.map_nil, allI_snoc]
  exact (allI_fit h l m (by omega)).step (opK_few _)
theorem imageAll_walk {l : List IxV} {v w : AV} (hv : SV encX 3 l v) {os : List OpX} (hw : SV opX 7 os w) : ACalls Try.prog 5 [v, w] [] fun r _ => r = .lit (.bool true) := by
 refine law_of (zujZ ?_)
 unfold zkcZ
 simp only [hw.len, bO_some, abI_gtr, bB_bool]
 by_cases h40 : 40 < os.length
 ·have : (40 : Int) < (os.length : Int) := by omega
  simp only [this, decide_true, bI_true]
  exact bP_pure zreZ rfl
 ·have n40 : ¬ (40 : Int) < (os.length : Int) := by omega
  simp only [n40, decide_false, zdlZ]
  have hmw := img_w l
  have hI := img_v l
  have hfit := img_fit l
  have hp := ImageOf_p hv
  generalize imgR l = R at hp hI
  generalize imN l = ns at hmw hI hfit
  generalize imD l = ds at hmw hI hfit
  refine bP_pure hp ?_
  have hI0 := hI
  obtain ⟨a, b, dv, rfl, ha, hb, hdv⟩ := hI
  have oa := SV.oneA ha
  have ob := SV.oneA hb
  have b2 : ∀ x y : AV, rdCells true 2 [x, y] 0 = some (.agg [x, y]) := fun _ _ => rfl
  have e1 : anew [] (.agg [nilSl, nilSl]) = some (.ptr 0 0, [some (.cells [nilSl, nilSl])]) := by simp
  have e2 : ast 2 [some (.cells [nilSl, nilSl])] (.ptr 0 0) (.agg [a, b]) = some [some (.cells [a, b])] := by
   rw [ast_ptr (n := 2) (xs := [a, b]) (cs := [nilSl, nilSl]) (by simp [oa, ob]) rfl rfl (by simp)]; rfl
  have e3 : ald true 2 [some (.cells [a, b])] (.ptr 0 0) = some (.agg [a, b]) := by rw [ald_ptr (cs := [a, b]) rfl]; rfl
  have e4 : anew [some (.cells [a, b])] (.agg [nilSl, nilSl]) = some (.ptr 1 0, [some (.cells [a, b]), some (.cells [nilSl, nilSl])]) := by simp
  have e5 : ast 2 [some (.cells [a, b]), some (.cells [nilSl, nilSl])] (.ptr 1 0) (.agg [a, b]) = some [some (.cells [a, b]), some (.cells [a, b])] := by
   rw [ast_ptr (n := 2) (xs := [a, b]) (cs := [nilSl, nilSl]) (by simp [oa, ob]) rfl rfl (by simp)]; rfl
  rw [e1, bH_some, e2, bS_some, e3, bO_some, e4, bH_some, e5, bS_some]
  refine zpmZ (fun n x1 x5 x6 x7 x8 H' => ∃ k : Nat, k + n = os.length ∧ x1 = w ∧ x5 = .ptr 0 0 ∧ x6 = .ptr 1 0 ∧ x8 = I k ∧ H'[0]? = some (some (.cells [a, b])) ∧ (∃ c d, H'[1]? = some (some (.cells [c, d])) ∧ ImV (allI ns ds ((os.take k).map opK)).1 (allI ns ds ((os.take k).map opK)).2 (.agg [c, d])) ∧ OwN 2 8 (((os.take k).map opV).flatMap encO) k x7 H') ?_ os.length ⟨0, by omega, rfl, rfl, rfl, rfl, rfl, ⟨a, b, rfl, hI0⟩, ⟨rfl, rfl, by simp [idS], by simp [capOk]⟩⟩
  rintro n x1 x5 x6 x7 x8 H Rr hR ⟨k, hkn, rfl, rfl, rfl, rfl, c0, ⟨c, d, c1, hI⟩, ow⟩
  unfold zfwZ
  have hfk := allI_fit hfit os k (by omega)
  have sm := hfk.sm (by omega)
  have hlk : ((os.take k).map opV).length = k := by rw [List.length_map, List.length_take]; omega
  have hlk2 : ((os.take k).map opK).length = k := by rw [List.length_map, List.length_take]; omega
  rcases Nat.lt_or_ge k os.length with h | h
  ·have hx := List.getElem?_eq_getElem h
   generalize os[k] = x at hx
   have kI : ((k : Int) < (os.length : Int)) := by omega
   have rd7 : rdCells true 7 (opX x ++ (os.drop (k + 1)).flatMap opX) 0 = some (.agg (opX x)) := by simp [rdCells, opX]
   simp only [hw.len, bO_some, abI_lss, bB_bool, kI, decide_true, bI_true, hw.idx opX_len hx rfl, ald_ip, rd7]
   refine bP_pure (opV_p x) ?_
   have e6 : absl H 8 1 (zrow [(.lit (.int .i64 0)), (.lit (.int .i64 0)), (.lit (.int .i64 0)), (.lit (.int .i64 0)), (.lit (.bool false)), (.lit (.string ⟨#[]⟩)), (.lit (.string ⟨#[]⟩)), (.lit (.slice none 0 0))] 1) [(0, 8, .agg (encO (opV x)))] = some (.sl H.length 0 1 8 (.ex 1), H ++ [some (.cells (encO (opV x)))]) := by
    have o1 := SV.oneA (opV x).h
    simp [absl, zrow, encO, opA, cellsA_agg, o1, splice]
   have g := Grew.app H [some (.cells (encO (opV x)))]
   have x1 : zcwZ (H ++ [some (.cells (encO (opV x)))]) 8 (.sl H.length 0 1 8 (.ex 1)) = some (encO (opV x), 1) := zfZ (by rw [zxZ (c := encO (opV x)) (by simp) (by simp [encO, opA])]; rfl)
   obtain ⟨r, H2, a1, a2, a3⟩ := app1 (bytes := 96) (ow.grew g) x1 (by have := (List.getElem?_eq_some_iff.1 c1).1; simp; omega) (by omega)
   have d0 : H2[0]? = some (some (.cells [a, b])) := by rw [a3.2 0 (by omega)]; exact g.cells c0
   have d1 : H2[1]? = some (some (.cells [c, d])) := by rw [a3.2 1 (by omega)]; exact g.cells c1
   have et : os.take (k + 1) = os.take k ++ [x] := zgzZ hx
   have efl : ((os.take k).map opV).flatMap encO ++ encO (opV x) = ((os.take (k + 1)).map opV).flatMap encO := by rw [et]; simp
   have hl1 : ((os.take (k + 1)).map opV).length = k + 1 := by rw [List.length_map, List.length_take]; omega
   have a2s := a2.s
   rw [efl] at a2s
   obtain ⟨p, p1, p2⟩ := op_at (k := k) (x := opV x) (by rw [hl1]; exact a2s) (by rw [et]; simp [List.getElem?_append_right, hlk, Nat.min_eq_left (Nat.le_of_lt h)])
   have few := opK_few x
   obtain ⟨R2, s2, q2⟩ := ref_Apply_p (o := opK x) hI sm (opV x).h (by have := few.1; show (opK x).b.length ≤ _; omega) (by have := few.2.1; omega) (by have := few.2.2; omega)
   have s20 := s2
   obtain ⟨c', d', ev, rfl, hc', hd', hev⟩ := s2
   have oc := SV.oneA hc'
   have od := SV.oneA hd'
   have e7 : ast 2 H2 (.ptr 1 0) (.agg [c', d']) = some (H2.set 1 (some (.cells [c', d']))) := by
    rw [ast_ptr (n := 2) (off := 0) (xs := [c', d']) (cs := [c, d]) (by simp [oc, od]) d1 rfl (by simp)]; rfl
   have hl2 : 1 < H2.length := (List.getElem?_eq_some_iff.1 d1).1
   simp only [e6, bH_some, a1, ald_ptr d1, b2, bO_some, p1, p2]
   refine bP_of q2 ?_
   simp only [e7, bS_some, abI_add (a := k) (b := 1) (by omega) (by omega), bO_some]
   refine hR (n - 1) _ _ _ _ _ _ (by omega) ⟨k + 1, by omega, rfl, rfl, rfl, by simp, ?_, ⟨c', d', List.getElem?_set_self (by omega), ?_⟩, ?_⟩
   ·rw [List.getElem?_set_ne (by omega)]; exact d0
   ·rw [et, List.map_append, List.map_cons, List.map_nil, allI_snoc]; exact s20
   ·exact ⟨zbZ a2s fun j q => List.getElem?_set_ne (by have := a2.i j q; omega), a2.o, a2.i, a2.c⟩
  ·have hk : k = os.length := by omega
   subst hk
   have kI : ¬ (((os.length : Nat) : Int) < (os.length : Int)) := by omega
   simp only [hw.len, bO_some, abI_lss, bB_bool, kI, decide_false, zdlZ, ald_ptr c0, b2]
   rw [List.take_length] at hI sm ow hlk
   have os' := ow.s
   obtain ⟨r, H2, ⟨hr, hg⟩, hc⟩ := All_c (l := os.map opV) hI0 hfit (by rw [hlk]; exact os') (by rw [hlk]; omega) (fun y hy => by
    obtain ⟨z, -, rfl⟩ := List.mem_map.1 hy
    exact opK_few z)
   have el : (os.map opV).map OpV.o = os.map opK := by rw [List.map_map]; rfl
   rw [el] at hr
   refine bC_of hc ?_
   have hr0 : ImV (allI ns ds (os.map opK)).1 (allI ns ds (os.map opK)).2 r := hr
   obtain ⟨c', d', ev, rfl, hc', hd', hev⟩ := hr
   have oc := SV.oneA hc'
   have od := SV.oneA hd'
   have f1 : anew H2 (.agg [(.lit (.slice none 0 0)), (.lit (.slice none 0 0))]) = some (.ptr H2.length 0, H2 ++ [some (.cells [nilSl, nilSl])]) := by simp
   have f2 : ast 2 (H2 ++ [some (.cells [nilSl, nilSl])]) (.ptr H2.length 0) (.agg [c', d']) = some (H2 ++ [some (.cells [c', d'])]) := by
    rw [ast_ptr (n := 2) (xs := [c', d']) (cs := [nilSl, nilSl]) (by simp [oc, od]) (by simp) rfl (by simp)]
    simp [splice]
   have f3 : (H2 ++ [some (AObj.cells [c', d'])])[H2.length]? = some (some (.cells [c', d'])) := by simp
   have f4 : (H2 ++ [some (AObj.cells [c', d'])])[1]? = some (some (.cells [c, d])) := (Grew.app H2 _).cells (hg.cells c1)
   simp only [f1, bH_some, f2, bS_some, ald_ptr f3, ald_ptr f4, b2, bO_some]
   refine bP_pure (ref_SameImage_p hr0 hI sm) ?_
   have hsame : sameI (allI ns ds (os.map opK)).1 (allI ns ds (os.map opK)).2 (allI ns ds (os.map opK)).1 (allI ns ds (os.map opK)).2 := ⟨rfl, rfl⟩
   simp only [decide_eq_true hsame, bG_bool, beq_self_eq_true, gO_true, ald_ptr f3, b2, bO_some, gP_true]
   refine bP_pure (May_p hr0 sm) ?_
   have hmay := mayI_w.2 (allI_w hmw (os.map opK))
   simp only [decide_eq_true hmay, bO_some, zcpZ, if_true, bG_bool, beq_self_eq_true, gP_true]
   exact bP_pure zreZ rfl
theorem xops_ex : ∀ (l : List XOp), (∀ x ∈ l, okO x) → ∃ dv : List OpX, dv.length = l.length ∧ dv.flatMap opX = l.flatMap xopEnc
 | [], _ => ⟨[], rfl, rfl⟩
 | x :: l, h => by
  obtain ⟨d, hd⟩ := xop_ex x (h x (by simp))
  obtain ⟨dv, h1, h2⟩ := xops_ex l fun y hy => h y (by simp [hy])
  exact ⟨d :: dv, by simp [h1], by simp [hd, h2]⟩
theorem imageAll_calls (x0 : Sl XR) (h0 : imageAll_r0.ok x0) (x1 : Sl XOp) (h1 : imageAll_r1.ok x1) : ACalls Try.prog 5 (imageAll_r0.enc x0 ++ imageAll_r1.enc x1) [] fun r _ => r = .lit (.bool true) := by
 obtain ⟨xs, hx⟩ := rows_sv x0 h0.1 (fun y hy => by
  have h := h0.2.2 y hy
  exact ⟨h.2.1, h.2.2.1.1⟩)
 obtain ⟨os, ho⟩ : ∃ os : List OpX, SV opX 7 os (if x1.nil then .lit (.slice none 0 0) else .imm (x1.l.flatMap xopEnc) x1.l.length 7) := by
  obtain ⟨l, nil⟩ := x1
  have hn := h1.1
  have hok := h1.2.2
  simp only at hn hok ⊢
  cases nil with
  | true => exact ⟨[], SV.nil⟩
  | false =>
   obtain ⟨dv, e1, e2⟩ := xops_ex l fun y hy => by
    have h := hok y hy
    exact ⟨h.2.2.2.2.1, h.2.2.2.2.2.1⟩
   refine ⟨dv, ?_⟩
   have := SV.imm (enc := opX) (sz := 7) (l := dv) opX_len (fun x _ => noIdss_opX x)
   rw [e1, e2] at this
   exact this
 exact imageAll_walk hx ho
end Go.Proofs.Ytpnfdibgfichmaa.Av
namespace Go.Proofs.Ytpnfdibgfichmaa
theorem imageAll_holds : Rows.ImageAllSaid := imageAll_of Av.imageAll_calls
#print axioms imageAll_holds
end Go.Proofs.Ytpnfdibgfichmaa
end
