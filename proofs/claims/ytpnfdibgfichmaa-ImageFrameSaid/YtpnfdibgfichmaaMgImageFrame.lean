/- The law and its row. No condition. -/
import Derived.Test.YtpnfdibgfichmaaMgH
import Derived.Below
import Derived.Carry
import Derived.ChangeOld
import Derived.OpenShut
import Derived.ProofKit
import Derived.ShutString
import Derived.SizedLaws
import Derived.Test.YtpnfdibgfichmaaRows
import Derived.WalkKit
/-! YtpnfdibgfichmaaLImageFrame -/
section
/- The row of the law ImageFrame, out of what a call of it comes to. No condition. Printed by a program of this session. -/
set_option linter.unusedVariables false
namespace Go.Proofs.Ytpnfdibgfichmaa.Av
open Go Go.RowKit
noncomputable def imageFrame_r0 : Rd Try.prog 45 (Sl (UInt8 × (Int × ((Sl (UInt8 × (UInt8 × Unit))) × Unit)))) := (Rd.slice (Rd.struct (Rds.cons (Rd.byte Try.underlying5 (by kernel_rfl)) (Rds.cons (Rd.int .u16 Try.underlying49 (by kernel_rfl)) (Rds.cons (Rd.slice (Rd.struct (Rds.cons (Rd.byte Try.underlying5 (by kernel_rfl)) (Rds.cons (Rd.byte Try.underlying5 (by kernel_rfl)) (Rds.nil _ _) rfl rfl) rfl rfl) Try.underlying112 (by kernel_rfl)) Try.underlying78 (by kernel_rfl)) (Rds.nil _ _) rfl rfl) rfl rfl) rfl rfl) Try.underlying80 (by kernel_rfl)) Try.underlying45 (by kernel_rfl))
noncomputable def imageFrame_r1 : Rd Try.prog 51 (UInt8 × (UInt8 × (UInt8 × (UInt8 × (Int × (Int × (Bool × Unit))))))) := (Rd.struct (Rds.cons (Rd.byte Try.underlying5 (by kernel_rfl)) (Rds.cons (Rd.byte Try.underlying5 (by kernel_rfl)) (Rds.cons (Rd.byte Try.underlying5 (by kernel_rfl)) (Rds.cons (Rd.byte Try.underlying5 (by kernel_rfl)) (Rds.cons (Rd.int .u16 Try.underlying49 (by kernel_rfl)) (Rds.cons (Rd.int .u16 Try.underlying49 (by kernel_rfl)) (Rds.cons (Rd.bool Try.underlying4 (by kernel_rfl)) (Rds.nil _ _) rfl rfl) rfl rfl) rfl rfl) rfl rfl) rfl rfl) rfl rfl) rfl rfl) Try.underlying51 (by kernel_rfl))
end Go.Proofs.Ytpnfdibgfichmaa.Av
namespace Go.Proofs.Ytpnfdibgfichmaa
open Go.ChangeShapes Go.WideShapes Go.ChangeAt Go.RowKit
namespace imageFrame
set_option maxRecDepth 100000 in
theorem lifted (calls : ∀ (x0 : (Av.Sl (UInt8 × (Int × ((Av.Sl (UInt8 × (UInt8 × Unit))) × Unit))))), Av.imageFrame_r0.ok x0 → ∀ (x1 : (UInt8 × (UInt8 × (UInt8 × (UInt8 × (Int × (Int × (Bool × Unit)))))))), Av.imageFrame_r1.ok x1 → Av.ACalls Try.prog 7 (Av.imageFrame_r0.enc x0 ++ [.agg (Av.imageFrame_r1.enc x1)]) [] fun r _ => r = .lit (.bool true)) (os : Os) (started : os.Started) (H : Type) (enc : TypeId × Value → H) :
  ReturnsInHanded {} Try.checked os 7 .any (Rows.imageFrameSpec.pre6 enc Try.prog Try.f7 Rows.imageFrameRow.domain false) (Rows.imageFrameSpec.post enc Try.prog Try.f7 false true false false) := by
 refine returnsInHanded_of_change_sized (C := Try.checked) Av.own started (by kernel_rfl) Try.func7
  (ChangeSpec.witness6 (enc := enc) (C := Try.checked) false ⟨#[], #[.slice none 0 0, .agg #[.int .u8 0, .int .u8 0, .int .u8 0, .int .u8 0, .int .u16 0, .int .u16 0, .bool false]], []⟩ 8 (by kernel_rfl) (by kernel_rfl) (by kernel_rfl) (by kernel_rfl)) ?_
 intro W base args ds gs before hval0 hW hcnd hsz0 _
 have hval : ∀ (j : Nat) t v, Try.f7.params[j]? = some t → args[j]? = some v → Value.okWide Try.prog W .any base t v := hval0
 have hW' := hW
 obtain ⟨p, q, hA0, hV, rfl, hfz, hnd⟩ := hW
 have hA : DataW.TrodAll enc Try.prog W 0 (fun _ => true) true Try.f7.params.toList args.toList ds p := hA0
 rw [Try.params7] at hA hval
 obtain ⟨v0, vs0, d0, ds0, p0, q0, hargs, rfl, rfl, h0, r0⟩ := trodAll_cons hA
 obtain ⟨v1, vs1, d1, ds1, p1, q1, rfl, rfl, rfl, h1, r1⟩ := trodAll_cons r0
 obtain ⟨rfl, rfl, rfl⟩ := trodAll_nil r1
 obtain rfl : args = #[v0, v1] := by cases args; simp_all
 obtain ⟨rfl, rfl⟩ := trodVars_none hV
 obtain ⟨b0, len0, cap0, rfl⟩ := okWide_slice Try.underlying45 (hval 0 45 v0 rfl rfl)
 have lt0 : ∀ x ∈ p0, x.block < W.heap.size := by obtain ⟨m, hm⟩ := h0; exact DataW.trod_lt m _ _ _ hm
 obtain ⟨x0, ok0, vr0⟩ := Av.imageFrame_r0.arg1 rfl h0
 obtain ⟨b1, rfl, -⟩ := okWide_struct Try.underlying51 (hval 1 51 v1 rfl rfl)
 have lt1 : ∀ x ∈ p1, x.block < W.heap.size := by obtain ⟨m, hm⟩ := h1; exact DataW.trod_lt m _ _ _ hm
 obtain ⟨x1, ok1, vr1⟩ := Av.imageFrame_r1.argN h1
 refine (Av.law_calls (calls x0 ok0 x1 ok1) W (vr0.append vr1)).mono fun e W' ⟨he, bel⟩ => ?_
 subst he
 exact ⟨_, rfl, _, _, _, [], _, [], hW', trodAll_mk1 (shut_bool Try.underlying4 _), (trodAll_cons_mk (Below.trod Av.laidOut (by kernel_rfl) (of_decide_eq_true (by kernel_rfl)) h0 bel lt0) (trodAll_cons_mk (Below.trod Av.laidOut (by kernel_rfl) (of_decide_eq_true (by kernel_rfl)) h1 bel lt1) trodAll_mk0)), rfl, bel.frame _, fun h => by cases h⟩
end imageFrame
theorem imageFrame_of (calls : ∀ (x0 : (Av.Sl (UInt8 × (Int × ((Av.Sl (UInt8 × (UInt8 × Unit))) × Unit))))), Av.imageFrame_r0.ok x0 → ∀ (x1 : (UInt8 × (UInt8 × (UInt8 × (UInt8 × (Int × (Int × (Bool × Unit)))))))), Av.imageFrame_r1.ok x1 → Av.ACalls Try.prog 7 (Av.imageFrame_r0.enc x0 ++ [.agg (Av.imageFrame_r1.enc x1)]) [] fun r _ => r = .lit (.bool true)) : Rows.ImageFrameSaid :=
 OpenClaim.holds_of_wide 7 Try.f7 rfl rfl rfl rfl rfl rfl rfl ⟨rfl, rfl, rfl, rfl, rfl⟩ rfl rfl rfl rfl rfl (by kernel_rfl) Try.func7 (by kernel_rfl)
  (of_decide_eq_true (by kernel_rfl)) (by unfold Func.isWrapper; first | (rw [if_pos (by decide +kernel)]; kernel_rfl) | (rw [if_neg (by decide +kernel)]; exact ⟨rfl, rfl⟩))
  (fun os started H enc _ => imageFrame.lifted calls os started H enc)
end Go.Proofs.Ytpnfdibgfichmaa
end
/-! YtpnfdibgfichmaaAvImageFrame -/
section
/- The law ImageFrame: a change of one file changes no other one, nor any name. No condition. -/
set_option linter.unusedVariables false
set_option linter.unusedSimpArgs false
set_option maxRecDepth 100000
set_option maxHeartbeats 2000000
namespace Go.Proofs.Ytpnfdibgfichmaa.Av
open Go Go.RowKit

theorem imageFrame_walk {l : List IxV} {v : AV} (hv : SV encX 3 l v) (x : OpX) : ACalls Try.prog 7 [v, .agg (opX x)] [] fun r _ => r = .lit (.bool true) := by
 refine law_of (zstZ ?_)
 unfold zhtZ
 have hw := img_w l
 have hI := img_v l
 have hp := ImageOf_p hv
 have sm := (img_fit l).sm (by omega)
 obtain ⟨bv, hbv, ho⟩ := Op_p x
 have few := opK_few x
 generalize imgR l = R at hp hI
 generalize hns : imN l = ns at hw hI sm
 generalize hds : imD l = ds at hw hI sm
 generalize opK x = o at ho hbv few
 have hI0 := hI
 obtain ⟨a, b, dv, rfl, ha, hb, hdv⟩ := hI
 have oa := SV.oneA ha
 have ob := SV.oneA hb
 have oc := SV.oneA hbv
 have b2 : ∀ x y : AV, rdCells true 2 [x, y] 0 = some (.agg [x, y]) := fun _ _ => rfl
 have e1 : anew [] (.agg (opX x)) = some (.ptr 0 0, [some (.cells (opX x))]) := by simp [opX]
 have e2 : anew [some (.cells (opX x))] (.agg [nilSl, nilSl]) = some (.ptr 1 0, [some (.cells (opX x)), some (.cells [nilSl, nilSl])]) := by simp
 have e3 : ast 2 [some (.cells (opX x)), some (.cells [nilSl, nilSl])] (.ptr 1 0) (.agg [a, b]) = some [some (.cells (opX x)), some (.cells [a, b])] := by
  rw [ast_ptr (n := 2) (xs := [a, b]) (cs := [nilSl, nilSl]) (by simp [oa, ob]) rfl rfl (by simp)]; rfl
 have e4 : ald true 7 [some (.cells (opX x)), some (.cells [a, b])] (.ptr 0 0) = some (.agg (opX x)) := by
  rw [ald_ptr (cs := opX x) rfl]; rfl
 have e5 : anew [some (.cells (opX x)), some (.cells [a, b])] (.agg [I 0, I 0, I 0, I 0, B false, S ⟨#[]⟩, S ⟨#[]⟩, nilSl]) = some (.ptr 2 0, [some (.cells (opX x)), some (.cells [a, b]), some (.cells [I 0, I 0, I 0, I 0, B false, S ⟨#[]⟩, S ⟨#[]⟩, nilSl])]) := by simp
 have e6 : ast 8 [some (.cells (opX x)), some (.cells [a, b]), some (.cells [I 0, I 0, I 0, I 0, B false, S ⟨#[]⟩, S ⟨#[]⟩, nilSl])] (.ptr 2 0) (.agg (opA o bv)) = some [some (.cells (opX x)), some (.cells [a, b]), some (.cells (opA o bv))] := by
  rw [ast_ptr (n := 8) (xs := opA o bv) (cs := [I 0, I 0, I 0, I 0, B false, S ⟨#[]⟩, S ⟨#[]⟩, nilSl]) (by simp [opA, oc]) rfl rfl (by simp)]; rfl
 rw [e1, bH_some]
 refine bP_pure hp ?_
 rw [e2, bH_some, e3, bS_some, e4, bO_some]
 refine bP_pure ho ?_
 have k0 : (opA o bv)[0]? = some (I o.kind) := rfl
 rw [e5, bH_some, e6, bS_some]
 have d2 : ([some (.cells (opX x)), some (.cells [a, b]), some (.cells (opA o bv))] : AH)[2]? = some (some (.cells (opA o bv))) := rfl
 have d1 : ([some (.cells (opX x)), some (.cells [a, b]), some (.cells (opA o bv))] : AH)[1]? = some (some (.cells [a, b])) := rfl
 have hl : ([some (.cells (opX x)), some (.cells [a, b]), some (.cells (opA o bv))] : AH).length = 3 := rfl
 generalize ([some (.cells (opX x)), some (.cells [a, b]), some (.cells (opA o bv))] : AH) = H at d1 d2 hl
 simp only [zdnZ, bO_some, ald_ptr d2, zbcZ, Nat.zero_add, k0, abI_lss, bG_bool]
 by_cases hk : o.kind = 2 ∨ o.kind = 3 ∨ o.kind = 4 ∨ o.kind = 5
 ·have q1 : ¬ o.kind < 2 := by omega
  have q2 : ¬ 5 < o.kind := by omega
  have e7 : ald true 8 H (.ptr 2 0) = some (.agg (opA o bv)) := by rw [ald_ptr d2]; rfl
  simp only [q1, decide_false, beq_self_eq_true, gO_true, zdnZ, bO_some, ald_ptr d2, zbcZ, Nat.zero_add, k0, abI_gtr, q2, zcpZ, if_false, Bool.false_eq_true, bB_bool, zdlZ, ald_ptr d1, b2, e7]
  have eap : applyI ns ds o = (ns, chgD ds o) := by
   unfold applyI
   rw [if_pos (mayI_w.2 hw), if_neg (by omega), if_pos hk]
  obtain ⟨Rj, hj, pj⟩ := Apply_p (o := o) hI0 sm hbv (by have := few.1; omega) (by have := few.2.1; omega) (by have := few.2.2; omega)
  rw [eap] at hj
  have hw2 := hw.chg hk
  have sm2 : Sm ns (chgD ds o) := by
   have := ((img_fit l).step few).sm (by omega)
   rw [show (applyI (imN l) (imD l) o) = applyI ns ds o by rw [hns, hds], eap] at this
   exact this
  refine bP_pure pj ?_
  have hj0 := hj
  obtain ⟨c, d, ev, rfl, hc, hd, hev⟩ := hj
  have occ := SV.oneA hc
  have odd := SV.oneA hd
  have f1 : anew H (.agg [nilSl, nilSl]) = some (.ptr 3 0, H ++ [some (.cells [nilSl, nilSl])]) := by simp [hl]
  have f2 : ast 2 (H ++ [some (.cells [nilSl, nilSl])]) (.ptr 3 0) (.agg [c, d]) = some (H ++ [some (.cells [c, d])]) := by
   rw [ast_ptr (n := 2) (xs := [c, d]) (cs := [nilSl, nilSl]) (by simp [occ, odd]) (by rw [← hl]; simp) rfl (by simp)]
   rw [← hl]
   simp [splice]
  rw [f1, bH_some, f2, bS_some]
  have g := Grew.app H [some (.cells [c, d])]
  have d1' := g.cells d1
  have d2' := g.cells d2
  have d3' : (H ++ [some (AObj.cells [c, d])])[3]? = some (some (.cells [c, d])) := by rw [← hl]; simp
  generalize (H ++ [some (AObj.cells [c, d])]) = H2 at d1' d2' d3'
  have lev : ev.length = ds.length := by
   have := congrArg List.length hev
   rw [List.length_map, chgD_len] at this; exact this
  have ldv : dv.length = ds.length := by rw [← hdv, List.length_map]
  simp only [zdnZ, bO_some, ald_ptr d1', ald_ptr d3', zbcZ, Nat.zero_add, List.getElem?_cons_zero, List.getElem?_cons_succ, hc.len, ha.len, abI_neq, ne_eq, not_true_eq_false, decide_false, bG_bool, beq_self_eq_true, gO_true, hd.len, hb.len, lev, ldv, zcpZ, if_false, Bool.false_eq_true, bB_bool, zdlZ]
  refine zneZ (fun n x5 x6 x7 x8 H' => ∃ k : Nat, k + n = ns.length ∧ x5 = .ptr 1 0 ∧ x6 = .ptr 2 0 ∧ x7 = .ptr 3 0 ∧ x8 = I k ∧ H'[1]? = some (some (.cells [a, b])) ∧ H'[2]? = some (some (.cells (opA o bv))) ∧ H'[3]? = some (some (.cells [c, d]))) ?_ ns.length ⟨0, by omega, rfl, rfl, rfl, rfl, d1', d2', d3'⟩
  clear d1' d2' d3' H2 e7 d1 d2 hl g f1 f2 H
  rintro n x5 x6 x7 x8 H Rr hR ⟨k, hkn, rfl, rfl, rfl, rfl, d1, d2, d3⟩
  unfold zenZ
  rcases Nat.lt_or_ge k ns.length with h | h
  ·have hx := List.getElem?_eq_getElem h
   generalize ns[k] = y at hx
   have hy := List.mem_of_getElem? hx
   have kI : ((k : Int) < (ns.length : Int)) := by omega
   have ix := ha.idx (i := (k : Int)) zejZ hx rfl
   have n0 : (encN y ++ (ns.drop (k + 1)).flatMap encN)[0]? = some (S (bstr y.name)) := rfl
   have n1 : (encN y ++ (ns.drop (k + 1)).flatMap encN)[1]? = some (I y.ino) := rfl
   simp only [zdnZ, bO_some, ald_ptr d1, ald_ptr d3, zbcZ, Nat.zero_add, List.getElem?_cons_zero, ha.len, abI_lss, bB_bool, kI, decide_true, bI_true, b2, ix, ashift_ip, ald_ip, List.drop_zero, n0]
   obtain ⟨w1, w2⟩ := findI_w hw2 y.name
   have hasy : hasK Nm.name ns y.name := ⟨y, hy, rfl⟩
   have hfind := Find_p hj0 sm2 y.name
   have w3 : hasI ns (chgD ds o) y.name := w2.2 hasy
   rw [w1, nameI_mem hw.srt hy, decide_eq_true w3] at hfind
   refine bP_of hfind ?_
   have n1' : (List.drop 1 (encN y ++ (ns.drop (k + 1)).flatMap encN))[0]? = some (I y.ino) := rfl
   simp only [zdtZ, List.getElem?_cons_zero, List.getElem?_cons_succ, bO_some, ix, ashift_ip, ald_ip, zbcZ, n1', ald_ptr d1, b2, zdnZ, Nat.zero_add]
   obtain ⟨dd, hdd, e⟩ := (hw.ino y.ino).2 ⟨y, hy, rfl⟩
   obtain ⟨dd2, hdd2, e'⟩ := (hw2.ino y.ino).2 ⟨y, hy, rfl⟩
   obtain ⟨Ra, sa, pa⟩ := Get_p hI0 sm y.ino
   obtain ⟨Rb, sb, pb⟩ := Get_p hj0 sm2 y.ino
   have ga := getN_w hw hdd
   have gb := getN_w hw2 hdd2
   rw [e] at ga
   rw [e'] at gb
   rw [ga.1, decide_eq_true ga.2] at pa
   rw [ga.1] at sa
   rw [gb.1, decide_eq_true gb.2] at pb
   rw [gb.1] at sb
   refine bP_of pa ?_
   have o1 := SV.oneA sa
   have o2 := SV.oneA sb
   have nw : ∀ (H : AH), anew H (.agg [(.lit (.int .i64 0)), (.lit (.slice none 0 0))]) = some (.ptr H.length 0, H ++ [some (.cells [I 0, nilSl])]) := fun H => by simp
   have st : ∀ (H : AH) (s : Int) (R : AV), oneA R = true → ast 2 (H ++ [some (.cells [I 0, nilSl])]) (.ptr H.length 0) (.agg [I s, R]) = some (H ++ [some (.cells [I s, R])]) := fun H s R hR => by
    rw [ast_ptr (n := 2) (xs := [I s, R]) (cs := [I 0, nilSl]) (by simp [hR]) (by simp) rfl (by simp)]
    simp [splice]
   have gz := Grew.app H [some (.cells [I 0, nilSl])]
   have g1 := Grew.app H [some (.cells [I dd.size, Ra])]
   have l1 : (H ++ [some (AObj.cells [I dd.size, Ra])])[H.length]? = some (some (.cells [I dd.size, Ra])) := by simp
   simp only [zdtZ, List.getElem?_cons_zero, List.getElem?_cons_succ, bO_some, nw, bH_some, st _ _ _ o1, bS_some, ald_ptr (gz.cells d1), b2, zbcZ, true_and, ald_ip, n1', ald_ptr (g1.cells d1), ald_ptr (g1.cells d3), ix, ashift_ip, zdnZ, Nat.zero_add]
   have c1 := g1.cells d1
   have c2 := g1.cells d2
   have c3 := g1.cells d3
   generalize (H ++ [some (AObj.cells [I dd.size, Ra])]) = H1 at c1 c2 c3 l1
   refine bP_of pb ?_
   have g2z := Grew.app H1 [some (.cells [I 0, nilSl])]
   have g2 := Grew.app H1 [some (.cells [I dd2.size, Rb])]
   have l2 : (H1 ++ [some (AObj.cells [I dd2.size, Rb])])[H1.length]? = some (some (.cells [I dd2.size, Rb])) := by simp
   simp only [zdtZ, List.getElem?_cons_zero, List.getElem?_cons_succ, bO_some, nw, bH_some, st _ _ _ o2, bS_some, ald_ptr (g2z.cells c1), ald_ptr (g2z.cells c3), b2, zbcZ, true_and, ald_ip, n1', ix, ashift_ip, zdnZ, Nat.zero_add]
   have e1 := g2.cells c1
   have e2 := g2.cells c2
   have e3 := g2.cells c3
   have l1' := g2.cells l1
   generalize (H1 ++ [some (AObj.cells [I dd2.size, Rb])]) = H3 at e1 e2 e3 l1' l2
   have kino : (opA o bv)[1]? = some (I o.ino) := rfl
   have hnl : ns.length ≤ 16 := hw.len
   simp only [aun_not, Bool.not_true, bG_bool, beq_self_eq_true, gO_true, bO_some, zdnZ, Nat.zero_add, ald_ptr e1, zbcZ, List.getElem?_cons_zero, ix, ashift_ip, ald_ip, n1', abI_neq, ne_eq, not_true_eq_false, decide_false, zcpZ, if_false, Bool.false_eq_true, ald_ptr e2, kino]
   by_cases ci : y.ino = o.ino
   ·simp only [ci, not_true_eq_false, decide_false, bG_bool, show ((false == true) = false) from rfl, gO_false, gP_false, bO_some, zcpZ, if_false, Bool.false_eq_true, bB_bool, zdlZ, abI_add (a := k) (b := 1) (by omega) (by omega)]
    exact hR (n - 1) _ _ _ _ _ (by omega) ⟨k + 1, by omega, rfl, rfl, rfl, by simp, e1, e2, e3⟩
   ·have esame : dd2 = dd := by
     have : dd2 ∈ ds := (mem_chgD_ne hw.sd (by rw [e']; exact ci)).1 hdd2
     exact srtK_uniq koI hw.sd this hdd (by rw [e, e'])
    subst esame
    simp only [ci, not_false_eq_true, decide_true, bG_bool, beq_self_eq_true, gO_true, bO_some, ald_ptr l1', ald_ptr l2, b2, gP_true]
    refine bP_pure (extent_Same_p sa sb (sm2.2.2.2 dd2 hdd2 |> fun h => by omega)) ?_
    have es : sameC dd2.size dd2.l dd2.size dd2.l := ⟨rfl, rfl⟩
    simp only [decide_eq_true es, aun_not, Bool.not_true, bG_bool, beq_self_eq_true, gO_true, bO_some, zcpZ, if_true, if_false, Bool.false_eq_true, bB_bool, zdlZ, abI_add (a := k) (b := 1) (by omega) (by omega)]
    exact hR (n - 1) _ _ _ _ _ (by omega) ⟨k + 1, by omega, rfl, rfl, rfl, by simp, e1, e2, e3⟩
  ·have kI : ¬ ((k : Int) < (ns.length : Int)) := by omega
   simp only [zdnZ, bO_some, ald_ptr d1, zbcZ, Nat.zero_add, List.getElem?_cons_zero, ha.len, abI_lss, bB_bool, kI, decide_false, zdlZ]
   exact bP_pure zreZ rfl
 ·by_cases q1 : o.kind < 2
  ·simp only [q1, decide_true, show ((true == false) = false) from rfl, gO_false, bO_some, zcpZ, if_true, bB_bool, bI_true]
   exact bP_pure zreZ rfl
  ·have q2 : 5 < o.kind := by omega
   simp only [q1, decide_false, beq_self_eq_true, gO_true, zdnZ, bO_some, ald_ptr d2, zbcZ, Nat.zero_add, k0, abI_gtr, q2, decide_true, zcpZ, if_false, Bool.false_eq_true, bB_bool, bI_true]
   exact bP_pure zreZ rfl
theorem imageFrame_calls (x0 : Sl XR) (h0 : imageFrame_r0.ok x0) (x1 : XOp) (h1 : imageFrame_r1.ok x1) : ACalls Try.prog 7 (imageFrame_r0.enc x0 ++ [.agg (imageFrame_r1.enc x1)]) [] fun r _ => r = .lit (.bool true) := by
 obtain ⟨xs, hx⟩ := rows_sv x0 h0.1 (fun y hy => by
  have h := h0.2.2 y hy
  exact ⟨h.2.1, h.2.2.1.1⟩)
 obtain ⟨o, ho⟩ := xop_ex x1 ⟨h1.2.2.2.2.1, h1.2.2.2.2.2.1⟩
 have := imageFrame_walk hx o
 rw [ho] at this
 exact this
end Go.Proofs.Ytpnfdibgfichmaa.Av
namespace Go.Proofs.Ytpnfdibgfichmaa
theorem imageFrame_holds : Rows.ImageFrameSaid := imageFrame_of Av.imageFrame_calls
#print axioms imageFrame_holds
end Go.Proofs.Ytpnfdibgfichmaa
end
