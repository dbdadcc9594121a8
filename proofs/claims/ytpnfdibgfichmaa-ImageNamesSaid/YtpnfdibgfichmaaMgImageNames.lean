/- The law and its row. No condition. -/
import Derived.Test.YtpnfdibgfichmaaMgH
import Derived.Below
import Derived.Carry
import Derived.ChangeOld
import Derived.OpenShut
import Derived.ProofKit
import Derived.ShutString
import Derived.SizedLaws
import Derived.Test.YtpnfdibgfichmaaRows
import Derived.WalkKit
/-! YtpnfdibgfichmaaLImageNames -/
section
/- The row of the law ImageNames, out of what a call of it comes to. No condition. Printed by a program of this session. -/
set_option linter.unusedVariables false
namespace Go.Proofs.Ytpnfdibgfichmaa.Av
open Go Go.RowKit
noncomputable def imageNames_r0 : Rd Try.prog 45 (Sl (UInt8 × (Int × ((Sl (UInt8 × (UInt8 × Unit))) × Unit)))) := (Rd.slice (Rd.struct (Rds.cons (Rd.byte Try.underlying5 (by kernel_rfl)) (Rds.cons (Rd.int .u16 Try.underlying49 (by kernel_rfl)) (Rds.cons (Rd.slice (Rd.struct (Rds.cons (Rd.byte Try.underlying5 (by kernel_rfl)) (Rds.cons (Rd.byte Try.underlying5 (by kernel_rfl)) (Rds.nil _ _) rfl rfl) rfl rfl) Try.underlying112 (by kernel_rfl)) Try.underlying78 (by kernel_rfl)) (Rds.nil _ _) rfl rfl) rfl rfl) rfl rfl) Try.underlying80 (by kernel_rfl)) Try.underlying45 (by kernel_rfl))
noncomputable def imageNames_r1 : Rd Try.prog 5 UInt8 := (Rd.byte Try.underlying5 (by kernel_rfl))
noncomputable def imageNames_r2 : Rd Try.prog 5 UInt8 := (Rd.byte Try.underlying5 (by kernel_rfl))
end Go.Proofs.Ytpnfdibgfichmaa.Av
namespace Go.Proofs.Ytpnfdibgfichmaa
open Go.ChangeShapes Go.WideShapes Go.ChangeAt Go.RowKit
namespace imageNames
set_option maxRecDepth 100000 in
theorem lifted (calls : ∀ (x0 : (Av.Sl (UInt8 × (Int × ((Av.Sl (UInt8 × (UInt8 × Unit))) × Unit))))), Av.imageNames_r0.ok x0 → ∀ (x1 : UInt8), Av.imageNames_r1.ok x1 → ∀ (x2 : UInt8), Av.imageNames_r2.ok x2 → Av.ACalls Try.prog 9 (Av.imageNames_r0.enc x0 ++ Av.imageNames_r1.enc x1 ++ Av.imageNames_r2.enc x2) [] fun r _ => r = .lit (.bool true)) (os : Os) (started : os.Started) (H : Type) (enc : TypeId × Value → H) :
  ReturnsInHanded {} Try.checked os 9 .any (Rows.imageNamesSpec.pre6 enc Try.prog Try.f9 Rows.imageNamesRow.domain false) (Rows.imageNamesSpec.post enc Try.prog Try.f9 false true false false) := by
 refine returnsInHanded_of_change_sized (C := Try.checked) Av.own started (by kernel_rfl) Try.func9
  (ChangeSpec.witness6 (enc := enc) (C := Try.checked) false ⟨#[], #[.slice none 0 0, .int .u8 0, .int .u8 0], []⟩ 8 (by kernel_rfl) (by kernel_rfl) (by kernel_rfl) (by kernel_rfl)) ?_
 intro W base args ds gs before hval0 hW hcnd hsz0 _
 have hval : ∀ (j : Nat) t v, Try.f9.params[j]? = some t → args[j]? = some v → Value.okWide Try.prog W .any base t v := hval0
 have hW' := hW
 obtain ⟨p, q, hA0, hV, rfl, hfz, hnd⟩ := hW
 have hA : DataW.TrodAll enc Try.prog W 0 (fun _ => true) true Try.f9.params.toList args.toList ds p := hA0
 rw [Try.params9] at hA hval
 obtain ⟨v0, vs0, d0, ds0, p0, q0, hargs, rfl, rfl, h0, r0⟩ := trodAll_cons hA
 obtain ⟨v1, vs1, d1, ds1, p1, q1, rfl, rfl, rfl, h1, r1⟩ := trodAll_cons r0
 obtain ⟨v2, vs2, d2, ds2, p2, q2, rfl, rfl, rfl, h2, r2⟩ := trodAll_cons r1
 obtain ⟨rfl, rfl, rfl⟩ := trodAll_nil r2
 obtain rfl : args = #[v0, v1, v2] := by cases args; simp_all
 obtain ⟨rfl, rfl⟩ := trodVars_none hV
 obtain ⟨b0, len0, cap0, rfl⟩ := okWide_slice Try.underlying45 (hval 0 45 v0 rfl rfl)
 have lt0 : ∀ x ∈ p0, x.block < W.heap.size := by obtain ⟨m, hm⟩ := h0; exact DataW.trod_lt m _ _ _ hm
 obtain ⟨x0, ok0, vr0⟩ := Av.imageNames_r0.arg1 rfl h0
 obtain ⟨b1, rfl⟩ := okWide_int Try.underlying5 (hval 1 5 v1 rfl rfl)
 have lt1 : ∀ x ∈ p1, x.block < W.heap.size := by obtain ⟨m, hm⟩ := h1; exact DataW.trod_lt m _ _ _ hm
 obtain ⟨x1, ok1, vr1⟩ := Av.imageNames_r1.arg1 rfl h1
 obtain ⟨b2, rfl⟩ := okWide_int Try.underlying5 (hval 2 5 v2 rfl rfl)
 have lt2 : ∀ x ∈ p2, x.block < W.heap.size := by obtain ⟨m, hm⟩ := h2; exact DataW.trod_lt m _ _ _ hm
 obtain ⟨x2, ok2, vr2⟩ := Av.imageNames_r2.arg1 rfl h2
 refine (Av.law_calls (calls x0 ok0 x1 ok1 x2 ok2) W ((vr0.append vr1).append vr2)).mono fun e W' ⟨he, bel⟩ => ?_
 subst he
 exact ⟨_, rfl, _, _, _, [], _, [], hW', trodAll_mk1 (shut_bool Try.underlying4 _), (trodAll_cons_mk (Below.trod Av.laidOut (by kernel_rfl) (of_decide_eq_true (by kernel_rfl)) h0 bel lt0) (trodAll_cons_mk (Below.trod Av.laidOut (by kernel_rfl) (of_decide_eq_true (by kernel_rfl)) h1 bel lt1) (trodAll_cons_mk (Below.trod Av.laidOut (by kernel_rfl) (of_decide_eq_true (by kernel_rfl)) h2 bel lt2) trodAll_mk0))), rfl, bel.frame _, fun h => by cases h⟩
end imageNames
theorem imageNames_of (calls : ∀ (x0 : (Av.Sl (UInt8 × (Int × ((Av.Sl (UInt8 × (UInt8 × Unit))) × Unit))))), Av.imageNames_r0.ok x0 → ∀ (x1 : UInt8), Av.imageNames_r1.ok x1 → ∀ (x2 : UInt8), Av.imageNames_r2.ok x2 → Av.ACalls Try.prog 9 (Av.imageNames_r0.enc x0 ++ Av.imageNames_r1.enc x1 ++ Av.imageNames_r2.enc x2) [] fun r _ => r = .lit (.bool true)) : Rows.ImageNamesSaid :=
 OpenClaim.holds_of_wide 9 Try.f9 rfl rfl rfl rfl rfl rfl rfl ⟨rfl, rfl, rfl, rfl, rfl⟩ rfl rfl rfl rfl rfl (by kernel_rfl) Try.func9 (by kernel_rfl)
  (of_decide_eq_true (by kernel_rfl)) (by unfold Func.isWrapper; first | (rw [if_pos (by decide +kernel)]; kernel_rfl) | (rw [if_neg (by decide +kernel)]; exact ⟨rfl, rfl⟩))
  (fun os started H enc _ => imageNames.lifted calls os started H enc)
end Go.Proofs.Ytpnfdibgfichmaa
end
/-! YtpnfdibgfichmaaAvImageNames -/
section
/- The law ImageNames: a file that is called otherwise has what it had; who was called so is gone; one that is made is empty, one that is removed is gone, with its blocks. No condition. -/
set_option linter.unusedVariables false
set_option linter.unusedSimpArgs false
set_option maxRecDepth 100000
set_option maxHeartbeats 2000000
namespace Go.Proofs.Ytpnfdibgfichmaa.Av
open Go Go.RowKit

theorem b2' (x y : AV) : rdCells true 2 [x, y] 0 = some (.agg [x, y]) := rfl
theorem nw2 (H : AH) : anew H (.agg [(.lit (.int .i64 0)), (.lit (.slice none 0 0))]) = some (.ptr H.length 0, H ++ [some (.cells [I 0, nilSl])]) := by simp
theorem st2 (H : AH) (s : Int) {R : AV} (hR : oneA R = true) : ast 2 (H ++ [some (.cells [I 0, nilSl])]) (.ptr H.length 0) (.agg [I s, R]) = some (H ++ [some (.cells [I s, R])]) := by
 rw [ast_ptr (n := 2) (xs := [I s, R]) (cs := [I 0, nilSl]) (by simp [hR]) (by simp) rfl (by simp)]
 simp [splice]
theorem nwI (H : AH) : anew H (.agg [(.lit (.slice none 0 0)), (.lit (.slice none 0 0))]) = some (.ptr H.length 0, H ++ [some (.cells [nilSl, nilSl])]) := by simp
theorem stI (H : AH) {a b : AV} (ha : oneA a = true) (hb : oneA b = true) : ast 2 (H ++ [some (.cells [nilSl, nilSl])]) (.ptr H.length 0) (.agg [a, b]) = some (H ++ [some (.cells [a, b])]) := by
 rw [ast_ptr (n := 2) (xs := [a, b]) (cs := [nilSl, nilSl]) (by simp [ha, hb]) (by simp) rfl (by simp)]
 simp [splice]
theorem top {H : AH} {x : AObj} : (H ++ [some x])[H.length]? = some (some x) := by simp
theorem names_J8 {ns : List Nm} {ds : List Nd} {a b Rc : AV} {s : List UInt8} {H : AH} {K : AV → AH → Prop} (hI : ImV ns ds (.agg [a, b])) (hw : MayW ns ds) (hf : Fit 0 ns ds) (hs : mayN s) (hl : ns.length < 16) (h77 : ¬ hasK Nd.ino ds 77)
  (c0 : H[0]? = some (some (.cells [a, b]))) (c1 : H[1]? = some (some (.cells [I (getN ns ds (nameI ns s)).size, Rc]))) (sc : SV encE 9 (getN ns ds (nameI ns s)).l Rc) (hK : ∀ X, K (B true) X) :
  zcjZ (.ptr 0 0) (S (bstr s)) (.ptr 1 0) H K := by
 rw [zpoZ]; unfold zhyZ
 obtain ⟨g1, g2, g3, g4, g5⟩ := remcre_facts hw hs hl h77
 have sm0 := hf.sm (by omega)
 have e1 : abl [(.lit (.int .i64 0)), (.lit (.int .i64 0)), (.lit (.int .i64 0)), (.lit (.int .i64 0)), (.lit (.bool false)), (.lit (.string ⟨#[]⟩)), (.lit (.string ⟨#[]⟩)), (.lit (.slice none 0 0))] [(0, 1, (.lit (.int .i64 7))), (5, 1, S (bstr s))] = some (.agg (encO ⟨remO s, nilSl, SV.nil⟩)) := rfl
 have e2 : abl [(.lit (.int .i64 0)), (.lit (.int .i64 0)), (.lit (.int .i64 0)), (.lit (.int .i64 0)), (.lit (.bool false)), (.lit (.string ⟨#[]⟩)), (.lit (.string ⟨#[]⟩)), (.lit (.slice none 0 0))] [(0, 1, (.lit (.int .i64 1))), (5, 1, S (bstr s)), (1, 1, (.lit (.int .i64 77)))] = some (.agg (encO ⟨creO s 77, nilSl, SV.nil⟩)) := rfl
 have e3 : absl H 8 2 (zrow [(.lit (.int .i64 0)), (.lit (.int .i64 0)), (.lit (.int .i64 0)), (.lit (.int .i64 0)), (.lit (.bool false)), (.lit (.string ⟨#[]⟩)), (.lit (.string ⟨#[]⟩)), (.lit (.slice none 0 0))] 2) [(0, 8, .agg (encO ⟨remO s, nilSl, SV.nil⟩)), (8, 8, .agg (encO ⟨creO s 77, nilSl, SV.nil⟩))] = some (.sl H.length 0 2 8 (.ex 2), H ++ [some (.cells (encO ⟨remO s, nilSl, SV.nil⟩ ++ encO ⟨creO s 77, nilSl, SV.nil⟩))]) := rfl
 have g := Grew.app H [some (.cells (encO ⟨remO s, nilSl, SV.nil⟩ ++ encO ⟨creO s 77, nilSl, SV.nil⟩))]
 have hls : s.length ≤ 20 := hs.2.1
 have hsl : zaZ (H ++ [some (.cells (encO ⟨remO s, nilSl, SV.nil⟩ ++ encO ⟨creO s 77, nilSl, SV.nil⟩))]) 8 (.sl H.length 0 2 8 (.ex 2)) = some (([⟨remO s, nilSl, SV.nil⟩, ⟨creO s 77, nilSl, SV.nil⟩] : List OpV).flatMap encO, ([⟨remO s, nilSl, SV.nil⟩, ⟨creO s 77, nilSl, SV.nil⟩] : List OpV).length) := by
  rw [zxZ (c := encO ⟨remO s, nilSl, SV.nil⟩ ++ encO ⟨creO s 77, nilSl, SV.nil⟩) top (by simp [encO, opA])]
  rfl
 obtain ⟨r, H2, ⟨hr, hg⟩, hc⟩ := All_c hI hf hsl (by simp) (by
  intro y hy
  simp only [List.mem_cons, List.not_mem_nil, or_false] at hy
  rcases hy with rfl | rfl
  ·exact ⟨by show ([] : List UInt8).length ≤ 200; simp, by show s.length ≤ 100; omega, by show ([] : List UInt8).length ≤ 100; simp⟩
  ·exact ⟨by show ([] : List UInt8).length ≤ 200; simp, by show s.length ≤ 100; omega, by show ([] : List UInt8).length ≤ 100; simp⟩)
 have hr0 : ImV (allI ns ds [remO s, creO s 77]).1 (allI ns ds [remO s, creO s 77]).2 r := hr
 have smx : Sm (allI ns ds [remO s, creO s 77]).1 (allI ns ds [remO s, creO s 77]).2 := by
  have f1 : OpFew (remO s) := ⟨by show ([] : List UInt8).length ≤ 200; simp, by show s.length ≤ 100; omega, by show ([] : List UInt8).length ≤ 100; simp⟩
  have f2 : OpFew (creO s 77) := ⟨by show ([] : List UInt8).length ≤ 200; simp, by show s.length ≤ 100; omega, by show ([] : List UInt8).length ≤ 100; simp⟩
  exact ((hf.step f1).step f2).sm (by omega)
 generalize allI ns ds [remO s, creO s 77] = p at *
 have hrI := hr0
 obtain ⟨c, d, ev, rfl, hcN, hd, hev⟩ := hr0
 have oc := SV.oneA hcN
 have od := SV.oneA hd
 have k1 := hg.cells (g.cells c1)
 have k0 := hg.cells (g.cells c0)
 simp only [ald_ptr c0, b2', bO_some, e1, e2, e3, bH_some]
 refine bC_of hc ?_
 simp only [nwI, bH_some, stI _ oc od, bS_some]
 have tp : (H2 ++ [some (AObj.cells [c, d])])[H2.length]? = some (some (.cells [c, d])) := top
 have gg := Grew.app H2 [some (AObj.cells [c, d])]
 have k1' := gg.cells k1
 have k0' := gg.cells k0
 generalize hq : H2.length = q at tp
 generalize H2 ++ [some (AObj.cells [c, d])] = H3 at tp k1' k0'
 rw [zpiZ]; unfold zhkZ
 simp only [ald_ptr tp, b2', bO_some]
 obtain ⟨w1, w2⟩ := findI_w g1 s
 have hfind := Find_p hrI smx s
 rw [w1, g3, decide_eq_true (w2.2 g2)] at hfind
 refine bP_pure hfind ?_
 simp only [zdtZ, List.getElem?_cons_zero, List.getElem?_cons_succ, bO_some]
 rw [zphZ]; unfold zhmZ
 obtain ⟨Re, se, pe⟩ := Get_p hrI smx 77
 have ge := getN_w g1 g4
 have ge1 : getN p.1 p.2 77 = ⟨77, 0, []⟩ := ge.1
 have ge2 : hasG p.1 p.2 77 := ge.2
 rw [ge1, decide_eq_true ge2] at pe
 rw [ge1] at se
 have oe := SV.oneA se
 simp only [ald_ptr tp, b2', bO_some]
 refine bP_pure pe ?_
 simp only [zdtZ, List.getElem?_cons_zero, List.getElem?_cons_succ, bO_some, nw2, bH_some, st2 _ _ oe, bS_some]
 have g3' := Grew.app H3 [some (AObj.cells [I 0, Re])]
 have te : (H3 ++ [some (AObj.cells [I 0, Re])])[H3.length]? = some (some (.cells [I 0, Re])) := top
 have tp' := g3'.cells tp
 have k1'' := g3'.cells k1'
 have k0'' := g3'.cells k0'
 generalize hq3 : H3.length = q3 at te
 generalize H3 ++ [some (AObj.cells [I 0, Re])] = H4 at te tp' k1'' k0''
 rw [zooZ]; unfold zhjZ
 have u1 := Used_p hrI smx
 have u0 := Used_p hI sm0
 rw [usedI_w g1] at u1
 rw [usedI_w hw] at u0
 have hel : alnS Re = some (I 0) := se.len
 have bnd : sumL ds ≤ 100000000000 := by
  have := sumL_take sm0.2.2.2 sm0.2.1 ds.length
  rwa [List.take_length] at this
 have esub : abI .sub (I (sumL ds : Int)) (I ((getN ns ds (nameI ns s)).l.length : Int)) = some (I (sumL p.2 : Int)) := by
  rw [abI_sub (by omega) (by omega)]
  congr 3
  omega
 simp only [bG_bool, beq_self_eq_true, gO_true, bO_some, abI_eql, decide_true, zcpZ, if_true, zdnZ, Nat.zero_add, ald_ptr te, zbcZ, List.getElem?_cons_zero, List.getElem?_cons_succ, hel, ald_ptr tp', b2', gP_true]
 refine bP_of u1 ?_
 simp only [ald_ptr k0'', b2', bO_some, bG_bool, beq_self_eq_true, gO_true, gP_true]
 refine bP_of u0 ?_
 simp only [zdnZ, Nat.zero_add, ald_ptr k1'', zbcZ, List.getElem?_cons_zero, List.getElem?_cons_succ, bO_some, sc.len, esub, abI_eql, decide_true, zcpZ, if_true, bG_bool, beq_self_eq_true, gO_true, gP_true]
 refine bP_of zreZ ?_
 exact hK _
theorem imageNames_walk {l : List IxV} {v : AV} (hv : SV encX 3 l v) (x y : UInt8) : ACalls Try.prog 9 [v, .lit (.int .u8 x.toNat), .lit (.int .u8 y.toNat)] [] fun r _ => r = .lit (.bool true) := by
 refine law_of (zsrZ ?_)
 unfold zhrZ
 have hw := img_w l
 have hI := img_v l
 have hf := img_fit l
 obtain ⟨hl6, hino⟩ := img_ino l
 have hp := ImageOf_p hv
 have h77 : ¬ hasK Nd.ino (imD l) 77 := fun hh => by have := hino _ hh; omega
 generalize imgR l = R at hp hI
 generalize imN l = ns at hw hI hf hl6
 generalize imD l = ds at hw hI hf h77
 clear hino
 have sm := hf.sm (by omega)
 have hs := rightK_may x
 have ht := rightK_may y
 have rx := Right_p x
 have ry := Right_p y
 generalize rightK x = s at hs rx
 generalize rightK y = t at ht ry
 have hls : s.length ≤ 20 := hs.2.1
 have hlt : t.length ≤ 20 := ht.2.1
 have hI0 := hI
 obtain ⟨a, b, dv, rfl, ha, hb, hdv⟩ := hI
 have oa := SV.oneA ha
 have ob := SV.oneA hb
 obtain ⟨w1, w2⟩ := findI_w hw s
 obtain ⟨w3, w4⟩ := findI_w hw t
 have fs := Find_p hI0 sm s
 have ft := Find_p hI0 sm t
 rw [w1, show decide (hasI ns ds s) = decide (hasK Nm.name ns s) from decide_eq_decide.2 w2] at fs
 rw [w3, show decide (hasI ns ds t) = decide (hasK Nm.name ns t) from decide_eq_decide.2 w4] at ft
 obtain ⟨Rc, sc, pc⟩ := Get_p hI0 sm (nameI ns s)
 obtain ⟨Rw, sw, pw⟩ := Get_p hI0 sm (nameI ns t)
 have oc := SV.oneA sc
 have ow := SV.oneA sw
 have fewR : OpFew (renO s t) := ⟨by show ([] : List UInt8).length ≤ 200; simp, by show s.length ≤ 100; omega, by show t.length ≤ 100; omega⟩
 obtain ⟨Rj, hj, pj⟩ := Apply_p (o := renO s t) (bv := nilSl) hI0 sm SV.nil (by show ([] : List UInt8).length ≤ _; simp) (by show s.length ≤ _; omega) (by show t.length ≤ _; omega)
 have smj := (hf.step fewR).sm (by omega)
 have hj0 := hj
 obtain ⟨c, d, ev, rfl, hc, hd, hev⟩ := hj
 have occ := SV.oneA hc
 have odd := SV.oneA hd
 refine bP_pure hp ?_
 have i1 : anew [] (.agg [(.lit (.slice none 0 0)), (.lit (.slice none 0 0))]) = some (.ptr 0 0, [some (.cells [nilSl, nilSl])]) := rfl
 have i2 : ast 2 [some (.cells [nilSl, nilSl])] (.ptr 0 0) (.agg [a, b]) = some [some (.cells [a, b])] := by
  rw [ast_ptr (n := 2) (xs := [a, b]) (cs := [nilSl, nilSl]) (by simp [oa, ob]) rfl rfl (by simp)]; rfl
 rw [i1, bH_some, i2, bS_some]
 refine bP_pure rx (bP_pure ry ?_)
 have k0 : ([some (.cells [a, b])] : AH)[0]? = some (some (.cells [a, b])) := rfl
 have i3 : anew [some (.cells [a, b])] (.agg [(.lit (.int .i64 0)), (.lit (.slice none 0 0))]) = some (.ptr 1 0, [some (.cells [a, b]), some (.cells [I 0, nilSl])]) := rfl
 have i4 : ast 2 [some (.cells [a, b]), some (.cells [I 0, nilSl])] (.ptr 1 0) (.agg [I (getN ns ds (nameI ns s)).size, Rc]) = some [some (.cells [a, b]), some (.cells [I (getN ns ds (nameI ns s)).size, Rc])] := by
  rw [ast_ptr (n := 2) (xs := [I (getN ns ds (nameI ns s)).size, Rc]) (cs := [I 0, nilSl]) (by simp [oc]) rfl rfl (by simp)]; rfl
 simp only [ald_ptr k0, b2', bO_some]
 refine bP_pure fs ?_
 simp only [zdtZ, List.getElem?_cons_zero, List.getElem?_cons_succ, bO_some, ald_ptr k0, b2']
 refine bP_pure pc ?_
 simp only [zdtZ, List.getElem?_cons_zero, List.getElem?_cons_succ, bO_some, i3, bH_some, i4, bS_some]
 have k0 : ([some (.cells [a, b]), some (.cells [I (getN ns ds (nameI ns s)).size, Rc])] : AH)[0]? = some (some (.cells [a, b])) := rfl
 have k1 : ([some (.cells [a, b]), some (.cells [I (getN ns ds (nameI ns s)).size, Rc])] : AH)[1]? = some (some (.cells [I (getN ns ds (nameI ns s)).size, Rc])) := rfl
 have kl : ([some (.cells [a, b]), some (.cells [I (getN ns ds (nameI ns s)).size, Rc])] : AH).length = 2 := rfl
 generalize ([some (.cells [a, b]), some (.cells [I (getN ns ds (nameI ns s)).size, Rc])] : AH) = H at k0 k1 kl
 simp only [ald_ptr k0, b2', bO_some]
 refine bP_pure ft ?_
 simp only [zdtZ, List.getElem?_cons_zero, List.getElem?_cons_succ, bO_some, ald_ptr k0, b2']
 refine bP_pure pw ?_
 have stw := st2 H (getN ns ds (nameI ns t)).size ow
 rw [kl] at stw
 simp only [zdtZ, List.getElem?_cons_zero, List.getElem?_cons_succ, bO_some, nw2, bH_some, kl, stw, bS_some]
 have g1 := Grew.app H [some (AObj.cells [I (getN ns ds (nameI ns t)).size, Rw])]
 have k0' := g1.cells k0
 have k1' := g1.cells k1
 have k2' : (H ++ [some (AObj.cells [I (getN ns ds (nameI ns t)).size, Rw])])[2]? = some (some (.cells [I (getN ns ds (nameI ns t)).size, Rw])) := by rw [← kl]; exact top
 have kl' : (H ++ [some (AObj.cells [I (getN ns ds (nameI ns t)).size, Rw])]).length = 3 := by simp [kl]
 generalize H ++ [some (AObj.cells [I (getN ns ds (nameI ns t)).size, Rw])] = H1 at k0' k1' k2' kl'
 have i5 : abl [(.lit (.int .i64 0)), (.lit (.int .i64 0)), (.lit (.int .i64 0)), (.lit (.int .i64 0)), (.lit (.bool false)), (.lit (.string ⟨#[]⟩)), (.lit (.string ⟨#[]⟩)), (.lit (.slice none 0 0))] [(0, 1, (.lit (.int .i64 6))), (5, 1, S (bstr s)), (6, 1, S (bstr t))] = some (.agg (opA (renO s t) nilSl)) := rfl
 simp only [ald_ptr k0', b2', bO_some, i5]
 refine bP_pure pj ?_
 have stj := stI H1 occ odd
 rw [kl'] at stj
 simp only [nwI, bH_some, kl', stj, bS_some]
 have g2 := Grew.app H1 [some (AObj.cells [c, d])]
 have m0 := g2.cells k0'
 have m1 := g2.cells k1'
 have m2 := g2.cells k2'
 have m3 : (H1 ++ [some (AObj.cells [c, d])])[3]? = some (some (.cells [c, d])) := by rw [← kl']; exact top
 generalize H1 ++ [some (AObj.cells [c, d])] = H2 at m0 m1 m2 m3
 have same : ¬ (hasK Nm.name ns s ∧ s ≠ t) → bO (ald true 2 H2 (.ptr 0 0)) (fun v43 => bO (ald true 2 H2 (.ptr 3 0)) fun v44 => bP (PCall Try.prog 31 [v43, v44] H2) fun v45 => bO (aun .not v45) fun v46 => bB v46 fun t47 => bI t47 (B false = .lit (.bool true)) (zcjZ (.ptr 0 0) (S (bstr s)) (.ptr 1 0) H2 fun r _ => r = .lit (.bool true))) := by
  intro hn
  have eap := renI_same hw hn
  rw [eap] at hj0
  simp only [ald_ptr m0, ald_ptr m3, b2', bO_some]
  refine bP_pure (Same_p hI0 hj0 sm) ?_
  have hsame : sameI ns ds ns ds := ⟨rfl, rfl⟩
  simp only [decide_eq_true hsame, aun_not, Bool.not_true, bO_some, bB_bool, zdlZ]
  exact names_J8 hI0 hw hf hs (by omega) h77 m0 m1 sc (fun _ => rfl)
 by_cases hk : hasK Nm.name ns s
 ·have eT : abT .eql (S (bstr s)) (S (bstr t)) = some (B (decide (s = t))) := abT_eql
  simp only [hk, decide_true, aun_not, Bool.not_true, bO_some, bG_bool, beq_self_eq_true, gO_true, eT, zcpZ, if_false, Bool.false_eq_true, bB_bool]
  by_cases he : s = t
  ·simp only [he, decide_true, bI_true]
   have := same (fun hh => hh.2 he)
   rw [he] at this
   exact this
  ·simp only [he, decide_false, zdlZ]
   obtain ⟨r1, r2, r3, r4, ⟨dn, r5, r6, r7⟩, r8, r9⟩ := ren_facts hw hk he ht
   generalize applyI ns ds (renO s t) = p at *
   obtain ⟨w5, w6⟩ := findI_w r1 t
   obtain ⟨w7, w8⟩ := findI_w r1 s
   have fjt := Find_p hj0 smj t
   have fjs := Find_p hj0 smj s
   rw [w5, r3, decide_eq_true (w6.2 r2)] at fjt
   rw [w7, nameI_no r4, decide_eq_false (fun hh => r4 (w8.1 hh))] at fjs
   obtain ⟨Rd', sd, pd⟩ := Get_p hj0 smj (nameI ns s)
   obtain ⟨Rg, sg, pg⟩ := Get_p hj0 smj (nameI ns t)
   have gd := getN_w r1 r7
   rw [r6] at gd
   have gc := getN_w hw r5
   rw [r6] at gc
   rw [gd.1, decide_eq_true gd.2] at pd
   rw [gd.1] at sd
   have od' := SV.oneA sd
   have og := SV.oneA sg
   simp only [ald_ptr m3, b2', bO_some]
   refine bP_pure fjt ?_
   simp only [zdtZ, List.getElem?_cons_zero, List.getElem?_cons_succ, bO_some, ald_ptr m3, b2']
   refine bP_pure pd ?_
   simp only [zdtZ, List.getElem?_cons_zero, List.getElem?_cons_succ, bO_some, nw2, bH_some, st2 _ _ od', bS_some]
   have g3 := Grew.app H2 [some (AObj.cells [I dn.size, Rd'])]
   have n0 := g3.cells m0
   have n1 := g3.cells m1
   have n2 := g3.cells m2
   have n3 := g3.cells m3
   have n4 : (H2 ++ [some (AObj.cells [I dn.size, Rd'])])[H2.length]? = some (some (.cells [I dn.size, Rd'])) := top
   generalize hq : H2.length = q at n4
   generalize H2 ++ [some (AObj.cells [I dn.size, Rd'])] = H3 at n0 n1 n2 n3 n4
   simp only [ald_ptr n3, b2', bO_some]
   refine bP_pure fjs ?_
   simp only [zdtZ, List.getElem?_cons_zero, List.getElem?_cons_succ, bO_some, ald_ptr n3, b2']
   refine bP_pure pg ?_
   simp only [zdtZ, List.getElem?_cons_zero, List.getElem?_cons_succ, bO_some, nw2, bH_some, st2 _ _ og, bS_some]
   have g4 := Grew.app H3 [some (AObj.cells [I (getN p.1 p.2 (nameI ns t)).size, Rg])]
   have q0 := g4.cells n0
   have q1 := g4.cells n1
   have q2 := g4.cells n2
   have q3 := g4.cells n3
   have q4 := g4.cells n4
   generalize H3 ++ [some (AObj.cells [I (getN p.1 p.2 (nameI ns t)).size, Rg])] = H4 at q0 q1 q2 q3 q4
   simp only [ald_ptr q0, b2', bO_some]
   have u0 := Used_p hI0 sm
   rw [usedI_w hw] at u0
   have u1 := Used_p hj0 smj
   rw [usedI_w r1] at u1
   refine bP_pure u0 ?_
   have bnd : sumL ds ≤ 100000000000 := by
    have := sumL_take sm.2.2.2 sm.2.1 ds.length
    rwa [List.take_length] at this
   -- the joint: what is left to use is what is used
   have joint : ∀ (hb : Bool), (hb = true → ¬ hasK Nd.ino p.2 (nameI ns t)) → ∀ hg : Bool, (hb = true → hg = false) → zdeZ (.ptr 0 0) (S (bstr s)) (I (nameI ns s)) (.ptr 1 0) (B hb) (.ptr 3 0) (I (nameI ns s)) (B true) (.ptr q 0) (B true) (B false) (B hg) (I (sumL p.2 : Int)) H4 fun r _ => r = .lit (.bool true) := by
    intro hb h1 hg h2
    rw [zoeZ]; unfold zhnZ
    rw [gc.1] at sc q1
    have es : sameC dn.size dn.l dn.size dn.l := ⟨rfl, rfl⟩
    simp only [aun_not, Bool.not_true, bO_some, bG_bool, beq_self_eq_true, gO_true, abI_neq, ne_eq, not_true_eq_false, decide_false, zcpZ, if_false, Bool.false_eq_true, ald_ptr q1, ald_ptr q4, b2', gP_true]
    refine bP_pure (extent_Same_p sc sd (by have := sm.2.2.2 dn r5; omega)) ?_
    have tail : bO (ald true 2 H4 (.ptr 3 0)) (fun v35 => bP (PCall Try.prog 13 [v35] H4) fun v37 => bO (some (I (sumL p.2 : Int))) fun v39 => bO (abI .neq v37 v39) fun v41 => bO (apick (B false) (.lit (.bool true)) v41) fun v42 => zfkZ (.ptr 0 0) (S (bstr s)) (.ptr 1 0) v42 H4 fun r _ => r = .lit (.bool true)) := by
     simp only [ald_ptr q3, b2', bO_some]
     refine bP_pure u1 ?_
     simp only [bO_some, abI_neq, ne_eq, not_true_eq_false, decide_false, zcpZ, if_false, Bool.false_eq_true]
     rw [zodZ]; unfold zhiZ
     simp only [bB_bool, zdlZ]
     refine names_J8 hI0 hw hf hs (by omega) h77 q0 (by rw [gc.1]; exact q1) (by rw [gc.1]; exact sc) (fun _ => rfl)
    cases hb with
    | true =>
     have e2 := h2 rfl
     subst e2
     simp only [decide_eq_true es, aun_not, Bool.not_true, bO_some, zcpZ, if_false, Bool.false_eq_true, bG_bool, beq_self_eq_true, gO_true, gP_true]
     simpa using tail
    | false =>
     simp only [decide_eq_true es, aun_not, Bool.not_true, bO_some, zcpZ, if_false, Bool.false_eq_true, bG_bool, beq_self_eq_true, gO_true, gP_true, show ((false == true) = false) from rfl, gO_false]
     simpa using tail
   by_cases ct : hasK Nm.name ns t
   ·rw [if_pos ct] at r9
    have esub : abI .sub (I (sumL ds : Int)) (I ((getN ns ds (nameI ns t)).l.length : Int)) = some (I (sumL p.2 : Int)) := by
     rw [abI_sub (by omega) (by omega)]
     congr 3
     omega
    have ng := (getN_no (ns := p.1) (r8 ct)).2
    simp only [ct, decide_true, bB_bool, bI_true, zdnZ, Nat.zero_add, ald_ptr q2, zbcZ, List.getElem?_cons_zero, List.getElem?_cons_succ, bO_some, sw.len, esub]
    exact joint true (fun _ => r8 ct) _ (fun _ => decide_eq_false ng)
   ·rw [if_neg ct] at r9
    have : sumL ds = sumL p.2 := by omega
    simp only [ct, decide_false, bB_bool, zdlZ, this]
    exact joint false (fun h => by cases h) _ (fun h => by cases h)
 ·have := same (fun hh => hk hh.1)
  simp only [hk, decide_false, aun_not, Bool.not_false, bO_some, bG_bool, show ((true == false) = false) from rfl, gO_false, zcpZ, if_true, bB_bool, bI_true]
  exact this
theorem imageNames_calls (x0 : Sl XR) (h0 : imageNames_r0.ok x0) (x1 : UInt8) (h1 : imageNames_r1.ok x1) (x2 : UInt8) (h2 : imageNames_r2.ok x2) : ACalls Try.prog 9 (imageNames_r0.enc x0 ++ imageNames_r1.enc x1 ++ imageNames_r2.enc x2) [] fun r _ => r = .lit (.bool true) := by
 obtain ⟨xs, hx⟩ := rows_sv x0 h0.1 (fun y hy => by
  have h := h0.2.2 y hy
  exact ⟨h.2.1, h.2.2.1.1⟩)
 exact imageNames_walk hx x1 x2
end Go.Proofs.Ytpnfdibgfichmaa.Av
namespace Go.Proofs.Ytpnfdibgfichmaa
theorem imageNames_holds : Rows.ImageNamesSaid := imageNames_of Av.imageNames_calls
#print axioms imageNames_holds
end Go.Proofs.Ytpnfdibgfichmaa
end
