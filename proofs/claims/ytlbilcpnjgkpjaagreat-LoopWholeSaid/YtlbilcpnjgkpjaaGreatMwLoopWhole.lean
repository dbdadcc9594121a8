/- The law and its row. No condition. -/
import Derived.Test.YtlbilcpnjgkpjaaGreatMwI
import Derived.Below
import Derived.Carry
import Derived.ChangeOld
import Derived.OpenShut
import Derived.ProofKit
import Derived.ShutString
import Derived.SizedLaws
import Derived.Test.YtlbilcpnjgkpjaaGreatRows
import Derived.WalkKit
set_option linter.unusedVariables false
set_option linter.unusedSimpArgs false
set_option maxRecDepth 100000
section
namespace Go.Proofs.YtlbilcpnjgkpjaaGreat.Av
open Go Go.RowKit
noncomputable def loopWhole_r0 : Rd Tryz.prog 39 (UInt8 × (UInt8 × ((Sl UInt8) × ((Sl UInt8) × ((Sl UInt8) × Unit))))):=(Rd.struct (Rds.cons (Rd.byte Tryz.underlying5 (by kernel_rfl)) (Rds.cons (Rd.byte Tryz.underlying5 (by kernel_rfl)) (Rds.cons (Rd.slice (Rd.byte Tryz.underlying5 (by kernel_rfl)) Tryz.underlying24 (by kernel_rfl)) (Rds.cons (Rd.slice (Rd.byte Tryz.underlying5 (by kernel_rfl)) Tryz.underlying24 (by kernel_rfl)) (Rds.cons (Rd.slice (Rd.byte Tryz.underlying5 (by kernel_rfl)) Tryz.underlying24 (by kernel_rfl)) (Rds.nil _ _) rfl rfl) rfl rfl) rfl rfl) rfl rfl) rfl rfl) Tryz.underlying39 (by kernel_rfl))
noncomputable def loopWhole_r1 : Rd Tryz.prog 5 UInt8:=(Rd.byte Tryz.underlying5 (by kernel_rfl))
noncomputable def loopWhole_r2 : Rd Tryz.prog 5 UInt8:=(Rd.byte Tryz.underlying5 (by kernel_rfl))
end Go.Proofs.YtlbilcpnjgkpjaaGreat.Av
namespace Go.Proofs.YtlbilcpnjgkpjaaGreat
open Go.ChangeShapes Go.WideShapes Go.ChangeAt Go.RowKit
namespace loopWhole
set_option maxRecDepth 100000 in
theorem lifted (calls : ∀ (x0 : (UInt8 × (UInt8 × ((Av.Sl UInt8) × ((Av.Sl UInt8) × ((Av.Sl UInt8) × Unit)))))),Av.loopWhole_r0.ok x0→∀ (x1 : UInt8),Av.loopWhole_r1.ok x1→∀ (x2 : UInt8),Av.loopWhole_r2.ok x2→Av.ACalls Tryz.prog 4 ([.agg (Av.loopWhole_r0.enc x0)] ++ Av.loopWhole_r1.enc x1 ++ Av.loopWhole_r2.enc x2) [] fun r _ => r = .lit (.bool true)) (os : Os) (started : os.Started) (H : Type) (enc : TypeId × Value→H) :
  ReturnsInHanded {} Tryz.checked os 4 .any (Rows.loopWholeSpec.pre6 enc Tryz.prog Tryz.f4 Rows.loopWholeRow.domain false) (Rows.loopWholeSpec.post enc Tryz.prog Tryz.f4 false true false false):=by
 refine returnsInHanded_of_change_sized (C:=Tryz.checked) Av.own started (by kernel_rfl) Tryz.func4
  (ChangeSpec.witness6 (enc:=enc) (C:=Tryz.checked) false ⟨#[],#[.agg #[.int .u8 0,.int .u8 0,.slice none 0 0,.slice none 0 0,.slice none 0 0],.int .u8 0,.int .u8 0],[]⟩ 8 (by kernel_rfl) (by kernel_rfl) (by kernel_rfl) (by kernel_rfl)) ?_
 intro W base args ds gs before hval0 hW hcnd hsz0 _
 have hval : ∀ (j : Nat) t v,Tryz.f4.params[j]? = some t→args[j]? = some v→Value.okWide Tryz.prog W .any base t v:=hval0
 have hW':=hW
 obtain ⟨p,q,hA0,hV,rfl,hfz,hnd⟩:=hW
 have hA : DataW.TrodAll enc Tryz.prog W 0 (fun _ => true) true Tryz.f4.params.toList args.toList ds p:=hA0
 rw [Tryz.params4] at hA hval
 obtain ⟨v0,vs0,d0,ds0,p0,q0,hargs,rfl,rfl,h0,r0⟩:=trodAll_cons hA
 obtain ⟨v1,vs1,d1,ds1,p1,q1,rfl,rfl,rfl,h1,r1⟩:=trodAll_cons r0
 obtain ⟨v2,vs2,d2,ds2,p2,q2,rfl,rfl,rfl,h2,r2⟩:=trodAll_cons r1
 obtain ⟨rfl,rfl,rfl⟩:=trodAll_nil r2
 obtain rfl : args = #[v0,v1,v2]:=by cases args; simp_all
 obtain ⟨rfl,rfl⟩:=trodVars_none hV
 obtain ⟨b0,rfl,-⟩:=okWide_struct Tryz.underlying39 (hval 0 39 v0 rfl rfl)
 have lt0 : ∀ x ∈ p0,x.block < W.heap.size:=by obtain ⟨m,hm⟩:=h0; exact DataW.trod_lt m _ _ _ hm
 obtain ⟨x0,ok0,vr0⟩:=Av.loopWhole_r0.argN h0
 obtain ⟨b1,rfl⟩:=okWide_int Tryz.underlying5 (hval 1 5 v1 rfl rfl)
 have lt1 : ∀ x ∈ p1,x.block < W.heap.size:=by obtain ⟨m,hm⟩:=h1; exact DataW.trod_lt m _ _ _ hm
 obtain ⟨x1,ok1,vr1⟩:=Av.loopWhole_r1.arg1 rfl h1
 obtain ⟨b2,rfl⟩:=okWide_int Tryz.underlying5 (hval 2 5 v2 rfl rfl)
 have lt2 : ∀ x ∈ p2,x.block < W.heap.size:=by obtain ⟨m,hm⟩:=h2; exact DataW.trod_lt m _ _ _ hm
 obtain ⟨x2,ok2,vr2⟩:=Av.loopWhole_r2.arg1 rfl h2
 refine (Av.law_calls (calls x0 ok0 x1 ok1 x2 ok2) W ((vr0.append vr1).append vr2)).mono fun e W' ⟨he,bel⟩ => ?_
 subst he
 exact ⟨_,rfl,_,_,_,[],_,[],hW',trodAll_mk1 (shut_bool Tryz.underlying4 _),(trodAll_cons_mk (Below.trod Av.laidOut (by kernel_rfl) (of_decide_eq_true (by kernel_rfl)) h0 bel lt0) (trodAll_cons_mk (Below.trod Av.laidOut (by kernel_rfl) (of_decide_eq_true (by kernel_rfl)) h1 bel lt1) (trodAll_cons_mk (Below.trod Av.laidOut (by kernel_rfl) (of_decide_eq_true (by kernel_rfl)) h2 bel lt2) trodAll_mk0))),rfl,bel.frame _,fun h => by cases h⟩
end loopWhole
theorem loopWhole_of (calls : ∀ (x0 : (UInt8 × (UInt8 × ((Av.Sl UInt8) × ((Av.Sl UInt8) × ((Av.Sl UInt8) × Unit)))))),Av.loopWhole_r0.ok x0→∀ (x1 : UInt8),Av.loopWhole_r1.ok x1→∀ (x2 : UInt8),Av.loopWhole_r2.ok x2→Av.ACalls Tryz.prog 4 ([.agg (Av.loopWhole_r0.enc x0)] ++ Av.loopWhole_r1.enc x1 ++ Av.loopWhole_r2.enc x2) [] fun r _ => r = .lit (.bool true)) : Rows.LoopWholeSaid :=
 OpenClaim.holds_of_wide 4 Tryz.f4 rfl rfl rfl rfl rfl rfl rfl ⟨rfl,rfl,rfl,rfl,rfl⟩ rfl rfl rfl rfl rfl (by kernel_rfl) Tryz.func4 (by kernel_rfl)
  (of_decide_eq_true (by kernel_rfl)) (by unfold Func.isWrapper; first | (rw [if_pos (by decide +kernel)]; kernel_rfl) | (rw [if_neg (by decide +kernel)]; exact ⟨rfl,rfl⟩))
  (fun os started H enc _ => loopWhole.lifted calls os started H enc)
end Go.Proofs.YtlbilcpnjgkpjaaGreat
end
section
set_option maxHeartbeats 2000000
namespace Go.Proofs.YtlbilcpnjgkpjaaGreat.Av
open Go Go.RowKit
theorem IsBad_c {D : Dev} {a b s h : AV} {H : AH} (hD : DevH H D a b s h) (o1 : oneA a=true) (o2 : oneA b=true) (o3 : oneA s=true) (o4 : oneA h=true) (hb : D.bad.length≤1000) (pos : Nat) (hp : pos≤1000000) :
  ∃ r H',(r=B (decide (((pos : Int) / 8) ∈ D.bad))∧Grew H H')∧BCall Tryz.prog 15 [.agg [a,b,s,h],I pos] H r H':=salvorkeep_IsBad_ok (by
 unfold zlmZ
 have e1 : anew H (.agg [a,b,s,h])=some (.ptr H.length 0,H ++ [some (.cells [a,b,s,h])]):=by simp [o1,o2,o3,o4]
 have g:=Grew.app H [some (.cells [a,b,s,h])]
 have hD1:=hD.grew g
 have c1 : (H ++ [some (AObj.cells [a,b,s,h])])[H.length]? = some (some (.cells [a,b,s,h])):=by simp
 simp only [e1,bH_some]
 generalize (H ++ [some (AObj.cells [a,b,s,h])])=H1 at *
 refine znlZ (fun m x1 x2 x5 H' => ∃ i : Nat,i + m=D.bad.length∧x1=I pos∧x2 = .ptr H.length 0∧x5=I i∧H'=H1∧∀ (m : Nat) y,m < i→D.bad[m]? = some y→y ≠ ((pos : Int) / 8)) ?_ D.bad.length ⟨0,by omega,rfl,rfl,rfl,rfl,by simp⟩
 rintro m x1 x2 x5 H' R hR ⟨i,hi,rfl,rfl,rfl,rfl,hm⟩
 unfold zfwZ
 simp only [znZ,Nat.zero_add,bO_some,ald_ptr c1,zeZ,List.getElem?_cons_succ,List.getElem?_cons_zero,zbxZ hD1.bad,abI_lss,bB_bool]
 rcases Nat.lt_or_ge i D.bad.length with hlt | hge
 ·have hx:=List.getElem?_eq_getElem hlt
  generalize D.bad[i]=y at hx
  obtain ⟨q,q1,q2⟩:=aix_int hD1.bad hx (i:=i) rfl
  have q3 : abI .quo (I (pos : Int)) (.lit (.int .i64 8))=some (I ((pos : Int) / 8)):=abI_quo (by omega) (by omega) (by omega)
  simp only [show ((i : Int) < (D.bad.length : Int)) by omega,decide_true,bI_true,q1,bO_some,q2,q3,abI_eql,bB_bool]
  by_cases c : y=(pos : Int) / 8
  ·simp only [c,decide_true,bI_true]
   have : ((pos : Int) / 8) ∈ D.bad:=by rw [← c]; exact List.mem_of_getElem? hx
   exact ⟨by simp [this],g⟩
  ·have q4 : abI .add (I (i : Int)) (.lit (.int .i64 1))=some (I ((i + 1 : Nat) : Int)):=by rw [abI_add (by omega) (by omega)]; congr 3
   simp only [c,decide_false,zlZ,q4,bO_some]
   exact hR (m - 1) _ _ _ _ (by omega) ⟨i + 1,by omega,rfl,rfl,rfl,rfl,fun j z hj hz => by
    by_cases e : j=i
    ·subst e; rw [hx] at hz; injection hz with hz; subst hz; exact c
    ·exact hm j z (by omega) hz⟩
 ·have : ¬ ((pos : Int) / 8) ∈ D.bad:=fun hk => by
   obtain ⟨j,hj⟩:=List.mem_iff_getElem?.1 hk
   exact hm j _ (by have:=(List.getElem?_eq_some_iff.1 hj).1; omega) hj rfl
  simp only [show ¬ ((i : Int) < (D.bad.length : Int)) by omega,decide_false,zlZ]
  exact ⟨by simp [this],g⟩)
theorem sl_u (x : Sl UInt8) (hn : x.nil=true→x.l=[]) : SV encU 1 x.l (if x.nil then .lit (.slice none 0 0) else .imm (x.l.flatMap encU) x.l.length 1):=by
 cases hnil : x.nil with
 | true => simp only [if_true]; rw [hn hnil]; exact SV.nil
 | false => simp only [Bool.false_eq_true,if_false]; exact SV.imm (fun _ => rfl) (fun x hx => rfl)
theorem sum_zero {l : List (Int × Int)} (h : ∀ x ∈ l,x.2=0) : sumS l=fun _ => 0:=by
 funext k
 induction l with
 | nil => rfl
 | cons x l ih =>
  have h1:=h x (by simp)
  have h2:=ih fun y hy => h y (by simp [hy])
  simp only [sumS,h1,h2]
  split <;> rfl
theorem loopWhole_calls (x0 : UInt8 × UInt8 × Sl UInt8 × Sl UInt8 × Sl UInt8 × Unit) (h0 : loopWhole_r0.ok x0) (x1 : UInt8) (h1 : loopWhole_r1.ok x1) (x2 : UInt8) (h2 : loopWhole_r2.ok x2) :
  ACalls Tryz.prog 4 ([.agg (loopWhole_r0.enc x0)] ++ loopWhole_r1.enc x1 ++ loopWhole_r2.enc x2) [] fun r _ => r = .lit (.bool true):=by
 obtain ⟨n,kk,xb,xs,xh,u⟩:=x0
 have vb:=sl_u xb h0.2.2.1.1
 have vs:=sl_u xs h0.2.2.2.1.1
 have vh:=sl_u xh h0.2.2.2.2.1.1
 have lb:=h0.2.2.1.2.1
 have ls:=h0.2.2.2.1.2.1
 have lh:=h0.2.2.2.2.1.2.1
 show ACalls Tryz.prog 4 [.agg [.lit (.int .u8 n.toNat),.lit (.int .u8 kk.toNat),if xb.nil then AV.lit (.slice none 0 0) else .imm (xb.l.flatMap encU) xb.l.length 1,if xs.nil then AV.lit (.slice none 0 0) else .imm (xs.l.flatMap encU) xs.l.length 1,if xh.nil then AV.lit (.slice none 0 0) else .imm (xh.l.flatMap encU) xh.l.length 1],.lit (.int .u8 x1.toNat),.lit (.int .u8 x2.toNat)] [] _
 generalize (if xb.nil then AV.lit (.slice none 0 0) else .imm (xb.l.flatMap encU) xb.l.length 1)=bv at vb
 generalize (if xs.nil then AV.lit (.slice none 0 0) else .imm (xs.l.flatMap encU) xs.l.length 1)=sv at vs
 generalize (if xh.nil then AV.lit (.slice none 0 0) else .imm (xh.l.flatMap encU) xh.l.length 1)=hv at vh
 generalize xb.l=bl at *
 generalize xs.l=sl at *
 generalize xh.l=hl at *
 have hml : maxLen≤9223372036854775807:=by decide
 have hp:=x1.toNat_lt
 have hk:=x2.toNat_lt
 have ob:=SV.oneA vb
 have os:=SV.oneA vs
 have oh:=SV.oneA vh
 refine znqZ ?_
 unfold zfsZ
 have e1 : anew [] (.agg [.lit (.int .u8 n.toNat),.lit (.int .u8 kk.toNat),bv,sv,hv])=some (.ptr 0 0,[some (.cells [.lit (.int .u8 n.toNat),.lit (.int .u8 kk.toNat),bv,sv,hv])]):=by simp [ob,os,oh]
 have e2 : ald true 5 [some (AObj.cells [.lit (.int .u8 n.toNat),.lit (.int .u8 kk.toNat),bv,sv,hv])] (.ptr 0 0)=some (.agg [.lit (.int .u8 n.toNat),.lit (.int .u8 kk.toNat),bv,sv,hv]):=rfl
 simp only [e1,bH_some,e2,bO_some]
 obtain ⟨r,H1,⟨D,a,b,s,h,rfl,hD,hmay,d1,d2,d3,d4,d5,⟨o1,o2,o3,o4⟩,d6,d7⟩,hc⟩:=Device_c n kk vb vs vh (by omega) (by omega) (by omega) [some (AObj.cells [.lit (.int .u8 n.toNat),.lit (.int .u8 kk.toNat),bv,sv,hv])]
 refine bC_of hc ?_
 have e3 : anew H1 (.agg [(.lit (.slice none 0 0)),(.lit (.slice none 0 0)),(.lit (.slice none 0 0)),(.lit (.slice none 0 0))])=some (.ptr H1.length 0,H1 ++ [some (.cells [nilSl,nilSl,nilSl,nilSl])]):=by simp
 have e4 : ast 4 (H1 ++ [some (AObj.cells [nilSl,nilSl,nilSl,nilSl])]) (.ptr H1.length 0) (.agg [a,b,s,h])=some (H1 ++ [some (AObj.cells [a,b,s,h])]):=by
  rw [ast_ptr (n:=4) (xs:=[a,b,s,h]) (cs:=[nilSl,nilSl,nilSl,nilSl]) (by simp [o1,o2,o3,o4]) (by simp) rfl (by simp)]
  simp [splice]
 have g2:=Grew.app H1 [some (AObj.cells [a,b,s,h])]
 have c2 : (H1 ++ [some (AObj.cells [a,b,s,h])])[H1.length]? = some (some (.cells [a,b,s,h])):=by simp
 have rd4 : rdCells true 4 [a,b,s,h] 0=some (.agg [a,b,s,h]):=rfl
 simp only [e3,bH_some,e4,bS_some,ald_ptr c2,rd4,bO_some]
 have hD2:=hD.grew g2
 have hlen2 : H1.length < (H1 ++ [some (AObj.cells [a,b,s,h])]).length:=by simp
 generalize (H1 ++ [some (AObj.cells [a,b,s,h])])=H2 at *
 generalize hod : H1.length=od at *
 refine ⟨_,disk_New_a hD2 (by omega) (by omega) (by omega) (by omega), ?_⟩
 rintro r H3 ⟨o,n1,dv,bo,lo,sv',rfl,hP,g3⟩
 have hE : Eff D=D:=if_pos hmay
 rw [hE,sum_zero d5] at hP
 have e5 : abN .eql nilP (.ptr o 0) (.lit (.pointer none))=some (B false):=rfl
 have a1 : acI .i64 (.lit (.int .u8 (x1.toNat : Int)))=some (I (x1.toNat : Int)):=acI_i64 (by omega) (by omega)
 have a2 : acI .i64 (.lit (.int .u8 (x2.toNat : Int)))=some (I (x2.toNat : Int)):=acI_i64 (by omega) (by omega)
 generalize x1.toNat=p at *
 generalize x2.toNat=k at *
 simp only [e5,bO_some,bB_bool,zlZ,a1,a2]
 have hf : Fine D (fun _ => 0) 0:=⟨fun _ => by omega,by omega,by omega,by omega⟩
 obtain ⟨r,H4,⟨v,rfl,r1,r2,r3,r4,r5⟩,hc⟩:=Fill_c hP hf (by omega) (p : Int) (k : Int) (by omega)
 refine bC_of hc ?_
 have hlow:=hP.low
 have hod3 : od < H3.length:=by have:=g3.1; omega
 have c4 : H4[od]? = some (some (.cells [a,b,s,h])):=by rw [r5.2 od hod3 (by omega)]; exact g3.cells c2
 have hD4 : DevH H4 D a b s h:=by
  have hD3:=hD2.grew g3
  have keep : ∀ {sz : Nat} {w : AV} {q : List AV × Nat},zaZ H2 sz w=some q→zaZ H4 sz w=some q:=fun {sz w q} hh => zbZ (g3.slice hh) fun i hi => r5.2 i (zcZ (g3.slice hh) i hi) (by have:=zcZ hh i hi; omega)
  exact ⟨keep hD2.data,keep hD2.bad,keep hD2.soft,keep hD2.shorts⟩
 have dl:=d1
 have fin : ∀ (j : Nat) (code : Int) (HX : AH),Grew H4 HX→WholeN D p k j→code=(fillS D (fun _ => 0) 0 (p : Int) (k : Int)).2.1→(
  bO (abI .lss (I (j : Int)) (I k)) fun v32 =>
  bG v32 true fun w33 =>
  gO w33 (some (I p)) fun v34 =>
  bG v32 true fun w35 =>
  gO w35 (some (I (j : Int))) fun v36 =>
  bG v32 true fun w37 =>
  gO w37 (abI .add v34 v36) fun v38 =>
  bG v32 true fun w39 =>
  gO w39 (ashift 0 (.ptr od 0)) fun v40 =>
  bG v32 true fun w41 =>
  gO w41 (ald false 1 HX v40) fun v42 =>
  bG v32 true fun w43 =>
  gO w43 (alnS v42) fun v44 =>
  bG v32 true fun w45 =>
  gO w45 (abI .lss v38 v44) fun v46 =>
  bO (apick v32 v46 (.lit (.bool false))) fun v47 =>
  bO (alnS v) fun v48 =>
  bO (abI .eql v48 (I (j : Int))) fun v49 =>
  bG v49 true fun w50 =>
  gO w50 (some v) fun v51 =>
  bG v49 true fun w52 =>
  gO w52 (acB HX v51) fun v53 =>
  bG v49 true fun w54 =>
  gO w54 (ashift 0 (.ptr od 0)) fun v55 =>
  bG v49 true fun w56 =>
  gO w56 (ald false 1 HX v55) fun v57 =>
  bG v49 true fun w58 =>
  gO w58 (some (I p)) fun v59 =>
  bG v49 true fun w60 =>
  gO w60 (ashift 0 (.ptr od 0)) fun v61 =>
  bG v49 true fun w62 =>
  gO w62 (ald false 1 HX v61) fun v63 =>
  bG v49 true fun w64 =>
  gO w64 (alnS v63) fun v65 =>
  bG v49 true fun w66 =>
  gO w66 (amm imn [v59,v65]) fun v67 =>
  bG v49 true fun w68 =>
  gO w68 (some (I p)) fun v69 =>
  bG v49 true fun w70 =>
  gO w70 (ashift 0 (.ptr od 0)) fun v71 =>
  bG v49 true fun w72 =>
  gO w72 (ald false 1 HX v71) fun v73 =>
  bG v49 true fun w74 =>
  gO w74 (alnS v73) fun v75 =>
  bG v49 true fun w76 =>
  gO w76 (amm imn [v69,v75]) fun v77 =>
  bG v49 true fun w78 =>
  gO w78 (some (I (j : Int))) fun v79 =>
  bG v49 true fun w80 =>
  gO w80 (abI .add v77 v79) fun v81 =>
  bG v49 true fun w82 =>
  gO w82 (aslS 1 v57 (some v67) (some v81) none) fun v83 =>
  bG v49 true fun w84 =>
  gO w84 (acB HX v83) fun v85 =>
  bG v49 true fun w86 =>
  gO w86 (abT .eql v53 v85) fun v87 =>
  bO (apick v49 v87 (.lit (.bool false))) fun v88 =>
  bG v88 true fun w89 =>
  gO w89 (some (I code)) fun v90 =>
  bG v88 true fun w91 =>
  gO w91 (abI .eql v90 (.lit (.int .i64 1))) fun v92 =>
  bG v88 true fun w93 =>
  gO w93 (some v47) fun v94 =>
  bG v88 true fun w95 =>
  gO w95 (abB .eql v92 v94) fun v96 =>
  bO (apick v88 v96 (.lit (.bool false))) fun v97 =>
  bG v97 true fun w98 =>
  gO w98 (some (I code)) fun v99 =>
  bG v97 true fun w100 =>
  gO w100 (abI .eql v99 (.lit (.int .i64 0))) fun v101 =>
  bG v97 true fun w102 =>
  gO w102 (some v47) fun v103 =>
  bG v97 true fun w104 =>
  gO w104 (abB .neq v101 v103) fun v105 =>
  bO (apick v97 v105 (.lit (.bool false))) fun v106 =>
  bG v106 true fun w107 =>
  gP w107 (BPure Tryz.prog 3 []) fun v108 =>
  bO (apick v106 v108 (.lit (.bool false))) fun v109 =>
  (v109=B true)
   ):=by
  intro j code HX g hw hcode
  obtain ⟨c',hfs⟩:=fillS_whole hw (by omega) 0
  rw [hfs] at hcode r1
  simp only at hcode r1
  have hjk:=hw.le
  have v1:=g.slice r1
  have cX:=g.cells c4
  have DX:=hD4.grew g
  have hjl : j=0∨p + j≤D.data.length:=by
   rcases Nat.eq_zero_or_pos j with z | z
   ·exact .inl z
   ·have:=(hw.good (j - 1) (by omega)).1; exact .inr (by omega)
  have ll : ((D.data.drop p).take j).length=j:=by
   rw [List.length_take,List.length_drop]
   omega
  rw [ll] at v1
  have b1 : abI .add (I (p : Int)) (I (j : Int))=some (I ((p + j : Nat) : Int)):=by rw [abI_add (by omega) (by omega)]; congr 3
  have b2 : amm imn [I (p : Int),I (D.data.length : Int)]=some (I ((min p D.data.length : Nat) : Int)):=by
   rw [amm_two,imn_eq]; congr 3; omega
  have b3 : abI .add (I ((min p D.data.length : Nat) : Int)) (I (j : Int))=some (I ((min p D.data.length + j : Nat) : Int)):=by rw [abI_add (by omega) (by omega)]; congr 3
  obtain ⟨w,s1,s2,-,-,-⟩:=aslS_spec DX.data (lo:=some (I ((min p D.data.length : Nat) : Int))) (hi:=some (I ((min p D.data.length + j : Nat) : Int))) (l:=min p D.data.length) (k:=min p D.data.length + j) (by simp [abnd] <;> omega) (by simp [abnd] <;> omega) (by omega) (by omega)
  have s3 : zaZ HX 1 w=some (encB ((D.data.drop p).take j),j):=by
   rw [s2]
   simp only [encB_drop,encB_take,Nat.mul_one]
   rw [show min p D.data.length + j - min p D.data.length=j by omega]
   congr 3
   rcases Nat.le_total p D.data.length with z | z
   ·rw [Nat.min_eq_left z]
   ·rw [Nat.min_eq_right z,List.drop_of_length_le (Nat.le_refl _),List.drop_of_length_le z]
  simp only [abI_lss,bO_some,bG_bool]
  have t : ∀ (X Y : Bool) (c : Int),(c=if X && Y then 1 else 0)→decide (decide (c=1)=(X && Y))=true∧decide (decide (c=0) ≠ (X && Y))=true:=by
   rintro X Y c rfl
   cases X <;> cases Y <;> decide
  obtain ⟨t1,t2⟩:=t (decide ((j : Int) < (k : Int))) (decide (((p + j : Nat) : Int) < (D.data.length : Int))) code (by
   rw [hcode]
   unfold codeW
   by_cases q1 : j < k
   ·by_cases q2 : p + j < D.data.length
    ·rw [if_pos ⟨q1,q2⟩,decide_eq_true (show (j : Int) < (k : Int) by omega),decide_eq_true (show ((p + j : Nat) : Int) < (D.data.length : Int) by omega)]; rfl
    ·rw [if_neg (fun z => q2 z.2),decide_eq_false (show ¬ ((p + j : Nat) : Int) < (D.data.length : Int) by omega),Bool.and_false]; rfl
   ·rw [if_neg (fun z => q1 z.1),decide_eq_false (show ¬ (j : Int) < (k : Int) by omega),Bool.false_and]; rfl)
  by_cases q1 : (j : Int) < (k : Int)
  ·simp only [q1,decide_true,Bool.true_and] at t1 t2
   simp only [q1,decide_true,beq_self_eq_true,gO_true,bO_some,znZ,Nat.zero_add,ald_ptr cX,zeZ,List.getElem?_cons_succ,List.getElem?_cons_zero,zbxZ DX.data,b1,abI_lss,ztZ,if_true,zbxZ v1,abI_eql,bG_bool,acB_spec v1,b2,b3,s1,acB_spec s3,abT_eql,abB_eql,abB_neq,t1,t2,gP_true]
   exact bP_of loopRuns_p rfl
  ·simp only [q1,decide_false,Bool.false_and] at t1 t2
   simp only [q1,decide_false,show ((false == true)=false) from rfl,gO_false,decide_true,beq_self_eq_true,gO_true,bO_some,znZ,Nat.zero_add,ald_ptr cX,zeZ,List.getElem?_cons_succ,List.getElem?_cons_zero,zbxZ DX.data,b1,abI_lss,ztZ,if_true,if_false,Bool.false_eq_true,zbxZ v1,abI_eql,bG_bool,acB_spec v1,b2,b3,s1,acB_spec s3,abT_eql,abB_eql,abB_neq,t1,t2,gP_true]
   exact bP_of loopRuns_p rfl
 simp only [zbcZ,List.getElem?_cons_succ,List.getElem?_cons_zero,bO_some]
 refine zjkZ (fun m x7 x9 x10 x11 x12 x13 H' => ∃ j : Nat,j + m=k∧x7 = .ptr od 0∧x9=I p∧x10=I k∧x11=v∧x12=I (fillS D (fun _ => 0) 0 (p : Int) (k : Int)).2.1∧x13=I j∧Grew H4 H'∧∀ i,i < j→p + i < D.data.length∧¬ (((p + i : Nat) : Int) / 8) ∈ D.bad) ?_ k ⟨0,by omega,rfl,rfl,rfl,rfl,rfl,rfl,Grew.refl _,fun i hi => by omega⟩
 rintro m x7 x9 x10 x11 x12 x13 H5 R hR ⟨j,hj,rfl,rfl,rfl,rfl,rfl,rfl,g5,hgood⟩
 unfold zdoZ
 have cX:=g5.cells c4
 have DX:=hD4.grew g5
 have b1 : abI .add (I (p : Int)) (I (j : Int))=some (I ((p + j : Nat) : Int)):=by rw [abI_add (by omega) (by omega)]; congr 3
 have b2 : abI .add (I (j : Int)) (.lit (.int .i64 1))=some (I ((j + 1 : Nat) : Int)):=by rw [abI_add (by omega) (by omega)]; congr 3
 have fin':=fin j (fillS D (fun _ => 0) 0 (p : Int) (k : Int)).2.1
 generalize (fillS D (fun _ => 0) 0 (p : Int) (k : Int)).2.1=code at *
 have rd4 : rdCells true 4 [a,b,s,h] 0=some (.agg [a,b,s,h]):=rfl
 by_cases q1 : (j : Int) < (k : Int)
 ·by_cases q2 : (((p + j : Nat) : Int) < (D.data.length : Int))
  ·obtain ⟨r,H6,⟨rfl,g6⟩,hc⟩:=IsBad_c DX o1 o2 o3 o4 (by omega) (p + j) (by omega)
   simp only [abI_lss,q1,decide_true,bO_some,bG_bool,beq_self_eq_true,gO_true,b1,znZ,Nat.zero_add,ald_ptr cX,zeZ,List.getElem?_cons_succ,List.getElem?_cons_zero,zbxZ DX.data,q2,ztZ,if_true,rd4,gC_true]
   refine bC_of hc ?_
   by_cases q3 : (((p + j : Nat) : Int) / 8) ∈ D.bad
   ·simp only [q3,decide_true,aun_not,Bool.not_true,bO_some,bG_bool,beq_self_eq_true,gO_true,ztZ,if_true,bB_bool,zlZ]
    have:=fin' H6 (g5.trans g6) ⟨by omega,hgood,.inr (.inr q3)⟩ rfl
    simp only [abI_lss,q1,decide_true,bO_some,bG_bool,beq_self_eq_true,gO_true,b1,znZ,Nat.zero_add,ald_ptr (g6.cells cX),zeZ,List.getElem?_cons_succ,List.getElem?_cons_zero,zbxZ DX.data,q2,ztZ,if_true] at this ⊢
    exact this
   ·simp only [q3,decide_false,aun_not,Bool.not_false,bO_some,bG_bool,beq_self_eq_true,gO_true,ztZ,if_true,bB_bool,bI_true,b2]
    exact hR (m - 1) _ _ _ _ _ _ _ (by omega) ⟨j + 1,by omega,rfl,rfl,rfl,rfl,rfl,rfl,g5.trans g6,fun i hi => by
     by_cases e : i=j
     ·subst e; exact ⟨by omega,q3⟩
     ·exact hgood i (by omega)⟩
  ·have:=fin' H5 g5 ⟨by omega,hgood,.inr (.inl (by omega))⟩ rfl
   simp only [abI_lss,q1,decide_true,bO_some,bG_bool,beq_self_eq_true,gO_true] at this
   simp only [abI_lss,q1,decide_true,bO_some,bG_bool,beq_self_eq_true,gO_true,b1,znZ,Nat.zero_add,ald_ptr cX,zeZ,List.getElem?_cons_succ,List.getElem?_cons_zero,zbxZ DX.data,q2,decide_false,ztZ,if_true,show ((false == true)=false) from rfl,gO_false,gC_false,if_false,Bool.false_eq_true,bB_bool,zlZ]
   simp only [abI_lss,q1,decide_true,bO_some,bG_bool,beq_self_eq_true,gO_true,b1,znZ,Nat.zero_add,ald_ptr cX,zeZ,List.getElem?_cons_succ,List.getElem?_cons_zero,zbxZ DX.data,q2,decide_false,ztZ,if_true,show ((false == true)=false) from rfl,gO_false,gC_false,if_false,Bool.false_eq_true,bB_bool,zlZ] at this
   exact this
 ·have:=fin' H5 g5 ⟨by omega,hgood,.inl (by omega)⟩ rfl
  simp only [abI_lss,q1,decide_false,bO_some,bG_bool,show ((false == true)=false) from rfl,gO_false,gC_false,ztZ,if_false,Bool.false_eq_true,bB_bool,zlZ]
  simp only [abI_lss,q1,decide_false,bO_some,bG_bool,show ((false == true)=false) from rfl,gO_false,gC_false,ztZ,if_false,Bool.false_eq_true,bB_bool,zlZ] at this
  exact this
end Go.Proofs.YtlbilcpnjgkpjaaGreat.Av
namespace Go.Proofs.YtlbilcpnjgkpjaaGreat
theorem loopWhole_holds : Rows.LoopWholeSaid:=loopWhole_of Av.loopWhole_calls
#print axioms loopWhole_holds
end Go.Proofs.YtlbilcpnjgkpjaaGreat
end
