/- The law and its row. No condition. -/
import Derived.Test.YtlbilcpnjgkpjaaGreatMkI
import Derived.Below
import Derived.Carry
import Derived.ChangeOld
import Derived.OpenShut
import Derived.ProofKit
import Derived.ShutString
import Derived.SizedLaws
import Derived.Test.YtlbilcpnjgkpjaaGreatRows
import Derived.WalkKit
set_option linter.unusedVariables false
set_option linter.unusedSimpArgs false
set_option maxRecDepth 100000
section
namespace Go.Proofs.YtlbilcpnjgkpjaaGreat.Av
open Go Go.RowKit
noncomputable def loopLasts_r0 : Rd Tryz.prog 24 (Sl UInt8):=(Rd.slice (Rd.byte Tryz.underlying5 (by kernel_rfl)) Tryz.underlying24 (by kernel_rfl))
noncomputable def loopLasts_r1 : Rd Tryz.prog 24 (Sl UInt8):=(Rd.slice (Rd.byte Tryz.underlying5 (by kernel_rfl)) Tryz.underlying24 (by kernel_rfl))
noncomputable def loopLasts_r2 : Rd Tryz.prog 24 (Sl UInt8):=(Rd.slice (Rd.byte Tryz.underlying5 (by kernel_rfl)) Tryz.underlying24 (by kernel_rfl))
noncomputable def loopLasts_r3 : Rd Tryz.prog 57 (Sl Bool):=(Rd.slice (Rd.bool Tryz.underlying4 (by kernel_rfl)) Tryz.underlying57 (by kernel_rfl))
end Go.Proofs.YtlbilcpnjgkpjaaGreat.Av
namespace Go.Proofs.YtlbilcpnjgkpjaaGreat
open Go.ChangeShapes Go.WideShapes Go.ChangeAt Go.RowKit
namespace loopLasts
set_option maxRecDepth 100000 in
theorem lifted (calls : ∀ (x0 : (Av.Sl UInt8)),Av.loopLasts_r0.ok x0→∀ (x1 : (Av.Sl UInt8)),Av.loopLasts_r1.ok x1→∀ (x2 : (Av.Sl UInt8)),Av.loopLasts_r2.ok x2→∀ (x3 : (Av.Sl Bool)),Av.loopLasts_r3.ok x3→Av.ACalls Tryz.prog 7 (Av.loopLasts_r0.enc x0 ++ Av.loopLasts_r1.enc x1 ++ Av.loopLasts_r2.enc x2 ++ Av.loopLasts_r3.enc x3) [] fun r _ => r = .lit (.bool true)) (os : Os) (started : os.Started) (H : Type) (enc : TypeId × Value→H) :
  ReturnsInHanded {} Tryz.checked os 7 .any (Rows.loopLastsSpec.pre6 enc Tryz.prog Tryz.f7 Rows.loopLastsRow.domain false) (Rows.loopLastsSpec.post enc Tryz.prog Tryz.f7 false true false false):=by
 refine returnsInHanded_of_change_sized (C:=Tryz.checked) Av.own started (by kernel_rfl) Tryz.func7
  (ChangeSpec.witness6 (enc:=enc) (C:=Tryz.checked) false ⟨#[],#[.slice none 0 0,.slice none 0 0,.slice none 0 0,.slice none 0 0],[]⟩ 8 (by kernel_rfl) (by kernel_rfl) (by kernel_rfl) (by kernel_rfl)) ?_
 intro W base args ds gs before hval0 hW hcnd hsz0 _
 have hval : ∀ (j : Nat) t v,Tryz.f7.params[j]? = some t→args[j]? = some v→Value.okWide Tryz.prog W .any base t v:=hval0
 have hW':=hW
 obtain ⟨p,q,hA0,hV,rfl,hfz,hnd⟩:=hW
 have hA : DataW.TrodAll enc Tryz.prog W 0 (fun _ => true) true Tryz.f7.params.toList args.toList ds p:=hA0
 rw [Tryz.params7] at hA hval
 obtain ⟨v0,vs0,d0,ds0,p0,q0,hargs,rfl,rfl,h0,r0⟩:=trodAll_cons hA
 obtain ⟨v1,vs1,d1,ds1,p1,q1,rfl,rfl,rfl,h1,r1⟩:=trodAll_cons r0
 obtain ⟨v2,vs2,d2,ds2,p2,q2,rfl,rfl,rfl,h2,r2⟩:=trodAll_cons r1
 obtain ⟨v3,vs3,d3,ds3,p3,q3,rfl,rfl,rfl,h3,r3⟩:=trodAll_cons r2
 obtain ⟨rfl,rfl,rfl⟩:=trodAll_nil r3
 obtain rfl : args = #[v0,v1,v2,v3]:=by cases args; simp_all
 obtain ⟨rfl,rfl⟩:=trodVars_none hV
 obtain ⟨b0,len0,cap0,rfl⟩:=okWide_slice Tryz.underlying24 (hval 0 24 v0 rfl rfl)
 have lt0 : ∀ x ∈ p0,x.block < W.heap.size:=by obtain ⟨m,hm⟩:=h0; exact DataW.trod_lt m _ _ _ hm
 obtain ⟨x0,ok0,vr0⟩:=Av.loopLasts_r0.arg1 rfl h0
 obtain ⟨b1,len1,cap1,rfl⟩:=okWide_slice Tryz.underlying24 (hval 1 24 v1 rfl rfl)
 have lt1 : ∀ x ∈ p1,x.block < W.heap.size:=by obtain ⟨m,hm⟩:=h1; exact DataW.trod_lt m _ _ _ hm
 obtain ⟨x1,ok1,vr1⟩:=Av.loopLasts_r1.arg1 rfl h1
 obtain ⟨b2,len2,cap2,rfl⟩:=okWide_slice Tryz.underlying24 (hval 2 24 v2 rfl rfl)
 have lt2 : ∀ x ∈ p2,x.block < W.heap.size:=by obtain ⟨m,hm⟩:=h2; exact DataW.trod_lt m _ _ _ hm
 obtain ⟨x2,ok2,vr2⟩:=Av.loopLasts_r2.arg1 rfl h2
 obtain ⟨b3,len3,cap3,rfl⟩:=okWide_slice Tryz.underlying57 (hval 3 57 v3 rfl rfl)
 have lt3 : ∀ x ∈ p3,x.block < W.heap.size:=by obtain ⟨m,hm⟩:=h3; exact DataW.trod_lt m _ _ _ hm
 obtain ⟨x3,ok3,vr3⟩:=Av.loopLasts_r3.arg1 rfl h3
 refine (Av.law_calls (calls x0 ok0 x1 ok1 x2 ok2 x3 ok3) W (((vr0.append vr1).append vr2).append vr3)).mono fun e W' ⟨he,bel⟩ => ?_
 subst he
 exact ⟨_,rfl,_,_,_,[],_,[],hW',trodAll_mk1 (shut_bool Tryz.underlying4 _),(trodAll_cons_mk (Below.trod Av.laidOut (by kernel_rfl) (of_decide_eq_true (by kernel_rfl)) h0 bel lt0) (trodAll_cons_mk (Below.trod Av.laidOut (by kernel_rfl) (of_decide_eq_true (by kernel_rfl)) h1 bel lt1) (trodAll_cons_mk (Below.trod Av.laidOut (by kernel_rfl) (of_decide_eq_true (by kernel_rfl)) h2 bel lt2) (trodAll_cons_mk (Below.trod Av.laidOut (by kernel_rfl) (of_decide_eq_true (by kernel_rfl)) h3 bel lt3) trodAll_mk0)))),rfl,bel.frame _,fun h => by cases h⟩
end loopLasts
theorem loopLasts_of (calls : ∀ (x0 : (Av.Sl UInt8)),Av.loopLasts_r0.ok x0→∀ (x1 : (Av.Sl UInt8)),Av.loopLasts_r1.ok x1→∀ (x2 : (Av.Sl UInt8)),Av.loopLasts_r2.ok x2→∀ (x3 : (Av.Sl Bool)),Av.loopLasts_r3.ok x3→Av.ACalls Tryz.prog 7 (Av.loopLasts_r0.enc x0 ++ Av.loopLasts_r1.enc x1 ++ Av.loopLasts_r2.enc x2 ++ Av.loopLasts_r3.enc x3) [] fun r _ => r = .lit (.bool true)) : Rows.LoopLastsSaid :=
 OpenClaim.holds_of_wide 7 Tryz.f7 rfl rfl rfl rfl rfl rfl rfl ⟨rfl,rfl,rfl,rfl,rfl⟩ rfl rfl rfl rfl rfl (by kernel_rfl) Tryz.func7 (by kernel_rfl)
  (of_decide_eq_true (by kernel_rfl)) (by unfold Func.isWrapper; first | (rw [if_pos (by decide +kernel)]; kernel_rfl) | (rw [if_neg (by decide +kernel)]; exact ⟨rfl,rfl⟩))
  (fun os started H enc _ => loopLasts.lifted calls os started H enc)
end Go.Proofs.YtlbilcpnjgkpjaaGreat
end
section
set_option maxHeartbeats 2000000
namespace Go.Proofs.YtlbilcpnjgkpjaaGreat.Av
open Go Go.RowKit
theorem open200r : (openS (newS 200) [97] true).1=(1,0)∧Txr [97] 200 [] (openS (newS 200) [97] true).2∧KP (openS (newS 200) [97] true).2:=by
 refine ⟨rfl,⟨[],⟨by decide,by decide,by decide,rfl,rfl,rfl⟩,by simp,by simp [hasL]⟩,⟨by decide,by decide⟩⟩
theorem sl_hv (x : Sl UInt8) (hn : x.nil=true→x.l=[]) : SV encU 1 x.l (if x.nil then .lit (.slice none 0 0) else .imm (x.l.flatMap encU) x.l.length 1):=by
 cases hnil : x.nil with
 | true => simp only [if_true]; rw [hn hnil]; exact SV.nil
 | false => simp only [Bool.false_eq_true,if_false]; exact SV.imm (fun _ => rfl) (fun x hx => rfl)
theorem absl_one {H : AH} {v : AV} (h : oneA v=true) : absl H 1 1 (zrow [(.lit (.slice none 0 0))] 1) [(0,1,v)]=some (.sl H.length 0 1 1 (.ex 1),H ++ [some (.cells [v])]):=by
 simp [absl,absf,zrow,zbmZ h,splice]
theorem absl_two {H : AH} {v u : AV} (h : oneA v=true) (k : oneA u=true) : absl H 1 2 (zrow [(.lit (.slice none 0 0))] 2) [(0,1,v),(1,1,u)]=some (.sl H.length 0 2 1 (.ex 2),H ++ [some (.cells [v,u])]):=by
 simp [absl,absf,zrow,zbmZ h,zbmZ k,splice]
theorem putS_w {N : Nat} {s : StS} (h : SW N s) (nm : List UInt8) (l : List (List UInt8)) : SW (N + 2 + 9 * lenB l) (putS s nm l).2:=by
 have w1:=openS_w h nm true
 unfold putS
 generalize openS s nm true=O at *
 have w2:=truncS_w w1 O.1.1 0
 generalize truncS O.2 O.1.1 0=Q at *
 have w3:=pcs_w (ino:=O.1.1) (l:=l) (a:=0) (m:=0) w2
 split
 ·exact w1.mono (by omega)
 ·split
  ·exact w2.mono (by omega)
  ·split
   ·exact w3.mono (by omega)
   ·exact (syncS_w w3 _).mono (by omega)
theorem loopLasts_calls (hR : BPure Tryz.prog 3 [] (B true)) (x0 : Sl UInt8) (h0 : loopLasts_r0.ok x0) (x1 : Sl UInt8) (h1 : loopLasts_r1.ok x1) (x2 : Sl UInt8) (h2 : loopLasts_r2.ok x2) (x3 : Sl Bool) (h3 : loopLasts_r3.ok x3) :
  ACalls Tryz.prog 7 (loopLasts_r0.enc x0 ++ loopLasts_r1.enc x1 ++ loopLasts_r2.enc x2 ++ loopLasts_r3.enc x3) [] fun r _ => r = .lit (.bool true):=by
 have hv:=sl_hv x0 h0.1
 have hu:=sl_hv x1 h1.1
 have hz:=sl_hv x2 h2.1
 have ht : SV encT 1 x3.l (if x3.nil then .lit (.slice none 0 0) else .imm (x3.l.flatMap encT) x3.l.length 1):=by
  have hn:=h3.1
  cases hnil : x3.nil with
  | true => simp only [if_true]; rw [hn hnil]; exact SV.nil
  | false => simp only [Bool.false_eq_true,if_false]; exact SV.imm (fun _ => rfl) (fun x hx => rfl)
 have hargs : loopLasts_r0.enc x0 ++ loopLasts_r1.enc x1 ++ loopLasts_r2.enc x2 ++ loopLasts_r3.enc x3=[if x0.nil then .lit (.slice none 0 0) else .imm (x0.l.flatMap encU) x0.l.length 1,if x1.nil then .lit (.slice none 0 0) else .imm (x1.l.flatMap encU) x1.l.length 1,if x2.nil then .lit (.slice none 0 0) else .imm (x2.l.flatMap encU) x2.l.length 1,if x3.nil then .lit (.slice none 0 0) else .imm (x3.l.flatMap encT) x3.l.length 1]:=rfl
 rw [hargs]
 generalize (if x0.nil then AV.lit (.slice none 0 0) else .imm (x0.l.flatMap encU) x0.l.length 1)=v at hv
 generalize (if x1.nil then AV.lit (.slice none 0 0) else .imm (x1.l.flatMap encU) x1.l.length 1)=u at hu
 generalize (if x2.nil then AV.lit (.slice none 0 0) else .imm (x2.l.flatMap encU) x2.l.length 1)=z at hz
 generalize (if x3.nil then AV.lit (.slice none 0 0) else .imm (x3.l.flatMap encT) x3.l.length 1)=tv at ht
 generalize x0.l=A at *
 generalize x1.l=C at *
 generalize x2.l=D at *
 generalize x3.l=E at *
 clear hargs h0 h1 h2 h3
 refine zrrZ ?_
 unfold zgrZ
 simp only [hv.len,bO_some,abI_gtr,bG_bool]
 by_cases k0 : (300 : Int) < (A.length : Int)
 ·simp only [k0,decide_true,show ((true == false)=false) from rfl,gO_false,bO_some,bG_bool,zbnZ,if_true,bB_bool,bI_true]
  exact bP_pure hR (by trivial)
 simp only [k0,decide_false,beq_self_eq_true,gO_true,bO_some,hu.len,abI_gtr,zbnZ,if_false,Bool.false_eq_true,bG_bool]
 by_cases k1 : (300 : Int) < (C.length : Int)
 ·simp only [k1,decide_true,show ((true == false)=false) from rfl,gO_false,bO_some,bG_bool,zbnZ,if_true,bB_bool,bI_true]
  exact bP_pure hR (by trivial)
 simp only [k1,decide_false,beq_self_eq_true,gO_true,bO_some,hz.len,abI_gtr,zbnZ,if_false,Bool.false_eq_true,bG_bool]
 by_cases k2 : (300 : Int) < (D.length : Int)
 ·simp only [k2,decide_true,show ((true == false)=false) from rfl,gO_false,bO_some,bG_bool,zbnZ,if_true,bB_bool,bI_true]
  exact bP_pure hR (by trivial)
 simp only [k2,decide_false,beq_self_eq_true,gO_true,bO_some,ht.len,abI_gtr,zbnZ,if_false,Bool.false_eq_true,bG_bool]
 by_cases k3 : (100 : Int) < (E.length : Int)
 ·simp only [k3,decide_true,bB_bool,bI_true]
  exact bP_pure hR (by trivial)
 simp only [k3,decide_false,bB_bool,zpZ]
 obtain ⟨r,H1,⟨p,rfl,l1,st0,g,hid⟩,hc⟩:=New_c 200 [] (by omega)
 refine bC_of hc ?_
 have e1 : abN .eql nilP (.ptr ([] : AH).length 0) (.lit (.pointer none))=some (B false):=rfl
 have eS : (AV.lit (.string ⟨#[97]⟩))=S (bstr [97]):=rfl
 simp only [e1,bO_some,bB_bool,zpZ]
 rw [absl_one (SV.oneA hv),bH_some]
 have g2:=Grew.app H1 [some (AObj.cells [v])]
 obtain ⟨o1,o2,o3⟩:=open200r
 obtain ⟨cA1,cA2,cA3⟩:=ztmZ (bl:=[(v,A)]) (by simp; omega)
 obtain ⟨cB1,cB2,cB3⟩:=ztmZ (bl:=[(u,C),(z,D)]) (by simp; omega)
 have fA : (([(v,A)] : List (AV × List UInt8)).map Prod.snd).flatten=A:=by simp
 have fB : (([(u,C),(z,D)] : List (AV × List UInt8)).map Prod.snd).flatten=C ++ D:=by simp
 rw [fA] at cA1 cA3
 rw [fB] at cB1 cB3
 rw [List.length_append] at cB3
 obtain ⟨s1,q1,q2,q3⟩:=put_done (l:=([(v,A)] : List (AV × List UInt8)).flatMap fun x => chunkB x.2) o1 o2 o3 (by omega) cA2 (by omega)
 have w1:=putS_w (newS_w 200) [97] (([(v,A)] : List (AV × List UInt8)).flatMap fun x => chunkB x.2)
 have iv:=hv.noId
 have iu:=hu.noId
 have iz:=hz.noId
 have lp0:=st0.p_lt
 have lo0:=st0.os_lt
 refine ⟨_,Put_a (nm:=[97]) (bl:=[(v,A)]) (st0.grew g2) (newS_w 200) (by simp) (by simp [zaZ]) (by intro j hj; simp [idS] at hj; subst hj; exact ⟨by omega,fun q => by have:=lp0 _ q; omega⟩) (by
  intro x hx
  simp only [List.mem_singleton] at hx
  subst hx
  exact ⟨hv.bytes _,SV.oneA hv,by simp only; omega,by simp only [iv]; simp⟩) (by simp) (by rw [cA3]; omega), ?_⟩
 rw [q1]
 rw [q1] at w1
 rintro r H2 ⟨p2,rfl,st2,f2⟩
 rw [absl_two (SV.oneA hu) (SV.oneA hz),bH_some]
 have g3:=Grew.app H2 [some (AObj.cells [u,z])]
 have lp2:=st2.p_lt
 have lo2:=st2.os_lt
 have op1:=q2.openT true
 obtain ⟨s2,r1,r2,r3⟩:=put_done (nm:=[97]) (s:=s1) (l:=([(u,C),(z,D)] : List (AV × List UInt8)).flatMap fun x => chunkB x.2) (by rw [op1]) (by rw [op1]; exact q2) (by rw [op1]; exact q3.kp) (by omega) cB2 (by omega)
 have w2:=putS_w w1 [97] (([(u,C),(z,D)] : List (AV × List UInt8)).flatMap fun x => chunkB x.2)
 refine ⟨_,Put_a (nm:=[97]) (bl:=[(u,C),(z,D)]) (st2.grew g3) w1 (by simp) (by simp [zaZ]) (by intro j hj; simp [idS] at hj; subst hj; exact ⟨by omega,fun q => by have:=lp2 _ q; omega⟩) (by
  intro x hx
  simp only [List.mem_cons,List.not_mem_nil,or_false] at hx
  rcases hx with rfl | rfl
  ·exact ⟨hu.bytes _,SV.oneA hu,by simp only; omega,by simp only [iu]; simp⟩
  ·exact ⟨hz.bytes _,SV.oneA hz,by simp only; omega,by simp only [iz]; simp⟩) (by simp) (by rw [cB3,cA3]; omega), ?_⟩
 rw [r1]
 rw [r1] at w2
 rintro r H3 ⟨p3,rfl,st3,f3⟩
 obtain ⟨r,H4,⟨rfl,st4,f4⟩,hc⟩:=Restart_c st3 w2 (by rw [cB3,cA3]; omega) (ht.2 H3) (by rw [ht.noId]; simp) (by omega)
 refine bC_of hc ?_
 have t4:=r2.restart r3 E
 have w4:=restS_w w2 E
 have op2:=t4.openT false
 obtain ⟨r,H5,⟨rfl,p5,st5,f5⟩,hc⟩:=Open_c st4 w4 (by rw [cB3,cA3]; omega) (name:=[97]) (by simp) false
 rw [op2] at st5 hc
 refine bC_of hc ?_
 simp only [zvZ,List.getElem?_cons_succ,List.getElem?_cons_zero,bO_some]
 rw [cB1] at t4
 obtain ⟨r,H6,⟨x,rfl,sx,g6⟩,hc⟩:=Cat_c t4 st5 w4 (by rw [cB3,cA3]; omega) (by rw [List.length_append]; omega)
 refine bC_of hc ?_
 have ea : abT .add (S (bstr C)) (S (bstr D))=some (S (bstr (C ++ D))):=abT_add (by omega)
 simp only [zvZ,List.getElem?_cons_succ,List.getElem?_cons_zero,bO_some,abI_eql,decide_true,bG_bool,beq_self_eq_true,gO_true,zbnZ,if_true,acB_spec sx,acB_spec (hu.bytes H6),acB_spec (hz.bytes H6),ea,abT_eql,gP_true]
 exact bP_pure hR (by trivial)
end Go.Proofs.YtlbilcpnjgkpjaaGreat.Av
namespace Go.Proofs.YtlbilcpnjgkpjaaGreat
theorem loopLasts_holds : Rows.LoopLastsSaid:=loopLasts_of (Av.loopLasts_calls Av.loopRuns_p)
#print axioms loopLasts_holds
end Go.Proofs.YtlbilcpnjgkpjaaGreat
end
