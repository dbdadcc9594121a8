/- The law and its row. No condition. -/
import Derived.Test.YtbppnhenlboefaaGreatMhK
import Derived.Below
import Derived.Carry
import Derived.ChangeOld
import Derived.OpenShut
import Derived.ProofKit
import Derived.ShutString
import Derived.SizedLaws
import Derived.Test.YtbppnhenlboefaaGreatRows
import Derived.WalkKit
set_option linter.unusedVariables false
set_option linter.unusedSimpArgs false
set_option maxRecDepth 100000
section
namespace Go.Proofs.YtbppnhenlboefaaGreat.Av
open Go Go.RowKit Go.Proofs.Tryz
noncomputable def cpFull_r0:Rd prog 26 (Sl UInt8):=(Rd.slice (Rd.byte Tryz.underlying5 (by kernel_rfl)) Tryz.underlying26 (by kernel_rfl))
noncomputable def cpFull_r1:Rd prog 5 UInt8:=(Rd.byte Tryz.underlying5 (by kernel_rfl))
end Go.Proofs.YtbppnhenlboefaaGreat.Av
namespace Go.Proofs.YtbppnhenlboefaaGreat
open Go.ChangeShapes Go.WideShapes Go.ChangeAt Go.RowKit
namespace cpFull
set_option maxRecDepth 100000 in
theorem lifted (calls:∀(x0:(Av.Sl UInt8)),Av.cpFull_r0.ok x0→∀(x1:UInt8),Av.cpFull_r1.ok x1→Av.ACalls Tryz.prog 8 (Av.cpFull_r0.enc x0++Av.cpFull_r1.enc x1) [] λr _=>r=.lit (.bool true))(os:Os)(started:os.Started)(H:Type)(enc:TypeId×Value→H):
  ReturnsInHanded {} Tryz.checked os 8 .any (Rows.cpFullSpec.pre6 enc Tryz.prog Tryz.f8 Rows.cpFullRow.domain false) (Rows.cpFullSpec.post enc Tryz.prog Tryz.f8 false true false false):=by
 refine returnsInHanded_of_change_sized (C:=Tryz.checked) Av.own started (by kernel_rfl) Tryz.func8
  (ChangeSpec.witness6 (enc:=enc) (C:=Tryz.checked) false ⟨#[],#[.slice none 0 0,.int .u8 0],[]⟩ 8 (by kernel_rfl) (by kernel_rfl) (by kernel_rfl) (by kernel_rfl)) ?_
 intro W base args ds gs before hval0 hW hcnd hsz0 _;have hval:∀(j:Nat) t v,Tryz.f8.params[j]?=some t→args[j]?=some v→Value.okWide Tryz.prog W .any base t v:=hval0;have hW':=hW;obtain⟨p,q,hA0,hV,rfl,hfz,hnd⟩:=hW;have hA:DataW.TrodAll enc Tryz.prog W 0 (λ_=>true) true Tryz.f8.params.toList args.toList ds p:=hA0;rw[Tryz.params8]at hA hval;obtain⟨v0,vs0,d0,ds0,p0,q0,hargs,rfl,rfl,h0,r0⟩:=trodAll_cons hA;obtain⟨v1,vs1,d1,ds1,p1,q1,rfl,rfl,rfl,h1,r1⟩:=trodAll_cons r0;obtain⟨rfl,rfl,rfl⟩:=trodAll_nil r1;obtain rfl:args= #[v0,v1]:=by cases args;simp_all
 obtain⟨rfl,rfl⟩:=trodVars_none hV;obtain⟨b0,len0,cap0,rfl⟩:=okWide_slice Tryz.underlying26 (hval 0 26 v0 rfl rfl);have lt0:∀x∈p0,x.block<W.heap.size:=by obtain⟨m,hm⟩:=h0;exact DataW.trod_lt m _ _ _ hm
 obtain⟨x0,ok0,vr0⟩:=Av.cpFull_r0.arg1 rfl h0;obtain⟨b1,rfl⟩:=okWide_int Tryz.underlying5 (hval 1 5 v1 rfl rfl);have lt1:∀x∈p1,x.block<W.heap.size:=by obtain⟨m,hm⟩:=h1;exact DataW.trod_lt m _ _ _ hm
 obtain⟨x1,ok1,vr1⟩:=Av.cpFull_r1.arg1 rfl h1;refine(Av.law_calls (calls x0 ok0 x1 ok1) W (vr0.append vr1)).mono fun e W' ⟨he,bel⟩=>?_
 subst he;exact⟨_,rfl,_,_,_,[],_,[],hW',trodAll_mk1 (shut_bool Tryz.underlying4 _),(trodAll_cons_mk (Below.trod Av.laidOut (by kernel_rfl) (of_decide_eq_true (by kernel_rfl)) h0 bel lt0) (trodAll_cons_mk (Below.trod Av.laidOut (by kernel_rfl) (of_decide_eq_true (by kernel_rfl)) h1 bel lt1) trodAll_mk0)),rfl,bel.frame _,λh=>by cases h⟩
end cpFull
theorem cpFull_of (calls:∀(x0:(Av.Sl UInt8)),Av.cpFull_r0.ok x0→∀(x1:UInt8),Av.cpFull_r1.ok x1→Av.ACalls Tryz.prog 8 (Av.cpFull_r0.enc x0++Av.cpFull_r1.enc x1) [] λr _=>r=.lit (.bool true)):Rows.CpFullSaid:=
 OpenClaim.holds_of_wide 8 Tryz.f8 rfl rfl rfl rfl rfl rfl rfl ⟨rfl,rfl,rfl,rfl,rfl⟩ rfl rfl rfl rfl rfl (by kernel_rfl) Tryz.func8 (by kernel_rfl)
  (of_decide_eq_true (by kernel_rfl)) (by unfold Func.isWrapper;first | (rw[if_pos (by decide+kernel)];kernel_rfl) | (rw[if_neg (by decide+kernel)];exact⟨rfl,rfl⟩))
  (λos started H enc _=>cpFull.lifted calls os started H enc)
end Go.Proofs.YtbppnhenlboefaaGreat
end
section
set_option maxHeartbeats 2000000
namespace Go.Proofs.YtbppnhenlboefaaGreat.Av
open Go Go.RowKit Go.Proofs.Tryz
theorem cpFull_calls (x0:Sl UInt8)(h0:cpFull_r0.ok x0)(x1:UInt8)(h1:cpFull_r1.ok x1):
  ACalls prog 8 (cpFull_r0.enc x0++cpFull_r1.enc x1) [] λr _=>r=.lit (.bool true):=by
 have hv:SV Je 1 x0.l (if x0.nil then .lit (.slice none 0 0)else .imm (x0.l.flatMap Je) x0.l.length 1):=by
  have hn:=h0.1;cases hnil:x0.nil with
  | true=>simp only[if_true];rw[hn hnil];exact SV.nil
  | false=>simp only[An];exact SV.imm (λ_=>rfl) (λx hx=>rfl)
 show ACalls prog 8 [if x0.nil then .lit (.slice none 0 0)else .imm (x0.l.flatMap Je) x0.l.length 1,.lit (.int .u8 x1.toNat)] [] _
 generalize (if x0.nil then AV.lit (.slice none 0 0)else .imm (x0.l.flatMap Je) x0.l.length 1)=v at hv;generalize x0.l=A at*;have hw:x1.toNat<256:=x1.toNat_lt;generalize x1.toNat=w at*;refine Mw ?_;unfold FO;simp only[hv.len,Ab,Hp]
 by_cases k0:(200:Int)<(A.length:Int)
 ·simp only[k0,zE,Af]
  exact bC_of (Qf []) (by trivial)
 simp only[k0,yY,Af];obtain⟨e,he⟩:∃e:Nat,w % 40=e:=⟨_,rfl⟩
 have c1:Ap .quo (I ((A.length:Int)+7)) (I 8)=some (I (((A.length+7)/8:Nat):Int)):=by
  rw[I4 (by omega) (by omega) (by omega)];congr 3
 have c2:Ap .rem (.lit (.int .u8 (w:Int))) (.lit (.int .u8 40))=some (.lit (.int .u8 (e:Int))):=by rw[I5 (by omega) (by omega),← he];rfl
 have c3:Ts .i64 (.lit (.int .u8 (e:Int)))=some (I e):=Lt (by omega) (by omega);have c4:Ap .add (I (((A.length+7)/8:Nat):Int)) (I (e:Int))=some (I (((A.length+7)/8+e:Nat):Int)):=by rw[Aw (by omega) (by omega)];congr 3
 simp only[Aw (a:=(A.length:Int)) (b:=7) (by omega) (by omega),c1,c2,c3,c4,Ab];obtain⟨r,H1,⟨p,rfl,ll1,st0,g0,hid⟩,hc⟩:=iL (((A.length+7)/8+e:Nat):Int) [] (by omega);refine bC_of hc ?_;have n1:V5 .eql So (.ptr ([]:AH).length 0) (.lit (.pointer none))=some (B false):=rfl;have lo:=st0.os_lt;generalize ([]:AH).length=os at*;have e5:=Rr (H:=H1) (SV.oneA hv);simp only[n1,zS,AK,yS,e5,Az];have g2:=Grew.app H1 [some (AObj.cells [v])];have iv:=hv.noId;have hch:([(v,A)]:List (AV×List UInt8)).flatMap (λx=>B9 x.2)=B9 A:=by simp
 obtain⟨cA1,cA2,cA3⟩:=I8 (bl:=[(v,A)]) (by simp;omega);have fA:(([(v,A)]:List (AV×List UInt8)).map Prod.snd).flatten=A:=by simp
 rw[fA]at cA1 cA3;obtain⟨s1,l,t1,tx⟩:=tU (r:=(A.length+7)/8+e) (t:=A) (by omega) (by omega) (by omega);have u1:=X8 (Sn (((A.length+7)/8+e:Nat):Int)) [97] (([(v,A)]:List (AV×List UInt8)).flatMap λx=>B9 x.2)
 refine⟨_,iN (nm:=[97]) (bl:=[(v,A)]) (st0.grew g2) (Sn _) (by simp) (by simp[Aa]) (by intro j hj;simp[AU]at hj;subst hj;rw[hid];exact⟨by omega,by simp⟩) (by
  intro x hx;simp only[Ag2]at hx;subst hx;exact⟨hv.bytes _,SV.oneA hv,by simp only;omega,by simp only[iv];simp⟩) (by simp) (by rw[cA3];omega),?_⟩
 rw[cA3]at u1;rw[hch]at u1⊢;rw[t1]at u1⊢;rintro r H2 ⟨p2,rfl,st2,f2⟩;have u1:SW 4000 s1:=u1.mono (by omega);have lA:Cr H2 1 3 (Be [(.lit (.string ⟨#[]⟩))] 3) [(0,1,(.lit (.string ⟨#[45,45,115,112,97,114,115,101,61,110,101,118,101,114]⟩))),(1,1,(.lit (.string ⟨#[97]⟩))),(2,1,(.lit (.string ⟨#[98]⟩)))]=some (.sl H2.length 0 3 1 (.ex 3),H2++[some (.cells ([LA,[97],[98]].flatMap Cj))]):=rfl;simp only[Ab3,yR,yY,As,An,lA,Az];have g4:=Grew.app H2 [some (AObj.cells ([LA,[97],[98]].flatMap Cj))]
 have v4:Aa (H2++[some (AObj.cells ([LA,[97],[98]].flatMap Cj))]) 1 (.sl H2.length 0 3 1 (.ex 3))=some ([LA,[97],[98]].flatMap Cj,[LA,[97],[98]].length):=by
  rw[A9 CI (by simp[Cj])];rfl
 obtain⟨r,H5,⟨rfl,p5,st5,f5⟩,q5⟩:=bM (Bd:=4096) (l:=[LA,[97],[98]]) (st2.grew g4) u1 (FL u1 λd hd=>Ad8 (u1.now.2 d hd) (by omega)) (by omega) (by omega) v4 (by simp[LA]) (by simp);refine bC_of q5 ?_;have w5:=jY u1 [LA,[97],[98]] (Bd:=4096) (FL u1 λd hd=>Ad8 (u1.now.2 d hd) (by omega)) (by omega);obtain⟨s',m,k,ec,tw,hm,hk⟩:=oH tx (by omega) (x:=e) rfl;obtain⟨ct1,ct2⟩:=rU tw (by omega) tx.at' hm (Am3 _ _) hk;rw[ec]at st5 w5⊢;have w5:SW 800000 s':=w5.mono (by omega);generalize hE:(if(A.length+7)/8≤e then(0:Int)else 4)=E at*;have on:=Zf H5 E;simp only[on.1,on.2,zM];clear on;have b6:=Bes.new st5 [I E,S (A0 []),I 0,I 0,I 0,I 0,I 0];have st6:=st5.grew (Grew.app H5 [some (AObj.cells [I E,S (A0 []),I 0,I 0,I 0,I 0,I 0])]);generalize (H5++[some (AObj.cells [I E,S (A0 []),I 0,I 0,I 0,I 0,I 0])])=H6 at*;generalize H5.length=c2 at*;obtain⟨r,H7,⟨va,rfl,z1,z2,g7⟩,q7⟩:=iH st6 w5 (by omega) 1;refine bC_of q7 ?_;have st7:=st6.grew g7;simp only[zL,Ab];obtain⟨r,H8,⟨vb,rfl,y1,y2,g8⟩,q8⟩:=iH st7 w5 (by omega) 2;refine bC_of q8 ?_;have b8:=(b6.grew g7).grew g8;rw[ct1]at z1⊢;rw[ct2]at y1⊢;have z8:=g8.slice z1;have hlb:(A.take (min A.length (8*e))).length=min A.length (8*e):=by rw[Ac0];omega
 have lb:=By y1;have la:=hv.len;obtain⟨vc,s1',s2',-⟩:=E3 (hv.bytes H8) (lo:=none) (hi:=some (I ((min A.length (8*e):Nat):Int))) (l:=0) (k:=min A.length (8*e)) rfl (by simp[Bs]) (by omega) (by omega)
 have s2':Aa H8 1 vc=some (AB (A.take (min A.length (8*e))),min A.length (8*e)):=by
  rw[s2'];simp only[Al7,zW,Ah5,IM]
 have m1:Ap .mul (I 8) (I (e:Int))=some (I (8*e)):=DM (by omega) (by omega)
 have m2:amm VP [I (A.length:Int),I (8*(e:Int))]=some (I ((min A.length (8*e):Nat):Int)):=by
  rw[NE,ZW];congr 3;omega
 rw[hlb]at lb
 have fE1:decide (E=0)=decide ((((A.length+7)/8:Nat):Int)≤(e:Int)):=by
  rw[← hE,decide_eq_decide];split<;>omega
 have fE2:decide (E=4)=decide ((e:Int)<(((A.length+7)/8:Nat):Int)):=by
  rw[← hE,decide_eq_decide];split<;>omega
 simp only[A2,zJ,CX,yW,zP,yS,PI z8,PI (hv.bytes H8),Gs,Ak b8.at',WP,Hp,nP,fE1,fE2,lb,la,m1,m2,PI y1,s1',PI s2',TN];refine bC_of (Qf H8) ?_;simp only[Aa9,As]
end Go.Proofs.YtbppnhenlboefaaGreat.Av
namespace Go.Proofs.YtbppnhenlboefaaGreat
theorem cpFull_holds:Rows.CpFullSaid:=cpFull_of Av.cpFull_calls
#print axioms cpFull_holds
end Go.Proofs.YtbppnhenlboefaaGreat
end
