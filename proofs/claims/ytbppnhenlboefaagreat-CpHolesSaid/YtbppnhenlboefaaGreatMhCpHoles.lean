/- The law and its row. No condition. -/
import Derived.Test.YtbppnhenlboefaaGreatMhK
import Derived.Below
import Derived.Carry
import Derived.ChangeOld
import Derived.OpenShut
import Derived.ProofKit
import Derived.ShutString
import Derived.SizedLaws
import Derived.Test.YtbppnhenlboefaaGreatRows
import Derived.WalkKit
set_option linter.unusedVariables false
set_option linter.unusedSimpArgs false
set_option maxRecDepth 100000
section
namespace Go.Proofs.YtbppnhenlboefaaGreat.Av
open Go Go.RowKit Go.Proofs.Tryz
noncomputable def cpHoles_r0:Rd prog 43 (Sl (UInt8×(UInt8×Unit))):=(Rd.slice (Rd.struct (Rds.cons (Rd.byte Tryz.underlying5 (by kernel_rfl)) (Rds.cons (Rd.byte Tryz.underlying5 (by kernel_rfl)) (Rds.nil _ _) rfl rfl) rfl rfl) Tryz.underlying103 (by kernel_rfl)) Tryz.underlying43 (by kernel_rfl))
noncomputable def cpHoles_r1:Rd prog 44 Int:=(Rd.int .u16 Tryz.underlying44 (by kernel_rfl))
noncomputable def cpHoles_r2:Rd prog 5 UInt8:=(Rd.byte Tryz.underlying5 (by kernel_rfl))
end Go.Proofs.YtbppnhenlboefaaGreat.Av
namespace Go.Proofs.YtbppnhenlboefaaGreat
open Go.ChangeShapes Go.WideShapes Go.ChangeAt Go.RowKit
namespace cpHoles
set_option maxRecDepth 100000 in
theorem lifted (calls:∀(x0:(Av.Sl (UInt8×(UInt8×Unit)))),Av.cpHoles_r0.ok x0→∀(x1:Int),Av.cpHoles_r1.ok x1→∀(x2:UInt8),Av.cpHoles_r2.ok x2→Av.ACalls Tryz.prog 4 (Av.cpHoles_r0.enc x0++Av.cpHoles_r1.enc x1++Av.cpHoles_r2.enc x2) [] λr _=>r=.lit (.bool true))(os:Os)(started:os.Started)(H:Type)(enc:TypeId×Value→H):
  ReturnsInHanded {} Tryz.checked os 4 .any (Rows.cpHolesSpec.pre6 enc Tryz.prog Tryz.f4 Rows.cpHolesRow.domain false) (Rows.cpHolesSpec.post enc Tryz.prog Tryz.f4 false true false false):=by
 refine returnsInHanded_of_change_sized (C:=Tryz.checked) Av.own started (by kernel_rfl) Tryz.func4
  (ChangeSpec.witness6 (enc:=enc) (C:=Tryz.checked) false ⟨#[],#[.slice none 0 0,.int .u16 0,.int .u8 0],[]⟩ 8 (by kernel_rfl) (by kernel_rfl) (by kernel_rfl) (by kernel_rfl)) ?_
 intro W base args ds gs before hval0 hW hcnd hsz0 _;have hval:∀(j:Nat) t v,Tryz.f4.params[j]?=some t→args[j]?=some v→Value.okWide Tryz.prog W .any base t v:=hval0;have hW':=hW;obtain⟨p,q,hA0,hV,rfl,hfz,hnd⟩:=hW;have hA:DataW.TrodAll enc Tryz.prog W 0 (λ_=>true) true Tryz.f4.params.toList args.toList ds p:=hA0;rw[Tryz.params4]at hA hval;obtain⟨v0,vs0,d0,ds0,p0,q0,hargs,rfl,rfl,h0,r0⟩:=trodAll_cons hA;obtain⟨v1,vs1,d1,ds1,p1,q1,rfl,rfl,rfl,h1,r1⟩:=trodAll_cons r0;obtain⟨v2,vs2,d2,ds2,p2,q2,rfl,rfl,rfl,h2,r2⟩:=trodAll_cons r1;obtain⟨rfl,rfl,rfl⟩:=trodAll_nil r2;obtain rfl:args= #[v0,v1,v2]:=by cases args;simp_all
 obtain⟨rfl,rfl⟩:=trodVars_none hV;obtain⟨b0,len0,cap0,rfl⟩:=okWide_slice Tryz.underlying43 (hval 0 43 v0 rfl rfl);have lt0:∀x∈p0,x.block<W.heap.size:=by obtain⟨m,hm⟩:=h0;exact DataW.trod_lt m _ _ _ hm
 obtain⟨x0,ok0,vr0⟩:=Av.cpHoles_r0.arg1 rfl h0;obtain⟨b1,rfl⟩:=okWide_int Tryz.underlying44 (hval 1 44 v1 rfl rfl);have lt1:∀x∈p1,x.block<W.heap.size:=by obtain⟨m,hm⟩:=h1;exact DataW.trod_lt m _ _ _ hm
 obtain⟨x1,ok1,vr1⟩:=Av.cpHoles_r1.arg1 rfl h1;obtain⟨b2,rfl⟩:=okWide_int Tryz.underlying5 (hval 2 5 v2 rfl rfl);have lt2:∀x∈p2,x.block<W.heap.size:=by obtain⟨m,hm⟩:=h2;exact DataW.trod_lt m _ _ _ hm
 obtain⟨x2,ok2,vr2⟩:=Av.cpHoles_r2.arg1 rfl h2;refine(Av.law_calls (calls x0 ok0 x1 ok1 x2 ok2) W ((vr0.append vr1).append vr2)).mono fun e W' ⟨he,bel⟩=>?_
 subst he;exact⟨_,rfl,_,_,_,[],_,[],hW',trodAll_mk1 (shut_bool Tryz.underlying4 _),(trodAll_cons_mk (Below.trod Av.laidOut (by kernel_rfl) (of_decide_eq_true (by kernel_rfl)) h0 bel lt0) (trodAll_cons_mk (Below.trod Av.laidOut (by kernel_rfl) (of_decide_eq_true (by kernel_rfl)) h1 bel lt1) (trodAll_cons_mk (Below.trod Av.laidOut (by kernel_rfl) (of_decide_eq_true (by kernel_rfl)) h2 bel lt2) trodAll_mk0))),rfl,bel.frame _,λh=>by cases h⟩
end cpHoles
theorem cpHoles_of (calls:∀(x0:(Av.Sl (UInt8×(UInt8×Unit)))),Av.cpHoles_r0.ok x0→∀(x1:Int),Av.cpHoles_r1.ok x1→∀(x2:UInt8),Av.cpHoles_r2.ok x2→Av.ACalls Tryz.prog 4 (Av.cpHoles_r0.enc x0++Av.cpHoles_r1.enc x1++Av.cpHoles_r2.enc x2) [] λr _=>r=.lit (.bool true)):Rows.CpHolesSaid:=
 OpenClaim.holds_of_wide 4 Tryz.f4 rfl rfl rfl rfl rfl rfl rfl ⟨rfl,rfl,rfl,rfl,rfl⟩ rfl rfl rfl rfl rfl (by kernel_rfl) Tryz.func4 (by kernel_rfl)
  (of_decide_eq_true (by kernel_rfl)) (by unfold Func.isWrapper;first | (rw[if_pos (by decide+kernel)];kernel_rfl) | (rw[if_neg (by decide+kernel)];exact⟨rfl,rfl⟩))
  (λos started H enc _=>cpHoles.lifted calls os started H enc)
end Go.Proofs.YtbppnhenlboefaaGreat
end
section
set_option maxHeartbeats 2000000
namespace Go.Proofs.YtbppnhenlboefaaGreat.Av
open Go Go.RowKit Go.Proofs.Tryz
theorem Yq {size:Int}:∀{l:List Ext},srt l→Bv size l=l.filter λx=>decide (x.no*8<size)
 | [],_=>rfl
 | x::l,hs=>by
  have hs':=Ae4.1 hs;unfold Bv;rw[List.filter_cons]
  by_cases c:x.no*8<size
  ·rw[if_pos c,if_pos (decide_eq_true c),Yq hs'.2]
  ·rw[if_neg c,if_neg (by simpa using c)]
   refine(List.filter_eq_nil_iff.2 λy hy=>?_).symm
   have:=hs'.1 y hy
   simp only[decide_eq_true_eq];omega
theorem kX:∀(c:Nat) {a:Int} {l:List Ext},srt l→(∀x∈l,a≤x.no∧x.no<a+c)→l.length≤c
 | 0,a,[],_,_=>Ac2 _
 | 0,a,x::l,_,h=>by have:=h x (by simp);omega
 | c+1,a,[],_,_=>by simp
 | c+1,a,x::l,hs,h=>by
  have hs':=Ae4.1 hs;have hx:=h x (by simp)
  have:=kX c (a:=a+1) hs'.2 λy hy=>by
   have:=hs'.1 y hy
   have:=h y (by simp[hy])
   omega
  rw[Ad7];omega
theorem ZV {c4:Nat}{z:Int}{L:AV}{k:List Ext}{H:AH}(hL:SV Ax 9 k L)(ht:H[c4]?=some (some (.cells [I z,L])))(hz:∀x∈k,¬I2 x.b)(hk:k.length≤1000000):
  C7 (.ptr c4 0) (I 0) H λr _=>r=.lit (.bool true):=by
 refine HO (λm x12 x17 H'=>∃i:Nat,i+m=k.length∧x12=.ptr c4 0∧x17=I i∧H'=H) ?_ k.length ⟨0,by omega,rfl,rfl,rfl⟩;rintro m x12 x17 H' R25 hR25 ⟨i,hi,rfl,rfl,rfl⟩;unfold Do;simp only[zJ,Ak ht,hL.len,AN,Af];rcases Ac5 i k.length with hlt | hge
 ·simp only[show(i:Int)<(k.length:Int) by omega,zE]
  have hx:=DR hlt;generalize k[i]=x at hx;have hzx:=hz x (Ac3 hx);refine HP R25 (λm2 y12 y17 y18 y19 H2=>∃(j:Nat) (f:Bool),j+m2=8∧y12=.ptr c4 0∧y17=I i∧y18=B f∧y19=I j∧H2=H'∧(f=true↔∃q,q<j∧x.b.getD q 0≠0)) ?_ 8 ⟨0,false,by omega,rfl,rfl,rfl,rfl,rfl,by simp⟩;rintro m2 y12 y17 y18 y19 H2 R32 hR32 ⟨j,f,hj,rfl,rfl,rfl,rfl,rfl,hf⟩;unfold Dp;simp only[zO]
  by_cases j8:j<8
  ·simp only[show(j:Int)<8 by omega,zE]
   have q1:Ap .add (I (j:Int)) (I 1)=some (I ((j+1:Nat):Int)):=by rw[Aw (by omega) (by omega)];congr 3
   cases f with
   | true=>
    simp only[zP,show((true==false)=false)from rfl,BE,Aa9,q1];refine hR32 (m2 - 1) _ _ _ _ _ (by omega) ⟨j+1,true,by omega,rfl,rfl,rfl,rfl,rfl,?_⟩;refine⟨λ_=>?_,λ_=>rfl⟩;obtain⟨q,h1,h2⟩:=hf.1 rfl;exact⟨q,by omega,h2⟩
   | false=>
    have i1:∀t,(Ax x++t).drop 1=AB x.b++t:=λ_=>rfl
    have hl8:(AB x.b).length=8:=by rw[B3,x.hb]
    have ia:∀t,PK 8 1 (.ip (AB x.b++t)) (I (j:Int))=some (.ip ((AB x.b++t).drop j)):=λt=>by
     have e:(0:Int)≤(j:Int)∧(j:Int)<((8:Nat):Int):=⟨by omega,by omega⟩
     show(if(0:Int)≤(j:Int)∧(j:Int)<((8:Nat):Int)then Ac (((j:Int)).toNat*1) (.ip (AB x.b++t))else none)=_
     rw[if_pos e,Ah3,Ah5];rfl
    have il:∀t,Au false 1 H2 (.ip ((AB x.b++t).drop j))=some (.lit (.int .u8 (x.b.getD j 0).toNat)):=λt=>by
     rw[Lv,Ah,Ad1,Ah1,Ab9 (by omega)];have hb:=x.hb;rw[AB,Ae7,Ac8,DR (show j<x.b.length by omega)];rfl
    simp only[Ab4,yS,zJ,Ak ht,hL.idx A1 hx rfl,NF,i1,ia,il,BL,q1];refine hR32 (m2 - 1) _ _ _ _ _ (by omega) ⟨j+1,_,by omega,rfl,rfl,rfl,rfl,rfl,?_⟩;rw[decide_eq_true_iff]
    constructor
    ·intro h
     refine⟨j,by omega,λe=>h ?_⟩;rw[e];rfl
    ·rintro⟨q,h1,h2⟩
     by_cases e:q=j
     ·subst e
      intro h3;refine h2 (UInt8.toNat_inj.1 ?_);have h4:((x.b.getD q 0).toNat:Int)=0:=h3
      show _=0
      omega
     ·exact absurd (hf.2 ⟨q,by omega,h2⟩) (by simp)
  ·have hj8:j=8:=by omega
   subst hj8
   have ft:f=true:=by
    refine hf.2 ?_
    by_cases e:∃q,q<8∧x.b.getD q 0≠0
    ·exact e
    ·refine absurd (λc hc=>?_) hzx
     obtain⟨q,hq,rfl⟩:=List.mem_iff_getElem.1 hc
     by_cases z0:x.b[q]=0
     ·exact z0
     ·exact absurd ⟨q,by have:=x.hb;omega,by rw[Ac8,DR hq];exact z0⟩ e
   subst ft;have q1:Ap .add (I (i:Int)) (I 1)=some (I ((i+1:Nat):Int)):=by rw[Aw (by omega) (by omega)];congr 3
   simp only[show ¬(((8:Nat):Int)<8) by omega,yY,zX,Ak6,q1];exact hR25 (m - 1) _ _ _ (by omega) ⟨i+1,by omega,rfl,rfl,rfl⟩
 ·simp only[show ¬(i:Int)<(k.length:Int) by omega,yY]
  exact A4 Qf (by trivial)
theorem cpHoles_calls (x0:Sl (UInt8×(UInt8×Unit)))(h0:cpHoles_r0.ok x0)(x1:Int)(h1:cpHoles_r1.ok x1)(x2:UInt8)(h2:cpHoles_r2.ok x2):
  ACalls prog 4 (cpHoles_r0.enc x0++cpHoles_r1.enc x1++cpHoles_r2.enc x2) [] λr _=>r=.lit (.bool true):=by
 have hx:0≤x1∧x1≤65535:=by
  have h:IntKind.u16.min≤x1∧x1≤IntKind.u16.max:=h1
  simpa[IntKind.min,IntKind.max,IntKind.signed,IntKind.bits]using h
 obtain⟨q,hq⟩:=rT x0 h0.1
 show ACalls prog 4 [oB x0,.lit (.int .u16 x1),.lit (.int .u8 x2.toNat)] [] _
 obtain⟨n,rfl⟩:∃n:Nat,x1=n:=⟨x1.toNat,by omega⟩;have hw:x2.toNat<256:=x2.toNat_lt;generalize x2.toNat=w at*;generalize oB x0=bv at*;refine Lg ?_;unfold EU;obtain⟨R,hR,hp⟩:=dX hq n;refine A4 hp ?_
 refine⟨_,tF (A:=[]) hR (Al4 _ (by omega)) (by rw[RI,Ac0];omega) (λx hx=>by
  have:=Yz x hx
  rw[Ac0]at this;omega) SV.nil (by simp) [],?_⟩
 have hn:n % 500<500:=Al4 _ (by omega);generalize n % 500=n at*;rintro r H1 ⟨os,s,m,l,k,p,rfl,st,tw,ll,sw⟩;have n1:Fb .not (B true)=some (B false):=rfl;simp only[zL,yV,n1,Ag];obtain⟨R1,hR1,r,H2,⟨rfl,g2⟩,q2⟩:=bK st sw (by omega);refine bC_of q2 ?_;obtain⟨L1,hL1,hp1⟩:=bE hR1 (sw.now.sm (by omega)) 1;refine A4 hp1 ?_;obtain⟨-,-,t1⟩:=tw.one;rw[t1]at hL1⊢;have cn1:=Y0 H2 (n:Int) (SV.oneA hL1);simp only[zL,Ab,cn1.1,cn1.2,zM];clear cn1;have st2:=st.grew g2;have b1:=Bes.new st2 [I n,L1];have st3:=st2.grew (Grew.app H2 [some (AObj.cells [I n,L1])]);generalize (H2++[some (AObj.cells [I (n:Int),L1])])=H3 at*;generalize H2.length=c1 at*;obtain⟨r,H4,⟨sl,g4⟩,q4⟩:=qU w hw H3;refine bC_of q4 ?_;obtain⟨a1,a2⟩:=ZH w;obtain⟨r,H5,⟨rfl,p5,st5,f5⟩,q5⟩:=bM (Bd:=10000) (l:=Tv w) (st3.grew g4) sw (FL sw λd hd=>sw.now.2 d hd) (by omega) (by omega) sl (λt ht=>by have:=a2 t ht;omega) (by omega);refine bC_of q5 ?_;obtain⟨s',k',e,tw',at',hz',hc'⟩:=sE tw (by omega) ll w;have w5:=jY sw (Tv w) (Bd:=10000) (FL sw λd hd=>sw.now.2 d hd) (by omega);rw[e]at st5 w5⊢;have b5:=(b1.grew g4).step f5;have on:=Zf H5 0;simp only[on.1,on.2,zM];clear on;have b6:=Bes.new st5 [I 0,S (A0 []),I 0,I 0,I 0,I 0,I 0];have g6:=Grew.app H5 [some (AObj.cells [I 0,S (A0 []),I 0,I 0,I 0,I 0,I 0])];have st6:=st5.grew g6;have b5:=b5.grew g6;clear g6;generalize (H5++[some (AObj.cells [I 0,S (A0 []),I 0,I 0,I 0,I 0,I 0])])=H6 at*;generalize H5.length=c2 at*;obtain⟨R9,hR9,r,H9,⟨rfl,g9⟩,q9⟩:=bK st6 w5 (by omega);refine bC_of q9 ?_;obtain⟨L9,hL9,hp9⟩:=bE hR9 (w5.now.sm (by omega)) 2;refine A4 hp9 ?_;obtain⟨t8,t9⟩:=tw'.get;rw[t9]at hL9⊢;have cn9:=Y0 H9 (n:Int) (SV.oneA hL9);simp only[zL,Ab,cn9.1,cn9.2,zM];clear cn9;have xT:=st6.grew g9;have b9:=Bes.new xT [I n,L9];have g10:=Grew.app H9 [some (AObj.cells [I (n:Int),L9])];have b5:=(b5.grew g9).grew g10;have b6:=(b6.grew g9).grew g10;generalize (H9++[some (AObj.cells [I (n:Int),L9])])=H10 at*;generalize H9.length=c4 at*;have lk:=JI w5 2;rw[tw'.content]at lk
 have c8:Ap .quo (I ((n:Int)+8 - 1)) (I 8)=some (I (Cx n)):=by
  rw[I4 (by omega) (by omega) (by omega)];unfold Cx
  congr 3;omega
 simp only[zG,Ak b5.at',CL,Aw (a:=(n:Int)) (b:=8) (by omega) (by omega),BM (a:=(n:Int)+8) (b:=1) (by omega) (by omega),c8];obtain⟨-,-,sl1,sb1,-⟩:=Dw.1 tw.ca;have cq:0≤Cx n∧Cx n≤63:=by unfold Cx;omega
 have hC:(l.filter λx=>decide (x.no<Cx n))=Bv n l:=by
  rw[Yq sl1];refine List.filter_congr λx hx=>?_
  unfold Cx;simp only[decide_eq_decide];omega
 have hle:(Bv n l).length≤(Cx n).toNat:=kX _ (a:=0) (K3 sl1) λx hx=>by
  obtain⟨y1,y2⟩:=(Em sl1 x).1 hx
  have:=sb1 x.no ⟨x,y1,rfl⟩
  unfold Cx;omega
 refine HN (λm2 x2 x9 x11 x12 x14 x15 x16 H'=>∃i:Nat,i+m2=l.length∧x2=.lit (.int .u8 w)∧x9=.ptr c1 0∧x11=.ptr c2 0∧x12=.ptr c4 0∧x14=I (Cx n)∧x15=I (((l.take i).filter λx=>decide (x.no<Cx n)).length:Nat)∧x16=I i∧H'=H10) ?_ l.length ⟨0,by omega,rfl,rfl,rfl,rfl,rfl,rfl,rfl,rfl⟩;rintro m2 x2 x9 x11 x12 x14 x15 x16 H' R12 hR12 ⟨i,hi,rfl,rfl,rfl,rfl,rfl,rfl,rfl,rfl⟩;unfold Dn;simp only[zJ,Ak b5.at',hL1.len,AN,Af];rcases Ac5 i l.length with hlt | hge
 ·have hx:=DR hlt
  generalize l[i]=x at hx;have i0:∀t,(Ax x++t)[0]?=some (I x.no):=λ_=>rfl
  have ht:l.take (i+1)=l.take i++[x]:=by rw[Ah8,hx];rfl
  have q1:Ap .add (I (i:Int)) (I 1)=some (I ((i+1:Nat):Int)):=by rw[Aw (by omega) (by omega)];congr 3
  have hf1:((l.take i).filter λx=>decide (x.no<Cx n)).length≤240:=by
   have h1:=Ah4 (fun x:Ext=>decide (x.no<Cx n)) (l.take i);rw[Ac0]at h1;omega
  simp only[show(i:Int)<(l.length:Int) by omega,zE,hL1.idx A1 hx rfl,NF,Lv,Ad9,Ah,i0,zO]
  by_cases c:x.no<Cx n
  ·have q2:Ap .add (I ((((l.take i).filter λx=>decide (x.no<Cx n)).length:Nat):Int)) (I 1)=some (I ((((l.take (i+1)).filter λx=>decide (x.no<Cx n)).length:Nat):Int)):=by
    rw[Aw (by omega) (by omega),ht,Al5,Ac6,List.filter_cons_of_pos (by simpa using c)]
    congr 3
   simp only[c,zE,q2,Ab];rw[ED];unfold Dm;simp only[q1,Ab];exact hR12 (m2 - 1) _ _ _ _ _ _ _ _ (by omega) ⟨i+1,by omega,rfl,rfl,rfl,rfl,rfl,rfl,rfl,rfl⟩
  ·simp only[c,yY]
   rw[ED];unfold Dm;simp only[q1,Ab];refine hR12 (m2 - 1) _ _ _ _ _ _ _ _ (by omega) ⟨i+1,by omega,rfl,rfl,rfl,rfl,rfl,?_,rfl,rfl⟩;rw[ht,Al5,List.filter_cons_of_neg (by simpa using c),List.filter_nil,Af1]
 ·have hil:i=l.length:=by omega
  subst hil;rw[Aj1,hC];have r1:Ap .rem (.lit (.int .u8 (w:Int))) (.lit (.int .u8 4))=some (.lit (.int .u8 ((w % 4:Nat):Int))):=by rw[I5 (by omega) (by omega)];rfl
  simp only[show ¬((l.length:Nat):Int)<(l.length:Int) by omega,yY,Ak b6.at',Ah,CL,Ab3,yR,r1,CX,AK];have full:¬EQ (Rz w) ((n:Int),l)→(k'.length:Int)=Cx n:=hc'
  have fin:∀b:Bool,(b=true→¬EQ (Rz w) ((n:Int),l))→(b=false→EQ (Rz w) ((n:Int),l))→bI b (bO (Ac 1 (.ptr c4 0)) λv37=>bO (Au false 1 H' v37) λv38=>bO (Ba v38) λv39=>bO (Ap .eql v39 (I (Cx n))) λv40=>bG v40 true λw41=>gP w41 (PCall prog 3 [] H') λv42=>bO (A8 v40 v42 (B false)) λv43=>v43=.lit (.bool true)) (C7 (.ptr c4 0) (I 0) H' λr _=>r=.lit (.bool true)):=λb hb hb2=>by
   cases b with
   | true=>
    simp only[zE,zJ,Ak b9.at',hL9.len,CX,full (hb rfl),AK,beq_self_eq_true,cN];refine A4 Qf ?_;simp only[Aa9,As]
   | false=>
    simp only[Ag];exact ZV (k:=k') hL9 b9.at' (hz' (hb2 rfl)) (by simp only at lk;omega)
  by_cases w2:w % 4=2
  ·simp only[show(((w % 4:Nat):Int)=2)from by omega,yW,show((true==false)=false)from rfl,BE,Yp,As,yV]
   refine fin true (λ_=>?_) (λq=>by cases q);unfold Rz;rw[if_neg (by omega),if_pos w2];rintro(q | ⟨q,-⟩)
   ·exact absurd q (by decide)
   ·exact absurd q (by decide)
  ·simp only[show ¬(((w % 4:Nat):Int)=2)from by omega,C9,yS,r1,Ab,BL]
   by_cases w1:w % 4=1
   ·simp only[show(((w % 4:Nat):Int)=1)from by omega,yR,C9,Ab4,show((false==true)=false)from rfl,BE,yV]
    refine fin false (λq=>by cases q) (λ_=>?_);unfold Rz;rw[if_pos w1];exact .inl rfl
   ·simp only[show ¬(((w % 4:Nat):Int)=1)from by omega,yT,yW,Ab4,yS,yV,CX]
    have ea:Rz w=Ii:=by unfold Rz;rw[if_neg w1,if_neg w2]
    refine fin _ (λq=>?_) (λq=>?_)
    ·rw[decide_eq_true_iff]at q
     rw[ea];rintro(z | ⟨-,z⟩)
     ·exact absurd z (by decide)
     ·simp only at z;omega
    ·rw[decide_eq_false_iff_not]at q
     rw[ea];refine .inr ⟨rfl,?_⟩
     show((Bv n l).length:Int)<Cx n
     omega
end Go.Proofs.YtbppnhenlboefaaGreat.Av
namespace Go.Proofs.YtbppnhenlboefaaGreat
theorem cpHoles_holds:Rows.CpHolesSaid:=cpHoles_of Av.cpHoles_calls
#print axioms cpHoles_holds
end Go.Proofs.YtbppnhenlboefaaGreat
end
