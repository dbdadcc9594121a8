/- Texts of this proof, one behind the other, packed into one file by a program of this session. No condition. -/
import Derived.Test.YtbppnhenlboefaaGreatMwI
import Derived.Lib.Bytealg
set_option linter.unusedVariables false
set_option linter.unusedSimpArgs false
set_option maxRecDepth 100000
namespace Go.Proofs.YtbppnhenlboefaaGreat.Av
open Go Go.RowKit Go.Proofs.Tryz
section
theorem kS {N:Nat}{s:StS}{os:Nat}{p a2:AV}{H:AH}{ino:Int}{bl:List (AV×List UInt8)}(hst:StAt s os p H)(hw:SW N s)
  (ha:Aa H 1 a2=some (bl.map Prod.fst,bl.length)) (hai:∀j∈AR a2,j≠os∧j∉AR p) (hb:∀x∈bl,Aa H 1 x.1=some (Bc x.2,x.2.length)∧oneA x.1=true∧x.2.length≤1000000∧∀j∈AR x.1,j≠os∧j∉AR p) (hbn:bl.length≤1000000)
  (hN:N+9*I1 (bl.flatMap λx=>BZ x.2)<900000):
  ACalls prog 36 [.ptr os 0,I ino,a2] H λr H'=>∃p',r=I (pcs ino (bl.flatMap λx=>BZ x.2) s 0 0).2∧StAt (pcs ino (bl.flatMap λx=>BZ x.2) s 0 0).1.1 os p' H'∧StF os p p' H H':=Vz (by
 generalize hRES:pcs ino (bl.flatMap λx=>BZ x.2) s 0 0=RES;generalize hNN:N+9*I1 (bl.flatMap λx=>BZ x.2)=NN at hN;unfold PR;have n1:∀(Z:AH) (x:AV),oneA x=true→A5 Z x=some (.ptr Z.length 0,Z++[some (.cells [x])]):=λZ x hx=>by unfold A5;rw[AL hx];rfl
 generalize hb0:H.length=b0;have al:AW a2=some (I (bl.length:Nat)):=B4 ha
 have s0:AS 1 (H++[some (AObj.cells [.ptr os 0])]++[some (.cells [I ino])]++[some (.cells [I 0])]++[some (.cells [I 0])]) (.ptr (b0+3) 0) (I 0)=some (H++[some (AObj.cells [.ptr os 0])]++[some (.cells [I ino])]++[some (.cells [I 0])]++[some (.cells [I 0])]):=by
  rw[iC (cs:=[I 0]) (k:=0) (by rw[← hb0];simp) (by simp) rfl]
  congr 1
  apply wH;intro j
  by_cases c:j=b0+3
  ·subst c
   rw[Jo (by rw[← hb0];simp),← hb0];simp
  ·rw[C3 (wD c)]
 have l1:(H++[some (AObj.cells [AV.ptr os 0])]).length=b0+1:=by simp[hb0]
 have l2:(H++[some (AObj.cells [AV.ptr os 0])]++[some (AObj.cells [I ino])]).length=b0+2:=by simp[hb0]
 have l3:(H++[some (AObj.cells [AV.ptr os 0])]++[some (AObj.cells [I ino])]++[some (AObj.cells [I 0])]).length=b0+3:=by simp[hb0]
 simp only[n1 H (AV.ptr os 0) rfl,tV,n1 (H++[some (AObj.cells [AV.ptr os 0])]) (I ino) rfl,n1 (H++[some (AObj.cells [AV.ptr os 0])]++[some (AObj.cells [I ino])]) (I 0) rfl,n1 (H++[some (AObj.cells [AV.ptr os 0])]++[some (AObj.cells [I ino])]++[some (AObj.cells [I 0])]) (I 0) rfl,hb0,l1,l2,l3,s0,al,Ab]
 have g0:Grew H (H++[some (AObj.cells [AV.ptr os 0])]++[some (AObj.cells [I ino])]++[some (AObj.cells [I 0])]++[some (AObj.cells [I 0])]):=by
  simp only[vK];exact Grew.app H _
 have hplt:=hst.p_lt;have holt:=hst.os_lt;have S0:LwS os b0 ino s 0 p (H++[some (AObj.cells [AV.ptr os 0])]++[some (AObj.cells [I ino])]++[some (AObj.cells [I 0])]++[some (AObj.cells [I 0])]):=
  ⟨hst.grew g0,by rw[← hb0];simp,by rw[← hb0];simp,⟨I 0,by rw[← hb0];simp⟩,by rw[← hb0];simp,by omega,λj hj _ q=>by have:=hplt j q;omega⟩
 have F0:LwF os b0 p p H (H++[some (AObj.cells [AV.ptr os 0])]++[some (AObj.cells [I ino])]++[some (AObj.cells [I 0])]++[some (AObj.cells [I 0])]):=.of_grew g0;have B0:Bd NN (bl.flatMap λx=>BZ x.2) s 0 0:=⟨⟨N,hw,by omega⟩,by omega,by omega⟩;have fin:∀{p' H'},LwF os b0 p p' H H'→StF os p p' H H':=λf=>⟨f.len,λj hj h1 hp=>f.same j hj h1 (by omega) hp,f.ids⟩
 generalize (H++[some (AObj.cells [AV.ptr os 0])]++[some (AObj.cells [I ino])]++[some (AObj.cells [I 0])]++[some (AObj.cells [I 0])])=HB at S0 F0;refine OM (λm x2 x4 x5 x6 x12 x13 x14 H'=>∃(k:Nat) (s:StS) (at' sum:Int) (p':AV),k+m=bl.length∧x2=.ptr b0 0∧x4=.ptr (b0+1) 0∧x5=.ptr (b0+2) 0∧x6=.ptr (b0+3) 0∧a2=x12∧x13=I bl.length∧x14=I k∧
  LwS os b0 ino s at' p' H'∧LwF os b0 p p' H H'∧pcs ino ((bl.drop k).flatMap λx=>BZ x.2) s at' sum=RES∧Bd NN ((bl.drop k).flatMap λx=>BZ x.2) s at' 0) ?_ bl.length ⟨0,s,0,0,p,by omega,rfl,rfl,rfl,rfl,rfl,rfl,rfl,S0,F0,hRES,B0⟩
 rintro m x2 x4 x5 x6 x12 x13 x14 H1 R hR ⟨k,s,at',sum,p1,hk,rfl,rfl,rfl,rfl,e12,rfl,rfl,S1,F1,hpc,hbd⟩;subst e12;unfold LQ;have keepS:∀{w:AV} {sz:Nat} {cs:List AV} {n:Nat} {p2:AV} {H2:AH},Aa H sz w=some (cs,n)→(∀j∈AR w,j≠os∧j∉AR p)→LwF os b0 p p2 H H2→Aa H2 sz w=some (cs,n):=λh1 h2 f=>Ae h1 λj hj=>f.same j (Ax h1 j hj) (h2 j hj).1 (by have:=Ax h1 j hj;omega) (h2 j hj).2
 rcases vF k bl.length with h | h
 ·have hx:=E3 h
  generalize bl[k]=vb at hx;obtain⟨v,b⟩:=vb;obtain⟨hb1,hb2,hb3,hb4⟩:=hb _ (vD hx);simp only at hb1 hb2 hb3 hb4;have hdrop:bl.drop k=(v,b)::bl.drop (k+1):=Et hx;rw[hdrop]at hpc hbd;simp only[vW]at hpc hbd;generalize hrest:(bl.drop (k+1)).flatMap (λx=>BZ x.2)=rest at hpc hbd;have kI:(k:Int)<(bl.length:Int):=by omega
  have ha1:=keepS ha hai F1;have hv1:=keepS hb1 hb4 F1;obtain⟨pp,q1,q2⟩:=NE (enc:=fun x:AV×List UInt8=>[x.1]) (f:=Prod.fst) (λ_=>rfl) (l:=bl) (by rw[← List.map_eq_flatMap];exact ha1) hx;simp only[uA,kI,tH,q1,q2];refine bC_of (fY hv1 hb2) ?_;have g2:=Grew.app H1 [some (AObj.cells [v]),some (.cells [I 4096])];have S2:=S1.grew g2;have F2:LwF os b0 p p1 H (H1++[some (AObj.cells [v]),some (.cells [I 4096])]):=F1.trans (.of_grew g2);have t0:(H1++[some (AObj.cells [v]),some (.cells [I 4096])])[H1.length]?=some (some (.cells [v])):=by simp
  have t1:(H1++[some (AObj.cells [v]),some (.cells [I 4096])])[H1.length+1]?=some (some (.cells [I 4096])):=by simp
  have hlc:(H1++[some (AObj.cells [v]),some (.cells [I 4096])]).length=H1.length+2:=by simp
  have hp1:=S1.st.p_lt;have hb03:b0+3<H1.length:=(BE.1 S1.ba).1;have z4:=S1.no;generalize (H1++[some (AObj.cells [v]),some (.cells [I 4096])])=Hc at S2 F2 t0 t1 hlc
  refine sM (cG (o1:=H1.length) (o2:=H1.length+1) (s:=v) (cs:=Bc b) (len:=b.length) (n:=4096) (by omega) (by omega) (by omega)) (by kernel_rfl)
   (λi H'=>∃(s:StS) (at' sum:Int) (p':AV),LwS os b0 ino s at' p' H'∧LwF os b0 p1 p' Hc H'∧pcs ino ((BZ b).drop i++rest) s at' sum=RES∧Bd NN ((BZ b).drop i++rest) s at' 0)
   (λH'=>∃(s:StS) (at' sum:Int) (p':AV) (e:Int),StAt s os p' H'∧LwF os b0 p1 p' Hc H'∧H'[b0+2]?=some (some (.cells [I e]))∧RES=((s,at',sum),e))
   ⟨s,at',sum,p1,S2,.refl _ _ _ _,by simpa using hpc,by simpa using hbd⟩ ?_ ?_ ?_ ?_
  ·rintro i H' ⟨s',at'',sum',p',S',F',-,-⟩
   refine⟨(F'.same _ (by omega) (by omega) (by omega) (λq=>by have:=hp1 _ q;omega)).trans t0,(F'.same _ (by omega) (by omega) (by omega) (λq=>by have:=hp1 _ q;omega)).trans t1,keepS hb1 hb4 (F2.trans F')⟩
  ·rintro i x H' hxi ⟨s',at'',sum',p',S',F',hpc',hbd'⟩
   have hi:i<aL b.length 4096:=by
    have:=(BE.1 hxi).1
    rwa[Vh]at this
   have hil:=(cD (len:=b.length) (k:=i) (show 0<4096 by omega)).1 hi
   have ex:x=kC v b.length 4096 i:=by
    unfold oF at hxi;rw[wA,yE hi]at hxi;injection hxi with hxi;exact hxi.symm
   subst ex;have hv':=keepS hb1 hb4 (F2.trans F');obtain⟨c1,c2⟩:=lV hv' hil;have hcd:(BZ b).drop i=NF b i::(BZ b).drop (i+1):=Et (XG hi);rw[hcd,yD]at hpc' hbd';obtain⟨⟨M,w1,w2⟩,w3,w4⟩:=hbd';rw[Mq]at w2 w3 w4
   have fp:∀j∈AR v,j∉AR p':=λj hj q=>by
    have hjl:=Ax hb1 j hj;rcases(F2.trans F').ids j q with q | q
    ·exact(hb4 j hj).2 q
    ·omega
   have wn:=Xx s' ino at'' (NF b i);have ww:=Tz w1 ino at'' (NF b i);unfold pcs at hpc';refine dN S' w1 (by omega) c1 (λj hj=>⟨(hb4 j (c2 j hj)).1,fp j (c2 j hj)⟩) (by omega) ?_ ?_
   ·intro he p2 H2 S2' F2'
    rw[if_pos he]at hpc';exact⟨_,_,_,p2,S2',F'.trans F2',hpc',⟨⟨_,ww,by omega⟩,by omega,by omega⟩⟩
   ·intro he p2 H2 S2' F2' r2
    rw[if_neg he]at hpc';exact⟨_,_,_,p2,_,S2',F'.trans F2',r2,hpc'.symm⟩
  ·rintro H' ⟨s',at'',sum',p',S',F',hpc',hbd'⟩
   rw[Vh,← XH,zA,wP]at hpc' hbd';simp only[A0 (a:=k) (b:=1) (by omega) (by omega),Ab];exact hR (m - 1) _ _ _ _ _ _ _ _ (by omega) ⟨k+1,s',at'',sum',p',by omega,rfl,rfl,rfl,rfl,rfl,rfl,by simp,S',F2.trans F',by rw[hrest];exact hpc',by rw[hrest];exact hbd'⟩
  ·rintro H' ⟨s',at'',sum',p',e,S',F',r2,rfl⟩
   simp only[Aj r2,Ah,DG,Ab];exact⟨p',by trivial,S',fin (F2.trans F')⟩
 ·have kI:¬(k:Int)<(bl.length:Int):=by omega
  have hdrop:bl.drop k=[]:=vP h;rw[hdrop]at hpc;simp only[List.flatMap_nil]at hpc;unfold pcs at hpc;subst hpc;obtain⟨c,r2⟩:=S1.br;have hb03:b0+3<H1.length:=(BE.1 S1.ba).1;have z4:=S1.no;have e2:AS 1 H1 (.ptr (b0+2) 0) (I 0)=some (H1.set (b0+2) (some (.cells [I 0]))):=iC r2 (by simp) rfl;simp only[uA,kI,tC,e2,AB];generalize hH4:H1.set (b0+2) (some (AObj.cells [I 0]))=H4;have g4:∀j,j≠b0+2→H4[j]?=H1[j]?:=λj hj=>by rw[← hH4,C3 (wD hj)]
  have t2:H4[b0+2]?=some (some (.cells [I 0])):=by rw[← hH4];exact Jo (by omega)
  have l4:H4.length=H1.length:=by rw[← hH4,vT]
  simp only[Aj t2,Ah,DG,Ab];refine⟨p1,by trivial,S1.st.keep λj hj=>?_,fin ⟨by have:=F1.len;omega,λj hj h1 h3 hp=>by rw[g4 j (by omega)];exact F1.same j hj h1 h3 hp,F1.ids⟩⟩;rcases hj with rfl | hj
  ·exact g4 j (by omega)
  ·exact g4 j (λe=>S1.nb (b0+2) (by omega) (by omega) (by rw[← e];exact hj)))
theorem kX {N:Nat}{s:StS}{os:Nat}{p:AV}{H:AH}(h:StAt s os p H)(hw:SW N s)(hN:N≤900000)(ino:Int):∃r H',(r=.tup [I (AA s ino).1.1,I (AA s ino).2]∧Grew H H')∧BCall prog 60 [.ptr os 0,I ino] H r H':=MD (by
 unfold JR;obtain⟨R,hR,r,H1,⟨rfl,g1⟩,hc⟩:=P7 h hw hN ino;have oR:=SV.oneA hR;refine bC_of hc ?_;have g2:=Grew.app H1 [some (AObj.cells [I (AA s ino).1.1,R])];simp only[AE,tM,iS,tV,Ym _ _ oR,Aj CT];exact⟨by trivial,g1.trans g2⟩)
theorem jW {N:Nat}{s:StS}{os:Nat}{p a2:AV}{H:AH}{nm:List UInt8}{bl:List (AV×List UInt8)}(hst:StAt s os p H)(hw:SW N s)(hnm:nm.length≤9223372036854775807)
  (ha:Aa H 1 a2=some (bl.map Prod.fst,bl.length)) (hai:∀j∈AR a2,j≠os∧j∉AR p) (hb:∀x∈bl,Aa H 1 x.1=some (Bc x.2,x.2.length)∧oneA x.1=true∧x.2.length≤1000000∧∀j∈AR x.1,j≠os∧j∉AR p) (hbn:bl.length≤1000000)
  (hN:N+2+9*I1 (bl.flatMap λx=>BZ x.2)<900000):
  ACalls prog 11 [.ptr os 0,S (As nm),a2] H λr H'=>∃p',r=I (V9 s nm (bl.flatMap λx=>BZ x.2)).1∧StAt (V9 s nm (bl.flatMap λx=>BZ x.2)).2 os p' H'∧StF os p p' H H':=WO (by
 unfold SN;obtain⟨r,H1,⟨rfl,p1,h1,f1⟩,hc⟩:=Xz hst hw (by omega) hnm true;have w1:=Rw hw nm true;refine bC_of hc ?_;unfold V9;generalize AY s nm true=O at*;simp only[tX,uM]
 by_cases c1:O.1.2=0
 rotate_left
 ·simp only[c1,sV,uW]
  exact⟨p1,by trivial,h1,f1⟩
 simp only[c1,tL,tC];obtain⟨r,H2,⟨rfl,p2,h2,f2⟩,hc⟩:=UP h1 w1 (by omega) O.1.1 0;have w2:=Pm w1 O.1.1 0;refine bC_of hc ?_;generalize D6 O.2 O.1.1 0=Q at*;simp only[uM];have f12:=f1.trans f2
 by_cases c2:Q.1=0
 rotate_left
 ·simp only[c2,sV,uW]
  exact⟨p2,by trivial,h2,f12⟩
 simp only[c2,tL,tC];have keepS:∀{w:AV} {cs:List AV} {n:Nat},Aa H 1 w=some (cs,n)→(∀j∈AR w,j≠os∧j∉AR p)→Aa H2 1 w=some (cs,n)∧∀j∈AR w,j≠os∧j∉AR p2:=λk1 k2=>
  ⟨Ae k1 λj hj=>f12.same j (Ax k1 j hj) (k2 j hj).1 (k2 j hj).2,λj hj=>⟨(k2 j hj).1,λq=>(f12.ids j q).elim (k2 j hj).2 (λq=>by have:=Ax k1 j hj;omega)⟩⟩
 refine⟨_,kS (ino:=O.1.1) h2 w2 (keepS ha hai).1 (keepS ha hai).2 (λx hx=>⟨(keepS (hb x hx).1 (hb x hx).2.2.2).1,(hb x hx).2.1,(hb x hx).2.2.1,(keepS (hb x hx).1 (hb x hx).2.2.2).2⟩) hbn (by omega),?_⟩;have w3:=eH (ino:=O.1.1) (l:=bl.flatMap λx=>BZ x.2) (a:=0) (m:=0) w2;generalize pcs O.1.1 (bl.flatMap λx=>BZ x.2) Q.2 0 0=Z at*;rintro r H3 ⟨p3,rfl,h3,f3⟩;have f123:=f12.trans f3;simp only[uM]
 by_cases c3:Z.2=0
 rotate_left
 ·simp only[c3,sV,uW]
  exact⟨p3,by trivial,h3,f123⟩
 simp only[c3,tL,tC];have eA:Cg H3 1 1 (AZ [(I 0)] 1) [(0,1,I O.1.1)]=some (.sl H3.length 0 1 1 (.ex 1),H3++[some (.cells [I O.1.1])]):=rfl;have g4:=Grew.app H3 [some (AObj.cells [I O.1.1])];have hsl:Aa (H3++[some (AObj.cells [I O.1.1])]) 1 (.sl H3.length 0 1 1 (.ex 1))=some (([O.1.1]:List Int).flatMap Sj,([O.1.1]:List Int).length):=by simp[Aa,Sj]
 have lo:=h3.os_lt;have lp:=h3.p_lt
 obtain⟨r,H5,⟨rfl,p5,h5,f5⟩,hc⟩:=kY (h3.grew g4) w3 (by omega) hsl (by
  intro j hj;simp[AR]at hj;subst hj;exact⟨by omega,λq=>by have:=lp _ q;omega⟩) (by simp)
 simp only[eA,Az];refine bC_of hc ?_;exact⟨p5,by trivial,h5,(f123.grew g4).trans f5⟩)
theorem Ml {a:List UInt8}{lo hi:Option AV}{l h:Nat}(e1:Bt lo 0=some l)(e2:Bt hi a.length=some h)(h1:l≤h)(h2:h≤a.length):P0 (S (As a)) lo hi=some (S (As ((a.drop l).take (h - l)))):=by
 have e3:Bt hi (As a).size=some h:=e2;have e4:h≤(As a).size:=h2
 have:(As a).extract l h=As ((a.drop l).take (h - l)):=by
  apply ByteArray.ext;rw[ByteArray.data_extract];simp[As,List.extract_eq_take_drop]
 simp[P0,e1,e3,h1,e4,this]
def VP (a:List UInt8):Int:=Lib.indexByte a 61
theorem mS (a:List UInt8): -1≤VP a∧(0≤VP a→(VP a).toNat<a.length):=by
 unfold VP;refine⟨Lib.indexByte_ge a 61,?_⟩
 induction a with
 | nil=>intro h;exact absurd h (by decide)
 | cons b l ih=>
  intro h;unfold Lib.indexByte at h⊢;simp only[vR];split at h
  ·rename_i hb
   rw[if_pos hb];exact Nat.zero_lt_succ _
  ·rename_i hb
   rw[if_neg hb];split at h
   ·exact absurd h (by decide)
   ·rename_i hc
    rw[if_neg hc];have hge:=Lib.indexByte_ge l 61;have hc':Lib.indexByte l 61≠ -1:=λe=>hc (by rw[e];rfl)
    have:=ih (by omega)
    omega
theorem VT (a:List UInt8):BPure prog 236 [S (As a),.lit (.int .u8 61)] (I (VP a)):=λH=>FH (K:=λr H'=>r=I (VP a)∧H'=H) (by
 unfold Ct;refine⟨I (VP a),?_,rfl,rfl⟩;intro G vs hH hv;have hv':VRs G [S (As a),.lit (.int .u8 61)] vs:=hv;simp only[VRs,VR]at hv';obtain⟨_,_,rfl,rfl,_,_,rfl,rfl,rfl⟩:=hv';refine⟨.int .i64 (VP a),?_,by simp only[VR]⟩;rw[run_callFunc_extern func241 (by kernel_rfl) (by kernel_rfl) (by kernel_rfl) (e:=Extern.BytealgIndexByte.indexByte) (by kernel_rfl)]
 have:=Lib.run_indexByteString (P:=prog) (As a) 61 G.w
 rw[show(As a).data.toList=a by simp[As]]at this;rw[this]
 rfl)
theorem gE (a:List UInt8):BPure prog 234 [S (As a),.lit (.string ⟨#[61]⟩)] (I (VP a)):=λH=>GP (K:=λr H'=>r=I (VP a)∧H'=H) (by
 unfold Dc;have e0:(AV.lit (.string ⟨#[61]⟩))=S (As [61]):=rfl;have e1:FD (S (As [61]))=some (I 1):=rfl;have e2:QN (S (As [61])) (I 0)=some (.lit (.int .u8 61)):=rfl;simp only[e0,e1,sY,FN,show decide ((1:Int)=0)=false from rfl,Ba,sX,G9,uC]
 by_cases c:([61]:List UInt8)=a
 ·subst c
  simp only[tH];exact⟨by trivial,by trivial⟩
 ·simp only[c,uS,tH,e2]
  exact A1 (VT a) ⟨by trivial,by trivial⟩)
def Lz (a:List UInt8):List UInt8×List UInt8:=if 0≤VP a then(a.take (VP a).toNat,a.drop ((VP a).toNat+1))else(a,[])
abbrev uK:=And.intro @List.drop_zero.{0} @Nat.sub_zero
theorem oM {a:List UInt8}(ha:a.length≤9223372036854775806):BPure prog 217 [S (As a),.lit (.string ⟨#[61]⟩)] (.tup [S (As (Lz a).1),S (As (Lz a).2),B (decide (0≤VP a))]):=BPure.flat λH=>Tt (by
 unfold QH
 refine A1 (r:=.tup [S (As (Lz a).1),S (As (Lz a).2),B (decide (0≤VP a))]) (BPure.flat λH=>HE (by
  unfold EZ;refine A1 (gE a) ?_;obtain⟨i1,i2⟩:=mS a;unfold Lz;simp only[Hz,sY]
  by_cases c:0≤VP a
  ·have i2:=i2 c
   obtain⟨k,hk⟩:∃k:Nat,VP a=k:=⟨(VP a).toNat,by omega⟩;rw[hk]at i2 c⊢;simp only[yB]at i2;have s1:=Ml (a:=a) (lo:=none) (hi:=some (I (k:Int))) (l:=0) (h:=k) rfl (by simp[Bt]) (by omega) (by omega);have s2:=Ml (a:=a) (lo:=some (I ((k:Int)+1))) (hi:=none) (l:=k+1) (h:=a.length) (by simp only[Bt];rw[if_pos (by omega)];congr 1) rfl (by omega) (by omega);have e3:(a.drop (k+1)).take (a.length - (k+1))=a.drop (k+1):=vA (by rw[vG];omega);have e1:FD (.lit (.string ⟨#[61]⟩))=some (I 1):=rfl;simp only[c,uW,s1,Ab,e1,A0 (a:=(k:Int)) (b:=1) (by omega) (by omega),s2,uK,e3,yB];exact⟨by trivial,by trivial⟩
  ·simp only[c,tC,if_false]
   exact⟨by trivial,by trivial⟩)) ?_
 simp only[tX,Ab];exact⟨by trivial,by trivial⟩)
def SB (p a:List UInt8):Bool:=decide (a.take p.length=p)
theorem VS {a p:List UInt8}(ha:a.length≤9223372036854775807)(hp:p.length≤9223372036854775807):BPure prog 228 [S (As a),S (As p)] (B (SB p a)):=BPure.flat λH=>FF (by
 unfold DM;have q1:FD (S (As a))=some (I a.length):=HH ha;have q2:FD (S (As p))=some (I p.length):=HH hp;unfold SB;simp only[q1,q2,uI,Hz]
 by_cases c:p.length≤a.length
 ·have s1:=Ml (a:=a) (lo:=none) (hi:=some (I (p.length:Int))) (l:=0) (h:=p.length) rfl (by simp[Bt]) (by omega) c
  simp only[uK]at s1;simp only[show((p.length:Int)≤(a.length:Int)) by omega,tD,sX,q2,Ab,s1,G9,A4];exact⟨by trivial,by trivial⟩
 ·have:¬a.take p.length=p:=λe=>c (by rw[← e,uZ];omega)
  simp only[show ¬((p.length:Int)≤(a.length:Int)) by omega,DC,show((false==true)=false)from rfl,C2,uI,uC,this];exact⟨by trivial,by trivial⟩)
theorem Qe {a p:List UInt8}(ha:a.length≤9223372036854775807)(hp:p.length≤9223372036854775807):BPure prog 194 [S (As a),S (As p)] (.tup [S (As (if SB p a=true then a.drop p.length else a)),B (SB p a)]):=BPure.flat λH=>Me (by
 unfold IY
 refine A1 (r:=.tup [S (As (if SB p a=true then a.drop p.length else a)),B (SB p a)]) (BPure.flat λH=>FE (by
  unfold DL;refine A1 (VS ha hp) ?_;have q2:FD (S (As p))=some (I p.length):=HH hp;simp only[tW];cases c:SB p a with
  | true=>
   have hl:p.length≤a.length:=by
    have:=of_decide_eq_true c
    have h2:=congrArg List.length this;rw[uZ]at h2;omega
   have s1:=Ml (a:=a) (lo:=some (I (p.length:Int))) (hi:=none) (l:=p.length) (h:=a.length) (by simp[Bt]) rfl hl (by omega);rw[vA (by rw[vG];omega)]at s1;simp only[tB,q2,Ab,s1,if_true];exact⟨by trivial,by trivial⟩
  | false=>
   simp only[tA,At];exact⟨by trivial,by trivial⟩)) ?_
 simp only[tX,Ab];exact⟨by trivial,by trivial⟩)
def Ma (c:UInt8):Prop:=97≤c.toNat∧c.toNat≤122
instance (c:UInt8):Decidable (Ma c):=by unfold Ma;infer_instance
theorem jM (c:UInt8):BPure prog 214 [.lit (.int .u8 c.toNat)] (B (decide (Ma c))):=BPure.flat λH=>Vd (by
 unfold Uf;unfold Ma;simp only[Hz,uI]
 by_cases h:97≤c.toNat
 ·simp only[show(97:Int)≤(c.toNat:Int) by omega,tD,sX,Ab,Yu,A4]
  refine⟨?_,by trivial⟩
  by_cases h2:c.toNat≤122
  ·simp[h,h2];omega
  ·simp[h,h2];omega
 ·simp only[show ¬(97:Int)≤(c.toNat:Int) by omega,DC,show((false==true)=false)from rfl,C2,Ab,uC]
  exact⟨by simp[h],by trivial⟩)
def JH (a:List UInt8):Prop:=a≠[]∧a.length≤10∧∀c∈a,Ma c
instance (a:List UInt8):Decidable (JH a):=by unfold JH;infer_instance
theorem qK {a:List UInt8}(ha:a.length≤9223372036854775806):BPure prog 218 [S (As a)] (B (decide (JH a))):=BPure.flat λH=>XC (by
 unfold Y2;have q1:FD (S (As a))=some (I a.length):=HH (by omega);simp only[q1,Ab];refine QP (λn x0 x5 x6 H'=>∃k:Nat,k+n=a.length∧x0=S (As a)∧x5=I a.length∧x6=I k∧H'=H∧∀m y,m<k→a[m]?=some y→Ma y) ?_ a.length ⟨0,by omega,rfl,rfl,rfl,rfl,by omega⟩;rintro n x0 x5 x6 H' R hR ⟨k,hk,rfl,rfl,rfl,rfl,hb⟩;unfold Of;simp only[uA];rcases vF k a.length with h | h
 ·have hx:=E3 h
  generalize a[k]=y at hx;simp only[show(k:Int)<(a.length:Int) by omega,tH,Pu rfl hx,Ab];refine A1 (jM y) ?_;simp only[tW]
  by_cases hy:Ma y
  ·simp only[hy,DS,tB,A0 (a:=(k:Int)) (b:=1) (by omega) (by omega),Ab]
   refine hR (n - 1) _ _ _ _ (by omega) ⟨k+1,by omega,rfl,rfl,by simp,rfl,?_⟩;intro m z hm hz
   by_cases c:m=k
   ·rw[c,hx]at hz;injection hz with hz;rw[← hz];exact hy
   ·exact hb m z (by omega) hz
  ·have:¬JH a:=λhm=>hy (hm.2.2 y (vD hx))
   simp only[hy,this,DC,tA];exact⟨by trivial,by trivial⟩
 ·have all:∀c∈a,Ma c:=λc hc=>by
   obtain⟨m,hm⟩:=vN.1 hc
   have:=(BE.1 hm).1
   exact hb m c (by omega) hm
  have e0:(AV.lit (.string ⟨#[]⟩))=S (As []):=rfl;simp only[show ¬(k:Int)<(a.length:Int) by omega,tC,e0,NS,uI]
  by_cases c:a=[]
  ·have:¬JH a:=λhm=>hm.1 c
   simp only[c,sU,DC,show((false==true)=false)from rfl,C2,Ab,uC];rw[c]at this;exact⟨by simp[this],by trivial⟩
  ·simp only[c,sV,tD,sX,q1,Ab,Yu,A4]
   refine⟨?_,by trivial⟩
   by_cases c2:a.length≤10
   ·have:JH a:=⟨c,c2,all⟩
    simp[this];omega
   ·have:¬JH a:=λhm=>c2 hm.2.1
    simp[this];omega)
abbrev Tx:=List UInt8
def Dj (t:Tx):List AV:=[S (As t)]
def DI (p:Tx×Tx):List AV:=[S (As p.1),S (As p.2)]
theorem Si (t:Tx):(Dj t).length=1:=rfl
theorem Z9 (t:Tx×Tx):(DI t).length=2:=rfl
def ZR (s:Tx):Option (Option (Tx×Tx)):=
 if SB [45,45] s=true then(if JH (Lz (s.drop 2)).1 then some (some (Lz (s.drop 2)))else none)
 else if SB [45] s=true∧s.drop 1≠[]then none else some none
def He:List Tx→List (Tx×Tx)→List Tx→Option (List (Tx×Tx)×List Tx)
 | [],o,r=>some (o,r)
 | s::l,o,r=>if s=[45,45]then some (o,r++l)else match ZR s with
  | none=>none
  | some (some kv)=>He l (o++[kv]) r
  | some none=>He l o (r++[s])
structure Tk (n0 o:Nat)(vl vo vr:AV)(l:List Tx)(op:List (Tx×Tx))(rs:List Tx)(H0 H:AH):Prop where
 obj:H[o]?=some (some (.cells [Ac,vl,vo,vr]))
 no:n0≤o
 sl:Aa H 1 vl=some (l.flatMap Dj,l.length)
 il:∀i∈AR vl,i<n0
 so:Aa H 2 vo=some (op.flatMap DI,op.length)
 oo:AM vo=true
 io:∀i∈AR vo,n0≤i∧i≠o
 sr:Aa H 1 vr=some (rs.flatMap Dj,rs.length)
 ow:AM vr=true
 ir:∀i∈AR vr,n0≤i∧i≠o
 dj:∀i∈AR vo,i∉AR vr
 g:n0≤H.length∧∀i,i<n0→H[i]?=H0[i]?
section
variable {n0 o : Nat} {vl vo vr : AV} {l : List Tx} {op : List (Tx × Tx)} {rs : List Tx} {H0 H : AH}
theorem Tk.lt (h:Tk n0 o vl vo vr l op rs H0 H):o<H.length:=(BE.1 h.obj).1
theorem Tk.move {vo2 vr2:AV}{op2:List (Tx×Tx)}{rs2:List Tx}{H':AH}(h:Tk n0 o vl vo vr l op rs H0 H)(hl:H.length≤H'.length)(hk:∀i,i<n0→H'[i]?=H[i]?)(ho:H'[o]?=some (some (.cells [Ac,vl,vo2,vr2])))
  (so:Aa H' 2 vo2=some (op2.flatMap DI,op2.length)) (oo:AM vo2=true) (io:∀i∈AR vo2,n0≤i∧i≠o) (sr:Aa H' 1 vr2=some (rs2.flatMap Dj,rs2.length)) (ow:AM vr2=true) (ir:∀i∈AR vr2,n0≤i∧i≠o) (dj:∀i∈AR vo2,i∉AR vr2):Tk n0 o vl vo2 vr2 l op2 rs2 H0 H':=
 ⟨ho,h.no,Ae h.sl λi hi=>hk i (h.il i hi),h.il,so,oo,io,sr,ow,ir,dj,vO h.g.1 hl,λi hi=>(hk i hi).trans (h.g.2 i hi)⟩
theorem rA (h:Tk n0 o vl vo vr l op rs H0 H)(hop:op.length≤1000)(k v:Tx):∃r H',(r=.tup []∧∃vo',Tk n0 o vl vo' vr l (op++[(k,v)]) rs H0 H')∧BCall prog 219 [.ptr o 0,S (As k),S (As v)] H r H':=Pz (by
 unfold MI;have hlt:=h.lt;have e1:FC [(.lit (.string ⟨#[]⟩)),(.lit (.string ⟨#[]⟩))] [(0,1,S (As k)),(1,1,S (As v))]=some (.agg [S (As k),S (As v)]):=rfl
 have e2:Cg H 2 1 (AZ [(.lit (.string ⟨#[]⟩)),(.lit (.string ⟨#[]⟩))] 1) [(0,2,.agg [S (As k),S (As v)])]=some (.sl H.length 0 1 2 (.ex 1),H++[some (.cells [S (As k),S (As v)])]):=by
  simp[Cg,QL,AZ,BA,AK,oneA]
 have g:=Grew.app H [some (AObj.cells [S (As k),S (As v)])]
 have s1:Aa (H++[some (AObj.cells [S (As k),S (As v)])]) 2 (.sl H.length 0 1 2 (.ex 1))=some ([S (As k),S (As v)],1):=by
  rw[A9 CT (by simp)];rfl
 obtain⟨r,H8,a1,a2,a3,a4,a5,a6⟩:=Ek (sz:=2) (bytes:=32) (g.slice h.so) h.oo (AI s1) (by omega);have lg:(H++[some (AObj.cells [S (As k),S (As v)])]).length=H.length+1:=by simp
 rw[lg]at a4 a5 a6;have k8:∀i,i<H.length→i∉AR vo→H8[i]?=H[i]?:=λi h1 h2=>(a5 i (by omega) h2).trans (g.2 i h1)
 have ob8:H8[o]?=some (some (.cells [Ac,vl,vo,vr])):=(k8 o hlt λz=>(h.io o z).2 rfl).trans h.obj;have or':=AJ a2
 have e3:AS 1 H8 (.ptr o 2) r=some (H8.set o (some (.cells [Ac,vl,r,vr]))):=by
  rw[A7 (n:=1) (xs:=[r]) (cs:=[Ac,vl,vo,vr]) (AL or') ob8 rfl (by simp)];rfl
 simp only[tY,wW,Aj h.obj,e1,e2,tV,a1,e3];have ne8:∀i,i≠o→(H8.set o (some (.cells [Ac,vl,r,vr])))[i]?=H8[i]?:=λi hi=>C3 (wD hi)
 have rne:∀i∈AR r,n0≤i∧i≠o:=λi hi=>by
  rcases a6 i hi with z | z
  ·exact h.io i z
  ·have:=h.g.1;exact⟨by omega,by omega⟩
 refine⟨by trivial,r,h.move (by rw[vT];omega) (λi hi=>?_) (Jo (by omega)) ?_ a2 rne ?_ h.ow h.ir ?_⟩
 ·have:=h.no;have:=h.g.1
  rw[ne8 i (by omega)];exact k8 i (by omega) λz=>by have:=(h.io i z).1;omega
 ·have:(op++[(k,v)]).flatMap DI=op.flatMap DI++[S (As k),S (As v)]:=by simp[DI]
  rw[this,vE];exact Ae a3 λi hi=>ne8 i (rne i hi).2
 ·exact Ae h.sr λi hi=>by
   rw[ne8 i (h.ir i hi).2];exact k8 i (Ax h.sr i hi) λz=>h.dj i z hi
 ·intro i hi z
  rcases a6 i hi with y | y
  ·exact h.dj i y z
  ·have:=Ax h.sr i z;omega)
theorem mT (h:Tk n0 o vl vo vr l op rs H0 H)(hop:op.length≤1000){s:Tx}(hs:s.length≤1000000):∃r H',(r=B (decide (JH (Lz s).1))∧(JH (Lz s).1→∃vo',Tk n0 o vl vo' vr l (op++[Lz s]) rs H0 H')∧n0≤H'.length∧∀i,i<n0→H'[i]?=H0[i]?)∧BCall prog 195 [.ptr o 0,S (As s)] H r H':=Og (by
 unfold Lo;refine A1 (oM (by omega)) ?_
 have hl:(Lz s).1.length≤s.length:=by
  unfold Lz
  split
  ·simp only[uZ];omega
  ·exact vB _
 simp only[tX,Ab];refine A1 (qK (by omega)) ?_;simp only[tW]
 by_cases c:JH (Lz s).1
 ·simp only[c,DS,tB]
  obtain⟨r,H',⟨rfl,vo',h'⟩,hc⟩:=rA h hop (Lz s).1 (Lz s).2;refine bC_of hc ?_;exact⟨by trivial,λ_=>⟨vo',h'⟩,h'.g⟩
 ·simp only[c,DC,tA]
  exact⟨by trivial,λh=>h.elim,h.g⟩)
abbrev uG:=And.intro @Int.lt_irrefl @tC
theorem qJ (x:AV)(H:AH):BCall prog 215 [Ac,x] H (I (-1)) H:=by
 obtain⟨r,H',⟨rfl,rfl⟩,hc⟩:=EH (a0:=Ac) (a1:=x) (H:=H) (K:=λr H'=>r=I (-1)∧H'=H) (by
  unfold CX;have e:AW Ac=some (I 0):=rfl;simp only[e,Ab];refine DT (λn x0 x1 x7 x8 H'=>x7=I 0∧x8=I 0∧H'=H) ?_ 0 ⟨rfl,rfl,rfl⟩;rintro n x0 x1 x7 x8 H' R hR ⟨rfl,rfl,rfl⟩;unfold Cp;simp only[uA,uG];exact⟨by trivial,by trivial⟩)
 exact hc
theorem jI (h:Tk n0 o vl vo vr l op rs H0 H){s:Tx}(hs:s.length≤1000000)(h0:s≠[]):∃r H',(r=B false∧n0≤H'.length∧∀i,i<n0→H'[i]?=H0[i]?)∧BCall prog 196 [.ptr o 0,S (As s)] H r H':=Nv (by
 unfold Ky;have e1:A5 H (S (As s))=some (.ptr H.length 0,H++[some (.cells [S (As s)])]):=rfl;have g:=Grew.app H [some (AObj.cells [S (As s)])];have q1:FD (S (As s))=some (I s.length):=HH (by omega);simp only[e1,Az,Aj CT,Ah,DG,Ab,q1];have ob:=g.cells h.obj;have hf:n0≤(H++[some (AObj.cells [S (As s)])]).length∧∀i,i<n0→(H++[some (AObj.cells [S (As s)])])[i]?=H0[i]?:=⟨vO h.g.1 g.1,λi hi=>(g.2 i (by have:=h.g.1;omega)).trans (h.g.2 i hi)⟩;have hlt:=h.lt;have hno:=h.no;have hlen:(H++[some (AObj.cells [S (As s)])]).length=H.length+1:=by simp
 generalize (H++[some (AObj.cells [S (As s)])])=H1 at*;refine Js (λn x0 x3 x8 x9 H'=>x0=.ptr o 0∧x8=I s.length∧x9=I 0∧H'=H1) ?_ 0 ⟨rfl,rfl,rfl,rfl⟩;rintro n x0 x3 x8 x9 H' R hR ⟨rfl,rfl,rfl,rfl⟩;unfold GH
 have hp:(0:Int)<(s.length:Int):=by
  have:=List.length_pos_iff.2 h0;omega
 have e2:A5 H' (I 0)=some (.ptr H'.length 0,H'++[some (.cells [I 0])]):=rfl;have g2:=Grew.app H' [some (AObj.cells [I 0])]
 have e3:AS 1 (H'++[some (AObj.cells [I 0])]) (.ptr H'.length 0) (I 0)=some (H'++[some (.cells [I 0])]):=by
  rw[A7 (n:=1) (xs:=[I 0]) (cs:=[I 0]) rfl CT rfl (by simp)];simp[AK]
 simp only[B1,tI,Ag,hp,tH,e2,tV,e3,Ao,Aj (g2.cells ob),DG];refine bC_of (qJ _ _) ?_;simp only[uA,show decide ((-1:Int)<0)=true from rfl,Aq];exact⟨by trivial,vO hf.1 g2.1,λi hi=>(g2.2 i (by have:=h.g.1;omega)).trans (hf.2 i hi)⟩)
theorem nM (h:Tk n0 o vl vo vr l op rs H0 H)(hrs:rs.length≤1000)(s:Tx):
  ∃r H8 H9,Cg H 1 1 (AZ [(.lit (.string ⟨#[]⟩))] 1) [(0,1,S (As s))]=some (.sl H.length 0 1 1 (.ex 1),H++[some (.cells [S (As s)])])∧Pq 1 16 (H++[some (.cells [S (As s)])]) vr (.sl H.length 0 1 1 (.ex 1))=some (r,H8)∧AS 1 H8 (.ptr o 3) r=some H9∧Tk n0 o vl vo r l op (rs++[s]) H0 H9:=by
 have hlt:=h.lt
 have e2:Cg H 1 1 (AZ [(.lit (.string ⟨#[]⟩))] 1) [(0,1,S (As s))]=some (.sl H.length 0 1 1 (.ex 1),H++[some (.cells [S (As s)])]):=by
  simp[Cg,QL,AZ,BA,AK,oneA]
 have g:=Grew.app H [some (AObj.cells [S (As s)])]
 have s1:Aa (H++[some (AObj.cells [S (As s)])]) 1 (.sl H.length 0 1 1 (.ex 1))=some ([S (As s)],1):=by
  rw[A9 CT (by simp)];rfl
 obtain⟨r,H8,a1,a2,a3,a4,a5,a6⟩:=Ek (sz:=1) (bytes:=16) (g.slice h.sr) h.ow (AI s1) (by omega);have lg:(H++[some (AObj.cells [S (As s)])]).length=H.length+1:=by simp
 rw[lg]at a4 a5 a6;have k8:∀i,i<H.length→i∉AR vr→H8[i]?=H[i]?:=λi h1 h2=>(a5 i (by omega) h2).trans (g.2 i h1)
 have ob8:H8[o]?=some (some (.cells [Ac,vl,vo,vr])):=(k8 o hlt λz=>(h.ir o z).2 rfl).trans h.obj;have or':=AJ a2
 have e3:AS 1 H8 (.ptr o 3) r=some (H8.set o (some (.cells [Ac,vl,vo,r]))):=by
  rw[A7 (n:=1) (xs:=[r]) (cs:=[Ac,vl,vo,vr]) (AL or') ob8 rfl (by simp)];rfl
 have ne8:∀i,i≠o→(H8.set o (some (.cells [Ac,vl,vo,r])))[i]?=H8[i]?:=λi hi=>C3 (wD hi)
 have rne:∀i∈AR r,n0≤i∧i≠o:=λi hi=>by
  rcases a6 i hi with z | z
  ·exact h.ir i z
  ·have:=h.g.1;exact⟨by omega,by omega⟩
 refine⟨r,H8,_,e2,a1,e3,h.move (by rw[vT];omega) (λi hi=>?_) (Jo (by omega)) ?_ h.oo h.io ?_ a2 rne ?_⟩
 ·have:=h.no;have:=h.g.1
  rw[ne8 i (by omega)];exact k8 i (by omega) λz=>by have:=(h.ir i z).1;omega
 ·exact Ae h.so λi hi=>by
   rw[ne8 i (h.io i hi).2];exact k8 i (Ax h.so i hi) λz=>h.dj i hi z
 ·have:(rs++[s]).flatMap Dj=rs.flatMap Dj++[S (As s)]:=by simp[Dj]
  rw[this,vE];exact Ae a3 λi hi=>ne8 i (rne i hi).2
 ·intro i hi z
  rcases a6 i z with y | y
  ·exact h.dj i hi y
  ·have:=Ax h.so i hi;omega
theorem qU (h:Tk n0 o vl vo vr l op rs H0 H)(hop:op.length≤1000)(hrs:rs.length≤1000){s:Tx}(hs:s.length≤1000000):
  ∃r H',(r=B (ZR s).isSome∧(∀kv,ZR s=some (some kv)→∃vo',Tk n0 o vl vo' vr l (op++[kv]) rs H0 H')∧(ZR s=some none→∃vr',Tk n0 o vl vo vr' l op (rs++[s]) H0 H')∧n0≤H'.length∧∀i,i<n0→H'[i]?=H0[i]?)∧BCall prog 157 [.ptr o 0,S (As s)] H r H':=Py (by
 unfold MH;have e1:(AV.lit (.string ⟨#[45,45]⟩))=S (As [45,45]):=rfl;have e2:(AV.lit (.string ⟨#[45]⟩))=S (As [45]):=rfl;have e0:∀x:Tx,QK .neq (S (As x)) (.lit (.string ⟨#[]⟩))=some (B (decide (x≠[]))):=λx=>NS
 rw[e1,e2];refine A1 (Qe (a:=s) (p:=[45,45]) (by omega) (by simp)) ?_;unfold ZR;simp only[tX,sY];cases c:SB [45,45] s with
 | true=>
  simp only[Aq,if_true];obtain⟨r,H',⟨rfl,h1,h2⟩,hc⟩:=mT h hop (s:=s.drop 2) (by rw[vG];omega);refine bC_of (r:=B (decide (JH (Lz (s.drop 2)).1))) hc ?_
  by_cases k:JH (Lz (s.drop 2)).1
  ·simp only[k,tD,xH]
   refine⟨by trivial,λkv hkv=>?_,λhk=>by simp at hk,h2⟩;injection hkv with hkv;injection hkv with hkv;rw[← hkv];exact h1 k
  ·simp only[k,DC,if_false,yW]
   exact⟨by trivial,λkv hkv=>by simp at hkv,λhk=>by simp at hk,h2⟩
 | false=>
  simp only[Ai,At];refine A1 (Qe (a:=s) (p:=[45]) (by omega) (by simp)) ?_;simp only[tX,uI];obtain⟨r,H8,H9,f1,f2,f3,f4⟩:=nM h hrs s;cases c2:SB [45] s with
  | true=>
   have ed:s.drop ([45]:Tx).length=s.drop 1:=rfl;simp only[sX,sY,if_true,ed,e0,A4,true_and]
   by_cases c3:s.drop 1=[]
   ·simp only[c3,tL,tC,xH]
    simp only[tY,Nat.reduceAdd,Aj h.obj,f1,tV,f2,f3];exact⟨by trivial,λkv hkv=>by simp at hkv,λ_=>⟨r,f4⟩,f4.g⟩
   ·simp only[c3,sV,uW,yW]
    obtain⟨r,H',⟨rfl,h2⟩,hc⟩:=jI h (s:=s.drop 1) (by rw[vG];omega) c3;refine bC_of hc ?_;exact⟨by trivial,λkv hkv=>by simp at hkv,λhk=>by simp at hk,h2⟩
  | false=>
   simp only[show((false==true)=false)from rfl,C2,sY,Ba,uC,Ai,false_and,xH];simp only[tY,Nat.reduceAdd,Aj h.obj,f1,tV,f2,f3];exact⟨by trivial,λkv hkv=>by simp at hkv,λ_=>⟨r,f4⟩,f4.g⟩)
end
end
section
theorem ZB (H:AH):BCall prog 156 [.lit (.string ⟨#[]⟩)] H (.tup [Ac,B true]) H:=by
 obtain⟨r,H',⟨rfl,rfl⟩,hc⟩:=Vc (a0:=.lit (.string ⟨#[]⟩)) (H:=H) (K:=λr H'=>r=.tup [Ac,B true]∧H'=H) (by
  unfold Ud;have e:FD (.lit (.string ⟨#[]⟩))=some (I 0):=rfl;simp only[e,Ab];refine Od (λn x0 x4 x9 x10 H'=>x4=Ac∧x9=I 0∧x10=I 0∧H'=H) ?_ 0 ⟨rfl,rfl,rfl,rfl⟩;rintro n x0 x4 x9 x10 H' R hR ⟨rfl,rfl,rfl,rfl⟩;unfold Ln;simp only[uA,uG];exact⟨by trivial,by trivial⟩)
 exact hc
theorem SY {H:AH}{sz:Nat}{v:AV}{q:List AV×Nat}(h:Aa H sz v=some q):oneA v=true:=by
 cases v with
 | lit a=>cases a<;>first | rfl | (simp[Aa]at h)
 | _=>first | rfl | (simp[Aa]at h)
theorem ZC (l:List Tx):(l.flatMap Dj).length=l.length:=by
 induction l with
 | nil=>rfl
 | cons a l ih=>rw[vW,vE,ih,vR,Si];omega
def PH (l:List Tx):Option (List (Tx×Tx)×List Tx):=if 40<l.length then none else He l [] []
def aR (F:Option (List (Tx×Tx)×List Tx))(r:AV)(H:AH):Prop:=match F with
 | none=>r=.tup [.agg [Ac,Ac],B false]
 | some (op,rs)=>∃vo vr,r=.tup [.agg [vo,vr],B true]∧Aa H 2 vo=some (op.flatMap DI,op.length)∧Aa H 1 vr=some (rs.flatMap Dj,rs.length)∧oneA vo=true∧oneA vr=true
theorem gD {l:List Tx}{v:AV}{H:AH}(hv:Aa H 1 v=some (l.flatMap Dj,l.length))(hb:∀s∈l,s.length≤1000000)(hl:l.length≤9223372036854775807):
  ∃r H',(aR (PH l) r H'∧Grew H H')∧BCall prog 83 [.lit (.string ⟨#[]⟩),v] H r H':=Vb (by
 unfold Uc;have e1:A5 H (.agg [Ac,Ac])=some (.ptr H.length 0,H++[some (.cells [Ac,Ac])]):=rfl;have g1:=Grew.app H [some (AObj.cells [Ac,Ac])];have top:=CT (H:=H) (x:=AObj.cells [Ac,Ac]);have l1:(H++[some (AObj.cells [Ac,Ac])]).length=H.length+1:=by simp
 have hv1:=g1.slice hv;have iv:∀i∈AR v,i<H.length:=Ax hv;simp only[e1,Az];generalize (H++[some (AObj.cells [Ac,Ac])])=H1 at*;refine bC_of (ZB H1) ?_;have z0:FC [Ac,Ac] []=some (.agg [Ac,Ac]):=rfl;have alv:AW v=some (I l.length):=B4 hv1;have rd2':∀a b:AV,Al true 2 [a,b] 0=some (.agg [a,b]):=λ_ _=>rfl
 simp only[tX,tW,yG,Ba,sX,alv,Mi,uC];unfold PH
 by_cases c40:40<l.length
 ·have t1:AS 2 H1 (.ptr H.length 0) (.agg [Ac,Ac])=some (H1.set H.length (some (.cells [Ac,Ac]))):=by
   rw[A7 (n:=2) (xs:=[Ac,Ac]) (cs:=[Ac,Ac]) (by simp[BA,oneA]) top rfl (by simp)];rfl
  have t2:(H1.set H.length (some (.cells [Ac,Ac])))[H.length]?=some (some (.cells [Ac,Ac])):=Jo (by omega);simp only[show(40:Int)<(l.length:Int) by omega,uW,z0,Ab,t1,AB,Aj t2,rd2',c40];exact⟨rfl,by rw[vT];omega,λi hi=>by rw[C3 (by omega),g1.2 i hi]⟩
 simp only[show ¬(40:Int)<(l.length:Int) by omega,tC,c40,if_false];generalize hF:He l [] []=F;have o1:=SY hv
 have z1:FC [Ac,Ac,Ac,Ac] [(0,1,Ac),(1,1,v)]=some (.agg [Ac,v,Ac,Ac]):=by
  simp[FC,AL o1,AL (show oneA Ac=true from rfl),AK]
 have e2:A5 H1 (.agg [Ac,v,Ac,Ac])=some (.ptr H1.length 0,H1++[some (.cells [Ac,v,Ac,Ac])]):=by simp[o1]
 have g2:=Grew.app H1 [some (AObj.cells [Ac,v,Ac,Ac])];simp only[z1,Ab,e2,Az];have nil2:∀(H:AH) (sz:Nat),Aa H sz Ac=some ([],0):=λ_ _=>rfl
 have tk0:Tk H1.length H1.length v Ac Ac l [] [] H1 (H1++[some (AObj.cells [Ac,v,Ac,Ac])]):=
  ⟨CT,vB _,g2.slice hv1,λi hi=>by have:=iv i hi;omega,rfl,rfl,by simp[AR],rfl,rfl,by simp[AR],by simp[AR],g2.1,λi hi=>g2.2 i hi⟩
 -- what is answered at the end
 have out:∀(H':AH) (vl vo vr:AV) (lr:List Tx) (op:List (Tx×Tx)) (rs:List Tx),Tk H1.length H1.length vl vo vr lr op rs H1 H'→F=some (op,rs)→HC (.ptr H.length 0) (.ptr H1.length 0) H' (λr H'=>aR F r H'∧Grew H H'):=by
  intro H' vl vo vr lr op rs tk hf;rw[QO];unfold Lk;have rd4:∀a b c d:AV,Al true 2 [a,b,c,d] 2=some (.agg [c,d]):=λ_ _ _ _=>rfl
  have ooA:=AJ tk.oo;have owA:=AJ tk.ow;have top':=(tk.g.2 H.length (by omega)).trans top
  have t1:AS 2 H' (.ptr H.length 0) (.agg [vo,vr])=some (H'.set H.length (some (.cells [vo,vr]))):=by
   rw[A7 (n:=2) (xs:=[vo,vr]) (cs:=[Ac,Ac]) (by simp[ooA,owA]) top' rfl (by simp)];rfl
  have hl':=tk.g.1;have t2:(H'.set H.length (some (.cells [vo,vr])))[H.length]?=some (some (.cells [vo,vr])):=Jo (by omega);simp only[uT,Aj tk.obj,rd4,t1,AB,Aj t2,rd2'];have ne:∀i,i≠H.length→(H'.set H.length (some (.cells [vo,vr])))[i]?=H'[i]?:=λi hi=>C3 (wD hi)
  rw[hf];refine⟨⟨vo,vr,rfl,Ae tk.so λi hi=>ne i (by have:=(tk.io i hi).1;omega),Ae tk.sr λi hi=>ne i (by have:=(tk.ir i hi).1;omega),ooA,owA⟩,by rw[vT];omega,λi hi=>?_⟩;rw[ne i (by omega),tk.g.2 i (by omega),g1.2 i hi]
 refine NZ (λn x4 x8 H'=>∃(lr:List Tx) (vl vo vr:AV) (op:List (Tx×Tx)) (rs:List Tx),lr.length=n∧x4=.ptr H.length 0∧x8=.ptr H1.length 0∧Tk H1.length H1.length vl vo vr lr op rs H1 H'∧He lr op rs=F∧(∀s∈lr,s.length≤1000000)∧op.length+lr.length≤40∧rs.length+lr.length≤40) ?_ l.length
  ⟨l,_,_,_,[],[],rfl,rfl,rfl,tk0,hF,hb,by simp;omega,by simp;omega⟩
 rintro n x4 x8 H2 R hR ⟨lr,vl,vo,vr,op,rs,rfl,rfl,rfl,tk,hf,hb,n1,n2⟩;unfold Ll;have al:=B4 tk.sl;simp only[tY,Aj tk.obj,al,Mi,Ag];cases lr with
 | nil=>
  simp only[xP,Int.ofNat_zero,Int.cast_ofNat_Int,uG];exact out _ _ _ _ _ _ _ tk (by rw[← hf];rfl)
 | cons s lr=>
  simp only[vR]at n1 n2 al;have hlt:=tk.lt;obtain⟨p,hp1,hp2⟩:=NE (enc:=Dj) (f:=λt=>S (As t)) (λ_=>rfl) tk.sl (k:=0) (x:=s) rfl;obtain⟨vl2,b1,b2,b3,-,-⟩:=EL (sz:=1) tk.sl (lo:=some (I 1)) (hi:=none) (l:=1) (k:=lr.length+1) (by simp[Bt]) rfl (by omega) (by simp)
  have b2:Aa H2 1 vl2=some (lr.flatMap Dj,lr.length):=by
   rw[b2];have:(s::lr).flatMap Dj=S (As s)::lr.flatMap Dj:=rfl;have hfl:=ZC lr;rw[this];simp only[xI,yO,vZ,Nat.add_sub_cancel];rw[vA (by omega)]
  have ovl:=SY b2
  have e3:AS 1 H2 (.ptr H1.length 1) vl2=some (H2.set H1.length (some (.cells [Ac,vl2,vo,vr]))):=by
   rw[A7 (n:=1) (xs:=[vl2]) (cs:=[Ac,vl,vo,vr]) (AL ovl) tk.obj rfl (by simp)];rfl
  have hp1:Bk 1 vl (I 0)=some p:=hp1;simp only[vR,show(0:Int)<((lr.length+1:Nat):Int) by omega,tH,hp1,hp2,b1,e3,AB,Ab];have ne:∀i,i≠H1.length→(H2.set H1.length (some (.cells [Ac,vl2,vo,vr])))[i]?=H2[i]?:=λi hi=>C3 (wD hi)
  have tk2:Tk H1.length H1.length vl2 vo vr lr op rs H1 (H2.set H1.length (some (.cells [Ac,vl2,vo,vr]))):=
   ⟨Jo hlt,vB _,Ae b2 λi hi=>ne i (by have:=tk.il i (b3 i hi);omega),λi hi=>tk.il i (b3 i hi),Ae tk.so λi hi=>ne i (tk.io i hi).2,tk.oo,tk.io,Ae tk.sr λi hi=>ne i (tk.ir i hi).2,tk.ow,tk.ir,tk.dj,by rw[vT];exact tk.g.1,λi hi=>(ne i (by omega)).trans (tk.g.2 i hi)⟩
  generalize (H2.set H1.length (some (.cells [Ac,vl2,vo,vr])))=H3 at*;have eD:(AV.lit (.string ⟨#[45,45]⟩))=S (As [45,45]):=rfl;rw[eD,G9];simp only[sY];unfold He at hf
  by_cases cd:s=[45,45]
  ·rw[if_pos cd]at hf
   obtain⟨r,H8,a1,a2,a3,a4,a5,a6⟩:=Ek (sz:=1) (bytes:=16) tk2.sr tk2.ow (AI tk2.sl) (by omega);have k8:∀i,i<H3.length→i∉AR vr→H8[i]?=H3[i]?:=a5;have ob8:H8[H1.length]?=some (some (.cells [Ac,vl2,vo,vr])):=(k8 _ tk2.lt λz=>(tk2.ir _ z).2 rfl).trans tk2.obj;have or':=AJ a2
   have e4:AS 1 H8 (.ptr H1.length 3) r=some (H8.set H1.length (some (.cells [Ac,vl2,vo,r]))):=by
    rw[A7 (n:=1) (xs:=[r]) (cs:=[Ac,vl2,vo,vr]) (AL or') ob8 rfl (by simp)];rfl
   simp only[cd,tH,tY,Nat.reduceAdd,Aj tk2.obj,a1,tV,e4];have ne8:∀i,i≠H1.length→(H8.set H1.length (some (.cells [Ac,vl2,vo,r])))[i]?=H8[i]?:=λi hi=>C3 (wD hi)
   have lt2:=tk2.lt
   have rne:∀i∈AR r,H1.length≤i∧i≠H1.length:=λi hi=>by
    rcases a6 i hi with z | z
    ·exact tk2.ir i z
    ·exact⟨by omega,by omega⟩
   refine out _ vl2 vo r lr op (rs++lr) (tk2.move (by rw[vT];omega) (λi hi=>?_) (Jo (by omega)) ?_ tk2.oo tk2.io ?_ a2 rne ?_) hf.symm
   ·rw[ne8 i (by omega)]
    exact k8 i (by omega) λz=>by have:=(tk2.ir i z).1;omega
   ·exact Ae tk2.so λi hi=>by
     rw[ne8 i (tk2.io i hi).2];exact k8 i (Ax tk2.so i hi) λz=>tk2.dj i hi z
   ·rw[xD,vE]
    exact Ae a3 λi hi=>ne8 i (rne i hi).2
   ·intro i hi z
    rcases a6 i z with y | y
    ·exact tk2.dj i hi y
    ·have:=Ax tk2.so i hi;omega
  ·rw[if_neg cd]at hf
   obtain⟨r,H4,⟨rfl,q1,q2,q3⟩,hc⟩:=qU tk2 (by omega) (by omega) (s:=s) (hb s (by simp));simp only[cd,tC];refine bC_of hc ?_;cases ho:ZR s with
   | none=>
    rw[ho]at hf;simp only at hf;have top':=(q3.2 H.length (by omega)).trans top
    have t1:AS 2 H4 (.ptr H.length 0) (.agg [Ac,Ac])=some (H4.set H.length (some (.cells [Ac,Ac]))):=by
     rw[A7 (n:=2) (xs:=[Ac,Ac]) (cs:=[Ac,Ac]) (by simp[BA,oneA]) top' rfl (by simp)];rfl
    have hl':=q3.1;have t2:(H4.set H.length (some (.cells [Ac,Ac])))[H.length]?=some (some (.cells [Ac,Ac])):=Jo (by omega);simp only[yW,tW,tA,z0,t1,AB,Aj t2,rd2'];rw[← hf];exact⟨rfl,by rw[vT];omega,λi hi=>by rw[C3 (by omega),q3.2 i (by omega),g1.2 i hi]⟩
   | some x=>
    rw[ho]at hf;simp only[xH,tW,tB];cases x with
    | none=>
     obtain⟨vr',tk4⟩:=q2 ho;exact hR lr.length _ _ _ (by simp) ⟨lr,vl2,vo,vr',op,rs++[s],rfl,rfl,rfl,tk4,hf,λz hz=>hb z (by simp[hz]),by omega,by simp;omega⟩
    | some kv=>
     obtain⟨vo',tk4⟩:=q1 kv ho;exact hR lr.length _ _ _ (by simp) ⟨lr,vl2,vo',vr,op++[kv],rs,rfl,rfl,rfl,tk4,hf,λz hz=>hb z (by simp[hz]),by simp;omega,by omega⟩)
theorem kH {H:AH}{v:AV}{l:List (Tx×Tx)}{k:Nat}{x:Tx×Tx}(h:Aa H 2 v=some (l.flatMap DI,l.length))(hx:l[k]?=some x):∃p,Bk 2 v (I (k:Int))=some p∧Ar true 2 H p=some (.agg (DI x)):=by
 have hk:=(BE.1 hx).1;obtain⟨p,c,h1,h2,h3,h4⟩:=Jp h (i:=(k:Int)) rfl hk;refine⟨p,h1,?_⟩;rw[Pv h2 (by omega) h4,F7 (by omega),vZ,h3,CU Z9 hx,vL (by simp[DI]),vA (by simp[DI])]
theorem cZ:Bq prog 159=true:=by kernel_rfl
theorem aS {ks:List Tx}{v:AV}(hv:SV Dj 1 ks v)(hk:ks.length≤1000000)(x:Tx)(H:AH):BCall prog 160 [v,S (As x)] H (B (decide (x∈ks))) H:=by
 obtain⟨r,H',⟨rfl,rfl⟩,hc⟩:=FJ (a0:=v) (a1:=S (As x)) (H:=H) (K:=λr H'=>r=B (decide (x∈ks))∧H'=H) (by
  unfold DP
  obtain⟨r,H',⟨⟨i,rfl,hi⟩,rfl⟩,hc⟩:=G8 (a0:=v) (a1:=S (As x)) (H:=H) (K:=λr H'=>(∃i:Int,r=I i∧(0≤i↔x∈ks))∧H'=H) (by
   unfold E2;simp only[hv.len,Ab];refine Fk (λn x0 x1 x7 x8 H'=>∃k:Nat,k+n=ks.length∧x0=v∧x1=S (As x)∧x7=I ks.length∧x8=I k∧H'=H∧∀m y,m<k→ks[m]?=some y→y≠x) ?_ ks.length ⟨0,by omega,rfl,rfl,rfl,rfl,rfl,by omega⟩;rintro n x0 x1 x7 x8 H' R hR ⟨k,hk2,rfl,rfl,rfl,rfl,rfl,hb⟩;unfold D1;simp only[uA];rcases vF k ks.length with h | h
   ·have hx:=E3 h
    generalize ks[k]=y at hx;have q0:∀t,Ar false 1 H' (.ip (Dj y++t))=some (S (As y)):=λ_=>rfl
    simp only[show(k:Int)<(ks.length:Int) by omega,tH,hv.idx Si hx rfl,q0,sY,G9]
    by_cases c:x=y
    ·simp only[c,tH]
     refine⟨⟨k,by trivial,?_⟩,by trivial⟩;rw[← c]at hx⊢;exact⟨λ_=>vD hx,λ_=>by omega⟩
    ·simp only[c,uS,A0 (a:=(k:Int)) (b:=1) (by omega) (by omega)]
     refine hR (n - 1) _ _ _ _ _ (by omega) ⟨k+1,by omega,rfl,rfl,rfl,by simp,rfl,?_⟩;intro m z hm hz
     by_cases c2:m=k
     ·rw[c2,hx]at hz;injection hz with hz;rw[← hz];exact λe=>c e.symm
     ·exact hb m z (by omega) hz
   ·simp only[show ¬(k:Int)<(ks.length:Int) by omega,tC]
    refine⟨⟨-1,by trivial,λh=>by omega,λhm=>?_⟩,by trivial⟩;obtain⟨m,hm⟩:=vN.1 hm
    have:=(BE.1 hm).1
    exact absurd rfl (hb m x (by omega) hm))
  refine bC_of hc ?_;simp only[Hz,Ab];exact⟨by simp only[hi],by trivial⟩)
 exact hc
theorem gG {ks:List Tx}{v:AV}(hv:SV Dj 1 ks v)(hk:ks.length≤1000000){ko:Nat}{H:AH}(hko:H[ko]?=some (some (.cells [v])))(kv:Tx×Tx):∃r H',(r=B (decide (kv.1∉ks))∧Grew H H')∧BCall prog 159 [.agg (DI kv),.ptr ko 0] H r H':=TD (by
 unfold RM;have e1:A5 H (.agg (DI kv))=some (.ptr H.length 0,H++[some (.cells (DI kv))]):=by simp[DI]
 have g:=Grew.app H [some (AObj.cells (DI kv))];have i0:(DI kv)[0]?=some (S (As kv.1)):=rfl;simp only[e1,Az,Aj (g.cells hko),Ah,uQ,Ab,Am,Aj CT,i0];refine bC_of (aS hv hk kv.1 _) ?_;simp only[Bl,Ab];refine⟨?_,g⟩
 by_cases c:kv.1∈ks<;>simp[c])
theorem kV {op:List (Tx×Tx)}{vo v:AV}{ks:List Tx}{H:AH}(hs:Aa H 2 vo=some (op.flatMap DI,op.length))(hl:op.length≤1000000)(hv:SV Dj 1 ks v)(hk:ks.length≤1000000):
  ∃r H',(r=B (decide (∀kv∈op,kv.1∈ks))∧Grew H H')∧BCall prog 84 [vo,v] H r H':=Wj (by
 unfold Wi;have ov:=SV.oneA hv;have e1:A5 H v=some (.ptr H.length 0,H++[some (.cells [v])]):=by simp[A5,AL ov]
 have g:=Grew.app H [some (AObj.cells [v])];have hko:=CT (H:=H) (x:=AObj.cells [v]);have hs1:=g.slice hs;simp only[e1,Az];have l1:(H++[some (AObj.cells [v])]).length=H.length+1:=by simp
 generalize (H++[some (AObj.cells [v])])=H1 at*
 have key:∃r H',(r=B (decide (¬∀kv∈op,kv.1∈ks))∧Grew H1 H')∧BCall prog 158 [vo,.fn (.func 159) [] [.ptr H.length 0]] H1 r H':=E6 (by
  unfold CI
  obtain⟨r,H',⟨⟨i,rfl,hi⟩,g2⟩,hc⟩:=EV (a0:=vo) (a1:=.fn (.func 159) [] [.ptr H.length 0]) (H:=H1) (K:=λr H'=>(∃i:Int,r=I i∧(0≤i↔¬∀kv∈op,kv.1∈ks))∧Grew H1 H') (by
   unfold Dm;simp only[B4 hs1,Ab];refine Ep (λn x0 x1 x7 x8 H'=>∃k:Nat,k+n=op.length∧x0=vo∧x1=.fn (.func 159) [] [.ptr H.length 0]∧x7=I op.length∧x8=I k∧Grew H1 H'∧∀m y,m<k→op[m]?=some y→y.1∈ks) ?_ op.length ⟨0,by omega,rfl,rfl,rfl,rfl,Grew.refl _,by omega⟩;rintro n x0 x1 x7 x8 H' R hR ⟨k,hk2,rfl,rfl,rfl,rfl,g2,hb⟩;unfold C4;simp only[uA];rcases vF k op.length with h | h
   ·have hx:=E3 h
    generalize op[k]=y at hx;obtain⟨p,p1,p2⟩:=kH (g2.slice hs1) hx;simp only[show(k:Int)<(op.length:Int) by omega,tH,p1,p2,Ab,Y6,cZ,uR,tJ];obtain⟨r,H3,⟨rfl,g3⟩,hc⟩:=gG hv hk (g2.cells hko) y;refine bC_of hc ?_
    by_cases c:y.1∈ks
    ·simp only[c,not_true_eq_false,tC,sY,A0 (a:=(k:Int)) (b:=1) (by omega) (by omega)]
     refine hR (n - 1) _ _ _ _ _ (by omega) ⟨k+1,by omega,rfl,rfl,rfl,by simp,g2.trans g3,?_⟩;intro m z hm hz
     by_cases c2:m=k
     ·rw[c2,hx]at hz;injection hz with hz;rw[← hz];exact c
     ·exact hb m z (by omega) hz
    ·simp only[c,not_false_eq_true,tH,Ag]
     exact⟨⟨k,by trivial,λ_ hm=>c (hm y (vD hx)),λ_=>by omega⟩,g2.trans g3⟩
   ·simp only[show ¬(k:Int)<(op.length:Int) by omega,tC]
    refine⟨⟨-1,by trivial,λh=>by omega,λhm=>absurd (λkv hkv=>?_) hm⟩,g2⟩;obtain⟨m,hm⟩:=vN.1 hkv
    have:=(BE.1 hm).1
    exact hb m kv (by omega) hm)
  refine bC_of hc ?_;simp only[Hz,Ab];exact⟨by simp only[hi],g2⟩)
 obtain⟨r,H',⟨rfl,g2⟩,hc⟩:=key;refine bC_of hc ?_;simp only[Bl,Ab];refine⟨?_,g.trans g2⟩
 by_cases c:∀kv∈op,kv.1∈ks<;>simp[c])
def rE:Tx:=[115,112,97,114,115,101]
def Kz:Tx:=[97,117,116,111]
def Mj:Tx:=[97,108,119,97,121,115]
def XU:Tx:=[110,101,118,101,114]
def Pp (w:Tx):Prop:=w=Kz∨w=Mj∨w=XU
instance (w:Tx):Decidable (Pp w):=by unfold Pp;infer_instance
def QJ:List (Tx×Tx)→Tx→Option Tx
 | [],w=>some w
 | kv::l,_=>if Pp kv.2 then QJ l kv.2 else none
def V5 (op:List (Tx×Tx)):List Tx→Option (Tx×Tx×Tx)
 | [a,b]=>if a=b then none else if ∀kv∈op,kv.1∈[rE]then(QJ op Kz).map λw=>(a,b,w)else none
 | _=>none
def Jh (l:List Tx):Option (Tx×Tx×Tx):=match PH l with
 | none=>none
 | some (op,rs)=>V5 op rs
theorem N6:∀{l:List Tx} {o:List (Tx×Tx)} {r:List Tx} {q:List (Tx×Tx)×List Tx},He l o r=some q→q.1.length≤o.length+l.length
 | [],o,r,q,h=>by
  unfold He at h;injection h with h;subst h;simp
 | s::l,o,r,q,h=>by
  unfold He at h;split at h
  ·injection h with h
   subst h;simp only;omega
  ·split at h
   ·cases h
   ·have:=N6 h
    simp only[uU]at this⊢;omega
   ·have:=N6 h
    simp only[vR]at this⊢;omega
def X0 (P:Option (Tx×Tx×Tx))(r:AV):Prop:=match P with
 | none=>r=.tup [S (As []),S (As []),S (As []),B false]
 | some (a,b,w)=>r=.tup [S (As a),S (As b),S (As w),B true]
theorem iZ {l:List Tx}{v:AV}{H:AH}(hv:Aa H 1 v=some (l.flatMap Dj,l.length))(hb:∀s∈l,s.length≤1000000)(hl:l.length≤1000000):
  ∃r H',(X0 (Jh l) r∧Grew H H')∧BCall prog 38 [v] H r H':=W5 (by
 unfold W4;obtain⟨r,H1,⟨hr,g1⟩,hc⟩:=gD hv hb (by omega);refine bC_of hc ?_;unfold Jh;have e1:A5 H1 (.agg [Ac,Ac])=some (.ptr H1.length 0,H1++[some (.cells [Ac,Ac])]):=rfl;have rd2':∀a b:AV,Al true 2 [a,b] 0=some (.agg [a,b]):=λ_ _=>rfl
 cases hF:PH l with
 | none=>
  rw[hF]at hr;have hr:r=.tup [.agg [Ac,Ac],B false]:=hr;subst hr
  have t1:AS 2 (H1++[some (AObj.cells [Ac,Ac])]) (.ptr H1.length 0) (.agg [Ac,Ac])=some (H1++[some (AObj.cells [Ac,Ac])]):=by
   rw[A7 (n:=2) (xs:=[Ac,Ac]) (cs:=[Ac,Ac]) (by simp[BA,oneA]) CT rfl (by simp)];simp[AK]
  simp only[tX,tW,e1,tV,t1,tA,Ba,show((true==false)=false)from rfl,C2,JC,A4,if_true];exact⟨rfl,g1.trans (Grew.app _ _)⟩
 | some q=>
  obtain⟨op,rs⟩:=q;rw[hF]at hr;obtain⟨vo,vr,rfl,so,sr,ooA,owA⟩:=hr
  have lop:op.length≤1000000:=by
   unfold PH at hF;split at hF
   ·cases hF
   ·have:=N6 hF
    simp only[xP]at this;omega
  have t1:AS 2 (H1++[some (AObj.cells [Ac,Ac])]) (.ptr H1.length 0) (.agg [vo,vr])=some (H1++[some (AObj.cells [vo,vr])]):=by
   rw[A7 (n:=2) (xs:=[vo,vr]) (cs:=[Ac,Ac]) (by simp[ooA,owA]) CT rfl (by simp)];simp[AK]
  have g2:=Grew.app H1 [some (AObj.cells [vo,vr])];have so:=g2.slice so;have sr:=g2.slice sr;have ob:=CT (H:=H1) (x:=AObj.cells [vo,vr]);have g12:=g1.trans g2;simp only[tX,uI,e1,tV,t1,Bl,yG,sX];generalize (H1++[some (AObj.cells [vo,vr])])=H2 at*;have alr:=B4 sr;have bad:∀H3,Grew H2 H3→(X0 none (.tup [(.lit (.string ⟨#[]⟩)),(.lit (.string ⟨#[]⟩)),(.lit (.string ⟨#[]⟩)),(B false)]))∧Grew H H3:=λH3 g=>⟨rfl,g12.trans g⟩
  simp only[tM,Aj ob,alr,C7,uC,Ba]
  by_cases c2:rs.length=2
  rotate_left
  ·have:V5 op rs=none:=by
    match rs,c2 with
    | [],_=>rfl
    | [_],_=>rfl
    | [_,_],h=>exact absurd rfl h
    | _::_::_::_,_=>rfl
   simp only[show((rs.length:Int)≠2) by omega,sV,uW,show((true==false)=false)from rfl,C2,JC,Ba,sY,A4,this];exact bad _ (Grew.refl _)
  obtain⟨a,b,rfl⟩:∃a b,rs=[a,b]:=by
   match rs,c2 with
   | [a,b],_=>exact⟨a,b,rfl⟩
  obtain⟨pa,pa1,pa2⟩:=NE (enc:=Dj) (f:=λt=>S (As t)) (λ_=>rfl) sr (k:=0) (x:=a) rfl;obtain⟨pb,pb1,pb2⟩:=NE (enc:=Dj) (f:=λt=>S (As t)) (λ_=>rfl) sr (k:=1) (x:=b) rfl;have pa1:Bk 1 vr (I 0)=some pa:=pa1;have pb1:Bk 1 vr (I 1)=some pb:=pb1;simp only[sW,show((((0:Nat)+1+1:Nat):Int)≠2)=False by simp,DC,sX,tM,Aj ob,pa1,pa2,pb1,pb2,G9,uC,Ba];unfold V5
  by_cases cab:a=b
  ·simp only[cab,uW,show((true==false)=false)from rfl,C2,JC,Ba,sY,A4]
   exact bad _ (Grew.refl _)
  have eK:QL 1 1 (AZ [(.lit (.string ⟨#[]⟩))] 1) [(0,1,(.lit (.string ⟨#[115,112,97,114,115,101]⟩)))]=some (.imm [S (As rE)] 1 1):=rfl;have hK:SV Dj 1 [rE] (.imm [S (As rE)] 1 1):=SV.imm Si (λx _=>rfl);simp only[cab,DC,sX,Aj ob,Ah,tE,Am,wW,uI,eK,Vr,if_false];obtain⟨r,H3,⟨rfl,g3⟩,hc⟩:=kV so lop hK (by simp);refine bC_of hc ?_
  by_cases call:∀kv∈op,kv.1∈[rE]
  rotate_left
  ·simp only[call,DC,tW,tA,uC]
   exact bad _ g3
  have ob3:=g3.cells ob;have so3:=g3.slice so;simp only[decide_eq_true call,if_pos call,tW,tB,uC,Aj ob3,Ah,DG,B4 so3];refine PB (λn x4 x6 x41 x42 x43 H'=>∃(k:Nat) (w:Tx),k+n=op.length∧x4=S (As w)∧x6=.ptr H1.length 0∧vo=x41∧x42=I op.length∧x43=I k∧Grew H2 H'∧QJ (op.drop k) w=QJ op Kz) ?_ op.length ⟨0,Kz,by omega,rfl,rfl,rfl,rfl,rfl,g3,by simp⟩;rintro n x4 x6 x41 x42 x43 H4 R hR ⟨k,w,hk,rfl,rfl,rfl,rfl,rfl,g4,hw⟩;unfold MR;simp only[uA];rcases vF k op.length with hlt | hge
  ·have hx:=E3 hlt
   generalize op[k]=y at hx;obtain⟨p,p1,p2⟩:=kH (g4.slice so) hx;have e5:A5 H4 (.agg [(.lit (.string ⟨#[]⟩)),(.lit (.string ⟨#[]⟩))])=some (.ptr H4.length 0,H4++[some (.cells [S (As []),S (As [])])]):=rfl
   have t5:AS 2 (H4++[some (AObj.cells [S (As []),S (As [])])]) (.ptr H4.length 0) (.agg (DI y))=some (H4++[some (.cells (DI y))]):=by
    rw[A7 (n:=2) (xs:=DI y) (cs:=[S (As []),S (As [])]) (by simp[DI,BA,oneA]) CT rfl (by simp)];simp[AK,DI]
   have i1:(DI y)[1]?=some (S (As y.2)):=rfl;have g5:=Grew.app H4 [some (AObj.cells (DI y))];have hd:op.drop k=y::op.drop (k+1):=Et hx;rw[hd,show QJ (y::op.drop (k+1)) w=if Pp y.2 then QJ (op.drop (k+1)) y.2 else none from rfl]at hw;have q1:(AV.lit (.string ⟨#[97,117,116,111]⟩))=S (As Kz):=rfl;have q2:(AV.lit (.string ⟨#[97,108,119,97,121,115]⟩))=S (As Mj):=rfl;have q3:(AV.lit (.string ⟨#[110,101,118,101,114]⟩))=S (As XU):=rfl
   have fin:∀(t:Bool),t=decide (¬Pp y.2)→bB (B t) λt20=>bI t20 ((X0 ((QJ op Kz).map λw=>(a,b,w)) (.tup [(.lit (.string ⟨#[]⟩)),(.lit (.string ⟨#[]⟩)),(.lit (.string ⟨#[]⟩)),(B false)]))∧Grew H (H4++[some (AObj.cells (DI y))])) (bO (Ay .add (I (k:Int)) (I 1)) λv21=>R [S (As y.2),.ptr H1.length 0,vo,I op.length,v21] (H4++[some (AObj.cells (DI y))])):=by
    rintro t rfl
    by_cases cw:Pp y.2
    ·rw[if_pos cw]at hw
     simp only[cw,not_true_eq_false,tC,sY,A0 (a:=(k:Int)) (b:=1) (by omega) (by omega)];exact hR (n - 1) _ _ _ _ _ _ (by omega) ⟨k+1,y.2,by omega,rfl,rfl,rfl,rfl,by simp,g4.trans g5,hw⟩
    ·rw[if_neg cw]at hw
     simp only[cw,not_false_eq_true,tH,Ag];rw[← hw];exact bad _ (g4.trans g5)
   simp only[show(k:Int)<(op.length:Int) by omega,tH,p1,p2,tI,e5,tV,t5,Aj CT,i1,q1,q2,q3,NS,Ba]
   by_cases w1:y.2=Kz
   ·simp only[w1,sU,DC,show((false==true)=false)from rfl,C2,uI,uC]
    have:=fin false (by simp[Pp,w1])
    rw[w1]at this;exact this
   ·simp only[w1,sV,tD,sX,uI,NS,A4]
    by_cases w2:y.2=Mj
    ·simp only[w2,not_true_eq_false,DC,show((false==true)=false)from rfl,C2,uI,uC]
     have:=fin false (by simp[Pp,w2])
     rw[w2]at this;exact this
    ·simp only[w2,sV,tD,sX,uI,NS,A4]
     exact fin (decide (¬y.2=XU)) (by simp[Pp,w1,w2])
  ·have ek:op.drop k=[]:=vP hge
   rw[ek,show QJ [] w=some w from rfl]at hw;have ob4:=g4.cells ob;obtain⟨pa,pa1,pa2⟩:=NE (enc:=Dj) (f:=λt=>S (As t)) (λ_=>rfl) (g4.slice sr) (k:=0) (x:=a) rfl;obtain⟨pb,pb1,pb2⟩:=NE (enc:=Dj) (f:=λt=>S (As t)) (λ_=>rfl) (g4.slice sr) (k:=1) (x:=b) rfl;have pa1:Bk 1 vr (I 0)=some pa:=pa1;have pb1:Bk 1 vr (I 1)=some pb:=pb1;simp only[show ¬(k:Int)<(op.length:Int) by omega,tC,tM,Aj ob4,pa1,pa2,pb1,pb2];rw[← hw];exact⟨rfl,g12.trans g4⟩)
structure Bes (o:Nat)(cs:List AV)(os:Nat)(p:AV)(H:AH):Prop where
 at':H[o]?=some (some (.cells cs))
 ne:o≠os
 np:o∉AR p
theorem Bes.step {o:Nat}{cs:List AV}{os:Nat}{p p':AV}{H H':AH}(h:Bes o cs os p H)(f:StF os p p' H H'):Bes o cs os p' H':=by
 have hl:=(BE.1 h.at').1;exact⟨(f.same o hl h.ne h.np).trans h.at',h.ne,λz=>(f.ids o z).elim h.np (λz=>by omega)⟩
theorem Bes.grew {o:Nat}{cs:List AV}{os:Nat}{p:AV}{H H':AH}(h:Bes o cs os p H)(g:Grew H H'):Bes o cs os p H':=⟨g.cells h.at',h.ne,h.np⟩
theorem Bes.new {s:StS}{os:Nat}{p:AV}{H:AH}(h:StAt s os p H)(cs:List AV):Bes H.length cs os p (H++[some (.cells cs)]):=
 ⟨CT,by have:=h.os_lt;omega,λz=>by have:=h.p_lt _ z;omega⟩
theorem Wv {N:Nat}{s:StS}{os:Nat}{p:AV}{H:AH}(h:StAt s os p H)(hw:SW N s)(hN:N≤900000){ino:Int}(h0:(AA s ino).2=0):
  ∃r H',((∃R,r=.agg [I (AA s ino).1.1,R]∧SV Aw 9 (AA s ino).1.2 R)∧Grew H H')∧BCall prog 85 [.ptr os 0,I ino] H r H':=TF (by
 unfold RZ;have e1:A5 H (.agg [(I 0),Ac])=some (.ptr H.length 0,H++[some (.cells [I 0,Ac])]):=rfl;have g1:=Grew.app H [some (AObj.cells [I 0,Ac])];have top:=CT (H:=H) (x:=AObj.cells [I 0,Ac]);have l1:(H++[some (AObj.cells [I 0,Ac])]).length=H.length+1:=by simp
 simp only[e1,Az];generalize (H++[some (AObj.cells [I 0,Ac])])=H1 at*;obtain⟨Rn,hRn,r,H2,⟨rfl,g2⟩,hc⟩:=aT (h.grew g1) hw hN;refine bC_of hc ?_;obtain⟨a,b,dv,rfl,ha,hb,hdv⟩:=hRn;have ob:=SV.oneA hb;have e2:Wg false 1 1 (.agg [a,b])=some b:=rfl;simp only[e2,Ab,hb.len];have top2:=g2.cells top;have lt2:=g2.1
 have hdl:dv.length≤1000000:=by
  have:=hw.now.1.len2
  rw[← hdv,wB]at this;omega
 obtain⟨d,hd,hdi,hdc,-⟩:=Lr hw h0
 have uniq:∀x∈dv,x.nd.ino=ino→(AA s ino).1=(x.nd.size,x.nd.l):=λx hx hi=>by
  have h1:x.nd∈s.now.2:=by rw[← hdv];exact wF hx
  have e1:=(Vt hw.now.1 h1).1;have e2:=(Vt hw.now.1 hd).1;rw[hi]at e1;rw[hdi,e1]at e2;rw[hdc,e2]
 refine Nz (λn x1 x4 x9 x10 x11 H'=>∃k:Nat,k+n=dv.length∧x1=I ino∧x4=.ptr H.length 0∧b=x9∧x10=I dv.length∧x11=I k∧Grew H2 H'∧∀m y,m<k→dv[m]?=some y→y.nd.ino≠ino) ?_ dv.length ⟨0,by omega,rfl,rfl,rfl,rfl,rfl,Grew.refl _,by omega⟩;rintro n x1 x4 x9 x10 x11 H3 R hR ⟨k,hk,rfl,rfl,rfl,rfl,rfl,g3,hno⟩;unfold K4;simp only[uA];rcases vF k dv.length with hlt | hge
 ·have hx:=E3 hlt
  generalize dv[k]=x at hx;have q0:∀t,Ar true 3 H3 (.ip (Bw x++t))=some (.agg (Bw x)):=λ_=>rfl
  have oR:=SV.oneA x.h;have e3:A5 H3 (.agg [(I 0),(I 0),Ac])=some (.ptr H3.length 0,H3++[some (.cells [I 0,I 0,Ac])]):=rfl
  have e4:AS 3 (H3++[some (AObj.cells [I 0,I 0,Ac])]) (.ptr H3.length 0) (.agg (Bw x))=some (H3++[some (.cells (Bw x))]):=by
   rw[A7 (n:=3) (xs:=Bw x) (cs:=[I 0,I 0,Ac]) (by simp[Bw,oR]) CT rfl (by simp)];simp[AK,Bw]
  have g4:=Grew.app H3 [some (AObj.cells (Bw x))];have i0:(Bw x)[0]?=some (I x.nd.ino):=rfl;have i12:Al true 2 (Bw x) 1=some (.agg [I x.nd.size,x.R]):=rfl;have top4:=g4.cells (g3.cells top2);have lt3:=g3.1;simp only[show(k:Int)<(dv.length:Int) by omega,tH,hb.idx CG hx rfl,tI,q0,e3,tV,e4,Aj CT,i0,i12,FN,Ag]
  by_cases c:x.nd.ino=ino
  ·have e5:AS 2 (H3++[some (AObj.cells (Bw x))]) (.ptr H.length 0) (.agg [I x.nd.size,x.R])=some ((H3++[some (AObj.cells (Bw x))]).set H.length (some (.cells [I x.nd.size,x.R]))):=by
    rw[A7 (n:=2) (xs:=[I x.nd.size,x.R]) (cs:=[I 0,Ac]) (by simp[oR]) top4 rfl (by simp)];rfl
   have hlen:H.length<(H3++[some (AObj.cells (Bw x))]).length:=by simp;omega
   have t5:((H3++[some (AObj.cells (Bw x))]).set H.length (some (.cells [I x.nd.size,x.R])))[H.length]?=some (some (.cells [I x.nd.size,x.R])):=Jo hlen;simp only[c,tH,e5,AB,Aj t5,show ∀a b:AV,Al true 2 [a,b] 0=some (.agg [a,b])from λ_ _=>rfl,Ab];rw[uniq x (vD hx) c];refine⟨⟨x.R,rfl,x.h⟩,by rw[vT];simp;omega,λi hi=>?_⟩;rw[C3 (by omega),g4.2 i (by omega),g3.2 i (by omega),g2.2 i (by omega),g1.2 i hi]
  ·simp only[c,uS,A0 (a:=(k:Int)) (b:=1) (by omega) (by omega)]
   refine hR (n - 1) _ _ _ _ _ _ (by omega) ⟨k+1,by omega,rfl,rfl,rfl,rfl,by simp,g3.trans g4,?_⟩;intro m z hm hz
   by_cases c2:m=k
   ·rw[c2,hx]at hz;injection hz with hz;rw[← hz];exact c
   ·exact hno m z (by omega) hz
 ·exfalso
  rw[← hdv]at hd;obtain⟨x,hx,rfl⟩:=vV.1 hd;obtain⟨m,hm⟩:=vN.1 hx
  have:=(BE.1 hm).1
  exact hno m x (by omega) hm hdi)
theorem TK (l:List Ext)(k:Nat):(l.flatMap Aw).drop (k*9)=(l.drop k).flatMap Aw:=by
 rcases vF k l.length with h | h
 ·have hx:=E3 h
  rw[CU A2 hx,Et hx,vW]
 ·rw[vP h,vP (by rw[IN A2];exact vH _ h)];rfl
theorem TL (l:List Ext)(k:Nat)(h:k≤l.length):(l.flatMap Aw).take (k*9)=(l.take k).flatMap Aw:=by
 have e:l.flatMap Aw=(l.take k).flatMap Aw++(l.drop k).flatMap Aw:=by rw[← xD,wZ]
 have hl:((l.take k).flatMap Aw).length=k*9:=by rw[IN A2,uZ];congr 1;omega
 rw[e,← hl,List.take_left'];rfl
theorem SV.cutX {l:List Ext}{v:AV}(hv:SV Aw 9 l v){a k:Nat}{lo hi:Option AV}(e1:Bt lo 0=some a)(e2:Bt hi l.length=some k)(h1:a≤k)(h2:k≤l.length):∃r,AT 9 v lo hi none=some r∧SV Aw 9 ((l.drop a).take (k - a)) r:=by
 have key:∀H:AH,∃r,AT 9 v lo hi none=some r∧Aa H 9 r=some (((l.drop a).take (k - a)).flatMap Aw,((l.drop a).take (k - a)).length)∧(noIds v=true→noIds r=true):=by
  intro H;obtain⟨r,s1,s2,-,-,s5⟩:=EL (hv.2 H) (lo:=lo) (hi:=hi) (l:=a) (k:=k) e1 e2 h1 h2;refine⟨r,s1,?_,s5⟩;have hl:((l.drop a).take (k - a)).length=k - a:=by rw[uZ,vG];omega
  rw[s2,hl,TK,TL _ _ (by rw[vG];omega)]
 obtain⟨r,s1,s2,s5⟩:=key [];refine⟨r,s1,s5 hv.1,λH=>?_⟩;obtain⟨r2,t1,t2,-⟩:=key H;rw[s1]at t1;injection t1 with t1;rw[t1];exact t2
def Cs (size:Int):List Ext→List Ext
 | []=>[]
 | x::l=>if x.no*8<size then x::Cs size l else []
theorem RQ {size:Int}:∀{l:List Ext} {k:Nat} {x:Ext},(∀m y,m<k→l[m]?=some y→y.no*8<size)→l[k]?=some x→¬x.no*8<size→Cs size l=l.take k
 | [],k,x,_,h,_=>by simp at h
 | y::l,0,x,_,h,hx=>by
  injection h with h;subst h;unfold Cs;rw[if_neg hx];rfl
 | y::l,k+1,x,h1,h,hx=>by
  unfold Cs;rw[if_pos (h1 0 y (by omega) rfl),RQ (λm z hm hz=>h1 (m+1) z (by omega) hz) (show l[k]?=some x from h) hx];rfl
theorem Uh {size:Int}:∀{l:List Ext},(∀y∈l,y.no*8<size)→Cs size l=l
 | [],_=>rfl
 | y::l,h=>by
  unfold Cs;rw[if_pos (h y (by simp)),Uh λz hz=>h z (by simp[hz])]
theorem Jt (size:Int):∀(l:List Ext),(Cs size l).length≤l.length
 | []=>vB _
 | y::l=>by
  unfold Cs
  split
  ·have:=Jt size l
   simp only[vR];omega
  ·simp
theorem Vf {size:Int}{l:List Ext}{v:AV}(hv:SV Aw 9 l v)(hl:l.length≤1000000)(hn:∀x∈l,0≤x.no∧x.no<137438953472)(H:AH):
  ∃r H',(SV Aw 9 (Cs size l) r∧Grew H H')∧BCall prog 86 [.agg [I size,v]] H r H':=W1 (by
 unfold W0;have ov:=SV.oneA hv;have e1:A5 H (.agg [I size,v])=some (.ptr H.length 0,H++[some (.cells [I size,v])]):=by simp[ov]
 have g1:=Grew.app H [some (AObj.cells [I size,v])];have top:=CT (H:=H) (x:=AObj.cells [I size,v]);simp only[e1,Az,tM,Aj top,hv.len];generalize (H++[some (AObj.cells [I size,v])])=H1 at*;refine P8 (λn x1 x6 x7 x8 H'=>∃k:Nat,k+n=l.length∧x1=.ptr H.length 0∧v=x6∧x7=I l.length∧x8=I k∧Grew H1 H'∧∀m y,m<k→l[m]?=some y→y.no*8<size) ?_ l.length ⟨0,by omega,rfl,rfl,rfl,rfl,Grew.refl _,by omega⟩;rintro n x1 x6 x7 x8 H3 R hR ⟨k,hk,rfl,rfl,rfl,rfl,g3,hno⟩;unfold MM;have top3:=g3.cells top;simp only[uA];rcases vF k l.length with hlt | hge
 ·have hx:=E3 hlt
  generalize l[k]=x at hx;have hxn:=hn x (vD hx)
  have q0:∀t,Ar true 9 H3 (.ip (Aw x++t))=some (.agg (Aw x)):=λt=>by
   show Al true 9 (Aw x++t) 0=_
   rw[F7 (by rw[vE,A2];omega),vZ,vL (by rw[A2];omega),vA (by rw[A2];omega)]
  have e3:A5 H3 (.agg [(I 0),u0Z,u0Z,u0Z,u0Z,u0Z,u0Z,u0Z,u0Z])=some (.ptr H3.length 0,H3++[some (.cells [I 0,u0Z,u0Z,u0Z,u0Z,u0Z,u0Z,u0Z,u0Z])]):=rfl
  have e4:AS 9 (H3++[some (AObj.cells [I 0,u0Z,u0Z,u0Z,u0Z,u0Z,u0Z,u0Z,u0Z])]) (.ptr H3.length 0) (.agg (Aw x))=some (H3++[some (.cells (Aw x))]):=by
   rw[A7 (n:=9) (xs:=Aw x) (cs:=[I 0,u0Z,u0Z,u0Z,u0Z,u0Z,u0Z,u0Z,u0Z]) (by simp) CT (A2 x) (by simp)];rw[Eu _ _ _ (by simp[A2]),xJ,wP,vP (by simp[A2]),wI];simp
  have g4:=Grew.app H3 [some (AObj.cells (Aw x))];have i0:(Aw x)[0]?=some (I x.no):=rfl;simp only[show(k:Int)<(l.length:Int) by omega,tH,hv.idx A2 hx rfl,tM,q0,e3,tV,e4,Aj CT,Aj (g4.cells top3),i0,I8 (a:=x.no) (b:=8) (by omega) (by omega),Hz,Ag]
  by_cases c:x.no*8<size
  ·simp only[show ¬size≤x.no*8 by omega,uS,A0 (a:=(k:Int)) (b:=1) (by omega) (by omega)]
   refine hR (n - 1) _ _ _ _ _ (by omega) ⟨k+1,by omega,rfl,rfl,rfl,by simp,g3.trans g4,?_⟩;intro m z hm hz
   by_cases c2:m=k
   ·rw[c2,hx]at hz;injection hz with hz;rw[← hz];exact c
   ·exact hno m z (by omega) hz
  ·obtain⟨w,s1,s2⟩:=hv.cutX (lo:=none) (hi:=some (I (k:Int))) (a:=0) (k:=k) rfl (by simp[Bt]) (by omega) (by omega)
   rw[vZ,Nat.sub_zero]at s2;simp only[show size≤x.no*8 by omega,tH,s1,Ab];rw[RQ hno hx c];exact⟨s2,g1.trans (g3.trans g4)⟩
 ·have:Cs size l=l:=Uh λy hy=>by
   obtain⟨m,hm⟩:=vN.1 hy
   have:=(BE.1 hm).1
   exact hno m y (by omega) hm
  simp only[show ¬(k:Int)<(l.length:Int) by omega,tC,tM,Aj top3];rw[this];exact⟨hv,g1.trans g3⟩)
end
end Go.Proofs.YtbppnhenlboefaaGreat.Av
section
set_option maxHeartbeats 1000000
namespace Go.Proofs.YtbppnhenlboefaaGreat.Av
open Go Go.RowKit Go.Proofs.Tryz
def Ns (b:List UInt8):Prop:=∀c∈b,c=0
instance (b:List UInt8):Decidable (Ns b):=by unfold Ns;infer_instance
theorem kT {b:List UInt8}{v:AV}{H:AH}(hv:Aa H 1 v=some (Bc b,b.length))(hl:b.length≤1000000):
  ∃i:Int,(i<b.length↔¬Ns b)∧BCall prog 199 [v] H (I i) H:=by
 obtain⟨r,H',⟨⟨i,rfl,hi⟩,rfl⟩,hc⟩:=VB (a0:=v) (H:=H) (K:=λr H'=>(∃i:Int,r=I i∧(i<b.length↔¬Ns b))∧H'=H) (by
  unfold UE;refine Pe (λn x0 x3 H'=>∃k:Nat,k+n=b.length∧x0=v∧x3=I k∧H'=H∧∀m y,m<k→b[m]?=some y→y=0) ?_ b.length ⟨0,by omega,rfl,rfl,rfl,by omega⟩;rintro n x0 x3 H' R hR ⟨k,hk,rfl,rfl,rfl,hb⟩;unfold LZ;simp only[B4 hv,uI,B1];rcases vF k b.length with h | h
  ·have hx:=E3 h
   generalize b[k]=y at hx;have hv':Aa H' 1 x0=some (b.flatMap N2,b.length):=by rw[PJ];exact hv
   obtain⟨p,p1,p2⟩:=NE (enc:=N2) (f:=fun t:UInt8=>.lit (.int .u8 t.toNat)) (λ_=>rfl) hv' hx;simp only[show(k:Int)<(b.length:Int) by omega,tD,sX,sY,p1,p2,FN,A4]
   by_cases c:y=0
   ·have c':((y.toNat:Int)=0):=by rw[c];rfl
    simp only[c',tH,A0 (a:=(k:Int)) (b:=1) (by omega) (by omega),Ab];refine hR (n - 1) _ _ _ (by omega) ⟨k+1,by omega,rfl,by simp,rfl,?_⟩;intro m z hm hz
    by_cases c2:m=k
    ·rw[c2,hx]at hz;injection hz with hz;rw[← hz];exact c
    ·exact hb m z (by omega) hz
   ·have c':¬((y.toNat:Int)=0):=λe=>c (UInt8.toNat_inj.1 (by rw[show(0:UInt8).toNat=0 from rfl];omega))
    simp only[c',tC];exact⟨⟨k,by trivial,λ_ hz=>c (hz y (vD hx)),λ_=>by omega⟩,by trivial⟩
  ·simp only[show ¬(k:Int)<(b.length:Int) by omega,tC,show((false==true)=false)from rfl,C2,sY,Ba,uC]
   refine⟨⟨k,by trivial,λh=>by omega,λhm=>absurd (λc hc=>?_) hm⟩,by trivial⟩;obtain⟨m,hm⟩:=vN.1 hc
   have:=(BE.1 hm).1
   exact hb m c (by omega) hm)
 exact⟨i,hi,hc⟩
theorem lD {b:List UInt8}{v w:AV}{H:AH}(hw:Aa H 1 w=some ([v],1))(hv:Aa H 1 v=some (Bc b,b.length))(hl:b.length≤1000000):BCall prog 162 [w] H (B (decide (Ns b))) H:=by
 obtain⟨r,H',⟨rfl,rfl⟩,hc⟩:=VC (a0:=w) (H:=H) (K:=λr H'=>r=B (decide (Ns b))∧H'=H) (by
  unfold UF;simp only[B4 hw,Ab];refine Ph (λn x5 x6 x7 H'=>x5=w∧x6=I 1∧H'=H∧((n=1∧x7=I 0)∨(n=0∧x7=I 1∧Ns b))) ?_ 1 ⟨rfl,rfl,rfl,.inl ⟨rfl,rfl⟩⟩;rintro n x5 x6 x7 H' R hR ⟨rfl,rfl,rfl,⟨rfl,rfl⟩ | ⟨rfl,rfl,hz⟩⟩
  ·unfold Io
   obtain⟨p,c,h1,h2,h3,h4⟩:=Jp hw (i:=0) (k:=0) rfl (by omega)
   have p2:Ar false 1 H' p=some v:=by
    rw[Pv h2 (by omega) h4,Ah]
    have:=congrArg (λl=>l[0]?) h3
    simpa[vI]using this
   have h1:Bk 1 x5 (I 0)=some p:=h1;obtain⟨i,hi,hc⟩:=kT hv hl;simp only[uA,show decide ((0:Int)<1)=true from rfl,Aq,h1,p2];refine bC_of hc ?_;simp only[B4 hv,uA]
   by_cases c:Ns b
   ·simp only[show ¬i<(b.length:Int)from λh=>hi.1 h c,uS,show Ay .add (I 0) (I 1)=some (I 1)from rfl]
    exact hR 0 _ _ _ _ (by omega) ⟨rfl,rfl,rfl,.inr ⟨rfl,rfl,c⟩⟩
   ·simp only[hi.2 c,tH,c,DC]
    exact⟨by trivial,by trivial⟩
  ·unfold Io
   simp only[uA,uG,hz,DS];exact⟨by trivial,by trivial⟩)
 exact hc
def aI (to size:Int)(s:StS)(no:Int)(b:List UInt8):Int×StS:=
 ((Cb s to (no*8) (b.take (min 8 (size - no*8)).toNat)).1.2,(Cb s to (no*8) (b.take (min 8 (size - no*8)).toNat)).2)
theorem UM {N:Nat}{s:StS}(h:SW N s)(to size no:Int){b:List UInt8}(hb:b.length=8):SW (N+72) (aI to size s no b).2:=by
 unfold aI
 have:=Tz h to (no*8) (b.take (min 8 (size - no*8)).toNat)
 refine this.mono ?_;rw[uZ];omega
theorem Ul {N:Nat}{s:StS}{os co:Nat}{p v vl:AV}{fr to size no:Int}{b:List UInt8}{H:AH}(h:StAt s os p H)(hw:SW N s)(cb:Bes co [.ptr os 0,I fr,I to,I size,vl] os p H)(hN:N+72<900000)
  (hv:Aa H 1 v=some (Bc b,8)) (hb:b.length=8) (hi:∀j∈AR v,j≠os∧j∉AR p) (h0:0≤no) (h1:no*8<size) (h2:size≤1099511627776):
  ∃r H',(r=I (aI to size s no b).1∧∃p',StAt (aI to size s no b).2 os p' H'∧StF os p p' H H')∧BCall prog 161 [.ptr co 0,I no,v] H r H':=N1 (by
 unfold K6;have e1:amm VO [(I 8),I (size - no*8)]=some (I (min 8 (size - no*8))):=by rw[NX,dD,Int.min_comm]
 obtain⟨m,hm⟩:∃m:Nat,min 8 (size - no*8)=m:=⟨(min 8 (size - no*8)).toNat,by omega⟩;obtain⟨w,s1,s2,s3,-,-⟩:=EL hv (lo:=none) (hi:=some (I (m:Int))) (l:=0) (k:=m) rfl (by simp[Bt]) (by omega) (by omega);have hl:(b.take m).length=m:=by rw[uZ];omega
 have s2:Aa H 1 w=some (Bc (b.take m),(b.take m).length):=by
  rw[s2,hl];simp only[Nat.zero_mul,uK,xI,PC]
 obtain⟨r,H1,⟨rfl,p',h',f'⟩,hc⟩:=Yt h hw to (no*8) (b:=b.take m) (by omega) s2 (λj hj=>hi j (s3 j hj));simp only[tY,Nat.reduceAdd,Aj cb.at',I8 (a:=no) (b:=8) (by omega) (by omega),Cv (a:=size) (b:=no*8) (by omega) (by omega),e1,hm,s1];refine bC_of hc ?_;simp only[tX,Ab];unfold aI;rw[hm,yB];exact⟨by trivial,p',h',f'⟩)
theorem gY (H:AH)(x:Ext):A5 H (.agg [(I 0),u0Z,u0Z,u0Z,u0Z,u0Z,u0Z,u0Z,u0Z])=some (.ptr H.length 0,H++[some (.cells [I 0,u0Z,u0Z,u0Z,u0Z,u0Z,u0Z,u0Z,u0Z])])∧
  AS 9 (H++[some (AObj.cells [I 0,u0Z,u0Z,u0Z,u0Z,u0Z,u0Z,u0Z,u0Z])]) (.ptr H.length 0) (.agg (Aw x))=some (H++[some (.cells (Aw x))]):=by
 refine⟨rfl,?_⟩;rw[A7 (n:=9) (xs:=Aw x) (cs:=[I 0,u0Z,u0Z,u0Z,u0Z,u0Z,u0Z,u0Z,u0Z]) (by simp) CT (A2 x) (by simp)];rw[Eu _ _ _ (by simp[A2]),xJ,wP,vP (by simp[A2]),wI];simp
theorem rdE (H:AH)(x:Ext)(t:List AV):Ar true 9 H (.ip (Aw x++t))=some (.agg (Aw x)):=by
 show Al true 9 (Aw x++t) 0=_
 rw[F7 (by rw[vE,A2];omega),vZ,vL (by rw[A2];omega),vA (by rw[A2];omega)]
theorem cB {H:AH}{o:Nat}{x:Ext}(h:H[o]?=some (some (.cells (Aw x)))):Oh 8 1 H (.ptr o 1) none none=some (.sl o 1 8 1 (.ex 8))∧Aa H 1 (.sl o 1 8 1 (.ex 8))=some (Bc x.b,8):=by
 constructor
 ·simp[Oh,Bt,h,A2]
 ·rw[A9 h (by rw[A2];omega)]
  have:((Aw x).drop 1).take (8*1)=Bc x.b:=by
   show(Bc x.b).take 8=Bc x.b
   rw[vA (by rw[CF,x.hb];omega)]
  rw[this]
def Je (to size:Int):List Ext→StS→Int×StS
 | [],s=>(0,s)
 | x::l,s=>if Ns x.b then Je to size l s else if(aI to size s x.no x.b).1≠0 then aI to size s x.no x.b else Je to size l (aI to size s x.no x.b).2
theorem iH {N:Nat}{s:StS}{os co:Nat}{p vl:AV}{fr to size:Int}{l:List Ext}{H:AH}(h:StAt s os p H)(hw:SW N s)(cb:Bes co [.ptr os 0,I fr,I to,I size,vl] os p H)(hv:SV Aw 9 l vl)(hl:l.length≤1000000)(hn:∀x∈l,0≤x.no∧x.no<137438953472)(h2:size≤1099511627776)
  (hN:N+72*(Cs size l).length<900000):∃r H',(r=I (Je to size (Cs size l) s).1∧∃p',StAt (Je to size (Cs size l) s).2 os p' H'∧StF os p p' H H')∧BCall prog 90 [.ptr co 0] H r H':=N0 (by
 unfold K5;have i3:Al true 2 [(AV.ptr os 0),I fr,I to,I size,vl] 3=some (.agg [I size,vl]):=rfl;simp only[uT,Aj cb.at',i3];obtain⟨w,H1,⟨hw1,g1⟩,hc⟩:=Vf (size:=size) hv hl hn H;refine bC_of hc ?_
 have bl:∀x∈Cs size l,0≤x.no∧x.no*8<size:=by
  clear hN hv hw1 hc hl
  induction l with
  | nil=>intro x hx;simp[Cs]at hx
  | cons y l ih=>
   intro x hx;unfold Cs at hx;split at hx
   ·rename_i hy
    rcases vX.1 hx with rfl | hx
    ·exact⟨(hn x (by simp)).1,hy⟩
    ·exact ih (λz hz=>hn z (by simp[hz])) x hx
   ·simp at hx
 have hbl:=Jt size l;generalize Cs size l=L at*;simp only[hw1.len,Ab];generalize hRES:Je to size L s=RES;refine J0 (λn x0 x10 x11 x12 H'=>∃(k:Nat) (s':StS) (p':AV),k+n=L.length∧x0=.ptr co 0∧w=x10∧x11=I L.length∧x12=I k∧StAt s' os p' H'∧StF os p p' H H'∧SW (N+72*k) s'∧Bes co [.ptr os 0,I fr,I to,I size,vl] os p' H'∧Je to size (L.drop k) s'=RES) ?_ L.length
  ⟨0,s,p,by omega,rfl,rfl,rfl,rfl,h.grew g1,(StF.refl os p H).grew g1,hw,cb.grew g1,by simpa using hRES⟩
 rintro n x0 x10 x11 x12 H3 R hR ⟨k,s',p',hk,rfl,rfl,rfl,rfl,h3,f3,w3,cb3,hres⟩;unfold GJ;simp only[uA];rcases vF k L.length with hlt | hge
 ·have hx:=E3 hlt
  generalize L[k]=x at hx;obtain⟨b1,b2⟩:=bl x (vD hx);obtain⟨n1,n2⟩:=gY H3 x;have g4:=Grew.app H3 [some (AObj.cells (Aw x))];have bx:=Bes.new h3 (Aw x);rw[Et hx]at hres;unfold Je at hres;have l4:(H3++[some (AObj.cells (Aw x))]).length=H3.length+1:=by simp
  have h4:=h3.grew g4;have cb4:=cb3.grew g4;simp only[show(k:Int)<(L.length:Int) by omega,tH,hw1.idx A2 hx rfl,tF,rdE,n1,tV,n2];generalize (H3++[some (AObj.cells (Aw x))])=H4 at*;generalize H3.length=xo at*;obtain⟨s1,s2⟩:=cB bx.at';have e5:Cg H4 1 1 (AZ [Ac] 1) [(0,1,.sl xo 1 8 1 (.ex 8))]=some (.sl H4.length 0 1 1 (.ex 1),H4++[some (.cells [.sl xo 1 8 1 (.ex 8)])]):=rfl;have g5:=Grew.app H4 [some (AObj.cells [AV.sl xo 1 8 1 (.ex 8)])]
  have z1:Aa (H4++[some (AObj.cells [AV.sl xo 1 8 1 (.ex 8)])]) 1 (.sl H4.length 0 1 1 (.ex 1))=some ([AV.sl xo 1 8 1 (.ex 8)],1):=by
   rw[A9 CT (by simp)];rfl
  have z2:=g5.slice s2;simp only[s1,Ab,e5,Az];refine bC_of (lD z1 (b:=x.b) (by rw[x.hb];exact z2) (by rw[x.hb];omega)) ?_;have h5:=h4.grew g5;have cb5:=cb4.grew g5;have bx5:=bx.grew g5;have f5:=(f3.grew g4).grew g5;have q1:Ay .add (I (k:Int)) (I 1)=some (I ((k+1:Nat):Int)):=by rw[A0 (by omega) (by omega)];congr 3
  simp only[Ag]
  by_cases c:Ns x.b
  ·rw[if_pos c]at hres
   simp only[c,tH];rw[Gn];unfold EB;simp only[q1,Ab];exact hR (n - 1) _ _ _ _ _ (by omega) ⟨k+1,s',p',by omega,rfl,rfl,rfl,rfl,h5,f5,w3.mono (by omega),cb5,hres⟩
  ·rw[if_neg c]at hres
   obtain⟨s3,s4⟩:=cB bx5.at';have i0:(Aw x)[0]?=some (I x.no):=rfl;simp only[c,uS,Aj bx5.at',Ah,i0,s3]
   obtain⟨r,H6,⟨rfl,p6,h6,f6⟩,hc⟩:=Ul (no:=x.no) h5 w3 cb5 (by omega) s4 x.hb (by
    intro j hj;simp only[AR,xA]at hj;subst hj;exact⟨bx5.ne,bx5.np⟩) b1 b2 h2
   refine bC_of hc ?_;simp only[uM]
   by_cases c2:(aI to size s' x.no x.b).1=0
   ·rw[if_neg (λz=>z c2)]at hres
    simp only[c2,sU,tC];rw[Gn];unfold EB;simp only[q1,Ab];exact hR (n - 1) _ _ _ _ _ (by omega) ⟨k+1,_,p6,by omega,rfl,rfl,rfl,rfl,h6,f5.trans f6,(UM w3 to size x.no x.hb).mono (by omega),cb5.step f6,hres⟩
   ·rw[if_pos c2]at hres
    simp only[c2,sV,tH];rw[← hres];exact⟨by trivial,p6,h6,f5.trans f6⟩
 ·have ek:L.drop k=[]:=vP hge
  rw[ek]at hres;simp only[show ¬(k:Int)<(L.length:Int) by omega,tC];rw[← hres];exact⟨by trivial,p',h3,f3⟩)
end Go.Proofs.YtbppnhenlboefaaGreat.Av
end
section
set_option maxHeartbeats 1000000
namespace Go.Proofs.YtbppnhenlboefaaGreat.Av
open Go Go.RowKit Go.Proofs.Tryz
def z8:List UInt8:=[0,0,0,0,0,0,0,0]
def Nl (no:Int):List Ext→List UInt8×List Ext
 | []=>(z8,[])
 | x::l=>if x.no=no then(x.b,l)else(z8,x::l)
def TA (to size:Int):Nat→Int→List Ext→StS→Int×StS
 | 0,_,_,s=>(0,s)
 | n+1,no,l,s=>if(aI to size s no (Nl no l).1).1≠0 then aI to size s no (Nl no l).1 else TA to size n (no+1) (Nl no l).2 (aI to size s no (Nl no l).1).2
def Jc (size:Int):Int:=(size+7)/8
theorem PW (no:Int)(l:List Ext):(Nl no l).1.length=8:=by
 unfold Nl
 split
 ·rfl
 ·split
  ·rename_i x l h;exact x.hb
  ·rfl
theorem YC {size:Int}(h0:0≤size)(h2:size≤1099511627776):BPure prog 87 [I size] (I (Jc size)):=BPure.flat λH=>W3 (by
 unfold W2;simp only[A0 (a:=size) (b:=8) (by omega) (by omega),Cv (a:=size+8) (b:=1) (by omega) (by omega),NQ (a:=size+8 - 1) (b:=8) (by omega) (by omega) (by omega),Ab];unfold Jc;exact⟨by rw[show size+8 - 1=size+7 by omega],by trivial⟩)
theorem sS (H:AH)(x:Ext)(t:List AV):Ar true 8 H (.ip ((Aw x++t).drop 1))=some (.agg (Bc x.b)):=by
 show Al true 8 (Bc x.b++t) 0=_
 have hl:(Bc x.b).length=8:=by rw[CF,x.hb]
 rw[F7 (by rw[vE,hl];omega),vZ,vL (by omega),vA (by omega)]
theorem mZ {H:AH}{o:Nat}{b:List UInt8}(hb:b.length=8)(h:H[o]?=some (some (.cells (Bc b)))):Oh 8 1 H (.ptr o 0) none none=some (.sl o 0 8 1 (.ex 8))∧Aa H 1 (.sl o 0 8 1 (.ex 8))=some (Bc b,8):=by
 have hl:(Bc b).length=8:=by rw[CF,hb]
 constructor
 ·simp[Oh,Bt,h,hl]
 ·rw[A9 h (by omega),vZ,vA (by omega)]
theorem oW {N:Nat}{s:StS}{os co:Nat}{p vl:AV}{fr to size:Int}{l:List Ext}{H:AH}(h:StAt s os p H)(hw:SW N s)(cb:Bes co [.ptr os 0,I fr,I to,I size,vl] os p H)(hv:SV Aw 9 l vl)(hl:l.length≤1000000)(hn:∀x∈l,0≤x.no∧x.no<137438953472)(h0:0≤size)(h2:size≤32768)
  (hN:N+72*(Jc size).toNat<900000):∃r H',(r=I (TA to size (Jc size).toNat 0 (Cs size l) s).1∧∃p',StAt (TA to size (Jc size).toNat 0 (Cs size l) s).2 os p' H'∧StF os p p' H H')∧BCall prog 89 [.ptr co 0] H r H':=P9 (by
 unfold MP;have i3:Al true 2 [(AV.ptr os 0),I fr,I to,I size,vl] 3=some (.agg [I size,vl]):=rfl;simp only[uT,Aj cb.at',i3];obtain⟨w,H1,⟨hw1,g1⟩,hc⟩:=Vf (size:=size) hv hl hn H;refine bC_of hc ?_;have hbl:=Jt size l;generalize Cs size l=L at*;have cb1:=cb.grew g1;simp only[tY,Nat.reduceAdd,Aj cb1.at'];refine A1 (YC h0 (by omega)) ?_
 have hcnt:Jc size=((Jc size).toNat:Int)∧∀k:Nat,k<(Jc size).toNat→(k:Int)*8<size:=by
  unfold Jc;exact⟨by omega,λk hk=>by omega⟩
 obtain⟨hc1,hc2⟩:=hcnt;have hc3:(Jc size).toNat≤4096:=by unfold Jc;omega
 rw[hc1];simp only[yB]at hN⊢;generalize (Jc size).toNat=C at*;generalize hRES:TA to size C 0 L s=RES;refine KV (λn x0 x3 x17 x18 H'=>∃(k:Nat) (s':StS) (p':AV) (l':List Ext),k+n=C∧x0=.ptr co 0∧SV Aw 9 l' x3∧l'.length≤1000000∧x17=I C∧x18=I k∧StAt s' os p' H'∧StF os p p' H H'∧SW (N+72*k) s'∧Bes co [.ptr os 0,I fr,I to,I size,vl] os p' H'∧TA to size n k l' s'=RES) ?_ C
  ⟨0,s,p,L,by omega,rfl,hw1,by omega,rfl,rfl,h.grew g1,(StF.refl os p H).grew g1,hw,cb1,hRES⟩
 rintro n x0 x3 x17 x18 H3 R hR ⟨k,s',p',l',hk,rfl,hv',hl',rfl,rfl,h3,f3,w3,cb3,hres⟩;unfold HW;simp only[uA];rcases vF k C with hlt | hge
 ·obtain⟨m,rfl⟩:∃m,n=m+1:=⟨n - 1,by omega⟩
  unfold TA at hres;have e1:A5 H3 (.agg [u0Z,u0Z,u0Z,u0Z,u0Z,u0Z,u0Z,u0Z])=some (.ptr H3.length 0,H3++[some (.cells (Bc z8))]):=rfl;have q1:Ay .add (I (k:Int)) (I 1)=some (I ((k+1:Nat):Int)):=by rw[A0 (by omega) (by omega)];congr 3
  -- what is done with the bytes
  have go:∀(b:List UInt8) (l2:List Ext) (x3':AV),b=(Nl k l').1→l2=(Nl k l').2→SV Aw 9 l2 x3'→l2.length≤1000000→Ez R (.ptr co 0) x3' (I (k:Int)) (.ptr H3.length 0) (I (C:Int)) (I (k:Int)) (H3++[some (.cells (Bc b))]) (λr H'=>r=I RES.1∧∃p',StAt RES.2 os p' H'∧StF os p p' H H'):=by
   intro b l2 x3' hb hl2 hv2 hlen2;have hb8:b.length=8:=by rw[hb];exact PW _ _
   rw[← hb,← hl2]at hres;have g4:=Grew.app H3 [some (AObj.cells (Bc b))];have bx:=Bes.new h3 (Bc b);obtain⟨s1,s2⟩:=mZ hb8 bx.at';rw[Ls];unfold Hm;simp only[s1,Ab]
   obtain⟨r,H6,⟨rfl,p6,h6,f6⟩,hc⟩:=Ul (no:=(k:Int)) (h3.grew g4) w3 (cb3.grew g4) (by omega) s2 hb8 (by
    intro j hj;simp only[AR,xA]at hj;subst hj;exact⟨bx.ne,bx.np⟩) (by omega) (hc2 k hlt) (by omega)
   refine bC_of hc ?_;rw[Lt];unfold Hn;simp only[C7,Ab];rw[Lu];unfold Ho;simp only[Ag]
   by_cases c2:(aI to size s' k b).1=0
   ·rw[if_neg (λz=>z c2)]at hres
    simp only[c2,sU,tC];rw[M6];unfold HV;simp only[q1,Ab];exact hR m _ _ _ _ _ (by omega) ⟨k+1,_,p6,l2,by omega,rfl,hv2,hlen2,rfl,rfl,h6,(f3.grew g4).trans f6,(UM w3 to size k hb8).mono (by omega),(cb3.grew g4).step f6,hres⟩
   ·rw[if_pos c2]at hres
    simp only[c2,sV,tH];rw[← hres];exact⟨by trivial,p6,h6,(f3.grew g4).trans f6⟩
  simp only[show(k:Int)<(C:Int) by omega,tH,e1,Az,hv'.len,uI,Mi];cases l' with
  | nil=>
   simp only[xP,Int.ofNat_zero,Int.cast_ofNat_Int,uG,show((false==true)=false)from rfl,C2,sY,Ba,uC];exact go z8 [] x3 rfl rfl hv' (by simp)
  | cons x l'=>
   have ix:=hv'.idx (i:=0) A2 (k:=0) (x:=x) rfl rfl;have i0:∀t,Ar false 1 (H3++[some (.cells (Bc z8))]) (.ip (Aw x++t))=some (I x.no):=λ_=>rfl
   have sh0:∀t,Ad 0 (.ip (Aw x++t))=some (.ip (Aw x++t)):=λ_=>rfl
   have sh1:∀t,Ad 1 (.ip (Aw x++t))=some (.ip ((Aw x++t).drop 1)):=λ_=>rfl
   simp only[vR,show(0:Int)<((l'.length+1:Nat):Int) by omega,tD,sX,sY,ix,sh0,i0,FN,A4];simp only[vR]at hl'
   by_cases c:x.no=(k:Int)
   ·obtain⟨w2,t1,t2⟩:=hv'.cutX (lo:=some (I 1)) (hi:=none) (a:=1) (k:=l'.length+1) (by simp[Bt]) rfl (by omega) (by simp)
    have t2:SV Aw 9 l' w2:=by
     rw[yO,vZ,Nat.add_sub_cancel,wV]at t2;exact t2
    have e4:AS 8 (H3++[some (AObj.cells (Bc z8))]) (.ptr H3.length 0) (.agg (Bc x.b))=some (H3++[some (.cells (Bc x.b))]):=by
     have hl8:(Bc x.b).length=8:=by rw[CF,x.hb]
     rw[A7 (n:=8) (xs:=Bc x.b) (cs:=Bc z8) (by simp[W9]) CT hl8 (by simp[CF,z8])];rw[Eu _ _ _ (by simp[CF,z8,x.hb]),xJ,wP,vP (by simp[CF,z8,x.hb]),wI];simp
    simp only[c,tH,sh1,sS,Ab,t1,e4,AB,true_and];have pk:Nl (k:Int) (x::l')=(x.b,l'):=if_pos c;exact go x.b l' w2 (by rw[pk]) (by rw[pk]) t2 (by omega)
   ·simp only[c,tC]
    have pk:Nl (k:Int) (x::l')=(z8,x::l'):=if_neg c;exact go z8 (x::l') x3 (by rw[pk]) (by rw[pk]) hv' (by simp;omega)
 ·have en:n=0:=by omega
  subst en;unfold TA at hres;simp only[show ¬(k:Int)<(C:Int) by omega,tC];rw[← hres];exact⟨by trivial,p',h3,f3⟩)
end Go.Proofs.YtbppnhenlboefaaGreat.Av
end
section
set_option maxHeartbeats 1000000
namespace Go.Proofs.YtbppnhenlboefaaGreat.Av
open Go Go.RowKit Go.Proofs.Tryz
def C9 (s:StS)(nm:List UInt8):Int×Int×StS:=
 if(AY s nm true).1.2≠0 then((AY s nm true).1.2,0,(AY s nm true).2)else((D6 (AY s nm true).2 (AY s nm true).1.1 0).1,(AY s nm true).1.1,(D6 (AY s nm true).2 (AY s nm true).1.1 0).2)
theorem Uk {N:Nat}{s:StS}(h:SW N s)(nm:List UInt8):SW (N+2) (C9 s nm).2.2:=by
 have w1:=Rw h nm true;unfold C9
 split
 ·exact w1.mono (by omega)
 ·exact Pm w1 _ _
theorem cM {N:Nat}{s:StS}{os co:Nat}{p0 p vl:AV}{fr to size:Int}{H0 H:AH}{nm:List UInt8}(h:StAt s os p H)(hw:SW N s)(hN:N+2<900000)(hnm:nm.length≤9223372036854775807)(f0:StF os p0 p H0 H)(hco:H0.length≤co)(cb:Bes co [.ptr os 0,I fr,I to,I size,vl] os p H)(ovl:oneA vl=true):
  ∃r H',(r=I (C9 s nm).1∧∃p',StAt (C9 s nm).2.2 os p' H'∧StF os p0 p' H0 H'∧((C9 s nm).1=0→Bes co [.ptr os 0,I fr,I (C9 s nm).2.1,I size,vl] os p' H'))∧BCall prog 88 [.ptr co 0,S (As nm)] H r H':=On (by
 unfold Lv;simp only[tY,Aj cb.at'];obtain⟨r,H1,⟨rfl,p1,h1,f1⟩,hc⟩:=Xz h hw (by omega) hnm true;have w1:=Rw hw nm true;refine bC_of hc ?_;unfold C9;have cb1:=cb.step f1;generalize AY s nm true=O at*;simp only[tX,uM]
 by_cases c1:O.1.2=0
 rotate_left
 ·simp only[c1,sV,uW]
  exact⟨by trivial,p1,h1,f0.trans f1,λz=>z.elim⟩
 have hlt:=(BE.1 cb1.at').1
 have e2:AS 1 H1 (.ptr co 2) (I O.1.1)=some (H1.set co (some (.cells [.ptr os 0,I fr,I O.1.1,I size,vl]))):=by
  rw[A7 (n:=1) (xs:=[I O.1.1]) (cs:=[.ptr os 0,I fr,I to,I size,vl]) rfl cb1.at' rfl (by simp)];rfl
 have ne2:∀i,i≠co→(H1.set co (some (.cells [.ptr os 0,I fr,I O.1.1,I size,vl])))[i]?=H1[i]?:=λi hi=>C3 (wD hi)
 have h2:StAt O.2 os p1 (H1.set co (some (.cells [.ptr os 0,I fr,I O.1.1,I size,vl]))):=by
  obtain⟨a,b,c,d,pv,q⟩:=h1;exact⟨a,b,c,d,pv,(ne2 os (wD cb1.ne)).trans q.obj,q.now,q.kept,q.pm,Ae q.ps λi hi=>ne2 i (λe=>cb1.np (e▸hi)),q.po,q.pi,q.pc⟩
 have cb2:Bes co [.ptr os 0,I fr,I O.1.1,I size,vl] os p1 (H1.set co (some (.cells [.ptr os 0,I fr,I O.1.1,I size,vl]))):=⟨Jo hlt,cb1.ne,cb1.np⟩
 have f2:StF os p0 p1 H0 (H1.set co (some (.cells [.ptr os 0,I fr,I O.1.1,I size,vl]))):=by
  have f:=f0.trans f1;exact⟨by rw[vT];exact f.len,λj a b c=>by rw[ne2 j (by omega)];exact f.same j a b c,f.ids⟩
 simp only[c1,tL,tC,Ao,tI,e2,AB,Aj cb2.at',DG];obtain⟨r,H3,⟨rfl,p3,h3,f3⟩,hc⟩:=UP h2 w1 (by omega) O.1.1 0;refine bC_of hc ?_;exact⟨by trivial,p3,h3,f2.trans f3,λ_=>cb2.step f3⟩)
def Ki (way:Tx)(c:FM):Prop:=way=Mj∨(way=Kz∧((Cs c.1 c.2).length:Int)<Jc c.1)
instance (way:Tx) (c:FM):Decidable (Ki way c):=by unfold Ki;infer_instance
def RX (hl:Bool)(to:Int)(c:FM)(s:StS):Int×StS:=
 if hl=true then Je to c.1 (Cs c.1 c.2) s else TA to c.1 (Jc c.1).toNat 0 (Cs c.1 c.2) s
def UC (hl:Bool)(s:StS)(nm:Tx)(c:FM):Int×StS:=
 if hl=false∧32768<c.1 then(4,s)
 else if(C9 s nm).1≠0 then((C9 s nm).1,(C9 s nm).2.2)
 else if(RX hl (C9 s nm).2.1 c (C9 s nm).2.2).1≠0 then RX hl (C9 s nm).2.1 c (C9 s nm).2.2
 else D6 (RX hl (C9 s nm).2.1 c (C9 s nm).2.2).2 (C9 s nm).2.1 c.1
def Jd (s:StS)(fr:Int)(nm way:Tx):Int×StS:=
 if(AA s fr).2≠0 then((AA s fr).2,s)else UC (decide (Ki way (AA s fr).1)) s nm (AA s fr).1
theorem O5 {to size:Int}:∀{l:List Ext} {N:Nat} {s:StS},SW N s→SW (N+72*l.length) (Je to size l s).2
 | [],N,s,h=>h
 | x::l,N,s,h=>by
  unfold Je;simp only[vR]
  split
  ·exact(O5 (l:=l) h).mono (by omega)
  ·split
   ·exact(UM h to size x.no x.hb).mono (by omega)
   ·exact(O5 (l:=l) (UM h to size x.no x.hb)).mono (by omega)
theorem X8 {to size:Int}:∀{n:Nat} {no:Int} {l:List Ext} {N:Nat} {s:StS},SW N s→SW (N+72*n) (TA to size n no l s).2
 | 0,no,l,N,s,h=>h
 | n+1,no,l,N,s,h=>by
  unfold TA
  split
  ·exact(UM h to size no (PW no l)).mono (by omega)
  ·exact(X8 (n:=n) (UM h to size no (PW no l))).mono (by omega)
theorem ZD:Bq prog 90=true:=by kernel_rfl
theorem iF:Bq prog 89=true:=by kernel_rfl
def Zb (a0 a1 v59:AV)(H40:AH)(K:AV→AH→Prop):Prop:=
 bO (EX .not v59) λv60=>bG v60 true λw61=>gO w61 (some a0) λv62=>bG v60 true λw63=>gO w63 (Af v62) λv64=>bG v60 true λw65=>gO w65 (Ad 3 v64) λv66=>bG v60 true λw67=>gO w67 (Ad 0 v66) λv68=>bG v60 true λw69=>gO w69 (Ar false 1 H40 v68) λv70=>bG v60 true λw71=>gO w71 (Ay .gtr v70 (I 32768)) λv72=>
  bO (AC v60 v72 (B false)) λv73=>bB v73 λt74=>bI t74 (K (I 4) H40)
   (bC (BCall prog 88 [a0,a1] H40) λv75 H76=>bO (Ay .neq v75 (I 0)) λv77=>bB v77 λt78=>bI t78 (K v75 H76)
    (bB v59 λt79=>bI t79 (Dp a0 (.fn (.func 90) [a0] []) H76 K) (Dp a0 (.fn (.func 89) [a0] []) H76 K)))
theorem PZ {N Bd:Nat}{s:StS}{os co:Nat}{p0 p R:AV}{fr to:Int}{c:FM}{H0 H:AH}{nm:Tx}(hl:Bool)(h:StAt s os p H)(hw:SW N s)(hB:c.2.length≤Bd)(hB2:4096≤Bd)(hN:N+10+72*Bd<900000)(hnm:nm.length≤9223372036854775807)(f0:StF os p0 p H0 H)(hco:H0.length≤co)(cb:Bes co [.ptr os 0,I fr,I to,I c.1,R] os p H)(hR:SV Aw 9 c.2 R)(hm:E4 c.1 c.2):
  Zb (.ptr co 0) (S (As nm)) (B hl) H λr H'=>r=I (UC hl s nm c).1∧∃p',StAt (UC hl s nm c).2 os p' H'∧StF os p0 p' H0 H':=by
 obtain⟨m1,m2,m3,m4,-⟩:=Ko.1 hm;have hn:∀x∈c.2,0≤x.no∧x.no<137438953472:=λx hx=>m4 x.no ⟨x,hx,rfl⟩
 have oR:=SV.oneA hR;have hbl:=Jt c.1 c.2;generalize hRES:UC hl s nm c=RES;unfold UC at hRES;unfold Zb;obtain⟨r,H1,⟨rfl,p1,h1,f1,cb1⟩,hc⟩:=cM (nm:=nm) h hw (by omega) hnm f0 hco cb oR;have w1:=Uk hw nm;generalize C9 s nm=O at*
 -- the copy's last step
 have fin:∀(W:Int×StS) (M:Nat) (p6:AV) (H6:AH),StAt W.2 os p6 H6→StF os p0 p6 H0 H6→Bes co [.ptr os 0,I fr,I O.2.1,I c.1,R] os p6 H6→SW M W.2→M<900000→(if W.1≠0 then W else D6 W.2 O.2.1 c.1)=RES→
   FP (.ptr co 0) (I W.1) H6 (λr H'=>r=I RES.1∧∃p',StAt RES.2 os p' H'∧StF os p0 p' H0 H'):=by
  intro W M p6 H6 h6 f6 cb6 w6 hM hres;rw[Lx];unfold Hq;simp only[C7,Ab];rw[Ly];unfold Hr;simp only[Ag]
  by_cases c2:W.1=0
  ·rw[if_neg (λz=>z c2)]at hres
   simp only[c2,sU,tC];rw[Lw];unfold Hp;simp only[tY,Nat.reduceAdd,Aj cb6.at'];obtain⟨r,H7,⟨rfl,p7,h7,f7⟩,hc⟩:=UP h6 w6 (by omega) O.2.1 c.1;refine bC_of hc ?_;rw[← hres];exact⟨by trivial,p7,h7,f6.trans f7⟩
  ·rw[if_pos c2]at hres
   simp only[c2,sV,tH];rw[← hres];exact⟨by trivial,p6,h6,f6⟩
 cases hl with
 | true=>
  rw[if_neg (by simp)]at hRES;simp only[tW,tB,Ba,show((false==true)=false)from rfl,C2,uC];refine bC_of hc ?_;simp only[uM]
  by_cases c1:O.1=0
  ·rw[if_neg (λz=>z c1)]at hRES
   simp only[c1,sU,tC,Aq];rw[GK];unfold ES;obtain⟨r,H2,⟨rfl,p2,h2,f2⟩,hc⟩:=iH h1 w1 (cb1 c1) hR (by omega) hn (by omega) (by omega);simp only[Y6,ZD,uR,wI,tJ];refine bC_of hc ?_;have hw2:=O5 (to:=O.2.1) (size:=c.1) (l:=Cs c.1 c.2) w1;unfold RX at hRES;simp only[if_true]at hRES;exact fin _ _ p2 H2 h2 (f1.trans f2) ((cb1 c1).step f2) hw2 (by omega) hRES
  ·rw[if_pos c1]at hRES
   simp only[c1,sV,tH];rw[← hRES];exact⟨by trivial,p1,h1,f1⟩
 | false=>
  simp only[Bl,uP,tY,Ba,sX,Aj cb.at',Mi,A4,Ag,Ai]
  by_cases cg:32768<c.1
  ·rw[if_pos ⟨rfl,cg⟩]at hRES
   simp only[cg,tH];rw[← hRES];exact⟨by trivial,p,h,f0⟩
  rw[if_neg (λz=>cg z.2)]at hRES;simp only[cg,tC];refine bC_of hc ?_;simp only[uM]
  by_cases c1:O.1=0
  ·rw[if_neg (λz=>z c1)]at hRES
   simp only[c1,sU,tC];rw[GK];unfold ES;have hcn:(Jc c.1).toNat≤4096:=by unfold Jc;omega
   obtain⟨r,H2,⟨rfl,p2,h2,f2⟩,hc⟩:=oW h1 w1 (cb1 c1) hR (by omega) hn m1 (by omega) (by omega);simp only[Y6,iF,uR,wI,tJ];refine bC_of hc ?_;have hw2:=X8 (to:=O.2.1) (size:=c.1) (n:=(Jc c.1).toNat) (no:=0) (l:=Cs c.1 c.2) w1;unfold RX at hRES;simp only[At]at hRES;exact fin _ _ p2 H2 h2 (f1.trans f2) ((cb1 c1).step f2) hw2 (by omega) hRES
  ·rw[if_pos c1]at hRES
   simp only[c1,sV,tH];rw[← hRES];exact⟨by trivial,p1,h1,f1⟩
theorem iA {N Bd:Nat}{s:StS}{os co:Nat}{p0 p vl:AV}{fr to size:Int}{H0 H:AH}{nm way:Tx}(h:StAt s os p H)(hw:SW N s)(hB:(AA s fr).1.2.length≤Bd)(hB2:4096≤Bd)(hN:N+10+72*Bd<900000)(hnm:nm.length≤9223372036854775807)(f0:StF os p0 p H0 H)(hco:H0.length≤co)(cb:Bes co [.ptr os 0,I fr,I to,I size,vl] os p H):
  ∃r H',(r=I (Jd s fr nm way).1∧∃p',StAt (Jd s fr nm way).2 os p' H'∧StF os p0 p' H0 H')∧BCall prog 39 [.ptr co 0,S (As nm),S (As way)] H r H':=PA (by
 unfold MQ;simp only[tY,Aj cb.at'];obtain⟨r,H1,⟨rfl,g1⟩,hc⟩:=kX h hw (by omega) fr;refine bC_of hc ?_;unfold Jd;simp only[tX,uM]
 by_cases c0:(AA s fr).2=0
 rotate_left
 ·simp only[c0,sV,uW]
  exact⟨by trivial,p,h.grew g1,f0.grew g1⟩
 have h1:=h.grew g1;have cb1:=cb.grew g1;simp only[c0,tL,tC,tY,Aj cb1.at'];obtain⟨r,H2,⟨⟨R,rfl,hR⟩,g2⟩,hc⟩:=Wv h1 hw (by omega) c0;refine bC_of hc ?_
 have hmay:E4 (AA s fr).1.1 (AA s fr).1.2:=by
  obtain⟨d,hd,-,hdc,-⟩:=Lr hw c0;rw[hdc];exact hw.now.1.mc d hd
 obtain⟨m1,m2,m3,m4,-⟩:=Ko.1 hmay;have hn:∀x∈(AA s fr).1.2,0≤x.no∧x.no<137438953472:=λx hx=>m4 x.no ⟨x,hx,rfl⟩
 generalize (AA s fr).1=c at*;have h2:=h1.grew g2;have cb2:=cb1.grew g2;have oR:=SV.oneA hR;have hlt:=(BE.1 cb2.at').1
 have e2:AS 2 H2 (.ptr co 3) (.agg [I c.1,R])=some (H2.set co (some (.cells [.ptr os 0,I fr,I to,I c.1,R]))):=by
  rw[A7 (n:=2) (xs:=[I c.1,R]) (cs:=[.ptr os 0,I fr,I to,I size,vl]) (by simp[oR]) cb2.at' rfl (by simp)];rfl
 have ne2:∀i,i≠co→(H2.set co (some (.cells [.ptr os 0,I fr,I to,I c.1,R])))[i]?=H2[i]?:=λi hi=>C3 (wD hi)
 have h3:StAt s os p (H2.set co (some (.cells [.ptr os 0,I fr,I to,I c.1,R]))):=by
  obtain⟨a,b,c',d,pv,q⟩:=h2;exact⟨a,b,c',d,pv,(ne2 os (wD cb2.ne)).trans q.obj,q.now,q.kept,q.pm,Ae q.ps λi hi=>ne2 i (λe=>cb2.np (e▸hi)),q.po,q.pi,q.pc⟩
 have cb3:Bes co [.ptr os 0,I fr,I to,I c.1,R] os p (H2.set co (some (.cells [.ptr os 0,I fr,I to,I c.1,R]))):=⟨Jo hlt,cb2.ne,cb2.np⟩
 have f3:StF os p0 p H0 (H2.set co (some (.cells [.ptr os 0,I fr,I to,I c.1,R]))):=by
  have f:=(f0.grew g1).grew g2;exact⟨by rw[vT];exact f.len,λj a b c=>by rw[ne2 j (by omega)];exact f.same j a b c,f.ids⟩
 have qa:(AV.lit (.string ⟨#[97,108,119,97,121,115]⟩))=S (As Mj):=rfl;have qu:(AV.lit (.string ⟨#[97,117,116,111]⟩))=S (As Kz):=rfl;have i3:∀t:Int,Al true 2 [(AV.ptr os 0),I fr,I t,I c.1,R] 3=some (.agg [I c.1,R]):=λ_=>rfl
 simp only[uT,e2,AB,qa,qu,G9,Ba];generalize (H2.set co (some (.cells [.ptr os 0,I fr,I to,I c.1,R])))=H3 at*
 by_cases wa:way=Mj
 ·have hd:decide (Ki way c)=true:=decide_eq_true (.inl wa)
  rw[hd];simp only[wa,bZ,tD,show((true==false)=false)from rfl,C2,JC,WI,uI,A4,Ai,true_and];exact PZ true h3 hw hB hB2 hN hnm f3 hco cb3 hR hmay
 simp only[wa,DC,sX,G9,uI]
 by_cases wu:way=Kz
 ·obtain⟨w,H4,⟨hw4,g4⟩,hc⟩:=Vf (size:=c.1) hR (by omega) hn H3
  have cb4:=cb3.grew g4;simp only[wu,DS,sX,uT,Aj cb3.at',i3,Vr];refine bC_of hc ?_;simp only[hw4.len,tY,Nat.reduceAdd,Aj cb4.at',iE];refine bP_of (YC m1 (by omega)) ?_
  have hd:decide (Ki Kz c)=decide (((Cs c.1 c.2).length:Int)<Jc c.1):=by
   have:Ki Kz c↔((Cs c.1 c.2).length:Int)<Jc c.1:=by
    unfold Ki;rw[← wu];exact⟨λh=>h.elim (λe=>absurd e wa) λh=>h.2,λh=>.inr ⟨rfl,h⟩⟩
   simp only[this]
  rw[hd];simp only[B1,Ab,uC,if_true,Aj cb3.at',Ah,tE,Aq,true_and];exact PZ _ (h3.grew g4) hw hB hB2 hN hnm (f3.grew g4) hco cb4 hR hmay
 ·have hd:decide (Ki way c)=false:=decide_eq_false (λh=>h.elim wa λh=>wu h.1)
  rw[hd];simp only[wu,tC,show((false==true)=false)from rfl,C2,JC,WI,uI,uC,true_and];exact PZ false h3 hw hB hB2 hN hnm f3 hco cb3 hR hmay)
def La (e:Int):AV:=.agg [I e,S (As []),I 0,I 0,I 0,I 0,I 0]
def Wx (s:StS)(l:List Tx):Int×StS:=match Jh l with
 | none=>(2,s)
 | some (a,b,w)=>if(AY s a false).1.2≠0 then((AY s a false).1.2,(AY s a false).2)else Jd (AY s a false).2 (AY s a false).1.1 b w
end Go.Proofs.YtbppnhenlboefaaGreat.Av
end
section
set_option maxHeartbeats 1000000
namespace Go.Proofs.YtbppnhenlboefaaGreat.Av
open Go Go.RowKit Go.Proofs.Tryz
abbrev zG:=@List.mem_cons_of_mem
theorem N7:∀{l:List Tx} {o:List (Tx×Tx)} {r:List Tx} {q:List (Tx×Tx)×List Tx},He l o r=some q→∀x∈q.2,x∈r∨x∈l
 | [],o,r,q,h,x,hx=>by
  unfold He at h;injection h with h;subst h;exact .inl hx
 | s::l,o,r,q,h,x,hx=>by
  unfold He at h;split at h
  ·injection h with h
   subst h;simp only[wL]at hx;exact hx.imp id λh=>zG _ h
  ·split at h
   ·cases h
   ·exact(N7 h x hx).imp id λh=>zG _ h
   ·rcases N7 h x hx with h | h
    ·rcases wL.1 h with h | h
     ·exact .inl h
     ·rw[xA]at h;subst h;exact .inr (by simp)
    ·exact .inr (zG _ h)
theorem Yf {l:List Tx}{a b w:Tx}(h:Jh l=some (a,b,w)):a∈l∧b∈l:=by
 unfold Jh at h;split at h
 ·cases h
 ·rename_i op rs hF
  unfold PH at hF;split at hF
  ·cases hF
  ·unfold V5 at h
   split at h
   ·rename_i a' b'
    split at h
    ·cases h
    ·split at h
     ·obtain⟨w',-,e⟩:=Option.map_eq_some_iff.1 h
      injection e with e1 e2;injection e2 with e2 e3;subst e1;subst e2;have m:=N7 hF;exact⟨(m _ (by simp)).elim (λh=>by simp at h) id,(m _ (by simp)).elim (λh=>by simp at h) id⟩
     ·cases h
   ·cases h
theorem eF (s:StS)(a:Tx):AY s a false=(Gq s a,s):=by unfold AY;rw[if_pos (.inr rfl)]
theorem Ys {N Bd:Nat}{s:StS}{os:Nat}{p v:AV}{H:AH}{l:List Tx}(h:StAt s os p H)(hw:SW N s)(hB:∀i,(AA s i).1.2.length≤Bd)(hB2:4096≤Bd)(hN:N+10+72*Bd<900000)
  (hv:Aa H 1 v=some (l.flatMap Dj,l.length)) (hb:∀t∈l,t.length≤1000000) (hl:l.length≤1000000):
  ∃r H',(r=La (Wx s l).1∧∃p',StAt (Wx s l).2 os p' H'∧StF os p p' H H')∧BCall prog 12 [.ptr os 0,v] H r H':=Z1 (by
 unfold cP
 let Z:List AV:=[I 0,S (As []),I 0,I 0,I 0,I 0,I 0]
 have e1:A5 H (.agg [(I 0),(.lit (.string ⟨#[]⟩)),(I 0),(I 0),(I 0),(I 0),(I 0)])=some (.ptr H.length 0,H++[some (.cells Z)]):=rfl;have g1:=Grew.app H [some (AObj.cells Z)];have b1:=Bes.new h Z;have hlt:=h.os_lt;simp only[e1,Az];have hv1:=g1.slice hv;have h1:=h.grew g1;have f1:StF os p p H (H++[some (AObj.cells Z)]):=(StF.refl os p H).grew g1;have l1:(H++[some (AObj.cells Z)]).length=H.length+1:=by simp
 generalize (H++[some (AObj.cells Z)])=H1 at*;obtain⟨r,H2,⟨hr,g2⟩,hc⟩:=iZ hv1 hb hl;refine bC_of hc ?_;have b2:=b1.grew g2;have h2:=h1.grew g2;have f2:=f1.grew g2;have lt2:=g2.1
 -- the answer put into its place
 have fin:∀(e:Int) (s':StS) (p':AV) (H':AH),StAt s' os p' H'→StF os p p' H H'→Bes H.length Z os p' H'→Wx s l=(e,s')→
   bS (AS 7 H' (.ptr H.length 0) (.agg [I e,S (As []),I 0,I 0,I 0,I 0,I 0])) (λH''=>bO (Ar true 7 H'' (.ptr H.length 0)) λv=>v=La (Wx s l).1∧∃p',StAt (Wx s l).2 os p' H''∧StF os p p' H H''):=by
  intro e s' p' H' h' f' b' he;have hl':=(BE.1 b'.at').1
  have t1:AS 7 H' (.ptr H.length 0) (.agg [I e,S (As []),I 0,I 0,I 0,I 0,I 0])=some (H'.set H.length (some (.cells [I e,S (As []),I 0,I 0,I 0,I 0,I 0]))):=by
   rw[A7 (n:=7) (xs:=[I e,S (As []),I 0,I 0,I 0,I 0,I 0]) (cs:=Z) (by simp[BA,oneA]) b'.at' rfl (by simp[Z])];rfl
  have t2:(H'.set H.length (some (.cells [I e,S (As []),I 0,I 0,I 0,I 0,I 0])))[H.length]?=some (some (.cells [I e,S (As []),I 0,I 0,I 0,I 0,I 0])):=Jo hl';have ne:∀i,i≠H.length→(H'.set H.length (some (.cells [I e,S (As []),I 0,I 0,I 0,I 0,I 0])))[i]?=H'[i]?:=λi hi=>C3 (wD hi)
  have i7:Al true 7 [I e,S (As []),I 0,I 0,I 0,I 0,I 0] 0=some (La e):=rfl;simp only[t1,AB,Aj t2,i7,Ab,he];refine⟨by trivial,p',?_,by rw[vT];exact f'.len,λj a b c=>by rw[ne j (by omega)];exact f'.same j a b c,f'.ids⟩;obtain⟨a,b,c,d,pv,q⟩:=h';exact⟨a,b,c,d,pv,(ne os (wD b'.ne)).trans q.obj,q.now,q.kept,q.pm,Ae q.ps λi hi=>ne i (λe=>b'.np (e▸hi)),q.po,q.pi,q.pc⟩
 have z1:∀x:AV,oneA x=true→FC [(I 0),(.lit (.string ⟨#[]⟩)),(I 0),(I 0),(I 0),(I 0),(I 0)] [(0,1,x)]=some (.agg [x,S (As []),I 0,I 0,I 0,I 0,I 0]):=λx hx=>by
  simp[FC,AL hx,AK];rfl
 cases hP:Jh l with
 | none=>
  rw[hP]at hr;have hr:r=.tup [S (As []),S (As []),S (As []),B false]:=hr;subst hr;simp only[tX,tW,tA,z1 (I 2) rfl];exact fin 2 s p H2 h2 f2 b2 (by unfold Wx;rw[hP])
 | some q=>
  obtain⟨a,b,w⟩:=q;rw[hP]at hr;have hr:r=.tup [S (As a),S (As b),S (As w),B true]:=hr;subst hr;obtain⟨ma,mb⟩:=Yf hP;have la:=hb a ma;have lb:=hb b mb;simp only[tX,tW,tB];obtain⟨r,H3,⟨rfl,p3,h3,f3⟩,hc⟩:=Xz h2 hw (by omega) (name:=a) (by omega) false;refine bC_of hc ?_;have b3:=b2.step f3;have f23:=f2.trans f3;have hcp:Wx s l=if(AY s a false).1.2≠0 then((AY s a false).1.2,(AY s a false).2)else Jd (AY s a false).2 (AY s a false).1.1 b w:=by unfold Wx;rw[hP]
  rw[eF]at h3 hcp⊢;simp only[tX,uM]at hcp h3⊢;generalize Gq s a=F at*
  by_cases c1:F.2=0
  rotate_left
  ·rw[if_pos c1]at hcp
   simp only[c1,sV,tH,z1 (I F.2) rfl,Ab];exact fin F.2 s p3 H3 h3 f23 b3 hcp
  rw[if_neg (λz=>z c1)]at hcp;have z2:FC [(.lit (.pointer none)),(I 0),(I 0),(I 0),Ac] [(0,1,.ptr os 0),(1,1,I F.1)]=some (.agg [.ptr os 0,I F.1,I 0,I 0,Ac]):=rfl;have e4:A5 H3 (.agg [.ptr os 0,I F.1,I 0,I 0,Ac])=some (.ptr H3.length 0,H3++[some (.cells [.ptr os 0,I F.1,I 0,I 0,Ac])]):=rfl;have g4:=Grew.app H3 [some (AObj.cells [AV.ptr os 0,I F.1,I 0,I 0,Ac])];have cb:=Bes.new h3 [AV.ptr os 0,I F.1,I 0,I 0,Ac];have lt3:=f3.len;simp only[c1,sU,uS,z2,e4,Az]
  -- from here on the answer's place is part of what was there
  have hf0:StF os p p3 H1 (H3++[some (AObj.cells [AV.ptr os 0,I F.1,I 0,I 0,Ac])]):=
   (((StF.refl os p H1).grew g2).trans f3).grew g4
  obtain⟨r,H5,⟨rfl,p5,h5,f5⟩,hc⟩:=iA (nm:=b) (way:=w) (Bd:=Bd) (h3.grew g4) hw (hB F.1) hB2 hN (by omega) hf0 (by omega) cb;refine bC_of hc ?_;have hpne:H.length∉AR p:=λz=>by have:=h.p_lt _ z;omega
  have b5:Bes H.length Z os p5 H5:=⟨(f5.same H.length (by omega) (by omega) hpne).trans b1.at',by omega,λz=>(f5.ids _ z).elim hpne (λz=>by omega)⟩;have f15:StF os p p5 H H5:=f1.trans f5;simp only[z1 (I (Jd s F.1 b w).1) rfl,Ab];exact fin (Jd s F.1 b w).1 (Jd s F.1 b w).2 p5 H5 h5 f15 b5 hcp)
end Go.Proofs.YtbppnhenlboefaaGreat.Av
end
section
set_option maxHeartbeats 1000000
namespace Go.Proofs.YtbppnhenlboefaaGreat.Av
open Go Go.RowKit Go.Proofs.Tryz
def TB:Tx:=[45,45,115,112,97,114,115,101,61,97,108,119,97,121,115]
def UD:Int×StS:=V9 (OV 9) [97] [List.replicate 20 0]
def LY:Int×StS:=Wx UD.2 [TB,[97],[98]]
theorem eV:UD.1=0:=by kernel_rfl
theorem eZ:LY.1=0:=by kernel_rfl
theorem eY:(Wx LY.2 [[97]]).1=2:=by kernel_rfl
theorem aB:decide (S6 LY.2.now.1 LY.2.now.2 2)=true∧(GN LY.2.now.1 LY.2.now.2 2).size=20∧(GN LY.2.now.1 LY.2.now.2 2).l.length=0:=⟨by kernel_rfl,by kernel_rfl,by kernel_rfl⟩
theorem YV {N:Nat}{s:StS}(h:SW N s)(nm:List UInt8)(l:List (List UInt8)):SW (N+2+9*I1 l) (V9 s nm l).2:=by
 have w1:=Rw h nm true;unfold V9;generalize AY s nm true=O at*;have w2:=Pm w1 O.1.1 0;generalize D6 O.2 O.1.1 0=Q at*;have w3:=eH (ino:=O.1.1) (l:=l) (a:=0) (m:=0) w2
 split
 ·exact w1.mono (by omega)
 ·split
  ·exact w2.mono (by omega)
  ·split
   ·exact w3.mono (by omega)
   ·exact(jP w3 _).mono (by omega)
theorem cN {N Bd:Nat}{s:StS}(h:SW N s)(fr:Int)(nm way:Tx)(hB:(AA s fr).1.2.length≤Bd)(hB2:4096≤Bd):SW (N+4+72*Bd) (Jd s fr nm way).2:=by
 unfold Jd
 split
 ·exact h.mono (by omega)
 ·generalize (AA s fr).1=c at*
  have w1:=Uk h nm;unfold UC
  split
  ·exact h.mono (by omega)
  ·rename_i hg
   split
   ·exact w1.mono (by omega)
   ·have w2:SW (N+2+72*Bd) (RX (decide (Ki way c)) (C9 s nm).2.1 c (C9 s nm).2.2).2:=by
     unfold RX
     split
     ·exact(O5 w1).mono (by have:=Jt c.1 c.2;omega)
     ·rename_i hd
      refine(X8 w1).mono ?_
      have:(Jc c.1).toNat≤4096:=by
       have:¬32768<c.1:=λz=>hg ⟨by simpa using hd,z⟩
       unfold Jc;omega
      omega
    split
    ·exact w2.mono (by omega)
    ·exact(Pm w2 _ _).mono (by omega)
theorem pS {N Bd:Nat}{s:StS}(h:SW N s)(l:List Tx)(hB:∀i,(AA s i).1.2.length≤Bd)(hB2:4096≤Bd):SW (N+4+72*Bd) (Wx s l).2:=by
 unfold Wx
 split
 ·exact h.mono (by omega)
 ·rw[eF]
  split
  ·exact h.mono (by omega)
  ·exact cN h _ _ _ (hB _) hB2
theorem HU {N n:Nat}{s:StS}(h:SW N s)(hd:∀d∈s.now.2,d.l.length≤n)(i:Int):(AA s i).1.2.length≤n:=by
 by_cases c:(AA s i).2=0
 ·obtain⟨d,hm,-,e,-⟩:=Lr h c
  rw[e];exact hd d hm
 ·have:(AA s i).1=(0,[]):=by
   unfold AA at c⊢
   split
   ·rfl
   ·split
    ·rename_i h1 h2;rw[if_neg h1,if_pos h2]at c;exact absurd rfl c
    ·rfl
  rw[this];exact Nat.zero_le _
theorem eX:decide (∀d∈LY.2.now.2,d.l.length≤4096)=true:=by kernel_rfl
theorem Xm:decide (∀d∈UD.2.now.2,d.l.length≤4096)=true:=by kernel_rfl
theorem Ua {H:AH}{v:AV}(h:oneA v=true):Cg H 1 1 (AZ [Ac] 1) [(0,1,v)]=some (.sl H.length 0 1 1 (.ex 1),H++[some (.cells [v])]):=by
 simp[Cg,QL,AZ,AL h,AK]
theorem cO:ACalls prog 3 [] [] λr _=>r=B true:=Ld (by
 unfold Fx;obtain⟨r,H1,⟨p,rfl,l1,st0,g,hid⟩,hc⟩:=jV 9 [] (by omega);refine bC_of hc ?_;have n1:UQ .eql SP (.ptr ([]:AH).length 0) (.lit (.pointer none))=some (B false):=rfl;have e1:rN 1 1 [u0Z] H1 (I 20) (I 20)=some (.sl H1.length 0 20 1 (.ex 20),H1++[some (.cells (Bc (List.replicate 20 0)))]):=rfl;have e2:=Ua (H:=H1++[some (AObj.cells (Bc (List.replicate 20 0)))]) (v:=.sl H1.length 0 20 1 (.ex 20)) rfl;simp only[n1,tO,Ba,sX,e1,Az,e2];have g2:Grew H1 (H1++[some (AObj.cells (Bc (List.replicate 20 0)))]++[some (AObj.cells [AV.sl H1.length 0 20 1 (.ex 20)])]):=by rw[vK];exact Grew.app _ _
 have s1:Aa (H1++[some (AObj.cells (Bc (List.replicate 20 0)))]++[some (AObj.cells [AV.sl H1.length 0 20 1 (.ex 20)])]) 1 (.sl H1.length 0 20 1 (.ex 20))=some (Bc (List.replicate 20 0),20):=by
  rw[A9 (c:=Bc (List.replicate 20 0)) (by simp) (by simp[Bc])];rfl
 have s2:Aa (H1++[some (AObj.cells (Bc (List.replicate 20 0)))]++[some (AObj.cells [AV.sl H1.length 0 20 1 (.ex 20)])]) 1 (.sl (H1++[some (AObj.cells (Bc (List.replicate 20 0)))]).length 0 1 1 (.ex 1))=some ([AV.sl H1.length 0 20 1 (.ex 20)],1):=by
  rw[A9 CT (by simp)];rfl
 have lo:=st0.os_lt;have i4:∀j∈AR (AV.sl (H1++[some (AObj.cells (Bc (List.replicate 20 0)))]).length 0 1 1 (.ex 1)),j=H1.length+1:=by intro j hj;simpa[AR]using hj
 have st2:=st0.grew g2;generalize (.sl (H1++[some (AObj.cells (Bc (List.replicate 20 0)))]).length 0 1 1 (.ex 1):AV)=w at*;generalize (H1++[some (AObj.cells (Bc (List.replicate 20 0)))]++[some (AObj.cells [AV.sl H1.length 0 20 1 (.ex 20)])])=H2 at*;have hch:([(AV.sl H1.length 0 20 1 (.ex 20),List.replicate 20 0)]:List (AV×List UInt8)).flatMap (λx=>BZ x.2)=[List.replicate 20 0]:=by kernel_rfl
 refine⟨_,jW (nm:=[97]) (bl:=[(AV.sl H1.length 0 20 1 (.ex 20),List.replicate 20 0)]) st2 (V1 9) (by simp) s2 (by intro j hj;rw[i4 j hj,hid];exact⟨by omega,by simp⟩) (by
  intro x hx;simp only[xA]at hx;subst hx;exact⟨s1,rfl,by simp,λj hj=>by simp only[AR,xA]at hj;subst hj;rw[hid];exact⟨by omega,by simp⟩⟩) (by simp) (by rw[hch];simp[I1]),?_⟩
 have w2:=YV (V1 9) [97] [List.replicate 20 0];rw[hch];rintro r H3 ⟨p3,rfl,st3,f3⟩;have w3:SW 200 UD.2:=w2.mono (by simp[I1]);have st3:StAt UD.2 ([]:AH).length p3 H3:=st3;have er:(V9 (OV 9) [97] [List.replicate 20 0]).1=0:=eV;have lA:Cg H3 1 3 (AZ [(.lit (.string ⟨#[]⟩))] 3) [(0,1,(.lit (.string ⟨#[45,45,115,112,97,114,115,101,61,97,108,119,97,121,115]⟩))),(1,1,(.lit (.string ⟨#[97]⟩))),(2,1,(.lit (.string ⟨#[98]⟩)))]=some (.sl H3.length 0 3 1 (.ex 3),H3++[some (.cells ([TB,[97],[98]].flatMap Dj))]):=rfl;simp only[er,uM,sU,tC,uC,lA,Az];have g4:=Grew.app H3 [some (AObj.cells ([TB,[97],[98]].flatMap Dj))]
 have v4:Aa (H3++[some (AObj.cells ([TB,[97],[98]].flatMap Dj))]) 1 (.sl H3.length 0 3 1 (.ex 3))=some ([TB,[97],[98]].flatMap Dj,[TB,[97],[98]].length):=by
  rw[A9 CT (by simp[Dj])];rfl
 obtain⟨r,H5,⟨rfl,p5,st5,f5⟩,hc⟩:=Ys (Bd:=4096) (l:=[TB,[97],[98]]) (st3.grew g4) w3 (HU w3 (of_decide_eq_true Xm)) (by omega) (by omega) v4 (by simp[TB]) (by simp);refine bC_of hc ?_;have w5:SW 300000 LY.2:=(pS w3 [TB,[97],[98]] (Bd:=4096) (HU w3 (of_decide_eq_true Xm)) (by omega)).mono (by omega);have st5:StAt LY.2 ([]:AH).length p5 H5:=st5;have e5:(Wx UD.2 [TB,[97],[98]]).1=0:=eZ;rw[e5]
 have o7:∀(H:AH) (e:Int),A5 H (.agg [(I 0),(.lit (.string ⟨#[]⟩)),(I 0),(I 0),(I 0),(I 0),(I 0)])=some (.ptr H.length 0,H++[some (.cells [I 0,S (As []),I 0,I 0,I 0,I 0,I 0])])∧AS 7 (H++[some (AObj.cells [I 0,S (As []),I 0,I 0,I 0,I 0,I 0])]) (.ptr H.length 0) (La e)=some (H++[some (.cells [I e,S (As []),I 0,I 0,I 0,I 0,I 0])]):=λH e=>by
  refine⟨rfl,?_⟩;unfold La;rw[A7 (n:=7) (xs:=[I e,S (As []),I 0,I 0,I 0,I 0,I 0]) (cs:=[I 0,S (As []),I 0,I 0,I 0,I 0,I 0]) (by simp[BA,oneA]) CT rfl (by simp)];simp[AK]
 simp only[(o7 _ 0).1,(o7 _ 0).2,tV];have g6:=Grew.app H5 [some (AObj.cells [I 0,S (As []),I 0,I 0,I 0,I 0,I 0])];have b6:=Bes.new st5 [I 0,S (As []),I 0,I 0,I 0,I 0,I 0];have st6:=st5.grew g6;generalize (H5++[some (AObj.cells [I 0,S (As []),I 0,I 0,I 0,I 0,I 0])])=H6 at*;generalize H5.length=o5 at*;obtain⟨R,hR,r,H7,⟨rfl,g7⟩,hc⟩:=aT st6 w5 (by omega);refine bC_of hc ?_;obtain⟨k1,k2,k3⟩:=aB;obtain⟨L,hL,hp⟩:=jU hR (w5.now.sm (by omega)) 2;refine A1 hp ?_;rw[k1,k2];have oL:=SV.oneA hL;have m1:A5 H7 (.agg [(I 0),Ac])=some (.ptr H7.length 0,H7++[some (.cells [I 0,Ac])]):=rfl
 have m2:AS 2 (H7++[some (AObj.cells [I 0,Ac])]) (.ptr H7.length 0) (.agg [I 20,L])=some (H7++[some (.cells [I 20,L])]):=by
  rw[A7 (n:=2) (xs:=[I 20,L]) (cs:=[I 0,Ac]) (by simp[oL]) CT rfl (by simp)];simp[AK]
 have lB:∀H:AH,Cg H 1 1 (AZ [(.lit (.string ⟨#[]⟩))] 1) [(0,1,(.lit (.string ⟨#[97]⟩)))]=some (.sl H.length 0 1 1 (.ex 1),H++[some (.cells ([[97]].flatMap Dj))]):=λ_=>rfl
 simp only[tX,Ab,m1,tV,m2,lB];have g8:=Grew.app H7 [some (AObj.cells [I 20,L])];have b7:=b6.grew g7;have st7:=st6.grew g7;have c8:=Bes.new st7 [I 20,L];have b8:=b7.grew g8;have st8:=st7.grew g8;generalize (H7++[some (AObj.cells [I 20,L])])=H8 at*;generalize H7.length=o7' at*;have g9:=Grew.app H8 [some (AObj.cells ([[97]].flatMap Dj))]
 have v9:Aa (H8++[some (AObj.cells ([[97]].flatMap Dj))]) 1 (.sl H8.length 0 1 1 (.ex 1))=some ([[97]].flatMap Dj,([[97]]:List Tx).length):=by
  rw[A9 CT (by simp[Dj])];rfl
 have b9:=b8.grew g9;have c9:=c8.grew g9;obtain⟨r,H10,⟨rfl,p10,st10,f10⟩,hc⟩:=Ys (Bd:=4096) (l:=[[97]]) (st8.grew g9) w5 (HU w5 (of_decide_eq_true eX)) (by omega) (by omega) v9 (by simp) (by simp);refine bC_of hc ?_;have b10:=b9.step f10;have c10:=c9.step f10;rw[eY];simp only[(o7 _ 2).1,(o7 _ 2).2,tV];have g11:=Grew.app H10 [some (AObj.cells [I 2,S (As []),I 0,I 0,I 0,I 0,I 0])];have b11:=b10.grew g11;have c11:=c10.grew g11;have hl0:AW L=some (I 0):=by rw[hL.len,k3];rfl
 simp only[tM,Aj b11.at',Aj c11.at',Aj CT,FN,tD,Ba,sX,A4,hl0])
theorem Ww:BPure prog 3 [] (B true):=.of_true cO
end Go.Proofs.YtbppnhenlboefaaGreat.Av
end
section
namespace Go.Proofs.YtbppnhenlboefaaGreat.Av
open Go Go.Proofs.Tryz
def pqj:FuncId→Bool:=Rp [43,82,20,13,52,40,102,24,23,98,50,170,172,188,179,181,22,99,169,111,143,142,148,180,182,145,73,141,171,173,144,75,176,135,70,134,139,149,174,112,45,234,3]
def qY:FuncId→Bool:=Rp [11,36]
def Gc:Cq:=JB [(10,[(11,none)])]
def Gd:Nat→Option (List Bool):=Cn [(100010,mk 73 0 [6,7,8,9]),(12,mk 73 0 [4])]
def Ge:Nat→Bool:=Rp [10]
def Ex (p:List Bool)(n:Nat):List AV→AH→Kf→Prop:=AD prog Gc pqj qY Ge Gd (sub p (AG f7)) n
def DO (x4:AV)(H:AH)(K:AV→AH→Prop):Prop:=jn (mk 73 0 [4]) (Ex [true,true,true,true,true,true,true,true,true] 13) [x4] H (Br prog f7.results.toList K)
def CA (x6 x7 x8 x9:AV)(H:AH)(K:AV→AH→Prop):Prop:=unR prog 10 (SZ (sub [true,true,true,true,true,true,true,true,false] (AG f7))) (AP (mk 73 0 [6,7,8,9]) [x6,x7,x8,x9]) H (BH (Ke (mk 73 0 [4]) (Ex [true,true,true,true,true,true,true,true,true] 13)) (Br prog f7.results.toList K))
def ER (x4:AV)(H:AH)(K:AV→AH→Prop):Prop:=
 K x4 H
theorem Ip (x4:AV)(H:AH)(K:AV→AH→Prop):DO x4 H K=ER x4 H K:=(Em _ _ _ _ _).trans (by kernel_rfl)
noncomputable def salvorlaw30_CpWrong_U10Ops:List Oper:=(SZ (sub [true,true,true,true,true,true,true,true,false] (AG f7))).toList
def D5 (x6 x7 x8 x9:AV):List AV:=AP (mk 73 0 [6,7,8,9]) [x6,x7,x8,x9]
theorem Dd:salvorlaw30_CpWrong_U10Ops.length=23:=by kernel_rfl
theorem Iq:IT salvorlaw30_CpWrong_U10Ops=true:=by kernel_rfl
def Fe (K:AV→AH→Prop):Kf:=(BH (Ke (mk 73 0 [4]) (Ex [true,true,true,true,true,true,true,true,true] 13)) (Br prog f7.results.toList K))
theorem Ir (x6 x7 x8 x9:AV){H:AH}{K:AV→AH→Prop}(h:ACode prog (.region 10 salvorlaw30_CpWrong_U10Ops.toArray true) (Fe K) (D5 x6 x7 x8 x9) H):CA x6 x7 x8 x9 H K:=unR.mk h
theorem I6 (x6 x7 x8 x9:AV)(vals:Nat→AV)(H:AH)(K:AV→AH→Prop):Fe K .normal (pt salvorlaw30_CpWrong_U10Ops vals (λ_=>true) (D5 x6 x7 x8 x9) 23) H=(DO (vals 22) H K):=by kernel_rfl
def salvorlaw30_CpWrong_U10Need:List (List Nat):=[[],[],[0,1],[2],[3],[3],[3,4,5],[3,6],[3,7],[8],[8,9],[8],[8,10,11],[8,12],[12,13],[14],[14,15],[14,16],[14,17],[16,18],[19],[19,20],[0,1,2,3,4,5,6,7,8,9,10,11,12,13,14,15,16,17,18,19,20,21]]
def Cx (x6 x7 x8 x9:AV):List ((Nat→AV)→AH→(AV→AH→Prop)→Prop):=[
 λvals H K=>bO (Ar true 7 H x8) λv=>K v H,
 λvals H K=>bO (FC [(I 0),(.lit (.string ⟨#[]⟩)),(I 0),(I 0),(I 0),(I 0),(I 0)] [(0,1,(I 2))]) λv=>K v H,
 λvals H K=>bO (Ha prog .eql 30 (vals 0) (vals 1)) λv=>K v H,
 λvals H K=>K (vals 2) H,
 λvals H K=>vals 3=B true∧bO (Ar true 7 H x9) λv=>K v H,
 λvals H K=>vals 3=B true∧bO (FC [(I 0),(.lit (.string ⟨#[]⟩)),(I 0),(I 0),(I 0),(I 0),(I 0)] [(0,1,(I 3))]) λv=>K v H,
 λvals H K=>vals 3=B true∧bO (Ha prog .eql 30 (vals 4) (vals 5)) λv=>K v H,
 λvals H K=>bO (AC (vals 3) (vals 6) (B false)) λv=>K v H,
 λvals H K=>K (vals 7) H,
 λvals H K=>vals 8=B true∧K x6 H,
 λvals H K=>vals 8=B true∧ACalls prog 14 [(vals 9)] H K,
 λvals H K=>vals 8=B true∧bO (Ar true 2 H x7) λv=>K v H,
 λvals H K=>vals 8=B true∧ACalls prog 24 [(vals 10),(vals 11)] H K,
 λvals H K=>bO (AC (vals 8) (vals 12) (B false)) λv=>K v H,
 λvals H K=>K (vals 13) H,
 λvals H K=>vals 14=B true∧K x6 H,
 λvals H K=>vals 14=B true∧ACalls prog 25 [(vals 15)] H K,
 λvals H K=>vals 14=B true∧bO (Ay .eql (vals 16) (I 0)) λv=>K v H,
 λvals H K=>bO (AC (vals 14) (vals 17) (B false)) λv=>K v H,
 λvals H K=>K (vals 18) H,
 λvals H K=>vals 19=B true∧ACalls prog 3 [] H K,
 λvals H K=>bO (AC (vals 19) (vals 20) (B false)) λv=>K v H,
 λvals H K=>K (vals 21) H]
theorem I5 (x6 x7 x8 x9:AV):∀i,i<salvorlaw30_CpWrong_U10Ops.length→OpIg prog salvorlaw30_CpWrong_U10Ops (D5 x6 x7 x8 x9) i (salvorlaw30_CpWrong_U10Need.getD i []) ((Cx x6 x7 x8 x9).getD i (λ_ _ _=>False)):=
 OpIg.all (ql:=IU) (fz:=true) Dd (by kernel_rfl) (λvals H K=>by kernel_rfl)
theorem Hj (x6 x7 x8 x9:AV){H:AH}{K:AV→AH→Prop}(V:Nat→AV)(HI:(Nat→Bool)→AH→Prop)(h0:HI (λ_=>false) H)
  (hs:∀i,i<23→∀(S:Nat→Bool) (vals:Nat→AV) (Hc:AH),S i=false→(∀a,S a=true→∀b∈salvorlaw30_CpWrong_U10Need.getD a [],S b=true)→(∀j∈salvorlaw30_CpWrong_U10Need.getD i [],S j=true∧vals j=V j)→HI S Hc→(Cx x6 x7 x8 x9).getD i (λ_ _ _=>False) vals Hc λr H'=>r=V i∧HI (Gu S i) H')
  (last:∀(S:Nat→Bool) (vals:Nat→AV) (H:AH),(∀j,j<23→S j=true∧vals j=V j)→HI S H→(DO (vals 22) H K)):CA x6 x7 x8 x9 H K:=
 Ir x6 x7 x8 x9 (ACode.told3 JJ Iq (λi=>salvorlaw30_CpWrong_U10Need.getD i []) (λi=>(Cx x6 x7 x8 x9).getD i (λ_ _ _=>False)) V HI (I5 x6 x7 x8 x9) h0 (λi hi=>hs i (by rw[Dd]at hi;exact hi)) (λS vals Hc hS hI=>by
  rw[Dd]at hS⊢;rw[I6];exact last S vals Hc hS hI))
def EU (a0 a1:AV)(H:AH)(K:AV→AH→Prop):Prop:=
 bO (AW a1) λv0=>
 bO (Ay .gtr v0 (I 100)) λv1=>
 bB v1 λt2=>bI t2 (
 bP (PCall prog 3 [] H) λv3=>
 K v3 H)
 (bH (Cg H 1 0 (AZ [(.lit (.string ⟨#[]⟩))] 0) []) λv4 H5=>
 bH (Cg H5 1 1 (AZ [(.lit (.string ⟨#[]⟩))] 1) [(0,1,(.lit (.string ⟨#[97]⟩)))]) λv6 H7=>
 bH (Cg H7 1 2 (AZ [(.lit (.string ⟨#[]⟩))] 2) [(0,1,(.lit (.string ⟨#[97]⟩))),(1,1,(.lit (.string ⟨#[97]⟩)))]) λv8 H9=>
 bH (Cg H9 1 3 (AZ [(.lit (.string ⟨#[]⟩))] 3) [(0,1,(.lit (.string ⟨#[97]⟩))),(1,1,(.lit (.string ⟨#[98]⟩))),(2,1,(.lit (.string ⟨#[99]⟩)))]) λv10 H11=>
 bH (Cg H11 1 3 (AZ [(.lit (.string ⟨#[]⟩))] 3) [(0,1,(.lit (.string ⟨#[45,45,115,112,97,114,115,101,61,115,111,109,101]⟩))),(1,1,(.lit (.string ⟨#[97]⟩))),(2,1,(.lit (.string ⟨#[98]⟩)))]) λv12 H13=>
 bH (Cg H13 1 3 (AZ [(.lit (.string ⟨#[]⟩))] 3) [(0,1,(.lit (.string ⟨#[45,45,115,112,97,114,115,101]⟩))),(1,1,(.lit (.string ⟨#[97]⟩))),(2,1,(.lit (.string ⟨#[98]⟩)))]) λv14 H15=>
 bH (Cg H15 1 3 (AZ [(.lit (.string ⟨#[]⟩))] 3) [(0,1,(.lit (.string ⟨#[45,112]⟩))),(1,1,(.lit (.string ⟨#[97]⟩))),(2,1,(.lit (.string ⟨#[98]⟩)))]) λv16 H17=>
 bH (Cg H17 1 3 (AZ [(.lit (.string ⟨#[]⟩))] 3) [(0,1,(.lit (.string ⟨#[45,45,102,111,114,99,101]⟩))),(1,1,(.lit (.string ⟨#[97]⟩))),(2,1,(.lit (.string ⟨#[98]⟩)))]) λv18 H19=>
 bH (Cg H19 1 4 (AZ [(.lit (.string ⟨#[]⟩))] 4) [(0,1,(.lit (.string ⟨#[45,45,115,112,97,114,115,101,61,115,111,109,101]⟩))),(1,1,(.lit (.string ⟨#[45,45,115,112,97,114,115,101,61,97,117,116,111]⟩))),(2,1,(.lit (.string ⟨#[97]⟩))),(3,1,(.lit (.string ⟨#[98]⟩)))]) λv20 H21=>
 bH (Cg H21 1 2 (AZ [(.lit (.string ⟨#[]⟩))] 2) [(0,1,(.lit (.string ⟨#[45,45,115,112,97,114,115,101,61,97,117,116,111]⟩))),(1,1,(.lit (.string ⟨#[97]⟩)))]) λv22 H23=>
 bH (Cg H23 1 3 (AZ [(.lit (.string ⟨#[]⟩))] 3) [(0,1,(.lit (.string ⟨#[45,45,115,112,97,114,115,101,61]⟩))),(1,1,(.lit (.string ⟨#[97]⟩))),(2,1,(.lit (.string ⟨#[98]⟩)))]) λv24 H25=>
 bH (Cg H25 1 11 (AZ [Ac] 11) [(0,1,v4),(1,1,v6),(2,1,v8),(3,1,v10),(4,1,v12),(5,1,v14),(6,1,v16),(7,1,v18),(8,1,v20),(9,1,v22),(10,1,v24)]) λv26 H27=>
 bC (BCall prog 10 [(I 30)] H27) λv28 H29=>
 bO (UQ .eql SP v28 (.lit (.pointer none))) λv30=>
 bG v30 false λw31=>
 gO w31 (some v28) λv32=>
 bG v30 false λw33=>
 gO w33 (some a1) λv34=>
 bG v30 false λw35=>
 gH w35 (Cg H29 1 1 (AZ [Ac] 1) [(0,1,v34)]) H29 λv36 H37=>
 bG v30 false λw38=>
 gA w38 (ACalls prog 11 [v32,(.lit (.string ⟨#[97]⟩)),v36] H37) H37 λv39 H40=>
 bG v30 false λw41=>
 gO w41 (Ay .neq v39 (I 0)) λv42=>
 bO (AC v30 (B true) v42) λv43=>
 bB v43 λt44=>bI t44 (
 K (B false) H40)
 (bC (BCall prog 14 [v28] H40) λv45 H46=>
 bH (A5 H46 (.agg [Ac,Ac])) λv47 H48=>
 bS (AS 2 H48 v47 v45) λH49=>
 bO (Yw .i64 a0) λv50=>
 bO (AW v26) λv51=>
 bO (Ay .rem v50 v51) λv52=>
 bO (Bk 1 v26 v52) λv53=>
 bO (Ar false 1 H49 v53) λv54=>
 bC (BCall prog 12 [v28,v54] H49) λv55 H56=>
 bH (A5 H56 (.agg [(I 0),(.lit (.string ⟨#[]⟩)),(I 0),(I 0),(I 0),(I 0),(I 0)])) λv57 H58=>
 bS (AS 7 H58 v57 v55) λH59=>
 bH (Cg H59 1 2 (AZ [(.lit (.string ⟨#[]⟩))] 2) [(0,1,(.lit (.string ⟨#[99]⟩))),(1,1,(.lit (.string ⟨#[98]⟩)))]) λv60 H61=>
 bC (BCall prog 12 [v28,v60] H61) λv62 H63=>
 bH (A5 H63 (.agg [(I 0),(.lit (.string ⟨#[]⟩)),(I 0),(I 0),(I 0),(I 0),(I 0)])) λv64 H65=>
 bS (AS 7 H65 v64 v62) λH66=>
 CA v28 v47 v57 v64 H66 K))
theorem Ks (a0 a1:AV)(H:AH)(K:AV→AH→Prop):NG prog Gc pqj qY Ge Gd f7 [a0,a1] H K=EU a0 a1 H K:=by kernel_rfl
theorem Kt {a0 a1:AV}{H:AH}{K:AV→AH→Prop}(h:EU a0 a1 H K):ACalls prog 7 [a0,a1] H K:=
 GD JJ func7 (by kernel_rfl) (Eq.mpr (Ks a0 a1 H K) h)
end Go.Proofs.YtbppnhenlboefaaGreat.Av
end
section
end
