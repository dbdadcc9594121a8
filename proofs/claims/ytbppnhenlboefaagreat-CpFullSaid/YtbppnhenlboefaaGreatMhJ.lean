/- Texts of this proof, one behind the other, packed into one file by a program of this session. No condition. -/
import Derived.Test.YtbppnhenlboefaaGreatMhI
import Derived.Lib.Bytealg
set_option linter.unusedVariables false
set_option linter.unusedSimpArgs false
set_option maxRecDepth 100000
namespace Go.Proofs.YtbppnhenlboefaaGreat.Av
open Go Go.RowKit Go.Proofs.Tryz
section
theorem qZ {N:Nat}{s:StS}{os:Nat}{p a2:AV}{H:AH}{ino:Int}{bl:List (AV×List UInt8)}(hst:StAt s os p H)(hw:SW N s)
  (ha:Aa H 1 a2=some (bl.map Prod.fst,bl.length)) (hai:∀j∈AU a2,j≠os∧j∉AU p) (hb:∀x∈bl,Aa H 1 x.1=some (AB x.2,x.2.length)∧oneA x.1=true∧x.2.length≤1000000∧∀j∈AU x.1,j≠os∧j∉AU p) (hbn:bl.length≤1000000)
  (hN:N+9*Hh (bl.flatMap λx=>B9 x.2)<900000):
  ACalls prog 36 [.ptr os 0,I ino,a2] H λr H'=>∃p',r=I (pcs ino (bl.flatMap λx=>B9 x.2) s 0 0).2∧StAt (pcs ino (bl.flatMap λx=>B9 x.2) s 0 0).1.1 os p' H'∧StF os p p' H H':=Xx (by
 generalize hRES:pcs ino (bl.flatMap λx=>B9 x.2) s 0 0=RES;generalize hNN:N+9*Hh (bl.flatMap λx=>B9 x.2)=NN at hN;unfold Sh;have n1:∀(Z:AH) (x:AV),oneA x=true→AD Z x=some (.ptr Z.length 0,Z++[some (.cells [x])]):=λZ x hx=>by unfold AD;rw[AS hx];rfl
 generalize hb0:H.length=b0;have al:Ba a2=some (I (bl.length:Nat)):=By ha
 have s0:AT 1 (H++[some (AObj.cells [.ptr os 0])]++[some (.cells [I ino])]++[some (.cells [I 0])]++[some (.cells [I 0])]) (.ptr (b0+3) 0) (I 0)=some (H++[some (AObj.cells [.ptr os 0])]++[some (.cells [I ino])]++[some (.cells [I 0])]++[some (.cells [I 0])]):=by
  rw[oM (cs:=[I 0]) (k:=0) (by rw[← hb0];simp) (by simp) rfl]
  congr 1
  apply Ae5;intro j
  by_cases c:j=b0+3
  ·subst c
   rw[JW (by rw[← hb0];simp),← hb0];simp
  ·rw[C4 (Af4 c)]
 have l1:(H++[some (AObj.cells [AV.ptr os 0])]).length=b0+1:=by simp[hb0]
 have l2:(H++[some (AObj.cells [AV.ptr os 0])]++[some (AObj.cells [I ino])]).length=b0+2:=by simp[hb0]
 have l3:(H++[some (AObj.cells [AV.ptr os 0])]++[some (AObj.cells [I ino])]++[some (AObj.cells [I 0])]).length=b0+3:=by simp[hb0]
 simp only[n1 H (AV.ptr os 0) rfl,zM,n1 (H++[some (AObj.cells [AV.ptr os 0])]) (I ino) rfl,n1 (H++[some (AObj.cells [AV.ptr os 0])]++[some (AObj.cells [I ino])]) (I 0) rfl,n1 (H++[some (AObj.cells [AV.ptr os 0])]++[some (AObj.cells [I ino])]++[some (AObj.cells [I 0])]) (I 0) rfl,hb0,l1,l2,l3,s0,al,Ab]
 have g0:Grew H (H++[some (AObj.cells [AV.ptr os 0])]++[some (AObj.cells [I ino])]++[some (AObj.cells [I 0])]++[some (AObj.cells [I 0])]):=by
  simp only[Ad3];exact Grew.app H _
 have hplt:=hst.p_lt;have holt:=hst.os_lt;have S0:LwS os b0 ino s 0 p (H++[some (AObj.cells [AV.ptr os 0])]++[some (AObj.cells [I ino])]++[some (AObj.cells [I 0])]++[some (AObj.cells [I 0])]):=
  ⟨hst.grew g0,by rw[← hb0];simp,by rw[← hb0];simp,⟨I 0,by rw[← hb0];simp⟩,by rw[← hb0];simp,by omega,λj hj _ q=>by have:=hplt j q;omega⟩
 have F0:LwF os b0 p p H (H++[some (AObj.cells [AV.ptr os 0])]++[some (AObj.cells [I ino])]++[some (AObj.cells [I 0])]++[some (AObj.cells [I 0])]):=.of_grew g0;have B0:Bd NN (bl.flatMap λx=>B9 x.2) s 0 0:=⟨⟨N,hw,by omega⟩,by omega,by omega⟩;have fin:∀{p' H'},LwF os b0 p p' H H'→StF os p p' H H':=λf=>⟨f.len,λj hj h1 hp=>f.same j hj h1 (by omega) hp,f.ids⟩
 generalize (H++[some (AObj.cells [AV.ptr os 0])]++[some (AObj.cells [I ino])]++[some (AObj.cells [I 0])]++[some (AObj.cells [I 0])])=HB at S0 F0;refine QD (λm x2 x4 x5 x6 x12 x13 x14 H'=>∃(k:Nat) (s:StS) (at' sum:Int) (p':AV),k+m=bl.length∧x2=.ptr b0 0∧x4=.ptr (b0+1) 0∧x5=.ptr (b0+2) 0∧x6=.ptr (b0+3) 0∧a2=x12∧x13=I bl.length∧x14=I k∧
  LwS os b0 ino s at' p' H'∧LwF os b0 p p' H H'∧pcs ino ((bl.drop k).flatMap λx=>B9 x.2) s at' sum=RES∧Bd NN ((bl.drop k).flatMap λx=>B9 x.2) s at' 0) ?_ bl.length ⟨0,s,0,0,p,by omega,rfl,rfl,rfl,rfl,rfl,rfl,rfl,S0,F0,hRES,B0⟩
 rintro m x2 x4 x5 x6 x12 x13 x14 H1 R hR ⟨k,s,at',sum,p1,hk,rfl,rfl,rfl,rfl,e12,rfl,rfl,S1,F1,hpc,hbd⟩;subst e12;unfold Nr;have keepS:∀{w:AV} {sz:Nat} {cs:List AV} {n:Nat} {p2:AV} {H2:AH},Aa H sz w=some (cs,n)→(∀j∈AU w,j≠os∧j∉AU p)→LwF os b0 p p2 H H2→Aa H2 sz w=some (cs,n):=λh1 h2 f=>Ae h1 λj hj=>f.same j (A3 h1 j hj) (h2 j hj).1 (by have:=A3 h1 j hj;omega) (h2 j hj).2
 rcases Ac5 k bl.length with h | h
 ·have hx:=DR h
  generalize bl[k]=vb at hx;obtain⟨v,b⟩:=vb;obtain⟨hb1,hb2,hb3,hb4⟩:=hb _ (Ac3 hx);simp only at hb1 hb2 hb3 hb4;have hdrop:bl.drop k=(v,b)::bl.drop (k+1):=D0 hx;rw[hdrop]at hpc hbd;simp only[Ae8]at hpc hbd;generalize hrest:(bl.drop (k+1)).flatMap (λx=>B9 x.2)=rest at hpc hbd;have kI:(k:Int)<(bl.length:Int):=by omega
  have ha1:=keepS ha hai F1;have hv1:=keepS hb1 hb4 F1;obtain⟨pp,q1,q2⟩:=P4 (enc:=fun x:AV×List UInt8=>[x.1]) (f:=Prod.fst) (λ_=>rfl) (l:=bl) (by rw[← List.map_eq_flatMap];exact ha1) hx;simp only[zO,kI,zE,q1,q2];refine bC_of (nF hv1 hb2) ?_;have g2:=Grew.app H1 [some (AObj.cells [v]),some (.cells [I 4096])];have S2:=S1.grew g2;have F2:LwF os b0 p p1 H (H1++[some (AObj.cells [v]),some (.cells [I 4096])]):=F1.trans (.of_grew g2);have t0:(H1++[some (AObj.cells [v]),some (.cells [I 4096])])[H1.length]?=some (some (.cells [v])):=by simp
  have t1:(H1++[some (AObj.cells [v]),some (.cells [I 4096])])[H1.length+1]?=some (some (.cells [I 4096])):=by simp
  have hlc:(H1++[some (AObj.cells [v]),some (.cells [I 4096])]).length=H1.length+2:=by simp
  have hp1:=S1.st.p_lt;have hb03:b0+3<H1.length:=(BD.1 S1.ba).1;have z4:=S1.no;generalize (H1++[some (AObj.cells [v]),some (.cells [I 4096])])=Hc at S2 F2 t0 t1 hlc
  refine yN (jQ (o1:=H1.length) (o2:=H1.length+1) (s:=v) (cs:=AB b) (len:=b.length) (n:=4096) (by omega) (by omega) (by omega)) (by kernel_rfl)
   (λi H'=>∃(s:StS) (at' sum:Int) (p':AV),LwS os b0 ino s at' p' H'∧LwF os b0 p1 p' Hc H'∧pcs ino ((B9 b).drop i++rest) s at' sum=RES∧Bd NN ((B9 b).drop i++rest) s at' 0)
   (λH'=>∃(s:StS) (at' sum:Int) (p':AV) (e:Int),StAt s os p' H'∧LwF os b0 p1 p' Hc H'∧H'[b0+2]?=some (some (.cells [I e]))∧RES=((s,at',sum),e))
   ⟨s,at',sum,p1,S2,.refl _ _ _ _,by simpa using hpc,by simpa using hbd⟩ ?_ ?_ ?_ ?_
  ·rintro i H' ⟨s',at'',sum',p',S',F',-,-⟩
   refine⟨(F'.same _ (by omega) (by omega) (by omega) (λq=>by have:=hp1 _ q;omega)).trans t0,(F'.same _ (by omega) (by omega) (by omega) (λq=>by have:=hp1 _ q;omega)).trans t1,keepS hb1 hb4 (F2.trans F')⟩
  ·rintro i x H' hxi ⟨s',at'',sum',p',S',F',hpc',hbd'⟩
   have hi:i<cD b.length 4096:=by
    have:=(BD.1 hxi).1
    rwa[Xf]at this
   have hil:=(jN (len:=b.length) (k:=i) (show 0<4096 by omega)).1 hi
   have ex:x=qG v b.length 4096 i:=by
    unfold uN at hxi;rw[Ae7,Aj0 hi]at hxi;injection hxi with hxi;exact hxi.symm
   subst ex;have hv':=keepS hb1 hb4 (F2.trans F');obtain⟨c1,c2⟩:=sB hv' hil;have hcd:(B9 b).drop i=P5 b i::(B9 b).drop (i+1):=D0 (ZO hi);rw[hcd,Ah7]at hpc' hbd';obtain⟨⟨M,w1,w2⟩,w3,w4⟩:=hbd';rw[Wu]at w2 w3 w4
   have fp:∀j∈AU v,j∉AU p':=λj hj q=>by
    have hjl:=A3 hb1 j hj;rcases(F2.trans F').ids j q with q | q
    ·exact(hb4 j hj).2 q
    ·omega
   have wn:=Z4 s' ino at'' (P5 b i);have ww:=Ro w1 ino at'' (P5 b i);unfold pcs at hpc';refine kY S' w1 (by omega) c1 (λj hj=>⟨(hb4 j (c2 j hj)).1,fp j (c2 j hj)⟩) (by omega) ?_ ?_
   ·intro he p2 H2 S2' F2'
    rw[if_pos he]at hpc';exact⟨_,_,_,p2,S2',F'.trans F2',hpc',⟨⟨_,ww,by omega⟩,by omega,by omega⟩⟩
   ·intro he p2 H2 S2' F2' r2
    rw[if_neg he]at hpc';exact⟨_,_,_,p2,_,S2',F'.trans F2',r2,hpc'.symm⟩
  ·rintro H' ⟨s',at'',sum',p',S',F',hpc',hbd'⟩
   rw[Xf,← ZP,Am0,Ai1]at hpc' hbd';simp only[Aw (a:=k) (b:=1) (by omega) (by omega),Ab];exact hR (m - 1) _ _ _ _ _ _ _ _ (by omega) ⟨k+1,s',at'',sum',p',by omega,rfl,rfl,rfl,rfl,rfl,rfl,by simp,S',F2.trans F',by rw[hrest];exact hpc',by rw[hrest];exact hbd'⟩
  ·rintro H' ⟨s',at'',sum',p',e,S',F',r2,rfl⟩
   simp only[Ak r2,Ah,CL,Ab];exact⟨p',by trivial,S',fin (F2.trans F')⟩
 ·have kI:¬(k:Int)<(bl.length:Int):=by omega
  have hdrop:bl.drop k=[]:=Ad2 h;rw[hdrop]at hpc;simp only[List.flatMap_nil]at hpc;unfold pcs at hpc;subst hpc;obtain⟨c,r2⟩:=S1.br;have hb03:b0+3<H1.length:=(BD.1 S1.ba).1;have z4:=S1.no;have e2:AT 1 H1 (.ptr (b0+2) 0) (I 0)=some (H1.set (b0+2) (some (.cells [I 0]))):=oM r2 (by simp) rfl;simp only[zO,kI,yY,e2,AE];generalize hH4:H1.set (b0+2) (some (AObj.cells [I 0]))=H4;have g4:∀j,j≠b0+2→H4[j]?=H1[j]?:=λj hj=>by rw[← hH4,C4 (Af4 hj)]
  have t2:H4[b0+2]?=some (some (.cells [I 0])):=by rw[← hH4];exact JW (by omega)
  have l4:H4.length=H1.length:=by rw[← hH4,Ae1]
  simp only[Ak t2,Ah,CL,Ab];refine⟨p1,by trivial,S1.st.keep λj hj=>?_,fin ⟨by have:=F1.len;omega,λj hj h1 h3 hp=>by rw[g4 j (by omega)];exact F1.same j hj h1 h3 hp,F1.ids⟩⟩;rcases hj with rfl | hj
  ·exact g4 j (by omega)
  ·exact g4 j (λe=>S1.nb (b0+2) (by omega) (by omega) (by rw[← e];exact hj)))
theorem iO {N:Nat}{s:StS}{os:Nat}{p:AV}{H:AH}(h:StAt s os p H)(hw:SW N s)(hN:N≤900000)(ino:Int):∃r H',(r=.tup [I (Ar s ino).1.1,I (Ar s ino).2]∧Grew H H')∧BCall prog 60 [.ptr os 0,I ino] H r H':=Oz (by
 unfold Lk;obtain⟨R,hR,r,H1,⟨rfl,g1⟩,hc⟩:=NL h hw hN ino;have oR:=SV.oneA hR;refine bC_of hc ?_;have g2:=Grew.app H1 [some (AObj.cells [I (Ar s ino).1.1,R])];simp only[A2,zJ,iF,zM,VW _ _ oR,Ak CI];exact⟨by trivial,g1.trans g2⟩)
theorem iN {N:Nat}{s:StS}{os:Nat}{p a2:AV}{H:AH}{nm:List UInt8}{bl:List (AV×List UInt8)}(hst:StAt s os p H)(hw:SW N s)(hnm:nm.length≤9223372036854775807)
  (ha:Aa H 1 a2=some (bl.map Prod.fst,bl.length)) (hai:∀j∈AU a2,j≠os∧j∉AU p) (hb:∀x∈bl,Aa H 1 x.1=some (AB x.2,x.2.length)∧oneA x.1=true∧x.2.length≤1000000∧∀j∈AU x.1,j≠os∧j∉AU p) (hbn:bl.length≤1000000)
  (hN:N+2+9*Hh (bl.flatMap λx=>B9 x.2)<900000):
  ACalls prog 11 [.ptr os 0,S (A0 nm),a2] H λr H'=>∃p',r=I (Vl s nm (bl.flatMap λx=>B9 x.2)).1∧StAt (Vl s nm (bl.flatMap λx=>B9 x.2)).2 os p' H'∧StF os p p' H H':=YS (by
 unfold UX;obtain⟨r,H1,⟨rfl,p1,h1,f1⟩,hc⟩:=WM hst hw (by omega) hnm true;have w1:=QQ hw nm true;refine bC_of hc ?_;unfold Vl;generalize AZ s nm true=O at*;simp only[zL,Ab3]
 by_cases c1:O.1.2=0
 rotate_left
 ·simp only[c1,yT,Ab8]
  exact⟨p1,by trivial,h1,f1⟩
 simp only[c1,zF,yY];obtain⟨r,H2,⟨rfl,p2,h2,f2⟩,hc⟩:=TK h1 w1 (by omega) O.1.1 0;have w2:=N8 w1 O.1.1 0;refine bC_of hc ?_;generalize DD O.2 O.1.1 0=Q at*;simp only[Ab3];have f12:=f1.trans f2
 by_cases c2:Q.1=0
 rotate_left
 ·simp only[c2,yT,Ab8]
  exact⟨p2,by trivial,h2,f12⟩
 simp only[c2,zF,yY];have keepS:∀{w:AV} {cs:List AV} {n:Nat},Aa H 1 w=some (cs,n)→(∀j∈AU w,j≠os∧j∉AU p)→Aa H2 1 w=some (cs,n)∧∀j∈AU w,j≠os∧j∉AU p2:=λk1 k2=>
  ⟨Ae k1 λj hj=>f12.same j (A3 k1 j hj) (k2 j hj).1 (k2 j hj).2,λj hj=>⟨(k2 j hj).1,λq=>(f12.ids j q).elim (k2 j hj).2 (λq=>by have:=A3 k1 j hj;omega)⟩⟩
 refine⟨_,qZ (ino:=O.1.1) h2 w2 (keepS ha hai).1 (keepS ha hai).2 (λx hx=>⟨(keepS (hb x hx).1 (hb x hx).2.2.2).1,(hb x hx).2.1,(hb x hx).2.2.1,(keepS (hb x hx).1 (hb x hx).2.2.2).2⟩) hbn (by omega),?_⟩;have w3:=lT (ino:=O.1.1) (l:=bl.flatMap λx=>B9 x.2) (a:=0) (m:=0) w2;generalize pcs O.1.1 (bl.flatMap λx=>B9 x.2) Q.2 0 0=Z at*;rintro r H3 ⟨p3,rfl,h3,f3⟩;have f123:=f12.trans f3;simp only[Ab3]
 by_cases c3:Z.2=0
 rotate_left
 ·simp only[c3,yT,Ab8]
  exact⟨p3,by trivial,h3,f123⟩
 simp only[c3,zF,yY];have eA:Cr H3 1 1 (Be [(I 0)] 1) [(0,1,I O.1.1)]=some (.sl H3.length 0 1 1 (.ex 1),H3++[some (.cells [I O.1.1])]):=rfl;have g4:=Grew.app H3 [some (AObj.cells [I O.1.1])];have hsl:Aa (H3++[some (AObj.cells [I O.1.1])]) 1 (.sl H3.length 0 1 1 (.ex 1))=some (([O.1.1]:List Int).flatMap U4,([O.1.1]:List Int).length):=by simp[Aa,U4]
 have lo:=h3.os_lt;have lp:=h3.p_lt
 obtain⟨r,H5,⟨rfl,p5,h5,f5⟩,hc⟩:=rD (h3.grew g4) w3 (by omega) hsl (by
  intro j hj;simp[AU]at hj;subst hj;exact⟨by omega,λq=>by have:=lp _ q;omega⟩) (by simp)
 simp only[eA,Az];refine bC_of hc ?_;exact⟨p5,by trivial,h5,(f123.grew g4).trans f5⟩)
theorem NG {a:List UInt8}{lo hi:Option AV}{l h:Nat}(e1:Bs lo 0=some l)(e2:Bs hi a.length=some h)(h1:l≤h)(h2:h≤a.length):RD (S (A0 a)) lo hi=some (S (A0 ((a.drop l).take (h - l)))):=by
 have e3:Bs hi (A0 a).size=some h:=e2;have e4:h≤(A0 a).size:=h2
 have:(A0 a).extract l h=A0 ((a.drop l).take (h - l)):=by
  apply ByteArray.ext;rw[ByteArray.data_extract];simp[A0,List.extract_eq_take_drop]
 simp[RD,e1,e3,h1,e4,this]
def XM (a:List UInt8):Int:=Lib.indexByte a 61
theorem sZ (a:List UInt8): -1≤XM a∧(0≤XM a→(XM a).toNat<a.length):=by
 unfold XM;refine⟨Lib.indexByte_ge a 61,?_⟩
 induction a with
 | nil=>intro h;exact absurd h (by decide)
 | cons b l ih=>
  intro h;unfold Lib.indexByte at h⊢;simp only[Ad7];split at h
  ·rename_i hb
   rw[if_pos hb];exact Nat.zero_lt_succ _
  ·rename_i hb
   rw[if_neg hb];split at h
   ·exact absurd h (by decide)
   ·rename_i hc
    rw[if_neg hc];have hge:=Lib.indexByte_ge l 61;have hc':Lib.indexByte l 61≠ -1:=λe=>hc (by rw[e];rfl)
    have:=ih (by omega)
    omega
theorem XR (a:List UInt8):BPure prog 236 [S (A0 a),.lit (.int .u8 61)] (I (XM a)):=λH=>Gl (K:=λr H'=>r=I (XM a)∧H'=H) (by
 unfold C2;refine⟨I (XM a),?_,rfl,rfl⟩;intro G vs hH hv;have hv':VRs G [S (A0 a),.lit (.int .u8 61)] vs:=hv;simp only[VRs,VR]at hv';obtain⟨_,_,rfl,rfl,_,_,rfl,rfl,rfl⟩:=hv';refine⟨.int .i64 (XM a),?_,by simp only[VR]⟩;rw[run_callFunc_extern func241 (by kernel_rfl) (by kernel_rfl) (by kernel_rfl) (e:=Extern.BytealgIndexByte.indexByte) (by kernel_rfl)]
 have:=Lib.run_indexByteString (P:=prog) (A0 a) 61 G.w
 rw[show(A0 a).data.toList=a by simp[A0]]at this;rw[this]
 rfl)
theorem nI (a:List UInt8):BPure prog 234 [S (A0 a),.lit (.string ⟨#[61]⟩)] (I (XM a)):=λH=>HF (K:=λr H'=>r=I (XM a)∧H'=H) (by
 unfold Dl;have e0:(AV.lit (.string ⟨#[61]⟩))=S (A0 [61]):=rfl;have e1:Gh (S (A0 [61]))=some (I 1):=rfl;have e2:Tu (S (A0 [61])) (I 0)=some (.lit (.int .u8 61)):=rfl;simp only[e0,e1,yV,CX,show decide ((1:Int)=0)=false from rfl,Ab4,yS,Gs]
 by_cases c:([61]:List UInt8)=a
 ·subst c
  simp only[zE];exact⟨by trivial,by trivial⟩
 ·simp only[c,yY,zE,e2,Ab]
  exact A4 (XR a) ⟨by trivial,by trivial⟩)
def MN (a:List UInt8):List UInt8×List UInt8:=if 0≤XM a then(a.take (XM a).toNat,a.drop ((XM a).toNat+1))else(a,[])
abbrev zW:=And.intro @List.drop_zero.{0} @Nat.sub_zero
theorem uU {a:List UInt8}(ha:a.length≤9223372036854775806):BPure prog 217 [S (A0 a),.lit (.string ⟨#[61]⟩)] (.tup [S (A0 (MN a).1),S (A0 (MN a).2),B (decide (0≤XM a))]):=BPure.flat λH=>Vw (by
 unfold Tn
 refine A4 (r:=.tup [S (A0 (MN a).1),S (A0 (MN a).2),B (decide (0≤XM a))]) (BPure.flat λH=>IA (by
  unfold Ft;refine A4 (nI a) ?_;obtain⟨i1,i2⟩:=sZ a;unfold MN;simp only[I3,yV]
  by_cases c:0≤XM a
  ·have i2:=i2 c
   obtain⟨k,hk⟩:∃k:Nat,XM a=k:=⟨(XM a).toNat,by omega⟩;rw[hk]at i2 c⊢;simp only[Ah3]at i2;have s1:=NG (a:=a) (lo:=none) (hi:=some (I (k:Int))) (l:=0) (h:=k) rfl (by simp[Bs]) (by omega) (by omega);have s2:=NG (a:=a) (lo:=some (I ((k:Int)+1))) (hi:=none) (l:=k+1) (h:=a.length) (by simp only[Bs];rw[if_pos (by omega)];congr 1) rfl (by omega) (by omega);have e3:(a.drop (k+1)).take (a.length - (k+1))=a.drop (k+1):=Ac1 (by rw[Ac7];omega);have e1:Gh (.lit (.string ⟨#[61]⟩))=some (I 1):=rfl;simp only[c,Ab8,s1,Ab,e1,Aw (a:=(k:Int)) (b:=1) (by omega) (by omega),s2,zW,e3,Ah3];exact⟨by trivial,by trivial⟩
  ·simp only[c,yY,if_false]
   exact⟨by trivial,by trivial⟩)) ?_
 simp only[zL,Ab];exact⟨by trivial,by trivial⟩)
def UM (p a:List UInt8):Bool:=decide (a.take p.length=p)
theorem XP {a p:List UInt8}(ha:a.length≤9223372036854775807)(hp:p.length≤9223372036854775807):BPure prog 228 [S (A0 a),S (A0 p)] (B (UM p a)):=BPure.flat λH=>Gj (by
 unfold DU;have q1:Gh (S (A0 a))=some (I a.length):=II ha;have q2:Gh (S (A0 p))=some (I p.length):=II hp;unfold UM;simp only[q1,q2,Ab,I3,AK]
 by_cases c:p.length≤a.length
 ·have s1:=NG (a:=a) (lo:=none) (hi:=some (I (p.length:Int))) (l:=0) (h:=p.length) rfl (by simp[Bs]) (by omega) c
  simp only[zW]at s1;simp only[show((p.length:Int)≤(a.length:Int)) by omega,yW,yS,q2,Ab,s1,Gs,As];exact⟨by trivial,by trivial⟩
 ·have:¬a.take p.length=p:=λe=>c (by rw[← e,Ac0];omega)
  simp only[show ¬((p.length:Int)≤(a.length:Int)) by omega,C9,show((false==true)=false)from rfl,BE,Ab,Ab4,this];exact⟨by trivial,by trivial⟩)
theorem S5 {a p:List UInt8}(ha:a.length≤9223372036854775807)(hp:p.length≤9223372036854775807):BPure prog 194 [S (A0 a),S (A0 p)] (.tup [S (A0 (if UM p a=true then a.drop p.length else a)),B (UM p a)]):=BPure.flat λH=>N7 (by
 unfold Ki
 refine A4 (r:=.tup [S (A0 (if UM p a=true then a.drop p.length else a)),B (UM p a)]) (BPure.flat λH=>Gi (by
  unfold DT;refine A4 (XP ha hp) ?_;have q2:Gh (S (A0 p))=some (I p.length):=II hp;simp only[zX];cases c:UM p a with
  | true=>
   have hl:p.length≤a.length:=by
    have:=of_decide_eq_true c
    have h2:=congrArg List.length this;rw[Ac0]at h2;omega
   have s1:=NG (a:=a) (lo:=some (I (p.length:Int))) (hi:=none) (l:=p.length) (h:=a.length) (by simp[Bs]) rfl hl (by omega);rw[Ac1 (by rw[Ac7];omega)]at s1;simp only[zB,q2,Aa9,s1];exact⟨by trivial,by trivial⟩
  | false=>
   simp only[zA,An];exact⟨by trivial,by trivial⟩)) ?_
 simp only[zL,Ab];exact⟨by trivial,by trivial⟩)
def N3 (c:UInt8):Prop:=97≤c.toNat∧c.toNat≤122
instance (c:UInt8):Decidable (N3 c):=by unfold N3;infer_instance
theorem pT (c:UInt8):BPure prog 214 [.lit (.int .u8 c.toNat)] (B (decide (N3 c))):=BPure.flat λH=>Xb (by
 unfold We;unfold N3;simp only[I3,Ab,AK]
 by_cases h:97≤c.toNat
 ·simp only[show(97:Int)≤(c.toNat:Int) by omega,yW,yS,Ab,WP,As]
  refine⟨?_,by trivial⟩
  by_cases h2:c.toNat≤122
  ·simp[h,h2];omega
  ·simp[h,h2];omega
 ·simp only[show ¬(97:Int)≤(c.toNat:Int) by omega,C9,show((false==true)=false)from rfl,BE,Ab,As,An]
  exact⟨by simp[h],by trivial⟩)
def KU (a:List UInt8):Prop:=a≠[]∧a.length≤10∧∀c∈a,N3 c
instance (a:List UInt8):Decidable (KU a):=by unfold KU;infer_instance
theorem wQ {a:List UInt8}(ha:a.length≤9223372036854775806):BPure prog 218 [S (A0 a)] (B (decide (KU a))):=BPure.flat λH=>ZG (by
 unfold bY;have q1:Gh (S (A0 a))=some (I a.length):=II (by omega);simp only[q1,Ab];refine Ty (λn x0 x5 x6 H'=>∃k:Nat,k+n=a.length∧x0=S (A0 a)∧x5=I a.length∧x6=I k∧H'=H∧∀m y,m<k→a[m]?=some y→N3 y) ?_ a.length ⟨0,by omega,rfl,rfl,rfl,rfl,by omega⟩;rintro n x0 x5 x6 H' R hR ⟨k,hk,rfl,rfl,rfl,rfl,hb⟩;unfold PX;simp only[zO];rcases Ac5 k a.length with h | h
 ·have hx:=DR h
  generalize a[k]=y at hx;simp only[show(k:Int)<(a.length:Int) by omega,zE,Ru rfl hx,Ab];refine A4 (pT y) ?_;simp only[zX]
  by_cases hy:N3 y
  ·simp only[hy,CA,zB,Aw (a:=(k:Int)) (b:=1) (by omega) (by omega),Ab]
   refine hR (n - 1) _ _ _ _ (by omega) ⟨k+1,by omega,rfl,rfl,by simp,rfl,?_⟩;intro m z hm hz
   by_cases c:m=k
   ·rw[c,hx]at hz;injection hz with hz;rw[← hz];exact hy
   ·exact hb m z (by omega) hz
  ·have:¬KU a:=λhm=>hy (hm.2.2 y (Ac3 hx))
   simp only[hy,this,C9,zA];exact⟨by trivial,by trivial⟩
 ·have all:∀c∈a,N3 c:=λc hc=>by
   obtain⟨m,hm⟩:=Ad6.1 hc
   have:=(BD.1 hm).1
   exact hb m c (by omega) hm
  have e0:(AV.lit (.string ⟨#[]⟩))=S (A0 []):=rfl;simp only[show ¬(k:Int)<(a.length:Int) by omega,yY,e0,PH,Ab,AK]
  by_cases c:a=[]
  ·have:¬KU a:=λhm=>hm.1 c
   simp only[c,yR,C9,show((false==true)=false)from rfl,BE,Ab,As,An];rw[c]at this;exact⟨by simp[this],by trivial⟩
  ·simp only[c,yT,yW,yS,q1,Ab,WP,As]
   refine⟨?_,by trivial⟩
   by_cases c2:a.length≤10
   ·have:KU a:=⟨c,c2,all⟩
    simp[this];omega
   ·have:¬KU a:=λhm=>c2 hm.2.1
    simp[this];omega)
abbrev Tx:=List UInt8
def Cj (t:Tx):List AV:=[S (A0 t)]
def DP (p:Tx×Tx):List AV:=[S (A0 p.1),S (A0 p.2)]
theorem U3 (t:Tx):(Cj t).length=1:=rfl
theorem fJ (t:Tx×Tx):(DP t).length=2:=rfl
def gK (s:Tx):Option (Option (Tx×Tx)):=
 if UM [45,45] s=true then(if KU (MN (s.drop 2)).1 then some (some (MN (s.drop 2)))else none)
 else if UM [45] s=true∧s.drop 1≠[]then none else some none
def HZ:List Tx→List (Tx×Tx)→List Tx→Option (List (Tx×Tx)×List Tx)
 | [],o,r=>some (o,r)
 | s::l,o,r=>if s=[45,45]then some (o,r++l)else match gK s with
  | none=>none
  | some (some kv)=>HZ l (o++[kv]) r
  | some none=>HZ l o (r++[s])
structure Tk (n0 o:Nat)(vl vo vr:AV)(l:List Tx)(op:List (Tx×Tx))(rs:List Tx)(H0 H:AH):Prop where
 obj:H[o]?=some (some (.cells [Ad,vl,vo,vr]))
 no:n0≤o
 sl:Aa H 1 vl=some (l.flatMap Cj,l.length)
 il:∀i∈AU vl,i<n0
 so:Aa H 2 vo=some (op.flatMap DP,op.length)
 oo:AP vo=true
 io:∀i∈AU vo,n0≤i∧i≠o
 sr:Aa H 1 vr=some (rs.flatMap Cj,rs.length)
 ow:AP vr=true
 ir:∀i∈AU vr,n0≤i∧i≠o
 dj:∀i∈AU vo,i∉AU vr
 g:n0≤H.length∧∀i,i<n0→H[i]?=H0[i]?
section
variable {n0 o : Nat} {vl vo vr : AV} {l : List Tx} {op : List (Tx × Tx)} {rs : List Tx} {H0 H : AH}
theorem Tk.lt (h:Tk n0 o vl vo vr l op rs H0 H):o<H.length:=(BD.1 h.obj).1
theorem Tk.move {vo2 vr2:AV}{op2:List (Tx×Tx)}{rs2:List Tx}{H':AH}(h:Tk n0 o vl vo vr l op rs H0 H)(hl:H.length≤H'.length)(hk:∀i,i<n0→H'[i]?=H[i]?)(ho:H'[o]?=some (some (.cells [Ad,vl,vo2,vr2])))
  (so:Aa H' 2 vo2=some (op2.flatMap DP,op2.length)) (oo:AP vo2=true) (io:∀i∈AU vo2,n0≤i∧i≠o) (sr:Aa H' 1 vr2=some (rs2.flatMap Cj,rs2.length)) (ow:AP vr2=true) (ir:∀i∈AU vr2,n0≤i∧i≠o) (dj:∀i∈AU vo2,i∉AU vr2):Tk n0 o vl vo2 vr2 l op2 rs2 H0 H':=
 ⟨ho,h.no,Ae h.sl λi hi=>hk i (h.il i hi),h.il,so,oo,io,sr,ow,ir,dj,Ad8 h.g.1 hl,λi hi=>(hk i hi).trans (h.g.2 i hi)⟩
theorem xE (h:Tk n0 o vl vo vr l op rs H0 H)(hop:op.length≤1000)(k v:Tx):∃r H',(r=.tup []∧∃vo',Tk n0 o vl vo' vr l (op++[(k,v)]) rs H0 H')∧BCall prog 219 [.ptr o 0,S (A0 k),S (A0 v)] H r H':=RC (by
 unfold O4;have hlt:=h.lt;have e1:FK [(.lit (.string ⟨#[]⟩)),(.lit (.string ⟨#[]⟩))] [(0,1,S (A0 k)),(1,1,S (A0 v))]=some (.agg [S (A0 k),S (A0 v)]):=rfl
 have e2:Cr H 2 1 (Be [(.lit (.string ⟨#[]⟩)),(.lit (.string ⟨#[]⟩))] 1) [(0,2,.agg [S (A0 k),S (A0 v)])]=some (.sl H.length 0 1 2 (.ex 1),H++[some (.cells [S (A0 k),S (A0 v)])]):=by
  simp[Cr,Tq,Be,BH,AR,oneA]
 have g:=Grew.app H [some (AObj.cells [S (A0 k),S (A0 v)])]
 have s1:Aa (H++[some (AObj.cells [S (A0 k),S (A0 v)])]) 2 (.sl H.length 0 1 2 (.ex 1))=some ([S (A0 k),S (A0 v)],1):=by
  rw[A9 CI (by simp)];rfl
 obtain⟨r,H8,a1,a2,a3,a4,a5,a6⟩:=CC (sz:=2) (bytes:=32) (g.slice h.so) h.oo (AI s1) (by omega);have lg:(H++[some (AObj.cells [S (A0 k),S (A0 v)])]).length=H.length+1:=by simp
 rw[lg]at a4 a5 a6;have k8:∀i,i<H.length→i∉AU vo→H8[i]?=H[i]?:=λi h1 h2=>(a5 i (by omega) h2).trans (g.2 i h1)
 have ob8:H8[o]?=some (some (.cells [Ad,vl,vo,vr])):=(k8 o hlt λz=>(h.io o z).2 rfl).trans h.obj;have or':=AM a2
 have e3:AT 1 H8 (.ptr o 2) r=some (H8.set o (some (.cells [Ad,vl,r,vr]))):=by
  rw[AC (n:=1) (xs:=[r]) (cs:=[Ad,vl,vo,vr]) (AS or') ob8 rfl (by simp)];rfl
 simp only[zZ,Ah1,Ak h.obj,e1,e2,zM,a1,e3];have ne8:∀i,i≠o→(H8.set o (some (.cells [Ad,vl,r,vr])))[i]?=H8[i]?:=λi hi=>C4 (Af4 hi)
 have rne:∀i∈AU r,n0≤i∧i≠o:=λi hi=>by
  rcases a6 i hi with z | z
  ·exact h.io i z
  ·have:=h.g.1;exact⟨by omega,by omega⟩
 refine⟨by trivial,r,h.move (by rw[Ae1];omega) (λi hi=>?_) (JW (by omega)) ?_ a2 rne ?_ h.ow h.ir ?_⟩
 ·have:=h.no;have:=h.g.1
  rw[ne8 i (by omega)];exact k8 i (by omega) λz=>by have:=(h.io i z).1;omega
 ·have:(op++[(k,v)]).flatMap DP=op.flatMap DP++[S (A0 k),S (A0 v)]:=by simp[DP]
  rw[this,Ac6];exact Ae a3 λi hi=>ne8 i (rne i hi).2
 ·exact Ae h.sr λi hi=>by
   rw[ne8 i (h.ir i hi).2];exact k8 i (A3 h.sr i hi) λz=>h.dj i z hi
 ·intro i hi z
  rcases a6 i hi with y | y
  ·exact h.dj i y z
  ·have:=A3 h.sr i z;omega)
theorem tA (h:Tk n0 o vl vo vr l op rs H0 H)(hop:op.length≤1000){s:Tx}(hs:s.length≤1000000):∃r H',(r=B (decide (KU (MN s).1))∧(KU (MN s).1→∃vo',Tk n0 o vl vo' vr l (op++[MN s]) rs H0 H')∧n0≤H'.length∧∀i,i<n0→H'[i]?=H0[i]?)∧BCall prog 195 [.ptr o 0,S (A0 s)] H r H':=PY (by
 unfold M9;refine A4 (uU (by omega)) ?_
 have hl:(MN s).1.length≤s.length:=by
  unfold MN
  split
  ·simp only[Ac0];omega
  ·exact Ac2 _
 simp only[zL,Ab];refine A4 (wQ (by omega)) ?_;simp only[zX]
 by_cases c:KU (MN s).1
 ·simp only[c,CA,zB]
  obtain⟨r,H',⟨rfl,vo',h'⟩,hc⟩:=xE h hop (MN s).1 (MN s).2;refine bC_of hc ?_;exact⟨by trivial,λ_=>⟨vo',h'⟩,h'.g⟩
 ·simp only[c,C9,zA]
  exact⟨by trivial,λh=>h.elim,h.g⟩)
abbrev Aa5:=And.intro @Int.lt_irrefl @yY
theorem wP (x:AV)(H:AH):BCall prog 215 [Ad,x] H (I (-1)) H:=by
 obtain⟨r,H',⟨rfl,rfl⟩,hc⟩:=EY (a0:=Ad) (a1:=x) (H:=H) (K:=λr H'=>r=I (-1)∧H'=H) (by
  unfold Dh;have e:Ba Ad=some (I 0):=rfl;simp only[e,Ab];refine Ec (λn x0 x1 x7 x8 H'=>x7=I 0∧x8=I 0∧H'=H) ?_ 0 ⟨rfl,rfl,rfl⟩;rintro n x0 x1 x7 x8 H' R hR ⟨rfl,rfl,rfl⟩;unfold C0;simp only[zO,Aa5];exact⟨by trivial,by trivial⟩)
 exact hc
theorem pP (h:Tk n0 o vl vo vr l op rs H0 H){s:Tx}(hs:s.length≤1000000)(h0:s≠[]):∃r H',(r=B false∧n0≤H'.length∧∀i,i<n0→H'[i]?=H0[i]?)∧BCall prog 196 [.ptr o 0,S (A0 s)] H r H':=Pj (by
 unfold LJ;have e1:AD H (S (A0 s))=some (.ptr H.length 0,H++[some (.cells [S (A0 s)])]):=rfl;have g:=Grew.app H [some (AObj.cells [S (A0 s)])];have q1:Gh (S (A0 s))=some (I s.length):=II (by omega);simp only[e1,Az,Ak CI,Ah,CL,Ab,q1];have ob:=g.cells h.obj;have hf:n0≤(H++[some (AObj.cells [S (A0 s)])]).length∧∀i,i<n0→(H++[some (AObj.cells [S (A0 s)])])[i]?=H0[i]?:=⟨Ad8 h.g.1 g.1,λi hi=>(g.2 i (by have:=h.g.1;omega)).trans (h.g.2 i hi)⟩;have hlt:=h.lt;have hno:=h.no;have hlen:(H++[some (AObj.cells [S (A0 s)])]).length=H.length+1:=by simp
 generalize (H++[some (AObj.cells [S (A0 s)])])=H1 at*;refine Kz (λn x0 x3 x8 x9 H'=>x0=.ptr o 0∧x8=I s.length∧x9=I 0∧H'=H1) ?_ 0 ⟨rfl,rfl,rfl,rfl⟩;rintro n x0 x3 x8 x9 H' R hR ⟨rfl,rfl,rfl,rfl⟩;unfold Hx
 have hp:(0:Int)<(s.length:Int):=by
  have:=List.length_pos_iff.2 h0;omega
 have e2:AD H' (I 0)=some (.ptr H'.length 0,H'++[some (.cells [I 0])]):=rfl;have g2:=Grew.app H' [some (AObj.cells [I 0])]
 have e3:AT 1 (H'++[some (AObj.cells [I 0])]) (.ptr H'.length 0) (I 0)=some (H'++[some (.cells [I 0])]):=by
  rw[AC (n:=1) (xs:=[I 0]) (cs:=[I 0]) rfl CI rfl (by simp)];simp[AR]
 simp only[AN,zG,Af,hp,zE,e2,zM,e3,Ay,Ak (g2.cells ob),CL];refine bC_of (wP _ _) ?_;simp only[zO,show decide ((-1:Int)<0)=true from rfl,Al];exact⟨by trivial,Ad8 hf.1 g2.1,λi hi=>(g2.2 i (by have:=h.g.1;omega)).trans (hf.2 i hi)⟩)
theorem tY (h:Tk n0 o vl vo vr l op rs H0 H)(hrs:rs.length≤1000)(s:Tx):
  ∃r H8 H9,Cr H 1 1 (Be [(.lit (.string ⟨#[]⟩))] 1) [(0,1,S (A0 s))]=some (.sl H.length 0 1 1 (.ex 1),H++[some (.cells [S (A0 s)])])∧Mm 1 16 (H++[some (.cells [S (A0 s)])]) vr (.sl H.length 0 1 1 (.ex 1))=some (r,H8)∧AT 1 H8 (.ptr o 3) r=some H9∧Tk n0 o vl vo r l op (rs++[s]) H0 H9:=by
 have hlt:=h.lt
 have e2:Cr H 1 1 (Be [(.lit (.string ⟨#[]⟩))] 1) [(0,1,S (A0 s))]=some (.sl H.length 0 1 1 (.ex 1),H++[some (.cells [S (A0 s)])]):=by
  simp[Cr,Tq,Be,BH,AR,oneA]
 have g:=Grew.app H [some (AObj.cells [S (A0 s)])]
 have s1:Aa (H++[some (AObj.cells [S (A0 s)])]) 1 (.sl H.length 0 1 1 (.ex 1))=some ([S (A0 s)],1):=by
  rw[A9 CI (by simp)];rfl
 obtain⟨r,H8,a1,a2,a3,a4,a5,a6⟩:=CC (sz:=1) (bytes:=16) (g.slice h.sr) h.ow (AI s1) (by omega);have lg:(H++[some (AObj.cells [S (A0 s)])]).length=H.length+1:=by simp
 rw[lg]at a4 a5 a6;have k8:∀i,i<H.length→i∉AU vr→H8[i]?=H[i]?:=λi h1 h2=>(a5 i (by omega) h2).trans (g.2 i h1)
 have ob8:H8[o]?=some (some (.cells [Ad,vl,vo,vr])):=(k8 o hlt λz=>(h.ir o z).2 rfl).trans h.obj;have or':=AM a2
 have e3:AT 1 H8 (.ptr o 3) r=some (H8.set o (some (.cells [Ad,vl,vo,r]))):=by
  rw[AC (n:=1) (xs:=[r]) (cs:=[Ad,vl,vo,vr]) (AS or') ob8 rfl (by simp)];rfl
 have ne8:∀i,i≠o→(H8.set o (some (.cells [Ad,vl,vo,r])))[i]?=H8[i]?:=λi hi=>C4 (Af4 hi)
 have rne:∀i∈AU r,n0≤i∧i≠o:=λi hi=>by
  rcases a6 i hi with z | z
  ·exact h.ir i z
  ·have:=h.g.1;exact⟨by omega,by omega⟩
 refine⟨r,H8,_,e2,a1,e3,h.move (by rw[Ae1];omega) (λi hi=>?_) (JW (by omega)) ?_ h.oo h.io ?_ a2 rne ?_⟩
 ·have:=h.no;have:=h.g.1
  rw[ne8 i (by omega)];exact k8 i (by omega) λz=>by have:=(h.ir i z).1;omega
 ·exact Ae h.so λi hi=>by
   rw[ne8 i (h.io i hi).2];exact k8 i (A3 h.so i hi) λz=>h.dj i hi z
 ·have:(rs++[s]).flatMap Cj=rs.flatMap Cj++[S (A0 s)]:=by simp[Cj]
  rw[this,Ac6];exact Ae a3 λi hi=>ne8 i (rne i hi).2
 ·intro i hi z
  rcases a6 i z with y | y
  ·exact h.dj i hi y
  ·have:=A3 h.so i hi;omega
theorem wX (h:Tk n0 o vl vo vr l op rs H0 H)(hop:op.length≤1000)(hrs:rs.length≤1000){s:Tx}(hs:s.length≤1000000):
  ∃r H',(r=B (gK s).isSome∧(∀kv,gK s=some (some kv)→∃vo',Tk n0 o vl vo' vr l (op++[kv]) rs H0 H')∧(gK s=some none→∃vr',Tk n0 o vl vo vr' l op (rs++[s]) H0 H')∧n0≤H'.length∧∀i,i<n0→H'[i]?=H0[i]?)∧BCall prog 157 [.ptr o 0,S (A0 s)] H r H':=RB (by
 unfold O3;have e1:(AV.lit (.string ⟨#[45,45]⟩))=S (A0 [45,45]):=rfl;have e2:(AV.lit (.string ⟨#[45]⟩))=S (A0 [45]):=rfl;have e0:∀x:Tx,Rq .neq (S (A0 x)) (.lit (.string ⟨#[]⟩))=some (B (decide (x≠[]))):=λx=>PH
 rw[e1,e2];refine A4 (S5 (a:=s) (p:=[45,45]) (by omega) (by simp)) ?_;unfold gK;simp only[zL,yV];cases c:UM [45,45] s with
 | true=>
  simp only[Al,if_true];obtain⟨r,H',⟨rfl,h1,h2⟩,hc⟩:=tA h hop (s:=s.drop 2) (by rw[Ac7];omega);refine bC_of (r:=B (decide (KU (MN (s.drop 2)).1))) hc ?_
  by_cases k:KU (MN (s.drop 2)).1
  ·simp only[k,yW,Ai6]
   refine⟨by trivial,λkv hkv=>?_,λhk=>by simp at hk,h2⟩;injection hkv with hkv;injection hkv with hkv;rw[← hkv];exact h1 k
  ·simp only[k,C9,if_false,An0]
   exact⟨by trivial,λkv hkv=>by simp at hkv,λhk=>by simp at hk,h2⟩
 | false=>
  simp only[Ag,An];refine A4 (S5 (a:=s) (p:=[45]) (by omega) (by simp)) ?_;simp only[zL,Ab,AK];obtain⟨r,H8,H9,f1,f2,f3,f4⟩:=tY h hrs s;cases c2:UM [45] s with
  | true=>
   have ed:s.drop ([45]:Tx).length=s.drop 1:=rfl;simp only[yS,yV,if_true,ed,e0,As,true_and]
   by_cases c3:s.drop 1=[]
   ·simp only[c3,zF,yY,Ai6]
    simp only[zZ,Nat.reduceAdd,Ak h.obj,f1,zM,f2,f3];exact⟨by trivial,λkv hkv=>by simp at hkv,λ_=>⟨r,f4⟩,f4.g⟩
   ·simp only[c3,yT,Ab8,An0]
    obtain⟨r,H',⟨rfl,h2⟩,hc⟩:=pP h (s:=s.drop 1) (by rw[Ac7];omega) c3;refine bC_of hc ?_;exact⟨by trivial,λkv hkv=>by simp at hkv,λhk=>by simp at hk,h2⟩
  | false=>
   simp only[show((false==true)=false)from rfl,BE,yV,Ab4,Ag,false_and,Ai6];simp only[zZ,Nat.reduceAdd,Ak h.obj,f1,zM,f2,f3];exact⟨by trivial,λkv hkv=>by simp at hkv,λ_=>⟨r,f4⟩,f4.g⟩)
end
end
section
theorem fN (H:AH):BCall prog 156 [.lit (.string ⟨#[]⟩)] H (.tup [Ad,B true]) H:=by
 obtain⟨r,H',⟨rfl,rfl⟩,hc⟩:=Xa (a0:=.lit (.string ⟨#[]⟩)) (H:=H) (K:=λr H'=>r=.tup [Ad,B true]∧H'=H) (by
  unfold Wc;have e:Gh (.lit (.string ⟨#[]⟩))=some (I 0):=rfl;simp only[e,Ab];refine PV (λn x0 x4 x9 x10 H'=>x4=Ad∧x9=I 0∧x10=I 0∧H'=H) ?_ 0 ⟨rfl,rfl,rfl,rfl⟩;rintro n x0 x4 x9 x10 H' R hR ⟨rfl,rfl,rfl,rfl⟩;unfold M8;simp only[zO,Aa5];exact⟨by trivial,by trivial⟩)
 exact hc
theorem Ve {H:AH}{sz:Nat}{v:AV}{q:List AV×Nat}(h:Aa H sz v=some q):oneA v=true:=by
 cases v with
 | lit a=>cases a<;>first | rfl | (simp[Aa]at h)
 | _=>first | rfl | (simp[Aa]at h)
theorem fO (l:List Tx):(l.flatMap Cj).length=l.length:=by
 induction l with
 | nil=>rfl
 | cons a l ih=>rw[Ae8,Ac6,ih,Ad7,U3];omega
def RU (l:List Tx):Option (List (Tx×Tx)×List Tx):=if 40<l.length then none else HZ l [] []
def iJ (F:Option (List (Tx×Tx)×List Tx))(r:AV)(H:AH):Prop:=match F with
 | none=>r=.tup [.agg [Ad,Ad],B false]
 | some (op,rs)=>∃vo vr,r=.tup [.agg [vo,vr],B true]∧Aa H 2 vo=some (op.flatMap DP,op.length)∧Aa H 1 vr=some (rs.flatMap Cj,rs.length)∧oneA vo=true∧oneA vr=true
theorem nH {l:List Tx}{v:AV}{H:AH}(hv:Aa H 1 v=some (l.flatMap Cj,l.length))(hb:∀s∈l,s.length≤1000000)(hl:l.length≤9223372036854775807):
  ∃r H',(iJ (RU l) r H'∧Grew H H')∧BCall prog 83 [.lit (.string ⟨#[]⟩),v] H r H':=WZ (by
 unfold Wb;have e1:AD H (.agg [Ad,Ad])=some (.ptr H.length 0,H++[some (.cells [Ad,Ad])]):=rfl;have g1:=Grew.app H [some (AObj.cells [Ad,Ad])];have top:=CI (H:=H) (x:=AObj.cells [Ad,Ad]);have l1:(H++[some (AObj.cells [Ad,Ad])]).length=H.length+1:=by simp
 have hv1:=g1.slice hv;have iv:∀i∈AU v,i<H.length:=A3 hv;simp only[e1,Az];generalize (H++[some (AObj.cells [Ad,Ad])])=H1 at*;refine bC_of (fN H1) ?_;have z0:FK [Ad,Ad] []=some (.agg [Ad,Ad]):=rfl;have alv:Ba v=some (I l.length):=By hv1;have rd2':∀a b:AV,Ao true 2 [a,b] 0=some (.agg [a,b]):=λ_ _=>rfl
 simp only[zL,zX,Ak6,Ab4,yS,alv,Hp];unfold RU
 by_cases c40:40<l.length
 ·have t1:AT 2 H1 (.ptr H.length 0) (.agg [Ad,Ad])=some (H1.set H.length (some (.cells [Ad,Ad]))):=by
   rw[AC (n:=2) (xs:=[Ad,Ad]) (cs:=[Ad,Ad]) (by simp[BH,oneA]) top rfl (by simp)];rfl
  have t2:(H1.set H.length (some (.cells [Ad,Ad])))[H.length]?=some (some (.cells [Ad,Ad])):=JW (by omega);simp only[show(40:Int)<(l.length:Int) by omega,Ab8,z0,Ab,t1,AE,Ak t2,rd2',c40];exact⟨rfl,by rw[Ae1];omega,λi hi=>by rw[C4 (by omega),g1.2 i hi]⟩
 simp only[show ¬(40:Int)<(l.length:Int) by omega,yY,c40,if_false];generalize hF:HZ l [] []=F;have o1:=Ve hv
 have z1:FK [Ad,Ad,Ad,Ad] [(0,1,Ad),(1,1,v)]=some (.agg [Ad,v,Ad,Ad]):=by
  simp[FK,AS o1,AS (show oneA Ad=true from rfl),AR]
 have e2:AD H1 (.agg [Ad,v,Ad,Ad])=some (.ptr H1.length 0,H1++[some (.cells [Ad,v,Ad,Ad])]):=by simp[o1]
 have g2:=Grew.app H1 [some (AObj.cells [Ad,v,Ad,Ad])];simp only[z1,Ab,e2,Az];have nil2:∀(H:AH) (sz:Nat),Aa H sz Ad=some ([],0):=λ_ _=>rfl
 have tk0:Tk H1.length H1.length v Ad Ad l [] [] H1 (H1++[some (AObj.cells [Ad,v,Ad,Ad])]):=
  ⟨CI,Ac2 _,g2.slice hv1,λi hi=>by have:=iv i hi;omega,rfl,rfl,by simp[AU],rfl,rfl,by simp[AU],by simp[AU],g2.1,λi hi=>g2.2 i hi⟩
 -- what is answered at the end
 have out:∀(H':AH) (vl vo vr:AV) (lr:List Tx) (op:List (Tx×Tx)) (rs:List Tx),Tk H1.length H1.length vl vo vr lr op rs H1 H'→F=some (op,rs)→I7 (.ptr H.length 0) (.ptr H1.length 0) H' (λr H'=>iJ F r H'∧Grew H H'):=by
  intro H' vl vo vr lr op rs tk hf;rw[Tw];unfold M5;have rd4:∀a b c d:AV,Ao true 2 [a,b,c,d] 2=some (.agg [c,d]):=λ_ _ _ _=>rfl
  have ooA:=AM tk.oo;have owA:=AM tk.ow;have top':=(tk.g.2 H.length (by omega)).trans top
  have t1:AT 2 H' (.ptr H.length 0) (.agg [vo,vr])=some (H'.set H.length (some (.cells [vo,vr]))):=by
   rw[AC (n:=2) (xs:=[vo,vr]) (cs:=[Ad,Ad]) (by simp[ooA,owA]) top' rfl (by simp)];rfl
  have hl':=tk.g.1;have t2:(H'.set H.length (some (.cells [vo,vr])))[H.length]?=some (some (.cells [vo,vr])):=JW (by omega);simp only[Ay,zC,Ak tk.obj,rd4,t1,AE,Ak t2,rd2'];have ne:∀i,i≠H.length→(H'.set H.length (some (.cells [vo,vr])))[i]?=H'[i]?:=λi hi=>C4 (Af4 hi)
  rw[hf];refine⟨⟨vo,vr,rfl,Ae tk.so λi hi=>ne i (by have:=(tk.io i hi).1;omega),Ae tk.sr λi hi=>ne i (by have:=(tk.ir i hi).1;omega),ooA,owA⟩,by rw[Ae1];omega,λi hi=>?_⟩;rw[ne i (by omega),tk.g.2 i (by omega),g1.2 i hi]
 refine PR (λn x4 x8 H'=>∃(lr:List Tx) (vl vo vr:AV) (op:List (Tx×Tx)) (rs:List Tx),lr.length=n∧x4=.ptr H.length 0∧x8=.ptr H1.length 0∧Tk H1.length H1.length vl vo vr lr op rs H1 H'∧HZ lr op rs=F∧(∀s∈lr,s.length≤1000000)∧op.length+lr.length≤40∧rs.length+lr.length≤40) ?_ l.length
  ⟨l,_,_,_,[],[],rfl,rfl,rfl,tk0,hF,hb,by simp;omega,by simp;omega⟩
 rintro n x4 x8 H2 R hR ⟨lr,vl,vo,vr,op,rs,rfl,rfl,rfl,tk,hf,hb,n1,n2⟩;unfold M6;have al:=By tk.sl;simp only[zZ,Ak tk.obj,al,Hp,Af];cases lr with
 | nil=>
  simp only[Ai0,Int.ofNat_zero,Int.cast_ofNat_Int,Aa5];exact out _ _ _ _ _ _ _ tk (by rw[← hf];rfl)
 | cons s lr=>
  simp only[Ad7]at n1 n2 al;have hlt:=tk.lt;obtain⟨p,hp1,hp2⟩:=P4 (enc:=Cj) (f:=λt=>S (A0 t)) (λ_=>rfl) tk.sl (k:=0) (x:=s) rfl;obtain⟨vl2,b1,b2,b3,-,-⟩:=E3 (sz:=1) tk.sl (lo:=some (I 1)) (hi:=none) (l:=1) (k:=lr.length+1) (by simp[Bs]) rfl (by omega) (by simp)
  have b2:Aa H2 1 vl2=some (lr.flatMap Cj,lr.length):=by
   rw[b2];have:(s::lr).flatMap Cj=S (A0 s)::lr.flatMap Cj:=rfl;have hfl:=fO lr;rw[this];simp only[Ah5,Am2,Ad9,Nat.add_sub_cancel];rw[Ac1 (by omega)]
  have ovl:=Ve b2
  have e3:AT 1 H2 (.ptr H1.length 1) vl2=some (H2.set H1.length (some (.cells [Ad,vl2,vo,vr]))):=by
   rw[AC (n:=1) (xs:=[vl2]) (cs:=[Ad,vl,vo,vr]) (AS ovl) tk.obj rfl (by simp)];rfl
  have hp1:Bj 1 vl (I 0)=some p:=hp1;simp only[Ad7,show(0:Int)<((lr.length+1:Nat):Int) by omega,zE,hp1,hp2,b1,e3,AE,Ab];have ne:∀i,i≠H1.length→(H2.set H1.length (some (.cells [Ad,vl2,vo,vr])))[i]?=H2[i]?:=λi hi=>C4 (Af4 hi)
  have tk2:Tk H1.length H1.length vl2 vo vr lr op rs H1 (H2.set H1.length (some (.cells [Ad,vl2,vo,vr]))):=
   ⟨JW hlt,Ac2 _,Ae b2 λi hi=>ne i (by have:=tk.il i (b3 i hi);omega),λi hi=>tk.il i (b3 i hi),Ae tk.so λi hi=>ne i (tk.io i hi).2,tk.oo,tk.io,Ae tk.sr λi hi=>ne i (tk.ir i hi).2,tk.ow,tk.ir,tk.dj,by rw[Ae1];exact tk.g.1,λi hi=>(ne i (by omega)).trans (tk.g.2 i hi)⟩
  generalize (H2.set H1.length (some (.cells [Ad,vl2,vo,vr])))=H3 at*;have eD:(AV.lit (.string ⟨#[45,45]⟩))=S (A0 [45,45]):=rfl;rw[eD,Gs];simp only[yV];unfold HZ at hf
  by_cases cd:s=[45,45]
  ·rw[if_pos cd]at hf
   obtain⟨r,H8,a1,a2,a3,a4,a5,a6⟩:=CC (sz:=1) (bytes:=16) tk2.sr tk2.ow (AI tk2.sl) (by omega);have k8:∀i,i<H3.length→i∉AU vr→H8[i]?=H3[i]?:=a5;have ob8:H8[H1.length]?=some (some (.cells [Ad,vl2,vo,vr])):=(k8 _ tk2.lt λz=>(tk2.ir _ z).2 rfl).trans tk2.obj;have or':=AM a2
   have e4:AT 1 H8 (.ptr H1.length 3) r=some (H8.set H1.length (some (.cells [Ad,vl2,vo,r]))):=by
    rw[AC (n:=1) (xs:=[r]) (cs:=[Ad,vl2,vo,vr]) (AS or') ob8 rfl (by simp)];rfl
   simp only[cd,zE,zZ,Nat.reduceAdd,Ak tk2.obj,a1,zM,e4];have ne8:∀i,i≠H1.length→(H8.set H1.length (some (.cells [Ad,vl2,vo,r])))[i]?=H8[i]?:=λi hi=>C4 (Af4 hi)
   have lt2:=tk2.lt
   have rne:∀i∈AU r,H1.length≤i∧i≠H1.length:=λi hi=>by
    rcases a6 i hi with z | z
    ·exact tk2.ir i z
    ·exact⟨by omega,by omega⟩
   refine out _ vl2 vo r lr op (rs++lr) (tk2.move (by rw[Ae1];omega) (λi hi=>?_) (JW (by omega)) ?_ tk2.oo tk2.io ?_ a2 rne ?_) hf.symm
   ·rw[ne8 i (by omega)]
    exact k8 i (by omega) λz=>by have:=(tk2.ir i z).1;omega
   ·exact Ae tk2.so λi hi=>by
     rw[ne8 i (tk2.io i hi).2];exact k8 i (A3 tk2.so i hi) λz=>tk2.dj i hi z
   ·rw[Ag4,Ac6]
    exact Ae a3 λi hi=>ne8 i (rne i hi).2
   ·intro i hi z
    rcases a6 i z with y | y
    ·exact tk2.dj i hi y
    ·have:=A3 tk2.so i hi;omega
  ·rw[if_neg cd]at hf
   obtain⟨r,H4,⟨rfl,q1,q2,q3⟩,hc⟩:=wX tk2 (by omega) (by omega) (s:=s) (hb s (by simp));simp only[cd,yY];refine bC_of hc ?_;cases ho:gK s with
   | none=>
    rw[ho]at hf;simp only at hf;have top':=(q3.2 H.length (by omega)).trans top
    have t1:AT 2 H4 (.ptr H.length 0) (.agg [Ad,Ad])=some (H4.set H.length (some (.cells [Ad,Ad]))):=by
     rw[AC (n:=2) (xs:=[Ad,Ad]) (cs:=[Ad,Ad]) (by simp[BH,oneA]) top' rfl (by simp)];rfl
    have hl':=q3.1;have t2:(H4.set H.length (some (.cells [Ad,Ad])))[H.length]?=some (some (.cells [Ad,Ad])):=JW (by omega);simp only[An0,zX,zA,z0,t1,AE,Ak t2,rd2'];rw[← hf];exact⟨rfl,by rw[Ae1];omega,λi hi=>by rw[C4 (by omega),q3.2 i (by omega),g1.2 i hi]⟩
   | some x=>
    rw[ho]at hf;simp only[Ai6,zX,zB];cases x with
    | none=>
     obtain⟨vr',tk4⟩:=q2 ho;exact hR lr.length _ _ _ (by simp) ⟨lr,vl2,vo,vr',op,rs++[s],rfl,rfl,rfl,tk4,hf,λz hz=>hb z (by simp[hz]),by omega,by simp;omega⟩
    | some kv=>
     obtain⟨vo',tk4⟩:=q1 kv ho;exact hR lr.length _ _ _ (by simp) ⟨lr,vl2,vo',vr,op++[kv],rs,rfl,rfl,rfl,tk4,hf,λz hz=>hb z (by simp[hz]),by simp;omega,by omega⟩)
theorem qM {H:AH}{v:AV}{l:List (Tx×Tx)}{k:Nat}{x:Tx×Tx}(h:Aa H 2 v=some (l.flatMap DP,l.length))(hx:l[k]?=some x):∃p,Bj 2 v (I (k:Int))=some p∧Au true 2 H p=some (.agg (DP x)):=by
 have hk:=(BD.1 hx).1;obtain⟨p,c,h1,h2,h3,h4⟩:=Kx h (i:=(k:Int)) rfl hk;refine⟨p,h1,?_⟩;rw[Rw h2 (by omega) h4,FV (by omega),Ad9,h3,Dd fJ hx,Ad4 (by simp[DP]),Ac1 (by simp[DP])]
theorem kK:B4 prog 159=true:=by kernel_rfl
theorem iK {ks:List Tx}{v:AV}(hv:SV Cj 1 ks v)(hk:ks.length≤1000000)(x:Tx)(H:AH):BCall prog 160 [v,S (A0 x)] H (B (decide (x∈ks))) H:=by
 obtain⟨r,H',⟨rfl,rfl⟩,hc⟩:=Gn (a0:=v) (a1:=S (A0 x)) (H:=H) (K:=λr H'=>r=B (decide (x∈ks))∧H'=H) (by
  unfold DX
  obtain⟨r,H',⟨⟨i,rfl,hi⟩,rfl⟩,hc⟩:=Hn (a0:=v) (a1:=S (A0 x)) (H:=H) (K:=λr H'=>(∃i:Int,r=I i∧(0≤i↔x∈ks))∧H'=H) (by
   unfold EF;simp only[hv.len,Ab];refine F9 (λn x0 x1 x7 x8 H'=>∃k:Nat,k+n=ks.length∧x0=v∧x1=S (A0 x)∧x7=I ks.length∧x8=I k∧H'=H∧∀m y,m<k→ks[m]?=some y→y≠x) ?_ ks.length ⟨0,by omega,rfl,rfl,rfl,rfl,rfl,by omega⟩;rintro n x0 x1 x7 x8 H' R hR ⟨k,hk2,rfl,rfl,rfl,rfl,rfl,hb⟩;unfold D8;simp only[zO];rcases Ac5 k ks.length with h | h
   ·have hx:=DR h
    generalize ks[k]=y at hx;have q0:∀t,Au false 1 H' (.ip (Cj y++t))=some (S (A0 y)):=λ_=>rfl
    simp only[show(k:Int)<(ks.length:Int) by omega,zE,hv.idx U3 hx rfl,q0,yV,Gs]
    by_cases c:x=y
    ·simp only[c,zE]
     refine⟨⟨k,by trivial,?_⟩,by trivial⟩;rw[← c]at hx⊢;exact⟨λ_=>Ac3 hx,λ_=>by omega⟩
    ·simp only[c,yY,Aw (a:=(k:Int)) (b:=1) (by omega) (by omega),Ab]
     refine hR (n - 1) _ _ _ _ _ (by omega) ⟨k+1,by omega,rfl,rfl,rfl,by simp,rfl,?_⟩;intro m z hm hz
     by_cases c2:m=k
     ·rw[c2,hx]at hz;injection hz with hz;rw[← hz];exact λe=>c e.symm
     ·exact hb m z (by omega) hz
   ·simp only[show ¬(k:Int)<(ks.length:Int) by omega,yY]
    refine⟨⟨-1,by trivial,λh=>by omega,λhm=>?_⟩,by trivial⟩;obtain⟨m,hm⟩:=Ad6.1 hm
    have:=(BD.1 hm).1
    exact absurd rfl (hb m x (by omega) hm))
  refine bC_of hc ?_;simp only[I3,Ab];exact⟨by simp only[hi],by trivial⟩)
 exact hc
theorem nK {ks:List Tx}{v:AV}(hv:SV Cj 1 ks v)(hk:ks.length≤1000000){ko:Nat}{H:AH}(hko:H[ko]?=some (some (.cells [v])))(kv:Tx×Tx):∃r H',(r=B (decide (kv.1∉ks))∧Grew H H')∧BCall prog 159 [.agg (DP kv),.ptr ko 0] H r H':=VB (by
 unfold Ui;have e1:AD H (.agg (DP kv))=some (.ptr H.length 0,H++[some (.cells (DP kv))]):=by simp[DP]
 have g:=Grew.app H [some (AObj.cells (DP kv))];have i0:(DP kv)[0]?=some (S (A0 kv.1)):=rfl;simp only[e1,Az,Ak (g.cells hko),Ah,Aa6,Ab,Am,Ak CI,i0];refine bC_of (iK hv hk kv.1 _) ?_;simp only[Bp,Ab];refine⟨?_,g⟩
 by_cases c:kv.1∈ks<;>simp[c])
theorem rB {op:List (Tx×Tx)}{vo v:AV}{ks:List Tx}{H:AH}(hs:Aa H 2 vo=some (op.flatMap DP,op.length))(hl:op.length≤1000000)(hv:SV Cj 1 ks v)(hk:ks.length≤1000000):
  ∃r H',(r=B (decide (∀kv∈op,kv.1∈ks))∧Grew H H')∧BCall prog 84 [vo,v] H r H':=Yi (by
 unfold Yh;have ov:=SV.oneA hv;have e1:AD H v=some (.ptr H.length 0,H++[some (.cells [v])]):=by simp[AD,AS ov]
 have g:=Grew.app H [some (AObj.cells [v])];have hko:=CI (H:=H) (x:=AObj.cells [v]);have hs1:=g.slice hs;simp only[e1,Az];have l1:(H++[some (AObj.cells [v])]).length=H.length+1:=by simp
 generalize (H++[some (AObj.cells [v])])=H1 at*
 have key:∃r H',(r=B (decide (¬∀kv∈op,kv.1∈ks))∧Grew H1 H')∧BCall prog 158 [vo,.fn (.func 159) [] [.ptr H.length 0]] H1 r H':=EH (by
  unfold CR
  obtain⟨r,H',⟨⟨i,rfl,hi⟩,g2⟩,hc⟩:=Fq (a0:=vo) (a1:=.fn (.func 159) [] [.ptr H.length 0]) (H:=H1) (K:=λr H'=>(∃i:Int,r=I i∧(0≤i↔¬∀kv∈op,kv.1∈ks))∧Grew H1 H') (by
   unfold Dv;simp only[By hs1,Ab];refine E0 (λn x0 x1 x7 x8 H'=>∃k:Nat,k+n=op.length∧x0=vo∧x1=.fn (.func 159) [] [.ptr H.length 0]∧x7=I op.length∧x8=I k∧Grew H1 H'∧∀m y,m<k→op[m]?=some y→y.1∈ks) ?_ op.length ⟨0,by omega,rfl,rfl,rfl,rfl,Grew.refl _,by omega⟩;rintro n x0 x1 x7 x8 H' R hR ⟨k,hk2,rfl,rfl,rfl,rfl,g2,hb⟩;unfold CF;simp only[zO];rcases Ac5 k op.length with h | h
   ·have hx:=DR h
    generalize op[k]=y at hx;obtain⟨p,p1,p2⟩:=qM (g2.slice hs1) hx;simp only[show(k:Int)<(op.length:Int) by omega,zE,p1,p2,Ab,cB,kK,Ab6,zI];obtain⟨r,H3,⟨rfl,g3⟩,hc⟩:=nK hv hk (g2.cells hko) y;refine bC_of hc ?_
    by_cases c:y.1∈ks
    ·simp only[c,not_true_eq_false,yY,yV,Aw (a:=(k:Int)) (b:=1) (by omega) (by omega)]
     refine hR (n - 1) _ _ _ _ _ (by omega) ⟨k+1,by omega,rfl,rfl,rfl,by simp,g2.trans g3,?_⟩;intro m z hm hz
     by_cases c2:m=k
     ·rw[c2,hx]at hz;injection hz with hz;rw[← hz];exact c
     ·exact hb m z (by omega) hz
    ·simp only[c,not_false_eq_true,zE,Af]
     exact⟨⟨k,by trivial,λ_ hm=>c (hm y (Ac3 hx)),λ_=>by omega⟩,g2.trans g3⟩
   ·simp only[show ¬(k:Int)<(op.length:Int) by omega,yY]
    refine⟨⟨-1,by trivial,λh=>by omega,λhm=>absurd (λkv hkv=>?_) hm⟩,g2⟩;obtain⟨m,hm⟩:=Ad6.1 hkv
    have:=(BD.1 hm).1
    exact hb m kv (by omega) hm)
  refine bC_of hc ?_;simp only[I3,Ab];exact⟨by simp only[hi],g2⟩)
 obtain⟨r,H',⟨rfl,g2⟩,hc⟩:=key;refine bC_of hc ?_;simp only[Bp,Ab];refine⟨?_,g.trans g2⟩
 by_cases c:∀kv∈op,kv.1∈ks<;>simp[c])
def xI:Tx:=[115,112,97,114,115,101]
def Ii:Tx:=[97,117,116,111]
def JE:Tx:=[97,108,119,97,121,115]
def P2:Tx:=[110,101,118,101,114]
def Rm (w:Tx):Prop:=w=Ii∨w=JE∨w=P2
instance (w:Tx):Decidable (Rm w):=by unfold Rm;infer_instance
def To:List (Tx×Tx)→Tx→Option Tx
 | [],w=>some w
 | kv::l,_=>if Rm kv.2 then To l kv.2 else none
def X5 (op:List (Tx×Tx)):List Tx→Option (Tx×Tx×Tx)
 | [a,b]=>if a=b then none else if ∀kv∈op,kv.1∈[xI]then(To op Ii).map λw=>(a,b,w)else none
 | _=>none
def Ig (l:List Tx):Option (Tx×Tx×Tx):=match RU l with
 | none=>none
 | some (op,rs)=>X5 op rs
theorem Pu:∀{l:List Tx} {o:List (Tx×Tx)} {r:List Tx} {q:List (Tx×Tx)×List Tx},HZ l o r=some q→q.1.length≤o.length+l.length
 | [],o,r,q,h=>by
  unfold HZ at h;injection h with h;subst h;simp
 | s::l,o,r,q,h=>by
  unfold HZ at h;split at h
  ·injection h with h
   subst h;simp only;omega
  ·split at h
   ·cases h
   ·have:=Pu h
    simp only[Ab7]at this⊢;omega
   ·have:=Pu h
    simp only[Ad7]at this⊢;omega
def Z6 (P:Option (Tx×Tx×Tx))(r:AV):Prop:=match P with
 | none=>r=.tup [S (A0 []),S (A0 []),S (A0 []),B false]
 | some (a,b,w)=>r=.tup [S (A0 a),S (A0 b),S (A0 w),B true]
theorem pD {l:List Tx}{v:AV}{H:AH}(hv:Aa H 1 v=some (l.flatMap Cj,l.length))(hb:∀s∈l,s.length≤1000000)(hl:l.length≤1000000):
  ∃r H',(Z6 (Ig l) r∧Grew H H')∧BCall prog 38 [v] H r H':=Y8 (by
 unfold Y7;obtain⟨r,H1,⟨hr,g1⟩,hc⟩:=nH hv hb (by omega);refine bC_of hc ?_;unfold Ig;have e1:AD H1 (.agg [Ad,Ad])=some (.ptr H1.length 0,H1++[some (.cells [Ad,Ad])]):=rfl;have rd2':∀a b:AV,Ao true 2 [a,b] 0=some (.agg [a,b]):=λ_ _=>rfl
 cases hF:RU l with
 | none=>
  rw[hF]at hr;have hr:r=.tup [.agg [Ad,Ad],B false]:=hr;subst hr
  have t1:AT 2 (H1++[some (AObj.cells [Ad,Ad])]) (.ptr H1.length 0) (.agg [Ad,Ad])=some (H1++[some (AObj.cells [Ad,Ad])]):=by
   rw[AC (n:=2) (xs:=[Ad,Ad]) (cs:=[Ad,Ad]) (by simp[BH,oneA]) CI rfl (by simp)];simp[AR]
  simp only[zL,zX,e1,zM,t1,zA,zP,show((true==false)=false)from rfl,BE,KN,if_true];exact⟨rfl,g1.trans (Grew.app _ _)⟩
 | some q=>
  obtain⟨op,rs⟩:=q;rw[hF]at hr;obtain⟨vo,vr,rfl,so,sr,ooA,owA⟩:=hr
  have lop:op.length≤1000000:=by
   unfold RU at hF;split at hF
   ·cases hF
   ·have:=Pu hF
    simp only[Ai0]at this;omega
  have t1:AT 2 (H1++[some (AObj.cells [Ad,Ad])]) (.ptr H1.length 0) (.agg [vo,vr])=some (H1++[some (AObj.cells [vo,vr])]):=by
   rw[AC (n:=2) (xs:=[vo,vr]) (cs:=[Ad,Ad]) (by simp[ooA,owA]) CI rfl (by simp)];simp[AR]
  have g2:=Grew.app H1 [some (AObj.cells [vo,vr])];have so:=g2.slice so;have sr:=g2.slice sr;have ob:=CI (H:=H1) (x:=AObj.cells [vo,vr]);have g12:=g1.trans g2;simp only[zL,Ab,e1,zM,t1,Bp,Ak6,AK,yS];generalize (H1++[some (AObj.cells [vo,vr])])=H2 at*;have alr:=By sr;have bad:∀H3,Grew H2 H3→(Z6 none (.tup [(.lit (.string ⟨#[]⟩)),(.lit (.string ⟨#[]⟩)),(.lit (.string ⟨#[]⟩)),(B false)]))∧Grew H H3:=λH3 g=>⟨rfl,g12.trans g⟩
  simp only[zJ,Ak ob,alr,BL,Ab4]
  by_cases c2:rs.length=2
  rotate_left
  ·have:X5 op rs=none:=by
    match rs,c2 with
    | [],_=>rfl
    | [_],_=>rfl
    | [_,_],h=>exact absurd rfl h
    | _::_::_::_,_=>rfl
   simp only[show((rs.length:Int)≠2) by omega,yT,Ab8,show((true==false)=false)from rfl,BE,KN,zP,yV,this];exact bad _ (Grew.refl _)
  obtain⟨a,b,rfl⟩:∃a b,rs=[a,b]:=by
   match rs,c2 with
   | [a,b],_=>exact⟨a,b,rfl⟩
  obtain⟨pa,pa1,pa2⟩:=P4 (enc:=Cj) (f:=λt=>S (A0 t)) (λ_=>rfl) sr (k:=0) (x:=a) rfl;obtain⟨pb,pb1,pb2⟩:=P4 (enc:=Cj) (f:=λt=>S (A0 t)) (λ_=>rfl) sr (k:=1) (x:=b) rfl;have pa1:Bj 1 vr (I 0)=some pa:=pa1;have pb1:Bj 1 vr (I 1)=some pb:=pb1;simp only[yU,show((((0:Nat)+1+1:Nat):Int)≠2)=False by simp,C9,yS,zJ,Ak ob,pa1,pa2,pb1,pb2,Gs,Ab4];unfold X5
  by_cases cab:a=b
  ·simp only[cab,Ab8,show((true==false)=false)from rfl,BE,KN,zP,yV]
   exact bad _ (Grew.refl _)
  have eK:Tq 1 1 (Be [(.lit (.string ⟨#[]⟩))] 1) [(0,1,(.lit (.string ⟨#[115,112,97,114,115,101]⟩)))]=some (.imm [S (A0 xI)] 1 1):=rfl;have hK:SV Cj 1 [xI] (.imm [S (A0 xI)] 1 1):=SV.imm U3 (λx _=>rfl);simp only[cab,C9,yS,Ak ob,Ah,yZ,Am,Ah1,Ab,AK,eK,TN,if_false];obtain⟨r,H3,⟨rfl,g3⟩,hc⟩:=rB so lop hK (by simp);refine bC_of hc ?_
  by_cases call:∀kv∈op,kv.1∈[xI]
  rotate_left
  ·simp only[call,C9,zX,zA,As,An]
   exact bad _ g3
  have ob3:=g3.cells ob;have so3:=g3.slice so;simp only[decide_eq_true call,if_pos call,zX,zB,As,An,Ak ob3,Ah,CL,By so3];refine RM (λn x4 x6 x41 x42 x43 H'=>∃(k:Nat) (w:Tx),k+n=op.length∧x4=S (A0 w)∧x6=.ptr H1.length 0∧vo=x41∧x42=I op.length∧x43=I k∧Grew H2 H'∧To (op.drop k) w=To op Ii) ?_ op.length ⟨0,Ii,by omega,rfl,rfl,rfl,rfl,rfl,g3,by simp⟩;rintro n x4 x6 x41 x42 x43 H4 R hR ⟨k,w,hk,rfl,rfl,rfl,rfl,rfl,g4,hw⟩;unfold OD;simp only[zO];rcases Ac5 k op.length with hlt | hge
  ·have hx:=DR hlt
   generalize op[k]=y at hx;obtain⟨p,p1,p2⟩:=qM (g4.slice so) hx;have e5:AD H4 (.agg [(.lit (.string ⟨#[]⟩)),(.lit (.string ⟨#[]⟩))])=some (.ptr H4.length 0,H4++[some (.cells [S (A0 []),S (A0 [])])]):=rfl
   have t5:AT 2 (H4++[some (AObj.cells [S (A0 []),S (A0 [])])]) (.ptr H4.length 0) (.agg (DP y))=some (H4++[some (.cells (DP y))]):=by
    rw[AC (n:=2) (xs:=DP y) (cs:=[S (A0 []),S (A0 [])]) (by simp[DP,BH,oneA]) CI rfl (by simp)];simp[AR,DP]
   have i1:(DP y)[1]?=some (S (A0 y.2)):=rfl;have g5:=Grew.app H4 [some (AObj.cells (DP y))];have hd:op.drop k=y::op.drop (k+1):=D0 hx;rw[hd,show To (y::op.drop (k+1)) w=if Rm y.2 then To (op.drop (k+1)) y.2 else none from rfl]at hw;have q1:(AV.lit (.string ⟨#[97,117,116,111]⟩))=S (A0 Ii):=rfl;have q2:(AV.lit (.string ⟨#[97,108,119,97,121,115]⟩))=S (A0 JE):=rfl;have q3:(AV.lit (.string ⟨#[110,101,118,101,114]⟩))=S (A0 P2):=rfl
   have fin:∀(t:Bool),t=decide (¬Rm y.2)→bB (B t) λt20=>bI t20 ((Z6 ((To op Ii).map λw=>(a,b,w)) (.tup [(.lit (.string ⟨#[]⟩)),(.lit (.string ⟨#[]⟩)),(.lit (.string ⟨#[]⟩)),(B false)]))∧Grew H (H4++[some (AObj.cells (DP y))])) (bO (Ap .add (I (k:Int)) (I 1)) λv21=>R [S (A0 y.2),.ptr H1.length 0,vo,I op.length,v21] (H4++[some (AObj.cells (DP y))])):=by
    rintro t rfl
    by_cases cw:Rm y.2
    ·rw[if_pos cw]at hw
     simp only[cw,not_true_eq_false,yY,yV,Aw (a:=(k:Int)) (b:=1) (by omega) (by omega)];exact hR (n - 1) _ _ _ _ _ _ (by omega) ⟨k+1,y.2,by omega,rfl,rfl,rfl,rfl,by simp,g4.trans g5,hw⟩
    ·rw[if_neg cw]at hw
     simp only[cw,not_false_eq_true,zE,Af];rw[← hw];exact bad _ (g4.trans g5)
   simp only[show(k:Int)<(op.length:Int) by omega,zE,p1,p2,zG,e5,zM,t5,Ak CI,i1,q1,q2,q3,PH,AK]
   by_cases w1:y.2=Ii
   ·simp only[w1,yR,C9,show((false==true)=false)from rfl,BE,Ab,Ab4]
    have:=fin false (by simp[Rm,w1])
    rw[w1]at this;exact this
   ·simp only[w1,yT,yW,yS,Ab,PH,zP]
    by_cases w2:y.2=JE
    ·simp only[w2,not_true_eq_false,C9,show((false==true)=false)from rfl,BE,Ab,Ab4]
     have:=fin false (by simp[Rm,w2])
     rw[w2]at this;exact this
    ·simp only[w2,yT,yW,yS,Ab,PH,zP]
     exact fin (decide (¬y.2=P2)) (by simp[Rm,w1,w2])
  ·have ek:op.drop k=[]:=Ad2 hge
   rw[ek,show To [] w=some w from rfl]at hw;have ob4:=g4.cells ob;obtain⟨pa,pa1,pa2⟩:=P4 (enc:=Cj) (f:=λt=>S (A0 t)) (λ_=>rfl) (g4.slice sr) (k:=0) (x:=a) rfl;obtain⟨pb,pb1,pb2⟩:=P4 (enc:=Cj) (f:=λt=>S (A0 t)) (λ_=>rfl) (g4.slice sr) (k:=1) (x:=b) rfl;have pa1:Bj 1 vr (I 0)=some pa:=pa1;have pb1:Bj 1 vr (I 1)=some pb:=pb1;simp only[show ¬(k:Int)<(op.length:Int) by omega,yY,zJ,Ak ob4,pa1,pa2,pb1,pb2];rw[← hw];exact⟨rfl,g12.trans g4⟩)
structure Bes (o:Nat)(cs:List AV)(os:Nat)(p:AV)(H:AH):Prop where
 at':H[o]?=some (some (.cells cs))
 ne:o≠os
 np:o∉AU p
theorem Bes.step {o:Nat}{cs:List AV}{os:Nat}{p p':AV}{H H':AH}(h:Bes o cs os p H)(f:StF os p p' H H'):Bes o cs os p' H':=by
 have hl:=(BD.1 h.at').1;exact⟨(f.same o hl h.ne h.np).trans h.at',h.ne,λz=>(f.ids o z).elim h.np (λz=>by omega)⟩
theorem Bes.grew {o:Nat}{cs:List AV}{os:Nat}{p:AV}{H H':AH}(h:Bes o cs os p H)(g:Grew H H'):Bes o cs os p H':=⟨g.cells h.at',h.ne,h.np⟩
theorem Bes.new {s:StS}{os:Nat}{p:AV}{H:AH}(h:StAt s os p H)(cs:List AV):Bes H.length cs os p (H++[some (.cells cs)]):=
 ⟨CI,by have:=h.os_lt;omega,λz=>by have:=h.p_lt _ z;omega⟩
theorem Y2 {N:Nat}{s:StS}{os:Nat}{p:AV}{H:AH}(h:StAt s os p H)(hw:SW N s)(hN:N≤900000){ino:Int}(h0:(Ar s ino).2=0):
  ∃r H',((∃R,r=.agg [I (Ar s ino).1.1,R]∧SV Ax 9 (Ar s ino).1.2 R)∧Grew H H')∧BCall prog 85 [.ptr os 0,I ino] H r H':=VD (by
 unfold Ut;have e1:AD H (.agg [(I 0),Ad])=some (.ptr H.length 0,H++[some (.cells [I 0,Ad])]):=rfl;have g1:=Grew.app H [some (AObj.cells [I 0,Ad])];have top:=CI (H:=H) (x:=AObj.cells [I 0,Ad]);have l1:(H++[some (AObj.cells [I 0,Ad])]).length=H.length+1:=by simp
 simp only[e1,Az];generalize (H++[some (AObj.cells [I 0,Ad])])=H1 at*;obtain⟨Rn,hRn,r,H2,⟨rfl,g2⟩,hc⟩:=bK (h.grew g1) hw hN;refine bC_of hc ?_;obtain⟨a,b,dv,rfl,ha,hb,hdv⟩:=hRn;have ob:=SV.oneA hb;have e2:Yf false 1 1 (.agg [a,b])=some b:=rfl;simp only[e2,Ab,hb.len];have top2:=g2.cells top;have lt2:=g2.1
 have hdl:dv.length≤1000000:=by
  have:=hw.now.1.len2
  rw[← hdv,Ae9]at this;omega
 obtain⟨d,hd,hdi,hdc,-⟩:=FT hw h0
 have uniq:∀x∈dv,x.nd.ino=ino→(Ar s ino).1=(x.nd.size,x.nd.l):=λx hx hi=>by
  have h1:x.nd∈s.now.2:=by rw[← hdv];exact Af7 hx
  have e1:=(Xr hw.now.1 h1).1;have e2:=(Xr hw.now.1 hd).1;rw[hi]at e1;rw[hdi,e1]at e2;rw[hdc,e2]
 refine Pm (λn x1 x4 x9 x10 x11 H'=>∃k:Nat,k+n=dv.length∧x1=I ino∧x4=.ptr H.length 0∧b=x9∧x10=I dv.length∧x11=I k∧Grew H2 H'∧∀m y,m<k→dv[m]?=some y→y.nd.ino≠ino) ?_ dv.length ⟨0,by omega,rfl,rfl,rfl,rfl,rfl,Grew.refl _,by omega⟩;rintro n x1 x4 x9 x10 x11 H3 R hR ⟨k,hk,rfl,rfl,rfl,rfl,rfl,g3,hno⟩;unfold LM;simp only[zO];rcases Ac5 k dv.length with hlt | hge
 ·have hx:=DR hlt
  generalize dv[k]=x at hx;have q0:∀t,Au true 3 H3 (.ip (BY x++t))=some (.agg (BY x)):=λ_=>rfl
  have oR:=SV.oneA x.h;have e3:AD H3 (.agg [(I 0),(I 0),Ad])=some (.ptr H3.length 0,H3++[some (.cells [I 0,I 0,Ad])]):=rfl
  have e4:AT 3 (H3++[some (AObj.cells [I 0,I 0,Ad])]) (.ptr H3.length 0) (.agg (BY x))=some (H3++[some (.cells (BY x))]):=by
   rw[AC (n:=3) (xs:=BY x) (cs:=[I 0,I 0,Ad]) (by simp[BY,oR]) CI rfl (by simp)];simp[AR,BY]
  have g4:=Grew.app H3 [some (AObj.cells (BY x))];have i0:(BY x)[0]?=some (I x.nd.ino):=rfl;have i12:Ao true 2 (BY x) 1=some (.agg [I x.nd.size,x.R]):=rfl;have top4:=g4.cells (g3.cells top2);have lt3:=g3.1;simp only[show(k:Int)<(dv.length:Int) by omega,zE,hb.idx D3 hx rfl,zG,q0,e3,zM,e4,Ak CI,i0,i12,CX,Af]
  by_cases c:x.nd.ino=ino
  ·have e5:AT 2 (H3++[some (AObj.cells (BY x))]) (.ptr H.length 0) (.agg [I x.nd.size,x.R])=some ((H3++[some (AObj.cells (BY x))]).set H.length (some (.cells [I x.nd.size,x.R]))):=by
    rw[AC (n:=2) (xs:=[I x.nd.size,x.R]) (cs:=[I 0,Ad]) (by simp[oR]) top4 rfl (by simp)];rfl
   have hlen:H.length<(H3++[some (AObj.cells (BY x))]).length:=by simp;omega
   have t5:((H3++[some (AObj.cells (BY x))]).set H.length (some (.cells [I x.nd.size,x.R])))[H.length]?=some (some (.cells [I x.nd.size,x.R])):=JW hlen;simp only[c,zE,e5,AE,Ak t5,show ∀a b:AV,Ao true 2 [a,b] 0=some (.agg [a,b])from λ_ _=>rfl,Ab];rw[uniq x (Ac3 hx) c];refine⟨⟨x.R,rfl,x.h⟩,by rw[Ae1];simp;omega,λi hi=>?_⟩;rw[C4 (by omega),g4.2 i (by omega),g3.2 i (by omega),g2.2 i (by omega),g1.2 i hi]
  ·simp only[c,yY,Aw (a:=(k:Int)) (b:=1) (by omega) (by omega),Ab]
   refine hR (n - 1) _ _ _ _ _ _ (by omega) ⟨k+1,by omega,rfl,rfl,rfl,rfl,by simp,g3.trans g4,?_⟩;intro m z hm hz
   by_cases c2:m=k
   ·rw[c2,hx]at hz;injection hz with hz;rw[← hz];exact c
   ·exact hno m z (by omega) hz
 ·exfalso
  rw[← hdv]at hd;obtain⟨x,hx,rfl⟩:=Ae6.1 hd;obtain⟨m,hm⟩:=Ad6.1 hx
  have:=(BD.1 hm).1
  exact hno m x (by omega) hm hdi)
theorem VI (l:List Ext)(k:Nat):(l.flatMap Ax).drop (k*9)=(l.drop k).flatMap Ax:=by
 rcases Ac5 k l.length with h | h
 ·have hx:=DR h
  rw[Dd A1 hx,D0 hx,Ae8]
 ·rw[Ad2 h,Ad2 (by rw[JV A1];exact Ad0 _ h)];rfl
theorem VJ (l:List Ext)(k:Nat)(h:k≤l.length):(l.flatMap Ax).take (k*9)=(l.take k).flatMap Ax:=by
 have e:l.flatMap Ax=(l.take k).flatMap Ax++(l.drop k).flatMap Ax:=by rw[← Ag4,Af3]
 have hl:((l.take k).flatMap Ax).length=k*9:=by rw[JV A1,Ac0];congr 1;omega
 rw[e,← hl,List.take_left'];rfl
theorem SV.cutX {l:List Ext}{v:AV}(hv:SV Ax 9 l v){a k:Nat}{lo hi:Option AV}(e1:Bs lo 0=some a)(e2:Bs hi l.length=some k)(h1:a≤k)(h2:k≤l.length):∃r,AX 9 v lo hi none=some r∧SV Ax 9 ((l.drop a).take (k - a)) r:=by
 have key:∀H:AH,∃r,AX 9 v lo hi none=some r∧Aa H 9 r=some (((l.drop a).take (k - a)).flatMap Ax,((l.drop a).take (k - a)).length)∧(noIds v=true→noIds r=true):=by
  intro H;obtain⟨r,s1,s2,-,-,s5⟩:=E3 (hv.2 H) (lo:=lo) (hi:=hi) (l:=a) (k:=k) e1 e2 h1 h2;refine⟨r,s1,?_,s5⟩;have hl:((l.drop a).take (k - a)).length=k - a:=by rw[Ac0,Ac7];omega
  rw[s2,hl,VI,VJ _ _ (by rw[Ac7];omega)]
 obtain⟨r,s1,s2,s5⟩:=key [];refine⟨r,s1,s5 hv.1,λH=>?_⟩;obtain⟨r2,t1,t2,-⟩:=key H;rw[s1]at t1;injection t1 with t1;rw[t1];exact t2
def Bv (size:Int):List Ext→List Ext
 | []=>[]
 | x::l=>if x.no*8<size then x::Bv size l else []
theorem Um {size:Int}:∀{l:List Ext} {k:Nat} {x:Ext},(∀m y,m<k→l[m]?=some y→y.no*8<size)→l[k]?=some x→¬x.no*8<size→Bv size l=l.take k
 | [],k,x,_,h,_=>by simp at h
 | y::l,0,x,_,h,hx=>by
  injection h with h;subst h;unfold Bv;rw[if_neg hx];rfl
 | y::l,k+1,x,h1,h,hx=>by
  unfold Bv;rw[if_pos (h1 0 y (by omega) rfl),Um (λm z hm hz=>h1 (m+1) z (by omega) hz) (show l[k]?=some x from h) hx];rfl
theorem Wg {size:Int}:∀{l:List Ext},(∀y∈l,y.no*8<size)→Bv size l=l
 | [],_=>rfl
 | y::l,h=>by
  unfold Bv;rw[if_pos (h y (by simp)),Wg λz hz=>h z (by simp[hz])]
theorem IL (size:Int):∀(l:List Ext),(Bv size l).length≤l.length
 | []=>Ac2 _
 | y::l=>by
  unfold Bv
  split
  ·have:=IL size l
   simp only[Ad7];omega
  ·simp
theorem Xd {size:Int}{l:List Ext}{v:AV}(hv:SV Ax 9 l v)(hl:l.length≤1000000)(hn:∀x∈l,0≤x.no∧x.no<137438953472)(H:AH):
  ∃r H',(SV Ax 9 (Bv size l) r∧Grew H H')∧BCall prog 86 [.agg [I size,v]] H r H':=Y4 (by
 unfold Y3;have ov:=SV.oneA hv;have e1:AD H (.agg [I size,v])=some (.ptr H.length 0,H++[some (.cells [I size,v])]):=by simp[ov]
 have g1:=Grew.app H [some (AObj.cells [I size,v])];have top:=CI (H:=H) (x:=AObj.cells [I size,v]);simp only[e1,Az,zJ,Ak top,hv.len];generalize (H++[some (AObj.cells [I size,v])])=H1 at*;refine RJ (λn x1 x6 x7 x8 H'=>∃k:Nat,k+n=l.length∧x1=.ptr H.length 0∧v=x6∧x7=I l.length∧x8=I k∧Grew H1 H'∧∀m y,m<k→l[m]?=some y→y.no*8<size) ?_ l.length ⟨0,by omega,rfl,rfl,rfl,rfl,Grew.refl _,by omega⟩;rintro n x1 x6 x7 x8 H3 R hR ⟨k,hk,rfl,rfl,rfl,rfl,g3,hno⟩;unfold O8;have top3:=g3.cells top;simp only[zO];rcases Ac5 k l.length with hlt | hge
 ·have hx:=DR hlt
  generalize l[k]=x at hx;have hxn:=hn x (Ac3 hx)
  have q0:∀t,Au true 9 H3 (.ip (Ax x++t))=some (.agg (Ax x)):=λt=>by
   show Ao true 9 (Ax x++t) 0=_
   rw[FV (by rw[Ac6,A1];omega),Ad9,Ad4 (by rw[A1];omega),Ac1 (by rw[A1];omega)]
  have e3:AD H3 (.agg [(I 0),u0Z,u0Z,u0Z,u0Z,u0Z,u0Z,u0Z,u0Z])=some (.ptr H3.length 0,H3++[some (.cells [I 0,u0Z,u0Z,u0Z,u0Z,u0Z,u0Z,u0Z,u0Z])]):=rfl
  have e4:AT 9 (H3++[some (AObj.cells [I 0,u0Z,u0Z,u0Z,u0Z,u0Z,u0Z,u0Z,u0Z])]) (.ptr H3.length 0) (.agg (Ax x))=some (H3++[some (.cells (Ax x))]):=by
   rw[AC (n:=9) (xs:=Ax x) (cs:=[I 0,u0Z,u0Z,u0Z,u0Z,u0Z,u0Z,u0Z,u0Z]) (by simp) CI (A1 x) (by simp)];rw[Ea _ _ _ (by simp[A1]),Aj8,Ai1,Ad2 (by simp[A1]),Af1];simp
  have g4:=Grew.app H3 [some (AObj.cells (Ax x))];have i0:(Ax x)[0]?=some (I x.no):=rfl;simp only[show(k:Int)<(l.length:Int) by omega,zE,hv.idx A1 hx rfl,zJ,q0,e3,zM,e4,Ak CI,Ak (g4.cells top3),i0,DM (a:=x.no) (b:=8) (by omega) (by omega),I3,Af]
  by_cases c:x.no*8<size
  ·simp only[show ¬size≤x.no*8 by omega,yY,Aw (a:=(k:Int)) (b:=1) (by omega) (by omega),Ab]
   refine hR (n - 1) _ _ _ _ _ (by omega) ⟨k+1,by omega,rfl,rfl,rfl,by simp,g3.trans g4,?_⟩;intro m z hm hz
   by_cases c2:m=k
   ·rw[c2,hx]at hz;injection hz with hz;rw[← hz];exact c
   ·exact hno m z (by omega) hz
  ·obtain⟨w,s1,s2⟩:=hv.cutX (lo:=none) (hi:=some (I (k:Int))) (a:=0) (k:=k) rfl (by simp[Bs]) (by omega) (by omega)
   rw[Ad9,Nat.sub_zero]at s2;simp only[show size≤x.no*8 by omega,zE,s1,Ab];rw[Um hno hx c];exact⟨s2,g1.trans (g3.trans g4)⟩
 ·have:Bv size l=l:=Wg λy hy=>by
   obtain⟨m,hm⟩:=Ad6.1 hy
   have:=(BD.1 hm).1
   exact hno m y (by omega) hm
  simp only[show ¬(k:Int)<(l.length:Int) by omega,yY,zJ,Ak top3];rw[this];exact⟨hv,g1.trans g3⟩)
end
end Go.Proofs.YtbppnhenlboefaaGreat.Av
section
set_option maxHeartbeats 1000000
namespace Go.Proofs.YtbppnhenlboefaaGreat.Av
open Go Go.RowKit Go.Proofs.Tryz
def I2 (b:List UInt8):Prop:=∀c∈b,c=0
instance (b:List UInt8):Decidable (I2 b):=by unfold I2;infer_instance
theorem rA {b:List UInt8}{v:AV}{H:AH}(hv:Aa H 1 v=some (AB b,b.length))(hl:b.length≤1000000):
  ∃i:Int,(i<b.length↔¬I2 b)∧BCall prog 199 [v] H (I i) H:=by
 obtain⟨r,H',⟨⟨i,rfl,hi⟩,rfl⟩,hc⟩:=XA (a0:=v) (H:=H) (K:=λr H'=>(∃i:Int,r=I i∧(i<b.length↔¬I2 b))∧H'=H) (by
  unfold WD;refine QW (λn x0 x3 H'=>∃k:Nat,k+n=b.length∧x0=v∧x3=I k∧H'=H∧∀m y,m<k→b[m]?=some y→y=0) ?_ b.length ⟨0,by omega,rfl,rfl,rfl,by omega⟩;rintro n x0 x3 H' R hR ⟨k,hk,rfl,rfl,rfl,hb⟩;unfold N0;simp only[By hv,Ab,AN,AK];rcases Ac5 k b.length with h | h
  ·have hx:=DR h
   generalize b[k]=y at hx;have hv':Aa H' 1 x0=some (b.flatMap Je,b.length):=by rw[IN];exact hv
   obtain⟨p,p1,p2⟩:=P4 (enc:=Je) (f:=fun t:UInt8=>.lit (.int .u8 t.toNat)) (λ_=>rfl) hv' hx;simp only[show(k:Int)<(b.length:Int) by omega,yW,yS,yV,p1,p2,CX,As]
   by_cases c:y=0
   ·have c':((y.toNat:Int)=0):=by rw[c];rfl
    simp only[c',zE,Aw (a:=(k:Int)) (b:=1) (by omega) (by omega),Ab];refine hR (n - 1) _ _ _ (by omega) ⟨k+1,by omega,rfl,by simp,rfl,?_⟩;intro m z hm hz
    by_cases c2:m=k
    ·rw[c2,hx]at hz;injection hz with hz;rw[← hz];exact c
    ·exact hb m z (by omega) hz
   ·have c':¬((y.toNat:Int)=0):=λe=>c (UInt8.toNat_inj.1 (by rw[show(0:UInt8).toNat=0 from rfl];omega))
    simp only[c',yY];exact⟨⟨k,by trivial,λ_ hz=>c (hz y (Ac3 hx)),λ_=>by omega⟩,by trivial⟩
  ·simp only[show ¬(k:Int)<(b.length:Int) by omega,yY,show((false==true)=false)from rfl,BE,yV,Ab4]
   refine⟨⟨k,by trivial,λh=>by omega,λhm=>absurd (λc hc=>?_) hm⟩,by trivial⟩;obtain⟨m,hm⟩:=Ad6.1 hc
   have:=(BD.1 hm).1
   exact hb m c (by omega) hm)
 exact⟨i,hi,hc⟩
theorem rF {b:List UInt8}{v w:AV}{H:AH}(hw:Aa H 1 w=some ([v],1))(hv:Aa H 1 v=some (AB b,b.length))(hl:b.length≤1000000):BCall prog 162 [w] H (B (decide (I2 b))) H:=by
 obtain⟨r,H',⟨rfl,rfl⟩,hc⟩:=XB (a0:=w) (H:=H) (K:=λr H'=>r=B (decide (I2 b))∧H'=H) (by
  unfold WE;simp only[By hw,Ab];refine QZ (λn x5 x6 x7 H'=>x5=w∧x6=I 1∧H'=H∧((n=1∧x7=I 0)∨(n=0∧x7=I 1∧I2 b))) ?_ 1 ⟨rfl,rfl,rfl,.inl ⟨rfl,rfl⟩⟩;rintro n x5 x6 x7 H' R hR ⟨rfl,rfl,rfl,⟨rfl,rfl⟩ | ⟨rfl,rfl,hz⟩⟩
  ·unfold Ju
   obtain⟨p,c,h1,h2,h3,h4⟩:=Kx hw (i:=0) (k:=0) rfl (by omega)
   have p2:Au false 1 H' p=some v:=by
    rw[Rw h2 (by omega) h4,Ah]
    have:=congrArg (λl=>l[0]?) h3
    simpa[Ac9]using this
   have h1:Bj 1 x5 (I 0)=some p:=h1;obtain⟨i,hi,hc⟩:=rA hv hl;simp only[zO,show decide ((0:Int)<1)=true from rfl,Al,h1,p2];refine bC_of hc ?_;simp only[By hv,zO]
   by_cases c:I2 b
   ·simp only[show ¬i<(b.length:Int)from λh=>hi.1 h c,yY,show Ap .add (I 0) (I 1)=some (I 1)from rfl,Ab]
    exact hR 0 _ _ _ _ (by omega) ⟨rfl,rfl,rfl,.inr ⟨rfl,rfl,c⟩⟩
   ·simp only[hi.2 c,zE,c,C9]
    exact⟨by trivial,by trivial⟩
  ·unfold Ju
   simp only[zO,Aa5,hz,CA];exact⟨by trivial,by trivial⟩)
 exact hc
def XN (to size:Int)(s:StS)(no:Int)(b:List UInt8):Int×StS:=
 ((BI s to (no*8) (b.take (min 8 (size - no*8)).toNat)).1.2,(BI s to (no*8) (b.take (min 8 (size - no*8)).toNat)).2)
theorem WJ {N:Nat}{s:StS}(h:SW N s)(to size no:Int){b:List UInt8}(hb:b.length=8):SW (N+72) (XN to size s no b).2:=by
 unfold XN
 have:=Ro h to (no*8) (b.take (min 8 (size - no*8)).toNat)
 refine this.mono ?_;rw[Ac0];omega
theorem Wk {N:Nat}{s:StS}{os co:Nat}{p v vl:AV}{fr to size no:Int}{b:List UInt8}{H:AH}(h:StAt s os p H)(hw:SW N s)(cb:Bes co [.ptr os 0,I fr,I to,I size,vl] os p H)(hN:N+72<900000)
  (hv:Aa H 1 v=some (AB b,8)) (hb:b.length=8) (hi:∀j∈AU v,j≠os∧j∉AU p) (h0:0≤no) (h1:no*8<size) (h2:size≤1099511627776):
  ∃r H',(r=I (XN to size s no b).1∧∃p',StAt (XN to size s no b).2 os p' H'∧StF os p p' H H')∧BCall prog 161 [.ptr co 0,I no,v] H r H':=Po (by
 unfold LO;have e1:amm VP [(I 8),I (size - no*8)]=some (I (min 8 (size - no*8))):=by rw[NE,ZW,Int.min_comm]
 obtain⟨m,hm⟩:∃m:Nat,min 8 (size - no*8)=m:=⟨(min 8 (size - no*8)).toNat,by omega⟩;obtain⟨w,s1,s2,s3,-,-⟩:=E3 hv (lo:=none) (hi:=some (I (m:Int))) (l:=0) (k:=m) rfl (by simp[Bs]) (by omega) (by omega);have hl:(b.take m).length=m:=by rw[Ac0];omega
 have s2:Aa H 1 w=some (AB (b.take m),(b.take m).length):=by
  rw[s2,hl];simp only[Al7,zW,Ah5,IM]
 obtain⟨r,H1,⟨rfl,p',h',f'⟩,hc⟩:=WO h hw to (no*8) (b:=b.take m) (by omega) s2 (λj hj=>hi j (s3 j hj));simp only[zZ,Nat.reduceAdd,Ak cb.at',DM (a:=no) (b:=8) (by omega) (by omega),BM (a:=size) (b:=no*8) (by omega) (by omega),e1,hm,s1];refine bC_of hc ?_;simp only[zL,Ab];unfold XN;rw[hm,Ah3];exact⟨by trivial,p',h',f'⟩)
theorem oC (H:AH)(x:Ext):AD H (.agg [(I 0),u0Z,u0Z,u0Z,u0Z,u0Z,u0Z,u0Z,u0Z])=some (.ptr H.length 0,H++[some (.cells [I 0,u0Z,u0Z,u0Z,u0Z,u0Z,u0Z,u0Z,u0Z])])∧
  AT 9 (H++[some (AObj.cells [I 0,u0Z,u0Z,u0Z,u0Z,u0Z,u0Z,u0Z,u0Z])]) (.ptr H.length 0) (.agg (Ax x))=some (H++[some (.cells (Ax x))]):=by
 refine⟨rfl,?_⟩;rw[AC (n:=9) (xs:=Ax x) (cs:=[I 0,u0Z,u0Z,u0Z,u0Z,u0Z,u0Z,u0Z,u0Z]) (by simp) CI (A1 x) (by simp)];rw[Ea _ _ _ (by simp[A1]),Aj8,Ai1,Ad2 (by simp[A1]),Af1];simp
theorem rdE (H:AH)(x:Ext)(t:List AV):Au true 9 H (.ip (Ax x++t))=some (.agg (Ax x)):=by
 show Ao true 9 (Ax x++t) 0=_
 rw[FV (by rw[Ac6,A1];omega),Ad9,Ad4 (by rw[A1];omega),Ac1 (by rw[A1];omega)]
theorem jL {H:AH}{o:Nat}{x:Ext}(h:H[o]?=some (some (.cells (Ax x)))):Lx 8 1 H (.ptr o 1) none none=some (.sl o 1 8 1 (.ex 8))∧Aa H 1 (.sl o 1 8 1 (.ex 8))=some (AB x.b,8):=by
 constructor
 ·simp[Lx,Bs,h,A1]
 ·rw[A9 h (by rw[A1];omega)]
  have:((Ax x).drop 1).take (8*1)=AB x.b:=by
   show(AB x.b).take 8=AB x.b
   rw[Ac1 (by rw[B3,x.hb];omega)]
  rw[this]
def Ib (to size:Int):List Ext→StS→Int×StS
 | [],s=>(0,s)
 | x::l,s=>if I2 x.b then Ib to size l s else if(XN to size s x.no x.b).1≠0 then XN to size s x.no x.b else Ib to size l (XN to size s x.no x.b).2
theorem oQ {N:Nat}{s:StS}{os co:Nat}{p vl:AV}{fr to size:Int}{l:List Ext}{H:AH}(h:StAt s os p H)(hw:SW N s)(cb:Bes co [.ptr os 0,I fr,I to,I size,vl] os p H)(hv:SV Ax 9 l vl)(hl:l.length≤1000000)(hn:∀x∈l,0≤x.no∧x.no<137438953472)(h2:size≤1099511627776)
  (hN:N+72*(Bv size l).length<900000):∃r H',(r=I (Ib to size (Bv size l) s).1∧∃p',StAt (Ib to size (Bv size l) s).2 os p' H'∧StF os p p' H H')∧BCall prog 90 [.ptr co 0] H r H':=Pn (by
 unfold LN;have i3:Ao true 2 [(AV.ptr os 0),I fr,I to,I size,vl] 3=some (.agg [I size,vl]):=rfl;simp only[Ay,zC,Ak cb.at',i3];obtain⟨w,H1,⟨hw1,g1⟩,hc⟩:=Xd (size:=size) hv hl hn H;refine bC_of hc ?_
 have bl:∀x∈Bv size l,0≤x.no∧x.no*8<size:=by
  clear hN hv hw1 hc hl
  induction l with
  | nil=>intro x hx;simp[Bv]at hx
  | cons y l ih=>
   intro x hx;unfold Bv at hx;split at hx
   ·rename_i hy
    rcases Ad5.1 hx with rfl | hx
    ·exact⟨(hn x (by simp)).1,hy⟩
    ·exact ih (λz hz=>hn z (by simp[hz])) x hx
   ·simp at hx
 have hbl:=IL size l;generalize Bv size l=L at*;simp only[hw1.len,Ab];generalize hRES:Ib to size L s=RES;refine KA (λn x0 x10 x11 x12 H'=>∃(k:Nat) (s':StS) (p':AV),k+n=L.length∧x0=.ptr co 0∧w=x10∧x11=I L.length∧x12=I k∧StAt s' os p' H'∧StF os p p' H H'∧SW (N+72*k) s'∧Bes co [.ptr os 0,I fr,I to,I size,vl] os p' H'∧Ib to size (L.drop k) s'=RES) ?_ L.length
  ⟨0,s,p,by omega,rfl,rfl,rfl,rfl,h.grew g1,(StF.refl os p H).grew g1,hw,cb.grew g1,by simpa using hRES⟩
 rintro n x0 x10 x11 x12 H3 R hR ⟨k,s',p',hk,rfl,rfl,rfl,rfl,h3,f3,w3,cb3,hres⟩;unfold Hz;simp only[zO];rcases Ac5 k L.length with hlt | hge
 ·have hx:=DR hlt
  generalize L[k]=x at hx;obtain⟨b1,b2⟩:=bl x (Ac3 hx);obtain⟨n1,n2⟩:=oC H3 x;have g4:=Grew.app H3 [some (AObj.cells (Ax x))];have bx:=Bes.new h3 (Ax x);rw[D0 hx]at hres;unfold Ib at hres;have l4:(H3++[some (AObj.cells (Ax x))]).length=H3.length+1:=by simp
  have h4:=h3.grew g4;have cb4:=cb3.grew g4;simp only[show(k:Int)<(L.length:Int) by omega,zE,hw1.idx A1 hx rfl,zC,rdE,n1,zM,n2];generalize (H3++[some (AObj.cells (Ax x))])=H4 at*;generalize H3.length=xo at*;obtain⟨s1,s2⟩:=jL bx.at';have e5:Cr H4 1 1 (Be [Ad] 1) [(0,1,.sl xo 1 8 1 (.ex 8))]=some (.sl H4.length 0 1 1 (.ex 1),H4++[some (.cells [.sl xo 1 8 1 (.ex 8)])]):=rfl;have g5:=Grew.app H4 [some (AObj.cells [AV.sl xo 1 8 1 (.ex 8)])]
  have z1:Aa (H4++[some (AObj.cells [AV.sl xo 1 8 1 (.ex 8)])]) 1 (.sl H4.length 0 1 1 (.ex 1))=some ([AV.sl xo 1 8 1 (.ex 8)],1):=by
   rw[A9 CI (by simp)];rfl
  have z2:=g5.slice s2;simp only[s1,Ab,e5,Az];refine bC_of (rF z1 (b:=x.b) (by rw[x.hb];exact z2) (by rw[x.hb];omega)) ?_;have h5:=h4.grew g5;have cb5:=cb4.grew g5;have bx5:=bx.grew g5;have f5:=(f3.grew g4).grew g5;have q1:Ap .add (I (k:Int)) (I 1)=some (I ((k+1:Nat):Int)):=by rw[Aw (by omega) (by omega)];congr 3
  simp only[Af]
  by_cases c:I2 x.b
  ·rw[if_pos c]at hres
   simp only[c,zE];rw[GN];unfold EO;simp only[q1,Ab];exact hR (n - 1) _ _ _ _ _ (by omega) ⟨k+1,s',p',by omega,rfl,rfl,rfl,rfl,h5,f5,w3.mono (by omega),cb5,hres⟩
  ·rw[if_neg c]at hres
   obtain⟨s3,s4⟩:=jL bx5.at';have i0:(Ax x)[0]?=some (I x.no):=rfl;simp only[c,yY,Ak bx5.at',Ah,i0,Ab,s3]
   obtain⟨r,H6,⟨rfl,p6,h6,f6⟩,hc⟩:=Wk (no:=x.no) h5 w3 cb5 (by omega) s4 x.hb (by
    intro j hj;simp only[AU,Ag2]at hj;subst hj;exact⟨bx5.ne,bx5.np⟩) b1 b2 h2
   refine bC_of hc ?_;simp only[Ab3]
   by_cases c2:(XN to size s' x.no x.b).1=0
   ·rw[if_neg (λz=>z c2)]at hres
    simp only[c2,yR,yY];rw[GN];unfold EO;simp only[q1,Ab];exact hR (n - 1) _ _ _ _ _ (by omega) ⟨k+1,_,p6,by omega,rfl,rfl,rfl,rfl,h6,f5.trans f6,(WJ w3 to size x.no x.hb).mono (by omega),cb5.step f6,hres⟩
   ·rw[if_pos c2]at hres
    simp only[c2,yT,zE];rw[← hres];exact⟨by trivial,p6,h6,f5.trans f6⟩
 ·have ek:L.drop k=[]:=Ad2 hge
  rw[ek]at hres;simp only[show ¬(k:Int)<(L.length:Int) by omega,yY];rw[← hres];exact⟨by trivial,p',h3,f3⟩)
end Go.Proofs.YtbppnhenlboefaaGreat.Av
end
section
set_option maxHeartbeats 1000000
namespace Go.Proofs.YtbppnhenlboefaaGreat.Av
open Go Go.RowKit Go.Proofs.Tryz
def z8:List UInt8:=[0,0,0,0,0,0,0,0]
def GP (no:Int):List Ext→List UInt8×List Ext
 | []=>(z8,[])
 | x::l=>if x.no=no then(x.b,l)else(z8,x::l)
def PL (to size:Int):Nat→Int→List Ext→StS→Int×StS
 | 0,_,_,s=>(0,s)
 | n+1,no,l,s=>if(XN to size s no (GP no l).1).1≠0 then XN to size s no (GP no l).1 else PL to size n (no+1) (GP no l).2 (XN to size s no (GP no l).1).2
def Cx (size:Int):Int:=(size+7)/8
theorem IQ (no:Int)(l:List Ext):(GP no l).1.length=8:=by
 unfold GP
 split
 ·rfl
 ·split
  ·rename_i x l h;exact x.hb
  ·rfl
theorem cI {size:Int}(h0:0≤size)(h2:size≤1099511627776):BPure prog 87 [I size] (I (Cx size)):=BPure.flat λH=>Y6 (by
 unfold Y5;simp only[Aw (a:=size) (b:=8) (by omega) (by omega),BM (a:=size+8) (b:=1) (by omega) (by omega),I4 (a:=size+8 - 1) (b:=8) (by omega) (by omega) (by omega),Ab];unfold Cx;exact⟨by rw[show size+8 - 1=size+7 by omega],by trivial⟩)
theorem yQ (H:AH)(x:Ext)(t:List AV):Au true 8 H (.ip ((Ax x++t).drop 1))=some (.agg (AB x.b)):=by
 show Ao true 8 (AB x.b++t) 0=_
 have hl:(AB x.b).length=8:=by rw[B3,x.hb]
 rw[FV (by rw[Ac6,hl];omega),Ad9,Ad4 (by omega),Ac1 (by omega)]
theorem tI {H:AH}{o:Nat}{b:List UInt8}(hb:b.length=8)(h:H[o]?=some (some (.cells (AB b)))):Lx 8 1 H (.ptr o 0) none none=some (.sl o 0 8 1 (.ex 8))∧Aa H 1 (.sl o 0 8 1 (.ex 8))=some (AB b,8):=by
 have hl:(AB b).length=8:=by rw[B3,hb]
 constructor
 ·simp[Lx,Bs,h,hl]
 ·rw[A9 h (by omega),Ad9,Ac1 (by omega)]
theorem vB {N:Nat}{s:StS}{os co:Nat}{p vl:AV}{fr to size:Int}{l:List Ext}{H:AH}(h:StAt s os p H)(hw:SW N s)(cb:Bes co [.ptr os 0,I fr,I to,I size,vl] os p H)(hv:SV Ax 9 l vl)(hl:l.length≤1000000)(hn:∀x∈l,0≤x.no∧x.no<137438953472)(h0:0≤size)(h2:size≤32768)
  (hN:N+72*(Cx size).toNat<900000):∃r H',(r=I (PL to size (Cx size).toNat 0 (Bv size l) s).1∧∃p',StAt (PL to size (Cx size).toNat 0 (Bv size l) s).2 os p' H'∧StF os p p' H H')∧BCall prog 89 [.ptr co 0] H r H':=RK (by
 unfold OB;have i3:Ao true 2 [(AV.ptr os 0),I fr,I to,I size,vl] 3=some (.agg [I size,vl]):=rfl;simp only[Ay,zC,Ak cb.at',i3];obtain⟨w,H1,⟨hw1,g1⟩,hc⟩:=Xd (size:=size) hv hl hn H;refine bC_of hc ?_;have hbl:=IL size l;generalize Bv size l=L at*;have cb1:=cb.grew g1;simp only[zZ,Nat.reduceAdd,Ak cb1.at'];refine A4 (cI h0 (by omega)) ?_
 have hcnt:Cx size=((Cx size).toNat:Int)∧∀k:Nat,k<(Cx size).toNat→(k:Int)*8<size:=by
  unfold Cx;exact⟨by omega,λk hk=>by omega⟩
 obtain⟨hc1,hc2⟩:=hcnt;have hc3:(Cx size).toNat≤4096:=by unfold Cx;omega
 rw[hc1];simp only[Ah3]at hN⊢;generalize (Cx size).toNat=C at*;generalize hRES:PL to size C 0 L s=RES;refine Mn (λn x0 x3 x17 x18 H'=>∃(k:Nat) (s':StS) (p':AV) (l':List Ext),k+n=C∧x0=.ptr co 0∧SV Ax 9 l' x3∧l'.length≤1000000∧x17=I C∧x18=I k∧StAt s' os p' H'∧StF os p p' H H'∧SW (N+72*k) s'∧Bes co [.ptr os 0,I fr,I to,I size,vl] os p' H'∧PL to size n k l' s'=RES) ?_ C
  ⟨0,s,p,L,by omega,rfl,hw1,by omega,rfl,rfl,h.grew g1,(StF.refl os p H).grew g1,hw,cb1,hRES⟩
 rintro n x0 x3 x17 x18 H3 R hR ⟨k,s',p',l',hk,rfl,hv',hl',rfl,rfl,h3,f3,w3,cb3,hres⟩;unfold Jb;simp only[zO];rcases Ac5 k C with hlt | hge
 ·obtain⟨m,rfl⟩:∃m,n=m+1:=⟨n - 1,by omega⟩
  unfold PL at hres;have e1:AD H3 (.agg [u0Z,u0Z,u0Z,u0Z,u0Z,u0Z,u0Z,u0Z])=some (.ptr H3.length 0,H3++[some (.cells (AB z8))]):=rfl;have q1:Ap .add (I (k:Int)) (I 1)=some (I ((k+1:Nat):Int)):=by rw[Aw (by omega) (by omega)];congr 3
  -- what is done with the bytes
  have go:∀(b:List UInt8) (l2:List Ext) (x3':AV),b=(GP k l').1→l2=(GP k l').2→SV Ax 9 l2 x3'→l2.length≤1000000→E9 R (.ptr co 0) x3' (I (k:Int)) (.ptr H3.length 0) (I (C:Int)) (I (k:Int)) (H3++[some (.cells (AB b))]) (λr H'=>r=I RES.1∧∃p',StAt RES.2 os p' H'∧StF os p p' H H'):=by
   intro b l2 x3' hb hl2 hv2 hlen2;have hb8:b.length=8:=by rw[hb];exact IQ _ _
   rw[← hb,← hl2]at hres;have g4:=Grew.app H3 [some (AObj.cells (AB b))];have bx:=Bes.new h3 (AB b);obtain⟨s1,s2⟩:=tI hb8 bx.at';rw[MF];unfold Ij;simp only[s1,Ab]
   obtain⟨r,H6,⟨rfl,p6,h6,f6⟩,hc⟩:=Wk (no:=(k:Int)) (h3.grew g4) w3 (cb3.grew g4) (by omega) s2 hb8 (by
    intro j hj;simp only[AU,Ag2]at hj;subst hj;exact⟨bx.ne,bx.np⟩) (by omega) (hc2 k hlt) (by omega)
   refine bC_of hc ?_;rw[MG];unfold Ik;simp only[BL,Ab];rw[MH];unfold Il;simp only[Af]
   by_cases c2:(XN to size s' k b).1=0
   ·rw[if_neg (λz=>z c2)]at hres
    simp only[c2,yR,yY];rw[Og];unfold Ja;simp only[q1,Ab];exact hR m _ _ _ _ _ (by omega) ⟨k+1,_,p6,l2,by omega,rfl,hv2,hlen2,rfl,rfl,h6,(f3.grew g4).trans f6,(WJ w3 to size k hb8).mono (by omega),(cb3.grew g4).step f6,hres⟩
   ·rw[if_pos c2]at hres
    simp only[c2,yT,zE];rw[← hres];exact⟨by trivial,p6,h6,(f3.grew g4).trans f6⟩
  simp only[show(k:Int)<(C:Int) by omega,zE,e1,Az,hv'.len,Ab,Hp,AK];cases l' with
  | nil=>
   simp only[Ai0,Int.ofNat_zero,Int.cast_ofNat_Int,Aa5,show((false==true)=false)from rfl,BE,yV,Ab4];exact go z8 [] x3 rfl rfl hv' (by simp)
  | cons x l'=>
   have ix:=hv'.idx (i:=0) A1 (k:=0) (x:=x) rfl rfl;have i0:∀t,Au false 1 (H3++[some (.cells (AB z8))]) (.ip (Ax x++t))=some (I x.no):=λ_=>rfl
   have sh0:∀t,Ac 0 (.ip (Ax x++t))=some (.ip (Ax x++t)):=λ_=>rfl
   have sh1:∀t,Ac 1 (.ip (Ax x++t))=some (.ip ((Ax x++t).drop 1)):=λ_=>rfl
   simp only[Ad7,show(0:Int)<((l'.length+1:Nat):Int) by omega,yW,yS,yV,ix,sh0,i0,CX,As];simp only[Ad7]at hl'
   by_cases c:x.no=(k:Int)
   ·obtain⟨w2,t1,t2⟩:=hv'.cutX (lo:=some (I 1)) (hi:=none) (a:=1) (k:=l'.length+1) (by simp[Bs]) rfl (by omega) (by simp)
    have t2:SV Ax 9 l' w2:=by
     rw[Am2,Ad9,Nat.add_sub_cancel,Aj1]at t2;exact t2
    have e4:AT 8 (H3++[some (AObj.cells (AB z8))]) (.ptr H3.length 0) (.agg (AB x.b))=some (H3++[some (.cells (AB x.b))]):=by
     have hl8:(AB x.b).length=8:=by rw[B3,x.hb]
     rw[AC (n:=8) (xs:=AB x.b) (cs:=AB z8) (by simp[YC]) CI hl8 (by simp[B3,z8])];rw[Ea _ _ _ (by simp[B3,z8,x.hb]),Aj8,Ai1,Ad2 (by simp[B3,z8,x.hb]),Af1];simp
    simp only[c,zE,sh1,yQ,Ab,t1,e4,AE,true_and];have pk:GP (k:Int) (x::l')=(x.b,l'):=if_pos c;exact go x.b l' w2 (by rw[pk]) (by rw[pk]) t2 (by omega)
   ·simp only[c,yY]
    have pk:GP (k:Int) (x::l')=(z8,x::l'):=if_neg c;exact go z8 (x::l') x3 (by rw[pk]) (by rw[pk]) hv' (by simp;omega)
 ·have en:n=0:=by omega
  subst en;unfold PL at hres;simp only[show ¬(k:Int)<(C:Int) by omega,yY];rw[← hres];exact⟨by trivial,p',h3,f3⟩)
end Go.Proofs.YtbppnhenlboefaaGreat.Av
end
section
set_option maxHeartbeats 1000000
namespace Go.Proofs.YtbppnhenlboefaaGreat.Av
open Go Go.RowKit Go.Proofs.Tryz
def Ci (s:StS)(nm:List UInt8):Int×Int×StS:=
 if(AZ s nm true).1.2≠0 then((AZ s nm true).1.2,0,(AZ s nm true).2)else((DD (AZ s nm true).2 (AZ s nm true).1.1 0).1,(AZ s nm true).1.1,(DD (AZ s nm true).2 (AZ s nm true).1.1 0).2)
theorem Wj {N:Nat}{s:StS}(h:SW N s)(nm:List UInt8):SW (N+2) (Ci s nm).2.2:=by
 have w1:=QQ h nm true;unfold Ci
 split
 ·exact w1.mono (by omega)
 ·exact N8 w1 _ _
theorem jV {N:Nat}{s:StS}{os co:Nat}{p0 p vl:AV}{fr to size:Int}{H0 H:AH}{nm:List UInt8}(h:StAt s os p H)(hw:SW N s)(hN:N+2<900000)(hnm:nm.length≤9223372036854775807)(f0:StF os p0 p H0 H)(hco:H0.length≤co)(cb:Bes co [.ptr os 0,I fr,I to,I size,vl] os p H)(ovl:oneA vl=true):
  ∃r H',(r=I (Ci s nm).1∧∃p',StAt (Ci s nm).2.2 os p' H'∧StF os p0 p' H0 H'∧((Ci s nm).1=0→Bes co [.ptr os 0,I fr,I (Ci s nm).2.1,I size,vl] os p' H'))∧BCall prog 88 [.ptr co 0,S (A0 nm)] H r H':=Qh (by
 unfold MI;simp only[zZ,Ak cb.at'];obtain⟨r,H1,⟨rfl,p1,h1,f1⟩,hc⟩:=WM h hw (by omega) hnm true;have w1:=QQ hw nm true;refine bC_of hc ?_;unfold Ci;have cb1:=cb.step f1;generalize AZ s nm true=O at*;simp only[zL,Ab3]
 by_cases c1:O.1.2=0
 rotate_left
 ·simp only[c1,yT,Ab8]
  exact⟨by trivial,p1,h1,f0.trans f1,λz=>z.elim⟩
 have hlt:=(BD.1 cb1.at').1
 have e2:AT 1 H1 (.ptr co 2) (I O.1.1)=some (H1.set co (some (.cells [.ptr os 0,I fr,I O.1.1,I size,vl]))):=by
  rw[AC (n:=1) (xs:=[I O.1.1]) (cs:=[.ptr os 0,I fr,I to,I size,vl]) rfl cb1.at' rfl (by simp)];rfl
 have ne2:∀i,i≠co→(H1.set co (some (.cells [.ptr os 0,I fr,I O.1.1,I size,vl])))[i]?=H1[i]?:=λi hi=>C4 (Af4 hi)
 have h2:StAt O.2 os p1 (H1.set co (some (.cells [.ptr os 0,I fr,I O.1.1,I size,vl]))):=by
  obtain⟨a,b,c,d,pv,q⟩:=h1;exact⟨a,b,c,d,pv,(ne2 os (Af4 cb1.ne)).trans q.obj,q.now,q.kept,q.pm,Ae q.ps λi hi=>ne2 i (λe=>cb1.np (e▸hi)),q.po,q.pi,q.pc⟩
 have cb2:Bes co [.ptr os 0,I fr,I O.1.1,I size,vl] os p1 (H1.set co (some (.cells [.ptr os 0,I fr,I O.1.1,I size,vl]))):=⟨JW hlt,cb1.ne,cb1.np⟩
 have f2:StF os p0 p1 H0 (H1.set co (some (.cells [.ptr os 0,I fr,I O.1.1,I size,vl]))):=by
  have f:=f0.trans f1;exact⟨by rw[Ae1];exact f.len,λj a b c=>by rw[ne2 j (by omega)];exact f.same j a b c,f.ids⟩
 simp only[c1,zF,yY,Ay,zG,e2,AE,Ak cb2.at',CL];obtain⟨r,H3,⟨rfl,p3,h3,f3⟩,hc⟩:=TK h2 w1 (by omega) O.1.1 0;refine bC_of hc ?_;exact⟨by trivial,p3,h3,f2.trans f3,λ_=>cb2.step f3⟩)
def EQ (way:Tx)(c:Gr):Prop:=way=JE∨(way=Ii∧((Bv c.1 c.2).length:Int)<Cx c.1)
instance (way:Tx) (c:Gr):Decidable (EQ way c):=by unfold EQ;infer_instance
def ME (hl:Bool)(to:Int)(c:Gr)(s:StS):Int×StS:=
 if hl=true then Ib to c.1 (Bv c.1 c.2) s else PL to c.1 (Cx c.1).toNat 0 (Bv c.1 c.2) s
def Ny (hl:Bool)(s:StS)(nm:Tx)(c:Gr):Int×StS:=
 if hl=false∧32768<c.1 then(4,s)
 else if(Ci s nm).1≠0 then((Ci s nm).1,(Ci s nm).2.2)
 else if(ME hl (Ci s nm).2.1 c (Ci s nm).2.2).1≠0 then ME hl (Ci s nm).2.1 c (Ci s nm).2.2
 else DD (ME hl (Ci s nm).2.1 c (Ci s nm).2.2).2 (Ci s nm).2.1 c.1
def HY (s:StS)(fr:Int)(nm way:Tx):Int×StS:=
 if(Ar s fr).2≠0 then((Ar s fr).2,s)else Ny (decide (EQ way (Ar s fr).1)) s nm (Ar s fr).1
theorem Qw {to size:Int}:∀{l:List Ext} {N:Nat} {s:StS},SW N s→SW (N+72*l.length) (Ib to size l s).2
 | [],N,s,h=>h
 | x::l,N,s,h=>by
  unfold Ib;simp only[Ad7]
  split
  ·exact(Qw (l:=l) h).mono (by omega)
  ·split
   ·exact(WJ h to size x.no x.hb).mono (by omega)
   ·exact(Qw (l:=l) (WJ h to size x.no x.hb)).mono (by omega)
theorem ZC {to size:Int}:∀{n:Nat} {no:Int} {l:List Ext} {N:Nat} {s:StS},SW N s→SW (N+72*n) (PL to size n no l s).2
 | 0,no,l,N,s,h=>h
 | n+1,no,l,N,s,h=>by
  unfold PL
  split
  ·exact(WJ h to size no (IQ no l)).mono (by omega)
  ·exact(ZC (n:=n) (WJ h to size no (IQ no l))).mono (by omega)
theorem fQ:B4 prog 90=true:=by kernel_rfl
theorem oO:B4 prog 89=true:=by kernel_rfl
def dO (a0 a1 v59:AV)(H40:AH)(K:AV→AH→Prop):Prop:=
 bO (Fb .not v59) λv60=>bG v60 true λw61=>gO w61 (some a0) λv62=>bG v60 true λw63=>gO w63 (Ai v62) λv64=>bG v60 true λw65=>gO w65 (Ac 3 v64) λv66=>bG v60 true λw67=>gO w67 (Ac 0 v66) λv68=>bG v60 true λw69=>gO w69 (Au false 1 H40 v68) λv70=>bG v60 true λw71=>gO w71 (Ap .gtr v70 (I 32768)) λv72=>
  bO (A8 v60 v72 (B false)) λv73=>bB v73 λt74=>bI t74 (K (I 4) H40)
   (bC (BCall prog 88 [a0,a1] H40) λv75 H76=>bO (Ap .neq v75 (I 0)) λv77=>bB v77 λt78=>bI t78 (K v75 H76)
    (bB v59 λt79=>bI t79 (D2 a0 (.fn (.func 90) [a0] []) H76 K) (D2 a0 (.fn (.func 89) [a0] []) H76 K)))
theorem Sv {N Bd:Nat}{s:StS}{os co:Nat}{p0 p R:AV}{fr to:Int}{c:Gr}{H0 H:AH}{nm:Tx}(hl:Bool)(h:StAt s os p H)(hw:SW N s)(hB:c.2.length≤Bd)(hB2:4096≤Bd)(hN:N+10+72*Bd<900000)(hnm:nm.length≤9223372036854775807)(f0:StF os p0 p H0 H)(hco:H0.length≤co)(cb:Bes co [.ptr os 0,I fr,I to,I c.1,R] os p H)(hR:SV Ax 9 c.2 R)(hm:Cs c.1 c.2):
  dO (.ptr co 0) (S (A0 nm)) (B hl) H λr H'=>r=I (Ny hl s nm c).1∧∃p',StAt (Ny hl s nm c).2 os p' H'∧StF os p0 p' H0 H':=by
 obtain⟨m1,m2,m3,m4,-⟩:=Dw.1 hm;have hn:∀x∈c.2,0≤x.no∧x.no<137438953472:=λx hx=>m4 x.no ⟨x,hx,rfl⟩
 have oR:=SV.oneA hR;have hbl:=IL c.1 c.2;generalize hRES:Ny hl s nm c=RES;unfold Ny at hRES;unfold dO;obtain⟨r,H1,⟨rfl,p1,h1,f1,cb1⟩,hc⟩:=jV (nm:=nm) h hw (by omega) hnm f0 hco cb oR;have w1:=Wj hw nm;generalize Ci s nm=O at*
 -- the copy's last step
 have fin:∀(W:Int×StS) (M:Nat) (p6:AV) (H6:AH),StAt W.2 os p6 H6→StF os p0 p6 H0 H6→Bes co [.ptr os 0,I fr,I O.2.1,I c.1,R] os p6 H6→SW M W.2→M<900000→(if W.1≠0 then W else DD W.2 O.2.1 c.1)=RES→
   Gv (.ptr co 0) (I W.1) H6 (λr H'=>r=I RES.1∧∃p',StAt RES.2 os p' H'∧StF os p0 p' H0 H'):=by
  intro W M p6 H6 h6 f6 cb6 w6 hM hres;rw[MK];unfold In;simp only[BL,Ab];rw[ML];unfold Io;simp only[Af]
  by_cases c2:W.1=0
  ·rw[if_neg (λz=>z c2)]at hres
   simp only[c2,yR,yY];rw[MJ];unfold Im;simp only[zZ,Nat.reduceAdd,Ak cb6.at'];obtain⟨r,H7,⟨rfl,p7,h7,f7⟩,hc⟩:=TK h6 w6 (by omega) O.2.1 c.1;refine bC_of hc ?_;rw[← hres];exact⟨by trivial,p7,h7,f6.trans f7⟩
  ·rw[if_pos c2]at hres
   simp only[c2,yT,zE];rw[← hres];exact⟨by trivial,p6,h6,f6⟩
 cases hl with
 | true=>
  rw[if_neg (by simp)]at hRES;simp only[zX,zB,Ab4,show((false==true)=false)from rfl,BE];refine bC_of hc ?_;simp only[Ab3]
  by_cases c1:O.1=0
  ·rw[if_neg (λz=>z c1)]at hRES
   simp only[c1,yR,yY,Al];rw[HA];unfold Fm;obtain⟨r,H2,⟨rfl,p2,h2,f2⟩,hc⟩:=oQ h1 w1 (cb1 c1) hR (by omega) hn (by omega) (by omega);simp only[cB,fQ,Ab6,Af1,zI];refine bC_of hc ?_;have hw2:=Qw (to:=O.2.1) (size:=c.1) (l:=Bv c.1 c.2) w1;unfold ME at hRES;simp only[if_true]at hRES;exact fin _ _ p2 H2 h2 (f1.trans f2) ((cb1 c1).step f2) hw2 (by omega) hRES
  ·rw[if_pos c1]at hRES
   simp only[c1,yT,zE];rw[← hRES];exact⟨by trivial,p1,h1,f1⟩
 | false=>
  simp only[Bp,Ab2,zZ,zP,yS,Ak cb.at',Hp,Af,Ag]
  by_cases cg:32768<c.1
  ·rw[if_pos ⟨rfl,cg⟩]at hRES
   simp only[cg,zE];rw[← hRES];exact⟨by trivial,p,h,f0⟩
  rw[if_neg (λz=>cg z.2)]at hRES;simp only[cg,yY];refine bC_of hc ?_;simp only[Ab3]
  by_cases c1:O.1=0
  ·rw[if_neg (λz=>z c1)]at hRES
   simp only[c1,yR,yY];rw[HA];unfold Fm;have hcn:(Cx c.1).toNat≤4096:=by unfold Cx;omega
   obtain⟨r,H2,⟨rfl,p2,h2,f2⟩,hc⟩:=vB h1 w1 (cb1 c1) hR (by omega) hn m1 (by omega) (by omega);simp only[cB,oO,Ab6,Af1,zI];refine bC_of hc ?_;have hw2:=ZC (to:=O.2.1) (size:=c.1) (n:=(Cx c.1).toNat) (no:=0) (l:=Bv c.1 c.2) w1;unfold ME at hRES;simp only[An]at hRES;exact fin _ _ p2 H2 h2 (f1.trans f2) ((cb1 c1).step f2) hw2 (by omega) hRES
  ·rw[if_pos c1]at hRES
   simp only[c1,yT,zE];rw[← hRES];exact⟨by trivial,p1,h1,f1⟩
theorem oG {N Bd:Nat}{s:StS}{os co:Nat}{p0 p vl:AV}{fr to size:Int}{H0 H:AH}{nm way:Tx}(h:StAt s os p H)(hw:SW N s)(hB:(Ar s fr).1.2.length≤Bd)(hB2:4096≤Bd)(hN:N+10+72*Bd<900000)(hnm:nm.length≤9223372036854775807)(f0:StF os p0 p H0 H)(hco:H0.length≤co)(cb:Bes co [.ptr os 0,I fr,I to,I size,vl] os p H):
  ∃r H',(r=I (HY s fr nm way).1∧∃p',StAt (HY s fr nm way).2 os p' H'∧StF os p0 p' H0 H')∧BCall prog 39 [.ptr co 0,S (A0 nm),S (A0 way)] H r H':=RL (by
 unfold OC;simp only[zZ,Ak cb.at'];obtain⟨r,H1,⟨rfl,g1⟩,hc⟩:=iO h hw (by omega) fr;refine bC_of hc ?_;unfold HY;simp only[zL,Ab3]
 by_cases c0:(Ar s fr).2=0
 rotate_left
 ·simp only[c0,yT,Ab8]
  exact⟨by trivial,p,h.grew g1,f0.grew g1⟩
 have h1:=h.grew g1;have cb1:=cb.grew g1;simp only[c0,zF,yY,zZ,Ak cb1.at'];obtain⟨r,H2,⟨⟨R,rfl,hR⟩,g2⟩,hc⟩:=Y2 h1 hw (by omega) c0;refine bC_of hc ?_
 have hmay:Cs (Ar s fr).1.1 (Ar s fr).1.2:=by
  obtain⟨d,hd,-,hdc,-⟩:=FT hw c0;rw[hdc];exact hw.now.1.mc d hd
 obtain⟨m1,m2,m3,m4,-⟩:=Dw.1 hmay;have hn:∀x∈(Ar s fr).1.2,0≤x.no∧x.no<137438953472:=λx hx=>m4 x.no ⟨x,hx,rfl⟩
 generalize (Ar s fr).1=c at*;have h2:=h1.grew g2;have cb2:=cb1.grew g2;have oR:=SV.oneA hR;have hlt:=(BD.1 cb2.at').1
 have e2:AT 2 H2 (.ptr co 3) (.agg [I c.1,R])=some (H2.set co (some (.cells [.ptr os 0,I fr,I to,I c.1,R]))):=by
  rw[AC (n:=2) (xs:=[I c.1,R]) (cs:=[.ptr os 0,I fr,I to,I size,vl]) (by simp[oR]) cb2.at' rfl (by simp)];rfl
 have ne2:∀i,i≠co→(H2.set co (some (.cells [.ptr os 0,I fr,I to,I c.1,R])))[i]?=H2[i]?:=λi hi=>C4 (Af4 hi)
 have h3:StAt s os p (H2.set co (some (.cells [.ptr os 0,I fr,I to,I c.1,R]))):=by
  obtain⟨a,b,c',d,pv,q⟩:=h2;exact⟨a,b,c',d,pv,(ne2 os (Af4 cb2.ne)).trans q.obj,q.now,q.kept,q.pm,Ae q.ps λi hi=>ne2 i (λe=>cb2.np (e▸hi)),q.po,q.pi,q.pc⟩
 have cb3:Bes co [.ptr os 0,I fr,I to,I c.1,R] os p (H2.set co (some (.cells [.ptr os 0,I fr,I to,I c.1,R]))):=⟨JW hlt,cb2.ne,cb2.np⟩
 have f3:StF os p0 p H0 (H2.set co (some (.cells [.ptr os 0,I fr,I to,I c.1,R]))):=by
  have f:=(f0.grew g1).grew g2;exact⟨by rw[Ae1];exact f.len,λj a b c=>by rw[ne2 j (by omega)];exact f.same j a b c,f.ids⟩
 have qa:(AV.lit (.string ⟨#[97,108,119,97,121,115]⟩))=S (A0 JE):=rfl;have qu:(AV.lit (.string ⟨#[97,117,116,111]⟩))=S (A0 Ii):=rfl;have i3:∀t:Int,Ao true 2 [(AV.ptr os 0),I fr,I t,I c.1,R] 3=some (.agg [I c.1,R]):=λ_=>rfl
 simp only[Ay,zC,e2,AE,qa,qu,Gs,AK];generalize (H2.set co (some (.cells [.ptr os 0,I fr,I to,I c.1,R])))=H3 at*
 by_cases wa:way=JE
 ·have hd:decide (EQ way c)=true:=decide_eq_true (.inl wa)
  rw[hd];simp only[wa,Yp,yW,show((true==false)=false)from rfl,BE,KN,YK,Ab,zP,Ag,true_and];exact Sv true h3 hw hB hB2 hN hnm f3 hco cb3 hR hmay
 simp only[wa,C9,yS,Gs,Ab,AK]
 by_cases wu:way=Ii
 ·obtain⟨w,H4,⟨hw4,g4⟩,hc⟩:=Xd (size:=c.1) hR (by omega) hn H3
  have cb4:=cb3.grew g4;simp only[wu,CA,yS,zC,Ay,Ak cb3.at',i3,TN];refine bC_of hc ?_;simp only[hw4.len,zZ,Nat.reduceAdd,Ak cb4.at',cN];refine bP_of (cI m1 (by omega)) ?_
  have hd:decide (EQ Ii c)=decide (((Bv c.1 c.2).length:Int)<Cx c.1):=by
   have:EQ Ii c↔((Bv c.1 c.2).length:Int)<Cx c.1:=by
    unfold EQ;rw[← wu];exact⟨λh=>h.elim (λe=>absurd e wa) λh=>h.2,λh=>.inr ⟨rfl,h⟩⟩
   simp only[this]
  rw[hd];simp only[AN,Aa9,As,An,Ak cb3.at',Ah,yZ,Al,true_and];exact Sv _ (h3.grew g4) hw hB hB2 hN hnm (f3.grew g4) hco cb4 hR hmay
 ·have hd:decide (EQ way c)=false:=decide_eq_false (λh=>h.elim wa λh=>wu h.1)
  rw[hd];simp only[wu,yY,show((false==true)=false)from rfl,BE,KN,YK,Ab,Ab4,true_and];exact Sv false h3 hw hB hB2 hN hnm f3 hco cb3 hR hmay)
def aN (e:Int):AV:=.agg [I e,S (A0 []),I 0,I 0,I 0,I 0,I 0]
def Xk (s:StS)(l:List Tx):Int×StS:=match Ig l with
 | none=>(2,s)
 | some (a,b,w)=>if(AZ s a false).1.2≠0 then((AZ s a false).1.2,(AZ s a false).2)else HY (AZ s a false).2 (AZ s a false).1.1 b w
end Go.Proofs.YtbppnhenlboefaaGreat.Av
end
section
set_option maxHeartbeats 1000000
namespace Go.Proofs.YtbppnhenlboefaaGreat.Av
open Go Go.RowKit Go.Proofs.Tryz
abbrev Ao0:=@List.mem_cons_of_mem
theorem Pv:∀{l:List Tx} {o:List (Tx×Tx)} {r:List Tx} {q:List (Tx×Tx)×List Tx},HZ l o r=some q→∀x∈q.2,x∈r∨x∈l
 | [],o,r,q,h,x,hx=>by
  unfold HZ at h;injection h with h;subst h;exact .inl hx
 | s::l,o,r,q,h,x,hx=>by
  unfold HZ at h;split at h
  ·injection h with h
   subst h;simp only[Af8]at hx;exact hx.imp id λh=>Ao0 _ h
  ·split at h
   ·cases h
   ·exact(Pv h x hx).imp id λh=>Ao0 _ h
   ·rcases Pv h x hx with h | h
    ·rcases Af8.1 h with h | h
     ·exact .inl h
     ·rw[Ag2]at h;subst h;exact .inr (by simp)
    ·exact .inr (Ao0 _ h)
theorem aO {l:List Tx}{a b w:Tx}(h:Ig l=some (a,b,w)):a∈l∧b∈l:=by
 unfold Ig at h;split at h
 ·cases h
 ·rename_i op rs hF
  unfold RU at hF;split at hF
  ·cases hF
  ·unfold X5 at h
   split at h
   ·rename_i a' b'
    split at h
    ·cases h
    ·split at h
     ·obtain⟨w',-,e⟩:=Option.map_eq_some_iff.1 h
      injection e with e1 e2;injection e2 with e2 e3;subst e1;subst e2;have m:=Pv hF;exact⟨(m _ (by simp)).elim (λh=>by simp at h) id,(m _ (by simp)).elim (λh=>by simp at h) id⟩
     ·cases h
   ·cases h
theorem dB (s:StS)(a:Tx):AZ s a false=(EP s a,s):=by unfold AZ;rw[if_pos (.inr rfl)]
theorem bM {N Bd:Nat}{s:StS}{os:Nat}{p v:AV}{H:AH}{l:List Tx}(h:StAt s os p H)(hw:SW N s)(hB:∀i,(Ar s i).1.2.length≤Bd)(hB2:4096≤Bd)(hN:N+10+72*Bd<900000)
  (hv:Aa H 1 v=some (l.flatMap Cj,l.length)) (hb:∀t∈l,t.length≤1000000) (hl:l.length≤1000000):
  ∃r H',(r=aN (Xk s l).1∧∃p',StAt (Xk s l).2 os p' H'∧StF os p p' H H')∧BCall prog 12 [.ptr os 0,v] H r H':=eY (by
 unfold jZ
 let Z:List AV:=[I 0,S (A0 []),I 0,I 0,I 0,I 0,I 0]
 have e1:AD H (.agg [(I 0),(.lit (.string ⟨#[]⟩)),(I 0),(I 0),(I 0),(I 0),(I 0)])=some (.ptr H.length 0,H++[some (.cells Z)]):=rfl;have g1:=Grew.app H [some (AObj.cells Z)];have b1:=Bes.new h Z;have hlt:=h.os_lt;simp only[e1,Az];have hv1:=g1.slice hv;have h1:=h.grew g1;have f1:StF os p p H (H++[some (AObj.cells Z)]):=(StF.refl os p H).grew g1;have l1:(H++[some (AObj.cells Z)]).length=H.length+1:=by simp
 generalize (H++[some (AObj.cells Z)])=H1 at*;obtain⟨r,H2,⟨hr,g2⟩,hc⟩:=pD hv1 hb hl;refine bC_of hc ?_;have b2:=b1.grew g2;have h2:=h1.grew g2;have f2:=f1.grew g2;have lt2:=g2.1
 -- the answer put into its place
 have fin:∀(e:Int) (s':StS) (p':AV) (H':AH),StAt s' os p' H'→StF os p p' H H'→Bes H.length Z os p' H'→Xk s l=(e,s')→
   bS (AT 7 H' (.ptr H.length 0) (.agg [I e,S (A0 []),I 0,I 0,I 0,I 0,I 0])) (λH''=>bO (Au true 7 H'' (.ptr H.length 0)) λv=>v=aN (Xk s l).1∧∃p',StAt (Xk s l).2 os p' H''∧StF os p p' H H''):=by
  intro e s' p' H' h' f' b' he;have hl':=(BD.1 b'.at').1
  have t1:AT 7 H' (.ptr H.length 0) (.agg [I e,S (A0 []),I 0,I 0,I 0,I 0,I 0])=some (H'.set H.length (some (.cells [I e,S (A0 []),I 0,I 0,I 0,I 0,I 0]))):=by
   rw[AC (n:=7) (xs:=[I e,S (A0 []),I 0,I 0,I 0,I 0,I 0]) (cs:=Z) (by simp[BH,oneA]) b'.at' rfl (by simp[Z])];rfl
  have t2:(H'.set H.length (some (.cells [I e,S (A0 []),I 0,I 0,I 0,I 0,I 0])))[H.length]?=some (some (.cells [I e,S (A0 []),I 0,I 0,I 0,I 0,I 0])):=JW hl';have ne:∀i,i≠H.length→(H'.set H.length (some (.cells [I e,S (A0 []),I 0,I 0,I 0,I 0,I 0])))[i]?=H'[i]?:=λi hi=>C4 (Af4 hi)
  have i7:Ao true 7 [I e,S (A0 []),I 0,I 0,I 0,I 0,I 0] 0=some (aN e):=rfl;simp only[t1,AE,Ak t2,i7,Ab,he];refine⟨by trivial,p',?_,by rw[Ae1];exact f'.len,λj a b c=>by rw[ne j (by omega)];exact f'.same j a b c,f'.ids⟩;obtain⟨a,b,c,d,pv,q⟩:=h';exact⟨a,b,c,d,pv,(ne os (Af4 b'.ne)).trans q.obj,q.now,q.kept,q.pm,Ae q.ps λi hi=>ne i (λe=>b'.np (e▸hi)),q.po,q.pi,q.pc⟩
 have z1:∀x:AV,oneA x=true→FK [(I 0),(.lit (.string ⟨#[]⟩)),(I 0),(I 0),(I 0),(I 0),(I 0)] [(0,1,x)]=some (.agg [x,S (A0 []),I 0,I 0,I 0,I 0,I 0]):=λx hx=>by
  simp[FK,AS hx,AR];rfl
 cases hP:Ig l with
 | none=>
  rw[hP]at hr;have hr:r=.tup [S (A0 []),S (A0 []),S (A0 []),B false]:=hr;subst hr;simp only[zL,zX,zA,z1 (I 2) rfl];exact fin 2 s p H2 h2 f2 b2 (by unfold Xk;rw[hP])
 | some q=>
  obtain⟨a,b,w⟩:=q;rw[hP]at hr;have hr:r=.tup [S (A0 a),S (A0 b),S (A0 w),B true]:=hr;subst hr;obtain⟨ma,mb⟩:=aO hP;have la:=hb a ma;have lb:=hb b mb;simp only[zL,zX,zB];obtain⟨r,H3,⟨rfl,p3,h3,f3⟩,hc⟩:=WM h2 hw (by omega) (name:=a) (by omega) false;refine bC_of hc ?_;have b3:=b2.step f3;have f23:=f2.trans f3;have hcp:Xk s l=if(AZ s a false).1.2≠0 then((AZ s a false).1.2,(AZ s a false).2)else HY (AZ s a false).2 (AZ s a false).1.1 b w:=by unfold Xk;rw[hP]
  rw[dB]at h3 hcp⊢;simp only[zL,Ab3]at hcp h3⊢;generalize EP s a=F at*
  by_cases c1:F.2=0
  rotate_left
  ·rw[if_pos c1]at hcp
   simp only[c1,yT,zE,z1 (I F.2) rfl,Ab];exact fin F.2 s p3 H3 h3 f23 b3 hcp
  rw[if_neg (λz=>z c1)]at hcp;have z2:FK [(.lit (.pointer none)),(I 0),(I 0),(I 0),Ad] [(0,1,.ptr os 0),(1,1,I F.1)]=some (.agg [.ptr os 0,I F.1,I 0,I 0,Ad]):=rfl;have e4:AD H3 (.agg [.ptr os 0,I F.1,I 0,I 0,Ad])=some (.ptr H3.length 0,H3++[some (.cells [.ptr os 0,I F.1,I 0,I 0,Ad])]):=rfl;have g4:=Grew.app H3 [some (AObj.cells [AV.ptr os 0,I F.1,I 0,I 0,Ad])];have cb:=Bes.new h3 [AV.ptr os 0,I F.1,I 0,I 0,Ad];have lt3:=f3.len;simp only[c1,yR,yY,z2,Ab,e4,Az]
  -- from here on the answer's place is part of what was there
  have hf0:StF os p p3 H1 (H3++[some (AObj.cells [AV.ptr os 0,I F.1,I 0,I 0,Ad])]):=
   (((StF.refl os p H1).grew g2).trans f3).grew g4
  obtain⟨r,H5,⟨rfl,p5,h5,f5⟩,hc⟩:=oG (nm:=b) (way:=w) (Bd:=Bd) (h3.grew g4) hw (hB F.1) hB2 hN (by omega) hf0 (by omega) cb;refine bC_of hc ?_;have hpne:H.length∉AU p:=λz=>by have:=h.p_lt _ z;omega
  have b5:Bes H.length Z os p5 H5:=⟨(f5.same H.length (by omega) (by omega) hpne).trans b1.at',by omega,λz=>(f5.ids _ z).elim hpne (λz=>by omega)⟩;have f15:StF os p p5 H H5:=f1.trans f5;simp only[z1 (I (HY s F.1 b w).1) rfl,Ab];exact fin (HY s F.1 b w).1 (HY s F.1 b w).2 p5 H5 h5 f15 b5 hcp)
end Go.Proofs.YtbppnhenlboefaaGreat.Av
end
section
set_option maxHeartbeats 1000000
namespace Go.Proofs.YtbppnhenlboefaaGreat.Av
open Go Go.RowKit Go.Proofs.Tryz
def PN:Tx:=[45,45,115,112,97,114,115,101,61,97,108,119,97,121,115]
def WC:Int×StS:=Vl (LB 9) [97] [List.replicate 20 0]
def Nz:Int×StS:=Xk WC.2 [PN,[97],[98]]
theorem mH:WC.1=0:=by kernel_rfl
theorem mK:Nz.1=0:=by kernel_rfl
theorem mJ:(Xk Nz.2 [[97]]).1=2:=by kernel_rfl
theorem gZ:decide (Ol Nz.2.now.1 Nz.2.now.2 2)=true∧(Fo Nz.2.now.1 Nz.2.now.2 2).size=20∧(Fo Nz.2.now.1 Nz.2.now.2 2).l.length=0:=⟨by kernel_rfl,by kernel_rfl,by kernel_rfl⟩
theorem X8 {N:Nat}{s:StS}(h:SW N s)(nm:List UInt8)(l:List (List UInt8)):SW (N+2+9*Hh l) (Vl s nm l).2:=by
 have w1:=QQ h nm true;unfold Vl;generalize AZ s nm true=O at*;have w2:=N8 w1 O.1.1 0;generalize DD O.2 O.1.1 0=Q at*;have w3:=lT (ino:=O.1.1) (l:=l) (a:=0) (m:=0) w2
 split
 ·exact w1.mono (by omega)
 ·split
  ·exact w2.mono (by omega)
  ·split
   ·exact w3.mono (by omega)
   ·exact(pW w3 _).mono (by omega)
theorem jW {N Bd:Nat}{s:StS}(h:SW N s)(fr:Int)(nm way:Tx)(hB:(Ar s fr).1.2.length≤Bd)(hB2:4096≤Bd):SW (N+4+72*Bd) (HY s fr nm way).2:=by
 unfold HY
 split
 ·exact h.mono (by omega)
 ·generalize (Ar s fr).1=c at*
  have w1:=Wj h nm;unfold Ny
  split
  ·exact h.mono (by omega)
  ·rename_i hg
   split
   ·exact w1.mono (by omega)
   ·have w2:SW (N+2+72*Bd) (ME (decide (EQ way c)) (Ci s nm).2.1 c (Ci s nm).2.2).2:=by
     unfold ME
     split
     ·exact(Qw w1).mono (by have:=IL c.1 c.2;omega)
     ·rename_i hd
      refine(ZC w1).mono ?_
      have:(Cx c.1).toNat≤4096:=by
       have:¬32768<c.1:=λz=>hg ⟨by simpa using hd,z⟩
       unfold Cx;omega
      omega
    split
    ·exact w2.mono (by omega)
    ·exact(N8 w2 _ _).mono (by omega)
theorem jY {N Bd:Nat}{s:StS}(h:SW N s)(l:List Tx)(hB:∀i,(Ar s i).1.2.length≤Bd)(hB2:4096≤Bd):SW (N+4+72*Bd) (Xk s l).2:=by
 unfold Xk
 split
 ·exact h.mono (by omega)
 ·rw[dB]
  split
  ·exact h.mono (by omega)
  ·exact jW h _ _ _ (hB _) hB2
theorem FL {N n:Nat}{s:StS}(h:SW N s)(hd:∀d∈s.now.2,d.l.length≤n)(i:Int):(Ar s i).1.2.length≤n:=by
 by_cases c:(Ar s i).2=0
 ·obtain⟨d,hm,-,e,-⟩:=FT h c
  rw[e];exact hd d hm
 ·have:(Ar s i).1=(0,[]):=by
   unfold Ar at c⊢
   split
   ·rfl
   ·split
    ·rename_i h1 h2;rw[if_neg h1,if_pos h2]at c;exact absurd rfl c
    ·rfl
  rw[this];exact Nat.zero_le _
theorem mI:decide (∀d∈Nz.2.now.2,d.l.length≤4096)=true:=by kernel_rfl
theorem Zr:decide (∀d∈WC.2.now.2,d.l.length≤4096)=true:=by kernel_rfl
theorem Rr {H:AH}{v:AV}(h:oneA v=true):Cr H 1 1 (Be [Ad] 1) [(0,1,v)]=some (.sl H.length 0 1 1 (.ex 1),H++[some (.cells [v])]):=by
 simp[Cr,Tq,Be,AS h,AR]
theorem jX:ACalls prog 3 [] [] λr _=>r=B true:=Mz (by
 unfold FP;obtain⟨r,H1,⟨p,rfl,l1,st0,g,hid⟩,hc⟩:=iL 9 [] (by omega);refine bC_of hc ?_;have n1:V5 .eql So (.ptr ([]:AH).length 0) (.lit (.pointer none))=some (B false):=rfl;have e1:qC 1 1 [u0Z] H1 (I 20) (I 20)=some (.sl H1.length 0 20 1 (.ex 20),H1++[some (.cells (AB (List.replicate 20 0)))]):=rfl;have e2:=Rr (H:=H1++[some (AObj.cells (AB (List.replicate 20 0)))]) (v:=.sl H1.length 0 20 1 (.ex 20)) rfl;simp only[n1,zS,AK,yS,e1,Az,e2];have g2:Grew H1 (H1++[some (AObj.cells (AB (List.replicate 20 0)))]++[some (AObj.cells [AV.sl H1.length 0 20 1 (.ex 20)])]):=by rw[Ad3];exact Grew.app _ _
 have s1:Aa (H1++[some (AObj.cells (AB (List.replicate 20 0)))]++[some (AObj.cells [AV.sl H1.length 0 20 1 (.ex 20)])]) 1 (.sl H1.length 0 20 1 (.ex 20))=some (AB (List.replicate 20 0),20):=by
  rw[A9 (c:=AB (List.replicate 20 0)) (by simp) (by simp[AB])];rfl
 have s2:Aa (H1++[some (AObj.cells (AB (List.replicate 20 0)))]++[some (AObj.cells [AV.sl H1.length 0 20 1 (.ex 20)])]) 1 (.sl (H1++[some (AObj.cells (AB (List.replicate 20 0)))]).length 0 1 1 (.ex 1))=some ([AV.sl H1.length 0 20 1 (.ex 20)],1):=by
  rw[A9 CI (by simp)];rfl
 have lo:=st0.os_lt;have i4:∀j∈AU (AV.sl (H1++[some (AObj.cells (AB (List.replicate 20 0)))]).length 0 1 1 (.ex 1)),j=H1.length+1:=by intro j hj;simpa[AU]using hj
 have st2:=st0.grew g2;generalize (.sl (H1++[some (AObj.cells (AB (List.replicate 20 0)))]).length 0 1 1 (.ex 1):AV)=w at*;generalize (H1++[some (AObj.cells (AB (List.replicate 20 0)))]++[some (AObj.cells [AV.sl H1.length 0 20 1 (.ex 20)])])=H2 at*;have hch:([(AV.sl H1.length 0 20 1 (.ex 20),List.replicate 20 0)]:List (AV×List UInt8)).flatMap (λx=>B9 x.2)=[List.replicate 20 0]:=by kernel_rfl
 refine⟨_,iN (nm:=[97]) (bl:=[(AV.sl H1.length 0 20 1 (.ex 20),List.replicate 20 0)]) st2 (Sn 9) (by simp) s2 (by intro j hj;rw[i4 j hj,hid];exact⟨by omega,by simp⟩) (by
  intro x hx;simp only[Ag2]at hx;subst hx;exact⟨s1,rfl,by simp,λj hj=>by simp only[AU,Ag2]at hj;subst hj;rw[hid];exact⟨by omega,by simp⟩⟩) (by simp) (by rw[hch];simp[Hh]),?_⟩
 have w2:=X8 (Sn 9) [97] [List.replicate 20 0];rw[hch];rintro r H3 ⟨p3,rfl,st3,f3⟩;have w3:SW 200 WC.2:=w2.mono (by simp[Hh]);have st3:StAt WC.2 ([]:AH).length p3 H3:=st3;have er:(Vl (LB 9) [97] [List.replicate 20 0]).1=0:=mH;have lA:Cr H3 1 3 (Be [(.lit (.string ⟨#[]⟩))] 3) [(0,1,(.lit (.string ⟨#[45,45,115,112,97,114,115,101,61,97,108,119,97,121,115]⟩))),(1,1,(.lit (.string ⟨#[97]⟩))),(2,1,(.lit (.string ⟨#[98]⟩)))]=some (.sl H3.length 0 3 1 (.ex 3),H3++[some (.cells ([PN,[97],[98]].flatMap Cj))]):=rfl;simp only[er,Ab3,yR,yY,As,An,lA,Az];have g4:=Grew.app H3 [some (AObj.cells ([PN,[97],[98]].flatMap Cj))]
 have v4:Aa (H3++[some (AObj.cells ([PN,[97],[98]].flatMap Cj))]) 1 (.sl H3.length 0 3 1 (.ex 3))=some ([PN,[97],[98]].flatMap Cj,[PN,[97],[98]].length):=by
  rw[A9 CI (by simp[Cj])];rfl
 obtain⟨r,H5,⟨rfl,p5,st5,f5⟩,hc⟩:=bM (Bd:=4096) (l:=[PN,[97],[98]]) (st3.grew g4) w3 (FL w3 (of_decide_eq_true Zr)) (by omega) (by omega) v4 (by simp[PN]) (by simp);refine bC_of hc ?_;have w5:SW 300000 Nz.2:=(jY w3 [PN,[97],[98]] (Bd:=4096) (FL w3 (of_decide_eq_true Zr)) (by omega)).mono (by omega);have st5:StAt Nz.2 ([]:AH).length p5 H5:=st5;have e5:(Xk WC.2 [PN,[97],[98]]).1=0:=mK;rw[e5]
 have o7:∀(H:AH) (e:Int),AD H (.agg [(I 0),(.lit (.string ⟨#[]⟩)),(I 0),(I 0),(I 0),(I 0),(I 0)])=some (.ptr H.length 0,H++[some (.cells [I 0,S (A0 []),I 0,I 0,I 0,I 0,I 0])])∧AT 7 (H++[some (AObj.cells [I 0,S (A0 []),I 0,I 0,I 0,I 0,I 0])]) (.ptr H.length 0) (aN e)=some (H++[some (.cells [I e,S (A0 []),I 0,I 0,I 0,I 0,I 0])]):=λH e=>by
  refine⟨rfl,?_⟩;unfold aN;rw[AC (n:=7) (xs:=[I e,S (A0 []),I 0,I 0,I 0,I 0,I 0]) (cs:=[I 0,S (A0 []),I 0,I 0,I 0,I 0,I 0]) (by simp[BH,oneA]) CI rfl (by simp)];simp[AR]
 simp only[(o7 _ 0).1,(o7 _ 0).2,zM];have g6:=Grew.app H5 [some (AObj.cells [I 0,S (A0 []),I 0,I 0,I 0,I 0,I 0])];have b6:=Bes.new st5 [I 0,S (A0 []),I 0,I 0,I 0,I 0,I 0];have st6:=st5.grew g6;generalize (H5++[some (AObj.cells [I 0,S (A0 []),I 0,I 0,I 0,I 0,I 0])])=H6 at*;generalize H5.length=o5 at*;obtain⟨R,hR,r,H7,⟨rfl,g7⟩,hc⟩:=bK st6 w5 (by omega);refine bC_of hc ?_;obtain⟨k1,k2,k3⟩:=gZ;obtain⟨L,hL,hp⟩:=bE hR (w5.now.sm (by omega)) 2;refine A4 hp ?_;rw[k1,k2];have oL:=SV.oneA hL;have m1:AD H7 (.agg [(I 0),Ad])=some (.ptr H7.length 0,H7++[some (.cells [I 0,Ad])]):=rfl
 have m2:AT 2 (H7++[some (AObj.cells [I 0,Ad])]) (.ptr H7.length 0) (.agg [I 20,L])=some (H7++[some (.cells [I 20,L])]):=by
  rw[AC (n:=2) (xs:=[I 20,L]) (cs:=[I 0,Ad]) (by simp[oL]) CI rfl (by simp)];simp[AR]
 have lB:∀H:AH,Cr H 1 1 (Be [(.lit (.string ⟨#[]⟩))] 1) [(0,1,(.lit (.string ⟨#[97]⟩)))]=some (.sl H.length 0 1 1 (.ex 1),H++[some (.cells ([[97]].flatMap Cj))]):=λ_=>rfl
 simp only[zL,Ab,m1,zM,m2,lB];have g8:=Grew.app H7 [some (AObj.cells [I 20,L])];have b7:=b6.grew g7;have st7:=st6.grew g7;have c8:=Bes.new st7 [I 20,L];have b8:=b7.grew g8;have st8:=st7.grew g8;generalize (H7++[some (AObj.cells [I 20,L])])=H8 at*;generalize H7.length=o7' at*;have g9:=Grew.app H8 [some (AObj.cells ([[97]].flatMap Cj))]
 have v9:Aa (H8++[some (AObj.cells ([[97]].flatMap Cj))]) 1 (.sl H8.length 0 1 1 (.ex 1))=some ([[97]].flatMap Cj,([[97]]:List Tx).length):=by
  rw[A9 CI (by simp[Cj])];rfl
 have b9:=b8.grew g9;have c9:=c8.grew g9;obtain⟨r,H10,⟨rfl,p10,st10,f10⟩,hc⟩:=bM (Bd:=4096) (l:=[[97]]) (st8.grew g9) w5 (FL w5 (of_decide_eq_true mI)) (by omega) (by omega) v9 (by simp) (by simp);refine bC_of hc ?_;have b10:=b9.step f10;have c10:=c9.step f10;rw[mJ];simp only[(o7 _ 2).1,(o7 _ 2).2,zM];have g11:=Grew.app H10 [some (AObj.cells [I 2,S (A0 []),I 0,I 0,I 0,I 0,I 0])];have b11:=b10.grew g11;have c11:=c10.grew g11;have hl0:Ba L=some (I 0):=by rw[hL.len,k3];rfl
 simp only[zJ,Ak b11.at',Ak c11.at',Ak CI,CX,yW,zP,yS,hl0])
theorem Qf:BPure prog 3 [] (B true):=.of_true jX
def rightT:List (List UInt8):=[[97],[98],[99],[100,115,116],[109,97,112],[120,45,49]]
def Su (k:UInt8):List UInt8:=rightT.getD (k.toNat % 6) []
theorem bL (k:UInt8):BPure prog 46 [.lit (.int .u8 k.toNat)] (S (A0 (Su k))):=BPure.val rfl rfl (Oq (by
 unfold Ld;have e1:Cr [] 1 6 (Be [(.lit (.string ⟨#[]⟩))] 6) [(0,1,(.lit (.string ⟨#[97]⟩))),(1,1,(.lit (.string ⟨#[98]⟩))),(2,1,(.lit (.string ⟨#[99]⟩))),(3,1,(.lit (.string ⟨#[100,115,116]⟩))),(4,1,(.lit (.string ⟨#[109,97,112]⟩))),(5,1,(.lit (.string ⟨#[120,45,49]⟩)))]=some (.sl 0 0 6 1 (.ex 6),[some (.cells (rightT.map λs=>S (A0 s)))]):=by rfl
 have hm:k.toNat % 6<6:=Al4 _ (by omega)
 have e2:Ap .rem (.lit (.int .u8 k.toNat)) (.lit (.int .u8 6))=some (.lit (.int .u8 ((k.toNat % 6:Nat):Int))):=by
  simp[Ap,GK,Int.tmod_eq_emod_of_nonneg]
 rw[e1,e2];simp only[Az,Ab]
 have e3:Bj 1 (.sl 0 0 6 1 (.ex 6)) (.lit (.int .u8 ((k.toNat % 6:Nat):Int)))=some (.ptr 0 (k.toNat % 6)):=by
  simp[Bj,J8];omega
 have e4:Au false 1 [some (.cells (rightT.map λs=>S (A0 s)))] (.ptr 0 (k.toNat % 6))=some (S (A0 (Su k))):=by
  rw[Ak (cs:=rightT.map λs=>S (A0 s)) rfl]
  have:rightT[k.toNat % 6]?=some (Su k):=by
   unfold Su;rw[Ac8,DR (show k.toNat % 6<rightT.length by simp[rightT];omega)];rfl
  simp[Ah,this]
 rw[e3];simp only[Ab,e4]))
def JH (s i:Nat):UInt8:=if(i/8+s) % 3=0 then 0 else UInt8.ofNat ((s*31+i*7+i/8*s) % 251)
def EK (s n:Nat):List UInt8:=(List.range n).map (JH s)
theorem EL (s n:Nat):(EK s n).length=n:=by simp[EK]
theorem rK {n:Nat}(h:n<256):Ts .u8 (I n)=some (.lit (.int .u8 n)):=by
 have:(IntKind.u8).wrap (n:Int)=n:=by
  simp[IntKind.wrap,IntKind.bits,IntKind.signed];omega
 simp[Ts,this]
theorem pZ (n:Nat):Be [u0Z] n=AB (List.replicate n 0):=by
 unfold Be AB
 induction n with
 | zero=>rfl
 | succ n ih=>rw[Al0,Al0,An2,ih];rfl
theorem hU {s i n:Nat}{y:UInt8}(hi:i<n):(EK s i++List.replicate (n - i) 0).set i y=EK s i++y::List.replicate (n - (i+1)) 0:=by
 rw[List.set_append,if_neg (by rw[EL];omega),EL,Nat.sub_self,show n - i=n - (i+1)+1 by omega,Al0,Ao6]
theorem nE (k:UInt8){n:Nat}(hn:n≤10000):∃R,SV Je 1 (EK k.toNat n) R∧BPure prog 45 [.lit (.int .u8 k.toNat),I n] R:=by
 have hk:k.toNat<256:=k.toNat_lt
 have key:∃r X,Aa X 1 r=some (AB (EK k.toNat n),n)∧BCall prog 45 [.lit (.int .u8 k.toNat),I n] [] r X:=Oo (by
  unfold Lc
  have e1:qC 1 1 [u0Z] [] (I n) (I n)=some (.sl 0 0 n 1 (.ex n),[some (.cells (AB (List.replicate n 0)))]):=by
   show(if 0≤(n:Int)∧(n:Int)≤n∧((1:Nat):Int)*n≤281474976710656∧(n:Int)≤9223372036854775807 then some (AV.sl 0 0 (n:Int).toNat 1 (.ex (n:Int).toNat),[some (AObj.cells (Be [u0Z] (n:Int).toNat))])else none)=_
   rw[if_pos ⟨by omega,by omega,by omega,by omega⟩,Ah3,pZ]
  rw[e1];simp only[Az];refine Kq (λm x0 x1 x5 x6 H'=>∃i:Nat,i+m=n∧x0=.lit (.int .u8 k.toNat)∧x1=I n∧x5=.sl 0 0 n 1 (.ex n)∧x6=I i∧H'=[some (.cells (AB (EK k.toNat i++List.replicate (n - i) 0)))]) ?_ n ⟨0,by omega,rfl,rfl,rfl,rfl,by simp[EK]⟩;rintro m x0 x1 x5 x6 H' R hR ⟨i,hi,rfl,rfl,rfl,rfl,rfl⟩;unfold GR;rcases Ac5 i n with h | h
  ·have hd:i/8*k.toNat≤2000*256:=Nat.mul_le_mul (by omega) (by omega)
   have e2:Ts .i64 (.lit (.int .u8 k.toNat))=some (I k.toNat):=Lt (by omega) (by omega);have e3:Ap .mul (I k.toNat) (I 31)=some (I ((k.toNat*31:Nat):Int)):=by rw[DM (by omega) (by omega)];congr 3
   have e4:Ap .mul (I i) (I 7)=some (I ((i*7:Nat):Int)):=by rw[DM (by omega) (by omega)];congr 3
   have e5:Ap .add (I ((k.toNat*31:Nat):Int)) (I ((i*7:Nat):Int))=some (I ((k.toNat*31+i*7:Nat):Int)):=by rw[Aw (by omega) (by omega)];congr 3
   have e6:Ap .quo (I i) (I 8)=some (I ((i/8:Nat):Int)):=by rw[I4 (by omega) (by omega) (by omega)];congr 3
   have e7:Ap .mul (I ((i/8:Nat):Int)) (I k.toNat)=some (I ((i/8*k.toNat:Nat):Int)):=by
    have q:((i/8:Nat):Int)*(k.toNat:Int)=((i/8*k.toNat:Nat):Int):=(Int.natCast_mul _ _).symm;rw[DM (by rw[q];omega) (by rw[q];omega),q]
   have e8:Ap .add (I ((k.toNat*31+i*7:Nat):Int)) (I ((i/8*k.toNat:Nat):Int))=some (I ((k.toNat*31+i*7+i/8*k.toNat:Nat):Int)):=by rw[Aw (by omega) (by omega)];congr 3
   have e9:Ap .rem (I ((k.toNat*31+i*7+i/8*k.toNat:Nat):Int)) (I 251)=some (I (((k.toNat*31+i*7+i/8*k.toNat) % 251:Nat):Int)):=by rw[I5 (by omega) (by omega)];congr 3
   have lt:(k.toNat*31+i*7+i/8*k.toNat) % 251<256:=by have:=Al4 (k.toNat*31+i*7+i/8*k.toNat) (show 251>0 by omega);omega
   have e10:=rK lt;have e11:Bj 1 (.sl 0 0 n 1 (.ex n)) (I i)=some (.ptr 0 i):=by simp[Bj,J8];omega
   have e12:Ap .add (I ((i/8:Nat):Int)) (I k.toNat)=some (I ((i/8+k.toNat:Nat):Int)):=by rw[Aw (by omega) (by omega)];congr 3
   have e13:Ap .rem (I ((i/8+k.toNat:Nat):Int)) (I 3)=some (I (((i/8+k.toNat) % 3:Nat):Int)):=by rw[I5 (by omega) (by omega)];congr 3
   have put:∀(cs:List UInt8) (y:UInt8),cs.length=n→AT 1 [some (.cells (AB cs))] (.ptr 0 i) (.lit (.int .u8 y.toNat))=some [some (.cells (AB (cs.set i y)))]:=by
    intro cs y hc;rw[AC (n:=1) (xs:=[.lit (.int .u8 y.toNat)]) (cs:=AB cs) rfl rfl rfl (by rw[B3];omega)];simp[AR,AB,Al9]
   have hlen:(EK k.toNat i++List.replicate (n - i) (0:UInt8)).length=n:=by simp[EL];omega
   have hy:(((k.toNat*31+i*7+i/8*k.toNat) % 251:Nat):Int)=((UInt8.ofNat ((k.toNat*31+i*7+i/8*k.toNat) % 251)).toNat:Int):=by
    rw[UInt8.toNat_ofNat_of_lt' lt]
   rw[hy]at e10
   have snoc:∀y,JH k.toNat i=y→EK k.toNat i++y::List.replicate (n - (i+1)) 0=EK k.toNat (i+1)++List.replicate (n - (i+1)) 0:=by
    rintro y rfl;unfold EK;rw[An8,Ag8];simp
   simp only[zO,Int.ofNat_lt,h,zE,e2,e3,e4,e5,e6,e7,e8,e9,hy,e10,e11,put _ _ hlen,AE,e12,e13,CX,hU h];have hlen2:(EK k.toNat i++UInt8.ofNat ((k.toNat*31+i*7+i/8*k.toNat) % 251)::List.replicate (n - (i+1)) 0).length=n:=by simp[EL];omega
   by_cases c:(i/8+k.toNat) % 3=0
   ·have c':(((i/8+k.toNat) % 3:Nat):Int)=0:=by omega
    have p0:=put _ 0 hlen2;have e14:(AV.lit (.int .u8 ((0:UInt8).toNat:Int)))=.lit (.int .u8 0):=rfl;rw[e14]at p0;simp only[c',zE,p0,AE];rw[G9];unfold E7;simp only[Aw (a:=i) (b:=1) (by omega) (by omega),Ab];refine hR (m - 1) _ _ _ _ _ (by omega) ⟨i+1,by omega,rfl,rfl,rfl,by simp,?_⟩;rw[← snoc 0 (by unfold JH;rw[if_pos c])]
    congr 4
    rw[List.set_append,if_neg (by rw[EL];omega),EL,Nat.sub_self,Ao6]
   ·have c':¬(((i/8+k.toNat) % 3:Nat):Int)=0:=by omega
    simp only[c',yY];rw[G9];unfold E7;simp only[Aw (a:=i) (b:=1) (by omega) (by omega),Ab];refine hR (m - 1) _ _ _ _ _ (by omega) ⟨i+1,by omega,rfl,rfl,rfl,by simp,?_⟩;rw[← snoc _ (by unfold JH;rw[if_neg c])]
  ·have:i=n:=by omega
   subst this;simp[Aa,B3,EL,Ac1])
 obtain⟨r,X,h1,h2⟩:=key;obtain⟨R,⟨hR,hR2⟩,hp⟩:=BPure.sl (P:=prog) rfl (HJ _) ⟨r,X,h1,h2⟩;exact⟨R,⟨hR,λH=>by rw[hR2 H,IN,EL]⟩,hp⟩
end Go.Proofs.YtbppnhenlboefaaGreat.Av
end
section
set_option maxHeartbeats 1000000
namespace Go.Proofs.YtbppnhenlboefaaGreat.Av
open Go Go.RowKit Go.Proofs.Tryz
def LA:Tx:=[45,45,115,112,97,114,115,101,61,110,101,118,101,114]
def oA:Tx:=[45,45,115,112,97,114,115,101,61,97,117,116,111]
def Tv (w:Nat):List Tx:=if w % 4=1 then [PN,[97],[98]]else if w % 4=2 then [[97],[98],LA]else if w % 4=3 then [[97],[98],LA,oA]else [[97],[98]]
def Rz (w:Nat):Tx:=if w % 4=1 then JE else if w % 4=2 then P2 else Ii
theorem vH:Ig [PN,[97],[98]]=some ([97],[98],JE):=by kernel_rfl
theorem vI:Ig [[97],[98],LA]=some ([97],[98],P2):=by kernel_rfl
theorem vJ:Ig [[97],[98],LA,oA]=some ([97],[98],Ii):=by kernel_rfl
theorem vG:Ig [[97],[98]]=some ([97],[98],Ii):=by kernel_rfl
theorem eN (w:Nat):Ig (Tv w)=some ([97],[98],Rz w):=by
 unfold Tv Rz
 split
 ·exact vH
 ·split
  ·exact vI
  ·split
   ·exact vJ
   ·exact vG
theorem ZH (w:Nat):(Tv w).length≤4∧∀t∈Tv w,t.length≤100:=by
 unfold Tv
 split
 ·decide
 ·split
  ·decide
  ·split<;>decide
theorem NM (l:List Tx):(l.flatMap Cj).length=l.length:=by
 induction l with
 | nil=>rfl
 | cons a l ih=>simp[Cj,ih]
theorem nO {H:AH}{v:AV}{n:Nat}{l:List Tx}{cs:List Tx}(hv:Aa H 1 v=some (l.flatMap Cj,l.length))(hn:cs.length=n)(hl:l.length≤100)(hc:n≤100):
  ∃r H',Mm 1 16 (H++[some (.cells (cs.flatMap Cj))]) (.sl H.length 0 n 1 (.ex n)) v=some (r,H')∧Aa H' 1 r=some ((cs++l).flatMap Cj,(cs++l).length)∧Grew H H':=by
 subst hn
 have s2:Aa (H++[some (.cells (cs.flatMap Cj))]) 1 (.sl H.length 0 cs.length 1 (.ex cs.length))=some (cs.flatMap Cj,cs.length):=by
  rw[A9 CI (by rw[NM];omega),Ad9,Ah5,Ac1 (by rw[NM];omega)]
 obtain⟨r,H8,a1,a2,a3,a4,a5,a6⟩:=CC (sz:=1) (bytes:=16) s2 rfl (AI ((Grew.app H [some (AObj.cells (cs.flatMap Cj))]).slice hv)) (by omega);refine⟨r,H8,a1,by rw[a3,Ag4,Ac6],?_⟩;rw[Ac6]at a4;refine⟨by omega,λi hi=>?_⟩;rw[a5 i (by rw[Ac6];omega) (by simp only[AU,Ag2];omega),Ab9 hi]
theorem bN {H:AH}{n m:Nat}{l cs:List Tx}(H0:AH)(g:Grew H0 H)(ho:H0.length≤n)(hv:Aa H 1 (.sl n 0 m 1 (.ex m))=some (l.flatMap Cj,l.length))(hl:l.length≤100)(hc:cs.length≤100):
  ∃r H',Mm 1 16 (H++[some (.cells (cs.flatMap Cj))]) (.sl n 0 m 1 (.ex m)) (.sl H.length 0 cs.length 1 (.ex cs.length))=some (r,H')∧Aa H' 1 r=some ((l++cs).flatMap Cj,(l++cs).length)∧Grew H0 H':=by
 have s2:Aa (H++[some (.cells (cs.flatMap Cj))]) 1 (.sl H.length 0 cs.length 1 (.ex cs.length))=some (cs.flatMap Cj,cs.length):=by
  rw[A9 CI (by rw[NM];omega),Ad9,Ah5,Ac1 (by rw[NM];omega)]
 obtain⟨r,H8,a1,a2,a3,a4,a5,a6⟩:=CC (sz:=1) (bytes:=16) ((Grew.app H [some (AObj.cells (cs.flatMap Cj))]).slice hv) rfl (AI s2) (by omega);refine⟨r,H8,a1,by rw[a3,Ag4,Ac6],?_⟩;rw[Ac6]at a4
 have:=g.1
 refine⟨by omega,λi hi=>?_⟩;rw[a5 i (by rw[Ac6];omega) (by simp only[AU,Ag2];omega),Ab9 (by omega),g.2 i hi]
theorem qU (w:Nat)(hw:w<256)(H:AH):∃r H',(Aa H' 1 r=some ((Tv w).flatMap Cj,(Tv w).length)∧Grew H H')∧BCall prog 17 [.lit (.int .u8 w),.lit (.int .u8 0),.lit (.int .u8 1)] H r H':=Ot (by
 unfold Le;refine bC_of (bL 0 H) ?_;refine bC_of (bL 1 H) ?_;have e1:Cr H 1 2 (Be [(.lit (.string ⟨#[]⟩))] 2) [(0,1,S (A0 (Su 0))),(1,1,S (A0 (Su 1)))]=some (.sl H.length 0 2 1 (.ex 2),H++[some (.cells ([[97],[98]].flatMap Cj))]):=rfl;have r1:Ap .rem (.lit (.int .u8 (w:Int))) (.lit (.int .u8 4))=some (.lit (.int .u8 ((w % 4:Nat):Int))):=by rw[I5 (by omega) (by omega)];rfl
 simp only[e1,Az,r1,yV,CX];have g1:=Grew.app H [some (AObj.cells ([[97],[98]].flatMap Cj))]
 have s1:Aa (H++[some (AObj.cells ([[97],[98]].flatMap Cj))]) 1 (.sl H.length 0 2 1 (.ex 2))=some (([[97],[98]]:List Tx).flatMap Cj,([[97],[98]]:List Tx).length):=by
  rw[A9 CI (by simp[Cj])];rfl
 generalize (H++[some (AObj.cells ([[97],[98]].flatMap Cj))])=H5 at*;unfold Tv
 by_cases c1:w % 4=1
 ·rw[if_pos c1]
  simp only[show(((w % 4:Nat):Int)=1)from by omega,zE];have e2:Cr H5 1 1 (Be [(.lit (.string ⟨#[]⟩))] 1) [(0,1,(.lit (.string ⟨#[45,45,115,112,97,114,115,101,61,97,108,119,97,121,115]⟩)))]=some (.sl H5.length 0 1 1 (.ex 1),H5++[some (.cells ([PN].flatMap Cj))]):=rfl;obtain⟨r,H',q1,q2,q3⟩:=nO (n:=1) (cs:=[PN]) s1 rfl (by simp) (by omega);simp only[e2,Az,q1];exact⟨q2,g1.trans q3⟩
 rw[if_neg c1];simp only[show ¬(((w % 4:Nat):Int)=1)from by omega,yY]
 by_cases c2:w % 4=2
 ·rw[if_pos c2]
  simp only[show(((w % 4:Nat):Int)=2)from by omega,zE];have e2:Cr H5 1 1 (Be [(.lit (.string ⟨#[]⟩))] 1) [(0,1,(.lit (.string ⟨#[45,45,115,112,97,114,115,101,61,110,101,118,101,114]⟩)))]=some (.sl H5.length 0 1 1 (.ex 1),H5++[some (.cells ([LA].flatMap Cj))]):=rfl;obtain⟨r,H',q1,q2,q3⟩:=bN (cs:=[LA]) H g1 (Ac2 _) s1 (by simp) (by simp);simp only[yU,Aj4]at q1;simp only[e2,Az,q1];exact⟨q2,q3⟩
 rw[if_neg c2];simp only[show ¬(((w % 4:Nat):Int)=2)from by omega,yY]
 by_cases c3:w % 4=3
 ·rw[if_pos c3]
  simp only[show(((w % 4:Nat):Int)=3)from by omega,zE];have e2:Cr H5 1 2 (Be [(.lit (.string ⟨#[]⟩))] 2) [(0,1,(.lit (.string ⟨#[45,45,115,112,97,114,115,101,61,110,101,118,101,114]⟩))),(1,1,(.lit (.string ⟨#[45,45,115,112,97,114,115,101,61,97,117,116,111]⟩)))]=some (.sl H5.length 0 2 1 (.ex 2),H5++[some (.cells ([LA,oA].flatMap Cj))]):=rfl;obtain⟨r,H',q1,q2,q3⟩:=bN (cs:=[LA,oA]) H g1 (Ac2 _) s1 (by simp) (by simp);simp only[yU,Aj4,Nat.reduceAdd]at q1;simp only[e2,Az,q1];exact⟨q2,q3⟩
 rw[if_neg c3];simp only[show ¬(((w % 4:Nat):Int)=3)from by omega,yY];exact⟨s1,g1⟩)
def J5 (n:Int)(l:List Ext)(m:Int)(k:List Ext):bJ:=([⟨[97],1⟩,⟨[98],2⟩],[⟨1,n,l⟩,⟨2,m,k⟩])
theorem XK {n m:Int}{l k:List Ext}(h:Cs n l)(h':Cs m k):MayW (J5 n l m k).1 (J5 n l m k).2:=by
 refine⟨by simp[J5],?_,by simp only[J5];decide,by simp only[J5];decide,?_,?_,?_⟩
 ·intro x hx
  simp only[J5,Ad5,List.not_mem_nil,or_false]at hx;rcases hx with rfl | rfl
  ·exact⟨by decide,by simp only;omega,by simp only;omega⟩
  ·exact⟨by decide,by simp only;omega,by simp only;omega⟩
 ·simp[J5,Cb,Cc]
 ·intro d hd
  simp only[J5,Ad5,List.not_mem_nil,or_false]at hd;rcases hd with rfl | rfl
  ·exact h
  ·exact h'
 ·intro i
  simp[J5,AO]
theorem pB {n:Int}{l:List Ext}(h:Cs n l):B8 (G7 [97] n l).1 (G7 [97] n l).2 (DV [98] 2)=J5 n l 0 []:=by
 unfold B8;rw[if_pos (G4.2 (X3 (by decide) h)),if_pos (show(DV [98] 2).kind=1 from rfl),if_pos ⟨by simp[G7,AO,DV],by simp[G7,AO,DV],by decide,by simp[DV],by simp[DV],by simp[G7]⟩];rfl
theorem aX {n m m':Int}{l k k':List Ext}{o:OpM}(h:Cs n l)(h':Cs m k)(hk:o.kind=2∨o.kind=3∨o.kind=4∨o.kind=5)(hi:o.ino=2)(hc:Of o ⟨2,m,k⟩=some (m',k')):B8 (J5 n l m k).1 (J5 n l m k).2 o=J5 n l m' k':=by
 unfold B8;rw[if_pos (G4.2 (XK h h')),if_neg (by omega),if_pos hk];have e1:ZI Nd.ino (J5 n l m k).2 o.ino=some ⟨2,m,k⟩:=by rw[hi];rfl
 have e2:CZ Cc Nd.ino (J5 n l m k).2 o.ino=1:=by rw[hi];rfl
 unfold Qd;rw[e1];simp only[hc,e2];rfl
structure TW (cap n:Int)(l:List Ext)(m:Int)(k:List Ext)(s:StS):Prop where
 now:s.now=J5 n l m k
 ca:Cs n l
 cb:Cs m k
 cap:s.cap=cap
 off:s.off=false
 armed:s.armed= -1
theorem Ux {s:StS}(h:s.off=false)(h':s.armed= -1)(o:OpM):Lz s o=(0,{s with now:=B8 s.now.1 s.now.2 o,pend:=s.pend++[o]}):=by
 have hd:Bc s=(true,s):=by
  unfold Bc;rw[if_neg (by rw[h,h'];simp),if_neg (by rw[h'];omega)]
 unfold Lz;rw[hd];rfl
theorem TW.content {cap n m:Int}{l k:List Ext}{s:StS}(h:TW cap n l m k s):Ar s 2=((m,k),0):=by
 have hg:Ol s.now.1 s.now.2 2:=by
  rw[h.now];exact⟨G4.2 (XK h.ca h.cb),by simp[J5,AO]⟩
 unfold Ar;rw[if_neg (by rw[h.off];simp),if_pos hg]
 have:Fo s.now.1 s.now.2 2=⟨2,m,k⟩:=by
  unfold Fo;rw[if_pos hg,h.now];rfl
 rw[this]
theorem TW.get {cap n m:Int}{l k:List Ext}{s:StS}(h:TW cap n l m k s):Ol s.now.1 s.now.2 2∧Fo s.now.1 s.now.2 2=⟨2,m,k⟩:=by
 have hg:Ol s.now.1 s.now.2 2:=by
  rw[h.now];exact⟨G4.2 (XK h.ca h.cb),by simp[J5,AO]⟩
 refine⟨hg,?_⟩;unfold Fo;rw[if_pos hg,h.now];rfl
theorem ON.find {cap n:Int}{l:List Ext}{s:StS}(h:ON [97] cap n l s):EP s [97]=(1,0)∧EP s [98]=(0,3)∧¬T9 s.now.1 s.now.2 [98]:=by
 refine⟨?_,?_,?_⟩
 ·unfold EP
  rw[if_neg (by rw[h.off];simp),if_neg (λq=>q (by decide)),if_pos (by rw[h.now];simp[G7,AO]),h.now];rfl
 ·unfold EP
  rw[if_neg (by rw[h.off];simp),if_neg (λq=>q (by decide)),if_neg (by rw[h.now];simp[G7,AO])]
 ·rintro⟨-,q⟩
  rw[h.now]at q;simp[G7,AO]at q
theorem ON.open2 {cap n:Int}{l:List Ext}{s:StS}(h:ON [97] cap n l s)(hm:s.made=1):∃s',AZ s [98] true=((2,0),s')∧TW cap n l 0 [] s':=by
 unfold AZ;rw[h.find.2.1,if_neg (by simp),if_neg (by rw[h.now];simp[G7]),Ux h.off h.armed,if_neg (by simp),hm];exact⟨_,rfl,⟨by simp only[h.now];exact pB h.mc,h.mc,by decide,h.cap,h.off,h.armed⟩⟩
theorem TW.trunc {cap n m z:Int}{l k k':List Ext}{s:StS}(h:TW cap n l m k s)(hz:Cl (m,k) z=some (z,k'))(hk:Cs z k'):∃s',DD s 2 z=(0,s')∧TW cap n l z k' s':=by
 unfold DD;rw[h.content,if_neg (by simp),if_neg (by rw[hz];simp),Ux h.off h.armed];refine⟨_,rfl,⟨?_,h.ca,hk,h.cap,h.off,h.armed⟩⟩;simp only[h.now];refine aX h.ca h.cb (by simp[Sq]) rfl ?_
 show(if(3:Int)=2 then _ else if(3:Int)=3 then Cl (m,k) z else _)=_
 rw[if_neg (by omega),if_pos rfl,hz]
theorem ON.truncR {cap n z:Int}{l k:List Ext}{s:StS}(h:ON [97] cap n l s)(hz:Cl (n,l) z=some (z,k))(hk:Cs z k):∃s',DD s 1 z=(0,s')∧ON [97] cap z k s'∧s'.made=s.made:=by
 unfold DD;rw[h.content,if_neg (by simp),if_neg (by rw[hz];simp),Ux h.off h.armed];refine⟨_,rfl,⟨?_,h.nm,hk,h.cap,h.off,h.armed⟩,rfl⟩;simp only[h.now];unfold B8;rw[if_pos (G4.2 (X3 h.nm h.mc)),if_neg (by simp[Sq]),if_pos (by simp[Sq])];have e1:ZI Nd.ino (G7 [97] n l).2 (Sq 1 z).ino=some ⟨1,n,l⟩:=rfl;have e2:CZ Cc Nd.ino (G7 [97] n l).2 (Sq 1 z).ino=0:=rfl
 have e3:Of (Sq 1 z) ⟨1,n,l⟩=some (z,k):=by
  show(if(3:Int)=2 then _ else if(3:Int)=3 then Cl (n,l) z else _)=_
  rw[if_neg (by omega),if_pos rfl,hz]
 unfold Qd;rw[e1];simp only[e3,e2];rfl
theorem S4 {n z:Int}(h:0≤n)(h':n≤1099511627776)(k:0≤z)(k':z≤1099511627776):Cl (n,[]) z=some (z,[])∧Cs z []:=by
 have m:∀y:Int,0≤y→y≤1099511627776→Cs y []:=λy a b=>⟨a,b,trivial⟩
 refine⟨?_,m z k k'⟩;unfold Cl;rw[if_pos ⟨m n h h',k,k'⟩];rfl
theorem ON.cpOpen {cap n:Int}{l:List Ext}{s:StS}(h:ON [97] cap n l s)(hm:s.made=1):∃s',Ci s [98]=(0,2,s')∧TW cap n l 0 [] s':=by
 obtain⟨s1,e1,h1⟩:=h.open2 hm;obtain⟨t,m⟩:=S4 (n:=0) (z:=0) (by omega) (by omega) (by omega) (by omega);obtain⟨s2,e2,h2⟩:=h1.trunc t m;unfold Ci;rw[e1];simp only[e2];exact⟨s2,rfl,h2⟩
theorem Zf (H:AH)(e:Int):AD H (.agg [(I 0),(.lit (.string ⟨#[]⟩)),(I 0),(I 0),(I 0),(I 0),(I 0)])=some (.ptr H.length 0,H++[some (.cells [I 0,S (A0 []),I 0,I 0,I 0,I 0,I 0])])∧AT 7 (H++[some (AObj.cells [I 0,S (A0 []),I 0,I 0,I 0,I 0,I 0])]) (.ptr H.length 0) (aN e)=some (H++[some (.cells [I e,S (A0 []),I 0,I 0,I 0,I 0,I 0])]):=by
 refine⟨rfl,?_⟩;unfold aN;rw[AC (n:=7) (xs:=[I e,S (A0 []),I 0,I 0,I 0,I 0,I 0]) (cs:=[I 0,S (A0 []),I 0,I 0,I 0,I 0,I 0]) (by simp[BH,oneA]) CI rfl (by simp)];simp[AR]
theorem Y0 (H:AH)(z:Int){L:AV}(oL:oneA L=true):AD H (.agg [(I 0),Ad])=some (.ptr H.length 0,H++[some (.cells [I 0,Ad])])∧AT 2 (H++[some (AObj.cells [I 0,Ad])]) (.ptr H.length 0) (.agg [I z,L])=some (H++[some (.cells [I z,L])]):=by
 refine⟨rfl,?_⟩;rw[AC (n:=2) (xs:=[I z,L]) (cs:=[I 0,Ad]) (by simp[oL]) CI rfl (by simp)];simp[AR]
end Go.Proofs.YtbppnhenlboefaaGreat.Av
end
section
set_option maxHeartbeats 1000000
namespace Go.Proofs.YtbppnhenlboefaaGreat.Av
open Go Go.RowKit
theorem TW.free {cap n m:Int}{l k:List Ext}{s:StS}(h:TW cap n l m k s):LX s=max 0 (cap - (l.length+k.length:Nat)):=by
 unfold LX;rw[h.cap,h.now];have:JD (J5 n l m k).2=l.length+k.length:=by simp[JD,J5]
 rw[this]
theorem fG (f:Nat)(p u:Int):BU f p 0 u=[]:=by
 cases f with
 | zero=>rfl
 | succ f=>unfold BU;rw[if_neg (by omega)]
theorem Tc {no:Int}{c:Nat}(h:0≤no)(h2:no<137438953472)(h0:0<c)(h8:c≤8):Dx ⟨no*8,c⟩ 8=[⟨no*8,c⟩]:=by
 unfold Dx;rw[if_pos ⟨⟨by unfold May;simp only;omega,by unfold May;simp only;omega,by simp only;omega⟩,by simp only;omega,by omega⟩];obtain⟨d,rfl⟩:∃d,c=d+1:=⟨c - 1,by omega⟩
 show BU (((d+1:Nat):Int)).toNat (no*8) ((d+1:Nat):Int) 8=_
 rw[show(((d+1:Nat):Int)).toNat=d+1 by omega];unfold BU;rw[if_pos (by omega),show min ((d+1:Nat):Int) (8 - no*8 % 8)=((d+1:Nat):Int) by omega,show((d+1:Nat):Int) - ((d+1:Nat):Int)=0 by omega,fG]
theorem TW.wr {cap n m:Int}{l k:List Ext}{s:StS}(h:TW cap n l m k s){no size:Int}{b:List UInt8}(hno:0≤no)(hsz:no*8<size)(hs2:size≤1099511627776)(hb:b.length=8)(hf:Bb k no∨((l.length+k.length:Nat):Int)<cap):
  ∃s' k',XN 2 size s no b=(0,s')∧TW cap n l (max m (min (no*8+8) size)) k' s'∧(∀p,E4 k' p=if no*8≤p∧p<min (no*8+8) size then b.getD (p - no*8).toNat 0 else E4 k p)∧(∀a,Bb k' a↔Bb k a∨a=no)∧k'.length≤k.length+1:=by
 have hk:=(Dw.1 h.cb).2.2.1;obtain⟨c,hc⟩:∃c:Nat,min 8 (size - no*8)=c:=⟨(min 8 (size - no*8)).toNat,by omega⟩;have c0:0<c∧c≤8:=by omega
 have hmn:min (no*8+8) size=no*8+c:=by omega
 have hbs:(b.take c).length=c:=by rw[Ac0];omega
 have hne:b.take c≠[]:=by intro q;rw[q]at hbs;simp at hbs;omega
 have hw:DE (m,k) (no*8) (b.take c)=some (max m (no*8+c),Bo k (no*8) (b.take c)):=by
  unfold DE;rw[if_pos ⟨h.cb,by omega,by rw[hbs];omega,by rw[hbs];omega⟩,if_neg hne,hbs]
 have e1:XN 2 size s no b=(0,{s with now:=B8 s.now.1 s.now.2 (If 2 (no*8) (b.take c)),pend:=s.pend++[If 2 (no*8) (b.take c)]}):=by
  unfold XN BI;rw[hc,show((c:Int)).toNat=c by omega,h.content,if_neg (by simp),if_neg (λq=>q ⟨by omega,by rw[hbs];omega,by rw[hbs];omega⟩),hbs,Tc hno (by omega) c0.1 c0.2];unfold Pf
  have hp:DI (b.take c) (no*8) ⟨no*8,c⟩=b.take c:=by
   unfold DI;simp only;rw[show(no*8 - no*8).toNat=0 by omega,Ad9,show((c:Int)).toNat=c by omega,Ac1 (by omega)]
  have hfr:¬(¬Bb k (no*8/8)∧LX s=0):=by
   rw[show no*8/8=no by omega,h.free];rintro⟨q1,q2⟩;rcases hf with q | q
   ·exact q1 q
   ·omega
  simp only;rw[if_neg hfr,hp,Ux h.off h.armed,if_neg (by simp)];unfold Pf;rfl
 refine⟨_,Bo k (no*8) (b.take c),e1,⟨?_,h.ca,?_,h.cap,h.off,h.armed⟩,?_,?_,?_⟩
 ·simp only[h.now]
  rw[hmn];refine aX h.ca h.cb (.inl rfl) rfl ?_
  show(if(2:Int)=2 then DE (m,k) (no*8) (b.take c)else _)=_
  rw[if_pos rfl,hw]
 ·rw[hmn];exact NQ hw
 ·intro p
  rw[Z3 hk,hbs,hmn]
  by_cases q:no*8≤p∧p<no*8+c
  ·rw[if_pos q,if_pos q,Ac8,Ac8,Am9 (by omega)]
  ·rw[if_neg q,if_neg q]
 ·intro a
  rw[PC,hbs]
  constructor
  ·rintro(q | ⟨q,q1,q2,q3⟩)
   ·exact .inl q
   ·exact .inr (by omega)
  ·rintro(q | q)
   ·exact .inl q
   ·exact .inr ⟨no*8,by omega,by omega,by omega⟩
 ·exact PD hk (by rw[hbs];omega) hne
theorem IP {x:Ext}{l:List Ext}{a:Int}:Bb (x::l) a↔x.no=a∨Bb l a:=by
 unfold Bb;simp
theorem IZ {x:Ext}{l:List Ext}{p:Int}:E4 (x::l) p=if x.no=p/8 then x.b.getD (p % 8).toNat 0 else E4 l p:=by
 unfold E4;rw[List.find?_cons]
 by_cases c:x.no=p/8
 ·simp[c]
 ·simp[c]
theorem RY {cap n size:Int}{l:List Ext}(hs2:size≤1099511627776):∀(L:List Ext) {m:Int} {k:List Ext} {s:StS},TW cap n l m k s→srt L→(∀x∈L,0≤x.no∧x.no*8<size∧x.b.length=8∧¬Bb k x.no)→((l.length+k.length+L.length:Nat):Int)≤cap→
  ∃s' m' k',Ib 2 size L s=(0,s')∧TW cap n l m' k' s'∧(∀p,p<size→E4 k' p=if Bb L (p/8)then E4 L p else E4 k p)∧(∀a,Bb k' a↔Bb k a∨∃x∈L,x.no=a∧¬I2 x.b)
 | [],m,k,s,h,_,_,_=>by
  refine⟨s,m,k,rfl,h,λp _=>?_,λa=>by simp⟩;rw[if_neg (by simp[Bb])]
 | x::L,m,k,s,h,hs,hx,hc=>by
  obtain⟨x1,x2,x3,x4⟩:=hx x (by simp);have hs':=Ae4.1 hs
  have hLx:¬Bb L x.no:=by
   rintro⟨y,hy,e⟩
   have:=hs'.1 y hy;omega
  unfold Ib;rw[Ad7]at hc
  by_cases z:I2 x.b
  ·rw[if_pos z]
   obtain⟨s',m',k',e1,e2,e3,e4⟩:=RY hs2 L h hs'.2 (λy hy=>hx y (by simp[hy])) (by omega);refine⟨s',m',k',e1,e2,λp hp=>?_,λa=>?_⟩
   ·rw[e3 p hp,IZ]
    by_cases c:x.no=p/8
    ·have zz:x.b.getD (p % 8).toNat 0=0:=by
      rw[Ac8];cases hq:x.b[(p % 8).toNat]? with
      | none=>rfl
      | some y=>exact z y (Ac3 hq)
     rw[if_neg (by rw[← c];exact hLx),if_pos (IP.2 (.inl c)),if_pos c,zz];exact CE (by rw[← c];exact x4)
    ·rw[if_neg c]
     by_cases d:Bb L (p/8)
     ·rw[if_pos d,if_pos (IP.2 (.inr d))]
     ·rw[if_neg d,if_neg (λq=>(IP.1 q).elim c d)]
   ·rw[e4]
    constructor
    ·rintro(q | ⟨y,hy,q⟩)
     ·exact .inl q
     ·exact .inr ⟨y,by simp[hy],q⟩
    ·rintro(q | ⟨y,hy,q1,q2⟩)
     ·exact .inl q
     ·rcases Ad5.1 hy with rfl | hy
      ·exact absurd z q2
      ·exact .inr ⟨y,hy,q1,q2⟩
  ·rw[if_neg z]
   obtain⟨s1,k1,w1,w2,w3,w4,w5⟩:=h.wr x1 x2 hs2 x3 (.inr (by omega));rw[w1];simp only[zF]
   obtain⟨s',m',k',e1,e2,e3,e4⟩:=RY hs2 L w2 hs'.2 (λy hy=>by
    obtain⟨y1,y2,y3,y4⟩:=hx y (by simp[hy]);refine⟨y1,y2,y3,λq=>?_⟩
    have:=hs'.1 y hy
    rcases(w4 _).1 q with q | q
    ·exact y4 q
    ·omega) (by omega)
   refine⟨s',m',k',e1,e2,λp hp=>?_,λa=>?_⟩
   ·rw[e3 p hp,IZ,w3]
    by_cases c:x.no=p/8
    ·rw[if_neg (by rw[← c];exact hLx),if_pos (IP.2 (.inl c)),if_pos c,if_pos ⟨by omega,by omega⟩,show p - x.no*8=p % 8 by omega]
    ·rw[if_neg c,if_neg (show ¬(x.no*8≤p∧p<min (x.no*8+8) size) by omega)]
     by_cases d:Bb L (p/8)
     ·rw[if_pos d,if_pos (IP.2 (.inr d))]
     ·rw[if_neg d,if_neg (λq=>(IP.1 q).elim c d)]
   ·rw[e4,w4]
    constructor
    ·rintro((q | q) | ⟨y,hy,q⟩)
     ·exact .inl q
     ·exact .inr ⟨x,by simp,q.symm,z⟩
     ·exact .inr ⟨y,by simp[hy],q⟩
    ·rintro(q | ⟨y,hy,q1,q2⟩)
     ·exact .inl (.inl q)
     ·rcases Ad5.1 hy with rfl | hy
      ·exact .inl (.inr q1.symm)
      ·exact .inr ⟨y,hy,q1,q2⟩
theorem mY (i:Nat):z8.getD i 0=0:=by
 rw[Ac8];cases hq:z8[i]? with
 | none=>rfl
 | some y=>
  have:=Ac3 hq
  have h:∀y∈z8,y=0:=by decide
  exact h y this
theorem dC {no:Int}{L:List Ext}(hs:srt L)(hL:∀x∈L,no≤x.no):(∀p,p/8=no→(GP no L).1.getD (p % 8).toNat 0=E4 L p)∧(∀p,no<p/8→E4 (GP no L).2 p=E4 L p)∧srt (GP no L).2∧(∀x∈(GP no L).2,no+1≤x.no∧x∈L):=by
 unfold GP;cases L with
 | nil=>exact⟨λp _=>(mY _).trans rfl,λp _=>rfl,hs,by simp⟩
 | cons x L=>
  have hs':=Ae4.1 hs;simp only
  by_cases c:x.no=no
  ·rw[if_pos c]
   refine⟨λp hp=>?_,λp hp=>?_,hs'.2,λy hy=>⟨by have:=hs'.1 y hy;omega,by simp[hy]⟩⟩
   ·rw[IZ,if_pos (by omega)]
   ·rw[IZ,if_neg (by omega)]
  ·rw[if_neg c]
   have hx:=hL x (by simp);refine⟨λp hp=>?_,λp hp=>rfl,hs,λy hy=>⟨?_,hy⟩⟩
   ·rw[mY,CE]
    rintro⟨y,hy,e⟩;rcases Ad5.1 hy with rfl | hy
    ·omega
    ·have:=hs'.1 y hy;omega
   ·rcases Ad5.1 hy with rfl | hy
    ·omega
    ·have:=hs'.1 y hy;omega
theorem bV {cap n size:Int}{l:List Ext}(hs2:size≤1099511627776):∀(c:Nat) {no m:Int} {L k:List Ext} {s:StS},TW cap n l m k s→srt L→(∀x∈L,no≤x.no)→0≤no→(c=0∨(no+c - 1)*8<size)→((l.length+k.length+c:Nat):Int)≤cap→
  ∃s' m' k',PL 2 size c no L s=(0,s')∧TW cap n l m' k' s'∧(∀p,p<size→E4 k' p=if no*8≤p∧p<(no+c)*8 then E4 L p else E4 k p)∧(∀a,Bb k' a↔Bb k a∨(no≤a∧a<no+c))
 | 0,no,m,L,k,s,h,_,_,_,_,_=>⟨s,m,k,rfl,h,λp _=>by rw[if_neg (by omega)],λa=>⟨.inl,λq=>q.elim id λq=>by omega⟩⟩
 | c+1,no,m,L,k,s,h,hs,hL,hno,hsz,hc=>by
  obtain⟨p1,p2,p3,p4⟩:=dC hs hL;unfold PL;obtain⟨s1,k1,w1,w2,w3,w4,w5⟩:=h.wr (b:=(GP no L).1) hno (by omega) hs2 (IQ no L) (.inr (by omega));rw[w1];simp only[zF];obtain⟨s',m',k',e1,e2,e3,e4⟩:=bV hs2 c w2 p3 (λx hx=>(p4 x hx).1) (by omega) (by omega) (by omega);refine⟨s',m',k',e1,e2,λp hp=>?_,λa=>?_⟩
  ·rw[e3 p hp,w3]
   by_cases q1:p/8=no
   ·rw[if_neg (by omega),if_pos ⟨by omega,by omega⟩,if_pos ⟨by omega,by omega⟩,show p - no*8=p % 8 by omega,p1 p q1]
   ·by_cases q2:(no+1)*8≤p∧p<(no+1+c)*8
    ·rw[if_pos q2,if_pos ⟨by omega,by omega⟩,p2 p (by omega)]
    ·rw[if_neg q2,if_neg (show ¬(no*8≤p∧p<min (no*8+8) size) by omega),if_neg (by omega)]
  ·rw[e4,w4]
   constructor
   ·rintro((q | q) | q)
    ·exact .inl q
    ·exact .inr (by omega)
    ·exact .inr (by omega)
   ·rintro(q | q)
    ·exact .inl (.inl q)
    ·by_cases a=no
     ·exact .inl (.inr (by omega))
     ·exact .inr (by omega)
theorem TO:∀(c:Nat) {a:Int} {l:List Ext},srt l→(∀no,Bb l no↔a≤no∧no<a+c)→l.length=c
 | 0,a,[],_,_=>rfl
 | 0,a,x::l,_,h=>by have:=(h x.no).1 ⟨x,by simp,rfl⟩;omega
 | c+1,a,[],_,h=>by
  obtain⟨y,hy,_⟩:=(h a).2 (by omega);simp at hy
 | c+1,a,x::l,hs,h=>by
  have hs':=Ae4.1 hs;have hx:=(h x.no).1 ⟨x,by simp,rfl⟩
  have e:x.no=a:=by
   obtain⟨y,hy,e⟩:=(h a).2 (by omega);rcases Ad5.1 hy with rfl | hy
   ·exact e
   ·have:=hs'.1 y hy;omega
  rw[Ad7,TO c (a:=a+1) hs'.2 λno=>?_]
  constructor
  ·rintro⟨y,hy,q⟩
   have:=hs'.1 y hy
   have:=(h no).1 ⟨y,by simp[hy],q⟩
   omega
  ·intro q
   obtain⟨y,hy,r⟩:=(h no).2 (by omega);rcases Ad5.1 hy with rfl | hy
   ·omega
   ·exact⟨y,hy,r⟩
theorem Em {size:Int}:∀{l:List Ext},srt l→∀x,x∈Bv size l↔x∈l∧x.no*8<size
 | [],_,x=>by simp[Bv]
 | y::l,hs,x=>by
  have hs':=Ae4.1 hs;unfold Bv
  split
  ·rename_i c
   rw[Ad5,Em hs'.2 x,Ad5]
   constructor
   ·rintro(rfl | q)
    ·exact⟨.inl rfl,c⟩
    ·exact⟨.inr q.1,q.2⟩
   ·rintro⟨rfl | q,r⟩
    ·exact .inl rfl
    ·exact .inr ⟨q,r⟩
  ·rename_i c
   constructor
   ·intro q;simp at q
   ·rintro⟨q,r⟩
    rcases Ad5.1 q with rfl | q
    ·exact absurd r c
    ·have:=hs'.1 x q;omega
theorem K3 {size:Int}:∀{l:List Ext},srt l→srt (Bv size l)
 | [],h=>h
 | y::l,hs=>by
  have hs':=Ae4.1 hs;unfold Bv
  split
  ·exact Ae4.2 ⟨λx hx=>hs'.1 x ((Em hs'.2 x).1 hx).1,K3 hs'.2⟩
  ·exact List.Pairwise.nil
theorem Qb {size:Int}{l:List Ext}(hs:srt l){p:Int}(h:p<size):E4 (Bv size l) p=E4 l p:=by
 induction l with
 | nil=>rfl
 | cons y l ih=>
  have hs':=Ae4.1 hs;unfold Bv
  split
  ·rw[IZ,IZ,ih hs'.2]
  ·rename_i c
   show(0:UInt8)=_
   rw[CE];rintro⟨x,hx,e⟩;rcases Ad5.1 hx with rfl | hx
   ·omega
   ·have:=hs'.1 x hx;omega
theorem dL {cap n:Int}{l:List Ext}{s s1:StS}{hl:Bool}(h0:Ci s [98]=(0,2,s1))(h:TW cap n l 0 [] s1)(h8:∀x∈l,x.b.length=8)(hn:hl=true∨n≤32768)(hr:((l.length:Nat):Int)+(if hl=true then((Bv n l).length:Int)else Cx n)≤cap):
  ∃s' k,Ny hl s [98] (n,l)=(0,s')∧TW cap n l n k s'∧(∀p,p<n→E4 k p=E4 l p)∧(hl=true→∀x∈k,¬I2 x.b)∧(hl=false→(k.length:Int)=Cx n):=by
 obtain⟨n0,n1,sl,sb,sz⟩:=Dw.1 h.ca
 have key:∃s2 m2 k2,ME hl 2 (n,l) s1=(0,s2)∧TW cap n l m2 k2 s2∧(∀p,p<n→E4 k2 p=E4 l p)∧(hl=true→∀a,Bb k2 a→∃x∈l,x.no=a∧x.no*8<n∧¬I2 x.b)∧(hl=false→∀a,Bb k2 a↔0≤a∧a<Cx n):=by
  unfold ME;cases hl with
  | true=>
   simp only[if_true]at hr⊢
   obtain⟨s2,m2,k2,e1,e2,e3,e4⟩:=RY n1 (Bv n l) h (K3 sl) (λx hx=>by
    obtain⟨x1,x2⟩:=(Em sl x).1 hx;exact⟨(sb x.no ⟨x,x1,rfl⟩).1,x2,h8 x x1,by simp[Bb]⟩) (by simp only[Ai0];omega)
   refine⟨s2,m2,k2,e1,e2,λp hp=>?_,λ_ a ha=>?_,λq=>by cases q⟩
   ·rw[e3 p hp,Qb sl hp]
    split
    ·rfl
    ·rename_i q
     rw[← Qb sl hp,CE q];rfl
   ·rcases(e4 a).1 ha with q | ⟨x,hx,q1,q2⟩
    ·simp[Bb]at q
    ·obtain⟨x1,x2⟩:=(Em sl x).1 hx
     exact⟨x,x1,q1,x2,q2⟩
  | false=>
   simp only[An]at hr⊢;have hc0:0≤Cx n:=by unfold Cx;omega
   obtain⟨s2,m2,k2,e1,e2,e3,e4⟩:=bV n1 (Cx n).toNat h (K3 sl) (no:=0) (λx hx=>(sb x.no ⟨x,((Em sl x).1 hx).1,rfl⟩).1) (by omega) (by unfold Cx;omega) (by simp only[Ai0];omega);refine⟨s2,m2,k2,e1,e2,λp hp=>?_,λq=>(by cases q),λ_ a=>?_⟩
   ·rw[e3 p hp,Qb sl hp]
    split
    ·rfl
    ·rename_i q
     have:p<0:=by
      unfold Cx at q;omega
     have e:¬Bb l (p/8):=λz=>by have:=(sb _ z).1;omega
     rw[CE e];rfl
   ·rw[e4]
    constructor
    ·rintro(q | q)
     ·simp[Bb]at q
     ·omega
    ·intro q;exact .inr (by omega)
 obtain⟨s2,m2,k2,e1,e2,e3,e4,e5⟩:=key
 have tz:Cl (m2,k2) n=some (n,Dy k2 n):=by
  unfold Cl;rw[if_pos ⟨e2.cb,n0,n1⟩]
 have hk2:=Dw.1 e2.cb;have lt2:∀no,Bb k2 no→no<137438953472:=λno q=>(hk2.2.2.2.1 no q).2
 have mz:Cs n (Dy k2 n):=by
  refine Dw.2 ⟨n0,n1,Vy hk2.2.2.1 n,λno q=>hk2.2.2.2.1 no (Vx.1 q).1,λp hp=>?_⟩;rw[dT hk2.2.2.1 lt2,if_neg (by omega)]
 obtain⟨s3,t1,t2⟩:=e2.trunc tz mz;have at3:∀p,p<n→E4 (Dy k2 n) p=E4 l p:=λp hp=>by rw[dT hk2.2.2.1 lt2,if_pos hp,e3 p hp]
 refine⟨s3,Dy k2 n,?_,t2,at3,λq x hx=>?_,λq=>?_⟩
 ·unfold Ny
  rw[if_neg (λq=>hn.elim (λc=>by rw[c]at q;cases q.1) (λc=>by have:=q.2;simp only at this;omega)),h0];simp only[e1,zF];exact t1
 ·have hx':Bb (Dy k2 n) x.no:=⟨x,hx,rfl⟩
  obtain⟨y,y1,y2,y3,y4⟩:=e4 q x.no (Vx.1 hx').1;intro z;refine y4 λc hc=>?_
  obtain⟨i,hi,e⟩:=List.mem_iff_getElem.1 hc;have h8y:=h8 y y1
  have hat:∀{L:List Ext} {w:Ext},srt L→w∈L→∀i:Nat,i<8→E4 L (w.no*8+i)=w.b.getD i 0:=by
   intro L
   induction L with
   | nil=>intro w _ q;simp at q
   | cons u L ih=>
    intro w hs q i hi;have hs':=Ae4.1 hs;rw[IZ];rcases Ad5.1 q with rfl | q
    ·rw[if_pos (by omega),show((w.no*8+(i:Int)) % 8).toNat=i by omega]
    ·have:=hs'.1 w q
     rw[if_neg (by omega),ih hs'.2 q i hi]
  have a1:=hat sl y1 i (by omega);have a2:=hat (Vy hk2.2.2.1 n) hx i (by omega)
  have bx:x.b.getD i 0=0:=by
   rw[Ac8];cases hq:x.b[i]? with
   | none=>rfl
   | some u=>exact z u (Ac3 hq)
  have:y.b.getD i 0=c:=by rw[Ac8,DR hi,e];rfl
  rw[← this,← a1,y2]
  by_cases g:x.no*8+(i:Int)<n
  ·rw[← at3 _ g,a2,bx]
  ·exact sz _ (by omega)
 ·have hh:∀no,Bb (Dy k2 n) no↔0≤no∧no<0+((Cx n).toNat:Int):=λno=>by
   rw[Vx,e5 q];unfold Cx;omega
  rw[TO (Cx n).toNat (Vy hk2.2.2.1 n) hh];unfold Cx;omega
end Go.Proofs.YtbppnhenlboefaaGreat.Av
end
section
set_option maxHeartbeats 1000000
namespace Go.Proofs.YtbppnhenlboefaaGreat.Av
open Go Go.RowKit
theorem TW.do {cap n m:Int}{l k:List Ext}{s:StS}(h:TW cap n l m k s){p:Int}{bs:List UInt8}(hb:bs≠[])(hp:0≤p)(hlen:bs.length≤4096)(hf:p≤1099511627776 - bs.length):
  (Lz s (If 2 p bs)).1=0∧TW cap n l (max m (p+bs.length)) (Bo k p bs) (Lz s (If 2 p bs)).2:=by
 have hw:DE (m,k) p bs=some (max m (p+bs.length),Bo k p bs):=by
  unfold DE;rw[if_pos ⟨h.cb,hp,hlen,hf⟩,if_neg hb]
 rw[Ux h.off h.armed];refine⟨rfl,?_,h.ca,NQ hw,h.cap,h.off,h.armed⟩;simp only[h.now];refine aX h.ca h.cb (.inl rfl) rfl ?_
 show(if(2:Int)=2 then DE (m,k) p bs else _)=_
 rw[if_pos rfl,hw]
theorem TW.cuts {cap n:Int}{l c:List Ext}{pos:Int}{b:List UInt8}(hpos:0≤pos)(hbl:b.length≤4096)(hf:pos≤1099511627776 - b.length):∀(f j:Nat) {m:Int} {k:List Ext} {s:StS},j≤b.length→b.length - j≤f→TW cap n l m k s→((l.length+k.length+(b.length - j):Nat):Int)≤cap→
  ∃s',Pf c 2 pos b (BU f (pos+j) (b.length - j:Nat) 8) s=(((b.length:Int),0),s')∧∃m' k',TW cap n l m' k' s'∧k'=Bo k (pos+j) (b.drop j)∧m'=(if b.length - j=0 then m else max m (pos+b.length))∧k'.length≤k.length+(b.length - j)
 | 0,j,m,k,s,hk,hfk,h,hc=>by
  have e:b.drop j=[]:=Ad2 (by omega);refine⟨s,by simp[BU,Pf],m,k,h,by rw[e];rfl,by rw[if_pos (by omega)],by omega⟩
 | f+1,j,m,k,s,hk,hfk,h,hc=>by
  by_cases h0:b.length - j=0
  ·have e:b.drop j=[]:=Ad2 (by omega)
   refine⟨s,?_,m,k,h,by rw[e];rfl,by rw[if_pos h0],by omega⟩;unfold BU;rw[if_neg (by omega)];unfold Pf;rfl
  ·have m1:=Aj2 (pos+j) (show(0:Int)<8 by omega)
   have m2:=Ak4 (pos+j) (show(8:Int)≠0 by omega);obtain⟨u,hu⟩:∃u:Nat,min ((b.length - j:Nat):Int) (8 - (pos+j) % 8)=u:=⟨(min ((b.length - j:Nat):Int) (8 - (pos+j) % 8)).toNat,by omega⟩;have n1:0<u∧u≤8∧u≤b.length - j:=by omega
   unfold BU;rw[if_pos (by omega),hu]
   have hpb:DI b pos ⟨pos+j,u⟩=(b.drop j).take u:=by
    unfold DI;simp only;rw[show(pos+j - pos).toNat=j by omega,show((u:Int)).toNat=u by omega]
   have hbs:((b.drop j).take u).length=u:=by rw[Ac0,Ac7];omega
   have hne:(b.drop j).take u≠[]:=by intro q;rw[q]at hbs;simp at hbs;omega
   obtain⟨d1,d2⟩:=h.do hne (p:=pos+j) (by omega) (by omega) (by omega);unfold Pf;rw[if_neg (λq=>by have:=h.free;omega),hpb];simp only;rw[if_neg (by rw[d1];simp)];rw[hbs]at d2;have hl1:=PD (Dw.1 h.cb).2.2.1 (p:=pos+j) (bs:=(b.drop j).take u) (by omega) hne;obtain⟨s',w1,m',k',w2,w3,w4,w5⟩:=TW.cuts (c:=c) hpos hbl hf f (j+u) (by omega) (by omega) d2 (by omega);refine⟨s',?_,m',k',w2,?_,?_,by omega⟩
   ·rw[show pos+(j:Int)+u=pos+(j+u:Nat) by omega,show((b.length - j:Nat):Int) - u=(b.length - (j+u):Nat) by omega]
    exact w1
   ·rw[w3]
    conv=>rhs;rw[← Af3 u (b.drop j)]
    rw[V1,hbs,Ag3]
    congr 1
    omega
   ·rw[w4,if_neg h0]
    split<;>omega
theorem TW.write {cap n m pos:Int}{l k:List Ext}{s:StS}{b:List UInt8}(h:TW cap n l m k s)(hpos:0≤pos)(hbl:b.length≤4096)(hf:pos≤1099511627776 - b.length)(hc:((l.length+k.length+b.length:Nat):Int)≤cap):
  ∃s',BI s 2 pos b=(((b.length:Int),0),s')∧∃m' k',TW cap n l m' k' s'∧k'=Bo k pos b∧m'=(if b.length=0 then m else max m (pos+b.length))∧k'.length≤k.length+b.length:=by
 unfold BI;rw[h.content,if_neg (by simp),if_neg (λq=>q ⟨hpos,hbl,hf⟩)]
 have e:Dx ⟨pos,b.length⟩ 8=BU (b.length) pos b.length 8:=by
  unfold Dx;rw[if_pos ⟨⟨by unfold May;simp only;omega,by unfold May;simp only;omega,by simp only;omega⟩,by simp only;omega,by omega⟩]
  show BU ((b.length:Int)).toNat pos b.length 8=_
  rw[show((b.length:Int)).toNat=b.length by omega]
 rw[e]
 have:=TW.cuts (c:=k) hpos hbl hf b.length 0 (by omega) (by omega) h (by omega)
 simpa using this
theorem TW.pcs {cap n:Int}{l:List Ext}:∀(L:List (List UInt8)) {m at' sum:Int} {k:List Ext} {s:StS},TW cap n l m k s→(∀b∈L,b.length≤4096)→0≤at'→at'+Hh L≤1000000→((l.length+k.length+Hh L:Nat):Int)≤cap→
  ∃s' m' k' a u,Av.pcs 2 L s at' sum=((s',a,u),0)∧TW cap n l m' k' s'∧k'.length≤k.length+Hh L
 | [],m,at',sum,k,s,h,_,_,_,_=>⟨s,m,k,at',sum,rfl,h,by omega⟩
 | b::r,m,at',sum,k,s,h,hb,ha,hl,hc=>by
  have eL:Hh (b::r)=b.length+Hh r:=by simp[Hh]
  rw[eL]at hl hc;have hb1:=hb b (by simp);obtain⟨s1,e1,m1,k1,t1,-,-,t2⟩:=h.write (pos:=at') ha hb1 (by omega) (by omega);unfold Av.pcs;rw[e1,if_pos rfl];obtain⟨s',m',k',a,u,w1,w2,w3⟩:=TW.pcs r (at':=at'+b.length) (sum:=sum+b.length) t1 (λx hx=>hb x (by simp[hx])) (by omega) (by omega) (by omega);exact⟨s',m',k',a,u,w1,w2,by omega⟩
theorem TW.sync {cap n m:Int}{l k:List Ext}{s:StS}(h:TW cap n l m k s)(L:List Int):∃s',Pb s L=(0,s')∧TW cap n l m k s':=by
 have hd:Bc s=(true,s):=by
  unfold Bc;rw[if_neg (by rw[h.off,h.armed];simp),if_neg (by rw[h.armed];omega)]
 unfold Pb;rw[hd];exact⟨_,rfl,h.now,h.ca,h.cb,h.cap,h.off,h.armed⟩
theorem pJ {cap n:Int}{l:List Ext}{s:StS}(h:ON [97] cap n l s)(hm:s.made=1){L:List (List UInt8)}(hb:∀b∈L,b.length≤4096)(hl:Hh L≤900000)(hc:((l.length+Hh L:Nat):Int)≤cap):
  ∃s' m k,Vl s [98] L=(0,s')∧TW cap n l m k s'∧k.length≤Hh L:=by
 obtain⟨s1,e1,h1⟩:=h.open2 hm;obtain⟨t,mz⟩:=S4 (n:=0) (z:=0) (by omega) (by omega) (by omega) (by omega);obtain⟨s2,e2,h2⟩:=h1.trunc t mz;obtain⟨s3,m3,k3,a,u,e3,h3,l3⟩:=TW.pcs L (at':=0) (sum:=0) h2 hb (by omega) (by omega) (by simpa using hc);obtain⟨s4,e4,h4⟩:=h3.sync [2];refine⟨s4,m3,k3,?_,h4,by simpa using l3⟩;unfold Vl;rw[e1];simp only[zF,e2,e3,e4]
theorem Z2 {c:List Ext}{ino pos:Int}{b:List UInt8}:∀{l:List Sp} {s:StS},(Pf c ino pos b l s).2.made=s.made
 | [],s=>rfl
 | q::r,s=>by
  have hd:∀o,(Lz s o).2.made=s.made:=λo=>by
   obtain⟨-,-,-,q4,-⟩:=GZ s;unfold Lz;split<;>exact q4
  unfold Pf
  split
  ·rfl
  ·split
   ·exact hd _
   ·rw[Z2,hd]
theorem Tp (s:StS)(ino pos:Int)(b:List UInt8):(BI s ino pos b).2.made=s.made:=by
 unfold BI
 split
 ·rfl
 ·split
  ·rfl
  ·exact Z2
theorem iD {l:List Ext}{z:Int}:(Dy l z).length≤l.length:=by
 unfold Dy Pe;rw[Ae9];exact Ah4 _ _
theorem WI {n z:Int}{l:List Ext}(h:Cs n l)(h0:0≤z)(h1:z≤1099511627776):Cl (n,l) z=some (z,Dy l z)∧Cs z (Dy l z):=by
 have hk:=Dw.1 h;refine⟨?_,Dw.2 ⟨h0,h1,Vy hk.2.2.1 z,λno q=>hk.2.2.2.1 no (Vx.1 q).1,λp hp=>?_⟩⟩
 ·unfold Cl
  rw[if_pos ⟨h,h0,h1⟩]
 ·rw[dT hk.2.2.1 (λno q=>(hk.2.2.2.1 no q).2),if_neg (by omega)]
end Go.Proofs.YtbppnhenlboefaaGreat.Av
end
section
set_option maxHeartbeats 1000000
namespace Go.Proofs.YtbppnhenlboefaaGreat.Av
open Go Go.RowKit Go.Proofs.Tryz
theorem pC:(AZ (LB 600) [97] true).1=(1,0)∧ON [97] 600 0 [] (AZ (LB 600) [97] true).2∧(AZ (LB 600) [97] true).2.made=1:=by
 refine⟨rfl,⟨by decide,by decide,by decide,rfl,rfl,rfl⟩,rfl⟩
theorem sX (H:AH)(x:Ext)(t:List AV):Lx 8 1 H (.ip (AB x.b++t)) none none=some (.imm (AB x.b) 8 1)∧Aa H 1 (.imm (AB x.b) 8 1)=some (AB x.b,x.b.length):=by
 have hl:(AB x.b).length=8:=by rw[B3,x.hb]
 constructor
 ·show some (AV.imm (((AB x.b++t).drop (0*1)).take ((8 - 0)*1)) (8 - 0) 1)=_
  rw[Al7,Ad9,Ad4 (by omega),Ac1 (by omega)]
 ·rw[x.hb];simp[Aa,hl]
theorem tF {l:List Ext}{n:Nat}{R v:AV}{A:List UInt8}(hR:SV Ax 9 l R)(hn:n<500)(hl:l.length≤30)(hno:∀x∈l,0≤x.no∧x.no≤90)(hv:SV Je 1 A v)(hA:A.length≤200)(H:AH):
  ACalls prog 15 [I 600,.agg [I n,R],v] H λr H'=>∃os s m l' k p,r=.tup [.ptr os 0,B true]∧StAt s os p H'∧TW 600 n l' m k s∧l'.length≤240∧SW 10000 s:=by
 refine Ov ?_;unfold Hj;have oR:=SV.oneA hR;have e0:AD H (.agg [I n,R])=some (.ptr H.length 0,H++[some (.cells [I n,R])]):=by simp[oR]
 simp only[e0,Az];have top:=CI (H:=H) (x:=AObj.cells [I n,R]);obtain⟨r,H1,⟨p,rfl,ll1,st0,g0,hid⟩,hc⟩:=iL 600 (H++[some (.cells [I n,R])]) (by omega);refine bC_of hc ?_;have lH:(H++[some (AObj.cells [I n,R])]).length=H.length+1:=by simp
 have cb:Bes H.length [I n,R] (H++[some (AObj.cells [I n,R])]).length p H1:=⟨g0.cells top,by omega,by rw[hid];simp⟩;clear g0 hc top;generalize (H++[some (AObj.cells [I n,R])]).length=os at*;generalize H.length=co at*;have n1:V5 .eql So (.ptr os 0) (.lit (.pointer none))=some (B false):=rfl;simp only[n1,yV,Ag];obtain⟨r,H2,⟨rfl,p2,st2,f2⟩,hc⟩:=WM st0 (Sn 600) (by omega) (name:=[97]) (by simp) true;refine bC_of hc ?_;have w2:=QQ (Sn 600) [97] true;obtain⟨o1,o2,o3⟩:=pC;have cb2:=cb.step f2;clear hc;generalize AZ (LB 600) [97] true=O at*;rw[o1];simp only[zL,Ab];refine Kr (λm x2 x4 x8 x9 x10 x11 H'=>∃(k:Nat) (s':StS) (p':AV) (size':Int) (l':List Ext),k+m=l.length∧v=x2∧x4=.ptr co 0∧x8=.ptr os 0∧x9=I 1∧x10=I 0∧x11=I k∧StAt s' os p' H'∧Bes co [I n,R] os p' H'∧ON [97] 600 size' l' s'∧s'.made=1∧l'.length≤8*k∧SW (10+72*k) s') ?_ l.length
  ⟨0,O.2,p2,0,[],by omega,rfl,rfl,rfl,rfl,rfl,rfl,st2,cb2,o2,o3,by simp,w2.mono (by omega)⟩
 rintro m x2 x4 x8 x9 x10 x11 H3 RR hRR ⟨k,s',p',size',l',hk,rfl,rfl,rfl,rfl,rfl,rfl,st3,cb3,on3,md3,ln3,w3⟩;unfold GU;simp only[zJ,Ak cb3.at',hR.len,AN];rcases Ac5 k l.length with hlt | hge
 ·have hx:=DR hlt
  generalize l[k]=x at hx;obtain⟨n2,n3⟩:=hno x (Ac3 hx);have i0:∀t,(Ax x++t)[0]?=some (I x.no):=λ_=>rfl
  have i1:∀t,(Ax x++t).drop 1=AB x.b++t:=λ_=>rfl
  obtain⟨b1,b2⟩:=sX H3 x ((l.drop (k+1)).flatMap Ax);simp only[show(k:Int)<(l.length:Int) by omega,Ab8,zP,yS,yV,CX,hR.idx A1 hx rfl,NF,Lv,Ad9,Ah,i0,i1,DM (a:=x.no) (b:=8) (by omega) (by omega),b1];obtain⟨r,H4,⟨rfl,p4,st4,f4⟩,hc⟩:=WO st3 w3 1 (x.no*8) (b:=x.b) (by rw[x.hb];omega) b2 (by simp[AU]);refine bC_of hc ?_;obtain⟨s4,e4,sz4,l4,on4,-,-,ln4⟩:=on3.write (pos:=x.no*8) (b:=x.b) (by omega) (by rw[x.hb];omega) (by rw[x.hb];omega) (by rw[x.hb];omega);have w4:=Ro w3 1 (x.no*8) x.b;have m4:=Tp s' 1 (x.no*8) x.b;rw[e4]at st4 w4 m4⊢;rw[x.hb]at ln4 w4;simp only[zL,Ab,Aw (a:=(k:Int)) (b:=1) (by omega) (by omega)];refine hRR (m - 1) _ _ _ _ _ _ _ (by omega) ⟨k+1,s4,p4,sz4,l4,by omega,rfl,rfl,rfl,rfl,rfl,by simp,st4,cb3.step f4,on4,m4.trans md3,by omega,w4.mono (by omega)⟩
 ·simp only[show ¬(k:Int)<(l.length:Int) by omega,yY,Ab4,show((false==true)=false)from rfl,BE,yV]
  obtain⟨r,H4,⟨rfl,p4,st4,f4⟩,hc⟩:=TK st3 w3 (by omega) 1 n;refine bC_of hc ?_;obtain⟨tz,mz⟩:=WI on3.mc (z:=n) (by omega) (by omega);obtain⟨s4,e4,on4,md4⟩:=on3.truncR tz mz;have w4:=N8 w3 1 n;rw[e4]at st4 w4⊢;have hv1:=hv.oneA;have e5:Cr H4 1 1 (Be [Ad] 1) [(0,1,v)]=some (.sl H4.length 0 1 1 (.ex 1),H4++[some (.cells [v])]):=Rr hv1;simp only[CX,yW,zS,zP,yS,e5,Az];have g5:=Grew.app H4 [some (AObj.cells [v])];have iv:=hv.noId;have lo:=st4.os_lt;have lp:=st4.p_lt;obtain⟨cA1,cA2,cA3⟩:=I8 (bl:=[(v,A)]) (by simp;omega);have fA:(([(v,A)]:List (AV×List UInt8)).map Prod.snd).flatten=A:=by simp
  rw[fA]at cA1 cA3;have tl:=iD (l:=l') (z:=(n:Int));obtain⟨s5,m5,k5,e6,t6,-⟩:=pJ on4 (md4.trans md3) (L:=([(v,A)]:List (AV×List UInt8)).flatMap λx=>B9 x.2) cA2 (by omega) (by rw[cA3];omega);have w5:=X8 w4 [98] (([(v,A)]:List (AV×List UInt8)).flatMap λx=>B9 x.2)
  refine⟨_,iN (nm:=[98]) (bl:=[(v,A)]) (st4.grew g5) w4 (by simp) (by simp[Aa]) (by intro j hj;simp[AU]at hj;subst hj;exact⟨by omega,λq=>by have:=lp _ q;omega⟩) (by
   intro x hx;simp only[Ag2]at hx;subst hx;exact⟨hv.bytes _,hv1,by simp only;omega,by simp only[iv];simp⟩) (by simp) (by rw[cA3];omega),?_⟩
  rw[e6];rw[e6]at w5;rintro r H6 ⟨p6,rfl,st6,f6⟩;rw[cA3]at w5;simp only[CX,yW,Ab,As];exact⟨os,s5,m5,_,k5,p6,by trivial,st6,t6,by omega,w5.mono (by omega)⟩
end Go.Proofs.YtbppnhenlboefaaGreat.Av
end
section
set_option maxHeartbeats 1000000
namespace Go.Proofs.YtbppnhenlboefaaGreat.Av
open Go Go.RowKit Go.Proofs.Tryz
theorem aW {m:Int}{k:List Ext}(h:Cs m k):Cl (m,k) 0=some (0,[]):=by
 have e:Dy k 0=[]:=by
  unfold Dy
  have:k.filter (λx=>decide (x.no*8<(0:Int)))=[]:=by
   rw[List.filter_eq_nil_iff];intro x hx
   have:=((Dw.1 h).2.2.2.1 x.no ⟨x,hx,rfl⟩).1
   simp only[decide_eq_true_eq];omega
  rw[this];rfl
 rw[← e];exact(WI h (by omega) (by omega)).1
theorem TW.one {cap n m:Int}{l k:List Ext}{s:StS}(h:TW cap n l m k s):Ar s 1=((n,l),0)∧Ol s.now.1 s.now.2 1∧Fo s.now.1 s.now.2 1=⟨1,n,l⟩:=by
 have hg:Ol s.now.1 s.now.2 1:=by
  rw[h.now];exact⟨G4.2 (XK h.ca h.cb),by simp[J5,AO]⟩
 have:Fo s.now.1 s.now.2 1=⟨1,n,l⟩:=by
  unfold Fo;rw[if_pos hg,h.now];rfl
 refine⟨?_,hg,this⟩;unfold Ar;rw[if_neg (by rw[h.off];simp),if_pos hg,this]
theorem TW.finds {cap n m:Int}{l k:List Ext}{s:StS}(h:TW cap n l m k s):EP s [97]=(1,0)∧EP s [98]=(2,0):=by
 refine⟨?_,?_⟩
 ·unfold EP
  rw[if_neg (by rw[h.off];simp),if_neg (λq=>q (by decide)),if_pos (by rw[h.now];simp[J5,AO]),h.now];rfl
 ·unfold EP
  rw[if_neg (by rw[h.off];simp),if_neg (λq=>q (by decide)),if_pos (by rw[h.now];simp[J5,AO]),h.now];rfl
theorem TW.cpOpen {cap n m:Int}{l k:List Ext}{s:StS}(h:TW cap n l m k s):∃s',Ci s [98]=(0,2,s')∧TW cap n l 0 [] s':=by
 have e1:AZ s [98] true=((2,0),s):=by
  unfold AZ;rw[h.finds.2,if_pos (.inl (by simp))]
 obtain⟨s2,e2,h2⟩:=h.trunc (aW h.cb) (by decide);unfold Ci;rw[e1];simp only[e2];exact⟨s2,rfl,h2⟩
theorem sE {n m:Int}{l k:List Ext}{s:StS}(h:TW 600 n l m k s)(hn:n<500)(hl:l.length≤240)(w:Nat):
  ∃s' k',Xk s (Tv w)=(0,s')∧TW 600 n l n k' s'∧(∀p,p<n→E4 k' p=E4 l p)∧(EQ (Rz w) (n,l)→∀x∈k',¬I2 x.b)∧(¬EQ (Rz w) (n,l)→(k'.length:Int)=Cx n):=by
 have e:Xk s (Tv w)=Ny (decide (EQ (Rz w) (n,l))) s [98] (n,l):=by
  unfold Xk;rw[eN];simp only[dB,h.finds.1];unfold HY;rw[h.one.1];rfl
 rw[e];obtain⟨s1,e1,h1⟩:=h.cpOpen;have hb:=IL n l;obtain⟨s',k',r1,r2,r3,r4,r5⟩:=dL (hl:=decide (EQ (Rz w) (n,l))) e1 h1 (λx _=>x.hb) (.inr (by omega)) (by unfold Cx;split<;>omega);exact⟨s',k',r1,r2,r3,λq=>r4 (decide_eq_true q),λq=>r5 (decide_eq_false q)⟩
abbrev Bk:=UInt8×UInt8
def U0 (x:Bk):List AV:=[.lit (.int .u8 x.1.toNat),.lit (.int .u8 x.2.toNat)]
theorem Wm (x:Bk):(U0 x).length=2:=rfl
theorem oI (x:Bk)(t:List AV):(U0 x++t)[0]?=some (.lit (.int .u8 x.1.toNat)):=rfl
def Hy (sz no:Nat)(s:UInt8)(m:Nat):List UInt8:=(List.range 8).map λk=>if k<m∧no*8+k<sz then JH s.toNat k else 0
theorem Ys (sz no:Nat)(s:UInt8)(m:Nat):(Hy sz no s m).length=8:=by simp[Hy]
def oJ (sz no:Nat)(s:UInt8):Ext:=⟨no,Hy sz no s 8,Ys _ _ _ _⟩
def GM (sz:Nat):List Bk→Nat→List Ext
 | [],_=>[]
 | x::r,p=>oJ sz (p+x.1.toNat % 3) x.2::GM sz r (p+x.1.toNat % 3+1)
def Kb:List Bk→Nat→Nat
 | [],p=>p
 | x::r,p=>Kb r (p+x.1.toNat % 3+1)
theorem Ur {sz:Nat}{x:Bk}:∀{l:List Bk} {p:Nat},GM sz (l++[x]) p=GM sz l p++[oJ sz (Kb l p+x.1.toNat % 3) x.2]
 | [],p=>rfl
 | y::r,p=>by simp only[Ah7,GM,Kb,Ur]
theorem UY {x:Bk}:∀{l:List Bk} {p:Nat},Kb (l++[x]) p=Kb l p+x.1.toNat % 3+1
 | [],p=>rfl
 | y::r,p=>by simp only[Ah7,Kb,UY]
theorem YY:∀{l:List Bk} {p:Nat},Kb l p≤p+3*l.length
 | [],p=>by simp[Kb]
 | y::r,p=>by
  have:=YY (l:=r) (p:=p+y.1.toNat % 3+1)
  have:=Al4 y.1.toNat (show 3>0 by omega)
  simp only[Kb,Ad7];omega
theorem RI {sz:Nat}:∀{l:List Bk} {p:Nat},(GM sz l p).length=l.length
 | [],p=>rfl
 | y::r,p=>by simp[GM,RI]
theorem NI (sz no:Nat)(s:UInt8):AB (Hy sz no s 0)=[u0Z,u0Z,u0Z,u0Z,u0Z,u0Z,u0Z,u0Z]:=by
 simp[Hy,AB,An8]
theorem jK {sz no:Nat}{s:UInt8}{k:Nat}(hk:k<8)(h:no*8+k<sz):(Hy sz no s k).set k (JH s.toNat k)=Hy sz no s (k+1):=by
 apply Ae5;intro j;rw[Ag6]
 by_cases c:k=j
 ·subst c
  simp[Hy,hk,h]
 ·rw[if_neg c]
  simp only[Hy,Ae7];rcases Ac5 j 8 with hj | hj
  ·rw[Aj0 hj]
   simp only[Ai8];have:(j<k+1)↔(j<k):=by omega
   simp only[this]
  ·rw[Ai3 (by simpa using hj)];rfl
theorem eT {sz no:Nat}{s:UInt8}{k:Nat}(h:¬no*8+k<sz):Hy sz no s k=Hy sz no s (k+1):=by
 unfold Hy;apply Al1;intro j _
 by_cases c:j=k
 ·subst c;simp[h]
 ·have:(j<k+1)↔(j<k):=by omega
  simp only[this]
theorem ZM {s n k:Nat}(h:k<n):(EK s n)[k]?=some (JH s k):=by
 simp[EK,h]
theorem dX {l:List Bk}{v:AV}(hv:SV U0 2 l v)(n:Nat):∃R,SV Ax 9 (GM (n % 500) (l.take 30) 0) R∧BPure prog 16 [v,.lit (.int .u16 n)] (.agg [I ((n % 500:Nat):Int),R]):=by
 have hsz:n % 500<500:=Al4 _ (by omega)
 have e0:Ap .rem (.lit (.int .u16 n)) (.lit (.int .u16 500))=some (.lit (.int .u16 ((n % 500:Nat):Int))):=by
  have:Ap .rem (.lit (.int .u16 n)) (.lit (.int .u16 (500:Nat)))=some (.lit (.int .u16 ((n % 500:Nat):Int))):=by
   rw[I5 (by omega) (by omega)];congr 3
  exact this
 generalize n % 500=sz at hsz e0
 have key:∃r X,(∃R,FZ X r R∧∃R',R=.agg [I sz,R']∧SV Ax 9 (GM sz (l.take 30) 0) R')∧BCall prog 16 [v,.lit (.int .u16 n)] [] r X:=Mu (by
  unfold Jv;have e1:Ts .i64 (.lit (.int .u16 ((sz:Nat):Int)))=some (I sz):=Lt (by omega) (by omega);have e2:FK [(I 0),Ad] [(0,1,I sz)]=some (.agg [I sz,Ad]):=rfl;have e3:AT 2 [some (.cells [I 0,Ad]),some (.cells [I 0,Ad])] (.ptr 1 0) (.agg [I sz,Ad])=some [some (.cells [I 0,Ad]),some (.cells [I sz,Ad])]:=rfl;simp only[jC,An4,List.all_nil,lP,lQ,Bool.and_self,if_true,zM,Pr,e0,e1,e2,zI,yU,e3];refine Jw (λm x0 x4 x5 x6 x7 H'=>∃i:Nat,i+m=30∧i≤l.length∧x0=v∧x4=.ptr 0 0∧x5=.ptr 1 0∧x6=I ((Kb (l.take i) 0:Nat) - 1:Int)∧x7=I i∧∃w,H'[0]?=some (some (.cells [I 0,Ad]))∧H'[1]?=some (some (.cells [I sz,w]))∧OwN 2 9 ((GM sz (l.take i) 0).flatMap Ax) i w H') ?_ 30 ⟨0,by omega,by omega,rfl,rfl,rfl,rfl,rfl,Ad,rfl,rfl,⟨rfl,rfl,by simp[AU],by simp[Cm]⟩⟩;rintro m x0 x4 x5 x6 x7 H R hR ⟨i,him,hil,rfl,rfl,rfl,rfl,rfl,w,c0,c1,ow⟩;have hlH:1<H.length:=(BD.1 c1).1;unfold FX
  have fin:¬(i<l.length∧i<30)→bO (Au true 2 H (.ptr 1 0)) (λv23=>bS (AT 2 H (.ptr 0 0) v23) λH24=>bO (Au true 2 H24 (.ptr 0 0)) λv25=>∃R,FZ H24 v25 R∧∃R',R=.agg [I sz,R']∧SV Ax 9 (GM sz (l.take 30) 0) R'):=by
   intro hn;have b0:∀x y:AV,Ao true 2 [x,y] 0=some (.agg [x,y]):=λ_ _=>rfl
   have ow1:=AM ow.o
   have e5:AT 2 H (.ptr 0 0) (.agg [I sz,w])=some (H.set 0 (some (.cells [I sz,w]))):=by
    rw[AC (n:=2) (off:=0) (xs:=[I sz,w]) (by simp[ow1]) c0 rfl (by simp)];rfl
   have c0':(H.set 0 (some (.cells [I sz,w])))[0]?=some (some (.cells [I sz,w])):=JW (by omega);rw[Ak c1,b0,Ab,e5,AE,Ak c0',b0,Ab]
   have hs2:Aa (H.set 0 (some (.cells [I sz,w]))) 9 w=some ((GM sz (l.take i) 0).flatMap Ax,(GM sz (l.take i) 0).length):=by
    rw[RI,Ac0,Ai2 hil];exact Ae ow.s λj q=>C4 (by have:=ow.i j q;omega)
   obtain⟨R',h1,h2⟩:=FZ.sv hs2 (De λx _=>ET x)
   have et:l.take 30=l.take i:=by
    rcases Ac5 i l.length with h | h
    ·rw[show i=30 by omega]
    ·rw[Ac1 h,Ac1 (by omega)]
   rw[et];exact⟨_,FZ.agg (.cons (.lit _) (.cons h2 .nil)),R',rfl,h1⟩
  by_cases h:i<l.length∧i<30
  ·obtain⟨h,h30⟩:=h
   have hx:=DR h;generalize l[i]=x at hx;have hnx:=YY (l:=l.take i) (p:=0);have hlt:(l.take i).length=i:=by rw[Ac0];omega
   rw[hlt]at hnx;have et:l.take (i+1)=l.take i++[x]:=S3 hx;have hn2:Kb (l.take (i+1)) 0=Kb (l.take i) 0+x.1.toNat % 3+1:=by rw[et,UY]
   have hc2:GM sz (l.take (i+1)) 0=GM sz (l.take i) 0++[oJ sz (Kb (l.take i) 0+x.1.toNat % 3) x.2]:=by rw[et,Ur]
   have hg3:x.1.toNat % 3<3:=Al4 _ (by omega);generalize Kb (l.take i) 0=p at hnx hn2 hc2;generalize hg:x.1.toNat % 3=g at hg3 hn2 hc2
   have e4:Ap .add (I ((p:Int) - 1)) (I 1)=some (I p):=by
    rw[Aw (by omega) (by omega)];congr 3;omega
   have e5:Ap .rem (.lit (.int .u8 x.1.toNat)) (.lit (.int .u8 3))=some (.lit (.int .u8 (g:Int))):=by
    have:Ap .rem (.lit (.int .u8 x.1.toNat)) (.lit (.int .u8 (3:Nat)))=some (.lit (.int .u8 (g:Int))):=by
     rw[I5 (by omega) (by omega)];congr 3;omega
    exact this
   have e6:Ts .i64 (.lit (.int .u8 (g:Int)))=some (I g):=Lt (by omega) (by omega)
   have e7:Ap .add (I p) (I g)=some (I ((p+g:Nat):Int)):=by
    rw[Aw (by omega) (by omega)];congr 3
   have e8:FK [(I 0),u0Z,u0Z,u0Z,u0Z,u0Z,u0Z,u0Z,u0Z] [(0,1,I ((p+g:Nat):Int))]=some (.agg (I ((p+g:Nat):Int)::AB (Hy sz (p+g) x.2 0))):=by rw[NI];rfl
   have e9:AD H (.agg [(I 0),u0Z,u0Z,u0Z,u0Z,u0Z,u0Z,u0Z,u0Z])=some (.ptr H.length 0,H++[some (.cells [(I 0),u0Z,u0Z,u0Z,u0Z,u0Z,u0Z,u0Z,u0Z])]):=by simp
   have e10:AT 9 (H++[some (.cells [(I 0),u0Z,u0Z,u0Z,u0Z,u0Z,u0Z,u0Z,u0Z])]) (.ptr H.length 0) (.agg (I ((p+g:Nat):Int)::AB (Hy sz (p+g) x.2 0)))=some (H++[some (.cells (I ((p+g:Nat):Int)::AB (Hy sz (p+g) x.2 0)))]):=by
    rw[AC (n:=9) (off:=0) (xs:=I ((p+g:Nat):Int)::AB (Hy sz (p+g) x.2 0)) (by rw[NI];rfl) (cs:=[(I 0),u0Z,u0Z,u0Z,u0Z,u0Z,u0Z,u0Z,u0Z]) (by simp) (by rw[NI];rfl) (by simp)];rw[NI];simp[AR]
   have hlI:((i:Int)<(l.length:Int)):=by omega
   have h30I:((i:Int)<30):=by omega
   simp only[hv.len,zO,zP,Ab8,hlI,h30I,yS,e4,hv.idx Wm hx rfl,NF,Lv,Ah,Ad9,oI,e5,e6,e7,e8,e9,zM,e10];obtain⟨Rb,hRb,hpb⟩:=nE x.2 (n:=8) (by omega);have e11:(List.drop 1 (U0 x++List.flatMap U0 (List.drop (i+1) l)))[0]?=some (.lit (.int .u8 x.2.toNat)):=rfl;simp only[e11,Ab];refine A4 hpb ?_;refine ID R (λm2 y0 y4 y5 y6 y7 y8 y9 y10 H'=>∃k:Nat,k+m2=8∧y0=x0∧y4=.ptr 0 0∧y5=.ptr 1 0∧y6=I ((p+g:Nat):Int)∧y7=I i∧y8=.ptr H.length 0∧y9=Rb∧y10=I k∧H'=H++[some (.cells (I ((p+g:Nat):Int)::AB (Hy sz (p+g) x.2 k)))]) ?_ 8 ⟨0,by omega,rfl,rfl,rfl,rfl,rfl,rfl,rfl,rfl,rfl⟩;rintro m2 y0 y4 y5 y6 y7 y8 y9 y10 H' R2 hR2 ⟨k,hk,rfl,rfl,rfl,rfl,rfl,rfl,rfl,rfl,rfl⟩;unfold Fy;have g1:=Grew.app H [some (.cells (I ((p+g:Nat):Int)::AB (Hy sz (p+g) x.2 k)))];have d1:(H++[some (.cells (I ((p+g:Nat):Int)::AB (Hy sz (p+g) x.2 k)))])[1]?=some (some (.cells [I sz,w])):=g1.cells c1;rcases Ac5 k 8 with hk8 | hk8
   ·have hkI:(k:Int)<8:=by omega
    have f1:Ap .mul (I ((p+g:Nat):Int)) (I 8)=some (I (((p+g)*8:Nat):Int)):=by rw[DM (by omega) (by omega)];congr 3
    have f2:Ap .add (I (((p+g)*8:Nat):Int)) (I k)=some (I (((p+g)*8+k:Nat):Int)):=by rw[Aw (by omega) (by omega)];congr 3
    simp only[zO,hkI,zE,f1,f2,Am,Ak d1,Ah,Aa6,Int.ofNat_lt]
    have done:∀H2,H2=H++[some (.cells (I ((p+g:Nat):Int)::AB (Hy sz (p+g) x.2 (k+1))))]→Da R2 R y0 (.ptr 0 0) (.ptr 1 0) (I ((p+g:Nat):Int)) (I i) (.ptr H.length 0) y9 (I k) H2 (λr X=>∃R,FZ X r R∧∃R',R=.agg [I sz,R']∧SV Ax 9 (GM sz (l.take 30) 0) R'):=by
     rintro H2 rfl;rw[JA];unfold Fx;simp only[Aw (a:=k) (b:=1) (by omega) (by omega),Ab];exact hR2 (m2 - 1) _ _ _ _ _ _ _ _ _ (by omega) ⟨k+1,by omega,rfl,rfl,rfl,rfl,rfl,rfl,rfl,by simp,rfl⟩
    by_cases c:(p+g)*8+k<sz
    ·simp only[c,zE]
     have gb:(EK x.2.toNat 8)[k]?=some (JH x.2.toNat k):=ZM hk8;have f3:=hRb.idx (i:=(k:Int)) kG gb rfl;have f4:PK 8 1 (.ptr H.length 1) (I k)=some (.ptr H.length (1+k)):=by simp[PK,J8];omega
     have f5:AT 1 (H++[some (.cells (I ((p+g:Nat):Int)::AB (Hy sz (p+g) x.2 k)))]) (.ptr H.length (1+k)) (.lit (.int .u8 (JH x.2.toNat k).toNat))=some (H++[some (.cells (I ((p+g:Nat):Int)::AB (Hy sz (p+g) x.2 (k+1))))]):=by
      rw[AC (n:=1) (xs:=[.lit (.int .u8 (JH x.2.toNat k).toNat)]) (cs:=I ((p+g:Nat):Int)::AB (Hy sz (p+g) x.2 k)) rfl (by simp) rfl (by simp[B3,Ys];omega),← jK hk8 c]
      have:AR (I ((p+g:Nat):Int)::AB (Hy sz (p+g) x.2 k)) (1+k) [.lit (.int .u8 (JH x.2.toNat k).toNat)]=I ((p+g:Nat):Int)::AB ((Hy sz (p+g) x.2 k).set k (JH x.2.toNat k)):=by
       rw[Ak9 1 k];simp[AR,AB,Al9]
      rw[this];simp
     have f6:(Je (JH x.2.toNat k)++List.flatMap Je (List.drop (k+1) (EK x.2.toNat 8)))[0]?=some (.lit (.int .u8 (JH x.2.toNat k).toNat)):=rfl;simp only[f3,Pr,Lv,Ah,f6,f4,f5,AE];exact done _ rfl
    ·simp only[c,yY]
     refine done _ ?_;rw[eT c]
   ·have hk':k=8:=by omega
    subst hk';have hkI:¬(((8:Nat):Int)<8):=by omega
    have ex:(I ((p+g:Nat):Int)::AB (Hy sz (p+g) x.2 8))=Ax (oJ sz (p+g) x.2):=rfl;rw[ex]at g1 d1⊢;have dx:(H++[some (AObj.cells (Ax (oJ sz (p+g) x.2)))])[H.length]?=some (some (.cells (Ax (oJ sz (p+g) x.2)))):=by simp
    have f1:Ao true 9 (Ax (oJ sz (p+g) x.2)) 0=some (.agg (Ax (oJ sz (p+g) x.2))):=by
     simp[Ao,A1];rw[Ac1 (by rw[A1];omega)]
    generalize oJ sz (p+g) x.2=ex' at*
    have f2:Cr (H++[some (.cells (Ax ex'))]) 9 1 (Be [(I 0),u0Z,u0Z,u0Z,u0Z,u0Z,u0Z,u0Z,u0Z] 1) [(0,9,.agg (Ax ex'))]=some (.sl (H.length+1) 0 1 9 (.ex 1),H++[some (.cells (Ax ex'))]++[some (.cells (Ax ex'))]):=by
     have hr:OK (Be [(I 0),u0Z,u0Z,u0Z,u0Z,u0Z,u0Z,u0Z,u0Z] 1) [(0,9,.agg (Ax ex'))]=some (Ax ex'):=by
      have hz:(Be [(I 0),u0Z,u0Z,u0Z,u0Z,u0Z,u0Z,u0Z,u0Z] 1).length=9:=rfl;have hl:=A1 ex';rw[ZT,Pk,if_pos (YD ex')];generalize Be [(I 0),u0Z,u0Z,u0Z,u0Z,u0Z,u0Z,u0Z,u0Z] 1=z at hz;generalize Ax ex'=q at hl;simp only[fM,Ea z 0 q (by omega),Aa3,Aj4];rw[Ad2 (by omega),Af1,if_pos ⟨hl,by omega⟩]
     unfold Cr;rw[hr];simp[YD]
    have g2:=Grew.app (H++[some (.cells (Ax ex'))]) [some (.cells (Ax ex'))];have ow2:=(ow.grew g1).grew g2
    have x1:Bf (H++[some (.cells (Ax ex'))]++[some (.cells (Ax ex'))]) 9 (.sl (H.length+1) 0 1 9 (.ex 1))=some (Ax ex',1):=AI (by
     rw[A9 (c:=Ax ex') (by simp) (by rw[A1];omega),Ad9,Ac1 (by rw[A1];omega)])
    obtain⟨r3,H3,a1,a2,a3⟩:=yF (bytes:=16) ow2 x1 (by simp) (by omega);have d3:H3[1]?=some (some (.cells [I sz,w])):=by rw[a3.2 1 (by omega)];exact g2.cells (g1.cells c1)
    have d0:H3[0]?=some (some (.cells [I 0,Ad])):=by rw[a3.2 0 (by omega)];exact g2.cells (g1.cells c0)
    have r1:=AM a2.o;have hl3:1<H3.length:=(BD.1 d3).1
    have f5:AT 1 H3 (.ptr 1 1) r3=some (H3.set 1 (some (.cells [I sz,r3]))):=by
     rw[AC (n:=1) (xs:=[r3]) (cs:=[I sz,w]) (AS r1) d3 rfl (by simp)];rfl
    have f6:([I sz,w]:List AV)[1]?=some w:=rfl;simp only[AN,zG,Af,hkI,yY,Ak d1,f6,Ak dx,f1,f2,zM,a1,f5,Aw (a:=i) (b:=1) (by omega) (by omega)];refine hR (m - 1) _ _ _ _ _ _ (by omega) ⟨i+1,by omega,by omega,rfl,rfl,rfl,by rw[hn2];congr 2;omega,by simp,r3,?_,?_,?_⟩
    ·rw[C4 (by omega)];exact d0
    ·exact JW (by omega)
    ·rw[hc2]
     exact⟨by
      rw[Ag4];have e:=Ae a2.s (H':=H3.set 1 (some (.cells [I sz,r3]))) λj q=>C4 (by have:=a2.i j q;omega)
      simpa using e,a2.o,a2.i,a2.c⟩
  ·have hne:¬(i<l.length∧i<30):=h
   have f:=fin h;have e1:(decide ((i:Int)<(l.length:Int)))=decide (i<l.length):=by simp
   simp only[hv.len,Ab,AN,AK,e1]
   by_cases c:i<l.length
   ·have c30:¬((i:Int)<30):=by omega
    simp only[c,yW,yS,zO,c30,yY,As];exact f
   ·simp only[c,yY,As,show((false==true)=false)from rfl,BE,yV,An]
    exact f)
 obtain⟨r,X,hk,hc⟩:=key;obtain⟨R,⟨R',rfl,h2⟩,hp⟩:=BPure.FZ (by simp[A6,noIds,hv.1]) ⟨r,X,hk,hc⟩;exact⟨R',h2,hp⟩
end Go.Proofs.YtbppnhenlboefaaGreat.Av
end
section
set_option maxHeartbeats 1000000
namespace Go.Proofs.YtbppnhenlboefaaGreat.Av
open Go Go.RowKit Go.Proofs.Tryz
theorem Yz {sz:Nat}:∀{l:List Bk} {p:Nat},∀x∈GM sz l p,0≤x.no∧x.no≤p+3*l.length
 | [],p,x,h=>by simp[GM]at h
 | y::r,p,x,h=>by
  unfold GM at h;rcases Ad5.1 h with rfl | h
  ·show 0≤((p+y.1.toNat % 3:Nat):Int)∧((p+y.1.toNat % 3:Nat):Int)≤_
   rw[Ad7];omega
  ·have:=Yz x h
   rw[Ad7];omega
def qI (y:UInt8×(UInt8×Unit)):List AV:=[.lit (.int .u8 y.1.toNat),.lit (.int .u8 y.2.1.toNat)]
def oB (x:Sl (UInt8×(UInt8×Unit))):AV:=if x.nil then .lit (.slice none 0 0)else .imm (x.l.flatMap qI) x.l.length 2
theorem rT (x:Sl (UInt8×(UInt8×Unit)))(hn:x.nil=true→x.l=[]):∃q:List Bk,SV U0 2 q (oB x):=by
 refine⟨x.l.map λy=>(y.1,y.2.1),?_⟩
 have e:(x.l.map λy=>((y.1,y.2.1):Bk)).flatMap U0=x.l.flatMap qI:=by
  rw[List.flatMap_map];rfl
 unfold oB;cases hnil:x.nil with
 | true=>simp only[if_true];rw[hn hnil];exact SV.nil
 | false=>
  simp only[An];rw[← e,show x.l.length=(x.l.map λy=>((y.1,y.2.1):Bk)).length by rw[Ae9]];exact SV.imm Wm (λx hx=>rfl)
def Yw (s:StS)(ino:Int):List UInt8×Int:=
 if(Ar s ino).2≠0 then([],(Ar s ino).2)else if 65536<(Ar s ino).1.1 then([],5)else(BX (Ar s ino).1.2 0 (Ar s ino).1.1.toNat,0)
theorem ZN (l:List Ext)(pos:Int)(j k:Nat):BX l pos (j+k)=BX l pos j++BX l (pos+j) k:=by
 unfold BX;rw[List.range_add,Ag8,List.map_map]
 congr 1
 apply Al1;intro i _;simp only[Function.comp]
 congr 1
 omega
theorem gR {N:Nat}{s:StS}(hw:SW N s){ino:Int}(h0:(Ar s ino).2=0)(hl:(Ar s ino).1.1≤65536){j:Nat}(hj:j<(Ar s ino).1.1.toNat):
  OZ s ino j 4096=(BX (Ar s ino).1.2 j (min 4096 ((Ar s ino).1.1.toNat - j)),0):=by
 obtain⟨d,hd,hi,e,-⟩:=FT hw h0;have hm:=hw.now.1.mc d hd;unfold OZ;rw[if_neg (λq=>q h0),if_neg (by omega),e];rw[e]at hl hj;simp only at hl hj⊢;unfold HM;rw[if_pos (by unfold uO;refine⟨hm,?_⟩;omega)]
 congr 2
 omega
theorem iH {N:Nat}{s:StS}{os:Nat}{p:AV}{H:AH}(hst:StAt s os p H)(hw:SW N s)(hN:N<900000)(ino:Int):
  ∃r H',(∃v,r=.tup [v,I (Yw s ino).2]∧Aa H' 1 v=some (AB (Yw s ino).1,(Yw s ino).1.length)∧(∀i∈AU v,H.length≤i)∧Grew H H')∧BCall prog 26 [.ptr os 0,I ino] H r H':=YQ (by
 unfold YP;obtain⟨r,H1,⟨rfl,g1⟩,hc⟩:=iO hst hw (by omega) ino;refine bC_of hc ?_;have nil1:∀H:AH,Aa H 1 Ad=some (AB [],([]:List UInt8).length):=λ_=>rfl
 unfold Yw;simp only[zL,Ab3,ne_eq]
 by_cases c0:(Ar s ino).2=0
 rotate_left
 ·simp only[c0,not_false_eq_true,Ab8]
  exact⟨_,by trivial,nil1 _,by simp[AU],g1⟩
 simp only[c0,zR,yY,Hp]
 by_cases c1:65536<(Ar s ino).1.1
 ·simp only[c1,Ab8]
  exact⟨_,by trivial,nil1 _,by simp[AU],g1⟩
 simp only[c1,yY,if_false];have rn:=λj hj=>gR hw c0 (by omega) (j:=j) hj
 have h0:0≤(Ar s ino).1.1:=by
  obtain⟨d,hd,hi,e,-⟩:=FT hw c0
  have:=(Dw.1 (hw.now.1.mc d hd)).1
  rw[e];exact this
 obtain⟨n,hn⟩:∃n:Nat,(Ar s ino).1.1=n:=⟨(Ar s ino).1.1.toNat,by omega⟩;generalize (Ar s ino).1.2=l at*;rw[hn]at rn c1⊢;simp only[Ah3]at rn⊢;refine Sg (λm x0 x1 x6 x8 H'=>∃j:Nat,j+m=n∧x0=.ptr os 0∧x1=I ino∧x6=I n∧Aa H' 1 x8=some (AB (BX l 0 j),j)∧AP x8=true∧(∀i∈AU x8,H.length≤i)∧Grew H H') ?_ n ⟨0,by omega,rfl,rfl,rfl,rfl,rfl,by simp[AU],g1⟩;rintro m x0 x1 x6 x8 H2 R hR ⟨j,hj,rfl,rfl,rfl,hs,ho,hi,g2⟩;unfold OX;have al:=By hs;simp only[al,zO]
 by_cases c:j<n
 ·have c':(j:Int)<(n:Int):=by omega
  have hr:=rn j c;obtain⟨Rb,hRb,r,H3,⟨rfl,g3⟩,hc⟩:=rC (hst.grew g2) hw hN ino (j:Int) 4096;rw[hr]at hRb hc;simp only[c',zE];refine bC_of hc ?_;have hlen:=EN l (j:Int) (min 4096 (n - j));obtain⟨r,H4,a1,a2,a3,a4,a5,a6⟩:=CC (sz:=1) (bytes:=1) (g3.slice hs) ho (AI (hRb.bytes H3)) (by rw[hlen];omega);simp only[zL,Ab3,yR,yY,a1,Az];refine hR (m - min 4096 (n - j)) _ _ _ _ _ (by omega) ⟨j+min 4096 (n - j),by omega,rfl,rfl,rfl,?_,a2,?_,?_⟩
  ·rw[a3,hlen,ZN,Int.zero_add,AB,AB,AB,Ag8]
  ·intro i q
   rcases a6 i q with q | q
   ·exact hi i q
   ·have:=g2.1;have:=g3.1;omega
  ·refine⟨by have:=g2.1;have:=g3.1;omega,λi q=>?_⟩
   rw[a5 i (by have:=g2.1;have:=g3.1;omega) (λz=>by have:=hi i z;omega),g3.2 i (by have:=g2.1;omega),g2.2 i q]
 ·have c':¬(j:Int)<(n:Int):=by omega
  have ej:j=n:=by omega
  subst ej;simp only[c',yY];exact⟨x8,by trivial,by rw[EN];exact hs,hi,g2⟩)
end Go.Proofs.YtbppnhenlboefaaGreat.Av
end
section
set_option maxHeartbeats 1000000
namespace Go.Proofs.YtbppnhenlboefaaGreat.Av
open Go Go.RowKit
theorem TW.full {cap n m:Int}{l k:List Ext}{s:StS}(h:TW cap n l m k s){no size:Int}{b:List UInt8}(hno:0≤no)(hsz:no*8<size)(hs2:size≤1099511627776)(hb:b.length=8)(h1:¬Bb k no)(h2:((l.length+k.length:Nat):Int)=cap):XN 2 size s no b=(4,s):=by
 obtain⟨c,hc⟩:∃c:Nat,min 8 (size - no*8)=c:=⟨(min 8 (size - no*8)).toNat,by omega⟩;have c0:0<c∧c≤8:=by omega
 have hbs:(b.take c).length=c:=by rw[Ac0];omega
 unfold XN BI;rw[hc,show((c:Int)).toNat=c by omega,h.content,if_neg (by simp),if_neg (λq=>q ⟨by omega,by rw[hbs];omega,by rw[hbs];omega⟩),hbs,Tc hno (by omega) c0.1 c0.2];unfold Pf;simp only;rw[if_pos ⟨by rw[show no*8/8=no by omega];exact h1,by rw[h.free];omega⟩]
theorem Yb {cap n size:Int}{l:List Ext}{e:Nat}(hs2:size≤1099511627776)(he:((l.length+e:Nat):Int)=cap):∀(c:Nat) {no:Nat} {L k:List Ext} {s:StS},TW cap n l (no*8) k s→srt L→(∀x∈L,(no:Int)≤x.no)→(∀a,Bb k a↔0≤a∧a<no)→no≤e→e<no+c→((no:Int)+c - 1)*8<size→
  ∃s' k',PL 2 size c no L s=(4,s')∧TW cap n l (e*8) k' s'∧(∀p:Int,0≤p→p<(e:Int)*8→E4 k' p=if p<(no:Int)*8 then E4 k p else E4 L p)
 | 0,no,L,k,s,_,_,_,_,_,h2,_=>by omega
 | c+1,no,L,k,s,h,hs,hL,hk,h1,h2,hsz=>by
  have kl:k.length=no:=TO no (a:=0) (Dw.1 h.cb).2.2.1 λa=>by rw[hk];omega
  obtain⟨p1,p2,p3,p4⟩:=dC hs hL;unfold PL
  by_cases q:no=e
  ·subst q
   have f:=h.full (b:=(GP no L).1) (no:=no) (by omega) (by omega) hs2 (IQ no L) (by rw[hk];omega) (by rw[kl];exact he);rw[f,if_pos (by simp)];exact⟨s,k,rfl,h,λp hp hp2=>by rw[if_pos hp2]⟩
  ·obtain⟨s1,k1,w1,w2,w3,w4,w5⟩:=h.wr (b:=(GP no L).1) (no:=no) (by omega) (by omega) hs2 (IQ no L) (.inr (by rw[kl];omega))
   rw[w1];simp only[zF];have em:max ((no:Int)*8) (min ((no:Int)*8+8) size)=((no+1:Nat):Int)*8:=by omega
   rw[em]at w2;obtain⟨s',k',e1,e2,e3⟩:=Yb hs2 he c (no:=no+1) w2 p3 (λx hx=>by have:=(p4 x hx).1;omega) (λa=>by rw[w4,hk];omega) (by omega) (by omega) (by omega);refine⟨s',k',?_,e2,λp hp hp2=>?_⟩
   ·rw[show(no:Int)+1=((no+1:Nat):Int) by omega];exact e1
   ·rw[e3 p hp hp2]
    by_cases r1:p<(no:Int)*8
    ·rw[if_pos (by omega),if_pos r1,w3,if_neg (by omega)]
    ·by_cases r2:p<((no+1:Nat):Int)*8
     ·rw[if_pos r2,if_neg r1,w3,if_pos ⟨by omega,by omega⟩,show p - (no:Int)*8=p % 8 by omega,p1 p (by omega)]
     ·rw[if_neg r2,if_neg r1,p2 p (by omega)]
structure TX (cap:Int)(t:List UInt8)(l:List Ext)(s:StS):Prop where
 on:ON [97] cap t.length l s
 made:s.made=1
 at':∀q:Nat,q<t.length→E4 l q=t.getD q 0
 has:∀a,Bb l a↔0≤a∧a*8<t.length
theorem TX.len {cap:Int}{t:List UInt8}{l:List Ext}{s:StS}(h:TX cap t l s):l.length=(t.length+7)/8:=
 TO _ (a:=0) (Dw.1 h.on.mc).2.2.1 λa=>by rw[h.has];omega
theorem eX {t:List UInt8}(h:t.length≤4096):B9 t=if t=[]then []else [t]:=by
 obtain⟨c1,c2,c3⟩:=I8 (bl:=[((.lit (.int .i64 0):AV),t)]) (by simpa using h)
 by_cases e:t=[]
 ·rw[if_pos e,e];rfl
 ·rw[if_neg e]
  have hl:0<t.length:=List.length_pos_iff.2 e
  have hn:cD t.length 4096=1:=by
   unfold cD;omega
  unfold B9;rw[hn]
  show [((t.drop (0*4096)).take _)]=[t]
  rw[Al7,Ad9,Ac1 (by omega)]
theorem wZ (r:Int):(AZ (LB r) [97] true).1=(1,0)∧ON [97] (min (max r 0) 4096) 0 [] (AZ (LB r) [97] true).2∧(AZ (LB r) [97] true).2.made=1:=by
 refine⟨rfl,⟨rfl,by decide,by decide,rfl,rfl,rfl⟩,rfl⟩
theorem ON.sync {cap n:Int}{l:List Ext}{s:StS}(h:ON [97] cap n l s)(L:List Int):∃s',Pb s L=(0,s')∧ON [97] cap n l s'∧s'.made=s.made:=by
 have hd:Bc s=(true,s):=by
  unfold Bc;rw[if_neg (by rw[h.off,h.armed];simp),if_neg (by rw[h.armed];omega)]
 unfold Pb;rw[hd];exact⟨_,rfl,⟨h.now,h.nm,h.mc,h.cap,h.off,h.armed⟩,rfl⟩
theorem tU {r:Nat}{t:List UInt8}(hr:t.length≤4096)(hc:(t.length+7)/8≤r)(hr2:r≤4096):∃s l,Vl (LB r) [97] (B9 t)=(0,s)∧TX r t l s:=by
 obtain⟨o1,o2,o3⟩:=wZ (r:Int);rw[show min (max (r:Int) 0) 4096=r by omega]at o2;obtain⟨tz,mz⟩:=S4 (n:=0) (z:=0) (by omega) (by omega) (by omega) (by omega);obtain⟨s2,e2,on2,m2⟩:=o2.truncR tz mz;unfold Vl;rw[o1];simp only[zF,e2];rw[eX hr]
 by_cases e:t=[]
 ·subst e
  rw[if_pos rfl];unfold Av.pcs;obtain⟨s3,e3,on3,m3⟩:=on2.sync [1];simp only[zR,e3];exact⟨s3,[],rfl,on3,(m3.trans m2).trans o3,by simp,λa=>by simp[Bb];omega⟩
 ·rw[if_neg e]
  have hl:0<t.length:=List.length_pos_iff.2 e;obtain⟨s3,e3,z3,l3,on3,rfl,hz⟩:=on2.writeR (pos:=0) (b:=t) (by omega) hr (by omega) (by omega) (λno q=>by simp[Bb]at q);have hz:z3=t.length:=by rw[hz,if_neg (by omega)];omega
  subst hz;have m3:=Tp s2 1 0 t;rw[e3]at m3;unfold Av.pcs;rw[e3,if_pos rfl];unfold Av.pcs;obtain⟨s4,e4,on4,m4⟩:=on3.sync [1];simp only[zR,e4];refine⟨s4,_,rfl,on4,((m4.trans m3).trans m2).trans o3,λq hq=>?_,λa=>?_⟩
  ·rw[Z3 List.Pairwise.nil,if_pos ⟨by omega,by omega⟩,show((q:Int) - 0).toNat=q by omega]
  ·rw[PC]
   constructor
   ·rintro(q | ⟨q,q1,q2,q3⟩)
    ·simp[Bb]at q
    ·omega
   ·intro q
    exact .inr ⟨a*8,by omega,by omega,by omega⟩
theorem Yv {t:List UInt8}{l:List Ext}{c:Nat}(h:∀q:Nat,q<c→E4 l q=t.getD q 0)(hc:c≤t.length):BX l 0 c=t.take c:=by
 unfold BX;refine Ae5 λi=>?_
 rw[Ae7]
 by_cases hi:i<c
 ·rw[Aj0 hi,Am9 hi,Ai8,Int.zero_add,h i hi,Ac8,DR (show i<t.length by omega)]
  rfl
 ·rw[Ai3 (by rw[List.length_range];omega),Ai3 (by rw[Ac0];omega)]
  rfl
theorem tH:Ig [LA,[97],[98]]=some ([97],[98],P2):=by kernel_rfl
theorem oH {cap:Int}{t:List UInt8}{l:List Ext}{s:StS}(h:TX cap t l s)(ht:t.length≤200){x:Nat}(hx:cap=(((t.length+7)/8+x:Nat):Int)):
  ∃s' m k,Xk s [LA,[97],[98]]=((if(t.length+7)/8≤x then 0 else 4),s')∧TW cap t.length l m k s'∧m=((min t.length (8*x):Nat):Int)∧∀q:Nat,q<min t.length (8*x)→E4 k q=t.getD q 0:=by
 have hl:=h.len
 have e:Xk s [LA,[97],[98]]=Ny false s [98] ((t.length:Int),l):=by
  unfold Xk;rw[tH];simp only[dB,h.on.find.1];unfold HY;rw[h.on.content]
  have:¬EQ P2 ((t.length:Int),l):=by
   rintro(q | ⟨q,-⟩)
   ·exact absurd q (by decide)
   ·exact absurd q (by decide)
  simp only[zF,decide_eq_false this]
 rw[e];obtain⟨s1,e1,h1⟩:=h.on.cpOpen h.made;have hc:Cx (t.length:Int)=(((t.length+7)/8:Nat):Int):=by unfold Cx;omega
 by_cases c:(t.length+7)/8≤x
 ·obtain⟨s',k,r1,r2,r3,-,-⟩:=dL (hl:=false) e1 h1 (λy _=>y.hb) (.inr (by omega)) (by simp only[An];rw[hc];omega)
  refine⟨s',_,k,by rw[if_pos c];exact r1,r2,by omega,λq hq=>?_⟩;rw[r3 q (by omega),h.at' q (by omega)]
 ·have sl:=(Dw.1 h.on.mc).2.2.1
  have sb:=(Dw.1 h.on.mc).2.2.2.1;obtain⟨s',k,r1,r2,r3⟩:=Yb (cap:=cap) (l:=l) (n:=(t.length:Int)) (size:=(t.length:Int)) (e:=x) (by omega) (by omega) ((Cx (t.length:Int)).toNat) (no:=0) (by simpa using h1) (K3 (size:=(t.length:Int)) sl) (λy hy=>(sb y.no ⟨y,((Em sl y).1 hy).1,rfl⟩).1) (λa=>by simp[Bb]) (by omega) (by omega) (by omega);refine⟨s',_,k,?_,r2,by omega,λq hq=>?_⟩
  ·rw[if_neg c]
   unfold Ny;rw[if_neg (by rintro⟨-,z⟩;simp only at z;omega),e1];have ec:ME false 2 ((t.length:Int),l) s1=(4,s'):=by unfold ME;rw[if_neg (by simp)];exact r1
   simp only[ec,zF];rw[if_pos (by simp)]
  ·rw[r3 q (by omega) (by omega),if_neg (by omega),Qb sl (by omega),h.at' q (by omega)]
theorem rU {cap:Int}{t:List UInt8}{l k:List Ext}{m:Int}{s:StS}{c:Nat}(h:TW cap t.length l m k s)(ht:t.length≤200)(h1:∀q:Nat,q<t.length→E4 l q=t.getD q 0)(hm:m=(c:Int))(hc:c≤t.length)(h2:∀q:Nat,q<c→E4 k q=t.getD q 0):Yw s 1=(t,0)∧Yw s 2=(t.take c,0):=by
 subst hm
 constructor
 ·unfold Yw
  rw[h.one.1,if_neg (by simp),if_neg (by simp only;omega)];simp only[Ah3];rw[Yv h1 (Ac2 _),Aj1]
 ·unfold Yw
  rw[h.content,if_neg (by simp),if_neg (by simp only;omega)];simp only[Ah3];rw[Yv h2 hc]
end Go.Proofs.YtbppnhenlboefaaGreat.Av
end
