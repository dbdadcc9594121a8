/- Texts of this proof, one behind the other, packed into one file by a program of this session. No condition. -/
import Derived.Test.YtbppnhenlboefaaGreatMfI
import Derived.Lib.Bytealg
set_option linter.unusedVariables false
set_option linter.unusedSimpArgs false
set_option maxRecDepth 100000
namespace Go.Proofs.YtbppnhenlboefaaGreat.Av
open Go Go.RowKit Go.Proofs.Tryz
section
theorem rF {N:Nat}{s:StS}{os:Nat}{p a2:AV}{H:AH}{ino:Int}{bl:List (AV×List UInt8)}(hst:StAt s os p H)(hw:SW N s)
  (ha:Aa H 1 a2=some (bl.map Prod.fst,bl.length)) (hai:∀j∈AT a2,j≠os∧j∉AT p) (hb:∀x∈bl,Aa H 1 x.1=some (AF x.2,x.2.length)∧oneA x.1=true∧x.2.length≤1000000∧∀j∈AT x.1,j≠os∧j∉AT p) (hbn:bl.length≤1000000)
  (hN:N+9*Hq (bl.flatMap λx=>Cf x.2)<900000):
  ACalls prog 36 [.ptr os 0,I ino,a2] H λr H'=>∃p',r=I (pcs ino (bl.flatMap λx=>Cf x.2) s 0 0).2∧StAt (pcs ino (bl.flatMap λx=>Cf x.2) s 0 0).1.1 os p' H'∧StF os p p' H H':=XE (by
 generalize hRES:pcs ino (bl.flatMap λx=>Cf x.2) s 0 0=RES;generalize hNN:N+9*Hq (bl.flatMap λx=>Cf x.2)=NN at hN;unfold Sy;have n1:∀(Z:AH) (x:AV),oneA x=true→A9 Z x=some (.ptr Z.length 0,Z++[some (.cells [x])]):=λZ x hx=>by unfold A9;rw[AO hx];rfl
 generalize hb0:H.length=b0;have al:Bf a2=some (I (bl.length:Nat)):=BF ha
 have s0:AR 1 (H++[some (AObj.cells [.ptr os 0])]++[some (.cells [I ino])]++[some (.cells [I 0])]++[some (.cells [I 0])]) (.ptr (b0+3) 0) (I 0)=some (H++[some (AObj.cells [.ptr os 0])]++[some (.cells [I ino])]++[some (.cells [I 0])]++[some (.cells [I 0])]):=by
  rw[oS (cs:=[I 0]) (k:=0) (by rw[← hb0];simp) (by simp) rfl]
  congr 1
  apply Ae8;intro j
  by_cases c:j=b0+3
  ·subst c
   rw[JX (by rw[← hb0];simp),← hb0];simp
  ·rw[C2 (Af7 c)]
 have l1:(H++[some (AObj.cells [AV.ptr os 0])]).length=b0+1:=by simp[hb0]
 have l2:(H++[some (AObj.cells [AV.ptr os 0])]++[some (AObj.cells [I ino])]).length=b0+2:=by simp[hb0]
 have l3:(H++[some (AObj.cells [AV.ptr os 0])]++[some (AObj.cells [I ino])]++[some (AObj.cells [I 0])]).length=b0+3:=by simp[hb0]
 simp only[n1 H (AV.ptr os 0) rfl,zT,n1 (H++[some (AObj.cells [AV.ptr os 0])]) (I ino) rfl,n1 (H++[some (AObj.cells [AV.ptr os 0])]++[some (AObj.cells [I ino])]) (I 0) rfl,n1 (H++[some (AObj.cells [AV.ptr os 0])]++[some (AObj.cells [I ino])]++[some (AObj.cells [I 0])]) (I 0) rfl,hb0,l1,l2,l3,s0,al,Ab]
 have g0:Grew H (H++[some (AObj.cells [AV.ptr os 0])]++[some (AObj.cells [I ino])]++[some (AObj.cells [I 0])]++[some (AObj.cells [I 0])]):=by
  simp only[Ad6];exact Grew.app H _
 have hplt:=hst.p_lt;have holt:=hst.os_lt;have S0:LwS os b0 ino s 0 p (H++[some (AObj.cells [AV.ptr os 0])]++[some (AObj.cells [I ino])]++[some (AObj.cells [I 0])]++[some (AObj.cells [I 0])]):=
  ⟨hst.grew g0,by rw[← hb0];simp,by rw[← hb0];simp,⟨I 0,by rw[← hb0];simp⟩,by rw[← hb0];simp,by omega,λj hj _ q=>by have:=hplt j q;omega⟩
 have F0:LwF os b0 p p H (H++[some (AObj.cells [AV.ptr os 0])]++[some (AObj.cells [I ino])]++[some (AObj.cells [I 0])]++[some (AObj.cells [I 0])]):=.of_grew g0;have B0:Bd NN (bl.flatMap λx=>Cf x.2) s 0 0:=⟨⟨N,hw,by omega⟩,by omega,by omega⟩;have fin:∀{p' H'},LwF os b0 p p' H H'→StF os p p' H H':=λf=>⟨f.len,λj hj h1 hp=>f.same j hj h1 (by omega) hp,f.ids⟩
 generalize (H++[some (AObj.cells [AV.ptr os 0])]++[some (AObj.cells [I ino])]++[some (AObj.cells [I 0])]++[some (AObj.cells [I 0])])=HB at S0 F0;refine QT (λm x2 x4 x5 x6 x12 x13 x14 H'=>∃(k:Nat) (s:StS) (at' sum:Int) (p':AV),k+m=bl.length∧x2=.ptr b0 0∧x4=.ptr (b0+1) 0∧x5=.ptr (b0+2) 0∧x6=.ptr (b0+3) 0∧a2=x12∧x13=I bl.length∧x14=I k∧
  LwS os b0 ino s at' p' H'∧LwF os b0 p p' H H'∧pcs ino ((bl.drop k).flatMap λx=>Cf x.2) s at' sum=RES∧Bd NN ((bl.drop k).flatMap λx=>Cf x.2) s at' 0) ?_ bl.length ⟨0,s,0,0,p,by omega,rfl,rfl,rfl,rfl,rfl,rfl,rfl,S0,F0,hRES,B0⟩
 rintro m x2 x4 x5 x6 x12 x13 x14 H1 R hR ⟨k,s,at',sum,p1,hk,rfl,rfl,rfl,rfl,e12,rfl,rfl,S1,F1,hpc,hbd⟩;subst e12;unfold NA;have keepS:∀{w:AV} {sz:Nat} {cs:List AV} {n:Nat} {p2:AV} {H2:AH},Aa H sz w=some (cs,n)→(∀j∈AT w,j≠os∧j∉AT p)→LwF os b0 p p2 H H2→Aa H2 sz w=some (cs,n):=λh1 h2 f=>Ae h1 λj hj=>f.same j (A2 h1 j hj) (h2 j hj).1 (by have:=A2 h1 j hj;omega) (h2 j hj).2
 rcases Ac9 k bl.length with h | h
 ·have hx:=Ea h
  generalize bl[k]=vb at hx;obtain⟨v,b⟩:=vb;obtain⟨hb1,hb2,hb3,hb4⟩:=hb _ (Ac7 hx);simp only at hb1 hb2 hb3 hb4;have hdrop:bl.drop k=(v,b)::bl.drop (k+1):=Dt hx;rw[hdrop]at hpc hbd;simp only[Ae9]at hpc hbd;generalize hrest:(bl.drop (k+1)).flatMap (λx=>Cf x.2)=rest at hpc hbd;have kI:(k:Int)<(bl.length:Int):=by omega
  have ha1:=keepS ha hai F1;have hv1:=keepS hb1 hb4 F1;obtain⟨pp,q1,q2⟩:=PL (enc:=fun x:AV×List UInt8=>[x.1]) (f:=Prod.fst) (λ_=>rfl) (l:=bl) (by rw[← List.map_eq_flatMap];exact ha1) hx;simp only[Aa6,kI,zL,q1,q2];refine bC_of (nM hv1 hb2) ?_;have g2:=Grew.app H1 [some (AObj.cells [v]),some (.cells [I 4096])];have S2:=S1.grew g2;have F2:LwF os b0 p p1 H (H1++[some (AObj.cells [v]),some (.cells [I 4096])]):=F1.trans (.of_grew g2);have t0:(H1++[some (AObj.cells [v]),some (.cells [I 4096])])[H1.length]?=some (some (.cells [v])):=by simp
  have t1:(H1++[some (AObj.cells [v]),some (.cells [I 4096])])[H1.length+1]?=some (some (.cells [I 4096])):=by simp
  have hlc:(H1++[some (AObj.cells [v]),some (.cells [I 4096])]).length=H1.length+2:=by simp
  have hp1:=S1.st.p_lt;have hb03:b0+3<H1.length:=(B8.1 S1.ba).1;have z4:=S1.no;generalize (H1++[some (AObj.cells [v]),some (.cells [I 4096])])=Hc at S2 F2 t0 t1 hlc
  refine yT (jY (o1:=H1.length) (o2:=H1.length+1) (s:=v) (cs:=AF b) (len:=b.length) (n:=4096) (by omega) (by omega) (by omega)) (by kernel_rfl)
   (λi H'=>∃(s:StS) (at' sum:Int) (p':AV),LwS os b0 ino s at' p' H'∧LwF os b0 p1 p' Hc H'∧pcs ino ((Cf b).drop i++rest) s at' sum=RES∧Bd NN ((Cf b).drop i++rest) s at' 0)
   (λH'=>∃(s:StS) (at' sum:Int) (p':AV) (e:Int),StAt s os p' H'∧LwF os b0 p1 p' Hc H'∧H'[b0+2]?=some (some (.cells [I e]))∧RES=((s,at',sum),e))
   ⟨s,at',sum,p1,S2,.refl _ _ _ _,by simpa using hpc,by simpa using hbd⟩ ?_ ?_ ?_ ?_
  ·rintro i H' ⟨s',at'',sum',p',S',F',-,-⟩
   refine⟨(F'.same _ (by omega) (by omega) (by omega) (λq=>by have:=hp1 _ q;omega)).trans t0,(F'.same _ (by omega) (by omega) (by omega) (λq=>by have:=hp1 _ q;omega)).trans t1,keepS hb1 hb4 (F2.trans F')⟩
  ·rintro i x H' hxi ⟨s',at'',sum',p',S',F',hpc',hbd'⟩
   have hi:i<iM b.length 4096:=by
    have:=(B8.1 hxi).1
    rwa[Xv]at this
   have hil:=(jV (len:=b.length) (k:=i) (show 0<4096 by omega)).1 hi
   have ex:x=qQ v b.length 4096 i:=by
    unfold uS at hxi;rw[Af3,Aj6 hi]at hxi;injection hxi with hxi;exact hxi.symm
   subst ex;have hv':=keepS hb1 hb4 (F2.trans F');obtain⟨c1,c2⟩:=sF hv' hil;have hcd:(Cf b).drop i=PM b i::(Cf b).drop (i+1):=Dt (ZY hi);rw[hcd,Ah9]at hpc' hbd';obtain⟨⟨M,w1,w2⟩,w3,w4⟩:=hbd';rw[WC]at w2 w3 w4
   have fp:∀j∈AT v,j∉AT p':=λj hj q=>by
    have hjl:=A2 hb1 j hj;rcases(F2.trans F').ids j q with q | q
    ·exact(hb4 j hj).2 q
    ·omega
   have wn:=ZF s' ino at'' (PM b i);have ww:=RG w1 ino at'' (PM b i);unfold pcs at hpc';refine lK S' w1 (by omega) c1 (λj hj=>⟨(hb4 j (c2 j hj)).1,fp j (c2 j hj)⟩) (by omega) ?_ ?_
   ·intro he p2 H2 S2' F2'
    rw[if_pos he]at hpc';exact⟨_,_,_,p2,S2',F'.trans F2',hpc',⟨⟨_,ww,by omega⟩,by omega,by omega⟩⟩
   ·intro he p2 H2 S2' F2' r2
    rw[if_neg he]at hpc';exact⟨_,_,_,p2,_,S2',F'.trans F2',r2,hpc'.symm⟩
  ·rintro H' ⟨s',at'',sum',p',S',F',hpc',hbd'⟩
   rw[Xv,← ZZ,Am2,Ai2]at hpc' hbd';simp only[Ax (a:=k) (b:=1) (by omega) (by omega),Ab];exact hR (m - 1) _ _ _ _ _ _ _ _ (by omega) ⟨k+1,s',at'',sum',p',by omega,rfl,rfl,rfl,rfl,rfl,rfl,by simp,S',F2.trans F',by rw[hrest];exact hpc',by rw[hrest];exact hbd'⟩
  ·rintro H' ⟨s',at'',sum',p',e,S',F',r2,rfl⟩
   simp only[Ak r2,Ah,CN,Ab];exact⟨p',by trivial,S',fin (F2.trans F')⟩
 ·have kI:¬(k:Int)<(bl.length:Int):=by omega
  have hdrop:bl.drop k=[]:=Ad9 h;rw[hdrop]at hpc;simp only[List.flatMap_nil]at hpc;unfold pcs at hpc;subst hpc;obtain⟨c,r2⟩:=S1.br;have hb03:b0+3<H1.length:=(B8.1 S1.ba).1;have z4:=S1.no;have e2:AR 1 H1 (.ptr (b0+2) 0) (I 0)=some (H1.set (b0+2) (some (.cells [I 0]))):=oS r2 (by simp) rfl;simp only[Aa6,kI,zI,e2,AC];generalize hH4:H1.set (b0+2) (some (AObj.cells [I 0]))=H4;have g4:∀j,j≠b0+2→H4[j]?=H1[j]?:=λj hj=>by rw[← hH4,C2 (Af7 hj)]
  have t2:H4[b0+2]?=some (some (.cells [I 0])):=by rw[← hH4];exact JX (by omega)
  have l4:H4.length=H1.length:=by rw[← hH4,Ae5]
  simp only[Ak t2,Ah,CN,Ab];refine⟨p1,by trivial,S1.st.keep λj hj=>?_,fin ⟨by have:=F1.len;omega,λj hj h1 h3 hp=>by rw[g4 j (by omega)];exact F1.same j hj h1 h3 hp,F1.ids⟩⟩;rcases hj with rfl | hj
  ·exact g4 j (by omega)
  ·exact g4 j (λe=>S1.nb (b0+2) (by omega) (by omega) (by rw[← e];exact hj)))
theorem rI {N:Nat}{s:StS}{os:Nat}{p:AV}{H:AH}(h:StAt s os p H)(hw:SW N s)(hN:N≤900000)(ino:Int):∃r H',(r=.tup [I (AB s ino).1.1,I (AB s ino).2]∧Grew H H')∧BCall prog 60 [.ptr os 0,I ino] H r H':=OH (by
 unfold L4;obtain⟨R,hR,r,H1,⟨rfl,g1⟩,hc⟩:=RZ h hw hN ino;have oR:=SV.oneA hR;refine bC_of hc ?_;have g2:=Grew.app H1 [some (AObj.cells [I (AB s ino).1.1,R])];simp only[A5,zQ,pF,zT,bL _ _ oR,Ak C6];exact⟨by trivial,g1.trans g2⟩)
theorem qJ {N:Nat}{s:StS}{os:Nat}{p a2:AV}{H:AH}{nm:List UInt8}{bl:List (AV×List UInt8)}(hst:StAt s os p H)(hw:SW N s)(hnm:nm.length≤9223372036854775807)
  (ha:Aa H 1 a2=some (bl.map Prod.fst,bl.length)) (hai:∀j∈AT a2,j≠os∧j∉AT p) (hb:∀x∈bl,Aa H 1 x.1=some (AF x.2,x.2.length)∧oneA x.1=true∧x.2.length≤1000000∧∀j∈AT x.1,j≠os∧j∉AT p) (hbn:bl.length≤1000000)
  (hN:N+2+9*Hq (bl.flatMap λx=>Cf x.2)<900000):
  ACalls prog 11 [.ptr os 0,S (Ay nm),a2] H λr H'=>∃p',r=I (XO s nm (bl.flatMap λx=>Cf x.2)).1∧StAt (XO s nm (bl.flatMap λx=>Cf x.2)).2 os p' H'∧StF os p p' H H':=Zb (by
 unfold Vl;obtain⟨r,H1,⟨rfl,p1,h1,f1⟩,hc⟩:=Uk hst hw (by omega) hnm true;have w1:=Om hw nm true;refine bC_of hc ?_;unfold XO;generalize AX s nm true=O at*;simp only[zU,zC,CD]
 by_cases c1:O.1.2=0
 rotate_left
 ·simp only[c1,zA,zE,Ao]
  exact⟨p1,by trivial,h1,f1⟩
 simp only[c1,zO,zI];obtain⟨r,H2,⟨rfl,p2,h2,f2⟩,hc⟩:=PU h1 w1 (by omega) O.1.1 0;have w2:=LC w1 O.1.1 0;refine bC_of hc ?_;generalize D9 O.2 O.1.1 0=Q at*;simp only[CD,zC];have f12:=f1.trans f2
 by_cases c2:Q.1=0
 rotate_left
 ·simp only[c2,zA,zE,Ao]
  exact⟨p2,by trivial,h2,f12⟩
 simp only[c2,zO,zI];have keepS:∀{w:AV} {cs:List AV} {n:Nat},Aa H 1 w=some (cs,n)→(∀j∈AT w,j≠os∧j∉AT p)→Aa H2 1 w=some (cs,n)∧∀j∈AT w,j≠os∧j∉AT p2:=λk1 k2=>
  ⟨Ae k1 λj hj=>f12.same j (A2 k1 j hj) (k2 j hj).1 (k2 j hj).2,λj hj=>⟨(k2 j hj).1,λq=>(f12.ids j q).elim (k2 j hj).2 (λq=>by have:=A2 k1 j hj;omega)⟩⟩
 refine⟨_,rF (ino:=O.1.1) h2 w2 (keepS ha hai).1 (keepS ha hai).2 (λx hx=>⟨(keepS (hb x hx).1 (hb x hx).2.2.2).1,(hb x hx).2.1,(hb x hx).2.2.1,(keepS (hb x hx).1 (hb x hx).2.2.2).2⟩) hbn (by omega),?_⟩;have w3:=mB (ino:=O.1.1) (l:=bl.flatMap λx=>Cf x.2) (a:=0) (m:=0) w2;generalize pcs O.1.1 (bl.flatMap λx=>Cf x.2) Q.2 0 0=Z at*;rintro r H3 ⟨p3,rfl,h3,f3⟩;have f123:=f12.trans f3;simp only[CD,zC]
 by_cases c3:Z.2=0
 rotate_left
 ·simp only[c3,zA,zE,Ao]
  exact⟨p3,by trivial,h3,f123⟩
 simp only[c3,zO,zI];have eA:Cv H3 1 1 (Bg [(I 0)] 1) [(0,1,I O.1.1)]=some (.sl H3.length 0 1 1 (.ex 1),H3++[some (.cells [I O.1.1])]):=rfl;have g4:=Grew.app H3 [some (AObj.cells [I O.1.1])];have hsl:Aa (H3++[some (AObj.cells [I O.1.1])]) 1 (.sl H3.length 0 1 1 (.ex 1))=some (([O.1.1]:List Int).flatMap UI,([O.1.1]:List Int).length):=by simp[Aa,UI]
 have lo:=h3.os_lt;have lp:=h3.p_lt
 obtain⟨r,H5,⟨rfl,p5,h5,f5⟩,hc⟩:=rJ (h3.grew g4) w3 (by omega) hsl (by
  intro j hj;simp[AT]at hj;subst hj;exact⟨by omega,λq=>by have:=lp _ q;omega⟩) (by simp)
 simp only[eA,A0];refine bC_of hc ?_;exact⟨p5,by trivial,h5,(f123.grew g4).trans f5⟩)
theorem NW {a:List UInt8}{lo hi:Option AV}{l h:Nat}(e1:Bu lo 0=some l)(e2:Bu hi a.length=some h)(h1:l≤h)(h2:h≤a.length):RQ (S (Ay a)) lo hi=some (S (Ay ((a.drop l).take (h - l)))):=by
 have e3:Bu hi (Ay a).size=some h:=e2;have e4:h≤(Ay a).size:=h2
 have:(Ay a).extract l h=Ay ((a.drop l).take (h - l)):=by
  apply ByteArray.ext;rw[ByteArray.data_extract];simp[Ay,List.extract_eq_take_drop]
 simp[RQ,e1,e3,h1,e4,this]
def Ye (a:List UInt8):Int:=Lib.indexByte a 61
theorem tF (a:List UInt8): -1≤Ye a∧(0≤Ye a→(Ye a).toNat<a.length):=by
 unfold Ye;refine⟨Lib.indexByte_ge a 61,?_⟩
 induction a with
 | nil=>intro h;exact absurd h (by decide)
 | cons b l ih=>
  intro h;unfold Lib.indexByte at h⊢;simp only[Ae2];split at h
  ·rename_i hb
   rw[if_pos hb];exact Nat.zero_lt_succ _
  ·rename_i hb
   rw[if_neg hb];split at h
   ·exact absurd h (by decide)
   ·rename_i hc
    rw[if_neg hc];have hge:=Lib.indexByte_ge l 61;have hc':Lib.indexByte l 61≠ -1:=λe=>hc (by rw[e];rfl)
    have:=ih (by omega)
    omega
theorem Yh (a:List UInt8):BPure prog 236 [S (Ay a),.lit (.int .u8 61)] (I (Ye a)):=λH=>Gi (K:=λr H'=>r=I (Ye a)∧H'=H) (by
 unfold C1;refine⟨I (Ye a),?_,rfl,rfl⟩;intro G vs hH hv;have hv':VRs G [S (Ay a),.lit (.int .u8 61)] vs:=hv;simp only[VRs,VR]at hv';obtain⟨_,_,rfl,rfl,_,_,rfl,rfl,rfl⟩:=hv';refine⟨.int .i64 (Ye a),?_,by simp only[VR]⟩;rw[run_callFunc_extern func241 (by kernel_rfl) (by kernel_rfl) (by kernel_rfl) (e:=Extern.BytealgIndexByte.indexByte) (by kernel_rfl)]
 have:=Lib.run_indexByteString (P:=prog) (Ay a) 61 G.w
 rw[show(Ay a).data.toList=a by simp[Ay]]at this;rw[this]
 rfl)
theorem nP (a:List UInt8):BPure prog 234 [S (Ay a),.lit (.string ⟨#[61]⟩)] (I (Ye a)):=λH=>HO (K:=λr H'=>r=I (Ye a)∧H'=H) (by
 unfold Dj;have e0:(AV.lit (.string ⟨#[61]⟩))=S (Ay [61]):=rfl;have e1:Ge (S (Ay [61]))=some (I 1):=rfl;have e2:TA (S (Ay [61])) (I 0)=some (.lit (.int .u8 61)):=rfl;simp only[e0,e1,zC,Cn,show decide ((1:Int)=0)=false from rfl,zW,yZ,Gp,An]
 by_cases c:([61]:List UInt8)=a
 ·subst c
  simp only[zL];exact⟨by trivial,by trivial⟩
 ·simp only[c,zI,zL,e2,Ab]
  exact A1 (Yh a) ⟨by trivial,by trivial⟩)
def Ni (a:List UInt8):List UInt8×List UInt8:=if 0≤Ye a then(a.take (Ye a).toNat,a.drop ((Ye a).toNat+1))else(a,[])
abbrev Ab2:=And.intro @List.drop_zero.{0} @Nat.sub_zero
theorem uY {a:List UInt8}(ha:a.length≤9223372036854775806):BPure prog 217 [S (Ay a),.lit (.string ⟨#[61]⟩)] (.tup [S (Ay (Ni a).1),S (Ay (Ni a).2),B (decide (0≤Ye a))]):=BPure.flat λH=>VB (by
 unfold T5
 refine A1 (r:=.tup [S (Ay (Ni a).1),S (Ay (Ni a).2),B (decide (0≤Ye a))]) (BPure.flat λH=>IE (by
  unfold Fp;refine A1 (nP a) ?_;obtain⟨i1,i2⟩:=tF a;unfold Ni;simp only[I9,zC]
  by_cases c:0≤Ye a
  ·have i2:=i2 c
   obtain⟨k,hk⟩:∃k:Nat,Ye a=k:=⟨(Ye a).toNat,by omega⟩;rw[hk]at i2 c⊢;simp only[Ak8]at i2;have s1:=NW (a:=a) (lo:=none) (hi:=some (I (k:Int))) (l:=0) (h:=k) rfl (by simp[Bu]) (by omega) (by omega);have s2:=NW (a:=a) (lo:=some (I ((k:Int)+1))) (hi:=none) (l:=k+1) (h:=a.length) (by simp only[Bu];rw[if_pos (by omega)];congr 1) rfl (by omega) (by omega);have e3:(a.drop (k+1)).take (a.length - (k+1))=a.drop (k+1):=Ac5 (by rw[Ad1];omega);have e1:Ge (.lit (.string ⟨#[61]⟩))=some (I 1):=rfl;simp only[c,zE,Ao,s1,Ab,e1,Ax (a:=(k:Int)) (b:=1) (by omega) (by omega),s2,Ab2,e3,Ak8];exact⟨by trivial,by trivial⟩
  ·simp only[c,zI,if_false]
   exact⟨by trivial,by trivial⟩)) ?_
 simp only[zU,Ab];exact⟨by trivial,by trivial⟩)
def Vb (p a:List UInt8):Bool:=decide (a.take p.length=p)
theorem Yg {a p:List UInt8}(ha:a.length≤9223372036854775807)(hp:p.length≤9223372036854775807):BPure prog 228 [S (Ay a),S (Ay p)] (B (Vb p a)):=BPure.flat λH=>Gg (by
 unfold DO;have q1:Ge (S (Ay a))=some (I a.length):=IJ ha;have q2:Ge (S (Ay p))=some (I p.length):=IJ hp;unfold Vb;simp only[q1,q2,Ab,I9,AK]
 by_cases c:p.length≤a.length
 ·have s1:=NW (a:=a) (lo:=none) (hi:=some (I (p.length:Int))) (l:=0) (h:=p.length) rfl (by simp[Bu]) (by omega) c
  simp only[Ab2]at s1;simp only[show((p.length:Int)≤(a.length:Int)) by omega,zE,yZ,q2,Ab,s1,Gp,Aw];exact⟨by trivial,by trivial⟩
 ·have:¬a.take p.length=p:=λe=>c (by rw[← e,Ac4];omega)
  simp only[show ¬((p.length:Int)≤(a.length:Int)) by omega,Dg,show((false==true)=false)from rfl,Cq,Ab,zW,An,this];exact⟨by trivial,by trivial⟩)
theorem SJ {a p:List UInt8}(ha:a.length≤9223372036854775807)(hp:p.length≤9223372036854775807):BPure prog 194 [S (Ay a),S (Ay p)] (.tup [S (Ay (if Vb p a=true then a.drop p.length else a)),B (Vb p a)]):=BPure.flat λH=>NQ (by
 unfold Kk
 refine A1 (r:=.tup [S (Ay (if Vb p a=true then a.drop p.length else a)),B (Vb p a)]) (BPure.flat λH=>Gf (by
  unfold DN;refine A1 (Yg ha hp) ?_;have q2:Ge (S (Ay p))=some (I p.length):=IJ hp;simp only[Ab5];cases c:Vb p a with
  | true=>
   have hl:p.length≤a.length:=by
    have:=of_decide_eq_true c
    have h2:=congrArg List.length this;rw[Ac4]at h2;omega
   have s1:=NW (a:=a) (lo:=some (I (p.length:Int))) (hi:=none) (l:=p.length) (h:=a.length) (by simp[Bu]) rfl hl (by omega);rw[Ac5 (by rw[Ad1];omega)]at s1;simp only[zJ,q2,Ac2,s1];exact⟨by trivial,by trivial⟩
  | false=>
   simp only[zH,An];exact⟨by trivial,by trivial⟩)) ?_
 simp only[zU,Ab];exact⟨by trivial,by trivial⟩)
def NL (c:UInt8):Prop:=97≤c.toNat∧c.toNat≤122
instance (c:UInt8):Decidable (NL c):=by unfold NL;infer_instance
theorem qB (c:UInt8):BPure prog 214 [.lit (.int .u8 c.toNat)] (B (decide (NL c))):=BPure.flat λH=>Xr (by
 unfold Wv;unfold NL;simp only[I9,Ab,AK]
 by_cases h:97≤c.toNat
 ·simp only[show(97:Int)≤(c.toNat:Int) by omega,zE,yZ,Ab,bZ,Aw]
  refine⟨?_,by trivial⟩
  by_cases h2:c.toNat≤122
  ·simp[h,h2];omega
  ·simp[h,h2];omega
 ·simp only[show ¬(97:Int)≤(c.toNat:Int) by omega,Dg,show((false==true)=false)from rfl,Cq,Ab,Aw,An]
  exact⟨by simp[h],by trivial⟩)
def Le (a:List UInt8):Prop:=a≠[]∧a.length≤10∧∀c∈a,NL c
instance (a:List UInt8):Decidable (Le a):=by unfold Le;infer_instance
theorem wV {a:List UInt8}(ha:a.length≤9223372036854775806):BPure prog 218 [S (Ay a)] (B (decide (Le a))):=BPure.flat λH=>ZS (by
 unfold cG;have q1:Ge (S (Ay a))=some (I a.length):=IJ (by omega);simp only[q1,Ab];refine TE (λn x0 x5 x6 H'=>∃k:Nat,k+n=a.length∧x0=S (Ay a)∧x5=I a.length∧x6=I k∧H'=H∧∀m y,m<k→a[m]?=some y→NL y) ?_ a.length ⟨0,by omega,rfl,rfl,rfl,rfl,by omega⟩;rintro n x0 x5 x6 H' R hR ⟨k,hk,rfl,rfl,rfl,rfl,hb⟩;unfold Ql;simp only[Aa6];rcases Ac9 k a.length with h | h
 ·have hx:=Ea h
  generalize a[k]=y at hx;simp only[show(k:Int)<(a.length:Int) by omega,zL,RK rfl hx,Ab];refine A1 (qB y) ?_;simp only[Ab5]
  by_cases hy:NL y
  ·simp only[hy,CM,zJ,Ax (a:=(k:Int)) (b:=1) (by omega) (by omega),Ab]
   refine hR (n - 1) _ _ _ _ (by omega) ⟨k+1,by omega,rfl,rfl,by simp,rfl,?_⟩;intro m z hm hz
   by_cases c:m=k
   ·rw[c,hx]at hz;injection hz with hz;rw[← hz];exact hy
   ·exact hb m z (by omega) hz
  ·have:¬Le a:=λhm=>hy (hm.2.2 y (Ac7 hx))
   simp only[hy,this,Dg,zH];exact⟨by trivial,by trivial⟩
 ·have all:∀c∈a,NL c:=λc hc=>by
   obtain⟨m,hm⟩:=Ae0.1 hc
   have:=(B8.1 hm).1
   exact hb m c (by omega) hm
  have e0:(AV.lit (.string ⟨#[]⟩))=S (Ay []):=rfl;simp only[show ¬(k:Int)<(a.length:Int) by omega,zI,e0,PX,Ab,AK]
  by_cases c:a=[]
  ·have:¬Le a:=λhm=>hm.1 c
   simp only[c,yY,Dg,show((false==true)=false)from rfl,Cq,Ab,Aw,An];rw[c]at this;exact⟨by simp[this],by trivial⟩
  ·simp only[c,zA,zE,yZ,q1,Ab,bZ,Aw]
   refine⟨?_,by trivial⟩
   by_cases c2:a.length≤10
   ·have:Le a:=⟨c,c2,all⟩
    simp[this];omega
   ·have:¬Le a:=λhm=>c2 hm.2.1
    simp[this];omega)
abbrev Tx:=List UInt8
def Cp (t:Tx):List AV:=[S (Ay t)]
def DK (p:Tx×Tx):List AV:=[S (Ay p.1),S (Ay p.2)]
theorem UH (t:Tx):(Cp t).length=1:=rfl
theorem fT (t:Tx×Tx):(DK t).length=2:=rfl
def gU (s:Tx):Option (Option (Tx×Tx)):=
 if Vb [45,45] s=true then(if Le (Ni (s.drop 2)).1 then some (some (Ni (s.drop 2)))else none)
 else if Vb [45] s=true∧s.drop 1≠[]then none else some none
def Ii:List Tx→List (Tx×Tx)→List Tx→Option (List (Tx×Tx)×List Tx)
 | [],o,r=>some (o,r)
 | s::l,o,r=>if s=[45,45]then some (o,r++l)else match gU s with
  | none=>none
  | some (some kv)=>Ii l (o++[kv]) r
  | some none=>Ii l o (r++[s])
structure Tk (n0 o:Nat)(vl vo vr:AV)(l:List Tx)(op:List (Tx×Tx))(rs:List Tx)(H0 H:AH):Prop where
 obj:H[o]?=some (some (.cells [Ad,vl,vo,vr]))
 no:n0≤o
 sl:Aa H 1 vl=some (l.flatMap Cp,l.length)
 il:∀i∈AT vl,i<n0
 so:Aa H 2 vo=some (op.flatMap DK,op.length)
 oo:AP vo=true
 io:∀i∈AT vo,n0≤i∧i≠o
 sr:Aa H 1 vr=some (rs.flatMap Cp,rs.length)
 ow:AP vr=true
 ir:∀i∈AT vr,n0≤i∧i≠o
 dj:∀i∈AT vo,i∉AT vr
 g:n0≤H.length∧∀i,i<n0→H[i]?=H0[i]?
section
variable {n0 o : Nat} {vl vo vr : AV} {l : List Tx} {op : List (Tx × Tx)} {rs : List Tx} {H0 H : AH}
theorem Tk.lt (h:Tk n0 o vl vo vr l op rs H0 H):o<H.length:=(B8.1 h.obj).1
theorem Tk.move {vo2 vr2:AV}{op2:List (Tx×Tx)}{rs2:List Tx}{H':AH}(h:Tk n0 o vl vo vr l op rs H0 H)(hl:H.length≤H'.length)(hk:∀i,i<n0→H'[i]?=H[i]?)(ho:H'[o]?=some (some (.cells [Ad,vl,vo2,vr2])))
  (so:Aa H' 2 vo2=some (op2.flatMap DK,op2.length)) (oo:AP vo2=true) (io:∀i∈AT vo2,n0≤i∧i≠o) (sr:Aa H' 1 vr2=some (rs2.flatMap Cp,rs2.length)) (ow:AP vr2=true) (ir:∀i∈AT vr2,n0≤i∧i≠o) (dj:∀i∈AT vo2,i∉AT vr2):Tk n0 o vl vo2 vr2 l op2 rs2 H0 H':=
 ⟨ho,h.no,Ae h.sl λi hi=>hk i (h.il i hi),h.il,so,oo,io,sr,ow,ir,dj,Ae1 h.g.1 hl,λi hi=>(hk i hi).trans (h.g.2 i hi)⟩
theorem xI (h:Tk n0 o vl vo vr l op rs H0 H)(hop:op.length≤1000)(k v:Tx):∃r H',(r=.tup []∧∃vo',Tk n0 o vl vo' vr l (op++[(k,v)]) rs H0 H')∧BCall prog 219 [.ptr o 0,S (Ay k),S (Ay v)] H r H':=RP (by
 unfold OM;have hlt:=h.lt;have e1:FD [(.lit (.string ⟨#[]⟩)),(.lit (.string ⟨#[]⟩))] [(0,1,S (Ay k)),(1,1,S (Ay v))]=some (.agg [S (Ay k),S (Ay v)]):=rfl
 have e2:Cv H 2 1 (Bg [(.lit (.string ⟨#[]⟩)),(.lit (.string ⟨#[]⟩))] 1) [(0,2,.agg [S (Ay k),S (Ay v)])]=some (.sl H.length 0 1 2 (.ex 1),H++[some (.cells [S (Ay k),S (Ay v)])]):=by
  simp[Cv,T8,Bg,BE,AN,oneA]
 have g:=Grew.app H [some (AObj.cells [S (Ay k),S (Ay v)])]
 have s1:Aa (H++[some (AObj.cells [S (Ay k),S (Ay v)])]) 2 (.sl H.length 0 1 2 (.ex 1))=some ([S (Ay k),S (Ay v)],1):=by
  rw[AA C6 (by simp)];rfl
 obtain⟨r,H8,a1,a2,a3,a4,a5,a6⟩:=CL (sz:=2) (bytes:=32) (g.slice h.so) h.oo (AI s1) (by omega);have lg:(H++[some (AObj.cells [S (Ay k),S (Ay v)])]).length=H.length+1:=by simp
 rw[lg]at a4 a5 a6;have k8:∀i,i<H.length→i∉AT vo→H8[i]?=H[i]?:=λi h1 h2=>(a5 i (by omega) h2).trans (g.2 i h1)
 have ob8:H8[o]?=some (some (.cells [Ad,vl,vo,vr])):=(k8 o hlt λz=>(h.io o z).2 rfl).trans h.obj;have or':=AL a2
 have e3:AR 1 H8 (.ptr o 2) r=some (H8.set o (some (.cells [Ad,vl,r,vr]))):=by
  rw[A8 (n:=1) (xs:=[r]) (cs:=[Ad,vl,vo,vr]) (AO or') ob8 rfl (by simp)];rfl
 simp only[Ab4,Ah6,Ak h.obj,e1,e2,zT,a1,e3];have ne8:∀i,i≠o→(H8.set o (some (.cells [Ad,vl,r,vr])))[i]?=H8[i]?:=λi hi=>C2 (Af7 hi)
 have rne:∀i∈AT r,n0≤i∧i≠o:=λi hi=>by
  rcases a6 i hi with z | z
  ·exact h.io i z
  ·have:=h.g.1;exact⟨by omega,by omega⟩
 refine⟨by trivial,r,h.move (by rw[Ae5];omega) (λi hi=>?_) (JX (by omega)) ?_ a2 rne ?_ h.ow h.ir ?_⟩
 ·have:=h.no;have:=h.g.1
  rw[ne8 i (by omega)];exact k8 i (by omega) λz=>by have:=(h.io i z).1;omega
 ·have:(op++[(k,v)]).flatMap DK=op.flatMap DK++[S (Ay k),S (Ay v)]:=by simp[DK]
  rw[this,Ad0];exact Ae a3 λi hi=>ne8 i (rne i hi).2
 ·exact Ae h.sr λi hi=>by
   rw[ne8 i (h.ir i hi).2];exact k8 i (A2 h.sr i hi) λz=>h.dj i z hi
 ·intro i hi z
  rcases a6 i hi with y | y
  ·exact h.dj i y z
  ·have:=A2 h.sr i z;omega)
theorem tG (h:Tk n0 o vl vo vr l op rs H0 H)(hop:op.length≤1000){s:Tx}(hs:s.length≤1000000):∃r H',(r=B (decide (Le (Ni s).1))∧(Le (Ni s).1→∃vo',Tk n0 o vl vo' vr l (op++[Ni s]) rs H0 H')∧n0≤H'.length∧∀i,i<n0→H'[i]?=H0[i]?)∧BCall prog 195 [.ptr o 0,S (Ay s)] H r H':=Qm (by
 unfold MS;refine A1 (uY (by omega)) ?_
 have hl:(Ni s).1.length≤s.length:=by
  unfold Ni
  split
  ·simp only[Ac4];omega
  ·exact Ac6 _
 simp only[zU,Ab];refine A1 (wV (by omega)) ?_;simp only[Ab5]
 by_cases c:Le (Ni s).1
 ·simp only[c,CM,zJ]
  obtain⟨r,H',⟨rfl,vo',h'⟩,hc⟩:=xI h hop (Ni s).1 (Ni s).2;refine bC_of hc ?_;exact⟨by trivial,λ_=>⟨vo',h'⟩,h'.g⟩
 ·simp only[c,Dg,zH]
  exact⟨by trivial,λh=>h.elim,h.g⟩)
abbrev Aa8:=And.intro @Int.lt_irrefl @zI
theorem wU (x:AV)(H:AH):BCall prog 215 [Ad,x] H (I (-1)) H:=by
 obtain⟨r,H',⟨rfl,rfl⟩,hc⟩:=EU (a0:=Ad) (a1:=x) (H:=H) (K:=λr H'=>r=I (-1)∧H'=H) (by
  unfold De;have e:Bf Ad=some (I 0):=rfl;simp only[e,Ab];refine DW (λn x0 x1 x7 x8 H'=>x7=I 0∧x8=I 0∧H'=H) ?_ 0 ⟨rfl,rfl,rfl⟩;rintro n x0 x1 x7 x8 H' R hR ⟨rfl,rfl,rfl⟩;unfold Cz;simp only[Aa6,Aa8];exact⟨by trivial,by trivial⟩)
 exact hc
theorem pX (h:Tk n0 o vl vo vr l op rs H0 H){s:Tx}(hs:s.length≤1000000)(h0:s≠[]):∃r H',(r=B false∧n0≤H'.length∧∀i,i<n0→H'[i]?=H0[i]?)∧BCall prog 196 [.ptr o 0,S (Ay s)] H r H':=P0 (by
 unfold Mg;have e1:A9 H (S (Ay s))=some (.ptr H.length 0,H++[some (.cells [S (Ay s)])]):=rfl;have g:=Grew.app H [some (AObj.cells [S (Ay s)])];have q1:Ge (S (Ay s))=some (I s.length):=IJ (by omega);simp only[e1,A0,Ak C6,Ah,CN,Ab,q1];have ob:=g.cells h.obj;have hf:n0≤(H++[some (AObj.cells [S (Ay s)])]).length∧∀i,i<n0→(H++[some (AObj.cells [S (Ay s)])])[i]?=H0[i]?:=⟨Ae1 h.g.1 g.1,λi hi=>(g.2 i (by have:=h.g.1;omega)).trans (h.g.2 i hi)⟩;have hlt:=h.lt;have hno:=h.no;have hlen:(H++[some (AObj.cells [S (Ay s)])]).length=H.length+1:=by simp
 generalize (H++[some (AObj.cells [S (Ay s)])])=H1 at*;refine KA (λn x0 x3 x8 x9 H'=>x0=.ptr o 0∧x8=I s.length∧x9=I 0∧H'=H1) ?_ 0 ⟨rfl,rfl,rfl,rfl⟩;rintro n x0 x3 x8 x9 H' R hR ⟨rfl,rfl,rfl,rfl⟩;unfold HF
 have hp:(0:Int)<(s.length:Int):=by
  have:=List.length_pos_iff.2 h0;omega
 have e2:A9 H' (I 0)=some (.ptr H'.length 0,H'++[some (.cells [I 0])]):=rfl;have g2:=Grew.app H' [some (AObj.cells [I 0])]
 have e3:AR 1 (H'++[some (AObj.cells [I 0])]) (.ptr H'.length 0) (I 0)=some (H'++[some (.cells [I 0])]):=by
  rw[A8 (n:=1) (xs:=[I 0]) (cs:=[I 0]) rfl C6 rfl (by simp)];simp[AN]
 simp only[Bi,zM,Ag,hp,zL,e2,zT,e3,Au,Ak (g2.cells ob),CN];refine bC_of (wU _ _) ?_;simp only[Aa6,show decide ((-1:Int)<0)=true from rfl,Ao];exact⟨by trivial,Ae1 hf.1 g2.1,λi hi=>(g2.2 i (by have:=h.g.1;omega)).trans (hf.2 i hi)⟩)
theorem uD (h:Tk n0 o vl vo vr l op rs H0 H)(hrs:rs.length≤1000)(s:Tx):
  ∃r H8 H9,Cv H 1 1 (Bg [(.lit (.string ⟨#[]⟩))] 1) [(0,1,S (Ay s))]=some (.sl H.length 0 1 1 (.ex 1),H++[some (.cells [S (Ay s)])])∧MJ 1 16 (H++[some (.cells [S (Ay s)])]) vr (.sl H.length 0 1 1 (.ex 1))=some (r,H8)∧AR 1 H8 (.ptr o 3) r=some H9∧Tk n0 o vl vo r l op (rs++[s]) H0 H9:=by
 have hlt:=h.lt
 have e2:Cv H 1 1 (Bg [(.lit (.string ⟨#[]⟩))] 1) [(0,1,S (Ay s))]=some (.sl H.length 0 1 1 (.ex 1),H++[some (.cells [S (Ay s)])]):=by
  simp[Cv,T8,Bg,BE,AN,oneA]
 have g:=Grew.app H [some (AObj.cells [S (Ay s)])]
 have s1:Aa (H++[some (AObj.cells [S (Ay s)])]) 1 (.sl H.length 0 1 1 (.ex 1))=some ([S (Ay s)],1):=by
  rw[AA C6 (by simp)];rfl
 obtain⟨r,H8,a1,a2,a3,a4,a5,a6⟩:=CL (sz:=1) (bytes:=16) (g.slice h.sr) h.ow (AI s1) (by omega);have lg:(H++[some (AObj.cells [S (Ay s)])]).length=H.length+1:=by simp
 rw[lg]at a4 a5 a6;have k8:∀i,i<H.length→i∉AT vr→H8[i]?=H[i]?:=λi h1 h2=>(a5 i (by omega) h2).trans (g.2 i h1)
 have ob8:H8[o]?=some (some (.cells [Ad,vl,vo,vr])):=(k8 o hlt λz=>(h.ir o z).2 rfl).trans h.obj;have or':=AL a2
 have e3:AR 1 H8 (.ptr o 3) r=some (H8.set o (some (.cells [Ad,vl,vo,r]))):=by
  rw[A8 (n:=1) (xs:=[r]) (cs:=[Ad,vl,vo,vr]) (AO or') ob8 rfl (by simp)];rfl
 have ne8:∀i,i≠o→(H8.set o (some (.cells [Ad,vl,vo,r])))[i]?=H8[i]?:=λi hi=>C2 (Af7 hi)
 have rne:∀i∈AT r,n0≤i∧i≠o:=λi hi=>by
  rcases a6 i hi with z | z
  ·exact h.ir i z
  ·have:=h.g.1;exact⟨by omega,by omega⟩
 refine⟨r,H8,_,e2,a1,e3,h.move (by rw[Ae5];omega) (λi hi=>?_) (JX (by omega)) ?_ h.oo h.io ?_ a2 rne ?_⟩
 ·have:=h.no;have:=h.g.1
  rw[ne8 i (by omega)];exact k8 i (by omega) λz=>by have:=(h.ir i z).1;omega
 ·exact Ae h.so λi hi=>by
   rw[ne8 i (h.io i hi).2];exact k8 i (A2 h.so i hi) λz=>h.dj i hi z
 ·have:(rs++[s]).flatMap Cp=rs.flatMap Cp++[S (Ay s)]:=by simp[Cp]
  rw[this,Ad0];exact Ae a3 λi hi=>ne8 i (rne i hi).2
 ·intro i hi z
  rcases a6 i z with y | y
  ·exact h.dj i hi y
  ·have:=A2 h.so i hi;omega
theorem xD (h:Tk n0 o vl vo vr l op rs H0 H)(hop:op.length≤1000)(hrs:rs.length≤1000){s:Tx}(hs:s.length≤1000000):
  ∃r H',(r=B (gU s).isSome∧(∀kv,gU s=some (some kv)→∃vo',Tk n0 o vl vo' vr l (op++[kv]) rs H0 H')∧(gU s=some none→∃vr',Tk n0 o vl vo vr' l op (rs++[s]) H0 H')∧n0≤H'.length∧∀i,i<n0→H'[i]?=H0[i]?)∧BCall prog 157 [.ptr o 0,S (Ay s)] H r H':=RO (by
 unfold OL;have e1:(AV.lit (.string ⟨#[45,45]⟩))=S (Ay [45,45]):=rfl;have e2:(AV.lit (.string ⟨#[45]⟩))=S (Ay [45]):=rfl;have e0:∀x:Tx,SL .neq (S (Ay x)) (.lit (.string ⟨#[]⟩))=some (B (decide (x≠[]))):=λx=>PX
 rw[e1,e2];refine A1 (SJ (a:=s) (p:=[45,45]) (by omega) (by simp)) ?_;unfold gU;simp only[zU,zC];cases c:Vb [45,45] s with
 | true=>
  simp only[Ao,if_true];obtain⟨r,H',⟨rfl,h1,h2⟩,hc⟩:=tG h hop (s:=s.drop 2) (by rw[Ad1];omega);refine bC_of (r:=B (decide (Le (Ni (s.drop 2)).1))) hc ?_
  by_cases k:Le (Ni (s.drop 2)).1
  ·simp only[k,zE,Ai7]
   refine⟨by trivial,λkv hkv=>?_,λhk=>by simp at hk,h2⟩;injection hkv with hkv;injection hkv with hkv;rw[← hkv];exact h1 k
  ·simp only[k,Dg,if_false,An0]
   exact⟨by trivial,λkv hkv=>by simp at hkv,λhk=>by simp at hk,h2⟩
 | false=>
  simp only[Aj,An];refine A1 (SJ (a:=s) (p:=[45]) (by omega) (by simp)) ?_;simp only[zU,Ab,AK];obtain⟨r,H8,H9,f1,f2,f3,f4⟩:=uD h hrs s;cases c2:Vb [45] s with
  | true=>
   have ed:s.drop ([45]:Tx).length=s.drop 1:=rfl;simp only[yZ,zC,if_true,ed,e0,Aw,true_and]
   by_cases c3:s.drop 1=[]
   ·simp only[c3,zO,zI,Ai7]
    simp only[Ab4,Nat.reduceAdd,Ak h.obj,f1,zT,f2,f3];exact⟨by trivial,λkv hkv=>by simp at hkv,λ_=>⟨r,f4⟩,f4.g⟩
   ·simp only[c3,zA,zE,Ao,An0]
    obtain⟨r,H',⟨rfl,h2⟩,hc⟩:=pX h (s:=s.drop 1) (by rw[Ad1];omega) c3;refine bC_of hc ?_;exact⟨by trivial,λkv hkv=>by simp at hkv,λhk=>by simp at hk,h2⟩
  | false=>
   simp only[show((false==true)=false)from rfl,Cq,zC,zW,An,Aj,false_and,Ai7];simp only[Ab4,Nat.reduceAdd,Ak h.obj,f1,zT,f2,f3];exact⟨by trivial,λkv hkv=>by simp at hkv,λ_=>⟨r,f4⟩,f4.g⟩)
end
end
section
theorem fW (H:AH):BCall prog 156 [.lit (.string ⟨#[]⟩)] H (.tup [Ad,B true]) H:=by
 obtain⟨r,H',⟨rfl,rfl⟩,hc⟩:=Xq (a0:=.lit (.string ⟨#[]⟩)) (H:=H) (K:=λr H'=>r=.tup [Ad,B true]∧H'=H) (by
  unfold Ws;have e:Ge (.lit (.string ⟨#[]⟩))=some (I 0):=rfl;simp only[e,Ab];refine Qj (λn x0 x4 x9 x10 H'=>x4=Ad∧x9=I 0∧x10=I 0∧H'=H) ?_ 0 ⟨rfl,rfl,rfl,rfl⟩;rintro n x0 x4 x9 x10 H' R hR ⟨rfl,rfl,rfl,rfl⟩;unfold MR;simp only[Aa6,Aa8];exact⟨by trivial,by trivial⟩)
 exact hc
theorem Vs {H:AH}{sz:Nat}{v:AV}{q:List AV×Nat}(h:Aa H sz v=some q):oneA v=true:=by
 cases v with
 | lit a=>cases a<;>first | rfl | (simp[Aa]at h)
 | _=>first | rfl | (simp[Aa]at h)
theorem fX (l:List Tx):(l.flatMap Cp).length=l.length:=by
 induction l with
 | nil=>rfl
 | cons a l ih=>rw[Ae9,Ad0,ih,Ae2,UH];omega
def Sn (l:List Tx):Option (List (Tx×Tx)×List Tx):=if 40<l.length then none else Ii l [] []
def iR (F:Option (List (Tx×Tx)×List Tx))(r:AV)(H:AH):Prop:=match F with
 | none=>r=.tup [.agg [Ad,Ad],B false]
 | some (op,rs)=>∃vo vr,r=.tup [.agg [vo,vr],B true]∧Aa H 2 vo=some (op.flatMap DK,op.length)∧Aa H 1 vr=some (rs.flatMap Cp,rs.length)∧oneA vo=true∧oneA vr=true
theorem nO {l:List Tx}{v:AV}{H:AH}(hv:Aa H 1 v=some (l.flatMap Cp,l.length))(hb:∀s∈l,s.length≤1000000)(hl:l.length≤9223372036854775807):
  ∃r H',(iR (Sn l) r H'∧Grew H H')∧BCall prog 83 [.lit (.string ⟨#[]⟩),v] H r H':=Xp (by
 unfold Wr;have e1:A9 H (.agg [Ad,Ad])=some (.ptr H.length 0,H++[some (.cells [Ad,Ad])]):=rfl;have g1:=Grew.app H [some (AObj.cells [Ad,Ad])];have top:=C6 (H:=H) (x:=AObj.cells [Ad,Ad]);have l1:(H++[some (AObj.cells [Ad,Ad])]).length=H.length+1:=by simp
 have hv1:=g1.slice hv;have iv:∀i∈AT v,i<H.length:=A2 hv;simp only[e1,A0];generalize (H++[some (AObj.cells [Ad,Ad])])=H1 at*;refine bC_of (fW H1) ?_;have z0:FD [Ad,Ad] []=some (.agg [Ad,Ad]):=rfl;have alv:Bf v=some (I l.length):=BF hv1;have rd2':∀a b:AV,Am true 2 [a,b] 0=some (.agg [a,b]):=λ_ _=>rfl
 simp only[zU,Ab5,Al5,zW,yZ,alv,LH,An];unfold Sn
 by_cases c40:40<l.length
 ·have t1:AR 2 H1 (.ptr H.length 0) (.agg [Ad,Ad])=some (H1.set H.length (some (.cells [Ad,Ad]))):=by
   rw[A8 (n:=2) (xs:=[Ad,Ad]) (cs:=[Ad,Ad]) (by simp[BE,oneA]) top rfl (by simp)];rfl
  have t2:(H1.set H.length (some (.cells [Ad,Ad])))[H.length]?=some (some (.cells [Ad,Ad])):=JX (by omega);simp only[show(40:Int)<(l.length:Int) by omega,zE,Ao,z0,Ab,t1,AC,Ak t2,rd2',c40];exact⟨rfl,by rw[Ae5];omega,λi hi=>by rw[C2 (by omega),g1.2 i hi]⟩
 simp only[show ¬(40:Int)<(l.length:Int) by omega,zI,c40,if_false];generalize hF:Ii l [] []=F;have o1:=Vs hv
 have z1:FD [Ad,Ad,Ad,Ad] [(0,1,Ad),(1,1,v)]=some (.agg [Ad,v,Ad,Ad]):=by
  simp[FD,AO o1,AO (show oneA Ad=true from rfl),AN]
 have e2:A9 H1 (.agg [Ad,v,Ad,Ad])=some (.ptr H1.length 0,H1++[some (.cells [Ad,v,Ad,Ad])]):=by simp[o1]
 have g2:=Grew.app H1 [some (AObj.cells [Ad,v,Ad,Ad])];simp only[z1,Ab,e2,A0];have nil2:∀(H:AH) (sz:Nat),Aa H sz Ad=some ([],0):=λ_ _=>rfl
 have tk0:Tk H1.length H1.length v Ad Ad l [] [] H1 (H1++[some (AObj.cells [Ad,v,Ad,Ad])]):=
  ⟨C6,Ac6 _,g2.slice hv1,λi hi=>by have:=iv i hi;omega,rfl,rfl,by simp[AT],rfl,rfl,by simp[AT],by simp[AT],g2.1,λi hi=>g2.2 i hi⟩
 -- what is answered at the end
 have out:∀(H':AH) (vl vo vr:AV) (lr:List Tx) (op:List (Tx×Tx)) (rs:List Tx),Tk H1.length H1.length vl vo vr lr op rs H1 H'→F=some (op,rs)→IC (.ptr H.length 0) (.ptr H1.length 0) H' (λr H'=>iR F r H'∧Grew H H'):=by
  intro H' vl vo vr lr op rs tk hf;rw[TD];unfold MO;have rd4:∀a b c d:AV,Am true 2 [a,b,c,d] 2=some (.agg [c,d]):=λ_ _ _ _=>rfl
  have ooA:=AL tk.oo;have owA:=AL tk.ow;have top':=(tk.g.2 H.length (by omega)).trans top
  have t1:AR 2 H' (.ptr H.length 0) (.agg [vo,vr])=some (H'.set H.length (some (.cells [vo,vr]))):=by
   rw[A8 (n:=2) (xs:=[vo,vr]) (cs:=[Ad,Ad]) (by simp[ooA,owA]) top' rfl (by simp)];rfl
  have hl':=tk.g.1;have t2:(H'.set H.length (some (.cells [vo,vr])))[H.length]?=some (some (.cells [vo,vr])):=JX (by omega);simp only[Au,zK,Ak tk.obj,rd4,t1,AC,Ak t2,rd2'];have ne:∀i,i≠H.length→(H'.set H.length (some (.cells [vo,vr])))[i]?=H'[i]?:=λi hi=>C2 (Af7 hi)
  rw[hf];refine⟨⟨vo,vr,rfl,Ae tk.so λi hi=>ne i (by have:=(tk.io i hi).1;omega),Ae tk.sr λi hi=>ne i (by have:=(tk.ir i hi).1;omega),ooA,owA⟩,by rw[Ae5];omega,λi hi=>?_⟩;rw[ne i (by omega),tk.g.2 i (by omega),g1.2 i hi]
 refine Qf (λn x4 x8 H'=>∃(lr:List Tx) (vl vo vr:AV) (op:List (Tx×Tx)) (rs:List Tx),lr.length=n∧x4=.ptr H.length 0∧x8=.ptr H1.length 0∧Tk H1.length H1.length vl vo vr lr op rs H1 H'∧Ii lr op rs=F∧(∀s∈lr,s.length≤1000000)∧op.length+lr.length≤40∧rs.length+lr.length≤40) ?_ l.length
  ⟨l,_,_,_,[],[],rfl,rfl,rfl,tk0,hF,hb,by simp;omega,by simp;omega⟩
 rintro n x4 x8 H2 R hR ⟨lr,vl,vo,vr,op,rs,rfl,rfl,rfl,tk,hf,hb,n1,n2⟩;unfold MP;have al:=BF tk.sl;simp only[Ab4,Ak tk.obj,al,LH,Ag];cases lr with
 | nil=>
  simp only[Ai1,Int.ofNat_zero,Int.cast_ofNat_Int,Aa8];exact out _ _ _ _ _ _ _ tk (by rw[← hf];rfl)
 | cons s lr=>
  simp only[Ae2]at n1 n2 al;have hlt:=tk.lt;obtain⟨p,hp1,hp2⟩:=PL (enc:=Cp) (f:=λt=>S (Ay t)) (λ_=>rfl) tk.sl (k:=0) (x:=s) rfl;obtain⟨vl2,b1,b2,b3,-,-⟩:=EZ (sz:=1) tk.sl (lo:=some (I 1)) (hi:=none) (l:=1) (k:=lr.length+1) (by simp[Bu]) rfl (by omega) (by simp)
  have b2:Aa H2 1 vl2=some (lr.flatMap Cp,lr.length):=by
   rw[b2];have:(s::lr).flatMap Cp=S (Ay s)::lr.flatMap Cp:=rfl;have hfl:=fX lr;rw[this];simp only[Ai8,Am4,Ae3,Nat.add_sub_cancel];rw[Ac5 (by omega)]
  have ovl:=Vs b2
  have e3:AR 1 H2 (.ptr H1.length 1) vl2=some (H2.set H1.length (some (.cells [Ad,vl2,vo,vr]))):=by
   rw[A8 (n:=1) (xs:=[vl2]) (cs:=[Ad,vl,vo,vr]) (AO ovl) tk.obj rfl (by simp)];rfl
  have hp1:Bh 1 vl (I 0)=some p:=hp1;simp only[Ae2,show(0:Int)<((lr.length+1:Nat):Int) by omega,zL,hp1,hp2,b1,e3,AC,Ab];have ne:∀i,i≠H1.length→(H2.set H1.length (some (.cells [Ad,vl2,vo,vr])))[i]?=H2[i]?:=λi hi=>C2 (Af7 hi)
  have tk2:Tk H1.length H1.length vl2 vo vr lr op rs H1 (H2.set H1.length (some (.cells [Ad,vl2,vo,vr]))):=
   ⟨JX hlt,Ac6 _,Ae b2 λi hi=>ne i (by have:=tk.il i (b3 i hi);omega),λi hi=>tk.il i (b3 i hi),Ae tk.so λi hi=>ne i (tk.io i hi).2,tk.oo,tk.io,Ae tk.sr λi hi=>ne i (tk.ir i hi).2,tk.ow,tk.ir,tk.dj,by rw[Ae5];exact tk.g.1,λi hi=>(ne i (by omega)).trans (tk.g.2 i hi)⟩
  generalize (H2.set H1.length (some (.cells [Ad,vl2,vo,vr])))=H3 at*;have eD:(AV.lit (.string ⟨#[45,45]⟩))=S (Ay [45,45]):=rfl;rw[eD,Gp];simp only[zC];unfold Ii at hf
  by_cases cd:s=[45,45]
  ·rw[if_pos cd]at hf
   obtain⟨r,H8,a1,a2,a3,a4,a5,a6⟩:=CL (sz:=1) (bytes:=16) tk2.sr tk2.ow (AI tk2.sl) (by omega);have k8:∀i,i<H3.length→i∉AT vr→H8[i]?=H3[i]?:=a5;have ob8:H8[H1.length]?=some (some (.cells [Ad,vl2,vo,vr])):=(k8 _ tk2.lt λz=>(tk2.ir _ z).2 rfl).trans tk2.obj;have or':=AL a2
   have e4:AR 1 H8 (.ptr H1.length 3) r=some (H8.set H1.length (some (.cells [Ad,vl2,vo,r]))):=by
    rw[A8 (n:=1) (xs:=[r]) (cs:=[Ad,vl2,vo,vr]) (AO or') ob8 rfl (by simp)];rfl
   simp only[cd,zL,Ab4,Nat.reduceAdd,Ak tk2.obj,a1,zT,e4];have ne8:∀i,i≠H1.length→(H8.set H1.length (some (.cells [Ad,vl2,vo,r])))[i]?=H8[i]?:=λi hi=>C2 (Af7 hi)
   have lt2:=tk2.lt
   have rne:∀i∈AT r,H1.length≤i∧i≠H1.length:=λi hi=>by
    rcases a6 i hi with z | z
    ·exact tk2.ir i z
    ·exact⟨by omega,by omega⟩
   refine out _ vl2 vo r lr op (rs++lr) (tk2.move (by rw[Ae5];omega) (λi hi=>?_) (JX (by omega)) ?_ tk2.oo tk2.io ?_ a2 rne ?_) hf.symm
   ·rw[ne8 i (by omega)]
    exact k8 i (by omega) λz=>by have:=(tk2.ir i z).1;omega
   ·exact Ae tk2.so λi hi=>by
     rw[ne8 i (tk2.io i hi).2];exact k8 i (A2 tk2.so i hi) λz=>tk2.dj i hi z
   ·rw[Ag6,Ad0]
    exact Ae a3 λi hi=>ne8 i (rne i hi).2
   ·intro i hi z
    rcases a6 i z with y | y
    ·exact tk2.dj i hi y
    ·have:=A2 tk2.so i hi;omega
  ·rw[if_neg cd]at hf
   obtain⟨r,H4,⟨rfl,q1,q2,q3⟩,hc⟩:=xD tk2 (by omega) (by omega) (s:=s) (hb s (by simp));simp only[cd,zI];refine bC_of hc ?_;cases ho:gU s with
   | none=>
    rw[ho]at hf;simp only at hf;have top':=(q3.2 H.length (by omega)).trans top
    have t1:AR 2 H4 (.ptr H.length 0) (.agg [Ad,Ad])=some (H4.set H.length (some (.cells [Ad,Ad]))):=by
     rw[A8 (n:=2) (xs:=[Ad,Ad]) (cs:=[Ad,Ad]) (by simp[BE,oneA]) top' rfl (by simp)];rfl
    have hl':=q3.1;have t2:(H4.set H.length (some (.cells [Ad,Ad])))[H.length]?=some (some (.cells [Ad,Ad])):=JX (by omega);simp only[An0,Ab5,zH,z0,t1,AC,Ak t2,rd2'];rw[← hf];exact⟨rfl,by rw[Ae5];omega,λi hi=>by rw[C2 (by omega),q3.2 i (by omega),g1.2 i hi]⟩
   | some x=>
    rw[ho]at hf;simp only[Ai7,Ab5,zJ];cases x with
    | none=>
     obtain⟨vr',tk4⟩:=q2 ho;exact hR lr.length _ _ _ (by simp) ⟨lr,vl2,vo,vr',op,rs++[s],rfl,rfl,rfl,tk4,hf,λz hz=>hb z (by simp[hz]),by omega,by simp;omega⟩
    | some kv=>
     obtain⟨vo',tk4⟩:=q1 kv ho;exact hR lr.length _ _ _ (by simp) ⟨lr,vl2,vo',vr,op++[kv],rs,rfl,rfl,rfl,tk4,hf,λz hz=>hb z (by simp[hz]),by simp;omega,by omega⟩)
theorem qW {H:AH}{v:AV}{l:List (Tx×Tx)}{k:Nat}{x:Tx×Tx}(h:Aa H 2 v=some (l.flatMap DK,l.length))(hx:l[k]?=some x):∃p,Bh 2 v (I (k:Int))=some p∧Ar true 2 H p=some (.agg (DK x)):=by
 have hk:=(B8.1 hx).1;obtain⟨p,c,h1,h2,h3,h4⟩:=K8 h (i:=(k:Int)) rfl hk;refine⟨p,h1,?_⟩;rw[RL h2 (by omega) h4,FN (by omega),Ae3,h3,Da fT hx,Ad7 (by simp[DK]),Ac5 (by simp[DK])]
theorem kT:B1 prog 159=true:=by kernel_rfl
theorem iT {ks:List Tx}{v:AV}(hv:SV Cp 1 ks v)(hk:ks.length≤1000000)(x:Tx)(H:AH):BCall prog 160 [v,S (Ay x)] H (B (decide (x∈ks))) H:=by
 obtain⟨r,H',⟨rfl,rfl⟩,hc⟩:=Gk (a0:=v) (a1:=S (Ay x)) (H:=H) (K:=λr H'=>r=B (decide (x∈ks))∧H'=H) (by
  unfold DS
  obtain⟨r,H',⟨⟨i,rfl,hi⟩,rfl⟩,hc⟩:=Hw (a0:=v) (a1:=S (Ay x)) (H:=H) (K:=λr H'=>(∃i:Int,r=I i∧(0≤i↔x∈ks))∧H'=H) (by
   unfold EB;simp only[hv.len,Ab];refine F3 (λn x0 x1 x7 x8 H'=>∃k:Nat,k+n=ks.length∧x0=v∧x1=S (Ay x)∧x7=I ks.length∧x8=I k∧H'=H∧∀m y,m<k→ks[m]?=some y→y≠x) ?_ ks.length ⟨0,by omega,rfl,rfl,rfl,rfl,rfl,by omega⟩;rintro n x0 x1 x7 x8 H' R hR ⟨k,hk2,rfl,rfl,rfl,rfl,rfl,hb⟩;unfold D4;simp only[Aa6];rcases Ac9 k ks.length with h | h
   ·have hx:=Ea h
    generalize ks[k]=y at hx;have q0:∀t,Ar false 1 H' (.ip (Cp y++t))=some (S (Ay y)):=λ_=>rfl
    simp only[show(k:Int)<(ks.length:Int) by omega,zL,hv.idx UH hx rfl,q0,zC,Gp]
    by_cases c:x=y
    ·simp only[c,zL]
     refine⟨⟨k,by trivial,?_⟩,by trivial⟩;rw[← c]at hx⊢;exact⟨λ_=>Ac7 hx,λ_=>by omega⟩
    ·simp only[c,zI,Ax (a:=(k:Int)) (b:=1) (by omega) (by omega),Ab]
     refine hR (n - 1) _ _ _ _ _ (by omega) ⟨k+1,by omega,rfl,rfl,rfl,by simp,rfl,?_⟩;intro m z hm hz
     by_cases c2:m=k
     ·rw[c2,hx]at hz;injection hz with hz;rw[← hz];exact λe=>c e.symm
     ·exact hb m z (by omega) hz
   ·simp only[show ¬(k:Int)<(ks.length:Int) by omega,zI]
    refine⟨⟨-1,by trivial,λh=>by omega,λhm=>?_⟩,by trivial⟩;obtain⟨m,hm⟩:=Ae0.1 hm
    have:=(B8.1 hm).1
    exact absurd rfl (hb m x (by omega) hm))
  refine bC_of hc ?_;simp only[I9,Ab];exact⟨by simp only[hi],by trivial⟩)
 exact hc
theorem nR {ks:List Tx}{v:AV}(hv:SV Cp 1 ks v)(hk:ks.length≤1000000){ko:Nat}{H:AH}(hko:H[ko]?=some (some (.cells [v])))(kv:Tx×Tx):∃r H',(r=B (decide (kv.1∉ks))∧Grew H H')∧BCall prog 159 [.agg (DK kv),.ptr ko 0] H r H':=VT (by
 unfold Uu;have e1:A9 H (.agg (DK kv))=some (.ptr H.length 0,H++[some (.cells (DK kv))]):=by simp[DK]
 have g:=Grew.app H [some (AObj.cells (DK kv))];have i0:(DK kv)[0]?=some (S (Ay kv.1)):=rfl;simp only[e1,A0,Ak (g.cells hko),Ah,Ab0,Ab,Al,Ak C6,i0];refine bC_of (iT hv hk kv.1 _) ?_;simp only[Bo,Ab];refine⟨?_,g⟩
 by_cases c:kv.1∈ks<;>simp[c])
theorem rH {op:List (Tx×Tx)}{vo v:AV}{ks:List Tx}{H:AH}(hs:Aa H 2 vo=some (op.flatMap DK,op.length))(hl:op.length≤1000000)(hv:SV Cp 1 ks v)(hk:ks.length≤1000000):
  ∃r H',(r=B (decide (∀kv∈op,kv.1∈ks))∧Grew H H')∧BCall prog 84 [vo,v] H r H':=Yy (by
 unfold Yx;have ov:=SV.oneA hv;have e1:A9 H v=some (.ptr H.length 0,H++[some (.cells [v])]):=by simp[A9,AO ov]
 have g:=Grew.app H [some (AObj.cells [v])];have hko:=C6 (H:=H) (x:=AObj.cells [v]);have hs1:=g.slice hs;simp only[e1,A0];have l1:(H++[some (AObj.cells [v])]).length=H.length+1:=by simp
 generalize (H++[some (AObj.cells [v])])=H1 at*
 have key:∃r H',(r=B (decide (¬∀kv∈op,kv.1∈ks))∧Grew H1 H')∧BCall prog 158 [vo,.fn (.func 159) [] [.ptr H.length 0]] H1 r H':=ED (by
  unfold CP
  obtain⟨r,H',⟨⟨i,rfl,hi⟩,g2⟩,hc⟩:=Fm (a0:=vo) (a1:=.fn (.func 159) [] [.ptr H.length 0]) (H:=H1) (K:=λr H'=>(∃i:Int,r=I i∧(0≤i↔¬∀kv∈op,kv.1∈ks))∧Grew H1 H') (by
   unfold Dp;simp only[BF hs1,Ab];refine Ey (λn x0 x1 x7 x8 H'=>∃k:Nat,k+n=op.length∧x0=vo∧x1=.fn (.func 159) [] [.ptr H.length 0]∧x7=I op.length∧x8=I k∧Grew H1 H'∧∀m y,m<k→op[m]?=some y→y.1∈ks) ?_ op.length ⟨0,by omega,rfl,rfl,rfl,rfl,Grew.refl _,by omega⟩;rintro n x0 x1 x7 x8 H' R hR ⟨k,hk2,rfl,rfl,rfl,rfl,g2,hb⟩;unfold CA;simp only[Aa6];rcases Ac9 k op.length with h | h
   ·have hx:=Ea h
    generalize op[k]=y at hx;obtain⟨p,p1,p2⟩:=qW (g2.slice hs1) hx;simp only[show(k:Int)<(op.length:Int) by omega,zL,p1,p2,Ab,cJ,kT,Ac0,zR];obtain⟨r,H3,⟨rfl,g3⟩,hc⟩:=nR hv hk (g2.cells hko) y;refine bC_of hc ?_
    by_cases c:y.1∈ks
    ·simp only[c,Aa9,zI,Ax (a:=(k:Int)) (b:=1) (by omega) (by omega)]
     refine hR (n - 1) _ _ _ _ _ (by omega) ⟨k+1,by omega,rfl,rfl,rfl,by simp,g2.trans g3,?_⟩;intro m z hm hz
     by_cases c2:m=k
     ·rw[c2,hx]at hz;injection hz with hz;rw[← hz];exact c
     ·exact hb m z (by omega) hz
    ·simp only[c,not_false_eq_true,zL,Ag]
     exact⟨⟨k,by trivial,λ_ hm=>c (hm y (Ac7 hx)),λ_=>by omega⟩,g2.trans g3⟩
   ·simp only[show ¬(k:Int)<(op.length:Int) by omega,zI]
    refine⟨⟨-1,by trivial,λh=>by omega,λhm=>absurd (λkv hkv=>?_) hm⟩,g2⟩;obtain⟨m,hm⟩:=Ae0.1 hkv
    have:=(B8.1 hm).1
    exact hb m kv (by omega) hm)
  refine bC_of hc ?_;simp only[I9,Ab];exact⟨by simp only[hi],g2⟩)
 obtain⟨r,H',⟨rfl,g2⟩,hc⟩:=key;refine bC_of hc ?_;simp only[Bo,Ab];refine⟨?_,g.trans g2⟩
 by_cases c:∀kv∈op,kv.1∈ks<;>simp[c])
def xM:Tx:=[115,112,97,114,115,101]
def IZ:Tx:=[97,117,116,111]
def JF:Tx:=[97,108,119,97,121,115]
def PJ:Tx:=[110,101,118,101,114]
def RF (w:Tx):Prop:=w=IZ∨w=JF∨w=PJ
instance (w:Tx):Decidable (RF w):=by unfold RF;infer_instance
def T7:List (Tx×Tx)→Tx→Option Tx
 | [],w=>some w
 | kv::l,_=>if RF kv.2 then T7 l kv.2 else none
def XL (op:List (Tx×Tx)):List Tx→Option (Tx×Tx×Tx)
 | [a,b]=>if a=b then none else if ∀kv∈op,kv.1∈[xM]then(T7 op IZ).map λw=>(a,b,w)else none
 | _=>none
def Js (l:List Tx):Option (Tx×Tx×Tx):=match Sn l with
 | none=>none
 | some (op,rs)=>XL op rs
theorem PA:∀{l:List Tx} {o:List (Tx×Tx)} {r:List Tx} {q:List (Tx×Tx)×List Tx},Ii l o r=some q→q.1.length≤o.length+l.length
 | [],o,r,q,h=>by
  unfold Ii at h;injection h with h;subst h;simp
 | s::l,o,r,q,h=>by
  unfold Ii at h;split at h
  ·injection h with h
   subst h;simp only;omega
  ·split at h
   ·cases h
   ·have:=PA h
    simp only[Ac1]at this⊢;omega
   ·have:=PA h
    simp only[Ae2]at this⊢;omega
def ZI (P:Option (Tx×Tx×Tx))(r:AV):Prop:=match P with
 | none=>r=.tup [S (Ay []),S (Ay []),S (Ay []),B false]
 | some (a,b,w)=>r=.tup [S (Ay a),S (Ay b),S (Ay w),B true]
theorem pK {l:List Tx}{v:AV}{H:AH}(hv:Aa H 1 v=some (l.flatMap Cp,l.length))(hb:∀s∈l,s.length≤1000000)(hl:l.length≤1000000):
  ∃r H',(ZI (Js l) r∧Grew H H')∧BCall prog 38 [v] H r H':=YJ (by
 unfold YI;obtain⟨r,H1,⟨hr,g1⟩,hc⟩:=nO hv hb (by omega);refine bC_of hc ?_;unfold Js;have e1:A9 H1 (.agg [Ad,Ad])=some (.ptr H1.length 0,H1++[some (.cells [Ad,Ad])]):=rfl;have rd2':∀a b:AV,Am true 2 [a,b] 0=some (.agg [a,b]):=λ_ _=>rfl
 cases hF:Sn l with
 | none=>
  rw[hF]at hr;have hr:r=.tup [.agg [Ad,Ad],B false]:=hr;subst hr
  have t1:AR 2 (H1++[some (AObj.cells [Ad,Ad])]) (.ptr H1.length 0) (.agg [Ad,Ad])=some (H1++[some (AObj.cells [Ad,Ad])]):=by
   rw[A8 (n:=2) (xs:=[Ad,Ad]) (cs:=[Ad,Ad]) (by simp[BE,oneA]) C6 rfl (by simp)];simp[AN]
  simp only[zU,Ab5,e1,zT,t1,zH,zW,show((true==false)=false)from rfl,Cq,KZ,if_true];exact⟨rfl,g1.trans (Grew.app _ _)⟩
 | some q=>
  obtain⟨op,rs⟩:=q;rw[hF]at hr;obtain⟨vo,vr,rfl,so,sr,ooA,owA⟩:=hr
  have lop:op.length≤1000000:=by
   unfold Sn at hF;split at hF
   ·cases hF
   ·have:=PA hF
    simp only[Ai1]at this;omega
  have t1:AR 2 (H1++[some (AObj.cells [Ad,Ad])]) (.ptr H1.length 0) (.agg [vo,vr])=some (H1++[some (AObj.cells [vo,vr])]):=by
   rw[A8 (n:=2) (xs:=[vo,vr]) (cs:=[Ad,Ad]) (by simp[ooA,owA]) C6 rfl (by simp)];simp[AN]
  have g2:=Grew.app H1 [some (AObj.cells [vo,vr])];have so:=g2.slice so;have sr:=g2.slice sr;have ob:=C6 (H:=H1) (x:=AObj.cells [vo,vr]);have g12:=g1.trans g2;simp only[zU,Ab,e1,zT,t1,Bo,Al5,AK,yZ];generalize (H1++[some (AObj.cells [vo,vr])])=H2 at*;have alr:=BF sr;have bad:∀H3,Grew H2 H3→(ZI none (.tup [(.lit (.string ⟨#[]⟩)),(.lit (.string ⟨#[]⟩)),(.lit (.string ⟨#[]⟩)),(B false)]))∧Grew H H3:=λH3 g=>⟨rfl,g12.trans g⟩
  simp only[zQ,Ak ob,alr,CD,zW,An]
  by_cases c2:rs.length=2
  rotate_left
  ·have:XL op rs=none:=by
    match rs,c2 with
    | [],_=>rfl
    | [_],_=>rfl
    | [_,_],h=>exact absurd rfl h
    | _::_::_::_,_=>rfl
   simp only[show((rs.length:Int)≠2) by omega,zA,zE,show((true==false)=false)from rfl,Cq,KZ,zW,zC,Ao,this];exact bad _ (Grew.refl _)
  obtain⟨a,b,rfl⟩:∃a b,rs=[a,b]:=by
   match rs,c2 with
   | [a,b],_=>exact⟨a,b,rfl⟩
  obtain⟨pa,pa1,pa2⟩:=PL (enc:=Cp) (f:=λt=>S (Ay t)) (λ_=>rfl) sr (k:=0) (x:=a) rfl;obtain⟨pb,pb1,pb2⟩:=PL (enc:=Cp) (f:=λt=>S (Ay t)) (λ_=>rfl) sr (k:=1) (x:=b) rfl;have pa1:Bh 1 vr (I 0)=some pa:=pa1;have pb1:Bh 1 vr (I 1)=some pb:=pb1;simp only[zB,show((((0:Nat)+1+1:Nat):Int)≠2)=False by simp,Dg,yZ,zQ,Ak ob,pa1,pa2,pb1,pb2,Gp,zW,An];unfold XL
  by_cases cab:a=b
  ·simp only[cab,zE,show((true==false)=false)from rfl,Cq,KZ,zW,zC,Ao]
   exact bad _ (Grew.refl _)
  have eK:T8 1 1 (Bg [(.lit (.string ⟨#[]⟩))] 1) [(0,1,(.lit (.string ⟨#[115,112,97,114,115,101]⟩)))]=some (.imm [S (Ay xM)] 1 1):=rfl;have hK:SV Cp 1 [xM] (.imm [S (Ay xM)] 1 1):=SV.imm UH (λx _=>rfl);simp only[cab,Dg,yZ,Ak ob,Ah,zG,Al,Ah6,Ab,AK,eK,Od,if_false];obtain⟨r,H3,⟨rfl,g3⟩,hc⟩:=rH so lop hK (by simp);refine bC_of hc ?_
  by_cases call:∀kv∈op,kv.1∈[xM]
  rotate_left
  ·simp only[call,Dg,Ab5,zH,Aw,An]
   exact bad _ g3
  have ob3:=g3.cells ob;have so3:=g3.slice so;simp only[decide_eq_true call,if_pos call,Ab5,zJ,Aw,An,Ak ob3,Ah,CN,BF so3];refine Sf (λn x4 x6 x41 x42 x43 H'=>∃(k:Nat) (w:Tx),k+n=op.length∧x4=S (Ay w)∧x6=.ptr H1.length 0∧vo=x41∧x42=I op.length∧x43=I k∧Grew H2 H'∧T7 (op.drop k) w=T7 op IZ) ?_ op.length ⟨0,IZ,by omega,rfl,rfl,rfl,rfl,rfl,g3,by simp⟩;rintro n x4 x6 x41 x42 x43 H4 R hR ⟨k,w,hk,rfl,rfl,rfl,rfl,rfl,g4,hw⟩;unfold OX;simp only[Aa6];rcases Ac9 k op.length with hlt | hge
  ·have hx:=Ea hlt
   generalize op[k]=y at hx;obtain⟨p,p1,p2⟩:=qW (g4.slice so) hx;have e5:A9 H4 (.agg [(.lit (.string ⟨#[]⟩)),(.lit (.string ⟨#[]⟩))])=some (.ptr H4.length 0,H4++[some (.cells [S (Ay []),S (Ay [])])]):=rfl
   have t5:AR 2 (H4++[some (AObj.cells [S (Ay []),S (Ay [])])]) (.ptr H4.length 0) (.agg (DK y))=some (H4++[some (.cells (DK y))]):=by
    rw[A8 (n:=2) (xs:=DK y) (cs:=[S (Ay []),S (Ay [])]) (by simp[DK,BE,oneA]) C6 rfl (by simp)];simp[AN,DK]
   have i1:(DK y)[1]?=some (S (Ay y.2)):=rfl;have g5:=Grew.app H4 [some (AObj.cells (DK y))];have hd:op.drop k=y::op.drop (k+1):=Dt hx;rw[hd,show T7 (y::op.drop (k+1)) w=if RF y.2 then T7 (op.drop (k+1)) y.2 else none from rfl]at hw;have q1:(AV.lit (.string ⟨#[97,117,116,111]⟩))=S (Ay IZ):=rfl;have q2:(AV.lit (.string ⟨#[97,108,119,97,121,115]⟩))=S (Ay JF):=rfl;have q3:(AV.lit (.string ⟨#[110,101,118,101,114]⟩))=S (Ay PJ):=rfl
   have fin:∀(t:Bool),t=decide (¬RF y.2)→bB (B t) λt20=>bI t20 ((ZI ((T7 op IZ).map λw=>(a,b,w)) (.tup [(.lit (.string ⟨#[]⟩)),(.lit (.string ⟨#[]⟩)),(.lit (.string ⟨#[]⟩)),(B false)]))∧Grew H (H4++[some (AObj.cells (DK y))])) (bO (Aq .add (I (k:Int)) (I 1)) λv21=>R [S (Ay y.2),.ptr H1.length 0,vo,I op.length,v21] (H4++[some (AObj.cells (DK y))])):=by
    rintro t rfl
    by_cases cw:RF y.2
    ·rw[if_pos cw]at hw
     simp only[cw,Aa9,zI,Ax (a:=(k:Int)) (b:=1) (by omega) (by omega)];exact hR (n - 1) _ _ _ _ _ _ (by omega) ⟨k+1,y.2,by omega,rfl,rfl,rfl,rfl,by simp,g4.trans g5,hw⟩
    ·rw[if_neg cw]at hw
     simp only[cw,not_false_eq_true,zL,Ag];rw[← hw];exact bad _ (g4.trans g5)
   simp only[show(k:Int)<(op.length:Int) by omega,zL,p1,p2,zM,e5,zT,t5,Ak C6,i1,q1,q2,q3,PX,AK]
   by_cases w1:y.2=IZ
   ·simp only[w1,yY,Dg,show((false==true)=false)from rfl,Cq,Ab,zW,An]
    have:=fin false (by simp[RF,w1])
    rw[w1]at this;exact this
   ·simp only[w1,zA,zE,yZ,Ab,PX,zW]
    by_cases w2:y.2=JF
    ·simp only[w2,not_true_eq_false,Dg,show((false==true)=false)from rfl,Cq,Ab,zW,An]
     have:=fin false (by simp[RF,w2])
     rw[w2]at this;exact this
    ·simp only[w2,zA,zE,yZ,Ab,PX,zW]
     exact fin (decide (¬y.2=PJ)) (by simp[RF,w1,w2])
  ·have ek:op.drop k=[]:=Ad9 hge
   rw[ek,show T7 [] w=some w from rfl]at hw;have ob4:=g4.cells ob;obtain⟨pa,pa1,pa2⟩:=PL (enc:=Cp) (f:=λt=>S (Ay t)) (λ_=>rfl) (g4.slice sr) (k:=0) (x:=a) rfl;obtain⟨pb,pb1,pb2⟩:=PL (enc:=Cp) (f:=λt=>S (Ay t)) (λ_=>rfl) (g4.slice sr) (k:=1) (x:=b) rfl;have pa1:Bh 1 vr (I 0)=some pa:=pa1;have pb1:Bh 1 vr (I 1)=some pb:=pb1;simp only[show ¬(k:Int)<(op.length:Int) by omega,zI,zQ,Ak ob4,pa1,pa2,pb1,pb2];rw[← hw];exact⟨rfl,g12.trans g4⟩)
structure Bes (o:Nat)(cs:List AV)(os:Nat)(p:AV)(H:AH):Prop where
 at':H[o]?=some (some (.cells cs))
 ne:o≠os
 np:o∉AT p
theorem Bes.step {o:Nat}{cs:List AV}{os:Nat}{p p':AV}{H H':AH}(h:Bes o cs os p H)(f:StF os p p' H H'):Bes o cs os p' H':=by
 have hl:=(B8.1 h.at').1;exact⟨(f.same o hl h.ne h.np).trans h.at',h.ne,λz=>(f.ids o z).elim h.np (λz=>by omega)⟩
theorem Bes.grew {o:Nat}{cs:List AV}{os:Nat}{p:AV}{H H':AH}(h:Bes o cs os p H)(g:Grew H H'):Bes o cs os p H':=⟨g.cells h.at',h.ne,h.np⟩
theorem Bes.new {s:StS}{os:Nat}{p:AV}{H:AH}(h:StAt s os p H)(cs:List AV):Bes H.length cs os p (H++[some (.cells cs)]):=
 ⟨C6,by have:=h.os_lt;omega,λz=>by have:=h.p_lt _ z;omega⟩
theorem YD {N:Nat}{s:StS}{os:Nat}{p:AV}{H:AH}(h:StAt s os p H)(hw:SW N s)(hN:N≤900000){ino:Int}(h0:(AB s ino).2=0):
  ∃r H',((∃R,r=.agg [I (AB s ino).1.1,R]∧SV As 9 (AB s ino).1.2 R)∧Grew H H')∧BCall prog 85 [.ptr os 0,I ino] H r H':=VV (by
 unfold U7;have e1:A9 H (.agg [(I 0),Ad])=some (.ptr H.length 0,H++[some (.cells [I 0,Ad])]):=rfl;have g1:=Grew.app H [some (AObj.cells [I 0,Ad])];have top:=C6 (H:=H) (x:=AObj.cells [I 0,Ad]);have l1:(H++[some (AObj.cells [I 0,Ad])]).length=H.length+1:=by simp
 simp only[e1,A0];generalize (H++[some (AObj.cells [I 0,Ad])])=H1 at*;obtain⟨Rn,hRn,r,H2,⟨rfl,g2⟩,hc⟩:=Uj (h.grew g1) hw hN;refine bC_of hc ?_;obtain⟨a,b,dv,rfl,ha,hb,hdv⟩:=hRn;have ob:=SV.oneA hb;have e2:Yv false 1 1 (.agg [a,b])=some b:=rfl;simp only[e2,Ab,hb.len];have top2:=g2.cells top;have lt2:=g2.1
 have hdl:dv.length≤1000000:=by
  have:=hw.now.1.len2
  rw[← hdv,Af2]at this;omega
 obtain⟨d,hd,hdi,hdc,-⟩:=MX hw h0
 have uniq:∀x∈dv,x.nd.ino=ino→(AB s ino).1=(x.nd.size,x.nd.l):=λx hx hi=>by
  have h1:x.nd∈s.now.2:=by rw[← hdv];exact Ag1 hx
  have e1:=(X7 hw.now.1 h1).1;have e2:=(X7 hw.now.1 hd).1;rw[hi]at e1;rw[hdi,e1]at e2;rw[hdc,e2]
 refine P3 (λn x1 x4 x9 x10 x11 H'=>∃k:Nat,k+n=dv.length∧x1=I ino∧x4=.ptr H.length 0∧b=x9∧x10=I dv.length∧x11=I k∧Grew H2 H'∧∀m y,m<k→dv[m]?=some y→y.nd.ino≠ino) ?_ dv.length ⟨0,by omega,rfl,rfl,rfl,rfl,rfl,Grew.refl _,by omega⟩;rintro n x1 x4 x9 x10 x11 H3 R hR ⟨k,hk,rfl,rfl,rfl,rfl,rfl,g3,hno⟩;unfold Mi;simp only[Aa6];rcases Ac9 k dv.length with hlt | hge
 ·have hx:=Ea hlt
  generalize dv[k]=x at hx;have q0:∀t,Ar true 3 H3 (.ip (BS x++t))=some (.agg (BS x)):=λ_=>rfl
  have oR:=SV.oneA x.h;have e3:A9 H3 (.agg [(I 0),(I 0),Ad])=some (.ptr H3.length 0,H3++[some (.cells [I 0,I 0,Ad])]):=rfl
  have e4:AR 3 (H3++[some (AObj.cells [I 0,I 0,Ad])]) (.ptr H3.length 0) (.agg (BS x))=some (H3++[some (.cells (BS x))]):=by
   rw[A8 (n:=3) (xs:=BS x) (cs:=[I 0,I 0,Ad]) (by simp[BS,oR]) C6 rfl (by simp)];simp[AN,BS]
  have g4:=Grew.app H3 [some (AObj.cells (BS x))];have i0:(BS x)[0]?=some (I x.nd.ino):=rfl;have i12:Am true 2 (BS x) 1=some (.agg [I x.nd.size,x.R]):=rfl;have top4:=g4.cells (g3.cells top2);have lt3:=g3.1;simp only[show(k:Int)<(dv.length:Int) by omega,zL,hb.idx Dw hx rfl,zM,q0,e3,zT,e4,Ak C6,i0,i12,Cn,Ag]
  by_cases c:x.nd.ino=ino
  ·have e5:AR 2 (H3++[some (AObj.cells (BS x))]) (.ptr H.length 0) (.agg [I x.nd.size,x.R])=some ((H3++[some (AObj.cells (BS x))]).set H.length (some (.cells [I x.nd.size,x.R]))):=by
    rw[A8 (n:=2) (xs:=[I x.nd.size,x.R]) (cs:=[I 0,Ad]) (by simp[oR]) top4 rfl (by simp)];rfl
   have hlen:H.length<(H3++[some (AObj.cells (BS x))]).length:=by simp;omega
   have t5:((H3++[some (AObj.cells (BS x))]).set H.length (some (.cells [I x.nd.size,x.R])))[H.length]?=some (some (.cells [I x.nd.size,x.R])):=JX hlen;simp only[c,zL,e5,AC,Ak t5,show ∀a b:AV,Am true 2 [a,b] 0=some (.agg [a,b])from λ_ _=>rfl,Ab];rw[uniq x (Ac7 hx) c];refine⟨⟨x.R,rfl,x.h⟩,by rw[Ae5];simp;omega,λi hi=>?_⟩;rw[C2 (by omega),g4.2 i (by omega),g3.2 i (by omega),g2.2 i (by omega),g1.2 i hi]
  ·simp only[c,zI,Ax (a:=(k:Int)) (b:=1) (by omega) (by omega),Ab]
   refine hR (n - 1) _ _ _ _ _ _ (by omega) ⟨k+1,by omega,rfl,rfl,rfl,rfl,by simp,g3.trans g4,?_⟩;intro m z hm hz
   by_cases c2:m=k
   ·rw[c2,hx]at hz;injection hz with hz;rw[← hz];exact c
   ·exact hno m z (by omega) hz
 ·exfalso
  rw[← hdv]at hd;obtain⟨x,hx,rfl⟩:=Af4.1 hd;obtain⟨m,hm⟩:=Ae0.1 hx
  have:=(B8.1 hm).1
  exact hno m x (by omega) hm hdi)
theorem Wa (l:List Ext)(k:Nat):(l.flatMap As).drop (k*9)=(l.drop k).flatMap As:=by
 rcases Ac9 k l.length with h | h
 ·have hx:=Ea h
  rw[Da Az hx,Dt hx,Ae9]
 ·rw[Ad9 h,Ad9 (by rw[JW Az];exact Ad3 _ h)];rfl
theorem Wb (l:List Ext)(k:Nat)(h:k≤l.length):(l.flatMap As).take (k*9)=(l.take k).flatMap As:=by
 have e:l.flatMap As=(l.take k).flatMap As++(l.drop k).flatMap As:=by rw[← Ag6,Ag0]
 have hl:((l.take k).flatMap As).length=k*9:=by rw[JW Az,Ac4];congr 1;omega
 rw[e,← hl,List.take_left'];rfl
theorem SV.cutX {l:List Ext}{v:AV}(hv:SV As 9 l v){a k:Nat}{lo hi:Option AV}(e1:Bu lo 0=some a)(e2:Bu hi l.length=some k)(h1:a≤k)(h2:k≤l.length):∃r,AW 9 v lo hi none=some r∧SV As 9 ((l.drop a).take (k - a)) r:=by
 have key:∀H:AH,∃r,AW 9 v lo hi none=some r∧Aa H 9 r=some (((l.drop a).take (k - a)).flatMap As,((l.drop a).take (k - a)).length)∧(noIds v=true→noIds r=true):=by
  intro H;obtain⟨r,s1,s2,-,-,s5⟩:=EZ (hv.2 H) (lo:=lo) (hi:=hi) (l:=a) (k:=k) e1 e2 h1 h2;refine⟨r,s1,?_,s5⟩;have hl:((l.drop a).take (k - a)).length=k - a:=by rw[Ac4,Ad1];omega
  rw[s2,hl,Wa,Wb _ _ (by rw[Ad1];omega)]
 obtain⟨r,s1,s2,s5⟩:=key [];refine⟨r,s1,s5 hv.1,λH=>?_⟩;obtain⟨r2,t1,t2,-⟩:=key H;rw[s1]at t1;injection t1 with t1;rw[t1];exact t2
def BD (size:Int):List Ext→List Ext
 | []=>[]
 | x::l=>if x.no*8<size then x::BD size l else []
theorem U0 {size:Int}:∀{l:List Ext} {k:Nat} {x:Ext},(∀m y,m<k→l[m]?=some y→y.no*8<size)→l[k]?=some x→¬x.no*8<size→BD size l=l.take k
 | [],k,x,_,h,_=>by simp at h
 | y::l,0,x,_,h,hx=>by
  injection h with h;subst h;unfold BD;rw[if_neg hx];rfl
 | y::l,k+1,x,h1,h,hx=>by
  unfold BD;rw[if_pos (h1 0 y (by omega) rfl),U0 (λm z hm hz=>h1 (m+1) z (by omega) hz) (show l[k]?=some x from h) hx];rfl
theorem Wy {size:Int}:∀{l:List Ext},(∀y∈l,y.no*8<size)→BD size l=l
 | [],_=>rfl
 | y::l,h=>by
  unfold BD;rw[if_pos (h y (by simp)),Wy λz hz=>h z (by simp[hz])]
theorem IM (size:Int):∀(l:List Ext),(BD size l).length≤l.length
 | []=>Ac6 _
 | y::l=>by
  unfold BD
  split
  ·have:=IM size l
   simp only[Ae2];omega
  ·simp
theorem Xt {size:Int}{l:List Ext}{v:AV}(hv:SV As 9 l v)(hl:l.length≤1000000)(hn:∀x∈l,0≤x.no∧x.no<137438953472)(H:AH):
  ∃r H',(SV As 9 (BD size l) r∧Grew H H')∧BCall prog 86 [.agg [I size,v]] H r H':=YF (by
 unfold YE;have ov:=SV.oneA hv;have e1:A9 H (.agg [I size,v])=some (.ptr H.length 0,H++[some (.cells [I size,v])]):=by simp[ov]
 have g1:=Grew.app H [some (AObj.cells [I size,v])];have top:=C6 (H:=H) (x:=AObj.cells [I size,v]);simp only[e1,A0,zQ,Ak top,hv.len];generalize (H++[some (AObj.cells [I size,v])])=H1 at*;refine Sc (λn x1 x6 x7 x8 H'=>∃k:Nat,k+n=l.length∧x1=.ptr H.length 0∧v=x6∧x7=I l.length∧x8=I k∧Grew H1 H'∧∀m y,m<k→l[m]?=some y→y.no*8<size) ?_ l.length ⟨0,by omega,rfl,rfl,rfl,rfl,Grew.refl _,by omega⟩;rintro n x1 x6 x7 x8 H3 R hR ⟨k,hk,rfl,rfl,rfl,rfl,g3,hno⟩;unfold OS;have top3:=g3.cells top;simp only[Aa6];rcases Ac9 k l.length with hlt | hge
 ·have hx:=Ea hlt
  generalize l[k]=x at hx;have hxn:=hn x (Ac7 hx)
  have q0:∀t,Ar true 9 H3 (.ip (As x++t))=some (.agg (As x)):=λt=>by
   show Am true 9 (As x++t) 0=_
   rw[FN (by rw[Ad0,Az];omega),Ae3,Ad7 (by rw[Az];omega),Ac5 (by rw[Az];omega)]
  have e3:A9 H3 (.agg [(I 0),u0Z,u0Z,u0Z,u0Z,u0Z,u0Z,u0Z,u0Z])=some (.ptr H3.length 0,H3++[some (.cells [I 0,u0Z,u0Z,u0Z,u0Z,u0Z,u0Z,u0Z,u0Z])]):=rfl
  have e4:AR 9 (H3++[some (AObj.cells [I 0,u0Z,u0Z,u0Z,u0Z,u0Z,u0Z,u0Z,u0Z])]) (.ptr H3.length 0) (.agg (As x))=some (H3++[some (.cells (As x))]):=by
   rw[A8 (n:=9) (xs:=As x) (cs:=[I 0,u0Z,u0Z,u0Z,u0Z,u0Z,u0Z,u0Z,u0Z]) (by simp) C6 (Az x) (by simp)];rw[DV _ _ _ (by simp[Az]),Aj7,Ai2,Ad9 (by simp[Az]),Af5];simp
  have g4:=Grew.app H3 [some (AObj.cells (As x))];have i0:(As x)[0]?=some (I x.no):=rfl;simp only[show(k:Int)<(l.length:Int) by omega,zL,hv.idx Az hx rfl,zQ,q0,e3,zT,e4,Ak C6,Ak (g4.cells top3),i0,Ek (a:=x.no) (b:=8) (by omega) (by omega),I9,Ag]
  by_cases c:x.no*8<size
  ·simp only[show ¬size≤x.no*8 by omega,zI,Ax (a:=(k:Int)) (b:=1) (by omega) (by omega),Ab]
   refine hR (n - 1) _ _ _ _ _ (by omega) ⟨k+1,by omega,rfl,rfl,rfl,by simp,g3.trans g4,?_⟩;intro m z hm hz
   by_cases c2:m=k
   ·rw[c2,hx]at hz;injection hz with hz;rw[← hz];exact c
   ·exact hno m z (by omega) hz
  ·obtain⟨w,s1,s2⟩:=hv.cutX (lo:=none) (hi:=some (I (k:Int))) (a:=0) (k:=k) rfl (by simp[Bu]) (by omega) (by omega)
   rw[Ae3,Nat.sub_zero]at s2;simp only[show size≤x.no*8 by omega,zL,s1,Ab];rw[U0 hno hx c];exact⟨s2,g1.trans (g3.trans g4)⟩
 ·have:BD size l=l:=Wy λy hy=>by
   obtain⟨m,hm⟩:=Ae0.1 hy
   have:=(B8.1 hm).1
   exact hno m y (by omega) hm
  simp only[show ¬(k:Int)<(l.length:Int) by omega,zI,zQ,Ak top3];rw[this];exact⟨hv,g1.trans g3⟩)
end
end Go.Proofs.YtbppnhenlboefaaGreat.Av
section
set_option maxHeartbeats 1000000
namespace Go.Proofs.YtbppnhenlboefaaGreat.Av
open Go Go.RowKit Go.Proofs.Tryz
def J6 (b:List UInt8):Prop:=∀c∈b,c=0
instance (b:List UInt8):Decidable (J6 b):=by unfold J6;infer_instance
theorem rG {b:List UInt8}{v:AV}{H:AH}(hv:Aa H 1 v=some (AF b,b.length))(hl:b.length≤1000000):
  ∃i:Int,(i<b.length↔¬J6 b)∧BCall prog 199 [v] H (I i) H:=by
 obtain⟨r,H',⟨⟨i,rfl,hi⟩,rfl⟩,hc⟩:=XR (a0:=v) (H:=H) (K:=λr H'=>(∃i:Int,r=I i∧(i<b.length↔¬J6 b))∧H'=H) (by
  unfold WV;refine Rq (λn x0 x3 H'=>∃k:Nat,k+n=b.length∧x0=v∧x3=I k∧H'=H∧∀m y,m<k→b[m]?=some y→y=0) ?_ b.length ⟨0,by omega,rfl,rfl,rfl,by omega⟩;rintro n x0 x3 H' R hR ⟨k,hk,rfl,rfl,rfl,hb⟩;unfold NI;simp only[BF hv,Ab,Bi,AK];rcases Ac9 k b.length with h | h
  ·have hx:=Ea h
   generalize b[k]=y at hx;have hv':Aa H' 1 x0=some (b.flatMap J9,b.length):=by rw[IN];exact hv
   obtain⟨p,p1,p2⟩:=PL (enc:=J9) (f:=fun t:UInt8=>.lit (.int .u8 t.toNat)) (λ_=>rfl) hv' hx;simp only[show(k:Int)<(b.length:Int) by omega,zE,yZ,zC,p1,p2,Cn,Aw]
   by_cases c:y=0
   ·have c':((y.toNat:Int)=0):=by rw[c];rfl
    simp only[c',zL,Ax (a:=(k:Int)) (b:=1) (by omega) (by omega),Ab];refine hR (n - 1) _ _ _ (by omega) ⟨k+1,by omega,rfl,by simp,rfl,?_⟩;intro m z hm hz
    by_cases c2:m=k
    ·rw[c2,hx]at hz;injection hz with hz;rw[← hz];exact c
    ·exact hb m z (by omega) hz
   ·have c':¬((y.toNat:Int)=0):=λe=>c (UInt8.toNat_inj.1 (by rw[show(0:UInt8).toNat=0 from rfl];omega))
    simp only[c',zI];exact⟨⟨k,by trivial,λ_ hz=>c (hz y (Ac7 hx)),λ_=>by omega⟩,by trivial⟩
  ·simp only[show ¬(k:Int)<(b.length:Int) by omega,zI,show((false==true)=false)from rfl,Cq,zC,zW,An]
   refine⟨⟨k,by trivial,λh=>by omega,λhm=>absurd (λc hc=>?_) hm⟩,by trivial⟩;obtain⟨m,hm⟩:=Ae0.1 hc
   have:=(B8.1 hm).1
   exact hb m c (by omega) hm)
 exact⟨i,hi,hc⟩
theorem rL {b:List UInt8}{v w:AV}{H:AH}(hw:Aa H 1 w=some ([v],1))(hv:Aa H 1 v=some (AF b,b.length))(hl:b.length≤1000000):BCall prog 162 [w] H (B (decide (J6 b))) H:=by
 obtain⟨r,H',⟨rfl,rfl⟩,hc⟩:=XS (a0:=w) (H:=H) (K:=λr H'=>r=B (decide (J6 b))∧H'=H) (by
  unfold WW;simp only[BF hw,Ab];refine Ru (λn x5 x6 x7 H'=>x5=w∧x6=I 1∧H'=H∧((n=1∧x7=I 0)∨(n=0∧x7=I 1∧J6 b))) ?_ 1 ⟨rfl,rfl,rfl,.inl ⟨rfl,rfl⟩⟩;rintro n x5 x6 x7 H' R hR ⟨rfl,rfl,rfl,⟨rfl,rfl⟩ | ⟨rfl,rfl,hz⟩⟩
  ·unfold Ju
   obtain⟨p,c,h1,h2,h3,h4⟩:=K8 hw (i:=0) (k:=0) rfl (by omega)
   have p2:Ar false 1 H' p=some v:=by
    rw[RL h2 (by omega) h4,Ah]
    have:=congrArg (λl=>l[0]?) h3
    simpa[Ad2]using this
   have h1:Bh 1 x5 (I 0)=some p:=h1;obtain⟨i,hi,hc⟩:=rG hv hl;simp only[Aa6,show decide ((0:Int)<1)=true from rfl,Ao,h1,p2];refine bC_of hc ?_;simp only[BF hv,Aa6]
   by_cases c:J6 b
   ·simp only[show ¬i<(b.length:Int)from λh=>hi.1 h c,zI,show Aq .add (I 0) (I 1)=some (I 1)from rfl,Ab]
    exact hR 0 _ _ _ _ (by omega) ⟨rfl,rfl,rfl,.inr ⟨rfl,rfl,c⟩⟩
   ·simp only[hi.2 c,zL,c,Dg]
    exact⟨by trivial,by trivial⟩
  ·unfold Ju
   simp only[Aa6,Aa8,hz,CM];exact⟨by trivial,by trivial⟩)
 exact hc
def ZG (to size:Int)(s:StS)(no:Int)(b:List UInt8):Int×StS:=
 ((BT s to (no*8) (b.take (min 8 (size - no*8)).toNat)).1.2,(BT s to (no*8) (b.take (min 8 (size - no*8)).toNat)).2)
theorem Xc {N:Nat}{s:StS}(h:SW N s)(to size no:Int){b:List UInt8}(hb:b.length=8):SW (N+72) (ZG to size s no b).2:=by
 unfold ZG
 have:=RG h to (no*8) (b.take (min 8 (size - no*8)).toNat)
 refine this.mono ?_;rw[Ac4];omega
theorem W2 {N:Nat}{s:StS}{os co:Nat}{p v vl:AV}{fr to size no:Int}{b:List UInt8}{H:AH}(h:StAt s os p H)(hw:SW N s)(cb:Bes co [.ptr os 0,I fr,I to,I size,vl] os p H)(hN:N+72<900000)
  (hv:Aa H 1 v=some (AF b,8)) (hb:b.length=8) (hi:∀j∈AT v,j≠os∧j∉AT p) (h0:0≤no) (h1:no*8<size) (h2:size≤1099511627776):
  ∃r H',(r=I (ZG to size s no b).1∧∃p',StAt (ZG to size s no b).2 os p' H'∧StF os p p' H H')∧BCall prog 161 [.ptr co 0,I no,v] H r H':=P5 (by
 unfold Mk;have e1:amm XA [(I 8),I (size - no*8)]=some (I (min 8 (size - no*8))):=by rw[Qd,kX,Int.min_comm]
 obtain⟨m,hm⟩:∃m:Nat,min 8 (size - no*8)=m:=⟨(min 8 (size - no*8)).toNat,by omega⟩;obtain⟨w,s1,s2,s3,-,-⟩:=EZ hv (lo:=none) (hi:=some (I (m:Int))) (l:=0) (k:=m) rfl (by simp[Bu]) (by omega) (by omega);have hl:(b.take m).length=m:=by rw[Ac4];omega
 have s2:Aa H 1 w=some (AF (b.take m),(b.take m).length):=by
  rw[s2,hl];simp only[An8,Ab2,Ai8,KM]
 obtain⟨r,H1,⟨rfl,p',h',f'⟩,hc⟩:=Xg h hw to (no*8) (b:=b.take m) (by omega) s2 (λj hj=>hi j (s3 j hj));simp only[Ab4,Nat.reduceAdd,Ak cb.at',Ek (a:=no) (b:=8) (by omega) (by omega),BP (a:=size) (b:=no*8) (by omega) (by omega),e1,hm,s1];refine bC_of hc ?_;simp only[zU,Ab];unfold ZG;rw[hm,Ak8];exact⟨by trivial,p',h',f'⟩)
theorem oI (H:AH)(x:Ext):A9 H (.agg [(I 0),u0Z,u0Z,u0Z,u0Z,u0Z,u0Z,u0Z,u0Z])=some (.ptr H.length 0,H++[some (.cells [I 0,u0Z,u0Z,u0Z,u0Z,u0Z,u0Z,u0Z,u0Z])])∧
  AR 9 (H++[some (AObj.cells [I 0,u0Z,u0Z,u0Z,u0Z,u0Z,u0Z,u0Z,u0Z])]) (.ptr H.length 0) (.agg (As x))=some (H++[some (.cells (As x))]):=by
 refine⟨rfl,?_⟩;rw[A8 (n:=9) (xs:=As x) (cs:=[I 0,u0Z,u0Z,u0Z,u0Z,u0Z,u0Z,u0Z,u0Z]) (by simp) C6 (Az x) (by simp)];rw[DV _ _ _ (by simp[Az]),Aj7,Ai2,Ad9 (by simp[Az]),Af5];simp
theorem rdE (H:AH)(x:Ext)(t:List AV):Ar true 9 H (.ip (As x++t))=some (.agg (As x)):=by
 show Am true 9 (As x++t) 0=_
 rw[FN (by rw[Ad0,Az];omega),Ae3,Ad7 (by rw[Az];omega),Ac5 (by rw[Az];omega)]
theorem jT {H:AH}{o:Nat}{x:Ext}(h:H[o]?=some (some (.cells (As x)))):LO 8 1 H (.ptr o 1) none none=some (.sl o 1 8 1 (.ex 8))∧Aa H 1 (.sl o 1 8 1 (.ex 8))=some (AF x.b,8):=by
 constructor
 ·simp[LO,Bu,h,Az]
 ·rw[AA h (by rw[Az];omega)]
  have:((As x).drop 1).take (8*1)=AF x.b:=by
   show(AF x.b).take 8=AF x.b
   rw[Ac5 (by rw[B9,x.hb];omega)]
  rw[this]
def Ik (to size:Int):List Ext→StS→Int×StS
 | [],s=>(0,s)
 | x::l,s=>if J6 x.b then Ik to size l s else if(ZG to size s x.no x.b).1≠0 then ZG to size s x.no x.b else Ik to size l (ZG to size s x.no x.b).2
theorem oW {N:Nat}{s:StS}{os co:Nat}{p vl:AV}{fr to size:Int}{l:List Ext}{H:AH}(h:StAt s os p H)(hw:SW N s)(cb:Bes co [.ptr os 0,I fr,I to,I size,vl] os p H)(hv:SV As 9 l vl)(hl:l.length≤1000000)(hn:∀x∈l,0≤x.no∧x.no<137438953472)(h2:size≤1099511627776)
  (hN:N+72*(BD size l).length<900000):∃r H',(r=I (Ik to size (BD size l) s).1∧∃p',StAt (Ik to size (BD size l) s).2 os p' H'∧StF os p p' H H')∧BCall prog 90 [.ptr co 0] H r H':=P4 (by
 unfold Mj;have i3:Am true 2 [(AV.ptr os 0),I fr,I to,I size,vl] 3=some (.agg [I size,vl]):=rfl;simp only[Au,zK,Ak cb.at',i3];obtain⟨w,H1,⟨hw1,g1⟩,hc⟩:=Xt (size:=size) hv hl hn H;refine bC_of hc ?_
 have bl:∀x∈BD size l,0≤x.no∧x.no*8<size:=by
  clear hN hv hw1 hc hl
  induction l with
  | nil=>intro x hx;simp[BD]at hx
  | cons y l ih=>
   intro x hx;unfold BD at hx;split at hx
   ·rename_i hy
    rcases Ad8.1 hx with rfl | hx
    ·exact⟨(hn x (by simp)).1,hy⟩
    ·exact ih (λz hz=>hn z (by simp[hz])) x hx
   ·simp at hx
 have hbl:=IM size l;generalize BD size l=L at*;simp only[hw1.len,Ab];generalize hRES:Ik to size L s=RES;refine KI (λn x0 x10 x11 x12 H'=>∃(k:Nat) (s':StS) (p':AV),k+n=L.length∧x0=.ptr co 0∧w=x10∧x11=I L.length∧x12=I k∧StAt s' os p' H'∧StF os p p' H H'∧SW (N+72*k) s'∧Bes co [.ptr os 0,I fr,I to,I size,vl] os p' H'∧Ik to size (L.drop k) s'=RES) ?_ L.length
  ⟨0,s,p,by omega,rfl,rfl,rfl,rfl,h.grew g1,(StF.refl os p H).grew g1,hw,cb.grew g1,by simpa using hRES⟩
 rintro n x0 x10 x11 x12 H3 R hR ⟨k,s',p',hk,rfl,rfl,rfl,rfl,h3,f3,w3,cb3,hres⟩;unfold HJ;simp only[Aa6];rcases Ac9 k L.length with hlt | hge
 ·have hx:=Ea hlt
  generalize L[k]=x at hx;obtain⟨b1,b2⟩:=bl x (Ac7 hx);obtain⟨n1,n2⟩:=oI H3 x;have g4:=Grew.app H3 [some (AObj.cells (As x))];have bx:=Bes.new h3 (As x);rw[Dt hx]at hres;unfold Ik at hres;have l4:(H3++[some (AObj.cells (As x))]).length=H3.length+1:=by simp
  have h4:=h3.grew g4;have cb4:=cb3.grew g4;simp only[show(k:Int)<(L.length:Int) by omega,zL,hw1.idx Az hx rfl,zK,rdE,n1,zT,n2];generalize (H3++[some (AObj.cells (As x))])=H4 at*;generalize H3.length=xo at*;obtain⟨s1,s2⟩:=jT bx.at';have e5:Cv H4 1 1 (Bg [Ad] 1) [(0,1,.sl xo 1 8 1 (.ex 8))]=some (.sl H4.length 0 1 1 (.ex 1),H4++[some (.cells [.sl xo 1 8 1 (.ex 8)])]):=rfl;have g5:=Grew.app H4 [some (AObj.cells [AV.sl xo 1 8 1 (.ex 8)])]
  have z1:Aa (H4++[some (AObj.cells [AV.sl xo 1 8 1 (.ex 8)])]) 1 (.sl H4.length 0 1 1 (.ex 1))=some ([AV.sl xo 1 8 1 (.ex 8)],1):=by
   rw[AA C6 (by simp)];rfl
  have z2:=g5.slice s2;simp only[s1,Ab,e5,A0];refine bC_of (rL z1 (b:=x.b) (by rw[x.hb];exact z2) (by rw[x.hb];omega)) ?_;have h5:=h4.grew g5;have cb5:=cb4.grew g5;have bx5:=bx.grew g5;have f5:=(f3.grew g4).grew g5;have q1:Aq .add (I (k:Int)) (I 1)=some (I ((k+1:Nat):Int)):=by rw[Ax (by omega) (by omega)];congr 3
  simp only[Ag]
  by_cases c:J6 x.b
  ·rw[if_pos c]at hres
   simp only[c,zL];rw[GP];unfold EK;simp only[q1,Ab];exact hR (n - 1) _ _ _ _ _ (by omega) ⟨k+1,s',p',by omega,rfl,rfl,rfl,rfl,h5,f5,w3.mono (by omega),cb5,hres⟩
  ·rw[if_neg c]at hres
   obtain⟨s3,s4⟩:=jT bx5.at';have i0:(As x)[0]?=some (I x.no):=rfl;simp only[c,zI,Ak bx5.at',Ah,i0,Ab,s3]
   obtain⟨r,H6,⟨rfl,p6,h6,f6⟩,hc⟩:=W2 (no:=x.no) h5 w3 cb5 (by omega) s4 x.hb (by
    intro j hj;simp only[AT,Ah0]at hj;subst hj;exact⟨bx5.ne,bx5.np⟩) b1 b2 h2
   refine bC_of hc ?_;simp only[CD,zC]
   by_cases c2:(ZG to size s' x.no x.b).1=0
   ·rw[if_neg (λz=>z c2)]at hres
    simp only[c2,yY,zI];rw[GP];unfold EK;simp only[q1,Ab];exact hR (n - 1) _ _ _ _ _ (by omega) ⟨k+1,_,p6,by omega,rfl,rfl,rfl,rfl,h6,f5.trans f6,(Xc w3 to size x.no x.hb).mono (by omega),cb5.step f6,hres⟩
   ·rw[if_pos c2]at hres
    simp only[c2,zA,zL];rw[← hres];exact⟨by trivial,p6,h6,f5.trans f6⟩
 ·have ek:L.drop k=[]:=Ad9 hge
  rw[ek]at hres;simp only[show ¬(k:Int)<(L.length:Int) by omega,zI];rw[← hres];exact⟨by trivial,p',h3,f3⟩)
end Go.Proofs.YtbppnhenlboefaaGreat.Av
end
section
set_option maxHeartbeats 1000000
namespace Go.Proofs.YtbppnhenlboefaaGreat.Av
open Go Go.RowKit Go.Proofs.Tryz
def z8:List UInt8:=[0,0,0,0,0,0,0,0]
def Ix (no:Int):List Ext→List UInt8×List Ext
 | []=>(z8,[])
 | x::l=>if x.no=no then(x.b,l)else(z8,x::l)
def TC (to size:Int):Nat→Int→List Ext→StS→Int×StS
 | 0,_,_,s=>(0,s)
 | n+1,no,l,s=>if(ZG to size s no (Ix no l).1).1≠0 then ZG to size s no (Ix no l).1 else TC to size n (no+1) (Ix no l).2 (ZG to size s no (Ix no l).1).2
def EJ (size:Int):Int:=(size+7)/8
theorem Oq (no:Int)(l:List Ext):(Ix no l).1.length=8:=by
 unfold Ix
 split
 ·rfl
 ·split
  ·rename_i x l h;exact x.hb
  ·rfl
theorem cQ {size:Int}(h0:0≤size)(h2:size≤1099511627776):BPure prog 87 [I size] (I (EJ size)):=BPure.flat λH=>YH (by
 unfold YG;simp only[Ax (a:=size) (b:=8) (by omega) (by omega),BP (a:=size+8) (b:=1) (by omega) (by omega),LI (a:=size+8 - 1) (b:=8) (by omega) (by omega) (by omega),Ab];unfold EJ;exact⟨by rw[show size+8 - 1=size+7 by omega],by trivial⟩)
theorem yX (H:AH)(x:Ext)(t:List AV):Ar true 8 H (.ip ((As x++t).drop 1))=some (.agg (AF x.b)):=by
 show Am true 8 (AF x.b++t) 0=_
 have hl:(AF x.b).length=8:=by rw[B9,x.hb]
 rw[FN (by rw[Ad0,hl];omega),Ae3,Ad7 (by omega),Ac5 (by omega)]
theorem tN {H:AH}{o:Nat}{b:List UInt8}(hb:b.length=8)(h:H[o]?=some (some (.cells (AF b)))):LO 8 1 H (.ptr o 0) none none=some (.sl o 0 8 1 (.ex 8))∧Aa H 1 (.sl o 0 8 1 (.ex 8))=some (AF b,8):=by
 have hl:(AF b).length=8:=by rw[B9,hb]
 constructor
 ·simp[LO,Bu,h,hl]
 ·rw[AA h (by omega),Ae3,Ac5 (by omega)]
theorem vG {N:Nat}{s:StS}{os co:Nat}{p vl:AV}{fr to size:Int}{l:List Ext}{H:AH}(h:StAt s os p H)(hw:SW N s)(cb:Bes co [.ptr os 0,I fr,I to,I size,vl] os p H)(hv:SV As 9 l vl)(hl:l.length≤1000000)(hn:∀x∈l,0≤x.no∧x.no<137438953472)(h0:0≤size)(h2:size≤32768)
  (hN:N+72*(EJ size).toNat<900000):∃r H',(r=I (TC to size (EJ size).toNat 0 (BD size l) s).1∧∃p',StAt (TC to size (EJ size).toNat 0 (BD size l) s).2 os p' H'∧StF os p p' H H')∧BCall prog 89 [.ptr co 0] H r H':=Sd (by
 unfold OV;have i3:Am true 2 [(AV.ptr os 0),I fr,I to,I size,vl] 3=some (.agg [I size,vl]):=rfl;simp only[Au,zK,Ak cb.at',i3];obtain⟨w,H1,⟨hw1,g1⟩,hc⟩:=Xt (size:=size) hv hl hn H;refine bC_of hc ?_;have hbl:=IM size l;generalize BD size l=L at*;have cb1:=cb.grew g1;simp only[Ab4,Nat.reduceAdd,Ak cb1.at'];refine A1 (cQ h0 (by omega)) ?_
 have hcnt:EJ size=((EJ size).toNat:Int)∧∀k:Nat,k<(EJ size).toNat→(k:Int)*8<size:=by
  unfold EJ;exact⟨by omega,λk hk=>by omega⟩
 obtain⟨hc1,hc2⟩:=hcnt;have hc3:(EJ size).toNat≤4096:=by unfold EJ;omega
 rw[hc1];simp only[Ak8]at hN⊢;generalize (EJ size).toNat=C at*;generalize hRES:TC to size C 0 L s=RES;refine M8 (λn x0 x3 x17 x18 H'=>∃(k:Nat) (s':StS) (p':AV) (l':List Ext),k+n=C∧x0=.ptr co 0∧SV As 9 l' x3∧l'.length≤1000000∧x17=I C∧x18=I k∧StAt s' os p' H'∧StF os p p' H H'∧SW (N+72*k) s'∧Bes co [.ptr os 0,I fr,I to,I size,vl] os p' H'∧TC to size n k l' s'=RES) ?_ C
  ⟨0,s,p,L,by omega,rfl,hw1,by omega,rfl,rfl,h.grew g1,(StF.refl os p H).grew g1,hw,cb1,hRES⟩
 rintro n x0 x3 x17 x18 H3 R hR ⟨k,s',p',l',hk,rfl,hv',hl',rfl,rfl,h3,f3,w3,cb3,hres⟩;unfold Jb;simp only[Aa6];rcases Ac9 k C with hlt | hge
 ·obtain⟨m,rfl⟩:∃m,n=m+1:=⟨n - 1,by omega⟩
  unfold TC at hres;have e1:A9 H3 (.agg [u0Z,u0Z,u0Z,u0Z,u0Z,u0Z,u0Z,u0Z])=some (.ptr H3.length 0,H3++[some (.cells (AF z8))]):=rfl;have q1:Aq .add (I (k:Int)) (I 1)=some (I ((k+1:Nat):Int)):=by rw[Ax (by omega) (by omega)];congr 3
  -- what is done with the bytes
  have go:∀(b:List UInt8) (l2:List Ext) (x3':AV),b=(Ix k l').1→l2=(Ix k l').2→SV As 9 l2 x3'→l2.length≤1000000→E7 R (.ptr co 0) x3' (I (k:Int)) (.ptr H3.length 0) (I (C:Int)) (I (k:Int)) (H3++[some (.cells (AF b))]) (λr H'=>r=I RES.1∧∃p',StAt RES.2 os p' H'∧StF os p p' H H'):=by
   intro b l2 x3' hb hl2 hv2 hlen2;have hb8:b.length=8:=by rw[hb];exact Oq _ _
   rw[← hb,← hl2]at hres;have g4:=Grew.app H3 [some (AObj.cells (AF b))];have bx:=Bes.new h3 (AF b);obtain⟨s1,s2⟩:=tN hb8 bx.at';rw[MZ];unfold Ip;simp only[s1,Ab]
   obtain⟨r,H6,⟨rfl,p6,h6,f6⟩,hc⟩:=W2 (no:=(k:Int)) (h3.grew g4) w3 (cb3.grew g4) (by omega) s2 hb8 (by
    intro j hj;simp only[AT,Ah0]at hj;subst hj;exact⟨bx.ne,bx.np⟩) (by omega) (hc2 k hlt) (by omega)
   refine bC_of hc ?_;rw[Na];unfold Iq;simp only[CD,Ab];rw[Nb];unfold Ir;simp only[Ag]
   by_cases c2:(ZG to size s' k b).1=0
   ·rw[if_neg (λz=>z c2)]at hres
    simp only[c2,yY,zI];rw[O1];unfold Ja;simp only[q1,Ab];exact hR m _ _ _ _ _ (by omega) ⟨k+1,_,p6,l2,by omega,rfl,hv2,hlen2,rfl,rfl,h6,(f3.grew g4).trans f6,(Xc w3 to size k hb8).mono (by omega),(cb3.grew g4).step f6,hres⟩
   ·rw[if_pos c2]at hres
    simp only[c2,zA,zL];rw[← hres];exact⟨by trivial,p6,h6,(f3.grew g4).trans f6⟩
  simp only[show(k:Int)<(C:Int) by omega,zL,e1,A0,hv'.len,Ab,LH,AK];cases l' with
  | nil=>
   simp only[Ai1,Int.ofNat_zero,Int.cast_ofNat_Int,Aa8,show((false==true)=false)from rfl,Cq,zC,zW,An];exact go z8 [] x3 rfl rfl hv' (by simp)
  | cons x l'=>
   have ix:=hv'.idx (i:=0) Az (k:=0) (x:=x) rfl rfl;have i0:∀t,Ar false 1 (H3++[some (.cells (AF z8))]) (.ip (As x++t))=some (I x.no):=λ_=>rfl
   have sh0:∀t,Ac 0 (.ip (As x++t))=some (.ip (As x++t)):=λ_=>rfl
   have sh1:∀t,Ac 1 (.ip (As x++t))=some (.ip ((As x++t).drop 1)):=λ_=>rfl
   simp only[Ae2,show(0:Int)<((l'.length+1:Nat):Int) by omega,zE,yZ,zC,ix,sh0,i0,Cn,Aw];simp only[Ae2]at hl'
   by_cases c:x.no=(k:Int)
   ·obtain⟨w2,t1,t2⟩:=hv'.cutX (lo:=some (I 1)) (hi:=none) (a:=1) (k:=l'.length+1) (by simp[Bu]) rfl (by omega) (by simp)
    have t2:SV As 9 l' w2:=by
     rw[Am4,Ae3,Nat.add_sub_cancel,Aj0]at t2;exact t2
    have e4:AR 8 (H3++[some (AObj.cells (AF z8))]) (.ptr H3.length 0) (.agg (AF x.b))=some (H3++[some (.cells (AF x.b))]):=by
     have hl8:(AF x.b).length=8:=by rw[B9,x.hb]
     rw[A8 (n:=8) (xs:=AF x.b) (cs:=AF z8) (by simp[YN]) C6 hl8 (by simp[B9,z8])];rw[DV _ _ _ (by simp[B9,z8,x.hb]),Aj7,Ai2,Ad9 (by simp[B9,z8,x.hb]),Af5];simp
    simp only[c,zL,sh1,yX,Ab,t1,e4,AC,true_and];have pk:Ix (k:Int) (x::l')=(x.b,l'):=if_pos c;exact go x.b l' w2 (by rw[pk]) (by rw[pk]) t2 (by omega)
   ·simp only[c,zI]
    have pk:Ix (k:Int) (x::l')=(z8,x::l'):=if_neg c;exact go z8 (x::l') x3 (by rw[pk]) (by rw[pk]) hv' (by simp;omega)
 ·have en:n=0:=by omega
  subst en;unfold TC at hres;simp only[show ¬(k:Int)<(C:Int) by omega,zI];rw[← hres];exact⟨by trivial,p',h3,f3⟩)
end Go.Proofs.YtbppnhenlboefaaGreat.Av
end
section
set_option maxHeartbeats 1000000
namespace Go.Proofs.YtbppnhenlboefaaGreat.Av
open Go Go.RowKit Go.Proofs.Tryz
def Cd (s:StS)(nm:List UInt8):Int×Int×StS:=
 if(AX s nm true).1.2≠0 then((AX s nm true).1.2,0,(AX s nm true).2)else((D9 (AX s nm true).2 (AX s nm true).1.1 0).1,(AX s nm true).1.1,(D9 (AX s nm true).2 (AX s nm true).1.1 0).2)
theorem W1 {N:Nat}{s:StS}(h:SW N s)(nm:List UInt8):SW (N+2) (Cd s nm).2.2:=by
 have w1:=Om h nm true;unfold Cd
 split
 ·exact w1.mono (by omega)
 ·exact LC w1 _ _
theorem kD {N:Nat}{s:StS}{os co:Nat}{p0 p vl:AV}{fr to size:Int}{H0 H:AH}{nm:List UInt8}(h:StAt s os p H)(hw:SW N s)(hN:N+2<900000)(hnm:nm.length≤9223372036854775807)(f0:StF os p0 p H0 H)(hco:H0.length≤co)(cb:Bes co [.ptr os 0,I fr,I to,I size,vl] os p H)(ovl:oneA vl=true):
  ∃r H',(r=I (Cd s nm).1∧∃p',StAt (Cd s nm).2.2 os p' H'∧StF os p0 p' H0 H'∧((Cd s nm).1=0→Bes co [.ptr os 0,I fr,I (Cd s nm).2.1,I size,vl] os p' H'))∧BCall prog 88 [.ptr co 0,S (Ay nm)] H r H':=Qw (by
 unfold Nc;simp only[Ab4,Ak cb.at'];obtain⟨r,H1,⟨rfl,p1,h1,f1⟩,hc⟩:=Uk h hw (by omega) hnm true;have w1:=Om hw nm true;refine bC_of hc ?_;unfold Cd;have cb1:=cb.step f1;generalize AX s nm true=O at*;simp only[zU,zC,CD]
 by_cases c1:O.1.2=0
 rotate_left
 ·simp only[c1,zA,zE,Ao]
  exact⟨by trivial,p1,h1,f0.trans f1,λz=>z.elim⟩
 have hlt:=(B8.1 cb1.at').1
 have e2:AR 1 H1 (.ptr co 2) (I O.1.1)=some (H1.set co (some (.cells [.ptr os 0,I fr,I O.1.1,I size,vl]))):=by
  rw[A8 (n:=1) (xs:=[I O.1.1]) (cs:=[.ptr os 0,I fr,I to,I size,vl]) rfl cb1.at' rfl (by simp)];rfl
 have ne2:∀i,i≠co→(H1.set co (some (.cells [.ptr os 0,I fr,I O.1.1,I size,vl])))[i]?=H1[i]?:=λi hi=>C2 (Af7 hi)
 have h2:StAt O.2 os p1 (H1.set co (some (.cells [.ptr os 0,I fr,I O.1.1,I size,vl]))):=by
  obtain⟨a,b,c,d,pv,q⟩:=h1;exact⟨a,b,c,d,pv,(ne2 os (Af7 cb1.ne)).trans q.obj,q.now,q.kept,q.pm,Ae q.ps λi hi=>ne2 i (λe=>cb1.np (e▸hi)),q.po,q.pi,q.pc⟩
 have cb2:Bes co [.ptr os 0,I fr,I O.1.1,I size,vl] os p1 (H1.set co (some (.cells [.ptr os 0,I fr,I O.1.1,I size,vl]))):=⟨JX hlt,cb1.ne,cb1.np⟩
 have f2:StF os p0 p1 H0 (H1.set co (some (.cells [.ptr os 0,I fr,I O.1.1,I size,vl]))):=by
  have f:=f0.trans f1;exact⟨by rw[Ae5];exact f.len,λj a b c=>by rw[ne2 j (by omega)];exact f.same j a b c,f.ids⟩
 simp only[c1,zO,zI,Au,zM,e2,AC,Ak cb2.at',CN];obtain⟨r,H3,⟨rfl,p3,h3,f3⟩,hc⟩:=PU h2 w1 (by omega) O.1.1 0;refine bC_of hc ?_;exact⟨by trivial,p3,h3,f2.trans f3,λ_=>cb2.step f3⟩)
def EM (way:Tx)(c:Gn):Prop:=way=JF∨(way=IZ∧((BD c.1 c.2).length:Int)<EJ c.1)
instance (way:Tx) (c:Gn):Decidable (EM way c):=by unfold EM;infer_instance
def MY (hl:Bool)(to:Int)(c:Gn)(s:StS):Int×StS:=
 if hl=true then Ik to c.1 (BD c.1 c.2) s else TC to c.1 (EJ c.1).toNat 0 (BD c.1 c.2) s
def M3 (hl:Bool)(s:StS)(nm:Tx)(c:Gn):Int×StS:=
 if hl=false∧32768<c.1 then(4,s)
 else if(Cd s nm).1≠0 then((Cd s nm).1,(Cd s nm).2.2)
 else if(MY hl (Cd s nm).2.1 c (Cd s nm).2.2).1≠0 then MY hl (Cd s nm).2.1 c (Cd s nm).2.2
 else D9 (MY hl (Cd s nm).2.1 c (Cd s nm).2.2).2 (Cd s nm).2.1 c.1
def Ih (s:StS)(fr:Int)(nm way:Tx):Int×StS:=
 if(AB s fr).2≠0 then((AB s fr).2,s)else M3 (decide (EM way (AB s fr).1)) s nm (AB s fr).1
theorem QD {to size:Int}:∀{l:List Ext} {N:Nat} {s:StS},SW N s→SW (N+72*l.length) (Ik to size l s).2
 | [],N,s,h=>h
 | x::l,N,s,h=>by
  unfold Ik;simp only[Ae2]
  split
  ·exact(QD (l:=l) h).mono (by omega)
  ·split
   ·exact(Xc h to size x.no x.hb).mono (by omega)
   ·exact(QD (l:=l) (Xc h to size x.no x.hb)).mono (by omega)
theorem ZO {to size:Int}:∀{n:Nat} {no:Int} {l:List Ext} {N:Nat} {s:StS},SW N s→SW (N+72*n) (TC to size n no l s).2
 | 0,no,l,N,s,h=>h
 | n+1,no,l,N,s,h=>by
  unfold TC
  split
  ·exact(Xc h to size no (Oq no l)).mono (by omega)
  ·exact(ZO (n:=n) (Xc h to size no (Oq no l))).mono (by omega)
theorem fY:B1 prog 90=true:=by kernel_rfl
theorem oU:B1 prog 89=true:=by kernel_rfl
def dW (a0 a1 v59:AV)(H40:AH)(K:AV→AH→Prop):Prop:=
 bO (EX .not v59) λv60=>bG v60 true λw61=>gO w61 (some a0) λv62=>bG v60 true λw63=>gO w63 (Af v62) λv64=>bG v60 true λw65=>gO w65 (Ac 3 v64) λv66=>bG v60 true λw67=>gO w67 (Ac 0 v66) λv68=>bG v60 true λw69=>gO w69 (Ar false 1 H40 v68) λv70=>bG v60 true λw71=>gO w71 (Aq .gtr v70 (I 32768)) λv72=>
  bO (A7 v60 v72 (B false)) λv73=>bB v73 λt74=>bI t74 (K (I 4) H40)
   (bC (BCall prog 88 [a0,a1] H40) λv75 H76=>bO (Aq .neq v75 (I 0)) λv77=>bB v77 λt78=>bI t78 (K v75 H76)
    (bB v59 λt79=>bI t79 (Dv a0 (.fn (.func 90) [a0] []) H76 K) (Dv a0 (.fn (.func 89) [a0] []) H76 K)))
theorem SC {N Bd:Nat}{s:StS}{os co:Nat}{p0 p R:AV}{fr to:Int}{c:Gn}{H0 H:AH}{nm:Tx}(hl:Bool)(h:StAt s os p H)(hw:SW N s)(hB:c.2.length≤Bd)(hB2:4096≤Bd)(hN:N+10+72*Bd<900000)(hnm:nm.length≤9223372036854775807)(f0:StF os p0 p H0 H)(hco:H0.length≤co)(cb:Bes co [.ptr os 0,I fr,I to,I c.1,R] os p H)(hR:SV As 9 c.2 R)(hm:Ck c.1 c.2):
  dW (.ptr co 0) (S (Ay nm)) (B hl) H λr H'=>r=I (M3 hl s nm c).1∧∃p',StAt (M3 hl s nm c).2 os p' H'∧StF os p0 p' H0 H':=by
 obtain⟨m1,m2,m3,m4,-⟩:=FI.1 hm;have hn:∀x∈c.2,0≤x.no∧x.no<137438953472:=λx hx=>m4 x.no ⟨x,hx,rfl⟩
 have oR:=SV.oneA hR;have hbl:=IM c.1 c.2;generalize hRES:M3 hl s nm c=RES;unfold M3 at hRES;unfold dW;obtain⟨r,H1,⟨rfl,p1,h1,f1,cb1⟩,hc⟩:=kD (nm:=nm) h hw (by omega) hnm f0 hco cb oR;have w1:=W1 hw nm;generalize Cd s nm=O at*
 -- the copy's last step
 have fin:∀(W:Int×StS) (M:Nat) (p6:AV) (H6:AH),StAt W.2 os p6 H6→StF os p0 p6 H0 H6→Bes co [.ptr os 0,I fr,I O.2.1,I c.1,R] os p6 H6→SW M W.2→M<900000→(if W.1≠0 then W else D9 W.2 O.2.1 c.1)=RES→
   Gu (.ptr co 0) (I W.1) H6 (λr H'=>r=I RES.1∧∃p',StAt RES.2 os p' H'∧StF os p0 p' H0 H'):=by
  intro W M p6 H6 h6 f6 cb6 w6 hM hres;rw[Ng];unfold It;simp only[CD,Ab];rw[Nh];unfold Iu;simp only[Ag]
  by_cases c2:W.1=0
  ·rw[if_neg (λz=>z c2)]at hres
   simp only[c2,yY,zI];rw[Nf];unfold Is;simp only[Ab4,Nat.reduceAdd,Ak cb6.at'];obtain⟨r,H7,⟨rfl,p7,h7,f7⟩,hc⟩:=PU h6 w6 (by omega) O.2.1 c.1;refine bC_of hc ?_;rw[← hres];exact⟨by trivial,p7,h7,f6.trans f7⟩
  ·rw[if_pos c2]at hres
   simp only[c2,zA,zL];rw[← hres];exact⟨by trivial,p6,h6,f6⟩
 cases hl with
 | true=>
  rw[if_neg (by simp)]at hRES;simp only[Ab5,zJ,zW,show((false==true)=false)from rfl,Cq,An];refine bC_of hc ?_;simp only[CD,zC]
  by_cases c1:O.1=0
  ·rw[if_neg (λz=>z c1)]at hRES
   simp only[c1,yY,zI,Ao];rw[HK];unfold Fk;obtain⟨r,H2,⟨rfl,p2,h2,f2⟩,hc⟩:=oW h1 w1 (cb1 c1) hR (by omega) hn (by omega) (by omega);simp only[cJ,fY,Ac0,Af5,zR];refine bC_of hc ?_;have hw2:=QD (to:=O.2.1) (size:=c.1) (l:=BD c.1 c.2) w1;unfold MY at hRES;simp only[if_true]at hRES;exact fin _ _ p2 H2 h2 (f1.trans f2) ((cb1 c1).step f2) hw2 (by omega) hRES
  ·rw[if_pos c1]at hRES
   simp only[c1,zA,zL];rw[← hRES];exact⟨by trivial,p1,h1,f1⟩
 | false=>
  simp only[Bo,Ab8,Ab4,zW,yZ,Ak cb.at',LH,Ag,Aj]
  by_cases cg:32768<c.1
  ·rw[if_pos ⟨rfl,cg⟩]at hRES
   simp only[cg,zL];rw[← hRES];exact⟨by trivial,p,h,f0⟩
  rw[if_neg (λz=>cg z.2)]at hRES;simp only[cg,zI];refine bC_of hc ?_;simp only[CD,zC]
  by_cases c1:O.1=0
  ·rw[if_neg (λz=>z c1)]at hRES
   simp only[c1,yY,zI];rw[HK];unfold Fk;have hcn:(EJ c.1).toNat≤4096:=by unfold EJ;omega
   obtain⟨r,H2,⟨rfl,p2,h2,f2⟩,hc⟩:=vG h1 w1 (cb1 c1) hR (by omega) hn m1 (by omega) (by omega);simp only[cJ,oU,Ac0,Af5,zR];refine bC_of hc ?_;have hw2:=ZO (to:=O.2.1) (size:=c.1) (n:=(EJ c.1).toNat) (no:=0) (l:=BD c.1 c.2) w1;unfold MY at hRES;simp only[An]at hRES;exact fin _ _ p2 H2 h2 (f1.trans f2) ((cb1 c1).step f2) hw2 (by omega) hRES
  ·rw[if_pos c1]at hRES
   simp only[c1,zA,zL];rw[← hRES];exact⟨by trivial,p1,h1,f1⟩
theorem oN {N Bd:Nat}{s:StS}{os co:Nat}{p0 p vl:AV}{fr to size:Int}{H0 H:AH}{nm way:Tx}(h:StAt s os p H)(hw:SW N s)(hB:(AB s fr).1.2.length≤Bd)(hB2:4096≤Bd)(hN:N+10+72*Bd<900000)(hnm:nm.length≤9223372036854775807)(f0:StF os p0 p H0 H)(hco:H0.length≤co)(cb:Bes co [.ptr os 0,I fr,I to,I size,vl] os p H):
  ∃r H',(r=I (Ih s fr nm way).1∧∃p',StAt (Ih s fr nm way).2 os p' H'∧StF os p0 p' H0 H')∧BCall prog 39 [.ptr co 0,S (Ay nm),S (Ay way)] H r H':=Se (by
 unfold OW;simp only[Ab4,Ak cb.at'];obtain⟨r,H1,⟨rfl,g1⟩,hc⟩:=rI h hw (by omega) fr;refine bC_of hc ?_;unfold Ih;simp only[zU,zC,CD]
 by_cases c0:(AB s fr).2=0
 rotate_left
 ·simp only[c0,zA,zE,Ao]
  exact⟨by trivial,p,h.grew g1,f0.grew g1⟩
 have h1:=h.grew g1;have cb1:=cb.grew g1;simp only[c0,zO,zI,Ab4,Ak cb1.at'];obtain⟨r,H2,⟨⟨R,rfl,hR⟩,g2⟩,hc⟩:=YD h1 hw (by omega) c0;refine bC_of hc ?_
 have hmay:Ck (AB s fr).1.1 (AB s fr).1.2:=by
  obtain⟨d,hd,-,hdc,-⟩:=MX hw c0;rw[hdc];exact hw.now.1.mc d hd
 obtain⟨m1,m2,m3,m4,-⟩:=FI.1 hmay;have hn:∀x∈(AB s fr).1.2,0≤x.no∧x.no<137438953472:=λx hx=>m4 x.no ⟨x,hx,rfl⟩
 generalize (AB s fr).1=c at*;have h2:=h1.grew g2;have cb2:=cb1.grew g2;have oR:=SV.oneA hR;have hlt:=(B8.1 cb2.at').1
 have e2:AR 2 H2 (.ptr co 3) (.agg [I c.1,R])=some (H2.set co (some (.cells [.ptr os 0,I fr,I to,I c.1,R]))):=by
  rw[A8 (n:=2) (xs:=[I c.1,R]) (cs:=[.ptr os 0,I fr,I to,I size,vl]) (by simp[oR]) cb2.at' rfl (by simp)];rfl
 have ne2:∀i,i≠co→(H2.set co (some (.cells [.ptr os 0,I fr,I to,I c.1,R])))[i]?=H2[i]?:=λi hi=>C2 (Af7 hi)
 have h3:StAt s os p (H2.set co (some (.cells [.ptr os 0,I fr,I to,I c.1,R]))):=by
  obtain⟨a,b,c',d,pv,q⟩:=h2;exact⟨a,b,c',d,pv,(ne2 os (Af7 cb2.ne)).trans q.obj,q.now,q.kept,q.pm,Ae q.ps λi hi=>ne2 i (λe=>cb2.np (e▸hi)),q.po,q.pi,q.pc⟩
 have cb3:Bes co [.ptr os 0,I fr,I to,I c.1,R] os p (H2.set co (some (.cells [.ptr os 0,I fr,I to,I c.1,R]))):=⟨JX hlt,cb2.ne,cb2.np⟩
 have f3:StF os p0 p H0 (H2.set co (some (.cells [.ptr os 0,I fr,I to,I c.1,R]))):=by
  have f:=(f0.grew g1).grew g2;exact⟨by rw[Ae5];exact f.len,λj a b c=>by rw[ne2 j (by omega)];exact f.same j a b c,f.ids⟩
 have qa:(AV.lit (.string ⟨#[97,108,119,97,121,115]⟩))=S (Ay JF):=rfl;have qu:(AV.lit (.string ⟨#[97,117,116,111]⟩))=S (Ay IZ):=rfl;have i3:∀t:Int,Am true 2 [(AV.ptr os 0),I fr,I t,I c.1,R] 3=some (.agg [I c.1,R]):=λ_=>rfl
 simp only[Au,zK,e2,AC,qa,qu,Gp,AK];generalize (H2.set co (some (.cells [.ptr os 0,I fr,I to,I c.1,R])))=H3 at*
 by_cases wa:way=JF
 ·have hd:decide (EM way c)=true:=decide_eq_true (.inl wa)
  rw[hd];simp only[wa,jQ,zE,show((true==false)=false)from rfl,Cq,KZ,YV,Ab,zW,Aj,true_and];exact SC true h3 hw hB hB2 hN hnm f3 hco cb3 hR hmay
 simp only[wa,Dg,yZ,Gp,Ab,AK]
 by_cases wu:way=IZ
 ·obtain⟨w,H4,⟨hw4,g4⟩,hc⟩:=Xt (size:=c.1) hR (by omega) hn H3
  have cb4:=cb3.grew g4;simp only[wu,CM,yZ,zK,Au,Ak cb3.at',i3,Od];refine bC_of hc ?_;simp only[hw4.len,Ab4,Nat.reduceAdd,Ak cb4.at',QB];refine bP_of (cQ m1 (by omega)) ?_
  have hd:decide (EM IZ c)=decide (((BD c.1 c.2).length:Int)<EJ c.1):=by
   have:EM IZ c↔((BD c.1 c.2).length:Int)<EJ c.1:=by
    unfold EM;rw[← wu];exact⟨λh=>h.elim (λe=>absurd e wa) λh=>h.2,λh=>.inr ⟨rfl,h⟩⟩
   simp only[this]
  rw[hd];simp only[Bi,Ac2,Aw,An,Ak cb3.at',Ah,zG,Ao,true_and];exact SC _ (h3.grew g4) hw hB hB2 hN hnm (f3.grew g4) hco cb4 hR hmay
 ·have hd:decide (EM way c)=false:=decide_eq_false (λh=>h.elim wa λh=>wu h.1)
  rw[hd];simp only[wu,zI,show((false==true)=false)from rfl,Cq,KZ,YV,Ab,zW,An,true_and];exact SC false h3 hw hB hB2 hN hnm f3 hco cb3 hR hmay)
def aV (e:Int):AV:=.agg [I e,S (Ay []),I 0,I 0,I 0,I 0,I 0]
def VL (s:StS)(l:List Tx):Int×StS:=match Js l with
 | none=>(2,s)
 | some (a,b,w)=>if(AX s a false).1.2≠0 then((AX s a false).1.2,(AX s a false).2)else Ih (AX s a false).2 (AX s a false).1.1 b w
end Go.Proofs.YtbppnhenlboefaaGreat.Av
end
section
set_option maxHeartbeats 1000000
namespace Go.Proofs.YtbppnhenlboefaaGreat.Av
open Go Go.RowKit Go.Proofs.Tryz
abbrev Ao1:=@List.mem_cons_of_mem
theorem PB:∀{l:List Tx} {o:List (Tx×Tx)} {r:List Tx} {q:List (Tx×Tx)×List Tx},Ii l o r=some q→∀x∈q.2,x∈r∨x∈l
 | [],o,r,q,h,x,hx=>by
  unfold Ii at h;injection h with h;subst h;exact .inl hx
 | s::l,o,r,q,h,x,hx=>by
  unfold Ii at h;split at h
  ·injection h with h
   subst h;simp only[Ag2]at hx;exact hx.imp id λh=>Ao1 _ h
  ·split at h
   ·cases h
   ·exact(PB h x hx).imp id λh=>Ao1 _ h
   ·rcases PB h x hx with h | h
    ·rcases Ag2.1 h with h | h
     ·exact .inl h
     ·rw[Ah0]at h;subst h;exact .inr (by simp)
    ·exact .inr (Ao1 _ h)
theorem aW {l:List Tx}{a b w:Tx}(h:Js l=some (a,b,w)):a∈l∧b∈l:=by
 unfold Js at h;split at h
 ·cases h
 ·rename_i op rs hF
  unfold Sn at hF;split at hF
  ·cases hF
  ·unfold XL at h
   split at h
   ·rename_i a' b'
    split at h
    ·cases h
    ·split at h
     ·obtain⟨w',-,e⟩:=Option.map_eq_some_iff.1 h
      injection e with e1 e2;injection e2 with e2 e3;subst e1;subst e2;have m:=PB hF;exact⟨(m _ (by simp)).elim (λh=>by simp at h) id,(m _ (by simp)).elim (λh=>by simp at h) id⟩
     ·cases h
   ·cases h
theorem dK (s:StS)(a:Tx):AX s a false=(EL s a,s):=by unfold AX;rw[if_pos (.inr rfl)]
theorem bX {N Bd:Nat}{s:StS}{os:Nat}{p v:AV}{H:AH}{l:List Tx}(h:StAt s os p H)(hw:SW N s)(hB:∀i,(AB s i).1.2.length≤Bd)(hB2:4096≤Bd)(hN:N+10+72*Bd<900000)
  (hv:Aa H 1 v=some (l.flatMap Cp,l.length)) (hb:∀t∈l,t.length≤1000000) (hl:l.length≤1000000):
  ∃r H',(r=aV (VL s l).1∧∃p',StAt (VL s l).2 os p' H'∧StF os p p' H H')∧BCall prog 12 [.ptr os 0,v] H r H':=fH (by
 unfold kH
 let Z:List AV:=[I 0,S (Ay []),I 0,I 0,I 0,I 0,I 0]
 have e1:A9 H (.agg [(I 0),(.lit (.string ⟨#[]⟩)),(I 0),(I 0),(I 0),(I 0),(I 0)])=some (.ptr H.length 0,H++[some (.cells Z)]):=rfl;have g1:=Grew.app H [some (AObj.cells Z)];have b1:=Bes.new h Z;have hlt:=h.os_lt;simp only[e1,A0];have hv1:=g1.slice hv;have h1:=h.grew g1;have f1:StF os p p H (H++[some (AObj.cells Z)]):=(StF.refl os p H).grew g1;have l1:(H++[some (AObj.cells Z)]).length=H.length+1:=by simp
 generalize (H++[some (AObj.cells Z)])=H1 at*;obtain⟨r,H2,⟨hr,g2⟩,hc⟩:=pK hv1 hb hl;refine bC_of hc ?_;have b2:=b1.grew g2;have h2:=h1.grew g2;have f2:=f1.grew g2;have lt2:=g2.1
 -- the answer put into its place
 have fin:∀(e:Int) (s':StS) (p':AV) (H':AH),StAt s' os p' H'→StF os p p' H H'→Bes H.length Z os p' H'→VL s l=(e,s')→
   bS (AR 7 H' (.ptr H.length 0) (.agg [I e,S (Ay []),I 0,I 0,I 0,I 0,I 0])) (λH''=>bO (Ar true 7 H'' (.ptr H.length 0)) λv=>v=aV (VL s l).1∧∃p',StAt (VL s l).2 os p' H''∧StF os p p' H H''):=by
  intro e s' p' H' h' f' b' he;have hl':=(B8.1 b'.at').1
  have t1:AR 7 H' (.ptr H.length 0) (.agg [I e,S (Ay []),I 0,I 0,I 0,I 0,I 0])=some (H'.set H.length (some (.cells [I e,S (Ay []),I 0,I 0,I 0,I 0,I 0]))):=by
   rw[A8 (n:=7) (xs:=[I e,S (Ay []),I 0,I 0,I 0,I 0,I 0]) (cs:=Z) (by simp[BE,oneA]) b'.at' rfl (by simp[Z])];rfl
  have t2:(H'.set H.length (some (.cells [I e,S (Ay []),I 0,I 0,I 0,I 0,I 0])))[H.length]?=some (some (.cells [I e,S (Ay []),I 0,I 0,I 0,I 0,I 0])):=JX hl';have ne:∀i,i≠H.length→(H'.set H.length (some (.cells [I e,S (Ay []),I 0,I 0,I 0,I 0,I 0])))[i]?=H'[i]?:=λi hi=>C2 (Af7 hi)
  have i7:Am true 7 [I e,S (Ay []),I 0,I 0,I 0,I 0,I 0] 0=some (aV e):=rfl;simp only[t1,AC,Ak t2,i7,Ab,he];refine⟨by trivial,p',?_,by rw[Ae5];exact f'.len,λj a b c=>by rw[ne j (by omega)];exact f'.same j a b c,f'.ids⟩;obtain⟨a,b,c,d,pv,q⟩:=h';exact⟨a,b,c,d,pv,(ne os (Af7 b'.ne)).trans q.obj,q.now,q.kept,q.pm,Ae q.ps λi hi=>ne i (λe=>b'.np (e▸hi)),q.po,q.pi,q.pc⟩
 have z1:∀x:AV,oneA x=true→FD [(I 0),(.lit (.string ⟨#[]⟩)),(I 0),(I 0),(I 0),(I 0),(I 0)] [(0,1,x)]=some (.agg [x,S (Ay []),I 0,I 0,I 0,I 0,I 0]):=λx hx=>by
  simp[FD,AO hx,AN];rfl
 cases hP:Js l with
 | none=>
  rw[hP]at hr;have hr:r=.tup [S (Ay []),S (Ay []),S (Ay []),B false]:=hr;subst hr;simp only[zU,Ab5,zH,z1 (I 2) rfl];exact fin 2 s p H2 h2 f2 b2 (by unfold VL;rw[hP])
 | some q=>
  obtain⟨a,b,w⟩:=q;rw[hP]at hr;have hr:r=.tup [S (Ay a),S (Ay b),S (Ay w),B true]:=hr;subst hr;obtain⟨ma,mb⟩:=aW hP;have la:=hb a ma;have lb:=hb b mb;simp only[zU,Ab5,zJ];obtain⟨r,H3,⟨rfl,p3,h3,f3⟩,hc⟩:=Uk h2 hw (by omega) (name:=a) (by omega) false;refine bC_of hc ?_;have b3:=b2.step f3;have f23:=f2.trans f3;have hcp:VL s l=if(AX s a false).1.2≠0 then((AX s a false).1.2,(AX s a false).2)else Ih (AX s a false).2 (AX s a false).1.1 b w:=by unfold VL;rw[hP]
  rw[dK]at h3 hcp⊢;simp only[zU,zC,CD]at hcp h3⊢;generalize EL s a=F at*
  by_cases c1:F.2=0
  rotate_left
  ·rw[if_pos c1]at hcp
   simp only[c1,zA,zL,z1 (I F.2) rfl,Ab];exact fin F.2 s p3 H3 h3 f23 b3 hcp
  rw[if_neg (λz=>z c1)]at hcp;have z2:FD [(.lit (.pointer none)),(I 0),(I 0),(I 0),Ad] [(0,1,.ptr os 0),(1,1,I F.1)]=some (.agg [.ptr os 0,I F.1,I 0,I 0,Ad]):=rfl;have e4:A9 H3 (.agg [.ptr os 0,I F.1,I 0,I 0,Ad])=some (.ptr H3.length 0,H3++[some (.cells [.ptr os 0,I F.1,I 0,I 0,Ad])]):=rfl;have g4:=Grew.app H3 [some (AObj.cells [AV.ptr os 0,I F.1,I 0,I 0,Ad])];have cb:=Bes.new h3 [AV.ptr os 0,I F.1,I 0,I 0,Ad];have lt3:=f3.len;simp only[c1,yY,zI,z2,Ab,e4,A0]
  -- from here on the answer's place is part of what was there
  have hf0:StF os p p3 H1 (H3++[some (AObj.cells [AV.ptr os 0,I F.1,I 0,I 0,Ad])]):=
   (((StF.refl os p H1).grew g2).trans f3).grew g4
  obtain⟨r,H5,⟨rfl,p5,h5,f5⟩,hc⟩:=oN (nm:=b) (way:=w) (Bd:=Bd) (h3.grew g4) hw (hB F.1) hB2 hN (by omega) hf0 (by omega) cb;refine bC_of hc ?_;have hpne:H.length∉AT p:=λz=>by have:=h.p_lt _ z;omega
  have b5:Bes H.length Z os p5 H5:=⟨(f5.same H.length (by omega) (by omega) hpne).trans b1.at',by omega,λz=>(f5.ids _ z).elim hpne (λz=>by omega)⟩;have f15:StF os p p5 H H5:=f1.trans f5;simp only[z1 (I (Ih s F.1 b w).1) rfl,Ab];exact fin (Ih s F.1 b w).1 (Ih s F.1 b w).2 p5 H5 h5 f15 b5 hcp)
end Go.Proofs.YtbppnhenlboefaaGreat.Av
end
section
set_option maxHeartbeats 1000000
namespace Go.Proofs.YtbppnhenlboefaaGreat.Av
open Go Go.RowKit Go.Proofs.Tryz
def Qa:Tx:=[45,45,115,112,97,114,115,101,61,97,108,119,97,121,115]
def WU:Int×StS:=XO (Li 9) [97] [List.replicate 20 0]
def NH:Int×StS:=VL WU.2 [Qa,[97],[98]]
theorem mO:WU.1=0:=by kernel_rfl
theorem mR:NH.1=0:=by kernel_rfl
theorem mQ:(VL NH.2 [[97]]).1=2:=by kernel_rfl
theorem iE:decide (O5 NH.2.now.1 NH.2.now.2 2)=true∧(E2 NH.2.now.1 NH.2.now.2 2).size=20∧(E2 NH.2.now.1 NH.2.now.2 2).l.length=0:=⟨by kernel_rfl,by kernel_rfl,by kernel_rfl⟩
theorem dP {N:Nat}{s:StS}(h:SW N s)(nm:List UInt8)(l:List (List UInt8)):SW (N+2+9*Hq l) (XO s nm l).2:=by
 have w1:=Om h nm true;unfold XO;generalize AX s nm true=O at*;have w2:=LC w1 O.1.1 0;generalize D9 O.2 O.1.1 0=Q at*;have w3:=mB (ino:=O.1.1) (l:=l) (a:=0) (m:=0) w2
 split
 ·exact w1.mono (by omega)
 ·split
  ·exact w2.mono (by omega)
  ·split
   ·exact w3.mono (by omega)
   ·exact(qE w3 _).mono (by omega)
theorem kE {N Bd:Nat}{s:StS}(h:SW N s)(fr:Int)(nm way:Tx)(hB:(AB s fr).1.2.length≤Bd)(hB2:4096≤Bd):SW (N+4+72*Bd) (Ih s fr nm way).2:=by
 unfold Ih
 split
 ·exact h.mono (by omega)
 ·generalize (AB s fr).1=c at*
  have w1:=W1 h nm;unfold M3
  split
  ·exact h.mono (by omega)
  ·rename_i hg
   split
   ·exact w1.mono (by omega)
   ·have w2:SW (N+2+72*Bd) (MY (decide (EM way c)) (Cd s nm).2.1 c (Cd s nm).2.2).2:=by
     unfold MY
     split
     ·exact(QD w1).mono (by have:=IM c.1 c.2;omega)
     ·rename_i hd
      refine(ZO w1).mono ?_
      have:(EJ c.1).toNat≤4096:=by
       have:¬32768<c.1:=λz=>hg ⟨by simpa using hd,z⟩
       unfold EJ;omega
      omega
    split
    ·exact w2.mono (by omega)
    ·exact(LC w2 _ _).mono (by omega)
theorem kG {N Bd:Nat}{s:StS}(h:SW N s)(l:List Tx)(hB:∀i,(AB s i).1.2.length≤Bd)(hB2:4096≤Bd):SW (N+4+72*Bd) (VL s l).2:=by
 unfold VL
 split
 ·exact h.mono (by omega)
 ·rw[dK]
  split
  ·exact h.mono (by omega)
  ·exact kE h _ _ _ (hB _) hB2
theorem FE {N n:Nat}{s:StS}(h:SW N s)(hd:∀d∈s.now.2,d.l.length≤n)(i:Int):(AB s i).1.2.length≤n:=by
 by_cases c:(AB s i).2=0
 ·obtain⟨d,hm,-,e,-⟩:=MX h c
  rw[e];exact hd d hm
 ·have:(AB s i).1=(0,[]):=by
   unfold AB at c⊢
   split
   ·rfl
   ·split
    ·rename_i h1 h2;rw[if_neg h1,if_pos h2]at c;exact absurd rfl c
    ·rfl
  rw[this];exact Nat.zero_le _
theorem mP:decide (∀d∈NH.2.now.2,d.l.length≤4096)=true:=by kernel_rfl
theorem Z2:decide (∀d∈WU.2.now.2,d.l.length≤4096)=true:=by kernel_rfl
theorem Wp {H:AH}{v:AV}(h:oneA v=true):Cv H 1 1 (Bg [Ad] 1) [(0,1,v)]=some (.sl H.length 0 1 1 (.ex 1),H++[some (.cells [v])]):=by
 simp[Cv,T8,Bg,AO h,AN]
theorem kF:ACalls prog 3 [] [] λr _=>r=B true:=MH (by
 unfold FJ;obtain⟨r,H1,⟨p,rfl,l1,st0,g,hid⟩,hc⟩:=iU 9 [] (by omega);refine bC_of hc ?_;have n1:VM .eql S6 (.ptr ([]:AH).length 0) (.lit (.pointer none))=some (B false):=rfl;have e1:qM 1 1 [u0Z] H1 (I 20) (I 20)=some (.sl H1.length 0 20 1 (.ex 20),H1++[some (.cells (AF (List.replicate 20 0)))]):=rfl;have e2:=Wp (H:=H1++[some (AObj.cells (AF (List.replicate 20 0)))]) (v:=.sl H1.length 0 20 1 (.ex 20)) rfl;simp only[n1,zX,AK,yZ,e1,A0,e2];have g2:Grew H1 (H1++[some (AObj.cells (AF (List.replicate 20 0)))]++[some (AObj.cells [AV.sl H1.length 0 20 1 (.ex 20)])]):=by rw[Ad6];exact Grew.app _ _
 have s1:Aa (H1++[some (AObj.cells (AF (List.replicate 20 0)))]++[some (AObj.cells [AV.sl H1.length 0 20 1 (.ex 20)])]) 1 (.sl H1.length 0 20 1 (.ex 20))=some (AF (List.replicate 20 0),20):=by
  rw[AA (c:=AF (List.replicate 20 0)) (by simp) (by simp[AF])];rfl
 have s2:Aa (H1++[some (AObj.cells (AF (List.replicate 20 0)))]++[some (AObj.cells [AV.sl H1.length 0 20 1 (.ex 20)])]) 1 (.sl (H1++[some (AObj.cells (AF (List.replicate 20 0)))]).length 0 1 1 (.ex 1))=some ([AV.sl H1.length 0 20 1 (.ex 20)],1):=by
  rw[AA C6 (by simp)];rfl
 have lo:=st0.os_lt;have i4:∀j∈AT (AV.sl (H1++[some (AObj.cells (AF (List.replicate 20 0)))]).length 0 1 1 (.ex 1)),j=H1.length+1:=by intro j hj;simpa[AT]using hj
 have st2:=st0.grew g2;generalize (.sl (H1++[some (AObj.cells (AF (List.replicate 20 0)))]).length 0 1 1 (.ex 1):AV)=w at*;generalize (H1++[some (AObj.cells (AF (List.replicate 20 0)))]++[some (AObj.cells [AV.sl H1.length 0 20 1 (.ex 20)])])=H2 at*;have hch:([(AV.sl H1.length 0 20 1 (.ex 20),List.replicate 20 0)]:List (AV×List UInt8)).flatMap (λx=>Cf x.2)=[List.replicate 20 0]:=by kernel_rfl
 refine⟨_,qJ (nm:=[97]) (bl:=[(AV.sl H1.length 0 20 1 (.ex 20),List.replicate 20 0)]) st2 (S5 9) (by simp) s2 (by intro j hj;rw[i4 j hj,hid];exact⟨by omega,by simp⟩) (by
  intro x hx;simp only[Ah0]at hx;subst hx;exact⟨s1,rfl,by simp,λj hj=>by simp only[AT,Ah0]at hj;subst hj;rw[hid];exact⟨by omega,by simp⟩⟩) (by simp) (by rw[hch];simp[Hq]),?_⟩
 have w2:=dP (S5 9) [97] [List.replicate 20 0];rw[hch];rintro r H3 ⟨p3,rfl,st3,f3⟩;have w3:SW 200 WU.2:=w2.mono (by simp[Hq]);have st3:StAt WU.2 ([]:AH).length p3 H3:=st3;have er:(XO (Li 9) [97] [List.replicate 20 0]).1=0:=mO;have lA:Cv H3 1 3 (Bg [(.lit (.string ⟨#[]⟩))] 3) [(0,1,(.lit (.string ⟨#[45,45,115,112,97,114,115,101,61,97,108,119,97,121,115]⟩))),(1,1,(.lit (.string ⟨#[97]⟩))),(2,1,(.lit (.string ⟨#[98]⟩)))]=some (.sl H3.length 0 3 1 (.ex 3),H3++[some (.cells ([Qa,[97],[98]].flatMap Cp))]):=rfl;simp only[er,CD,yY,zI,Aw,An,zC,lA,A0];have g4:=Grew.app H3 [some (AObj.cells ([Qa,[97],[98]].flatMap Cp))]
 have v4:Aa (H3++[some (AObj.cells ([Qa,[97],[98]].flatMap Cp))]) 1 (.sl H3.length 0 3 1 (.ex 3))=some ([Qa,[97],[98]].flatMap Cp,[Qa,[97],[98]].length):=by
  rw[AA C6 (by simp[Cp])];rfl
 obtain⟨r,H5,⟨rfl,p5,st5,f5⟩,hc⟩:=bX (Bd:=4096) (l:=[Qa,[97],[98]]) (st3.grew g4) w3 (FE w3 (of_decide_eq_true Z2)) (by omega) (by omega) v4 (by simp[Qa]) (by simp);refine bC_of hc ?_;have w5:SW 300000 NH.2:=(kG w3 [Qa,[97],[98]] (Bd:=4096) (FE w3 (of_decide_eq_true Z2)) (by omega)).mono (by omega);have st5:StAt NH.2 ([]:AH).length p5 H5:=st5;have e5:(VL WU.2 [Qa,[97],[98]]).1=0:=mR;rw[e5]
 have o7:∀(H:AH) (e:Int),A9 H (.agg [(I 0),(.lit (.string ⟨#[]⟩)),(I 0),(I 0),(I 0),(I 0),(I 0)])=some (.ptr H.length 0,H++[some (.cells [I 0,S (Ay []),I 0,I 0,I 0,I 0,I 0])])∧AR 7 (H++[some (AObj.cells [I 0,S (Ay []),I 0,I 0,I 0,I 0,I 0])]) (.ptr H.length 0) (aV e)=some (H++[some (.cells [I e,S (Ay []),I 0,I 0,I 0,I 0,I 0])]):=λH e=>by
  refine⟨rfl,?_⟩;unfold aV;rw[A8 (n:=7) (xs:=[I e,S (Ay []),I 0,I 0,I 0,I 0,I 0]) (cs:=[I 0,S (Ay []),I 0,I 0,I 0,I 0,I 0]) (by simp[BE,oneA]) C6 rfl (by simp)];simp[AN]
 simp only[(o7 _ 0).1,(o7 _ 0).2,zT];have g6:=Grew.app H5 [some (AObj.cells [I 0,S (Ay []),I 0,I 0,I 0,I 0,I 0])];have b6:=Bes.new st5 [I 0,S (Ay []),I 0,I 0,I 0,I 0,I 0];have st6:=st5.grew g6;generalize (H5++[some (AObj.cells [I 0,S (Ay []),I 0,I 0,I 0,I 0,I 0])])=H6 at*;generalize H5.length=o5 at*;obtain⟨R,hR,r,H7,⟨rfl,g7⟩,hc⟩:=Uj st6 w5 (by omega);refine bC_of hc ?_;obtain⟨k1,k2,k3⟩:=iE;obtain⟨L,hL,hp⟩:=Wn hR (w5.now.sm (by omega)) 2;refine A1 hp ?_;rw[k1,k2];have oL:=SV.oneA hL;have m1:A9 H7 (.agg [(I 0),Ad])=some (.ptr H7.length 0,H7++[some (.cells [I 0,Ad])]):=rfl
 have m2:AR 2 (H7++[some (AObj.cells [I 0,Ad])]) (.ptr H7.length 0) (.agg [I 20,L])=some (H7++[some (.cells [I 20,L])]):=by
  rw[A8 (n:=2) (xs:=[I 20,L]) (cs:=[I 0,Ad]) (by simp[oL]) C6 rfl (by simp)];simp[AN]
 have lB:∀H:AH,Cv H 1 1 (Bg [(.lit (.string ⟨#[]⟩))] 1) [(0,1,(.lit (.string ⟨#[97]⟩)))]=some (.sl H.length 0 1 1 (.ex 1),H++[some (.cells ([[97]].flatMap Cp))]):=λ_=>rfl
 simp only[zU,Ab,m1,zT,m2,lB];have g8:=Grew.app H7 [some (AObj.cells [I 20,L])];have b7:=b6.grew g7;have st7:=st6.grew g7;have c8:=Bes.new st7 [I 20,L];have b8:=b7.grew g8;have st8:=st7.grew g8;generalize (H7++[some (AObj.cells [I 20,L])])=H8 at*;generalize H7.length=o7' at*;have g9:=Grew.app H8 [some (AObj.cells ([[97]].flatMap Cp))]
 have v9:Aa (H8++[some (AObj.cells ([[97]].flatMap Cp))]) 1 (.sl H8.length 0 1 1 (.ex 1))=some ([[97]].flatMap Cp,([[97]]:List Tx).length):=by
  rw[AA C6 (by simp[Cp])];rfl
 have b9:=b8.grew g9;have c9:=c8.grew g9;obtain⟨r,H10,⟨rfl,p10,st10,f10⟩,hc⟩:=bX (Bd:=4096) (l:=[[97]]) (st8.grew g9) w5 (FE w5 (of_decide_eq_true mP)) (by omega) (by omega) v9 (by simp) (by simp);refine bC_of hc ?_;have b10:=b9.step f10;have c10:=c9.step f10;rw[mQ];simp only[(o7 _ 2).1,(o7 _ 2).2,zT];have g11:=Grew.app H10 [some (AObj.cells [I 2,S (Ay []),I 0,I 0,I 0,I 0,I 0])];have b11:=b10.grew g11;have c11:=c10.grew g11;have hl0:Bf L=some (I 0):=by rw[hL.len,k3];rfl
 simp only[zQ,Ak b11.at',Ak c11.at',Ak C6,Cn,zE,zW,yZ,hl0])
theorem Qu:BPure prog 3 [] (B true):=.of_true kF
def rightT:List (List UInt8):=[[97],[98],[99],[100,115,116],[109,97,112],[120,45,49]]
def SB (k:UInt8):List UInt8:=rightT.getD (k.toNat % 6) []
theorem bW (k:UInt8):BPure prog 46 [.lit (.int .u8 k.toNat)] (S (Ay (SB k))):=BPure.val rfl rfl (OA (by
 unfold Lp;have e1:Cv [] 1 6 (Bg [(.lit (.string ⟨#[]⟩))] 6) [(0,1,(.lit (.string ⟨#[97]⟩))),(1,1,(.lit (.string ⟨#[98]⟩))),(2,1,(.lit (.string ⟨#[99]⟩))),(3,1,(.lit (.string ⟨#[100,115,116]⟩))),(4,1,(.lit (.string ⟨#[109,97,112]⟩))),(5,1,(.lit (.string ⟨#[120,45,49]⟩)))]=some (.sl 0 0 6 1 (.ex 6),[some (.cells (rightT.map λs=>S (Ay s)))]):=by rfl
 have hm:k.toNat % 6<6:=Al7 _ (by omega)
 have e2:Aq .rem (.lit (.int .u8 k.toNat)) (.lit (.int .u8 6))=some (.lit (.int .u8 ((k.toNat % 6:Nat):Int))):=by
  simp[Aq,Gq,Int.tmod_eq_emod_of_nonneg]
 rw[e1,e2];simp only[A0,Ab]
 have e3:Bh 1 (.sl 0 0 6 1 (.ex 6)) (.lit (.int .u8 ((k.toNat % 6:Nat):Int)))=some (.ptr 0 (k.toNat % 6)):=by
  simp[Bh,J8];omega
 have e4:Ar false 1 [some (.cells (rightT.map λs=>S (Ay s)))] (.ptr 0 (k.toNat % 6))=some (S (Ay (SB k))):=by
  rw[Ak (cs:=rightT.map λs=>S (Ay s)) rfl]
  have:rightT[k.toNat % 6]?=some (SB k):=by
   unfold SB;rw[Ad4,Ea (show k.toNat % 6<rightT.length by simp[rightT];omega)];rfl
  simp[Ah,this]
 rw[e3];simp only[Ab,e4]))
def JI (s i:Nat):UInt8:=if(i/8+s) % 3=0 then 0 else UInt8.ofNat ((s*31+i*7+i/8*s) % 251)
def EG (s n:Nat):List UInt8:=(List.range n).map (JI s)
theorem EH (s n:Nat):(EG s n).length=n:=by simp[EG]
theorem rP {n:Nat}(h:n<256):RI .u8 (I n)=some (.lit (.int .u8 n)):=by
 have:(IntKind.u8).wrap (n:Int)=n:=by
  simp[IntKind.wrap,IntKind.bits,IntKind.signed];omega
 simp[RI,this]
theorem qH (n:Nat):Bg [u0Z] n=AF (List.replicate n 0):=by
 unfold Bg AF
 induction n with
 | zero=>rfl
 | succ n ih=>rw[Al2,Al2,An2,ih];rfl
theorem iF {s i n:Nat}{y:UInt8}(hi:i<n):(EG s i++List.replicate (n - i) 0).set i y=EG s i++y::List.replicate (n - (i+1)) 0:=by
 rw[List.set_append,if_neg (by rw[EH];omega),EH,Nat.sub_self,show n - i=n - (i+1)+1 by omega,Al2,Ao7]
theorem nK (k:UInt8){n:Nat}(hn:n≤10000):∃R,SV J9 1 (EG k.toNat n) R∧BPure prog 45 [.lit (.int .u8 k.toNat),I n] R:=by
 have hk:k.toNat<256:=k.toNat_lt
 have key:∃r X,Aa X 1 r=some (AF (EG k.toNat n),n)∧BCall prog 45 [.lit (.int .u8 k.toNat),I n] [] r X:=O9 (by
  unfold Lo
  have e1:qM 1 1 [u0Z] [] (I n) (I n)=some (.sl 0 0 n 1 (.ex n),[some (.cells (AF (List.replicate n 0)))]):=by
   show(if 0≤(n:Int)∧(n:Int)≤n∧((1:Nat):Int)*n≤281474976710656∧(n:Int)≤9223372036854775807 then some (AV.sl 0 0 (n:Int).toNat 1 (.ex (n:Int).toNat),[some (AObj.cells (Bg [u0Z] (n:Int).toNat))])else none)=_
   rw[if_pos ⟨by omega,by omega,by omega,by omega⟩,Ak8,qH]
  rw[e1];simp only[A0];refine Kr (λm x0 x1 x5 x6 H'=>∃i:Nat,i+m=n∧x0=.lit (.int .u8 k.toNat)∧x1=I n∧x5=.sl 0 0 n 1 (.ex n)∧x6=I i∧H'=[some (.cells (AF (EG k.toNat i++List.replicate (n - i) 0)))]) ?_ n ⟨0,by omega,rfl,rfl,rfl,rfl,by simp[EG]⟩;rintro m x0 x1 x5 x6 H' R hR ⟨i,hi,rfl,rfl,rfl,rfl,rfl⟩;unfold GS;rcases Ac9 i n with h | h
  ·have hd:i/8*k.toNat≤2000*256:=Nat.mul_le_mul (by omega) (by omega)
   have e2:RI .i64 (.lit (.int .u8 k.toNat))=some (I k.toNat):=LJ (by omega) (by omega);have e3:Aq .mul (I k.toNat) (I 31)=some (I ((k.toNat*31:Nat):Int)):=by rw[Ek (by omega) (by omega)];congr 3
   have e4:Aq .mul (I i) (I 7)=some (I ((i*7:Nat):Int)):=by rw[Ek (by omega) (by omega)];congr 3
   have e5:Aq .add (I ((k.toNat*31:Nat):Int)) (I ((i*7:Nat):Int))=some (I ((k.toNat*31+i*7:Nat):Int)):=by rw[Ax (by omega) (by omega)];congr 3
   have e6:Aq .quo (I i) (I 8)=some (I ((i/8:Nat):Int)):=by rw[LI (by omega) (by omega) (by omega)];congr 3
   have e7:Aq .mul (I ((i/8:Nat):Int)) (I k.toNat)=some (I ((i/8*k.toNat:Nat):Int)):=by
    have q:((i/8:Nat):Int)*(k.toNat:Int)=((i/8*k.toNat:Nat):Int):=(Int.natCast_mul _ _).symm;rw[Ek (by rw[q];omega) (by rw[q];omega),q]
   have e8:Aq .add (I ((k.toNat*31+i*7:Nat):Int)) (I ((i/8*k.toNat:Nat):Int))=some (I ((k.toNat*31+i*7+i/8*k.toNat:Nat):Int)):=by rw[Ax (by omega) (by omega)];congr 3
   have e9:Aq .rem (I ((k.toNat*31+i*7+i/8*k.toNat:Nat):Int)) (I 251)=some (I (((k.toNat*31+i*7+i/8*k.toNat) % 251:Nat):Int)):=by rw[IA (by omega) (by omega)];congr 3
   have lt:(k.toNat*31+i*7+i/8*k.toNat) % 251<256:=by have:=Al7 (k.toNat*31+i*7+i/8*k.toNat) (show 251>0 by omega);omega
   have e10:=rP lt;have e11:Bh 1 (.sl 0 0 n 1 (.ex n)) (I i)=some (.ptr 0 i):=by simp[Bh,J8];omega
   have e12:Aq .add (I ((i/8:Nat):Int)) (I k.toNat)=some (I ((i/8+k.toNat:Nat):Int)):=by rw[Ax (by omega) (by omega)];congr 3
   have e13:Aq .rem (I ((i/8+k.toNat:Nat):Int)) (I 3)=some (I (((i/8+k.toNat) % 3:Nat):Int)):=by rw[IA (by omega) (by omega)];congr 3
   have put:∀(cs:List UInt8) (y:UInt8),cs.length=n→AR 1 [some (.cells (AF cs))] (.ptr 0 i) (.lit (.int .u8 y.toNat))=some [some (.cells (AF (cs.set i y)))]:=by
    intro cs y hc;rw[A8 (n:=1) (xs:=[.lit (.int .u8 y.toNat)]) (cs:=AF cs) rfl rfl rfl (by rw[B9];omega)];simp[AN,AF,Am1]
   have hlen:(EG k.toNat i++List.replicate (n - i) (0:UInt8)).length=n:=by simp[EH];omega
   have hy:(((k.toNat*31+i*7+i/8*k.toNat) % 251:Nat):Int)=((UInt8.ofNat ((k.toNat*31+i*7+i/8*k.toNat) % 251)).toNat:Int):=by
    rw[UInt8.toNat_ofNat_of_lt' lt]
   rw[hy]at e10
   have snoc:∀y,JI k.toNat i=y→EG k.toNat i++y::List.replicate (n - (i+1)) 0=EG k.toNat (i+1)++List.replicate (n - (i+1)) 0:=by
    rintro y rfl;unfold EG;rw[Ao0,Ah7];simp
   simp only[Aa6,Int.ofNat_lt,h,zL,e2,e3,e4,e5,e6,e7,e8,e9,hy,e10,e11,put _ _ hlen,AC,e12,e13,Cn,iF h];have hlen2:(EG k.toNat i++UInt8.ofNat ((k.toNat*31+i*7+i/8*k.toNat) % 251)::List.replicate (n - (i+1)) 0).length=n:=by simp[EH];omega
   by_cases c:(i/8+k.toNat) % 3=0
   ·have c':(((i/8+k.toNat) % 3:Nat):Int)=0:=by omega
    have p0:=put _ 0 hlen2;have e14:(AV.lit (.int .u8 ((0:UInt8).toNat:Int)))=.lit (.int .u8 0):=rfl;rw[e14]at p0;simp only[c',zL,p0,AC];rw[G8];unfold E4;simp only[Ax (a:=i) (b:=1) (by omega) (by omega),Ab];refine hR (m - 1) _ _ _ _ _ (by omega) ⟨i+1,by omega,rfl,rfl,rfl,by simp,?_⟩;rw[← snoc 0 (by unfold JI;rw[if_pos c])]
    congr 4
    rw[List.set_append,if_neg (by rw[EH];omega),EH,Nat.sub_self,Ao7]
   ·have c':¬(((i/8+k.toNat) % 3:Nat):Int)=0:=by omega
    simp only[c',zI];rw[G8];unfold E4;simp only[Ax (a:=i) (b:=1) (by omega) (by omega),Ab];refine hR (m - 1) _ _ _ _ _ (by omega) ⟨i+1,by omega,rfl,rfl,rfl,by simp,?_⟩;rw[← snoc _ (by unfold JI;rw[if_neg c])]
  ·have:i=n:=by omega
   subst this;simp[Aa,B9,EH,Ac5])
 obtain⟨r,X,h1,h2⟩:=key;obtain⟨R,⟨hR,hR2⟩,hp⟩:=BPure.sl (P:=prog) rfl (HQ _) ⟨r,X,h1,h2⟩;exact⟨R,⟨hR,λH=>by rw[hR2 H,IN,EH]⟩,hp⟩
end Go.Proofs.YtbppnhenlboefaaGreat.Av
end
section
set_option maxHeartbeats 1000000
namespace Go.Proofs.YtbppnhenlboefaaGreat.Av
open Go Go.RowKit Go.Proofs.Tryz
def Zh:Tx:=[45,45,115,112,97,114,115,101,61,110,101,118,101,114]
def oG:Tx:=[45,45,115,112,97,114,115,101,61,97,117,116,111]
def LN (w:Nat):List Tx:=if w % 4=1 then [Qa,[97],[98]]else if w % 4=2 then [[97],[98],Zh]else if w % 4=3 then [[97],[98],Zh,oG]else [[97],[98]]
def Ut (w:Nat):Tx:=if w % 4=1 then JF else if w % 4=2 then PJ else IZ
theorem vM:Js [Qa,[97],[98]]=some ([97],[98],JF):=by kernel_rfl
theorem vN:Js [[97],[98],Zh]=some ([97],[98],PJ):=by kernel_rfl
theorem vO:Js [[97],[98],Zh,oG]=some ([97],[98],IZ):=by kernel_rfl
theorem vL:Js [[97],[98]]=some ([97],[98],IZ):=by kernel_rfl
theorem Wu (w:Nat):Js (LN w)=some ([97],[98],Ut w):=by
 unfold LN Ut
 split
 ·exact vM
 ·split
  ·exact vN
  ·split
   ·exact vO
   ·exact vL
theorem Ux (w:Nat):(LN w).length≤4∧∀t∈LN w,t.length≤100:=by
 unfold LN
 split
 ·decide
 ·split
  ·decide
  ·split<;>decide
theorem Ob (l:List Tx):(l.flatMap Cp).length=l.length:=by
 induction l with
 | nil=>rfl
 | cons a l ih=>simp[Cp,ih]
theorem nU {H:AH}{v:AV}{n:Nat}{l:List Tx}{cs:List Tx}(hv:Aa H 1 v=some (l.flatMap Cp,l.length))(hn:cs.length=n)(hl:l.length≤100)(hc:n≤100):
  ∃r H',MJ 1 16 (H++[some (.cells (cs.flatMap Cp))]) (.sl H.length 0 n 1 (.ex n)) v=some (r,H')∧Aa H' 1 r=some ((cs++l).flatMap Cp,(cs++l).length)∧Grew H H':=by
 subst hn
 have s2:Aa (H++[some (.cells (cs.flatMap Cp))]) 1 (.sl H.length 0 cs.length 1 (.ex cs.length))=some (cs.flatMap Cp,cs.length):=by
  rw[AA C6 (by rw[Ob];omega),Ae3,Ai8,Ac5 (by rw[Ob];omega)]
 obtain⟨r,H8,a1,a2,a3,a4,a5,a6⟩:=CL (sz:=1) (bytes:=16) s2 rfl (AI ((Grew.app H [some (AObj.cells (cs.flatMap Cp))]).slice hv)) (by omega);refine⟨r,H8,a1,by rw[a3,Ag6,Ad0],?_⟩;rw[Ad0]at a4;refine⟨by omega,λi hi=>?_⟩;rw[a5 i (by rw[Ad0];omega) (by simp only[AT,Ah0];omega),Ac3 hi]
theorem bY {H:AH}{n m:Nat}{l cs:List Tx}(H0:AH)(g:Grew H0 H)(ho:H0.length≤n)(hv:Aa H 1 (.sl n 0 m 1 (.ex m))=some (l.flatMap Cp,l.length))(hl:l.length≤100)(hc:cs.length≤100):
  ∃r H',MJ 1 16 (H++[some (.cells (cs.flatMap Cp))]) (.sl n 0 m 1 (.ex m)) (.sl H.length 0 cs.length 1 (.ex cs.length))=some (r,H')∧Aa H' 1 r=some ((l++cs).flatMap Cp,(l++cs).length)∧Grew H0 H':=by
 have s2:Aa (H++[some (.cells (cs.flatMap Cp))]) 1 (.sl H.length 0 cs.length 1 (.ex cs.length))=some (cs.flatMap Cp,cs.length):=by
  rw[AA C6 (by rw[Ob];omega),Ae3,Ai8,Ac5 (by rw[Ob];omega)]
 obtain⟨r,H8,a1,a2,a3,a4,a5,a6⟩:=CL (sz:=1) (bytes:=16) ((Grew.app H [some (AObj.cells (cs.flatMap Cp))]).slice hv) rfl (AI s2) (by omega);refine⟨r,H8,a1,by rw[a3,Ag6,Ad0],?_⟩;rw[Ad0]at a4
 have:=g.1
 refine⟨by omega,λi hi=>?_⟩;rw[a5 i (by rw[Ad0];omega) (by simp only[AT,Ah0];omega),Ac3 (by omega),g.2 i hi]
theorem iO (w:Nat)(hw:w<256)(H:AH):∃r H',(Aa H' 1 r=some ((LN w).flatMap Cp,(LN w).length)∧Grew H H')∧BCall prog 17 [.lit (.int .u8 w),.lit (.int .u8 0),.lit (.int .u8 1)] H r H':=OB (by
 unfold Lq;refine bC_of (bW 0 H) ?_;refine bC_of (bW 1 H) ?_;have e1:Cv H 1 2 (Bg [(.lit (.string ⟨#[]⟩))] 2) [(0,1,S (Ay (SB 0))),(1,1,S (Ay (SB 1)))]=some (.sl H.length 0 2 1 (.ex 2),H++[some (.cells ([[97],[98]].flatMap Cp))]):=rfl;have r1:Aq .rem (.lit (.int .u8 (w:Int))) (.lit (.int .u8 4))=some (.lit (.int .u8 ((w % 4:Nat):Int))):=by rw[IA (by omega) (by omega)];rfl
 simp only[e1,A0,r1,zC,Cn];have g1:=Grew.app H [some (AObj.cells ([[97],[98]].flatMap Cp))]
 have s1:Aa (H++[some (AObj.cells ([[97],[98]].flatMap Cp))]) 1 (.sl H.length 0 2 1 (.ex 2))=some (([[97],[98]]:List Tx).flatMap Cp,([[97],[98]]:List Tx).length):=by
  rw[AA C6 (by simp[Cp])];rfl
 generalize (H++[some (AObj.cells ([[97],[98]].flatMap Cp))])=H5 at*;unfold LN
 by_cases c1:w % 4=1
 ·rw[if_pos c1]
  simp only[show(((w % 4:Nat):Int)=1)from by omega,zL];have e2:Cv H5 1 1 (Bg [(.lit (.string ⟨#[]⟩))] 1) [(0,1,(.lit (.string ⟨#[45,45,115,112,97,114,115,101,61,97,108,119,97,121,115]⟩)))]=some (.sl H5.length 0 1 1 (.ex 1),H5++[some (.cells ([Qa].flatMap Cp))]):=rfl;obtain⟨r,H',q1,q2,q3⟩:=nU (n:=1) (cs:=[Qa]) s1 rfl (by simp) (by omega);simp only[e2,A0,q1];exact⟨q2,g1.trans q3⟩
 rw[if_neg c1];simp only[show ¬(((w % 4:Nat):Int)=1)from by omega,zI]
 by_cases c2:w % 4=2
 ·rw[if_pos c2]
  simp only[show(((w % 4:Nat):Int)=2)from by omega,zL];have e2:Cv H5 1 1 (Bg [(.lit (.string ⟨#[]⟩))] 1) [(0,1,(.lit (.string ⟨#[45,45,115,112,97,114,115,101,61,110,101,118,101,114]⟩)))]=some (.sl H5.length 0 1 1 (.ex 1),H5++[some (.cells ([Zh].flatMap Cp))]):=rfl;obtain⟨r,H',q1,q2,q3⟩:=bY (cs:=[Zh]) H g1 (Ac6 _) s1 (by simp) (by simp);simp only[zB,Aj3]at q1;simp only[e2,A0,q1];exact⟨q2,q3⟩
 rw[if_neg c2];simp only[show ¬(((w % 4:Nat):Int)=2)from by omega,zI]
 by_cases c3:w % 4=3
 ·rw[if_pos c3]
  simp only[show(((w % 4:Nat):Int)=3)from by omega,zL];have e2:Cv H5 1 2 (Bg [(.lit (.string ⟨#[]⟩))] 2) [(0,1,(.lit (.string ⟨#[45,45,115,112,97,114,115,101,61,110,101,118,101,114]⟩))),(1,1,(.lit (.string ⟨#[45,45,115,112,97,114,115,101,61,97,117,116,111]⟩)))]=some (.sl H5.length 0 2 1 (.ex 2),H5++[some (.cells ([Zh,oG].flatMap Cp))]):=rfl;obtain⟨r,H',q1,q2,q3⟩:=bY (cs:=[Zh,oG]) H g1 (Ac6 _) s1 (by simp) (by simp);simp only[zB,Aj3,Nat.reduceAdd]at q1;simp only[e2,A0,q1];exact⟨q2,q3⟩
 rw[if_neg c3];simp only[show ¬(((w % 4:Nat):Int)=3)from by omega,zI];exact⟨s1,g1⟩)
def II (n:Int)(l:List Ext)(m:Int)(k:List Ext):bV:=([⟨[97],1⟩,⟨[98],2⟩],[⟨1,n,l⟩,⟨2,m,k⟩])
theorem VE {n m:Int}{l k:List Ext}(h:Ck n l)(h':Ck m k):MayW (II n l m k).1 (II n l m k).2:=by
 refine⟨by simp[II],?_,by simp only[II];decide,by simp only[II];decide,?_,?_,?_⟩
 ·intro x hx
  simp only[II,Ad8,List.not_mem_nil,or_false]at hx;rcases hx with rfl | rfl
  ·exact⟨by decide,by simp only;omega,by simp only;omega⟩
  ·exact⟨by decide,by simp only;omega,by simp only;omega⟩
 ·simp[II,BW,BX]
 ·intro d hd
  simp only[II,Ad8,List.not_mem_nil,or_false]at hd;rcases hd with rfl | rfl
  ·exact h
  ·exact h'
 ·intro i
  simp[II,AM]
theorem pI {n:Int}{l:List Ext}(h:Ck n l):B5 (G5 [97] n l).1 (G5 [97] n l).2 (DP [98] 2)=II n l 0 []:=by
 unfold B5;rw[if_pos (FH.2 (XJ (by decide) h)),if_pos (show(DP [98] 2).kind=1 from rfl),if_pos ⟨by simp[G5,AM,DP],by simp[G5,AM,DP],by decide,by simp[DP],by simp[DP],by simp[G5]⟩];rfl
theorem bN {n m m':Int}{l k k':List Ext}{o:OpM}(h:Ck n l)(h':Ck m k)(hk:o.kind=2∨o.kind=3∨o.kind=4∨o.kind=5)(hi:o.ino=2)(hc:O0 o ⟨2,m,k⟩=some (m',k')):B5 (II n l m k).1 (II n l m k).2 o=II n l m' k':=by
 unfold B5;rw[if_pos (FH.2 (VE h h')),if_neg (by omega),if_pos hk];have e1:ZT Nd.ino (II n l m k).2 o.ino=some ⟨2,m,k⟩:=by rw[hi];rfl
 have e2:CW BX Nd.ino (II n l m k).2 o.ino=1:=by rw[hi];rfl
 unfold Qq;rw[e1];simp only[hc,e2];rfl
structure TW (cap n:Int)(l:List Ext)(m:Int)(k:List Ext)(s:StS):Prop where
 now:s.now=II n l m k
 ca:Ck n l
 cb:Ck m k
 cap:s.cap=cap
 off:s.off=false
 armed:s.armed= -1
theorem UB {s:StS}(h:s.off=false)(h':s.armed= -1)(o:OpM):LR s o=(0,{s with now:=B5 s.now.1 s.now.2 o,pend:=s.pend++[o]}):=by
 have hd:Be s=(true,s):=by
  unfold Be;rw[if_neg (by rw[h,h'];simp),if_neg (by rw[h'];omega)]
 unfold LR;rw[hd];rfl
theorem TW.content {cap n m:Int}{l k:List Ext}{s:StS}(h:TW cap n l m k s):AB s 2=((m,k),0):=by
 have hg:O5 s.now.1 s.now.2 2:=by
  rw[h.now];exact⟨FH.2 (VE h.ca h.cb),by simp[II,AM]⟩
 unfold AB;rw[if_neg (by rw[h.off];simp),if_pos hg]
 have:E2 s.now.1 s.now.2 2=⟨2,m,k⟩:=by
  unfold E2;rw[if_pos hg,h.now];rfl
 rw[this]
theorem TW.get {cap n m:Int}{l k:List Ext}{s:StS}(h:TW cap n l m k s):O5 s.now.1 s.now.2 2∧E2 s.now.1 s.now.2 2=⟨2,m,k⟩:=by
 have hg:O5 s.now.1 s.now.2 2:=by
  rw[h.now];exact⟨FH.2 (VE h.ca h.cb),by simp[II,AM]⟩
 refine⟨hg,?_⟩;unfold E2;rw[if_pos hg,h.now];rfl
theorem TW.find {cap n m:Int}{l k:List Ext}{s:StS}(h:TW cap n l m k s):PC s.now.1 s.now.2 [98]∧JU s.now.1 s.now.2 [98]=2:=by
 have hg:PC s.now.1 s.now.2 [98]:=by
  rw[h.now];exact⟨FH.2 (VE h.ca h.cb),by simp[II,AM]⟩
 refine⟨hg,?_⟩;unfold JU;rw[if_pos hg,h.now];rfl
theorem ON.find {cap n:Int}{l:List Ext}{s:StS}(h:ON [97] cap n l s):EL s [97]=(1,0)∧EL s [98]=(0,3)∧¬PC s.now.1 s.now.2 [98]:=by
 refine⟨?_,?_,?_⟩
 ·unfold EL
  rw[if_neg (by rw[h.off];simp),if_neg (λq=>q (by decide)),if_pos (by rw[h.now];simp[G5,AM]),h.now];rfl
 ·unfold EL
  rw[if_neg (by rw[h.off];simp),if_neg (λq=>q (by decide)),if_neg (by rw[h.now];simp[G5,AM])]
 ·rintro⟨-,q⟩
  rw[h.now]at q;simp[G5,AM]at q
theorem ON.open2 {cap n:Int}{l:List Ext}{s:StS}(h:ON [97] cap n l s)(hm:s.made=1):∃s',AX s [98] true=((2,0),s')∧TW cap n l 0 [] s':=by
 unfold AX;rw[h.find.2.1,if_neg (by simp),if_neg (by rw[h.now];simp[G5]),UB h.off h.armed,if_neg (by simp),hm];exact⟨_,rfl,⟨by simp only[h.now];exact pI h.mc,h.mc,by decide,h.cap,h.off,h.armed⟩⟩
theorem TW.trunc {cap n m z:Int}{l k k':List Ext}{s:StS}(h:TW cap n l m k s)(hz:Cg (m,k) z=some (z,k'))(hk:Ck z k'):∃s',D9 s 2 z=(0,s')∧TW cap n l z k' s':=by
 unfold D9;rw[h.content,if_neg (by simp),if_neg (by rw[hz];simp),UB h.off h.armed];refine⟨_,rfl,⟨?_,h.ca,hk,h.cap,h.off,h.armed⟩⟩;simp only[h.now];refine bN h.ca h.cb (by simp[S7]) rfl ?_
 show(if(3:Int)=2 then _ else if(3:Int)=3 then Cg (m,k) z else _)=_
 rw[if_neg (by omega),if_pos rfl,hz]
theorem ON.truncR {cap n z:Int}{l k:List Ext}{s:StS}(h:ON [97] cap n l s)(hz:Cg (n,l) z=some (z,k))(hk:Ck z k):∃s',D9 s 1 z=(0,s')∧ON [97] cap z k s'∧s'.made=s.made:=by
 unfold D9;rw[h.content,if_neg (by simp),if_neg (by rw[hz];simp),UB h.off h.armed];refine⟨_,rfl,⟨?_,h.nm,hk,h.cap,h.off,h.armed⟩,rfl⟩;simp only[h.now];unfold B5;rw[if_pos (FH.2 (XJ h.nm h.mc)),if_neg (by simp[S7]),if_pos (by simp[S7])];have e1:ZT Nd.ino (G5 [97] n l).2 (S7 1 z).ino=some ⟨1,n,l⟩:=rfl;have e2:CW BX Nd.ino (G5 [97] n l).2 (S7 1 z).ino=0:=rfl
 have e3:O0 (S7 1 z) ⟨1,n,l⟩=some (z,k):=by
  show(if(3:Int)=2 then _ else if(3:Int)=3 then Cg (n,l) z else _)=_
  rw[if_neg (by omega),if_pos rfl,hz]
 unfold Qq;rw[e1];simp only[e3,e2];rfl
theorem LD {n z:Int}(h:0≤n)(h':n≤1099511627776)(k:0≤z)(k':z≤1099511627776):Cg (n,[]) z=some (z,[])∧Ck z []:=by
 have m:∀y:Int,0≤y→y≤1099511627776→Ck y []:=λy a b=>⟨a,b,trivial⟩
 refine⟨?_,m z k k'⟩;unfold Cg;rw[if_pos ⟨m n h h',k,k'⟩];rfl
theorem ON.cpOpen {cap n:Int}{l:List Ext}{s:StS}(h:ON [97] cap n l s)(hm:s.made=1):∃s',Cd s [98]=(0,2,s')∧TW cap n l 0 [] s':=by
 obtain⟨s1,e1,h1⟩:=h.open2 hm;obtain⟨t,m⟩:=LD (n:=0) (z:=0) (by omega) (by omega) (by omega) (by omega);obtain⟨s2,e2,h2⟩:=h1.trunc t m;unfold Cd;rw[e1];simp only[e2];exact⟨s2,rfl,h2⟩
theorem sI {cap n:Int}{s:StS}(h:ON [97] cap n [] s)(hm:s.made=1)(hn:32768<n)(hn':n≤1099511627776)(w:Nat):
  (w % 4=2∧VL s (LN w)=(4,s))∨(w % 4≠2∧∃s',VL s (LN w)=(0,s')∧TW cap n [] n [] s'):=by
 have e:VL s (LN w)=M3 (decide (EM (Ut w) (n,[]))) s [98] (n,[]):=by
  unfold VL;rw[Wu];simp only[dK,h.find.1];unfold Ih;rw[h.content];rfl
 rw[e]
 by_cases c:w % 4=2
 ·refine .inl ⟨c,?_⟩
  have:Ut w=PJ:=by unfold Ut;rw[if_neg (by omega),if_pos c]
  rw[this]
  have:¬EM PJ (n,[]):=by
   rintro(q | ⟨q,-⟩)
   ·exact absurd q (by decide)
   ·exact absurd q (by decide)
  unfold M3;rw[if_pos ⟨decide_eq_false this,hn⟩]
 ·refine .inr ⟨c,?_⟩
  have hh:EM (Ut w) (n,[]):=by
   unfold Ut EM
   by_cases c1:w % 4=1
   ·rw[if_pos c1];exact .inl rfl
   ·rw[if_neg c1,if_neg c]
    refine .inr ⟨rfl,?_⟩
    show((0:Nat):Int)<(n+7)/8
    omega
  rw[decide_eq_true hh];obtain⟨s1,e1,h1⟩:=h.cpOpen hm;obtain⟨t,m⟩:=LD (n:=0) (z:=n) (by omega) (by omega) (by omega) hn';obtain⟨s2,e2,h2⟩:=h1.trunc t m;unfold M3;rw[if_neg (by simp),e1];have e3:MY true 2 (n,[]) s1=(0,s1):=by unfold MY;rw[if_pos rfl];rfl
  simp only[e3,zO];exact⟨s2,e2,h2⟩
theorem Zp (H:AH)(e:Int):A9 H (.agg [(I 0),(.lit (.string ⟨#[]⟩)),(I 0),(I 0),(I 0),(I 0),(I 0)])=some (.ptr H.length 0,H++[some (.cells [I 0,S (Ay []),I 0,I 0,I 0,I 0,I 0])])∧AR 7 (H++[some (AObj.cells [I 0,S (Ay []),I 0,I 0,I 0,I 0,I 0])]) (.ptr H.length 0) (aV e)=some (H++[some (.cells [I e,S (Ay []),I 0,I 0,I 0,I 0,I 0])]):=by
 refine⟨rfl,?_⟩;unfold aV;rw[A8 (n:=7) (xs:=[I e,S (Ay []),I 0,I 0,I 0,I 0,I 0]) (cs:=[I 0,S (Ay []),I 0,I 0,I 0,I 0,I 0]) (by simp[BE,oneA]) C6 rfl (by simp)];simp[AN]
theorem Qs (H:AH)(z:Int){L:AV}(oL:oneA L=true):A9 H (.agg [(I 0),Ad])=some (.ptr H.length 0,H++[some (.cells [I 0,Ad])])∧AR 2 (H++[some (AObj.cells [I 0,Ad])]) (.ptr H.length 0) (.agg [I z,L])=some (H++[some (.cells [I z,L])]):=by
 refine⟨rfl,?_⟩;rw[A8 (n:=2) (xs:=[I z,L]) (cs:=[I 0,Ad]) (by simp[oL]) C6 rfl (by simp)];simp[AN]
end Go.Proofs.YtbppnhenlboefaaGreat.Av
end
section
set_option maxHeartbeats 1000000
namespace Go.Proofs.YtbppnhenlboefaaGreat.Av
open Go Go.RowKit
theorem TW.free {cap n m:Int}{l k:List Ext}{s:StS}(h:TW cap n l m k s):KY s=max 0 (cap - (l.length+k.length:Nat)):=by
 unfold KY;rw[h.cap,h.now];have:JE (II n l m k).2=l.length+k.length:=by simp[JE,II]
 rw[this]
theorem fO (f:Nat)(p u:Int):Co f p 0 u=[]:=by
 cases f with
 | zero=>rfl
 | succ f=>unfold Co;rw[if_neg (by omega)]
theorem Zr {no:Int}{c:Nat}(h:0≤no)(h2:no<137438953472)(h0:0<c)(h8:c≤8):DQ ⟨no*8,c⟩ 8=[⟨no*8,c⟩]:=by
 unfold DQ;rw[if_pos ⟨⟨by unfold May;simp only;omega,by unfold May;simp only;omega,by simp only;omega⟩,by simp only;omega,by omega⟩];obtain⟨d,rfl⟩:∃d,c=d+1:=⟨c - 1,by omega⟩
 show Co (((d+1:Nat):Int)).toNat (no*8) ((d+1:Nat):Int) 8=_
 rw[show(((d+1:Nat):Int)).toNat=d+1 by omega];unfold Co;rw[if_pos (by omega),show min ((d+1:Nat):Int) (8 - no*8 % 8)=((d+1:Nat):Int) by omega,show((d+1:Nat):Int) - ((d+1:Nat):Int)=0 by omega,fO]
theorem TW.wr {cap n m:Int}{l k:List Ext}{s:StS}(h:TW cap n l m k s){no size:Int}{b:List UInt8}(hno:0≤no)(hsz:no*8<size)(hs2:size≤1099511627776)(hb:b.length=8)(hf:Bm k no∨((l.length+k.length:Nat):Int)<cap):
  ∃s' k',ZG 2 size s no b=(0,s')∧TW cap n l (max m (min (no*8+8) size)) k' s'∧(∀p,Fa k' p=if no*8≤p∧p<min (no*8+8) size then b.getD (p - no*8).toNat 0 else Fa k p)∧(∀a,Bm k' a↔Bm k a∨a=no)∧k'.length≤k.length+1:=by
 have hk:=(FI.1 h.cb).2.2.1;obtain⟨c,hc⟩:∃c:Nat,min 8 (size - no*8)=c:=⟨(min 8 (size - no*8)).toNat,by omega⟩;have c0:0<c∧c≤8:=by omega
 have hmn:min (no*8+8) size=no*8+c:=by omega
 have hbs:(b.take c).length=c:=by rw[Ac4];omega
 have hne:b.take c≠[]:=by intro q;rw[q]at hbs;simp at hbs;omega
 have hw:DA (m,k) (no*8) (b.take c)=some (max m (no*8+c),Bt k (no*8) (b.take c)):=by
  unfold DA;rw[if_pos ⟨h.cb,by omega,by rw[hbs];omega,by rw[hbs];omega⟩,if_neg hne,hbs]
 have e1:ZG 2 size s no b=(0,{s with now:=B5 s.now.1 s.now.2 (In 2 (no*8) (b.take c)),pend:=s.pend++[In 2 (no*8) (b.take c)]}):=by
  unfold ZG BT;rw[hc,show((c:Int)).toNat=c by omega,h.content,if_neg (by simp),if_neg (λq=>q ⟨by omega,by rw[hbs];omega,by rw[hbs];omega⟩),hbs,Zr hno (by omega) c0.1 c0.2];unfold SI
  have hp:Ef (b.take c) (no*8) ⟨no*8,c⟩=b.take c:=by
   unfold Ef;simp only;rw[show(no*8 - no*8).toNat=0 by omega,Ae3,show((c:Int)).toNat=c by omega,Ac5 (by omega)]
  have hfr:¬(¬Bm k (no*8/8)∧KY s=0):=by
   rw[show no*8/8=no by omega,h.free];rintro⟨q1,q2⟩;rcases hf with q | q
   ·exact q1 q
   ·omega
  simp only;rw[if_neg hfr,hp,UB h.off h.armed,if_neg (by simp)];unfold SI;rfl
 refine⟨_,Bt k (no*8) (b.take c),e1,⟨?_,h.ca,?_,h.cap,h.off,h.armed⟩,?_,?_,?_⟩
 ·simp only[h.now]
  rw[hmn];refine bN h.ca h.cb (.inl rfl) rfl ?_
  show(if(2:Int)=2 then DA (m,k) (no*8) (b.take c)else _)=_
  rw[if_pos rfl,hw]
 ·rw[hmn];exact Of hw
 ·intro p
  rw[eF hk,hbs,hmn]
  by_cases q:no*8≤p∧p<no*8+c
  ·rw[if_pos q,if_pos q,Ad4,Ad4,List.getElem?_take_of_lt (by omega)]
  ·rw[if_neg q,if_neg q]
 ·intro a
  rw[Yc,hbs]
  constructor
  ·rintro(q | ⟨q,q1,q2,q3⟩)
   ·exact .inl q
   ·exact .inr (by omega)
  ·rintro(q | q)
   ·exact .inl q
   ·exact .inr ⟨no*8,by omega,by omega,by omega⟩
 ·exact PT hk (by rw[hbs];omega) hne
theorem IP {x:Ext}{l:List Ext}{a:Int}:Bm (x::l) a↔x.no=a∨Bm l a:=by
 unfold Bm;simp
theorem IY {x:Ext}{l:List Ext}{p:Int}:Fa (x::l) p=if x.no=p/8 then x.b.getD (p % 8).toNat 0 else Fa l p:=by
 unfold Fa;rw[List.find?_cons]
 by_cases c:x.no=p/8
 ·simp[c]
 ·simp[c]
theorem Ss {cap n size:Int}{l:List Ext}(hs2:size≤1099511627776):∀(L:List Ext) {m:Int} {k:List Ext} {s:StS},TW cap n l m k s→srt L→(∀x∈L,0≤x.no∧x.no*8<size∧x.b.length=8∧¬Bm k x.no)→((l.length+k.length+L.length:Nat):Int)≤cap→
  ∃s' m' k',Ik 2 size L s=(0,s')∧TW cap n l m' k' s'∧(∀p,p<size→Fa k' p=if Bm L (p/8)then Fa L p else Fa k p)∧(∀a,Bm k' a↔Bm k a∨∃x∈L,x.no=a∧¬J6 x.b)
 | [],m,k,s,h,_,_,_=>by
  refine⟨s,m,k,rfl,h,λp _=>?_,λa=>by simp⟩;rw[if_neg (by simp[Bm])]
 | x::L,m,k,s,h,hs,hx,hc=>by
  obtain⟨x1,x2,x3,x4⟩:=hx x (by simp);have hs':=Af1.1 hs
  have hLx:¬Bm L x.no:=by
   rintro⟨y,hy,e⟩
   have:=hs'.1 y hy;omega
  unfold Ik;rw[Ae2]at hc
  by_cases z:J6 x.b
  ·rw[if_pos z]
   obtain⟨s',m',k',e1,e2,e3,e4⟩:=Ss hs2 L h hs'.2 (λy hy=>hx y (by simp[hy])) (by omega);refine⟨s',m',k',e1,e2,λp hp=>?_,λa=>?_⟩
   ·rw[e3 p hp,IY]
    by_cases c:x.no=p/8
    ·have zz:x.b.getD (p % 8).toNat 0=0:=by
      rw[Ad4];cases hq:x.b[(p % 8).toNat]? with
      | none=>rfl
      | some y=>exact z y (Ac7 hq)
     rw[if_neg (by rw[← c];exact hLx),if_pos (IP.2 (.inl c)),if_pos c,zz];exact C9 (by rw[← c];exact x4)
    ·rw[if_neg c]
     by_cases d:Bm L (p/8)
     ·rw[if_pos d,if_pos (IP.2 (.inr d))]
     ·rw[if_neg d,if_neg (λq=>(IP.1 q).elim c d)]
   ·rw[e4]
    constructor
    ·rintro(q | ⟨y,hy,q⟩)
     ·exact .inl q
     ·exact .inr ⟨y,by simp[hy],q⟩
    ·rintro(q | ⟨y,hy,q1,q2⟩)
     ·exact .inl q
     ·rcases Ad8.1 hy with rfl | hy
      ·exact absurd z q2
      ·exact .inr ⟨y,hy,q1,q2⟩
  ·rw[if_neg z]
   obtain⟨s1,k1,w1,w2,w3,w4,w5⟩:=h.wr x1 x2 hs2 x3 (.inr (by omega));rw[w1];simp only[zO]
   obtain⟨s',m',k',e1,e2,e3,e4⟩:=Ss hs2 L w2 hs'.2 (λy hy=>by
    obtain⟨y1,y2,y3,y4⟩:=hx y (by simp[hy]);refine⟨y1,y2,y3,λq=>?_⟩
    have:=hs'.1 y hy
    rcases(w4 _).1 q with q | q
    ·exact y4 q
    ·omega) (by omega)
   refine⟨s',m',k',e1,e2,λp hp=>?_,λa=>?_⟩
   ·rw[e3 p hp,IY,w3]
    by_cases c:x.no=p/8
    ·rw[if_neg (by rw[← c];exact hLx),if_pos (IP.2 (.inl c)),if_pos c,if_pos ⟨by omega,by omega⟩,show p - x.no*8=p % 8 by omega]
    ·rw[if_neg c,if_neg (show ¬(x.no*8≤p∧p<min (x.no*8+8) size) by omega)]
     by_cases d:Bm L (p/8)
     ·rw[if_pos d,if_pos (IP.2 (.inr d))]
     ·rw[if_neg d,if_neg (λq=>(IP.1 q).elim c d)]
   ·rw[e4,w4]
    constructor
    ·rintro((q | q) | ⟨y,hy,q⟩)
     ·exact .inl q
     ·exact .inr ⟨x,by simp,q.symm,z⟩
     ·exact .inr ⟨y,by simp[hy],q⟩
    ·rintro(q | ⟨y,hy,q1,q2⟩)
     ·exact .inl (.inl q)
     ·rcases Ad8.1 hy with rfl | hy
      ·exact .inl (.inr q1.symm)
      ·exact .inr ⟨y,hy,q1,q2⟩
theorem nF (i:Nat):z8.getD i 0=0:=by
 rw[Ad4];cases hq:z8[i]? with
 | none=>rfl
 | some y=>
  have:=Ac7 hq
  have h:∀y∈z8,y=0:=by decide
  exact h y this
theorem pL {no:Int}{L:List Ext}(hs:srt L)(hL:∀x∈L,no≤x.no):(∀p,p/8=no→(Ix no L).1.getD (p % 8).toNat 0=Fa L p)∧(∀p,no<p/8→Fa (Ix no L).2 p=Fa L p)∧srt (Ix no L).2∧(∀x∈(Ix no L).2,no+1≤x.no∧x∈L):=by
 unfold Ix;cases L with
 | nil=>exact⟨λp _=>(nF _).trans rfl,λp _=>rfl,hs,by simp⟩
 | cons x L=>
  have hs':=Af1.1 hs;simp only
  by_cases c:x.no=no
  ·rw[if_pos c]
   refine⟨λp hp=>?_,λp hp=>?_,hs'.2,λy hy=>⟨by have:=hs'.1 y hy;omega,by simp[hy]⟩⟩
   ·rw[IY,if_pos (by omega)]
   ·rw[IY,if_neg (by omega)]
  ·rw[if_neg c]
   have hx:=hL x (by simp);refine⟨λp hp=>?_,λp hp=>rfl,hs,λy hy=>⟨?_,hy⟩⟩
   ·rw[nF,C9]
    rintro⟨y,hy,e⟩;rcases Ad8.1 hy with rfl | hy
    ·omega
    ·have:=hs'.1 y hy;omega
   ·rcases Ad8.1 hy with rfl | hy
    ·omega
    ·have:=hs'.1 y hy;omega
theorem cD {cap n size:Int}{l:List Ext}(hs2:size≤1099511627776):∀(c:Nat) {no m:Int} {L k:List Ext} {s:StS},TW cap n l m k s→srt L→(∀x∈L,no≤x.no)→0≤no→(c=0∨(no+c - 1)*8<size)→((l.length+k.length+c:Nat):Int)≤cap→
  ∃s' m' k',TC 2 size c no L s=(0,s')∧TW cap n l m' k' s'∧(∀p,p<size→Fa k' p=if no*8≤p∧p<(no+c)*8 then Fa L p else Fa k p)∧(∀a,Bm k' a↔Bm k a∨(no≤a∧a<no+c))
 | 0,no,m,L,k,s,h,_,_,_,_,_=>⟨s,m,k,rfl,h,λp _=>by rw[if_neg (by omega)],λa=>⟨.inl,λq=>q.elim id λq=>by omega⟩⟩
 | c+1,no,m,L,k,s,h,hs,hL,hno,hsz,hc=>by
  obtain⟨p1,p2,p3,p4⟩:=pL hs hL;unfold TC;obtain⟨s1,k1,w1,w2,w3,w4,w5⟩:=h.wr (b:=(Ix no L).1) hno (by omega) hs2 (Oq no L) (.inr (by omega));rw[w1];simp only[zO];obtain⟨s',m',k',e1,e2,e3,e4⟩:=cD hs2 c w2 p3 (λx hx=>(p4 x hx).1) (by omega) (by omega) (by omega);refine⟨s',m',k',e1,e2,λp hp=>?_,λa=>?_⟩
  ·rw[e3 p hp,w3]
   by_cases q1:p/8=no
   ·rw[if_neg (by omega),if_pos ⟨by omega,by omega⟩,if_pos ⟨by omega,by omega⟩,show p - no*8=p % 8 by omega,p1 p q1]
   ·by_cases q2:(no+1)*8≤p∧p<(no+1+c)*8
    ·rw[if_pos q2,if_pos ⟨by omega,by omega⟩,p2 p (by omega)]
    ·rw[if_neg q2,if_neg (show ¬(no*8≤p∧p<min (no*8+8) size) by omega),if_neg (by omega)]
  ·rw[e4,w4]
   constructor
   ·rintro((q | q) | q)
    ·exact .inl q
    ·exact .inr (by omega)
    ·exact .inr (by omega)
   ·rintro(q | q)
    ·exact .inl (.inl q)
    ·by_cases a=no
     ·exact .inl (.inr (by omega))
     ·exact .inr (by omega)
theorem cY:∀(c:Nat) {a:Int} {l:List Ext},srt l→(∀no,Bm l no↔a≤no∧no<a+c)→l.length=c
 | 0,a,[],_,_=>rfl
 | 0,a,x::l,_,h=>by have:=(h x.no).1 ⟨x,by simp,rfl⟩;omega
 | c+1,a,[],_,h=>by
  obtain⟨y,hy,_⟩:=(h a).2 (by omega);simp at hy
 | c+1,a,x::l,hs,h=>by
  have hs':=Af1.1 hs;have hx:=(h x.no).1 ⟨x,by simp,rfl⟩
  have e:x.no=a:=by
   obtain⟨y,hy,e⟩:=(h a).2 (by omega);rcases Ad8.1 hy with rfl | hy
   ·exact e
   ·have:=hs'.1 y hy;omega
  rw[Ae2,cY c (a:=a+1) hs'.2 λno=>?_]
  constructor
  ·rintro⟨y,hy,q⟩
   have:=hs'.1 y hy
   have:=(h no).1 ⟨y,by simp[hy],q⟩
   omega
  ·intro q
   obtain⟨y,hy,r⟩:=(h no).2 (by omega);rcases Ad8.1 hy with rfl | hy
   ·omega
   ·exact⟨y,hy,r⟩
theorem Gs {size:Int}:∀{l:List Ext},srt l→∀x,x∈BD size l↔x∈l∧x.no*8<size
 | [],_,x=>by simp[BD]
 | y::l,hs,x=>by
  have hs':=Af1.1 hs;unfold BD
  split
  ·rename_i c
   rw[Ad8,Gs hs'.2 x,Ad8]
   constructor
   ·rintro(rfl | q)
    ·exact⟨.inl rfl,c⟩
    ·exact⟨.inr q.1,q.2⟩
   ·rintro⟨rfl | q,r⟩
    ·exact .inl rfl
    ·exact .inr ⟨q,r⟩
  ·rename_i c
   constructor
   ·intro q;simp at q
   ·rintro⟨q,r⟩
    rcases Ad8.1 q with rfl | q
    ·exact absurd r c
    ·have:=hs'.1 x q;omega
theorem RV {size:Int}:∀{l:List Ext},srt l→srt (BD size l)
 | [],h=>h
 | y::l,hs=>by
  have hs':=Af1.1 hs;unfold BD
  split
  ·exact Af1.2 ⟨λx hx=>hs'.1 x ((Gs hs'.2 x).1 hx).1,RV hs'.2⟩
  ·exact List.Pairwise.nil
theorem Uz {size:Int}{l:List Ext}(hs:srt l){p:Int}(h:p<size):Fa (BD size l) p=Fa l p:=by
 induction l with
 | nil=>rfl
 | cons y l ih=>
  have hs':=Af1.1 hs;unfold BD
  split
  ·rw[IY,IY,ih hs'.2]
  ·rename_i c
   show(0:UInt8)=_
   rw[C9];rintro⟨x,hx,e⟩;rcases Ad8.1 hx with rfl | hx
   ·omega
   ·have:=hs'.1 x hx;omega
theorem pR {cap n:Int}{l:List Ext}{s s1:StS}{hl:Bool}(h0:Cd s [98]=(0,2,s1))(h:TW cap n l 0 [] s1)(h8:∀x∈l,x.b.length=8)(hn:hl=true∨n≤32768)(hr:((l.length:Nat):Int)+(if hl=true then((BD n l).length:Int)else EJ n)≤cap):
  ∃s' k,M3 hl s [98] (n,l)=(0,s')∧TW cap n l n k s'∧(∀p,p<n→Fa k p=Fa l p)∧(hl=true→∀x∈k,¬J6 x.b)∧(hl=false→(k.length:Int)=EJ n):=by
 obtain⟨n0,n1,sl,sb,sz⟩:=FI.1 h.ca
 have key:∃s2 m2 k2,MY hl 2 (n,l) s1=(0,s2)∧TW cap n l m2 k2 s2∧(∀p,p<n→Fa k2 p=Fa l p)∧(hl=true→∀a,Bm k2 a→∃x∈l,x.no=a∧x.no*8<n∧¬J6 x.b)∧(hl=false→∀a,Bm k2 a↔0≤a∧a<EJ n):=by
  unfold MY;cases hl with
  | true=>
   simp only[if_true]at hr⊢
   obtain⟨s2,m2,k2,e1,e2,e3,e4⟩:=Ss n1 (BD n l) h (RV sl) (λx hx=>by
    obtain⟨x1,x2⟩:=(Gs sl x).1 hx;exact⟨(sb x.no ⟨x,x1,rfl⟩).1,x2,h8 x x1,by simp[Bm]⟩) (by simp only[Ai1];omega)
   refine⟨s2,m2,k2,e1,e2,λp hp=>?_,λ_ a ha=>?_,λq=>by cases q⟩
   ·rw[e3 p hp,Uz sl hp]
    split
    ·rfl
    ·rename_i q
     rw[← Uz sl hp,C9 q];rfl
   ·rcases(e4 a).1 ha with q | ⟨x,hx,q1,q2⟩
    ·simp[Bm]at q
    ·obtain⟨x1,x2⟩:=(Gs sl x).1 hx
     exact⟨x,x1,q1,x2,q2⟩
  | false=>
   simp only[An]at hr⊢;have hc0:0≤EJ n:=by unfold EJ;omega
   obtain⟨s2,m2,k2,e1,e2,e3,e4⟩:=cD n1 (EJ n).toNat h (RV sl) (no:=0) (λx hx=>(sb x.no ⟨x,((Gs sl x).1 hx).1,rfl⟩).1) (by omega) (by unfold EJ;omega) (by simp only[Ai1];omega);refine⟨s2,m2,k2,e1,e2,λp hp=>?_,λq=>(by cases q),λ_ a=>?_⟩
   ·rw[e3 p hp,Uz sl hp]
    split
    ·rfl
    ·rename_i q
     have:p<0:=by
      unfold EJ at q;omega
     have e:¬Bm l (p/8):=λz=>by have:=(sb _ z).1;omega
     rw[C9 e];rfl
   ·rw[e4]
    constructor
    ·rintro(q | q)
     ·simp[Bm]at q
     ·omega
    ·intro q;exact .inr (by omega)
 obtain⟨s2,m2,k2,e1,e2,e3,e4,e5⟩:=key
 have tz:Cg (m2,k2) n=some (n,Dq k2 n):=by
  unfold Cg;rw[if_pos ⟨e2.cb,n0,n1⟩]
 have hk2:=FI.1 e2.cb;have lt2:∀no,Bm k2 no→no<137438953472:=λno q=>(hk2.2.2.2.1 no q).2
 have mz:Ck n (Dq k2 n):=by
  refine FI.2 ⟨n0,n1,VD hk2.2.2.1 n,λno q=>hk2.2.2.2.1 no (VC.1 q).1,λp hp=>?_⟩;rw[eC hk2.2.2.1 lt2,if_neg (by omega)]
 obtain⟨s3,t1,t2⟩:=e2.trunc tz mz;have at3:∀p,p<n→Fa (Dq k2 n) p=Fa l p:=λp hp=>by rw[eC hk2.2.2.1 lt2,if_pos hp,e3 p hp]
 refine⟨s3,Dq k2 n,?_,t2,at3,λq x hx=>?_,λq=>?_⟩
 ·unfold M3
  rw[if_neg (λq=>hn.elim (λc=>by rw[c]at q;cases q.1) (λc=>by have:=q.2;simp only at this;omega)),h0];simp only[e1,zO];exact t1
 ·have hx':Bm (Dq k2 n) x.no:=⟨x,hx,rfl⟩
  obtain⟨y,y1,y2,y3,y4⟩:=e4 q x.no (VC.1 hx').1;intro z;refine y4 λc hc=>?_
  obtain⟨i,hi,e⟩:=List.mem_iff_getElem.1 hc;have h8y:=h8 y y1
  have hat:∀{L:List Ext} {w:Ext},srt L→w∈L→∀i:Nat,i<8→Fa L (w.no*8+i)=w.b.getD i 0:=by
   intro L
   induction L with
   | nil=>intro w _ q;simp at q
   | cons u L ih=>
    intro w hs q i hi;have hs':=Af1.1 hs;rw[IY];rcases Ad8.1 q with rfl | q
    ·rw[if_pos (by omega),show((w.no*8+(i:Int)) % 8).toNat=i by omega]
    ·have:=hs'.1 w q
     rw[if_neg (by omega),ih hs'.2 q i hi]
  have a1:=hat sl y1 i (by omega);have a2:=hat (VD hk2.2.2.1 n) hx i (by omega)
  have bx:x.b.getD i 0=0:=by
   rw[Ad4];cases hq:x.b[i]? with
   | none=>rfl
   | some u=>exact z u (Ac7 hq)
  have:y.b.getD i 0=c:=by rw[Ad4,Ea hi,e];rfl
  rw[← this,← a1,y2]
  by_cases g:x.no*8+(i:Int)<n
  ·rw[← at3 _ g,a2,bx]
  ·exact sz _ (by omega)
 ·have hh:∀no,Bm (Dq k2 n) no↔0≤no∧no<0+((EJ n).toNat:Int):=λno=>by
   rw[VC,e5 q];unfold EJ;omega
  rw[cY (EJ n).toNat (VD hk2.2.2.1 n) hh];unfold EJ;omega
end Go.Proofs.YtbppnhenlboefaaGreat.Av
end
section
set_option maxHeartbeats 1000000
namespace Go.Proofs.YtbppnhenlboefaaGreat.Av
open Go Go.RowKit
theorem TW.do {cap n m:Int}{l k:List Ext}{s:StS}(h:TW cap n l m k s){p:Int}{bs:List UInt8}(hb:bs≠[])(hp:0≤p)(hlen:bs.length≤4096)(hf:p≤1099511627776 - bs.length):
  (LR s (In 2 p bs)).1=0∧TW cap n l (max m (p+bs.length)) (Bt k p bs) (LR s (In 2 p bs)).2:=by
 have hw:DA (m,k) p bs=some (max m (p+bs.length),Bt k p bs):=by
  unfold DA;rw[if_pos ⟨h.cb,hp,hlen,hf⟩,if_neg hb]
 rw[UB h.off h.armed];refine⟨rfl,?_,h.ca,Of hw,h.cap,h.off,h.armed⟩;simp only[h.now];refine bN h.ca h.cb (.inl rfl) rfl ?_
 show(if(2:Int)=2 then DA (m,k) p bs else _)=_
 rw[if_pos rfl,hw]
theorem TW.cuts {cap n:Int}{l c:List Ext}{pos:Int}{b:List UInt8}(hpos:0≤pos)(hbl:b.length≤4096)(hf:pos≤1099511627776 - b.length):∀(f j:Nat) {m:Int} {k:List Ext} {s:StS},j≤b.length→b.length - j≤f→TW cap n l m k s→((l.length+k.length+(b.length - j):Nat):Int)≤cap→
  ∃s',SI c 2 pos b (Co f (pos+j) (b.length - j:Nat) 8) s=(((b.length:Int),0),s')∧∃m' k',TW cap n l m' k' s'∧k'=Bt k (pos+j) (b.drop j)∧m'=(if b.length - j=0 then m else max m (pos+b.length))∧k'.length≤k.length+(b.length - j)
 | 0,j,m,k,s,hk,hfk,h,hc=>by
  have e:b.drop j=[]:=Ad9 (by omega);refine⟨s,by simp[Co,SI],m,k,h,by rw[e];rfl,by rw[if_pos (by omega)],by omega⟩
 | f+1,j,m,k,s,hk,hfk,h,hc=>by
  by_cases h0:b.length - j=0
  ·have e:b.drop j=[]:=Ad9 (by omega)
   refine⟨s,?_,m,k,h,by rw[e];rfl,by rw[if_pos h0],by omega⟩;unfold Co;rw[if_neg (by omega)];unfold SI;rfl
  ·have m1:=Ak2 (pos+j) (show(0:Int)<8 by omega)
   have m2:=Al8 (pos+j) (show(8:Int)≠0 by omega);obtain⟨u,hu⟩:∃u:Nat,min ((b.length - j:Nat):Int) (8 - (pos+j) % 8)=u:=⟨(min ((b.length - j:Nat):Int) (8 - (pos+j) % 8)).toNat,by omega⟩;have n1:0<u∧u≤8∧u≤b.length - j:=by omega
   unfold Co;rw[if_pos (by omega),hu]
   have hpb:Ef b pos ⟨pos+j,u⟩=(b.drop j).take u:=by
    unfold Ef;simp only;rw[show(pos+j - pos).toNat=j by omega,show((u:Int)).toNat=u by omega]
   have hbs:((b.drop j).take u).length=u:=by rw[Ac4,Ad1];omega
   have hne:(b.drop j).take u≠[]:=by intro q;rw[q]at hbs;simp at hbs;omega
   obtain⟨d1,d2⟩:=h.do hne (p:=pos+j) (by omega) (by omega) (by omega);unfold SI;rw[if_neg (λq=>by have:=h.free;omega),hpb];simp only;rw[if_neg (by rw[d1];simp)];rw[hbs]at d2;have hl1:=PT (FI.1 h.cb).2.2.1 (p:=pos+j) (bs:=(b.drop j).take u) (by omega) hne;obtain⟨s',w1,m',k',w2,w3,w4,w5⟩:=TW.cuts (c:=c) hpos hbl hf f (j+u) (by omega) (by omega) d2 (by omega);refine⟨s',?_,m',k',w2,?_,?_,by omega⟩
   ·rw[show pos+(j:Int)+u=pos+(j+u:Nat) by omega,show((b.length - j:Nat):Int) - u=(b.length - (j+u):Nat) by omega]
    exact w1
   ·rw[w3]
    conv=>rhs;rw[← Ag0 u (b.drop j)]
    rw[Yb,hbs,Ah1]
    congr 1
    omega
   ·rw[w4,if_neg h0]
    split<;>omega
theorem TW.write {cap n m pos:Int}{l k:List Ext}{s:StS}{b:List UInt8}(h:TW cap n l m k s)(hpos:0≤pos)(hbl:b.length≤4096)(hf:pos≤1099511627776 - b.length)(hc:((l.length+k.length+b.length:Nat):Int)≤cap):
  ∃s',BT s 2 pos b=(((b.length:Int),0),s')∧∃m' k',TW cap n l m' k' s'∧k'=Bt k pos b∧m'=(if b.length=0 then m else max m (pos+b.length))∧k'.length≤k.length+b.length:=by
 unfold BT;rw[h.content,if_neg (by simp),if_neg (λq=>q ⟨hpos,hbl,hf⟩)]
 have e:DQ ⟨pos,b.length⟩ 8=Co (b.length) pos b.length 8:=by
  unfold DQ;rw[if_pos ⟨⟨by unfold May;simp only;omega,by unfold May;simp only;omega,by simp only;omega⟩,by simp only;omega,by omega⟩]
  show Co ((b.length:Int)).toNat pos b.length 8=_
  rw[show((b.length:Int)).toNat=b.length by omega]
 rw[e]
 have:=TW.cuts (c:=k) hpos hbl hf b.length 0 (by omega) (by omega) h (by omega)
 simpa using this
theorem TW.pcs {cap n:Int}{l:List Ext}:∀(L:List (List UInt8)) {m at' sum:Int} {k:List Ext} {s:StS},TW cap n l m k s→(∀b∈L,b.length≤4096)→0≤at'→at'+Hq L≤1000000→((l.length+k.length+Hq L:Nat):Int)≤cap→
  ∃s' m' k' a u,Av.pcs 2 L s at' sum=((s',a,u),0)∧TW cap n l m' k' s'∧k'.length≤k.length+Hq L
 | [],m,at',sum,k,s,h,_,_,_,_=>⟨s,m,k,at',sum,rfl,h,by omega⟩
 | b::r,m,at',sum,k,s,h,hb,ha,hl,hc=>by
  have eL:Hq (b::r)=b.length+Hq r:=by simp[Hq]
  rw[eL]at hl hc;have hb1:=hb b (by simp);obtain⟨s1,e1,m1,k1,t1,-,-,t2⟩:=h.write (pos:=at') ha hb1 (by omega) (by omega);unfold Av.pcs;rw[e1,if_pos rfl];obtain⟨s',m',k',a,u,w1,w2,w3⟩:=TW.pcs r (at':=at'+b.length) (sum:=sum+b.length) t1 (λx hx=>hb x (by simp[hx])) (by omega) (by omega) (by omega);exact⟨s',m',k',a,u,w1,w2,by omega⟩
theorem TW.sync {cap n m:Int}{l k:List Ext}{s:StS}(h:TW cap n l m k s)(L:List Int):∃s',T6 s L=(0,s')∧TW cap n l m k s':=by
 have hd:Be s=(true,s):=by
  unfold Be;rw[if_neg (by rw[h.off,h.armed];simp),if_neg (by rw[h.armed];omega)]
 unfold T6;rw[hd];exact⟨_,rfl,h.now,h.ca,h.cb,h.cap,h.off,h.armed⟩
theorem pQ {cap n:Int}{l:List Ext}{s:StS}(h:ON [97] cap n l s)(hm:s.made=1){L:List (List UInt8)}(hb:∀b∈L,b.length≤4096)(hl:Hq L≤900000)(hc:((l.length+Hq L:Nat):Int)≤cap):
  ∃s' m k,XO s [98] L=(0,s')∧TW cap n l m k s'∧k.length≤Hq L:=by
 obtain⟨s1,e1,h1⟩:=h.open2 hm;obtain⟨t,mz⟩:=LD (n:=0) (z:=0) (by omega) (by omega) (by omega) (by omega);obtain⟨s2,e2,h2⟩:=h1.trunc t mz;obtain⟨s3,m3,k3,a,u,e3,h3,l3⟩:=TW.pcs L (at':=0) (sum:=0) h2 hb (by omega) (by omega) (by simpa using hc);obtain⟨s4,e4,h4⟩:=h3.sync [2];refine⟨s4,m3,k3,?_,h4,by simpa using l3⟩;unfold XO;rw[e1];simp only[zO,e2,e3,e4]
theorem ZD {c:List Ext}{ino pos:Int}{b:List UInt8}:∀{l:List Sp} {s:StS},(SI c ino pos b l s).2.made=s.made
 | [],s=>rfl
 | q::r,s=>by
  have hd:∀o,(LR s o).2.made=s.made:=λo=>by
   obtain⟨-,-,-,q4,-⟩:=Hi s;unfold LR;split<;>exact q4
  unfold SI
  split
  ·rfl
  ·split
   ·exact hd _
   ·rw[ZD,hd]
theorem ZE (s:StS)(ino pos:Int)(b:List UInt8):(BT s ino pos b).2.made=s.made:=by
 unfold BT
 split
 ·rfl
 ·split
  ·rfl
  ·exact ZD
theorem iK {l:List Ext}{z:Int}:(Dq l z).length≤l.length:=by
 unfold Dq Pw;rw[Af2];exact Ai5 _ _
theorem Xb {n z:Int}{l:List Ext}(h:Ck n l)(h0:0≤z)(h1:z≤1099511627776):Cg (n,l) z=some (z,Dq l z)∧Ck z (Dq l z):=by
 have hk:=FI.1 h;refine⟨?_,FI.2 ⟨h0,h1,VD hk.2.2.1 z,λno q=>hk.2.2.2.1 no (VC.1 q).1,λp hp=>?_⟩⟩
 ·unfold Cg
  rw[if_pos ⟨h,h0,h1⟩]
 ·rw[eC hk.2.2.1 (λno q=>(hk.2.2.2.1 no q).2),if_neg (by omega)]
end Go.Proofs.YtbppnhenlboefaaGreat.Av
end
section
set_option maxHeartbeats 1000000
namespace Go.Proofs.YtbppnhenlboefaaGreat.Av
open Go Go.RowKit Go.Proofs.Tryz
theorem pJ:(AX (Li 600) [97] true).1=(1,0)∧ON [97] 600 0 [] (AX (Li 600) [97] true).2∧(AX (Li 600) [97] true).2.made=1:=by
 refine⟨rfl,⟨by decide,by decide,by decide,rfl,rfl,rfl⟩,rfl⟩
theorem tD (H:AH)(x:Ext)(t:List AV):LO 8 1 H (.ip (AF x.b++t)) none none=some (.imm (AF x.b) 8 1)∧Aa H 1 (.imm (AF x.b) 8 1)=some (AF x.b,x.b.length):=by
 have hl:(AF x.b).length=8:=by rw[B9,x.hb]
 constructor
 ·show some (AV.imm (((AF x.b++t).drop (0*1)).take ((8 - 0)*1)) (8 - 0) 1)=_
  rw[An8,Ae3,Ad7 (by omega),Ac5 (by omega)]
 ·rw[x.hb];simp[Aa,hl]
theorem tL {l:List Ext}{n:Nat}{R v:AV}{A:List UInt8}(hR:SV As 9 l R)(hn:n<500)(hl:l.length≤30)(hno:∀x∈l,0≤x.no∧x.no≤90)(hv:SV J9 1 A v)(hA:A.length≤200)(H:AH):
  ACalls prog 15 [I 600,.agg [I n,R],v] H λr H'=>∃os s m l' k p,r=.tup [.ptr os 0,B true]∧StAt s os p H'∧TW 600 n l' m k s∧l'.length≤240∧SW 10000 s:=by
 refine OD ?_;unfold Ht;have oR:=SV.oneA hR;have e0:A9 H (.agg [I n,R])=some (.ptr H.length 0,H++[some (.cells [I n,R])]):=by simp[oR]
 simp only[e0,A0];have top:=C6 (H:=H) (x:=AObj.cells [I n,R]);obtain⟨r,H1,⟨p,rfl,ll1,st0,g0,hid⟩,hc⟩:=iU 600 (H++[some (.cells [I n,R])]) (by omega);refine bC_of hc ?_;have lH:(H++[some (AObj.cells [I n,R])]).length=H.length+1:=by simp
 have cb:Bes H.length [I n,R] (H++[some (AObj.cells [I n,R])]).length p H1:=⟨g0.cells top,by omega,by rw[hid];simp⟩;clear g0 hc top;generalize (H++[some (AObj.cells [I n,R])]).length=os at*;generalize H.length=co at*;have n1:VM .eql S6 (.ptr os 0) (.lit (.pointer none))=some (B false):=rfl;simp only[n1,zC,Aj];obtain⟨r,H2,⟨rfl,p2,st2,f2⟩,hc⟩:=Uk st0 (S5 600) (by omega) (name:=[97]) (by simp) true;refine bC_of hc ?_;have w2:=Om (S5 600) [97] true;obtain⟨o1,o2,o3⟩:=pJ;have cb2:=cb.step f2;clear hc;generalize AX (Li 600) [97] true=O at*;rw[o1];simp only[zU,Ab];refine Kz (λm x2 x4 x8 x9 x10 x11 H'=>∃(k:Nat) (s':StS) (p':AV) (size':Int) (l':List Ext),k+m=l.length∧v=x2∧x4=.ptr co 0∧x8=.ptr os 0∧x9=I 1∧x10=I 0∧x11=I k∧StAt s' os p' H'∧Bes co [I n,R] os p' H'∧ON [97] 600 size' l' s'∧s'.made=1∧l'.length≤8*k∧SW (10+72*k) s') ?_ l.length
  ⟨0,O.2,p2,0,[],by omega,rfl,rfl,rfl,rfl,rfl,rfl,st2,cb2,o2,o3,by simp,w2.mono (by omega)⟩
 rintro m x2 x4 x8 x9 x10 x11 H3 RR hRR ⟨k,s',p',size',l',hk,rfl,rfl,rfl,rfl,rfl,rfl,st3,cb3,on3,md3,ln3,w3⟩;unfold Hb;simp only[zQ,Ak cb3.at',hR.len,Bi];rcases Ac9 k l.length with hlt | hge
 ·have hx:=Ea hlt
  generalize l[k]=x at hx;obtain⟨n2,n3⟩:=hno x (Ac7 hx);have i0:∀t,(As x++t)[0]?=some (I x.no):=λ_=>rfl
  have i1:∀t,(As x++t).drop 1=AF x.b++t:=λ_=>rfl
  obtain⟨b1,b2⟩:=tD H3 x ((l.drop (k+1)).flatMap As);simp only[show(k:Int)<(l.length:Int) by omega,zE,zW,yZ,zC,Cn,Ao,hR.idx Az hx rfl,Ww,Py,Ae3,Ah,i0,i1,Ek (a:=x.no) (b:=8) (by omega) (by omega),b1];obtain⟨r,H4,⟨rfl,p4,st4,f4⟩,hc⟩:=Xg st3 w3 1 (x.no*8) (b:=x.b) (by rw[x.hb];omega) b2 (by simp[AT]);refine bC_of hc ?_;obtain⟨s4,e4,sz4,l4,on4,-,-,ln4⟩:=on3.write (pos:=x.no*8) (b:=x.b) (by omega) (by rw[x.hb];omega) (by rw[x.hb];omega) (by rw[x.hb];omega);have w4:=RG w3 1 (x.no*8) x.b;have m4:=ZE s' 1 (x.no*8) x.b;rw[e4]at st4 w4 m4⊢;rw[x.hb]at ln4 w4;simp only[zU,Ab,Ax (a:=(k:Int)) (b:=1) (by omega) (by omega)];refine hRR (m - 1) _ _ _ _ _ _ _ (by omega) ⟨k+1,s4,p4,sz4,l4,by omega,rfl,rfl,rfl,rfl,rfl,by simp,st4,cb3.step f4,on4,m4.trans md3,by omega,w4.mono (by omega)⟩
 ·simp only[show ¬(k:Int)<(l.length:Int) by omega,zI,zW,show((false==true)=false)from rfl,Cq,zC,An]
  obtain⟨r,H4,⟨rfl,p4,st4,f4⟩,hc⟩:=PU st3 w3 (by omega) 1 n;refine bC_of hc ?_;obtain⟨tz,mz⟩:=Xb on3.mc (z:=n) (by omega) (by omega);obtain⟨s4,e4,on4,md4⟩:=on3.truncR tz mz;have w4:=LC w3 1 n;rw[e4]at st4 w4⊢;have hv1:=hv.oneA;have e5:Cv H4 1 1 (Bg [Ad] 1) [(0,1,v)]=some (.sl H4.length 0 1 1 (.ex 1),H4++[some (.cells [v])]):=Wp hv1;simp only[Cn,zE,zX,zW,yZ,e5,A0];have g5:=Grew.app H4 [some (AObj.cells [v])];have iv:=hv.noId;have lo:=st4.os_lt;have lp:=st4.p_lt;obtain⟨cA1,cA2,cA3⟩:=Qr (bl:=[(v,A)]) (by simp;omega);have fA:(([(v,A)]:List (AV×List UInt8)).map Prod.snd).flatten=A:=by simp
  rw[fA]at cA1 cA3;have tl:=iK (l:=l') (z:=(n:Int));obtain⟨s5,m5,k5,e6,t6,-⟩:=pQ on4 (md4.trans md3) (L:=([(v,A)]:List (AV×List UInt8)).flatMap λx=>Cf x.2) cA2 (by omega) (by rw[cA3];omega);have w5:=dP w4 [98] (([(v,A)]:List (AV×List UInt8)).flatMap λx=>Cf x.2)
  refine⟨_,qJ (nm:=[98]) (bl:=[(v,A)]) (st4.grew g5) w4 (by simp) (by simp[Aa]) (by intro j hj;simp[AT]at hj;subst hj;exact⟨by omega,λq=>by have:=lp _ q;omega⟩) (by
   intro x hx;simp only[Ah0]at hx;subst hx;exact⟨hv.bytes _,hv1,by simp only;omega,by simp only[iv];simp⟩) (by simp) (by rw[cA3];omega),?_⟩
  rw[e6];rw[e6]at w5;rintro r H6 ⟨p6,rfl,st6,f6⟩;rw[cA3]at w5;simp only[Cn,zE,Ab,Aw];exact⟨os,s5,m5,_,k5,p6,by trivial,st6,t6,by omega,w5.mono (by omega)⟩
end Go.Proofs.YtbppnhenlboefaaGreat.Av
end
section
set_option maxHeartbeats 1000000
namespace Go.Proofs.YtbppnhenlboefaaGreat.Av
open Go Go.RowKit Go.Proofs.Tryz
theorem bM {m:Int}{k:List Ext}(h:Ck m k):Cg (m,k) 0=some (0,[]):=by
 have e:Dq k 0=[]:=by
  unfold Dq
  have:k.filter (λx=>decide (x.no*8<(0:Int)))=[]:=by
   rw[List.filter_eq_nil_iff];intro x hx
   have:=((FI.1 h).2.2.2.1 x.no ⟨x,hx,rfl⟩).1
   simp only[decide_eq_true_eq];omega
  rw[this];rfl
 rw[← e];exact(Xb h (by omega) (by omega)).1
theorem TW.one {cap n m:Int}{l k:List Ext}{s:StS}(h:TW cap n l m k s):AB s 1=((n,l),0)∧O5 s.now.1 s.now.2 1∧E2 s.now.1 s.now.2 1=⟨1,n,l⟩:=by
 have hg:O5 s.now.1 s.now.2 1:=by
  rw[h.now];exact⟨FH.2 (VE h.ca h.cb),by simp[II,AM]⟩
 have:E2 s.now.1 s.now.2 1=⟨1,n,l⟩:=by
  unfold E2;rw[if_pos hg,h.now];rfl
 refine⟨?_,hg,this⟩;unfold AB;rw[if_neg (by rw[h.off];simp),if_pos hg,this]
theorem TW.finds {cap n m:Int}{l k:List Ext}{s:StS}(h:TW cap n l m k s):EL s [97]=(1,0)∧EL s [98]=(2,0):=by
 refine⟨?_,?_⟩
 ·unfold EL
  rw[if_neg (by rw[h.off];simp),if_neg (λq=>q (by decide)),if_pos (by rw[h.now];simp[II,AM]),h.now];rfl
 ·unfold EL
  rw[if_neg (by rw[h.off];simp),if_neg (λq=>q (by decide)),if_pos (by rw[h.now];simp[II,AM]),h.now];rfl
theorem TW.cpOpen {cap n m:Int}{l k:List Ext}{s:StS}(h:TW cap n l m k s):∃s',Cd s [98]=(0,2,s')∧TW cap n l 0 [] s':=by
 have e1:AX s [98] true=((2,0),s):=by
  unfold AX;rw[h.finds.2,if_pos (.inl (by simp))]
 obtain⟨s2,e2,h2⟩:=h.trunc (bM h.cb) (by decide);unfold Cd;rw[e1];simp only[e2];exact⟨s2,rfl,h2⟩
theorem sJ {n m:Int}{l k:List Ext}{s:StS}(h:TW 600 n l m k s)(hn:n<500)(hl:l.length≤240)(w:Nat):
  ∃s' k',VL s (LN w)=(0,s')∧TW 600 n l n k' s'∧(∀p,p<n→Fa k' p=Fa l p)∧(EM (Ut w) (n,l)→∀x∈k',¬J6 x.b)∧(¬EM (Ut w) (n,l)→(k'.length:Int)=EJ n):=by
 have e:VL s (LN w)=M3 (decide (EM (Ut w) (n,l))) s [98] (n,l):=by
  unfold VL;rw[Wu];simp only[dK,h.finds.1];unfold Ih;rw[h.one.1];rfl
 rw[e];obtain⟨s1,e1,h1⟩:=h.cpOpen;have hb:=IM n l;obtain⟨s',k',r1,r2,r3,r4,r5⟩:=pR (hl:=decide (EM (Ut w) (n,l))) e1 h1 (λx _=>x.hb) (.inr (by omega)) (by unfold EJ;split<;>omega);exact⟨s',k',r1,r2,r3,λq=>r4 (decide_eq_true q),λq=>r5 (decide_eq_false q)⟩
theorem gZ {n:Int}{l k:List Ext}(hl:Ck n l)(hk:Ck n k)(h:∀p,p<n→Fa k p=Fa l p)(c:Int):HV n k 0 c=HV n l 0 c:=by
 unfold HV
 by_cases q:tB n l 0 c
 ·have q2:tB n k 0 c:=⟨hk,q.2⟩
  rw[if_pos q,if_pos q2];unfold CI;refine Al3 λi hi=>h _ ?_
  have:=Aj8.1 hi
  omega
 ·rw[if_neg q,if_neg (λz=>q ⟨hl,z.2⟩)]
abbrev Bk:=UInt8×UInt8
def UE (x:Bk):List AV:=[.lit (.int .u8 x.1.toNat),.lit (.int .u8 x.2.toNat)]
theorem W4 (x:Bk):(UE x).length=2:=rfl
theorem oO (x:Bk)(t:List AV):(UE x++t)[0]?=some (.lit (.int .u8 x.1.toNat)):=rfl
def HG (sz no:Nat)(s:UInt8)(m:Nat):List UInt8:=(List.range 8).map λk=>if k<m∧no*8+k<sz then JI s.toNat k else 0
theorem Y6 (sz no:Nat)(s:UInt8)(m:Nat):(HG sz no s m).length=8:=by simp[HG]
def oP (sz no:Nat)(s:UInt8):Ext:=⟨no,HG sz no s 8,Y6 _ _ _ _⟩
def GO (sz:Nat):List Bk→Nat→List Ext
 | [],_=>[]
 | x::r,p=>oP sz (p+x.1.toNat % 3) x.2::GO sz r (p+x.1.toNat % 3+1)
def Kc:List Bk→Nat→Nat
 | [],p=>p
 | x::r,p=>Kc r (p+x.1.toNat % 3+1)
theorem U5 {sz:Nat}{x:Bk}:∀{l:List Bk} {p:Nat},GO sz (l++[x]) p=GO sz l p++[oP sz (Kc l p+x.1.toNat % 3) x.2]
 | [],p=>rfl
 | y::r,p=>by simp only[Ah9,GO,Kc,U5]
theorem Vm {x:Bk}:∀{l:List Bk} {p:Nat},Kc (l++[x]) p=Kc l p+x.1.toNat % 3+1
 | [],p=>rfl
 | y::r,p=>by simp only[Ah9,Kc,Vm]
theorem Zi:∀{l:List Bk} {p:Nat},Kc l p≤p+3*l.length
 | [],p=>by simp[Kc]
 | y::r,p=>by
  have:=Zi (l:=r) (p:=p+y.1.toNat % 3+1)
  have:=Al7 y.1.toNat (show 3>0 by omega)
  simp only[Kc,Ae2];omega
theorem RY {sz:Nat}:∀{l:List Bk} {p:Nat},(GO sz l p).length=l.length
 | [],p=>rfl
 | y::r,p=>by simp[GO,RY]
theorem NY (sz no:Nat)(s:UInt8):AF (HG sz no s 0)=[u0Z,u0Z,u0Z,u0Z,u0Z,u0Z,u0Z,u0Z]:=by
 simp[HG,AF,Ao0]
theorem jS {sz no:Nat}{s:UInt8}{k:Nat}(hk:k<8)(h:no*8+k<sz):(HG sz no s k).set k (JI s.toNat k)=HG sz no s (k+1):=by
 apply Ae8;intro j;rw[Ag8]
 by_cases c:k=j
 ·subst c
  simp[HG,hk,h]
 ·rw[if_neg c]
  simp only[HG,Af3];rcases Ac9 j 8 with hj | hj
  ·rw[Aj6 hj]
   simp only[Aj2];have:(j<k+1)↔(j<k):=by omega
   simp only[this]
  ·rw[Ak3 (by simpa using hj)];rfl
theorem fD {sz no:Nat}{s:UInt8}{k:Nat}(h:¬no*8+k<sz):HG sz no s k=HG sz no s (k+1):=by
 unfold HG;apply Al3;intro j _
 by_cases c:j=k
 ·subst c;simp[h]
 ·have:(j<k+1)↔(j<k):=by omega
  simp only[this]
theorem ZX {s n k:Nat}(h:k<n):(EG s n)[k]?=some (JI s k):=by
 simp[EG,h]
theorem eI {l:List Bk}{v:AV}(hv:SV UE 2 l v)(n:Nat):∃R,SV As 9 (GO (n % 500) (l.take 30) 0) R∧BPure prog 16 [v,.lit (.int .u16 n)] (.agg [I ((n % 500:Nat):Int),R]):=by
 have hsz:n % 500<500:=Al7 _ (by omega)
 have e0:Aq .rem (.lit (.int .u16 n)) (.lit (.int .u16 500))=some (.lit (.int .u16 ((n % 500:Nat):Int))):=by
  have:Aq .rem (.lit (.int .u16 n)) (.lit (.int .u16 (500:Nat)))=some (.lit (.int .u16 ((n % 500:Nat):Int))):=by
   rw[IA (by omega) (by omega)];congr 3
  exact this
 generalize n % 500=sz at hsz e0
 have key:∃r X,(∃R,FZ X r R∧∃R',R=.agg [I sz,R']∧SV As 9 (GO sz (l.take 30) 0) R')∧BCall prog 16 [v,.lit (.int .u16 n)] [] r X:=MF (by
  unfold Jv;have e1:RI .i64 (.lit (.int .u16 ((sz:Nat):Int)))=some (I sz):=LJ (by omega) (by omega);have e2:FD [(I 0),Ad] [(0,1,I sz)]=some (.agg [I sz,Ad]):=rfl;have e3:AR 2 [some (.cells [I 0,Ad]),some (.cells [I 0,Ad])] (.ptr 1 0) (.agg [I sz,Ad])=some [some (.cells [I 0,Ad]),some (.cells [I sz,Ad])]:=rfl;simp only[jJ,An4,List.all_nil,lX,lY,Bool.and_self,if_true,zT,Pr,e0,e1,e2,zR,zB,e3];refine Jw (λm x0 x4 x5 x6 x7 H'=>∃i:Nat,i+m=30∧i≤l.length∧x0=v∧x4=.ptr 0 0∧x5=.ptr 1 0∧x6=I ((Kc (l.take i) 0:Nat) - 1:Int)∧x7=I i∧∃w,H'[0]?=some (some (.cells [I 0,Ad]))∧H'[1]?=some (some (.cells [I sz,w]))∧OwN 2 9 ((GO sz (l.take i) 0).flatMap As) i w H') ?_ 30 ⟨0,by omega,by omega,rfl,rfl,rfl,rfl,rfl,Ad,rfl,rfl,⟨rfl,rfl,by simp[AT],by simp[Ch]⟩⟩;rintro m x0 x4 x5 x6 x7 H R hR ⟨i,him,hil,rfl,rfl,rfl,rfl,rfl,w,c0,c1,ow⟩;have hlH:1<H.length:=(B8.1 c1).1;unfold FO
  have fin:¬(i<l.length∧i<30)→bO (Ar true 2 H (.ptr 1 0)) (λv23=>bS (AR 2 H (.ptr 0 0) v23) λH24=>bO (Ar true 2 H24 (.ptr 0 0)) λv25=>∃R,FZ H24 v25 R∧∃R',R=.agg [I sz,R']∧SV As 9 (GO sz (l.take 30) 0) R'):=by
   intro hn;have b0:∀x y:AV,Am true 2 [x,y] 0=some (.agg [x,y]):=λ_ _=>rfl
   have ow1:=AL ow.o
   have e5:AR 2 H (.ptr 0 0) (.agg [I sz,w])=some (H.set 0 (some (.cells [I sz,w]))):=by
    rw[A8 (n:=2) (off:=0) (xs:=[I sz,w]) (by simp[ow1]) c0 rfl (by simp)];rfl
   have c0':(H.set 0 (some (.cells [I sz,w])))[0]?=some (some (.cells [I sz,w])):=JX (by omega);rw[Ak c1,b0,Ab,e5,AC,Ak c0',b0,Ab]
   have hs2:Aa (H.set 0 (some (.cells [I sz,w]))) 9 w=some ((GO sz (l.take i) 0).flatMap As,(GO sz (l.take i) 0).length):=by
    rw[RY,Ac4,Ai3 hil];exact Ae ow.s λj q=>C2 (by have:=ow.i j q;omega)
   obtain⟨R',h1,h2⟩:=FZ.sv hs2 (Db λx _=>EP x)
   have et:l.take 30=l.take i:=by
    rcases Ac9 i l.length with h | h
    ·rw[show i=30 by omega]
    ·rw[Ac5 h,Ac5 (by omega)]
   rw[et];exact⟨_,FZ.agg (.cons (.lit _) (.cons h2 .nil)),R',rfl,h1⟩
  by_cases h:i<l.length∧i<30
  ·obtain⟨h,h30⟩:=h
   have hx:=Ea h;generalize l[i]=x at hx;have hnx:=Zi (l:=l.take i) (p:=0);have hlt:(l.take i).length=i:=by rw[Ac4];omega
   rw[hlt]at hnx;have et:l.take (i+1)=l.take i++[x]:=SH hx;have hn2:Kc (l.take (i+1)) 0=Kc (l.take i) 0+x.1.toNat % 3+1:=by rw[et,Vm]
   have hc2:GO sz (l.take (i+1)) 0=GO sz (l.take i) 0++[oP sz (Kc (l.take i) 0+x.1.toNat % 3) x.2]:=by rw[et,U5]
   have hg3:x.1.toNat % 3<3:=Al7 _ (by omega);generalize Kc (l.take i) 0=p at hnx hn2 hc2;generalize hg:x.1.toNat % 3=g at hg3 hn2 hc2
   have e4:Aq .add (I ((p:Int) - 1)) (I 1)=some (I p):=by
    rw[Ax (by omega) (by omega)];congr 3;omega
   have e5:Aq .rem (.lit (.int .u8 x.1.toNat)) (.lit (.int .u8 3))=some (.lit (.int .u8 (g:Int))):=by
    have:Aq .rem (.lit (.int .u8 x.1.toNat)) (.lit (.int .u8 (3:Nat)))=some (.lit (.int .u8 (g:Int))):=by
     rw[IA (by omega) (by omega)];congr 3;omega
    exact this
   have e6:RI .i64 (.lit (.int .u8 (g:Int)))=some (I g):=LJ (by omega) (by omega)
   have e7:Aq .add (I p) (I g)=some (I ((p+g:Nat):Int)):=by
    rw[Ax (by omega) (by omega)];congr 3
   have e8:FD [(I 0),u0Z,u0Z,u0Z,u0Z,u0Z,u0Z,u0Z,u0Z] [(0,1,I ((p+g:Nat):Int))]=some (.agg (I ((p+g:Nat):Int)::AF (HG sz (p+g) x.2 0))):=by rw[NY];rfl
   have e9:A9 H (.agg [(I 0),u0Z,u0Z,u0Z,u0Z,u0Z,u0Z,u0Z,u0Z])=some (.ptr H.length 0,H++[some (.cells [(I 0),u0Z,u0Z,u0Z,u0Z,u0Z,u0Z,u0Z,u0Z])]):=by simp
   have e10:AR 9 (H++[some (.cells [(I 0),u0Z,u0Z,u0Z,u0Z,u0Z,u0Z,u0Z,u0Z])]) (.ptr H.length 0) (.agg (I ((p+g:Nat):Int)::AF (HG sz (p+g) x.2 0)))=some (H++[some (.cells (I ((p+g:Nat):Int)::AF (HG sz (p+g) x.2 0)))]):=by
    rw[A8 (n:=9) (off:=0) (xs:=I ((p+g:Nat):Int)::AF (HG sz (p+g) x.2 0)) (by rw[NY];rfl) (cs:=[(I 0),u0Z,u0Z,u0Z,u0Z,u0Z,u0Z,u0Z,u0Z]) (by simp) (by rw[NY];rfl) (by simp)];rw[NY];simp[AN]
   have hlI:((i:Int)<(l.length:Int)):=by omega
   have h30I:((i:Int)<30):=by omega
   simp only[hv.len,Aa6,zW,zE,hlI,h30I,yZ,Ao,e4,hv.idx W4 hx rfl,Ww,Py,Ah,Ae3,oO,e5,e6,e7,e8,e9,zT,e10];obtain⟨Rb,hRb,hpb⟩:=nK x.2 (n:=8) (by omega);have e11:(List.drop 1 (UE x++List.flatMap UE (List.drop (i+1) l)))[0]?=some (.lit (.int .u8 x.2.toNat)):=rfl;simp only[e11,Ab];refine A1 hpb ?_;refine IG R (λm2 y0 y4 y5 y6 y7 y8 y9 y10 H'=>∃k:Nat,k+m2=8∧y0=x0∧y4=.ptr 0 0∧y5=.ptr 1 0∧y6=I ((p+g:Nat):Int)∧y7=I i∧y8=.ptr H.length 0∧y9=Rb∧y10=I k∧H'=H++[some (.cells (I ((p+g:Nat):Int)::AF (HG sz (p+g) x.2 k)))]) ?_ 8 ⟨0,by omega,rfl,rfl,rfl,rfl,rfl,rfl,rfl,rfl,rfl⟩;rintro m2 y0 y4 y5 y6 y7 y8 y9 y10 H' R2 hR2 ⟨k,hk,rfl,rfl,rfl,rfl,rfl,rfl,rfl,rfl,rfl⟩;unfold Fu;have g1:=Grew.app H [some (.cells (I ((p+g:Nat):Int)::AF (HG sz (p+g) x.2 k)))];have d1:(H++[some (.cells (I ((p+g:Nat):Int)::AF (HG sz (p+g) x.2 k)))])[1]?=some (some (.cells [I sz,w])):=g1.cells c1;rcases Ac9 k 8 with hk8 | hk8
   ·have hkI:(k:Int)<8:=by omega
    have f1:Aq .mul (I ((p+g:Nat):Int)) (I 8)=some (I (((p+g)*8:Nat):Int)):=by rw[Ek (by omega) (by omega)];congr 3
    have f2:Aq .add (I (((p+g)*8:Nat):Int)) (I k)=some (I (((p+g)*8+k:Nat):Int)):=by rw[Ax (by omega) (by omega)];congr 3
    simp only[Aa6,hkI,zL,f1,f2,Al,Ak d1,Ah,Ab0,Int.ofNat_lt]
    have done:∀H2,H2=H++[some (.cells (I ((p+g:Nat):Int)::AF (HG sz (p+g) x.2 (k+1))))]→CX R2 R y0 (.ptr 0 0) (.ptr 1 0) (I ((p+g:Nat):Int)) (I i) (.ptr H.length 0) y9 (I k) H2 (λr X=>∃R,FZ X r R∧∃R',R=.agg [I sz,R']∧SV As 9 (GO sz (l.take 30) 0) R'):=by
     rintro H2 rfl;rw[JB];unfold Ft;simp only[Ax (a:=k) (b:=1) (by omega) (by omega),Ab];exact hR2 (m2 - 1) _ _ _ _ _ _ _ _ _ (by omega) ⟨k+1,by omega,rfl,rfl,rfl,rfl,rfl,rfl,rfl,by simp,rfl⟩
    by_cases c:(p+g)*8+k<sz
    ·simp only[c,zL]
     have gb:(EG x.2.toNat 8)[k]?=some (JI x.2.toNat k):=ZX hk8;have f3:=hRb.idx (i:=(k:Int)) kP gb rfl;have f4:TB 8 1 (.ptr H.length 1) (I k)=some (.ptr H.length (1+k)):=by simp[TB,J8];omega
     have f5:AR 1 (H++[some (.cells (I ((p+g:Nat):Int)::AF (HG sz (p+g) x.2 k)))]) (.ptr H.length (1+k)) (.lit (.int .u8 (JI x.2.toNat k).toNat))=some (H++[some (.cells (I ((p+g:Nat):Int)::AF (HG sz (p+g) x.2 (k+1))))]):=by
      rw[A8 (n:=1) (xs:=[.lit (.int .u8 (JI x.2.toNat k).toNat)]) (cs:=I ((p+g:Nat):Int)::AF (HG sz (p+g) x.2 k)) rfl (by simp) rfl (by simp[B9,Y6];omega),← jS hk8 c]
      have:AN (I ((p+g:Nat):Int)::AF (HG sz (p+g) x.2 k)) (1+k) [.lit (.int .u8 (JI x.2.toNat k).toNat)]=I ((p+g:Nat):Int)::AF ((HG sz (p+g) x.2 k).set k (JI x.2.toNat k)):=by
       rw[Al1 1 k];simp[AN,AF,Am1]
      rw[this];simp
     have f6:(J9 (JI x.2.toNat k)++List.flatMap J9 (List.drop (k+1) (EG x.2.toNat 8)))[0]?=some (.lit (.int .u8 (JI x.2.toNat k).toNat)):=rfl;simp only[f3,Pr,Py,Ah,f6,f4,f5,AC];exact done _ rfl
    ·simp only[c,zI]
     refine done _ ?_;rw[fD c]
   ·have hk':k=8:=by omega
    subst hk';have hkI:¬(((8:Nat):Int)<8):=by omega
    have ex:(I ((p+g:Nat):Int)::AF (HG sz (p+g) x.2 8))=As (oP sz (p+g) x.2):=rfl;rw[ex]at g1 d1⊢;have dx:(H++[some (AObj.cells (As (oP sz (p+g) x.2)))])[H.length]?=some (some (.cells (As (oP sz (p+g) x.2)))):=by simp
    have f1:Am true 9 (As (oP sz (p+g) x.2)) 0=some (.agg (As (oP sz (p+g) x.2))):=by
     simp[Am,Az];rw[Ac5 (by rw[Az];omega)]
    generalize oP sz (p+g) x.2=ex' at*
    have f2:Cv (H++[some (.cells (As ex'))]) 9 1 (Bg [(I 0),u0Z,u0Z,u0Z,u0Z,u0Z,u0Z,u0Z,u0Z] 1) [(0,9,.agg (As ex'))]=some (.sl (H.length+1) 0 1 9 (.ex 1),H++[some (.cells (As ex'))]++[some (.cells (As ex'))]):=by
     have hr:Pf (Bg [(I 0),u0Z,u0Z,u0Z,u0Z,u0Z,u0Z,u0Z,u0Z] 1) [(0,9,.agg (As ex'))]=some (As ex'):=by
      have hz:(Bg [(I 0),u0Z,u0Z,u0Z,u0Z,u0Z,u0Z,u0Z,u0Z] 1).length=9:=rfl;have hl:=Az ex';rw[aD,P1,if_pos (YO ex')];generalize Bg [(I 0),u0Z,u0Z,u0Z,u0Z,u0Z,u0Z,u0Z,u0Z] 1=z at hz;generalize As ex'=q at hl;simp only[fV,DV z 0 q (by omega),Aa5,Aj3];rw[Ad9 (by omega),Af5,if_pos ⟨hl,by omega⟩]
     unfold Cv;rw[hr];simp[YO]
    have g2:=Grew.app (H++[some (.cells (As ex'))]) [some (.cells (As ex'))];have ow2:=(ow.grew g1).grew g2
    have x1:AZ (H++[some (.cells (As ex'))]++[some (.cells (As ex'))]) 9 (.sl (H.length+1) 0 1 9 (.ex 1))=some (As ex',1):=AI (by
     rw[AA (c:=As ex') (by simp) (by rw[Az];omega),Ae3,Ac5 (by rw[Az];omega)])
    obtain⟨r3,H3,a1,a2,a3⟩:=yL (bytes:=16) ow2 x1 (by simp) (by omega);have d3:H3[1]?=some (some (.cells [I sz,w])):=by rw[a3.2 1 (by omega)];exact g2.cells (g1.cells c1)
    have d0:H3[0]?=some (some (.cells [I 0,Ad])):=by rw[a3.2 0 (by omega)];exact g2.cells (g1.cells c0)
    have r1:=AL a2.o;have hl3:1<H3.length:=(B8.1 d3).1
    have f5:AR 1 H3 (.ptr 1 1) r3=some (H3.set 1 (some (.cells [I sz,r3]))):=by
     rw[A8 (n:=1) (xs:=[r3]) (cs:=[I sz,w]) (AO r1) d3 rfl (by simp)];rfl
    have f6:([I sz,w]:List AV)[1]?=some w:=rfl;simp only[Bi,zM,Ag,hkI,zI,Ak d1,f6,Ak dx,f1,f2,zT,a1,f5,Ax (a:=i) (b:=1) (by omega) (by omega)];refine hR (m - 1) _ _ _ _ _ _ (by omega) ⟨i+1,by omega,by omega,rfl,rfl,rfl,by rw[hn2];congr 2;omega,by simp,r3,?_,?_,?_⟩
    ·rw[C2 (by omega)];exact d0
    ·exact JX (by omega)
    ·rw[hc2]
     exact⟨by
      rw[Ag6];have e:=Ae a2.s (H':=H3.set 1 (some (.cells [I sz,r3]))) λj q=>C2 (by have:=a2.i j q;omega)
      simpa using e,a2.o,a2.i,a2.c⟩
  ·have hne:¬(i<l.length∧i<30):=h
   have f:=fin h;have e1:(decide ((i:Int)<(l.length:Int)))=decide (i<l.length):=by simp
   simp only[hv.len,Ab,Bi,AK,e1]
   by_cases c:i<l.length
   ·have c30:¬((i:Int)<30):=by omega
    simp only[c,zE,yZ,Aa6,c30,zI,Aw];exact f
   ·simp only[c,zI,Aw,show((false==true)=false)from rfl,Cq,zC,An]
    exact f)
 obtain⟨r,X,hk,hc⟩:=key;obtain⟨R,⟨R',rfl,h2⟩,hp⟩:=BPure.FZ (by simp[A3,noIds,hv.1]) ⟨r,X,hk,hc⟩;exact⟨R',h2,hp⟩
end Go.Proofs.YtbppnhenlboefaaGreat.Av
end
section
set_option maxHeartbeats 1000000
namespace Go.Proofs.YtbppnhenlboefaaGreat.Av
open Go Go.RowKit
theorem YB {sz:Nat}:∀{l:List Bk} {p:Nat},∀x∈GO sz l p,0≤x.no∧x.no≤p+3*l.length
 | [],p,x,h=>by simp[GO]at h
 | y::r,p,x,h=>by
  unfold GO at h;rcases Ad8.1 h with rfl | h
  ·show 0≤((p+y.1.toNat % 3:Nat):Int)∧((p+y.1.toNat % 3:Nat):Int)≤_
   rw[Ae2];omega
  ·have:=YB x h
   rw[Ae2];omega
def qS (y:UInt8×(UInt8×Unit)):List AV:=[.lit (.int .u8 y.1.toNat),.lit (.int .u8 y.2.1.toNat)]
def oH (x:Sl (UInt8×(UInt8×Unit))):AV:=if x.nil then .lit (.slice none 0 0)else .imm (x.l.flatMap qS) x.l.length 2
theorem rY (x:Sl (UInt8×(UInt8×Unit)))(hn:x.nil=true→x.l=[]):∃q:List Bk,SV UE 2 q (oH x):=by
 refine⟨x.l.map λy=>(y.1,y.2.1),?_⟩
 have e:(x.l.map λy=>((y.1,y.2.1):Bk)).flatMap UE=x.l.flatMap qS:=by
  rw[List.flatMap_map];rfl
 unfold oH;cases hnil:x.nil with
 | true=>simp only[if_true];rw[hn hnil];exact SV.nil
 | false=>
  simp only[An];rw[← e,show x.l.length=(x.l.map λy=>((y.1,y.2.1):Bk)).length by rw[Af2]];exact SV.imm W4 (λx hx=>rfl)
end Go.Proofs.YtbppnhenlboefaaGreat.Av
end
section
namespace Go.Proofs.YtbppnhenlboefaaGreat.Av
open Go Go.Proofs.Tryz
def pqk:FuncId→Bool:=TR [43,82,20,13,52,40,102,24,23,98,50,170,172,188,179,181,22,99,169,111,143,142,148,180,182,145,73,141,171,173,144,75,176,135,70,134,139,149,174,112,45,234,3,16,46]
def yV:FuncId→Bool:=TR [11,36,15]
def Lv:C0:=KX []
def Lw:Nat→Option (List Bool):=Ci []
def Ly:Nat→Bool:=TR []
def EQ (a0 a1 a2 a3:AV)(H:AH)(K:AV→AH→Prop):Prop:=
 bO (Bf a2) λv0=>
 bO (Aq .gtr v0 (I 200)) λv1=>
 bB v1 λt2=>bI t2 (
 bP (PCall prog 3 [] H) λv3=>
 K v3 H)
 (bP (PCall prog 16 [a0,a1] H) λv4=>
 bA (ACalls prog 15 [(I 600),v4,a2] H) λv5 H6=>
 bO (Ai v5 0) λv7=>
 bO (Ai v5 1) λv8=>
 bO (EX .not v8) λv9=>
 bB v9 λt10=>bI t10 (
 K (B false) H6)
 (bC (BCall prog 14 [v7] H6) λv11 H12=>
 bP (PCall prog 13 [v11,(I 1)] H12) λv13=>
 bO (Ai v13 0) λv14=>
 bO (Ai v13 1) λv15=>
 bH (A9 H12 (.agg [(I 0),Ad])) λv16 H17=>
 bS (AR 2 H17 v16 v14) λH18=>
 bC (BCall prog 17 [a3,u0Z,(.lit (.int .u8 1))] H18) λv19 H20=>
 bC (BCall prog 12 [v7,v19] H20) λv21 H22=>
 bH (A9 H22 (.agg [(I 0),(.lit (.string ⟨#[]⟩)),(I 0),(I 0),(I 0),(I 0),(I 0)])) λv23 H24=>
 bS (AR 7 H24 v23 v21) λH25=>
 bC (BCall prog 14 [v7] H25) λv26 H27=>
 bP (PCall prog 13 [v26,(I 1)] H27) λv28=>
 bO (Ai v28 0) λv29=>
 bO (Ai v28 1) λv30=>
 bH (A9 H27 (.agg [(I 0),Ad])) λv31 H32=>
 bS (AR 2 H32 v31 v29) λH33=>
 bC (BCall prog 14 [v7] H33) λv34 H35=>
 bP (PCall prog 13 [v34,(I 2)] H35) λv36=>
 bO (Ai v36 0) λv37=>
 bO (Ai v36 1) λv38=>
 bH (A9 H35 (.agg [(I 0),Ad])) λv39 H40=>
 bS (AR 2 H40 v39 v37) λH41=>
 bO (Ac 0 v23) λv42=>
 bO (Ar false 1 H41 v42) λv43=>
 bO (Aq .eql v43 (I 0)) λv44=>
 bG v44 true λw45=>
 gO w45 (some v38) λv46=>
 bO (A7 v44 v46 (B false)) λv47=>
 bG v47 true λw48=>
 gO w48 (Ar true 2 H41 v16) λv49=>
 bG v47 true λw50=>
 gO w50 (Ar true 2 H41 v31) λv51=>
 bG v47 true λw52=>
 gP w52 (BPure prog 22 [v49,v51]) λv53=>
 bO (A7 v47 v53 (B false)) λv54=>
 bG v54 true λw55=>
 gO w55 (Ac 0 v39) λv56=>
 bG v54 true λw57=>
 gO w57 (Ar false 1 H41 v56) λv58=>
 bG v54 true λw59=>
 gO w59 (Ac 0 v16) λv60=>
 bG v54 true λw61=>
 gO w61 (Ar false 1 H41 v60) λv62=>
 bG v54 true λw63=>
 gO w63 (Aq .eql v58 v62) λv64=>
 bO (A7 v54 v64 (B false)) λv65=>
 bG v65 true λw66=>
 gO w66 (Ar true 2 H41 v39) λv67=>
 bG v65 true λw68=>
 gP w68 (BPure prog 23 [v67,(I 0),(I 4096)]) λv69=>
 bG v65 true λw70=>
 gO w70 (qL H41 v69) λv71=>
 bG v65 true λw72=>
 gO w72 (Ar true 2 H41 v16) λv73=>
 bG v65 true λw74=>
 gP w74 (BPure prog 23 [v73,(I 0),(I 4096)]) λv75=>
 bG v65 true λw76=>
 gO w76 (qL H41 v75) λv77=>
 bG v65 true λw78=>
 gO w78 (SL .eql v71 v77) λv79=>
 bO (A7 v65 v79 (B false)) λv80=>
 bG v80 true λw81=>
 gP w81 (BPure prog 3 []) λv82=>
 bO (A7 v80 v82 (B false)) λv83=>
 K v83 H41))
theorem Lu (a0 a1 a2 a3:AV)(H:AH)(K:AV→AH→Prop):O8 prog Lv pqk yV Ly Lw f6 [a0,a1,a2,a3] H K=EQ a0 a1 a2 a3 H K:=by kernel_rfl
theorem Lx {a0 a1 a2 a3:AV}{H:AH}{K:AV→AH→Prop}(h:EQ a0 a1 a2 a3 H K):ACalls prog 6 [a0,a1,a2,a3] H K:=
 G7 Lg func6 (by kernel_rfl) (Eq.mpr (Lu a0 a1 a2 a3 H K) h)
end Go.Proofs.YtbppnhenlboefaaGreat.Av
end
section
end
