/- Texts of this proof, one behind the other, packed into one file by a program of this session. No condition. -/
import Derived.Test.YtbppnhenlboefaaGreatMpI
import Derived.Lib.Bytealg
set_option linter.unusedVariables false
set_option linter.unusedSimpArgs false
set_option maxRecDepth 100000
namespace Go.Proofs.YtbppnhenlboefaaGreat.Av
open Go Go.RowKit Go.Proofs.Tryz
section
theorem Aum {N:Nat}{s:StS}{d:Nat}{p a2:AV}{H:AH}{ino:Int}{bl:List (AV×List UInt8)}(af:StAt s d p H)(hw:SW N s)
  (ha:Ac H 1 a2=some (bl.map Prod.fst,bl.length)) (ar:∀j∈Ba a2,j≠d/\j∉Ba p) (hb:∀x∈bl,Ac H 1 x.1=some (Bp x.2,x.2.length)/\oneA x.1=true/\x.2.length<=1000000/\∀j∈Ba x.1,j≠d/\j∉Ba p) (a4:bl.length<=1000000)
  (hN:N+9*Nl (bl.flatMap λx=>BZ x.2)<900000):
  Ba3 36 [.ptr d 0,I ino,a2] H λr H'=>∃p',r=I (pcs ino (bl.flatMap λx=>BZ x.2) s 0 0).2/\StAt (pcs ino (bl.flatMap λx=>BZ x.2) s 0 0).1.1 d p' H'/\StF d p p' H H':=wJ (by
 generalize ap:pcs ino (bl.flatMap λx=>BZ x.2) s 0 0=RES;generalize a3:N+9*Nl (bl.flatMap λx=>BZ x.2)=NN at hN;unfold jJ;have X:∀(Z:AH) (x:AV),oneA x=true->AE Z x=some (.ptr Z.length 0,Z++[some (.cells [x])]):=λZ x K=>by unfold AE;rw[Bn K];rfl
 generalize y:H.length=b0;have al:AW a2=some (I (bl.length:Nat)):=Bt ha;have s0:AU 1 (H++[some (AObj.cells [.ptr d 0])]++[some (.cells [I ino])]++[some (.cells [I 0])]++[some (.cells [I 0])]) (.ptr (b0+3) 0) (I 0)=some (H++[some (AObj.cells [.ptr d 0])]++[some (.cells [I ino])]++[some (.cells [I 0])]++[some (.cells [I 0])]):=by
  rw[rE (cs:=[I 0]) (k:=0) (by rw[<- y];simp) (by simp) rfl];congr 1;apply Am4;intro j;by_cases c:j=b0+3
  ·subst c;rw[HU (by rw[<- y];simp),<- y];simp
  ·rw[Cc (Al6 c)]
 have l1:(H++[some (AObj.cells [AV.ptr d 0])]).length=b0+1:=by simp[y]
 have l2:(H++[some (AObj.cells [AV.ptr d 0])]++[some (AObj.cells [I ino])]).length=b0+2:=by simp[y]
 have l3:(H++[some (AObj.cells [AV.ptr d 0])]++[some (AObj.cells [I ino])]++[some (AObj.cells [I 0])]).length=b0+3:=by simp[y]
 simp only[X H (AV.ptr d 0) rfl,Ad2,X (H++[some (AObj.cells [AV.ptr d 0])]) (I ino) rfl,X (H++[some (AObj.cells [AV.ptr d 0])]++[some (AObj.cells [I ino])]) (I 0) rfl,X (H++[some (AObj.cells [AV.ptr d 0])]++[some (AObj.cells [I ino])]++[some (AObj.cells [I 0])]) (I 0) rfl,y,l1,l2,l3,s0,al,Aa];have g0:Grew H (H++[some (AObj.cells [AV.ptr d 0])]++[some (AObj.cells [I ino])]++[some (AObj.cells [I 0])]++[some (AObj.cells [I 0])]):=by simp only[Ak7];exact Grew.app H _
 have az:=af.p_lt;have a6:=af.os_lt;have S0:LwS d b0 ino s 0 p (H++[some (AObj.cells [AV.ptr d 0])]++[some (AObj.cells [I ino])]++[some (AObj.cells [I 0])]++[some (AObj.cells [I 0])]):=
  ⟨af.grew g0,by rw[<- y];simp,by rw[<- y];simp,⟨I 0,by rw[<- y];simp⟩,by rw[<- y];simp,by omega,λj g _ q=>by have:=az j q;omega⟩
 have F0:LwF d b0 p p H (H++[some (AObj.cells [AV.ptr d 0])]++[some (AObj.cells [I ino])]++[some (AObj.cells [I 0])]++[some (AObj.cells [I 0])]):=.of_grew g0;have B0:Bd NN (bl.flatMap λx=>BZ x.2) s 0 0:=⟨⟨N,hw,by omega⟩,by omega,by omega⟩;have ag:∀{p' H'},LwF d b0 p p' H H'->StF d p p' H H':=λf=>⟨f.len,λj g C hp=>f.same j g C (by omega) hp,f.ids⟩
 generalize (H++[some (AObj.cells [AV.ptr d 0])]++[some (AObj.cells [I ino])]++[some (AObj.cells [I 0])]++[some (AObj.cells [I 0])])=HB at S0 F0;refine eY (λm x2 x4 x5 x6 ak am an H'=>∃(k:Nat) (s:StS) (u sum:Int) (p':AV),k+m=bl.length/\x2=.ptr b0 0/\x4=.ptr (b0+1) 0/\x5=.ptr (b0+2) 0/\x6=.ptr (b0+3) 0/\a2=ak/\am=I bl.length/\an=I k/\
  LwS d b0 ino s u p' H'/\LwF d b0 p p' H H'/\pcs ino ((bl.drop k).flatMap λx=>BZ x.2) s u sum=RES/\Bd NN ((bl.drop k).flatMap λx=>BZ x.2) s u 0) ?_ bl.length ⟨0,s,0,0,p,by omega,rfl,rfl,rfl,rfl,rfl,rfl,rfl,S0,F0,ap,B0⟩
 rintro m x2 x4 x5 x6 ak am an o R hR ⟨k,s,u,sum,Q,hk,rfl,rfl,rfl,rfl,ao,rfl,rfl,z,D,B,V⟩;subst ao;unfold Ya;have W:∀{w:AV} {sz:Nat} {cs:List AV} {n:Nat} {S:AV} {U:AH},Ac H sz w=some (cs,n)->(∀j∈Ba w,j≠d/\j∉Ba p)->LwF d b0 p S H U->Ac U sz w=some (cs,n):=λC h2 f=>Ai C λj g=>f.same j (A5 C j g) (h2 j g).1 (by have:=A5 C j g;omega) (h2 j g).2;rcases Aj5 k bl.length with h | h
 ·have K:=Dq h;generalize bl[k]=vb at K;obtain⟨v,b⟩:=vb;obtain⟨O,ah,av,J⟩:=hb _ (Aj2 K);simp only at O ah av J;have ae:bl.drop k=(v,b)::bl.drop (k+1):=Cs K;rw[ae]at B V;simp only[Al5]at B V;generalize aj:(bl.drop (k+1)).flatMap (λx=>BZ x.2)=rest at B V;have kI:(k:Int)<(bl.length:Int):=by omega
  have aq:=W ha ar D;have a1:=W O J D;obtain⟨pp,q1,q2⟩:=Yi (enc:=fun x:AV×List UInt8=>[x.1]) (f:=Prod.fst) (λ_=>rfl) (l:=bl) (by rw[<- List.map_eq_flatMap];exact aq) K;simp only[Ac1,kI,Ab7,q1,q2];refine bC_of (Auc a1 ah) ?_;have g2:=Grew.app o [some (AObj.cells [v]),some (.cells [I 4096])];have S2:=z.grew g2;have E:LwF d b0 p Q H (o++[some (AObj.cells [v]),some (.cells [I 4096])]):=D.trans (.of_grew g2);have t0:(o++[some (AObj.cells [v]),some (.cells [I 4096])])[o.length]?=some (some (.cells [v])):=by simp
  have t1:(o++[some (AObj.cells [v]),some (.cells [I 4096])])[o.length+1]?=some (some (.cells [I 4096])):=by simp
  have ay:(o++[some (AObj.cells [v]),some (.cells [I 4096])]).length=o.length+2:=by simp
  have ai:=z.st.p_lt;have au:b0+3<o.length:=(BG.1 z.ba).1;have z4:=z.no;generalize (o++[some (AObj.cells [v]),some (.cells [I 4096])])=Hc at S2 E t0 t1 ay;refine Aul (Aub (o1:=o.length) (o2:=o.length+1) (s:=v) (cs:=Bp b) (len:=b.length) (n:=4096) (by omega) (by omega) (by omega)) (by kernel_rfl)
   (λi H'=>∃(s:StS) (u sum:Int) (p':AV),LwS d b0 ino s u p' H'/\LwF d b0 Q p' Hc H'/\pcs ino ((BZ b).drop i++rest) s u sum=RES/\Bd NN ((BZ b).drop i++rest) s u 0)
   (λH'=>∃(s:StS) (u sum:Int) (p':AV) (e:Int),StAt s d p' H'/\LwF d b0 Q p' Hc H'/\H'[b0+2]?=some (some (.cells [I e]))/\RES=((s,u,sum),e))
   ⟨s,u,sum,Q,S2,.refl _ _ _ _,by simpa using B,by simpa using V⟩ ?_ ?_ ?_ ?_
  ·rintro i H' ⟨s',G,Y,p',F,t,-,-⟩;refine⟨(t.same _ (by omega) (by omega) (by omega) (λq=>by have:=ai _ q;omega)).trans t0,(t.same _ (by omega) (by omega) (by omega) (λq=>by have:=ai _ q;omega)).trans t1,W O J (E.trans t)⟩
  ·rintro i x H' L ⟨s',G,Y,p',F,t,A,P⟩;have hi:i<Aab b.length 4096:=by
    have:=(BG.1 L).1
    rwa[vT]at this
   have ax:=(Ajn (len:=b.length) (k:=i) (show 0<4096 by omega)).1 hi;have ex:x=Aat v b.length 4096 i:=by unfold Abs at L;rw[Al2,Aq9 hi]at L;injection L with L;exact L.symm
   subst ex;have a0:=W O J (E.trans t);obtain⟨c1,c2⟩:=Auf a0 ax;have aw:(BZ b).drop i=bU b i::(BZ b).drop (i+1):=Cs (Aud hi);rw[aw,Ap4]at A P;obtain⟨⟨M,w1,w2⟩,w3,w4⟩:=P;rw[tP]at w2 w3 w4;have fp:∀j∈Ba v,j∉Ba p':=λj g q=>by
    have a5:=A5 O j g;rcases(E.trans t).ids j q with q | q
    ·exact(J j g).2 q
    ·omega
   have wn:=gW s' ino G (bU b i);have ww:=gX w1 ino G (bU b i);unfold pcs at A;refine Aug F w1 (by omega) c1 (λj g=>⟨(J j (c2 j g)).1,fp j (c2 j g)⟩) (by omega) ?_ ?_
   ·intro he S U ab aa;rw[if_pos he]at A;exact⟨_,_,_,S,ab,t.trans aa,A,⟨⟨_,ww,by omega⟩,by omega,by omega⟩⟩
   ·intro he S U ab aa T;rw[if_neg he]at A;exact⟨_,_,_,S,_,ab,t.trans aa,T,A.symm⟩
  ·rintro H' ⟨s',G,Y,p',F,t,A,P⟩;rw[vT,<- Aue,Ar2,Ao4]at A P;simp only[Au (a:=k) (b:=1) (by omega) (by omega),Aa];exact hR (m - 1) _ _ _ _ _ _ _ _ (by omega) ⟨k+1,s',G,Y,p',by omega,rfl,rfl,rfl,rfl,rfl,rfl,by simp,F,E.trans t,by rw[aj];exact A,by rw[aj];exact P⟩
  ·rintro H' ⟨s',G,Y,p',e,F,t,T,rfl⟩;simp only[Ah T,Ah3,BH];exact⟨p',by trivial,F,ag (E.trans t)⟩
 ·have kI:¬(k:Int)<(bl.length:Int):=by omega
  have ae:bl.drop k=[]:=Ak6 h;rw[ae]at B;simp only[List.flatMap_nil]at B;unfold pcs at B;subst B;obtain⟨c,T⟩:=z.br;have au:b0+3<o.length:=(BG.1 z.ba).1;have z4:=z.no;have e2:AU 1 o (.ptr (b0+2) 0) (I 0)=some (o.set (b0+2) (some (.cells [I 0]))):=rE T (by simp) rfl;simp only[Aj1,kI,e2,A9];generalize ad:o.set (b0+2) (some (AObj.cells [I 0]))=H4;have g4:∀j,j≠b0+2->H4[j]?=o[j]?:=λj g=>by rw[<- ad,Cc (Al6 g)]
  have t2:H4[b0+2]?=some (some (.cells [I 0])):=by rw[<- ad];exact HU (by omega)
  have l4:H4.length=o.length:=by rw[<- ad,Ak4]
  simp only[Ah t2,Ah3,BH];refine⟨Q,by trivial,z.st.keep λj g=>?_,ag ⟨by have:=D.len;omega,λj g C h3 hp=>by rw[g4 j (by omega)];exact D.same j g C h3 hp,D.ids⟩⟩;rcases g with rfl | g
  ·exact g4 j (by omega)
  ·exact g4 j (λe=>z.nb (b0+2) (by omega) (by omega) (by rw[<- e];exact g)))
theorem Ajp {N:Nat}{s:StS}{a:Nat}{p:AV}{H:AH}(h:StAt s a p H)(i:SW N s)(e:N<=900000)(ino:Int):∃r H',(r=.tup [I (Ay s ino).1.1,I (Ay s ino).2]/\Grew H H')/\Ba0 60 [.ptr a 0,I ino] H r H':=Z2 (by
 unfold Vl;obtain⟨R,f,r,b,⟨rfl,c⟩,g⟩:=Kl h i e ino;have j:=SV.oneA f;refine bC_of g ?_;have d:=Grew.app b [some (AObj.cells [I (Ay s ino).1.1,R])];simp only[Aa9,Ab1,jP,Ad2,ID _ _ j,Ah BE];exact⟨by trivial,c.trans d⟩)
theorem Ajq {N:Nat}{s:StS}{c:Nat}{p a2:AV}{H:AH}{nm:List UInt8}{bl:List (AV×List UInt8)}(aa:StAt s c p H)(G:SW N s)(X:nm.length<=9223372036854775807)
  (E:Ac H 1 a2=some (bl.map Prod.fst,bl.length)) (F:∀j∈Ba a2,j≠c/\j∉Ba p) (e:∀x∈bl,Ac H 1 x.1=some (Bp x.2,x.2.length)/\oneA x.1=true/\x.2.length<=1000000/\∀j∈Ba x.1,j≠c/\j∉Ba p) (W:bl.length<=1000000)
  (hN:N+2+9*Nl (bl.flatMap λx=>BZ x.2)<900000):
  Ba3 11 [.ptr c 0,S (Ax nm),a2] H λr H'=>∃p',r=I (wW s nm (bl.flatMap λx=>BZ x.2)).1/\StAt (wW s nm (bl.flatMap λx=>BZ x.2)).2 c p' H'/\StF c p p' H H':=Aob (by
 unfold pW;obtain⟨r,H1,⟨rfl,p1,C,z⟩,g⟩:=nJ aa G (by omega) X true;have K:=SQ G nm true;refine bC_of g ?_;unfold wW;generalize Bf s nm true=O at*;simp only[Ae6];by_cases u:O.1.2=0;rotate_left
 ·simp only[u,Ad9];exact⟨p1,by trivial,C,z⟩
 simp only[u,Ab8,Aa8];obtain⟨r,M,⟨rfl,J,D,R⟩,g⟩:=mT C K (by omega) O.1.1 0;have L:=RZ K O.1.1 0;refine bC_of g ?_;generalize DL O.2 O.1.1 0=Q at*;simp only[Bz,Aa5];have h:=z.trans R;by_cases v:Q.1=0;rotate_left
 ·simp only[v,Ad9];exact⟨J,by trivial,D,h⟩
 simp only[v,Ab8,Aa8];have o:∀{w:AV} {cs:List AV} {n:Nat},Ac H 1 w=some (cs,n)->(∀j∈Ba w,j≠c/\j∉Ba p)->Ac M 1 w=some (cs,n)/\∀j∈Ba w,j≠c/\j∉Ba J:=λt k=>
  ⟨Ai t λj b=>h.same j (A5 t j b) (k j b).1 (k j b).2,λj b=>⟨(k j b).1,λq=>(h.ids j q).elim (k j b).2 (λq=>by have:=A5 t j b;omega)⟩⟩
 refine⟨_,Aum (ino:=O.1.1) D L (o E F).1 (o E F).2 (λx f=>⟨(o (e x f).1 (e x f).2.2.2).1,(e x f).2.1,(e x f).2.2.1,(o (e x f).1 (e x f).2.2.2).2⟩) W (by omega),?_⟩;have w3:=Aez (ino:=O.1.1) (l:=bl.flatMap λx=>BZ x.2) (a:=0) (m:=0) L;generalize pcs O.1.1 (bl.flatMap λx=>BZ x.2) Q.2 0 0=Z at*;rintro r d ⟨p3,rfl,i,T⟩;have A:=h.trans T;simp only[Bz,Aa5];by_cases y:Z.2=0;rotate_left
 ·simp only[y,Ad9];exact⟨p3,by trivial,i,A⟩
 simp only[y,Ab8,Aa8];have P:Co d 1 1 (Bx [(I 0)] 1) [(0,1,I O.1.1)]=some (.sl d.length 0 1 1 (.ex 1),d++[some (.cells [I O.1.1])]):=rfl;have B:=Grew.app d [some (AObj.cells [I O.1.1])];have Y:Ac (d++[some (AObj.cells [I O.1.1])]) 1 (.sl d.length 0 1 1 (.ex 1))=some (([O.1.1]:List Int).flatMap Za,([O.1.1]:List Int).length):=by simp[Ac,Za]
 have lo:=i.os_lt;have lp:=i.p_lt;obtain⟨r,H5,⟨rfl,p5,V,U⟩,g⟩:=uZ (i.grew B) w3 (by omega) Y (by intro j b;simp[Ba]at b;subst b;exact⟨by omega,λq=>by have:=lp _ q;omega⟩) (by simp);simp only[P,A6];refine bC_of g ?_;exact⟨p5,by trivial,V,(A.grew B).trans U⟩)
theorem Hi {a:List UInt8}{lo hi:Option AV}{l h:Nat}(b:BL lo 0=some l)(c:BL hi a.length=some h)(f:l<=h)(g:h<=a.length):OI (S (Ax a)) lo hi=some (S (Ax ((a.drop l).take (h - l)))):=by
 have d:BL hi (Ax a).size=some h:=c;have e:h<=(Ax a).size:=g;have:(Ax a).extract l h=Ax ((a.drop l).take (h - l)):=by apply ByteArray.ext;rw[ByteArray.data_extract];simp[Ax,List.extract_eq_take_drop]
 simp[OI,b,d,f,e,this]
def lH (a:List UInt8):Int:=Lib.indexByte a 61
theorem Aun (a:List UInt8): -1<=lH a/\(0<=lH a->(lH a).toNat<a.length):=by
 unfold lH;refine⟨Lib.indexByte_ge a 61,?_⟩
 induction a with
 | nil=>intro h;exact absurd h (by decide)
 | cons b l ih=>
  intro h;unfold Lib.indexByte at h|-;simp only[Al4];split at h
  ·rename_i c;rw[if_pos c];exact Nat.zero_lt_succ _
  ·rename_i c;rw[if_neg c];split at h
   ·exact absurd h (by decide)
   ·rename_i d;rw[if_neg d];have g:=Lib.indexByte_ge l 61;have f:Lib.indexByte l 61≠ -1:=λe=>d (by rw[e];rfl);have:=ih (by omega);omega
theorem xS (a:List UInt8):Ba2 236 [S (Ax a),.lit (.int .u8 61)] (I (lH a)):=λH=>Lj (K:=λr H'=>r=I (lH a)/\H'=H) (by
 unfold DT;refine⟨I (lH a),?_,rfl,rfl⟩;intro G d f c;have b:VRs G [S (Ax a),.lit (.int .u8 61)] d:=c;simp only[VRs,VR]at b;obtain⟨_,_,rfl,rfl,_,_,rfl,rfl,rfl⟩:=b;refine⟨.int .i64 (lH a),?_,by simp only[VR]⟩;rw[run_callFunc_extern func241 (by kernel_rfl) (by kernel_rfl) (by kernel_rfl) (e:=Extern.BytealgIndexByte.indexByte) (by kernel_rfl)];have:=Lib.run_indexByteString (P:=prog) (Ax a) 61 G.w;rw[show(Ax a).data.toList=a by simp[Ax]]at this;rw[this];rfl)
theorem Auo (a:List UInt8):Ba2 234 [S (Ax a),.lit (.string ⟨#[61]⟩)] (I (lH a)):=λH=>NF (K:=λr H'=>r=I (lH a)/\H'=H) (by
 unfold EN;have b:(AV.lit (.string ⟨#[61]⟩))=S (Ax [61]):=rfl;have d:Ev (S (Ax [61]))=some (I 1):=rfl;have e:N5 (S (Ax [61])) (I 0)=some (.lit (.int .u8 61)):=rfl;simp only[b,d,Ad1,Bu,show decide ((1:Int)=0)=false from rfl,Ai9,DC];by_cases c:([61]:List UInt8)=a
 ·subst c;simp only[Ab7];exact⟨by trivial,by trivial⟩
 ·simp only[c,Ac4,Ab7,e];exact Az (xS a) ⟨by trivial,by trivial⟩)
def JZ (a:List UInt8):List UInt8×List UInt8:=if 0<=lH a then(a.take (lH a).toNat,a.drop ((lH a).toNat+1))else(a,[])
theorem Aup {a:List UInt8}(o:a.length<=9223372036854775806):Ba2 217 [S (Ax a),.lit (.string ⟨#[61]⟩)] (.tup [S (Ax (JZ a).1),S (Ax (JZ a).2),B (decide (0<=lH a))]):=BPure.flat λH=>qU (by
 unfold lU
 refine Az (r:=.tup [S (Ax (JZ a).1),S (Ax (JZ a).2),B (decide (0<=lH a))]) (BPure.flat λH=>PD (by
  unfold Jq;refine Az (Auo a) ?_;obtain⟨p,d⟩:=Aun a;unfold JZ;simp only[JP,Aa5];by_cases c:0<=lH a
  ·have d:=d c;obtain⟨k,i⟩:∃k:Nat,lH a=k:=⟨(lH a).toNat,by omega⟩;rw[i]at d c|-;simp only[Ap6]at d;have m:=Hi (a:=a) (lo:=none) (hi:=some (I (k:Int))) (l:=0) (h:=k) rfl (by simp[BL]) (by omega) (by omega);have n:=Hi (a:=a) (lo:=some (I ((k:Int)+1))) (hi:=none) (l:=k+1) (h:=a.length) (by simp only[BL];rw[if_pos (by omega)];congr 1) rfl (by omega) (by omega);have f:(a.drop (k+1)).take (a.length - (k+1))=a.drop (k+1):=Aj3 (by rw[Aj9];omega);have e:Ev (.lit (.string ⟨#[61]⟩))=some (I 1):=rfl;simp only[c,Ad3,m,Aa,e,Au (a:=(k:Int)) (b:=1) (by omega) (by omega),n,Ad4,f,Ap6];exact⟨by trivial,by trivial⟩
  ·simp only[c,Aa8,if_false];exact⟨by trivial,by trivial⟩)) ?_
 simp only[Ad0];exact⟨by trivial,by trivial⟩)
def WB (p a:List UInt8):Bool:=decide (a.take p.length=p)
abbrev Af1:=And.intro @Ac3 @Ao
abbrev Ah9:=And.intro @Ah0 @B8
theorem xR {a p:List UInt8}(f:a.length<=9223372036854775807)(g:p.length<=9223372036854775807):Ba2 228 [S (Ax a),S (Ax p)] (B (WB p a)):=BPure.flat λH=>Lh (by
 unfold FQ;have i:Ev (S (Ax a))=some (I a.length):=FL f;have b:Ev (S (Ax p))=some (I p.length):=FL g;unfold WB;simp only[i,b,Ad5,JP];by_cases c:p.length<=a.length
 ·have d:=Hi (a:=a) (lo:=none) (hi:=some (I (p.length:Int))) (l:=0) (h:=p.length) rfl (by simp[BL]) (by omega) c;simp only[Ad4]at d;simp only[show((p.length:Int)<=(a.length:Int)) by omega,Af1,b,Aa,d,DC];exact⟨by trivial,by trivial⟩
 ·have:¬a.take p.length=p:=λe=>c (by rw[<- e,Aj4];omega);simp only[show ¬((p.length:Int)<=(a.length:Int)) by omega,Ah9,show((false==true)=false)from rfl,AT,Aa,this];exact⟨by trivial,by trivial⟩)
theorem kC {a p:List UInt8}(f:a.length<=9223372036854775807)(b:p.length<=9223372036854775807):Ba2 194 [S (Ax a),S (Ax p)] (.tup [S (Ax (if WB p a=true then a.drop p.length else a)),B (WB p a)]):=BPure.flat λH=>Y8 (by
 unfold Tu
 refine Az (r:=.tup [S (Ax (if WB p a=true then a.drop p.length else a)),B (WB p a)]) (BPure.flat λH=>Lg (by
  unfold FP;refine Az (xR f b) ?_;have i:Ev (S (Ax p))=some (I p.length):=FL b;simp only[Ag1];cases c:WB p a with
  | true=>
   have g:p.length<=a.length:=by have:=of_decide_eq_true c;have e:=congrArg List.length this;rw[Aj4]at e;omega
   have d:=Hi (a:=a) (lo:=some (I (p.length:Int))) (hi:=none) (l:=p.length) (h:=a.length) (by simp[BL]) rfl g (by omega);rw[Aj3 (by rw[Aj9];omega)]at d;simp only[Aa3,i,Aa,d,if_true];exact⟨by trivial,by trivial⟩
  | false=>
   simp only[Aa4,An];exact⟨by trivial,by trivial⟩)) ?_
 simp only[Ad0];exact⟨by trivial,by trivial⟩)
def Md (c:UInt8):Prop:=97<=c.toNat/\c.toNat<=122
instance (c:UInt8):Decidable (Md c):=by unfold Md;infer_instance
theorem Auq (c:UInt8):Ba2 214 [.lit (.int .u8 c.toNat)] (B (decide (Md c))):=BPure.flat λH=>vO (by
 unfold sU;unfold Md;simp only[JP,Ad5];by_cases h:97<=c.toNat
 ·simp only[show(97:Int)<=(c.toNat:Int) by omega,Af1,Aa,Vx];refine⟨?_,by trivial⟩;by_cases a:c.toNat<=122
  ·simp[h,a];omega
  ·simp[h,a];omega
 ·simp only[show ¬(97:Int)<=(c.toNat:Int) by omega,Ah9,show((false==true)=false)from rfl,AT,Aa];exact⟨by simp[h],by trivial⟩)
def NH (a:List UInt8):Prop:=a≠[]/\a.length<=10/\∀c∈a,Md c
instance (a:List UInt8):Decidable (NH a):=by unfold NH;infer_instance
abbrev Aj0:=And.intro @Aa @Ab7
theorem Aur {a:List UInt8}(u:a.length<=9223372036854775806):Ba2 218 [S (Ax a)] (B (decide (NH a))):=BPure.flat λH=>Aod (by
 unfold Agq;have l:Ev (S (Ax a))=some (I a.length):=FL (by omega);simp only[l,Aa];refine lY (λn o p q H'=>∃k:Nat,k+n=a.length/\o=S (Ax a)/\p=I a.length/\q=I k/\H'=H/\∀m y,m<k->a[m]?=some y->Md y) ?_ a.length ⟨0,by omega,rfl,rfl,rfl,rfl,by omega⟩;rintro n o p q H' R s ⟨k,v,rfl,rfl,rfl,rfl,j⟩;unfold dE;simp only[Ac1];rcases Aj5 k a.length with h | h
 ·have f:=Dq h;generalize a[k]=y at f;simp only[show(k:Int)<(a.length:Int) by omega,Aj0,I7 rfl f];refine Az (Auq y) ?_;simp only[Ag1];by_cases g:Md y
  ·simp only[g,Ah8,Au (a:=(k:Int)) (b:=1) (by omega) (by omega),Aa];refine s (n - 1) _ _ _ _ (by omega) ⟨k+1,by omega,rfl,rfl,by simp,rfl,?_⟩;intro m z d e;by_cases c:m=k
   ·rw[c,f]at e;injection e with e;rw[<- e];exact g
   ·exact j m z (by omega) e
  ·have:¬NH a:=λd=>g (d.2.2 y (Aj2 f));simp only[g,this,Ag4];exact⟨by trivial,by trivial⟩
 ·have all:∀c∈a,Md c:=λc t=>by obtain⟨m,d⟩:=Ak0.1 t;have:=(BG.1 d).1;exact j m c (by omega) d
  have r:(AV.lit (.string ⟨#[]⟩))=S (Ax []):=rfl;simp only[show ¬(k:Int)<(a.length:Int) by omega,Ac4,r,JR,A7];by_cases c:a=[]
  ·have:¬NH a:=λd=>d.1 c;simp only[c,Pr,Ah9,show((false==true)=false)from rfl,AT,Aa];rw[c]at this;exact⟨by simp[this],by trivial⟩
  ·simp only[c,Aa0,Af1,l,Aa,Vx];refine⟨?_,by trivial⟩;by_cases i:a.length<=10
   ·have:NH a:=⟨c,i,all⟩;simp[this];omega
   ·have:¬NH a:=λd=>i d.2.1;simp[this];omega)
abbrev Tx:=List UInt8
def BT (t:Tx):List AV:=[S (Ax t)]
def D0 (p:Tx×Tx):List AV:=[S (Ax p.1),S (Ax p.2)]
theorem dQ (t:Tx):(BT t).length=1:=rfl
theorem tI (t:Tx×Tx):(D0 t).length=2:=rfl
def WD (s:Tx):Option (Option (Tx×Tx)):=
 if WB [45,45] s=true then(if NH (JZ (s.drop 2)).1 then some (some (JZ (s.drop 2)))else none)
 else if WB [45] s=true/\s.drop 1≠[]then none else some none
def Ex:List Tx->List (Tx×Tx)->List Tx->Option (List (Tx×Tx)×List Tx)
 | [],o,r=>some (o,r)
 | s::l,o,r=>if s=[45,45]then some (o,r++l)else match WD s with
  | none=>none
  | some (some kv)=>Ex l (o++[kv]) r
  | some none=>Ex l o (r++[s])
structure Tk (n0 o:Nat)(vl vo vr:AV)(l:List Tx)(op:List (Tx×Tx))(rs:List Tx)(H0 H:AH):Prop where
 obj:H[o]?=some (some (.cells [Ad,vl,vo,vr]))
 no:n0<=o
 sl:Ac H 1 vl=some (l.flatMap BT,l.length)
 il:∀i∈Ba vl,i<n0
 so:Ac H 2 vo=some (op.flatMap D0,op.length)
 oo:Bm vo=true
 io:∀i∈Ba vo,n0<=i/\i≠o
 sr:Ac H 1 vr=some (rs.flatMap BT,rs.length)
 ow:Bm vr=true
 ir:∀i∈Ba vr,n0<=i/\i≠o
 dj:∀i∈Ba vo,i∉Ba vr
 g:n0<=H.length/\∀i,i<n0->H[i]?=H0[i]?
section
variable {n0 o : Nat} {vl vo vr : AV} {l : List Tx} {op : List (Tx × Tx)} {rs : List Tx} {H0 H : AH}
theorem Tk.lt (h:Tk n0 o vl vo vr l op rs H0 H):o<H.length:=(BG.1 h.obj).1
theorem Tk.move {a b:AV}{d:List (Tx×Tx)}{e:List Tx}{H':AH}(h:Tk n0 o vl vo vr l op rs H0 H)(hl:H.length<=H'.length)(f:∀i,i<n0->H'[i]?=H[i]?)(k:H'[o]?=some (some (.cells [Ad,vl,a,b])))
  (r:Ac H' 2 a=some (d.flatMap D0,d.length)) (p:Bm a=true) (m:∀i∈Ba a,n0<=i/\i≠o) (s:Ac H' 1 b=some (e.flatMap BT,e.length)) (q:Bm b=true) (n:∀i∈Ba b,n0<=i/\i≠o) (j:∀i∈Ba a,i∉Ba b):Tk n0 o vl a b l d e H0 H':=
 ⟨k,h.no,Ai h.sl λi c=>f i (h.il i c),h.il,r,p,m,s,q,n,j,Al1 h.g.1 hl,λi c=>(f i c).trans (h.g.2 i c)⟩
theorem Aus (h:Tk n0 o vl vo vr l op rs H0 H)(G:op.length<=1000)(k v:Tx):∃r H',(r=.tup []/\∃F,Tk n0 o vl F vr l (op++[(k,v)]) rs H0 H')/\Ba0 219 [.ptr o 0,S (Ax k),S (Ax v)] H r H':=iH (by
 unfold Z7;have A:=h.lt;have s:Dy [(.lit (.string ⟨#[]⟩)),(.lit (.string ⟨#[]⟩))] [(0,1,S (Ax k)),(1,1,S (Ax v))]=some (.agg [S (Ax k),S (Ax v)]):=rfl;have t:Co H 2 1 (Bx [(.lit (.string ⟨#[]⟩)),(.lit (.string ⟨#[]⟩))] 1) [(0,2,.agg [S (Ax k),S (Ax v)])]=some (.sl H.length 0 1 2 (.ex 1),H++[some (.cells [S (Ax k),S (Ax v)])]):=by simp[Co,Bx,Cy,Bb,oneA]
 have g:=Grew.app H [some (AObj.cells [S (Ax k),S (Ax v)])];have E:Ac (H++[some (AObj.cells [S (Ax k),S (Ax v)])]) 2 (.sl H.length 0 1 2 (.ex 1))=some ([S (Ax k),S (Ax v)],1):=by rw[AS BE (by simp)];rfl
 obtain⟨r,b,m,a2,p,q,f,c⟩:=Cn (sz:=2) (bytes:=32) (g.slice h.so) h.oo (AA E) (by omega);have B:(H++[some (AObj.cells [S (Ax k),S (Ax v)])]).length=H.length+1:=by simp
 rw[B]at q f c;have d:∀i,i<H.length->i∉Ba vo->b[i]?=H[i]?:=λi w x=>(f i (by omega) x).trans (g.2 i w);have C:b[o]?=some (some (.cells [Ad,vl,vo,vr])):=(d o A λz=>(h.io o z).2 rfl).trans h.obj;have D:=AI a2;have u:AU 1 b (.ptr o 2) r=some (b.set o (some (.cells [Ad,vl,r,vr]))):=by rw[AG (n:=1) (xs:=[r]) (cs:=[Ad,vl,vo,vr]) (Bn D) C rfl (by simp)];rfl
 simp only[Ac9,Ao8,Ah h.obj,s,t,Ad2,m,u];have e:∀i,i≠o->(b.set o (some (.cells [Ad,vl,r,vr])))[i]?=b[i]?:=λi a=>Cc (Al6 a);have j:∀i∈Ba r,n0<=i/\i≠o:=λi a=>by
  rcases c i a with z | z
  ·exact h.io i z
  ·have:=h.g.1;exact⟨by omega,by omega⟩
 refine⟨by trivial,r,h.move (by rw[Ak4];omega) (λi a=>?_) (HU (by omega)) ?_ a2 j ?_ h.ow h.ir ?_⟩
 ·have:=h.no;have:=h.g.1;rw[e i (by omega)];exact d i (by omega) λz=>by have:=(h.io i z).1;omega
 ·have:(op++[(k,v)]).flatMap D0=op.flatMap D0++[S (Ax k),S (Ax v)]:=by simp[D0]
  rw[this,Ak1];exact Ai p λi a=>e i (j i a).2
 ·exact Ai h.sr λi a=>by rw[e i (h.ir i a).2];exact d i (A5 h.sr i a) λz=>h.dj i z a
 ·intro i a z;rcases c i a with y | y
  ·exact h.dj i y z
  ·have:=A5 h.sr i z;omega)
theorem Aut (h:Tk n0 o vl vo vr l op rs H0 H)(e:op.length<=1000){s:Tx}(hs:s.length<=1000000):∃r H',(r=B (decide (NH (JZ s).1))/\(NH (JZ s).1->∃a,Tk n0 o vl a vr l (op++[JZ s]) rs H0 H')/\n0<=H'.length/\∀i,i<n0->H'[i]?=H0[i]?)/\Ba0 195 [.ptr o 0,S (Ax s)] H r H':=dF (by
 unfold Xm;refine Az (Aup (by omega)) ?_;have f:(JZ s).1.length<=s.length:=by
  unfold JZ;split
  ·simp only[Aj4];omega
  ·exact Aj7 _
 simp only[Ad0];refine Az (Aur (by omega)) ?_;simp only[Ag1];by_cases c:NH (JZ s).1
 ·simp only[c,Ah8];obtain⟨r,H',⟨rfl,a,b⟩,d⟩:=Aus h e (JZ s).1 (JZ s).2;refine bC_of d ?_;exact⟨by trivial,λ_=>⟨a,b⟩,b.g⟩
 ·simp only[c,Ag4];exact⟨by trivial,λh=>h.elim,h.g⟩)
theorem Auu (x:AV)(H:AH):Ba0 215 [Ad,x] H (I (-1)) H:=by
 obtain⟨r,H',⟨rfl,rfl⟩,c⟩:=I2 (a0:=Ad) (a1:=x) (H:=H) (K:=λr H'=>r=I (-1)/\H'=H) (by unfold EI;have e:AW Ad=some (I 0):=rfl;simp only[e,Aa];refine Gs (λn d f a b H'=>a=I 0/\b=I 0/\H'=H) ?_ 0 ⟨rfl,rfl,rfl⟩;rintro n d f a b H' R i ⟨rfl,rfl,rfl⟩;unfold DR;simp only[Ac1,Ae9];exact⟨by trivial,by trivial⟩);exact c
theorem Auv (h:Tk n0 o vl vo vr l op rs H0 H){s:Tx}(hs:s.length<=1000000)(p:s≠[]):∃r H',(r=B false/\n0<=H'.length/\∀i,i<n0->H'[i]?=H0[i]?)/\Ba0 196 [.ptr o 0,S (Ax s)] H r H':=aH (by
 unfold VT;have j:AE H (S (Ax s))=some (.ptr H.length 0,H++[some (.cells [S (Ax s)])]):=rfl;have g:=Grew.app H [some (AObj.cells [S (Ax s)])];have u:Ev (S (Ax s))=some (I s.length):=FL (by omega);simp only[j,A6,Ah BE,Ah3,BH,u];have t:=g.cells h.obj;have c:n0<=(H++[some (AObj.cells [S (Ax s)])]).length/\∀i,i<n0->(H++[some (AObj.cells [S (Ax s)])])[i]?=H0[i]?:=⟨Al1 h.g.1 g.1,λi b=>(g.2 i (by have:=h.g.1;omega)).trans (h.g.2 i b)⟩;have y:=h.lt;have z:=h.no;have x:(H++[some (AObj.cells [S (Ax s)])]).length=H.length+1:=by simp
 generalize (H++[some (AObj.cells [S (Ax s)])])=H1 at*;refine Ud (λn d v e f H'=>d=.ptr o 0/\e=I s.length/\f=I 0/\H'=H1) ?_ 0 ⟨rfl,rfl,rfl,rfl⟩;rintro n d v e f H' R w ⟨rfl,rfl,rfl,rfl⟩;unfold N6;have q:(0:Int)<(s.length:Int):=by have:=List.length_pos_iff.2 p;omega
 have k:AE H' (I 0)=some (.ptr H'.length 0,H'++[some (.cells [I 0])]):=rfl;have a:=Grew.app H' [some (AObj.cells [I 0])];have m:AU 1 (H'++[some (AObj.cells [I 0])]) (.ptr H'.length 0) (I 0)=some (H'++[some (.cells [I 0])]):=by rw[AG (n:=1) (xs:=[I 0]) (cs:=[I 0]) rfl BE rfl (by simp)];simp[Bb]
 simp only[AM,Ab1,Af,q,Ah2,k,m,A2,Ah (a.cells t),BH];refine bC_of (Auu _ _) ?_;simp only[Ac1,show decide ((-1:Int)<0)=true from rfl,Am];exact⟨by trivial,Al1 c.1 a.1,λi b=>(a.2 i (by have:=h.g.1;omega)).trans (c.2 i b)⟩)
theorem Auw (h:Tk n0 o vl vo vr l op rs H0 H)(E:rs.length<=1000)(s:Tx):
  ∃r b f,Co H 1 1 (Bx [(.lit (.string ⟨#[]⟩))] 1) [(0,1,S (Ax s))]=some (.sl H.length 0 1 1 (.ex 1),H++[some (.cells [S (Ax s)])])/\Gt 1 16 (H++[some (.cells [S (Ax s)])]) vr (.sl H.length 0 1 1 (.ex 1))=some (r,b)/\AU 1 b (.ptr o 3) r=some f/\Tk n0 o vl vo r l op (rs++[s]) H0 f:=by
 have x:=h.lt;have t:Co H 1 1 (Bx [(.lit (.string ⟨#[]⟩))] 1) [(0,1,S (Ax s))]=some (.sl H.length 0 1 1 (.ex 1),H++[some (.cells [S (Ax s)])]):=by simp[Co,Bx,Cy,Bb,oneA]
 have g:=Grew.app H [some (AObj.cells [S (Ax s)])];have D:Ac (H++[some (AObj.cells [S (Ax s)])]) 1 (.sl H.length 0 1 1 (.ex 1))=some ([S (Ax s)],1):=by rw[AS BE (by simp)];rfl
 obtain⟨r,b,m,a2,p,q,j,c⟩:=Cn (sz:=1) (bytes:=16) (g.slice h.sr) h.ow (AA D) (by omega);have A:(H++[some (AObj.cells [S (Ax s)])]).length=H.length+1:=by simp
 rw[A]at q j c;have d:∀i,i<H.length->i∉Ba vr->b[i]?=H[i]?:=λi v w=>(j i (by omega) w).trans (g.2 i v);have B:b[o]?=some (some (.cells [Ad,vl,vo,vr])):=(d o x λz=>(h.ir o z).2 rfl).trans h.obj;have C:=AI a2;have u:AU 1 b (.ptr o 3) r=some (b.set o (some (.cells [Ad,vl,vo,r]))):=by rw[AG (n:=1) (xs:=[r]) (cs:=[Ad,vl,vo,vr]) (Bn C) B rfl (by simp)];rfl
 have e:∀i,i≠o->(b.set o (some (.cells [Ad,vl,vo,r])))[i]?=b[i]?:=λi a=>Cc (Al6 a);have k:∀i∈Ba r,n0<=i/\i≠o:=λi a=>by
  rcases c i a with z | z
  ·exact h.ir i z
  ·have:=h.g.1;exact⟨by omega,by omega⟩
 refine⟨r,b,_,t,m,u,h.move (by rw[Ak4];omega) (λi a=>?_) (HU (by omega)) ?_ h.oo h.io ?_ a2 k ?_⟩
 ·have:=h.no;have:=h.g.1;rw[e i (by omega)];exact d i (by omega) λz=>by have:=(h.ir i z).1;omega
 ·exact Ai h.so λi a=>by rw[e i (h.io i a).2];exact d i (A5 h.so i a) λz=>h.dj i a z
 ·have:(rs++[s]).flatMap BT=rs.flatMap BT++[S (Ax s)]:=by simp[BT]
  rw[this,Ak1];exact Ai p λi a=>e i (k i a).2
 ·intro i a z;rcases c i z with y | y
  ·exact h.dj i a y
  ·have:=A5 h.so i a;omega
abbrev Aw4:=@Option.isSome_none
theorem Aux (h:Tk n0 o vl vo vr l op rs H0 H)(C:op.length<=1000)(D:rs.length<=1000){s:Tx}(hs:s.length<=1000000):
  ∃r H',(r=B (WD s).isSome/\(∀d,WD s=some (some d)->∃E,Tk n0 o vl E vr l (op++[d]) rs H0 H')/\(WD s=some none->∃F,Tk n0 o vl vo F l op (rs++[s]) H0 H')/\n0<=H'.length/\∀i,i<n0->H'[i]?=H0[i]?)/\Ba0 157 [.ptr o 0,S (Ax s)] H r H':=iG (by
 unfold Z6;have w:(AV.lit (.string ⟨#[45,45]⟩))=S (Ax [45,45]):=rfl;have y:(AV.lit (.string ⟨#[45]⟩))=S (Ax [45]):=rfl;have v:∀x:Tx,OX .neq (S (Ax x)) (.lit (.string ⟨#[]⟩))=some (B (decide (x≠[]))):=λx=>JR;rw[w,y];refine Az (kC (a:=s) (p:=[45,45]) (by omega) (by simp)) ?_;unfold WD;simp only[Ab4];cases c:WB [45,45] s with
 | true=>
  simp only[Am,if_true];obtain⟨r,H',⟨rfl,A,j⟩,n⟩:=Aut h C (s:=s.drop 2) (by rw[Aj9];omega);refine bC_of (r:=B (decide (NH (JZ (s.drop 2)).1))) n ?_;by_cases k:NH (JZ (s.drop 2)).1
  ·simp only[k,Aa2,Ar6];refine⟨by trivial,λd b=>?_,λe=>by simp at e,j⟩;injection b with b;injection b with b;rw[<- b];exact A k
  ·simp only[k,B8,if_false,Aw4];exact⟨by trivial,λd b=>by simp at b,λe=>by simp at e,j⟩
 | false=>
  simp only[Ag,An];refine Az (kC (a:=s) (p:=[45]) (by omega) (by simp)) ?_;simp only[Ad0,A7];obtain⟨r,G,I,q,t,u,f⟩:=Auw h D s;cases J:WB [45] s with
  | true=>
   have z:s.drop ([45]:Tx).length=s.drop 1:=rfl;simp only[Do,Af8,z,v,true_and];by_cases m:s.drop 1=[]
   ·simp only[m,Ab8,Aa8,Ar6];simp only[Ac9,Nat.reduceAdd,Ah h.obj,q,Ad2,t,u];exact⟨by trivial,λd b=>by simp at b,λ_=>⟨r,f⟩,f.g⟩
   ·simp only[m,Ad9,Aw4];obtain⟨r,H',⟨rfl,j⟩,n⟩:=Auv h (s:=s.drop 1) (by rw[Aj9];omega) m;refine bC_of n ?_;exact⟨by trivial,λd b=>by simp at b,λe=>by simp at e,j⟩
  | false=>
   simp only[show((false==true)=false)from rfl,Af5,Ag,false_and,Ar6];simp only[Ac9,Nat.reduceAdd,Ah h.obj,q,Ad2,t,u];exact⟨by trivial,λd b=>by simp at b,λ_=>⟨r,f⟩,f.g⟩)
end
end
section
theorem Auy (H:AH):Ba0 156 [.lit (.string ⟨#[]⟩)] H (.tup [Ad,B true]) H:=by
 obtain⟨r,H',⟨rfl,rfl⟩,d⟩:=vN (a0:=.lit (.string ⟨#[]⟩)) (H:=H) (K:=λr H'=>r=.tup [Ad,B true]/\H'=H) (by unfold sS;have e:Ev (.lit (.string ⟨#[]⟩))=some (I 0):=rfl;simp only[e,Aa];refine dC (λn f b c a H'=>b=Ad/\c=I 0/\a=I 0/\H'=H) ?_ 0 ⟨rfl,rfl,rfl,rfl⟩;rintro n f b c a H' R h ⟨rfl,rfl,rfl,rfl⟩;unfold Xl;simp only[Ac1,Ae9];exact⟨by trivial,by trivial⟩);exact d
theorem qF {H:AH}{sz:Nat}{v:AV}{q:List AV×Nat}(h:Ac H sz v=some q):oneA v=true:=by
 cases v with
 | lit a=>cases a<;>first | rfl | (simp[Ac]at h)
 | _=>first | rfl | (simp[Ac]at h)
theorem Auz (l:List Tx):(l.flatMap BT).length=l.length:=by
 induction l with
 | nil=>rfl
 | cons a l ih=>rw[Al5,Ak1,ih,Al4,dQ];omega
def Qp (l:List Tx):Option (List (Tx×Tx)×List Tx):=if 40<l.length then none else Ex l [] []
def Ajr (F:Option (List (Tx×Tx)×List Tx))(r:AV)(H:AH):Prop:=match F with
 | none=>r=.tup [.agg [Ad,Ad],B false]
 | some (op,rs)=>∃vo vr,r=.tup [.agg [vo,vr],B true]/\Ac H 2 vo=some (op.flatMap D0,op.length)/\Ac H 1 vr=some (rs.flatMap BT,rs.length)/\oneA vo=true/\oneA vr=true
theorem Ava {l:List Tx}{v:AV}{H:AH}(O:Ac H 1 v=some (l.flatMap BT,l.length))(A:∀s∈l,s.length<=1000000)(hl:l.length<=9223372036854775807):
  ∃r H',(Ajr (Qp l) r H'/\Grew H H')/\Ba0 83 [.lit (.string ⟨#[]⟩),v] H r H':=vM (by
 unfold sQ;have e1:AE H (.agg [Ad,Ad])=some (.ptr H.length 0,H++[some (.cells [Ad,Ad])]):=rfl;have G:=Grew.app H [some (AObj.cells [Ad,Ad])];have X:=BE (H:=H) (x:=AObj.cells [Ad,Ad]);have l1:(H++[some (AObj.cells [Ad,Ad])]).length=H.length+1:=by simp
 have ab:=G.slice O;have iv:∀i∈Ba v,i<H.length:=A5 O;simp only[e1,A6];generalize (H++[some (AObj.cells [Ad,Ad])])=H1 at*;refine bC_of (Auy H1) ?_;have z0:Dy [Ad,Ad] []=some (.agg [Ad,Ad]):=rfl;have ah:AW v=some (I l.length):=Bt ab;have V:∀a b:AV,A1 true 2 [a,b] 0=some (.agg [a,b]):=λ_ _=>rfl;simp only[Ae4,Ad7,Ai9,ah,C8,Ao];unfold Qp;by_cases aa:40<l.length
 ·have B:AU 2 H1 (.ptr H.length 0) (.agg [Ad,Ad])=some (H1.set H.length (some (.cells [Ad,Ad]))):=by rw[AG (n:=2) (xs:=[Ad,Ad]) (cs:=[Ad,Ad]) (by simp[Cy,oneA]) X rfl (by simp)];rfl
  have C:(H1.set H.length (some (.cells [Ad,Ad])))[H.length]?=some (some (.cells [Ad,Ad])):=HU (by omega);simp only[show(40:Int)<(l.length:Int) by omega,Ad3,z0,Aa,B,A9,Ah C,V,aa];exact⟨rfl,by rw[Ak4];omega,λi e=>by rw[Cc (by omega),G.2 i e]⟩
 simp only[show ¬(40:Int)<(l.length:Int) by omega,Aa8,aa,if_false];generalize hF:Ex l [] []=F;have o1:=qF O;have z1:Dy [Ad,Ad,Ad,Ad] [(0,1,Ad),(1,1,v)]=some (.agg [Ad,v,Ad,Ad]):=by simp[Dy,Bn o1,Bn (show oneA Ad=true from rfl),Bb]
 have e2:AE H1 (.agg [Ad,v,Ad,Ad])=some (.ptr H1.length 0,H1++[some (.cells [Ad,v,Ad,Ad])]):=by simp[o1]
 have M:=Grew.app H1 [some (AObj.cells [Ad,v,Ad,Ad])];simp only[z1,Aa,e2,A6];have ax:∀(H:AH) (sz:Nat),Ac H sz Ad=some ([],0):=λ_ _=>rfl;have aq:Tk H1.length H1.length v Ad Ad l [] [] H1 (H1++[some (AObj.cells [Ad,v,Ad,Ad])]):=
  ⟨BE,Aj7 _,M.slice ab,λi e=>by have:=iv i e;omega,rfl,rfl,by simp[Ba],rfl,rfl,by simp[Ba],by simp[Ba],M.1,λi e=>M.2 i e⟩
 have ae:∀(H':AH) (vl vo vr:AV) (j:List Tx) (op:List (Tx×Tx)) (rs:List Tx),Tk H1.length H1.length vl vo vr j op rs H1 H'->F=some (op,rs)->PB (.ptr H.length 0) (.ptr H1.length 0) H' (λr H'=>Ajr F r H'/\Grew H H'):=by
  intro H' vl vo vr j op rs h q;rw[lX];unfold Xi;have ap:∀a b c d:AV,A1 true 2 [a,b,c,d] 2=some (.agg [c,d]):=λ_ _ _ _=>rfl;have ad:=AI h.oo;have af:=AI h.ow;have Y:=(h.g.2 H.length (by omega)).trans X;have B:AU 2 H' (.ptr H.length 0) (.agg [vo,vr])=some (H'.set H.length (some (.cells [vo,vr]))):=by rw[AG (n:=2) (xs:=[vo,vr]) (cs:=[Ad,Ad]) (by simp[ad,af]) Y rfl (by simp)];rfl
  have ai:=h.g.1;have C:(H'.set H.length (some (.cells [vo,vr])))[H.length]?=some (some (.cells [vo,vr])):=HU (by omega);simp only[Ag0,Ah h.obj,ap,B,A9,Ah C,V];have ne:∀i,i≠H.length->(H'.set H.length (some (.cells [vo,vr])))[i]?=H'[i]?:=λi e=>Cc (Al6 e);rw[q];refine⟨⟨vo,vr,rfl,Ai h.so λi e=>ne i (by have:=(h.io i e).1;omega),Ai h.sr λi e=>ne i (by have:=(h.ir i e).1;omega),ad,af⟩,by rw[Ak4];omega,λi e=>?_⟩;rw[ne i (by omega),h.g.2 i (by omega),G.2 i e]
 refine cY (λn x4 x8 H'=>∃(j:List Tx) (vl vo vr:AV) (op:List (Tx×Tx)) (rs:List Tx),j.length=n/\x4=.ptr H.length 0/\x8=.ptr H1.length 0/\Tk H1.length H1.length vl vo vr j op rs H1 H'/\Ex j op rs=F/\(∀s∈j,s.length<=1000000)/\op.length+j.length<=40/\rs.length+j.length<=40) ?_ l.length
  ⟨l,_,_,_,[],[],rfl,rfl,rfl,aq,hF,A,by simp;omega,by simp;omega⟩
 rintro n x4 x8 u R hR ⟨j,vl,vo,vr,op,rs,rfl,rfl,rfl,h,q,A,n1,n2⟩;unfold Xj;have al:=Bt h.sl;simp only[Ag8,Ah h.obj,al,C8];cases j with
 | nil=>
  simp only[Ap0,Int.cast_ofNat_Int,Ae9];exact ae _ _ _ _ _ _ _ h (by rw[<- q];rfl)
 | cons s j=>
  simp only[Al4]at n1 n2 al;have aj:=h.lt;obtain⟨p,N,ak⟩:=Yi (enc:=BT) (f:=λt=>S (Ax t)) (λ_=>rfl) h.sl (k:=0) (x:=s) rfl;obtain⟨o,b1,D,b3,-,-⟩:=DS (sz:=1) h.sl (lo:=some (I 1)) (hi:=none) (l:=1) (k:=j.length+1) (by simp[BL]) rfl (by omega) (by simp);have D:Ac u 1 o=some (j.flatMap BT,j.length):=by rw[D];have:(s::j).flatMap BT=S (Ax s)::j.flatMap BT:=rfl;have av:=Auz j;rw[this];simp only[Ao5,At8,Al8,Nat.add_sub_cancel];rw[Aj3 (by omega)]
  have ao:=qF D;have e3:AU 1 u (.ptr H1.length 1) o=some (u.set H1.length (some (.cells [Ad,o,vo,vr]))):=by rw[AG (n:=1) (xs:=[o]) (cs:=[Ad,vl,vo,vr]) (Bn ao) h.obj rfl (by simp)];rfl
  have N:AY 1 vl (I 0)=some p:=N;simp only[Al4,show(0:Int)<((j.length+1:Nat):Int) by omega,Aj0,N,ak,b1,e3,A9];have ne:∀i,i≠H1.length->(u.set H1.length (some (.cells [Ad,o,vo,vr])))[i]?=u[i]?:=λi e=>Cc (Al6 e);have m:Tk H1.length H1.length o vo vr j op rs H1 (u.set H1.length (some (.cells [Ad,o,vo,vr]))):=
   ⟨HU aj,Aj7 _,Ai D λi e=>ne i (by have:=h.il i (b3 i e);omega),λi e=>h.il i (b3 i e),Ai h.so λi e=>ne i (h.io i e).2,h.oo,h.io,Ai h.sr λi e=>ne i (h.ir i e).2,h.ow,h.ir,h.dj,by rw[Ak4];exact h.g.1,λi e=>(ne i (by omega)).trans (h.g.2 i e)⟩
  generalize (u.set H1.length (some (.cells [Ad,o,vo,vr])))=H3 at*;have eD:(AV.lit (.string ⟨#[45,45]⟩))=S (Ax [45,45]):=rfl;rw[eD,DC];simp only[Aa5];unfold Ex at q;by_cases E:s=[45,45]
  ·rw[if_pos E]at q;obtain⟨r,w,a1,a2,a3,a4,a5,Z⟩:=Cn (sz:=1) (bytes:=16) m.sr m.ow (AA m.sl) (by omega);have Q:∀i,i<H3.length->i∉Ba vr->w[i]?=H3[i]?:=a5;have am:w[H1.length]?=some (some (.cells [Ad,o,vo,vr])):=(Q _ m.lt λz=>(m.ir _ z).2 rfl).trans m.obj;have an:=AI a2;have e4:AU 1 w (.ptr H1.length 3) r=some (w.set H1.length (some (.cells [Ad,o,vo,r]))):=by rw[AG (n:=1) (xs:=[r]) (cs:=[Ad,o,vo,vr]) (Bn an) am rfl (by simp)];rfl
   simp only[E,Ah2,Ah3,Nat.reduceAdd,Ah m.obj,Aa7,a1,e4];have T:∀i,i≠H1.length->(w.set H1.length (some (.cells [Ad,o,vo,r])))[i]?=w[i]?:=λi e=>Cc (Al6 e);have aw:=m.lt;have ag:∀i∈Ba r,H1.length<=i/\i≠H1.length:=λi e=>by
    rcases Z i e with z | z
    ·exact m.ir i z
    ·exact⟨by omega,by omega⟩
   refine ae _ o vo r j op (rs++j) (m.move (by rw[Ak4];omega) (λi e=>?_) (HU (by omega)) ?_ m.oo m.io ?_ a2 ag ?_) q.symm
   ·rw[T i (by omega)];exact Q i (by omega) λz=>by have:=(m.ir i z).1;omega
   ·exact Ai m.so λi e=>by rw[T i (m.io i e).2];exact Q i (A5 m.so i e) λz=>m.dj i e z
   ·rw[Am6,Ak1];exact Ai a3 λi e=>T i (ag i e).2
   ·intro i e z;rcases Z i z with y | y
    ·exact m.dj i e y
    ·have:=A5 m.so i e;omega
  ·rw[if_neg E]at q;obtain⟨r,L,⟨rfl,q1,q2,U⟩,hc⟩:=Aux m (by omega) (by omega) (s:=s) (A s (by simp));simp only[E,Aa8];refine bC_of hc ?_;cases J:WD s with
   | none=>
    rw[J]at q;simp only at q;have Y:=(U.2 H.length (by omega)).trans X;have B:AU 2 L (.ptr H.length 0) (.agg [Ad,Ad])=some (L.set H.length (some (.cells [Ad,Ad]))):=by rw[AG (n:=2) (xs:=[Ad,Ad]) (cs:=[Ad,Ad]) (by simp[Cy,oneA]) Y rfl (by simp)];rfl
    have ai:=U.1;have C:(L.set H.length (some (.cells [Ad,Ad])))[H.length]?=some (some (.cells [Ad,Ad])):=HU (by omega);simp only[Aw4,Ag1,Aa4,z0,B,A9,Ah C,V];rw[<- q];exact⟨rfl,by rw[Ak4];omega,λi e=>by rw[Cc (by omega),U.2 i (by omega),G.2 i e]⟩
   | some x=>
    rw[J]at q;simp only[Ac8,Ag1];cases x with
    | none=>
     obtain⟨au,W⟩:=q2 J;exact hR j.length _ _ _ (by simp) ⟨j,o,vo,au,op,rs++[s],rfl,rfl,rfl,W,q,λz P=>A z (by simp[P]),by omega,by simp;omega⟩
    | some kv=>
     obtain⟨ar,W⟩:=q1 kv J;exact hR j.length _ _ _ (by simp) ⟨j,o,ar,vr,op++[kv],rs,rfl,rfl,rfl,W,q,λz P=>A z (by simp[P]),by simp;omega,by omega⟩)
theorem Ajs {H:AH}{v:AV}{l:List (Tx×Tx)}{k:Nat}{x:Tx×Tx}(h:Ac H 2 v=some (l.flatMap D0,l.length))(a:l[k]?=some x):∃p,AY 2 v (I (k:Int))=some p/\Aq true 2 H p=some (.agg (D0 x)):=by
 have g:=(BG.1 a).1;obtain⟨p,c,b,d,e,f⟩:=I8 h (i:=(k:Int)) rfl g;refine⟨p,b,?_⟩;rw[PW d (by omega) f,Kq (by omega),Al8,e,DA tI a,Ak9 (by simp[D0]),Aj3 (by simp[D0])]
theorem Avb:Ch prog 159=true:=by kernel_rfl
theorem Avc {d:List Tx}{v:AV}(p:SV BT 1 d v)(J:d.length<=1000000)(x:Tx)(H:AH):Ba0 160 [v,S (Ax x)] H (B (decide (x∈d))) H:=by
 obtain⟨r,H',⟨rfl,rfl⟩,l⟩:=Lp (a0:=v) (a1:=S (Ax x)) (H:=H) (K:=λr H'=>r=B (decide (x∈d))/\H'=H) (by
  unfold Gn
  obtain⟨r,H',⟨⟨i,rfl,F⟩,rfl⟩,l⟩:=Nv (a0:=v) (a1:=S (Ax x)) (H:=H) (K:=λr H'=>(∃i:Int,r=I i/\(0<=i↔x∈d))/\H'=H) (by
   unfold HP;simp only[p.len,Aa];refine JH (λn q s u w H'=>∃k:Nat,k+n=d.length/\q=v/\s=S (Ax x)/\u=I d.length/\w=I k/\H'=H/\∀m y,m<k->d[m]?=some y->y≠x) ?_ d.length ⟨0,by omega,rfl,rfl,rfl,rfl,rfl,by omega⟩;rintro n q s u w H' R E ⟨k,L,rfl,rfl,rfl,rfl,rfl,o⟩;unfold F6;simp only[Ac1];rcases Aj5 k d.length with h | h
   ·have g:=Dq h;generalize d[k]=y at g;have G:∀t,Aq false 1 H' (.ip (BT y++t))=some (S (Ax y)):=λ_=>rfl;simp only[show(k:Int)<(d.length:Int) by omega,Ab7,p.idx dQ g rfl,G,Aa5,DC];by_cases c:x=y
    ·simp only[c,Ab7];refine⟨⟨k,by trivial,?_⟩,by trivial⟩;rw[<- c]at g|-;exact⟨λ_=>Aj2 g,λ_=>by omega⟩
    ·simp only[c,Ac4,Au (a:=(k:Int)) (b:=1) (by omega) (by omega)];refine E (n - 1) _ _ _ _ _ (by omega) ⟨k+1,by omega,rfl,rfl,rfl,by simp,rfl,?_⟩;intro m z f j;by_cases D:m=k
     ·rw[D,g]at j;injection j with j;rw[<- j];exact λe=>c e.symm
     ·exact o m z (by omega) j
   ·simp only[show ¬(k:Int)<(d.length:Int) by omega,Aa8];refine⟨⟨-1,by trivial,λh=>by omega,λf=>?_⟩,by trivial⟩;obtain⟨m,f⟩:=Ak0.1 f;have:=(BG.1 f).1;exact absurd rfl (o m x (by omega) f))
  refine bC_of l ?_;simp only[JP,Aa];exact⟨by simp only[F],by trivial⟩)
 exact l
theorem Avd {b:List Tx}{v:AV}(i:SV BT 1 b v)(f:b.length<=1000000){d:Nat}{H:AH}(h:H[d]?=some (some (.cells [v])))(a:Tx×Tx):∃r H',(r=B (decide (a.1∉b))/\Grew H H')/\Ba0 159 [.agg (D0 a),.ptr d 0] H r H':=rK (by
 unfold nU;have e:AE H (.agg (D0 a))=some (.ptr H.length 0,H++[some (.cells (D0 a))]):=by simp[D0]
 have g:=Grew.app H [some (AObj.cells (D0 a))];have j:(D0 a)[0]?=some (S (Ax a.1)):=rfl;simp only[e,A6,Ah (g.cells h),Ah3,Ai7,Al,Ah BE,j];refine bC_of (Avc i f a.1 _) ?_;simp only[AJ,Aa];refine⟨?_,g⟩;by_cases c:a.1∈b<;>simp[c])
abbrev Ae8:=And.intro @Ab7 @not_false_eq_true
theorem Ave {op:List (Tx×Tx)}{q v:AV}{f:List Tx}{H:AH}(hs:Ac H 2 q=some (op.flatMap D0,op.length))(hl:op.length<=1000000)(A:SV BT 1 f v)(N:f.length<=1000000):
  ∃r H',(r=B (decide (∀e∈op,e.1∈f))/\Grew H H')/\Ba0 84 [q,v] H r H':=yM (by
 unfold yL;have Q:=SV.oneA A;have J:AE H v=some (.ptr H.length 0,H++[some (.cells [v])]):=by simp[AE,Bn Q]
 have g:=Grew.app H [some (AObj.cells [v])];have O:=BE (H:=H) (x:=AObj.cells [v]);have w:=g.slice hs;simp only[J,A6];have Y:(H++[some (AObj.cells [v])]).length=H.length+1:=by simp
 generalize (H++[some (AObj.cells [v])])=H1 at*
 have key:∃r H',(r=B (decide (¬∀e∈op,e.1∈f))/\Grew H1 H')/\Ba0 158 [q,.fn (.func 159) [] [.ptr H.length 0]] H1 r H':=HT (by
  unfold E3
  obtain⟨r,H',⟨⟨i,rfl,M⟩,d⟩,l⟩:=Jm (a0:=q) (a1:=.fn (.func 159) [] [.ptr H.length 0]) (H:=H1) (K:=λr H'=>(∃i:Int,r=I i/\(0<=i↔¬∀e∈op,e.1∈f))/\Grew H1 H') (by
   unfold Fi;simp only[Bt w,Aa];refine Hh (λn C D E F H'=>∃k:Nat,k+n=op.length/\C=q/\D=.fn (.func 159) [] [.ptr H.length 0]/\E=I op.length/\F=I k/\Grew H1 H'/\∀m y,m<k->op[m]?=some y->y.1∈f) ?_ op.length ⟨0,by omega,rfl,rfl,rfl,rfl,Grew.refl _,by omega⟩;rintro n C D E F H' R L ⟨k,X,rfl,rfl,rfl,rfl,d,u⟩;unfold Eg;simp only[Ac1];rcases Aj5 k op.length with h | h
   ·have s:=Dq h;generalize op[k]=y at s;obtain⟨p,S,T⟩:=Ajs (d.slice w) s;simp only[show(k:Int)<(op.length:Int) by omega,Aj0,S,T,sX,Avb,Bool.true_or,Ah5,Ap4];obtain⟨r,U,⟨rfl,t⟩,l⟩:=Avd A N (d.cells O) y;refine bC_of l ?_;by_cases c:y.1∈f
    ·simp only[c,Ad8,Aa8,Au (a:=(k:Int)) (b:=1) (by omega) (by omega)];refine L (n - 1) _ _ _ _ _ (by omega) ⟨k+1,by omega,rfl,rfl,rfl,by simp,d.trans t,?_⟩;intro m z j o;by_cases G:m=k
     ·rw[G,s]at o;injection o with o;rw[<- o];exact c
     ·exact u m z (by omega) o
    ·simp only[c,Ae8,Af];exact⟨⟨k,by trivial,λ_ j=>c (j y (Aj2 s)),λ_=>by omega⟩,d.trans t⟩
   ·simp only[show ¬(k:Int)<(op.length:Int) by omega,Aa8];refine⟨⟨-1,by trivial,λh=>by omega,λj=>absurd (λe P=>?_) j⟩,d⟩;obtain⟨m,j⟩:=Ak0.1 P;have:=(BG.1 j).1;exact u m e (by omega) j)
  refine bC_of l ?_;simp only[JP,Aa];exact⟨by simp only[M],d⟩)
 obtain⟨r,H',⟨rfl,d⟩,l⟩:=key;refine bC_of l ?_;simp only[AJ,Aa];refine⟨?_,g.trans d⟩;by_cases c:∀e∈op,e.1∈f<;>simp)
def gN:Tx:=[115,112,97,114,115,101]
def GM:Tx:=[97,117,116,111]
def JS:Tx:=[97,108,119,97,121,115]
def bQ:Tx:=[110,101,118,101,114]
def E9 (w:Tx):Prop:=w=GM\/w=JS\/w=bQ
instance (w:Tx):Decidable (E9 w):=by unfold E9;infer_instance
def W5:List (Tx×Tx)->Tx->Option Tx
 | [],w=>some w
 | kv::l,_=>if E9 kv.2 then W5 l kv.2 else none
def jQ (op:List (Tx×Tx)):List Tx->Option (Tx×Tx×Tx)
 | [a,b]=>if a=b then none else if ∀c∈op,c.1∈[gN]then(W5 op GM).map λw=>(a,b,w)else none
 | _=>none
def ON (l:List Tx):Option (Tx×Tx×Tx):=match Qp l with
 | none=>none
 | some (op,rs)=>jQ op rs
theorem V5:∀{l:List Tx} {o:List (Tx×Tx)} {r:List Tx} {q:List (Tx×Tx)×List Tx},Ex l o r=some q->q.1.length<=o.length+l.length
 | [],o,r,q,h=>by unfold Ex at h;injection h with h;subst h;simp
 | s::l,o,r,q,h=>by
  unfold Ex at h;split at h
  ·injection h with h;subst h;simp only;omega
  ·split at h
   ·cases h
   ·have:=V5 h;simp only[Ai6]at this|-;omega
   ·have:=V5 h;simp only[Al4]at this|-;omega
def Af3 (P:Option (Tx×Tx×Tx))(r:AV):Prop:=match P with
 | none=>r=.tup [S (Ax []),S (Ax []),S (Ax []),B false]
 | some (a,b,w)=>r=.tup [S (Ax a),S (Ax b),S (Ax w),B true]
theorem Avf {l:List Tx}{v:AV}{H:AH}(hv:Ac H 1 v=some (l.flatMap BT,l.length))(hb:∀s∈l,s.length<=1000000)(hl:l.length<=1000000):
  ∃r H',(Af3 (ON l) r/\Grew H H')/\Ba0 38 [v] H r H':=zI (by
 unfold zH;obtain⟨r,c,⟨hr,Y⟩,M⟩:=Ava hv hb (by omega);refine bC_of M ?_;unfold ON;have X:AE c (.agg [Ad,Ad])=some (.ptr c.length 0,c++[some (.cells [Ad,Ad])]):=rfl;have ap:∀a b:AV,A1 true 2 [a,b] 0=some (.agg [a,b]):=λ_ _=>rfl;cases u:Qp l with
 | none=>
  rw[u]at hr;have hr:r=.tup [.agg [Ad,Ad],B false]:=hr;subst hr;have U:AU 2 (c++[some (AObj.cells [Ad,Ad])]) (.ptr c.length 0) (.agg [Ad,Ad])=some (c++[some (AObj.cells [Ad,Ad])]):=by rw[AG (n:=2) (xs:=[Ad,Ad]) (cs:=[Ad,Ad]) (by simp[Cy,oneA]) BE rfl (by simp)];simp[Bb]
  simp only[Ae4,X,Ad2,U,Aa4,A7,show((true==false)=false)from rfl,AT,FN,Ao,if_true];exact⟨rfl,Y.trans (Grew.app _ _)⟩
 | some q=>
  obtain⟨op,rs⟩:=q;rw[u]at hr;obtain⟨vo,vr,rfl,A,o,ak,al⟩:=hr;have ah:op.length<=1000000:=by
   unfold Qp at u;split at u
   ·cases u
   ·have:=V5 u;simp only[Ap0]at this;omega
  have U:AU 2 (c++[some (AObj.cells [Ad,Ad])]) (.ptr c.length 0) (.agg [vo,vr])=some (c++[some (AObj.cells [vo,vr])]):=by rw[AG (n:=2) (xs:=[vo,vr]) (cs:=[Ad,Ad]) (by simp[ak,al]) BE rfl (by simp)];simp[Bb]
  have L:=Grew.app c [some (AObj.cells [vo,vr])];have A:=L.slice A;have o:=L.slice o;have z:=BE (H:=c) (x:=AObj.cells [vo,vr]);have Z:=Y.trans L;simp only[Ad0,X,Ad2,U,AJ,At6,Ai9];generalize (c++[some (AObj.cells [vo,vr])])=H2 at*;have ae:=Bt o;have F:∀E,Grew H2 E->(Af3 none (.tup [(.lit (.string ⟨#[]⟩)),(.lit (.string ⟨#[]⟩)),(.lit (.string ⟨#[]⟩)),(B false)]))/\Grew H E:=λE g=>⟨rfl,Z.trans g⟩;simp only[Ab5,Ah z,ae,Bz,Ah0,A7];by_cases V:rs.length=2;rotate_left
  ·have:jQ op rs=none:=by
    match rs,V with
    | [],_=>rfl
    | [_],_=>rfl
    | [_,_],h=>exact absurd rfl h
    | _::_::_::_,_=>rfl
   simp only[show((rs.length:Int)≠2) by omega,Ad9,show((true==false)=false)from rfl,AT,FN,A7,Ab9,this];exact F _ (Grew.refl _)
  obtain⟨a,b,rfl⟩:∃a b,rs=[a,b]:=by
   match rs,V with
   | [a,b],_=>exact⟨a,b,rfl⟩
  obtain⟨O,j,P⟩:=Yi (enc:=BT) (f:=λt=>S (Ax t)) (λ_=>rfl) o (k:=0) (x:=a) rfl;obtain⟨Q,m,T⟩:=Yi (enc:=BT) (f:=λt=>S (Ax t)) (λ_=>rfl) o (k:=1) (x:=b) rfl;have j:AY 1 vr (I 0)=some O:=j;have m:AY 1 vr (I 1)=some Q:=m;simp only[Aa6,show((((0:Nat)+1+1:Nat):Int)≠2)=False by simp,Ah9,Ai9,At,Ah z,Ae,Aa7,j,P,m,T,DC];unfold jQ;by_cases W:a=b
  ·simp only[W,Ad3,show((true==false)=false)from rfl,AT,FN,Af];exact F _ (Grew.refl _)
  have eK:W6 1 1 (Bx [(.lit (.string ⟨#[]⟩))] 1) [(0,1,(.lit (.string ⟨#[115,112,97,114,115,101]⟩)))]=some (.imm [S (Ax gN)] 1 1):=rfl;have hK:SV BT 1 [gN] (.imm [S (Ax gN)] 1 1):=SV.imm dQ (λx _=>rfl);simp only[W,B8,Do,Ah z,Ah3,BH,eK,Hu,if_false];obtain⟨r,E,⟨rfl,J⟩,M⟩:=Ave A ah hK (by simp);refine bC_of M ?_;by_cases call:∀kv∈op,kv.1∈[gN];rotate_left
  ·simp only[call,Ag4,Ag1,An];exact F _ J
  have ai:=J.cells z;have am:=J.slice A;simp only[decide_eq_true call,if_pos call,Ag1,Aa3,An,Ah ai,Ae,BH,Bt am];refine iR (λn x4 x6 aa ab ad H'=>∃(k:Nat) (w:Tx),k+n=op.length/\x4=S (Ax w)/\x6=.ptr c.length 0/\vo=aa/\ab=I op.length/\ad=I k/\Grew H2 H'/\W5 (op.drop k) w=W5 op GM) ?_ op.length ⟨0,GM,by omega,rfl,rfl,rfl,rfl,rfl,J,by simp⟩;rintro n x4 x6 aa ab ad d R hR ⟨k,w,hk,rfl,rfl,rfl,rfl,rfl,e,i⟩;unfold ZF;simp only[Ac1];rcases Aj5 k op.length with ag | af
  ·have N:=Dq ag;generalize op[k]=y at N;obtain⟨p,p1,p2⟩:=Ajs (e.slice A) N;have e5:AE d (.agg [(.lit (.string ⟨#[]⟩)),(.lit (.string ⟨#[]⟩))])=some (.ptr d.length 0,d++[some (.cells [S (Ax []),S (Ax [])])]):=rfl;have t5:AU 2 (d++[some (AObj.cells [S (Ax []),S (Ax [])])]) (.ptr d.length 0) (.agg (D0 y))=some (d++[some (.cells (D0 y))]):=by rw[AG (n:=2) (xs:=D0 y) (cs:=[S (Ax []),S (Ax [])]) (by simp[D0,Cy,oneA]) BE rfl (by simp)];simp[Bb,D0]
   have i1:(D0 y)[1]?=some (S (Ax y.2)):=rfl;have g5:=Grew.app d [some (AObj.cells (D0 y))];have hd:op.drop k=y::op.drop (k+1):=Cs N;rw[hd,show W5 (y::op.drop (k+1)) w=if E9 y.2 then W5 (op.drop (k+1)) y.2 else none from rfl]at i;have q1:(AV.lit (.string ⟨#[97,117,116,111]⟩))=S (Ax GM):=rfl;have q2:(AV.lit (.string ⟨#[97,108,119,97,121,115]⟩))=S (Ax JS):=rfl;have q3:(AV.lit (.string ⟨#[110,101,118,101,114]⟩))=S (Ax bQ):=rfl;have K:∀(t:Bool),t=decide (¬E9 y.2)->bB (B t) λan=>bI an ((Af3 ((W5 op GM).map λw=>(a,b,w)) (.tup [(.lit (.string ⟨#[]⟩)),(.lit (.string ⟨#[]⟩)),(.lit (.string ⟨#[]⟩)),(B false)]))/\Grew H (d++[some (AObj.cells (D0 y))])) (bO (Ar .add (I (k:Int)) (I 1)) λao=>R [S (Ax y.2),.ptr c.length 0,vo,I op.length,ao] (d++[some (AObj.cells (D0 y))])):=by
    rintro t rfl;by_cases G:E9 y.2
    ·rw[if_pos G]at i;simp only[G,Ad8,Aa8,Au (a:=(k:Int)) (b:=1) (by omega) (by omega)];exact hR (n - 1) _ _ _ _ _ _ (by omega) ⟨k+1,y.2,by omega,rfl,rfl,rfl,rfl,by simp,e.trans g5,i⟩
    ·rw[if_neg G]at i;simp only[G,Ae8,Af];rw[<- i];exact F _ (e.trans g5)
   simp only[show(k:Int)<(op.length:Int) by omega,Ah2,p1,p2,Ab1,e5,t5,Ah BE,i1,q1,q2,q3,JR,A7];by_cases C:y.2=GM
   ·simp only[C,Pr,Ah9,show((false==true)=false)from rfl,AT,Ad5];have:=K false (by simp[E9,C]);rw[C]at this;exact this
   ·simp only[C,Aa0,Af1,Ad5,JR];by_cases D:y.2=JS
    ·simp only[D,not_true_eq_false,B8,show((false==true)=false)from rfl,AT,An];have:=K false (by simp[E9,D]);rw[D]at this;exact this
    ·simp only[D,Aa0,Ac3,Aa,JR];exact K (decide (¬y.2=bQ)) (by simp[E9,C,D])
  ·have ek:op.drop k=[]:=Ak6 af;rw[ek,show W5 [] w=some w from rfl]at i;have aj:=e.cells z;obtain⟨O,j,P⟩:=Yi (enc:=BT) (f:=λt=>S (Ax t)) (λ_=>rfl) (e.slice o) (k:=0) (x:=a) rfl;obtain⟨Q,m,T⟩:=Yi (enc:=BT) (f:=λt=>S (Ax t)) (λ_=>rfl) (e.slice o) (k:=1) (x:=b) rfl;have j:AY 1 vr (I 0)=some O:=j;have m:AY 1 vr (I 1)=some Q:=m;simp only[show ¬(k:Int)<(op.length:Int) by omega,Aa8,Ab5,Ah aj,j,P,m,T];rw[<- i];exact⟨rfl,Z.trans e⟩)
structure Bes (o:Nat)(cs:List AV)(os:Nat)(p:AV)(H:AH):Prop where
 at':H[o]?=some (some (.cells cs))
 ne:o≠os
 np:o∉Ba p
theorem Bes.step {o:Nat}{cs:List AV}{a:Nat}{p b:AV}{H H':AH}(h:Bes o cs a p H)(f:StF a p b H H'):Bes o cs a b H':=by
 have c:=(BG.1 h.at').1;exact⟨(f.same o c h.ne h.np).trans h.at',h.ne,λz=>(f.ids o z).elim h.np (λz=>by omega)⟩
theorem Bes.grew {o:Nat}{cs:List AV}{a:Nat}{p:AV}{H H':AH}(h:Bes o cs a p H)(g:Grew H H'):Bes o cs a p H':=⟨g.cells h.at',h.ne,h.np⟩
theorem Bes.new {s:StS}{a:Nat}{p:AV}{H:AH}(h:StAt s a p H)(cs:List AV):Bes H.length cs a p (H++[some (.cells cs)]):=
 ⟨BE,by have:=h.os_lt;omega,λz=>by have:=h.p_lt _ z;omega⟩
theorem zB {N:Nat}{s:StS}{M:Nat}{p:AV}{H:AH}(h:StAt s M p H)(j:SW N s)(hN:N<=900000){ino:Int}(Z:(Ay s ino).2=0):
  ∃r H',((∃R,r=.agg [I (Ay s ino).1.1,R]/\SV AB 9 (Ay s ino).1.2 R)/\Grew H H')/\Ba0 85 [.ptr M 0,I ino] H r H':=rO (by
 unfold oG;have q:AE H (.agg [(I 0),Ad])=some (.ptr H.length 0,H++[some (.cells [I 0,Ad])]):=rfl;have G:=Grew.app H [some (AObj.cells [I 0,Ad])];have ag:=BE (H:=H) (x:=AObj.cells [I 0,Ad]);have l1:(H++[some (AObj.cells [I 0,Ad])]).length=H.length+1:=by simp
 simp only[q,A6];generalize (H++[some (AObj.cells [I 0,Ad])])=H1 at*;obtain⟨Rn,aa,r,U,⟨rfl,w⟩,hc⟩:=Aeu (h.grew G) j hN;refine bC_of hc ?_;obtain⟨a,b,f,rfl,ha,B,D⟩:=aa;have ob:=SV.oneA B;have u:yJ false 1 1 (.agg [a,b])=some b:=rfl;simp only[u,Aa,B.len];have ah:=w.cells ag;have al:=w.1;have aj:f.length<=1000000:=by have:=j.now.1.len2;rw[<- D,Ak8]at this;omega
 obtain⟨d,C,J,ab,-⟩:=Fr j Z;have uniq:∀x∈f,x.nd.ino=ino->(Ay s ino).1=(x.nd.size,x.nd.l):=λx g E=>by
  have h1:x.nd∈s.now.2:=by rw[<- D];exact Al9 g
  have q:=(T5 j.now.1 h1).1;have u:=(T5 j.now.1 C).1;rw[E]at q;rw[J,q]at u;rw[ab,u]
 refine aK (λn O S T P Q H'=>∃k:Nat,k+n=f.length/\O=I ino/\S=.ptr H.length 0/\b=T/\P=I f.length/\Q=I k/\Grew U H'/\∀m y,m<k->f[m]?=some y->y.nd.ino≠ino) ?_ f.length ⟨0,by omega,rfl,rfl,rfl,rfl,rfl,Grew.refl _,by omega⟩;rintro n O S T P Q e R hR ⟨k,hk,rfl,rfl,rfl,rfl,rfl,v,K⟩;unfold VV;simp only[Ac1];rcases Aj5 k f.length with ae | ak
 ·have g:=Dq ae;generalize f[k]=x at g;have q0:∀t,Aq true 3 e (.ip (BS x++t))=some (.agg (BS x)):=λ_=>rfl;have L:=SV.oneA x.h;have W:AE e (.agg [(I 0),(I 0),Ad])=some (.ptr e.length 0,e++[some (.cells [I 0,I 0,Ad])]):=rfl;have X:AU 3 (e++[some (AObj.cells [I 0,I 0,Ad])]) (.ptr e.length 0) (.agg (BS x))=some (e++[some (.cells (BS x))]):=by rw[AG (n:=3) (xs:=BS x) (cs:=[I 0,I 0,Ad]) (by simp[BS,L]) BE rfl (by simp)];simp[Bb,BS]
  have A:=Grew.app e [some (AObj.cells (BS x))];have i0:(BS x)[0]?=some (I x.nd.ino):=rfl;have af:A1 true 2 (BS x) 1=some (.agg [I x.nd.size,x.R]):=rfl;have ai:=A.cells (v.cells ah);have am:=v.1;simp only[show(k:Int)<(f.length:Int) by omega,Ah2,B.idx BN g rfl,Ab1,q0,W,X,Ah BE,i0,af,Bu,Af];by_cases c:x.nd.ino=ino
  ·have Y:AU 2 (e++[some (AObj.cells (BS x))]) (.ptr H.length 0) (.agg [I x.nd.size,x.R])=some ((e++[some (AObj.cells (BS x))]).set H.length (some (.cells [I x.nd.size,x.R]))):=by rw[AG (n:=2) (xs:=[I x.nd.size,x.R]) (cs:=[I 0,Ad]) (by simp[L]) ai rfl (by simp)];rfl
   have ad:H.length<(e++[some (AObj.cells (BS x))]).length:=by simp;omega
   have t5:((e++[some (AObj.cells (BS x))]).set H.length (some (.cells [I x.nd.size,x.R])))[H.length]?=some (some (.cells [I x.nd.size,x.R])):=HU ad;simp only[c,Aj0,Y,A9,Ah t5,show ∀a b:AV,A1 true 2 [a,b] 0=some (.agg [a,b])from λ_ _=>rfl];rw[uniq x (Aj2 g) c];refine⟨⟨x.R,rfl,x.h⟩,by rw[Ak4];simp;omega,λi E=>?_⟩;rw[Cc (by omega),A.2 i (by omega),v.2 i (by omega),w.2 i (by omega),G.2 i E]
  ·simp only[c,Ac4,Au (a:=(k:Int)) (b:=1) (by omega) (by omega)];refine hR (n - 1) _ _ _ _ _ _ (by omega) ⟨k+1,by omega,rfl,rfl,rfl,rfl,by simp,v.trans A,?_⟩;intro m z F o;by_cases V:m=k
   ·rw[V,g]at o;injection o with o;rw[<- o];exact c
   ·exact K m z (by omega) o
 ·exfalso;rw[<- D]at C;obtain⟨x,g,rfl⟩:=Am5.1 C;obtain⟨m,F⟩:=Ak0.1 g;have:=(BG.1 F).1;exact K m x (by omega) F J)
theorem rW (l:List Ext)(k:Nat):(l.flatMap AB).drop (k*9)=(l.drop k).flatMap AB:=by
 rcases Aj5 k l.length with h | h
 ·have a:=Dq h;rw[DA AD a,Cs a,Al5]
 ·rw[Ak6 h,Ak6 (by rw[NC AD];exact Ak5 _ h)];rfl
theorem rX (l:List Ext)(k:Nat)(h:k<=l.length):(l.flatMap AB).take (k*9)=(l.take k).flatMap AB:=by
 have e:l.flatMap AB=(l.take k).flatMap AB++(l.drop k).flatMap AB:=by rw[<- Am6,Ao0]
 have a:((l.take k).flatMap AB).length=k*9:=by rw[NC AD,Aj4];congr 1;omega
 rw[e,<- a,List.take_left'];rfl
theorem SV.cutX {l:List Ext}{v:AV}(e:SV AB 9 l v){a k:Nat}{lo hi:Option AV}(g:BL lo 0=some a)(h:BL hi l.length=some k)(i:a<=k)(j:k<=l.length):∃r,Bq 9 v lo hi none=some r/\SV AB 9 ((l.drop a).take (k - a)) r:=by
 have key:∀H:AH,∃r,Bq 9 v lo hi none=some r/\Ac H 9 r=some (((l.drop a).take (k - a)).flatMap AB,((l.drop a).take (k - a)).length)/\(noIds v=true->noIds r=true):=by
  intro H;obtain⟨r,b,f,-,-,d⟩:=DS (e.2 H) (lo:=lo) (hi:=hi) (l:=a) (k:=k) g h i j;refine⟨r,b,?_,d⟩;have m:((l.drop a).take (k - a)).length=k - a:=by rw[Aj4,Aj9];omega
  rw[f,m,rW,rX _ _ (by rw[Aj9];omega)]
 obtain⟨r,b,f,d⟩:=key [];refine⟨r,b,d e.1,λH=>?_⟩;obtain⟨o,c,n,-⟩:=key H;rw[b]at c;injection c with c;rw[c];exact n
def BM (size:Int):List Ext->List Ext
 | []=>[]
 | x::l=>if x.no*8<size then x::BM size l else []
theorem nY {size:Int}:∀{l:List Ext} {k:Nat} {x:Ext},(∀m y,m<k->l[m]?=some y->y.no*8<size)->l[k]?=some x->¬x.no*8<size->BM size l=l.take k
 | [],k,x,_,h,_=>by simp at h
 | y::l,0,x,_,h,hx=>by injection h with h;subst h;unfold BM;rw[if_neg hx];rfl
 | y::l,k+1,x,h1,h,hx=>by unfold BM;rw[if_pos (h1 0 y (by omega) rfl),nY (λm z b a=>h1 (m+1) z (by omega) a) (show l[k]?=some x from h) hx];rfl
theorem sY {size:Int}:∀{l:List Ext},(∀y∈l,y.no*8<size)->BM size l=l
 | [],_=>rfl
 | y::l,h=>by unfold BM;rw[if_pos (h y (by simp)),sY λz a=>h z (by simp[a])]
theorem PP (size:Int):∀(l:List Ext),(BM size l).length<=l.length
 | []=>Aj7 _
 | y::l=>by
  unfold BM;split
  ·have:=PP size l;simp only[Al4];omega
  ·simp
theorem vQ {size:Int}{l:List Ext}{v:AV}(e:SV AB 9 l v)(hl:l.length<=1000000)(M:∀x∈l,0<=x.no/\x.no<137438953472)(H:AH):
  ∃r H',(SV AB 9 (BM size l) r/\Grew H H')/\Ba0 86 [.agg [I size,v]] H r H':=zE (by
 unfold zC;have P:=SV.oneA e;have F:AE H (.agg [I size,v])=some (.ptr H.length 0,H++[some (.cells [I size,v])]):=by simp[P]
 have p:=Grew.app H [some (AObj.cells [I size,v])];have s:=BE (H:=H) (x:=AObj.cells [I size,v]);simp only[F,A6,Ab5,Ah s,e.len];generalize (H++[some (AObj.cells [I size,v])])=H1 at*;refine iO (λn A B C D H'=>∃k:Nat,k+n=l.length/\A=.ptr H.length 0/\v=B/\C=I l.length/\D=I k/\Grew H1 H'/\∀m y,m<k->l[m]?=some y->y.no*8<size) ?_ l.length ⟨0,by omega,rfl,rfl,rfl,rfl,Grew.refl _,by omega⟩;rintro n A B C D d R K ⟨k,V,rfl,rfl,rfl,rfl,h,o⟩;unfold ZA;have u:=h.cells s;simp only[Ac1];rcases Aj5 k l.length with L | T
 ·have f:=Dq L;generalize l[k]=x at f;have W:=M x (Aj2 f);have Q:∀t,Aq true 9 d (.ip (AB x++t))=some (.agg (AB x)):=λt=>by show A1 true 9 (AB x++t) 0=_;rw[Kq (by rw[Ak1,AD];omega),Al8,Ak9 (by rw[AD];omega),Aj3 (by rw[AD];omega)]
  have G:AE d (.agg [(I 0),u0Z,u0Z,u0Z,u0Z,u0Z,u0Z,u0Z,u0Z])=some (.ptr d.length 0,d++[some (.cells [I 0,u0Z,u0Z,u0Z,u0Z,u0Z,u0Z,u0Z,u0Z])]):=rfl;have J:AU 9 (d++[some (AObj.cells [I 0,u0Z,u0Z,u0Z,u0Z,u0Z,u0Z,u0Z,u0Z])]) (.ptr d.length 0) (.agg (AB x))=some (d++[some (.cells (AB x))]):=by rw[AG (n:=9) (xs:=AB x) (cs:=[I 0,u0Z,u0Z,u0Z,u0Z,u0Z,u0Z,u0Z,u0Z]) (by simp) BE (AD x) (by simp)];rw[Fp _ _ _ (by simp[AD]),Ap7,Ao4,Ak6 (by simp[AD]),Am9];simp
  have i:=Grew.app d [some (AObj.cells (AB x))];have O:(AB x)[0]?=some (I x.no):=rfl;simp only[show(k:Int)<(l.length:Int) by omega,Ah2,e.idx AD f rfl,Ab5,Q,G,J,Ah BE,Ah (i.cells u),O,Dp (a:=x.no) (b:=8) (by omega) (by omega),JP,Af];by_cases c:x.no*8<size
  ·simp only[show ¬size<=x.no*8 by omega,Ac4,Au (a:=(k:Int)) (b:=1) (by omega) (by omega)];refine K (n - 1) _ _ _ _ _ (by omega) ⟨k+1,by omega,rfl,rfl,rfl,by simp,h.trans i,?_⟩;intro m z j g;by_cases E:m=k
   ·rw[E,f]at g;injection g with g;rw[<- g];exact c
   ·exact o m z (by omega) g
  ·obtain⟨w,S,q⟩:=e.cutX (lo:=none) (hi:=some (I (k:Int))) (a:=0) (k:=k) rfl (by simp[BL]) (by omega) (by omega);rw[Al8,At1]at q;simp only[show size<=x.no*8 by omega,Aj0,S];rw[nY o f c];exact⟨q,p.trans (h.trans i)⟩
 ·have:BM size l=l:=sY λy N=>by obtain⟨m,j⟩:=Ak0.1 N;have:=(BG.1 j).1;exact o m y (by omega) j
  simp only[show ¬(k:Int)<(l.length:Int) by omega,Aa8,Ab5,Ah u];rw[this];exact⟨e,p.trans h⟩)
end
end Go.Proofs.YtbppnhenlboefaaGreat.Av
section
set_option maxHeartbeats 1000000
namespace Go.Proofs.YtbppnhenlboefaaGreat.Av
open Go Go.RowKit Go.Proofs.Tryz
def OE (b:List UInt8):Prop:=∀c∈b,c=0
instance (b:List UInt8):Decidable (OE b):=by unfold OE;infer_instance
theorem Avg {b:List UInt8}{v:AV}{H:AH}(u:Ac H 1 v=some (Bp b,b.length))(hl:b.length<=1000000):
  ∃i:Int,(i<b.length↔¬OE b)/\Ba0 199 [v] H (I i) H:=by
 obtain⟨r,H',⟨⟨i,rfl,B⟩,rfl⟩,o⟩:=xC (a0:=v) (H:=H) (K:=λr H'=>(∃i:Int,r=I i/\(i<b.length↔¬OE b))/\H'=H) (by
  unfold uL;refine fW (λn q w H'=>∃k:Nat,k+n=b.length/\q=v/\w=I k/\H'=H/\∀m y,m<k->b[m]?=some y->y=0) ?_ b.length ⟨0,by omega,rfl,rfl,rfl,by omega⟩;rintro n q w H' R A ⟨k,G,rfl,rfl,rfl,s⟩;unfold Yq;simp only[Bt u,Ad5,AM];rcases Aj5 k b.length with h | h
  ·have j:=Dq h;generalize b[k]=y at j;have C:Ac H' 1 q=some (b.flatMap Ft,b.length):=by rw[Kn];exact u
   obtain⟨p,D,E⟩:=Yi (enc:=Ft) (f:=fun t:UInt8=>.lit (.int .u8 t.toNat)) (λ_=>rfl) C j;simp only[show(k:Int)<(b.length:Int) by omega,Ag6,D,E,Bu];by_cases c:y=0
   ·have l:((y.toNat:Int)=0):=by rw[c];rfl
    simp only[l,Aj0,Au (a:=(k:Int)) (b:=1) (by omega) (by omega)];refine A (n - 1) _ _ _ (by omega) ⟨k+1,by omega,rfl,by simp,rfl,?_⟩;intro m z g d;by_cases x:m=k
    ·rw[x,j]at d;injection d with d;rw[<- d];exact c
    ·exact s m z (by omega) d
   ·have l:¬((y.toNat:Int)=0):=λe=>c (UInt8.toNat_inj.1 (by rw[show(0:UInt8).toNat=0 from rfl];omega));simp only[l,Aa8];exact⟨⟨k,by trivial,λ_ d=>c (d y (Aj2 j)),λ_=>by omega⟩,by trivial⟩
  ·simp only[show ¬(k:Int)<(b.length:Int) by omega,Ag7,show((false==true)=false)from rfl];refine⟨⟨k,by trivial,λh=>by omega,λg=>absurd (λc o=>?_) g⟩,by trivial⟩;obtain⟨m,g⟩:=Ak0.1 o;have:=(BG.1 g).1;exact s m c (by omega) g)
 exact⟨i,B,o⟩
theorem Avh {b:List UInt8}{v w:AV}{H:AH}(m:Ac H 1 w=some ([v],1))(j:Ac H 1 v=some (Bp b,b.length))(hl:b.length<=1000000):Ba0 162 [w] H (B (decide (OE b))) H:=by
 obtain⟨r,H',⟨rfl,rfl⟩,d⟩:=xD (a0:=w) (H:=H) (K:=λr H'=>r=B (decide (OE b))/\H'=H) (by
  unfold uM;simp only[Bt m,Aa];refine fZ (λn e o f H'=>e=w/\o=I 1/\H'=H/\((n=1/\f=I 0)\/(n=0/\f=I 1/\OE b))) ?_ 1 ⟨rfl,rfl,rfl,.inl ⟨rfl,rfl⟩⟩;rintro n e o f H' R u ⟨rfl,rfl,rfl,⟨rfl,rfl⟩ | ⟨rfl,rfl,x⟩⟩
  ·unfold Q3;obtain⟨p,c,a,q,s,t⟩:=I8 m (i:=0) (k:=0) rfl (by omega);have y:Aq false 1 H' p=some v:=by rw[PW q (by omega) t,Ae];have:=congrArg (λl=>l[0]?) s;simpa[Ak2]using this
   have a:AY 1 e (I 0)=some p:=a;obtain⟨i,g,d⟩:=Avg j hl;simp only[Ac1,show decide ((0:Int)<1)=true from rfl,Am,a,y];refine bC_of d ?_;simp only[Bt j,Ac1];by_cases c:OE b
   ·simp only[show ¬i<(b.length:Int)from λh=>g.1 h c,Ac4,show Ar .add (I 0) (I 1)=some (I 1)from rfl];exact u 0 _ _ _ _ (by omega) ⟨rfl,rfl,rfl,.inr ⟨rfl,rfl,c⟩⟩
   ·simp only[g.2 c,Ab7,c,B8];exact⟨by trivial,by trivial⟩
  ·unfold Q3;simp only[Ac1,Ae9,x,B3];exact⟨by trivial,by trivial⟩)
 exact d
def Aa1 (to size:Int)(s:StS)(no:Int)(b:List UInt8):Int×StS:=((BD s to (no*8) (b.take (min 8 (size - no*8)).toNat)).1.2,(BD s to (no*8) (b.take (min 8 (size - no*8)).toNat)).2)
theorem lV {N:Nat}{s:StS}(h:SW N s)(to size no:Int){b:List UInt8}(a:b.length=8):SW (N+9) (Aa1 to size s no b).2:=by
 unfold Aa1;exact uS h to (no*8) (b.take (min 8 (size - no*8)).toNat) (k:=1) (λ_=>by rw[Aj4];omega)
theorem tE {N:Nat}{s:StS}{c e:Nat}{p v B:AV}{fr to size no:Int}{b:List UInt8}{H:AH}(h:StAt s c p H)(y:SW N s)(g:Bes e [.ptr c 0,I fr,I to,I size,B] c p H)(G:N+72<900000)
  (x:Ac H 1 v=some (Bp b,8)) (J:b.length=8) (hi:∀j∈Ba v,j≠c/\j∉Ba p) (D:0<=no) (E:no*8<size) (F:size<=1099511627776):
  ∃r H',(r=I (Aa1 to size s no b).1/\∃p',StAt (Aa1 to size s no b).2 c p' H'/\StF c p p' H H')/\Ba0 161 [.ptr e 0,I no,v] H r H':=aO (by
 unfold VX;have i:amm gZ [(I 8),I (size - no*8)]=some (I (min 8 (size - no*8))):=by rw[JT,pS,Int.min_comm]
 obtain⟨m,f⟩:∃m:Nat,min 8 (size - no*8)=m:=⟨(min 8 (size - no*8)).toNat,by omega⟩;obtain⟨w,z,d,A,-,-⟩:=DS x (lo:=none) (hi:=some (I (m:Int))) (l:=0) (k:=m) rfl (by simp[BL]) (by omega) (by omega);have u:(b.take m).length=m:=by rw[Aj4];omega
 have d:Ac H 1 w=some (Bp (b.take m),(b.take m).length):=by rw[d,u];simp only[Ad4,Ao5,PR]
 obtain⟨r,C,⟨rfl,p',o,n⟩,q⟩:=mU h y to (no*8) (b:=b.take m) (by omega) d (λj t=>hi j (A j t));simp only[Ac9,Nat.reduceAdd,Ah g.at',Dp (a:=no) (b:=8) (by omega) (by omega),B4 (a:=size) (b:=no*8) (by omega) (by omega),i,f,z];refine bC_of q ?_;simp only[Ad0];unfold Aa1;rw[f,Ap6];exact⟨by trivial,p',o,n⟩)
theorem Avi (H:AH)(x:Ext):AE H (.agg [(I 0),u0Z,u0Z,u0Z,u0Z,u0Z,u0Z,u0Z,u0Z])=some (.ptr H.length 0,H++[some (.cells [I 0,u0Z,u0Z,u0Z,u0Z,u0Z,u0Z,u0Z,u0Z])])/\
  AU 9 (H++[some (AObj.cells [I 0,u0Z,u0Z,u0Z,u0Z,u0Z,u0Z,u0Z,u0Z])]) (.ptr H.length 0) (.agg (AB x))=some (H++[some (.cells (AB x))]):=by
 refine⟨rfl,?_⟩;rw[AG (n:=9) (xs:=AB x) (cs:=[I 0,u0Z,u0Z,u0Z,u0Z,u0Z,u0Z,u0Z,u0Z]) (by simp) BE (AD x) (by simp)];rw[Fp _ _ _ (by simp[AD]),Ap7,Ao4,Ak6 (by simp[AD]),Am9];simp
theorem rdE (H:AH)(x:Ext)(t:List AV):Aq true 9 H (.ip (AB x++t))=some (.agg (AB x)):=by
 show A1 true 9 (AB x++t) 0=_;rw[Kq (by rw[Ak1,AD];omega),Al8,Ak9 (by rw[AD];omega),Aj3 (by rw[AD];omega)]
theorem Ajt {H:AH}{o:Nat}{x:Ext}(h:H[o]?=some (some (.cells (AB x)))):Ty 8 1 H (.ptr o 1) none none=some (.sl o 1 8 1 (.ex 8))/\Ac H 1 (.sl o 1 8 1 (.ex 8))=some (Bp x.b,8):=by
 constructor
 ·simp[Ty,BL,h,AD]
 ·rw[AS h (by rw[AD];omega)];have:((AB x).drop 1).take (8*1)=Bp x.b:=by show(Bp x.b).take 8=Bp x.b;rw[Aj3 (by rw[BY,x.hb];omega)]
  rw[this]
def Jg (to size:Int):List Ext->StS->Int×StS
 | [],s=>(0,s)
 | x::l,s=>if OE x.b then Jg to size l s else if(Aa1 to size s x.no x.b).1≠0 then Aa1 to size s x.no x.b else Jg to size l (Aa1 to size s x.no x.b).2
theorem Avj {N:Nat}{s:StS}{e q:Nat}{p i:AV}{fr to size:Int}{l:List Ext}{H:AH}(h:StAt s e p H)(hw:SW N s)(K:Bes q [.ptr e 0,I fr,I to,I size,i] e p H)(T:SV AB 9 l i)(hl:l.length<=1000000)(E:∀x∈l,0<=x.no/\x.no<137438953472)(h2:size<=1099511627776)
  (hN:N+9*(BM size l).length+72<900000):∃r H',(r=I (Jg to size (BM size l) s).1/\∃p',StAt (Jg to size (BM size l) s).2 e p' H'/\StF e p p' H H')/\Ba0 90 [.ptr q 0] H r H':=aN (by
 unfold VW;have i3:A1 true 2 [(AV.ptr e 0),I fr,I to,I size,i] 3=some (.agg [I size,i]):=rfl;simp only[Ag0,Ah K.at',i3];obtain⟨w,H1,⟨F,B⟩,t⟩:=vQ (size:=size) T hl E H;refine bC_of t ?_;have bl:∀x∈BM size l,0<=x.no/\x.no*8<size:=by
  clear hN T F t hl
  induction l with
  | nil=>intro x a;simp[BM]at a
  | cons y l ih=>
   intro x a;unfold BM at a;split at a
   ·rename_i hy;rcases Al3.1 a with rfl | a
    ·exact⟨(E x (by simp)).1,hy⟩
    ·exact ih (λz hz=>E z (by simp[hz])) x a
   ·simp at a
 have ag:=PP size l;generalize BM size l=L at*;simp only[F.len,Aa];generalize ad:Jg to size L s=RES;refine Uk (λn W X Y Z H'=>∃(k:Nat) (s':StS) (p':AV),k+n=L.length/\W=.ptr q 0/\w=X/\Y=I L.length/\Z=I k/\StAt s' e p' H'/\StF e p p' H H'/\SW (N+9*k) s'/\Bes q [.ptr e 0,I fr,I to,I size,i] e p' H'/\Jg to size (L.drop k) s'=RES) ?_ L.length
  ⟨0,s,p,by omega,rfl,rfl,rfl,rfl,h.grew B,(StF.refl e p H).grew B,hw,K.grew B,by simpa using ad⟩
 rintro n W X Y Z f R Q ⟨k,s',p',hk,rfl,rfl,rfl,rfl,D,M,G,aa,d⟩;unfold N7;simp only[Ac1];rcases Aj5 k L.length with af | ae
 ·have a:=Dq af;generalize L[k]=x at a;obtain⟨b1,b2⟩:=bl x (Aj2 a);obtain⟨n1,n2⟩:=Avi f x;have C:=Grew.app f [some (AObj.cells (AB x))];have J:=Bes.new D (AB x);rw[Cs a]at d;unfold Jg at d;have l4:(f++[some (AObj.cells (AB x))]).length=f.length+1:=by simp
  have h4:=D.grew C;have ab:=aa.grew C;simp only[show(k:Int)<(L.length:Int) by omega,Ah2,F.idx AD a rfl,Ab0,rdE,n1,n2];generalize (f++[some (AObj.cells (AB x))])=H4 at*;generalize f.length=xo at*;obtain⟨s1,s2⟩:=Ajt J.at';have e5:Co H4 1 1 (Bx [Ad] 1) [(0,1,.sl xo 1 8 1 (.ex 8))]=some (.sl H4.length 0 1 1 (.ex 1),H4++[some (.cells [.sl xo 1 8 1 (.ex 8)])]):=rfl;have g:=Grew.app H4 [some (AObj.cells [AV.sl xo 1 8 1 (.ex 8)])];have z1:Ac (H4++[some (AObj.cells [AV.sl xo 1 8 1 (.ex 8)])]) 1 (.sl H4.length 0 1 1 (.ex 1))=some ([AV.sl xo 1 8 1 (.ex 8)],1):=by rw[AS BE (by simp)];rfl
  have z2:=g.slice s2;simp only[s1,Aa,e5,A6];refine bC_of (Avh z1 (b:=x.b) (by rw[x.hb];exact z2) (by rw[x.hb];omega)) ?_;have O:=h4.grew g;have u:=ab.grew g;have m:=J.grew g;have v:=(M.grew C).grew g;have V:Ar .add (I (k:Int)) (I 1)=some (I ((k+1:Nat):Int)):=by rw[Au (by omega) (by omega)];congr 3
  simp only[Af];by_cases c:OE x.b
  ·rw[if_pos c]at d;simp only[c,Ab7];rw[Mz];unfold HY;simp only[V,Aa];exact Q (n - 1) _ _ _ _ _ (by omega) ⟨k+1,s',p',by omega,rfl,rfl,rfl,rfl,O,v,G.mono (by omega),u,d⟩
  ·rw[if_neg c]at d;obtain⟨s3,s4⟩:=Ajt m.at';have i0:(AB x)[0]?=some (I x.no):=rfl;simp only[c,Ac4,Ah m.at',Ae,i0,s3];obtain⟨r,H6,⟨rfl,U,P,A⟩,t⟩:=tE (no:=x.no) O G u (by omega) s4 x.hb (by intro j S;simp only[Ba,An1]at S;subst S;exact⟨m.ne,m.np⟩) b1 b2 h2;refine bC_of t ?_;simp only[Bz,Aa5];by_cases o:(Aa1 to size s' x.no x.b).1=0
   ·rw[if_neg (λz=>z o)]at d;simp only[o,Ai3];rw[Mz];unfold HY;simp only[V,Aa];exact Q (n - 1) _ _ _ _ _ (by omega) ⟨k+1,_,U,by omega,rfl,rfl,rfl,rfl,P,v.trans A,(lV G to size x.no x.hb).mono (by omega),u.step A,d⟩
   ·rw[if_pos o]at d;simp only[o,Af7];rw[<- d];exact⟨by trivial,U,P,v.trans A⟩
 ·have ek:L.drop k=[]:=Ak6 ae;rw[ek]at d;simp only[show ¬(k:Int)<(L.length:Int) by omega,Aa8];rw[<- d];exact⟨by trivial,p',D,M⟩)
end Go.Proofs.YtbppnhenlboefaaGreat.Av
end
section
set_option maxHeartbeats 1000000
namespace Go.Proofs.YtbppnhenlboefaaGreat.Av
open Go Go.RowKit Go.Proofs.Tryz
def z8:List UInt8:=[0,0,0,0,0,0,0,0]
def Kp (no:Int):List Ext->List UInt8×List Ext
 | []=>(z8,[])
 | x::l=>if x.no=no then(x.b,l)else(z8,x::l)
def iE (to size:Int):Nat->Int->List Ext->StS->Int×StS
 | 0,_,_,s=>(0,s)
 | n+1,no,l,s=>if(Aa1 to size s no (Kp no l).1).1≠0 then Aa1 to size s no (Kp no l).1 else iE to size n (no+1) (Kp no l).2 (Aa1 to size s no (Kp no l).1).2
def Le (size:Int):Int:=(size+7)/8
theorem PS (no:Int)(l:List Ext):(Kp no l).1.length=8:=by
 unfold Kp;split
 ·rfl
 ·split
  ·rename_i x l h;exact x.hb
  ·rfl
theorem Aju {size:Int}(c:0<=size)(d:size<=1099511627776):Ba2 87 [I size] (I (Le size)):=BPure.flat λH=>zG (by
 unfold zF;simp only[Au (a:=size) (b:=8) (by omega) (by omega),B4 (a:=size+8) (b:=1) (by omega) (by omega),JQ (a:=size+8 - 1) (b:=8) (by omega) (by omega) (by omega),Aa];unfold Le;exact⟨by rw[show size+8 - 1=size+7 by omega],by trivial⟩)
theorem Avk (H:AH)(x:Ext)(t:List AV):Aq true 8 H (.ip ((AB x++t).drop 1))=some (.agg (Bp x.b)):=by
 show A1 true 8 (Bp x.b++t) 0=_;have a:(Bp x.b).length=8:=by rw[BY,x.hb]
 rw[Kq (by rw[Ak1,a];omega),Al8,Ak9 (by omega),Aj3 (by omega)]
theorem Avl {H:AH}{o:Nat}{b:List UInt8}(a:b.length=8)(h:H[o]?=some (some (.cells (Bp b)))):Ty 8 1 H (.ptr o 0) none none=some (.sl o 0 8 1 (.ex 8))/\Ac H 1 (.sl o 0 8 1 (.ex 8))=some (Bp b,8):=by
 have c:(Bp b).length=8:=by rw[BY,a]
 constructor
 ·simp[Ty,BL,h,c]
 ·rw[AS h (by omega),Al8,Aj3 (by omega)]
abbrev Ac2:=And.intro @Aa @true_and
theorem Avm {N:Nat}{s:StS}{e o:Nat}{p A:AV}{fr to size:Int}{l:List Ext}{H:AH}(h:StAt s e p H)(hw:SW N s)(S:Bes o [.ptr e 0,I fr,I to,I size,A] e p H)(hv:SV AB 9 l A)(hl:l.length<=1000000)(hn:∀x∈l,0<=x.no/\x.no<137438953472)(h0:0<=size)(h2:size<=32768)
  (hN:N+9*(Le size).toNat+72<900000):∃r H',(r=I (iE to size (Le size).toNat 0 (BM size l) s).1/\∃p',StAt (iE to size (Le size).toNat 0 (BM size l) s).2 e p' H'/\StF e p p' H H')/\Ba0 89 [.ptr o 0] H r H':=iP (by
 unfold ZD;have i3:A1 true 2 [(AV.ptr e 0),I fr,I to,I size,A] 3=some (.agg [I size,A]):=rfl;simp only[Ag0,Ah S.at',i3];obtain⟨w,H1,⟨an,K⟩,P⟩:=vQ (size:=size) hv hl hn H;refine bC_of P ?_;have aq:=PP size l;generalize BM size l=L at*;have T:=S.grew K;simp only[Ah3,Nat.reduceAdd,Ah T.at',Aa7];refine Az (Aju h0 (by omega)) ?_;have ag:Le size=((Le size).toNat:Int)/\∀k:Nat,k<(Le size).toNat->(k:Int)*8<size:=by unfold Le;exact⟨by omega,λk hk=>by omega⟩
 obtain⟨ae,af⟩:=ag;have ar:(Le size).toNat<=4096:=by unfold Le;omega
 rw[ae];simp only[Ap6]at hN|-;generalize (Le size).toNat=C at*;generalize ad:iE to size C 0 L s=RES;refine W8 (λn x0 E aa ab H'=>∃(k:Nat) (s':StS) (p':AV) (d:List Ext),k+n=C/\x0=.ptr o 0/\SV AB 9 d E/\d.length<=1000000/\aa=I C/\ab=I k/\StAt s' e p' H'/\StF e p p' H H'/\SW (N+9*k) s'/\Bes o [.ptr e 0,I fr,I to,I size,A] e p' H'/\iE to size n k d s'=RES) ?_ C
  ⟨0,s,p,L,by omega,rfl,an,by omega,rfl,rfl,h.grew K,(StF.refl e p H).grew K,hw,T,ad⟩
 rintro n x0 E aa ab f R hR ⟨k,s',p',d,hk,rfl,u,ah,rfl,rfl,M,G,w3,U,g⟩;unfold Qe;simp only[Ac1];rcases Aj5 k C with al | au
 ·obtain⟨m,rfl⟩:∃m,n=m+1:=⟨n - 1,by omega⟩;unfold iE at g;have e1:AE f (.agg [u0Z,u0Z,u0Z,u0Z,u0Z,u0Z,u0Z,u0Z])=some (.ptr f.length 0,f++[some (.cells (Bp z8))]):=rfl;have q1:Ar .add (I (k:Int)) (I 1)=some (I ((k+1:Nat):Int)):=by rw[Au (by omega) (by omega)];congr 3
  have go:∀(b:List UInt8) (v:List Ext) (Q:AV),b=(Kp k d).1->v=(Kp k d).2->SV AB 9 v Q->v.length<=1000000->Hs R (.ptr o 0) Q (I (k:Int)) (.ptr f.length 0) (I (C:Int)) (I (k:Int)) (f++[some (.cells (Bp b))]) (λr H'=>r=I RES.1/\∃p',StAt RES.2 e p' H'/\StF e p p' H H'):=by
   intro b v Q W ai am ak;have O:b.length=8:=by rw[W];exact PS _ _
   rw[<- W,<- ai]at g;have q:=Grew.app f [some (AObj.cells (Bp b))];have F:=Bes.new M (Bp b);obtain⟨s1,s2⟩:=Avl O F.at';rw[Xt];unfold OY;simp only[s1,Aa];obtain⟨r,H6,⟨rfl,Y,V,J⟩,P⟩:=tE (no:=(k:Int)) (M.grew q) w3 (U.grew q) (by omega) s2 O (by intro j X;simp only[Ba,An1]at X;subst X;exact⟨F.ne,F.np⟩) (by omega) (af k al) (by omega);refine bC_of P ?_;rw[Xu];unfold OZ;simp only[Bz,Aa];rw[Xv];unfold Pa;simp only[Af];by_cases B:(Aa1 to size s' k b).1=0
   ·rw[if_neg (λz=>z B)]at g;simp only[B,Ai3];rw[YY];unfold Qd;simp only[q1,Aa];exact hR m _ _ _ _ _ (by omega) ⟨k+1,_,Y,v,by omega,rfl,am,ak,rfl,rfl,V,(G.grew q).trans J,(lV w3 to size k O).mono (by omega),(U.grew q).step J,g⟩
   ·rw[if_pos B]at g;simp only[B,Af7];rw[<- g];exact⟨by trivial,Y,V,(G.grew q).trans J⟩
  simp only[show(k:Int)<(C:Int) by omega,Ab7,e1,A6,u.len,Ad5,C8];cases d with
  | nil=>
   simp only[Ap0,Int.cast_ofNat_Int,Ae9,show((false==true)=false)from rfl,Af5];exact go z8 [] E rfl rfl u (by simp)
  | cons x d=>
   have ix:=u.idx (i:=0) AD (k:=0) (x:=x) rfl rfl;have i0:∀t,Aq false 1 (f++[some (.cells (Bp z8))]) (.ip (AB x++t))=some (I x.no):=λ_=>rfl;have ao:∀t,Ab 0 (.ip (AB x++t))=some (.ip (AB x++t)):=λ_=>rfl;have ap:∀t,Ab 1 (.ip (AB x++t))=some (.ip ((AB x++t).drop 1)):=λ_=>rfl;simp only[Al4,show(0:Int)<((d.length+1:Nat):Int) by omega,Ag6,ix,ao,i0,Bu];simp only[Al4]at ah;by_cases c:x.no=(k:Int)
   ·obtain⟨Z,t1,D⟩:=u.cutX (lo:=some (I 1)) (hi:=none) (a:=1) (k:=d.length+1) (by simp[BL]) rfl (by omega) (by simp);have D:SV AB 9 d Z:=by rw[At8,Al8,Nat.add_sub_cancel,An6]at D;exact D
    have e4:AU 8 (f++[some (AObj.cells (Bp z8))]) (.ptr f.length 0) (.agg (Bp x.b))=some (f++[some (.cells (Bp x.b))]):=by
     have aj:(Bp x.b).length=8:=by rw[BY,x.hb]
     rw[AG (n:=8) (xs:=Bp x.b) (cs:=Bp z8) (by simp[zP]) BE aj (by simp[BY,z8])];rw[Fp _ _ _ (by simp[BY,z8,x.hb]),Ap7,Ao4,Ak6 (by simp[BY,z8,x.hb]),Am9];simp
    simp only[c,Ab7,ap,Avk,Ac2,t1,e4,A9];have y:Kp (k:Int) (x::d)=(x.b,d):=if_pos c;exact go x.b d Z (by rw[y]) (by rw[y]) D (by omega)
   ·simp only[c,Aa8];have y:Kp (k:Int) (x::d)=(z8,x::d):=if_neg c;exact go z8 (x::d) E (by rw[y]) (by rw[y]) u (by simp;omega)
 ·have en:n=0:=by omega
  subst en;unfold iE at g;simp only[show ¬(k:Int)<(C:Int) by omega,Aa8];rw[<- g];exact⟨by trivial,p',M,G⟩)
end Go.Proofs.YtbppnhenlboefaaGreat.Av
end
section
set_option maxHeartbeats 1000000
namespace Go.Proofs.YtbppnhenlboefaaGreat.Av
open Go Go.RowKit Go.Proofs.Tryz
def CE (s:StS)(nm:List UInt8):Int×Int×StS:=
 if(Bf s nm true).1.2≠0 then((Bf s nm true).1.2,0,(Bf s nm true).2)else((DL (Bf s nm true).2 (Bf s nm true).1.1 0).1,(Bf s nm true).1.1,(DL (Bf s nm true).2 (Bf s nm true).1.1 0).2)
theorem iN {N:Nat}{s:StS}(h:SW N s)(nm:List UInt8):SW (N+2) (CE s nm).2.2:=by
 have a:=SQ h nm true;unfold CE;split
 ·exact a.mono (by omega)
 ·exact RZ a _ _
theorem Avn {N:Nat}{s:StS}{g k:Nat}{A p l:AV}{fr to size:Int}{t H:AH}{nm:List UInt8}(h:StAt s g p H)(J:SW N s)(X:N+2<900000)(R:nm.length<=9223372036854775807)(E:StF g A p t H)(Y:t.length<=k)(C:Bes k [.ptr g 0,I fr,I to,I size,l] g p H)(Z:oneA l=true):
  ∃r H',(r=I (CE s nm).1/\∃p',StAt (CE s nm).2.2 g p' H'/\StF g A p' t H'/\((CE s nm).1=0->Bes k [.ptr g 0,I fr,I (CE s nm).2.1,I size,l] g p' H'))/\Ba0 88 [.ptr k 0,S (Ax nm)] H r H':=dN (by
 unfold Xw;simp only[A2,Ab1,Ah C.at',BH];obtain⟨r,m,⟨rfl,u,G,v⟩,w⟩:=nJ h J (by omega) R true;have V:=SQ J nm true;refine bC_of w ?_;unfold CE;have o:=C.step v;generalize Bf s nm true=O at*;simp only[Ae6];by_cases B:O.1.2=0;rotate_left
 ·simp only[B,Ad9];exact⟨by trivial,u,G,E.trans v,λz=>z.elim⟩
 have Q:=(BG.1 o.at').1;have K:AU 1 m (.ptr k 2) (I O.1.1)=some (m.set k (some (.cells [.ptr g 0,I fr,I O.1.1,I size,l]))):=by rw[AG (n:=1) (xs:=[I O.1.1]) (cs:=[.ptr g 0,I fr,I to,I size,l]) rfl o.at' rfl (by simp)];rfl
 have y:∀i,i≠k->(m.set k (some (.cells [.ptr g 0,I fr,I O.1.1,I size,l])))[i]?=m[i]?:=λi x=>Cc (Al6 x);have M:StAt O.2 g u (m.set k (some (.cells [.ptr g 0,I fr,I O.1.1,I size,l]))):=by obtain⟨a,b,c,d,U,q⟩:=G;exact⟨a,b,c,d,U,(y g (Al6 o.ne)).trans q.obj,q.now,q.kept,q.pm,Ai q.ps λi x=>y i (λe=>o.np (e▸x)),q.po,q.pi,q.pc⟩
 have D:Bes k [.ptr g 0,I fr,I O.1.1,I size,l] g u (m.set k (some (.cells [.ptr g 0,I fr,I O.1.1,I size,l]))):=⟨HU Q,o.ne,o.np⟩;have L:StF g A u t (m.set k (some (.cells [.ptr g 0,I fr,I O.1.1,I size,l]))):=by have f:=E.trans v;exact⟨by rw[Ak4];exact f.len,λj a b c=>by rw[y j (by omega)];exact f.same j a b c,f.ids⟩
 simp only[B,Ah1,K,A9,Ah D.at',Ae,BH];obtain⟨r,W,⟨rfl,T,P,F⟩,w⟩:=mT M V (by omega) O.1.1 0;refine bC_of w ?_;exact⟨by trivial,T,P,L.trans F,λ_=>D.step F⟩)
def Lz (way:Tx)(c:I5):Prop:=way=JS\/(way=GM/\((BM c.1 c.2).length:Int)<Le c.1)
instance (way:Tx) (c:I5):Decidable (Lz way c):=by unfold Lz;infer_instance
def dL (hl:Bool)(to:Int)(c:I5)(s:StS):Int×StS:=
 if hl=true then Jg to c.1 (BM c.1 c.2) s else iE to c.1 (Le c.1).toNat 0 (BM c.1 c.2) s
def UC (hl:Bool)(s:StS)(nm:Tx)(c:I5):Int×StS:=
 if hl=false/\32768<c.1 then(4,s)
 else if(CE s nm).1≠0 then((CE s nm).1,(CE s nm).2.2)
 else if(dL hl (CE s nm).2.1 c (CE s nm).2.2).1≠0 then dL hl (CE s nm).2.1 c (CE s nm).2.2
 else DL (dL hl (CE s nm).2.1 c (CE s nm).2.2).2 (CE s nm).2.1 c.1
def OJ (s:StS)(fr:Int)(nm way:Tx):Int×StS:=
 if(Ay s fr).2≠0 then((Ay s fr).2,s)else UC (decide (Lz way (Ay s fr).1)) s nm (Ay s fr).1
theorem eF {to size:Int}:∀{l:List Ext} {N:Nat} {s:StS},SW N s->SW (N+9*l.length) (Jg to size l s).2
 | [],N,s,h=>h
 | x::l,N,s,h=>by
  unfold Jg;simp only[Al4];split
  ·exact(eF (l:=l) h).mono (by omega)
  ·split
   ·exact(lV h to size x.no x.hb).mono (by omega)
   ·exact(eF (l:=l) (lV h to size x.no x.hb)).mono (by omega)
theorem Afa {to size:Int}:∀{n:Nat} {no:Int} {l:List Ext} {N:Nat} {s:StS},SW N s->SW (N+9*n) (iE to size n no l s).2
 | 0,no,l,N,s,h=>h
 | n+1,no,l,N,s,h=>by
  unfold iE;split
  ·exact(lV h to size no (PS no l)).mono (by omega)
  ·exact(Afa (n:=n) (lV h to size no (PS no l))).mono (by omega)
theorem Avo:Ch prog 90=true:=by kernel_rfl
theorem Avp:Ch prog 89=true:=by kernel_rfl
def Ajv (a0 a1 d:AV)(b:AH)(K:AV->AH->Prop):Prop:=bO (D5 .not d) λa=>bG a true λq=>gO q (some a0) λi=>bG a true λr=>gO r (Aj i) λj=>bG a true λs=>gO s (Ab 3 j) λk=>bG a true λt=>gO t (Ab 0 k) λl=>bG a true λu=>gO u (Aq false 1 b l) λm=>bG a true λv=>gO v (Ar .gtr m (I 32768)) λn=>bO (A0 a n (B false)) λo=>bB o λf=>bI f (K (I 4) b) (bC (Ba0 88 [a0,a1] b) λe c=>bO (Ar .neq e (I 0)) λp=>bB p λg=>bI g (K e c) (bB d λh=>bI h (Fs a0 (.fn (.func 90) [a0] []) c K) (Fs a0 (.fn (.func 89) [a0] []) c K)))
abbrev Ah6:=And.intro @List.append_nil.{0} @sX
theorem jX {N Bd:Nat}{s:StS}{d i:Nat}{w p R:AV}{fr to:Int}{c:I5}{f H:AH}{nm:Tx}(hl:Bool)(h:StAt s d p H)(T:SW N s)(hB:c.2.length<=Bd)(ad:4096<=Bd)(hN:N+100+9*Bd<900000)(aa:nm.length<=9223372036854775807)(J:StF d w p f H)(Z:f.length<=i)(G:Bes i [.ptr d 0,I fr,I to,I c.1,R] d p H)(D:SV AB 9 c.2 R)(hm:CZ c.1 c.2):
  Ajv (.ptr i 0) (S (Ax nm)) (B hl) H λr H'=>r=I (UC hl s nm c).1/\∃p',StAt (UC hl s nm c).2 d p' H'/\StF d w p' f H':=by
 obtain⟨m1,m2,m3,m4,-⟩:=T9.1 hm;have Q:∀x∈c.2,0<=x.no/\x.no<137438953472:=λx hx=>m4 x.no ⟨x,hx,rfl⟩;have oR:=SV.oneA D;have ae:=PP c.1 c.2;generalize a:UC hl s nm c=RES;unfold UC at a;unfold Ajv;obtain⟨r,H1,⟨rfl,U,u,t,o⟩,e⟩:=Avn (nm:=nm) h T (by omega) aa J Z G oR;have y:=iN T nm;generalize CE s nm=O at*
 have L:∀(W:Int×StS) (M:Nat) (k:AV) (g:AH),StAt W.2 d k g->StF d w k f g->Bes i [.ptr d 0,I fr,I O.2.1,I c.1,R] d k g->SW M W.2->M<900000->(if W.1≠0 then W else DL W.2 O.2.1 c.1)=RES->
   Lu (.ptr i 0) (I W.1) g (λr H'=>r=I RES.1/\∃p',StAt RES.2 d p' H'/\StF d w p' f H'):=by
  intro W M k g P K V w6 hM v;rw[Xy];unfold Pc;simp only[Bz,Aa];rw[Xz];unfold Pd;simp only[Af];by_cases m:W.1=0
  ·rw[if_neg (λz=>z m)]at v;simp only[m,Ai3];rw[Xx];unfold Pb;simp only[Ac9,Nat.reduceAdd,Ah V.at'];obtain⟨r,H7,⟨rfl,p7,Y,X⟩,e⟩:=mT P w6 (by omega) O.2.1 c.1;refine bC_of e ?_;rw[<- v];exact⟨by trivial,p7,Y,K.trans X⟩
  ·rw[if_pos m]at v;simp only[m,Af7];rw[<- v];exact⟨by trivial,k,P,K⟩
 cases hl with
 | true=>
  rw[if_neg (by simp)]at a;simp only[AJ,Aa3,Af5,A7,show((false==true)=false)from rfl];refine bC_of e ?_;simp only[Bz,Aa5];by_cases b:O.1=0
  ·rw[if_neg (λz=>z b)]at a;simp only[b,Ai3,Am];rw[N8];unfold Jf;obtain⟨r,A,⟨rfl,F,C,j⟩,e⟩:=Avj u y (o b) D (by omega) Q (by omega) (by omega);simp only[Ah6,Avo,Bool.true_or,YE];refine bC_of e ?_;have E:=eF (to:=O.2.1) (size:=c.1) (l:=BM c.1 c.2) y;unfold dL at a;simp only[if_true]at a;exact L _ _ F A C (t.trans j) ((o b).step j) E (by omega) a
  ·rw[if_pos b]at a;simp only[b,Af7];rw[<- a];exact⟨by trivial,U,u,t⟩
 | false=>
  simp only[AJ,Ac7,Ag8,Ai9,Ah G.at',C8,Ao,Ag];by_cases q:32768<c.1
  ·rw[if_pos ⟨rfl,q⟩]at a;simp only[q,Ab7];rw[<- a];exact⟨by trivial,p,h,J⟩
  rw[if_neg (λz=>q z.2)]at a;simp only[q,Aa8];refine bC_of e ?_;simp only[Bz,Aa5];by_cases b:O.1=0
  ·rw[if_neg (λz=>z b)]at a;simp only[b,Ai3];rw[N8];unfold Jf;have af:(Le c.1).toNat<=4096:=by unfold Le;omega
   obtain⟨r,A,⟨rfl,F,C,j⟩,e⟩:=Avm u y (o b) D (by omega) Q m1 (by omega) (by omega);simp only[Ah6,Avp,Bool.true_or,YE];refine bC_of e ?_;have E:=Afa (to:=O.2.1) (size:=c.1) (n:=(Le c.1).toNat) (no:=0) (l:=BM c.1 c.2) y;unfold dL at a;simp only[An]at a;exact L _ _ F A C (t.trans j) ((o b).step j) E (by omega) a
  ·rw[if_pos b]at a;simp only[b,Af7];rw[<- a];exact⟨by trivial,U,u,t⟩
theorem Avq {N Bd:Nat}{s:StS}{g k:Nat}{W p vl:AV}{fr to size:Int}{B H:AH}{nm way:Tx}(h:StAt s g p H)(o:SW N s)(M:(Ay s fr).1.2.length<=Bd)(O:4096<=Bd)(P:N+100+9*Bd<900000)(U:nm.length<=9223372036854775807)(f0:StF g W p B H)(Q:B.length<=k)(X:Bes k [.ptr g 0,I fr,I to,I size,vl] g p H):
  ∃r H',(r=I (OJ s fr nm way).1/\∃p',StAt (OJ s fr nm way).2 g p' H'/\StF g W p' B H')/\Ba0 39 [.ptr k 0,S (Ax nm),S (Ax way)] H r H':=iQ (by
 unfold ZE;simp only[Ac9,Ah X.at'];obtain⟨r,H1,⟨rfl,v⟩,z⟩:=Ajp h o (by omega) fr;refine bC_of z ?_;unfold OJ;simp only[Ae6];by_cases C:(Ay s fr).2=0;rotate_left
 ·simp only[C,Ad9];exact⟨by trivial,p,h.grew v,f0.grew v⟩
 have h1:=h.grew v;have Y:=X.grew v;simp only[C,Ah1,Ah Y.at',Ae,Aa7];obtain⟨r,l,⟨⟨R,rfl,y⟩,J⟩,z⟩:=zB h1 o (by omega) C;refine bC_of z ?_;have E:CZ (Ay s fr).1.1 (Ay s fr).1.2:=by obtain⟨d,m,-,aa,-⟩:=Fr o C;rw[aa];exact o.now.1.mc d m
 obtain⟨m1,m2,m3,m4,-⟩:=T9.1 E;have hn:∀x∈(Ay s fr).1.2,0<=x.no/\x.no<137438953472:=λx hx=>m4 x.no ⟨x,hx,rfl⟩;generalize (Ay s fr).1=c at*;have h2:=h1.grew J;have u:=Y.grew J;have oR:=SV.oneA y;have ab:=(BG.1 u.at').1;have e2:AU 2 l (.ptr k 3) (.agg [I c.1,R])=some (l.set k (some (.cells [.ptr g 0,I fr,I to,I c.1,R]))):=by rw[AG (n:=2) (xs:=[I c.1,R]) (cs:=[.ptr g 0,I fr,I to,I size,vl]) (by simp[oR]) u.at' rfl (by simp)];rfl
 have V:∀i,i≠k->(l.set k (some (.cells [.ptr g 0,I fr,I to,I c.1,R])))[i]?=l[i]?:=λi T=>Cc (Al6 T);have L:StAt s g p (l.set k (some (.cells [.ptr g 0,I fr,I to,I c.1,R]))):=by obtain⟨a,b,c',d,pv,q⟩:=h2;exact⟨a,b,c',d,pv,(V g (Al6 u.ne)).trans q.obj,q.now,q.kept,q.pm,Ai q.ps λi T=>V i (λe=>u.np (e▸T)),q.po,q.pi,q.pc⟩
 have D:Bes k [.ptr g 0,I fr,I to,I c.1,R] g p (l.set k (some (.cells [.ptr g 0,I fr,I to,I c.1,R]))):=⟨HU ab,u.ne,u.np⟩;have G:StF g W p B (l.set k (some (.cells [.ptr g 0,I fr,I to,I c.1,R]))):=by have f:=(f0.grew v).grew J;exact⟨by rw[Ak4];exact f.len,λj a b c=>by rw[V j (by omega)];exact f.same j a b c,f.ids⟩
 have qa:(AV.lit (.string ⟨#[97,108,119,97,121,115]⟩))=S (Ax JS):=rfl;have qu:(AV.lit (.string ⟨#[97,117,116,111]⟩))=S (Ax GM):=rfl;have i3:∀t:Int,A1 true 2 [(AV.ptr g 0),I fr,I t,I c.1,R] 3=some (.agg [I c.1,R]):=λ_=>rfl;simp only[Ad5,e2,A9,qa,qu,DC];generalize (l.set k (some (.cells [.ptr g 0,I fr,I to,I c.1,R])))=H3 at*;by_cases A:way=JS
 ·have m:decide (Lz way c)=true:=decide_eq_true (.inl A);rw[m];simp only[A,Qb,Aa2,show((true==false)=false)from rfl,AT,FN,ND,Ac2,Ao,Ag];exact jX true L o M O P U G Q D y E
 simp only[A,B8,Ai5,DC];by_cases F:way=GM
 ·obtain⟨w,H4,⟨ad,K⟩,z⟩:=vQ (size:=c.1) y (by omega) hn H3;have Z:=D.grew K;simp only[F,B3,Do,Ag0,Ah D.at',i3,Hu];refine bC_of z ?_;simp only[ad.len,Ah3,Nat.reduceAdd,Ah Z.at',Aa7,V7];refine bP_of (Aju m1 (by omega)) ?_;have m:decide (Lz GM c)=decide (((BM c.1 c.2).length:Int)<Le c.1):=by
   have:Lz GM c↔((BM c.1 c.2).length:Int)<Le c.1:=by unfold Lz;rw[<- F];exact⟨λh=>h.elim (λe=>absurd e A) λh=>h.2,λh=>.inr ⟨rfl,h⟩⟩
   simp only[this]
  rw[m];simp only[AM,Ac2,Ah0,if_true,Am];exact jX _ (L.grew K) o M O P U (G.grew K) Q Z y E
 ·have m:decide (Lz way c)=false:=decide_eq_false (λh=>h.elim A λh=>F h.1);rw[m];simp only[F,Aa8,show((false==true)=false)from rfl,AT,FN,ND,Ac2,Ah0];exact jX false L o M O P U G Q D y E)
def fI (e:Int):AV:=.agg [I e,S (Ax []),I 0,I 0,I 0,I 0,I 0]
def rN (s:StS)(l:List Tx):Int×StS:=match ON l with
 | none=>(2,s)
 | some (a,b,w)=>if(Bf s a false).1.2≠0 then((Bf s a false).1.2,(Bf s a false).2)else OJ (Bf s a false).2 (Bf s a false).1.1 b w
end Go.Proofs.YtbppnhenlboefaaGreat.Av
end
section
set_option maxHeartbeats 1000000
namespace Go.Proofs.YtbppnhenlboefaaGreat.Av
open Go Go.RowKit Go.Proofs.Tryz
abbrev Av7:=@List.mem_cons_of_mem
theorem V6:∀{l:List Tx} {o:List (Tx×Tx)} {r:List Tx} {q:List (Tx×Tx)×List Tx},Ex l o r=some q->∀x∈q.2,x∈r\/x∈l
 | [],o,r,q,h,x,hx=>by unfold Ex at h;injection h with h;subst h;exact .inl hx
 | s::l,o,r,q,h,x,hx=>by
  unfold Ex at h;split at h
  ·injection h with h;subst h;simp only[Am3]at hx;exact hx.imp id λh=>Av7 _ h
  ·split at h
   ·cases h
   ·exact(V6 h x hx).imp id λh=>Av7 _ h
   ·rcases V6 h x hx with h | h
    ·rcases Am3.1 h with h | h
     ·exact .inl h
     ·rw[An1]at h;subst h;exact .inr (by simp)
    ·exact .inr (Av7 _ h)
theorem Avr {l:List Tx}{a b w:Tx}(h:ON l=some (a,b,w)):a∈l/\b∈l:=by
 unfold ON at h;split at h
 ·cases h
 ·rename_i op rs c;unfold Qp at c;split at c
  ·cases c
  ·unfold jQ at h;split at h
   ·rename_i g i;split at h
    ·cases h
    ·split at h
     ·obtain⟨k,-,e⟩:=Option.map_eq_some_iff.1 h;injection e with f d;injection d with d j;subst f;subst d;have m:=V6 c;exact⟨(m _ (by simp)).elim (λh=>by simp at h) id,(m _ (by simp)).elim (λh=>by simp at h) id⟩
     ·cases h
   ·cases h
theorem Adh (s:StS)(a:Tx):Bf s a false=(Cx s a,s):=by unfold Bf;rw[if_pos (.inr rfl)]
theorem Afb {N Bd:Nat}{s:StS}{f:Nat}{p v:AV}{H:AH}{l:List Tx}(h:StAt s f p H)(hw:SW N s)(hB:∀i,(Ay s i).1.2.length<=Bd)(ae:4096<=Bd)(hN:N+100+9*Bd<900000)
  (hv:Ac H 1 v=some (l.flatMap BT,l.length)) (O:∀t∈l,t.length<=1000000) (hl:l.length<=1000000):
  ∃r H',(r=fI (rN s l).1/\∃p',StAt (rN s l).2 f p' H'/\StF f p p' H H')/\Ba0 12 [.ptr f 0,v] H r H':=Aoe (by
 unfold Agr;let Z:List AV:=[I 0,S (Ax []),I 0,I 0,I 0,I 0,I 0];have e1:AE H (.agg [(I 0),(.lit (.string ⟨#[]⟩)),(I 0),(I 0),(I 0),(I 0),(I 0)])=some (.ptr H.length 0,H++[some (.cells Z)]):=rfl;have M:=Grew.app H [some (AObj.cells Z)];have T:=Bes.new h Z;have ai:=h.os_lt;simp only[e1,A6];have ah:=M.slice hv;have h1:=h.grew M;have V:StF f p p H (H++[some (AObj.cells Z)]):=(StF.refl f p H).grew M;have l1:(H++[some (AObj.cells Z)]).length=H.length+1:=by simp
 generalize (H++[some (AObj.cells Z)])=H1 at*;obtain⟨r,H2,⟨hr,m⟩,y⟩:=Avf ah O hl;refine bC_of y ?_;have U:=T.grew m;have Y:=h1.grew m;have W:=V.grew m;have aj:=m.1
 have L:∀(e:Int) (s':StS) (p':AV) (H':AH),StAt s' f p' H'->StF f p p' H H'->Bes H.length Z f p' H'->rN s l=(e,s')->
   bS (AU 7 H' (.ptr H.length 0) (.agg [I e,S (Ax []),I 0,I 0,I 0,I 0,I 0])) (λE=>bO (Aq true 7 E (.ptr H.length 0)) λv=>v=fI (rN s l).1/\∃p',StAt (rN s l).2 f p' E/\StF f p p' H E):=by
  intro e s' p' H' h' J A he;have ag:=(BG.1 A.at').1;have t1:AU 7 H' (.ptr H.length 0) (.agg [I e,S (Ax []),I 0,I 0,I 0,I 0,I 0])=some (H'.set H.length (some (.cells [I e,S (Ax []),I 0,I 0,I 0,I 0,I 0]))):=by rw[AG (n:=7) (xs:=[I e,S (Ax []),I 0,I 0,I 0,I 0,I 0]) (cs:=Z) (by simp[Cy,oneA]) A.at' rfl (by simp[Z])];rfl
  have t2:(H'.set H.length (some (.cells [I e,S (Ax []),I 0,I 0,I 0,I 0,I 0])))[H.length]?=some (some (.cells [I e,S (Ax []),I 0,I 0,I 0,I 0,I 0])):=HU ag;have ne:∀i,i≠H.length->(H'.set H.length (some (.cells [I e,S (Ax []),I 0,I 0,I 0,I 0,I 0])))[i]?=H'[i]?:=λi P=>Cc (Al6 P);have i7:A1 true 7 [I e,S (Ax []),I 0,I 0,I 0,I 0,I 0] 0=some (fI e):=rfl;simp only[t1,A9,Ah t2,i7,Aa,he];refine⟨by trivial,p',?_,by rw[Ak4];exact J.len,λj a b c=>by rw[ne j (by omega)];exact J.same j a b c,J.ids⟩;obtain⟨a,b,c,d,pv,q⟩:=h';exact⟨a,b,c,d,pv,(ne f (Al6 A.ne)).trans q.obj,q.now,q.kept,q.pm,Ai q.ps λi P=>ne i (λe=>A.np (e▸P)),q.po,q.pi,q.pc⟩
 have R:∀x:AV,oneA x=true->Dy [(I 0),(.lit (.string ⟨#[]⟩)),(I 0),(I 0),(I 0),(I 0),(I 0)] [(0,1,x)]=some (.agg [x,S (Ax []),I 0,I 0,I 0,I 0,I 0]):=λx hx=>by simp[Dy,Bn hx,Bb];rfl
 cases u:ON l with
 | none=>
  rw[u]at hr;have hr:r=.tup [S (Ax []),S (Ax []),S (Ax []),B false]:=hr;subst hr;simp only[Ae4,Aa4,R (I 2) rfl];exact L 2 s p H2 Y W U (by unfold rN;rw[u])
 | some q=>
  obtain⟨a,b,w⟩:=q;rw[u]at hr;have hr:r=.tup [S (Ax a),S (Ax b),S (Ax w),B true]:=hr;subst hr;obtain⟨ma,mb⟩:=Avr u;have la:=O a ma;have lb:=O b mb;simp only[Ae4,Aa3];obtain⟨r,g,⟨rfl,p3,o,D⟩,y⟩:=nJ Y hw (by omega) (name:=a) (by omega) false;refine bC_of y ?_;have b3:=U.step D;have ad:=W.trans D;have k:rN s l=if(Bf s a false).1.2≠0 then((Bf s a false).1.2,(Bf s a false).2)else OJ (Bf s a false).2 (Bf s a false).1.1 b w:=by unfold rN;rw[u]
  rw[Adh]at o k|-;simp only[Ae6]at k o|-;generalize Cx s a=F at*;by_cases C:F.2=0;rotate_left
  ·rw[if_pos C]at k;simp only[C,Af7,R (I F.2) rfl,Aa];exact L F.2 s p3 g o ad b3 k
  rw[if_neg (λz=>z C)]at k;have z2:Dy [(.lit (.pointer none)),(I 0),(I 0),(I 0),Ad] [(0,1,.ptr f 0),(1,1,I F.1)]=some (.agg [.ptr f 0,I F.1,I 0,I 0,Ad]):=rfl;have e4:AE g (.agg [.ptr f 0,I F.1,I 0,I 0,Ad])=some (.ptr g.length 0,g++[some (.cells [.ptr f 0,I F.1,I 0,I 0,Ad])]):=rfl;have X:=Grew.app g [some (AObj.cells [AV.ptr f 0,I F.1,I 0,I 0,Ad])];have cb:=Bes.new o [AV.ptr f 0,I F.1,I 0,I 0,Ad];have ak:=D.len;simp only[C,Pr,Ac4,z2,e4,A6]
  have af:StF f p p3 H1 (g++[some (AObj.cells [AV.ptr f 0,I F.1,I 0,I 0,Ad])]):=
   (((StF.refl f p H1).grew m).trans D).grew X
  obtain⟨r,G,⟨rfl,Q,h5,K⟩,y⟩:=Avq (nm:=b) (way:=w) (Bd:=Bd) (o.grew X) hw (hB F.1) ae hN (by omega) af (by omega) cb;refine bC_of y ?_;have aa:H.length∉Ba p:=λz=>by have:=h.p_lt _ z;omega
  have b5:Bes H.length Z f Q G:=⟨(K.same H.length (by omega) (by omega) aa).trans T.at',by omega,λz=>(K.ids _ z).elim aa (λz=>by omega)⟩;have ab:StF f p Q H G:=V.trans K;simp only[R (I (OJ s F.1 b w).1) rfl,Aa];exact L (OJ s F.1 b w).1 (OJ s F.1 b w).2 Q G h5 ab b5 k)
end Go.Proofs.YtbppnhenlboefaaGreat.Av
end
section
set_option maxHeartbeats 1000000
namespace Go.Proofs.YtbppnhenlboefaaGreat.Av
open Go Go.RowKit Go.Proofs.Tryz
def alwA:Tx:=[45,45,115,112,97,114,115,101,61,97,108,119,97,121,115]
def uK:Int×StS:=wW (Zh 9) [97] [List.replicate 20 0]
def Yp:Int×StS:=rN uK.2 [alwA,[97],[98]]
theorem Avs:uK.1=0:=by kernel_rfl
theorem Avt:Yp.1=0:=by kernel_rfl
theorem Avu:(rN Yp.2 [[97]]).1=2:=by kernel_rfl
theorem Avv:decide (iZ Yp.2.now.1 Yp.2.now.2 2)=true/\(FB Yp.2.now.1 Yp.2.now.2 2).size=20/\(FB Yp.2.now.1 Yp.2.now.2 2).l.length=0:=⟨by kernel_rfl,by kernel_rfl,by kernel_rfl⟩
theorem Ajw {N:Nat}{s:StS}(h:SW N s)(nm:List UInt8)(l:List (List UInt8)):SW (N+2+9*Nl l) (wW s nm l).2:=by
 have b:=SQ h nm true;unfold wW;generalize Bf s nm true=O at*;have c:=RZ b O.1.1 0;generalize DL O.2 O.1.1 0=Q at*;have d:=Aez (ino:=O.1.1) (l:=l) (a:=0) (m:=0) c;split
 ·exact b.mono (by omega)
 ·split
  ·exact c.mono (by omega)
  ·split
   ·exact d.mono (by omega)
   ·exact(VQ d _).mono (by omega)
theorem Avw {N Bd:Nat}{s:StS}(h:SW N s)(fr:Int)(nm way:Tx)(f:(Ay s fr).1.2.length<=Bd)(g:4096<=Bd):SW (N+4+9*Bd) (OJ s fr nm way).2:=by
 unfold OJ;split
 ·exact h.mono (by omega)
 ·generalize (Ay s fr).1=c at*;have a:=iN h nm;unfold UC;split
  ·exact h.mono (by omega)
  ·rename_i e;split
   ·exact a.mono (by omega)
   ·have b:SW (N+2+9*Bd) (dL (decide (Lz way c)) (CE s nm).2.1 c (CE s nm).2.2).2:=by
     unfold dL;split
     ·exact(eF a).mono (by have:=PP c.1 c.2;omega)
     ·rename_i d;refine(Afa a).mono ?_;have:(Le c.1).toNat<=4096:=by have:¬32768<c.1:=λz=>e ⟨by simpa using d,z⟩;unfold Le;omega
      omega
    split
    ·exact b.mono (by omega)
    ·exact(RZ b _ _).mono (by omega)
theorem Ajx {N Bd:Nat}{s:StS}(h:SW N s)(l:List Tx)(a:∀i,(Ay s i).1.2.length<=Bd)(b:4096<=Bd):SW (N+4+9*Bd) (rN s l).2:=by
 unfold rN;split
 ·exact h.mono (by omega)
 ·rw[Adh];split
  ·exact h.mono (by omega)
  ·exact Avw h _ _ _ (a _) b
theorem aJ {N n:Nat}{s:StS}(h:SW N s)(f:∀d∈s.now.2,d.l.length<=n)(i:Int):(Ay s i).1.2.length<=n:=by
 by_cases c:(Ay s i).2=0
 ·obtain⟨d,g,-,e,-⟩:=Fr h c;rw[e];exact f d g
 ·have:(Ay s i).1=(0,[]):=by
   unfold Ay at c|-;split
   ·rfl
   ·split
    ·rename_i a b;rw[if_neg a,if_pos b]at c;exact absurd rfl c
    ·rfl
  rw[this];exact Nat.zero_le _
theorem Avx:decide (∀d∈Yp.2.now.2,d.l.length<=4096)=true:=by kernel_rfl
theorem Ajy:decide (∀d∈uK.2.now.2,d.l.length<=4096)=true:=by kernel_rfl
theorem iB {H:AH}{v:AV}(h:oneA v=true):Co H 1 1 (Bx [Ad] 1) [(0,1,v)]=some (.sl H.length 0 1 1 (.ex 1),H++[some (.cells [v])]):=by
 simp[Co,Bx,Bn h,Bb]
theorem Avy:Ba3 3 [] [] λr _=>r=B true:=WR (by
 unfold Kc;obtain⟨r,a,⟨p,rfl,l1,G,g,E⟩,f⟩:=Ajd 9 [] (by omega);refine bC_of f ?_;have n1:vA .eql pZ (.ptr ([]:AH).length 0) (.lit (.pointer none))=some (B false):=rfl;have Z:Abp 1 1 [u0Z] a (I 20) (I 20)=some (.sl a.length 0 20 1 (.ex 20),a++[some (.cells (Bp (List.replicate 20 0)))]):=rfl;have e2:=iB (H:=a++[some (AObj.cells (Bp (List.replicate 20 0)))]) (v:=.sl a.length 0 20 1 (.ex 20)) rfl;simp only[n1,Ai5,Z,Cu,A6,e2];have g2:Grew a (a++[some (AObj.cells (Bp (List.replicate 20 0)))]++[some (AObj.cells [AV.sl a.length 0 20 1 (.ex 20)])]):=by rw[Ak7];exact Grew.app _ _
 have s1:Ac (a++[some (AObj.cells (Bp (List.replicate 20 0)))]++[some (AObj.cells [AV.sl a.length 0 20 1 (.ex 20)])]) 1 (.sl a.length 0 20 1 (.ex 20))=some (Bp (List.replicate 20 0),20):=by rw[AS (c:=Bp (List.replicate 20 0)) (by simp) (by simp[Bp])];rfl
 have s2:Ac (a++[some (AObj.cells (Bp (List.replicate 20 0)))]++[some (AObj.cells [AV.sl a.length 0 20 1 (.ex 20)])]) 1 (.sl (a++[some (AObj.cells (Bp (List.replicate 20 0)))]).length 0 1 1 (.ex 1))=some ([AV.sl a.length 0 20 1 (.ex 20)],1):=by rw[AS BE (by simp)];rfl
 have lo:=G.os_lt;have i4:∀j∈Ba (AV.sl (a++[some (AObj.cells (Bp (List.replicate 20 0)))]).length 0 1 1 (.ex 1)),j=a.length+1:=by intro j h;simpa[Ba]using h
 have ab:=G.grew g2;generalize (.sl (a++[some (AObj.cells (Bp (List.replicate 20 0)))]).length 0 1 1 (.ex 1):AV)=w at*;generalize (a++[some (AObj.cells (Bp (List.replicate 20 0)))]++[some (AObj.cells [AV.sl a.length 0 20 1 (.ex 20)])])=H2 at*;have D:([(AV.sl a.length 0 20 1 (.ex 20),List.replicate 20 0)]:List (AV×List UInt8)).flatMap (λx=>BZ x.2)=[List.replicate 20 0]:=by kernel_rfl
 refine⟨_,Ajq (nm:=[97]) (bl:=[(AV.sl a.length 0 20 1 (.ex 20),List.replicate 20 0)]) ab (Aes 9) (by simp) s2 (by intro j h;rw[i4 j h,E];exact⟨by omega,by simp⟩) (by intro x F;simp only[An1]at F;subst F;exact⟨s1,rfl,by simp,λj h=>by simp only[Ba,An1]at h;subst h;rw[E];exact⟨by omega,by simp⟩⟩) (by simp) (by rw[D];simp[Nl]),?_⟩;have w2:=Ajw (Aes 9) [97] [List.replicate 20 0];rw[D];rintro r d ⟨p3,rfl,t,f3⟩;have m:SW 200 uK.2:=w2.mono (by simp[Nl]);have t:StAt uK.2 ([]:AH).length p3 d:=t;have er:(wW (Zh 9) [97] [List.replicate 20 0]).1=0:=Avs;have lA:Co d 1 3 (Bx [(.lit (.string ⟨#[]⟩))] 3) [(0,1,(.lit (.string ⟨#[45,45,115,112,97,114,115,101,61,97,108,119,97,121,115]⟩))),(1,1,(.lit (.string ⟨#[97]⟩))),(2,1,(.lit (.string ⟨#[98]⟩)))]=some (.sl d.length 0 3 1 (.ex 3),d++[some (.cells ([alwA,[97],[98]].flatMap BT))]):=rfl;simp only[er,Bz,Ai3,Ad1,lA,A6];have g4:=Grew.app d [some (AObj.cells ([alwA,[97],[98]].flatMap BT))];have v4:Ac (d++[some (AObj.cells ([alwA,[97],[98]].flatMap BT))]) 1 (.sl d.length 0 3 1 (.ex 3))=some ([alwA,[97],[98]].flatMap BT,[alwA,[97],[98]].length):=by rw[AS BE (by simp[BT])];rfl
 obtain⟨r,i,⟨rfl,p5,k,f5⟩,f⟩:=Afb (Bd:=4096) (l:=[alwA,[97],[98]]) (t.grew g4) m (aJ m (of_decide_eq_true Ajy)) (by omega) (by omega) v4 (by simp[alwA]) (by simp);refine bC_of f ?_;have o:SW 300000 Yp.2:=(Ajx m [alwA,[97],[98]] (Bd:=4096) (aJ m (of_decide_eq_true Ajy)) (by omega)).mono (by omega);have k:StAt Yp.2 ([]:AH).length p5 i:=k;have e5:(rN uK.2 [alwA,[97],[98]]).1=0:=Avt;rw[e5];have s:∀(H:AH) (e:Int),AE H (.agg [(I 0),(.lit (.string ⟨#[]⟩)),(I 0),(I 0),(I 0),(I 0),(I 0)])=some (.ptr H.length 0,H++[some (.cells [I 0,S (Ax []),I 0,I 0,I 0,I 0,I 0])])/\AU 7 (H++[some (AObj.cells [I 0,S (Ax []),I 0,I 0,I 0,I 0,I 0])]) (.ptr H.length 0) (fI e)=some (H++[some (.cells [I e,S (Ax []),I 0,I 0,I 0,I 0,I 0])]):=λH e=>by refine⟨rfl,?_⟩;unfold fI;rw[AG (n:=7) (xs:=[I e,S (Ax []),I 0,I 0,I 0,I 0,I 0]) (cs:=[I 0,S (Ax []),I 0,I 0,I 0,I 0,I 0]) (by simp[Cy,oneA]) BE rfl (by simp)];simp[Bb]
 simp only[(s _ 0).1,(s _ 0).2,Ad2];have g6:=Grew.app i [some (AObj.cells [I 0,S (Ax []),I 0,I 0,I 0,I 0,I 0])];have P:=Bes.new k [I 0,S (Ax []),I 0,I 0,I 0,I 0,I 0];have J:=k.grew g6;generalize (i++[some (AObj.cells [I 0,S (Ax []),I 0,I 0,I 0,I 0,I 0])])=H6 at*;generalize i.length=o5 at*;obtain⟨R,hR,r,b,⟨rfl,z⟩,f⟩:=Aeu J o (by omega);refine bC_of f ?_;obtain⟨k1,k2,k3⟩:=Avv;obtain⟨L,C,hp⟩:=Aij hR (o.now.sm (by omega)) 2;refine Az hp ?_;rw[k1,k2];have oL:=SV.oneA C;have m1:AE b (.agg [(I 0),Ad])=some (.ptr b.length 0,b++[some (.cells [I 0,Ad])]):=rfl;have m2:AU 2 (b++[some (AObj.cells [I 0,Ad])]) (.ptr b.length 0) (.agg [I 20,L])=some (b++[some (.cells [I 20,L])]):=by rw[AG (n:=2) (xs:=[I 20,L]) (cs:=[I 0,Ad]) (by simp[oL]) BE rfl (by simp)];simp[Bb]
 have lB:∀H:AH,Co H 1 1 (Bx [(.lit (.string ⟨#[]⟩))] 1) [(0,1,(.lit (.string ⟨#[97]⟩)))]=some (.sl H.length 0 1 1 (.ex 1),H++[some (.cells ([[97]].flatMap BT))]):=λ_=>rfl;simp only[Ad0,m1,Ad2,m2,lB];have A:=Grew.app b [some (AObj.cells [I 20,L])];have Q:=P.grew z;have K:=J.grew z;have X:=Bes.new K [I 20,L];have T:=Q.grew A;have ad:=K.grew A;generalize (b++[some (AObj.cells [I 20,L])])=H8 at*;generalize b.length=o7' at*;have q:=Grew.app H8 [some (AObj.cells ([[97]].flatMap BT))];have v9:Ac (H8++[some (AObj.cells ([[97]].flatMap BT))]) 1 (.sl H8.length 0 1 1 (.ex 1))=some ([[97]].flatMap BT,([[97]]:List Tx).length):=by rw[AS BE (by simp[BT])];rfl
 have U:=T.grew q;have Y:=X.grew q;obtain⟨r,M,⟨rfl,ae,af,u⟩,f⟩:=Afb (Bd:=4096) (l:=[[97]]) (ad.grew q) o (aJ o (of_decide_eq_true Avx)) (by omega) (by omega) v9 (by simp) (by simp);refine bC_of f ?_;have N:=U.step u;have V:=Y.step u;rw[Avu];simp only[(s _ 2).2,A9];have y:=Grew.app M [some (AObj.cells [I 2,S (Ax []),I 0,I 0,I 0,I 0,I 0])];have O:=N.grew y;have W:=V.grew y;have aa:AW L=some (I 0):=by rw[C.len,k3];rfl
 simp only[Ab5,Ah O.at',Ah W.at',Ah BE,Bu,Af1,A7,aa])
theorem Xs:Ba2 3 [] (B true):=.of_true Avy
def rightT:List (List UInt8):=[[97],[98],[99],[100,115,116],[109,97,112],[120,45,49]]
def Ig (k:UInt8):List UInt8:=rightT.getD (k.toNat % 6) []
theorem Ajz (k:UInt8):Ba2 46 [.lit (.int .u8 k.toNat)] (S (Ax (Ig k))):=BPure.val rfl rfl (Zl (by
 unfold UF;have a:Co [] 1 6 (Bx [(.lit (.string ⟨#[]⟩))] 6) [(0,1,(.lit (.string ⟨#[97]⟩))),(1,1,(.lit (.string ⟨#[98]⟩))),(2,1,(.lit (.string ⟨#[99]⟩))),(3,1,(.lit (.string ⟨#[100,115,116]⟩))),(4,1,(.lit (.string ⟨#[109,97,112]⟩))),(5,1,(.lit (.string ⟨#[120,45,49]⟩)))]=some (.sl 0 0 6 1 (.ex 6),[some (.cells (rightT.map λs=>S (Ax s)))]):=by rfl
 have e:k.toNat % 6<6:=At4 _ (by omega);have b:Ar .rem (.lit (.int .u8 k.toNat)) (.lit (.int .u8 6))=some (.lit (.int .u8 ((k.toNat % 6:Nat):Int))):=by simp[Ar,Ls,At7]
 rw[a,b];simp only[A6,Aa];have c:AY 1 (.sl 0 0 6 1 (.ex 6)) (.lit (.int .u8 ((k.toNat % 6:Nat):Int)))=some (.ptr 0 (k.toNat % 6)):=by simp[AY,OG];omega
 have d:Aq false 1 [some (.cells (rightT.map λs=>S (Ax s)))] (.ptr 0 (k.toNat % 6))=some (S (Ax (Ig k))):=by
  rw[Ah (cs:=rightT.map λs=>S (Ax s)) rfl];have:rightT[k.toNat % 6]?=some (Ig k):=by unfold Ig;rw[Al0,Dq (show k.toNat % 6<rightT.length by simp[rightT];omega)];rfl
  simp[Ae,this]
 rw[c];simp only[Aa,d]))
def nameT:List (List UInt8):=[[97],[98],[99],[100,115,116],[109,97,112],[109,97,112,46,110,101,119],[120,45,49],[100,105,115,107],[],[65],[45,97],[97,47,98],[97,98,99,100,101,102,103,104,105,106,107,108,109,110,111,112,113,114,115,116],[97,98,99,100,101,102,103,104,105,106,107,108,109,110,111,112,113,114,115,116,117],[97,98,99,100,101,102,103,104,105,106,107,108,109,110,111,112],[97,98,99,100,101,102,103,104,105,106,107,108,109,110,111,112,113],[46],[48]]
def L4 (k:UInt8):List UInt8:=nameT.getD (k.toNat % 18) []
theorem Aka (k:UInt8):Ba2 112 [.lit (.int .u8 k.toNat)] (S (Ax (L4 k))):=BPure.val rfl rfl (bX (by
 unfold GR;have a:Co [] 1 18 (Bx [(.lit (.string ⟨#[]⟩))] 18) [(0,1,(.lit (.string ⟨#[97]⟩))),(1,1,(.lit (.string ⟨#[98]⟩))),(2,1,(.lit (.string ⟨#[99]⟩))),(3,1,(.lit (.string ⟨#[100,115,116]⟩))),(4,1,(.lit (.string ⟨#[109,97,112]⟩))),(5,1,(.lit (.string ⟨#[109,97,112,46,110,101,119]⟩))),(6,1,(.lit (.string ⟨#[120,45,49]⟩))),(7,1,(.lit (.string ⟨#[100,105,115,107]⟩))),(8,1,(.lit (.string ⟨#[]⟩))),(9,1,(.lit (.string ⟨#[65]⟩))),(10,1,(.lit (.string ⟨#[45,97]⟩))),(11,1,(.lit (.string ⟨#[97,47,98]⟩))),(12,1,(.lit (.string ⟨#[97,98,99,100,101,102,103,104,105,106,107,108,109,110,111,112,113,114,115,116]⟩))),(13,1,(.lit (.string ⟨#[97,98,99,100,101,102,103,104,105,106,107,108,109,110,111,112,113,114,115,116,117]⟩))),(14,1,(.lit (.string ⟨#[97,98,99,100,101,102,103,104,105,106,107,108,109,110,111,112]⟩))),(15,1,(.lit (.string ⟨#[97,98,99,100,101,102,103,104,105,106,107,108,109,110,111,112,113]⟩))),(16,1,(.lit (.string ⟨#[46]⟩))),(17,1,(.lit (.string ⟨#[48]⟩)))]=some (.sl 0 0 18 1 (.ex 18),[some (.cells (nameT.map λs=>S (Ax s)))]):=by rfl
 have e:k.toNat % 18<18:=At4 _ (by omega);have b:Ar .rem (.lit (.int .u8 k.toNat)) (.lit (.int .u8 18))=some (.lit (.int .u8 ((k.toNat % 18:Nat):Int))):=by simp[Ar,Ls,At7]
 rw[a,b];simp only[A6,Aa];have c:AY 1 (.sl 0 0 18 1 (.ex 18)) (.lit (.int .u8 ((k.toNat % 18:Nat):Int)))=some (.ptr 0 (k.toNat % 18)):=by simp[AY,OG];omega
 have d:Aq false 1 [some (.cells (nameT.map λs=>S (Ax s)))] (.ptr 0 (k.toNat % 18))=some (S (Ax (L4 k))):=by
  rw[Ah (cs:=nameT.map λs=>S (Ax s)) rfl];have:nameT[k.toNat % 18]?=some (L4 k):=by unfold L4;rw[Al0,Dq (show k.toNat % 18<nameT.length by simp[nameT];omega)];rfl
  simp[Ae,this]
 rw[c];simp only[Aa,d]))
end Go.Proofs.YtbppnhenlboefaaGreat.Av
end
section
set_option maxHeartbeats 1000000
namespace Go.Proofs.YtbppnhenlboefaaGreat.Av
open Go Go.RowKit
def nevA:Tx:=[45,45,115,112,97,114,115,101,61,110,101,118,101,114]
def autA:Tx:=[45,45,115,112,97,114,115,101,61,97,117,116,111]
theorem Avz (l:List Tx):(l.flatMap BT).length=l.length:=by
 induction l with
 | nil=>rfl
 | cons a l ih=>simp[BT,ih]
theorem Aw8 (H:AH)(z:Int){L:AV}(a:oneA L=true):AE H (.agg [(I 0),Ad])=some (.ptr H.length 0,H++[some (.cells [I 0,Ad])])/\AU 2 (H++[some (AObj.cells [I 0,Ad])]) (.ptr H.length 0) (.agg [I z,L])=some (H++[some (.cells [I z,L])]):=by
 refine⟨rfl,?_⟩;rw[AG (n:=2) (xs:=[I z,L]) (cs:=[I 0,Ad]) (by simp[a]) BE rfl (by simp)];simp[Bb]
end Go.Proofs.YtbppnhenlboefaaGreat.Av
end
section
namespace Go.Proofs.YtbppnhenlboefaaGreat.Av
open Go Go.Proofs.Tryz
def uG:FuncId->Bool:=hU [43,82,20,13,52,40,102,24,23,98,50,170,172,188,179,181,22,99,169,111,143,142,148,180,182,145,73,141,171,173,144,75,176,135,70,134,139,149,174,112,45,234,3,16,46,132,131,130,133,28]
def MW:Nat->Option (List Bool):=BI [(3,mk 28 0 [0,3])]
def O6 (p:List Bool)(n:Nat):List AV->AH->Kf->Prop:=AR prog A8 uG Aw Aw MW (sub p (AK f132)) n
def MV:T10:=λa b H K=>lp (mk 28 0 [0,3]) (O6 (pbZ 37) 4) [a,b] H (AP 0 (AO (O6 (pbZ 7) 9) (AN prog f132.results.toList K)))
def KX:T22:=λe a d H K=>bO (Ev a) λh=>bO (Ar .lss d h) λi=>bB i λg=>bI g (bO (N5 a d) λs=>bO (Ar .lss s (.lit (.int .u8 97))) λb=>bG b false λz=>gO z (some a) λt=>bG b false λA=>gO A (some d) λu=>bG b false λC=>gO C (N5 t u) λj=>bG b false λv=>gO v (Ar .gtr j (.lit (.int .u8 122))) λk=>bO (A0 b (B true) k) λl=>bB l λf=>bI f (K (B false) H) (bO (Ar .add d (I 1)) λm=>e [a,m] H)) (bO (Ev a) λn=>bO (Ar .geq n (I 1)) λc=>bG c true λw=>gO w (some a) λo=>bG c true λx=>gO x (Ev o) λp=>bG c true λy=>gO y (Ar .leq p (I 10)) λq=>bO (A0 c q (B false)) λr=>K r H)
theorem RP {K:KT}:Aaa (λR a b H=>KX R a b H K) (λa b H=>MV a b H K):=jN (A3 _ _) (λ_ _ _ _=>by kernel_rfl)
def RO:T12:=λa0 H K=>MV a0 (I 0) H K
theorem WY {a0 H K}(h:RO a0 H K):BQ 132 [a0] H K:=fok A8 uG MW func132 h
def P2:Nat->Option (List Bool):=BI [(3,mk 27 0 [0,1,7])]
def RL (p:List Bool)(n:Nat):List AV->AH->Kf->Prop:=AR prog A8 uG Aw Aw P2 (sub p (AK f131)) n
def P1:T11:=λa b c H K=>lp (mk 27 0 [0,1,7]) (RL (pbZ 37) 4) [a,b,c] H (AP 0 (AO (RL (pbZ 7) 9) (AN prog f131.results.toList K)))
def MU:T18:=λd a c b H K=>bO (Ev a) λg=>bO (Ar .lss b g) λh=>bB h λe=>bI e (bO (N5 a b) λi=>bO (Ar .eql i c) λj=>bB j λf=>bI f (bO (OI a none (some b)) λk=>bO (Ar .add b (I 1)) λl=>bO (OI a (some l) none) λm=>K (.tup [k,m,(B true)]) H) (bO (Ar .add b (I 1)) λn=>d [a,c,n] H)) (K (.tup [a,(.lit (.string ⟨#[]⟩)),(B false)]) H)
theorem TW {K:KT}:rC (λR a b c H=>MU R a b c H K) (λa b c H=>P1 a b c H K):=T6 (A3 _ _) (λ_ _ _ _ _=>by kernel_rfl)
def Vc:T10:=λa0 a1 H K=>P1 a0 a1 (I 0) H K
theorem Zw {a0 a1 H K}(h:Vc a0 a1 H K):BQ 131 [a0,a1] H K:=fok A8 uG P2 func131 h
def MY:Nat->Option (List Bool):=BI [(16,mk 58 0 [0,3,4]),(6,mk 58 0 [0,3]),(3,mk 58 0 [0,3])]
def CN (p:List Bool)(n:Nat):List AV->AH->Kf->Prop:=AR prog A8 uG Aw Aw MY (sub p (AK f130)) n
def WZ:T22:=λa b c H K=>jn (mk 58 0 [0,3]) (CN (pbZ 229) 22) [b,c] H (M1 (mk 58 0 [0,3]) a (AP 0 (AO (CN (pbZ 7) 22) (AN prog f130.results.toList K))))
def VN:T18:=λa b c d H K=>lp (mk 58 0 [0,3,4]) (CN (pbZ 10021) 17) [b,c,d] H (AP 2 (AP 1 (AO (De (mk 58 0 [0,3]) (CN (pbZ 229) 22)) (M1 (mk 58 0 [0,3]) a (AP 0 (AO (CN (pbZ 7) 22) (AN prog f130.results.toList K)))))))
def MX:T10:=λa b H K=>lp (mk 58 0 [0,3]) (CN (pbZ 37) 4) [a,b] H (AP 0 (AO (CN (pbZ 7) 22) (AN prog f130.results.toList K)))
def KY:T22:=λg b a H K=>bO (Ev b) λl=>bO (Ar .lss a l) λm=>bB m λi=>bI i (bO (N5 b a) λx=>bO (Ar .eql x (.lit (.int .u8 58))) λD=>bB D λj=>bI j (bO (Ar .eql a (I 0)) λd=>bG d false λw7=>gO w7 (some b) λN=>bG d false λw9=>gO w9 (some a) λn=>bG d false λO=>gO O (Ar .sub n (I 1)) λo=>bG d false λP=>gO P (N5 N o) λp=>bG d false λQ=>gO Q (Ar .eql p (.lit (.int .u8 58))) λq=>bO (A0 d (B true) q) λr=>bB r λh=>bI h (K (B false) H) (WZ g b a H K)) (bO (N5 b a) λs=>bO (Ar .lss s (.lit (.int .u8 97))) λe=>bG e false λR=>gO R (some b) λt=>bG e false λS=>gO S (some a) λu=>bG e false λT=>gO T (N5 t u) λv=>bG e false λU=>gO U (Ar .gtr v (.lit (.int .u8 122))) λw=>bO (A0 e (B true) w) λc=>bG c true λV=>gO V (some b) λy=>bG c true λW=>gO W (some a) λz=>bG c true λX=>gO X (N5 y z) λA=>bG c true λY=>gO Y (Ar .lss A (.lit (.int .u8 65))) λC=>bG c true λZ=>gO Z (some C) λf=>bG f false λaa=>gO aa (some b) λE=>bG f false λab=>gO ab (some a) λF=>bG f false λad=>gO ad (N5 E F) λG=>bG f false λae=>gO ae (Ar .gtr G (.lit (.int .u8 90))) λJ=>bG c true λaf=>gO af (A0 f (B true) J) λL=>bO (A0 c L (B false)) λM=>bB M λk=>bI k (K (B false) H) (VN g b a (I 0) H K))) (K (B true) H)
theorem RR {K:KT}:Aaa (λR a b H=>KY R a b H K) (λa b H=>MX a b H K):=jN (A3 _ _) (λ_ _ _ _=>by kernel_rfl)
def RQ:T12:=λa0 H K=>MX a0 (I 0) H K
theorem Xa {a0 H K}(h:RQ a0 H K):BQ 130 [a0] H K:=fok A8 uG MY func130 h
def RN:Nat->Option (List Bool):=BI [(3,mk 33 0 [0,1,5])]
def To (p:List Bool)(n:Nat):List AV->AH->Kf->Prop:=AR prog A8 uG Aw Aw RN (sub p (AK f133)) n
def RM:T11:=λa b c H K=>lp (mk 33 0 [0,1,5]) (To (pbZ 37) 4) [a,b,c] H (AP 0 (AO (To (pbZ 7) 12) (AN prog f133.results.toList K)))
def O5:T18:=λf b e c H K=>bO (Ev b) λj=>bO (Ar .lss c j) λk=>bB k λh=>bI h (bO (N5 b c) λu=>bO (Ar .eql u e) λd=>bG d true λE=>gO E (some e) λv=>bG d true λF=>gO F (Ar .neq v (.lit (.int .u8 58))) λw=>bO (A0 d w (B false)) λx=>bB x λg=>bI g (bO (Ar .add c (I 1)) λl=>bO (Ev b) λm=>bO (Ar .lss l m) λa=>bG a true λy=>gO y (some b) λn=>bG a true λz=>gO z (some c) λo=>bG a true λA=>gO A (Ar .add o (I 1)) λp=>bG a true λC=>gO C (N5 n p) λq=>bG a true λD=>gO D (Ar .eql q (.lit (.int .u8 58))) λr=>bO (A0 a r (B false)) λs=>bB s λi=>bI i (K (I 2) H) (K (I 1) H)) (bO (Ar .add c (I 1)) λt=>f [b,e,t] H)) (K (I 0) H)
theorem Vd {K:KT}:rC (λR a b c H=>O5 R a b c H K) (λa b c H=>RM a b c H K):=T6 (A3 _ _) (λ_ _ _ _ _=>by kernel_rfl)
def W0:T10:=λa0 a1 H K=>RM a0 a1 (I 0) H K
theorem cE {a0 a1 H K}(h:W0 a0 a1 H K):BQ 133 [a0,a1] H K:=fok A8 uG RN func133 h
def Pz:Nat->Option (List Bool):=BI [(25,mk 146 0 [0,1,4,6,7,8,12]),(31,mk 146 0 [0,1,4,6,7,8,12,13]),(22,mk 146 0 [0,1,4,6,7,8,12]),(10,mk 146 0 [0,1,4,6,7]),(7,mk 146 0 [0,1,4,6,7])]
def BP (p:List Bool)(n:Nat):List AV->AH->Kf->Prop:=AR prog A8 uG Aw Aw Pz (sub p (AK f64)) n
def D2:T17:=λa b c d e f H K=>jn (mk 146 0 [0,1,4,6,7]) (BP (pbZ 919) 39) [b,c,d,e,f] H (M1 (mk 146 0 [0,1,4,6,7]) a (AP 0 (AO (BP (pbZ 31) 39) (AN prog f64.results.toList K))))
def I0 (a:RT)(b:RT)(c d g h i j e f:AV)(H:AH)(K:KT):Prop:=jn (mk 146 0 [0,1,4,6,7,8,12,13]) (BP (pbZ 522581143) 39) [c,d,g,h,i,j,e,f] H (AP 4 (AO (De (mk 146 0 [0,1,4,6,7,8,12]) (BP (pbZ 15070359) 39)) (M1 (mk 146 0 [0,1,4,6,7,8,12]) a (AP 3 (AP 2 (AP 1 (AO (De (mk 146 0 [0,1,4,6,7]) (BP (pbZ 919) 39)) (M1 (mk 146 0 [0,1,4,6,7]) b (AP 0 (AO (BP (pbZ 31) 39) (AN prog f64.results.toList K)))))))))))
def O3:T24:=λa b c e f g h d H K=>lp (mk 146 0 [0,1,4,6,7,8,12]) (BP (pbZ 2487447) 23) [b,c,e,f,g,h,d] H (AP 3 (AP 2 (AP 1 (AO (De (mk 146 0 [0,1,4,6,7]) (BP (pbZ 919) 39)) (M1 (mk 146 0 [0,1,4,6,7]) a (AP 0 (AO (BP (pbZ 31) 39) (AN prog f64.results.toList K))))))))
def Py:T14:=λa b c d e H K=>lp (mk 146 0 [0,1,4,6,7]) (BP (pbZ 151) 8) [a,b,c,d,e] H (AP 0 (AO (BP (pbZ 31) 39) (AN prog f64.results.toList K)))
def Ma:T17:=λa c d e f g H K=>bO (Ar .add g (I 1)) λb=>a [c,d,e,f,b] H
theorem Va (a:RT)(b c d e f:AV)(H:AH)(K:KT):D2 a b c d e f H K=Ma a b c d e f H K:=(Bi _ _ _ _ _).trans (by kernel_rfl)
def Mb:T25:=λi l h g c j k a b H K=>bO (Ev a) λy=>bO (Ar .lss b y) λz=>bB z λu=>bI u (bO (Ar .add b (I 1)) λO=>bO (OI a (some b) (some O)) λV=>bO (Dy [(.lit (.string ⟨#[]⟩)),(.lit (.string ⟨#[]⟩))] [(0,1,V)]) λv5=>bH (AE H (.agg [(.lit (.string ⟨#[]⟩)),(.lit (.string ⟨#[]⟩))])) λf s=>bS (AU 2 s f v5) λd=>bO (N5 a b) λv9=>bP (Ba1 133 [h,v9] d) λm=>bO (Ar .eql m (I 0)) λA=>bB A λt=>bI t (bO (Dy [Ad,Ad] []) λC=>bS (AU 2 d c C) λo=>bO (Aq true 2 o c) λD=>K (.tup [D,(B false)]) o) (bO (Ar .eql m (I 2)) λe=>bG e true λab=>gO ab (some b) λE=>bG e true λad=>gO ad (Ar .add E (I 1)) λF=>bG e true λae=>gO ae (some a) λG=>bG e true λaf=>gO af (Ev G) λJ=>bG e true λag=>gO ag (Ar .lss F J) λL=>bO (A0 e L (B false)) λM=>bB M λv=>bI v (bO (Ar .add b (I 1)) λN=>bO (OI a (some N) none) λP=>bO (Ab 1 f) λQ=>bS (AU 1 d Q P) λq=>bO (Ev a) λR=>I0 l i h g c j k a R f q K) (bO (Ar .eql m (I 2)) λS=>bB S λw=>bI w (bO (Ar .add k (I 1)) λn=>bO (AW g) λT=>bO (Ar .geq n T) λU=>bB U λx=>bI x (bO (Dy [Ad,Ad] []) λW=>bS (AU 2 d c W) λp=>bO (Aq true 2 p c) λX=>K (.tup [X,(B false)]) p) (bO (AY 1 g n) λY=>bO (Aq false 1 d Y) λZ=>bO (Ab 1 f) λaa=>bS (AU 1 d aa Z) λr=>I0 l i h g c j n a b f r K)) (I0 l i h g c j k a b f d K)))) (D2 i h g c j k H K)
theorem Sv (h:RT){K:KT}:Aaq (λR a b d e f g c H=>Mb h R a b d e f g c H K) (λa b d e f g c H=>O3 h a b d e f g c H K):=Acq (A3 _ _) (λ_ _ _ _ _ _ _ _ _=>by kernel_rfl)
def MS:T17:=λh j d b a e H K=>bO (AW d) λC=>bO (Ar .lss e C) λD=>bB D λw=>bI w (bO (AY 1 d e) λS=>bO (Aq false 1 H S) λc=>bO (OX .eql c (.lit (.string ⟨#[45,45]⟩))) λv5=>bB v5 λA=>bI A (bO (Ab 1 a) λv7=>bO (Aq false 1 H v7) λv8=>bO (Ar .add e (I 1)) λv9=>bO (Bq 1 d (some v9) none none) λE=>bH (Gt 1 16 H v8 E) λF p=>bO (Ab 1 a) λG=>bS (AU 1 p G F) λk=>bO (Aq true 2 k a) λJ=>bS (AU 2 k b J) λl=>bO (Aq true 2 l b) λL=>K (.tup [L,(B true)]) l) (bO (Ev c) λM=>bO (Ar .gtr M (I 2)) λf=>bG f true λar=>gO ar (some c) λN=>bG f true λau=>gO au (OI N none (some (I 2))) λO=>bG f true λav=>gO av (OX .eql O (.lit (.string ⟨#[45,45]⟩))) λP=>bO (A0 f P (B false)) λQ=>bB Q λx=>bI x (bO (OI c (some (I 2)) none) λR=>bP (Ba1 131 [R,(.lit (.int .u8 61))] H) λi=>bO (Ak i 0) λo=>bO (Ak i 1) λT=>bO (Ak i 2) λaz=>bP (Ba1 132 [o] H) λU=>bO (D5 .not U) λV=>bB V λy=>bI y (bO (Dy [Ad,Ad] []) λW=>bS (AU 2 H b W) λm=>bO (Aq true 2 m b) λX=>K (.tup [X,(B false)]) m) (bO (Ab 0 a) λY=>bO (Aq false 1 H Y) λZ=>bO (Dy [(.lit (.string ⟨#[]⟩)),(.lit (.string ⟨#[]⟩))] [(0,1,o),(1,1,T)]) λaa=>bH (Co H 2 1 (Bx [(.lit (.string ⟨#[]⟩)),(.lit (.string ⟨#[]⟩))] 1) [(0,2,aa)]) λab q=>bH (Gt 2 32 q Z ab) λad r=>bO (Ab 0 a) λae=>bS (AU 1 r ae ad) λs=>D2 h j d b a e s K)) (bO (Ev c) λaf=>bO (Ar .gtr af (I 1)) λg=>bG g true λaw=>gO aw (some c) λag=>bG g true λax=>gO ax (N5 ag (I 0)) λah=>bG g true λay=>gO ay (Ar .eql ah (.lit (.int .u8 45))) λai=>bO (A0 g ai (B false)) λaj=>bB aj λz=>bI z (O3 h j d b a e c (I 1) H K) (bO (Ab 1 a) λak=>bO (Aq false 1 H ak) λal=>bH (Co H 1 1 (Bx [(.lit (.string ⟨#[]⟩))] 1) [(0,1,c)]) λam t=>bH (Gt 1 16 t al am) λan u=>bO (Ab 1 a) λao=>bS (AU 1 u ao an) λv=>D2 h j d b a e v K)))) (bO (Aq true 2 H a) λap=>bS (AU 2 H b ap) λn=>bO (Aq true 2 n b) λaq=>K (.tup [aq,(B true)]) n)
theorem TU {K:KT}:xP (λR a b c d e H=>MS R a b c d e H K) (λa b c d e H=>Py a b c d e H K):=bM (A3 _ _) (λ_ _ _ _ _ _ _=>by kernel_rfl)
def UZ:T10:=λa0 a1 H K=>bH (AE H (.agg [Ad,Ad])) λc e=>bH (AE e (.agg [Ad,Ad])) λk b=>bO (AW a1) λl=>bO (Ar .gtr l (I 40)) λa=>bG a false λp=>gO p (some a0) λm=>bG a false λq=>gP q (Ba1 130 [m] b) λn=>bG a false λo=>gO o (D5 .not n) λg=>bO (A0 a (B true) g) λh=>bB h λf=>bI f (bO (Dy [Ad,Ad] []) λi=>bS (AU 2 b c i) λd=>bO (Aq true 2 d c) λj=>K (.tup [j,(B false)]) d) (Py a0 a1 c k (I 0) b K)
theorem Zv {a0 a1 H K}(h:UZ a0 a1 H K):BQ 64 [a0,a1] H K:=fok A8 uG Pz func64 h
def RI:Nat->Option (List Bool):=BI [(3,mk 26 0 [0,1,6])]
def Tn (p:List Bool)(n:Nat):List AV->AH->Kf->Prop:=AR prog A8 uG Aw Aw RI (sub p (AK f65)) n
def RH:T11:=λa b c H K=>lp (mk 26 0 [0,1,6]) (Tn (pbZ 37) 4) [a,b,c] H (AP 0 (AO (Tn (pbZ 7) 9) (AN prog f65.results.toList K)))
def O2:T18:=λd b c a H K=>bO (Ar .geq a (I 0)) λg=>bB g λe=>bI e (bO (AY 2 b a) λi=>bO (Ab 0 i) λj=>bO (Aq false 1 H j) λk=>bO (OX .eql k c) λl=>bB l λf=>bI f (bO (AY 2 b a) λm=>bO (Ab 1 m) λn=>bO (Aq false 1 H n) λo=>K (.tup [o,(B true)]) H) (bO (Ar .sub a (I 1)) λh=>d [b,c,h] H)) (K (.tup [(.lit (.string ⟨#[]⟩)),(B false)]) H)
theorem UY {K:KT}:rC (λR a b c H=>O2 R a b c H K) (λa b c H=>RH a b c H K):=T6 (A3 _ _) (λ_ _ _ _ _=>by kernel_rfl)
def Wy:T10:=λa0 a1 H K=>bO (AW a0) λa=>bO (Ar .sub a (I 1)) λb=>RH a0 a1 b H K
theorem cC {a0 a1 H K}(h:Wy a0 a1 H K):BQ 65 [a0,a1] H K:=fok A8 uG RI func65 h
def RK:Nat->Option (List Bool):=BI [(10,mk 35 0 [0,1,5,6,7]),(3,mk 35 0 [0,1,5])]
def Er (p:List Bool)(n:Nat):List AV->AH->Kf->Prop:=AR prog A8 uG Aw Aw RK (sub p (AK f66)) n
def P0:T17:=λa b c d e f H K=>lp (mk 35 0 [0,1,5,6,7]) (Er (pbZ 9509) 11) [b,c,d,e,f] H (AP 2 (AO (Er (pbZ 1829) 14) (AP 1 (AO (Er (pbZ 229) 16) (M1 (mk 35 0 [0,1,5]) a (AP 0 (AO (Er (pbZ 7) 16) (AN prog f66.results.toList K))))))))
def RJ:T11:=λa b c H K=>lp (mk 35 0 [0,1,5]) (Er (pbZ 37) 4) [a,b,c] H (AP 0 (AO (Er (pbZ 7) 16) (AN prog f66.results.toList K)))
def MT (g:RT)(f:RT)(c b d a e:AV)(H:AH)(K:KT):Prop:=bO (AW b) λj=>bO (Ar .lss e j) λk=>bB k λh=>bI h (bG a false λG=>gO G (some b) λw=>bG a false λJ=>gO J (some e) λx=>bG a false λL=>gO L (AY 1 w x) λy=>bG a false λM=>gO M (Aq false 1 H y) λl=>bG a false λz=>gO z (some c) λm=>bG a false λA=>gO A (some d) λn=>bG a false λC=>gO C (AY 2 m n) λo=>bG a false λD=>gO D (Ab 0 o) λp=>bG a false λE=>gO E (Aq false 1 H p) λq=>bG a false λF=>gO F (OX .eql l q) λr=>bO (A0 a (B true) r) λs=>bO (Ar .add e (I 1)) λt=>f [c,b,d,s,t] H) (bO (D5 .not a) λu=>bB u λi=>bI i (K (B false) H) (bO (Ar .add d (I 1)) λv=>g [c,b,v] H))
theorem TV (f:RT){K:KT}:xP (λR a b c d e H=>MT f R a b c d e H K) (λa b c d e H=>P0 f a b c d e H K):=bM (A3 _ _) (λ_ _ _ _ _ _ _=>by kernel_rfl)
def O4:T18:=λc a g b H K=>bO (AW a) λe=>bO (Ar .lss b e) λf=>bB f λd=>bI d (P0 c a g b (B false) (I 0) H K) (K (B true) H)
theorem Vb {K:KT}:rC (λR a b c H=>O4 R a b c H K) (λa b c H=>RJ a b c H K):=T6 (A3 _ _) (λ_ _ _ _ _=>by kernel_rfl)
def Wz:T10:=λa0 a1 H K=>RJ a0 a1 (I 0) H K
theorem cD {a0 a1 H K}(h:Wz a0 a1 H K):BQ 66 [a0,a1] H K:=fok A8 uG RK func66 h
def O1:Nat->Option (List Bool):=BI [(3,mk 32 0 [0,3])]
def Px (p:List Bool)(n:Nat):List AV->AH->Kf->Prop:=AR prog A8 uG Aw Aw O1 (sub p (AK f67)) n
def O0:T10:=λa b H K=>lp (mk 32 0 [0,3]) (Px (pbZ 37) 4) [a,b] H (AP 0 (AO (Px (pbZ 7) 9) (AN prog f67.results.toList K)))
def LZ:T22:=λe c d H K=>bO (AW c) λh=>bO (Ar .lss d h) λi=>bB i λf=>bI f (bO (AY 2 c d) λt=>bO (Ab 1 t) λx=>bO (Aq false 1 H x) λy=>bO (OX .neq y (.lit (.string ⟨#[97,117,116,111]⟩))) λb=>bG b true λO=>gO O (some c) λz=>bG b true λP=>gO P (some d) λj=>bG b true λA=>gO A (AY 2 z j) λk=>bG b true λC=>gO C (Ab 1 k) λl=>bG b true λD=>gO D (Aq false 1 H l) λm=>bG b true λE=>gO E (OX .neq m (.lit (.string ⟨#[97,108,119,97,121,115]⟩))) λn=>bO (A0 b n (B false)) λa=>bG a true λF=>gO F (some c) λo=>bG a true λG=>gO G (some d) λp=>bG a true λJ=>gO J (AY 2 o p) λq=>bG a true λL=>gO L (Ab 1 q) λr=>bG a true λM=>gO M (Aq false 1 H r) λs=>bG a true λN=>gO N (OX .neq s (.lit (.string ⟨#[110,101,118,101,114]⟩))) λu=>bO (A0 a u (B false)) λv=>bB v λg=>bI g (K (B false) H) (bO (Ar .add d (I 1)) λw=>e [c,w] H)) (K (B true) H)
theorem Su {K:KT}:Aaa (λR a b H=>LZ R a b H K) (λa b H=>O0 a b H K):=jN (A3 _ _) (λ_ _ _ _=>by kernel_rfl)
def Tm:T12:=λa0 H K=>O0 a0 (I 0) H K
theorem Y3 {a0 H K}(h:Tm a0 H K):BQ 67 [a0] H K:=fok A8 uG O1 func67 h
def Oe:Nat->Option (List Bool):=BI [(3,mk 31 0 [0,3])]
def Pi (p:List Bool)(n:Nat):List AV->AH->Kf->Prop:=AR prog A8 uG Aw Aw Oe (sub p (AK f33)) n
def Od:T10:=λa b H K=>lp (mk 31 0 [0,3]) (Pi (pbZ 37) 4) [a,b] H (AP 0 (AO (Pi (pbZ 7) 10) (AN prog f33.results.toList K)))
def LE:T22:=λe b c H K=>bO (Aj b) λh=>bO (Ab 0 h) λi=>bO (Ab 1 i) λp=>bO (Aq false 1 H p) λs=>bO (AW s) λt=>bO (Ar .lss c t) λu=>bB u λg=>bI g (bO (Aj b) λv=>bO (Ab 0 v) λw=>bO (Ab 1 w) λx=>bO (Aq false 1 H x) λj=>bO (AY 3 j c) λk=>bO (Ab 1 k) λl=>bO (Ab 0 l) λm=>bO (Aq false 1 H m) λd=>bO (Ar .gtr d (I 3000)) λa=>bG a true λy=>gO y (some d) λn=>bG a true λz=>gO z (Ar .leq n (I 32768)) λo=>bO (A0 a o (B false)) λq=>bB q λf=>bI f (K (B true) H) (bO (Ar .add c (I 1)) λr=>e [b,r] H)) (K (B false) H)
theorem Sh {K:KT}:Aaa (λR a b H=>LE R a b H K) (λa b H=>Od a b H K):=jN (A3 _ _) (λ_ _ _ _=>by kernel_rfl)
def Td:T12:=λa0 H K=>Od a0 (I 0) H K
theorem Yw {a0 H K}(h:Td a0 H K):BQ 33 [a0] H K:=fok A8 uG Oe func33 h
def QV:Nat->Option (List Bool):=BI [(3,mk 27 0 [0,1,5])]
def Tc (p:List Bool)(n:Nat):List AV->AH->Kf->Prop:=AR prog A8 uG Aw Aw QV (sub p (AK f28)) n
def QU:T11:=λa b c H K=>lp (mk 27 0 [0,1,5]) (Tc (pbZ 37) 4) [a,b,c] H (AP 0 (AO (Tc (pbZ 7) 9) (AN prog f28.results.toList K)))
def NZ:T18:=λe b d c H K=>bO (AW b) λh=>bO (Ar .lss c h) λa=>bG a true λt=>gO t (some c) λp=>bG a true λu=>gO u (some d) λq=>bG a true λv=>gO v (Ar .lss p q) λr=>bO (A0 a r (B false)) λs=>bB s λg=>bI g (bO (AY 1 b c) λi=>bO (Aq false 1 H i) λj=>bO (Ev j) λk=>bO (Ar .gtr k (I 40)) λl=>bB l λf=>bI f (K (B false) H) (bO (Ar .add c (I 1)) λm=>e [b,d,m] H)) (bO (AW b) λn=>bO (Ar .leq n d) λo=>K o H)
theorem UH {K:KT}:rC (λR a b c H=>NZ R a b c H K) (λa b c H=>QU a b c H K):=T6 (A3 _ _) (λ_ _ _ _ _=>by kernel_rfl)
def Wv:T10:=λa0 a1 H K=>QU a0 a1 (I 0) H K
theorem bZ {a0 a1 H K}(h:Wv a0 a1 H K):BQ 28 [a0,a1] H K:=fok A8 uG QV func28 h
end Go.Proofs.YtbppnhenlboefaaGreat.Av
end
section
set_option maxHeartbeats 1000000
namespace Go.Proofs.YtbppnhenlboefaaGreat.Av
open Go Go.RowKit Go.Proofs.Tryz
theorem pT (b:UInt8)(l:List UInt8):lH (b::l)=if b=61 then 0 else if lH l= -1 then -1 else lH l+1:=by
 show Lib.indexByte (b::l) 61=_;unfold Lib.indexByte lH;simp only[beq_iff_eq]
theorem zZ:∀{a:List UInt8},(∀c∈a,c≠61)->lH a= -1
 | [],_=>rfl
 | b::l,h=>by rw[pT,if_neg (h b (by simp)),if_pos (zZ λc d=>h c (by simp[d]))]
theorem Akb:∀{a:List UInt8} {k:Nat},a[k]?=some 61->(∀m y,m<k->a[m]?=some y->y≠61)->lH a=k
 | [],k,h,_=>by simp at h
 | b::l,0,h,_=>by rw[BH]at h;injection h with h;rw[pT,if_pos h];rfl
 | b::l,k+1,h,hm=>by rw[Ca]at h;have d:=Akb h λm y e c=>hm (m+1) y (by omega) (by simpa using c);rw[pT,if_neg (hm 0 b (by omega) rfl),d,if_neg (by omega)];omega
theorem Aw9 {a:List UInt8}(w:a.length<=9223372036854775806):Ba2 132 [S (Ax a)] (B (decide (NH a))):=BPure.flat λH=>WY (by
 unfold RO;have p:Ev (S (Ax a))=some (I a.length):=FL (by omega);refine RP (λn r s H'=>∃k:Nat,k+n=a.length/\r=S (Ax a)/\s=I k/\H'=H/\∀m y,m<k->a[m]?=some y->Md y) ?_ a.length ⟨0,by omega,rfl,rfl,rfl,by omega⟩;rintro n r s H' R t ⟨k,x,rfl,rfl,rfl,o⟩;unfold KX;simp only[p,Ac1];rcases Aj5 k a.length with h | h
 ·have g:=Dq h;generalize a[k]=y at g;simp only[show(k:Int)<(a.length:Int) by omega,Ab7,I7 rfl g,Ad5,AM];have l:¬Md y->decide (NH a)=false:=λv=>decide_eq_false λf=>v (f.2.2 y (Aj2 g));by_cases d:(y.toNat:Int)<97
  ·simp only[d,Ad3,show((true==false)=false)from rfl,AT,Ab9,l (by unfold Md;omega)];exact⟨by trivial,by trivial⟩
  ·simp only[d,B8,Do,Ad1,I7 rfl g,C8];by_cases j:(122:Int)<(y.toNat:Int)
   ·simp only[j,Ab7,l (by unfold Md;omega)];exact⟨by trivial,by trivial⟩
   ·simp only[j,Ac4,Au (a:=(k:Int)) (b:=1) (by omega) (by omega)];refine t (n - 1) _ _ _ (by omega) ⟨k+1,by omega,rfl,by simp,rfl,?_⟩;intro m z f i;by_cases c:m=k
    ·rw[c,g]at i;injection i with i;rw[<- i];unfold Md;omega
    ·exact o m z (by omega) i
 ·have all:∀c∈a,Md c:=λc u=>by obtain⟨m,f⟩:=Ak0.1 u;have:=(BG.1 f).1;exact o m c (by omega) f
  simp only[show ¬(k:Int)<(a.length:Int) by omega,Ac4,JP,A7];by_cases d:(1:Int)<=(a.length:Int)
  ·simp only[d,Af1,Aa,p,Vx];refine⟨?_,by trivial⟩;congr 3;refine propext ?_;constructor
   ·intro q;exact⟨by intro e;rw[e]at d;simp at d,by omega,all⟩
   ·intro q;have:=q.2.1;omega
  ·simp only[d,Ah9,show((false==true)=false)from rfl,AT,Aa];have e:a=[]:=An7 (by omega);exact⟨by rw[decide_eq_false (fun z:NH a=>z.1 e)],by trivial⟩)
theorem Awa {a:List UInt8}(A:a.length<=9223372036854775806):Ba2 131 [S (Ax a),.lit (.int .u8 61)] (.tup [S (Ax (JZ a).1),S (Ax (JZ a).2),B (decide (0<=lH a))]):=BPure.flat λH=>Zw (by
 unfold Vc;have x:Ev (S (Ax a))=some (I a.length):=FL (by omega);refine TW (λn o p q H'=>∃k:Nat,k+n=a.length/\o=S (Ax a)/\p=.lit (.int .u8 61)/\q=I k/\H'=H/\∀m y,m<k->a[m]?=some y->y≠61) ?_ a.length ⟨0,by omega,rfl,rfl,rfl,rfl,by omega⟩;rintro n o p q H' R v ⟨k,C,rfl,rfl,rfl,rfl,g⟩;unfold MU;simp only[x,Ac1];rcases Aj5 k a.length with h | h
 ·have f:=Dq h;generalize a[k]=y at f;simp only[show(k:Int)<(a.length:Int) by omega,Ab7,I7 rfl f,Aa5,Bu];by_cases c:y=61
  ·subst c;have j:=Akb f g;have s:OI (S (Ax a)) none (some (I (k:Int)))=some (S (Ax (a.take k))):=by rw[Hi (l:=0) (h:=k) rfl (by simp[BL]) (by omega) (by omega)];simp
   have t:Ar .add (I (k:Int)) (I 1)=some (I ((k+1:Nat):Int)):=by rw[Au (by omega) (by omega)];congr 3
   have u:OI (S (Ax a)) (some (I ((k+1:Nat):Int))) none=some (S (Ax (a.drop (k+1)))):=by rw[Hi (l:=k+1) (h:=a.length) (by simp[BL];omega) rfl (by omega) (by omega),Aj3 (by rw[Aj9];omega)]
   simp only[show(((61:UInt8).toNat:Int)=61)from rfl,Aj0,s,t,u];refine⟨?_,by trivial⟩;unfold JZ;rw[j,if_pos (by omega),decide_eq_true (by omega:(0:Int)<=(k:Int)),Ap6]
  ·have r:¬((y.toNat:Int)=61):=λe=>c (UInt8.toNat_inj.1 (by show y.toNat=61;omega));simp only[r,Ac4,Au (a:=(k:Int)) (b:=1) (by omega) (by omega)];refine v (n - 1) _ _ _ _ (by omega) ⟨k+1,by omega,rfl,rfl,by simp,rfl,?_⟩;intro m z i d;by_cases e:m=k
   ·rw[e,f]at d;injection d with d;rw[<- d];exact c
   ·exact g m z (by omega) d
 ·have j:lH a= -1:=zZ λc w=>by obtain⟨m,i⟩:=Ak0.1 w;have:=(BG.1 i).1;exact g m c (by omega) i
  simp only[show ¬(k:Int)<(a.length:Int) by omega,Aa8];refine⟨?_,by trivial⟩;unfold JZ;rw[j,if_neg (by omega),decide_eq_false (by omega)];rfl)
theorem Awb:Ba2 130 [.lit (.string ⟨#[]⟩)] (B true):=BPure.flat λH=>Xa (by
 unfold RQ;have d:(AV.lit (.string ⟨#[]⟩))=S (Ax []):=rfl;have c:Ev (S (Ax []))=some (I 0):=rfl;refine RR (λn a b H'=>a=S (Ax [])/\b=I 0/\H'=H) ?_ 0 ⟨rfl,rfl,rfl⟩;rintro n a b H' R e ⟨rfl,rfl,rfl⟩;unfold KY;simp only[c,Ac1,show decide ((0:Int)<0)=false from rfl,Ag];exact⟨by trivial,by trivial⟩)
theorem Awc (c:UInt8):Ba2 133 [.lit (.string ⟨#[]⟩),.lit (.int .u8 c.toNat)] (I 0):=BPure.flat λH=>cE (by
 unfold W0;have d:Ev (S (Ax []))=some (I 0):=rfl;refine Vd (λn a e b H'=>a=S (Ax [])/\b=I 0/\H'=H) ?_ 0 ⟨rfl,rfl,rfl⟩;rintro n a e b H' R f ⟨rfl,rfl,rfl⟩;unfold O5;simp only[d,Ac1,show decide ((0:Int)<0)=false from rfl,Ag];exact⟨by trivial,by trivial⟩)
end Go.Proofs.YtbppnhenlboefaaGreat.Av
end
section
set_option maxHeartbeats 1000000
namespace Go.Proofs.YtbppnhenlboefaaGreat.Av
open Go Go.RowKit Go.Proofs.Tryz
theorem Afc {H:AH}{v:AV}{l:List (Tx×Tx)}{k:Nat}{x:Tx×Tx}(h:Ac H 2 v=some (l.flatMap D0,l.length))(e:l[k]?=some x):∃p q a,AY 2 v (I (k:Int))=some p/\Ab 0 p=some q/\Aq false 1 H q=some (S (Ax x.1))/\Ab 1 p=some a/\Aq false 1 H a=some (S (Ax x.2)):=by
 have m:=(BG.1 e).1;obtain⟨p,c,j,d,b,t⟩:=I8 h (i:=(k:Int)) rfl m;rw[DA tI e,Ak9 (by simp[D0]),Aj3 (l:=D0 x) (i:=2) (by simp[D0])]at b;have f:c[0]?=some (S (Ax x.1)):=by rw[<- Ao2 (show 0<2 by omega),b];rfl
 have g:c[1]?=some (S (Ax x.2)):=by rw[<- Ao2 (show 1<2 by omega),b];rfl
 obtain⟨q,n,o⟩:=iI (k:=0) d;obtain⟨a,r,s⟩:=iI (k:=1) d;refine⟨p,q,a,j,n,?_,r,?_⟩
 ·rw[PW o (by omega) (by rw[Aj9];omega),Ae,Ak3];exact f
 ·rw[PW s (by omega) (by rw[Aj9];omega),Ae,Ak3];exact g
def Awd (op:List (Tx×Tx))(key:Tx)(r:AV):Prop:=(r=.tup [S (Ax []),B false]/\∀a∈op,a.1≠key)\/∃(k:Nat) (a:Tx×Tx),r=.tup [S (Ax a.2),B true]/\op[k]?=some a/\a.1=key/\∀m y,k<m->op[m]?=some y->y.1≠key
theorem Awe {op:List (Tx×Tx)}{v:AV}{H:AH}(hs:Ac H 2 v=some (op.flatMap D0,op.length))(hl:op.length<=1000000)(key:Tx):∃r H',(Awd op key r/\H'=H)/\Ba0 65 [v,S (Ax key)] H r H':=cC (by
 unfold Wy;simp only[Bt hs,Aa,B4 (a:=(op.length:Int)) (b:=1) (by omega) (by omega)];refine UY (λn i j l H'=>n<=op.length/\i=v/\j=S (Ax key)/\l=I ((n:Int) - 1)/\H'=H/\∀m y,n<=m->op[m]?=some y->y.1≠key) ?_ op.length ⟨Aj7 _,rfl,rfl,rfl,rfl,λm y f e=>by have:=(BG.1 e).1;omega⟩;rintro n i j l H' R A ⟨D,rfl,rfl,rfl,rfl,h⟩;unfold O2;simp only[JP,Aa5];cases n with
 | zero=>
  simp only[show ¬(0:Int)<=((0:Nat):Int) - 1 by omega,Aa8];refine⟨.inl ⟨by trivial,λC B=>?_⟩,by trivial⟩;obtain⟨m,f⟩:=Ak0.1 B;exact h m C (by omega) f
 | succ k=>
  have g:=Dq (show k<op.length by omega);generalize op[k]=x at g;obtain⟨p,q,E,s,t,u,w,z⟩:=Afc hs g;have o:((k+1:Nat):Int) - 1=(k:Int):=by omega
  rw[o];simp only[show(0:Int)<=(k:Int) by omega,Ab7,s,t,u,Aa5,DC];by_cases c:x.1=key
  ·simp only[c,Aj0,w,z];exact⟨.inr ⟨k,x,by trivial,g,c,λm y f e=>h m y (by omega) e⟩,by trivial⟩
  ·simp only[c,Ac4,B4 (a:=(k:Int)) (b:=1) (by omega) (by omega)];refine A k _ _ _ _ (by omega) ⟨by omega,rfl,rfl,rfl,rfl,λm y f e=>?_⟩;by_cases d:m=k
   ·rw[d,g]at e;injection e with e;rw[<- e];exact c
   ·exact h m y (by omega) e)
theorem Awf {op:List (Tx×Tx)}{v:AV}{H:AH}(hs:Ac H 2 v=some (op.flatMap D0,op.length))(hl:op.length<=1000000):∃r H',(r=B (decide (∀c∈op,E9 c.2))/\H'=H)/\Ba0 67 [v] H r H':=Y3 (by
 unfold Tm;have G:(AV.lit (.string ⟨#[97,117,116,111]⟩))=S (Ax GM):=rfl;have J:(AV.lit (.string ⟨#[97,108,119,97,121,115]⟩))=S (Ax JS):=rfl;have K:(AV.lit (.string ⟨#[110,101,118,101,114]⟩))=S (Ax bQ):=rfl;refine Su (λn w C H'=>∃k:Nat,k+n=op.length/\w=v/\C=I k/\H'=H/\∀m y,m<k->op[m]?=some y->E9 y.2) ?_ op.length ⟨0,by omega,rfl,rfl,rfl,by omega⟩;rintro n w C H' R D ⟨k,N,rfl,rfl,rfl,A⟩;unfold LZ;simp only[Bt hs,Ac1];rcases Aj5 k op.length with h | h
 ·have j:=Dq h;generalize op[k]=x at j;obtain⟨p,q,O,l,L,M,o,s⟩:=Afc hs j
  have next:E9 x.2->R [w,I ((k:Int)+1)] H':=λF=>D (n - 1) _ _ _ (by omega) ⟨k+1,by omega,rfl,by simp,rfl,λm z t e=>by
   by_cases d:m=k
   ·rw[d,j]at e;injection e with e;rw[<- e];exact F
   ·exact A m z (by omega) e⟩
  have u:=Au (a:=(k:Int)) (b:=1) (by omega) (by omega);simp only[show(k:Int)<(op.length:Int) by omega,Ab7,l,o,s,Ad5,G,J,K,JR];by_cases f:x.2=GM
  ·simp only[f,Pr,Ag7,show((false==true)=false)from rfl,A7,u];exact next (.inl f)
  ·simp only[f,Aa0,Af1,Ad5,l,o,s,JR];by_cases g:x.2=JS
   ·simp only[g,Ad8,Aa8,show((false==true)=false)from rfl,AT,An,u];exact next (.inr (.inl g))
   ·simp only[g,Aa0,Ac3,Aa5,l,o,s,JR];by_cases i:x.2=bQ
    ·simp only[i,not_true_eq_false,Ac4,u];exact next (.inr (.inr i))
    ·have:¬∀c∈op,E9 c.2:=λz=>by
      rcases z x (Aj2 j)with z | z | z
      ·exact f z
      ·exact g z
      ·exact i z
     simp only[i,Ae8,this,B8];exact⟨by trivial,by trivial⟩
 ·simp only[show ¬(k:Int)<(op.length:Int) by omega,Aa8];have all:∀c∈op,E9 c.2:=λc E=>by obtain⟨m,t⟩:=Ak0.1 E;have:=(BG.1 t).1;exact A m c (by omega) t
  rw[decide_eq_true all];exact⟨by trivial,by trivial⟩)
theorem Awg {op:List (Tx×Tx)}{v w:AV}{H:AH}{key:Tx}(hs:Ac H 2 v=some (op.flatMap D0,op.length))(hl:op.length<=1000000)(D:Ac H 1 w=some ([S (Ax key)],1)):∃r H',(r=B (decide (∀e∈op,e.1=key))/\H'=H)/\Ba0 66 [v,w] H r H':=cD (by
 unfold Wz;have E:AW w=some (I 1):=Bt D;obtain⟨X,L,Y,Z,w3,w4⟩:=I8 D (k:=0) (i:=0) rfl (by omega);have M:L[0]?=some (S (Ax key)):=by rw[<- Ao2 (show 0<1 by omega),w3];rfl
 have W:Aq false 1 H X=some (S (Ax key)):=by rw[PW Z (by omega) w4,Ae,M]
 refine Vb (λn o s F H'=>∃k:Nat,k+n=op.length/\o=v/\s=w/\F=I k/\H'=H/\∀m y,m<k->op[m]?=some y->y.1=key) ?_ op.length ⟨0,by omega,rfl,rfl,rfl,rfl,by omega⟩;rintro n o s F H' R Q ⟨k,hk,rfl,rfl,rfl,rfl,C⟩;unfold O4;simp only[Bt hs,Ac1];rcases Aj5 k op.length with h | h
 ·have g:=Dq h;generalize op[k]=x at g;obtain⟨p,q,p2,N,O,P,e4,e5⟩:=Afc hs g;simp only[show(k:Int)<(op.length:Int) by omega,Ab7];refine TV R (λl G J K t u A=>G=o/\J=s/\K=I k/\A=H'/\((l=1/\t=B false/\u=I 0)\/(l=0/\t=B (decide (key=x.1))/\u=I 1))) ?_ 1 ⟨rfl,rfl,rfl,rfl,.inl ⟨rfl,rfl,rfl⟩⟩;rintro l G J K t u A R2 T ⟨rfl,rfl,rfl,rfl,U⟩;unfold MT;rcases U with⟨rfl,rfl,rfl⟩ | ⟨rfl,rfl,rfl⟩
  ·simp only[E,AM,Ad1,show decide ((0:Int)<1)=true from rfl,Am,Ai9,Y,W,N,O,P,DC,Au (a:=0) (b:=1) (by omega) (by omega)];exact T 0 _ _ _ _ _ _ (by omega) ⟨rfl,rfl,rfl,rfl,.inr ⟨rfl,rfl,rfl⟩⟩
  ·simp only[E,Ac1,show decide ((1:Int)<1)=false from rfl,Ag,AJ];by_cases c:key=x.1
   ·simp only[c,Ah8,Au (a:=(k:Int)) (b:=1) (by omega) (by omega),Aa];refine Q (n - 1) _ _ _ _ (by omega) ⟨k+1,by omega,rfl,rfl,by simp,rfl,λm z j f=>?_⟩;by_cases d:m=k
    ·rw[d,g]at f;injection f with f;rw[<- f,c]
    ·exact(C m z (by omega) f).trans rfl
   ·have:¬∀e∈op,e.1=key:=λz=>c (z x (Aj2 g)).symm;simp only[c,Ag4,this];exact⟨by trivial,by trivial⟩
 ·simp only[show ¬(k:Int)<(op.length:Int) by omega,Aa8];have all:∀e∈op,e.1=key:=λe V=>by obtain⟨m,j⟩:=Ak0.1 V;have:=(BG.1 j).1;exact C m e (by omega) j
  rw[decide_eq_true all];exact⟨by trivial,by trivial⟩)
end Go.Proofs.YtbppnhenlboefaaGreat.Av
end
section
set_option maxHeartbeats 1000000
namespace Go.Proofs.YtbppnhenlboefaaGreat.Av
open Go Go.RowKit
structure Fk (n0 a o:Nat)(vl vo vr:AV)(l:List Tx)(op:List (Tx×Tx))(rs:List Tx)(H0 H:AH):Prop where
 obj:H[o]?=some (some (.cells [vo,vr]))
 ans:H[a]?=some (some (.cells [Ad,Ad]))
 ne:a≠o
 no:n0<=o/\n0<=a
 sl:Ac H 1 vl=some (l.flatMap BT,l.length)
 il:∀i∈Ba vl,i<n0
 so:Ac H 2 vo=some (op.flatMap D0,op.length)
 oo:Bm vo=true
 io:∀i∈Ba vo,n0<=i/\i≠o/\i≠a
 sr:Ac H 1 vr=some (rs.flatMap BT,rs.length)
 ow:Bm vr=true
 ir:∀i∈Ba vr,n0<=i/\i≠o/\i≠a
 dj:∀i∈Ba vo,i∉Ba vr
 g:n0<=H.length/\∀i,i<n0->H[i]?=H0[i]?
section
variable {n0 a o : Nat} {vl vo vr : AV} {l : List Tx} {op : List (Tx × Tx)} {rs : List Tx} {H0 H : AH}
theorem Fk.lt (h:Fk n0 a o vl vo vr l op rs H0 H):o<H.length/\a<H.length:=⟨(BG.1 h.obj).1,(BG.1 h.ans).1⟩
theorem Fk.opt (h:Fk n0 a o vl vo vr l op rs H0 H)(I:op.length<=1000)(k v:Tx):
  ∃r c j,Co H 2 1 (Bx [(.lit (.string ⟨#[]⟩)),(.lit (.string ⟨#[]⟩))] 1) [(0,2,.agg [S (Ax k),S (Ax v)])]=some (.sl H.length 0 1 2 (.ex 1),H++[some (.cells [S (Ax k),S (Ax v)])])/\Gt 2 32 (H++[some (.cells [S (Ax k),S (Ax v)])]) vo (.sl H.length 0 1 2 (.ex 1))=some (r,c)/\AU 1 c (.ptr o 0) r=some j/\Fk n0 a o vl r vr l (op++[(k,v)]) rs H0 j:=by
 have p:=h.lt;have w:Co H 2 1 (Bx [(.lit (.string ⟨#[]⟩)),(.lit (.string ⟨#[]⟩))] 1) [(0,2,.agg [S (Ax k),S (Ax v)])]=some (.sl H.length 0 1 2 (.ex 1),H++[some (.cells [S (Ax k),S (Ax v)])]):=by simp[Co,Bx,Cy,Bb,oneA]
 have g:=Grew.app H [some (AObj.cells [S (Ax k),S (Ax v)])];have F:Ac (H++[some (AObj.cells [S (Ax k),S (Ax v)])]) 2 (.sl H.length 0 1 2 (.ex 1))=some ([S (Ax k),S (Ax v)],1):=by rw[AS BE (by simp)];rfl
 obtain⟨r,c,s,a2,t,u,m,f⟩:=Cn (sz:=2) (bytes:=32) (g.slice h.so) h.oo (AA F) (by omega);have C:(H++[some (AObj.cells [S (Ax k),S (Ax v)])]).length=H.length+1:=by simp
 rw[C]at u m f;have d:∀i,i<H.length->i∉Ba vo->c[i]?=H[i]?:=λi A B=>(m i (by omega) B).trans (g.2 i A);have D:c[o]?=some (some (.cells [vo,vr])):=(d o p.1 λz=>(h.io o z).2.1 rfl).trans h.obj;have E:=AI a2;have x:AU 1 c (.ptr o 0) r=some (c.set o (some (.cells [r,vr]))):=by rw[AG (n:=1) (xs:=[r]) (cs:=[vo,vr]) (Bn E) D rfl (by simp)];rfl
 have e:∀i,i≠o->(c.set o (some (.cells [r,vr])))[i]?=c[i]?:=λi b=>Cc (Al6 b);have q:∀i∈Ba r,n0<=i/\i≠o/\i≠a:=λi b=>by
  rcases f i b with z | z
  ·exact h.io i z
  ·have:=h.g.1;exact⟨by omega,by omega,by omega⟩
 have J:=h.no;have G:=h.g.1;have low:∀i,i<n0->(c.set o (some (.cells [r,vr])))[i]?=H[i]?:=λi b=>by rw[e i (by omega)];exact d i (by omega) λz=>by have:=(h.io i z).1;omega
 refine⟨r,c,_,w,s,x,⟨HU (by omega),?_,h.ne,h.no,Ai h.sl λi b=>low i (h.il i b),h.il,?_,a2,q,?_,h.ow,h.ir,?_,by rw[Ak4];omega,λi b=>(low i b).trans (h.g.2 i b)⟩⟩
 ·rw[e a h.ne,d a p.2 λz=>(h.io a z).2.2 rfl];exact h.ans
 ·have:(op++[(k,v)]).flatMap D0=op.flatMap D0++[S (Ax k),S (Ax v)]:=by simp[D0]
  rw[this,Ak1];exact Ai t λi b=>e i (q i b).2.1
 ·exact Ai h.sr λi b=>by rw[e i (h.ir i b).2.1];exact d i (A5 h.sr i b) λz=>h.dj i z b
 ·intro i b z;rcases f i b with y | y
  ·exact h.dj i y z
  ·have:=A5 h.sr i z;omega
theorem Fk.more (h:Fk n0 a o vl vo vr l op rs H0 H){f:AH}(g:Grew H f)(J:rs.length<=1000){w:AV}{m:List Tx}(B:Ac f 1 w=some (m.flatMap BT,m.length))(I:m.length<=1000):
  ∃r c j,Gt 1 16 f vr w=some (r,c)/\AU 1 c (.ptr o 1) r=some j/\Fk n0 a o vl vo r l op (rs++m) H0 j:=by
 have p:=h.lt;obtain⟨r,c,s,a2,t,E,u,k⟩:=Cn (sz:=1) (bytes:=16) (g.slice h.sr) h.ow (AA B) (by omega);have F:=g.1;have d:∀i,i<H.length->i∉Ba vr->c[i]?=H[i]?:=λi x A=>(u i (by omega) A).trans (g.2 i x);have C:c[o]?=some (some (.cells [vo,vr])):=(d o p.1 λz=>(h.ir o z).2.1 rfl).trans h.obj;have D:=AI a2;have v:AU 1 c (.ptr o 1) r=some (c.set o (some (.cells [vo,r]))):=by rw[AG (n:=1) (xs:=[r]) (cs:=[vo,vr]) (Bn D) C rfl (by simp)];rfl
 have e:∀i,i≠o->(c.set o (some (.cells [vo,r])))[i]?=c[i]?:=λi b=>Cc (Al6 b);have q:∀i∈Ba r,n0<=i/\i≠o/\i≠a:=λi b=>by
  rcases k i b with z | z
  ·exact h.ir i z
  ·have:=h.g.1;exact⟨by omega,by omega,by omega⟩
 have K:=h.no;have G:=h.g.1;have low:∀i,i<n0->(c.set o (some (.cells [vo,r])))[i]?=H[i]?:=λi b=>by rw[e i (by omega)];exact d i (by omega) λz=>by have:=(h.ir i z).1;omega
 refine⟨r,c,_,s,v,⟨HU (by omega),?_,h.ne,h.no,Ai h.sl λi b=>low i (h.il i b),h.il,?_,h.oo,h.io,?_,a2,q,?_,by rw[Ak4];omega,λi b=>(low i b).trans (h.g.2 i b)⟩⟩
 ·rw[e a h.ne,d a p.2 λz=>(h.ir a z).2.2 rfl];exact h.ans
 ·exact Ai h.so λi b=>by rw[e i (h.io i b).2.1];exact d i (A5 h.so i b) λz=>h.dj i b z
 ·have:(rs++m).flatMap BT=rs.flatMap BT++m.flatMap BT:=by simp
  rw[this,Ak1];exact Ai t λi b=>e i (q i b).2.1
 ·intro i b z;rcases k i z with y | y
  ·exact h.dj i b y
  ·have:=A5 h.so i b;omega
theorem Fk.ret (h:Fk n0 a o vl vo vr l op rs H0 H){x y:AV}(b:oneA x=true)(c:oneA y=true):AU 2 H (.ptr a 0) (.agg [x,y])=some (H.set a (some (.cells [x,y])))/\Aq true 2 (H.set a (some (.cells [x,y]))) (.ptr a 0)=some (.agg [x,y]):=by
 constructor
 ·rw[AG (n:=2) (xs:=[x,y]) (cs:=[Ad,Ad]) (by simp[b,c]) h.ans rfl (by simp)];simp[Bb]
 ·rw[Ah (HU h.lt.2)];rfl
end
theorem Acj {H:AH}{v:AV}{l:List Tx}{k:Nat}{x:Tx}(h:Ac H 1 v=some (l.flatMap BT,l.length))(b:l[k]?=some x):∃p,AY 1 v (I (k:Int))=some p/\Aq false 1 H p=some (S (Ax x)):=by
 have j:=(BG.1 b).1;obtain⟨p,c,e,f,a,g⟩:=I8 h (i:=(k:Int)) rfl j;rw[DA dQ b,Ak9 (by simp[BT]),Aj3 (l:=BT x) (i:=1) (by simp[BT])]at a;have d:c[0]?=some (S (Ax x)):=by rw[<- Ao2 (show 0<1 by omega),a];rfl
 exact⟨p,e,by rw[PW f (by omega) g,Ae,d]⟩
end Go.Proofs.YtbppnhenlboefaaGreat.Av
end
