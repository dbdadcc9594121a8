/- Texts of this proof, one behind the other, packed into one file by a program of this session. No condition. -/
import Derived.Test.YtbppnhenlboefaaGreatMcI
import Derived.Lib.Bytealg
set_option linter.unusedVariables false
set_option linter.unusedSimpArgs false
set_option maxRecDepth 100000
namespace Go.Proofs.YtbppnhenlboefaaGreat.Av
open Go Go.RowKit Go.Proofs.Tryz
section
def WO (s:StS)(nm:List UInt8)(l:List (List UInt8)):Int×StS:=
 if(Bc s nm true).1.2≠0 then((Bc s nm true).1.2,(Bc s nm true).2)
 else if(Es (Bc s nm true).2 (Bc s nm true).1.1 0).1≠0 then Es (Bc s nm true).2 (Bc s nm true).1.1 0
 else if(Av.pcs (Bc s nm true).1.1 l (Es (Bc s nm true).2 (Bc s nm true).1.1 0).2 0 0).2≠0 then((Av.pcs (Bc s nm true).1.1 l (Es (Bc s nm true).2 (Bc s nm true).1.1 0).2 0 0).2,(Av.pcs (Bc s nm true).1.1 l (Es (Bc s nm true).2 (Bc s nm true).1.1 0).2 0 0).1.1)
 else T9 (Av.pcs (Bc s nm true).1.1 l (Es (Bc s nm true).2 (Bc s nm true).1.1 0).2 0 0).1.1 [(Bc s nm true).1.1]
structure LwS (os b0:Nat)(ino:Int)(s:StS)(at':Int)(p:AV)(H:AH):Prop where
 st:StAt s os p H
 bx:H[b0]?=some (some (.cells [.ptr os 0]))
 bi:H[b0+1]?=some (some (.cells [I ino]))
 br:∃a,H[b0+2]?=some (some (.cells [a]))
 ba:H[b0+3]?=some (some (.cells [I at']))
 no:os<b0
 nb:∀j,b0≤j→j≤b0+3→j∉AP p
structure LwF (os b0:Nat)(p p':AV)(H H':AH):Prop where
 len:H.length≤H'.length
 same:∀j,j<H.length→j≠os→(j<b0+2∨b0+3<j)→j∉AP p→H'[j]?=H[j]?
 ids:∀j∈AP p',j∈AP p∨H.length≤j
theorem LwF.refl (os b0:Nat)(p:AV)(H:AH):LwF os b0 p p H H:=⟨sY _,λ_ _ _ _ _=>rfl,λ_ h=>.inl h⟩
theorem LwF.trans {os b0:Nat}{p p' p'':AV}{A B C:AH}(h:LwF os b0 p p' A B)(k:LwF os b0 p' p'' B C):LwF os b0 p p'' A C:=
  ⟨tL h.len k.len,λj hj h1 h3 hp=>by
    rw[k.same j (tX hj h.len) h1 h3 (λhp'=>(h.ids j hp').elim hp (λq=>by omega)),h.same j hj h1 h3 hp],
   λj hj=>(k.ids j hj).elim (h.ids j) (λq=>.inr (tL h.len q))⟩
theorem LwF.of_grew {os b0:Nat}{p:AV}{H H':AH}(g:Grew H H'):LwF os b0 p p H H':=⟨g.1,λj hj _ _ _=>g.2 j hj,λ_ h=>.inl h⟩
theorem LwS.grew {os b0:Nat}{ino:Int}{s:StS}{at':Int}{p:AV}{H H':AH}(h:LwS os b0 ino s at' p H)(g:Grew H H'):LwS os b0 ino s at' p H':=by
 obtain⟨a,ha⟩:=h.br;exact⟨h.st.grew g,g.cells h.bx,g.cells h.bi,⟨a,g.cells ha⟩,g.cells h.ba,h.no,h.nb⟩
theorem aC {os b0:Nat}{ino:Int}{s:StS}{at':Int}{p w:AV}{H:AH}{N:Nat}{b:List UInt8}{K0:AV→AH→Prop}{J X:AH→Prop}(h:LwS os b0 ino s at' p H)(hw:SW N s)(hN:N+9*b.length<900000)
  (hv:Aa H 1 w=some (AY b,b.length)) (hvi:∀j∈AP w,j≠os∧j∉AP p) (ha:0≤at'∧at'+b.length≤9223372036854775807)
  (hj:(Cs s ino at' b).1.2=0→∀p' H',LwS os b0 ino (Cs s ino at' b).2 (at'+(Cs s ino at' b).1.1) p' H'→LwF os b0 p p' H H'→J H')
  (hx:(Cs s ino at' b).1.2≠0→∀p' H',StAt (Cs s ino at' b).2 os p' H'→LwF os b0 p p' H H'→H'[b0+2]?=some (some (.cells [I (Cs s ino at' b).1.2]))→X H'):
  DN (λe H'=>match e with | .normal=>J H' | .ret=>X H' | _=>False) (.ptr b0 0) (.ptr (b0+1) 0) (.ptr (b0+2) 0) (.ptr (b0+3) 0) w H K0:=by
 unfold DN;obtain⟨n1,n2⟩:=Wf s ino at' b;obtain⟨r,H1,⟨rfl,p',h1,f1⟩,hc⟩:=Xa h.st hw ino at' hN hv hvi;generalize Cs s ino at' b=W at*;have d4:=h.no;have hl3:b0+3<H.length:=(B5.1 h.ba).1;have np:∀j,j<H.length→j∉AP p→j∉AP p':=λj hj hp q=>(f1.ids j q).elim hp (λq=>by omega)
 have keep:∀j,b0≤j→j≤b0+3→H1[j]?=H[j]?:=λj hj1 hj2=>f1.same j (by omega) (by omega) (h.nb j hj1 hj2)
 have kx:H1[b0]?=_:=(keep b0 (by omega) (by omega)).trans h.bx;have ki:H1[b0+1]?=_:=(keep _ (by omega) (by omega)).trans h.bi;have ka:H1[b0+3]?=_:=(keep _ (by omega) (by omega)).trans h.ba;obtain⟨a2,q2⟩:=h.br;have kr:H1[b0+2]?=_:=(keep _ (by omega) (by omega)).trans q2;simp only[Al h.bx,Al h.bi,Al h.ba,Ai,Dt,Ab];refine bC_of hc ?_;have hlen:=f1.len;have hid:∀j∈AP p',j<H1.length:=h1.p_lt;simp only[rV,sK]
 have nob:∀j,j=os∨j∈AP p'→j≠b0+2∧j≠b0+3:=by
  intro j hj;rcases hj with rfl | hj
  ·omega
  ·exact⟨λe=>np (b0+2) (by omega) (h.nb _ (by omega) (by omega)) (by rw[← e];exact hj),λe=>np (b0+3) (by omega) (h.nb _ (by omega) (by omega)) (by rw[← e];exact hj)⟩
 by_cases he:W.1.2=0
 ·have e1:Ax .add (I at') (I W.1.1)=some (I (at'+W.1.1)):=Az (by omega) (by omega)
  have e2:AU 1 H1 (.ptr (b0+3) 0) (I (at'+W.1.1))=some (H1.set (b0+3) (some (.cells [I (at'+W.1.1)]))):=eN ka (by simp) rfl;simp only[he,qW,sI,Al ka,Ai,Dt,e1,e2,AE];generalize hH2:H1.set (b0+3) (some (AObj.cells [I (at'+W.1.1)]))=H2;have g2:∀j,j≠b0+3→H2[j]?=H1[j]?:=λj hj=>by rw[← hH2];exact Co (uC hj)
  have ga:H2[b0+3]?=some (some (.cells [I (at'+W.1.1)])):=by rw[← hH2];exact IJ (by omega)
  have l2:H2.length=H1.length:=by rw[← hH2,tM]
  exact hj he p' H2 ⟨h1.keep λj hj=>g2 j (nob j hj).2,by rw[g2 _ (by omega)];exact kx,by rw[g2 _ (by omega)];exact ki,⟨a2,by rw[g2 _ (by omega)];exact kr⟩,ga,d4,λj hj1 hj2=>np j (by omega) (h.nb j hj1 hj2)⟩
   ⟨by omega,λj hj h1 h3 hp=>by rw[g2 j (by omega),f1.same j hj h1 hp],f1.ids⟩
 ·have e2:AU 1 H1 (.ptr (b0+2) 0) (I W.1.2)=some (H1.set (b0+2) (some (.cells [I W.1.2]))):=eN kr (by simp) rfl
  simp only[he,qX,rI,e2,AE];generalize hH2:H1.set (b0+2) (some (AObj.cells [I W.1.2]))=H2;have g2:∀j,j≠b0+2→H2[j]?=H1[j]?:=λj hj=>by rw[← hH2];exact Co (uC hj)
  have ga:H2[b0+2]?=some (some (.cells [I W.1.2])):=by rw[← hH2];exact IJ (by omega)
  have l2:H2.length=H1.length:=by rw[← hH2,tM]
  exact hx he p' H2 (h1.keep λj hj=>g2 j (nob j hj).1) ⟨by omega,λj hj h1 h3 hp=>by rw[g2 j (by omega),f1.same j hj h1 hp],f1.ids⟩ ga
noncomputable abbrev lD:Code:=AI f36
theorem lE (x3 x4 x6 x7 x13 x14 x15 x20 x:AV)(H:AH)(Q:Exit→List AV→AH→Prop):AC prog (Jp []) Ak Ak Ak (Cu []) (UX (sub kS lD)) 0 ((AR (mk 37 0 [3,4,6,7,13,14,15,20]) [x3,x4,x6,x7,x13,x14,x15,x20]).set 21 x) H (λe T H=>fP (mk 37 0 [3,4,6,7,10]) T λX=>Q e X H)=Q .normal [x3,x4,x6,x7,x] H:=by kernel_rfl
theorem Y0:DU (Jp []) Ak (UX (sub kS lD))=true:=by kernel_rfl
theorem aE:Cw A7 pZ Js (sub (kS++[true]) lD)=true:=by kernel_rfl
theorem lF {x3 x4 x6 x7 x13 x14 x15 x20 x:AV}{H:AH}{J X:AH→Prop}{K0:AV→AH→Prop}(h:DN (λe H'=>match e with | .normal=>J H' | .ret=>X H' | _=>False) x3 x4 x6 x7 x H K0):
  SB prog (UX (sub kS lD)) (sub (kS++[true]) lD) (AR (mk 37 0 [3,4,6,7,13,14,15,20]) [x3,x4,x6,x7,x13,x14,x15,x20]) 21 x H J (λc H'=>c=.ret∧X H'):=by
 obtain⟨e,T',H',hk,hb⟩:=EA JZ (UX (sub kS lD)) 0 _ H _ Y0 (Eq.mpr (lE x3 x4 x6 x7 x13 x14 x15 x20 x H (λe X H2=>e=.normal∧X=[x3,x4,x6,x7,x]∧H2=H)) ⟨rfl,rfl,rfl⟩);obtain⟨hl,he,hX,hH⟩:=B4.1 hk;subst he;subst hH;refine⟨T',hb,?_⟩;refine ACode.weak (λG a hF=>Dr hl hF) ?_;rw[hX];refine(Dx JZ (sub (kS++[true]) lD) _ _ _ _ aE (Eq.mpr (OT (λe H'=>match e with | .normal=>J H' | .ret=>X H' | _=>False) x3 x4 x6 x7 x _ K0) h)).mono ?_;intro e T H2 hk;cases e with
 | normal=>exact hk
 | ret=>exact⟨rfl,hk⟩
 | _=>exact hk.elim
theorem qR {R4:List AV→AH→Prop}{x3 x4 x6 x7 x13 x14 x15:AV}{H:AH}{K:AV→AH→Prop}{k:FuncId}{cap xs:List AV}{Cap:AH→Prop}(hit:TE prog k cap Cap xs)(hgo:Bs prog k=true)(J:Nat→AH→Prop)(X:AH→Prop)(h0:J 0 H)(hcap:∀i H',J i H'→Cap H')
  (hr:∀i x H',xs[i]?=some x→J i H'→DN (λe H'=>match e with | .normal=>J (i+1) H' | .ret=>X H' | _=>False) x3 x4 x6 x7 x H' K)
  (hdone:∀H',J xs.length H'→bO (Ax .add x15 (I 1)) λv6=>R4 [x3,x4,x6,x7,x13,x14,v6] H')
  (hout:∀H',X H'→bO (Ar false 1 H' x6) λv7=>K v7 H'):Ml R4 x3 x4 x6 x7 x13 x14 x15 (.fn (.func k) [] cap) H K:=by
 refine⟨?_⟩;rw[MA];refine ACode.rangeF hit hgo rfl J (λc H'=>c=.ret∧X H') h0 hcap (λi x H' hx hj=>lF (hr i x H' hx hj)) (λH' hj=>?_) (λc H' hx=>.inl ⟨hx.1,?_⟩)
 ·exact Eq.mpr (OU R4 x3 x4 x6 x7 x13 x14 x15 (.fn (.func k) [] cap) H' K) (hdone H' hj)
 ·exact Eq.mpr (OV R4 x3 x4 x6 x7 x13 x14 x15 (.fn (.func k) [] cap) H' K) (hout H' hx.2)
theorem iL {N:Nat}{s:StS}{os:Nat}{p a2:AV}{H:AH}{ino:Int}{bl:List (AV×List UInt8)}(hst:StAt s os p H)(hw:SW N s)
  (ha:Aa H 1 a2=some (bl.map Prod.fst,bl.length)) (hai:∀j∈AP a2,j≠os∧j∉AP p) (hb:∀x∈bl,Aa H 1 x.1=some (AY x.2,x.2.length)∧oneA x.1=true∧x.2.length≤1000000∧∀j∈AP x.1,j≠os∧j∉AP p) (hbn:bl.length≤1000000)
  (hN:N+9*OQ (bl.flatMap λx=>CJ x.2)<900000):
  ACalls prog 36 [.ptr os 0,I ino,a2] H λr H'=>∃p',r=I (pcs ino (bl.flatMap λx=>CJ x.2) s 0 0).2∧StAt (pcs ino (bl.flatMap λx=>CJ x.2) s 0 0).1.1 os p' H'∧StF os p p' H H':=Uo (by
 generalize hRES:pcs ino (bl.flatMap λx=>CJ x.2) s 0 0=RES;generalize hNN:N+9*OQ (bl.flatMap λx=>CJ x.2)=NN at hN;unfold OS;have n1:∀(Z:AH) (x:AV),oneA x=true→A8 Z x=some (.ptr Z.length 0,Z++[some (.cells [x])]):=λZ x hx=>by unfold A8;rw[AL hx];rfl
 generalize hb0:H.length=b0;have al:Be a2=some (I (bl.length:Nat)):=Bz ha
 have s0:AU 1 (H++[some (AObj.cells [.ptr os 0])]++[some (.cells [I ino])]++[some (.cells [I 0])]++[some (.cells [I 0])]) (.ptr (b0+3) 0) (I 0)=some (H++[some (AObj.cells [.ptr os 0])]++[some (.cells [I ino])]++[some (.cells [I 0])]++[some (.cells [I 0])]):=by
  rw[eN (cs:=[I 0]) (k:=0) (by rw[← hb0];simp) (by simp) rfl]
  congr 1
  apply uF;intro j
  by_cases c:j=b0+3
  ·subst c
   rw[IJ (by rw[← hb0];simp),← hb0];simp
  ·rw[Co (uC c)]
 have l1:(H++[some (AObj.cells [AV.ptr os 0])]).length=b0+1:=by simp[hb0]
 have l2:(H++[some (AObj.cells [AV.ptr os 0])]++[some (AObj.cells [I ino])]).length=b0+2:=by simp[hb0]
 have l3:(H++[some (AObj.cells [AV.ptr os 0])]++[some (AObj.cells [I ino])]++[some (AObj.cells [I 0])]).length=b0+3:=by simp[hb0]
 simp only[n1 H (AV.ptr os 0) rfl,rT,n1 (H++[some (AObj.cells [AV.ptr os 0])]) (I ino) rfl,n1 (H++[some (AObj.cells [AV.ptr os 0])]++[some (AObj.cells [I ino])]) (I 0) rfl,n1 (H++[some (AObj.cells [AV.ptr os 0])]++[some (AObj.cells [I ino])]++[some (AObj.cells [I 0])]) (I 0) rfl,hb0,l1,l2,l3,s0,al,Ab]
 have g0:Grew H (H++[some (AObj.cells [AV.ptr os 0])]++[some (AObj.cells [I ino])]++[some (AObj.cells [I 0])]++[some (AObj.cells [I 0])]):=by
  simp only[tI];exact Grew.app H _
 have hplt:=hst.p_lt;have holt:=hst.os_lt;have S0:LwS os b0 ino s 0 p (H++[some (AObj.cells [AV.ptr os 0])]++[some (AObj.cells [I ino])]++[some (AObj.cells [I 0])]++[some (AObj.cells [I 0])]):=
  ⟨hst.grew g0,by rw[← hb0];simp,by rw[← hb0];simp,⟨I 0,by rw[← hb0];simp⟩,by rw[← hb0];simp,by omega,λj hj _ q=>by have:=hplt j q;omega⟩
 have F0:LwF os b0 p p H (H++[some (AObj.cells [AV.ptr os 0])]++[some (AObj.cells [I ino])]++[some (AObj.cells [I 0])]++[some (AObj.cells [I 0])]):=.of_grew g0;have B0:Bd NN (bl.flatMap λx=>CJ x.2) s 0 0:=⟨⟨N,hw,by omega⟩,by omega,by omega⟩;have fin:∀{p' H'},LwF os b0 p p' H H'→StF os p p' H H':=λf=>⟨f.len,λj hj h1 hp=>f.same j hj h1 (by omega) hp,f.ids⟩
 generalize (H++[some (AObj.cells [AV.ptr os 0])]++[some (AObj.cells [I ino])]++[some (AObj.cells [I 0])]++[some (AObj.cells [I 0])])=HB at S0 F0;refine NJ (λm x2 x4 x5 x6 x12 x13 x14 H'=>∃(k:Nat) (s:StS) (at' sum:Int) (p':AV),k+m=bl.length∧x2=.ptr b0 0∧x4=.ptr (b0+1) 0∧x5=.ptr (b0+2) 0∧x6=.ptr (b0+3) 0∧a2=x12∧x13=I bl.length∧x14=I k∧
  LwS os b0 ino s at' p' H'∧LwF os b0 p p' H H'∧pcs ino ((bl.drop k).flatMap λx=>CJ x.2) s at' sum=RES∧Bd NN ((bl.drop k).flatMap λx=>CJ x.2) s at' 0) ?_ bl.length ⟨0,s,0,0,p,by omega,rfl,rfl,rfl,rfl,rfl,rfl,rfl,S0,F0,hRES,B0⟩
 rintro m x2 x4 x5 x6 x12 x13 x14 H1 R hR ⟨k,s,at',sum,p1,hk,rfl,rfl,rfl,rfl,e12,rfl,rfl,S1,F1,hpc,hbd⟩;subst e12;unfold KU;have keepS:∀{w:AV} {sz:Nat} {cs:List AV} {n:Nat} {p2:AV} {H2:AH},Aa H sz w=some (cs,n)→(∀j∈AP w,j≠os∧j∉AP p)→LwF os b0 p p2 H H2→Aa H2 sz w=some (cs,n):=λh1 h2 f=>Ae h1 λj hj=>f.same j (Au h1 j hj) (h2 j hj).1 (by have:=Au h1 j hj;omega) (h2 j hj).2
 rcases tD k bl.length with h | h
 ·have hx:=E5 h
  generalize bl[k]=vb at hx;obtain⟨v,b⟩:=vb;obtain⟨hb1,hb2,hb3,hb4⟩:=hb _ (tB hx);simp only at hb1 hb2 hb3 hb4;have hdrop:bl.drop k=(v,b)::bl.drop (k+1):=DS hx;rw[hdrop]at hpc hbd;simp only[tY]at hpc hbd;generalize hrest:(bl.drop (k+1)).flatMap (λx=>CJ x.2)=rest at hpc hbd;have kI:(k:Int)<(bl.length:Int):=by omega
  have ha1:=keepS ha hai F1;have hv1:=keepS hb1 hb4 F1;obtain⟨pp,q1,q2⟩:=MC (enc:=fun x:AV×List UInt8=>[x.1]) (f:=Prod.fst) (λ_=>rfl) (l:=bl) (by rw[← List.map_eq_flatMap];exact ha1) hx;simp only[rX,kI,rI,q1,q2];refine bC_of (cI hv1 hb2) ?_;have g2:=Grew.app H1 [some (AObj.cells [v]),some (.cells [I 4096])];have S2:=S1.grew g2;have F2:LwF os b0 p p1 H (H1++[some (AObj.cells [v]),some (.cells [I 4096])]):=F1.trans (.of_grew g2);have t0:(H1++[some (AObj.cells [v]),some (.cells [I 4096])])[H1.length]?=some (some (.cells [v])):=by simp
  have t1:(H1++[some (AObj.cells [v]),some (.cells [I 4096])])[H1.length+1]?=some (some (.cells [I 4096])):=by simp
  have hlc:(H1++[some (AObj.cells [v]),some (.cells [I 4096])]).length=H1.length+2:=by simp
  have hp1:=S1.st.p_lt;have hb03:b0+3<H1.length:=(B5.1 S1.ba).1;have z4:=S1.no;generalize (H1++[some (AObj.cells [v]),some (.cells [I 4096])])=Hc at S2 F2 t0 t1 hlc
  refine qR (Zy (o1:=H1.length) (o2:=H1.length+1) (s:=v) (cs:=AY b) (len:=b.length) (n:=4096) (by omega) (by omega) (by omega)) (by kernel_rfl)
   (λi H'=>∃(s:StS) (at' sum:Int) (p':AV),LwS os b0 ino s at' p' H'∧LwF os b0 p1 p' Hc H'∧pcs ino ((CJ b).drop i++rest) s at' sum=RES∧Bd NN ((CJ b).drop i++rest) s at' 0)
   (λH'=>∃(s:StS) (at' sum:Int) (p':AV) (e:Int),StAt s os p' H'∧LwF os b0 p1 p' Hc H'∧H'[b0+2]?=some (some (.cells [I e]))∧RES=((s,at',sum),e))
   ⟨s,at',sum,p1,S2,.refl _ _ _ _,by simpa using hpc,by simpa using hbd⟩ ?_ ?_ ?_ ?_
  ·rintro i H' ⟨s',at'',sum',p',S',F',-,-⟩
   refine⟨(F'.same _ (by omega) (by omega) (by omega) (λq=>by have:=hp1 _ q;omega)).trans t0,(F'.same _ (by omega) (by omega) (by omega) (λq=>by have:=hp1 _ q;omega)).trans t1,keepS hb1 hb4 (F2.trans F')⟩
  ·rintro i x H' hxi ⟨s',at'',sum',p',S',F',hpc',hbd'⟩
   have hi:i<Zu b.length 4096:=by
    have:=(B5.1 hxi).1
    rwa[TX]at this
   have hil:=(Zv (len:=b.length) (k:=i) (show 0<4096 by omega)).1 hi
   have ex:x=gV v b.length 4096 i:=by
    unfold mK at hxi;rw[uJ,wK hi]at hxi;injection hxi with hxi;exact hxi.symm
   subst ex;have hv':=keepS hb1 hb4 (F2.trans F');obtain⟨c1,c2⟩:=jJ hv' hil;have hcd:(CJ b).drop i=MD b i::(CJ b).drop (i+1):=DS (Wx hi);rw[hcd,vY]at hpc' hbd';obtain⟨⟨M,w1,w2⟩,w3,w4⟩:=hbd';rw[Ta]at w2 w3 w4
   have fp:∀j∈AP v,j∉AP p':=λj hj q=>by
    have hjl:=Au hb1 j hj;rcases(F2.trans F').ids j q with q | q
    ·exact(hb4 j hj).2 q
    ·omega
   have wn:=Wf s' ino at'' (MD b i);have ww:=Se w1 ino at'' (MD b i);unfold pcs at hpc';refine aC S' w1 (by omega) c1 (λj hj=>⟨(hb4 j (c2 j hj)).1,fp j (c2 j hj)⟩) (by omega) ?_ ?_
   ·intro he p2 H2 S2' F2'
    rw[if_pos he]at hpc';exact⟨_,_,_,p2,S2',F'.trans F2',hpc',⟨⟨_,ww,by omega⟩,by omega,by omega⟩⟩
   ·intro he p2 H2 S2' F2' r2
    rw[if_neg he]at hpc';exact⟨_,_,_,p2,_,S2',F'.trans F2',r2,hpc'.symm⟩
  ·rintro H' ⟨s',at'',sum',p',S',F',hpc',hbd'⟩
   rw[TX,← Wy,wX,uS]at hpc' hbd';simp only[Az (a:=k) (b:=1) (by omega) (by omega),Ab];exact hR (m - 1) _ _ _ _ _ _ _ _ (by omega) ⟨k+1,s',at'',sum',p',by omega,rfl,rfl,rfl,rfl,rfl,rfl,by simp,S',F2.trans F',by rw[hrest];exact hpc',by rw[hrest];exact hbd'⟩
  ·rintro H' ⟨s',at'',sum',p',e,S',F',r2,rfl⟩
   simp only[Al r2,Ai,Dt,Ab];exact⟨p',by trivial,S',fin (F2.trans F')⟩
 ·have kI:¬(k:Int)<(bl.length:Int):=by omega
  have hdrop:bl.drop k=[]:=tQ h;rw[hdrop]at hpc;simp only[List.flatMap_nil]at hpc;unfold pcs at hpc;subst hpc;obtain⟨c,r2⟩:=S1.br;have hb03:b0+3<H1.length:=(B5.1 S1.ba).1;have z4:=S1.no;have e2:AU 1 H1 (.ptr (b0+2) 0) (I 0)=some (H1.set (b0+2) (some (.cells [I 0]))):=eN r2 (by simp) rfl;simp only[rX,kI,rF,e2,AE];generalize hH4:H1.set (b0+2) (some (AObj.cells [I 0]))=H4;have g4:∀j,j≠b0+2→H4[j]?=H1[j]?:=λj hj=>by rw[← hH4,Co (uC hj)]
  have t2:H4[b0+2]?=some (some (.cells [I 0])):=by rw[← hH4];exact IJ (by omega)
  have l4:H4.length=H1.length:=by rw[← hH4,tM]
  simp only[Al t2,Ai,Dt,Ab];refine⟨p1,by trivial,S1.st.keep λj hj=>?_,fin ⟨by have:=F1.len;omega,λj hj h1 h3 hp=>by rw[g4 j (by omega)];exact F1.same j hj h1 h3 hp,F1.ids⟩⟩;rcases hj with rfl | hj
  ·exact g4 j (by omega)
  ·exact g4 j (λe=>S1.nb (b0+2) (by omega) (by omega) (by rw[← e];exact hj)))
theorem iO {N:Nat}{s:StS}{os:Nat}{p:AV}{H:AH}(h:StAt s os p H)(hw:SW N s)(hN:N≤900000)(ino:Int):∃r H',(r=.tup [I (A9 s ino).1.1,I (A9 s ino).2]∧Grew H H')∧BCall prog 60 [.ptr os 0,I ino] H r H':=LF (by
 unfold Ja;obtain⟨R,hR,r,H1,⟨rfl,g1⟩,hc⟩:=O6 h hw hN ino;have oR:=SV.oneA hR;refine bC_of hc ?_;have g2:=Grew.app H1 [some (AObj.cells [I (A9 s ino).1.1,R])];simp only[AB,rL,fD,rT,WU _ _ oR,Al CT];exact⟨by trivial,g1.trans g2⟩)
theorem mW {N:Nat}{s:StS}{os:Nat}{p a2:AV}{H:AH}{nm:List UInt8}{bl:List (AV×List UInt8)}(hst:StAt s os p H)(hw:SW N s)(hnm:nm.length≤9223372036854775807)
  (ha:Aa H 1 a2=some (bl.map Prod.fst,bl.length)) (hai:∀j∈AP a2,j≠os∧j∉AP p) (hb:∀x∈bl,Aa H 1 x.1=some (AY x.2,x.2.length)∧oneA x.1=true∧x.2.length≤1000000∧∀j∈AP x.1,j≠os∧j∉AP p) (hbn:bl.length≤1000000)
  (hN:N+2+9*OQ (bl.flatMap λx=>CJ x.2)<900000):
  ACalls prog 11 [.ptr os 0,S (As nm),a2] H λr H'=>∃p',r=I (WO s nm (bl.flatMap λx=>CJ x.2)).1∧StAt (WO s nm (bl.flatMap λx=>CJ x.2)).2 os p' H'∧StF os p p' H H':=V7 (by
 unfold Ry;obtain⟨r,H1,⟨rfl,p1,h1,f1⟩,hc⟩:=Wi hst hw (by omega) hnm true;have w1:=Ql hw nm true;refine bC_of hc ?_;unfold WO;generalize Bc s nm true=O at*;simp only[rV,sK]
 by_cases c1:O.1.2=0
 rotate_left
 ·simp only[c1,qX,sS]
  exact⟨p1,by trivial,h1,f1⟩
 simp only[c1,rM,rF];obtain⟨r,H2,⟨rfl,p2,h2,f2⟩,hc⟩:=TF h1 w1 (by omega) O.1.1 0;have w2:=Oi w1 O.1.1 0;refine bC_of hc ?_;generalize Es O.2 O.1.1 0=Q at*;simp only[sK];have f12:=f1.trans f2
 by_cases c2:Q.1=0
 rotate_left
 ·simp only[c2,qX,sS]
  exact⟨p2,by trivial,h2,f12⟩
 simp only[c2,rM,rF];have keepS:∀{w:AV} {cs:List AV} {n:Nat},Aa H 1 w=some (cs,n)→(∀j∈AP w,j≠os∧j∉AP p)→Aa H2 1 w=some (cs,n)∧∀j∈AP w,j≠os∧j∉AP p2:=λk1 k2=>
  ⟨Ae k1 λj hj=>f12.same j (Au k1 j hj) (k2 j hj).1 (k2 j hj).2,λj hj=>⟨(k2 j hj).1,λq=>(f12.ids j q).elim (k2 j hj).2 (λq=>by have:=Au k1 j hj;omega)⟩⟩
 refine⟨_,iL (ino:=O.1.1) h2 w2 (keepS ha hai).1 (keepS ha hai).2 (λx hx=>⟨(keepS (hb x hx).1 (hb x hx).2.2.2).1,(hb x hx).2.1,(hb x hx).2.2.1,(keepS (hb x hx).1 (hb x hx).2.2.2).2⟩) hbn (by omega),?_⟩;have w3:=aS (ino:=O.1.1) (l:=bl.flatMap λx=>CJ x.2) (a:=0) (m:=0) w2;generalize pcs O.1.1 (bl.flatMap λx=>CJ x.2) Q.2 0 0=Z at*;rintro r H3 ⟨p3,rfl,h3,f3⟩;have f123:=f12.trans f3;simp only[sK]
 by_cases c3:Z.2=0
 rotate_left
 ·simp only[c3,qX,sS]
  exact⟨p3,by trivial,h3,f123⟩
 simp only[c3,rM,rF];have eA:Dh H3 1 1 (Bo [(I 0)] 1) [(0,1,I O.1.1)]=some (.sl H3.length 0 1 1 (.ex 1),H3++[some (.cells [I O.1.1])]):=rfl;have g4:=Grew.app H3 [some (AObj.cells [I O.1.1])];have hsl:Aa (H3++[some (AObj.cells [I O.1.1])]) 1 (.sl H3.length 0 1 1 (.ex 1))=some (([O.1.1]:List Int).flatMap QP,([O.1.1]:List Int).length):=by simp[Aa,QP]
 have lo:=h3.os_lt;have lp:=h3.p_lt
 obtain⟨r,H5,⟨rfl,p5,h5,f5⟩,hc⟩:=iP (h3.grew g4) w3 (by omega) hsl (by
  intro j hj;simp[AP]at hj;subst hj;exact⟨by omega,λq=>by have:=lp _ q;omega⟩) (by simp)
 simp only[eA,A1];refine bC_of hc ?_;exact⟨p5,by trivial,h5,(f123.grew g4).trans f5⟩)
theorem Lo {a:List UInt8}{lo hi:Option AV}{l h:Nat}(e1:Bk lo 0=some l)(e2:Bk hi a.length=some h)(h1:l≤h)(h2:h≤a.length):O0 (S (As a)) lo hi=some (S (As ((a.drop l).take (h - l)))):=by
 have e3:Bk hi (As a).size=some h:=e2;have e4:h≤(As a).size:=h2
 have:(As a).extract l h=As ((a.drop l).take (h - l)):=by
  apply ByteArray.ext;rw[ByteArray.data_extract];simp[As,List.extract_eq_take_drop]
 simp[O0,e1,e3,h1,e4,this]
def UA (a:List UInt8):Int:=Lib.indexByte a 61
theorem kY (a:List UInt8): -1≤UA a∧(0≤UA a→(UA a).toNat<a.length):=by
 unfold UA;refine⟨Lib.indexByte_ge a 61,?_⟩
 induction a with
 | nil=>intro h;exact absurd h (by decide)
 | cons b l ih=>
  intro h;unfold Lib.indexByte at h⊢;simp only[tP];split at h
  ·rename_i hb
   rw[if_pos hb];exact Nat.zero_lt_succ _
  ·rename_i hb
   rw[if_neg hb];split at h
   ·exact absurd h (by decide)
   ·rename_i hc
    rw[if_neg hc];have hge:=Lib.indexByte_ge l 61;have hc':Lib.indexByte l 61≠ -1:=λe=>hc (by rw[e];rfl)
    have:=ih (by omega)
    omega
theorem UD (a:List UInt8):BPure prog 236 [S (As a),.lit (.int .u8 61)] (I (UA a)):=λH=>Fk (K:=λr H'=>r=I (UA a)∧H'=H) (by
 unfold Cg;refine⟨I (UA a),?_,rfl,rfl⟩;intro G vs hH hv;have hv':VRs G [S (As a),.lit (.int .u8 61)] vs:=hv;simp only[VRs,VR]at hv';obtain⟨_,_,rfl,rfl,_,_,rfl,rfl,rfl⟩:=hv';refine⟨.int .i64 (UA a),?_,by simp only[VR]⟩;rw[run_callFunc_extern func241 (by kernel_rfl) (by kernel_rfl) (by kernel_rfl) (e:=Extern.BytealgIndexByte.indexByte) (by kernel_rfl)]
 have:=Lib.run_indexByteString (P:=prog) (As a) 61 G.w
 rw[show(As a).data.toList=a by simp[As]]at this;rw[this]
 rfl)
theorem cM (a:List UInt8):BPure prog 234 [S (As a),.lit (.string ⟨#[61]⟩)] (I (UA a)):=λH=>Gh (K:=λr H'=>r=I (UA a)∧H'=H) (by
 unfold CM;have e0:(AV.lit (.string ⟨#[61]⟩))=S (As [61]):=rfl;have e1:Ff (S (As [61]))=some (I 1):=rfl;have e2:PL (S (As [61])) (I 0)=some (.lit (.int .u8 61)):=rfl;simp only[e0,e1,rA,FQ,show decide ((1:Int)=0)=false from rfl,sU,qY,FS]
 by_cases c:([61]:List UInt8)=a
 ·subst c
  simp only[rI];exact⟨by trivial,by trivial⟩
 ·simp only[c,sI,rI,e2]
  exact A3 (UD a) ⟨by trivial,by trivial⟩)
def K3 (a:List UInt8):List UInt8×List UInt8:=if 0≤UA a then(a.take (UA a).toNat,a.drop ((UA a).toNat+1))else(a,[])
abbrev sG:=And.intro @List.drop_zero.{0} @Nat.sub_zero
theorem mR {a:List UInt8}(ha:a.length≤9223372036854775806):BPure prog 217 [S (As a),.lit (.string ⟨#[61]⟩)] (.tup [S (As (K3 a).1),S (As (K3 a).2),B (decide (0≤UA a))]):=BPure.flat λH=>RX (by
 unfold PG
 refine A3 (r:=.tup [S (As (K3 a).1),S (As (K3 a).2),B (decide (0≤UA a))]) (BPure.flat λH=>GL (by
  unfold E6;refine A3 (cM a) ?_;obtain⟨i1,i2⟩:=kY a;unfold K3;simp only[GG,rA]
  by_cases c:0≤UA a
  ·have i2:=i2 c
   obtain⟨k,hk⟩:∃k:Nat,UA a=k:=⟨(UA a).toNat,by omega⟩;rw[hk]at i2 c⊢;simp only[wF]at i2;have s1:=Lo (a:=a) (lo:=none) (hi:=some (I (k:Int))) (l:=0) (h:=k) rfl (by simp[Bk]) (by omega) (by omega);have s2:=Lo (a:=a) (lo:=some (I ((k:Int)+1))) (hi:=none) (l:=k+1) (h:=a.length) (by simp only[Bk];rw[if_pos (by omega)];congr 1) rfl (by omega) (by omega);have e3:(a.drop (k+1)).take (a.length - (k+1))=a.drop (k+1):=sZ (by rw[tC];omega);have e1:Ff (.lit (.string ⟨#[61]⟩))=some (I 1):=rfl;simp only[c,sS,s1,Ab,e1,Az (a:=(k:Int)) (b:=1) (by omega) (by omega),s2,sG,e3,wF];exact⟨by trivial,by trivial⟩
  ·simp only[c,rF,if_false]
   exact⟨by trivial,by trivial⟩)) ?_
 simp only[rV,Ab];exact⟨by trivial,by trivial⟩)
def Rl (p a:List UInt8):Bool:=decide (a.take p.length=p)
theorem UC {a p:List UInt8}(ha:a.length≤9223372036854775807)(hp:p.length≤9223372036854775807):BPure prog 228 [S (As a),S (As p)] (B (Rl p a)):=BPure.flat λH=>Fi (by
 unfold Dw;have q1:Ff (S (As a))=some (I a.length):=GQ ha;have q2:Ff (S (As p))=some (I p.length):=GQ hp;unfold Rl;simp only[q1,q2,Ab,GG,AZ]
 by_cases c:p.length≤a.length
 ·have s1:=Lo (a:=a) (lo:=none) (hi:=some (I (p.length:Int))) (l:=0) (h:=p.length) rfl (by simp[Bk]) (by omega) c
  simp only[sG]at s1;simp only[show((p.length:Int)≤(a.length:Int)) by omega,rE,qY,q2,Ab,s1,FS,A4];exact⟨by trivial,by trivial⟩
 ·have:¬a.take p.length=p:=λe=>c (by rw[← e,sX];omega)
  simp only[show ¬((p.length:Int)≤(a.length:Int)) by omega,Dp,show((false==true)=false)from rfl,Cn,Ab,sU,this];exact⟨by trivial,by trivial⟩)
theorem Pg {a p:List UInt8}(ha:a.length≤9223372036854775807)(hp:p.length≤9223372036854775807):BPure prog 194 [S (As a),S (As p)] (.tup [S (As (if Rl p a=true then a.drop p.length else a)),B (Rl p a)]):=BPure.flat λH=>Li (by
 unfold Ih
 refine A3 (r:=.tup [S (As (if Rl p a=true then a.drop p.length else a)),B (Rl p a)]) (BPure.flat λH=>Fh (by
  unfold Dv;refine A3 (UC ha hp) ?_;have q2:Ff (S (As p))=some (I p.length):=GQ hp;simp only[rU];cases c:Rl p a with
  | true=>
   have hl:p.length≤a.length:=by
    have:=of_decide_eq_true c
    have h2:=congrArg List.length this;rw[sX]at h2;omega
   have s1:=Lo (a:=a) (lo:=some (I (p.length:Int))) (hi:=none) (l:=p.length) (h:=a.length) (by simp[Bk]) rfl hl (by omega);rw[sZ (by rw[tC];omega)]at s1;simp only[rD,q2,Ab,s1,if_true];exact⟨by trivial,by trivial⟩
  | false=>
   simp only[rC,At];exact⟨by trivial,by trivial⟩)) ?_
 simp only[rV,Ab];exact⟨by trivial,by trivial⟩)
def Le (c:UInt8):Prop:=97≤c.toNat∧c.toNat≤122
instance (c:UInt8):Decidable (Le c):=by unfold Le;infer_instance
theorem fY (c:UInt8):BPure prog 214 [.lit (.int .u8 c.toNat)] (B (decide (Le c))):=BPure.flat λH=>TT (by
 unfold SG;unfold Le;simp only[GG,Ab,AZ]
 by_cases h:97≤c.toNat
 ·simp only[show(97:Int)≤(c.toNat:Int) by omega,rE,qY,Ab,Xb,A4]
  refine⟨?_,by trivial⟩
  by_cases h2:c.toNat≤122
  ·simp[h,h2];omega
  ·simp[h,h2];omega
 ·simp only[show ¬(97:Int)≤(c.toNat:Int) by omega,Dp,show((false==true)=false)from rfl,Cn,Ab,A4,At]
  exact⟨by simp[h],by trivial⟩)
def IQ (a:List UInt8):Prop:=a≠[]∧a.length≤10∧∀c∈a,Le c
instance (a:List UInt8):Decidable (IQ a):=by unfold IQ;infer_instance
theorem oT {a:List UInt8}(ha:a.length≤9223372036854775806):BPure prog 218 [S (As a)] (B (decide (IQ a))):=BPure.flat λH=>Wt (by
 unfold Xi;have q1:Ff (S (As a))=some (I a.length):=GQ (by omega);simp only[q1,Ab];refine PN (λn x0 x5 x6 H'=>∃k:Nat,k+n=a.length∧x0=S (As a)∧x5=I a.length∧x6=I k∧H'=H∧∀m y,m<k→a[m]?=some y→Le y) ?_ a.length ⟨0,by omega,rfl,rfl,rfl,rfl,by omega⟩;rintro n x0 x5 x6 H' R hR ⟨k,hk,rfl,rfl,rfl,rfl,hb⟩;unfold Nh;simp only[rX];rcases tD k a.length with h | h
 ·have hx:=E5 h
  generalize a[k]=y at hx;simp only[show(k:Int)<(a.length:Int) by omega,rI,Ou rfl hx,Ab];refine A3 (fY y) ?_;simp only[rU]
  by_cases hy:Le y
  ·simp only[hy,D5,rD,Az (a:=(k:Int)) (b:=1) (by omega) (by omega),Ab]
   refine hR (n - 1) _ _ _ _ (by omega) ⟨k+1,by omega,rfl,rfl,by simp,rfl,?_⟩;intro m z hm hz
   by_cases c:m=k
   ·rw[c,hx]at hz;injection hz with hz;rw[← hz];exact hy
   ·exact hb m z (by omega) hz
  ·have:¬IQ a:=λhm=>hy (hm.2.2 y (tB hx))
   simp only[hy,this,Dp,rC];exact⟨by trivial,by trivial⟩
 ·have all:∀c∈a,Le c:=λc hc=>by
   obtain⟨m,hm⟩:=tK.1 hc
   have:=(B5.1 hm).1
   exact hb m c (by omega) hm
  have e0:(AV.lit (.string ⟨#[]⟩))=S (As []):=rfl;simp only[show ¬(k:Int)<(a.length:Int) by omega,sI,e0,MS,AZ]
  by_cases c:a=[]
  ·have:¬IQ a:=λhm=>hm.1 c
   simp only[c,qW,Dp,show((false==true)=false)from rfl,Cn,Ab,A4,At];rw[c]at this;exact⟨by simp[this],by trivial⟩
  ·simp only[c,qX,rE,qY,q1,Ab,Xb,A4]
   refine⟨?_,by trivial⟩
   by_cases c2:a.length≤10
   ·have:IQ a:=⟨c,c2,all⟩
    simp[this];omega
   ·have:¬IQ a:=λhm=>c2 hm.2.1
    simp[this];omega)
abbrev Tx:=List UInt8
def Ej (t:Tx):List AV:=[S (As t)]
def Dq (p:Tx×Tx):List AV:=[S (As p.1),S (As p.2)]
theorem QO (t:Tx):(Ej t).length=1:=rfl
theorem Yq (t:Tx×Tx):(Dq t).length=2:=rfl
def Y8 (s:Tx):Option (Option (Tx×Tx)):=
 if Rl [45,45] s=true then(if IQ (K3 (s.drop 2)).1 then some (some (K3 (s.drop 2)))else none)
 else if Rl [45] s=true∧s.drop 1≠[]then none else some none
def Gv:List Tx→List (Tx×Tx)→List Tx→Option (List (Tx×Tx)×List Tx)
 | [],o,r=>some (o,r)
 | s::l,o,r=>if s=[45,45]then some (o,r++l)else match Y8 s with
  | none=>none
  | some (some kv)=>Gv l (o++[kv]) r
  | some none=>Gv l o (r++[s])
structure Tk (n0 o:Nat)(vl vo vr:AV)(l:List Tx)(op:List (Tx×Tx))(rs:List Tx)(H0 H:AH):Prop where
 obj:H[o]?=some (some (.cells [Ad,vl,vo,vr]))
 no:n0≤o
 sl:Aa H 1 vl=some (l.flatMap Ej,l.length)
 il:∀i∈AP vl,i<n0
 so:Aa H 2 vo=some (op.flatMap Dq,op.length)
 oo:AM vo=true
 io:∀i∈AP vo,n0≤i∧i≠o
 sr:Aa H 1 vr=some (rs.flatMap Ej,rs.length)
 ow:AM vr=true
 ir:∀i∈AP vr,n0≤i∧i≠o
 dj:∀i∈AP vo,i∉AP vr
 g:n0≤H.length∧∀i,i<n0→H[i]?=H0[i]?
section
variable {n0 o : Nat} {vl vo vr : AV} {l : List Tx} {op : List (Tx × Tx)} {rs : List Tx} {H0 H : AH}
theorem Tk.lt (h:Tk n0 o vl vo vr l op rs H0 H):o<H.length:=(B5.1 h.obj).1
theorem Tk.move {vo2 vr2:AV}{op2:List (Tx×Tx)}{rs2:List Tx}{H':AH}(h:Tk n0 o vl vo vr l op rs H0 H)(hl:H.length≤H'.length)(hk:∀i,i<n0→H'[i]?=H[i]?)(ho:H'[o]?=some (some (.cells [Ad,vl,vo2,vr2])))
  (so:Aa H' 2 vo2=some (op2.flatMap Dq,op2.length)) (oo:AM vo2=true) (io:∀i∈AP vo2,n0≤i∧i≠o) (sr:Aa H' 1 vr2=some (rs2.flatMap Ej,rs2.length)) (ow:AM vr2=true) (ir:∀i∈AP vr2,n0≤i∧i≠o) (dj:∀i∈AP vo2,i∉AP vr2):Tk n0 o vl vo2 vr2 l op2 rs2 H0 H':=
 ⟨ho,h.no,Ae h.sl λi hi=>hk i (h.il i hi),h.il,so,oo,io,sr,ow,ir,dj,tL h.g.1 hl,λi hi=>(hk i hi).trans (h.g.2 i hi)⟩
theorem pH (h:Tk n0 o vl vo vr l op rs H0 H)(hop:op.length≤1000)(k v:Tx):∃r H',(r=.tup []∧∃vo',Tk n0 o vl vo' vr l (op++[(k,v)]) rs H0 H')∧BCall prog 219 [.ptr o 0,S (As k),S (As v)] H r H':=Oz (by
 unfold LL;have hlt:=h.lt;have e1:EW [(.lit (.string ⟨#[]⟩)),(.lit (.string ⟨#[]⟩))] [(0,1,S (As k)),(1,1,S (As v))]=some (.agg [S (As k),S (As v)]):=rfl
 have e2:Dh H 2 1 (Bo [(.lit (.string ⟨#[]⟩)),(.lit (.string ⟨#[]⟩))] 1) [(0,2,.agg [S (As k),S (As v)])]=some (.sl H.length 0 1 2 (.ex 1),H++[some (.cells [S (As k),S (As v)])]):=by
  simp[Dh,PJ,Bo,B3,AS,oneA]
 have g:=Grew.app H [some (AObj.cells [S (As k),S (As v)])]
 have s1:Aa (H++[some (AObj.cells [S (As k),S (As v)])]) 2 (.sl H.length 0 1 2 (.ex 1))=some ([S (As k),S (As v)],1):=by
  rw[AA CT (by simp)];rfl
 obtain⟨r,H8,a1,a2,a3,a4,a5,a6⟩:=DK (sz:=2) (bytes:=32) (g.slice h.so) h.oo (AJ s1) (by omega);have lg:(H++[some (AObj.cells [S (As k),S (As v)])]).length=H.length+1:=by simp
 rw[lg]at a4 a5 a6;have k8:∀i,i<H.length→i∉AP vo→H8[i]?=H[i]?:=λi h1 h2=>(a5 i (by omega) h2).trans (g.2 i h1)
 have ob8:H8[o]?=some (some (.cells [Ad,vl,vo,vr])):=(k8 o hlt λz=>(h.io o z).2 rfl).trans h.obj;have or':=AK a2
 have e3:AU 1 H8 (.ptr o 2) r=some (H8.set o (some (.cells [Ad,vl,r,vr]))):=by
  rw[A6 (n:=1) (xs:=[r]) (cs:=[Ad,vl,vo,vr]) (AL or') ob8 rfl (by simp)];rfl
 simp only[rY,uU,Al h.obj,e1,e2,rT,a1,e3];have ne8:∀i,i≠o→(H8.set o (some (.cells [Ad,vl,r,vr])))[i]?=H8[i]?:=λi hi=>Co (uC hi)
 have rne:∀i∈AP r,n0≤i∧i≠o:=λi hi=>by
  rcases a6 i hi with z | z
  ·exact h.io i z
  ·have:=h.g.1;exact⟨by omega,by omega⟩
 refine⟨by trivial,r,h.move (by rw[tM];omega) (λi hi=>?_) (IJ (by omega)) ?_ a2 rne ?_ h.ow h.ir ?_⟩
 ·have:=h.no;have:=h.g.1
  rw[ne8 i (by omega)];exact k8 i (by omega) λz=>by have:=(h.io i z).1;omega
 ·have:(op++[(k,v)]).flatMap Dq=op.flatMap Dq++[S (As k),S (As v)]:=by simp[Dq]
  rw[this,tH];exact Ae a3 λi hi=>ne8 i (rne i hi).2
 ·exact Ae h.sr λi hi=>by
   rw[ne8 i (h.ir i hi).2];exact k8 i (Au h.sr i hi) λz=>h.dj i z hi
 ·intro i hi z
  rcases a6 i hi with y | y
  ·exact h.dj i y z
  ·have:=Au h.sr i z;omega)
theorem lC (h:Tk n0 o vl vo vr l op rs H0 H)(hop:op.length≤1000){s:Tx}(hs:s.length≤1000000):∃r H',(r=B (decide (IQ (K3 s).1))∧(IQ (K3 s).1→∃vo',Tk n0 o vl vo' vr l (op++[K3 s]) rs H0 H')∧n0≤H'.length∧∀i,i<n0→H'[i]?=H0[i]?)∧BCall prog 195 [.ptr o 0,S (As s)] H r H':=Ni (by
 unfold Kn;refine A3 (mR (by omega)) ?_
 have hl:(K3 s).1.length≤s.length:=by
  unfold K3
  split
  ·simp only[sX];omega
  ·exact sY _
 simp only[rV,Ab];refine A3 (oT (by omega)) ?_;simp only[rU]
 by_cases c:IQ (K3 s).1
 ·simp only[c,D5,rD]
  obtain⟨r,H',⟨rfl,vo',h'⟩,hc⟩:=pH h hop (K3 s).1 (K3 s).2;refine bC_of hc ?_;exact⟨by trivial,λ_=>⟨vo',h'⟩,h'.g⟩
 ·simp only[c,Dp,rC]
  exact⟨by trivial,λh=>h.elim,h.g⟩)
abbrev sD:=And.intro @Int.lt_irrefl @rF
theorem oS (x:AV)(H:AH):BCall prog 215 [Ad,x] H (I (-1)) H:=by
 obtain⟨r,H',⟨rfl,rfl⟩,hc⟩:=Eo (a0:=Ad) (a1:=x) (H:=H) (K:=λr H'=>r=I (-1)∧H'=H) (by
  unfold CH;have e:Be Ad=some (I 0):=rfl;simp only[e,Ab];refine D2 (λn x0 x1 x7 x8 H'=>x7=I 0∧x8=I 0∧H'=H) ?_ 0 ⟨rfl,rfl,rfl⟩;rintro n x0 x1 x7 x8 H' R hR ⟨rfl,rfl,rfl⟩;unfold Cc;simp only[rX,sD];exact⟨by trivial,by trivial⟩)
 exact hc
theorem fU (h:Tk n0 o vl vo vr l op rs H0 H){s:Tx}(hs:s.length≤1000000)(h0:s≠[]):∃r H',(r=B false∧n0≤H'.length∧∀i,i<n0→H'[i]?=H0[i]?)∧BCall prog 196 [.ptr o 0,S (As s)] H r H':=Mu (by
 unfold J1;have e1:A8 H (S (As s))=some (.ptr H.length 0,H++[some (.cells [S (As s)])]):=rfl;have g:=Grew.app H [some (AObj.cells [S (As s)])];have q1:Ff (S (As s))=some (I s.length):=GQ (by omega);simp only[e1,A1,Al CT,Ai,Dt,Ab,q1];have ob:=g.cells h.obj;have hf:n0≤(H++[some (AObj.cells [S (As s)])]).length∧∀i,i<n0→(H++[some (AObj.cells [S (As s)])])[i]?=H0[i]?:=⟨tL h.g.1 g.1,λi hi=>(g.2 i (by have:=h.g.1;omega)).trans (h.g.2 i hi)⟩;have hlt:=h.lt;have hno:=h.no;have hlen:(H++[some (AObj.cells [S (As s)])]).length=H.length+1:=by simp
 generalize (H++[some (AObj.cells [S (As s)])])=H1 at*;refine Iz (λn x0 x3 x8 x9 H'=>x0=.ptr o 0∧x8=I s.length∧x9=I 0∧H'=H1) ?_ 0 ⟨rfl,rfl,rfl,rfl⟩;rintro n x0 x3 x8 x9 H' R hR ⟨rfl,rfl,rfl,rfl⟩;unfold Gb
 have hp:(0:Int)<(s.length:Int):=by
  have:=List.length_pos_iff.2 h0;omega
 have e2:A8 H' (I 0)=some (.ptr H'.length 0,H'++[some (.cells [I 0])]):=rfl;have g2:=Grew.app H' [some (AObj.cells [I 0])]
 have e3:AU 1 (H'++[some (AObj.cells [I 0])]) (.ptr H'.length 0) (I 0)=some (H'++[some (.cells [I 0])]):=by
  rw[A6 (n:=1) (xs:=[I 0]) (cs:=[I 0]) rfl CT rfl (by simp)];simp[AS]
 simp only[Bq,rJ,Ag,hp,rI,e2,rT,e3,Aq,Al (g2.cells ob),Dt];refine bC_of (oS _ _) ?_;simp only[rX,show decide ((-1:Int)<0)=true from rfl,Ap];exact⟨by trivial,tL hf.1 g2.1,λi hi=>(g2.2 i (by have:=h.g.1;omega)).trans (hf.2 i hi)⟩)
theorem lS (h:Tk n0 o vl vo vr l op rs H0 H)(hrs:rs.length≤1000)(s:Tx):
  ∃r H8 H9,Dh H 1 1 (Bo [(.lit (.string ⟨#[]⟩))] 1) [(0,1,S (As s))]=some (.sl H.length 0 1 1 (.ex 1),H++[some (.cells [S (As s)])])∧Oo 1 16 (H++[some (.cells [S (As s)])]) vr (.sl H.length 0 1 1 (.ex 1))=some (r,H8)∧AU 1 H8 (.ptr o 3) r=some H9∧Tk n0 o vl vo r l op (rs++[s]) H0 H9:=by
 have hlt:=h.lt
 have e2:Dh H 1 1 (Bo [(.lit (.string ⟨#[]⟩))] 1) [(0,1,S (As s))]=some (.sl H.length 0 1 1 (.ex 1),H++[some (.cells [S (As s)])]):=by
  simp[Dh,PJ,Bo,B3,AS,oneA]
 have g:=Grew.app H [some (AObj.cells [S (As s)])]
 have s1:Aa (H++[some (AObj.cells [S (As s)])]) 1 (.sl H.length 0 1 1 (.ex 1))=some ([S (As s)],1):=by
  rw[AA CT (by simp)];rfl
 obtain⟨r,H8,a1,a2,a3,a4,a5,a6⟩:=DK (sz:=1) (bytes:=16) (g.slice h.sr) h.ow (AJ s1) (by omega);have lg:(H++[some (AObj.cells [S (As s)])]).length=H.length+1:=by simp
 rw[lg]at a4 a5 a6;have k8:∀i,i<H.length→i∉AP vr→H8[i]?=H[i]?:=λi h1 h2=>(a5 i (by omega) h2).trans (g.2 i h1)
 have ob8:H8[o]?=some (some (.cells [Ad,vl,vo,vr])):=(k8 o hlt λz=>(h.ir o z).2 rfl).trans h.obj;have or':=AK a2
 have e3:AU 1 H8 (.ptr o 3) r=some (H8.set o (some (.cells [Ad,vl,vo,r]))):=by
  rw[A6 (n:=1) (xs:=[r]) (cs:=[Ad,vl,vo,vr]) (AL or') ob8 rfl (by simp)];rfl
 have ne8:∀i,i≠o→(H8.set o (some (.cells [Ad,vl,vo,r])))[i]?=H8[i]?:=λi hi=>Co (uC hi)
 have rne:∀i∈AP r,n0≤i∧i≠o:=λi hi=>by
  rcases a6 i hi with z | z
  ·exact h.ir i z
  ·have:=h.g.1;exact⟨by omega,by omega⟩
 refine⟨r,H8,_,e2,a1,e3,h.move (by rw[tM];omega) (λi hi=>?_) (IJ (by omega)) ?_ h.oo h.io ?_ a2 rne ?_⟩
 ·have:=h.no;have:=h.g.1
  rw[ne8 i (by omega)];exact k8 i (by omega) λz=>by have:=(h.ir i z).1;omega
 ·exact Ae h.so λi hi=>by
   rw[ne8 i (h.io i hi).2];exact k8 i (Au h.so i hi) λz=>h.dj i hi z
 ·have:(rs++[s]).flatMap Ej=rs.flatMap Ej++[S (As s)]:=by simp[Ej]
  rw[this,tH];exact Ae a3 λi hi=>ne8 i (rne i hi).2
 ·intro i hi z
  rcases a6 i z with y | y
  ·exact h.dj i hi y
  ·have:=Au h.so i hi;omega
theorem pC (h:Tk n0 o vl vo vr l op rs H0 H)(hop:op.length≤1000)(hrs:rs.length≤1000){s:Tx}(hs:s.length≤1000000):
  ∃r H',(r=B (Y8 s).isSome∧(∀kv,Y8 s=some (some kv)→∃vo',Tk n0 o vl vo' vr l (op++[kv]) rs H0 H')∧(Y8 s=some none→∃vr',Tk n0 o vl vo vr' l op (rs++[s]) H0 H')∧n0≤H'.length∧∀i,i<n0→H'[i]?=H0[i]?)∧BCall prog 157 [.ptr o 0,S (As s)] H r H':=Oy (by
 unfold LJ;have e1:(AV.lit (.string ⟨#[45,45]⟩))=S (As [45,45]):=rfl;have e2:(AV.lit (.string ⟨#[45]⟩))=S (As [45]):=rfl;have e0:∀x:Tx,PI .neq (S (As x)) (.lit (.string ⟨#[]⟩))=some (B (decide (x≠[]))):=λx=>MS
 rw[e1,e2];refine A3 (Pg (a:=s) (p:=[45,45]) (by omega) (by simp)) ?_;unfold Y8;simp only[rV,rA];cases c:Rl [45,45] s with
 | true=>
  simp only[Ap,if_true];obtain⟨r,H',⟨rfl,h1,h2⟩,hc⟩:=lC h hop (s:=s.drop 2) (by rw[tC];omega);refine bC_of (r:=B (decide (IQ (K3 (s.drop 2)).1))) hc ?_
  by_cases k:IQ (K3 (s.drop 2)).1
  ·simp only[k,rE,vE]
   refine⟨by trivial,λkv hkv=>?_,λhk=>by simp at hk,h2⟩;injection hkv with hkv;injection hkv with hkv;rw[← hkv];exact h1 k
  ·simp only[k,Dp,if_false,wU]
   exact⟨by trivial,λkv hkv=>by simp at hkv,λhk=>by simp at hk,h2⟩
 | false=>
  simp only[Ah,At];refine A3 (Pg (a:=s) (p:=[45]) (by omega) (by simp)) ?_;simp only[rV,Ab,AZ];obtain⟨r,H8,H9,f1,f2,f3,f4⟩:=lS h hrs s;cases c2:Rl [45] s with
  | true=>
   have ed:s.drop ([45]:Tx).length=s.drop 1:=rfl;simp only[qY,rA,if_true,ed,e0,A4,true_and]
   by_cases c3:s.drop 1=[]
   ·simp only[c3,rM,rF,vE]
    simp only[rY,Nat.reduceAdd,Al h.obj,f1,rT,f2,f3];exact⟨by trivial,λkv hkv=>by simp at hkv,λ_=>⟨r,f4⟩,f4.g⟩
   ·simp only[c3,qX,sS,wU]
    obtain⟨r,H',⟨rfl,h2⟩,hc⟩:=fU h (s:=s.drop 1) (by rw[tC];omega) c3;refine bC_of hc ?_;exact⟨by trivial,λkv hkv=>by simp at hkv,λhk=>by simp at hk,h2⟩
  | false=>
   simp only[show((false==true)=false)from rfl,Cn,rA,sU,Ah,false_and,vE];simp only[rY,Nat.reduceAdd,Al h.obj,f1,rT,f2,f3];exact⟨by trivial,λkv hkv=>by simp at hkv,λ_=>⟨r,f4⟩,f4.g⟩)
end
end
section
theorem Ys (H:AH):BCall prog 156 [.lit (.string ⟨#[]⟩)] H (.tup [Ad,B true]) H:=by
 obtain⟨r,H',⟨rfl,rfl⟩,hc⟩:=TS (a0:=.lit (.string ⟨#[]⟩)) (H:=H) (K:=λr H'=>r=.tup [Ad,B true]∧H'=H) (by
  unfold SE;have e:Ff (.lit (.string ⟨#[]⟩))=some (I 0):=rfl;simp only[e,Ab];refine Nf (λn x0 x4 x9 x10 H'=>x4=Ad∧x9=I 0∧x10=I 0∧H'=H) ?_ 0 ⟨rfl,rfl,rfl,rfl⟩;rintro n x0 x4 x9 x10 H' R hR ⟨rfl,rfl,rfl,rfl⟩;unfold Km;simp only[rX,sD];exact⟨by trivial,by trivial⟩)
 exact hc
theorem RG {H:AH}{sz:Nat}{v:AV}{q:List AV×Nat}(h:Aa H sz v=some q):oneA v=true:=by
 cases v with
 | lit a=>cases a<;>first | rfl | (simp[Aa]at h)
 | _=>first | rfl | (simp[Aa]at h)
theorem Yt (l:List Tx):(l.flatMap Ej).length=l.length:=by
 induction l with
 | nil=>rfl
 | cons a l ih=>rw[tY,tH,ih,tP,QO];omega
def OG (l:List Tx):Option (List (Tx×Tx)×List Tx):=if 40<l.length then none else Gv l [] []
def YU (F:Option (List (Tx×Tx)×List Tx))(r:AV)(H:AH):Prop:=match F with
 | none=>r=.tup [.agg [Ad,Ad],B false]
 | some (op,rs)=>∃vo vr,r=.tup [.agg [vo,vr],B true]∧Aa H 2 vo=some (op.flatMap Dq,op.length)∧Aa H 1 vr=some (rs.flatMap Ej,rs.length)∧oneA vo=true∧oneA vr=true
theorem cK {l:List Tx}{v:AV}{H:AH}(hv:Aa H 1 v=some (l.flatMap Ej,l.length))(hb:∀s∈l,s.length≤1000000)(hl:l.length≤9223372036854775807):
  ∃r H',(YU (OG l) r H'∧Grew H H')∧BCall prog 83 [.lit (.string ⟨#[]⟩),v] H r H':=TR (by
 unfold SD;have e1:A8 H (.agg [Ad,Ad])=some (.ptr H.length 0,H++[some (.cells [Ad,Ad])]):=rfl;have g1:=Grew.app H [some (AObj.cells [Ad,Ad])];have top:=CT (H:=H) (x:=AObj.cells [Ad,Ad]);have l1:(H++[some (AObj.cells [Ad,Ad])]).length=H.length+1:=by simp
 have hv1:=g1.slice hv;have iv:∀i∈AP v,i<H.length:=Au hv;simp only[e1,A1];generalize (H++[some (AObj.cells [Ad,Ad])])=H1 at*;refine bC_of (Ys H1) ?_;have z0:EW [Ad,Ad] []=some (.agg [Ad,Ad]):=rfl;have alv:Be v=some (I l.length):=Bz hv1;have rd2':∀a b:AV,Am true 2 [a,b] 0=some (.agg [a,b]):=λ_ _=>rfl
 simp only[rV,rU,wA,sU,qY,alv,MP];unfold OG
 by_cases c40:40<l.length
 ·have t1:AU 2 H1 (.ptr H.length 0) (.agg [Ad,Ad])=some (H1.set H.length (some (.cells [Ad,Ad]))):=by
   rw[A6 (n:=2) (xs:=[Ad,Ad]) (cs:=[Ad,Ad]) (by simp[B3,oneA]) top rfl (by simp)];rfl
  have t2:(H1.set H.length (some (.cells [Ad,Ad])))[H.length]?=some (some (.cells [Ad,Ad])):=IJ (by omega);simp only[show(40:Int)<(l.length:Int) by omega,sS,z0,Ab,t1,AE,Al t2,rd2',c40];exact⟨rfl,by rw[tM];omega,λi hi=>by rw[Co (by omega),g1.2 i hi]⟩
 simp only[show ¬(40:Int)<(l.length:Int) by omega,rF,c40,if_false];generalize hF:Gv l [] []=F;have o1:=RG hv
 have z1:EW [Ad,Ad,Ad,Ad] [(0,1,Ad),(1,1,v)]=some (.agg [Ad,v,Ad,Ad]):=by
  simp[EW,AL o1,AL (show oneA Ad=true from rfl),AS]
 have e2:A8 H1 (.agg [Ad,v,Ad,Ad])=some (.ptr H1.length 0,H1++[some (.cells [Ad,v,Ad,Ad])]):=by simp[o1]
 have g2:=Grew.app H1 [some (AObj.cells [Ad,v,Ad,Ad])];simp only[z1,Ab,e2,A1];have nil2:∀(H:AH) (sz:Nat),Aa H sz Ad=some ([],0):=λ_ _=>rfl
 have tk0:Tk H1.length H1.length v Ad Ad l [] [] H1 (H1++[some (AObj.cells [Ad,v,Ad,Ad])]):=
  ⟨CT,sY _,g2.slice hv1,λi hi=>by have:=iv i hi;omega,rfl,rfl,by simp[AP],rfl,rfl,by simp[AP],by simp[AP],g2.1,λi hi=>g2.2 i hi⟩
 -- what is answered at the end
 have out:∀(H':AH) (vl vo vr:AV) (lr:List Tx) (op:List (Tx×Tx)) (rs:List Tx),Tk H1.length H1.length vl vo vr lr op rs H1 H'→F=some (op,rs)→GI (.ptr H.length 0) (.ptr H1.length 0) H' (λr H'=>YU F r H'∧Grew H H'):=by
  intro H' vl vo vr lr op rs tk hf;rw[PM];unfold Kj;have rd4:∀a b c d:AV,Am true 2 [a,b,c,d] 2=some (.agg [c,d]):=λ_ _ _ _=>rfl
  have ooA:=AK tk.oo;have owA:=AK tk.ow;have top':=(tk.g.2 H.length (by omega)).trans top
  have t1:AU 2 H' (.ptr H.length 0) (.agg [vo,vr])=some (H'.set H.length (some (.cells [vo,vr]))):=by
   rw[A6 (n:=2) (xs:=[vo,vr]) (cs:=[Ad,Ad]) (by simp[ooA,owA]) top' rfl (by simp)];rfl
  have hl':=tk.g.1;have t2:(H'.set H.length (some (.cells [vo,vr])))[H.length]?=some (some (.cells [vo,vr])):=IJ (by omega);simp only[sT,Al tk.obj,rd4,t1,AE,Al t2,rd2'];have ne:∀i,i≠H.length→(H'.set H.length (some (.cells [vo,vr])))[i]?=H'[i]?:=λi hi=>Co (uC hi)
  rw[hf];refine⟨⟨vo,vr,rfl,Ae tk.so λi hi=>ne i (by have:=(tk.io i hi).1;omega),Ae tk.sr λi hi=>ne i (by have:=(tk.ir i hi).1;omega),ooA,owA⟩,by rw[tM];omega,λi hi=>?_⟩;rw[ne i (by omega),tk.g.2 i (by omega),g1.2 i hi]
 refine MZ (λn x4 x8 H'=>∃(lr:List Tx) (vl vo vr:AV) (op:List (Tx×Tx)) (rs:List Tx),lr.length=n∧x4=.ptr H.length 0∧x8=.ptr H1.length 0∧Tk H1.length H1.length vl vo vr lr op rs H1 H'∧Gv lr op rs=F∧(∀s∈lr,s.length≤1000000)∧op.length+lr.length≤40∧rs.length+lr.length≤40) ?_ l.length
  ⟨l,_,_,_,[],[],rfl,rfl,rfl,tk0,hF,hb,by simp;omega,by simp;omega⟩
 rintro n x4 x8 H2 R hR ⟨lr,vl,vo,vr,op,rs,rfl,rfl,rfl,tk,hf,hb,n1,n2⟩;unfold Kk;have al:=Bz tk.sl;simp only[rY,Al tk.obj,al,MP,Ag];cases lr with
 | nil=>
  simp only[vN,Int.ofNat_zero,Int.cast_ofNat_Int,sD];exact out _ _ _ _ _ _ _ tk (by rw[← hf];rfl)
 | cons s lr=>
  simp only[tP]at n1 n2 al;have hlt:=tk.lt;obtain⟨p,hp1,hp2⟩:=MC (enc:=Ej) (f:=λt=>S (As t)) (λ_=>rfl) tk.sl (k:=0) (x:=s) rfl;obtain⟨vl2,b1,b2,b3,-,-⟩:=Eu (sz:=1) tk.sl (lo:=some (I 1)) (hi:=none) (l:=1) (k:=lr.length+1) (by simp[Bk]) rfl (by omega) (by simp)
  have b2:Aa H2 1 vl2=some (lr.flatMap Ej,lr.length):=by
   rw[b2];have:(s::lr).flatMap Ej=S (As s)::lr.flatMap Ej:=rfl;have hfl:=Yt lr;rw[this];simp only[vM,wL,uA,Nat.add_sub_cancel];rw[sZ (by omega)]
  have ovl:=RG b2
  have e3:AU 1 H2 (.ptr H1.length 1) vl2=some (H2.set H1.length (some (.cells [Ad,vl2,vo,vr]))):=by
   rw[A6 (n:=1) (xs:=[vl2]) (cs:=[Ad,vl,vo,vr]) (AL ovl) tk.obj rfl (by simp)];rfl
  have hp1:Bv 1 vl (I 0)=some p:=hp1;simp only[tP,show(0:Int)<((lr.length+1:Nat):Int) by omega,rI,hp1,hp2,b1,e3,AE,Ab];have ne:∀i,i≠H1.length→(H2.set H1.length (some (.cells [Ad,vl2,vo,vr])))[i]?=H2[i]?:=λi hi=>Co (uC hi)
  have tk2:Tk H1.length H1.length vl2 vo vr lr op rs H1 (H2.set H1.length (some (.cells [Ad,vl2,vo,vr]))):=
   ⟨IJ hlt,sY _,Ae b2 λi hi=>ne i (by have:=tk.il i (b3 i hi);omega),λi hi=>tk.il i (b3 i hi),Ae tk.so λi hi=>ne i (tk.io i hi).2,tk.oo,tk.io,Ae tk.sr λi hi=>ne i (tk.ir i hi).2,tk.ow,tk.ir,tk.dj,by rw[tM];exact tk.g.1,λi hi=>(ne i (by omega)).trans (tk.g.2 i hi)⟩
  generalize (H2.set H1.length (some (.cells [Ad,vl2,vo,vr])))=H3 at*;have eD:(AV.lit (.string ⟨#[45,45]⟩))=S (As [45,45]):=rfl;rw[eD,FS];simp only[rA];unfold Gv at hf
  by_cases cd:s=[45,45]
  ·rw[if_pos cd]at hf
   obtain⟨r,H8,a1,a2,a3,a4,a5,a6⟩:=DK (sz:=1) (bytes:=16) tk2.sr tk2.ow (AJ tk2.sl) (by omega);have k8:∀i,i<H3.length→i∉AP vr→H8[i]?=H3[i]?:=a5;have ob8:H8[H1.length]?=some (some (.cells [Ad,vl2,vo,vr])):=(k8 _ tk2.lt λz=>(tk2.ir _ z).2 rfl).trans tk2.obj;have or':=AK a2
   have e4:AU 1 H8 (.ptr H1.length 3) r=some (H8.set H1.length (some (.cells [Ad,vl2,vo,r]))):=by
    rw[A6 (n:=1) (xs:=[r]) (cs:=[Ad,vl2,vo,vr]) (AL or') ob8 rfl (by simp)];rfl
   simp only[cd,rI,rY,Nat.reduceAdd,Al tk2.obj,a1,rT,e4];have ne8:∀i,i≠H1.length→(H8.set H1.length (some (.cells [Ad,vl2,vo,r])))[i]?=H8[i]?:=λi hi=>Co (uC hi)
   have lt2:=tk2.lt
   have rne:∀i∈AP r,H1.length≤i∧i≠H1.length:=λi hi=>by
    rcases a6 i hi with z | z
    ·exact tk2.ir i z
    ·exact⟨by omega,by omega⟩
   refine out _ vl2 vo r lr op (rs++lr) (tk2.move (by rw[tM];omega) (λi hi=>?_) (IJ (by omega)) ?_ tk2.oo tk2.io ?_ a2 rne ?_) hf.symm
   ·rw[ne8 i (by omega)]
    exact k8 i (by omega) λz=>by have:=(tk2.ir i z).1;omega
   ·exact Ae tk2.so λi hi=>by
     rw[ne8 i (tk2.io i hi).2];exact k8 i (Au tk2.so i hi) λz=>tk2.dj i hi z
   ·rw[vI,tH]
    exact Ae a3 λi hi=>ne8 i (rne i hi).2
   ·intro i hi z
    rcases a6 i z with y | y
    ·exact tk2.dj i hi y
    ·have:=Au tk2.so i hi;omega
  ·rw[if_neg cd]at hf
   obtain⟨r,H4,⟨rfl,q1,q2,q3⟩,hc⟩:=pC tk2 (by omega) (by omega) (s:=s) (hb s (by simp));simp only[cd,rF];refine bC_of hc ?_;cases ho:Y8 s with
   | none=>
    rw[ho]at hf;simp only at hf;have top':=(q3.2 H.length (by omega)).trans top
    have t1:AU 2 H4 (.ptr H.length 0) (.agg [Ad,Ad])=some (H4.set H.length (some (.cells [Ad,Ad]))):=by
     rw[A6 (n:=2) (xs:=[Ad,Ad]) (cs:=[Ad,Ad]) (by simp[B3,oneA]) top' rfl (by simp)];rfl
    have hl':=q3.1;have t2:(H4.set H.length (some (.cells [Ad,Ad])))[H.length]?=some (some (.cells [Ad,Ad])):=IJ (by omega);simp only[wU,rU,rC,z0,t1,AE,Al t2,rd2'];rw[← hf];exact⟨rfl,by rw[tM];omega,λi hi=>by rw[Co (by omega),q3.2 i (by omega),g1.2 i hi]⟩
   | some x=>
    rw[ho]at hf;simp only[vE,rU,rD];cases x with
    | none=>
     obtain⟨vr',tk4⟩:=q2 ho;exact hR lr.length _ _ _ (by simp) ⟨lr,vl2,vo,vr',op,rs++[s],rfl,rfl,rfl,tk4,hf,λz hz=>hb z (by simp[hz]),by omega,by simp;omega⟩
    | some kv=>
     obtain⟨vo',tk4⟩:=q1 kv ho;exact hR lr.length _ _ _ (by simp) ⟨lr,vl2,vo',vr,op++[kv],rs,rfl,rfl,rfl,tk4,hf,λz hz=>hb z (by simp[hz]),by simp;omega,by omega⟩)
theorem hU {H:AH}{v:AV}{l:List (Tx×Tx)}{k:Nat}{x:Tx×Tx}(h:Aa H 2 v=some (l.flatMap Dq,l.length))(hx:l[k]?=some x):∃p,Bv 2 v (I (k:Int))=some p∧Ar true 2 H p=some (.agg (Dq x)):=by
 have hk:=(B5.1 hx).1;obtain⟨p,c,h1,h2,h3,h4⟩:=Iw h (i:=(k:Int)) rfl hk;refine⟨p,h1,?_⟩;rw[Ov h2 (by omega) h4,Fa (by omega),uA,h3,CE Yq hx,tJ (by simp[Dq]),sZ (by simp[Dq])]
theorem ZO:Bs prog 159=true:=by kernel_rfl
theorem YV {ks:List Tx}{v:AV}(hv:SV Ej 1 ks v)(hk:ks.length≤1000000)(x:Tx)(H:AH):BCall prog 160 [v,S (As x)] H (B (decide (x∈ks))) H:=by
 obtain⟨r,H',⟨rfl,rfl⟩,hc⟩:=Fm (a0:=v) (a1:=S (As x)) (H:=H) (K:=λr H'=>r=B (decide (x∈ks))∧H'=H) (by
  unfold Dy
  obtain⟨r,H',⟨⟨i,rfl,hi⟩,rfl⟩,hc⟩:=FP (a0:=v) (a1:=S (As x)) (H:=H) (K:=λr H'=>(∃i:Int,r=I i∧(0≤i↔x∈ks))∧H'=H) (by
   unfold Eb;simp only[hv.len,Ab];refine EG (λn x0 x1 x7 x8 H'=>∃k:Nat,k+n=ks.length∧x0=v∧x1=S (As x)∧x7=I ks.length∧x8=I k∧H'=H∧∀m y,m<k→ks[m]?=some y→y≠x) ?_ ks.length ⟨0,by omega,rfl,rfl,rfl,rfl,rfl,by omega⟩;rintro n x0 x1 x7 x8 H' R hR ⟨k,hk2,rfl,rfl,rfl,rfl,rfl,hb⟩;unfold De;simp only[rX];rcases tD k ks.length with h | h
   ·have hx:=E5 h
    generalize ks[k]=y at hx;have q0:∀t,Ar false 1 H' (.ip (Ej y++t))=some (S (As y)):=λ_=>rfl
    simp only[show(k:Int)<(ks.length:Int) by omega,rI,hv.idx QO hx rfl,q0,rA,FS]
    by_cases c:x=y
    ·simp only[c,rI]
     refine⟨⟨k,by trivial,?_⟩,by trivial⟩;rw[← c]at hx⊢;exact⟨λ_=>tB hx,λ_=>by omega⟩
    ·simp only[c,sI,Az (a:=(k:Int)) (b:=1) (by omega) (by omega)]
     refine hR (n - 1) _ _ _ _ _ (by omega) ⟨k+1,by omega,rfl,rfl,rfl,by simp,rfl,?_⟩;intro m z hm hz
     by_cases c2:m=k
     ·rw[c2,hx]at hz;injection hz with hz;rw[← hz];exact λe=>c e.symm
     ·exact hb m z (by omega) hz
   ·simp only[show ¬(k:Int)<(ks.length:Int) by omega,rF]
    refine⟨⟨-1,by trivial,λh=>by omega,λhm=>?_⟩,by trivial⟩;obtain⟨m,hm⟩:=tK.1 hm
    have:=(B5.1 hm).1
    exact absurd rfl (hb m x (by omega) hm))
  refine bC_of hc ?_;simp only[GG,Ab];exact⟨by simp only[hi],by trivial⟩)
 exact hc
theorem cO {ks:List Tx}{v:AV}(hv:SV Ej 1 ks v)(hk:ks.length≤1000000){ko:Nat}{H:AH}(hko:H[ko]?=some (some (.cells [v])))(kv:Tx×Tx):∃r H',(r=B (decide (kv.1∉ks))∧Grew H H')∧BCall prog 159 [.agg (Dq kv),.ptr ko 0] H r H':=So (by
 unfold Q2;have e1:A8 H (.agg (Dq kv))=some (.ptr H.length 0,H++[some (.cells (Dq kv))]):=by simp[Dq]
 have g:=Grew.app H [some (AObj.cells (Dq kv))];have i0:(Dq kv)[0]?=some (S (As kv.1)):=rfl;simp only[e1,A1,Al (g.cells hko),Ai,sN,Ab,Ao,Al CT,i0];refine bC_of (YV hv hk kv.1 _) ?_;simp only[Bi,Ab];refine⟨?_,g⟩
 by_cases c:kv.1∈ks<;>simp[c])
theorem iN {op:List (Tx×Tx)}{vo v:AV}{ks:List Tx}{H:AH}(hs:Aa H 2 vo=some (op.flatMap Dq,op.length))(hl:op.length≤1000000)(hv:SV Ej 1 ks v)(hk:ks.length≤1000000):
  ∃r H',(r=B (decide (∀kv∈op,kv.1∈ks))∧Grew H H')∧BCall prog 84 [vo,v] H r H':=UV (by
 unfold UU;have ov:=SV.oneA hv;have e1:A8 H v=some (.ptr H.length 0,H++[some (.cells [v])]):=by simp[A8,AL ov]
 have g:=Grew.app H [some (AObj.cells [v])];have hko:=CT (H:=H) (x:=AObj.cells [v]);have hs1:=g.slice hs;simp only[e1,A1];have l1:(H++[some (AObj.cells [v])]).length=H.length+1:=by simp
 generalize (H++[some (AObj.cells [v])])=H1 at*
 have key:∃r H',(r=B (decide (¬∀kv∈op,kv.1∈ks))∧Grew H1 H')∧BCall prog 158 [vo,.fn (.func 159) [] [.ptr H.length 0]] H1 r H':=Ed (by
  unfold C4
  obtain⟨r,H',⟨⟨i,rfl,hi⟩,g2⟩,hc⟩:=E2 (a0:=vo) (a1:=.fn (.func 159) [] [.ptr H.length 0]) (H:=H1) (K:=λr H'=>(∃i:Int,r=I i∧(0≤i↔¬∀kv∈op,kv.1∈ks))∧Grew H1 H') (by
   unfold CS;simp only[Bz hs1,Ab];refine DP (λn x0 x1 x7 x8 H'=>∃k:Nat,k+n=op.length∧x0=vo∧x1=.fn (.func 159) [] [.ptr H.length 0]∧x7=I op.length∧x8=I k∧Grew H1 H'∧∀m y,m<k→op[m]?=some y→y.1∈ks) ?_ op.length ⟨0,by omega,rfl,rfl,rfl,rfl,Grew.refl _,by omega⟩;rintro n x0 x1 x7 x8 H' R hR ⟨k,hk2,rfl,rfl,rfl,rfl,g2,hb⟩;unfold Cp;simp only[rX];rcases tD k op.length with h | h
   ·have hx:=E5 h
    generalize op[k]=y at hx;obtain⟨p,p1,p2⟩:=hU (g2.slice hs1) hx;simp only[show(k:Int)<(op.length:Int) by omega,rI,p1,p2,Ab,Xl,ZO,sO,rP];obtain⟨r,H3,⟨rfl,g3⟩,hc⟩:=cO hv hk (g2.cells hko) y;refine bC_of hc ?_
    by_cases c:y.1∈ks
    ·simp only[c,not_true_eq_false,rF,rA,Az (a:=(k:Int)) (b:=1) (by omega) (by omega)]
     refine hR (n - 1) _ _ _ _ _ (by omega) ⟨k+1,by omega,rfl,rfl,rfl,by simp,g2.trans g3,?_⟩;intro m z hm hz
     by_cases c2:m=k
     ·rw[c2,hx]at hz;injection hz with hz;rw[← hz];exact c
     ·exact hb m z (by omega) hz
    ·simp only[c,not_false_eq_true,rI,Ag]
     exact⟨⟨k,by trivial,λ_ hm=>c (hm y (tB hx)),λ_=>by omega⟩,g2.trans g3⟩
   ·simp only[show ¬(k:Int)<(op.length:Int) by omega,rF]
    refine⟨⟨-1,by trivial,λh=>by omega,λhm=>absurd (λkv hkv=>?_) hm⟩,g2⟩;obtain⟨m,hm⟩:=tK.1 hkv
    have:=(B5.1 hm).1
    exact hb m kv (by omega) hm)
  refine bC_of hc ?_;simp only[GG,Ab];exact⟨by simp only[hi],g2⟩)
 obtain⟨r,H',⟨rfl,g2⟩,hc⟩:=key;refine bC_of hc ?_;simp only[Bi,Ab];refine⟨?_,g.trans g2⟩
 by_cases c:∀kv∈op,kv.1∈ks<;>simp[c])
def pL:Tx:=[115,112,97,114,115,101]
def J2:Tx:=[97,117,116,111]
def Lm:Tx:=[97,108,119,97,121,115]
def WC:Tx:=[110,101,118,101,114]
def Om (w:Tx):Prop:=w=J2∨w=Lm∨w=WC
instance (w:Tx):Decidable (Om w):=by unfold Om;infer_instance
def PH:List (Tx×Tx)→Tx→Option Tx
 | [],w=>some w
 | kv::l,_=>if Om kv.2 then PH l kv.2 else none
def Ut (op:List (Tx×Tx)):List Tx→Option (Tx×Tx×Tx)
 | [a,b]=>if a=b then none else if ∀kv∈op,kv.1∈[pL]then(PH op J2).map λw=>(a,b,w)else none
 | _=>none
def OY (l:List Tx):Option (Tx×Tx×Tx):=match OG l with
 | none=>none
 | some (op,rs)=>Ut op rs
theorem M3:∀{l:List Tx} {o:List (Tx×Tx)} {r:List Tx} {q:List (Tx×Tx)×List Tx},Gv l o r=some q→q.1.length≤o.length+l.length
 | [],o,r,q,h=>by
  unfold Gv at h;injection h with h;subst h;simp
 | s::l,o,r,q,h=>by
  unfold Gv at h;split at h
  ·injection h with h
   subst h;simp only;omega
  ·split at h
   ·cases h
   ·have:=M3 h
    simp only[sP]at this⊢;omega
   ·have:=M3 h
    simp only[tP]at this⊢;omega
def Wj (P:Option (Tx×Tx×Tx))(r:AV):Prop:=match P with
 | none=>r=.tup [S (As []),S (As []),S (As []),B false]
 | some (a,b,w)=>r=.tup [S (As a),S (As b),S (As w),B true]
theorem fI {l:List Tx}{v:AV}{H:AH}(hv:Aa H 1 v=some (l.flatMap Ej,l.length))(hb:∀s∈l,s.length≤1000000)(hl:l.length≤1000000):
  ∃r H',(Wj (OY l) r∧Grew H H')∧BCall prog 38 [v] H r H':=Vn (by
 unfold Vm;obtain⟨r,H1,⟨hr,g1⟩,hc⟩:=cK hv hb (by omega);refine bC_of hc ?_;unfold OY;have e1:A8 H1 (.agg [Ad,Ad])=some (.ptr H1.length 0,H1++[some (.cells [Ad,Ad])]):=rfl;have rd2':∀a b:AV,Am true 2 [a,b] 0=some (.agg [a,b]):=λ_ _=>rfl
 cases hF:OG l with
 | none=>
  rw[hF]at hr;have hr:r=.tup [.agg [Ad,Ad],B false]:=hr;subst hr
  have t1:AU 2 (H1++[some (AObj.cells [Ad,Ad])]) (.ptr H1.length 0) (.agg [Ad,Ad])=some (H1++[some (AObj.cells [Ad,Ad])]):=by
   rw[A6 (n:=2) (xs:=[Ad,Ad]) (cs:=[Ad,Ad]) (by simp[B3,oneA]) CT rfl (by simp)];simp[AS]
  simp only[rV,rU,e1,rT,t1,rC,sB,show((true==false)=false)from rfl,Cn,II,if_true];exact⟨rfl,g1.trans (Grew.app _ _)⟩
 | some q=>
  obtain⟨op,rs⟩:=q;rw[hF]at hr;obtain⟨vo,vr,rfl,so,sr,ooA,owA⟩:=hr
  have lop:op.length≤1000000:=by
   unfold OG at hF;split at hF
   ·cases hF
   ·have:=M3 hF
    simp only[vN]at this;omega
  have t1:AU 2 (H1++[some (AObj.cells [Ad,Ad])]) (.ptr H1.length 0) (.agg [vo,vr])=some (H1++[some (AObj.cells [vo,vr])]):=by
   rw[A6 (n:=2) (xs:=[vo,vr]) (cs:=[Ad,Ad]) (by simp[ooA,owA]) CT rfl (by simp)];simp[AS]
  have g2:=Grew.app H1 [some (AObj.cells [vo,vr])];have so:=g2.slice so;have sr:=g2.slice sr;have ob:=CT (H:=H1) (x:=AObj.cells [vo,vr]);have g12:=g1.trans g2;simp only[rV,Ab,e1,rT,t1,Bi,wA,AZ,qY];generalize (H1++[some (AObj.cells [vo,vr])])=H2 at*;have alr:=Bz sr;have bad:∀H3,Grew H2 H3→(Wj none (.tup [(.lit (.string ⟨#[]⟩)),(.lit (.string ⟨#[]⟩)),(.lit (.string ⟨#[]⟩)),(B false)]))∧Grew H H3:=λH3 g=>⟨rfl,g12.trans g⟩
  simp only[rL,Al ob,alr,CA,sU]
  by_cases c2:rs.length=2
  rotate_left
  ·have:Ut op rs=none:=by
    match rs,c2 with
    | [],_=>rfl
    | [_],_=>rfl
    | [_,_],h=>exact absurd rfl h
    | _::_::_::_,_=>rfl
   simp only[show((rs.length:Int)≠2) by omega,qX,sS,show((true==false)=false)from rfl,Cn,II,sB,rA,this];exact bad _ (Grew.refl _)
  obtain⟨a,b,rfl⟩:∃a b,rs=[a,b]:=by
   match rs,c2 with
   | [a,b],_=>exact⟨a,b,rfl⟩
  obtain⟨pa,pa1,pa2⟩:=MC (enc:=Ej) (f:=λt=>S (As t)) (λ_=>rfl) sr (k:=0) (x:=a) rfl;obtain⟨pb,pb1,pb2⟩:=MC (enc:=Ej) (f:=λt=>S (As t)) (λ_=>rfl) sr (k:=1) (x:=b) rfl;have pa1:Bv 1 vr (I 0)=some pa:=pa1;have pb1:Bv 1 vr (I 1)=some pb:=pb1;simp only[qZ,show((((0:Nat)+1+1:Nat):Int)≠2)=False by simp,Dp,qY,rL,Al ob,pa1,pa2,pb1,pb2,FS,sU];unfold Ut
  by_cases cab:a=b
  ·simp only[cab,sS,show((true==false)=false)from rfl,Cn,II,sB,rA]
   exact bad _ (Grew.refl _)
  have eK:PJ 1 1 (Bo [(.lit (.string ⟨#[]⟩))] 1) [(0,1,(.lit (.string ⟨#[115,112,97,114,115,101]⟩)))]=some (.imm [S (As pL)] 1 1):=rfl;have hK:SV Ej 1 [pL] (.imm [S (As pL)] 1 1):=SV.imm QO (λx _=>rfl);simp only[cab,Dp,qY,Al ob,Ai,rG,Ao,uU,Ab,AZ,eK,Ug,if_false];obtain⟨r,H3,⟨rfl,g3⟩,hc⟩:=iN so lop hK (by simp);refine bC_of hc ?_
  by_cases call:∀kv∈op,kv.1∈[pL]
  rotate_left
  ·simp only[call,Dp,rU,rC,A4,At]
   exact bad _ g3
  have ob3:=g3.cells ob;have so3:=g3.slice so;simp only[decide_eq_true call,if_pos call,rU,rD,A4,At,Al ob3,Ai,Dt,Bz so3];refine OA (λn x4 x6 x41 x42 x43 H'=>∃(k:Nat) (w:Tx),k+n=op.length∧x4=S (As w)∧x6=.ptr H1.length 0∧vo=x41∧x42=I op.length∧x43=I k∧Grew H2 H'∧PH (op.drop k) w=PH op J2) ?_ op.length ⟨0,J2,by omega,rfl,rfl,rfl,rfl,rfl,g3,by simp⟩;rintro n x4 x6 x41 x42 x43 H4 R hR ⟨k,w,hk,rfl,rfl,rfl,rfl,rfl,g4,hw⟩;unfold LU;simp only[rX];rcases tD k op.length with hlt | hge
  ·have hx:=E5 hlt
   generalize op[k]=y at hx;obtain⟨p,p1,p2⟩:=hU (g4.slice so) hx;have e5:A8 H4 (.agg [(.lit (.string ⟨#[]⟩)),(.lit (.string ⟨#[]⟩))])=some (.ptr H4.length 0,H4++[some (.cells [S (As []),S (As [])])]):=rfl
   have t5:AU 2 (H4++[some (AObj.cells [S (As []),S (As [])])]) (.ptr H4.length 0) (.agg (Dq y))=some (H4++[some (.cells (Dq y))]):=by
    rw[A6 (n:=2) (xs:=Dq y) (cs:=[S (As []),S (As [])]) (by simp[Dq,B3,oneA]) CT rfl (by simp)];simp[AS,Dq]
   have i1:(Dq y)[1]?=some (S (As y.2)):=rfl;have g5:=Grew.app H4 [some (AObj.cells (Dq y))];have hd:op.drop k=y::op.drop (k+1):=DS hx;rw[hd,show PH (y::op.drop (k+1)) w=if Om y.2 then PH (op.drop (k+1)) y.2 else none from rfl]at hw;have q1:(AV.lit (.string ⟨#[97,117,116,111]⟩))=S (As J2):=rfl;have q2:(AV.lit (.string ⟨#[97,108,119,97,121,115]⟩))=S (As Lm):=rfl;have q3:(AV.lit (.string ⟨#[110,101,118,101,114]⟩))=S (As WC):=rfl
   have fin:∀(t:Bool),t=decide (¬Om y.2)→bB (B t) λt20=>bI t20 ((Wj ((PH op J2).map λw=>(a,b,w)) (.tup [(.lit (.string ⟨#[]⟩)),(.lit (.string ⟨#[]⟩)),(.lit (.string ⟨#[]⟩)),(B false)]))∧Grew H (H4++[some (AObj.cells (Dq y))])) (bO (Ax .add (I (k:Int)) (I 1)) λv21=>R [S (As y.2),.ptr H1.length 0,vo,I op.length,v21] (H4++[some (AObj.cells (Dq y))])):=by
    rintro t rfl
    by_cases cw:Om y.2
    ·rw[if_pos cw]at hw
     simp only[cw,not_true_eq_false,rF,rA,Az (a:=(k:Int)) (b:=1) (by omega) (by omega)];exact hR (n - 1) _ _ _ _ _ _ (by omega) ⟨k+1,y.2,by omega,rfl,rfl,rfl,rfl,by simp,g4.trans g5,hw⟩
    ·rw[if_neg cw]at hw
     simp only[cw,not_false_eq_true,rI,Ag];rw[← hw];exact bad _ (g4.trans g5)
   simp only[show(k:Int)<(op.length:Int) by omega,rI,p1,p2,rJ,e5,rT,t5,Al CT,i1,q1,q2,q3,MS,AZ]
   by_cases w1:y.2=J2
   ·simp only[w1,qW,Dp,show((false==true)=false)from rfl,Cn,Ab,sU]
    have:=fin false (by simp[Om,w1])
    rw[w1]at this;exact this
   ·simp only[w1,qX,rE,qY,Ab,MS,sB]
    by_cases w2:y.2=Lm
    ·simp only[w2,not_true_eq_false,Dp,show((false==true)=false)from rfl,Cn,Ab,sU]
     have:=fin false (by simp[Om,w2])
     rw[w2]at this;exact this
    ·simp only[w2,qX,rE,qY,Ab,MS,sB]
     exact fin (decide (¬y.2=WC)) (by simp[Om,w1,w2])
  ·have ek:op.drop k=[]:=tQ hge
   rw[ek,show PH [] w=some w from rfl]at hw;have ob4:=g4.cells ob;obtain⟨pa,pa1,pa2⟩:=MC (enc:=Ej) (f:=λt=>S (As t)) (λ_=>rfl) (g4.slice sr) (k:=0) (x:=a) rfl;obtain⟨pb,pb1,pb2⟩:=MC (enc:=Ej) (f:=λt=>S (As t)) (λ_=>rfl) (g4.slice sr) (k:=1) (x:=b) rfl;have pa1:Bv 1 vr (I 0)=some pa:=pa1;have pb1:Bv 1 vr (I 1)=some pb:=pb1;simp only[show ¬(k:Int)<(op.length:Int) by omega,rF,rL,Al ob4,pa1,pa2,pb1,pb2];rw[← hw];exact⟨rfl,g12.trans g4⟩)
structure Bes (o:Nat)(cs:List AV)(os:Nat)(p:AV)(H:AH):Prop where
 at':H[o]?=some (some (.cells cs))
 ne:o≠os
 np:o∉AP p
theorem Bes.step {o:Nat}{cs:List AV}{os:Nat}{p p':AV}{H H':AH}(h:Bes o cs os p H)(f:StF os p p' H H'):Bes o cs os p' H':=by
 have hl:=(B5.1 h.at').1;exact⟨(f.same o hl h.ne h.np).trans h.at',h.ne,λz=>(f.ids o z).elim h.np (λz=>by omega)⟩
theorem Bes.grew {o:Nat}{cs:List AV}{os:Nat}{p:AV}{H H':AH}(h:Bes o cs os p H)(g:Grew H H'):Bes o cs os p H':=⟨g.cells h.at',h.ne,h.np⟩
theorem Bes.new {s:StS}{os:Nat}{p:AV}{H:AH}(h:StAt s os p H)(cs:List AV):Bes H.length cs os p (H++[some (.cells cs)]):=
 ⟨CT,by have:=h.os_lt;omega,λz=>by have:=h.p_lt _ z;omega⟩
theorem Vh {N:Nat}{s:StS}{os:Nat}{p:AV}{H:AH}(h:StAt s os p H)(hw:SW N s)(hN:N≤900000){ino:Int}(h0:(A9 s ino).2=0):
  ∃r H',((∃R,r=.agg [I (A9 s ino).1.1,R]∧SV Aw 9 (A9 s ino).1.2 R)∧Grew H H')∧BCall prog 85 [.ptr os 0,I ino] H r H':=Sr (by
 unfold QG;have e1:A8 H (.agg [(I 0),Ad])=some (.ptr H.length 0,H++[some (.cells [I 0,Ad])]):=rfl;have g1:=Grew.app H [some (AObj.cells [I 0,Ad])];have top:=CT (H:=H) (x:=AObj.cells [I 0,Ad]);have l1:(H++[some (AObj.cells [I 0,Ad])]).length=H.length+1:=by simp
 simp only[e1,A1];generalize (H++[some (AObj.cells [I 0,Ad])])=H1 at*;obtain⟨Rn,hRn,r,H2,⟨rfl,g2⟩,hc⟩:=gK (h.grew g1) hw hN;refine bC_of hc ?_;obtain⟨a,b,dv,rfl,ha,hb,hdv⟩:=hRn;have ob:=SV.oneA hb;have e2:UR false 1 1 (.agg [a,b])=some b:=rfl;simp only[e2,Ab,hb.len];have top2:=g2.cells top;have lt2:=g2.1
 have hdl:dv.length≤1000000:=by
  have:=hw.now.1.len2
  rw[← hdv,uE]at this;omega
 obtain⟨d,hd,hdi,hdc,-⟩:=Kr hw h0
 have uniq:∀x∈dv,x.nd.ino=ino→(A9 s ino).1=(x.nd.size,x.nd.l):=λx hx hi=>by
  have h1:x.nd∈s.now.2:=by rw[← hdv];exact uH hx
  have e1:=(Ui hw.now.1 h1).1;have e2:=(Ui hw.now.1 hd).1;rw[hi]at e1;rw[hdi,e1]at e2;rw[hdc,e2]
 refine Mx (λn x1 x4 x9 x10 x11 H'=>∃k:Nat,k+n=dv.length∧x1=I ino∧x4=.ptr H.length 0∧b=x9∧x10=I dv.length∧x11=I k∧Grew H2 H'∧∀m y,m<k→dv[m]?=some y→y.nd.ino≠ino) ?_ dv.length ⟨0,by omega,rfl,rfl,rfl,rfl,rfl,Grew.refl _,by omega⟩;rintro n x1 x4 x9 x10 x11 H3 R hR ⟨k,hk,rfl,rfl,rfl,rfl,rfl,g3,hno⟩;unfold J4;simp only[rX];rcases tD k dv.length with hlt | hge
 ·have hx:=E5 hlt
  generalize dv[k]=x at hx;have q0:∀t,Ar true 3 H3 (.ip (BH x++t))=some (.agg (BH x)):=λ_=>rfl
  have oR:=SV.oneA x.h;have e3:A8 H3 (.agg [(I 0),(I 0),Ad])=some (.ptr H3.length 0,H3++[some (.cells [I 0,I 0,Ad])]):=rfl
  have e4:AU 3 (H3++[some (AObj.cells [I 0,I 0,Ad])]) (.ptr H3.length 0) (.agg (BH x))=some (H3++[some (.cells (BH x))]):=by
   rw[A6 (n:=3) (xs:=BH x) (cs:=[I 0,I 0,Ad]) (by simp[BH,oR]) CT rfl (by simp)];simp[AS,BH]
  have g4:=Grew.app H3 [some (AObj.cells (BH x))];have i0:(BH x)[0]?=some (I x.nd.ino):=rfl;have i12:Am true 2 (BH x) 1=some (.agg [I x.nd.size,x.R]):=rfl;have top4:=g4.cells (g3.cells top2);have lt3:=g3.1;simp only[show(k:Int)<(dv.length:Int) by omega,rI,hb.idx CX hx rfl,rJ,q0,e3,rT,e4,Al CT,i0,i12,FQ,Ag]
  by_cases c:x.nd.ino=ino
  ·have e5:AU 2 (H3++[some (AObj.cells (BH x))]) (.ptr H.length 0) (.agg [I x.nd.size,x.R])=some ((H3++[some (AObj.cells (BH x))]).set H.length (some (.cells [I x.nd.size,x.R]))):=by
    rw[A6 (n:=2) (xs:=[I x.nd.size,x.R]) (cs:=[I 0,Ad]) (by simp[oR]) top4 rfl (by simp)];rfl
   have hlen:H.length<(H3++[some (AObj.cells (BH x))]).length:=by simp;omega
   have t5:((H3++[some (AObj.cells (BH x))]).set H.length (some (.cells [I x.nd.size,x.R])))[H.length]?=some (some (.cells [I x.nd.size,x.R])):=IJ hlen;simp only[c,rI,e5,AE,Al t5,show ∀a b:AV,Am true 2 [a,b] 0=some (.agg [a,b])from λ_ _=>rfl,Ab];rw[uniq x (tB hx) c];refine⟨⟨x.R,rfl,x.h⟩,by rw[tM];simp;omega,λi hi=>?_⟩;rw[Co (by omega),g4.2 i (by omega),g3.2 i (by omega),g2.2 i (by omega),g1.2 i hi]
  ·simp only[c,sI,Az (a:=(k:Int)) (b:=1) (by omega) (by omega)]
   refine hR (n - 1) _ _ _ _ _ _ (by omega) ⟨k+1,by omega,rfl,rfl,rfl,rfl,by simp,g3.trans g4,?_⟩;intro m z hm hz
   by_cases c2:m=k
   ·rw[c2,hx]at hz;injection hz with hz;rw[← hz];exact c
   ·exact hno m z (by omega) hz
 ·exfalso
  rw[← hdv]at hd;obtain⟨x,hx,rfl⟩:=tZ.1 hd;obtain⟨m,hm⟩:=tK.1 hx
  have:=(B5.1 hm).1
  exact hno m x (by omega) hm hdi)
theorem Sv (l:List Ext)(k:Nat):(l.flatMap Aw).drop (k*9)=(l.drop k).flatMap Aw:=by
 rcases tD k l.length with h | h
 ·have hx:=E5 h
  rw[CE A2 hx,DS hx,tY]
 ·rw[tQ h,tQ (by rw[HX A2];exact tE _ h)];rfl
theorem Sw (l:List Ext)(k:Nat)(h:k≤l.length):(l.flatMap Aw).take (k*9)=(l.take k).flatMap Aw:=by
 have e:l.flatMap Aw=(l.take k).flatMap Aw++(l.drop k).flatMap Aw:=by rw[← vI,vC]
 have hl:((l.take k).flatMap Aw).length=k*9:=by rw[HX A2,sX];congr 1;omega
 rw[e,← hl,List.take_left'];rfl
theorem SV.cutX {l:List Ext}{v:AV}(hv:SV Aw 9 l v){a k:Nat}{lo hi:Option AV}(e1:Bk lo 0=some a)(e2:Bk hi l.length=some k)(h1:a≤k)(h2:k≤l.length):∃r,AT 9 v lo hi none=some r∧SV Aw 9 ((l.drop a).take (k - a)) r:=by
 have key:∀H:AH,∃r,AT 9 v lo hi none=some r∧Aa H 9 r=some (((l.drop a).take (k - a)).flatMap Aw,((l.drop a).take (k - a)).length)∧(noIds v=true→noIds r=true):=by
  intro H;obtain⟨r,s1,s2,-,-,s5⟩:=Eu (hv.2 H) (lo:=lo) (hi:=hi) (l:=a) (k:=k) e1 e2 h1 h2;refine⟨r,s1,?_,s5⟩;have hl:((l.drop a).take (k - a)).length=k - a:=by rw[sX,tC];omega
  rw[s2,hl,Sv,Sw _ _ (by rw[tC];omega)]
 obtain⟨r,s1,s2,s5⟩:=key [];refine⟨r,s1,s5 hv.1,λH=>?_⟩;obtain⟨r2,t1,t2,-⟩:=key H;rw[s1]at t1;injection t1 with t1;rw[t1];exact t2
def Ce (size:Int):List Ext→List Ext
 | []=>[]
 | x::l=>if x.no*8<size then x::Ce size l else []
theorem Q7 {size:Int}:∀{l:List Ext} {k:Nat} {x:Ext},(∀m y,m<k→l[m]?=some y→y.no*8<size)→l[k]?=some x→¬x.no*8<size→Ce size l=l.take k
 | [],k,x,_,h,_=>by simp at h
 | y::l,0,x,_,h,hx=>by
  injection h with h;subst h;unfold Ce;rw[if_neg hx];rfl
 | y::l,k+1,x,h1,h,hx=>by
  unfold Ce;rw[if_pos (h1 0 y (by omega) rfl),Q7 (λm z hm hz=>h1 (m+1) z (by omega) hz) (show l[k]?=some x from h) hx];rfl
theorem SI {size:Int}:∀{l:List Ext},(∀y∈l,y.no*8<size)→Ce size l=l
 | [],_=>rfl
 | y::l,h=>by
  unfold Ce;rw[if_pos (h y (by simp)),SI λz hz=>h z (by simp[hz])]
theorem I0 (size:Int):∀(l:List Ext),(Ce size l).length≤l.length
 | []=>sY _
 | y::l=>by
  unfold Ce
  split
  ·have:=I0 size l
   simp only[tP];omega
  ·simp
theorem TV {size:Int}{l:List Ext}{v:AV}(hv:SV Aw 9 l v)(hl:l.length≤1000000)(hn:∀x∈l,0≤x.no∧x.no<137438953472)(H:AH):
  ∃r H',(SV Aw 9 (Ce size l) r∧Grew H H')∧BCall prog 86 [.agg [I size,v]] H r H':=Vj (by
 unfold Vi;have ov:=SV.oneA hv;have e1:A8 H (.agg [I size,v])=some (.ptr H.length 0,H++[some (.cells [I size,v])]):=by simp[ov]
 have g1:=Grew.app H [some (AObj.cells [I size,v])];have top:=CT (H:=H) (x:=AObj.cells [I size,v]);simp only[e1,A1,rL,Al top,hv.len];generalize (H++[some (AObj.cells [I size,v])])=H1 at*;refine O7 (λn x1 x6 x7 x8 H'=>∃k:Nat,k+n=l.length∧x1=.ptr H.length 0∧v=x6∧x7=I l.length∧x8=I k∧Grew H1 H'∧∀m y,m<k→l[m]?=some y→y.no*8<size) ?_ l.length ⟨0,by omega,rfl,rfl,rfl,rfl,Grew.refl _,by omega⟩;rintro n x1 x6 x7 x8 H3 R hR ⟨k,hk,rfl,rfl,rfl,rfl,g3,hno⟩;unfold LP;have top3:=g3.cells top;simp only[rX];rcases tD k l.length with hlt | hge
 ·have hx:=E5 hlt
  generalize l[k]=x at hx;have hxn:=hn x (tB hx)
  have q0:∀t,Ar true 9 H3 (.ip (Aw x++t))=some (.agg (Aw x)):=λt=>by
   show Am true 9 (Aw x++t) 0=_
   rw[Fa (by rw[tH,A2];omega),uA,tJ (by rw[A2];omega),sZ (by rw[A2];omega)]
  have e3:A8 H3 (.agg [(I 0),u0Z,u0Z,u0Z,u0Z,u0Z,u0Z,u0Z,u0Z])=some (.ptr H3.length 0,H3++[some (.cells [I 0,u0Z,u0Z,u0Z,u0Z,u0Z,u0Z,u0Z,u0Z])]):=rfl
  have e4:AU 9 (H3++[some (AObj.cells [I 0,u0Z,u0Z,u0Z,u0Z,u0Z,u0Z,u0Z,u0Z])]) (.ptr H3.length 0) (.agg (Aw x))=some (H3++[some (.cells (Aw x))]):=by
   rw[A6 (n:=9) (xs:=Aw x) (cs:=[I 0,u0Z,u0Z,u0Z,u0Z,u0Z,u0Z,u0Z,u0Z]) (by simp) CT (A2 x) (by simp)];rw[DT _ _ _ (by simp[A2]),vF,uS,tQ (by simp[A2]),uI];simp
  have g4:=Grew.app H3 [some (AObj.cells (Aw x))];have i0:(Aw x)[0]?=some (I x.no):=rfl;simp only[show(k:Int)<(l.length:Int) by omega,rI,hv.idx A2 hx rfl,rL,q0,e3,rT,e4,Al CT,Al (g4.cells top3),i0,HH (a:=x.no) (b:=8) (by omega) (by omega),GG,Ag]
  by_cases c:x.no*8<size
  ·simp only[show ¬size≤x.no*8 by omega,sI,Az (a:=(k:Int)) (b:=1) (by omega) (by omega)]
   refine hR (n - 1) _ _ _ _ _ (by omega) ⟨k+1,by omega,rfl,rfl,rfl,by simp,g3.trans g4,?_⟩;intro m z hm hz
   by_cases c2:m=k
   ·rw[c2,hx]at hz;injection hz with hz;rw[← hz];exact c
   ·exact hno m z (by omega) hz
  ·obtain⟨w,s1,s2⟩:=hv.cutX (lo:=none) (hi:=some (I (k:Int))) (a:=0) (k:=k) rfl (by simp[Bk]) (by omega) (by omega)
   rw[uA,Nat.sub_zero]at s2;simp only[show size≤x.no*8 by omega,rI,s1,Ab];rw[Q7 hno hx c];exact⟨s2,g1.trans (g3.trans g4)⟩
 ·have:Ce size l=l:=SI λy hy=>by
   obtain⟨m,hm⟩:=tK.1 hy
   have:=(B5.1 hm).1
   exact hno m y (by omega) hm
  simp only[show ¬(k:Int)<(l.length:Int) by omega,rF,rL,Al top3];rw[this];exact⟨hv,g1.trans g3⟩)
end
end Go.Proofs.YtbppnhenlboefaaGreat.Av
section
set_option maxHeartbeats 1000000
namespace Go.Proofs.YtbppnhenlboefaaGreat.Av
open Go Go.RowKit Go.Proofs.Tryz
def Mq (b:List UInt8):Prop:=∀c∈b,c=0
instance (b:List UInt8):Decidable (Mq b):=by unfold Mq;infer_instance
theorem iM {b:List UInt8}{v:AV}{H:AH}(hv:Aa H 1 v=some (AY b,b.length))(hl:b.length≤1000000):
  ∃i:Int,(i<b.length↔¬Mq b)∧BCall prog 199 [v] H (I i) H:=by
 obtain⟨r,H',⟨⟨i,rfl,hi⟩,rfl⟩,hc⟩:=Uy (a0:=v) (H:=H) (K:=λr H'=>(∃i:Int,r=I i∧(i<b.length↔¬Mq b))∧H'=H) (by
  unfold T4;refine NZ (λn x0 x3 H'=>∃k:Nat,k+n=b.length∧x0=v∧x3=I k∧H'=H∧∀m y,m<k→b[m]?=some y→y=0) ?_ b.length ⟨0,by omega,rfl,rfl,rfl,by omega⟩;rintro n x0 x3 H' R hR ⟨k,hk,rfl,rfl,rfl,hb⟩;unfold Ld;simp only[Bz hv,Ab,Bq,AZ];rcases tD k b.length with h | h
  ·have hx:=E5 h
   generalize b[k]=y at hx;have hv':Aa H' 1 x0=some (b.flatMap QN,b.length):=by rw[OI];exact hv
   obtain⟨p,p1,p2⟩:=MC (enc:=QN) (f:=fun t:UInt8=>.lit (.int .u8 t.toNat)) (λ_=>rfl) hv' hx;simp only[show(k:Int)<(b.length:Int) by omega,rE,qY,rA,p1,p2,FQ,A4]
   by_cases c:y=0
   ·have c':((y.toNat:Int)=0):=by rw[c];rfl
    simp only[c',rI,Az (a:=(k:Int)) (b:=1) (by omega) (by omega),Ab];refine hR (n - 1) _ _ _ (by omega) ⟨k+1,by omega,rfl,by simp,rfl,?_⟩;intro m z hm hz
    by_cases c2:m=k
    ·rw[c2,hx]at hz;injection hz with hz;rw[← hz];exact c
    ·exact hb m z (by omega) hz
   ·have c':¬((y.toNat:Int)=0):=λe=>c (UInt8.toNat_inj.1 (by rw[show(0:UInt8).toNat=0 from rfl];omega))
    simp only[c',rF];exact⟨⟨k,by trivial,λ_ hz=>c (hz y (tB hx)),λ_=>by omega⟩,by trivial⟩
  ·simp only[show ¬(k:Int)<(b.length:Int) by omega,rF,show((false==true)=false)from rfl,Cn,rA,sU]
   refine⟨⟨k,by trivial,λh=>by omega,λhm=>absurd (λc hc=>?_) hm⟩,by trivial⟩;obtain⟨m,hm⟩:=tK.1 hc
   have:=(B5.1 hm).1
   exact hb m c (by omega) hm)
 exact⟨i,hi,hc⟩
theorem iR {b:List UInt8}{v w:AV}{H:AH}(hw:Aa H 1 w=some ([v],1))(hv:Aa H 1 v=some (AY b,b.length))(hl:b.length≤1000000):BCall prog 162 [w] H (B (decide (Mq b))) H:=by
 obtain⟨r,H',⟨rfl,rfl⟩,hc⟩:=Uz (a0:=w) (H:=H) (K:=λr H'=>r=B (decide (Mq b))∧H'=H) (by
  unfold T5;simp only[Bz hw,Ab];refine Oc (λn x5 x6 x7 H'=>x5=w∧x6=I 1∧H'=H∧((n=1∧x7=I 0)∨(n=0∧x7=I 1∧Mq b))) ?_ 1 ⟨rfl,rfl,rfl,.inl ⟨rfl,rfl⟩⟩;rintro n x5 x6 x7 H' R hR ⟨rfl,rfl,rfl,⟨rfl,rfl⟩ | ⟨rfl,rfl,hz⟩⟩
  ·unfold Hw
   obtain⟨p,c,h1,h2,h3,h4⟩:=Iw hw (i:=0) (k:=0) rfl (by omega)
   have p2:Ar false 1 H' p=some v:=by
    rw[Ov h2 (by omega) h4,Ai]
    have:=congrArg (λl=>l[0]?) h3
    simpa[tF]using this
   have h1:Bv 1 x5 (I 0)=some p:=h1;obtain⟨i,hi,hc⟩:=iM hv hl;simp only[rX,show decide ((0:Int)<1)=true from rfl,Ap,h1,p2];refine bC_of hc ?_;simp only[Bz hv,rX]
   by_cases c:Mq b
   ·simp only[show ¬i<(b.length:Int)from λh=>hi.1 h c,sI,show Ax .add (I 0) (I 1)=some (I 1)from rfl]
    exact hR 0 _ _ _ _ (by omega) ⟨rfl,rfl,rfl,.inr ⟨rfl,rfl,c⟩⟩
   ·simp only[hi.2 c,rI,c,Dp]
    exact⟨by trivial,by trivial⟩
  ·unfold Hw
   simp only[rX,sD,hz,D5];exact⟨by trivial,by trivial⟩)
 exact hc
def YO (to size:Int)(s:StS)(no:Int)(b:List UInt8):Int×StS:=
 ((Cs s to (no*8) (b.take (min 8 (size - no*8)).toNat)).1.2,(Cs s to (no*8) (b.take (min 8 (size - no*8)).toNat)).2)
theorem TC {N:Nat}{s:StS}(h:SW N s)(to size no:Int){b:List UInt8}(hb:b.length=8):SW (N+72) (YO to size s no b).2:=by
 unfold YO
 have:=Se h to (no*8) (b.take (min 8 (size - no*8)).toNat)
 refine this.mono ?_;rw[sX];omega
theorem SN {N:Nat}{s:StS}{os co:Nat}{p v vl:AV}{fr to size no:Int}{b:List UInt8}{H:AH}(h:StAt s os p H)(hw:SW N s)(cb:Bes co [.ptr os 0,I fr,I to,I size,vl] os p H)(hN:N+72<900000)
  (hv:Aa H 1 v=some (AY b,8)) (hb:b.length=8) (hi:∀j∈AP v,j≠os∧j∉AP p) (h0:0≤no) (h1:no*8<size) (h2:size≤1099511627776):
  ∃r H',(r=I (YO to size s no b).1∧∃p',StAt (YO to size s no b).2 os p' H'∧StF os p p' H H')∧BCall prog 161 [.ptr co 0,I no,v] H r H':=Mz (by
 unfold J6;have e1:amm U9 [(I 8),I (size - no*8)]=some (I (min 8 (size - no*8))):=by rw[MX,ZS,Int.min_comm]
 obtain⟨m,hm⟩:∃m:Nat,min 8 (size - no*8)=m:=⟨(min 8 (size - no*8)).toNat,by omega⟩;obtain⟨w,s1,s2,s3,-,-⟩:=Eu hv (lo:=none) (hi:=some (I (m:Int))) (l:=0) (k:=m) rfl (by simp[Bk]) (by omega) (by omega);have hl:(b.take m).length=m:=by rw[sX];omega
 have s2:Aa H 1 w=some (AY (b.take m),(b.take m).length):=by
  rw[s2,hl];simp only[Nat.zero_mul,sG,vM,OB]
 obtain⟨r,H1,⟨rfl,p',h',f'⟩,hc⟩:=Xa h hw to (no*8) (b:=b.take m) (by omega) s2 (λj hj=>hi j (s3 j hj));simp only[rY,Nat.reduceAdd,Al cb.at',HH (a:=no) (b:=8) (by omega) (by omega),Ci (a:=size) (b:=no*8) (by omega) (by omega),e1,hm,s1];refine bC_of hc ?_;simp only[rV,Ab];unfold YO;rw[hm,wF];exact⟨by trivial,p',h',f'⟩)
theorem dC (H:AH)(x:Ext):A8 H (.agg [(I 0),u0Z,u0Z,u0Z,u0Z,u0Z,u0Z,u0Z,u0Z])=some (.ptr H.length 0,H++[some (.cells [I 0,u0Z,u0Z,u0Z,u0Z,u0Z,u0Z,u0Z,u0Z])])∧
  AU 9 (H++[some (AObj.cells [I 0,u0Z,u0Z,u0Z,u0Z,u0Z,u0Z,u0Z,u0Z])]) (.ptr H.length 0) (.agg (Aw x))=some (H++[some (.cells (Aw x))]):=by
 refine⟨rfl,?_⟩;rw[A6 (n:=9) (xs:=Aw x) (cs:=[I 0,u0Z,u0Z,u0Z,u0Z,u0Z,u0Z,u0Z,u0Z]) (by simp) CT (A2 x) (by simp)];rw[DT _ _ _ (by simp[A2]),vF,uS,tQ (by simp[A2]),uI];simp
theorem rdE (H:AH)(x:Ext)(t:List AV):Ar true 9 H (.ip (Aw x++t))=some (.agg (Aw x)):=by
 show Am true 9 (Aw x++t) 0=_
 rw[Fa (by rw[tH,A2];omega),uA,tJ (by rw[A2];omega),sZ (by rw[A2];omega)]
theorem Zs {H:AH}{o:Nat}{x:Ext}(h:H[o]?=some (some (.cells (Aw x)))):Nj 8 1 H (.ptr o 1) none none=some (.sl o 1 8 1 (.ex 8))∧Aa H 1 (.sl o 1 8 1 (.ex 8))=some (AY x.b,8):=by
 constructor
 ·simp[Nj,Bk,h,A2]
 ·rw[AA h (by rw[A2];omega)]
  have:((Aw x).drop 1).take (8*1)=AY x.b:=by
   show(AY x.b).take 8=AY x.b
   rw[sZ (by rw[C2,x.hb];omega)]
  rw[this]
def In (to size:Int):List Ext→StS→Int×StS
 | [],s=>(0,s)
 | x::l,s=>if Mq x.b then In to size l s else if(YO to size s x.no x.b).1≠0 then YO to size s x.no x.b else In to size l (YO to size s x.no x.b).2
theorem eS {N:Nat}{s:StS}{os co:Nat}{p vl:AV}{fr to size:Int}{l:List Ext}{H:AH}(h:StAt s os p H)(hw:SW N s)(cb:Bes co [.ptr os 0,I fr,I to,I size,vl] os p H)(hv:SV Aw 9 l vl)(hl:l.length≤1000000)(hn:∀x∈l,0≤x.no∧x.no<137438953472)(h2:size≤1099511627776)
  (hN:N+72*(Ce size l).length<900000):∃r H',(r=I (In to size (Ce size l) s).1∧∃p',StAt (In to size (Ce size l) s).2 os p' H'∧StF os p p' H H')∧BCall prog 90 [.ptr co 0] H r H':=My (by
 unfold J5;have i3:Am true 2 [(AV.ptr os 0),I fr,I to,I size,vl] 3=some (.agg [I size,vl]):=rfl;simp only[sT,Al cb.at',i3];obtain⟨w,H1,⟨hw1,g1⟩,hc⟩:=TV (size:=size) hv hl hn H;refine bC_of hc ?_
 have bl:∀x∈Ce size l,0≤x.no∧x.no*8<size:=by
  clear hN hv hw1 hc hl
  induction l with
  | nil=>intro x hx;simp[Ce]at hx
  | cons y l ih=>
   intro x hx;unfold Ce at hx;split at hx
   ·rename_i hy
    rcases tU.1 hx with rfl | hx
    ·exact⟨(hn x (by simp)).1,hy⟩
    ·exact ih (λz hz=>hn z (by simp[hz])) x hx
   ·simp at hx
 have hbl:=I0 size l;generalize Ce size l=L at*;simp only[hw1.len,Ab];generalize hRES:In to size L s=RES;refine I7 (λn x0 x10 x11 x12 H'=>∃(k:Nat) (s':StS) (p':AV),k+n=L.length∧x0=.ptr co 0∧w=x10∧x11=I L.length∧x12=I k∧StAt s' os p' H'∧StF os p p' H H'∧SW (N+72*k) s'∧Bes co [.ptr os 0,I fr,I to,I size,vl] os p' H'∧In to size (L.drop k) s'=RES) ?_ L.length
  ⟨0,s,p,by omega,rfl,rfl,rfl,rfl,h.grew g1,(StF.refl os p H).grew g1,hw,cb.grew g1,by simpa using hRES⟩
 rintro n x0 x10 x11 x12 H3 R hR ⟨k,s',p',hk,rfl,rfl,rfl,rfl,h3,f3,w3,cb3,hres⟩;unfold Gc;simp only[rX];rcases tD k L.length with hlt | hge
 ·have hx:=E5 hlt
  generalize L[k]=x at hx;obtain⟨b1,b2⟩:=bl x (tB hx);obtain⟨n1,n2⟩:=dC H3 x;have g4:=Grew.app H3 [some (AObj.cells (Aw x))];have bx:=Bes.new h3 (Aw x);rw[DS hx]at hres;unfold In at hres;have l4:(H3++[some (AObj.cells (Aw x))]).length=H3.length+1:=by simp
  have h4:=h3.grew g4;have cb4:=cb3.grew g4;simp only[show(k:Int)<(L.length:Int) by omega,rI,hw1.idx A2 hx rfl,rH,rdE,n1,rT,n2];generalize (H3++[some (AObj.cells (Aw x))])=H4 at*;generalize H3.length=xo at*;obtain⟨s1,s2⟩:=Zs bx.at';have e5:Dh H4 1 1 (Bo [Ad] 1) [(0,1,.sl xo 1 8 1 (.ex 8))]=some (.sl H4.length 0 1 1 (.ex 1),H4++[some (.cells [.sl xo 1 8 1 (.ex 8)])]):=rfl;have g5:=Grew.app H4 [some (AObj.cells [AV.sl xo 1 8 1 (.ex 8)])]
  have z1:Aa (H4++[some (AObj.cells [AV.sl xo 1 8 1 (.ex 8)])]) 1 (.sl H4.length 0 1 1 (.ex 1))=some ([AV.sl xo 1 8 1 (.ex 8)],1):=by
   rw[AA CT (by simp)];rfl
  have z2:=g5.slice s2;simp only[s1,Ab,e5,A1];refine bC_of (iR z1 (b:=x.b) (by rw[x.hb];exact z2) (by rw[x.hb];omega)) ?_;have h5:=h4.grew g5;have cb5:=cb4.grew g5;have bx5:=bx.grew g5;have f5:=(f3.grew g4).grew g5;have q1:Ax .add (I (k:Int)) (I 1)=some (I ((k+1:Nat):Int)):=by rw[Az (by omega) (by omega)];congr 3
  simp only[Ag]
  by_cases c:Mq x.b
  ·rw[if_pos c]at hres
   simp only[c,rI];rw[FB];unfold Eh;simp only[q1,Ab];exact hR (n - 1) _ _ _ _ _ (by omega) ⟨k+1,s',p',by omega,rfl,rfl,rfl,rfl,h5,f5,w3.mono (by omega),cb5,hres⟩
  ·rw[if_neg c]at hres
   obtain⟨s3,s4⟩:=Zs bx5.at';have i0:(Aw x)[0]?=some (I x.no):=rfl;simp only[c,sI,Al bx5.at',Ai,i0,s3]
   obtain⟨r,H6,⟨rfl,p6,h6,f6⟩,hc⟩:=SN (no:=x.no) h5 w3 cb5 (by omega) s4 x.hb (by
    intro j hj;simp only[AP,vJ]at hj;subst hj;exact⟨bx5.ne,bx5.np⟩) b1 b2 h2
   refine bC_of hc ?_;simp only[sK]
   by_cases c2:(YO to size s' x.no x.b).1=0
   ·rw[if_neg (λz=>z c2)]at hres
    simp only[c2,qW,rF];rw[FB];unfold Eh;simp only[q1,Ab];exact hR (n - 1) _ _ _ _ _ (by omega) ⟨k+1,_,p6,by omega,rfl,rfl,rfl,rfl,h6,f5.trans f6,(TC w3 to size x.no x.hb).mono (by omega),cb5.step f6,hres⟩
   ·rw[if_pos c2]at hres
    simp only[c2,qX,rI];rw[← hres];exact⟨by trivial,p6,h6,f5.trans f6⟩
 ·have ek:L.drop k=[]:=tQ hge
  rw[ek]at hres;simp only[show ¬(k:Int)<(L.length:Int) by omega,rF];rw[← hres];exact⟨by trivial,p',h3,f3⟩)
end Go.Proofs.YtbppnhenlboefaaGreat.Av
end
section
set_option maxHeartbeats 1000000
namespace Go.Proofs.YtbppnhenlboefaaGreat.Av
open Go Go.RowKit Go.Proofs.Tryz
def z8:List UInt8:=[0,0,0,0,0,0,0,0]
def Mm (no:Int):List Ext→List UInt8×List Ext
 | []=>(z8,[])
 | x::l=>if x.no=no then(x.b,l)else(z8,x::l)
def Sk (to size:Int):Nat→Int→List Ext→StS→Int×StS
 | 0,_,_,s=>(0,s)
 | n+1,no,l,s=>if(YO to size s no (Mm no l).1).1≠0 then YO to size s no (Mm no l).1 else Sk to size n (no+1) (Mm no l).2 (YO to size s no (Mm no l).1).2
def Il (size:Int):Int:=(size+7)/8
theorem OZ (no:Int)(l:List Ext):(Mm no l).1.length=8:=by
 unfold Mm
 split
 ·rfl
 ·split
  ·rename_i x l h;exact x.hb
  ·rfl
theorem Xr {size:Int}(h0:0≤size)(h2:size≤1099511627776):BPure prog 87 [I size] (I (Il size)):=BPure.flat λH=>Vl (by
 unfold Vk;simp only[Az (a:=size) (b:=8) (by omega) (by omega),Ci (a:=size+8) (b:=1) (by omega) (by omega),MQ (a:=size+8 - 1) (b:=8) (by omega) (by omega) (by omega),Ab];unfold Il;exact⟨by rw[show size+8 - 1=size+7 by omega],by trivial⟩)
theorem qV (H:AH)(x:Ext)(t:List AV):Ar true 8 H (.ip ((Aw x++t).drop 1))=some (.agg (AY x.b)):=by
 show Am true 8 (AY x.b++t) 0=_
 have hl:(AY x.b).length=8:=by rw[C2,x.hb]
 rw[Fa (by rw[tH,hl];omega),uA,tJ (by omega),sZ (by omega)]
theorem lH {H:AH}{o:Nat}{b:List UInt8}(hb:b.length=8)(h:H[o]?=some (some (.cells (AY b)))):Nj 8 1 H (.ptr o 0) none none=some (.sl o 0 8 1 (.ex 8))∧Aa H 1 (.sl o 0 8 1 (.ex 8))=some (AY b,8):=by
 have hl:(AY b).length=8:=by rw[C2,hb]
 constructor
 ·simp[Nj,Bk,h,hl]
 ·rw[AA h (by omega),uA,sZ (by omega)]
theorem nC {N:Nat}{s:StS}{os co:Nat}{p vl:AV}{fr to size:Int}{l:List Ext}{H:AH}(h:StAt s os p H)(hw:SW N s)(cb:Bes co [.ptr os 0,I fr,I to,I size,vl] os p H)(hv:SV Aw 9 l vl)(hl:l.length≤1000000)(hn:∀x∈l,0≤x.no∧x.no<137438953472)(h0:0≤size)(h2:size≤32768)
  (hN:N+72*(Il size).toNat<900000):∃r H',(r=I (Sk to size (Il size).toNat 0 (Ce size l) s).1∧∃p',StAt (Sk to size (Il size).toNat 0 (Ce size l) s).2 os p' H'∧StF os p p' H H')∧BCall prog 89 [.ptr co 0] H r H':=O8 (by
 unfold LS;have i3:Am true 2 [(AV.ptr os 0),I fr,I to,I size,vl] 3=some (.agg [I size,vl]):=rfl;simp only[sT,Al cb.at',i3];obtain⟨w,H1,⟨hw1,g1⟩,hc⟩:=TV (size:=size) hv hl hn H;refine bC_of hc ?_;have hbl:=I0 size l;generalize Ce size l=L at*;have cb1:=cb.grew g1;simp only[rY,Nat.reduceAdd,Al cb1.at'];refine A3 (Xr h0 (by omega)) ?_
 have hcnt:Il size=((Il size).toNat:Int)∧∀k:Nat,k<(Il size).toNat→(k:Int)*8<size:=by
  unfold Il;exact⟨by omega,λk hk=>by omega⟩
 obtain⟨hc1,hc2⟩:=hcnt;have hc3:(Il size).toNat≤4096:=by unfold Il;omega
 rw[hc1];simp only[wF]at hN⊢;generalize (Il size).toNat=C at*;generalize hRES:Sk to size C 0 L s=RES;refine JU (λn x0 x3 x17 x18 H'=>∃(k:Nat) (s':StS) (p':AV) (l':List Ext),k+n=C∧x0=.ptr co 0∧SV Aw 9 l' x3∧l'.length≤1000000∧x17=I C∧x18=I k∧StAt s' os p' H'∧StF os p p' H H'∧SW (N+72*k) s'∧Bes co [.ptr os 0,I fr,I to,I size,vl] os p' H'∧Sk to size n k l' s'=RES) ?_ C
  ⟨0,s,p,L,by omega,rfl,hw1,by omega,rfl,rfl,h.grew g1,(StF.refl os p H).grew g1,hw,cb1,hRES⟩
 rintro n x0 x3 x17 x18 H3 R hR ⟨k,s',p',l',hk,rfl,hv',hl',rfl,rfl,h3,f3,w3,cb3,hres⟩;unfold Hb;simp only[rX];rcases tD k C with hlt | hge
 ·obtain⟨m,rfl⟩:∃m,n=m+1:=⟨n - 1,by omega⟩
  unfold Sk at hres;have e1:A8 H3 (.agg [u0Z,u0Z,u0Z,u0Z,u0Z,u0Z,u0Z,u0Z])=some (.ptr H3.length 0,H3++[some (.cells (AY z8))]):=rfl;have q1:Ax .add (I (k:Int)) (I 1)=some (I ((k+1:Nat):Int)):=by rw[Az (by omega) (by omega)];congr 3
  -- what is done with the bytes
  have go:∀(b:List UInt8) (l2:List Ext) (x3':AV),b=(Mm k l').1→l2=(Mm k l').2→SV Aw 9 l2 x3'→l2.length≤1000000→DX R (.ptr co 0) x3' (I (k:Int)) (.ptr H3.length 0) (I (C:Int)) (I (k:Int)) (H3++[some (.cells (AY b))]) (λr H'=>r=I RES.1∧∃p',StAt RES.2 os p' H'∧StF os p p' H H'):=by
   intro b l2 x3' hb hl2 hv2 hlen2;have hb8:b.length=8:=by rw[hb];exact OZ _ _
   rw[← hb,← hl2]at hres;have g4:=Grew.app H3 [some (AObj.cells (AY b))];have bx:=Bes.new h3 (AY b);obtain⟨s1,s2⟩:=lH hb8 bx.at';rw[Ks];unfold G5;simp only[s1,Ab]
   obtain⟨r,H6,⟨rfl,p6,h6,f6⟩,hc⟩:=SN (no:=(k:Int)) (h3.grew g4) w3 (cb3.grew g4) (by omega) s2 hb8 (by
    intro j hj;simp only[AP,vJ]at hj;subst hj;exact⟨bx.ne,bx.np⟩) (by omega) (hc2 k hlt) (by omega)
   refine bC_of hc ?_;rw[Kt];unfold G6;simp only[CA,Ab];rw[Ku];unfold G7;simp only[Ag]
   by_cases c2:(YO to size s' k b).1=0
   ·rw[if_neg (λz=>z c2)]at hres
    simp only[c2,qW,rF];rw[L8];unfold Ha;simp only[q1,Ab];exact hR m _ _ _ _ _ (by omega) ⟨k+1,_,p6,l2,by omega,rfl,hv2,hlen2,rfl,rfl,h6,(f3.grew g4).trans f6,(TC w3 to size k hb8).mono (by omega),(cb3.grew g4).step f6,hres⟩
   ·rw[if_pos c2]at hres
    simp only[c2,qX,rI];rw[← hres];exact⟨by trivial,p6,h6,(f3.grew g4).trans f6⟩
  simp only[show(k:Int)<(C:Int) by omega,rI,e1,A1,hv'.len,Ab,MP,AZ];cases l' with
  | nil=>
   simp only[vN,Int.ofNat_zero,Int.cast_ofNat_Int,sD,show((false==true)=false)from rfl,Cn,rA,sU];exact go z8 [] x3 rfl rfl hv' (by simp)
  | cons x l'=>
   have ix:=hv'.idx (i:=0) A2 (k:=0) (x:=x) rfl rfl;have i0:∀t,Ar false 1 (H3++[some (.cells (AY z8))]) (.ip (Aw x++t))=some (I x.no):=λ_=>rfl
   have sh0:∀t,Ac 0 (.ip (Aw x++t))=some (.ip (Aw x++t)):=λ_=>rfl
   have sh1:∀t,Ac 1 (.ip (Aw x++t))=some (.ip ((Aw x++t).drop 1)):=λ_=>rfl
   simp only[tP,show(0:Int)<((l'.length+1:Nat):Int) by omega,rE,qY,rA,ix,sh0,i0,FQ,A4];simp only[tP]at hl'
   by_cases c:x.no=(k:Int)
   ·obtain⟨w2,t1,t2⟩:=hv'.cutX (lo:=some (I 1)) (hi:=none) (a:=1) (k:=l'.length+1) (by simp[Bk]) rfl (by omega) (by simp)
    have t2:SV Aw 9 l' w2:=by
     rw[wL,uA,Nat.add_sub_cancel,wI]at t2;exact t2
    have e4:AU 8 (H3++[some (AObj.cells (AY z8))]) (.ptr H3.length 0) (.agg (AY x.b))=some (H3++[some (.cells (AY x.b))]):=by
     have hl8:(AY x.b).length=8:=by rw[C2,x.hb]
     rw[A6 (n:=8) (xs:=AY x.b) (cs:=AY z8) (by simp[Vr]) CT hl8 (by simp[C2,z8])];rw[DT _ _ _ (by simp[C2,z8,x.hb]),vF,uS,tQ (by simp[C2,z8,x.hb]),uI];simp
    simp only[c,rI,sh1,qV,Ab,t1,e4,AE,true_and];have pk:Mm (k:Int) (x::l')=(x.b,l'):=if_pos c;exact go x.b l' w2 (by rw[pk]) (by rw[pk]) t2 (by omega)
   ·simp only[c,rF]
    have pk:Mm (k:Int) (x::l')=(z8,x::l'):=if_neg c;exact go z8 (x::l') x3 (by rw[pk]) (by rw[pk]) hv' (by simp;omega)
 ·have en:n=0:=by omega
  subst en;unfold Sk at hres;simp only[show ¬(k:Int)<(C:Int) by omega,rF];rw[← hres];exact⟨by trivial,p',h3,f3⟩)
end Go.Proofs.YtbppnhenlboefaaGreat.Av
end
section
set_option maxHeartbeats 1000000
namespace Go.Proofs.YtbppnhenlboefaaGreat.Av
open Go Go.RowKit Go.Proofs.Tryz
def Cx (s:StS)(nm:List UInt8):Int×Int×StS:=
 if(Bc s nm true).1.2≠0 then((Bc s nm true).1.2,0,(Bc s nm true).2)else((Es (Bc s nm true).2 (Bc s nm true).1.1 0).1,(Bc s nm true).1.1,(Es (Bc s nm true).2 (Bc s nm true).1.1 0).2)
theorem SM {N:Nat}{s:StS}(h:SW N s)(nm:List UInt8):SW (N+2) (Cx s nm).2.2:=by
 have w1:=Ql h nm true;unfold Cx
 split
 ·exact w1.mono (by omega)
 ·exact Oi w1 _ _
theorem Z3 {N:Nat}{s:StS}{os co:Nat}{p0 p vl:AV}{fr to size:Int}{H0 H:AH}{nm:List UInt8}(h:StAt s os p H)(hw:SW N s)(hN:N+2<900000)(hnm:nm.length≤9223372036854775807)(f0:StF os p0 p H0 H)(hco:H0.length≤co)(cb:Bes co [.ptr os 0,I fr,I to,I size,vl] os p H)(ovl:oneA vl=true):
  ∃r H',(r=I (Cx s nm).1∧∃p',StAt (Cx s nm).2.2 os p' H'∧StF os p0 p' H0 H'∧((Cx s nm).1=0→Bes co [.ptr os 0,I fr,I (Cx s nm).2.1,I size,vl] os p' H'))∧BCall prog 88 [.ptr co 0,S (As nm)] H r H':=Np (by
 unfold Kv;simp only[rY,Al cb.at'];obtain⟨r,H1,⟨rfl,p1,h1,f1⟩,hc⟩:=Wi h hw (by omega) hnm true;have w1:=Ql hw nm true;refine bC_of hc ?_;unfold Cx;have cb1:=cb.step f1;generalize Bc s nm true=O at*;simp only[rV,sK]
 by_cases c1:O.1.2=0
 rotate_left
 ·simp only[c1,qX,sS]
  exact⟨by trivial,p1,h1,f0.trans f1,λz=>z.elim⟩
 have hlt:=(B5.1 cb1.at').1
 have e2:AU 1 H1 (.ptr co 2) (I O.1.1)=some (H1.set co (some (.cells [.ptr os 0,I fr,I O.1.1,I size,vl]))):=by
  rw[A6 (n:=1) (xs:=[I O.1.1]) (cs:=[.ptr os 0,I fr,I to,I size,vl]) rfl cb1.at' rfl (by simp)];rfl
 have ne2:∀i,i≠co→(H1.set co (some (.cells [.ptr os 0,I fr,I O.1.1,I size,vl])))[i]?=H1[i]?:=λi hi=>Co (uC hi)
 have h2:StAt O.2 os p1 (H1.set co (some (.cells [.ptr os 0,I fr,I O.1.1,I size,vl]))):=by
  obtain⟨a,b,c,d,pv,q⟩:=h1;exact⟨a,b,c,d,pv,(ne2 os (uC cb1.ne)).trans q.obj,q.now,q.kept,q.pm,Ae q.ps λi hi=>ne2 i (λe=>cb1.np (e▸hi)),q.po,q.pi,q.pc⟩
 have cb2:Bes co [.ptr os 0,I fr,I O.1.1,I size,vl] os p1 (H1.set co (some (.cells [.ptr os 0,I fr,I O.1.1,I size,vl]))):=⟨IJ hlt,cb1.ne,cb1.np⟩
 have f2:StF os p0 p1 H0 (H1.set co (some (.cells [.ptr os 0,I fr,I O.1.1,I size,vl]))):=by
  have f:=f0.trans f1;exact⟨by rw[tM];exact f.len,λj a b c=>by rw[ne2 j (by omega)];exact f.same j a b c,f.ids⟩
 simp only[c1,rM,rF,Aq,rJ,e2,AE,Al cb2.at',Dt];obtain⟨r,H3,⟨rfl,p3,h3,f3⟩,hc⟩:=TF h2 w1 (by omega) O.1.1 0;refine bC_of hc ?_;exact⟨by trivial,p3,h3,f2.trans f3,λ_=>cb2.step f3⟩)
def Jq (way:Tx)(c:F9):Prop:=way=Lm∨(way=J2∧((Ce c.1 c.2).length:Int)<Il c.1)
instance (way:Tx) (c:F9):Decidable (Jq way c):=by unfold Jq;infer_instance
def QE (hl:Bool)(to:Int)(c:F9)(s:StS):Int×StS:=
 if hl=true then In to c.1 (Ce c.1 c.2) s else Sk to c.1 (Il c.1).toNat 0 (Ce c.1 c.2) s
def Ty (hl:Bool)(s:StS)(nm:Tx)(c:F9):Int×StS:=
 if hl=false∧32768<c.1 then(4,s)
 else if(Cx s nm).1≠0 then((Cx s nm).1,(Cx s nm).2.2)
 else if(QE hl (Cx s nm).2.1 c (Cx s nm).2.2).1≠0 then QE hl (Cx s nm).2.1 c (Cx s nm).2.2
 else Es (QE hl (Cx s nm).2.1 c (Cx s nm).2.2).2 (Cx s nm).2.1 c.1
def Im (s:StS)(fr:Int)(nm way:Tx):Int×StS:=
 if(A9 s fr).2≠0 then((A9 s fr).2,s)else Ty (decide (Jq way (A9 s fr).1)) s nm (A9 s fr).1
theorem N3 {to size:Int}:∀{l:List Ext} {N:Nat} {s:StS},SW N s→SW (N+72*l.length) (In to size l s).2
 | [],N,s,h=>h
 | x::l,N,s,h=>by
  unfold In;simp only[tP]
  split
  ·exact(N3 (l:=l) h).mono (by omega)
  ·split
   ·exact(TC h to size x.no x.hb).mono (by omega)
   ·exact(N3 (l:=l) (TC h to size x.no x.hb)).mono (by omega)
theorem Wp {to size:Int}:∀{n:Nat} {no:Int} {l:List Ext} {N:Nat} {s:StS},SW N s→SW (N+72*n) (Sk to size n no l s).2
 | 0,no,l,N,s,h=>h
 | n+1,no,l,N,s,h=>by
  unfold Sk
  split
  ·exact(TC h to size no (OZ no l)).mono (by omega)
  ·exact(Wp (n:=n) (TC h to size no (OZ no l))).mono (by omega)
theorem Yu:Bs prog 90=true:=by kernel_rfl
theorem eQ:Bs prog 89=true:=by kernel_rfl
def XG (a0 a1 v59:AV)(H40:AH)(K:AV→AH→Prop):Prop:=
 bO (E4 .not v59) λv60=>bG v60 true λw61=>gO w61 (some a0) λv62=>bG v60 true λw63=>gO w63 (Af v62) λv64=>bG v60 true λw65=>gO w65 (Ac 3 v64) λv66=>bG v60 true λw67=>gO w67 (Ac 0 v66) λv68=>bG v60 true λw69=>gO w69 (Ar false 1 H40 v68) λv70=>bG v60 true λw71=>gO w71 (Ax .gtr v70 (I 32768)) λv72=>
  bO (AG v60 v72 (B false)) λv73=>bB v73 λt74=>bI t74 (K (I 4) H40)
   (bC (BCall prog 88 [a0,a1] H40) λv75 H76=>bO (Ax .neq v75 (I 0)) λv77=>bB v77 λt78=>bI t78 (K v75 H76)
    (bB v59 λt79=>bI t79 (CW a0 (.fn (.func 90) [a0] []) H76 K) (CW a0 (.fn (.func 89) [a0] []) H76 K)))
theorem Pb {N Bd:Nat}{s:StS}{os co:Nat}{p0 p R:AV}{fr to:Int}{c:F9}{H0 H:AH}{nm:Tx}(hl:Bool)(h:StAt s os p H)(hw:SW N s)(hB:c.2.length≤Bd)(hB2:4096≤Bd)(hN:N+10+72*Bd<900000)(hnm:nm.length≤9223372036854775807)(f0:StF os p0 p H0 H)(hco:H0.length≤co)(cb:Bes co [.ptr os 0,I fr,I to,I c.1,R] os p H)(hR:SV Aw 9 c.2 R)(hm:E1 c.1 c.2):
  XG (.ptr co 0) (S (As nm)) (B hl) H λr H'=>r=I (Ty hl s nm c).1∧∃p',StAt (Ty hl s nm c).2 os p' H'∧StF os p0 p' H0 H':=by
 obtain⟨m1,m2,m3,m4,-⟩:=OX.1 hm;have hn:∀x∈c.2,0≤x.no∧x.no<137438953472:=λx hx=>m4 x.no ⟨x,hx,rfl⟩
 have oR:=SV.oneA hR;have hbl:=I0 c.1 c.2;generalize hRES:Ty hl s nm c=RES;unfold Ty at hRES;unfold XG;obtain⟨r,H1,⟨rfl,p1,h1,f1,cb1⟩,hc⟩:=Z3 (nm:=nm) h hw (by omega) hnm f0 hco cb oR;have w1:=SM hw nm;generalize Cx s nm=O at*
 -- the copy's last step
 have fin:∀(W:Int×StS) (M:Nat) (p6:AV) (H6:AH),StAt W.2 os p6 H6→StF os p0 p6 H0 H6→Bes co [.ptr os 0,I fr,I O.2.1,I c.1,R] os p6 H6→SW M W.2→M<900000→(if W.1≠0 then W else Es W.2 O.2.1 c.1)=RES→
   Fr (.ptr co 0) (I W.1) H6 (λr H'=>r=I RES.1∧∃p',StAt RES.2 os p' H'∧StF os p0 p' H0 H'):=by
  intro W M p6 H6 h6 f6 cb6 w6 hM hres;rw[Kx];unfold G9;simp only[CA,Ab];rw[Ky];unfold GA;simp only[Ag]
  by_cases c2:W.1=0
  ·rw[if_neg (λz=>z c2)]at hres
   simp only[c2,qW,rF];rw[Kw];unfold G8;simp only[rY,Nat.reduceAdd,Al cb6.at'];obtain⟨r,H7,⟨rfl,p7,h7,f7⟩,hc⟩:=TF h6 w6 (by omega) O.2.1 c.1;refine bC_of hc ?_;rw[← hres];exact⟨by trivial,p7,h7,f6.trans f7⟩
  ·rw[if_pos c2]at hres
   simp only[c2,qX,rI];rw[← hres];exact⟨by trivial,p6,h6,f6⟩
 cases hl with
 | true=>
  rw[if_neg (by simp)]at hRES;simp only[rU,rD,sU,show((false==true)=false)from rfl,Cn];refine bC_of hc ?_;simp only[sK]
  by_cases c1:O.1=0
  ·rw[if_neg (λz=>z c1)]at hRES
   simp only[c1,qW,rF,Ap];rw[Gd];unfold E0;obtain⟨r,H2,⟨rfl,p2,h2,f2⟩,hc⟩:=eS h1 w1 (cb1 c1) hR (by omega) hn (by omega) (by omega);simp only[Xl,Yu,sO,uI,rP];refine bC_of hc ?_;have hw2:=N3 (to:=O.2.1) (size:=c.1) (l:=Ce c.1 c.2) w1;unfold QE at hRES;simp only[if_true]at hRES;exact fin _ _ p2 H2 h2 (f1.trans f2) ((cb1 c1).step f2) hw2 (by omega) hRES
  ·rw[if_pos c1]at hRES
   simp only[c1,qX,rI];rw[← hRES];exact⟨by trivial,p1,h1,f1⟩
 | false=>
  simp only[Bi,sM,rY,sB,qY,Al cb.at',MP,Ag,Ah]
  by_cases cg:32768<c.1
  ·rw[if_pos ⟨rfl,cg⟩]at hRES
   simp only[cg,rI];rw[← hRES];exact⟨by trivial,p,h,f0⟩
  rw[if_neg (λz=>cg z.2)]at hRES;simp only[cg,rF];refine bC_of hc ?_;simp only[sK]
  by_cases c1:O.1=0
  ·rw[if_neg (λz=>z c1)]at hRES
   simp only[c1,qW,rF];rw[Gd];unfold E0;have hcn:(Il c.1).toNat≤4096:=by unfold Il;omega
   obtain⟨r,H2,⟨rfl,p2,h2,f2⟩,hc⟩:=nC h1 w1 (cb1 c1) hR (by omega) hn m1 (by omega) (by omega);simp only[Xl,eQ,sO,uI,rP];refine bC_of hc ?_;have hw2:=Wp (to:=O.2.1) (size:=c.1) (n:=(Il c.1).toNat) (no:=0) (l:=Ce c.1 c.2) w1;unfold QE at hRES;simp only[At]at hRES;exact fin _ _ p2 H2 h2 (f1.trans f2) ((cb1 c1).step f2) hw2 (by omega) hRES
  ·rw[if_pos c1]at hRES
   simp only[c1,qX,rI];rw[← hRES];exact⟨by trivial,p1,h1,f1⟩
theorem dG {N Bd:Nat}{s:StS}{os co:Nat}{p0 p vl:AV}{fr to size:Int}{H0 H:AH}{nm way:Tx}(h:StAt s os p H)(hw:SW N s)(hB:(A9 s fr).1.2.length≤Bd)(hB2:4096≤Bd)(hN:N+10+72*Bd<900000)(hnm:nm.length≤9223372036854775807)(f0:StF os p0 p H0 H)(hco:H0.length≤co)(cb:Bes co [.ptr os 0,I fr,I to,I size,vl] os p H):
  ∃r H',(r=I (Im s fr nm way).1∧∃p',StAt (Im s fr nm way).2 os p' H'∧StF os p0 p' H0 H')∧BCall prog 39 [.ptr co 0,S (As nm),S (As way)] H r H':=O9 (by
 unfold LT;simp only[rY,Al cb.at'];obtain⟨r,H1,⟨rfl,g1⟩,hc⟩:=iO h hw (by omega) fr;refine bC_of hc ?_;unfold Im;simp only[rV,sK]
 by_cases c0:(A9 s fr).2=0
 rotate_left
 ·simp only[c0,qX,sS]
  exact⟨by trivial,p,h.grew g1,f0.grew g1⟩
 have h1:=h.grew g1;have cb1:=cb.grew g1;simp only[c0,rM,rF,rY,Al cb1.at'];obtain⟨r,H2,⟨⟨R,rfl,hR⟩,g2⟩,hc⟩:=Vh h1 hw (by omega) c0;refine bC_of hc ?_
 have hmay:E1 (A9 s fr).1.1 (A9 s fr).1.2:=by
  obtain⟨d,hd,-,hdc,-⟩:=Kr hw c0;rw[hdc];exact hw.now.1.mc d hd
 obtain⟨m1,m2,m3,m4,-⟩:=OX.1 hmay;have hn:∀x∈(A9 s fr).1.2,0≤x.no∧x.no<137438953472:=λx hx=>m4 x.no ⟨x,hx,rfl⟩
 generalize (A9 s fr).1=c at*;have h2:=h1.grew g2;have cb2:=cb1.grew g2;have oR:=SV.oneA hR;have hlt:=(B5.1 cb2.at').1
 have e2:AU 2 H2 (.ptr co 3) (.agg [I c.1,R])=some (H2.set co (some (.cells [.ptr os 0,I fr,I to,I c.1,R]))):=by
  rw[A6 (n:=2) (xs:=[I c.1,R]) (cs:=[.ptr os 0,I fr,I to,I size,vl]) (by simp[oR]) cb2.at' rfl (by simp)];rfl
 have ne2:∀i,i≠co→(H2.set co (some (.cells [.ptr os 0,I fr,I to,I c.1,R])))[i]?=H2[i]?:=λi hi=>Co (uC hi)
 have h3:StAt s os p (H2.set co (some (.cells [.ptr os 0,I fr,I to,I c.1,R]))):=by
  obtain⟨a,b,c',d,pv,q⟩:=h2;exact⟨a,b,c',d,pv,(ne2 os (uC cb2.ne)).trans q.obj,q.now,q.kept,q.pm,Ae q.ps λi hi=>ne2 i (λe=>cb2.np (e▸hi)),q.po,q.pi,q.pc⟩
 have cb3:Bes co [.ptr os 0,I fr,I to,I c.1,R] os p (H2.set co (some (.cells [.ptr os 0,I fr,I to,I c.1,R]))):=⟨IJ hlt,cb2.ne,cb2.np⟩
 have f3:StF os p0 p H0 (H2.set co (some (.cells [.ptr os 0,I fr,I to,I c.1,R]))):=by
  have f:=(f0.grew g1).grew g2;exact⟨by rw[tM];exact f.len,λj a b c=>by rw[ne2 j (by omega)];exact f.same j a b c,f.ids⟩
 have qa:(AV.lit (.string ⟨#[97,108,119,97,121,115]⟩))=S (As Lm):=rfl;have qu:(AV.lit (.string ⟨#[97,117,116,111]⟩))=S (As J2):=rfl;have i3:∀t:Int,Am true 2 [(AV.ptr os 0),I fr,I t,I c.1,R] 3=some (.agg [I c.1,R]):=λ_=>rfl
 simp only[sT,e2,AE,qa,qu,FS,AZ];generalize (H2.set co (some (.cells [.ptr os 0,I fr,I to,I c.1,R])))=H3 at*
 by_cases wa:way=Lm
 ·have hd:decide (Jq way c)=true:=decide_eq_true (.inl wa)
  rw[hd];simp only[wa,Zq,rE,show((true==false)=false)from rfl,Cn,II,V0,Ab,sB,Ah,true_and];exact Pb true h3 hw hB hB2 hN hnm f3 hco cb3 hR hmay
 simp only[wa,Dp,qY,FS,Ab,AZ]
 by_cases wu:way=J2
 ·obtain⟨w,H4,⟨hw4,g4⟩,hc⟩:=TV (size:=c.1) hR (by omega) hn H3
  have cb4:=cb3.grew g4;simp only[wu,D5,qY,sT,Al cb3.at',i3,Ug];refine bC_of hc ?_;simp only[hw4.len,rY,Nat.reduceAdd,Al cb4.at',eP];refine bP_of (Xr m1 (by omega)) ?_
  have hd:decide (Jq J2 c)=decide (((Ce c.1 c.2).length:Int)<Il c.1):=by
   have:Jq J2 c↔((Ce c.1 c.2).length:Int)<Il c.1:=by
    unfold Jq;rw[← wu];exact⟨λh=>h.elim (λe=>absurd e wa) λh=>h.2,λh=>.inr ⟨rfl,h⟩⟩
   simp only[this]
  rw[hd];simp only[Bq,Ab,A4,if_true,At,Al cb3.at',Ai,rG,Ap,true_and];exact Pb _ (h3.grew g4) hw hB hB2 hN hnm (f3.grew g4) hco cb4 hR hmay
 ·have hd:decide (Jq way c)=false:=decide_eq_false (λh=>h.elim wa λh=>wu h.1)
  rw[hd];simp only[wu,sI,show((false==true)=false)from rfl,Cn,II,V0,sU,true_and];exact Pb false h3 hw hB hB2 hN hnm f3 hco cb3 hR hmay)
def aR (e:Int):AV:=.agg [I e,S (As []),I 0,I 0,I 0,I 0,I 0]
def Yh (s:StS)(l:List Tx):Int×StS:=match OY l with
 | none=>(2,s)
 | some (a,b,w)=>if(Bc s a false).1.2≠0 then((Bc s a false).1.2,(Bc s a false).2)else Im (Bc s a false).2 (Bc s a false).1.1 b w
end Go.Proofs.YtbppnhenlboefaaGreat.Av
end
section
set_option maxHeartbeats 1000000
namespace Go.Proofs.YtbppnhenlboefaaGreat.Av
open Go Go.RowKit Go.Proofs.Tryz
abbrev xE:=@List.mem_cons_of_mem
theorem M4:∀{l:List Tx} {o:List (Tx×Tx)} {r:List Tx} {q:List (Tx×Tx)×List Tx},Gv l o r=some q→∀x∈q.2,x∈r∨x∈l
 | [],o,r,q,h,x,hx=>by
  unfold Gv at h;injection h with h;subst h;exact .inl hx
 | s::l,o,r,q,h,x,hx=>by
  unfold Gv at h;split at h
  ·injection h with h
   subst h;simp only[uN]at hx;exact hx.imp id λh=>xE _ h
  ·split at h
   ·cases h
   ·exact(M4 h x hx).imp id λh=>xE _ h
   ·rcases M4 h x hx with h | h
    ·rcases uN.1 h with h | h
     ·exact .inl h
     ·rw[vJ]at h;subst h;exact .inr (by simp)
    ·exact .inr (xE _ h)
theorem WM {l:List Tx}{a b w:Tx}(h:OY l=some (a,b,w)):a∈l∧b∈l:=by
 unfold OY at h;split at h
 ·cases h
 ·rename_i op rs hF
  unfold OG at hF;split at hF
  ·cases hF
  ·unfold Ut at h
   split at h
   ·rename_i a' b'
    split at h
    ·cases h
    ·split at h
     ·obtain⟨w',-,e⟩:=Option.map_eq_some_iff.1 h
      injection e with e1 e2;injection e2 with e2 e3;subst e1;subst e2;have m:=M4 hF;exact⟨(m _ (by simp)).elim (λh=>by simp at h) id,(m _ (by simp)).elim (λh=>by simp at h) id⟩
     ·cases h
   ·cases h
theorem iB (s:StS)(a:Tx):Bc s a false=(Ho s a,s):=by unfold Bc;rw[if_pos (.inr rfl)]
theorem gM {N Bd:Nat}{s:StS}{os:Nat}{p v:AV}{H:AH}{l:List Tx}(h:StAt s os p H)(hw:SW N s)(hB:∀i,(A9 s i).1.2.length≤Bd)(hB2:4096≤Bd)(hN:N+10+72*Bd<900000)
  (hv:Aa H 1 v=some (l.flatMap Ej,l.length)) (hb:∀t∈l,t.length≤1000000) (hl:l.length≤1000000):
  ∃r H',(r=aR (Yh s l).1∧∃p',StAt (Yh s l).2 os p' H'∧StF os p p' H H')∧BCall prog 12 [.ptr os 0,v] H r H':=Yi (by
 unfold Z5
 let Z:List AV:=[I 0,S (As []),I 0,I 0,I 0,I 0,I 0]
 have e1:A8 H (.agg [(I 0),(.lit (.string ⟨#[]⟩)),(I 0),(I 0),(I 0),(I 0),(I 0)])=some (.ptr H.length 0,H++[some (.cells Z)]):=rfl;have g1:=Grew.app H [some (AObj.cells Z)];have b1:=Bes.new h Z;have hlt:=h.os_lt;simp only[e1,A1];have hv1:=g1.slice hv;have h1:=h.grew g1;have f1:StF os p p H (H++[some (AObj.cells Z)]):=(StF.refl os p H).grew g1;have l1:(H++[some (AObj.cells Z)]).length=H.length+1:=by simp
 generalize (H++[some (AObj.cells Z)])=H1 at*;obtain⟨r,H2,⟨hr,g2⟩,hc⟩:=fI hv1 hb hl;refine bC_of hc ?_;have b2:=b1.grew g2;have h2:=h1.grew g2;have f2:=f1.grew g2;have lt2:=g2.1
 -- the answer put into its place
 have fin:∀(e:Int) (s':StS) (p':AV) (H':AH),StAt s' os p' H'→StF os p p' H H'→Bes H.length Z os p' H'→Yh s l=(e,s')→
   bS (AU 7 H' (.ptr H.length 0) (.agg [I e,S (As []),I 0,I 0,I 0,I 0,I 0])) (λH''=>bO (Ar true 7 H'' (.ptr H.length 0)) λv=>v=aR (Yh s l).1∧∃p',StAt (Yh s l).2 os p' H''∧StF os p p' H H''):=by
  intro e s' p' H' h' f' b' he;have hl':=(B5.1 b'.at').1
  have t1:AU 7 H' (.ptr H.length 0) (.agg [I e,S (As []),I 0,I 0,I 0,I 0,I 0])=some (H'.set H.length (some (.cells [I e,S (As []),I 0,I 0,I 0,I 0,I 0]))):=by
   rw[A6 (n:=7) (xs:=[I e,S (As []),I 0,I 0,I 0,I 0,I 0]) (cs:=Z) (by simp[B3,oneA]) b'.at' rfl (by simp[Z])];rfl
  have t2:(H'.set H.length (some (.cells [I e,S (As []),I 0,I 0,I 0,I 0,I 0])))[H.length]?=some (some (.cells [I e,S (As []),I 0,I 0,I 0,I 0,I 0])):=IJ hl';have ne:∀i,i≠H.length→(H'.set H.length (some (.cells [I e,S (As []),I 0,I 0,I 0,I 0,I 0])))[i]?=H'[i]?:=λi hi=>Co (uC hi)
  have i7:Am true 7 [I e,S (As []),I 0,I 0,I 0,I 0,I 0] 0=some (aR e):=rfl;simp only[t1,AE,Al t2,i7,Ab,he];refine⟨by trivial,p',?_,by rw[tM];exact f'.len,λj a b c=>by rw[ne j (by omega)];exact f'.same j a b c,f'.ids⟩;obtain⟨a,b,c,d,pv,q⟩:=h';exact⟨a,b,c,d,pv,(ne os (uC b'.ne)).trans q.obj,q.now,q.kept,q.pm,Ae q.ps λi hi=>ne i (λe=>b'.np (e▸hi)),q.po,q.pi,q.pc⟩
 have z1:∀x:AV,oneA x=true→EW [(I 0),(.lit (.string ⟨#[]⟩)),(I 0),(I 0),(I 0),(I 0),(I 0)] [(0,1,x)]=some (.agg [x,S (As []),I 0,I 0,I 0,I 0,I 0]):=λx hx=>by
  simp[EW,AL hx,AS];rfl
 cases hP:OY l with
 | none=>
  rw[hP]at hr;have hr:r=.tup [S (As []),S (As []),S (As []),B false]:=hr;subst hr;simp only[rV,rU,rC,z1 (I 2) rfl];exact fin 2 s p H2 h2 f2 b2 (by unfold Yh;rw[hP])
 | some q=>
  obtain⟨a,b,w⟩:=q;rw[hP]at hr;have hr:r=.tup [S (As a),S (As b),S (As w),B true]:=hr;subst hr;obtain⟨ma,mb⟩:=WM hP;have la:=hb a ma;have lb:=hb b mb;simp only[rV,rU,rD];obtain⟨r,H3,⟨rfl,p3,h3,f3⟩,hc⟩:=Wi h2 hw (by omega) (name:=a) (by omega) false;refine bC_of hc ?_;have b3:=b2.step f3;have f23:=f2.trans f3;have hcp:Yh s l=if(Bc s a false).1.2≠0 then((Bc s a false).1.2,(Bc s a false).2)else Im (Bc s a false).2 (Bc s a false).1.1 b w:=by unfold Yh;rw[hP]
  rw[iB]at h3 hcp⊢;simp only[rV,sK]at hcp h3⊢;generalize Ho s a=F at*
  by_cases c1:F.2=0
  rotate_left
  ·rw[if_pos c1]at hcp
   simp only[c1,qX,rI,z1 (I F.2) rfl,Ab];exact fin F.2 s p3 H3 h3 f23 b3 hcp
  rw[if_neg (λz=>z c1)]at hcp;have z2:EW [(.lit (.pointer none)),(I 0),(I 0),(I 0),Ad] [(0,1,.ptr os 0),(1,1,I F.1)]=some (.agg [.ptr os 0,I F.1,I 0,I 0,Ad]):=rfl;have e4:A8 H3 (.agg [.ptr os 0,I F.1,I 0,I 0,Ad])=some (.ptr H3.length 0,H3++[some (.cells [.ptr os 0,I F.1,I 0,I 0,Ad])]):=rfl;have g4:=Grew.app H3 [some (AObj.cells [AV.ptr os 0,I F.1,I 0,I 0,Ad])];have cb:=Bes.new h3 [AV.ptr os 0,I F.1,I 0,I 0,Ad];have lt3:=f3.len;simp only[c1,qW,sI,z2,e4,A1]
  -- from here on the answer's place is part of what was there
  have hf0:StF os p p3 H1 (H3++[some (AObj.cells [AV.ptr os 0,I F.1,I 0,I 0,Ad])]):=
   (((StF.refl os p H1).grew g2).trans f3).grew g4
  obtain⟨r,H5,⟨rfl,p5,h5,f5⟩,hc⟩:=dG (nm:=b) (way:=w) (Bd:=Bd) (h3.grew g4) hw (hB F.1) hB2 hN (by omega) hf0 (by omega) cb;refine bC_of hc ?_;have hpne:H.length∉AP p:=λz=>by have:=h.p_lt _ z;omega
  have b5:Bes H.length Z os p5 H5:=⟨(f5.same H.length (by omega) (by omega) hpne).trans b1.at',by omega,λz=>(f5.ids _ z).elim hpne (λz=>by omega)⟩;have f15:StF os p p5 H H5:=f1.trans f5;simp only[z1 (I (Im s F.1 b w).1) rfl,Ab];exact fin (Im s F.1 b w).1 (Im s F.1 b w).2 p5 H5 h5 f15 b5 hcp)
end Go.Proofs.YtbppnhenlboefaaGreat.Av
end
section
set_option maxHeartbeats 1000000
namespace Go.Proofs.YtbppnhenlboefaaGreat.Av
open Go Go.RowKit Go.Proofs.Tryz
def Sl:Tx:=[45,45,115,112,97,114,115,101,61,97,108,119,97,121,115]
def Tz:Int×StS:=WO (R1 9) [97] [List.replicate 20 0]
def Lc:Int×StS:=Yh Tz.2 [Sl,[97],[98]]
theorem bK:Tz.1=0:=by kernel_rfl
theorem bN:Lc.1=0:=by kernel_rfl
theorem bM:(Yh Lc.2 [[97]]).1=2:=by kernel_rfl
theorem YI:decide (Sx Lc.2.now.1 Lc.2.now.2 2)=true∧(GJ Lc.2.now.1 Lc.2.now.2 2).size=20∧(GJ Lc.2.now.1 Lc.2.now.2 2).l.length=0:=⟨by kernel_rfl,by kernel_rfl,by kernel_rfl⟩
theorem fM {N:Nat}{s:StS}(h:SW N s)(nm:List UInt8)(l:List (List UInt8)):SW (N+2+9*OQ l) (WO s nm l).2:=by
 have w1:=Ql h nm true;unfold WO;generalize Bc s nm true=O at*;have w2:=Oi w1 O.1.1 0;generalize Es O.2 O.1.1 0=Q at*;have w3:=aS (ino:=O.1.1) (l:=l) (a:=0) (m:=0) w2
 split
 ·exact w1.mono (by omega)
 ·split
  ·exact w2.mono (by omega)
  ·split
   ·exact w3.mono (by omega)
   ·exact(gE w3 _).mono (by omega)
theorem Z4 {N Bd:Nat}{s:StS}(h:SW N s)(fr:Int)(nm way:Tx)(hB:(A9 s fr).1.2.length≤Bd)(hB2:4096≤Bd):SW (N+4+72*Bd) (Im s fr nm way).2:=by
 unfold Im
 split
 ·exact h.mono (by omega)
 ·generalize (A9 s fr).1=c at*
  have w1:=SM h nm;unfold Ty
  split
  ·exact h.mono (by omega)
  ·rename_i hg
   split
   ·exact w1.mono (by omega)
   ·have w2:SW (N+2+72*Bd) (QE (decide (Jq way c)) (Cx s nm).2.1 c (Cx s nm).2.2).2:=by
     unfold QE
     split
     ·exact(N3 w1).mono (by have:=I0 c.1 c.2;omega)
     ·rename_i hd
      refine(Wp w1).mono ?_
      have:(Il c.1).toNat≤4096:=by
       have:¬32768<c.1:=λz=>hg ⟨by simpa using hd,z⟩
       unfold Il;omega
      omega
    split
    ·exact w2.mono (by omega)
    ·exact(Oi w2 _ _).mono (by omega)
theorem nZ {N Bd:Nat}{s:StS}(h:SW N s)(l:List Tx)(hB:∀i,(A9 s i).1.2.length≤Bd)(hB2:4096≤Bd):SW (N+4+72*Bd) (Yh s l).2:=by
 unfold Yh
 split
 ·exact h.mono (by omega)
 ·rw[iB]
  split
  ·exact h.mono (by omega)
  ·exact Z4 h _ _ _ (hB _) hB2
theorem Mw {N n:Nat}{s:StS}(h:SW N s)(hd:∀d∈s.now.2,d.l.length≤n)(i:Int):(A9 s i).1.2.length≤n:=by
 by_cases c:(A9 s i).2=0
 ·obtain⟨d,hm,-,e,-⟩:=Kr h c
  rw[e];exact hd d hm
 ·have:(A9 s i).1=(0,[]):=by
   unfold A9 at c⊢
   split
   ·rfl
   ·split
    ·rename_i h1 h2;rw[if_neg h1,if_pos h2]at c;exact absurd rfl c
    ·rfl
  rw[this];exact Nat.zero_le _
theorem bL:decide (∀d∈Lc.2.now.2,d.l.length≤4096)=true:=by kernel_rfl
theorem VV:decide (∀d∈Tz.2.now.2,d.l.length≤4096)=true:=by kernel_rfl
theorem XO {H:AH}{v:AV}(h:oneA v=true):Dh H 1 1 (Bo [Ad] 1) [(0,1,v)]=some (.sl H.length 0 1 1 (.ex 1),H++[some (.cells [v])]):=by
 simp[Dh,PJ,Bo,AL h,AS]
theorem cpRuns_a:ACalls prog 3 [] [] λr _=>r=B true:=Kb (by
 unfold ET;obtain⟨r,H1,⟨p,rfl,l1,st0,g,hid⟩,hc⟩:=mU 9 [] (by omega);refine bC_of hc ?_;have n1:UH .eql Uq (.ptr ([]:AH).length 0) (.lit (.pointer none))=some (B false):=rfl;have e1:pU 1 1 [u0Z] H1 (I 20) (I 20)=some (.sl H1.length 0 20 1 (.ex 20),H1++[some (.cells (AY (List.replicate 20 0)))]):=rfl;have e2:=XO (H:=H1++[some (AObj.cells (AY (List.replicate 20 0)))]) (v:=.sl H1.length 0 20 1 (.ex 20)) rfl;simp only[n1,rO,AZ,qY,e1,A1,e2];have g2:Grew H1 (H1++[some (AObj.cells (AY (List.replicate 20 0)))]++[some (AObj.cells [AV.sl H1.length 0 20 1 (.ex 20)])]):=by rw[tI];exact Grew.app _ _
 have s1:Aa (H1++[some (AObj.cells (AY (List.replicate 20 0)))]++[some (AObj.cells [AV.sl H1.length 0 20 1 (.ex 20)])]) 1 (.sl H1.length 0 20 1 (.ex 20))=some (AY (List.replicate 20 0),20):=by
  rw[AA (c:=AY (List.replicate 20 0)) (by simp) (by simp[AY])];rfl
 have s2:Aa (H1++[some (AObj.cells (AY (List.replicate 20 0)))]++[some (AObj.cells [AV.sl H1.length 0 20 1 (.ex 20)])]) 1 (.sl (H1++[some (AObj.cells (AY (List.replicate 20 0)))]).length 0 1 1 (.ex 1))=some ([AV.sl H1.length 0 20 1 (.ex 20)],1):=by
  rw[AA CT (by simp)];rfl
 have lo:=st0.os_lt;have i4:∀j∈AP (AV.sl (H1++[some (AObj.cells (AY (List.replicate 20 0)))]).length 0 1 1 (.ex 1)),j=H1.length+1:=by intro j hj;simpa[AP]using hj
 have st2:=st0.grew g2;generalize (.sl (H1++[some (AObj.cells (AY (List.replicate 20 0)))]).length 0 1 1 (.ex 1):AV)=w at*;generalize (H1++[some (AObj.cells (AY (List.replicate 20 0)))]++[some (AObj.cells [AV.sl H1.length 0 20 1 (.ex 20)])])=H2 at*;have hch:([(AV.sl H1.length 0 20 1 (.ex 20),List.replicate 20 0)]:List (AV×List UInt8)).flatMap (λx=>CJ x.2)=[List.replicate 20 0]:=by kernel_rfl
 refine⟨_,mW (nm:=[97]) (bl:=[(AV.sl H1.length 0 20 1 (.ex 20),List.replicate 20 0)]) st2 (aK 9) (by simp) s2 (by intro j hj;rw[i4 j hj,hid];exact⟨by omega,by simp⟩) (by
  intro x hx;simp only[vJ]at hx;subst hx;exact⟨s1,rfl,by simp,λj hj=>by simp only[AP,vJ]at hj;subst hj;rw[hid];exact⟨by omega,by simp⟩⟩) (by simp) (by rw[hch];simp[OQ]),?_⟩
 have w2:=fM (aK 9) [97] [List.replicate 20 0];rw[hch];rintro r H3 ⟨p3,rfl,st3,f3⟩;have w3:SW 200 Tz.2:=w2.mono (by simp[OQ]);have st3:StAt Tz.2 ([]:AH).length p3 H3:=st3;have er:(WO (R1 9) [97] [List.replicate 20 0]).1=0:=bK;have lA:Dh H3 1 3 (Bo [(.lit (.string ⟨#[]⟩))] 3) [(0,1,(.lit (.string ⟨#[45,45,115,112,97,114,115,101,61,97,108,119,97,121,115]⟩))),(1,1,(.lit (.string ⟨#[97]⟩))),(2,1,(.lit (.string ⟨#[98]⟩)))]=some (.sl H3.length 0 3 1 (.ex 3),H3++[some (.cells ([Sl,[97],[98]].flatMap Ej))]):=rfl;simp only[er,sK,qW,rF,A4,At,lA,A1];have g4:=Grew.app H3 [some (AObj.cells ([Sl,[97],[98]].flatMap Ej))]
 have v4:Aa (H3++[some (AObj.cells ([Sl,[97],[98]].flatMap Ej))]) 1 (.sl H3.length 0 3 1 (.ex 3))=some ([Sl,[97],[98]].flatMap Ej,[Sl,[97],[98]].length):=by
  rw[AA CT (by simp[Ej])];rfl
 obtain⟨r,H5,⟨rfl,p5,st5,f5⟩,hc⟩:=gM (Bd:=4096) (l:=[Sl,[97],[98]]) (st3.grew g4) w3 (Mw w3 (of_decide_eq_true VV)) (by omega) (by omega) v4 (by simp[Sl]) (by simp);refine bC_of hc ?_;have w5:SW 300000 Lc.2:=(nZ w3 [Sl,[97],[98]] (Bd:=4096) (Mw w3 (of_decide_eq_true VV)) (by omega)).mono (by omega);have st5:StAt Lc.2 ([]:AH).length p5 H5:=st5;have e5:(Yh Tz.2 [Sl,[97],[98]]).1=0:=bN;rw[e5]
 have o7:∀(H:AH) (e:Int),A8 H (.agg [(I 0),(.lit (.string ⟨#[]⟩)),(I 0),(I 0),(I 0),(I 0),(I 0)])=some (.ptr H.length 0,H++[some (.cells [I 0,S (As []),I 0,I 0,I 0,I 0,I 0])])∧AU 7 (H++[some (AObj.cells [I 0,S (As []),I 0,I 0,I 0,I 0,I 0])]) (.ptr H.length 0) (aR e)=some (H++[some (.cells [I e,S (As []),I 0,I 0,I 0,I 0,I 0])]):=λH e=>by
  refine⟨rfl,?_⟩;unfold aR;rw[A6 (n:=7) (xs:=[I e,S (As []),I 0,I 0,I 0,I 0,I 0]) (cs:=[I 0,S (As []),I 0,I 0,I 0,I 0,I 0]) (by simp[B3,oneA]) CT rfl (by simp)];simp[AS]
 simp only[(o7 _ 0).1,(o7 _ 0).2,rT];have g6:=Grew.app H5 [some (AObj.cells [I 0,S (As []),I 0,I 0,I 0,I 0,I 0])];have b6:=Bes.new st5 [I 0,S (As []),I 0,I 0,I 0,I 0,I 0];have st6:=st5.grew g6;generalize (H5++[some (AObj.cells [I 0,S (As []),I 0,I 0,I 0,I 0,I 0])])=H6 at*;generalize H5.length=o5 at*;obtain⟨R,hR,r,H7,⟨rfl,g7⟩,hc⟩:=gK st6 w5 (by omega);refine bC_of hc ?_;obtain⟨k1,k2,k3⟩:=YI;obtain⟨L,hL,hp⟩:=gJ hR (w5.now.sm (by omega)) 2;refine A3 hp ?_;rw[k1,k2];have oL:=SV.oneA hL;have m1:A8 H7 (.agg [(I 0),Ad])=some (.ptr H7.length 0,H7++[some (.cells [I 0,Ad])]):=rfl
 have m2:AU 2 (H7++[some (AObj.cells [I 0,Ad])]) (.ptr H7.length 0) (.agg [I 20,L])=some (H7++[some (.cells [I 20,L])]):=by
  rw[A6 (n:=2) (xs:=[I 20,L]) (cs:=[I 0,Ad]) (by simp[oL]) CT rfl (by simp)];simp[AS]
 have lB:∀H:AH,Dh H 1 1 (Bo [(.lit (.string ⟨#[]⟩))] 1) [(0,1,(.lit (.string ⟨#[97]⟩)))]=some (.sl H.length 0 1 1 (.ex 1),H++[some (.cells ([[97]].flatMap Ej))]):=λ_=>rfl
 simp only[rV,Ab,m1,rT,m2,lB];have g8:=Grew.app H7 [some (AObj.cells [I 20,L])];have b7:=b6.grew g7;have st7:=st6.grew g7;have c8:=Bes.new st7 [I 20,L];have b8:=b7.grew g8;have st8:=st7.grew g8;generalize (H7++[some (AObj.cells [I 20,L])])=H8 at*;generalize H7.length=o7' at*;have g9:=Grew.app H8 [some (AObj.cells ([[97]].flatMap Ej))]
 have v9:Aa (H8++[some (AObj.cells ([[97]].flatMap Ej))]) 1 (.sl H8.length 0 1 1 (.ex 1))=some ([[97]].flatMap Ej,([[97]]:List Tx).length):=by
  rw[AA CT (by simp[Ej])];rfl
 have b9:=b8.grew g9;have c9:=c8.grew g9;obtain⟨r,H10,⟨rfl,p10,st10,f10⟩,hc⟩:=gM (Bd:=4096) (l:=[[97]]) (st8.grew g9) w5 (Mw w5 (of_decide_eq_true bL)) (by omega) (by omega) v9 (by simp) (by simp);refine bC_of hc ?_;have b10:=b9.step f10;have c10:=c9.step f10;rw[bM];simp only[(o7 _ 2).1,(o7 _ 2).2,rT];have g11:=Grew.app H10 [some (AObj.cells [I 2,S (As []),I 0,I 0,I 0,I 0,I 0])];have b11:=b10.grew g11;have c11:=c10.grew g11;have hl0:Be L=some (I 0):=by rw[hL.len,k3];rfl
 simp only[rL,Al b11.at',Al c11.at',Al CT,FQ,rE,sB,qY,hl0])
end Go.Proofs.YtbppnhenlboefaaGreat.Av
end
section
end
