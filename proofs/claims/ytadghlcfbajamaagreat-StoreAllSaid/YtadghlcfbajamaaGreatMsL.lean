/- Texts of this proof, one behind the other, packed into one file by a program of this session. No condition. -/
import Derived.Test.YtadghlcfbajamaaGreatMsK
set_option linter.unusedVariables false
set_option linter.unusedSimpArgs false
set_option maxRecDepth 100000
section
namespace Go.Proofs.YtadghlcfbajamaaGreat.Av
open Go Go.RowKit Go.Proofs.Tryz
def Xi (ino pos n:Int)(keep:Bool):OpM:=⟨4,ino,pos,n,keep,[],[],[]⟩
def Zm (ino pos n:Int):OpM:=⟨5,ino,pos,n,false,[],[],[]⟩
theorem jH (ino pos n:Int)(keep:Bool):cX (Xi ino pos n keep):=⟨by simp[Xi],by simp[Xi],by simp[Xi]⟩
theorem jJ (ino pos n:Int):cX (Zm ino pos n):=⟨by simp[Zm],by simp[Zm],by simp[Zm]⟩
def OD (s:StS)(ino pos n:Int):Int×StS:=
 if(Au s ino).2≠0 then((Au s ino).2,s)else if CB (Au s ino).1 pos n=none then(5,s)else G7 s (Zm ino pos n)
def O7 (s:StS)(ino pos n:Int)(keep:Bool):Int×StS:=
 if(Au s ino).2≠0 then((Au s ino).2,s)else if BU (Au s ino).1 pos n keep=none then(5,s)
 else if Oc s<(cL (BU (Au s ino).1 pos n keep)).length - (Au s ino).1.2.length then(4,s)else G7 s (Xi ino pos n keep)
theorem sA {N:Nat}{s:StS}(h:SW N s)(ino pos n:Int):SW (N+1) (OD s ino pos n).2:=by
 unfold OD
 split
 ·exact h.mono (by omega)
 ·split
  ·exact h.mono (by omega)
  ·exact UE h (jJ ino pos n)
theorem pY {N:Nat}{s:StS}(h:SW N s)(ino pos n:Int)(keep:Bool):SW (N+4099) (O7 s ino pos n keep).2:=by
 unfold O7
 split
 ·exact h.mono (by omega)
 ·split
  ·exact h.mono (by omega)
  ·split
   ·exact h.mono (by omega)
   ·exact UE h (jH ino pos n keep)
noncomputable def Wy (s:StS)(ino pos:Int):Int×Int:=
 if(Au s ino).2≠0 then(0,(Au s ino).2)else match OY (Au s ino).1.1 (Au s ino).1.2 pos with | none=>(0,5) | some n=>(n,0)
noncomputable def WA (s:StS)(ino pos:Int):Int×Int:=
 if(Au s ino).2≠0 then(0,(Au s ino).2)else match UU (Au s ino).1.1 (Au s ino).1.2 pos with | none=>(0,5) | some n=>(n,0)
theorem Zv {c:KD}{pos n:Int}{keep:Bool}:(cL (BU c pos n keep)).length≤c.2.length+4098:=by
 have h:=kT (o:=Xi 0 pos n keep) (d:=⟨0,c.1,c.2⟩)
 simpa[G5,Xi]using h
theorem kF {N:Nat}{s:StS}{os:Nat}{p:AV}{H:AH}(h:DsAt s os p H)(hw:SW N s)(hN:N≤900000):BCall prog 110 [.ptr os 0] H (I (Oc s)) H:=by
 obtain⟨r,H',⟨rfl,rfl⟩,hc⟩:=NG (a0:=.ptr os 0) (H:=H) (K:=λr H'=>r=I (Oc s)∧H'=H) (by
  obtain⟨a,b,c,d,pv,h⟩:=h;unfold Jw;have hu:=jS h.now (hw.now.sm (by omega));rw[mH hw.now.1]at hu;have hs:=gK hw.now;have hcap:=hw.cap;have e1:Ar .sub (I s.cap) (I (LD s.now.2:Int))=some (I (s.cap - LD s.now.2)):=Bv (by omega) (by omega);have e2:amm Wb [I (s.cap - LD s.now.2),(I 0)]=some (I (Oc s)):=by rw[NQ,Wc];rfl
  simp only[A0,Af2,Ah h.obj,(sD _ _ _ _ _ _ _ _ _).1];refine bP_of hu ?_;simp only[e1,Ab,e2];exact⟨by trivial,by trivial⟩)
 exact hc
theorem pK {N:Nat}{s:StS}{os:Nat}{p:AV}{H:AH}(h:DsAt s os p H)(hw:SW N s)(hN:N<900000)(ino size:Int):
  ∃r H',(r=I (OQ s ino size).1∧∃p',DsAt (OQ s ino size).2 os p' H'∧StF os p p' H H')∧BCall prog 70 [.ptr os 0,I ino,I size] H r H':=Lp (by
 unfold GP;obtain⟨R,hR,r,H1,⟨rfl,g1⟩,hc⟩:=NO h hw (by omega) ino;have hlen:=CC hw ino;refine bC_of hc ?_;unfold OQ;generalize Au s ino=ct at*;have oR:=SV.oneA hR;have h1:=h.grew g1;have g2:=Grew.app H1 [some (.cells [I ct.1.1,R])];have h2:=h1.grew g2;simp only[Af1,Hd _ _ oR]
 by_cases hc0:ct.2=0
 ·simp only[hc0,Ag7,Ah Da,Y6,Ab]
  obtain⟨R2,hR2,hp⟩:=JS (size0:=ct.1.1) hR (by omega) size;refine As hp ?_;have oR2:=SV.oneA hR2;have g3:=Grew.app (H1++[some (AObj.cells [I ct.1.1,R])]) [some (.cells [I (cS (Cx (ct.1.1,ct.1.2) size)),R2])];have h3:=h2.grew g3;have ff:StF os p p H (H1++[some (AObj.cells [I ct.1.1,R])]++[some (.cells [I (cS (Cx (ct.1.1,ct.1.2) size)),R2])]):=.of_grew ((g1.trans g2).trans g3);simp only[Ac8,Hd _ _ oR2,Bg];cases ht:Cx (ct.1.1,ct.1.2) size with
  | none=>
   have ht':Cx ct.1 size=none:=ht;rw[ht]at h3 ff;simp only[Ab7,Aa3];exact⟨by trivial,p,h3,ff⟩
  | some c2=>
   have ht':¬Cx ct.1 size=none:=by rw[show Cx ct.1 size=some c2 from ht];simp
   rw[ht]at h3 ff;have e2:E5 [(I 0),(I 0),(I 0),(I 0),(B false),(.lit (.string ⟨#[]⟩)),(.lit (.string ⟨#[]⟩)),Ac] [(0,1,(I 3)),(1,1,I ino),(3,1,I size)]=some (.agg (By (Zn ino size) Ac)):=rfl;simp only[Ac3,Ao,e2];obtain⟨r,H2,⟨rfl,p2,h4,f4⟩,hcall⟩:=X3 (bv:=Ac) (o:=Zn ino size) h3 hw (by omega) SV.nil (jK ino size);exact bC_of hcall ⟨rfl,p2,h4,ff.trans f4⟩
 ·simp only[hc0,Ad8]
  exact⟨by trivial,p,h2,.of_grew (g1.trans g2)⟩)
theorem tH {N:Nat}{s:StS}{os:Nat}{p:AV}{H:AH}(h:StAt s os p H)(hw:SW N s)(hN:N<900000)(ino pos n:Int):
  ∃r H',(r=I (OD s ino pos n).1∧∃p',StAt (OD s ino pos n).2 os p' H'∧StF os p p' H H')∧BCall prog 51 [.ptr os 0,I ino,I pos,I n] H r H':=Sx (by
 unfold Oz;obtain⟨R,hR,r,H1,⟨rfl,g1⟩,hc⟩:=I4 h hw (by omega) ino;have hlen:=CC hw ino;refine bC_of hc ?_;unfold OD;generalize Au s ino=ct at*;have oR:=SV.oneA hR;have h1:=h.grew g1;have g2:=Grew.app H1 [some (.cells [I ct.1.1,R])];have h2:=h1.grew g2;simp only[Af1,Hd _ _ oR]
 by_cases hc0:ct.2=0
 ·simp only[hc0,Ag7,Ah Da,Y6,Ab]
  obtain⟨R2,hR2,hp⟩:=RD (size:=ct.1.1) hR (by omega) pos n;refine As hp ?_;have oR2:=SV.oneA hR2;have g3:=Grew.app (H1++[some (AObj.cells [I ct.1.1,R])]) [some (.cells [I (cS (CB (ct.1.1,ct.1.2) pos n)),R2])];have h3:=h2.grew g3;have ff:StF os p p H (H1++[some (AObj.cells [I ct.1.1,R])]++[some (.cells [I (cS (CB (ct.1.1,ct.1.2) pos n)),R2])]):=.of_grew ((g1.trans g2).trans g3);simp only[Ac8,Hd _ _ oR2,Bg];cases ht:CB (ct.1.1,ct.1.2) pos n with
  | none=>
   have ht':CB ct.1 pos n=none:=ht;rw[ht]at h3 ff;simp only[Ab7,Aa3];exact⟨by trivial,p,h3,ff⟩
  | some c2=>
   have ht':¬CB ct.1 pos n=none:=by rw[show CB ct.1 pos n=some c2 from ht];simp
   rw[ht]at h3 ff;have e2:E5 [(I 0),(I 0),(I 0),(I 0),(B false),(.lit (.string ⟨#[]⟩)),(.lit (.string ⟨#[]⟩)),Ac] [(0,1,(I 5)),(1,1,I ino),(2,1,I pos),(3,1,I n)]=some (.agg (By (Zm ino pos n) Ac)):=rfl;simp only[Ac3,Ao,e2];obtain⟨r,H2,⟨rfl,p2,h4,f4⟩,hcall⟩:=iN (bv:=Ac) (o:=Zm ino pos n) h3 hw (by omega) SV.nil (jJ ino pos n);exact bC_of hcall ⟨rfl,p2,h4,ff.trans f4⟩
 ·simp only[hc0,Ad8]
  exact⟨by trivial,p,h2,.of_grew (g1.trans g2)⟩)
theorem pI {N:Nat}{s:StS}{os:Nat}{p:AV}{H:AH}(h:DsAt s os p H)(hw:SW N s)(hN:N<900000)(ino pos n:Int):
  ∃r H',(r=I (OD s ino pos n).1∧∃p',DsAt (OD s ino pos n).2 os p' H'∧StF os p p' H H')∧BCall prog 72 [.ptr os 0,I ino,I pos,I n] H r H':=Nt (by
 unfold IN;obtain⟨R,hR,r,H1,⟨rfl,g1⟩,hc⟩:=NO h hw (by omega) ino;have hlen:=CC hw ino;refine bC_of hc ?_;unfold OD;generalize Au s ino=ct at*;have oR:=SV.oneA hR;have h1:=h.grew g1;have g2:=Grew.app H1 [some (.cells [I ct.1.1,R])];have h2:=h1.grew g2;simp only[Af1,Hd _ _ oR]
 by_cases hc0:ct.2=0
 ·simp only[hc0,Ag7,Ah Da,Y6,Ab]
  obtain⟨R2,hR2,hp⟩:=MC (size:=ct.1.1) hR (by omega) pos n;refine As hp ?_;have oR2:=SV.oneA hR2;have g3:=Grew.app (H1++[some (AObj.cells [I ct.1.1,R])]) [some (.cells [I (cS (CB (ct.1.1,ct.1.2) pos n)),R2])];have h3:=h2.grew g3;have ff:StF os p p H (H1++[some (AObj.cells [I ct.1.1,R])]++[some (.cells [I (cS (CB (ct.1.1,ct.1.2) pos n)),R2])]):=.of_grew ((g1.trans g2).trans g3);simp only[Ac8,Hd _ _ oR2,Bg];cases ht:CB (ct.1.1,ct.1.2) pos n with
  | none=>
   have ht':CB ct.1 pos n=none:=ht;rw[ht]at h3 ff;simp only[Ab7,Aa3];exact⟨by trivial,p,h3,ff⟩
  | some c2=>
   have ht':¬CB ct.1 pos n=none:=by rw[show CB ct.1 pos n=some c2 from ht];simp
   rw[ht]at h3 ff;have e2:E5 [(I 0),(I 0),(I 0),(I 0),(B false),(.lit (.string ⟨#[]⟩)),(.lit (.string ⟨#[]⟩)),Ac] [(0,1,(I 5)),(1,1,I ino),(2,1,I pos),(3,1,I n)]=some (.agg (By (Zm ino pos n) Ac)):=rfl;simp only[Ac3,Ao,e2];obtain⟨r,H2,⟨rfl,p2,h4,f4⟩,hcall⟩:=X3 (bv:=Ac) (o:=Zm ino pos n) h3 hw (by omega) SV.nil (jJ ino pos n);exact bC_of hcall ⟨rfl,p2,h4,ff.trans f4⟩
 ·simp only[hc0,Ad8]
  exact⟨by trivial,p,h2,.of_grew (g1.trans g2)⟩)
theorem tE {N:Nat}{s:StS}{os:Nat}{p:AV}{H:AH}(h:StAt s os p H)(hw:SW N s)(hN:N<900000)(ino pos n:Int)(keep:Bool):
  ∃r H',(r=I (O7 s ino pos n keep).1∧∃p',StAt (O7 s ino pos n keep).2 os p' H'∧StF os p p' H H')∧BCall prog 50 [.ptr os 0,I ino,I pos,I n,B keep] H r H':=PE (by
 unfold Lv;obtain⟨R,hR,r,H1,⟨rfl,g1⟩,hc⟩:=I4 h hw (by omega) ino;have hlen:=CC hw ino;refine bC_of hc ?_;unfold O7;generalize Au s ino=ct at*;have oR:=SV.oneA hR;have h1:=h.grew g1;have g2:=Grew.app H1 [some (.cells [I ct.1.1,R])];have h2:=h1.grew g2;simp only[Af1,Hd _ _ oR]
 by_cases hc0:ct.2=0
 ·simp only[hc0,Ag7,Ah Da,Y6,Ab]
  obtain⟨R2,hR2,hp⟩:=NU (size:=ct.1.1) hR (by omega) pos n keep;refine As hp ?_;have oR2:=SV.oneA hR2;have g3:=Grew.app (H1++[some (AObj.cells [I ct.1.1,R])]) [some (.cells [I (cS (BU (ct.1.1,ct.1.2) pos n keep)),R2])];have h3:=h2.grew g3;have ff:StF os p p H (H1++[some (AObj.cells [I ct.1.1,R])]++[some (.cells [I (cS (BU (ct.1.1,ct.1.2) pos n keep)),R2])]):=.of_grew ((g1.trans g2).trans g3);simp only[Ac8,Hd _ _ oR2,Bg];cases ht:BU (ct.1.1,ct.1.2) pos n keep with
  | none=>
   have ht':BU ct.1 pos n keep=none:=ht;rw[ht]at h3 ff;simp only[Ab7,Aa3];exact⟨by trivial,p,h3,ff⟩
  | some c2=>
   have ht':¬BU ct.1 pos n keep=none:=by rw[show BU ct.1 pos n keep=some c2 from ht];simp
   have e2:E5 [(I 0),(I 0),(I 0),(I 0),(B false),(.lit (.string ⟨#[]⟩)),(.lit (.string ⟨#[]⟩)),Ac] [(0,1,(I 4)),(1,1,I ino),(2,1,I pos),(3,1,I n),(4,1,B keep)]=some (.agg (By (Xi ino pos n keep) Ac)):=rfl;have hb:=Zv (c:=(ct.1.1,ct.1.2)) (pos:=pos) (n:=n) (keep:=keep);have hs:=hR2.len;have hs0:=hR.len;rw[ht]at hb hs h3 ff g3;simp only at hb;have e3:Ar .sub (I ((cL (some c2)).length:Int)) (I (ct.1.2.length:Int))=some (I (((cL (some c2)).length:Int) - (ct.1.2.length:Int))):=Bv (by omega) (by omega);have g23:=g3.cells (o:=H1.length) (x:=some (AObj.cells [I ct.1.1,R])) Da;simp only[Ac3,Ab4,reduceCtorEq,Ab2,Ah Da,Ah g23,Ab0,hs,hs0,e3];refine bC_of (pC h3 hw (by omega)) ?_;simp only[EH,Ab1,Ah Da,Ah g23,Ag,true_and]
   by_cases c4:Oc s<((cL (some c2)).length:Int) - (ct.1.2.length:Int)
   ·simp only[c4,Aa5,Aw]
    exact⟨by trivial,p,h3,ff⟩
   ·simp only[c4,E0,Ab4,e2,Ab]
    obtain⟨r,H2,⟨rfl,p2,h4,f4⟩,hcall⟩:=iN (bv:=Ac) (o:=Xi ino pos n keep) h3 hw (by omega) SV.nil (jH ino pos n keep);exact bC_of hcall ⟨rfl,p2,h4,ff.trans f4⟩
 ·simp only[hc0,Ad8]
  exact⟨by trivial,p,h2,.of_grew (g1.trans g2)⟩)
theorem pH {N:Nat}{s:StS}{os:Nat}{p:AV}{H:AH}(h:DsAt s os p H)(hw:SW N s)(hN:N<900000)(ino pos n:Int)(keep:Bool):
  ∃r H',(r=I (O7 s ino pos n keep).1∧∃p',DsAt (O7 s ino pos n keep).2 os p' H'∧StF os p p' H H')∧BCall prog 71 [.ptr os 0,I ino,I pos,I n,B keep] H r H':=Lo (by
 unfold GO;obtain⟨R,hR,r,H1,⟨rfl,g1⟩,hc⟩:=NO h hw (by omega) ino;have hlen:=CC hw ino;refine bC_of hc ?_;unfold O7;generalize Au s ino=ct at*;have oR:=SV.oneA hR;have h1:=h.grew g1;have g2:=Grew.app H1 [some (.cells [I ct.1.1,R])];have h2:=h1.grew g2;simp only[Af1,Hd _ _ oR]
 by_cases hc0:ct.2=0
 ·simp only[hc0,Ag7,Ah Da,Y6,Ab]
  obtain⟨R2,hR2,hp⟩:=JR (size:=ct.1.1) hR (by omega) pos n keep;refine As hp ?_;have oR2:=SV.oneA hR2;have g3:=Grew.app (H1++[some (AObj.cells [I ct.1.1,R])]) [some (.cells [I (cS (BU (ct.1.1,ct.1.2) pos n keep)),R2])];have h3:=h2.grew g3;have ff:StF os p p H (H1++[some (AObj.cells [I ct.1.1,R])]++[some (.cells [I (cS (BU (ct.1.1,ct.1.2) pos n keep)),R2])]):=.of_grew ((g1.trans g2).trans g3);simp only[Ac8,Hd _ _ oR2,Bg];cases ht:BU (ct.1.1,ct.1.2) pos n keep with
  | none=>
   have ht':BU ct.1 pos n keep=none:=ht;rw[ht]at h3 ff;simp only[Ab7,Aa3];exact⟨by trivial,p,h3,ff⟩
  | some c2=>
   have ht':¬BU ct.1 pos n keep=none:=by rw[show BU ct.1 pos n keep=some c2 from ht];simp
   have e2:E5 [(I 0),(I 0),(I 0),(I 0),(B false),(.lit (.string ⟨#[]⟩)),(.lit (.string ⟨#[]⟩)),Ac] [(0,1,(I 4)),(1,1,I ino),(2,1,I pos),(3,1,I n),(4,1,B keep)]=some (.agg (By (Xi ino pos n keep) Ac)):=rfl;have hb:=Zv (c:=(ct.1.1,ct.1.2)) (pos:=pos) (n:=n) (keep:=keep);have hs:=hR2.len;have hs0:=hR.len;rw[ht]at hb hs h3 ff g3;simp only at hb;have e3:Ar .sub (I ((cL (some c2)).length:Int)) (I (ct.1.2.length:Int))=some (I (((cL (some c2)).length:Int) - (ct.1.2.length:Int))):=Bv (by omega) (by omega);have g23:=g3.cells (o:=H1.length) (x:=some (AObj.cells [I ct.1.1,R])) Da;simp only[Ac3,Ab4,reduceCtorEq,Ab2,Ah Da,Ah g23,Ab0,hs,hs0,e3];refine bC_of (kF h3 hw (by omega)) ?_;simp only[EH,Ab1,Ah Da,Ah g23,Ag,true_and]
   by_cases c4:Oc s<((cL (some c2)).length:Int) - (ct.1.2.length:Int)
   ·simp only[c4,Aa5,Aw]
    exact⟨by trivial,p,h3,ff⟩
   ·simp only[c4,E0,Ab4,e2,Ab]
    obtain⟨r,H2,⟨rfl,p2,h4,f4⟩,hcall⟩:=X3 (bv:=Ac) (o:=Xi ino pos n keep) h3 hw (by omega) SV.nil (jH ino pos n keep);exact bC_of hcall ⟨rfl,p2,h4,ff.trans f4⟩
 ·simp only[hc0,Ad8]
  exact⟨by trivial,p,h2,.of_grew (g1.trans g2)⟩)
theorem tJ {N:Nat}{s:StS}{os:Nat}{p:AV}{H:AH}(h:DsAt s os p H)(hw:SW N s)(hN:N≤900000)(ino pos:Int):
  ∃r H',(r=.tup [I (Wy s ino pos).1,I (Wy s ino pos).2]∧Grew H H')∧BCall prog 79 [.ptr os 0,I ino,I pos] H r H':=NF (by
 unfold Jv;obtain⟨R,hR,r,H1,⟨rfl,g1⟩,hc⟩:=NO h hw (by omega) ino;have hlen:=CC hw ino;refine bC_of hc ?_;unfold Wy;generalize Au s ino=ct at*;have oR:=SV.oneA hR;have g2:=Grew.app H1 [some (.cells [I ct.1.1,R])];simp only[Af1,Hd _ _ oR]
 by_cases hc0:ct.2=0
 ·simp only[hc0,Ag7,Ah Da,Y6,Ab]
  refine As (Vt hR (by omega) pos) ?_;cases ht:OY ct.1.1 ct.1.2 pos with
  | none=>
   simp only[oI,Ac0,Ag2];exact⟨by trivial,g1.trans g2⟩
  | some n=>
   simp only[oI,Ac6,Ag4];exact⟨by trivial,g1.trans g2⟩
 ·simp only[hc0,Ad8]
  exact⟨by trivial,g1.trans g2⟩)
theorem pF {N:Nat}{s:StS}{os:Nat}{p:AV}{H:AH}(h:StAt s os p H)(hw:SW N s)(hN:N≤900000)(ino pos:Int):
  ∃r H',(r=.tup [I (Wy s ino pos).1,I (Wy s ino pos).2]∧Grew H H')∧BCall prog 78 [.ptr os 0,I ino,I pos] H r H':=Tq (by
 unfold PF
 have key:∃r H',(r=.tup [I (Wy s ino pos).1,I (Wy s ino pos).2]∧Grew H H')∧BCall prog 128 [.ptr os 0,I ino,I pos,.fn (.func 129) [] []] H r H':=Km (by
  unfold I1;obtain⟨R,hR,r,H1,⟨rfl,g1⟩,hc⟩:=I4 h hw (by omega) ino;have hlen:=CC hw ino;refine bC_of hc ?_;unfold Wy;generalize Au s ino=ct at*;have oR:=SV.oneA hR;have g2:=Grew.app H1 [some (.cells [I ct.1.1,R])];simp only[Af1,Hd _ _ oR]
  by_cases hc0:ct.2=0
  ·have gf:C3 prog 129=true:=by kernel_rfl
   simp only[hc0,Ag7,Ah Da,Y6,Aa2,qE,gf,Aq4,aO,Am1,Ak6];refine bC_of (YW hR (by omega) pos _) ?_;cases ht:OY ct.1.1 ct.1.2 pos with
   | none=>
    simp only[oI,Ac0,Ag2];exact⟨by trivial,g1.trans g2⟩
   | some n=>
    simp only[oI,Ac6,Ag4];exact⟨by trivial,g1.trans g2⟩
  ·simp only[hc0,Ad8]
   exact⟨by trivial,g1.trans g2⟩)
 obtain⟨r,H',⟨rfl,g⟩,hc⟩:=key;refine bC_of hc ?_;simp only[Ad9];exact⟨by trivial,g⟩)
theorem tK {N:Nat}{s:StS}{os:Nat}{p:AV}{H:AH}(h:DsAt s os p H)(hw:SW N s)(hN:N≤900000)(ino pos:Int):
  ∃r H',(r=.tup [I (WA s ino pos).1,I (WA s ino pos).2]∧Grew H H')∧BCall prog 81 [.ptr os 0,I ino,I pos] H r H':=NH (by
 unfold Jx;obtain⟨R,hR,r,H1,⟨rfl,g1⟩,hc⟩:=NO h hw (by omega) ino;have hlen:=CC hw ino;refine bC_of hc ?_;unfold WA;generalize Au s ino=ct at*;have oR:=SV.oneA hR;have g2:=Grew.app H1 [some (.cells [I ct.1.1,R])];simp only[Af1,Hd _ _ oR]
 by_cases hc0:ct.2=0
 ·simp only[hc0,Ag7,Ah Da,Y6,Ab]
  refine As (Vu hR (by omega) pos) ?_;cases ht:UU ct.1.1 ct.1.2 pos with
  | none=>
   simp only[oI,Ac0,Ag2];exact⟨by trivial,g1.trans g2⟩
  | some n=>
   simp only[oI,Ac6,Ag4];exact⟨by trivial,g1.trans g2⟩
 ·simp only[hc0,Ad8]
  exact⟨by trivial,g1.trans g2⟩)
theorem pG {N:Nat}{s:StS}{os:Nat}{p:AV}{H:AH}(h:StAt s os p H)(hw:SW N s)(hN:N≤900000)(ino pos:Int):
  ∃r H',(r=.tup [I (WA s ino pos).1,I (WA s ino pos).2]∧Grew H H')∧BCall prog 80 [.ptr os 0,I ino,I pos] H r H':=Tt (by
 unfold PH
 have key:∃r H',(r=.tup [I (WA s ino pos).1,I (WA s ino pos).2]∧Grew H H')∧BCall prog 128 [.ptr os 0,I ino,I pos,.fn (.func 131) [] []] H r H':=Km (by
  unfold I1;obtain⟨R,hR,r,H1,⟨rfl,g1⟩,hc⟩:=I4 h hw (by omega) ino;have hlen:=CC hw ino;refine bC_of hc ?_;unfold WA;generalize Au s ino=ct at*;have oR:=SV.oneA hR;have g2:=Grew.app H1 [some (.cells [I ct.1.1,R])];simp only[Af1,Hd _ _ oR]
  by_cases hc0:ct.2=0
  ·have gf:C3 prog 131=true:=by kernel_rfl
   simp only[hc0,Ag7,Ah Da,Y6,Aa2,qE,gf,Aq4,aO,Am1,Ak6];refine bC_of (YX hR (by omega) pos _) ?_;cases ht:UU ct.1.1 ct.1.2 pos with
   | none=>
    simp only[oI,Ac0,Ag2];exact⟨by trivial,g1.trans g2⟩
   | some n=>
    simp only[oI,Ac6,Ag4];exact⟨by trivial,g1.trans g2⟩
  ·simp only[hc0,Ad8]
   exact⟨by trivial,g1.trans g2⟩)
 obtain⟨r,H',⟨rfl,g⟩,hc⟩:=key;refine bC_of hc ?_;simp only[Ad9];exact⟨by trivial,g⟩)
theorem tM {N:Nat}{s:StS}{os:Nat}{p:AV}{H:AH}(h:DsAt s os p H)(hw:SW N s)(hN:N≤900000)(ino:Int):∃r H',(r=.tup [I (Au s ino).1.1,I (Au s ino).2]∧Grew H H')∧BCall prog 77 [.ptr os 0,I ino] H r H':=NJ (by
 unfold Jz;obtain⟨R,hR,r,H1,⟨rfl,g1⟩,hc⟩:=NO h hw hN ino;have oR:=SV.oneA hR;refine bC_of hc ?_;have g2:=Grew.app H1 [some (AObj.cells [I (Au s ino).1.1,R])];simp only[Ac6,Ab3,Ae7,Hd _ _ oR,AC,Ah Da];exact⟨by trivial,g1.trans g2⟩)
theorem tL {N:Nat}{s:StS}{os:Nat}{p:AV}{H:AH}(h:DsAt s os p H)(hw:SW N s)(hN:N<900000)(ino pos n:Int):
  ∃R,SV IW 1 (LF s ino pos n).1 R∧∃r H',(r=.tup [R,I (LF s ino pos n).2]∧Grew H H')∧BCall prog 25 [.ptr os 0,I ino,I pos,I n] H r H':=by
 obtain⟨R,hR,r,H1,⟨rfl,g1⟩,hc⟩:=NO h hw (by omega) ino;have hlen:=CC hw ino;have oR:=SV.oneA hR;have g2:=Grew.app H1 [some (.cells [I (Au s ino).1.1,R])]
 by_cases hc0:(Au s ino).2=0
 ·obtain⟨d,hd,hdi,hdc,hoff⟩:=KF hw hc0
  by_cases hb:pos<0∨n<0∨4096<n
  ·have e:LF s ino pos n=([],5):=by unfold LF;rw[if_neg (by rw[hc0];simp),if_pos hb]
   rw[e];refine⟨Ac,SV.nil,EE ?_⟩;unfold Ec;refine bC_of hc ?_;simp only[Af1,Hd _ _ oR,hc0,Aa0,Ac1,B1,Bc];have done:True∧Grew H (H1++[some (AObj.cells [I (Au s ino).1.1,R])]):=⟨trivial,g1.trans g2⟩
   by_cases c1:pos<0
   ·simp only[c1,Aa5,show((true==false)=false)from rfl,Cf,Ac4,Bc,Aw]
    exact done
   ·by_cases c2:n<0
    ·simp only[c1,E0,Af0,Af4,B1,c2,show((true==false)=false)from rfl,Cf,Aw]
     exact done
    ·have c3:4096<n:=by omega
     simp only[c1,E0,Ae4,Af4,B1,c2,EH,c3,Ad7];exact done
  ·have e:LF s ino pos n=(KP (Au s ino).1.1 (Au s ino).1.2 pos n,0):=by unfold LF;rw[if_neg (by rw[hc0];simp),if_neg hb]
   rw[e];have hmc:=hw.now.1.mc d hd;obtain⟨R2,hR2,hp⟩:=Vv hR (by omega) pos n;refine⟨R2,hR2,EE ?_⟩;unfold Ec;refine bC_of hc ?_;have c1:¬pos<0:=by omega
   have c2:¬n<0:=by omega
   have c3:¬4096<n:=by omega
   simp only[Af1,Hd _ _ oR,hc0,Aa0,Ac1,B1,Ae4,c1,c2,EH,c3,A4,At,Ah Da,Y6];exact As hp ⟨rfl,g1.trans g2⟩
 ·have e:LF s ino pos n=([],(Au s ino).2):=by unfold LF;rw[if_pos hc0]
  rw[e];refine⟨Ac,SV.nil,EE ?_⟩;unfold Ec;refine bC_of hc ?_;simp only[Af1,Hd _ _ oR,hc0,Ab5,DC];exact⟨by trivial,g1.trans g2⟩
abbrev Ag6:=And.intro @Ac1 @not_true_eq_false
theorem mL {N:Nat}{s:StS}{os:Nat}{p:AV}{H:AH}(h:DsAt s os p H)(hw:SW N s)(hN:N<900000){name to:List UInt8}(hn:name.length≤9223372036854775807)(ht:to.length≤9223372036854775807):
  ∃r H',(r=I (Md s name to).1∧∃p',DsAt (Md s name to).2 os p' H'∧StF os p p' H H')∧BCall prog 73 [.ptr os 0,S (B0 name),S (B0 to)] H r H':=Mk (by
 unfold HZ;have h':=h;obtain⟨a,b,c,d,pv,hc⟩:=h
 have stop:∀(x:Int),Md s name to=(x,s)→(I x:AV)=I (Md s name to).1∧∃p',DsAt (Md s name to).2 os p' H∧StF os p p' H H:=by
  intro x e;rw[e];exact⟨rfl,p,h',.refl _ _ _⟩
 simp only[Ag3,Ah hc.obj];cases ho:s.off with
 | true=>
  simp only[Aw]
  exact stop 8 (by
   have e:Ce s name=(0,8):=by unfold Ce;rw[if_pos ho]
   unfold Md;rw[if_neg (by rw[ho];simp),if_pos (.inl (by rw[e];simp)),e])
 | false=>
  simp only[Ao];refine As (EX hn) ?_
  by_cases hm:DK name
  ·simp only[hm,DC,Bg,Aa2,Ae4,lA]
   refine As (EX ht) ?_
   by_cases hm2:DK to
   ·have hf:=F3 hc.now (hw.now.sm (by omega)) name
    simp only[hm2,DC,Ag4,A4,At,(sD _ _ _ _ _ _ _ _ _).1];refine As hf ?_;simp only[Ad4,GY]
    by_cases hk:AT Nm.name s.now.1 name
    ·have e:Ce s name=(CD s.now.1 name,0):=by unfold Ce;rw[if_neg (by rw[ho];simp),if_neg (λq=>q hm),if_pos hk]
     have eT:Xq .eql (S (B0 name)) (S (B0 to))=some (B (decide (name=to))):=PV;simp only[hk,Ag6,eT,Aa8]
     by_cases he:name=to
     ·subst he
      simp only[eq_self,Ad7];exact stop 0 (by unfold Md;rw[if_neg (λq=>q.2 hm2),if_pos (.inr rfl),e])
     ·have hno:¬(s.off=false∧¬DK to):=λq=>q.2 hm2
      have hne:¬((Ce s name).2≠0∨name=to):=by rintro(q | q);exact q (by rw[e]);exact he q
      have er:Md s name to=G7 s (Vp name to):=by unfold Md;rw[if_neg hno,if_neg hne]
      have e2:E5 [(I 0),(I 0),(I 0),(I 0),(B false),(.lit (.string ⟨#[]⟩)),(.lit (.string ⟨#[]⟩)),Ac] [(0,1,(I 6)),(5,1,S (B0 name)),(6,1,S (B0 to))]=some (.agg (By (Vp name to) Ac)):=rfl;simp only[he,Ac1,e2,Ab];obtain⟨r,H2,⟨rfl,p2,h4,f4⟩,hcall⟩:=X3 (bv:=Ac) (o:=Vp name to) h' hw (by omega) SV.nil (cF hno hne);rw[er];exact bC_of hcall ⟨rfl,p2,h4,f4⟩
    ·simp only[hk,Aa1,DC]
     exact stop 3 (by
      have e:Ce s name=(0,3):=by unfold Ce;rw[if_neg (by rw[ho];simp),if_neg (λq=>q hm),if_neg hk]
      unfold Md;rw[if_neg (λq=>q.2 hm2),if_pos (.inl (by rw[e];simp)),e])
   ·simp only[hm2,E0,Ag2,Af4]
    exact stop 5 (by unfold Md;rw[if_pos ⟨ho,hm2⟩])
  ·simp only[hm,E0,Ag2,Ag0,Bc,show((true==false)=false)from rfl,Cf,eR]
   exact stop 5 (by
    have e:Ce s name=(0,5):=by unfold Ce;rw[if_neg (by rw[ho];simp),if_pos hm]
    unfold Md
    by_cases hm2:DK to
    ·rw[if_neg (λq=>q.2 hm2),if_pos (.inl (by rw[e];simp)),e]
    ·rw[if_pos ⟨ho,hm2⟩]))
theorem mK {N:Nat}{s:StS}{os:Nat}{p:AV}{H:AH}(h:DsAt s os p H)(hw:SW N s)(hN:N<900000){name:List UInt8}(hn:name.length≤9223372036854775807):
  ∃r H',(r=I (Uo s name).1∧∃p',DsAt (Uo s name).2 os p' H'∧StF os p p' H H')∧BCall prog 74 [.ptr os 0,S (B0 name)] H r H':=Mj (by
 unfold HY;have h':=h;obtain⟨a,b,c,d,pv,hc⟩:=h
 have stop:∀(x y:Int),Ce s name=(x,y)→y≠0→(I y:AV)=I (Uo s name).1∧∃p',DsAt (Uo s name).2 os p' H∧StF os p p' H H:=by
  intro x y e hy;have:Uo s name=(y,s):=by unfold Uo;rw[if_pos (by rw[e];exact hy),e]
  rw[this];exact⟨rfl,p,h',.refl _ _ _⟩
 simp only[Ag3,Ah hc.obj];cases ho:s.off with
 | true=>
  simp only[Aw];exact stop 0 8 (by unfold Ce;rw[if_pos ho]) (by omega)
 | false=>
  simp only[Ao];refine As (EX hn) ?_
  by_cases hm:DK name
  ·have hf:=F3 hc.now (hw.now.sm (by omega)) name
   simp only[hm,DC,Ag4,(sD _ _ _ _ _ _ _ _ _).1];refine As hf ?_;simp only[Ad4,GY]
   by_cases hk:AT Nm.name s.now.1 name
   ·have e:Ce s name=(CD s.now.1 name,0):=by unfold Ce;rw[if_neg (by rw[ho];simp),if_neg (λq=>q hm),if_pos hk]
    have er:Uo s name=G7 s (TP name):=by unfold Uo;rw[if_neg (by rw[e];simp)]
    have e2:E5 [(I 0),(I 0),(I 0),(I 0),(B false),(.lit (.string ⟨#[]⟩)),(.lit (.string ⟨#[]⟩)),Ac] [(0,1,(I 7)),(5,1,S (B0 name))]=some (.agg (By (TP name) Ac)):=rfl;simp only[hk,Ag6,e2,Ab];obtain⟨r,H2,⟨rfl,p2,h4,f4⟩,hcall⟩:=X3 (bv:=Ac) (o:=TP name) h' hw (by omega) SV.nil (bZ hm);rw[er];exact bC_of hcall ⟨rfl,p2,h4,f4⟩
   ·simp only[hk,Aa1,DC]
    exact stop 0 3 (by unfold Ce;rw[if_neg (by rw[ho];simp),if_neg (λq=>q hm),if_neg hk]) (by omega)
  ·simp only[hm,E0,Ag2,Aa8]
   exact stop 0 5 (by unfold Ce;rw[if_neg (by rw[ho];simp),if_pos hm]) (by omega))
theorem SV.cutG {b:List UInt8}{v:AV}(hv:SV IW 1 b v){l k:Nat}{lo hi:Option AV}(e1:CA lo 0=some l)(e2:CA hi b.length=some k)(h1:l≤k)(h2:k≤b.length):∃r,Bj 1 v lo hi none=some r∧SV IW 1 ((b.drop l).take (k - l)) r:=by
 have key:∀H:AH,∃r,Bj 1 v lo hi none=some r∧Ad H 1 r=some (((b.drop l).take (k - l)).flatMap IW,((b.drop l).take (k - l)).length)∧(noIds v=true→noIds r=true):=by
  intro H;obtain⟨r,s1,s2,-,-,s5⟩:=Gb (hv.bytes H) (lo:=lo) (hi:=hi) (l:=l) (k:=k) e1 e2 h1 h2;refine⟨r,s1,?_,s5⟩;have hl:((b.drop l).take (k - l)).length=k - l:=by rw[Ah1,Ah8];omega
  rw[s2,Mq,hl];simp only[S8,Pa,Ao0]
 obtain⟨r,s1,s2,s5⟩:=key [];refine⟨r,s1,s5 hv.1,λH=>?_⟩;obtain⟨r2,t1,t2,-⟩:=key H;rw[s1]at t1;injection t1 with t1;rw[t1];exact t2
theorem SV.cutB {b:List UInt8}{v:AV}(hv:SV IW 1 b v){l k:Nat}{li ki:Int}(e1:li=l)(e2:ki=k)(h1:l≤k)(h2:k≤b.length):∃r,Bj 1 v (some (I li)) (some (I ki)) none=some r∧SV IW 1 ((b.drop l).take (k - l)) r:=
 hv.cutG (by subst e1;simp[CA]) (by subst e2;simp[CA]) h1 h2
theorem kB {N:Nat}{s:StS}(hw:SW N s){ino p:Int}{bs:List UInt8}(h0:(Au s ino).2=0)(hd:(G7 s (Fo ino p bs)).1=0):
  (Au (G7 s (Fo ino p bs)).2 ino).2=0∧∀a,(∀x,p≤x→x<p+bs.length→a≠x/8)→(BP (Au (G7 s (Fo ino p bs)).2 ino).1.2 a↔BP (Au s ino).1.2 a):=by
 obtain⟨d,hmem,hino,hcont,hoff⟩:=KF hw h0
 have hdd:(A5 s).1=true:=by
  unfold G7 at hd;split at hd
  ·assumption
  ·simp at hd
 have hoff2:(A5 s).2.off=false:=by
  unfold A5 at hdd⊢;split at hdd
  ·cases hdd
  ·rename_i hn
   rw[if_neg hn]
   split<;>exact hoff
 have e:G7 s (Fo ino p bs)=(0,{(A5 s).2 with now:=AG s.now.1 s.now.2 (Fo ino p bs),pend:=s.pend++[Fo ino p bs]}):=by unfold G7;rw[if_pos hdd]
 have hmay:=hw.now.1
 have ea:AG s.now.1 s.now.2 (Fo ino p bs)=(s.now.1,OA s.now.2 (Fo ino p bs)):=by
  unfold AG;rw[if_pos (OC.2 hmay),if_neg (by simp[Fo]),if_pos (.inl rfl)]
 have hM:=hmay.chg (o:=Fo ino p bs) (.inl rfl)
 have hin:ino∈(OA s.now.2 (Fo ino p bs)).map Nd.ino:=by
  rw[Zz hmay.sd];exact Aj7.2 ⟨d,hmem,hino⟩
 obtain⟨d',hm',hi'⟩:=Aj7.1 hin;obtain⟨g1,g2⟩:=Ud hM hm';obtain⟨k1,k2⟩:=Ud hmay hmem;rw[hi']at g1 g2;rw[hino]at k1 k2
 have ec:Au (G7 s (Fo ino p bs)).2 ino=((d'.size,d'.l),0):=by
  rw[e];unfold Au;simp only[ea,hoff2];rw[if_neg (by simp),if_pos g2,g1]
 rw[ec,hcont];refine⟨rfl,λa ha=>?_⟩;rcases Yy hmay.sd hm' with q | ⟨-,f,hf,hfi,hc⟩
 ·have:d'=d:=by
   obtain⟨z1,-⟩:=Ud hmay q;rw[hi',k1]at z1;exact z1.symm
  rw[this]
 ·have:f=d:=by
   obtain⟨z1,-⟩:=Ud hmay hf;rw[hfi]at z1;have z2:Fl s.now.1 s.now.2 ino=f:=z1;rw[k1]at z2;exact z2.symm
  subst this;unfold G5 at hc;rw[if_pos (show(Fo ino p bs).kind=2 from rfl)]at hc;unfold DI at hc;split at hc
  ·injection hc with hc
   by_cases hb:(Fo ino p bs).b=[]
   ·rw[if_pos hb]at hc
    have:d'.l=f.l:=(congrArg Prod.snd hc).symm;rw[show((d'.size,d'.l):KD).2=d'.l from rfl,this]
   ·rw[if_neg hb]at hc
    have:d'.l=BN f.l p bs:=(congrArg Prod.snd hc).symm;rw[show(((d'.size,d'.l),(0:Int)).1).2=d'.l from rfl,this,cU]
    constructor
    ·rintro(q | ⟨x,x1,x2,x3⟩)
     ·exact q
     ·exact absurd x3 (ha x x1 x2)
    ·exact .inl
  ·cases hc
theorem gT {N:Nat}{s:StS}(hw:SW N s){ino pos:Int}{b:List UInt8}(h0:(Au s ino).2=0):(DI ((Au s ino).1.1,(Au s ino).1.2) pos b).isSome=decide (TF pos b.length):=by
 obtain⟨d,hmem,hino,hcont,hoff⟩:=KF hw h0;have hmc:=hw.now.1.mc d hmem;rw[hcont];unfold DI TF
 by_cases h:0≤pos∧b.length≤4096∧pos≤1099511627776 - b.length
 ·rw[if_pos ⟨hmc,h⟩,decide_eq_true h];rfl
 ·rw[if_neg (λq=>h q.2),decide_eq_false h];rfl
theorem qP {f:Nat}{p n:Int}(h:DB f p n 8=[])(hf:n.toNat≤f):n≤0:=by
 cases f with
 | zero=>omega
 | succ f=>
  unfold DB at h;split at h
  ·simp at h
  ·omega
theorem nK {f:Nat}{p n:Int}{q:Sp}{r:List Sp}(h:DB f p n 8=q::r)(hp:0≤p):0<n∧q=⟨p,min n (8 - p % 8)⟩∧∃g,f=g+1∧r=DB g (p+min n (8 - p % 8)) (n - min n (8 - p % 8)) 8:=by
 cases f with
 | zero=>simp[DB]at h
 | succ f=>
  unfold DB at h;split at h
  ·rename_i hn
   injection h with h1 h2;exact⟨hn,h1.symm,f,rfl,h2.symm⟩
  ·simp at h
theorem dD {N:Nat}{s:StS}{os:Nat}{p v:AV}{H:AH}(h:DsAt s os p H)(hw:SW N s)(ino pos:Int){b:List UInt8}(hN:N+9*b.length<900000)(hv:SV IW 1 b v):
  ∃r H',(r=.tup [I (JE s ino pos b).1.1,I (JE s ino pos b).1.2]∧∃p',DsAt (JE s ino pos b).2 os p' H'∧StF os p p' H H')∧BCall prog 66 [.ptr os 0,I ino,I pos,v] H r H':=Nu (by
 unfold IP;obtain⟨R,hR,r,H1,⟨rfl,g1⟩,hc⟩:=NO h hw (by omega) ino;have hlen:=CC hw ino;refine bC_of hc ?_;unfold JE;have hsome:=gT (pos:=pos) (b:=b) hw (ino:=ino);have h00:(Au s ino).2=0→(Au s ino).2=0:=id;have hkeep:Au s ino=Au s ino:=rfl;generalize hct:Au s ino=ct at*;have oR:=SV.oneA hR;have h1:=h.grew g1;have g2:=Grew.app H1 [some (.cells [I ct.1.1,R])];have h2:=h1.grew g2;have alv:AY v=some (I b.length):=hv.len;simp only[Af1,Hd _ _ oR]
 by_cases hc0:ct.2=0
 ·obtain⟨R2,hR2,hpW⟩:=MD (size:=ct.1.1) hR (by omega) pos hv (by omega)
  have oR2:=SV.oneA hR2;rw[hsome hc0]at hpW;simp only[hc0,Ag7,Ah Da,Y6,Ab];refine As hpW ?_;generalize cS (DI (ct.1.1,ct.1.2) pos b)=sz;have g3:=Grew.app (H1++[some (AObj.cells [I ct.1.1,R])]) [some (.cells [I sz,R2])];have h3:=h2.grew g3;have ff:StF os p p H (H1++[some (AObj.cells [I ct.1.1,R])]++[some (.cells [I sz,R2])]):=.of_grew ((g1.trans g2).trans g3);simp only[Ac8,Hd _ _ oR2,Bg]
  by_cases hf:TF pos b.length
  ·have hf':0≤pos∧b.length≤4096∧pos≤1099511627776 - b.length:=hf
   have e1:E5 [(I 0),(I 0)] [(0,1,I pos),(1,1,I (b.length:Int))]=some (.agg (Br ⟨pos,b.length⟩)):=rfl;obtain⟨V,hV,hp⟩:=cD ⟨pos,b.length⟩ (unit:=8) (by omega);simp only[hf,DC,Ag5,Ab4,alv,e1];refine As hp ?_
   have hpe:Ep ⟨pos,b.length⟩ 8=DB b.length pos b.length 8:=by
    unfold Ep;rw[if_pos ⟨⟨by unfold May;simp only;omega,by unfold May;simp only;omega,by simp only;omega⟩,by simp only;omega,by omega⟩]
    show DB ((b.length:Int)).toNat pos b.length 8=_
    rw[show((b.length:Int)).toNat=b.length by omega]
   have hin:∀q∈Ep ⟨pos,b.length⟩ 8,pos≤q.pos∧0<q.len∧q.len≤8∧q.pos+q.len≤pos+b.length:=λq hq=>Y5 hf hq
   have hpl:=Wi hf;generalize Ep ⟨pos,b.length⟩ 8=L at hV hin hpl hpe;have hosH:os<H.length:=h.os_lt;have hpH:=h.p_lt;have hH1:H.length≤H1.length:=g1.1;generalize (H1++[some (AObj.cells [I ct.1.1,R])]++[some (AObj.cells [I sz,R2])])=H0 at h3 ff;refine J1 (λm x0 x1 x3 x14 x15 x16 H'=>∃(k:Nat) (s':StS) (p':AV) (done:Int) (f:Nat),k+m=L.length∧x0=.ptr os 0∧x1=I ino∧v=x3∧V=x14∧x15=I done∧x16=I k∧DsAt s' os p' H'∧StF os p p' H H'∧SW (N+9*k) s'∧0≤done∧done≤b.length∧L.drop k=DB f (pos+done) (b.length - done) 8∧(b.length - done).toNat≤f∧(Au s' ino).2=0∧(b.length≤done∨∀a,(pos+done)/8≤a→(BP (Au s' ino).1.2 a↔BP ct.1.2 a))∧ZW ct.1.2 ino pos b (L.drop k) s'=ZW ct.1.2 ino pos b L s) ?_ L.length
    ⟨0,s,p,0,b.length,by omega,rfl,rfl,rfl,rfl,rfl,rfl,h3,ff,hw,by omega,by omega,by simpa using hpe,by omega,by rw[hct];exact hc0,.inr (λa _=>by rw[hct]),rfl⟩
   rintro m x0 x1 x3 x14 x15 x16 H2 R3 hR3 ⟨k,s',p',done,f,hk,rfl,rfl,rfl,rfl,rfl,rfl,hs',fs',hws',hd0,hd1,hdrop,hfl,hcs,hhas,heq⟩;rw[← heq];unfold F8;obtain⟨a,b',c,d,pv,hsc⟩:=id hs';have sm:=hws'.now.sm (by omega);rcases Ah2 k L.length with hlt | hge
   ·have hx:=DJ hlt
    have hq:=hin L[k] (As4 hlt);generalize L[k]=q at hx hq;obtain⟨q1,q2,q3,q4⟩:=hq;have kI:(k:Int)<(L.length:Int):=by omega
    have hdr:L.drop k=q::L.drop (k+1):=Ek hx;rw[hdr]at hdrop⊢;obtain⟨c1,c2,g,rfl,c3⟩:=nK hdrop.symm (by omega);have hqp:q.pos=pos+done:=by rw[c2]
    have hql:q.len=min (b.length - done) (8 - (pos+done) % 8):=by rw[c2]
    have hmod:=Ap7 (pos+done) (show(8:Int)≠0 by omega);generalize hW:ZW ct.1.2 ino pos b (q::L.drop (k+1)) s'=W
    -- what is there now
    obtain⟨dd,hmem,hdi,hcont,hoff⟩:=KF hws' hcs;obtain⟨RG,hRG,hpG⟩:=ZN hsc.now sm ino;obtain⟨k1,k2⟩:=Ud hws'.now.1 hmem;rw[hdi]at k1 k2;rw[k1]at hRG hpG;rw[decide_eq_true k2]at hpG;have oRG:=SV.oneA hRG;have hsrt:=Is (hws'.now.1.mc dd hmem).2.2;have hll:=hws'.now.2 dd hmem;have g5:=Grew.app H2 [some (.cells [I dd.size,RG])];have rq:Am false 1 (H2++[some (AObj.cells [I dd.size,RG])]) (.ip (Br q++(L.drop (k+1)).flatMap Br))=some (I q.pos):=rfl;have e3:Ar .quo (I q.pos) (I 8)=some (I (q.pos/8)):=Ky (by omega) (by omega) (by omega);have sh0:Aa 0 (.ip (Br q++(L.drop (k+1)).flatMap Br))=some (.ip (Br q++(L.drop (k+1)).flatMap Br)):=rfl;have sh1:Aa 1 (.ip (Br q++(L.drop (k+1)).flatMap Br))=some (.ip (I q.len::(L.drop (k+1)).flatMap Br)):=rfl;simp only[hV.len,Ad4,kI,Ad7,A0,An,Ah hsc.obj,(sD _ _ _ _ _ _ _ _ _).1];refine As hpG ?_;simp only[Ad9,Ae7,Hd _ _ oRG,AC,Ah Da,Y6,hV.idx VO hx rfl,sh0,rq,e3];refine bP_of (Um (size:=dd.size) hRG hsrt (by omega) (q.pos/8)) ?_;have hs5:=hs'.grew g5;have fs5:StF os p p' H (H2++[some (AObj.cells [I dd.size,RG])]):=fs'.grew g5
    have hhq:BP dd.l (q.pos/8)↔BP ct.1.2 (q.pos/8):=by
     rcases hhas with z | z
     ·omega
     ·have:=z (q.pos/8) (by rw[hqp];exact Int.le_refl _)
      rwa[hcont]at this
    have efind:(if BP dd.l (q.pos/8)then(posL dd.l (q.pos/8):Int)else -1)<0↔¬BP ct.1.2 (q.pos/8):=by
     rw[← hhq]
     by_cases z:BP dd.l (q.pos/8)
     ·rw[if_pos z];constructor
      ·intro y;omega
      ·intro y;exact absurd z y
     ·rw[if_neg z];simp[z]
    generalize (H2++[some (AObj.cells [I dd.size,RG])])=H5 at hs5 fs5;have e4:Ar .add (I done) (I q.len)=some (I (done+q.len)):=Ax (by omega) (by omega);have rl:∀HH:AH,Am false 1 HH (.ip (I q.len::(L.drop (k+1)).flatMap Br))=some (I q.len):=λ_=>rfl
    have deed:¬(¬BP ct.1.2 (q.pos/8)∧Oc s'=0)→bO (Am false 1 H5 (.ip (Br q++(L.drop (k+1)).flatMap Br))) (λv30=>bO (Aa 1 (.ip (Br q++(L.drop (k+1)).flatMap Br))) λv32=>bO (Am false 1 H5 v32) λv33=>bO (Ar .add (I done) v33) λv34=>bO (Bj 1 v (some (I done)) (some v34) none) λv35=>
      bO (E5 [(I 0),(I 0),(I 0),(I 0),(B false),(.lit (.string ⟨#[]⟩)),(.lit (.string ⟨#[]⟩)),Ac] [(0,1,(I 2)),(1,1,I ino),(2,1,v30),(7,1,v35)]) λv36=>bC (BCall prog 62 [.ptr os 0,v36] H5) λv37 H38=>bO (Ar .neq v37 (I 0)) λv39=>bB v39 λt40=>bI t40
       (AV.tup [I done,v37]=.tup [I W.1.1,I W.1.2]∧∃p',DsAt W.2 os p' H38∧StF os p p' H H38)
       (bO (Aa 1 (.ip (Br q++(L.drop (k+1)).flatMap Br))) λv42=>bO (Am false 1 H38 v42) λv43=>bO (Ar .add (I done) v43) λv44=>bO (Ar .add (I k) (I 1)) λv45=>R3 [.ptr os 0,I ino,v,V,v44,v45] H38)):=by
     intro hno;obtain⟨rb,s1,s2⟩:=hv.cutB (li:=done) (ki:=done+q.len) (l:=done.toNat) (k:=(done+q.len).toNat) (by omega) (by omega) (by omega) (by omega)
     have hpb:(b.drop done.toNat).take ((done+q.len).toNat - done.toNat)=Eo b pos q:=by
      unfold Eo;rw[hqp,show(pos+done - pos).toNat=done.toNat by omega,show(done+q.len).toNat - done.toNat=q.len.toNat by omega]
     rw[hpb]at s2;have hpl2:=Wh (b:=b) (pos:=pos) (q:=q) ⟨q1,q2,q3,q4⟩
     have e5:E5 [(I 0),(I 0),(I 0),(I 0),(B false),(.lit (.string ⟨#[]⟩)),(.lit (.string ⟨#[]⟩)),Ac] [(0,1,(I 2)),(1,1,I ino),(2,1,I q.pos),(7,1,rb)]=some (.agg (By (Fo ino q.pos (Eo b pos q)) rb)):=by
      have:=SV.oneA s2
      simp[E5,By,Fo,BE this];rfl
     have rq5:Am false 1 H5 (.ip (Br q++(L.drop (k+1)).flatMap Br))=some (I q.pos):=rfl;simp only[Ab,rq5,sh1,rl,e4,s1,e5];obtain⟨r6,H6,⟨rfl,p6,h6,f6⟩,hcall⟩:=X3 (o:=Fo ino q.pos (Eo b pos q)) hs5 hws' (by omega) s2 (Y4 (by omega));have hws6:=UE (o:=Fo ino q.pos (Eo b pos q)) hws' (Y4 (by omega));refine bC_of hcall ?_;simp only[C2,Aa8]
     by_cases hd:(G7 s' (Fo ino q.pos (Eo b pos q))).1=0
     ·have hwt:wt (Fo ino q.pos (Eo b pos q))≤9:=by
       show 1+(Eo b pos q).length+(if(2:Int)=4 then 4098 else 0)≤9
       rw[if_neg (by omega)];omega
      obtain⟨w1,w2⟩:=kB hws' hcs hd;simp only[hd,Aa0,Ac1,Ab,Ax (a:=k) (b:=1) (by omega) (by omega)];refine hR3 (m - 1) _ _ _ _ _ _ _ (by omega) ⟨k+1,_,p6,done+q.len,g,by omega,rfl,rfl,rfl,rfl,rfl,by simp,h6,fs5.trans f6,hws6.mono (by omega),by omega,by omega,?_,by omega,w1,?_,?_⟩
      ·rw[c3,← hql]
       congr 1<;>omega
      ·rcases Ah2 (done+q.len).toNat b.length with z | z
       ·refine .inr λa ha=>?_
        have hdiv:(pos+(done+q.len))/8=q.pos/8+1:=by omega
        rw[w2 a (λx x1 x2=>by rw[hpl2]at x2;omega)];rcases hhas with y | y
        ·omega
        ·exact y a (by omega)
       ·exact .inl (by omega)
      ·rw[← heq,hdr]
       conv=>rhs;unfold ZW
       rw[if_neg hno,if_neg (by rw[hd];simp)]
     ·have eW:W=((q.pos - pos,(G7 s' (Fo ino q.pos (Eo b pos q))).1),(G7 s' (Fo ino q.pos (Eo b pos q))).2):=by
       rw[← hW];unfold ZW;rw[if_neg hno,if_pos hd]
      rw[eW];simp only[hd,Ab5,DC];exact⟨by rw[show q.pos - pos=done by omega],p6,h6,fs5.trans f6⟩
    simp only[B1,Ab,Bc,decide_eq_decide.2 efind]
    by_cases hh:BP ct.1.2 (q.pos/8)
    ·simp only[hh,Ag6,show((false==true)=false)from rfl,Cf,Yi,Af4]
     exact deed (λx=>x.1 hh)
    ·simp only[hh,not_false_eq_true,DC,Pr,aX,Ab]
     refine bC_of (kF hs5 hws' (by omega)) ?_;simp only[Cp,Ag0]
     by_cases hfr:Oc s'=0
     ·have eW:W=((q.pos - pos,4),s'):=by
       rw[← hW];unfold ZW;rw[if_pos ⟨hh,hfr⟩]
      rw[eW];simp only[hfr,Ad7];exact⟨by rw[show q.pos - pos=done by omega],p',hs5,fs5⟩
     ·simp only[hfr,Ac1]
      exact deed (λx=>hfr x.2)
   ·have kI:¬(k:Int)<(L.length:Int):=by omega
    have hdr:L.drop k=[]:=Aj8 hge;rw[hdr]at hdrop⊢
    have:=qP hdrop.symm hfl
    have hdn:done=b.length:=by omega
    unfold ZW;simp only[Ag1,kI,hV.len,hdn];exact⟨by trivial,p',hs',fs'⟩
  ·simp only[hf,E0,Ac2,Aa1]
   exact⟨by trivial,p,h3,ff⟩
 ·simp only[hc0,Ad8]
  exact⟨by trivial,p,h2,.of_grew (g1.trans g2)⟩)
theorem pJ {N:Nat}{s:StS}{os:Nat}{p v:AV}{H:AH}(h:DsAt s os p H)(hw:SW N s)(hN:N≤900000){l:List Int}(hlen:AY v=some (I l.length))(hidx:∀Hx:AH,(∀i∈Bl v,Hx[i]?=H[i]?)→∀(j:Nat) (z:Int),l[j]?=some z→∃q,Bq 1 v (I j)=some q∧Am false 1 Hx q=some (I z))(hvi:∀i∈Bl v,i<H.length∧i≠os∧i∉Bl p)(hl:l.length≤1000000):
  ∃r H',(r=I (L0 s l).1∧∃p',DsAt (L0 s l).2 os p' H'∧StF os p p' H H')∧BCall prog 75 [.ptr os 0,v] H r H':=NK (by
 unfold J0;obtain⟨a0,b0,c0,d0,pv0,hc0⟩:=id h;simp only[A0,Af2,Ah hc0.obj,Bc];cases ho:s.off with
 | true=>
  have e:L0 s l=(8,s):=by
   have:A5 s=(false,s):=by
    unfold A5;rw[if_pos (.inl ho)]
    congr 1
    cases s;simp only at ho;subst ho;rfl
   unfold L0;rw[this];rfl
  rw[e];simp only[show((true==false)=false)from rfl,Cf,Yi,Ag0,Aw];exact⟨by trivial,p,h,.refl _ _ _⟩
 | false=>
 obtain⟨r,H1,⟨rfl,h1,f1⟩,hc⟩:=kH h hw.armed;simp only[Pr,aX,Ab];refine bC_of hc ?_;obtain⟨e1,e2,e3,e4,e5⟩:=D0 s;have hwd:=Xt hw;have hpl:(A5 s).2.pend.length≤N:=by rw[e3];exact hw.plen
 have hob:∀o∈(A5 s).2.pend,cX o:=by rw[e3];exact hw.ob
 have hkw:∃a,Few1 a (A5 s).2.kept∧a+KC (A5 s).2.pend≤N:=by rw[e2,e3];exact hw.kept
 unfold L0;rw[← e2,← e3];simp only[Bg,Af4];cases hd:(A5 s).1 with
 | false=>
  simp only[Aa3,At];exact⟨by trivial,p,h1,f1⟩
 | true=>
  clear e1 e2 e3 e4 e5 hc hc0 ho;generalize (A5 s).2=s1 at*;simp only[if_true];obtain⟨a,b,c,d,pv,h1⟩:=h1;have hpn:pv.length=s1.pend.length:=by rw[← h1.pm,Ai2]
  have hidp:∀j∈Bl p,j<H1.length:=λj q=>A7 h1.ps j q
  have hos:os<H1.length:=h1.lt;have hH:H.length≤H1.length:=f1.len;simp only[At8,Ao];generalize hres:Fh l s1.pend (s1.kept,[])=res;refine Kv (λm x0 x1 x5 x6 H'=>∃(k:Nat) (ki:U0) (c' d':AV) (lv:List OpV),k+m=s1.pend.length∧x0=.ptr os 0∧v=x1∧x6=I k∧DsC {s1 with kept:=ki} os a b c' d' p pv H'∧StF os p p H1 H'∧Fh l (s1.pend.drop k) (ki,lv.map OpV.o)=res∧(∃a,Few1 a ki∧a+KC (lv.map OpV.o)+KC (s1.pend.drop k)≤N)∧Ad H' 8 x5=some (lv.flatMap HJ,lv.length)∧Bh x5=true∧(∀j∈Bl x5,H1.length≤j)) ?_ s1.pend.length ⟨0,s1.kept,c,d,[],by omega,rfl,rfl,rfl,h1,.refl _ _ _,hres,by obtain⟨x,y,z⟩:=hkw;exact⟨x,y,by simp only[Ad0];simp only[KC,Af7]at*;omega⟩,rfl,rfl,by simp[Bl]⟩;rintro m x0 x1 x5 x6 H2 R hR ⟨k,ki,c',d',lv,hk,rfl,rfl,rfl,h2,f2,hsy,hfew,ls,lo,li⟩
  have lvN:lv.length≤N:=by
   obtain⟨x,-,y⟩:=hfew
   have:=cV (l:=lv.map OpV.o)
   rw[Ai2]at this;omega
  have alv:AY p=some (I (s1.pend.length:Nat)):=by rw[← hpn];exact CU h2.ps
  have hl2:=f2.len;unfold Gp;simp only[Ag3,Ah h2.obj,alv,B1];rcases Ah2 k s1.pend.length with hlt | hge
  ·have hx:=DJ (show k<pv.length by omega)
   generalize pv[k]'(by omega)=x at hx;have hxo : s1.pend[k]? = some x.o:=by rw [← h1.pm,Ai6,hx]; rfl
   have hdrop:s1.pend.drop k=x.o::s1.pend.drop (k+1):=Ek hxo;have hxb:=hob x.o (Ag9 hxo);rw[hdrop]at hsy hfew;have ox:=SV.oneA x.h;have kI:(k:Int)<(s1.pend.length:Int):=by omega
   obtain⟨pp,q1,q2⟩:=lP h2.ps hx;have n8:A9 H2 (.agg [(I 0),(I 0),(I 0),(I 0),(B false),(.lit (.string ⟨#[]⟩)),(.lit (.string ⟨#[]⟩)),Ac])=some (.ptr H2.length 0,H2++[some (.cells [I 0,I 0,I 0,I 0,B false,S ⟨#[]⟩,S ⟨#[]⟩,Ac])]):=by simp
   have t8:AJ 8 (H2++[some (.cells [I 0,I 0,I 0,I 0,B false,S ⟨#[]⟩,S ⟨#[]⟩,Ac])]) (.ptr H2.length 0) (.agg (By x.o x.bv))=some (H2++[some (.cells (By x.o x.bv))]):=by
    rw[AF (n:=8) (xs:=By x.o x.bv) (cs:=[I 0,I 0,I 0,I 0,B false,S ⟨#[]⟩,S ⟨#[]⟩,Ac]) (by simp[By,ox]) (by simp) rfl (by simp)];simp[AZ,By]
   have g3:=Grew.app H2 [some (.cells (By x.o x.bv))];have rd8:Aq true 8 (By x.o x.bv) 0=some (.agg (By x.o x.bv)):=rfl;have i0:(By x.o x.bv)[0]?=some (I x.o.kind):=rfl;have i1:(By x.o x.bv)[1]?=some (I x.o.ino):=rfl;have h3:=h2.grew g3;have f3:StF os p p H1 (H2++[some (AObj.cells (By x.o x.bv))]):=f2.grew g3;have ls3:=g3.slice ls;have sm:Sm ki.1 ki.2:=by obtain⟨x,y,z⟩:=hfew;exact y.sm (by omega)
   have topx:(H2++[some (AObj.cells (By x.o x.bv))])[H2.length]?=some (some (.cells (By x.o x.bv))):=Da;have hl3:(H2++[some (AObj.cells (By x.o x.bv))]).length=H2.length+1:=by simp
   simp only[kI,Ad7,q1,q2,Ab,n8,AA,t8,AC];generalize (H2++[some (AObj.cells (By x.o x.bv))])=H3 at*;simp only[Ab3,Ah topx,i0,Cp,Bc]
   have inner:Eu R (.ptr os 0) v x5 (I k) (.ptr H2.length 0) (B (decide (x.o.kind=1∨x.o.kind=6∨x.o.kind=7))) (I 0) H3 (λr H'=>r=I 0∧∃p',DsAt {s1 with kept:=res.1,pend:=res.2} os p' H'∧StF os p p' H H'):=by
    refine JL R (λn y0 y1 y5 y6 y7 y8 y9 H'=>∃j:Nat,j+n=l.length∧y0=.ptr os 0∧v=y1∧x5=y5∧y6=I k∧y7=.ptr H2.length 0∧y8=B (decide (x.o.kind=1∨x.o.kind=6∨x.o.kind=7∨x.o.ino∈l.take j))∧y9=I j∧H3=H') ?_ l.length ⟨0,by omega,rfl,rfl,rfl,rfl,rfl,by simp,rfl,rfl⟩;rintro n y0 y1 y5 y6 y7 y8 y9 H' T hT ⟨j,hj,rfl,rfl,rfl,rfl,rfl,rfl,rfl,rfl⟩;unfold FY;simp only[hlen,Ad4];rcases Ah2 j l.length with hjl | hjl
    ·have hz:=DJ hjl
     generalize l[j]=z at hz;have jI:(j:Int)<(l.length:Int):=by omega
     obtain⟨qq,qa,qb⟩:=hidx H3 (λi hi=>by
      obtain⟨k1,k2,k3⟩:=hvi i hi;rw[f3.same i (by omega) k2 k3,f1.same i k1 k2 k3]) j z hz
     have q2:Ar .add (I (j:Int)) (I 1)=some (I ((j+1:Nat):Int)):=by rw[Ax (by omega) (by omega)];congr 3
     have htk:l.take (j+1)=l.take j++[z]:=by rw[Aj6,hz];rfl
     by_cases hs:x.o.kind=1∨x.o.kind=6∨x.o.kind=7∨x.o.ino∈l.take j
     ·simp only[jI,hs,Aa5,Aw,Bc,show((true==false)=false)from rfl,Cf,Ab,A4,q2]
      refine hT (n - 1) _ _ _ _ _ _ _ _ (by omega) ⟨j+1,by omega,rfl,rfl,rfl,rfl,rfl,?_,rfl,rfl⟩;rw[decide_eq_true];rw[htk];rcases hs with q | q | q | q
      ·exact .inl q
      ·exact .inr (.inl q)
      ·exact .inr (.inr (.inl q))
      ·exact .inr (.inr (.inr (List.mem_append_left _ q)))
     ·simp only[jI,hs,Ad7,E0,Ae4,Ab3,Ah topx,i1,qa,qb,Cp,A4,At,q2]
      refine hT (n - 1) _ _ _ _ _ _ _ _ (by omega) ⟨j+1,by omega,rfl,rfl,rfl,rfl,rfl,?_,rfl,rfl⟩;rw[htk];refine congrArg (fun t:Bool=>(B t:AV)) (decide_eq_decide.2 ?_);simp only[Aa9]
      constructor
      ·intro q;exact .inr (.inr (.inr (.inr q)))
      ·rintro(q | q | q | q | q)
       ·exact absurd (.inl q) hs
       ·exact absurd (.inr (.inl q)) hs
       ·exact absurd (.inr (.inr (.inl q))) hs
       ·exact absurd (.inr (.inr (.inr q))) hs
       ·exact q
    ·have jI:¬(j:Int)<(l.length:Int):=by omega
     rw[Ah4 hjl];simp only[jI,Ac1]
     by_cases hst:N7 l x.o
     ·have hst':x.o.kind=1∨x.o.kind=6∨x.o.kind=7∨x.o.ino∈l:=hst
      obtain⟨RA,hRA,hpA⟩:=Sn (o:=x.o) (bv:=x.bv) h3.kept sm x.h (by have:=hxb.1;omega) (by have:=hxb.2.1;omega) (by have:=hxb.2.2;omega);obtain⟨a',b',rfl,oa,ob⟩:=hRA.agg2;simp only[hst',Ad7,A0,Ab,An,Ah h3.obj,(sD _ _ _ _ _ _ _ _ _).2,Ah topx,rd8];refine bP_of hpA ?_;obtain⟨h4,f4⟩:=h3.set (s':={s1 with kept:=AG ki.1 ki.2 x.o}) h3.now hRA rfl;simp only[(zdfnZ h3.obj oa ob).2,AC];rw[F7];unfold DQ;simp only[Ax (a:=k) (b:=1) (by omega) (by omega),Ab];refine hR (m - 1) _ _ _ _ _ (by omega) ⟨k+1,_,a',b',lv,by omega,rfl,rfl,by simp,h4,f3.trans f4,?_,?_,?_,lo,li⟩
      ·rw[← hsy];conv=>rhs;unfold Fh
       rw[if_pos hst]
      ·obtain⟨y,z,w⟩:=hfew
       have e:KC (x.o::s1.pend.drop (k+1))=wt x.o+KC (s1.pend.drop (k+1)):=by simp[KC]
       exact⟨y+wt x.o,z.step x.o,by omega⟩
      ·exact Af ls3 λj hj=>by
        have:=li j hj
        exact f4.same j (by have:=A7 ls3 j hj;omega) (by omega) (λq=>by have:=hidp j q;omega)
     ·have hst':¬(x.o.kind=1∨x.o.kind=6∨x.o.kind=7∨x.o.ino∈l):=hst
      have eA:FC H3 8 1 (BI [(I 0),(I 0),(I 0),(I 0),(B false),(.lit (.string ⟨#[]⟩)),(.lit (.string ⟨#[]⟩)),Ac] 1) [(0,8,.agg (By x.o x.bv))]=some (.sl H3.length 0 1 8 (.ex 1),H3++[some (.cells (HJ x))]):=by
       simp[FC,BI,HJ,By,Mv,ox,AZ]
      have g4:=Grew.app H3 [some (.cells (HJ x))];have x1':Bm (H3++[some (AObj.cells (HJ x))]) 8 (.sl H3.length 0 1 8 (.ex 1))=some (HJ x,1):=A3 (by simp[Ad,HJ,By]);obtain⟨r,H5,a1,a2,a3,a4,a5,a6⟩:=CT (bytes:=96) (g4.slice ls3) lo x1' (by omega);simp only[hst',Ac1,Ah topx,rd8,Ab,eA,AA,a1];rw[F7];unfold DQ;simp only[Ax (a:=k) (b:=1) (by omega) (by omega),Ab];have h4:=h3.grew g4;have f4:=f3.grew g4;have lt4:∀j,j<H1.length→j∉Bl x5:=λj hj q=>by have:=li j q;omega
      have len4:(H3++[some (AObj.cells (HJ x))]).length=H3.length+1:=by simp
      have k5:∀j,j<H1.length→H5[j]?=(H3++[some (AObj.cells (HJ x))])[j]?:=λj hj=>a5 j (by omega) (lt4 j hj)
      refine hR (m - 1) _ _ _ _ _ (by omega) ⟨k+1,ki,c',d',lv++[x],by omega,rfl,rfl,by simp,?_,?_,?_,?_,?_,a2,?_⟩
      ·exact⟨by rw[k5 os hos];exact h4.obj,h4.now,h4.kept,h4.pm,Af h4.ps λj hj=>k5 j (hidp j hj),h4.po,h4.pi⟩
      ·exact⟨by omega,λj hj hne hjp=>by rw[k5 j hj];exact f4.same j hj hne hjp,λ_ q=>.inl q⟩
      ·rw[← hsy];conv=>rhs;unfold Fh
       rw[if_neg hst];simp
      ·obtain⟨y,z,w⟩:=hfew
       have e:KC (x.o::s1.pend.drop (k+1))=wt x.o+KC (s1.pend.drop (k+1)):=by simp[KC]
       exact⟨y,z,by rw[Aj4];simp only[Ad2,VB];omega⟩
      ·simpa using a3
      ·intro j hj
       rcases a6 j hj with q | q
       ·exact li j q
       ·omega
   by_cases c1:x.o.kind=1
   ·simp only[c1,Aa5,show((true==false)=false)from rfl,Cf,Ab,A4,Bc]
    simp only[c1,true_or,DC]at inner;exact inner
   ·by_cases c6:x.o.kind=6
    ·have n1:¬(6:Int)=1:=by omega
     simp only[c6,n1,Af0,E0,show((true==false)=false)from rfl,Cf,Ab,Ah topx,Ag,i0,Cp,A4,At];simp only[c6,true_or,or_true,DC]at inner;exact inner
    ·simp only[c1,c6,E0,Ae4,Ab,Ah topx,Ag,i0,Cp,A4,At]
     simp only[c1,c6,false_or]at inner;exact inner
  ·have kI:¬(k:Int)<(s1.pend.length:Int):=by omega
   have hdrop:s1.pend.drop k=[]:=Aj8 hge;rw[hdrop]at hsy hfew;unfold Fh at hsy;rw[← hsy];have e7:AJ 1 H2 (.ptr os 4) x5=some (H2.set os (some (.cells [a,b,c',d',x5,I s1.cap,I s1.made,I s1.armed,B s1.off]))):=cY h2.obj (by simp) (AI lo);have hnx:os∉Bl x5:=λq=>by have:=li os q;omega
   simp only[kI,Ac1,e7,AC];refine⟨by trivial,x5,⟨a,b,c',d',lv,KI h2.lt,h2.now,h2.kept,rfl,Af ls λj hj=>Cg (λe=>hnx (by rw[e];exact hj)),lo,hnx⟩,?_⟩;refine⟨by rw[Aj2];omega,λj hj hne hjp=>?_,λj hj=>.inr (by have:=li j hj;omega)⟩;rw[Cg (Ak2 hne),f2.same j (by omega) hne hjp,f1.same j hj hne hjp])
theorem aA {N:Nat}{s:StS}{os:Nat}{p v:AV}{H:AH}(h:DsAt s os p H)(hw:SW N s)(hN:N≤900000){l:List Int}(hv:SV UH 1 l v)(hl:l.length≤1000000):
  ∃r H',(r=I (L0 s l).1∧∃p',DsAt (L0 s l).2 os p' H'∧StF os p p' H H')∧BCall prog 75 [.ptr os 0,v] H r H':=
 pJ h hw hN hv.len (λ_ _ j z hz=>⟨_,hv.idx (λ_=>rfl) hz rfl,rfl⟩) (by rw[hv.noId];simp) hl
theorem tI {ns:List Nm}{ds:List Nd}{v:AV}(hv:ImV ns ds v)(hb:Sm ns ds):∃R,ImV ns ds R∧BPure prog 127 [v] R:=by
 have hids:=hv.noIds;obtain⟨a,b,dv,rfl,sa,sb,rfl⟩:=hv;have b1:=hb.1;have b2:=hb.2.1;rw[Ai2]at b2;obtain⟨r,X,⟨a',b',ew,rfl,hew,-,ow⟩,hc⟩:=Wq (H:=[]) sa sb (by omega) b2 (λd hd=>hb.2.2.2 d.nd (Ai7 hd));obtain⟨R,hR,fR⟩:=ow.lend;rw[hew]at hR;exact BPure.FZ hids ⟨_,X,⟨R,fR,hR⟩,hc⟩
theorem Uk {bits:List Bool}:∀{r:List OpM} {i:Nat} {x:U0},bits.length≤i→Hg bits i r x=x
 | [],i,x,h=>rfl
 | o::r,i,x,h=>by
  unfold Hg;have:NR bits i=false:=by unfold NR;rw[Am3 h];rfl
  rw[if_neg (by rw[this];simp)];exact Uk (by omega)
theorem gY {N:Nat}{s:StS}{os:Nat}{p v:AV}{H:AH}(h:DsAt s os p H)(hw:SW N s)(hN:N≤900000){l:List Bool}(hv:SV WT 1 l v)(hl:l.length≤1000000):
  ∃r H',(r=.tup []∧DsAt (ME s l) os Ac H'∧StF os p Ac H H')∧BCall prog 76 [.ptr os 0,v] H r H':=LA (by
 unfold Hq;obtain⟨a,b,c,d,pv,h1⟩:=h;have hpl:=hw.plen;have hob:=hw.ob;have hpn:pv.length=s.pend.length:=by rw[← h1.pm,Ai2]
 have alv:AY p=some (I (s.pend.length:Nat)):=by rw[← hpn];exact CU h1.ps
 unfold ME;generalize hres:Hg l 0 s.pend s.kept=res;have hos:os<H.length:=h1.lt;refine IZ (λm x0 x1 x4 H'=>∃(k:Nat) (ki:U0) (c' d':AV),k+m=s.pend.length∧x0=.ptr os 0∧v=x1∧x4=I k∧DsC {s with kept:=ki} os a b c' d' p pv H'∧StF os p p H H'∧Hg l k (s.pend.drop k) ki=res∧(∃a,Few1 a ki∧a+KC (s.pend.drop k)≤N)) ?_ s.pend.length ⟨0,s.kept,c,d,by omega,rfl,rfl,rfl,h1,.refl _ _ _,hres,by simp only[Ak9];exact hw.kept⟩;rintro m x0 x1 x4 H2 R hR ⟨k,ki,c',d',hk,rfl,rfl,rfl,h2,f2,hsy,hfew⟩;unfold Fv;have sm:Sm ki.1 ki.2:=by obtain⟨x,y,z⟩:=hfew;exact y.sm (by omega)
 -- the end
 have fin:res=ki→bO (Ae (.ptr os 0)) (λv30=>bO (Aa 2 v30) λv31=>bO (Am true 2 H2 v31) λv32=>bC (BCall prog 127 [v32] H2) λv33 H34=>bO (Ae (.ptr os 0)) λv35=>bO (Aa 0 v35) λv36=>bS (AJ 2 H34 v36 v33) λH37=>
   bO (Ae (.ptr os 0)) λv38=>bO (Aa 4 v38) λv39=>bS (AJ 1 H37 v39 Ac) λH40=>bO (Ae (.ptr os 0)) λv41=>bO (Aa 7 v41) λv42=>bS (AJ 1 H40 v42 (I (-1))) λH43=>bO (Ae (.ptr os 0)) λv44=>bO (Aa 8 v44) λv45=>bS (AJ 1 H43 v45 (B false)) λH46=>
   AV.tup []=.tup []∧DsAt {s with kept:=res,now:=res,pend:=[],off:=false,armed:=-1} os Ac H46∧StF os p Ac H H46):=by
  rintro rfl;obtain⟨RC,hRC,hpC⟩:=tI h2.kept sm;obtain⟨a',b',rfl,oa,ob⟩:=hRC.agg2;have l2:=h2.lt;simp only[A0,Ab,An,Ah h2.obj,(sD _ _ _ _ _ _ _ _ _).2];refine bC_of (hpC H2) ?_;have s1:=(zdfnZ h2.obj oa ob).1;have c1:(H2.set os (some (AObj.cells [a',b',c',d',p,I s.cap,I s.made,I s.armed,B s.off])))[os]?=some (some (.cells [a',b',c',d',p,I s.cap,I s.made,I s.armed,B s.off])):=KI l2;have s2:=cY c1 (k:=4) (x:=Ac) (by simp) rfl;have c2:(H2.set os (some (AObj.cells [a',b',c',d',Ac,I s.cap,I s.made,I s.armed,B s.off])))[os]?=some (some (.cells [a',b',c',d',Ac,I s.cap,I s.made,I s.armed,B s.off])):=KI l2;have s3:=cY c2 (k:=7) (x:=I (-1)) (by simp) rfl;have c3:(H2.set os (some (AObj.cells [a',b',c',d',Ac,I s.cap,I s.made,I (-1),B s.off])))[os]?=some (some (.cells [a',b',c',d',Ac,I s.cap,I s.made,I (-1),B s.off])):=KI l2;have s4:=cY c3 (k:=8) (x:=B false) (by simp) rfl;simp only[List.set_set,Ar5,Ar4]at s2 s3 s4;simp only[s1,AC,s2,s3,s4];refine⟨by trivial,⟨a',b',c',d',[],KI l2,hRC,h2.kept,rfl,rfl,rfl,by simp[Bl]⟩,?_⟩;refine⟨by rw[Aj2];exact f2.len,λj hj hne hjp=>?_,λj hj=>by simp[Bl]at hj⟩;rw[Cg (Ak2 hne),f2.same j hj hne hjp]
 simp only[A0,Af2,Ah h2.obj,alv,B1,Bc];simp only[A0,Ab,An]at fin;rcases Ah2 k s.pend.length with hlt | hge
 ·have hx:=DJ (show k<pv.length by omega)
  generalize pv[k]'(by omega)=x at hx;have hxo : s.pend[k]? = some x.o:=by rw [← h1.pm,Ai6,hx]; rfl
  have hdrop:s.pend.drop k=x.o::s.pend.drop (k+1):=Ek hxo;have hxb:=hob x.o (Ag9 hxo);have kI:(k:Int)<(s.pend.length:Int):=by omega
  obtain⟨pp,q1,q2⟩:=lP h2.ps hx;rcases Ah2 k l.length with hkl | hkl
  ·rw[hdrop]at hsy hfew
   have hb:=DJ hkl;generalize l[k]=bt at hb;have hbt:NR l k=bt:=by unfold NR;rw[hb];rfl
   have kl:(k:Int)<(l.length:Int):=by omega
   have q0:∀HH:AH,Am false 1 HH (.ip (WT bt++(l.drop (k+1)).flatMap WT))=some (B bt):=λ_=>rfl
   simp only[kI,Aa5,Pr,Ac4,hv.len,B1,kl,Aw,hv.idx qW hb rfl,q0];cases bt with
   | true=>
    obtain⟨RA,hRA,hpA⟩:=Sn (o:=x.o) (bv:=x.bv) h2.kept sm x.h (by have:=hxb.1;omega) (by have:=hxb.2.1;omega) (by have:=hxb.2.2;omega);obtain⟨a',b',rfl,oa,ob⟩:=hRA.agg2;have q2':Am true 8 H2 pp=some (.agg (By x.o x.bv)):=q2;simp only[Aw,Ab,(sD _ _ _ _ _ _ _ _ _).2,q1,q2'];refine bP_of hpA ?_;obtain⟨h4,f4⟩:=h2.set (s':={s with kept:=AG ki.1 ki.2 x.o}) h2.now hRA rfl;simp only[(zdfnZ h2.obj oa ob).2,AC];rw[Fb];unfold D1;simp only[Ax (a:=k) (b:=1) (by omega) (by omega),Ab];refine hR (m - 1) _ _ _ _ (by omega) ⟨k+1,_,a',b',by omega,rfl,rfl,by simp,h4,f2.trans f4,?_,?_⟩
    ·rw[← hsy];conv=>rhs;unfold Hg
     rw[if_pos hbt]
    ·obtain⟨y,z,w⟩:=hfew
     have e:KC (x.o::s.pend.drop (k+1))=wt x.o+KC (s.pend.drop (k+1)):=by simp[KC]
     exact⟨y+wt x.o,z.step x.o,by omega⟩
   | false=>
    simp only[Ao];rw[Fb];unfold D1;simp only[Ax (a:=k) (b:=1) (by omega) (by omega),Ab];refine hR (m - 1) _ _ _ _ (by omega) ⟨k+1,ki,c',d',by omega,rfl,rfl,by simp,h2,f2,?_,?_⟩
    ·rw[← hsy];conv=>rhs;unfold Hg
     rw[if_neg (by rw[hbt];simp)]
    ·obtain⟨y,z,w⟩:=hfew
     have e:KC (x.o::s.pend.drop (k+1))=wt x.o+KC (s.pend.drop (k+1)):=by simp[KC]
     exact⟨y,z,by omega⟩
  ·have kl:¬(k:Int)<(l.length:Int):=by omega
   rw[Uk hkl]at hsy;simp only[kI,Aa5,Pr,Ac4,hv.len,B1,kl,Ac1]
   have:=fin hsy.symm
   simp only[Ah h2.obj]at this⊢;exact this
 ·have kI:¬(k:Int)<(s.pend.length:Int):=by omega
  have hdrop:s.pend.drop k=[]:=Aj8 hge;rw[hdrop]at hsy;unfold Hg at hsy;simp only[kI,Ac1,show((false==true)=false)from rfl,Cf,Af4]
  have:=fin hsy.symm
  simp only[Ah h2.obj]at this⊢;exact this)
def nameT:List (List UInt8):=[[97],[98],[99],[100,115,116],[109,97,112],[109,97,112,46,110,101,119],[120,45,49],[100,105,115,107],[],[65],[45,97],[97,47,98],[97,98,99,100,101,102,103,104,105,106,107,108,109,110,111,112,113,114,115,116],[97,98,99,100,101,102,103,104,105,106,107,108,109,110,111,112,113,114,115,116,117],[97,98,99,100,101,102,103,104,105,106,107,108,109,110,111,112],[97,98,99,100,101,102,103,104,105,106,107,108,109,110,111,112,113],[46],[48]]
def Jk (k:UInt8):List UInt8:=nameT.getD (k.toNat % 18) []
theorem pD (k:UInt8):BPure prog 38 [.lit (.int .u8 k.toNat)] (S (B0 (Jk k))):=BPure.val rfl rfl (Us (by
 unfold FO;have e1:FC [] 1 18 (BI [(.lit (.string ⟨#[]⟩))] 18) [(0,1,(.lit (.string ⟨#[97]⟩))),(1,1,(.lit (.string ⟨#[98]⟩))),(2,1,(.lit (.string ⟨#[99]⟩))),(3,1,(.lit (.string ⟨#[100,115,116]⟩))),(4,1,(.lit (.string ⟨#[109,97,112]⟩))),(5,1,(.lit (.string ⟨#[109,97,112,46,110,101,119]⟩))),(6,1,(.lit (.string ⟨#[120,45,49]⟩))),(7,1,(.lit (.string ⟨#[100,105,115,107]⟩))),(8,1,(.lit (.string ⟨#[]⟩))),(9,1,(.lit (.string ⟨#[65]⟩))),(10,1,(.lit (.string ⟨#[45,97]⟩))),(11,1,(.lit (.string ⟨#[97,47,98]⟩))),(12,1,(.lit (.string ⟨#[97,98,99,100,101,102,103,104,105,106,107,108,109,110,111,112,113,114,115,116]⟩))),(13,1,(.lit (.string ⟨#[97,98,99,100,101,102,103,104,105,106,107,108,109,110,111,112,113,114,115,116,117]⟩))),(14,1,(.lit (.string ⟨#[97,98,99,100,101,102,103,104,105,106,107,108,109,110,111,112]⟩))),(15,1,(.lit (.string ⟨#[97,98,99,100,101,102,103,104,105,106,107,108,109,110,111,112,113]⟩))),(16,1,(.lit (.string ⟨#[46]⟩))),(17,1,(.lit (.string ⟨#[48]⟩)))]=some (.sl 0 0 18 1 (.ex 18),[some (.cells (nameT.map λs=>S (B0 s)))]):=by rfl
 have hm:k.toNat % 18<18:=Nat.mod_lt _ (by omega)
 have e2:Ar .rem (.lit (.int .u8 k.toNat)) (.lit (.int .u8 18))=some (.lit (.int .u8 ((k.toNat % 18:Nat):Int))):=by
  simp[Ar,JN,Int.tmod_eq_emod_of_nonneg]
 rw[e1,e2];simp only[AA,Ab]
 have e3:Bq 1 (.sl 0 0 18 1 (.ex 18)) (.lit (.int .u8 ((k.toNat % 18:Nat):Int)))=some (.ptr 0 (k.toNat % 18)):=by
  simp[Bq,L3];omega
 have e4:Am false 1 [some (.cells (nameT.map λs=>S (B0 s)))] (.ptr 0 (k.toNat % 18))=some (S (B0 (Jk k))):=by
  rw[Ah (cs:=nameT.map λs=>S (B0 s)) rfl]
  have:nameT[k.toNat % 18]?=some (Jk k):=by
   unfold Jk;rw[Ai5,DJ (show k.toNat % 18<nameT.length by simp[nameT];omega)];rfl
  simp[Ag,this]
 rw[e3];simp only[Ab,e4]))
structure Stp where
 kind:UInt8
 name:UInt8
 to:UInt8
 ino:Int
 pos:Int
 n:Int
 b:List UInt8
 keep:Bool
 bits:List Bool
 inos:List Int
structure StpV where
 s:Stp
 bv:AV
 tv:AV
 iv:AV
 hb:SV IW 1 s.b bv
 ht:SV WT 1 s.bits tv
 hi:SV UH 1 s.inos iv
def CW (x:StpV):List AV:=[.lit (.int .u8 x.s.kind.toNat),.lit (.int .u8 x.s.name.toNat),.lit (.int .u8 x.s.to.toNat),I x.s.ino,I x.s.pos,I x.s.n,x.bv,B x.s.keep,x.tv,x.iv]
theorem XP (x:StpV):(CW x).length=10:=rfl
theorem fH (x:StpV):Az (CW x)=true:=by simp[CW,Az,noIds,x.hb.1,x.ht.1,x.hi.1]
def O1 (x:Stp):Prop:=(60<x.b.length∧x.b.length≠4097)∨(200<x.n∧x.n≤32768)∨200<x.bits.length∨30<x.inos.length
instance (x:Stp):Decidable (O1 x):=by unfold O1;infer_instance
def iP (l:List StpV)(most:Int):Prop:=(l.length:Int)≤most∧∀x∈l,¬O1 x.s
instance (l:List StpV) (most:Int):Decidable (iP l most):=by unfold iP;infer_instance
theorem zT (H:AH):A9 H (.agg [u0Z,u0Z,u0Z,(I 0),(I 0),(I 0),Ac,(B false),Ac,Ac])=some (.ptr H.length 0,H++[some (.cells [.lit (.int .u8 0),.lit (.int .u8 0),.lit (.int .u8 0),I 0,I 0,I 0,Ac,B false,Ac,Ac])]):=by simp
theorem zdfyZ (H:AH)(x:StpV):AJ 10 (H++[some (.cells [.lit (.int .u8 0),.lit (.int .u8 0),.lit (.int .u8 0),I 0,I 0,I 0,Ac,B false,Ac,Ac])]) (.ptr H.length 0) (.agg (CW x))=some (H++[some (.cells (CW x))]):=by
 have o1:=SV.oneA x.hb;have o2:=SV.oneA x.ht;have o3:=SV.oneA x.hi;rw[AF (n:=10) (xs:=CW x) (cs:=[.lit (.int .u8 0),.lit (.int .u8 0),.lit (.int .u8 0),I 0,I 0,I 0,Ac,B false,Ac,Ac]) (by simp[CW,o1,o2,o3]) (by simp) rfl (by simp)];simp[AZ,CW]
theorem rdP (x:StpV)(t:List AV)(H:AH):Am true 10 H (.ip (CW x++t))=some (.agg (CW x)):=rfl
theorem rL {l:List StpV}{v:AV}(hv:SV CW 10 l v)(hl:l.length≤9223372036854775807)(most:Int):BPure prog 28 [v,I most] (B (decide (iP l most))):=BPure.val (by simp[Az,noIds,hv.1]) rfl (Ut (by
 unfold Q9;simp only[hv.len,Aa8,EH]
 by_cases c0:most<(l.length:Int)
 ·simp only[c0,Ad7]
  rw[decide_eq_false (λq=>by have:=q.1;omega)]
 ·simp only[c0,Ac1]
  refine P0 (λm x0 x5 H'=>∃j:Nat,j+m=l.length∧v=x0∧x5=I j∧∀(i:Nat) y,i<j→l[i]?=some y→¬O1 y.s) ?_ l.length ⟨0,by omega,rfl,rfl,by omega⟩;rintro m x0 x5 H2 R hR ⟨j,hj,rfl,rfl,hall⟩;unfold Le;simp only[hv.len,Ad4];rcases Ah2 j l.length with hlt | hge
  ·have hx:=DJ hlt
   generalize l[j]=x at hx;have jI:(j:Int)<(l.length:Int):=by omega
   have q2:Ar .add (I (j:Int)) (I 1)=some (I ((j+1:Nat):Int)):=by rw[Ax (by omega) (by omega)];congr 3
   have i5:(CW x)[5]?=some (I x.s.n):=rfl;have i6:(CW x)[6]?=some x.bv:=rfl;have i8:(CW x)[8]?=some x.tv:=rfl;have i9:(CW x)[9]?=some x.iv:=rfl;simp only[jI,Ad7,hv.idx XP hx rfl,Ab3,rdP,zT,AA,zdfyZ,AC,Ah Da,i6,x.hb.len,EH,Bc]
   have no:O1 x.s→B false=B (decide (iP l most)):=λh=>by
    rw[decide_eq_false (λq=>q.2 x (Ag9 hx) h)]
   have yes:¬O1 x.s→∀H',R [v,I ((j+1:Nat):Int)] H':=λh H'=>hR (m - 1) _ _ _ (by omega) ⟨j+1,by omega,rfl,rfl,λi y hi hy=>by
    by_cases e:i=j
    ·subst e;rw[hx]at hy;injection hy with hy;subst hy;exact h
    ·exact hall i y (by omega) hy⟩
   -- bytes
   have rest:¬(60<x.s.b.length∧x.s.b.length≠4097)→¬(200<x.s.n∧x.s.n≤32768)→
     bO (some (B false)) (λv37=>bG v37 false λw38=>gO w38 (Aa 8 (.ptr H2.length 0)) λv39=>bG v37 false λw40=>gO w40 (Am false 1 (H2++[some (AObj.cells (CW x))]) v39) λv41=>bG v37 false λw42=>gO w42 (AY v41) λv43=>bG v37 false λw44=>gO w44 (Ar .gtr v43 (I 200)) λv45=>
     bO (Ay v37 (B true) v45) λv46=>bG v46 false λw47=>gO w47 (Aa 9 (.ptr H2.length 0)) λv48=>bG v46 false λw49=>gO w49 (Am false 1 (H2++[some (AObj.cells (CW x))]) v48) λv50=>bG v46 false λw51=>gO w51 (AY v50) λv52=>bG v46 false λw53=>gO w53 (Ar .gtr v52 (I 30)) λv54=>
     bO (Ay v46 (B true) v54) λv55=>bB v55 λt56=>bI t56 (B false=B (decide (iP l most))) (bO (Ar .add (I j) (I 1)) λv57=>R [v,v57] (H2++[some (AObj.cells (CW x))]))):=by
    intro h1 h2
    by_cases h3:(200:Int)<(x.s.bits.length:Int)
    ·simp only[Af4,Af0,Ab2,Ah Da,i8,x.ht.len,EH,h3,show((true==false)=false)from rfl,Cf,Aw]
     exact no (.inr (.inr (.inl (by omega))))
    ·by_cases h4:(30:Int)<(x.s.inos.length:Int)
     ·simp only[Af4,Ae4,Ab2,Ah Da,i8,x.ht.len,EH,h3,E0,i9,x.hi.len,h4,Ad7]
      exact no (.inr (.inr (.inr (by omega))))
     ·simp only[Af4,Ae4,Ab2,Ah Da,i8,x.ht.len,EH,h3,Ac1,i9,x.hi.len,h4,q2]
      exact yes (by rintro(q | q | q | q);exact h1 q;exact h2 q;omega;omega) _
   -- numbers
   have mid:¬(60<x.s.b.length∧x.s.b.length≠4097)→
     bO (some (B false)) (λv20=>bG v20 false λw21=>gO w21 (Aa 5 (.ptr H2.length 0)) λv22=>bG v20 false λw23=>gO w23 (Am false 1 (H2++[some (AObj.cells (CW x))]) v22) λv24=>bG v20 false λw25=>gO w25 (Ar .gtr v24 (I 200)) λv26=>bG v20 false λw27=>gO w27 (some v26) λv28=>bG v28 true λw29=>gO w29 (Aa 5 (.ptr H2.length 0)) λv30=>bG v28 true λw31=>gO w31 (Am false 1 (H2++[some (AObj.cells (CW x))]) v30) λv32=>bG v28 true λw33=>gO w33 (Ar .leq v32 (I 32768)) λv34=>bG v20 false λw35=>gO w35 (Ay v28 v34 (B false)) λv36=>bO (Ay v20 (B true) v36) λv37=>
     bG v37 false λw38=>gO w38 (Aa 8 (.ptr H2.length 0)) λv39=>bG v37 false λw40=>gO w40 (Am false 1 (H2++[some (AObj.cells (CW x))]) v39) λv41=>bG v37 false λw42=>gO w42 (AY v41) λv43=>bG v37 false λw44=>gO w44 (Ar .gtr v43 (I 200)) λv45=>
     bO (Ay v37 (B true) v45) λv46=>bG v46 false λw47=>gO w47 (Aa 9 (.ptr H2.length 0)) λv48=>bG v46 false λw49=>gO w49 (Am false 1 (H2++[some (AObj.cells (CW x))]) v48) λv50=>bG v46 false λw51=>gO w51 (AY v50) λv52=>bG v46 false λw53=>gO w53 (Ar .gtr v52 (I 30)) λv54=>
     bO (Ay v46 (B true) v54) λv55=>bB v55 λt56=>bI t56 (B false=B (decide (iP l most))) (bO (Ar .add (I j) (I 1)) λv57=>R [v,v57] (H2++[some (AObj.cells (CW x))]))):=by
    intro h1
    by_cases h2:200<x.s.n
    ·by_cases h3:x.s.n≤32768
     ·simp only[Af4,Af0,Ab2,Ah Da,i5,EH,h2,kK,h3,show((true==false)=false)from rfl,Cf,Aw]
      exact no (.inr (.inl ⟨h2,h3⟩))
     ·simp only[Ab3,Af0,Ah Da,i5,EH,h2,kK,h3,E0,A4,At]
      have:=rest h1 (λq=>h3 q.2)
      simp only[Ab3,Ae4,Ah Da]at this⊢;exact this
    ·simp only[Ab3,Ae4,Ah Da,i5,EH,h2,E0,show((false==true)=false)from rfl,Cf,A4,At]
     have:=rest h1 (λq=>h2 q.1)
     simp only[Ab3,Ae4,Ah Da]at this⊢;exact this
   by_cases h1:(60:Int)<(x.s.b.length:Int)
   ·by_cases h2:(x.s.b.length:Int)=4097
    ·have e2:decide ((x.s.b.length:Int)≠4097)=false:=by simp[h2]
     have:=mid (λq=>by omega)
     simp only[h1,Af0,Ab3,Ah Da,i6,x.hb.len,C2,e2,A4]at this⊢;exact this
    ·simp only[h1,Ad8,Ae4,Ac4,Ah Da,Ag,i6,x.hb.len,C2,h2,qF,show((true==false)=false)from rfl,Cf]
     exact no (.inl ⟨by omega,by omega⟩)
   ·simp only[h1,E0,show((false==true)=false)from rfl,Cf,Ab,A4,At]
    have:=mid (λq=>by omega)
    simp only[Ab,Ae4,An]at this⊢;exact this
  ·have jI:¬(j:Int)<(l.length:Int):=by omega
   simp only[jI,Ac1];rw[decide_eq_true];refine⟨by omega,λx hx=>?_⟩;obtain⟨i,hi⟩:=Ai1.1 hx;exact hall i x (by have:=(B5.1 hi).1;omega) hi))
def Ct (s:StS)(x:Stp):StS:=
 if x.kind.toNat % 16=0∨x.kind.toNat % 16=1 then(DT s (Jk x.name) (decide (x.kind.toNat % 16=0))).2
 else if x.kind.toNat % 16=2∨x.kind.toNat % 16=3 then(JE s x.ino x.pos x.b).2
 else if x.kind.toNat % 16=5 then(OQ s x.ino x.n).2
 else if x.kind.toNat % 16=6 then(O7 s x.ino x.pos x.n x.keep).2
 else if x.kind.toNat % 16=7 then(OD s x.ino x.pos x.n).2
 else if x.kind.toNat % 16=8 then(Md s (Jk x.name) (Jk x.to)).2
 else if x.kind.toNat % 16=9 then(Uo s (Jk x.name)).2
 else if x.kind.toNat % 16=10 then(L0 s x.inos).2
 else if x.kind.toNat % 16=11 then(L0 s []).2
 else if x.kind.toNat % 16=12 then(L0 s [x.ino]).2
 else if x.kind.toNat % 16=13 then iH s x.n
 else if x.kind.toNat % 16=14 then ME s x.bits
 else s
theorem oU {N:Nat}{s:StS}(h:SW N s)(ino pos:Int){b:List UInt8}(hb:b.length≤60∨b.length=4097):SW (N+4099) (JE s ino pos b).2:=by
 rcases hb with hb | hb
 ·exact(sZ h ino pos b).mono (by omega)
 ·unfold JE
  split
  ·exact h.mono (by omega)
  ·rw[if_pos (by unfold TF;omega)]
   exact h.mono (by omega)
theorem eK {N:Nat}{s:StS}(h:SW N s){x:Stp}(hx:¬O1 x)(hn:x.n≤9223372036854775807):SW (N+4099) (Ct s x):=by
 unfold O1 at hx;unfold Ct
 by_cases k0:x.kind.toNat % 16=0∨x.kind.toNat % 16=1
 ·rw[if_pos k0];exact(uT h _ _).mono (by omega)
 rw[if_neg k0]
 by_cases k1:x.kind.toNat % 16=2∨x.kind.toNat % 16=3
 ·rw[if_pos k1];exact oU h _ _ (by omega)
 rw[if_neg k1]
 by_cases k2:x.kind.toNat % 16=5
 ·rw[if_pos k2];exact(sW h _ _).mono (by omega)
 rw[if_neg k2]
 by_cases k3:x.kind.toNat % 16=6
 ·rw[if_pos k3];exact pY h _ _ _ _
 rw[if_neg k3]
 by_cases k4:x.kind.toNat % 16=7
 ·rw[if_pos k4];exact(sA h _ _ _).mono (by omega)
 rw[if_neg k4]
 by_cases k5:x.kind.toNat % 16=8
 ·rw[if_pos k5];exact(yB h _ _).mono (by omega)
 rw[if_neg k5]
 by_cases k6:x.kind.toNat % 16=9
 ·rw[if_pos k6];exact(yA h _).mono (by omega)
 rw[if_neg k6]
 by_cases k7:x.kind.toNat % 16=10
 ·rw[if_pos k7];exact(cR h _).mono (by omega)
 rw[if_neg k7]
 by_cases k8:x.kind.toNat % 16=11
 ·rw[if_pos k8];exact(cR h _).mono (by omega)
 rw[if_neg k8]
 by_cases k9:x.kind.toNat % 16=12
 ·rw[if_pos k9];exact(cR h _).mono (by omega)
 rw[if_neg k9]
 by_cases k10:x.kind.toNat % 16=13
 ·rw[if_pos k10];exact(wS h hn).mono (by omega)
 rw[if_neg k10]
 by_cases k11:x.kind.toNat % 16=14
 ·rw[if_pos k11];exact(cG h _).mono (by omega)
 rw[if_neg k11];exact h.mono (by omega)
theorem ZG (k:UInt8):(Jk k).length≤100:=by
 have hm:k.toNat % 18<18:=Nat.mod_lt _ (by omega);have:∀i,i<18→(nameT.getD i []).length≤100:=by decide
 exact this _ hm
theorem Xo {a b:Int}:Ar .eql (.lit (.int .u8 a)) (.lit (.int .u8 b))=some (B (decide (a=b))):=Cp
theorem C7:(∀(x:AV) (K:AV→Prop),bO (some x) K=K x)∧(∀(b:Bool) (K:Bool→Prop),bB (.lit (.bool b)) K=K b)∧(∀(a b:Prop),bI true a b=a)∧(∀(a b:Prop),bI false a b=b)∧(∀h:Decidable True,@decide True h=true)∧(∀h:Decidable False,@decide False h=false)∧(∀a b:Int,Ar .eql (.lit (.int .u8 a)) (.lit (.int .u8 b))=some (B (decide (a=b))))∧((0:Nat):Int)=0∧((1:Nat):Int)=1:=
 ⟨λ_ _=>Ab,λ_ _=>Al,λ_ _=>Aw,λ_ _=>Ao,λ_=>decide_eq_true trivial,λ_=>decide_eq_false id,λ_ _=>Cp,rfl,rfl⟩
theorem Zt {x:Int}:U3 1 1 (BI [(I 0)] 1) [(0,1,I x)]=some (.imm [I x] 1 1):=by simp[U3,BI,AZ]
abbrev Aa6:=And.intro @C7 @Int.cast_ofNat_Int
abbrev Ae5:=And.intro @Ab3 @Int.cast_ofNat_Int
abbrev Af8:=And.intro (And.intro @Ab @true_and) @Cp
theorem zdfoZ {N:Nat}{s:StS}{os od:Nat}{p q:AV}{H:AH}(h:Duo s s os od p q H)(hw:SW N s)(hN:N+40000≤900000)(x:StpV)(hx:¬O1 x.s)(hnn:x.s.n≤9223372036854775807):
  ∃r H',(r=B true∧∃p' q',Duo (Ct s x.s) (Ct s x.s) os od p' q' H')∧BCall prog 30 [.ptr os 0,.ptr od 0,.agg (CW x)] H r H':=V1 (by
 unfold Sr;have o1:=SV.oneA x.hb;have o2:=SV.oneA x.ht;have o3:=SV.oneA x.hi;have hkt:=x.s.kind.toNat_lt;have e1:A9 H (.agg (CW x))=some (.ptr H.length 0,H++[some (.cells (CW x))]):=by simp[CW,o1,o2,o3]
 have g:=Grew.app H [some (.cells (CW x))];have duo1:=h.grew g;have c5:(H++[some (AObj.cells (CW x))])[H.length]?=some (some (.cells (CW x))):=Da;have xl:H.length<(H++[some (AObj.cells (CW x))]).length:=by simp
 have xn:H.length≠os:=by have:=h.P.os_lt;omega
 have xp:H.length∉Bl p:=λz=>by have:=h.P.p_lt _ z;omega
 have nb:=ZG x.s.name;have nt:=ZG x.s.to;have hbn:=x.hb.noId;have htn:=x.ht.noId;have hin:=x.hi.noId;unfold O1 at hx;rw[e1,AA];generalize (H++[some (AObj.cells (CW x))])=H1 at*;have i0:(CW x)[0]?=some (.lit (.int .u8 x.s.kind.toNat)):=rfl;have i1:(CW x)[1]?=some (.lit (.int .u8 x.s.name.toNat)):=rfl;have i2:(CW x)[2]?=some (.lit (.int .u8 x.s.to.toNat)):=rfl;have i3:(CW x)[3]?=some (I x.s.ino):=rfl;have i4:(CW x)[4]?=some (I x.s.pos):=rfl;have i5:(CW x)[5]?=some (I x.s.n):=rfl;have i6:(CW x)[6]?=some (x.bv):=rfl;have i7:(CW x)[7]?=some (B x.s.keep):=rfl;have i8:(CW x)[8]?=some (x.tv):=rfl;have i9:(CW x)[9]?=some (x.iv):=rfl
 have er:Ar .rem (.lit (.int .u8 x.s.kind.toNat)) (.lit (.int .u8 16))=some (.lit (.int .u8 ((x.s.kind.toNat % 16:Nat):Int))):=by
  have:Ar .rem (.lit (.int .u8 (x.s.kind.toNat:Int))) (.lit (.int .u8 (16:Nat)))=some (.lit (.int .u8 ((x.s.kind.toNat % 16:Nat):Int))):=by rw[U2 (by omega) (by omega)];congr 3
  exact this
 have hk16:x.s.kind.toNat % 16<16:=Nat.mod_lt _ (by omega);simp only[Ab3,Ah c5,i0,i1,i2];refine bP_of (pD x.s.name) ?_
 try simp only[Ab3,Ah c5,i0,i1,i2,i3,i4,i5,i6,i7,i8,i9]
 refine bP_of (pD x.s.to) ?_
 try simp only[Ab,er]
 have fin:∀(s':StS) (p' q':AV) (H':AH),Duo s' s' os od p' q' H'→Ct s x.s=s'→(B true:AV)=B true∧∃p' q',Duo (Ct s x.s) (Ct s x.s) os od p' q' H':=by
  intro s' p' q' H' hd e;rw[e];exact⟨rfl,p',q',hd⟩
 have hds:=Ct s x.s;obtain⟨k,hk⟩:∃k,x.s.kind.toNat % 16=k:=⟨_,rfl⟩;rw[hk]at hk16 er
 
 simp only[hk];have hcases:k=0∨k=1∨k=2∨k=3∨k=4∨k=5∨k=6∨k=7∨k=8∨k=9∨k=10∨k=11∨k=12∨k=13∨k=14∨k=15:=by omega
 rcases hcases with rfl | rfl | rfl | rfl | rfl | rfl | rfl | rfl | rfl | rfl | rfl | rfl | rfl | rfl | rfl | rfl
 ·simp only[Int.reduceEq,Aa6]
  rw[AN];unfold AM;simp only[Int.reduceEq,C7]
  try simp only[Ae5,Ah c5,i0,er,Xo,DC]
  obtain⟨r,H2,⟨rfl,p2,st2,f2⟩,hc⟩:=pE duo1.P hw (by omega) (name:=Jk x.s.name) (by omega) true;refine bC_of hc ?_;have duo2:=duo1.stepP st2 f2;have c6:H2[H.length]?=some (some (.cells (CW x))):=by rw[f2.same _ xl xn xp];exact c5
  simp only[Ad9];rw[Lc];unfold HA
  try simp only[Ae5,Ah c6,i0,er,Xo,DC]
  obtain⟨r,H3,⟨rfl,q3,ds3,f3⟩,hc⟩:=kG duo2.D hw (by omega) (name:=Jk x.s.name) (by omega) true;refine bC_of hc ?_;have duo3:=duo2.stepD ds3 f3;simp only[Ad9];rw[Ld];unfold HB
  try simp only[Af8,Af0,A4]
  exact(fin _ _ _ _ duo3 (by unfold Ct;simp[hk])).2
 ·simp only[Int.reduceEq,Aa6]
  rw[AN];unfold AM;simp only[Int.reduceEq,C7]
  try simp only[Ae5,Ah c5,i0,er,Xo,Int.reduceEq,E0]
  obtain⟨r,H2,⟨rfl,p2,st2,f2⟩,hc⟩:=pE duo1.P hw (by omega) (name:=Jk x.s.name) (by omega) false;refine bC_of hc ?_;have duo2:=duo1.stepP st2 f2;have c6:H2[H.length]?=some (some (.cells (CW x))):=by rw[f2.same _ xl xn xp];exact c5
  simp only[Ad9];rw[Lc];unfold HA
  try simp only[Ae5,Ah c6,i0,er,Xo,Int.reduceEq,E0]
  obtain⟨r,H3,⟨rfl,q3,ds3,f3⟩,hc⟩:=kG duo2.D hw (by omega) (name:=Jk x.s.name) (by omega) false;refine bC_of hc ?_;have duo3:=duo2.stepD ds3 f3;simp only[Ad9];rw[Ld];unfold HB
  try simp only[Af8,Af0,A4]
  exact(fin _ _ _ _ duo3 (by unfold Ct;simp[hk])).2
 ·simp only[Int.reduceEq,Aa6]
  rw[AN];unfold AM;simp only[C7];rw[AU];unfold AR;simp only[Int.reduceEq,C7];rw[AX];unfold AW;simp only[Int.reduceEq,C7]
  try simp only[Ab3,Ah c5,i3,i4,i6]
  obtain⟨r,H2,⟨rfl,p2,st2,f2⟩,hc⟩:=kJ duo1.P hw x.s.ino x.s.pos (by omega) (x.hb.bytes _) (by rw[hbn];simp);refine bC_of hc ?_;have duo2:=duo1.stepP st2 f2;have c6:H2[H.length]?=some (some (.cells (CW x))):=by rw[f2.same _ xl xn xp];exact c5
  simp only[Ad9];rw[JT];unfold GB
  try simp only[Ab3,Ah c6,i3,i4,i6]
  obtain⟨r,H3,⟨rfl,q3,ds3,f3⟩,hc⟩:=dD duo2.D hw x.s.ino x.s.pos (by omega) x.hb;refine bC_of hc ?_;have duo3:=duo2.stepD ds3 f3;simp only[Ad9];rw[JU];unfold GC
  try simp only[Af8,Af0,A4]
  exact(fin _ _ _ _ duo3 (by unfold Ct;simp[hk])).2
 ·simp only[Int.reduceEq,Aa6]
  rw[AN];unfold AM;simp only[Int.reduceEq,C7];rw[AU];unfold AR;simp only[C7];rw[AX];unfold AW;simp only[Int.reduceEq,C7]
  try simp only[Ab3,Ah c5,i3,i4,i6]
  obtain⟨r,H2,⟨rfl,p2,st2,f2⟩,hc⟩:=kJ duo1.P hw x.s.ino x.s.pos (by omega) (x.hb.bytes _) (by rw[hbn];simp);refine bC_of hc ?_;have duo2:=duo1.stepP st2 f2;have c6:H2[H.length]?=some (some (.cells (CW x))):=by rw[f2.same _ xl xn xp];exact c5
  simp only[Ad9];rw[JT];unfold GB
  try simp only[Ab3,Ah c6,i3,i4,i6]
  obtain⟨r,H3,⟨rfl,q3,ds3,f3⟩,hc⟩:=dD duo2.D hw x.s.ino x.s.pos (by omega) x.hb;refine bC_of hc ?_;have duo3:=duo2.stepD ds3 f3;simp only[Ad9];rw[JU];unfold GC
  try simp only[Af8,Af0,A4]
  exact(fin _ _ _ _ duo3 (by unfold Ct;simp[hk])).2
 ·simp only[Int.reduceEq,Aa6]
  rw[AN];unfold AM;simp only[Int.reduceEq,C7];rw[AU];unfold AR;simp only[Int.reduceEq,C7];rw[AX];unfold AW;simp only[C7];rw[Bi];unfold Bf;simp only[Int.reduceEq,C7];simp only[Ab3,Ah c5,i3,i4,i5];obtain⟨R1,hR1,r,H2,⟨rfl,g2⟩,hc⟩:=wG duo1.P hw (by omega) x.s.ino x.s.pos x.s.n;refine bC_of hc ?_;have duo2:=duo1.grew g2;have c6:=g2.cells c5;simp only[Ad9];rw[QJ];unfold KQ;simp only[Ab3,Ah c6,i3,i4,i5];obtain⟨R2,hR2,r,H3,⟨rfl,g3⟩,hc⟩:=tL duo2.D hw (by omega) x.s.ino x.s.pos x.s.n;refine bC_of hc ?_;simp only[Ad9];rw[QK];unfold KR;simp only[dJ (hR1.bytes H3),dJ (hR2.bytes H3),PV,Af8,Af0,A4];exact(fin _ _ _ _ (duo2.grew g3) (by unfold Ct;simp[hk])).2
 ·simp only[Int.reduceEq,Aa6]
  rw[AN];unfold AM;simp only[Int.reduceEq,C7];rw[AU];unfold AR;simp only[Int.reduceEq,C7];rw[AX];unfold AW;simp only[Int.reduceEq,C7];rw[Bi];unfold Bf;simp only[C7];rw[Bp];unfold Bn;simp only[Int.reduceEq,C7]
  try simp only[Ab3,Ah c5,i3,i5]
  obtain⟨r,H2,⟨rfl,p2,st2,f2⟩,hc⟩:=tO duo1.P hw (by omega) x.s.ino x.s.n;refine bC_of hc ?_;have duo2:=duo1.stepP st2 f2;have c6:H2[H.length]?=some (some (.cells (CW x))):=by rw[f2.same _ xl xn xp];exact c5
  try simp only[Ab,Ah c6,Ag,i3,i5]
  obtain⟨r,H3,⟨rfl,q3,ds3,f3⟩,hc⟩:=pK duo2.D hw (by omega) x.s.ino x.s.n;refine bC_of hc ?_;have duo3:=duo2.stepD ds3 f3
  try simp only[Af8,DC]
  exact(fin _ _ _ _ duo3 (by unfold Ct;simp[hk])).2
 ·simp only[Int.reduceEq,Aa6]
  rw[AN];unfold AM;simp only[Int.reduceEq,C7];rw[AU];unfold AR;simp only[Int.reduceEq,C7];rw[AX];unfold AW;simp only[Int.reduceEq,C7];rw[Bi];unfold Bf;simp only[Int.reduceEq,C7];rw[Bp];unfold Bn;simp only[C7];rw[Bu];unfold Bs;simp only[Int.reduceEq,C7]
  try simp only[Ab3,Ah c5,i3,i4,i5,i7]
  obtain⟨r,H2,⟨rfl,p2,st2,f2⟩,hc⟩:=tE duo1.P hw (by omega) x.s.ino x.s.pos x.s.n x.s.keep;refine bC_of hc ?_;have duo2:=duo1.stepP st2 f2;have c6:H2[H.length]?=some (some (.cells (CW x))):=by rw[f2.same _ xl xn xp];exact c5
  try simp only[Ab,Ah c6,Ag,i3,i4,i5,i7]
  obtain⟨r,H3,⟨rfl,q3,ds3,f3⟩,hc⟩:=pH duo2.D hw (by omega) x.s.ino x.s.pos x.s.n x.s.keep;refine bC_of hc ?_;have duo3:=duo2.stepD ds3 f3
  try simp only[Af8,DC]
  exact(fin _ _ _ _ duo3 (by unfold Ct;simp[hk])).2
 ·simp only[Int.reduceEq,Aa6]
  rw[AN];unfold AM;simp only[Int.reduceEq,C7];rw[AU];unfold AR;simp only[Int.reduceEq,C7];rw[AX];unfold AW;simp only[Int.reduceEq,C7];rw[Bi];unfold Bf;simp only[Int.reduceEq,C7];rw[Bp];unfold Bn;simp only[Int.reduceEq,C7];rw[Bu];unfold Bs;simp only[C7];rw[Bz];unfold Bw;simp only[Int.reduceEq,C7]
  try simp only[Ab3,Ah c5,i3,i4,i5]
  obtain⟨r,H2,⟨rfl,p2,st2,f2⟩,hc⟩:=tH duo1.P hw (by omega) x.s.ino x.s.pos x.s.n;refine bC_of hc ?_;have duo2:=duo1.stepP st2 f2;have c6:H2[H.length]?=some (some (.cells (CW x))):=by rw[f2.same _ xl xn xp];exact c5
  try simp only[Ab,Ah c6,Ag,i3,i4,i5]
  obtain⟨r,H3,⟨rfl,q3,ds3,f3⟩,hc⟩:=pI duo2.D hw (by omega) x.s.ino x.s.pos x.s.n;refine bC_of hc ?_;have duo3:=duo2.stepD ds3 f3
  try simp only[Af8,DC]
  exact(fin _ _ _ _ duo3 (by unfold Ct;simp[hk])).2
 ·simp only[Int.reduceEq,Aa6]
  rw[AN];unfold AM;simp only[Int.reduceEq,C7];rw[AU];unfold AR;simp only[Int.reduceEq,C7];rw[AX];unfold AW;simp only[Int.reduceEq,C7];rw[Bi];unfold Bf;simp only[Int.reduceEq,C7];rw[Bp];unfold Bn;simp only[Int.reduceEq,C7];rw[Bu];unfold Bs;simp only[Int.reduceEq,C7];rw[Bz];unfold Bw;simp only[C7];rw[B9];unfold B7;simp only[Int.reduceEq,C7]
  try simp only[Ab3,Ah c5,i0,i1,i2,i3,i4,i5,i6,i7,i8,i9]
  obtain⟨r,H2,⟨rfl,p2,st2,f2⟩,hc⟩:=pM duo1.P hw (by omega) (name:=Jk x.s.name) (to:=Jk x.s.to) (by omega) (by omega);refine bC_of hc ?_;have duo2:=duo1.stepP st2 f2;have c6:H2[H.length]?=some (some (.cells (CW x))):=by rw[f2.same _ xl xn xp];exact c5
  try simp only[Ab3,Ah c6,i0,i1,i2,i3,i4,i5,i6,i7,i8,i9]
  obtain⟨r,H3,⟨rfl,q3,ds3,f3⟩,hc⟩:=mL duo2.D hw (by omega) (name:=Jk x.s.name) (to:=Jk x.s.to) (by omega) (by omega);refine bC_of hc ?_;have duo3:=duo2.stepD ds3 f3
  try simp only[Af8,DC]
  exact(fin _ _ _ _ duo3 (by unfold Ct;simp[hk])).2
 ·simp only[Int.reduceEq,Aa6]
  rw[AN];unfold AM;simp only[Int.reduceEq,C7];rw[AU];unfold AR;simp only[Int.reduceEq,C7];rw[AX];unfold AW;simp only[Int.reduceEq,C7];rw[Bi];unfold Bf;simp only[Int.reduceEq,C7];rw[Bp];unfold Bn;simp only[Int.reduceEq,C7];rw[Bu];unfold Bs;simp only[Int.reduceEq,C7];rw[Bz];unfold Bw;simp only[Int.reduceEq,C7];rw[B9];unfold B7;simp only[C7];rw[Cc];unfold BQ;simp only[Int.reduceEq,C7]
  try simp only[Ab3,Ah c5,i0,i1,i2,i3,i4,i5,i6,i7,i8,i9]
  obtain⟨r,H2,⟨rfl,p2,st2,f2⟩,hc⟩:=pL duo1.P hw (by omega) (name:=Jk x.s.name) (by omega);refine bC_of hc ?_;have duo2:=duo1.stepP st2 f2;have c6:H2[H.length]?=some (some (.cells (CW x))):=by rw[f2.same _ xl xn xp];exact c5
  try simp only[Ab3,Ah c6,i0,i1,i2,i3,i4,i5,i6,i7,i8,i9]
  obtain⟨r,H3,⟨rfl,q3,ds3,f3⟩,hc⟩:=mK duo2.D hw (by omega) (name:=Jk x.s.name) (by omega);refine bC_of hc ?_;have duo3:=duo2.stepD ds3 f3
  try simp only[Af8,DC]
  exact(fin _ _ _ _ duo3 (by unfold Ct;simp[hk])).2
 ·simp only[Int.reduceEq,Aa6]
  rw[AN];unfold AM;simp only[Int.reduceEq,C7];rw[AU];unfold AR;simp only[Int.reduceEq,C7];rw[AX];unfold AW;simp only[Int.reduceEq,C7];rw[Bi];unfold Bf;simp only[Int.reduceEq,C7];rw[Bp];unfold Bn;simp only[Int.reduceEq,C7];rw[Bu];unfold Bs;simp only[Int.reduceEq,C7];rw[Bz];unfold Bw;simp only[Int.reduceEq,C7];rw[B9];unfold B7;simp only[Int.reduceEq,C7];rw[Cc];unfold BQ;simp only[C7];rw[CH];unfold Cu;simp only[Int.reduceEq,C7]
  try simp only[Ab3,Ah c5,i9]
  obtain⟨r,H2,⟨rfl,p2,st2,f2⟩,hc⟩:=gZ duo1.P hw (by omega) (x.hi.2 _) (by rw[hin];simp) (by omega);refine bC_of hc ?_;have duo2:=duo1.stepP st2 f2;have c6:H2[H.length]?=some (some (.cells (CW x))):=by rw[f2.same _ xl xn xp];exact c5
  try simp only[Ab,Ah c6,Ag,i9]
  obtain⟨r,H3,⟨rfl,q3,ds3,f3⟩,hc⟩:=aA duo2.D hw (by omega) x.hi (by omega);refine bC_of hc ?_;have duo3:=duo2.stepD ds3 f3
  try simp only[Af8,DC]
  exact(fin _ _ _ _ duo3 (by unfold Ct;simp[hk])).2
 ·simp only[Int.reduceEq,Aa6]
  rw[AN];unfold AM;simp only[Int.reduceEq,C7];rw[AU];unfold AR;simp only[Int.reduceEq,C7];rw[AX];unfold AW;simp only[Int.reduceEq,C7];rw[Bi];unfold Bf;simp only[Int.reduceEq,C7];rw[Bp];unfold Bn;simp only[Int.reduceEq,C7];rw[Bu];unfold Bs;simp only[Int.reduceEq,C7];rw[Bz];unfold Bw;simp only[Int.reduceEq,C7];rw[B9];unfold B7;simp only[Int.reduceEq,C7];rw[Cc];unfold BQ;simp only[Int.reduceEq,C7];rw[CH];unfold Cu;simp only[C7];rw[Dy];unfold CY;simp only[Int.reduceEq,C7]
  try simp only[Ab3,Ah c5,i0,i1,i2,i3,i4,i5,i6,i7,i8,i9]
  obtain⟨r,H2,⟨rfl,p2,st2,f2⟩,hc⟩:=gZ duo1.P hw (by omega) (l:=[]) (v:=Ac) rfl (by simp[Bl]) (by simp);refine bC_of hc ?_;have duo2:=duo1.stepP st2 f2;have c6:H2[H.length]?=some (some (.cells (CW x))):=by rw[f2.same _ xl xn xp];exact c5
  try simp only[Ab3,Ah c6,i0,i1,i2,i3,i4,i5,i6,i7,i8,i9]
  obtain⟨r,H3,⟨rfl,q3,ds3,f3⟩,hc⟩:=aA duo2.D hw (by omega) (l:=[]) (v:=Ac) SV.nil (by simp);refine bC_of hc ?_;have duo3:=duo2.stepD ds3 f3
  try simp only[Af8,DC]
  exact(fin _ _ _ _ duo3 (by unfold Ct;simp[hk])).2
 ·simp only[Int.reduceEq,Aa6]
  rw[AN];unfold AM;simp only[Int.reduceEq,C7];rw[AU];unfold AR;simp only[Int.reduceEq,C7];rw[AX];unfold AW;simp only[Int.reduceEq,C7];rw[Bi];unfold Bf;simp only[Int.reduceEq,C7];rw[Bp];unfold Bn;simp only[Int.reduceEq,C7];rw[Bu];unfold Bs;simp only[Int.reduceEq,C7];rw[Bz];unfold Bw;simp only[Int.reduceEq,C7];rw[B9];unfold B7;simp only[Int.reduceEq,C7];rw[Cc];unfold BQ;simp only[Int.reduceEq,C7];rw[CH];unfold Cu;simp only[Int.reduceEq,C7];rw[Dy];unfold CY;simp only[C7];rw[E2];unfold DG;simp only[Int.reduceEq,C7]
  try simp only[Ab3,Ah c5,i3,Zt]
  obtain⟨r,H2,⟨rfl,p2,st2,f2⟩,hc⟩:=gZ duo1.P hw (by omega) (l:=[x.s.ino]) (v:=.imm [I x.s.ino] 1 1) rfl (by simp[Bl]) (by simp);refine bC_of hc ?_;have duo2:=duo1.stepP st2 f2;have c6:H2[H.length]?=some (some (.cells (CW x))):=by rw[f2.same _ xl xn xp];exact c5
  try simp only[Ab,Ah c6,Ag,i3,Zt]
  obtain⟨r,H3,⟨rfl,q3,ds3,f3⟩,hc⟩:=aA duo2.D hw (by omega) (l:=[x.s.ino]) (v:=.imm [I x.s.ino] 1 1) ⟨rfl,λ_=>rfl⟩ (by simp);refine bC_of hc ?_;have duo3:=duo2.stepD ds3 f3
  try simp only[Af8,DC]
  exact(fin _ _ _ _ duo3 (by unfold Ct;simp[hk])).2
 ·simp only[Int.reduceEq,Aa6]
  rw[AN];unfold AM;simp only[Int.reduceEq,C7];rw[AU];unfold AR;simp only[Int.reduceEq,C7];rw[AX];unfold AW;simp only[Int.reduceEq,C7];rw[Bi];unfold Bf;simp only[Int.reduceEq,C7];rw[Bp];unfold Bn;simp only[Int.reduceEq,C7];rw[Bu];unfold Bs;simp only[Int.reduceEq,C7];rw[Bz];unfold Bw;simp only[Int.reduceEq,C7];rw[B9];unfold B7;simp only[Int.reduceEq,C7];rw[Cc];unfold BQ;simp only[Int.reduceEq,C7];rw[CH];unfold Cu;simp only[Int.reduceEq,C7];rw[Dy];unfold CY;simp only[Int.reduceEq,C7];rw[E2];unfold DG;simp only[C7];rw[Gf];unfold EK;simp only[Int.reduceEq,C7];simp only[Ab3,Ah c5,i5];obtain⟨r,H2,⟨rfl,st2,f2⟩,hc⟩:=zC duo1.P x.s.n;refine bC_of hc ?_;have duo2:=duo1.stepP st2 f2;have c6:H2[H.length]?=some (some (.cells (CW x))):=by rw[f2.same _ xl xn xp];exact c5
  rw[QL];unfold KU;simp only[Ab3,Ah c6,i5];obtain⟨r,H3,⟨rfl,ds3,f3⟩,hc⟩:=wD duo2.D x.s.n;refine bC_of hc ?_;rw[KS];unfold Hz;exact fin _ _ _ _ (duo2.stepD ds3 f3) (by unfold Ct;simp[hk])
 ·simp only[Int.reduceEq,Aa6]
  rw[AN];unfold AM;simp only[Int.reduceEq,C7];rw[AU];unfold AR;simp only[Int.reduceEq,C7];rw[AX];unfold AW;simp only[Int.reduceEq,C7];rw[Bi];unfold Bf;simp only[Int.reduceEq,C7];rw[Bp];unfold Bn;simp only[Int.reduceEq,C7];rw[Bu];unfold Bs;simp only[Int.reduceEq,C7];rw[Bz];unfold Bw;simp only[Int.reduceEq,C7];rw[B9];unfold B7;simp only[Int.reduceEq,C7];rw[Cc];unfold BQ;simp only[Int.reduceEq,C7];rw[CH];unfold Cu;simp only[Int.reduceEq,C7];rw[Dy];unfold CY;simp only[Int.reduceEq,C7];rw[E2];unfold DG;simp only[Int.reduceEq,C7];rw[Gf];unfold EK;simp only[C7];rw[JV];unfold GD;simp only[C7];simp only[Ab3,Ah c5,i8];obtain⟨r,H2,⟨rfl,st2,f2⟩,hc⟩:=VC duo1.P hw (by omega) (x.ht.2 _) (by rw[htn];simp) (by omega);refine bC_of hc ?_;have duo2:=duo1.stepP st2 f2;have c6:H2[H.length]?=some (some (.cells (CW x))):=by rw[f2.same _ xl xn xp];exact c5
  rw[QM];unfold KV;simp only[Ab3,Ah c6,i8];obtain⟨r,H3,⟨rfl,ds3,f3⟩,hc⟩:=gY duo2.D hw (by omega) x.ht (by omega);refine bC_of hc ?_;rw[KS];unfold Hz;exact fin _ _ _ _ (duo2.stepD ds3 f3) (by unfold Ct;simp[hk])
 ·simp only[Int.reduceEq,Aa6]
  rw[AN];unfold AM;simp only[Int.reduceEq,C7];rw[AU];unfold AR;simp only[Int.reduceEq,C7];rw[AX];unfold AW;simp only[Int.reduceEq,C7];rw[Bi];unfold Bf;simp only[Int.reduceEq,C7];rw[Bp];unfold Bn;simp only[Int.reduceEq,C7];rw[Bu];unfold Bs;simp only[Int.reduceEq,C7];rw[Bz];unfold Bw;simp only[Int.reduceEq,C7];rw[B9];unfold B7;simp only[Int.reduceEq,C7];rw[Cc];unfold BQ;simp only[Int.reduceEq,C7];rw[CH];unfold Cu;simp only[Int.reduceEq,C7];rw[Dy];unfold CY;simp only[Int.reduceEq,C7];rw[E2];unfold DG;simp only[Int.reduceEq,C7];rw[Gf];unfold EK;simp only[Int.reduceEq,C7];rw[JV];unfold GD;simp only[C7];simp only[Ab3,Ah c5,i3];obtain⟨r,K1,⟨rfl,g1⟩,hc⟩:=wH duo1.P hw (by omega) x.s.ino;refine bC_of hc ?_;have duo2:=duo1.grew g1;have d1:=g1.cells c5;simp only[Ad9];rw[QN];unfold KW;simp only[Ab3,Ah d1,i3];obtain⟨r,K2,⟨rfl,g2⟩,hc⟩:=tM duo2.D hw (by omega) x.s.ino;refine bC_of hc ?_;have duo3:=duo2.grew g2;have d2:=g2.cells d1;simp only[Ad9];rw[QO];unfold KX;simp only[Ab3,Ah d2,i3,i4];obtain⟨r,K3,⟨rfl,g3⟩,hc⟩:=pF duo3.P hw (by omega) x.s.ino x.s.pos;refine bC_of hc ?_;have duo4:=duo3.grew g3;have d3:=g3.cells d2;simp only[Ad9];rw[QP];unfold KY;simp only[Ab3,Ah d3,i3,i4];obtain⟨r,K4,⟨rfl,g4⟩,hc⟩:=tJ duo4.D hw (by omega) x.s.ino x.s.pos;refine bC_of hc ?_;have duo5:=duo4.grew g4;have d4:=g4.cells d3;simp only[Ad9];rw[QQ];unfold KZ;simp only[Ab3,Ah d4,i3,i4];obtain⟨r,K5,⟨rfl,g5⟩,hc⟩:=pG duo5.P hw (by omega) x.s.ino x.s.pos;refine bC_of hc ?_;have duo6:=duo5.grew g5;have d5:=g5.cells d4;simp only[Ad9];rw[QR];unfold La;simp only[Ab3,Ah d5,i3,i4];obtain⟨r,K6,⟨rfl,g6⟩,hc⟩:=tK duo6.D hw (by omega) x.s.ino x.s.pos;refine bC_of hc ?_;have duo7:=duo6.grew g6;have d6:=g6.cells d5;simp only[Ad9];rw[QS];unfold Lb;simp only[Af8,Af0,A4];exact(fin _ _ _ _ duo7 (by unfold Ct;simp[hk])).2)
abbrev dF:=UInt8×(UInt8×(UInt8×(Int×(Int×(Int×((Sl UInt8)×(Bool×((Sl Bool)×((Sl Int)×Unit)))))))))
theorem yH (x:Sl Bool)(hn:x.nil=true→x.l=[]):SV WT 1 x.l (if x.nil then .lit (.slice none 0 0)else .imm (x.l.flatMap WT) x.l.length 1):=by
 cases hnil:x.nil with
 | true=>simp only[if_true];rw[hn hnil];exact SV.nil
 | false=>simp only[At];exact SV.imm (λ_=>rfl) (λx hx=>rfl)
theorem yI (x:Sl UInt8)(hn:x.nil=true→x.l=[]):SV IW 1 x.l (if x.nil then .lit (.slice none 0 0)else .imm (x.l.flatMap IW) x.l.length 1):=by
 cases hnil:x.nil with
 | true=>simp only[if_true];rw[hn hnil];exact SV.nil
 | false=>simp only[At];exact SV.imm (λ_=>rfl) (λx hx=>rfl)
theorem yJ (x:Sl Int)(hn:x.nil=true→x.l=[]):SV UH 1 x.l (if x.nil then .lit (.slice none 0 0)else .imm (x.l.flatMap UH) x.l.length 1):=by
 cases hnil:x.nil with
 | true=>simp only[if_true];rw[hn hnil];exact SV.nil
 | false=>simp only[At];exact SV.imm (λ_=>rfl) (λx hx=>rfl)
def zdeoZ (x:dF):Prop:=(x.2.2.2.2.2.2.1.nil=true→x.2.2.2.2.2.2.1.l=[])∧(x.2.2.2.2.2.2.2.2.1.nil=true→x.2.2.2.2.2.2.2.2.1.l=[])∧(x.2.2.2.2.2.2.2.2.2.1.nil=true→x.2.2.2.2.2.2.2.2.2.1.l=[])∧x.2.2.2.2.2.1≤9223372036854775807
def yO (x:dF)(h:zdeoZ x):StpV:=⟨⟨x.1,x.2.1,x.2.2.1,x.2.2.2.1,x.2.2.2.2.1,x.2.2.2.2.2.1,x.2.2.2.2.2.2.1.l,x.2.2.2.2.2.2.2.1,x.2.2.2.2.2.2.2.2.1.l,x.2.2.2.2.2.2.2.2.2.1.l⟩,_,_,_,yI _ h.1,yH _ h.2.1,yJ _ h.2.2.1⟩
def qX (x:dF):List AV:=[.lit (.int .u8 x.1.toNat)]++([.lit (.int .u8 x.2.1.toNat)]++([.lit (.int .u8 x.2.2.1.toNat)]++([I x.2.2.2.1]++([I x.2.2.2.2.1]++([I x.2.2.2.2.2.1]++([if x.2.2.2.2.2.2.1.nil then .lit (.slice none 0 0)else .imm (x.2.2.2.2.2.2.1.l.flatMap IW) x.2.2.2.2.2.2.1.l.length 1]++([B x.2.2.2.2.2.2.2.1]++([if x.2.2.2.2.2.2.2.2.1.nil then .lit (.slice none 0 0)else .imm (x.2.2.2.2.2.2.2.2.1.l.flatMap WT) x.2.2.2.2.2.2.2.2.1.l.length 1]++([if x.2.2.2.2.2.2.2.2.2.1.nil then .lit (.slice none 0 0)else .imm (x.2.2.2.2.2.2.2.2.2.1.l.flatMap UH) x.2.2.2.2.2.2.2.2.2.1.l.length 1]++[])))))))))
theorem ZR:∀(l:List dF),(∀x∈l,zdeoZ x)→∃m:List StpV,m.length=l.length∧(∀y∈m,y.s.n≤9223372036854775807)∧∀enc:dF→List AV,(∀x (h:zdeoZ x),enc x=CW (yO x h))→l.flatMap enc=m.flatMap CW
 | [],_=>⟨[],rfl,by simp,λ_ _=>rfl⟩
 | x::l,h=>by
  obtain⟨m,h1,h2,h3⟩:=ZR l λy hy=>h y (by simp[hy])
  have hx:=h x (by simp);refine⟨yO x hx::m,by simp[h1],λy hy=>?_,λenc he=>?_⟩
  ·rcases Ak0.1 hy with rfl | hy
   ·exact hx.2.2.2
   ·exact h2 y hy
  ·rw[Aj3,Aj3,h3 enc he,he x hx]
theorem sU (s:Sl dF)(hn:s.nil=true→s.l=[])(h:∀x∈s.l,zdeoZ x)(enc:dF→List AV)(he:∀x (h:zdeoZ x),enc x=CW (yO x h)):
  ∃m:List StpV,SV CW 10 m (if s.nil then .lit (.slice none 0 0)else .imm (s.l.flatMap enc) s.l.length 10)∧m.length=s.l.length∧∀y∈m,y.s.n≤9223372036854775807:=by
 obtain⟨m,h1,h2,h3⟩:=ZR s.l h;refine⟨m,?_,h1,h2⟩;cases hnil:s.nil with
 | true=>
  simp only[if_true]
  have:m=[]:=by
   have:=hn hnil
   rw[this]at h1;exact List.length_eq_zero_iff.1 h1
  rw[this];exact SV.nil
 | false=>
  simp only[At];rw[h3 enc he,← h1];exact SV.imm XP λx _=>fH x
theorem vT {n:Int}(h:IntKind.i64.min≤n∧n≤IntKind.i64.max): -9223372036854775808≤n∧n≤9223372036854775807:=by
 simpa[IntKind.min,IntKind.max,IntKind.signed,IntKind.bits]using h
theorem ZZ {N:Nat}{s:StS}{os:Nat}{p:AV}{H:AH}(h:StAt s os p H)(hw:SW N s)(hN:N≤900000):∃R,ImV s.kept.1 s.kept.2 R∧∀H1,Grew H H1→∃r H',(r=R∧Grew H1 H')∧BCall prog 42 [.ptr os 0] H1 r H':=by
 obtain⟨a,b,c,d,pv,h⟩:=h;obtain⟨m,hm,hk⟩:=hw.kept;obtain⟨R,hR,hp⟩:=gW h.kept (hm.sm (by omega));refine⟨R,hR,λH1 g0=>Tu ?_⟩;unfold PI;obtain⟨a',b',rfl,oa,ob⟩:=hR.agg2;have e1:A9 H1 (.agg [Ac,Ac])=some (.ptr H1.length 0,H1++[some (.cells [Ac,Ac])]):=by simp
 have g:=Grew.app H1 [some (.cells [Ac,Ac])]
 have e2:AJ 2 (H1++[some (.cells [Ac,Ac])]) (.ptr H1.length 0) (.agg [a',b'])=some (H1++[some (.cells [a',b'])]):=by
  rw[AF (n:=2) (xs:=[a',b']) (cs:=[Ac,Ac]) (by simp[oa,ob]) (by simp) rfl (by simp)];simp[AZ]
 simp only[e1,AA,A0,Ab,An,Ah (g.cells (g0.cells h.obj)),(tD _ _ _ _ _ _ _ _ _).2];refine As hp ?_;simp only[e2,AC,Ah Da,Y6,Ab];exact⟨by trivial,Grew.app _ _⟩
theorem wC {N:Nat}{s:StS}{os:Nat}{p:AV}{H:AH}(h:StAt s os p H)(hw:SW N s)(hN:N≤900000):∃R,ImV s.kept.1 s.kept.2 R∧∃r H',(r=R∧Grew H H')∧BCall prog 42 [.ptr os 0] H r H':=by
 obtain⟨R,hR,f⟩:=ZZ h hw hN;exact⟨R,hR,f H (Grew.refl H)⟩
theorem TT {s:StS}{os:Nat}{p:AV}{H:AH}(h:StAt s os p H):BCall prog 43 [.ptr os 0] H (I s.pend.length) H:=by
 obtain⟨r,H',⟨rfl,rfl⟩,hc⟩:=Qk (a0:=.ptr os 0) (H:=H) (K:=λr H'=>r=I s.pend.length∧H'=H) (by
  obtain⟨a,b,c,d,pv,h⟩:=h;have hpn:pv.length=s.pend.length:=by rw[← h.pm,Ai2]
  have alv:AY p=some (I (s.pend.length:Nat)):=by rw[← hpn];exact CU h.ps
  unfold LU;simp only[A0,Af2,Ah h.obj,alv];exact⟨by trivial,by trivial⟩)
 exact hc
theorem rW {room:Int}(hr:room≤9223372036854775807){l:List StpV}{v:AV}(hv:SV CW 10 l v)(hf:∀x∈l,¬O1 x.s∧x.s.n≤9223372036854775807)(hl:l.length≤40)(H:AH):
  ∃r H',(∃s p q,r=.ptr H.length 0∧Duo s s H.length (H.length+1) p q H'∧SW (4099*l.length) s∧s=l.foldl (λs x=>Ct s x.s) (KK room))∧BCall prog 37 [I room,v] H r H':=QT (by
 unfold Nk;obtain⟨r,H1,⟨p,rfl,l1,st0,g,hid⟩,hc⟩:=zH room H hr;refine bC_of hc ?_;obtain⟨r,H2,⟨rfl,l2,ds0,g2⟩,hc⟩:=wF room H1 hr;refine bC_of hc ?_;have duo:=uF st0 l1 hid ds0 g2;rw[l1]at duo⊢;refine Nl (λm x1 x5 x6 x7 H'=>∃(j:Nat) (p q:AV),j+m=l.length∧v=x1∧x5=.ptr H.length 0∧x6=.ptr (H.length+1) 0∧x7=I j∧Duo ((l.take j).foldl (λs x=>Ct s x.s) (KK room)) ((l.take j).foldl (λs x=>Ct s x.s) (KK room)) H.length (H.length+1) p q H'∧SW (4099*j) ((l.take j).foldl (λs x=>Ct s x.s) (KK room))) ?_ l.length ⟨0,p,Ac,by omega,rfl,rfl,rfl,rfl,duo,rQ room⟩;rintro m x1 x5 x6 x7 H3 R hR ⟨j,p,q,hj,rfl,rfl,rfl,rfl,duo,hw⟩;unfold IB;have e5:YO .neq Wf (.ptr H.length 0) (.lit (.pointer none))=some (B true):=rfl;simp only[hv.len,Ab,B1,Bc];rcases Ah2 j l.length with hlt | hge
 ·have hx:=DJ hlt
  have hmem:=As4 hlt;generalize l[j]=x at hx hmem;obtain⟨f1,f2⟩:=hf x hmem;obtain⟨r,H4,⟨rfl,p',q',duo'⟩,hc⟩:=zdfoZ duo hw (by omega) x f1 f2;have hw':=eK hw f1 f2;have q2:Ar .add (I (j:Int)) (I 1)=some (I ((j+1:Nat):Int)):=by rw[Ax (by omega) (by omega)];congr 3
  have htk:(l.take (j+1)).foldl (λs x=>Ct s x.s) (KK room)=Ct ((l.take j).foldl (λs x=>Ct s x.s) (KK room)) x.s:=by
   rw[Aj6,hx,List.foldl_append];rfl
  simp only[show((j:Int)<(l.length:Int)) by omega,Aa5,Pr,Ac4,e5,Aw,hv.idx XP hx rfl,rdP];refine bC_of hc ?_;simp only[q2,Ab];exact hR (m - 1) _ _ _ _ _ (by omega) ⟨j+1,p',q',by omega,rfl,rfl,rfl,rfl,by rw[htk];exact duo',by rw[htk,show 4099*(j+1)=4099*j+4099 by omega];exact hw'⟩
 ·have ej:j=l.length:=by omega
  subst ej;rw[Al0]at duo hw;simp only[Int.lt_irrefl,Ac1,show((false==true)=false)from rfl,Cf,Af4];exact⟨_,p,q,by trivial,duo,hw,rfl⟩)
def uP (o:OpM):Prop:=o.kind=1∨o.kind=6∨o.kind=7
def cW (w:OpM)(d:Nd):Nd:=if d.ino=w.ino then(match G5 w d with | some c=>⟨d.ino,c.1,c.2⟩ | none=>d)else d
theorem iL (w:OpM)(d:Nd):(cW w d).ino=d.ino:=by
 unfold cW
 split
 ·split<;>rfl
 ·rfl
theorem kS {w:OpM}{d:Nd}(h:d.ino≠w.ino):cW w d=d:=by unfold cW;rw[if_neg h]
theorem vM {w:OpM}{ds:List Nd}(h:∀x∈ds,cW w x=x):ds.map (cW w)=ds:=by
 have:=Ap4 (g:=id) h
 rw[this,List.map_id]
theorem qJ {w:OpM}{ds:List Nd}(hs:Cn B8 Nd.ino ds):OA ds w=ds.map (cW w):=by
 unfold OA
 by_cases hk:AT Nd.ino ds w.ino
 ·obtain⟨d,h1,h2,h3⟩:=FM koI hs hk
  rw[h2];cases hc:G5 w d with
  | none=>
   simp only[hc];refine(vM λx hx=>?_).symm;unfold cW
   split
   ·rename_i e
    have:=SN koI hs hx (Ag9 h1) (e.trans h3.symm)
    rw[this,hc]
   ·rfl
  | some c=>
   simp only[hc];apply Aj5;intro j;rw[Ai6,Al3];have hl:=(B5.1 h1).1
   by_cases hj:CX B8 Nd.ino ds w.ino=j
   ·rw[if_pos hj,← hj,h1,if_pos hl]
    simp only[Ao6,cW,h3,if_true,hc]
   ·rw[if_neg hj]
    cases hx:ds[j]? with
    | none=>rfl
    | some x=>
     have e:x.ino≠w.ino:=λe=>hj (by rw[← e];exact SG koI hs hx)
     simp only[Ao6,cW,if_neg e]
 ·rw[U9 hk]
  refine(vM λx hx=>?_).symm;unfold cW;rw[if_neg λe=>hk ⟨x,hx,e⟩]
theorem zdfiZ {i:U0}(h:MayW i.1 i.2){w:OpM}(hw:¬uP w):AG i.1 i.2 w=(i.1,i.2.map (cW w)):=by
 unfold uP at hw;rw[← qJ h.sd];unfold AG;rw[if_pos (OC.2 h),if_neg (by omega)]
 split
 ·rfl
 ·rename_i hc
  rw[if_neg (by omega),if_neg (by omega),XG hc]
theorem lR {f:Nd→Nd}(hf:∀d,(f d).ino=d.ino){ds:List Nd}{k:Int}:CX B8 Nd.ino (ds.map f) k=CX B8 Nd.ino ds k:=by
 unfold CX;rw[List.takeWhile_map,Ai2]
 congr 2
 funext x
 simp only[Function.comp,hf]
theorem uJ {f:Nd→Nd}(hf:∀d,(f d).ino=d.ino){ds:List Nd}{k:Int}:AT Nd.ino (ds.map f) k↔AT Nd.ino ds k:=by
 unfold AT;simp only[Aj7]
 constructor
 ·rintro⟨x,⟨y,hy,rfl⟩,e⟩;exact⟨y,hy,by rw[← e,hf]⟩
 ·rintro⟨y,hy,e⟩;exact⟨_,⟨y,hy,rfl⟩,by rw[hf,e]⟩
theorem lZ {f:Nd→Nd}(hf:∀d,(f d).ino=d.ino){ns:List Nm}{ds:List Nd}{s:List UInt8}:Un ns (ds.map f) s=(Un ns ds s).map f:=by
 unfold Un
 split
 ·unfold Dn
  rw[lR hf,Aj4,As2,As3]
 ·rfl
theorem zU {f:Nd→Nd}(hf:∀d,(f d).ino=d.ino){ns:List Nm}{ds:List Nd}{o:OpM}(h:MayW ns ds)(h2:MayW ns (ds.map f))(h1:o.kind=1→f ⟨o.ino,0,[]⟩=⟨o.ino,0,[]⟩)
  (hc:¬uP o→∀d,cW o (f d)=f (cW o d)):AG ns (ds.map f) o=((AG ns ds o).1,(AG ns ds o).2.map f):=by
 by_cases hn:uP o
 ·unfold AG
  rw[if_pos (OC.2 h),if_pos (OC.2 h2)]
  by_cases k1:o.kind=1
  ·have e:WS ns (ds.map f) o↔WS ns ds o:=by unfold WS;rw[uJ hf]
   rw[if_pos k1,if_pos k1]
   by_cases c:WS ns ds o
   ·rw[if_pos c,if_pos (e.2 c)]
    simp only;unfold FD;rw[lR hf,Aj4,An7,As2,As3,h1 k1]
   ·rw[if_neg c,if_neg λq=>c (e.1 q)]
  ·unfold uP at hn
   have kc:¬(o.kind=2∨o.kind=3∨o.kind=4∨o.kind=5):=by omega
   rw[if_neg k1,if_neg k1,if_neg kc,if_neg kc,lZ hf,lZ hf]
   by_cases k6:o.kind=6
   ·rw[if_pos k6,if_pos k6]
    split<;>rfl
   ·rw[if_neg k6,if_neg k6]
    split<;>rfl
 ·rw[zdfiZ (i:=(ns,ds.map f)) h2 hn,zdfiZ (i:=(ns,ds)) h hn]
  simp only[List.map_map]
  congr 1
  exact Ap4 λd _=>hc hn d
theorem cm {i:U0}(h:MayW i.1 i.2){w o:OpM}(hw:¬uP w)(h1:o.kind=1→w.ino≠o.ino)(h2:¬uP o→w.ino≠o.ino):
  AG (AG i.1 i.2 w).1 (AG i.1 i.2 w).2 o=AG (AG i.1 i.2 o).1 (AG i.1 i.2 o).2 w:=by
 have hm:=Ri h w;rw[zdfiZ (i:=AG i.1 i.2 o) (Ri h o) hw];rw[zdfiZ h hw]at hm⊢;refine zU (iL w) h hm (λk=>?_) λhn d=>?_
 ·unfold cW
  rw[if_neg λe=>h1 k e.symm]
 ·have hne:=h2 hn
  by_cases e:d.ino=o.ino
  ·have q:d.ino≠w.ino:=λq=>hne (q.symm.trans e)
   rw[kS q,kS (w:=w) (d:=cW o d) (by rw[iL];exact q)]
  ·rw[kS e,kS (w:=o) (d:=cW w d) (by rw[iL];exact e)]
def I6 (l:List OpM)(i:U0):U0:=l.foldl (λp o=>AG p.1 p.2 o) i
theorem push {l:List Int}{o:OpM}(ho:N7 l o):∀{R:List OpM} {K:U0},MayW K.1 K.2→(∀w∈R,¬N7 l w∧(o.kind=1→w.ino≠o.ino))→AG (I6 R K).1 (I6 R K).2 o=I6 R (AG K.1 K.2 o)
 | [],K,_,_=>rfl
 | w::R,K,h,hw=>by
  obtain⟨h1,h2⟩:=hw w (by simp);have ih:=push ho (R:=R) (K:=AG K.1 K.2 w) (Ri h w) λz hz=>hw z (by simp[hz])
  show AG (I6 R (AG K.1 K.2 w)).1 (I6 R (AG K.1 K.2 w)).2 o=I6 R (AG (AG K.1 K.2 o).1 (AG K.1 K.2 o).2 w)
  rw[ih]
  congr 1
  unfold N7 at h1 ho;refine cm h (λq=>h1 ?_) h2 λhn e=>h1 ?_
  ·unfold uP at q;omega
  ·unfold uP at hn
   rw[e]
   right;right;right
   rcases ho with ho | ho | ho | ho
   ·omega
   ·omega
   ·omega
   ·exact ho
theorem sH {l:List Int}:∀{r R:List OpM} {K:U0},MayW K.1 K.2→(∀w∈R,¬N7 l w)→(R++r).Pairwise (λw o=>o.kind=1→w.ino≠o.ino)→I6 (Fh l r (K,R)).2 (Fh l r (K,R)).1=I6 r (I6 R K)
 | [],R,K,_,_,_=>rfl
 | o::r,R,K,h,hw,hp=>by
  unfold Fh
  split
  ·rename_i ho
   rw[sH (Ri h o) hw (hp.sublist ((Ar9 R).append (List.sublist_cons_self o r)))];rw[← push ho h λw hz=>⟨hw w hz,(Am9.1 hp).2.2 w hz o (by simp)⟩];rfl
  ·rename_i ho
   rw[sH (R:=R++[o]) h (λw hz=>?_) (by rw[Ai0];exact hp)]
   ·show I6 r (I6 (R++[o]) K)=I6 r (AG (I6 R K).1 (I6 R K).2 o)
    unfold I6;rw[List.foldl_append (l':=[o])];rfl
   ·simp only[Aa9]at hz
    rcases hz with hz | rfl
    ·exact hw w hz
    ·exact ho
structure IvC (m:Int)(s:StS):Prop where
 now:s.now=I6 s.pend s.kept
 pw:s.pend.Pairwise λw o=>o.kind=1→w.ino≠o.ino
 le:∀w∈s.pend,w.ino≤m
 nl:∀x∈s.now.1,x.ino≤m
 kl:∀x∈s.kept.1,x.ino≤m
theorem zdgjZ {m:Int}{i:U0}(h:∀x∈i.1,x.ino≤m){o:OpM}(ho:o.ino≤m):∀x∈(AG i.1 i.2 o).1,x.ino≤m:=by
 have hr:∀(l:List Nm) (s:List UInt8),∀x∈Fa l s,x∈l:=λl s x hx=>by
  unfold Fa at hx;split at hx
  ·exact delK_sub.subset hx
  ·exact hx
 intro x hx;unfold AG at hx;split at hx
 ·split at hx
  ·split at hx
   ·rcases G8.1 hx with rfl | hx
    ·exact ho
    ·exact h x hx
   ·exact h x hx
  ·split at hx
   ·exact h x hx
   ·split at hx
    ·split at hx
     ·rename_i hok
      rcases G8.1 hx with rfl | hx
      ·obtain⟨y,e1,e2,e3⟩:=U8 hok.1
       show CD i.1 o.name≤m
       unfold CD;rw[e1];exact h y e2
      ·exact h x (delK_sub.subset (hr _ _ x hx))
     ·exact h x hx
    ·split at hx
     ·exact h x (hr _ _ x hx)
     ·exact h x hx
 ·exact h x hx
theorem IvC.mono {m m':Int}{s:StS}(h:IvC m s)(hm:m≤m'):IvC m' s:=
 ⟨h.now,h.pw,λw hw=>Int.le_trans (h.le w hw) hm,λx hx=>Int.le_trans (h.nl x hx) hm,λx hx=>Int.le_trans (h.kl x hx) hm⟩
theorem IvC.deed {m:Int}{s:StS}(h:IvC m s):IvC m (A5 s).2:=by
 obtain⟨e1,e2,e3,e4,e5⟩:=D0 s;exact⟨by rw[e1,e2,e3];exact h.now,by rw[e3];exact h.pw,by rw[e3];exact h.le,by rw[e1];exact h.nl,by rw[e2];exact h.kl⟩
theorem IvC.do {m:Int}{s:StS}(h:IvC m s){o:OpM}(ho:o.ino≤m)(h1:o.kind=1→∀w∈s.pend,w.ino≠o.ino):IvC m (G7 s o).2:=by
 obtain⟨e1,e2,e3,e4,e5⟩:=D0 s;unfold G7
 split
 ·refine⟨?_,?_,λw hw=>?_,zdgjZ h.nl ho,by simp only[e2];exact h.kl⟩
  ·simp only[e2]
   unfold I6;rw[List.foldl_append]
   show _=AG (I6 s.pend s.kept).1 (I6 s.pend s.kept).2 o
   rw[← h.now]
  ·simp only
   rw[Am9];refine⟨h.pw,by simp,λw hw z hz=>?_⟩;simp only[An5]at hz;subst hz;exact λk=>h1 k w hw
  ·simp only[Aa9]at hw
   rcases hw with hw | rfl
   ·exact h.le w hw
   ·exact ho
 ·exact h.deed
theorem eJ (s:StS)(o:OpM):(G7 s o).2.made=s.made:=by
 obtain⟨e1,e2,e3,e4,e5⟩:=D0 s;unfold G7
 split
 ·exact e4
 ·exact e4
def IvS (s:StS):Prop:=IvC s.made s
theorem IvS.do {s:StS}(h:IvS s){o:OpM}(ho:o.ino≤s.made)(h1:o.kind≠1):IvS (G7 s o).2:=by
 unfold IvS;rw[eJ];exact IvC.do h ho λk=>absurd k h1
theorem IvS.new (n:Int):IvS (KK n):=⟨rfl,by simp[KK],by simp[KK],by simp[KK],by simp[KK]⟩
theorem IvS.open {s:StS}(h:IvS s)(name:List UInt8)(make:Bool):IvS (DT s name make).2:=by
 unfold DT
 split
 ·exact h
 ·split
  ·exact h
  ·have hd:IvC (s.made+1) (G7 s (Dq name (s.made+1))).2:=(IvC.mono h (by omega)).do (o:=Dq name (s.made+1)) (by simp[Dq]) λ_ w hw=>by
    have:=IvC.le h w hw
    show w.ino≠s.made+1
    omega
   split
   ·rename_i hf
    have e:(G7 s (Dq name (s.made+1))).2=(A5 s).2:=by
     unfold G7 at hf⊢;split at hf
     ·simp at hf
     ·rename_i q;rw[if_neg q]
    rw[e]
    show IvC (A5 s).2.made (A5 s).2
    rw[(D0 s).2.2.2.1];exact IvC.deed h
   ·exact⟨hd.now,hd.pw,hd.le,hd.nl,hd.kl⟩
theorem IvS.ino {N:Nat}{s:StS}(h:IvS s)(hw:SW N s){i:Int}(hc:¬(Au s i).2≠0):i≤s.made:=by
 unfold Au at hc;split at hc
 ·simp at hc
 ·split at hc
  ·rename_i hg
   obtain⟨x,hx,e⟩:=(hw.now.1.ino i).1 hg.2;rw[← e];exact h.nl x hx
  ·simp at hc
theorem IvS.wr {c:List Ext}{ino pos:Int}{b:List UInt8}:∀{l:List Sp} {s:StS},IvS s→ino≤s.made→IvS (ZW c ino pos b l s).2
 | [],s,h,_=>h
 | q::r,s,h,hi=>by
  have hd:IvS (G7 s (Fo ino q.pos (Eo b pos q))).2:=h.do hi (by simp[Fo]);unfold ZW
  split
  ·exact h
  ·split
   ·exact hd
   ·exact IvS.wr hd (by rw[eJ];exact hi)
theorem Wp {l:List Int}:∀{r:List OpM} {x:U0×List OpM},(Fh l r x).2.Sublist (x.2++r)
 | [],x=>by simp[Fh]
 | o::r,x=>by
  unfold Fh
  split
  ·exact(Wp (r:=r) (x:=(AG x.1.1 x.1.2 o,x.2))).trans ((Ar9 _).append (List.sublist_cons_self o r))
  ·have:=Wp (l:=l) (r:=r) (x:=(x.1,x.2++[o]))
   simpa using this
theorem cP {m:Int}{l:List Int}:∀{r:List OpM} {x:U0×List OpM},(∀y∈x.1.1,y.ino≤m)→(∀o∈r,o.ino≤m)→∀y∈(Fh l r x).1.1,y.ino≤m
 | [],x,h,_=>h
 | o::r,x,h,ho=>by
  unfold Fh
  split
  ·exact cP (r:=r) (x:=(AG x.1.1 x.1.2 o,x.2)) (zdgjZ h (ho o (by simp))) λz hz=>ho z (by simp[hz])
  ·exact cP (r:=r) (x:=(x.1,x.2++[o])) h λz hz=>ho z (by simp[hz])
theorem lE {m:Int}{bits:List Bool}:∀{r:List OpM} {i:Nat} {x:U0},(∀y∈x.1,y.ino≤m)→(∀o∈r,o.ino≤m)→∀y∈(Hg bits i r x).1,y.ino≤m
 | [],i,x,h,_=>h
 | o::r,i,x,h,ho=>by
  unfold Hg;refine lE ?_ λz hz=>ho z (by simp[hz])
  split
  ·exact zdgjZ h (ho o (by simp))
  ·exact h
theorem IvS.sync {N:Nat}{s:StS}(h:IvS s)(hw:SW N s)(l:List Int):IvS (L0 s l).2:=by
 obtain⟨e1,e2,e3,e4,e5⟩:=D0 s;obtain⟨a,hk,-⟩:=hw.kept;unfold L0
 split
 ·have hs:=Wp (l:=l) (r:=s.pend) (x:=(s.kept,[]))
  have hI:IvC s.made s:=h
  show IvC (A5 s).2.made _
  rw[e4];refine⟨?_,hI.pw.sublist hs,λw hz=>hI.le w (hs.subset hz),by simp only[e1];exact hI.nl,cP (x:=(s.kept,[])) hI.kl hI.le⟩;simp only[e1];rw[sH (R:=[]) hk.1 (by simp) hI.pw];exact hI.now
 ·show IvC (A5 s).2.made (A5 s).2
  rw[e4];exact IvC.deed h
theorem IvS.rest {s:StS}(h:IvS s)(bits:List Bool):IvS (ME s bits):=by
 have hI:IvC s.made s:=h;have hk:=lE (bits:=bits) (i:=0) hI.kl hI.le;exact⟨rfl,by simp[ME],by simp[ME],hk,hk⟩
theorem L7 {c:Prop}[Decidable c]{a b:StS}(h1:IvS a)(h2:IvS b):IvS (if c then a else b):=by
 by_cases h:c
 ·rw[if_pos h];exact h1
 ·rw[if_neg h];exact h2
theorem IvS.step {N:Nat}{s:StS}(h:IvS s)(hw:SW N s)(x:Stp):IvS (Ct s x):=by
 have hI:IvC s.made s:=h;have hm:=hw.made.1;unfold Ct;refine L7 (h.open _ _) (L7 ?_ (L7 ?_ (L7 ?_ (L7 ?_ (L7 ?_ (L7 ?_ (L7 (h.sync hw _) (L7 (h.sync hw _) (L7 (h.sync hw _) (L7 ⟨hI.now,hI.pw,hI.le,hI.nl,hI.kl⟩ (L7 (h.rest _) h)))))))))))
 ·unfold JE
  split
  ·exact h
  ·rename_i hc
   split
   ·exact h
   ·exact h.wr (h.ino hw hc)
 ·unfold OQ
  split
  ·exact h
  ·rename_i hc
   split
   ·exact h
   ·exact h.do (h.ino hw hc) (by simp[Zn])
 ·unfold O7
  split
  ·exact h
  ·rename_i hc
   split
   ·exact h
   ·split
    ·exact h
    ·exact h.do (h.ino hw hc) (by simp[Xi])
 ·unfold OD
  split
  ·exact h
  ·rename_i hc
   split
   ·exact h
   ·exact h.do (h.ino hw hc) (by simp[Zm])
 ·unfold Md
  split
  ·exact h
  ·split
   ·exact h
   ·exact h.do hm (by simp[Vp])
 ·unfold Uo
  split
  ·exact h
  ·exact h.do hm (by simp[TP])
theorem IvS.steps:∀{l:List StpV} {N:Nat} {s:StS},IvS s→SW N s→(∀x∈l,¬O1 x.s∧x.s.n≤9223372036854775807)→IvS (l.foldl (λs x=>Ct s x.s) s)
 | [],N,s,h,_,_=>h
 | x::l,N,s,h,hw,hx=>IvS.steps (l:=l) (h.step hw x.s) (eK hw (hx x (by simp)).1 (hx x (by simp)).2) λz hz=>hx z (by simp[hz])
section
variable {P : Program}
def Cfg.hid (G:Cfg):Cfg:={w:=G.w,n:=G.n,μ:=G.μ,L:=λ_=>False,K:=λb=>G.L b∨G.K b}
theorem ACalls.hide {f:FuncId}{args:List AV}{H:AH}{R:AV→AH→Prop}(h:ACalls P f args (List.replicate H.length none) R)(hb:Dz 0 args)(hR:∀r X,R r X→H.length≤X.length):
  ACalls P f args H λr H'=>∃X,R r X∧H'=H++X.drop H.length:=by
 intro G vs hH hv
 have no:∀{o:Nat} {x:AObj},¬(List.replicate H.length (none:Option AObj))[o]?=some (some x):=fun {o x} h=>by
  rw[Ao3]at h;split at h<;>simp at h
 have h0:HR G.hid (List.replicate H.length none):=⟨by simp[Cfg.hid,hH.n],λo x h=>(no h).elim,λo o' x x' h=>(no h).elim,λo x h=>(no h).elim,λb h=>by
  rcases h with h | h
  ·exact h.elim
  ·exact hH.lt b h,λb h=>h.elim⟩
 have hv2:VRs G.hid args vs:=VRs.tr (G:=G.alien) (G':=G.hid) ⟨Nat.zero_le _,λo ho=>absurd ho (Nat.not_lt_zero _),λad vs hh=>hh⟩ (hv.alien hb);refine(h G.hid vs h0 hv2).mono ?_;rintro e w' ⟨r,X,G',v,rfl,rfl,hE,hx,hX,hq⟩;have hlen:=hR r X hq;have keep:∀k,k<G.w.heap.size→G'.w.heap[k]?=G.w.heap[k]?∧¬G'.L k:=λk hk=>hE.keep k hk (λh=>h)
 let G'':Cfg:={w:=G'.w,n:=G'.n,μ:=G'.μ,L:=λb=>G.L b∨G'.L b,K:=G.K}
 have hE':Evo G G'':=⟨hE.os,hE.tape,hE.output,hE.size,λk hk hL=>⟨(keep k hk).1,λh=>h.elim hL (keep k hk).2⟩,hE.n,hE.μ,rfl⟩;have hK:∀b,G'.K b↔G.L b∨G.K b:=λb=>by rw[hE.K];exact Iff.rfl
 have ht:Tr G' G'':=⟨Ah3 _,λ_ _=>rfl,λad vs hh=>hh.imp id fun ⟨h1,h2⟩=>⟨λh3=>h1 (by
  rcases h3 with(h3 | h3) | h3
  ·exact .inr ((hK _).2 (.inl h3))
  ·exact .inl h3
  ·exact .inr ((hK _).2 (.inr h3))),h2⟩⟩
 have hn:G'.n=X.length:=hX.n;have hμ:∀o,o<H.length→G'.μ o=G.μ o:=λo ho=>hE.μ o (by show o<G.n;rw[hH.n];exact ho)
 have at':∀{o:Nat} {x:AObj},(H++X.drop H.length)[o]?=some (some x)→(o<H.length∧H[o]?=some (some x))∨(H.length≤o∧X[o]?=some (some x)):=fun {o x} ho=>by
  rcases Ah2 o H.length with hlt | hge
  ·rw[Ag8 hlt]at ho
   exact .inl ⟨hlt,ho⟩
  ·rw[Ah0 hge,Ah6,show H.length+(o - H.length)=o by omega]at ho
   exact .inr ⟨hge,ho⟩
 have old:∀{o:Nat} {x:AObj},o<H.length→H[o]?=some (some x)→G.L (G'.μ o).1∧¬G'.L (G'.μ o).1:=fun {o x} hlt ho=>by
  rw[hμ o hlt]
  have:=hH.live o x ho
  exact⟨this,(keep _ (hH.lt _ (.inl this))).2⟩
 refine⟨r,H++X.drop H.length,G'',v,rfl,rfl,hE',VR.tr ht hx,?_,X,hq,rfl⟩;refine⟨by show G'.n=_;rw[hn,Ah9,Ah8];omega,λo x ho=>?_,λo o' x x' ho ho' he=>?_,λo x ho=>?_,λb hb=>?_,λb hb hk=>?_⟩
 ·rcases at' ho with⟨hlt,ho⟩ | ⟨hge,ho⟩
  ·exact OR.evo hE' (hH.lt_n ho) (keep _ (hH.lt _ (.inl (hH.live _ _ ho)))).1 (hH.obj o x ho)
  ·exact OR.tr ht (hX.lt_n ho) rfl (hX.obj o x ho)
 ·rcases at' ho with⟨hlt,ho⟩ | ⟨hge,ho⟩<;>rcases at' ho' with⟨hlt',ho'⟩ | ⟨hge',ho'⟩
  ·have he:(G'.μ o).1=(G'.μ o').1:=he
   rw[hμ o hlt,hμ o' hlt']at he;exact hH.inj o o' x x' ho ho' he
  ·have he:(G'.μ o).1=(G'.μ o').1:=he
   have h1:=hX.live o' x' ho';rw[← he]at h1;exact((old hlt ho).2 h1).elim
  ·have he:(G'.μ o).1=(G'.μ o').1:=he
   have h1:=hX.live o x ho;rw[he]at h1;exact((old hlt' ho').2 h1).elim
  ·exact hX.inj o o' x x' ho ho' he
 ·rcases at' ho with⟨hlt,ho⟩ | ⟨hge,ho⟩
  ·exact .inl (old hlt ho).1
  ·exact .inr (hX.live o x ho)
 ·rcases hb with(hb | hb) | hb
  ·exact Ak7 (hH.lt b (.inl hb)) hE.size
  ·exact hX.lt b (.inl hb)
  ·exact Ak7 (hH.lt b (.inr hb)) hE.size
 ·rcases hb with hb | hb
  ·exact hH.dis b hb hk
  ·exact hX.dis b hb ((hK b).2 (.inr hk))
theorem BCall.hide {f:FuncId}{args:List AV}{H X:AH}{r:AV}(h:BCall P f args (List.replicate H.length none) r X)(hb:Dz 0 args)(hl:H.length≤X.length):BCall P f args H r (H++X.drop H.length):=by
 refine(ACalls.hide h hb (by rintro r X' ⟨rfl,rfl⟩;exact hl)).mono ?_;rintro r' H' ⟨X',⟨rfl,rfl⟩,rfl⟩;exact⟨rfl,rfl⟩
end
end Go.Proofs.YtadghlcfbajamaaGreat.Av
end
section
namespace Go.Proofs.YtadghlcfbajamaaGreat.Av
open Go Go.Proofs.Tryz
def pqh:FuncId→Bool:=gU [64,96,41,33,31,82,102,44,101,86,103,104,105,35,129,131,36,87,69,138,119,118,63,130,132,122,68,124,125,126,121,20,114,61,120,60,112,164,111,38,29,10,52]
def zdexZ:FuncId→Bool:=gU [53,22]
def I8:Dh:=VT [(14,[(2,none),(7,some 1),(13,some 6),(19,some 12)])]
def I9:Nat→Option (List Bool):=CN [(100014,mk 88 0 [5,6,7,8]),(18,mk 88 0 [4]),(12,mk 88 0 [5,6,7,8,9,10])]
def IA:Nat→Bool:=gU [14]
def Dk (p:List Bool)(n:Nat):List AV→AH→Kf→Prop:=AL prog I8 pqh zdexZ IA I9 (sub p (AP f7)) n
def EY (x4:AV)(H:AH)(K:KT):Prop:=jn (mk 88 0 [4]) (Dk [tT,tT,tT,tT,tT,tT,tT,tT,tT,tT] 19) [x4] H (Ba prog f7.results.toList K)
def D6 (x5 x6 x7 x8:AV)(H:AH)(K:KT):Prop:=unR prog 14 (ZK (sub [tT,tT,tT,tT,tT,tT,tT,tT,tT,fF] (AP f7))) (Cj (mk 88 0 [5,6,7,8]) [x5,x6,x7,x8]) H (Bb (DO (mk 88 0 [4]) (Dk [tT,tT,tT,tT,tT,tT,tT,tT,tT,tT] 19)) (Ba prog f7.results.toList K))
def HP (x5 x6 x7 x8 x9 x10:AV)(H:AH)(K:KT):Prop:=lp (mk 88 0 [5,6,7,8,9,10]) (Dk [tT,tT,tT,tT,tT,tT,fF,tT,fF,fF] 13) [x5,x6,x7,x8,x9,x10] H (Be 0 (Bb (Dk [tT,tT,tT,tT,tT,tT,tT] 16) (Ba prog f7.results.toList K)))
def GF (x4:AV)(H:AH)(K:KT):Prop:=
 K x4 H
theorem Me (x4:AV)(H:AH)(K:KT):EY x4 H K=GF x4 H K:=(B3 _ _ _ _ _).trans (by kernel_rfl)
noncomputable def salvorlaw13_StoreAll_U14Ops:List Oper:=(ZK (sub [tT,tT,tT,tT,tT,tT,tT,tT,tT,fF] (AP f7))).toList
def ED (x5 x6 x7 x8:AV):List AV:=Cj (mk 88 0 [5,6,7,8]) [x5,x6,x7,x8]
theorem Eb:salvorlaw13_StoreAll_U14Ops.length=41:=by kernel_rfl
theorem Mf:Oj salvorlaw13_StoreAll_U14Ops=true:=by kernel_rfl
def Hi (K:KT):Kf:=(Bb (DO (mk 88 0 [4]) (Dk [tT,tT,tT,tT,tT,tT,tT,tT,tT,tT] 19)) (Ba prog f7.results.toList K))
theorem Mg (x5 x6 x7 x8:AV){H:AH}{K:KT}(h:ACode prog (.region 14 salvorlaw13_StoreAll_U14Ops.toArray true) (Hi K) (ED x5 x6 x7 x8) H):D6 x5 x6 x7 x8 H K:=unR.mk h
theorem Nj (x5 x6 x7 x8:AV)(vals:Nat→AV)(H:AH)(K:KT):Hi K .normal (pt salvorlaw13_StoreAll_U14Ops vals (λ_=>true) (ED x5 x6 x7 x8) 41) H=(EY (vals 40) H K):=by kernel_rfl
def salvorlaw13_StoreAll_U14Need:List (List Nat):=[[],[0],[],[1,2],[3],[4],[4,5],[4],[4,6,7],[4,8],[8,9],[10],[10,11],[10],[10,12,13],[10,14],[14,15],[16],[16,17],[16],[16,18,19],[16,20],[20,21],[22],[22,23],[22,24],[22,25],[24,26],[27],[27,28],[27,29],[27,30],[29,31],[32],[32,33],[32,34],[32,35],[34,36],[37],[37,38],[0,1,2,3,4,5,6,7,8,9,10,11,12,13,14,15,16,17,18,19,20,21,22,23,24,25,26,27,28,29,30,31,32,33,34,35,36,37,38,39]]
def Du (x5 x6 x7 x8:AV):List ((Nat→AV)→AH→(AV→AH→Prop)→Prop):=[
 λvals H K=>K x5 H,
 λvals H K=>ACalls prog 21 [(vals 0)] H K,
 λvals H K=>bO (Am true 2 H x7) λv=>K v H,
 λvals H K=>ACalls prog 44 [(vals 1),(vals 2)] H K,
 λvals H K=>K (vals 3) H,
 λvals H K=>vals 4=B true∧K x5 H,
 λvals H K=>vals 4=B true∧ACalls prog 42 [(vals 5)] H K,
 λvals H K=>vals 4=B true∧bO (Am true 2 H x7) λv=>K v H,
 λvals H K=>vals 4=B true∧ACalls prog 44 [(vals 6),(vals 7)] H K,
 λvals H K=>bO (Ay (vals 4) (vals 8) (B false)) λv=>K v H,
 λvals H K=>K (vals 9) H,
 λvals H K=>vals 10=B true∧K x6 H,
 λvals H K=>vals 10=B true∧ACalls prog 21 [(vals 11)] H K,
 λvals H K=>vals 10=B true∧bO (Am true 2 H x8) λv=>K v H,
 λvals H K=>vals 10=B true∧ACalls prog 44 [(vals 12),(vals 13)] H K,
 λvals H K=>bO (Ay (vals 10) (vals 14) (B false)) λv=>K v H,
 λvals H K=>K (vals 15) H,
 λvals H K=>vals 16=B true∧K x6 H,
 λvals H K=>vals 16=B true∧ACalls prog 42 [(vals 17)] H K,
 λvals H K=>vals 16=B true∧bO (Am true 2 H x8) λv=>K v H,
 λvals H K=>vals 16=B true∧ACalls prog 44 [(vals 18),(vals 19)] H K,
 λvals H K=>bO (Ay (vals 16) (vals 20) (B false)) λv=>K v H,
 λvals H K=>K (vals 21) H,
 λvals H K=>vals 22=B true∧K x5 H,
 λvals H K=>vals 22=B true∧ACalls prog 43 [(vals 23)] H K,
 λvals H K=>vals 22=B true∧bO (Ar .eql (vals 24) (I 0)) λv=>K v H,
 λvals H K=>bO (Ay (vals 22) (vals 25) (B false)) λv=>K v H,
 λvals H K=>K (vals 26) H,
 λvals H K=>vals 27=B true∧K x6 H,
 λvals H K=>vals 27=B true∧ACalls prog 43 [(vals 28)] H K,
 λvals H K=>vals 27=B true∧bO (Ar .eql (vals 29) (I 0)) λv=>K v H,
 λvals H K=>bO (Ay (vals 27) (vals 30) (B false)) λv=>K v H,
 λvals H K=>K (vals 31) H,
 λvals H K=>vals 32=B true∧K x5 H,
 λvals H K=>vals 32=B true∧ACalls prog 27 [(vals 33)] H K,
 λvals H K=>vals 32=B true∧bO (E6 .not (vals 34)) λv=>K v H,
 λvals H K=>bO (Ay (vals 32) (vals 35) (B false)) λv=>K v H,
 λvals H K=>K (vals 36) H,
 λvals H K=>vals 37=B true∧ACalls prog 29 [] H K,
 λvals H K=>bO (Ay (vals 37) (vals 38) (B false)) λv=>K v H,
 λvals H K=>K (vals 39) H]
theorem Ni (x5 x6 x7 x8:AV):∀i,i<salvorlaw13_StoreAll_U14Ops.length→OpIg prog salvorlaw13_StoreAll_U14Ops (ED x5 x6 x7 x8) i (salvorlaw13_StoreAll_U14Need.getD i []) ((Du x5 x6 x7 x8).getD i (λ_ _ _=>False)):=
 OpIg.all (ql:=FK) (fz:=true) Eb (by kernel_rfl) (λvals H K=>by kernel_rfl)
theorem Lg (x5 x6 x7 x8:AV){H:AH}{K:KT}(V:Nat→AV)(HI:(Nat→Bool)→AH→Prop)(h0:HI (λ_=>false) H)
  (hs:∀i,i<41→∀(S:Nat→Bool) (vals:Nat→AV) (Hc:AH),S i=false→(∀a,S a=true→∀b∈salvorlaw13_StoreAll_U14Need.getD a [],S b=true)→(∀j∈salvorlaw13_StoreAll_U14Need.getD i [],S j=true∧vals j=V j)→HI S Hc→(Du x5 x6 x7 x8).getD i (λ_ _ _=>False) vals Hc λr H'=>r=V i∧HI (HF S i) H')
  (last:∀(S:Nat→Bool) (vals:Nat→AV) (H:AH),(∀j,j<41→S j=true∧vals j=V j)→HI S H→(EY (vals 40) H K)):D6 x5 x6 x7 x8 H K:=
 Mg x5 x6 x7 x8 (ACode.told3 Zk Mf (λi=>salvorlaw13_StoreAll_U14Need.getD i []) (λi=>(Du x5 x6 x7 x8).getD i (λ_ _ _=>False)) V HI (Ni x5 x6 x7 x8) h0 (λi hi=>hs i (by rw[Eb]at hi;exact hi)) (λS vals Hc hS hI=>by
  rw[Eb]at hS⊢;rw[Nj];exact last S vals Hc hS hI))
def GG (R12:RT)(x5 x6 x7 x8 x9 x10:AV)(H:AH)(K:KT):Prop:=
 bO (AY x9) λv0=>
 bO (Ar .lss x10 v0) λv1=>
 bB v1 λt2=>bI t2 (
 bO (Bq 1 x9 x10) λv3=>
 bS (AJ 1 H v3 (B true)) λH4=>
 bO (Ar .add x10 (I 1)) λv5=>
 R12 [x5,x6,x7,x8,x9,v5] H4)
 (bC (BCall prog 40 [x5,x9] H) λv6 H7=>
 bC (BCall prog 40 [x6,Ac] H7) λv8 H9=>
 D6 x5 x6 x7 x8 H9 K)
theorem Lf {K:KT}:oX (λR x5 x6 x7 x8 x9 x10 H=>GG R x5 x6 x7 x8 x9 x10 H K) (λx5 x6 x7 x8 x9 x10 H=>HP x5 x6 x7 x8 x9 x10 H K):=zdgfZ (FE _ _) (λ_ _ _ _ _ _ _ _=>by kernel_rfl)
def GE (a0 a1:AV)(H:AH)(K:KT):Prop:=
 bC (BCall prog 28 [a1,(I 40)] H) λv0 H1=>
 bO (E6 .not v0) λv2=>
 bB v2 λt3=>bI t3 (
 bP (PCall prog 29 [] H1) λv4=>
 K v4 H1)
 (bC (BCall prog 37 [a0,a1] H1) λv5 H6=>
 bC (BCall prog 37 [a0,a1] H6) λv7 H8=>
 bO (YO .eql Wf v5 (.lit (.pointer none))) λv9=>
 bG v9 false λw10=>
 gO w10 (some v7) λv11=>
 bG v9 false λw12=>
 gO w12 (YO .eql Wf v11 (.lit (.pointer none))) λv13=>
 bO (Ay v9 (B true) v13) λv14=>
 bB v14 λt15=>bI t15 (
 K (B false) H8)
 (bC (BCall prog 21 [v5] H8) λv16 H17=>
 bC (BCall prog 42 [v7] H17) λv18 H19=>
 bH (A9 H19 (.agg [Ac,Ac])) λv20 H21=>
 bH (A9 H21 (.agg [Ac,Ac])) λv22 H23=>
 bS (AJ 2 H23 v20 v16) λH24=>
 bS (AJ 2 H24 v22 v18) λH25=>
 bC (BCall prog 43 [v5] H25) λv26 H27=>
 bH (wQ 1 1 [(B false)] H27 v26 v26) λv28 H29=>
 HP v5 v7 v20 v22 v28 (I 0) H29 K))
theorem P1 (a0 a1:AV)(H:AH)(K:KT):Xm prog I8 pqh zdexZ IA I9 f7 [a0,a1] H K=GE a0 a1 H K:=by kernel_rfl
theorem P2 {a0 a1:AV}{H:AH}{K:KT}(h:GE a0 a1 H K):ACalls prog 7 [a0,a1] H K:=
 Vz Zk func7 (by kernel_rfl) (Eq.mpr (P1 a0 a1 H K) h)
end Go.Proofs.YtadghlcfbajamaaGreat.Av
end
section
end
