/- Texts of this proof, one behind the other, packed into one file by a program of this session. No condition. -/
import Derived.Test.YtadghlcfbajamaaGreatMlL
set_option linter.unusedVariables false
set_option linter.unusedSimpArgs false
set_option maxRecDepth 100000
namespace Go.Proofs.YtadghlcfbajamaaGreat.Av
open Go Go.RowKit Go.Proofs.Tryz
section
theorem zdewZ (l m:List (Int×Int))(k:Int):Tn (l++m) k=Tn l k+Tn m k:=by
 induction l with
 | nil=>simp[Tn]
 | cons a l ih=>simp only[An9,Tn,ih];omega
theorem pI:∀{l:List (Int×Int)} (_ :∀s∈l,0≤s.1∧0≤s.2∧s.2≤20) (k:Int),0≤Tn l k∧Tn l k≤20*l.length
 | [],_,k=>by simp[Tn]
 | s::l,h,k=>by
  have h1:=pI (l:=l) (λs hs=>h s (by simp[hs])) k;have h2:=h s (by simp);simp only[Tn,Al9]
  split<;>omega
structure DevH (H:AH)(d:Dev)(a b c e:AV):Prop where
 data:Ac H 1 a=some (AY d.data,d.data.length)
 bad:Ac H 1 b=some (d.bad.flatMap Qy,d.bad.length)
 soft:Ac H 2 c=some (d.soft.flatMap PO,d.soft.length)
 shorts:Ac H 1 e=some (d.shorts.flatMap Qy,d.shorts.length)
theorem DevH.grew {H H':AH}{d:Dev}{a b c e:AV}(h:DevH H d a b c e)(g:Grew H H'):DevH H' d a b c e:=⟨g.slice h.data,g.slice h.bad,g.slice h.soft,g.slice h.shorts⟩
theorem UG {H:AH}{sz:Nat}{v:AV}{q:List AV×Nat}(h:Ac H sz v=some q):oneA v=true:=by
 cases v with
 | lit a=>cases a<;>first | rfl | (simp[Ac]at h)
 | _=>first | rfl | (simp[Ac]at h)
theorem DevH.fz {H:AH}{d:Dev}{a b c e:AV}(h:DevH H d a b c e):∃A B C E,DevV d A B C E∧FZ H (.agg [a,b,c,e]) (.agg [A,B,C,E]):=by
 obtain⟨A,hA,fA⟩:=FZ.sv (enc:=FB) (l:=d.data) (by rw[Jv];exact h.data) (by rw[Jv];exact Jw _);obtain⟨B,hB,fB⟩:=FZ.sv h.bad (Zt _);obtain⟨C,hC,fC⟩:=FZ.sv h.soft (kR _);obtain⟨E,hE,fE⟩:=FZ.sv h.shorts (Zt _);exact⟨A,B,C,E,⟨hA,hB,hC,hE⟩,FZ.agg (FZs.cons fA (FZs.cons fB (FZs.cons fC (FZs.cons fE FZs.nil))))⟩
theorem sX {H:AH}{v:AV}{l:List Int}{n k:Nat}{i x:Int}(h:Ac H 1 v=some (l.flatMap Qy,n))(hx:l[k]?=some x)(hi:i=k):∃p,Bo 1 v (I i)=some p∧Ap false 1 H p=some (I x):=by
 have hk:=(BE.1 hx).1;have hn:n=l.length:=by have h1:=B7 h;have h2:=LU T7 l;omega
 obtain⟨p,c,h1,h2,h3,h4⟩:=Nx h hi (show k<n by omega);refine⟨p,h1,?_⟩;rw[VQ h2 (by omega) h4,Ah]
 have:=congrArg (λl=>l[0]?) h3
 simp only[Ev T7 hx,Qy,Ac9,Ar8,Ao5,C1]at this;rw[Ao9 (by omega)]at this;exact this
theorem yP {H:AH}{v:AV}{l:List (Int×Int)}{n k:Nat}{i:Int}{x:Int×Int}(h:Ac H 2 v=some (l.flatMap PO,n))(hx:l[k]?=some x)(hi:i=k):∃p,Bo 2 v (I i)=some p∧Ap true 2 H p=some (.agg (PO x)):=by
 have hk:=(BE.1 hx).1;have hn:n=l.length:=by have h1:=B7 h;have h2:=LU bV l;omega
 obtain⟨p,c,h1,h2,h3,h4⟩:=Nx h hi (show k<n by omega);refine⟨p,h1,?_⟩;rw[VQ h2 (by omega) h4,Um (by omega),Ak9,h3,Ev bV hx,Aj7 (by simp[PO]),Ai2 (by simp[PO])]
def zdmbZ (H:AH)(d:Dev)(r:AV)(H':AH):Prop:=∃o n1 dv bo lo sv,r=.ptr o 0∧DiskP H.length n1 H' o (zdlmZ d) (Tn (zdlmZ d).soft) 0 dv bo lo sv∧Grew H H'
theorem oA (z:AV)(k:Int):Wl z [] k=z:=rfl
theorem MapI.put {H:AH}{o:Nat}{z v:AV}{f:Int→AV}{k:Int}(h:MapI H o z f):∃H',zdfgZ (.int .i64) H (.mp o) (I k) v=some H'∧H'.length=H.length∧(∀i,i≠o→H'[i]?=H[i]?)∧MapI H' o z (λk2=>if k2=k then v else f k2):=by
 obtain⟨ps,h1,h2⟩:=h;refine⟨_,sZ h1,by simp,λi hi=>Cc (Aj4 hi),rW ps k v,JY (BE.1 h1).1,λk2=>?_⟩;rw[xC,h2]
theorem MapI.get {H:AH}{o:Nat}{zv:Value}{f:Int→AV}(h:MapI H o (.ofV zv) f)(k:Int):lW (.int .i64) zv H (.mp o) (I k) false=some (f k):=by
 obtain⟨ps,h1,h2⟩:=h;rw[jH h1,h2]
theorem qR {d:Dev}{a b c e:AV}{H:AH}(h:DevH H d a b c e)(h1:d.bad.length≤1000000)(h2:d.soft.length≤1000000)(h3:d.data.length≤1000000)(h4:d.shorts.length≤1000000):
  ACalls prog 106 [.agg [a,b,c,e]] H (zdmbZ H d):=nP (by
 unfold bE;have g0:=Grew.app H [some (.cells [a,b,c,e])];obtain⟨A,B',C,E,hV,fV⟩:=(h.grew g0).fz;simp[UG h.data,UG h.bad,UG h.soft,UG h.shorts,Ax];refine bP_of (PCall.lend (FZs.cons fV FZs.nil) rfl (qQ hV (by omega) (by omega))) ?_
 -- what follows,of a device that may be
 have main:∀(D:Dev) (a b c e:AV) (H1:AH),Y3 D→D=zdlmZ d→DevH H1 D a b c e→D.bad.length≤1000000→D.soft.length≤1000000→D.data.length≤1000000→D.shorts.length≤1000000→H1.length=H.length+1→(∀i,i<H.length→H1[i]?=H[i]?)→H1[H.length]?=some (some (.cells [a,b,c,e]))→
   Ph (.ptr H.length 0) H1 (zdmbZ H d):=by
  intro D a b c e H1 hm hD hv b1 b2 b3 b4 hlen hold hp;rw[bJ];unfold Vw;refine rK hp hv.data hv.shorts b3 b4 ?_;intro H2 o dv m1 m2 sv g k1 k2 k3 k4 k5 k6 k7 k8 k9 k10 k11 k12 k13;rw[bK];unfold Vx;have hp2:=g.cells hp;have hv2:=hv.grew g;simp[hp2,By hv2.bad];have hol:=(BE.1 k1).1;have hm1:=(BE.1 k6).1;have hm2:=(BE.1 k7).1;have hom1:o≠m1:=by rintro rfl;rw[k1]at k6;simp at k6
  have hom2:o≠m2:=by rintro rfl;rw[k1]at k7;simp at k7
  have nd1:m1∉AM dv:=λhi=>by
   cases dv<;>simp[AM]at hi;subst hi;simp[Ac,k6]at k2
  have nd2:m2∉AM dv:=λhi=>by
   cases dv<;>simp[AM]at hi;subst hi;simp[Ac,k7]at k2
  have ns1:m1∉AM sv:=λhi=>by
   cases sv<;>simp[AM]at hi;subst hi;simp[Ac,k6]at k3
  have ns2:m2∉AM sv:=λhi=>by
   cases sv<;>simp[AM]at hi;subst hi;simp[Ac,k7]at k3
  have kb:∀H3:AH,(∀i,i<H1.length→H3[i]?=H2[i]?)→DevH H3 D a b c e:=λH3 hs=>by
   have:∀{sz:Nat} {v:AV} {q:List AV×Nat},Ac H1 sz v=some q→Ac H3 sz v=some q:=fun {sz v q} hh=>Ae hh λi hi=>by
    rw[hs i (Az hh i hi),g.2 i (Az hh i hi)]
   exact⟨this hv.data,this hv.bad,this hv.soft,this hv.shorts⟩
  -- what does not change
  have stay:∀H3:AH,H3.length=H2.length→(∀i,i≠m1→i≠m2→H3[i]?=H2[i]?)→H3[H.length]?=some (some (.cells [a,b,c,e]))∧H3[o]?=some (some (.cells [dv,.mp m1,.mp m2,sv,I 0]))∧Ac H3 1 dv=some (AY D.data,D.data.length)∧Ac H3 1 sv=some (D.shorts.flatMap Qy,D.shorts.length)∧Grew H H3:=by
   intro H3 hl hs;refine⟨(hs _ (by omega) (by omega)).trans hp2,(hs o hom1 hom2).trans k1,Ae k2 λi hi=>hs i (λh=>nd1 (h▸hi)) (λh=>nd2 (h▸hi)),Ae k3 λi hi=>hs i (λh=>ns1 (h▸hi)) (λh=>ns2 (h▸hi)),?_,λi hi=>?_⟩
   ·have:=g.1;omega
   ·rw[hs i (by omega) (by omega),g.2 i (by omega),hold i hi]
  refine Yj (λn x1 x3 x23 x24 x25 H3=>∃k:Nat,k+n=D.bad.length∧x1=.ptr H.length 0∧x3=.ptr o 0∧x23=b∧x24=I D.bad.length∧x25=I k∧H3.length=H2.length∧(∀i,i≠m1→i≠m2→H3[i]?=H2[i]?)∧MapI H3 m1 (B false) (λq=>B (decide (q∈D.bad.take k)))∧MapI H3 m2 (I 0) (λ_=>I 0)) ?_ D.bad.length
   ⟨0,by omega,rfl,rfl,rfl,rfl,rfl,rfl,λ_ _ _=>rfl,⟨[],k6,λk=>by rw[oA];simp⟩,⟨[],k7,λk=>oA _ _⟩⟩
  rintro n x1 x3 x23 x24 x25 H3 R hR ⟨k,hk,rfl,rfl,rfl,rfl,rfl,hl3,hs3,hb3,hf3⟩;unfold Vy;obtain⟨t1,t2,t3,t4,t5⟩:=stay H3 hl3 hs3;have hv3:=kb H3 λi hi=>hs3 i (by omega) (by omega)
  rcases Ai0 k D.bad.length with hlt | hge
  ·have hx:=DD hlt
   generalize D.bad[k]=y at hx;obtain⟨H4,p1,p2,p3,p4⟩:=hb3.put (k:=y) (v:=B true);obtain⟨qp,e1,e2⟩:=sX (i:=k) hv3.bad hx rfl;simp[hlt,e1,e2,t2,p1,Au (a:=k) (b:=1) (by omega) (by omega)];refine hR (n - 1) _ _ _ _ _ _ (by omega) ⟨k+1,by omega,rfl,rfl,rfl,rfl,rfl,by omega,λi hi hi2=>by rw[p3 i hi];exact hs3 i hi hi2,?_,hf3.keep (p3 m2 (Aj4 k8))⟩;obtain⟨ps,z1,z2⟩:=p4;refine⟨ps,z1,λq=>?_⟩;rw[z2,Al0,hx]
   by_cases c:q=y<;>simp[c]
  ·have hkl:k=D.bad.length:=by omega
   subst hkl;rw[Al2]at hb3;simp[t1,By hv3.soft];refine WF (λn x3 x36 x37 x38 H4=>∃k:Nat,k+n=D.soft.length∧x3=.ptr o 0∧x36=c∧x37=I D.soft.length∧x38=I k∧H2.length≤H4.length∧(∀i,i<H2.length→i≠m1→i≠m2→H4[i]?=H2[i]?)∧MapI H4 m1 (B false) (λq=>B (decide (q∈D.bad)))∧MapI H4 m2 (I 0) (λq=>I (Tn (D.soft.take k) q))) ?_ D.soft.length
    ⟨0,by omega,rfl,rfl,rfl,rfl,by omega,λi _=>hs3 i,hb3,hf3⟩
   rintro n x3 x36 x37 x38 H4 R hR ⟨k,hk,rfl,rfl,rfl,rfl,hl4,hs4,hb4,hf4⟩;unfold T4;have u2:H4[o]?=some (some (.cells [dv,.mp m1,.mp m2,sv,I 0])):=(hs4 o hol hom1 hom2).trans k1;rcases Ai0 k D.soft.length with hlt | hge
   ·have hx:=DD hlt
    generalize D.soft[k]=y at hx;have hy:=hm.2.2 y (Ah7 hx);have hsum:=pI (l:=D.soft.take k) (λs hs=>hm.2.2 s (Am0 hs)) y.1;have htl:(D.soft.take k).length≤D.soft.length:=by rw[Ah8];omega
    have gA:=Grew.app H4 [some (.cells (PO y))];have f5:MapI (H4++[some (.cells (PO y))]) m2 (.ofV (.int .i64 0)) (λq=>I (Tn (D.soft.take k) q)):=hf4.keep (gA.2 m2 (by omega));obtain⟨H5,p1,p2,p3,p4⟩:=f5.put (k:=y.1) (v:=I (Tn (D.soft.take k) y.1+y.2));have hg:=f5.get y.1;have u2':=gA.cells u2;unfold PO at p1 hg u2';have hv4:=kb H4 λi hi=>hs4 i (by have:=g.1;omega) (by omega) (by omega)
    obtain⟨qp,e1,e2⟩:=yP (i:=k) hv4.soft hx rfl;simp[hlt,e1,e2,PO,Ax,AP];simp[u2'];simp[hg,Au (a:=Tn (D.soft.take k) y.1) (b:=y.2) (by omega) (by omega),p1,Au (a:=k) (b:=1) (by omega) (by omega)];have hlA:(H4++[some (AObj.cells (PO y))]).length=H4.length+1:=by simp
    refine hR (n - 1) _ _ _ _ _ (by omega) ⟨k+1,by omega,rfl,rfl,rfl,rfl,by omega,λi hi hi1 hi2=>by rw[p3 i hi2,gA.2 i (by omega)];exact hs4 i hi hi1 hi2,(hb4.keep (gA.2 m1 (by omega))).keep (p3 m1 k8),?_⟩;obtain⟨ps,z1,z2⟩:=p4;refine⟨ps,z1,λq=>?_⟩;rw[show(I 0:AV)=AV.ofV (.int .i64 0)from rfl,z2,Al0,hx];simp only[zdewZ]
    by_cases cq:q=y.1
    ·rw[if_pos cq,cq];simp[Tn]
    ·rw[if_neg cq];simp[Tn,show ¬y.1=q by omega]
   ·have hkl:k=D.soft.length:=by omega
    subst hkl;rw[Al2]at hf4;simp;have keep:∀i,i<H2.length→i≠m1→i≠m2→H4[i]?=H2[i]?:=hs4;refine⟨o,H4.length,dv,m1,m2,sv,rfl,?_,by omega,λi hi=>?_⟩
    ·rw[← hD]
     refine⟨u2,Ae k2 λi hi=>keep i (Az k2 i hi) (λh=>nd1 (h▸hi)) (λh=>nd2 (h▸hi)),hb4,hf4,Ae k3 λi hi=>keep i (Az k3 i hi) (λh=>ns1 (h▸hi)) (λh=>ns2 (h▸hi)),k8,λhi=>(k12 o hi).2 rfl,λhi=>(k13 o hi).2 rfl,
      ⟨by omega,by omega,by omega,λi hi=>by have:=(k12 i hi).1;omega,λi hi=>by have:=(k13 i hi).1;omega⟩,⟨by omega,by omega,by omega,λi hi=>by have:=Az k2 i hi;omega,λi hi=>by have:=Az k3 i hi;omega⟩,Ah9 _,AD k4,AD k5⟩
    ·rw[keep i (by have:=g.1;omega) (by omega) (by omega),g.2 i (by omega),hold i hi]
 by_cases hm:Y3 d
 ·simp[hm]
  exact main d a b c e _ hm (by unfold zdlmZ;rw[if_pos hm]) (h.grew g0) h1 h2 h3 h4 (by simp) (λi hi=>Ah6 hi) (by simp)
 ·simp[hm,AP]
  refine main ⟨[],[],[],[]⟩ Ad Ad Ad Ad _ ⟨by simp,by simp,by simp⟩ (by unfold zdlmZ;rw[if_neg hm]) ⟨rfl,rfl,rfl,rfl⟩ (by simp) (by simp) (by simp) (by simp) (by simp) (λi hi=>?_) ?_
  ·rw[Ah6 hi]
  ·simp)
def LS (D:Dev)(L:Int→Int)(k:Int):Prop:=k∈D.bad∨0<L k
instance (D:Dev) (L:Int→Int) (k:Int):Decidable (LS D L k):=by unfold LS;infer_instance
def lM (D:Dev)(c:Int):Int:=(D.shorts[c.toNat]?).getD 0
def SL (D:Dev)(c pos n:Int):Int:=if c<D.shorts.length∧0<lM D c then min (min n (max 0 (D.data.length - pos))) (lM D c)else min n (max 0 (D.data.length - pos))
def endP (D:Dev)(L:Int→Int)(k0 e0 e:Int):Prop:=(e=e0∨∃k,k0≤k∧e=k*8∧k*8<e0∧LS D L k)∧∀k,k0≤k→k*8<e→¬LS D L k
theorem endP.uniq {D:Dev}{L:Int→Int}{k0 e0 a b:Int}(h:endP D L k0 e0 a)(h':endP D L k0 e0 b):a=b:=by
 have key:∀{a b:Int},endP D L k0 e0 a→endP D L k0 e0 b→¬a<b:=by
  intro a b h h' hlt;rcases h.1 with rfl | ⟨k,k1,rfl,k2,k3⟩
  ·rcases h'.1 with rfl | ⟨k,k1,rfl,k2,k3⟩<;>omega
  ·exact h'.2 k k1 hlt k3
 have:=key h h';have:=key h' h;omega
theorem zY (D:Dev)(L:Int→Int):∀(n:Nat) (k0 e0:Int),(e0 - k0*8).toNat≤n→∃e,endP D L k0 e0 e:=by
 intro n
 induction n with
 | zero=>intro k0 e0 h;exact⟨e0,.inl rfl,λk h1 h2=>by omega⟩
 | succ n ih=>
  intro k0 e0 h
  by_cases c:k0*8<e0
  ·by_cases hf:LS D L k0
   ·exact⟨k0*8,.inr ⟨k0,by omega,rfl,c,hf⟩,λk h1 h2=>by omega⟩
   ·obtain⟨e,h1,h2⟩:=ih (k0+1) e0 (by omega)
    refine⟨e,h1.imp id fun ⟨k,a,b,c,d⟩=>⟨k,by omega,b,c,d⟩,λk h3 h4=>?_⟩
    by_cases hk:k=k0
    ·rw[hk];exact hf
    ·exact h2 k (by omega) h4
  ·exact⟨e0,.inl rfl,λk h1 h2=>by omega⟩
noncomputable def zdjtZ (D:Dev)(L:Int→Int)(k0 e0:Int):Int:=Classical.choose (zY D L (e0 - k0*8).toNat k0 e0 (Ah9 _))
theorem Yl (D:Dev)(L:Int→Int)(k0 e0:Int):endP D L k0 e0 (zdjtZ D L k0 e0):=Classical.choose_spec (zY D L (e0 - k0*8).toNat k0 e0 (Ah9 _))
theorem endP.le {D:Dev}{L:Int→Int}{k0 e0 e:Int}(h:endP D L k0 e0 e):e≤e0∧(e=e0∨k0*8≤e):=by
 rcases h.1 with rfl | ⟨k,k1,rfl,k2,k3⟩
 ·exact⟨by omega,.inl rfl⟩
 ·exact⟨by omega,.inr (by omega)⟩
def dR (l:List UInt8)(a b:Int):List UInt8:=(l.drop a.toNat).take (b - a).toNat
noncomputable def JI (D:Dev)(L:Int→Int)(c pos n:Int):List UInt8×Int×(Int→Int)×Int:=
 if pos<0∨n<0∨4096<n then([],5,L,c)
 else if SL D c pos n=0 then([],0,L,c+1)
 else if LS D L (pos/8)then([],1,(if pos/8∈D.bad then L else λk=>if k=pos/8 then L (pos/8) - 1 else L k),c+1)
 else(dR D.data pos (zdjtZ D L (pos/8+1) (pos+SL D c pos n)),0,L,c+1)
structure Fine (D:Dev)(L:Int→Int)(c:Int):Prop where
 l:∀k,-1000000000000≤L k∧L k≤1000000000000
 c:0≤c∧c≤1000000000000
 data:D.data.length≤1000000
 shorts:D.shorts.length≤1000000
section
variable {n0 n1 : Nat} {H : AH} {o : Nat} {D : Dev} {L : Int→Int} {c : Int} {dv sv : AV} {bo lo : Nat}
theorem DiskP.getB (h:DiskP n0 n1 H o D L c dv bo lo sv)(k:Int):lW (.int .i64) (.bool false) H (.mp bo) (I k) false=some (B (decide (k∈D.bad))):=MapI.get (zv:=.bool false) h.bad k
theorem DiskP.getL (h:DiskP n0 n1 H o D L c dv bo lo sv)(k:Int):lW (.int .i64) (.int .i64 0) H (.mp lo) (I k) false=some (I (L k)):=MapI.get (zv:=.int .i64 0) h.left k
theorem jZ (h:DiskP n0 n1 H o D L c dv bo lo sv):BCall prog 108 [.ptr o 0] H (I c) H:=by
 obtain⟨r,H',⟨rfl,rfl⟩,hc⟩:=VV (K:=λr H'=>r=I c∧H'=H) (a0:=.ptr o 0) (H:=H) (by
  unfold Sj;simp[h.obj])
 exact hc
theorem WG (h:DiskP n0 n1 H o D L c dv bo lo sv)(k:Int):BCall prog 189 [.ptr o 0,I k] H (B (decide (LS D L k))) H:=by
 obtain⟨r,H',⟨rfl,rfl⟩,hc⟩:=VX (K:=λr H'=>r=B (decide (LS D L k))∧H'=H) (a0:=.ptr o 0) (a1:=I k) (H:=H) (by
  unfold Sn
  by_cases h3:k∈D.bad
  ·simp[h.obj,h.getB,h3,LS]
  ·simp[h.obj,h.getB,h3,h.getL,LS])
 exact hc
theorem kA (h:DiskP n0 n1 H o D L c dv bo lo sv)(hf:Fine D L c)(pos n:Int)(hp:0≤pos)(hp2:pos≤9223372036854775807):BCall prog 188 [.ptr o 0,I pos,I n] H (I (SL D c pos n)) H:=by
 have hd:=hf.data;have hc0:=hf.c
 obtain⟨r,H',⟨rfl,rfl⟩,hc⟩:=VW (K:=λr H'=>r=I (SL D c pos n)∧H'=H) (a0:=.ptr o 0) (a1:=I pos) (a2:=I n) (H:=H) (by
  unfold Sk;have hm:min (max (D.data.length - pos) 0) n=min n (max 0 (D.data.length - pos)):=by omega
  simp[h.obj,By h.data,B2 (a:=(D.data.length:Int)) (b:=pos) (by omega) (by omega),hm,By h.shorts]
  have fin:∀x,x=SL D c pos n→FS (I x) H λr H'=>r=I (SL D c pos n)∧H'=H:=by
   rintro x rfl;rw[SN];unfold LP;exact⟨rfl,rfl⟩
  by_cases h1:c<D.shorts.length
  ·have hx:=DD (l:=D.shorts) (i:=c.toNat) (by omega)
   generalize D.shorts[c.toNat]'(by omega)=y at hx;have hy : lM D c=y:=by unfold lM; rw [hx]; rfl
   obtain⟨p,e1,e2⟩:=sX h.shorts hx (i:=c) (by omega)
   by_cases h2:0<y
   ·simp[h1,e1,e2,h2,h.obj]
    exact fin _ (by unfold SL;rw[if_pos ⟨h1,by rw[hy];exact h2⟩,hy];omega)
   ·simp[h1,e1,e2,h2,h.obj]
    exact fin _ (by unfold SL;rw[if_neg (λh=>h2 (by rw[← hy];exact h.2))])
  ·simp[h1]
   exact fin _ (by unfold SL;rw[if_neg (λh=>h1 h.1)]))
 exact hc
end
def zdfmZ (n0 n1:Nat)(H:AH)(o:Nat)(D:Dev)(dv:AV)(bo lo:Nat)(sv:AV)(res:List UInt8×Int×(Int→Int)×Int)(r:AV)(H':AH):Prop:=
 ∃v,r=.tup [v,I res.2.1]∧Ac H' 1 v=some (AY res.1,res.1.length)∧AZ v=true∧(∀i∈AM v,H.length≤i)∧DiskP n0 n1 H' o D res.2.2.1 res.2.2.2 dv bo lo sv∧Keep n0 n1 H H'
theorem tB {D:Dev}{c pos n:Int}(hn:0≤n):0≤SL D c pos n∧SL D c pos n≤n∧(0<SL D c pos n→pos+SL D c pos n≤D.data.length):=by
 unfold SL
 split
 ·rename_i h
  have:=h.2
  refine⟨by omega,by omega,λh=>by omega⟩
 ·refine⟨by omega,by omega,λh=>by omega⟩
theorem DiskP.set {n0 n1:Nat}{H:AH}{o:Nat}{D:Dev}{L:Int→Int}{c c':Int}{dv sv:AV}{bo lo:Nat}(h:DiskP n0 n1 H o D L c dv bo lo sv):DiskP n0 n1 (H.set o (some (.cells [dv,.mp bo,.mp lo,sv,I c']))) o D L c' dv bo lo sv∧Keep n0 n1 H (H.set o (some (.cells [dv,.mp bo,.mp lo,sv,I c']))):=by
 have hol:=(BE.1 h.obj).1
 have hb:bo≠o:=by
  rintro rfl;obtain⟨ps,h1,-⟩:=h.bad;rw[h.obj]at h1;simp at h1
 have hl:lo≠o:=by
  rintro rfl;obtain⟨ps,h1,-⟩:=h.left;rw[h.obj]at h1;simp at h1
 refine⟨⟨JY hol,Ae h.data λi hi=>Cc (fun (e:o=i)=>h.od (e▸hi)),h.bad.keep (Cc (Aj4 hb)),h.left.keep (Cc (Aj4 hl)),Ae h.shorts λi hi=>Cc (fun (e:o=i)=>h.os (e▸hi)),h.ne,h.od,h.os,h.low,h.high,by simpa using h.top,h.one⟩,
  by simp,λi hi hn=>Cc (by have:=h.low.1;have:=h.high.1;omega)⟩
theorem qP {n0 n1:Nat}{H:AH}{o:Nat}{D:Dev}{L:Int→Int}{c:Int}{dv sv:AV}{bo lo:Nat}(h:DiskP n0 n1 H o D L c dv bo lo sv)(hf:Fine D L c)(pos n:Int)(hp:pos≤9223372036854775807):
  ∃r H',zdfmZ n0 n1 H o D dv bo lo sv (JI D L c pos n) r H'∧BCall prog 163 [.ptr o 0,I pos,I n] H r H':=Yi (by
 unfold Vv;have hd:=hf.data;have hc0:=hf.c
 have empty:∀(x:Int) L' c' H',DiskP n0 n1 H' o D L' c' dv bo lo sv→Keep n0 n1 H H'→JI D L c pos n=([],x,L',c')→zdfmZ n0 n1 H o D dv bo lo sv (JI D L c pos n) (.tup [Ad,I x]) H':=by
  intro x L' c' H' h1 h2 h3;rw[h3];exact⟨Ad,rfl,rfl,rfl,by simp[AM],h1,h2⟩
 by_cases h1:pos<0
 ·simp[h1]
  exact empty 5 L c H h ⟨Ah9 _,λ_ _ _=>rfl⟩ (if_pos (.inl h1))
 ·by_cases h2:n<0
  ·simp[h1,h2]
   exact empty 5 L c H h ⟨Ah9 _,λ_ _ _=>rfl⟩ (if_pos (.inr (.inl h2)))
  ·by_cases h3:4096<n
   ·simp[h1,h2,h3]
    exact empty 5 L c H h ⟨Ah9 _,λ_ _ _=>rfl⟩ (if_pos (.inr (.inr h3)))
   ·have hg:JI D L c pos n=_:=if_neg (λhh=>by omega)
    simp[h1,h2,h3];refine bC_of (kA h hf pos n (by omega) hp) ?_;obtain⟨b1,b2,b3⟩:=tB (D:=D) (c:=c) (pos:=pos) (n:=n) (by omega);simp[h.obj,Au (a:=c) (b:=1) (by omega) (by omega)];rw[AK (n:=1) (off:=4) (xs:=[I (c+1)]) rfl h.obj rfl (by simp)];simp;obtain⟨h',kp⟩:=h.set (c':=c+1);generalize (H.set o (some (.cells [dv,.mp bo,.mp lo,sv,I (c+1)])))=H1 at h' kp;generalize hm:SL D c pos n=m at*
    by_cases h4:m=0
    ·rw[if_pos h4]at hg
     simp[h4];exact empty 0 L (c+1) H1 h' kp hg
    ·rw[if_neg h4]at hg
     have hpm:=b3 (by omega);simp[h4,JS (a:=pos) (b:=8) (by omega) (by omega) (by omega)];refine bC_of (WG h' (pos/8)) ?_
     by_cases h5:LS D L (pos/8)
     ·rw[if_pos h5]at hg
      simp[h5,h'.obj,h'.getB]
      by_cases h6:pos/8∈D.bad
      ·rw[if_pos h6]at hg
       simp[h6];rw[LN];unfold Iv;exact empty 1 L (c+1) H1 h' kp hg
      ·rw[if_neg h6]at hg
       have hL:=hf.l (pos/8);obtain⟨H2,p1,p2,p3,p4⟩:=h'.left.put (k:=pos/8) (v:=I (L (pos/8) - 1));simp[h6,h'.getL,B2 (a:=L (pos/8)) (b:=1) (by omega) (by omega),p1];rw[LN];unfold Iv
       have hlo:lo≠o:=by
        rintro rfl;obtain⟨ps,h1,-⟩:=h'.left;rw[h'.obj]at h1;simp at h1
       have nd:lo∉AM dv:=λhi=>by
        obtain⟨ps,z1,-⟩:=h'.left;have z2:=h'.data;cases dv<;>simp[AM]at hi;subst hi;simp[Ac,z1]at z2
       have ns:lo∉AM sv:=λhi=>by
        obtain⟨ps,z1,-⟩:=h'.left;have z2:=h'.shorts;cases sv<;>simp[AM]at hi;subst hi;simp[Ac,z1]at z2
       have kp2:Keep n0 n1 H1 H2:=⟨by omega,λi hi hn=>p3 i (by have:=h'.low;have:=h'.high;omega)⟩;refine empty 1 _ (c+1) H2 ⟨(p3 o (Aj4 hlo)).trans h'.obj,Ae h'.data λi hi=>p3 i (λe=>nd (e▸hi)),h'.bad.keep (p3 bo h'.ne),?_,Ae h'.shorts λi hi=>p3 i (λe=>ns (e▸hi)),h'.ne,h'.od,h'.os,h'.low,h'.high,by have:=h'.top;omega,h'.one⟩ (kp.trans kp2) hg;obtain⟨ps,z1,z2⟩:=p4;refine⟨ps,z1,λk=>?_⟩;rw[z2]
       by_cases hk:k=pos/8<;>simp[hk]
     ·rw[if_neg h5]at hg
      simp[h5,Au (a:=pos) (b:=m) (by omega) (by omega),Au (a:=pos/8) (b:=1) (by omega) (by omega)];refine RK (λq x0 x1 x9 x10 H'=>∃(k e:Int),q=(pos+m - k*8).toNat∧x0=.ptr o 0∧x1=I pos∧x9=I e∧x10=I k∧H'=H1∧pos/8+1≤k∧(e=pos+m∨∃k2,pos/8+1≤k2∧k2<k∧e=k2*8∧k2*8<pos+m∧LS D L k2)∧(∀k2,pos/8+1≤k2→k2<k→k2*8<e→¬LS D L k2)∧k*8≤pos+m+8) ?_ (pos+m - (pos/8+1)*8).toNat
       ⟨pos/8+1,pos+m,rfl,rfl,rfl,rfl,rfl,rfl,by omega,.inl rfl,λk2 _ _=>by omega,by omega⟩
      rintro q x0 x1 x9 x10 H' R hR ⟨k,e,rfl,rfl,rfl,rfl,rfl,rfl,k1,k2,k3,k4⟩;unfold MI;have hle:e≤pos+m:=by rcases k2 with rfl | ⟨a,_,_,rfl,_,_⟩<;>omega
      simp[D4 (a:=k) (b:=8) (by omega) (by omega)]
      by_cases c1:k*8<e
      ·simp[c1]
       refine bC_of (WG h' k) ?_
       by_cases c2:LS D L k
       ·simp[c2]
        rw[LO];unfold Iw;simp[Au (a:=k) (b:=1) (by omega) (by omega)];refine hR _ _ _ _ _ _ (by omega) ⟨k+1,k*8,rfl,rfl,rfl,rfl,rfl,rfl,by omega,.inr ⟨k,k1,by omega,rfl,by omega,c2⟩,λk2 h1 h2 h3=>k3 k2 h1 (by omega) (by omega),by omega⟩
       ·simp[c2]
        rw[LO];unfold Iw;simp[Au (a:=k) (b:=1) (by omega) (by omega)];refine hR _ _ _ _ _ _ (by omega) ⟨k+1,e,rfl,rfl,rfl,rfl,rfl,rfl,by omega,k2.imp id fun ⟨a,b,cc,d⟩=>⟨a,b,by omega,d⟩,λk2 h1 h2 h3=>?_,by omega⟩
        by_cases h:k2=k
        ·rw[h];exact c2
        ·exact k3 k2 h1 (by omega) h3
      ·have hend:endP D L (pos/8+1) (pos+m) e:=⟨k2.imp id fun ⟨a,b,cc,d⟩=>⟨a,b,d⟩,λk2 h1 h2=>k3 k2 h1 (by omega) h2⟩
       have he:=hend.uniq (Yl D L (pos/8+1) (pos+m));have hel:=hend.le;rw[← he]at hg;have hge:pos≤e:=by omega
       obtain⟨r10,s1,s2,-,-,-⟩:=EI h'.data (lo:=some (I pos)) (hi:=some (I e)) (l:=pos.toNat) (k:=e.toNat) (by simp[Ci];omega) (by simp[Ci];omega) (by omega) (by omega);simp[c1,h'.obj,s1];obtain⟨r,H2,⟨q1,q2,q3,q4⟩,q5⟩:=nD s2 (by omega);refine bC_of q5 ?_;rw[hg];have hl:(dR D.data pos e).length=e.toNat - pos.toNat:=by unfold dR;rw[Ah8,Ai5];omega
       refine⟨r,rfl,?_,q1,λi hi=>Aj0 kp.1 (q4 i hi),h'.keep (Keep.of (a:=n1) (b:=n1) q3) (.inl (Ah9 _)),kp.trans (Keep.of q3)⟩;rw[q2,hl];simp only[dR,Qx,N0,An6];rw[show(e - pos).toNat=e.toNat - pos.toNat by omega])
end
section
theorem zddwZ {l:List UInt8}{a b:Int}:(dR l a b).length≤(b - a).toNat:=by
 unfold dR;rw[Ah8];omega
noncomputable def Zg (D:Dev)(pos n:Int):Nat→List UInt8→(Int→Int)→Int→List UInt8×Int×(Int→Int)×Int
 | 0,out,L,c=>(out,0,L,c)
 | f+1,out,L,c=>
  if(out.length:Int)<n then
   if(JI D L c (pos+out.length) (n - out.length)).1=[]then(out,(JI D L c (pos+out.length) (n - out.length)).2)
   else Zg D pos n f (out++(JI D L c (pos+out.length) (n - out.length)).1) (JI D L c (pos+out.length) (n - out.length)).2.2.1 (JI D L c (pos+out.length) (n - out.length)).2.2.2
  else(out,0,L,c)
theorem Pq {D : Dev} {pos n : Int} {f : Nat} {out : List UInt8} {L : Int → Int} {c : Int} : Zg D pos n (f + 1) out L c = if (out.length : Int) < n then
      if(JI D L c (pos+out.length) (n - out.length)).1=[]then(out,(JI D L c (pos+out.length) (n - out.length)).2)
      else Zg D pos n f (out++(JI D L c (pos+out.length) (n - out.length)).1) (JI D L c (pos+out.length) (n - out.length)).2.2.1 (JI D L c (pos+out.length) (n - out.length)).2.2.2
    else(out,0,L,c):=rfl
noncomputable def cG (D:Dev)(L:Int→Int)(c pos n:Int):List UInt8×Int×(Int→Int)×Int:=
 if pos<0∨n<0∨4096<n then([],5,L,c)else Zg D pos n (n.toNat+1) [] L c
theorem Fine.get {D:Dev}{L:Int→Int}{c:Int}(h:Fine D L c)(hc:c<1000000000000)(pos n:Int):Fine D (JI D L c pos n).2.2.1 (JI D L c pos n).2.2.2∧c≤(JI D L c pos n).2.2.2∧(JI D L c pos n).2.2.2≤c+1:=by
 have h0:=h.c;have f1:Fine D L (c+1):=⟨h.l,by omega,h.data,h.shorts⟩;unfold JI
 split
 ·exact⟨h,by simp,by simp only;omega⟩
 ·split
  ·exact⟨f1,by simp only;omega,by simp only;omega⟩
  ·split
   ·rename_i hf
    refine⟨?_,by simp only;omega,by simp only;omega⟩;simp only
    split
    ·exact f1
    ·rename_i hb
     have hL:=hf.resolve_left hb;refine⟨λk=>?_,by omega,h.data,h.shorts⟩
     have:=h.l (pos/8)
     have:=h.l k
     by_cases e:k=pos/8
     ·simp only[e,if_true];omega
     ·simp only[e,if_false];omega
   ·exact⟨f1,by simp only;omega,by simp only;omega⟩
theorem zdcuZ {D:Dev}{L:Int→Int}{c pos n:Int}(hn:0≤n):((JI D L c pos n).1.length:Int)≤n∧((JI D L c pos n).1=[]∨pos+(JI D L c pos n).1.length≤D.data.length):=by
 obtain⟨b1,b2,b3⟩:=tB (D:=D) (c:=c) (pos:=pos) (n:=n) hn;unfold JI
 split
 ·exact⟨by simpa using hn,.inl rfl⟩
 ·split
  ·exact⟨by simpa using hn,.inl rfl⟩
  ·split
   ·exact⟨by simpa using hn,.inl rfl⟩
   ·have he:=(Yl D L (pos/8+1) (pos+SL D c pos n)).le
    have hp:=zddwZ (l:=D.data) (a:=pos) (b:=zdjtZ D L (pos/8+1) (pos+SL D c pos n));simp only;exact⟨by omega,.inr (by omega)⟩
theorem qW {D:Dev}{pos n:Int}:∀(f g:Nat) {out:List UInt8} {L:Int→Int} {c:Int},n - out.length<f→f≤g→Zg D pos n g out L c=Zg D pos n f out L c:=by
 intro f
 induction f with
 | zero=>
  intro g out L c h1 h2;cases g with
  | zero=>rfl
  | succ g=>
   rw[Pq,if_neg (by omega)];rfl
 | succ f ih=>
  intro g out L c h1 h2;obtain⟨g,rfl⟩:∃k,g=k+1:=⟨g - 1,by omega⟩;rw[Pq,Pq]
  by_cases c1:(out.length:Int)<n
  ·rw[if_pos c1,if_pos c1]
   by_cases c2:(JI D L c (pos+out.length) (n - out.length)).1=[]
   ·rw[if_pos c2,if_pos c2]
   ·rw[if_neg c2,if_neg c2]
    have:=List.length_pos_iff.2 c2
    exact ih g (by rw[Ai3];omega) (by omega)
  ·rw[if_neg c1,if_neg c1]
theorem zdikZ {n0 n1:Nat}{H:AH}{o:Nat}{D:Dev}{L:Int→Int}{c:Int}{dv sv:AV}{bo lo:Nat}(h:DiskP n0 n1 H o D L c dv bo lo sv)(hf:Fine D L c)(hc9:c<900000000000)(pos n:Int)(hp:pos≤9223372036854775807):
  ∃r H',zdfmZ n0 n1 H o D dv bo lo sv (cG D L c pos n) r H'∧BCall prog 107 [.ptr o 0,I pos,I n] H r H':=kL (by
 unfold gZ;have hd:=hf.data
 have stop:pos<0∨n<0∨4096<n→zdfmZ n0 n1 H o D dv bo lo sv (cG D L c pos n) (.tup [Ad,I 5]) H:=by
  intro q;unfold cG;rw[if_pos q];exact⟨Ad,rfl,rfl,rfl,by simp[AM],h,⟨Ah9 _,λ_ _ _=>rfl⟩⟩
 by_cases h1:pos<0
 ·simp[h1]
  exact stop (.inl h1)
 by_cases h2:n<0
 ·simp[h1,h2]
  exact stop (.inr (.inl h2))
 by_cases h3:4096<n
 ·simp[h1,h2,h3]
  exact stop (.inr (.inr h3))
 simp only[Ae8,Du,h1,h2,h3,AU,show((false==false)=true)from rfl,A8,A2,An];have hS:cG D L c pos n=Zg D pos n (n.toNat+1) [] L c:=if_neg (by omega);refine Xn (λm x0 x1 x2 x8 H'=>∃(out:List UInt8) (L':Int→Int) (c':Int),m=(n - out.length).toNat∧x0=.ptr o 0∧x1=I pos∧x2=I n∧Ac H' 1 x8=some (AY out,out.length)∧AZ x8=true∧(∀i∈AM x8,H.length≤i)∧DiskP n0 n1 H' o D L' c' dv bo lo sv∧Fine D L' c'∧Keep n0 n1 H H'∧(out=[]∨pos+out.length≤D.data.length)∧out.length≤n∧c'+m<990000000000∧Zg D pos n (m+1) out L' c'=cG D L c pos n) ?_ (n.toNat)
  ⟨[],L,c,by simp,rfl,rfl,rfl,rfl,rfl,by simp[AM],h,hf,⟨Ah9 _,λ_ _ _=>rfl⟩,.inl rfl,by simp;omega,by omega,hS.symm⟩
 rintro m x0 x1 x2 x8 H2 R hR ⟨out,L',c',hm,rfl,rfl,rfl,hs,hos,hi,hP,hF,hK,hdat,hol,hcm,hfe⟩;unfold Ub;have al:=By hs
 have e1:Ar .add (I pos) (I (out.length:Int))=some (I (pos+out.length)):=by
  rcases hdat with q | q
  ·subst q
   exact Au (by simp;omega) (by simp;omega)
  ·exact Au (by omega) (by omega)
 have e2:Ar .sub (I n) (I (out.length:Int))=some (I (n - out.length)):=B2 (by omega) (by omega)
 have hpl:pos+out.length≤9223372036854775807:=by
  rcases hdat with q | q
  ·subst q;simpa using hp
  ·omega
 have hlow:=h.low;have hhigh:=h.high;have htop:=h.top;rw[Pq]at hfe;simp only[al,Ac0]
 by_cases c1:(out.length:Int)<n
 ·rw[if_pos c1]at hfe
  obtain⟨r,H3,⟨v,rfl,a1,a2,a3,a4,a5⟩,hc⟩:=qP hP hF (pos+out.length) (n - out.length) hpl;obtain⟨g1,g2,g3⟩:=hF.get (by omega) (pos+out.length) (n - out.length);obtain⟨l1,l2⟩:=zdcuZ (D:=D) (L:=L') (c:=c') (pos:=pos+out.length) (n:=n - out.length) (by omega);simp only[c1,Ad1,e1,e2,Aa];refine bC_of hc ?_;generalize JI D L' c' (pos+out.length) (n - out.length)=G at*;have alv:=By a1;have hs3:Ac H3 1 x8=some (AY out,out.length):=Ae hs λi q=>a5.2 i (Az hs i q) (λz=>by have:=hi i q;omega)
  simp only[Ab8,alv,BJ]
  by_cases c2:G.1=[]
  ·rw[if_pos c2]at hfe
   have:((G.1.length:Int)=0):=by rw[c2];rfl
   simp only[this,Ad1];rw[← hfe];exact⟨x8,rfl,hs3,hos,hi,a4,hK.trans a5⟩
  ·rw[if_neg c2]at hfe
   have hpos:=List.length_pos_iff.2 c2;have:¬((G.1.length:Int)=0):=by omega
   obtain⟨r,H4,b1,b2,b3,b4,b5,b6⟩:=BX (sz:=1) (bytes:=1) hs3 hos (A1 a1) (by omega);simp only[this,Ab7,b1,A6];have hlen:H.length≤H3.length:=Aj0 hK.1 a5.1;have k4:Keep H.length (H3.length+1) H3 H4:=⟨b4,λi q1 q2=>b5 i q1 (λz=>q2 ⟨hi i z,by omega⟩)⟩;refine hR ((n - (out++G.1).length).toNat) _ _ _ _ _ (by rw[Ai3];omega) ⟨out++G.1,G.2.2.1,G.2.2.2,rfl,rfl,rfl,rfl,?_,b2,?_,a4.keep k4 (.inl htop),g1,?_,.inr ?_,?_,?_,?_⟩
   ·rw[b3,Ai3]
    simp[AY]
   ·intro i q
    rcases b6 i q with q | q
    ·exact hi i q
    ·omega
   ·exact⟨by omega,λi q1 q2=>by rw[b5 i (by omega) (λz=>by have:=hi i z;omega),a5.2 i (by have:=hK.1;omega) q2,hK.2 i q1 q2]⟩
   ·rw[Ai3];rcases l2 with q | q
    ·exact absurd q c2
    ·omega
   ·rw[Ai3];omega
   ·rw[Ai3];omega
   ·exact(qW _ m (by omega) (by rw[Ai3];omega)).symm.trans hfe
 ·rw[if_neg c1]at hfe
  simp only[c1,Ab7];rw[← hfe];exact⟨x8,rfl,hs,hos,hi,hP,hK⟩)
theorem cO {D:Dev}{L:Int→Int}{c pos n m e:Int}(h1:0≤pos)(h2:0≤n)(h3:n≤4096)(hm:SL D c pos n=m)(h4:m≠0)(h5:¬LS D L (pos/8))(he:endP D L (pos/8+1) (pos+m) e):JI D L c pos n=(dR D.data pos e,0,L,c+1):=by
 unfold JI;rw[if_neg (by omega),hm,if_neg h4,if_neg h5,(Yl D L (pos/8+1) (pos+m)).uniq he]
theorem StAt.keepI {s:StS}{os:Nat}{p:AV}{H H':AH}(h:StAt s os p H)(k1:H'[os]?=H[os]?)(k2:∀i∈AM p,H'[i]?=H[i]?):StAt s os p H':=by
 obtain⟨a,b,c,d,pv,h⟩:=h;exact⟨a,b,c,d,pv,k1.trans h.obj,h.now,h.kept,h.pm,Ae h.ps k2,h.po,h.pi,h.pc⟩
theorem vF {H:AH}{v u:AV}(h:oneA v=true)(k:oneA u=true):D9 H 1 2 (B4 [Ad] 2) [(0,1,v),(1,1,u)]=some (.sl H.length 0 2 1 (.ex 2),H++[some (.cells [v,u])]):=by
 simp[D9,B4,Bs h,Bs k,Bm]
theorem uJ {N:Nat}{s:StS}(h:SW N s)(nm:List UInt8)(l:List (List UInt8)):SW (N+2+9*JK l) (lE s nm l).2:=by
 have w1:=X2 h nm true;unfold lE;generalize Bq s nm true=O at*;have w2:=XO w1 O.1.1 0;generalize DH O.2 O.1.1 0=Q at*;have w3:=zddyZ (ino:=O.1.1) (l:=l) (a:=0) (m:=0) w2
 split
 ·exact w1.mono (by omega)
 ·split
  ·exact w2.mono (by omega)
  ·split
   ·exact w3.mono (by omega)
   ·exact(aD w3 _).mono (by omega)
theorem zdkpZ:(Bq (SQ 9) [97] true).1=(1,0)∧Txr [97] 9 [] (Bq (SQ 9) [97] true).2∧KP (Bq (SQ 9) [97] true).2:=by
 refine⟨rfl,⟨[],⟨by decide,by decide,by decide,rfl,rfl,rfl⟩,by simp,by simp[BG]⟩,⟨by decide,by decide⟩⟩
def d15:Dev:=⟨[97,98,99,100,101,102,103,104],[],[],[3,3]⟩
abbrev Af1:=And.intro @Int.cast_ofNat_Int @Nat.zero_add
theorem zdjvZ:cG d15 (λ_=>0) 0 0 8=([97,98,99,100,101,102,103,104],0,(λ_=>0),3):=by
 have nf:∀k,¬LS d15 (λ_=>0) k:=λk h=>by unfold LS at h;simp[d15]at h
 have g1:JI d15 (λ_=>0) 0 0 8=([97,98,99],0,(λ_=>0),1):=cO (m:=3) (e:=3) (by omega) (by omega) (by omega) rfl (by omega) (nf _) ⟨.inl (by omega),λk _ _=>nf k⟩;have g2:JI d15 (λ_=>0) 1 3 5=([100,101,102],0,(λ_=>0),2):=cO (m:=3) (e:=6) (by omega) (by omega) (by omega) rfl (by omega) (nf _) ⟨.inl (by omega),λk _ _=>nf k⟩;have g3:JI d15 (λ_=>0) 2 6 2=([103,104],0,(λ_=>0),3):=cO (m:=2) (e:=8) (by omega) (by omega) (by omega) rfl (by omega) (nf _) ⟨.inl (by omega),λk _ _=>nf k⟩;unfold cG;rw[if_neg (by omega),show((8:Int).toNat+1)=9 from rfl,show(9:Nat)=8+1 from rfl,Pq];simp only[Aq7,Int.cast_ofNat_Int,Int.add_zero,Int.sub_zero,g1];rw[if_pos (by omega),if_neg (by simp),Pq];simp only[Am5,Aa3,Af1,Nat.reduceAdd,Au2,Int.reduceSub,g2];rw[if_pos (by omega),if_neg (by simp),Pq];simp only[Ac9,Aa3,Af1,Nat.reduceAdd,Au2,Int.reduceSub,g3];rw[if_pos (by omega),if_neg (by simp),Pq];simp only[Ac9,Aa3,Af1,Nat.reduceAdd];rw[if_neg (by omega)]
theorem rH:ACalls prog 52 [] [] λr _=>r=B true:=QR (by
 unfold Hj;have e1:D9 [] 1 8 (B4 [u0Z] 8) [(0,1,(.lit (.int .u8 97))),(1,1,(.lit (.int .u8 98))),(2,1,(.lit (.int .u8 99))),(3,1,(.lit (.int .u8 100))),(4,1,(.lit (.int .u8 101))),(5,1,(.lit (.int .u8 102))),(6,1,(.lit (.int .u8 103))),(7,1,(.lit (.int .u8 104)))]=some (.sl 0 0 8 1 (.ex 8),[some (.cells (AY [97,98,99,100,101,102,103,104]))]):=rfl;have e2:mJ [some (.cells (AY [97,98,99,100,101,102,103,104]))] (.sl 0 0 8 1 (.ex 8))=some (.imm (AY [97,98,99,100,101,102,103,104]) 8 1,[none]):=rfl;have e3:D9 [none] 1 2 (B4 [(I 0)] 2) [(0,1,(I 3)),(1,1,(I 3))]=some (.sl 1 0 2 1 (.ex 2),[none,some (.cells [I 3,I 3])]):=rfl;have e4:En [Ad,Ad,Ad,Ad] [(0,1,.imm (AY [97,98,99,100,101,102,103,104]) 8 1),(3,1,.sl 1 0 2 1 (.ex 2))]=some (.agg [.imm (AY [97,98,99,100,101,102,103,104]) 8 1,Ad,Ad,.sl 1 0 2 1 (.ex 2)]):=rfl;simp only[e1,A6,e2,e3,e4,Aa];refine⟨_,qR (d:=d15) ⟨rfl,rfl,rfl,rfl⟩ (by simp[d15]) (by simp[d15]) (by simp[d15]) (by simp[d15]),?_⟩;rintro r H1 ⟨o,n1,dv,bo,lo,sv,rfl,hP,g⟩;have hm:Y3 d15:=by decide
 have he:zdlmZ d15=d15:=if_pos hm;have hz:Tn d15.soft=λ_=>0:=rfl
 rw[he,hz]at hP;have hf:Fine d15 (λ_=>0) 0:=⟨λk=>by omega,by omega,by simp[d15],by simp[d15]⟩;obtain⟨r,H2,⟨p,rfl,l2,st0,g2,hid⟩,hc⟩:=zdhrZ 9 H1 (by omega);refine bC_of hc ?_;have n1':ZQ .eql Y7 (.ptr o 0) (.lit (.pointer none))=some (B false):=rfl;have n2':ZQ .eql Y7 (.ptr H1.length 0) (.lit (.pointer none))=some (B false):=rfl;simp only[n1',n2',Af8,AU,show((false==false)=true)from rfl,A8,An,Ak];have htop:=hP.top;have hlow:=hP.low;have hP2:=hP.keep (Keep.of (a:=n1) (b:=n1) g2) (.inl (Ah9 _));obtain⟨r,H3,⟨v,rfl,a1,a2,a3,a4,a5⟩,hc⟩:=zdikZ hP2 hf (by omega) 0 8 (by omega);rw[zdjvZ]at a1 a4 hc;refine bC_of hc ?_;have os3:H1.length<H3.length:=by have:=a5.1;omega
 have st3:StAt (SQ 9) H1.length p H3:=st0.keepI (a5.2 _ (by omega) (by have:=hP.high;omega)) (by rw[hid];simp);have e5:D9 H3 1 1 (B4 [u0Z] 1) [(0,1,(.lit (.int .u8 105)))]=some (.sl H3.length 0 1 1 (.ex 1),H3++[some (.cells (AY [105]))]):=rfl
 have e6:mJ (H3++[some (.cells (AY [105]))]) (.sl H3.length 0 1 1 (.ex 1))=some (.imm (AY [105]) 1 1,H3++[none]):=by
  simp[mJ,AY]
 have ov:oneA v=true:=AD a2;have e7:=vF (H:=H3++[none]) (v:=v) (u:=.imm (AY [105]) 1 1) ov rfl;simp only[Ad5,e5,A6,e6,e7];have g4:Grew H3 (H3++[none]++[some (AObj.cells [v,.imm (AY [105]) 1 1])]):=by rw[Ai8];exact Grew.app _ _
 have hl4:(H3++[none]++[some (AObj.cells [v,.imm (AY [105]) 1 1])]).length=H3.length+2:=by simp
 have top4:(H3++[none]++[some (AObj.cells [v,.imm (AY [105]) 1 1])])[(H3++[none]).length]?=some (some (AObj.cells [v,.imm (AY [105]) 1 1])):=Dk
 have hs4:Ac (H3++[none]++[some (AObj.cells [v,.imm (AY [105]) 1 1])]) 1 (.sl (H3++[none]).length 0 2 1 (.ex 2))=some ([v,.imm (AY [105]) 1 1],2):=by
  rw[Br top4 (by simp)];rfl
 have hi4:∀j∈AM (AV.sl (H3++[none]).length 0 2 1 (.ex 2)),j=H3.length+1:=by intro j hj;simpa[AM]using hj
 generalize (.sl (H3++[none]).length 0 2 1 (.ex 2):AV)=w at*;generalize (H3++[none]++[some (AObj.cells [v,.imm (AY [105]) 1 1])])=H4 at*;obtain⟨o1,o2,o3⟩:=zdkpZ;obtain⟨cA1,cA2,cA3⟩:=RJ (bl:=[(v,[97,98,99,100,101,102,103,104]),(.imm (AY [105]) 1 1,[105])]) (by simp);have fA:(([(v,[97,98,99,100,101,102,103,104]),(.imm (AY [105]) 1 1,[105])]:List (AV×List UInt8)).map Prod.snd).flatten=[97,98,99,100,101,102,103,104,105]:=rfl;rw[fA]at cA1 cA3;simp only[Aa3]at cA3;obtain⟨s1,q1,q2,q3⟩:=zdefZ (l:=([(v,[97,98,99,100,101,102,103,104]),(.imm (AY [105]) 1 1,[105])]:List (AV×List UInt8)).flatMap λx=>BK x.2) o1 o2 o3 (by omega) cA2 (by omega);have w1:=X2 (kQ 9) [97] true
 refine⟨_,zdhsZ (nm:=[97]) (bl:=[(v,[97,98,99,100,101,102,103,104]),(.imm (AY [105]) 1 1,[105])]) (st3.grew g4) (kQ 9) (by simp) hs4 (by intro j hj;rw[hi4 j hj,hid];exact⟨by omega,by simp⟩) (by
  intro x hx;simp only[Ae4]at hx;rcases hx with rfl | rfl
  ·exact⟨g4.slice a1,ov,by simp,λj hj=>⟨by have:=a3 j hj;omega,by rw[hid];simp⟩⟩
  ·exact⟨rfl,rfl,by simp,by simp[AM]⟩) (by simp) (by rw[cA3];omega),?_⟩
 have w9:=uJ (kQ 9) [97] (([(v,[97,98,99,100,101,102,103,104]),(.imm (AY [105]) 1 1,[105])]:List (AV×List UInt8)).flatMap λx=>BK x.2);rw[q1];rw[q1]at w9;rintro r H5 ⟨p5,rfl,st5,f5⟩;rw[cA1]at q2;obtain⟨r,H6,⟨x,rfl,sx,g6⟩,hc⟩:=zdlxZ q2 st5 w9 (by rw[cA3];omega) (by simp);refine bC_of hc ?_;have hv6:Ac H6 1 v=some (AY [97,98,99,100,101,102,103,104],8):=g6.slice (Ae (g4.slice a1) λi q=>f5.same i (by have:=Az a1 i q;have:=g4.1;omega) (by have:=a3 i q;omega) (by rw[hid];simp));have hP6:=((a4.keep (Keep.of (a:=n1) (b:=n1) g4) (.inl (Ah9 _))).keep (c:=H1.length) (e:=H1.length+1) (⟨f5.len,λi q1 q2=>f5.same i q1 (by omega) (by rw[hid];simp)⟩:Keep H1.length (H1.length+1) H4 H5) (.inl htop)).keep (Keep.of (a:=n1) (b:=n1) g6) (.inl (Ah9 _));have eS1:(AV.lit (.string ⟨#[97,98,99,100,101,102,103,104]⟩))=S (B9 [97,98,99,100,101,102,103,104]):=rfl;have eS2:(AV.lit (.string ⟨#[97,98,99,100,101,102,103,104,105]⟩))=S (B9 [97,98,99,100,101,102,103,104,105]):=rfl;simp only[Ad5,Qp hv6,eS1,eS2,Nh,BJ,Ae2,Ps];refine bC_of (jZ hP6) ?_;simp only[Aa,BJ,Ae2,Qp sx,Nh])
theorem RO:BPure prog 52 [] (B true):=.of_true rH
end
end Go.Proofs.YtadghlcfbajamaaGreat.Av
section
end
