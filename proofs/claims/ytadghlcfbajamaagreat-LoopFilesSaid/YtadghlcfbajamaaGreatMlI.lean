/- Texts of this proof, one behind the other, packed into one file by a program of this session. No condition. -/
import Derived.Test.YtadghlcfbajamaaGreatMlH
import Derived.KernelRfl
set_option linter.unusedVariables false
set_option linter.unusedSimpArgs false
set_option maxRecDepth 100000
namespace Go.Proofs.YtadghlcfbajamaaGreat.Av
open Go Go.RowKit Go.Proofs.Tryz
section
def GrN (N:Nat)(H H':AH):Prop:=H.length≤H'.length∧∀i,i<N→H'[i]?=H[i]?
theorem GrN.trans {N:Nat}{A B C:AH}(h:GrN N A B)(k:GrN N B C):GrN N A C:=⟨Aj0 h.1 k.1,λi hi=>(k.2 i hi).trans (h.2 i hi)⟩
theorem GrN.of {N:Nat}{A B:AH}(h:Grew A B)(hN:N≤A.length):GrN N A B:=⟨h.1,λi hi=>h.2 i (by omega)⟩
structure OwN (N sz:Nat)(cs:List AV)(n:Nat)(r:AV)(H:AH):Prop where
 s:Ac H sz r=some (cs,n)
 o:AZ r=true
 i:∀i∈AM r,N≤i
 c:CS r n
theorem yT {sz bytes:Nat}{H:AH}{x:AV}{ds:List AV}{m:Nat}(hx:Bu H sz x=some (ds,m))(hb:m*bytes≤140737488355328):∃r H',HM sz bytes H Ad x=some (r,H')∧OwN H.length sz ds m r H'∧Grew H H':=by
 have h0:Ac H sz Ad=some ([],0):=rfl;obtain⟨r,H2,a1,a2,a3,a4,a5,a6⟩:=BX (bytes:=bytes) h0 rfl hx (by rw[Aq2];exact hb);have a7:=RB h0 rfl hx (by simp[CS]) a1;exact⟨r,H2,a1,⟨by simpa using a3,a2,λi hi=>(a6 i hi).elim (by simp[AM]) id,by simpa using a7⟩,a4,λi hi=>a5 i hi (by simp[AM])⟩
theorem qI {N sz bytes:Nat}{H:AH}{s x:AV}{cs ds:List AV}{n m:Nat}(hs:OwN N sz cs n s H)(hx:Bu H sz x=some (ds,m))(hN:N≤H.length)(hb:(n+m)*bytes≤140737488355328):∃r H',HM sz bytes H s x=some (r,H')∧OwN N sz (cs++ds) (n+m) r H'∧GrN N H H':=by
 obtain⟨r,H2,a1,a2,a3,a4,a5,a6⟩:=BX (bytes:=bytes) hs.s hs.o hx hb;have a7:=RB hs.s hs.o hx hs.c a1;exact⟨r,H2,a1,⟨a3,a2,λi hi=>(a6 i hi).elim (hs.i i) (λq=>by omega),a7⟩,a4,λi hi=>a5 i (by omega) (λq=>by have:=hs.i i q;omega)⟩
theorem OwN.grew {N sz n:Nat}{cs:List AV}{r:AV}{H H':AH}(h:OwN N sz cs n r H)(g:Grew H H'):OwN N sz cs n r H':=⟨g.slice h.s,h.o,h.i,h.c⟩
theorem Jx {α:Type}{enc:α→List AV}{sz:Nat}(hsz:∀x,(enc x).length=sz){H:AH}{v:AV}{l:List α}(h:Ac H sz v=some (l.flatMap enc,l.length)){k:Nat}(hk:k≤l.length):
  (∃r,Bf sz v none (some (I k)) none=some r∧Ac H sz r=some ((l.take k).flatMap enc,k)∧∀i∈AM r,i∈AM v)∧∃r,Bf sz v (some (I k)) none none=some r∧Ac H sz r=some ((l.drop k).flatMap enc,l.length - k)∧∀i∈AM r,i∈AM v:=by
 constructor
 ·obtain⟨r,h1,h2,h3,-⟩:=EI h (lo:=none) (hi:=some (I k)) (l:=0) (k:=k) rfl (by simp[Ci]) (by omega) hk
  refine⟨r,h1,?_,h3⟩;rw[h2,As4,Ak9,Ar4,HO hsz]
 ·obtain⟨r,h1,h2,h3,-⟩:=EI h (lo:=some (I k)) (hi:=none) (l:=k) (k:=l.length) (by simp[Ci]) rfl hk (Ah9 _)
  refine⟨r,h1,?_,h3⟩;rw[h2,Gz hsz,Ai2]
  rw[B7 h2 |>λe=>(by
   have:=Gz hsz l k
   rw[← this,Ai5,B7 h,Nat.mul_comm,← Nat.mul_comm sz,← Nat.mul_sub,Nat.mul_comm]:((l.drop k).flatMap enc).length=(l.length - k)*sz)]
  exact Ah9 _
theorem mZ {L oi:Nat}{ns:List Nm}{dv:List NdV}{a b:AV}{H:AH}{s:List UInt8}{no:Int}(h:ImH L oi ns dv a b H)(hn:ns.length≤100000):
  ∃r H',zdimZ L oi H (Gc Bk Nm.name ns ⟨s,no⟩) dv r H'∧BCall prog 166 [.ptr oi 0,S (B9 s),I no] H r H':=Te (by
 unfold O7;have c0:=h.obj;refine O8 (λn x0 x1 x2 x6 H'=>∃k:Nat,k+n=ns.length∧x0=.ptr oi 0∧x1=S (B9 s)∧x2=I no∧x6=I k∧H'=H∧∀m y,m<k→ns[m]?=some y→Bk y.name s<0) ?_ ns.length ⟨0,by omega,rfl,rfl,rfl,rfl,rfl,by omega⟩;rintro n x0 x1 x2 x6 H' R hR ⟨k,hk,rfl,rfl,rfl,rfl,rfl,hlt⟩;unfold JD;have ln:=By h.sa;have fin:Dr Bk Nm.name ns s=k→
   bO (Bf 2 a none (some (I k)) none) (λv31=>bH (HM 2 24 H' Ad v31) λv32 H33=>
    bO (En [(.lit (.string ⟨#[]⟩)),(I 0)] [(0,1,S (B9 s)),(1,1,I no)]) λv34=>bH (D9 H33 2 1 (B4 [(.lit (.string ⟨#[]⟩)),(I 0)] 1) [(0,2,v34)]) λv35 H36=>bH (HM 2 24 H36 v32 v35) λv37 H38=>
    bO (Af (.ptr oi 0)) λv39=>bO (Ab 0 v39) λv40=>bO (Ap false 1 H38 v40) λv41=>bO (Bf 2 v41 (some (I k)) none none) λv42=>bH (HM 2 24 H38 v37 v42) λv43 H44=>
    bO (Af (.ptr oi 0)) λv45=>bO (Ab 0 v45) λv46=>bS (AP 1 H44 v46 v43) λH47=>zdimZ L oi H' (Gc Bk Nm.name ns ⟨s,no⟩) dv (.tup []) H47):=by
  intro hp;obtain⟨⟨s1,e1,t1,i1⟩,-⟩:=Jx BT h.sa (show k≤ns.length by omega);obtain⟨r1,H1,e2,w1,g1⟩:=yT (bytes:=24) (A1 t1) (by omega);have g2:=Grew.app H1 [some (.cells (Cb ⟨s,no⟩))];have w2:=w1.grew g2;have hl1:=g1.1;have x1:Bu (H1++[some (.cells (Cb ⟨s,no⟩))]) 2 (.sl H1.length 0 1 2 (.ex 1))=some (Cb ⟨s,no⟩,1):=A1 (by rw[Br (c:=Cb ⟨s,no⟩) (by simp) (by simp[Cb])];rfl);obtain⟨r2,H2,e3,w3,g3⟩:=qI (bytes:=24) w2 x1 (by simp;omega) (by omega);have gg:GrN H'.length H' H2:=(GrN.of (g1.trans g2) (Ah9 _)).trans g3;have hol:=(BE.1 c0).1;have c2:H2[oi]?=some (some (.cells [a,b])):=by rw[gg.2 oi hol];exact c0
  have sa2:Ac H2 2 a=some (ns.flatMap Cb,ns.length):=Ae h.sa λi hi=>gg.2 i (Az h.sa i hi)
  obtain⟨-,⟨s2,e4,t2,i2⟩⟩:=Jx BT sa2 (show k≤ns.length by omega);obtain⟨r3,H3,e5,w4,g4⟩:=qI (bytes:=24) w3 (A1 t2) gg.1 (by omega);have el:=Ua (c:=Bk) (key:=Nm.name) (l:=ns) (x:=⟨s,no⟩)
  have ev:(ns.take k).flatMap Cb++Cb ⟨s,no⟩++(ns.drop k).flatMap Cb=(Gc Bk Nm.name ns ⟨s,no⟩).flatMap Cb:=by
   unfold Gc;rw[show Dr Bk Nm.name ns (Nm.name ⟨s,no⟩)=k from hp,Al7,Aj9,Ai8]
  have en:k+1+(ns.length - k)=(Gc Bk Nm.name ns ⟨s,no⟩).length:=by omega
  have g5:=gg.trans g4;obtain⟨H4,e6,n1,n2⟩:=h.newA (ms:=Gc Bk Nm.name ns ⟨s,no⟩) (H':=H3) (r:=r3) g5.1 (λi hi _=>g5.2 i hi) (by rw[← ev,← en];exact w4.s) w4.o (by rw[← en];exact w4.c) (λi hi=>.inr (w4.i i hi));have e7:D9 H1 2 1 (B4 [(.lit (.string ⟨#[]⟩)),(I 0)] 1) [(0,2,.agg (Cb ⟨s,no⟩))]=some (.sl H1.length 0 1 2 (.ex 1),H1++[some (.cells (Cb ⟨s,no⟩))]):=rfl;have e8:En [(.lit (.string ⟨#[]⟩)),(I 0)] [(0,1,S (B9 s)),(1,1,I no)]=some (.agg (Cb ⟨s,no⟩)):=rfl;have e9:Ap false 1 H2 (.ptr oi 0)=some a:=by rw[Ai c2];rfl
  simp only[e1,Aa,e2,A6,e8,e7,e3]
  show bO (some (AV.ptr oi 0)) _
  simp only[Aa]
  show bO (some (AV.ptr oi 0)) _
  simp only[Aa,e9,e4,e5,A6]
  show bO (some (AV.ptr oi 0)) _
  simp only[Aa]
  show bO (some (AV.ptr oi 0)) _
  simp only[Aa,e6,AF];exact⟨rfl,r3,b,n1,n2⟩
 rcases Ai0 k ns.length with hkl | hkl
 ·have hx:=DD hkl
  generalize ns[k]=x at hx;obtain⟨o,off,cells,u1,u2,u3,u4,u5,-⟩:=Uk BT (by omega) h.sa h.oa hx;have u50:=u5 0 (by omega);rw[Al8]at u50
  by_cases hc:Bk x.name s<0
  ·simp[c0,ln,hkl,u1,u3,u50,Cb,sT,hc,Au (a:=k) (b:=1) (by omega) (by omega)]
   exact hR (n - 1) _ _ _ _ _ (by omega) ⟨k+1,by omega,rfl,rfl,rfl,by simp,rfl,λm y hm hy=>by
    by_cases c2:m=k
    ·rw[c2,hx]at hy;injection hy with hy;rw[← hy];exact hc
    ·exact hlt m y (by omega) hy⟩
  ·have:=fin (P0 (by omega) hlt (λy hy=>by rw[hx]at hy;injection hy with hy;rw[← hy];exact hc))
   simp at this;simp[c0,ln,hkl,u1,u3,u50,Cb,sT,hc];exact this
 ·have:=fin (P0 (by omega) hlt (λy hy=>by have:=(BE.1 hy).1;omega))
  simp at this;simp[c0,ln,show ¬k<ns.length by omega];exact this)
theorem Sm.sub {ns ms:List Nm}{ds es:List Nd}(h:Sm ns ds)(h1:ms.Sublist ns)(h2:es.Sublist ds):Sm ms es:=
 ⟨Aj0 h1.length_le h.1,Aj0 h2.length_le h.2.1,λx hx=>h.2.2.1 x (h1.subset hx),λd hd=>h.2.2.2 d (h2.subset hd)⟩
theorem zdpoZ {L oi k:Nat}{ns:List Nm}{dv:List NdV}{a b:AV}{H:AH}(h:ImH L oi ns dv a b H)(hk:k<ns.length)(hn:ns.length≤100000):
  ∃s1 r1 H1 s2 r2 H2 H3,Bf 2 a none (some (I k)) none=some s1∧HM 2 24 H Ad s1=some (r1,H1)∧H1[oi]?=some (some (.cells [a,b]))∧Bf 2 a (some (I ((k:Int)+1))) none none=some s2∧HM 2 24 H1 r1 s2=some (r2,H2)∧AP 1 H2 (.ptr oi 0) r2=some H3∧ImH L oi (ns.take k++ns.drop (k+1)) dv r2 b H3∧FrL L oi H H3:=by
 have c0:=h.obj;obtain⟨⟨s1,e1,t1,i1⟩,-⟩:=Jx BT h.sa (show k≤ns.length by omega);obtain⟨r1,H1,e2,w1,g1⟩:=yT (bytes:=24) (A1 t1) (by omega);have sa1:=g1.slice h.sa;obtain⟨-,⟨s2,e4,t2,i2⟩⟩:=Jx BT sa1 (show k+1≤ns.length by omega);obtain⟨r2,H2,e5,w4,g4⟩:=qI (bytes:=24) w1 (A1 t2) g1.1 (by omega);have g5:=(GrN.of g1 (Ah9 _)).trans g4;have en:k+(ns.length - (k+1))=(ns.take k++ns.drop (k+1)).length:=by simp;omega
 obtain⟨H3,e6,n1,n2⟩:=h.newA (ms:=ns.take k++ns.drop (k+1)) (H':=H2) (r:=r2) g5.1 (λi hi _=>g5.2 i hi) (by rw[Al7,← en];exact w4.s) w4.o (by rw[← en];exact w4.c) (λi hi=>.inr (w4.i i hi));exact⟨s1,r1,H1,s2,r2,H2,H3,e1,e2,g1.cells c0,e4,e5,e6,n1,n2⟩
theorem zdpnZ {L oi k:Nat}{ns:List Nm}{dv:List NdV}{a b:AV}{H:AH}(h:ImH L oi ns dv a b H)(hk:k<dv.length)(hn:dv.length≤100000):
  ∃s1 r1 H1 s2 r2 H2 H3,Bf 3 b none (some (I k)) none=some s1∧HM 3 40 H Ad s1=some (r1,H1)∧H1[oi]?=some (some (.cells [a,b]))∧Bf 3 b (some (I ((k:Int)+1))) none none=some s2∧HM 3 40 H1 r1 s2=some (r2,H2)∧AP 1 H2 (.ptr oi 1) r2=some H3∧ImH L oi ns (dv.take k++dv.drop (k+1)) a r2 H3∧FrL L oi H H3:=by
 have c0:=h.obj;obtain⟨⟨s1,e1,t1,i1⟩,-⟩:=Jx BL h.sb (show k≤dv.length by omega);obtain⟨r1,H1,e2,w1,g1⟩:=yT (bytes:=40) (A1 t1) (by omega);have sa1:=g1.slice h.sb;obtain⟨-,⟨s2,e4,t2,i2⟩⟩:=Jx BL sa1 (show k+1≤dv.length by omega);obtain⟨r2,H2,e5,w4,g4⟩:=qI (bytes:=40) w1 (A1 t2) g1.1 (by omega);have g5:=(GrN.of g1 (Ah9 _)).trans g4;have en:k+(dv.length - (k+1))=(dv.take k++dv.drop (k+1)).length:=by simp;omega
 obtain⟨H3,e6,n1,n2⟩:=h.newB (ew:=dv.take k++dv.drop (k+1)) (H':=H2) (r:=r2) g5.1 (λi hi _=>g5.2 i hi) (by rw[Al7,← en];exact w4.s) w4.o (by rw[← en];exact w4.c) (λi hi=>.inr (w4.i i hi));exact⟨s1,r1,H1,s2,r2,H2,H3,e1,e2,g1.cells c0,e4,e5,e6,n1,n2⟩
theorem rB {L oi:Nat}{ns:List Nm}{dv:List NdV}{a b:AV}{H:AH}{s:List UInt8}(h:ImH L oi ns dv a b H)(hs:Cx Bk Nm.name ns)(hd:Cx BP NdV.ino dv)(hb:Sm ns (dv.map NdV.nd))(q:Be Nm.name ns s)(f:Bool)(hk:f=true→Be NdV.ino dv (Db ns s)):
  ∃r H',zdimZ L oi H (D3 Bk Nm.name ns s) (if f=true then D3 BP NdV.ino dv (Db ns s)else dv) r H'∧BCall prog 167 [.ptr oi 0,S (B9 s),B f] H r H':=Vf (by
 have b1:=hb.1;have b2:=hb.2.1;rw[Aj1]at b2;obtain⟨Ra,Rb,sa,sb,fz⟩:=h.lend;have c0:=h.obj;have b0:∀x y:AV,Ax true 2 [x,y] 0=some (.agg [x,y]):=λ_ _=>rfl
 unfold QY;simp[c0,b0];refine bP_of (PCall.lend (FZs.cons fz (FZs.cons (FZ.lit _) FZs.nil)) rfl (FH ⟨Ra,Rb,dv,rfl,sa,sb,rfl⟩ hb s)) ?_;rw[QA koN hs q];obtain⟨x,hx1,hx2,hx3⟩:=He koN hs q;have en:Db ns s=x.ino:=by unfold Db;rw[hx2]
 rw[en]at hk⊢;obtain⟨o,off,cells,u1,u2,u3,u4,u5,-⟩:=Uk BT (by omega) h.sa h.oa hx1;have u51:=u5 1 (by omega);have hpl:=(BE.1 hx1).1;obtain⟨s1,r1,H1,s2,r2,H2,H3,e1,e2,e3,e4,e5,e6,n1,n2⟩:=zdpoZ h hpl b1;have c3:=n1.obj;have n1':ImH L oi (D3 Bk Nm.name ns s) dv r2 b H3:=n1;obtain⟨Sa,Sb,ta,tb,gz⟩:=n1'.lend;have hb2:Sm (D3 Bk Nm.name ns s) (dv.map NdV.nd):=hb.sub delK_sub (List.Sublist.refl _);simp[u1,u3,u51,Cb,e1,e2,e3,Au (a:=(Dr Bk Nm.name ns s:Nat)) (b:=1) (by omega) (by omega),e4,e5,e6,c3,b0];refine bP_of (PCall.lend (FZs.cons gz (FZs.cons (FZ.lit _) FZs.nil)) rfl (Jm ⟨Sa,Sb,dv,rfl,ta,tb,rfl⟩ hb2 x.ino)) ?_;cases f with
 | false=>
  simp;exact⟨rfl,_,_,n1',n2⟩
 | true=>
  have hk:=hk rfl;rw[QA koI (OG.2 hd) (Ka.2 hk),NO];have hdl:=WW koI hd hk;obtain⟨s3,r3,H4,s4,r4,H5,H6,f1,f2,f3,f4,f5,f6,m1,m2⟩:=zdpnZ n1' hdl b2;simp[f1,f2,f3,Au (a:=(Dr BP NdV.ino dv x.ino:Nat)) (b:=1) (by omega) (by omega),f4,f5,f6];exact⟨rfl,_,_,m1,n2.trans m2⟩)
theorem YJ {H:AH}{ns:List Nm}{dv:List NdV}{a b:AV}(sa:SV Cb 2 ns a)(sb:SV Cw 3 dv b)(hn:ns.length≤100000)(hm:dv.length≤100000)(hl:∀d∈dv,d.nd.l.length≤1000000):
  ∃r H',zdhqZ H ns (dv.map NdV.nd) r H'∧BCall prog 127 [.agg [a,b]] H r H':=Qa (by
 unfold Lf;have oa:=SV.oneA sa;have ob:=SV.oneA sb
 obtain⟨H3,e3,c0,c1,g3,l3⟩:∃H3,AC (H++[some (.cells [a,b])]) (.agg [Ad,Ad])=some (.ptr (H.length+1) 0,H3)∧H3[H.length]?=some (some (.cells [a,b]))∧H3[H.length+1]?=some (some (.cells [Ad,Ad]))∧Grew H H3∧H3.length=H.length+2:=by
  refine⟨H++[some (.cells [a,b]),some (.cells [Ad,Ad])],by simp,by simp,by rw[Ai1 (by omega)];simp,Grew.app _ _,by simp⟩
 simp[oa,ob,e3,c0];obtain⟨ra,H7,e7,w7,g7⟩:=yT (bytes:=24) (A1 (sa.2 H3)) (by omega);have ra1:=AD w7.o;have l7:=g7.1;have w7i:=w7.i;simp[e7,Bs ra1]
 -- the new image
 obtain⟨H11,e11,d9,g11,l11⟩:∃H11,AP 2 (H7++[some (.cells [Ad,Ad])]) (.ptr H7.length 0) (.agg [ra,Ad])=some H11∧H11[H7.length]?=some (some (.cells [ra,Ad]))∧Grew H7 H11∧H11.length=H7.length+1:=by
  exact⟨H7++[some (.cells [ra,Ad])],by simp[AP,Bm,ra1],by simp,Grew.app _ _,by simp⟩
 simp[e11];have sra:=g11.slice w7.s;have d0:=g11.cells (g7.cells c0);have d1:=g11.cells (g7.cells c1);have gall:Grew H H11:=g3.trans (g7.trans g11);refine Mo (λn x1 x2 x3 x4 H'=>∃(k:Nat) (ew:List NdV) (rb:AV),k+n=dv.length∧x1=.ptr H.length 0∧x2=.ptr (H.length+1) 0∧x3=.ptr H7.length 0∧x4=I k∧ew.map NdV.nd=(dv.map NdV.nd).take k∧H'[H7.length]?=some (some (.cells [ra,rb]))∧OwN H11.length 3 (ew.flatMap Cw) ew.length rb H'∧H11.length≤H'.length∧∀i,i<H11.length→i≠H7.length→H'[i]?=H11[i]?) ?_ dv.length ⟨0,[],Ad,by omega,rfl,rfl,rfl,rfl,rfl,d9,⟨rfl,rfl,by simp[AM],by simp[CS]⟩,Ah9 _,λ_ _ _=>rfl⟩;rintro n x1 x2 x3 x4 H' R hR ⟨k,ew,rb,hk,rfl,rfl,rfl,rfl,hew,h9,hrb,hlen,hfr⟩;unfold Hl;have f0:H'[H.length]?=some (some (.cells [a,b])):=by rw[hfr _ (by omega) (by omega)];exact d0
 have el:ew.length=k:=by have:=congrArg List.length hew;simp at this;omega
 have rb1:=AD hrb.o;rcases Ai0 k dv.length with h | h
 ·have hx:=DD h
  generalize dv[k]=x at hx;have hxl:=hl x (Ah7 hx);obtain⟨R2,s2,p2⟩:=nF (size:=x.nd.size) x.h (by omega);have ei:=sb.idx BL hx rfl;have o2:=SV.oneA s2;simp[f0,sb.len,h,h9,ei,kB];refine bP_of p2 ?_;have ap:Bu H' 3 (.imm [I x.nd.ino,I x.nd.size,R2] 1 3)=some (Cw ⟨x.nd,R2,s2⟩,1):=A1 (by simp[Ac,Cw]);obtain⟨r4,H4,e4,w4,g4⟩:=qI (bytes:=40) hrb ap hlen (by omega);have hH7:H7.length<H11.length:=by omega
  have k9:H4[H7.length]?=some (some (.cells [ra,rb])):=by rw[g4.2 _ hH7];exact h9
  have r41:=AD w4.o
  have e5:AP 1 H4 (.ptr H7.length 1) r4=some (H4.set H7.length (some (.cells [ra,r4]))):=by
   rw[AK (n:=1) (off:=1) (xs:=[r4]) (cs:=[ra,rb]) (Bs r41) k9 rfl (by simp)];rfl
  have k9l:=(BE.1 k9).1;simp[o2,e4,e5,Au (a:=k) (b:=1) (by omega) (by omega)];refine hR (n - 1) _ _ _ _ _ (by omega) ⟨k+1,ew++[⟨x.nd,R2,s2⟩],r4,by omega,rfl,rfl,rfl,by simp,?_,by simp[k9l],⟨?_,w4.o,w4.i,by simpa using w4.c⟩,by rw[Aj6];have:=g4.1;omega,λi i1 i2=>?_⟩
  ·rw[Ak2,hew,EL (x:=x.nd) (by rw[Aj3,hx];rfl)];rfl
  ·have:=w4.s
   rw[Al7,List.flatMap_singleton,Ai3,List.length_singleton];exact Ae this λi hi=>Cc (by have:=w4.i i hi;omega)
  ·rw[Cc (Aj4 i2),g4.2 i i1,hfr i i1 i2]
 ·have ek:(dv.map NdV.nd).take k=dv.map NdV.nd:=Ai2 (by simp;omega)
  rw[ek]at hew;have b0:Ax true 2 [ra,rb] 0=some (.agg [ra,rb]):=rfl;have f1:H'[H.length+1]?=some (some (.cells [Ad,Ad])):=by rw[hfr _ (by omega) (by omega)];exact d1
  have f1l:=(BE.1 f1).1
  have e5:AP 2 H' (.ptr (H.length+1) 0) (.agg [ra,rb])=some (H'.set (H.length+1) (some (.cells [ra,rb]))):=by
   rw[AK (n:=2) (off:=0) (xs:=[ra,rb]) (by simp[ra1,rb1]) f1 rfl (by simp)];rfl
  simp[f0,sb.len,show ¬k<dv.length by omega,h9,b0,e5,f1l];have lta:=Az w7.s;refine⟨ra,rb,ew,rfl,hew,⟨by rw[Aj6];omega,λi hi=>by rw[Cc (by omega),hfr i (by omega) (by omega)];exact gall.2 i hi⟩,⟨?_,w7.o,w7.c,λi q=>by have:=w7i i q;omega,?_,hrb.o,hrb.c,λi q=>by have:=hrb.i i q;omega,λi q1 q2=>by have:=hrb.i i q2;have:=lta i q1;omega⟩⟩
  ·refine Ae sra λi q=>?_
   have h1:=w7i i q;have h2:=lta i q;rw[Cc (by omega),hfr i (by omega) (by omega)]
  ·exact Ae hrb.s λi q=>Cc (by have:=hrb.i i q;omega))
theorem lH {d:Nd}{R bv:AV}{o:OpM}(hv:SV AB 9 d.l R)(hl:d.l.length≤1000000)(hb:SV FB 1 o.b bv)(hbl:o.b.length≤281474976710656):
  ∃R',SV AB 9 (cL (GZ o d)) R'∧BPure prog 168 [.agg [I d.size,R],.agg (BD o bv)] (.tup [.agg [I (cS (GZ o d)),R'],B (GZ o d).isSome]):=by
 have o1:=SV.oneA hv;have o3:=SV.oneA hb;have hids:A5 [.agg [I d.size,R],.agg (BD o bv)]=true:=by simp[A5,noIds,hv.1,BD,hb.1]
 have wk:∀(res:Option Lv) (R':AV),GZ o d=res→SV AB 9 (cL res) R'→Dc (.agg [I d.size,R]) (.agg (BD o bv)) [] (λr _=>r=.tup [.agg [I (cS res),R'],B res.isSome])→∃R',SV AB 9 (cL (GZ o d)) R'∧BPure prog 168 [.agg [I d.size,R],.agg (BD o bv)] (.tup [.agg [I (cS (GZ o d)),R'],B (GZ o d).isSome]):=by
  intro res R' hr h1 h2;rw[hr];exact⟨R',h1,BPure.val hids (by simp[noIds,A5,h1.1]) (Tf h2)⟩
 have b8:Ax true 8 (BD o bv) 0=some (.agg (BD o bv)):=rfl
 by_cases k2:o.kind=2
 ·obtain⟨R',s1,p1⟩:=NQ (size:=d.size) hv hl o.pos hb hbl
  refine wk _ R' (by unfold GZ;rw[if_pos k2]) s1 ?_;have o2:=SV.oneA s1;unfold Dc;simp[o1,o3,BD,k2,Ax];refine Ay p1 ?_;simp[o2,AP,Bm]
 ·by_cases k3:o.kind=3
  ·obtain⟨R',s1,p1⟩:=La (size0:=d.size) hv hl o.size
   refine wk _ R' (by unfold GZ;rw[if_neg k2,if_pos k3]) s1 ?_;have o2:=SV.oneA s1;unfold Dc;simp[o1,o3,BD,k3,Ax];refine Ay p1 ?_;simp[o2,AP,Bm]
  ·by_cases k4:o.kind=4
   ·obtain⟨R',s1,p1⟩:=KZ (size:=d.size) hv hl o.pos o.size o.keep
    refine wk _ R' (by unfold GZ;rw[if_neg k2,if_neg k3,if_pos k4]) s1 ?_;have o2:=SV.oneA s1;unfold Dc;simp[o1,o3,BD,k4,Ax];refine Ay p1 ?_;simp[o2,AP,Bm]
   ·by_cases k5:o.kind=5
    ·obtain⟨R',s1,p1⟩:=NP (size:=d.size) hv hl o.pos o.size
     refine wk _ R' (by unfold GZ;rw[if_neg k2,if_neg k3,if_neg k4,if_pos k5]) s1 ?_;have o2:=SV.oneA s1;unfold Dc;simp[o1,o3,BD,k5,Ax];refine Ay p1 ?_;simp[o2,AP,Bm]
    ·refine wk none Ad (by unfold GZ;rw[if_neg k2,if_neg k3,if_neg k4,if_neg k5]) SV.nil ?_
     unfold Dc;simp[o1,o3,BD,k2,k3,k4,k5,AP,Bm,Ax,cS]
theorem qM {ds:List Nd}{o:OpM}(h:¬(o.kind=2∨o.kind=3∨o.kind=4∨o.kind=5)):PN ds o=ds:=by
 have hn:∀d,GZ o d=none:=λd=>by
  unfold GZ;rw[if_neg (by omega),if_neg (by omega),if_neg (by omega),if_neg (by omega)]
 unfold PN
 split
 ·rw[hn]
 ·rfl
theorem Dt {oi:Nat}{ns:List Nm}{dv:List NdV}{a b:AV}{H:AH}{p:List Nm×List Nd}(h:ImH 3 oi ns dv a b H)(hoi:3≤oi)(h2:H[2]?=some (some (.cells [Ad,Ad])))(hp:p=(ns,dv.map NdV.nd)):Bb (.ptr 2 0) (.ptr oi 0) H (zdhnZ p):=by
 rw[J0];unfold FU;have c0:=h.obj;have b0:Ax true 2 [a,b] 0=some (.agg [a,b]):=rfl;have ra1:=AD h.oa;have rb1:=AD h.ob;have hcl:=(BE.1 h2).1
 have e5:AP 2 H (.ptr 2 0) (.agg [a,b])=some (H.set 2 (some (.cells [a,b]))):=by
  rw[AK (n:=2) (off:=0) (xs:=[a,b]) (by simp[ra1,rb1]) h2 rfl (by simp)];rfl
 simp[c0,b0,e5,hcl];have h3:ImH 3 oi ns dv a b (H.set 2 (some (.cells [a,b]))):=⟨by rw[Cc (by omega)];exact c0,h.lo,by simpa using h.len,Ae h.sa λi q=>Cc (by have:=h.ia i q;omega),h.oa,h.ca,h.ia,Ae h.sb λi q=>Cc (by have:=h.ib i q;omega),h.ob,h.cb,h.ib,h.ab⟩;obtain⟨Ra,Rb,sa,sb,fz⟩:=h3.lend;subst hp;exact⟨_,fz,Ra,Rb,dv,rfl,sa,sb,rfl⟩
theorem zdgzZ {oi:Nat}{ns:List Nm}{dv:List NdV}{a b bv:AV}{H:AH}{o:OpM}{K:AV→AH→Prop}(h:ImH 3 oi ns dv a b H)(hp:H[1]?=some (some (.cells (BD o bv))))(hoi:3≤oi)(hm:dv.length≤100000)
  (hK:∀r H',ImH 3 oi ns (Gc BP NdV.ino dv (GV o.ino)) a r H'→FrL 3 oi H H'→Bb (.ptr 2 0) (.ptr oi 0) H' K):G9 (.ptr 1 0) (.ptr 2 0) (.ptr oi 0) (I 0) H K:=by
 have c0:=h.obj;refine Oy (λn x3 x4 x5 x6 H'=>∃k:Nat,k+n=dv.length∧x3=.ptr 1 0∧x4=.ptr 2 0∧x5=.ptr oi 0∧x6=I k∧H=H'∧∀m y,m<k→dv[m]?=some y→BP y.ino o.ino<0) ?_ dv.length ⟨0,by omega,rfl,rfl,rfl,rfl,rfl,by omega⟩;rintro n x3 x4 x5 x6 H' R hR ⟨k,hk,rfl,rfl,rfl,rfl,rfl,hlt⟩;unfold J1;have ln:=By h.sb;have fin:Dr BP NdV.ino dv o.ino=k→
   bO (Bf 3 b none (some (I k)) none) (λv27=>bH (HM 3 40 H Ad v27) λv28 H29=>
    bO (Ab 1 (.ptr 1 0)) λv30=>bO (Ap false 1 H29 v30) λv31=>bO (En [(I 0),(I 0),Ad] [(0,1,v31)]) λv32=>bH (D9 H29 3 1 (B4 [(I 0),(I 0),Ad] 1) [(0,3,v32)]) λv33 H34=>bH (HM 3 40 H34 v28 v33) λv35 H36=>
    bO (Ab 1 (.ptr oi 0)) λv37=>bO (Ap false 1 H36 v37) λv38=>bO (Bf 3 v38 (some (I k)) none none) λv39=>bH (HM 3 40 H36 v35 v39) λv40 H41=>
    bO (Ab 1 (.ptr oi 0)) λv42=>bS (AP 1 H41 v42 v40) λH43=>Bb (.ptr 2 0) (.ptr oi 0) H43 K):=by
  intro hp0;have hol:=(BE.1 c0).1;obtain⟨⟨s1,e1,t1,i1⟩,-⟩:=Jx BL h.sb (show k≤dv.length by omega);obtain⟨r1,H1,e2,w1,g1⟩:=yT (bytes:=40) (A1 t1) (by omega);have p1:=g1.cells hp;have g2:=Grew.app H1 [some (.cells (Cw (GV o.ino)))];have w2:=w1.grew g2;have hl1:=g1.1;have x1:Bu (H1++[some (.cells (Cw (GV o.ino)))]) 3 (.sl H1.length 0 1 3 (.ex 1))=some (Cw (GV o.ino),1):=A1 (by rw[Br (c:=Cw (GV o.ino)) (by simp) (by simp[Cw])];rfl);obtain⟨r2,H2,e3,w3,g3⟩:=qI (bytes:=40) w2 x1 (by simp;omega) (by omega);have gg:GrN H.length H H2:=(GrN.of (g1.trans g2) (Ah9 _)).trans g3;have c2:H2[oi]?=some (some (.cells [a,b])):=by rw[gg.2 oi hol];exact c0
  have sb2:Ac H2 3 b=some (dv.flatMap Cw,dv.length):=Ae h.sb λi hi=>gg.2 i (Az h.sb i hi)
  obtain⟨-,⟨s2,e4,t2,i2⟩⟩:=Jx BL sb2 (show k≤dv.length by omega);obtain⟨r3,H3,e5,w4,g4⟩:=qI (bytes:=40) w3 (A1 t2) gg.1 (by omega);have el:=Ua (c:=BP) (key:=NdV.ino) (l:=dv) (x:=GV o.ino)
  have ev:(dv.take k).flatMap Cw++Cw (GV o.ino)++(dv.drop k).flatMap Cw=(Gc BP NdV.ino dv (GV o.ino)).flatMap Cw:=by
   unfold Gc;rw[show Dr BP NdV.ino dv (NdV.ino (GV o.ino))=k from hp0,Al7,Aj9,Ai8]
  have en:k+1+(dv.length - k)=(Gc BP NdV.ino dv (GV o.ino)).length:=by omega
  have g5:=gg.trans g4;obtain⟨H4,e6,n1,n2⟩:=h.newB (ew:=Gc BP NdV.ino dv (GV o.ino)) (H':=H3) (r:=r3) g5.1 (λi hi _=>g5.2 i hi) (by rw[← ev,← en];exact w4.s) w4.o (by rw[← en];exact w4.c) (λi hi=>.inr (w4.i i hi));have e7:D9 H1 3 1 (B4 [(I 0),(I 0),Ad] 1) [(0,3,.agg (Cw (GV o.ino)))]=some (.sl H1.length 0 1 3 (.ex 1),H1++[some (.cells (Cw (GV o.ino)))]):=rfl;have e8:En [(I 0),(I 0),Ad] [(0,1,I o.ino)]=some (.agg (Cw (GV o.ino))):=rfl;have e9:Ap false 1 H2 (.ptr oi 1)=some b:=by rw[Ai c2];rfl
  have e10:Ap false 1 H1 (.ptr 1 1)=some (I o.ino):=by rw[Ai p1];rfl
  simp only[e1,Aa,e2,A6]
  show bO (some (AV.ptr 1 1)) _
  simp only[Aa,e10,e8,e7,A6,e3]
  show bO (some (AV.ptr oi 1)) _
  simp only[Aa,e9,e4,e5,A6]
  show bO (some (AV.ptr oi 1)) _
  simp only[Aa,e6,AF];exact hK r3 H4 n1 n2
 rcases Ai0 k dv.length with hkl | hkl
 ·have hx:=DD hkl
  generalize dv[k]=x at hx;obtain⟨o',off,cells,u1,u2,u3,u4,u5,-⟩:=Uk BL (by omega) h.sb h.ob hx;have u50:=u5 0 (by omega);rw[Al8]at u50
  by_cases hc:BP x.ino o.ino<0
  ·have hc':x.nd.ino<o.ino:=Pf.1 hc
   simp[c0,hp,BD,ln,hkl,u1,u3,u50,Cw,hc',Au (a:=k) (b:=1) (by omega) (by omega)]
   exact hR (n - 1) _ _ _ _ _ (by omega) ⟨k+1,by omega,rfl,rfl,rfl,by simp,rfl,λm y hm hy=>by
    by_cases c2:m=k
    ·rw[c2,hx]at hy;injection hy with hy;rw[← hy];exact hc
    ·exact hlt m y (by omega) hy⟩
  ·have:=fin (P0 (by omega) hlt (λy hy=>by rw[hx]at hy;injection hy with hy;rw[← hy];exact hc))
   have hc':¬x.nd.ino<o.ino:=λq=>hc (Pf.2 q)
   simp at this;simp[c0,hp,BD,ln,hkl,u1,u3,u50,Cw,hc'];exact this
 ·have:=fin (P0 (by omega) hlt (λy hy=>by have:=(BE.1 hy).1;omega))
  simp at this;simp[c0,ln,show ¬k<dv.length by omega];exact this
section
variable {κ α : Type} {c : κ→κ→Int} {key : α→κ}
theorem pG (hc:KO c):∀{l m:List α},Cx c key l→Cx c key m→(∀x,x∈l↔x∈m)→l=m
 | [],[],_,_,_=>rfl
 | [],b::m,_,_,h=>by have:=(h b).2 (by simp);simp at this
 | a::l,[],_,_,h=>by have:=(h a).1 (by simp);simp at this
 | a::l,b::m,h1,h2,h=>by
  have k1:=An7.1 h1;have k2:=An7.1 h2
  have e:a=b:=by
   rcases Ak6.1 ((h a).1 (by simp))with e | q1
   ·exact e
   ·rcases Ak6.1 ((h b).2 (by simp))with e | q2
    ·exact e.symm
    ·exact absurd (hc.trans _ _ _ (k1.1 b q2) (k2.1 a q1)) (hc.irr _)
  subst e
  congr 1
  refine pG hc k1.2 k2.2 λx=>?_
  have irr:∀y,y∈l∨y∈m→y≠a:=by
   rintro y (q | q) rfl
   ·exact hc.irr _ (k1.1 y q)
   ·exact hc.irr _ (k2.1 y q)
  constructor
  ·intro q
   rcases Ak6.1 ((h x).1 (by simp[q]))with e | q2
   ·exact absurd e (irr x (.inl q))
   ·exact q2
  ·intro q
   rcases Ak6.1 ((h x).2 (by simp[q]))with e | q2
   ·exact absurd e (irr x (.inr q))
   ·exact q2
theorem NI (hc:KO c){l:List α}(h:Cx c key l){k k2:κ}(hk:Be key l k)(hne:k2≠k):Be key (D3 c key l k) k2↔Be key l k2:=by
 constructor
 ·rintro⟨x,hx,e⟩
  exact⟨x,delK_sub.subset hx,e⟩
 ·rintro⟨x,hx,e⟩
  exact⟨x,(I4 hc h hk).2 ⟨hx,by rw[e];exact hne⟩,e⟩
theorem gN (hc:KO c){l:List α}(h:Cx c key l){k k2:κ}(hk:Be key l k)(hk2:Be key l k2)(hne:k≠k2):D3 c key (D3 c key l k) k2=D3 c key (D3 c key l k2) k:=by
 refine pG hc (EY (EY h)) (EY (EY h)) λx=>?_
 rw[I4 hc (EY h) ((NI hc h hk (Aj4 hne)).2 hk2),I4 hc h hk,I4 hc (EY h) ((NI hc h hk2 hne).2 hk),I4 hc h hk2,and_right_comm]
end
theorem Y4 {ns:List Nm}(hs:Cx Bk Nm.name ns){s t:List UInt8}(hk:Be Nm.name ns s)(ht:Be Nm.name ns t)(hne:t≠s):Db (D3 Bk Nm.name ns s) t=Db ns t:=by
 obtain⟨x,h1,h2,rfl⟩:=ZT ht;unfold Db;rw[h1,jO koN (EY hs) ((I4 koN hs hk).2 ⟨h2,hne⟩)]
end
section
theorem Pt {κ α:Type}[DecidableEq κ]{key:α→κ}{l:List α}{k:κ}:0≤JJ key l k↔Be key l k:=by
 constructor
 ·intro h
  refine Classical.byContradiction λq=>?_
  have:=HP.2 q
  omega
 ·intro h
  obtain⟨j,x,h1,-⟩:=cT h;omega
theorem xI {ns:List Nm}{ds:List Nd}{o:OpM}(hm:EO ns ds)(h1:¬o.kind=1)(h2:¬(o.kind=2∨o.kind=3∨o.kind=4∨o.kind=5))(h6:o.kind=6)(hc:Up ns o.name o.to):
  Bi ns ds o=(Gc Bk Nm.name (D3 Bk Nm.name (if Be Nm.name ns o.to then D3 Bk Nm.name ns o.to else ns) o.name) ⟨o.to,Db ns o.name⟩,if Be Nm.name ns o.to then D3 BP Nd.ino ds (Db ns o.to)else ds):=by
 unfold Bi;rw[if_pos hm,if_neg h1,if_neg h2,if_pos h6,if_pos hc];have hs:=hm.1.2.2.1;unfold FI ZL;have hd:=NI koN hs hc.1 (Aj4 hc.2.2)
 by_cases ht:Be Nm.name ns o.to
 ·rw[if_pos ht,if_pos (hd.2 ht),if_pos ht,if_pos (hd.2 ht),gN koN hs hc.1 ht hc.2.2,Y4 hs hc.1 ht (Aj4 hc.2.2)]
 ·rw[if_neg ht,if_neg (λh=>ht (hd.1 h)),if_neg ht,if_neg (λh=>ht (hd.1 h))]
abbrev Ae5:=And.intro @A6 @AF
theorem Un {ns:List Nm}{ds:List Nd}{v bv:AV}{o:OpM}(hv:ImV ns ds v)(hb:Sm ns ds)(hbv:SV FB 1 o.b bv)(hbl:o.b.length≤281474976710656)(hn:o.name.length≤1000000000)(ht:o.to.length≤1000000000):
  ∃R,ImV (Bi ns ds o).1 (Bi ns ds o).2 R∧BPure prog 114 [v,.agg (BD o bv)] R:=by
 have hids:=hv.noIds;refine BPure.FZ (by simp[A5]at hids⊢;exact⟨hids,by simp[BD,noIds,A5,hbv.1]⟩) (Ut (K:=zdhnZ (Bi ns ds o)) ?_);have hv0:=hv;obtain⟨a,b,dv,rfl,sa,sb,rfl⟩:=hv;have b1:=hb.1;have b2:=hb.2.1;rw[Aj1]at b2;have oa:=SV.oneA sa;have ob:=SV.oneA sb;have o3:=SV.oneA hbv;unfold P8;obtain⟨H5,e5,c0,c1,c2,l5⟩:∃H5,AC [some (.cells [a,b]),some (.cells (BD o bv))] (.agg [Ad,Ad])=some (.ptr 2 0,H5)∧H5[0]?=some (some (.cells [a,b]))∧H5[1]?=some (some (.cells (BD o bv)))∧H5[2]?=some (some (.cells [Ad,Ad]))∧H5.length=3:=
  ⟨[some (.cells [a,b]),some (.cells (BD o bv)),some (.cells [Ad,Ad])],by simp,rfl,rfl,rfl,rfl⟩
 have e4:AC [some (.cells [a,b])] (.agg (BD o bv))=some (.ptr 1 0,[some (.cells [a,b]),some (.cells (BD o bv))]):=by simp[BD,o3]
 have b0:∀x y:AV,Ax true 2 [x,y] 0=some (.agg [x,y]):=λ_ _=>rfl
 have e0:AC [] (.agg [a,b])=some (.ptr 0 0,[some (.cells [a,b])]):=by simp[oa,ob]
 simp[-Qr,e0,e4,e5,c0,b0];obtain⟨r,H8,⟨a',b',ew,rfl,hew,hg,ow⟩,hc⟩:=YJ (H:=H5) sa sb (by omega) b2 (λd hd=>hb.2.2.2 d.nd (Ak1 hd));refine bC_of hc ?_;have a1:=AD ow.oa;have a2:=AD ow.ob;have l8:=hg.1;rw[l5]at ow l8
 obtain⟨H11,e11,i9,g11,l11⟩:∃H11,AP 2 (H8++[some (.cells [Ad,Ad])]) (.ptr H8.length 0) (.agg [a',b'])=some H11∧ImH 3 H8.length ns ew a' b' H11∧Grew H8 H11∧H11.length=H8.length+1:=by
  have g:=Grew.app H8 [some (.cells [a',b'])];refine⟨H8++[some (.cells [a',b'])],by simp[AP,Bm,a1,a2],⟨by simp,⟨λq=>by have:=Az ow.sa _ q;omega,λq=>by have:=Az ow.sb _ q;omega⟩,by simp;omega,g.slice ow.sa,ow.oa,ow.ca,ow.ia,g.slice ow.sb,ow.ob,ow.cb,ow.ib,ow.ab⟩,g,by simp⟩
 have e10:AC H8 (.agg [Ad,Ad])=some (.ptr H8.length 0,H8++[some (.cells [Ad,Ad])]):=by simp
 simp[-Qr,e10,e11];have k0:=g11.cells (hg.cells c0);have k1:=g11.cells (hg.cells c1);have k2:=g11.cells (hg.cells c2);have hoi:3≤H8.length:=l8;generalize H8.length=oi at*;have d0:=i9.obj;have el:ew.length=dv.length:=by have:=congrArg List.length hew;simpa using this
 have keep:∀{H':AH},FrL 3 oi H11 H'→H'[0]?=some (some (.cells [a,b]))∧H'[1]?=some (some (.cells (BD o bv)))∧H'[2]?=some (some (.cells [Ad,Ad])):=λf=>by
  rw[f.2 0 (by omega) (by omega),f.2 1 (by omega) (by omega),f.2 2 (by omega) (by omega)];exact⟨k0,k1,k2⟩
 have hsm:Sm ns (ew.map NdV.nd):=by rw[hew];exact hb
 simp[-Qr,k0,b0];refine Ay (Hf hv0 hb) ?_
 by_cases hm:EO ns (dv.map NdV.nd)
 ·have hs:=hm.1.2.2.1
  have hdd:=hm.2.2.1;have hd:Cx BP NdV.ino ew:=by rw[← OG,hew];exact hdd
  have hx:∀x∈ns,Be NdV.ino ew x.ino:=λx hx=>by rw[← Ka,hew];exact(Ue.1 hm).2.2.2.2.1 x hx
  simp[-Qr,hm,k1,BD]
  by_cases q1:o.kind=1
  ·
   have hno:¬nH ns (dv.map NdV.nd) o→Bb (.ptr 2 0) (.ptr oi 0) H11 (zdhnZ (Bi ns (dv.map NdV.nd) o)):=λhc=>Dt i9 hoi k2 (by unfold Bi;rw[if_pos hm,if_pos q1,if_neg hc,hew])
   rw[decide_eq_true q1];simp only[As];refine Ay (Fe (s:=o.name) (by omega)) ?_
   by_cases q3:DE o.name
   ·simp[q3,k1,BD]
    refine Ay (FH hv0 hb o.name) ?_
    by_cases q4:Be Nm.name ns o.name
    ·have i4:¬JJ Nm.name ns o.name<0:=by rw[HP];exact λh=>h q4
     simp[i4];exact hno λhc=>hc.1 q4
    ·have i4:JJ Nm.name ns o.name<0:=HP.2 q4
     simp[i4,k1,BD]
     by_cases q5:1≤o.ino
     ·by_cases q6:o.ino≤4611686018427387904
      ·simp[q5,q6,k1,BD]
       refine Ay (Jm hv0 hb o.ino) ?_
       by_cases q7:Be Nd.ino (dv.map NdV.nd) o.ino
       ·have i7:¬JJ Nd.ino (dv.map NdV.nd) o.ino<0:=by rw[HP];exact λh=>h q7
        simp[i7];exact hno λhc=>hc.2.1 q7
       ·have i7:JJ Nd.ino (dv.map NdV.nd) o.ino<0:=HP.2 q7
        by_cases q8:ns.length<16
        ·have q8':(ns.length:Int)<16:=by omega
         have hc:nH ns (dv.map NdV.nd) o:=⟨q4,q7,q3,q5,q6,q8⟩
         have e:Bi ns (dv.map NdV.nd) o=(Gc Bk Nm.name ns ⟨o.name,o.ino⟩,(Gc BP NdV.ino ew (GV o.ino)).map NdV.nd):=by
          unfold Bi;rw[if_pos hm,if_pos q1,if_pos hc,nW,hew]
         simp[i7,k0,sa.len,q8'];obtain⟨r2,H2,⟨rfl,a3,b3,i3,f3⟩,w3⟩:=mZ (s:=o.name) (no:=o.ino) i9 b1;refine bC_of w3 ?_;refine zdgzZ i3 (keep f3).2.1 hoi (by omega) λr4 H4 i4 f4=>?_
         exact Dt i4 hoi (keep (f3.trans f4)).2.2 e
        ·have q8':¬(ns.length:Int)<16:=by omega
         simp[i7,k0,sa.len,q8'];exact hno λhc=>q8 hc.2.2.2.2.2
      ·simp[q5,q6,k1,BD]
       exact hno λhc=>q6 hc.2.2.2.2.1
     ·simp[q5]
      exact hno λhc=>q5 hc.2.2.2.1
   ·simp[q3]
    exact hno λhc=>q3 hc.2.2.1
  ·by_cases q6:o.kind=6
   ·have q2:¬(o.kind=2∨o.kind=3∨o.kind=4∨o.kind=5):=by omega
    have hno:¬Up ns o.name o.to→Bb (.ptr 2 0) (.ptr oi 0) H11 (zdhnZ (Bi ns (dv.map NdV.nd) o)):=λhc=>Dt i9 hoi k2 (by unfold Bi;rw[if_pos hm,if_neg q1,if_neg q2,if_pos q6,if_neg hc,hew])
    rw[decide_eq_false q1];simp only[Ak];simp[q6];refine Ay (FH hv0 hb o.name) ?_
    by_cases q3:Be Nm.name ns o.name
    ·have i3:0≤JJ Nm.name ns o.name:=Pt.2 q3
     simp[i3,k1,BD];refine Ay (Fe (s:=o.to) (by omega)) ?_
     by_cases q4:DE o.to
     ·simp[q4,k1,BD,sU]
      by_cases q5:o.to=o.name
      ·simp[q5]
       exact hno λhc=>hc.2.2 q5.symm
      ·have hc:Up ns o.name o.to:=⟨q3,q4,Aj4 q5⟩
       have e:=xI hm q1 q2 q6 hc;obtain⟨Ra,Rb,ta,tb,fz⟩:=i9.lend
       have hJ:∀ns1 dw a1 b1 Hc,ImH 3 oi ns1 dw a1 b1 Hc→FrL 3 oi H11 Hc→Cx Bk Nm.name ns1→Cx BP NdV.ino dw→Sm ns1 (dw.map NdV.nd)→Be Nm.name ns1 o.name→Bi ns (dv.map NdV.nd) o=(Gc Bk Nm.name (D3 Bk Nm.name ns1 o.name) ⟨o.to,Db ns o.name⟩,dw.map NdV.nd)→E9 (.ptr 0 0) (.ptr 1 0) (.ptr 2 0) (.ptr oi 0) (I (JJ Nm.name ns o.name)) Hc (zdhnZ (Bi ns (dv.map NdV.nd) o)):=by
        intro ns1 dw a1 b1 Hc hi hf hs1 hd1 hb1 hk1 he;rw[PY];unfold Jy;obtain⟨g0,g1,g2⟩:=keep hf;simp[g1,BD];obtain⟨r2,H2,⟨rfl,a3,b3,i3,f3⟩,w3⟩:=rB (s:=o.name) hi hs1 hd1 hb1 hk1 false (by simp);refine bC_of w3 ?_;rw[PZ];unfold Jz;obtain⟨g0,g1,g2⟩:=keep (hf.trans f3);rw[QA koN hs q3];obtain⟨x,hx1,hx2,hx3⟩:=He koN hs q3;have en:Db ns o.name=x.ino:=by unfold Db;rw[hx2]
        simp[g0,g1,BD,sa.idx BT hx1 rfl,bQ];obtain⟨r4,H4,⟨rfl,a5,b5,i5,f5⟩,w5⟩:=mZ (s:=o.to) (no:=x.ino) i3 (Aj0 delK_sub.length_le hb1.1);refine bC_of w5 ?_;rw[en]at he;exact Dt i5 hoi (keep ((hf.trans f3).trans f5)).2.2 he
       simp[q5,d0,b0];refine bP_of (PCall.lend (FZs.cons fz (FZs.cons (FZ.lit _) FZs.nil)) rfl (FH ⟨Ra,Rb,ew,rfl,ta,tb,rfl⟩ hsm o.to)) ?_
       by_cases q7:Be Nm.name ns o.to
       ·have i7:=Pt.2 q7
        rw[if_pos q7,if_pos q7]at e
        have hk7:Be NdV.ino ew (Db ns o.to):=by
         obtain⟨y,y1,y2,y3⟩:=ZT q7;have:Db ns o.to=y.ino:=by unfold Db;rw[y1]
         rw[this];exact hx y y2
        simp[i7];obtain⟨r2,H2,⟨rfl,a3,b3,i3,f3⟩,w3⟩:=rB (s:=o.to) i9 hs hd hsm q7 true (λ_=>hk7);refine bC_of w3 ?_;refine hJ _ _ _ _ _ i3 f3 (EY hs) (by simpa using EY hd) (hsm.sub delK_sub (by simpa using delK_sub.map NdV.nd)) ((NI koN hs q7 (Aj4 q5)).2 q3) ?_;rw[e,← hew];simp[nK]
       ·have i7:¬0≤JJ Nm.name ns o.to:=λh=>q7 (Pt.1 h)
        rw[if_neg q7,if_neg q7]at e;simp[i7];exact hJ _ _ _ _ _ i9 (FrL.refl _ _ _) hs hd hsm q3 (by rw[e,hew])
     ·simp[q4]
      exact hno λhc=>q4 hc.2.1
    ·have i3:¬0≤JJ Nm.name ns o.name:=λh=>q3 (Pt.1 h)
     simp[i3];exact hno λhc=>q3 hc.1
   ·by_cases q7:o.kind=7
    ·have q2:¬(o.kind=2∨o.kind=3∨o.kind=4∨o.kind=5):=by omega
     have e:Bi ns (dv.map NdV.nd) o=(FI ns o.name,(Uo ns ew o.name).map NdV.nd):=by
      unfold Bi;rw[if_pos hm,if_neg q1,if_neg q2,if_neg q6,if_pos q7,YD,hew]
     rw[decide_eq_false q1];simp only[Ak];simp[q7];refine Ay (FH hv0 hb o.name) ?_
     by_cases q3:Be Nm.name ns o.name
     ·have i3:=Pt.2 q3
      have hk7:Be NdV.ino ew (Db ns o.name):=by
       obtain⟨y,y1,y2,y3⟩:=ZT q3;have:Db ns o.name=y.ino:=by unfold Db;rw[y1]
       rw[this];exact hx y y2
      simp[i3];obtain⟨r2,H2,⟨rfl,a3,b3,i3,f3⟩,w3⟩:=rB (s:=o.name) i9 hs hd hsm q3 true (λ_=>hk7);refine bC_of w3 ?_;refine Dt i3 hoi (keep f3).2.2 (e.trans ?_);unfold FI Uo;rw[if_pos q3,if_pos q3];rfl
     ·have i3:¬0≤JJ Nm.name ns o.name:=λh=>q3 (Pt.1 h)
      simp[i3];refine Dt i9 hoi k2 (e.trans ?_);unfold FI Uo;rw[if_neg q3,if_neg q3]
    ·have e:Bi ns (dv.map NdV.nd) o=(ns,PN (ew.map NdV.nd) o):=by
      unfold Bi;rw[if_pos hm,if_neg q1,if_neg q6,if_neg q7,hew]
      by_cases q2:o.kind=2∨o.kind=3∨o.kind=4∨o.kind=5
      ·rw[if_pos q2]
      ·rw[if_neg q2,qM q2]
     rw[decide_eq_false q1];simp only[Ak];simp[-Qr,q6,q7];refine Ay (Jm hv0 hb o.ino) ?_
     by_cases q3:Be Nd.ino (dv.map NdV.nd) o.ino
     ·have i3:=Pt.2 q3
      have hdv:Cx BP NdV.ino dv:=OG.1 hdd;have ek:=QA koI hdd q3;rw[NO]at ek;obtain⟨x,hx1,hx2,hx3⟩:=He koI hdv (Ka.1 q3);have hxl:=hb.2.2.2 x.nd (Ak1 (Ah7 hx1));obtain⟨R2,s2,p2⟩:=lH (d:=x.nd) (o:=o) x.h hxl hbv hbl;have o2:=SV.oneA s2
      obtain⟨y,hy1,hy2⟩:∃y,ew[Dr BP NdV.ino dv o.ino]?=some y∧y.nd=x.nd:=by
       have h1:(ew.map NdV.nd)[Dr BP NdV.ino dv o.ino]?=some x.nd:=by rw[hew,Aj3,hx1];rfl
       exact getElem?_map_nd h1
      have b8:Ax true 8 (BD o bv) 0=some (.agg (BD o bv)):=rfl;have ei:=sb.idx BL hx1 rfl
      obtain⟨H1,f1,f2,f3,f4,f5⟩:∃H1,AC H11 (.agg [I 0,Ad])=some (.ptr H11.length 0,H1)∧H1[0]?=some (some (.cells [a,b]))∧H1[1]?=some (some (.cells (BD o bv)))∧H1=H11++[some (.cells [I 0,Ad])]∧Grew H11 H1:=by
       have g:=Grew.app H11 [some (.cells [I 0,Ad])];exact⟨_,by simp,g.cells k0,g.cells k1,rfl,g⟩
      obtain⟨H2,f6,f7,f8⟩:∃H2,AP 2 H1 (.ptr H11.length 0) (.agg [I (cS (GZ o x.nd)),R2])=some H2∧H2[H11.length]?=some (some (.cells [I (cS (GZ o x.nd)),R2]))∧Grew H11 H2:=by
       subst f4;exact⟨H11++[some (.cells [I (cS (GZ o x.nd)),R2])],by simp[AP,Bm,o2],by simp,Grew.app _ _⟩
      have i2:=i9.grew f8;have d2:=i2.obj;have fr2:FrL 3 oi H11 H2:=⟨f8.1,λj j1 j2=>f8.2 j (by have:=i9.len;omega)⟩;have hat:qJ Nd.ino (dv.map NdV.nd) o.ino=some x.nd:=ZU hx2;simp[-Qr,ek,ei];refine bP_of p2 ?_;simp only[Ag,Aa,Aa9,f1,Ae5,f6];simp[f2,f3,b8];cases hr:GZ o x.nd with
      | none=>
       simp;refine⟨by simp[Ax,Cw],rfl,?_⟩;refine Dt i2 hoi (keep fr2).2.2 (e.trans ?_);unfold PN;rw[hew,hat];simp only[hr]
      | some c=>
       rw[hr]at s2 f7;obtain⟨o',off,cells,H4,w1,w2,w3,w4,w5,w6⟩:=i2.putD (sz:=cS (some c)) hy1 s2;simp[d2,f7,w1,Ax,w4];refine⟨by rw[BL];omega,rfl,?_⟩;refine Dt w5 hoi (keep (fr2.trans w6)).2.2 (e.trans ?_);unfold PN;rw[hew,hat];simp only[hr,NO];rw[As6,hew]
       congr 2
       rw[← hy2];rfl
     ·have i3:¬0≤JJ Nd.ino (dv.map NdV.nd) o.ino:=λh=>q3 (Pt.1 h)
      simp[i3];refine Dt i9 hoi k2 (e.trans ?_);unfold PN;rw[hew,aR q3]
 ·have e:Bi ns (dv.map NdV.nd) o=(ns,ew.map NdV.nd):=by unfold Bi;rw[if_neg hm,hew]
  have:=Dt i9 hoi k2 e
  rw[J0]at this;unfold FU at this;simp[d0,b0]at this;simp[hm,d0,b0];exact this
theorem eF:∀{bs:List UInt8} {l:List Ext} {p:Int},(BH l p bs).length≤l.length+bs.length
 | [],l,p=>Ah9 _
 | b::r,l,p=>by
  show(BH (E7 l p [b]) (p+1) r).length≤_
  have ih:=eF (bs:=r) (l:=E7 l p [b]) (p:=p+1)
  have h:(E7 l p [b]).length≤l.length+1:=by
   unfold E7
   have:=dJ l (p/8)
   simp[ZJ];omega
  simp only[Al9];omega
theorem tF {o:OpM}{d:Nd}:(cL (GZ o d)).length≤d.l.length+o.b.length+4098:=by
 unfold GZ
 split
 ·unfold Dx
  split
  ·split
   ·simp only[cL,Ap6];omega
   ·simp only[cL,Ap6]
    have:=eF (bs:=o.b) (l:=d.l) (p:=o.pos)
    omega
  ·simp[cL]
 ·split
  ·unfold Cl
   split
   ·simp only[cL,Ap6,Fg,PG,Aj1]
    exact Aj0 (An5 _ _) (by omega)
   ·simp[cL]
  ·split
   ·unfold Cj
    split
    ·simp only[cL,Ap6,N4]
     have:=(kS (k:=allocN o.pos o.size) (l:=d.l) (no:=o.pos/8)).1
     have hN:allocN o.pos o.size≤4098:=by unfold allocN;omega
     omega
    ·simp[cL]
   ·split
    ·unfold CM
     split
     ·simp only[cL,Ap6,Fr,PG,Aj1]
      exact Aj0 (An5 _ _) (by omega)
     ·simp[cL]
    ·simp[cL]
def zdlyZ (ns:List Nm)(ds:List Nd):Prop:=ns.length≤30∧ds.length≤30∧(∀d∈ds,d.l.length≤60)∧LC ds≤300
instance (ns:List Nm) (ds:List Nd):Decidable (zdlyZ ns ds):=by unfold zdlyZ;infer_instance
theorem OwI.lend {L:Nat}{ns:List Nm}{dv:List NdV}{a b:AV}{H:AH}(h:OwI L ns dv a b H):∃R,ImV ns (dv.map NdV.nd) R∧FZ H (.agg [a,b]) R:=by
 obtain⟨Ra,h1,f1⟩:=FZ.sv h.sa (D0 λx _=>Uh x);obtain⟨Rb,h2,f2⟩:=FZ.sv h.sb (D0 λx _=>Pz x);exact⟨_,⟨Ra,Rb,dv,rfl,h1,h2,rfl⟩,FZ.agg (FZs.cons f1 (FZs.cons f2 FZs.nil))⟩
theorem pP {ns:List Nm}{ds:List Nd}{v:AV}(hv:ImV ns ds v)(hb:Sm ns ds):∃R,ImV ns ds R∧BPure prog 64 [v] R:=by
 have hids:=hv.noIds;obtain⟨a,b,dv,rfl,sa,sb,rfl⟩:=hv;have b2:=hb.2.1;rw[Aj1]at b2;obtain⟨r,X,⟨a',b',ew,rfl,hew,-,ow⟩,hc⟩:=xT (H:=[]) sa sb hb.1 b2 (λd hd=>hb.2.2.2 d.nd (Ak1 hd));obtain⟨R,hR,fR⟩:=ow.lend;rw[hew]at hR;exact BPure.FZ hids ⟨_,X,⟨R,fR,hR⟩,hc⟩
structure OpV where
 o:OpM
 bv:AV
 h:SV FB 1 o.b bv
def I3 (x:OpV):List AV:=BD x.o x.bv
theorem bR (x:OpV):(I3 x).length=8:=rfl
theorem uD {H:AH}{w:AV}{l:List OpV}{k:Nat}{x:OpV}(hw:Ac H 8 w=some (l.flatMap I3,l.length))(hx:l[k]?=some x):∃p,Bo 8 w (I k)=some p∧Ap true 8 H p=some (.agg (BD x.o x.bv)):=by
 have hk:=(BE.1 hx).1;obtain⟨p,c,h1,h2,h3,h4⟩:=Nx hw (i:=(k:Int)) rfl hk
 have hc:c.take 8=I3 x:=by
  rw[h3,Ev bR hx,Aj7 (by rw[bR];omega),Ai2 (by rw[bR];omega)]
 exact⟨p,h1,by rw[VQ h2 (by omega) h4,Um (by omega),Ak9,hc];rfl⟩
section
variable {α κ ι : Type} {c : κ→κ→Int} {key : α→κ}
theorem cP {f:α→ι}{l:List α}{x:α}{i:ι}:Be f (Gc c key l x) i↔f x=i∨Be f l i:=by
 unfold Be
 constructor
 ·rintro⟨y,hy,e⟩
  rcases Kd.1 hy with rfl | hy
  ·exact .inl e
  ·exact .inr ⟨y,hy,e⟩
 ·rintro(e | ⟨y,hy,e⟩)
  ·exact⟨x,Kd.2 (.inl rfl),e⟩
  ·exact⟨y,Kd.2 (.inr hy),e⟩
theorem Ys (hc:KO c){f:α→ι}{l:List α}(h:Cx c key l){k:κ}(hk:Be key l k){i:ι}:Be f (D3 c key l k) i↔∃y∈l,key y≠k∧f y=i:=by
 unfold Be
 constructor
 ·rintro⟨y,hy,e⟩
  obtain⟨h1,h2⟩:=(I4 hc h hk).1 hy;exact⟨y,h1,h2,e⟩
 ·rintro⟨y,hy,h2,e⟩
  exact⟨y,(I4 hc h hk).2 ⟨hy,h2⟩,e⟩
theorem UF {β:Type}{f:α→β}:∀{l:List α},l.Nodup→((l.map f).Nodup↔∀x∈l,∀y∈l,f x=f y→x=y)
 | [],_=>by simp
 | a::l,h=>by
  obtain⟨h1,h2⟩:=Ao7.1 h;rw[Ao8,Ao7,UF h2]
  constructor
  ·rintro⟨h3,h4⟩ x hx y hy e
   rcases Ak6.1 hx with hx1 | hx1<;>rcases Ak6.1 hy with hy1 | hy1
   ·rw[hx1,hy1]
   ·rw[hx1]at e;exact absurd (Ak7.2 ⟨y,hy1,e.symm⟩) h3
   ·rw[hy1]at e;exact absurd (Ak7.2 ⟨x,hx1,e⟩) h3
   ·exact h4 x hx1 y hy1 e
  ·intro h3
   refine⟨λhm=>?_,λx hx y hy=>h3 x (by simp[hx]) y (by simp[hy])⟩;obtain⟨y,hy,e⟩:=Ak7.1 hm
   have:=h3 y (by simp[hy]) a (by simp) e
   exact h1 (this▸hy)
theorem Wu (hc:KO c){l:List α}(h:Cx c key l):l.Nodup:=by
 refine List.Pairwise.imp ?_ h;rintro a b hab rfl;exact hc.irr _ hab
end
structure MayW (ns:List Nm)(ds:List Nd):Prop where
 len:ns.length≤16
 nm:∀x∈ns,DE x.name∧1≤x.ino∧x.ino≤4611686018427387904
 srt:Cx Bk Nm.name ns
 inj:∀x∈ns,∀y∈ns,x.ino=y.ino→x=y
 sd:Cx BP Nd.ino ds
 mc:∀d∈ds,Dh d.size d.l
 ino:∀i,Be Nd.ino ds i↔Be Nm.ino ns i
theorem rE {ds:List Nd}(h:Cx BP Nd.ino ds):(ds.map Nd.ino).Nodup:=by
 rw[List.Nodup,Ap2];exact h.imp λh=>by rw[Pf]at h;omega
theorem PS {ns:List Nm}{ds:List Nd}:EO ns ds↔MayW ns ds:=by
 constructor
 ·intro h
  have h2:=Ue.1 h;obtain⟨h21,h22,⟨h23,h24,h25⟩,h26,h27,h28⟩:=h2;refine⟨h21,h23,h24,(UF (Wu koN h24)).1 h25,h26,h28,λi=>⟨?_,?_⟩⟩
  ·rintro⟨d,hd,rfl⟩
   exact(h.2.2.2 d hd).1
  ·rintro⟨x,hx,rfl⟩
   exact h27 x hx
 ·intro h
  refine⟨⟨h.len,h.nm,h.srt,(UF (Wu koN h.srt)).2 h.inj⟩,?_,h.sd,λd hd=>⟨(h.ino d.ino).1 ⟨d,hd,rfl⟩,h.mc d hd⟩⟩
  have hp:=(List.perm_ext_iff_of_nodup (rE h.sd) ((UF (Wu koN h.srt)).2 h.inj)).2 λi=>by
   have:=h.ino i
   unfold Be at this
   simpa[Ak7]using this
  have:=hp.length_eq
  simpa using this
theorem iC {ns:List Nm}(hs:Cx Bk Nm.name ns){x:Nm}(hx:x∈ns):Db ns x.name=x.ino:=by
 unfold Db;rw[jO koN hs hx]
theorem zddnZ {ns:List Nm}{s:List UInt8}(h:¬Be Nm.name ns s):Db ns s=0:=by
 unfold Db;rw[aR h]
theorem MayW.rem {ns:List Nm}{ds:List Nd}{s:List UInt8}(h:MayW ns ds)(hk:Be Nm.name ns s):MayW (D3 Bk Nm.name ns s) (D3 BP Nd.ino ds (Db ns s)):=by
 obtain⟨x,hx,rfl⟩:=hk;have hk:Be Nm.name ns x.name:=⟨x,hx,rfl⟩;rw[iC h.srt hx];have hd:Be Nd.ino ds x.ino:=(h.ino _).2 ⟨x,hx,rfl⟩;have sub:∀y,y∈D3 Bk Nm.name ns x.name→y∈ns:=λy hy=>delK_sub.subset hy
 have hl:=Ty (WW koN h.srt hk)
 have:=h.len
 refine⟨by omega,λy hy=>h.nm y (sub y hy),EY h.srt,λy hy z hz=>h.inj y (sub y hy) z (sub z hz),EY h.sd,λd hd=>h.mc d (delK_sub.subset hd),λi=>?_⟩;rw[Ys koI h.sd hd,Ys koN h.srt hk]
 constructor
 ·rintro⟨d,hd1,hd2,rfl⟩
  obtain⟨y,hy,e⟩:=(h.ino d.ino).1 ⟨d,hd1,rfl⟩;exact⟨y,hy,λe2=>hd2 (by rw[← e,YG koN h.srt hy hx e2]),e⟩
 ·rintro⟨y,hy,hne,rfl⟩
  obtain⟨d,hd1,e⟩:=(h.ino y.ino).2 ⟨y,hy,rfl⟩;exact⟨d,hd1,λe2=>hne (by rw[h.inj y hy x hx (by rw[← e,e2])]),e⟩
theorem MayW.ren {ns:List Nm}{ds:List Nd}{s t:List UInt8}(h:MayW ns ds)(hk:Be Nm.name ns s)(ht:¬Be Nm.name ns t)(hm:DE t):MayW (Gc Bk Nm.name (D3 Bk Nm.name ns s) ⟨t,Db ns s⟩) ds:=by
 obtain⟨x,hx,rfl⟩:=hk;have hk:Be Nm.name ns x.name:=⟨x,hx,rfl⟩;rw[iC h.srt hx];have mem:∀y,y∈Gc Bk Nm.name (D3 Bk Nm.name ns x.name) ⟨t,x.ino⟩↔y=⟨t,x.ino⟩∨(y∈ns∧y.name≠x.name):=λy=>by rw[Kd,I4 koN h.srt hk]
 have hl:=Ty (WW koN h.srt hk)
 have:=h.len
 refine⟨by rw[Ua];omega,?_,dZ koN (EY h.srt) (λhh=>ht ?_),?_,h.sd,h.mc,λi=>?_⟩
 ·intro y hy
  rcases(mem y).1 hy with rfl | ⟨hy,-⟩
  ·exact⟨hm,(h.nm x hx).2⟩
  ·exact h.nm y hy
 ·obtain⟨y,hy,e⟩:=hh
  exact⟨y,delK_sub.subset hy,e⟩
 ·intro y hy z hz e
  rcases(mem y).1 hy with rfl | ⟨hy,hny⟩<;>rcases(mem z).1 hz with rfl | ⟨hz,hnz⟩
  ·rfl
  ·exact absurd (by rw[h.inj x hx z hz e]) hnz
  ·exact absurd (by rw[h.inj y hy x hx e]) hny
  ·exact h.inj y hy z hz e
 ·rw[h.ino i,cP,Ys koN h.srt hk]
  constructor
  ·rintro⟨y,hy,rfl⟩
   by_cases c:y.name=x.name
   ·exact .inl (by rw[YG koN h.srt hy hx c])
   ·exact .inr ⟨y,hy,c,rfl⟩
  ·rintro(rfl | ⟨y,hy,-,rfl⟩)
   ·exact⟨x,hx,rfl⟩
   ·exact⟨y,hy,rfl⟩
theorem zddlZ:Dh 0 []:=by decide
theorem MayW.cre {ns:List Nm}{ds:List Nd}{o:OpM}(h:MayW ns ds)(hc:nH ns ds o):MayW (Gc Bk Nm.name ns ⟨o.name,o.ino⟩) (Gc BP Nd.ino ds ⟨o.ino,0,[]⟩):=by
 obtain⟨h1,h2,h3,h4,h5,h6⟩:=hc;have hn:¬Be Nm.ino ns o.ino:=λhh=>h2 ((h.ino _).2 hh)
 refine⟨by rw[Ua];omega,?_,dZ koN h.srt h1,?_,dZ koI h.sd h2,?_,λi=>by rw[cP,cP,h.ino]⟩
 ·intro y hy
  rcases Kd.1 hy with rfl | hy
  ·exact⟨h3,h4,h5⟩
  ·exact h.nm y hy
 ·intro y hy z hz e
  rcases Kd.1 hy with rfl | hy<;>rcases Kd.1 hz with rfl | hz
  ·rfl
  ·exact absurd ⟨z,hz,e.symm⟩ hn
  ·exact absurd ⟨y,hy,e⟩ hn
  ·exact h.inj y hy z hz e
 ·intro d hd
  rcases Kd.1 hd with rfl | hd
  ·exact zddlZ
  ·exact h.mc d hd
theorem zF {o:OpM}{d:Nd}{c:Lv}(hk:o.kind=2∨o.kind=3∨o.kind=4∨o.kind=5)(h:GZ o d=some c):Dh c.1 c.2:=by
 unfold GZ at h;split at h
 ·exact iA h
 ·split at h
  ·exact wR h
  ·split at h
   ·exact wP h
   ·split at h
    ·exact wQ h
    ·omega
theorem gK {ds:List Nd}{o:OpM}(hs:Cx BP Nd.ino ds):(PN ds o).map Nd.ino=ds.map Nd.ino:=by
 unfold PN
 split
 ·rename_i d hd
  split
  ·rename_i c hc
   have hk:Be Nd.ino ds o.ino:=⟨d,As3 hd,by simpa using List.find?_some hd⟩;obtain⟨y,h1,h2,h3⟩:=He koI hs hk;have e:y=d:=by rw[hd]at h2;injection h2 with h2;exact h2.symm
   rw[As6,← e];apply Ak5;intro j;rw[Am7]
   split
   ·rename_i hj
    subst hj
    split
    ·rw[Aj3,h1];rfl
    ·rename_i hl
     rw[Aj3,h1]
     have:=(BE.1 h1).1
     simp at hl;omega
   ·rfl
  ·rfl
 ·rfl
theorem zdetZ {ds es:List Nd}(e:ds.map Nd.ino=es.map Nd.ino)(h:Cx BP Nd.ino es):Cx BP Nd.ino ds:=by
 unfold Cx at h⊢;have h1:(es.map Nd.ino).Pairwise λa b=>BP a b<0:=Ap2.2 h
 rw[← e]at h1;exact Ap2.1 h1
theorem zdcvZ {ds es:List Nd}(e:ds.map Nd.ino=es.map Nd.ino)(i:Int):Be Nd.ino ds i↔Be Nd.ino es i:=by
 have a:∀l:List Nd,Be Nd.ino l i↔i∈l.map Nd.ino:=λl=>by unfold Be;simp[Ak7]
 rw[a,a,e]
theorem dI {ds:List Nd}{o:OpM}(hs:Cx BP Nd.ino ds){d:Nd}(h:d∈PN ds o):d∈ds∨(d.ino=o.ino∧∃e∈ds,e.ino=o.ino∧GZ o e=some (d.size,d.l)):=by
 unfold PN at h;split at h
 ·rename_i e he
  split at h
  ·rename_i c hc
   have e1:=As3 he;have e2:e.ino=o.ino:=by simpa using List.find?_some he
   rcases List.mem_or_eq_of_mem_set h with h | h
   ·exact .inl h
   ·exact .inr ⟨by rw[h];exact e2,e,e1,e2,by rw[h];exact hc⟩
  ·exact .inl h
 ·exact .inl h
theorem MayW.chg {ns:List Nm}{ds:List Nd}{o:OpM}(h:MayW ns ds)(hk:o.kind=2∨o.kind=3∨o.kind=4∨o.kind=5):MayW ns (PN ds o):=by
 have hi:=gK (o:=o) h.sd;refine⟨h.len,h.nm,h.srt,h.inj,zdetZ hi h.sd,λd hd=>?_,λi=>by rw[zdcvZ hi,h.ino]⟩;rcases dI h.sd hd with hd | ⟨-,e,-,-,he⟩
 ·exact h.mc d hd
 ·exact zF hk he
theorem zdkwZ {ns:List Nm}{ds:List Nd}{s t:List UInt8}(h:MayW ns ds)(hk:Be Nm.name ns s)(hne:s≠t):
  (Gc Bk Nm.name (FI (D3 Bk Nm.name ns s) t) ⟨t,Db ns s⟩,ZL (D3 Bk Nm.name ns s) ds t)=(Gc Bk Nm.name (D3 Bk Nm.name (FI ns t) s) ⟨t,Db (FI ns t) s⟩,ZL ns ds t):=by
 unfold FI ZL
 by_cases c:Be Nm.name ns t
 ·have c1:Be Nm.name (D3 Bk Nm.name ns s) t:=(NI koN h.srt hk (Aj4 hne)).2 c
  rw[if_pos c1,if_pos c,if_pos c1,if_pos c,gN koN h.srt hk c hne,Y4 h.srt hk c (Aj4 hne),Y4 h.srt c hk hne]
 ·have c1:¬Be Nm.name (D3 Bk Nm.name ns s) t:=λhh=>c ((NI koN h.srt hk (Aj4 hne)).1 hh)
  rw[if_neg c1,if_neg c,if_neg c1,if_neg c]
theorem MayW.remN {ns:List Nm}{ds:List Nd}(h:MayW ns ds)(t:List UInt8):MayW (FI ns t) (ZL ns ds t)∧¬Be Nm.name (FI ns t) t:=by
 unfold FI ZL
 by_cases c:Be Nm.name ns t
 ·rw[if_pos c,if_pos c]
  refine⟨h.rem c,?_⟩;rintro⟨y,hy,e⟩;exact((I4 koN h.srt c).1 hy).2 e
 ·rw[if_neg c,if_neg c];exact⟨h,c⟩
theorem zdcwZ {ns:List Nm}(hs:Cx Bk Nm.name ns){s t:List UInt8}(hne:s≠t):Be Nm.name (FI ns t) s↔Be Nm.name ns s:=by
 unfold FI
 split
 ·rename_i c;exact NI koN hs c hne
 ·rfl
theorem yU {ns:List Nm}{ds:List Nd}(h:MayW ns ds)(o:OpM):MayW (Bi ns ds o).1 (Bi ns ds o).2:=by
 unfold Bi;rw[if_pos (PS.2 h)]
 split
 ·split
  ·rename_i hc;exact h.cre hc
  ·exact h
 ·split
  ·rename_i hk;exact h.chg hk
  ·split
   ·split
    ·rename_i hr
     obtain⟨h1,h2,h3⟩:=hr;rw[zdkwZ h h1 h3];obtain⟨g1,g2⟩:=h.remN o.to;exact g1.ren ((zdcwZ h.srt h3).2 h1) g2 h2
    ·exact h
   ·split
    ·exact(h.remN o.name).1
    ·exact h
theorem tK {ns:List Nm}{ds:List Nd}(h:MayW ns ds)(s:List UInt8):Sx ns ds s=Db ns s∧(UW ns ds s↔Be Nm.name ns s):=by
 have hm:=PS.2 h;have hi:UW ns ds s↔Be Nm.name ns s:=⟨λhh=>hh.2,λhh=>⟨hm,hh⟩⟩;refine⟨?_,hi⟩;unfold Sx
 by_cases c:UW ns ds s
 ·rw[if_pos c]
 ·rw[if_neg c,zddnZ (λhh=>c (hi.2 hh))]
theorem We {ns:List Nm}{ds:List Nd}(h:MayW ns ds){d:Nd}(hd:d∈ds):Fc ns ds d.ino=d∧Yr ns ds d.ino:=by
 have hg:Yr ns ds d.ino:=⟨PS.2 h,d,hd,rfl⟩;refine⟨?_,hg⟩;unfold Fc;rw[if_pos hg,jO koI h.sd hd];rfl
theorem uW {ns:List Nm}{ds:List Nd}(h:MayW ns ds):XR ns ds=LC ds:=by unfold XR;rw[if_pos (PS.2 h)]
end
section
def old (N:Nat)(X:AH):AH:=List.replicate N none++X.drop N
theorem uB {N:Nat}{X:AH}{o:Nat}{x:AObj}(h:(old N X)[o]?=some (some x)):N≤o∧X[o]?=some (some x):=by
 unfold old at h;rcases Ai0 o N with hlt | hge
 ·rw[Ah6 (by simpa using hlt),Aq5,if_pos hlt]at h
  cases h
 ·rw[Ai1 (by simpa using hge),List.length_replicate,Ai6]at h
  rw[show N+(o - N)=o by omega]at h;exact⟨hge,h⟩
def Cfg.less (G:Cfg)(L:Nat→Prop):Cfg:={G with L:=L}
theorem HR.less {G:Cfg}{H:AH}(hr:HR G H)(L:Nat→Prop)(hL:∀b,L b→G.L b)(hl:∀(o:Nat) (x:AObj),H[o]?=some (some x)→L (G.μ o).1):HR (G.less L) H:=by
 have ht:Tr G (G.less L):=⟨Ah9 _,λ_ _=>rfl,λad vs hh=>hh.imp id λh=>⟨λhh=>h.1 (hh.imp (hL _) id),h.2⟩⟩;exact⟨hr.n,λo x ho=>OR.tr ht (hr.lt_n ho) rfl (hr.obj o x ho),hr.inj,hl,λb hb=>hr.lt b (hb.imp (hL _) id),λb hb=>hr.dis b (hL b hb)⟩
theorem HR.fewer {G:Cfg}{H H2:AH}(hr:HR G H)(hlen:H2.length=H.length)(h:∀(o:Nat) (x:AObj),H2[o]?=some (some x)→H[o]?=some (some x)):HR G H2:=
 ⟨by rw[hlen];exact hr.n,λo x ho=>hr.obj o x (h o x ho),λo o' x x' ho ho'=>hr.inj o o' x x' (h o x ho) (h o' x' ho'),λo x ho=>hr.live o x (h o x ho),hr.lt,hr.dis⟩
section
variable {P : Program}
theorem ACalls.fzNew {f:FuncId}{args:List AV}{H:AH}{R:AV→AH→Prop}{R':AV→Prop}(h:ACalls P f args H R)
  (hR:∀r H1,R r H1→H.length≤H1.length∧(∀o,o<H.length→H1[o]?=H[o]?)∧∃n r',OP (old H.length H1) n r=some r'∧R' r'):ACalls P f args H λr' H'=>R' r'∧H'=H:=by
 intro G vs hH hv;refine(h G vs hH hv).mono ?_;rintro e w' ⟨r,H1,G',v,rfl,rfl,hE,hx,hX,hq⟩;obtain⟨hlen,hpre,n,r',hf,hr'⟩:=hR r H1 hq
 have e1:H1=H++H1.drop H.length:=by
  apply Ak5;intro o;rcases Ai0 o H.length with hlt | hge
  ·rw[Ah6 hlt,hpre o hlt]
  ·rw[Ai1 hge,Ai6,show H.length+(o - H.length)=o by omega]
 have hX1:HR G' (H++H1.drop H.length):=by rw[← e1];exact hX
 have hF:HR {G' with n:=H.length} H:=hX1.forget λo x ho=>by
  have:=(hH.obj o x ho).bel
  rwa[hH.n]at this
 let L2:Nat→Prop:=λb=>G.L b∧G'.L b∧∀(o:Nat) (x:AObj),H.length≤o→H1[o]?=some (some x)→b≠(G'.μ o).1
 have hF2:=hF.less L2 (λb hb=>hb.2.1) (λo x ho=>by
  have hlt:=(BE.1 ho).1;have ho1:H1[o]?=some (some x):=by rw[hpre o hlt];exact ho
  have hμ:G'.μ o=G.μ o:=hE.μ o (by rw[hH.n];exact hlt);refine⟨?_,hX.live o x ho1,λo' x' hge ho' he=>?_⟩
  ·show G.L (G'.μ o).1
   rw[hμ];exact hH.live o x ho
  ·have:=hX.inj o o' x x' ho1 ho' he
   omega)
 have hE2:Evo G (Cfg.less {G' with n:=H.length} L2):=⟨hE.os,hE.tape,hE.output,hE.size,λk hk hL=>⟨(hE.keep k hk hL).1,λhh=>hL hh.1⟩,by show G.n≤H.length;rw[hH.n];exact Ah9 _,λo ho=>hE.μ o ho,hE.K⟩;have hK:HR G' (old H.length H1):=hX.fewer (by unfold old;simp;omega) λo x ho=>(uB ho).2
 refine⟨r',H,Cfg.less {G' with n:=H.length} L2,v,rfl,rfl,hE2,?_,hF2,hr',rfl⟩;refine cM (G':=G') (G'':=Cfg.less {G' with n:=H.length} L2) rfl (λb hn hh=>hn (hh.imp (λh=>h.2.1) id)) hK ?_ n r v r' hx hf;intro o x ho hh;obtain⟨h1,h2⟩:=uB ho;rcases hh with hh | hh
 ·exact hh.2.2 o x h1 h2 rfl
 ·exact hX.dis _ (hX.live o x h2) hh
end
end
section
abbrev eK:=List Nm×List Nd
structure StS where
 cap:Int
 now:eK
 kept:eK
 pend:List OpM
 made:Int
 armed:Int
 off:Bool
def SQ (room:Int):StS:=⟨min (max room 0) 4096,([],[]),([],[]),[],0,-1,false⟩
def wt (o:OpM):Nat:=1+o.b.length+if o.kind=4 then 4098 else 0
def LL (l:List OpM):Nat:=(l.map wt).sum
theorem zdjlZ {o:OpM}{d:Nd}{c:Lv}(h:GZ o d=some c):c.2.length≤d.l.length+wt o:=by
 have h4:=tF (o:=o) (d:=d);rw[h]at h4;simp only[cL,Ap6]at h4;unfold wt
 by_cases c4:o.kind=4
 ·rw[if_pos c4];omega
 ·rw[if_neg c4]
  unfold GZ at h;split at h
  ·unfold Dx at h
   split at h
   ·injection h with h
    subst h
    split
    ·simp
    ·have:=eF (bs:=o.b) (l:=d.l) (p:=o.pos)
     simp only;omega
   ·cases h
  ·split at h
   ·unfold Cl at h
    split at h
    ·injection h with h
     subst h;simp only[Fg,PG,Aj1];exact Aj0 (An5 _ _) (by omega)
    ·cases h
   ·split at h
    ·unfold CM at h
     split at h
     ·injection h with h
      subst h;simp only[Fr,PG,Aj1];exact Aj0 (An5 _ _) (by omega)
     ·cases h
    ·cases h
def Few1 (M:Nat)(i:eK):Prop:=MayW i.1 i.2∧∀d∈i.2,d.l.length≤M
theorem oY {ns:List Nm}{ds:List Nd}{s:List UInt8}{d:Nd}(h:d∈ZL ns ds s):d∈ds:=by
 unfold ZL at h;split at h
 ·exact delK_sub.subset h
 ·exact h
theorem Few1.step {M:Nat}{i:eK}(h:Few1 M i)(o:OpM):Few1 (M+wt o) (Bi i.1 i.2 o):=by
 refine⟨yU h.1 o,λd hd=>?_⟩;have old:d∈i.2→d.l.length≤M+wt o:=λhd=>Aj0 (h.2 d hd) (by omega)
 unfold Bi at hd;rw[if_pos (PS.2 h.1)]at hd;split at hd
 ·split at hd
  ·rcases Kd.1 hd with rfl | hd
   ·simp
   ·exact old hd
  ·exact old hd
 ·split at hd
  ·rcases dI h.1.sd hd with hd | ⟨-,e,he,-,hc⟩
   ·exact old hd
   ·have:=zdjlZ hc
    have:=h.2 e he
    simp only at*;omega
  ·split at hd
   ·split at hd
    ·exact old (oY hd)
    ·exact old hd
   ·split at hd
    ·exact old (oY hd)
    ·exact old hd
theorem Few1.mono {M M':Nat}{i:eK}(h:Few1 M i)(hm:M≤M'):Few1 M' i:=⟨h.1,λd hd=>Aj0 (h.2 d hd) hm⟩
theorem MayW.len2 {ns:List Nm}{ds:List Nd}(h:MayW ns ds):ds.length≤16:=by
 have:=(PS.2 h).2.1
 have:=h.len
 omega
theorem Few1.sm {M:Nat}{i:eK}(h:Few1 M i)(hm:M≤1000000):Sm i.1 i.2:=
 ⟨by have:=h.1.len;omega,by have:=h.1.len2;omega,λx hx=>by have:=(h.1.nm x hx).1.2.1;omega,λd hd=>Aj0 (h.2 d hd) hm⟩
def lV (o:OpM):Prop:=o.b.length≤5000∧o.name.length≤20∧o.to.length≤20
structure SW (N:Nat)(s:StS):Prop where
 now:Few1 N s.now
 kept:∃a,Few1 a s.kept∧a+LL s.pend≤N
 ob:∀o∈s.pend,lV o
 made:0≤s.made∧s.made≤N
 cap:0≤s.cap∧s.cap≤4096
 armed: -1≤s.armed∧s.armed≤9223372036854775807
theorem lU {l:List OpM}:l.length≤LL l:=by
 unfold LL
 induction l with
 | nil=>simp
 | cons o l ih=>simp only[Ao8,List.sum_cons,Al9];unfold wt at*;omega
theorem XW {l:List OpM}{o:OpM}:LL (l++[o])=LL l+wt o:=by simp[LL]
theorem SW.plen {N:Nat}{s:StS}(h:SW N s):s.pend.length≤N:=by
 obtain⟨a,-,h2⟩:=h.kept
 have:=lU (l:=s.pend)
 omega
theorem SW.mono {N N':Nat}{s:StS}(h:SW N s)(hn:N≤N'):SW N' s:=
 ⟨h.now.mono hn,by obtain⟨a,h1,h2⟩:=h.kept;exact⟨a,h1,by omega⟩,h.ob,by have:=h.made;omega,h.cap,h.armed⟩
theorem oE:MayW [] []:=⟨by simp,by simp,by simp[Cx],by simp,by simp[Cx],by simp,λi=>by simp[Be]⟩
theorem kQ (room:Int):SW 0 (SQ room):=
 ⟨⟨oE,by simp[SQ]⟩,⟨0,⟨oE,by simp[SQ]⟩,by simp[SQ,LL]⟩,by simp[SQ],by simp[SQ],by simp[SQ];omega,by simp[SQ]⟩
def A9 (s:StS):Bool×StS:=
 if s.off=true∨s.armed=0 then(false,{s with off:=true})
 else if 0<s.armed then(true,{s with armed:=s.armed - 1})
 else(true,s)
def HX (s:StS)(o:OpM):Int×StS:=
 if(A9 s).1=true then(0,{(A9 s).2 with now:=Bi s.now.1 s.now.2 o,pend:=s.pend++[o]})else(8,(A9 s).2)
theorem ZV {N:Nat}{s:StS}(h:SW N s):SW N (A9 s).2:=by
 unfold A9
 split
 ·exact⟨h.now,h.kept,h.ob,h.made,h.cap,h.armed⟩
 ·split
  ·exact⟨h.now,h.kept,h.ob,h.made,h.cap,by have:=h.armed;simp only;omega⟩
  ·exact h
theorem Fa (s:StS):(A9 s).2.now=s.now∧(A9 s).2.kept=s.kept∧(A9 s).2.pend=s.pend∧(A9 s).2.made=s.made∧(A9 s).2.cap=s.cap:=by
 unfold A9
 split
 ·exact⟨rfl,rfl,rfl,rfl,rfl⟩
 ·split<;>exact⟨rfl,rfl,rfl,rfl,rfl⟩
theorem WH {N:Nat}{s:StS}{o:OpM}(h:SW N s)(ho:lV o):SW (N+wt o) (HX s o).2:=by
 have hd:=ZV h;obtain⟨e1,e2,e3,e4,e5⟩:=Fa s;unfold HX
 split
 ·obtain⟨a,h1,h2⟩:=h.kept
  refine⟨h.now.step o,⟨a,by simp only[e2];exact h1,by simp only[XW];omega⟩,?_,by simp only[e4];have:=h.made;omega,by simp only[e5];exact h.cap,hd.armed⟩;intro x hx;simp only[Ab3]at hx;rcases hx with hx | rfl
  ·exact h.ob x hx
  ·exact ho
 ·exact hd.mono (by omega)
structure StC (s:StS)(os:Nat)(a b c d p:AV)(pv:List OpV)(H:AH):Prop where
 obj:H[os]?=some (some (.cells [I s.cap,a,b,c,d,p,I s.made,I s.armed,B s.off]))
 now:ImV s.now.1 s.now.2 (.agg [a,b])
 kept:ImV s.kept.1 s.kept.2 (.agg [c,d])
 pm:pv.map OpV.o=s.pend
 ps:Ac H 8 p=some (pv.flatMap I3,pv.length)
 po:AZ p=true
 pi:os∉AM p
 pc:CS p pv.length
def StAt (s:StS)(os:Nat)(p:AV)(H:AH):Prop:=∃a b c d pv,StC s os a b c d p pv H
structure StF (os:Nat)(p p':AV)(H H':AH):Prop where
 len:H.length≤H'.length
 same:∀j,j<H.length→j≠os→j∉AM p→H'[j]?=H[j]?
 ids:∀j∈AM p',j∈AM p∨H.length≤j
theorem StF.refl (os:Nat)(p:AV)(H:AH):StF os p p H H:=⟨Ah9 _,λ_ _ _ _=>rfl,λ_ h=>.inl h⟩
theorem StF.trans {os:Nat}{p p' p'':AV}{A B C:AH}(h:StF os p p' A B)(k:StF os p' p'' B C):StF os p p'' A C:=
  ⟨Aj0 h.len k.len,λj hj hne hp=>by
    rw[k.same j (Ak8 hj h.len) hne (λhp'=>(h.ids j hp').elim hp (λq=>by omega)),h.same j hj hne hp],
   λj hj=>(k.ids j hj).elim (h.ids j) (λq=>.inr (Aj0 h.len q))⟩
theorem StF.of_grew {os:Nat}{p:AV}{H H':AH}(g:Grew H H'):StF os p p H H':=⟨g.1,λj hj _ _=>g.2 j hj,λ_ h=>.inl h⟩
theorem StF.grew {os:Nat}{p p':AV}{H H' H'':AH}(h:StF os p p' H H')(g:Grew H' H''):StF os p p' H H'':=h.trans (.of_grew g)
theorem StC.lt {s:StS}{os:Nat}{a b c d p:AV}{pv:List OpV}{H:AH}(h:StC s os a b c d p pv H):os<H.length:=(BE.1 h.obj).1
theorem StC.grew {s:StS}{os:Nat}{a b c d p:AV}{pv:List OpV}{H H':AH}(h:StC s os a b c d p pv H)(g:Grew H H'):StC s os a b c d p pv H':=
 ⟨g.cells h.obj,h.now,h.kept,h.pm,g.slice h.ps,h.po,h.pi,h.pc⟩
theorem StAt.grew {s:StS}{os:Nat}{p:AV}{H H':AH}(h:StAt s os p H)(g:Grew H H'):StAt s os p H':=by
 obtain⟨a,b,c,d,pv,h⟩:=h;exact⟨a,b,c,d,pv,h.grew g⟩
theorem StC.set {s s':StS}{os:Nat}{a b c d a' b' c' d' p:AV}{pv:List OpV}{H:AH}(h:StC s os a b c d p pv H)(hn:ImV s'.now.1 s'.now.2 (.agg [a',b']))(hk:ImV s'.kept.1 s'.kept.2 (.agg [c',d']))(hp:s'.pend=s.pend):
  StC s' os a' b' c' d' p pv (H.set os (some (.cells [I s'.cap,a',b',c',d',p,I s'.made,I s'.armed,B s'.off])))∧StF os p p H (H.set os (some (.cells [I s'.cap,a',b',c',d',p,I s'.made,I s'.armed,B s'.off]))):=by
 refine⟨⟨JY h.lt,hn,hk,by rw[hp];exact h.pm,Ae h.ps λi q=>Cc (λe=>h.pi (by rw[e];exact q)),h.po,h.pi,h.pc⟩,by simp,λj _ hne _=>Cc (Aj4 hne),λ_ q=>.inl q⟩
theorem ImV.agg2 {ns:List Nm}{ds:List Nd}{v:AV}(h:ImV ns ds v):∃a b,v=.agg [a,b]∧oneA a=true∧oneA b=true:=by
 obtain⟨a,b,dv,rfl,h1,h2,-⟩:=h;exact⟨a,b,rfl,SV.oneA h1,SV.oneA h2⟩
theorem eJ {H:AH}{os k:Nat}{cs:List AV}{x:AV}(h:H[os]?=some (some (.cells cs)))(hk:k<cs.length)(hx:oneA x=true):AP 1 H (.ptr os k) x=some (H.set os (some (.cells (cs.set k x)))):=by
 rw[AK (n:=1) (xs:=[x]) (cs:=cs) (Bs hx) h rfl hk];rfl
theorem dS (x y:AV):Ax true 2 [x,y] 0=some (.agg [x,y]):=rfl
theorem Y8 (H:AH):AC H (.agg [(I 0),Ad])=some (.ptr H.length 0,H++[some (.cells [I 0,Ad])]):=by simp
theorem HU (H:AH)(s:Int){R:AV}(hR:oneA R=true):AP 2 (H++[some (.cells [I 0,Ad])]) (.ptr H.length 0) (.agg [I s,R])=some (H++[some (.cells [I s,R])]):=by
 rw[AK (n:=2) (xs:=[I s,R]) (cs:=[I 0,Ad]) (by simp[hR]) (by simp) rfl (by simp)];simp[Bm]
theorem Dk {H:AH}{x:AObj}:(H++[some x])[H.length]?=some (some x):=by simp
abbrev Au1:=@Int.max_comm
theorem zdhrZ (room:Int)(H:AH)(hr:room≤9223372036854775807):∃r H',(∃p,r=.ptr H.length 0∧H'.length=H.length+1∧StAt (SQ room) H.length p H'∧Grew H H'∧AM p=[])∧BCall prog 11 [I room] H r H':=lN (by
 unfold iO;have e1:amm XX [I room,(I 0)]=some (I (max room 0)):=by rw[LD,Yx,Au1]
 have e2:amm Zn [I (max room 0),(I 4096)]=some (I (min (max room 0) 4096)):=by rw[LD,rC,Int.min_comm]
 have e3:En [(I 0),Ad,Ad,Ad,Ad,Ad,(I 0),(I 0),(B false)] [(0,1,I (min (max room 0) 4096)),(7,1,(I (-1)))]=some (.agg [I (min (max room 0) 4096),Ad,Ad,Ad,Ad,Ad,I 0,I (-1),B false]):=rfl;have e4:AC H (.agg [I (min (max room 0) 4096),Ad,Ad,Ad,Ad,Ad,I 0,I (-1),B false])=some (.ptr H.length 0,H++[some (.cells [I (min (max room 0) 4096),Ad,Ad,Ad,Ad,Ad,I 0,I (-1),B false])]):=by simp
 rw[e1,Aa,e2,Aa,e3,Aa,e4,A6];have hI:ImV [] [] (.agg [Ad,Ad]):=⟨Ad,Ad,[],rfl,SV.nil,SV.nil,rfl⟩;exact⟨Ad,rfl,by simp,⟨Ad,Ad,Ad,Ad,[],⟨Dk,hI,hI,rfl,rfl,rfl,by simp[AM],by simp[CS]⟩⟩,Grew.app _ _,rfl⟩)
abbrev Ab5:=And.intro @Aa @Ab4
abbrev Af4:=And.intro @Aa9 @Ab5
abbrev Ah5:=And.intro @A4 @Af4
theorem zdmeZ {s:StS}{os:Nat}{p:AV}{H:AH}(h:StAt s os p H):BCall prog 27 [.ptr os 0] H (B s.off) H:=by
 obtain⟨r,H',⟨rfl,rfl⟩,hc⟩:=Wy (a0:=.ptr os 0) (H:=H) (K:=λr H'=>r=B s.off∧H'=H) (by
  obtain⟨a,b,c,d,pv,h⟩:=h;unfold SG;simp only[Ah5,Ai h.obj];exact⟨by trivial,by trivial⟩)
 exact hc
def mR (s:StS)(n:Int):StS:={s with armed:=max n (-1)}
theorem yV {N:Nat}{s:StS}(h:SW N s){n:Int}(hn:n≤9223372036854775807):SW N (mR s n):=⟨h.now,h.kept,h.ob,h.made,h.cap,by simp only[mR];omega⟩
theorem zdhoZ {s:StS}{os:Nat}{p:AV}{H:AH}(h:StAt s os p H)(n:Int):∃r H',(r=.tup []∧StAt (mR s n) os p H'∧StF os p p H H')∧BCall prog 15 [.ptr os 0,I n] H r H':=Ww (by
 obtain⟨a,b,c,d,pv,h⟩:=h;unfold SE;have e1:amm XX [I n,(I (-1))]=some (I (max n (-1))):=by rw[LD,Yx,Au1]
 obtain⟨h2,h3⟩:=h.set (s':=mR s n) h.now h.kept rfl;have e2:AP 1 H (.ptr os 7) (I (max n (-1)))=some (H.set os (some (.cells [I s.cap,a,b,c,d,p,I s.made,I (max n (-1)),B s.off]))):=eJ h.obj (by simp) rfl;simp only[e1,Aa,A4,At,e2,AF];exact⟨by trivial,⟨a,b,c,d,pv,h2⟩,h3⟩)
abbrev Aa0:=And.intro @A8 @beq_self_eq_true.{0}
abbrev Ab0:=And.intro @Aa6 @Aa9
abbrev Ac2:=And.intro @A2 @Aa0
abbrev Af8:=And.intro @A2 @Aa6
abbrev Ag7:=And.intro @Af8 @if_true.{1}
abbrev Ah1:=And.intro @A4 (And.intro @Ab0 @Ab4)
theorem zP {s:StS}{os:Nat}{p:AV}{H:AH}(h:StAt s os p H)(hb: -1≤s.armed∧s.armed≤9223372036854775807):∃r H',(r=B (A9 s).1∧StAt (A9 s).2 os p H'∧StF os p p H H')∧BCall prog 94 [.ptr os 0] H r H':=Vq (by
 obtain⟨a,b,c,d,pv,h⟩:=h;unfold Ru;simp only[Ah5,Ai h.obj,AU]
 have stop:s.off=true∨s.armed=0→bS (AP 1 H (.ptr os 8) (B true)) λH17=>B false=B (A9 s).1∧StAt (A9 s).2 os p H17∧StF os p p H H17:=by
  intro hc;have e:A9 s=(false,{s with off:=true}):=by unfold A9;rw[if_pos hc]
  rw[e];obtain⟨h2,h3⟩:=h.set (s':={s with off:=true}) h.now h.kept rfl;have e2:AP 1 H (.ptr os 8) (B true)=some (H.set os (some (.cells [I s.cap,a,b,c,d,p,I s.made,I s.armed,B true]))):=eJ h.obj (by simp) rfl;simp only[e2,AF];exact⟨by trivial,⟨a,b,c,d,pv,h2⟩,h3⟩
 cases ho:s.off with
 | true=>
  simp only[show((true==false)=false)from rfl,BY,Ag7,As];exact stop (.inl ho)
 | false=>
  simp only[Ac2,Ah1,Ai h.obj,BJ,An]
  by_cases h0:s.armed=0
  ·simp only[h0,Ad1]
   exact stop (.inr h0)
  ·simp only[h0,Ab7,Du]
   have hn:¬(s.off=true∨s.armed=0):=by rintro(q | q);rw[ho]at q;cases q;exact h0 q
   by_cases hp:0<s.armed
   ·have e:A9 s=(true,{s with armed:=s.armed - 1}):=by unfold A9;rw[if_neg hn,if_pos hp]
    rw[e];obtain⟨h2,h3⟩:=h.set (s':={s with armed:=s.armed - 1}) h.now h.kept rfl;have e1:Ar .sub (I s.armed) (I 1)=some (I (s.armed - 1)):=B2 (by omega) (by omega);have e2:AP 1 H (.ptr os 7) (I (s.armed - 1))=some (H.set os (some (.cells [I s.cap,a,b,c,d,p,I s.made,I (s.armed - 1),B s.off]))):=eJ h.obj (by simp) rfl;simp only[hp,CL,e1,Aa,e2,AF];rw[KC];unfold GA;exact⟨rfl,⟨a,b,c,d,pv,h2⟩,h3⟩
   ·have e:A9 s=(true,s):=by unfold A9;rw[if_neg hn,if_neg hp]
    rw[e];simp only[hp,Dd];rw[KC];unfold GA;exact⟨rfl,⟨a,b,c,d,pv,h⟩,.refl _ _ _⟩)
theorem zdfhZ (c a b d e f g h i:AV):Ax true 2 [c,a,b,d,e,f,g,h,i] 1=some (.agg [a,b])∧Ax true 2 [c,a,b,d,e,f,g,h,i] 3=some (.agg [d,e]):=⟨rfl,rfl⟩
theorem zdowZ {H:AH}{os:Nat}{x0 x1 x2 x3 x4 x5 x6 x7 x8 a b:AV}(h:H[os]?=some (some (.cells [x0,x1,x2,x3,x4,x5,x6,x7,x8])))(ha:oneA a=true)(hb:oneA b=true):
  AP 2 H (.ptr os 1) (.agg [a,b])=some (H.set os (some (.cells [x0,a,b,x3,x4,x5,x6,x7,x8])))∧AP 2 H (.ptr os 3) (.agg [a,b])=some (H.set os (some (.cells [x0,x1,x2,a,b,x5,x6,x7,x8]))):=by
 constructor
 ·rw[AK (n:=2) (off:=1) (xs:=[a,b]) (by simp[ha,hb]) h rfl (by simp)];rfl
 ·rw[AK (n:=2) (off:=3) (xs:=[a,b]) (by simp[ha,hb]) h rfl (by simp)];rfl
theorem Wf {s:StS}{os:Nat}{a b c d p:AV}{pv:List OpV}{H:AH}(h:StC s os a b c d p pv H):∀j∈AM p,j<H.length:=λj q=>Az h.ps j q
abbrev Aa2:=And.intro @Aa @Bool.not_true
abbrev Aa5:=And.intro @As @Bool.not_false
abbrev Ae9:=And.intro @Aa2 @Ak
theorem qS {N:Nat}{s:StS}{os:Nat}{p bv:AV}{H:AH}{o:OpM}(h:StAt s os p H)(hw:SW N s)(hN:N≤900000)(hb:SV FB 1 o.b bv)(ho:lV o):
  ∃r H',(r=I (HX s o).1∧∃p',StAt (HX s o).2 os p' H'∧StF os p p' H H')∧BCall prog 59 [.ptr os 0,.agg (BD o bv)] H r H':=XM (by
 have h0:=h;obtain⟨a0,b0,c0,d0,pv0,hc0⟩:=h;unfold U0;have obv:=SV.oneA hb;have e1:AC H (.agg (BD o bv))=some (.ptr H.length 0,H++[some (.cells (BD o bv))]):=by simp[BD,obv]
 have g:=Grew.app H [some (.cells (BD o bv))];obtain⟨r,H3,⟨rfl,h3,f3⟩,hc⟩:=zP (h0.grew g) hw.armed;rw[e1,A6];refine bC_of hc ?_;have sm:=hw.now.sm (by omega);obtain⟨q1,q2,q3,q4,q5⟩:=Fa s;simp only[Bj,Aa6];cases hd:(A9 s).1 with
 | false=>
  have e:HX s o=(8,(A9 s).2):=by unfold HX;rw[if_neg (by rw[hd];simp)]
  rw[e];simp only[Aa5];exact⟨by trivial,p,h3,(StF.of_grew g).trans f3⟩
 | true=>
  have e:HX s o=(0,{(A9 s).2 with now:=Bi s.now.1 s.now.2 o,pend:=s.pend++[o]}):=by unfold HX;rw[if_pos hd]
  rw[e];have hos:os<H.length:=hc0.lt;have hid:=Wf hc0;obtain⟨a,b,c,d,pv,h3⟩:=h3
  have c3:H3[H.length]?=some (some (.cells (BD o bv))):=by
   rw[f3.same H.length (by simp) (by omega) (λq=>by have:=hid _ q;omega)];exact Dk
  obtain⟨R,hR,hp⟩:=iT (o:=o) (bv:=bv) h3.now (by rw[q1];exact sm) hb (by have:=ho.1;omega) (by have:=ho.2.1;omega) (by have:=ho.2.2;omega);rw[q1]at hR;obtain⟨a',b',rfl,oa,ob⟩:=hR.agg2;have rd8:Ax true 8 (BD o bv) 0=some (.agg (BD o bv)):=rfl;simp only[Ae9,A4,At,Ai h3.obj,(zdfhZ _ _ _ _ _ _ _ _ _).1,Ai c3,rd8];refine bP_of hp ?_;obtain⟨h4,f4⟩:=h3.set (s':={(A9 s).2 with now:=Bi s.now.1 s.now.2 o}) hR h3.kept rfl;simp only[(zdowZ h3.obj oa ob).1,AF];have c4:(H3.set os (some (AObj.cells [I (A9 s).2.cap,a',b',c,d,p,I (A9 s).2.made,I (A9 s).2.armed,B (A9 s).2.off])))[H.length]?=some (some (.cells (BD o bv))):=by rw[Cc (by omega)];exact c3
  simp only at h4 f4;generalize hH4:H3.set os (some (AObj.cells [I (A9 s).2.cap,a',b',c,d,p,I (A9 s).2.made,I (A9 s).2.armed,B (A9 s).2.off]))=H4 at*
  have e6:Qo 8 1 (B4 [(I 0),(I 0),(I 0),(I 0),(B false),(.lit (.string ⟨#[]⟩)),(.lit (.string ⟨#[]⟩)),Ad] 1) [(0,8,.agg (BD o bv))]=some (.imm (I3 ⟨o,bv,hb⟩) 1 8):=by
   simp[Qo,B4,I3,BD,N6,obv,Bm]
  have x1:Bu H4 8 (.imm (I3 ⟨o,bv,hb⟩) 1 8)=some (I3 ⟨o,bv,hb⟩,1):=A1 (by simp[Ac,I3,BD]);have hpl:pv.length=s.pend.length:=by rw[← q3,← h3.pm,Aj1]
  have hplN:=hw.plen;obtain⟨r,H5,a1,a2,a3,a4,a5,a6⟩:=BX (bytes:=96) h4.ps h4.po x1 (by omega);have a7:=RB h4.ps h4.po x1 h4.pc a1;have c5:H5[os]?=some (some (.cells [I (A9 s).2.cap,a',b',c,d,p,I (A9 s).2.made,I (A9 s).2.armed,B (A9 s).2.off])):=by rw[a5 os h4.lt h4.pi];exact h4.obj
  have hor:os∉AM r:=λq=>(a6 os q).elim h4.pi (λq=>by have:=h4.lt;omega)
  have e7:AP 1 H5 (.ptr os 5) r=some (H5.set os (some (.cells [I (A9 s).2.cap,a',b',c,d,r,I (A9 s).2.made,I (A9 s).2.armed,B (A9 s).2.off]))):=eJ c5 (by simp) (AD a2);simp only[Ai h4.obj,Ah2,Aa9,Ai c4,rd8,e6,a1,Ae5,e7];have hl5:os<H5.length:=(BE.1 c5).1;refine⟨by trivial,r,⟨a',b',c,d,pv++[⟨o,bv,hb⟩],⟨JY hl5,hR,h3.kept,?_,?_,a2,hor,by simpa using a7⟩⟩,?_⟩
  ·rw[Ak2,h3.pm,q3];rfl
  ·have:=Ae a3 (H':=H5.set os (some (.cells [I (A9 s).2.cap,a',b',c,d,r,I (A9 s).2.made,I (A9 s).2.armed,B (A9 s).2.off]))) λi q=>Cc (λe=>hor (by rw[e];exact q))
   simpa using this
  ·have f5:StF os p r H4 (H5.set os (some (.cells [I (A9 s).2.cap,a',b',c,d,r,I (A9 s).2.made,I (A9 s).2.armed,B (A9 s).2.off]))):=⟨by simpa using a4,λj hj hne hjp=>by rw[Cc (Aj4 hne),a5 j hj hjp],a6⟩
   exact((StF.of_grew g).trans f3).trans (f4.trans f5))
theorem zdmdZ {N:Nat}{s:StS}{os:Nat}{p:AV}{H:AH}(h:StAt s os p H)(hw:SW N s)(hN:N≤900000):∃R,ImV s.now.1 s.now.2 R∧∃r H',(r=R∧Grew H H')∧BCall prog 21 [.ptr os 0] H r H':=by
 obtain⟨a,b,c,d,pv,h⟩:=h;obtain⟨R,hR,hp⟩:=pP h.now (hw.now.sm (by omega));refine⟨R,hR,Wx ?_⟩;unfold SF;obtain⟨a',b',rfl,oa,ob⟩:=hR.agg2;have e1:AC H (.agg [Ad,Ad])=some (.ptr H.length 0,H++[some (.cells [Ad,Ad])]):=by simp
 have g:=Grew.app H [some (.cells [Ad,Ad])]
 have e2:AP 2 (H++[some (.cells [Ad,Ad])]) (.ptr H.length 0) (.agg [a',b'])=some (H++[some (.cells [a',b'])]):=by
  rw[AK (n:=2) (xs:=[a',b']) (cs:=[Ad,Ad]) (by simp[oa,ob]) (by simp) rfl (by simp)];simp[Bm]
 simp only[e1,A6,A4,Aa,At,Ai (g.cells h.obj),(zdfhZ _ _ _ _ _ _ _ _ _).1];refine Ay hp ?_;simp only[e2,AF,Ai Dk,dS,Aa];exact⟨by trivial,Grew.app _ _⟩
def LV (s:StS):Int:=max 0 (s.cap - LC s.now.2)
theorem pH {M:Nat}{i:eK}(h:Few1 M i):LC i.2≤16*M:=by
 have h1:=lP h.2;have h2:=h.1.len2;exact Aj0 h1 (Ai7 _ h2)
theorem pQ {N:Nat}{s:StS}{os:Nat}{p:AV}{H:AH}(h:StAt s os p H)(hw:SW N s)(hN:N≤900000):BCall prog 32 [.ptr os 0] H (I (LV s)) H:=by
 obtain⟨r,H',⟨rfl,rfl⟩,hc⟩:=Vk (a0:=.ptr os 0) (H:=H) (K:=λr H'=>r=I (LV s)∧H'=H) (by
  obtain⟨a,b,c,d,pv,h⟩:=h;unfold Rl;have hu:=zditZ h.now (hw.now.sm (by omega));rw[uW hw.now.1]at hu;have hs:=pH hw.now;have hcap:=hw.cap;have e1:Ar .sub (I s.cap) (I (LC s.now.2:Int))=some (I (s.cap - LC s.now.2)):=B2 (by omega) (by omega);have e2:amm XX [(I 0),I (s.cap - LC s.now.2)]=some (I (LV s)):=by rw[LD,Yx,Au1];rfl
  simp only[A4,Ab5,Ai h.obj,C1,(zdfhZ _ _ _ _ _ _ _ _ _).1];refine bP_of hu ?_;simp only[e1,Aa,e2];exact⟨by trivial,by trivial⟩)
 exact hc
def Aq (s:StS)(ino:Int):Lv×Int:=
 if s.off=true then((0,[]),8)else if Yr s.now.1 s.now.2 ino then(((Fc s.now.1 s.now.2 ino).size,(Fc s.now.1 s.now.2 ino).l),0)else((0,[]),3)
abbrev Ab8:=And.intro @Ab0 @Ao
abbrev Ac4:=And.intro @Aa9 @Ao
abbrev Ag0:=And.intro @Ae9 @Aj
abbrev Ag5:=And.intro @Ag0 @Bj
abbrev Ag9:=And.intro @Aa5 @Bj
theorem Ju {N:Nat}{s:StS}{os:Nat}{p:AV}{H:AH}(h:StAt s os p H)(hw:SW N s)(hN:N≤900000)(ino:Int):
  ∃R,SV AB 9 (Aq s ino).1.2 R∧∃r H',(r=.tup [.agg [I (Aq s ino).1.1,R],I (Aq s ino).2]∧Grew H H')∧BCall prog 85 [.ptr os 0,I ino] H r H':=by
 obtain⟨a,b,c,d,pv,h⟩:=h;have e0:En [(I 0),Ad] []=some (.agg [I 0,Ad]):=rfl;have g:=Grew.app H [some (.cells [I 0,Ad])];cases ho:s.off with
 | true=>
  have e:Aq s ino=((0,[]),8):=by unfold Aq;rw[if_pos ho]
  rw[e];refine⟨Ad,SV.nil,Ga ?_⟩;unfold Fo;simp only[Y8,Ae5,Ah1,Ai (g.cells h.obj),ho,As,e0,HU H 0 (R:=Ad) rfl,Ai Dk,dS];exact⟨by trivial,Grew.app _ _⟩
 | false=>
  have sm:=hw.now.sm (by omega);obtain⟨R,hR,hp⟩:=zdlzZ h.now sm ino;have oR:=SV.oneA hR
  by_cases hg:Yr s.now.1 s.now.2 ino
  ·have e:Aq s ino=(((Fc s.now.1 s.now.2 ino).size,(Fc s.now.1 s.now.2 ino).l),0):=by unfold Aq;rw[if_neg (by rw[ho];simp),if_pos hg]
   rw[e];refine⟨R,hR,Ga ?_⟩;unfold Fo;simp only[Y8,A6,Ah1,Ai (g.cells h.obj),ho,Ak,(zdfhZ _ _ _ _ _ _ _ _ _).1];refine Ay hp ?_;have g2:=Grew.app (H++[some (AObj.cells [I 0,Ad])]) [some (AObj.cells [I (Fc s.now.1 s.now.2 ino).size,R])]
   have e5:AP 2 (H++[some (AObj.cells [I 0,Ad])]++[some (AObj.cells [I (Fc s.now.1 s.now.2 ino).size,R])]) (.ptr H.length 0) (.agg [I (Fc s.now.1 s.now.2 ino).size,R])=some (H++[some (AObj.cells [I (Fc s.now.1 s.now.2 ino).size,R])]++[some (AObj.cells [I (Fc s.now.1 s.now.2 ino).size,R])]):=by
    rw[AK (n:=2) (xs:=[I (Fc s.now.1 s.now.2 ino).size,R]) (cs:=[I 0,Ad]) (by simp[oR]) (g2.cells Dk) rfl (by simp)];simp[Bm]
   have g3:=Grew.app (H++[some (AObj.cells [I (Fc s.now.1 s.now.2 ino).size,R])]) [some (AObj.cells [I (Fc s.now.1 s.now.2 ino).size,R])];simp only[Ac4,Ag5,HU _ _ oR,AF,hg,CL,Ai Dk,dS,e5,Ai (g3.cells Dk)];exact⟨by trivial,(Grew.app H _).trans g3⟩
  ·have e:Aq s ino=((0,[]),3):=by unfold Aq;rw[if_neg (by rw[ho];simp),if_neg hg]
   rw[e];refine⟨Ad,SV.nil,Ga ?_⟩;unfold Fo;simp only[Y8,A6,Ah1,Ai (g.cells h.obj),ho,Ak,(zdfhZ _ _ _ _ _ _ _ _ _).1];refine Ay hp ?_;have g2:=Grew.app (H++[some (AObj.cells [I 0,Ad])]) [some (AObj.cells [I (Fc s.now.1 s.now.2 ino).size,R])]
   have e5:AP 2 (H++[some (AObj.cells [I 0,Ad])]++[some (AObj.cells [I (Fc s.now.1 s.now.2 ino).size,R])]) (.ptr H.length 0) (.agg [I 0,Ad])=some (H++[some (AObj.cells [I 0,Ad])]++[some (AObj.cells [I (Fc s.now.1 s.now.2 ino).size,R])]):=by
    rw[AK (n:=2) (xs:=[I 0,Ad]) (cs:=[I 0,Ad]) rfl (g2.cells Dk) rfl (by simp)];simp[Bm]
   simp only[Ab8,HU _ _ oR,AF,hg,Dd,Ag9,e0,e5,Ai (g2.cells Dk),dS];exact⟨by trivial,g.trans g2⟩
def Ct (s:StS)(name:List UInt8):Int×Int:=
 if s.off=true then(0,8)else if ¬DE name then(0,5)else if Be Nm.name s.now.1 name then(Db s.now.1 name,0)else(0,3)
abbrev Aa1:=And.intro @As @not_false_eq_true
abbrev Aa4:=And.intro @CL @if_true.{1}
abbrev Ab1:=And.intro @Ak @if_false.{1}
abbrev Ad3:=And.intro @Ab1 @not_true_eq_false
theorem qZ {N:Nat}{s:StS}{os:Nat}{p:AV}{H:AH}(h:StAt s os p H)(hw:SW N s)(hN:N≤900000){name:List UInt8}(hn:name.length≤9223372036854775807):
  BCall prog 58 [.ptr os 0,S (B9 name)] H (.tup [I (Ct s name).1,I (Ct s name).2]) H:=by
 obtain⟨r,H',⟨rfl,rfl⟩,hc⟩:=Vr (a0:=.ptr os 0) (a1:=S (B9 name)) (H:=H) (K:=λr H'=>r=.tup [I (Ct s name).1,I (Ct s name).2]∧H'=H) (by
  obtain⟨a,b,c,d,pv,h⟩:=h;unfold Rw;unfold Ct;simp only[Ah1,Ai h.obj];cases ho:s.off with
  | true=>simp only[if_true,As];exact⟨by trivial,by trivial⟩
  | false=>
   simp only[Ak,An];refine Ay (Qn hn) ?_
   by_cases hm:DE name
   ·simp only[hm,CL,Bj,Aa2,Aj,Ad3]
    have hf:=zdilZ h.now (hw.now.sm (by omega)) name;obtain⟨w1,w2⟩:=tK hw.now.1 name;rw[w1,show decide (UW s.now.1 s.now.2 name)=decide (Be Nm.name s.now.1 name)from decide_eq_decide.2 w2]at hf;simp only[Aa,(zdfhZ _ _ _ _ _ _ _ _ _).1];refine Ay hf ?_
    by_cases hk:Be Nm.name s.now.1 name
    ·simp only[Ac4,Ag5,hk,Aa4]
     exact⟨by trivial,by trivial⟩
    ·simp only[Ab8,hk,Dd,Ag9,if_false]
     exact⟨by trivial,by trivial⟩
   ·simp only[hm,Dd,Bj,Ac5,Aa6,Aa1]
    exact⟨by trivial,by trivial⟩)
 exact hc
def DY (name:List UInt8)(i:Int):OpM:=⟨1,i,0,0,false,name,[],[]⟩
def Zx (name to:List UInt8):OpM:=⟨6,0,0,0,false,name,to,[]⟩
def Xz (name:List UInt8):OpM:=⟨7,0,0,0,false,name,[],[]⟩
def Wo (ino size:Int):OpM:=⟨3,ino,0,size,false,[],[],[]⟩
theorem rU (ino size:Int):lV (Wo ino size):=⟨by simp[Wo],by simp[Wo],by simp[Wo]⟩
theorem kZ {name:List UInt8}(h:DE name):lV (Xz name):=⟨by simp[Xz],h.2.1,by simp[Xz]⟩
def Bq (s:StS)(name:List UInt8)(make:Bool):(Int×Int)×StS:=
 if(Ct s name).2≠3∨make=false then(Ct s name,s)
 else if 16≤s.now.1.length then((0,4),s)
 else if(HX s (DY name (s.made+1))).1≠0 then((0,(HX s (DY name (s.made+1))).1),(HX s (DY name (s.made+1))).2)
 else((s.made+1,0),{(HX s (DY name (s.made+1))).2 with made:=s.made+1})
theorem tL {s:StS}{name:List UInt8}(h:(Ct s name).2=3):DE name∧¬Be Nm.name s.now.1 name∧s.off=false:=by
 unfold Ct at h;split at h
 ·simp at h
 ·split at h
  ·simp at h
  ·split at h
   ·simp at h
   ·rename_i h1 h2 h3
    exact⟨Aj8 h2,h3,by simpa using h1⟩
theorem kC {s:StS}{name:List UInt8}(h:(Ct s name).2=0):DE name∧Be Nm.name s.now.1 name∧s.off=false∧(Ct s name).1=Db s.now.1 name:=by
 unfold Ct at h⊢;split at h
 ·simp at h
 ·split at h
  ·simp at h
  ·split at h
   ·rename_i h1 h2 h3
    rw[if_neg h1,if_neg h2,if_pos h3];exact⟨Aj8 h2,h3,by simpa using h1,rfl⟩
   ·simp at h
theorem X2 {N:Nat}{s:StS}(h:SW N s)(name:List UInt8)(make:Bool):SW (N+1) (Bq s name make).2:=by
 unfold Bq
 split
 ·exact h.mono (by omega)
 ·rename_i hf
  have hn:DE name:=(tL (Aj8 λq=>hf (.inl q))).1;have ho:lV (DY name (s.made+1)):=⟨by simp[DY],hn.2.1,by simp[DY]⟩;have hd:=WH h ho;have hwt:wt (DY name (s.made+1))=1:=rfl;rw[hwt]at hd
  split
  ·exact h.mono (by omega)
  ·split
   ·exact hd
   ·exact⟨hd.now,hd.kept,hd.ob,by simp only;have:=h.made;omega,hd.cap,hd.armed⟩
abbrev Ab6:=And.intro @Aa1 @ne_eq.{1}
abbrev Ad4:=And.intro @Aa4 @Ab6
abbrev Ad5:=And.intro @Aa @Ac4
abbrev Ag2:=And.intro @Ab7 @Pr
theorem pS {N:Nat}{s:StS}{os:Nat}{p:AV}{H:AH}(h:StAt s os p H)(hw:SW N s)(hN:N<900000){name:List UInt8}(hn:name.length≤9223372036854775807)(make:Bool):
  ∃r H',(r=.tup [I (Bq s name make).1.1,I (Bq s name make).1.2]∧∃p',StAt (Bq s name make).2 os p' H'∧StF os p p' H H')∧BCall prog 13 [.ptr os 0,S (B9 name),B make] H r H':=Vn (by
 unfold Rp;refine bC_of (qZ h hw (by omega) hn) ?_;have hmade:=hw.made;simp only[Ad5,B6,AU]
 by_cases h3:(Ct s name).2=3
 ·obtain⟨hm,hk,hoff⟩:=tL h3
  simp only[h3,Pr,Dd,Ac2,Aa6,Bj,An];cases make with
  | false=>
   have e:Bq s name false=(Ct s name,s):=by unfold Bq;rw[if_pos (.inr rfl)]
   rw[e];simp only[Aa5];exact⟨by rw[h3],p,h,.refl _ _ _⟩
  | true=>
   have hn0:¬((Ct s name).2≠3∨true=false):=by rintro(q | q);exact q h3;cases q
   have h':=h;obtain⟨a,b,c,d,pv,hc⟩:=h;obtain⟨a',b',dv,eab,sa,sb,-⟩:=hc.now;injection eab with eab;injection eab with ea eb;subst ea;simp only[Ag0,A4,Ab4,Al8,Ai hc.obj,Aa9,sa.len,ZP]
   by_cases h16:16≤s.now.1.length
   ·have h16I:(16:Int)≤(s.now.1.length:Int):=by omega
    have e:Bq s name true=((0,4),s):=by unfold Bq;rw[if_neg hn0,if_pos h16]
    rw[e];simp only[h16I,Ad1];exact⟨by trivial,p,h',.refl _ _ _⟩
   ·have h16I:¬(16:Int)≤(s.now.1.length:Int):=by omega
    have ho:lV (DY name (s.made+1)):=⟨by simp[DY],hm.2.1,by simp[DY]⟩;have e1:Ar .add (I s.made) (I 1)=some (I (s.made+1)):=Au (by omega) (by omega);have e2:En [(I 0),(I 0),(I 0),(I 0),(B false),(.lit (.string ⟨#[]⟩)),(.lit (.string ⟨#[]⟩)),Ad] [(0,1,(I 1)),(5,1,S (B9 name)),(1,1,I (s.made+1))]=some (.agg (BD (DY name (s.made+1)) Ad)):=rfl;simp only[h16I,Ab7,Aa,e1,e2];obtain⟨r,H2,⟨rfl,p2,h2,f2⟩,hcall⟩:=qS (bv:=Ad) h' hw (by omega) SV.nil ho;refine bC_of hcall ?_;simp only[B6,Aa6]
    by_cases hd:(HX s (DY name (s.made+1))).1=0
    ·have e:Bq s name true=((s.made+1,0),{(HX s (DY name (s.made+1))).2 with made:=s.made+1}):=by unfold Bq;rw[if_neg hn0,if_neg h16,if_neg (by rw[hd];simp)]
     rw[e]
     have emade:(HX s (DY name (s.made+1))).2.made=s.made:=by
      obtain⟨-,-,-,q4,-⟩:=Fa s;unfold HX;split<;>exact q4
     obtain⟨a2,b2,c2,d2,pv2,hc2⟩:=h2;obtain⟨h3',f3⟩:=hc2.set (s':={(HX s (DY name (s.made+1))).2 with made:=s.made+1}) hc2.now hc2.kept rfl;have e3:AP 1 H2 (.ptr os 6) (I (s.made+1))=some (H2.set os (some (.cells [I (HX s (DY name (s.made+1))).2.cap,a2,b2,c2,d2,p2,I (s.made+1),I (HX s (DY name (s.made+1))).2.armed,B (HX s (DY name (s.made+1))).2.off]))):=eJ hc2.obj (by simp) rfl;have hob:=hc2.obj;rw[emade]at hob;simp only[hd,Ag2,Ah2,Ai hob,Aa9,e1,e3,AF,Ai h3'.obj];exact⟨by trivial,p2,⟨a2,b2,c2,d2,pv2,h3'⟩,f2.trans f3⟩
    ·have e:Bq s name true=((0,(HX s (DY name (s.made+1))).1),(HX s (DY name (s.made+1))).2):=by unfold Bq;rw[if_neg hn0,if_neg h16,if_pos hd]
     rw[e];simp only[hd,Ab6,CL];exact⟨by trivial,p2,h2,f2⟩
 ·have e:Bq s name make=(Ct s name,s):=by unfold Bq;rw[if_pos (.inl h3)]
  rw[e];simp only[h3,Ad4,show((true==false)=false)from rfl,BY,Af8];exact⟨by trivial,p,h,.refl _ _ _⟩)
def DH (s:StS)(ino size:Int):Int×StS:=
 if(Aq s ino).2≠0 then((Aq s ino).2,s)else if Cl (Aq s ino).1 size=none then(5,s)else HX s (Wo ino size)
theorem XO {N:Nat}{s:StS}(h:SW N s)(ino size:Int):SW (N+1) (DH s ino size).2:=by
 unfold DH
 split
 ·exact h.mono (by omega)
 ·split
  ·exact h.mono (by omega)
  ·exact WH h (rU ino size)
theorem CN {N:Nat}{s:StS}(h:SW N s)(ino:Int):(Aq s ino).1.2.length≤N:=by
 unfold Aq
 split
 ·simp
 ·split
  ·rename_i hg
   obtain⟨d,hd,rfl⟩:=hg.2;rw[(We h.now.1 hd).1];exact h.now.2 d hd
  ·simp
abbrev Ac1:=And.intro @Option.isSome_none.{0} @if_true.{1}
abbrev Ac6:=And.intro @Aa2 @Option.isSome_some.{0}
abbrev Ad0:=And.intro @Ab8 @B6
abbrev Af5:=And.intro @Ab1 @Dd
abbrev Af9:=And.intro (And.intro @Ad0 @Ae5) @Y8
abbrev Ag3:=And.intro @Af5 @Pr
theorem sQ {N:Nat}{s:StS}{os:Nat}{p:AV}{H:AH}(h:StAt s os p H)(hw:SW N s)(hN:N<900000)(ino size:Int):
  ∃r H',(r=I (DH s ino size).1∧∃p',StAt (DH s ino size).2 os p' H'∧StF os p p' H H')∧BCall prog 49 [.ptr os 0,I ino,I size] H r H':=Rt (by
 unfold M2;obtain⟨R,hR,r,H1,⟨rfl,g1⟩,hc⟩:=Ju h hw (by omega) ino;have hlen:=CN hw ino;refine bC_of hc ?_;unfold DH;generalize Aq s ino=ct at*;have oR:=SV.oneA hR;have h1:=h.grew g1;have g2:=Grew.app H1 [some (.cells [I ct.1.1,R])];have h2:=h1.grew g2;simp only[Af9,HU _ _ oR]
 by_cases hc0:ct.2=0
 ·simp only[hc0,Ag3,Ai Dk,dS,Aa]
  obtain⟨R2,hR2,hp⟩:=Pn (size0:=ct.1.1) hR (by omega) size;refine Ay hp ?_;have oR2:=SV.oneA hR2;have g3:=Grew.app (H1++[some (AObj.cells [I ct.1.1,R])]) [some (.cells [I (cS (Cl (ct.1.1,ct.1.2) size)),R2])];have h3:=h2.grew g3;have ff:StF os p p H (H1++[some (AObj.cells [I ct.1.1,R])]++[some (.cells [I (cS (Cl (ct.1.1,ct.1.2) size)),R2])]):=.of_grew ((g1.trans g2).trans g3);simp only[Ab8,HU _ _ oR2,AF,Bj];cases ht:Cl (ct.1.1,ct.1.2) size with
  | none=>
   have ht':Cl ct.1 size=none:=ht;rw[ht]at h3 ff;simp only[Ac1,Aa5];exact⟨by trivial,p,h3,ff⟩
  | some c2=>
   have ht':¬Cl ct.1 size=none:=by rw[show Cl ct.1 size=some c2 from ht];simp
   rw[ht]at h3 ff;have e2:En [(I 0),(I 0),(I 0),(I 0),(B false),(.lit (.string ⟨#[]⟩)),(.lit (.string ⟨#[]⟩)),Ad] [(0,1,(I 3)),(1,1,I ino),(3,1,I size)]=some (.agg (BD (Wo ino size) Ad)):=rfl;simp only[Ac6,Ak,e2];obtain⟨r,H2,⟨rfl,p2,h4,f4⟩,hcall⟩:=qS (bv:=Ad) (o:=Wo ino size) h3 hw (by omega) SV.nil (rU ino size);exact bC_of hcall ⟨rfl,p2,h4,ff.trans f4⟩
 ·simp only[hc0,Ad4]
  exact⟨by trivial,p,h2,.of_grew (g1.trans g2)⟩)
def NR (s:StS)(name to:List UInt8):Int×StS:=
 if s.off=false∧¬DE to then(5,s)else if(Ct s name).2≠0∨name=to then((Ct s name).2,s)else HX s (Zx name to)
theorem lI {s:StS}{name to:List UInt8}(h1:¬(s.off=false∧¬DE to))(h2:¬((Ct s name).2≠0∨name=to)):lV (Zx name to):=by
 obtain⟨a1,a2,a3,-⟩:=kC (Aj8 λq=>h2 (.inl q));have:DE to:=Aj8 λq=>h1 ⟨a3,q⟩
 exact⟨by simp[Zx],a1.2.1,this.2.1⟩
theorem zdkvZ {N:Nat}{s:StS}(h:SW N s)(name to:List UInt8):SW (N+1) (NR s name to).2:=by
 unfold NR
 split
 ·exact h.mono (by omega)
 ·split
  ·exact h.mono (by omega)
  ·rename_i h1 h2;exact WH h (lI h1 h2)
theorem yA {N : Nat} {s : StS} {os : Nat} {p : AV} {H : AH} (h : StAt s os p H) (hw : SW N s) (hN : N < 900000) {name to : List UInt8} (hn : name.length≤9223372036854775807) (ht : to.length≤9223372036854775807) :
    ∃r H',(r=I (NR s name to).1∧∃p',StAt (NR s name to).2 os p' H'∧StF os p p' H H')∧BCall prog 48 [.ptr os 0,S (B9 name),S (B9 to)] H r H':=Tm (by
  unfold OJ;have h':=h;obtain ⟨a,b,c,d,pv,hc⟩:=h;have rest : ¬ (s.off=false∧¬ DE to)→bC (BCall prog 58 [.ptr os 0,S (B9 name)] H) λv12 H13=>
      bO (Ag v12 0) λv14=>
      bO (Ag v12 1) λv15=>
      bO (Ar .neq v15 (I 0)) λv16=>
      bG v16 false λw17=>
      gO w17 (some (S (B9 name))) λv18=>
      bG v16 false λw19=>
      gO w19 (some (S (B9 to))) λv20=>
      bG v16 false λw21=>
      gO w21 (XZ .eql v18 v20) λv22=>
      bO (A0 v16 (B true) v22) λv23=>
      bB v23 λt24=>bI t24 (
      v15=I (NR s name to).1∧∃p',StAt (NR s name to).2 os p' H13∧StF os p p' H H13)
       (bO (En [(I 0),(I 0),(I 0),(I 0),(B false),(.lit (.string ⟨#[]⟩)),(.lit (.string ⟨#[]⟩)),Ad] [(0,1,(I 6)),(5,1,S (B9 name)),(6,1,S (B9 to))]) λv25=>
      bC (BCall prog 59 [.ptr os 0,v25] H13) λv26 H27=>
      v26=I (NR s name to).1∧∃p',StAt (NR s name to).2 os p' H27∧StF os p p' H H27):=by
    intro hno;refine bC_of (qZ h' hw (by omega) hn) ?_;unfold NR;rw[if_neg hno];simp only[Ad5,B6,AU]
    by_cases h0:(Ct s name).2=0
    · have eT:XZ .eql (S (B9 name)) (S (B9 to))=some (B (decide (name=to))):=Nh;simp only[h0,Pr,Dd,Ac2,Aa6,eT,An,false_or]
      by_cases he:name=to
      · simp only[he,Aa4,As];exact⟨by trivial,p,h',.refl _ _ _⟩
      · have e2:En [(I 0),(I 0),(I 0),(I 0),(B false),(.lit (.string ⟨#[]⟩)),(.lit (.string ⟨#[]⟩)),Ad] [(0,1,(I 6)),(5,1,S (B9 name)),(6,1,S (B9 to))]=some (.agg (BD (Zx name to) Ad)):=rfl;simp only[he,Af5,e2,Aa];obtain⟨r,H2,⟨rfl,p2,h4,f4⟩,hcall⟩:=qS (bv:=Ad) (o:=Zx name to) h' hw (by omega) SV.nil (lI hno (by rintro(q | q);exact q h0;exact he q));exact bC_of hcall ⟨rfl,p2,h4,f4⟩
    · simp only[h0,Ad4,show((true==false)=false)from rfl,BY,Af8,true_or];exact⟨by trivial,p,h',.refl _ _ _⟩
  simp only[Ah5,Ai hc.obj,Bj,AU];cases ho:s.off with
  | true=>
    simp only[Ag0,show((false==true)=false)from rfl,BY,WV,A2,An];exact rest (λhh=>by rw[ho]at hh;cases hh.1)
  | false=>
    simp only[As7,Aa0,ZW,Aa];refine Ay (Qn ht) ?_
    by_cases hm:DE to
    · simp only[hm,Aa4,Ag5,A2];exact rest (λhh=>hh.2 hm)
    · simp only[hm,Dd,Ag9,Ag7];unfold NR;rw[if_pos ⟨ho,hm⟩];exact⟨rfl,p,h',.refl _ _ _⟩)
def XB (s:StS)(name:List UInt8):Int×StS:=if(Ct s name).2≠0 then((Ct s name).2,s)else HX s (Xz name)
theorem zdkuZ {N:Nat}{s:StS}(h:SW N s)(name:List UInt8):SW (N+1) (XB s name).2:=by
 unfold XB
 split
 ·exact h.mono (by omega)
 ·rename_i h2
  exact WH h (kZ (kC (Aj8 h2)).1)
theorem xZ {N:Nat}{s:StS}{os:Nat}{p:AV}{H:AH}(h:StAt s os p H)(hw:SW N s)(hN:N<900000){name:List UInt8}(hn:name.length≤9223372036854775807):
  ∃r H',(r=I (XB s name).1∧∃p',StAt (XB s name).2 os p' H'∧StF os p p' H H')∧BCall prog 47 [.ptr os 0,S (B9 name)] H r H':=Tl (by
 unfold OI;refine bC_of (qZ h hw (by omega) hn) ?_;unfold XB;simp only[Ad0]
 by_cases h0:(Ct s name).2=0
 ·have e2:En [(I 0),(I 0),(I 0),(I 0),(B false),(.lit (.string ⟨#[]⟩)),(.lit (.string ⟨#[]⟩)),Ad] [(0,1,(I 7)),(5,1,S (B9 name))]=some (.agg (BD (Xz name) Ad)):=rfl
  simp only[h0,Ag3,e2,Aa];obtain⟨r,H2,⟨rfl,p2,h4,f4⟩,hcall⟩:=qS (bv:=Ad) (o:=Xz name) h hw (by omega) SV.nil (kZ (kC h0).1);exact bC_of hcall ⟨rfl,p2,h4,f4⟩
 ·simp only[h0,Ad4]
  exact⟨by trivial,p,h,.refl _ _ _⟩)
def I8 (s:StS)(ino pos n:Int):List UInt8×Int:=
 if(Aq s ino).2≠0 then([],(Aq s ino).2)else if pos<0∨n<0∨4096<n then([],5)else(Kh (Aq s ino).1.1 (Aq s ino).1.2 pos n,0)
theorem FE {N:Nat}{s:StS}(h:SW N s){ino:Int}(h0:(Aq s ino).2=0):∃d∈s.now.2,d.ino=ino∧(Aq s ino).1=(d.size,d.l)∧s.off=false:=by
 unfold Aq at h0⊢;split at h0
 ·simp at h0
 ·rename_i h1
  split at h0
  ·rename_i hg
   obtain⟨d,hd,rfl⟩:=hg.2;rw[if_neg h1,if_pos hg,(We h.now.1 hd).1];exact⟨d,hd,rfl,rfl,by simpa using h1⟩
  ·simp at h0
abbrev Ac8:=And.intro @AU @Ac2
abbrev Ae2:=And.intro @Aa4 @Ac8
theorem pX {N:Nat}{s:StS}{os:Nat}{p:AV}{H:AH}(h:StAt s os p H)(hw:SW N s)(hN:N<900000)(ino pos n:Int):
  ∃R,SV FB 1 (I8 s ino pos n).1 R∧∃r H',(r=.tup [R,I (I8 s ino pos n).2]∧Grew H H')∧BCall prog 45 [.ptr os 0,I ino,I pos,I n] H r H':=by
 obtain⟨R,hR,r,H1,⟨rfl,g1⟩,hc⟩:=Ju h hw (by omega) ino;have hlen:=CN hw ino;have oR:=SV.oneA hR;have g2:=Grew.app H1 [some (.cells [I (Aq s ino).1.1,R])]
 by_cases hc0:(Aq s ino).2=0
 ·obtain⟨d,hd,hdi,hdc,hoff⟩:=FE hw hc0
  by_cases hb:pos<0∨n<0∨4096<n
  ·have e:I8 s ino pos n=([],5):=by unfold I8;rw[if_neg (by rw[hc0];simp),if_pos hb]
   rw[e];refine⟨Ad,SV.nil,I1 ?_⟩;unfold HV;refine bC_of hc ?_;simp only[Af9,HU _ _ oR,hc0,Ag2,Bn,AU];have done:True∧Grew H (H1++[some (AObj.cells [I (Aq s ino).1.1,R])]):=⟨trivial,g1.trans g2⟩
   by_cases c1:pos<0
   ·simp only[c1,Aa4,show((true==false)=false)from rfl,BY,Af8,AU,As]
    exact done
   ·by_cases c2:n<0
    ·simp only[c1,Dd,Ae2,Ac0,c2,An,show((true==false)=false)from rfl,BY,As]
     exact done
    ·have c3:4096<n:=by omega
     simp only[c1,Dd,Ac8,Ac0,c2,An,Du,c3,Ad1];exact done
  ·have e:I8 s ino pos n=(Kh (Aq s ino).1.1 (Aq s ino).1.2 pos n,0):=by unfold I8;rw[if_neg (by rw[hc0];simp),if_neg hb]
   rw[e];have hmc:=hw.now.1.mc d hd;obtain⟨R2,hR2,hp⟩:=fG hR (by omega) pos n;refine⟨R2,hR2,I1 ?_⟩;unfold HV;refine bC_of hc ?_;have c1:¬pos<0:=by omega
   have c2:¬n<0:=by omega
   have c3:¬4096<n:=by omega
   simp only[Af9,HU _ _ oR,hc0,Ag2,Bn,Ac8,c1,c2,Du,c3,An,Ai Dk,dS];exact Ay hp ⟨rfl,g1.trans g2⟩
 ·have e:I8 s ino pos n=([],(Aq s ino).2):=by unfold I8;rw[if_pos hc0]
  rw[e];refine⟨Ad,SV.nil,I1 ?_⟩;unfold HV;refine bC_of hc ?_;simp only[Af9,HU _ _ oR,hc0,Ab6,CL];exact⟨by trivial,g1.trans g2⟩
theorem zdkoZ {N:Nat}{X:AH}{o:Nat}(hN:N≤o):(old N X)[o]?=X[o]?:=by
 unfold old;rw[Ai1 (by simpa using hN),List.length_replicate,Ai6,show N+(o - N)=o by omega]
theorem BCall.fzS {P:Program}{f:FuncId}{args:List AV}{H X:AH}{r:AV}{sz m:Nat}{cs:List AV}(h:BCall P f args H r X)(g:Grew H X)(hs:Ac X sz r=some (cs,m))(hi:∀i∈AM r,H.length≤i)(hn:A5 cs=true):
  ∃R,(noIds R=true∧∀H,Ac H sz R=some (cs,m))∧BCall P f args H R H:=by
 have hs2:Ac (old H.length X) sz r=some (cs,m):=Ae hs λi q=>zdkoZ (hi i q)
 obtain⟨R,n0,h1,h2,h3⟩:=Yq hs2 hn;refine⟨R,⟨h1,h2⟩,ACalls.fzNew (R':=λr'=>r'=R) h ?_⟩;rintro r1 H1 ⟨rfl,rfl⟩;exact⟨g.1,g.2,n0,R,h3 n0 (Ah9 _),rfl⟩
theorem zH {H:AH}{v:AV}{l:List UInt8}(h:Ac H 1 v=some (AY l,l.length))(hl:l.length≤1000000000):∃R,SV FB 1 l R∧BCall prog 89 [v] H R H:=by
 obtain⟨r,X,⟨hs,g,hi⟩,hc⟩:=HE (a0:=v) (H:=H) (K:=λr X=>Ac X 1 r=some (AY l,l.length)∧Grew H X∧∀i∈AM r,H.length≤i) (by
  unfold F9;rcases L0 h with⟨rfl,e1,e2⟩ | hb
  ·have e:ZQ .eql RV Ad Ad=some (B true):=rfl
   simp only[e,Aa6,As];exact⟨h,Grew.refl H,by simp[AM]⟩
  ·simp only[hb,Aa6,Ak]
   have e:D9 H 1 0 (B4 [u0Z] 0) []=some (.sl H.length 0 0 1 (.ex 0),H++[some (.cells [])]):=rfl;simp only[e,A6];have g:=Grew.app H [some (.cells [])];have h0:Ac (H++[some (.cells [])]) 1 (.sl H.length 0 0 1 (.ex 0))=some ([],0):=by simp[Ac]
   obtain⟨r,H2,a1,a2,a3,a4,a5,a6⟩:=BX (sz:=1) (bytes:=1) (H:=H++[some (.cells [])]) (v:=.sl H.length 0 0 1 (.ex 0)) (cs:=[]) (n:=0) h0 rfl (A1 (g.slice h)) (by omega);simp only[a1,A6];refine⟨by simpa using a3,⟨by simp at a4;omega,λi hi=>?_⟩,λi hi=>?_⟩
   ·rw[a5 i (by simp;omega) (by simp[AM];omega)]
    exact g.2 i hi
   ·rcases a6 i hi with h | h
    ·simp[AM]at h;omega
    ·simp at h;omega)
 obtain⟨R,⟨h1,h2⟩,h3⟩:=BCall.fzS hc g hs hi (Jw _);exact⟨R,⟨h1,λH=>by rw[h2 H,Jv]⟩,h3⟩
theorem zdgnZ:BW prog 140=true:=by kernel_rfl
theorem zdjyZ (x:Ext)(no:Int):BPure prog 140 [.agg (AB x),.ip [I no]] (B (decide (x.no=no))):=BPure.val (by simp[A5,noIds,Hd]) rfl (eB (by
 unfold Z2;have e1:AC [] (.agg (AB x))=some (.ptr 0 0,[some (.cells (AB x))]):=by simp
 have e2:(AB x)[0]?=some (I x.no):=rfl;have e3:([some (.cells (AB x))]:AH)[0]?=some (some (.cells (AB x))):=rfl;simp only[e1,A6,Ab5,Ai e3,e2,jG,C1,BJ]
 try trivial))
theorem zdojZ (x:Ext)(t:List AV):Ax true 9 (AB x++t) 0=some (.agg (AB x)):=by
 have:=AE x
 simp only[Ax,if_true,Ai3,this,Ak9];rw[if_pos (by omega),Aj7 (by omega),Ai2 (by omega)]
abbrev Ac9:=And.intro @List.cons_append.{0} @List.nil_append.{0}
theorem zdcxZ {l:List Ext}{v:AV}(hv:SV AB 9 l v)(hl:l.length≤281474976710656)(no:Int):∃j:Int,(0≤j↔BG l no)∧BPure prog 173 [v,.fn (.func 140) [] [.ip [I no]]] (I j):=by
 have key:∃r X,(∃j:Int,r=I j∧(0≤j↔BG l no))∧BCall prog 173 [v,.fn (.func 140) [] [.ip [I no]]] [] r X:=El (by
  unfold Dn;simp only[hv.len,Aa];refine D2 (λn x0 x1 x7 x8 H'=>∃k:Nat,k+n=l.length∧x0=v∧x1=.fn (.func 140) [] [.ip [I no]]∧x7=I l.length∧x8=I k∧∀(m:Nat) y,m<k→l[m]?=some y→y.no≠no) ?_ l.length ⟨0,by omega,rfl,rfl,rfl,rfl,by omega⟩;rintro n x0 x1 x7 x8 H R hR ⟨k,hk,rfl,rfl,rfl,rfl,hb⟩;unfold C8;rcases Ai0 k l.length with h | h
  ·have hx:=DD h
   generalize l[k]=y at hx;have kI:(k:Int)<(l.length:Int):=by omega
   simp only[Ac0,kI,Ad1,hv.idx AE hx rfl,jG,zdojZ,yY,zdgnZ,Bool.true_or,jP,Ac9];refine bC_of (zdjyZ y no H) ?_;simp only[Aj]
   by_cases c:y.no=no
   ·simp only[c,Ad1]
    exact⟨k,rfl,by simp only[Int.natCast_nonneg,true_iff];exact⟨y,Ah7 hx,c⟩⟩
   ·simp only[c,Ab7,Au (a:=k) (b:=1) (by omega) (by omega),Aa]
    refine hR (n - 1) _ _ _ _ _ (by omega) ⟨k+1,by omega,rfl,rfl,rfl,by simp,?_⟩;intro m z hm hz
    by_cases e:m=k
    ·rw[e,hx]at hz;injection hz with hz;rw[← hz];exact c
    ·exact hb m z (by omega) hz
  ·have kI:¬(k:Int)<(l.length:Int):=by omega
   simp only[Ae8,kI];refine⟨-1,rfl,by simp only[show ¬(0:Int)≤-1 by omega,false_iff];rintro⟨y,hy,e⟩;obtain⟨m,hm⟩:=Aj2.1 hy;exact hb m y (by have:=(BE.1 hm).1;omega) hm e⟩)
 obtain⟨r,X,⟨j,rfl,hj⟩,hc⟩:=key;exact⟨j,hj,BPure.val (by simp[A5,noIds,hv.1]) rfl ⟨_,_,rfl,hc⟩⟩
theorem pO {l:List Ext}{v:AV}(hv:SV AB 9 l v)(hl:l.length≤281474976710656)(no:Int):BPure prog 139 [v,.fn (.func 140) [] [.ip [I no]]] (B (decide (BG l no))):=by
 obtain⟨j,hj,hp⟩:=zdcxZ hv hl no;refine BPure.flat λH=>GW ?_
 unfold Ei;refine Ay hp ?_;simp only[ZP,Aa];exact⟨by congr 3;exact propext hj,by trivial⟩
theorem zdnrZ {size:Int}{l:List Ext}{v:AV}(hv:SV AB 9 l v)(hl:l.length≤281474976710656)(no:Int):BPure prog 88 [.agg [I size,v],I no] (B (decide (BG l no))):=BPure.val (by simp[A5,noIds,hv.1]) rfl (lO (by
 have ov:=SV.oneA hv;unfold iP;have e1:AC [] (.agg [I size,v])=some (.ptr 0 0,[some (.cells [I size,v])]):=by simp[ov]
 have e2:AC [some (.cells [I size,v])] (I no)=some (.ptr 1 0,[some (.cells [I size,v]),some (.cells [I no])]):=rfl;have e3:([some (.cells [I size,v]),some (.cells [I no])]:AH)[0]?=some (some (.cells [I size,v])):=rfl;simp only[e1,A6,e2,Af4,Ai e3]
 have hf:FZs [some (.cells [I size,v]),some (.cells [I no])] [v,.fn (.func 140) [] [.ptr 1 0]] [v,.fn (.func 140) [] [.ip [I no]]]:=by
  refine FZs.cons (FZ.same hv.1) (FZs.cons ⟨3,λn hn=>?_⟩ FZs.nil);obtain⟨n,rfl⟩:∃m,n=m+3:=⟨n - 3,by omega⟩;rfl
 refine bP_of (PCall.lend hf rfl (pO hv hl no)) ?_
 try trivial))
theorem tJ:∀{f:Nat} {p n:Int} {q:Sp},0≤p→q∈Df f p n 8→p≤q.pos∧0<q.len∧q.len≤8∧q.pos+q.len≤p+n
 | 0,p,n,q,_,h=>by simp[Df]at h
 | f+1,p,n,q,hp,h=>by
  unfold Df at h;split at h
  ·rename_i hn
   have h1:=Ap8 p (show(0:Int)<8 by omega);have h2:=Aq0 p (show(8:Int)≠0 by omega);rcases Ak6.1 h with rfl | h
   ·simp only;omega
   ·have:=tJ (by omega) h
    omega
  ·simp at h
def EP (ino pos:Int)(b:List UInt8):OpM:=⟨2,ino,pos,0,false,[],[],b⟩
theorem dP {ino pos:Int}{b:List UInt8}(h:b.length≤8):lV (EP ino pos b):=⟨by show b.length≤_;omega,by simp[EP],by simp[EP]⟩
def Eh (b:List UInt8)(pos:Int)(q:Sp):List UInt8:=(b.drop (q.pos - pos).toNat).take q.len.toNat
def W2 (c:List Ext)(ino pos:Int)(b:List UInt8):List Sp→StS→(Int×Int)×StS
 | [],s=>((b.length,0),s)
 | q::r,s=>
  if ¬BG c (q.pos/8)∧LV s=0 then((q.pos - pos,4),s)
  else if(HX s (EP ino q.pos (Eh b pos q))).1≠0 then((q.pos - pos,(HX s (EP ino q.pos (Eh b pos q))).1),(HX s (EP ino q.pos (Eh b pos q))).2)
  else W2 c ino pos b r (HX s (EP ino q.pos (Eh b pos q))).2
def V8 (pos:Int)(n:Nat):Prop:=0≤pos∧n≤4096∧pos≤1099511627776 - n
instance (pos:Int) (n:Nat):Decidable (V8 pos n):=by unfold V8;infer_instance
def BI (s:StS)(ino pos:Int)(b:List UInt8):(Int×Int)×StS:=
 if(Aq s ino).2≠0 then((0,(Aq s ino).2),s)else if ¬V8 pos b.length then((0,5),s)
 else W2 (Aq s ino).1.2 ino pos b (Ed ⟨pos,b.length⟩ 8) s
theorem X4 {pos:Int}{b:List UInt8}{q:Sp}(hf:V8 pos b.length)(h:q∈Ed ⟨pos,b.length⟩ 8):pos≤q.pos∧0<q.len∧q.len≤8∧q.pos+q.len≤pos+b.length:=by
 unfold Ed at h;split at h
 ·exact tJ hf.1 h
 ·simp at h
theorem Y9 {b:List UInt8}{pos:Int}{q:Sp}(h:pos≤q.pos∧0<q.len∧q.len≤8∧q.pos+q.len≤pos+b.length):(Eh b pos q).length=q.len.toNat:=by
 unfold Eh;rw[Ah8,Ai5];omega
theorem zdihZ {c:List Ext}{ino pos:Int}{b:List UInt8}:∀{l:List Sp} {N:Nat} {s:StS},(∀q∈l,pos≤q.pos∧0<q.len∧q.len≤8∧q.pos+q.len≤pos+b.length)→SW N s→SW (N+9*l.length) (W2 c ino pos b l s).2
 | [],N,s,_,h=>h
 | q::r,N,s,hq,h=>by
  have h1:=hq q (by simp);have hl:=Y9 h1;have hd:=WH (o:=EP ino q.pos (Eh b pos q)) h (dP (by omega))
  have hwt:wt (EP ino q.pos (Eh b pos q))≤9:=by
   show 1+(Eh b pos q).length+(if(2:Int)=4 then 4098 else 0)≤9
   rw[if_neg (by omega)];omega
  unfold W2;simp only[Al9]
  split
  ·exact h.mono (by omega)
  ·split
   ·exact hd.mono (by omega)
   ·exact(zdihZ (λx hx=>hq x (by simp[hx])) hd).mono (by omega)
theorem YA {pos:Int}{b:List UInt8}(hf:V8 pos b.length):(Ed ⟨pos,b.length⟩ 8).length≤b.length:=by
 unfold Ed
 split
 ·have:∀(f:Nat) (p n:Int),(Df f p n 8).length≤f:=by
   intro f
   induction f with
   | zero=>intro p n;simp[Df]
   | succ f ih=>
    intro p n;unfold Df
    split
    ·simp only[Al9];have:=ih (p+min n (8 - p % 8)) (n - min n (8 - p % 8));omega
    ·simp
  have h2:=this (b.length:Int).toNat pos b.length;have e:((b.length:Int)).toNat=b.length:=by omega
  simp only;omega
 ·simp
theorem XV {N:Nat}{s:StS}(h:SW N s)(ino pos:Int)(b:List UInt8):SW (N+9*b.length) (BI s ino pos b).2:=by
 unfold BI
 split
 ·exact h.mono (by omega)
 ·split
  ·exact h.mono (by omega)
  ·rename_i hf
   have hf:=Aj8 hf;exact(zdihZ (λq hq=>X4 hf hq) h).mono (by have:=YA hf;omega)
theorem jA {N:Nat}{s:StS}{os:Nat}{p v:AV}{H:AH}(h:StAt s os p H)(hw:SW N s)(ino pos:Int){b:List UInt8}(hN:N+9*b.length<900000)(hv:Ac H 1 v=some (AY b,b.length))(hvi:∀j∈AM v,j≠os∧j∉AM p):
  ∃r H',(r=.tup [I (BI s ino pos b).1.1,I (BI s ino pos b).1.2]∧∃p',StAt (BI s ino pos b).2 os p' H'∧StF os p p' H H')∧BCall prog 34 [.ptr os 0,I ino,I pos,v] H r H':=Uz (by
 unfold PF;obtain⟨R,hR,r,H1,⟨rfl,g1⟩,hc⟩:=Ju h hw (by omega) ino;have hlen:=CN hw ino;refine bC_of hc ?_;unfold BI;generalize Aq s ino=ct at*;have oR:=SV.oneA hR;have h1:=h.grew g1;have g2:=Grew.app H1 [some (.cells [I ct.1.1,R])];have h2:=h1.grew g2;have hv2:=g2.slice (g1.slice hv);have alv:AL v=some (I b.length):=By hv;simp only[Af9,HU _ _ oR]
 by_cases hc0:ct.2=0
 ·simp only[hc0,Ag3,alv,Aa]
  refine Ay (V0 pos b.length (by omega)) ?_
  by_cases hf:V8 pos b.length
  ·have hf':0≤pos∧b.length≤4096∧pos≤1099511627776 - b.length:=hf
   have e1:En [(I 0),(I 0)] [(0,1,I pos),(1,1,I (b.length:Int))]=some (.agg (Bz ⟨pos,b.length⟩)):=rfl;simp only[hf,hf',and_self,CL,Bj,Aa2,Aj,Ad3,e1];obtain⟨V,hV,hp⟩:=Zw ⟨pos,b.length⟩ (unit:=8) (by omega);refine Ay hp ?_;simp only[hV.len,Aa];have hin:∀q∈Ed ⟨pos,b.length⟩ 8,pos≤q.pos∧0<q.len∧q.len≤8∧q.pos+q.len≤pos+b.length:=λq hq=>X4 hf hq
   have hpl:=YA hf;generalize Ed ⟨pos,b.length⟩ 8=L at hV hin hpl;have c0:(H1++[some (AObj.cells [I ct.1.1,R])])[H1.length]?=some (some (.cells [I ct.1.1,R])):=Dk;have f0:StF os p p H (H1++[some (AObj.cells [I ct.1.1,R])]):=.of_grew (g1.trans g2);have hosH:os<H.length:=by obtain⟨a,b',c,d,pv,hx⟩:=h;exact hx.lt
   have hpH:∀j∈AM p,j<H.length:=by obtain⟨a,b',c,d,pv,hx⟩:=h;exact Wf hx
   have hvH:∀j∈AM v,j<H.length:=λj q=>Az hv j q
   have hH1:H.length≤H1.length:=g1.1;refine Pc (λm x0 x1 x2 x3 x10 x36 x37 x38 H'=>∃(k:Nat) (s':StS) (p':AV),k+m=L.length∧x0=.ptr os 0∧x1=I ino∧x2=I pos∧x3=v∧x10=.ptr H1.length 0∧x36=V∧x37=I L.length∧x38=I k∧StAt s' os p' H'∧StF os p p' H H'∧SW (N+9*k) s'∧H'[H1.length]?=some (some (.cells [I ct.1.1,R]))∧H1.length∉AM p'∧W2 ct.1.2 ino pos b (L.drop k) s'=W2 ct.1.2 ino pos b L s) ?_ L.length ⟨0,s,p,by omega,rfl,rfl,rfl,rfl,rfl,rfl,rfl,rfl,h2,f0,hw,c0,λq=>by have:=hpH _ q;omega,rfl⟩;rintro m x0 x1 x2 x3 x10 x36 x37 x38 H2 R2 hR2 ⟨k,s',p',hk,rfl,rfl,rfl,rfl,rfl,rfl,rfl,rfl,hs',fs',hws',cc,hcp,heq⟩;rw[← heq];unfold KB;rcases Ai0 k L.length with hlt | hge
   ·have hx:=DD hlt
    have hq:=hin L[k] (At4 hlt);generalize L[k]=q at hx hq;obtain⟨q1,q2,q3,q4⟩:=hq;have kI:(k:Int)<(L.length:Int):=by omega
    have hdrop:L.drop k=q::L.drop (k+1):=Dy hx;rw[hdrop];generalize hW:W2 ct.1.2 ino pos b (q::L.drop (k+1)) s'=W;have rdq:Ax true 2 (Bz q++(L.drop (k+1)).flatMap Bz) 0=some (.agg (Bz q)):=by simp[Ax,Bz]
    have eA:(AV.agg (Bz q))=.agg [I q.pos,I q.len]:=rfl;have n2:AC H2 (.agg [(I 0),(I 0)])=some (.ptr H2.length 0,H2++[some (.cells [I 0,I 0])]):=by simp
    have t2:AP 2 (H2++[some (.cells [I 0,I 0])]) (.ptr H2.length 0) (.agg [I q.pos,I q.len])=some (H2++[some (.cells [I q.pos,I q.len])]):=by
     rw[AK (n:=2) (xs:=[I q.pos,I q.len]) (cs:=[I 0,I 0]) rfl (by simp) rfl (by simp)];simp[Bm]
    have g3:=Grew.app H2 [some (.cells [I q.pos,I q.len])];have e2:Ar .sub (I q.pos) (I pos)=some (I (q.pos - pos)):=B2 (by omega) (by omega);have e3:Ar .quo (I q.pos) (I 8)=some (I (q.pos/8)):=JS (by omega) (by omega) (by omega);simp only[Ac0,kI,Ad1,hV.idx Yk hx rfl,jG,rdq,eA,n2,Ae5,t2,Ab4,Ai Dk,C1,e2,Ai (g3.cells cc),dS,e3];refine Ay (zdnrZ hR (by omega) (q.pos/8)) ?_;have hs3:=hs'.grew g3;have fs3:StF os p p' H (H2++[some (.cells [I q.pos,I q.len])]):=fs'.grew g3;have cc3:=g3.cells cc;have tq:(H2++[some (AObj.cells [I q.pos,I q.len])])[H2.length]?=some (some (.cells [I q.pos,I q.len])):=Dk;have hl3:H2.length+1=(H2++[some (AObj.cells [I q.pos,I q.len])]).length:=by simp
    have hpid:∀j∈AM p',j<H2.length:=by obtain⟨a,b',c,d,pv,hx⟩:=hs';exact Wf hx
    have hos2:os<H2.length:=by obtain⟨a,b',c,d,pv,hx⟩:=hs';exact hx.lt
    have hcl2:H1.length<H2.length:=(BE.1 cc).1;generalize (H2++[some (AObj.cells [I q.pos,I q.len])])=H3 at hs3 fs3 cc3 tq hl3
    -- the deed
    have deed:¬(¬BG ct.1.2 (q.pos/8)∧LV s'=0)→bO (Ab 0 (.ptr H2.length 0)) (λv25=>bO (Ap false 1 H3 v25) λv26=>bO (Ab 1 (.ptr H2.length 0)) λv27=>bO (Ap false 1 H3 v27) λv28=>bO (Ar .add (I (q.pos - pos)) v28) λv29=>bO (Bf 1 x3 (some (I (q.pos - pos))) (some v29) none) λv30=>
      bC (BCall prog 89 [v30] H3) λv31 H32=>bO (En [(I 0),(I 0),(I 0),(I 0),(B false),(.lit (.string ⟨#[]⟩)),(.lit (.string ⟨#[]⟩)),Ad] [(0,1,(I 2)),(1,1,I ino),(2,1,v26),(7,1,v31)]) λv33=>
      bC (BCall prog 59 [.ptr os 0,v33] H32) λv34 H35=>(Ap false 1 H32 v25=some v26)∧bO (Ar .neq v34 (I 0)) λv36=>bB v36 λt37=>bI t37
       (AV.tup [I (q.pos - pos),v34]=.tup [I W.1.1,I W.1.2]∧
        ∃p',StAt W.2 os p' H35∧StF os p p' H H35)
       (bO (Ar .add (I k) (I 1)) λv38=>R2 [.ptr os 0,I ino,I pos,x3,.ptr H1.length 0,x36,I L.length,v38] H35)):=by
     intro hno;have e4:Ar .add (I (q.pos - pos)) (I q.len)=some (I (q.pos - pos+q.len)):=Au (by omega) (by omega)
     have hv3:Ac H3 1 x3=some (AY b,b.length):=Ae hv λj hj=>by
      have hne:=hvi j hj;exact fs3.same j (hvH j hj) hne.1 hne.2
     obtain⟨r5,s1,s2,s3,-⟩:=EI hv3 (lo:=some (I (q.pos - pos))) (hi:=some (I (q.pos - pos+q.len))) (l:=(q.pos - pos).toNat) (k:=(q.pos - pos+q.len).toNat) (by simp only[Ci];rw[if_pos (by omega)]) (by simp only[Ci];rw[if_pos (by omega)]) (by omega) (by omega);have hpl2:=Y9 (b:=b) (pos:=pos) (q:=q) ⟨q1,q2,q3,q4⟩
     have s2':Ac H3 1 r5=some (AY (Eh b pos q),(Eh b pos q).length):=by
      rw[s2,hpl2];unfold Eh;rw[An6,An6,show(q.pos - pos+q.len).toNat - (q.pos - pos).toNat=q.len.toNat by omega];simp[AY,Av1,Av2]
     obtain⟨Rb,hRb,hcb⟩:=zH s2' (by omega);simp only[Af4,Ai tq,e4,s1];refine bC_of hcb ?_
     have e5:En [(I 0),(I 0),(I 0),(I 0),(B false),(.lit (.string ⟨#[]⟩)),(.lit (.string ⟨#[]⟩)),Ad] [(0,1,(I 2)),(1,1,I ino),(2,1,I q.pos),(7,1,Rb)]=some (.agg (BD (EP ino q.pos (Eh b pos q)) Rb)):=by
      have:=SV.oneA hRb
      simp[En,BD,EP,Bs this];rfl
     simp only[e5,Aa];obtain⟨r6,H6,⟨rfl,p6,h6,f6⟩,hcall⟩:=qS (o:=EP ino q.pos (Eh b pos q)) hs3 hws' (by omega) hRb (dP (by omega));have hws6:=WH (o:=EP ino q.pos (Eh b pos q)) hws' (dP (by omega));refine bC_of hcall ⟨by rw[Ai tq];rfl,?_⟩;simp only[B6,Aa6]
     by_cases hd:(HX s' (EP ino q.pos (Eh b pos q))).1=0
     ·simp only[hd,Ag2,Au (a:=k) (b:=1) (by omega) (by omega),Aa]
      have hwt:wt (EP ino q.pos (Eh b pos q))≤9:=by
       show 1+(Eh b pos q).length+(if(2:Int)=4 then 4098 else 0)≤9
       rw[if_neg (by omega)];omega
      refine hR2 (m - 1) _ _ _ _ _ _ _ _ _ (by omega) ⟨k+1,_,p6,by omega,rfl,rfl,rfl,rfl,rfl,rfl,rfl,by simp,h6,fs3.trans f6,hws6.mono (by omega),?_,?_,?_⟩
      ·rw[f6.same H1.length (by omega) (by omega) hcp];exact cc3
      ·intro hh
       rcases f6.ids _ hh with hh | hh
       ·exact hcp hh
       ·omega
      ·rw[← heq,hdrop]
       conv=>rhs;unfold W2
       rw[if_neg hno,if_neg (by rw[hd];simp)]
     ·have eW:W=((q.pos - pos,(HX s' (EP ino q.pos (Eh b pos q))).1),(HX s' (EP ino q.pos (Eh b pos q))).2):=by
       rw[← hW];unfold W2;rw[if_neg hno,if_pos hd]
      rw[eW];simp only[hd,Ab6,CL];exact⟨by trivial,p6,h6,fs3.trans f6⟩
    by_cases hh:BG ct.1.2 (q.pos/8)
    ·simp only[hh,CL,Ag5,AU,show((false==true)=false)from rfl,BY,cN,A2,An]
     exact deed (λx=>x.1 hh)
    ·simp only[hh,Dd,Bj,As7,Aa,AU,Aa0,Ps]
     refine bC_of (pQ hs3 hws' (by omega)) ?_;simp only[BJ,Ag7]
     by_cases hfr:LV s'=0
     ·have eW:W=((q.pos - pos,4),s'):=by
       rw[← hW];unfold W2;rw[if_pos ⟨hh,hfr⟩]
      rw[eW];simp only[hfr,Ad1];exact⟨by trivial,p',hs3,fs3⟩
     ·simp only[hfr,Ab7]
      exact deed (λx=>hfr x.2)
   ·have kI:¬(k:Int)<(L.length:Int):=by omega
    have hdrop:L.drop k=[]:=Aj5 hge;rw[hdrop];unfold W2;simp only[Ae8,kI,alv];exact⟨by trivial,p',hs',fs'⟩
  ·have hf':¬(0≤pos∧b.length≤4096∧pos≤1099511627776 - b.length):=hf
   simp only[hf,hf',Dd,Bj,Ac5,Aa6,Aa1];exact⟨by trivial,p,h2,.of_grew (g1.trans g2)⟩
 ·simp only[hc0,Ad4]
  exact⟨by trivial,p,h2,.of_grew (g1.trans g2)⟩)
def UR (i:Int):List AV:=[I i]
theorem zX (i:Int):(UR i).length=1:=rfl
theorem oJ (l:List Int):A5 (l.flatMap UR)=true:=D0 λx _=>rfl
theorem zdokZ (x:Int)(t:List AV):Ax false 1 (UR x++t) 0=some (I x):=rfl
theorem zdkaZ {l:List Int}{v:AV}(hv:SV UR 1 l v)(hl:l.length≤281474976710656)(no:Int):∃j:Int,(0≤j↔no∈l)∧BPure prog 178 [v,I no] (I j):=by
 have key:∃r X,(∃j:Int,r=I j∧(0≤j↔no∈l))∧BCall prog 178 [v,I no] [] r X:=Qk (by
  unfold Ls;simp only[hv.len,Aa];refine Mz (λn x0 x1 x7 x8 H'=>∃k:Nat,k+n=l.length∧x0=v∧x1=I no∧x7=I l.length∧x8=I k∧∀(m:Nat) y,m<k→l[m]?=some y→no≠y) ?_ l.length ⟨0,by omega,rfl,rfl,rfl,rfl,by omega⟩;rintro n x0 x1 x7 x8 H R hR ⟨k,hk,rfl,rfl,rfl,rfl,hb⟩;unfold HG;rcases Ai0 k l.length with h | h
  ·have hx:=DD h
   generalize l[k]=y at hx;have kI:(k:Int)<(l.length:Int):=by omega
   simp only[Ac0,kI,Ad1,hv.idx zX hx rfl,jG,zdokZ,BJ]
   by_cases c:no=y
   ·simp only[c,Ad1]
    exact⟨k,rfl,by simp only[Int.natCast_nonneg,true_iff];exact Ah7 hx⟩
   ·simp only[c,Ab7,Au (a:=k) (b:=1) (by omega) (by omega),Aa]
    refine hR (n - 1) _ _ _ _ _ (by omega) ⟨k+1,by omega,rfl,rfl,rfl,by simp,?_⟩;intro m z hm hz
    by_cases e:m=k
    ·rw[e,hx]at hz;injection hz with hz;rw[← hz];exact c
    ·exact hb m z (by omega) hz
  ·have kI:¬(k:Int)<(l.length:Int):=by omega
   simp only[Ae8,kI];refine⟨-1,rfl,by simp only[show ¬(0:Int)≤-1 by omega,false_iff];intro hy;obtain⟨m,hm⟩:=Aj2.1 hy;exact hb m no (by have:=(BE.1 hm).1;omega) hm rfl⟩)
 obtain⟨r,X,⟨j,rfl,hj⟩,hc⟩:=key;exact⟨j,hj,BPure.val (by simp[A5,noIds,hv.1]) rfl ⟨_,_,rfl,hc⟩⟩
theorem lX {l:List Int}{v:AV}(hv:SV UR 1 l v)(hl:l.length≤281474976710656)(no:Int):BPure prog 144 [v,I no] (B (decide (no∈l))):=by
 obtain⟨j,hj,hp⟩:=zdkaZ hv hl no;refine BPure.val (by simp[A5,noIds,hv.1]) rfl (Nv ?_);unfold IU;refine Ay hp ?_;simp only[ZP,Aa]
 congr 3;exact propext hj
def OH (l:List Int)(o:OpM):Prop:=o.kind=1∨o.kind=6∨o.kind=7∨o.ino∈l
instance (l:List Int) (o:OpM):Decidable (OH l o):=by unfold OH;infer_instance
theorem zdhlZ {o:OpM}{bv:AV}(hb:SV FB 1 o.b bv){l:List Int}{v:AV}(hv:SV UR 1 l v)(hl:l.length≤281474976710656):BPure prog 95 [.agg (BD o bv),v] (B (decide (OH l o))):=by
 have obv:=SV.oneA hb;have e1:AC [] (.agg (BD o bv))=some (.ptr 0 0,[some (.cells (BD o bv))]):=by simp[BD,obv]
 have e0:([some (.cells (BD o bv))]:AH)[0]?=some (some (.cells (BD o bv))):=rfl;have i0:(BD o bv)[0]?=some (I o.kind):=rfl;have i1:(BD o bv)[1]?=some (I o.ino):=rfl;refine BPure.val (by simp[A5,noIds,hv.1,hb.1,BD]) rfl (eC ?_);unfold Z3;simp only[e1,A6,Ab4,Aa6,Ai e0,i0,BJ]
 have last:∀c:Prop,∀_ :Decidable c,OK v (.ptr 0 0) [some (.cells (BD o bv))] (λr H=>r=B (decide (o.ino∈l))):=by
  intro c _;rw[XN];unfold Rx;simp only[Ab5,Ai e0,i1];exact Ay (lX hv hl o.ino) rfl
 unfold OH
 by_cases c1:o.kind=1
 ·simp only[c1,Ad1,true_or]
  rw[KE];unfold HW;simp only[Aj,As]
  try trivial
 ·simp only[c1,Ab7,false_or]
  by_cases c6:o.kind=6
  ·simp only[c6,Ad1,true_or]
   rw[KE];unfold HW;simp only[Aj,As]
   try trivial
  ·simp only[c6,Ab7,false_or]
   rw[KE];unfold HW
   by_cases c7:o.kind=7
   ·simp only[c7,Ad1,Aj,true_or]
    try trivial
   ·simp only[c7,Ab7,Aj,false_or]
    exact last True inferInstance
def Iu (l:List Int):List OpM→eK×List OpM→eK×List OpM
 | [],x=>x
 | o::r,x=>if OH l o then Iu l r (Bi x.1.1 x.1.2 o,x.2)else Iu l r (x.1,x.2++[o])
def JH (s:StS)(l:List Int):Int×StS:=
 if(A9 s).1=true then(0,{(A9 s).2 with kept:=(Iu l s.pend (s.kept,[])).1,pend:=(Iu l s.pend (s.kept,[])).2})else(8,(A9 s).2)
theorem lR {l:List Int}{N:Nat}:∀{r:List OpM} {x:eK×List OpM},(∃a,Few1 a x.1∧a+LL x.2+LL r≤N)→(∃a,Few1 a (Iu l r x).1∧a+LL (Iu l r x).2≤N)
 | [],x,⟨a,h1,h2⟩=>⟨a,h1,by simp only[Iu];omega⟩
 | o::r,x,⟨a,h1,h2⟩=>by
  have e:LL (o::r)=wt o+LL r:=by simp[LL]
  unfold Iu
  split
  ·exact lR ⟨a+wt o,h1.step o,by simp only;omega⟩
  ·exact lR ⟨a,h1,by simp only[XW];omega⟩
theorem lQ {l:List Int}:∀{r:List OpM} {x:eK×List OpM},(∀o∈x.2,lV o)→(∀o∈r,lV o)→∀o∈(Iu l r x).2,lV o
 | [],x,h1,h2,o,ho=>h1 o ho
 | q::r,x,h1,h2,o,ho=>by
  unfold Iu at ho;split at ho
  ·exact lQ (x:=(Bi x.1.1 x.1.2 q,x.2)) h1 (λz hz=>h2 z (by simp[hz])) o ho
  ·refine lQ (x:=(x.1,x.2++[q])) ?_ (λz hz=>h2 z (by simp[hz])) o ho
   intro z hz;simp only[Ab3]at hz;rcases hz with hz | rfl
   ·exact h1 z hz
   ·exact h2 _ (by simp)
abbrev Ag4:=And.intro @List.map_nil.{0,0} @List.sum_nil.{0}
theorem aD {N:Nat}{s:StS}(h:SW N s)(l:List Int):SW N (JH s l).2:=by
 have hd:=ZV h;obtain⟨e1,e2,e3,e4,e5⟩:=Fa s;unfold JH
 split
 ·refine⟨by simp only[e1];exact h.now,?_,?_,hd.made,hd.cap,hd.armed⟩
  ·obtain⟨a,h1,h2⟩:=h.kept
   exact lR ⟨a,h1,by simp only[LL,Ag4];unfold LL at h2;omega⟩
  ·exact lQ (x:=(s.kept,[])) (by simp) h.ob
 ·exact hd
theorem iZ {N:Nat}{s:StS}{os:Nat}{p v:AV}{H:AH}(h:StAt s os p H)(hw:SW N s)(hN:N≤900000){l:List Int}(hv:Ac H 1 v=some (l.flatMap UR,l.length))(hvi:∀j∈AM v,j≠os∧j∉AM p)(hl:l.length≤1000000):
  ∃r H',(r=I (JH s l).1∧∃p',StAt (JH s l).2 os p' H'∧StF os p p' H H')∧BCall prog 39 [.ptr os 0,v] H r H':=Vp (by
 unfold Rr;obtain⟨r,H1,⟨rfl,h1,f1⟩,hc⟩:=zP h hw.armed;refine bC_of hc ?_;obtain⟨e1,e2,e3,e4,e5⟩:=Fa s;have hwd:=ZV hw;have hpl:(A9 s).2.pend.length≤N:=by rw[e3];exact hw.plen
 have hob:∀o∈(A9 s).2.pend,lV o:=by rw[e3];exact hw.ob
 have hkw:∃a,Few1 a (A9 s).2.kept∧a+LL (A9 s).2.pend≤N:=by rw[e2,e3];exact hw.kept
 unfold JH;rw[← e2,← e3];simp only[Bj,Aa6];cases hd:(A9 s).1 with
 | false=>
  simp only[Aa5,An];exact⟨by trivial,p,h1,f1⟩
 | true=>
  have hv1:Ac H1 1 v=some (l.flatMap UR,l.length):=Ae hv λj hj=>f1.same j (Az hv j hj) (hvi j hj).1 (hvi j hj).2
  clear e1 e2 e3 e4 e5 hc;generalize (A9 s).2=s1 at*;simp only[if_true];obtain⟨a,b,c,d,pv,h1⟩:=h1;have hpn:pv.length=s1.pend.length:=by rw[← h1.pm,Aj1]
  have alv:AL p=some (I (s1.pend.length:Nat)):=by rw[← hpn];exact By h1.ps
  simp only[Ae9,A4,Ab4,Ai h1.obj,Aa9,alv];have hos:os<H1.length:=h1.lt;have hH:H.length≤H1.length:=f1.len;generalize hres:Iu l s1.pend (s1.kept,[])=res;refine Ql (λm x0 x1 x5 x14 x15 x16 H'=>∃(k:Nat) (ki:eK) (c' d':AV) (lv:List OpV),k+m=s1.pend.length∧x0=.ptr os 0∧x1=v∧x14=p∧x15=I s1.pend.length∧x16=I k∧StC {s1 with kept:=ki} os a b c' d' p pv H'∧StF os p p H1 H'∧Iu l (s1.pend.drop k) (ki,lv.map OpV.o)=res∧(∃a,Few1 a ki∧a+LL (lv.map OpV.o)+LL (s1.pend.drop k)≤N)∧Ac H' 8 x5=some (lv.flatMap I3,lv.length)∧AZ x5=true∧CS x5 lv.length∧(∀j∈AM x5,H1.length≤j)) ?_ s1.pend.length ⟨0,s1.kept,c,d,[],by omega,rfl,rfl,rfl,rfl,rfl,h1,.refl _ _ _,hres,by obtain⟨x,y,z⟩:=hkw;exact⟨x,y,by simp only[Ad2];simp only[LL,Ag4]at*;omega⟩,rfl,rfl,by simp[CS],by simp[AM]⟩;rintro m x0 x1 x5 x14 x15 x16 H2 R hR ⟨k,ki,c',d',lv,hk,rfl,rfl,rfl,rfl,rfl,h2,f2,hsy,hfew,ls,lo,lc,li⟩
  have lvN:lv.length≤N:=by
   obtain⟨x,-,y⟩:=hfew
   have:=lU (l:=lv.map OpV.o)
   rw[Aj1]at this;omega
  unfold Lt;rcases Ai0 k s1.pend.length with hlt | hge
  ·have hx:=DD (show k<pv.length by omega)
   generalize pv[k]'(by omega)=x at hx;have hxo : s1.pend[k]? = some x.o:=by rw [← h1.pm,Aj3,hx]; rfl
   have hdrop:s1.pend.drop k=x.o::s1.pend.drop (k+1):=Dy hxo;have hxb:=hob x.o (Ah7 hxo);rw[hdrop]at hsy hfew;have ox:=SV.oneA x.h;have kI:(k:Int)<(s1.pend.length:Int):=by omega
   obtain⟨pp,q1,q2⟩:=uD h2.ps hx;have n8:AC H2 (.agg [(I 0),(I 0),(I 0),(I 0),(B false),(.lit (.string ⟨#[]⟩)),(.lit (.string ⟨#[]⟩)),Ad])=some (.ptr H2.length 0,H2++[some (.cells [I 0,I 0,I 0,I 0,B false,S ⟨#[]⟩,S ⟨#[]⟩,Ad])]):=by simp
   have t8:AP 8 (H2++[some (.cells [I 0,I 0,I 0,I 0,B false,S ⟨#[]⟩,S ⟨#[]⟩,Ad])]) (.ptr H2.length 0) (.agg (BD x.o x.bv))=some (H2++[some (.cells (BD x.o x.bv))]):=by
    rw[AK (n:=8) (xs:=BD x.o x.bv) (cs:=[I 0,I 0,I 0,I 0,B false,S ⟨#[]⟩,S ⟨#[]⟩,Ad]) (by simp[BD,ox]) (by simp) rfl (by simp)];simp[Bm,BD]
   have g3:=Grew.app H2 [some (.cells (BD x.o x.bv))];have rd8:Ax true 8 (BD x.o x.bv) 0=some (.agg (BD x.o x.bv)):=rfl;have h3:=h2.grew g3;have f3:StF os x14 x14 H1 (H2++[some (AObj.cells (BD x.o x.bv))]):=f2.grew g3;have hl2:=f2.len
   have hv3:Ac (H2++[some (AObj.cells (BD x.o x.bv))]) 1 x1=some (l.flatMap UR,l.length):=Ae hv λj hj=>by
    have:=Az hv j hj
    rw[f3.same j (by omega) (hvi j hj).1 (hvi j hj).2,f1.same j this (hvi j hj).1 (hvi j hj).2]
   obtain⟨Rv,hRv,fRv⟩:=FZ.sv hv3 (oJ l);have ls3:=g3.slice ls;have sm:Sm ki.1 ki.2:=by obtain⟨x,y,z⟩:=hfew;exact y.sm (by omega)
   simp only[Ac0,kI,Ad1,q1,q2,n8,Ae5,t8,Ai Dk,rd8];refine bP_of (PCall.lend (FZs.cons (FZ.same (by simp[noIds,BD,A5,x.h.1])) (FZs.cons fRv FZs.nil)) rfl (zdhlZ x.h hRv (by omega))) ?_;have topx:(H2++[some (AObj.cells (BD x.o x.bv))])[H2.length]?=some (some (.cells (BD x.o x.bv))):=Dk;have hl3:(H2++[some (AObj.cells (BD x.o x.bv))]).length=H2.length+1:=by simp
   generalize (H2++[some (AObj.cells (BD x.o x.bv))])=H3 at*;simp only[Aj]
   by_cases hst:OH l x.o
   ·obtain⟨RA,hRA,hpA⟩:=iT (o:=x.o) (bv:=x.bv) h3.kept sm x.h (by have:=hxb.1;omega) (by have:=hxb.2.1;omega) (by have:=hxb.2.2;omega)
    obtain⟨a',b',rfl,oa,ob⟩:=hRA.agg2;simp only[hst,Ad1,A4,Aa,At,Ai h3.obj,(zdfhZ _ _ _ _ _ _ _ _ _).2];refine bP_of hpA ?_;obtain⟨h4,f4⟩:=h3.set (s':={s1 with kept:=Bi ki.1 ki.2 x.o}) h3.now hRA rfl;simp only[(zdowZ h3.obj oa ob).2,AF];rw[JG];unfold FX;simp only[Au (a:=k) (b:=1) (by omega) (by omega),Aa];refine hR (m - 1) _ _ _ _ _ _ _ (by omega) ⟨k+1,_,a',b',lv,by omega,rfl,rfl,rfl,rfl,by simp,h4,f3.trans f4,?_,?_,?_,lo,lc,li⟩
    ·rw[← hsy];conv=>rhs;unfold Iu
     rw[if_pos hst]
    ·obtain⟨y,z,w⟩:=hfew
     have e:LL (x.o::s1.pend.drop (k+1))=wt x.o+LL (s1.pend.drop (k+1)):=by simp[LL]
     exact⟨y+wt x.o,z.step x.o,by omega⟩
    ·exact Ae ls3 λj hj=>by
      have:=li j hj
      exact f4.same j (by have:=Az ls3 j hj;omega) (by omega) (λq=>by have:=Wf h1 j q;omega)
   ·have eA:D9 H3 8 1 (B4 [(I 0),(I 0),(I 0),(I 0),(B false),(.lit (.string ⟨#[]⟩)),(.lit (.string ⟨#[]⟩)),Ad] 1) [(0,8,.agg (BD x.o x.bv))]=some (.sl H3.length 0 1 8 (.ex 1),H3++[some (.cells (I3 x))]):=by
     simp[D9,B4,I3,BD,N6,ox,Bm]
    have g4:=Grew.app H3 [some (.cells (I3 x))];have x1':Bu (H3++[some (AObj.cells (I3 x))]) 8 (.sl H3.length 0 1 8 (.ex 1))=some (I3 x,1):=A1 (by simp[Ac,I3,BD]);obtain⟨r,H5,a1,a2,a3,a4,a5,a6⟩:=BX (bytes:=96) (g4.slice ls3) lo x1' (by omega);have a7:=RB (g4.slice ls3) lo x1' lc a1;simp only[hst,Ab7,eA,A6,a1];rw[JG];unfold FX;simp only[Au (a:=k) (b:=1) (by omega) (by omega),Aa];have h4:=h3.grew g4;have f4:=f3.grew g4;have lt4:∀j,j<H1.length→j∉AM x5:=λj hj q=>by have:=li j q;omega
    have len4:(H3++[some (AObj.cells (I3 x))]).length=H3.length+1:=by simp
    have k5:∀j,j<H1.length→H5[j]?=(H3++[some (AObj.cells (I3 x))])[j]?:=λj hj=>a5 j (by omega) (lt4 j hj)
    refine hR (m - 1) _ _ _ _ _ _ _ (by omega) ⟨k+1,ki,c',d',lv++[x],by omega,rfl,rfl,rfl,rfl,by simp,?_,?_,?_,?_,?_,a2,by simpa using a7,?_⟩
    ·exact⟨by rw[k5 os hos];exact h4.obj,h4.now,h4.kept,h4.pm,Ae h4.ps λj hj=>k5 j (Wf h1 j hj),h4.po,h4.pi,h4.pc⟩
    ·exact⟨by omega,λj hj hne hjp=>by rw[k5 j hj];exact f4.same j hj hne hjp,λ_ q=>.inl q⟩
    ·rw[← hsy];conv=>rhs;unfold Iu
     rw[if_neg hst];simp
    ·obtain⟨y,z,w⟩:=hfew
     have e:LL (x.o::s1.pend.drop (k+1))=wt x.o+LL (s1.pend.drop (k+1)):=by simp[LL]
     exact⟨y,z,by rw[Ak2];simp only[Ae0,XW];omega⟩
    ·simpa using a3
    ·intro j hj
     rcases a6 j hj with q | q
     ·exact li j q
     ·omega
  ·have kI:¬(k:Int)<(s1.pend.length:Int):=by omega
   have hdrop:s1.pend.drop k=[]:=Aj5 hge;rw[hdrop]at hsy hfew;unfold Iu at hsy;rw[← hsy];have e7:AP 1 H2 (.ptr os 5) x5=some (H2.set os (some (.cells [I s1.cap,a,b,c',d',x5,I s1.made,I s1.armed,B s1.off]))):=eJ h2.obj (by simp) (AD lo);have hnx:os∉AM x5:=λq=>by have:=li os q;omega
   simp only[Ae8,kI,A4,At,e7,AF];have hl2:=f2.len;refine⟨by trivial,x5,⟨a,b,c',d',lv,⟨JY h2.lt,h2.now,h2.kept,rfl,Ae ls λj hj=>Cc (λe=>hnx (by rw[e];exact hj)),lo,hnx,lc⟩⟩,?_⟩;refine⟨by rw[Aj6];omega,λj hj hne hjp=>?_,λj hj=>.inr (by have:=li j hj;omega)⟩;rw[Cc (Aj4 hne),f2.same j (by omega) hne hjp,f1.same j hj hne hjp])
def Tx (bits:List Bool)(i:Nat):Bool:=bits[i]?.getD false
def LW (bits:List Bool):Nat→List OpM→eK→eK
 | _,[],x=>x
 | i,o::r,x=>LW bits (i+1) r (if Tx bits i=true then Bi x.1 x.2 o else x)
def XD (s:StS)(bits:List Bool):StS:=
 {s with kept:=LW bits 0 s.pend s.kept,now:=LW bits 0 s.pend s.kept,pend:=[],off:=false,armed:=-1}
theorem kJ {bits:List Bool}{N:Nat}:∀{r:List OpM} {i:Nat} {x:eK},(∃a,Few1 a x∧a+LL r≤N)→Few1 N (LW bits i r x)
 | [],i,x,⟨a,h1,h2⟩=>h1.mono (by omega)
 | o::r,i,x,⟨a,h1,h2⟩=>by
  have e:LL (o::r)=wt o+LL r:=by simp[LL]
  unfold LW
  split
  ·exact kJ ⟨a+wt o,h1.step o,by omega⟩
  ·exact kJ ⟨a,h1,by omega⟩
theorem zdhaZ {N:Nat}{s:StS}(h:SW N s)(bits:List Bool):SW N (XD s bits):=by
 have hk:=kJ (bits:=bits) (i:=0) h.kept;exact⟨hk,⟨N,hk,by simp[XD,LL]⟩,by simp[XD],h.made,h.cap,by simp[XD]⟩
def eX (b:Bool):List AV:=[B b]
theorem zV (b:Bool):(eX b).length=1:=rfl
theorem zdduZ {α:Type}{enc:α→List AV}{f:α→AV}(he:∀x,enc x=[f x]){H:AH}{w:AV}{l:List α}{k:Nat}{x:α}(hw:Ac H 1 w=some (l.flatMap enc,l.length))(hx:l[k]?=some x):∃p,Bo 1 w (I k)=some p∧Ap false 1 H p=some (f x):=by
 have hk:=(BE.1 hx).1;obtain⟨p,c,h1,h2,h3,h4⟩:=Nx hw (i:=(k:Int)) rfl hk;have el:∀x,(enc x).length=1:=λx=>by rw[he];rfl
 have hc:c.take 1=[f x]:=by
  rw[h3,Ev el hx,Aj7 (by rw[el];exact Ah9 1),Ai2 (by rw[el];exact Ah9 1),he]
 refine⟨p,h1,?_⟩;rw[VQ h2 (by omega) h4];cases c with
 | nil=>simp at hc
 | cons y t=>simp at hc;rw[hc];rfl
theorem vE {N:Nat}{s:StS}{os:Nat}{p v:AV}{H:AH}(h:StAt s os p H)(hw:SW N s)(hN:N≤900000){l:List Bool}(hv:Ac H 1 v=some (l.flatMap eX,l.length))(hvi:∀j∈AM v,j≠os∧j∉AM p)(hl:l.length≤1000000):
  ∃r H',(r=.tup []∧StAt (XD s l) os Ad H'∧StF os p Ad H H')∧BCall prog 40 [.ptr os 0,v] H r H':=Sf (by
 unfold Na;obtain⟨a,b,c,d,pv,h1⟩:=h;have hpl:=hw.plen;have hob:=hw.ob;have hpn:pv.length=s.pend.length:=by rw[← h1.pm,Aj1]
 have alv:AL p=some (I (s.pend.length:Nat)):=by rw[← hpn];exact By h1.ps
 simp only[Ah5,Ai h1.obj,alv];unfold XD;generalize hres:LW l 0 s.pend s.kept=res;have hos:os<H.length:=h1.lt;refine Nw (λm x0 x1 x9 x10 x11 H'=>∃(k:Nat) (ki:eK) (c' d':AV),k+m=s.pend.length∧x0=.ptr os 0∧x1=v∧p=x9∧x10=I s.pend.length∧x11=I k∧StC {s with kept:=ki} os a b c' d' p pv H'∧StF os p p H H'∧LW l k (s.pend.drop k) ki=res∧(∃a,Few1 a ki∧a+LL (s.pend.drop k)≤N)) ?_ s.pend.length ⟨0,s.kept,c,d,by omega,rfl,rfl,rfl,rfl,rfl,h1,.refl _ _ _,hres,by simp only[Ak9];exact hw.kept⟩;rintro m x0 x1 x9 x10 x11 H2 R hR ⟨k,ki,c',d',hk,rfl,rfl,ep,rfl,rfl,h2,f2,hsy,hfew⟩;subst ep;unfold Jf;rcases Ai0 k s.pend.length with hlt | hge
 ·have hx:=DD (show k<pv.length by omega)
  generalize pv[k]'(by omega)=x at hx;have hxo : s.pend[k]? = some x.o:=by rw [← h1.pm,Aj3,hx]; rfl
  have hdrop:s.pend.drop k=x.o::s.pend.drop (k+1):=Dy hxo;have hxb:=hob x.o (Ah7 hxo);rw[hdrop]at hsy hfew;have ox:=SV.oneA x.h;have kI:(k:Int)<(s.pend.length:Int):=by omega
  obtain⟨pp,q1,q2⟩:=uD h2.ps hx;have n8:AC H2 (.agg [(I 0),(I 0),(I 0),(I 0),(B false),(.lit (.string ⟨#[]⟩)),(.lit (.string ⟨#[]⟩)),Ad])=some (.ptr H2.length 0,H2++[some (.cells [I 0,I 0,I 0,I 0,B false,S ⟨#[]⟩,S ⟨#[]⟩,Ad])]):=by simp
  have t8:AP 8 (H2++[some (.cells [I 0,I 0,I 0,I 0,B false,S ⟨#[]⟩,S ⟨#[]⟩,Ad])]) (.ptr H2.length 0) (.agg (BD x.o x.bv))=some (H2++[some (.cells (BD x.o x.bv))]):=by
   rw[AK (n:=8) (xs:=BD x.o x.bv) (cs:=[I 0,I 0,I 0,I 0,B false,S ⟨#[]⟩,S ⟨#[]⟩,Ad]) (by simp[BD,ox]) (by simp) rfl (by simp)];simp[Bm,BD]
  have g3:=Grew.app H2 [some (.cells (BD x.o x.bv))];have rd8:Ax true 8 (BD x.o x.bv) 0=some (.agg (BD x.o x.bv)):=rfl;have h3:=h2.grew g3;have f3:StF os p p H (H2++[some (AObj.cells (BD x.o x.bv))]):=f2.grew g3;have hv3:Ac (H2++[some (AObj.cells (BD x.o x.bv))]) 1 x1=some (l.flatMap eX,l.length):=Ae hv λj hj=>f3.same j (Az hv j hj) (hvi j hj).1 (hvi j hj).2
  have alb:AL x1=some (I (l.length:Nat)):=By hv;have sm:Sm ki.1 ki.2:=by obtain⟨x,y,z⟩:=hfew;exact y.sm (by omega)
  have topx:(H2++[some (AObj.cells (BD x.o x.bv))])[H2.length]?=some (some (.cells (BD x.o x.bv))):=Dk;simp only[Ac0,kI,Ad1,q1,q2,n8,Ae5,t8,alb];generalize (H2++[some (AObj.cells (BD x.o x.bv))])=H3 at*;have yes:Tx l k=true→bO (Af (.ptr os 0)) λv19=>bO (Ab 3 v19) λv20=>bO (Ap true 2 H3 v20) λv21=>bO (Ap true 8 H3 (.ptr H2.length 0)) λv22=>
    bP (BPure prog 96 [v21,v22]) λv23=>bO (Af (.ptr os 0)) λv24=>bO (Ab 3 v24) λv25=>bS (AP 2 H3 v25 v23) λH26=>
    Dw R (.ptr os 0) x1 p (I s.pend.length) (I k) H26 (λr H'=>r=.tup []∧StAt {s with kept:=res,now:=res,pend:=[],off:=false,armed:=-1} os Ad H'∧StF os p Ad H H'):=by
   intro hst;obtain⟨RA,hRA,hpA⟩:=iT (o:=x.o) (bv:=x.bv) h3.kept sm x.h (by have:=hxb.1;omega) (by have:=hxb.2.1;omega) (by have:=hxb.2.2;omega);obtain⟨a',b',rfl,oa,ob⟩:=hRA.agg2;simp only[A4,Aa,At,Ai h3.obj,(zdfhZ _ _ _ _ _ _ _ _ _).2,Ai topx,rd8];refine bP_of hpA ?_;obtain⟨h4,f4⟩:=h3.set (s':={s with kept:=Bi ki.1 ki.2 x.o}) h3.now hRA rfl;simp only[(zdowZ h3.obj oa ob).2,AF];rw[It];unfold Ff;simp only[Au (a:=k) (b:=1) (by omega) (by omega),Aa];refine hR (m - 1) _ _ _ _ _ _ (by omega) ⟨k+1,_,a',b',by omega,rfl,rfl,rfl,rfl,by simp,h4,f3.trans f4,?_,?_⟩
   ·rw[← hsy];conv=>rhs;unfold LW
    rw[if_pos hst]
   ·obtain⟨y,z,w⟩:=hfew
    have e:LL (x.o::s.pend.drop (k+1))=wt x.o+LL (s.pend.drop (k+1)):=by simp[LL]
    exact⟨y+wt x.o,z.step x.o,by omega⟩
  have no:¬Tx l k=true→Dw R (.ptr os 0) x1 p (I s.pend.length) (I k) H3 (λr H'=>r=.tup []∧StAt {s with kept:=res,now:=res,pend:=[],off:=false,armed:=-1} os Ad H'∧StF os p Ad H H'):=by
   intro hst;rw[It];unfold Ff;simp only[Au (a:=k) (b:=1) (by omega) (by omega),Aa];refine hR (m - 1) _ _ _ _ _ _ (by omega) ⟨k+1,ki,c',d',by omega,rfl,rfl,rfl,rfl,by simp,h3,f3,?_,?_⟩
   ·rw[← hsy];conv=>rhs;unfold LW
    rw[if_neg hst]
   ·obtain⟨y,z,w⟩:=hfew
    have e:LL (x.o::s.pend.drop (k+1))=wt x.o+LL (s.pend.drop (k+1)):=by simp[LL]
    exact⟨y,z,by omega⟩
  rcases Ai0 k l.length with hkl | hkl
  ·have hb:=DD hkl
   generalize l[k]=bt at hb;have hbt:Tx l k=bt:=by unfold Tx;rw[hb];rfl
   obtain⟨pb,r1,r2⟩:=zdduZ (f:=B) (λ_=>rfl) hv3 hb;have kl:(k:Int)<(l.length:Int):=by omega
   simp only[kl,Ae2,Aa6,r1,r2];cases bt with
   | true=>simp only[As];exact yes hbt
   | false=>simp only[Ak];exact no (by rw[hbt];simp)
  ·have hbt:Tx l k=false:=by unfold Tx;rw[An1 hkl];rfl
   have kl:¬(k:Int)<(l.length:Int):=by omega
   simp only[kl,Ab7,AU,show((false==true)=false)from rfl,BY,Af8,An];exact no (by rw[hbt];simp)
 ·have kI:¬(k:Int)<(s.pend.length:Int):=by omega
  have hdrop:s.pend.drop k=[]:=Aj5 hge;rw[hdrop]at hsy hfew;unfold LW at hsy;subst hsy;have sm:Sm ki.1 ki.2:=by obtain⟨x,y,z⟩:=hfew;exact y.sm (by omega)
  obtain⟨RC,hRC,hpC⟩:=pP h2.kept sm;obtain⟨a',b',rfl,oa,ob⟩:=hRC.agg2;have l2:=h2.lt;simp only[Ae8,kI,A4,At,Ai h2.obj,(zdfhZ _ _ _ _ _ _ _ _ _).2];refine Ay hpC ?_;have s1:=(zdowZ h2.obj oa ob).1;have c1:(H2.set os (some (AObj.cells [I s.cap,a',b',c',d',p,I s.made,I s.armed,B s.off])))[os]?=some (some (.cells [I s.cap,a',b',c',d',p,I s.made,I s.armed,B s.off])):=JY l2;have s2:=eJ c1 (k:=5) (x:=Ad) (by simp) rfl;have c2:(H2.set os (some (AObj.cells [I s.cap,a',b',c',d',Ad,I s.made,I s.armed,B s.off])))[os]?=some (some (.cells [I s.cap,a',b',c',d',Ad,I s.made,I s.armed,B s.off])):=JY l2;have s3:=eJ c2 (k:=8) (x:=B false) (by simp) rfl;have c3:(H2.set os (some (AObj.cells [I s.cap,a',b',c',d',Ad,I s.made,I s.armed,B false])))[os]?=some (some (.cells [I s.cap,a',b',c',d',Ad,I s.made,I s.armed,B false])):=JY l2;have s4:=eJ c3 (k:=7) (x:=I (-1)) (by simp) rfl;simp only[List.set_set,Aq9,Aq8]at s2 s3 s4;simp only[s1,AF,s2,s3,s4];refine⟨by trivial,⟨a',b',c',d',[],⟨JY l2,hRC,h2.kept,rfl,rfl,rfl,by simp[AM],by simp[CS]⟩⟩,?_⟩;refine⟨by rw[Aj6];exact f2.len,λj hj hne hjp=>?_,λj hj=>by simp[AM]at hj⟩;rw[Cc (Aj4 hne),f2.same j hj hne hjp])
theorem mU {H:AH}{v:AV}{cs:List AV}{n l k:Nat}(h:Ac H 1 v=some (cs,n))(hlk:l<k)(hkn:k≤n):
  ∃r,Bf 1 v (some (I l)) (some (I k)) (some (I k))=some r∧(∀H,Ac H 1 v=some (cs,n)→Ac H 1 r=some ((cs.drop l).take (k - l),k - l))∧∀i∈AM r,i∈AM v:=by
 have b1:Ci (some (I l)) 0=some l:=by simp[Ci]
 have b2:∀d,Ci (some (I k)) d=some k:=λd=>by simp[Ci]
 have hcl:=B7 h;unfold Ac at h;unfold Bf;split at h
 ·rename_i c len esz
  split at h
  ·rename_i hb
   obtain⟨rfl,hb⟩:=hb;injection h with h;injection h with h1 h2;subst h1;subst h2;simp only[b1,b2,Au7];rw[if_pos ⟨by omega,by omega,by omega,by trivial⟩,if_neg (by omega)];refine⟨_,rfl,λH _=>?_,λi hi=>hi⟩;simp only[Ac,true_and,An6];rw[if_pos (by rw[Ah8,Ai5];omega)]
  ·cases h
 ·rename_i o off len esz cap
  split at h
  ·rename_i c hoc
   split at h
   ·rename_i hb
    obtain⟨rfl,hb⟩:=hb;injection h with h;injection h with h1 h2;subst h2;simp only[Af3,b1,b2,Au7];rw[if_pos ⟨by omega,by omega,by omega,by trivial⟩];refine⟨_,rfl,λH h2=>?_,λi hi=>hi⟩;unfold Ac at h2;simp only[true_and]at h2;split at h2
    ·rename_i c2 hoc2
     split at h2
     ·rename_i hb2
      injection h2 with h2;injection h2 with h3 h4;rw[Br hoc2 (by omega),← h3];simp only[An6];rw[Ap4,An3,An4]
      congr 3
      omega
     ·cases h2
    ·cases h2
   ·cases h
  ·cases h
 all_goals (try (injection h with h;injection h with h1 h2;omega))
 all_goals cases h
noncomputable abbrev zB:Code:=AG f117
noncomputable abbrev chO:Array Oper:=X3 (sub [true,true,true,true,false,true,true,false] zB)
noncomputable abbrev chY : Oper := chO.toList.getD 10 ⟨none, .nilCheck (.tmp 0), 0, "", #[], none⟩
theorem zdggZ:f117.body=some (.seq (sub [false] zB) (.block 0 (.loop (.seq (.seq (sub [true,true,true,false,false] zB) (.cond (.tmp 9) .skip (.exit 0)))
  (.seq (.block 1 (.seq (sub [true,true,true,true,false,true,false] zB) (.seq (.region 4 chO false) (.cond (.tmp 30) .ret .skip)))) (sub [true,true,true,true,true] zB)))))):=by kernel_rfl
noncomputable abbrev zdoqZ (p:List Bool)(T:List AV)(H:AH)(K:Kf):Prop:=AJ prog (LT []) Aw Aw Aw (Cd []) (sub p zB) 0 T H K
theorem zdmyZ (x0 x1 x2:AV)(H:AH)(Q:Exit→List AV→AH→Prop):zdoqZ [false] ([x0,x1,x2]++List.replicate 28 AO) H (λe T H=>fP (mk 31 0 [0,1,2,4]) T λX=>Q e X H)=Q .normal [x0,x1,x2,I 0] H:=by kernel_rfl
theorem zdmzZ (x0 x1 x2 x4:AV)(H:AH)(Q:Exit→List AV→AH→Prop):zdoqZ [true,true,true,false,false] (Bt (mk 31 0 [0,1,2,4]) [x0,x1,x2,x4]) H (λe T H=>fP (mk 31 0 [0,1,2,4,9]) T λX=>Q e X H)=
  bO (Ap false 1 H x1) λv7=>bO (AL v7) λv8=>bO (Ar .lss x4 v8) λv9=>Q .normal [x0,x1,x2,x4,v9] H:=by kernel_rfl
theorem zdnbZ (x0 x1 x2 x4 x9:AV)(H:AH)(Q:Exit→List AV→AH→Prop):zdoqZ [true,true,true,true,false,true,false] (Bt (mk 31 0 [0,1,2,4,9]) [x0,x1,x2,x4,x9]) H (λe T H=>fP (mk 31 0 [0,1,2,4,5]) T λX=>Q e X H)=
  bO (Ap false 1 H x2) λv13=>bO (Ap false 1 H x1) λv14=>bO (Bf 1 v14 (some x4) none none) λv16=>bO (AL v16) λv17=>bO (amm Zn [v13,v17]) λv18=>Q .normal [x0,x1,x2,x4,v18] H:=by kernel_rfl
theorem zdncZ (x0 x1 x2 x4 x5:AV)(H:AH)(Q:List AV→AH→Prop):RZ prog Aw Aw false chO (chO.toList.take 10) (Bt (mk 31 0 [0,1,2,4,5]) [x0,x1,x2,x4,x5]) H (λT H=>fP (mk 31 0 [0,1,2,4,19,28]) T λX=>Q X H)=
  bO (Ap false 1 H x1) λv20=>bO (Ar .add x4 x5) λv24=>bO (Ar .add x4 x5) λv27=>bO (Bf 1 v20 (some x4) (some v24) (some v27)) λv28=>Q [x0,x1,x2,x4,x0,v28] H:=by kernel_rfl
theorem zdhyZ (x0 x1 x2 x4 x19 x28 x29:AV)(H:AH)(Q:List AV→AH→Prop):RZ prog Aw Aw false chO (chO.toList.drop 11) (Ez (Bt (mk 31 0 [0,1,2,4,19,28]) [x0,x1,x2,x4,x19,x28]) (some 29) x29) H (λT H=>fP (mk 31 0 [0,1,2,4,30]) T λX=>Q X H)=
  bO (Em .not x29) λv30=>Q [x0,x1,x2,x4,v30] H:=by kernel_rfl
theorem zdnaZ (x0 x1 x2 x4 x30:AV)(H:AH)(Q:Exit→List AV→AH→Prop):zdoqZ [true,true,true,true,true] (Bt (mk 31 0 [0,1,2,4,30]) [x0,x1,x2,x4,x30]) H (λe T H=>fP (mk 31 0 [0,1,2,4]) T λX=>Q e X H)=
  bO (Ap false 1 H x2) λv11=>bO (Ar .add x4 v11) λv12=>Q .normal [x0,x1,x2,v12] H:=by kernel_rfl
theorem zdjkZ:chO.toList=chO.toList.take 10++chY::chO.toList.drop 11:=by kernel_rfl
noncomputable abbrev chA:Array TypeId:=match chY.op with
 | .call c=>c.argTypes
 | _=> #[]
theorem zdghZ:chY.op=.call {callee:=.value (.tmp 19),args:=#[.tmp 28],argTypes:=chA}∧chY.guard=none∧chY.dst=some 29:=⟨by kernel_rfl,by kernel_rfl,by kernel_rfl⟩
theorem tE:DW (LT []) Aw Aw (sub [false] zB)=true∧DW (LT []) Aw Aw (sub [true,true,true,false,false] zB)=true∧DW (LT []) Aw Aw (sub [true,true,true,true,false,true,false] zB)=true∧DW (LT []) Aw Aw (sub [true,true,true,true,true] zB)=true:=⟨by kernel_rfl,by kernel_rfl,by kernel_rfl,by kernel_rfl⟩
def zdhxZ (s:AV)(len n j:Nat):AV:=(Bf 1 s (some (I (j*n:Nat))) (some (I (j*n+min n (len - j*n):Nat))) (some (I (j*n+min n (len - j*n):Nat)))).getD AO
def tD (len n:Nat):Nat:=(len+n - 1)/n
def zdlrZ (s:AV)(len n:Nat):List AV:=(List.range (tD len n)).map (zdhxZ s len n)
theorem jS (s:AV)(len n:Nat):(zdlrZ s len n).length=tD len n:=by simp[zdlrZ]
theorem zC {len n k:Nat}(hn:0<n):k<tD len n↔k*n<len:=by
 unfold tD;rw[show(k<(len+n - 1)/n)=(k+1≤(len+n - 1)/n)from rfl,Nat.le_div_iff_mul_le hn,Al5];omega
theorem yE (a d:Nat):Ci (some (I a)) d=some a:=by simp[Ci]
theorem zdgpZ (a b:Nat):Zn (a:Int) b=((min a b:Nat):Int):=by unfold Zn;split<;>omega
theorem zG {o1 o2:Nat}{s:AV}{cs:List AV}{len n:Nat}(hn:0<n)(hn2:n≤1099511627776)(hlen:len≤1099511627776):iV prog 117 [.ptr o1 0,.ptr o2 0] (λH=>H[o1]?=some (some (.cells [s]))∧H[o2]?=some (some (.cells [I n]))∧Ac H 1 s=some (cs,len)) (zdlrZ s len n):=by
 have e31:f117.ntmps=31:=by kernel_rfl
 refine kH func117 zdggZ (by kernel_rfl) ?_;intro l G0 rec T p H J X hrd hpd hps hT h0 hcap hr;rw[e31,jS];generalize hY:(AV.lit (.func (.yield l) #[] #[]))=Y;refine XCode.seqP (fl:=LT []) (ql:=Aw) (al:=Aw) (un:=Aw) (kp:=Cd []) (n:=0) (keep:=mk 31 0 [0,1,2,4]) PT tE.1 (λe T T' H he h=>by cases e<;>first | exact absurd rfl he | exact h) ?_;refine Eq.mpr (zdmyZ Y (.ptr o1 0) (.ptr o2 0) H _) ?_;refine(?_:XCode _ l G0 (.block 0 _) _ _ _ _);refine XCode.block ?_;refine XCode.loop (λm T H r=>∃k,k+m=tD len n∧r=rec∧T.length=31∧Ul (mk 31 0 [0,1,2,4]) T=[Y,.ptr o1 0,.ptr o2 0,I (k*n:Nat)]∧J k H) (tD len n) ⟨0,by omega,rfl,rfl,by simp[mk,Ul,Bt],h0⟩ ?_;rintro m T H r ⟨k,hk,rfl,hl,hT2,hj⟩;refine XCode.weak (keep:=mk 31 0 [0,1,2,4]) hl ?_;rw[hT2];obtain⟨c1,c2,c3⟩:=hcap k H hj;have hkn:=zC (len:=len) (k:=k) hn;refine XCode.seq ?_;refine XCode.seqP (fl:=LT []) (ql:=Aw) (al:=Aw) (un:=Aw) (kp:=Cd []) (n:=0) (keep:=mk 31 0 [0,1,2,4,9]) PT tE.2.1 (λe T T' H he h=>by cases e<;>first | exact absurd rfl he | exact h) ?_;refine Eq.mpr (zdmzZ Y (.ptr o1 0) (.ptr o2 0) _ H _) ?_;have al:AL s=some (I (len:Nat)):=By c3;simp only[Ai c1,Ah2,C1,al,Bn];refine(?_:XCode _ l G0 (.cond (.tmp 9) .skip (.exit 0)) _ _ _ _);refine XCode.cond (b:=decide (((k*n:Nat):Int)<len)) rfl ?_
 by_cases h:k*n<len
 ·have hI:((k*n:Nat):Int)<(len:Int):=by omega
  simp only[hI,Aa4];refine XCode.skip ?_;refine(?_:XCode _ l G0 (.seq (.block 1 _) _) _ _ _ _);refine XCode.seq (XCode.block ?_);refine XCode.seqN (fl:=LT []) (ql:=Aw) (al:=Aw) (un:=Aw) (kp:=Cd []) (n:=0) (keep:=mk 31 0 [0,1,2,4,5]) PT tE.2.2.1 ?_;refine Eq.mpr (zdnbZ Y (.ptr o1 0) (.ptr o2 0) _ _ H _) ?_;obtain⟨r1,s1,s2,-⟩:=EI c3 (lo:=some (I (k*n:Nat))) (hi:=none) (l:=k*n) (k:=len) (yE _ _) rfl (by omega) (Ah9 _);have al1:AL r1=some (I (len - k*n:Nat)):=By s2;have hmin:amm Zn [I n,I (len - k*n:Nat)]=some (I (min n (len - k*n):Nat)):=by rw[LD,zdgpZ]
  simp only[Ai c2,Ai c1,Ah2,C1,s1,al1,hmin];refine⟨by trivial,?_⟩;refine XCode.seq (XCode.region ?_);refine Eq.mpr (congrArg (λL=>XOps _ l G0 chO _ L _ _ _) zdjkZ) ?_;refine XOps.preP (ql:=Aw) (al:=Aw) (keep:=mk 31 0 [0,1,2,4,19,28]) ?_;refine Eq.mpr (zdncZ Y (.ptr o1 0) (.ptr o2 0) _ _ H _) ?_
  have hadd:Ar .add (I (k*n:Nat)) (I (min n (len - k*n):Nat))=some (I (k*n+min n (len - k*n):Nat)):=by
   rw[Au (by omega) (by omega)];congr 3
  have hlt:k*n<k*n+min n (len - k*n):=by omega
  obtain⟨r2,t1,t2,-⟩:=mU c3 hlt (show k*n+min n (len - k*n)≤len by omega)
  have hx:(zdlrZ s len n)[k]?=some r2:=by
   unfold zdlrZ;rw[Aj3,Aq3 (hkn.2 h)]
   show some (zdhxZ s len n k)=some r2
   unfold zdhxZ;rw[t1];rfl
  simp only[Ai c1,Ah2,C1,hadd,t1];refine XOps.yield zdghZ.1 zdghZ.2.1 hY.symm hrd hpd hps hT (hr k r2 H hx hj) ?_ ?_
  ·intro H' hj'
   rw[zdghZ.2.2];obtain⟨d1,d2,d3⟩:=hcap (k+1) H' hj';refine Eq.mpr (congrArg (λL=>XOps _ l G0 chO _ L _ _ _) (Al4 _).symm) ?_;refine XOps.preP (ql:=Aw) (al:=Aw) (keep:=mk 31 0 [0,1,2,4,30]) ?_;refine Eq.mpr (zdhyZ Y (.ptr o1 0) (.ptr o2 0) _ _ _ _ H' _) ?_;simp only[Bj,Aa2];refine XOps.nil ?_;refine(?_:XCode _ l G0 (.cond (.tmp 30) .ret .skip) _ _ _ _);refine XCode.cond (b:=false) rfl ?_;simp only[An];refine XCode.skip ?_;refine(?_:XCode _ l G0 (sub [true,true,true,true,true] zB) _ _ _ _);refine XCode.of ((Fs (fl:=LT []) (ql:=Aw) (al:=Aw) (un:=Aw) (kp:=Cd []) PT _ 0 _ _ _ tE.2.2.2 (Eq.mpr (zdnaZ Y (.ptr o1 0) (.ptr o2 0) _ _ H' (λe X H2=>e=.normal∧X=[Y,.ptr o1 0,.ptr o2 0,I ((k+1)*n:Nat)]∧H2=H')) ?_)).mono ?_)
   ·have ha:Ar .add (I (k*n:Nat)) (I n)=some (I ((k+1)*n:Nat)):=by
     rw[Au (by omega) (by omega)];congr 3;rw[Al5];omega
    simp only[Ai d2,Ah2,C1,ha];exact⟨by trivial,by trivial,by trivial⟩
   ·intro e T' H2 hk2
    obtain⟨hl2,rfl,hX,rfl⟩:=C5.1 hk2;exact⟨m - 1,by have:=hkn.2 h;omega,k+1,by have:=hkn.2 h;omega,rfl,hl2,hX,hj'⟩
  ·intro c H' hx'
   rw[zdghZ.2.2];refine Eq.mpr (congrArg (λL=>XOps _ l G0 chO _ L _ _ _) (Al4 _).symm) ?_;refine XOps.preP (ql:=Aw) (al:=Aw) (keep:=mk 31 0 [0,1,2,4,30]) ?_;refine Eq.mpr (zdhyZ Y (.ptr o1 0) (.ptr o2 0) _ _ _ _ H' _) ?_;simp only[Bj,Aa,As7];refine XOps.nil ?_;refine(?_:XCode _ l G0 (.cond (.tmp 30) .ret .skip) _ _ _ _);refine XCode.cond (b:=true) rfl ?_;simp only[if_true];refine XCode.ret ?_;exact⟨.inr rfl,.inr ⟨c,rfl,hx'⟩⟩
 ·have hI:¬((k*n:Nat):Int)<(len:Int):=by omega
  simp only[hI,Dd,An];refine XCode.exit ?_
  have hkN:k=tD len n:=by
   have:=mt hkn.1 h
   omega
  exact⟨.inl rfl,.inl ⟨rfl,by rw[← hkN];exact hj⟩⟩
theorem StAt.keep {s:StS}{os:Nat}{p:AV}{H H':AH}(h:StAt s os p H)(k:∀j,j=os∨j∈AM p→H'[j]?=H[j]?):StAt s os p H':=by
 obtain⟨a,b,c,d,pv,h⟩:=h;exact⟨a,b,c,d,pv,by rw[k os (.inl rfl)];exact h.obj,h.now,h.kept,h.pm,Ae h.ps λi q=>k i (.inr q),h.po,h.pi,h.pc⟩
theorem StAt.os_lt {s:StS}{os:Nat}{p:AV}{H:AH}(h:StAt s os p H):os<H.length:=by obtain⟨a,b,c,d,pv,h⟩:=h;exact h.lt
theorem StAt.p_lt {s:StS}{os:Nat}{p:AV}{H:AH}(h:StAt s os p H):∀j∈AM p,j<H.length:=by obtain⟨a,b,c,d,pv,h⟩:=h;exact Wf h
theorem zdfkZ {H:AH}{v:AV}{cs:List AV}{m:Nat}(hv:Ac H 1 v=some (cs,m))(ho:oneA v=true):BCall prog 65 [v,I 4096] H (.fn (.func 117) [] [.ptr H.length 0,.ptr (H.length+1) 0]) (H++[some (.cells [v]),some (.cells [I 4096])]):=by
 obtain⟨r,H',⟨rfl,rfl⟩,hc⟩:=OF (a0:=v) (a1:=I 4096) (H:=H) (K:=λr H'=>r=.fn (.func 117) [] [.ptr H.length 0,.ptr (H.length+1) 0]∧H'=H++[some (.cells [v]),some (.cells [I 4096])]) (by
  unfold JE;have e1:AC H v=some (.ptr H.length 0,H++[some (.cells [v])]):=by unfold AC;rw[Bs ho];rfl
  have e2:AC (H++[some (.cells [v])]) (I 4096)=some (.ptr (H.length+1) 0,H++[some (.cells [v]),some (.cells [I 4096])]):=by unfold AC;rw[Bs (v:=I 4096) rfl];simp
  have c2:(H++[some (AObj.cells [v]),some (.cells [I 4096])])[H.length+1]?=some (some (.cells [I 4096])):=by simp
  simp only[e1,A6,e2,Ai c2,Ah,C1,Ae8,show ¬(4096:Int)<1 by omega];exact⟨by trivial,by trivial⟩)
 exact hc
def BK (b:List UInt8):List (List UInt8):=(List.range (tD b.length 4096)).map λj=>(b.drop (j*4096)).take (min 4096 (b.length - j*4096))
def pcs (ino:Int):List (List UInt8)→StS→Int→Int→(StS×Int×Int)×Int
 | [],s,at',sum=>((s,at',sum),0)
 | b::r,s,at',sum=>
  if(BI s ino at' b).1.2=0 then pcs ino r (BI s ino at' b).2 (at'+(BI s ino at' b).1.1) (sum+(BI s ino at' b).1.1)
  else(((BI s ino at' b).2,at'+(BI s ino at' b).1.1,sum+(BI s ino at' b).1.1),(BI s ino at' b).1.2)
def JK (l:List (List UInt8)):Nat:=(l.map List.length).sum
theorem zdigZ {c:List Ext}{ino pos:Int}{b:List UInt8}:∀{l:List Sp} {s:StS},(∀q∈l,pos≤q.pos∧0<q.len∧q.len≤8∧q.pos+q.len≤pos+b.length)→0≤(W2 c ino pos b l s).1.1∧(W2 c ino pos b l s).1.1≤b.length
 | [],s,_=>by unfold W2;simp only;omega
 | q::r,s,hq=>by
  have h1:=hq q (by simp);unfold W2
  split
  ·simp only;omega
  ·split
   ·simp only;omega
   ·exact zdigZ λx hx=>hq x (by simp[hx])
theorem XU (s:StS)(ino pos:Int)(b:List UInt8):0≤(BI s ino pos b).1.1∧(BI s ino pos b).1.1≤b.length:=by
 unfold BI
 split
 ·simp only;omega
 ·split
  ·simp only;omega
  ·rename_i hf
   have hf:=Aj8 hf;exact zdigZ λq hq=>X4 hf hq
abbrev zdjxZ:List Bool:=[true,true,false,true,false,false,true,true,false,false,true,true,false]
def Wp (b:List UInt8)(j:Nat):List UInt8:=(b.drop (j*4096)).take (min 4096 (b.length - j*4096))
theorem qN {b:List UInt8}{i:Nat}(h:i<tD b.length 4096):(BK b)[i]?=some (Wp b i):=by
 unfold BK;rw[Aj3,Aq3 h];rfl
theorem qO (b:List UInt8):(BK b).length=tD b.length 4096:=by simp[BK]
theorem zdjjZ {H:AH}{v:AV}{b:List UInt8}{j:Nat}(hv:Ac H 1 v=some (AY b,b.length))(hj:j*4096<b.length):
  Ac H 1 (zdhxZ v b.length 4096 j)=some (AY (Wp b j),(Wp b j).length)∧∀i∈AM (zdhxZ v b.length 4096 j),i∈AM v:=by
 obtain⟨r,h1,h2,h3⟩:=mU hv (l:=j*4096) (k:=j*4096+min 4096 (b.length - j*4096)) (by omega) (by omega);have e:zdhxZ v b.length 4096 j=r:=by unfold zdhxZ;rw[h1];rfl
 rw[e];refine⟨?_,h3⟩;rw[h2 H hv];unfold Wp;rw[Aq4,Ah8,Ai5];simp only[AY,Av1,Av2]
 congr 2
 omega
structure Bd (NN:Nat)(rest:List (List UInt8))(s:StS)(at' sum:Int):Prop where
 w:∃M,SW M s∧M+9*JK rest≤NN
 a:0≤at'∧at'+JK rest≤9223372036854775807
 s:0≤sum∧sum+JK rest≤9223372036854775807
theorem U9 (b:List UInt8)(r:List (List UInt8)):JK (b::r)=b.length+JK r:=by simp[JK]
theorem zddyZ {ino:Int}:∀{l:List (List UInt8)} {N:Nat} {s:StS} {a m:Int},SW N s→SW (N+9*JK l) (pcs ino l s a m).1.1
 | [],N,s,a,m,h=>h
 | b::r,N,s,a,m,h=>by
  have h1:=XV h ino a b;rw[U9];unfold pcs
  split
  ·exact(zddyZ h1).mono (by omega)
  ·exact h1.mono (by omega)
def PU (nm:List UInt8)(size:Int)(l:List Ext):eK:=([⟨nm,1⟩],[⟨1,size,l⟩])
theorem rR {nm:List UInt8}{size:Int}{l:List Ext}(hn:DE nm)(h:Dh size l):MayW (PU nm size l).1 (PU nm size l).2:=by
 refine⟨by simp[PU],?_,by simp[PU,Cx],by simp[PU],by simp[PU,Cx],by simpa[PU]using h,by simp[PU,Be]⟩;intro x hx;simp only[PU,Ao4]at hx;subst hx;exact⟨hn,by simp only;omega,by simp only;omega⟩
theorem rQ {nm:List UInt8}{size:Int}{l:List Ext}{o:OpM}{c:Lv}(hn:DE nm)(h:Dh size l)(hk:o.kind=2)(hi:o.ino=1)(hc:GZ o ⟨1,size,l⟩=some c):Bi (PU nm size l).1 (PU nm size l).2 o=PU nm c.1 c.2:=by
 unfold Bi;rw[if_pos (PS.2 (rR hn h)),if_neg (by omega),if_pos (by omega)];have e1:qJ Nd.ino (PU nm size l).2 o.ino=some ⟨1,size,l⟩:=by rw[hi];rfl
 have e2:Dr BP Nd.ino (PU nm size l).2 o.ino=0:=by rw[hi];rfl
 unfold PN;rw[e1];simp only[hc,e2];rfl
structure ON (nm:List UInt8)(cap:Int)(size:Int)(l:List Ext)(s:StS):Prop where
 now:s.now=PU nm size l
 nm:DE nm
 mc:Dh size l
 cap:s.cap=cap
 off:s.off=false
 armed:s.armed= -1
theorem ON.content {nm:List UInt8}{cap size:Int}{l:List Ext}{s:StS}(h:ON nm cap size l s):Aq s 1=((size,l),0):=by
 have hg:Yr s.now.1 s.now.2 1:=by
  rw[h.now];exact⟨PS.2 (rR h.nm h.mc),by simp[PU,Be]⟩
 unfold Aq;rw[if_neg (by rw[h.off];simp),if_pos hg]
 have:Fc s.now.1 s.now.2 1=⟨1,size,l⟩:=by
  unfold Fc;rw[if_pos hg,h.now];rfl
 rw[this]
theorem ON.free {nm:List UInt8}{cap size:Int}{l:List Ext}{s:StS}(h:ON nm cap size l s)(hl:(l.length:Int)<cap):LV s≠0:=by
 unfold LV;rw[h.cap,h.now];have:LC (PU nm size l).2=l.length:=by simp[LC,PU]
 rw[this];omega
theorem ON.do {nm:List UInt8}{cap size:Int}{l:List Ext}{s:StS}(h:ON nm cap size l s){p:Int}{bs:List UInt8}(hb:bs≠[])(hp:0≤p)(hlen:bs.length≤4096)(hf:p≤1099511627776 - bs.length):
  (HX s (EP 1 p bs)).1=0∧ON nm cap (max size (p+bs.length)) (BH l p bs) (HX s (EP 1 p bs)).2:=by
 have hw:Dx (size,l) p bs=some (max size (p+bs.length),BH l p bs):=by
  unfold Dx;rw[if_pos ⟨h.mc,hp,hlen,hf⟩,if_neg hb]
 have hd:A9 s=(true,s):=by
  unfold A9;rw[if_neg (by rw[h.off,h.armed];simp),if_neg (by rw[h.armed];omega)]
 unfold HX;rw[hd];refine⟨rfl,?_,h.nm,iA hw,h.cap,h.off,h.armed⟩
 show Bi s.now.1 s.now.2 (EP 1 p bs)=_
 rw[h.now];refine rQ (o:=EP 1 p bs) (c:=(max size (p+bs.length),BH l p bs)) h.nm h.mc rfl rfl ?_
 show(if(2:Int)=2 then Dx (size,l) p bs else _)=_
 rw[if_pos rfl,hw]
theorem jT {b:List UInt8}(h:b.length≤4096):BK b=if b=[]then []else [b]:=by
 unfold BK tD
 by_cases hb:b=[]
 ·subst hb;rfl
 ·have:0<b.length:=List.length_pos_iff.2 hb
  rw[if_neg hb,show(b.length+4096 - 1)/4096=1 by omega];simp;rw[Ai2 (by omega)]
theorem RJ:∀{bl:List (AV×List UInt8)},(∀x∈bl,x.2.length≤4096)→(bl.flatMap λx=>BK x.2).flatten=(bl.map Prod.snd).flatten∧(∀b∈bl.flatMap λx=>BK x.2,b.length≤4096)∧JK (bl.flatMap λx=>BK x.2)=((bl.map Prod.snd).flatten).length
 | [],_=>by simp[JK]
 | x::r,h=>by
  obtain⟨i1,i2,i3⟩:=RJ (bl:=r) λy hy=>h y (by simp[hy])
  have hx:=h x (by simp);have ec:=jT hx;simp only[Aj9,Ao8,As8,List.flatten_append,Ai3];refine⟨?_,?_,?_⟩
  ·rw[i1,ec];split
   ·rename_i e;rw[e];rfl
   ·simp
  ·intro b hb
   rw[Al3]at hb;rcases hb with hb | hb
   ·rw[ec]at hb
    split at hb
    ·simp at hb
    ·simp at hb;rw[hb];exact hx
   ·exact i2 b hb
  ·have:JK (BK x.2)=x.2.length:=by
    rw[ec];split
    ·rename_i e;rw[e];rfl
    ·simp[JK]
   rw[← i3,← this];simp[JK]
end
end Go.Proofs.YtadghlcfbajamaaGreat.Av
