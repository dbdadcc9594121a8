/- Texts of this proof, one behind the other, packed into one file by a program of this session. No condition. -/
import Derived.Test.YtbppnhenlboefaaGreatMpH
import Derived.KernelRfl
set_option linter.unusedVariables false
set_option linter.unusedSimpArgs false
set_option maxRecDepth 100000
namespace Go.Proofs.YtbppnhenlboefaaGreat.Av
open Go Go.RowKit Go.Proofs.Tryz
section
def GrN (N:Nat)(H H':AH):Prop:=H.length<=H'.length/\∀i,i<N->H'[i]?=H[i]?
theorem GrN.trans {N:Nat}{A B C:AH}(h:GrN N A B)(k:GrN N B C):GrN N A C:=⟨Al1 h.1 k.1,λi a=>(k.2 i a).trans (h.2 i a)⟩
theorem GrN.of {N:Nat}{A B:AH}(h:Grew A B)(a:N<=A.length):GrN N A B:=⟨h.1,λi b=>h.2 i (by omega)⟩
structure OwN (N sz:Nat)(cs:List AV)(n:Nat)(r:AV)(H:AH):Prop where
 s:Ac H sz r=some (cs,n)
 o:Bm r=true
 i:∀i∈Ba r,N<=i
 c:Dk r n
theorem Aci {sz bytes:Nat}{H:AH}{x:AV}{ds:List AV}{m:Nat}(d:B1 H sz x=some (ds,m))(l:m*bytes<=140737488355328):∃r H',Gt sz bytes H Ad x=some (r,H')/\OwN H.length sz ds m r H'/\Grew H H':=by
 have c:Ac H sz Ad=some ([],0):=rfl;obtain⟨r,e,b,a2,f,g,h,j⟩:=Cn (bytes:=bytes) c rfl d (by rw[Ar4];exact l);have k:=Vv c rfl d (by simp[Dk]) b;exact⟨r,e,b,⟨by simpa using f,a2,λi a=>(j i a).elim (by simp[Ba]) id,by simpa using k⟩,g,λi a=>h i a (by simp[Ba])⟩
theorem Abd {N sz bytes:Nat}{H:AH}{s x:AV}{cs ds:List AV}{n m:Nat}(hs:OwN N sz cs n s H)(d:B1 H sz x=some (ds,m))(p:N<=H.length)(l:(n+m)*bytes<=140737488355328):∃r H',Gt sz bytes H s x=some (r,H')/\OwN N sz (cs++ds) (n+m) r H'/\GrN N H H':=by
 obtain⟨r,e,a,a2,f,g,h,j⟩:=Cn (bytes:=bytes) hs.s hs.o d l;have k:=Vv hs.s hs.o d hs.c a;exact⟨r,e,a,⟨f,a2,λi b=>(j i b).elim (hs.i i) (λq=>by omega),k⟩,g,λi b=>h i (by omega) (λq=>by have:=hs.i i q;omega)⟩
theorem OwN.grew {N sz n:Nat}{cs:List AV}{r:AV}{H H':AH}(h:OwN N sz cs n r H)(g:Grew H H'):OwN N sz cs n r H':=⟨g.slice h.s,h.o,h.i,h.c⟩
theorem Ko {α:Type}{enc:α->List AV}{sz:Nat}(d:∀x,(enc x).length=sz){H:AH}{v:AV}{l:List α}(h:Ac H sz v=some (l.flatMap enc,l.length)){k:Nat}(f:k<=l.length):
  (∃r,Bq sz v none (some (I k)) none=some r/\Ac H sz r=some ((l.take k).flatMap enc,k)/\∀i∈Ba r,i∈Ba v)/\∃r,Bq sz v (some (I k)) none none=some r/\Ac H sz r=some ((l.drop k).flatMap enc,l.length - k)/\∀i∈Ba r,i∈Ba v:=by
 constructor
 ·obtain⟨r,b,a,c,-⟩:=DS h (lo:=none) (hi:=some (I k)) (l:=0) (k:=k) rfl (by simp[BL]) (by omega) f;refine⟨r,b,?_,c⟩;rw[a,Au3,Al8,At1,IA d]
 ·obtain⟨r,b,a,c,-⟩:=DS h (lo:=some (I k)) (hi:=none) (l:=k) (k:=l.length) (by simp[BL]) rfl f (Aj7 _);refine⟨r,b,?_,c⟩;rw[a,Hj d,Aj3];rw[BW a |>λe=>(by have:=Hj d l k;rw[<- this,Aj9,BW h,Nat.mul_comm,<- Nat.mul_comm sz,<- Nat.mul_sub,Nat.mul_comm]:((l.drop k).flatMap enc).length=(l.length - k)*sz)];exact Aj7 _
theorem yV {L d:Nat}{ns:List Nm}{B:List NdV}{a b:AV}{H:AH}{s:List UInt8}{no:Int}(h:ImH L d ns B a b H)(hn:ns.length<=100000):
  ∃r H',Abc L d H (GN Bv Nm.name ns ⟨s,no⟩) B r H'/\Ba0 205 [.ptr d 0,S (Ax s),I no] H r H':=WT (by
 unfold Rq;have g:=h.obj;refine Rr (λn T z U V H'=>∃k:Nat,k+n=ns.length/\T=.ptr d 0/\z=S (Ax s)/\U=I no/\V=I k/\H'=H/\∀m y,m<k->ns[m]?=some y->Bv y.name s<0) ?_ ns.length ⟨0,by omega,rfl,rfl,rfl,rfl,rfl,by omega⟩;rintro n T z U V H' R hR ⟨k,hk,rfl,rfl,rfl,rfl,rfl,C⟩;unfold KH;have D:=Bt h.sa;have J:DG Bv Nm.name ns s=k->
   bO (Bq 2 a none (some (I k)) none) (λae=>bH (Gt 2 24 H' Ad ae) λaf X=>
    bO (Dy [(.lit (.string ⟨#[]⟩)),(I 0)] [(0,1,S (Ax s)),(1,1,I no)]) λag=>bH (Co X 2 1 (Bx [(.lit (.string ⟨#[]⟩)),(I 0)] 1) [(0,2,ag)]) λah Y=>bH (Gt 2 24 Y af ah) λai F=>
    bO (Aj (.ptr d 0)) λaj=>bO (Ab 0 aj) λak=>bO (Aq false 1 F ak) λal=>bO (Bq 2 al (some (I k)) none none) λam=>bH (Gt 2 24 F ai am) λan Z=>
    bO (Aj (.ptr d 0)) λao=>bO (Ab 0 ao) λap=>bS (AU 1 Z ap an) λaa=>Abc L d H' (GN Bv Nm.name ns ⟨s,no⟩) B (.tup []) aa):=by
  intro hp;obtain⟨⟨s1,e1,t1,i1⟩,-⟩:=Ko Cg h.sa (show k<=ns.length by omega);obtain⟨r1,f,e2,w1,K⟩:=Aci (bytes:=24) (AA t1) (by omega);have M:=Grew.app f [some (.cells (Ct ⟨s,no⟩))];have w2:=w1.grew M;have aq:=K.1;have z:B1 (f++[some (.cells (Ct ⟨s,no⟩))]) 2 (.sl f.length 0 1 2 (.ex 1))=some (Ct ⟨s,no⟩,1):=AA (by rw[AS (c:=Ct ⟨s,no⟩) (by simp) (by simp[Ct])];rfl);obtain⟨r2,p,e3,w3,g3⟩:=Abd (bytes:=24) w2 z (by simp;omega) (by omega);have q:GrN H'.length H' p:=(GrN.of (K.trans M) (Aj7 _)).trans g3;have ab:=(BG.1 g).1;have A:p[d]?=some (some (.cells [a,b])):=by rw[q.2 d ab];exact g
  have ad:Ac p 2 a=some (ns.flatMap Ct,ns.length):=Ai h.sa λi j=>q.2 i (A5 h.sa i j);obtain⟨-,⟨s2,e4,t2,i2⟩⟩:=Ko Cg ad (show k<=ns.length by omega);obtain⟨O,W,e5,w,g4⟩:=Abd (bytes:=24) w3 (AA t2) q.1 (by omega);have el:=XZ (c:=Bv) (key:=Nm.name) (l:=ns) (x:=⟨s,no⟩);have ev:(ns.take k).flatMap Ct++Ct ⟨s,no⟩++(ns.drop k).flatMap Ct=(GN Bv Nm.name ns ⟨s,no⟩).flatMap Ct:=by unfold GN;rw[show DG Bv Nm.name ns (Nm.name ⟨s,no⟩)=k from hp,Am6,Al5,Ak7]
  have G:k+1+(ns.length - k)=(GN Bv Nm.name ns ⟨s,no⟩).length:=by omega
  have N:=q.trans g4;obtain⟨H4,e6,n1,n2⟩:=h.newA (ms:=GN Bv Nm.name ns ⟨s,no⟩) (H':=W) (r:=O) N.1 (λi j _=>N.2 i j) (by rw[<- ev,<- G];exact w.s) w.o (by rw[<- G];exact w.c) (λi j=>.inr (w.i i j));have e7:Co f 2 1 (Bx [(.lit (.string ⟨#[]⟩)),(I 0)] 1) [(0,2,.agg (Ct ⟨s,no⟩))]=some (.sl f.length 0 1 2 (.ex 1),f++[some (.cells (Ct ⟨s,no⟩))]):=rfl;have e8:Dy [(.lit (.string ⟨#[]⟩)),(I 0)] [(0,1,S (Ax s)),(1,1,I no)]=some (.agg (Ct ⟨s,no⟩)):=rfl;have e9:Aq false 1 p (.ptr d 0)=some a:=by rw[Ah A];rfl
  simp only[e1,Aa,e2,A6,e8,e7,e3];show bO (some (AV.ptr d 0)) _;simp only[Aa];show bO (some (AV.ptr d 0)) _;simp only[Aa,e9,e4,e5,A6];show bO (some (AV.ptr d 0)) _;simp only[Aa];show bO (some (AV.ptr d 0)) _;simp only[Aa,e6,A9];exact⟨rfl,O,b,n1,n2⟩
 rcases Aj5 k ns.length with u | u
 ·have v:=Dq u;generalize ns[k]=x at v;obtain⟨o,ar,cells,P,u2,Q,u4,u5,-⟩:=Yj Cg (by omega) h.sa h.oa v;have E:=u5 0 (by omega);rw[Ao8]at E;by_cases t:Bv x.name s<0
  ·simp[g,D,u,P,Q,E,Ct,Ahc,t,Au (a:=k) (b:=1) (by omega) (by omega)]
   exact hR (n - 1) _ _ _ _ _ (by omega) ⟨k+1,by omega,rfl,rfl,rfl,by simp,rfl,λm y hm e=>by
    by_cases A:m=k
    ·rw[A,v]at e;injection e with e;rw[<- e];exact t
    ·exact C m y (by omega) e⟩
  ·have:=J (SR (by omega) C (λy e=>by rw[v]at e;injection e with e;rw[<- e];exact t));simp at this;simp[g,D,u,P,Q,E,Ct,Ahc,t];exact this
 ·have:=J (SR (by omega) C (λy e=>by have:=(BG.1 e).1;omega));simp at this;simp[g,D,show ¬k<ns.length by omega];exact this)
theorem Sm.sub {ns ms:List Nm}{ds a:List Nd}(h:Sm ns ds)(b:ms.Sublist ns)(c:a.Sublist ds):Sm ms a:=
 ⟨Al1 b.length_le h.1,Al1 c.length_le h.2.1,λx f=>h.2.2.1 x (b.subset f),λd e=>h.2.2.2 d (c.subset e)⟩
theorem Ash {L j k:Nat}{ns:List Nm}{u:List NdV}{a b:AV}{H:AH}(h:ImH L j ns u a b H)(N:k<ns.length)(O:ns.length<=100000):
  ∃n m e p d f g,Bq 2 a none (some (I k)) none=some n/\Gt 2 24 H Ad n=some (m,e)/\e[j]?=some (some (.cells [a,b]))/\Bq 2 a (some (I ((k:Int)+1))) none none=some p/\Gt 2 24 e m p=some (d,f)/\AU 1 f (.ptr j 0) d=some g/\ImH L j (ns.take k++ns.drop (k+1)) u d b g/\FrL L j H g:=by
 have x:=h.obj;obtain⟨⟨n,y,J,P⟩,-⟩:=Ko Cg h.sa (show k<=ns.length by omega);obtain⟨m,e,z,M,l⟩:=Aci (bytes:=24) (AA J) (by omega);have G:=l.slice h.sa;obtain⟨-,⟨p,A,K,Q⟩⟩:=Ko Cg G (show k+1<=ns.length by omega);obtain⟨d,f,B,q,D⟩:=Abd (bytes:=24) M (AA K) l.1 (by omega);have w:=(GrN.of l (Aj7 _)).trans D;have v:k+(ns.length - (k+1))=(ns.take k++ns.drop (k+1)).length:=by simp;omega
 obtain⟨g,C,E,F⟩:=h.newA (ms:=ns.take k++ns.drop (k+1)) (H':=f) (r:=d) w.1 (λi t _=>w.2 i t) (by rw[Am6,<- v];exact q.s) q.o (by rw[<- v];exact q.c) (λi t=>.inr (q.i i t));exact⟨n,m,e,p,d,f,g,y,z,l.cells x,A,B,C,E,F⟩
theorem Asi {L l k:Nat}{ns:List Nm}{d:List NdV}{a b:AV}{H:AH}(h:ImH L l ns d a b H)(O:k<d.length)(P:d.length<=100000):
  ∃p n f q e g j,Bq 3 b none (some (I k)) none=some p/\Gt 3 40 H Ad p=some (n,f)/\f[l]?=some (some (.cells [a,b]))/\Bq 3 b (some (I ((k:Int)+1))) none none=some q/\Gt 3 40 f n q=some (e,g)/\AU 1 g (.ptr l 1) e=some j/\ImH L l ns (d.take k++d.drop (k+1)) a e j/\FrL L l H j:=by
 have x:=h.obj;obtain⟨⟨p,y,J,Q⟩,-⟩:=Ko BN h.sb (show k<=d.length by omega);obtain⟨n,f,z,M,m⟩:=Aci (bytes:=40) (AA J) (by omega);have G:=m.slice h.sb;obtain⟨-,⟨q,A,K,R⟩⟩:=Ko BN G (show k+1<=d.length by omega);obtain⟨e,g,B,t,D⟩:=Abd (bytes:=40) M (AA K) m.1 (by omega);have w:=(GrN.of m (Aj7 _)).trans D;have v:k+(d.length - (k+1))=(d.take k++d.drop (k+1)).length:=by simp;omega
 obtain⟨j,C,E,F⟩:=h.newB (ew:=d.take k++d.drop (k+1)) (H':=g) (r:=e) w.1 (λi u _=>w.2 i u) (by rw[Am6,<- v];exact t.s) t.o (by rw[<- v];exact t.c) (λi u=>.inr (t.i i u));exact⟨p,n,f,q,e,g,j,y,z,m.cells x,A,B,C,E,F⟩
theorem Aeq {L g:Nat}{ns:List Nm}{c:List NdV}{a b:AV}{H:AH}{s:List UInt8}(h:ImH L g ns c a b H)(hs:CQ Bv Nm.name ns)(l:CQ Cj NdV.ino c)(e:Sm ns (c.map NdV.nd))(q:Bo Nm.name ns s)(f:Bool)(d:f=true->Bo NdV.ino c (Dx ns s)):
  ∃r H',Abc L g H (DK Bv Nm.name ns s) (if f=true then DK Cj NdV.ino c (Dx ns s)else c) r H'/\Ba0 206 [.ptr g 0,S (Ax s),B f] H r H':=Zr (by
 have A:=e.1;have k:=e.2.1;rw[Ak8]at k;obtain⟨u,v,sa,sb,fz⟩:=h.lend;have C:=h.obj;have j:∀x y:AV,A1 true 2 [x,y] 0=some (.agg [x,y]):=λ_ _=>rfl;unfold UO;simp[C,j];refine bP_of (PCall.lend (FZs.cons fz (FZs.cons (FZ.lit _) FZs.nil)) rfl (G4 ⟨u,v,c,rfl,sa,sb,rfl⟩ e s)) ?_;rw[Uz koN hs q];obtain⟨x,m,Y,ab⟩:=Ie koN hs q;have M:Dx ns s=x.ino:=by unfold Dx;rw[Y]
 rw[M]at d|-;obtain⟨o,ad,cells,u1,u2,u3,u4,u5,-⟩:=Yj Cg (by omega) h.sa h.oa m;have aa:=u5 1 (by omega);have X:=(BG.1 m).1;obtain⟨s1,r1,H1,s2,r2,H2,t,E,F,G,I,J,K,n,p⟩:=Ash h X A;have D:=n.obj;have i:ImH L g (DK Bv Nm.name ns s) c r2 b t:=n;obtain⟨w,z,ta,tb,U⟩:=i.lend;have V:Sm (DK Bv Nm.name ns s) (c.map NdV.nd):=e.sub delK_sub (List.Sublist.refl _);simp[u1,u3,aa,Ct,E,F,G,Au (a:=(DG Bv Nm.name ns s:Nat)) (b:=1) (by omega) (by omega),I,J,K,D,j];refine bP_of (PCall.lend (FZs.cons U (FZs.cons (FZ.lit _) FZs.nil)) rfl (Kb ⟨w,z,c,rfl,ta,tb,rfl⟩ V x.ino)) ?_;cases f with
 | false=>
  simp;exact⟨rfl,_,_,i,p⟩
 | true=>
  have d:=d rfl;rw[Uz koI (RV.2 l) (Ly.2 d),Qx];have W:=eC koI l d;obtain⟨s3,r3,H4,s4,r4,H5,H6,N,O,P,Q,R,T,Z,m2⟩:=Asi i W k;simp[N,O,P,Au (a:=(DG Cj NdV.ino c x.ino:Nat)) (b:=1) (by omega) (by omega),Q,R,T];exact⟨rfl,_,_,Z,p.trans m2⟩)
theorem kB {H:AH}{ns:List Nm}{g:List NdV}{a b:AV}(X:SV Ct 2 ns a)(E:SV BS 3 g b)(hn:ns.length<=100000)(hm:g.length<=100000)(hl:∀d∈g,d.nd.l.length<=1000000):
  ∃r H',Ais H ns (g.map NdV.nd) r H'/\Ba0 177 [.agg [a,b]] H r H':=TD (by
 unfold M9;have oa:=SV.oneA X;have ob:=SV.oneA E;obtain⟨t,e3,P,c1,g3,l3⟩:∃t,AE (H++[some (.cells [a,b])]) (.agg [Ad,Ad])=some (.ptr (H.length+1) 0,t)/\t[H.length]?=some (some (.cells [a,b]))/\t[H.length+1]?=some (some (.cells [Ad,Ad]))/\Grew H t/\t.length=H.length+2:=by refine⟨H++[some (.cells [a,b]),some (.cells [Ad,Ad])],by simp,by simp,by rw[Aj8 (by omega)];simp,Grew.app _ _,by simp⟩
 simp[oa,ob,e3,P];obtain⟨f,e,e7,w,A⟩:=Aci (bytes:=24) (AA (X.2 t)) (by omega);have N:=AI w.o;have l7:=A.1;have Y:=w.i;simp[e7,Bn N]
 obtain⟨j,aa,d9,z,am⟩:∃j,AU 2 (e++[some (.cells [Ad,Ad])]) (.ptr e.length 0) (.agg [f,Ad])=some j/\j[e.length]?=some (some (.cells [f,Ad]))/\Grew e j/\j.length=e.length+1:=by exact⟨e++[some (.cells [f,Ad])],by simp[AU,Bb,N],by simp,Grew.app _ _,by simp⟩
 simp[aa];have ak:=z.slice w.s;have d0:=z.cells (A.cells P);have d1:=z.cells (A.cells c1);have ad:Grew H j:=g3.trans (A.trans z);refine Oh (λn Z x2 x3 x4 H'=>∃(k:Nat) (u:List NdV) (m:AV),k+n=g.length/\Z=.ptr H.length 0/\x2=.ptr (H.length+1) 0/\x3=.ptr e.length 0/\x4=I k/\u.map NdV.nd=(g.map NdV.nd).take k/\H'[e.length]?=some (some (.cells [f,m]))/\OwN j.length 3 (u.flatMap BS) u.length m H'/\j.length<=H'.length/\∀i,i<j.length->i≠e.length->H'[i]?=j[i]?) ?_ g.length ⟨0,[],Ad,by omega,rfl,rfl,rfl,rfl,rfl,d9,⟨rfl,rfl,by simp[Ba],by simp[Dk]⟩,Aj7 _,λ_ _ _=>rfl⟩;rintro n Z x2 x3 x4 H' R hR ⟨k,u,m,hk,rfl,rfl,rfl,rfl,B,L,p,af,y⟩;unfold Ik;have Q:H'[H.length]?=some (some (.cells [a,b])):=by rw[y _ (by omega) (by omega)];exact d0
 have el:u.length=k:=by have:=congrArg List.length B;simp at this;omega
 have aj:=AI p.o;rcases Aj5 k g.length with h | h
 ·have C:=Dq h;generalize g[k]=x at C;have al:=hl x (Aj2 C);obtain⟨G,O,p2⟩:=yZ (size:=x.nd.size) x.h (by omega);have ei:=E.idx BN C rfl;have o2:=SV.oneA O;simp[Q,E.len,h,L,ei,wA];refine bP_of p2 ?_;have ap:B1 H' 3 (.imm [I x.nd.ino,I x.nd.size,G] 1 3)=some (BS ⟨x.nd,G,O⟩,1):=AA (by simp[Ac,BS]);obtain⟨D,F,e4,v,K⟩:=Abd (bytes:=40) p ap af (by omega);have ae:e.length<j.length:=by omega
  have V:F[e.length]?=some (some (.cells [f,m])):=by rw[K.2 _ ae];exact L
  have ai:=AI v.o;have J:AU 1 F (.ptr e.length 1) D=some (F.set e.length (some (.cells [f,D]))):=by rw[AG (n:=1) (off:=1) (xs:=[D]) (cs:=[f,m]) (Bn ai) V rfl (by simp)];rfl
  have ag:=(BG.1 V).1;simp[o2,e4,J,Au (a:=k) (b:=1) (by omega) (by omega)];refine hR (n - 1) _ _ _ _ _ (by omega) ⟨k+1,u++[⟨x.nd,G,O⟩],D,by omega,rfl,rfl,rfl,by simp,?_,by simp[ag],⟨?_,v.o,v.i,by simpa using v.c⟩,by rw[Ak4];have:=K.1;omega,λi T U=>?_⟩
  ·rw[An0,B,EK (x:=x.nd) (by rw[Al2,C];rfl)];rfl
  ·have:=v.s;rw[Am6,List.flatMap_singleton,Ak1,List.length_singleton];exact Ai this λi M=>Cc (by have:=v.i i M;omega)
  ·rw[Cc (Al6 U),K.2 i T,y i T U]
 ·have ek:(g.map NdV.nd).take k=g.map NdV.nd:=Aj3 (by simp;omega);rw[ek]at B;have b0:A1 true 2 [f,m] 0=some (.agg [f,m]):=rfl;have S:H'[H.length+1]?=some (some (.cells [Ad,Ad])):=by rw[y _ (by omega) (by omega)];exact d1
  have ab:=(BG.1 S).1;have J:AU 2 H' (.ptr (H.length+1) 0) (.agg [f,m])=some (H'.set (H.length+1) (some (.cells [f,m]))):=by rw[AG (n:=2) (off:=0) (xs:=[f,m]) (by simp[N,aj]) S rfl (by simp)];rfl
  simp[Q,E.len,show ¬k<g.length by omega,L,b0,J,ab];have W:=A5 w.s;refine⟨f,m,u,rfl,B,⟨by rw[Ak4];omega,λi M=>by rw[Cc (by omega),y i (by omega) (by omega)];exact ad.2 i M⟩,⟨?_,w.o,w.c,λi q=>by have:=Y i q;omega,?_,p.o,p.c,λi q=>by have:=p.i i q;omega,λi q1 q2=>by have:=p.i i q2;have:=W i q1;omega⟩⟩
  ·refine Ai ak λi q=>?_;have h1:=Y i q;have h2:=W i q;rw[Cc (by omega),y i (by omega) (by omega)]
  ·exact Ai p.s λi q=>Cc (by have:=p.i i q;omega))
theorem wZ {d:Nd}{R bv:AV}{o:OpM}(g:SV AB 9 d.l R)(hl:d.l.length<=1000000)(q:SV Ft 1 o.b bv)(v:o.b.length<=281474976710656):
  ∃R',SV AB 9 (cL (I9 o d)) R'/\Ba2 207 [.agg [I d.size,R],.agg (BO o bv)] (.tup [.agg [I (cS (I9 o d)),R'],B (I9 o d).isSome]):=by
 have j:=SV.oneA g;have k:=SV.oneA q;have w:AF [.agg [I d.size,R],.agg (BO o bv)]=true:=by simp[AF,noIds,g.1,BO,q.1]
 have n:∀(m:Option I5) (R':AV),I9 o d=m->SV AB 9 (cL m) R'->Dz (.agg [I d.size,R]) (.agg (BO o bv)) [] (λr _=>r=.tup [.agg [I (cS m),R'],B m.isSome])->∃R',SV AB 9 (cL (I9 o d)) R'/\Ba2 207 [.agg [I d.size,R],.agg (BO o bv)] (.tup [.agg [I (cS (I9 o d)),R'],B (I9 o d).isSome]):=by intro m R' hr s u;rw[hr];exact⟨R',s,BPure.val w (by simp[noIds,AF,s.1]) (WU u)⟩
 have x:A1 true 8 (BO o bv) 0=some (.agg (BO o bv)):=rfl;by_cases c:o.kind=2
 ·obtain⟨R',a,f⟩:=Qz (size:=d.size) g hl o.pos q v;refine n _ R' (by unfold I9;rw[if_pos c]) a ?_;have e:=SV.oneA a;unfold Dz;simp[j,k,BO,c,A1];refine Az f ?_;simp[e,AU,Bb]
 ·by_cases h:o.kind=3
  ·obtain⟨R',a,f⟩:=M4 (size0:=d.size) g hl o.size;refine n _ R' (by unfold I9;rw[if_neg c,if_pos h]) a ?_;have e:=SV.oneA a;unfold Dz;simp[j,k,BO,h,A1];refine Az f ?_;simp[e,AU,Bb]
  ·by_cases i:o.kind=4
   ·obtain⟨R',a,f⟩:=M3 (size:=d.size) g hl o.pos o.size o.keep;refine n _ R' (by unfold I9;rw[if_neg c,if_neg h,if_pos i]) a ?_;have e:=SV.oneA a;unfold Dz;simp[j,k,BO,i,A1];refine Az f ?_;simp[e,AU,Bb]
   ·by_cases p:o.kind=5
    ·obtain⟨R',a,f⟩:=Qy (size:=d.size) g hl o.pos o.size;refine n _ R' (by unfold I9;rw[if_neg c,if_neg h,if_neg i,if_pos p]) a ?_;have e:=SV.oneA a;unfold Dz;simp[j,k,BO,p,A1];refine Az f ?_;simp[e,AU,Bb]
    ·refine n none Ad (by unfold I9;rw[if_neg c,if_neg h,if_neg i,if_neg p]) SV.nil ?_;unfold Dz;simp[j,k,BO,c,h,i,p,AU,Bb,A1,cS]
theorem Asj {ds:List Nd}{o:OpM}(h:¬(o.kind=2\/o.kind=3\/o.kind=4\/o.kind=5)):V2 ds o=ds:=by
 have a:∀d,I9 o d=none:=λd=>by unfold I9;rw[if_neg (by omega),if_neg (by omega),if_neg (by omega),if_neg (by omega)]
 unfold V2;split
 ·rw[a]
 ·rfl
theorem DB {d:Nat}{ns:List Nm}{c:List NdV}{a b:AV}{H:AH}{p:List Nm×List Nd}(h:ImH 3 d ns c a b H)(w:3<=d)(f:H[2]?=some (some (.cells [Ad,Ad])))(r:p=(ns,c.map NdV.nd)):Bk (.ptr 2 0) (.ptr d 0) H (Aas p):=by
 rw[Ky];unfold GG;have e:=h.obj;have k:A1 true 2 [a,b] 0=some (.agg [a,b]):=rfl;have s:=AI h.oa;have t:=AI h.ob;have o:=(BG.1 f).1;have l:AU 2 H (.ptr 2 0) (.agg [a,b])=some (H.set 2 (some (.cells [a,b]))):=by rw[AG (n:=2) (off:=0) (xs:=[a,b]) (by simp[s,t]) f rfl (by simp)];rfl
 simp[e,k,l,o];have m:ImH 3 d ns c a b (H.set 2 (some (.cells [a,b]))):=⟨by rw[Cc (by omega)];exact e,h.lo,by simpa using h.len,Ai h.sa λi q=>Cc (by have:=h.ia i q;omega),h.oa,h.ca,h.ia,Ai h.sb λi q=>Cc (by have:=h.ib i q;omega),h.ob,h.cb,h.ib,h.ab⟩;obtain⟨g,j,u,v,fz⟩:=m.lend;subst r;exact⟨_,fz,g,j,c,rfl,u,v,rfl⟩
theorem Ask {e:Nat}{ns:List Nm}{d:List NdV}{a b bv:AV}{H:AH}{o:OpM}{K:AV->AH->Prop}(h:ImH 3 e ns d a b H)(F:H[1]?=some (some (.cells (BO o bv))))(ax:3<=e)(hm:d.length<=100000)
  (hK:∀r H',ImH 3 e ns (GN Cj NdV.ino d (newD o.ino)) a r H'->FrL 3 e H H'->Bk (.ptr 2 0) (.ptr e 0) H' K):Ho (.ptr 1 0) (.ptr 2 0) (.ptr e 0) (I 0) H K:=by
 have j:=h.obj;refine Re (λn V W X Y H'=>∃k:Nat,k+n=d.length/\V=.ptr 1 0/\W=.ptr 2 0/\X=.ptr e 0/\Y=I k/\H=H'/\∀m y,m<k->d[m]?=some y->Cj y.ino o.ino<0) ?_ d.length ⟨0,by omega,rfl,rfl,rfl,rfl,rfl,by omega⟩;rintro n V W X Y H' R hR ⟨k,hk,rfl,rfl,rfl,rfl,rfl,E⟩;unfold Kz;have G:=Bt h.sb;have O:DG Cj NdV.ino d o.ino=k->
   bO (Bq 3 b none (some (I k)) none) (λai=>bH (Gt 3 40 H Ad ai) λaj L=>
    bO (Ab 1 (.ptr 1 0)) λak=>bO (Aq false 1 L ak) λal=>bO (Dy [(I 0),(I 0),Ad] [(0,1,al)]) λam=>bH (Co L 3 1 (Bx [(I 0),(I 0),Ad] 1) [(0,3,am)]) λan aa=>bH (Gt 3 40 aa aj an) λao M=>
    bO (Ab 1 (.ptr e 0)) λap=>bO (Aq false 1 M ap) λaq=>bO (Bq 3 aq (some (I k)) none none) λar=>bH (Gt 3 40 M ao ar) λau ab=>
    bO (Ab 1 (.ptr e 0)) λav=>bS (AU 1 ab av au) λad=>Bk (.ptr 2 0) (.ptr e 0) ad K):=by
  intro ag;have af:=(BG.1 j).1;obtain⟨⟨s1,e1,t1,i1⟩,-⟩:=Ko BN h.sb (show k<=d.length by omega);obtain⟨r1,g,e2,w1,C⟩:=Aci (bytes:=40) (AA t1) (by omega);have p1:=C.cells F;have P:=Grew.app g [some (.cells (BS (newD o.ino)))];have w2:=w1.grew P;have aw:=C.1;have x1:B1 (g++[some (.cells (BS (newD o.ino)))]) 3 (.sl g.length 0 1 3 (.ex 1))=some (BS (newD o.ino),1):=AA (by rw[AS (c:=BS (newD o.ino)) (by simp) (by simp[BS])];rfl);obtain⟨r2,t,e3,w3,g3⟩:=Abd (bytes:=40) w2 x1 (by simp;omega) (by omega);have u:GrN H.length H t:=(GrN.of (C.trans P) (Aj7 _)).trans g3;have B:t[e]?=some (some (.cells [a,b])):=by rw[u.2 e af];exact j
  have ah:Ac t 3 b=some (d.flatMap BS,d.length):=Ai h.sb λi p=>u.2 i (A5 h.sb i p);obtain⟨-,⟨s2,e4,t2,i2⟩⟩:=Ko BN ah (show k<=d.length by omega);obtain⟨S,Z,e5,A,g4⟩:=Abd (bytes:=40) w3 (AA t2) u.1 (by omega);have el:=XZ (c:=Cj) (key:=NdV.ino) (l:=d) (x:=newD o.ino);have ev:(d.take k).flatMap BS++BS (newD o.ino)++(d.drop k).flatMap BS=(GN Cj NdV.ino d (newD o.ino)).flatMap BS:=by unfold GN;rw[show DG Cj NdV.ino d (NdV.ino (newD o.ino))=k from ag,Am6,Al5,Ak7]
  have N:k+1+(d.length - k)=(GN Cj NdV.ino d (newD o.ino)).length:=by omega
  have Q:=u.trans g4;obtain⟨H4,e6,n1,n2⟩:=h.newB (ew:=GN Cj NdV.ino d (newD o.ino)) (H':=Z) (r:=S) Q.1 (λi p _=>Q.2 i p) (by rw[<- ev,<- N];exact A.s) A.o (by rw[<- N];exact A.c) (λi p=>.inr (A.i i p));have e7:Co g 3 1 (Bx [(I 0),(I 0),Ad] 1) [(0,3,.agg (BS (newD o.ino)))]=some (.sl g.length 0 1 3 (.ex 1),g++[some (.cells (BS (newD o.ino)))]):=rfl;have e8:Dy [(I 0),(I 0),Ad] [(0,1,I o.ino)]=some (.agg (BS (newD o.ino))):=rfl;have e9:Aq false 1 t (.ptr e 1)=some b:=by rw[Ah B];rfl
  have ae:Aq false 1 g (.ptr 1 1)=some (I o.ino):=by rw[Ah p1];rfl
  simp only[e1,Aa,e2,A6];show bO (some (AV.ptr 1 1)) _;simp only[Aa,ae,e8,e7,A6,e3];show bO (some (AV.ptr e 1)) _;simp only[Aa,e9,e4,e5,A6];show bO (some (AV.ptr e 1)) _;simp only[Aa,e6,A9];exact hK S H4 n1 n2
 rcases Aj5 k d.length with w | w
 ·have z:=Dq w;generalize d[k]=x at z;obtain⟨o',ay,cells,T,u2,U,u4,u5,-⟩:=Yj BN (by omega) h.sb h.ob z;have J:=u5 0 (by omega);rw[Ao8]at J;by_cases v:Cj x.ino o.ino<0
  ·have D:x.nd.ino<o.ino:=S4.1 v;simp[j,F,BO,G,w,T,U,J,BS,D,Au (a:=k) (b:=1) (by omega) (by omega)]
   exact hR (n - 1) _ _ _ _ _ (by omega) ⟨k+1,by omega,rfl,rfl,rfl,by simp,rfl,λm y hm f=>by
    by_cases B:m=k
    ·rw[B,z]at f;injection f with f;rw[<- f];exact v
    ·exact E m y (by omega) f⟩
  ·have:=O (SR (by omega) E (λy f=>by rw[z]at f;injection f with f;rw[<- f];exact v));have D:¬x.nd.ino<o.ino:=λq=>v (S4.2 q);simp at this;simp[j,F,BO,G,w,T,U,J,BS,D];exact this
 ·have:=O (SR (by omega) E (λy f=>by have:=(BG.1 f).1;omega));simp at this;simp[j,G,show ¬k<d.length by omega];exact this
section
variable {κ α : Type} {c : κ->κ->Int} {key : α->κ}
theorem Aiv (d:KO c):∀{l m:List α},CQ c key l->CQ c key m->(∀x,x∈l↔x∈m)->l=m
 | [],[],_,_,_=>rfl
 | [],b::m,_,_,h=>by have:=(h b).2 (by simp);simp at this
 | a::l,[],_,_,h=>by have:=(h a).1 (by simp);simp at this
 | a::l,b::m,h1,h2,h=>by
  have g:=An2.1 h1;have i:=An2.1 h2;have e:a=b:=by
   rcases Al3.1 ((h a).1 (by simp))with e | j
   ·exact e
   ·rcases Al3.1 ((h b).2 (by simp))with e | f
    ·exact e.symm
    ·exact absurd (d.trans _ _ _ (g.1 b f) (i.1 a j)) (d.irr _)
  subst e;congr 1;refine Aiv d g.2 i.2 λx=>?_;have irr:∀y,y∈l\/y∈m->y≠a:=by
   rintro y (q | q) rfl
   ·exact d.irr _ (g.1 y q)
   ·exact d.irr _ (i.1 y q)
  constructor
  ·intro q;rcases Al3.1 ((h x).1 (by simp[q]))with e | f
   ·exact absurd e (irr x (.inl q))
   ·exact f
  ·intro q;rcases Al3.1 ((h x).2 (by simp[q]))with e | f
   ·exact absurd e (irr x (.inr q))
   ·exact f
theorem Qs (d:KO c){l:List α}(h:CQ c key l){k b:κ}(f:Bo key l k)(g:b≠k):Bo key (DK c key l k) b↔Bo key l b:=by
 constructor
 ·rintro⟨x,a,e⟩;exact⟨x,delK_sub.subset a,e⟩
 ·rintro⟨x,a,e⟩;exact⟨x,(Jr d h f).2 ⟨a,by rw[e];exact g⟩,e⟩
theorem tH (a:KO c){l:List α}(h:CQ c key l){k b:κ}(d:Bo key l k)(e:Bo key l b)(f:k≠b):DK c key (DK c key l k) b=DK c key (DK c key l b) k:=by
 refine Aiv a (F9 (F9 h)) (F9 (F9 h)) λx=>?_;rw[Jr a (F9 h) ((Qs a h d (Al6 f)).2 e),Jr a h d,Jr a (F9 h) ((Qs a h e f).2 d),Jr a h e,and_right_comm]
end
theorem jO {ns:List Nm}(hs:CQ Bv Nm.name ns){s t:List UInt8}(c:Bo Nm.name ns s)(e:Bo Nm.name ns t)(d:t≠s):Dx (DK Bv Nm.name ns s) t=Dx ns t:=by
 obtain⟨x,a,b,rfl⟩:=mX e;unfold Dx;rw[a,vP koN (F9 hs) ((Jr koN hs c).2 ⟨b,d⟩)]
end
section
theorem SI {κ α:Type}[DecidableEq κ]{key:α->κ}{l:List α}{k:κ}:0<=Lf key l k↔Bo key l k:=by
 constructor
 ·intro h;refine Classical.byContradiction λq=>?_;have:=IB.2 q;omega
 ·intro h;obtain⟨j,x,a,-⟩:=pK h;omega
theorem Asl {ns:List Nm}{ds:List Nd}{o:OpM}(d:Fw ns ds)(e:¬o.kind=1)(f:¬(o.kind=2\/o.kind=3\/o.kind=4\/o.kind=5))(g:o.kind=6)(b:Yo ns o.name o.to):
  B6 ns ds o=(GN Bv Nm.name (DK Bv Nm.name (if Bo Nm.name ns o.to then DK Bv Nm.name ns o.to else ns) o.name) ⟨o.to,Dx ns o.name⟩,if Bo Nm.name ns o.to then DK Cj Nd.ino ds (Dx ns o.to)else ds):=by
 unfold B6;rw[if_pos d,if_neg e,if_neg f,if_pos g,if_pos b];have hs:=d.1.2.2.1;unfold G5 mP;have c:=Qs koN hs b.1 (Al6 b.2.2);by_cases a:Bo Nm.name ns o.to
 ·rw[if_pos a,if_pos (c.2 a),if_pos a,if_pos (c.2 a),tH koN hs b.1 a b.2.2,jO hs b.1 a (Al6 b.2.2)]
 ·rw[if_neg a,if_neg (λh=>a (c.1 h)),if_neg a,if_neg (λh=>a (c.1 h))]
abbrev Ad2:=And.intro @A6 @A9
theorem Ym {ns:List Nm}{ds:List Nd}{v bv:AV}{o:OpM}(hv:ImV ns ds v)(D:Sm ns ds)(af:SV Ft 1 o.b bv)(aq:o.b.length<=281474976710656)(hn:o.name.length<=1000000000)(ht:o.to.length<=1000000000):
  ∃R,ImV (B6 ns ds o).1 (B6 ns ds o).2 R/\Ba2 176 [v,.agg (BO o bv)] R:=by
 have an:=hv.noIds;refine BPure.FZ (by simp[AF]at an|-;exact⟨an,by simp[BO,noIds,AF,af.1]⟩) (Yx (K:=Aas (B6 ns ds o)) ?_);have W:=hv;obtain⟨a,b,l,rfl,sa,sb,rfl⟩:=hv;have b1:=D.1;have b2:=D.2.1;rw[Ak8]at b2;have oa:=SV.oneA sa;have ob:=SV.oneA sb;have o3:=SV.oneA af;unfold Te;obtain⟨U,e5,c0,c1,c2,l5⟩:∃U,AE [some (.cells [a,b]),some (.cells (BO o bv))] (.agg [Ad,Ad])=some (.ptr 2 0,U)/\U[0]?=some (some (.cells [a,b]))/\U[1]?=some (some (.cells (BO o bv)))/\U[2]?=some (some (.cells [Ad,Ad]))/\U.length=3:=
  ⟨[some (.cells [a,b]),some (.cells (BO o bv)),some (.cells [Ad,Ad])],by simp,rfl,rfl,rfl,rfl⟩
 have e4:AE [some (.cells [a,b])] (.agg (BO o bv))=some (.ptr 1 0,[some (.cells [a,b]),some (.cells (BO o bv))]):=by simp[BO,o3]
 have Z:∀x y:AV,A1 true 2 [x,y] 0=some (.agg [x,y]):=λ_ _=>rfl;have e0:AE [] (.agg [a,b])=some (.ptr 0 0,[some (.cells [a,b])]):=by simp[oa,ob]
 simp[-Uc,e0,e4,e5,c0,Z];obtain⟨r,A,⟨a',b',u,rfl,t,hg,w⟩,k⟩:=kB (H:=U) sa sb (by omega) b2 (λd V=>D.2.2.2 d.nd (Al9 V));refine bC_of k ?_;have a1:=AI w.oa;have a2:=AI w.ob;have l8:=hg.1;rw[l5]at w l8;obtain⟨m,ap,z,ae,a4⟩:∃m,AU 2 (A++[some (.cells [Ad,Ad])]) (.ptr A.length 0) (.agg [a',b'])=some m/\ImH 3 A.length ns u a' b' m/\Grew A m/\m.length=A.length+1:=by have g:=Grew.app A [some (.cells [a',b'])];refine⟨A++[some (.cells [a',b'])],by simp[AU,Bb,a1,a2],⟨by simp,⟨λq=>by have:=A5 w.sa _ q;omega,λq=>by have:=A5 w.sb _ q;omega⟩,by simp;omega,g.slice w.sa,w.oa,w.ca,w.ia,g.slice w.sb,w.ob,w.cb,w.ib,w.ab⟩,g,by simp⟩
 have ao:AE A (.agg [Ad,Ad])=some (.ptr A.length 0,A++[some (.cells [Ad,Ad])]):=by simp
 simp[-Uc,ao,ap];have k0:=ae.cells (hg.cells c0);have N:=ae.cells (hg.cells c1);have X:=ae.cells (hg.cells c2);have E:3<=A.length:=l8;generalize A.length=oi at*;have d0:=z.obj;have el:u.length=l.length:=by have:=congrArg List.length t;simpa using this
 have keep:∀{H':AH},FrL 3 oi m H'->H'[0]?=some (some (.cells [a,b]))/\H'[1]?=some (some (.cells (BO o bv)))/\H'[2]?=some (some (.cells [Ad,Ad])):=λf=>by rw[f.2 0 (by omega) (by omega),f.2 1 (by omega) (by omega),f.2 2 (by omega) (by omega)];exact⟨k0,N,X⟩
 have aa:Sm ns (u.map NdV.nd):=by rw[t];exact D
 simp[-Uc,k0,Z];refine Az (If W D) ?_;by_cases B:Fw ns (l.map NdV.nd)
 ·have hs:=B.1.2.2.1;have ag:=B.2.2.1;have V:CQ Cj NdV.ino u:=by rw[<- RV,t];exact ag
  have hx:∀x∈ns,Bo NdV.ino u x.ino:=λx hx=>by rw[<- Ly,t];exact(Yc.1 B).2.2.2.2.1 x hx
  simp[-Uc,B,N,BO];by_cases L:o.kind=1
  ·
   have J:¬zK ns (l.map NdV.nd) o->Bk (.ptr 2 0) (.ptr oi 0) m (Aas (B6 ns (l.map NdV.nd) o)):=λk=>DB z E X (by unfold B6;rw[if_pos B,if_pos L,if_neg k,t]);rw[decide_eq_true L];simp only[Am];refine Az (FD (s:=o.name) (by omega)) ?_;by_cases i:Ek o.name
   ·simp[i,N,BO];refine Az (G4 W D o.name) ?_;by_cases O:Bo Nm.name ns o.name
    ·have i4:¬Lf Nm.name ns o.name<0:=by rw[IB];exact λh=>h O
     simp[i4];exact J λk=>k.1 O
    ·have i4:Lf Nm.name ns o.name<0:=IB.2 O;simp[i4,N,BO];by_cases F:1<=o.ino
     ·by_cases G:o.ino<=4611686018427387904
      ·simp[F,G,N,BO];refine Az (Kb W D o.ino) ?_;by_cases n:Bo Nd.ino (l.map NdV.nd) o.ino
       ·have P:¬Lf Nd.ino (l.map NdV.nd) o.ino<0:=by rw[IB];exact λh=>h n
        simp[P];exact J λk=>k.2.1 n
       ·have P:Lf Nd.ino (l.map NdV.nd) o.ino<0:=IB.2 n;by_cases q8:ns.length<16
        ·have aj:(ns.length:Int)<16:=by omega
         have k:zK ns (l.map NdV.nd) o:=⟨O,n,i,F,G,q8⟩;have e:B6 ns (l.map NdV.nd) o=(GN Bv Nm.name ns ⟨o.name,o.ino⟩,(GN Cj NdV.ino u (newD o.ino)).map NdV.nd):=by unfold B6;rw[if_pos B,if_pos L,if_pos k,zX,t]
         simp[P,k0,sa.len,aj];obtain⟨r2,M,⟨rfl,a3,b3,p,C⟩,S⟩:=yV (s:=o.name) (no:=o.ino) z b1;refine bC_of S ?_;refine Ask p (keep C).2.1 E (by omega) λr4 H4 i4 f4=>?_;exact DB i4 E (keep (C.trans f4)).2.2 e
        ·have aj:¬(ns.length:Int)<16:=by omega
         simp[P,k0,sa.len,aj];exact J λk=>q8 k.2.2.2.2.2
      ·simp[F,G,N,BO];exact J λk=>G k.2.2.2.2.1
     ·simp[F];exact J λk=>F k.2.2.2.1
   ·simp[i];exact J λk=>i k.2.2.1
  ·by_cases G:o.kind=6
   ·have Q:¬(o.kind=2\/o.kind=3\/o.kind=4\/o.kind=5):=by omega
    have J:¬Yo ns o.name o.to->Bk (.ptr 2 0) (.ptr oi 0) m (Aas (B6 ns (l.map NdV.nd) o)):=λk=>DB z E X (by unfold B6;rw[if_pos B,if_neg L,if_neg Q,if_pos G,if_neg k,t]);rw[decide_eq_false L];simp only[Ag];simp[G];refine Az (G4 W D o.name) ?_;by_cases i:Bo Nm.name ns o.name
    ·have p:0<=Lf Nm.name ns o.name:=SI.2 i;simp[p,N,BO];refine Az (FD (s:=o.to) (by omega)) ?_;by_cases O:Ek o.to
     ·simp[O,N,BO,JR];by_cases F:o.to=o.name
      ·simp[F];exact J λk=>k.2.2 F.symm
      ·have k:Yo ns o.name o.to:=⟨i,O,Al6 F⟩;have e:=Asl B L Q G k;obtain⟨Ra,Rb,ta,tb,fz⟩:=z.lend;have hJ:∀Y dw a1 b1 Hc,ImH 3 oi Y dw a1 b1 Hc->FrL 3 oi m Hc->CQ Bv Nm.name Y->CQ Cj NdV.ino dw->Sm Y (dw.map NdV.nd)->Bo Nm.name Y o.name->B6 ns (l.map NdV.nd) o=(GN Bv Nm.name (DK Bv Nm.name Y o.name) ⟨o.to,Dx ns o.name⟩,dw.map NdV.nd)->EX (.ptr 0 0) (.ptr 1 0) (.ptr 2 0) (.ptr oi 0) (I (Lf Nm.name ns o.name)) Hc (Aas (B6 ns (l.map NdV.nd) o)):=by
        intro Y dw a1 b1 Hc hi hf aw ar am av he;rw[TB];unfold Kw;obtain⟨g0,g1,g2⟩:=keep hf;simp[g1,BO];obtain⟨r2,M,⟨rfl,a3,b3,p,C⟩,S⟩:=Aeq (s:=o.name) hi aw ar am av false (by simp);refine bC_of S ?_;rw[TC];unfold Kx;obtain⟨g0,g1,g2⟩:=keep (hf.trans C);rw[Uz koN hs i];obtain⟨x,ad,ai,ax⟩:=Ie koN hs i;have en:Dx ns o.name=x.ino:=by unfold Dx;rw[ai]
        simp[g0,g1,BO,sa.idx Cg ad rfl,oO];obtain⟨r4,H4,⟨rfl,a5,b5,i5,f5⟩,w5⟩:=yV (s:=o.to) (no:=x.ino) p (Al1 delK_sub.length_le am.1);refine bC_of w5 ?_;rw[en]at he;exact DB i5 E (keep ((hf.trans C).trans f5)).2.2 he
       simp[F,d0,Z];refine bP_of (PCall.lend (FZs.cons fz (FZs.cons (FZ.lit _) FZs.nil)) rfl (G4 ⟨Ra,Rb,u,rfl,ta,tb,rfl⟩ aa o.to)) ?_;by_cases n:Bo Nm.name ns o.to
       ·have P:=SI.2 n;rw[if_pos n,if_pos n]at e;have ah:Bo NdV.ino u (Dx ns o.to):=by
         obtain⟨y,y1,y2,y3⟩:=mX n;have:Dx ns o.to=y.ino:=by unfold Dx;rw[y1]
         rw[this];exact hx y y2
        simp[P];obtain⟨r2,M,⟨rfl,a3,b3,p,C⟩,S⟩:=Aeq (s:=o.to) z hs V aa n true (λ_=>ah);refine bC_of S ?_;refine hJ _ _ _ _ _ p C (F9 hs) (by simpa using F9 V) (aa.sub delK_sub (by simpa using delK_sub.map NdV.nd)) ((Qs koN hs n (Al6 F)).2 i) ?_;rw[e,<- t];simp[zO]
       ·have P:¬0<=Lf Nm.name ns o.to:=λh=>n (SI.1 h);rw[if_neg n,if_neg n]at e;simp[P];exact hJ _ _ _ _ _ z (FrL.refl _ _ _) hs V aa i (by rw[e,t])
     ·simp[O];exact J λk=>O k.2.1
    ·have p:¬0<=Lf Nm.name ns o.name:=λh=>i (SI.1 h);simp[p];exact J λk=>i k.1
   ·by_cases n:o.kind=7
    ·have Q:¬(o.kind=2\/o.kind=3\/o.kind=4\/o.kind=5):=by omega
     have e:B6 ns (l.map NdV.nd) o=(G5 ns o.name,(Yn ns u o.name).map NdV.nd):=by unfold B6;rw[if_pos B,if_neg L,if_neg Q,if_neg G,if_pos n,jW,t]
     rw[decide_eq_false L];simp only[Ag];simp[n];refine Az (G4 W D o.name) ?_;by_cases i:Bo Nm.name ns o.name
     ·have p:=SI.2 i;have ah:Bo NdV.ino u (Dx ns o.name):=by
       obtain⟨y,y1,y2,y3⟩:=mX i;have:Dx ns o.name=y.ino:=by unfold Dx;rw[y1]
       rw[this];exact hx y y2
      simp[p];obtain⟨r2,M,⟨rfl,a3,b3,p,C⟩,S⟩:=Aeq (s:=o.name) z hs V aa i true (λ_=>ah);refine bC_of S ?_;refine DB p E (keep C).2.2 (e.trans ?_);unfold G5 Yn;rw[if_pos i,if_pos i];rfl
     ·have p:¬0<=Lf Nm.name ns o.name:=λh=>i (SI.1 h);simp[p];refine DB z E X (e.trans ?_);unfold G5 Yn;rw[if_neg i,if_neg i]
    ·have e:B6 ns (l.map NdV.nd) o=(ns,V2 (u.map NdV.nd) o):=by
      unfold B6;rw[if_pos B,if_neg L,if_neg G,if_neg n,t];by_cases Q:o.kind=2\/o.kind=3\/o.kind=4\/o.kind=5
      ·rw[if_pos Q]
      ·rw[if_neg Q,Asj Q]
     rw[decide_eq_false L];simp only[Ag];simp[-Uc,G,n];refine Az (Kb W D o.ino) ?_;by_cases i:Bo Nd.ino (l.map NdV.nd) o.ino
     ·have p:=SI.2 i;have au:CQ Cj NdV.ino l:=RV.1 ag;have ek:=Uz koI ag i;rw[Qx]at ek;obtain⟨x,ad,ai,ax⟩:=Ie koI au (Ly.1 i);have ay:=D.2.2.2 x.nd (Al9 (Aj2 ad));obtain⟨R2,s2,p2⟩:=wZ (d:=x.nd) (o:=o) x.h ay af aq;have o2:=SV.oneA s2;obtain⟨y,az,a0⟩:∃y,u[DG Cj NdV.ino l o.ino]?=some y/\y.nd=x.nd:=by
       have h1:(u.map NdV.nd)[DG Cj NdV.ino l o.ino]?=some x.nd:=by rw[t,Al2,ad];rfl
       exact getElem?_map_nd h1
      have b8:A1 true 8 (BO o bv) 0=some (.agg (BO o bv)):=rfl;have ei:=sb.idx BN ad rfl;obtain⟨T,f1,f2,C,f4,f5⟩:∃T,AE m (.agg [I 0,Ad])=some (.ptr m.length 0,T)/\T[0]?=some (some (.cells [a,b]))/\T[1]?=some (some (.cells (BO o bv)))/\T=m++[some (.cells [I 0,Ad])]/\Grew m T:=by have g:=Grew.app m [some (.cells [I 0,Ad])];exact⟨_,by simp,g.cells k0,g.cells N,rfl,g⟩
      obtain⟨M,f6,f7,f8⟩:∃M,AU 2 T (.ptr m.length 0) (.agg [I (cS (I9 o x.nd)),R2])=some M/\M[m.length]?=some (some (.cells [I (cS (I9 o x.nd)),R2]))/\Grew m M:=by subst f4;exact⟨m++[some (.cells [I (cS (I9 o x.nd)),R2])],by simp[AU,Bb,o2],by simp,Grew.app _ _⟩
      have i2:=z.grew f8;have d2:=i2.obj;have ak:FrL 3 oi m M:=⟨f8.1,λj j1 j2=>f8.2 j (by have:=z.len;omega)⟩;have al:Aaf Nd.ino (l.map NdV.nd) o.ino=some x.nd:=mY ai;simp[-Uc,ek,ei];refine bP_of p2 ?_;simp only[Ak,Aa,Aa7,f1,Ad2,f6];simp[f2,C,b8];cases hr:I9 o x.nd with
      | none=>
       simp;refine⟨by simp[A1,BS],rfl,?_⟩;refine DB i2 E (keep ak).2.2 (e.trans ?_);unfold V2;rw[t,al];simp only[hr]
      | some c=>
       rw[hr]at s2 f7;obtain⟨o',a6,cells,H4,w1,w2,S,w4,w5,w6⟩:=i2.putD (sz:=cS (some c)) az s2;simp[d2,f7,w1,A1,w4];refine⟨by rw[BN];omega,rfl,?_⟩;refine DB w5 E (keep (ak.trans w6)).2.2 (e.trans ?_);unfold V2;rw[t,al];simp only[hr,Qx];rw[Au5,t];congr 2;rw[<- a0];rfl
     ·have p:¬0<=Lf Nd.ino (l.map NdV.nd) o.ino:=λh=>i (SI.1 h);simp[p];refine DB z E X (e.trans ?_);unfold V2;rw[t,nX i]
 ·have e:B6 ns (l.map NdV.nd) o=(ns,u.map NdV.nd):=by unfold B6;rw[if_neg B,t]
  have:=DB z E X e;rw[Ky]at this;unfold GG at this;simp[d0,Z]at this;simp[B,d0,Z];exact this
theorem qZ:∀{bs:List UInt8} {l:List Ext} {p:Int},(Cm l p bs).length<=l.length+bs.length
 | [],l,p=>Aj7 _
 | b::r,l,p=>by
  show(Cm (EV l p [b]) (p+1) r).length<=_;have a:=qZ (bs:=r) (l:=EV l p [b]) (p:=p+1);have h:(EV l p [b]).length<=l.length+1:=by unfold EV;have:=pY l (p/8);simp[mN];omega
  simp only[Al4];omega
theorem Aiw {o:OpM}{d:Nd}:(cL (I9 o d)).length<=d.l.length+o.b.length+4098:=by
 unfold I9;split
 ·unfold Ej;split
  ·split
   ·simp only[cL,Ar3];omega
   ·simp only[cL,Ar3];have:=qZ (bs:=o.b) (l:=d.l) (p:=o.pos);omega
  ·simp[cL]
 ·split
  ·unfold CR;split
   ·simp only[cL,Ar3,Gr,Vt,Ak8];exact Al1 (Ap1 _ _) (by omega)
   ·simp[cL]
  ·split
   ·unfold Ck;split
    ·simp only[cL,Ar3,OH];have:=(qC (k:=allocN o.pos o.size) (l:=d.l) (no:=o.pos/8)).1;have c:allocN o.pos o.size<=4098:=by unfold allocN;omega
     omega
    ·simp[cL]
   ·split
    ·unfold Df;split
     ·simp only[cL,Ar3,FS,Vt,Ak8];exact Al1 (Ap1 _ _) (by omega)
     ·simp[cL]
    ·simp[cL]
theorem Asm (s:ByteArray):Ax s.data.toList=s:=by cases s;simp[Ax]
def Aix (ns:List Nm)(ds:List Nd):Prop:=ns.length<=30/\ds.length<=30/\(∀d∈ds,d.l.length<=60)/\OW ds<=300
instance (ns:List Nm) (ds:List Nd):Decidable (Aix ns ds):=by unfold Aix;infer_instance
theorem OwI.lend {L:Nat}{ns:List Nm}{c:List NdV}{a b:AV}{H:AH}(h:OwI L ns c a b H):∃R,ImV ns (c.map NdV.nd) R/\FZ H (.agg [a,b]) R:=by
 obtain⟨d,i,f⟩:=FZ.sv h.sa (EF λx _=>Yf x);obtain⟨e,j,g⟩:=FZ.sv h.sb (EF λx _=>SP x);exact⟨_,⟨d,e,c,rfl,i,j,rfl⟩,FZ.agg (FZs.cons f (FZs.cons g FZs.nil))⟩
theorem Aer {ns:List Nm}{ds:List Nd}{v:AV}(g:ImV ns ds v)(c:Sm ns ds):∃R,ImV ns ds R/\Ba2 43 [v] R:=by
 have l:=g.noIds;obtain⟨a,b,s,rfl,n,o,rfl⟩:=g;have e:=c.2.1;rw[Ak8]at e;obtain⟨r,X,⟨p,q,t,rfl,k,-,m⟩,i⟩:=Ait (H:=[]) n o c.1 e (λd j=>c.2.2.2 d.nd (Al9 j));obtain⟨R,f,h⟩:=m.lend;rw[k]at f;exact BPure.FZ l ⟨_,X,⟨R,h,f⟩,i⟩
structure OpV where
 o:OpM
 bv:AV
 h:SV Ft 1 o.b bv
def Jp (x:OpV):List AV:=BO x.o x.bv
theorem oP (x:OpV):(Jp x).length=8:=rfl
theorem Adc {H:AH}{w:AV}{l:List OpV}{k:Nat}{x:OpV}(j:Ac H 8 w=some (l.flatMap Jp,l.length))(a:l[k]?=some x):∃p,AY 8 w (I k)=some p/\Aq true 8 H p=some (.agg (BO x.o x.bv)):=by
 have h:=(BG.1 a).1;obtain⟨p,c,b,d,e,f⟩:=I8 j (i:=(k:Int)) rfl h;have g:c.take 8=Jp x:=by rw[e,DA oP a,Ak9 (by rw[oP];omega),Aj3 (by rw[oP];omega)]
 exact⟨p,b,by rw[PW d (by omega) f,Kq (by omega),Al8,g];rfl⟩
section
variable {α κ ι : Type} {c : κ->κ->Int} {key : α->κ}
theorem pH {f:α->ι}{l:List α}{x:α}{i:ι}:Bo f (GN c key l x) i↔f x=i\/Bo f l i:=by
 unfold Bo;constructor
 ·rintro⟨y,a,e⟩;rcases L3.1 a with rfl | a
  ·exact .inl e
  ·exact .inr ⟨y,a,e⟩
 ·rintro(e | ⟨y,a,e⟩)
  ·exact⟨x,L3.2 (.inl rfl),e⟩
  ·exact⟨y,L3.2 (.inr a),e⟩
theorem jA (d:KO c){f:α->ι}{l:List α}(h:CQ c key l){k:κ}(g:Bo key l k){i:ι}:Bo f (DK c key l k) i↔∃y∈l,key y≠k/\f y=i:=by
 unfold Bo;constructor
 ·rintro⟨y,b,e⟩;obtain⟨j,a⟩:=(Jr d h g).1 b;exact⟨y,j,a,e⟩
 ·rintro⟨y,b,a,e⟩;exact⟨y,(Jr d h g).2 ⟨b,a⟩,e⟩
theorem YO {β:Type}{f:α->β}:∀{l:List α},l.Nodup->((l.map f).Nodup↔∀x∈l,∀y∈l,f x=f y->x=y)
 | [],_=>by simp
 | a::l,h=>by
  obtain⟨j,k⟩:=Ar7.1 h;rw[Aq7,Ar7,YO k];constructor
  ·rintro⟨c,m⟩ x i y b e;rcases Al3.1 i with d | d<;>rcases Al3.1 b with g | g
   ·rw[d,g]
   ·rw[d]at e;exact absurd (Am5.2 ⟨y,g,e.symm⟩) c
   ·rw[g]at e;exact absurd (Am5.2 ⟨x,d,e⟩) c
   ·exact m x d y g e
  ·intro c;refine⟨λn=>?_,λx i y b=>c x (by simp[i]) y (by simp[b])⟩;obtain⟨y,b,e⟩:=Am5.1 n;have:=c y (by simp[b]) a (by simp) e;exact j (this▸b)
theorem cF (e:KO c){l:List α}(h:CQ c key l):l.Nodup:=by
 refine List.Pairwise.imp ?_ h;rintro a b d rfl;exact e.irr _ d
end
structure MayW (ns:List Nm)(ds:List Nd):Prop where
 len:ns.length<=16
 nm:∀x∈ns,Ek x.name/\1<=x.ino/\x.ino<=4611686018427387904
 srt:CQ Bv Nm.name ns
 inj:∀x∈ns,∀y∈ns,x.ino=y.ino->x=y
 sd:CQ Cj Nd.ino ds
 mc:∀d∈ds,CZ d.size d.l
 ino:∀i,Bo Nd.ino ds i↔Bo Nm.ino ns i
theorem Asn {ds:List Nd}(h:CQ Cj Nd.ino ds):(ds.map Nd.ino).Nodup:=by
 rw[List.Nodup,As0];exact h.imp λh=>by rw[S4]at h;omega
theorem bN {ns:List Nm}{ds:List Nd}:Fw ns ds↔MayW ns ds:=by
 constructor
 ·intro h;have c:=Yc.1 h;obtain⟨e,o,⟨f,b,g⟩,j,k,l⟩:=c;refine⟨e,f,b,(YO (cF koN b)).1 g,j,l,λi=>⟨?_,?_⟩⟩
  ·rintro⟨d,a,rfl⟩;exact(h.2.2.2 d a).1
  ·rintro⟨x,n,rfl⟩;exact k x n
 ·intro h;refine⟨⟨h.len,h.nm,h.srt,(YO (cF koN h.srt)).2 h.inj⟩,?_,h.sd,λd a=>⟨(h.ino d.ino).1 ⟨d,a,rfl⟩,h.mc d a⟩⟩;have m:=(List.perm_ext_iff_of_nodup (Asn h.sd) ((YO (cF koN h.srt)).2 h.inj)).2 λi=>by have:=h.ino i;unfold Bo at this;simpa[Am5]using this
  have:=m.length_eq;simpa using this
theorem tZ {ns:List Nm}(hs:CQ Bv Nm.name ns){x:Nm}(a:x∈ns):Dx ns x.name=x.ino:=by
 unfold Dx;rw[vP koN hs a]
theorem Aso {ns:List Nm}{s:List UInt8}(h:¬Bo Nm.name ns s):Dx ns s=0:=by
 unfold Dx;rw[nX h]
theorem MayW.rem {ns:List Nm}{ds:List Nd}{s:List UInt8}(h:MayW ns ds)(c:Bo Nm.name ns s):MayW (DK Bv Nm.name ns s) (DK Cj Nd.ino ds (Dx ns s)):=by
 obtain⟨x,b,rfl⟩:=c;have c:Bo Nm.name ns x.name:=⟨x,b,rfl⟩;rw[tZ h.srt b];have g:Bo Nd.ino ds x.ino:=(h.ino _).2 ⟨x,b,rfl⟩;have sub:∀y,y∈DK Bv Nm.name ns x.name->y∈ns:=λy a=>delK_sub.subset a;have n:=X2 (eC koN h.srt c);have:=h.len;refine⟨by omega,λy a=>h.nm y (sub y a),F9 h.srt,λy a z m=>h.inj y (sub y a) z (sub z m),F9 h.sd,λd g=>h.mc d (delK_sub.subset g),λi=>?_⟩;rw[jA koI h.sd g,jA koN h.srt c];constructor
 ·rintro⟨d,j,k,rfl⟩;obtain⟨y,a,e⟩:=(h.ino d.ino).1 ⟨d,j,rfl⟩;exact⟨y,a,λf=>k (by rw[<- e,kA koN h.srt a b f]),e⟩
 ·rintro⟨y,a,l,rfl⟩;obtain⟨d,j,e⟩:=(h.ino y.ino).2 ⟨y,a,rfl⟩;exact⟨d,j,λf=>l (by rw[h.inj y a x b (by rw[<- e,f])]),e⟩
theorem MayW.ren {ns:List Nm}{ds:List Nd}{s t:List UInt8}(h:MayW ns ds)(d:Bo Nm.name ns s)(m:¬Bo Nm.name ns t)(j:Ek t):MayW (GN Bv Nm.name (DK Bv Nm.name ns s) ⟨t,Dx ns s⟩) ds:=by
 obtain⟨x,b,rfl⟩:=d;have d:Bo Nm.name ns x.name:=⟨x,b,rfl⟩;rw[tZ h.srt b];have mem:∀y,y∈GN Bv Nm.name (DK Bv Nm.name ns x.name) ⟨t,x.ino⟩↔y=⟨t,x.ino⟩\/(y∈ns/\y.name≠x.name):=λy=>by rw[L3,Jr koN h.srt d]
 have n:=X2 (eC koN h.srt d);have:=h.len;refine⟨by rw[XZ];omega,?_,qR koN (F9 h.srt) (λg=>m ?_),?_,h.sd,h.mc,λi=>?_⟩
 ·intro y a;rcases(mem y).1 a with rfl | ⟨a,-⟩
  ·exact⟨j,(h.nm x b).2⟩
  ·exact h.nm y a
 ·obtain⟨y,a,e⟩:=g;exact⟨y,delK_sub.subset a,e⟩
 ·intro y a z f e;rcases(mem y).1 a with rfl | ⟨a,k⟩<;>rcases(mem z).1 f with rfl | ⟨f,l⟩
  ·rfl
  ·exact absurd (by rw[h.inj x b z f e]) l
  ·exact absurd (by rw[h.inj y a x b e]) k
  ·exact h.inj y a z f e
 ·rw[h.ino i,pH,jA koN h.srt d];constructor
  ·rintro⟨y,a,rfl⟩;by_cases c:y.name=x.name
   ·exact .inl (by rw[kA koN h.srt a b c])
   ·exact .inr ⟨y,a,c,rfl⟩
  ·rintro(rfl | ⟨y,a,-,rfl⟩)
   ·exact⟨x,b,rfl⟩
   ·exact⟨y,a,rfl⟩
theorem Asp:CZ 0 []:=by decide
theorem MayW.cre {ns:List Nm}{ds:List Nd}{o:OpM}(h:MayW ns ds)(n:zK ns ds o):MayW (GN Bv Nm.name ns ⟨o.name,o.ino⟩) (GN Cj Nd.ino ds ⟨o.ino,0,[]⟩):=by
 obtain⟨j,f,k,l,m,q⟩:=n;have g:¬Bo Nm.ino ns o.ino:=λp=>f ((h.ino _).2 p);refine⟨by rw[XZ];omega,?_,qR koN h.srt j,?_,qR koI h.sd f,?_,λi=>by rw[pH,pH,h.ino]⟩
 ·intro y a;rcases L3.1 a with rfl | a
  ·exact⟨k,l,m⟩
  ·exact h.nm y a
 ·intro y a z b e;rcases L3.1 a with rfl | a<;>rcases L3.1 b with rfl | b
  ·rfl
  ·exact absurd ⟨z,b,e.symm⟩ g
  ·exact absurd ⟨y,a,e⟩ g
  ·exact h.inj y a z b e
 ·intro d c;rcases L3.1 c with rfl | c
  ·exact Asp
  ·exact h.mc d c
theorem Asq {o:OpM}{d:Nd}{c:I5}(a:o.kind=2\/o.kind=3\/o.kind=4\/o.kind=5)(h:I9 o d=some c):CZ c.1 c.2:=by
 unfold I9 at h;split at h
 ·exact Aqk h
 ·split at h
  ·exact Aql h
  ·split at h
   ·exact Aqm h
   ·split at h
    ·exact Aqn h
    ·omega
theorem tC {ds:List Nd}{o:OpM}(hs:CQ Cj Nd.ino ds):(V2 ds o).map Nd.ino=ds.map Nd.ino:=by
 unfold V2;split
 ·rename_i d f;split
  ·rename_i c l;have h:Bo Nd.ino ds o.ino:=⟨d,Au2 f,by simpa using List.find?_some f⟩;obtain⟨y,b,a,k⟩:=Ie koI hs h;have e:y=d:=by rw[f]at a;injection a with a;exact a.symm
   rw[Au5,<- e];apply Am4;intro j;rw[Ao7];split
   ·rename_i g;subst g;split
    ·rw[Al2,b];rfl
    ·rename_i i;rw[Al2,b];have:=(BG.1 b).1;simp at i;omega
   ·rfl
  ·rfl
 ·rfl
theorem Asr {ds c:List Nd}(e:ds.map Nd.ino=c.map Nd.ino)(h:CQ Cj Nd.ino c):CQ Cj Nd.ino ds:=by
 unfold CQ at h|-;have d:(c.map Nd.ino).Pairwise λa b=>Cj a b<0:=As0.2 h;rw[<- e]at d;exact As0.1 d
theorem Ass {ds b:List Nd}(e:ds.map Nd.ino=b.map Nd.ino)(i:Int):Bo Nd.ino ds i↔Bo Nd.ino b i:=by
 have a:∀l:List Nd,Bo Nd.ino l i↔i∈l.map Nd.ino:=λl=>by unfold Bo;simp[Am5]
 rw[a,a,e]
theorem pX {ds:List Nd}{o:OpM}(hs:CQ Cj Nd.ino ds){d:Nd}(h:d∈V2 ds o):d∈ds\/(d.ino=o.ino/\∃e∈ds,e.ino=o.ino/\I9 o e=some (d.size,d.l)):=by
 unfold V2 at h;split at h
 ·rename_i e b;split at h
  ·rename_i c g;have f:=Au2 b;have a:e.ino=o.ino:=by simpa using List.find?_some b
   rcases List.mem_or_eq_of_mem_set h with h | h
   ·exact .inl h
   ·exact .inr ⟨by rw[h];exact a,e,f,a,by rw[h];exact g⟩
  ·exact .inl h
 ·exact .inl h
theorem MayW.chg {ns:List Nm}{ds:List Nd}{o:OpM}(h:MayW ns ds)(f:o.kind=2\/o.kind=3\/o.kind=4\/o.kind=5):MayW ns (V2 ds o):=by
 have b:=tC (o:=o) h.sd;refine⟨h.len,h.nm,h.srt,h.inj,Asr b h.sd,λd a=>?_,λi=>by rw[Ass b,h.ino]⟩;rcases pX h.sd a with a | ⟨-,e,-,-,c⟩
 ·exact h.mc d a
 ·exact Asq f c
theorem Ast {ns:List Nm}{ds:List Nd}{s t:List UInt8}(h:MayW ns ds)(b:Bo Nm.name ns s)(d:s≠t):
  (GN Bv Nm.name (G5 (DK Bv Nm.name ns s) t) ⟨t,Dx ns s⟩,mP (DK Bv Nm.name ns s) ds t)=(GN Bv Nm.name (DK Bv Nm.name (G5 ns t) s) ⟨t,Dx (G5 ns t) s⟩,mP ns ds t):=by
 unfold G5 mP;by_cases c:Bo Nm.name ns t
 ·have a:Bo Nm.name (DK Bv Nm.name ns s) t:=(Qs koN h.srt b (Al6 d)).2 c;rw[if_pos a,if_pos c,if_pos a,if_pos c,tH koN h.srt b c d,jO h.srt b c (Al6 d),jO h.srt c b d]
 ·have a:¬Bo Nm.name (DK Bv Nm.name ns s) t:=λe=>c ((Qs koN h.srt b (Al6 d)).1 e);rw[if_neg a,if_neg c,if_neg a,if_neg c]
theorem MayW.remN {ns:List Nm}{ds:List Nd}(h:MayW ns ds)(t:List UInt8):MayW (G5 ns t) (mP ns ds t)/\¬Bo Nm.name (G5 ns t) t:=by
 unfold G5 mP;by_cases c:Bo Nm.name ns t
 ·rw[if_pos c,if_pos c];refine⟨h.rem c,?_⟩;rintro⟨y,a,e⟩;exact((Jr koN h.srt c).1 a).2 e
 ·rw[if_neg c,if_neg c];exact⟨h,c⟩
theorem Asu {ns:List Nm}(hs:CQ Bv Nm.name ns){s t:List UInt8}(a:s≠t):Bo Nm.name (G5 ns t) s↔Bo Nm.name ns s:=by
 unfold G5;split
 ·rename_i c;exact Qs koN hs c a
 ·rfl
theorem Asv {ns:List Nm}{ds:List Nd}(h:MayW ns ds)(o:OpM):MayW (B6 ns ds o).1 (B6 ns ds o).2:=by
 unfold B6;rw[if_pos (bN.2 h)];split
 ·split
  ·rename_i f;exact h.cre f
  ·exact h
 ·split
  ·rename_i g;exact h.chg g
  ·split
   ·split
    ·rename_i hr;obtain⟨a,e,b⟩:=hr;rw[Ast h a b];obtain⟨c,d⟩:=h.remN o.to;exact c.ren ((Asu h.srt b).2 a) d e
    ·exact h
   ·split
    ·exact(h.remN o.name).1
    ·exact h
theorem Aiy {ns:List Nm}{ds:List Nd}(h:MayW ns ds)(s:List UInt8):Wh ns ds s=Dx ns s/\(Zf ns ds s↔Bo Nm.name ns s):=by
 have d:=bN.2 h;have b:Zf ns ds s↔Bo Nm.name ns s:=⟨λa=>a.2,λa=>⟨d,a⟩⟩;refine⟨?_,b⟩;unfold Wh;by_cases c:Zf ns ds s
 ·rw[if_pos c]
 ·rw[if_neg c,Aso (λa=>c (b.2 a))]
theorem T5 {ns:List Nm}{ds:List Nd}(h:MayW ns ds){d:Nd}(a:d∈ds):FB ns ds d.ino=d/\iZ ns ds d.ino:=by
 have b:iZ ns ds d.ino:=⟨bN.2 h,d,a,rfl⟩;refine⟨?_,b⟩;unfold FB;rw[if_pos b,vP koI h.sd a];rfl
theorem Aiz {ns:List Nm}{ds:List Nd}(h:MayW ns ds):gT ns ds=OW ds:=by unfold gT;rw[if_pos (bN.2 h)]
end
section
def old (N:Nat)(X:AH):AH:=List.replicate N none++X.drop N
theorem Aja {N:Nat}{X:AH}{o:Nat}{x:AObj}(h:(old N X)[o]?=some (some x)):N<=o/\X[o]?=some (some x):=by
 unfold old at h;rcases Aj5 o N with b | a
 ·rw[Aj6 (by simpa using b),As4,if_pos b]at h;cases h
 ·rw[Aj8 (by simpa using a),List.length_replicate,Ak3]at h;rw[show N+(o - N)=o by omega]at h;exact⟨a,h⟩
def Cfg.less (G:Cfg)(L:Nat->Prop):Cfg:={G with L:=L}
theorem HR.less {G:Cfg}{H:AH}(hr:HR G H)(L:Nat->Prop)(a:∀b,L b->G.L b)(hl:∀(o:Nat) (x:AObj),H[o]?=some (some x)->L (G.μ o).1):HR (G.less L) H:=by
 have f:Tr G (G.less L):=⟨Aj7 _,λ_ _=>rfl,λg i d=>d.imp id λh=>⟨λd=>h.1 (d.imp (a _) id),h.2⟩⟩;exact⟨hr.n,λo x e=>OR.tr f (hr.lt_n e) rfl (hr.obj o x e),hr.inj,hl,λb c=>hr.lt b (c.imp (a _) id),λb c=>hr.dis b (a b c)⟩
theorem HR.fewer {G:Cfg}{H b:AH}(hr:HR G H)(e:b.length=H.length)(h:∀(o:Nat) (x:AObj),b[o]?=some (some x)->H[o]?=some (some x)):HR G b:=
 ⟨by rw[e];exact hr.n,λo x a=>hr.obj o x (h o x a),λo c x d a f=>hr.inj o c x d (h o x a) (h c d f),λo x a=>hr.live o x (h o x a),hr.lt,hr.dis⟩
section
variable {P : Program}
theorem ACalls.fzNew {f:FuncId}{args:List AV}{H:AH}{R:AV->AH->Prop}{R':AV->Prop}(h:ACalls P f args H R)
  (F:∀r c,R r c->H.length<=c.length/\(∀o,o<H.length->c[o]?=H[o]?)/\∃n j,Se (old H.length c) n r=some j/\R' j):ACalls P f args H λj H'=>R' j/\H'=H:=by
 intro G Z l V;refine(h G Z l V).mono ?_;rintro e w' ⟨r,c,a,v,rfl,rfl,i,W,m,T⟩;obtain⟨ab,y,n,j,N,U⟩:=F r c T;have z:c=H++c.drop H.length:=by
  apply Am4;intro o;rcases Aj5 o H.length with p | u
  ·rw[Aj6 p,y o p]
  ·rw[Aj8 u,Ak3,show H.length+(o - H.length)=o by omega]
 have I:HR a (H++c.drop H.length):=by rw[<- z];exact m
 have C:HR {a with n:=H.length} H:=I.forget λo x d=>by
  have:=(l.obj o x d).bel
  rwa[l.n]at this
 let q:Nat->Prop:=λb=>G.L b/\a.L b/\∀(o:Nat) (x:AObj),H.length<=o->c[o]?=some (some x)->b≠(a.μ o).1
 have D:=C.less q (λb J=>J.2.1) (λo x d=>by
  have p:=(BG.1 d).1;have w:c[o]?=some (some x):=by rw[y o p];exact d
  have X:a.μ o=G.μ o:=i.μ o (by rw[l.n];exact p);refine⟨?_,m.live o x w,λY x' u S M=>?_⟩
  ·show G.L (a.μ o).1;rw[X];exact l.live o x d
  ·have:=m.inj o Y x x' w S M;omega)
 have B:Evo G (Cfg.less {a with n:=H.length} q):=⟨i.os,i.tape,i.output,i.size,λk O t=>⟨(i.keep k O t).1,λg=>t g.1⟩,by show G.n<=H.length;rw[l.n];exact Aj7 _,λo d=>i.μ o d,i.K⟩;have E:HR a (old H.length c):=m.fewer (by unfold old;simp;omega) λo x d=>(Aja d).2;refine⟨j,H,Cfg.less {a with n:=H.length} q,v,rfl,rfl,B,?_,D,U,rfl⟩;refine pG (G':=a) (G'':=Cfg.less {a with n:=H.length} q) rfl (λb Q g=>Q (g.imp (λh=>h.2.1) id)) E ?_ n r v j W N;intro o x d g;obtain⟨A,s⟩:=Aja d;rcases g with g | g
 ·exact g.2.2 o x A s rfl
 ·exact m.dis _ (m.live o x s) g
end
end
section
abbrev uV:=List Nm×List Nd
structure StS where
 cap:Int
 now:uV
 kept:uV
 pend:List OpM
 made:Int
 armed:Int
 off:Bool
def Zh (room:Int):StS:=⟨min (max room 0) 4096,([],[]),([],[]),[],0,-1,false⟩
def Abe (n:Int):Nat:=min (n.toNat/8+2) 4098
def wt (o:OpM):Nat:=1+o.b.length+if o.kind=4 then Abe o.size else 0
def N3 (l:List OpM):Nat:=(l.map wt).sum
theorem Asw {o:OpM}{d:Nd}{c:I5}(h:I9 o d=some c):c.2.length<=d.l.length+wt o:=by
 have e:=Aiw (o:=o) (d:=d);rw[h]at e;simp only[cL,Ar3]at e;unfold wt;by_cases a:o.kind=4
 ·rw[if_pos a];unfold I9 at h;rw[if_neg (by omega),if_neg (by omega),if_pos a]at h;unfold Ck at h;split at h
  ·injection h with h;subst h;have:=(qC (k:=allocN o.pos o.size) (l:=d.l) (no:=o.pos/8)).1;have g:allocN o.pos o.size<=Abe o.size:=by unfold allocN Abe;omega
   simp only[OH];omega
  ·cases h
 ·rw[if_neg a];unfold I9 at h;split at h
  ·unfold Ej at h;split at h
   ·injection h with h;subst h;split
    ·simp
    ·have:=qZ (bs:=o.b) (l:=d.l) (p:=o.pos);simp only;omega
   ·cases h
  ·split at h
   ·unfold CR at h;split at h
    ·injection h with h;subst h;simp only[Gr,Vt,Ak8];exact Al1 (Ap1 _ _) (by omega)
    ·cases h
   ·split at h
    ·unfold Df at h;split at h
     ·injection h with h;subst h;simp only[FS,Vt,Ak8];exact Al1 (Ap1 _ _) (by omega)
     ·cases h
    ·cases h
def Few1 (M:Nat)(i:uV):Prop:=MayW i.1 i.2/\∀d∈i.2,d.l.length<=M
theorem Ajb {ns:List Nm}{ds:List Nd}{s:List UInt8}{d:Nd}(h:d∈mP ns ds s):d∈ds:=by
 unfold mP at h;split at h
 ·exact delK_sub.subset h
 ·exact h
theorem Few1.step {M:Nat}{i:uV}(h:Few1 M i)(o:OpM):Few1 (M+wt o) (B6 i.1 i.2 o):=by
 refine⟨Asv h.1 o,λd a=>?_⟩;have old:d∈i.2->d.l.length<=M+wt o:=λa=>Al1 (h.2 d a) (by omega);unfold B6 at a;rw[if_pos (bN.2 h.1)]at a;split at a
 ·split at a
  ·rcases L3.1 a with rfl | a
   ·simp
   ·exact old a
  ·exact old a
 ·split at a
  ·rcases pX h.1.sd a with a | ⟨-,e,c,-,b⟩
   ·exact old a
   ·have:=Asw b;have:=h.2 e c;simp only at*;omega
  ·split at a
   ·split at a
    ·exact old (Ajb a)
    ·exact old a
   ·split at a
    ·exact old (Ajb a)
    ·exact old a
theorem Few1.mono {M a:Nat}{i:uV}(h:Few1 M i)(c:M<=a):Few1 a i:=⟨h.1,λd b=>Al1 (h.2 d b) c⟩
theorem MayW.len2 {ns:List Nm}{ds:List Nd}(h:MayW ns ds):ds.length<=16:=by
 have:=(bN.2 h).2.1;have:=h.len;omega
theorem Few1.sm {M:Nat}{i:uV}(h:Few1 M i)(b:M<=1000000):Sm i.1 i.2:=
 ⟨by have:=h.1.len;omega,by have:=h.1.len2;omega,λx c=>by have:=(h.1.nm x c).1.2.1;omega,λd a=>Al1 (h.2 d a) b⟩
def xO (o:OpM):Prop:=o.b.length<=5000/\o.name.length<=20/\o.to.length<=20
structure SW (N:Nat)(s:StS):Prop where
 now:Few1 N s.now
 kept:∃a,Few1 a s.kept/\a+N3 s.pend<=N
 ob:∀o∈s.pend,xO o
 made:0<=s.made/\s.made<=N
 cap:0<=s.cap/\s.cap<=4096
 armed: -1<=s.armed/\s.armed<=9223372036854775807
theorem xN {l:List OpM}:l.length<=N3 l:=by
 unfold N3
 induction l with
 | nil=>simp
 | cons o l ih=>simp only[Aq7,List.sum_cons,Al4];unfold wt at*;omega
theorem gY {l:List OpM}{o:OpM}:N3 (l++[o])=N3 l+wt o:=by simp[N3]
theorem SW.plen {N:Nat}{s:StS}(h:SW N s):s.pend.length<=N:=by
 obtain⟨a,-,b⟩:=h.kept;have:=xN (l:=s.pend);omega
theorem SW.mono {N b:Nat}{s:StS}(h:SW N s)(d:N<=b):SW b s:=
 ⟨h.now.mono d,by obtain⟨a,c,e⟩:=h.kept;exact⟨a,c,by omega⟩,h.ob,by have:=h.made;omega,h.cap,h.armed⟩
theorem Ajc:MayW [] []:=⟨by simp,by simp,by simp[CQ],by simp,by simp[CQ],by simp,λi=>by simp[Bo]⟩
theorem Aes (room:Int):SW 0 (Zh room):=
 ⟨⟨Ajc,by simp[Zh]⟩,⟨0,⟨Ajc,by simp[Zh]⟩,by simp[Zh,N3]⟩,by simp[Zh],by simp[Zh],by simp[Zh];omega,by simp[Zh]⟩
def AL (s:StS):Bool×StS:=
 if s.off=true\/s.armed=0 then(false,{s with off:=true})
 else if 0<s.armed then(true,{s with armed:=s.armed - 1})
 else(true,s)
def Km (s:StS)(o:OpM):Int×StS:=
 if(AL s).1=true then(0,{(AL s).2 with now:=B6 s.now.1 s.now.2 o,pend:=s.pend++[o]})else(8,(AL s).2)
theorem mZ {N:Nat}{s:StS}(h:SW N s):SW N (AL s).2:=by
 unfold AL;split
 ·exact⟨h.now,h.kept,h.ob,h.made,h.cap,h.armed⟩
 ·split
  ·exact⟨h.now,h.kept,h.ob,h.made,h.cap,by have:=h.armed;simp only;omega⟩
  ·exact h
theorem HZ (s:StS):(AL s).2.now=s.now/\(AL s).2.kept=s.kept/\(AL s).2.pend=s.pend/\(AL s).2.made=s.made/\(AL s).2.cap=s.cap:=by
 unfold AL;split
 ·exact⟨rfl,rfl,rfl,rfl,rfl⟩
 ·split<;>exact⟨rfl,rfl,rfl,rfl,rfl⟩
theorem ZH {N:Nat}{s:StS}{o:OpM}(h:SW N s)(i:xO o):SW (N+wt o) (Km s o).2:=by
 have c:=mZ h;obtain⟨j,d,k,e,f⟩:=HZ s;unfold Km;split
 ·obtain⟨a,g,l⟩:=h.kept;refine⟨h.now.step o,⟨a,by simp only[d];exact g,by simp only[gY];omega⟩,?_,by simp only[e];have:=h.made;omega,by simp only[f];exact h.cap,c.armed⟩;intro x b;simp only[Ac0]at b;rcases b with b | rfl
  ·exact h.ob x b
  ·exact i
 ·exact c.mono (by omega)
structure StC (s:StS)(os:Nat)(a b c d p:AV)(pv:List OpV)(H:AH):Prop where
 obj:H[os]?=some (some (.cells [I s.cap,a,b,c,d,p,I s.made,I s.armed,B s.off]))
 now:ImV s.now.1 s.now.2 (.agg [a,b])
 kept:ImV s.kept.1 s.kept.2 (.agg [c,d])
 pm:pv.map OpV.o=s.pend
 ps:Ac H 8 p=some (pv.flatMap Jp,pv.length)
 po:Bm p=true
 pi:os∉Ba p
 pc:Dk p pv.length
def StAt (s:StS)(e:Nat)(p:AV)(H:AH):Prop:=∃a b c d f,StC s e a b c d p f H
structure StF (os:Nat)(p p':AV)(H H':AH):Prop where
 len:H.length<=H'.length
 same:∀j,j<H.length->j≠os->j∉Ba p->H'[j]?=H[j]?
 ids:∀j∈Ba p',j∈Ba p\/H.length<=j
theorem StF.refl (a:Nat)(p:AV)(H:AH):StF a p p H H:=⟨Aj7 _,λ_ _ _ _=>rfl,λ_ h=>.inl h⟩
theorem StF.trans {b:Nat}{p e f:AV}{A B C:AH}(h:StF b p e A B)(k:StF b e f B C):StF b p f A C:=
  ⟨Al1 h.len k.len,λj a c d=>by
    rw[k.same j (Am7 a h.len) c (λg=>(h.ids j g).elim d (λq=>by omega)),h.same j a c d],
   λj a=>(k.ids j a).elim (h.ids j) (λq=>.inr (Al1 h.len q))⟩
theorem StF.of_grew {b:Nat}{p:AV}{H H':AH}(g:Grew H H'):StF b p p H H':=⟨g.1,λj a _ _=>g.2 j a,λ_ h=>.inl h⟩
theorem StF.grew {b:Nat}{p c:AV}{H H' a:AH}(h:StF b p c H H')(g:Grew H' a):StF b p c H a:=h.trans (.of_grew g)
theorem StC.lt {s:StS}{e:Nat}{a b c d p:AV}{f:List OpV}{H:AH}(h:StC s e a b c d p f H):e<H.length:=(BG.1 h.obj).1
theorem StC.grew {s:StS}{e:Nat}{a b c d p:AV}{f:List OpV}{H H':AH}(h:StC s e a b c d p f H)(g:Grew H H'):StC s e a b c d p f H':=
 ⟨g.cells h.obj,h.now,h.kept,h.pm,g.slice h.ps,h.po,h.pi,h.pc⟩
theorem StAt.grew {s:StS}{e:Nat}{p:AV}{H H':AH}(h:StAt s e p H)(g:Grew H H'):StAt s e p H':=by
 obtain⟨a,b,c,d,f,h⟩:=h;exact⟨a,b,c,d,f,h.grew g⟩
theorem StC.set {s s':StS}{f:Nat}{a b c d a' g k l p:AV}{m:List OpV}{H:AH}(h:StC s f a b c d p m H)(o:ImV s'.now.1 s'.now.2 (.agg [a',g]))(n:ImV s'.kept.1 s'.kept.2 (.agg [k,l]))(t:s'.pend=s.pend):
  StC s' f a' g k l p m (H.set f (some (.cells [I s'.cap,a',g,k,l,p,I s'.made,I s'.armed,B s'.off])))/\StF f p p H (H.set f (some (.cells [I s'.cap,a',g,k,l,p,I s'.made,I s'.armed,B s'.off]))):=by
 refine⟨⟨HU h.lt,o,n,by rw[t];exact h.pm,Ai h.ps λi q=>Cc (λe=>h.pi (by rw[e];exact q)),h.po,h.pi,h.pc⟩,by simp,λj _ r _=>Cc (Al6 r),λ_ q=>.inl q⟩
theorem ImV.agg2 {ns:List Nm}{ds:List Nd}{v:AV}(h:ImV ns ds v):∃a b,v=.agg [a,b]/\oneA a=true/\oneA b=true:=by
 obtain⟨a,b,e,rfl,c,d,-⟩:=h;exact⟨a,b,rfl,SV.oneA c,SV.oneA d⟩
theorem rE {H:AH}{a k:Nat}{cs:List AV}{x:AV}(h:H[a]?=some (some (.cells cs)))(b:k<cs.length)(c:oneA x=true):AU 1 H (.ptr a k) x=some (H.set a (some (.cells (cs.set k x)))):=by
 rw[AG (n:=1) (xs:=[x]) (cs:=cs) (Bn c) h rfl b];rfl
theorem qJ (x y:AV):A1 true 2 [x,y] 0=some (.agg [x,y]):=rfl
theorem jP (H:AH):AE H (.agg [(I 0),Ad])=some (.ptr H.length 0,H++[some (.cells [I 0,Ad])]):=by simp
theorem ID (H:AH)(s:Int){R:AV}(a:oneA R=true):AU 2 (H++[some (.cells [I 0,Ad])]) (.ptr H.length 0) (.agg [I s,R])=some (H++[some (.cells [I s,R])]):=by
 rw[AG (n:=2) (xs:=[I s,R]) (cs:=[I 0,Ad]) (by simp[a]) (by simp) rfl (by simp)];simp[Bb]
theorem BE {H:AH}{x:AObj}:(H++[some x])[H.length]?=some (some x):=by simp
abbrev Av6:=@Int.max_comm
theorem Ajd (room:Int)(H:AH)(hr:room<=9223372036854775807):∃r H',(∃p,r=.ptr H.length 0/\H'.length=H.length+1/\StAt (Zh room) H.length p H'/\Grew H H'/\Ba p=[])/\Ba0 10 [I room] H r H':=xG (by
 unfold uO;have b:amm jF [I room,(I 0)]=some (I (max room 0)):=by rw[JT,jG,Av6]
 have c:amm gZ [I (max room 0),(I 4096)]=some (I (min (max room 0) 4096)):=by rw[JT,pS,Int.min_comm]
 have d:Dy [(I 0),Ad,Ad,Ad,Ad,Ad,(I 0),(I 0),(B false)] [(0,1,I (min (max room 0) 4096)),(7,1,(I (-1)))]=some (.agg [I (min (max room 0) 4096),Ad,Ad,Ad,Ad,Ad,I 0,I (-1),B false]):=rfl;have e:AE H (.agg [I (min (max room 0) 4096),Ad,Ad,Ad,Ad,Ad,I 0,I (-1),B false])=some (.ptr H.length 0,H++[some (.cells [I (min (max room 0) 4096),Ad,Ad,Ad,Ad,Ad,I 0,I (-1),B false])]):=by simp
 rw[b,Aa,c,Aa,d,Aa,e,A6];have a:ImV [] [] (.agg [Ad,Ad]):=⟨Ad,Ad,[],rfl,SV.nil,SV.nil,rfl⟩;exact⟨Ad,rfl,by simp,⟨Ad,Ad,Ad,Ad,[],⟨BE,a,a,rfl,rfl,rfl,by simp[Ba],by simp[Dk]⟩⟩,Grew.app _ _,rfl⟩)
abbrev Ab5:=And.intro @Aa7 @Ab1
abbrev Ac9:=And.intro @A2 @Ab5
theorem Asx {s:StS}{e:Nat}{p:AV}{H:AH}(h:StAt s e p H):Ba0 78 [.ptr e 0] H (B s.off) H:=by
 obtain⟨r,H',⟨rfl,rfl⟩,f⟩:=cK (a0:=.ptr e 0) (H:=H) (K:=λr H'=>r=B s.off/\H'=H) (by obtain⟨a,b,c,d,i,h⟩:=h;unfold W3;simp only[Ac9,Ah h.obj];exact⟨by trivial,by trivial⟩);exact f
def yN (s:StS)(n:Int):StS:={s with armed:=max n (-1)}
theorem Aet {N:Nat}{s:StS}(h:SW N s){n:Int}(a:n<=9223372036854775807):SW N (yN s n):=⟨h.now,h.kept,h.ob,h.made,h.cap,by simp only[yN];omega⟩
abbrev Ag0:=And.intro @A2 @Ab0
theorem Aje {s:StS}{e:Nat}{p:AV}{H:AH}(h:StAt s e p H)(n:Int):∃r H',(r=.tup []/\StAt (yN s n) e p H'/\StF e p p H H')/\Ba0 31 [.ptr e 0,I n] H r H':=cI (by
 obtain⟨a,b,c,d,k,h⟩:=h;unfold W1;have f:amm jF [I n,(I (-1))]=some (I (max n (-1))):=by rw[JT,jG,Av6]
 obtain⟨i,j⟩:=h.set (s':=yN s n) h.now h.kept rfl;have g:AU 1 H (.ptr e 7) (I (max n (-1)))=some (H.set e (some (.cells [I s.cap,a,b,c,d,p,I s.made,I (max n (-1)),B s.off]))):=rE h.obj (by simp) rfl;simp only[f,Ag0,g,A9];exact⟨by trivial,⟨a,b,c,d,k,i⟩,j⟩)
abbrev Do:=And.intro @A4 @beq_self_eq_true.{0}
abbrev Ab9:=And.intro @Aa5 @Ao
abbrev Af8:=And.intro @Ab9 @if_true.{1}
abbrev Ag8:=And.intro @Ac9 @Af
abbrev Ah0:=And.intro @An @Ao
theorem Ajf {s:StS}{f:Nat}{p:AV}{H:AH}(h:StAt s f p H)(z: -1<=s.armed/\s.armed<=9223372036854775807):∃r H',(r=B (AL s).1/\StAt (AL s).2 f p H'/\StF f p p H H')/\Ba0 80 [.ptr f 0] H r H':=Z4 (by
 obtain⟨a,b,c,d,m,h⟩:=h;unfold Vo;simp only[Ac9,Ah h.obj,A7];have u:s.off=true\/s.armed=0->bS (AU 1 H (.ptr f 8) (B true)) λn=>B false=B (AL s).1/\StAt (AL s).2 f p n/\StF f p p H n:=by
  intro x;have e:AL s=(false,{s with off:=true}):=by unfold AL;rw[if_pos x]
  rw[e];obtain⟨k,l⟩:=h.set (s':={s with off:=true}) h.now h.kept rfl;have j:AU 1 H (.ptr f 8) (B true)=some (H.set f (some (.cells [I s.cap,a,b,c,d,p,I s.made,I s.armed,B true]))):=rE h.obj (by simp) rfl;simp only[j,A9];exact⟨by trivial,⟨a,b,c,d,m,k⟩,l⟩
 cases t:s.off with
 | true=>
  simp only[show((true==false)=false)from rfl,AT,Af8,Am];exact u (.inl t)
 | false=>
  simp only[Do,Ag8,Ah h.obj,Bu,Ah0];by_cases g:s.armed=0
  ·simp only[g,Ab7];exact u (.inr g)
  ·simp only[g,Aa8,C8];have o:¬(s.off=true\/s.armed=0):=by rintro(q | q);rw[t]at q;cases q;exact g q
   by_cases i:0<s.armed
   ·have e:AL s=(true,{s with armed:=s.armed - 1}):=by unfold AL;rw[if_neg o,if_pos i]
    rw[e];obtain⟨k,l⟩:=h.set (s':={s with armed:=s.armed - 1}) h.now h.kept rfl;have w:Ar .sub (I s.armed) (I 1)=some (I (s.armed - 1)):=B4 (by omega) (by omega);have j:AU 1 H (.ptr f 7) (I (s.armed - 1))=some (H.set f (some (.cells [I s.cap,a,b,c,d,p,I s.made,I (s.armed - 1),B s.off]))):=rE h.obj (by simp) rfl;simp only[i,B3,w,Aa,j,A9];rw[Mi];unfold Hr;exact⟨rfl,⟨a,b,c,d,m,k⟩,l⟩
   ·have e:AL s=(true,s):=by unfold AL;rw[if_neg o,if_neg i]
    rw[e];simp only[i,B8];rw[Mi];unfold Hr;exact⟨rfl,⟨a,b,c,d,m,h⟩,.refl _ _ _⟩)
theorem Aan (c a b d e f g h i:AV):A1 true 2 [c,a,b,d,e,f,g,h,i] 1=some (.agg [a,b])/\A1 true 2 [c,a,b,d,e,f,g,h,i] 3=some (.agg [d,e]):=⟨rfl,rfl⟩
theorem Add {H:AH}{c:Nat}{d l m o p e f g i a b:AV}(h:H[c]?=some (some (.cells [d,l,m,o,p,e,f,g,i])))(j:oneA a=true)(k:oneA b=true):
  AU 2 H (.ptr c 1) (.agg [a,b])=some (H.set c (some (.cells [d,a,b,o,p,e,f,g,i])))/\AU 2 H (.ptr c 3) (.agg [a,b])=some (H.set c (some (.cells [d,l,m,a,b,e,f,g,i]))):=by
 constructor
 ·rw[AG (n:=2) (off:=1) (xs:=[a,b]) (by simp[j,k]) h rfl (by simp)];rfl
 ·rw[AG (n:=2) (off:=3) (xs:=[a,b]) (by simp[j,k]) h rfl (by simp)];rfl
theorem aX {s:StS}{e:Nat}{a b c d p:AV}{f:List OpV}{H:AH}(h:StC s e a b c d p f H):∀j∈Ba p,j<H.length:=λj q=>A5 h.ps j q
abbrev Aa3:=And.intro @Ag @Bool.not_true
abbrev Aa4:=And.intro @Am @Bool.not_false
abbrev Ag1:=And.intro @AJ @Aa5
theorem Abf {N:Nat}{s:StS}{f:Nat}{p bv:AV}{H:AH}{o:OpM}(h:StAt s f p H)(z:SW N s)(hN:N<=900000)(u:SV Ft 1 o.b bv)(y:xO o):
  ∃r H',(r=I (Km s o).1/\∃p',StAt (Km s o).2 f p' H'/\StF f p p' H H')/\Ba0 48 [.ptr f 0,.agg (BO o bv)] H r H':=gQ (by
 have h0:=h;obtain⟨a0,b0,c0,d0,ak,J⟩:=h;unfold Y6;have M:=SV.oneA u;have Y:AE H (.agg (BO o bv))=some (.ptr H.length 0,H++[some (.cells (BO o bv))]):=by simp[BO,M]
 have g:=Grew.app H [some (.cells (BO o bv))];obtain⟨r,w,⟨rfl,l,x⟩,hc⟩:=Ajf (h0.grew g) z.armed;rw[Y,A6];refine bC_of hc ?_;have sm:=z.now.sm (by omega);obtain⟨P,q2,Q,q4,q5⟩:=HZ s;simp only[Ag1];cases K:(AL s).1 with
 | false=>
  have e:Km s o=(8,(AL s).2):=by unfold Km;rw[if_neg (by rw[K];simp)]
  rw[e];simp only[Aa4];exact⟨by trivial,p,l,(StF.of_grew g).trans x⟩
 | true=>
  have e:Km s o=(0,{(AL s).2 with now:=B6 s.now.1 s.now.2 o,pend:=s.pend++[o]}):=by unfold Km;rw[if_pos K]
  rw[e];have ah:f<H.length:=J.lt;have aa:=aX J;obtain⟨a,b,c,d,O,l⟩:=l;have E:w[H.length]?=some (some (.cells (BO o bv))):=by rw[x.same H.length (by simp) (by omega) (λq=>by have:=aa _ q;omega)];exact BE
  obtain⟨R,v,hp⟩:=uT (o:=o) (bv:=bv) l.now (by rw[P];exact sm) u (by have:=y.1;omega) (by have:=y.2.1;omega) (by have:=y.2.2;omega);rw[P]at v;obtain⟨m,n,rfl,oa,ob⟩:=v.agg2;have S:A1 true 8 (BO o bv) 0=some (.agg (BO o bv)):=rfl;simp only[Aa3,Ag0,Ah l.obj,(Aan _ _ _ _ _ _ _ _ _).1,Ah E,S];refine bP_of hp ?_;obtain⟨k,G⟩:=l.set (s':={(AL s).2 with now:=B6 s.now.1 s.now.2 o}) v l.kept rfl;simp only[(Add l.obj oa ob).1,A9];have X:(w.set f (some (AObj.cells [I (AL s).2.cap,m,n,c,d,p,I (AL s).2.made,I (AL s).2.armed,B (AL s).2.off])))[H.length]?=some (some (.cells (BO o bv))):=by rw[Cc (by omega)];exact E
  simp only at k G;generalize ag:w.set f (some (AObj.cells [I (AL s).2.cap,m,n,c,d,p,I (AL s).2.made,I (AL s).2.armed,B (AL s).2.off]))=H4 at*;have Z:W6 8 1 (Bx [(I 0),(I 0),(I 0),(I 0),(B false),(.lit (.string ⟨#[]⟩)),(.lit (.string ⟨#[]⟩)),Ad] 1) [(0,8,.agg (BO o bv))]=some (.imm (Jp ⟨o,bv,u⟩) 1 8):=by simp[W6,Bx,Jp,BO,Qc,M,Bb]
  have T:B1 H4 8 (.imm (Jp ⟨o,bv,u⟩) 1 8)=some (Jp ⟨o,bv,u⟩,1):=AA (by simp[Ac,Jp,BO]);have ai:O.length=s.pend.length:=by rw[<- Q,<- l.pm,Ak8]
  have aj:=z.plen;obtain⟨r,t,A,a2,U,V,C,D⟩:=Cn (bytes:=96) k.ps k.po T (by omega);have W:=Vv k.ps k.po T k.pc A;have F:t[f]?=some (some (.cells [I (AL s).2.cap,m,n,c,d,p,I (AL s).2.made,I (AL s).2.armed,B (AL s).2.off])):=by rw[C f k.lt k.pi];exact k.obj
  have L:f∉Ba r:=λq=>(D f q).elim k.pi (λq=>by have:=k.lt;omega);have e7:AU 1 t (.ptr f 5) r=some (t.set f (some (.cells [I (AL s).2.cap,m,n,c,d,r,I (AL s).2.made,I (AL s).2.armed,B (AL s).2.off]))):=rE F (by simp) (AI a2);simp only[Ah k.obj,Ah3,Aa7,Ah X,S,Z,A,Ad2,e7];have ad:f<t.length:=(BG.1 F).1;refine⟨by trivial,r,⟨m,n,c,d,O++[⟨o,bv,u⟩],⟨HU ad,v,l.kept,?_,?_,a2,L,by simpa using W⟩⟩,?_⟩
  ·rw[An0,l.pm,Q];rfl
  ·have:=Ai U (H':=t.set f (some (.cells [I (AL s).2.cap,m,n,c,d,r,I (AL s).2.made,I (AL s).2.armed,B (AL s).2.off]))) λi q=>Cc (λe=>L (by rw[e];exact q));simpa using this
  ·have f5:StF f p r H4 (t.set f (some (.cells [I (AL s).2.cap,m,n,c,d,r,I (AL s).2.made,I (AL s).2.armed,B (AL s).2.off]))):=⟨by simpa using V,λj hj ae ab=>by rw[Cc (Al6 ae),C j hj ab],D⟩;exact((StF.of_grew g).trans x).trans (G.trans f5))
theorem Asy {N:Nat}{s:StS}{k:Nat}{p:AV}{H:AH}(h:StAt s k p H)(t:SW N s)(w:N<=900000):∃R,ImV s.now.1 s.now.2 R/\∀e,Grew H e->∃r H',(r=R/\Grew e H')/\Ba0 14 [.ptr k 0] e r H':=by
 obtain⟨a,b,c,d,x,h⟩:=h;obtain⟨R,j,q⟩:=Aer h.now (t.now.sm (by omega));refine⟨R,j,λe o=>cJ ?_⟩;unfold W2;obtain⟨f,i,rfl,u,v⟩:=j.agg2;have l:AE e (.agg [Ad,Ad])=some (.ptr e.length 0,e++[some (.cells [Ad,Ad])]):=by simp
 have g:=Grew.app e [some (.cells [Ad,Ad])];have m:AU 2 (e++[some (.cells [Ad,Ad])]) (.ptr e.length 0) (.agg [f,i])=some (e++[some (.cells [f,i])]):=by rw[AG (n:=2) (xs:=[f,i]) (cs:=[Ad,Ad]) (by simp[u,v]) (by simp) rfl (by simp)];simp[Bb]
 simp only[l,A6,Ag0,Ah (g.cells (o.cells h.obj)),(Aan _ _ _ _ _ _ _ _ _).1];refine Az q ?_;simp only[m,A9,Ah BE,qJ,Aa];exact⟨by trivial,Grew.app _ _⟩
theorem Aeu {N:Nat}{s:StS}{a:Nat}{p:AV}{H:AH}(h:StAt s a p H)(d:SW N s)(b:N<=900000):∃R,ImV s.now.1 s.now.2 R/\∃r H',(r=R/\Grew H H')/\Ba0 14 [.ptr a 0] H r H':=by
 obtain⟨R,c,f⟩:=Asy h d b;exact⟨R,c,f H (Grew.refl H)⟩
def SH (s:StS):Int:=max 0 (s.cap - OW s.now.2)
theorem Ajg {M:Nat}{i:uV}(h:Few1 M i):OW i.2<=16*M:=by
 have a:=xI h.2;have b:=h.1.len2;exact Al1 a (Ak5 _ b)
theorem Aev {N:Nat}{s:StS}{f:Nat}{p:AV}{H:AH}(h:StAt s f p H)(e:SW N s)(m:N<=900000):Ba0 21 [.ptr f 0] H (I (SH s)) H:=by
 obtain⟨r,H',⟨rfl,rfl⟩,k⟩:=Zy (a0:=.ptr f 0) (H:=H) (K:=λr H'=>r=I (SH s)/\H'=H) (by
  obtain⟨a,b,c,d,o,h⟩:=h;unfold Vh;have g:=Aqx h.now (e.now.sm (by omega));rw[Aiz e.now.1]at g;have hs:=Ajg e.now;have n:=e.cap;have i:Ar .sub (I s.cap) (I (OW s.now.2:Int))=some (I (s.cap - OW s.now.2)):=B4 (by omega) (by omega);have j:amm jF [(I 0),I (s.cap - OW s.now.2)]=some (I (SH s)):=by rw[JT,jG,Av6];rfl
  simp only[A2,Ab1,Ah h.obj,BH,(Aan _ _ _ _ _ _ _ _ _).1];refine bP_of g ?_;simp only[i,Aa,j];exact⟨by trivial,by trivial⟩)
 exact k
def Ay (s:StS)(ino:Int):I5×Int:=
 if s.off=true then((0,[]),8)else if iZ s.now.1 s.now.2 ino then(((FB s.now.1 s.now.2 ino).size,(FB s.now.1 s.now.2 ino).l),0)else((0,[]),3)
abbrev Aa9:=And.intro @Aa7 @Ap
abbrev Ab4:=And.intro @Aa5 @Aa9
abbrev Ae4:=And.intro @AJ @Ab4
abbrev Ag4:=And.intro @Aa4 @B8
abbrev Ah8:=And.intro @Aa3 @B3
theorem Kl {N:Nat}{s:StS}{v:Nat}{p:AV}{H:AH}(h:StAt s v p H)(w:SW N s)(y:N<=900000)(ino:Int):
  ∃R,SV AB 9 (Ay s ino).1.2 R/\∃r H',(r=.tup [.agg [I (Ay s ino).1.1,R],I (Ay s ino).2]/\Grew H H')/\Ba0 49 [.ptr v 0,I ino] H r H':=by
 obtain⟨a,b,c,d,z,h⟩:=h;have o:Dy [(I 0),Ad] []=some (.agg [I 0,Ad]):=rfl;have g:=Grew.app H [some (.cells [I 0,Ad])];cases f:s.off with
 | true=>
  have e:Ay s ino=((0,[]),8):=by unfold Ay;rw[if_pos f]
  rw[e];refine⟨Ad,SV.nil,GL ?_⟩;unfold FK;simp only[jP,Ad2,Ag8,Ah (g.cells h.obj),f,Am,o,ID H 0 (R:=Ad) rfl,Ah BE,qJ];exact⟨by trivial,Grew.app _ _⟩
 | false=>
  have sm:=w.now.sm (by omega);obtain⟨R,t,u⟩:=Aij h.now sm ino;have m:=SV.oneA t;by_cases j:iZ s.now.1 s.now.2 ino
  ·have e:Ay s ino=(((FB s.now.1 s.now.2 ino).size,(FB s.now.1 s.now.2 ino).l),0):=by unfold Ay;rw[if_neg (by rw[f];simp),if_pos j]
   rw[e];refine⟨R,t,GL ?_⟩;unfold FK;simp only[jP,A6,Ag8,Ah (g.cells h.obj),f,Ag,(Aan _ _ _ _ _ _ _ _ _).1];refine Az u ?_;have i:=Grew.app (H++[some (AObj.cells [I 0,Ad])]) [some (AObj.cells [I (FB s.now.1 s.now.2 ino).size,R])];have k:AU 2 (H++[some (AObj.cells [I 0,Ad])]++[some (AObj.cells [I (FB s.now.1 s.now.2 ino).size,R])]) (.ptr H.length 0) (.agg [I (FB s.now.1 s.now.2 ino).size,R])=some (H++[some (AObj.cells [I (FB s.now.1 s.now.2 ino).size,R])]++[some (AObj.cells [I (FB s.now.1 s.now.2 ino).size,R])]):=by rw[AG (n:=2) (xs:=[I (FB s.now.1 s.now.2 ino).size,R]) (cs:=[I 0,Ad]) (by simp[m]) (i.cells BE) rfl (by simp)];simp[Bb]
   have q:=Grew.app (H++[some (AObj.cells [I (FB s.now.1 s.now.2 ino).size,R])]) [some (AObj.cells [I (FB s.now.1 s.now.2 ino).size,R])];simp only[Ae4,ID _ _ m,A9,j,Ah8,Ah BE,qJ,k,Ah (q.cells BE)];exact⟨by trivial,(Grew.app H _).trans q⟩
  ·have e:Ay s ino=((0,[]),3):=by unfold Ay;rw[if_neg (by rw[f];simp),if_neg j]
   rw[e];refine⟨Ad,SV.nil,GL ?_⟩;unfold FK;simp only[jP,A6,Ag8,Ah (g.cells h.obj),f,Ag,(Aan _ _ _ _ _ _ _ _ _).1];refine Az u ?_;have i:=Grew.app (H++[some (AObj.cells [I 0,Ad])]) [some (AObj.cells [I (FB s.now.1 s.now.2 ino).size,R])];have k:AU 2 (H++[some (AObj.cells [I 0,Ad])]++[some (AObj.cells [I (FB s.now.1 s.now.2 ino).size,R])]) (.ptr H.length 0) (.agg [I 0,Ad])=some (H++[some (AObj.cells [I 0,Ad])]++[some (AObj.cells [I (FB s.now.1 s.now.2 ino).size,R])]):=by rw[AG (n:=2) (xs:=[I 0,Ad]) (cs:=[I 0,Ad]) rfl (i.cells BE) rfl (by simp)];simp[Bb]
   simp only[Ae4,ID _ _ m,A9,j,Ag4,o,k,Ah (i.cells BE),qJ];exact⟨by trivial,g.trans i⟩
def Cx (s:StS)(name:List UInt8):Int×Int:=
 if s.off=true then(0,8)else if ¬Ek name then(0,5)else if Bo Nm.name s.now.1 name then(Dx s.now.1 name,0)else(0,3)
abbrev Aa2:=And.intro @B3 @if_true.{1}
abbrev Ad8:=And.intro @Aa5 @not_true_eq_false
abbrev Af4:=And.intro @if_true.{1} @not_false_eq_true
theorem Aew {N:Nat}{s:StS}{e:Nat}{p:AV}{H:AH}(h:StAt s e p H)(j:SW N s)(t:N<=900000){name:List UInt8}(l:name.length<=9223372036854775807):
  Ba0 47 [.ptr e 0,S (Ax name)] H (.tup [I (Cx s name).1,I (Cx s name).2]) H:=by
 obtain⟨r,H',⟨rfl,rfl⟩,k⟩:=Z5 (a0:=.ptr e 0) (a1:=S (Ax name)) (H:=H) (K:=λr H'=>r=.tup [I (Cx s name).1,I (Cx s name).2]/\H'=H) (by
  obtain⟨a,b,c,d,v,h⟩:=h;unfold Vp;unfold Cx;simp only[Ag8,Ah h.obj];cases u:s.off with
  | true=>simp only[if_true,Am];exact⟨by trivial,by trivial⟩
  | false=>
   simp only[Ag,An];refine Az (Ua l) ?_;by_cases i:Ek name
   ·simp only[i,Ah8,AJ,Ad8,if_false];have f:=Aqv h.now (j.now.sm (by omega)) name;obtain⟨m,n⟩:=Aiy j.now.1 name;rw[m,show decide (Zf s.now.1 s.now.2 name)=decide (Bo Nm.name s.now.1 name)from decide_eq_decide.2 n]at f;simp only[Aa,(Aan _ _ _ _ _ _ _ _ _).1];refine Az f ?_;by_cases g:Bo Nm.name s.now.1 name
    ·simp only[Ae4,g,Aa2,Aa3];exact⟨by trivial,by trivial⟩
    ·simp only[Ae4,g,Ag4,if_false];exact⟨by trivial,by trivial⟩
   ·simp only[i,Ag4,Ag1,Af4];exact⟨by trivial,by trivial⟩)
 exact k
def En (name:List UInt8)(i:Int):OpM:=⟨1,i,0,0,false,name,[],[]⟩
def lM (name to:List UInt8):OpM:=⟨6,0,0,0,false,name,to,[]⟩
def fH (name:List UInt8):OpM:=⟨7,0,0,0,false,name,[],[]⟩
def wT (ino size:Int):OpM:=⟨3,ino,0,size,false,[],[],[]⟩
theorem Aex (ino size:Int):xO (wT ino size):=⟨by simp[wT],by simp[wT],by simp[wT]⟩
theorem wS {name:List UInt8}(h:Ek name):xO (fH name):=⟨by simp[fH],h.2.1,by simp[fH]⟩
def Bf (s:StS)(name:List UInt8)(a:Bool):(Int×Int)×StS:=
 if(Cx s name).2≠3\/a=false then(Cx s name,s)
 else if 16<=s.now.1.length then((0,4),s)
 else if(Km s (En name (s.made+1))).1≠0 then((0,(Km s (En name (s.made+1))).1),(Km s (En name (s.made+1))).2)
 else((s.made+1,0),{(Km s (En name (s.made+1))).2 with made:=s.made+1})
theorem Ajh {s:StS}{name:List UInt8}(h:(Cx s name).2=3):Ek name/\¬Bo Nm.name s.now.1 name/\s.off=false:=by
 unfold Cx at h;split at h
 ·simp at h
 ·split at h
  ·simp at h
  ·split at h
   ·simp at h
   ·rename_i a b c;exact⟨Al7 b,c,by simpa using a⟩
theorem wB {s:StS}{name:List UInt8}(h:(Cx s name).2=0):Ek name/\Bo Nm.name s.now.1 name/\s.off=false/\(Cx s name).1=Dx s.now.1 name:=by
 unfold Cx at h|-;split at h
 ·simp at h
 ·split at h
  ·simp at h
  ·split at h
   ·rename_i a b c;rw[if_neg a,if_neg b,if_pos c];exact⟨Al7 b,c,by simpa using a,rfl⟩
   ·simp at h
theorem SQ {N:Nat}{s:StS}(h:SW N s)(name:List UInt8)(f:Bool):SW (N+1) (Bf s name f).2:=by
 unfold Bf;split
 ·exact h.mono (by omega)
 ·rename_i b;have c:Ek name:=(Ajh (Al7 λq=>b (.inl q))).1;have d:xO (En name (s.made+1)):=⟨by simp[En],c.2.1,by simp[En]⟩;have a:=ZH h d;have e:wt (En name (s.made+1))=1:=rfl;rw[e]at a;split
  ·exact h.mono (by omega)
  ·split
   ·exact a
   ·exact⟨a.now,a.kept,a.ob,by simp only;have:=h.made;omega,a.cap,a.armed⟩
abbrev Aa0:=And.intro @ne_eq.{1} @not_false_eq_true
abbrev Ac4:=And.intro @Aa @Aa8
abbrev Ad0:=And.intro @Aa @Aa9
abbrev Ad1:=And.intro @Ab9 @An
abbrev Ad3:=And.intro @Aa2 @Am
abbrev Ad9:=And.intro @Aa0 @Ad3
abbrev Af7:=And.intro @Aa0 @Ab7
theorem nJ {N:Nat}{s:StS}{i:Nat}{p:AV}{H:AH}(h:StAt s i p H)(t:SW N s)(hN:N<900000){name:List UInt8}(R:name.length<=9223372036854775807)(g:Bool):
  ∃r H',(r=.tup [I (Bf s name g).1.1,I (Bf s name g).1.2]/\∃p',StAt (Bf s name g).2 i p' H'/\StF i p p' H H')/\Ba0 18 [.ptr i 0,S (Ax name),B g] H r H':=Z1 (by
 unfold Vk;refine bC_of (Aew h t (by omega) R) ?_;have aa:=t.made;simp only[Ad0,Bz,A7];by_cases f:(Cx s name).2=3
 ·obtain⟨Q,hk,ab⟩:=Ajh f;simp only[f,Pr,B8,Do,Ad1,AJ];cases g with
  | false=>
   have e:Bf s name false=(Cx s name,s):=by unfold Bf;rw[if_pos (.inr rfl)]
   rw[e];simp only[Aa4];exact⟨by rw[f],p,h,.refl _ _ _⟩
  | true=>
   have o:¬((Cx s name).2≠3\/true=false):=by rintro(q | q);exact q f;cases q
   have C:=h;obtain⟨a,b,c,d,pv,F⟩:=h;obtain⟨Y,Z,dv,l,X,sb,-⟩:=F.now;injection l with l;injection l with L eb;subst L;simp only[Aa3,Ag8,Ao8,Ah F.obj,X.len,JP];by_cases m:16<=s.now.1.length
   ·have n:(16:Int)<=(s.now.1.length:Int):=by omega
    have e:Bf s name true=((0,4),s):=by unfold Bf;rw[if_neg o,if_pos m]
    rw[e];simp only[n,Ab7];exact⟨by trivial,p,C,.refl _ _ _⟩
   ·have n:¬(16:Int)<=(s.now.1.length:Int):=by omega
    have T:xO (En name (s.made+1)):=⟨by simp[En],Q.2.1,by simp[En]⟩;have z:Ar .add (I s.made) (I 1)=some (I (s.made+1)):=Au (by omega) (by omega);have J:Dy [(I 0),(I 0),(I 0),(I 0),(B false),(.lit (.string ⟨#[]⟩)),(.lit (.string ⟨#[]⟩)),Ad] [(0,1,(I 1)),(5,1,S (Ax name)),(1,1,I (s.made+1))]=some (.agg (BO (En name (s.made+1)) Ad)):=rfl;simp only[n,Ac4,z,J];obtain⟨r,v,⟨rfl,u,D,A⟩,P⟩:=Abf (bv:=Ad) C t (by omega) SV.nil T;refine bC_of P ?_;simp only[Bz,Aa5];by_cases k:(Km s (En name (s.made+1))).1=0
    ·have e:Bf s name true=((s.made+1,0),{(Km s (En name (s.made+1))).2 with made:=s.made+1}):=by unfold Bf;rw[if_neg o,if_neg m,if_neg (by rw[k];simp)]
     rw[e];have M:(Km s (En name (s.made+1))).2.made=s.made:=by obtain⟨-,-,-,W,-⟩:=HZ s;unfold Km;split<;>exact W
     obtain⟨a2,w,x,y,V,j⟩:=D;obtain⟨E,O⟩:=j.set (s':={(Km s (En name (s.made+1))).2 with made:=s.made+1}) j.now j.kept rfl;have K:AU 1 v (.ptr i 6) (I (s.made+1))=some (v.set i (some (.cells [I (Km s (En name (s.made+1))).2.cap,a2,w,x,y,u,I (s.made+1),I (Km s (En name (s.made+1))).2.armed,B (Km s (En name (s.made+1))).2.off]))):=rE j.obj (by simp) rfl;have G:=j.obj;rw[M]at G;simp only[k,Pr,Ac4,Ah G,Ae,Aa7,z,K,A9,Ah E.obj];exact⟨by trivial,u,⟨a2,w,x,y,V,E⟩,A.trans O⟩
    ·have e:Bf s name true=((0,(Km s (En name (s.made+1))).1),(Km s (En name (s.made+1))).2):=by unfold Bf;rw[if_neg o,if_neg m,if_pos k]
     rw[e];simp only[k,Af7];exact⟨by trivial,u,D,A⟩
 ·have e:Bf s name g=(Cx s name,s):=by unfold Bf;rw[if_pos (.inl f)]
  rw[e];simp only[f,Ad9,show((true==false)=false)from rfl,AT,Ab9];exact⟨by trivial,p,h,.refl _ _ _⟩)
def DL (s:StS)(ino size:Int):Int×StS:=
 if(Ay s ino).2≠0 then((Ay s ino).2,s)else if CR (Ay s ino).1 size=none then(5,s)else Km s (wT ino size)
theorem RZ {N:Nat}{s:StS}(h:SW N s)(ino size:Int):SW (N+1) (DL s ino size).2:=by
 unfold DL;split
 ·exact h.mono (by omega)
 ·split
  ·exact h.mono (by omega)
  ·exact ZH h (Aex ino size)
theorem CI {N:Nat}{s:StS}(h:SW N s)(ino:Int):(Ay s ino).1.2.length<=N:=by
 unfold Ay;split
 ·simp
 ·split
  ·rename_i b;obtain⟨d,a,rfl⟩:=b.2;rw[(T5 h.now.1 a).1];exact h.now.2 d a
  ·simp
abbrev Ac6:=And.intro @Option.isSome_none.{0} @if_true.{1}
abbrev Ac8:=And.intro @Aa3 @Option.isSome_some.{0}
abbrev Ae6:=And.intro @Ab4 @Bz
abbrev Ag9:=And.intro (And.intro @Ad2 @Ae6) @jP
abbrev Ah1:=And.intro @Ab8 @Ac4
theorem mT {N:Nat}{s:StS}{a:Nat}{p:AV}{H:AH}(h:StAt s a p H)(i:SW N s)(J:N<900000)(ino size:Int):
  ∃r H',(r=I (DL s ino size).1/\∃p',StAt (DL s ino size).2 a p' H'/\StF a p p' H H')/\Ba0 19 [.ptr a 0,I ino,I size] H r H':=Vn (by
 unfold OA;obtain⟨R,m,r,e,⟨rfl,f⟩,x⟩:=Kl h i (by omega) ino;have K:=CI i ino;refine bC_of x ?_;unfold DL;generalize Ay s ino=ct at*;have C:=SV.oneA m;have u:=h.grew f;have g:=Grew.app e [some (.cells [I ct.1.1,R])];have l:=u.grew g;simp only[Ag9,ID _ _ C];by_cases n:ct.2=0
 ·simp only[n,Ah1,Ah BE,qJ];obtain⟨j,w,z⟩:=SE (size0:=ct.1.1) m (by omega) size;refine Az z ?_;have D:=SV.oneA w;have k:=Grew.app (e++[some (AObj.cells [I ct.1.1,R])]) [some (.cells [I (cS (CR (ct.1.1,ct.1.2) size)),j])];have c:=l.grew k;have b:StF a p p H (e++[some (AObj.cells [I ct.1.1,R])]++[some (.cells [I (cS (CR (ct.1.1,ct.1.2) size)),j])]):=.of_grew ((f.trans g).trans k);simp only[Ae4,ID _ _ D,A9];cases d:CR (ct.1.1,ct.1.2) size with
  | none=>
   have A:CR ct.1 size=none:=d;rw[d]at c b;simp only[Ac6,Aa4];exact⟨by trivial,p,c,b⟩
  | some c2=>
   have A:¬CR ct.1 size=none:=by rw[show CR ct.1 size=some c2 from d];simp
   rw[d]at c b;have q:Dy [(I 0),(I 0),(I 0),(I 0),(B false),(.lit (.string ⟨#[]⟩)),(.lit (.string ⟨#[]⟩)),Ad] [(0,1,(I 3)),(1,1,I ino),(3,1,I size)]=some (.agg (BO (wT ino size) Ad)):=rfl;simp only[Ac8,q,Aa];obtain⟨r,F,⟨rfl,E,v,t⟩,y⟩:=Abf (bv:=Ad) (o:=wT ino size) c i (by omega) SV.nil (Aex ino size);exact bC_of y ⟨rfl,E,v,b.trans t⟩
 ·simp only[n,Ad9];exact⟨by trivial,p,l,.of_grew (f.trans g)⟩)
def Q0 (s:StS)(name to:List UInt8):Int×StS:=
 if s.off=false/\¬Ek to then(5,s)else if(Cx s name).2≠0\/name=to then((Cx s name).2,s)else Km s (lM name to)
theorem xA {s:StS}{name to:List UInt8}(c:¬(s.off=false/\¬Ek to))(d:¬((Cx s name).2≠0\/name=to)):xO (lM name to):=by
 obtain⟨a,a2,b,-⟩:=wB (Al7 λq=>d (.inl q));have:Ek to:=Al7 λq=>c ⟨b,q⟩;exact⟨by simp[lM],a.2.1,this.2.1⟩
theorem Aji {N:Nat}{s:StS}(h:SW N s)(name to:List UInt8):SW (N+1) (Q0 s name to).2:=by
 unfold Q0;split
 ·exact h.mono (by omega)
 ·split
  ·exact h.mono (by omega)
  ·rename_i a b;exact ZH h (xA a b)
abbrev Af5:=And.intro @AT @Ad1
theorem Asz {N : Nat} {s : StS} {e : Nat} {p : AV} {H : AH} (h : StAt s e p H) (v : SW N s) (Z : N < 900000) {name to : List UInt8} (G : name.length<=9223372036854775807) (J : to.length<=9223372036854775807) :
    ∃r H',(r=I (Q0 s name to).1/\∃p',StAt (Q0 s name to).2 e p' H'/\StF e p p' H H')/\Ba0 118 [.ptr e 0,S (Ax name),S (Ax to)] H r H':=Xc (by
  unfold RX;have f:=h;obtain ⟨a,b,c,d,pv,E⟩:=h;have w : ¬ (s.off=false/\¬ Ek to)->bC (Ba0 47 [.ptr e 0,S (Ax name)] H) λx k=>
      bO (Ak x 0) λaa=>
      bO (Ak x 1) λy=>
      bO (Ar .neq y (I 0)) λj=>
      bG j false λU=>
      gO U (some (S (Ax name))) λM=>
      bG j false λV=>
      gO V (some (S (Ax to))) λO=>
      bG j false λW=>
      gO W (OX .eql M O) λP=>
      bO (A0 j (B true) P) λQ=>
      bB Q λL=>bI L (
      y=I (Q0 s name to).1/\∃p',StAt (Q0 s name to).2 e p' k/\StF e p p' H k)
       (bO (Dy [(I 0),(I 0),(I 0),(I 0),(B false),(.lit (.string ⟨#[]⟩)),(.lit (.string ⟨#[]⟩)),Ad] [(0,1,(I 6)),(5,1,S (Ax name)),(6,1,S (Ax to))]) λR=>
      bC (Ba0 48 [.ptr e 0,R] k) λT n=>
      T=I (Q0 s name to).1/\∃p',StAt (Q0 s name to).2 e p' n/\StF e p p' H n):=by
    intro t;refine bC_of (Aew f v (by omega) G) ?_;unfold Q0;rw[if_neg t];simp only[Ad0,Bz,A7];by_cases l:(Cx s name).2=0
    · have A:OX .eql (S (Ax name)) (S (Ax to))=some (B (decide (name=to))):=DC;simp only[l,Pr,B8,Do,Ad1,A,false_or]
      by_cases m:name=to
      · simp only[m,Ad3];exact⟨by trivial,p,f,.refl _ _ _⟩
      · have z:Dy [(I 0),(I 0),(I 0),(I 0),(B false),(.lit (.string ⟨#[]⟩)),(.lit (.string ⟨#[]⟩)),Ad] [(0,1,(I 6)),(5,1,S (Ax name)),(6,1,S (Ax to))]=some (.agg (BO (lM name to) Ad)):=rfl;simp only[m,Ac4,if_false,z];obtain⟨r,X,⟨rfl,K,D,C⟩,F⟩:=Abf (bv:=Ad) (o:=lM name to) f v (by omega) SV.nil (xA t (by rintro(q | q);exact q l;exact m q));exact bC_of F ⟨rfl,K,D,C⟩
    · simp only[l,Ad9,show((true==false)=false)from rfl,AT,Ab9,true_or];exact⟨by trivial,p,f,.refl _ _ _⟩
  simp only[Ac9,Ah E.obj,AJ,A7];cases u:s.off with
  | true=>
    simp only[Aa3,show((false==true)=false)from rfl,Af5,ND];exact w (λg=>by rw[u]at g;cases g.1)
  | false=>
    simp only[As2,Do,V7,Aa];refine Az (Ua J) ?_;by_cases i:Ek to
    · simp only[i,Aa2,AJ,Aa3,Ab9];exact w (λg=>g.2 i)
    · simp only[i,Ag4,AJ,Af8];unfold Q0;rw[if_pos ⟨u,i⟩];exact⟨rfl,p,f,.refl _ _ _⟩)
def fQ (s:StS)(name:List UInt8):Int×StS:=if(Cx s name).2≠0 then((Cx s name).2,s)else Km s (fH name)
theorem Ajj {N:Nat}{s:StS}(h:SW N s)(name:List UInt8):SW (N+1) (fQ s name).2:=by
 unfold fQ;split
 ·exact h.mono (by omega)
 ·rename_i a;exact ZH h (wS (wB (Al7 a)).1)
theorem Ata {N:Nat}{s:StS}{a:Nat}{p:AV}{H:AH}(h:StAt s a p H)(c:SW N s)(m:N<900000){name:List UInt8}(i:name.length<=9223372036854775807):
  ∃r H',(r=I (fQ s name).1/\∃p',StAt (fQ s name).2 a p' H'/\StF a p p' H H')/\Ba0 120 [.ptr a 0,S (Ax name)] H r H':=Xb (by
 unfold RW;refine bC_of (Aew h c (by omega) i) ?_;unfold fQ;simp only[Ae6];by_cases b:(Cx s name).2=0
 ·have d:Dy [(I 0),(I 0),(I 0),(I 0),(B false),(.lit (.string ⟨#[]⟩)),(.lit (.string ⟨#[]⟩)),Ad] [(0,1,(I 7)),(5,1,S (Ax name))]=some (.agg (BO (fH name) Ad)):=rfl;simp only[b,Ah1,d];obtain⟨r,k,⟨rfl,j,f,e⟩,g⟩:=Abf (bv:=Ad) (o:=fH name) h c (by omega) SV.nil (wS (wB b).1);exact bC_of g ⟨rfl,j,f,e⟩
 ·simp only[b,Ad9];exact⟨by trivial,p,h,.refl _ _ _⟩)
def Pg (s:StS)(ino pos n:Int):List UInt8×Int:=
 if(Ay s ino).2≠0 then([],(Ay s ino).2)else if pos<0\/n<0\/4096<n then([],5)else(Hw (Ay s ino).1.1 (Ay s ino).1.2 pos n,0)
theorem Fr {N:Nat}{s:StS}(h:SW N s){ino:Int}(a:(Ay s ino).2=0):∃d∈s.now.2,d.ino=ino/\(Ay s ino).1=(d.size,d.l)/\s.off=false:=by
 unfold Ay at a|-;split at a
 ·simp at a
 ·rename_i b;split at a
  ·rename_i e;obtain⟨d,c,rfl⟩:=e.2;rw[if_neg b,if_pos e,(T5 h.now.1 c).1];exact⟨d,c,rfl,rfl,by simpa using b⟩
  ·simp at a
abbrev Ac3:=And.intro @Aa2 @Do
abbrev Ai3:=And.intro @Aa8 @Pr
abbrev Ai9:=And.intro @A7 @Do
theorem Atb {N:Nat}{s:StS}{u:Nat}{p:AV}{H:AH}(h:StAt s u p H)(f:SW N s)(z:N<900000)(ino pos n:Int):
  ∃R,SV Ft 1 (Pg s ino pos n).1 R/\∃r H',(r=.tup [R,I (Pg s ino pos n).2]/\Grew H H')/\Ba0 61 [.ptr u 0,I ino,I pos,I n] H r H':=by
 obtain⟨R,q,r,o,⟨rfl,j⟩,l⟩:=Kl h f (by omega) ino;have C:=CI f ino;have m:=SV.oneA q;have k:=Grew.app o [some (.cells [I (Ay s ino).1.1,R])];by_cases a:(Ay s ino).2=0
 ·obtain⟨d,x,B,A,E⟩:=Fr f a;by_cases t:pos<0\/n<0\/4096<n
  ·have e:Pg s ino pos n=([],5):=by unfold Pg;rw[if_neg (by rw[a];simp),if_pos t]
   rw[e];refine⟨Ad,SV.nil,Jn ?_⟩;unfold IE;refine bC_of l ?_;simp only[Ag9,ID _ _ m,a,Ai3,AM,A7];have i:True/\Grew H (o++[some (AObj.cells [I (Ay s ino).1.1,R])]):=⟨trivial,j.trans k⟩;by_cases b:pos<0
   ·simp only[b,Ad3,show((true==false)=false)from rfl,AT,Ab9,A7];exact i
   ·by_cases c:n<0
    ·simp only[b,B8,Ac3,Af5,AM,c,A7,show((true==false)=false)from rfl,Am];exact i
    ·have g:4096<n:=by omega
     simp only[b,B8,Ai9,Ad1,AM,c,C8,g,Ab7];exact i
  ·have e:Pg s ino pos n=(Hw (Ay s ino).1.1 (Ay s ino).1.2 pos n,0):=by unfold Pg;rw[if_neg (by rw[a];simp),if_neg t]
   rw[e];have D:=f.now.1.mc d x;obtain⟨v,w,y⟩:=rT q (by omega) pos n;refine⟨v,w,Jn ?_⟩;unfold IE;refine bC_of l ?_;have b:¬pos<0:=by omega
   have c:¬n<0:=by omega
   have g:¬4096<n:=by omega
   simp only[Ag9,ID _ _ m,a,Ai3,AM,Ai9,b,c,C8,g,Ah0,Ah BE,qJ];exact Az y ⟨rfl,j.trans k⟩
 ·have e:Pg s ino pos n=([],(Ay s ino).2):=by unfold Pg;rw[if_pos a]
  rw[e];refine⟨Ad,SV.nil,Jn ?_⟩;unfold IE;refine bC_of l ?_;simp only[Ag9,ID _ _ m,a,Af7];exact⟨by trivial,j.trans k⟩
theorem Atc {N:Nat}{X:AH}{o:Nat}(a:N<=o):(old N X)[o]?=X[o]?:=by
 unfold old;rw[Aj8 (by simpa using a),List.length_replicate,Ak3,show N+(o - N)=o by omega]
theorem BCall.fzS {P:Program}{f:FuncId}{args:List AV}{H X:AH}{r:AV}{sz m:Nat}{cs:List AV}(h:BCall P f args H r X)(g:Grew H X)(hs:Ac X sz r=some (cs,m))(hi:∀i∈Ba r,H.length<=i)(d:AF cs=true):
  ∃R,(noIds R=true/\∀H,Ac H sz R=some (cs,m))/\BCall P f args H R H:=by
 have e:Ac (old H.length X) sz r=some (cs,m):=Ai hs λi q=>Atc (hi i q);obtain⟨R,n0,a,b,c⟩:=iY e d;refine⟨R,⟨a,b⟩,ACalls.fzNew (R':=λj=>j=R) h ?_⟩;rintro n k ⟨rfl,rfl⟩;exact⟨g.1,g.2,n0,R,c n0 (Aj7 _),rfl⟩
theorem Atd {H:AH}{v:AV}{l:List UInt8}(h:Ac H 1 v=some (Bp l,l.length))(hl:l.length<=1000000000):∃R,SV Ft 1 l R/\Ba0 101 [v] H R H:=by
 obtain⟨r,X,⟨hs,g,a⟩,s⟩:=RU (a0:=v) (H:=H) (K:=λr X=>Ac X 1 r=some (Bp l,l.length)/\Grew H X/\∀i∈Ba r,H.length<=i) (by
  unfold La;rcases VC h with⟨rfl,w,x⟩ | q
  ·have e:vA .eql Zi Ad Ad=some (B true):=rfl;simp only[e,Aa5,Am];exact⟨h,Grew.refl H,by simp[Ba]⟩
  ·simp only[q,Aa5,Ag];have e:Co H 1 0 (Bx [u0Z] 0) []=some (.sl H.length 0 0 1 (.ex 0),H++[some (.cells [])]):=rfl;simp only[e,A6];have g:=Grew.app H [some (.cells [])];have k:Ac (H++[some (.cells [])]) 1 (.sl H.length 0 0 1 (.ex 0))=some ([],0):=by simp[Ac]
   obtain⟨r,t,b,a2,c,d,f,j⟩:=Cn (sz:=1) (bytes:=1) (H:=H++[some (.cells [])]) (v:=.sl H.length 0 0 1 (.ex 0)) (cs:=[]) (n:=0) k rfl (AA (g.slice h)) (by omega);simp only[b,A6];refine⟨by simpa using c,⟨by simp at d;omega,λi a=>?_⟩,λi a=>?_⟩
   ·rw[f i (by simp;omega) (by simp[Ba];omega)];exact g.2 i a
   ·rcases j i a with h | h
    ·simp[Ba]at h;omega
    ·simp at h;omega)
 obtain⟨R,⟨m,o⟩,p⟩:=BCall.fzS s g hs a (NI _);exact⟨R,⟨m,λH=>by rw[o H,Kn]⟩,p⟩
theorem Ate:Ch prog 165=true:=by kernel_rfl
theorem Atf (x:Ext)(no:Int):Ba2 165 [.agg (AB x),.ip [I no]] (B (decide (x.no=no))):=BPure.val (by simp[AF,noIds,Ic]) rfl (qS (by
 unfold lS;have a:AE [] (.agg (AB x))=some (.ptr 0 0,[some (.cells (AB x))]):=by simp
 have b:(AB x)[0]?=some (I x.no):=rfl;have c:([some (.cells (AB x))]:AH)[0]?=some (some (.cells (AB x))):=rfl;simp only[a,A6,Ab1,Ah c,b,vH,BH,Bu]
 try trivial))
theorem Atg (x:Ext)(t:List AV):A1 true 9 (AB x++t) 0=some (.agg (AB x)):=by
 have:=AD x;simp only[A1,if_true,Ak1,this,Al8];rw[if_pos (by omega),Ak9 (by omega),Aj3 (by omega)]
abbrev Ah5:=And.intro @List.nil_append.{0} @YE
theorem Ath {l:List Ext}{v:AV}(i:SV AB 9 l v)(hl:l.length<=281474976710656)(no:Int):∃j:Int,(0<=j↔Cp l no)/\Ba2 167 [v,.fn (.func 165) [] [.ip [I no]]] (I j):=by
 have key:∃r X,(∃j:Int,r=I j/\(0<=j↔Cp l no))/\Ba0 167 [v,.fn (.func 165) [] [.ip [I no]]] [] r X:=E6 (by
  unfold D8;simp only[i.len,Aa];refine DJ (λn q s t u H'=>∃k:Nat,k+n=l.length/\q=v/\s=.fn (.func 165) [] [.ip [I no]]/\t=I l.length/\u=I k/\∀(m:Nat) y,m<k->l[m]?=some y->y.no≠no) ?_ l.length ⟨0,by omega,rfl,rfl,rfl,rfl,by omega⟩;rintro n q s t u H R w ⟨k,C,rfl,rfl,rfl,rfl,p⟩;unfold CP;rcases Aj5 k l.length with h | h
  ·have f:=Dq h;generalize l[k]=y at f;have o:(k:Int)<(l.length:Int):=by omega
   simp only[Ac1,o,Ab7,i.idx AD f rfl,vH,Atg,sX,Ate,Bool.true_or,Ah5,Ap4];refine bC_of (Atf y no H) ?_;simp only[Af];by_cases c:y.no=no
   ·simp only[c,Ab7];exact⟨k,rfl,by simp only[Int.natCast_nonneg,true_iff];exact⟨y,Aj2 f,c⟩⟩
   ·simp only[c,Ac4,Au (a:=k) (b:=1) (by omega) (by omega)];refine w (n - 1) _ _ _ _ _ (by omega) ⟨k+1,by omega,rfl,rfl,rfl,by simp,?_⟩;intro m z g d;by_cases e:m=k
    ·rw[e,f]at d;injection d with d;rw[<- d];exact c
    ·exact p m z (by omega) d
  ·have o:¬(k:Int)<(l.length:Int):=by omega
   simp only[Aj1,o];refine⟨-1,rfl,by simp only[show ¬(0:Int)<=-1 by omega,false_iff];rintro⟨y,B,e⟩;obtain⟨m,g⟩:=Ak0.1 B;exact p m y (by have:=(BG.1 g).1;omega) g e⟩)
 obtain⟨r,X,⟨j,rfl,A⟩,x⟩:=key;exact⟨j,A,BPure.val (by simp[AF,noIds,i.1]) rfl ⟨_,_,rfl,x⟩⟩
theorem Ati {l:List Ext}{v:AV}(c:SV AB 9 l v)(hl:l.length<=281474976710656)(no:Int):Ba2 164 [v,.fn (.func 165) [] [.ip [I no]]] (B (decide (Cp l no))):=by
 obtain⟨j,a,b⟩:=Ath c hl no;refine BPure.flat λH=>HQ ?_;unfold E2;refine Az b ?_;simp only[JP,Aa];exact⟨by congr 3;exact propext a,by trivial⟩
theorem Atj {size:Int}{l:List Ext}{v:AV}(a:SV AB 9 l v)(hl:l.length<=281474976710656)(no:Int):Ba2 100 [.agg [I size,v],I no] (B (decide (Cp l no))):=BPure.val (by simp[AF,noIds,a.1]) rfl (xH (by
 have f:=SV.oneA a;unfold uP;have b:AE [] (.agg [I size,v])=some (.ptr 0 0,[some (.cells [I size,v])]):=by simp[f]
 have c:AE [some (.cells [I size,v])] (I no)=some (.ptr 1 0,[some (.cells [I size,v]),some (.cells [I no])]):=rfl;have d:([some (.cells [I size,v]),some (.cells [I no])]:AH)[0]?=some (some (.cells [I size,v])):=rfl;simp only[b,A6,c,Ab5,Ah d];have e:FZs [some (.cells [I size,v]),some (.cells [I no])] [v,.fn (.func 165) [] [.ptr 1 0]] [v,.fn (.func 165) [] [.ip [I no]]]:=by refine FZs.cons (FZ.same a.1) (FZs.cons ⟨3,λn g=>?_⟩ FZs.nil);obtain⟨n,rfl⟩:∃m,n=m+3:=⟨n - 3,by omega⟩;rfl
 refine bP_of (PCall.lend e rfl (Ati a hl no)) ?_
 try trivial))
theorem Ajk:∀{f:Nat} {p n:Int} {q:Sp},0<=p->q∈DD f p n 8->p<=q.pos/\0<q.len/\q.len<=8/\q.pos+q.len<=p+n
 | 0,p,n,q,_,h=>by simp[DD]at h
 | f+1,p,n,q,hp,h=>by
  unfold DD at h;split at h
  ·rename_i c;have a:=As7 p (show(0:Int)<8 by omega);have b:=As8 p (show(8:Int)≠0 by omega);rcases Al3.1 h with rfl | h
   ·simp only;omega
   ·have:=Ajk (by omega) h;omega
  ·simp at h
def GE (ino pos:Int)(b:List UInt8):OpM:=⟨2,ino,pos,0,false,[],[],b⟩
theorem qH {ino pos:Int}{b:List UInt8}(h:b.length<=8):xO (GE ino pos b):=⟨by show b.length<=_;omega,by simp[GE],by simp[GE]⟩
def Fd (b:List UInt8)(pos:Int)(q:Sp):List UInt8:=(b.drop (q.pos - pos).toNat).take q.len.toNat
def mS (c:List Ext)(ino pos:Int)(b:List UInt8):List Sp->StS->(Int×Int)×StS
 | [],s=>((b.length,0),s)
 | q::r,s=>
  if ¬Cp c (q.pos/8)/\SH s=0 then((q.pos - pos,4),s)
  else if(Km s (GE ino q.pos (Fd b pos q))).1≠0 then((q.pos - pos,(Km s (GE ino q.pos (Fd b pos q))).1),(Km s (GE ino q.pos (Fd b pos q))).2)
  else mS c ino pos b r (Km s (GE ino q.pos (Fd b pos q))).2
def XS (pos:Int)(n:Nat):Prop:=0<=pos/\n<=4096/\pos<=1099511627776 - n
instance (pos:Int) (n:Nat):Decidable (XS pos n):=by unfold XS;infer_instance
def BD (s:StS)(ino pos:Int)(b:List UInt8):(Int×Int)×StS:=
 if(Ay s ino).2≠0 then((0,(Ay s ino).2),s)else if ¬XS pos b.length then((0,5),s)
 else mS (Ay s ino).1.2 ino pos b (Ey ⟨pos,b.length⟩ 8) s
theorem Yk {pos:Int}{b:List UInt8}{q:Sp}(a:XS pos b.length)(h:q∈Ey ⟨pos,b.length⟩ 8):pos<=q.pos/\0<q.len/\q.len<=8/\q.pos+q.len<=pos+b.length:=by
 unfold Ey at h;split at h
 ·exact Ajk a.1 h
 ·simp at h
theorem jR {b:List UInt8}{pos:Int}{q:Sp}(h:pos<=q.pos/\0<q.len/\q.len<=8/\q.pos+q.len<=pos+b.length):(Fd b pos q).length=q.len.toNat:=by
 unfold Fd;rw[Aj4,Aj9];omega
theorem Aey {c:List Ext}{ino pos:Int}{b:List UInt8}:∀{l:List Sp} {N:Nat} {s:StS},(∀q∈l,pos<=q.pos/\0<q.len/\q.len<=8/\q.pos+q.len<=pos+b.length)->SW N s->SW (N+9*l.length) (mS c ino pos b l s).2
 | [],N,s,_,h=>h
 | q::r,N,s,hq,h=>by
  have d:=hq q (by simp);have f:=jR d;have a:=ZH (o:=GE ino q.pos (Fd b pos q)) h (qH (by omega));have g:wt (GE ino q.pos (Fd b pos q))<=9:=by show 1+(Fd b pos q).length+(if(2:Int)=4 then _ else 0)<=9;rw[if_neg (by omega)];omega
  unfold mS;simp only[Al4];split
  ·exact h.mono (by omega)
  ·split
   ·exact a.mono (by omega)
   ·exact(Aey (λx e=>hq x (by simp[e])) a).mono (by omega)
theorem jS {pos:Int}{b:List UInt8}(c:XS pos b.length):(Ey ⟨pos,b.length⟩ 8).length<=b.length:=by
 unfold Ey;split
 ·have:∀(f:Nat) (p n:Int),(DD f p n 8).length<=f:=by
   intro f
   induction f with
   | zero=>intro p n;simp[DD]
   | succ f ih=>
    intro p n;unfold DD;split
    ·simp only[Al4];have:=ih (p+min n (8 - p % 8)) (n - min n (8 - p % 8));omega
    ·simp
  have a:=this (b.length:Int).toNat pos b.length;have e:((b.length:Int)).toNat=b.length:=by omega
  simp only;omega
 ·simp
theorem tG:∀{f:Nat} {p n:Int},0<=p->0<=n->((DD f p n 8).length:Int)<=(if n=0 then 0 else(p % 8+n+7)/8)
 | 0,p,n,hp,hn=>by unfold DD;simp only[Ap0];split<;>omega
 | f+1,p,n,hp,hn=>by
  unfold DD;by_cases h:0<n
  ·rw[if_pos h,if_neg (by omega)];simp only[Al4];have a:=tG (f:=f) (p:=p+min n (8 - p % 8)) (n:=n - min n (8 - p % 8)) (by omega) (by omega);split at a<;>omega
  ·rw[if_neg h];simp only[Ap0];split<;>omega
theorem Atk {pos:Int}{n:Nat}(a:0<=pos):((Ey ⟨pos,n⟩ 8).length:Int)<=(pos % 8+n+7)/8:=by
 unfold Ey;split
 ·have:=tG (f:=(n:Int).toNat) (p:=pos) (n:=n) a (by omega);show((DD (n:Int).toNat pos n 8).length:Int)<=_;split at this<;>omega
 ·simp only[Ap0];omega
theorem uS {N:Nat}{s:StS}(h:SW N s)(ino pos:Int)(b:List UInt8){k:Nat}(c:0<=pos->(pos % 8+b.length+7)/8<=(k:Int)):SW (N+9*k) (BD s ino pos b).2:=by
 unfold BD;split
 ·exact h.mono (by omega)
 ·split
  ·exact h.mono (by omega)
  ·rename_i a;have a:=Al7 a;exact(Aey (λq d=>Yk a d) h).mono (by have:=Atk (n:=b.length) a.1;have:=c a.1;omega)
theorem gX {N:Nat}{s:StS}(h:SW N s)(ino pos:Int)(b:List UInt8):SW (N+9*b.length) (BD s ino pos b).2:=by
 unfold BD;split
 ·exact h.mono (by omega)
 ·split
  ·exact h.mono (by omega)
  ·rename_i a;have a:=Al7 a;exact(Aey (λq c=>Yk a c) h).mono (by have:=jS a;omega)
abbrev Ad5:=And.intro @A7 @Aa
abbrev Ah2:=And.intro @Ab7 @Ad2
abbrev Ai5:=And.intro @Ad5 @Do
theorem mU {N:Nat}{s:StS}{f:Nat}{p v:AV}{H:AH}(h:StAt s f p H)(hw:SW N s)(ino pos:Int){b:List UInt8}(hN:N+9*b.length<900000)(O:Ac H 1 v=some (Bp b,b.length))(a7:∀j∈Ba v,j≠f/\j∉Ba p):
  ∃r H',(r=.tup [I (BD s ino pos b).1.1,I (BD s ino pos b).1.2]/\∃p',StAt (BD s ino pos b).2 f p' H'/\StF f p p' H H')/\Ba0 44 [.ptr f 0,I ino,I pos,v] H r H':=Y5 (by
 unfold Tt;obtain⟨R,hR,r,g,⟨rfl,u⟩,hc⟩:=Kl h hw (by omega) ino;have bm:=CI hw ino;refine bC_of hc ?_;unfold BD;generalize Ay s ino=ct at*;have oR:=SV.oneA hR;have h1:=h.grew u;have z:=Grew.app g [some (.cells [I ct.1.1,R])];have X:=h1.grew z;have bq:=z.slice (u.slice O);have ae:AW v=some (I b.length):=Bt O;simp only[Ag9,ID _ _ oR];by_cases ai:ct.2=0
 ·simp only[ai,Ah1,ae];refine Az (ZJ pos b.length (by omega)) ?_;by_cases w:XS pos b.length
  ·have Z:0<=pos/\b.length<=4096/\pos<=1099511627776 - b.length:=w;have e1:Dy [(I 0),(I 0)] [(0,1,I pos),(1,1,I (b.length:Int))]=some (.agg (B9 ⟨pos,b.length⟩)):=rfl;simp only[w,Z,and_self,Ah8,AJ,Ad8,if_false,e1];obtain⟨V,Y,hp⟩:=lL ⟨pos,b.length⟩ (unit:=8) (by omega);refine Az hp ?_;simp only[Y.len,Aa];have al:∀q∈Ey ⟨pos,b.length⟩ 8,pos<=q.pos/\0<q.len/\q.len<=8/\q.pos+q.len<=pos+b.length:=λq J=>Yk w J;have a3:=jS w;generalize Ey ⟨pos,b.length⟩ 8=L at Y al a3;have c0:(g++[some (AObj.cells [I ct.1.1,R])])[g.length]?=some (some (.cells [I ct.1.1,R])):=BE;have f0:StF f p p H (g++[some (AObj.cells [I ct.1.1,R])]):=.of_grew (u.trans z);have bo:f<H.length:=by obtain⟨a,Q,c,d,pv,i⟩:=h;exact i.lt
   have a2:∀j∈Ba p,j<H.length:=by obtain⟨a,Q,c,d,pv,i⟩:=h;exact aX i
   have a6:∀j∈Ba v,j<H.length:=λj q=>A5 O j q;have bk:H.length<=g.length:=u.1;refine Sw (λm x0 x1 x2 A au ab av aw H'=>∃(k:Nat) (s':StS) (p':AV),k+m=L.length/\x0=.ptr f 0/\x1=I ino/\x2=I pos/\A=v/\au=.ptr g.length 0/\ab=V/\av=I L.length/\aw=I k/\StAt s' f p' H'/\StF f p p' H H'/\SW (N+9*k) s'/\H'[g.length]?=some (some (.cells [I ct.1.1,R]))/\g.length∉Ba p'/\mS ct.1.2 ino pos b (L.drop k) s'=mS ct.1.2 ino pos b L s) ?_ L.length ⟨0,s,p,by omega,rfl,rfl,rfl,rfl,rfl,rfl,rfl,rfl,X,f0,hw,c0,λq=>by have:=a2 _ q;omega,rfl⟩;rintro m x0 x1 x2 A au ab av aw e R2 ax ⟨k,s',p',hk,rfl,rfl,rfl,rfl,rfl,rfl,rfl,rfl,K,ag,aa,S,aj,ak⟩;rw[<- ak];unfold Mh;rcases Aj5 k L.length with am | a0
   ·have i:=Dq am;have J:=al L[k] (Ar0 am);generalize L[k]=q at i J;obtain⟨q1,q2,q3,q4⟩:=J;have kI:(k:Int)<(L.length:Int):=by omega
    have F:L.drop k=q::L.drop (k+1):=Cs i;rw[F];generalize hW:mS ct.1.2 ino pos b (q::L.drop (k+1)) s'=W;have a9:A1 true 2 (B9 q++(L.drop (k+1)).flatMap B9) 0=some (.agg (B9 q)):=by simp[A1,B9]
    have eA:(AV.agg (B9 q))=.agg [I q.pos,I q.len]:=rfl;have n2:AE e (.agg [(I 0),(I 0)])=some (.ptr e.length 0,e++[some (.cells [I 0,I 0])]):=by simp
    have t2:AU 2 (e++[some (.cells [I 0,I 0])]) (.ptr e.length 0) (.agg [I q.pos,I q.len])=some (e++[some (.cells [I q.pos,I q.len])]):=by rw[AG (n:=2) (xs:=[I q.pos,I q.len]) (cs:=[I 0,I 0]) rfl (by simp) rfl (by simp)];simp[Bb]
    have D:=Grew.app e [some (.cells [I q.pos,I q.len])];have e2:Ar .sub (I q.pos) (I pos)=some (I (q.pos - pos)):=B4 (by omega) (by omega);have e3:Ar .quo (I q.pos) (I 8)=some (I (q.pos/8)):=JQ (by omega) (by omega) (by omega);simp only[AM,Ab1,Af,kI,Ah2,Y.idx iT i rfl,vH,a9,eA,n2,t2,Ah BE,BH,e2,Ah (D.cells S),qJ,e3];refine Az (Atj hR (by omega) (q.pos/8)) ?_;have M:=K.grew D;have y:StF f p p' H (e++[some (.cells [I q.pos,I q.len])]):=ag.grew D;have af:=D.cells S;have tq:(e++[some (AObj.cells [I q.pos,I q.len])])[e.length]?=some (some (.cells [I q.pos,I q.len])):=BE;have a1:e.length+1=(e++[some (AObj.cells [I q.pos,I q.len])]).length:=by simp
    have bp:∀j∈Ba p',j<e.length:=by obtain⟨a,Q,c,d,pv,i⟩:=K;exact aX i
    have bn:f<e.length:=by obtain⟨a,Q,c,d,pv,i⟩:=K;exact i.lt
    have bl:g.length<e.length:=(BG.1 S).1;generalize (e++[some (AObj.cells [I q.pos,I q.len])])=H3 at M y af tq a1
    have T:¬(¬Cp ct.1.2 (q.pos/8)/\SH s'=0)->bO (Ab 0 (.ptr e.length 0)) (λap=>bO (Aq false 1 H3 ap) λaq=>bO (Ab 1 (.ptr e.length 0)) λbc=>bO (Aq false 1 H3 bc) λbd=>bO (Ar .add (I (q.pos - pos)) bd) λbe=>bO (Bq 1 A (some (I (q.pos - pos))) (some be) none) λbf=>
      bC (Ba0 101 [bf] H3) λbg ad=>bO (Dy [(I 0),(I 0),(I 0),(I 0),(B false),(.lit (.string ⟨#[]⟩)),(.lit (.string ⟨#[]⟩)),Ad] [(0,1,(I 2)),(1,1,I ino),(2,1,aq),(7,1,bg)]) λbh=>
      bC (Ba0 48 [.ptr f 0,bh] ad) λar P=>(Aq false 1 ad ap=some aq)/\bO (Ar .neq ar (I 0)) λbi=>bB bi λbb=>bI bb
       (AV.tup [I (q.pos - pos),ar]=.tup [I W.1.1,I W.1.2]/\
        ∃p',StAt W.2 f p' P/\StF f p p' H P)
       (bO (Ar .add (I k) (I 1)) λbj=>R2 [.ptr f 0,I ino,I pos,A,.ptr g.length 0,ab,I L.length,bj] P)):=by
     intro ao;have e4:Ar .add (I (q.pos - pos)) (I q.len)=some (I (q.pos - pos+q.len)):=Au (by omega) (by omega);have a5:Ac H3 1 A=some (Bp b,b.length):=Ai O λj hj=>by have an:=a7 j hj;exact y.same j (a6 j hj) an.1 an.2
     obtain⟨r5,s1,s2,s3,-⟩:=DS a5 (lo:=some (I (q.pos - pos))) (hi:=some (I (q.pos - pos+q.len))) (l:=(q.pos - pos).toNat) (k:=(q.pos - pos+q.len).toNat) (by simp only[BL];rw[if_pos (by omega)]) (by simp only[BL];rw[if_pos (by omega)]) (by omega) (by omega);have a4:=jR (b:=b) (pos:=pos) (q:=q) ⟨q1,q2,q3,q4⟩;have ba:Ac H3 1 r5=some (Bp (Fd b pos q),(Fd b pos q).length):=by rw[s2,a4];unfold Fd;rw[Ao5,Ao5,show(q.pos - pos+q.len).toNat - (q.pos - pos).toNat=q.len.toNat by omega];simp[Bp,Av2,Aw7]
     obtain⟨Rb,ah,az⟩:=Atd ba (by omega);simp only[Ab5,Ah tq,e4,s1];refine bC_of az ?_;have e5:Dy [(I 0),(I 0),(I 0),(I 0),(B false),(.lit (.string ⟨#[]⟩)),(.lit (.string ⟨#[]⟩)),Ad] [(0,1,(I 2)),(1,1,I ino),(2,1,I q.pos),(7,1,Rb)]=some (.agg (BO (GE ino q.pos (Fd b pos q)) Rb)):=by have:=SV.oneA ah;simp[Dy,BO,GE,Bn this];rfl
     simp only[e5,Aa];obtain⟨r6,H6,⟨rfl,p6,h6,C⟩,ay⟩:=Abf (o:=GE ino q.pos (Fd b pos q)) M aa (by omega) ah (qH (by omega));have a8:=ZH (o:=GE ino q.pos (Fd b pos q)) aa (qH (by omega));refine bC_of ay ⟨by rw[Ah tq];rfl,?_⟩;simp only[Bz,Aa5];by_cases E:(Km s' (GE ino q.pos (Fd b pos q))).1=0
     ·simp only[E,Pr,Ac4,Au (a:=k) (b:=1) (by omega) (by omega)];have br:wt (GE ino q.pos (Fd b pos q))<=9:=by show 1+(Fd b pos q).length+(if(2:Int)=4 then _ else 0)<=9;rw[if_neg (by omega)];omega
      refine ax (m - 1) _ _ _ _ _ _ _ _ _ (by omega) ⟨k+1,_,p6,by omega,rfl,rfl,rfl,rfl,rfl,rfl,rfl,by simp,h6,y.trans C,a8.mono (by omega),?_,?_,?_⟩
      ·rw[C.same g.length (by omega) (by omega) aj];exact af
      ·intro t;rcases C.ids _ t with t | t
       ·exact aj t
       ·omega
      ·rw[<- ak,F]
       conv=>rhs;unfold mS
       rw[if_neg ao,if_neg (by rw[E];simp)]
     ·have U:W=((q.pos - pos,(Km s' (GE ino q.pos (Fd b pos q))).1),(Km s' (GE ino q.pos (Fd b pos q))).2):=by rw[<- hW];unfold mS;rw[if_neg ao,if_pos E]
      rw[U];simp only[E,Af7];exact⟨by trivial,p6,h6,y.trans C⟩
    by_cases t:Cp ct.1.2 (q.pos/8)
    ·simp only[t,Ah8,AJ,Af5,A7,show((false==true)=false)from rfl,FN];exact T (λx=>x.1 t)
    ·simp only[t,B8,AJ,As2,Ai5,Hu];refine bC_of (Aev M aa (by omega)) ?_;simp only[Bu,Af8];by_cases G:SH s'=0
     ·have U:W=((q.pos - pos,4),s'):=by rw[<- hW];unfold mS;rw[if_pos ⟨t,G⟩]
      rw[U];simp only[G,Ab7];exact⟨by trivial,p',M,y⟩
     ·simp only[G,Aa8];exact T (λx=>G x.2)
   ·have kI:¬(k:Int)<(L.length:Int):=by omega
    have F:L.drop k=[]:=Ak6 a0;rw[F];unfold mS;simp only[Aj1,kI,ae];exact⟨by trivial,p',K,ag⟩
  ·have Z:¬(0<=pos/\b.length<=4096/\pos<=1099511627776 - b.length):=w;simp only[w,Z,Ag4,Ag1,Af4];exact⟨by trivial,p,X,.of_grew (u.trans z)⟩
 ·simp only[ai,Ad9];exact⟨by trivial,p,X,.of_grew (u.trans z)⟩)
def Za (i:Int):List AV:=[I i]
theorem Atl (i:Int):(Za i).length=1:=rfl
theorem Atm (l:List Int):AF (l.flatMap Za)=true:=EF λx _=>rfl
theorem Atn (x:Int)(t:List AV):A1 false 1 (Za x++t) 0=some (I x):=rfl
theorem Ato {l:List Int}{v:AV}(i:SV Za 1 l v)(hl:l.length<=281474976710656)(no:Int):∃j:Int,(0<=j↔no∈l)/\Ba2 185 [v,I no] (I j):=by
 have key:∃r X,(∃j:Int,r=I j/\(0<=j↔no∈l))/\Ba0 185 [v,I no] [] r X:=TX (by
  unfold MZ;simp only[i.len,Aa];refine O7 (λn q s t u H'=>∃k:Nat,k+n=l.length/\q=v/\s=I no/\t=I l.length/\u=I k/\∀(m:Nat) y,m<k->l[m]?=some y->no≠y) ?_ l.length ⟨0,by omega,rfl,rfl,rfl,rfl,by omega⟩;rintro n q s t u H R w ⟨k,C,rfl,rfl,rfl,rfl,p⟩;unfold I3;rcases Aj5 k l.length with h | h
  ·have f:=Dq h;generalize l[k]=y at f;have o:(k:Int)<(l.length:Int):=by omega
   simp only[Ac1,o,Ab7,i.idx Atl f rfl,vH,Atn,Bu];by_cases c:no=y
   ·simp only[c,Ab7];exact⟨k,rfl,by simp only[Int.natCast_nonneg,true_iff];exact Aj2 f⟩
   ·simp only[c,Ac4,Au (a:=k) (b:=1) (by omega) (by omega)];refine w (n - 1) _ _ _ _ _ (by omega) ⟨k+1,by omega,rfl,rfl,rfl,by simp,?_⟩;intro m z g d;by_cases e:m=k
    ·rw[e,f]at d;injection d with d;rw[<- d];exact c
    ·exact p m z (by omega) d
  ·have o:¬(k:Int)<(l.length:Int):=by omega
   simp only[Aj1,o];refine⟨-1,rfl,by simp only[show ¬(0:Int)<=-1 by omega,false_iff];intro B;obtain⟨m,g⟩:=Ak0.1 B;exact p m no (by have:=(BG.1 g).1;omega) g rfl⟩)
 obtain⟨r,X,⟨j,rfl,A⟩,x⟩:=key;exact⟨j,A,BPure.val (by simp[AF,noIds,i.1]) rfl ⟨_,_,rfl,x⟩⟩
theorem xQ {l:List Int}{v:AV}(a:SV Za 1 l v)(hl:l.length<=281474976710656)(no:Int):Ba2 151 [v,I no] (B (decide (no∈l))):=by
 obtain⟨j,b,c⟩:=Ato a hl no;refine BPure.val (by simp[AF,noIds,a.1]) rfl (PM ?_);unfold JC;refine Az c ?_;simp only[JP,Aa];congr 3;exact propext b
def cG (l:List Int)(o:OpM):Prop:=o.kind=1\/o.kind=6\/o.kind=7\/o.ino∈l
instance (l:List Int) (o:OpM):Decidable (cG l o):=by unfold cG;infer_instance
theorem Atp {o:OpM}{bv:AV}(g:SV Ft 1 o.b bv){l:List Int}{v:AV}(h:SV Za 1 l v)(hl:l.length<=281474976710656):Ba2 81 [.agg (BO o bv),v] (B (decide (cG l o))):=by
 have n:=SV.oneA g;have i:AE [] (.agg (BO o bv))=some (.ptr 0 0,[some (.cells (BO o bv))]):=by simp[BO,n]
 have f:([some (.cells (BO o bv))]:AH)[0]?=some (some (.cells (BO o bv))):=rfl;have j:(BO o bv)[0]?=some (I o.kind):=rfl;have k:(BO o bv)[1]?=some (I o.ino):=rfl;refine BPure.val (by simp[AF,noIds,h.1,g.1,BO]) rfl (qT ?_);unfold lT;simp only[i,A6,Ab1,Ah f,j,Bu,Af];have m:∀c:Prop,∀_ :Decidable c,RY v (.ptr 0 0) [some (.cells (BO o bv))] (λr H=>r=B (decide (o.ino∈l))):=by intro c _;rw[gR];unfold Vq;simp only[Ab1,Ah f,k];exact Az (xQ h hl o.ino) rfl
 unfold cG;by_cases a:o.kind=1
 ·simp only[a,Ab7,true_or];rw[Mk];unfold IF;simp only[Af,Am]
  try trivial
 ·simp only[a,Aa8,false_or];by_cases d:o.kind=6
  ·simp only[d,Ab7,true_or];rw[Mk];unfold IF;simp only[Af,Am]
   try trivial
  ·simp only[d,Aa8,false_or];rw[Mk];unfold IF;by_cases e:o.kind=7
   ·simp only[e,Ab7,Af,true_or]
    try trivial
   ·simp only[e,Aa8,Af,false_or];exact m True inferInstance
def Ld (l:List Int):List OpM->uV×List OpM->uV×List OpM
 | [],x=>x
 | o::r,x=>if cG l o then Ld l r (B6 x.1.1 x.1.2 o,x.2)else Ld l r (x.1,x.2++[o])
def Nc (s:StS)(l:List Int):Int×StS:=
 if(AL s).1=true then(0,{(AL s).2 with kept:=(Ld l s.pend (s.kept,[])).1,pend:=(Ld l s.pend (s.kept,[])).2})else(8,(AL s).2)
theorem xK {l:List Int}{N:Nat}:∀{r:List OpM} {x:uV×List OpM},(∃a,Few1 a x.1/\a+N3 x.2+N3 r<=N)->(∃a,Few1 a (Ld l r x).1/\a+N3 (Ld l r x).2<=N)
 | [],x,⟨a,h1,h2⟩=>⟨a,h1,by simp only[Ld];omega⟩
 | o::r,x,⟨a,h1,h2⟩=>by
  have e:N3 (o::r)=wt o+N3 r:=by simp[N3]
  unfold Ld;split
  ·exact xK ⟨a+wt o,h1.step o,by simp only;omega⟩
  ·exact xK ⟨a,h1,by simp only[gY];omega⟩
theorem xJ {l:List Int}:∀{r:List OpM} {x:uV×List OpM},(∀o∈x.2,xO o)->(∀o∈r,xO o)->∀o∈(Ld l r x).2,xO o
 | [],x,h1,h2,o,ho=>h1 o ho
 | q::r,x,h1,h2,o,ho=>by
  unfold Ld at ho;split at ho
  ·exact xJ (x:=(B6 x.1.1 x.1.2 q,x.2)) h1 (λz a=>h2 z (by simp[a])) o ho
  ·refine xJ (x:=(x.1,x.2++[q])) ?_ (λz a=>h2 z (by simp[a])) o ho;intro z a;simp only[Ac0]at a;rcases a with a | rfl
   ·exact h1 z a
   ·exact h2 _ (by simp)
abbrev Ah7:=And.intro @List.map_nil.{0,0} @List.sum_nil.{0}
theorem VQ {N:Nat}{s:StS}(h:SW N s)(l:List Int):SW N (Nc s l).2:=by
 have b:=mZ h;obtain⟨c,f,g,i,j⟩:=HZ s;unfold Nc;split
 ·refine⟨by simp only[c];exact h.now,?_,?_,b.made,b.cap,b.armed⟩
  ·obtain⟨a,d,e⟩:=h.kept;exact xK ⟨a,d,by simp only[N3,Ah7];unfold N3 at e;omega⟩
  ·exact xJ (x:=(s.kept,[])) (by simp) h.ob
 ·exact b
theorem uZ {N:Nat}{s:StS}{t:Nat}{p v:AV}{H:AH}(h:StAt s t p H)(W:SW N s)(hN:N<=900000){l:List Int}(hv:Ac H 1 v=some (l.flatMap Za,l.length))(M:∀j∈Ba v,j≠t/\j∉Ba p)(hl:l.length<=1000000):
  ∃r H',(r=I (Nc s l).1/\∃p',StAt (Nc s l).2 t p' H'/\StF t p p' H H')/\Ba0 37 [.ptr t 0,v] H r H':=Z3 (by
 unfold Vm;obtain⟨r,F,⟨rfl,u,U⟩,hc⟩:=Ajf h W.armed;refine bC_of hc ?_;obtain⟨e1,e2,T,e4,e5⟩:=HZ s;have bf:=mZ W;have bd:(AL s).2.pend.length<=N:=by rw[T];exact W.plen
 have av:∀o∈(AL s).2.pend,xO o:=by rw[T];exact W.ob
 have ar:∃a,Few1 a (AL s).2.kept/\a+N3 (AL s).2.pend<=N:=by rw[e2,T];exact W.kept
 unfold Nc;rw[<- e2,<- T];simp only[Ag1];cases hd:(AL s).1 with
 | false=>
  simp only[Aa4,An];exact⟨by trivial,p,u,U⟩
 | true=>
  have be:Ac F 1 v=some (l.flatMap Za,l.length):=Ai hv λj f=>U.same j (A5 hv j f) (M j f).1 (M j f).2;clear e1 e2 T e4 e5 hc;generalize (AL s).2=g at*;simp only[if_true];obtain⟨a,b,c,d,pv,u⟩:=u;have ay:pv.length=g.pend.length:=by rw[<- u.pm,Ak8]
  have an:AW p=some (I (g.pend.length:Nat)):=by rw[<- ay];exact Bt u.ps
  simp only[Aa3,Ac9,Ah u.obj,an];have aw:t<F.length:=u.lt;have hH:H.length<=F.length:=U.len;generalize az:Ld l g.pend (g.kept,[])=res;refine TY (λm x0 x1 D ae al am H'=>∃(k:Nat) (E:uV) (P Q:AV) (A:List OpV),k+m=g.pend.length/\x0=.ptr t 0/\x1=v/\ae=p/\al=I g.pend.length/\am=I k/\StC {g with kept:=E} t a b P Q p pv H'/\StF t p p F H'/\Ld l (g.pend.drop k) (E,A.map OpV.o)=res/\(∃a,Few1 a E/\a+N3 (A.map OpV.o)+N3 (g.pend.drop k)<=N)/\Ac H' 8 D=some (A.flatMap Jp,A.length)/\Bm D=true/\Dk D A.length/\(∀j∈Ba D,F.length<=j)) ?_ g.pend.length ⟨0,g.kept,c,d,[],by omega,rfl,rfl,rfl,rfl,rfl,u,.refl _ _ _,az,by obtain⟨x,y,z⟩:=ar;exact⟨x,y,by simp only[Ae5];simp only[N3,Ah7]at*;omega⟩,rfl,rfl,by simp[Dk],by simp[Ba]⟩;rintro m x0 x1 D ae al am i R hR ⟨k,E,P,Q,A,hk,rfl,rfl,rfl,rfl,rfl,G,Y,L,K,ls,X,lc,O⟩;have bh:A.length<=N:=by obtain⟨x,-,y⟩:=K;have:=xN (l:=A.map OpV.o);rw[Ak8]at this;omega
  unfold Na;rcases Aj5 k g.pend.length with bc | aq
  ·have hx:=Dq (show k<pv.length by omega);generalize pv[k]'(by omega)=x at hx;have aj : g.pend[k]? = some x.o:=by rw [<- u.pm,Al2,hx]; rfl
   have af:g.pend.drop k=x.o::g.pend.drop (k+1):=Cs aj;have ag:=av x.o (Aj2 aj);rw[af]at L K;have ox:=SV.oneA x.h;have kI:(k:Int)<(g.pend.length:Int):=by omega
   obtain⟨pp,q1,q2⟩:=Adc G.ps hx;have n8:AE i (.agg [(I 0),(I 0),(I 0),(I 0),(B false),(.lit (.string ⟨#[]⟩)),(.lit (.string ⟨#[]⟩)),Ad])=some (.ptr i.length 0,i++[some (.cells [I 0,I 0,I 0,I 0,B false,S ⟨#[]⟩,S ⟨#[]⟩,Ad])]):=by simp
   have t8:AU 8 (i++[some (.cells [I 0,I 0,I 0,I 0,B false,S ⟨#[]⟩,S ⟨#[]⟩,Ad])]) (.ptr i.length 0) (.agg (BO x.o x.bv))=some (i++[some (.cells (BO x.o x.bv))]):=by rw[AG (n:=8) (xs:=BO x.o x.bv) (cs:=[I 0,I 0,I 0,I 0,B false,S ⟨#[]⟩,S ⟨#[]⟩,Ad]) (by simp[BO,ox]) (by simp) rfl (by simp)];simp[Bb,BO]
   have g3:=Grew.app i [some (.cells (BO x.o x.bv))];have ba:A1 true 8 (BO x.o x.bv) 0=some (.agg (BO x.o x.bv)):=rfl;have J:=G.grew g3;have f3:StF t ae ae F (i++[some (AObj.cells (BO x.o x.bv))]):=Y.grew g3;have au:=Y.len;have a0:Ac (i++[some (AObj.cells (BO x.o x.bv))]) 1 x1=some (l.flatMap Za,l.length):=Ai hv λj f=>by have:=A5 hv j f;rw[f3.same j (by omega) (M j f).1 (M j f).2,U.same j this (M j f).1 (M j f).2]
   obtain⟨Rv,ap,ao⟩:=FZ.sv a0 (Atm l);have ad:=g3.slice ls;have sm:Sm E.1 E.2:=by obtain⟨x,y,z⟩:=K;exact y.sm (by omega)
   simp only[Ac1,kI,Ah2,q1,q2,n8,t8,Ah BE,ba];refine bP_of (PCall.lend (FZs.cons (FZ.same (by simp[noIds,BO,AF,x.h.1])) (FZs.cons ao FZs.nil)) rfl (Atp x.h ap (by omega))) ?_;have bi:(i++[some (AObj.cells (BO x.o x.bv))])[i.length]?=some (some (.cells (BO x.o x.bv))):=BE;have bb:(i++[some (AObj.cells (BO x.o x.bv))]).length=i.length+1:=by simp
   generalize (i++[some (AObj.cells (BO x.o x.bv))])=H3 at*;simp only[Af];by_cases ab:cG l x.o
   ·obtain⟨RA,ah,ax⟩:=uT (o:=x.o) (bv:=x.bv) J.kept sm x.h (by have:=ag.1;omega) (by have:=ag.2.1;omega) (by have:=ag.2.2;omega);obtain⟨a',b',rfl,oa,ob⟩:=ah.agg2;simp only[ab,Ab7,Ag0,Ah J.obj,(Aan _ _ _ _ _ _ _ _ _).2];refine bP_of ax ?_;obtain⟨C,Z⟩:=J.set (s':={g with kept:=B6 E.1 E.2 x.o}) J.now ah rfl;simp only[(Add J.obj oa ob).2,A9];rw[Lc];unfold GJ;simp only[Au (a:=k) (b:=1) (by omega) (by omega),Aa];refine hR (m - 1) _ _ _ _ _ _ _ (by omega) ⟨k+1,_,a',b',A,by omega,rfl,rfl,rfl,rfl,by simp,C,f3.trans Z,?_,?_,?_,X,lc,O⟩
    ·rw[<- L];conv=>rhs;unfold Ld
     rw[if_pos ab]
    ·obtain⟨y,z,w⟩:=K;have e:N3 (x.o::g.pend.drop (k+1))=wt x.o+N3 (g.pend.drop (k+1)):=by simp[N3]
     exact⟨y+wt x.o,z.step x.o,by omega⟩
    ·exact Ai ad λj f=>by have:=O j f;exact Z.same j (by have:=A5 ad j f;omega) (by omega) (λq=>by have:=aX u j q;omega)
   ·have eA:Co H3 8 1 (Bx [(I 0),(I 0),(I 0),(I 0),(B false),(.lit (.string ⟨#[]⟩)),(.lit (.string ⟨#[]⟩)),Ad] 1) [(0,8,.agg (BO x.o x.bv))]=some (.sl H3.length 0 1 8 (.ex 1),H3++[some (.cells (Jp x))]):=by simp[Co,Bx,Jp,BO,Qc,ox,Bb]
    have g4:=Grew.app H3 [some (.cells (Jp x))];have ak:B1 (H3++[some (AObj.cells (Jp x))]) 8 (.sl H3.length 0 1 8 (.ex 1))=some (Jp x,1):=AA (by simp[Ac,Jp,BO]);obtain⟨r,H5,a1,a2,a3,a4,a5,a6⟩:=Cn (bytes:=96) (g4.slice ad) X ak (by omega);have a7:=Vv (g4.slice ad) X ak lc a1;simp only[ab,Aa8,eA,A6,a1];rw[Lc];unfold GJ;simp only[Au (a:=k) (b:=1) (by omega) (by omega),Aa];have C:=J.grew g4;have Z:=f3.grew g4;have a9:∀j,j<F.length->j∉Ba D:=λj f q=>by have:=O j q;omega
    have bg:(H3++[some (AObj.cells (Jp x))]).length=H3.length+1:=by simp
    have k5:∀j,j<F.length->H5[j]?=(H3++[some (AObj.cells (Jp x))])[j]?:=λj f=>a5 j (by omega) (a9 j f);refine hR (m - 1) _ _ _ _ _ _ _ (by omega) ⟨k+1,E,P,Q,A++[x],by omega,rfl,rfl,rfl,rfl,by simp,?_,?_,?_,?_,?_,a2,by simpa using a7,?_⟩
    ·exact⟨by rw[k5 t aw];exact C.obj,C.now,C.kept,C.pm,Ai C.ps λj f=>k5 j (aX u j f),C.po,C.pi,C.pc⟩
    ·exact⟨by omega,λj f V aa=>by rw[k5 j f];exact Z.same j f V aa,λ_ q=>.inl q⟩
    ·rw[<- L];conv=>rhs;unfold Ld
     rw[if_neg ab];simp
    ·obtain⟨y,z,w⟩:=K;have e:N3 (x.o::g.pend.drop (k+1))=wt x.o+N3 (g.pend.drop (k+1)):=by simp[N3]
     exact⟨y,z,by rw[An0];simp only[Af0,gY];omega⟩
    ·simpa using a3
    ·intro j f;rcases a6 j f with q | q
     ·exact O j q
     ·omega
  ·have kI:¬(k:Int)<(g.pend.length:Int):=by omega
   have af:g.pend.drop k=[]:=Ak6 aq;rw[af]at L K;unfold Ld at L;rw[<- L];have e7:AU 1 i (.ptr t 5) D=some (i.set t (some (.cells [I g.cap,a,b,P,Q,D,I g.made,I g.armed,B g.off]))):=rE G.obj (by simp) (AI X);have ai:t∉Ba D:=λq=>by have:=O t q;omega
   simp only[AM,Ag0,Af,kI,Aa8,e7,A9];have au:=Y.len;refine⟨by trivial,D,⟨a,b,P,Q,A,⟨HU G.lt,G.now,G.kept,rfl,Ai ls λj f=>Cc (λe=>ai (by rw[e];exact f)),X,ai,lc⟩⟩,?_⟩;refine⟨by rw[Ak4];omega,λj f V aa=>?_,λj f=>.inr (by have:=O j f;omega)⟩;rw[Cc (Al6 V),Y.same j (by omega) V aa,U.same j f V aa])
def Xr (bits:List Bool)(i:Nat):Bool:=bits[i]?.getD false
def NG (bits:List Bool):Nat->List OpM->uV->uV
 | _,[],x=>x
 | i,o::r,x=>NG bits (i+1) r (if Xr bits i=true then B6 x.1 x.2 o else x)
def fT (s:StS)(bits:List Bool):StS:={s with kept:=NG bits 0 s.pend s.kept,now:=NG bits 0 s.pend s.kept,pend:=[],off:=false,armed:=-1}
theorem wG {bits:List Bool}{N:Nat}:∀{r:List OpM} {i:Nat} {x:uV},(∃a,Few1 a x/\a+N3 r<=N)->Few1 N (NG bits i r x)
 | [],i,x,⟨a,h1,h2⟩=>h1.mono (by omega)
 | o::r,i,x,⟨a,h1,h2⟩=>by
  have e:N3 (o::r)=wt o+N3 r:=by simp[N3]
  unfold NG;split
  ·exact wG ⟨a+wt o,h1.step o,by omega⟩
  ·exact wG ⟨a,h1,by omega⟩
theorem Ajl {N:Nat}{s:StS}(h:SW N s)(bits:List Bool):SW N (fT s bits):=by
 have a:=wG (bits:=bits) (i:=0) h.kept;exact⟨a,⟨N,a,by simp[fT,N3]⟩,by simp[fT],h.made,h.cap,by simp[fT]⟩
def rP (b:Bool):List AV:=[B b]
theorem Atq (b:Bool):(rP b).length=1:=rfl
theorem Yi {α:Type}{enc:α->List AV}{f:α->AV}(d:∀x,enc x=[f x]){H:AH}{w:AV}{l:List α}{k:Nat}{x:α}(o:Ac H 1 w=some (l.flatMap enc,l.length))(e:l[k]?=some x):∃p,AY 1 w (I k)=some p/\Aq false 1 H p=some (f x):=by
 have n:=(BG.1 e).1;obtain⟨p,c,g,h,j,m⟩:=I8 o (i:=(k:Int)) rfl n;have a:∀x,(enc x).length=1:=λx=>by rw[d];rfl
 have b:c.take 1=[f x]:=by rw[j,DA a e,Ak9 (by rw[a];exact Aj7 1),Aj3 (by rw[a];exact Aj7 1),d]
 refine⟨p,g,?_⟩;rw[PW h (by omega) m];cases c with
 | nil=>simp at b
 | cons y t=>simp at b;rw[b];rfl
abbrev Ag6:=And.intro @Ab9 @Ac3
abbrev Ag7:=And.intro @Aa8 @Af5
theorem Atr {N:Nat}{s:StS}{g:Nat}{p v:AV}{H:AH}(h:StAt s g p H)(Z:SW N s)(hN:N<=900000){l:List Bool}(Y:Ac H 1 v=some (l.flatMap rP,l.length))(ag:∀j∈Ba v,j≠g/\j∉Ba p)(hl:l.length<=1000000):
  ∃r H',(r=.tup []/\StAt (fT s l) g Ad H'/\StF g p Ad H H')/\Ba0 123 [.ptr g 0,v] H r H':=VP (by
 unfold P4;obtain⟨a,b,c,d,P,F⟩:=h;have a9:=Z.plen;have ap:=Z.ob;have au:P.length=s.pend.length:=by rw[<- F.pm,Ak8]
 have am:AW p=some (I (s.pend.length:Nat)):=by rw[<- au];exact Bt F.ps
 simp only[Ac9,Ah F.obj,am];unfold fT;generalize av:NG l 0 s.pend s.kept=res;have a8:g<H.length:=F.lt;refine PN (λm x0 L x9 ai aj H'=>∃(k:Nat) (q:uV) (t u:AV),k+m=s.pend.length/\x0=.ptr g 0/\L=v/\p=x9/\ai=I s.pend.length/\aj=I k/\StC {s with kept:=q} g a b t u p P H'/\StF g p p H H'/\NG l k (s.pend.drop k) q=res/\(∃a,Few1 a q/\a+N3 (s.pend.drop k)<=N)) ?_ s.pend.length ⟨0,s.kept,c,d,by omega,rfl,rfl,rfl,rfl,rfl,F,.refl _ _ _,av,by simp only[Al8];exact Z.kept⟩;rintro m x0 L x9 ai aj i R hR ⟨k,q,t,u,hk,rfl,rfl,ep,rfl,rfl,D,Q,K,J⟩;subst ep;unfold JO;rcases Aj5 k s.pend.length with a7 | an
 ·have hx:=Dq (show k<P.length by omega);generalize P[k]'(by omega)=x at hx;have ah : s.pend[k]? = some x.o:=by rw [<- F.pm,Al2,hx]; rfl
  have V:s.pend.drop k=x.o::s.pend.drop (k+1):=Cs ah;have aa:=ap x.o (Aj2 ah);rw[V]at K J;have ox:=SV.oneA x.h;have kI:(k:Int)<(s.pend.length:Int):=by omega
  obtain⟨pp,q1,q2⟩:=Adc D.ps hx;have n8:AE i (.agg [(I 0),(I 0),(I 0),(I 0),(B false),(.lit (.string ⟨#[]⟩)),(.lit (.string ⟨#[]⟩)),Ad])=some (.ptr i.length 0,i++[some (.cells [I 0,I 0,I 0,I 0,B false,S ⟨#[]⟩,S ⟨#[]⟩,Ad])]):=by simp
  have t8:AU 8 (i++[some (.cells [I 0,I 0,I 0,I 0,B false,S ⟨#[]⟩,S ⟨#[]⟩,Ad])]) (.ptr i.length 0) (.agg (BO x.o x.bv))=some (i++[some (.cells (BO x.o x.bv))]):=by rw[AG (n:=8) (xs:=BO x.o x.bv) (cs:=[I 0,I 0,I 0,I 0,B false,S ⟨#[]⟩,S ⟨#[]⟩,Ad]) (by simp[BO,ox]) (by simp) rfl (by simp)];simp[Bb,BO]
  have g3:=Grew.app i [some (.cells (BO x.o x.bv))];have ax:A1 true 8 (BO x.o x.bv) 0=some (.agg (BO x.o x.bv)):=rfl;have G:=D.grew g3;have T:StF g p p H (i++[some (AObj.cells (BO x.o x.bv))]):=Q.grew g3;have aw:Ac (i++[some (AObj.cells (BO x.o x.bv))]) 1 L=some (l.flatMap rP,l.length):=Ai Y λj E=>T.same j (A5 Y j E) (ag j E).1 (ag j E).2;have al:AW L=some (I (l.length:Nat)):=Bt Y;have sm:Sm q.1 q.2:=by obtain⟨x,y,z⟩:=J;exact y.sm (by omega)
  have ay:(i++[some (AObj.cells (BO x.o x.bv))])[i.length]?=some (some (.cells (BO x.o x.bv))):=BE;simp only[Ac1,kI,Ah2,q1,q2,n8,t8,al];generalize (i++[some (AObj.cells (BO x.o x.bv))])=H3 at*;have a6:Xr l k=true->bO (Aj (.ptr g 0)) λaz=>bO (Ab 3 az) λa0=>bO (Aq true 2 H3 a0) λa1=>bO (Aq true 8 H3 (.ptr i.length 0)) λa2=>
    bP (Ba2 82 [a1,a2]) λa3=>bO (Aj (.ptr g 0)) λa4=>bO (Ab 3 a4) λa5=>bS (AU 2 H3 a5 a3) λak=>
    DE R (.ptr g 0) L p (I s.pend.length) (I k) ak (λr H'=>r=.tup []/\StAt {s with kept:=res,now:=res,pend:=[],off:=false,armed:=-1} g Ad H'/\StF g p Ad H H'):=by
   intro X;obtain⟨RA,ad,aq⟩:=uT (o:=x.o) (bv:=x.bv) G.kept sm x.h (by have:=aa.1;omega) (by have:=aa.2.1;omega) (by have:=aa.2.2;omega);obtain⟨A,C,rfl,oa,ob⟩:=ad.agg2;simp only[Ag0,Ah G.obj,(Aan _ _ _ _ _ _ _ _ _).2,Ah ay,ax];refine bP_of aq ?_;obtain⟨h4,f4⟩:=G.set (s':={s with kept:=B6 q.1 q.2 x.o}) G.now ad rfl;simp only[(Add G.obj oa ob).2,A9];rw[Je];unfold FE;simp only[Au (a:=k) (b:=1) (by omega) (by omega),Aa];refine hR (m - 1) _ _ _ _ _ _ (by omega) ⟨k+1,_,A,C,by omega,rfl,rfl,rfl,rfl,by simp,h4,T.trans f4,?_,?_⟩
   ·rw[<- K];conv=>rhs;unfold NG
    rw[if_pos X]
   ·obtain⟨y,z,w⟩:=J;have e:N3 (x.o::s.pend.drop (k+1))=wt x.o+N3 (s.pend.drop (k+1)):=by simp[N3]
    exact⟨y+wt x.o,z.step x.o,by omega⟩
  have no:¬Xr l k=true->DE R (.ptr g 0) L p (I s.pend.length) (I k) H3 (λr H'=>r=.tup []/\StAt {s with kept:=res,now:=res,pend:=[],off:=false,armed:=-1} g Ad H'/\StF g p Ad H H'):=by
   intro X;rw[Je];unfold FE;simp only[Au (a:=k) (b:=1) (by omega) (by omega),Aa];refine hR (m - 1) _ _ _ _ _ _ (by omega) ⟨k+1,q,t,u,by omega,rfl,rfl,rfl,rfl,by simp,G,T,?_,?_⟩
   ·rw[<- K];conv=>rhs;unfold NG
    rw[if_neg X]
   ·obtain⟨y,z,w⟩:=J;have e:N3 (x.o::s.pend.drop (k+1))=wt x.o+N3 (s.pend.drop (k+1)):=by simp[N3]
    exact⟨y,z,by omega⟩
  rcases Aj5 k l.length with W | W
  ·have U:=Dq W;generalize l[k]=bt at U;have M:Xr l k=bt:=by unfold Xr;rw[U];rfl
   obtain⟨pb,r1,r2⟩:=Yi (f:=B) (λ_=>rfl) aw U;have kl:(k:Int)<(l.length:Int):=by omega
   simp only[kl,Ag6,A7,r1,r2];cases bt with
   | true=>simp only[Am];exact a6 M
   | false=>simp only[Ag];exact no (by rw[M];simp)
  ·have M:Xr l k=false:=by unfold Xr;rw[Ao3 W];rfl
   have kl:¬(k:Int)<(l.length:Int):=by omega
   simp only[kl,Ag7,A7,show((false==true)=false)from rfl];exact no (by rw[M];simp)
 ·have kI:¬(k:Int)<(s.pend.length:Int):=by omega
  have V:s.pend.drop k=[]:=Ak6 an;rw[V]at K J;unfold NG at K;subst K;have sm:Sm q.1 q.2:=by obtain⟨x,y,z⟩:=J;exact y.sm (by omega)
  obtain⟨RC,ae,ar⟩:=Aer D.kept sm;obtain⟨A,C,rfl,oa,ob⟩:=ae.agg2;have O:=D.lt;simp only[AM,Ag0,Af,kI,Aa8,Ah D.obj,(Aan _ _ _ _ _ _ _ _ _).2];refine Az ar ?_;have s1:=(Add D.obj oa ob).1;have c1:(i.set g (some (AObj.cells [I s.cap,A,C,t,u,p,I s.made,I s.armed,B s.off])))[g]?=some (some (.cells [I s.cap,A,C,t,u,p,I s.made,I s.armed,B s.off])):=HU O;have s2:=rE c1 (k:=5) (x:=Ad) (by simp) rfl;have c2:(i.set g (some (AObj.cells [I s.cap,A,C,t,u,Ad,I s.made,I s.armed,B s.off])))[g]?=some (some (.cells [I s.cap,A,C,t,u,Ad,I s.made,I s.armed,B s.off])):=HU O;have s3:=rE c2 (k:=8) (x:=B false) (by simp) rfl;have c3:(i.set g (some (AObj.cells [I s.cap,A,C,t,u,Ad,I s.made,I s.armed,B false])))[g]?=some (some (.cells [I s.cap,A,C,t,u,Ad,I s.made,I s.armed,B false])):=HU O;have s4:=rE c3 (k:=7) (x:=I (-1)) (by simp) rfl;simp only[List.set_set,Au7,Au6]at s2 s3 s4;simp only[s1,A9,s2,s3,s4];refine⟨by trivial,⟨A,C,t,u,[],⟨HU O,ae,D.kept,rfl,rfl,rfl,by simp[Ba],by simp[Dk]⟩⟩,?_⟩;refine⟨by rw[Ak4];exact Q.len,λj E af ao=>?_,λj E=>by simp[Ba]at E⟩;rw[Cc (Al6 af),Q.same j E af ao])
theorem yQ {H:AH}{v:AV}{cs:List AV}{n l k:Nat}(h:Ac H 1 v=some (cs,n))(z:l<k)(y:k<=n):
  ∃r,Bq 1 v (some (I l)) (some (I k)) (some (I k))=some r/\(∀H,Ac H 1 v=some (cs,n)->Ac H 1 r=some ((cs.drop l).take (k - l),k - l))/\∀i∈Ba r,i∈Ba v:=by
 have g:BL (some (I l)) 0=some l:=by simp[BL]
 have j:∀d,BL (some (I k)) d=some k:=λd=>by simp[BL]
 have x:=BW h;unfold Ac at h;unfold Bq;split at h
 ·rename_i c len m;split at h
  ·rename_i b;obtain⟨rfl,b⟩:=b;injection h with h;injection h with e a;subst e;subst a;simp only[g,j,Ar6];rw[if_pos ⟨by omega,by omega,by omega,by trivial⟩,if_neg (by omega)];refine⟨_,rfl,λH _=>?_,λi f=>f⟩;simp only[Ac,true_and,Ao5];rw[if_pos (by rw[Aj4,Aj9];omega)]
  ·cases h
 ·rename_i o B len m t;split at h
  ·rename_i c A;split at h
   ·rename_i b;obtain⟨rfl,b⟩:=b;injection h with h;injection h with e a;subst a;simp only[Ab8,g,j,Ar6];rw[if_pos ⟨by omega,by omega,by omega,by trivial⟩];refine⟨_,rfl,λH a=>?_,λi f=>f⟩;unfold Ac at a;simp only[true_and]at a;split at a
    ·rename_i s q;split at a
     ·rename_i w;injection a with a;injection a with p u;rw[AS q (by omega),<- p];simp only[Ao5];rw[Ar1,Ap8,Ap3];congr 3;omega
     ·cases a
    ·cases a
   ·cases h
  ·cases h
 all_goals (try (injection h with h;injection h with e a;omega))
 all_goals cases h
noncomputable abbrev Aak:Code:=AK f150
noncomputable abbrev chO:Array Oper:=Acb (sub [true,true,true,true,false,true,true,false] Aak)
noncomputable abbrev chY : Oper := chO.toList.getD 10 ⟨none, .nilCheck (.tmp 0), 0, "", #[], none⟩
theorem Ats:f150.body=some (.seq (sub [false] Aak) (.block 0 (.loop (.seq (.seq (sub [true,true,true,false,false] Aak) (.cond (.tmp 9) .skip (.exit 0)))
  (.seq (.block 1 (.seq (sub [true,true,true,true,false,true,false] Aak) (.seq (.region 4 chO false) (.cond (.tmp 30) .ret .skip)))) (sub [true,true,true,true,true] Aak)))))):=by kernel_rfl
noncomputable abbrev Ade (p:List Bool)(T:List AV)(H:AH)(K:Kf):Prop:=AR prog (NB []) Aw Aw Aw (BI []) (sub p Aak) 0 T H K
theorem Att (a b c:AV)(H:AH)(Q:Exit->List AV->AH->Prop):Ade [false] ([a,b,c]++List.replicate 28 Be) H (λe T H=>fP (mk 31 0 [0,1,2,4]) T λX=>Q e X H)=Q .normal [a,b,c,I 0] H:=by kernel_rfl
theorem Atu (c a d b:AV)(H:AH)(Q:Exit->List AV->AH->Prop):Ade [true,true,true,false,false] (BC (mk 31 0 [0,1,2,4]) [c,a,d,b]) H (λe T H=>fP (mk 31 0 [0,1,2,4,9]) T λX=>Q e X H)=
  bO (Aq false 1 H a) λf=>bO (AW f) λg=>bO (Ar .lss b g) λh=>Q .normal [c,a,d,b,h] H:=by kernel_rfl
theorem Atv (d a b c k:AV)(H:AH)(Q:Exit->List AV->AH->Prop):Ade [true,true,true,true,false,true,false] (BC (mk 31 0 [0,1,2,4,9]) [d,a,b,c,k]) H (λe T H=>fP (mk 31 0 [0,1,2,4,5]) T λX=>Q e X H)=
  bO (Aq false 1 H b) λf=>bO (Aq false 1 H a) λg=>bO (Bq 1 g (some c) none none) λh=>bO (AW h) λi=>bO (amm gZ [f,i]) λj=>Q .normal [d,a,b,c,j] H:=by kernel_rfl
theorem Atw (b c e a d:AV)(H:AH)(Q:List AV->AH->Prop):VH prog Aw Aw false chO (chO.toList.take 10) (BC (mk 31 0 [0,1,2,4,5]) [b,c,e,a,d]) H (λT H=>fP (mk 31 0 [0,1,2,4,19,28]) T λX=>Q X H)=
  bO (Aq false 1 H c) λf=>bO (Ar .add a d) λg=>bO (Ar .add a d) λh=>bO (Bq 1 f (some a) (some g) (some h)) λi=>Q [b,c,e,a,b,i] H:=by kernel_rfl
theorem Ajm (a b c e g h d:AV)(H:AH)(Q:List AV->AH->Prop):VH prog Aw Aw false chO (chO.toList.drop 11) (EL (BC (mk 31 0 [0,1,2,4,19,28]) [a,b,c,e,g,h]) (some 29) d) H (λT H=>fP (mk 31 0 [0,1,2,4,30]) T λX=>Q X H)=
  bO (D5 .not d) λf=>Q [a,b,c,e,f] H:=by kernel_rfl
theorem Atx (b c a d h:AV)(H:AH)(Q:Exit->List AV->AH->Prop):Ade [true,true,true,true,true] (BC (mk 31 0 [0,1,2,4,30]) [b,c,a,d,h]) H (λe T H=>fP (mk 31 0 [0,1,2,4]) T λX=>Q e X H)=
  bO (Aq false 1 H a) λf=>bO (Ar .add d f) λg=>Q .normal [b,c,a,g] H:=by kernel_rfl
theorem Aty:chO.toList=chO.toList.take 10++chY::chO.toList.drop 11:=by kernel_rfl
noncomputable abbrev chA:Array TypeId:=match chY.op with
 | .call c=>c.argTypes
 | _=> #[]
theorem Adf:chY.op=.call {callee:=.value (.tmp 19),args:=#[.tmp 28],argTypes:=chA}/\chY.guard=none/\chY.dst=some 29:=⟨by kernel_rfl,by kernel_rfl,by kernel_rfl⟩
theorem Adg:El (NB []) Aw Aw (sub [false] Aak)=true/\El (NB []) Aw Aw (sub [true,true,true,false,false] Aak)=true/\El (NB []) Aw Aw (sub [true,true,true,true,false,true,false] Aak)=true/\El (NB []) Aw Aw (sub [true,true,true,true,true] Aak)=true:=⟨by kernel_rfl,by kernel_rfl,by kernel_rfl,by kernel_rfl⟩
def Aat (s:AV)(len n j:Nat):AV:=(Bq 1 s (some (I (j*n:Nat))) (some (I (j*n+min n (len - j*n):Nat))) (some (I (j*n+min n (len - j*n):Nat)))).getD Be
def Aab (len n:Nat):Nat:=(len+n - 1)/n
def Abs (s:AV)(len n:Nat):List AV:=(List.range (Aab len n)).map (Aat s len n)
theorem vT (s:AV)(len n:Nat):(Abs s len n).length=Aab len n:=by simp[Abs]
theorem Ajn {len n k:Nat}(a:0<n):k<Aab len n↔k*n<len:=by
 unfold Aab;rw[show(k<(len+n - 1)/n)=(k+1<=(len+n - 1)/n)from rfl,Nat.le_div_iff_mul_le a,An4];omega
theorem Atz (a d:Nat):BL (some (I a)) d=some a:=by simp[BL]
theorem Aua (a b:Nat):gZ (a:Int) b=((min a b:Nat):Int):=by unfold gZ;split<;>omega
theorem Aub {o1 o2:Nat}{s:AV}{cs:List AV}{len n:Nat}(W:0<n)(ag:n<=1099511627776)(af:len<=1099511627776):uW prog 150 [.ptr o1 0,.ptr o2 0] (λH=>H[o1]?=some (some (.cells [s]))/\H[o2]?=some (some (.cells [I n]))/\Ac H 1 s=some (cs,len)) (Abs s len n):=by
 have D:f150.ntmps=31:=by kernel_rfl
 refine wF func150 Ats (by kernel_rfl) ?_;intro l G0 ae T p H J X ab Z aa F E x hr;rw[D,vT];generalize M:(AV.lit (.func (.yield l) #[] #[]))=Y;refine XCode.seqP (fl:=NB []) (ql:=Aw) (al:=Aw) (un:=Aw) (kp:=BI []) (n:=0) (keep:=mk 31 0 [0,1,2,4]) TA Adg.1 (λe T w H j h=>by cases e<;>first | exact absurd rfl j | exact h) ?_;refine Eq.mpr (Att Y (.ptr o1 0) (.ptr o2 0) H _) ?_;refine(?_:XCode _ l G0 (.block 0 _) _ _ _ _);refine XCode.block ?_;refine XCode.loop (λm T H r=>∃k,k+m=Aab len n/\r=ae/\T.length=31/\Yl (mk 31 0 [0,1,2,4]) T=[Y,.ptr o1 0,.ptr o2 0,I (k*n:Nat)]/\J k H) (Aab len n) ⟨0,by omega,rfl,rfl,by simp[mk,Yl,BC],E⟩ ?_;rintro m T H r ⟨k,hk,rfl,R,G,o⟩;refine XCode.weak (keep:=mk 31 0 [0,1,2,4]) R ?_;rw[G];obtain⟨d,B,f⟩:=x k H o;have a:=Ajn (len:=len) (k:=k) W;refine XCode.seq ?_;refine XCode.seqP (fl:=NB []) (ql:=Aw) (al:=Aw) (un:=Aw) (kp:=BI []) (n:=0) (keep:=mk 31 0 [0,1,2,4,9]) TA Adg.2.1 (λe T w H j h=>by cases e<;>first | exact absurd rfl j | exact h) ?_;refine Eq.mpr (Atu Y (.ptr o1 0) (.ptr o2 0) _ H _) ?_;have al:AW s=some (I (len:Nat)):=Bt f;simp only[Ah d,Ah3,BH,al,AM];refine(?_:XCode _ l G0 (.cond (.tmp 9) .skip (.exit 0)) _ _ _ _);refine XCode.cond (b:=decide (((k*n:Nat):Int)<len)) rfl ?_;by_cases h:k*n<len
 ·have i:((k*n:Nat):Int)<(len:Int):=by omega
  simp only[i,Aa2];refine XCode.skip ?_;refine(?_:XCode _ l G0 (.seq (.block 1 _) _) _ _ _ _);refine XCode.seq (XCode.block ?_);refine XCode.seqN (fl:=NB []) (ql:=Aw) (al:=Aw) (un:=Aw) (kp:=BI []) (n:=0) (keep:=mk 31 0 [0,1,2,4,5]) TA Adg.2.2.1 ?_;refine Eq.mpr (Atv Y (.ptr o1 0) (.ptr o2 0) _ _ H _) ?_;obtain⟨r1,s1,s2,-⟩:=DS f (lo:=some (I (k*n:Nat))) (hi:=none) (l:=k*n) (k:=len) (Atz _ _) rfl (by omega) (Aj7 _);have A:AW r1=some (I (len - k*n:Nat)):=Bt s2;have V:amm gZ [I n,I (len - k*n:Nat)]=some (I (min n (len - k*n):Nat)):=by rw[JT,Aua]
  simp only[Ah B,Ah d,Ah3,BH,s1,A,V];refine⟨by trivial,?_⟩;refine XCode.seq (XCode.region ?_);refine Eq.mpr (congrArg (λL=>XOps _ l G0 chO _ L _ _ _) Aty) ?_;refine XOps.preP (ql:=Aw) (al:=Aw) (keep:=mk 31 0 [0,1,2,4,19,28]) ?_;refine Eq.mpr (Atw Y (.ptr o1 0) (.ptr o2 0) _ _ H _) ?_;have O:Ar .add (I (k*n:Nat)) (I (min n (len - k*n):Nat))=some (I (k*n+min n (len - k*n):Nat)):=by rw[Au (by omega) (by omega)];congr 3
  have U:k*n<k*n+min n (len - k*n):=by omega
  obtain⟨t,z,t2,-⟩:=yQ f U (show k*n+min n (len - k*n)<=len by omega);have hx:(Abs s len n)[k]?=some t:=by unfold Abs;rw[Al2,Aq9 (a.2 h)];show some (Aat s len n k)=some t;unfold Aat;rw[z];rfl
  simp only[Ah d,Ah3,BH,O,z];refine XOps.yield Adf.1 Adf.2.1 M.symm ab Z aa F (hr k t H hx o) ?_ ?_
  ·intro H' y;rw[Adf.2.2];obtain⟨d1,C,d3⟩:=x (k+1) H' y;refine Eq.mpr (congrArg (λL=>XOps _ l G0 chO _ L _ _ _) (Am9 _).symm) ?_;refine XOps.preP (ql:=Aw) (al:=Aw) (keep:=mk 31 0 [0,1,2,4,30]) ?_;refine Eq.mpr (Ajm Y (.ptr o1 0) (.ptr o2 0) _ _ _ _ H' _) ?_;simp only[AJ,Aa,At6];refine XOps.nil ?_;refine(?_:XCode _ l G0 (.cond (.tmp 30) .ret .skip) _ _ _ _);refine XCode.cond (b:=false) rfl ?_;simp only[An];refine XCode.skip ?_;refine(?_:XCode _ l G0 (sub [true,true,true,true,true] Aak) _ _ _ _);refine XCode.of ((FT (fl:=NB []) (ql:=Aw) (al:=Aw) (un:=Aw) (kp:=BI []) TA _ 0 _ _ _ Adg.2.2.2 (Eq.mpr (Atx Y (.ptr o1 0) (.ptr o2 0) _ _ H' (λe X v=>e=.normal/\X=[Y,.ptr o1 0,.ptr o2 0,I ((k+1)*n:Nat)]/\v=H')) ?_)).mono ?_)
   ·have N:Ar .add (I (k*n:Nat)) (I n)=some (I ((k+1)*n:Nat)):=by rw[Au (by omega) (by omega)];congr 3;rw[An4];omega
    simp only[Ah C,Ah3,BH,N];exact⟨by trivial,by trivial,by trivial⟩
   ·intro e w v P;obtain⟨S,rfl,K,rfl⟩:=CJ.1 P;exact⟨m - 1,by have:=a.2 h;omega,k+1,by have:=a.2 h;omega,rfl,S,K,y⟩
  ·intro c H' ad;rw[Adf.2.2];refine Eq.mpr (congrArg (λL=>XOps _ l G0 chO _ L _ _ _) (Am9 _).symm) ?_;refine XOps.preP (ql:=Aw) (al:=Aw) (keep:=mk 31 0 [0,1,2,4,30]) ?_;refine Eq.mpr (Ajm Y (.ptr o1 0) (.ptr o2 0) _ _ _ _ H' _) ?_;simp only[AJ,Aa,As2];refine XOps.nil ?_;refine(?_:XCode _ l G0 (.cond (.tmp 30) .ret .skip) _ _ _ _);refine XCode.cond (b:=true) rfl ?_;simp only[if_true];refine XCode.ret ?_;exact⟨.inr rfl,.inr ⟨c,rfl,ad⟩⟩
 ·have i:¬((k*n:Nat):Int)<(len:Int):=by omega
  simp only[i,B8,An];refine XCode.exit ?_;have Q:k=Aab len n:=by have:=mt a.1 h;omega
  exact⟨.inl rfl,.inl ⟨rfl,by rw[<- Q];exact o⟩⟩
theorem StAt.keep {s:StS}{e:Nat}{p:AV}{H H':AH}(h:StAt s e p H)(k:∀j,j=e\/j∈Ba p->H'[j]?=H[j]?):StAt s e p H':=by
 obtain⟨a,b,c,d,f,h⟩:=h;exact⟨a,b,c,d,f,by rw[k e (.inl rfl)];exact h.obj,h.now,h.kept,h.pm,Ai h.ps λi q=>k i (.inr q),h.po,h.pi,h.pc⟩
theorem StAt.os_lt {s:StS}{e:Nat}{p:AV}{H:AH}(h:StAt s e p H):e<H.length:=by obtain⟨a,b,c,d,f,h⟩:=h;exact h.lt
theorem StAt.p_lt {s:StS}{e:Nat}{p:AV}{H:AH}(h:StAt s e p H):∀j∈Ba p,j<H.length:=by obtain⟨a,b,c,d,f,h⟩:=h;exact aX h
theorem Auc {H:AH}{v:AV}{cs:List AV}{m:Nat}(h:Ac H 1 v=some (cs,m))(e:oneA v=true):Ba0 79 [v,I 4096] H (.fn (.func 150) [] [.ptr H.length 0,.ptr (H.length+1) 0]) (H++[some (.cells [v]),some (.cells [I 4096])]):=by
 obtain⟨r,H',⟨rfl,rfl⟩,d⟩:=RS (a0:=v) (a1:=I 4096) (H:=H) (K:=λr H'=>r=.fn (.func 150) [] [.ptr H.length 0,.ptr (H.length+1) 0]/\H'=H++[some (.cells [v]),some (.cells [I 4096])]) (by
  unfold KZ;have b:AE H v=some (.ptr H.length 0,H++[some (.cells [v])]):=by unfold AE;rw[Bn e];rfl
  have c:AE (H++[some (.cells [v])]) (I 4096)=some (.ptr (H.length+1) 0,H++[some (.cells [v]),some (.cells [I 4096])]):=by unfold AE;rw[Bn (v:=I 4096) rfl];simp
  have a:(H++[some (AObj.cells [v]),some (.cells [I 4096])])[H.length+1]?=some (some (.cells [I 4096])):=by simp
  simp only[b,A6,c,Ah a,Ae,BH,Aj1,show ¬(4096:Int)<1 by omega];exact⟨by trivial,by trivial⟩)
 exact d
def BZ (b:List UInt8):List (List UInt8):=(List.range (Aab b.length 4096)).map λj=>(b.drop (j*4096)).take (min 4096 (b.length - j*4096))
def pcs (ino:Int):List (List UInt8)->StS->Int->Int->(StS×Int×Int)×Int
 | [],s,at',sum=>((s,at',sum),0)
 | b::r,s,at',sum=>
  if(BD s ino at' b).1.2=0 then pcs ino r (BD s ino at' b).2 (at'+(BD s ino at' b).1.1) (sum+(BD s ino at' b).1.1)
  else(((BD s ino at' b).2,at'+(BD s ino at' b).1.1,sum+(BD s ino at' b).1.1),(BD s ino at' b).1.2)
def Nl (l:List (List UInt8)):Nat:=(l.map List.length).sum
theorem Ajo {c:List Ext}{ino pos:Int}{b:List UInt8}:∀{l:List Sp} {s:StS},(∀q∈l,pos<=q.pos/\0<q.len/\q.len<=8/\q.pos+q.len<=pos+b.length)->0<=(mS c ino pos b l s).1.1/\(mS c ino pos b l s).1.1<=b.length
 | [],s,_=>by unfold mS;simp only;omega
 | q::r,s,hq=>by
  have d:=hq q (by simp);unfold mS;split
  ·simp only;omega
  ·split
   ·simp only;omega
   ·exact Ajo λx a=>hq x (by simp[a])
theorem gW (s:StS)(ino pos:Int)(b:List UInt8):0<=(BD s ino pos b).1.1/\(BD s ino pos b).1.1<=b.length:=by
 unfold BD;split
 ·simp only;omega
 ·split
  ·simp only;omega
  ·rename_i a;have a:=Al7 a;exact Ajo λq c=>Yk a c
abbrev Abg:List Bool:=[true,true,false,true,false,false,true,true,false,false,true,true,false]
def bU (b:List UInt8)(j:Nat):List UInt8:=(b.drop (j*4096)).take (min 4096 (b.length - j*4096))
theorem Aud {b:List UInt8}{i:Nat}(h:i<Aab b.length 4096):(BZ b)[i]?=some (bU b i):=by
 unfold BZ;rw[Al2,Aq9 h];rfl
theorem Aue (b:List UInt8):(BZ b).length=Aab b.length 4096:=by simp[BZ]
theorem Auf {H:AH}{v:AV}{b:List UInt8}{j:Nat}(a:Ac H 1 v=some (Bp b,b.length))(g:j*4096<b.length):
  Ac H 1 (Aat v b.length 4096 j)=some (Bp (bU b j),(bU b j).length)/\∀i∈Ba (Aat v b.length 4096 j),i∈Ba v:=by
 obtain⟨r,c,d,f⟩:=yQ a (l:=j*4096) (k:=j*4096+min 4096 (b.length - j*4096)) (by omega) (by omega);have e:Aat v b.length 4096 j=r:=by unfold Aat;rw[c];rfl
 rw[e];refine⟨?_,f⟩;rw[d H a];unfold bU;rw[As3,Aj4,Aj9];simp only[Bp,Av2,Aw7];congr 2;omega
structure Bd (NN:Nat)(rest:List (List UInt8))(s:StS)(at' sum:Int):Prop where
 w:∃M,SW M s/\M+9*Nl rest<=NN
 a:0<=at'/\at'+Nl rest<=9223372036854775807
 s:0<=sum/\sum+Nl rest<=9223372036854775807
theorem tP (b:List UInt8)(r:List (List UInt8)):Nl (b::r)=b.length+Nl r:=by simp[Nl]
theorem Aez {ino:Int}:∀{l:List (List UInt8)} {N:Nat} {s:StS} {a m:Int},SW N s->SW (N+9*Nl l) (pcs ino l s a m).1.1
 | [],N,s,a,m,h=>h
 | b::r,N,s,a,m,h=>by
  have c:=gX h ino a b;rw[tP];unfold pcs;split
  ·exact(Aez c).mono (by omega)
  ·exact c.mono (by omega)
theorem vU {b:List UInt8}(h:b.length<=4096):BZ b=if b=[]then []else [b]:=by
 unfold BZ Aab;by_cases a:b=[]
 ·subst a;rfl
 ·have:0<b.length:=List.length_pos_iff.2 a;rw[if_neg a,show(b.length+4096 - 1)/4096=1 by omega];simp;rw[Aj3 (by omega)]
theorem dJ:∀{bl:List (AV×List UInt8)},(∀x∈bl,x.2.length<=4096)->(bl.flatMap λx=>BZ x.2).flatten=(bl.map Prod.snd).flatten/\(∀b∈bl.flatMap λx=>BZ x.2,b.length<=4096)/\Nl (bl.flatMap λx=>BZ x.2)=((bl.map Prod.snd).flatten).length
 | [],_=>by simp[Nl]
 | x::r,h=>by
  obtain⟨g,i,j⟩:=dJ (bl:=r) λy f=>h y (by simp[f]);have d:=h x (by simp);have c:=vU d;simp only[Al5,Aq7,List.flatten_cons,List.flatten_append,Ak1];refine⟨?_,?_,?_⟩
  ·rw[g,c];split
   ·rename_i e;rw[e];rfl
   ·simp
  ·intro b a;rw[Am3]at a;rcases a with a | a
   ·rw[c]at a;split at a
    ·simp at a
    ·simp at a;rw[a];exact d
   ·exact i b a
  ·have:Nl (BZ x.2)=x.2.length:=by
    rw[c];split
    ·rename_i e;rw[e];rfl
    ·simp[Nl]
   rw[<- j,<- this];simp[Nl]
def wW (s:StS)(nm:List UInt8)(l:List (List UInt8)):Int×StS:=
 if(Bf s nm true).1.2≠0 then((Bf s nm true).1.2,(Bf s nm true).2)
 else if(DL (Bf s nm true).2 (Bf s nm true).1.1 0).1≠0 then DL (Bf s nm true).2 (Bf s nm true).1.1 0
 else if(Av.pcs (Bf s nm true).1.1 l (DL (Bf s nm true).2 (Bf s nm true).1.1 0).2 0 0).2≠0 then((Av.pcs (Bf s nm true).1.1 l (DL (Bf s nm true).2 (Bf s nm true).1.1 0).2 0 0).2,(Av.pcs (Bf s nm true).1.1 l (DL (Bf s nm true).2 (Bf s nm true).1.1 0).2 0 0).1.1)
 else Nc (Av.pcs (Bf s nm true).1.1 l (DL (Bf s nm true).2 (Bf s nm true).1.1 0).2 0 0).1.1 [(Bf s nm true).1.1]
structure LwS (os b0:Nat)(ino:Int)(s:StS)(at':Int)(p:AV)(H:AH):Prop where
 st:StAt s os p H
 bx:H[b0]?=some (some (.cells [.ptr os 0]))
 bi:H[b0+1]?=some (some (.cells [I ino]))
 br:∃a,H[b0+2]?=some (some (.cells [a]))
 ba:H[b0+3]?=some (some (.cells [I at']))
 no:os<b0
 nb:∀j,b0<=j->j<=b0+3->j∉Ba p
structure LwF (os b0:Nat)(p p':AV)(H H':AH):Prop where
 len:H.length<=H'.length
 same:∀j,j<H.length->j≠os->(j<b0+2\/b0+3<j)->j∉Ba p->H'[j]?=H[j]?
 ids:∀j∈Ba p',j∈Ba p\/H.length<=j
theorem LwF.refl (b a:Nat)(p:AV)(H:AH):LwF b a p p H H:=⟨Aj7 _,λ_ _ _ _ _=>rfl,λ_ h=>.inl h⟩
theorem LwF.trans {c b:Nat}{p g i:AV}{A B C:AH}(h:LwF c b p g A B)(k:LwF c b g i B C):LwF c b p i A C:=
  ⟨Al1 h.len k.len,λj a d e f=>by
    rw[k.same j (Am7 a h.len) d e (λl=>(h.ids j l).elim f (λq=>by omega)),h.same j a d e f],
   λj a=>(k.ids j a).elim (h.ids j) (λq=>.inr (Al1 h.len q))⟩
theorem LwF.of_grew {c a:Nat}{p:AV}{H H':AH}(g:Grew H H'):LwF c a p p H H':=⟨g.1,λj b _ _ _=>g.2 j b,λ_ h=>.inl h⟩
theorem LwS.grew {d c:Nat}{ino:Int}{s:StS}{b:Int}{p:AV}{H H':AH}(h:LwS d c ino s b p H)(g:Grew H H'):LwS d c ino s b p H':=by
 obtain⟨a,e⟩:=h.br;exact⟨h.st.grew g,g.cells h.bx,g.cells h.bi,⟨a,g.cells e⟩,g.cells h.ba,h.no,h.nb⟩
theorem Aug {m a:Nat}{ino:Int}{s:StS}{c:Int}{p w:AV}{H:AH}{N:Nat}{b:List UInt8}{C:AV->AH->Prop}{J X:AH->Prop}(h:LwS m a ino s c p H)(O:SW N s)(G:N+9*b.length<900000)
  (L:Ac H 1 w=some (Bp b,b.length)) (M:∀j∈Ba w,j≠m/\j∉Ba p) (U:0<=c/\c+b.length<=9223372036854775807)
  (d:(BD s ino c b).1.2=0->∀p' H',LwS m a ino (BD s ino c b).2 (c+(BD s ino c b).1.1) p' H'->LwF m a p p' H H'->J H')
  (P:(BD s ino c b).1.2≠0->∀p' H',StAt (BD s ino c b).2 m p' H'->LwF m a p p' H H'->H'[a+2]?=some (some (.cells [I (BD s ino c b).1.2]))->X H'):
  GP (λe H'=>match e with | .normal=>J H' | .ret=>X H' | _=>False) (.ptr a 0) (.ptr (a+1) 0) (.ptr (a+2) 0) (.ptr (a+3) 0) w H C:=by
 unfold GP;obtain⟨n1,n2⟩:=gW s ino c b;obtain⟨r,f,⟨rfl,p',k,i⟩,K⟩:=mU h.st O ino c G L M;generalize BD s ino c b=W at*;have D:=h.no;have Y:a+3<H.length:=(BG.1 h.ba).1;have y:∀j,j<H.length->j∉Ba p->j∉Ba p':=λj d n q=>(i.ids j q).elim n (λq=>by omega);have keep:∀j,a<=j->j<=a+3->f[j]?=H[j]?:=λj v x=>i.same j (by omega) (by omega) (h.nb j v x);have R:f[a]?=_:=(keep a (by omega) (by omega)).trans h.bx;have Q:f[a+1]?=_:=(keep _ (by omega) (by omega)).trans h.bi;have z:f[a+3]?=_:=(keep _ (by omega) (by omega)).trans h.ba;obtain⟨a2,T⟩:=h.br;have A:f[a+2]?=_:=(keep _ (by omega) (by omega)).trans T;simp only[Ah h.bx,Ah h.bi,Ah h.ba,Ah3,BH];refine bC_of K ?_;have Z:=i.len;have V:∀j∈Ba p',j<f.length:=k.p_lt;simp only[Ae6];have B:∀j,j=m\/j∈Ba p'->j≠a+2/\j≠a+3:=by
  intro j d;rcases d with rfl | d
  ·omega
  ·exact⟨λe=>y (a+2) (by omega) (h.nb _ (by omega) (by omega)) (by rw[<- e];exact d),λe=>y (a+3) (by omega) (h.nb _ (by omega) (by omega)) (by rw[<- e];exact d)⟩
 by_cases o:W.1.2=0
 ·have E:Ar .add (I c) (I W.1.1)=some (I (c+W.1.1)):=Au (by omega) (by omega);have t:AU 1 f (.ptr (a+3) 0) (I (c+W.1.1))=some (f.set (a+3) (some (.cells [I (c+W.1.1)]))):=rE z (by simp) rfl;simp only[o,Pr,Ac4,Ah z,Ae,BH,E,t,A9];generalize l:f.set (a+3) (some (AObj.cells [I (c+W.1.1)]))=H2;have g:∀j,j≠a+3->H2[j]?=f[j]?:=λj d=>by rw[<- l];exact Cc (Al6 d)
  have u:H2[a+3]?=some (some (.cells [I (c+W.1.1)])):=by rw[<- l];exact HU (by omega)
  have S:H2.length=f.length:=by rw[<- l,Ak4]
  exact d o p' H2 ⟨k.keep λj d=>g j (B j d).2,by rw[g _ (by omega)];exact R,by rw[g _ (by omega)];exact Q,⟨a2,by rw[g _ (by omega)];exact A⟩,u,D,λj v x=>y j (by omega) (h.nb j v x)⟩
   ⟨by omega,λj d k F n=>by rw[g j (by omega),i.same j d k n],i.ids⟩
 ·have t:AU 1 f (.ptr (a+2) 0) (I W.1.2)=some (f.set (a+2) (some (.cells [I W.1.2]))):=rE A (by simp) rfl;simp only[o,Af7,t,A9];generalize l:f.set (a+2) (some (AObj.cells [I W.1.2]))=H2;have g:∀j,j≠a+2->H2[j]?=f[j]?:=λj d=>by rw[<- l];exact Cc (Al6 d)
  have u:H2[a+2]?=some (some (.cells [I W.1.2])):=by rw[<- l];exact HU (by omega)
  have S:H2.length=f.length:=by rw[<- l,Ak4]
  exact P o p' H2 (k.keep λj d=>g j (B j d).1) ⟨by omega,λj d k F n=>by rw[g j (by omega),i.same j d k n],i.ids⟩ u
noncomputable abbrev Abh:Code:=AK f36
theorem Auh (a b c d f g h i x:AV)(H:AH)(Q:Exit->List AV->AH->Prop):AR prog (NB []) Aw Aw Aw (BI []) (yP (sub Abg Abh)) 0 ((BC (mk 37 0 [3,4,6,7,13,14,15,20]) [a,b,c,d,f,g,h,i]).set 21 x) H (λe T H=>fP (mk 37 0 [3,4,6,7,10]) T λX=>Q e X H)=Q .normal [a,b,c,d,x] H:=by kernel_rfl
theorem Aui:Hl (NB []) Aw (yP (sub Abg Abh))=true:=by kernel_rfl
theorem Auj:El A8 Acu V9 (sub (Abg++[true]) Abh)=true:=by kernel_rfl
theorem Auk {d f g i l m n o x:AV}{H:AH}{J X:AH->Prop}{k:AV->AH->Prop}(h:GP (λe H'=>match e with | .normal=>J H' | .ret=>X H' | _=>False) d f g i x H k):
  sM prog (yP (sub Abg Abh)) (sub (Abg++[true]) Abh) (BC (mk 37 0 [3,4,6,7,13,14,15,20]) [d,f,g,i,l,m,n,o]) 21 x H J (λc H'=>c=.ret/\X H'):=by
 obtain⟨e,p,H',b,t⟩:=Jv TA (yP (sub Abg Abh)) 0 _ H _ Aui (Eq.mpr (Auh d f g i l m n o x H (λe X j=>e=.normal/\X=[d,f,g,i,x]/\j=H)) ⟨rfl,rfl,rfl⟩);obtain⟨v,u,s,r⟩:=CJ.1 b;subst u;subst r;refine⟨p,t,?_⟩;refine ACode.weak (λG a q=>FM v q) ?_;rw[s];refine(FT TA (sub (Abg++[true]) Abh) _ _ _ _ Auj (Eq.mpr (jK (λe H'=>match e with | .normal=>J H' | .ret=>X H' | _=>False) d f g i x _ k) h)).mono ?_;intro e T j b;cases e with
 | normal=>exact b
 | ret=>exact⟨rfl,b⟩
 | _=>exact b.elim
theorem Aul {g:List AV->AH->Prop}{b d a f l m n:AV}{H:AH}{K:AV->AH->Prop}{k:FuncId}{h xs:List AV}{p:AH->Prop}(u:uW prog k h p xs)(t:Ch prog k=true)(J:Nat->AH->Prop)(X:AH->Prop)(q:J 0 H)(r:∀i H',J i H'->p H')
  (hr:∀i x H',xs[i]?=some x->J i H'->GP (λe H'=>match e with | .normal=>J (i+1) H' | .ret=>X H' | _=>False) b d a f x H' K)
  (s:∀H',J xs.length H'->bO (Ar .add n (I 1)) λw=>g [b,d,a,f,l,m,w] H')
  (v:∀H',X H'->bO (Aq false 1 H' a) λy=>K y H'):aA g b d a f l m n (.fn (.func k) [] h) H K:=by
 refine⟨?_⟩;rw[bL];refine ACode.rangeF u t rfl J (λc H'=>c=.ret/\X H') q r (λi x H' j o=>Auk (hr i x H' j o)) (λH' o=>?_) (λc H' j=>.inl ⟨j.1,?_⟩)
 ·exact Eq.mpr (jL g b d a f l m n (.fn (.func k) [] h) H' K) (s H' o)
 ·exact Eq.mpr (jM g b d a f l m n (.fn (.func k) [] h) H' K) (v H' j.2)
end
end Go.Proofs.YtbppnhenlboefaaGreat.Av
