/- Texts of this proof, one behind the other, packed into one file by a program of this session. No condition. -/
import Derived.Test.YtbppnhenlboefaaGreatMpK
set_option linter.unusedVariables false
set_option linter.unusedSimpArgs false
set_option maxRecDepth 100000
section
namespace Go.Proofs.YtbppnhenlboefaaGreat.Av
open Go Go.RowKit Go.Proofs.Tryz
theorem SV.cutG {b:List UInt8}{v:AV}(e:SV Ft 1 b v){l k:Nat}{lo hi:Option AV}(g:BL lo 0=some l)(h:BL hi b.length=some k)(i:l<=k)(j:k<=b.length):∃r,Bq 1 v lo hi none=some r/\SV Ft 1 ((b.drop l).take (k - l)) r:=by
 have key:∀H:AH,∃r,Bq 1 v lo hi none=some r/\Ac H 1 r=some (((b.drop l).take (k - l)).flatMap Ft,((b.drop l).take (k - l)).length)/\(noIds v=true->noIds r=true):=by
  intro H;obtain⟨r,a,f,-,-,d⟩:=DS (e.bytes H) (lo:=lo) (hi:=hi) (l:=l) (k:=k) g h i j;refine⟨r,a,?_,d⟩;have m:((b.drop l).take (k - l)).length=k - l:=by rw[Aj4,Aj9];omega
  rw[f,Kn,m];simp only[YH,PR,Ao5]
 obtain⟨r,a,f,d⟩:=key [];refine⟨r,a,d e.1,λH=>?_⟩;obtain⟨o,c,n,-⟩:=key H;rw[a]at c;injection c with c;rw[c];exact n
theorem SV.cutB {b:List UInt8}{v:AV}(f:SV Ft 1 b v){l k:Nat}{li ki:Int}(a:li=l)(c:ki=k)(d:l<=k)(e:k<=b.length):∃r,Bq 1 v (some (I li)) (some (I ki)) none=some r/\SV Ft 1 ((b.drop l).take (k - l)) r:=
 f.cutG (by subst a;simp[BL]) (by subst c;simp[BL]) d e
theorem Ax7 {N:Nat}{s:StS}(z:SW N s){ino p:Int}{bs:List UInt8}(D:(Ay s ino).2=0)(k:(Km s (GE ino p bs)).1=0):
  (Ay (Km s (GE ino p bs)).2 ino).2=0/\∀a,(∀x,p<=x->x<p+bs.length->a≠x/8)->(Cp (Ay (Km s (GE ino p bs)).2 ino).1.2 a↔Cp (Ay s ino).1.2 a):=by
 obtain⟨d,y,v,G,L⟩:=Fr z D;have j:(AL s).1=true:=by
  unfold Km at k;split at k
  ·assumption
  ·simp at k
 have M:(AL s).2.off=false:=by
  unfold AL at j|-;split at j
  ·cases j
  ·rename_i K;rw[if_neg K];split<;>exact L
 have e:Km s (GE ino p bs)=(0,{(AL s).2 with now:=B6 s.now.1 s.now.2 (GE ino p bs),pend:=s.pend++[GE ino p bs]}):=by unfold Km;rw[if_pos j]
 have h:=z.now.1;have B:B6 s.now.1 s.now.2 (GE ino p bs)=(s.now.1,V2 s.now.2 (GE ino p bs)):=by unfold B6;rw[if_pos (bN.2 h),if_neg (by simp[GE]),if_pos (.inl rfl)]
 have E:=h.chg (o:=GE ino p bs) (.inl rfl);have J:ino∈(V2 s.now.2 (GE ino p bs)).map Nd.ino:=by rw[tC h.sd];exact Am5.2 ⟨d,y,v⟩
 obtain⟨c,w,u⟩:=Am5.1 J;obtain⟨n,r⟩:=T5 E w;obtain⟨m,O⟩:=T5 h y;rw[u]at n r;rw[v]at m O;have C:Ay (Km s (GE ino p bs)).2 ino=((c.size,c.l),0):=by rw[e];unfold Ay;simp only[B,M];rw[if_neg (by simp),if_pos r,n]
 rw[C,G];refine⟨rfl,λa F=>?_⟩;rcases pX h.sd w with q | ⟨-,f,H,I,g⟩
 ·have:c=d:=by obtain⟨i,-⟩:=T5 h q;rw[u,m]at i;exact i.symm
  rw[this]
 ·have:f=d:=by obtain⟨i,-⟩:=T5 h H;rw[I]at i;have A:FB s.now.1 s.now.2 ino=f:=i;rw[m]at A;exact A.symm
  subst this;unfold I9 at g;rw[if_pos (show(GE ino p bs).kind=2 from rfl)]at g;unfold Ej at g;split at g
  ·injection g with g;by_cases t:(GE ino p bs).b=[]
   ·rw[if_pos t]at g;have:c.l=f.l:=(congrArg Prod.snd g).symm;rw[show((c.size,c.l):I5).2=c.l from rfl,this]
   ·rw[if_neg t]at g;have:c.l=Cm f.l p bs:=(congrArg Prod.snd g).symm;rw[show(((c.size,c.l),(0:Int)).1).2=c.l from rfl,this,xM];constructor
    ·rintro(q | ⟨x,P,Q,R⟩)
     ·exact q
     ·exact absurd R (F x P Q)
    ·exact .inl
  ·cases g
theorem Ax8 {N:Nat}{s:StS}(a:SW N s){ino pos:Int}{b:List UInt8}(c:(Ay s ino).2=0):(Ej ((Ay s ino).1.1,(Ay s ino).1.2) pos b).isSome=decide (XS pos b.length):=by
 obtain⟨d,g,i,e,j⟩:=Fr a c;have f:=a.now.1.mc d g;rw[e];unfold Ej XS;by_cases h:0<=pos/\b.length<=4096/\pos<=1099511627776 - b.length
 ·rw[if_pos ⟨f,h⟩,decide_eq_true h];rfl
 ·rw[if_neg (λq=>h q.2),decide_eq_false h];rfl
theorem Ax9 {f:Nat}{p n:Int}(h:DD f p n 8=[])(a:n.toNat<=f):n<=0:=by
 cases f with
 | zero=>omega
 | succ f=>
  unfold DD at h;split at h
  ·simp at h
  ·omega
theorem Axa {f:Nat}{p n:Int}{q:Sp}{r:List Sp}(h:DD f p n 8=q::r)(d:0<=p):0<n/\q=⟨p,min n (8 - p % 8)⟩/\∃g,f=g+1/\r=DD g (p+min n (8 - p % 8)) (n - min n (8 - p % 8)) 8:=by
 cases f with
 | zero=>simp[DD]at h
 | succ f=>
  unfold DD at h;split at h
  ·rename_i c;injection h with a b;exact⟨c,a.symm,f,rfl,b.symm⟩
  ·simp at h
theorem Xd {N:Nat}{s:StS}{i:Nat}{p v:AV}{H:AH}(h:DsAt s i p H)(T:SW N s)(ino pos:Int){b:List UInt8}(hN:N+9*b.length<900000)(hv:SV Ft 1 b v):
  ∃r H',(r=.tup [I (BD s ino pos b).1.1,I (BD s ino pos b).1.2]/\∃p',DsAt (BD s ino pos b).2 i p' H'/\StF i p p' H H')/\Ba0 72 [.ptr i 0,I ino,I pos,v] H r H':=Ro (by
 unfold KF;obtain⟨R,hR,r,t,⟨rfl,F⟩,hc⟩:=Sx h T (by omega) ino;have b6:=CI T ino;refine bC_of hc ?_;unfold BD;have bd:=Ax8 (pos:=pos) (b:=b) T (ino:=ino);have bz:(Ay s ino).2=0->(Ay s ino).2=0:=id;have b5:Ay s ino=Ay s ino:=rfl;generalize ai:Ay s ino=ct at*;have oR:=SV.oneA hR;have h1:=h.grew F;have Z:=Grew.app t [some (.cells [I ct.1.1,R])];have h2:=h1.grew Z;have ay:AW v=some (I b.length):=hv.len;simp only[Ag9,ID _ _ oR];by_cases J:ct.2=0
 ·obtain⟨U,a0,ao⟩:=Qz (size:=ct.1.1) hR (by omega) pos hv (by omega);have bg:=SV.oneA a0;rw[bd J]at ao;simp only[J,Ah1,Ah BE,qJ];refine Az ao ?_;generalize cS (Ej (ct.1.1,ct.1.2) pos b)=sz;have g3:=Grew.app (t++[some (AObj.cells [I ct.1.1,R])]) [some (.cells [I sz,U])];have h3:=h2.grew g3;have Y:StF i p p H (t++[some (AObj.cells [I ct.1.1,R])]++[some (.cells [I sz,U])]):=.of_grew ((F.trans Z).trans g3);simp only[Ae4,ID _ _ bg,A9];by_cases w:XS pos b.length
  ·have b4:0<=pos/\b.length<=4096/\pos<=1099511627776 - b.length:=w;have e1:Dy [(I 0),(I 0)] [(0,1,I pos),(1,1,I (b.length:Int))]=some (.agg (B9 ⟨pos,b.length⟩)):=rfl;obtain⟨V,G,hp⟩:=wY ⟨pos,b.length⟩ (unit:=8) (by omega);simp only[w,Ah8,not_true_eq_false,if_false,ay,Aa,e1];refine Az hp ?_;have ap:Ey ⟨pos,b.length⟩ 8=DD b.length pos b.length 8:=by unfold Ey;rw[if_pos ⟨⟨by unfold May;simp only;omega,by unfold May;simp only;omega,by simp only;omega⟩,by simp only;omega,by omega⟩];show DD ((b.length:Int)).toNat pos b.length 8=_;rw[show((b.length:Int)).toNat=b.length by omega]
   have al:∀q∈Ey ⟨pos,b.length⟩ 8,pos<=q.pos/\0<q.len/\q.len<=8/\q.pos+q.len<=pos+b.length:=λq Q=>Yk w Q;have ba:=jS w;generalize Ey ⟨pos,b.length⟩ 8=L at G al ba ap;have ca:i<H.length:=h.os_lt;have cb:=h.p_lt;have b0:H.length<=t.length:=F.1;generalize (t++[some (AObj.cells [I ct.1.1,R])]++[some (AObj.cells [I sz,U])])=H0 at h3 Y;refine LR (λm x0 x1 x3 av aw ax H'=>∃(k:Nat) (s':StS) (p':AV) (e:Int) (f:Nat),k+m=L.length/\x0=.ptr i 0/\x1=I ino/\v=x3/\V=av/\aw=I e/\ax=I k/\DsAt s' i p' H'/\StF i p p' H H'/\SW (N+9*k) s'/\0<=e/\e<=b.length/\L.drop k=DD f (pos+e) (b.length - e) 8/\(b.length - e).toNat<=f/\(Ay s' ino).2=0/\(b.length<=e\/∀a,(pos+e)/8<=a->(Cp (Ay s' ino).1.2 a↔Cp ct.1.2 a))/\mS ct.1.2 ino pos b (L.drop k) s'=mS ct.1.2 ino pos b L s) ?_ L.length
    ⟨0,s,p,0,b.length,by omega,rfl,rfl,rfl,rfl,rfl,rfl,h3,Y,T,by omega,by omega,by simpa using ap,by omega,by rw[ai];exact J,.inr (λa _=>by rw[ai]),rfl⟩
   rintro m x0 x1 x3 av aw ax A R3 a1 ⟨k,s',p',e,f,hk,rfl,rfl,rfl,rfl,rfl,rfl,ae,ag,n,b1,b2,M,a6,ah,ak,aj⟩;rw[<- aj];unfold GA;obtain⟨a,b',c,d,pv,ar⟩:=id ae;have sm:=n.now.sm (by omega);rcases Aj5 k L.length with am | a7
   ·have hx:=Dq am;have Q:=al L[k] (Ar0 am);generalize L[k]=q at hx Q;obtain⟨q1,q2,q3,q4⟩:=Q;have kI:(k:Int)<(L.length:Int):=by omega
    have K:L.drop k=q::L.drop (k+1):=Cs hx;rw[K]at M|-;obtain⟨c1,c2,g,rfl,c3⟩:=Axa M.symm (by omega);have aq:q.pos=pos+e:=by rw[c2]
    have bc:q.len=min (b.length - e) (8 - (pos+e) % 8):=by rw[c2]
    have b8:=As8 (pos+e) (show(8:Int)≠0 by omega);generalize hW:mS ct.1.2 ino pos b (q::L.drop (k+1)) s'=W
    obtain⟨j,ab,a4,a3,b9⟩:=Fr n ah;obtain⟨D,aa,ad⟩:=jV ar.now sm ino;obtain⟨k1,k2⟩:=T5 n.now.1 ab;rw[a4]at k1 k2;rw[k1]at aa ad;rw[decide_eq_true k2]at ad;have bh:=SV.oneA aa;have be:=JX (n.now.1.mc j ab).2.2;have b7:=n.now.2 j ab;have g5:=Grew.app A [some (.cells [I j.size,D])];have rq:Aq false 1 (A++[some (AObj.cells [I j.size,D])]) (.ip (B9 q++(L.drop (k+1)).flatMap B9))=some (I q.pos):=rfl;have e3:Ar .quo (I q.pos) (I 8)=some (I (q.pos/8)):=JQ (by omega) (by omega) (by omega);have bj:Ab 0 (.ip (B9 q++(L.drop (k+1)).flatMap B9))=some (.ip (B9 q++(L.drop (k+1)).flatMap B9)):=rfl;have bk:Ab 1 (.ip (B9 q++(L.drop (k+1)).flatMap B9))=some (.ip (I q.len::(L.drop (k+1)).flatMap B9)):=rfl;simp only[G.len,AM,Ag0,Af,kI,Ab7,Ah ar.obj,(Aac _ _ _ _ _ _ _ _ _).1];refine Az ad ?_;simp only[Ad0,jP,Ad2,ID _ _ bh,Ah BE,qJ,G.idx iT hx rfl,bj,rq,e3];refine bP_of (bV (size:=j.size) aa be (by omega) (q.pos/8)) ?_;have S:=ae.grew g5;have E:StF i p p' H (A++[some (AObj.cells [I j.size,D])]):=ag.grew g5;have a8:Cp j.l (q.pos/8)↔Cp ct.1.2 (q.pos/8):=by
     rcases ak with z | z
     ·omega
     ·have:=z (q.pos/8) (by rw[aq];exact Int.le_refl _)
      rwa[a3]at this
    have az:(if Cp j.l (q.pos/8)then(posL j.l (q.pos/8):Int)else -1)<0↔¬Cp ct.1.2 (q.pos/8):=by
     rw[<- a8];by_cases z:Cp j.l (q.pos/8)
     ·rw[if_pos z];constructor
      ·intro y;omega
      ·intro y;exact absurd z y
     ·rw[if_neg z];simp[z]
    generalize (A++[some (AObj.cells [I j.size,D])])=H5 at S E;have e4:Ar .add (I e) (I q.len)=some (I (e+q.len)):=Au (by omega) (by omega);have rl:∀HH:AH,Aq false 1 HH (.ip (I q.len::(L.drop (k+1)).flatMap B9))=some (I q.len):=λ_=>rfl
    have af:¬(¬Cp ct.1.2 (q.pos/8)/\SH s'=0)->bO (Aq false 1 H5 (.ip (B9 q++(L.drop (k+1)).flatMap B9))) (λbn=>bO (Ab 1 (.ip (B9 q++(L.drop (k+1)).flatMap B9))) λbo=>bO (Aq false 1 H5 bo) λbp=>bO (Ar .add (I e) bp) λbq=>bO (Bq 1 v (some (I e)) (some bq) none) λbr=>
      bO (Dy [(I 0),(I 0),(I 0),(I 0),(B false),(.lit (.string ⟨#[]⟩)),(.lit (.string ⟨#[]⟩)),Ad] [(0,1,(I 2)),(1,1,I ino),(2,1,bn),(7,1,br)]) λbs=>bC (Ba0 136 [.ptr i 0,bs] H5) λau C=>bO (Ar .neq au (I 0)) λbt=>bB bt λbm=>bI bm
       (AV.tup [I e,au]=.tup [I W.1.1,I W.1.2]/\∃p',DsAt W.2 i p' C/\StF i p p' H C)
       (bO (Ab 1 (.ip (B9 q++(L.drop (k+1)).flatMap B9))) λbu=>bO (Aq false 1 C bu) λbv=>bO (Ar .add (I e) bv) λbw=>bO (Ar .add (I k) (I 1)) λbx=>R3 [.ptr i 0,I ino,v,V,bw,bx] C)):=by
     intro an;obtain⟨rb,s1,s2⟩:=hv.cutB (li:=e) (ki:=e+q.len) (l:=e.toNat) (k:=(e+q.len).toNat) (by omega) (by omega) (by omega) (by omega);have a9:(b.drop e.toNat).take ((e+q.len).toNat - e.toNat)=Fd b pos q:=by unfold Fd;rw[aq,show(pos+e - pos).toNat=e.toNat by omega,show(e+q.len).toNat - e.toNat=q.len.toNat by omega]
     rw[a9]at s2;have bb:=jR (b:=b) (pos:=pos) (q:=q) ⟨q1,q2,q3,q4⟩;have e5:Dy [(I 0),(I 0),(I 0),(I 0),(B false),(.lit (.string ⟨#[]⟩)),(.lit (.string ⟨#[]⟩)),Ad] [(0,1,(I 2)),(1,1,I ino),(2,1,I q.pos),(7,1,rb)]=some (.agg (BO (GE ino q.pos (Fd b pos q)) rb)):=by have:=SV.oneA s2;simp[Dy,BO,GE,Bn this];rfl
     have bi:Aq false 1 H5 (.ip (B9 q++(L.drop (k+1)).flatMap B9))=some (I q.pos):=rfl;simp only[Aa,bi,bk,rl,e4,s1,e5];obtain⟨r6,H6,⟨rfl,p6,h6,f6⟩,a2⟩:=nK (o:=GE ino q.pos (Fd b pos q)) S n (by omega) s2 (qH (by omega));have bf:=ZH (o:=GE ino q.pos (Fd b pos q)) n (qH (by omega));refine bC_of a2 ?_;simp only[Bz,Aa5];by_cases u:(Km s' (GE ino q.pos (Fd b pos q))).1=0
     ·have cc:wt (GE ino q.pos (Fd b pos q))<=9:=by show 1+(Fd b pos q).length+(if(2:Int)=4 then _ else 0)<=9;rw[if_neg (by omega)];omega
      obtain⟨w1,w2⟩:=Ax7 n ah u;simp only[u,Pr,Ac4,Au (a:=k) (b:=1) (by omega) (by omega)];refine a1 (m - 1) _ _ _ _ _ _ _ (by omega) ⟨k+1,_,p6,e+q.len,g,by omega,rfl,rfl,rfl,rfl,rfl,by simp,h6,E.trans f6,bf.mono (by omega),by omega,by omega,?_,by omega,w1,?_,?_⟩
      ·rw[c3,<- bc];congr 1<;>omega
      ·rcases Aj5 (e+q.len).toNat b.length with z | z
       ·refine .inr λa ha=>?_;have b3:(pos+(e+q.len))/8=q.pos/8+1:=by omega
        rw[w2 a (λx x1 x2=>by rw[bb]at x2;omega)];rcases ak with y | y
        ·omega
        ·exact y a (by omega)
       ·exact .inl (by omega)
      ·rw[<- aj,K]
       conv=>rhs;unfold mS
       rw[if_neg an,if_neg (by rw[u];simp)]
     ·have X:W=((q.pos - pos,(Km s' (GE ino q.pos (Fd b pos q))).1),(Km s' (GE ino q.pos (Fd b pos q))).2):=by rw[<- hW];unfold mS;rw[if_neg an,if_pos u]
      rw[X];simp only[u,Af7];exact⟨by rw[show q.pos - pos=e by omega],p6,h6,E.trans f6⟩
    simp only[AM,Ad5,decide_eq_decide.2 az];by_cases P:Cp ct.1.2 (q.pos/8)
    ·simp only[P,not_true_eq_false,Ag7,show((false==true)=false)from rfl,FN];exact af (λx=>x.1 P)
    ·simp only[P,not_false_eq_true,B3,Do,Hu,Aa];refine bC_of (uX S n (by omega)) ?_;simp only[Bu,Af8];by_cases O:SH s'=0
     ·have X:W=((q.pos - pos,4),s'):=by rw[<- hW];unfold mS;rw[if_pos ⟨P,O⟩]
      rw[X];simp only[O,Ab7];exact⟨by rw[show q.pos - pos=e by omega],p',S,E⟩
     ·simp only[O,Aa8];exact af (λx=>O x.2)
   ·have kI:¬(k:Int)<(L.length:Int):=by omega
    have K:L.drop k=[]:=Ak6 a7;rw[K]at M|-;have:=Ax9 M.symm a6;have a5:e=b.length:=by omega
    unfold mS;simp only[Aj1,kI,G.len,a5];exact⟨by trivial,p',ae,ag⟩
  ·simp only[w,Ag4,Af4];exact⟨by trivial,p,h3,Y⟩
 ·simp only[J,Ad9];exact⟨by trivial,p,h2,.of_grew (F.trans Z)⟩)
end Go.Proofs.YtbppnhenlboefaaGreat.Av
end
section
namespace Go.Proofs.YtbppnhenlboefaaGreat.Av
open Go Go.Proofs.Tryz
def pqn:FuncId->Bool:=hU [43,82,20,13,52,40,102,24,23,98,50,170,172,188,179,181,22,99,169,111,143,142,148,180,182,145,73,141,171,173,144,75,176,135,70,134,139,149,174,112,45,234,3,16,46,132,131,130,133,28,74]
def Oz:Nat->Option (List Bool):=BI [(47,mk 248 0 [4,10]),(43,mk 248 0 [0,4,10,11,12,16,17,19]),(40,mk 248 0 [0,4,10,11,12,16,17,19]),(34,mk 248 0 [0,4,10,11,12,16,17,18]),(33,mk 248 0 [0,4,10,11,12,16,17,18]),(30,mk 248 0 [0,4,10,11,12,16,17]),(23,mk 248 0 [0,4,5,7,11,12,14,15]),(20,mk 248 0 [0,4,5,7,11,12,14,15]),(19,mk 248 0 [0,4,5,7,11,12,14,15]),(17,mk 248 0 [0,4,5,7,11,12,14]),(16,mk 248 0 [0,4,5,7,11,12]),(13,mk 248 0 [0,4,5,7,9,11]),(14,mk 248 0 [0,4,5,7,9,10,11,100]),(12,mk 248 0 [0,4,5,7,9,10,11]),(9,mk 248 0 [0,4,5,7,9]),(10,mk 248 0 [0,4,5,7,9,10,90]),(8,mk 248 0 [0,4,5,7,9,10]),(5,mk 248 0 [0,4,5,7]),(6,mk 248 0 [0,4,5,7,78]),(3,mk 248 0 [0,4,5,6,7])]
def AC (p:List Bool)(n:Nat):List AV->AH->Kf->Prop:=AR prog A8 pqn Aw Aw Oz (sub p (AK f34)) n
def EY:T21:=λa b g h i c d e f H K=>jn (mk 248 0 [0,4,5,7,11,12,14,15]) (AC (pbZ 235519) 25) [b,g,h,i,c,d,e,f] H (M1 (mk 248 0 [0,4,5,7,11,12,14,15]) a (AP 0 (AO (AC (pbZ 8191) 25) (AN prog f34.results.toList K))))
def EZ:T21:=λa b i c d e f g h H K=>jn (mk 248 0 [0,4,10,11,12,16,17,19]) (AC (pbZ 15073279) 47) [b,i,c,d,e,f,g,h] H (M1 (mk 248 0 [0,4,10,11,12,16,17,19]) a (AP 4 (AO (AC (pbZ 524287) 47) (AN prog f34.results.toList K))))
def DQ:T10:=λb a H K=>jn (mk 248 0 [4,10]) (AC (pbZ 1048575) 49) [b,a] H (AN prog f34.results.toList K)
def Fa:T23:=λa h b c d e f g H K=>lp (mk 248 0 [0,4,10,11,12,16,17,19]) (AC (pbZ 2490367) 41) [a,h,b,c,d,e,f,g] H (AP 4 (AO (AC (pbZ 524287) 47) (AN prog f34.results.toList K)))
def Hq:T23:=λa h b c d e f g H K=>lp (mk 248 0 [0,4,10,11,12,16,17,18]) (AC (pbZ 1245183) 35) [a,h,b,c,d,e,f,g] H (AP 2 (AO (AC (pbZ 262143) 38) (AN prog f34.results.toList K)))
def MR:T23:=λa h b c d e f g H K=>jn (mk 248 0 [0,4,10,11,12,16,17,18]) (AC (pbZ 458751) 34) [a,h,b,c,d,e,f,g] H (AO (AC (pbZ 262143) 38) (AN prog f34.results.toList K))
def C6:T16:=λa g b c d e f H K=>jn (mk 248 0 [0,4,10,11,12,16,17]) (AC (pbZ 131071) 32) [a,g,b,c,d,e,f] H (AN prog f34.results.toList K)
def Hp:T23:=λa f g h b c d e H K=>lp (mk 248 0 [0,4,5,7,11,12,14,15]) (AC (pbZ 38911) 21) [a,f,g,h,b,c,d,e] H (AP 0 (AO (AC (pbZ 8191) 25) (AN prog f34.results.toList K)))
def MQ:T23:=λa f g h b c d e H K=>jn (mk 248 0 [0,4,5,7,11,12,14,15]) (AC (pbZ 14335) 20) [a,f,g,h,b,c,d,e] H (AO (AC (pbZ 8191) 25) (AN prog f34.results.toList K))
def MP:T16:=λa e f g b c d H K=>jn (mk 248 0 [0,4,5,7,11,12,14]) (AC (pbZ 4095) 18) [a,e,f,g,b,c,d] H (AN prog f34.results.toList K)
def MO:T20:=λa d e f b c H K=>jn (mk 248 0 [0,4,5,7,11,12]) (AC (pbZ 2047) 17) [a,d,e,f,b,c] H (AN prog f34.results.toList K)
def MM:T20:=λa c d e f b H K=>jn (mk 248 0 [0,4,5,7,9,11]) (AC (pbZ 1023) 16) [a,c,d,e,f,b] H (AN prog f34.results.toList K)
def MN:T23:=λa e f g h b d c H K=>jn (mk 248 0 [0,4,5,7,9,10,11,100]) (AC (pbZ 1791) 15) [a,e,f,g,h,b,d,c] H (AO (De (mk 248 0 [0,4,5,7,9,11]) (AC (pbZ 1023) 16)) (AN prog f34.results.toList K))
def ML:T16:=λa d e f g b c H K=>jn (mk 248 0 [0,4,5,7,9,10,11]) (AC (pbZ 511) 13) [a,d,e,f,g,b,c] H (AN prog f34.results.toList K)
def Oy:T14:=λa b c d e H K=>jn (mk 248 0 [0,4,5,7,9]) (AC (pbZ 255) 12) [a,b,c,d,e] H (AN prog f34.results.toList K)
def MK:T16:=λa c d e f b g H K=>jn (mk 248 0 [0,4,5,7,9,10,90]) (AC (pbZ 447) 11) [a,c,d,e,f,b,g] H (AO (De (mk 248 0 [0,4,5,7,9]) (AC (pbZ 255) 12)) (AN prog f34.results.toList K))
def Ox:T20:=λa c d e f b H K=>jn (mk 248 0 [0,4,5,7,9,10]) (AC (pbZ 127) 9) [a,c,d,e,f,b] H (AN prog f34.results.toList K)
def Ow:T13:=λa b c d H K=>jn (mk 248 0 [0,4,5,7]) (AC (pbZ 63) 8) [a,b,c,d] H (AN prog f34.results.toList K)
def Ef:T14:=λa b c d e H K=>jn (mk 248 0 [0,4,5,7,78]) (AC (pbZ 111) 7) [a,b,c,d,e] H (AO (De (mk 248 0 [0,4,5,7]) (AC (pbZ 63) 8)) (AN prog f34.results.toList K))
def CM:T14:=λa b c d e H K=>jn (mk 248 0 [0,4,5,6,7]) (AC (pbZ 31) 5) [a,b,c,d,e] H (AN prog f34.results.toList K)
def KQ:T21:=λa c h i j d e f g H K=>bO (Ar .add g (I 1)) λb=>a [c,h,i,j,d,e,f,b] H
theorem TS (a:RT)(b g h i c d e f:AV)(H:AH)(K:KT):EY a b g h i c d e f H K=KQ a b g h i c d e f H K:=(Bi _ _ _ _ _).trans (by kernel_rfl)
def KS:T21:=λa c j d e f g h i H K=>bO (Ar .add i (I 1)) λb=>a [c,j,d,e,f,g,h,b] H
theorem TT (a:RT)(b i c d e f g h:AV)(H:AH)(K:KT):EZ a b i c d e f g h H K=KS a b i c d e f g h H K:=(Bi _ _ _ _ _).trans (by kernel_rfl)
def Gl:T10:=λb e H K=>bO (Dy [(I 0),(.lit (.string ⟨#[]⟩)),(I 0),(I 0),(I 0),(I 0),(I 0)] [(0,1,e)]) λc=>bS (AU 7 H b c) λa=>bO (Aq true 7 a b) λd=>K d a
theorem JB (b a:AV)(H:AH)(K:KT):DQ b a H K=Gl b a H K:=(Bi _ _ _ _ _).trans (by kernel_rfl)
def KW:T21:=λl d h e f b k g c H K=>bO (Ab 1 b) λu=>bO (Aq false 1 H u) λv=>bO (AW v) λF=>bO (Ar .lss c F) λn=>bG n true λw4=>gO w4 (some k) λY=>bO (A0 n Y (B false)) λj=>bG j true λw7=>gO w7 (some e) λv8=>bG j true λw9=>gO w9 (Ar .eql v8 (I 0)) λw=>bO (A0 j w (B false)) λx=>bB x λr=>bI r (bO (Ab 1 b) λy=>bO (Aq false 1 H y) λz=>bO (AY 9 z c) λA=>bO (Ab 0 A) λC=>bO (Aq false 1 H C) λD=>bO (Ar .mul D (I 8)) λm=>bO (Ar .sub f m) λE=>bO (amm gZ [(I 8),E]) λi=>bO (Ar .gtr i (I 0)) λa=>bG a true λad=>gO ad (Ab 1 b) λG=>bG a true λae=>gO ae (Aq false 1 H G) λJ=>bG a true λaf=>gO af (some c) λL=>bG a true λag=>gO ag (AY 9 J L) λM=>bG a true λah=>gO ah (Ab 1 M) λN=>bG a true λai=>gO ai (some i) λO=>bG a true λaj=>gO aj (Ty 8 1 H N none (some O)) λP=>bG a true λak=>gP ak (Ba1 74 [P] H) λQ=>bG a true λal=>gO al (D5 .not Q) λR=>bO (A0 a R (B false)) λS=>bB S λs=>bI s (bO (Ab 1 b) λT=>bO (Aq false 1 H T) λU=>bO (AY 9 U c) λV=>bO (Ab 1 V) λW=>bO (Ty 8 1 H W none (some i)) λX=>bC (Ba0 72 [d,g,m,X] H) λo p=>bO (Ak o 0) λam=>bO (Ak o 1) λZ=>EZ l d h Z f b k g c p K) (EZ l d h e f b k g c H K)) (bO (Ar .eql e (I 0)) λaa=>bB aa λt=>bI t (bC (Ba0 71 [d,g,f] H) λab q=>DQ h ab q K) (DQ h e H K))
theorem RF {K:KT}:Acd (λR a h b c d e f g H=>KW R a h b c d e f g H K) (λa h b c d e f g H=>Fa a h b c d e f g H K):=Acr (A3 _ _) (λ_ _ _ _ _ _ _ _ _ _=>by kernel_rfl)
def Gm:T21:=λm d k j e f g h a H K=>bO (Ar .lss a e) λb=>bG b true λx=>gO x (some g) λt=>bG b true λy=>gO y (D5 .not t) λu=>bO (A0 b u (B false)) λc=>bG c true λz=>gO z (some j) λv=>bG c true λA=>gO A (Ar .eql v (I 0)) λw=>bO (A0 c w (B false)) λo=>bB o λn=>bI n (bO (Aq true 2 H f) λp=>bP (Ba1 73 [p,a,(I 8)] H) λq=>bC (Ba0 72 [d,h,a,q] H) λi l=>bO (Ak i 0) λC=>bO (Ak i 1) λr=>bO (Ar .add a (I 8)) λs=>m [d,k,r,e,f,g,h,s] l) (Fa d k j e f g h (I 0) H K)
theorem Iz {K:KT}:Acd (λR a h b c d e f g H=>Gm R a h b c d e f g H K) (λa h b c d e f g H=>Hq a h b c d e f g H K):=Acr (A3 _ _) (λ_ _ _ _ _ _ _ _ _ _=>by kernel_rfl)
def Gk:T23:=λa h b c d e f g H K=>Hq a h b c d e f g H K
theorem JA (a h b c d e f g:AV)(H:AH)(K:KT):MR a h b c d e f g H K=Gk a h b c d e f g H K:=(Bi _ _ _ _ _).trans (by kernel_rfl)
def Gj:T16:=λa g b c d e f H K=>MR a g b c d e f (I 0) H K
theorem J9 (a g b c d e f:AV)(H:AH)(K:KT):C6 a g b c d e f H K=Gj a g b c d e f H K:=(Bi _ _ _ _ _).trans (by kernel_rfl)
def KV:T21:=λp c e m h b d l g H K=>bO (Ab 1 d) λx=>bO (Aq false 1 H x) λy=>bO (AW y) λF=>bO (Ar .lss g F) λN=>bB N λu=>bI u (bO (Ab 1 d) λv5=>bO (Aq false 1 H v5) λv6=>bO (AY 9 v6 g) λv7=>bO (Ab 0 v7) λv8=>bO (Aq false 1 H v8) λv9=>bO (Ar .mul v9 (I 8)) λz=>bO (Ar .lss z b) λA=>bB A λt=>bI t (bO (Ar .add l (I 1)) λC=>EY p c e m h b d C g H K) (EY p c e m h b d l g H K)) (bO (OX .eql h (.lit (.string ⟨#[97,108,119,97,121,115]⟩))) λf=>bG f false λad=>gO ad (some h) λD=>bG f false λae=>gO ae (OX .eql D (.lit (.string ⟨#[97,117,116,111]⟩))) λE=>bG f false λaf=>gO af (some E) λa=>bG a true λag=>gO ag (some l) λG=>bG a true λah=>gO ah (some b) λJ=>bG a true λai=>gO ai (Ar .add J (I 8)) λL=>bG a true λaj=>gO aj (Ar .sub L (I 1)) λM=>bG a true λak=>gO ak (Ar .quo M (I 8)) λO=>bG a true λal=>gO al (Ar .lss G O) λP=>bG f false λam=>gO am (A0 a P (B false)) λQ=>bO (A0 f (B true) Q) λi=>bO (D5 .not i) λj=>bG j true λan=>gO an (some b) λR=>bG j true λao=>gO ao (Ar .gtr R (I 32768)) λS=>bO (A0 j S (B false)) λT=>bB T λv=>bI v (bO (Dy [(I 0),(.lit (.string ⟨#[]⟩)),(I 0),(I 0),(I 0),(I 0),(I 0)] [(0,1,(I 4))]) λU=>bS (AU 7 H e U) λn=>bO (Aq true 7 n e) λV=>K V n) (bO (Ab 1 m) λW=>bO (Aq false 1 H W) λX=>bO (AY 1 X (I 1)) λY=>bO (Aq false 1 H Y) λZ=>bC (Ba0 68 [c,Z,(B true)] H) λq o=>bO (Ak q 0) λk=>bO (Ak q 1) λr=>bO (Ar .eql r (I 0)) λaa=>bB aa λw=>bI w (bC (Ba0 71 [c,k,(I 0)] o) λab s=>C6 c e ab b d i k s K) (C6 c e r b d i k o K)))
theorem RE {K:KT}:Acd (λR a f g h b c d e H=>KV R a f g h b c d e H K) (λa f g h b c d e H=>Hp a f g h b c d e H K):=Acr (A3 _ _) (λ_ _ _ _ _ _ _ _ _ _=>by kernel_rfl)
def KP:T23:=λa f g h b c d e H K=>Hp a f g h b c d e H K
theorem TR (a f g h b c d e:AV)(H:AH)(K:KT):MQ a f g h b c d e H K=KP a f g h b c d e H K:=(Bi _ _ _ _ _).trans (by kernel_rfl)
def KN:T16:=λa e f g b c d H K=>MQ a e f g b c d (I 0) H K
theorem TQ (a e f g b c d:AV)(H:AH)(K:KT):MP a e f g b c d H K=KN a e f g b c d H K:=(Bi _ _ _ _ _).trans (by kernel_rfl)
def KM:T20:=λa d e f b c H K=>MP a d e f b c (I 0) H K
theorem TP (a d e f b c:AV)(H:AH)(K:KT):MO a d e f b c H K=KM a d e f b c H K:=(Bi _ _ _ _ _).trans (by kernel_rfl)
def KK:T20:=λc k l m n j H K=>bO (Aj c) λf=>bO (Ab 0 f) λg=>bO (Aq true 2 H g) λh=>bP (Ba1 70 [h,n] H) λa=>bO (Ak a 0) λi=>bO (Ak a 1) λo=>bH (AE H (.agg [(I 0),Ad])) λb d=>bS (AU 2 d b i) λe=>MO c k l m j b e K
theorem TN (a c d e f b:AV)(H:AH)(K:KT):MM a c d e f b H K=KK a c d e f b H K:=(Bi _ _ _ _ _).trans (by kernel_rfl)
def KL:T23:=λf a j k l g i h H K=>bB h λc=>bI c (bO (Dy [(I 0),(.lit (.string ⟨#[]⟩)),(I 0),(I 0),(I 0),(I 0),(I 0)] [(0,1,g)]) λd=>bS (AU 7 H a d) λb=>bO (Aq true 7 b a) λe=>K e b) (MM f a j k l i H K)
theorem TO (a e f g h b d c:AV)(H:AH)(K:KT):MN a e f g h b d c H K=KL a e f g h b d c H K:=(Bi _ _ _ _ _).trans (by kernel_rfl)
def KJ:T16:=λc e f g h a d H K=>bO (Ar .neq a (I 0)) λb=>MN c e f g h a d b H K
theorem TM (a d e f g b c:AV)(H:AH)(K:KT):ML a d e f g b c H K=KJ a d e f g b c H K:=(Bi _ _ _ _ _).trans (by kernel_rfl)
def LY:T14:=λb g h i c H K=>bC (Ba0 69 [b,c] H) λa d=>bO (Ak a 0) λe=>bO (Ak a 1) λf=>ML b g h i c f e d K
theorem UX (a b c d e:AV)(H:AH)(K:KT):Oy a b c d e H K=LY a b c d e H K:=(Bi _ _ _ _ _).trans (by kernel_rfl)
def KI:T16:=λf a h i j g k H K=>bB k λc=>bI c (bO (Dy [(I 0),(.lit (.string ⟨#[]⟩)),(I 0),(I 0),(I 0),(I 0),(I 0)] [(0,1,g)]) λd=>bS (AU 7 H a d) λb=>bO (Aq true 7 b a) λe=>K e b) (Oy f a h i j H K)
theorem TL (a c d e f b g:AV)(H:AH)(K:KT):MK a c d e f b g H K=KI a c d e f b g H K:=(Bi _ _ _ _ _).trans (by kernel_rfl)
def LX:T20:=λc d e f g a H K=>bO (Ar .neq a (I 0)) λb=>MK c d e f g a b H K
theorem UW (a c d e f b:AV)(H:AH)(K:KT):Ox a c d e f b H K=LX a c d e f b H K:=(Bi _ _ _ _ _).trans (by kernel_rfl)
def LW:T13:=λb k c l H K=>bO (Ab 1 c) λe=>bO (Aq false 1 H e) λf=>bO (AY 1 f (I 0)) λg=>bO (Aq false 1 H g) λh=>bC (Ba0 68 [b,h,(B false)] H) λa d=>bO (Ak a 0) λi=>bO (Ak a 1) λj=>Ox b k c l i j d K
theorem UV (a b c d:AV)(H:AH)(K:KT):Ow a b c d H K=LW a b c d H K:=(Bi _ _ _ _ _).trans (by kernel_rfl)
def GH:T14:=λf a g h i H K=>bB i λc=>bI c (bO (Dy [(I 0),(.lit (.string ⟨#[]⟩)),(I 0),(I 0),(I 0),(I 0),(I 0)] [(0,1,(I 2))]) λd=>bS (AU 7 H a d) λb=>bO (Aq true 7 b a) λe=>K e b) (Ow f a g h H K)
theorem KU (a b c d e:AV)(H:AH)(K:KT):Ef a b c d e H K=GH a b c d e H K:=(Bi _ _ _ _ _).trans (by kernel_rfl)
def LV:T14:=λx0 x4 d x6 g H K=>bO (D5 .not x6) λe=>bG e false λU=>gO U (Ab 1 d) λq=>bG e false λw3=>gO w3 (Aq false 1 H q) λA=>bG e false λw5=>gO w5 (AW A) λM=>bG e false λw7=>gO w7 (Ar .neq M (I 2)) λT=>bO (A0 e (B true) T) λa=>bG a false λV=>gO V (Ab 1 d) λl=>bG a false λW=>gO W (Aq false 1 H l) λm=>bG a false λX=>gO X (AY 1 m (I 0)) λn=>bG a false λY=>gO Y (Aq false 1 H n) λo=>bG a false λZ=>gO Z (Ab 1 d) λp=>bG a false λaa=>gO aa (Aq false 1 H p) λr=>bG a false λab=>gO ab (AY 1 r (I 1)) λs=>bG a false λad=>gO ad (Aq false 1 H s) λt=>bG a false λae=>gO ae (OX .eql o t) λu=>bO (A0 a (B true) u) λc=>bG c false λaf=>gO af (Ab 0 d) λv=>bG c false λag=>gO ag (Aq false 1 H v) λw=>bG c false λah=>gO ah (W6 1 1 (Bx [(.lit (.string ⟨#[]⟩))] 1) [(0,1,(.lit (.string ⟨#[115,112,97,114,115,101]⟩)))]) λx=>bG c false λai=>gC ai (Ba0 66 [w,x] H) H λy h=>bG c false λaj=>gO aj (D5 .not y) λz=>bO (A0 c (B true) z) λb=>bG b false λak=>gO ak (some g) λC=>bG b false λal=>gO al (OX .neq C (.lit (.string ⟨#[97,117,116,111]⟩))) λD=>bG b false λam=>gO am (some D) λi=>bG i true λan=>gO an (some g) λE=>bG i true λao=>gO ao (OX .neq E (.lit (.string ⟨#[97,108,119,97,121,115]⟩))) λF=>bG b false λap=>gO ap (A0 i F (B false)) λG=>bG b false λaq=>gO aq (some G) λj=>bG j true λar=>gO ar (some g) λJ=>bG j true λau=>gO au (OX .neq J (.lit (.string ⟨#[110,101,118,101,114]⟩))) λL=>bG b false λav=>gO av (A0 j L (B false)) λN=>bO (A0 b (B true) N) λf=>bG f false λaw=>gO aw (Ab 0 d) λO=>bG f false λax=>gO ax (Aq false 1 h O) λP=>bG f false λay=>gC ay (Ba0 67 [P] h) h λQ k=>bG f false λaz=>gO az (D5 .not Q) λR=>bO (A0 f (B true) R) λS=>Ef x0 x4 d g S k K
theorem UU (a b c d e:AV)(H:AH)(K:KT):CM a b c d e H K=LV a b c d e H K:=(Bi _ _ _ _ _).trans (by kernel_rfl)
def Tl:T10:=λa0 a1 H K=>bH (AE H (.agg [(I 0),(.lit (.string ⟨#[]⟩)),(I 0),(I 0),(I 0),(I 0),(I 0)])) λd h=>bC (Ba0 64 [(.lit (.string ⟨#[]⟩)),a1] h) λf i=>bO (Ak f 0) λp=>bO (Ak f 1) λg=>bH (AE i (.agg [Ad,Ad])) λa j=>bS (AU 2 j a p) λc=>bO (Ab 0 a) λq=>bO (Aq false 1 c q) λl=>bC (Ba0 65 [l,(.lit (.string ⟨#[115,112,97,114,115,101]⟩))] c) λe b=>bO (Ak e 0) λm=>bO (Ak e 1) λn=>bO (D5 .not n) λo=>bB o λk=>bI k (CM a0 d a g (.lit (.string ⟨#[97,117,116,111]⟩)) b K) (CM a0 d a g m b K)
theorem Y2 {a0 a1 H K}(h:Tl a0 a1 H K):BQ 34 [a0,a1] H K:=fok A8 pqn Oz func34 h
end Go.Proofs.YtbppnhenlboefaaGreat.Av
end
section
set_option maxHeartbeats 1000000
namespace Go.Proofs.YtbppnhenlboefaaGreat.Av
open Go Go.RowKit Go.Proofs.Tryz
def zA:List AV:=[I 0,S (Ax []),I 0,I 0,I 0,I 0,I 0]
def KR (RES:Int×StS)(a:Nat)(c:AV)(b:AH):AV->AH->Prop:=λr H'=>r=fI RES.1/\∃q',DsAt RES.2 a q' H'/\StF a c q' b H'
theorem Bes.newD {s:StS}{a:Nat}{p:AV}{H:AH}(h:DsAt s a p H)(cs:List AV):Bes H.length cs a p (H++[some (.cells cs)]):=
 ⟨BE,by have:=h.os_lt;omega,λz=>by have:=h.p_lt _ z;omega⟩
theorem tK {b a:Nat}{l q:AV}{d H:AH}{RES:Int×StS}(h:DsAt RES.2 b q H)(f:StF b l q d H)(c:Bes a zA b q H)(w:d.length<=a){e:Int}(m:RES.1=e):
  bO (Dy [(I 0),(.lit (.string ⟨#[]⟩)),(I 0),(I 0),(I 0),(I 0),(I 0)] [(0,1,I e)]) λt=>
  bS (AU 7 H (.ptr a 0) t) λk=>bO (Aq true 7 k (.ptr a 0)) λu=>KR RES b l d u k:=by
 have o:=(BG.1 c.at').1;have v:Dy [(I 0),(.lit (.string ⟨#[]⟩)),(I 0),(I 0),(I 0),(I 0),(I 0)] [(0,1,I e)]=some (fI e):=rfl;have r:AU 7 H (.ptr a 0) (fI e)=some (H.set a (some (.cells [I e,S (Ax []),I 0,I 0,I 0,I 0,I 0]))):=by unfold fI;rw[AG (n:=7) (xs:=[I e,S (Ax []),I 0,I 0,I 0,I 0,I 0]) (cs:=zA) (by simp[Cy,oneA]) c.at' rfl (by simp[zA])];rfl
 have s:(H.set a (some (.cells [I e,S (Ax []),I 0,I 0,I 0,I 0,I 0])))[a]?=some (some (.cells [I e,S (Ax []),I 0,I 0,I 0,I 0,I 0])):=HU o;have ne:∀i,i≠a->(H.set a (some (.cells [I e,S (Ax []),I 0,I 0,I 0,I 0,I 0])))[i]?=H[i]?:=λi g=>Cc (Al6 g);have p:A1 true 7 [I e,S (Ax []),I 0,I 0,I 0,I 0,I 0] 0=some (fI e):=rfl;simp only[v,Aa,r,A9,Ah s,p];refine⟨by rw[m],q,h.keep (ne b (Al6 c.ne)) λi g=>ne i (λz=>c.np (z▸g)),by rw[Ak4];exact f.len,λj x y z=>by rw[ne j (by omega)];exact f.same j x y z,f.ids⟩
def lZ (to size:Int)(W:Int×StS):Int×StS:=if W.1≠0 then W else DL W.2 to size
theorem Axb {H:AH}{x:Ext}{t:List AV}{n:Nat}(h:n<=8):Ty 8 1 H (.ip ((AB x++t).drop 1)) none (some (I (n:Int)))=some (.imm ((x.b.take n).flatMap Ft) (x.b.take n).length 1):=by
 have a:(AB x++t).drop 1=Bp x.b++t:=rfl;have d:=x.hb;have c:(x.b.take n).length=n:=by rw[Aj4];omega
 rw[a,c,Kn];simp only[Ty,BL,Ap6,show(0:Int)<=(n:Int) by omega,if_true];simp only[Nat.zero_le,h,Ai2,Ad4,Ao5];congr 2;rw[Ak9 (by rw[BY];omega)];simp[Bp,Av2]
theorem Akj {x:Ext}(n:Nat):SV Ft 1 (x.b.take n) (.imm ((x.b.take n).flatMap Ft) (x.b.take n).length 1):=SV.imm Aop (λ_ _=>rfl)
theorem Akk {N:Nat}{s:StS}{f a w:Nat}{p q R:AV}{e to size:Int}{hl:Bool}{l:List Ext}{m H:AH}{RES:Int×StS}(h:DsAt s f q H)(hw:SW N s)(f0:StF f p q m H)(V:m.length<=a)(ba:Bes a zA f q H)(bc:Bes w [I size,R] f q H)(S:SV AB 9 l R)(X:CZ size l)(av:l.length<=1000000)(hN:N+9*l.length+72<900000)
  (d:lZ to size (if e≠0 then(e,s)else if hl=true then Jg to size (BM size l) s else(0,s))=RES):
  Fa (.ptr f 0) (.ptr a 0) (I e) (I size) (.ptr w 0) (B hl) (I to) (I 0) H (KR RES f p m):=by
 obtain⟨m1,m2,m3,m4,-⟩:=T9.1 X;refine RF (λn x0 x4 aa ab ad ae af ag H'=>∃(k:Nat) (s':StS) (q':AV) (g:Int),k+n=l.length/\x0=.ptr f 0/\x4=.ptr a 0/\aa=I g/\ab=I size/\ad=.ptr w 0/\ae=B hl/\af=I to/\ag=I k/\DsAt s' f q' H'/\StF f p q' m H'/\SW (N+9*k) s'/\Bes a zA f q' H'/\Bes w [I size,R] f q' H'/\lZ to size (if g≠0 then(g,s')else if hl=true then Jg to size (BM size (l.drop k)) s' else(0,s'))=RES) ?_ l.length
  ⟨0,s,q,e,by omega,rfl,rfl,rfl,rfl,rfl,rfl,rfl,rfl,h,f0,hw,ba,bc,by simpa using d⟩
 rintro n x0 x4 aa ab ad ae af ag C ai aj ⟨k,s',q',g,hk,rfl,rfl,rfl,rfl,rfl,rfl,rfl,rfl,G,F,K,D,E,d⟩;unfold KW;simp only[Ab5,Ah E.at',S.len,AM,A7]
 have U:(g≠0\/hl=false\/l.length<=k)->bO (Ar .eql (I g) (I 0)) λar=>bB ar λaq=>bI aq (
   bC (Ba0 71 [.ptr f 0,I to,I size] C) λau ah=>DQ (.ptr a 0) au ah (KR RES f p m)) (DQ (.ptr a 0) (I g) C (KR RES f p m)):=by
  intro i;simp only[Bu,Aa5];by_cases c:g=0
  ·have o:(if g≠0 then(g,s')else if hl=true then Jg to size (BM size (l.drop k)) s' else(0,s'))=(0,s'):=by
    rw[if_neg (λz=>z c)];rcases i with i | i | i
    ·exact absurd c i
    ·rw[if_neg (by simp[i])]
    ·rw[Ak6 i];split<;>rfl
   rw[o]at d;unfold lZ at d;rw[if_neg (by simp)]at d;simp only[c,Ab7];obtain⟨r,j,⟨rfl,p4,Q,v⟩,i⟩:=cQ G K (by omega) to size;refine bC_of i ?_;rw[JB];unfold Gl;rw[<- d];exact tK Q (F.trans v) (D.step v) V rfl
  ·rw[if_pos c]at d;unfold lZ at d;rw[if_pos c]at d;simp only[c,Aa8];rw[JB];unfold Gl;rw[<- d];exact tK (RES:=(g,s')) G F D V rfl
 rcases Aj5 k l.length with W | al;rotate_left
 ·simp only[show ¬(k:Int)<(l.length:Int) by omega,Ag7,show((false==true)=false)from rfl,A7];exact U (.inr (.inr al))
 simp only[show(k:Int)<(l.length:Int) by omega,Af1,Ad5];cases hl with
 | false=>
  simp only[show((false==true)=false)from rfl,AT,An,Af,Ag];exact U (.inr (.inl rfl))
 | true=>
 simp only[Do,Aa5,Bu,if_true];by_cases c:g=0;rotate_left
 ·have:=U (.inl c);simp only[c,Aa8,Bu,Aa5]at this|-;exact this
 subst c;have O:=Dq W;have T:=Ar0 W;generalize l[k]=x at O T;have Y:srt (l.drop k):=At3 (Au9 k l) m3;rw[Cs O]at d Y;have an:=(An2.1 Y).1;have aw:=m4 x.no ⟨x,T,rfl⟩;have ao:∀t,Ab 0 (.ip (AB x++t))=some (.ip (AB x++t)):=λ_=>rfl;have i0:∀t,Aq false 1 C (.ip (AB x++t))=some (I x.no):=λ_=>rfl;have q1:Ar .add (I (k:Int)) (I 1)=some (I ((k+1:Nat):Int)):=by rw[Au (by omega) (by omega)];congr 3
 have ap:∀t,Ab 1 (.ip (AB x++t))=some (.ip ((AB x++t).drop 1)):=λ_=>rfl;have em:amm gZ [(I 8),I (size - x.no*8)]=some (I (min 8 (size - x.no*8))):=by rw[JT,pS,Int.min_comm]
 have go:∀(o:Int) (u:StS) (A:AV) (j:AH),DsAt u f A j->StF f p A m j->SW (N+9*(k+1)) u->Bes a zA f A j->Bes w [I size,R] f A j->lZ to size (if o≠0 then(o,u)else if true=true then Jg to size (BM size (l.drop (k+1))) u else(0,u))=RES->
   EZ ai (.ptr f 0) (.ptr a 0) (I o) (I size) (.ptr w 0) (B true) (I to) (I (k:Int)) j (KR RES f p m):=by
  intro o u A j g1 g2 g3 g4 g5 g6;rw[TT];unfold KS;simp only[q1,Aa];exact aj (n - 1) _ _ _ _ _ _ _ _ _ (by omega) ⟨k+1,u,A,o,by omega,rfl,rfl,rfl,rfl,rfl,rfl,rfl,rfl,g1,g2,g3,g4,g5,g6⟩
 simp only[Ab7,S.idx AD O rfl,ao,i0,Ad5,Dp (a:=x.no) (b:=8) (by omega) (by omega),B4 (a:=size) (b:=x.no*8) (by omega) (by omega),em,C8];have J:=Awq X T;rw[if_neg (by simp),if_pos rfl]at d;unfold BM at d;by_cases P:x.no*8<size
 ·obtain⟨c,i⟩:∃c:Nat,min 8 (size - x.no*8)=c:=⟨(min 8 (size - x.no*8)).toNat,by omega⟩;have J:=J P;have c0:0<c:=by omega
  have c8:c<=8:=by omega
  have am:∀(b:List UInt8),Aa1 to size s' x.no b=((BD s' to (x.no*8) (b.take c)).1.2,(BD s' to (x.no*8) (b.take c)).2):=λb=>by unfold Aa1;rw[i];rfl
  rw[i]at J|-;simp only[Ap6]at J;rw[if_pos P]at d;unfold Jg at d;have lc:(x.b.take c).length=c:=by rw[Aj4,x.hb];omega
  simp only[show(0:Int)<(c:Int) by omega,B3,Do,Ah3,Ah E.at',Aa7,S.idx AD O rfl,ap,Axb c8,V7];refine Az (Awn (Akj (x:=x) c) (by omega)) ?_;simp only[AJ,Af8,J];by_cases M:OE x.b
  ·rw[if_pos M]at d;simp only[M,Ah8];exact go 0 s' q' C G F (K.mono (by omega)) D E (by rw[if_neg (by simp),if_pos rfl];exact d)
  ·rw[if_neg M]at d;simp only[M,Ag4];obtain⟨r,j,⟨rfl,q4,Q,v⟩,ak⟩:=Xd G K to (x.no*8) (b:=x.b.take c) (by omega) (Akj (x:=x) c);refine bC_of ak ?_;simp only[Ad0];have Z:=lV K to size x.no x.hb;rw[am]at d Z;refine go _ _ q4 j Q (F.trans v) (Z.mono (by omega)) (D.step v) (E.step v) ?_;by_cases L:(BD s' to (x.no*8) (x.b.take c)).1.2=0
   ·rw[if_neg (λz=>z L),if_pos rfl];rw[if_neg (λz=>z L)]at d;exact d
   ·rw[if_pos L];rw[if_pos L]at d;exact d
 ·rw[if_neg P]at d;have eb:BM size (l.drop (k+1))=[]:=by
   cases hd:l.drop (k+1)with
   | nil=>rfl
   | cons y r=>
    have:=an y (by rw[hd];simp);unfold BM;rw[if_neg (by omega)]
  simp only[show ¬(0:Int)<min 8 (size - x.no*8) by omega,Ag7,show((false==true)=false)from rfl,ND];exact go 0 s' q' C G F (K.mono (by omega)) D E (by rw[if_neg (by simp),if_pos rfl,eb];exact d)
end Go.Proofs.YtbppnhenlboefaaGreat.Av
end
section
set_option maxHeartbeats 1000000
namespace Go.Proofs.YtbppnhenlboefaaGreat.Av
open Go Go.RowKit
theorem Akl {N:Nat}{s:StS}{f a i:Nat}{K q R:AV}{e to size:Int}{hl:Bool}{l:List Ext}{j H:AH}{RES:Int×StS}(h:DsAt s f q H)(hw:SW N s)(f0:StF f K q j H)(ha:j.length<=a)(ba:Bes a zA f q H)(bc:Bes i [I size,R] f q H)(J:SV AB 9 l R)(t:CZ size l)(ad:l.length<=1000000)(hN:N+9*l.length+9*4096+100<900000)(ae:hl=true\/size<=32768)
  (d:lZ to size (if e≠0 then(e,s)else dL hl to (size,l) s)=RES):
  Hq (.ptr f 0) (.ptr a 0) (I e) (I size) (.ptr i 0) (B hl) (I to) (I 0) H (KR RES f K j):=by
 obtain⟨m1,m2,W,m4,-⟩:=T9.1 t;have oR:=SV.oneA J;cases hl with
 | true=>
  have ai:lZ to size (if e≠0 then(e,s)else if true=true then Jg to size (BM size l) s else(0,s))=RES:=d;refine Iz (λn u F v w y A D E H'=>u=.ptr f 0/\F=.ptr a 0/\v=I e/\w=I size/\y=.ptr i 0/\A=B true/\D=I to/\E=I 0/\H'=H) ?_ 0 ⟨rfl,rfl,rfl,rfl,rfl,rfl,rfl,rfl,rfl⟩;rintro n u F v w y A D E Z ag ab ⟨rfl,rfl,rfl,rfl,rfl,rfl,rfl,rfl,rfl⟩;have go:=Akk (hl:=true) h hw f0 ha ba bc J t ad (by omega) ai;unfold Gm;simp only[AM,Ad5];by_cases c:(0:Int)<size
  ·simp only[c,Ac3,Af5,AJ,Aa3,A7,show((false==true)=false)from rfl];exact go
  ·simp only[c,Ag7,show((false==true)=false)from rfl,A7];exact go
 | false=>
 have ae:size<=32768:=ae.elim (λh=>by simp at h) id;have hC:((Le size).toNat:Int)=(size+7)/8/\(Le size).toNat<=4096:=by unfold Le;omega
 have d:lZ to size (if e≠0 then(e,s)else iE to size (Le size).toNat 0 (BM size l) s)=RES:=d;generalize (Le size).toNat=C at*;refine Iz (λn u F v w y A D E H'=>∃(k:Nat) (s':StS) (q':AV) (g:Int) (L:List Ext),k+n=C/\u=.ptr f 0/\F=.ptr a 0/\v=I g/\w=I size/\y=.ptr i 0/\A=B false/\D=I to/\E=I ((k:Int)*8)/\DsAt s' f q' H'/\StF f K q' j H'/\SW (N+9*k) s'/\Bes a zA f q' H'/\Bes i [I size,R] f q' H'/\srt L/\(∀x∈L,(k:Int)<=x.no)/\(∀p,(k:Int)*8<=p->p<size->Ml L p=Ml l p)/\lZ to size (if g≠0 then(g,s')else iE to size n k L s')=RES) ?_ C
  ⟨0,s,q,e,BM size l,by omega,rfl,rfl,rfl,rfl,rfl,rfl,rfl,rfl,h,f0,hw,ba,bc,sZ W,λx V=>(m4 x.no ⟨x,((V1 W x).1 V).1,rfl⟩).1,λp _ U=>Awj W U,d⟩
 rintro n u F v w y A D E Z ag ab ⟨k,s',q',g,L,hk,rfl,rfl,rfl,rfl,rfl,rfl,rfl,rfl,h3,f3,Y,aa,O,X,S,M,d⟩;have af:(g≠0\/n=0)->Fa (.ptr f 0) (.ptr a 0) (I g) (I size) (.ptr i 0) (B false) (I to) (I 0) Z (KR RES f K j):=λT=>
  Akk (hl:=false) h3 Y f3 ha aa O J t ad (by omega) (by
   rcases T with T | rfl
   ·rw[if_pos T]at d|-;exact d
   ·exact d)
 unfold Gm;simp only[AM,Ad5];by_cases c:(k:Int)*8<size;rotate_left
 ·simp only[c,Ag7,show((false==true)=false)from rfl,A7];exact af (.inr (by omega))
 simp only[c,Ag6,AJ,As2,A7,Bu];by_cases P:g=0;rotate_left
 ·simp only[P,Aa8];exact af (.inl P)
 subst P;obtain⟨n,rfl⟩:∃m,n=m+1:=⟨n - 1,by omega⟩;rw[if_neg (by simp)]at d;unfold iE at d;have hd:=Awk (to:=to) s' t (show(0:Int)<=(k:Int) by omega) c X S (λp h1 o=>M p (by omega) o);have aj:=uH t (show(0:Int)<=(k:Int) by omega) c X S (λp h1 o=>M p (by omega) o);have w4:=lV Y to size k (PS (k:Int) L);obtain⟨p1,p2,p3,p4⟩:=Akd X S;obtain⟨r,hr,U⟩:=ST (size:=size) J (by omega) ((k:Int)*8) 8;have lr:(Hw size l ((k:Int)*8) 8).length<=8:=by rw[aj,Aj4,PS];omega
 rw[hd]at d w4;have i2:A1 true 2 [I size,R] 0=some (.agg [I size,R]):=rfl;simp only[Aj0,Ah O.at',i2];refine Az U ?_;obtain⟨r2,H4,⟨rfl,q4,h4,Q⟩,ah⟩:=Xd h3 Y to ((k:Int)*8) (b:=Hw size l ((k:Int)*8) 8) (by omega) hr;refine bC_of ah ?_;have q1:Ar .add (I ((k:Int)*8)) (I 8)=some (I (((k+1:Nat):Int)*8)):=by rw[Au (by omega) (by omega)];congr 3;omega
 simp only[Ad0,q1];refine ab n _ _ _ _ _ _ _ _ _ (by omega) ⟨k+1,_,q4,_,(Kp (k:Int) L).2,by omega,rfl,rfl,rfl,rfl,rfl,rfl,rfl,rfl,h4,f3.trans Q,w4.mono (by omega),aa.step Q,O.step Q,p3,λx V=>by have:=(p4 x V).1;omega,λp h1 o=>by rw[p2 p (by omega)];exact M p (by omega) o,?_⟩;by_cases G:(BD s' to ((k:Int)*8) (Hw size l ((k:Int)*8) 8)).1.2=0
 ·rw[if_neg (λz=>z G)];rw[if_neg (λz=>z G)]at d;exact d
 ·rw[if_pos G];rw[if_pos G]at d;exact d
theorem Axc (hl:Bool)(s:StS)(nm:Tx)(c:I5)(h:hl=true\/c.1<=32768):UC hl s nm c=lZ (CE s nm).2.1 c.1 (if(CE s nm).1≠0 then((CE s nm).1,(CE s nm).2.2)else dL hl (CE s nm).2.1 c (CE s nm).2.2):=by
  unfold UC lZ
  rw [if_neg (λz=>h.elim (λh=>by rw [h] at z; simp at z) λh=>by omega)]
  by_cases a:(CE s nm).1=0
  · simp[a]
  · simp[a]
end Go.Proofs.YtbppnhenlboefaaGreat.Av
end
section
set_option maxHeartbeats 2000000
namespace Go.Proofs.YtbppnhenlboefaaGreat.Av
open Go Go.RowKit Go.Proofs.Tryz
def Abi (op:List (Tx×Tx))(e:List Tx)(d:Tx):Option (Tx×Tx×Tx):=match e with
 | [a,b]=>if a=b\/¬(∀c∈op,c.1=gN)\/¬E9 d\/¬(∀c∈op,E9 c.2)then none else some (a,b,d)
 | _=>none
theorem Axd {op:List (Tx×Tx)}{a:List Tx}{b:Tx}(h:a.length≠2):Abi op a b=none:=by
 unfold Abi;split
 ·exact absurd rfl h
 ·rfl
theorem Axe {op:List (Tx×Tx)}{g:List Tx}{c:Tx}{n:Nat}{A C L y:AV}{H:AH}{x:Bool}{K:AV->AH->Prop}(l:H[n]?=some (some (.cells [L,y])))(N:Ac H 2 L=some (op.flatMap D0,op.length))(J:Ac H 1 y=some (g.flatMap BT,g.length))(hl:op.length<=1000000)
  (j:(x=true->Abi op g c=none)->Ef A C (.ptr n 0) (S (Ax c)) (B true) H K)
  (Q:∀a b,x=true->g=[a,b]->Abi op g c=some (a,b,c)->Ef A C (.ptr n 0) (S (Ax c)) (B false) H K):
  CM A C (.ptr n 0) (B x) (S (Ax c)) H K:=by
 have s:(true==false)=false:=rfl;have M:(false==true)=false:=rfl;rw[UU];unfold LV;cases x with
 | false=>
  simp only[AJ,Ac7,Ad5,Qb,s,AT,FN,Ao];exact j (λh=>by simp at h)
 | true=>
 simp only[AJ,Ad7,Ab5,Ai9,Ah l,Bt J,Bz,Ao];by_cases D:(g.length:Int)=2;rotate_left
 ·simp only[D,Aa0,Aa2,Ad5,Qb,s,AT,FN,Ao];exact j (λ_=>Axd (by omega))
 obtain⟨a,b,rfl⟩:∃a b,g=[a,b]:=by
  match g,D with
  | [a,b],_=>exact⟨a,b,rfl⟩
  | [],h=>simp at h
  | [_],h=>simp at h
  | _::_::_::_,h=>simp only[Al4]at h;omega
 obtain⟨U,F,V⟩:=Acj (k:=0) J rfl;obtain⟨W,G,X⟩:=Acj (k:=1) J rfl;have F:AY 1 y (I 0)=some U:=F;have G:AY 1 y (I 1)=some W:=G;simp only[D,Pr,Ah9,Ai5,Ah l,Ae,Aa7,F,V,G,X,DC];have q:Abi op [a,b] c=if a=b\/¬(∀d∈op,d.1=gN)\/¬E9 c\/¬(∀d∈op,E9 d.2)then none else some (a,b,c):=rfl
 by_cases t:a=b
 ·simp only[t,Aa2,Ad5,Qb,s,AT,FN,Ao];exact j (λ_=>by rw[q,if_pos (.inl t)])
 have P:W6 1 1 (Bx [(.lit (.string ⟨#[]⟩))] 1) [(0,1,(.lit (.string ⟨#[115,112,97,114,115,101]⟩)))]=some (.imm [S (Ax gN)] 1 1):=rfl;obtain⟨r,H',⟨rfl,rfl⟩,R⟩:=Awg (key:=gN) (w:=.imm [S (Ax gN)] 1 1) N hl rfl;simp only[t,B8,Do,Ah3,Ah l,BH,P,Hu];refine bC_of R ?_;simp only[AJ,Ad5,Ah0];by_cases u:∀d∈op,d.1=gN;rotate_left
 ·have E:decide (∀d∈op,d.1=gN)=false:=decide_eq_false u;simp only[E,Ac7,Ad5,Qb,s,AT,FN,Ao];exact j (λ_=>by rw[q,if_pos (.inr (.inl u))])
 have Y:(AV.lit (.string ⟨#[97,117,116,111]⟩))=S (Ax GM):=rfl;have Z:(AV.lit (.string ⟨#[97,108,119,97,121,115]⟩))=S (Ax JS):=rfl;have tc:(AV.lit (.string ⟨#[110,101,118,101,114]⟩))=S (Ax bQ):=rfl;have E:decide (∀d∈op,d.1=gN)=true:=decide_eq_true u;simp only[Y,Z,tc,E,Ad7,Ai5,JR];obtain⟨r,H',⟨rfl,rfl⟩,T⟩:=Awf N hl;have i:E9 c->bC (Ba0 67 [L] H') (λaa O=>bO (D5 .not aa) λab=>bO (A0 (B false) (B true) ab) λad=>Ef A C (.ptr n 0) (S (Ax c)) ad O K):=by
  intro f;refine bC_of T ?_;simp only[AJ,Aa,Ah0];by_cases v:∀d∈op,E9 d.2
  ·have e:decide (∀d∈op,E9 d.2)=true:=decide_eq_true v;simp only[e,At6];exact Q a b rfl rfl (by rw[q,if_neg (λz=>z.elim t λz=>z.elim (λz=>z u) λz=>z.elim (λz=>z f) λz=>z v)])
  ·have e:decide (∀d∈op,E9 d.2)=false:=decide_eq_false v;simp only[e,As2];exact j (λ_=>by rw[q,if_pos (.inr (.inr (.inr v)))])
 simp only[Aa,Ah0]at i;by_cases m:c=GM
 ·have f:E9 c:=.inl m;simp only[m,Pr,Ah9,M,AT,Ai5,Ah l,Ae,BH,Hu]at i|-;exact i (m▸f)
 simp only[m,Aa0,Af1,Ad5,JR];by_cases o:c=JS
 ·have f:E9 c:=.inr (.inl o);simp only[o,not_true_eq_false,Ah9,M,AT,Ai5,Ah l,Ae,BH,Hu]at i|-;exact i (o▸f)
 simp only[o,Aa0,Af1,Ad5,JR];by_cases p:c=bQ
 ·have f:E9 c:=.inr (.inr p);simp only[p,not_true_eq_false,B8,Ah3,An,Do,Ah l,BH,Hu]at i|-;exact i (p▸f)
 have f:¬E9 c:=λz=>z.elim m λz=>z.elim o p;simp only[p,not_false_eq_true,Aa2,s,AT,FN];exact j (λ_=>by rw[q,if_pos (.inr (.inr (.inl f)))])
end Go.Proofs.YtbppnhenlboefaaGreat.Av
end
section
set_option maxHeartbeats 2000000
namespace Go.Proofs.YtbppnhenlboefaaGreat.Av
open Go Go.RowKit Go.Proofs.Tryz
def Adj (a b C f k c:AV)(H:AH)(K:AV->AH->Prop):Prop:=bO (D5 .not c) λd=>bG d true λz=>gO z (some f) λo=>bG d true λA=>gO A (Ar .gtr o (I 32768)) λp=>bO (A0 d p (B false)) λq=>bB q λm=>bI m (bO (Dy [(I 0),(.lit (.string ⟨#[]⟩)),(I 0),(I 0),(I 0),(I 0),(I 0)] [(0,1,(I 4))]) λr=>bS (AU 7 H b r) λg=>bO (Aq true 7 g b) λs=>K s g) (bO (Ab 1 C) λt=>bO (Aq false 1 H t) λu=>bO (AY 1 u (I 1)) λv=>bO (Aq false 1 H v) λw=>bC (Ba0 68 [a,w,(B true)] H) λi h=>bO (Ak i 0) λe=>bO (Ak i 1) λj=>bO (Ar .eql j (I 0)) λx=>bB x λn=>bI n (bC (Ba0 71 [a,e,(I 0)] h) λy l=>C6 a b y f k c e l K) (C6 a b j f k c e h K))
theorem Axf {N : Nat} {s : StS} {b a n l : Nat} {m q R vo C : AV} {hl : Bool} {c : I5} {L d : Tx} {g H : AH} (h : DsAt s b q H) (y : SW N s) (t : StF b m q g H) (v : g.length<=a) (o : Bes a zA b q H) (T : Bes n [vo,C] b q H) (E : Bes l [I c.1,R] b q H) (Y : Ac H 1 C=some ([L,d].flatMap BT,[L,d].length)) (G : SV AB 9 c.2 R) (K : CZ c.1 c.2) (J : c.2.length<=1000000) (hN : N + 9 * c.2.length + 9 * 4096 + 200 < 900000) (hB : d.length<=1000000) :
    Adj (.ptr b 0) (.ptr a 0) (.ptr n 0) (I c.1) (.ptr l 0) (B hl) H (KR (UC hl s d c) b m g):=by
  have tf:(true==false)=false:=rfl;have U:(false==true)=false:=rfl;obtain⟨W,z,X⟩:=Acj (k:=1) Y rfl;have z:AY 1 C (I 1)=some W:=z;unfold Adj
  have go : (hl=true\/c.1<=32768)->(bO (Ab 1 (.ptr n 0)) λaa=>bO (Aq false 1 H aa) λab=>bO (AY 1 ab (I 1)) λad=>bO (Aq false 1 H ad) λae=>
      bC (Ba0 68 [.ptr b 0,ae,(B true)] H) λM D=>
      bO (Ak M 0) λA=>bO (Ak M 1) λP=>bO (Ar .eql P (I 0)) λaf=>bB af λZ=>bI Z (
      bC (Ba0 71 [.ptr b 0,A,(I 0)] D) λag S=>C6 (.ptr b 0) (.ptr a 0) ag (I c.1) (.ptr l 0) (.lit (.bool hl)) A S (KR (UC hl s d c) b m g))
       (C6 (.ptr b 0) (.ptr a 0) P (I c.1) (.ptr l 0) (.lit (.bool hl)) A D (KR (UC hl s d c) b m g))):=by
    intro x;simp only[Ab5,Ah T.at',z,X];obtain⟨r,H1,⟨rfl,q1,F,f⟩,w⟩:=cP h y (by omega) (name:=d) (by omega) true;refine bC_of w ?_;have Q:=SQ y d true;have i:=Axc hl s d c x;have j:=iN y d;unfold CE at i j;generalize Bf s d true=O at*;simp only[Ab4,Bu];by_cases e:O.1.2=0
    · simp only[e,Ab8]at i j;simp only[e,Ab7];obtain⟨r,H2,⟨rfl,q2,V,u⟩,w⟩:=cQ F Q (by omega) O.1.1 0;refine bC_of w ?_;rw[J9];unfold Gj;rw[JA];unfold Gk;rw[i];refine Akl V j ((t.trans f).trans u) v ((o.step f).step u) ((E.step f).step u) G K J (by omega) x rfl
    · simp only[e,Aa0,if_true]at i j;simp only[e,Aa8];rw[J9];unfold Gj;rw[JA];unfold Gk;rw[i];refine Akl F Q (t.trans f) v (o.step f) (E.step f) G K J (by omega) x ?_;rw[if_pos e];unfold lZ;simp only[Aa0,e,if_true]
  cases hl with
  | true=>
    simp only[AJ,Aa3,Af5,A7,U];exact go (.inl rfl)
  | false=>
    simp only[AJ,Ac7,Ab9,Ai9,C8];by_cases p:32768<c.1
    · simp only[p,Ab7];have:UC false s d c=(4,s):=by unfold UC;rw[if_pos ⟨rfl,p⟩]
      rw[this];exact tK (RES:=(4,s)) h t o v rfl
    · simp only[p,Aa8];exact go (.inr (by omega))
theorem Axg {j a n f:Nat}{R:AV}{c:I5}{d:Tx}{H:AH}{K:AV->AH->Prop}(E:H[f]?=some (some (.cells [I c.1,R])))(p:SV AB 9 c.2 R)(O:CZ c.1 c.2)(ab:c.2.length<=1000000)
  (tail:Adj (.ptr j 0) (.ptr a 0) (.ptr n 0) (I c.1) (.ptr f 0) (B (decide (Lz d c))) H K):
  Hp (.ptr j 0) (.ptr a 0) (.ptr n 0) (S (Ax d)) (I c.1) (.ptr f 0) (I 0) (I 0) H K:=by
 have tf:(true==false)=false:=rfl;have G:(false==true)=false:=rfl;obtain⟨m1,m2,Q,T,-⟩:=T9.1 O;have L:=oE (size:=c.1) Q;refine RE (λm s z A C u v w y H'=>∃k:Nat,k+m=c.2.length/\s=.ptr j 0/\z=.ptr a 0/\A=.ptr n 0/\C=S (Ax d)/\u=I c.1/\v=.ptr f 0/\w=I (rM c.1 (c.2.take k))/\y=I k/\H'=H) ?_ c.2.length ⟨0,by omega,rfl,rfl,rfl,rfl,rfl,rfl,rfl,rfl,rfl⟩;rintro m s z A C u v w y H' D J ⟨k,hk,rfl,rfl,rfl,rfl,rfl,rfl,rfl,rfl,rfl⟩;unfold KV;simp only[Ab5,Ah E,p.len,AM,Af];rcases Aj5 k c.2.length with q | N
 ·have o:=Dq q;have r:=Ar0 q;generalize c.2[k]=x at o r;have ad:=T x.no ⟨x,r,rfl⟩;have hs:=Awo c.1 (c.2.take k) x;rw[<- EK o]at hs;have M:=Awp c.1 (c.2.take k);rw[Aj4]at M;have Z:∀t,Ab 0 (.ip (AB x++t))=some (.ip (AB x++t)):=λ_=>rfl;have P:∀t,Aq false 1 H' (.ip (AB x++t))=some (I x.no):=λ_=>rfl;have U:Ar .add (I (k:Int)) (I 1)=some (I ((k+1:Nat):Int)):=by rw[Au (by omega) (by omega)];congr 3
  have V:Ar .add (I (rM c.1 (c.2.take k):Int)) (I 1)=some (I ((rM c.1 (c.2.take k)+1:Nat):Int)):=by rw[Au (by omega) (by omega)];congr 3
  have next:EY D (.ptr j 0) (.ptr a 0) (.ptr n 0) (S (Ax d)) (I c.1) (.ptr f 0) (I (rM c.1 (c.2.take (k+1)))) (I (k:Int)) H' K:=by rw[TS];unfold KQ;simp only[U,Aa];exact J (m - 1) _ _ _ _ _ _ _ _ _ (by omega) ⟨k+1,by omega,rfl,rfl,rfl,rfl,rfl,rfl,rfl,rfl,rfl⟩
  simp only[show(k:Int)<(c.2.length:Int) by omega,Ab7,p.idx AD o rfl,Z,P,Ac1,Dp (a:=x.no) (b:=8) (by omega) (by omega)];by_cases i:x.no*8<c.1
  ·rw[if_pos i]at hs;rw[hs]at next;simp only[i,Aj0,V];exact next
  ·rw[if_neg i]at hs;rw[hs]at next;simp only[i,Aa8];exact next
 ·have F:c.2.take k=c.2:=Aj3 N;rw[F,L];have tb:(AV.lit (.string ⟨#[97,108,119,97,121,115]⟩))=S (Ax JS):=rfl;have ta:(AV.lit (.string ⟨#[97,117,116,111]⟩))=S (Ax GM):=rfl;have aa:=PP c.1 c.2;have W:Ar .add (I c.1) (I 8)=some (I (c.1+8)):=Au (by omega) (by omega);have X:Ar .sub (I (c.1+8)) (I 1)=some (I (c.1+8 - 1)):=B4 (by omega) (by omega);have Y:Ar .quo (I (c.1+8 - 1)) (I 8)=some (I (Le c.1)):=by rw[JQ (by omega) (by omega) (by omega)];unfold Le;congr 3;omega
  simp only[show ¬(k:Int)<(c.2.length:Int) by omega,Ac4,ta,tb,DC,A7];unfold Adj at tail;by_cases g:d=JS
  ·have e:decide (Lz d c)=true:=decide_eq_true (.inl g);rw[e]at tail;simp only[g,Aa2,tf,Qb,AT,Aa,Ao];exact tail
  simp only[g,B8,Do,Aa];by_cases l:d=GM
  ·have e:decide (Lz d c)=decide (((BM c.1 c.2).length:Int)<Le c.1):=by have:Lz d c↔((BM c.1 c.2).length:Int)<Le c.1:=⟨λh=>h.elim (λe=>absurd e g) λh=>h.2,λh=>.inr ⟨l,h⟩⟩;simp only[this]
   rw[e]at tail;simp only[l,DC,Ad5,Af1,W,X,Y,AM,An];exact tail
  ·have e:decide (Lz d c)=false:=decide_eq_false (λh=>h.elim g λh=>l h.1);rw[e]at tail;simp only[l,DC,Ad5,Ah9,G,AT];exact tail
end Go.Proofs.YtbppnhenlboefaaGreat.Av
end
section
set_option maxHeartbeats 2000000
namespace Go.Proofs.YtbppnhenlboefaaGreat.Av
open Go Go.RowKit Go.Proofs.Tryz
theorem Axh {l:List Tx}{op:List (Tx×Tx)}{c:List Tx}{b:Tx}(h:Qp l=some (op,c))(d:(b=GM/\∀a∈op,a.1≠gN)\/∃(k:Nat) (a:Tx×Tx),b=a.2/\op[k]?=some a/\a.1=gN/\∀m y,k<m->op[m]?=some y->y.1≠gN):ON l=Abi op c b:=by
 unfold ON;rw[h];exact Awi d
theorem Axi {N Bd:Nat}{s:StS}{g:Nat}{q v:AV}{H:AH}{l:List Tx}(h:DsAt s g q H)(o:SW N s)(hB:∀i,(Ay s i).1.2.length<=Bd)(hN:N+9*Bd+9*4096+300<900000)
  (hv:Ac H 1 v=some (l.flatMap BT,l.length)) (hb:∀t∈l,t.length<=1000000) (hl:l.length<=1000000):
  ∃r H',KR (rN s l) g q H r H'/\Ba0 34 [.ptr g 0,v] H r H':=Y2 (by
 unfold Tl;have e1:AE H (.agg [(I 0),(.lit (.string ⟨#[]⟩)),(I 0),(I 0),(I 0),(I 0),(I 0)])=some (.ptr H.length 0,H++[some (.cells zA)]):=rfl;have W:=Grew.app H [some (AObj.cells zA)];have b1:=Bes.newD h zA;have bg:=h.os_lt;have a3:=h.p_lt;simp only[e1,A6];have a4:=W.slice hv;have h1:=h.grew W;have f1:StF g q q H (H++[some (AObj.cells zA)]):=.of_grew W;have l1:(H++[some (AObj.cells zA)]).length=H.length+1:=by simp
 generalize (H++[some (AObj.cells zA)])=H1 at*;obtain⟨r,e,⟨hr,a5,a6⟩,j⟩:=Awh a4 hb hl;refine bC_of j ?_;have X:Grew H1 e:=⟨a5,a6⟩;have b3:=b1.grew X;have h3:=h1.grew X;have f3:=f1.grew X;have K:H.length<=H.length:=Aj7 _
 have ak:∀(T:Bool) (op:List (Tx×Tx)) (rs:List Tx) (vo vr:AV),r=.tup [.agg [vo,vr],B T]->Ac e 2 vo=some (op.flatMap D0,op.length)->Ac e 1 vr=some (rs.flatMap BT,rs.length)->oneA vo=true->oneA vr=true->(∀i∈Ba vo,H1.length<=i)->(∀i∈Ba vr,H1.length<=i)->op.length<=1000000->(∀t∈rs,t.length<=1000000)->
   (∀b,((b=GM/\∀a∈op,a.1≠gN)\/∃(k:Nat) (a:Tx×Tx),b=a.2/\op[k]?=some a/\a.1=gN/\∀m y,k<m->op[m]?=some y->y.1≠gN)->ON l=if T=true then Abi op rs b else none)->
   (bO (Ak r 0) λv4=>bO (Ak r 1) λv5=>bH (AE e (.agg [Ad,Ad])) λV H7=>bS (AU 2 H7 V v4) λH8=>bO (Ab 0 V) λv9=>bO (Aq false 1 H8 v9) λbb=>
    bC (Ba0 65 [bb,(.lit (.string ⟨#[115,112,97,114,115,101]⟩))] H8) λam ab=>bO (Ak am 0) λbd=>bO (Ak am 1) λbe=>bO (D5 .not be) λbf=>bB bf λba=>bI ba (
    CM (.ptr g 0) (.ptr H.length 0) V v5 (.lit (.string ⟨#[97,117,116,111]⟩)) ab (KR (rN s l) g q H))
    (CM (.ptr g 0) (.ptr H.length 0) V v5 bd ab (KR (rN s l) g q H))):=by
  intro T op rs vo vr hr so sr oo ow io Q ai aj a2;subst hr;have n1:AE e (.agg [Ad,Ad])=some (.ptr e.length 0,e++[some (.cells [Ad,Ad])]):=rfl;have n2:AU 2 (e++[some (.cells [Ad,Ad])]) (.ptr e.length 0) (.agg [vo,vr])=some (e++[some (.cells [vo,vr])]):=by rw[AG (n:=2) (xs:=[vo,vr]) (cs:=[Ad,Ad]) (by simp[oo,ow]) BE rfl (by simp)];simp[Bb]
  have u:=Grew.app e [some (AObj.cells [vo,vr])];have b4:=b3.grew u;have h4:=h3.grew u;have f4:=f3.grew u;have L:=Bes.newD h3 [vo,vr];have al:=u.slice so;have U:=u.slice sr;simp only[Ad0,n1,Ad2,n2];generalize (e++[some (AObj.cells [vo,vr])])=H4 at*;generalize e.length=n at*;have tS:(AV.lit (.string ⟨#[115,112,97,114,115,101]⟩))=S (Ax gN):=rfl;have tA:(AV.lit (.string ⟨#[97,117,116,111]⟩))=S (Ax GM):=rfl;simp only[Ab1,Ah L.at',BH,tS,tA]
  have go:∀b:Tx,((b=GM/\∀a∈op,a.1≠gN)\/∃(k:Nat) (a:Tx×Tx),b=a.2/\op[k]?=some a/\a.1=gN/\∀m y,k<m->op[m]?=some y->y.1≠gN)->
    CM (.ptr g 0) (.ptr H.length 0) (.ptr n 0) (B T) (S (Ax b)) H4 (KR (rN s l) g q H):=by
   intro b hm;have hp:=a2 b hm;refine Axe L.at' al U ai ?_ ?_
   ·intro au;have az:ON l=none:=by
     rw[hp];split
     ·rename_i aa;exact au aa
     ·rfl
    have f:rN s l=(2,s):=by unfold rN;rw[az]
    rw[KU];unfold GH;simp only[Af,Am];rw[f];exact tK (RES:=(2,s)) h4 f4 b4 K rfl
   ·rintro x y aa rfl ax;have a1:ON l=some (x,y,b):=by rw[hp,if_pos aa];exact ax
    have f:rN s l=if(Bf s x false).1.2≠0 then((Bf s x false).1.2,(Bf s x false).2)else OJ (Bf s x false).2 (Bf s x false).1.1 y b:=by unfold rN;rw[a1]
    have lx:=aj x (by simp);have ly:=aj y (by simp);obtain⟨p0,p1,p2⟩:=Acj (k:=0) U rfl;have p1:AY 1 vr (I 0)=some p0:=p1;rw[KU];unfold GH;simp only[Af,Ag];rw[UV];unfold LW;simp only[Ab5,Ah L.at',p1,p2];obtain⟨r,H5,⟨rfl,q5,C,O⟩,j⟩:=cP h4 o (by omega) (name:=x) (by omega) false;refine bC_of j ?_;rw[Adh]at f C;have b5:=b4.step O;have an:=L.step O;have ae:=f4.trans O;have a7:Ac H5 1 vr=some ([x,y].flatMap BT,[x,y].length):=Ai U λi Z=>O.same i (A5 U i Z) (by have:=Q i Z;omega) λz=>by have:=Q i Z;have:=a3 i z;omega
    simp only[Adh,Ad0]at f C|-;generalize Cx s x=F at*;rw[UW];unfold LX;simp only[Bz,Aa];rw[TL];unfold KI;simp only[Af];by_cases M:F.2=0;rotate_left
    ·rw[if_pos M]at f;simp only[M,Af7];rw[f];exact tK (RES:=(F.2,s)) C ae b5 K rfl
    rw[if_neg (λz=>z M)]at f;simp only[M,Ai3];rw[UX];unfold LY;obtain⟨r,J,⟨rfl,w⟩,j⟩:=Aki C o (by omega) F.1;refine bC_of j ?_;have b6:=b5.grew w;have ao:=an.grew w;have D:=C.grew w;have af:=ae.grew w;have a8:=w.slice a7;unfold OJ at f;have ar:=hB F.1;simp only[Ad0];rw[TM];unfold KJ;simp only[Bz,Aa];rw[TO];unfold KL;simp only[Af];by_cases p:(Ay s F.1).2=0;rotate_left
    ·rw[if_pos p]at f;simp only[p,Af7];rw[f];exact tK (RES:=((Ay s F.1).2,s)) D af b6 K rfl
    rw[if_neg (λz=>z p)]at f;obtain⟨d,hd,aw,av,-⟩:=Fr o p;have ah:=o.now.1.mc d hd;obtain⟨gn,-⟩:=T5 o.now.1 hd;rw[aw]at gn;simp only[p,Ai3];rw[TN];unfold KK;obtain⟨na,nb,nc,nd,pv,Y⟩:=D;obtain⟨R,P,ag⟩:=jV Y.now (o.now.sm (by omega)) F.1;rw[gn]at P ag;rw[av]at f ar|-;have oR:=SV.oneA P;simp only[Ag0,Ah Y.obj,Aac];refine Az ag ?_;obtain⟨m1,m2⟩:=Aw8 J d.size oR;simp only[Ad0,m1,Ad2,m2];have D:DsAt s g q5 J:=⟨na,nb,nc,nd,pv,Y⟩;have A:=Grew.app J [some (AObj.cells [I d.size,R])];have bc:=Bes.newD D [I d.size,R];have b7:=b6.grew A;have ap:=ao.grew A;have h7:=D.grew A;have aq:=af.grew A;have a9:=A.slice a8;generalize (J++[some (AObj.cells [I d.size,R])])=H7 at*;rw[TP];unfold KM;rw[TQ];unfold KN;rw[TR];unfold KP;rw[f];exact Axg (c:=(d.size,d.l)) bc.at' P ah (by omega) (Axf (c:=(d.size,d.l)) h7 o aq K b7 ap bc a9 P ah (by omega) (by omega) ly)
  obtain⟨r,H',⟨hf,rfl⟩,j⟩:=Awe al ai gN;refine bC_of j ?_;rcases hf with⟨rfl,ay⟩ | ⟨k,a,rfl,k1,k2,k3⟩
  ·simp only[Ae4,Aa4];exact go GM (.inl ⟨rfl,ay⟩)
  ·simp only[Ae4,Aa3];exact go a.2 (.inr ⟨k,a,rfl,k1,k2,k3⟩)
 cases E:Qp l with
 | none=>
  rw[E]at hr;have hr:r=.tup [.agg [Ad,Ad],B false]:=hr;exact ak false [] [] Ad Ad hr rfl rfl rfl rfl (by simp[Ba]) (by simp[Ba]) (by simp) (by simp) (λb _=>by rw[if_neg (by simp)];unfold ON;rw[E])
 | some z=>
  obtain⟨op,rs⟩:=z;rw[E]at hr;obtain⟨vo,vr,hr,so,sr,oo,ow,io,Q⟩:=hr;have G:=E;unfold Qp at G;split at G
  ·cases G
  ·exact ak true op rs vo vr hr so sr oo ow io Q (by have:=V5 G;simp only[Ap0]at this;omega) (λt ht=>(V6 G t ht).elim (λz=>by simp at z) (hb t)) (λb hm=>by rw[if_pos rfl];exact Axh E hm))
theorem xU {N:Nat}{s:StS}{u:Nat}{p v:AV}{H:AH}(h:DsAt s u p H)(Z:SW N s)(hN:N<=900000){l:List Int}(aw:AW v=some (I l.length))(au:∀Hx:AH,(∀i∈Ba v,Hx[i]?=H[i]?)->∀(j:Nat) (z:Int),l[j]?=some z->∃q,AY 1 v (I j)=some q/\Aq false 1 Hx q=some (I z))(a9:∀i∈Ba v,i<H.length/\i≠u/\i∉Ba p)(hl:l.length<=1000000):
  ∃r H',(r=I (Nc s l).1/\∃p',DsAt (Nc s l).2 u p' H'/\StF u p p' H H')/\Ba0 122 [.ptr u 0,v] H r H':=Sr (by
 unfold LQ;obtain⟨a0,b0,c0,d0,bj,aj⟩:=id h;simp only[Ac9,Ah aj.obj,A7];cases ho:s.off with
 | true=>
  have e:Nc s l=(8,s):=by
   have:AL s=(false,s):=by unfold AL;rw[if_pos (.inl ho)];congr 1;cases s;simp only at ho;subst ho;rfl
   unfold Nc;rw[this];rfl
  rw[e];simp only[show((true==false)=false)from rfl,AT,FN,Af8,Am];exact⟨by trivial,p,h,.refl _ _ _⟩
 | false=>
 obtain⟨r,G,⟨rfl,J,f1⟩,hc⟩:=Akg h Z.armed;simp only[Do,Hu,Aa];refine bC_of hc ?_;obtain⟨e1,e2,X,e4,e5⟩:=HZ s;have bg:=mZ Z;have bf:(AL s).2.pend.length<=N:=by rw[X];exact Z.plen
 have ax:∀o∈(AL s).2.pend,xO o:=by rw[X];exact Z.ob
 have av:∃a,Few1 a (AL s).2.kept/\a+N3 (AL s).2.pend<=N:=by rw[e2,X];exact Z.kept
 unfold Nc;rw[<- e2,<- X];simp only[AJ,Ad1];cases hd:(AL s).1 with
 | false=>
  simp only[Aa4,An];exact⟨by trivial,p,J,f1⟩
 | true=>
  clear e1 e2 X e4 e5 hc aj ho;generalize (AL s).2=f at*;simp only[if_true];obtain⟨a,b,c,d,pv,J⟩:=J;have a7:pv.length=f.pend.length:=by rw[<- J.pm,Ak8]
  have ak:∀j∈Ba p,j<G.length:=λj q=>A5 J.ps j q;have ay:u<G.length:=J.lt;have hH:H.length<=G.length:=f1.len;simp only[Aa3];generalize a8:Ld l f.pend (f.kept,[])=res;refine Ns (λm x0 x1 C x6 H'=>∃(k:Nat) (F:uV) (V W:AV) (D:List OpV),k+m=f.pend.length/\x0=.ptr u 0/\v=x1/\x6=I k/\DsC {f with kept:=F} u a b V W p pv H'/\StF u p p G H'/\Ld l (f.pend.drop k) (F,D.map OpV.o)=res/\(∃a,Few1 a F/\a+N3 (D.map OpV.o)+N3 (f.pend.drop k)<=N)/\Ac H' 8 C=some (D.flatMap Jp,D.length)/\Bm C=true/\(∀j∈Ba C,G.length<=j)) ?_ f.pend.length ⟨0,f.kept,c,d,[],by omega,rfl,rfl,rfl,J,.refl _ _ _,a8,by obtain⟨x,y,z⟩:=av;exact⟨x,y,by simp only[Ae5];simp only[N3,Ah7]at*;omega⟩,rfl,rfl,by simp[Ba]⟩;rintro m x0 x1 C x6 A R hR ⟨k,F,V,W,D,hk,rfl,rfl,rfl,K,f2,O,M,ls,lo,Q⟩;have bi:D.length<=N:=by obtain⟨x,-,y⟩:=M;have:=xN (l:=D.map OpV.o);rw[Ak8]at this;omega
  have aq:AW p=some (I (f.pend.length:Nat)):=by rw[<- a7];exact Bt K.ps
  have bc:=f2.len;unfold HG;simp only[Ag8,Ah K.obj,aq,AM];rcases Aj5 k f.pend.length with be | ar
  ·have hx:=Dq (show k<pv.length by omega);generalize pv[k]'(by omega)=x at hx;have an : f.pend[k]? = some x.o:=by rw [<- J.pm,Al2,hx]; rfl
   have ad:f.pend.drop k=x.o::f.pend.drop (k+1):=Cs an;have ag:=ax x.o (Aj2 an);rw[ad]at O M;have ox:=SV.oneA x.h;have kI:(k:Int)<(f.pend.length:Int):=by omega
   obtain⟨pp,q1,q2⟩:=Adc K.ps hx;have n8:AE A (.agg [(I 0),(I 0),(I 0),(I 0),(B false),(.lit (.string ⟨#[]⟩)),(.lit (.string ⟨#[]⟩)),Ad])=some (.ptr A.length 0,A++[some (.cells [I 0,I 0,I 0,I 0,B false,S ⟨#[]⟩,S ⟨#[]⟩,Ad])]):=by simp
   have t8:AU 8 (A++[some (.cells [I 0,I 0,I 0,I 0,B false,S ⟨#[]⟩,S ⟨#[]⟩,Ad])]) (.ptr A.length 0) (.agg (BO x.o x.bv))=some (A++[some (.cells (BO x.o x.bv))]):=by rw[AG (n:=8) (xs:=BO x.o x.bv) (cs:=[I 0,I 0,I 0,I 0,B false,S ⟨#[]⟩,S ⟨#[]⟩,Ad]) (by simp[BO,ox]) (by simp) rfl (by simp)];simp[Bb,BO]
   have g3:=Grew.app A [some (.cells (BO x.o x.bv))];have ap:A1 true 8 (BO x.o x.bv) 0=some (.agg (BO x.o x.bv)):=rfl;have i0:(BO x.o x.bv)[0]?=some (I x.o.kind):=rfl;have i1:(BO x.o x.bv)[1]?=some (I x.o.ino):=rfl;have L:=K.grew g3;have f3:StF u p p G (A++[some (AObj.cells (BO x.o x.bv))]):=f2.grew g3;have ah:=g3.slice ls;have sm:Sm F.1 F.2:=by obtain⟨x,y,z⟩:=M;exact y.sm (by omega)
   have U:(A++[some (AObj.cells (BO x.o x.bv))])[A.length]?=some (some (.cells (BO x.o x.bv))):=BE;have bd:(A++[some (AObj.cells (BO x.o x.bv))]).length=A.length+1:=by simp
   simp only[kI,Ah2,q1,q2,Aa,n8,t8];generalize (A++[some (AObj.cells (BO x.o x.bv))])=H3 at*;simp only[Ab1,Ah U,i0,Bu,A7];have P:ES R (.ptr u 0) v C (I k) (.ptr A.length 0) (B (decide (x.o.kind=1\/x.o.kind=6\/x.o.kind=7))) (I 0) H3 (λr H'=>r=I 0/\∃p',DsAt {f with kept:=res.1,pend:=res.2} u p' H'/\StF u p p' H H'):=by
    refine Mw R (λn y0 y1 y5 y6 y7 y8 y9 H'=>∃j:Nat,j+n=l.length/\y0=.ptr u 0/\v=y1/\C=y5/\y6=I k/\y7=.ptr A.length 0/\y8=B (decide (x.o.kind=1\/x.o.kind=6\/x.o.kind=7\/x.o.ino∈l.take j))/\y9=I j/\H3=H') ?_ l.length ⟨0,by omega,rfl,rfl,rfl,rfl,rfl,by simp,rfl,rfl⟩;rintro n y0 y1 y5 y6 y7 y8 y9 H' T hT ⟨j,g,rfl,rfl,rfl,rfl,rfl,rfl,rfl,rfl⟩;unfold Hf;simp only[aw,Ac1];rcases Aj5 j l.length with ae | ae
    ·have hz:=Dq ae;generalize l[j]=z at hz;have jI:(j:Int)<(l.length:Int):=by omega
     obtain⟨qq,qa,qb⟩:=au H3 (λi hi=>by obtain⟨k1,k2,k3⟩:=a9 i hi;rw[f3.same i (by omega) k2 k3,f1.same i k1 k2 k3]) j z hz;have q2:Ar .add (I (j:Int)) (I 1)=some (I ((j+1:Nat):Int)):=by rw[Au (by omega) (by omega)];congr 3
     have am:l.take (j+1)=l.take j++[z]:=by rw[An5,hz];rfl
     by_cases hs:x.o.kind=1\/x.o.kind=6\/x.o.kind=7\/x.o.ino∈l.take j
     ·simp only[jI,hs,Ad3,Ad5,show((true==false)=false)from rfl,AT,Ao,q2];refine hT (n - 1) _ _ _ _ _ _ _ _ (by omega) ⟨j+1,by omega,rfl,rfl,rfl,rfl,rfl,?_,rfl,rfl⟩;rw[decide_eq_true];rw[am];rcases hs with q | q | q | q
      ·exact .inl q
      ·exact .inr (.inl q)
      ·exact .inr (.inr (.inl q))
      ·exact .inr (.inr (.inr (List.mem_append_left _ q)))
     ·simp only[jI,hs,Ab7,Ah9,Ai9,Ab1,Ah U,i1,qa,qb,Bu,q2];refine hT (n - 1) _ _ _ _ _ _ _ _ (by omega) ⟨j+1,by omega,rfl,rfl,rfl,rfl,rfl,?_,rfl,rfl⟩;rw[am];refine congrArg (fun t:Bool=>(B t:AV)) (decide_eq_decide.2 ?_);simp only[Ac0];constructor
      ·intro q;exact .inr (.inr (.inr (.inr q)))
      ·rintro(q | q | q | q | q)
       ·exact absurd (.inl q) hs
       ·exact absurd (.inr (.inl q)) hs
       ·exact absurd (.inr (.inr (.inl q))) hs
       ·exact absurd (.inr (.inr (.inr q))) hs
       ·exact q
    ·have jI:¬(j:Int)<(l.length:Int):=by omega
     rw[Aj3 ae];simp only[jI,Aa8];by_cases ab:cG l x.o
     ·have af:x.o.kind=1\/x.o.kind=6\/x.o.kind=7\/x.o.ino∈l:=ab;obtain⟨RA,ai,az⟩:=Ym (o:=x.o) (bv:=x.bv) L.kept sm x.h (by have:=ag.1;omega) (by have:=ag.2.1;omega) (by have:=ag.2.2;omega);obtain⟨a',b',rfl,oa,ob⟩:=ai.agg2;simp only[af,Ab7,Ag0,Ah L.obj,(Aac _ _ _ _ _ _ _ _ _).2,Ah U,ap];refine bP_of az ?_;obtain⟨E,f4⟩:=L.set (s':={f with kept:=B6 F.1 F.2 x.o}) L.now ai rfl;simp only[(Adi L.obj oa ob).2,A9];rw[G9];unfold E0;simp only[Au (a:=k) (b:=1) (by omega) (by omega),Aa];refine hR (m - 1) _ _ _ _ _ (by omega) ⟨k+1,_,a',b',D,by omega,rfl,rfl,by simp,E,f3.trans f4,?_,?_,?_,lo,Q⟩
      ·rw[<- O];conv=>rhs;unfold Ld
       rw[if_pos ab]
      ·obtain⟨y,z,w⟩:=M;have e:N3 (x.o::f.pend.drop (k+1))=wt x.o+N3 (f.pend.drop (k+1)):=by simp[N3]
       exact⟨y+wt x.o,z.step x.o,by omega⟩
      ·exact Ai ah λj g=>by have:=Q j g;exact f4.same j (by have:=A5 ah j g;omega) (by omega) (λq=>by have:=ak j q;omega)
     ·have af:¬(x.o.kind=1\/x.o.kind=6\/x.o.kind=7\/x.o.ino∈l):=ab;have eA:Co H3 8 1 (Bx [(I 0),(I 0),(I 0),(I 0),(B false),(.lit (.string ⟨#[]⟩)),(.lit (.string ⟨#[]⟩)),Ad] 1) [(0,8,.agg (BO x.o x.bv))]=some (.sl H3.length 0 1 8 (.ex 1),H3++[some (.cells (Jp x))]):=by simp[Co,Bx,Jp,BO,Qc,ox,Bb]
      have g4:=Grew.app H3 [some (.cells (Jp x))];have bb:B1 (H3++[some (AObj.cells (Jp x))]) 8 (.sl H3.length 0 1 8 (.ex 1))=some (Jp x,1):=AA (by simp[Ac,Jp,BO]);obtain⟨r,H5,a1,a2,a3,a4,a5,a6⟩:=Cn (bytes:=96) (g4.slice ah) lo bb (by omega);simp only[af,Ac4,Ah U,ap,eA,A6,a1];rw[G9];unfold E0;simp only[Au (a:=k) (b:=1) (by omega) (by omega),Aa];have E:=L.grew g4;have f4:=f3.grew g4;have ba:∀j,j<G.length->j∉Ba C:=λj g q=>by have:=Q j q;omega
      have bh:(H3++[some (AObj.cells (Jp x))]).length=H3.length+1:=by simp
      have k5:∀j,j<G.length->H5[j]?=(H3++[some (AObj.cells (Jp x))])[j]?:=λj g=>a5 j (by omega) (ba j g);refine hR (m - 1) _ _ _ _ _ (by omega) ⟨k+1,F,V,W,D++[x],by omega,rfl,rfl,by simp,?_,?_,?_,?_,?_,a2,?_⟩
      ·exact⟨by rw[k5 u ay];exact E.obj,E.now,E.kept,E.pm,Ai E.ps λj g=>k5 j (ak j g),E.po,E.pi⟩
      ·exact⟨by omega,λj g Y aa=>by rw[k5 j g];exact f4.same j g Y aa,λ_ q=>.inl q⟩
      ·rw[<- O];conv=>rhs;unfold Ld
       rw[if_neg ab];simp
      ·obtain⟨y,z,w⟩:=M;have e:N3 (x.o::f.pend.drop (k+1))=wt x.o+N3 (f.pend.drop (k+1)):=by simp[N3]
       exact⟨y,z,by rw[An0];simp only[Af0,gY];omega⟩
      ·simpa using a3
      ·intro j g;rcases a6 j g with q | q
       ·exact Q j q
       ·omega
   by_cases c1:x.o.kind=1
   ·simp only[c1,Aa2,show((true==false)=false)from rfl,AT,Ad5,Ao];simp only[c1,true_or,B3]at P;exact P
   ·by_cases c6:x.o.kind=6
    ·have n1:¬(6:Int)=1:=by omega
     simp only[c6,n1,Af1,B8,show((true==false)=false)from rfl,AT,Ad5,Ah U,Ae,i0,Bu,An];simp only[c6,true_or,or_true,B3]at P;exact P
    ·simp only[c1,c6,Ah9,Ai5,Ah U,Ae,i0,Bu];simp only[c1,c6,false_or]at P;exact P
  ·have kI:¬(k:Int)<(f.pend.length:Int):=by omega
   have ad:f.pend.drop k=[]:=Ak6 ar;rw[ad]at O M;unfold Ld at O;rw[<- O];have e7:AU 1 A (.ptr u 4) C=some (A.set u (some (.cells [a,b,V,W,C,I f.cap,I f.made,I f.armed,B f.off]))):=rE K.obj (by simp) (AI lo);have al:u∉Ba C:=λq=>by have:=Q u q;omega
   simp only[kI,Aa8,e7,A9];refine⟨by trivial,C,⟨a,b,V,W,D,HU K.lt,K.now,K.kept,rfl,Ai ls λj g=>Cc (λe=>al (by rw[e];exact g)),lo,al⟩,?_⟩;refine⟨by rw[Ak4];omega,λj g Y aa=>?_,λj g=>.inr (by have:=Q j g;omega)⟩;rw[Cc (Al6 Y),f2.same j (by omega) Y aa,f1.same j g Y aa])
theorem uY {N:Nat}{s:StS}{a:Nat}{p v:AV}{H:AH}(h:DsAt s a p H)(d:SW N s)(c:N<=900000){l:List Int}(b:SV Za 1 l v)(hl:l.length<=1000000):
  ∃r H',(r=I (Nc s l).1/\∃p',DsAt (Nc s l).2 a p' H'/\StF a p p' H H')/\Ba0 122 [.ptr a 0,v] H r H':=
 xU h d c b.len (λ_ _ j z e=>⟨_,b.idx (λ_=>rfl) e rfl,rfl⟩) (by rw[b.noId];simp) hl
theorem Axj {ns:List Nm}{ds:List Nd}{v:AV}(g:ImV ns ds v)(c:Sm ns ds):∃R,ImV ns ds R/\Ba2 177 [v] R:=by
 have l:=g.noIds;obtain⟨a,b,t,rfl,n,o,rfl⟩:=g;have s:=c.1;have e:=c.2.1;rw[Ak8]at e;obtain⟨r,X,⟨p,q,u,rfl,k,-,m⟩,i⟩:=kB (H:=[]) n o (by omega) e (λd j=>c.2.2.2 d.nd (Al9 j));obtain⟨R,f,h⟩:=m.lend;rw[k]at f;exact BPure.FZ l ⟨_,X,⟨R,h,f⟩,i⟩
theorem pU {bits:List Bool}:∀{r:List OpM} {i:Nat} {x:uV},bits.length<=i->NG bits i r x=x
 | [],i,x,h=>rfl
 | o::r,i,x,h=>by
  unfold NG;have:Xr bits i=false:=by unfold Xr;rw[Ao3 h];rfl
  rw[if_neg (by rw[this];simp)];exact pU (by omega)
theorem Axk {N:Nat}{s:StS}{f:Nat}{p v:AV}{H:AH}(h:DsAt s f p H)(T:SW N s)(hN:N<=900000){l:List Bool}(S:SV rP 1 l v)(hl:l.length<=1000000):
  ∃r H',(r=.tup []/\DsAt (fT s l) f Ad H'/\StF f p Ad H H')/\Ba0 124 [.ptr f 0,v] H r H':=OT (by
 unfold IY;obtain⟨a,b,c,d,K,D⟩:=h;have ba:=T.plen;have ao:=T.ob;have ar:K.length=s.pend.length:=by rw[<- D.pm,Ak8]
 have al:AW p=some (I (s.pend.length:Nat)):=by rw[<- ar];exact Bt D.ps
 unfold fT;generalize au:NG l 0 s.pend s.kept=res;have a9:f<H.length:=D.lt;refine Lo (λm x0 x1 x4 H'=>∃(k:Nat) (q:uV) (i n:AV),k+m=s.pend.length/\x0=.ptr f 0/\v=x1/\x4=I k/\DsC {s with kept:=q} f a b i n p K H'/\StF f p p H H'/\NG l k (s.pend.drop k) q=res/\(∃a,Few1 a q/\a+N3 (s.pend.drop k)<=N)) ?_ s.pend.length ⟨0,s.kept,c,d,by omega,rfl,rfl,rfl,D,.refl _ _ _,au,by simp only[Al8];exact T.kept⟩;rintro m x0 x1 x4 C R hR ⟨k,q,i,n,hk,rfl,rfl,rfl,g,E,A,F⟩;unfold Gf;have sm:Sm q.1 q.2:=by obtain⟨x,y,z⟩:=F;exact y.sm (by omega)
 have L:res=q->bO (Aj (.ptr f 0)) (λaw=>bO (Ab 2 aw) λax=>bO (Aq true 2 C ax) λay=>bC (Ba0 177 [ay] C) λaz ah=>bO (Aj (.ptr f 0)) λa0=>bO (Ab 0 a0) λa1=>bS (AU 2 ah a1 az) λai=>
   bO (Aj (.ptr f 0)) λa2=>bO (Ab 4 a2) λa3=>bS (AU 1 ai a3 Ad) λaj=>bO (Aj (.ptr f 0)) λa4=>bO (Ab 7 a4) λa5=>bS (AU 1 aj a5 (I (-1))) λak=>bO (Aj (.ptr f 0)) λa6=>bO (Ab 8 a6) λa7=>bS (AU 1 ak a7 (B false)) λZ=>
   AV.tup []=.tup []/\DsAt {s with kept:=res,now:=res,pend:=[],off:=false,armed:=-1} f Ad Z/\StF f p Ad H Z):=by
  rintro rfl;obtain⟨RC,ab,aq⟩:=Axj g.kept sm;obtain⟨t,u,rfl,X,Y⟩:=ab.agg2;have J:=g.lt;simp only[Ag0,Ah g.obj,(Aac _ _ _ _ _ _ _ _ _).2];refine bC_of (aq C) ?_;have s1:=(Adi g.obj X Y).1;have c1:(C.set f (some (AObj.cells [t,u,i,n,p,I s.cap,I s.made,I s.armed,B s.off])))[f]?=some (some (.cells [t,u,i,n,p,I s.cap,I s.made,I s.armed,B s.off])):=HU J;have s2:=rE c1 (k:=4) (x:=Ad) (by simp) rfl;have c2:(C.set f (some (AObj.cells [t,u,i,n,Ad,I s.cap,I s.made,I s.armed,B s.off])))[f]?=some (some (.cells [t,u,i,n,Ad,I s.cap,I s.made,I s.armed,B s.off])):=HU J;have s3:=rE c2 (k:=7) (x:=I (-1)) (by simp) rfl;have c3:(C.set f (some (AObj.cells [t,u,i,n,Ad,I s.cap,I s.made,I (-1),B s.off])))[f]?=some (some (.cells [t,u,i,n,Ad,I s.cap,I s.made,I (-1),B s.off])):=HU J;have s4:=rE c3 (k:=8) (x:=B false) (by simp) rfl;simp only[List.set_set,Au7,Au6]at s2 s3 s4;simp only[s1,A9,s2,s3,s4];refine⟨by trivial,⟨t,u,i,n,[],HU J,ab,g.kept,rfl,rfl,rfl,by simp[Ba]⟩,?_⟩;refine⟨by rw[Ak4];exact E.len,λj P ae an=>?_,λj P=>by simp[Ba]at P⟩;rw[Cc (Al6 ae),E.same j P ae an]
 simp only[Ac9,Ah g.obj,al,AM,A7];simp only[Ag0]at L;rcases Aj5 k s.pend.length with a8 | am
 ·have U:=Dq (show k<K.length by omega);generalize K[k]'(by omega)=x at U;have af : s.pend[k]? = some x.o:=by rw [<- D.pm,Al2,U]; rfl
  have O:s.pend.drop k=x.o::s.pend.drop (k+1):=Cs af;have V:=ao x.o (Aj2 af);have G:(k:Int)<(s.pend.length:Int):=by omega
  obtain⟨pp,q1,q2⟩:=Adc g.ps U;rcases Aj5 k l.length with Q | Q
  ·rw[O]at A F;have M:=Dq Q;generalize l[k]=bt at M;have ad:Xr l k=bt:=by unfold Xr;rw[M];rfl
   have W:(k:Int)<(l.length:Int):=by omega
   have q0:∀HH:AH,Aq false 1 HH (.ip (rP bt++(l.drop (k+1)).flatMap rP))=some (B bt):=λ_=>rfl;simp only[G,Ag6,S.len,AM,W,Am,S.idx Atq M rfl,q0];cases bt with
   | true=>
    obtain⟨RA,aa,ap⟩:=Ym (o:=x.o) (bv:=x.bv) g.kept sm x.h (by have:=V.1;omega) (by have:=V.2.1;omega) (by have:=V.2.2;omega);obtain⟨t,u,rfl,X,Y⟩:=aa.agg2;have av:Aq true 8 C pp=some (.agg (BO x.o x.bv)):=q2;simp only[Am,Aa,(Aac _ _ _ _ _ _ _ _ _).2,q1,av];refine bP_of ap ?_;obtain⟨h4,f4⟩:=g.set (s':={s with kept:=B6 q.1 q.2 x.o}) g.now aa rfl;simp only[(Adi g.obj X Y).2,A9];rw[FF];unfold DU;simp only[Au (a:=k) (b:=1) (by omega) (by omega),Aa];refine hR (m - 1) _ _ _ _ (by omega) ⟨k+1,_,t,u,by omega,rfl,rfl,by simp,h4,E.trans f4,?_,?_⟩
    ·rw[<- A];conv=>rhs;unfold NG
     rw[if_pos ad]
    ·obtain⟨y,z,w⟩:=F;have e:N3 (x.o::s.pend.drop (k+1))=wt x.o+N3 (s.pend.drop (k+1)):=by simp[N3]
     exact⟨y+wt x.o,z.step x.o,by omega⟩
   | false=>
    simp only[Ag];rw[FF];unfold DU;simp only[Au (a:=k) (b:=1) (by omega) (by omega),Aa];refine hR (m - 1) _ _ _ _ (by omega) ⟨k+1,q,i,n,by omega,rfl,rfl,by simp,g,E,?_,?_⟩
    ·rw[<- A];conv=>rhs;unfold NG
     rw[if_neg (by rw[ad];simp)]
    ·obtain⟨y,z,w⟩:=F;have e:N3 (x.o::s.pend.drop (k+1))=wt x.o+N3 (s.pend.drop (k+1)):=by simp[N3]
     exact⟨y,z,by omega⟩
  ·have W:¬(k:Int)<(l.length:Int):=by omega
   rw[pU Q]at A;simp only[G,Ag6,S.len,AM,W,Aa8];have:=L A.symm;simp only[Ah g.obj]at this|-;exact this
 ·have G:¬(k:Int)<(s.pend.length:Int):=by omega
  have O:s.pend.drop k=[]:=Ak6 am;rw[O]at A;unfold NG at A;simp only[G,Ag7,show((false==true)=false)from rfl];have:=L A.symm;simp only[Ah g.obj]at this|-;exact this)
theorem Akm {c:List Ext}{ino pos:Int}{b:List UInt8}:∀{l:List Sp} {s:StS},(mS c ino pos b l s).1.2=0->(mS c ino pos b l s).1.1=b.length
 | [],s,h=>rfl
 | q::r,s,h=>by
  unfold mS at h|-;split
  ·rename_i d;rw[if_pos d]at h;simp at h
  ·rename_i d;rw[if_neg d]at h;split
   ·rename_i a;rw[if_pos a]at h;exact absurd h a
   ·rename_i a;rw[if_neg a]at h;exact Akm h
theorem Axl {s:StS}{ino pos:Int}{b:List UInt8}(h:(BD s ino pos b).1.2=0):(BD s ino pos b).1.1=b.length:=by
 unfold BD at h|-;split
 ·rename_i a;rw[if_pos a]at h;exact absurd h a
 ·rename_i a;rw[if_neg a]at h;split
  ·rename_i c;rw[if_pos c]at h;simp at h
  ·rename_i c;rw[if_neg c]at h;exact Akm h
def C2 (s:StS)(ino pos:Int)(b:List UInt8):(Int×Int)×StS:=if b=[]then((0,0),s)else BD s ino pos b
theorem Axm (s:StS)(ino pos:Int)(b:List UInt8):0<=(C2 s ino pos b).1.1/\(C2 s ino pos b).1.1<=b.length:=by
 unfold C2;split
 ·simp
 ·exact gW s ino pos b
theorem Axn {N:Nat}{s:StS}(h:SW N s)(ino pos:Int)(b:List UInt8):SW (N+9*b.length) (C2 s ino pos b).2:=by
 unfold C2;split
 ·exact h.mono (by omega)
 ·exact gX h ino pos b
theorem Axo {b:List UInt8}(a:b≠[])(c:b.length<=4096):BZ b=[b]:=by
 have e:=List.length_pos_iff.2 a;have d:Aab b.length 4096=1:=by unfold Aab;omega
 unfold BZ;rw[d];show [(b.drop (0*4096)).take (min 4096 (b.length - 0*4096))]=[b];rw[Au3,Al8,At1,Nat.min_eq_right c,An6]
theorem Axp {ino:Int}{b:List UInt8}{r:List (List UInt8)}{s:StS}{a m:Int}(c:b.length<=4096):
  pcs ino (BZ b++r) s a m=if(C2 s ino a b).1.2=0 then pcs ino r (C2 s ino a b).2 (a+(C2 s ino a b).1.1) (m+(C2 s ino a b).1.1)else(((C2 s ino a b).2,a+(C2 s ino a b).1.1,m+(C2 s ino a b).1.1),(C2 s ino a b).1.2):=by
 by_cases h:b=[]
 ·subst h;have e:BZ []=[]:=rfl;have p:C2 s ino a []=((0,0),s):=if_pos rfl;rw[e,p,Ao4];simp
 ·have p:C2 s ino a b=BD s ino a b:=if_neg h;rw[Axo h c,p,List.singleton_append]
  conv=>lhs;unfold pcs
theorem Axq {N:Nat}{s:StS}{a:Nat}{p v:AV}{H:AH}(h:DsAt s a p H)(F:SW N s)(ino pos:Int)(O: -9223372036854775808<=pos/\pos<=9223372036854775807){b:List UInt8}(L:b.length<=4096)(B:N+9*b.length<900000)(i:SV Ft 1 b v):
  ∃r H',(r=.tup [I (C2 s ino pos b).1.1,I (C2 s ino pos b).1.2]/\∃p',DsAt (C2 s ino pos b).2 a p' H'/\StF a p p' H H')/\Ba0 129 [.ptr a 0,I ino,I pos,v] H r H':=PI (by
 unfold J4;refine LO (λm q t u w j H'=>q=.ptr a 0/\t=I ino/\u=I pos/\v=w/\((m=1/\j=I 0/\H=H')\/(m=0/\j=I (b.length:Int)/\(C2 s ino pos b).1=((b.length:Int),0)/\∃p',DsAt (C2 s ino pos b).2 a p' H'/\StF a p p' H H'))) ?_ 1 ⟨rfl,rfl,rfl,rfl,.inl ⟨rfl,rfl,rfl⟩⟩;rintro m q t u w j J R C ⟨rfl,rfl,rfl,rfl,⟨rfl,rfl,rfl⟩ | ⟨rfl,rfl,E,p',hs,f⟩⟩
 ·unfold Ee;simp only[i.len,Ac1];by_cases g:b=[]
  ·have e:C2 s ino pos b=((0,0),s):=if_pos g;have c:¬(0:Int)<(b.length:Int):=by rw[g];simp
   simp only[c,Aa8,e];exact⟨by trivial,p,h,.refl _ _ _⟩
  ·have e:C2 s ino pos b=BD s ino pos b:=if_neg g;have P:=List.length_pos_iff.2 g;have c:(0:Int)<(b.length:Int):=by omega
   have x:Ar .add (I pos) (I 0)=some (I pos):=by rw[Au (by omega) (by omega),Int.add_zero]
   have y:Ar .add (I 0) (I 4096)=some (I 4096):=rfl;have z:amm gZ [I 4096,I (b.length:Int)]=some (I (b.length:Int)):=by rw[JT,pS];congr 3;omega
   obtain⟨T,G,o⟩:=i.cutB (li:=0) (ki:=(b.length:Int)) (l:=0) (k:=b.length) rfl rfl (by omega) (Aj7 _);rw[Al8,At1,An6]at o;obtain⟨r,K,⟨rfl,p',hs,f⟩,D⟩:=Xd h F ino pos B o;have M:=gW s ino pos b;have A:Ar .add (I 0) (I (BD s ino pos b).1.1)=some (I (BD s ino pos b).1.1):=by rw[Au (by omega) (by omega),Int.zero_add]
   simp only[c,Aj0,x,y,z,G];refine bC_of D ?_;simp only[Ae6,A];by_cases d:(BD s ino pos b).1.2=0
   ·have n:=Axl d;simp only[d,Ai3];refine C 0 _ _ _ _ _ _ (by omega) ⟨rfl,rfl,rfl,rfl,.inr ⟨rfl,by rw[n],by rw[e];exact Prod.ext n d,p',by rw[e];exact hs,f⟩⟩
   ·simp only[d,Af7,e];exact⟨by trivial,p',hs,f⟩
 ·unfold Ee;have c:¬(b.length:Int)<(b.length:Int):=by omega
  simp only[i.len,Aj1,c];exact⟨by rw[E],p',hs,f⟩)
structure Obj (x:Nat)(cs:List AV)(os od fo:Nat)(p q:AV)(H:AH):Prop where
 at':H[x]?=some (some (.cells cs))
 n1:x≠os
 n2:x≠od
 n3:x≠fo
 n4:x∉Ba p
 n5:x∉Ba q
section
variable {s s' t t' : StS} {os od fo x : Nat} {ino a a2 : Int} {p p' q q' : AV} {H H' : AH} {cs : List AV}
end
end Go.Proofs.YtbppnhenlboefaaGreat.Av
end
section
namespace Go.Proofs.YtbppnhenlboefaaGreat.Av
open Go Go.RowKit Go.Proofs.Tryz
def mO (ino:Int):List (List UInt8)->StS->Int->Int×StS
 | [],s,_=>(0,s)
 | b::r,s,a=>if(C2 s ino a b).1.2=0 then mO ino r (C2 s ino a b).2 (a+(C2 s ino a b).1.1)else((C2 s ino a b).1.2,(C2 s ino a b).2)
theorem Akn {ino:Int}:∀{l:List (List UInt8)} {s:StS} {a m:Int},(∀b∈l,b.length<=4096)->(pcs ino (l.flatMap BZ) s a m).2=(mO ino l s a).1/\(pcs ino (l.flatMap BZ) s a m).1.1=(mO ino l s a).2
 | [],s,a,m,_=>⟨rfl,rfl⟩
 | b::r,s,a,m,h=>by
  rw[Al5,Axp (h b (by simp))];unfold mO;split
  ·exact Akn λz c=>h z (by simp[c])
  ·exact⟨rfl,rfl⟩
def qM (s:StS)(nm:List UInt8)(l:List (List UInt8)):Int×StS:=
 if(Bf s nm true).1.2≠0 then((Bf s nm true).1.2,(Bf s nm true).2)
 else if(DL (Bf s nm true).2 (Bf s nm true).1.1 0).1≠0 then DL (Bf s nm true).2 (Bf s nm true).1.1 0
 else if(mO (Bf s nm true).1.1 l (DL (Bf s nm true).2 (Bf s nm true).1.1 0).2 0).1≠0 then mO (Bf s nm true).1.1 l (DL (Bf s nm true).2 (Bf s nm true).1.1 0).2 0
 else Nc (mO (Bf s nm true).1.1 l (DL (Bf s nm true).2 (Bf s nm true).1.1 0).2 0).2 [(Bf s nm true).1.1]
theorem Ako {s:StS}{nm:List UInt8}{l:List (List UInt8)}(h:∀b∈l,b.length<=4096):wW s nm (l.flatMap BZ)=qM s nm l:=by
 unfold wW qM;obtain⟨c,d⟩:=Akn (ino:=(Bf s nm true).1.1) (s:=(DL (Bf s nm true).2 (Bf s nm true).1.1 0).2) (a:=0) (m:=0) h;rw[c,d]
def Abj (ino e:Int)(l:List (List UInt8))(s:StS)(a:Int):Int×StS:=
 if e≠0 then(e,s)else if(mO ino l s a).1≠0 then mO ino l s a else Nc (mO ino l s a).2 [ino]
theorem Axr {N:Nat}{s:StS}{b:Nat}{p w:AV}{H:AH}{nm:List UInt8}{bl:List (AV×List UInt8)}(h:DsAt s b p H)(Y:SW N s)(am:nm.length<=9223372036854775807)
  (ak:AW w=some (I bl.length)) (aj:∀E:AH,(∀i∈Ba w,E[i]?=H[i]?)->∀(j:Nat) (x:AV×List UInt8),bl[j]?=some x->∃q,AY 1 w (I j)=some q/\Aq false 1 E q=some x.1) (J:∀i∈Ba w,i<H.length/\i≠b/\i∉Ba p) (hb:∀x∈bl,SV Ft 1 x.2 x.1/\x.2.length<=4096) (ar:bl.length<=1000000) (hN:N+2+9*Nl (bl.map Prod.snd)<900000):
  ∃r H',(r=I (qM s nm (bl.map Prod.snd)).1/\∃p',DsAt (qM s nm (bl.map Prod.snd)).2 b p' H'/\StF b p p' H H')/\Ba0 63 [.ptr b 0,S (Ax nm),w] H r H':=OS (by
 generalize A:qM s nm (bl.map Prod.snd)=RES;unfold IX;obtain⟨r,H1,⟨rfl,p1,U,Q⟩,f⟩:=cP h Y (by omega) am true;have L:=SQ Y nm true;refine bC_of f ?_;have loop:∀(e:Int) (B:StS) (o:AV) (t:AH) (ino:Int),DsAt B b o t->StF b p o H t->SW (N+2) B->Abj ino e (bl.map Prod.snd) B 0=RES->
   Dv (.ptr b 0) w (I ino) (I e) t (λr H'=>r=I RES.1/\∃p',DsAt RES.2 b p' H'/\StF b p p' H H'):=by
  intro e B o t ino G F w2 ah;rw[Mt];unfold Gb;rw[Mu];unfold Gc;rw[Mv];unfold Gd;refine Ln (λn x0 x2 x7 x8 x9 aa H'=>∃(j:Nat) (e a:Int) (s':StS) (p':AV),j+n=bl.length/\x0=.ptr b 0/\w=x2/\x7=I ino/\x8=I e/\x9=I a/\aa=I j/\DsAt s' b p' H'/\StF b p p' H H'/\(∃M,SW M s'/\M+9*Nl ((bl.drop j).map Prod.snd)<900000)/\(0<=a/\a+Nl ((bl.drop j).map Prod.snd)<=1000000)/\Abj ino e ((bl.drop j).map Prod.snd) s' a=RES) ?_ bl.length
   ⟨0,e,0,B,o,by omega,rfl,rfl,rfl,rfl,rfl,rfl,G,F,⟨N+2,w2,by simpa using hN⟩,by simp only[Al8];omega,by simpa using ah⟩
  rintro n x0 x2 x7 x8 x9 aa d R hR ⟨j,e,a,C,p3,X,rfl,rfl,rfl,rfl,rfl,rfl,y,D,⟨M,P,V⟩,W,c⟩;unfold Ge;simp only[ak,Ad5,AM];have Z:Abj ino e [] C a=RES->bO (Ar .neq (I e) (I 0)) (λao=>bB ao λan=>bI an ((λr H'=>r=I RES.1/\∃p',DsAt RES.2 b p' H'/\StF b p p' H H') (I e) d)
    (bH (Co d 1 1 (Bx [(I 0)] 1) [(0,1,I ino)]) λap ab=>bC (Ba0 122 [.ptr b 0,ap] ab) λaq ad=>(λr H'=>r=I RES.1/\∃p',DsAt RES.2 b p' H'/\StF b p p' H H') aq ad)):=by
   intro c;unfold Abj mO at c;simp only[Bz,Aa5];by_cases g:e=0
   ·subst g;simp only[Ab8]at c;have eA:Co d 1 1 (Bx [(I 0)] 1) [(0,1,I ino)]=some (.sl d.length 0 1 1 (.ex 1),d++[some (.cells [I ino])]):=rfl;have T:=Grew.app d [some (AObj.cells [I ino])];have lo:=y.os_lt;have lp:=y.p_lt
    obtain⟨r,H5,⟨rfl,p5,h5,f5⟩,f⟩:=xU (y.grew T) P (by omega) (l:=[ino]) (v:=.sl d.length 0 1 1 (.ex 1)) (by simp) (λE m j z K=>by
     have X:j=0:=by have:=(BG.1 K).1;simp at this;omega
     subst X;simp only[BH,Aq5]at K;subst K;have:=(m d.length (by simp[Ba])).trans BE;exact⟨.ptr d.length 0,rfl,by rw[Ah this];rfl⟩) (by
     intro i k;simp only[Ba,An1]at k;subst k;exact⟨by simp,by omega,λz=>by have:=lp _ z;omega⟩) (by simp)
    simp only[Ai3,eA,A6];refine bC_of f ?_;rw[<- c];exact⟨by trivial,p5,h5,(D.grew T).trans f5⟩
   ·rw[if_pos g]at c;simp only[Af7,g];rw[<- c];exact⟨by trivial,p3,y,D⟩
  rcases Aj5 j bl.length with al | ai
  ·have m:=Dq al;generalize bl[j]=x at m;obtain⟨ae,af⟩:=hb x (Aj2 m);have ag:bl.drop j=x::bl.drop (j+1):=Cs m;rw[ag,Aq7]at V W c;have el:Nl (x.2::(bl.drop (j+1)).map Prod.snd)=x.2.length+Nl ((bl.drop (j+1)).map Prod.snd):=by simp[Nl]
   rw[el]at V W;by_cases g:e=0
   ·subst g;obtain⟨q,i1,i2⟩:=aj d (λi k=>D.same i (J i k).1 (J i k).2.1 (J i k).2.2) j x m;have q2:Ar .add (I (j:Int)) (I 1)=some (I ((j+1:Nat):Int)):=by rw[Au (by omega) (by omega)];congr 3
    obtain⟨r,H4,⟨rfl,p4,h4,f4⟩,f⟩:=Axq y P ino a (by omega) af (by omega) ae;have w4:=Axn P ino a x.2;have hn:=Axm C ino a x.2;have q3:Ar .add (I a) (I (C2 C ino a x.2).1.1)=some (I (a+(C2 C ino a x.2).1.1)):=Au (by omega) (by omega);simp only[show((j:Int)<(bl.length:Int)) by omega,Ag6,Bu,Am,i1,i2];refine bC_of f ?_;simp only[Ad0,q3,q2];refine hR (n - 1) _ _ _ _ _ _ _ (by omega) ⟨j+1,_,_,_,p4,by omega,rfl,rfl,rfl,rfl,rfl,rfl,h4,D.trans f4,⟨_,w4,by omega⟩,by omega,?_⟩;rw[<- c];unfold Abj;simp only[Ab8]
    conv=>rhs;unfold mO
    by_cases f:(C2 C ino a x.2).1.2=0
    ·simp only[f,not_true_eq_false,if_false,if_true]
    ·simp only[f,Af4,if_false]
   ·simp only[show((j:Int)<(bl.length:Int)) by omega,Ag6,Bu,g,Aa8];refine Z ?_;unfold Abj at c|-;rw[if_pos g]at c|-;exact c
  ·have ej:bl.drop j=[]:=Ak6 ai;rw[ej]at c;simp only[show ¬((j:Int)<(bl.length:Int)) by omega,Ag7,show((false==true)=false)from rfl];exact Z c
 unfold qM at A;generalize Bf s nm true=O at*;simp only[Ab4,Bu];by_cases u:O.1.2=0
 ·simp only[u,Ab8]at A;obtain⟨r,t,⟨rfl,o,G,F⟩,f⟩:=cQ U L (by omega) O.1.1 0;simp only[u,Ab7];refine bC_of f ?_;refine loop _ _ o _ _ G (Q.trans F) (RZ L O.1.1 0) ?_;rw[<- A];rfl
 ·rw[if_pos u]at A;simp only[u,Aa8];refine loop _ _ p1 _ _ U Q (L.mono (by omega)) ?_;rw[<- A];unfold Abj;rw[if_pos u])
structure Stp where
 kind:UInt8
 name:UInt8
 to:UInt8
 ino:Int
 pos:Int
 n:Int
 b:List UInt8
 keep:Bool
 bits:List Bool
 inos:List Int
structure StpV where
 s:Stp
 bv:AV
 tv:AV
 iv:AV
 hb:SV Ft 1 s.b bv
 ht:SV rP 1 s.bits tv
 hi:SV Za 1 s.inos iv
def D7 (x:StpV):List AV:=[.lit (.int .u8 x.s.kind.toNat),.lit (.int .u8 x.s.name.toNat),.lit (.int .u8 x.s.to.toNat),I x.s.ino,I x.s.pos,I x.s.n,x.bv,B x.s.keep,x.tv,x.iv]
theorem oQ (x:StpV):(D7 x).length=10:=rfl
theorem Axs (x:StpV):AF (D7 x)=true:=by simp[D7,AF,noIds,x.hb.1,x.ht.1,x.hi.1]
def Vs (x:Stp):Prop:=(60<x.b.length/\x.b.length≠4097)\/(200<x.n/\x.n<=32768)\/200<x.bits.length\/30<x.inos.length
instance (x:Stp):Decidable (Vs x):=by unfold Vs;infer_instance
def Abk (l:List StpV)(a:Int):Prop:=(l.length:Int)<=a/\∀x∈l,¬Vs x.s
instance (l:List StpV) (a:Int):Decidable (Abk l a):=by unfold Abk;infer_instance
theorem Axt (H:AH):AE H (.agg [u0Z,u0Z,u0Z,(I 0),(I 0),(I 0),Ad,(B false),Ad,Ad])=some (.ptr H.length 0,H++[some (.cells [.lit (.int .u8 0),.lit (.int .u8 0),.lit (.int .u8 0),I 0,I 0,I 0,Ad,B false,Ad,Ad])]):=by simp
theorem Axu (H:AH)(x:StpV):AU 10 (H++[some (.cells [.lit (.int .u8 0),.lit (.int .u8 0),.lit (.int .u8 0),I 0,I 0,I 0,Ad,B false,Ad,Ad])]) (.ptr H.length 0) (.agg (D7 x))=some (H++[some (.cells (D7 x))]):=by
 have a:=SV.oneA x.hb;have b:=SV.oneA x.ht;have c:=SV.oneA x.hi;rw[AG (n:=10) (xs:=D7 x) (cs:=[.lit (.int .u8 0),.lit (.int .u8 0),.lit (.int .u8 0),I 0,I 0,I 0,Ad,B false,Ad,Ad]) (by simp[D7,a,b,c]) (by simp) rfl (by simp)];simp[Bb,D7]
theorem rdP (x:StpV)(t:List AV)(H:AH):Aq true 10 H (.ip (D7 x++t))=some (.agg (D7 x)):=rfl
theorem Axv {l:List StpV}{v:AV}(u:SV D7 10 l v)(hl:l.length<=9223372036854775807)(p:Int):Ba2 27 [v,I p] (B (decide (Abk l p))):=BPure.val (by simp[AF,noIds,u.1]) rfl (bY (by
 unfold Wu;simp only[u.len,Aa5,C8];by_cases c0:p<(l.length:Int)
 ·simp only[c0,Ab7];rw[decide_eq_false (λq=>by have:=q.1;omega)]
 ·simp only[c0,Aa8];refine UG (λm x0 x5 H'=>∃j:Nat,j+m=l.length/\v=x0/\x5=I j/\∀(i:Nat) y,i<j->l[i]?=some y->¬Vs y.s) ?_ l.length ⟨0,by omega,rfl,rfl,by omega⟩;rintro m x0 x5 a R hR ⟨j,hj,rfl,rfl,aa⟩;unfold NY;simp only[u.len,Ac1];rcases Aj5 j l.length with ae | ax
  ·have o:=Dq ae;generalize l[j]=x at o;have E:(j:Int)<(l.length:Int):=by omega
   have q2:Ar .add (I (j:Int)) (I 1)=some (I ((j+1:Nat):Int)):=by rw[Au (by omega) (by omega)];congr 3
   have A:(D7 x)[5]?=some (I x.s.n):=rfl;have C:(D7 x)[6]?=some x.bv:=rfl;have D:(D7 x)[8]?=some x.tv:=rfl;have i9:(D7 x)[9]?=some x.iv:=rfl;simp only[E,Ah2,u.idx oQ o rfl,Ab1,rdP,Axt,Axu,Ah BE,C,x.hb.len,C8,A7];have no:Vs x.s->B false=B (decide (Abk l p)):=λh=>by rw[decide_eq_false (λq=>q.2 x (Aj2 o) h)]
   have aw:¬Vs x.s->∀H',R [v,I ((j+1:Nat):Int)] H':=λh H'=>hR (m - 1) _ _ _ (by omega) ⟨j+1,by omega,rfl,rfl,λi y z t=>by
    by_cases e:i=j
    ·subst e;rw[o]at t;injection t with t;subst t;exact h
    ·exact aa i y (by omega) t⟩
   have ad:¬(60<x.s.b.length/\x.s.b.length≠4097)->¬(200<x.s.n/\x.s.n<=32768)->
     bO (some (B false)) (λc=>bG c false λS=>gO S (Ab 8 (.ptr a.length 0)) λG=>bG c false λT=>gO T (Aq false 1 (a++[some (AObj.cells (D7 x))]) G) λH=>bG c false λU=>gO U (AW H) λJ=>bG c false λV=>gO V (Ar .gtr J (I 200)) λK=>
     bO (A0 c (B true) K) λd=>bG d false λW=>gO W (Ab 9 (.ptr a.length 0)) λL=>bG d false λX=>gO X (Aq false 1 (a++[some (AObj.cells (D7 x))]) L) λM=>bG d false λY=>gO Y (AW M) λN=>bG d false λZ=>gO Z (Ar .gtr N (I 30)) λO=>
     bO (A0 d (B true) O) λP=>bB P λF=>bI F (B false=B (decide (Abk l p))) (bO (Ar .add (I j) (I 1)) λQ=>R [v,Q] (a++[some (AObj.cells (D7 x))]))):=by
    intro g f;by_cases k:(200:Int)<(x.s.bits.length:Int)
    ·simp only[Ab1,A7,Af1,Ah BE,D,x.ht.len,C8,k,An,show((true==false)=false)from rfl,AT,Af,Am];exact no (.inr (.inr (.inl (by omega))))
    ·by_cases h4:(30:Int)<(x.s.inos.length:Int)
     ·simp only[Ab1,Ai9,Ah BE,D,x.ht.len,C8,k,Ah9,i9,x.hi.len,h4,Ab7,Af];exact no (.inr (.inr (.inr (by omega))))
     ·simp only[Ab1,Ai9,Ah BE,D,x.ht.len,C8,k,Aa8,Ah0,i9,x.hi.len,h4,Af,q2];exact aw (by rintro(q | q | q | q);exact g q;exact f q;omega;omega) _
   have ab:¬(60<x.s.b.length/\x.s.b.length≠4097)->
     bO (some (B false)) (λr=>bG r false λam=>gO am (Ab 5 (.ptr a.length 0)) λaf=>bG r false λan=>gO an (Aq false 1 (a++[some (AObj.cells (D7 x))]) af) λag=>bG r false λao=>gO ao (Ar .gtr ag (I 200)) λah=>bG r false λap=>gO ap (some ah) λw=>bG w true λaq=>gO aq (Ab 5 (.ptr a.length 0)) λai=>bG w true λar=>gO ar (Aq false 1 (a++[some (AObj.cells (D7 x))]) ai) λaj=>bG w true λau=>gO au (Ar .leq aj (I 32768)) λak=>bG r false λav=>gO av (A0 w ak (B false)) λal=>bO (A0 r (B true) al) λc=>
     bG c false λS=>gO S (Ab 8 (.ptr a.length 0)) λG=>bG c false λT=>gO T (Aq false 1 (a++[some (AObj.cells (D7 x))]) G) λH=>bG c false λU=>gO U (AW H) λJ=>bG c false λV=>gO V (Ar .gtr J (I 200)) λK=>
     bO (A0 c (B true) K) λd=>bG d false λW=>gO W (Ab 9 (.ptr a.length 0)) λL=>bG d false λX=>gO X (Aq false 1 (a++[some (AObj.cells (D7 x))]) L) λM=>bG d false λY=>gO Y (AW M) λN=>bG d false λZ=>gO Z (Ar .gtr N (I 30)) λO=>
     bO (A0 d (B true) O) λP=>bB P λF=>bI F (B false=B (decide (Abk l p))) (bO (Ar .add (I j) (I 1)) λQ=>R [v,Q] (a++[some (AObj.cells (D7 x))]))):=by
    intro g;by_cases f:200<x.s.n
    ·by_cases k:x.s.n<=32768
     ·simp only[Ab1,A7,Af1,Ah BE,A,C8,f,Vx,k,An,show((true==false)=false)from rfl,AT,Af,Am];exact no (.inr (.inl ⟨f,k⟩))
     ·simp only[Ab1,A7,Af1,Ah BE,A,C8,f,Vx,k,B8,An];have:=ad g (λq=>k q.2);simp only[Ab1,Ai9,Ah BE]at this|-;exact this
    ·simp only[Ab1,Ai9,Ah BE,A,C8,f,Ah9,show((false==true)=false)from rfl,AT];have:=ad g (λq=>f q.1);simp only[Ab1,Ai9,Ah BE]at this|-;exact this
   by_cases g:(60:Int)<(x.s.b.length:Int)
   ·by_cases f:(x.s.b.length:Int)=4097
    ·have e2:decide ((x.s.b.length:Int)≠4097)=false:=by simp[f]
     have:=ab (λq=>by omega);simp only[g,Af1,Ab1,Ah BE,C,x.hb.len,Bz,e2,A7]at this|-;exact this
    ·simp only[g,Ag6,Ah BE,Ae,C,x.hb.len,Bz,f,Aa0,A7,Qb,show((true==false)=false)from rfl,AT,Am];exact no (.inl ⟨by omega,by omega⟩)
   ·simp only[g,Ah9,show((false==true)=false)from rfl,AT,Aa];have:=ab (λq=>by omega);simp only[Ab0,Ai9]at this|-;exact this
  ·have E:¬(j:Int)<(l.length:Int):=by omega
   simp only[E,Aa8];rw[decide_eq_true];refine⟨by omega,λx o=>?_⟩;obtain⟨i,z⟩:=Ak0.1 o;exact aa i x (by have:=(BG.1 z).1;omega) z))
def Eb (s:StS)(x:Stp):StS:=
 if x.kind.toNat % 16=0\/x.kind.toNat % 16=1 then(Bf s (L4 x.name) (decide (x.kind.toNat % 16=0))).2
 else if x.kind.toNat % 16=2\/x.kind.toNat % 16=3 then(BD s x.ino x.pos x.b).2
 else if x.kind.toNat % 16=5 then(DL s x.ino x.n).2
 else if x.kind.toNat % 16=6 then(PX s x.ino x.pos x.n x.keep).2
 else if x.kind.toNat % 16=7 then(VE s x.ino x.pos x.n).2
 else if x.kind.toNat % 16=8 then(Q0 s (L4 x.name) (L4 x.to)).2
 else if x.kind.toNat % 16=9 then(fQ s (L4 x.name)).2
 else if x.kind.toNat % 16=10 then(Nc s x.inos).2
 else if x.kind.toNat % 16=11 then(Nc s []).2
 else if x.kind.toNat % 16=12 then(Nc s [x.ino]).2
 else if x.kind.toNat % 16=13 then yN s x.n
 else if x.kind.toNat % 16=14 then fT s x.bits
 else s
theorem Axw {N:Nat}{s:StS}(h:SW N s)(ino pos:Int){b:List UInt8}(a:b.length<=60\/b.length=4097):SW (N+4099) (BD s ino pos b).2:=by
 rcases a with a | a
 ·exact(gX h ino pos b).mono (by omega)
 ·unfold BD;split
  ·exact h.mono (by omega)
  ·rw[if_pos (by unfold XS;omega)];exact h.mono (by omega)
theorem Azz {N:Nat}{s:StS}(h:SW N s){x:Stp}(p:¬Vs x)(o:x.n<=9223372036854775807):SW (N+4099) (Eb s x):=by
 unfold Vs at p;unfold Eb;by_cases a:x.kind.toNat % 16=0\/x.kind.toNat % 16=1
 ·rw[if_pos a];exact(SQ h _ _).mono (by omega)
 rw[if_neg a];by_cases b:x.kind.toNat % 16=2\/x.kind.toNat % 16=3
 ·rw[if_pos b];exact Axw h _ _ (by omega)
 rw[if_neg b];by_cases e:x.kind.toNat % 16=5
 ·rw[if_pos e];exact(RZ h _ _).mono (by omega)
 rw[if_neg e];by_cases f:x.kind.toNat % 16=6
 ·rw[if_pos f];exact Awv h _ _ _ _
 rw[if_neg f];by_cases g:x.kind.toNat % 16=7
 ·rw[if_pos g];exact(Akh h _ _ _).mono (by omega)
 rw[if_neg g];by_cases i:x.kind.toNat % 16=8
 ·rw[if_pos i];exact(Aji h _ _).mono (by omega)
 rw[if_neg i];by_cases j:x.kind.toNat % 16=9
 ·rw[if_pos j];exact(Ajj h _).mono (by omega)
 rw[if_neg j];by_cases k:x.kind.toNat % 16=10
 ·rw[if_pos k];exact(VQ h _).mono (by omega)
 rw[if_neg k];by_cases l:x.kind.toNat % 16=11
 ·rw[if_pos l];exact(VQ h _).mono (by omega)
 rw[if_neg l];by_cases m:x.kind.toNat % 16=12
 ·rw[if_pos m];exact(VQ h _).mono (by omega)
 rw[if_neg m];by_cases c:x.kind.toNat % 16=13
 ·rw[if_pos c];exact(Aet h o).mono (by omega)
 rw[if_neg c];by_cases d:x.kind.toNat % 16=14
 ·rw[if_pos d];exact(Ajl h _).mono (by omega)
 rw[if_neg d];exact h.mono (by omega)
theorem Axx {N:Nat}{s:StS}(h:SW N s)(ino pos:Int){b:List UInt8}(a:b.length<=60\/b.length=4097):SW (N+90) (BD s ino pos b).2:=by
 rcases a with a | a
 ·exact(uS h ino pos b (k:=9) (λ_=>by omega)).mono (by omega)
 ·unfold BD;split
  ·exact h.mono (by omega)
  ·rw[if_pos (by unfold XS;omega)];exact h.mono (by omega)
theorem Axy {N:Nat}{s:StS}(h:SW N s){x:Stp}(p:¬Vs x)(o:x.n<=9223372036854775807):SW (N+90) (Eb s x):=by
 unfold Vs at p;unfold Eb;by_cases a:x.kind.toNat % 16=0\/x.kind.toNat % 16=1
 ·rw[if_pos a];exact(SQ h _ _).mono (by omega)
 rw[if_neg a];by_cases b:x.kind.toNat % 16=2\/x.kind.toNat % 16=3
 ·rw[if_pos b];exact Axx h _ _ (by omega)
 rw[if_neg b];by_cases e:x.kind.toNat % 16=5
 ·rw[if_pos e];exact(RZ h _ _).mono (by omega)
 rw[if_neg e];by_cases f:x.kind.toNat % 16=6
 ·rw[if_pos f];exact(Awu h _ _ _ _ (by omega)).mono (by omega)
 rw[if_neg f];by_cases g:x.kind.toNat % 16=7
 ·rw[if_pos g];exact(Akh h _ _ _).mono (by omega)
 rw[if_neg g];by_cases i:x.kind.toNat % 16=8
 ·rw[if_pos i];exact(Aji h _ _).mono (by omega)
 rw[if_neg i];by_cases j:x.kind.toNat % 16=9
 ·rw[if_pos j];exact(Ajj h _).mono (by omega)
 rw[if_neg j];by_cases k:x.kind.toNat % 16=10
 ·rw[if_pos k];exact(VQ h _).mono (by omega)
 rw[if_neg k];by_cases l:x.kind.toNat % 16=11
 ·rw[if_pos l];exact(VQ h _).mono (by omega)
 rw[if_neg l];by_cases m:x.kind.toNat % 16=12
 ·rw[if_pos m];exact(VQ h _).mono (by omega)
 rw[if_neg m];by_cases c:x.kind.toNat % 16=13
 ·rw[if_pos c];exact(Aet h o).mono (by omega)
 rw[if_neg c];by_cases d:x.kind.toNat % 16=14
 ·rw[if_pos d];exact(Ajl h _).mono (by omega)
 rw[if_neg d];exact h.mono (by omega)
theorem uA (k:UInt8):(L4 k).length<=100:=by
 have a:k.toNat % 18<18:=At4 _ (by omega);have:∀i,i<18->(nameT.getD i []).length<=100:=by decide
 exact this _ a
theorem mV {a b:Int}:Ar .eql (.lit (.int .u8 a)) (.lit (.int .u8 b))=some (B (decide (a=b))):=Bu
theorem Da:(∀(x:AV) (K:AV->Prop),bO (some x) K=K x)/\(∀(b:Bool) (K:Bool->Prop),bB (.lit (.bool b)) K=K b)/\(∀(a b:Prop),bI true a b=a)/\(∀(a b:Prop),bI false a b=b)/\(∀h:Decidable True,@decide True h=true)/\(∀h:Decidable False,@decide False h=false)/\(∀a b:Int,Ar .eql (.lit (.int .u8 a)) (.lit (.int .u8 b))=some (B (decide (a=b))))/\((0:Nat):Int)=0/\((1:Nat):Int)=1:=
 ⟨λ_ _=>Aa,λ_ _=>Af,λ_ _=>Am,λ_ _=>Ag,λ_=>decide_eq_true trivial,λ_=>decide_eq_false id,λ_ _=>Bu,rfl,rfl⟩
theorem sN {x:Int}:W6 1 1 (Bx [(I 0)] 1) [(0,1,I x)]=some (.imm [I x] 1 1):=by simp[W6,Bx,Bb]
abbrev Ab2:=And.intro @Da @Int.cast_ofNat_Int
abbrev Ag2:=And.intro @Ab1 @Int.cast_ofNat_Int
abbrev Ai4:=And.intro @Ac2 @Bu
theorem Axz {N:Nat}{s:StS}{Z od:Nat}{p q:AV}{H:AH}(h:Duo s s Z od p q H)(f:SW N s)(hN:N+40000<=900000)(x:StpV)(hx:¬Vs x.s)(ao:x.s.n<=9223372036854775807):
  ∃r H',(r=B true/\∃p' q',Duo (Eb s x.s) (Eb s x.s) Z od p' q' H')/\Ba0 62 [.ptr Z 0,.ptr od 0,.agg (D7 x)] H r H':=gG (by
 unfold Yt;have o1:=SV.oneA x.hb;have o2:=SV.oneA x.ht;have o3:=SV.oneA x.hi;have an:=x.s.kind.toNat_lt;have e1:AE H (.agg (D7 x))=some (.ptr H.length 0,H++[some (.cells (D7 x))]):=by simp[D7,o1,o2,o3]
 have g:=Grew.app H [some (.cells (D7 x))];have i:=h.grew g;have d:(H++[some (AObj.cells (D7 x))])[H.length]?=some (some (.cells (D7 x))):=BE;have J:H.length<(H++[some (AObj.cells (D7 x))]).length:=by simp
 have K:H.length≠Z:=by have:=h.P.os_lt;omega
 have L:H.length∉Ba p:=λz=>by have:=h.P.p_lt _ z;omega
 have nb:=uA x.s.name;have nt:=uA x.s.to;have ae:=x.hb.noId;have al:=x.ht.noId;have aj:=x.hi.noId;unfold Vs at hx;rw[e1,A6];generalize (H++[some (AObj.cells (D7 x))])=H1 at*;have M:(D7 x)[0]?=some (.lit (.int .u8 x.s.kind.toNat)):=rfl;have V:(D7 x)[1]?=some (.lit (.int .u8 x.s.name.toNat)):=rfl;have W:(D7 x)[2]?=some (.lit (.int .u8 x.s.to.toNat)):=rfl;have u:(D7 x)[3]?=some (I x.s.ino):=rfl;have A:(D7 x)[4]?=some (I x.s.pos):=rfl;have E:(D7 x)[5]?=some (I x.s.n):=rfl;have O:(D7 x)[6]?=some (x.bv):=rfl;have S:(D7 x)[7]?=some (B x.s.keep):=rfl;have T:(D7 x)[8]?=some (x.tv):=rfl;have U:(D7 x)[9]?=some (x.iv):=rfl;have Y:Ar .rem (.lit (.int .u8 x.s.kind.toNat)) (.lit (.int .u8 16))=some (.lit (.int .u8 ((x.s.kind.toNat % 16:Nat):Int))):=by
  have:Ar .rem (.lit (.int .u8 (x.s.kind.toNat:Int))) (.lit (.int .u8 (16:Nat)))=some (.lit (.int .u8 ((x.s.kind.toNat % 16:Nat):Int))):=by rw[YB (by omega) (by omega)];congr 3
  exact this
 have ak:x.s.kind.toNat % 16<16:=At4 _ (by omega);simp only[Ab1,Ah d,M,V,W];refine bP_of (Aka x.s.name) ?_
 try simp only[Ab1,Ah d,M,V,W,u,A,E,O,S,T,U]
 refine bP_of (Aka x.s.to) ?_
 try simp only[Aa,Y]
 have G:∀(s':StS) (p' q':AV) (H':AH),Duo s' s' Z od p' q' H'->Eb s x.s=s'->(B true:AV)=B true/\∃p' q',Duo (Eb s x.s) (Eb s x.s) Z od p' q' H':=by intro s' p' q' H' hd e;rw[e];exact⟨rfl,p',q',hd⟩
 have am:=Eb s x.s;obtain⟨k,C⟩:∃k,x.s.kind.toNat % 16=k:=⟨_,rfl⟩;rw[C]at ak Y
 
 simp only[C];have ai:k=0\/k=1\/k=2\/k=3\/k=4\/k=5\/k=6\/k=7\/k=8\/k=9\/k=10\/k=11\/k=12\/k=13\/k=14\/k=15:=by omega
 rcases ai with rfl | rfl | rfl | rfl | rfl | rfl | rfl | rfl | rfl | rfl | rfl | rfl | rfl | rfl | rfl | rfl
 ·simp only[Int.reduceEq,Ab2];rw[Bh];unfold Bg;simp only[Int.reduceEq,Da]
  try simp only[Ag2,Ah d,M,Y,mV,B3]
  obtain⟨r,m,⟨rfl,Q,w,c⟩,a⟩:=nJ i.P f (by omega) (name:=L4 x.s.name) (by omega) true;refine bC_of a ?_;have b:=i.stepP w c;have j:m[H.length]?=some (some (.cells (D7 x))):=by rw[c.same _ J K L];exact d
  simp only[Ad0];rw[NW];unfold Ji
  try simp only[Ag2,Ah j,M,Y,mV,B3]
  obtain⟨r,F,⟨rfl,R,o,t⟩,a⟩:=cP b.D f (by omega) (name:=L4 x.s.name) (by omega) true;refine bC_of a ?_;have y:=b.stepD o t;simp only[Ad0];rw[NX];unfold Jj
  try simp only[Ai4,Af1,A7]
  exact(G _ _ _ _ y (by unfold Eb;simp[C])).2
 ·simp only[Int.reduceEq,Ab2];rw[Bh];unfold Bg;simp only[Int.reduceEq,Da]
  try simp only[Ag2,Ah d,M,Y,mV,Int.reduceEq,B8]
  obtain⟨r,m,⟨rfl,Q,w,c⟩,a⟩:=nJ i.P f (by omega) (name:=L4 x.s.name) (by omega) false;refine bC_of a ?_;have b:=i.stepP w c;have j:m[H.length]?=some (some (.cells (D7 x))):=by rw[c.same _ J K L];exact d
  simp only[Ad0];rw[NW];unfold Ji
  try simp only[Ag2,Ah j,M,Y,mV,Int.reduceEq,B8]
  obtain⟨r,F,⟨rfl,R,o,t⟩,a⟩:=cP b.D f (by omega) (name:=L4 x.s.name) (by omega) false;refine bC_of a ?_;have y:=b.stepD o t;simp only[Ad0];rw[NX];unfold Jj
  try simp only[Ai4,Af1,A7]
  exact(G _ _ _ _ y (by unfold Eb;simp[C])).2
 ·simp only[Int.reduceEq,Ab2];rw[Bh];unfold Bg;simp only[Da];rw[Bl];unfold Bj;simp only[Int.reduceEq,Da];rw[Bs];unfold Br;simp only[Int.reduceEq,Da]
  try simp only[Ab1,Ah d,u,A,O]
  obtain⟨r,m,⟨rfl,Q,w,c⟩,a⟩:=mU i.P f x.s.ino x.s.pos (by omega) (x.hb.bytes _) (by rw[ae];simp);refine bC_of a ?_;have b:=i.stepP w c;have j:m[H.length]?=some (some (.cells (D7 x))):=by rw[c.same _ J K L];exact d
  simp only[Ad0];rw[M5];unfold Ih
  try simp only[Ab1,Ah j,u,A,O]
  obtain⟨r,F,⟨rfl,R,o,t⟩,a⟩:=Xd b.D f x.s.ino x.s.pos (by omega) x.hb;refine bC_of a ?_;have y:=b.stepD o t;simp only[Ad0];rw[M6];unfold Ii
  try simp only[Ai4,Af1,A7]
  exact(G _ _ _ _ y (by unfold Eb;simp[C])).2
 ·simp only[Int.reduceEq,Ab2];rw[Bh];unfold Bg;simp only[Int.reduceEq,Da];rw[Bl];unfold Bj;simp only[Da];rw[Bs];unfold Br;simp only[Int.reduceEq,Da]
  try simp only[Ab1,Ah d,u,A,O]
  obtain⟨r,m,⟨rfl,Q,w,c⟩,a⟩:=mU i.P f x.s.ino x.s.pos (by omega) (x.hb.bytes _) (by rw[ae];simp);refine bC_of a ?_;have b:=i.stepP w c;have j:m[H.length]?=some (some (.cells (D7 x))):=by rw[c.same _ J K L];exact d
  simp only[Ad0];rw[M5];unfold Ih
  try simp only[Ab1,Ah j,u,A,O]
  obtain⟨r,F,⟨rfl,R,o,t⟩,a⟩:=Xd b.D f x.s.ino x.s.pos (by omega) x.hb;refine bC_of a ?_;have y:=b.stepD o t;simp only[Ad0];rw[M6];unfold Ii
  try simp only[Ai4,Af1,A7]
  exact(G _ _ _ _ y (by unfold Eb;simp[C])).2
 ·simp only[Int.reduceEq,Ab2];rw[Bh];unfold Bg;simp only[Int.reduceEq,Da];rw[Bl];unfold Bj;simp only[Int.reduceEq,Da];rw[Bs];unfold Br;simp only[Da];rw[By];unfold Bw;simp only[Int.reduceEq,Da];simp only[Ab1,Ah d,u,A,E];obtain⟨R1,ag,r,m,⟨rfl,g2⟩,a⟩:=Atb i.P f (by omega) x.s.ino x.s.pos x.s.n;refine bC_of a ?_;have b:=i.grew g2;have j:=g2.cells d;simp only[Ad0];rw[WG];unfold NK;simp only[Ab1,Ah j,u,A,E];obtain⟨R2,ah,r,F,⟨rfl,g3⟩,a⟩:=Ax4 b.D f (by omega) x.s.ino x.s.pos x.s.n;refine bC_of a ?_;simp only[Ad0];rw[WH];unfold NL;simp only[xZ (ag.bytes F),xZ (ah.bytes F),DC,Ai4,Af1,A7];exact(G _ _ _ _ (b.grew g3) (by unfold Eb;simp[C])).2
 ·simp only[Int.reduceEq,Ab2];rw[Bh];unfold Bg;simp only[Int.reduceEq,Da];rw[Bl];unfold Bj;simp only[Int.reduceEq,Da];rw[Bs];unfold Br;simp only[Int.reduceEq,Da];rw[By];unfold Bw;simp only[Da];rw[B5];unfold B2;simp only[Int.reduceEq,Da]
  try simp only[Ab1,Ah d,u,E]
  obtain⟨r,m,⟨rfl,Q,w,c⟩,a⟩:=mT i.P f (by omega) x.s.ino x.s.n;refine bC_of a ?_;have b:=i.stepP w c;have j:m[H.length]?=some (some (.cells (D7 x))):=by rw[c.same _ J K L];exact d
  try simp only[Ah3,Ah j,u,E]
  obtain⟨r,F,⟨rfl,R,o,t⟩,a⟩:=cQ b.D f (by omega) x.s.ino x.s.n;refine bC_of a ?_;have y:=b.stepD o t
  try simp only[Ai4,B3]
  exact(G _ _ _ _ y (by unfold Eb;simp[C])).2
 ·simp only[Int.reduceEq,Ab2];rw[Bh];unfold Bg;simp only[Int.reduceEq,Da];rw[Bl];unfold Bj;simp only[Int.reduceEq,Da];rw[Bs];unfold Br;simp only[Int.reduceEq,Da];rw[By];unfold Bw;simp only[Int.reduceEq,Da];rw[B5];unfold B2;simp only[Da];rw[BF];unfold BA;simp only[Int.reduceEq,Da]
  try simp only[Ab1,Ah d,u,A,E,S]
  obtain⟨r,m,⟨rfl,Q,w,c⟩,a⟩:=Awy i.P f (by omega) x.s.ino x.s.pos x.s.n x.s.keep;refine bC_of a ?_;have b:=i.stepP w c;have j:m[H.length]?=some (some (.cells (D7 x))):=by rw[c.same _ J K L];exact d
  try simp only[Ah3,Ah j,u,A,E,S]
  obtain⟨r,F,⟨rfl,R,o,t⟩,a⟩:=Awz b.D f (by omega) x.s.ino x.s.pos x.s.n x.s.keep;refine bC_of a ?_;have y:=b.stepD o t
  try simp only[Ai4,B3]
  exact(G _ _ _ _ y (by unfold Eb;simp[C])).2
 ·simp only[Int.reduceEq,Ab2];rw[Bh];unfold Bg;simp only[Int.reduceEq,Da];rw[Bl];unfold Bj;simp only[Int.reduceEq,Da];rw[Bs];unfold Br;simp only[Int.reduceEq,Da];rw[By];unfold Bw;simp only[Int.reduceEq,Da];rw[B5];unfold B2;simp only[Int.reduceEq,Da];rw[BF];unfold BA;simp only[Da];rw[BR];unfold BJ;simp only[Int.reduceEq,Da]
  try simp only[Ab1,Ah d,u,A,E]
  obtain⟨r,m,⟨rfl,Q,w,c⟩,a⟩:=Aww i.P f (by omega) x.s.ino x.s.pos x.s.n;refine bC_of a ?_;have b:=i.stepP w c;have j:m[H.length]?=some (some (.cells (D7 x))):=by rw[c.same _ J K L];exact d
  try simp only[Ah3,Ah j,u,A,E]
  obtain⟨r,F,⟨rfl,R,o,t⟩,a⟩:=Awx b.D f (by omega) x.s.ino x.s.pos x.s.n;refine bC_of a ?_;have y:=b.stepD o t
  try simp only[Ai4,B3]
  exact(G _ _ _ _ y (by unfold Eb;simp[C])).2
 ·simp only[Int.reduceEq,Ab2];rw[Bh];unfold Bg;simp only[Int.reduceEq,Da];rw[Bl];unfold Bj;simp only[Int.reduceEq,Da];rw[Bs];unfold Br;simp only[Int.reduceEq,Da];rw[By];unfold Bw;simp only[Int.reduceEq,Da];rw[B5];unfold B2;simp only[Int.reduceEq,Da];rw[BF];unfold BA;simp only[Int.reduceEq,Da];rw[BR];unfold BJ;simp only[Da];rw[Cb];unfold BV;simp only[Int.reduceEq,Da]
  try simp only[Ab1,Ah d,M,V,W,u,A,E,O,S,T,U]
  obtain⟨r,m,⟨rfl,Q,w,c⟩,a⟩:=Asz i.P f (by omega) (name:=L4 x.s.name) (to:=L4 x.s.to) (by omega) (by omega);refine bC_of a ?_;have b:=i.stepP w c;have j:m[H.length]?=some (some (.cells (D7 x))):=by rw[c.same _ J K L];exact d
  try simp only[Ab1,Ah j,M,V,W,u,A,E,O,S,T,U]
  obtain⟨r,F,⟨rfl,R,o,t⟩,a⟩:=Ax5 b.D f (by omega) (name:=L4 x.s.name) (to:=L4 x.s.to) (by omega) (by omega);refine bC_of a ?_;have y:=b.stepD o t
  try simp only[Ai4,B3]
  exact(G _ _ _ _ y (by unfold Eb;simp[C])).2
 ·simp only[Int.reduceEq,Ab2];rw[Bh];unfold Bg;simp only[Int.reduceEq,Da];rw[Bl];unfold Bj;simp only[Int.reduceEq,Da];rw[Bs];unfold Br;simp only[Int.reduceEq,Da];rw[By];unfold Bw;simp only[Int.reduceEq,Da];rw[B5];unfold B2;simp only[Int.reduceEq,Da];rw[BF];unfold BA;simp only[Int.reduceEq,Da];rw[BR];unfold BJ;simp only[Int.reduceEq,Da];rw[Cb];unfold BV;simp only[Da];rw[C5];unfold Cr;simp only[Int.reduceEq,Da]
  try simp only[Ab1,Ah d,M,V,W,u,A,E,O,S,T,U]
  obtain⟨r,m,⟨rfl,Q,w,c⟩,a⟩:=Ata i.P f (by omega) (name:=L4 x.s.name) (by omega);refine bC_of a ?_;have b:=i.stepP w c;have j:m[H.length]?=some (some (.cells (D7 x))):=by rw[c.same _ J K L];exact d
  try simp only[Ab1,Ah j,M,V,W,u,A,E,O,S,T,U]
  obtain⟨r,F,⟨rfl,R,o,t⟩,a⟩:=Ax6 b.D f (by omega) (name:=L4 x.s.name) (by omega);refine bC_of a ?_;have y:=b.stepD o t
  try simp only[Ai4,B3]
  exact(G _ _ _ _ y (by unfold Eb;simp[C])).2
 ·simp only[Int.reduceEq,Ab2];rw[Bh];unfold Bg;simp only[Int.reduceEq,Da];rw[Bl];unfold Bj;simp only[Int.reduceEq,Da];rw[Bs];unfold Br;simp only[Int.reduceEq,Da];rw[By];unfold Bw;simp only[Int.reduceEq,Da];rw[B5];unfold B2;simp only[Int.reduceEq,Da];rw[BF];unfold BA;simp only[Int.reduceEq,Da];rw[BR];unfold BJ;simp only[Int.reduceEq,Da];rw[Cb];unfold BV;simp only[Int.reduceEq,Da];rw[C5];unfold Cr;simp only[Da];rw[Dj];unfold CL;simp only[Int.reduceEq,Da]
  try simp only[Ab1,Ah d,U]
  obtain⟨r,m,⟨rfl,Q,w,c⟩,a⟩:=uZ i.P f (by omega) (x.hi.2 _) (by rw[aj];simp) (by omega);refine bC_of a ?_;have b:=i.stepP w c;have j:m[H.length]?=some (some (.cells (D7 x))):=by rw[c.same _ J K L];exact d
  try simp only[Ah3,Ah j,U]
  obtain⟨r,F,⟨rfl,R,o,t⟩,a⟩:=uY b.D f (by omega) x.hi (by omega);refine bC_of a ?_;have y:=b.stepD o t
  try simp only[Ai4,B3]
  exact(G _ _ _ _ y (by unfold Eb;simp[C])).2
 ·simp only[Int.reduceEq,Ab2];rw[Bh];unfold Bg;simp only[Int.reduceEq,Da];rw[Bl];unfold Bj;simp only[Int.reduceEq,Da];rw[Bs];unfold Br;simp only[Int.reduceEq,Da];rw[By];unfold Bw;simp only[Int.reduceEq,Da];rw[B5];unfold B2;simp only[Int.reduceEq,Da];rw[BF];unfold BA;simp only[Int.reduceEq,Da];rw[BR];unfold BJ;simp only[Int.reduceEq,Da];rw[Cb];unfold BV;simp only[Int.reduceEq,Da];rw[C5];unfold Cr;simp only[Int.reduceEq,Da];rw[Dj];unfold CL;simp only[Da];rw[DP];unfold D1;simp only[Int.reduceEq,Da]
  try simp only[Ab1,Ah d,M,V,W,u,A,E,O,S,T,U]
  obtain⟨r,m,⟨rfl,Q,w,c⟩,a⟩:=uZ i.P f (by omega) (l:=[]) (v:=Ad) rfl (by simp[Ba]) (by simp);refine bC_of a ?_;have b:=i.stepP w c;have j:m[H.length]?=some (some (.cells (D7 x))):=by rw[c.same _ J K L];exact d
  try simp only[Ab1,Ah j,M,V,W,u,A,E,O,S,T,U]
  obtain⟨r,F,⟨rfl,R,o,t⟩,a⟩:=uY b.D f (by omega) (l:=[]) (v:=Ad) SV.nil (by simp);refine bC_of a ?_;have y:=b.stepD o t
  try simp only[Ai4,B3]
  exact(G _ _ _ _ y (by unfold Eb;simp[C])).2
 ·simp only[Int.reduceEq,Ab2];rw[Bh];unfold Bg;simp only[Int.reduceEq,Da];rw[Bl];unfold Bj;simp only[Int.reduceEq,Da];rw[Bs];unfold Br;simp only[Int.reduceEq,Da];rw[By];unfold Bw;simp only[Int.reduceEq,Da];rw[B5];unfold B2;simp only[Int.reduceEq,Da];rw[BF];unfold BA;simp only[Int.reduceEq,Da];rw[BR];unfold BJ;simp only[Int.reduceEq,Da];rw[Cb];unfold BV;simp only[Int.reduceEq,Da];rw[C5];unfold Cr;simp only[Int.reduceEq,Da];rw[Dj];unfold CL;simp only[Int.reduceEq,Da];rw[DP];unfold D1;simp only[Da];rw[EW];unfold Ec;simp only[Int.reduceEq,Da]
  try simp only[Ab1,Ah d,u,sN]
  obtain⟨r,m,⟨rfl,Q,w,c⟩,a⟩:=uZ i.P f (by omega) (l:=[x.s.ino]) (v:=.imm [I x.s.ino] 1 1) rfl (by simp[Ba]) (by simp);refine bC_of a ?_;have b:=i.stepP w c;have j:m[H.length]?=some (some (.cells (D7 x))):=by rw[c.same _ J K L];exact d
  try simp only[Ah3,Ah j,u,sN]
  obtain⟨r,F,⟨rfl,R,o,t⟩,a⟩:=uY b.D f (by omega) (l:=[x.s.ino]) (v:=.imm [I x.s.ino] 1 1) ⟨rfl,λ_=>rfl⟩ (by simp);refine bC_of a ?_;have y:=b.stepD o t
  try simp only[Ai4,B3]
  exact(G _ _ _ _ y (by unfold Eb;simp[C])).2
 ·simp only[Int.reduceEq,Ab2];rw[Bh];unfold Bg;simp only[Int.reduceEq,Da];rw[Bl];unfold Bj;simp only[Int.reduceEq,Da];rw[Bs];unfold Br;simp only[Int.reduceEq,Da];rw[By];unfold Bw;simp only[Int.reduceEq,Da];rw[B5];unfold B2;simp only[Int.reduceEq,Da];rw[BF];unfold BA;simp only[Int.reduceEq,Da];rw[BR];unfold BJ;simp only[Int.reduceEq,Da];rw[Cb];unfold BV;simp only[Int.reduceEq,Da];rw[C5];unfold Cr;simp only[Int.reduceEq,Da];rw[Dj];unfold CL;simp only[Int.reduceEq,Da];rw[DP];unfold D1;simp only[Int.reduceEq,Da];rw[EW];unfold Ec;simp only[Da];rw[Hn];unfold Fx;simp only[Int.reduceEq,Da];simp only[Ab1,Ah d,E];obtain⟨r,m,⟨rfl,w,c⟩,a⟩:=Aje i.P x.s.n;refine bC_of a ?_;have b:=i.stepP w c;have j:m[H.length]?=some (some (.cells (D7 x))):=by rw[c.same _ J K L];exact d
  rw[WI];unfold NO;simp only[Ab1,Ah j,E];obtain⟨r,F,⟨rfl,o,t⟩,a⟩:=Akf b.D x.s.n;refine bC_of a ?_;rw[NM];unfold Jh;exact G _ _ _ _ (b.stepD o t) (by unfold Eb;simp[C])
 ·simp only[Int.reduceEq,Ab2];rw[Bh];unfold Bg;simp only[Int.reduceEq,Da];rw[Bl];unfold Bj;simp only[Int.reduceEq,Da];rw[Bs];unfold Br;simp only[Int.reduceEq,Da];rw[By];unfold Bw;simp only[Int.reduceEq,Da];rw[B5];unfold B2;simp only[Int.reduceEq,Da];rw[BF];unfold BA;simp only[Int.reduceEq,Da];rw[BR];unfold BJ;simp only[Int.reduceEq,Da];rw[Cb];unfold BV;simp only[Int.reduceEq,Da];rw[C5];unfold Cr;simp only[Int.reduceEq,Da];rw[Dj];unfold CL;simp only[Int.reduceEq,Da];rw[DP];unfold D1;simp only[Int.reduceEq,Da];rw[EW];unfold Ec;simp only[Int.reduceEq,Da];rw[Hn];unfold Fx;simp only[Da];rw[M7];unfold Ij;simp only[Da];simp only[Ab1,Ah d,T];obtain⟨r,m,⟨rfl,w,c⟩,a⟩:=Atr i.P f (by omega) (x.ht.2 _) (by rw[al];simp) (by omega);refine bC_of a ?_;have b:=i.stepP w c;have j:m[H.length]?=some (some (.cells (D7 x))):=by rw[c.same _ J K L];exact d
  rw[WJ];unfold NP;simp only[Ab1,Ah j,T];obtain⟨r,F,⟨rfl,o,t⟩,a⟩:=Axk b.D f (by omega) x.ht (by omega);refine bC_of a ?_;rw[NM];unfold Jh;exact G _ _ _ _ (b.stepD o t) (by unfold Eb;simp[C])
 ·simp only[Int.reduceEq,Ab2];rw[Bh];unfold Bg;simp only[Int.reduceEq,Da];rw[Bl];unfold Bj;simp only[Int.reduceEq,Da];rw[Bs];unfold Br;simp only[Int.reduceEq,Da];rw[By];unfold Bw;simp only[Int.reduceEq,Da];rw[B5];unfold B2;simp only[Int.reduceEq,Da];rw[BF];unfold BA;simp only[Int.reduceEq,Da];rw[BR];unfold BJ;simp only[Int.reduceEq,Da];rw[Cb];unfold BV;simp only[Int.reduceEq,Da];rw[C5];unfold Cr;simp only[Int.reduceEq,Da];rw[Dj];unfold CL;simp only[Int.reduceEq,Da];rw[DP];unfold D1;simp only[Int.reduceEq,Da];rw[EW];unfold Ec;simp only[Int.reduceEq,Da];rw[Hn];unfold Fx;simp only[Int.reduceEq,Da];rw[M7];unfold Ij;simp only[Da];simp only[Ab1,Ah d,u];obtain⟨r,K1,⟨rfl,g1⟩,a⟩:=Ajp i.P f (by omega) x.s.ino;refine bC_of a ?_;have b:=i.grew g1;have d1:=g1.cells d;simp only[Ad0];rw[WK];unfold NQ;simp only[Ab1,Ah d1,u];obtain⟨r,K2,⟨rfl,g2⟩,a⟩:=Aki b.D f (by omega) x.s.ino;refine bC_of a ?_;have y:=b.grew g2;have d2:=g2.cells d1;simp only[Ad0];rw[WL];unfold NR;simp only[Ab1,Ah d2,u,A];obtain⟨r,K3,⟨rfl,g3⟩,a⟩:=Ax1 y.P f (by omega) x.s.ino x.s.pos;refine bC_of a ?_;have aa:=y.grew g3;have d3:=g3.cells d2;simp only[Ad0];rw[WM];unfold NS;simp only[Ab1,Ah d3,u,A];obtain⟨r,K4,⟨rfl,g4⟩,a⟩:=Ax0 aa.D f (by omega) x.s.ino x.s.pos;refine bC_of a ?_;have ab:=aa.grew g4;have d4:=g4.cells d3;simp only[Ad0];rw[WN];unfold NT;simp only[Ab1,Ah d4,u,A];obtain⟨r,K5,⟨rfl,g5⟩,a⟩:=Ax3 ab.P f (by omega) x.s.ino x.s.pos;refine bC_of a ?_;have ad:=ab.grew g5;have d5:=g5.cells d4;simp only[Ad0];rw[WO];unfold NU;simp only[Ab1,Ah d5,u,A];obtain⟨r,K6,⟨rfl,g6⟩,a⟩:=Ax2 ad.D f (by omega) x.s.ino x.s.pos;refine bC_of a ?_;have af:=ad.grew g6;have d6:=g6.cells d5;simp only[Ad0];rw[WP];unfold NV;simp only[Ai4,Af1,A7];exact(G _ _ _ _ af (by unfold Eb;simp[C])).2)
abbrev xV:=UInt8×(UInt8×(UInt8×(Int×(Int×(Int×((Sl UInt8)×(Bool×((Sl Bool)×((Sl Int)×Unit)))))))))
theorem Ay0 (x:Sl Bool)(a:x.nil=true->x.l=[]):SV rP 1 x.l (if x.nil then .lit (.slice none 0 0)else .imm (x.l.flatMap rP) x.l.length 1):=by
 cases b:x.nil with
 | true=>simp only[if_true];rw[a b];exact SV.nil
 | false=>simp only[An];exact SV.imm (λ_=>rfl) (λx c=>rfl)
theorem Akp (x:Sl UInt8)(a:x.nil=true->x.l=[]):SV Ft 1 x.l (if x.nil then .lit (.slice none 0 0)else .imm (x.l.flatMap Ft) x.l.length 1):=by
 cases b:x.nil with
 | true=>simp only[if_true];rw[a b];exact SV.nil
 | false=>simp only[An];exact SV.imm (λ_=>rfl) (λx c=>rfl)
theorem Ay1 (x:Sl Int)(a:x.nil=true->x.l=[]):SV Za 1 x.l (if x.nil then .lit (.slice none 0 0)else .imm (x.l.flatMap Za) x.l.length 1):=by
 cases b:x.nil with
 | true=>simp only[if_true];rw[a b];exact SV.nil
 | false=>simp only[An];exact SV.imm (λ_=>rfl) (λx c=>rfl)
def Abt (x:xV):Prop:=(x.2.2.2.2.2.2.1.nil=true->x.2.2.2.2.2.2.1.l=[])/\(x.2.2.2.2.2.2.2.2.1.nil=true->x.2.2.2.2.2.2.2.2.1.l=[])/\(x.2.2.2.2.2.2.2.2.2.1.nil=true->x.2.2.2.2.2.2.2.2.2.1.l=[])/\x.2.2.2.2.2.1<=9223372036854775807
def Afe (x:xV)(h:Abt x):StpV:=⟨⟨x.1,x.2.1,x.2.2.1,x.2.2.2.1,x.2.2.2.2.1,x.2.2.2.2.2.1,x.2.2.2.2.2.2.1.l,x.2.2.2.2.2.2.2.1,x.2.2.2.2.2.2.2.2.1.l,x.2.2.2.2.2.2.2.2.2.1.l⟩,_,_,_,Akp _ h.1,Ay0 _ h.2.1,Ay1 _ h.2.2.1⟩
def Aff (x:xV):List AV:=[.lit (.int .u8 x.1.toNat)]++([.lit (.int .u8 x.2.1.toNat)]++([.lit (.int .u8 x.2.2.1.toNat)]++([I x.2.2.2.1]++([I x.2.2.2.2.1]++([I x.2.2.2.2.2.1]++([if x.2.2.2.2.2.2.1.nil then .lit (.slice none 0 0)else .imm (x.2.2.2.2.2.2.1.l.flatMap Ft) x.2.2.2.2.2.2.1.l.length 1]++([B x.2.2.2.2.2.2.2.1]++([if x.2.2.2.2.2.2.2.2.1.nil then .lit (.slice none 0 0)else .imm (x.2.2.2.2.2.2.2.2.1.l.flatMap rP) x.2.2.2.2.2.2.2.2.1.l.length 1]++([if x.2.2.2.2.2.2.2.2.2.1.nil then .lit (.slice none 0 0)else .imm (x.2.2.2.2.2.2.2.2.2.1.l.flatMap Za) x.2.2.2.2.2.2.2.2.2.1.l.length 1]++[])))))))))
theorem uN:∀(l:List xV),(∀x∈l,Abt x)->∃m:List StpV,m.length=l.length/\(∀y∈m,y.s.n<=9223372036854775807)/\∀enc:xV->List AV,(∀x (h:Abt x),enc x=D7 (Afe x h))->l.flatMap enc=m.flatMap D7
 | [],_=>⟨[],rfl,by simp,λ_ _=>rfl⟩
 | x::l,h=>by
  obtain⟨m,d,e,f⟩:=uN l λy a=>h y (by simp[a]);have b:=h x (by simp);refine⟨Afe x b::m,by simp[d],λy a=>?_,λenc c=>?_⟩
  ·rcases Al3.1 a with rfl | a
   ·exact b.2.2.2
   ·exact e y a
  ·rw[Al5,Al5,f enc c,c x b]
theorem Ay2 (s:Sl xV)(e:s.nil=true->s.l=[])(h:∀x∈s.l,Abt x)(enc:xV->List AV)(d:∀x (h:Abt x),enc x=D7 (Afe x h)):
  ∃m:List StpV,SV D7 10 m (if s.nil then .lit (.slice none 0 0)else .imm (s.l.flatMap enc) s.l.length 10)/\m.length=s.l.length/\∀y∈m,y.s.n<=9223372036854775807:=by
 obtain⟨m,a,b,c⟩:=uN s.l h;refine⟨m,?_,a,b⟩;cases f:s.nil with
 | true=>
  simp only[if_true];have:m=[]:=by have:=e f;rw[this]at a;exact List.length_eq_zero_iff.1 a
  rw[this];exact SV.nil
 | false=>
  simp only[An];rw[c enc d,<- a];exact SV.imm oQ λx _=>Axs x
theorem Afg {n:Int}(h:IntKind.i64.min<=n/\n<=IntKind.i64.max): -9223372036854775808<=n/\n<=9223372036854775807:=by
 simpa[IntKind.min,IntKind.max,IntKind.signed,IntKind.bits]using h
theorem Ay3 {N:Nat}{s:StS}{k:Nat}{p:AV}{H:AH}(h:StAt s k p H)(v:SW N s)(y:N<=900000):∃R,ImV s.kept.1 s.kept.2 R/\∀e,Grew H e->∃r H',(r=R/\Grew e H')/\Ba0 76 [.ptr k 0] e r H':=by
 obtain⟨a,b,c,d,A,h⟩:=h;obtain⟨m,t,z⟩:=v.kept;obtain⟨R,j,u⟩:=Aer h.kept (t.sm (by omega));refine⟨R,j,λe q=>Z0 ?_⟩;unfold Vj;obtain⟨f,i,rfl,w,x⟩:=j.agg2;have l:AE e (.agg [Ad,Ad])=some (.ptr e.length 0,e++[some (.cells [Ad,Ad])]):=by simp
 have g:=Grew.app e [some (.cells [Ad,Ad])];have o:AU 2 (e++[some (.cells [Ad,Ad])]) (.ptr e.length 0) (.agg [f,i])=some (e++[some (.cells [f,i])]):=by rw[AG (n:=2) (xs:=[f,i]) (cs:=[Ad,Ad]) (by simp[w,x]) (by simp) rfl (by simp)];simp[Bb]
 simp only[l,A6,Ag0,Ah (g.cells (q.cells h.obj)),(Aan _ _ _ _ _ _ _ _ _).2];refine Az u ?_;simp only[o,A9,Ah BE,qJ,Aa];exact⟨by trivial,Grew.app _ _⟩
theorem Ay4 {N:Nat}{s:StS}{a:Nat}{p:AV}{H:AH}(h:StAt s a p H)(d:SW N s)(b:N<=900000):∃R,ImV s.kept.1 s.kept.2 R/\∃r H',(r=R/\Grew H H')/\Ba0 76 [.ptr a 0] H r H':=by
 obtain⟨R,c,f⟩:=Ay3 h d b;exact⟨R,c,f H (Grew.refl H)⟩
theorem Ay5 {s:StS}{e:Nat}{p:AV}{H:AH}(h:StAt s e p H):Ba0 25 [.ptr e 0] H (I s.pend.length) H:=by
 obtain⟨r,H',⟨rfl,rfl⟩,g⟩:=VO (a0:=.ptr e 0) (H:=H) (K:=λr H'=>r=I s.pend.length/\H'=H) (by
  obtain⟨a,b,c,d,j,h⟩:=h;have i:j.length=s.pend.length:=by rw[<- h.pm,Ak8]
  have f:AW p=some (I (s.pend.length:Nat)):=by rw[<- i];exact Bt h.ps
  unfold P3;simp only[Ac9,Ah h.obj,f];exact⟨by trivial,by trivial⟩)
 exact g
theorem Ay6 {N:Nat}{s:StS}{t o:Nat}{p q:AV}{H:AH}(h:Duo s s t o p q H)(f:SW N s)(j:N<=900000):∃r H',(r=B true/\Grew H H')/\Ba0 35 [.ptr t 0,.ptr o 0] H r H':=Ys (by
 unfold SU;obtain⟨a,b,c,d,G,e⟩:=h.D;have F:G.length=s.pend.length:=by rw[<- e.pm,Ak8]
 obtain⟨Q,E,O⟩:=f.kept;obtain⟨M,z,r,J,⟨rfl,g⟩,A⟩:=Aeu h.P f j;refine bC_of A ?_;have n:=h.P.grew g;have k:=e.grew g;obtain⟨L,y,r,K,⟨rfl,i⟩,C⟩:=Ay4 n f j;have l:=k.grew i;have m:=n.grew i;have u:=Ws z e.now (f.now.sm (by omega));have v:=Ws y e.kept (E.sm (by omega));rw[Aws]at u v;have w:AW q=some (I (s.pend.length:Nat)):=by rw[<- F];exact Bt e.ps
 have x:=uX (h.grew (g.trans i)).D f j;simp only[Ag0,Ah e.obj,Ah k.obj,Aac];refine bP_of u ?_;simp only[Ai5,Hu];refine bC_of C ?_;simp only[Ag0,Ah k.obj,Ah l.obj,Aac,V7];refine bP_of v ?_;simp only[Ai5,Hu,Ao,if_true];refine bC_of (Ay5 m) ?_;simp only[Ac9,Ah l.obj,w,Bu,Af1,A7,Hu];refine bC_of (Aev m f j) ?_;refine bC_of x ?_;simp only[Bu,Af1,Ad5,Hu];refine bC_of (Asx m) ?_;simp only[Ac9,Ah l.obj,Anp,Ab7,true_and];exact g.trans i)
end Go.Proofs.YtbppnhenlboefaaGreat.Av
end
section
namespace Go.Proofs.YtbppnhenlboefaaGreat.Av
open Go Go.Proofs.Tryz
def Adk:FuncId->Bool:=hU [43,82,20,13,52,40,102,24,23,98,50,170,172,188,179,181,22,99,169,111,143,142,148,180,182,145,73,141,171,173,144,75,176,135,70,134,139,149,174,112,45,234,3,16,46,132,131,130,133,28,74,27]
def Adl:FuncId->Bool:=hU [11,36,15,30]
def Ob:Nat->Option (List Bool):=BI [(3,mk 33 0 [0,1,2,3,9])]
def Oc:Nat->Bool:=hU []
def Ph (p:List Bool)(n:Nat):List AV->AH->Kf->Prop:=AR prog A8 Adk Adl Oc Ob (sub p (AK f30)) n
def Oa:T14:=λa b c d e H K=>lp (mk 33 0 [0,1,2,3,9]) (Ph (pbZ 37) 4) [a,b,c,d,e] H (AP 0 (AO (Ph (pbZ 7) 9) (AN prog f30.results.toList K)))
def LB:T17:=λk a b c d e H K=>bO (AW c) λn=>bO (Ar .lss e n) λo=>bB o λl=>bI l (bO (AY 10 c e) λu=>bO (Aq true 10 H u) λv=>bC (Ba0 62 [a,b,v] H) λw f=>bO (D5 .not w) λx=>bB x λm=>bI m (K (B false) f) (bO (Ar .add e (I 1)) λy=>k [a,b,c,d,y] f)) (bH (Co H 1 1 (Bx [Ad] 1) [(0,1,d)]) λp g=>bA (Ba3 11 [a,(.lit (.string ⟨#[97]⟩)),p] g) λq h=>bH (Co h 1 1 (Bx [Ad] 1) [(0,1,d)]) λr i=>bC (Ba0 63 [b,(.lit (.string ⟨#[97]⟩)),r] i) λs j=>bO (Ar .eql q s) λt=>K t j)
theorem Sg {K:KT}:xP (λR a b c d e H=>LB R a b c d e H K) (λa b c d e H=>Oa a b c d e H K):=Anu (EO _ _) (λ_ _ _ _ _ _ _=>by kernel_rfl)
def LA:T13:=λa0 a1 a2 a H K=>Oa a0 a1 a2 a (I 0) H K
theorem Yu (a0 a1 a2 a:AV)(H:AH)(K:KT):WE prog A8 Adk Adl Oc Ob f30 [a0,a1,a2,a] H K=LA a0 a1 a2 a H K:=by kernel_rfl
theorem Yv {a0 a1 a2 a:AV}{H:AH}{K:KT}(h:LA a0 a1 a2 a H K):Ba3 30 [a0,a1,a2,a] H K:=
 L6 TA func30 (by kernel_rfl) (Eq.mpr (Yu a0 a1 a2 a H K) h)
def LC:Nat->Option (List Bool):=BI [(15,mk 85 0 [4,5,6,7,17,18,19]),(22,mk 85 0 [4,5,6,7,17,18,19,83]),(19,mk 85 0 [4,5,6,7,17,18,19,20]),(20,mk 85 0 [4,5,6,7,17,18,19,20,69]),(17,mk 85 0 [4,5,6,7,17,18,19,20]),(12,mk 85 0 [4,5,6,7,17,18,19])]
def LD:Nat->Bool:=hU []
def AZ (p:List Bool)(n:Nat):List AV->AH->Kf->Prop:=AR prog A8 Adk Adl LD LC (sub p (AK f9)) n
def Kr:T24:=λa e f g h b c d H K=>jn (mk 85 0 [4,5,6,7,17,18,19]) (AZ (pbZ 7359) 24) [e,f,g,h,b,c,d] H (M1 (mk 85 0 [4,5,6,7,17,18,19]) a (AP 0 (AO (AZ (pbZ 255) 24) (AN prog f9.results.toList K))))
def Ku:T21:=λa e f g h b c d i H K=>jn (mk 85 0 [4,5,6,7,17,18,19,83]) (AZ (pbZ 255167) 23) [e,f,g,h,b,c,d,i] H (AP 1 (AO (De (mk 85 0 [4,5,6,7,17,18,19]) (AZ (pbZ 7359) 24)) (M1 (mk 85 0 [4,5,6,7,17,18,19]) a (AP 0 (AO (AZ (pbZ 255) 24) (AN prog f9.results.toList K))))))
def Ks:T21:=λa f g h i b c d e H K=>jn (mk 85 0 [4,5,6,7,17,18,19,20]) (AZ (pbZ 124095) 22) [f,g,h,i,b,c,d,e] H (AP 1 (AO (De (mk 85 0 [4,5,6,7,17,18,19]) (AZ (pbZ 7359) 24)) (M1 (mk 85 0 [4,5,6,7,17,18,19]) a (AP 0 (AO (AZ (pbZ 255) 24) (AN prog f9.results.toList K))))))
def Kt:T29:=λa f g h j b c d e i H K=>jn (mk 85 0 [4,5,6,7,17,18,19,20,69]) (AZ (pbZ 222399) 21) [f,g,h,j,b,c,d,e,i] H (AO (De (mk 85 0 [4,5,6,7,17,18,19,20]) (AZ (pbZ 124095) 22)) (AP 1 (AO (De (mk 85 0 [4,5,6,7,17,18,19]) (AZ (pbZ 7359) 24)) (M1 (mk 85 0 [4,5,6,7,17,18,19]) a (AP 0 (AO (AZ (pbZ 255) 24) (AN prog f9.results.toList K)))))))
def Eo:T21:=λa f g h i b c d e H K=>jn (mk 85 0 [4,5,6,7,17,18,19,20]) (AZ (pbZ 58559) 19) [f,g,h,i,b,c,d,e] H (AP 1 (AO (De (mk 85 0 [4,5,6,7,17,18,19]) (AZ (pbZ 7359) 24)) (M1 (mk 85 0 [4,5,6,7,17,18,19]) a (AP 0 (AO (AZ (pbZ 255) 24) (AN prog f9.results.toList K))))))
def Kv:T16:=λd e f g a b c H K=>lp (mk 85 0 [4,5,6,7,17,18,19]) (AZ (pbZ 1215) 13) [d,e,f,g,a,b,c] H (AP 0 (AO (AZ (pbZ 255) 24) (AN prog f9.results.toList K)))
def IH:T24:=λa f g h i c d e H K=>bO (Ar .add e (I 1)) λb=>a [f,g,h,i,c,d,b] H
theorem QW (a:RT)(e f g h b c d:AV)(H:AH)(K:KT):Kr a e f g h b c d H K=IH a e f g h b c d H K:=(Bi _ _ _ _ _).trans (by kernel_rfl)
def IM:T21:=λa f g h i c d e j H K=>bB j λb=>bI b (K (B false) H) (Kr a f g h i c d e H K)
theorem Rc (a:RT)(e f g h b c d i:AV)(H:AH)(K:KT):Ku a e f g h b c d i H K=IM a e f g h b c d i H K:=(Bi _ _ _ _ _).trans (by kernel_rfl)
def IJ:T21:=λh u v w x b c t e H K=>bC (Ba0 12 [b,e] H) λi f=>bC (Ba0 34 [c,e] f) λm d=>bO (P9 prog .neq 30 i m) λa=>bG a false λq=>gO q (some b) λn=>bG a false λr=>gO r (some c) λo=>bG a false λs=>gC s (Ba0 35 [n,o] d) d λj g=>bG a false λp=>gO p (D5 .not j) λk=>bO (A0 a (B true) k) λl=>Ku h u v w x b c t l g K
theorem QY (a:RT)(f g h i b c d e:AV)(H:AH)(K:KT):Ks a f g h i b c d e H K=IJ a f g h i b c d e H K:=(Bi _ _ _ _ _).trans (by kernel_rfl)
def IL:T29:=λa h i j l d e f g k H K=>bB k λb=>bI b (bP (Ba1 3 [] H) λc=>K c H) (Ks a h i j l d e f g H K)
theorem QZ (a:RT)(f g h j b c d e i:AV)(H:AH)(K:KT):Kt a f g h j b c d e i H K=IL a f g h j b c d e i H K:=(Bi _ _ _ _ _).trans (by kernel_rfl)
def II:T21:=λc h i j k e a f g H K=>bC (Ba0 33 [a] H) λd b=>Kt c h i j k e a f g d b K
theorem QX (a:RT)(f g h i b c d e:AV)(H:AH)(K:KT):Eo a f g h i b c d e H K=II a f g h i b c d e H K:=(Bi _ _ _ _ _).trans (by kernel_rfl)
def IN:T24:=λg c d e b h i a H K=>bO (Ar .lss a (I 2)) λm=>bB m λk=>bI k (bC (Ba0 17 [c,d,e] H) λn j=>bH (Gt 1 16 j n b) λo f=>bO (Ar .eql a (I 1)) λp=>bB p λl=>bI l (Eo g c d e b h i a b f K) (Eo g c d e b h i a o f K)) (bP (Ba1 3 [] H) λq=>K q H)
theorem OO {K:KT}:Aaq (λR d e f g a b c H=>IN R d e f g a b c H K) (λd e f g a b c H=>Kv d e f g a b c H K):=Agn (EO _ _) (λ_ _ _ _ _ _ _ _ _=>by kernel_rfl)
def Jk:T23:=λa0 a1 a2 h m n o i H K=>bP (Ba1 27 [a2,(I 15)] H) λr=>bO (D5 .not r) λb=>bG b false λN=>gO N (some h) λA=>bG b false λU=>gO U (AW A) λG=>bG b false λV=>gO V (Ar .gtr G (I 200)) λJ=>bO (A0 b (B true) J) λd=>bG d false λW=>gO W (some i) λs=>bG d false λL=>gP L (Ba1 28 [s,(I 45)] H) λt=>bG d false λM=>gO M (D5 .not t) λu=>bO (A0 d (B true) u) λv=>bB v λp=>bI p (bP (Ba1 3 [] H) λw=>K w H) (bC (Ba0 10 [a0] H) λc j=>bC (Ba0 29 [a0] j) λe f=>bO (vA .eql pZ c (.lit (.pointer none))) λa=>bG a false λO=>gO O (some c) λx=>bG a false λP=>gO P (some e) λy=>bG a false λQ=>gO Q (some a2) λz=>bG a false λR=>gO R (some h) λC=>bG a false λS=>gA S (Ba3 30 [x,y,z,C] f) f λD g=>bG a false λT=>gO T (D5 .not D) λE=>bO (A0 a (B true) E) λF=>bB F λq=>bI q (K (B false) g) (bC (Ba0 31 [c,a1] g) λX k=>bC (Ba0 32 [e,a1] k) λY l=>Kv m n o i c e (I 0) l K))
theorem VI (a0 a1 a2 a b c d e:AV)(H:AH)(K:KT):WE prog A8 Adk Adl LD LC f9 [a0,a1,a2,a,b,c,d,e] H K=Jk a0 a1 a2 a b c d e H K:=by kernel_rfl
theorem VJ {a0 a1 a2 a b c d e:AV}{H:AH}{K:KT}(h:Jk a0 a1 a2 a b c d e H K):Ba3 9 [a0,a1,a2,a,b,c,d,e] H K:=
 L6 TA func9 (by kernel_rfl) (Eq.mpr (VI a0 a1 a2 a b c d e H K) h)
end Go.Proofs.YtbppnhenlboefaaGreat.Av
end
section
set_option maxHeartbeats 2000000
namespace Go.Proofs.YtbppnhenlboefaaGreat.Av
open Go Go.RowKit Go.Proofs.Tryz
def Abl (l:List Tx)(a:Int):Prop:=(l.length:Int)<=a/\∀t∈l,t.length<=40
instance (l:List Tx) (a:Int):Decidable (Abl l a):=by unfold Abl;infer_instance
theorem Ay7 {l:List Tx}{v:AV}(c:SV BT 1 l v)(hl:l.length<=9223372036854775807)(hs:∀t∈l,t.length<=9223372036854775807)(a:Int):Ba2 28 [v,I a] (B (decide (Abl l a))):=BPure.val (by simp[AF,noIds,c.1]) rfl (bZ (by
 have w:(false==true)=false:=rfl;unfold Wv;refine UH (λn i s u H'=>∃k:Nat,k+n=l.length/\i=v/\s=I a/\u=I k/\∀m t,m<k->l[m]?=some t->t.length<=40) ?_ l.length ⟨0,by omega,rfl,rfl,rfl,by omega⟩;rintro n i s u H' R y ⟨k,G,rfl,rfl,rfl,p⟩;unfold NZ;have r:(l.length<=k\/a<=(k:Int))->bO (AW i) λD=>bO (Ar .leq D (I a)) λE=>E=B (decide (Abl l a)):=by intro F;simp only[c.len,Aa,Vx];have:((l.length:Int)<=a)=(Abl l a):=propext ⟨λh=>⟨h,λt b=>by obtain⟨m,d⟩:=Ak0.1 b;have:=(BG.1 d).1;exact p m t (by omega) d⟩,λh=>h.1⟩;simp only[this]
 simp only[c.len,Ad5,AM];rcases Aj5 k l.length with q | z;rotate_left
 ·simp only[show ¬(k:Int)<(l.length:Int) by omega,Ag7,w];have:=r (.inl z);simp only[c.len,Aa]at this;exact this
 simp only[show(k:Int)<(l.length:Int) by omega,Ag6,AM];by_cases o:(k:Int)<a;rotate_left
 ·simp only[o,Aa8];have:=r (.inr (by omega));simp only[c.len,Aa]at this;exact this
 have g:=Dq q;have f:=Ar0 q;generalize l[k]=x at g f;have A:∀t,Aq false 1 H' (.ip (BT x++t))=some (S (Ax x)):=λ_=>rfl;simp only[o,Ab7,c.idx (λ_=>rfl) g rfl,A,Aa5,FL (hs x f),C8];by_cases j:(40:Int)<(x.length:Int)
 ·have:¬Abl l a:=λh=>by have:=h.2 x f;omega
  simp only[j,Ab7,this,B8]
 ·have C:Ar .add (I (k:Int)) (I 1)=some (I ((k+1:Nat):Int)):=by rw[Au (by omega) (by omega)];congr 3
  simp only[j,Ac4,C];refine y (n - 1) _ _ _ _ (by omega) ⟨k+1,by omega,rfl,rfl,rfl,λm t d b=>?_⟩;by_cases e:m=k
  ·rw[e,g]at b;injection b with b;rw[<- b];omega
  ·exact p m t (by omega) b))
theorem Ay8 {N:Nat}{s:StS}{g:Nat}{q:AV}{H:AH}(h:DsAt s g q H)(F:SW N s)(P:N<=900000):∃r H',((∃b:Bool,r=B b)/\H'=H)/\Ba0 33 [.ptr g 0] H r H':=Yw (by
 have z:(false==true)=false:=rfl;obtain⟨a,b,c,d,V,m⟩:=h;obtain⟨L,O,f,e,Q,l,C⟩:=m.now;injection e with e;injection e with w e;injection e with y e;subst w;subst y;have E:=F.now.sm (M:=N) (by omega);have S:f.length<=100000:=by have:=E.2.1;rw[<- C,Ak8]at this;omega
 unfold Td;refine Sh (λn u v H'=>∃k:Nat,k+n=f.length/\u=.ptr g 0/\v=I k/\H'=H) ?_ f.length ⟨0,by omega,rfl,rfl,rfl⟩;rintro n u v H' R A ⟨k,U,rfl,rfl,rfl⟩;unfold LE;simp only[Ag8,Ah m.obj,l.len,AM];rcases Aj5 k f.length with D | T;rotate_left
 ·simp only[show ¬(k:Int)<(f.length:Int) by omega,Aa8];exact⟨⟨false,rfl⟩,by trivial⟩
 have o:=Dq D;generalize f[k]=x at o;have K:∀t,Ab 1 (.ip (BS x++t))=some (.ip ((BS x++t).drop 1)):=λ_=>rfl;have J:∀t,Ab 0 (.ip ((BS x++t).drop 1))=some (.ip ((BS x++t).drop 1)):=λ_=>rfl;have G:∀t,Aq false 1 H' (.ip ((BS x++t).drop 1))=some (I x.nd.size):=λ_=>rfl;have p:Ar .add (I (k:Int)) (I 1)=some (I ((k+1:Nat):Int)):=by rw[Au (by omega) (by omega)];congr 3
 simp only[show(k:Int)<(f.length:Int) by omega,Ab7,l.idx BN o rfl,K,J,G,Ad5,C8];have next:R [.ptr g 0,I ((k+1:Nat):Int)] H':=A (n - 1) _ _ _ (by omega) ⟨k+1,by omega,rfl,rfl,rfl⟩
 by_cases i:3000<x.nd.size
 ·simp only[i,Ag6,Vx];by_cases j:x.nd.size<=32768
  ·simp only[j,Ab7];exact⟨⟨true,rfl⟩,by trivial⟩
  ·simp only[j,Ac4,p];exact next
 ·simp only[i,Ag7,z,p];exact next)
theorem Adm {a H:AH}{v x:AV}{l m:List Tx}(g:Grew a H)(k:Ac H 1 v=some (l.flatMap BT,l.length))(j:Bm v=true)(hi:∀i∈Ba v,a.length<=i)(n:Ac H 1 x=some (m.flatMap BT,m.length))(hl:l.length<=1000)(q:m.length<=1000):
  ∃r H',Gt 1 16 H v x=some (r,H')/\Ac H' 1 r=some ((l++m).flatMap BT,(l++m).length)/\Bm r=true/\(∀i∈Ba r,a.length<=i)/\Grew a H':=by
 obtain⟨r,H',b,a2,c,o,d,e⟩:=Cn (sz:=1) (bytes:=16) k j (AA n) (by omega);have p:=g.1;refine⟨r,H',b,by rw[c,Am6,Ak1],a2,λi f=>(e i f).elim (hi i) (λz=>by omega),by omega,λi h=>?_⟩;rw[d i (by omega) (λz=>by have:=hi i z;omega)];exact g.2 i h
def Abm (w:Nat)(x y:Tx):List Tx:=if w % 4=1 then [alwA,x,y]else if w % 4=2 then [x,y,nevA]else if w % 4=3 then [x,y,nevA,autA]else [x,y]
theorem Ay9 (w:Nat)(x y:Tx):(Abm w x y).length<=4:=by
 unfold Abm;split
 ·simp
 ·split
  ·simp
  ·split<;>simp
theorem Aya (w:Nat)(x y:Tx){n:Nat}(e:20<=n)(f:x.length<=n)(g:y.length<=n):∀t∈Abm w x y,t.length<=n:=by
 have b:alwA.length<=20:=by decide
 have c:nevA.length<=20:=by decide
 have d:autA.length<=20:=by decide
 intro t a;unfold Abm at a;split at a
 ·simp only[Ae7]at a;rcases a with rfl | rfl | rfl<;>omega
 ·split at a
  ·simp only[Ae7]at a;rcases a with rfl | rfl | rfl<;>omega
  ·split at a
   ·simp only[Ae7]at a;rcases a with rfl | rfl | rfl | rfl<;>omega
   ·simp only[Ae7]at a;rcases a with rfl | rfl<;>omega
theorem Ayb (w x y:UInt8)(H:AH):∃r H',(Ac H' 1 r=some ((Abm w.toNat (Ig x) (Ig y)).flatMap BT,(Abm w.toNat (Ig x) (Ig y)).length)/\Bm r=true/\(∀i∈Ba r,H.length<=i)/\Grew H H')/\Ba0 17 [.lit (.int .u8 w.toNat),.lit (.int .u8 x.toNat),.lit (.int .u8 y.toNat)] H r H':=Zm (by
 have z:=w.toNat_lt;unfold UI;refine bC_of (Ajz x H) ?_;refine bC_of (Ajz y H) ?_;generalize Ig x=X;generalize Ig y=Y;generalize w.toNat=w at*;have t:Co H 1 2 (Bx [(.lit (.string ⟨#[]⟩))] 2) [(0,1,S (Ax X)),(1,1,S (Ax Y))]=some (.sl H.length 0 2 1 (.ex 2),H++[some (.cells ([X,Y].flatMap BT))]):=rfl;have u:Ar .rem (.lit (.int .u8 (w:Int))) (.lit (.int .u8 4))=some (.lit (.int .u8 ((w % 4:Nat):Int))):=by rw[YB (by omega) (by omega)];rfl
 simp only[t,A6,u,Aa5,Bu];have c:=Grew.app H [some (AObj.cells ([X,Y].flatMap BT))];have k:Ac (H++[some (AObj.cells ([X,Y].flatMap BT))]) 1 (.sl H.length 0 2 1 (.ex 2))=some (([X,Y]:List Tx).flatMap BT,([X,Y]:List Tx).length):=by rw[AS BE (by simp[BT])];rfl
 generalize (H++[some (AObj.cells ([X,Y].flatMap BT))])=H5 at*;have o:∀i∈Ba (AV.sl H.length 0 2 1 (.ex 2)),H.length<=i:=λi n=>by simp only[Ba,An1]at n;omega
 unfold Abm;by_cases p:w % 4=1
 ·rw[if_pos p];simp only[show(((w % 4:Nat):Int)=1)from by omega,Ab7];have b:Co H5 1 1 (Bx [(.lit (.string ⟨#[]⟩))] 1) [(0,1,(.lit (.string ⟨#[45,45,115,112,97,114,115,101,61,97,108,119,97,121,115]⟩)))]=some (.sl H5.length 0 1 1 (.ex 1),H5++[some (.cells ([alwA].flatMap BT))]):=rfl;have a:=Grew.app H5 [some (AObj.cells ([alwA].flatMap BT))];have j:Ac (H5++[some (AObj.cells ([alwA].flatMap BT))]) 1 (.sl H5.length 0 1 1 (.ex 1))=some (([alwA]:List Tx).flatMap BT,([alwA]:List Tx).length):=by rw[AS BE (by simp[BT])];rfl
  have v:=c.1;obtain⟨r,H',d,e,f,g,h⟩:=Adm (l:=[alwA]) (m:=[X,Y]) (c.trans a) j rfl (λi n=>by simp only[Ba,An1]at n;omega) (a.slice k) (by simp) (by simp);simp only[b,A6,d];exact⟨e,f,g,h⟩
 rw[if_neg p];simp only[show ¬(((w % 4:Nat):Int)=1)from by omega,Aa8];by_cases q:w % 4=2
 ·rw[if_pos q];simp only[show(((w % 4:Nat):Int)=2)from by omega,Ab7];have b:Co H5 1 1 (Bx [(.lit (.string ⟨#[]⟩))] 1) [(0,1,(.lit (.string ⟨#[45,45,115,112,97,114,115,101,61,110,101,118,101,114]⟩)))]=some (.sl H5.length 0 1 1 (.ex 1),H5++[some (.cells ([nevA].flatMap BT))]):=rfl;have a:=Grew.app H5 [some (AObj.cells ([nevA].flatMap BT))];have j:Ac (H5++[some (AObj.cells ([nevA].flatMap BT))]) 1 (.sl H5.length 0 1 1 (.ex 1))=some (([nevA]:List Tx).flatMap BT,([nevA]:List Tx).length):=by rw[AS BE (by simp[BT])];rfl
  obtain⟨r,H',d,e,f,g,h⟩:=Adm (l:=[X,Y]) (m:=[nevA]) (c.trans a) (a.slice k) rfl o j (by simp) (by simp);simp only[b,A6,d];exact⟨e,f,g,h⟩
 rw[if_neg q];simp only[show ¬(((w % 4:Nat):Int)=2)from by omega,Aa8];by_cases s:w % 4=3
 ·rw[if_pos s];simp only[show(((w % 4:Nat):Int)=3)from by omega,Ab7];have b:Co H5 1 2 (Bx [(.lit (.string ⟨#[]⟩))] 2) [(0,1,(.lit (.string ⟨#[45,45,115,112,97,114,115,101,61,110,101,118,101,114]⟩))),(1,1,(.lit (.string ⟨#[45,45,115,112,97,114,115,101,61,97,117,116,111]⟩)))]=some (.sl H5.length 0 2 1 (.ex 2),H5++[some (.cells ([nevA,autA].flatMap BT))]):=rfl;have a:=Grew.app H5 [some (AObj.cells ([nevA,autA].flatMap BT))];have j:Ac (H5++[some (AObj.cells ([nevA,autA].flatMap BT))]) 1 (.sl H5.length 0 2 1 (.ex 2))=some (([nevA,autA]:List Tx).flatMap BT,([nevA,autA]:List Tx).length):=by rw[AS BE (by simp[BT])];rfl
  obtain⟨r,H',d,e,f,g,h⟩:=Adm (l:=[X,Y]) (m:=[nevA,autA]) (c.trans a) (a.slice k) rfl o j (by simp) (by simp);simp only[b,A6,d];exact⟨e,f,g,h⟩
 rw[if_neg s];simp only[show ¬(((w % 4:Nat):Int)=3)from by omega,Aa8];exact⟨k,rfl,o,c⟩)
end Go.Proofs.YtbppnhenlboefaaGreat.Av
end
section
set_option maxHeartbeats 2000000
namespace Go.Proofs.YtbppnhenlboefaaGreat.Av
open Go Go.RowKit Go.Proofs.Tryz
theorem Ayc {N:Nat}{s:StS}(h:SW N s)(nm:List UInt8){l:List (List UInt8)}(hl:∀b∈l,b.length<=4096):SW (N+2+9*Nl (l.flatMap BZ)) (qM s nm l).2:=by
 rw[<- Ako hl];exact Ajw h nm _
theorem Ayd {N:Nat}{s:StS}{k h:Nat}{p q v bv:AV}{H:AH}{l:List StpV}{b:List UInt8}(g:Duo s s k h p q H)(c:SW N s)(T:SV D7 10 l v)(hf:∀x∈l,¬Vs x.s/\x.s.n<=9223372036854775807)(aj:l.length<=15)(o:SV Ft 1 b bv)(ah:b.length<=200)(hN:N<=1000):
  Ba3 30 [.ptr k 0,.ptr h 0,v,bv] H λr H'=>r=B true/\∃s' p' q',Duo s' s' k h p' q' H'/\SW 5000 s':=Yv (by
 unfold LA;have A:=SV.oneA o;refine Sg (λm X Y Z x3 x9 H'=>∃(j:Nat) (s':StS) (p' q':AV),j+m=l.length/\X=.ptr k 0/\Y=.ptr h 0/\Z=v/\bv=x3/\x9=I j/\Duo s' s' k h p' q' H'/\SW (N+90*j) s') ?_ l.length ⟨0,s,p,q,by omega,rfl,rfl,rfl,rfl,rfl,g,c⟩;rintro m X Y Z x3 x9 C R hR ⟨j,s',p',q',hj,rfl,rfl,rfl,rfl,rfl,g,c⟩;unfold LB;simp only[T.len,Ac1];rcases Aj5 j l.length with O | ai
 ·have a:=Dq O;have Q:=Ar0 O;generalize l[j]=x at a Q;obtain⟨U,V⟩:=hf x Q;obtain⟨r,H4,⟨rfl,p4,q4,aa⟩,u⟩:=Axz g c (by omega) x U V;have w4:=Axy c U V;have q2:Ar .add (I (j:Int)) (I 1)=some (I ((j+1:Nat):Int)):=by rw[Au (by omega) (by omega)];congr 3
  simp only[show((j:Int)<(l.length:Int)) by omega,Aj0,T.idx oQ a rfl,rdP];refine bC_of u ?_;simp only[Ag1,Aa3,q2];exact hR (m - 1) _ _ _ _ _ _ (by omega) ⟨j+1,_,p4,q4,by omega,rfl,rfl,rfl,rfl,rfl,aa,by rw[show N+90*(j+1)=N+90*j+90 by omega];exact w4⟩
 have c:SW (N+1350) s':=c.mono (by omega);have tA:(AV.lit (.string ⟨#[97]⟩))=S (Ax [97]):=rfl;have g1:=Grew.app C [some (AObj.cells [bv])];have ak:=g.P.os_lt;have ad:=g.P.p_lt;have G:=g.grew g1;have M:∀x∈([b]:List (List UInt8)),x.length<=4096:=by intro x a;simp only[Ae7]at a;subst a;omega
 obtain⟨-,-,F⟩:=dJ (bl:=[(bv,b)]) (by intro x a;simp only[Ae7]at a;subst a;simp only;omega);have c4:Nl (([b]:List (List UInt8)).flatMap BZ)<=200:=by
  have:([b]:List (List UInt8)).flatMap BZ=([(bv,b)]:List (AV×List UInt8)).flatMap λx=>BZ x.2:=by simp
  rw[this,F];simp;omega
 have ab:=Ako (s:=s') (nm:=[97]) M;have w5:=(Ayc c [97] M).mono (show _<=5000 by omega);simp only[show ¬((j:Int)<(l.length:Int)) by omega,Aa8,iB A,A6,tA]
 refine⟨_,Ajq (nm:=[97]) (a2:=.sl C.length 0 1 1 (.ex 1)) (bl:=[(bv,b)]) G.P c (by simp) (by rw[AS BE (by simp)];rfl) (by
  intro i d;simp only[Ba,An1]at d;subst d;exact⟨by omega,λz=>by have:=ad _ z;omega⟩) (by
  intro x a;simp only[Ae7]at a;subst a;exact⟨o.bytes _,A,by simp only;omega,by simp only[o.noId];simp⟩) (by simp) (by rw[F];simp;omega),?_⟩
 rintro r f ⟨p5,rfl,K,f5⟩;have e:([(bv,b)]:List (AV×List UInt8)).flatMap (λx=>BZ x.2)=([b]:List (List UInt8)).flatMap BZ:=by simp
 rw[e,ab]at K|-;have t:=G.stepP K f5;have g2:=Grew.app f [some (AObj.cells [bv])];have J:=t.grew g2;have ag:=t.D.os_lt;have ae:=t.D.p_lt;have af:(f++[some (AObj.cells [bv])])[f.length]?=some (some (.cells [bv])):=BE
 try simp only[iB A,A6]
 obtain⟨r,H7,⟨rfl,q7,L,f7⟩,u⟩:=Axr (nm:=[97]) (w:=.sl f.length 0 1 1 (.ex 1)) (bl:=[(bv,b)]) J.D c (by simp) (by simp) (λHx a i z y=>by
   have d:i=0:=by have:=(BG.1 y).1;simp at this;omega
   subst d;simp only[BH,Aq5]at y;subst y;have:=(a f.length (by simp[Ba])).trans af;exact⟨.ptr f.length 0,rfl,by rw[Ah this];rfl⟩) (by
   intro i d;simp only[Ba,An1]at d;subst d;exact⟨by simp,by omega,λz=>by have:=ae _ z;omega⟩) (by
   intro x a;simp only[Ae7]at a;subst a;exact⟨o,by simp only;omega⟩) (by simp) (by simp[Nl];omega)
 refine bC_of u ?_;have em:([(bv,b)]:List (AV×List UInt8)).map Prod.snd=[b]:=rfl;rw[em]at L|-;simp only[Bu,B3,Aa];exact⟨by trivial,_,p5,q7,J.stepD L f7,w5⟩)
end Go.Proofs.YtbppnhenlboefaaGreat.Av
end
section
end
