/- Texts of this proof, one behind the other, packed into one file by a program of this session. No condition. -/
import Derived.Test.YtbppnhenlboefaaGreatMhG
set_option linter.unusedVariables false
set_option linter.unusedSimpArgs false
set_option maxRecDepth 100000
namespace Go.Proofs.YtbppnhenlboefaaGreat.Av
open Go Go.RowKit Go.Proofs.Tryz
section
section
variable {κ α : Type} [DecidableEq κ] {c : κ→κ→Int} {key : α→κ}
end
abbrev An9:=@List.mem_erase_of_ne
theorem aP:∀{A B:List Int},A.Nodup→(∀a∈A,a∈B)→B.length≤A.length→∀b∈B,b∈A
 | [],B,_,_,hl,b,hb=>by
  have:B=[]:=List.length_eq_zero_iff.1 (by simpa using hl);rw[this]at hb;exact hb
 | a::A,B,hn,hs,hl,b,hb=>by
  rw[Ai9]at hn
  by_cases e:b=a
  ·simp[e]
  ·have haB:=hs a (by simp)
   have hl2:(B.erase a).length≤A.length:=by
    rw[List.length_erase_of_mem haB];simp at hl;omega
   have:=aP (A:=A) (B:=B.erase a) hn.2 (λx hx=>(An9 (fun (e2:x=a)=>hn.1 (e2▸hx))).2 (hs x (by simp[hx]))) hl2 b ((An9 e).2 hb)
   simp[this]
def okP (N:List Nd)(ns:List Nm)(ds:List Nd):Prop:=iG ns∧Cb Cc Nd.ino ds∧(∀x∈ns,AO Nd.ino N x.ino)∧∀d∈ds,Cs d.size d.l
theorem YU {ns:List Nm}{ds:List Nd}:Km ns ds↔ns.length≤16∧ds.length=ns.length∧okP ds ns ds:=by
 unfold Km QH lO okP
 constructor
 ·rintro⟨⟨h1,h2⟩,h3,h4,h5⟩
  refine⟨h1,h3,h2,h4,?_,λd hd=>(h5 d hd).2⟩
  have hn:(ds.map Nd.ino).Nodup:=by
   rw[List.Nodup,Aj6];exact h4.imp λh=>by rw[Xh]at h;omega
  have:=aP (A:=ds.map Nd.ino) (B:=ns.map Nm.ino) hn (λa ha=>by
   obtain⟨d,hd,rfl⟩:=Ae6.1 ha;obtain⟨x,hx,e⟩:=(h5 d hd).1;rw[← e];exact Af7 hx) (by simp[h3])
  intro x hx;obtain⟨d,hd,e⟩:=Ae6.1 (this x.ino (Af7 hx));exact⟨d,hd,e⟩
 ·rintro⟨h1,h3,h2,h4,h5,h6⟩
  refine⟨⟨h1,h2⟩,h3,h4,λd hd=>⟨?_,h6 d hd⟩⟩
  have:=aP (A:=ns.map Nm.ino) (B:=ds.map Nd.ino) h2.2.2 (λa ha=>by
   obtain⟨x,hx,rfl⟩:=Ae6.1 ha;obtain⟨d,hd,e⟩:=h5 x hx;rw[← e];exact Af7 hd) (by simp[h3])
  obtain⟨x,hx,e⟩:=Ae6.1 (this d.ino (Af7 hd));exact⟨x,hx,e⟩
end
section
def cS (o:Option Gr):Int:=(o.getD (0,[])).1
def cL (o:Option Gr):List Ext:=(o.getD (0,[])).2
theorem SY (l:List Ext):A6 (l.flatMap Ax)=true:=De λx _=>ET x
def ContK (res:Option Gr)(r:AV)(X:AH):Prop:=∃w,r=.tup [.agg [I (cS res),w],B res.isSome]∧Aa X 9 w=some ((cL res).flatMap Ax,(cL res).length)
theorem ContK.none {res:Option Gr}(h:res=none){X:AH}:ContK res (.tup [.agg [I 0,Ad],B false]) X:=by
 subst h;exact⟨_,rfl,rfl⟩
theorem ContK.some {res:Option Gr}{s:Int}{l:List Ext}(h:res=some (s,l)){X:AH}{w:AV}(hw:Aa X 9 w=some (l.flatMap Ax,l.length)):ContK res (.tup [.agg [I s,w],B true]) X:=by
 subst h;exact⟨_,rfl,hw⟩
theorem BPure.cont {P:Program}{f:FuncId}{args:List AV}{res:Option Gr}(hb:A6 args=true)(h:∃r X,ContK res r X∧BCall P f args [] r X):
  ∃R,SV Ax 9 (cL res) R∧BPure P f args (.tup [.agg [I (cS res),R],B res.isSome]):=by
 obtain⟨r,X,⟨w,rfl,hw⟩,h⟩:=h;obtain⟨R,hR,fR⟩:=FZ.sv hw (SY _);obtain⟨R',⟨rfl,_⟩,h2⟩:=BPure.FZ (Q:=λR'=>R'=.tup [.agg [I (cS res),R],B res.isSome]∧True) hb ⟨_,X,⟨_,FZ.tup (FZs.cons (FZ.agg (FZs.cons (FZ.lit _) (FZs.cons fR FZs.nil))) (FZs.cons (FZ.lit _) FZs.nil)),rfl,trivial⟩,h⟩;exact⟨R,hR,h2⟩
theorem kF {x:Ext}{k:Nat}{bs:List UInt8}(h:k+bs.length≤8):Ax (Vj x k bs)=B2 (Ax x) (1+k) (AB bs):=by
 have e:B2 (Ax x) (1+k) (AB bs)=I x.no::B2 (AB x.b) k (AB bs):=by
  unfold B2 Ax;rw[Ak9 1 k,Ao1,show k+1+(AB bs).length=(k+(AB bs).length)+1 by omega,Am2];rfl
 rw[e,W5];unfold Ax;rw[dG,lX h]
theorem pS {H:AH}{w s:AV}{l:List Ext}{bs:List UInt8}{x:Ext}{i k m:Nat}{a b:Int}(hw:Aa H 9 w=some (l.flatMap Ax,l.length))(ho:AP w=true)(hx:l[i]?=some x)(hs:Aa H 1 s=some (AB bs,m))(hk:k+bs.length≤8)(ha:a=i)(hb:b=k):
  ∃p q d H',Bj 9 w (I a)=some p∧Ac 1 p=some q∧Lx 8 1 H q (some (I b)) none=some d∧Oe 1 H d s=some (I bs.length,H')∧H'.length=H.length∧(∀j,j∉AU w→H'[j]?=H[j]?)∧Aa H' 9 w=some ((l.set i (Vj x k bs)).flatMap Ax,l.length):=by
 subst ha;subst hb;have hi:=(BD.1 hx).1;obtain⟨o,off,cap,cells,rfl,h1,h2,h3⟩:=HL hw ho (by omega);have hol:=(BD.1 h1).1;have hm:m=bs.length:=by have:=Cf hs;rw[B3]at this;omega
 subst hm;have hmul:i*9+9≤l.length*9:=by rw[← Af6];exact Ad0 _ hi
 have e1:min bs.length (8 - k)=bs.length:=by omega
 refine⟨.ptr o (off+i*9),.ptr o (off+i*9+1),.sl o (off+i*9+1+k) (8 - k) 1 (.ex (8 - k)),H.set o (some (.cells (B2 cells (off+(i*9+(1+k))) (AB bs)))),?_,rfl,?_,?_,by simp,λj hj=>C4 (by simp[AU]at hj;omega),?_⟩
 ·simp only[Bj,J8]
  rw[if_pos ⟨by omega,by omega⟩];simp
 ·simp[Lx,Bs,h1];omega
 ·unfold Oe eE
  rw[AI hs];simp only[h1];rw[if_pos ⟨trivial,by omega⟩,e1,Ah5,Ac1 (by rw[B3];omega)];simp only[show off+i*9+1+k=off+(i*9+(1+k)) by omega]
 ·rw[A9 (c:=B2 cells (off+(i*9+(1+k))) (AB bs)) (by simp[hol]) (by rw[G8 (by rw[B3];omega)];exact h2)]
  rw[NX h2 (by rw[B3];omega),← h3,NW A1 hx (kF hk) (by rw[B3];omega)]
theorem OF (pos:Int)(n:Nat)(hn:n≤281474976710656):BPure prog 98 [I pos,I n] (B (decide (0≤pos∧n≤4096∧pos≤1099511627776 - n))):=BPure.flat λH=>U5 (by
 unfold SI
 by_cases h1:0≤pos
 ·by_cases h2:n≤4096
  ·have:(n:Int)≤4096:=by omega
   simp[h1,h2,this,BM (a:=1099511627776) (b:=n) (by omega) (by omega)]
  ·have:¬(n:Int)≤4096:=by omega
   simp[h1,h2,this]
 ·simp[h1])
theorem U9 {size:Int}{l:List Ext}{v bv:AV}{bs:List UInt8}(hv:SV Ax 9 l v)(hl:l.length≤1000000)(pos:Int)(hb:SV Je 1 bs bv)(hbl:bs.length≤281474976710656):
  ∃R,SV Ax 9 (cL (DE (size,l) pos bs)) R∧BPure prog 188 [.agg [I size,v],I pos,bv] (.tup [.agg [I (cS (DE (size,l) pos bs)),R],B (DE (size,l) pos bs).isSome]):=by
 refine BPure.cont (by simp[A6,noIds,hv.1,hb.1]) (T5 ?_);unfold Qq;simp[EC hv,Ao];refine A4 (Fd hv (by omega)) ?_
 by_cases h1:Cs size l
 ·simp[h1,hb.len]
  refine A4 (OF pos bs.length hbl) ?_
  by_cases h2:0≤pos∧bs.length≤4096∧pos≤1099511627776 - bs.length
  ·have hw:DE (size,l) pos bs=some (if bs=[]then(size,l)else(max size (pos+bs.length),Bo l pos bs)):=if_pos ⟨h1,h2⟩
   obtain⟨g1,g2,g3⟩:=h2;simp[g1,g2,g3];obtain⟨r,H2,⟨w,rfl,a2,a3,a4,a5⟩,a1⟩:=Qe (size:=size) (hv.2 [some (.cells [I size,v]),some (.cells [I 0,Ad])]) (EC hv) (by omega);refine bC_of a1 ?_;have c0:=a4.cells (o:=0) (x:=some (.cells [I size,v])) rfl;have c1:=a4.cells (o:=1) (x:=some (.cells [I 0,Ad])) rfl;have hl2:=a4.1;simp only[yU]at hl2;have hwo:=AM a2;have id0:∀j,j<2→j∉AU w:=λj hj h=>by have:=a5 j h;simp at this;omega
   rw[AC (n:=2) (off:=0) (x:=.agg [I size,w]) (xs:=[I size,w]) (by simp[hwo]) c0 rfl (by simp)];simp
   by_cases hbs:bs=[]
   ·subst hbs
    simp[show 0<H2.length by omega];rw[AC (n:=2) (off:=0) (x:=.agg [I size,w]) (xs:=[I size,w]) (cs:=[I 0,Ad]) (by simp[hwo]) (by rw[C4 (by omega)];exact c1) rfl (by simp)];simp[show 1<H2.length by omega]
    exact ContK.some hw (Ae a3 λi hi=>by
     have h2:2≤i:=Ah2 λh=>id0 i h hi
     rw[C4 (by omega),C4 (by omega)])
   ·have hlen:0<bs.length:=List.length_pos_iff.2 hbs
    rw[if_neg hbs]at hw;simp[hbs];obtain⟨pv,hpv,pq⟩:=Tb ⟨pos,bs.length⟩ (unit:=8) (by omega);refine A4 pq ?_;have hP:Dx ⟨pos,bs.length⟩ 8=BU bs.length pos bs.length 8:=if_pos ⟨by simp only[MaySpan,May];omega,by simp only;omega,by omega⟩;generalize Dx ⟨pos,(bs.length:Int)⟩ 8=parts at hpv hP;simp[hpv.len];have hs0:=LD h1.2.2;refine Mq (λn x1 x2 x3 x6 x33 x34 x35 H=>∃(j d:Nat) (w:AV),j+n=parts.length∧x1=I pos∧x2=bv∧x3=.ptr 0 0∧x6=.ptr 1 0∧x33=pv∧x34=I parts.length∧x35=I j∧H[0]?=some (some (.cells [I size,w]))∧H[1]?=some (some (.cells [I 0,Ad]))∧
     Aa H 9 w=some ((Bo l pos (bs.take d)).flatMap Ax,(Bo l pos (bs.take d)).length)∧AP w=true∧(∀j,j<2→j∉AU w)∧d≤bs.length∧parts.drop j=BU (bs.length - d) (pos+d) (bs.length - d:Nat) 8∧j≤d) ?_ parts.length
     ⟨0,0,w,by simp,rfl,rfl,rfl,rfl,rfl,rfl,rfl,JW (by omega),(C4 (by omega)).trans c1,?_,a2,id0,by omega,by simpa using hP,by omega⟩
    ·rintro n x1 x2 x3 x6 x33 x34 x35 H R hR ⟨j,d,w,hj,rfl,rfl,rfl,rfl,rfl,rfl,rfl,k0,k1,kw,ko,kid,kd,kp,kj⟩
     unfold Jj
     by_cases hd:d<bs.length
     ·rw[Uv (by omega) (by omega) (by omega) (by omega)]at kp
      obtain⟨m,hm⟩:∃m:Nat,(m:Int)=min ((bs.length - d:Nat):Int) (8 - (pos+d) % 8):=⟨(min ((bs.length - d:Nat):Int) (8 - (pos+d) % 8)).toNat,by omega⟩;rw[← hm]at kp
      have hpj:parts[j]?=some ⟨pos+d,m⟩:=by
       have:=congrArg (λq=>q[0]?) kp
       simpa using this
      have hjl:=(BD.1 hpj).1;simp[hjl,hpv.idx Wn hpj rfl,Cd,Ao,AT,I4 (a:=pos+d) (b:=8) (by omega) (by omega) (by omega)];have g:=Grew.app H [some (.cells [I (pos+d),I m])];have hlL:=mW (bs:=bs.take d) (l:=l) (p:=pos);have htl:(bs.take d).length=d:=by rw[Ac0];omega
      have hws:=XL (bs:=bs.take d) hs0 pos;generalize hL:Bo l pos (bs.take d)=L at kw hlL hws;have hH0:=(BD.1 k0).1;have hH1:=(BD.1 k1).1;obtain⟨H11,⟨w',q1,q2,q3,q4,q5,q6,q7⟩,q8⟩:=Na (no:=(pos+d)/8) (g.cells k0) (g.slice kw) ko (kid 0 (by omega)) hws (by omega);refine bC_of q8 ?_;have hid':∀i,i<H.length→i∉AU w→i∉AU w':=λi h1 h2 h3=>(q7 i h3).elim h2 (λh=>by simp at h;omega)
      have z1:H11[1]?=some (some (.cells [I 0,Ad])):=by
       rw[q6 1 (by simp;omega) (by omega) (kid 1 (by omega))];exact g.cells k1
      have z2:H11[H.length]?=some (some (.cells [I (pos+d),I m])):=by
       rw[q6 H.length (by simp) (by omega) (λh=>by have:=A3 kw _ h;omega)];simp
      obtain⟨x,hx,hxn⟩:=lI hws ((pos+d)/8);obtain⟨r24,s1,s2,-,-,s3⟩:=E3 (H:=H11) (hb.bytes H11) (lo:=some (I d)) (hi:=none) (l:=d) (k:=bs.length) (by simp[Bs]) rfl kd (Ac2 _);obtain⟨r27,t1,t2,-,-,-⟩:=E3 (H:=H11) s2 (lo:=none) (hi:=some (I m)) (l:=0) (k:=m) rfl (by simp[Bs]) (by omega) (by omega)
      have t3:Aa H11 1 r27=some (AB ((bs.drop d).take m),m):=by
       rw[t2];simp[IM,RN];rw[Ac1 (l:=bs.drop d) (by simp)]
      have hbl2:((bs.drop d).take m).length=m:=by rw[Ac0,Ac7];omega
      obtain⟨p,q,dd,H29,u1,u2,u3,u4,u5,u6,u7⟩:=pS (a:=posL L ((pos+d)/8)) (b:=pos+d - (pos+d)/8*8) (k:=((pos+d) % 8).toNat) q2 q3 hx t3 (by omega) rfl (by omega);rw[hbl2]at u4;simp[q1,z2,u1,u2,DM (a:=(pos+d)/8) (b:=8) (by omega) (by omega),BM (a:=pos+d) (b:=(pos+d)/8*8) (by omega) (by omega),u3,BM (a:=pos+d) (b:=pos) (by omega) (by omega),show pos+(d:Int) - pos=d by omega,s1,t1,u4,Aw (a:=j) (b:=1) (by omega) (by omega)];rw[pI (HG hws _) hx,hxn]at u7
      have hnp:Vk (DH L ((pos+d)/8)) ((pos+d)/8) ((pos+d) % 8).toNat ((bs.drop d).take m)=Bo l pos (bs.take (d+m)):=by
       show Dt L (pos+d) _=_
       rw[mX hws (by omega) (λh=>by rw[h]at hbl2;simp at hbl2;omega),← hL,List.take_add,V1,htl]
      rw[hnp]at u7;have hll:(DH L ((pos+d)/8)).length=(Bo l pos (bs.take (d+m))).length:=by rw[← hnp];simp[Vk]
      rw[hll]at u7;refine hR (n - 1) _ _ _ _ _ _ _ _ (by omega) ⟨j+1,d+m,w',by omega,rfl,rfl,rfl,rfl,rfl,rfl,rfl,?_,?_,u7,q3,λi hi=>hid' i (by omega) (kid i hi),by omega,?_,by omega⟩
      ·rw[u6 0 (hid' 0 (by omega) (kid 0 (by omega)))];exact q1
      ·rw[u6 1 (hid' 1 (by omega) (kid 1 (by omega)))];exact z1
      ·have:=congrArg List.tail kp
       rw[List.tail_drop]at this;rw[this,List.tail_cons,show pos+(d:Int)+m=pos+((d+m:Nat):Int) by omega,show((bs.length - d:Nat):Int) - m=((bs.length - (d+m):Nat):Int) by omega];rfl
     ·have hd':d=bs.length:=by omega
      subst hd';rw[Uw (by omega)]at kp
      have hjl:¬j<parts.length:=λh=>by
       have:=congrArg List.length kp
       rw[Ac7]at this;simp at this;omega
      rw[Aj1]at kw;have hH0:=(BD.1 k0).1;have hH1:=(BD.1 k1).1;have hko:=AM ko;have hmx:max (pos+(bs.length:Int)) size=max size (pos+bs.length):=by omega
      simp[hjl,k0,hb.len,Aw (a:=pos) (b:=bs.length) (by omega) (by omega),hmx];rw[AC (n:=1) (off:=0) (xs:=[I (max size (pos+bs.length))]) (cs:=[I size,w]) rfl k0 rfl (by simp)];simp[hH0,Ao];rw[AC (n:=2) (off:=0) (xs:=[I (max size (pos+bs.length)),w]) (cs:=[I 0,Ad]) (by simp[hko]) ((C4 (by omega)).trans k1) rfl (by simp)];simp[hH1]
      exact ContK.some hw (Ae kw λi hi=>by
       have h2:2≤i:=Ah2 λh=>kid i h hi
       rw[C4 (by omega),C4 (by omega)])
    ·simp only[Aj8,Bo]
     exact Ae a3 λi hi=>by
      have h2:2≤i:=Ah2 λh=>id0 i h hi
      rw[C4 (by omega)]
  ·have hn:DE (size,l) pos bs=none:=if_neg (λh=>h2 h.2)
   have h2':¬(0≤pos∧bs.length≤4096∧pos≤1099511627776 - bs.length):=h2;simp[h2',AT];exact ContK.none hn
 ·have hn:DE (size,l) pos bs=none:=if_neg (λh=>h1 h.1)
  simp[h1,AT];exact ContK.none hn
abbrev Am9:=@List.getElem?_take_of_lt
theorem xH {H:AH}{w:AV}{l:List Ext}{n k:Nat}{a:Int}{x:Ext}(hw:Aa H 9 w=some (l.flatMap Ax,n))(hx:l[k]?=some x)(ha:a=k):
  ∃p q,Bj 9 w (I a)=some p∧Ac 0 p=some q∧Au false 1 H q=some (I x.no)∧Au true 9 H p=some (.agg (Ax x)):=by
 have hk:=(BD.1 hx).1;have hn:n=l.length:=by have h1:=Cf hw;have h2:=JV A1 l;omega
 obtain⟨p,c,h1,h2,h3,h4⟩:=Kx hw ha (show k<n by omega);obtain⟨q,h5,h6⟩:=eO (k:=0) h2
 have hc:c.take 9=Ax x:=by
  rw[h3,Dd A1 hx,Ad4 (by rw[A1];omega),Ac1 (by rw[A1];omega)]
 refine⟨p,q,h1,h5,?_,?_⟩
 ·rw[Rw h6 (by omega) (by simp;omega),Ah]
  have:=congrArg (λl=>l[0]?) hc
  simp only[Ad9]at this⊢;rw[Am9 (by omega)]at this;exact this
 ·rw[Rw h2 (by omega) h4,FV (by omega),Ad9,hc]
section
variable {κ α : Type} [DecidableEq κ] {c : κ→κ→Int} {key : α→κ}
def ZI (key:α→κ)(l:List α)(k:κ):Option α:=l.find? (λx=>decide (key x=k))
abbrev Am6:=@List.mem_of_find?_eq_some
theorem bZ {l:List α}{k:κ}(h:AO key l k):∃x,ZI key l k=some x∧x∈l∧key x=k:=by
 obtain⟨y,hy,e⟩:=h;unfold ZI;cases hf:l.find? (λx=>decide (key x=k))with
 | none=>rw[Am8]at hf;have:=hf y hy;simp[e]at this
 | some x=>exact⟨x,rfl,Am6 hf,by simpa using List.find?_some hf⟩
theorem Ym {l:List α}{k:κ}(h:¬AO key l k):ZI key l k=none:=by
 unfold ZI;rw[Am8];intro x hx;simp only[decide_eq_true_eq];exact λe=>h ⟨x,hx,e⟩
theorem Xc (hc:KO c){l:List α}(hs:Cb c key l){x:α}(hx:x∈l):ZI key l (key x)=some x:=by
 obtain⟨y,h1,h2,h3⟩:=bZ (l:=l) (k:=key x) ⟨x,hx,rfl⟩;rw[h1,Sy hc hs h2 hx h3]
theorem KY (hc:KO c){l:List α}(hs:Cb c key l){k:κ}(h:AO key l k):∃x,l[CZ c key l k]?=some x∧ZI key l k=some x∧key x=k:=by
 obtain⟨x,h1,rfl⟩:=(Jo hc hs).1 h;exact⟨x,h1,Xc hc hs (Ac3 h1),rfl⟩
end
theorem Vt {l:List NdV}:Cb Cc Nd.ino (l.map NdV.nd)↔Cb Cc NdV.ino l:=by
 unfold Cb;rw[Aj6]
theorem Nj {l:List NdV}{k:Int}:AO Nd.ino (l.map NdV.nd) k↔AO NdV.ino l k:=by
 constructor
 ·rintro⟨x,hx,e⟩
  obtain⟨y,hy,rfl⟩:=Ae6.1 hx;exact⟨y,hy,e⟩
 ·rintro⟨y,hy,e⟩
  exact⟨y.nd,Af7 hy,e⟩
theorem Vi {l:List NdV}{k:Int}:CZ Cc Nd.ino (l.map NdV.nd) k=CZ Cc NdV.ino l k:=by
 unfold CZ;rw[List.takeWhile_map,Ae9];rfl
theorem QJ {ns:List Nm}{a b:AV}{dv:List NdV}(ha:SV Cy 2 ns a)(hb:SV BY 3 dv b)(hs:Cb Bg Nm.name ns)(hl:ns.length≤281474976710656)(s:List UInt8):
  BPure prog 51 [.agg [a,b],S (A0 s)] (.tup [I (CZ Bg Nm.name ns s),B (decide (AO Nm.name ns s))]):=BPure.val (by simp[A6,noIds,ha.1,hb.1]) rfl (UR (by
 unfold SR;have oa:=SV.oneA ha;have ob:=SV.oneA hb;simp[oa,ob];refine A4 (uG ha hs hl s) ?_
 simp))
theorem Va {ns:List Nm}{a b:AV}{dv:List NdV}(ha:SV Cy 2 ns a)(hb:SV BY 3 dv b)(hs:Cb Cc NdV.ino dv)(hl:dv.length≤281474976710656)(no:Int):
  BPure prog 41 [.agg [a,b],I no] (.tup [I (CZ Cc NdV.ino dv no),B (decide (AO NdV.ino dv no))]):=BPure.val (by simp[A6,noIds,ha.1,hb.1]) rfl (VO (by
 unfold UT;have oa:=SV.oneA ha;have ob:=SV.oneA hb;simp[oa,ob];refine A4 (uF hb hs hl no) ?_
 simp))
theorem jT {l:List Ext}{v:AV}(hv:SV Ax 9 l v)(hl:l.length≤1000000000):∃R,SV Ax 9 l R∧BPure prog 95 [v] R:=by
 obtain⟨r,X,⟨-,h1,-,-⟩,h2⟩:=SH (hv.2 []) hl;exact BPure.sl (by simp[A6,hv.1]) (De λx _=>ET x) ⟨r,X,h1,h2⟩
theorem Y1 {l:List Ext}{v:AV}{size:Int}(hv:SV Ax 9 l v)(hl:l.length≤1000000000):∃R,SV Ax 9 l R∧BPure prog 42 [.agg [I size,v]] (.agg [I size,R]):=by
 obtain⟨R,hR,hc⟩:=jT hv hl;refine⟨R,hR,BPure.val (by simp[A6,noIds,hv.1]) (by simp[noIds,A6,hR.1]) (TB ?_)⟩;unfold Q6;have o1:=SV.oneA hv;have o2:=SV.oneA hR;simp[o1];refine bP_of hc ?_;simp[o2,AS o2,AT,AR,Ao]
def Fh (ns:List Nm)(s:List UInt8):Int:=match ZI Nm.name ns s with
 | some x=>x.ino
 | none=>0
def T9 (ns:List Nm)(ds:List Nd)(s:List UInt8):Prop:=Km ns ds∧AO Nm.name ns s
instance (ns:List Nm) (ds:List Nd) (s:List UInt8):Decidable (T9 ns ds s):=by unfold T9;infer_instance
def UG (ns:List Nm)(ds:List Nd)(s:List UInt8):Int:=if T9 ns ds s then Fh ns s else 0
theorem qX {ns:List Nm}{ds:List Nd}{v:AV}(hv:ImV ns ds v)(hb:Sm ns ds)(s:List UInt8):BPure prog 20 [v,S (A0 s)] (.tup [I (UG ns ds s),B (decide (T9 ns ds s))]):=BPure.val (by have:=hv.noIds;simpa[A6,noIds]using this) rfl (VM (by
 have hv0:=hv;obtain⟨a,b,dv,rfl,ha,hbv,rfl⟩:=hv;unfold UP;have oa:=SV.oneA ha;have ob:=SV.oneA hbv;simp[oa,ob,Ao];refine A4 (XS hv0 hb) ?_
 by_cases hm:Km ns (dv.map NdV.nd)
 ·simp[hm,Ao]
  refine bC_of (QJ ha hbv hm.1.2.2.1 (by have:=hb.1;omega) s _) ?_
  by_cases hh:AO Nm.name ns s
  ·obtain⟨x,h1,h2,h3⟩:=KY koN hm.1.2.2.1 hh
   have e:UG ns (dv.map NdV.nd) s=x.ino:=by unfold UG Fh;rw[if_pos ⟨hm,hh⟩,h2]
   have e2:T9 ns (dv.map NdV.nd) s:=⟨hm,hh⟩;simp[hh,ha.idx Eu h1 rfl,sN,e,e2]
  ·have e2:¬T9 ns (dv.map NdV.nd) s:=λh=>hh h.2
   have e:UG ns (dv.map NdV.nd) s=0:=if_neg e2;simp[hh,e,e2]
 ·have e2:¬T9 ns (dv.map NdV.nd) s:=λh=>hm h.1
  have e:UG ns (dv.map NdV.nd) s=0:=if_neg e2;simp[hm,e,e2]))
end
section
def Ol (ns:List Nm)(ds:List Nd)(no:Int):Prop:=Km ns ds∧AO Nd.ino ds no
instance (ns:List Nm) (ds:List Nd) (no:Int):Decidable (Ol ns ds no):=by unfold Ol;infer_instance
def Fo (ns:List Nm)(ds:List Nd)(no:Int):Nd:=if Ol ns ds no then(ZI Nd.ino ds no).getD ⟨0,0,[]⟩else⟨0,0,[]⟩
theorem cA {dv:List NdV}{no:Int}{x:NdV}(h:ZI NdV.ino dv no=some x):ZI Nd.ino (dv.map NdV.nd) no=some x.nd:=by
 unfold ZI at h⊢;rw[List.find?_map]
 show Option.map NdV.nd (dv.find? λx=>decide (x.nd.ino=no))=_
 rw[show(dv.find? λx=>decide (x.nd.ino=no))=some x from h];rfl
theorem bE {ns:List Nm}{ds:List Nd}{v:AV}(hv:ImV ns ds v)(hb:Sm ns ds)(no:Int):∃R,SV Ax 9 (Fo ns ds no).l R∧BPure prog 13 [v,I no] (.tup [.agg [I (Fo ns ds no).size,R],B (decide (Ol ns ds no))]):=by
 have hv0:=hv;obtain⟨a,b,dv,rfl,ha,hbv,rfl⟩:=hv;have oa:=SV.oneA ha;have ob:=SV.oneA hbv
 by_cases hh:Ol ns (dv.map NdV.nd) no
 ·have hm:=hh.1
  have hs:=Vt.1 hm.2.2.1;have hk:=Nj.1 hh.2;obtain⟨x,h1,h2,h3⟩:=KY koI hs hk;have e:Fo ns (dv.map NdV.nd) no=x.nd:=by unfold Fo;rw[if_pos hh,cA h2];rfl
  rw[e];obtain⟨R,hR,hc⟩:=Y1 (size:=x.nd.size) x.h (by have:=hb.2.2.2 x.nd (Af7 (Ac3 h1));omega);refine⟨R,hR,BPure.val (by have:=hv0.noIds;simpa[A6,noIds]using this) (by simp[noIds,A6,hR.1]) (Qz ?_)⟩;unfold Sc;simp[oa,ob,Ao];refine A4 (XS hv0 hb) ?_;simp[hm,Ao];refine bC_of (Va ha hbv hs (by have:=hb.2.1;simp at this;omega) no _) ?_;simp[hk,hbv.idx D3 h1 rfl,sM];refine A4 hc ?_;have o2:=SV.oneA hR;simp[o2,AS o2,AT,AR,Ao,hh]
 ·have e:Fo ns (dv.map NdV.nd) no=⟨0,0,[]⟩:=if_neg hh
  rw[e];refine⟨Ad,SV.nil,BPure.val (by have:=hv0.noIds;simpa[A6,noIds]using this) rfl (Qz ?_)⟩;unfold Sc;simp[oa,ob,Ao];refine A4 (XS hv0 hb) ?_
  by_cases hm:Km ns (dv.map NdV.nd)
  ·have hs:=Vt.1 hm.2.2.1
   have hk:¬AO NdV.ino dv no:=λh=>hh ⟨hm,Nj.2 h⟩
   simp[hm,Ao];refine bC_of (Va ha hbv hs (by have:=hb.2.1;simp at this;omega) no _) ?_;simp[hk,AT,AR,Ao,hh]
  ·simp[hm,AT,AR,Ao,hh]
def JD (ds:List Nd):Nat:=(ds.map λd=>d.l.length).sum
def Zz (ns:List Nm)(ds:List Nd):Int:=if Km ns ds then JD ds else 0
theorem iA {ds:List Nd}{d:Nd}:JD (ds++[d])=JD ds+d.l.length:=by simp[JD]
theorem XG {N:Nat}:∀{ds:List Nd},(∀d∈ds,d.l.length≤N)→JD ds≤ds.length*N
 | [],_=>by simp[JD]
 | d::ds,h=>by
  have ih:=XG (ds:=ds) λx hx=>h x (by simp[hx])
  have:=h d (by simp)
  unfold JD at ih⊢;rw[Aj7,List.sum_cons,Ad7,Af6];omega
theorem iB {ds:List Nd}(h:∀d∈ds,d.l.length≤1000000)(hn:ds.length≤100000)(k:Nat):JD (ds.take k)≤100000000000:=by
 have h1:=XG (N:=1000000) (ds:=ds.take k) λd hd=>h d (Ag1 hd)
 have:(ds.take k).length≤100000:=by rw[Ac0];omega
 have:=Ad0 1000000 this
 omega
theorem rE {ns:List Nm}{ds:List Nd}{v:AV}(hv:ImV ns ds v)(hb:Sm ns ds):BPure prog 52 [v] (I (Zz ns ds)):=BPure.val hv.noIds rfl (VN (by
 have hv0:=hv;obtain⟨a,b,dv,rfl,ha,hbv,rfl⟩:=hv;have oa:=SV.oneA ha;have ob:=SV.oneA hbv;have b2:=hb.2.1;unfold UQ;simp[oa,ob,Ao];refine A4 (XS hv0 hb) ?_
 by_cases hm:Km ns (dv.map NdV.nd)
 ·simp[hm,hbv.len]
  have e:Zz ns (dv.map NdV.nd)=JD (dv.map NdV.nd):=if_pos hm;rw[e];refine Pz (λn x3 x10 x11 x12 H'=>∃k:Nat,k+n=dv.length∧x3=I (JD ((dv.map NdV.nd).take k))∧x10=b∧x11=I dv.length∧x12=I k) ?_ dv.length ⟨0,by omega,rfl,rfl,rfl,rfl⟩;rintro n x3 x10 x11 x12 H' R hR ⟨k,hk,rfl,rfl,rfl,rfl⟩;unfold Mc;rw[Ae9]at b2;rcases Ac5 k dv.length with h | h
  ·have hx:=DR h
   generalize dv[k]=d at hx;have hx2:(dv.map NdV.nd)[k]?=some d.nd:=by rw[Ae7,hx];rfl
   have h1:=iB hb.2.2.2 (by simpa using b2) k;have h2:=hb.2.2.2 d.nd (Ac3 hx2)
   have ea:AT 3 (H'++[some (.cells [I 0,I 0,Ad])]) (.ptr H'.length 0) (.agg (BY d))=some (H'++[some (.cells (BY d))]):=by
    have:=SV.oneA d.h
    simp[AT,BY,AR,this]
   simp[h,hbv.idx D3 hx rfl,dJ,ea];simp[BY,d.h.len,Aw (a:=k) (b:=1) (by omega) (by omega),Aw (a:=(JD (List.take k (dv.map NdV.nd)):Int)) (b:=d.nd.l.length) (by omega) (by omega)];exact hR (n - 1) _ _ _ _ _ (by omega) ⟨k+1,by omega,by rw[S3 hx2,iA];simp,rfl,rfl,by simp⟩
  ·have:(dv.map NdV.nd).take k=dv.map NdV.nd:=Ac1 (by simp;omega)
   simp[show ¬k<dv.length by omega,this]
 ·have e:Zz ns (dv.map NdV.nd)=0:=if_neg hm
  simp[hm,e]))
def qR (ns:List Nm)(ds:List Nd)(ms:List Nm)(es:List Nd):Prop:=ns=ms∧ds=es
instance (ns:List Nm) (ds:List Nd) (ms:List Nm) (es:List Nd):Decidable (qR ns ds ms es):=by unfold qR;infer_instance
theorem Vg {α:Type}{enc:α→List AV}{sz:Nat}(hsz:∀x,(enc x).length=sz)(h0:0<sz){H:AH}{v:AV}{l:List α}{k:Nat}{x:α}(hs:Aa H sz v=some (l.flatMap enc,l.length))(ho:AP v=true)(hx:l[k]?=some x):
  ∃o off cells,Bj sz v (I k)=some (.ptr o off)∧o∈AU v∧H[o]?=some (some (.cells cells))∧off+sz≤cells.length∧(∀j,j<sz→cells[off+j]?=(enc x)[j]?)∧
   ∀y q xs,enc y=B2 (enc x) q xs→q+xs.length≤sz→Aa (H.set o (some (.cells (AR cells (off+q) xs)))) sz v=some ((l.set k y).flatMap enc,l.length):=by
 have hk:=(BD.1 hx).1;obtain⟨o,off,cap,cells,rfl,h1,h2,h3⟩:=HL hs ho (by omega);have hol:=(BD.1 h1).1;have hmul:(k+1)*sz≤l.length*sz:=Ad0 _ (by omega);have hms:(k+1)*sz=k*sz+sz:=Af6 _ _;refine⟨o,off+k*sz,cells,?_,by simp[AU],h1,by omega,λj hj=>?_,λy q xs hy hq=>?_⟩
 ·simp[Bj,J8]
  omega
 ·have e:(l.flatMap enc)[k*sz+j]?=cells[off+k*sz+j]?:=by
   rw[h3,Ac9,if_pos (by omega),Ad1];congr 1;omega
  rw[← e];have e2:=Hb hsz l k;have e3:(l.flatMap enc)[k*sz+j]?=((l.flatMap enc).drop (k*sz))[j]?:=by rw[Ad1]
  rw[e3,e2,Ag7 hk,(BD.1 hx).2,Ae8,Ab9 (by rw[hsz];exact hj)]
 ·have hxs:off+k*sz+q+xs.length≤cells.length:=by omega
  rw[Ea _ _ _ hxs]
  show Aa (H.set o (some (.cells (B2 cells (off+k*sz+q) xs)))) sz _=_
  rw[Ag5,A9 (c:=B2 cells (off+(k*sz+q)) xs) (by simp[hol]) (by rw[G8 (by omega)];exact h2)];rw[NX h2 (by omega),← h3,NW hsz hx hy hq]
theorem pR (w:World):(Go.sizeOf 114).run prog w=.ok 2 w:=Bz (by kernel_rfl)
theorem pQ (w:World):(Go.sizeOf 99).run prog w=.ok 3 w:=Bz (by kernel_rfl)
theorem xB {H:AH}{oa offa la ea ka ob offb lb eb kb:Nat}{ca cb:List AV}(ha:H[oa]?=some (some (.cells ca)))(hbo:H[ob]?=some (some (.cells cb)))(hne:oa≠ob)(hka:ka≠0)(hkb:kb≠0)(hcb:cb≠[]):
  ExtR prog 210 [.sl oa offa la ea (.ex ka),.sl ob offb lb eb (.ex kb)] H (B false):=
 ExtR.apart (tS:=37) (tR:=4) (fn:=f210) (by kernel_rfl) (by kernel_rfl) (by kernel_rfl) (by kernel_rfl) (by kernel_rfl) (by kernel_rfl) pR ha hbo hne hka hkb hcb
theorem xA {H:AH}{oa offa la ea ka ob offb lb eb kb:Nat}{ca cb:List AV}(ha:H[oa]?=some (some (.cells ca)))(hbo:H[ob]?=some (some (.cells cb)))(hne:oa≠ob)(hka:ka≠0)(hkb:kb≠0)(hcb:cb≠[]):
  ExtR prog 212 [.sl oa offa la ea (.ex ka),.sl ob offb lb eb (.ex kb)] H (B false):=
 ExtR.apart (tS:=38) (tR:=4) (fn:=f212) (by kernel_rfl) (by kernel_rfl) (by kernel_rfl) (by kernel_rfl) (by kernel_rfl) (by kernel_rfl) pQ ha hbo hne hka hkb hcb
def zN:List AV:=[S ⟨#[]⟩,I 0]
def zD:List AV:=[I 0,I 0,Ad]
theorem kS {H:AH}{s:AV}{l:List Nm}{i oj:Nat}{x:Nm}(hs:Aa H 2 s=some (l.flatMap Cy,l.length))(ho:AP s=true)(hc:Cm s l.length)(hi:i≤l.length)(hn:l.length≤1000000)(hv:H[oj]?=some (some (.cells (Cy x))))(hne:oj∉AU s):
  ∃r H',nJ 2 H s ((l.take i++x::l.drop i).flatMap Cy) l.length r H'∧BCall prog 186 [s,I i,.sl oj 0 1 2 (.ex 1)] H r H':=by
 have:=kU (P:=prog) (sz:=2) (bytes:=24) (zc:=zN) (f:=186) (ov:=210) (rot:=211) (by omega) rfl
  (λa0 a1 a2 H K h=>FB h) hs ho hc hi hn (by omega) hv (Eu x) hne (λm=>by simp[Cy,CB,EI]) (λh1 h2 h3 h4=>xB hv h1 h2 (by omega) h3 h4)
 rwa[Hd Eu,Hb Eu,Ad3,show Cy x++(l.drop i).flatMap Cy=(x::l.drop i).flatMap Cy from rfl,← Ag4]at this
theorem sW {H:AH}{s:AV}{l:List NdV}{i oj:Nat}{x:NdV}(hs:Aa H 3 s=some (l.flatMap BY,l.length))(ho:AP s=true)(hc:Cm s l.length)(hi:i≤l.length)(hn:l.length≤1000000)(hv:H[oj]?=some (some (.cells (BY x))))(hne:oj∉AU s):
  ∃r H',nJ 3 H s ((l.take i++x::l.drop i).flatMap BY) l.length r H'∧BCall prog 187 [s,I i,.sl oj 0 1 3 (.ex 1)] H r H':=by
 have:=kU (P:=prog) (sz:=3) (bytes:=40) (zc:=zD) (f:=187) (ov:=212) (rot:=213) (by omega) rfl
  (λa0 a1 a2 H K h=>FE h) hs ho hc hi hn (by omega) hv (D3 x) hne (λm=>Ei (Kc x)) (λh1 h2 h3 h4=>xA hv h1 h2 (by omega) h3 h4)
 rwa[Hd D3,Hb D3,Ad3,show BY x++(l.drop i).flatMap BY=(x::l.drop i).flatMap BY from rfl,← Ag4]at this
theorem kD {H:AH}{s:AV}{l:List Nm}{i:Nat}(hs:Aa H 2 s=some (l.flatMap Cy,l.length))(ho:AP s=true)(hc:Cm s l.length)(hi:i<l.length)(hn:l.length≤1000000):
  ∃r H',qW 2 H s ((l.take i++l.drop (i+1)).flatMap Cy) (l.length - 1) r H'∧BCall prog 189 [s,I i,I ((i:Int)+1)] H r H':=by
 obtain⟨m,hm⟩:∃m,l.length=m+1:=⟨l.length - 1,by omega⟩;rw[hm]at hs hc;obtain⟨r,H',h1,h2⟩:=kE (sz:=2) (bytes:=24) (zc:=zN) (by omega) rfl hs ho hc (show i≤m by omega) (by omega) (by omega);have h2':D6 s (I i) (I ((i:Int)+1)) H λr' H''=>r'=r∧H''=H':=h2
 obtain⟨r2,H2,⟨rfl,rfl⟩,h3⟩:=F5 h2';rw[Hd Eu,Hb Eu,← Ag4]at h1;exact⟨_,_,by rw[hm];exact h1,h3⟩
theorem sJ {H:AH}{s:AV}{l:List NdV}{i:Nat}(hs:Aa H 3 s=some (l.flatMap BY,l.length))(ho:AP s=true)(hc:Cm s l.length)(hi:i<l.length)(hn:l.length≤1000000):
  ∃r H',qW 3 H s ((l.take i++l.drop (i+1)).flatMap BY) (l.length - 1) r H'∧BCall prog 190 [s,I i,I ((i:Int)+1)] H r H':=by
 obtain⟨m,hm⟩:∃m,l.length=m+1:=⟨l.length - 1,by omega⟩;rw[hm]at hs hc;obtain⟨r,H',h1,h2⟩:=kE (sz:=3) (bytes:=40) (zc:=zD) (by omega) rfl hs ho hc (show i≤m by omega) (by omega) (by omega);have h2':D7 s (I i) (I ((i:Int)+1)) H λr' H''=>r'=r∧H''=H':=h2
 obtain⟨r2,H2,⟨rfl,rfl⟩,h3⟩:=F6 h2';rw[Hd D3,Hb D3,← Ag4]at h1;exact⟨_,_,by rw[hm];exact h1,h3⟩
structure ImH (L oi:Nat)(ns:List Nm)(dv:List NdV)(a b:AV)(H:AH):Prop where
 obj:H[oi]?=some (some (.cells [a,b]))
 lo:oi∉AU a∧oi∉AU b
 len:L≤H.length
 sa:Aa H 2 a=some (ns.flatMap Cy,ns.length)
 oa:AP a=true
 ca:Cm a ns.length
 ia:∀i∈AU a,L≤i
 sb:Aa H 3 b=some (dv.flatMap BY,dv.length)
 ob:AP b=true
 cb:Cm b dv.length
 ib:∀i∈AU b,L≤i
 ab:∀i∈AU a,i∉AU b
def FrL (L oi:Nat)(H H':AH):Prop:=H.length≤H'.length∧∀j,j<L→j≠oi→H'[j]?=H[j]?
theorem FrL.refl (L oi:Nat)(H:AH):FrL L oi H H:=⟨Ac2 _,λ_ _ _=>rfl⟩
theorem FrL.trans {L oi:Nat}{A B C:AH}(h:FrL L oi A B)(k:FrL L oi B C):FrL L oi A C:=⟨Ad8 h.1 k.1,λj h1 h2=>(k.2 j h1 h2).trans (h.2 j h1 h2)⟩
theorem ImH.noA {L oi:Nat}{ns:List Nm}{dv:List NdV}{a b:AV}{H:AH}(h:ImH L oi ns dv a b H):oi∉AU a:=h.lo.1
theorem ImH.noB {L oi:Nat}{ns:List Nm}{dv:List NdV}{a b:AV}{H:AH}(h:ImH L oi ns dv a b H):oi∉AU b:=h.lo.2
theorem ImH.lend {L oi:Nat}{ns:List Nm}{dv:List NdV}{a b:AV}{H:AH}(h:ImH L oi ns dv a b H):∃Ra Rb,SV Cy 2 ns Ra∧SV BY 3 dv Rb∧FZ H (.agg [a,b]) (.agg [Ra,Rb]):=by
 obtain⟨Ra,h1,f1⟩:=FZ.sv h.sa (De λx _=>Nu x);obtain⟨Rb,h2,f2⟩:=FZ.sv h.sb (De λx _=>Kc x);exact⟨Ra,Rb,h1,h2,FZ.agg (FZs.cons f1 (FZs.cons f2 FZs.nil))⟩
theorem ImH.grew {L oi:Nat}{ns:List Nm}{dv:List NdV}{a b:AV}{H H':AH}(h:ImH L oi ns dv a b H)(g:Grew H H'):ImH L oi ns dv a b H':=
 ⟨g.cells h.obj,h.lo,Ad8 h.len g.1,g.slice h.sa,h.oa,h.ca,h.ia,g.slice h.sb,h.ob,h.cb,h.ib,h.ab⟩
theorem ImH.newA {L oi:Nat}{ns ms:List Nm}{dv:List NdV}{a b r:AV}{H H':AH}(h:ImH L oi ns dv a b H)(hl:H.length≤H'.length)(hk:∀i,i<H.length→i∉AU a→H'[i]?=H[i]?)(h1:Aa H' 2 r=some (ms.flatMap Cy,ms.length))(h2:AP r=true)(h3:Cm r ms.length)(h4:∀i∈AU r,i∈AU a∨H.length≤i):
  ∃H2,AT 1 H' (.ptr oi 0) r=some H2∧ImH L oi ms dv r b H2∧FrL L oi H H2:=by
 have c0:H'[oi]?=some (some (.cells [a,b])):=by rw[hk oi (BD.1 h.obj).1 h.noA];exact h.obj
 have hr:=AM h2;have hol1:=(BD.1 h.obj).1;have nro:oi∉AU r:=λq=>(h4 oi q).elim h.noA (λq=>by omega)
 have hle:=h.len;have hol:=(BD.1 c0).1;have nr:∀i∈AU r,L≤i:=λi hi=>(h4 i hi).elim (h.ia i) (λq=>by omega)
 refine⟨H'.set oi (some (.cells [r,b])),?_,⟨by simp[hol],⟨nro,h.noB⟩,by simp;omega,?_,h2,h3,nr,?_,h.ob,h.cb,h.ib,λi hi hb=>?_⟩,⟨by simp;omega,λj h5 h6=>?_⟩⟩
 ·rw[AC (n:=1) (off:=0) (xs:=[r]) (cs:=[a,b]) (AS hr) c0 rfl (by simp)];rfl
 ·exact Ae h1 λi hi=>C4 (fun (e:oi=i)=>nro (e▸hi))
 ·refine Ae h.sb λi hi=>?_
  rw[C4 (fun (e:oi=i)=>h.noB (e▸hi))];exact hk i (A3 h.sb i hi) λq=>h.ab i q hi
 ·rcases h4 i hi with q | q
  ·exact h.ab i q hb
  ·have:=A3 h.sb i hb;omega
 ·rw[C4 (by omega)]
  exact hk j (by omega) λq=>by have:=h.ia j q;omega
theorem ImH.newB {L oi:Nat}{ns:List Nm}{dv ew:List NdV}{a b r:AV}{H H':AH}(h:ImH L oi ns dv a b H)(hl:H.length≤H'.length)(hk:∀i,i<H.length→i∉AU b→H'[i]?=H[i]?)(h1:Aa H' 3 r=some (ew.flatMap BY,ew.length))(h2:AP r=true)(h3:Cm r ew.length)(h4:∀i∈AU r,i∈AU b∨H.length≤i):
  ∃H2,AT 1 H' (.ptr oi 1) r=some H2∧ImH L oi ns ew a r H2∧FrL L oi H H2:=by
 have c0:H'[oi]?=some (some (.cells [a,b])):=by rw[hk oi (BD.1 h.obj).1 h.noB];exact h.obj
 have hr:=AM h2;have hol1:=(BD.1 h.obj).1;have nro:oi∉AU r:=λq=>(h4 oi q).elim h.noB (λq=>by omega)
 have hle:=h.len;have hol:=(BD.1 c0).1;have nr:∀i∈AU r,L≤i:=λi hi=>(h4 i hi).elim (h.ib i) (λq=>by omega)
 refine⟨H'.set oi (some (.cells [a,r])),?_,⟨by simp[hol],⟨h.noA,nro⟩,by simp;omega,?_,h.oa,h.ca,h.ia,?_,h2,h3,nr,λi ha hi=>?_⟩,⟨by simp;omega,λj h5 h6=>?_⟩⟩
 ·rw[AC (n:=1) (off:=1) (xs:=[r]) (cs:=[a,b]) (AS hr) c0 rfl (by simp)];rfl
 ·refine Ae h.sa λi hi=>?_
  rw[C4 (fun (e:oi=i)=>h.noA (e▸hi))];exact hk i (A3 h.sa i hi) λq=>h.ab i hi q
 ·exact Ae h1 λi hi=>C4 (fun (e:oi=i)=>nro (e▸hi))
 ·rcases h4 i hi with q | q
  ·exact h.ab i ha q
  ·have:=A3 h.sa i ha;omega
 ·rw[C4 (by omega)]
  exact hk j (by omega) λq=>by have:=h.ib j q;omega
section
variable {P : Program}
def lK (o:Oper)(need:List Nat):Bool:=need.all λj=>o.after.toList.any λe=>Region.binds .any e&&Nat.beq e.on j
theorem gG {o:Oper}{need:List Nat}(h:lK o need=true):∀j∈need,∃e∈o.after,Region.binds .any e=true∧e.on=j:=by
 intro j hj
 have:=Ae3.1 h j hj
 obtain⟨e,he,hb⟩:=List.any_eq_true.1 this;simp only[Ae0]at hb;exact⟨e,by simpa using he,hb.1,Ai4 hb.2⟩
def Z0 (vals:Nat→AV)(i:Nat)(r:AV):Nat→AV:=λj=>if j=i then r else vals j
end
end
section
section
variable {P : Program}
def OpIg (P:Program)(ops:List Oper)(T:List AV)(i:Nat)(need:List Nat)(F:(Nat→AV)→AH→(AV→AH→Prop)→Prop):Prop:=
 ∃o,ops[i]?=some o∧(∀j∈need,∃e∈o.after,Region.binds .any e=true∧e.on=j)∧∀vals H K,F vals H K→B6 ops.toArray (pt ops vals (λ_=>true) T i) o=some true∧VY P (pt ops vals (λ_=>true) T i) H o K
theorem lW {ops:List Oper}{vals:Nat→AV}{T:List AV}{j d:Nat}(hd:Ip ops j=some d)(hl:d<T.length):∀n,j<n→(∀k,j<k→k<n→Ip ops k≠some d)→(pt ops vals (λ_=>true) T n)[d]?=some (vals j)
 | 0,h,_=>by omega
 | n+1,h,h2=>by
  simp only[pt,if_true]
  by_cases c:j=n
  ·subst c
   rw[hd];simp only[Dj];rw[JW (by rw[Ss];exact hl)]
  ·rw[S9 (h2 n (by omega) (by omega)),lW hd hl n (by omega) λk h3 h4=>h2 k h3 (by omega)]
def yI (ops:List Oper)(len i:Nat):Bool:=match (ops.getD i default).guard with
 | none=>true
 | some (j,_)=>match Ip ops j with
  | some d=>decide (j<i)&&decide (d<len)&&(List.range i).all λk=>!decide (j<k)|| !(match Ip ops k with
   | some x=>Nat.beq x d
   | none=>false)
  | none=>false
def uC (P:Program)(ql:FuncId→Bool)(fz:Bool)(ops:List Oper)(T:List AV)(i:Nat)(vals:Nat→AV)(H:AH)(K:AV→AH→Prop):Prop:=
 let o:=ops.getD i default
 let S:=match Ee (Bu (pt ops vals (λ_=>true) T i)) o with
  | some (k,args)=>match B4 P k with
   | true=>ACalls P k args H K
   | false=>False
  | none=>Mt P ql Aq (fz&&VQ o.op) (Bu (pt ops vals (λ_=>true) T i)) H o true K
 match o.guard with
 | none=>S
 | some (j,w)=>vals j=B w∧S
theorem pN {ql:FuncId→Bool}{fz:Bool}{ops:List Oper}{T:List AV}{i:Nat}{vals:Nat→AV}{H:AH}{K:AV→AH→Prop}(hg:yI ops T.length i=true)(h:uC P ql fz ops T i vals H K):
  B6 ops.toArray (pt ops vals (λ_=>true) T i) (ops.getD i default)=some true∧VY P (pt ops vals (λ_=>true) T i) H (ops.getD i default) K:=by
 unfold uC at h;unfold yI at hg;generalize ops.getD i default=o at*;simp only at h;have step:∀{S:Prop},(S=match Ee (Bu (pt ops vals (λ_=>true) T i)) o with
  | some (k,args)=>match B4 P k with
   | true=>ACalls P k args H K
   | false=>False
  | none=>Mt P ql Aq (fz&&VQ o.op) (Bu (pt ops vals (λ_=>true) T i)) H o true K)→S→VY P (pt ops vals (λ_=>true) T i) H o K:=by
  rintro S rfl h;split at h
  ·rename_i k args hc
   split at h
   ·rename_i hgo;exact .inr (.inr ⟨k,args,hc,hgo,h⟩)
   ·exact h.elim
  ·rename_i hc
   obtain⟨r,H',h1,h2,-⟩:=LF h;rcases h2 with⟨-,h2 | ⟨h2,h3⟩⟩ | ⟨h2,-⟩
   ·unfold X4 at h2
    split at h2
    ·obtain⟨r',h3,h4⟩:=Option.map_eq_some_iff.1 h2
     injection h4 with h4 h5;subst h4;subst h5;exact .inr (.inl ⟨_,h3,h1⟩)
    ·exact .inl ⟨r,H',h2,h1⟩
   ·exfalso
    unfold N9 at h3;rw[hc]at h3;exact h3
   ·cases h2
 cases ho:o.guard with
 | none=>
  simp only[ho]at h;exact⟨by unfold B6;rw[ho],step rfl h⟩
 | some q=>
  obtain⟨j,w⟩:=q;simp only[ho]at h hg;refine⟨?_,step rfl h.2⟩;unfold B6 RF;simp only[ho,Al8];split at hg
  ·rename_i d hd
   simp only[zQ,Aa1,Ae3,Aj9,decide_eq_false_iff_not]at hg
   have hp:=lW (vals:=vals) hd hg.1.2 i hg.1.1 λk h1 h2 h3=>by
    rcases hg.2 k h2 with q | q
    ·exact q h1
    ·rw[h3]at q;simp at q
   have hd':(ops[j]?).bind (·.dst)=some d:=hd;simp only[hd',hp,h.1,Ai8];cases w<;>rfl
  ·cases hg
theorem OpIg.all {ql:FuncId→Bool}{fz:Bool}{ops:List Oper}{T:List AV}{n:Nat}{need:List (List Nat)}{F:List ((Nat→AV)→AH→(AV→AH→Prop)→Prop)}(hn:ops.length=n)(hb:(List.range n).all (λi=>lK (ops.getD i default) (need.getD i [])&&yI ops T.length i)=true)
  (hF:∀vals H K,(List.range n).map (λi=>uC P ql fz ops T i vals H K)=F.map λf=>f vals H K):∀i,i<ops.length→OpIg P ops T i (need.getD i []) (F.getD i (λ_ _ _=>False)):=by
 intro i hi;have hb:=Ae3.1 hb i (by rw[Aj9];omega);simp only[Ae0]at hb;have ho:ops[i]?=some (ops.getD i default):=by rw[Ac8,DR hi];rfl
 refine⟨_,ho,gG hb.1,λvals H K h=>pN (ql:=ql) (fz:=fz) hb.2 ?_⟩;have e:=congrArg (λl=>l[i]?) (hF vals H K);simp only[Ae7,Aj0 (show i<n by omega),Ai8]at e;cases hf:F[i]? with
 | none=>rw[hf]at e;simp at e
 | some f=>
  rw[hf]at e;simp only[Ai8,Ak7]at e;rw[e];rw[Ac8,hf]at h;exact h
theorem ACode.told3 {id:Nat}{ops:List Oper}{Q:AQ}{T:List AV}{H:AH}(hm:P.follows .mixedOrders=true)(hk:KX ops=true)(need:Nat→List Nat)(F:Nat→(Nat→AV)→AH→(AV→AH→Prop)→Prop)(V:Nat→AV)(HI:(Nat→Bool)→AH→Prop)
  (ho:∀i,i<ops.length→OpIg P ops T i (need i) (F i)) (h0:HI (λ_=>false) H)
  (hs:∀i,i<ops.length→∀(S:Nat→Bool) vals Hc,S i=false→(∀a,S a=true→∀b∈need a,S b=true)→(∀j∈need i,S j=true∧vals j=V j)→HI S Hc→F i vals Hc λr H'=>r=V i∧HI (Ho S i) H')
  (last:∀(S:Nat→Bool) vals Hc,(∀j,j<ops.length→S j=true∧vals j=V j)→HI S Hc→Q .normal (pt ops vals (λ_=>true) T ops.length) Hc):ACode P (.region id ops.toArray true) Q T H:=by
 refine ACode.drawn hm hk (Ω:=AH×(Nat→AV)) (λω S=>HI S ω.1∧(∀j,S j=true→ω.2 j=V j)∧∀a,S a=true→∀b∈need a,S b=true) (λω=>ω.2) (λω _=>ω.1) (H,λ_=>AG) ⟨h0,by simp,by simp⟩ rfl ?_ (λω S hS hI=>last S ω.2 ω.1 (λj hj=>⟨hS j hj,hI.2.1 j (hS j hj)⟩) hI.1);rintro ω S i o ⟨hoi,hcl,hSi,haft⟩ ⟨hI,hv,hcls⟩;have hi:=(BD.1 hoi).1;obtain⟨o',ho',hn,hF⟩:=ho i hi;rw[hoi]at ho';injection ho' with ho';subst ho'
 have hn':∀j∈need i,S j=true:=λj hj=>by
  obtain⟨e,he,hb,rfl⟩:=hn j hj;exact haft e he hb
 obtain⟨hw,h1⟩:=hF ω.2 ω.1 _ (hs i hi S ω.2 ω.1 hSi hcls (λj hj=>⟨hn' j hj,hv j (hn' j hj)⟩) hI);refine⟨true,hw,λ_=>?_,λh=>by cases h⟩
 have conv:∀r H',(r=V i∧HI (Ho S i) H')→∃ω':AH×(Nat→AV),(HI (Ho S i) ω'.1∧(∀j,Ho S i j=true→ω'.2 j=V j)∧∀a,Ho S i a=true→∀b∈need a,Ho S i b=true)∧(∀j,S j=true→ω'.2 j=ω.2 j)∧ω'.2 i=r∧ω'.1=H':=by
  rintro r H' ⟨rfl,h⟩;refine⟨(H',Z0 ω.2 i (V i)),⟨h,λj hj=>?_,λa ha b hb=>?_⟩,λj hj=>?_,by simp[Z0],rfl⟩
  ·show Z0 ω.2 i (V i) j=V j
   unfold Z0
   by_cases c:j=i
   ·rw[if_pos c,c]
   ·rw[if_neg c]
    unfold Ho at hj;rw[if_neg c]at hj;exact hv j hj
  ·unfold Ho at ha⊢
   by_cases c:b=i
   ·rw[if_pos c]
   ·rw[if_neg c]
    by_cases c2:a=i
    ·subst c2;exact hn' b hb
    ·rw[if_neg c2]at ha;exact hcls a ha b hb
  ·have:j≠i:=by rintro rfl;rw[hSi]at hj;cases hj
   simp[Z0,this]
 rcases h1 with⟨r,H',h2,h3⟩ | ⟨r,h2,h3⟩ | ⟨k,args,h2,h3,h4⟩
 ·exact .inl ⟨r,H',h2,conv _ _ h3⟩
 ·exact .inr (.inl ⟨r,h2,conv _ _ h3⟩)
 ·exact .inr (.inr ⟨k,args,h2,h3,h4.mono conv⟩)
theorem ACode.told2 {id:Nat}{ops:List Oper}{Q:AQ}{T:List AV}{H:AH}(hm:P.follows .mixedOrders=true)(hk:KX ops=true)(need:Nat→List Nat)(F:Nat→(Nat→AV)→AH→(AV→AH→Prop)→Prop)(V:Nat→AV)(hp:(Nat→Bool)→AH)
  (ho:∀i,i<ops.length→OpIg P ops T i (need i) (F i)) (h0:hp (λ_=>false)=H)
  (hs:∀i,i<ops.length→∀(S:Nat→Bool) vals,S i=false→(∀a,S a=true→∀b∈need a,S b=true)→(∀j∈need i,S j=true∧vals j=V j)→F i vals (hp S) λr H'=>r=V i∧H'=hp (Ho S i))
  (last:∀(S:Nat→Bool) vals,(∀j,j<ops.length→S j=true∧vals j=V j)→Q .normal (pt ops vals (λ_=>true) T ops.length) (hp S)):ACode P (.region id ops.toArray true) Q T H:=
 ACode.told3 hm hk need F V (λS H=>H=hp S) ho h0.symm (λi hi S vals Hc h1 h2 h3 h4=>by subst h4;exact hs i hi S vals h1 h2 h3) (λS vals Hc h1 h2=>by subst h2;exact last S vals h1)
end
end
section
noncomputable def crNOps:List Oper:=(Ze (sub [true,true,true,true,false] (AL f152))).toList
def sI (x0 x3 x4 x6:AV):List AV:=AW (mk 82 0 [0,3,4,6]) [x0,x3,x4,x6]
theorem Xm:crNOps.length=16:=by kernel_rfl
theorem sH:KX crNOps=true:=by kernel_rfl
def crNNeed:List (List Nat):=[[],[],[1],[2],[3],[],[],[6],[],[8],[7,9],[10],[4,5,11],[0,1,2,3,4,5,6,7,8,9,10,11,12],[0,1,2,3,4,5,6,7,8,9,10,11,12,13],[0,1,2,3,4,5,6,7,8,9,10,11,12,14]]
def Mo (x0 x3 x4 x6:AV):List ((Nat→AV)→AH→(AV→AH→Prop)→Prop):=[
 λvals H K=>gO true (some x0) λv=>K v H,
 λvals H K=>gO true (some x0) λv=>K v H,
 λvals H K=>gO true (Ai (vals 1)) λv=>K v H,
 λvals H K=>gO true (Ac 0 (vals 2)) λv=>K v H,
 λvals H K=>gO true (Au false 1 H (vals 3)) λv=>K v H,
 λvals H K=>gO true (some x4) λv=>K v H,
 λvals H K=>gO true (Ac 5 x3) λv=>K v H,
 λvals H K=>gO true (Au false 1 H (vals 6)) λv=>K v H,
 λvals H K=>gO true (Ac 1 x3) λv=>K v H,
 λvals H K=>gO true (Au false 1 H (vals 8)) λv=>K v H,
 λvals H K=>gO true (FK zN [(0,1,(vals 7)),(1,1,(vals 9))]) λv=>K v H,
 λvals H K=>gH true (Cr H 2 1 (Be zN 1) [(0,2,(vals 10))]) H K,
 λvals H K=>ACalls prog 186 [(vals 4),(vals 5),(vals 11)] H K,
 λvals H K=>gO true (Ai (vals 0)) λv=>K v H,
 λvals H K=>gO true (Ac 0 (vals 13)) λv=>K v H,
 λvals H K=>gS true (AT 1 H (vals 14) (vals 12)) H λH'=>K AG H']
theorem wC (x0 x3 x4 x6:AV):∀i,i<crNOps.length→OpIg prog crNOps (sI x0 x3 x4 x6) i (crNNeed.getD i []) ((Mo x0 x3 x4 x6).getD i (λ_ _ _=>False)):=
 OpIg.all (ql:=LE) (fz:=false) Xm (by kernel_rfl) (λvals H K=>by kernel_rfl)
noncomputable def crDOps:List Oper:=(Ze (sub [true,true,true,true,true] (AL f152))).toList
def sG (x0 x3 x6:AV):List AV:=AW (mk 82 0 [0,3,6]) [x0,x3,x6]
theorem Xl:crDOps.length=14:=by kernel_rfl
theorem sF:KX crDOps=true:=by kernel_rfl
def crDNeed:List (List Nat):=[[],[],[1],[2],[3],[],[],[6],[7],[8],[4,5,9],[0,1,2,3,4,5,6,7,8,9,10],[0,1,2,3,4,5,6,7,8,9,10,11],[0,1,2,3,4,5,6,7,8,9,10,12]]
def Oh (x0 x3 x6:AV):List ((Nat→AV)→AH→(AV→AH→Prop)→Prop):=[
 λvals H K=>gO true (some x0) λv=>K v H,
 λvals H K=>gO true (some x0) λv=>K v H,
 λvals H K=>gO true (Ai (vals 1)) λv=>K v H,
 λvals H K=>gO true (Ac 1 (vals 2)) λv=>K v H,
 λvals H K=>gO true (Au false 1 H (vals 3)) λv=>K v H,
 λvals H K=>gO true (some x6) λv=>K v H,
 λvals H K=>gO true (Ac 1 x3) λv=>K v H,
 λvals H K=>gO true (Au false 1 H (vals 6)) λv=>K v H,
 λvals H K=>gO true (FK zD [(0,1,(vals 7))]) λv=>K v H,
 λvals H K=>gH true (Cr H 3 1 (Be zD 1) [(0,3,(vals 8))]) H K,
 λvals H K=>ACalls prog 187 [(vals 4),(vals 5),(vals 9)] H K,
 λvals H K=>gO true (Ai (vals 0)) λv=>K v H,
 λvals H K=>gO true (Ac 1 (vals 11)) λv=>K v H,
 λvals H K=>gS true (AT 1 H (vals 12) (vals 10)) H λH'=>K AG H']
theorem wA (x0 x3 x6:AV):∀i,i<crDOps.length→OpIg prog crDOps (sG x0 x3 x6) i (crDNeed.getD i []) ((Oh x0 x3 x6).getD i (λ_ _ _=>False)):=
 OpIg.all (ql:=LE) (fz:=false) Xl (by kernel_rfl) (λvals H K=>by kernel_rfl)
structure OpM where
 kind:Int
 ino:Int
 pos:Int
 size:Int
 keep:Bool
 name:List UInt8
 to:List UInt8
 b:List UInt8
 deriving DecidableEq
def DL (o:OpM)(bv:AV):List AV:=[I o.kind,I o.ino,I o.pos,I o.size,B o.keep,S (A0 o.name),S (A0 o.to),bv]
theorem wD (x0 x3 x4 x6:AV)(vals:Nat→AV)(H:AH)(K:AV→AH→Prop):(Bl (MM (mk 82 0 [0,3,6]) (Gz [true,true,true,true,true] 6)) (Bm prog f152.results.toList K)) .normal (pt crNOps vals (λ_=>true) (sI x0 x3 x4 x6) 16) H=Ic x0 x3 x6 H K:=by kernel_rfl
theorem wB (x0 x3 x6:AV)(vals:Nat→AV)(H:AH)(K:AV→AH→Prop):(Bm prog f152.results.toList K) .normal (pt crDOps vals (λ_=>true) (sG x0 x3 x6) 14) H=K (.tup []) H:=by kernel_rfl
theorem fB (x0 x3 x4 x6:AV)(H:AH)(K:AV→AH→Prop)(h:ACode prog (.region 4 crNOps.toArray true) (Bl (MM (mk 82 0 [0,3,6]) (Gz [true,true,true,true,true] 6)) (Bm prog f152.results.toList K)) (sI x0 x3 x4 x6) H):FH x0 x3 x4 x6 H K:=unR.mk h
theorem eZ (x0 x3 x6:AV)(H:AH)(K:AV→AH→Prop)(h:ACode prog (.region 5 crDOps.toArray true) (Bm prog f152.results.toList K) (sG x0 x3 x6) H):Ie x0 x3 x6 H K:=unR.mk h
def J9 (i j k:Nat)(A B C D:AH)(S:Nat→Bool):AH:=if S k=true then D else if S j=true then C else if S i=true then B else A
theorem EB {i j k:Nat}{A B C D:AH}{S:Nat→Bool}{q:Nat}(h1:q≠i)(h2:q≠j)(h3:q≠k):J9 i j k A B C D (Ho S q)=J9 i j k A B C D S:=by
 unfold J9 Ho;rw[if_neg (Af4 h3),if_neg (Af4 h2),if_neg (Af4 h1)]
abbrev zS:=And.intro @Ab @Bq
abbrev zV:=And.intro (And.intro @AF @B7) (And.intro (And.intro @List.getD_cons_succ.{0} @List.getD_cons_zero.{0}) @zS)
theorem fD {L oi p k:Nat}{ns:List Nm}{dv:List NdV}{a b bv:AV}{H:AH}{o:OpM}(h:ImH L oi ns dv a b H)(hp:H[p]?=some (some (.cells (DL o bv))))(hpo:p≠oi)(hpa:p∉AU a)(hk:k≤ns.length)(hn:ns.length≤100000):
  ∃r H2,ImH L oi (ns.take k++⟨o.name,o.ino⟩::ns.drop k) dv r b H2∧FrL L oi H H2∧H2[p]?=H[p]?∧∀x6 K,Ic (.ptr oi 0) (.ptr p 0) x6 H2 K→FH (.ptr oi 0) (.ptr p 0) (I k) x6 H K:=by
 have g:=Grew.app H [some (.cells (Cy ⟨o.name,o.ino⟩))];have hg:=h.grew g;have hpl:=(BD.1 hp).1;obtain⟨r,H12,hI,hc⟩:=kS (x:=⟨o.name,o.ino⟩) (oj:=H.length) hg.sa hg.oa hg.ca hk (by omega) (by simp) (λhh=>by have:=A3 h.sa _ hh;omega);obtain⟨i1,i2,i3,i4,i5,i6⟩:=hI;have el:(ns.take k++(⟨o.name,o.ino⟩:Nm)::ns.drop k).length=ns.length+1:=by simp;omega
 obtain⟨H2,e2,n1,n2⟩:=hg.newA (ms:=ns.take k++⟨o.name,o.ino⟩::ns.drop k) i3 i4 (by rw[el];exact i2) i1 (by rw[el];exact i6) i5
 have hp2:H2[p]?=H[p]?:=by
  have c0:H12[oi]?=some (some (.cells [a,b])):=by rw[i4 oi (BD.1 hg.obj).1 hg.noA];exact hg.obj
  rw[AC (n:=1) (off:=0) (xs:=[r]) (cs:=[a,b]) (AS (AM i1)) c0 rfl (by simp)]at e2;injection e2 with e2;rw[← e2,C4 (Af4 hpo),i4 p (by simp;omega) hpa,g.2 p hpl]
 have hfr:FrL L oi H H2:=by
  have hle:=h.len;exact⟨Ad8 g.1 n2.1,λj h5 h6=>(n2.2 j h5 h6).trans (g.2 j (by omega))⟩
 let V:Nat→AV:=λi=>([.ptr oi 0,.ptr oi 0,.ptr oi 0,.ptr oi 0,a,I k,.ptr p 5,S (A0 o.name),.ptr p 1,I o.ino,.agg (Cy ⟨o.name,o.ino⟩),.sl H.length 0 1 2 (.ex 1),r,.ptr oi 0,.ptr oi 0,AG]:List AV).getD i AG
 refine⟨r,H2,n1,hfr,hp2,λx6 K hK=>fB _ _ _ _ _ _ ?_⟩;refine ACode.told2 Kn sH (λi=>crNNeed.getD i []) (λi=>(Mo (.ptr oi 0) (.ptr p 0) (I k) x6).getD i (λ_ _ _=>False)) V (J9 11 12 15 H (H++[some (.cells (Cy ⟨o.name,o.ino⟩))]) H12 H2) (wC _ _ _ _) rfl ?_ ?_
 ·intro i hi S vals hS cl hn
  rw[Xm]at hi
  have n12:S 4=false→S 12=false:=λh4=>by
   cases h:S 12 with
   | false=>rfl
   | true=>have:=cl 12 h 4 (by simp[crNNeed]);rw[h4]at this;cases this
  have n15:S 12=false→S 15=false:=λh4=>by
   cases h:S 15 with
   | false=>rfl
   | true=>have:=cl 15 h 12 (by simp[crNNeed]);rw[h4]at this;cases this
  have n12':S 11=false→S 12=false:=λh4=>by
   cases h:S 12 with
   | false=>rfl
   | true=>have:=cl 12 h 11 (by simp[crNNeed]);rw[h4]at this;cases this
  have n11:∀j,j=7∨j=9→S j=false→S 11=false:=λj hj h4=>by
   cases h:S 11 with
   | false=>rfl
   | true=>
    have h10:=cl 11 h 10 (by simp[crNNeed])
    have:=cl 10 h10 j (by rcases hj with rfl | rfl<;>simp[crNNeed])
    rw[h4]at this;cases this
  have hcase:i=0∨i=1∨i=2∨i=3∨i=4∨i=5∨i=6∨i=7∨i=8∨i=9∨i=10∨i=11∨i=12∨i=13∨i=14∨i=15:=by omega
  rcases hcase with rfl | rfl | rfl | rfl | rfl | rfl | rfl | rfl | rfl | rfl | rfl | rfl | rfl | rfl | rfl | rfl
  ·simp only[Mo,zV]
   exact⟨rfl,(EB (by omega) (by omega) (by omega)).symm⟩
  ·simp only[Mo,zV]
   exact⟨rfl,(EB (by omega) (by omega) (by omega)).symm⟩
  ·simp only[Mo,zV]
   have v1:=(hn 1 (by simp[crNNeed])).2;rw[v1];exact⟨rfl,(EB (by omega) (by omega) (by omega)).symm⟩
  ·simp only[Mo,zV]
   have v2:=(hn 2 (by simp[crNNeed])).2;rw[v2];exact⟨rfl,(EB (by omega) (by omega) (by omega)).symm⟩
  ·simp only[Mo,zV]
   have v3:=(hn 3 (by simp[crNNeed])).2;rw[v3]
   have e:Au false 1 (J9 11 12 15 H (H++[some (.cells (Cy ⟨o.name,o.ino⟩))]) H12 H2 S) (V 3)=some a:=by
    have q12:=n12 hS;have q15:=n15 q12
    have:(J9 11 12 15 H (H++[some (.cells (Cy ⟨o.name,o.ino⟩))]) H12 H2 S)[oi]?=some (some (.cells [a,b])):=by
     unfold J9;rw[q15,q12];cases S 11 with
     | true=>exact hg.obj
     | false=>exact h.obj
    show Au false 1 _ (.ptr oi 0)=_
    rw[Ak this];rfl
   rw[e];exact⟨rfl,(EB (by omega) (by omega) (by omega)).symm⟩
  ·simp only[Mo,zV]
   exact⟨rfl,(EB (by omega) (by omega) (by omega)).symm⟩
  ·simp only[Mo,zV]
   exact⟨rfl,(EB (by omega) (by omega) (by omega)).symm⟩
  ·simp only[Mo,zV]
   have v6:=(hn 6 (by simp[crNNeed])).2;rw[v6]
   have e:Au false 1 (J9 11 12 15 H (H++[some (.cells (Cy ⟨o.name,o.ino⟩))]) H12 H2 S) (V 6)=some (.lit (.string (A0 o.name))):=by
    have q11:=n11 7 (by omega) hS;have q12:=n12' q11;have q15:=n15 q12;unfold J9;rw[q15,q12,q11]
    show Au false 1 H (.ptr p 5)=_
    rw[Ak hp];rfl
   rw[e];exact⟨rfl,(EB (by omega) (by omega) (by omega)).symm⟩
  ·simp only[Mo,zV]
   exact⟨rfl,(EB (by omega) (by omega) (by omega)).symm⟩
  ·simp only[Mo,zV]
   have v8:=(hn 8 (by simp[crNNeed])).2;rw[v8]
   have e:Au false 1 (J9 11 12 15 H (H++[some (.cells (Cy ⟨o.name,o.ino⟩))]) H12 H2 S) (V 8)=some (I o.ino):=by
    have q11:=n11 9 (by omega) hS;have q12:=n12' q11;have q15:=n15 q12;unfold J9;rw[q15,q12,q11]
    show Au false 1 H (.ptr p 1)=_
    rw[Ak hp];rfl
   rw[e];exact⟨rfl,(EB (by omega) (by omega) (by omega)).symm⟩
  ·simp only[Mo,zV]
   have v7:=(hn 7 (by simp[crNNeed])).2;have v9:=(hn 9 (by simp[crNNeed])).2;rw[v7,v9];exact⟨rfl,(EB (by omega) (by omega) (by omega)).symm⟩
  ·simp only[Mo,zV]
   have v10:=(hn 10 (by simp[crNNeed])).2;rw[v10];have q12:=n12' hS;have q15:=n15 q12;have e:J9 11 12 15 H (H++[some (.cells (Cy ⟨o.name,o.ino⟩))]) H12 H2 S=H:=by unfold J9;rw[q15,q12,hS];rfl
   have e2:J9 11 12 15 H (H++[some (.cells (Cy ⟨o.name,o.ino⟩))]) H12 H2 (Ho S 11)=H++[some (.cells (Cy ⟨o.name,o.ino⟩))]:=by unfold J9;simp[Ho,q15,q12]
   rw[e,e2];exact⟨rfl,rfl⟩
  ·simp only[Mo,zV]
   have v4:=(hn 4 (by simp[crNNeed])).2;have v5:=(hn 5 (by simp[crNNeed])).2;have v11:=(hn 11 (by simp[crNNeed])).2;rw[v4,v5,v11];have q15:=n15 hS;have e:J9 11 12 15 H (H++[some (.cells (Cy ⟨o.name,o.ino⟩))]) H12 H2 S=H++[some (.cells (Cy ⟨o.name,o.ino⟩))]:=by unfold J9;rw[q15,hS,(hn 11 (by simp[crNNeed])).1];rfl
   have e2:J9 11 12 15 H (H++[some (.cells (Cy ⟨o.name,o.ino⟩))]) H12 H2 (Ho S 12)=H12:=by unfold J9;simp[Ho,q15]
   rw[e,e2];exact hc
  ·simp only[Mo,zV]
   have v0:=(hn 0 (by simp[crNNeed])).2;rw[v0];exact⟨rfl,(EB (by omega) (by omega) (by omega)).symm⟩
  ·simp only[Mo,zV]
   have v13:=(hn 13 (by simp[crNNeed])).2;rw[v13];exact⟨rfl,(EB (by omega) (by omega) (by omega)).symm⟩
  ·simp only[Mo,zV]
   have v14:=(hn 14 (by simp[crNNeed])).2;have v12:=(hn 12 (by simp[crNNeed])).2;rw[v14,v12];have e:J9 11 12 15 H (H++[some (.cells (Cy ⟨o.name,o.ino⟩))]) H12 H2 S=H12:=by unfold J9;rw[hS,(hn 12 (by simp[crNNeed])).1];rfl
   have e3:J9 11 12 15 H (H++[some (.cells (Cy ⟨o.name,o.ino⟩))]) H12 H2 (Ho S 15)=H2:=by unfold J9;simp[Ho]
   rw[e,e3]
   show bS (AT 1 H12 (.ptr oi 0) r) _
   rw[e2,AE];exact⟨rfl,rfl⟩
 ·intro S vals hS
  rw[Xm,wD];have:J9 11 12 15 H (H++[some (.cells (Cy ⟨o.name,o.ino⟩))]) H12 H2 S=H2:=by unfold J9;rw[if_pos (hS 15 (by rw[Xm];omega)).1]
  rw[this];exact hK
def Ko (ino:Int):NdV:=⟨⟨ino,0,[]⟩,Ad,SV.nil⟩
theorem fE {L oi p k:Nat}{ns:List Nm}{dv:List NdV}{a b bv:AV}{H:AH}{o:OpM}(h:ImH L oi ns dv a b H)(hp:H[p]?=some (some (.cells (DL o bv))))(hk:k≤dv.length)(hn:dv.length≤100000):
  ∃r H2,ImH L oi ns (dv.take k++Ko o.ino::dv.drop k) a r H2∧FrL L oi H H2∧∀K:AV→AH→Prop,K (.tup []) H2→Ie (.ptr oi 0) (.ptr p 0) (I k) H K:=by
 have g:=Grew.app H [some (.cells (BY (Ko o.ino)))];have hg:=h.grew g;have hpl:=(BD.1 hp).1;obtain⟨r,H10,hI,hc⟩:=sW (x:=Ko o.ino) (oj:=H.length) hg.sb hg.ob hg.cb hk (by omega) (by simp) (λhh=>by have:=A3 h.sb _ hh;omega);obtain⟨i1,i2,i3,i4,i5,i6⟩:=hI;have el:(dv.take k++Ko o.ino::dv.drop k).length=dv.length+1:=by simp;omega
 obtain⟨H2,e2,n1,n2⟩:=hg.newB (ew:=dv.take k++Ko o.ino::dv.drop k) i3 i4 (by rw[el];exact i2) i1 (by rw[el];exact i6) i5
 have hfr:FrL L oi H H2:=by
  have hle:=h.len;exact⟨Ad8 g.1 n2.1,λj h5 h6=>(n2.2 j h5 h6).trans (g.2 j (by omega))⟩
 let V:Nat→AV:=λi=>([.ptr oi 0,.ptr oi 0,.ptr oi 0,.ptr oi 1,b,I k,.ptr p 1,I o.ino,.agg (BY (Ko o.ino)),.sl H.length 0 1 3 (.ex 1),r,.ptr oi 0,.ptr oi 1,AG]:List AV).getD i AG
 refine⟨r,H2,n1,hfr,λK hK=>eZ _ _ _ _ _ ?_⟩;refine ACode.told2 Kn sF (λi=>crDNeed.getD i []) (λi=>(Oh (.ptr oi 0) (.ptr p 0) (I k)).getD i (λ_ _ _=>False)) V (J9 9 10 13 H (H++[some (.cells (BY (Ko o.ino)))]) H10 H2) (wA _ _ _) rfl ?_ ?_
 ·intro i hi S vals hS cl hn
  rw[Xl]at hi
  have n12:S 4=false→S 10=false:=λh4=>by
   cases h:S 10 with
   | false=>rfl
   | true=>have:=cl 10 h 4 (by simp[crDNeed]);rw[h4]at this;cases this
  have n15:S 10=false→S 13=false:=λh4=>by
   cases h:S 13 with
   | false=>rfl
   | true=>have:=cl 13 h 10 (by simp[crDNeed]);rw[h4]at this;cases this
  have n12':S 9=false→S 10=false:=λh4=>by
   cases h:S 10 with
   | false=>rfl
   | true=>have:=cl 10 h 9 (by simp[crDNeed]);rw[h4]at this;cases this
  have n11:S 7=false→S 9=false:=λh4=>by
   cases h:S 9 with
   | false=>rfl
   | true=>
    have h8:=cl 9 h 8 (by simp[crDNeed])
    have:=cl 8 h8 7 (by simp[crDNeed])
    rw[h4]at this;cases this
  have hcase:i=0∨i=1∨i=2∨i=3∨i=4∨i=5∨i=6∨i=7∨i=8∨i=9∨i=10∨i=11∨i=12∨i=13:=by omega
  rcases hcase with rfl | rfl | rfl | rfl | rfl | rfl | rfl | rfl | rfl | rfl | rfl | rfl | rfl | rfl
  ·simp only[Oh,zV]
   exact⟨rfl,(EB (by omega) (by omega) (by omega)).symm⟩
  ·simp only[Oh,zV]
   exact⟨rfl,(EB (by omega) (by omega) (by omega)).symm⟩
  ·simp only[Oh,zV]
   have v1:=(hn 1 (by simp[crDNeed])).2;rw[v1];exact⟨rfl,(EB (by omega) (by omega) (by omega)).symm⟩
  ·simp only[Oh,zV]
   have v2:=(hn 2 (by simp[crDNeed])).2;rw[v2];exact⟨rfl,(EB (by omega) (by omega) (by omega)).symm⟩
  ·simp only[Oh,zV]
   have v3:=(hn 3 (by simp[crDNeed])).2;rw[v3]
   have e:Au false 1 (J9 9 10 13 H (H++[some (.cells (BY (Ko o.ino)))]) H10 H2 S) (V 3)=some b:=by
    have q12:=n12 hS;have q15:=n15 q12
    have:(J9 9 10 13 H (H++[some (.cells (BY (Ko o.ino)))]) H10 H2 S)[oi]?=some (some (.cells [a,b])):=by
     unfold J9;rw[q15,q12];cases S 9 with
     | true=>exact hg.obj
     | false=>exact h.obj
    show Au false 1 _ (.ptr oi 1)=_
    rw[Ak this];rfl
   rw[e];exact⟨rfl,(EB (by omega) (by omega) (by omega)).symm⟩
  ·simp only[Oh,zV]
   exact⟨rfl,(EB (by omega) (by omega) (by omega)).symm⟩
  ·simp only[Oh,zV]
   exact⟨rfl,(EB (by omega) (by omega) (by omega)).symm⟩
  ·simp only[Oh,zV]
   have v6:=(hn 6 (by simp[crDNeed])).2;rw[v6]
   have e:Au false 1 (J9 9 10 13 H (H++[some (.cells (BY (Ko o.ino)))]) H10 H2 S) (V 6)=some (I o.ino):=by
    have q11:=n11 hS;have q12:=n12' q11;have q15:=n15 q12;unfold J9;rw[q15,q12,q11]
    show Au false 1 H (.ptr p 1)=_
    rw[Ak hp];rfl
   rw[e];exact⟨rfl,(EB (by omega) (by omega) (by omega)).symm⟩
  ·simp only[Oh,zV]
   have v7:=(hn 7 (by simp[crDNeed])).2;rw[v7];exact⟨rfl,(EB (by omega) (by omega) (by omega)).symm⟩
  ·simp only[Oh,zV]
   have v8:=(hn 8 (by simp[crDNeed])).2;rw[v8];have q12:=n12' hS;have q15:=n15 q12;have e:J9 9 10 13 H (H++[some (.cells (BY (Ko o.ino)))]) H10 H2 S=H:=by unfold J9;rw[q15,q12,hS];rfl
   have e2:J9 9 10 13 H (H++[some (.cells (BY (Ko o.ino)))]) H10 H2 (Ho S 9)=H++[some (.cells (BY (Ko o.ino)))]:=by unfold J9;simp[Ho,q15,q12]
   rw[e,e2];exact⟨rfl,rfl⟩
  ·simp only[Oh,zV]
   have v4:=(hn 4 (by simp[crDNeed])).2;have v5:=(hn 5 (by simp[crDNeed])).2;have v9:=(hn 9 (by simp[crDNeed])).2;rw[v4,v5,v9];have q15:=n15 hS;have e:J9 9 10 13 H (H++[some (.cells (BY (Ko o.ino)))]) H10 H2 S=H++[some (.cells (BY (Ko o.ino)))]:=by unfold J9;rw[q15,hS,(hn 9 (by simp[crDNeed])).1];rfl
   have e2:J9 9 10 13 H (H++[some (.cells (BY (Ko o.ino)))]) H10 H2 (Ho S 10)=H10:=by unfold J9;simp[Ho,q15]
   rw[e,e2];exact hc
  ·simp only[Oh,zV]
   have v0:=(hn 0 (by simp[crDNeed])).2;rw[v0];exact⟨rfl,(EB (by omega) (by omega) (by omega)).symm⟩
  ·simp only[Oh,zV]
   have v11:=(hn 11 (by simp[crDNeed])).2;rw[v11];exact⟨rfl,(EB (by omega) (by omega) (by omega)).symm⟩
  ·simp only[Oh,zV]
   have v12:=(hn 12 (by simp[crDNeed])).2;have v10:=(hn 10 (by simp[crDNeed])).2;rw[v12,v10];have e:J9 9 10 13 H (H++[some (.cells (BY (Ko o.ino)))]) H10 H2 S=H10:=by unfold J9;rw[hS,(hn 10 (by simp[crDNeed])).1];rfl
   have e3:J9 9 10 13 H (H++[some (.cells (BY (Ko o.ino)))]) H10 H2 (Ho S 13)=H2:=by unfold J9;simp[Ho]
   rw[e,e3]
   show bS (AT 1 H10 (.ptr oi 1) r) _
   rw[e2,AE];exact⟨rfl,rfl⟩
 ·intro S vals hS
  rw[Xl,wB];have:J9 9 10 13 H (H++[some (.cells (BY (Ko o.ino)))]) H10 H2 S=H2:=by unfold J9;rw[if_pos (hS 13 (by rw[Xl];omega)).1]
  rw[this];exact hK
def xK (L oi:Nat)(H:AH)(ns:List Nm)(dv:List NdV)(r:AV)(H':AH):Prop:=r=.tup []∧∃a b,ImH L oi ns dv a b H'∧FrL L oi H H'
def OE (ns:List Nm)(dv:List NdV)(o:OpM):Prop:=¬AO Nm.name ns o.name∧¬AO NdV.ino dv o.ino∧G5 o.name∧1≤o.ino∧o.ino≤4611686018427387904∧ns.length<16
instance (ns:List Nm) (dv:List NdV) (o:OpM):Decidable (OE ns dv o):=by unfold OE;infer_instance
def YA (ns:List Nm)(dv:List NdV)(o:OpM):List Nm:=if OE ns dv o then Jr Bg Nm.name ns ⟨o.name,o.ino⟩else ns
def Y9 (ns:List Nm)(dv:List NdV)(o:OpM):List NdV:=if OE ns dv o then Jr Cc NdV.ino dv (Ko o.ino)else dv
theorem lS {L oi:Nat}{ns:List Nm}{dv:List NdV}{a b:AV}{H:AH}(h:ImH L oi ns dv a b H)(o:OpM){bv:AV}(hb:oneA bv=true):∃H1,AD H (.agg (DL o bv))=some (.ptr H.length 0,H1)∧H1[H.length]?=some (some (.cells (DL o bv)))∧ImH L oi ns dv a b H1∧FrL L oi H H1:=by
 have g:=Grew.app H [some (.cells (DL o bv))];have hle:=h.len;exact⟨_,by simp[DL,hb],by simp,h.grew g,g.1,λj h1 h2=>g.2 j (by omega)⟩
theorem YB {L oi:Nat}{ns:List Nm}{dv:List NdV}{a b bv:AV}{H H1:AH}{o:OpM}(h:ImH L oi ns dv a b H)(e1:AD H (.agg (DL o bv))=some (.ptr H.length 0,H1))(hp:H1[H.length]?=some (some (.cells (DL o bv))))(h1:ImH L oi ns dv a b H1)
  (hs:Cb Bg Nm.name ns) (hd:Cb Cc NdV.ino dv) (hn:ns.length≤100000) (hm:dv.length≤100000) (hnm:o.name.length≤1000000000) {K:AV→AH→Prop} (hno:¬OE ns dv o→K (.tup []) H1) (hyes:OE ns dv o→FH (.ptr oi 0) (.ptr H.length 0) (I (CZ Bg Nm.name ns o.name)) (I (CZ Cc NdV.ino dv o.ino)) H1 K):
  I9 (.ptr oi 0) (.agg (DL o bv)) H K:=by
 obtain⟨Ra,Rb,sa,sb,fz⟩:=h1.lend;have c0:=h1.obj;unfold I9;simp only[e1,Az];have b0:Ao true 2 [a,b] 0=some (.agg [a,b]):=rfl;simp[hp,c0,b0,DL];refine bC_of (PCall.lend (FZs.cons fz (FZs.cons (FZ.lit _) FZs.nil)) rfl (QJ sa sb hs (by omega) o.name)).call ?_;simp[hp,c0,b0,DL];refine bC_of (PCall.lend (FZs.cons fz (FZs.cons (FZ.lit _) FZs.nil)) rfl (Va sa sb hd (by omega) o.ino)).call ?_
 by_cases q1:AO Nm.name ns o.name
 ·simp[q1]
  exact hno λhc=>hc.1 q1
 ·by_cases q2:AO NdV.ino dv o.ino
  ·simp[q1,q2]
   exact hno λhc=>hc.2.1 q2
  ·simp[q1,q2,hp,DL]
   refine A4 (NB (s:=o.name) (by omega)) ?_
   by_cases q3:G5 o.name
   ·by_cases q4:o.ino<1
    ·simp[q3,q4,hp,DL]
     exact hno λhc=>by have:=hc.2.2.2.1;omega
    ·by_cases q5:4611686018427387904<o.ino
     ·simp[q3,q4,q5,hp,DL]
      exact hno λhc=>by have:=hc.2.2.2.2.1;omega
     ·have ln:=By h1.sa
      by_cases q6:16≤ns.length
      ·have q6':(16:Int)≤ns.length:=by omega
       simp[q3,q4,q5,hp,DL,c0,ln,q6'];exact hno λhc=>by have:=hc.2.2.2.2.2;omega
      ·have q6':¬(16:Int)≤ns.length:=by omega
       simp[q3,q4,q5,hp,DL,c0,ln,q6'];exact hyes ⟨q1,q2,q3,by omega,by omega,by omega⟩
   ·simp[q3]
    exact hno λhc=>q3 hc.2.2.1
theorem kA {L oi:Nat}{ns:List Nm}{dv:List NdV}{a b bv:AV}{H:AH}{o:OpM}(h:ImH L oi ns dv a b H)(hs:Cb Bg Nm.name ns)(hd:Cb Cc NdV.ino dv)(hb:oneA bv=true)(hn:ns.length≤100000)(hm:dv.length≤100000)(hnm:o.name.length≤1000000000):
  ∃r H',xK L oi H (YA ns dv o) (Y9 ns dv o) r H'∧BCall prog 152 [.ptr oi 0,.agg (DL o bv)] H r H':=by
 obtain⟨H1,e1,hp,h1,f1⟩:=lS h o hb;have hpl:H.length≠oi:=by have:=(BD.1 h.obj).1;omega
 have hpa:H.length∉AU a:=λhh=>by have:=A3 h.sa _ hh;omega
 by_cases hc:OE ns dv o
 ·obtain⟨r,H2,h2,f2,g2,w2⟩:=fD h1 hp hpl hpa (TU (c:=Bg) (key:=Nm.name) ns o.name) hn
  obtain⟨r2,H3,h3,f3,w3⟩:=fE h2 (g2.trans hp) (TU (c:=Cc) (key:=NdV.ino) dv o.ino) hm;refine⟨.tup [],H3,⟨rfl,r,r2,?_,f1.trans (f2.trans f3)⟩,Mf (YB h e1 hp h1 hs hd hn hm hnm (λq=>absurd hc q) λ_=>w2 _ _ ?_)⟩
  ·unfold YA Y9
   rw[if_pos hc,if_pos hc];exact h3
  ·rw[P0]
   unfold Ka;exact w3 _ ⟨rfl,rfl⟩
 ·refine⟨.tup [],H1,⟨rfl,a,b,?_,f1⟩,Mf (YB h e1 hp h1 hs hd hn hm hnm (λ_=>⟨rfl,rfl⟩) λq=>absurd q hc)⟩
  unfold YA Y9;rw[if_neg hc,if_neg hc];exact h1
def Fi (ns:List Nm)(s:List UInt8):List Nm:=if AO Nm.name ns s then CY Bg Nm.name ns s else ns
def Te (ns:List Nm)(dv:List NdV)(s:List UInt8):List NdV:=if AO Nm.name ns s then CY Cc NdV.ino dv (Fh ns s)else dv
theorem Zo {L oi:Nat}{ns:List Nm}{dv:List NdV}{a b:AV}{H:AH}{s:List UInt8}(h:ImH L oi ns dv a b H)(hs:Cb Bg Nm.name ns)(hd:Cb Cc NdV.ino dv)(hx:∀x∈ns,AO NdV.ino dv x.ino)(hn:ns.length≤100000)(hm:dv.length≤100000):
  ∃r H',xK L oi H (Fi ns s) (Te ns dv s) r H'∧BCall prog 155 [.ptr oi 0,S (A0 s)] H r H':=TE (by
 obtain⟨Ra,Rb,sa,sb,fz⟩:=h.lend;have c0:=h.obj;unfold Q8;have b0:Ao true 2 [a,b] 0=some (.agg [a,b]):=rfl;simp[c0,b0];refine bC_of (PCall.lend (FZs.cons fz (FZs.cons (FZ.lit _) FZs.nil)) rfl (QJ sa sb hs (by omega) s)).call ?_
 by_cases q:AO Nm.name ns s
 ·obtain⟨x,hx1,hx2,hx3⟩:=KY koN hs q
  obtain⟨o,off,cells,u1,u2,u3,u4,u5,-⟩:=Vg Eu (by omega) h.sa h.oa hx1;have u51:=u5 1 (by omega);have hk:=hx x (Ac3 hx1);have hkl:=UL koI hd hk;have hpl:=(BD.1 hx1).1;have e1:Fi ns s=CY Bg Nm.name ns s:=if_pos q;have e2:Te ns dv s=CY Cc NdV.ino dv x.ino:=by unfold Te Fh;rw[if_pos q,hx2]
  simp[q,c0,b0,u1,u3,u51,Cy];refine bC_of (PCall.lend (FZs.cons fz (FZs.cons (FZ.lit _) FZs.nil)) rfl (Va sa sb hd (by omega) x.ino)).call ?_;simp[c0,Aw (a:=(CZ Bg Nm.name ns s:Nat)) (b:=1) (by omega) (by omega)];obtain⟨r1,H2,⟨d1,d2,d3,d4,d5,d6⟩,d7⟩:=kD h.sa h.oa h.ca hpl (by omega);refine bC_of d7 ?_;have l1:=MO (c:=Bg) (key:=Nm.name) (k:=s) hpl;obtain⟨H3,e3,n1,n2⟩:=h.newA (ms:=CY Bg Nm.name ns s) (Am7 d3.symm) (λi _ hi=>d4 i hi) (by rw[show(CY Bg Nm.name ns s).length=ns.length - 1 by omega];exact d2) d1 (by rw[show(CY Bg Nm.name ns s).length=ns.length - 1 by omega];exact d6) (λi hi=>.inl (d5▸hi));have c3:=n1.obj;simp[e3,c3,Aw (a:=(CZ Cc NdV.ino dv x.ino:Nat)) (b:=1) (by omega) (by omega)];obtain⟨r2,H4,⟨g1,g2,g3,g4,g5,g6⟩,g7⟩:=sJ n1.sb n1.ob n1.cb hkl (by omega);refine bC_of g7 ?_;have l2:=MO (c:=Cc) (key:=NdV.ino) (k:=x.ino) hkl;obtain⟨H5,e5,m1,m2⟩:=n1.newB (ew:=CY Cc NdV.ino dv x.ino) (Am7 g3.symm) (λi _ hi=>g4 i hi) (by rw[show(CY Cc NdV.ino dv x.ino).length=dv.length - 1 by omega];exact g2) g1 (by rw[show(CY Cc NdV.ino dv x.ino).length=dv.length - 1 by omega];exact g6) (λi hi=>.inl (g5▸hi));simp[e5];rw[e1,e2];exact⟨rfl,_,_,m1,n2.trans m2⟩
 ·simp[q]
  refine⟨rfl,a,b,?_,FrL.refl _ _ _⟩;unfold Fi Te;rw[if_neg q,if_neg q];exact h)
def QI (pos n:Int):Prop:=0≤pos∧1≤n∧n≤1099511627776∧pos≤1099511627776 - n
instance (pos n:Int):Decidable (QI pos n):=by unfold QI;infer_instance
theorem OJ (pos n:Int):BPure prog 201 [I pos,I n] (B (decide (QI pos n))):=BPure.flat λH=>UD (by
 unfold SM QI
 by_cases h1:0≤pos
 ·by_cases h2:1≤n
  ·by_cases h3:n≤1099511627776
   ·simp[h1,h2,h3,BM (a:=1099511627776) (b:=n) (by omega) (by omega)]
   ·simp[h1,h2,h3]
  ·simp[h1,h2]
 ·simp[h1])
theorem Qm {size:Int}{l:List Ext}{v:AV}(hv:SV Ax 9 l v)(hl:l.length≤1000000)(pos n:Int)(keep:Bool):
  ∃R,SV Ax 9 (cL (Gt (size,l) pos n keep)) R∧BPure prog 170 [.agg [I size,v],I pos,I n,B keep] (.tup [.agg [I (cS (Gt (size,l) pos n keep)),R],B (Gt (size,l) pos n keep).isSome]):=by
 refine BPure.cont (by simp[A6,noIds,hv.1]) (Pp ?_);unfold LP;simp[EC hv,Ao];refine A4 (Fd hv (by omega)) ?_
 by_cases h1:Cs size l
 ·simp[h1]
  refine A4 (OJ pos n) ?_
  by_cases h2:QI pos n
  ·by_cases h3:32768<n
   ·have hn:Gt (size,l) pos n keep=none:=if_neg (λh=>by omega)
    simp[h2,h3,AT];exact ContK.none hn
   ·obtain⟨g1,g2,g3,g4⟩:=h2
    have hw:Gt (size,l) pos n keep=some (if keep then size else max size (pos+n),Pi l pos n):=if_pos ⟨h1,g1,g2,by omega,g4⟩;simp[show QI pos n from⟨g1,g2,g3,g4⟩,h3];obtain⟨r,H2,⟨w,rfl,a2,a3,a4,a5⟩,a1⟩:=Qe (size:=size) (hv.2 [some (.cells [I size,v]),some (.cells [I 0,Ad])]) (EC hv) (by omega);refine bC_of a1 ?_;have c0:=a4.cells (o:=0) (x:=some (.cells [I size,v])) rfl;have c1:=a4.cells (o:=1) (x:=some (.cells [I 0,Ad])) rfl;have hl2:=a4.1;simp only[yU]at hl2;have hwo:=AM a2;have id0:∀j,j<2→j∉AU w:=λj hj h=>by have:=a5 j h;simp at this;omega
    rw[AC (n:=2) (off:=0) (x:=.agg [I size,w]) (xs:=[I size,w]) (by simp[hwo]) c0 rfl (by simp)];simp[I4 (a:=pos) (b:=8) (by omega) (by omega) (by omega)];have hs0:=LD h1.2.2;have hN:allocN pos n≤4098:=by unfold allocN;omega
    refine KF (λm x1 x2 x3 x4 x8 x10 H=>∃(d:Nat) (w:AV),d+m=allocN pos n∧x1=I pos∧x2=I n∧x3=B keep∧x4=.ptr 0 0∧x8=.ptr 1 0∧x10=I (pos/8+d)∧H[0]?=some (some (.cells [I size,w]))∧H[1]?=some (some (.cells [I 0,Ad]))∧
     Aa H 9 w=some ((FU l (pos/8) d).flatMap Ax,(FU l (pos/8) d).length)∧AP w=true∧(∀j,j<2→j∉AU w)) ?_ (allocN pos n)
     ⟨0,w,by simp,rfl,rfl,rfl,rfl,rfl,by simp,JW (by omega),(C4 (by omega)).trans c1,?_,a2,id0⟩
    ·rintro m x1 x2 x3 x4 x8 x10 H R hR ⟨d,w,hdn,rfl,rfl,rfl,rfl,rfl,rfl,k0,k1,kw,ko,kid⟩
     unfold HC;have hH0:=(BD.1 k0).1;have hH1:=(BD.1 k1).1;simp[Aw (a:=pos) (b:=n) (by omega) (by omega),BM (a:=pos+n) (b:=1) (by omega) (by omega),I4 (a:=pos+n - 1) (b:=8) (by omega) (by omega) (by omega)]
     by_cases hd:d<allocN pos n
     ·have hc:pos/8+(d:Int)≤(pos+n - 1)/8:=by unfold allocN at hd;omega
      have hws:=aJ (k:=d) hs0 (pos/8);have hlen:=aI (k:=d) (l:=l) (no:=pos/8);obtain⟨H11,⟨w',q1,q2,q3,q4,q5,q6,q7⟩,q8⟩:=Na (no:=pos/8+d) k0 kw ko (kid 0 (by omega)) hws (by omega);simp[hc];refine bC_of q8 ?_;have hid':∀i,i<H.length→i∉AU w→i∉AU w':=λi h1 h2 h3=>(q7 i h3).elim h2 (λh=>by omega)
      simp[Aw (a:=pos/8+d) (b:=1) (by omega) (by omega)];refine hR (m - 1) _ _ _ _ _ _ _ (by omega) ⟨d+1,w',by omega,rfl,rfl,rfl,rfl,rfl,by rw[show pos/8+(d:Int)+1=pos/8+((d+1:Nat):Int) by omega],q1,?_,?_,q3,λi hi=>hid' i (by omega) (kid i hi)⟩
      ·rw[q6 1 hH1 (by omega) (kid 1 (by omega))];exact k1
      ·rw[cV];exact q2
     ·have hd':d=allocN pos n:=by omega
      subst hd';have hc:¬pos/8+((allocN pos n:Nat):Int)≤(pos+n - 1)/8:=by unfold allocN;omega
      have hko:=AM ko
      have tail:∀s H2,H2.length=H.length→H2[0]?=some (some (.cells [I s,w]))→H2[1]?=some (some (.cells [I 0,Ad]))→Aa H2 9 w=some ((Pi l pos n).flatMap Ax,(Pi l pos n).length)→Gt (size,l) pos n keep=some (s,Pi l pos n)→DN (.ptr 0 0) (.ptr 1 0) H2 (ContK (Gt (size,l) pos n keep)):=by
       intro s H2 hl2 e0 e1 e2 e3;rw[L0];unfold GO;simp[-IV,Ak e0,Ao];rw[AC (n:=2) (off:=0) (xs:=[I s,w]) (cs:=[I 0,Ad]) (by simp[hko]) e1 rfl (by simp)];simp[show 1<H2.length by omega,Ao]
       exact ContK.some e3 (Ae e2 λi hi=>by
        have h2:2≤i:=Ah2 λh=>kid i h hi
        rw[C4 (by omega)])
      simp[hc];cases keep with
      | true=>
       simp;exact tail size H rfl k0 k1 kw hw
      | false=>
       have hmx:max (pos+n) size=max size (pos+n):=by omega
       simp[k0,Aw (a:=pos) (b:=n) (by omega) (by omega),hmx];rw[AC (n:=1) (off:=0) (xs:=[I (max size (pos+n))]) (cs:=[I size,w]) rfl k0 rfl (by simp)];simp
       refine tail _ _ (by simp) (JW hH0) ((C4 (by omega)).trans k1) (Ae kw λi hi=>by
        have h2:2≤i:=Ah2 λh=>kid i h hi
        rw[C4 (by omega)]) hw
    ·exact Ae a3 λi hi=>by
      have h2:2≤i:=Ah2 λh=>id0 i h hi
      rw[C4 (by omega)]
  ·have hn:Gt (size,l) pos n keep=none:=if_neg (λh=>h2 ⟨h.2.1,h.2.2.1,by omega,h.2.2.2.2⟩)
   simp[h2,AT];exact ContK.none hn
 ·have hn:Gt (size,l) pos n keep=none:=if_neg (λh=>h1 h.1)
  simp[h1,AT];exact ContK.none hn
theorem FZ.fn {X:AH}{k:Fn}{a b a' b':List AV}(ha:FZs X a a')(hb:FZs X b b'):FZ X (.fn k a b) (.fn k a' b'):=by
 obtain⟨n0,h0⟩:=ha;obtain⟨n1,h1⟩:=hb;refine⟨n0+n1+1,λn hn=>?_⟩;cases n with
 | zero=>omega
 | succ n=>simp only[Kw,h0 n (by omega),h1 n (by omega)]
theorem FZs.same {X:AH}{vs:List AV}(h:A6 vs=true):FZs X vs vs:=En X vs h
theorem FZ.ptr {X:AH}{o off:Nat}{cs Rs:List AV}(ho:X[o]?=some (some (.cells cs)))(h:FZs X (cs.drop off) Rs):FZ X (.ptr o off) (.ip Rs):=by
 obtain⟨n0,h0⟩:=h;refine⟨n0+1,λn hn=>?_⟩;cases n with
 | zero=>omega
 | succ n=>simp only[Kw,ho,h0 n (by omega)];rfl
theorem uD {α:Type}{enc:α→List AV}{sz:Nat}(hsz:∀x,(enc x).length=sz)(h0:0<sz){H:AH}{w x:AV}{l:List α}{y:α}{i:Nat}{a:Int}(hw:Aa H sz w=some (l.flatMap enc,l.length))(ho:AP w=true)(hi:i<l.length)(ha:a=i)(hx:BH x=some (enc y)):
  ∃p H',Bj sz w (I a)=some p∧AT sz H p x=some H'∧H'.length=H.length∧(∀j,j∉AU w→H'[j]?=H[j]?)∧Aa H' sz w=some ((l.set i y).flatMap enc,l.length):=by
 subst ha;obtain⟨o,off,cap,cells,rfl,h1,h2,h3⟩:=HL hw ho (by omega);have hol:=(BD.1 h1).1;have hmul:i*sz+sz≤l.length*sz:=by rw[← Af6];exact Ad0 _ hi
 have hy:=hsz y;have hl:=DR hi;have hll:=hsz (l[i]);refine⟨.ptr o (off+i*sz),H.set o (some (.cells (B2 cells (off+(i*sz+0)) (enc y)))),?_,?_,by simp,λj hj=>C4 (by simp[AU]at hj;omega),?_⟩
 ·simp only[Bj,J8]
  rw[if_pos ⟨by omega,by omega⟩];simp
 ·rw[AC (n:=sz) (off:=off+i*sz) (xs:=enc y) hx h1 hy (by omega),Ea _ _ _ (by omega)];rfl
 ·rw[A9 (c:=B2 cells (off+(i*sz+0)) (enc y)) (by simp[hol]) (by rw[G8 (by omega)];exact h2)]
  rw[NX h2 (by omega),← h3,NW (q:=0) hsz hl (by unfold B2;rw[Aj8,Ai1,Ad2 (by omega),Af1]) (by omega)]
def UH (p:Ext→Bool)(l:List Ext):Int:=match l.findIdx? p with
 | some i=>i
 | none=> -1
def nG (k:FuncId)(oc:Nat)(c:List AV)(l:List Ext)(p:Ext→Bool):Prop:=
 B4 prog k=true∧A6 c=true∧∀x∈l,∀(H:AH) (a:AV),(a=.ip c∨(a=.ptr oc 0∧H[oc]?=some (some (.cells c))))→∃H',Grew H H'∧BCall prog k [.agg (Ax x),a] H (B (p x)) H'
theorem Tz {k:FuncId}{oc:Nat}{c:List AV}{l:List Ext}{p:Ext→Bool}{R:AV}(hR:SV Ax 9 l R)(hl:l.length≤281474976710656)(hd:nG k oc c l p):
  BPure prog 167 [R,.fn (.func k) [] [.ip c]] (I (UH p l)):=BPure.val (by simp[A6,noIds,hR.1,hd.2.1]) rfl (CU (by
 unfold Cp;simp[hR.len];refine Cv (λn x0 x1 x7 x8 H=>∃j:Nat,j+n=l.length∧x0=R∧x1=.fn (.func k) [] [.ip c]∧x7=I l.length∧x8=I j∧∀m x,m<j→l[m]?=some x→p x=false) ?_ l.length ⟨0,by simp,rfl,rfl,rfl,rfl,by simp⟩;rintro n x0 x1 x7 x8 H R' hR' ⟨j,hj,rfl,rfl,rfl,rfl,hm⟩;unfold BP;rcases Ac5 j l.length with hlt | hge
 ·have hx:=DR hlt
  generalize l[j]=y at hx;obtain⟨H',g,hc⟩:=hd.2.2 y (Ac3 hx) H (.ip c) (.inl rfl);simp[hlt,hR.idx A1 hx rfl,hd.1];refine bC_of hc ?_;cases hp:p y with
  | true=>
   have:l.findIdx? p=some j:=by
    rw[Ak8];obtain⟨h1,h2⟩:=BD.1 hx;refine⟨h1,by rw[h2];exact hp,λi hi=>?_⟩
    have:=hm i _ hi (DR (by omega))
    simp[this]
   simp[UH,this]
  | false=>
   simp[Aw (a:=j) (b:=1) (by omega) (by omega)];refine hR' (n - 1) _ _ _ _ _ (by omega) ⟨j+1,by omega,rfl,rfl,rfl,rfl,λm x hmj hx2=>?_⟩
   by_cases h:m=j
   ·subst h;rw[hx]at hx2;injection hx2 with hx2;rw[← hx2];exact hp
   ·exact hm m x (by omega) hx2
 ·have:l.findIdx? p=none:=by
   rw[Aj3];intro x hx;obtain⟨m,hmx⟩:=Ad6.1 hx;exact hm m x (by have:=(BD.1 hmx).1;omega) hmx
  have hjl:¬j<l.length:=by omega
  simp[hjl,UH,this]))
theorem YH {p:Ext→Bool}{l:List Ext}(h:∀x∈l,p x=false):l.filter (λx=>!p x)=l:=List.filter_eq_self.2 λx hx=>by simp[h x hx]
abbrev yY:=And.intro @Ag @C9
abbrev zO:=And.intro @AN @yV
abbrev Al5:=@List.filter_append
theorem KE {H:AH}{v:AV}{l:List Ext}{k:FuncId}{oc:Nat}{c:List AV}{p:Ext→Bool}(hv:Aa H 9 v=some (l.flatMap Ax,l.length))(ho:AP v=true)(hl:l.length≤1000000)(hc:H[oc]?=some (some (.cells c)))(hne:oc∉AU v)(hd:nG k oc c l p):
  ∃r H',(AP r=true∧Aa H' 9 r=some ((l.filter λx=>!p x).flatMap Ax,(l.filter λx=>!p x).length)∧H.length≤H'.length∧(∀i,i<H.length→i∉AU v→H'[i]?=H[i]?)∧∀i∈AU r,i∈AU v)∧
   BCall prog 104 [v,.fn (.func k) [] [.ptr oc 0]] H r H':=Fe (by
 unfold Dr;obtain⟨R,hR,fR⟩:=FZ.sv hv (SY l);have fc:FZ H (.fn (.func k) [] [.ptr oc 0]) (.fn (.func k) [] [.ip c]):=FZ.fn FZs.nil (FZs.cons (FZ.ptr hc (FZs.same hd.2.1)) FZs.nil);refine bP_of (PCall.lend (FZs.cons fR (FZs.cons fc FZs.nil)) rfl (Tz hR (by omega) hd)) ?_;cases hf:l.findIdx? p with
 | none=>
  rw[Aj3]at hf;simp[UH,Aj3.2 hf];rw[YH hf];exact⟨ho,hv⟩
 | some i0=>
  obtain⟨h1,h2,h3⟩:=Ak8.1 hf;have hoc:=(BD.1 hc).1;simp[UH,hf,show ¬(i0:Int)= -1 by omega,Aw (a:=i0) (b:=1) (by omega) (by omega)]
  have ht:(l.take (i0+1)).filter (λx=>!p x)=l.take i0:=by
   rw[Ah8,Al5,DR h1];simp[h2];intro x hx;obtain⟨m,hm⟩:=Ad6.1 hx;have hml:=(BD.1 hm).1;rw[Ac0]at hml;rw[Ac9,if_pos (by omega)]at hm
   have:=h3 m (by omega)
   obtain⟨q1,q2⟩:=BD.1 hm;rw[q2]at this
   simpa using this
  refine Ep (λn x0 x1 x5 x6 H'=>∃(i j:Nat) (M:List Ext),j+n=l.length∧i<j∧x0=v∧x1=.fn (.func k) [] [.ptr oc 0]∧x5=I i∧x6=I j∧M.length=l.length∧M.take i=(l.take j).filter (λx=>!p x)∧M.drop j=l.drop j∧
   Aa H' 9 v=some (M.flatMap Ax,M.length)∧H'[oc]?=some (some (.cells c))∧H.length≤H'.length∧∀i,i<H.length→i∉AU v→H'[i]?=H[i]?) ?_ (l.length - (i0+1))
   ⟨i0,i0+1,l,by omega,by omega,rfl,rfl,rfl,rfl,rfl,ht.symm,rfl,hv,hc,Ac2 _,λ_ _ _=>rfl⟩
  rintro n x0 x1 x5 x6 H' R' hR' ⟨i,j,M,hj,hij,rfl,rfl,rfl,rfl,hM,hMt,hMd,hw,hc',hle,hk⟩;unfold C5;rcases Ac5 j l.length with hlt | hge
  ·have hx:=DR hlt
   generalize l[j]=y at hx
   have hMx:M[j]?=some y:=by
    have:=congrArg (λq=>q[0]?) hMd
    simp only[Ad1,Ah1]at this;rw[this];exact hx
   obtain⟨q,-,e1,-,-,e2⟩:=xH (a:=j) hw hMx rfl;have hoc':=(BD.1 hc').1;have gA:=Grew.app H' [some (.cells (Ax y))];obtain⟨H10,g,hcl⟩:=hd.2.2 y (Ac3 hx) (H'++[some (.cells (Ax y))]) (.ptr oc 0) (.inr ⟨rfl,gA.cells hc'⟩);have gB:=gA.trans g;have z:=g.cells (o:=H'.length) (x:=some (.cells (Ax y))) (by simp);simp[By hw,hM,hlt,e1,e2,hd.1,-IV];rw[jH (by simp) (by rfl)];simp;refine bC_of hcl ?_
   have hdrop:M.drop (j+1)=l.drop (j+1):=by
    have:=congrArg (List.drop 1) hMd
    rw[Ag3,Ag3]at this;exact this
   have hkeepB:∀i,i<H.length→i∉AU x0→H10[i]?=H[i]?:=λi h1 h2=>by rw[gB.2 i (by omega),hk i h1 h2]
   cases hp:p y with
   | true=>
    simp;rw[Cu];unfold BC;simp[Aw (a:=j) (b:=1) (by omega) (by omega)];refine hR' (n - 1) _ _ _ _ _ (by omega) ⟨i,j+1,M,by omega,by omega,rfl,rfl,rfl,rfl,hM,?_,hdrop,gB.slice hw,gB.cells hc',by have:=gB.1;omega,hkeepB⟩;rw[Ah8,Al5,← hMt,hx];simp[hp]
   | false=>
    obtain⟨q2,H16,f1,f2,f3,f4,f5⟩:=uD (x:=.agg (Ax y)) (y:=y) (i:=i) (a:=i) A1 (by omega) (gB.slice hw) ho (by omega) rfl (by simp);simp[z,f1,f2,Aw (a:=i) (b:=1) (by omega) (by omega)];rw[Cu];unfold BC;simp[Aw (a:=j) (b:=1) (by omega) (by omega)];refine hR' (n - 1) _ _ _ _ _ (by omega) ⟨i+1,j+1,M.set i y,by omega,by omega,rfl,rfl,rfl,rfl,by simpa using hM,?_,?_,by simpa using f5,?_,by have:=gB.1;omega,λi h1 h2=>by rw[f4 i h2];exact hkeepB i h1 h2⟩
    ·rw[Ah8 (l:=l),Al5,← hMt,hx,Ah8,JW (by omega),List.take_set_of_le (Ac2 _)]
     simp[hp]
    ·rw[List.drop_set_of_lt (by omega)];exact hdrop
    ·rw[f4 oc hne];exact gB.cells hc'
  ·have hjl:j=l.length:=by omega
   subst hjl;rw[Aj1]at hMt;have hil:i≤M.length:=by omega
   have hfl:(l.filter λx=>!p x).length=i:=by rw[← hMt,Ac0];omega
   obtain⟨o,off,cap,cells,rfl,w1,w2,w3⟩:=HL hw ho (by omega);have hol:=(BD.1 w1).1;have hmul:i*9≤M.length*9:=Ad0 _ hil;have hmul2:i*9+(M.length - i)*9=M.length*9:=by rw[← Ag9];congr 1;omega
   have hz:(Be (Ax (QL 0)) (M.length - i)).length=(M.length - i)*9:=by rw[Di];rfl
   have e3:AX 9 (.sl o off M.length 9 cap) (some (I i)) none none=some (.sl o (off+i*9) (M.length - i) 9 (cap.cut M.length i)):=by
    simp[AX,Bs];omega
   have e4:AX 9 (.sl o off M.length 9 cap) none (some (I i)) none=some (.sl o off i 9 (cap.cut M.length 0)):=by
    simp[AX,Bs];omega
   have e5:nC (Ax (QL 0)) H' (.sl o (off+i*9) (M.length - i) 9 (cap.cut M.length i))=some (H'.set o (some (.cells (B2 cells (off+i*9) (Be (Ax (QL 0)) (M.length - i)))))):=by
    simp only[nC,w1];rw[if_pos ⟨rfl,by omega,by omega⟩,if_neg (by omega),Ea _ _ _ (by rw[hz];omega)];rfl
   rw[← YF];have hnl:¬(l.length:Int)<M.length:=by omega
   simp only[nV,zO,hnl,yY,e3,e5,AE,e4];refine⟨rfl,?_,by simpa using hle,λa h1 h2=>?_,by simp[AU]⟩
   ·have hov:(B2 cells (off+i*9) (Be (Ax (QL 0)) (M.length - i))).length=cells.length:=G8 (by rw[hz];omega)
    rw[hfl,A9 (c:=B2 cells (off+i*9) (Be (Ax (QL 0)) (M.length - i))) (by simp[hol]) (by rw[hov];omega)]
    congr 2
    rw[← hMt,← Hd A1,w3,Ah0,Ai2 hmul];refine Ae5 λq=>?_
    rw[Ac9,Ac9]
    split
    ·rw[Ad1,Ad1,HK (by rw[hz];omega),if_neg (by omega)]
    ·rfl
   ·rw[C4 (by simp[AU]at h2;omega)]
    exact hk a h1 h2)
theorem gL {cs xs:List AV}{k:Nat}(h:(cs.drop k).take xs.length=xs)(hl:k+xs.length≤cs.length):B2 cs k xs=cs:=by
 refine Ae5 λi=>?_
 rw[HK hl]
 split
 ·rename_i c
  rw[← h,Ac9,if_pos (by omega),Ad1,show k+(i - k)=i by omega]
 ·rfl
theorem YE (x:Ext){j:Nat}(hj:j<8):(Ax x)[j+1]?=some (.lit (.int .u8 (x.b.getD j 0).toNat)):=by
 have hb:=x.hb;unfold Ax;rw[Eb,Qj,Ac8,DR (by omega)];rfl
theorem iE {x:Ext}{a:Int}{i j:Nat}(hj:(j:Int)=a - x.no*8+i)(hj8:j<8):(Ax (E2 x a (a+i))).set (1+j) u0Z=Ax (E2 x a (a+(i+1:Nat))):=by
 refine Ae5 λq=>?_
 rw[Ag6];cases q with
 | zero=>rw[if_neg (by omega)];rfl
 | succ q=>
  by_cases hq:q<8
  ·rw[YE _ hq,YE _ hq,IR hq,IR hq,A1]
   by_cases c:1+j=q+1
   ·rw[if_pos c,if_pos (by omega),if_pos (by omega)];rfl
   ·rw[if_neg c]
    by_cases c2:a≤x.no*8+(q:Int)∧x.no*8+(q:Int)<a+i
    ·rw[if_pos c2,if_pos (by omega)]
    ·rw[if_neg c2,if_neg (by omega)]
  ·rw[Ai3 (by rw[A1];omega),Ai3 (by rw[A1];omega),A1]
   rw[if_neg (by omega)]
theorem uI {H:AH}{o q:Nat}{cells:List AV}{x:Ext}{s:Sp}(hc:H[o]?=some (some (.cells cells)))(hx:(cells.drop q).take 9=Ax x)(hq:q+9≤cells.length)(hs:MaySpan s)(h0:0≤x.no)(h1:x.no<137438953472):
  ∃H',(H'[o]?=some (some (.cells (B2 cells q (Ax (E2 x s.pos (s.pos+s.len))))))∧H.length≤H'.length∧∀i,i<H.length→i≠o→H'[i]?=H[i]?)∧BCall prog 106 [.ptr o q,.agg (Cd s)] H (.tup []) H':=by
 have key:∃r H',(r=.tup []∧(H'[o]?=some (some (.cells (B2 cells q (Ax (E2 x s.pos (s.pos+s.len))))))∧H.length≤H'.length∧∀i,i<H.length→i≠o→H'[i]?=H[i]?))∧BCall prog 106 [.ptr o q,.agg (Cd s)] H r H':=UE (by
  unfold SN;have ho:=(BD.1 hc).1
  have hno:cells[q]?=some (I x.no):=by
   have:=congrArg (λl=>l[0]?) hx
   simp only[Ac9,Ad1,Ah1]at this
   simpa[Ax]using this
  have g1:=Grew.app H [some (.cells (Cd s))];have c1:=g1.cells hc;have c1':H[o]?=some (some (.cells cells)):=hc;obtain⟨p,n⟩:=s;simp only[Cd]at c1 g1⊢;simp[Ab9 ho,hc,hno,Ao];refine bP_of (Jl x.no h0 h1) ?_;refine bP_of (P3 ⟨x.no*8,8⟩ ⟨p,n⟩) ?_;have hwm:MaySpan ⟨x.no*8,8⟩:=by simp only[MaySpan,May];omega
  have hm:L8 ⟨x.no*8,8⟩ ⟨p,n⟩=if max (x.no*8) p<min (x.no*8+8) (p+n)then⟨max (x.no*8) p,min (x.no*8+8) (p+n) - max (x.no*8) p⟩else⟨0,0⟩:=by
   unfold L8;simp only
   by_cases c:max (x.no*8) p<min (x.no*8+8) (p+n)
   ·rw[if_pos ⟨hwm,hs,c⟩,if_pos c]
   ·rw[if_neg (λh=>c h.2.2),if_neg c]
  -- what is wiped
  have hres:∀m:Nat,(m:Int)=(L8 ⟨x.no*8,8⟩ ⟨p,n⟩).len→E2 x (L8 ⟨x.no*8,8⟩ ⟨p,n⟩).pos ((L8 ⟨x.no*8,8⟩ ⟨p,n⟩).pos+m)=E2 x p (p+n):=by
   intro m he;refine ZR rfl λk hk=>?_
   rw[IR hk,IR hk];rw[hm]at he⊢
   by_cases c:max (x.no*8) p<min (x.no*8+8) (p+n)
   ·rw[if_pos c]at he⊢
    simp only at he⊢
    by_cases c2:p≤x.no*8+(k:Int)∧x.no*8+(k:Int)<p+n
    ·rw[if_pos c2,if_pos (by omega)]
    ·rw[if_neg c2,if_neg (by omega)]
   ·rw[if_neg c]at he⊢
    simp only at he⊢;rw[if_neg (by omega),if_neg (by omega)]
  have hml:∃m:Nat,(m:Int)=(L8 ⟨x.no*8,8⟩ ⟨p,n⟩).len∧(0<m→x.no*8≤(L8 ⟨x.no*8,8⟩ ⟨p,n⟩).pos∧(L8 ⟨x.no*8,8⟩ ⟨p,n⟩).pos+m≤x.no*8+8):=by
   rw[hm]
   split
   ·exact⟨(min (x.no*8+8) (p+n) - max (x.no*8) p).toNat,by simp only;omega,λ_=>by simp only;omega⟩
   ·exact⟨0,rfl,λh=>by omega⟩
  obtain⟨m,hmm,hmb⟩:=hml;have hres:=hres m hmm;generalize L8 ⟨x.no*8,8⟩ ⟨p,n⟩=M at hmm hmb hres;obtain⟨a,ml⟩:=M;simp only at hmm hmb hres;subst hmm;have hxl:=A1 x;simp[Cd,Ab9 ho,hc,hno,AT];have hz0:E2 x a (a+(0:Nat))=x:=ZR rfl λk hk=>by rw[IR hk,if_neg (by omega)]
  refine Oj (λt x0 x4 x14 x15 H'=>∃i:Nat,i+t=m∧x0=.ptr o q∧x4=.ptr (H.length+1) 0∧x14=I m∧x15=I i∧H'[o]?=some (some (.cells (B2 cells q (Ax (E2 x a (a+i))))))∧H'[H.length+1]?=some (some (.cells [I a,I m]))∧H.length≤H'.length∧∀i,i<H.length→i≠o→H'[i]?=H[i]?) ?_ m
   ⟨0,by omega,rfl,rfl,rfl,rfl,?_,?_,by simp,λi hi _=>Ab9 hi⟩
  ·rintro t x0 x4 x14 x15 H' R hR ⟨i,hi,rfl,rfl,rfl,rfl,d0,d1,d2,d3⟩
   unfold KJ
   by_cases hlt:i<m
   ·obtain⟨b1,b2⟩:=hmb (by omega)
    obtain⟨j,hj⟩:∃j:Nat,(j:Int)=a - x.no*8+i:=⟨(a - x.no*8+i).toNat,by omega⟩;have ho':=(BD.1 d0).1;have hwl:=A1 (E2 x a (a+i))
    have hno':(B2 cells q (Ax (E2 x a (a+i))))[q]?=some (I x.no):=by
     rw[HK (by omega),if_pos (by omega),Nat.sub_self];rfl
    simp[hlt,d1,d0,hno',DM (a:=x.no) (b:=8) (by omega) (by omega),BM (a:=a) (b:=x.no*8) (by omega) (by omega),Aw (a:=a - x.no*8) (b:=i) (by omega) (by omega),← hj]
    have e1:PK 8 1 (.ptr o (q+1)) (I j)=some (.ptr o (q+1+j)):=by
     simp[PK,J8];omega
    rw[e1];simp only[Ab];rw[AC (n:=1) (off:=q+1+j) (xs:=[.lit (.int .u8 0)]) rfl d0 rfl (by rw[G8 (by omega)];omega)];simp[Aw (a:=i) (b:=1) (by omega) (by omega)];refine hR (t - 1) _ _ _ _ _ (by omega) ⟨i+1,by omega,rfl,rfl,rfl,rfl,?_,?_,by simpa using d2,λy h1 h2=>?_⟩
    ·rw[JW ho',← iE hj (by omega)]
     congr 3
     refine Ae5 λy=>?_
     rw[Ag6,G8 (by omega),HK (by omega),HK (by simp;omega),Ag6,Ae1]
     by_cases c:q+1+j=y
     ·subst c
      rw[if_pos rfl,if_pos (by omega),if_pos (by omega),if_pos (by omega),if_pos (by omega)]
     ·rw[if_neg c]
      split
      ·rw[if_neg (by omega)]
      ·rfl
    ·rw[C4 (by omega)];exact d1
    ·rw[C4 (by omega)];exact d3 y h1 h2
   ·have:i=m:=by omega
    subst this;simp[hlt];rw[hres]at d0;exact⟨d0,d2,d3⟩
  ·rw[Ab9 ho,hz0,gL (by rw[hxl];exact hx) (by omega)]
   exact hc
  ·rw[Ac4 (by omega)];simp)
 obtain⟨r,H',⟨rfl,h1⟩,h2⟩:=key;exact⟨H',h1,h2⟩
theorem dQ {H:AH}{w:AV}{l:List Ext}{i:Nat}{a:Int}{x:Ext}{s:Sp}(hw:Aa H 9 w=some (l.flatMap Ax,l.length))(ho:AP w=true)(hx:l[i]?=some x)(ha:a=i)(hs:MaySpan s)(h0:0≤x.no)(h1:x.no<137438953472):
  ∃p H',Bj 9 w (I a)=some p∧BCall prog 106 [p,.agg (Cd s)] H (.tup []) H'∧H.length≤H'.length∧(∀j,j<H.length→j∉AU w→H'[j]?=H[j]?)∧Aa H' 9 w=some ((l.set i (E2 x s.pos (s.pos+s.len))).flatMap Ax,l.length):=by
 subst ha;have hi:=(BD.1 hx).1;obtain⟨o,off,cap,cells,rfl,h2,h3,h4⟩:=HL hw ho (by omega);have hol:=(BD.1 h2).1;have hmul:i*9+9≤l.length*9:=by rw[← Af6];exact Ad0 _ hi
 have hxl:=A1 x;have hwl:=A1 (E2 x s.pos (s.pos+s.len))
 have hpart:(cells.drop (off+i*9)).take 9=Ax x:=by
  have e:((l.flatMap Ax).drop (i*9)).take 9=Ax x:=by
   rw[Dd A1 hx,Ad4 (by omega),Ac1 (by omega)]
  rw[h4,Ak0,Ag3,Ah0,Ai2 (by omega)]at e;exact e
 obtain⟨H',⟨k1,k2,k3⟩,k4⟩:=uI (q:=off+i*9) h2 hpart (by omega) hs h0 h1;refine⟨.ptr o (off+i*9),H',?_,k4,k2,λj h5 h6=>k3 j h5 (by simp[AU]at h6;omega),?_⟩
 ·simp only[Bj,J8]
  rw[if_pos ⟨by omega,by omega⟩];simp
 ·rw[A9 k1 (by rw[G8 (by omega)];exact h3)]
  rw[show off+i*9=off+(i*9+0) by omega,NX h3 (by omega),← h4,NW (q:=0) A1 hx (by unfold B2;rw[Aj8,Ai1,Ad2 (by omega),Af1]) (by omega)]
theorem map_set {f:Ext→Ext}{l:List Ext}{i:Nat}{x:Ext}(hx:l[i]?=some x):((l.take i).map f++l.drop i).set i (f x)=(l.take (i+1)).map f++l.drop (i+1):=by
 have hi:=(BD.1 hx).1;rw[D0 hx,List.set_append_right _ _ (by rw[Ae9,Ac0];omega),Ah8,hx];simp[show i - min i l.length=0 by omega]
theorem cQ {f:Ext→Ext}{l:List Ext}{i:Nat}{x:Ext}(hx:l[i]?=some x):((l.take i).map f++l.drop i)[i]?=some x:=by
 have hi:=(BD.1 hx).1;rw[Ac4 (by rw[Ae9,Ac0];omega),Ad1];simp only[Ae9,Ac0];rw[show i+(i - min i l.length)=i by omega];exact hx
theorem TQ {f:Ext→Ext}{l:List Ext}{i:Nat}:((l.take i).map f++l.drop i).length=l.length:=by
 simp;omega
theorem iC (size:Int)(l:List Ext)(h:∀x∈l,-1≤x.no∧x.no<137438953472):nG 105 1 [I size] l (λx=>decide (size≤x.no*8)):=by
 refine⟨by kernel_rfl,rfl,λx hx H a ha=>?_⟩;obtain⟨h1,h2⟩:=h x hx
 have key:∃r H',(r=B (decide (size≤x.no*8))∧Grew H H')∧BCall prog 105 [.agg (Ax x),a] H r H':=MW (by
  unfold JP;have g:=Grew.app H [some (.cells (Ax x))];rcases ha with rfl | ⟨rfl,hc⟩
  ·simp[DM (a:=x.no) (b:=8) (by omega) (by omega)]
   exact g
  ·have h1':=(BD.1 hc).1
   have hc':=g.cells hc;simp[DM (a:=x.no) (b:=8) (by omega) (by omega),hc'];exact g)
 obtain⟨r,H',⟨rfl,g⟩,hc⟩:=key;exact⟨H',g,hc⟩
theorem gN (oc:Nat)(s:Sp)(l:List Ext)(h:∀x∈l,0≤x.no∧x.no<137438953472):nG 203 oc (Cd s) l (λx=>decide (Within ⟨x.no*8,8⟩ s)):=by
 refine⟨by kernel_rfl,rfl,λx hx H a ha=>?_⟩;obtain⟨h1,h2⟩:=h x hx
 have key:∃r H',(r=B (decide (Within ⟨x.no*8,8⟩ s))∧Grew H H')∧BCall prog 203 [.agg (Ax x),a] H r H':=Qp (by
  unfold MR;have g:=Grew.app H [some (.cells (Ax x))];simp;refine bP_of (Jl x.no h1 h2) ?_
  have ha':Au true 2 (H++[some (.cells (Ax x))]) a=some (.agg (Cd s)):=by
   rcases ha with rfl | ⟨rfl,hc⟩
   ·rfl
   ·rw[Ak (g.cells hc)];rfl
  rw[ha'];simp;refine bP_of (X2 ⟨x.no*8,8⟩ s) ?_;exact⟨rfl,g⟩)
 obtain⟨r,H',⟨rfl,g⟩,hc⟩:=key;exact⟨H',g,hc⟩
abbrev Aa3:=And.intro @List.nil_append.{0} @List.take_zero.{0}
abbrev Aa7:=And.intro @List.drop_zero.{0} @List.map_nil.{0,0}
abbrev Ah4:=@List.length_filter_le
theorem JR {size0:Int}{l:List Ext}{v:AV}(hv:SV Ax 9 l v)(hl:l.length≤1000000)(size:Int):
  ∃R,SV Ax 9 (cL (Cl (size0,l) size)) R∧BPure prog 50 [.agg [I size0,v],I size] (.tup [.agg [I (cS (Cl (size0,l) size)),R],B (Cl (size0,l) size).isSome]):=by
 refine BPure.cont (by simp[A6,noIds,hv.1]) (Pt ?_);unfold LT;simp[EC hv,Ao,jD];refine A4 (Fd hv (by omega)) ?_
 by_cases h1:Cs size0 l
 ·by_cases h2:size<0
  ·have hn:Cl (size0,l) size=none:=if_neg (λh=>by omega)
   simp[h1,h2,AT];exact ContK.none hn
  ·by_cases h3:1099511627776<size
   ·have hn:Cl (size0,l) size=none:=if_neg (λh=>by omega)
    simp[h1,h2,h3,AT];exact ContK.none hn
   ·have hw:Cl (size0,l) size=some (size,Dy l size):=if_pos ⟨h1,by omega,by omega⟩
    simp[h1,h2,h3];obtain⟨r,H2,⟨w,rfl,a2,a3,a4,a5⟩,a1⟩:=Qe (size:=size0) (hv.2 [some (.cells [I size0,v]),some (.cells [I size]),some (.cells [I 0,Ad])]) (EC hv) (by omega);refine bC_of a1 ?_;have c0:=a4.cells (o:=0) (x:=some (.cells [I size0,v])) rfl;have c1:=a4.cells (o:=1) (x:=some (.cells [I size])) rfl;have c2:=a4.cells (o:=2) (x:=some (.cells [I 0,Ad])) rfl;have hl2:=a4.1;simp only[yU]at hl2;have hwo:=AM a2;have id0:∀j,j<3→j∉AU w:=λj hj h=>by have:=a5 j h;simp at this;omega
    have hs0:=LD h1.2.2;have hno:=λx hx=>(QP h1.2.2 x hx)
    rw[AC (n:=2) (off:=0) (x:=.agg [I size0,w]) (xs:=[I size0,w]) (by simp[hwo]) c0 rfl (by simp)];simp[c1];rw[AC (n:=1) (off:=0) (xs:=[I size]) (cs:=[I size0,w]) rfl (JW (by omega)) rfl (by simp)];simp[show 0<H2.length by omega];have keep0:∀j x,j≠0→(H2.set 0 x)[j]?=H2[j]?:=λj x hj=>C4 (by omega)
    have hw1:Aa (H2.set 0 (some (.cells [I size,w]))) 9 w=some (l.flatMap Ax,l.length):=Ae a3 λi hi=>keep0 i _ (λh=>id0 0 (by omega) (h▸hi))
    obtain⟨r2,H3,⟨b1,b2,b3,b4,b5⟩,b6⟩:=KE (k:=105) hw1 a2 (by omega) (oc:=1) (c:=[I size]) (by rw[keep0 1 _ (by omega)];exact c1) (id0 1 (by omega)) (iC size l λx hx=>by have:=hno x hx;omega)
    have hfe:(l.filter λx=>!decide (size≤x.no*8))=l.filter λx=>decide (x.no*8<size):=List.filter_congr λx _=>by
     by_cases c:size≤x.no*8
     ·simp[c,show ¬x.no*8<size by omega]
     ·simp[c,show x.no*8<size by omega]
    rw[hfe]at b2;refine bC_of b6 ?_;simp at b3;have id3:∀j,j<3→j∉AU r2:=λj hj h=>id0 j hj (b5 j h)
    have d0:H3[0]?=some (some (.cells [I size,w])):=by rw[b4 0 (by simp;omega) (id0 0 (by omega))];exact JW (by omega)
    have d1:H3[1]?=some (some (.cells [I size])):=by rw[b4 1 (by simp;omega) (id0 1 (by omega)),keep0 1 _ (by omega)];exact c1
    have d2:H3[2]?=some (some (.cells [I 0,Ad])):=by rw[b4 2 (by simp;omega) (id0 2 (by omega)),keep0 2 _ (by omega)];exact c2
    have hr2:=AM b1;rw[AC (n:=1) (off:=1) (xs:=[r2]) (cs:=[I size,w]) (AS hr2) d0 rfl (by simp)];have hfl:(l.filter λx=>decide (x.no*8<size)).length≤l.length:=Ah4 _ _
    have hfm:∀x∈(l.filter λx=>decide (x.no*8<size)),0≤x.no∧x.no<137438953472:=λx hx=>by
     have:=hno x (Ak3.1 hx).1;omega
    have hte:Dy l size=(l.filter λx=>decide (x.no*8<size)).map λx=>E2 x size 1099511627776:=rfl
    generalize (l.filter λx=>decide (x.no*8<size))=F at b2 hfl hfm hte;simp[show 0<H3.length by omega,By b2];have hsp:MaySpan ⟨size,1099511627776 - size⟩:=by simp only[MaySpan,May];omega
    refine KH (λt x2 x3 x4 x30 x31 H=>∃i:Nat,i+t=F.length∧x2=.ptr 0 0∧x3=.ptr 1 0∧x4=.ptr 2 0∧x30=I F.length∧x31=I i∧H[0]?=some (some (.cells [I size,r2]))∧H[1]?=some (some (.cells [I size]))∧H[2]?=some (some (.cells [I 0,Ad]))∧
     Aa H 9 r2=some (((F.take i).map (λx=>E2 x size 1099511627776)++F.drop i).flatMap Ax,((F.take i).map (λx=>E2 x size 1099511627776)++F.drop i).length)) ?_ F.length
     ⟨0,by omega,rfl,rfl,rfl,rfl,rfl,JW (by omega),(C4 (by omega)).trans d1,(C4 (by omega)).trans d2,?_⟩
    ·rintro t x2 x3 x4 x30 x31 H R hR ⟨i,hi,rfl,rfl,rfl,rfl,rfl,e0,e1,e2,e3⟩
     unfold HD;have hH0:=(BD.1 e0).1;have hH1:=(BD.1 e1).1;have hH2:=(BD.1 e2).1;rcases Ac5 i F.length with hlt | hge
     ·have hx:=DR hlt
      generalize F[i]=x at hx;obtain⟨x0,x1⟩:=hfm x (Ac3 hx);obtain⟨p,H',f1,f2,f3,f4,f5⟩:=dQ (s:=⟨size,1099511627776 - size⟩) e3 b1 (cQ hx) (a:=i) rfl hsp x0 x1;simp only[show size+(1099511627776 - size)=1099511627776 by omega]at f5;rw[map_set (f:=λx=>E2 x size 1099511627776) hx]at f5;simp[hlt,e0,e1,f1,BM (a:=1099511627776) (b:=size) (by omega) (by omega)];refine bC_of f2 ?_;simp[Aw (a:=i) (b:=1) (by omega) (by omega)];refine hR (t - 1) _ _ _ _ _ _ (by omega) ⟨i+1,by omega,rfl,rfl,rfl,rfl,rfl,by rw[f4 0 hH0 (id3 0 (by omega))];exact e0,by rw[f4 1 hH1 (id3 1 (by omega))];exact e1,by rw[f4 2 hH2 (id3 2 (by omega))];exact e2,by rw[f5,TQ,TQ]⟩
     ·have:i=F.length:=by omega
      subst this;simp[e0,Ao];rw[AC (n:=2) (off:=0) (xs:=[I size,r2]) (cs:=[I 0,Ad]) (by simp[hr2]) e2 rfl (by simp)];simp[hH2];rw[Aj1,Am0,Af1,← hte]at e3
      exact ContK.some hw (Ae e3 λi hi=>by
       have h2:3≤i:=Ah2 λh=>id3 i h hi
       rw[C4 (by omega)])
    ·simp only[Aa3,Aa7]
     exact Ae b2 λi hi=>by
      have h2:3≤i:=Ah2 λh=>id3 i h hi
      rw[C4 (by omega)]
 ·have hn:Cl (size0,l) size=none:=if_neg (λh=>h1 h.1)
  simp[h1,AT];exact ContK.none hn
theorem Z1 {no pos n:Int}(h:QI pos n)(h0:0≤no)(h1:no<137438953472):(!decide (Within ⟨no*8,8⟩ ⟨pos,n⟩))=!gone pos n no:=by
 have e:Within ⟨no*8,8⟩ ⟨pos,n⟩↔(pos≤no*8∧no*8+8≤pos+n):=by
  rw[aY];unfold PF MaySpan May;unfold QI at h;simp only;omega
 unfold gone
 by_cases c1:pos≤no*8<;>by_cases c2:no*8+8≤pos+n<;>simp[e,c1,c2]
theorem U7 {size:Int}{l:List Ext}{v:AV}(hv:SV Ax 9 l v)(hl:l.length≤1000000)(pos n:Int):
  ∃R,SV Ax 9 (cL (Ih (size,l) pos n)) R∧BPure prog 172 [.agg [I size,v],I pos,I n] (.tup [.agg [I (cS (Ih (size,l) pos n)),R],B (Ih (size,l) pos n).isSome]):=by
 refine BPure.cont (by simp[A6,noIds,hv.1]) (T4 ?_);unfold Qo;simp[EC hv,Ao];refine A4 (Fd hv (by omega)) ?_
 by_cases h1:Cs size l
 ·simp[h1]
  refine A4 (OJ pos n) ?_
  by_cases h2:QI pos n
  ·have hw:Ih (size,l) pos n=some (size,Kp l pos n):=if_pos ⟨h1,h2⟩
   have h2':=h2;obtain⟨g1,g2,g3,g4⟩:=h2';simp[h2];obtain⟨r,H2,⟨w,rfl,a2,a3,a4,a5⟩,a1⟩:=Qe (size:=size) (hv.2 [some (.cells [I size,v]),some (.cells [I 0,Ad])]) (EC hv) (by omega);refine bC_of a1 ?_;have c0:=a4.cells (o:=0) (x:=some (.cells [I size,v])) rfl;have c2:=a4.cells (o:=1) (x:=some (.cells [I 0,Ad])) rfl;have hl2:=a4.1;simp only[yU]at hl2;have hwo:=AM a2;have id0:∀j,j<2→j∉AU w:=λj hj h=>by have:=a5 j h;simp at this;omega
   have hs0:=LD h1.2.2;have hno:=λx hx=>(QP h1.2.2 x hx)
   rw[AC (n:=2) (off:=0) (x:=.agg [I size,w]) (xs:=[I size,w]) (by simp[hwo]) c0 rfl (by simp)];simp;rw[AC (n:=2) (off:=0) (x:=.agg [I pos,I n]) (xs:=[I pos,I n]) (cs:=[I 0,I 0]) (by simp) (by rw[Ac4 (by simp)];simp) rfl (by simp)]
   have hset:((H2.set 0 (some (AObj.cells [I size,w])))++[some (AObj.cells [I 0,I 0])]).set H2.length (some (AObj.cells (AR [I 0,I 0] 0 [I pos,I n])))=(H2.set 0 (some (AObj.cells [I size,w])))++[some (AObj.cells [I pos,I n])]:=by
    rw[List.set_append_right _ _ (by simp)];simp
   rw[hset];have g:=Grew.app (H2.set 0 (some (AObj.cells [I size,w]))) [some (.cells [I pos,I n])];have keep0:∀j x,j≠0→(H2.set 0 x)[j]?=H2[j]?:=λj x hj=>C4 (by omega)
   have z0:=g.cells (o:=0) (x:=some (.cells [I size,w])) (JW (by omega));have z1:=g.cells (o:=1) (x:=some (.cells [I 0,Ad])) (by rw[keep0 1 _ (by omega)];exact c2);have z2:(H2.set 0 (some (AObj.cells [I size,w]))++[some (AObj.cells [I pos,I n])])[H2.length]?=some (some (.cells [I pos,I n])):=by rw[Ac4 (by simp)];simp
   have zid:H2.length∉AU w:=λh=>by have:=A3 a3 _ h;omega
   have hlen3:(H2.set 0 (some (AObj.cells [I size,w]))++[some (AObj.cells [I pos,I n])]).length=H2.length+1:=by simp
   have hw1:=g.slice (Ae (H':=H2.set 0 (some (AObj.cells [I size,w]))) a3 λi hi=>keep0 i _ (λh=>id0 0 (by omega) (h▸hi)));generalize hH3:(H2.set 0 (some (AObj.cells [I size,w]))++[some (AObj.cells [I pos,I n])])=H3 at g z0 z1 z2 hw1 hlen3;generalize H2.length=so at z2 zid hlen3 hl2;simp[z0];obtain⟨r2,H4,⟨b1,b2,b3,b4,b5⟩,b6⟩:=KE (k:=203) hw1 a2 (by omega) (oc:=so) (c:=Cd ⟨pos,n⟩) z2 zid (gN so ⟨pos,n⟩ l λx hx=>by have:=hno x hx;omega)
   have hfe:(l.filter λx=>!decide (Within ⟨x.no*8,8⟩ ⟨pos,n⟩))=l.filter λx=>!gone pos n x.no:=List.filter_congr λx hx=>by
    have:=hno x hx
    exact Z1 h2 (by omega) (by omega)
   rw[hfe]at b2;refine bC_of b6 ?_;have id3:∀j,j<2→j∉AU r2:=λj hj h=>id0 j hj (b5 j h)
   have id4:so∉AU r2:=λh=>zid (b5 so h)
   have d0:H4[0]?=some (some (.cells [I size,w])):=by rw[b4 0 (by omega) (id0 0 (by omega))];exact z0
   have d1:H4[1]?=some (some (.cells [I 0,Ad])):=by rw[b4 1 (by omega) (id0 1 (by omega))];exact z1
   have d2:H4[so]?=some (some (.cells [I pos,I n])):=by rw[b4 so (by omega) zid];exact z2
   have hr2:=AM b1;rw[AC (n:=1) (off:=1) (xs:=[r2]) (cs:=[I size,w]) (AS hr2) d0 rfl (by simp)];have hfl:(l.filter λx=>!gone pos n x.no).length≤l.length:=Ah4 _ _
   have hfm:∀x∈(l.filter λx=>!gone pos n x.no),0≤x.no∧x.no<137438953472:=λx hx=>by
    have:=hno x (Ak3.1 hx).1;omega
   have hte:Kp l pos n=(l.filter λx=>!gone pos n x.no).map λx=>E2 x pos (pos+n):=rfl
   generalize (l.filter λx=>!gone pos n x.no)=F at b2 hfl hfm hte;simp[show 0<H4.length by omega,By b2];have hsp:MaySpan ⟨pos,n⟩:=by simp only[MaySpan,May];omega
   refine MS (λt x3 x6 x8 x32 x33 H=>∃i:Nat,i+t=F.length∧x3=.ptr 0 0∧x6=.ptr 1 0∧x8=.ptr so 0∧x32=I F.length∧x33=I i∧H[0]?=some (some (.cells [I size,r2]))∧H[1]?=some (some (.cells [I 0,Ad]))∧H[so]?=some (some (.cells [I pos,I n]))∧
    Aa H 9 r2=some (((F.take i).map (λx=>E2 x pos (pos+n))++F.drop i).flatMap Ax,((F.take i).map (λx=>E2 x pos (pos+n))++F.drop i).length)) ?_ F.length
    ⟨0,by omega,rfl,rfl,rfl,rfl,rfl,JW (by omega),(C4 (by omega)).trans d1,(C4 (by omega)).trans d2,?_⟩
   ·rintro t x3 x6 x8 x32 x33 H R hR ⟨i,hi,rfl,rfl,rfl,rfl,rfl,e0,e1,e2,e3⟩
    unfold JN;have hH0:=(BD.1 e0).1;have hH1:=(BD.1 e1).1;have hH2:=(BD.1 e2).1;rcases Ac5 i F.length with hlt | hge
    ·have hx:=DR hlt
     generalize F[i]=x at hx;obtain⟨x0,x1⟩:=hfm x (Ac3 hx);obtain⟨p,H',f1,f2,f3,f4,f5⟩:=dQ (s:=⟨pos,n⟩) e3 b1 (cQ hx) (a:=i) rfl hsp x0 x1;rw[map_set (f:=λx=>E2 x pos (pos+n)) hx]at f5;simp[hlt,e0,e2,f1,Ao];refine bC_of f2 ?_;simp[Aw (a:=i) (b:=1) (by omega) (by omega)];refine hR (t - 1) _ _ _ _ _ _ (by omega) ⟨i+1,by omega,rfl,rfl,rfl,rfl,rfl,by rw[f4 0 hH0 (id3 0 (by omega))];exact e0,by rw[f4 1 hH1 (id3 1 (by omega))];exact e1,by rw[f4 so hH2 id4];exact e2,by rw[f5,TQ,TQ]⟩
    ·have:i=F.length:=by omega
     subst this;simp[e0,Ao];rw[AC (n:=2) (off:=0) (xs:=[I size,r2]) (cs:=[I 0,Ad]) (by simp[hr2]) e1 rfl (by simp)];simp[hH1];rw[Aj1,Am0,Af1,← hte]at e3
     exact ContK.some hw (Ae e3 λi hi=>by
      have h2:2≤i:=Ah2 λh=>id3 i h hi
      rw[C4 (by omega)])
   ·simp only[Aa3,Aa7]
    exact Ae b2 λi hi=>by
     have h2:2≤i:=Ah2 λh=>id3 i h hi
     rw[C4 (by omega)]
  ·have hn:Ih (size,l) pos n=none:=if_neg (λh=>h2 h.2)
   simp[h2,AT];exact ContK.none hn
 ·have hn:Ih (size,l) pos n=none:=if_neg (λh=>h1 h.1)
  simp[h1,AT];exact ContK.none hn
def Tf (ns:List Nm)(s t:List UInt8):Prop:=AO Nm.name ns s∧G5 t∧s≠t
instance (ns:List Nm) (s t:List UInt8):Decidable (Tf ns s t):=by unfold Tf;infer_instance
def WB (ns:List Nm)(s t:List UInt8):List Nm:=if Tf ns s t then Jr Bg Nm.name (Fi (CY Bg Nm.name ns s) t) ⟨t,Fh ns s⟩else ns
def WA (ns:List Nm)(dv:List NdV)(s t:List UInt8):List NdV:=if Tf ns s t then Te (CY Bg Nm.name ns s) dv t else dv
theorem gW {ns:List Nm}{t:List UInt8}(h:Cb Bg Nm.name ns):Cb Bg Nm.name (Fi ns t):=by
 unfold Fi
 split
 ·exact E1 h
 ·exact h
theorem gV {ns:List Nm}{t:List UInt8}:(Fi ns t).length≤ns.length:=by
 unfold Fi
 split
 ·exact delK_sub.length_le
 ·exact Ac2 _
theorem mD {L oi:Nat}{ns:List Nm}{dv:List NdV}{a b:AV}{H:AH}{s t:List UInt8}(h:ImH L oi ns dv a b H)(hs:Cb Bg Nm.name ns)(hd:Cb Cc NdV.ino dv)(hx:∀x∈ns,AO NdV.ino dv x.ino)(hn:ns.length≤100000)(hm:dv.length≤100000)(ht:t.length≤1000000000):
  ∃r H',xK L oi H (WB ns s t) (WA ns dv s t) r H'∧BCall prog 154 [.ptr oi 0,S (A0 s),S (A0 t)] H r H':=TF (by
 obtain⟨Ra,Rb,sa,sb,fz⟩:=h.lend;have c0:=h.obj;unfold Q9;have b0:∀a b:AV,Ao true 2 [a,b] 0=some (.agg [a,b]):=λ_ _=>rfl
 have hno:¬Tf ns s t→xK L oi H (WB ns s t) (WA ns dv s t) (.tup []) H:=λhc=>by
  unfold WB WA;rw[if_neg hc,if_neg hc];exact⟨rfl,a,b,h,FrL.refl _ _ _⟩
 simp[c0,b0];refine bC_of (PCall.lend (FZs.cons fz (FZs.cons (FZ.lit _) FZs.nil)) rfl (QJ sa sb hs (by omega) s)).call ?_
 by_cases q1:AO Nm.name ns s
 ·simp[q1]
  refine A4 (NB (s:=t) (by omega)) ?_
  by_cases q2:G5 t
  ·by_cases q3:s=t
   ·simp[q2,Gs,q3]
    rw[← q3]at hno⊢;exact hno λhc=>hc.2.2 rfl
   ·have hc:Tf ns s t:=⟨q1,q2,q3⟩
    unfold WB WA;rw[if_pos hc,if_pos hc];obtain⟨x,hx1,hx2,hx3⟩:=KY koN hs q1;obtain⟨o,off,cells,u1,u2,u3,u4,u5,-⟩:=Vg Eu (by omega) h.sa h.oa hx1;have u51:=u5 1 (by omega);have hpl:=(BD.1 hx1).1;have e1:Fh ns s=x.ino:=by unfold Fh;rw[hx2]
    simp[q2,Gs,q3,c0,b0,u1,u3,u51,Cy,Aw (a:=(CZ Bg Nm.name ns s:Nat)) (b:=1) (by omega) (by omega)];obtain⟨r1,H2,⟨d1,d2,d3,d4,d5,d6⟩,d7⟩:=kD h.sa h.oa h.ca hpl (by omega);refine bC_of d7 ?_;have l1:=MO (c:=Bg) (key:=Nm.name) (k:=s) hpl;obtain⟨H3,e3,n1,n2⟩:=h.newA (ms:=CY Bg Nm.name ns s) (Am7 d3.symm) (λi _ hi=>d4 i hi) (by rw[show(CY Bg Nm.name ns s).length=ns.length - 1 by omega];exact d2) d1 (by rw[show(CY Bg Nm.name ns s).length=ns.length - 1 by omega];exact d6) (λi hi=>.inl (d5▸hi));simp[e3];have hs1:Cb Bg Nm.name (CY Bg Nm.name ns s):=E1 hs;obtain⟨r4,H4,⟨rfl,a4,b4,m1,m2⟩,m3⟩:=Zo (s:=t) n1 hs1 hd (λy hy=>hx y (delK_sub.subset hy)) (by omega) hm;refine bC_of m3 ?_;have c4:=m1.obj;obtain⟨Sa,Sb,ta,tb,gz⟩:=m1.lend;have hs2:=gW (t:=t) hs1;have hl2:=gV (ns:=CY Bg Nm.name ns s) (t:=t);simp[c4,b0];refine bC_of (PCall.lend (FZs.cons gz (FZs.cons (FZ.lit _) FZs.nil)) rfl (QJ ta tb hs2 (by omega) t)).call ?_;have g5:=Grew.app H4 [some (.cells (Cy ⟨t,x.ino⟩))];have m5:=m1.grew g5;have e5:Cr H4 2 1 (Be [(.lit (.string ⟨#[]⟩)),(I 0)] 1) [(0,2,.agg (Cy ⟨t,x.ino⟩))]=some (.sl H4.length 0 1 2 (.ex 1),H4++[some (.cells (Cy ⟨t,x.ino⟩))]):=rfl;have e6:FK [(.lit (.string ⟨#[]⟩)),(I 0)] [(0,1,S (A0 t)),(1,1,I x.ino)]=some (.agg (Cy ⟨t,x.ino⟩)):=rfl;simp[c4,e5,e6];obtain⟨r7,H7,⟨k1,k2,k3,k4,k5,k6⟩,k7⟩:=kS (x:=⟨t,x.ino⟩) (oj:=H4.length) m5.sa m5.oa m5.ca (TU (c:=Bg) (key:=Nm.name) _ t) (by omega) (by simp) (λhh=>by have:=A3 m1.sa _ hh;omega);refine bC_of k7 ?_;have el:=UU (c:=Bg) (key:=Nm.name) (l:=Fi (CY Bg Nm.name ns s) t) (x:=⟨t,x.ino⟩);obtain⟨H8,e8,p1,p2⟩:=m5.newA (ms:=Jr Bg Nm.name (Fi (CY Bg Nm.name ns s) t) ⟨t,x.ino⟩) k3 k4 (by rw[el];exact k2) k1 (by rw[el];exact k6) k5;simp[e8];rw[e1];have hle:=m1.len;exact⟨rfl,_,_,p1,n2.trans (m2.trans ⟨Ad8 g5.1 p2.1,λj h1 h2=>(p2.2 j h1 h2).trans (g5.2 j (by omega))⟩)⟩
  ·simp[q2]
   exact hno λhc=>q2 hc.2.1
 ·simp[q1]
  exact hno λhc=>q1 hc.1)
def Of (o:OpM)(d:Nd):Option Gr:=if o.kind=2 then DE (d.size,d.l) o.pos o.b else if o.kind=3 then Cl (d.size,d.l) o.size else if o.kind=4 then Gt (d.size,d.l) o.pos o.size o.keep else if o.kind=5 then Ih (d.size,d.l) o.pos o.size else none
def Qd (ds:List Nd)(o:OpM):List Nd:=match ZI Nd.ino ds o.ino with
 | some d=>match Of o d with
  | some c=>ds.set (CZ Cc Nd.ino ds o.ino) ⟨d.ino,c.1,c.2⟩
  | none=>ds
 | none=>ds
theorem Yy {L oi k q:Nat}{ns:List Nm}{dv:List NdV}{a b R:AV}{H:AH}{x:NdV}{sz:Int}{l:List Ext}(h:ImH L oi ns dv a b H)(hx:dv[k]?=some x)(hR:SV Ax 9 l R)(hq:H[q]?=some (some (.cells [I sz,R])))(ok:Bool):
  ∃H',ImH L oi ns (if ok=true then dv.set k ⟨⟨x.nd.ino,sz,l⟩,R,hR⟩else dv) a b H'∧FrL L oi H H'∧∀K:AV→AH→Prop,K (.tup []) H'→Ct (.ptr oi 0) (I k) (B ok) (.ptr q 0) H K:=by
 cases ok with
 | false=>
  refine⟨H,h,FrL.refl _ _ _,λK hK=>?_⟩;rw[Jq];unfold Gy;rw[Iq];unfold FN
  simpa using hK
 | true=>
  obtain⟨o,off,cells,u1,u2,u3,u4,u5,u6⟩:=Vg D3 (by omega) h.sb h.ob hx;have oL:=h.ib o u2;have hoo:o≠oi:=λe=>h.noB (e▸u2)
  have hle:=h.len;have o2:=SV.oneA hR;have c0:=h.obj;have hol:=(BD.1 u3).1
  have e1:AT 2 H (.ptr o (off+1)) (.agg [I sz,R])=some (H.set o (some (.cells (AR cells (off+1) [I sz,R])))):=by
   rw[AC (n:=2) (xs:=[I sz,R]) (by simp[o2]) u3 rfl (by omega)]
  refine⟨H.set o (some (.cells (AR cells (off+1) [I sz,R]))),⟨?_,h.lo,by simp;omega,?_,h.oa,h.ca,h.ia,?_,h.ob,by simpa using h.cb,h.ib,h.ab⟩,⟨by simp,λj h1 h2=>C4 (by omega)⟩,λK hK=>?_⟩
  ·rw[C4 (by omega)];exact c0
  ·exact Ae h.sa λi hi=>C4 (fun (e:o=i)=>h.ab i hi (e▸u2))
  ·have:=u6 ⟨⟨x.nd.ino,sz,l⟩,R,hR⟩ 1 [I sz,R] rfl (by simp)
   simpa using this
  ·rw[Jq];unfold Gy
   rw[Iq];unfold FN;have b0:Ao true 2 [I sz,R] 0=some (.agg [I sz,R]):=rfl;simp only[Af,Al];have e3:Au false 1 H (.ptr oi 1)=some b:=by rw[Ak c0];rfl
   have e4:Au true 2 H (.ptr q 0)=some (.agg [I sz,R]):=by rw[Ak hq];rfl
   show bO (some (AV.ptr oi 0)) _
   simp only[Ab]
   show bO (some (AV.ptr oi 1)) _
   simp only[Ab,e3,e4,u1]
   show bO (some (AV.ptr o (off+1))) _
   simp only[Ab,e1,AE];exact hK
def ChP (L oi:Nat)(H:AH)(ns:List Nm)(ds:List Nd)(r:AV)(H':AH):Prop:=r=.tup []∧∃a b dv,dv.map NdV.nd=ds∧ImH L oi ns dv a b H'∧FrL L oi H H'
abbrev Ai6:=@Option.isSome_some
theorem jO {L oi:Nat}{ns:List Nm}{dv:List NdV}{a b bv:AV}{H:AH}{o:OpM}(h:ImH L oi ns dv a b H)(hs:Cb Bg Nm.name ns)(hd:Cb Cc NdV.ino dv)(hb:SV Je 1 o.b bv)(hm:dv.length≤100000)(hbl:o.b.length≤281474976710656)(hl:∀d∈dv,d.nd.l.length≤1000000)(hk:o.kind=2∨o.kind=3∨o.kind=4∨o.kind=5):
  ∃r H',ChP L oi H ns (Qd (dv.map NdV.nd) o) r H'∧BCall prog 153 [.ptr oi 0,.agg (DL o bv)] H r H':=TA (by
 obtain⟨H1,e1,hp,h1,f1⟩:=lS h o (SV.oneA hb);obtain⟨Ra,Rb,sa,sb,fz⟩:=h1.lend;have c0:=h1.obj;unfold Q5;simp only[e1,Az];have b0:Ao true 2 [a,b] 0=some (.agg [a,b]):=rfl;simp[hp,c0,b0,DL];refine bC_of (PCall.lend (FZs.cons fz (FZs.cons (FZ.lit _) FZs.nil)) rfl (Va sa sb hd (by omega) o.ino)).call ?_
 by_cases q1:AO NdV.ino dv o.ino
 ·obtain⟨x,hx1,hx2,hx3⟩:=KY koI hd q1
  obtain⟨oo,off,cells,u1,u2,u3,u4,u5,u6⟩:=Vg D3 (by omega) h1.sb h1.ob hx1;have hxl:=hl x (Ac3 hx1)
  have rd1:Ao true 2 cells (off+1)=some (.agg [I x.nd.size,x.R]):=by
   have e51:=u5 1 (by omega);have e52:=u5 2 (by omega);have l2:off+1+2≤cells.length:=by omega
   have:(cells.drop (off+1)).take 2=[I x.nd.size,x.R]:=by
    rw[Ag7 (by omega),Ag7 (by omega)];rw[DR (by omega)]at e51 e52;simp[BY]at e51 e52;simp[e51,e52]
   simp[Ao,l2,this]
  have o1:=SV.oneA x.h
  have fin:∀(res:Option Gr) (R:AV) (Hc:AH) (sR:SV Ax 9 (cL res) R),Of o x.nd=res→ImH L oi ns dv a b Hc→FrL L oi H1 Hc→∀q,Hc[q]?=some (some (.cells [I (cS res),R]))→Ct (.ptr oi 0) (I (CZ Cc NdV.ino dv o.ino)) (B res.isSome) (.ptr q 0) Hc (ChP L oi H ns (Qd (dv.map NdV.nd) o)):=by
   intro res R Hc sR hr hc fc q hq;obtain⟨H9,w1,w2,w3⟩:=Yy hc hx1 sR hq res.isSome;refine w3 _ ⟨rfl,_,_,_,?_,w1,f1.trans (fc.trans w2)⟩;unfold Qd;rw[cA hx2];simp only[hr];cases res with
   | none=>rfl
   | some c=>
    simp only[Ai6,if_true,Al9,Vi];rfl
  simp[q1,c0,u1,u3,rd1]
  obtain⟨H2,e2,hq2,hp2,h2,f2⟩:∃H2,AT 2 (H1++[some (.cells [I 0,Ad])]) (.ptr H1.length 0) (.agg [I x.nd.size,x.R])=some H2∧H2[H1.length]?=some (some (.cells [I x.nd.size,x.R]))∧H2[H.length]?=some (some (.cells (DL o bv)))∧ImH L oi ns dv a b H2∧FrL L oi H1 H2:=by
   have g:=Grew.app H1 [some (.cells [I x.nd.size,x.R])];have hle:=h1.len;exact⟨_,by simp[AT,AR,o1,AS o1],by simp,g.cells hp,h1.grew g,g.1,λj i1 i2=>g.2 j (by omega)⟩
  have hol2:=(BD.1 hq2).1;have hql:L≤H1.length:=h1.len
  have put:∀(sz:Int) (R:AV),oneA R=true→AT 2 H2 (.ptr H1.length 0) (.agg [I sz,R])=some (H2.set H1.length (some (.cells [I sz,R])))∧ImH L oi ns dv a b (H2.set H1.length (some (.cells [I sz,R])))∧FrL L oi H1 (H2.set H1.length (some (.cells [I sz,R])))∧(H2.set H1.length (some (.cells [I sz,R])))[H1.length]?=some (some (.cells [I sz,R])):=by
   intro sz R hR;have hlo:=(BD.1 h1.obj).1;refine⟨?_,⟨?_,h2.lo,by simpa using h2.len,?_,h2.oa,h2.ca,h2.ia,?_,h2.ob,h2.cb,h2.ib,h2.ab⟩,⟨by simpa using f2.1,λj i1 i2=>?_⟩,by simp[hol2]⟩
   ·rw[AC (n:=2) (off:=0) (xs:=[I sz,R]) (by simp[hR]) hq2 rfl (by simp)];rfl
   ·rw[C4 (by omega)];exact h2.obj
   ·exact Ae h2.sa λi hi=>C4 (by have:=A3 h1.sa i hi;omega)
   ·exact Ae h2.sb λi hi=>C4 (by have:=A3 h1.sb i hi;omega)
   ·rw[C4 (by omega)];exact f2.2 j i1 i2
  have b1:∀(s:Int) (R:AV),Ao true 2 [I s,R] 0=some (.agg [I s,R]):=λ_ _=>rfl
  simp[e2,hp2,DL];rcases hk with hk | hk | hk | hk
  ·simp[hk,hq2,b1,hp2,DL]
   obtain⟨R,s1,p1⟩:=U9 x.h hxl o.pos hb hbl;refine A4 p1 ?_;obtain⟨t1,t2,t3,t4⟩:=put (cS (DE (x.nd.size,x.nd.l) o.pos o.b)) R (SV.oneA s1);simp[t1];exact fin _ R _ s1 (by unfold Of;rw[if_pos hk]) t2 t3 _ t4
  ·simp[hk,hq2,b1,hp2,DL]
   obtain⟨R,s1,p1⟩:=JR (size0:=x.nd.size) x.h hxl o.size;refine A4 p1 ?_;obtain⟨t1,t2,t3,t4⟩:=put (cS (Cl (x.nd.size,x.nd.l) o.size)) R (SV.oneA s1);simp[t1];exact fin _ R _ s1 (by unfold Of;rw[if_neg (by omega),if_pos hk]) t2 t3 _ t4
  ·simp[hk,hq2,b1,hp2,DL]
   obtain⟨R,s1,p1⟩:=Qm (size:=x.nd.size) x.h hxl o.pos o.size o.keep;refine A4 p1 ?_;obtain⟨t1,t2,t3,t4⟩:=put (cS (Gt (x.nd.size,x.nd.l) o.pos o.size o.keep)) R (SV.oneA s1);simp[t1];exact fin _ R _ s1 (by unfold Of;rw[if_neg (by omega),if_neg (by omega),if_pos hk]) t2 t3 _ t4
  ·simp[hk,hq2,b1,hp2,DL]
   obtain⟨R,s1,p1⟩:=U7 (size:=x.nd.size) x.h hxl o.pos o.size;refine A4 p1 ?_;obtain⟨t1,t2,t3,t4⟩:=put (cS (Ih (x.nd.size,x.nd.l) o.pos o.size)) R (SV.oneA s1);simp[t1];exact fin _ R _ s1 (by unfold Of;rw[if_neg (by omega),if_neg (by omega),if_neg (by omega),if_pos hk]) t2 t3 _ t4
 ·simp[q1]
  refine⟨rfl,a,b,dv,?_,h1,f1⟩;unfold Qd;rw[Ym (λhh=>q1 (Nj.1 hh))])
theorem jU {H:AH}{v:AV}{cs:List AV}{n:Nat}(h:Aa H 2 v=some (cs,n))(hn:n≤1000000000):
  ∃r H',(AP r=true∧Aa H' 2 r=some (cs,n)∧Grew H H'∧(∀i∈AU r,H.length≤i)∧Cm r n)∧BCall prog 96 [v] H r H':=FQ (by
 unfold DJ;rcases LC h with⟨rfl,rfl,rfl⟩ | hb
 ·have e:V5 .eql On Ad Ad=some (B true):=rfl
  simp only[e,yV,Al];exact⟨rfl,h,Grew.refl H,by simp[AU],by simp[Cm]⟩
 ·simp only[hb,yV,Ag]
  have e:Cr H 2 0 (Be [(.lit (.string ⟨#[]⟩)),(I 0)] 0) []=some (.sl H.length 0 0 2 (.ex 0),H++[some (.cells [])]):=rfl;simp only[e,Az];have g:=Grew.app H [some (.cells [])];have h0:Aa (H++[some (.cells [])]) 2 (.sl H.length 0 0 2 (.ex 0))=some ([],0):=by simp[Aa]
  obtain⟨r,H2,a1,a2,a3,a4,a5,a6⟩:=CC (sz:=2) (bytes:=24) (H:=H++[some (.cells [])]) (v:=.sl H.length 0 0 2 (.ex 0)) (cs:=[]) (n:=0) h0 rfl (AI (g.slice h)) (by omega);have a7:=NC h0 rfl (AI (g.slice h)) (by simp[Cm]) a1;simp only[a1,Az];refine⟨a2,by simpa using a3,⟨by simp at a4;omega,λi hi=>?_⟩,λi hi=>?_,by simpa using a7⟩
  ·rw[a5 i (by simp;omega) (by simp[AU];omega)]
   exact g.2 i hi
  ·rcases a6 i hi with h | h
   ·simp[AU]at h;omega
   ·simp at h;omega)
theorem jS {H:AH}{v:AV}{cs:List AV}{n:Nat}(h:Aa H 3 v=some (cs,n))(hn:n≤1000000000):
  ∃r H',(AP r=true∧Aa H' 3 r=some (cs,n)∧Grew H H'∧(∀i∈AU r,H.length≤i)∧Cm r n)∧BCall prog 97 [v] H r H':=FS (by
 unfold DK;rcases LC h with⟨rfl,rfl,rfl⟩ | hb
 ·have e:V5 .eql On Ad Ad=some (B true):=rfl
  simp only[e,yV,Al];exact⟨rfl,h,Grew.refl H,by simp[AU],by simp[Cm]⟩
 ·simp only[hb,yV,Ag]
  have e:Cr H 3 0 (Be [(I 0),(I 0),Ad] 0) []=some (.sl H.length 0 0 3 (.ex 0),H++[some (.cells [])]):=rfl;simp only[e,Az];have g:=Grew.app H [some (.cells [])];have h0:Aa (H++[some (.cells [])]) 3 (.sl H.length 0 0 3 (.ex 0))=some ([],0):=by simp[Aa]
  obtain⟨r,H2,a1,a2,a3,a4,a5,a6⟩:=CC (sz:=3) (bytes:=40) (H:=H++[some (.cells [])]) (v:=.sl H.length 0 0 3 (.ex 0)) (cs:=[]) (n:=0) h0 rfl (AI (g.slice h)) (by omega);have a7:=NC h0 rfl (AI (g.slice h)) (by simp[Cm]) a1;simp only[a1,Az];refine⟨a2,by simpa using a3,⟨by simp at a4;omega,λi hi=>?_⟩,λi hi=>?_,by simpa using a7⟩
  ·rw[a5 i (by simp;omega) (by simp[AU];omega)]
   exact g.2 i hi
  ·rcases a6 i hi with h | h
   ·simp[AU]at h;omega
   ·simp at h;omega)
structure OwI (L:Nat)(ns:List Nm)(dv:List NdV)(a b:AV)(H:AH):Prop where
 sa:Aa H 2 a=some (ns.flatMap Cy,ns.length)
 oa:AP a=true
 ca:Cm a ns.length
 ia:∀i∈AU a,L≤i
 sb:Aa H 3 b=some (dv.flatMap BY,dv.length)
 ob:AP b=true
 cb:Cm b dv.length
 ib:∀i∈AU b,L≤i
 ab:∀i∈AU a,i∉AU b
def uT (H:AH)(ns:List Nm)(ds:List Nd)(r:AV)(H':AH):Prop:=∃a b dv,r=.agg [a,b]∧dv.map NdV.nd=ds∧Grew H H'∧OwI H.length ns dv a b H'
theorem ImH.putD {L oi k:Nat}{ns:List Nm}{dv:List NdV}{a b R:AV}{H:AH}{x:NdV}{sz:Int}{l:List Ext}(h:ImH L oi ns dv a b H)(hx:dv[k]?=some x)(hR:SV Ax 9 l R):
  ∃o off cells H',Bj 3 b (I k)=some (.ptr o off)∧H[o]?=some (some (.cells cells))∧Ao true 2 cells (off+1)=some (.agg [I x.nd.size,x.R])∧AT 2 H (.ptr o (off+1)) (.agg [I sz,R])=some H'∧ImH L oi ns (dv.set k ⟨⟨x.nd.ino,sz,l⟩,R,hR⟩) a b H'∧FrL L oi H H':=by
 obtain⟨o,off,cells,u1,u2,u3,u4,u5,u6⟩:=Vg D3 (by omega) h.sb h.ob hx;have oL:=h.ib o u2;have hoo:o≠oi:=λe=>h.noB (e▸u2)
 have hle:=h.len;have o2:=SV.oneA hR;have hol:=(BD.1 u3).1
 have rd1:Ao true 2 cells (off+1)=some (.agg [I x.nd.size,x.R]):=by
  have e51:=u5 1 (by omega);have e52:=u5 2 (by omega);have l2:off+1+2≤cells.length:=by omega
  have:(cells.drop (off+1)).take 2=[I x.nd.size,x.R]:=by
   rw[Ag7 (by omega),Ag7 (by omega)];rw[DR (by omega)]at e51 e52;simp[BY]at e51 e52;simp[e51,e52]
  simp[Ao,l2,this]
 refine⟨o,off,cells,H.set o (some (.cells (AR cells (off+1) [I sz,R]))),u1,u3,rd1,?_,⟨?_,h.lo,by simp;omega,?_,h.oa,h.ca,h.ia,?_,h.ob,by simpa using h.cb,h.ib,h.ab⟩,⟨by simp,λj h1 h2=>C4 (by omega)⟩⟩
 ·rw[AC (n:=2) (xs:=[I sz,R]) (by simp[o2]) u3 rfl (by omega)]
 ·rw[C4 (by omega)];exact h.obj
 ·exact Ae h.sa λi hi=>C4 (fun (e:o=i)=>h.ab i hi (e▸u2))
 ·have:=u6 ⟨⟨x.nd.ino,sz,l⟩,R,hR⟩ 1 [I sz,R] rfl (by simp)
  simpa using this
theorem iI {H:AH}{ns:List Nm}{dv:List NdV}{a b:AV}(sa:SV Cy 2 ns a)(sb:SV BY 3 dv b)(hn:ns.length≤100000)(hm:dv.length≤100000)(hl:∀d∈dv,d.nd.l.length≤1000000):
  ∃r H',uT H ns (dv.map NdV.nd) r H'∧BCall prog 43 [.agg [a,b]] H r H':=VL (by
 unfold UO;have oa:=SV.oneA sa;have ob:=SV.oneA sb
 obtain⟨H3,e3,c0,c1,g3,l3⟩:∃H3,AD (H++[some (.cells [a,b])]) (.agg [Ad,Ad])=some (.ptr (H.length+1) 0,H3)∧H3[H.length]?=some (some (.cells [a,b]))∧H3[H.length+1]?=some (some (.cells [Ad,Ad]))∧Grew H H3∧H3.length=H.length+2:=by
  refine⟨H++[some (.cells [a,b]),some (.cells [Ad,Ad])],by simp,by simp,by rw[Ac4 (by omega)];simp,Grew.app _ _,by simp⟩
 simp[oa,ob,e3,c0];obtain⟨ra,H7,⟨p1,p2,p3,p4,p5⟩,p6⟩:=jU (sa.2 H3) (by omega);refine bC_of p6 ?_;have c7:=p3.cells c0;simp[c7];obtain⟨rb,H11,⟨q1,q2,q3,q4,q5⟩,q6⟩:=jS (sb.2 H7) (by omega);refine bC_of q6 ?_;have c8:=q3.cells c7;have ra1:=AM p1;have rb1:=AM q1;have l7:=p3.1;have l11:=q3.1
 have i0:ImH (H.length+2) H.length ns dv ra rb (H11.set H.length (some (.cells [ra,rb]))):=by
  refine⟨by rw[JW (by omega)],⟨λq=>by have:=p4 _ q;omega,λq=>by have:=q4 _ q;omega⟩,by rw[Ae1];omega,?_,p1,p5,λi hi=>by have:=p4 i hi;omega,?_,q1,q5,λi hi=>by have:=q4 i hi;omega,λi hi hh=>?_⟩
  ·exact Ae (q3.slice p2) λi hi=>C4 (by have:=p4 i hi;omega)
  ·exact Ae q2 λi hi=>C4 (by have:=q4 i hi;omega)
  ·have:=q4 i hh;have:=A3 p2 i hi;omega
 have e13:AT 2 H11 (.ptr H.length 0) (.agg [ra,rb])=some (H11.set H.length (some (.cells [ra,rb]))):=by
  rw[AC (n:=2) (off:=0) (xs:=[ra,rb]) (by simp[ra1,rb1]) c8 rfl (by simp)];rfl
 have g13:Grew H (H11.set H.length (some (.cells [ra,rb]))):=⟨by simp;omega,λi hi=>by rw[C4 (by omega),(g3.trans (p3.trans q3)).2 i hi]⟩
 have c13:(H11.set H.length (some (.cells [ra,rb])))[H.length+1]?=some (some (.cells [Ad,Ad])):=by
  rw[C4 (by omega)];exact q3.cells (p3.cells c1)
 generalize H11.set H.length (some (.cells [ra,rb]))=H13 at i0 e13 g13 c13;have d0:=i0.obj;simp[AS ra1,AS rb1,e13];have ln:=By i0.sb;simp[d0,ln];refine Py (λn x1 x2 x13 x14 H'=>∃(k:Nat) (ew:List NdV),k+n=dv.length∧x1=.ptr H.length 0∧x2=.ptr (H.length+1) 0∧x13=I dv.length∧x14=I k∧ew.map NdV.nd=dv.map NdV.nd∧ImH (H.length+2) H.length ns ew ra rb H'∧Grew H H'∧H'[H.length+1]?=some (some (.cells [Ad,Ad]))) ?_ dv.length ⟨0,dv,by omega,rfl,rfl,rfl,rfl,rfl,i0,g13,c13⟩;rintro n x1 x2 x13 x14 H' R hR ⟨k,ew,hk,rfl,rfl,rfl,rfl,hew,hi,hg,hc⟩;unfold Ma;have el:ew.length=dv.length:=by have:=congrArg List.length hew;simpa using this
 have e0:=hi.obj;rcases Ac5 k dv.length with h | h
 ·have hx:=DR (l:=ew) (i:=k) (by omega)
  generalize ew[k]=x at hx
  have hxl:x.nd.l.length≤1000000:=by
   have h1:x.nd∈ew.map NdV.nd:=Af7 (Ac3 hx);rw[hew]at h1;obtain⟨d,hd,e⟩:=Ae6.1 h1;rw[← e];exact hl d hd
  obtain⟨R2,s2,p2⟩:=Y1 (size:=x.nd.size) x.h (by omega);obtain⟨o,off,cells,H2,w1,w2,w3,w4,w5,w6⟩:=hi.putD (sz:=x.nd.size) hx s2;simp[h,e0,w1,w2,w3];refine bP_of p2 ?_;simp[w4,Aw (a:=k) (b:=1) (by omega) (by omega)];refine hR (n - 1) _ _ _ _ _ (by omega) ⟨k+1,_,by omega,rfl,rfl,rfl,by simp,?_,w5,⟨by have:=hg.1;have:=w6.1;omega,λi hi2=>by rw[w6.2 i (by omega) (by omega),hg.2 i hi2]⟩,by rw[w6.2 _ (by omega) (by omega)];exact hc⟩;rw[← hew,Al9];refine Ae5 λj=>?_
  rw[Ag6]
  split
  ·rename_i hj
   subst hj;rw[Ae7,hx]
   simp;omega
  ·rfl
 ·have b0:Ao true 2 [ra,rb] 0=some (.agg [ra,rb]):=rfl
  have hcl:=(BD.1 hc).1
  have e5:AT 2 H' (.ptr (H.length+1) 0) (.agg [ra,rb])=some (H'.set (H.length+1) (some (.cells [ra,rb]))):=by
   rw[AC (n:=2) (off:=0) (xs:=[ra,rb]) (by simp[ra1,rb1]) hc rfl (by simp)];rfl
  simp[show ¬k<dv.length by omega,e0,b0,e5,hcl];refine⟨ra,rb,ew,rfl,hew,⟨by simpa using hg.1,λi hi2=>by rw[C4 (by omega),hg.2 i hi2]⟩,⟨?_,hi.oa,hi.ca,λi q=>by have:=hi.ia i q;omega,?_,hi.ob,hi.cb,λi q=>by have:=hi.ib i q;omega,hi.ab⟩⟩
  ·exact Ae hi.sa λi q=>C4 (by have:=hi.ia i q;omega)
  ·exact Ae hi.sb λi q=>C4 (by have:=hi.ib i q;omega))
def fC (ns:List Nm)(ds:List Nd)(o:OpM):Prop:=¬AO Nm.name ns o.name∧¬AO Nd.ino ds o.ino∧G5 o.name∧1≤o.ino∧o.ino≤4611686018427387904∧ns.length<16
instance (ns:List Nm) (ds:List Nd) (o:OpM):Decidable (fC ns ds o):=by unfold fC;infer_instance
def Vm (ns:List Nm)(ds:List Nd)(s:List UInt8):List Nd:=if AO Nm.name ns s then CY Cc Nd.ino ds (Fh ns s)else ds
def B8 (ns:List Nm)(ds:List Nd)(o:OpM):List Nm×List Nd:=
 if Km ns ds then
  if o.kind=1 then(if fC ns ds o then(Jr Bg Nm.name ns ⟨o.name,o.ino⟩,Jr Cc Nd.ino ds ⟨o.ino,0,[]⟩)else(ns,ds))
  else if o.kind=2∨o.kind=3∨o.kind=4∨o.kind=5 then(ns,Qd ds o)
  else if o.kind=6 then(if Tf ns o.name o.to then(Jr Bg Nm.name (Fi (CY Bg Nm.name ns o.name) o.to) ⟨o.to,Fh ns o.name⟩,Vm (CY Bg Nm.name ns o.name) ds o.to)else(ns,ds))
  else if o.kind=7 then(Fi ns o.name,Vm ns ds o.name)
  else(ns,ds)
 else(ns,ds)
abbrev Ao7:=@List.map_drop
theorem kR {dv:List NdV}{i:Int}:(Jr Cc NdV.ino dv (Ko i)).map NdV.nd=Jr Cc Nd.ino (dv.map NdV.nd) ⟨i,0,[]⟩:=by
 unfold Jr;rw[Vi,Ag8,Aj7,An5,Ao7];rfl
theorem kC {dv:List NdV}{k:Int}:(CY Cc NdV.ino dv k).map NdV.nd=CY Cc Nd.ino (dv.map NdV.nd) k:=by
 unfold CY;rw[Vi,Ag8,An5,Ao7]
theorem W9 {ns:List Nm}{dv:List NdV}{s:List UInt8}:(Te ns dv s).map NdV.nd=Vm ns (dv.map NdV.nd) s:=by
 unfold Te Vm
 split
 ·exact kC
 ·rfl
theorem Wl {ns:List Nm}{dv:List NdV}{o:OpM}:fC ns (dv.map NdV.nd) o↔OE ns dv o:=by
 unfold fC OE;rw[Nj]
def xU (p:List Nm×List Nd)(r:AV)(X:AH):Prop:=∃R,FZ X r R∧ImV p.1 p.2 R
theorem IJ {ns:List Nm}{dv:List NdV}{a b:AV}{H:AH}{p:List Nm×List Nd}(h:ImH 3 0 ns dv a b H)(h2:H[2]?=some (some (.cells [Ad,Ad])))(hp:p=(ns,dv.map NdV.nd)):Dk (.ptr 0 0) (.ptr 2 0) H (xU p):=by
 rw[JZ];unfold He;have c0:=h.obj;have b0:Ao true 2 [a,b] 0=some (.agg [a,b]):=rfl;have ra1:=AM h.oa;have rb1:=AM h.ob;have hcl:=(BD.1 h2).1
 have e5:AT 2 H (.ptr 2 0) (.agg [a,b])=some (H.set 2 (some (.cells [a,b]))):=by
  rw[AC (n:=2) (off:=0) (xs:=[a,b]) (by simp[ra1,rb1]) h2 rfl (by simp)];rfl
 simp[c0,b0,e5,hcl];have h3:ImH 3 0 ns dv a b (H.set 2 (some (.cells [a,b]))):=⟨by rw[C4 (by omega)];exact c0,h.lo,by simpa using h.len,Ae h.sa λi q=>C4 (by have:=h.ia i q;omega),h.oa,h.ca,h.ia,Ae h.sb λi q=>C4 (by have:=h.ib i q;omega),h.ob,h.cb,h.ib,h.ab⟩;obtain⟨Ra,Rb,sa,sb,fz⟩:=h3.lend;subst hp;exact⟨_,fz,Ra,Rb,dv,rfl,sa,sb,rfl⟩
theorem bD {ns:List Nm}{ds:List Nd}{v bv:AV}{o:OpM}(hv:ImV ns ds v)(hb:Sm ns ds)(hbv:SV Je 1 o.b bv)(hbl:o.b.length≤281474976710656)(hn:o.name.length≤1000000000)(ht:o.to.length≤1000000000):
  ∃R,ImV (B8 ns ds o).1 (B8 ns ds o).2 R∧BPure prog 82 [v,.agg (DL o bv)] R:=by
 have hids:=hv.noIds;refine BPure.FZ (by simp[A6]at hids⊢;exact⟨hids,by simp[DL,noIds,A6,hbv.1]⟩) (UN (K:=xU (B8 ns ds o)) ?_);obtain⟨a,b,dv,rfl,sa,sb,rfl⟩:=hv;have b1:=hb.1;have b2:=hb.2.1;rw[Ae9]at b2;have oa:=SV.oneA sa;have ob:=SV.oneA sb;have o3:=SV.oneA hbv;unfold SP;obtain⟨H5,e5,c0,c1,c2,l5⟩:∃H5,AD [some (.cells [a,b]),some (.cells (DL o bv))] (.agg [Ad,Ad])=some (.ptr 2 0,H5)∧H5[0]?=some (some (.cells [a,b]))∧H5[1]?=some (some (.cells (DL o bv)))∧H5[2]?=some (some (.cells [Ad,Ad]))∧H5.length=3:=
  ⟨[some (.cells [a,b]),some (.cells (DL o bv)),some (.cells [Ad,Ad])],by simp,rfl,rfl,rfl,rfl⟩
 have e4:AD [some (.cells [a,b])] (.agg (DL o bv))=some (.ptr 1 0,[some (.cells [a,b]),some (.cells (DL o bv))]):=by simp[DL,o3]
 have b0:∀x y:AV,Ao true 2 [x,y] 0=some (.agg [x,y]):=λ_ _=>rfl
 simp[oa,ob,e4,e5,c0,b0];obtain⟨r,H8,⟨a',b',ew,rfl,hew,hg,ow⟩,hc⟩:=iI (H:=H5) sa sb (by omega) b2 (λd hd=>hb.2.2.2 d.nd (Af7 hd));refine bC_of hc ?_;have a1:=AM ow.oa;have a2:=AM ow.ob;have l8:=hg.1;rw[l5]at ow
 have e9:AT 2 H8 (.ptr 0 0) (.agg [a',b'])=some (H8.set 0 (some (.cells [a',b']))):=by
  rw[AC (n:=2) (off:=0) (xs:=[a',b']) (by simp[a1,a2]) (hg.cells c0) rfl (by simp)];rfl
 have i9:ImH 3 0 ns ew a' b' (H8.set 0 (some (.cells [a',b']))):=⟨by rw[JW (by omega)],⟨λq=>by have:=ow.ia _ q;omega,λq=>by have:=ow.ib _ q;omega⟩,by rw[Ae1];omega,Ae ow.sa λi q=>C4 (by have:=ow.ia i q;omega),ow.oa,ow.ca,ow.ia,Ae ow.sb λi q=>C4 (by have:=ow.ib i q;omega),ow.ob,ow.cb,ow.ib,ow.ab⟩;have k1:(H8.set 0 (some (.cells [a',b'])))[1]?=some (some (.cells (DL o bv))):=by rw[C4 (by omega)];exact hg.cells c1
 have k2:(H8.set 0 (some (.cells [a',b'])))[2]?=some (some (.cells [Ad,Ad])):=by rw[C4 (by omega)];exact hg.cells c2
 simp only[e9,AE];generalize H8.set 0 (some (.cells [a',b']))=H9 at i9 k1 k2;have d0:=i9.obj;obtain⟨Ra,Rb,ta,tb,fz⟩:=i9.lend;have hsm:Sm ns (ew.map NdV.nd):=by rw[hew];exact hb
 have keep:∀{H':AH},FrL 3 0 H9 H'→H'[2]?=some (some (.cells [Ad,Ad])):=λf=>by rw[f.2 2 (by omega) (by omega)];exact k2
 rw[← hew];have b8:Ao true 8 (DL o bv) 0=some (.agg (DL o bv)):=rfl;have el:ew.length=dv.length:=by have:=congrArg List.length hew;simpa using this
 have hlw:∀d∈ew,d.nd.l.length≤1000000:=λd hd=>hsm.2.2.2 d.nd (Af7 hd)
 simp[d0,b0];refine bP_of (PCall.lend (FZs.cons fz FZs.nil) rfl (XS ⟨Ra,Rb,ew,rfl,ta,tb,rfl⟩ hsm)) ?_
 by_cases hm:Km ns (ew.map NdV.nd)
 ·have hs:=hm.1.2.2.1
  have hd:=Vt.1 hm.2.2.1;have hx:∀x∈ns,AO NdV.ino ew x.ino:=λx hx=>Nj.1 ((YU.1 hm).2.2.2.2.1 x hx)
  simp[hm,k1,DL]
  by_cases q1:o.kind=1
  ·have e:B8 ns (ew.map NdV.nd) o=(YA ns ew o,(Y9 ns ew o).map NdV.nd):=by
    unfold B8 YA Y9;rw[if_pos hm,if_pos q1]
    by_cases hc:OE ns ew o
    ·rw[if_pos hc,if_pos hc,if_pos (Wl.2 hc),kR]
    ·rw[if_neg hc,if_neg hc,if_neg (λh=>hc (Wl.1 h))]
   rw[decide_eq_true q1];simp only[Al];obtain⟨r2,H2,⟨rfl,a3,b3,i3,f3⟩,w3⟩:=kA i9 hs hd o3 b1 (by omega) hn;refine bC_of w3 ?_;exact IJ i3 (keep f3) e
  ·have hJ8:∀t:Bool,(t=true↔(o.kind=2∨o.kind=3∨o.kind=4∨o.kind=5))→DS (.ptr 0 0) (.ptr 1 0) (.ptr 2 0) (I o.kind) (B t) H9 (xU (B8 ns (ew.map NdV.nd) o)):=by
    intro t htt;rw[Qx];unfold KP
    by_cases q2:o.kind=2∨o.kind=3∨o.kind=4∨o.kind=5
    ·rw[htt.2 q2]
     have e:B8 ns (ew.map NdV.nd) o=(ns,Qd (ew.map NdV.nd) o):=by
      unfold B8;rw[if_pos hm,if_neg q1,if_pos q2]
     simp[k1,b8];obtain⟨r2,H2,⟨rfl,a3,b3,dw,hdw,i3,f3⟩,w3⟩:=jO i9 hs hd hbv (by omega) hbl hlw q2;refine bC_of w3 ?_;exact IJ i3 (keep f3) (by rw[hdw];exact e)
    ·have:t=false:=by cases t with
      | true=>exact absurd (htt.1 rfl) q2
      | false=>rfl
     subst this;simp;rw[Pw];unfold JX
     by_cases q6:o.kind=6
     ·have e:B8 ns (ew.map NdV.nd) o=(WB ns o.name o.to,(WA ns ew o.name o.to).map NdV.nd):=by
       unfold B8 WB WA;rw[if_pos hm,if_neg q1,if_neg q2,if_pos q6]
       by_cases hc:Tf ns o.name o.to
       ·rw[if_pos hc,if_pos hc,if_pos hc,W9]
       ·rw[if_neg hc,if_neg hc,if_neg hc]
      simp[q6,k1,DL];obtain⟨r2,H2,⟨rfl,a3,b3,i3,f3⟩,w3⟩:=mD (s:=o.name) (t:=o.to) i9 hs hd hx b1 (by omega) ht;refine bC_of w3 ?_;exact IJ i3 (keep f3) e
     ·simp[q6]
      rw[Px];unfold JY
      by_cases q7:o.kind=7
      ·have e:B8 ns (ew.map NdV.nd) o=(Fi ns o.name,(Te ns ew o.name).map NdV.nd):=by
        unfold B8;rw[if_pos hm,if_neg q1,if_neg q2,if_neg q6,if_pos q7,W9]
       simp[q7,k1,DL];obtain⟨r2,H2,⟨rfl,a3,b3,i3,f3⟩,w3⟩:=Zo (s:=o.name) i9 hs hd hx b1 (by omega);refine bC_of w3 ?_;exact IJ i3 (keep f3) e
      ·have e:B8 ns (ew.map NdV.nd) o=(ns,ew.map NdV.nd):=by
        unfold B8;rw[if_pos hm,if_neg q1,if_neg q2,if_neg q6,if_neg q7]
       simp[q7];exact IJ i9 k2 e
   simp[q1]
   by_cases w2:o.kind=2
   ·simp[w2]
    have:=hJ8 true (by simp[w2]);rwa[w2]at this
   ·by_cases w3:o.kind=3
    ·simp[w3]
     have:=hJ8 true (by simp[w3]);rwa[w3]at this
    ·by_cases w4:o.kind=4
     ·simp[w4]
      have:=hJ8 true (by simp[w4]);rwa[w4]at this
     ·simp[w2,w3,w4]
      exact hJ8 (decide (o.kind=5)) (by simp[w2,w3,w4])
 ·have e:B8 ns (ew.map NdV.nd) o=(ns,ew.map NdV.nd):=by unfold B8;rw[if_neg hm]
  have:=IJ i9 k2 e
  rw[JZ]at this;unfold He at this;simp[d0,b0]at this;simp[hm];exact this
end
end Go.Proofs.YtbppnhenlboefaaGreat.Av
