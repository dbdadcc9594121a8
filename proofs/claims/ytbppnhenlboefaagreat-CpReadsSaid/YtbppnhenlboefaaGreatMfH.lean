/- Texts of this proof, one behind the other, packed into one file by a program of this session. No condition. -/
import Derived.Test.YtbppnhenlboefaaGreatMfG
set_option linter.unusedVariables false
set_option linter.unusedSimpArgs false
set_option maxRecDepth 100000
namespace Go.Proofs.YtbppnhenlboefaaGreat.Av
open Go Go.RowKit Go.Proofs.Tryz
section
section
variable {κ α : Type} [DecidableEq κ] {c : κ→κ→Int} {key : α→κ}
end
theorem aX:∀{A B:List Int},A.Nodup→(∀a∈A,a∈B)→B.length≤A.length→∀b∈B,b∈A
 | [],B,_,_,hl,b,hb=>by
  have:B=[]:=List.length_eq_zero_iff.1 (by simpa using hl);rw[this]at hb;exact hb
 | a::A,B,hn,hs,hl,b,hb=>by
  rw[Ak4]at hn
  by_cases e:b=a
  ·simp[e]
  ·have haB:=hs a (by simp)
   have hl2:(B.erase a).length≤A.length:=by
    rw[List.length_erase_of_mem haB];simp at hl;omega
   have:=aX (A:=A) (B:=B.erase a) hn.2 (λx hx=>(List.mem_erase_of_ne (fun (e2:x=a)=>hn.1 (e2▸hx))).2 (hs x (by simp[hx]))) hl2 b ((List.mem_erase_of_ne e).2 hb)
   simp[this]
def okP (N:List Nd)(ns:List Nm)(ds:List Nd):Prop:=iN ns∧BW BX Nd.ino ds∧(∀x∈ns,AM Nd.ino N x.ino)∧∀d∈ds,Ck d.size d.l
theorem Zd {ns:List Nm}{ds:List Nd}:Ko ns ds↔ns.length≤16∧ds.length=ns.length∧okP ds ns ds:=by
 unfold Ko QW lW okP
 constructor
 ·rintro⟨⟨h1,h2⟩,h3,h4,h5⟩
  refine⟨h1,h3,h2,h4,?_,λd hd=>(h5 d hd).2⟩
  have hn:(ds.map Nd.ino).Nodup:=by
   rw[List.Nodup,Ak9];exact h4.imp λh=>by rw[Xx]at h;omega
  have:=aX (A:=ds.map Nd.ino) (B:=ns.map Nm.ino) hn (λa ha=>by
   obtain⟨d,hd,rfl⟩:=Af4.1 ha;obtain⟨x,hx,e⟩:=(h5 d hd).1;rw[← e];exact Ag1 hx) (by simp[h3])
  intro x hx;obtain⟨d,hd,e⟩:=Af4.1 (this x.ino (Ag1 hx));exact⟨d,hd,e⟩
 ·rintro⟨h1,h3,h2,h4,h5,h6⟩
  refine⟨⟨h1,h2⟩,h3,h4,λd hd=>⟨?_,h6 d hd⟩⟩
  have:=aX (A:=ns.map Nm.ino) (B:=ds.map Nd.ino) h2.2.2 (λa ha=>by
   obtain⟨x,hx,rfl⟩:=Af4.1 ha;obtain⟨d,hd,e⟩:=h5 x hx;rw[← e];exact Ag1 hd) (by simp[h3])
  obtain⟨x,hx,e⟩:=Af4.1 (this d.ino (Ag1 hd));exact⟨x,hx,e⟩
end
section
def cS (o:Option Gn):Int:=(o.getD (0,[])).1
def cL (o:Option Gn):List Ext:=(o.getD (0,[])).2
theorem Tn (l:List Ext):A3 (l.flatMap As)=true:=Db λx _=>EP x
def ContK (res:Option Gn)(r:AV)(X:AH):Prop:=∃w,r=.tup [.agg [I (cS res),w],B res.isSome]∧Aa X 9 w=some ((cL res).flatMap As,(cL res).length)
theorem ContK.none {res:Option Gn}(h:res=none){X:AH}:ContK res (.tup [.agg [I 0,Ad],B false]) X:=by
 subst h;exact⟨_,rfl,rfl⟩
theorem ContK.some {res:Option Gn}{s:Int}{l:List Ext}(h:res=some (s,l)){X:AH}{w:AV}(hw:Aa X 9 w=some (l.flatMap As,l.length)):ContK res (.tup [.agg [I s,w],B true]) X:=by
 subst h;exact⟨_,rfl,hw⟩
theorem BPure.cont {P:Program}{f:FuncId}{args:List AV}{res:Option Gn}(hb:A3 args=true)(h:∃r X,ContK res r X∧BCall P f args [] r X):
  ∃R,SV As 9 (cL res) R∧BPure P f args (.tup [.agg [I (cS res),R],B res.isSome]):=by
 obtain⟨r,X,⟨w,rfl,hw⟩,h⟩:=h;obtain⟨R,hR,fR⟩:=FZ.sv hw (Tn _);obtain⟨R',⟨rfl,_⟩,h2⟩:=BPure.FZ (Q:=λR'=>R'=.tup [.agg [I (cS res),R],B res.isSome]∧True) hb ⟨_,X,⟨_,FZ.tup (FZs.cons (FZ.agg (FZs.cons (FZ.lit _) (FZs.cons fR FZs.nil))) (FZs.cons (FZ.lit _) FZs.nil)),rfl,trivial⟩,h⟩;exact⟨R,hR,h2⟩
theorem kO {x:Ext}{k:Nat}{bs:List UInt8}(h:k+bs.length≤8):As (Vx x k bs)=Bz (As x) (1+k) (AF bs):=by
 have e:Bz (As x) (1+k) (AF bs)=I x.no::Bz (AF x.b) k (AF bs):=by
  unfold Bz As;rw[Al1 1 k,Ao2,show k+1+(AF bs).length=(k+(AF bs).length)+1 by omega,Am4];rfl
 rw[e,WN];unfold As;rw[dO,mF h]
theorem qA {H:AH}{w s:AV}{l:List Ext}{bs:List UInt8}{x:Ext}{i k m:Nat}{a b:Int}(hw:Aa H 9 w=some (l.flatMap As,l.length))(ho:AP w=true)(hx:l[i]?=some x)(hs:Aa H 1 s=some (AF bs,m))(hk:k+bs.length≤8)(ha:a=i)(hb:b=k):
  ∃p q d H',Bh 9 w (I a)=some p∧Ac 1 p=some q∧LO 8 1 H q (some (I b)) none=some d∧Oz 1 H d s=some (I bs.length,H')∧H'.length=H.length∧(∀j,j∉AT w→H'[j]?=H[j]?)∧Aa H' 9 w=some ((l.set i (Vx x k bs)).flatMap As,l.length):=by
 subst ha;subst hb;have hi:=(B8.1 hx).1;obtain⟨o,off,cap,cells,rfl,h1,h2,h3⟩:=HU hw ho (by omega);have hol:=(B8.1 h1).1;have hm:m=bs.length:=by have:=Ca hs;rw[B9]at this;omega
 subst hm;have hmul:i*9+9≤l.length*9:=by rw[← Af9];exact Ad3 _ hi
 have e1:min bs.length (8 - k)=bs.length:=by omega
 refine⟨.ptr o (off+i*9),.ptr o (off+i*9+1),.sl o (off+i*9+1+k) (8 - k) 1 (.ex (8 - k)),H.set o (some (.cells (Bz cells (off+(i*9+(1+k))) (AF bs)))),?_,rfl,?_,?_,by simp,λj hj=>C2 (by simp[AT]at hj;omega),?_⟩
 ·simp only[Bh,J8]
  rw[if_pos ⟨by omega,by omega⟩];simp
 ·simp[LO,Bu,h1];omega
 ·unfold Oz eP
  rw[AI hs];simp only[h1];rw[if_pos ⟨trivial,by omega⟩,e1,Ai8,Ac5 (by rw[B9];omega)];simp only[show off+i*9+1+k=off+(i*9+(1+k)) by omega]
 ·rw[AA (c:=Bz cells (off+(i*9+(1+k))) (AF bs)) (by simp[hol]) (by rw[G6 (by rw[B9];omega)];exact h2)]
  rw[Oo h2 (by rw[B9];omega),← h3,On Az hx (kO hk) (by rw[B9];omega)]
theorem OZ (pos:Int)(n:Nat)(hn:n≤281474976710656):BPure prog 98 [I pos,I n] (B (decide (0≤pos∧n≤4096∧pos≤1099511627776 - n))):=BPure.flat λH=>UK (by
 unfold Ta
 by_cases h1:0≤pos
 ·by_cases h2:n≤4096
  ·have:(n:Int)≤4096:=by omega
   simp[h1,h2,this,BP (a:=1099511627776) (b:=n) (by omega) (by omega)]
  ·have:¬(n:Int)≤4096:=by omega
   simp[h1,h2,this]
 ·simp[h1])
theorem UP {size:Int}{l:List Ext}{v bv:AV}{bs:List UInt8}(hv:SV As 9 l v)(hl:l.length≤1000000)(pos:Int)(hb:SV J9 1 bs bv)(hbl:bs.length≤281474976710656):
  ∃R,SV As 9 (cL (DA (size,l) pos bs)) R∧BPure prog 188 [.agg [I size,v],I pos,bv] (.tup [.agg [I (cS (DA (size,l) pos bs)),R],B (DA (size,l) pos bs).isSome]):=by
 refine BPure.cont (by simp[A3,noIds,hv.1,hb.1]) (TH ?_);unfold Q6;simp[DI hv,Am];refine A1 (Fb hv (by omega)) ?_
 by_cases h1:Ck size l
 ·simp[h1,hb.len]
  refine A1 (OZ pos bs.length hbl) ?_
  by_cases h2:0≤pos∧bs.length≤4096∧pos≤1099511627776 - bs.length
  ·have hw:DA (size,l) pos bs=some (if bs=[]then(size,l)else(max size (pos+bs.length),Bt l pos bs)):=if_pos ⟨h1,h2⟩
   obtain⟨g1,g2,g3⟩:=h2;simp[g1,g2,g3];obtain⟨r,H2,⟨w,rfl,a2,a3,a4,a5⟩,a1⟩:=Qt (size:=size) (hv.2 [some (.cells [I size,v]),some (.cells [I 0,Ad])]) (DI hv) (by omega);refine bC_of a1 ?_;have c0:=a4.cells (o:=0) (x:=some (.cells [I size,v])) rfl;have c1:=a4.cells (o:=1) (x:=some (.cells [I 0,Ad])) rfl;have hl2:=a4.1;simp only[zB]at hl2;have hwo:=AL a2;have id0:∀j,j<2→j∉AT w:=λj hj h=>by have:=a5 j h;simp at this;omega
   rw[A8 (n:=2) (off:=0) (x:=.agg [I size,w]) (xs:=[I size,w]) (by simp[hwo]) c0 rfl (by simp)];simp
   by_cases hbs:bs=[]
   ·subst hbs
    simp[show 0<H2.length by omega];rw[A8 (n:=2) (off:=0) (x:=.agg [I size,w]) (xs:=[I size,w]) (cs:=[I 0,Ad]) (by simp[hwo]) (by rw[C2 (by omega)];exact c1) rfl (by simp)];simp[show 1<H2.length by omega]
    exact ContK.some hw (Ae a3 λi hi=>by
     have h2:2≤i:=Ah4 λh=>id0 i h hi
     rw[C2 (by omega),C2 (by omega)])
   ·have hlen:0<bs.length:=List.length_pos_iff.2 hbs
    rw[if_neg hbs]at hw;simp[hbs];obtain⟨pv,hpv,pq⟩:=Tq ⟨pos,bs.length⟩ (unit:=8) (by omega);refine A1 pq ?_;have hP:DQ ⟨pos,bs.length⟩ 8=Co bs.length pos bs.length 8:=if_pos ⟨by simp only[MaySpan,May];omega,by simp only;omega,by omega⟩;generalize DQ ⟨pos,(bs.length:Int)⟩ 8=parts at hpv hP;simp[hpv.len];have hs0:=Ma h1.2.2;refine MB (λn x1 x2 x3 x6 x33 x34 x35 H=>∃(j d:Nat) (w:AV),j+n=parts.length∧x1=I pos∧x2=bv∧x3=.ptr 0 0∧x6=.ptr 1 0∧x33=pv∧x34=I parts.length∧x35=I j∧H[0]?=some (some (.cells [I size,w]))∧H[1]?=some (some (.cells [I 0,Ad]))∧
     Aa H 9 w=some ((Bt l pos (bs.take d)).flatMap As,(Bt l pos (bs.take d)).length)∧AP w=true∧(∀j,j<2→j∉AT w)∧d≤bs.length∧parts.drop j=Co (bs.length - d) (pos+d) (bs.length - d:Nat) 8∧j≤d) ?_ parts.length
     ⟨0,0,w,by simp,rfl,rfl,rfl,rfl,rfl,rfl,rfl,JX (by omega),(C2 (by omega)).trans c1,?_,a2,id0,by omega,by simpa using hP,by omega⟩
    ·rintro n x1 x2 x3 x6 x33 x34 x35 H R hR ⟨j,d,w,hj,rfl,rfl,rfl,rfl,rfl,rfl,rfl,k0,k1,kw,ko,kid,kd,kp,kj⟩
     unfold Ji
     by_cases hd:d<bs.length
     ·rw[U9 (by omega) (by omega) (by omega) (by omega)]at kp
      obtain⟨m,hm⟩:∃m:Nat,(m:Int)=min ((bs.length - d:Nat):Int) (8 - (pos+d) % 8):=⟨(min ((bs.length - d:Nat):Int) (8 - (pos+d) % 8)).toNat,by omega⟩;rw[← hm]at kp
      have hpj:parts[j]?=some ⟨pos+d,m⟩:=by
       have:=congrArg (λq=>q[0]?) kp
       simpa using this
      have hjl:=(B8.1 hpj).1;simp[hjl,hpv.idx W5 hpj rfl,BY,Am,AR,LI (a:=pos+d) (b:=8) (by omega) (by omega) (by omega)];have g:=Grew.app H [some (.cells [I (pos+d),I m])];have hlL:=nD (bs:=bs.take d) (l:=l) (p:=pos);have htl:(bs.take d).length=d:=by rw[Ac4];omega
      have hws:=Yd (bs:=bs.take d) hs0 pos;generalize hL:Bt l pos (bs.take d)=L at kw hlL hws;have hH0:=(B8.1 k0).1;have hH1:=(B8.1 k1).1;obtain⟨H11,⟨w',q1,q2,q3,q4,q5,q6,q7⟩,q8⟩:=Nx (no:=(pos+d)/8) (g.cells k0) (g.slice kw) ko (kid 0 (by omega)) hws (by omega);refine bC_of q8 ?_;have hid':∀i,i<H.length→i∉AT w→i∉AT w':=λi h1 h2 h3=>(q7 i h3).elim h2 (λh=>by simp at h;omega)
      have z1:H11[1]?=some (some (.cells [I 0,Ad])):=by
       rw[q6 1 (by simp;omega) (by omega) (kid 1 (by omega))];exact g.cells k1
      have z2:H11[H.length]?=some (some (.cells [I (pos+d),I m])):=by
       rw[q6 H.length (by simp) (by omega) (λh=>by have:=A2 kw _ h;omega)];simp
      obtain⟨x,hx,hxn⟩:=lQ hws ((pos+d)/8);obtain⟨r24,s1,s2,-,-,s3⟩:=EZ (H:=H11) (hb.bytes H11) (lo:=some (I d)) (hi:=none) (l:=d) (k:=bs.length) (by simp[Bu]) rfl kd (Ac6 _);obtain⟨r27,t1,t2,-,-,-⟩:=EZ (H:=H11) s2 (lo:=none) (hi:=some (I m)) (l:=0) (k:=m) rfl (by simp[Bu]) (by omega) (by omega)
      have t3:Aa H11 1 r27=some (AF ((bs.drop d).take m),m):=by
       rw[t2];simp[KM,Sg];rw[Ac5 (l:=bs.drop d) (by simp)]
      have hbl2:((bs.drop d).take m).length=m:=by rw[Ac4,Ad1];omega
      obtain⟨p,q,dd,H29,u1,u2,u3,u4,u5,u6,u7⟩:=qA (a:=posL L ((pos+d)/8)) (b:=pos+d - (pos+d)/8*8) (k:=((pos+d) % 8).toNat) q2 q3 hx t3 (by omega) rfl (by omega);rw[hbl2]at u4;simp[q1,z2,u1,u2,Ek (a:=(pos+d)/8) (b:=8) (by omega) (by omega),BP (a:=pos+d) (b:=(pos+d)/8*8) (by omega) (by omega),u3,BP (a:=pos+d) (b:=pos) (by omega) (by omega),show pos+(d:Int) - pos=d by omega,s1,t1,u4,Ax (a:=j) (b:=1) (by omega) (by omega)];rw[pP (HP hws _) hx,hxn]at u7
      have hnp:Vy (DB L ((pos+d)/8)) ((pos+d)/8) ((pos+d) % 8).toNat ((bs.drop d).take m)=Bt l pos (bs.take (d+m)):=by
       show Dn L (pos+d) _=_
       rw[nE hws (by omega) (λh=>by rw[h]at hbl2;simp at hbl2;omega),← hL,List.take_add,Yb,htl]
      rw[hnp]at u7;have hll:(DB L ((pos+d)/8)).length=(Bt l pos (bs.take (d+m))).length:=by rw[← hnp];simp[Vy]
      rw[hll]at u7;refine hR (n - 1) _ _ _ _ _ _ _ _ (by omega) ⟨j+1,d+m,w',by omega,rfl,rfl,rfl,rfl,rfl,rfl,rfl,?_,?_,u7,q3,λi hi=>hid' i (by omega) (kid i hi),by omega,?_,by omega⟩
      ·rw[u6 0 (hid' 0 (by omega) (kid 0 (by omega)))];exact q1
      ·rw[u6 1 (hid' 1 (by omega) (kid 1 (by omega)))];exact z1
      ·have:=congrArg List.tail kp
       rw[List.tail_drop]at this;rw[this,List.tail_cons,show pos+(d:Int)+m=pos+((d+m:Nat):Int) by omega,show((bs.length - d:Nat):Int) - m=((bs.length - (d+m):Nat):Int) by omega];rfl
     ·have hd':d=bs.length:=by omega
      subst hd';rw[UA (by omega)]at kp
      have hjl:¬j<parts.length:=λh=>by
       have:=congrArg List.length kp
       rw[Ad1]at this;simp at this;omega
      rw[Aj0]at kw;have hH0:=(B8.1 k0).1;have hH1:=(B8.1 k1).1;have hko:=AL ko;have hmx:max (pos+(bs.length:Int)) size=max size (pos+bs.length):=by omega
      simp[hjl,k0,hb.len,Ax (a:=pos) (b:=bs.length) (by omega) (by omega),hmx];rw[A8 (n:=1) (off:=0) (xs:=[I (max size (pos+bs.length))]) (cs:=[I size,w]) rfl k0 rfl (by simp)];simp[hH0,Am];rw[A8 (n:=2) (off:=0) (xs:=[I (max size (pos+bs.length)),w]) (cs:=[I 0,Ad]) (by simp[hko]) ((C2 (by omega)).trans k1) rfl (by simp)];simp[hH1]
      exact ContK.some hw (Ae kw λi hi=>by
       have h2:2≤i:=Ah4 λh=>kid i h hi
       rw[C2 (by omega),C2 (by omega)])
    ·simp only[Aj7,Bt]
     exact Ae a3 λi hi=>by
      have h2:2≤i:=Ah4 λh=>id0 i h hi
      rw[C2 (by omega)]
  ·have hn:DA (size,l) pos bs=none:=if_neg (λh=>h2 h.2)
   have h2':¬(0≤pos∧bs.length≤4096∧pos≤1099511627776 - bs.length):=h2;simp[h2',AR];exact ContK.none hn
 ·have hn:DA (size,l) pos bs=none:=if_neg (λh=>h1 h.1)
  simp[h1,AR];exact ContK.none hn
theorem xL {H:AH}{w:AV}{l:List Ext}{n k:Nat}{a:Int}{x:Ext}(hw:Aa H 9 w=some (l.flatMap As,n))(hx:l[k]?=some x)(ha:a=k):
  ∃p q,Bh 9 w (I a)=some p∧Ac 0 p=some q∧Ar false 1 H q=some (I x.no)∧Ar true 9 H p=some (.agg (As x)):=by
 have hk:=(B8.1 hx).1;have hn:n=l.length:=by have h1:=Ca hw;have h2:=JW Az l;omega
 obtain⟨p,c,h1,h2,h3,h4⟩:=K8 hw ha (show k<n by omega);obtain⟨q,h5,h6⟩:=eX (k:=0) h2
 have hc:c.take 9=As x:=by
  rw[h3,Da Az hx,Ad7 (by rw[Az];omega),Ac5 (by rw[Az];omega)]
 refine⟨p,q,h1,h5,?_,?_⟩
 ·rw[RL h6 (by omega) (by simp;omega),Ah]
  have:=congrArg (λl=>l[0]?) hc
  simp only[Ae3]at this⊢;rw[List.getElem?_take_of_lt (by omega)]at this;exact this
 ·rw[RL h2 (by omega) h4,FN (by omega),Ae3,hc]
section
variable {κ α : Type} [DecidableEq κ] {c : κ→κ→Int} {key : α→κ}
def ZT (key:α→κ)(l:List α)(k:κ):Option α:=l.find? (λx=>decide (key x=k))
abbrev Am7:=@List.mem_of_find?_eq_some
theorem cH {l:List α}{k:κ}(h:AM key l k):∃x,ZT key l k=some x∧x∈l∧key x=k:=by
 obtain⟨y,hy,e⟩:=h;unfold ZT;cases hf:l.find? (λx=>decide (key x=k))with
 | none=>rw[Am9]at hf;have:=hf y hy;simp[e]at this
 | some x=>exact⟨x,rfl,Am7 hf,by simpa using List.find?_some hf⟩
theorem Y2 {l:List α}{k:κ}(h:¬AM key l k):ZT key l k=none:=by
 unfold ZT;rw[Am9];intro x hx;simp only[decide_eq_true_eq];exact λe=>h ⟨x,hx,e⟩
theorem Xs (hc:KO c){l:List α}(hs:BW c key l){x:α}(hx:x∈l):ZT key l (key x)=some x:=by
 obtain⟨y,h1,h2,h3⟩:=cH (l:=l) (k:=key x) ⟨x,hx,rfl⟩;rw[h1,SF hc hs h2 hx h3]
theorem Lk (hc:KO c){l:List α}(hs:BW c key l){k:κ}(h:AM key l k):∃x,l[CW c key l k]?=some x∧ZT key l k=some x∧key x=k:=by
 obtain⟨x,h1,rfl⟩:=(Jn hc hs).1 h;exact⟨x,h1,Xs hc hs (Ac7 h1),rfl⟩
end
theorem V8 {l:List NdV}:BW BX Nd.ino (l.map NdV.nd)↔BW BX NdV.ino l:=by
 unfold BW;rw[Ak9]
theorem N4 {l:List NdV}{k:Int}:AM Nd.ino (l.map NdV.nd) k↔AM NdV.ino l k:=by
 constructor
 ·rintro⟨x,hx,e⟩
  obtain⟨y,hy,rfl⟩:=Af4.1 hx;exact⟨y,hy,e⟩
 ·rintro⟨y,hy,e⟩
  exact⟨y.nd,Ag1 hy,e⟩
theorem Vw {l:List NdV}{k:Int}:CW BX Nd.ino (l.map NdV.nd) k=CW BX NdV.ino l k:=by
 unfold CW;rw[List.takeWhile_map,Af2];rfl
theorem QY {ns:List Nm}{a b:AV}{dv:List NdV}(ha:SV Cw 2 ns a)(hb:SV BS 3 dv b)(hs:BW Ba Nm.name ns)(hl:ns.length≤281474976710656)(s:List UInt8):
  BPure prog 51 [.agg [a,b],S (Ay s)] (.tup [I (CW Ba Nm.name ns s),B (decide (AM Nm.name ns s))]):=BPure.val (by simp[A3,noIds,ha.1,hb.1]) rfl (Vg (by
 unfold Tl;have oa:=SV.oneA ha;have ob:=SV.oneA hb;simp[oa,ob];refine A1 (uL ha hs hl s) ?_
 simp))
theorem Vo {ns:List Nm}{a b:AV}{dv:List NdV}(ha:SV Cw 2 ns a)(hb:SV BS 3 dv b)(hs:BW BX NdV.ino dv)(hl:dv.length≤281474976710656)(no:Int):
  BPure prog 41 [.agg [a,b],I no] (.tup [I (CW BX NdV.ino dv no),B (decide (AM NdV.ino dv no))]):=BPure.val (by simp[A3,noIds,ha.1,hb.1]) rfl (Wf (by
 unfold Vi;have oa:=SV.oneA ha;have ob:=SV.oneA hb;simp[oa,ob];refine A1 (uK hb hs hl no) ?_
 simp))
theorem kB {l:List Ext}{v:AV}(hv:SV As 9 l v)(hl:l.length≤1000000000):∃R,SV As 9 l R∧BPure prog 95 [v] R:=by
 obtain⟨r,X,⟨-,h1,-,-⟩,h2⟩:=SZ (hv.2 []) hl;exact BPure.sl (by simp[A3,hv.1]) (Db λx _=>EP x) ⟨r,X,h1,h2⟩
theorem YC {l:List Ext}{v:AV}{size:Int}(hv:SV As 9 l v)(hl:l.length≤1000000000):∃R,SV As 9 l R∧BPure prog 42 [.agg [I size,v]] (.agg [I size,R]):=by
 obtain⟨R,hR,hc⟩:=kB hv hl;refine⟨R,hR,BPure.val (by simp[A3,noIds,hv.1]) (by simp[noIds,A3,hR.1]) (TM ?_)⟩;unfold QM;have o1:=SV.oneA hv;have o2:=SV.oneA hR;simp[o1];refine bP_of hc ?_;simp[o2,AO o2,AR,AN,Am]
def Ff (ns:List Nm)(s:List UInt8):Int:=match ZT Nm.name ns s with
 | some x=>x.ino
 | none=>0
def PC (ns:List Nm)(ds:List Nd)(s:List UInt8):Prop:=Ko ns ds∧AM Nm.name ns s
instance (ns:List Nm) (ds:List Nd) (s:List UInt8):Decidable (PC ns ds s):=by unfold PC;infer_instance
def JU (ns:List Nm)(ds:List Nd)(s:List UInt8):Int:=if PC ns ds s then Ff ns s else 0
theorem iQ {ns:List Nm}{ds:List Nd}{v:AV}(hv:ImV ns ds v)(hb:Sm ns ds)(s:List UInt8):BPure prog 20 [v,S (Ay s)] (.tup [I (JU ns ds s),B (decide (PC ns ds s))]):=BPure.val (by have:=hv.noIds;simpa[A3,noIds]using this) rfl (Wd (by
 have hv0:=hv;obtain⟨a,b,dv,rfl,ha,hbv,rfl⟩:=hv;unfold Ve;have oa:=SV.oneA ha;have ob:=SV.oneA hbv;simp[oa,ob,Am];refine A1 (Yi hv0 hb) ?_
 by_cases hm:Ko ns (dv.map NdV.nd)
 ·simp[hm,Am]
  refine bC_of (QY ha hbv hm.1.2.2.1 (by have:=hb.1;omega) s _) ?_
  by_cases hh:AM Nm.name ns s
  ·obtain⟨x,h1,h2,h3⟩:=Lk koN hm.1.2.2.1 hh
   have e:JU ns (dv.map NdV.nd) s=x.ino:=by unfold JU Ff;rw[if_pos ⟨hm,hh⟩,h2]
   have e2:PC ns (dv.map NdV.nd) s:=⟨hm,hh⟩;simp[hh,ha.idx Es h1 rfl,sT,e,e2]
  ·have e2:¬PC ns (dv.map NdV.nd) s:=λh=>hh h.2
   have e:JU ns (dv.map NdV.nd) s=0:=if_neg e2;simp[hh,e,e2]
 ·have e2:¬PC ns (dv.map NdV.nd) s:=λh=>hm h.1
  have e:JU ns (dv.map NdV.nd) s=0:=if_neg e2;simp[hm,e,e2]))
end
section
def O5 (ns:List Nm)(ds:List Nd)(no:Int):Prop:=Ko ns ds∧AM Nd.ino ds no
instance (ns:List Nm) (ds:List Nd) (no:Int):Decidable (O5 ns ds no):=by unfold O5;infer_instance
def E2 (ns:List Nm)(ds:List Nd)(no:Int):Nd:=if O5 ns ds no then(ZT Nd.ino ds no).getD ⟨0,0,[]⟩else⟨0,0,[]⟩
theorem cI {dv:List NdV}{no:Int}{x:NdV}(h:ZT NdV.ino dv no=some x):ZT Nd.ino (dv.map NdV.nd) no=some x.nd:=by
 unfold ZT at h⊢;rw[List.find?_map]
 show Option.map NdV.nd (dv.find? λx=>decide (x.nd.ino=no))=_
 rw[show(dv.find? λx=>decide (x.nd.ino=no))=some x from h];rfl
theorem Wn {ns:List Nm}{ds:List Nd}{v:AV}(hv:ImV ns ds v)(hb:Sm ns ds)(no:Int):∃R,SV As 9 (E2 ns ds no).l R∧BPure prog 13 [v,I no] (.tup [.agg [I (E2 ns ds no).size,R],B (decide (O5 ns ds no))]):=by
 have hv0:=hv;obtain⟨a,b,dv,rfl,ha,hbv,rfl⟩:=hv;have oa:=SV.oneA ha;have ob:=SV.oneA hbv
 by_cases hh:O5 ns (dv.map NdV.nd) no
 ·have hm:=hh.1
  have hs:=V8.1 hm.2.2.1;have hk:=N4.1 hh.2;obtain⟨x,h1,h2,h3⟩:=Lk koI hs hk;have e:E2 ns (dv.map NdV.nd) no=x.nd:=by unfold E2;rw[if_pos hh,cI h2];rfl
  rw[e];obtain⟨R,hR,hc⟩:=YC (size:=x.nd.size) x.h (by have:=hb.2.2.2 x.nd (Ag1 (Ac7 h1));omega);refine⟨R,hR,BPure.val (by have:=hv0.noIds;simpa[A3,noIds]using this) (by simp[noIds,A3,hR.1]) (QG ?_)⟩;unfold Su;simp[oa,ob,Am];refine A1 (Yi hv0 hb) ?_;simp[hm,Am];refine bC_of (Vo ha hbv hs (by have:=hb.2.1;simp at this;omega) no _) ?_;simp[hk,hbv.idx Dw h1 rfl,sS];refine A1 hc ?_;have o2:=SV.oneA hR;simp[o2,AO o2,AR,AN,Am,hh]
 ·have e:E2 ns (dv.map NdV.nd) no=⟨0,0,[]⟩:=if_neg hh
  rw[e];refine⟨Ad,SV.nil,BPure.val (by have:=hv0.noIds;simpa[A3,noIds]using this) rfl (QG ?_)⟩;unfold Su;simp[oa,ob,Am];refine A1 (Yi hv0 hb) ?_
  by_cases hm:Ko ns (dv.map NdV.nd)
  ·have hs:=V8.1 hm.2.2.1
   have hk:¬AM NdV.ino dv no:=λh=>hh ⟨hm,N4.2 h⟩
   simp[hm,Am];refine bC_of (Vo ha hbv hs (by have:=hb.2.1;simp at this;omega) no _) ?_;simp[hk,AR,AN,Am,hh]
  ·simp[hm,AR,AN,Am,hh]
def JE (ds:List Nd):Nat:=(ds.map λd=>d.l.length).sum
def ZA (ns:List Nm)(ds:List Nd):Int:=if Ko ns ds then JE ds else 0
theorem iH {ds:List Nd}{d:Nd}:JE (ds++[d])=JE ds+d.l.length:=by simp[JE]
theorem XX {N:Nat}:∀{ds:List Nd},(∀d∈ds,d.l.length≤N)→JE ds≤ds.length*N
 | [],_=>by simp[JE]
 | d::ds,h=>by
  have ih:=XX (ds:=ds) λx hx=>h x (by simp[hx])
  have:=h d (by simp)
  unfold JE at ih⊢;rw[Aj5,List.sum_cons,Ae2,Af9];omega
theorem iI {ds:List Nd}(h:∀d∈ds,d.l.length≤1000000)(hn:ds.length≤100000)(k:Nat):JE (ds.take k)≤100000000000:=by
 have h1:=XX (N:=1000000) (ds:=ds.take k) λd hd=>h d (Ag5 hd)
 have:(ds.take k).length≤100000:=by rw[Ac4];omega
 have:=Ad3 1000000 this
 omega
theorem rK {ns:List Nm}{ds:List Nd}{v:AV}(hv:ImV ns ds v)(hb:Sm ns ds):BPure prog 52 [v] (I (ZA ns ds)):=BPure.val hv.noIds rfl (We (by
 have hv0:=hv;obtain⟨a,b,dv,rfl,ha,hbv,rfl⟩:=hv;have oa:=SV.oneA ha;have ob:=SV.oneA hbv;have b2:=hb.2.1;unfold Vf;simp[oa,ob,Am];refine A1 (Yi hv0 hb) ?_
 by_cases hm:Ko ns (dv.map NdV.nd)
 ·simp[hm,hbv.len]
  have e:ZA ns (dv.map NdV.nd)=JE (dv.map NdV.nd):=if_pos hm;rw[e];refine PG (λn x3 x10 x11 x12 H'=>∃k:Nat,k+n=dv.length∧x3=I (JE ((dv.map NdV.nd).take k))∧x10=b∧x11=I dv.length∧x12=I k) ?_ dv.length ⟨0,by omega,rfl,rfl,rfl,rfl⟩;rintro n x3 x10 x11 x12 H' R hR ⟨k,hk,rfl,rfl,rfl,rfl⟩;unfold Mx;rw[Af2]at b2;rcases Ac9 k dv.length with h | h
  ·have hx:=Ea h
   generalize dv[k]=d at hx;have hx2:(dv.map NdV.nd)[k]?=some d.nd:=by rw[Af3,hx];rfl
   have h1:=iI hb.2.2.2 (by simpa using b2) k;have h2:=hb.2.2.2 d.nd (Ac7 hx2)
   have ea:AR 3 (H'++[some (.cells [I 0,I 0,Ad])]) (.ptr H'.length 0) (.agg (BS d))=some (H'++[some (.cells (BS d))]):=by
    have:=SV.oneA d.h
    simp[AR,BS,AN,this]
   simp[h,hbv.idx Dw hx rfl,dS,ea];simp[BS,d.h.len,Ax (a:=k) (b:=1) (by omega) (by omega),Ax (a:=(JE (List.take k (dv.map NdV.nd)):Int)) (b:=d.nd.l.length) (by omega) (by omega)];exact hR (n - 1) _ _ _ _ _ (by omega) ⟨k+1,by omega,by rw[SH hx2,iH];simp,rfl,rfl,by simp⟩
  ·have:(dv.map NdV.nd).take k=dv.map NdV.nd:=Ac5 (by simp;omega)
   simp[show ¬k<dv.length by omega,this]
 ·have e:ZA ns (dv.map NdV.nd)=0:=if_neg hm
  simp[hm,e]))
def rA (ns:List Nm)(ds:List Nd)(ms:List Nm)(es:List Nd):Prop:=ns=ms∧ds=es
instance (ns:List Nm) (ds:List Nd) (ms:List Nm) (es:List Nd):Decidable (rA ns ds ms es):=by unfold rA;infer_instance
theorem Vu {α:Type}{enc:α→List AV}{sz:Nat}(hsz:∀x,(enc x).length=sz)(h0:0<sz){H:AH}{v:AV}{l:List α}{k:Nat}{x:α}(hs:Aa H sz v=some (l.flatMap enc,l.length))(ho:AP v=true)(hx:l[k]?=some x):
  ∃o off cells,Bh sz v (I k)=some (.ptr o off)∧o∈AT v∧H[o]?=some (some (.cells cells))∧off+sz≤cells.length∧(∀j,j<sz→cells[off+j]?=(enc x)[j]?)∧
   ∀y q xs,enc y=Bz (enc x) q xs→q+xs.length≤sz→Aa (H.set o (some (.cells (AN cells (off+q) xs)))) sz v=some ((l.set k y).flatMap enc,l.length):=by
 have hk:=(B8.1 hx).1;obtain⟨o,off,cap,cells,rfl,h1,h2,h3⟩:=HU hs ho (by omega);have hol:=(B8.1 h1).1;have hmul:(k+1)*sz≤l.length*sz:=Ad3 _ (by omega);have hms:(k+1)*sz=k*sz+sz:=Af9 _ _;refine⟨o,off+k*sz,cells,?_,by simp[AT],h1,by omega,λj hj=>?_,λy q xs hy hq=>?_⟩
 ·simp[Bh,J8]
  omega
 ·have e:(l.flatMap enc)[k*sz+j]?=cells[off+k*sz+j]?:=by
   rw[h3,Ad2,if_pos (by omega),Ad5];congr 1;omega
  rw[← e];have e2:=Hl hsz l k;have e3:(l.flatMap enc)[k*sz+j]?=((l.flatMap enc).drop (k*sz))[j]?:=by rw[Ad5]
  rw[e3,e2,Ag9 hk,(B8.1 hx).2,Ae9,Ac3 (by rw[hsz];exact hj)]
 ·have hxs:off+k*sz+q+xs.length≤cells.length:=by omega
  rw[DV _ _ _ hxs]
  show Aa (H.set o (some (.cells (Bz cells (off+k*sz+q) xs)))) sz _=_
  rw[Ag7,AA (c:=Bz cells (off+(k*sz+q)) xs) (by simp[hol]) (by rw[G6 (by omega)];exact h2)];rw[Oo h2 (by omega),← h3,On hsz hx hy hq]
theorem pZ (w:World):(Go.sizeOf 114).run prog w=.ok 2 w:=Bx (by kernel_rfl)
theorem pY (w:World):(Go.sizeOf 99).run prog w=.ok 3 w:=Bx (by kernel_rfl)
theorem xG {H:AH}{oa offa la ea ka ob offb lb eb kb:Nat}{ca cb:List AV}(ha:H[oa]?=some (some (.cells ca)))(hbo:H[ob]?=some (some (.cells cb)))(hne:oa≠ob)(hka:ka≠0)(hkb:kb≠0)(hcb:cb≠[]):
  ExtR prog 210 [.sl oa offa la ea (.ex ka),.sl ob offb lb eb (.ex kb)] H (B false):=
 ExtR.apart (tS:=37) (tR:=4) (fn:=f210) (by kernel_rfl) (by kernel_rfl) (by kernel_rfl) (by kernel_rfl) (by kernel_rfl) (by kernel_rfl) pZ ha hbo hne hka hkb hcb
theorem xF {H:AH}{oa offa la ea ka ob offb lb eb kb:Nat}{ca cb:List AV}(ha:H[oa]?=some (some (.cells ca)))(hbo:H[ob]?=some (some (.cells cb)))(hne:oa≠ob)(hka:ka≠0)(hkb:kb≠0)(hcb:cb≠[]):
  ExtR prog 212 [.sl oa offa la ea (.ex ka),.sl ob offb lb eb (.ex kb)] H (B false):=
 ExtR.apart (tS:=38) (tR:=4) (fn:=f212) (by kernel_rfl) (by kernel_rfl) (by kernel_rfl) (by kernel_rfl) (by kernel_rfl) (by kernel_rfl) pY ha hbo hne hka hkb hcb
def zN:List AV:=[S ⟨#[]⟩,I 0]
def zD:List AV:=[I 0,I 0,Ad]
theorem lE {H:AH}{s:AV}{l:List Nm}{i oj:Nat}{x:Nm}(hs:Aa H 2 s=some (l.flatMap Cw,l.length))(ho:AP s=true)(hc:Ch s l.length)(hi:i≤l.length)(hn:l.length≤1000000)(hv:H[oj]?=some (some (.cells (Cw x))))(hne:oj∉AT s):
  ∃r H',nQ 2 H s ((l.take i++x::l.drop i).flatMap Cw) l.length r H'∧BCall prog 186 [s,I i,.sl oj 0 1 2 (.ex 1)] H r H':=by
 have:=lG (P:=prog) (sz:=2) (bytes:=24) (zc:=zN) (f:=186) (ov:=210) (rot:=211) (by omega) rfl
  (λa0 a1 a2 H K h=>F5 h) hs ho hc hi hn (by omega) hv (Es x) hne (λm=>by simp[Cw,C7,EE]) (λh1 h2 h3 h4=>xG hv h1 h2 (by omega) h3 h4)
 rwa[Hm Es,Hl Es,Ad6,show Cw x++(l.drop i).flatMap Cw=(x::l.drop i).flatMap Cw from rfl,← Ag6]at this
theorem tC {H:AH}{s:AV}{l:List NdV}{i oj:Nat}{x:NdV}(hs:Aa H 3 s=some (l.flatMap BS,l.length))(ho:AP s=true)(hc:Ch s l.length)(hi:i≤l.length)(hn:l.length≤1000000)(hv:H[oj]?=some (some (.cells (BS x))))(hne:oj∉AT s):
  ∃r H',nQ 3 H s ((l.take i++x::l.drop i).flatMap BS) l.length r H'∧BCall prog 187 [s,I i,.sl oj 0 1 3 (.ex 1)] H r H':=by
 have:=lG (P:=prog) (sz:=3) (bytes:=40) (zc:=zD) (f:=187) (ov:=212) (rot:=213) (by omega) rfl
  (λa0 a1 a2 H K h=>F8 h) hs ho hc hi hn (by omega) hv (Dw x) hne (λm=>Ee (Kd x)) (λh1 h2 h3 h4=>xF hv h1 h2 (by omega) h3 h4)
 rwa[Hm Dw,Hl Dw,Ad6,show BS x++(l.drop i).flatMap BS=(x::l.drop i).flatMap BS from rfl,← Ag6]at this
theorem kM {H:AH}{s:AV}{l:List Nm}{i:Nat}(hs:Aa H 2 s=some (l.flatMap Cw,l.length))(ho:AP s=true)(hc:Ch s l.length)(hi:i<l.length)(hn:l.length≤1000000):
  ∃r H',rE 2 H s ((l.take i++l.drop (i+1)).flatMap Cw) (l.length - 1) r H'∧BCall prog 189 [s,I i,I ((i:Int)+1)] H r H':=by
 obtain⟨m,hm⟩:∃m,l.length=m+1:=⟨l.length - 1,by omega⟩;rw[hm]at hs hc;obtain⟨r,H',h1,h2⟩:=kN (sz:=2) (bytes:=24) (zc:=zN) (by omega) rfl hs ho hc (show i≤m by omega) (by omega) (by omega);have h2':D0 s (I i) (I ((i:Int)+1)) H λr' H''=>r'=r∧H''=H':=h2
 obtain⟨r2,H2,⟨rfl,rfl⟩,h3⟩:=Fw h2';rw[Hm Es,Hl Es,← Ag6]at h1;exact⟨_,_,by rw[hm];exact h1,h3⟩
theorem sO {H:AH}{s:AV}{l:List NdV}{i:Nat}(hs:Aa H 3 s=some (l.flatMap BS,l.length))(ho:AP s=true)(hc:Ch s l.length)(hi:i<l.length)(hn:l.length≤1000000):
  ∃r H',rE 3 H s ((l.take i++l.drop (i+1)).flatMap BS) (l.length - 1) r H'∧BCall prog 190 [s,I i,I ((i:Int)+1)] H r H':=by
 obtain⟨m,hm⟩:∃m,l.length=m+1:=⟨l.length - 1,by omega⟩;rw[hm]at hs hc;obtain⟨r,H',h1,h2⟩:=kN (sz:=3) (bytes:=40) (zc:=zD) (by omega) rfl hs ho hc (show i≤m by omega) (by omega) (by omega);have h2':D1 s (I i) (I ((i:Int)+1)) H λr' H''=>r'=r∧H''=H':=h2
 obtain⟨r2,H2,⟨rfl,rfl⟩,h3⟩:=Fx h2';rw[Hm Dw,Hl Dw,← Ag6]at h1;exact⟨_,_,by rw[hm];exact h1,h3⟩
structure ImH (L oi:Nat)(ns:List Nm)(dv:List NdV)(a b:AV)(H:AH):Prop where
 obj:H[oi]?=some (some (.cells [a,b]))
 lo:oi∉AT a∧oi∉AT b
 len:L≤H.length
 sa:Aa H 2 a=some (ns.flatMap Cw,ns.length)
 oa:AP a=true
 ca:Ch a ns.length
 ia:∀i∈AT a,L≤i
 sb:Aa H 3 b=some (dv.flatMap BS,dv.length)
 ob:AP b=true
 cb:Ch b dv.length
 ib:∀i∈AT b,L≤i
 ab:∀i∈AT a,i∉AT b
def FrL (L oi:Nat)(H H':AH):Prop:=H.length≤H'.length∧∀j,j<L→j≠oi→H'[j]?=H[j]?
theorem FrL.refl (L oi:Nat)(H:AH):FrL L oi H H:=⟨Ac6 _,λ_ _ _=>rfl⟩
theorem FrL.trans {L oi:Nat}{A B C:AH}(h:FrL L oi A B)(k:FrL L oi B C):FrL L oi A C:=⟨Ae1 h.1 k.1,λj h1 h2=>(k.2 j h1 h2).trans (h.2 j h1 h2)⟩
theorem ImH.noA {L oi:Nat}{ns:List Nm}{dv:List NdV}{a b:AV}{H:AH}(h:ImH L oi ns dv a b H):oi∉AT a:=h.lo.1
theorem ImH.noB {L oi:Nat}{ns:List Nm}{dv:List NdV}{a b:AV}{H:AH}(h:ImH L oi ns dv a b H):oi∉AT b:=h.lo.2
theorem ImH.lend {L oi:Nat}{ns:List Nm}{dv:List NdV}{a b:AV}{H:AH}(h:ImH L oi ns dv a b H):∃Ra Rb,SV Cw 2 ns Ra∧SV BS 3 dv Rb∧FZ H (.agg [a,b]) (.agg [Ra,Rb]):=by
 obtain⟨Ra,h1,f1⟩:=FZ.sv h.sa (Db λx _=>ND x);obtain⟨Rb,h2,f2⟩:=FZ.sv h.sb (Db λx _=>Kd x);exact⟨Ra,Rb,h1,h2,FZ.agg (FZs.cons f1 (FZs.cons f2 FZs.nil))⟩
theorem ImH.grew {L oi:Nat}{ns:List Nm}{dv:List NdV}{a b:AV}{H H':AH}(h:ImH L oi ns dv a b H)(g:Grew H H'):ImH L oi ns dv a b H':=
 ⟨g.cells h.obj,h.lo,Ae1 h.len g.1,g.slice h.sa,h.oa,h.ca,h.ia,g.slice h.sb,h.ob,h.cb,h.ib,h.ab⟩
theorem ImH.newA {L oi:Nat}{ns ms:List Nm}{dv:List NdV}{a b r:AV}{H H':AH}(h:ImH L oi ns dv a b H)(hl:H.length≤H'.length)(hk:∀i,i<H.length→i∉AT a→H'[i]?=H[i]?)(h1:Aa H' 2 r=some (ms.flatMap Cw,ms.length))(h2:AP r=true)(h3:Ch r ms.length)(h4:∀i∈AT r,i∈AT a∨H.length≤i):
  ∃H2,AR 1 H' (.ptr oi 0) r=some H2∧ImH L oi ms dv r b H2∧FrL L oi H H2:=by
 have c0:H'[oi]?=some (some (.cells [a,b])):=by rw[hk oi (B8.1 h.obj).1 h.noA];exact h.obj
 have hr:=AL h2;have hol1:=(B8.1 h.obj).1;have nro:oi∉AT r:=λq=>(h4 oi q).elim h.noA (λq=>by omega)
 have hle:=h.len;have hol:=(B8.1 c0).1;have nr:∀i∈AT r,L≤i:=λi hi=>(h4 i hi).elim (h.ia i) (λq=>by omega)
 refine⟨H'.set oi (some (.cells [r,b])),?_,⟨by simp[hol],⟨nro,h.noB⟩,by simp;omega,?_,h2,h3,nr,?_,h.ob,h.cb,h.ib,λi hi hb=>?_⟩,⟨by simp;omega,λj h5 h6=>?_⟩⟩
 ·rw[A8 (n:=1) (off:=0) (xs:=[r]) (cs:=[a,b]) (AO hr) c0 rfl (by simp)];rfl
 ·exact Ae h1 λi hi=>C2 (fun (e:oi=i)=>nro (e▸hi))
 ·refine Ae h.sb λi hi=>?_
  rw[C2 (fun (e:oi=i)=>h.noB (e▸hi))];exact hk i (A2 h.sb i hi) λq=>h.ab i q hi
 ·rcases h4 i hi with q | q
  ·exact h.ab i q hb
  ·have:=A2 h.sb i hb;omega
 ·rw[C2 (by omega)]
  exact hk j (by omega) λq=>by have:=h.ia j q;omega
theorem ImH.newB {L oi:Nat}{ns:List Nm}{dv ew:List NdV}{a b r:AV}{H H':AH}(h:ImH L oi ns dv a b H)(hl:H.length≤H'.length)(hk:∀i,i<H.length→i∉AT b→H'[i]?=H[i]?)(h1:Aa H' 3 r=some (ew.flatMap BS,ew.length))(h2:AP r=true)(h3:Ch r ew.length)(h4:∀i∈AT r,i∈AT b∨H.length≤i):
  ∃H2,AR 1 H' (.ptr oi 1) r=some H2∧ImH L oi ns ew a r H2∧FrL L oi H H2:=by
 have c0:H'[oi]?=some (some (.cells [a,b])):=by rw[hk oi (B8.1 h.obj).1 h.noB];exact h.obj
 have hr:=AL h2;have hol1:=(B8.1 h.obj).1;have nro:oi∉AT r:=λq=>(h4 oi q).elim h.noB (λq=>by omega)
 have hle:=h.len;have hol:=(B8.1 c0).1;have nr:∀i∈AT r,L≤i:=λi hi=>(h4 i hi).elim (h.ib i) (λq=>by omega)
 refine⟨H'.set oi (some (.cells [a,r])),?_,⟨by simp[hol],⟨h.noA,nro⟩,by simp;omega,?_,h.oa,h.ca,h.ia,?_,h2,h3,nr,λi ha hi=>?_⟩,⟨by simp;omega,λj h5 h6=>?_⟩⟩
 ·rw[A8 (n:=1) (off:=1) (xs:=[r]) (cs:=[a,b]) (AO hr) c0 rfl (by simp)];rfl
 ·refine Ae h.sa λi hi=>?_
  rw[C2 (fun (e:oi=i)=>h.noA (e▸hi))];exact hk i (A2 h.sa i hi) λq=>h.ab i hi q
 ·exact Ae h1 λi hi=>C2 (fun (e:oi=i)=>nro (e▸hi))
 ·rcases h4 i hi with q | q
  ·exact h.ab i ha q
  ·have:=A2 h.sa i ha;omega
 ·rw[C2 (by omega)]
  exact hk j (by omega) λq=>by have:=h.ib j q;omega
section
variable {P : Program}
def lS (o:Oper)(need:List Nat):Bool:=need.all λj=>o.after.toList.any λe=>Region.binds .any e&&Nat.beq e.on j
theorem gQ {o:Oper}{need:List Nat}(h:lS o need=true):∀j∈need,∃e∈o.after,Region.binds .any e=true∧e.on=j:=by
 intro j hj
 have:=Ae7.1 h j hj
 obtain⟨e,he,hb⟩:=List.any_eq_true.1 this;simp only[Ae4]at hb;exact⟨e,by simpa using he,hb.1,Ai4 hb.2⟩
def ZB (vals:Nat→AV)(i:Nat)(r:AV):Nat→AV:=λj=>if j=i then r else vals j
end
end
section
section
variable {P : Program}
def OpIg (P:Program)(ops:List Oper)(T:List AV)(i:Nat)(need:List Nat)(F:(Nat→AV)→AH→(AV→AH→Prop)→Prop):Prop:=
 ∃o,ops[i]?=some o∧(∀j∈need,∃e∈o.after,Region.binds .any e=true∧e.on=j)∧∀vals H K,F vals H K→B3 ops.toArray (pt ops vals (λ_=>true) T i) o=some true∧Wm P (pt ops vals (λ_=>true) T i) H o K
theorem mE {ops:List Oper}{vals:Nat→AV}{T:List AV}{j d:Nat}(hd:Iv ops j=some d)(hl:d<T.length):∀n,j<n→(∀k,j<k→k<n→Iv ops k≠some d)→(pt ops vals (λ_=>true) T n)[d]?=some (vals j)
 | 0,h,_=>by omega
 | n+1,h,h2=>by
  simp only[pt,if_true]
  by_cases c:j=n
  ·subst c
   rw[hd];simp only[Dh];rw[JX (by rw[S9];exact hl)]
  ·rw[SP (h2 n (by omega) (by omega)),mE hd hl n (by omega) λk h3 h4=>h2 k h3 (by omega)]
def yO (ops:List Oper)(len i:Nat):Bool:=match (ops.getD i default).guard with
 | none=>true
 | some (j,_)=>match Iv ops j with
  | some d=>decide (j<i)&&decide (d<len)&&(List.range i).all λk=>!decide (j<k)|| !(match Iv ops k with
   | some x=>Nat.beq x d
   | none=>false)
  | none=>false
def uH (P:Program)(ql:FuncId→Bool)(fz:Bool)(ops:List Oper)(T:List AV)(i:Nat)(vals:Nat→AV)(H:AH)(K:AV→AH→Prop):Prop:=
 let o:=ops.getD i default
 let S:=match DY (Br (pt ops vals (λ_=>true) T i)) o with
  | some (k,args)=>match B1 P k with
   | true=>ACalls P k args H K
   | false=>False
  | none=>ME P ql Ap (fz&&Wg o.op) (Br (pt ops vals (λ_=>true) T i)) H o true K
 match o.guard with
 | none=>S
 | some (j,w)=>vals j=B w∧S
theorem pV {ql:FuncId→Bool}{fz:Bool}{ops:List Oper}{T:List AV}{i:Nat}{vals:Nat→AV}{H:AH}{K:AV→AH→Prop}(hg:yO ops T.length i=true)(h:uH P ql fz ops T i vals H K):
  B3 ops.toArray (pt ops vals (λ_=>true) T i) (ops.getD i default)=some true∧Wm P (pt ops vals (λ_=>true) T i) H (ops.getD i default) K:=by
 unfold uH at h;unfold yO at hg;generalize ops.getD i default=o at*;simp only at h;have step:∀{S:Prop},(S=match DY (Br (pt ops vals (λ_=>true) T i)) o with
  | some (k,args)=>match B1 P k with
   | true=>ACalls P k args H K
   | false=>False
  | none=>ME P ql Ap (fz&&Wg o.op) (Br (pt ops vals (λ_=>true) T i)) H o true K)→S→Wm P (pt ops vals (λ_=>true) T i) H o K:=by
  rintro S rfl h;split at h
  ·rename_i k args hc
   split at h
   ·rename_i hgo;exact .inr (.inr ⟨k,args,hc,hgo,h⟩)
   ·exact h.elim
  ·rename_i hc
   obtain⟨r,H',h1,h2,-⟩:=Mc h;rcases h2 with⟨-,h2 | ⟨h2,h3⟩⟩ | ⟨h2,-⟩
   ·unfold XK at h2
    split at h2
    ·obtain⟨r',h3,h4⟩:=Option.map_eq_some_iff.1 h2
     injection h4 with h4 h5;subst h4;subst h5;exact .inr (.inl ⟨_,h3,h1⟩)
    ·exact .inl ⟨r,H',h2,h1⟩
   ·exfalso
    unfold NR at h3;rw[hc]at h3;exact h3
   ·cases h2
 cases ho:o.guard with
 | none=>
  simp only[ho]at h;exact⟨by unfold B3;rw[ho],step rfl h⟩
 | some q=>
  obtain⟨j,w⟩:=q;simp only[ho]at h hg;refine⟨?_,step rfl h.2⟩;unfold B3 RU;simp only[ho,Am0];split at hg
  ·rename_i d hd
   simp only[zV,Aa2,Ae7,Aj8,decide_eq_false_iff_not]at hg
   have hp:=mE (vals:=vals) hd hg.1.2 i hg.1.1 λk h1 h2 h3=>by
    rcases hg.2 k h2 with q | q
    ·exact q h1
    ·rw[h3]at q;simp at q
   have hd':(ops[j]?).bind (·.dst)=some d:=hd;simp only[hd',hp,h.1,Aj2];cases w<;>rfl
  ·cases hg
theorem OpIg.all {ql:FuncId→Bool}{fz:Bool}{ops:List Oper}{T:List AV}{n:Nat}{need:List (List Nat)}{F:List ((Nat→AV)→AH→(AV→AH→Prop)→Prop)}(hn:ops.length=n)(hb:(List.range n).all (λi=>lS (ops.getD i default) (need.getD i [])&&yO ops T.length i)=true)
  (hF:∀vals H K,(List.range n).map (λi=>uH P ql fz ops T i vals H K)=F.map λf=>f vals H K):∀i,i<ops.length→OpIg P ops T i (need.getD i []) (F.getD i (λ_ _ _=>False)):=by
 intro i hi;have hb:=Ae7.1 hb i (by rw[Aj8];omega);simp only[Ae4]at hb;have ho:ops[i]?=some (ops.getD i default):=by rw[Ad4,Ea hi];rfl
 refine⟨_,ho,gQ hb.1,λvals H K h=>pV (ql:=ql) (fz:=fz) hb.2 ?_⟩;have e:=congrArg (λl=>l[i]?) (hF vals H K);simp only[Af3,Aj6 (show i<n by omega),Aj2]at e;cases hf:F[i]? with
 | none=>rw[hf]at e;simp at e
 | some f=>
  rw[hf]at e;simp only[Aj2,Ak7]at e;rw[e];rw[Ad4,hf]at h;exact h
theorem ACode.told3 {id:Nat}{ops:List Oper}{Q:AQ}{T:List AV}{H:AH}(hm:P.follows .mixedOrders=true)(hk:Lj ops=true)(need:Nat→List Nat)(F:Nat→(Nat→AV)→AH→(AV→AH→Prop)→Prop)(V:Nat→AV)(HI:(Nat→Bool)→AH→Prop)
  (ho:∀i,i<ops.length→OpIg P ops T i (need i) (F i)) (h0:HI (λ_=>false) H)
  (hs:∀i,i<ops.length→∀(S:Nat→Bool) vals Hc,S i=false→(∀a,S a=true→∀b∈need a,S b=true)→(∀j∈need i,S j=true∧vals j=V j)→HI S Hc→F i vals Hc λr H'=>r=V i∧HI (Hx S i) H')
  (last:∀(S:Nat→Bool) vals Hc,(∀j,j<ops.length→S j=true∧vals j=V j)→HI S Hc→Q .normal (pt ops vals (λ_=>true) T ops.length) Hc):ACode P (.region id ops.toArray true) Q T H:=by
 refine ACode.drawn hm hk (Ω:=AH×(Nat→AV)) (λω S=>HI S ω.1∧(∀j,S j=true→ω.2 j=V j)∧∀a,S a=true→∀b∈need a,S b=true) (λω=>ω.2) (λω _=>ω.1) (H,λ_=>AE) ⟨h0,by simp,by simp⟩ rfl ?_ (λω S hS hI=>last S ω.2 ω.1 (λj hj=>⟨hS j hj,hI.2.1 j (hS j hj)⟩) hI.1);rintro ω S i o ⟨hoi,hcl,hSi,haft⟩ ⟨hI,hv,hcls⟩;have hi:=(B8.1 hoi).1;obtain⟨o',ho',hn,hF⟩:=ho i hi;rw[hoi]at ho';injection ho' with ho';subst ho'
 have hn':∀j∈need i,S j=true:=λj hj=>by
  obtain⟨e,he,hb,rfl⟩:=hn j hj;exact haft e he hb
 obtain⟨hw,h1⟩:=hF ω.2 ω.1 _ (hs i hi S ω.2 ω.1 hSi hcls (λj hj=>⟨hn' j hj,hv j (hn' j hj)⟩) hI);refine⟨true,hw,λ_=>?_,λh=>by cases h⟩
 have conv:∀r H',(r=V i∧HI (Hx S i) H')→∃ω':AH×(Nat→AV),(HI (Hx S i) ω'.1∧(∀j,Hx S i j=true→ω'.2 j=V j)∧∀a,Hx S i a=true→∀b∈need a,Hx S i b=true)∧(∀j,S j=true→ω'.2 j=ω.2 j)∧ω'.2 i=r∧ω'.1=H':=by
  rintro r H' ⟨rfl,h⟩;refine⟨(H',ZB ω.2 i (V i)),⟨h,λj hj=>?_,λa ha b hb=>?_⟩,λj hj=>?_,by simp[ZB],rfl⟩
  ·show ZB ω.2 i (V i) j=V j
   unfold ZB
   by_cases c:j=i
   ·rw[if_pos c,c]
   ·rw[if_neg c]
    unfold Hx at hj;rw[if_neg c]at hj;exact hv j hj
  ·unfold Hx at ha⊢
   by_cases c:b=i
   ·rw[if_pos c]
   ·rw[if_neg c]
    by_cases c2:a=i
    ·subst c2;exact hn' b hb
    ·rw[if_neg c2]at ha;exact hcls a ha b hb
  ·have:j≠i:=by rintro rfl;rw[hSi]at hj;cases hj
   simp[ZB,this]
 rcases h1 with⟨r,H',h2,h3⟩ | ⟨r,h2,h3⟩ | ⟨k,args,h2,h3,h4⟩
 ·exact .inl ⟨r,H',h2,conv _ _ h3⟩
 ·exact .inr (.inl ⟨r,h2,conv _ _ h3⟩)
 ·exact .inr (.inr ⟨k,args,h2,h3,h4.mono conv⟩)
theorem ACode.told2 {id:Nat}{ops:List Oper}{Q:AQ}{T:List AV}{H:AH}(hm:P.follows .mixedOrders=true)(hk:Lj ops=true)(need:Nat→List Nat)(F:Nat→(Nat→AV)→AH→(AV→AH→Prop)→Prop)(V:Nat→AV)(hp:(Nat→Bool)→AH)
  (ho:∀i,i<ops.length→OpIg P ops T i (need i) (F i)) (h0:hp (λ_=>false)=H)
  (hs:∀i,i<ops.length→∀(S:Nat→Bool) vals,S i=false→(∀a,S a=true→∀b∈need a,S b=true)→(∀j∈need i,S j=true∧vals j=V j)→F i vals (hp S) λr H'=>r=V i∧H'=hp (Hx S i))
  (last:∀(S:Nat→Bool) vals,(∀j,j<ops.length→S j=true∧vals j=V j)→Q .normal (pt ops vals (λ_=>true) T ops.length) (hp S)):ACode P (.region id ops.toArray true) Q T H:=
 ACode.told3 hm hk need F V (λS H=>H=hp S) ho h0.symm (λi hi S vals Hc h1 h2 h3 h4=>by subst h4;exact hs i hi S vals h1 h2 h3) (λS vals Hc h1 h2=>by subst h2;exact last S vals h1)
end
end
section
noncomputable def crNOps:List Oper:=(Zo (sub [true,true,true,true,false] (AJ f152))).toList
def sN (x0 x3 x4 x6:AV):List AV:=AY (mk 82 0 [0,3,4,6]) [x0,x3,x4,x6]
theorem X2:crNOps.length=16:=by kernel_rfl
theorem sM:Lj crNOps=true:=by kernel_rfl
def crNNeed:List (List Nat):=[[],[],[1],[2],[3],[],[],[6],[],[8],[7,9],[10],[4,5,11],[0,1,2,3,4,5,6,7,8,9,10,11,12],[0,1,2,3,4,5,6,7,8,9,10,11,12,13],[0,1,2,3,4,5,6,7,8,9,10,11,12,14]]
def M9 (x0 x3 x4 x6:AV):List ((Nat→AV)→AH→(AV→AH→Prop)→Prop):=[
 λvals H K=>gO true (some x0) λv=>K v H,
 λvals H K=>gO true (some x0) λv=>K v H,
 λvals H K=>gO true (Af (vals 1)) λv=>K v H,
 λvals H K=>gO true (Ac 0 (vals 2)) λv=>K v H,
 λvals H K=>gO true (Ar false 1 H (vals 3)) λv=>K v H,
 λvals H K=>gO true (some x4) λv=>K v H,
 λvals H K=>gO true (Ac 5 x3) λv=>K v H,
 λvals H K=>gO true (Ar false 1 H (vals 6)) λv=>K v H,
 λvals H K=>gO true (Ac 1 x3) λv=>K v H,
 λvals H K=>gO true (Ar false 1 H (vals 8)) λv=>K v H,
 λvals H K=>gO true (FD zN [(0,1,(vals 7)),(1,1,(vals 9))]) λv=>K v H,
 λvals H K=>gH true (Cv H 2 1 (Bg zN 1) [(0,2,(vals 10))]) H K,
 λvals H K=>ACalls prog 186 [(vals 4),(vals 5),(vals 11)] H K,
 λvals H K=>gO true (Af (vals 0)) λv=>K v H,
 λvals H K=>gO true (Ac 0 (vals 13)) λv=>K v H,
 λvals H K=>gS true (AR 1 H (vals 14) (vals 12)) H λH'=>K AE H']
theorem wH (x0 x3 x4 x6:AV):∀i,i<crNOps.length→OpIg prog crNOps (sN x0 x3 x4 x6) i (crNNeed.getD i []) ((M9 x0 x3 x4 x6).getD i (λ_ _ _=>False)):=
 OpIg.all (ql:=Mb) (fz:=false) X2 (by kernel_rfl) (λvals H K=>by kernel_rfl)
noncomputable def crDOps:List Oper:=(Zo (sub [true,true,true,true,true] (AJ f152))).toList
def sL (x0 x3 x6:AV):List AV:=AY (mk 82 0 [0,3,6]) [x0,x3,x6]
theorem X0:crDOps.length=14:=by kernel_rfl
theorem sK:Lj crDOps=true:=by kernel_rfl
def crDNeed:List (List Nat):=[[],[],[1],[2],[3],[],[],[6],[7],[8],[4,5,9],[0,1,2,3,4,5,6,7,8,9,10],[0,1,2,3,4,5,6,7,8,9,10,11],[0,1,2,3,4,5,6,7,8,9,10,12]]
def O2 (x0 x3 x6:AV):List ((Nat→AV)→AH→(AV→AH→Prop)→Prop):=[
 λvals H K=>gO true (some x0) λv=>K v H,
 λvals H K=>gO true (some x0) λv=>K v H,
 λvals H K=>gO true (Af (vals 1)) λv=>K v H,
 λvals H K=>gO true (Ac 1 (vals 2)) λv=>K v H,
 λvals H K=>gO true (Ar false 1 H (vals 3)) λv=>K v H,
 λvals H K=>gO true (some x6) λv=>K v H,
 λvals H K=>gO true (Ac 1 x3) λv=>K v H,
 λvals H K=>gO true (Ar false 1 H (vals 6)) λv=>K v H,
 λvals H K=>gO true (FD zD [(0,1,(vals 7))]) λv=>K v H,
 λvals H K=>gH true (Cv H 3 1 (Bg zD 1) [(0,3,(vals 8))]) H K,
 λvals H K=>ACalls prog 187 [(vals 4),(vals 5),(vals 9)] H K,
 λvals H K=>gO true (Af (vals 0)) λv=>K v H,
 λvals H K=>gO true (Ac 1 (vals 11)) λv=>K v H,
 λvals H K=>gS true (AR 1 H (vals 12) (vals 10)) H λH'=>K AE H']
theorem wF (x0 x3 x6:AV):∀i,i<crDOps.length→OpIg prog crDOps (sL x0 x3 x6) i (crDNeed.getD i []) ((O2 x0 x3 x6).getD i (λ_ _ _=>False)):=
 OpIg.all (ql:=Mb) (fz:=false) X0 (by kernel_rfl) (λvals H K=>by kernel_rfl)
structure OpM where
 kind:Int
 ino:Int
 pos:Int
 size:Int
 keep:Bool
 name:List UInt8
 to:List UInt8
 b:List UInt8
 deriving DecidableEq
def DG (o:OpM)(bv:AV):List AV:=[I o.kind,I o.ino,I o.pos,I o.size,B o.keep,S (Ay o.name),S (Ay o.to),bv]
theorem wI (x0 x3 x4 x6:AV)(vals:Nat→AV)(H:AH)(K:AV→AH→Prop):(Bn (LQ (mk 82 0 [0,3,6]) (Gy [true,true,true,true,true] 6)) (Bc prog f152.results.toList K)) .normal (pt crNOps vals (λ_=>true) (sN x0 x3 x4 x6) 16) H=Il x0 x3 x6 H K:=by kernel_rfl
theorem wG (x0 x3 x6:AV)(vals:Nat→AV)(H:AH)(K:AV→AH→Prop):(Bc prog f152.results.toList K) .normal (pt crDOps vals (λ_=>true) (sL x0 x3 x6) 14) H=K (.tup []) H:=by kernel_rfl
theorem fJ (x0 x3 x4 x6:AV)(H:AH)(K:AV→AH→Prop)(h:ACode prog (.region 4 crNOps.toArray true) (Bn (LQ (mk 82 0 [0,3,6]) (Gy [true,true,true,true,true] 6)) (Bc prog f152.results.toList K)) (sN x0 x3 x4 x6) H):FB x0 x3 x4 x6 H K:=unR.mk h
theorem fI (x0 x3 x6:AV)(H:AH)(K:AV→AH→Prop)(h:ACode prog (.region 5 crDOps.toArray true) (Bc prog f152.results.toList K) (sL x0 x3 x6) H):Im x0 x3 x6 H K:=unR.mk h
def JA (i j k:Nat)(A B C D:AH)(S:Nat→Bool):AH:=if S k=true then D else if S j=true then C else if S i=true then B else A
theorem E9 {i j k:Nat}{A B C D:AH}{S:Nat→Bool}{q:Nat}(h1:q≠i)(h2:q≠j)(h3:q≠k):JA i j k A B C D (Hx S q)=JA i j k A B C D S:=by
 unfold JA Hx;rw[if_neg (Af7 h3),if_neg (Af7 h2),if_neg (Af7 h1)]
abbrev zX:=And.intro @Ab @Bv
abbrev Aa3:=And.intro (And.intro @AD @B4) (And.intro (And.intro @List.getD_cons_succ.{0} @List.getD_cons_zero.{0}) @zX)
theorem fM {L oi p k:Nat}{ns:List Nm}{dv:List NdV}{a b bv:AV}{H:AH}{o:OpM}(h:ImH L oi ns dv a b H)(hp:H[p]?=some (some (.cells (DG o bv))))(hpo:p≠oi)(hpa:p∉AT a)(hk:k≤ns.length)(hn:ns.length≤100000):
  ∃r H2,ImH L oi (ns.take k++⟨o.name,o.ino⟩::ns.drop k) dv r b H2∧FrL L oi H H2∧H2[p]?=H[p]?∧∀x6 K,Il (.ptr oi 0) (.ptr p 0) x6 H2 K→FB (.ptr oi 0) (.ptr p 0) (I k) x6 H K:=by
 have g:=Grew.app H [some (.cells (Cw ⟨o.name,o.ino⟩))];have hg:=h.grew g;have hpl:=(B8.1 hp).1;obtain⟨r,H12,hI,hc⟩:=lE (x:=⟨o.name,o.ino⟩) (oj:=H.length) hg.sa hg.oa hg.ca hk (by omega) (by simp) (λhh=>by have:=A2 h.sa _ hh;omega);obtain⟨i1,i2,i3,i4,i5,i6⟩:=hI;have el:(ns.take k++(⟨o.name,o.ino⟩:Nm)::ns.drop k).length=ns.length+1:=by simp;omega
 obtain⟨H2,e2,n1,n2⟩:=hg.newA (ms:=ns.take k++⟨o.name,o.ino⟩::ns.drop k) i3 i4 (by rw[el];exact i2) i1 (by rw[el];exact i6) i5
 have hp2:H2[p]?=H[p]?:=by
  have c0:H12[oi]?=some (some (.cells [a,b])):=by rw[i4 oi (B8.1 hg.obj).1 hg.noA];exact hg.obj
  rw[A8 (n:=1) (off:=0) (xs:=[r]) (cs:=[a,b]) (AO (AL i1)) c0 rfl (by simp)]at e2;injection e2 with e2;rw[← e2,C2 (Af7 hpo),i4 p (by simp;omega) hpa,g.2 p hpl]
 have hfr:FrL L oi H H2:=by
  have hle:=h.len;exact⟨Ae1 g.1 n2.1,λj h5 h6=>(n2.2 j h5 h6).trans (g.2 j (by omega))⟩
 let V:Nat→AV:=λi=>([.ptr oi 0,.ptr oi 0,.ptr oi 0,.ptr oi 0,a,I k,.ptr p 5,S (Ay o.name),.ptr p 1,I o.ino,.agg (Cw ⟨o.name,o.ino⟩),.sl H.length 0 1 2 (.ex 1),r,.ptr oi 0,.ptr oi 0,AE]:List AV).getD i AE
 refine⟨r,H2,n1,hfr,hp2,λx6 K hK=>fJ _ _ _ _ _ _ ?_⟩;refine ACode.told2 Lg sM (λi=>crNNeed.getD i []) (λi=>(M9 (.ptr oi 0) (.ptr p 0) (I k) x6).getD i (λ_ _ _=>False)) V (JA 11 12 15 H (H++[some (.cells (Cw ⟨o.name,o.ino⟩))]) H12 H2) (wH _ _ _ _) rfl ?_ ?_
 ·intro i hi S vals hS cl hn
  rw[X2]at hi
  have n12:S 4=false→S 12=false:=λh4=>by
   cases h:S 12 with
   | false=>rfl
   | true=>have:=cl 12 h 4 (by simp[crNNeed]);rw[h4]at this;cases this
  have n15:S 12=false→S 15=false:=λh4=>by
   cases h:S 15 with
   | false=>rfl
   | true=>have:=cl 15 h 12 (by simp[crNNeed]);rw[h4]at this;cases this
  have n12':S 11=false→S 12=false:=λh4=>by
   cases h:S 12 with
   | false=>rfl
   | true=>have:=cl 12 h 11 (by simp[crNNeed]);rw[h4]at this;cases this
  have n11:∀j,j=7∨j=9→S j=false→S 11=false:=λj hj h4=>by
   cases h:S 11 with
   | false=>rfl
   | true=>
    have h10:=cl 11 h 10 (by simp[crNNeed])
    have:=cl 10 h10 j (by rcases hj with rfl | rfl<;>simp[crNNeed])
    rw[h4]at this;cases this
  have hcase:i=0∨i=1∨i=2∨i=3∨i=4∨i=5∨i=6∨i=7∨i=8∨i=9∨i=10∨i=11∨i=12∨i=13∨i=14∨i=15:=by omega
  rcases hcase with rfl | rfl | rfl | rfl | rfl | rfl | rfl | rfl | rfl | rfl | rfl | rfl | rfl | rfl | rfl | rfl
  ·simp only[M9,Aa3]
   exact⟨rfl,(E9 (by omega) (by omega) (by omega)).symm⟩
  ·simp only[M9,Aa3]
   exact⟨rfl,(E9 (by omega) (by omega) (by omega)).symm⟩
  ·simp only[M9,Aa3]
   have v1:=(hn 1 (by simp[crNNeed])).2;rw[v1];exact⟨rfl,(E9 (by omega) (by omega) (by omega)).symm⟩
  ·simp only[M9,Aa3]
   have v2:=(hn 2 (by simp[crNNeed])).2;rw[v2];exact⟨rfl,(E9 (by omega) (by omega) (by omega)).symm⟩
  ·simp only[M9,Aa3]
   have v3:=(hn 3 (by simp[crNNeed])).2;rw[v3]
   have e:Ar false 1 (JA 11 12 15 H (H++[some (.cells (Cw ⟨o.name,o.ino⟩))]) H12 H2 S) (V 3)=some a:=by
    have q12:=n12 hS;have q15:=n15 q12
    have:(JA 11 12 15 H (H++[some (.cells (Cw ⟨o.name,o.ino⟩))]) H12 H2 S)[oi]?=some (some (.cells [a,b])):=by
     unfold JA;rw[q15,q12];cases S 11 with
     | true=>exact hg.obj
     | false=>exact h.obj
    show Ar false 1 _ (.ptr oi 0)=_
    rw[Ak this];rfl
   rw[e];exact⟨rfl,(E9 (by omega) (by omega) (by omega)).symm⟩
  ·simp only[M9,Aa3]
   exact⟨rfl,(E9 (by omega) (by omega) (by omega)).symm⟩
  ·simp only[M9,Aa3]
   exact⟨rfl,(E9 (by omega) (by omega) (by omega)).symm⟩
  ·simp only[M9,Aa3]
   have v6:=(hn 6 (by simp[crNNeed])).2;rw[v6]
   have e:Ar false 1 (JA 11 12 15 H (H++[some (.cells (Cw ⟨o.name,o.ino⟩))]) H12 H2 S) (V 6)=some (.lit (.string (Ay o.name))):=by
    have q11:=n11 7 (by omega) hS;have q12:=n12' q11;have q15:=n15 q12;unfold JA;rw[q15,q12,q11]
    show Ar false 1 H (.ptr p 5)=_
    rw[Ak hp];rfl
   rw[e];exact⟨rfl,(E9 (by omega) (by omega) (by omega)).symm⟩
  ·simp only[M9,Aa3]
   exact⟨rfl,(E9 (by omega) (by omega) (by omega)).symm⟩
  ·simp only[M9,Aa3]
   have v8:=(hn 8 (by simp[crNNeed])).2;rw[v8]
   have e:Ar false 1 (JA 11 12 15 H (H++[some (.cells (Cw ⟨o.name,o.ino⟩))]) H12 H2 S) (V 8)=some (I o.ino):=by
    have q11:=n11 9 (by omega) hS;have q12:=n12' q11;have q15:=n15 q12;unfold JA;rw[q15,q12,q11]
    show Ar false 1 H (.ptr p 1)=_
    rw[Ak hp];rfl
   rw[e];exact⟨rfl,(E9 (by omega) (by omega) (by omega)).symm⟩
  ·simp only[M9,Aa3]
   have v7:=(hn 7 (by simp[crNNeed])).2;have v9:=(hn 9 (by simp[crNNeed])).2;rw[v7,v9];exact⟨rfl,(E9 (by omega) (by omega) (by omega)).symm⟩
  ·simp only[M9,Aa3]
   have v10:=(hn 10 (by simp[crNNeed])).2;rw[v10];have q12:=n12' hS;have q15:=n15 q12;have e:JA 11 12 15 H (H++[some (.cells (Cw ⟨o.name,o.ino⟩))]) H12 H2 S=H:=by unfold JA;rw[q15,q12,hS];rfl
   have e2:JA 11 12 15 H (H++[some (.cells (Cw ⟨o.name,o.ino⟩))]) H12 H2 (Hx S 11)=H++[some (.cells (Cw ⟨o.name,o.ino⟩))]:=by unfold JA;simp[Hx,q15,q12]
   rw[e,e2];exact⟨rfl,rfl⟩
  ·simp only[M9,Aa3]
   have v4:=(hn 4 (by simp[crNNeed])).2;have v5:=(hn 5 (by simp[crNNeed])).2;have v11:=(hn 11 (by simp[crNNeed])).2;rw[v4,v5,v11];have q15:=n15 hS;have e:JA 11 12 15 H (H++[some (.cells (Cw ⟨o.name,o.ino⟩))]) H12 H2 S=H++[some (.cells (Cw ⟨o.name,o.ino⟩))]:=by unfold JA;rw[q15,hS,(hn 11 (by simp[crNNeed])).1];rfl
   have e2:JA 11 12 15 H (H++[some (.cells (Cw ⟨o.name,o.ino⟩))]) H12 H2 (Hx S 12)=H12:=by unfold JA;simp[Hx,q15]
   rw[e,e2];exact hc
  ·simp only[M9,Aa3]
   have v0:=(hn 0 (by simp[crNNeed])).2;rw[v0];exact⟨rfl,(E9 (by omega) (by omega) (by omega)).symm⟩
  ·simp only[M9,Aa3]
   have v13:=(hn 13 (by simp[crNNeed])).2;rw[v13];exact⟨rfl,(E9 (by omega) (by omega) (by omega)).symm⟩
  ·simp only[M9,Aa3]
   have v14:=(hn 14 (by simp[crNNeed])).2;have v12:=(hn 12 (by simp[crNNeed])).2;rw[v14,v12];have e:JA 11 12 15 H (H++[some (.cells (Cw ⟨o.name,o.ino⟩))]) H12 H2 S=H12:=by unfold JA;rw[hS,(hn 12 (by simp[crNNeed])).1];rfl
   have e3:JA 11 12 15 H (H++[some (.cells (Cw ⟨o.name,o.ino⟩))]) H12 H2 (Hx S 15)=H2:=by unfold JA;simp[Hx]
   rw[e,e3]
   show bS (AR 1 H12 (.ptr oi 0) r) _
   rw[e2,AC];exact⟨rfl,rfl⟩
 ·intro S vals hS
  rw[X2,wI];have:JA 11 12 15 H (H++[some (.cells (Cw ⟨o.name,o.ino⟩))]) H12 H2 S=H2:=by unfold JA;rw[if_pos (hS 15 (by rw[X2];omega)).1]
  rw[this];exact hK
def Kp (ino:Int):NdV:=⟨⟨ino,0,[]⟩,Ad,SV.nil⟩
theorem fN {L oi p k:Nat}{ns:List Nm}{dv:List NdV}{a b bv:AV}{H:AH}{o:OpM}(h:ImH L oi ns dv a b H)(hp:H[p]?=some (some (.cells (DG o bv))))(hk:k≤dv.length)(hn:dv.length≤100000):
  ∃r H2,ImH L oi ns (dv.take k++Kp o.ino::dv.drop k) a r H2∧FrL L oi H H2∧∀K:AV→AH→Prop,K (.tup []) H2→Im (.ptr oi 0) (.ptr p 0) (I k) H K:=by
 have g:=Grew.app H [some (.cells (BS (Kp o.ino)))];have hg:=h.grew g;have hpl:=(B8.1 hp).1;obtain⟨r,H10,hI,hc⟩:=tC (x:=Kp o.ino) (oj:=H.length) hg.sb hg.ob hg.cb hk (by omega) (by simp) (λhh=>by have:=A2 h.sb _ hh;omega);obtain⟨i1,i2,i3,i4,i5,i6⟩:=hI;have el:(dv.take k++Kp o.ino::dv.drop k).length=dv.length+1:=by simp;omega
 obtain⟨H2,e2,n1,n2⟩:=hg.newB (ew:=dv.take k++Kp o.ino::dv.drop k) i3 i4 (by rw[el];exact i2) i1 (by rw[el];exact i6) i5
 have hfr:FrL L oi H H2:=by
  have hle:=h.len;exact⟨Ae1 g.1 n2.1,λj h5 h6=>(n2.2 j h5 h6).trans (g.2 j (by omega))⟩
 let V:Nat→AV:=λi=>([.ptr oi 0,.ptr oi 0,.ptr oi 0,.ptr oi 1,b,I k,.ptr p 1,I o.ino,.agg (BS (Kp o.ino)),.sl H.length 0 1 3 (.ex 1),r,.ptr oi 0,.ptr oi 1,AE]:List AV).getD i AE
 refine⟨r,H2,n1,hfr,λK hK=>fI _ _ _ _ _ ?_⟩;refine ACode.told2 Lg sK (λi=>crDNeed.getD i []) (λi=>(O2 (.ptr oi 0) (.ptr p 0) (I k)).getD i (λ_ _ _=>False)) V (JA 9 10 13 H (H++[some (.cells (BS (Kp o.ino)))]) H10 H2) (wF _ _ _) rfl ?_ ?_
 ·intro i hi S vals hS cl hn
  rw[X0]at hi
  have n12:S 4=false→S 10=false:=λh4=>by
   cases h:S 10 with
   | false=>rfl
   | true=>have:=cl 10 h 4 (by simp[crDNeed]);rw[h4]at this;cases this
  have n15:S 10=false→S 13=false:=λh4=>by
   cases h:S 13 with
   | false=>rfl
   | true=>have:=cl 13 h 10 (by simp[crDNeed]);rw[h4]at this;cases this
  have n12':S 9=false→S 10=false:=λh4=>by
   cases h:S 10 with
   | false=>rfl
   | true=>have:=cl 10 h 9 (by simp[crDNeed]);rw[h4]at this;cases this
  have n11:S 7=false→S 9=false:=λh4=>by
   cases h:S 9 with
   | false=>rfl
   | true=>
    have h8:=cl 9 h 8 (by simp[crDNeed])
    have:=cl 8 h8 7 (by simp[crDNeed])
    rw[h4]at this;cases this
  have hcase:i=0∨i=1∨i=2∨i=3∨i=4∨i=5∨i=6∨i=7∨i=8∨i=9∨i=10∨i=11∨i=12∨i=13:=by omega
  rcases hcase with rfl | rfl | rfl | rfl | rfl | rfl | rfl | rfl | rfl | rfl | rfl | rfl | rfl | rfl
  ·simp only[O2,Aa3]
   exact⟨rfl,(E9 (by omega) (by omega) (by omega)).symm⟩
  ·simp only[O2,Aa3]
   exact⟨rfl,(E9 (by omega) (by omega) (by omega)).symm⟩
  ·simp only[O2,Aa3]
   have v1:=(hn 1 (by simp[crDNeed])).2;rw[v1];exact⟨rfl,(E9 (by omega) (by omega) (by omega)).symm⟩
  ·simp only[O2,Aa3]
   have v2:=(hn 2 (by simp[crDNeed])).2;rw[v2];exact⟨rfl,(E9 (by omega) (by omega) (by omega)).symm⟩
  ·simp only[O2,Aa3]
   have v3:=(hn 3 (by simp[crDNeed])).2;rw[v3]
   have e:Ar false 1 (JA 9 10 13 H (H++[some (.cells (BS (Kp o.ino)))]) H10 H2 S) (V 3)=some b:=by
    have q12:=n12 hS;have q15:=n15 q12
    have:(JA 9 10 13 H (H++[some (.cells (BS (Kp o.ino)))]) H10 H2 S)[oi]?=some (some (.cells [a,b])):=by
     unfold JA;rw[q15,q12];cases S 9 with
     | true=>exact hg.obj
     | false=>exact h.obj
    show Ar false 1 _ (.ptr oi 1)=_
    rw[Ak this];rfl
   rw[e];exact⟨rfl,(E9 (by omega) (by omega) (by omega)).symm⟩
  ·simp only[O2,Aa3]
   exact⟨rfl,(E9 (by omega) (by omega) (by omega)).symm⟩
  ·simp only[O2,Aa3]
   exact⟨rfl,(E9 (by omega) (by omega) (by omega)).symm⟩
  ·simp only[O2,Aa3]
   have v6:=(hn 6 (by simp[crDNeed])).2;rw[v6]
   have e:Ar false 1 (JA 9 10 13 H (H++[some (.cells (BS (Kp o.ino)))]) H10 H2 S) (V 6)=some (I o.ino):=by
    have q11:=n11 hS;have q12:=n12' q11;have q15:=n15 q12;unfold JA;rw[q15,q12,q11]
    show Ar false 1 H (.ptr p 1)=_
    rw[Ak hp];rfl
   rw[e];exact⟨rfl,(E9 (by omega) (by omega) (by omega)).symm⟩
  ·simp only[O2,Aa3]
   have v7:=(hn 7 (by simp[crDNeed])).2;rw[v7];exact⟨rfl,(E9 (by omega) (by omega) (by omega)).symm⟩
  ·simp only[O2,Aa3]
   have v8:=(hn 8 (by simp[crDNeed])).2;rw[v8];have q12:=n12' hS;have q15:=n15 q12;have e:JA 9 10 13 H (H++[some (.cells (BS (Kp o.ino)))]) H10 H2 S=H:=by unfold JA;rw[q15,q12,hS];rfl
   have e2:JA 9 10 13 H (H++[some (.cells (BS (Kp o.ino)))]) H10 H2 (Hx S 9)=H++[some (.cells (BS (Kp o.ino)))]:=by unfold JA;simp[Hx,q15,q12]
   rw[e,e2];exact⟨rfl,rfl⟩
  ·simp only[O2,Aa3]
   have v4:=(hn 4 (by simp[crDNeed])).2;have v5:=(hn 5 (by simp[crDNeed])).2;have v9:=(hn 9 (by simp[crDNeed])).2;rw[v4,v5,v9];have q15:=n15 hS;have e:JA 9 10 13 H (H++[some (.cells (BS (Kp o.ino)))]) H10 H2 S=H++[some (.cells (BS (Kp o.ino)))]:=by unfold JA;rw[q15,hS,(hn 9 (by simp[crDNeed])).1];rfl
   have e2:JA 9 10 13 H (H++[some (.cells (BS (Kp o.ino)))]) H10 H2 (Hx S 10)=H10:=by unfold JA;simp[Hx,q15]
   rw[e,e2];exact hc
  ·simp only[O2,Aa3]
   have v0:=(hn 0 (by simp[crDNeed])).2;rw[v0];exact⟨rfl,(E9 (by omega) (by omega) (by omega)).symm⟩
  ·simp only[O2,Aa3]
   have v11:=(hn 11 (by simp[crDNeed])).2;rw[v11];exact⟨rfl,(E9 (by omega) (by omega) (by omega)).symm⟩
  ·simp only[O2,Aa3]
   have v12:=(hn 12 (by simp[crDNeed])).2;have v10:=(hn 10 (by simp[crDNeed])).2;rw[v12,v10];have e:JA 9 10 13 H (H++[some (.cells (BS (Kp o.ino)))]) H10 H2 S=H10:=by unfold JA;rw[hS,(hn 10 (by simp[crDNeed])).1];rfl
   have e3:JA 9 10 13 H (H++[some (.cells (BS (Kp o.ino)))]) H10 H2 (Hx S 13)=H2:=by unfold JA;simp[Hx]
   rw[e,e3]
   show bS (AR 1 H10 (.ptr oi 1) r) _
   rw[e2,AC];exact⟨rfl,rfl⟩
 ·intro S vals hS
  rw[X0,wG];have:JA 9 10 13 H (H++[some (.cells (BS (Kp o.ino)))]) H10 H2 S=H2:=by unfold JA;rw[if_pos (hS 13 (by rw[X0];omega)).1]
  rw[this];exact hK
def xO (L oi:Nat)(H:AH)(ns:List Nm)(dv:List NdV)(r:AV)(H':AH):Prop:=r=.tup []∧∃a b,ImH L oi ns dv a b H'∧FrL L oi H H'
def OY (ns:List Nm)(dv:List NdV)(o:OpM):Prop:=¬AM Nm.name ns o.name∧¬AM NdV.ino dv o.ino∧Gz o.name∧1≤o.ino∧o.ino≤4611686018427387904∧ns.length<16
instance (ns:List Nm) (dv:List NdV) (o:OpM):Decidable (OY ns dv o):=by unfold OY;infer_instance
def YL (ns:List Nm)(dv:List NdV)(o:OpM):List Nm:=if OY ns dv o then Jq Ba Nm.name ns ⟨o.name,o.ino⟩else ns
def YK (ns:List Nm)(dv:List NdV)(o:OpM):List NdV:=if OY ns dv o then Jq BX NdV.ino dv (Kp o.ino)else dv
theorem mA {L oi:Nat}{ns:List Nm}{dv:List NdV}{a b:AV}{H:AH}(h:ImH L oi ns dv a b H)(o:OpM){bv:AV}(hb:oneA bv=true):∃H1,A9 H (.agg (DG o bv))=some (.ptr H.length 0,H1)∧H1[H.length]?=some (some (.cells (DG o bv)))∧ImH L oi ns dv a b H1∧FrL L oi H H1:=by
 have g:=Grew.app H [some (.cells (DG o bv))];have hle:=h.len;exact⟨_,by simp[DG,hb],by simp,h.grew g,g.1,λj h1 h2=>g.2 j (by omega)⟩
theorem YM {L oi:Nat}{ns:List Nm}{dv:List NdV}{a b bv:AV}{H H1:AH}{o:OpM}(h:ImH L oi ns dv a b H)(e1:A9 H (.agg (DG o bv))=some (.ptr H.length 0,H1))(hp:H1[H.length]?=some (some (.cells (DG o bv))))(h1:ImH L oi ns dv a b H1)
  (hs:BW Ba Nm.name ns) (hd:BW BX NdV.ino dv) (hn:ns.length≤100000) (hm:dv.length≤100000) (hnm:o.name.length≤1000000000) {K:AV→AH→Prop} (hno:¬OY ns dv o→K (.tup []) H1) (hyes:OY ns dv o→FB (.ptr oi 0) (.ptr H.length 0) (I (CW Ba Nm.name ns o.name)) (I (CW BX NdV.ino dv o.ino)) H1 K):
  ID (.ptr oi 0) (.agg (DG o bv)) H K:=by
 obtain⟨Ra,Rb,sa,sb,fz⟩:=h1.lend;have c0:=h1.obj;unfold ID;simp only[e1,A0];have b0:Am true 2 [a,b] 0=some (.agg [a,b]):=rfl;simp[hp,c0,b0,DG];refine bC_of (PCall.lend (FZs.cons fz (FZs.cons (FZ.lit _) FZs.nil)) rfl (QY sa sb hs (by omega) o.name)).call ?_;simp[hp,c0,b0,DG];refine bC_of (PCall.lend (FZs.cons fz (FZs.cons (FZ.lit _) FZs.nil)) rfl (Vo sa sb hd (by omega) o.ino)).call ?_
 by_cases q1:AM Nm.name ns o.name
 ·simp[q1]
  exact hno λhc=>hc.1 q1
 ·by_cases q2:AM NdV.ino dv o.ino
  ·simp[q1,q2]
   exact hno λhc=>hc.2.1 q2
  ·simp[q1,q2,hp,DG]
   refine A1 (NT (s:=o.name) (by omega)) ?_
   by_cases q3:Gz o.name
   ·by_cases q4:o.ino<1
    ·simp[q3,q4,hp,DG]
     exact hno λhc=>by have:=hc.2.2.2.1;omega
    ·by_cases q5:4611686018427387904<o.ino
     ·simp[q3,q4,q5,hp,DG]
      exact hno λhc=>by have:=hc.2.2.2.2.1;omega
     ·have ln:=BF h1.sa
      by_cases q6:16≤ns.length
      ·have q6':(16:Int)≤ns.length:=by omega
       simp[q3,q4,q5,hp,DG,c0,ln,q6'];exact hno λhc=>by have:=hc.2.2.2.2.2;omega
      ·have q6':¬(16:Int)≤ns.length:=by omega
       simp[q3,q4,q5,hp,DG,c0,ln,q6'];exact hyes ⟨q1,q2,q3,by omega,by omega,by omega⟩
   ·simp[q3]
    exact hno λhc=>q3 hc.2.2.1
theorem kJ {L oi:Nat}{ns:List Nm}{dv:List NdV}{a b bv:AV}{H:AH}{o:OpM}(h:ImH L oi ns dv a b H)(hs:BW Ba Nm.name ns)(hd:BW BX NdV.ino dv)(hb:oneA bv=true)(hn:ns.length≤100000)(hm:dv.length≤100000)(hnm:o.name.length≤1000000000):
  ∃r H',xO L oi H (YL ns dv o) (YK ns dv o) r H'∧BCall prog 152 [.ptr oi 0,.agg (DG o bv)] H r H':=by
 obtain⟨H1,e1,hp,h1,f1⟩:=mA h o hb;have hpl:H.length≠oi:=by have:=(B8.1 h.obj).1;omega
 have hpa:H.length∉AT a:=λhh=>by have:=A2 h.sa _ hh;omega
 by_cases hc:OY ns dv o
 ·obtain⟨r,H2,h2,f2,g2,w2⟩:=fM h1 hp hpl hpa (Uf (c:=Ba) (key:=Nm.name) ns o.name) hn
  obtain⟨r2,H3,h3,f3,w3⟩:=fN h2 (g2.trans hp) (Uf (c:=BX) (key:=NdV.ino) dv o.ino) hm;refine⟨.tup [],H3,⟨rfl,r,r2,?_,f1.trans (f2.trans f3)⟩,M0 (YM h e1 hp h1 hs hd hn hm hnm (λq=>absurd hc q) λ_=>w2 _ _ ?_)⟩
  ·unfold YL YK
   rw[if_pos hc,if_pos hc];exact h3
  ·rw[PH]
   unfold Kb;exact w3 _ ⟨rfl,rfl⟩
 ·refine⟨.tup [],H1,⟨rfl,a,b,?_,f1⟩,M0 (YM h e1 hp h1 hs hd hn hm hnm (λ_=>⟨rfl,rfl⟩) λq=>absurd q hc)⟩
  unfold YL YK;rw[if_neg hc,if_neg hc];exact h1
def Fg (ns:List Nm)(s:List UInt8):List Nm:=if AM Nm.name ns s then CV Ba Nm.name ns s else ns
def Tt (ns:List Nm)(dv:List NdV)(s:List UInt8):List NdV:=if AM Nm.name ns s then CV BX NdV.ino dv (Ff ns s)else dv
theorem Zz {L oi:Nat}{ns:List Nm}{dv:List NdV}{a b:AV}{H:AH}{s:List UInt8}(h:ImH L oi ns dv a b H)(hs:BW Ba Nm.name ns)(hd:BW BX NdV.ino dv)(hx:∀x∈ns,AM NdV.ino dv x.ino)(hn:ns.length≤100000)(hm:dv.length≤100000):
  ∃r H',xO L oi H (Fg ns s) (Tt ns dv s) r H'∧BCall prog 155 [.ptr oi 0,S (Ay s)] H r H':=TP (by
 obtain⟨Ra,Rb,sa,sb,fz⟩:=h.lend;have c0:=h.obj;unfold QO;have b0:Am true 2 [a,b] 0=some (.agg [a,b]):=rfl;simp[c0,b0];refine bC_of (PCall.lend (FZs.cons fz (FZs.cons (FZ.lit _) FZs.nil)) rfl (QY sa sb hs (by omega) s)).call ?_
 by_cases q:AM Nm.name ns s
 ·obtain⟨x,hx1,hx2,hx3⟩:=Lk koN hs q
  obtain⟨o,off,cells,u1,u2,u3,u4,u5,-⟩:=Vu Es (by omega) h.sa h.oa hx1;have u51:=u5 1 (by omega);have hk:=hx x (Ac7 hx1);have hkl:=Va koI hd hk;have hpl:=(B8.1 hx1).1;have e1:Fg ns s=CV Ba Nm.name ns s:=if_pos q;have e2:Tt ns dv s=CV BX NdV.ino dv x.ino:=by unfold Tt Ff;rw[if_pos q,hx2]
  simp[q,c0,b0,u1,u3,u51,Cw];refine bC_of (PCall.lend (FZs.cons fz (FZs.cons (FZ.lit _) FZs.nil)) rfl (Vo sa sb hd (by omega) x.ino)).call ?_;simp[c0,Ax (a:=(CW Ba Nm.name ns s:Nat)) (b:=1) (by omega) (by omega)];obtain⟨r1,H2,⟨d1,d2,d3,d4,d5,d6⟩,d7⟩:=kM h.sa h.oa h.ca hpl (by omega);refine bC_of d7 ?_;have l1:=Nj (c:=Ba) (key:=Nm.name) (k:=s) hpl;obtain⟨H3,e3,n1,n2⟩:=h.newA (ms:=CV Ba Nm.name ns s) (Am8 d3.symm) (λi _ hi=>d4 i hi) (by rw[show(CV Ba Nm.name ns s).length=ns.length - 1 by omega];exact d2) d1 (by rw[show(CV Ba Nm.name ns s).length=ns.length - 1 by omega];exact d6) (λi hi=>.inl (d5▸hi));have c3:=n1.obj;simp[e3,c3,Ax (a:=(CW BX NdV.ino dv x.ino:Nat)) (b:=1) (by omega) (by omega)];obtain⟨r2,H4,⟨g1,g2,g3,g4,g5,g6⟩,g7⟩:=sO n1.sb n1.ob n1.cb hkl (by omega);refine bC_of g7 ?_;have l2:=Nj (c:=BX) (key:=NdV.ino) (k:=x.ino) hkl;obtain⟨H5,e5,m1,m2⟩:=n1.newB (ew:=CV BX NdV.ino dv x.ino) (Am8 g3.symm) (λi _ hi=>g4 i hi) (by rw[show(CV BX NdV.ino dv x.ino).length=dv.length - 1 by omega];exact g2) g1 (by rw[show(CV BX NdV.ino dv x.ino).length=dv.length - 1 by omega];exact g6) (λi hi=>.inl (g5▸hi));simp[e5];rw[e1,e2];exact⟨rfl,_,_,m1,n2.trans m2⟩
 ·simp[q]
  refine⟨rfl,a,b,?_,FrL.refl _ _ _⟩;unfold Fg Tt;rw[if_neg q,if_neg q];exact h)
def QX (pos n:Int):Prop:=0≤pos∧1≤n∧n≤1099511627776∧pos≤1099511627776 - n
instance (pos n:Int):Decidable (QX pos n):=by unfold QX;infer_instance
theorem Pe (pos n:Int):BPure prog 201 [I pos,I n] (B (decide (QX pos n))):=BPure.flat λH=>UT (by
 unfold Te QX
 by_cases h1:0≤pos
 ·by_cases h2:1≤n
  ·by_cases h3:n≤1099511627776
   ·simp[h1,h2,h3,BP (a:=1099511627776) (b:=n) (by omega) (by omega)]
   ·simp[h1,h2,h3]
  ·simp[h1,h2]
 ·simp[h1])
theorem Q2 {size:Int}{l:List Ext}{v:AV}(hv:SV As 9 l v)(hl:l.length≤1000000)(pos n:Int)(keep:Bool):
  ∃R,SV As 9 (cL (Gr (size,l) pos n keep)) R∧BPure prog 170 [.agg [I size,v],I pos,I n,B keep] (.tup [.agg [I (cS (Gr (size,l) pos n keep)),R],B (Gr (size,l) pos n keep).isSome]):=by
 refine BPure.cont (by simp[A3,noIds,hv.1]) (P6 ?_);unfold Ml;simp[DI hv,Am];refine A1 (Fb hv (by omega)) ?_
 by_cases h1:Ck size l
 ·simp[h1]
  refine A1 (Pe pos n) ?_
  by_cases h2:QX pos n
  ·by_cases h3:32768<n
   ·have hn:Gr (size,l) pos n keep=none:=if_neg (λh=>by omega)
    simp[h2,h3,AR];exact ContK.none hn
   ·obtain⟨g1,g2,g3,g4⟩:=h2
    have hw:Gr (size,l) pos n keep=some (if keep then size else max size (pos+n),Pz l pos n):=if_pos ⟨h1,g1,g2,by omega,g4⟩;simp[show QX pos n from⟨g1,g2,g3,g4⟩,h3];obtain⟨r,H2,⟨w,rfl,a2,a3,a4,a5⟩,a1⟩:=Qt (size:=size) (hv.2 [some (.cells [I size,v]),some (.cells [I 0,Ad])]) (DI hv) (by omega);refine bC_of a1 ?_;have c0:=a4.cells (o:=0) (x:=some (.cells [I size,v])) rfl;have c1:=a4.cells (o:=1) (x:=some (.cells [I 0,Ad])) rfl;have hl2:=a4.1;simp only[zB]at hl2;have hwo:=AL a2;have id0:∀j,j<2→j∉AT w:=λj hj h=>by have:=a5 j h;simp at this;omega
    rw[A8 (n:=2) (off:=0) (x:=.agg [I size,w]) (xs:=[I size,w]) (by simp[hwo]) c0 rfl (by simp)];simp[LI (a:=pos) (b:=8) (by omega) (by omega) (by omega)];have hs0:=Ma h1.2.2;have hN:allocN pos n≤4098:=by unfold allocN;omega
    refine KP (λm x1 x2 x3 x4 x8 x10 H=>∃(d:Nat) (w:AV),d+m=allocN pos n∧x1=I pos∧x2=I n∧x3=B keep∧x4=.ptr 0 0∧x8=.ptr 1 0∧x10=I (pos/8+d)∧H[0]?=some (some (.cells [I size,w]))∧H[1]?=some (some (.cells [I 0,Ad]))∧
     Aa H 9 w=some ((FM l (pos/8) d).flatMap As,(FM l (pos/8) d).length)∧AP w=true∧(∀j,j<2→j∉AT w)) ?_ (allocN pos n)
     ⟨0,w,by simp,rfl,rfl,rfl,rfl,rfl,by simp,JX (by omega),(C2 (by omega)).trans c1,?_,a2,id0⟩
    ·rintro m x1 x2 x3 x4 x8 x10 H R hR ⟨d,w,hdn,rfl,rfl,rfl,rfl,rfl,rfl,k0,k1,kw,ko,kid⟩
     unfold HL;have hH0:=(B8.1 k0).1;have hH1:=(B8.1 k1).1;simp[Ax (a:=pos) (b:=n) (by omega) (by omega),BP (a:=pos+n) (b:=1) (by omega) (by omega),LI (a:=pos+n - 1) (b:=8) (by omega) (by omega) (by omega)]
     by_cases hd:d<allocN pos n
     ·have hc:pos/8+(d:Int)≤(pos+n - 1)/8:=by unfold allocN at hd;omega
      have hws:=aR (k:=d) hs0 (pos/8);have hlen:=aQ (k:=d) (l:=l) (no:=pos/8);obtain⟨H11,⟨w',q1,q2,q3,q4,q5,q6,q7⟩,q8⟩:=Nx (no:=pos/8+d) k0 kw ko (kid 0 (by omega)) hws (by omega);simp[hc];refine bC_of q8 ?_;have hid':∀i,i<H.length→i∉AT w→i∉AT w':=λi h1 h2 h3=>(q7 i h3).elim h2 (λh=>by omega)
      simp[Ax (a:=pos/8+d) (b:=1) (by omega) (by omega)];refine hR (m - 1) _ _ _ _ _ _ _ (by omega) ⟨d+1,w',by omega,rfl,rfl,rfl,rfl,rfl,by rw[show pos/8+(d:Int)+1=pos/8+((d+1:Nat):Int) by omega],q1,?_,?_,q3,λi hi=>hid' i (by omega) (kid i hi)⟩
      ·rw[q6 1 hH1 (by omega) (kid 1 (by omega))];exact k1
      ·rw[dE];exact q2
     ·have hd':d=allocN pos n:=by omega
      subst hd';have hc:¬pos/8+((allocN pos n:Nat):Int)≤(pos+n - 1)/8:=by unfold allocN;omega
      have hko:=AL ko
      have tail:∀s H2,H2.length=H.length→H2[0]?=some (some (.cells [I s,w]))→H2[1]?=some (some (.cells [I 0,Ad]))→Aa H2 9 w=some ((Pz l pos n).flatMap As,(Pz l pos n).length)→Gr (size,l) pos n keep=some (s,Pz l pos n)→DH (.ptr 0 0) (.ptr 1 0) H2 (ContK (Gr (size,l) pos n keep)):=by
       intro s H2 hl2 e0 e1 e2 e3;rw[LS];unfold GQ;simp[-IU,Ak e0,Am];rw[A8 (n:=2) (off:=0) (xs:=[I s,w]) (cs:=[I 0,Ad]) (by simp[hko]) e1 rfl (by simp)];simp[show 1<H2.length by omega,Am]
       exact ContK.some e3 (Ae e2 λi hi=>by
        have h2:2≤i:=Ah4 λh=>kid i h hi
        rw[C2 (by omega)])
      simp[hc];cases keep with
      | true=>
       simp;exact tail size H rfl k0 k1 kw hw
      | false=>
       have hmx:max (pos+n) size=max size (pos+n):=by omega
       simp[k0,Ax (a:=pos) (b:=n) (by omega) (by omega),hmx];rw[A8 (n:=1) (off:=0) (xs:=[I (max size (pos+n))]) (cs:=[I size,w]) rfl k0 rfl (by simp)];simp
       refine tail _ _ (by simp) (JX hH0) ((C2 (by omega)).trans k1) (Ae kw λi hi=>by
        have h2:2≤i:=Ah4 λh=>kid i h hi
        rw[C2 (by omega)]) hw
    ·exact Ae a3 λi hi=>by
      have h2:2≤i:=Ah4 λh=>id0 i h hi
      rw[C2 (by omega)]
  ·have hn:Gr (size,l) pos n keep=none:=if_neg (λh=>h2 ⟨h.2.1,h.2.2.1,by omega,h.2.2.2.2⟩)
   simp[h2,AR];exact ContK.none hn
 ·have hn:Gr (size,l) pos n keep=none:=if_neg (λh=>h1 h.1)
  simp[h1,AR];exact ContK.none hn
theorem FZ.fn {X:AH}{k:Fn}{a b a' b':List AV}(ha:FZs X a a')(hb:FZs X b b'):FZ X (.fn k a b) (.fn k a' b'):=by
 obtain⟨n0,h0⟩:=ha;obtain⟨n1,h1⟩:=hb;refine⟨n0+n1+1,λn hn=>?_⟩;cases n with
 | zero=>omega
 | succ n=>simp only[K7,h0 n (by omega),h1 n (by omega)]
theorem FZs.same {X:AH}{vs:List AV}(h:A3 vs=true):FZs X vs vs:=El X vs h
theorem FZ.ptr {X:AH}{o off:Nat}{cs Rs:List AV}(ho:X[o]?=some (some (.cells cs)))(h:FZs X (cs.drop off) Rs):FZ X (.ptr o off) (.ip Rs):=by
 obtain⟨n0,h0⟩:=h;refine⟨n0+1,λn hn=>?_⟩;cases n with
 | zero=>omega
 | succ n=>simp only[K7,ho,h0 n (by omega)];rfl
theorem uI {α:Type}{enc:α→List AV}{sz:Nat}(hsz:∀x,(enc x).length=sz)(h0:0<sz){H:AH}{w x:AV}{l:List α}{y:α}{i:Nat}{a:Int}(hw:Aa H sz w=some (l.flatMap enc,l.length))(ho:AP w=true)(hi:i<l.length)(ha:a=i)(hx:BE x=some (enc y)):
  ∃p H',Bh sz w (I a)=some p∧AR sz H p x=some H'∧H'.length=H.length∧(∀j,j∉AT w→H'[j]?=H[j]?)∧Aa H' sz w=some ((l.set i y).flatMap enc,l.length):=by
 subst ha;obtain⟨o,off,cap,cells,rfl,h1,h2,h3⟩:=HU hw ho (by omega);have hol:=(B8.1 h1).1;have hmul:i*sz+sz≤l.length*sz:=by rw[← Af9];exact Ad3 _ hi
 have hy:=hsz y;have hl:=Ea hi;have hll:=hsz (l[i]);refine⟨.ptr o (off+i*sz),H.set o (some (.cells (Bz cells (off+(i*sz+0)) (enc y)))),?_,?_,by simp,λj hj=>C2 (by simp[AT]at hj;omega),?_⟩
 ·simp only[Bh,J8]
  rw[if_pos ⟨by omega,by omega⟩];simp
 ·rw[A8 (n:=sz) (off:=off+i*sz) (xs:=enc y) hx h1 hy (by omega),DV _ _ _ (by omega)];rfl
 ·rw[AA (c:=Bz cells (off+(i*sz+0)) (enc y)) (by simp[hol]) (by rw[G6 (by omega)];exact h2)]
  rw[Oo h2 (by omega),← h3,On (q:=0) hsz hl (by unfold Bz;rw[Aj7,Ai2,Ad9 (by omega),Af5]) (by omega)]
def UW (p:Ext→Bool)(l:List Ext):Int:=match l.findIdx? p with
 | some i=>i
 | none=> -1
def nN (k:FuncId)(oc:Nat)(c:List AV)(l:List Ext)(p:Ext→Bool):Prop:=
 B1 prog k=true∧A3 c=true∧∀x∈l,∀(H:AH) (a:AV),(a=.ip c∨(a=.ptr oc 0∧H[oc]?=some (some (.cells c))))→∃H',Grew H H'∧BCall prog k [.agg (As x),a] H (B (p x)) H'
theorem TF {k:FuncId}{oc:Nat}{c:List AV}{l:List Ext}{p:Ext→Bool}{R:AV}(hR:SV As 9 l R)(hl:l.length≤281474976710656)(hd:nN k oc c l p):
  BPure prog 167 [R,.fn (.func k) [] [.ip c]] (I (UW p l)):=BPure.val (by simp[A3,noIds,hR.1,hd.2.1]) rfl (CS (by
 unfold Cl;simp[hR.len];refine Cu (λn x0 x1 x7 x8 H=>∃j:Nat,j+n=l.length∧x0=R∧x1=.fn (.func k) [] [.ip c]∧x7=I l.length∧x8=I j∧∀m x,m<j→l[m]?=some x→p x=false) ?_ l.length ⟨0,by simp,rfl,rfl,rfl,rfl,by simp⟩;rintro n x0 x1 x7 x8 H R' hR' ⟨j,hj,rfl,rfl,rfl,rfl,hm⟩;unfold BK;rcases Ac9 j l.length with hlt | hge
 ·have hx:=Ea hlt
  generalize l[j]=y at hx;obtain⟨H',g,hc⟩:=hd.2.2 y (Ac7 hx) H (.ip c) (.inl rfl);simp[hlt,hR.idx Az hx rfl,hd.1];refine bC_of hc ?_;cases hp:p y with
  | true=>
   have:l.findIdx? p=some j:=by
    rw[Al0];obtain⟨h1,h2⟩:=B8.1 hx;refine⟨h1,by rw[h2];exact hp,λi hi=>?_⟩
    have:=hm i _ hi (Ea (by omega))
    simp[this]
   simp[UW,this]
  | false=>
   simp[Ax (a:=j) (b:=1) (by omega) (by omega)];refine hR' (n - 1) _ _ _ _ _ (by omega) ⟨j+1,by omega,rfl,rfl,rfl,rfl,λm x hmj hx2=>?_⟩
   by_cases h:m=j
   ·subst h;rw[hx]at hx2;injection hx2 with hx2;rw[← hx2];exact hp
   ·exact hm m x (by omega) hx2
 ·have:l.findIdx? p=none:=by
   rw[Aj1];intro x hx;obtain⟨m,hmx⟩:=Ae0.1 hx;exact hm m x (by have:=(B8.1 hmx).1;omega) hmx
  have hjl:¬j<l.length:=by omega
  simp[hjl,UW,this]))
theorem YS {p:Ext→Bool}{l:List Ext}(h:∀x∈l,p x=false):l.filter (λx=>!p x)=l:=List.filter_eq_self.2 λx hx=>by simp[h x hx]
abbrev zI:=And.intro @Aj @Dg
abbrev Aa6:=And.intro @Bi @zC
abbrev Ao8:=@List.filter_append
theorem KN {H:AH}{v:AV}{l:List Ext}{k:FuncId}{oc:Nat}{c:List AV}{p:Ext→Bool}(hv:Aa H 9 v=some (l.flatMap As,l.length))(ho:AP v=true)(hl:l.length≤1000000)(hc:H[oc]?=some (some (.cells c)))(hne:oc∉AT v)(hd:nN k oc c l p):
  ∃r H',(AP r=true∧Aa H' 9 r=some ((l.filter λx=>!p x).flatMap As,(l.filter λx=>!p x).length)∧H.length≤H'.length∧(∀i,i<H.length→i∉AT v→H'[i]?=H[i]?)∧∀i∈AT r,i∈AT v)∧
   BCall prog 104 [v,.fn (.func k) [] [.ptr oc 0]] H r H':=Fc (by
 unfold Dl;obtain⟨R,hR,fR⟩:=FZ.sv hv (Tn l);have fc:FZ H (.fn (.func k) [] [.ptr oc 0]) (.fn (.func k) [] [.ip c]):=FZ.fn FZs.nil (FZs.cons (FZ.ptr hc (FZs.same hd.2.1)) FZs.nil);refine bP_of (PCall.lend (FZs.cons fR (FZs.cons fc FZs.nil)) rfl (TF hR (by omega) hd)) ?_;cases hf:l.findIdx? p with
 | none=>
  rw[Aj1]at hf;simp[UW,Aj1.2 hf];rw[YS hf];exact⟨ho,hv⟩
 | some i0=>
  obtain⟨h1,h2,h3⟩:=Al0.1 hf;have hoc:=(B8.1 hc).1;simp[UW,hf,show ¬(i0:Int)= -1 by omega,Ax (a:=i0) (b:=1) (by omega) (by omega)]
  have ht:(l.take (i0+1)).filter (λx=>!p x)=l.take i0:=by
   rw[Ah5,Ao8,Ea h1];simp[h2];intro x hx;obtain⟨m,hm⟩:=Ae0.1 hx;have hml:=(B8.1 hm).1;rw[Ac4]at hml;rw[Ad2,if_pos (by omega)]at hm
   have:=h3 m (by omega)
   obtain⟨q1,q2⟩:=B8.1 hm;rw[q2]at this
   simpa using this
  refine En (λn x0 x1 x5 x6 H'=>∃(i j:Nat) (M:List Ext),j+n=l.length∧i<j∧x0=v∧x1=.fn (.func k) [] [.ptr oc 0]∧x5=I i∧x6=I j∧M.length=l.length∧M.take i=(l.take j).filter (λx=>!p x)∧M.drop j=l.drop j∧
   Aa H' 9 v=some (M.flatMap As,M.length)∧H'[oc]?=some (some (.cells c))∧H.length≤H'.length∧∀i,i<H.length→i∉AT v→H'[i]?=H[i]?) ?_ (l.length - (i0+1))
   ⟨i0,i0+1,l,by omega,by omega,rfl,rfl,rfl,rfl,rfl,ht.symm,rfl,hv,hc,Ac6 _,λ_ _ _=>rfl⟩
  rintro n x0 x1 x5 x6 H' R' hR' ⟨i,j,M,hj,hij,rfl,rfl,rfl,rfl,hM,hMt,hMd,hw,hc',hle,hk⟩;unfold C3;rcases Ac9 j l.length with hlt | hge
  ·have hx:=Ea hlt
   generalize l[j]=y at hx
   have hMx:M[j]?=some y:=by
    have:=congrArg (λq=>q[0]?) hMd
    simp only[Ad5,Ah6]at this;rw[this];exact hx
   obtain⟨q,-,e1,-,-,e2⟩:=xL (a:=j) hw hMx rfl;have hoc':=(B8.1 hc').1;have gA:=Grew.app H' [some (.cells (As y))];obtain⟨H10,g,hcl⟩:=hd.2.2 y (Ac7 hx) (H'++[some (.cells (As y))]) (.ptr oc 0) (.inr ⟨rfl,gA.cells hc'⟩);have gB:=gA.trans g;have z:=g.cells (o:=H'.length) (x:=some (.cells (As y))) (by simp);simp[BF hw,hM,hlt,e1,e2,hd.1,-IU];rw[jO (by simp) (by rfl)];simp;refine bC_of hcl ?_
   have hdrop:M.drop (j+1)=l.drop (j+1):=by
    have:=congrArg (List.drop 1) hMd
    rw[Ah1,Ah1]at this;exact this
   have hkeepB:∀i,i<H.length→i∉AT x0→H10[i]?=H[i]?:=λi h1 h2=>by rw[gB.2 i (by omega),hk i h1 h2]
   cases hp:p y with
   | true=>
    simp;rw[Ct];unfold B7;simp[Ax (a:=j) (b:=1) (by omega) (by omega)];refine hR' (n - 1) _ _ _ _ _ (by omega) ⟨i,j+1,M,by omega,by omega,rfl,rfl,rfl,rfl,hM,?_,hdrop,gB.slice hw,gB.cells hc',by have:=gB.1;omega,hkeepB⟩;rw[Ah5,Ao8,← hMt,hx];simp[hp]
   | false=>
    obtain⟨q2,H16,f1,f2,f3,f4,f5⟩:=uI (x:=.agg (As y)) (y:=y) (i:=i) (a:=i) Az (by omega) (gB.slice hw) ho (by omega) rfl (by simp);simp[z,f1,f2,Ax (a:=i) (b:=1) (by omega) (by omega)];rw[Ct];unfold B7;simp[Ax (a:=j) (b:=1) (by omega) (by omega)];refine hR' (n - 1) _ _ _ _ _ (by omega) ⟨i+1,j+1,M.set i y,by omega,by omega,rfl,rfl,rfl,rfl,by simpa using hM,?_,?_,by simpa using f5,?_,by have:=gB.1;omega,λi h1 h2=>by rw[f4 i h2];exact hkeepB i h1 h2⟩
    ·rw[Ah5 (l:=l),Ao8,← hMt,hx,Ah5,JX (by omega),List.take_set_of_le (Ac6 _)]
     simp[hp]
    ·rw[List.drop_set_of_lt (by omega)];exact hdrop
    ·rw[f4 oc hne];exact gB.cells hc'
  ·have hjl:j=l.length:=by omega
   subst hjl;rw[Aj0]at hMt;have hil:i≤M.length:=by omega
   have hfl:(l.filter λx=>!p x).length=i:=by rw[← hMt,Ac4];omega
   obtain⟨o,off,cap,cells,rfl,w1,w2,w3⟩:=HU hw ho (by omega);have hol:=(B8.1 w1).1;have hmul:i*9≤M.length*9:=Ad3 _ hil;have hmul2:i*9+(M.length - i)*9=M.length*9:=by rw[← Ah2];congr 1;omega
   have hz:(Bg (As (Rc 0)) (M.length - i)).length=(M.length - i)*9:=by rw[Df];rfl
   have e3:AW 9 (.sl o off M.length 9 cap) (some (I i)) none none=some (.sl o (off+i*9) (M.length - i) 9 (cap.cut M.length i)):=by
    simp[AW,Bu];omega
   have e4:AW 9 (.sl o off M.length 9 cap) none (some (I i)) none=some (.sl o off i 9 (cap.cut M.length 0)):=by
    simp[AW,Bu];omega
   have e5:nI (As (Rc 0)) H' (.sl o (off+i*9) (M.length - i) 9 (cap.cut M.length i))=some (H'.set o (some (.cells (Bz cells (off+i*9) (Bg (As (Rc 0)) (M.length - i)))))):=by
    simp only[nI,w1];rw[if_pos ⟨rfl,by omega,by omega⟩,if_neg (by omega),DV _ _ _ (by rw[hz];omega)];rfl
   rw[← YQ];have hnl:¬(l.length:Int)<M.length:=by omega
   simp only[oB,Aa6,hnl,zI,e3,e5,AC,e4];refine⟨rfl,?_,by simpa using hle,λa h1 h2=>?_,by simp[AT]⟩
   ·have hov:(Bz cells (off+i*9) (Bg (As (Rc 0)) (M.length - i))).length=cells.length:=G6 (by rw[hz];omega)
    rw[hfl,AA (c:=Bz cells (off+i*9) (Bg (As (Rc 0)) (M.length - i))) (by simp[hol]) (by rw[hov];omega)]
    congr 2
    rw[← hMt,← Hm Az,w3,Ah3,Ai3 hmul];refine Ae8 λq=>?_
    rw[Ad2,Ad2]
    split
    ·rw[Ad5,Ad5,HT (by rw[hz];omega),if_neg (by omega)]
    ·rfl
   ·rw[C2 (by simp[AT]at h2;omega)]
    exact hk a h1 h2)
theorem gV {cs xs:List AV}{k:Nat}(h:(cs.drop k).take xs.length=xs)(hl:k+xs.length≤cs.length):Bz cs k xs=cs:=by
 refine Ae8 λi=>?_
 rw[HT hl]
 split
 ·rename_i c
  rw[← h,Ad2,if_pos (by omega),Ad5,show k+(i - k)=i by omega]
 ·rfl
theorem YP (x:Ext){j:Nat}(hj:j<8):(As x)[j+1]?=some (.lit (.int .u8 (x.b.getD j 0).toNat)):=by
 have hb:=x.hb;unfold As;rw[DZ,Qy,Ad4,Ea (by omega)];rfl
theorem iL {x:Ext}{a:Int}{i j:Nat}(hj:(j:Int)=a - x.no*8+i)(hj8:j<8):(As (E0 x a (a+i))).set (1+j) u0Z=As (E0 x a (a+(i+1:Nat))):=by
 refine Ae8 λq=>?_
 rw[Ag8];cases q with
 | zero=>rw[if_neg (by omega)];rfl
 | succ q=>
  by_cases hq:q<8
  ·rw[YP _ hq,YP _ hq,IQ hq,IQ hq,Az]
   by_cases c:1+j=q+1
   ·rw[if_pos c,if_pos (by omega),if_pos (by omega)];rfl
   ·rw[if_neg c]
    by_cases c2:a≤x.no*8+(q:Int)∧x.no*8+(q:Int)<a+i
    ·rw[if_pos c2,if_pos (by omega)]
    ·rw[if_neg c2,if_neg (by omega)]
  ·rw[Ak3 (by rw[Az];omega),Ak3 (by rw[Az];omega),Az]
   rw[if_neg (by omega)]
theorem uN {H:AH}{o q:Nat}{cells:List AV}{x:Ext}{s:Sp}(hc:H[o]?=some (some (.cells cells)))(hx:(cells.drop q).take 9=As x)(hq:q+9≤cells.length)(hs:MaySpan s)(h0:0≤x.no)(h1:x.no<137438953472):
  ∃H',(H'[o]?=some (some (.cells (Bz cells q (As (E0 x s.pos (s.pos+s.len))))))∧H.length≤H'.length∧∀i,i<H.length→i≠o→H'[i]?=H[i]?)∧BCall prog 106 [.ptr o q,.agg (BY s)] H (.tup []) H':=by
 have key:∃r H',(r=.tup []∧(H'[o]?=some (some (.cells (Bz cells q (As (E0 x s.pos (s.pos+s.len))))))∧H.length≤H'.length∧∀i,i<H.length→i≠o→H'[i]?=H[i]?))∧BCall prog 106 [.ptr o q,.agg (BY s)] H r H':=UU (by
  unfold Tf;have ho:=(B8.1 hc).1
  have hno:cells[q]?=some (I x.no):=by
   have:=congrArg (λl=>l[0]?) hx
   simp only[Ad2,Ad5,Ah6]at this
   simpa[As]using this
  have g1:=Grew.app H [some (.cells (BY s))];have c1:=g1.cells hc;have c1':H[o]?=some (some (.cells cells)):=hc;obtain⟨p,n⟩:=s;simp only[BY]at c1 g1⊢;simp[Ac3 ho,hc,hno,Am];refine bP_of (Jk x.no h0 h1) ?_;refine bP_of (PK ⟨x.no*8,8⟩ ⟨p,n⟩) ?_;have hwm:MaySpan ⟨x.no*8,8⟩:=by simp only[MaySpan,May];omega
  have hm:LY ⟨x.no*8,8⟩ ⟨p,n⟩=if max (x.no*8) p<min (x.no*8+8) (p+n)then⟨max (x.no*8) p,min (x.no*8+8) (p+n) - max (x.no*8) p⟩else⟨0,0⟩:=by
   unfold LY;simp only
   by_cases c:max (x.no*8) p<min (x.no*8+8) (p+n)
   ·rw[if_pos ⟨hwm,hs,c⟩,if_pos c]
   ·rw[if_neg (λh=>c h.2.2),if_neg c]
  -- what is wiped
  have hres:∀m:Nat,(m:Int)=(LY ⟨x.no*8,8⟩ ⟨p,n⟩).len→E0 x (LY ⟨x.no*8,8⟩ ⟨p,n⟩).pos ((LY ⟨x.no*8,8⟩ ⟨p,n⟩).pos+m)=E0 x p (p+n):=by
   intro m he;refine aB rfl λk hk=>?_
   rw[IQ hk,IQ hk];rw[hm]at he⊢
   by_cases c:max (x.no*8) p<min (x.no*8+8) (p+n)
   ·rw[if_pos c]at he⊢
    simp only at he⊢
    by_cases c2:p≤x.no*8+(k:Int)∧x.no*8+(k:Int)<p+n
    ·rw[if_pos c2,if_pos (by omega)]
    ·rw[if_neg c2,if_neg (by omega)]
   ·rw[if_neg c]at he⊢
    simp only at he⊢;rw[if_neg (by omega),if_neg (by omega)]
  have hml:∃m:Nat,(m:Int)=(LY ⟨x.no*8,8⟩ ⟨p,n⟩).len∧(0<m→x.no*8≤(LY ⟨x.no*8,8⟩ ⟨p,n⟩).pos∧(LY ⟨x.no*8,8⟩ ⟨p,n⟩).pos+m≤x.no*8+8):=by
   rw[hm]
   split
   ·exact⟨(min (x.no*8+8) (p+n) - max (x.no*8) p).toNat,by simp only;omega,λ_=>by simp only;omega⟩
   ·exact⟨0,rfl,λh=>by omega⟩
  obtain⟨m,hmm,hmb⟩:=hml;have hres:=hres m hmm;generalize LY ⟨x.no*8,8⟩ ⟨p,n⟩=M at hmm hmb hres;obtain⟨a,ml⟩:=M;simp only at hmm hmb hres;subst hmm;have hxl:=Az x;simp[BY,Ac3 ho,hc,hno,AR];have hz0:E0 x a (a+(0:Nat))=x:=aB rfl λk hk=>by rw[IQ hk,if_neg (by omega)]
  refine O4 (λt x0 x4 x14 x15 H'=>∃i:Nat,i+t=m∧x0=.ptr o q∧x4=.ptr (H.length+1) 0∧x14=I m∧x15=I i∧H'[o]?=some (some (.cells (Bz cells q (As (E0 x a (a+i))))))∧H'[H.length+1]?=some (some (.cells [I a,I m]))∧H.length≤H'.length∧∀i,i<H.length→i≠o→H'[i]?=H[i]?) ?_ m
   ⟨0,by omega,rfl,rfl,rfl,rfl,?_,?_,by simp,λi hi _=>Ac3 hi⟩
  ·rintro t x0 x4 x14 x15 H' R hR ⟨i,hi,rfl,rfl,rfl,rfl,d0,d1,d2,d3⟩
   unfold KU
   by_cases hlt:i<m
   ·obtain⟨b1,b2⟩:=hmb (by omega)
    obtain⟨j,hj⟩:∃j:Nat,(j:Int)=a - x.no*8+i:=⟨(a - x.no*8+i).toNat,by omega⟩;have ho':=(B8.1 d0).1;have hwl:=Az (E0 x a (a+i))
    have hno':(Bz cells q (As (E0 x a (a+i))))[q]?=some (I x.no):=by
     rw[HT (by omega),if_pos (by omega),Nat.sub_self];rfl
    simp[hlt,d1,d0,hno',Ek (a:=x.no) (b:=8) (by omega) (by omega),BP (a:=a) (b:=x.no*8) (by omega) (by omega),Ax (a:=a - x.no*8) (b:=i) (by omega) (by omega),← hj]
    have e1:TB 8 1 (.ptr o (q+1)) (I j)=some (.ptr o (q+1+j)):=by
     simp[TB,J8];omega
    rw[e1];simp only[Ab];rw[A8 (n:=1) (off:=q+1+j) (xs:=[.lit (.int .u8 0)]) rfl d0 rfl (by rw[G6 (by omega)];omega)];simp[Ax (a:=i) (b:=1) (by omega) (by omega)];refine hR (t - 1) _ _ _ _ _ (by omega) ⟨i+1,by omega,rfl,rfl,rfl,rfl,?_,?_,by simpa using d2,λy h1 h2=>?_⟩
    ·rw[JX ho',← iL hj (by omega)]
     congr 3
     refine Ae8 λy=>?_
     rw[Ag8,G6 (by omega),HT (by omega),HT (by simp;omega),Ag8,Ae5]
     by_cases c:q+1+j=y
     ·subst c
      rw[if_pos rfl,if_pos (by omega),if_pos (by omega),if_pos (by omega),if_pos (by omega)]
     ·rw[if_neg c]
      split
      ·rw[if_neg (by omega)]
      ·rfl
    ·rw[C2 (by omega)];exact d1
    ·rw[C2 (by omega)];exact d3 y h1 h2
   ·have:i=m:=by omega
    subst this;simp[hlt];rw[hres]at d0;exact⟨d0,d2,d3⟩
  ·rw[Ac3 ho,hz0,gV (by rw[hxl];exact hx) (by omega)]
   exact hc
  ·rw[Ac8 (by omega)];simp)
 obtain⟨r,H',⟨rfl,h1⟩,h2⟩:=key;exact⟨H',h1,h2⟩
theorem dY {H:AH}{w:AV}{l:List Ext}{i:Nat}{a:Int}{x:Ext}{s:Sp}(hw:Aa H 9 w=some (l.flatMap As,l.length))(ho:AP w=true)(hx:l[i]?=some x)(ha:a=i)(hs:MaySpan s)(h0:0≤x.no)(h1:x.no<137438953472):
  ∃p H',Bh 9 w (I a)=some p∧BCall prog 106 [p,.agg (BY s)] H (.tup []) H'∧H.length≤H'.length∧(∀j,j<H.length→j∉AT w→H'[j]?=H[j]?)∧Aa H' 9 w=some ((l.set i (E0 x s.pos (s.pos+s.len))).flatMap As,l.length):=by
 subst ha;have hi:=(B8.1 hx).1;obtain⟨o,off,cap,cells,rfl,h2,h3,h4⟩:=HU hw ho (by omega);have hol:=(B8.1 h2).1;have hmul:i*9+9≤l.length*9:=by rw[← Af9];exact Ad3 _ hi
 have hxl:=Az x;have hwl:=Az (E0 x s.pos (s.pos+s.len))
 have hpart:(cells.drop (off+i*9)).take 9=As x:=by
  have e:((l.flatMap As).drop (i*9)).take 9=As x:=by
   rw[Da Az hx,Ad7 (by omega),Ac5 (by omega)]
  rw[h4,Aj9,Ah1,Ah3,Ai3 (by omega)]at e;exact e
 obtain⟨H',⟨k1,k2,k3⟩,k4⟩:=uN (q:=off+i*9) h2 hpart (by omega) hs h0 h1;refine⟨.ptr o (off+i*9),H',?_,k4,k2,λj h5 h6=>k3 j h5 (by simp[AT]at h6;omega),?_⟩
 ·simp only[Bh,J8]
  rw[if_pos ⟨by omega,by omega⟩];simp
 ·rw[AA k1 (by rw[G6 (by omega)];exact h3)]
  rw[show off+i*9=off+(i*9+0) by omega,Oo h3 (by omega),← h4,On (q:=0) Az hx (by unfold Bz;rw[Aj7,Ai2,Ad9 (by omega),Af5]) (by omega)]
theorem map_set {f:Ext→Ext}{l:List Ext}{i:Nat}{x:Ext}(hx:l[i]?=some x):((l.take i).map f++l.drop i).set i (f x)=(l.take (i+1)).map f++l.drop (i+1):=by
 have hi:=(B8.1 hx).1;rw[Dt hx,List.set_append_right _ _ (by rw[Af2,Ac4];omega),Ah5,hx];simp[show i - min i l.length=0 by omega]
theorem dA {f:Ext→Ext}{l:List Ext}{i:Nat}{x:Ext}(hx:l[i]?=some x):((l.take i).map f++l.drop i)[i]?=some x:=by
 have hi:=(B8.1 hx).1;rw[Ac8 (by rw[Af2,Ac4];omega),Ad5];simp only[Af2,Ac4];rw[show i+(i - min i l.length)=i by omega];exact hx
theorem Ub {f:Ext→Ext}{l:List Ext}{i:Nat}:((l.take i).map f++l.drop i).length=l.length:=by
 simp;omega
theorem iJ (size:Int)(l:List Ext)(h:∀x∈l,-1≤x.no∧x.no<137438953472):nN 105 1 [I size] l (λx=>decide (size≤x.no*8)):=by
 refine⟨by kernel_rfl,rfl,λx hx H a ha=>?_⟩;obtain⟨h1,h2⟩:=h x hx
 have key:∃r H',(r=B (decide (size≤x.no*8))∧Grew H H')∧BCall prog 105 [.agg (As x),a] H r H':=Nt (by
  unfold JP;have g:=Grew.app H [some (.cells (As x))];rcases ha with rfl | ⟨rfl,hc⟩
  ·simp[Ek (a:=x.no) (b:=8) (by omega) (by omega)]
   exact g
  ·have h1':=(B8.1 hc).1
   have hc':=g.cells hc;simp[Ek (a:=x.no) (b:=8) (by omega) (by omega),hc'];exact g)
 obtain⟨r,H',⟨rfl,g⟩,hc⟩:=key;exact⟨H',g,hc⟩
theorem gX (oc:Nat)(s:Sp)(l:List Ext)(h:∀x∈l,0≤x.no∧x.no<137438953472):nN 203 oc (BY s) l (λx=>decide (Within ⟨x.no*8,8⟩ s)):=by
 refine⟨by kernel_rfl,rfl,λx hx H a ha=>?_⟩;obtain⟨h1,h2⟩:=h x hx
 have key:∃r H',(r=B (decide (Within ⟨x.no*8,8⟩ s))∧Grew H H')∧BCall prog 203 [.agg (As x),a] H r H':=Q5 (by
  unfold Nn;have g:=Grew.app H [some (.cells (As x))];simp;refine bP_of (Jk x.no h1 h2) ?_
  have ha':Ar true 2 (H++[some (.cells (As x))]) a=some (.agg (BY s)):=by
   rcases ha with rfl | ⟨rfl,hc⟩
   ·rfl
   ·rw[Ak (g.cells hc)];rfl
  rw[ha'];simp;refine bP_of (XI ⟨x.no*8,8⟩ s) ?_;exact⟨rfl,g⟩)
 obtain⟨r,H',⟨rfl,g⟩,hc⟩:=key;exact⟨H',g,hc⟩
abbrev Aa5:=And.intro @List.nil_append.{0} @List.take_zero.{0}
abbrev Ab1:=And.intro @List.drop_zero.{0} @List.map_nil.{0,0}
abbrev Ai5:=@List.length_filter_le
theorem JR {size0:Int}{l:List Ext}{v:AV}(hv:SV As 9 l v)(hl:l.length≤1000000)(size:Int):
  ∃R,SV As 9 (cL (Cg (size0,l) size)) R∧BPure prog 50 [.agg [I size0,v],I size] (.tup [.agg [I (cS (Cg (size0,l) size)),R],B (Cg (size0,l) size).isSome]):=by
 refine BPure.cont (by simp[A3,noIds,hv.1]) (P9 ?_);unfold Mp;simp[DI hv,Am,jK];refine A1 (Fb hv (by omega)) ?_
 by_cases h1:Ck size0 l
 ·by_cases h2:size<0
  ·have hn:Cg (size0,l) size=none:=if_neg (λh=>by omega)
   simp[h1,h2,AR];exact ContK.none hn
  ·by_cases h3:1099511627776<size
   ·have hn:Cg (size0,l) size=none:=if_neg (λh=>by omega)
    simp[h1,h2,h3,AR];exact ContK.none hn
   ·have hw:Cg (size0,l) size=some (size,Dq l size):=if_pos ⟨h1,by omega,by omega⟩
    simp[h1,h2,h3];obtain⟨r,H2,⟨w,rfl,a2,a3,a4,a5⟩,a1⟩:=Qt (size:=size0) (hv.2 [some (.cells [I size0,v]),some (.cells [I size]),some (.cells [I 0,Ad])]) (DI hv) (by omega);refine bC_of a1 ?_;have c0:=a4.cells (o:=0) (x:=some (.cells [I size0,v])) rfl;have c1:=a4.cells (o:=1) (x:=some (.cells [I size])) rfl;have c2:=a4.cells (o:=2) (x:=some (.cells [I 0,Ad])) rfl;have hl2:=a4.1;simp only[zB]at hl2;have hwo:=AL a2;have id0:∀j,j<3→j∉AT w:=λj hj h=>by have:=a5 j h;simp at this;omega
    have hs0:=Ma h1.2.2;have hno:=λx hx=>(Ri h1.2.2 x hx)
    rw[A8 (n:=2) (off:=0) (x:=.agg [I size0,w]) (xs:=[I size0,w]) (by simp[hwo]) c0 rfl (by simp)];simp[c1];rw[A8 (n:=1) (off:=0) (xs:=[I size]) (cs:=[I size0,w]) rfl (JX (by omega)) rfl (by simp)];simp[show 0<H2.length by omega];have keep0:∀j x,j≠0→(H2.set 0 x)[j]?=H2[j]?:=λj x hj=>C2 (by omega)
    have hw1:Aa (H2.set 0 (some (.cells [I size,w]))) 9 w=some (l.flatMap As,l.length):=Ae a3 λi hi=>keep0 i _ (λh=>id0 0 (by omega) (h▸hi))
    obtain⟨r2,H3,⟨b1,b2,b3,b4,b5⟩,b6⟩:=KN (k:=105) hw1 a2 (by omega) (oc:=1) (c:=[I size]) (by rw[keep0 1 _ (by omega)];exact c1) (id0 1 (by omega)) (iJ size l λx hx=>by have:=hno x hx;omega)
    have hfe:(l.filter λx=>!decide (size≤x.no*8))=l.filter λx=>decide (x.no*8<size):=List.filter_congr λx _=>by
     by_cases c:size≤x.no*8
     ·simp[c,show ¬x.no*8<size by omega]
     ·simp[c,show x.no*8<size by omega]
    rw[hfe]at b2;refine bC_of b6 ?_;simp at b3;have id3:∀j,j<3→j∉AT r2:=λj hj h=>id0 j hj (b5 j h)
    have d0:H3[0]?=some (some (.cells [I size,w])):=by rw[b4 0 (by simp;omega) (id0 0 (by omega))];exact JX (by omega)
    have d1:H3[1]?=some (some (.cells [I size])):=by rw[b4 1 (by simp;omega) (id0 1 (by omega)),keep0 1 _ (by omega)];exact c1
    have d2:H3[2]?=some (some (.cells [I 0,Ad])):=by rw[b4 2 (by simp;omega) (id0 2 (by omega)),keep0 2 _ (by omega)];exact c2
    have hr2:=AL b1;rw[A8 (n:=1) (off:=1) (xs:=[r2]) (cs:=[I size,w]) (AO hr2) d0 rfl (by simp)];have hfl:(l.filter λx=>decide (x.no*8<size)).length≤l.length:=Ai5 _ _
    have hfm:∀x∈(l.filter λx=>decide (x.no*8<size)),0≤x.no∧x.no<137438953472:=λx hx=>by
     have:=hno x (Ak5.1 hx).1;omega
    have hte:Dq l size=(l.filter λx=>decide (x.no*8<size)).map λx=>E0 x size 1099511627776:=rfl
    generalize (l.filter λx=>decide (x.no*8<size))=F at b2 hfl hfm hte;simp[show 0<H3.length by omega,BF b2];have hsp:MaySpan ⟨size,1099511627776 - size⟩:=by simp only[MaySpan,May];omega
    refine KR (λt x2 x3 x4 x30 x31 H=>∃i:Nat,i+t=F.length∧x2=.ptr 0 0∧x3=.ptr 1 0∧x4=.ptr 2 0∧x30=I F.length∧x31=I i∧H[0]?=some (some (.cells [I size,r2]))∧H[1]?=some (some (.cells [I size]))∧H[2]?=some (some (.cells [I 0,Ad]))∧
     Aa H 9 r2=some (((F.take i).map (λx=>E0 x size 1099511627776)++F.drop i).flatMap As,((F.take i).map (λx=>E0 x size 1099511627776)++F.drop i).length)) ?_ F.length
     ⟨0,by omega,rfl,rfl,rfl,rfl,rfl,JX (by omega),(C2 (by omega)).trans d1,(C2 (by omega)).trans d2,?_⟩
    ·rintro t x2 x3 x4 x30 x31 H R hR ⟨i,hi,rfl,rfl,rfl,rfl,rfl,e0,e1,e2,e3⟩
     unfold HM;have hH0:=(B8.1 e0).1;have hH1:=(B8.1 e1).1;have hH2:=(B8.1 e2).1;rcases Ac9 i F.length with hlt | hge
     ·have hx:=Ea hlt
      generalize F[i]=x at hx;obtain⟨x0,x1⟩:=hfm x (Ac7 hx);obtain⟨p,H',f1,f2,f3,f4,f5⟩:=dY (s:=⟨size,1099511627776 - size⟩) e3 b1 (dA hx) (a:=i) rfl hsp x0 x1;simp only[show size+(1099511627776 - size)=1099511627776 by omega]at f5;rw[map_set (f:=λx=>E0 x size 1099511627776) hx]at f5;simp[hlt,e0,e1,f1,BP (a:=1099511627776) (b:=size) (by omega) (by omega)];refine bC_of f2 ?_;simp[Ax (a:=i) (b:=1) (by omega) (by omega)];refine hR (t - 1) _ _ _ _ _ _ (by omega) ⟨i+1,by omega,rfl,rfl,rfl,rfl,rfl,by rw[f4 0 hH0 (id3 0 (by omega))];exact e0,by rw[f4 1 hH1 (id3 1 (by omega))];exact e1,by rw[f4 2 hH2 (id3 2 (by omega))];exact e2,by rw[f5,Ub,Ub]⟩
     ·have:i=F.length:=by omega
      subst this;simp[e0,Am];rw[A8 (n:=2) (off:=0) (xs:=[I size,r2]) (cs:=[I 0,Ad]) (by simp[hr2]) e2 rfl (by simp)];simp[hH2];rw[Aj0,Am2,Af5,← hte]at e3
      exact ContK.some hw (Ae e3 λi hi=>by
       have h2:3≤i:=Ah4 λh=>id3 i h hi
       rw[C2 (by omega)])
    ·simp only[Aa5,Ab1]
     exact Ae b2 λi hi=>by
      have h2:3≤i:=Ah4 λh=>id3 i h hi
      rw[C2 (by omega)]
 ·have hn:Cg (size0,l) size=none:=if_neg (λh=>h1 h.1)
  simp[h1,AR];exact ContK.none hn
theorem ZC {no pos n:Int}(h:QX pos n)(h0:0≤no)(h1:no<137438953472):(!decide (Within ⟨no*8,8⟩ ⟨pos,n⟩))=!gone pos n no:=by
 have e:Within ⟨no*8,8⟩ ⟨pos,n⟩↔(pos≤no*8∧no*8+8≤pos+n):=by
  rw[bQ];unfold PV MaySpan May;unfold QX at h;simp only;omega
 unfold gone
 by_cases c1:pos≤no*8<;>by_cases c2:no*8+8≤pos+n<;>simp[e,c1,c2]
theorem UM {size:Int}{l:List Ext}{v:AV}(hv:SV As 9 l v)(hl:l.length≤1000000)(pos n:Int):
  ∃R,SV As 9 (cL (Io (size,l) pos n)) R∧BPure prog 172 [.agg [I size,v],I pos,I n] (.tup [.agg [I (cS (Io (size,l) pos n)),R],B (Io (size,l) pos n).isSome]):=by
 refine BPure.cont (by simp[A3,noIds,hv.1]) (TG ?_);unfold Q4;simp[DI hv,Am];refine A1 (Fb hv (by omega)) ?_
 by_cases h1:Ck size l
 ·simp[h1]
  refine A1 (Pe pos n) ?_
  by_cases h2:QX pos n
  ·have hw:Io (size,l) pos n=some (size,Kq l pos n):=if_pos ⟨h1,h2⟩
   have h2':=h2;obtain⟨g1,g2,g3,g4⟩:=h2';simp[h2];obtain⟨r,H2,⟨w,rfl,a2,a3,a4,a5⟩,a1⟩:=Qt (size:=size) (hv.2 [some (.cells [I size,v]),some (.cells [I 0,Ad])]) (DI hv) (by omega);refine bC_of a1 ?_;have c0:=a4.cells (o:=0) (x:=some (.cells [I size,v])) rfl;have c2:=a4.cells (o:=1) (x:=some (.cells [I 0,Ad])) rfl;have hl2:=a4.1;simp only[zB]at hl2;have hwo:=AL a2;have id0:∀j,j<2→j∉AT w:=λj hj h=>by have:=a5 j h;simp at this;omega
   have hs0:=Ma h1.2.2;have hno:=λx hx=>(Ri h1.2.2 x hx)
   rw[A8 (n:=2) (off:=0) (x:=.agg [I size,w]) (xs:=[I size,w]) (by simp[hwo]) c0 rfl (by simp)];simp;rw[A8 (n:=2) (off:=0) (x:=.agg [I pos,I n]) (xs:=[I pos,I n]) (cs:=[I 0,I 0]) (by simp) (by rw[Ac8 (by simp)];simp) rfl (by simp)]
   have hset:((H2.set 0 (some (AObj.cells [I size,w])))++[some (AObj.cells [I 0,I 0])]).set H2.length (some (AObj.cells (AN [I 0,I 0] 0 [I pos,I n])))=(H2.set 0 (some (AObj.cells [I size,w])))++[some (AObj.cells [I pos,I n])]:=by
    rw[List.set_append_right _ _ (by simp)];simp
   rw[hset];have g:=Grew.app (H2.set 0 (some (AObj.cells [I size,w]))) [some (.cells [I pos,I n])];have keep0:∀j x,j≠0→(H2.set 0 x)[j]?=H2[j]?:=λj x hj=>C2 (by omega)
   have z0:=g.cells (o:=0) (x:=some (.cells [I size,w])) (JX (by omega));have z1:=g.cells (o:=1) (x:=some (.cells [I 0,Ad])) (by rw[keep0 1 _ (by omega)];exact c2);have z2:(H2.set 0 (some (AObj.cells [I size,w]))++[some (AObj.cells [I pos,I n])])[H2.length]?=some (some (.cells [I pos,I n])):=by rw[Ac8 (by simp)];simp
   have zid:H2.length∉AT w:=λh=>by have:=A2 a3 _ h;omega
   have hlen3:(H2.set 0 (some (AObj.cells [I size,w]))++[some (AObj.cells [I pos,I n])]).length=H2.length+1:=by simp
   have hw1:=g.slice (Ae (H':=H2.set 0 (some (AObj.cells [I size,w]))) a3 λi hi=>keep0 i _ (λh=>id0 0 (by omega) (h▸hi)));generalize hH3:(H2.set 0 (some (AObj.cells [I size,w]))++[some (AObj.cells [I pos,I n])])=H3 at g z0 z1 z2 hw1 hlen3;generalize H2.length=so at z2 zid hlen3 hl2;simp[z0];obtain⟨r2,H4,⟨b1,b2,b3,b4,b5⟩,b6⟩:=KN (k:=203) hw1 a2 (by omega) (oc:=so) (c:=BY ⟨pos,n⟩) z2 zid (gX so ⟨pos,n⟩ l λx hx=>by have:=hno x hx;omega)
   have hfe:(l.filter λx=>!decide (Within ⟨x.no*8,8⟩ ⟨pos,n⟩))=l.filter λx=>!gone pos n x.no:=List.filter_congr λx hx=>by
    have:=hno x hx
    exact ZC h2 (by omega) (by omega)
   rw[hfe]at b2;refine bC_of b6 ?_;have id3:∀j,j<2→j∉AT r2:=λj hj h=>id0 j hj (b5 j h)
   have id4:so∉AT r2:=λh=>zid (b5 so h)
   have d0:H4[0]?=some (some (.cells [I size,w])):=by rw[b4 0 (by omega) (id0 0 (by omega))];exact z0
   have d1:H4[1]?=some (some (.cells [I 0,Ad])):=by rw[b4 1 (by omega) (id0 1 (by omega))];exact z1
   have d2:H4[so]?=some (some (.cells [I pos,I n])):=by rw[b4 so (by omega) zid];exact z2
   have hr2:=AL b1;rw[A8 (n:=1) (off:=1) (xs:=[r2]) (cs:=[I size,w]) (AO hr2) d0 rfl (by simp)];have hfl:(l.filter λx=>!gone pos n x.no).length≤l.length:=Ai5 _ _
   have hfm:∀x∈(l.filter λx=>!gone pos n x.no),0≤x.no∧x.no<137438953472:=λx hx=>by
    have:=hno x (Ak5.1 hx).1;omega
   have hte:Kq l pos n=(l.filter λx=>!gone pos n x.no).map λx=>E0 x pos (pos+n):=rfl
   generalize (l.filter λx=>!gone pos n x.no)=F at b2 hfl hfm hte;simp[show 0<H4.length by omega,BF b2];have hsp:MaySpan ⟨pos,n⟩:=by simp only[MaySpan,May];omega
   refine Np (λt x3 x6 x8 x32 x33 H=>∃i:Nat,i+t=F.length∧x3=.ptr 0 0∧x6=.ptr 1 0∧x8=.ptr so 0∧x32=I F.length∧x33=I i∧H[0]?=some (some (.cells [I size,r2]))∧H[1]?=some (some (.cells [I 0,Ad]))∧H[so]?=some (some (.cells [I pos,I n]))∧
    Aa H 9 r2=some (((F.take i).map (λx=>E0 x pos (pos+n))++F.drop i).flatMap As,((F.take i).map (λx=>E0 x pos (pos+n))++F.drop i).length)) ?_ F.length
    ⟨0,by omega,rfl,rfl,rfl,rfl,rfl,JX (by omega),(C2 (by omega)).trans d1,(C2 (by omega)).trans d2,?_⟩
   ·rintro t x3 x6 x8 x32 x33 H R hR ⟨i,hi,rfl,rfl,rfl,rfl,rfl,e0,e1,e2,e3⟩
    unfold JN;have hH0:=(B8.1 e0).1;have hH1:=(B8.1 e1).1;have hH2:=(B8.1 e2).1;rcases Ac9 i F.length with hlt | hge
    ·have hx:=Ea hlt
     generalize F[i]=x at hx;obtain⟨x0,x1⟩:=hfm x (Ac7 hx);obtain⟨p,H',f1,f2,f3,f4,f5⟩:=dY (s:=⟨pos,n⟩) e3 b1 (dA hx) (a:=i) rfl hsp x0 x1;rw[map_set (f:=λx=>E0 x pos (pos+n)) hx]at f5;simp[hlt,e0,e2,f1,Am];refine bC_of f2 ?_;simp[Ax (a:=i) (b:=1) (by omega) (by omega)];refine hR (t - 1) _ _ _ _ _ _ (by omega) ⟨i+1,by omega,rfl,rfl,rfl,rfl,rfl,by rw[f4 0 hH0 (id3 0 (by omega))];exact e0,by rw[f4 1 hH1 (id3 1 (by omega))];exact e1,by rw[f4 so hH2 id4];exact e2,by rw[f5,Ub,Ub]⟩
    ·have:i=F.length:=by omega
     subst this;simp[e0,Am];rw[A8 (n:=2) (off:=0) (xs:=[I size,r2]) (cs:=[I 0,Ad]) (by simp[hr2]) e1 rfl (by simp)];simp[hH1];rw[Aj0,Am2,Af5,← hte]at e3
     exact ContK.some hw (Ae e3 λi hi=>by
      have h2:2≤i:=Ah4 λh=>id3 i h hi
      rw[C2 (by omega)])
   ·simp only[Aa5,Ab1]
    exact Ae b2 λi hi=>by
     have h2:2≤i:=Ah4 λh=>id3 i h hi
     rw[C2 (by omega)]
  ·have hn:Io (size,l) pos n=none:=if_neg (λh=>h2 h.2)
   simp[h2,AR];exact ContK.none hn
 ·have hn:Io (size,l) pos n=none:=if_neg (λh=>h1 h.1)
  simp[h1,AR];exact ContK.none hn
def Tu (ns:List Nm)(s t:List UInt8):Prop:=AM Nm.name ns s∧Gz t∧s≠t
instance (ns:List Nm) (s t:List UInt8):Decidable (Tu ns s t):=by unfold Tu;infer_instance
def WT (ns:List Nm)(s t:List UInt8):List Nm:=if Tu ns s t then Jq Ba Nm.name (Fg (CV Ba Nm.name ns s) t) ⟨t,Ff ns s⟩else ns
def WS (ns:List Nm)(dv:List NdV)(s t:List UInt8):List NdV:=if Tu ns s t then Tt (CV Ba Nm.name ns s) dv t else dv
theorem iB {ns:List Nm}{t:List UInt8}(h:BW Ba Nm.name ns):BW Ba Nm.name (Fg ns t):=by
 unfold Fg
 split
 ·exact Ez h
 ·exact h
theorem iA {ns:List Nm}{t:List UInt8}:(Fg ns t).length≤ns.length:=by
 unfold Fg
 split
 ·exact delK_sub.length_le
 ·exact Ac6 _
theorem mL {L oi:Nat}{ns:List Nm}{dv:List NdV}{a b:AV}{H:AH}{s t:List UInt8}(h:ImH L oi ns dv a b H)(hs:BW Ba Nm.name ns)(hd:BW BX NdV.ino dv)(hx:∀x∈ns,AM NdV.ino dv x.ino)(hn:ns.length≤100000)(hm:dv.length≤100000)(ht:t.length≤1000000000):
  ∃r H',xO L oi H (WT ns s t) (WS ns dv s t) r H'∧BCall prog 154 [.ptr oi 0,S (Ay s),S (Ay t)] H r H':=TQ (by
 obtain⟨Ra,Rb,sa,sb,fz⟩:=h.lend;have c0:=h.obj;unfold QP;have b0:∀a b:AV,Am true 2 [a,b] 0=some (.agg [a,b]):=λ_ _=>rfl
 have hno:¬Tu ns s t→xO L oi H (WT ns s t) (WS ns dv s t) (.tup []) H:=λhc=>by
  unfold WT WS;rw[if_neg hc,if_neg hc];exact⟨rfl,a,b,h,FrL.refl _ _ _⟩
 simp[c0,b0];refine bC_of (PCall.lend (FZs.cons fz (FZs.cons (FZ.lit _) FZs.nil)) rfl (QY sa sb hs (by omega) s)).call ?_
 by_cases q1:AM Nm.name ns s
 ·simp[q1]
  refine A1 (NT (s:=t) (by omega)) ?_
  by_cases q2:Gz t
  ·by_cases q3:s=t
   ·simp[q2,Gp,q3]
    rw[← q3]at hno⊢;exact hno λhc=>hc.2.2 rfl
   ·have hc:Tu ns s t:=⟨q1,q2,q3⟩
    unfold WT WS;rw[if_pos hc,if_pos hc];obtain⟨x,hx1,hx2,hx3⟩:=Lk koN hs q1;obtain⟨o,off,cells,u1,u2,u3,u4,u5,-⟩:=Vu Es (by omega) h.sa h.oa hx1;have u51:=u5 1 (by omega);have hpl:=(B8.1 hx1).1;have e1:Ff ns s=x.ino:=by unfold Ff;rw[hx2]
    simp[q2,Gp,q3,c0,b0,u1,u3,u51,Cw,Ax (a:=(CW Ba Nm.name ns s:Nat)) (b:=1) (by omega) (by omega)];obtain⟨r1,H2,⟨d1,d2,d3,d4,d5,d6⟩,d7⟩:=kM h.sa h.oa h.ca hpl (by omega);refine bC_of d7 ?_;have l1:=Nj (c:=Ba) (key:=Nm.name) (k:=s) hpl;obtain⟨H3,e3,n1,n2⟩:=h.newA (ms:=CV Ba Nm.name ns s) (Am8 d3.symm) (λi _ hi=>d4 i hi) (by rw[show(CV Ba Nm.name ns s).length=ns.length - 1 by omega];exact d2) d1 (by rw[show(CV Ba Nm.name ns s).length=ns.length - 1 by omega];exact d6) (λi hi=>.inl (d5▸hi));simp[e3];have hs1:BW Ba Nm.name (CV Ba Nm.name ns s):=Ez hs;obtain⟨r4,H4,⟨rfl,a4,b4,m1,m2⟩,m3⟩:=Zz (s:=t) n1 hs1 hd (λy hy=>hx y (delK_sub.subset hy)) (by omega) hm;refine bC_of m3 ?_;have c4:=m1.obj;obtain⟨Sa,Sb,ta,tb,gz⟩:=m1.lend;have hs2:=iB (t:=t) hs1;have hl2:=iA (ns:=CV Ba Nm.name ns s) (t:=t);simp[c4,b0];refine bC_of (PCall.lend (FZs.cons gz (FZs.cons (FZ.lit _) FZs.nil)) rfl (QY ta tb hs2 (by omega) t)).call ?_;have g5:=Grew.app H4 [some (.cells (Cw ⟨t,x.ino⟩))];have m5:=m1.grew g5;have e5:Cv H4 2 1 (Bg [(.lit (.string ⟨#[]⟩)),(I 0)] 1) [(0,2,.agg (Cw ⟨t,x.ino⟩))]=some (.sl H4.length 0 1 2 (.ex 1),H4++[some (.cells (Cw ⟨t,x.ino⟩))]):=rfl;have e6:FD [(.lit (.string ⟨#[]⟩)),(I 0)] [(0,1,S (Ay t)),(1,1,I x.ino)]=some (.agg (Cw ⟨t,x.ino⟩)):=rfl;simp[c4,e5,e6];obtain⟨r7,H7,⟨k1,k2,k3,k4,k5,k6⟩,k7⟩:=lE (x:=⟨t,x.ino⟩) (oj:=H4.length) m5.sa m5.oa m5.ca (Uf (c:=Ba) (key:=Nm.name) _ t) (by omega) (by simp) (λhh=>by have:=A2 m1.sa _ hh;omega);refine bC_of k7 ?_;have el:=Vj (c:=Ba) (key:=Nm.name) (l:=Fg (CV Ba Nm.name ns s) t) (x:=⟨t,x.ino⟩);obtain⟨H8,e8,p1,p2⟩:=m5.newA (ms:=Jq Ba Nm.name (Fg (CV Ba Nm.name ns s) t) ⟨t,x.ino⟩) k3 k4 (by rw[el];exact k2) k1 (by rw[el];exact k6) k5;simp[e8];rw[e1];have hle:=m1.len;exact⟨rfl,_,_,p1,n2.trans (m2.trans ⟨Ae1 g5.1 p2.1,λj h1 h2=>(p2.2 j h1 h2).trans (g5.2 j (by omega))⟩)⟩
  ·simp[q2]
   exact hno λhc=>q2 hc.2.1
 ·simp[q1]
  exact hno λhc=>q1 hc.1)
def O0 (o:OpM)(d:Nd):Option Gn:=if o.kind=2 then DA (d.size,d.l) o.pos o.b else if o.kind=3 then Cg (d.size,d.l) o.size else if o.kind=4 then Gr (d.size,d.l) o.pos o.size o.keep else if o.kind=5 then Io (d.size,d.l) o.pos o.size else none
def Qq (ds:List Nd)(o:OpM):List Nd:=match ZT Nd.ino ds o.ino with
 | some d=>match O0 o d with
  | some c=>ds.set (CW BX Nd.ino ds o.ino) ⟨d.ino,c.1,c.2⟩
  | none=>ds
 | none=>ds
theorem YA {L oi k q:Nat}{ns:List Nm}{dv:List NdV}{a b R:AV}{H:AH}{x:NdV}{sz:Int}{l:List Ext}(h:ImH L oi ns dv a b H)(hx:dv[k]?=some x)(hR:SV As 9 l R)(hq:H[q]?=some (some (.cells [I sz,R])))(ok:Bool):
  ∃H',ImH L oi ns (if ok=true then dv.set k ⟨⟨x.nd.ino,sz,l⟩,R,hR⟩else dv) a b H'∧FrL L oi H H'∧∀K:AV→AH→Prop,K (.tup []) H'→Cs (.ptr oi 0) (I k) (B ok) (.ptr q 0) H K:=by
 cases ok with
 | false=>
  refine⟨H,h,FrL.refl _ _ _,λK hK=>?_⟩;rw[Jp];unfold Gx;rw[Iw];unfold FG
  simpa using hK
 | true=>
  obtain⟨o,off,cells,u1,u2,u3,u4,u5,u6⟩:=Vu Dw (by omega) h.sb h.ob hx;have oL:=h.ib o u2;have hoo:o≠oi:=λe=>h.noB (e▸u2)
  have hle:=h.len;have o2:=SV.oneA hR;have c0:=h.obj;have hol:=(B8.1 u3).1
  have e1:AR 2 H (.ptr o (off+1)) (.agg [I sz,R])=some (H.set o (some (.cells (AN cells (off+1) [I sz,R])))):=by
   rw[A8 (n:=2) (xs:=[I sz,R]) (by simp[o2]) u3 rfl (by omega)]
  refine⟨H.set o (some (.cells (AN cells (off+1) [I sz,R]))),⟨?_,h.lo,by simp;omega,?_,h.oa,h.ca,h.ia,?_,h.ob,by simpa using h.cb,h.ib,h.ab⟩,⟨by simp,λj h1 h2=>C2 (by omega)⟩,λK hK=>?_⟩
  ·rw[C2 (by omega)];exact c0
  ·exact Ae h.sa λi hi=>C2 (fun (e:o=i)=>h.ab i hi (e▸u2))
  ·have:=u6 ⟨⟨x.nd.ino,sz,l⟩,R,hR⟩ 1 [I sz,R] rfl (by simp)
   simpa using this
  ·rw[Jp];unfold Gx
   rw[Iw];unfold FG;have b0:Am true 2 [I sz,R] 0=some (.agg [I sz,R]):=rfl;simp only[Ag,Ao];have e3:Ar false 1 H (.ptr oi 1)=some b:=by rw[Ak c0];rfl
   have e4:Ar true 2 H (.ptr q 0)=some (.agg [I sz,R]):=by rw[Ak hq];rfl
   show bO (some (AV.ptr oi 0)) _
   simp only[Ab]
   show bO (some (AV.ptr oi 1)) _
   simp only[Ab,e3,e4,u1]
   show bO (some (AV.ptr o (off+1))) _
   simp only[Ab,e1,AC];exact hK
def ChP (L oi:Nat)(H:AH)(ns:List Nm)(ds:List Nd)(r:AV)(H':AH):Prop:=r=.tup []∧∃a b dv,dv.map NdV.nd=ds∧ImH L oi ns dv a b H'∧FrL L oi H H'
abbrev Ai7:=@Option.isSome_some
theorem jW {L oi:Nat}{ns:List Nm}{dv:List NdV}{a b bv:AV}{H:AH}{o:OpM}(h:ImH L oi ns dv a b H)(hs:BW Ba Nm.name ns)(hd:BW BX NdV.ino dv)(hb:SV J9 1 o.b bv)(hm:dv.length≤100000)(hbl:o.b.length≤281474976710656)(hl:∀d∈dv,d.nd.l.length≤1000000)(hk:o.kind=2∨o.kind=3∨o.kind=4∨o.kind=5):
  ∃r H',ChP L oi H ns (Qq (dv.map NdV.nd) o) r H'∧BCall prog 153 [.ptr oi 0,.agg (DG o bv)] H r H':=TL (by
 obtain⟨H1,e1,hp,h1,f1⟩:=mA h o (SV.oneA hb);obtain⟨Ra,Rb,sa,sb,fz⟩:=h1.lend;have c0:=h1.obj;unfold QL;simp only[e1,A0];have b0:Am true 2 [a,b] 0=some (.agg [a,b]):=rfl;simp[hp,c0,b0,DG];refine bC_of (PCall.lend (FZs.cons fz (FZs.cons (FZ.lit _) FZs.nil)) rfl (Vo sa sb hd (by omega) o.ino)).call ?_
 by_cases q1:AM NdV.ino dv o.ino
 ·obtain⟨x,hx1,hx2,hx3⟩:=Lk koI hd q1
  obtain⟨oo,off,cells,u1,u2,u3,u4,u5,u6⟩:=Vu Dw (by omega) h1.sb h1.ob hx1;have hxl:=hl x (Ac7 hx1)
  have rd1:Am true 2 cells (off+1)=some (.agg [I x.nd.size,x.R]):=by
   have e51:=u5 1 (by omega);have e52:=u5 2 (by omega);have l2:off+1+2≤cells.length:=by omega
   have:(cells.drop (off+1)).take 2=[I x.nd.size,x.R]:=by
    rw[Ag9 (by omega),Ag9 (by omega)];rw[Ea (by omega)]at e51 e52;simp[BS]at e51 e52;simp[e51,e52]
   simp[Am,l2,this]
  have o1:=SV.oneA x.h
  have fin:∀(res:Option Gn) (R:AV) (Hc:AH) (sR:SV As 9 (cL res) R),O0 o x.nd=res→ImH L oi ns dv a b Hc→FrL L oi H1 Hc→∀q,Hc[q]?=some (some (.cells [I (cS res),R]))→Cs (.ptr oi 0) (I (CW BX NdV.ino dv o.ino)) (B res.isSome) (.ptr q 0) Hc (ChP L oi H ns (Qq (dv.map NdV.nd) o)):=by
   intro res R Hc sR hr hc fc q hq;obtain⟨H9,w1,w2,w3⟩:=YA hc hx1 sR hq res.isSome;refine w3 _ ⟨rfl,_,_,_,?_,w1,f1.trans (fc.trans w2)⟩;unfold Qq;rw[cI hx2];simp only[hr];cases res with
   | none=>rfl
   | some c=>
    simp only[Ai7,if_true,Am1,Vw];rfl
  simp[q1,c0,u1,u3,rd1]
  obtain⟨H2,e2,hq2,hp2,h2,f2⟩:∃H2,AR 2 (H1++[some (.cells [I 0,Ad])]) (.ptr H1.length 0) (.agg [I x.nd.size,x.R])=some H2∧H2[H1.length]?=some (some (.cells [I x.nd.size,x.R]))∧H2[H.length]?=some (some (.cells (DG o bv)))∧ImH L oi ns dv a b H2∧FrL L oi H1 H2:=by
   have g:=Grew.app H1 [some (.cells [I x.nd.size,x.R])];have hle:=h1.len;exact⟨_,by simp[AR,AN,o1,AO o1],by simp,g.cells hp,h1.grew g,g.1,λj i1 i2=>g.2 j (by omega)⟩
  have hol2:=(B8.1 hq2).1;have hql:L≤H1.length:=h1.len
  have put:∀(sz:Int) (R:AV),oneA R=true→AR 2 H2 (.ptr H1.length 0) (.agg [I sz,R])=some (H2.set H1.length (some (.cells [I sz,R])))∧ImH L oi ns dv a b (H2.set H1.length (some (.cells [I sz,R])))∧FrL L oi H1 (H2.set H1.length (some (.cells [I sz,R])))∧(H2.set H1.length (some (.cells [I sz,R])))[H1.length]?=some (some (.cells [I sz,R])):=by
   intro sz R hR;have hlo:=(B8.1 h1.obj).1;refine⟨?_,⟨?_,h2.lo,by simpa using h2.len,?_,h2.oa,h2.ca,h2.ia,?_,h2.ob,h2.cb,h2.ib,h2.ab⟩,⟨by simpa using f2.1,λj i1 i2=>?_⟩,by simp[hol2]⟩
   ·rw[A8 (n:=2) (off:=0) (xs:=[I sz,R]) (by simp[hR]) hq2 rfl (by simp)];rfl
   ·rw[C2 (by omega)];exact h2.obj
   ·exact Ae h2.sa λi hi=>C2 (by have:=A2 h1.sa i hi;omega)
   ·exact Ae h2.sb λi hi=>C2 (by have:=A2 h1.sb i hi;omega)
   ·rw[C2 (by omega)];exact f2.2 j i1 i2
  have b1:∀(s:Int) (R:AV),Am true 2 [I s,R] 0=some (.agg [I s,R]):=λ_ _=>rfl
  simp[e2,hp2,DG];rcases hk with hk | hk | hk | hk
  ·simp[hk,hq2,b1,hp2,DG]
   obtain⟨R,s1,p1⟩:=UP x.h hxl o.pos hb hbl;refine A1 p1 ?_;obtain⟨t1,t2,t3,t4⟩:=put (cS (DA (x.nd.size,x.nd.l) o.pos o.b)) R (SV.oneA s1);simp[t1];exact fin _ R _ s1 (by unfold O0;rw[if_pos hk]) t2 t3 _ t4
  ·simp[hk,hq2,b1,hp2,DG]
   obtain⟨R,s1,p1⟩:=JR (size0:=x.nd.size) x.h hxl o.size;refine A1 p1 ?_;obtain⟨t1,t2,t3,t4⟩:=put (cS (Cg (x.nd.size,x.nd.l) o.size)) R (SV.oneA s1);simp[t1];exact fin _ R _ s1 (by unfold O0;rw[if_neg (by omega),if_pos hk]) t2 t3 _ t4
  ·simp[hk,hq2,b1,hp2,DG]
   obtain⟨R,s1,p1⟩:=Q2 (size:=x.nd.size) x.h hxl o.pos o.size o.keep;refine A1 p1 ?_;obtain⟨t1,t2,t3,t4⟩:=put (cS (Gr (x.nd.size,x.nd.l) o.pos o.size o.keep)) R (SV.oneA s1);simp[t1];exact fin _ R _ s1 (by unfold O0;rw[if_neg (by omega),if_neg (by omega),if_pos hk]) t2 t3 _ t4
  ·simp[hk,hq2,b1,hp2,DG]
   obtain⟨R,s1,p1⟩:=UM (size:=x.nd.size) x.h hxl o.pos o.size;refine A1 p1 ?_;obtain⟨t1,t2,t3,t4⟩:=put (cS (Io (x.nd.size,x.nd.l) o.pos o.size)) R (SV.oneA s1);simp[t1];exact fin _ R _ s1 (by unfold O0;rw[if_neg (by omega),if_neg (by omega),if_neg (by omega),if_pos hk]) t2 t3 _ t4
 ·simp[q1]
  refine⟨rfl,a,b,dv,?_,h1,f1⟩;unfold Qq;rw[Y2 (λhh=>q1 (N4.1 hh))])
theorem kC {H:AH}{v:AV}{cs:List AV}{n:Nat}(h:Aa H 2 v=some (cs,n))(hn:n≤1000000000):
  ∃r H',(AP r=true∧Aa H' 2 r=some (cs,n)∧Grew H H'∧(∀i∈AT r,H.length≤i)∧Ch r n)∧BCall prog 96 [v] H r H':=FK (by
 unfold DC;rcases LZ h with⟨rfl,rfl,rfl⟩ | hb
 ·have e:VM .eql O7 Ad Ad=some (B true):=rfl
  simp only[e,zC,Ao];exact⟨rfl,h,Grew.refl H,by simp[AT],by simp[Ch]⟩
 ·simp only[hb,zC,Aj]
  have e:Cv H 2 0 (Bg [(.lit (.string ⟨#[]⟩)),(I 0)] 0) []=some (.sl H.length 0 0 2 (.ex 0),H++[some (.cells [])]):=rfl;simp only[e,A0];have g:=Grew.app H [some (.cells [])];have h0:Aa (H++[some (.cells [])]) 2 (.sl H.length 0 0 2 (.ex 0))=some ([],0):=by simp[Aa]
  obtain⟨r,H2,a1,a2,a3,a4,a5,a6⟩:=CL (sz:=2) (bytes:=24) (H:=H++[some (.cells [])]) (v:=.sl H.length 0 0 2 (.ex 0)) (cs:=[]) (n:=0) h0 rfl (AI (g.slice h)) (by omega);have a7:=NU h0 rfl (AI (g.slice h)) (by simp[Ch]) a1;simp only[a1,A0];refine⟨a2,by simpa using a3,⟨by simp at a4;omega,λi hi=>?_⟩,λi hi=>?_,by simpa using a7⟩
  ·rw[a5 i (by simp;omega) (by simp[AT];omega)]
   exact g.2 i hi
  ·rcases a6 i hi with h | h
   ·simp[AT]at h;omega
   ·simp at h;omega)
theorem kA {H:AH}{v:AV}{cs:List AV}{n:Nat}(h:Aa H 3 v=some (cs,n))(hn:n≤1000000000):
  ∃r H',(AP r=true∧Aa H' 3 r=some (cs,n)∧Grew H H'∧(∀i∈AT r,H.length≤i)∧Ch r n)∧BCall prog 97 [v] H r H':=FL (by
 unfold DD;rcases LZ h with⟨rfl,rfl,rfl⟩ | hb
 ·have e:VM .eql O7 Ad Ad=some (B true):=rfl
  simp only[e,zC,Ao];exact⟨rfl,h,Grew.refl H,by simp[AT],by simp[Ch]⟩
 ·simp only[hb,zC,Aj]
  have e:Cv H 3 0 (Bg [(I 0),(I 0),Ad] 0) []=some (.sl H.length 0 0 3 (.ex 0),H++[some (.cells [])]):=rfl;simp only[e,A0];have g:=Grew.app H [some (.cells [])];have h0:Aa (H++[some (.cells [])]) 3 (.sl H.length 0 0 3 (.ex 0))=some ([],0):=by simp[Aa]
  obtain⟨r,H2,a1,a2,a3,a4,a5,a6⟩:=CL (sz:=3) (bytes:=40) (H:=H++[some (.cells [])]) (v:=.sl H.length 0 0 3 (.ex 0)) (cs:=[]) (n:=0) h0 rfl (AI (g.slice h)) (by omega);have a7:=NU h0 rfl (AI (g.slice h)) (by simp[Ch]) a1;simp only[a1,A0];refine⟨a2,by simpa using a3,⟨by simp at a4;omega,λi hi=>?_⟩,λi hi=>?_,by simpa using a7⟩
  ·rw[a5 i (by simp;omega) (by simp[AT];omega)]
   exact g.2 i hi
  ·rcases a6 i hi with h | h
   ·simp[AT]at h;omega
   ·simp at h;omega)
structure OwI (L:Nat)(ns:List Nm)(dv:List NdV)(a b:AV)(H:AH):Prop where
 sa:Aa H 2 a=some (ns.flatMap Cw,ns.length)
 oa:AP a=true
 ca:Ch a ns.length
 ia:∀i∈AT a,L≤i
 sb:Aa H 3 b=some (dv.flatMap BS,dv.length)
 ob:AP b=true
 cb:Ch b dv.length
 ib:∀i∈AT b,L≤i
 ab:∀i∈AT a,i∉AT b
def uX (H:AH)(ns:List Nm)(ds:List Nd)(r:AV)(H':AH):Prop:=∃a b dv,r=.agg [a,b]∧dv.map NdV.nd=ds∧Grew H H'∧OwI H.length ns dv a b H'
theorem ImH.putD {L oi k:Nat}{ns:List Nm}{dv:List NdV}{a b R:AV}{H:AH}{x:NdV}{sz:Int}{l:List Ext}(h:ImH L oi ns dv a b H)(hx:dv[k]?=some x)(hR:SV As 9 l R):
  ∃o off cells H',Bh 3 b (I k)=some (.ptr o off)∧H[o]?=some (some (.cells cells))∧Am true 2 cells (off+1)=some (.agg [I x.nd.size,x.R])∧AR 2 H (.ptr o (off+1)) (.agg [I sz,R])=some H'∧ImH L oi ns (dv.set k ⟨⟨x.nd.ino,sz,l⟩,R,hR⟩) a b H'∧FrL L oi H H':=by
 obtain⟨o,off,cells,u1,u2,u3,u4,u5,u6⟩:=Vu Dw (by omega) h.sb h.ob hx;have oL:=h.ib o u2;have hoo:o≠oi:=λe=>h.noB (e▸u2)
 have hle:=h.len;have o2:=SV.oneA hR;have hol:=(B8.1 u3).1
 have rd1:Am true 2 cells (off+1)=some (.agg [I x.nd.size,x.R]):=by
  have e51:=u5 1 (by omega);have e52:=u5 2 (by omega);have l2:off+1+2≤cells.length:=by omega
  have:(cells.drop (off+1)).take 2=[I x.nd.size,x.R]:=by
   rw[Ag9 (by omega),Ag9 (by omega)];rw[Ea (by omega)]at e51 e52;simp[BS]at e51 e52;simp[e51,e52]
  simp[Am,l2,this]
 refine⟨o,off,cells,H.set o (some (.cells (AN cells (off+1) [I sz,R]))),u1,u3,rd1,?_,⟨?_,h.lo,by simp;omega,?_,h.oa,h.ca,h.ia,?_,h.ob,by simpa using h.cb,h.ib,h.ab⟩,⟨by simp,λj h1 h2=>C2 (by omega)⟩⟩
 ·rw[A8 (n:=2) (xs:=[I sz,R]) (by simp[o2]) u3 rfl (by omega)]
 ·rw[C2 (by omega)];exact h.obj
 ·exact Ae h.sa λi hi=>C2 (fun (e:o=i)=>h.ab i hi (e▸u2))
 ·have:=u6 ⟨⟨x.nd.ino,sz,l⟩,R,hR⟩ 1 [I sz,R] rfl (by simp)
  simpa using this
theorem iP {H:AH}{ns:List Nm}{dv:List NdV}{a b:AV}(sa:SV Cw 2 ns a)(sb:SV BS 3 dv b)(hn:ns.length≤100000)(hm:dv.length≤100000)(hl:∀d∈dv,d.nd.l.length≤1000000):
  ∃r H',uX H ns (dv.map NdV.nd) r H'∧BCall prog 43 [.agg [a,b]] H r H':=Wc (by
 unfold Vd;have oa:=SV.oneA sa;have ob:=SV.oneA sb
 obtain⟨H3,e3,c0,c1,g3,l3⟩:∃H3,A9 (H++[some (.cells [a,b])]) (.agg [Ad,Ad])=some (.ptr (H.length+1) 0,H3)∧H3[H.length]?=some (some (.cells [a,b]))∧H3[H.length+1]?=some (some (.cells [Ad,Ad]))∧Grew H H3∧H3.length=H.length+2:=by
  refine⟨H++[some (.cells [a,b]),some (.cells [Ad,Ad])],by simp,by simp,by rw[Ac8 (by omega)];simp,Grew.app _ _,by simp⟩
 simp[oa,ob,e3,c0];obtain⟨ra,H7,⟨p1,p2,p3,p4,p5⟩,p6⟩:=kC (sa.2 H3) (by omega);refine bC_of p6 ?_;have c7:=p3.cells c0;simp[c7];obtain⟨rb,H11,⟨q1,q2,q3,q4,q5⟩,q6⟩:=kA (sb.2 H7) (by omega);refine bC_of q6 ?_;have c8:=q3.cells c7;have ra1:=AL p1;have rb1:=AL q1;have l7:=p3.1;have l11:=q3.1
 have i0:ImH (H.length+2) H.length ns dv ra rb (H11.set H.length (some (.cells [ra,rb]))):=by
  refine⟨by rw[JX (by omega)],⟨λq=>by have:=p4 _ q;omega,λq=>by have:=q4 _ q;omega⟩,by rw[Ae5];omega,?_,p1,p5,λi hi=>by have:=p4 i hi;omega,?_,q1,q5,λi hi=>by have:=q4 i hi;omega,λi hi hh=>?_⟩
  ·exact Ae (q3.slice p2) λi hi=>C2 (by have:=p4 i hi;omega)
  ·exact Ae q2 λi hi=>C2 (by have:=q4 i hi;omega)
  ·have:=q4 i hh;have:=A2 p2 i hi;omega
 have e13:AR 2 H11 (.ptr H.length 0) (.agg [ra,rb])=some (H11.set H.length (some (.cells [ra,rb]))):=by
  rw[A8 (n:=2) (off:=0) (xs:=[ra,rb]) (by simp[ra1,rb1]) c8 rfl (by simp)];rfl
 have g13:Grew H (H11.set H.length (some (.cells [ra,rb]))):=⟨by simp;omega,λi hi=>by rw[C2 (by omega),(g3.trans (p3.trans q3)).2 i hi]⟩
 have c13:(H11.set H.length (some (.cells [ra,rb])))[H.length+1]?=some (some (.cells [Ad,Ad])):=by
  rw[C2 (by omega)];exact q3.cells (p3.cells c1)
 generalize H11.set H.length (some (.cells [ra,rb]))=H13 at i0 e13 g13 c13;have d0:=i0.obj;simp[AO ra1,AO rb1,e13];have ln:=BF i0.sb;simp[d0,ln];refine PF (λn x1 x2 x13 x14 H'=>∃(k:Nat) (ew:List NdV),k+n=dv.length∧x1=.ptr H.length 0∧x2=.ptr (H.length+1) 0∧x13=I dv.length∧x14=I k∧ew.map NdV.nd=dv.map NdV.nd∧ImH (H.length+2) H.length ns ew ra rb H'∧Grew H H'∧H'[H.length+1]?=some (some (.cells [Ad,Ad]))) ?_ dv.length ⟨0,dv,by omega,rfl,rfl,rfl,rfl,rfl,i0,g13,c13⟩;rintro n x1 x2 x13 x14 H' R hR ⟨k,ew,hk,rfl,rfl,rfl,rfl,hew,hi,hg,hc⟩;unfold Mv;have el:ew.length=dv.length:=by have:=congrArg List.length hew;simpa using this
 have e0:=hi.obj;rcases Ac9 k dv.length with h | h
 ·have hx:=Ea (l:=ew) (i:=k) (by omega)
  generalize ew[k]=x at hx
  have hxl:x.nd.l.length≤1000000:=by
   have h1:x.nd∈ew.map NdV.nd:=Ag1 (Ac7 hx);rw[hew]at h1;obtain⟨d,hd,e⟩:=Af4.1 h1;rw[← e];exact hl d hd
  obtain⟨R2,s2,p2⟩:=YC (size:=x.nd.size) x.h (by omega);obtain⟨o,off,cells,H2,w1,w2,w3,w4,w5,w6⟩:=hi.putD (sz:=x.nd.size) hx s2;simp[h,e0,w1,w2,w3];refine bP_of p2 ?_;simp[w4,Ax (a:=k) (b:=1) (by omega) (by omega)];refine hR (n - 1) _ _ _ _ _ (by omega) ⟨k+1,_,by omega,rfl,rfl,rfl,by simp,?_,w5,⟨by have:=hg.1;have:=w6.1;omega,λi hi2=>by rw[w6.2 i (by omega) (by omega),hg.2 i hi2]⟩,by rw[w6.2 _ (by omega) (by omega)];exact hc⟩;rw[← hew,Am1];refine Ae8 λj=>?_
  rw[Ag8]
  split
  ·rename_i hj
   subst hj;rw[Af3,hx]
   simp;omega
  ·rfl
 ·have b0:Am true 2 [ra,rb] 0=some (.agg [ra,rb]):=rfl
  have hcl:=(B8.1 hc).1
  have e5:AR 2 H' (.ptr (H.length+1) 0) (.agg [ra,rb])=some (H'.set (H.length+1) (some (.cells [ra,rb]))):=by
   rw[A8 (n:=2) (off:=0) (xs:=[ra,rb]) (by simp[ra1,rb1]) hc rfl (by simp)];rfl
  simp[show ¬k<dv.length by omega,e0,b0,e5,hcl];refine⟨ra,rb,ew,rfl,hew,⟨by simpa using hg.1,λi hi2=>by rw[C2 (by omega),hg.2 i hi2]⟩,⟨?_,hi.oa,hi.ca,λi q=>by have:=hi.ia i q;omega,?_,hi.ob,hi.cb,λi q=>by have:=hi.ib i q;omega,hi.ab⟩⟩
  ·exact Ae hi.sa λi q=>C2 (by have:=hi.ia i q;omega)
  ·exact Ae hi.sb λi q=>C2 (by have:=hi.ib i q;omega))
def fK (ns:List Nm)(ds:List Nd)(o:OpM):Prop:=¬AM Nm.name ns o.name∧¬AM Nd.ino ds o.ino∧Gz o.name∧1≤o.ino∧o.ino≤4611686018427387904∧ns.length<16
instance (ns:List Nm) (ds:List Nd) (o:OpM):Decidable (fK ns ds o):=by unfold fK;infer_instance
def Vz (ns:List Nm)(ds:List Nd)(s:List UInt8):List Nd:=if AM Nm.name ns s then CV BX Nd.ino ds (Ff ns s)else ds
def B5 (ns:List Nm)(ds:List Nd)(o:OpM):List Nm×List Nd:=
 if Ko ns ds then
  if o.kind=1 then(if fK ns ds o then(Jq Ba Nm.name ns ⟨o.name,o.ino⟩,Jq BX Nd.ino ds ⟨o.ino,0,[]⟩)else(ns,ds))
  else if o.kind=2∨o.kind=3∨o.kind=4∨o.kind=5 then(ns,Qq ds o)
  else if o.kind=6 then(if Tu ns o.name o.to then(Jq Ba Nm.name (Fg (CV Ba Nm.name ns o.name) o.to) ⟨o.to,Ff ns o.name⟩,Vz (CV Ba Nm.name ns o.name) ds o.to)else(ns,ds))
  else if o.kind=7 then(Fg ns o.name,Vz ns ds o.name)
  else(ns,ds)
 else(ns,ds)
abbrev Ao9:=@List.map_drop
theorem lD {dv:List NdV}{i:Int}:(Jq BX NdV.ino dv (Kp i)).map NdV.nd=Jq BX Nd.ino (dv.map NdV.nd) ⟨i,0,[]⟩:=by
 unfold Jq;rw[Vw,Ah7,Aj5,An5,Ao9];rfl
theorem kL {dv:List NdV}{k:Int}:(CV BX NdV.ino dv k).map NdV.nd=CV BX Nd.ino (dv.map NdV.nd) k:=by
 unfold CV;rw[Vw,Ah7,An5,Ao9]
theorem WR {ns:List Nm}{dv:List NdV}{s:List UInt8}:(Tt ns dv s).map NdV.nd=Vz ns (dv.map NdV.nd) s:=by
 unfold Tt Vz
 split
 ·exact kL
 ·rfl
theorem W3 {ns:List Nm}{dv:List NdV}{o:OpM}:fK ns (dv.map NdV.nd) o↔OY ns dv o:=by
 unfold fK OY;rw[N4]
def yA (p:List Nm×List Nd)(r:AV)(X:AH):Prop:=∃R,FZ X r R∧ImV p.1 p.2 R
theorem IL {ns:List Nm}{dv:List NdV}{a b:AV}{H:AH}{p:List Nm×List Nd}(h:ImH 3 0 ns dv a b H)(h2:H[2]?=some (some (.cells [Ad,Ad])))(hp:p=(ns,dv.map NdV.nd)):Di (.ptr 0 0) (.ptr 2 0) H (yA p):=by
 rw[Ka];unfold Hn;have c0:=h.obj;have b0:Am true 2 [a,b] 0=some (.agg [a,b]):=rfl;have ra1:=AL h.oa;have rb1:=AL h.ob;have hcl:=(B8.1 h2).1
 have e5:AR 2 H (.ptr 2 0) (.agg [a,b])=some (H.set 2 (some (.cells [a,b]))):=by
  rw[A8 (n:=2) (off:=0) (xs:=[a,b]) (by simp[ra1,rb1]) h2 rfl (by simp)];rfl
 simp[c0,b0,e5,hcl];have h3:ImH 3 0 ns dv a b (H.set 2 (some (.cells [a,b]))):=⟨by rw[C2 (by omega)];exact c0,h.lo,by simpa using h.len,Ae h.sa λi q=>C2 (by have:=h.ia i q;omega),h.oa,h.ca,h.ia,Ae h.sb λi q=>C2 (by have:=h.ib i q;omega),h.ob,h.cb,h.ib,h.ab⟩;obtain⟨Ra,Rb,sa,sb,fz⟩:=h3.lend;subst hp;exact⟨_,fz,Ra,Rb,dv,rfl,sa,sb,rfl⟩
theorem bU {ns:List Nm}{ds:List Nd}{v bv:AV}{o:OpM}(hv:ImV ns ds v)(hb:Sm ns ds)(hbv:SV J9 1 o.b bv)(hbl:o.b.length≤281474976710656)(hn:o.name.length≤1000000000)(ht:o.to.length≤1000000000):
  ∃R,ImV (B5 ns ds o).1 (B5 ns ds o).2 R∧BPure prog 82 [v,.agg (DG o bv)] R:=by
 have hids:=hv.noIds;refine BPure.FZ (by simp[A3]at hids⊢;exact⟨hids,by simp[DG,noIds,A3,hbv.1]⟩) (Vc (K:=yA (B5 ns ds o)) ?_);obtain⟨a,b,dv,rfl,sa,sb,rfl⟩:=hv;have b1:=hb.1;have b2:=hb.2.1;rw[Af2]at b2;have oa:=SV.oneA sa;have ob:=SV.oneA sb;have o3:=SV.oneA hbv;unfold Th;obtain⟨H5,e5,c0,c1,c2,l5⟩:∃H5,A9 [some (.cells [a,b]),some (.cells (DG o bv))] (.agg [Ad,Ad])=some (.ptr 2 0,H5)∧H5[0]?=some (some (.cells [a,b]))∧H5[1]?=some (some (.cells (DG o bv)))∧H5[2]?=some (some (.cells [Ad,Ad]))∧H5.length=3:=
  ⟨[some (.cells [a,b]),some (.cells (DG o bv)),some (.cells [Ad,Ad])],by simp,rfl,rfl,rfl,rfl⟩
 have e4:A9 [some (.cells [a,b])] (.agg (DG o bv))=some (.ptr 1 0,[some (.cells [a,b]),some (.cells (DG o bv))]):=by simp[DG,o3]
 have b0:∀x y:AV,Am true 2 [x,y] 0=some (.agg [x,y]):=λ_ _=>rfl
 simp[oa,ob,e4,e5,c0,b0];obtain⟨r,H8,⟨a',b',ew,rfl,hew,hg,ow⟩,hc⟩:=iP (H:=H5) sa sb (by omega) b2 (λd hd=>hb.2.2.2 d.nd (Ag1 hd));refine bC_of hc ?_;have a1:=AL ow.oa;have a2:=AL ow.ob;have l8:=hg.1;rw[l5]at ow
 have e9:AR 2 H8 (.ptr 0 0) (.agg [a',b'])=some (H8.set 0 (some (.cells [a',b']))):=by
  rw[A8 (n:=2) (off:=0) (xs:=[a',b']) (by simp[a1,a2]) (hg.cells c0) rfl (by simp)];rfl
 have i9:ImH 3 0 ns ew a' b' (H8.set 0 (some (.cells [a',b']))):=⟨by rw[JX (by omega)],⟨λq=>by have:=ow.ia _ q;omega,λq=>by have:=ow.ib _ q;omega⟩,by rw[Ae5];omega,Ae ow.sa λi q=>C2 (by have:=ow.ia i q;omega),ow.oa,ow.ca,ow.ia,Ae ow.sb λi q=>C2 (by have:=ow.ib i q;omega),ow.ob,ow.cb,ow.ib,ow.ab⟩;have k1:(H8.set 0 (some (.cells [a',b'])))[1]?=some (some (.cells (DG o bv))):=by rw[C2 (by omega)];exact hg.cells c1
 have k2:(H8.set 0 (some (.cells [a',b'])))[2]?=some (some (.cells [Ad,Ad])):=by rw[C2 (by omega)];exact hg.cells c2
 simp only[e9,AC];generalize H8.set 0 (some (.cells [a',b']))=H9 at i9 k1 k2;have d0:=i9.obj;obtain⟨Ra,Rb,ta,tb,fz⟩:=i9.lend;have hsm:Sm ns (ew.map NdV.nd):=by rw[hew];exact hb
 have keep:∀{H':AH},FrL 3 0 H9 H'→H'[2]?=some (some (.cells [Ad,Ad])):=λf=>by rw[f.2 2 (by omega) (by omega)];exact k2
 rw[← hew];have b8:Am true 8 (DG o bv) 0=some (.agg (DG o bv)):=rfl;have el:ew.length=dv.length:=by have:=congrArg List.length hew;simpa using this
 have hlw:∀d∈ew,d.nd.l.length≤1000000:=λd hd=>hsm.2.2.2 d.nd (Ag1 hd)
 simp[d0,b0];refine bP_of (PCall.lend (FZs.cons fz FZs.nil) rfl (Yi ⟨Ra,Rb,ew,rfl,ta,tb,rfl⟩ hsm)) ?_
 by_cases hm:Ko ns (ew.map NdV.nd)
 ·have hs:=hm.1.2.2.1
  have hd:=V8.1 hm.2.2.1;have hx:∀x∈ns,AM NdV.ino ew x.ino:=λx hx=>N4.1 ((Zd.1 hm).2.2.2.2.1 x hx)
  simp[hm,k1,DG]
  by_cases q1:o.kind=1
  ·have e:B5 ns (ew.map NdV.nd) o=(YL ns ew o,(YK ns ew o).map NdV.nd):=by
    unfold B5 YL YK;rw[if_pos hm,if_pos q1]
    by_cases hc:OY ns ew o
    ·rw[if_pos hc,if_pos hc,if_pos (W3.2 hc),lD]
    ·rw[if_neg hc,if_neg hc,if_neg (λh=>hc (W3.1 h))]
   rw[decide_eq_true q1];simp only[Ao];obtain⟨r2,H2,⟨rfl,a3,b3,i3,f3⟩,w3⟩:=kJ i9 hs hd o3 b1 (by omega) hn;refine bC_of w3 ?_;exact IL i3 (keep f3) e
  ·have hJ8:∀t:Bool,(t=true↔(o.kind=2∨o.kind=3∨o.kind=4∨o.kind=5))→DM (.ptr 0 0) (.ptr 1 0) (.ptr 2 0) (I o.kind) (B t) H9 (yA (B5 ns (ew.map NdV.nd) o)):=by
    intro t htt;rw[QE];unfold La
    by_cases q2:o.kind=2∨o.kind=3∨o.kind=4∨o.kind=5
    ·rw[htt.2 q2]
     have e:B5 ns (ew.map NdV.nd) o=(ns,Qq (ew.map NdV.nd) o):=by
      unfold B5;rw[if_pos hm,if_neg q1,if_pos q2]
     simp[k1,b8];obtain⟨r2,H2,⟨rfl,a3,b3,dw,hdw,i3,f3⟩,w3⟩:=jW i9 hs hd hbv (by omega) hbl hlw q2;refine bC_of w3 ?_;exact IL i3 (keep f3) (by rw[hdw];exact e)
    ·have:t=false:=by cases t with
      | true=>exact absurd (htt.1 rfl) q2
      | false=>rfl
     subst this;simp;rw[PD];unfold JY
     by_cases q6:o.kind=6
     ·have e:B5 ns (ew.map NdV.nd) o=(WT ns o.name o.to,(WS ns ew o.name o.to).map NdV.nd):=by
       unfold B5 WT WS;rw[if_pos hm,if_neg q1,if_neg q2,if_pos q6]
       by_cases hc:Tu ns o.name o.to
       ·rw[if_pos hc,if_pos hc,if_pos hc,WR]
       ·rw[if_neg hc,if_neg hc,if_neg hc]
      simp[q6,k1,DG];obtain⟨r2,H2,⟨rfl,a3,b3,i3,f3⟩,w3⟩:=mL (s:=o.name) (t:=o.to) i9 hs hd hx b1 (by omega) ht;refine bC_of w3 ?_;exact IL i3 (keep f3) e
     ·simp[q6]
      rw[PE];unfold JZ
      by_cases q7:o.kind=7
      ·have e:B5 ns (ew.map NdV.nd) o=(Fg ns o.name,(Tt ns ew o.name).map NdV.nd):=by
        unfold B5;rw[if_pos hm,if_neg q1,if_neg q2,if_neg q6,if_pos q7,WR]
       simp[q7,k1,DG];obtain⟨r2,H2,⟨rfl,a3,b3,i3,f3⟩,w3⟩:=Zz (s:=o.name) i9 hs hd hx b1 (by omega);refine bC_of w3 ?_;exact IL i3 (keep f3) e
      ·have e:B5 ns (ew.map NdV.nd) o=(ns,ew.map NdV.nd):=by
        unfold B5;rw[if_pos hm,if_neg q1,if_neg q2,if_neg q6,if_neg q7]
       simp[q7];exact IL i9 k2 e
   simp[q1]
   by_cases w2:o.kind=2
   ·simp[w2]
    have:=hJ8 true (by simp[w2]);rwa[w2]at this
   ·by_cases w3:o.kind=3
    ·simp[w3]
     have:=hJ8 true (by simp[w3]);rwa[w3]at this
    ·by_cases w4:o.kind=4
     ·simp[w4]
      have:=hJ8 true (by simp[w4]);rwa[w4]at this
     ·simp[w2,w3,w4]
      exact hJ8 (decide (o.kind=5)) (by simp[w2,w3,w4])
 ·have e:B5 ns (ew.map NdV.nd) o=(ns,ew.map NdV.nd):=by unfold B5;rw[if_neg hm]
  have:=IL i9 k2 e
  rw[Ka]at this;unfold Hn at this;simp[d0,b0]at this;simp[hm];exact this
end
end Go.Proofs.YtbppnhenlboefaaGreat.Av
