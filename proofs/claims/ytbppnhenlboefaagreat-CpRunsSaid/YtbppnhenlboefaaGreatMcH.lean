/- Texts of this proof, one behind the other, packed into one file by a program of this session. No condition. -/
import Derived.Test.YtbppnhenlboefaaGreatMcG
set_option linter.unusedVariables false
set_option linter.unusedSimpArgs false
set_option maxRecDepth 100000
namespace Go.Proofs.YtbppnhenlboefaaGreat.Av
open Go Go.RowKit Go.Proofs.Tryz
section
section
variable {κ α : Type} [DecidableEq κ] {c : κ→κ→Int} {key : α→κ}
end
theorem WN:∀{A B:List Int},A.Nodup→(∀a∈A,a∈B)→B.length≤A.length→∀b∈B,b∈A
 | [],B,_,_,hl,b,hb=>by
  have:B=[]:=List.length_eq_zero_iff.1 (by simpa using hl);rw[this]at hb;exact hb
 | a::A,B,hn,hs,hl,b,hb=>by
  rw[vS]at hn
  by_cases e:b=a
  ·simp[e]
  ·have haB:=hs a (by simp)
   have hl2:(B.erase a).length≤A.length:=by
    rw[List.length_erase_of_mem haB];simp at hl;omega
   have:=WN (A:=A) (B:=B.erase a) hn.2 (λx hx=>(List.mem_erase_of_ne (fun (e2:x=a)=>hn.1 (e2▸hx))).2 (hs x (by simp[hx]))) hl2 b ((List.mem_erase_of_ne e).2 hb)
   simp[this]
def okP (N:List Nd)(ns:List Nm)(ds:List Nd):Prop:=YS ns∧BP BS Nd.ino ds∧(∀x∈ns,AO Nd.ino N x.ino)∧∀d∈ds,E1 d.size d.l
theorem V9 {ns:List Nm}{ds:List Nd}:Io ns ds↔ns.length≤16∧ds.length=ns.length∧okP ds ns ds:=by
 unfold Io NM aO okP
 constructor
 ·rintro⟨⟨h1,h2⟩,h3,h4,h5⟩
  refine⟨h1,h3,h2,h4,?_,λd hd=>(h5 d hd).2⟩
  have hn:(ds.map Nd.ino).Nodup:=by
   rw[List.Nodup,vW];exact h4.imp λh=>by rw[TY]at h;omega
  have:=WN (A:=ds.map Nd.ino) (B:=ns.map Nm.ino) hn (λa ha=>by
   obtain⟨d,hd,rfl⟩:=tZ.1 ha;obtain⟨x,hx,e⟩:=(h5 d hd).1;rw[← e];exact uH hx) (by simp[h3])
  intro x hx;obtain⟨d,hd,e⟩:=tZ.1 (this x.ino (uH hx));exact⟨d,hd,e⟩
 ·rintro⟨h1,h3,h2,h4,h5,h6⟩
  refine⟨⟨h1,h2⟩,h3,h4,λd hd=>⟨?_,h6 d hd⟩⟩
  have:=WN (A:=ns.map Nm.ino) (B:=ds.map Nd.ino) h2.2.2 (λa ha=>by
   obtain⟨x,hx,rfl⟩:=tZ.1 ha;obtain⟨d,hd,e⟩:=h5 x hx;rw[← e];exact uH hd) (by simp[h3])
  obtain⟨x,hx,e⟩:=tZ.1 (this d.ino (uH hd));exact⟨x,hx,e⟩
end
section
def cS (o:Option F9):Int:=(o.getD (0,[])).1
def cL (o:Option F9):List Ext:=(o.getD (0,[])).2
theorem P4 (l:List Ext):Ay (l.flatMap Aw)=true:=Da λx _=>EY x
def ContK (res:Option F9)(r:AV)(X:AH):Prop:=∃w,r=.tup [.agg [I (cS res),w],B res.isSome]∧Aa X 9 w=some ((cL res).flatMap Aw,(cL res).length)
theorem ContK.none {res:Option F9}(h:res=none){X:AH}:ContK res (.tup [.agg [I 0,Ad],B false]) X:=by
 subst h;exact⟨_,rfl,rfl⟩
theorem ContK.some {res:Option F9}{s:Int}{l:List Ext}(h:res=some (s,l)){X:AH}{w:AV}(hw:Aa X 9 w=some (l.flatMap Aw,l.length)):ContK res (.tup [.agg [I s,w],B true]) X:=by
 subst h;exact⟨_,rfl,hw⟩
theorem BPure.cont {P:Program}{f:FuncId}{args:List AV}{res:Option F9}(hb:Ay args=true)(h:∃r X,ContK res r X∧BCall P f args [] r X):
  ∃R,SV Aw 9 (cL res) R∧BPure P f args (.tup [.agg [I (cS res),R],B res.isSome]):=by
 obtain⟨r,X,⟨w,rfl,hw⟩,h⟩:=h;obtain⟨R,hR,fR⟩:=FZ.sv hw (P4 _);obtain⟨R',⟨rfl,_⟩,h2⟩:=BPure.FZ (Q:=λR'=>R'=.tup [.agg [I (cS res),R],B res.isSome]∧True) hb ⟨_,X,⟨_,FZ.tup (FZs.cons (FZ.agg (FZs.cons (FZ.lit _) (FZs.cons fR FZs.nil))) (FZs.cons (FZ.lit _) FZs.nil)),rfl,trivial⟩,h⟩;exact⟨R,hR,h2⟩
theorem ZL {x:Ext}{k:Nat}{bs:List UInt8}(h:k+bs.length≤8):Aw (RL x k bs)=over (Aw x) (1+k) (AY bs):=by
 have e:over (Aw x) (1+k) (AY bs)=I x.no::over (AY x.b) k (AY bs):=by
  unfold over Aw;rw[wR 1 k,xG,show k+1+(AY bs).length=(k+(AY bs).length)+1 by omega,wL];rfl
 rw[e,Y9];unfold Aw;rw[XA,aV h]
theorem fX {H:AH}{w s:AV}{l:List Ext}{bs:List UInt8}{x:Ext}{i k m:Nat}{a b:Int}(hw:Aa H 9 w=some (l.flatMap Aw,l.length))(ho:AM w=true)(hx:l[i]?=some x)(hs:Aa H 1 s=some (AY bs,m))(hk:k+bs.length≤8)(ha:a=i)(hb:b=k):
  ∃p q d H',Bv 9 w (I a)=some p∧Ac 1 p=some q∧Nj 8 1 H q (some (I b)) none=some d∧MK 1 H d s=some (I bs.length,H')∧H'.length=H.length∧(∀j,j∉AP w→H'[j]?=H[j]?)∧Aa H' 9 w=some ((l.set i (RL x k bs)).flatMap Aw,l.length):=by
 subst ha;subst hb;have hi:=(B5.1 hx).1;obtain⟨o,off,cap,cells,rfl,h1,h2,h3⟩:=Gl hw ho (by omega);have hol:=(B5.1 h1).1;have hm:m=bs.length:=by have:=BL hs;rw[C2]at this;omega
 subst hm;have hmul:i*9+9≤l.length*9:=by rw[← uG];exact tE _ hi
 have e1:min bs.length (8 - k)=bs.length:=by omega
 refine⟨.ptr o (off+i*9),.ptr o (off+i*9+1),.sl o (off+i*9+1+k) (8 - k) 1 (.ex (8 - k)),H.set o (some (.cells (over cells (off+(i*9+(1+k))) (AY bs)))),?_,rfl,?_,?_,by simp,λj hj=>Co (by simp[AP]at hj;omega),?_⟩
 ·simp only[Bv,JT]
  rw[if_pos ⟨by omega,by omega⟩];simp
 ·simp[Nj,Bk,h1];omega
 ·unfold MK Ze
  rw[AJ hs];simp only[h1];rw[if_pos ⟨trivial,by omega⟩,e1,vM,sZ (by rw[C2];omega)];simp only[show off+i*9+1+k=off+(i*9+(1+k)) by omega]
 ·rw[AA (c:=over cells (off+(i*9+(1+k))) (AY bs)) (by simp[hol]) (by rw[Fy (by rw[C2];omega)];exact h2)]
  rw[L0 h2 (by rw[C2];omega),← h3,Lz A2 hx (ZL hk) (by rw[C2];omega)]
theorem LW (pos:Int)(n:Nat)(hn:n≤281474976710656):BPure prog 98 [I pos,I n] (B (decide (0≤pos∧n≤4096∧pos≤1099511627776 - n))):=BPure.flat λH=>QQ (by
 unfold Pu
 by_cases h1:0≤pos
 ·by_cases h2:n≤4096
  ·have:(n:Int)≤4096:=by omega
   simp[h1,h2,this,Ci (a:=1099511627776) (b:=n) (by omega) (by omega)]
  ·have:¬(n:Int)≤4096:=by omega
   simp[h1,h2,this]
 ·simp[h1])
abbrev wI:=@List.take_length
theorem QT {size:Int}{l:List Ext}{v bv:AV}{bs:List UInt8}(hv:SV Aw 9 l v)(hl:l.length≤1000000)(pos:Int)(hb:SV QN 1 bs bv)(hbl:bs.length≤281474976710656):
  ∃R,SV Aw 9 (cL (G4 (size,l) pos bs)) R∧BPure prog 188 [.agg [I size,v],I pos,bv] (.tup [.agg [I (cS (G4 (size,l) pos bs)),R],B (G4 (size,l) pos bs).isSome]):=by
 refine BPure.cont (by simp[Ay,noIds,hv.1,hb.1]) (PQ ?_);unfold Nx;simp[GN hv,Am];refine A3 (Ft hv (by omega)) ?_
 by_cases h1:E1 size l
 ·simp[h1,hb.len]
  refine A3 (LW pos bs.length hbl) ?_
  by_cases h2:0≤pos∧bs.length≤4096∧pos≤1099511627776 - bs.length
  ·have hw:G4 (size,l) pos bs=some (if bs=[]then(size,l)else(max size (pos+bs.length),BW l pos bs)):=if_pos ⟨h1,h2⟩
   obtain⟨g1,g2,g3⟩:=h2;simp[g1,g2,g3];obtain⟨r,H2,⟨w,rfl,a2,a3,a4,a5⟩,a1⟩:=Nl (size:=size) (hv.2 [some (.cells [I size,v]),some (.cells [I 0,Ad])]) (GN hv) (by omega);refine bC_of a1 ?_;have c0:=a4.cells (o:=0) (x:=some (.cells [I size,v])) rfl;have c1:=a4.cells (o:=1) (x:=some (.cells [I 0,Ad])) rfl;have hl2:=a4.1;simp only[qZ]at hl2;have hwo:=AK a2;have id0:∀j,j<2→j∉AP w:=λj hj h=>by have:=a5 j h;simp at this;omega
   rw[A6 (n:=2) (off:=0) (x:=.agg [I size,w]) (xs:=[I size,w]) (by simp[hwo]) c0 rfl (by simp)];simp
   by_cases hbs:bs=[]
   ·subst hbs
    simp[show 0<H2.length by omega];rw[A6 (n:=2) (off:=0) (x:=.agg [I size,w]) (xs:=[I size,w]) (cs:=[I 0,Ad]) (by simp[hwo]) (by rw[Co (by omega)];exact c1) rfl (by simp)];simp[show 1<H2.length by omega]
    exact ContK.some hw (Ae a3 λi hi=>by
     have h2:2≤i:=uT λh=>id0 i h hi
     rw[Co (by omega),Co (by omega)])
   ·have hlen:0<bs.length:=List.length_pos_iff.2 hbs
    rw[if_neg hbs]at hw;simp[hbs];obtain⟨pv,hpv,pq⟩:=P7 ⟨pos,bs.length⟩ (unit:=8) (by omega);refine A3 pq ?_;have hP:Fz ⟨pos,bs.length⟩ 8=Ei bs.length pos bs.length 8:=if_pos ⟨by simp only[MaySpan,May];omega,by simp only;omega,by omega⟩;generalize Fz ⟨pos,(bs.length:Int)⟩ 8=parts at hpv hP;simp[hpv.len];have hs0:=NV h1.2.2;refine JX (λn x1 x2 x3 x6 x33 x34 x35 H=>∃(j d:Nat) (w:AV),j+n=parts.length∧x1=I pos∧x2=bv∧x3=.ptr 0 0∧x6=.ptr 1 0∧x33=pv∧x34=I parts.length∧x35=I j∧H[0]?=some (some (.cells [I size,w]))∧H[1]?=some (some (.cells [I 0,Ad]))∧
     Aa H 9 w=some ((BW l pos (bs.take d)).flatMap Aw,(BW l pos (bs.take d)).length)∧AM w=true∧(∀j,j<2→j∉AP w)∧d≤bs.length∧parts.drop j=Ei (bs.length - d) (pos+d) (bs.length - d:Nat) 8∧j≤d) ?_ parts.length
     ⟨0,0,w,by simp,rfl,rfl,rfl,rfl,rfl,rfl,rfl,IJ (by omega),(Co (by omega)).trans c1,?_,a2,id0,by omega,by simpa using hP,by omega⟩
    ·rintro n x1 x2 x3 x6 x33 x34 x35 H R hR ⟨j,d,w,hj,rfl,rfl,rfl,rfl,rfl,rfl,rfl,k0,k1,kw,ko,kid,kd,kp,kj⟩
     unfold Hl
     by_cases hd:d<bs.length
     ·rw[QI (by omega) (by omega) (by omega) (by omega)]at kp
      obtain⟨m,hm⟩:∃m:Nat,(m:Int)=min ((bs.length - d:Nat):Int) (8 - (pos+d) % 8):=⟨(min ((bs.length - d:Nat):Int) (8 - (pos+d) % 8)).toNat,by omega⟩;rw[← hm]at kp
      have hpj:parts[j]?=some ⟨pos+d,m⟩:=by
       have:=congrArg (λq=>q[0]?) kp
       simpa using this
      have hjl:=(B5.1 hpj).1;simp[hjl,hpv.idx SQ hpj rfl,BQ,Am,AU,MQ (a:=pos+d) (b:=8) (by omega) (by omega) (by omega)];have g:=Grew.app H [some (.cells [I (pos+d),I m])];have hlL:=cE (bs:=bs.take d) (l:=l) (p:=pos);have htl:(bs.take d).length=d:=by rw[sX];omega
      have hws:=U8 (bs:=bs.take d) hs0 pos;generalize hL:BW l pos (bs.take d)=L at kw hlL hws;have hH0:=(B5.1 k0).1;have hH1:=(B5.1 k1).1;obtain⟨H11,⟨w',q1,q2,q3,q4,q5,q6,q7⟩,q8⟩:=KE (no:=(pos+d)/8) (g.cells k0) (g.slice kw) ko (kid 0 (by omega)) hws (by omega);refine bC_of q8 ?_;have hid':∀i,i<H.length→i∉AP w→i∉AP w':=λi h1 h2 h3=>(q7 i h3).elim h2 (λh=>by simp at h;omega)
      have z1:H11[1]?=some (some (.cells [I 0,Ad])):=by
       rw[q6 1 (by simp;omega) (by omega) (kid 1 (by omega))];exact g.cells k1
      have z2:H11[H.length]?=some (some (.cells [I (pos+d),I m])):=by
       rw[q6 H.length (by simp) (by omega) (λh=>by have:=Au kw _ h;omega)];simp
      obtain⟨x,hx,hxn⟩:=aI hws ((pos+d)/8);obtain⟨r24,s1,s2,-,-,s3⟩:=Eu (H:=H11) (hb.bytes H11) (lo:=some (I d)) (hi:=none) (l:=d) (k:=bs.length) (by simp[Bk]) rfl kd (sY _);obtain⟨r27,t1,t2,-,-,-⟩:=Eu (H:=H11) s2 (lo:=none) (hi:=some (I m)) (l:=0) (k:=m) rfl (by simp[Bk]) (by omega) (by omega)
      have t3:Aa H11 1 r27=some (AY ((bs.drop d).take m),m):=by
       rw[t2];simp[OB,SP];rw[sZ (l:=bs.drop d) (by simp)]
      have hbl2:((bs.drop d).take m).length=m:=by rw[sX,tC];omega
      obtain⟨p,q,dd,H29,u1,u2,u3,u4,u5,u6,u7⟩:=fX (a:=Em L ((pos+d)/8)) (b:=pos+d - (pos+d)/8*8) (k:=((pos+d) % 8).toNat) q2 q3 hx t3 (by omega) rfl (by omega);rw[hbl2]at u4;simp[q1,z2,u1,u2,HH (a:=(pos+d)/8) (b:=8) (by omega) (by omega),Ci (a:=pos+d) (b:=(pos+d)/8*8) (by omega) (by omega),u3,Ci (a:=pos+d) (b:=pos) (by omega) (by omega),show pos+(d:Int) - pos=d by omega,s1,t1,u4,Az (a:=j) (b:=1) (by omega) (by omega)];rw[fN (Gj hws _) hx,hxn]at u7
      have hnp:S8 (Dj L ((pos+d)/8)) ((pos+d)/8) ((pos+d) % 8).toNat ((bs.drop d).take m)=BW l pos (bs.take (d+m)):=by
       show CZ L (pos+d) _=_
       rw[mE hws (by omega) (λh=>by rw[h]at hbl2;simp at hbl2;omega),← hL,List.take_add,cC,htl]
      rw[hnp]at u7;have hll:(Dj L ((pos+d)/8)).length=(BW l pos (bs.take (d+m))).length:=by rw[← hnp];simp[S8]
      rw[hll]at u7;refine hR (n - 1) _ _ _ _ _ _ _ _ (by omega) ⟨j+1,d+m,w',by omega,rfl,rfl,rfl,rfl,rfl,rfl,rfl,?_,?_,u7,q3,λi hi=>hid' i (by omega) (kid i hi),by omega,?_,by omega⟩
      ·rw[u6 0 (hid' 0 (by omega) (kid 0 (by omega)))];exact q1
      ·rw[u6 1 (hid' 1 (by omega) (kid 1 (by omega)))];exact z1
      ·have:=congrArg List.tail kp
       rw[List.tail_drop]at this;rw[this,List.tail_cons,show pos+(d:Int)+m=pos+((d+m:Nat):Int) by omega,show((bs.length - d:Nat):Int) - m=((bs.length - (d+m):Nat):Int) by omega];rfl
     ·have hd':d=bs.length:=by omega
      subst hd';rw[QJ (by omega)]at kp
      have hjl:¬j<parts.length:=λh=>by
       have:=congrArg List.length kp
       rw[tC]at this;simp at this;omega
      rw[wI]at kw;have hH0:=(B5.1 k0).1;have hH1:=(B5.1 k1).1;have hko:=AK ko;have hmx:max (pos+(bs.length:Int)) size=max size (pos+bs.length):=by omega
      simp[hjl,k0,hb.len,Az (a:=pos) (b:=bs.length) (by omega) (by omega),hmx];rw[A6 (n:=1) (off:=0) (xs:=[I (max size (pos+bs.length))]) (cs:=[I size,w]) rfl k0 rfl (by simp)];simp[hH0,Am];rw[A6 (n:=2) (off:=0) (xs:=[I (max size (pos+bs.length)),w]) (cs:=[I 0,Ad]) (by simp[hko]) ((Co (by omega)).trans k1) rfl (by simp)];simp[hH1]
      exact ContK.some hw (Ae kw λi hi=>by
       have h2:2≤i:=uT λh=>kid i h hi
       rw[Co (by omega),Co (by omega)])
    ·simp only[vF,BW]
     exact Ae a3 λi hi=>by
      have h2:2≤i:=uT λh=>id0 i h hi
      rw[Co (by omega)]
  ·have hn:G4 (size,l) pos bs=none:=if_neg (λh=>h2 h.2)
   have h2':¬(0≤pos∧bs.length≤4096∧pos≤1099511627776 - bs.length):=h2;simp[h2',AU];exact ContK.none hn
 ·have hn:G4 (size,l) pos bs=none:=if_neg (λh=>h1 h.1)
  simp[h1,AU];exact ContK.none hn
theorem pK {H:AH}{w:AV}{l:List Ext}{n k:Nat}{a:Int}{x:Ext}(hw:Aa H 9 w=some (l.flatMap Aw,n))(hx:l[k]?=some x)(ha:a=k):
  ∃p q,Bv 9 w (I a)=some p∧Ac 0 p=some q∧Ar false 1 H q=some (I x.no)∧Ar true 9 H p=some (.agg (Aw x)):=by
 have hk:=(B5.1 hx).1;have hn:n=l.length:=by have h1:=BL hw;have h2:=HX A2 l;omega
 obtain⟨p,c,h1,h2,h3,h4⟩:=Iw hw ha (show k<n by omega);obtain⟨q,h5,h6⟩:=Ya (k:=0) h2
 have hc:c.take 9=Aw x:=by
  rw[h3,CE A2 hx,tJ (by rw[A2];omega),sZ (by rw[A2];omega)]
 refine⟨p,q,h1,h5,?_,?_⟩
 ·rw[Ov h6 (by omega) (by simp;omega),Ai]
  have:=congrArg (λl=>l[0]?) hc
  simp only[uA]at this⊢;rw[List.getElem?_take_of_lt (by omega)]at this;exact this
 ·rw[Ov h2 (by omega) h4,Fa (by omega),uA,hc]
section
variable {κ α : Type} [DecidableEq κ] {c : κ→κ→Int} {key : α→κ}
def YR (key:α→κ)(l:List α)(k:κ):Option α:=l.find? (λx=>decide (key x=k))
abbrev wP:=@List.mem_of_find?_eq_some
theorem Xj {l:List α}{k:κ}(h:AO key l k):∃x,YR key l k=some x∧x∈l∧key x=k:=by
 obtain⟨y,hy,e⟩:=h;unfold YR;cases hf:l.find? (λx=>decide (key x=k))with
 | none=>rw[wT]at hf;have:=hf y hy;simp[e]at this
 | some x=>exact⟨x,rfl,wP hf,by simpa using List.find?_some hf⟩
theorem UZ {l:List α}{k:κ}(h:¬AO key l k):YR key l k=none:=by
 unfold YR;rw[wT];intro x hx;simp only[decide_eq_true_eq];exact λe=>h ⟨x,hx,e⟩
theorem TU (hc:KO c){l:List α}(hs:BP c key l){x:α}(hx:x∈l):YR key l (key x)=some x:=by
 obtain⟨y,h1,h2,h3⟩:=Xj (l:=l) (k:=key x) ⟨x,hx,rfl⟩;rw[h1,Pe hc hs h2 hx h3]
theorem IU (hc:KO c){l:List α}(hs:BP c key l){k:κ}(h:AO key l k):∃x,l[CP c key l k]?=some x∧YR key l k=some x∧key x=k:=by
 obtain⟨x,h1,rfl⟩:=(Hq hc hs).1 h;exact⟨x,h1,TU hc hs (tB h1),rfl⟩
end
theorem RU {l:List NdV}:BP BS Nd.ino (l.map NdV.nd)↔BP BS NdV.ino l:=by
 unfold BP;rw[vW]
theorem KM {l:List NdV}{k:Int}:AO Nd.ino (l.map NdV.nd) k↔AO NdV.ino l k:=by
 constructor
 ·rintro⟨x,hx,e⟩
  obtain⟨y,hy,rfl⟩:=tZ.1 hx;exact⟨y,hy,e⟩
 ·rintro⟨y,hy,e⟩
  exact⟨y.nd,uH hy,e⟩
theorem RK {l:List NdV}{k:Int}:CP BS Nd.ino (l.map NdV.nd) k=CP BS NdV.ino l k:=by
 unfold CP;rw[List.takeWhile_map,uE];rfl
theorem NP {ns:List Nm}{a b:AV}{dv:List NdV}(ha:SV Ca 2 ns a)(hb:SV BH 3 dv b)(hs:BP AW Nm.name ns)(hl:ns.length≤281474976710656)(s:List UInt8):
  BPure prog 51 [.agg [a,b],S (As s)] (.tup [I (CP AW Nm.name ns s),B (decide (AO Nm.name ns s))]):=BPure.val (by simp[Ay,noIds,ha.1,hb.1]) rfl (Rr (by
 unfold P1;have oa:=SV.oneA ha;have ob:=SV.oneA hb;simp[oa,ob];refine A3 (lZ ha hs hl s) ?_
 simp))
theorem RB {ns:List Nm}{a b:AV}{dv:List NdV}(ha:SV Ca 2 ns a)(hb:SV BH 3 dv b)(hs:BP BS NdV.ino dv)(hl:dv.length≤281474976710656)(no:Int):
  BPure prog 41 [.agg [a,b],I no] (.tup [I (CP BS NdV.ino dv no),B (decide (AO NdV.ino dv no))]):=BPure.val (by simp[Ay,noIds,ha.1,hb.1]) rfl (S4 (by
 unfold Ru;have oa:=SV.oneA ha;have ob:=SV.oneA hb;simp[oa,ob];refine A3 (lY hb hs hl no) ?_
 simp))
theorem Z1 {l:List Ext}{v:AV}(hv:SV Aw 9 l v)(hl:l.length≤1000000000):∃R,SV Aw 9 l R∧BPure prog 95 [v] R:=by
 obtain⟨r,X,⟨-,h1,-,-⟩,h2⟩:=Pt (hv.2 []) hl;exact BPure.sl (by simp[Ay,hv.1]) (Da λx _=>EY x) ⟨r,X,h1,h2⟩
theorem Vg {l:List Ext}{v:AV}{size:Int}(hv:SV Aw 9 l v)(hl:l.length≤1000000000):∃R,SV Aw 9 l R∧BPure prog 42 [.agg [I size,v]] (.agg [I size,R]):=by
 obtain⟨R,hR,hc⟩:=Z1 hv hl;refine⟨R,hR,BPure.val (by simp[Ay,noIds,hv.1]) (by simp[noIds,Ay,hR.1]) (PV ?_)⟩;unfold NC;have o1:=SV.oneA hv;have o2:=SV.oneA hR;simp[o1];refine bP_of hc ?_;simp[o2,AL o2,AU,AS,Am]
def Ey (ns:List Nm)(s:List UInt8):Int:=match YR Nm.name ns s with
 | some x=>x.ino
 | none=>0
def Rh (ns:List Nm)(ds:List Nd)(s:List UInt8):Prop:=Io ns ds∧AO Nm.name ns s
instance (ns:List Nm) (ds:List Nd) (s:List UInt8):Decidable (Rh ns ds s):=by unfold Rh;infer_instance
def Rc (ns:List Nm)(ds:List Nd)(s:List UInt8):Int:=if Rh ns ds s then Ey ns s else 0
theorem iJ {ns:List Nm}{ds:List Nd}{v:AV}(hv:ImV ns ds v)(hb:Sm ns ds)(s:List UInt8):BPure prog 20 [v,S (As s)] (.tup [I (Rc ns ds s),B (decide (Rh ns ds s))]):=BPure.val (by have:=hv.noIds;simpa[Ay,noIds]using this) rfl (Sz (by
 have hv0:=hv;obtain⟨a,b,dv,rfl,ha,hbv,rfl⟩:=hv;unfold Rp;have oa:=SV.oneA ha;have ob:=SV.oneA hbv;simp[oa,ob,Am];refine A3 (UE hv0 hb) ?_
 by_cases hm:Io ns (dv.map NdV.nd)
 ·simp[hm,Am]
  refine bC_of (NP ha hbv hm.1.2.2.1 (by have:=hb.1;omega) s _) ?_
  by_cases hh:AO Nm.name ns s
  ·obtain⟨x,h1,h2,h3⟩:=IU koN hm.1.2.2.1 hh
   have e:Rc ns (dv.map NdV.nd) s=x.ino:=by unfold Rc Ey;rw[if_pos ⟨hm,hh⟩,h2]
   have e2:Rh ns (dv.map NdV.nd) s:=⟨hm,hh⟩;simp[hh,ha.idx DL h1 rfl,kN,e,e2]
  ·have e2:¬Rh ns (dv.map NdV.nd) s:=λh=>hh h.2
   have e:Rc ns (dv.map NdV.nd) s=0:=if_neg e2;simp[hh,e,e2]
 ·have e2:¬Rh ns (dv.map NdV.nd) s:=λh=>hm h.1
  have e:Rc ns (dv.map NdV.nd) s=0:=if_neg e2;simp[hm,e,e2]))
end
section
def Sx (ns:List Nm)(ds:List Nd)(no:Int):Prop:=Io ns ds∧AO Nd.ino ds no
instance (ns:List Nm) (ds:List Nd) (no:Int):Decidable (Sx ns ds no):=by unfold Sx;infer_instance
def GJ (ns:List Nm)(ds:List Nd)(no:Int):Nd:=if Sx ns ds no then(YR Nd.ino ds no).getD ⟨0,0,[]⟩else⟨0,0,[]⟩
theorem Xk {dv:List NdV}{no:Int}{x:NdV}(h:YR NdV.ino dv no=some x):YR Nd.ino (dv.map NdV.nd) no=some x.nd:=by
 unfold YR at h⊢;rw[List.find?_map]
 show Option.map NdV.nd (dv.find? λx=>decide (x.nd.ino=no))=_
 rw[show(dv.find? λx=>decide (x.nd.ino=no))=some x from h];rfl
theorem gJ {ns:List Nm}{ds:List Nd}{v:AV}(hv:ImV ns ds v)(hb:Sm ns ds)(no:Int):∃R,SV Aw 9 (GJ ns ds no).l R∧BPure prog 13 [v,I no] (.tup [.agg [I (GJ ns ds no).size,R],B (decide (Sx ns ds no))]):=by
 have hv0:=hv;obtain⟨a,b,dv,rfl,ha,hbv,rfl⟩:=hv;have oa:=SV.oneA ha;have ob:=SV.oneA hbv
 by_cases hh:Sx ns (dv.map NdV.nd) no
 ·have hm:=hh.1
  have hs:=RU.1 hm.2.2.1;have hk:=KM.1 hh.2;obtain⟨x,h1,h2,h3⟩:=IU koI hs hk;have e:GJ ns (dv.map NdV.nd) no=x.nd:=by unfold GJ;rw[if_pos hh,Xk h2];rfl
  rw[e];obtain⟨R,hR,hc⟩:=Vg (size:=x.nd.size) x.h (by have:=hb.2.2.2 x.nd (uH (tB h1));omega);refine⟨R,hR,BPure.val (by have:=hv0.noIds;simpa[Ay,noIds]using this) (by simp[noIds,Ay,hR.1]) (N6 ?_)⟩;unfold OM;simp[oa,ob,Am];refine A3 (UE hv0 hb) ?_;simp[hm,Am];refine bC_of (RB ha hbv hs (by have:=hb.2.1;simp at this;omega) no _) ?_;simp[hk,hbv.idx CX h1 rfl,kM];refine A3 hc ?_;have o2:=SV.oneA hR;simp[o2,AL o2,AU,AS,Am,hh]
 ·have e:GJ ns (dv.map NdV.nd) no=⟨0,0,[]⟩:=if_neg hh
  rw[e];refine⟨Ad,SV.nil,BPure.val (by have:=hv0.noIds;simpa[Ay,noIds]using this) rfl (N6 ?_)⟩;unfold OM;simp[oa,ob,Am];refine A3 (UE hv0 hb) ?_
  by_cases hm:Io ns (dv.map NdV.nd)
  ·have hs:=RU.1 hm.2.2.1
   have hk:¬AO NdV.ino dv no:=λh=>hh ⟨hm,KM.2 h⟩
   simp[hm,Am];refine bC_of (RB ha hbv hs (by have:=hb.2.1;simp at this;omega) no _) ?_;simp[hk,AU,AS,Am,hh]
  ·simp[hm,AU,AS,Am,hh]
def Kd (ds:List Nd):Nat:=(ds.map λd=>d.l.length).sum
def Wd (ns:List Nm)(ds:List Nd):Int:=if Io ns ds then Kd ds else 0
theorem YK {ds:List Nd}{d:Nd}:Kd (ds++[d])=Kd ds+d.l.length:=by simp[Kd]
theorem U4 {N:Nat}:∀{ds:List Nd},(∀d∈ds,d.l.length≤N)→Kd ds≤ds.length*N
 | [],_=>by simp[Kd]
 | d::ds,h=>by
  have ih:=U4 (ds:=ds) λx hx=>h x (by simp[hx])
  have:=h d (by simp)
  unfold Kd at ih⊢;rw[vV,List.sum_cons,tP,uG];omega
theorem YL {ds:List Nd}(h:∀d∈ds,d.l.length≤1000000)(hn:ds.length≤100000)(k:Nat):Kd (ds.take k)≤100000000000:=by
 have h1:=U4 (N:=1000000) (ds:=ds.take k) λd hd=>h d (uM hd)
 have:(ds.take k).length≤100000:=by rw[sX];omega
 have:=tE 1000000 this
 omega
theorem iQ {ns:List Nm}{ds:List Nd}{v:AV}(hv:ImV ns ds v)(hb:Sm ns ds):BPure prog 52 [v] (I (Wd ns ds)):=BPure.val hv.noIds rfl (S3 (by
 have hv0:=hv;obtain⟨a,b,dv,rfl,ha,hbv,rfl⟩:=hv;have oa:=SV.oneA ha;have ob:=SV.oneA hbv;have b2:=hb.2.1;unfold Rq;simp[oa,ob,Am];refine A3 (UE hv0 hb) ?_
 by_cases hm:Io ns (dv.map NdV.nd)
 ·simp[hm,hbv.len]
  have e:Wd ns (dv.map NdV.nd)=Kd (dv.map NdV.nd):=if_pos hm;rw[e];refine M8 (λn x3 x10 x11 x12 H'=>∃k:Nat,k+n=dv.length∧x3=I (Kd ((dv.map NdV.nd).take k))∧x10=b∧x11=I dv.length∧x12=I k) ?_ dv.length ⟨0,by omega,rfl,rfl,rfl,rfl⟩;rintro n x3 x10 x11 x12 H' R hR ⟨k,hk,rfl,rfl,rfl,rfl⟩;unfold JK;rw[uE]at b2;rcases tD k dv.length with h | h
  ·have hx:=E5 h
   generalize dv[k]=d at hx;have hx2:(dv.map NdV.nd)[k]?=some d.nd:=by rw[uJ,hx];rfl
   have h1:=YL hb.2.2.2 (by simpa using b2) k;have h2:=hb.2.2.2 d.nd (tB hx2)
   have ea:AU 3 (H'++[some (.cells [I 0,I 0,Ad])]) (.ptr H'.length 0) (.agg (BH d))=some (H'++[some (.cells (BH d))]):=by
    have:=SV.oneA d.h
    simp[AU,BH,AS,this]
   simp[h,hbv.idx CX hx rfl,XD,ea];simp[BH,d.h.len,Az (a:=k) (b:=1) (by omega) (by omega),Az (a:=(Kd (List.take k (dv.map NdV.nd)):Int)) (b:=d.nd.l.length) (by omega) (by omega)];exact hR (n - 1) _ _ _ _ _ (by omega) ⟨k+1,by omega,by rw[TA hx2,YK];simp,rfl,rfl,by simp⟩
  ·have:(dv.map NdV.nd).take k=dv.map NdV.nd:=sZ (by simp;omega)
   simp[show ¬k<dv.length by omega,this]
 ·have e:Wd ns (dv.map NdV.nd)=0:=if_neg hm
  simp[hm,e]))
def iE (ns:List Nm)(ds:List Nd)(ms:List Nm)(es:List Nd):Prop:=ns=ms∧ds=es
instance (ns:List Nm) (ds:List Nd) (ms:List Nm) (es:List Nd):Decidable (iE ns ds ms es):=by unfold iE;infer_instance
theorem RI {α:Type}{enc:α→List AV}{sz:Nat}(hsz:∀x,(enc x).length=sz)(h0:0<sz){H:AH}{v:AV}{l:List α}{k:Nat}{x:α}(hs:Aa H sz v=some (l.flatMap enc,l.length))(ho:AM v=true)(hx:l[k]?=some x):
  ∃o off cells,Bv sz v (I k)=some (.ptr o off)∧o∈AP v∧H[o]?=some (some (.cells cells))∧off+sz≤cells.length∧(∀j,j<sz→cells[off+j]?=(enc x)[j]?)∧
   ∀y q xs,enc y=over (enc x) q xs→q+xs.length≤sz→Aa (H.set o (some (.cells (AS cells (off+q) xs)))) sz v=some ((l.set k y).flatMap enc,l.length):=by
 have hk:=(B5.1 hx).1;obtain⟨o,off,cap,cells,rfl,h1,h2,h3⟩:=Gl hs ho (by omega);have hol:=(B5.1 h1).1;have hmul:(k+1)*sz≤l.length*sz:=tE _ (by omega);have hms:(k+1)*sz=k*sz+sz:=uG _ _;refine⟨o,off+k*sz,cells,?_,by simp[AP],h1,by omega,λj hj=>?_,λy q xs hy hq=>?_⟩
 ·simp[Bv,JT]
  omega
 ·have e:(l.flatMap enc)[k*sz+j]?=cells[off+k*sz+j]?:=by
   rw[h3,tF,if_pos (by omega),tG];congr 1;omega
  rw[← e];have e2:=FI hsz l k;have e3:(l.flatMap enc)[k*sz+j]?=((l.flatMap enc).drop (k*sz))[j]?:=by rw[tG]
  rw[e3,e2,uP hk,(B5.1 hx).2,tY,sW (by rw[hsz];exact hj)]
 ·have hxs:off+k*sz+q+xs.length≤cells.length:=by omega
  rw[DT _ _ _ hxs]
  show Aa (H.set o (some (.cells (over cells (off+k*sz+q) xs)))) sz _=_
  rw[uO,AA (c:=over cells (off+(k*sz+q)) xs) (by simp[hol]) (by rw[Fy (by omega)];exact h2)];rw[L0 h2 (by omega),← h3,Lz hsz hx hy hq]
theorem fW (w:World):(Go.sizeOf 114).run prog w=.ok 2 w:=Bm (by kernel_rfl)
theorem fV (w:World):(Go.sizeOf 99).run prog w=.ok 3 w:=Bm (by kernel_rfl)
theorem pF {H:AH}{oa offa la ea ka ob offb lb eb kb:Nat}{ca cb:List AV}(ha:H[oa]?=some (some (.cells ca)))(hbo:H[ob]?=some (some (.cells cb)))(hne:oa≠ob)(hka:ka≠0)(hkb:kb≠0)(hcb:cb≠[]):
  ExtR prog 210 [.sl oa offa la ea (.ex ka),.sl ob offb lb eb (.ex kb)] H (B false):=
 ExtR.apart (tS:=37) (tR:=4) (fn:=f210) (by kernel_rfl) (by kernel_rfl) (by kernel_rfl) (by kernel_rfl) (by kernel_rfl) (by kernel_rfl) fW ha hbo hne hka hkb hcb
theorem pE {H:AH}{oa offa la ea ka ob offb lb eb kb:Nat}{ca cb:List AV}(ha:H[oa]?=some (some (.cells ca)))(hbo:H[ob]?=some (some (.cells cb)))(hne:oa≠ob)(hka:ka≠0)(hkb:kb≠0)(hcb:cb≠[]):
  ExtR prog 212 [.sl oa offa la ea (.ex ka),.sl ob offb lb eb (.ex kb)] H (B false):=
 ExtR.apart (tS:=38) (tR:=4) (fn:=f212) (by kernel_rfl) (by kernel_rfl) (by kernel_rfl) (by kernel_rfl) (by kernel_rfl) (by kernel_rfl) fV ha hbo hne hka hkb hcb
def zN:List AV:=[S ⟨#[]⟩,I 0]
def zD:List AV:=[I 0,I 0,Ad]
theorem ZX {H:AH}{s:AV}{l:List Nm}{i oj:Nat}{x:Nm}(hs:Aa H 2 s=some (l.flatMap Ca,l.length))(ho:AM s=true)(hc:BV s l.length)(hi:i≤l.length)(hn:l.length≤1000000)(hv:H[oj]?=some (some (.cells (Ca x))))(hne:oj∉AP s):
  ∃r H',cN 2 H s ((l.take i++x::l.drop i).flatMap Ca) l.length r H'∧BCall prog 186 [s,I i,.sl oj 0 1 2 (.ex 1)] H r H':=by
 have:=ZZ (P:=prog) (sz:=2) (bytes:=24) (zc:=zN) (f:=186) (ov:=210) (rot:=211) (by omega) rfl
  (λa0 a1 a2 H K h=>EI h) hs ho hc hi hn (by omega) hv (DL x) hne (λm=>by simp[Ca,Ct,Ee]) (λh1 h2 h3 h4=>pF hv h1 h2 (by omega) h3 h4)
 rwa[FJ DL,FI DL,tI,show Ca x++(l.drop i).flatMap Ca=(x::l.drop i).flatMap Ca from rfl,← vI]at this
theorem kW {H:AH}{s:AV}{l:List NdV}{i oj:Nat}{x:NdV}(hs:Aa H 3 s=some (l.flatMap BH,l.length))(ho:AM s=true)(hc:BV s l.length)(hi:i≤l.length)(hn:l.length≤1000000)(hv:H[oj]?=some (some (.cells (BH x))))(hne:oj∉AP s):
  ∃r H',cN 3 H s ((l.take i++x::l.drop i).flatMap BH) l.length r H'∧BCall prog 187 [s,I i,.sl oj 0 1 3 (.ex 1)] H r H':=by
 have:=ZZ (P:=prog) (sz:=3) (bytes:=40) (zc:=zD) (f:=187) (ov:=212) (rot:=213) (by omega) rfl
  (λa0 a1 a2 H K h=>EL h) hs ho hc hi hn (by omega) hv (CX x) hne (λm=>D9 (Ic x)) (λh1 h2 h3 h4=>pE hv h1 h2 (by omega) h3 h4)
 rwa[FJ CX,FI CX,tI,show BH x++(l.drop i).flatMap BH=(x::l.drop i).flatMap BH from rfl,← vI]at this
theorem ZJ {H:AH}{s:AV}{l:List Nm}{i:Nat}(hs:Aa H 2 s=some (l.flatMap Ca,l.length))(ho:AM s=true)(hc:BV s l.length)(hi:i<l.length)(hn:l.length≤1000000):
  ∃r H',iI 2 H s ((l.take i++l.drop (i+1)).flatMap Ca) (l.length - 1) r H'∧BCall prog 189 [s,I i,I ((i:Int)+1)] H r H':=by
 obtain⟨m,hm⟩:∃m,l.length=m+1:=⟨l.length - 1,by omega⟩;rw[hm]at hs hc;obtain⟨r,H',h1,h2⟩:=ZK (sz:=2) (bytes:=24) (zc:=zN) (by omega) rfl hs ho hc (show i≤m by omega) (by omega) (by omega);have h2':Dc s (I i) (I ((i:Int)+1)) H λr' H''=>r'=r∧H''=H':=h2
 obtain⟨r2,H2,⟨rfl,rfl⟩,h3⟩:=EC h2';rw[FJ DL,FI DL,← vI]at h1;exact⟨_,_,by rw[hm];exact h1,h3⟩
theorem kJ {H:AH}{s:AV}{l:List NdV}{i:Nat}(hs:Aa H 3 s=some (l.flatMap BH,l.length))(ho:AM s=true)(hc:BV s l.length)(hi:i<l.length)(hn:l.length≤1000000):
  ∃r H',iI 3 H s ((l.take i++l.drop (i+1)).flatMap BH) (l.length - 1) r H'∧BCall prog 190 [s,I i,I ((i:Int)+1)] H r H':=by
 obtain⟨m,hm⟩:∃m,l.length=m+1:=⟨l.length - 1,by omega⟩;rw[hm]at hs hc;obtain⟨r,H',h1,h2⟩:=ZK (sz:=3) (bytes:=40) (zc:=zD) (by omega) rfl hs ho hc (show i≤m by omega) (by omega) (by omega);have h2':Dd s (I i) (I ((i:Int)+1)) H λr' H''=>r'=r∧H''=H':=h2
 obtain⟨r2,H2,⟨rfl,rfl⟩,h3⟩:=ED h2';rw[FJ CX,FI CX,← vI]at h1;exact⟨_,_,by rw[hm];exact h1,h3⟩
structure ImH (L oi:Nat)(ns:List Nm)(dv:List NdV)(a b:AV)(H:AH):Prop where
 obj:H[oi]?=some (some (.cells [a,b]))
 lo:oi∉AP a∧oi∉AP b
 len:L≤H.length
 sa:Aa H 2 a=some (ns.flatMap Ca,ns.length)
 oa:AM a=true
 ca:BV a ns.length
 ia:∀i∈AP a,L≤i
 sb:Aa H 3 b=some (dv.flatMap BH,dv.length)
 ob:AM b=true
 cb:BV b dv.length
 ib:∀i∈AP b,L≤i
 ab:∀i∈AP a,i∉AP b
def FrL (L oi:Nat)(H H':AH):Prop:=H.length≤H'.length∧∀j,j<L→j≠oi→H'[j]?=H[j]?
theorem FrL.refl (L oi:Nat)(H:AH):FrL L oi H H:=⟨sY _,λ_ _ _=>rfl⟩
theorem FrL.trans {L oi:Nat}{A B C:AH}(h:FrL L oi A B)(k:FrL L oi B C):FrL L oi A C:=⟨tL h.1 k.1,λj h1 h2=>(k.2 j h1 h2).trans (h.2 j h1 h2)⟩
theorem ImH.noA {L oi:Nat}{ns:List Nm}{dv:List NdV}{a b:AV}{H:AH}(h:ImH L oi ns dv a b H):oi∉AP a:=h.lo.1
theorem ImH.noB {L oi:Nat}{ns:List Nm}{dv:List NdV}{a b:AV}{H:AH}(h:ImH L oi ns dv a b H):oi∉AP b:=h.lo.2
theorem ImH.lend {L oi:Nat}{ns:List Nm}{dv:List NdV}{a b:AV}{H:AH}(h:ImH L oi ns dv a b H):∃Ra Rb,SV Ca 2 ns Ra∧SV BH 3 dv Rb∧FZ H (.agg [a,b]) (.agg [Ra,Rb]):=by
 obtain⟨Ra,h1,f1⟩:=FZ.sv h.sa (Da λx _=>KY x);obtain⟨Rb,h2,f2⟩:=FZ.sv h.sb (Da λx _=>Ic x);exact⟨Ra,Rb,h1,h2,FZ.agg (FZs.cons f1 (FZs.cons f2 FZs.nil))⟩
theorem ImH.grew {L oi:Nat}{ns:List Nm}{dv:List NdV}{a b:AV}{H H':AH}(h:ImH L oi ns dv a b H)(g:Grew H H'):ImH L oi ns dv a b H':=
 ⟨g.cells h.obj,h.lo,tL h.len g.1,g.slice h.sa,h.oa,h.ca,h.ia,g.slice h.sb,h.ob,h.cb,h.ib,h.ab⟩
theorem ImH.newA {L oi:Nat}{ns ms:List Nm}{dv:List NdV}{a b r:AV}{H H':AH}(h:ImH L oi ns dv a b H)(hl:H.length≤H'.length)(hk:∀i,i<H.length→i∉AP a→H'[i]?=H[i]?)(h1:Aa H' 2 r=some (ms.flatMap Ca,ms.length))(h2:AM r=true)(h3:BV r ms.length)(h4:∀i∈AP r,i∈AP a∨H.length≤i):
  ∃H2,AU 1 H' (.ptr oi 0) r=some H2∧ImH L oi ms dv r b H2∧FrL L oi H H2:=by
 have c0:H'[oi]?=some (some (.cells [a,b])):=by rw[hk oi (B5.1 h.obj).1 h.noA];exact h.obj
 have hr:=AK h2;have hol1:=(B5.1 h.obj).1;have nro:oi∉AP r:=λq=>(h4 oi q).elim h.noA (λq=>by omega)
 have hle:=h.len;have hol:=(B5.1 c0).1;have nr:∀i∈AP r,L≤i:=λi hi=>(h4 i hi).elim (h.ia i) (λq=>by omega)
 refine⟨H'.set oi (some (.cells [r,b])),?_,⟨by simp[hol],⟨nro,h.noB⟩,by simp;omega,?_,h2,h3,nr,?_,h.ob,h.cb,h.ib,λi hi hb=>?_⟩,⟨by simp;omega,λj h5 h6=>?_⟩⟩
 ·rw[A6 (n:=1) (off:=0) (xs:=[r]) (cs:=[a,b]) (AL hr) c0 rfl (by simp)];rfl
 ·exact Ae h1 λi hi=>Co (fun (e:oi=i)=>nro (e▸hi))
 ·refine Ae h.sb λi hi=>?_
  rw[Co (fun (e:oi=i)=>h.noB (e▸hi))];exact hk i (Au h.sb i hi) λq=>h.ab i q hi
 ·rcases h4 i hi with q | q
  ·exact h.ab i q hb
  ·have:=Au h.sb i hb;omega
 ·rw[Co (by omega)]
  exact hk j (by omega) λq=>by have:=h.ia j q;omega
theorem ImH.newB {L oi:Nat}{ns:List Nm}{dv ew:List NdV}{a b r:AV}{H H':AH}(h:ImH L oi ns dv a b H)(hl:H.length≤H'.length)(hk:∀i,i<H.length→i∉AP b→H'[i]?=H[i]?)(h1:Aa H' 3 r=some (ew.flatMap BH,ew.length))(h2:AM r=true)(h3:BV r ew.length)(h4:∀i∈AP r,i∈AP b∨H.length≤i):
  ∃H2,AU 1 H' (.ptr oi 1) r=some H2∧ImH L oi ns ew a r H2∧FrL L oi H H2:=by
 have c0:H'[oi]?=some (some (.cells [a,b])):=by rw[hk oi (B5.1 h.obj).1 h.noB];exact h.obj
 have hr:=AK h2;have hol1:=(B5.1 h.obj).1;have nro:oi∉AP r:=λq=>(h4 oi q).elim h.noB (λq=>by omega)
 have hle:=h.len;have hol:=(B5.1 c0).1;have nr:∀i∈AP r,L≤i:=λi hi=>(h4 i hi).elim (h.ib i) (λq=>by omega)
 refine⟨H'.set oi (some (.cells [a,r])),?_,⟨by simp[hol],⟨h.noA,nro⟩,by simp;omega,?_,h.oa,h.ca,h.ia,?_,h2,h3,nr,λi ha hi=>?_⟩,⟨by simp;omega,λj h5 h6=>?_⟩⟩
 ·rw[A6 (n:=1) (off:=1) (xs:=[r]) (cs:=[a,b]) (AL hr) c0 rfl (by simp)];rfl
 ·refine Ae h.sa λi hi=>?_
  rw[Co (fun (e:oi=i)=>h.noA (e▸hi))];exact hk i (Au h.sa i hi) λq=>h.ab i hi q
 ·exact Ae h1 λi hi=>Co (fun (e:oi=i)=>nro (e▸hi))
 ·rcases h4 i hi with q | q
  ·exact h.ab i ha q
  ·have:=Au h.sa i ha;omega
 ·rw[Co (by omega)]
  exact hk j (by omega) λq=>by have:=h.ib j q;omega
section
variable {P : Program}
def OpIs (P:Program)(ops:List Oper)(T:List AV)(i:Nat)(need:List Nat)(F:(Nat→AV)→AH→(AV→AH→Prop)→Prop):Prop:=
 ∃o,ops[i]?=some o∧o.guard=none∧(∀j∈need,∃e∈o.after,Region.binds .any e=true∧e.on=j)∧∀vals H K,F vals H K→WY P (pt ops vals (λ_=>true) T i) H o K
def WB (o:Oper)(need:List Nat):Bool:=need.all λj=>o.after.toList.any λe=>Region.binds .any e&&Nat.beq e.on j
theorem Tl {o:Oper}{need:List Nat}(h:WB o need=true):∀j∈need,∃e∈o.after,Region.binds .any e=true∧e.on=j:=by
 intro j hj
 have:=tV.1 h j hj
 obtain⟨e,he,hb⟩:=List.any_eq_true.1 this;simp only[tO]at hb;exact⟨e,by simpa using he,hb.1,vB hb.2⟩
theorem OpIs.call {ops:List Oper}{T:List AV}{i:Nat}{need:List Nat}{F:(Nat→AV)→AH→(AV→AH→Prop)→Prop}(o:Oper)(ho:ops[i]?=some o)(hg:o.guard=none)(hn:WB o need=true)(k:FuncId)(args:(Nat→AV)→List AV)(hk:Bs P k=true)
  (hc:∀vals,D4 (AF (pt ops vals (λ_=>true) T i)) o=some (k,args vals)) (hF:∀vals H K,F vals H K→ACalls P k (args vals) H K):OpIs P ops T i need F:=
 ⟨o,ho,hg,Tl hn,λvals H K h=>.inr (.inr ⟨k,args vals,hc vals,hk,hF vals H K h⟩)⟩
def TB (vals:Nat→AV)(i:Nat)(r:AV):Nat→AV:=λj=>if j=i then r else vals j
theorem ACode.told {id:Nat}{ops:List Oper}{Q:AQ}{T:List AV}{H:AH}(hm:P.follows .mixedOrders=true)(hk:IT ops=true)(Inv:AH→(Nat→AV)→(Nat→Bool)→Prop)(v0:Nat→AV)(h0:Inv H v0 (λ_=>false))
  (hs:∀i,i<ops.length→∃need F,OpIs P ops T i need F∧∀(S:Nat→Bool) Hc vals,S i=false→(∀j∈need,S j=true)→Inv Hc vals S→F vals Hc λr H'=>Inv H' (TB vals i r) (Gs S i))
  (last:∀Hc vals S,(∀j,j<ops.length→S j=true)→Inv Hc vals S→Q .normal (pt ops vals (λ_=>true) T ops.length) Hc):ACode P (.region id ops.toArray true) Q T H:=by
 refine ACode.drawn hm hk (Ω:=AH×(Nat→AV)) (λω S=>Inv ω.1 ω.2 S) (λω=>ω.2) (λω _=>ω.1) (H,v0) h0 rfl ?_ (λω S hS hI=>last ω.1 ω.2 S hS hI);intro ω S i o hr hI;obtain⟨ho,hcl,hSi,haft⟩:=hr;obtain⟨need,F,⟨o',ho',hg,hn,hF⟩,hstep⟩:=hs i (B5.1 ho).1;rw[ho]at ho';injection ho' with ho';subst ho';refine⟨true,by unfold BC;rw[hg],λ_=>?_,λh=>by cases h⟩
 have h1:=hF ω.2 ω.1 _ (hstep S ω.1 ω.2 hSi (λj hj=>by
  obtain⟨e,he,hb,rfl⟩:=hn j hj;exact haft e he hb) hI)
 have conv:∀r H',Inv H' (TB ω.2 i r) (Gs S i)→∃ω':AH×(Nat→AV),Inv ω'.1 ω'.2 (Gs S i)∧(∀j,S j=true→ω'.2 j=ω.2 j)∧ω'.2 i=r∧ω'.1=H':=by
  intro r H' h;refine⟨(H',TB ω.2 i r),h,λj hj=>?_,by simp[TB],rfl⟩;have:j≠i:=by rintro rfl;rw[hSi]at hj;cases hj
  simp[TB,this]
 rcases h1 with⟨r,H',h2,h3⟩ | ⟨r,h2,h3⟩ | ⟨k,args,h2,h3,h4⟩
 ·exact .inl ⟨r,H',h2,conv _ _ h3⟩
 ·exact .inr (.inl ⟨r,h2,conv _ _ h3⟩)
 ·exact .inr (.inr ⟨k,args,h2,h3,h4.mono conv⟩)
end
end
section
section
variable {P : Program}
theorem OpIs.opB {ql:FuncId→Bool}{ops:List Oper}{T:List AV}{i:Nat}{need:List Nat}{F:(Nat→AV)→AH→(AV→AH→Prop)→Prop}(o:Oper)(ho:ops[i]?=some o)(hg:o.guard=none)(hn:WB o need=true)(hc:∀ρ,D4 ρ o=none)
  (hF:∀vals H K,F vals H K→EQ P ql Ak false (AF (pt ops vals (λ_=>true) T i)) H o true K):OpIs P ops T i need F:=by
 refine⟨o,ho,hg,Tl hn,λvals H K h=>?_⟩;obtain⟨r,H',h1,h2,-⟩:=Jw (hF vals H K h);rcases h2 with⟨-,h2 | ⟨h2,h3⟩⟩ | ⟨h2,-⟩
 ·have e:To P false (AF (pt ops vals (λ_=>true) T i)) H o=Cl P (AF (pt ops vals (λ_=>true) T i)) H o:=by unfold To;simp
  rw[e]at h2;exact .inl ⟨r,H',h2,h1⟩
 ·exfalso
  unfold Lj at h3;rw[hc]at h3;exact h3
 ·cases h2
theorem ACode.told2 {id:Nat}{ops:List Oper}{Q:AQ}{T:List AV}{H:AH}(hm:P.follows .mixedOrders=true)(hk:IT ops=true)(need:Nat→List Nat)(F:Nat→(Nat→AV)→AH→(AV→AH→Prop)→Prop)(V:Nat→AV)(hp:(Nat→Bool)→AH)
  (ho:∀i,i<ops.length→OpIs P ops T i (need i) (F i)) (h0:hp (λ_=>false)=H)
  (hs:∀i,i<ops.length→∀(S:Nat→Bool) vals,S i=false→(∀a,S a=true→∀b∈need a,S b=true)→(∀j∈need i,S j=true∧vals j=V j)→F i vals (hp S) λr H'=>r=V i∧H'=hp (Gs S i))
  (last:∀(S:Nat→Bool) vals,(∀j,j<ops.length→S j=true∧vals j=V j)→Q .normal (pt ops vals (λ_=>true) T ops.length) (hp S)):ACode P (.region id ops.toArray true) Q T H:=by
 refine ACode.told hm hk (λHc vals S=>Hc=hp S∧(∀j,S j=true→vals j=V j)∧∀a,S a=true→∀b∈need a,S b=true) (λ_=>A0) ⟨h0.symm,by simp,by simp⟩ ?_ ?_
 ·intro i hi
  obtain⟨o,h1,h2,h3,h4⟩:=ho i hi
  -- whatever F tells for one K,it tells for a greater one
  refine⟨need i,λvals Hc K=>∃S,Hc=hp S∧S i=false∧(∀a,S a=true→∀b∈need a,S b=true)∧(∀j∈need i,S j=true∧vals j=V j)∧K (V i) (hp (Gs S i)),⟨o,h1,h2,h3,?_⟩,?_⟩
  ·rintro vals Hc K ⟨S,rfl,hS,hcl,hn,hK⟩
   have:=h4 vals (hp S) _ (hs i hi S vals hS hcl hn)
   rcases this with⟨r,H',a1,rfl,rfl⟩ | ⟨r,a1,rfl,a2⟩ | ⟨k,args,a1,a2,a3⟩
   ·exact .inl ⟨_,_,a1,hK⟩
   ·exact .inr (.inl ⟨_,a1,by rw[a2];exact hK⟩)
   ·exact .inr (.inr ⟨k,args,a1,a2,a3.mono (by rintro r H' ⟨rfl,rfl⟩;exact hK)⟩)
  ·rintro S Hc vals hSi hn ⟨rfl,hv,hcl⟩
   refine⟨S,rfl,hSi,hcl,λj hj=>⟨hn j hj,hv j (hn j hj)⟩,rfl,λj hj=>?_,λa ha b hb=>?_⟩
   ·unfold TB
    by_cases c:j=i
    ·rw[if_pos c,c]
    ·rw[if_neg c]
     unfold Gs at hj;rw[if_neg c]at hj;exact hv j hj
   ·unfold Gs at ha⊢
    by_cases c:b=i
    ·rw[if_pos c]
    ·rw[if_neg c]
     by_cases c2:a=i
     ·subst c2;exact hn b hb
     ·rw[if_neg c2]at ha;exact hcl a ha b hb
 ·rintro Hc vals S hS ⟨rfl,h1,h2⟩
  exact last S vals λj hj=>⟨hS j hj,h1 j (hS j hj)⟩
end
end
section
noncomputable def crNOps:List Oper:=(VI (sub [true,true,true,true,false] (AI f152))).toList
def Ev (x0 x3 x4 x6:AV):List AV:=AR (mk 82 0 [0,3,4,6]) [x0,x3,x4,x6]
theorem Uc:crNOps.length=16:=by kernel_rfl
theorem jX:IT crNOps=true:=by kernel_rfl
theorem jY (x0 x3 x4 x6:AV)(vals:Nat→AV)(H:AH)(K:AV→AH→Prop):EQ prog CQ Ak false (AF (pt crNOps vals (λ_=>true) (Ev x0 x3 x4 x6) 0)) H (crNOps.getD 0 default) true K=gO true (some x0) λv=>K v H:=by kernel_rfl
theorem dZ (x0 x3 x4 x6:AV):OpIs prog crNOps (Ev x0 x3 x4 x6) 0 [] λvals H K=>gO true (some x0) λv=>K v H:=by
 refine OpIs.opB (ql:=CQ) (crNOps.getD 0 default) (by kernel_rfl) (by kernel_rfl) (by kernel_rfl) (λρ=>by kernel_rfl) ?_;intro vals H K h;rw[jY];exact h
theorem jZ (x0 x3 x4 x6:AV)(vals:Nat→AV)(H:AH)(K:AV→AH→Prop):EQ prog CQ Ak false (AF (pt crNOps vals (λ_=>true) (Ev x0 x3 x4 x6) 1)) H (crNOps.getD 1 default) true K=gO true (some x0) λv=>K v H:=by kernel_rfl
theorem eB (x0 x3 x4 x6:AV):OpIs prog crNOps (Ev x0 x3 x4 x6) 1 [] λvals H K=>gO true (some x0) λv=>K v H:=by
 refine OpIs.opB (ql:=CQ) (crNOps.getD 1 default) (by kernel_rfl) (by kernel_rfl) (by kernel_rfl) (λρ=>by kernel_rfl) ?_;intro vals H K h;rw[jZ];exact h
theorem kA (x0 x3 x4 x6:AV)(vals:Nat→AV)(H:AH)(K:AV→AH→Prop):EQ prog CQ Ak false (AF (pt crNOps vals (λ_=>true) (Ev x0 x3 x4 x6) 2)) H (crNOps.getD 2 default) true K=gO true (Af (vals 1)) λv=>K v H:=by kernel_rfl
theorem eC (x0 x3 x4 x6:AV):OpIs prog crNOps (Ev x0 x3 x4 x6) 2 [1] λvals H K=>gO true (Af (vals 1)) λv=>K v H:=by
 refine OpIs.opB (ql:=CQ) (crNOps.getD 2 default) (by kernel_rfl) (by kernel_rfl) (by kernel_rfl) (λρ=>by kernel_rfl) ?_;intro vals H K h;rw[kA];exact h
theorem kB (x0 x3 x4 x6:AV)(vals:Nat→AV)(H:AH)(K:AV→AH→Prop):EQ prog CQ Ak false (AF (pt crNOps vals (λ_=>true) (Ev x0 x3 x4 x6) 3)) H (crNOps.getD 3 default) true K=gO true (Ac 0 (vals 2)) λv=>K v H:=by kernel_rfl
theorem eE (x0 x3 x4 x6:AV):OpIs prog crNOps (Ev x0 x3 x4 x6) 3 [2] λvals H K=>gO true (Ac 0 (vals 2)) λv=>K v H:=by
 refine OpIs.opB (ql:=CQ) (crNOps.getD 3 default) (by kernel_rfl) (by kernel_rfl) (by kernel_rfl) (λρ=>by kernel_rfl) ?_;intro vals H K h;rw[kB];exact h
theorem kC (x0 x3 x4 x6:AV)(vals:Nat→AV)(H:AH)(K:AV→AH→Prop):EQ prog CQ Ak false (AF (pt crNOps vals (λ_=>true) (Ev x0 x3 x4 x6) 4)) H (crNOps.getD 4 default) true K=gO true (Ar false 1 H (vals 3)) λv=>K v H:=by kernel_rfl
theorem eF (x0 x3 x4 x6:AV):OpIs prog crNOps (Ev x0 x3 x4 x6) 4 [3] λvals H K=>gO true (Ar false 1 H (vals 3)) λv=>K v H:=by
 refine OpIs.opB (ql:=CQ) (crNOps.getD 4 default) (by kernel_rfl) (by kernel_rfl) (by kernel_rfl) (λρ=>by kernel_rfl) ?_;intro vals H K h;rw[kC];exact h
theorem kD (x0 x3 x4 x6:AV)(vals:Nat→AV)(H:AH)(K:AV→AH→Prop):EQ prog CQ Ak false (AF (pt crNOps vals (λ_=>true) (Ev x0 x3 x4 x6) 5)) H (crNOps.getD 5 default) true K=gO true (some x4) λv=>K v H:=by kernel_rfl
theorem eG (x0 x3 x4 x6:AV):OpIs prog crNOps (Ev x0 x3 x4 x6) 5 [] λvals H K=>gO true (some x4) λv=>K v H:=by
 refine OpIs.opB (ql:=CQ) (crNOps.getD 5 default) (by kernel_rfl) (by kernel_rfl) (by kernel_rfl) (λρ=>by kernel_rfl) ?_;intro vals H K h;rw[kD];exact h
theorem kE (x0 x3 x4 x6:AV)(vals:Nat→AV)(H:AH)(K:AV→AH→Prop):EQ prog CQ Ak false (AF (pt crNOps vals (λ_=>true) (Ev x0 x3 x4 x6) 6)) H (crNOps.getD 6 default) true K=gO true (Ac 5 x3) λv=>K v H:=by kernel_rfl
theorem eH (x0 x3 x4 x6:AV):OpIs prog crNOps (Ev x0 x3 x4 x6) 6 [] λvals H K=>gO true (Ac 5 x3) λv=>K v H:=by
 refine OpIs.opB (ql:=CQ) (crNOps.getD 6 default) (by kernel_rfl) (by kernel_rfl) (by kernel_rfl) (λρ=>by kernel_rfl) ?_;intro vals H K h;rw[kE];exact h
theorem kF (x0 x3 x4 x6:AV)(vals:Nat→AV)(H:AH)(K:AV→AH→Prop):EQ prog CQ Ak false (AF (pt crNOps vals (λ_=>true) (Ev x0 x3 x4 x6) 7)) H (crNOps.getD 7 default) true K=gO true (Ar false 1 H (vals 6)) λv=>K v H:=by kernel_rfl
theorem eI (x0 x3 x4 x6:AV):OpIs prog crNOps (Ev x0 x3 x4 x6) 7 [6] λvals H K=>gO true (Ar false 1 H (vals 6)) λv=>K v H:=by
 refine OpIs.opB (ql:=CQ) (crNOps.getD 7 default) (by kernel_rfl) (by kernel_rfl) (by kernel_rfl) (λρ=>by kernel_rfl) ?_;intro vals H K h;rw[kF];exact h
theorem kG (x0 x3 x4 x6:AV)(vals:Nat→AV)(H:AH)(K:AV→AH→Prop):EQ prog CQ Ak false (AF (pt crNOps vals (λ_=>true) (Ev x0 x3 x4 x6) 8)) H (crNOps.getD 8 default) true K=gO true (Ac 1 x3) λv=>K v H:=by kernel_rfl
theorem eJ (x0 x3 x4 x6:AV):OpIs prog crNOps (Ev x0 x3 x4 x6) 8 [] λvals H K=>gO true (Ac 1 x3) λv=>K v H:=by
 refine OpIs.opB (ql:=CQ) (crNOps.getD 8 default) (by kernel_rfl) (by kernel_rfl) (by kernel_rfl) (λρ=>by kernel_rfl) ?_;intro vals H K h;rw[kG];exact h
theorem kH (x0 x3 x4 x6:AV)(vals:Nat→AV)(H:AH)(K:AV→AH→Prop):EQ prog CQ Ak false (AF (pt crNOps vals (λ_=>true) (Ev x0 x3 x4 x6) 9)) H (crNOps.getD 9 default) true K=gO true (Ar false 1 H (vals 8)) λv=>K v H:=by kernel_rfl
theorem eL (x0 x3 x4 x6:AV):OpIs prog crNOps (Ev x0 x3 x4 x6) 9 [8] λvals H K=>gO true (Ar false 1 H (vals 8)) λv=>K v H:=by
 refine OpIs.opB (ql:=CQ) (crNOps.getD 9 default) (by kernel_rfl) (by kernel_rfl) (by kernel_rfl) (λρ=>by kernel_rfl) ?_;intro vals H K h;rw[kH];exact h
theorem dU (x0 x3 x4 x6:AV)(vals:Nat→AV)(H:AH)(K:AV→AH→Prop):EQ prog CQ Ak false (AF (pt crNOps vals (λ_=>true) (Ev x0 x3 x4 x6) 10)) H (crNOps.getD 10 default) true K=gO true (EW zN [(0,1,(vals 7)),(1,1,(vals 9))]) λv=>K v H:=by kernel_rfl
theorem ZA (x0 x3 x4 x6:AV):OpIs prog crNOps (Ev x0 x3 x4 x6) 10 [7,9] λvals H K=>gO true (EW zN [(0,1,(vals 7)),(1,1,(vals 9))]) λv=>K v H:=by
 refine OpIs.opB (ql:=CQ) (crNOps.getD 10 default) (by kernel_rfl) (by kernel_rfl) (by kernel_rfl) (λρ=>by kernel_rfl) ?_;intro vals H K h;rw[dU];exact h
theorem dV (x0 x3 x4 x6:AV)(vals:Nat→AV)(H:AH)(K:AV→AH→Prop):EQ prog CQ Ak false (AF (pt crNOps vals (λ_=>true) (Ev x0 x3 x4 x6) 11)) H (crNOps.getD 11 default) true K=gH true (Dh H 2 1 (Bo zN 1) [(0,2,(vals 10))]) H K:=by kernel_rfl
theorem ZB (x0 x3 x4 x6:AV):OpIs prog crNOps (Ev x0 x3 x4 x6) 11 [10] λvals H K=>gH true (Dh H 2 1 (Bo zN 1) [(0,2,(vals 10))]) H K:=by
 refine OpIs.opB (ql:=CQ) (crNOps.getD 11 default) (by kernel_rfl) (by kernel_rfl) (by kernel_rfl) (λρ=>by kernel_rfl) ?_;intro vals H K h;rw[dV];exact h
theorem ZC (x0 x3 x4 x6:AV):OpIs prog crNOps (Ev x0 x3 x4 x6) 12 [4,5,11] λvals H K=>ACalls prog 186 [(vals 4),(vals 5),(vals 11)] H K:=
 OpIs.call (crNOps.getD 12 default) (by kernel_rfl) (by kernel_rfl) (by kernel_rfl) _ (λvals=>[(vals 4),(vals 5),(vals 11)]) (by kernel_rfl) (λvals=>by kernel_rfl) (λvals H K h=>h)
theorem dW (x0 x3 x4 x6:AV)(vals:Nat→AV)(H:AH)(K:AV→AH→Prop):EQ prog CQ Ak false (AF (pt crNOps vals (λ_=>true) (Ev x0 x3 x4 x6) 13)) H (crNOps.getD 13 default) true K=gO true (Af (vals 0)) λv=>K v H:=by kernel_rfl
theorem ZD (x0 x3 x4 x6:AV):OpIs prog crNOps (Ev x0 x3 x4 x6) 13 [0,1,2,3,4,5,6,7,8,9,10,11,12] λvals H K=>gO true (Af (vals 0)) λv=>K v H:=by
 refine OpIs.opB (ql:=CQ) (crNOps.getD 13 default) (by kernel_rfl) (by kernel_rfl) (by kernel_rfl) (λρ=>by kernel_rfl) ?_;intro vals H K h;rw[dW];exact h
theorem dX (x0 x3 x4 x6:AV)(vals:Nat→AV)(H:AH)(K:AV→AH→Prop):EQ prog CQ Ak false (AF (pt crNOps vals (λ_=>true) (Ev x0 x3 x4 x6) 14)) H (crNOps.getD 14 default) true K=gO true (Ac 0 (vals 13)) λv=>K v H:=by kernel_rfl
theorem ZE (x0 x3 x4 x6:AV):OpIs prog crNOps (Ev x0 x3 x4 x6) 14 [0,1,2,3,4,5,6,7,8,9,10,11,12,13] λvals H K=>gO true (Ac 0 (vals 13)) λv=>K v H:=by
 refine OpIs.opB (ql:=CQ) (crNOps.getD 14 default) (by kernel_rfl) (by kernel_rfl) (by kernel_rfl) (λρ=>by kernel_rfl) ?_;intro vals H K h;rw[dX];exact h
theorem dY (x0 x3 x4 x6:AV)(vals:Nat→AV)(H:AH)(K:AV→AH→Prop):EQ prog CQ Ak false (AF (pt crNOps vals (λ_=>true) (Ev x0 x3 x4 x6) 15)) H (crNOps.getD 15 default) true K=gS true (AU 1 H (vals 14) (vals 12)) H λH'=>K A0 H':=by kernel_rfl
theorem ZF (x0 x3 x4 x6:AV):OpIs prog crNOps (Ev x0 x3 x4 x6) 15 [0,1,2,3,4,5,6,7,8,9,10,11,12,14] λvals H K=>gS true (AU 1 H (vals 14) (vals 12)) H λH'=>K A0 H':=by
 refine OpIs.opB (ql:=CQ) (crNOps.getD 15 default) (by kernel_rfl) (by kernel_rfl) (by kernel_rfl) (λρ=>by kernel_rfl) ?_;intro vals H K h;rw[dY];exact h
def crNNeed:List (List Nat):=[[],[],[1],[2],[3],[],[],[6],[],[8],[7,9],[10],[4,5,11],[0,1,2,3,4,5,6,7,8,9,10,11,12],[0,1,2,3,4,5,6,7,8,9,10,11,12,13],[0,1,2,3,4,5,6,7,8,9,10,11,12,14]]
def JV (x0 x3 x4 x6:AV):List ((Nat→AV)→AH→(AV→AH→Prop)→Prop):=[
 λvals H K=>gO true (some x0) λv=>K v H,
 λvals H K=>gO true (some x0) λv=>K v H,
 λvals H K=>gO true (Af (vals 1)) λv=>K v H,
 λvals H K=>gO true (Ac 0 (vals 2)) λv=>K v H,
 λvals H K=>gO true (Ar false 1 H (vals 3)) λv=>K v H,
 λvals H K=>gO true (some x4) λv=>K v H,
 λvals H K=>gO true (Ac 5 x3) λv=>K v H,
 λvals H K=>gO true (Ar false 1 H (vals 6)) λv=>K v H,
 λvals H K=>gO true (Ac 1 x3) λv=>K v H,
 λvals H K=>gO true (Ar false 1 H (vals 8)) λv=>K v H,
 λvals H K=>gO true (EW zN [(0,1,(vals 7)),(1,1,(vals 9))]) λv=>K v H,
 λvals H K=>gH true (Dh H 2 1 (Bo zN 1) [(0,2,(vals 10))]) H K,
 λvals H K=>ACalls prog 186 [(vals 4),(vals 5),(vals 11)] H K,
 λvals H K=>gO true (Af (vals 0)) λv=>K v H,
 λvals H K=>gO true (Ac 0 (vals 13)) λv=>K v H,
 λvals H K=>gS true (AU 1 H (vals 14) (vals 12)) H λH'=>K A0 H']
theorem oC (x0 x3 x4 x6:AV):∀i,i<crNOps.length→OpIs prog crNOps (Ev x0 x3 x4 x6) i (crNNeed.getD i []) ((JV x0 x3 x4 x6).getD i (λ_ _ _=>False)):=by
 intro i hi;rw[Uc]at hi;have:i=0∨i=1∨i=2∨i=3∨i=4∨i=5∨i=6∨i=7∨i=8∨i=9∨i=10∨i=11∨i=12∨i=13∨i=14∨i=15:=by omega
 rcases this with rfl | rfl | rfl | rfl | rfl | rfl | rfl | rfl | rfl | rfl | rfl | rfl | rfl | rfl | rfl | rfl
 ·exact dZ x0 x3 x4 x6
 ·exact eB x0 x3 x4 x6
 ·exact eC x0 x3 x4 x6
 ·exact eE x0 x3 x4 x6
 ·exact eF x0 x3 x4 x6
 ·exact eG x0 x3 x4 x6
 ·exact eH x0 x3 x4 x6
 ·exact eI x0 x3 x4 x6
 ·exact eJ x0 x3 x4 x6
 ·exact eL x0 x3 x4 x6
 ·exact ZA x0 x3 x4 x6
 ·exact ZB x0 x3 x4 x6
 ·exact ZC x0 x3 x4 x6
 ·exact ZD x0 x3 x4 x6
 ·exact ZE x0 x3 x4 x6
 ·exact ZF x0 x3 x4 x6
noncomputable def crDOps:List Oper:=(VI (sub [true,true,true,true,true] (AI f152))).toList
def Fg (x0 x3 x6:AV):List AV:=AR (mk 82 0 [0,3,6]) [x0,x3,x6]
theorem Ub:crDOps.length=14:=by kernel_rfl
theorem jM:IT crDOps=true:=by kernel_rfl
theorem jN (x0 x3 x6:AV)(vals:Nat→AV)(H:AH)(K:AV→AH→Prop):EQ prog CQ Ak false (AF (pt crDOps vals (λ_=>true) (Fg x0 x3 x6) 0)) H (crDOps.getD 0 default) true K=gO true (some x0) λv=>K v H:=by kernel_rfl
theorem dK (x0 x3 x6:AV):OpIs prog crDOps (Fg x0 x3 x6) 0 [] λvals H K=>gO true (some x0) λv=>K v H:=by
 refine OpIs.opB (ql:=CQ) (crDOps.getD 0 default) (by kernel_rfl) (by kernel_rfl) (by kernel_rfl) (λρ=>by kernel_rfl) ?_;intro vals H K h;rw[jN];exact h
theorem jO (x0 x3 x6:AV)(vals:Nat→AV)(H:AH)(K:AV→AH→Prop):EQ prog CQ Ak false (AF (pt crDOps vals (λ_=>true) (Fg x0 x3 x6) 1)) H (crDOps.getD 1 default) true K=gO true (some x0) λv=>K v H:=by kernel_rfl
theorem dL (x0 x3 x6:AV):OpIs prog crDOps (Fg x0 x3 x6) 1 [] λvals H K=>gO true (some x0) λv=>K v H:=by
 refine OpIs.opB (ql:=CQ) (crDOps.getD 1 default) (by kernel_rfl) (by kernel_rfl) (by kernel_rfl) (λρ=>by kernel_rfl) ?_;intro vals H K h;rw[jO];exact h
theorem jP (x0 x3 x6:AV)(vals:Nat→AV)(H:AH)(K:AV→AH→Prop):EQ prog CQ Ak false (AF (pt crDOps vals (λ_=>true) (Fg x0 x3 x6) 2)) H (crDOps.getD 2 default) true K=gO true (Af (vals 1)) λv=>K v H:=by kernel_rfl
theorem dM (x0 x3 x6:AV):OpIs prog crDOps (Fg x0 x3 x6) 2 [1] λvals H K=>gO true (Af (vals 1)) λv=>K v H:=by
 refine OpIs.opB (ql:=CQ) (crDOps.getD 2 default) (by kernel_rfl) (by kernel_rfl) (by kernel_rfl) (λρ=>by kernel_rfl) ?_;intro vals H K h;rw[jP];exact h
theorem jQ (x0 x3 x6:AV)(vals:Nat→AV)(H:AH)(K:AV→AH→Prop):EQ prog CQ Ak false (AF (pt crDOps vals (λ_=>true) (Fg x0 x3 x6) 3)) H (crDOps.getD 3 default) true K=gO true (Ac 1 (vals 2)) λv=>K v H:=by kernel_rfl
theorem dN (x0 x3 x6:AV):OpIs prog crDOps (Fg x0 x3 x6) 3 [2] λvals H K=>gO true (Ac 1 (vals 2)) λv=>K v H:=by
 refine OpIs.opB (ql:=CQ) (crDOps.getD 3 default) (by kernel_rfl) (by kernel_rfl) (by kernel_rfl) (λρ=>by kernel_rfl) ?_;intro vals H K h;rw[jQ];exact h
theorem jR (x0 x3 x6:AV)(vals:Nat→AV)(H:AH)(K:AV→AH→Prop):EQ prog CQ Ak false (AF (pt crDOps vals (λ_=>true) (Fg x0 x3 x6) 4)) H (crDOps.getD 4 default) true K=gO true (Ar false 1 H (vals 3)) λv=>K v H:=by kernel_rfl
theorem dO (x0 x3 x6:AV):OpIs prog crDOps (Fg x0 x3 x6) 4 [3] λvals H K=>gO true (Ar false 1 H (vals 3)) λv=>K v H:=by
 refine OpIs.opB (ql:=CQ) (crDOps.getD 4 default) (by kernel_rfl) (by kernel_rfl) (by kernel_rfl) (λρ=>by kernel_rfl) ?_;intro vals H K h;rw[jR];exact h
theorem jS (x0 x3 x6:AV)(vals:Nat→AV)(H:AH)(K:AV→AH→Prop):EQ prog CQ Ak false (AF (pt crDOps vals (λ_=>true) (Fg x0 x3 x6) 5)) H (crDOps.getD 5 default) true K=gO true (some x6) λv=>K v H:=by kernel_rfl
theorem dP (x0 x3 x6:AV):OpIs prog crDOps (Fg x0 x3 x6) 5 [] λvals H K=>gO true (some x6) λv=>K v H:=by
 refine OpIs.opB (ql:=CQ) (crDOps.getD 5 default) (by kernel_rfl) (by kernel_rfl) (by kernel_rfl) (λρ=>by kernel_rfl) ?_;intro vals H K h;rw[jS];exact h
theorem jT (x0 x3 x6:AV)(vals:Nat→AV)(H:AH)(K:AV→AH→Prop):EQ prog CQ Ak false (AF (pt crDOps vals (λ_=>true) (Fg x0 x3 x6) 6)) H (crDOps.getD 6 default) true K=gO true (Ac 1 x3) λv=>K v H:=by kernel_rfl
theorem dQ (x0 x3 x6:AV):OpIs prog crDOps (Fg x0 x3 x6) 6 [] λvals H K=>gO true (Ac 1 x3) λv=>K v H:=by
 refine OpIs.opB (ql:=CQ) (crDOps.getD 6 default) (by kernel_rfl) (by kernel_rfl) (by kernel_rfl) (λρ=>by kernel_rfl) ?_;intro vals H K h;rw[jT];exact h
theorem jU (x0 x3 x6:AV)(vals:Nat→AV)(H:AH)(K:AV→AH→Prop):EQ prog CQ Ak false (AF (pt crDOps vals (λ_=>true) (Fg x0 x3 x6) 7)) H (crDOps.getD 7 default) true K=gO true (Ar false 1 H (vals 6)) λv=>K v H:=by kernel_rfl
theorem dR (x0 x3 x6:AV):OpIs prog crDOps (Fg x0 x3 x6) 7 [6] λvals H K=>gO true (Ar false 1 H (vals 6)) λv=>K v H:=by
 refine OpIs.opB (ql:=CQ) (crDOps.getD 7 default) (by kernel_rfl) (by kernel_rfl) (by kernel_rfl) (λρ=>by kernel_rfl) ?_;intro vals H K h;rw[jU];exact h
theorem jV (x0 x3 x6:AV)(vals:Nat→AV)(H:AH)(K:AV→AH→Prop):EQ prog CQ Ak false (AF (pt crDOps vals (λ_=>true) (Fg x0 x3 x6) 8)) H (crDOps.getD 8 default) true K=gO true (EW zD [(0,1,(vals 7))]) λv=>K v H:=by kernel_rfl
theorem dS (x0 x3 x6:AV):OpIs prog crDOps (Fg x0 x3 x6) 8 [7] λvals H K=>gO true (EW zD [(0,1,(vals 7))]) λv=>K v H:=by
 refine OpIs.opB (ql:=CQ) (crDOps.getD 8 default) (by kernel_rfl) (by kernel_rfl) (by kernel_rfl) (λρ=>by kernel_rfl) ?_;intro vals H K h;rw[jV];exact h
theorem jW (x0 x3 x6:AV)(vals:Nat→AV)(H:AH)(K:AV→AH→Prop):EQ prog CQ Ak false (AF (pt crDOps vals (λ_=>true) (Fg x0 x3 x6) 9)) H (crDOps.getD 9 default) true K=gH true (Dh H 3 1 (Bo zD 1) [(0,3,(vals 8))]) H K:=by kernel_rfl
theorem dT (x0 x3 x6:AV):OpIs prog crDOps (Fg x0 x3 x6) 9 [8] λvals H K=>gH true (Dh H 3 1 (Bo zD 1) [(0,3,(vals 8))]) H K:=by
 refine OpIs.opB (ql:=CQ) (crDOps.getD 9 default) (by kernel_rfl) (by kernel_rfl) (by kernel_rfl) (λρ=>by kernel_rfl) ?_;intro vals H K h;rw[jW];exact h
theorem Z6 (x0 x3 x6:AV):OpIs prog crDOps (Fg x0 x3 x6) 10 [4,5,9] λvals H K=>ACalls prog 187 [(vals 4),(vals 5),(vals 9)] H K:=
 OpIs.call (crDOps.getD 10 default) (by kernel_rfl) (by kernel_rfl) (by kernel_rfl) _ (λvals=>[(vals 4),(vals 5),(vals 9)]) (by kernel_rfl) (λvals=>by kernel_rfl) (λvals H K h=>h)
theorem dH (x0 x3 x6:AV)(vals:Nat→AV)(H:AH)(K:AV→AH→Prop):EQ prog CQ Ak false (AF (pt crDOps vals (λ_=>true) (Fg x0 x3 x6) 11)) H (crDOps.getD 11 default) true K=gO true (Af (vals 0)) λv=>K v H:=by kernel_rfl
theorem Z7 (x0 x3 x6:AV):OpIs prog crDOps (Fg x0 x3 x6) 11 [0,1,2,3,4,5,6,7,8,9,10] λvals H K=>gO true (Af (vals 0)) λv=>K v H:=by
 refine OpIs.opB (ql:=CQ) (crDOps.getD 11 default) (by kernel_rfl) (by kernel_rfl) (by kernel_rfl) (λρ=>by kernel_rfl) ?_;intro vals H K h;rw[dH];exact h
theorem dI (x0 x3 x6:AV)(vals:Nat→AV)(H:AH)(K:AV→AH→Prop):EQ prog CQ Ak false (AF (pt crDOps vals (λ_=>true) (Fg x0 x3 x6) 12)) H (crDOps.getD 12 default) true K=gO true (Ac 1 (vals 11)) λv=>K v H:=by kernel_rfl
theorem Z8 (x0 x3 x6:AV):OpIs prog crDOps (Fg x0 x3 x6) 12 [0,1,2,3,4,5,6,7,8,9,10,11] λvals H K=>gO true (Ac 1 (vals 11)) λv=>K v H:=by
 refine OpIs.opB (ql:=CQ) (crDOps.getD 12 default) (by kernel_rfl) (by kernel_rfl) (by kernel_rfl) (λρ=>by kernel_rfl) ?_;intro vals H K h;rw[dI];exact h
theorem dJ (x0 x3 x6:AV)(vals:Nat→AV)(H:AH)(K:AV→AH→Prop):EQ prog CQ Ak false (AF (pt crDOps vals (λ_=>true) (Fg x0 x3 x6) 13)) H (crDOps.getD 13 default) true K=gS true (AU 1 H (vals 12) (vals 10)) H λH'=>K A0 H':=by kernel_rfl
theorem Z9 (x0 x3 x6:AV):OpIs prog crDOps (Fg x0 x3 x6) 13 [0,1,2,3,4,5,6,7,8,9,10,12] λvals H K=>gS true (AU 1 H (vals 12) (vals 10)) H λH'=>K A0 H':=by
 refine OpIs.opB (ql:=CQ) (crDOps.getD 13 default) (by kernel_rfl) (by kernel_rfl) (by kernel_rfl) (λρ=>by kernel_rfl) ?_;intro vals H K h;rw[dJ];exact h
def crDNeed:List (List Nat):=[[],[],[1],[2],[3],[],[],[6],[7],[8],[4,5,9],[0,1,2,3,4,5,6,7,8,9,10],[0,1,2,3,4,5,6,7,8,9,10,11],[0,1,2,3,4,5,6,7,8,9,10,12]]
def L9 (x0 x3 x6:AV):List ((Nat→AV)→AH→(AV→AH→Prop)→Prop):=[
 λvals H K=>gO true (some x0) λv=>K v H,
 λvals H K=>gO true (some x0) λv=>K v H,
 λvals H K=>gO true (Af (vals 1)) λv=>K v H,
 λvals H K=>gO true (Ac 1 (vals 2)) λv=>K v H,
 λvals H K=>gO true (Ar false 1 H (vals 3)) λv=>K v H,
 λvals H K=>gO true (some x6) λv=>K v H,
 λvals H K=>gO true (Ac 1 x3) λv=>K v H,
 λvals H K=>gO true (Ar false 1 H (vals 6)) λv=>K v H,
 λvals H K=>gO true (EW zD [(0,1,(vals 7))]) λv=>K v H,
 λvals H K=>gH true (Dh H 3 1 (Bo zD 1) [(0,3,(vals 8))]) H K,
 λvals H K=>ACalls prog 187 [(vals 4),(vals 5),(vals 9)] H K,
 λvals H K=>gO true (Af (vals 0)) λv=>K v H,
 λvals H K=>gO true (Ac 1 (vals 11)) λv=>K v H,
 λvals H K=>gS true (AU 1 H (vals 12) (vals 10)) H λH'=>K A0 H']
theorem oA (x0 x3 x6:AV):∀i,i<crDOps.length→OpIs prog crDOps (Fg x0 x3 x6) i (crDNeed.getD i []) ((L9 x0 x3 x6).getD i (λ_ _ _=>False)):=by
 intro i hi;rw[Ub]at hi;have:i=0∨i=1∨i=2∨i=3∨i=4∨i=5∨i=6∨i=7∨i=8∨i=9∨i=10∨i=11∨i=12∨i=13:=by omega
 rcases this with rfl | rfl | rfl | rfl | rfl | rfl | rfl | rfl | rfl | rfl | rfl | rfl | rfl | rfl
 ·exact dK x0 x3 x6
 ·exact dL x0 x3 x6
 ·exact dM x0 x3 x6
 ·exact dN x0 x3 x6
 ·exact dO x0 x3 x6
 ·exact dP x0 x3 x6
 ·exact dQ x0 x3 x6
 ·exact dR x0 x3 x6
 ·exact dS x0 x3 x6
 ·exact dT x0 x3 x6
 ·exact Z6 x0 x3 x6
 ·exact Z7 x0 x3 x6
 ·exact Z8 x0 x3 x6
 ·exact Z9 x0 x3 x6
structure OpM where
 kind:Int
 ino:Int
 pos:Int
 size:Int
 keep:Bool
 name:List UInt8
 to:List UInt8
 b:List UInt8
 deriving DecidableEq
def Dm (o:OpM)(bv:AV):List AV:=[I o.kind,I o.ino,I o.pos,I o.size,B o.keep,S (As o.name),S (As o.to),bv]
theorem oD (x0 x3 x4 x6:AV)(vals:Nat→AV)(H:AH)(K:AV→AH→Prop):(BK (Kz (mk 82 0 [0,3,6]) (Fw [true,true,true,true,true] 6)) (Bw prog f152.results.toList K)) .normal (pt crNOps vals (λ_=>true) (Ev x0 x3 x4 x6) 16) H=Gx x0 x3 x6 H K:=by kernel_rfl
theorem oB (x0 x3 x6:AV)(vals:Nat→AV)(H:AH)(K:AV→AH→Prop):(Bw prog f152.results.toList K) .normal (pt crDOps vals (λ_=>true) (Fg x0 x3 x6) 14) H=K (.tup []) H:=by kernel_rfl
theorem Yk (x0 x3 x4 x6:AV)(H:AH)(K:AV→AH→Prop)(h:ACode prog (.region 4 crNOps.toArray true) (BK (Kz (mk 82 0 [0,3,6]) (Fw [true,true,true,true,true] 6)) (Bw prog f152.results.toList K)) (Ev x0 x3 x4 x6) H):EO x0 x3 x4 x6 H K:=unR.mk h
theorem Yj (x0 x3 x6:AV)(H:AH)(K:AV→AH→Prop)(h:ACode prog (.region 5 crDOps.toArray true) (Bw prog f152.results.toList K) (Fg x0 x3 x6) H):Gy x0 x3 x6 H K:=unR.mk h
def HF (i j k:Nat)(A B C D:AH)(S:Nat→Bool):AH:=if S k=true then D else if S j=true then C else if S i=true then B else A
theorem DZ {i j k:Nat}{A B C D:AH}{S:Nat→Bool}{q:Nat}(h1:q≠i)(h2:q≠j)(h3:q≠k):HF i j k A B C D (Gs S q)=HF i j k A B C D S:=by
 unfold HF Gs;rw[if_neg (uC h3),if_neg (uC h2),if_neg (uC h1)]
abbrev rO:=And.intro @Ab @Bl
abbrev rS:=And.intro (And.intro @AD @Br) (And.intro (And.intro @List.getD_cons_succ.{0} @List.getD_cons_zero.{0}) @rO)
theorem Ym {L oi p k:Nat}{ns:List Nm}{dv:List NdV}{a b bv:AV}{H:AH}{o:OpM}(h:ImH L oi ns dv a b H)(hp:H[p]?=some (some (.cells (Dm o bv))))(hpo:p≠oi)(hpa:p∉AP a)(hk:k≤ns.length)(hn:ns.length≤100000):
  ∃r H2,ImH L oi (ns.take k++⟨o.name,o.ino⟩::ns.drop k) dv r b H2∧FrL L oi H H2∧H2[p]?=H[p]?∧∀x6 K,Gx (.ptr oi 0) (.ptr p 0) x6 H2 K→EO (.ptr oi 0) (.ptr p 0) (I k) x6 H K:=by
 have g:=Grew.app H [some (.cells (Ca ⟨o.name,o.ino⟩))];have hg:=h.grew g;have hpl:=(B5.1 hp).1;obtain⟨r,H12,hI,hc⟩:=ZX (x:=⟨o.name,o.ino⟩) (oj:=H.length) hg.sa hg.oa hg.ca hk (by omega) (by simp) (λhh=>by have:=Au h.sa _ hh;omega);obtain⟨i1,i2,i3,i4,i5,i6⟩:=hI;have el:(ns.take k++(⟨o.name,o.ino⟩:Nm)::ns.drop k).length=ns.length+1:=by simp;omega
 obtain⟨H2,e2,n1,n2⟩:=hg.newA (ms:=ns.take k++⟨o.name,o.ino⟩::ns.drop k) i3 i4 (by rw[el];exact i2) i1 (by rw[el];exact i6) i5
 have hp2:H2[p]?=H[p]?:=by
  have c0:H12[oi]?=some (some (.cells [a,b])):=by rw[i4 oi (B5.1 hg.obj).1 hg.noA];exact hg.obj
  rw[A6 (n:=1) (off:=0) (xs:=[r]) (cs:=[a,b]) (AL (AK i1)) c0 rfl (by simp)]at e2;injection e2 with e2;rw[← e2,Co (uC hpo),i4 p (by simp;omega) hpa,g.2 p hpl]
 have hfr:FrL L oi H H2:=by
  have hle:=h.len;exact⟨tL g.1 n2.1,λj h5 h6=>(n2.2 j h5 h6).trans (g.2 j (by omega))⟩
 let V:Nat→AV:=λi=>([.ptr oi 0,.ptr oi 0,.ptr oi 0,.ptr oi 0,a,I k,.ptr p 5,S (As o.name),.ptr p 1,I o.ino,.agg (Ca ⟨o.name,o.ino⟩),.sl H.length 0 1 2 (.ex 1),r,.ptr oi 0,.ptr oi 0,A0]:List AV).getD i A0
 refine⟨r,H2,n1,hfr,hp2,λx6 K hK=>Yk _ _ _ _ _ _ ?_⟩;refine ACode.told2 JZ jX (λi=>crNNeed.getD i []) (λi=>(JV (.ptr oi 0) (.ptr p 0) (I k) x6).getD i (λ_ _ _=>False)) V (HF 11 12 15 H (H++[some (.cells (Ca ⟨o.name,o.ino⟩))]) H12 H2) (oC _ _ _ _) rfl ?_ ?_
 ·intro i hi S vals hS cl hn
  rw[Uc]at hi
  have n12:S 4=false→S 12=false:=λh4=>by
   cases h:S 12 with
   | false=>rfl
   | true=>have:=cl 12 h 4 (by simp[crNNeed]);rw[h4]at this;cases this
  have n15:S 12=false→S 15=false:=λh4=>by
   cases h:S 15 with
   | false=>rfl
   | true=>have:=cl 15 h 12 (by simp[crNNeed]);rw[h4]at this;cases this
  have n12':S 11=false→S 12=false:=λh4=>by
   cases h:S 12 with
   | false=>rfl
   | true=>have:=cl 12 h 11 (by simp[crNNeed]);rw[h4]at this;cases this
  have n11:∀j,j=7∨j=9→S j=false→S 11=false:=λj hj h4=>by
   cases h:S 11 with
   | false=>rfl
   | true=>
    have h10:=cl 11 h 10 (by simp[crNNeed])
    have:=cl 10 h10 j (by rcases hj with rfl | rfl<;>simp[crNNeed])
    rw[h4]at this;cases this
  have hcase:i=0∨i=1∨i=2∨i=3∨i=4∨i=5∨i=6∨i=7∨i=8∨i=9∨i=10∨i=11∨i=12∨i=13∨i=14∨i=15:=by omega
  rcases hcase with rfl | rfl | rfl | rfl | rfl | rfl | rfl | rfl | rfl | rfl | rfl | rfl | rfl | rfl | rfl | rfl
  ·simp only[JV,rS]
   exact⟨rfl,(DZ (by omega) (by omega) (by omega)).symm⟩
  ·simp only[JV,rS]
   exact⟨rfl,(DZ (by omega) (by omega) (by omega)).symm⟩
  ·simp only[JV,rS]
   have v1:=(hn 1 (by simp[crNNeed])).2;rw[v1];exact⟨rfl,(DZ (by omega) (by omega) (by omega)).symm⟩
  ·simp only[JV,rS]
   have v2:=(hn 2 (by simp[crNNeed])).2;rw[v2];exact⟨rfl,(DZ (by omega) (by omega) (by omega)).symm⟩
  ·simp only[JV,rS]
   have v3:=(hn 3 (by simp[crNNeed])).2;rw[v3]
   have e:Ar false 1 (HF 11 12 15 H (H++[some (.cells (Ca ⟨o.name,o.ino⟩))]) H12 H2 S) (V 3)=some a:=by
    have q12:=n12 hS;have q15:=n15 q12
    have:(HF 11 12 15 H (H++[some (.cells (Ca ⟨o.name,o.ino⟩))]) H12 H2 S)[oi]?=some (some (.cells [a,b])):=by
     unfold HF;rw[q15,q12];cases S 11 with
     | true=>exact hg.obj
     | false=>exact h.obj
    show Ar false 1 _ (.ptr oi 0)=_
    rw[Al this];rfl
   rw[e];exact⟨rfl,(DZ (by omega) (by omega) (by omega)).symm⟩
  ·simp only[JV,rS]
   exact⟨rfl,(DZ (by omega) (by omega) (by omega)).symm⟩
  ·simp only[JV,rS]
   exact⟨rfl,(DZ (by omega) (by omega) (by omega)).symm⟩
  ·simp only[JV,rS]
   have v6:=(hn 6 (by simp[crNNeed])).2;rw[v6]
   have e:Ar false 1 (HF 11 12 15 H (H++[some (.cells (Ca ⟨o.name,o.ino⟩))]) H12 H2 S) (V 6)=some (.lit (.string (As o.name))):=by
    have q11:=n11 7 (by omega) hS;have q12:=n12' q11;have q15:=n15 q12;unfold HF;rw[q15,q12,q11]
    show Ar false 1 H (.ptr p 5)=_
    rw[Al hp];rfl
   rw[e];exact⟨rfl,(DZ (by omega) (by omega) (by omega)).symm⟩
  ·simp only[JV,rS]
   exact⟨rfl,(DZ (by omega) (by omega) (by omega)).symm⟩
  ·simp only[JV,rS]
   have v8:=(hn 8 (by simp[crNNeed])).2;rw[v8]
   have e:Ar false 1 (HF 11 12 15 H (H++[some (.cells (Ca ⟨o.name,o.ino⟩))]) H12 H2 S) (V 8)=some (I o.ino):=by
    have q11:=n11 9 (by omega) hS;have q12:=n12' q11;have q15:=n15 q12;unfold HF;rw[q15,q12,q11]
    show Ar false 1 H (.ptr p 1)=_
    rw[Al hp];rfl
   rw[e];exact⟨rfl,(DZ (by omega) (by omega) (by omega)).symm⟩
  ·simp only[JV,rS]
   have v7:=(hn 7 (by simp[crNNeed])).2;have v9:=(hn 9 (by simp[crNNeed])).2;rw[v7,v9];exact⟨rfl,(DZ (by omega) (by omega) (by omega)).symm⟩
  ·simp only[JV,rS]
   have v10:=(hn 10 (by simp[crNNeed])).2;rw[v10];have q12:=n12' hS;have q15:=n15 q12;have e:HF 11 12 15 H (H++[some (.cells (Ca ⟨o.name,o.ino⟩))]) H12 H2 S=H:=by unfold HF;rw[q15,q12,hS];rfl
   have e2:HF 11 12 15 H (H++[some (.cells (Ca ⟨o.name,o.ino⟩))]) H12 H2 (Gs S 11)=H++[some (.cells (Ca ⟨o.name,o.ino⟩))]:=by unfold HF;simp[Gs,q15,q12]
   rw[e,e2];exact⟨rfl,rfl⟩
  ·simp only[JV,rS]
   have v4:=(hn 4 (by simp[crNNeed])).2;have v5:=(hn 5 (by simp[crNNeed])).2;have v11:=(hn 11 (by simp[crNNeed])).2;rw[v4,v5,v11];have q15:=n15 hS;have e:HF 11 12 15 H (H++[some (.cells (Ca ⟨o.name,o.ino⟩))]) H12 H2 S=H++[some (.cells (Ca ⟨o.name,o.ino⟩))]:=by unfold HF;rw[q15,hS,(hn 11 (by simp[crNNeed])).1];rfl
   have e2:HF 11 12 15 H (H++[some (.cells (Ca ⟨o.name,o.ino⟩))]) H12 H2 (Gs S 12)=H12:=by unfold HF;simp[Gs,q15]
   rw[e,e2];exact hc
  ·simp only[JV,rS]
   have v0:=(hn 0 (by simp[crNNeed])).2;rw[v0];exact⟨rfl,(DZ (by omega) (by omega) (by omega)).symm⟩
  ·simp only[JV,rS]
   have v13:=(hn 13 (by simp[crNNeed])).2;rw[v13];exact⟨rfl,(DZ (by omega) (by omega) (by omega)).symm⟩
  ·simp only[JV,rS]
   have v14:=(hn 14 (by simp[crNNeed])).2;have v12:=(hn 12 (by simp[crNNeed])).2;rw[v14,v12];have e:HF 11 12 15 H (H++[some (.cells (Ca ⟨o.name,o.ino⟩))]) H12 H2 S=H12:=by unfold HF;rw[hS,(hn 12 (by simp[crNNeed])).1];rfl
   have e3:HF 11 12 15 H (H++[some (.cells (Ca ⟨o.name,o.ino⟩))]) H12 H2 (Gs S 15)=H2:=by unfold HF;simp[Gs]
   rw[e,e3]
   show bS (AU 1 H12 (.ptr oi 0) r) _
   rw[e2,AE];exact⟨rfl,rfl⟩
 ·intro S vals hS
  rw[Uc,oD];have:HF 11 12 15 H (H++[some (.cells (Ca ⟨o.name,o.ino⟩))]) H12 H2 S=H2:=by unfold HF;rw[if_pos (hS 15 (by rw[Uc];omega)).1]
  rw[this];exact hK
def Ip (ino:Int):NdV:=⟨⟨ino,0,[]⟩,Ad,SV.nil⟩
theorem Yn {L oi p k:Nat}{ns:List Nm}{dv:List NdV}{a b bv:AV}{H:AH}{o:OpM}(h:ImH L oi ns dv a b H)(hp:H[p]?=some (some (.cells (Dm o bv))))(hk:k≤dv.length)(hn:dv.length≤100000):
  ∃r H2,ImH L oi ns (dv.take k++Ip o.ino::dv.drop k) a r H2∧FrL L oi H H2∧∀K:AV→AH→Prop,K (.tup []) H2→Gy (.ptr oi 0) (.ptr p 0) (I k) H K:=by
 have g:=Grew.app H [some (.cells (BH (Ip o.ino)))];have hg:=h.grew g;have hpl:=(B5.1 hp).1;obtain⟨r,H10,hI,hc⟩:=kW (x:=Ip o.ino) (oj:=H.length) hg.sb hg.ob hg.cb hk (by omega) (by simp) (λhh=>by have:=Au h.sb _ hh;omega);obtain⟨i1,i2,i3,i4,i5,i6⟩:=hI;have el:(dv.take k++Ip o.ino::dv.drop k).length=dv.length+1:=by simp;omega
 obtain⟨H2,e2,n1,n2⟩:=hg.newB (ew:=dv.take k++Ip o.ino::dv.drop k) i3 i4 (by rw[el];exact i2) i1 (by rw[el];exact i6) i5
 have hfr:FrL L oi H H2:=by
  have hle:=h.len;exact⟨tL g.1 n2.1,λj h5 h6=>(n2.2 j h5 h6).trans (g.2 j (by omega))⟩
 let V:Nat→AV:=λi=>([.ptr oi 0,.ptr oi 0,.ptr oi 0,.ptr oi 1,b,I k,.ptr p 1,I o.ino,.agg (BH (Ip o.ino)),.sl H.length 0 1 3 (.ex 1),r,.ptr oi 0,.ptr oi 1,A0]:List AV).getD i A0
 refine⟨r,H2,n1,hfr,λK hK=>Yj _ _ _ _ _ ?_⟩;refine ACode.told2 JZ jM (λi=>crDNeed.getD i []) (λi=>(L9 (.ptr oi 0) (.ptr p 0) (I k)).getD i (λ_ _ _=>False)) V (HF 9 10 13 H (H++[some (.cells (BH (Ip o.ino)))]) H10 H2) (oA _ _ _) rfl ?_ ?_
 ·intro i hi S vals hS cl hn
  rw[Ub]at hi
  have n12:S 4=false→S 10=false:=λh4=>by
   cases h:S 10 with
   | false=>rfl
   | true=>have:=cl 10 h 4 (by simp[crDNeed]);rw[h4]at this;cases this
  have n15:S 10=false→S 13=false:=λh4=>by
   cases h:S 13 with
   | false=>rfl
   | true=>have:=cl 13 h 10 (by simp[crDNeed]);rw[h4]at this;cases this
  have n12':S 9=false→S 10=false:=λh4=>by
   cases h:S 10 with
   | false=>rfl
   | true=>have:=cl 10 h 9 (by simp[crDNeed]);rw[h4]at this;cases this
  have n11:S 7=false→S 9=false:=λh4=>by
   cases h:S 9 with
   | false=>rfl
   | true=>
    have h8:=cl 9 h 8 (by simp[crDNeed])
    have:=cl 8 h8 7 (by simp[crDNeed])
    rw[h4]at this;cases this
  have hcase:i=0∨i=1∨i=2∨i=3∨i=4∨i=5∨i=6∨i=7∨i=8∨i=9∨i=10∨i=11∨i=12∨i=13:=by omega
  rcases hcase with rfl | rfl | rfl | rfl | rfl | rfl | rfl | rfl | rfl | rfl | rfl | rfl | rfl | rfl
  ·simp only[L9,rS]
   exact⟨rfl,(DZ (by omega) (by omega) (by omega)).symm⟩
  ·simp only[L9,rS]
   exact⟨rfl,(DZ (by omega) (by omega) (by omega)).symm⟩
  ·simp only[L9,rS]
   have v1:=(hn 1 (by simp[crDNeed])).2;rw[v1];exact⟨rfl,(DZ (by omega) (by omega) (by omega)).symm⟩
  ·simp only[L9,rS]
   have v2:=(hn 2 (by simp[crDNeed])).2;rw[v2];exact⟨rfl,(DZ (by omega) (by omega) (by omega)).symm⟩
  ·simp only[L9,rS]
   have v3:=(hn 3 (by simp[crDNeed])).2;rw[v3]
   have e:Ar false 1 (HF 9 10 13 H (H++[some (.cells (BH (Ip o.ino)))]) H10 H2 S) (V 3)=some b:=by
    have q12:=n12 hS;have q15:=n15 q12
    have:(HF 9 10 13 H (H++[some (.cells (BH (Ip o.ino)))]) H10 H2 S)[oi]?=some (some (.cells [a,b])):=by
     unfold HF;rw[q15,q12];cases S 9 with
     | true=>exact hg.obj
     | false=>exact h.obj
    show Ar false 1 _ (.ptr oi 1)=_
    rw[Al this];rfl
   rw[e];exact⟨rfl,(DZ (by omega) (by omega) (by omega)).symm⟩
  ·simp only[L9,rS]
   exact⟨rfl,(DZ (by omega) (by omega) (by omega)).symm⟩
  ·simp only[L9,rS]
   exact⟨rfl,(DZ (by omega) (by omega) (by omega)).symm⟩
  ·simp only[L9,rS]
   have v6:=(hn 6 (by simp[crDNeed])).2;rw[v6]
   have e:Ar false 1 (HF 9 10 13 H (H++[some (.cells (BH (Ip o.ino)))]) H10 H2 S) (V 6)=some (I o.ino):=by
    have q11:=n11 hS;have q12:=n12' q11;have q15:=n15 q12;unfold HF;rw[q15,q12,q11]
    show Ar false 1 H (.ptr p 1)=_
    rw[Al hp];rfl
   rw[e];exact⟨rfl,(DZ (by omega) (by omega) (by omega)).symm⟩
  ·simp only[L9,rS]
   have v7:=(hn 7 (by simp[crDNeed])).2;rw[v7];exact⟨rfl,(DZ (by omega) (by omega) (by omega)).symm⟩
  ·simp only[L9,rS]
   have v8:=(hn 8 (by simp[crDNeed])).2;rw[v8];have q12:=n12' hS;have q15:=n15 q12;have e:HF 9 10 13 H (H++[some (.cells (BH (Ip o.ino)))]) H10 H2 S=H:=by unfold HF;rw[q15,q12,hS];rfl
   have e2:HF 9 10 13 H (H++[some (.cells (BH (Ip o.ino)))]) H10 H2 (Gs S 9)=H++[some (.cells (BH (Ip o.ino)))]:=by unfold HF;simp[Gs,q15,q12]
   rw[e,e2];exact⟨rfl,rfl⟩
  ·simp only[L9,rS]
   have v4:=(hn 4 (by simp[crDNeed])).2;have v5:=(hn 5 (by simp[crDNeed])).2;have v9:=(hn 9 (by simp[crDNeed])).2;rw[v4,v5,v9];have q15:=n15 hS;have e:HF 9 10 13 H (H++[some (.cells (BH (Ip o.ino)))]) H10 H2 S=H++[some (.cells (BH (Ip o.ino)))]:=by unfold HF;rw[q15,hS,(hn 9 (by simp[crDNeed])).1];rfl
   have e2:HF 9 10 13 H (H++[some (.cells (BH (Ip o.ino)))]) H10 H2 (Gs S 10)=H10:=by unfold HF;simp[Gs,q15]
   rw[e,e2];exact hc
  ·simp only[L9,rS]
   have v0:=(hn 0 (by simp[crDNeed])).2;rw[v0];exact⟨rfl,(DZ (by omega) (by omega) (by omega)).symm⟩
  ·simp only[L9,rS]
   have v11:=(hn 11 (by simp[crDNeed])).2;rw[v11];exact⟨rfl,(DZ (by omega) (by omega) (by omega)).symm⟩
  ·simp only[L9,rS]
   have v12:=(hn 12 (by simp[crDNeed])).2;have v10:=(hn 10 (by simp[crDNeed])).2;rw[v12,v10];have e:HF 9 10 13 H (H++[some (.cells (BH (Ip o.ino)))]) H10 H2 S=H10:=by unfold HF;rw[hS,(hn 10 (by simp[crDNeed])).1];rfl
   have e3:HF 9 10 13 H (H++[some (.cells (BH (Ip o.ino)))]) H10 H2 (Gs S 13)=H2:=by unfold HF;simp[Gs]
   rw[e,e3]
   show bS (AU 1 H10 (.ptr oi 1) r) _
   rw[e2,AE];exact⟨rfl,rfl⟩
 ·intro S vals hS
  rw[Ub,oB];have:HF 9 10 13 H (H++[some (.cells (BH (Ip o.ino)))]) H10 H2 S=H2:=by unfold HF;rw[if_pos (hS 13 (by rw[Ub];omega)).1]
  rw[this];exact hK
def pO (L oi:Nat)(H:AH)(ns:List Nm)(dv:List NdV)(r:AV)(H':AH):Prop:=r=.tup []∧∃a b,ImH L oi ns dv a b H'∧FrL L oi H H'
def LV (ns:List Nm)(dv:List NdV)(o:OpM):Prop:=¬AO Nm.name ns o.name∧¬AO NdV.ino dv o.ino∧Gi o.name∧1≤o.ino∧o.ino≤4611686018427387904∧ns.length<16
instance (ns:List Nm) (dv:List NdV) (o:OpM):Decidable (LV ns dv o):=by unfold LV;infer_instance
def Vp (ns:List Nm)(dv:List NdV)(o:OpM):List Nm:=if LV ns dv o then Ht AW Nm.name ns ⟨o.name,o.ino⟩else ns
def Vo (ns:List Nm)(dv:List NdV)(o:OpM):List NdV:=if LV ns dv o then Ht BS NdV.ino dv (Ip o.ino)else dv
theorem aQ {L oi:Nat}{ns:List Nm}{dv:List NdV}{a b:AV}{H:AH}(h:ImH L oi ns dv a b H)(o:OpM){bv:AV}(hb:oneA bv=true):∃H1,A8 H (.agg (Dm o bv))=some (.ptr H.length 0,H1)∧H1[H.length]?=some (some (.cells (Dm o bv)))∧ImH L oi ns dv a b H1∧FrL L oi H H1:=by
 have g:=Grew.app H [some (.cells (Dm o bv))];have hle:=h.len;exact⟨_,by simp[Dm,hb],by simp,h.grew g,g.1,λj h1 h2=>g.2 j (by omega)⟩
theorem Vq {L oi:Nat}{ns:List Nm}{dv:List NdV}{a b bv:AV}{H H1:AH}{o:OpM}(h:ImH L oi ns dv a b H)(e1:A8 H (.agg (Dm o bv))=some (.ptr H.length 0,H1))(hp:H1[H.length]?=some (some (.cells (Dm o bv))))(h1:ImH L oi ns dv a b H1)
  (hs:BP AW Nm.name ns) (hd:BP BS NdV.ino dv) (hn:ns.length≤100000) (hm:dv.length≤100000) (hnm:o.name.length≤1000000000) {K:AV→AH→Prop} (hno:¬LV ns dv o→K (.tup []) H1) (hyes:LV ns dv o→EO (.ptr oi 0) (.ptr H.length 0) (I (CP AW Nm.name ns o.name)) (I (CP BS NdV.ino dv o.ino)) H1 K):
  GK (.ptr oi 0) (.agg (Dm o bv)) H K:=by
 obtain⟨Ra,Rb,sa,sb,fz⟩:=h1.lend;have c0:=h1.obj;unfold GK;simp only[e1,A1];have b0:Am true 2 [a,b] 0=some (.agg [a,b]):=rfl;simp[hp,c0,b0,Dm];refine bC_of (PCall.lend (FZs.cons fz (FZs.cons (FZ.lit _) FZs.nil)) rfl (NP sa sb hs (by omega) o.name)).call ?_;simp[hp,c0,b0,Dm];refine bC_of (PCall.lend (FZs.cons fz (FZs.cons (FZ.lit _) FZs.nil)) rfl (RB sa sb hd (by omega) o.ino)).call ?_
 by_cases q1:AO Nm.name ns o.name
 ·simp[q1]
  exact hno λhc=>hc.1 q1
 ·by_cases q2:AO NdV.ino dv o.ino
  ·simp[q1,q2]
   exact hno λhc=>hc.2.1 q2
  ·simp[q1,q2,hp,Dm]
   refine A3 (Ll (s:=o.name) (by omega)) ?_
   by_cases q3:Gi o.name
   ·by_cases q4:o.ino<1
    ·simp[q3,q4,hp,Dm]
     exact hno λhc=>by have:=hc.2.2.2.1;omega
    ·by_cases q5:4611686018427387904<o.ino
     ·simp[q3,q4,q5,hp,Dm]
      exact hno λhc=>by have:=hc.2.2.2.2.1;omega
     ·have ln:=Bz h1.sa
      by_cases q6:16≤ns.length
      ·have q6':(16:Int)≤ns.length:=by omega
       simp[q3,q4,q5,hp,Dm,c0,ln,q6'];exact hno λhc=>by have:=hc.2.2.2.2.2;omega
      ·have q6':¬(16:Int)≤ns.length:=by omega
       simp[q3,q4,q5,hp,Dm,c0,ln,q6'];exact hyes ⟨q1,q2,q3,by omega,by omega,by omega⟩
   ·simp[q3]
    exact hno λhc=>q3 hc.2.2.1
theorem ZG {L oi:Nat}{ns:List Nm}{dv:List NdV}{a b bv:AV}{H:AH}{o:OpM}(h:ImH L oi ns dv a b H)(hs:BP AW Nm.name ns)(hd:BP BS NdV.ino dv)(hb:oneA bv=true)(hn:ns.length≤100000)(hm:dv.length≤100000)(hnm:o.name.length≤1000000000):
  ∃r H',pO L oi H (Vp ns dv o) (Vo ns dv o) r H'∧BCall prog 152 [.ptr oi 0,.agg (Dm o bv)] H r H':=by
 obtain⟨H1,e1,hp,h1,f1⟩:=aQ h o hb;have hpl:H.length≠oi:=by have:=(B5.1 h.obj).1;omega
 have hpa:H.length∉AP a:=λhh=>by have:=Au h.sa _ hh;omega
 by_cases hc:LV ns dv o
 ·obtain⟨r,H2,h2,f2,g2,w2⟩:=Ym h1 hp hpl hpa (Qo (c:=AW) (key:=Nm.name) ns o.name) hn
  obtain⟨r2,H3,h3,f3,w3⟩:=Yn h2 (g2.trans hp) (Qo (c:=BS) (key:=NdV.ino) dv o.ino) hm;refine⟨.tup [],H3,⟨rfl,r,r2,?_,f1.trans (f2.trans f3)⟩,JN (Vq h e1 hp h1 hs hd hn hm hnm (λq=>absurd hc q) λ_=>w2 _ _ ?_)⟩
  ·unfold Vp Vo
   rw[if_pos hc,if_pos hc];exact h3
  ·rw[M9]
   unfold Ib;exact w3 _ ⟨rfl,rfl⟩
 ·refine⟨.tup [],H1,⟨rfl,a,b,?_,f1⟩,JN (Vq h e1 hp h1 hs hd hn hm hnm (λ_=>⟨rfl,rfl⟩) λq=>absurd q hc)⟩
  unfold Vp Vo;rw[if_neg hc,if_neg hc];exact h1
def Ez (ns:List Nm)(s:List UInt8):List Nm:=if AO Nm.name ns s then CB AW Nm.name ns s else ns
def P9 (ns:List Nm)(dv:List NdV)(s:List UInt8):List NdV:=if AO Nm.name ns s then CB BS NdV.ino dv (Ey ns s)else dv
theorem VS {L oi:Nat}{ns:List Nm}{dv:List NdV}{a b:AV}{H:AH}{s:List UInt8}(h:ImH L oi ns dv a b H)(hs:BP AW Nm.name ns)(hd:BP BS NdV.ino dv)(hx:∀x∈ns,AO NdV.ino dv x.ino)(hn:ns.length≤100000)(hm:dv.length≤100000):
  ∃r H',pO L oi H (Ez ns s) (P9 ns dv s) r H'∧BCall prog 155 [.ptr oi 0,S (As s)] H r H':=PY (by
 obtain⟨Ra,Rb,sa,sb,fz⟩:=h.lend;have c0:=h.obj;unfold NE;have b0:Am true 2 [a,b] 0=some (.agg [a,b]):=rfl;simp[c0,b0];refine bC_of (PCall.lend (FZs.cons fz (FZs.cons (FZ.lit _) FZs.nil)) rfl (NP sa sb hs (by omega) s)).call ?_
 by_cases q:AO Nm.name ns s
 ·obtain⟨x,hx1,hx2,hx3⟩:=IU koN hs q
  obtain⟨o,off,cells,u1,u2,u3,u4,u5,-⟩:=RI DL (by omega) h.sa h.oa hx1;have u51:=u5 1 (by omega);have hk:=hx x (tB hx1);have hkl:=Rj koI hd hk;have hpl:=(B5.1 hx1).1;have e1:Ez ns s=CB AW Nm.name ns s:=if_pos q;have e2:P9 ns dv s=CB BS NdV.ino dv x.ino:=by unfold P9 Ey;rw[if_pos q,hx2]
  simp[q,c0,b0,u1,u3,u51,Ca];refine bC_of (PCall.lend (FZs.cons fz (FZs.cons (FZ.lit _) FZs.nil)) rfl (RB sa sb hd (by omega) x.ino)).call ?_;simp[c0,Az (a:=(CP AW Nm.name ns s:Nat)) (b:=1) (by omega) (by omega)];obtain⟨r1,H2,⟨d1,d2,d3,d4,d5,d6⟩,d7⟩:=ZJ h.sa h.oa h.ca hpl (by omega);refine bC_of d7 ?_;have l1:=K4 (c:=AW) (key:=Nm.name) (k:=s) hpl;obtain⟨H3,e3,n1,n2⟩:=h.newA (ms:=CB AW Nm.name ns s) (wQ d3.symm) (λi _ hi=>d4 i hi) (by rw[show(CB AW Nm.name ns s).length=ns.length - 1 by omega];exact d2) d1 (by rw[show(CB AW Nm.name ns s).length=ns.length - 1 by omega];exact d6) (λi hi=>.inl (d5▸hi));have c3:=n1.obj;simp[e3,c3,Az (a:=(CP BS NdV.ino dv x.ino:Nat)) (b:=1) (by omega) (by omega)];obtain⟨r2,H4,⟨g1,g2,g3,g4,g5,g6⟩,g7⟩:=kJ n1.sb n1.ob n1.cb hkl (by omega);refine bC_of g7 ?_;have l2:=K4 (c:=BS) (key:=NdV.ino) (k:=x.ino) hkl;obtain⟨H5,e5,m1,m2⟩:=n1.newB (ew:=CB BS NdV.ino dv x.ino) (wQ g3.symm) (λi _ hi=>g4 i hi) (by rw[show(CB BS NdV.ino dv x.ino).length=dv.length - 1 by omega];exact g2) g1 (by rw[show(CB BS NdV.ino dv x.ino).length=dv.length - 1 by omega];exact g6) (λi hi=>.inl (g5▸hi));simp[e5];rw[e1,e2];exact⟨rfl,_,_,m1,n2.trans m2⟩
 ·simp[q]
  refine⟨rfl,a,b,?_,FrL.refl _ _ _⟩;unfold Ez P9;rw[if_neg q,if_neg q];exact h)
def NO (pos n:Int):Prop:=0≤pos∧1≤n∧n≤1099511627776∧pos≤1099511627776 - n
instance (pos n:Int):Decidable (NO pos n):=by unfold NO;infer_instance
theorem Ma (pos n:Int):BPure prog 201 [I pos,I n] (B (decide (NO pos n))):=BPure.flat λH=>QX (by
 unfold Pw NO
 by_cases h1:0≤pos
 ·by_cases h2:1≤n
  ·by_cases h3:n≤1099511627776
   ·simp[h1,h2,h3,Ci (a:=1099511627776) (b:=n) (by omega) (by omega)]
   ·simp[h1,h2,h3]
  ·simp[h1,h2]
 ·simp[h1])
theorem Nt {size:Int}{l:List Ext}{v:AV}(hv:SV Aw 9 l v)(hl:l.length≤1000000)(pos n:Int)(keep:Bool):
  ∃R,SV Aw 9 (cL (Fq (size,l) pos n keep)) R∧BPure prog 170 [.agg [I size,v],I pos,I n,B keep] (.tup [.agg [I (cS (Fq (size,l) pos n keep)),R],B (Fq (size,l) pos n keep).isSome]):=by
 refine BPure.cont (by simp[Ay,noIds,hv.1]) (M0 ?_);unfold J8;simp[GN hv,Am];refine A3 (Ft hv (by omega)) ?_
 by_cases h1:E1 size l
 ·simp[h1]
  refine A3 (Ma pos n) ?_
  by_cases h2:NO pos n
  ·by_cases h3:32768<n
   ·have hn:Fq (size,l) pos n keep=none:=if_neg (λh=>by omega)
    simp[h2,h3,AU];exact ContK.none hn
   ·obtain⟨g1,g2,g3,g4⟩:=h2
    have hw:Fq (size,l) pos n keep=some (if keep then size else max size (pos+n),Mt l pos n):=if_pos ⟨h1,g1,g2,by omega,g4⟩;simp[show NO pos n from⟨g1,g2,g3,g4⟩,h3];obtain⟨r,H2,⟨w,rfl,a2,a3,a4,a5⟩,a1⟩:=Nl (size:=size) (hv.2 [some (.cells [I size,v]),some (.cells [I 0,Ad])]) (GN hv) (by omega);refine bC_of a1 ?_;have c0:=a4.cells (o:=0) (x:=some (.cells [I size,v])) rfl;have c1:=a4.cells (o:=1) (x:=some (.cells [I 0,Ad])) rfl;have hl2:=a4.1;simp only[qZ]at hl2;have hwo:=AK a2;have id0:∀j,j<2→j∉AP w:=λj hj h=>by have:=a5 j h;simp at this;omega
    rw[A6 (n:=2) (off:=0) (x:=.agg [I size,w]) (xs:=[I size,w]) (by simp[hwo]) c0 rfl (by simp)];simp[MQ (a:=pos) (b:=8) (by omega) (by omega) (by omega)];have hs0:=NV h1.2.2;have hN:allocN pos n≤4098:=by unfold allocN;omega
    refine IC (λm x1 x2 x3 x4 x8 x10 H=>∃(d:Nat) (w:AV),d+m=allocN pos n∧x1=I pos∧x2=I n∧x3=B keep∧x4=.ptr 0 0∧x8=.ptr 1 0∧x10=I (pos/8+d)∧H[0]?=some (some (.cells [I size,w]))∧H[1]?=some (some (.cells [I 0,Ad]))∧
     Aa H 9 w=some ((EX l (pos/8) d).flatMap Aw,(EX l (pos/8) d).length)∧AM w=true∧(∀j,j<2→j∉AP w)) ?_ (allocN pos n)
     ⟨0,w,by simp,rfl,rfl,rfl,rfl,rfl,by simp,IJ (by omega),(Co (by omega)).trans c1,?_,a2,id0⟩
    ·rintro m x1 x2 x3 x4 x8 x10 H R hR ⟨d,w,hdn,rfl,rfl,rfl,rfl,rfl,rfl,k0,k1,kw,ko,kid⟩
     unfold Ge;have hH0:=(B5.1 k0).1;have hH1:=(B5.1 k1).1;simp[Az (a:=pos) (b:=n) (by omega) (by omega),Ci (a:=pos+n) (b:=1) (by omega) (by omega),MQ (a:=pos+n - 1) (b:=8) (by omega) (by omega) (by omega)]
     by_cases hd:d<allocN pos n
     ·have hc:pos/8+(d:Int)≤(pos+n - 1)/8:=by unfold allocN at hd;omega
      have hws:=WI (k:=d) hs0 (pos/8);have hlen:=WH (k:=d) (l:=l) (no:=pos/8);obtain⟨H11,⟨w',q1,q2,q3,q4,q5,q6,q7⟩,q8⟩:=KE (no:=pos/8+d) k0 kw ko (kid 0 (by omega)) hws (by omega);simp[hc];refine bC_of q8 ?_;have hid':∀i,i<H.length→i∉AP w→i∉AP w':=λi h1 h2 h3=>(q7 i h3).elim h2 (λh=>by omega)
      simp[Az (a:=pos/8+d) (b:=1) (by omega) (by omega)];refine hR (m - 1) _ _ _ _ _ _ _ (by omega) ⟨d+1,w',by omega,rfl,rfl,rfl,rfl,rfl,by rw[show pos/8+(d:Int)+1=pos/8+((d+1:Nat):Int) by omega],q1,?_,?_,q3,λi hi=>hid' i (by omega) (kid i hi)⟩
      ·rw[q6 1 hH1 (by omega) (kid 1 (by omega))];exact k1
      ·rw[X2];exact q2
     ·have hd':d=allocN pos n:=by omega
      subst hd';have hc:¬pos/8+((allocN pos n:Nat):Int)≤(pos+n - 1)/8:=by unfold allocN;omega
      have hko:=AK ko
      have tail:∀s H2,H2.length=H.length→H2[0]?=some (some (.cells [I s,w]))→H2[1]?=some (some (.cells [I 0,Ad]))→Aa H2 9 w=some ((Mt l pos n).flatMap Aw,(Mt l pos n).length)→Fq (size,l) pos n keep=some (s,Mt l pos n)→Dn (.ptr 0 0) (.ptr 1 0) H2 (ContK (Fq (size,l) pos n keep)):=by
       intro s H2 hl2 e0 e1 e2 e3;rw[Jn];unfold FC;simp[-Ix,Al e0,Am];rw[A6 (n:=2) (off:=0) (xs:=[I s,w]) (cs:=[I 0,Ad]) (by simp[hko]) e1 rfl (by simp)];simp[show 1<H2.length by omega,Am]
       exact ContK.some e3 (Ae e2 λi hi=>by
        have h2:2≤i:=uT λh=>kid i h hi
        rw[Co (by omega)])
      simp[hc];cases keep with
      | true=>
       simp;exact tail size H rfl k0 k1 kw hw
      | false=>
       have hmx:max (pos+n) size=max size (pos+n):=by omega
       simp[k0,Az (a:=pos) (b:=n) (by omega) (by omega),hmx];rw[A6 (n:=1) (off:=0) (xs:=[I (max size (pos+n))]) (cs:=[I size,w]) rfl k0 rfl (by simp)];simp
       refine tail _ _ (by simp) (IJ hH0) ((Co (by omega)).trans k1) (Ae kw λi hi=>by
        have h2:2≤i:=uT λh=>kid i h hi
        rw[Co (by omega)]) hw
    ·exact Ae a3 λi hi=>by
      have h2:2≤i:=uT λh=>id0 i h hi
      rw[Co (by omega)]
  ·have hn:Fq (size,l) pos n keep=none:=if_neg (λh=>h2 ⟨h.2.1,h.2.2.1,by omega,h.2.2.2.2⟩)
   simp[h2,AU];exact ContK.none hn
 ·have hn:Fq (size,l) pos n keep=none:=if_neg (λh=>h1 h.1)
  simp[h1,AU];exact ContK.none hn
theorem FZ.fn {X:AH}{k:Fn}{a b a' b':List AV}(ha:FZs X a a')(hb:FZs X b b'):FZ X (.fn k a b) (.fn k a' b'):=by
 obtain⟨n0,h0⟩:=ha;obtain⟨n1,h1⟩:=hb;refine⟨n0+n1+1,λn hn=>?_⟩;cases n with
 | zero=>omega
 | succ n=>simp only[Iv,h0 n (by omega),h1 n (by omega)]
theorem FZs.same {X:AH}{vs:List AV}(h:Ay vs=true):FZs X vs vs:=DD X vs h
theorem FZ.ptr {X:AH}{o off:Nat}{cs Rs:List AV}(ho:X[o]?=some (some (.cells cs)))(h:FZs X (cs.drop off) Rs):FZ X (.ptr o off) (.ip Rs):=by
 obtain⟨n0,h0⟩:=h;refine⟨n0+1,λn hn=>?_⟩;cases n with
 | zero=>omega
 | succ n=>simp only[Iv,ho,h0 n (by omega)];rfl
theorem lW {α:Type}{enc:α→List AV}{sz:Nat}(hsz:∀x,(enc x).length=sz)(h0:0<sz){H:AH}{w x:AV}{l:List α}{y:α}{i:Nat}{a:Int}(hw:Aa H sz w=some (l.flatMap enc,l.length))(ho:AM w=true)(hi:i<l.length)(ha:a=i)(hx:B3 x=some (enc y)):
  ∃p H',Bv sz w (I a)=some p∧AU sz H p x=some H'∧H'.length=H.length∧(∀j,j∉AP w→H'[j]?=H[j]?)∧Aa H' sz w=some ((l.set i y).flatMap enc,l.length):=by
 subst ha;obtain⟨o,off,cap,cells,rfl,h1,h2,h3⟩:=Gl hw ho (by omega);have hol:=(B5.1 h1).1;have hmul:i*sz+sz≤l.length*sz:=by rw[← uG];exact tE _ hi
 have hy:=hsz y;have hl:=E5 hi;have hll:=hsz (l[i]);refine⟨.ptr o (off+i*sz),H.set o (some (.cells (over cells (off+(i*sz+0)) (enc y)))),?_,?_,by simp,λj hj=>Co (by simp[AP]at hj;omega),?_⟩
 ·simp only[Bv,JT]
  rw[if_pos ⟨by omega,by omega⟩];simp
 ·rw[A6 (n:=sz) (off:=off+i*sz) (xs:=enc y) hx h1 hy (by omega),DT _ _ _ (by omega)];rfl
 ·rw[AA (c:=over cells (off+(i*sz+0)) (enc y)) (by simp[hol]) (by rw[Fy (by omega)];exact h2)]
  rw[L0 h2 (by omega),← h3,Lz (q:=0) hsz hl (by unfold over;rw[vF,uS,tQ (by omega),uI]) (by omega)]
def Rd (p:Ext→Bool)(l:List Ext):Int:=match l.findIdx? p with
 | some i=>i
 | none=> -1
def cJ (k:FuncId)(oc:Nat)(c:List AV)(l:List Ext)(p:Ext→Bool):Prop:=
 Bs prog k=true∧Ay c=true∧∀x∈l,∀(H:AH) (a:AV),(a=.ip c∨(a=.ptr oc 0∧H[oc]?=some (some (.cells c))))→∃H',Grew H H'∧BCall prog k [.agg (Aw x),a] H (B (p x)) H'
theorem PO {k:FuncId}{oc:Nat}{c:List AV}{l:List Ext}{p:Ext→Bool}{R:AV}(hR:SV Aw 9 l R)(hl:l.length≤281474976710656)(hd:cJ k oc c l p):
  BPure prog 167 [R,.fn (.func k) [] [.ip c]] (I (Rd p l)):=BPure.val (by simp[Ay,noIds,hR.1,hd.2.1]) rfl (C7 (by
 unfold BT;simp[hR.len];refine BZ (λn x0 x1 x7 x8 H=>∃j:Nat,j+n=l.length∧x0=R∧x1=.fn (.func k) [] [.ip c]∧x7=I l.length∧x8=I j∧∀m x,m<j→l[m]?=some x→p x=false) ?_ l.length ⟨0,by simp,rfl,rfl,rfl,rfl,by simp⟩;rintro n x0 x1 x7 x8 H R' hR' ⟨j,hj,rfl,rfl,rfl,rfl,hm⟩;unfold B7;rcases tD j l.length with hlt | hge
 ·have hx:=E5 hlt
  generalize l[j]=y at hx;obtain⟨H',g,hc⟩:=hd.2.2 y (tB hx) H (.ip c) (.inl rfl);simp[hlt,hR.idx A2 hx rfl,hd.1];refine bC_of hc ?_;cases hp:p y with
  | true=>
   have:l.findIdx? p=some j:=by
    rw[vX];obtain⟨h1,h2⟩:=B5.1 hx;refine⟨h1,by rw[h2];exact hp,λi hi=>?_⟩
    have:=hm i _ hi (E5 (by omega))
    simp[this]
   simp[Rd,this]
  | false=>
   simp[Az (a:=j) (b:=1) (by omega) (by omega)];refine hR' (n - 1) _ _ _ _ _ (by omega) ⟨j+1,by omega,rfl,rfl,rfl,rfl,λm x hmj hx2=>?_⟩
   by_cases h:m=j
   ·subst h;rw[hx]at hx2;injection hx2 with hx2;rw[← hx2];exact hp
   ·exact hm m x (by omega) hx2
 ·have:l.findIdx? p=none:=by
   rw[vL];intro x hx;obtain⟨m,hmx⟩:=tK.1 hx;exact hm m x (by have:=(B5.1 hmx).1;omega) hmx
  have hjl:¬j<l.length:=by omega
  simp[hjl,Rd,this]))
theorem Vx {p:Ext→Bool}{l:List Ext}(h:∀x∈l,p x=false):l.filter (λx=>!p x)=l:=List.filter_eq_self.2 λx hx=>by simp[h x hx]
abbrev rF:=And.intro @Ah @Dp
abbrev rX:=And.intro @Bq @rA
abbrev xL:=@List.filter_append
theorem IB {H:AH}{v:AV}{l:List Ext}{k:FuncId}{oc:Nat}{c:List AV}{p:Ext→Bool}(hv:Aa H 9 v=some (l.flatMap Aw,l.length))(ho:AM v=true)(hl:l.length≤1000000)(hc:H[oc]?=some (some (.cells c)))(hne:oc∉AP v)(hd:cJ k oc c l p):
  ∃r H',(AM r=true∧Aa H' 9 r=some ((l.filter λx=>!p x).flatMap Aw,(l.filter λx=>!p x).length)∧H.length≤H'.length∧(∀i,i<H.length→i∉AP v→H'[i]?=H[i]?)∧∀i∈AP r,i∈AP v)∧
   BCall prog 104 [v,.fn (.func k) [] [.ptr oc 0]] H r H':=Ew (by
 unfold CN;obtain⟨R,hR,fR⟩:=FZ.sv hv (P4 l);have fc:FZ H (.fn (.func k) [] [.ptr oc 0]) (.fn (.func k) [] [.ip c]):=FZ.fn FZs.nil (FZs.cons (FZ.ptr hc (FZs.same hd.2.1)) FZs.nil);refine bP_of (PCall.lend (FZs.cons fR (FZs.cons fc FZs.nil)) rfl (PO hR (by omega) hd)) ?_;cases hf:l.findIdx? p with
 | none=>
  rw[vL]at hf;simp[Rd,vL.2 hf];rw[Vx hf];exact⟨ho,hv⟩
 | some i0=>
  obtain⟨h1,h2,h3⟩:=vX.1 hf;have hoc:=(B5.1 hc).1;simp[Rd,hf,show ¬(i0:Int)= -1 by omega,Az (a:=i0) (b:=1) (by omega) (by omega)]
  have ht:(l.take (i0+1)).filter (λx=>!p x)=l.take i0:=by
   rw[vP,xL,E5 h1];simp[h2];intro x hx;obtain⟨m,hm⟩:=tK.1 hx;have hml:=(B5.1 hm).1;rw[sX]at hml;rw[tF,if_pos (by omega)]at hm
   have:=h3 m (by omega)
   obtain⟨q1,q2⟩:=B5.1 hm;rw[q2]at this
   simpa using this
  refine DG (λn x0 x1 x5 x6 H'=>∃(i j:Nat) (M:List Ext),j+n=l.length∧i<j∧x0=v∧x1=.fn (.func k) [] [.ptr oc 0]∧x5=I i∧x6=I j∧M.length=l.length∧M.take i=(l.take j).filter (λx=>!p x)∧M.drop j=l.drop j∧
   Aa H' 9 v=some (M.flatMap Aw,M.length)∧H'[oc]?=some (some (.cells c))∧H.length≤H'.length∧∀i,i<H.length→i∉AP v→H'[i]?=H[i]?) ?_ (l.length - (i0+1))
   ⟨i0,i0+1,l,by omega,by omega,rfl,rfl,rfl,rfl,rfl,ht.symm,rfl,hv,hc,sY _,λ_ _ _=>rfl⟩
  rintro n x0 x1 x5 x6 H' R' hR' ⟨i,j,M,hj,hij,rfl,rfl,rfl,rfl,hM,hMt,hMd,hw,hc',hle,hk⟩;unfold Ch;rcases tD j l.length with hlt | hge
  ·have hx:=E5 hlt
   generalize l[j]=y at hx
   have hMx:M[j]?=some y:=by
    have:=congrArg (λq=>q[0]?) hMd
    simp only[tG,uU]at this;rw[this];exact hx
   obtain⟨q,-,e1,-,-,e2⟩:=pK (a:=j) hw hMx rfl;have hoc':=(B5.1 hc').1;have gA:=Grew.app H' [some (.cells (Aw y))];obtain⟨H10,g,hcl⟩:=hd.2.2 y (tB hx) (H'++[some (.cells (Aw y))]) (.ptr oc 0) (.inr ⟨rfl,gA.cells hc'⟩);have gB:=gA.trans g;have z:=g.cells (o:=H'.length) (x:=some (.cells (Aw y))) (by simp);simp[Bz hw,hM,hlt,e1,e2,hd.1,-Ix];rw[gQ (by simp) (by rfl)];simp;refine bC_of hcl ?_
   have hdrop:M.drop (j+1)=l.drop (j+1):=by
    have:=congrArg (List.drop 1) hMd
    rw[uY,uY]at this;exact this
   have hkeepB:∀i,i<H.length→i∉AP x0→H10[i]?=H[i]?:=λi h1 h2=>by rw[gB.2 i (by omega),hk i h1 h2]
   cases hp:p y with
   | true=>
    simp;rw[BY];unfold Bu;simp[Az (a:=j) (b:=1) (by omega) (by omega)];refine hR' (n - 1) _ _ _ _ _ (by omega) ⟨i,j+1,M,by omega,by omega,rfl,rfl,rfl,rfl,hM,?_,hdrop,gB.slice hw,gB.cells hc',by have:=gB.1;omega,hkeepB⟩;rw[vP,xL,← hMt,hx];simp[hp]
   | false=>
    obtain⟨q2,H16,f1,f2,f3,f4,f5⟩:=lW (x:=.agg (Aw y)) (y:=y) (i:=i) (a:=i) A2 (by omega) (gB.slice hw) ho (by omega) rfl (by simp);simp[z,f1,f2,Az (a:=i) (b:=1) (by omega) (by omega)];rw[BY];unfold Bu;simp[Az (a:=j) (b:=1) (by omega) (by omega)];refine hR' (n - 1) _ _ _ _ _ (by omega) ⟨i+1,j+1,M.set i y,by omega,by omega,rfl,rfl,rfl,rfl,by simpa using hM,?_,?_,by simpa using f5,?_,by have:=gB.1;omega,λi h1 h2=>by rw[f4 i h2];exact hkeepB i h1 h2⟩
    ·rw[vP (l:=l),xL,← hMt,hx,vP,IJ (by omega),List.take_set_of_le (sY _)]
     simp[hp]
    ·rw[List.drop_set_of_lt (by omega)];exact hdrop
    ·rw[f4 oc hne];exact gB.cells hc'
  ·have hjl:j=l.length:=by omega
   subst hjl;rw[wI]at hMt;have hil:i≤M.length:=by omega
   have hfl:(l.filter λx=>!p x).length=i:=by rw[← hMt,sX];omega
   obtain⟨o,off,cap,cells,rfl,w1,w2,w3⟩:=Gl hw ho (by omega);have hol:=(B5.1 w1).1;have hmul:i*9≤M.length*9:=tE _ hil;have hmul2:i*9+(M.length - i)*9=M.length*9:=by rw[← uR];congr 1;omega
   have hz:(Bo (Aw (NQ 0)) (M.length - i)).length=(M.length - i)*9:=by rw[CI];rfl
   have e3:AT 9 (.sl o off M.length 9 cap) (some (I i)) none none=some (.sl o (off+i*9) (M.length - i) 9 (cap.cut M.length i)):=by
    simp[AT,Bk];omega
   have e4:AT 9 (.sl o off M.length 9 cap) none (some (I i)) none=some (.sl o off i 9 (cap.cut M.length 0)):=by
    simp[AT,Bk];omega
   have e5:cG (Aw (NQ 0)) H' (.sl o (off+i*9) (M.length - i) 9 (cap.cut M.length i))=some (H'.set o (some (.cells (over cells (off+i*9) (Bo (Aw (NQ 0)) (M.length - i)))))):=by
    simp only[cG,w1];rw[if_pos ⟨rfl,by omega,by omega⟩,if_neg (by omega),DT _ _ _ (by rw[hz];omega)];rfl
   rw[← Vv];have hnl:¬(l.length:Int)<M.length:=by omega
   simp only[cX,rX,hnl,rF,e3,e5,AE,e4];refine⟨rfl,?_,by simpa using hle,λa h1 h2=>?_,by simp[AP]⟩
   ·have hov:(over cells (off+i*9) (Bo (Aw (NQ 0)) (M.length - i))).length=cells.length:=Fy (by rw[hz];omega)
    rw[hfl,AA (c:=over cells (off+i*9) (Bo (Aw (NQ 0)) (M.length - i))) (by simp[hol]) (by rw[hov];omega)]
    congr 2
    rw[← hMt,← FJ A2,w3,uV,vH hmul];refine uF λq=>?_
    rw[tF,tF]
    split
    ·rw[tG,tG,Gk (by rw[hz];omega),if_neg (by omega)]
    ·rfl
   ·rw[Co (by simp[AP]at h2;omega)]
    exact hk a h1 h2)
theorem YA {cs xs:List AV}{k:Nat}(h:(cs.drop k).take xs.length=xs)(hl:k+xs.length≤cs.length):over cs k xs=cs:=by
 refine uF λi=>?_
 rw[Gk hl]
 split
 ·rename_i c
  rw[← h,tF,if_pos (by omega),tG,show k+(i - k)=i by omega]
 ·rfl
theorem Vu (x:Ext){j:Nat}(hj:j<8):(Aw x)[j+1]?=some (.lit (.int .u8 (x.b.getD j 0).toNat)):=by
 have hb:=x.hb;unfold Aw;rw[EN,Vt,tW,E5 (by omega)];rfl
theorem YN {x:Ext}{a:Int}{i j:Nat}(hj:(j:Int)=a - x.no*8+i)(hj8:j<8):(Aw (DR x a (a+i))).set (1+j) u0Z=Aw (DR x a (a+(i+1:Nat))):=by
 refine uF λq=>?_
 rw[uQ];cases q with
 | zero=>rw[if_neg (by omega)];rfl
 | succ q=>
  by_cases hq:q<8
  ·rw[Vu _ hq,Vu _ hq,GT hq,GT hq,A2]
   by_cases c:1+j=q+1
   ·rw[if_pos c,if_pos (by omega),if_pos (by omega)];rfl
   ·rw[if_neg c]
    by_cases c2:a≤x.no*8+(q:Int)∧x.no*8+(q:Int)<a+i
    ·rw[if_pos c2,if_pos (by omega)]
    ·rw[if_neg c2,if_neg (by omega)]
  ·rw[wG (by rw[A2];omega),wG (by rw[A2];omega),A2]
   rw[if_neg (by omega)]
theorem mD {H:AH}{o q:Nat}{cells:List AV}{x:Ext}{s:Sp}(hc:H[o]?=some (some (.cells cells)))(hx:(cells.drop q).take 9=Aw x)(hq:q+9≤cells.length)(hs:MaySpan s)(h0:0≤x.no)(h1:x.no<137438953472):
  ∃H',(H'[o]?=some (some (.cells (over cells q (Aw (DR x s.pos (s.pos+s.len))))))∧H.length≤H'.length∧∀i,i<H.length→i≠o→H'[i]?=H[i]?)∧BCall prog 106 [.ptr o q,.agg (BQ s)] H (.tup []) H':=by
 have key:∃r H',(r=.tup []∧(H'[o]?=some (some (.cells (over cells q (Aw (DR x s.pos (s.pos+s.len))))))∧H.length≤H'.length∧∀i,i<H.length→i≠o→H'[i]?=H[i]?))∧BCall prog 106 [.ptr o q,.agg (BQ s)] H r H':=QY (by
  unfold Px;have ho:=(B5.1 hc).1
  have hno:cells[q]?=some (I x.no):=by
   have:=congrArg (λl=>l[0]?) hx
   simp only[tF,tG,uU]at this
   simpa[Aw]using this
  have g1:=Grew.app H [some (.cells (BQ s))];have c1:=g1.cells hc;have c1':H[o]?=some (some (.cells cells)):=hc;obtain⟨p,n⟩:=s;simp only[BQ]at c1 g1⊢;simp[sW ho,hc,hno,Am];refine bP_of (KH x.no h0 h1) ?_;refine bP_of (RD ⟨x.no*8,8⟩ ⟨p,n⟩) ?_;have hwm:MaySpan ⟨x.no*8,8⟩:=by simp only[MaySpan,May];omega
  have hm:KW ⟨x.no*8,8⟩ ⟨p,n⟩=if max (x.no*8) p<min (x.no*8+8) (p+n)then⟨max (x.no*8) p,min (x.no*8+8) (p+n) - max (x.no*8) p⟩else⟨0,0⟩:=by
   unfold KW;simp only
   by_cases c:max (x.no*8) p<min (x.no*8+8) (p+n)
   ·rw[if_pos ⟨hwm,hs,c⟩,if_pos c]
   ·rw[if_neg (λh=>c h.2.2),if_neg c]
  -- what is wiped
  have hres:∀m:Nat,(m:Int)=(KW ⟨x.no*8,8⟩ ⟨p,n⟩).len→DR x (KW ⟨x.no*8,8⟩ ⟨p,n⟩).pos ((KW ⟨x.no*8,8⟩ ⟨p,n⟩).pos+m)=DR x p (p+n):=by
   intro m he;refine W0 rfl λk hk=>?_
   rw[GT hk,GT hk];rw[hm]at he⊢
   by_cases c:max (x.no*8) p<min (x.no*8+8) (p+n)
   ·rw[if_pos c]at he⊢
    simp only at he⊢
    by_cases c2:p≤x.no*8+(k:Int)∧x.no*8+(k:Int)<p+n
    ·rw[if_pos c2,if_pos (by omega)]
    ·rw[if_neg c2,if_neg (by omega)]
   ·rw[if_neg c]at he⊢
    simp only at he⊢;rw[if_neg (by omega),if_neg (by omega)]
  have hml:∃m:Nat,(m:Int)=(KW ⟨x.no*8,8⟩ ⟨p,n⟩).len∧(0<m→x.no*8≤(KW ⟨x.no*8,8⟩ ⟨p,n⟩).pos∧(KW ⟨x.no*8,8⟩ ⟨p,n⟩).pos+m≤x.no*8+8):=by
   rw[hm]
   split
   ·exact⟨(min (x.no*8+8) (p+n) - max (x.no*8) p).toNat,by simp only;omega,λ_=>by simp only;omega⟩
   ·exact⟨0,rfl,λh=>by omega⟩
  obtain⟨m,hmm,hmb⟩:=hml;have hres:=hres m hmm;generalize KW ⟨x.no*8,8⟩ ⟨p,n⟩=M at hmm hmb hres;obtain⟨a,ml⟩:=M;simp only at hmm hmb hres;subst hmm;have hxl:=A2 x;simp[BQ,sW ho,hc,hno,AU];have hz0:DR x a (a+(0:Nat))=x:=W0 rfl λk hk=>by rw[GT hk,if_neg (by omega)]
  refine LA (λt x0 x4 x14 x15 H'=>∃i:Nat,i+t=m∧x0=.ptr o q∧x4=.ptr (H.length+1) 0∧x14=I m∧x15=I i∧H'[o]?=some (some (.cells (over cells q (Aw (DR x a (a+i))))))∧H'[H.length+1]?=some (some (.cells [I a,I m]))∧H.length≤H'.length∧∀i,i<H.length→i≠o→H'[i]?=H[i]?) ?_ m
   ⟨0,by omega,rfl,rfl,rfl,rfl,?_,?_,by simp,λi hi _=>sW hi⟩
  ·rintro t x0 x4 x14 x15 H' R hR ⟨i,hi,rfl,rfl,rfl,rfl,d0,d1,d2,d3⟩
   unfold IF
   by_cases hlt:i<m
   ·obtain⟨b1,b2⟩:=hmb (by omega)
    obtain⟨j,hj⟩:∃j:Nat,(j:Int)=a - x.no*8+i:=⟨(a - x.no*8+i).toNat,by omega⟩;have ho':=(B5.1 d0).1;have hwl:=A2 (DR x a (a+i))
    have hno':(over cells q (Aw (DR x a (a+i))))[q]?=some (I x.no):=by
     rw[Gk (by omega),if_pos (by omega),Nat.sub_self];rfl
    simp[hlt,d1,d0,hno',HH (a:=x.no) (b:=8) (by omega) (by omega),Ci (a:=a) (b:=x.no*8) (by omega) (by omega),Az (a:=a - x.no*8) (b:=i) (by omega) (by omega),← hj]
    have e1:Zj 8 1 (.ptr o (q+1)) (I j)=some (.ptr o (q+1+j)):=by
     simp[Zj,JT];omega
    rw[e1];simp only[Ab];rw[A6 (n:=1) (off:=q+1+j) (xs:=[.lit (.int .u8 0)]) rfl d0 rfl (by rw[Fy (by omega)];omega)];simp[Az (a:=i) (b:=1) (by omega) (by omega)];refine hR (t - 1) _ _ _ _ _ (by omega) ⟨i+1,by omega,rfl,rfl,rfl,rfl,?_,?_,by simpa using d2,λy h1 h2=>?_⟩
    ·rw[IJ ho',← YN hj (by omega)]
     congr 3
     refine uF λy=>?_
     rw[uQ,Fy (by omega),Gk (by omega),Gk (by simp;omega),uQ,tM]
     by_cases c:q+1+j=y
     ·subst c
      rw[if_pos rfl,if_pos (by omega),if_pos (by omega),if_pos (by omega),if_pos (by omega)]
     ·rw[if_neg c]
      split
      ·rw[if_neg (by omega)]
      ·rfl
    ·rw[Co (by omega)];exact d1
    ·rw[Co (by omega)];exact d3 y h1 h2
   ·have:i=m:=by omega
    subst this;simp[hlt];rw[hres]at d0;exact⟨d0,d2,d3⟩
  ·rw[sW ho,hz0,YA (by rw[hxl];exact hx) (by omega)]
   exact hc
  ·rw[tA (by omega)];simp)
 obtain⟨r,H',⟨rfl,h1⟩,h2⟩:=key;exact⟨H',h1,h2⟩
theorem XI {H:AH}{w:AV}{l:List Ext}{i:Nat}{a:Int}{x:Ext}{s:Sp}(hw:Aa H 9 w=some (l.flatMap Aw,l.length))(ho:AM w=true)(hx:l[i]?=some x)(ha:a=i)(hs:MaySpan s)(h0:0≤x.no)(h1:x.no<137438953472):
  ∃p H',Bv 9 w (I a)=some p∧BCall prog 106 [p,.agg (BQ s)] H (.tup []) H'∧H.length≤H'.length∧(∀j,j<H.length→j∉AP w→H'[j]?=H[j]?)∧Aa H' 9 w=some ((l.set i (DR x s.pos (s.pos+s.len))).flatMap Aw,l.length):=by
 subst ha;have hi:=(B5.1 hx).1;obtain⟨o,off,cap,cells,rfl,h2,h3,h4⟩:=Gl hw ho (by omega);have hol:=(B5.1 h2).1;have hmul:i*9+9≤l.length*9:=by rw[← uG];exact tE _ hi
 have hxl:=A2 x;have hwl:=A2 (DR x s.pos (s.pos+s.len))
 have hpart:(cells.drop (off+i*9)).take 9=Aw x:=by
  have e:((l.flatMap Aw).drop (i*9)).take 9=Aw x:=by
   rw[CE A2 hx,tJ (by omega),sZ (by omega)]
  rw[h4,vQ,uY,uV,vH (by omega)]at e;exact e
 obtain⟨H',⟨k1,k2,k3⟩,k4⟩:=mD (q:=off+i*9) h2 hpart (by omega) hs h0 h1;refine⟨.ptr o (off+i*9),H',?_,k4,k2,λj h5 h6=>k3 j h5 (by simp[AP]at h6;omega),?_⟩
 ·simp only[Bv,JT]
  rw[if_pos ⟨by omega,by omega⟩];simp
 ·rw[AA k1 (by rw[Fy (by omega)];exact h3)]
  rw[show off+i*9=off+(i*9+0) by omega,L0 h3 (by omega),← h4,Lz (q:=0) A2 hx (by unfold over;rw[vF,uS,tQ (by omega),uI]) (by omega)]
theorem map_set {f:Ext→Ext}{l:List Ext}{i:Nat}{x:Ext}(hx:l[i]?=some x):((l.take i).map f++l.drop i).set i (f x)=(l.take (i+1)).map f++l.drop (i+1):=by
 have hi:=(B5.1 hx).1;rw[DS hx,List.set_append_right _ _ (by rw[uE,sX];omega),vP,hx];simp[show i - min i l.length=0 by omega]
theorem Xx {f:Ext→Ext}{l:List Ext}{i:Nat}{x:Ext}(hx:l[i]?=some x):((l.take i).map f++l.drop i)[i]?=some x:=by
 have hi:=(B5.1 hx).1;rw[tA (by rw[uE,sX];omega),tG];simp only[uE,sX];rw[show i+(i - min i l.length)=i by omega];exact hx
theorem Qi {f:Ext→Ext}{l:List Ext}{i:Nat}:((l.take i).map f++l.drop i).length=l.length:=by
 simp;omega
theorem YM (size:Int)(l:List Ext)(h:∀x∈l,-1≤x.no∧x.no<137438953472):cJ 105 1 [I size] l (λx=>decide (size≤x.no*8)):=by
 refine⟨by kernel_rfl,rfl,λx hx H a ha=>?_⟩;obtain⟨h1,h2⟩:=h x hx
 have key:∃r H',(r=B (decide (size≤x.no*8))∧Grew H H')∧BCall prog 105 [.agg (Aw x),a] H r H':=KA (by
  unfold HP;have g:=Grew.app H [some (.cells (Aw x))];rcases ha with rfl | ⟨rfl,hc⟩
  ·simp[HH (a:=x.no) (b:=8) (by omega) (by omega)]
   exact g
  ·have h1':=(B5.1 hc).1
   have hc':=g.cells hc;simp[HH (a:=x.no) (b:=8) (by omega) (by omega),hc'];exact g)
 obtain⟨r,H',⟨rfl,g⟩,hc⟩:=key;exact⟨H',g,hc⟩
theorem YC (oc:Nat)(s:Sp)(l:List Ext)(h:∀x∈l,0≤x.no∧x.no<137438953472):cJ 203 oc (BQ s) l (λx=>decide (Within ⟨x.no*8,8⟩ s)):=by
 refine⟨by kernel_rfl,rfl,λx hx H a ha=>?_⟩;obtain⟨h1,h2⟩:=h x hx
 have key:∃r H',(r=B (decide (Within ⟨x.no*8,8⟩ s))∧Grew H H')∧BCall prog 203 [.agg (Aw x),a] H r H':=Nw (by
  unfold K7;have g:=Grew.app H [some (.cells (Aw x))];simp;refine bP_of (KH x.no h1 h2) ?_
  have ha':Ar true 2 (H++[some (.cells (Aw x))]) a=some (.agg (BQ s)):=by
   rcases ha with rfl | ⟨rfl,hc⟩
   ·rfl
   ·rw[Al (g.cells hc)];rfl
  rw[ha'];simp;refine bP_of (Us ⟨x.no*8,8⟩ s) ?_;exact⟨rfl,g⟩)
 obtain⟨r,H',⟨rfl,g⟩,hc⟩:=key;exact⟨H',g,hc⟩
abbrev sF:=And.intro @List.drop_zero.{0} @List.map_nil.{0,0}
abbrev vK:=@List.length_filter_le
theorem HT {size0:Int}{l:List Ext}{v:AV}(hv:SV Aw 9 l v)(hl:l.length≤1000000)(size:Int):
  ∃R,SV Aw 9 (cL (D1 (size0,l) size)) R∧BPure prog 50 [.agg [I size0,v],I size] (.tup [.agg [I (cS (D1 (size0,l) size)),R],B (D1 (size0,l) size).isSome]):=by
 refine BPure.cont (by simp[Ay,noIds,hv.1]) (M2 ?_);unfold JC;simp[GN hv,Am,Zl];refine A3 (Ft hv (by omega)) ?_
 by_cases h1:E1 size0 l
 ·by_cases h2:size<0
  ·have hn:D1 (size0,l) size=none:=if_neg (λh=>by omega)
   simp[h1,h2,AU];exact ContK.none hn
  ·by_cases h3:1099511627776<size
   ·have hn:D1 (size0,l) size=none:=if_neg (λh=>by omega)
    simp[h1,h2,h3,AU];exact ContK.none hn
   ·have hw:D1 (size0,l) size=some (size,Iu l size):=if_pos ⟨h1,by omega,by omega⟩
    simp[h1,h2,h3];obtain⟨r,H2,⟨w,rfl,a2,a3,a4,a5⟩,a1⟩:=Nl (size:=size0) (hv.2 [some (.cells [I size0,v]),some (.cells [I size]),some (.cells [I 0,Ad])]) (GN hv) (by omega);refine bC_of a1 ?_;have c0:=a4.cells (o:=0) (x:=some (.cells [I size0,v])) rfl;have c1:=a4.cells (o:=1) (x:=some (.cells [I size])) rfl;have c2:=a4.cells (o:=2) (x:=some (.cells [I 0,Ad])) rfl;have hl2:=a4.1;simp only[qZ]at hl2;have hwo:=AK a2;have id0:∀j,j<3→j∉AP w:=λj hj h=>by have:=a5 j h;simp at this;omega
    have hs0:=NV h1.2.2;have hno:=λx hx=>(Qk h1.2.2 x hx)
    rw[A6 (n:=2) (off:=0) (x:=.agg [I size0,w]) (xs:=[I size0,w]) (by simp[hwo]) c0 rfl (by simp)];simp[c1];rw[A6 (n:=1) (off:=0) (xs:=[I size]) (cs:=[I size0,w]) rfl (IJ (by omega)) rfl (by simp)];simp[show 0<H2.length by omega];have keep0:∀j x,j≠0→(H2.set 0 x)[j]?=H2[j]?:=λj x hj=>Co (by omega)
    have hw1:Aa (H2.set 0 (some (.cells [I size,w]))) 9 w=some (l.flatMap Aw,l.length):=Ae a3 λi hi=>keep0 i _ (λh=>id0 0 (by omega) (h▸hi))
    obtain⟨r2,H3,⟨b1,b2,b3,b4,b5⟩,b6⟩:=IB (k:=105) hw1 a2 (by omega) (oc:=1) (c:=[I size]) (by rw[keep0 1 _ (by omega)];exact c1) (id0 1 (by omega)) (YM size l λx hx=>by have:=hno x hx;omega)
    have hfe:(l.filter λx=>!decide (size≤x.no*8))=l.filter λx=>decide (x.no*8<size):=List.filter_congr λx _=>by
     by_cases c:size≤x.no*8
     ·simp[c,show ¬x.no*8<size by omega]
     ·simp[c,show x.no*8<size by omega]
    rw[hfe]at b2;refine bC_of b6 ?_;simp at b3;have id3:∀j,j<3→j∉AP r2:=λj hj h=>id0 j hj (b5 j h)
    have d0:H3[0]?=some (some (.cells [I size,w])):=by rw[b4 0 (by simp;omega) (id0 0 (by omega))];exact IJ (by omega)
    have d1:H3[1]?=some (some (.cells [I size])):=by rw[b4 1 (by simp;omega) (id0 1 (by omega)),keep0 1 _ (by omega)];exact c1
    have d2:H3[2]?=some (some (.cells [I 0,Ad])):=by rw[b4 2 (by simp;omega) (id0 2 (by omega)),keep0 2 _ (by omega)];exact c2
    have hr2:=AK b1;rw[A6 (n:=1) (off:=1) (xs:=[r2]) (cs:=[I size,w]) (AL hr2) d0 rfl (by simp)];have hfl:(l.filter λx=>decide (x.no*8<size)).length≤l.length:=vK _ _
    have hfm:∀x∈(l.filter λx=>decide (x.no*8<size)),0≤x.no∧x.no<137438953472:=λx hx=>by
     have:=hno x (vT.1 hx).1;omega
    have hte:Iu l size=(l.filter λx=>decide (x.no*8<size)).map λx=>DR x size 1099511627776:=rfl
    generalize (l.filter λx=>decide (x.no*8<size))=F at b2 hfl hfm hte;simp[show 0<H3.length by omega,Bz b2];have hsp:MaySpan ⟨size,1099511627776 - size⟩:=by simp only[MaySpan,May];omega
    refine ID (λt x2 x3 x4 x30 x31 H=>∃i:Nat,i+t=F.length∧x2=.ptr 0 0∧x3=.ptr 1 0∧x4=.ptr 2 0∧x30=I F.length∧x31=I i∧H[0]?=some (some (.cells [I size,r2]))∧H[1]?=some (some (.cells [I size]))∧H[2]?=some (some (.cells [I 0,Ad]))∧
     Aa H 9 r2=some (((F.take i).map (λx=>DR x size 1099511627776)++F.drop i).flatMap Aw,((F.take i).map (λx=>DR x size 1099511627776)++F.drop i).length)) ?_ F.length
     ⟨0,by omega,rfl,rfl,rfl,rfl,rfl,IJ (by omega),(Co (by omega)).trans d1,(Co (by omega)).trans d2,?_⟩
    ·rintro t x2 x3 x4 x30 x31 H R hR ⟨i,hi,rfl,rfl,rfl,rfl,rfl,e0,e1,e2,e3⟩
     unfold Gf;have hH0:=(B5.1 e0).1;have hH1:=(B5.1 e1).1;have hH2:=(B5.1 e2).1;rcases tD i F.length with hlt | hge
     ·have hx:=E5 hlt
      generalize F[i]=x at hx;obtain⟨x0,x1⟩:=hfm x (tB hx);obtain⟨p,H',f1,f2,f3,f4,f5⟩:=XI (s:=⟨size,1099511627776 - size⟩) e3 b1 (Xx hx) (a:=i) rfl hsp x0 x1;simp only[show size+(1099511627776 - size)=1099511627776 by omega]at f5;rw[map_set (f:=λx=>DR x size 1099511627776) hx]at f5;simp[hlt,e0,e1,f1,Ci (a:=1099511627776) (b:=size) (by omega) (by omega)];refine bC_of f2 ?_;simp[Az (a:=i) (b:=1) (by omega) (by omega)];refine hR (t - 1) _ _ _ _ _ _ (by omega) ⟨i+1,by omega,rfl,rfl,rfl,rfl,rfl,by rw[f4 0 hH0 (id3 0 (by omega))];exact e0,by rw[f4 1 hH1 (id3 1 (by omega))];exact e1,by rw[f4 2 hH2 (id3 2 (by omega))];exact e2,by rw[f5,Qi,Qi]⟩
     ·have:i=F.length:=by omega
      subst this;simp[e0,Am];rw[A6 (n:=2) (off:=0) (xs:=[I size,r2]) (cs:=[I 0,Ad]) (by simp[hr2]) e2 rfl (by simp)];simp[hH2];rw[wI,wX,uI,← hte]at e3
      exact ContK.some hw (Ae e3 λi hi=>by
       have h2:3≤i:=uT λh=>id3 i h hi
       rw[Co (by omega)])
    ·simp only[vF,sF,uS]
     exact Ae b2 λi hi=>by
      have h2:3≤i:=uT λh=>id3 i h hi
      rw[Co (by omega)]
 ·have hn:D1 (size0,l) size=none:=if_neg (λh=>h1 h.1)
  simp[h1,AU];exact ContK.none hn
theorem We {no pos n:Int}(h:NO pos n)(h0:0≤no)(h1:no<137438953472):(!decide (Within ⟨no*8,8⟩ ⟨pos,n⟩))=!gone pos n no:=by
 have e:Within ⟨no*8,8⟩ ⟨pos,n⟩↔(pos≤no*8∧no*8+8≤pos+n):=by
  rw[WV];unfold MN MaySpan May;unfold NO at h;simp only;omega
 unfold gone
 by_cases c1:pos≤no*8<;>by_cases c2:no*8+8≤pos+n<;>simp[e,c1,c2]
theorem QS {size:Int}{l:List Ext}{v:AV}(hv:SV Aw 9 l v)(hl:l.length≤1000000)(pos n:Int):
  ∃R,SV Aw 9 (cL (Gz (size,l) pos n)) R∧BPure prog 172 [.agg [I size,v],I pos,I n] (.tup [.agg [I (cS (Gz (size,l) pos n)),R],B (Gz (size,l) pos n).isSome]):=by
 refine BPure.cont (by simp[Ay,noIds,hv.1]) (PP ?_);unfold Nv;simp[GN hv,Am];refine A3 (Ft hv (by omega)) ?_
 by_cases h1:E1 size l
 ·simp[h1]
  refine A3 (Ma pos n) ?_
  by_cases h2:NO pos n
  ·have hw:Gz (size,l) pos n=some (size,Iq l pos n):=if_pos ⟨h1,h2⟩
   have h2':=h2;obtain⟨g1,g2,g3,g4⟩:=h2';simp[h2];obtain⟨r,H2,⟨w,rfl,a2,a3,a4,a5⟩,a1⟩:=Nl (size:=size) (hv.2 [some (.cells [I size,v]),some (.cells [I 0,Ad])]) (GN hv) (by omega);refine bC_of a1 ?_;have c0:=a4.cells (o:=0) (x:=some (.cells [I size,v])) rfl;have c2:=a4.cells (o:=1) (x:=some (.cells [I 0,Ad])) rfl;have hl2:=a4.1;simp only[qZ]at hl2;have hwo:=AK a2;have id0:∀j,j<2→j∉AP w:=λj hj h=>by have:=a5 j h;simp at this;omega
   have hs0:=NV h1.2.2;have hno:=λx hx=>(Qk h1.2.2 x hx)
   rw[A6 (n:=2) (off:=0) (x:=.agg [I size,w]) (xs:=[I size,w]) (by simp[hwo]) c0 rfl (by simp)];simp;rw[A6 (n:=2) (off:=0) (x:=.agg [I pos,I n]) (xs:=[I pos,I n]) (cs:=[I 0,I 0]) (by simp) (by rw[tA (by simp)];simp) rfl (by simp)]
   have hset:((H2.set 0 (some (AObj.cells [I size,w])))++[some (AObj.cells [I 0,I 0])]).set H2.length (some (AObj.cells (AS [I 0,I 0] 0 [I pos,I n])))=(H2.set 0 (some (AObj.cells [I size,w])))++[some (AObj.cells [I pos,I n])]:=by
    rw[List.set_append_right _ _ (by simp)];simp
   rw[hset];have g:=Grew.app (H2.set 0 (some (AObj.cells [I size,w]))) [some (.cells [I pos,I n])];have keep0:∀j x,j≠0→(H2.set 0 x)[j]?=H2[j]?:=λj x hj=>Co (by omega)
   have z0:=g.cells (o:=0) (x:=some (.cells [I size,w])) (IJ (by omega));have z1:=g.cells (o:=1) (x:=some (.cells [I 0,Ad])) (by rw[keep0 1 _ (by omega)];exact c2);have z2:(H2.set 0 (some (AObj.cells [I size,w]))++[some (AObj.cells [I pos,I n])])[H2.length]?=some (some (.cells [I pos,I n])):=by rw[tA (by simp)];simp
   have zid:H2.length∉AP w:=λh=>by have:=Au a3 _ h;omega
   have hlen3:(H2.set 0 (some (AObj.cells [I size,w]))++[some (AObj.cells [I pos,I n])]).length=H2.length+1:=by simp
   have hw1:=g.slice (Ae (H':=H2.set 0 (some (AObj.cells [I size,w]))) a3 λi hi=>keep0 i _ (λh=>id0 0 (by omega) (h▸hi)));generalize hH3:(H2.set 0 (some (AObj.cells [I size,w]))++[some (AObj.cells [I pos,I n])])=H3 at g z0 z1 z2 hw1 hlen3;generalize H2.length=so at z2 zid hlen3 hl2;simp[z0];obtain⟨r2,H4,⟨b1,b2,b3,b4,b5⟩,b6⟩:=IB (k:=203) hw1 a2 (by omega) (oc:=so) (c:=BQ ⟨pos,n⟩) z2 zid (YC so ⟨pos,n⟩ l λx hx=>by have:=hno x hx;omega)
   have hfe:(l.filter λx=>!decide (Within ⟨x.no*8,8⟩ ⟨pos,n⟩))=l.filter λx=>!gone pos n x.no:=List.filter_congr λx hx=>by
    have:=hno x hx
    exact We h2 (by omega) (by omega)
   rw[hfe]at b2;refine bC_of b6 ?_;have id3:∀j,j<2→j∉AP r2:=λj hj h=>id0 j hj (b5 j h)
   have id4:so∉AP r2:=λh=>zid (b5 so h)
   have d0:H4[0]?=some (some (.cells [I size,w])):=by rw[b4 0 (by omega) (id0 0 (by omega))];exact z0
   have d1:H4[1]?=some (some (.cells [I 0,Ad])):=by rw[b4 1 (by omega) (id0 1 (by omega))];exact z1
   have d2:H4[so]?=some (some (.cells [I pos,I n])):=by rw[b4 so (by omega) zid];exact z2
   have hr2:=AK b1;rw[A6 (n:=1) (off:=1) (xs:=[r2]) (cs:=[I size,w]) (AL hr2) d0 rfl (by simp)];have hfl:(l.filter λx=>!gone pos n x.no).length≤l.length:=vK _ _
   have hfm:∀x∈(l.filter λx=>!gone pos n x.no),0≤x.no∧x.no<137438953472:=λx hx=>by
    have:=hno x (vT.1 hx).1;omega
   have hte:Iq l pos n=(l.filter λx=>!gone pos n x.no).map λx=>DR x pos (pos+n):=rfl
   generalize (l.filter λx=>!gone pos n x.no)=F at b2 hfl hfm hte;simp[show 0<H4.length by omega,Bz b2];have hsp:MaySpan ⟨pos,n⟩:=by simp only[MaySpan,May];omega
   refine K8 (λt x3 x6 x8 x32 x33 H=>∃i:Nat,i+t=F.length∧x3=.ptr 0 0∧x6=.ptr 1 0∧x8=.ptr so 0∧x32=I F.length∧x33=I i∧H[0]?=some (some (.cells [I size,r2]))∧H[1]?=some (some (.cells [I 0,Ad]))∧H[so]?=some (some (.cells [I pos,I n]))∧
    Aa H 9 r2=some (((F.take i).map (λx=>DR x pos (pos+n))++F.drop i).flatMap Aw,((F.take i).map (λx=>DR x pos (pos+n))++F.drop i).length)) ?_ F.length
    ⟨0,by omega,rfl,rfl,rfl,rfl,rfl,IJ (by omega),(Co (by omega)).trans d1,(Co (by omega)).trans d2,?_⟩
   ·rintro t x3 x6 x8 x32 x33 H R hR ⟨i,hi,rfl,rfl,rfl,rfl,rfl,e0,e1,e2,e3⟩
    unfold HO;have hH0:=(B5.1 e0).1;have hH1:=(B5.1 e1).1;have hH2:=(B5.1 e2).1;rcases tD i F.length with hlt | hge
    ·have hx:=E5 hlt
     generalize F[i]=x at hx;obtain⟨x0,x1⟩:=hfm x (tB hx);obtain⟨p,H',f1,f2,f3,f4,f5⟩:=XI (s:=⟨pos,n⟩) e3 b1 (Xx hx) (a:=i) rfl hsp x0 x1;rw[map_set (f:=λx=>DR x pos (pos+n)) hx]at f5;simp[hlt,e0,e2,f1,Am];refine bC_of f2 ?_;simp[Az (a:=i) (b:=1) (by omega) (by omega)];refine hR (t - 1) _ _ _ _ _ _ (by omega) ⟨i+1,by omega,rfl,rfl,rfl,rfl,rfl,by rw[f4 0 hH0 (id3 0 (by omega))];exact e0,by rw[f4 1 hH1 (id3 1 (by omega))];exact e1,by rw[f4 so hH2 id4];exact e2,by rw[f5,Qi,Qi]⟩
    ·have:i=F.length:=by omega
     subst this;simp[e0,Am];rw[A6 (n:=2) (off:=0) (xs:=[I size,r2]) (cs:=[I 0,Ad]) (by simp[hr2]) e1 rfl (by simp)];simp[hH1];rw[wI,wX,uI,← hte]at e3
     exact ContK.some hw (Ae e3 λi hi=>by
      have h2:2≤i:=uT λh=>id3 i h hi
      rw[Co (by omega)])
   ·simp only[vF,sF,uS]
    exact Ae b2 λi hi=>by
     have h2:2≤i:=uT λh=>id3 i h hi
     rw[Co (by omega)]
  ·have hn:Gz (size,l) pos n=none:=if_neg (λh=>h2 h.2)
   simp[h2,AU];exact ContK.none hn
 ·have hn:Gz (size,l) pos n=none:=if_neg (λh=>h1 h.1)
  simp[h1,AU];exact ContK.none hn
def PA (ns:List Nm)(s t:List UInt8):Prop:=AO Nm.name ns s∧Gi t∧s≠t
instance (ns:List Nm) (s t:List UInt8):Decidable (PA ns s t):=by unfold PA;infer_instance
def Tw (ns:List Nm)(s t:List UInt8):List Nm:=if PA ns s t then Ht AW Nm.name (Ez (CB AW Nm.name ns s) t) ⟨t,Ey ns s⟩else ns
def Tv (ns:List Nm)(dv:List NdV)(s t:List UInt8):List NdV:=if PA ns s t then P9 (CB AW Nm.name ns s) dv t else dv
theorem YF {ns:List Nm}{t:List UInt8}(h:BP AW Nm.name ns):BP AW Nm.name (Ez ns t):=by
 unfold Ez
 split
 ·exact DQ h
 ·exact h
theorem YE {ns:List Nm}{t:List UInt8}:(Ez ns t).length≤ns.length:=by
 unfold Ez
 split
 ·exact delK_sub.length_le
 ·exact sY _
theorem bD {L oi:Nat}{ns:List Nm}{dv:List NdV}{a b:AV}{H:AH}{s t:List UInt8}(h:ImH L oi ns dv a b H)(hs:BP AW Nm.name ns)(hd:BP BS NdV.ino dv)(hx:∀x∈ns,AO NdV.ino dv x.ino)(hn:ns.length≤100000)(hm:dv.length≤100000)(ht:t.length≤1000000000):
  ∃r H',pO L oi H (Tw ns s t) (Tv ns dv s t) r H'∧BCall prog 154 [.ptr oi 0,S (As s),S (As t)] H r H':=PZ (by
 obtain⟨Ra,Rb,sa,sb,fz⟩:=h.lend;have c0:=h.obj;unfold NF;have b0:∀a b:AV,Am true 2 [a,b] 0=some (.agg [a,b]):=λ_ _=>rfl
 have hno:¬PA ns s t→pO L oi H (Tw ns s t) (Tv ns dv s t) (.tup []) H:=λhc=>by
  unfold Tw Tv;rw[if_neg hc,if_neg hc];exact⟨rfl,a,b,h,FrL.refl _ _ _⟩
 simp[c0,b0];refine bC_of (PCall.lend (FZs.cons fz (FZs.cons (FZ.lit _) FZs.nil)) rfl (NP sa sb hs (by omega) s)).call ?_
 by_cases q1:AO Nm.name ns s
 ·simp[q1]
  refine A3 (Ll (s:=t) (by omega)) ?_
  by_cases q2:Gi t
  ·by_cases q3:s=t
   ·simp[q2,FS,q3]
    rw[← q3]at hno⊢;exact hno λhc=>hc.2.2 rfl
   ·have hc:PA ns s t:=⟨q1,q2,q3⟩
    unfold Tw Tv;rw[if_pos hc,if_pos hc];obtain⟨x,hx1,hx2,hx3⟩:=IU koN hs q1;obtain⟨o,off,cells,u1,u2,u3,u4,u5,-⟩:=RI DL (by omega) h.sa h.oa hx1;have u51:=u5 1 (by omega);have hpl:=(B5.1 hx1).1;have e1:Ey ns s=x.ino:=by unfold Ey;rw[hx2]
    simp[q2,FS,q3,c0,b0,u1,u3,u51,Ca,Az (a:=(CP AW Nm.name ns s:Nat)) (b:=1) (by omega) (by omega)];obtain⟨r1,H2,⟨d1,d2,d3,d4,d5,d6⟩,d7⟩:=ZJ h.sa h.oa h.ca hpl (by omega);refine bC_of d7 ?_;have l1:=K4 (c:=AW) (key:=Nm.name) (k:=s) hpl;obtain⟨H3,e3,n1,n2⟩:=h.newA (ms:=CB AW Nm.name ns s) (wQ d3.symm) (λi _ hi=>d4 i hi) (by rw[show(CB AW Nm.name ns s).length=ns.length - 1 by omega];exact d2) d1 (by rw[show(CB AW Nm.name ns s).length=ns.length - 1 by omega];exact d6) (λi hi=>.inl (d5▸hi));simp[e3];have hs1:BP AW Nm.name (CB AW Nm.name ns s):=DQ hs;obtain⟨r4,H4,⟨rfl,a4,b4,m1,m2⟩,m3⟩:=VS (s:=t) n1 hs1 hd (λy hy=>hx y (delK_sub.subset hy)) (by omega) hm;refine bC_of m3 ?_;have c4:=m1.obj;obtain⟨Sa,Sb,ta,tb,gz⟩:=m1.lend;have hs2:=YF (t:=t) hs1;have hl2:=YE (ns:=CB AW Nm.name ns s) (t:=t);simp[c4,b0];refine bC_of (PCall.lend (FZs.cons gz (FZs.cons (FZ.lit _) FZs.nil)) rfl (NP ta tb hs2 (by omega) t)).call ?_;have g5:=Grew.app H4 [some (.cells (Ca ⟨t,x.ino⟩))];have m5:=m1.grew g5;have e5:Dh H4 2 1 (Bo [(.lit (.string ⟨#[]⟩)),(I 0)] 1) [(0,2,.agg (Ca ⟨t,x.ino⟩))]=some (.sl H4.length 0 1 2 (.ex 1),H4++[some (.cells (Ca ⟨t,x.ino⟩))]):=rfl;have e6:EW [(.lit (.string ⟨#[]⟩)),(I 0)] [(0,1,S (As t)),(1,1,I x.ino)]=some (.agg (Ca ⟨t,x.ino⟩)):=rfl;simp[c4,e5,e6];obtain⟨r7,H7,⟨k1,k2,k3,k4,k5,k6⟩,k7⟩:=ZX (x:=⟨t,x.ino⟩) (oj:=H4.length) m5.sa m5.oa m5.ca (Qo (c:=AW) (key:=Nm.name) _ t) (by omega) (by simp) (λhh=>by have:=Au m1.sa _ hh;omega);refine bC_of k7 ?_;have el:=Rw (c:=AW) (key:=Nm.name) (l:=Ez (CB AW Nm.name ns s) t) (x:=⟨t,x.ino⟩);obtain⟨H8,e8,p1,p2⟩:=m5.newA (ms:=Ht AW Nm.name (Ez (CB AW Nm.name ns s) t) ⟨t,x.ino⟩) k3 k4 (by rw[el];exact k2) k1 (by rw[el];exact k6) k5;simp[e8];rw[e1];have hle:=m1.len;exact⟨rfl,_,_,p1,n2.trans (m2.trans ⟨tL g5.1 p2.1,λj h1 h2=>(p2.2 j h1 h2).trans (g5.2 j (by omega))⟩)⟩
  ·simp[q2]
   exact hno λhc=>q2 hc.2.1
 ·simp[q1]
  exact hno λhc=>q1 hc.1)
def O4 (o:OpM)(d:Nd):Option F9:=if o.kind=2 then G4 (d.size,d.l) o.pos o.b else if o.kind=3 then D1 (d.size,d.l) o.size else if o.kind=4 then Fq (d.size,d.l) o.pos o.size o.keep else if o.kind=5 then Gz (d.size,d.l) o.pos o.size else none
def QB (ds:List Nd)(o:OpM):List Nd:=match YR Nd.ino ds o.ino with
 | some d=>match O4 o d with
  | some c=>ds.set (CP BS Nd.ino ds o.ino) ⟨d.ino,c.1,c.2⟩
  | none=>ds
 | none=>ds
theorem Vf {L oi k q:Nat}{ns:List Nm}{dv:List NdV}{a b R:AV}{H:AH}{x:NdV}{sz:Int}{l:List Ext}(h:ImH L oi ns dv a b H)(hx:dv[k]?=some x)(hR:SV Aw 9 l R)(hq:H[q]?=some (some (.cells [I sz,R])))(ok:Bool):
  ∃H',ImH L oi ns (if ok=true then dv.set k ⟨⟨x.nd.ino,sz,l⟩,R,hR⟩else dv) a b H'∧FrL L oi H H'∧∀K:AV→AH→Prop,K (.tup []) H'→BX (.ptr oi 0) (I k) (B ok) (.ptr q 0) H K:=by
 cases ok with
 | false=>
  refine⟨H,h,FrL.refl _ _ _,λK hK=>?_⟩;rw[Hs];unfold Fv;rw[GB];unfold ES
  simpa using hK
 | true=>
  obtain⟨o,off,cells,u1,u2,u3,u4,u5,u6⟩:=RI CX (by omega) h.sb h.ob hx;have oL:=h.ib o u2;have hoo:o≠oi:=λe=>h.noB (e▸u2)
  have hle:=h.len;have o2:=SV.oneA hR;have c0:=h.obj;have hol:=(B5.1 u3).1
  have e1:AU 2 H (.ptr o (off+1)) (.agg [I sz,R])=some (H.set o (some (.cells (AS cells (off+1) [I sz,R])))):=by
   rw[A6 (n:=2) (xs:=[I sz,R]) (by simp[o2]) u3 rfl (by omega)]
  refine⟨H.set o (some (.cells (AS cells (off+1) [I sz,R]))),⟨?_,h.lo,by simp;omega,?_,h.oa,h.ca,h.ia,?_,h.ob,by simpa using h.cb,h.ib,h.ab⟩,⟨by simp,λj h1 h2=>Co (by omega)⟩,λK hK=>?_⟩
  ·rw[Co (by omega)];exact c0
  ·exact Ae h.sa λi hi=>Co (fun (e:o=i)=>h.ab i hi (e▸u2))
  ·have:=u6 ⟨⟨x.nd.ino,sz,l⟩,R,hR⟩ 1 [I sz,R] rfl (by simp)
   simpa using this
  ·rw[Hs];unfold Fv
   rw[GB];unfold ES;have b0:Am true 2 [I sz,R] 0=some (.agg [I sz,R]):=rfl;simp only[Ag,Ap];have e3:Ar false 1 H (.ptr oi 1)=some b:=by rw[Al c0];rfl
   have e4:Ar true 2 H (.ptr q 0)=some (.agg [I sz,R]):=by rw[Al hq];rfl
   show bO (some (AV.ptr oi 0)) _
   simp only[Ab]
   show bO (some (AV.ptr oi 1)) _
   simp only[Ab,e3,e4,u1]
   show bO (some (AV.ptr o (off+1))) _
   simp only[Ab,e1,AE];exact hK
def ChP (L oi:Nat)(H:AH)(ns:List Nm)(ds:List Nd)(r:AV)(H':AH):Prop:=r=.tup []∧∃a b dv,dv.map NdV.nd=ds∧ImH L oi ns dv a b H'∧FrL L oi H H'
abbrev vE:=@Option.isSome_some
theorem Zw {L oi:Nat}{ns:List Nm}{dv:List NdV}{a b bv:AV}{H:AH}{o:OpM}(h:ImH L oi ns dv a b H)(hs:BP AW Nm.name ns)(hd:BP BS NdV.ino dv)(hb:SV QN 1 o.b bv)(hm:dv.length≤100000)(hbl:o.b.length≤281474976710656)(hl:∀d∈dv,d.nd.l.length≤1000000)(hk:o.kind=2∨o.kind=3∨o.kind=4∨o.kind=5):
  ∃r H',ChP L oi H ns (QB (dv.map NdV.nd) o) r H'∧BCall prog 153 [.ptr oi 0,.agg (Dm o bv)] H r H':=PU (by
 obtain⟨H1,e1,hp,h1,f1⟩:=aQ h o (SV.oneA hb);obtain⟨Ra,Rb,sa,sb,fz⟩:=h1.lend;have c0:=h1.obj;unfold NB;simp only[e1,A1];have b0:Am true 2 [a,b] 0=some (.agg [a,b]):=rfl;simp[hp,c0,b0,Dm];refine bC_of (PCall.lend (FZs.cons fz (FZs.cons (FZ.lit _) FZs.nil)) rfl (RB sa sb hd (by omega) o.ino)).call ?_
 by_cases q1:AO NdV.ino dv o.ino
 ·obtain⟨x,hx1,hx2,hx3⟩:=IU koI hd q1
  obtain⟨oo,off,cells,u1,u2,u3,u4,u5,u6⟩:=RI CX (by omega) h1.sb h1.ob hx1;have hxl:=hl x (tB hx1)
  have rd1:Am true 2 cells (off+1)=some (.agg [I x.nd.size,x.R]):=by
   have e51:=u5 1 (by omega);have e52:=u5 2 (by omega);have l2:off+1+2≤cells.length:=by omega
   have:(cells.drop (off+1)).take 2=[I x.nd.size,x.R]:=by
    rw[uP (by omega),uP (by omega)];rw[E5 (by omega)]at e51 e52;simp[BH]at e51 e52;simp[e51,e52]
   simp[Am,l2,this]
  have o1:=SV.oneA x.h
  have fin:∀(res:Option F9) (R:AV) (Hc:AH) (sR:SV Aw 9 (cL res) R),O4 o x.nd=res→ImH L oi ns dv a b Hc→FrL L oi H1 Hc→∀q,Hc[q]?=some (some (.cells [I (cS res),R]))→BX (.ptr oi 0) (I (CP BS NdV.ino dv o.ino)) (B res.isSome) (.ptr q 0) Hc (ChP L oi H ns (QB (dv.map NdV.nd) o)):=by
   intro res R Hc sR hr hc fc q hq;obtain⟨H9,w1,w2,w3⟩:=Vf hc hx1 sR hq res.isSome;refine w3 _ ⟨rfl,_,_,_,?_,w1,f1.trans (fc.trans w2)⟩;unfold QB;rw[Xk hx2];simp only[hr];cases res with
   | none=>rfl
   | some c=>
    simp only[vE,if_true,xC,RK];rfl
  simp[q1,c0,u1,u3,rd1]
  obtain⟨H2,e2,hq2,hp2,h2,f2⟩:∃H2,AU 2 (H1++[some (.cells [I 0,Ad])]) (.ptr H1.length 0) (.agg [I x.nd.size,x.R])=some H2∧H2[H1.length]?=some (some (.cells [I x.nd.size,x.R]))∧H2[H.length]?=some (some (.cells (Dm o bv)))∧ImH L oi ns dv a b H2∧FrL L oi H1 H2:=by
   have g:=Grew.app H1 [some (.cells [I x.nd.size,x.R])];have hle:=h1.len;exact⟨_,by simp[AU,AS,o1,AL o1],by simp,g.cells hp,h1.grew g,g.1,λj i1 i2=>g.2 j (by omega)⟩
  have hol2:=(B5.1 hq2).1;have hql:L≤H1.length:=h1.len
  have put:∀(sz:Int) (R:AV),oneA R=true→AU 2 H2 (.ptr H1.length 0) (.agg [I sz,R])=some (H2.set H1.length (some (.cells [I sz,R])))∧ImH L oi ns dv a b (H2.set H1.length (some (.cells [I sz,R])))∧FrL L oi H1 (H2.set H1.length (some (.cells [I sz,R])))∧(H2.set H1.length (some (.cells [I sz,R])))[H1.length]?=some (some (.cells [I sz,R])):=by
   intro sz R hR;have hlo:=(B5.1 h1.obj).1;refine⟨?_,⟨?_,h2.lo,by simpa using h2.len,?_,h2.oa,h2.ca,h2.ia,?_,h2.ob,h2.cb,h2.ib,h2.ab⟩,⟨by simpa using f2.1,λj i1 i2=>?_⟩,by simp[hol2]⟩
   ·rw[A6 (n:=2) (off:=0) (xs:=[I sz,R]) (by simp[hR]) hq2 rfl (by simp)];rfl
   ·rw[Co (by omega)];exact h2.obj
   ·exact Ae h2.sa λi hi=>Co (by have:=Au h1.sa i hi;omega)
   ·exact Ae h2.sb λi hi=>Co (by have:=Au h1.sb i hi;omega)
   ·rw[Co (by omega)];exact f2.2 j i1 i2
  have b1:∀(s:Int) (R:AV),Am true 2 [I s,R] 0=some (.agg [I s,R]):=λ_ _=>rfl
  simp[e2,hp2,Dm];rcases hk with hk | hk | hk | hk
  ·simp[hk,hq2,b1,hp2,Dm]
   obtain⟨R,s1,p1⟩:=QT x.h hxl o.pos hb hbl;refine A3 p1 ?_;obtain⟨t1,t2,t3,t4⟩:=put (cS (G4 (x.nd.size,x.nd.l) o.pos o.b)) R (SV.oneA s1);simp[t1];exact fin _ R _ s1 (by unfold O4;rw[if_pos hk]) t2 t3 _ t4
  ·simp[hk,hq2,b1,hp2,Dm]
   obtain⟨R,s1,p1⟩:=HT (size0:=x.nd.size) x.h hxl o.size;refine A3 p1 ?_;obtain⟨t1,t2,t3,t4⟩:=put (cS (D1 (x.nd.size,x.nd.l) o.size)) R (SV.oneA s1);simp[t1];exact fin _ R _ s1 (by unfold O4;rw[if_neg (by omega),if_pos hk]) t2 t3 _ t4
  ·simp[hk,hq2,b1,hp2,Dm]
   obtain⟨R,s1,p1⟩:=Nt (size:=x.nd.size) x.h hxl o.pos o.size o.keep;refine A3 p1 ?_;obtain⟨t1,t2,t3,t4⟩:=put (cS (Fq (x.nd.size,x.nd.l) o.pos o.size o.keep)) R (SV.oneA s1);simp[t1];exact fin _ R _ s1 (by unfold O4;rw[if_neg (by omega),if_neg (by omega),if_pos hk]) t2 t3 _ t4
  ·simp[hk,hq2,b1,hp2,Dm]
   obtain⟨R,s1,p1⟩:=QS (size:=x.nd.size) x.h hxl o.pos o.size;refine A3 p1 ?_;obtain⟨t1,t2,t3,t4⟩:=put (cS (Gz (x.nd.size,x.nd.l) o.pos o.size)) R (SV.oneA s1);simp[t1];exact fin _ R _ s1 (by unfold O4;rw[if_neg (by omega),if_neg (by omega),if_neg (by omega),if_pos hk]) t2 t3 _ t4
 ·simp[q1]
  refine⟨rfl,a,b,dv,?_,h1,f1⟩;unfold QB;rw[UZ (λhh=>q1 (KM.1 hh))])
theorem Z2 {H:AH}{v:AV}{cs:List AV}{n:Nat}(h:Aa H 2 v=some (cs,n))(hn:n≤1000000000):
  ∃r H',(AM r=true∧Aa H' 2 r=some (cs,n)∧Grew H H'∧(∀i∈AP r,H.length≤i)∧BV r n)∧BCall prog 96 [v] H r H':=EU (by
 unfold Dk;rcases Jv h with⟨rfl,rfl,rfl⟩ | hb
 ·have e:UH .eql LC Ad Ad=some (B true):=rfl
  simp only[e,rA,Ap];exact⟨rfl,h,Grew.refl H,by simp[AP],by simp[BV]⟩
 ·simp only[hb,rA,Ah]
  have e:Dh H 2 0 (Bo [(.lit (.string ⟨#[]⟩)),(I 0)] 0) []=some (.sl H.length 0 0 2 (.ex 0),H++[some (.cells [])]):=rfl;simp only[e,A1];have g:=Grew.app H [some (.cells [])];have h0:Aa (H++[some (.cells [])]) 2 (.sl H.length 0 0 2 (.ex 0))=some ([],0):=by simp[Aa]
  obtain⟨r,H2,a1,a2,a3,a4,a5,a6⟩:=DK (sz:=2) (bytes:=24) (H:=H++[some (.cells [])]) (v:=.sl H.length 0 0 2 (.ex 0)) (cs:=[]) (n:=0) h0 rfl (AJ (g.slice h)) (by omega);have a7:=MO h0 rfl (AJ (g.slice h)) (by simp[BV]) a1;simp only[a1,A1];refine⟨a2,by simpa using a3,⟨by simp at a4;omega,λi hi=>?_⟩,λi hi=>?_,by simpa using a7⟩
  ·rw[a5 i (by simp;omega) (by simp[AP];omega)]
   exact g.2 i hi
  ·rcases a6 i hi with h | h
   ·simp[AP]at h;omega
   ·simp at h;omega)
theorem Z0 {H:AH}{v:AV}{cs:List AV}{n:Nat}(h:Aa H 3 v=some (cs,n))(hn:n≤1000000000):
  ∃r H',(AM r=true∧Aa H' 3 r=some (cs,n)∧Grew H H'∧(∀i∈AP r,H.length≤i)∧BV r n)∧BCall prog 97 [v] H r H':=EV (by
 unfold Dl;rcases Jv h with⟨rfl,rfl,rfl⟩ | hb
 ·have e:UH .eql LC Ad Ad=some (B true):=rfl
  simp only[e,rA,Ap];exact⟨rfl,h,Grew.refl H,by simp[AP],by simp[BV]⟩
 ·simp only[hb,rA,Ah]
  have e:Dh H 3 0 (Bo [(I 0),(I 0),Ad] 0) []=some (.sl H.length 0 0 3 (.ex 0),H++[some (.cells [])]):=rfl;simp only[e,A1];have g:=Grew.app H [some (.cells [])];have h0:Aa (H++[some (.cells [])]) 3 (.sl H.length 0 0 3 (.ex 0))=some ([],0):=by simp[Aa]
  obtain⟨r,H2,a1,a2,a3,a4,a5,a6⟩:=DK (sz:=3) (bytes:=40) (H:=H++[some (.cells [])]) (v:=.sl H.length 0 0 3 (.ex 0)) (cs:=[]) (n:=0) h0 rfl (AJ (g.slice h)) (by omega);have a7:=MO h0 rfl (AJ (g.slice h)) (by simp[BV]) a1;simp only[a1,A1];refine⟨a2,by simpa using a3,⟨by simp at a4;omega,λi hi=>?_⟩,λi hi=>?_,by simpa using a7⟩
  ·rw[a5 i (by simp;omega) (by simp[AP];omega)]
   exact g.2 i hi
  ·rcases a6 i hi with h | h
   ·simp[AP]at h;omega
   ·simp at h;omega)
structure OwI (L:Nat)(ns:List Nm)(dv:List NdV)(a b:AV)(H:AH):Prop where
 sa:Aa H 2 a=some (ns.flatMap Ca,ns.length)
 oa:AM a=true
 ca:BV a ns.length
 ia:∀i∈AP a,L≤i
 sb:Aa H 3 b=some (dv.flatMap BH,dv.length)
 ob:AM b=true
 cb:BV b dv.length
 ib:∀i∈AP b,L≤i
 ab:∀i∈AP a,i∉AP b
def mQ (H:AH)(ns:List Nm)(ds:List Nd)(r:AV)(H':AH):Prop:=∃a b dv,r=.agg [a,b]∧dv.map NdV.nd=ds∧Grew H H'∧OwI H.length ns dv a b H'
theorem ImH.putD {L oi k:Nat}{ns:List Nm}{dv:List NdV}{a b R:AV}{H:AH}{x:NdV}{sz:Int}{l:List Ext}(h:ImH L oi ns dv a b H)(hx:dv[k]?=some x)(hR:SV Aw 9 l R):
  ∃o off cells H',Bv 3 b (I k)=some (.ptr o off)∧H[o]?=some (some (.cells cells))∧Am true 2 cells (off+1)=some (.agg [I x.nd.size,x.R])∧AU 2 H (.ptr o (off+1)) (.agg [I sz,R])=some H'∧ImH L oi ns (dv.set k ⟨⟨x.nd.ino,sz,l⟩,R,hR⟩) a b H'∧FrL L oi H H':=by
 obtain⟨o,off,cells,u1,u2,u3,u4,u5,u6⟩:=RI CX (by omega) h.sb h.ob hx;have oL:=h.ib o u2;have hoo:o≠oi:=λe=>h.noB (e▸u2)
 have hle:=h.len;have o2:=SV.oneA hR;have hol:=(B5.1 u3).1
 have rd1:Am true 2 cells (off+1)=some (.agg [I x.nd.size,x.R]):=by
  have e51:=u5 1 (by omega);have e52:=u5 2 (by omega);have l2:off+1+2≤cells.length:=by omega
  have:(cells.drop (off+1)).take 2=[I x.nd.size,x.R]:=by
   rw[uP (by omega),uP (by omega)];rw[E5 (by omega)]at e51 e52;simp[BH]at e51 e52;simp[e51,e52]
  simp[Am,l2,this]
 refine⟨o,off,cells,H.set o (some (.cells (AS cells (off+1) [I sz,R]))),u1,u3,rd1,?_,⟨?_,h.lo,by simp;omega,?_,h.oa,h.ca,h.ia,?_,h.ob,by simpa using h.cb,h.ib,h.ab⟩,⟨by simp,λj h1 h2=>Co (by omega)⟩⟩
 ·rw[A6 (n:=2) (xs:=[I sz,R]) (by simp[o2]) u3 rfl (by omega)]
 ·rw[Co (by omega)];exact h.obj
 ·exact Ae h.sa λi hi=>Co (fun (e:o=i)=>h.ab i hi (e▸u2))
 ·have:=u6 ⟨⟨x.nd.ino,sz,l⟩,R,hR⟩ 1 [I sz,R] rfl (by simp)
  simpa using this
theorem YT {H:AH}{ns:List Nm}{dv:List NdV}{a b:AV}(sa:SV Ca 2 ns a)(sb:SV BH 3 dv b)(hn:ns.length≤100000)(hm:dv.length≤100000)(hl:∀d∈dv,d.nd.l.length≤1000000):
  ∃r H',mQ H ns (dv.map NdV.nd) r H'∧BCall prog 43 [.agg [a,b]] H r H':=Sy (by
 unfold Ro;have oa:=SV.oneA sa;have ob:=SV.oneA sb
 obtain⟨H3,e3,c0,c1,g3,l3⟩:∃H3,A8 (H++[some (.cells [a,b])]) (.agg [Ad,Ad])=some (.ptr (H.length+1) 0,H3)∧H3[H.length]?=some (some (.cells [a,b]))∧H3[H.length+1]?=some (some (.cells [Ad,Ad]))∧Grew H H3∧H3.length=H.length+2:=by
  refine⟨H++[some (.cells [a,b]),some (.cells [Ad,Ad])],by simp,by simp,by rw[tA (by omega)];simp,Grew.app _ _,by simp⟩
 simp[oa,ob,e3,c0];obtain⟨ra,H7,⟨p1,p2,p3,p4,p5⟩,p6⟩:=Z2 (sa.2 H3) (by omega);refine bC_of p6 ?_;have c7:=p3.cells c0;simp[c7];obtain⟨rb,H11,⟨q1,q2,q3,q4,q5⟩,q6⟩:=Z0 (sb.2 H7) (by omega);refine bC_of q6 ?_;have c8:=q3.cells c7;have ra1:=AK p1;have rb1:=AK q1;have l7:=p3.1;have l11:=q3.1
 have i0:ImH (H.length+2) H.length ns dv ra rb (H11.set H.length (some (.cells [ra,rb]))):=by
  refine⟨by rw[IJ (by omega)],⟨λq=>by have:=p4 _ q;omega,λq=>by have:=q4 _ q;omega⟩,by rw[tM];omega,?_,p1,p5,λi hi=>by have:=p4 i hi;omega,?_,q1,q5,λi hi=>by have:=q4 i hi;omega,λi hi hh=>?_⟩
  ·exact Ae (q3.slice p2) λi hi=>Co (by have:=p4 i hi;omega)
  ·exact Ae q2 λi hi=>Co (by have:=q4 i hi;omega)
  ·have:=q4 i hh;have:=Au p2 i hi;omega
 have e13:AU 2 H11 (.ptr H.length 0) (.agg [ra,rb])=some (H11.set H.length (some (.cells [ra,rb]))):=by
  rw[A6 (n:=2) (off:=0) (xs:=[ra,rb]) (by simp[ra1,rb1]) c8 rfl (by simp)];rfl
 have g13:Grew H (H11.set H.length (some (.cells [ra,rb]))):=⟨by simp;omega,λi hi=>by rw[Co (by omega),(g3.trans (p3.trans q3)).2 i hi]⟩
 have c13:(H11.set H.length (some (.cells [ra,rb])))[H.length+1]?=some (some (.cells [Ad,Ad])):=by
  rw[Co (by omega)];exact q3.cells (p3.cells c1)
 generalize H11.set H.length (some (.cells [ra,rb]))=H13 at i0 e13 g13 c13;have d0:=i0.obj;simp[AL ra1,AL rb1,e13];have ln:=Bz i0.sb;simp[d0,ln];refine M7 (λn x1 x2 x13 x14 H'=>∃(k:Nat) (ew:List NdV),k+n=dv.length∧x1=.ptr H.length 0∧x2=.ptr (H.length+1) 0∧x13=I dv.length∧x14=I k∧ew.map NdV.nd=dv.map NdV.nd∧ImH (H.length+2) H.length ns ew ra rb H'∧Grew H H'∧H'[H.length+1]?=some (some (.cells [Ad,Ad]))) ?_ dv.length ⟨0,dv,by omega,rfl,rfl,rfl,rfl,rfl,i0,g13,c13⟩;rintro n x1 x2 x13 x14 H' R hR ⟨k,ew,hk,rfl,rfl,rfl,rfl,hew,hi,hg,hc⟩;unfold JI;have el:ew.length=dv.length:=by have:=congrArg List.length hew;simpa using this
 have e0:=hi.obj;rcases tD k dv.length with h | h
 ·have hx:=E5 (l:=ew) (i:=k) (by omega)
  generalize ew[k]=x at hx
  have hxl:x.nd.l.length≤1000000:=by
   have h1:x.nd∈ew.map NdV.nd:=uH (tB hx);rw[hew]at h1;obtain⟨d,hd,e⟩:=tZ.1 h1;rw[← e];exact hl d hd
  obtain⟨R2,s2,p2⟩:=Vg (size:=x.nd.size) x.h (by omega);obtain⟨o,off,cells,H2,w1,w2,w3,w4,w5,w6⟩:=hi.putD (sz:=x.nd.size) hx s2;simp[h,e0,w1,w2,w3];refine bP_of p2 ?_;simp[w4,Az (a:=k) (b:=1) (by omega) (by omega)];refine hR (n - 1) _ _ _ _ _ (by omega) ⟨k+1,_,by omega,rfl,rfl,rfl,by simp,?_,w5,⟨by have:=hg.1;have:=w6.1;omega,λi hi2=>by rw[w6.2 i (by omega) (by omega),hg.2 i hi2]⟩,by rw[w6.2 _ (by omega) (by omega)];exact hc⟩;rw[← hew,xC];refine uF λj=>?_
  rw[uQ]
  split
  ·rename_i hj
   subst hj;rw[uJ,hx]
   simp;omega
  ·rfl
 ·have b0:Am true 2 [ra,rb] 0=some (.agg [ra,rb]):=rfl
  have hcl:=(B5.1 hc).1
  have e5:AU 2 H' (.ptr (H.length+1) 0) (.agg [ra,rb])=some (H'.set (H.length+1) (some (.cells [ra,rb]))):=by
   rw[A6 (n:=2) (off:=0) (xs:=[ra,rb]) (by simp[ra1,rb1]) hc rfl (by simp)];rfl
  simp[show ¬k<dv.length by omega,e0,b0,e5,hcl];refine⟨ra,rb,ew,rfl,hew,⟨by simpa using hg.1,λi hi2=>by rw[Co (by omega),hg.2 i hi2]⟩,⟨?_,hi.oa,hi.ca,λi q=>by have:=hi.ia i q;omega,?_,hi.ob,hi.cb,λi q=>by have:=hi.ib i q;omega,hi.ab⟩⟩
  ·exact Ae hi.sa λi q=>Co (by have:=hi.ia i q;omega)
  ·exact Ae hi.sb λi q=>Co (by have:=hi.ib i q;omega))
def Yl (ns:List Nm)(ds:List Nd)(o:OpM):Prop:=¬AO Nm.name ns o.name∧¬AO Nd.ino ds o.ino∧Gi o.name∧1≤o.ino∧o.ino≤4611686018427387904∧ns.length<16
instance (ns:List Nm) (ds:List Nd) (o:OpM):Decidable (Yl ns ds o):=by unfold Yl;infer_instance
def RM (ns:List Nm)(ds:List Nd)(s:List UInt8):List Nd:=if AO Nm.name ns s then CB BS Nd.ino ds (Ey ns s)else ds
def Cd (ns:List Nm)(ds:List Nd)(o:OpM):List Nm×List Nd:=
 if Io ns ds then
  if o.kind=1 then(if Yl ns ds o then(Ht AW Nm.name ns ⟨o.name,o.ino⟩,Ht BS Nd.ino ds ⟨o.ino,0,[]⟩)else(ns,ds))
  else if o.kind=2∨o.kind=3∨o.kind=4∨o.kind=5 then(ns,QB ds o)
  else if o.kind=6 then(if PA ns o.name o.to then(Ht AW Nm.name (Ez (CB AW Nm.name ns o.name) o.to) ⟨o.to,Ey ns o.name⟩,RM (CB AW Nm.name ns o.name) ds o.to)else(ns,ds))
  else if o.kind=7 then(Ez ns o.name,RM ns ds o.name)
  else(ns,ds)
 else(ns,ds)
abbrev xN:=@List.map_drop
theorem ZW {dv:List NdV}{i:Int}:(Ht BS NdV.ino dv (Ip i)).map NdV.nd=Ht BS Nd.ino (dv.map NdV.nd) ⟨i,0,[]⟩:=by
 unfold Ht;rw[RK,vA,vV,wW,xN];rfl
theorem ZI {dv:List NdV}{k:Int}:(CB BS NdV.ino dv k).map NdV.nd=CB BS Nd.ino (dv.map NdV.nd) k:=by
 unfold CB;rw[RK,vA,wW,xN]
theorem Tu {ns:List Nm}{dv:List NdV}{s:List UInt8}:(P9 ns dv s).map NdV.nd=RM ns (dv.map NdV.nd) s:=by
 unfold P9 RM
 split
 ·exact ZI
 ·rfl
theorem SO {ns:List Nm}{dv:List NdV}{o:OpM}:Yl ns (dv.map NdV.nd) o↔LV ns dv o:=by
 unfold Yl LV;rw[KM]
def qA (p:List Nm×List Nd)(r:AV)(X:AH):Prop:=∃R,FZ X r R∧ImV p.1 p.2 R
theorem GR {ns:List Nm}{dv:List NdV}{a b:AV}{H:AH}{p:List Nm×List Nd}(h:ImH 3 0 ns dv a b H)(h2:H[2]?=some (some (.cells [Ad,Ad])))(hp:p=(ns,dv.map NdV.nd)):CL (.ptr 0 0) (.ptr 2 0) H (qA p):=by
 rw[Ia];unfold FK;have c0:=h.obj;have b0:Am true 2 [a,b] 0=some (.agg [a,b]):=rfl;have ra1:=AK h.oa;have rb1:=AK h.ob;have hcl:=(B5.1 h2).1
 have e5:AU 2 H (.ptr 2 0) (.agg [a,b])=some (H.set 2 (some (.cells [a,b]))):=by
  rw[A6 (n:=2) (off:=0) (xs:=[a,b]) (by simp[ra1,rb1]) h2 rfl (by simp)];rfl
 simp[c0,b0,e5,hcl];have h3:ImH 3 0 ns dv a b (H.set 2 (some (.cells [a,b]))):=⟨by rw[Co (by omega)];exact c0,h.lo,by simpa using h.len,Ae h.sa λi q=>Co (by have:=h.ia i q;omega),h.oa,h.ca,h.ia,Ae h.sb λi q=>Co (by have:=h.ib i q;omega),h.ob,h.cb,h.ib,h.ab⟩;obtain⟨Ra,Rb,sa,sb,fz⟩:=h3.lend;subst hp;exact⟨_,fz,Ra,Rb,dv,rfl,sa,sb,rfl⟩
theorem WZ {ns:List Nm}{ds:List Nd}{v bv:AV}{o:OpM}(hv:ImV ns ds v)(hb:Sm ns ds)(hbv:SV QN 1 o.b bv)(hbl:o.b.length≤281474976710656)(hn:o.name.length≤1000000000)(ht:o.to.length≤1000000000):
  ∃R,ImV (Cd ns ds o).1 (Cd ns ds o).2 R∧BPure prog 82 [v,.agg (Dm o bv)] R:=by
 have hids:=hv.noIds;refine BPure.FZ (by simp[Ay]at hids⊢;exact⟨hids,by simp[Dm,noIds,Ay,hbv.1]⟩) (Rm (K:=qA (Cd ns ds o)) ?_);obtain⟨a,b,dv,rfl,sa,sb,rfl⟩:=hv;have b1:=hb.1;have b2:=hb.2.1;rw[uE]at b2;have oa:=SV.oneA sa;have ob:=SV.oneA sb;have o3:=SV.oneA hbv;unfold Pz;obtain⟨H5,e5,c0,c1,c2,l5⟩:∃H5,A8 [some (.cells [a,b]),some (.cells (Dm o bv))] (.agg [Ad,Ad])=some (.ptr 2 0,H5)∧H5[0]?=some (some (.cells [a,b]))∧H5[1]?=some (some (.cells (Dm o bv)))∧H5[2]?=some (some (.cells [Ad,Ad]))∧H5.length=3:=
  ⟨[some (.cells [a,b]),some (.cells (Dm o bv)),some (.cells [Ad,Ad])],by simp,rfl,rfl,rfl,rfl⟩
 have e4:A8 [some (.cells [a,b])] (.agg (Dm o bv))=some (.ptr 1 0,[some (.cells [a,b]),some (.cells (Dm o bv))]):=by simp[Dm,o3]
 have b0:∀x y:AV,Am true 2 [x,y] 0=some (.agg [x,y]):=λ_ _=>rfl
 simp[oa,ob,e4,e5,c0,b0];obtain⟨r,H8,⟨a',b',ew,rfl,hew,hg,ow⟩,hc⟩:=YT (H:=H5) sa sb (by omega) b2 (λd hd=>hb.2.2.2 d.nd (uH hd));refine bC_of hc ?_;have a1:=AK ow.oa;have a2:=AK ow.ob;have l8:=hg.1;rw[l5]at ow
 have e9:AU 2 H8 (.ptr 0 0) (.agg [a',b'])=some (H8.set 0 (some (.cells [a',b']))):=by
  rw[A6 (n:=2) (off:=0) (xs:=[a',b']) (by simp[a1,a2]) (hg.cells c0) rfl (by simp)];rfl
 have i9:ImH 3 0 ns ew a' b' (H8.set 0 (some (.cells [a',b']))):=⟨by rw[IJ (by omega)],⟨λq=>by have:=ow.ia _ q;omega,λq=>by have:=ow.ib _ q;omega⟩,by rw[tM];omega,Ae ow.sa λi q=>Co (by have:=ow.ia i q;omega),ow.oa,ow.ca,ow.ia,Ae ow.sb λi q=>Co (by have:=ow.ib i q;omega),ow.ob,ow.cb,ow.ib,ow.ab⟩;have k1:(H8.set 0 (some (.cells [a',b'])))[1]?=some (some (.cells (Dm o bv))):=by rw[Co (by omega)];exact hg.cells c1
 have k2:(H8.set 0 (some (.cells [a',b'])))[2]?=some (some (.cells [Ad,Ad])):=by rw[Co (by omega)];exact hg.cells c2
 simp only[e9,AE];generalize H8.set 0 (some (.cells [a',b']))=H9 at i9 k1 k2;have d0:=i9.obj;obtain⟨Ra,Rb,ta,tb,fz⟩:=i9.lend;have hsm:Sm ns (ew.map NdV.nd):=by rw[hew];exact hb
 have keep:∀{H':AH},FrL 3 0 H9 H'→H'[2]?=some (some (.cells [Ad,Ad])):=λf=>by rw[f.2 2 (by omega) (by omega)];exact k2
 rw[← hew];have b8:Am true 8 (Dm o bv) 0=some (.agg (Dm o bv)):=rfl;have el:ew.length=dv.length:=by have:=congrArg List.length hew;simpa using this
 have hlw:∀d∈ew,d.nd.l.length≤1000000:=λd hd=>hsm.2.2.2 d.nd (uH hd)
 simp[d0,b0];refine bP_of (PCall.lend (FZs.cons fz FZs.nil) rfl (UE ⟨Ra,Rb,ew,rfl,ta,tb,rfl⟩ hsm)) ?_
 by_cases hm:Io ns (ew.map NdV.nd)
 ·have hs:=hm.1.2.2.1
  have hd:=RU.1 hm.2.2.1;have hx:∀x∈ns,AO NdV.ino ew x.ino:=λx hx=>KM.1 ((V9.1 hm).2.2.2.2.1 x hx)
  simp[hm,k1,Dm]
  by_cases q1:o.kind=1
  ·have e:Cd ns (ew.map NdV.nd) o=(Vp ns ew o,(Vo ns ew o).map NdV.nd):=by
    unfold Cd Vp Vo;rw[if_pos hm,if_pos q1]
    by_cases hc:LV ns ew o
    ·rw[if_pos hc,if_pos hc,if_pos (SO.2 hc),ZW]
    ·rw[if_neg hc,if_neg hc,if_neg (λh=>hc (SO.1 h))]
   rw[decide_eq_true q1];simp only[Ap];obtain⟨r2,H2,⟨rfl,a3,b3,i3,f3⟩,w3⟩:=ZG i9 hs hd o3 b1 (by omega) hn;refine bC_of w3 ?_;exact GR i3 (keep f3) e
  ·have hJ8:∀t:Bool,(t=true↔(o.kind=2∨o.kind=3∨o.kind=4∨o.kind=5))→Du (.ptr 0 0) (.ptr 1 0) (.ptr 2 0) (I o.kind) (B t) H9 (qA (Cd ns (ew.map NdV.nd) o)):=by
    intro t htt;rw[N4];unfold IL
    by_cases q2:o.kind=2∨o.kind=3∨o.kind=4∨o.kind=5
    ·rw[htt.2 q2]
     have e:Cd ns (ew.map NdV.nd) o=(ns,QB (ew.map NdV.nd) o):=by
      unfold Cd;rw[if_pos hm,if_neg q1,if_pos q2]
     simp[k1,b8];obtain⟨r2,H2,⟨rfl,a3,b3,dw,hdw,i3,f3⟩,w3⟩:=Zw i9 hs hd hbv (by omega) hbl hlw q2;refine bC_of w3 ?_;exact GR i3 (keep f3) (by rw[hdw];exact e)
    ·have:t=false:=by cases t with
      | true=>exact absurd (htt.1 rfl) q2
      | false=>rfl
     subst this;simp;rw[M5];unfold HY
     by_cases q6:o.kind=6
     ·have e:Cd ns (ew.map NdV.nd) o=(Tw ns o.name o.to,(Tv ns ew o.name o.to).map NdV.nd):=by
       unfold Cd Tw Tv;rw[if_pos hm,if_neg q1,if_neg q2,if_pos q6]
       by_cases hc:PA ns o.name o.to
       ·rw[if_pos hc,if_pos hc,if_pos hc,Tu]
       ·rw[if_neg hc,if_neg hc,if_neg hc]
      simp[q6,k1,Dm];obtain⟨r2,H2,⟨rfl,a3,b3,i3,f3⟩,w3⟩:=bD (s:=o.name) (t:=o.to) i9 hs hd hx b1 (by omega) ht;refine bC_of w3 ?_;exact GR i3 (keep f3) e
     ·simp[q6]
      rw[M6];unfold HZ
      by_cases q7:o.kind=7
      ·have e:Cd ns (ew.map NdV.nd) o=(Ez ns o.name,(P9 ns ew o.name).map NdV.nd):=by
        unfold Cd;rw[if_pos hm,if_neg q1,if_neg q2,if_neg q6,if_pos q7,Tu]
       simp[q7,k1,Dm];obtain⟨r2,H2,⟨rfl,a3,b3,i3,f3⟩,w3⟩:=VS (s:=o.name) i9 hs hd hx b1 (by omega);refine bC_of w3 ?_;exact GR i3 (keep f3) e
      ·have e:Cd ns (ew.map NdV.nd) o=(ns,ew.map NdV.nd):=by
        unfold Cd;rw[if_pos hm,if_neg q1,if_neg q2,if_neg q6,if_neg q7]
       simp[q7];exact GR i9 k2 e
   simp[q1]
   by_cases w2:o.kind=2
   ·simp[w2]
    have:=hJ8 true (by simp[w2]);rwa[w2]at this
   ·by_cases w3:o.kind=3
    ·simp[w3]
     have:=hJ8 true (by simp[w3]);rwa[w3]at this
    ·by_cases w4:o.kind=4
     ·simp[w4]
      have:=hJ8 true (by simp[w4]);rwa[w4]at this
     ·simp[w2,w3,w4]
      exact hJ8 (decide (o.kind=5)) (by simp[w2,w3,w4])
 ·have e:Cd ns (ew.map NdV.nd) o=(ns,ew.map NdV.nd):=by unfold Cd;rw[if_neg hm]
  have:=GR i9 k2 e
  rw[Ia]at this;unfold FK at this;simp[d0,b0]at this;simp[hm];exact this
end
end Go.Proofs.YtbppnhenlboefaaGreat.Av
