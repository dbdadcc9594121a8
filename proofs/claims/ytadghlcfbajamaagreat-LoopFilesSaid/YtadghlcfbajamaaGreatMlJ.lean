/- Texts of this proof, one behind the other, packed into one file by a program of this session. No condition. -/
import Derived.Test.YtadghlcfbajamaaGreatMlI
set_option linter.unusedVariables false
set_option linter.unusedSimpArgs false
set_option maxRecDepth 100000
section
namespace Go.Proofs.YtadghlcfbajamaaGreat.Av
open Go Go.RowKit
theorem zddoZ {α:Type}[DecidableEq α]:∀{a b:List α},a.Nodup→(∀x∈a,x∈b)→a.length≤b.length
 | [],_,_,_=>by simp
 | x::a,b,hn,hs=>by
  rw[Ao7]at hn;have h1:=zddoZ (a:=a) (b:=b.erase x) hn.2 λy hy=>(Au0 (λe=>hn.1 (by rw[← e];exact hy))).2 (hs y (by simp[hy]))
  rw[List.length_erase_of_mem (hs x (by simp))]at h1
  have:=List.length_pos_of_mem (hs x (by simp))
  simp only[Al9];omega
theorem zdemZ {l:List Ext}{cap:Nat}{q:Int}(hs:srt l)(hl:∀no,BG l no→0≤no∧no<cap)(hq:¬BG l q)(h0:0≤q)(h1:q<cap):l.length+1≤cap:=by
 have hn:(q::l.map Ext.no).Nodup:=by
  rw[Ao7];refine⟨λhm=>?_,?_⟩
  ·obtain⟨x,hx,e⟩:=Ak7.1 hm
   exact hq ⟨x,hx,e⟩
  ·unfold List.Nodup
   rw[Ap2];exact List.Pairwise.imp (λh e=>by rw[e]at h;omega) hs
 have:=zddoZ (b:=(List.range cap).map fun (i:Nat)=>(i:Int)) hn (by
  intro x hx
  have hb:0≤x∧x<cap:=by
   rcases Ak6.1 hx with rfl | hx
   ·exact⟨h0,h1⟩
   ·obtain⟨y,hy,rfl⟩:=Ak7.1 hx
    exact hl y.no ⟨y,hy,rfl⟩
  exact Ak7.2 ⟨x.toNat,Ap3.2 (by omega),by omega⟩)
 simp only[Al9,Aj1,List.length_range]at this;exact this
theorem ON.cutsR {nm:List UInt8}{cap:Nat}{c:List Ext}{pos:Int}{b:List UInt8}(hpos:0≤pos)(hbl:b.length≤4096)(hf:pos+b.length≤8*cap)(hcap:cap≤100000):∀(f k:Nat) {size:Int} {l:List Ext} {s:StS},k≤b.length→b.length - k≤f→ON nm cap size l s→(∀no,BG l no→no<cap)→(k<b.length→∀no,BG l no→BG c no∨no<(pos+k)/8)→(k<b.length→0<k→(pos+k) % 8=0)→
  ∃s',W2 c 1 pos b (Df f (pos+k) (b.length - k:Nat) 8) s=(((b.length:Int),0),s')∧∃size' l',ON nm cap size' l' s'∧l'=BH l (pos+k) (b.drop k)∧size'=(if b.length - k=0 then size else max size (pos+b.length))
 | 0,k,size,l,s,hk,hfk,h,hc,hcl,hm=>by
  have e:b.drop k=[]:=Aj5 (by omega);refine⟨s,by simp[Df,W2],size,l,h,by rw[e];rfl,by rw[if_pos (by omega)]⟩
 | f+1,k,size,l,s,hk,hfk,h,hc,hcl,hm=>by
  by_cases h0:b.length - k=0
  ·have e:b.drop k=[]:=Aj5 (by omega)
   refine⟨s,?_,size,l,h,by rw[e];rfl,by rw[if_pos h0]⟩;unfold Df;rw[if_neg (by omega)];unfold W2;rfl
  ·have m1:=Ap8 (pos+k) (show(0:Int)<8 by omega)
   have m2:=Aq0 (pos+k) (show(8:Int)≠0 by omega);obtain⟨n,hn⟩:∃n:Nat,min ((b.length - k:Nat):Int) (8 - (pos+k) % 8)=n:=⟨(min ((b.length - k:Nat):Int) (8 - (pos+k) % 8)).toNat,by omega⟩;have n1:0<n∧n≤8∧n≤b.length - k:=by omega
   unfold Df;rw[if_pos (by omega),hn]
   have hpb:Eh b pos ⟨pos+k,n⟩=(b.drop k).take n:=by
    unfold Eh;simp only;rw[show(pos+k - pos).toNat=k by omega,show((n:Int)).toNat=n by omega]
   have hbs:((b.drop k).take n).length=n:=by rw[Ah8,Ai5];omega
   have hne:(b.drop k).take n≠[]:=by intro q;rw[q]at hbs;simp at hbs;omega
   obtain⟨d1,d2⟩:=h.do hne (p:=pos+k) (by omega) (by omega) (by omega);have hm2:=RS.1 h.mc
   have hgo:¬(¬BG c ((pos+k)/8)∧LV s=0):=by
    rintro⟨q1,q2⟩;have hql:¬BG l ((pos+k)/8):=λq=>(hcl (by omega) _ q).elim q1 (λq=>by omega)
    have:=zdemZ (cap:=cap) hm2.2.2.1 (λno q=>⟨(hm2.2.2.2.1 no q).1,hc no q⟩) hql (by omega) (by omega)
    exact h.free (by omega) q2
   unfold W2;rw[if_neg hgo,hpb];simp only;rw[if_neg (by rw[d1];simp)];rw[hbs]at d2
   obtain⟨s',w1,size',l',w2,w3,w4⟩:=ON.cutsR (c:=c) hpos hbl hf hcap f (k+n) (by omega) (by omega) d2 (λno q=>by
    rcases W3.1 q with q | ⟨z,z1,z2,z3⟩
    ·exact hc no q
    ·rw[hbs]at z2;omega) (λhlt no q=>by
    rcases W3.1 q with q | ⟨z,z1,z2,z3⟩
    ·rcases hcl (by omega) no q with q | q
     ·exact .inl q
     ·exact .inr (by omega)
    ·rw[hbs]at z2
     exact .inr (by omega)) (by omega)
   refine⟨s',?_,size',l',w2,?_,?_⟩
   ·rw[show pos+(k:Int)+n=pos+(k+n:Nat) by omega,show((b.length - k:Nat):Int) - n=(b.length - (k+n):Nat) by omega]
    exact w1
   ·rw[w3]
    conv=>rhs;rw[← Am4 n (b.drop k)]
    rw[lT,hbs,An3]
    congr 1
    omega
   ·rw[w4,if_neg h0]
    split<;>omega
theorem ON.writeR {nm:List UInt8}{cap:Nat}{size pos:Int}{l:List Ext}{s:StS}{b:List UInt8}(h:ON nm cap size l s)(hpos:0≤pos)(hbl:b.length≤4096)(hf:pos+b.length≤8*cap)(hcap:cap≤100000)(hc:∀no,BG l no→no<cap):
  ∃s',BI s 1 pos b=(((b.length:Int),0),s')∧∃size' l',ON nm cap size' l' s'∧l'=BH l pos b∧size'=(if b.length=0 then size else max size (pos+b.length)):=by
 unfold BI;rw[h.content,if_neg (by simp),if_neg (λq=>q ⟨hpos,hbl,by omega⟩)]
 have e:Ed ⟨pos,b.length⟩ 8=Df (b.length) pos b.length 8:=by
  unfold Ed;rw[if_pos ⟨⟨by unfold May;simp only;omega,by unfold May;simp only;omega,by simp only;omega⟩,by simp only;omega,by omega⟩]
  show Df ((b.length:Int)).toNat pos b.length 8=_
  rw[show((b.length:Int)).toNat=b.length by omega]
 rw[e]
 have:=ON.cutsR (c:=l) hpos hbl hf hcap b.length 0 (by omega) (by omega) h hc (λ_ no q=>.inl q) (λ_ q=>by omega)
 simpa using this
structure Txr (nm:List UInt8)(cap:Nat)(t:List UInt8)(s:StS):Prop where
 h:∃l,ON nm cap t.length l s∧(∀q:Nat,q<t.length→PK l q=t.getD q 0)∧∀no,BG l no→no*8<t.length
theorem Txr.write {nm:List UInt8}{cap:Nat}{t b:List UInt8}{s:StS}(h:Txr nm cap t s)(hbl:b.length≤4096)(hcap:cap≤100000)(hc:t.length+b.length≤8*cap):
  ∃s',BI s 1 t.length b=(((b.length:Int),0),s')∧Txr nm cap (t++b) s':=by
 obtain⟨l,h1,h2,h3⟩:=h.h;obtain⟨s',w1,size',l',w2,w3,w4⟩:=h1.writeR (pos:=t.length) (b:=b) (by omega) hbl (by omega) hcap (λno q=>by have:=h3 no q;omega);refine⟨s',w1,⟨l',?_,λq hq=>?_,λno q=>?_⟩⟩
 ·have:size'=((t++b).length:Nat):=by
   rw[w4,Ai3];split<;>omega
  rw[← this];exact w2
 ·rw[Ai3]at hq
  rw[w3,uY (RS.1 h1.mc).2.2.1]
  by_cases c:q<t.length
  ·rw[if_neg (by omega),h2 q c,Ai9,Ai9,Ah6 c]
  ·rw[if_pos (by omega),Ai9,Ai9,Ai1 (by omega),show((q:Int) - t.length).toNat=q - t.length by omega]
 ·rw[Ai3]
  rw[w3]at q;rcases W3.1 q with q | ⟨z,z1,z2,z3⟩
  ·have:=h3 no q;omega
  ·omega
theorem Txr.read {nm:List UInt8}{cap:Nat}{t:List UInt8}{s:StS}(h:Txr nm cap t s){pos n:Nat}(hp:pos≤t.length)(hn:n≤4096)(hl:t.length≤1000000000):I8 s 1 pos n=((t.drop pos).take n,0):=by
 obtain⟨l,h1,h2,h3⟩:=h.h;unfold I8;rw[h1.content,if_neg (by simp),if_neg (by omega)];simp only
 congr 1
 unfold Kh
 by_cases hi:zdkbZ t.length l pos n
 ·rw[if_pos hi]
  refine Ak5 λi=>?_
  rw[FQ]
  by_cases c:i<n∧pos+i<t.length
  ·rw[if_pos (by omega),Ai4,if_pos c.1,Ai6,show(pos:Int)+i=(pos+i:Nat) by omega,h2 _ c.2,Ai9,DD c.2];rfl
  ·rw[if_neg (by omega),Ai4]
   split
   ·rw[Ai6,An1 (by omega)]
   ·rfl
 ·rw[if_neg hi]
  have hge:t.length≤pos:=by
   rcases Ai0 pos t.length with c | c
   ·exact absurd ⟨h1.mc,by omega,by omega,by omega,by omega⟩ hi
   ·exact c
  rw[Aj5 hge];simp
theorem Txr.pcs {nm:List UInt8}{cap:Nat}(hcap:cap≤100000):∀{l:List (List UInt8)} {t:List UInt8} {s:StS} {m:Int},Txr nm cap t s→(∀b∈l,b.length≤4096)→t.length+JK l≤8*cap→
  ∃s',Av.pcs 1 l s t.length m=((s',(((t++l.flatten).length:Nat):Int),m+JK l),(0:Int))∧Txr nm cap (t++l.flatten) s'
 | [],t,s,m,h,_,_=>⟨s,by simp[Av.pcs,JK],by simpa using h⟩
 | b::r,t,s,m,h,hb,hc=>by
  rw[U9]at hc;obtain⟨s1,w1,w2⟩:=h.write (hb b (by simp)) hcap (by omega);obtain⟨s2,p1,p2⟩:=Txr.pcs hcap (l:=r) (m:=m+b.length) w2 (λx hx=>hb x (by simp[hx])) (by rw[Ai3];omega);refine⟨s2,?_,by simpa using p2⟩;unfold Av.pcs;rw[w1];simp only[if_true];rw[show(t.length:Int)+b.length=((t++b).length:Nat) by rw[Ai3];omega,p1,U9];simp only[Ai8,As8,Am2,and_true,true_and];omega
structure KP (s:StS):Prop where
 f:s.pend.foldl (λp o=>Bi p.1 p.2 o) s.kept=s.now
 st:∀o∈s.pend,OH [1] o
theorem KP.deed {s:StS}(h:KP s):KP (A9 s).2:=by
 obtain⟨e1,e2,e3,-,-⟩:=Fa s;exact⟨by rw[e1,e2,e3];exact h.f,by rw[e3];exact h.st⟩
theorem KP.do {s:StS}(h:KP s){o:OpM}(ho:OH [1] o):KP (HX s o).2:=by
 obtain⟨e1,e2,e3,-,-⟩:=Fa s;unfold HX
 split
 ·refine⟨?_,λx hx=>?_⟩
  ·show(s.pend++[o]).foldl (λp o=>Bi p.1 p.2 o) (A9 s).2.kept=Bi s.now.1 s.now.2 o
   rw[e2,List.foldl_append,h.f];rfl
  ·have hx:x∈s.pend++[o]:=hx
   simp only[Ab3]at hx;rcases hx with hx | rfl
   ·exact h.st x hx
   ·exact ho
 ·exact h.deed
theorem iM {o:OpM}(h:o.ino=1):OH [1] o:=.inr (.inr (.inr (by simp[h])))
theorem zdfbZ {c:List Ext}{pos:Int}{b:List UInt8}:∀{l:List Sp} {s:StS},KP s→KP (W2 c 1 pos b l s).2
 | [],s,h=>h
 | q::r,s,h=>by
  have hd:=h.do (o:=EP 1 q.pos (Eh b pos q)) (iM rfl);unfold W2
  split
  ·exact h
  ·split
   ·exact hd
   ·exact zdfbZ hd
theorem xP {s:StS}(h:KP s)(pos:Int)(b:List UInt8):KP (BI s 1 pos b).2:=by
 unfold BI
 split
 ·exact h
 ·split
  ·exact h
  ·exact zdfbZ h
theorem zddxZ:∀{l:List (List UInt8)} {s:StS} {a m:Int},KP s→KP (Av.pcs 1 l s a m).1.1
 | [],s,a,m,h=>h
 | b::r,s,a,m,h=>by
  have h1:=xP h a b;unfold Av.pcs
  split
  ·exact zddxZ h1
  ·exact h1
theorem xM {s:StS}(h:KP s)(size:Int):KP (DH s 1 size).2:=by
 unfold DH
 split
 ·exact h
 ·split
  ·exact h
  ·exact h.do (iM rfl)
theorem iS {l:List Int}:∀{r:List OpM} {x:eK×List OpM},(∀o∈r,OH l o)→Iu l r x=(r.foldl (λp o=>Bi p.1 p.2 o) x.1,x.2)
 | [],x,_=>rfl
 | o::r,x,h=>by
  unfold Iu;rw[if_pos (h o (by simp)),iS λz hz=>h z (by simp[hz])];rfl
theorem KP.sync {s:StS}(h:KP s)(ho:s.off=false)(ha:s.armed= -1):JH s [1]=(0,{s with kept:=s.now,pend:=[]}):=by
 have hd:A9 s=(true,s):=by
  unfold A9;rw[if_neg (by rw[ho,ha];simp),if_neg (by rw[ha];omega)]
 unfold JH;rw[hd,iS h.st];simp only[if_true,h.f]
def lE (s:StS)(nm:List UInt8)(l:List (List UInt8)):Int×StS:=
 if(Bq s nm true).1.2≠0 then((Bq s nm true).1.2,(Bq s nm true).2)
 else if(DH (Bq s nm true).2 (Bq s nm true).1.1 0).1≠0 then DH (Bq s nm true).2 (Bq s nm true).1.1 0
 else if(Av.pcs (Bq s nm true).1.1 l (DH (Bq s nm true).2 (Bq s nm true).1.1 0).2 0 0).2≠0 then((Av.pcs (Bq s nm true).1.1 l (DH (Bq s nm true).2 (Bq s nm true).1.1 0).2 0 0).2,(Av.pcs (Bq s nm true).1.1 l (DH (Bq s nm true).2 (Bq s nm true).1.1 0).2 0 0).1.1)
 else JH (Av.pcs (Bq s nm true).1.1 l (DH (Bq s nm true).2 (Bq s nm true).1.1 0).2 0 0).1.1 [(Bq s nm true).1.1]
theorem Txr.trunc {nm:List UInt8}{cap:Nat}{t:List UInt8}{s:StS}(h:Txr nm cap t s):∃s',DH s 1 0=(0,s')∧Txr nm cap [] s':=by
 obtain⟨l,h1,h2,h3⟩:=h.h;have hm:=RS.1 h1.mc
 have ht:Cl ((t.length:Int),l) 0=some (0,[]):=by
  unfold Cl;rw[if_pos ⟨h1.mc,by omega,by omega⟩]
  have:l.filter (λx=>decide (x.no*8<(0:Int)))=[]:=by
   rw[List.filter_eq_nil_iff];intro x hx
   have:=(hm.2.2.2.1 x.no ⟨x,hx,rfl⟩).1
   simp only[decide_eq_true_eq];omega
  simp only[Fg,this,PG,List.map_nil]
 have hd:A9 s=(true,s):=by
  unfold A9;rw[if_neg (by rw[h1.off,h1.armed];simp),if_neg (by rw[h1.armed];omega)]
 have hap:Bi s.now.1 s.now.2 (Wo 1 0)=PU nm 0 []:=by
  rw[h1.now];unfold Bi;rw[if_pos (PS.2 (rR h1.nm h1.mc)),if_neg (by simp[Wo]),if_pos (by simp[Wo])];have e1:qJ Nd.ino (PU nm t.length l).2 (Wo 1 0).ino=some ⟨1,t.length,l⟩:=rfl;have e2:Dr BP Nd.ino (PU nm t.length l).2 (Wo 1 0).ino=0:=rfl
  have e3:GZ (Wo 1 0) ⟨1,(t.length:Int),l⟩=some (0,[]):=by
   show(if(3:Int)=2 then _ else if(3:Int)=3 then Cl ((t.length:Int),l) 0 else _)=_
   rw[if_neg (by omega),if_pos rfl,ht]
  unfold PN;rw[e1];simp only[e3,e2];rfl
 unfold DH;rw[h1.content,if_neg (by simp),if_neg (by rw[ht];simp)];unfold HX;rw[hd];refine⟨_,rfl,⟨[],⟨hap,h1.nm,by decide,h1.cap,h1.off,h1.armed⟩,by simp,by simp[BG]⟩⟩
structure Done (s:StS):Prop where
 k:s.kept=s.now
 p:s.pend=[]
theorem zdefZ {nm:List UInt8}{cap:Nat}{t:List UInt8}{s:StS}{l:List (List UInt8)}(h1:(Bq s nm true).1=(1,0))(h2:Txr nm cap t (Bq s nm true).2)(h3:KP (Bq s nm true).2)(hcap:cap≤100000)(hb:∀b∈l,b.length≤4096)(hl:JK l≤8*cap):
  ∃s',lE s nm l=(0,s')∧Txr nm cap l.flatten s'∧Done s':=by
 obtain⟨s1,t1,t2⟩:=h2.trunc;have k1:=xM h3 0;rw[t1]at k1;obtain⟨s2,p1,p2⟩:=Txr.pcs hcap (l:=l) (m:=0) t2 hb (by simpa using hl);have k2:=zddxZ (l:=l) (a:=0) (m:=0) k1;have p1':Av.pcs 1 l s1 0 0=_:=p1;rw[p1']at k2;rw[Am5]at p2;obtain⟨ll,q1,q2,q3⟩:=p2.h;have hs:=k2.sync q1.off q1.armed;unfold lE;rw[h1];simp only[Af3,t1,p1'];refine⟨_,hs,⟨ll,⟨q1.now,q1.nm,q1.mc,q1.cap,q1.off,q1.armed⟩,q2,q3⟩,rfl,rfl⟩
end Go.Proofs.YtadghlcfbajamaaGreat.Av
end
section
namespace Go.Proofs.YtadghlcfbajamaaGreat.Av
open Go Go.Proofs.Tryz
def To:FuncId→Bool:=kG [64,96,41,33,31,82,102,101,103,86,87,69,138,161,52]
def wY:FuncId→Bool:=kG [106,109,53]
def YU:CJ:=LT [(3,[(1,some 3),(1,some 4),(6,none),(6,some 2),(6,some 3)])]
def YV:Nat→Option (List Bool):=Cd [(100003,mk 54 0 [1]),(13,mk 54 0 [3,36,37,38]),(6,mk 54 0 [1,3,23,24,25]),(3,mk 54 0 [1,3]),(1,mk 54 0 [1])]
def YW:Nat→Bool:=kG [3]
def FT (p:List Bool)(n:Nat):List AV→AH→Kf→Prop:=AJ prog YU To wY YW YV (sub p (AG f106)) n
def WE (x3 x36 x37 x38:AV)(H:AH)(K:KT):Prop:=lp (mk 54 0 [3,36,37,38]) (FT [tT,tT,tT,tT,fF,tT,fF,fF] 14) [x3,x36,x37,x38] H (AS 2 (AN (FT [tT,tT,tT,tT,tT] 18) (AR prog f106.results.toList K)))
def YS (x1 x3 x23 x24 x25:AV)(H:AH)(K:KT):Prop:=lp (mk 54 0 [1,3,23,24,25]) (FT [tT,tT,tT,fF,tT,fF,fF] 7) [x1,x3,x23,x24,x25] H (AS 0 (AN (FT [tT,tT,tT,tT] 11) (AR prog f106.results.toList K)))
def Tz (x1 x3:AV)(H:AH)(K:KT):Prop:=jn (mk 54 0 [1,3]) (FT [tT,tT,tT] 4) [x1,x3] H (AR prog f106.results.toList K)
def YT (x1:AV)(H:AH)(K:KT):Prop:=unR prog 3 (X3 (sub [tT,tT,fF] (AG f106))) (Bt (mk 54 0 [1]) [x1]) H (AN (DJ (mk 54 0 [1,3]) (FT [tT,tT,tT] 4)) (AR prog f106.results.toList K))
def Ph (x1:AV)(H:AH)(K:KT):Prop:=jn (mk 54 0 [1]) (FT [tT,tT] 3) [x1] H (AR prog f106.results.toList K)
def T4 (R13:RT)(x3 x36 x37 x38:AV)(H:AH)(K:KT):Prop:=
 bO (Ar .lss x38 x37) λv0=>
 bB v0 λt1=>bI t1 (
 bO (Bo 2 x36 x38) λv2=>
 bO (Ap true 2 H v2) λv3=>
 bH (AC H (.agg [(I 0),(I 0)])) λv4 H5=>
 bS (AP 2 H5 v4 v3) λH6=>
 bO (Af x3) λv7=>
 bO (Ab 2 v7) λv8=>
 bO (Ap false 1 H6 v8) λv9=>
 bO (Ab 0 v4) λv10=>
 bO (Ap false 1 H6 v10) λv11=>
 bO (lW (.int .i64) (.int .i64 0) H6 v9 v11 false) λv12=>
 bO (Ab 1 v4) λv13=>
 bO (Ap false 1 H6 v13) λv14=>
 bO (Ar .add v12 v14) λv15=>
 bS (zdfgZ (.int .i64) H6 v9 v11 v15) λH16=>
 bO (Ar .add x38 (I 1)) λv17=>
 R13 [x3,x36,x37,v17] H16)
 (K x3 H)
theorem WF {K:KT}:eI (λR x3 x36 x37 x38 H=>T4 R x3 x36 x37 x38 H K) (λx3 x36 x37 x38 H=>WE x3 x36 x37 x38 H K):=zdpvZ (Dv _ _) (λ_ _ _ _ _ _=>by kernel_rfl)
def Vy (R6:RT)(x1 x3 x23 x24 x25:AV)(H:AH)(K:KT):Prop:=
 bO (Ar .lss x25 x24) λv0=>
 bB v0 λt1=>bI t1 (
 bO (Bo 1 x23 x25) λv2=>
 bO (Ap false 1 H v2) λv3=>
 bO (Af x3) λv4=>
 bO (Ab 1 v4) λv5=>
 bO (Ap false 1 H v5) λv6=>
 bS (zdfgZ (.int .i64) H v6 v3 (B true)) λH7=>
 bO (Ar .add x25 (I 1)) λv8=>
 R6 [x1,x3,x23,x24,v8] H7)
 (bO (Ab 2 x1) λv9=>
 bO (Ap false 1 H v9) λv10=>
 bO (AL v10) λv11=>
 WE x3 v10 v11 (I 0) H K)
theorem Yj {K:KT}:pV (λR x1 x3 x23 x24 x25 H=>Vy R x1 x3 x23 x24 x25 H K) (λx1 x3 x23 x24 x25 H=>YS x1 x3 x23 x24 x25 H K):=zdnvZ (Dv _ _) (λ_ _ _ _ _ _ _=>by kernel_rfl)
def Vx (x1 x3:AV)(H:AH)(K:KT):Prop:=
 bO (Ab 1 x1) λv0=>
 bO (Ap false 1 H v0) λv1=>
 bO (AL v1) λv2=>
 YS x1 x3 v1 v2 (I 0) H K
theorem bK (x1 x3:AV)(H:AH)(K:KT):Tz x1 x3 H K=Vx x1 x3 H K:=(B5 _ _ _ _ _).trans (by kernel_rfl)
def Vw (x1:AV)(H:AH)(K:KT):Prop:=
 YT x1 H K
theorem bJ (x1:AV)(H:AH)(K:KT):Ph x1 H K=Vw x1 H K:=(B5 _ _ _ _ _).trans (by kernel_rfl)
def bE (a0:AV)(H:AH)(K:KT):Prop:=
 bH (AC H a0) λv0 H1=>
 bO (Ap true 4 H1 v0) λv2=>
 bP (PCall prog 161 [v2] H1) λv3=>
 bO (Em .not v3) λv4=>
 bB v4 λt5=>bI t5 (
 bO (En [Ad,Ad,Ad,Ad] []) λv6=>
 bS (AP 4 H1 v0 v6) λH7=>
 Ph v0 H7 K)
 (Ph v0 H1 K)
theorem nO (a0:AV)(H:AH)(K:KT):UY prog YU To wY YW YV f106 [a0] H K=bE a0 H K:=by kernel_rfl
theorem nP {a0:AV}{H:AH}{K:KT}(h:bE a0 H K):ACalls prog 106 [a0] H K:=
 Nn PT func106 (by kernel_rfl) (Eq.mpr (nO a0 H K) h)
def nM (a0:AV)(H:AH)(K:KT):Prop:=
 bH (AC H a0) λv0 H1=>
 bO (Ab 0 v0) λv2=>
 bO (Ap false 1 H1 v2) λv3=>
 bO (AL v3) λv4=>
 bO (Ar .leq v4 (I 65536)) λv5=>
 bG v5 true λw6=>
 gO w6 (Ab 1 v0) λv7=>
 bG v5 true λw8=>
 gO w8 (Ap false 1 H1 v7) λv9=>
 bG v5 true λw10=>
 gO w10 (some (.fn (.func 184) [] [])) λv11=>
 bG v5 true λw12=>
 gC w12 (BCall prog 186 [v9,v11] H1) H1 λv13 H14=>
 bG v5 true λw15=>
 gO w15 (Em .not v13) λv16=>
 bO (A0 v5 v16 (B false)) λv17=>
 bG v17 true λw18=>
 gO w18 (Ab 2 v0) λv19=>
 bG v17 true λw20=>
 gO w20 (Ap false 1 H14 v19) λv21=>
 bG v17 true λw22=>
 gO w22 (some (.fn (.func 185) [] [])) λv23=>
 bG v17 true λw24=>
 gC w24 (BCall prog 187 [v21,v23] H14) H14 λv25 H26=>
 bG v17 true λw27=>
 gO w27 (Em .not v25) λv28=>
 bO (A0 v17 v28 (B false)) λv29=>
 K v29 H26
theorem nN {a0:AV}{H:AH}{K:KT}(h:nM a0 H K):Ch 161 [a0] H K:=
 fok A7 To BA func161 h
def aZ (a0:AV)(H:AH)(K:KT):Prop:=
 bO (Ar .lss a0 (I 0)) λv0=>
 K v0 H
theorem eU {a0:AV}{H:AH}{K:KT}(h:aZ a0 H K):Ch 184 [a0] H K:=
 fok A7 To BA func184 h
def bD (a0:AV)(H:AH)(K:KT):Prop:=
 bH (AC H a0) λv0 H1=>
 bO (Ab 0 v0) λv2=>
 bO (Ap false 1 H1 v2) λv3=>
 bO (Ar .lss v3 (I 0)) λv4=>
 bG v4 false λw5=>
 gO w5 (Ab 1 v0) λv6=>
 bG v4 false λw7=>
 gO w7 (Ap false 1 H1 v6) λv8=>
 bG v4 false λw9=>
 gO w9 (Ar .lss v8 (I 0)) λv10=>
 bO (A0 v4 (B true) v10) λv11=>
 bG v11 false λw12=>
 gO w12 (Ab 1 v0) λv13=>
 bG v11 false λw14=>
 gO w14 (Ap false 1 H1 v13) λv15=>
 bG v11 false λw16=>
 gO w16 (Ar .gtr v15 (I 20)) λv17=>
 bO (A0 v11 (B true) v17) λv18=>
 K v18 H1
theorem eV {a0:AV}{H:AH}{K:KT}(h:bD a0 H K):Ch 185 [a0] H K:=
 fok A7 To BA func185 h
def Gw (a0 a1:AV)(H:AH)(K:KT):Prop:=
 bC (BCall prog 197 [a0,a1] H) λv0 H1=>
 bO (Ar .geq v0 (I 0)) λv2=>
 K v2 H1
theorem KU {a0 a1:AV}{H:AH}{K:KT}(h:Gw a0 a1 H K):Ch 186 [a0,a1] H K:=
 fok A7 To BA func186 h
def DT (a0 a1:AV)(H:AH)(K:KT):Prop:=
 bC (BCall prog 198 [a0,a1] H) λv0 H1=>
 bO (Ar .geq v0 (I 0)) λv2=>
 K v2 H1
theorem Gv {a0 a1:AV}{H:AH}{K:KT}(h:DT a0 a1 H K):Ch 187 [a0,a1] H K:=
 fok A7 To BA func187 h
def Gy:Nat→Option (List Bool):=Cd [(3,mk 19 0 [0,1,7,8])]
def GU (p:List Bool)(n:Nat):List AV→AH→Kf→Prop:=AJ prog A7 To Aw Aw Gy (sub p (AG f197)) n
def Gx (x0 x1 x7 x8:AV)(H:AH)(K:KT):Prop:=lp (mk 19 0 [0,1,7,8]) (GU [tT,fF,tT,fF,fF] 4) [x0,x1,x7,x8] H (AS 0 (AN (GU [tT,tT] 10) (AR prog f197.results.toList K)))
def FA (R3:RT)(x0 x1 x7 x8:AV)(H:AH)(K:KT):Prop:=
 bO (Ar .lss x8 x7) λv0=>
 bB v0 λt1=>bI t1 (
 bO (Bo 1 x0 x8) λv2=>
 bO (Ap false 1 H v2) λv3=>
 bF true x1 λk6 f6 c6=>
 bT (BW prog k6||!true)<|
 bC (BCall prog k6 (f6++[v3]++c6) H) λv4 H5=>
 bB v4 λt7=>bI t7 (
 K x8 H5)
 (bO (Ar .add x8 (I 1)) λv8=>
 R3 [x0,x1,x7,v8] H5))
 (K (I (-1)) H)
theorem JP {K:KT}:eI (λR x0 x1 x7 x8 H=>FA R x0 x1 x7 x8 H K) (λx0 x1 x7 x8 H=>Gx x0 x1 x7 x8 H K):=RQ (A3 _ _) (λ_ _ _ _ _ _=>by kernel_rfl)
def Is (a0 a1:AV)(H:AH)(K:KT):Prop:=
 bO (AL a0) λv0=>
 Gx a0 a1 v0 (I 0) H K
theorem MH {a0 a1:AV}{H:AH}{K:KT}(h:Is a0 a1 H K):Ch 197 [a0,a1] H K:=
 fok A7 To Gy func197 h
def DV:Nat→Option (List Bool):=Cd [(3,mk 19 0 [0,1,7,8])]
def Ec (p:List Bool)(n:Nat):List AV→AH→Kf→Prop:=AJ prog A7 To Aw Aw DV (sub p (AG f198)) n
def DU (x0 x1 x7 x8:AV)(H:AH)(K:KT):Prop:=lp (mk 19 0 [0,1,7,8]) (Ec [tT,fF,tT,fF,fF] 4) [x0,x1,x7,x8] H (AS 0 (AN (Ec [tT,tT] 10) (AR prog f198.results.toList K)))
def DC (R3:RT)(x0 x1 x7 x8:AV)(H:AH)(K:KT):Prop:=
 bO (Ar .lss x8 x7) λv0=>
 bB v0 λt1=>bI t1 (
 bO (Bo 2 x0 x8) λv2=>
 bO (Ap true 2 H v2) λv3=>
 bF true x1 λk6 f6 c6=>
 bT (BW prog k6||!true)<|
 bC (BCall prog k6 (f6++[v3]++c6) H) λv4 H5=>
 bB v4 λt7=>bI t7 (
 K x8 H5)
 (bO (Ar .add x8 (I 1)) λv8=>
 R3 [x0,x1,x7,v8] H5))
 (K (I (-1)) H)
theorem FC {K:KT}:eI (λR x0 x1 x7 x8 H=>DC R x0 x1 x7 x8 H K) (λx0 x1 x7 x8 H=>DU x0 x1 x7 x8 H K):=RQ (A3 _ _) (λ_ _ _ _ _ _=>by kernel_rfl)
def Ex (a0 a1:AV)(H:AH)(K:KT):Prop:=
 bO (AL a0) λv0=>
 DU a0 a1 v0 (I 0) H K
theorem HF {a0 a1:AV}{H:AH}{K:KT}(h:Ex a0 a1 H K):Ch 198 [a0,a1] H K:=
 fok A7 To DV func198 h
def Lr (a0:AV)(H:AH)(K:KT):Prop:=
 bO (ZQ .eql RV a0 Ad) λv0=>
 bB v0 λt1=>bI t1 (
 K Ad H)
 (bH (D9 H 1 0 (B4 [(I 0)] 0) []) λv2 H3=>
 bH (HM 1 8 H3 v2 a0) λv4 H5=>
 K v4 H5)
theorem Qj {a0:AV}{H:AH}{K:KT}(h:Lr a0 H K):Ch 162 [a0] H K:=
 fok A7 To BA func162 h
def Qv:Nat→Option (List Bool):=Cd [(21,mk 77 0 [0,1,9,10]),(18,mk 77 0 [0,1,9,10]),(12,mk 77 0 [])]
def EJ (p:List Bool)(n:Nat):List AV→AH→Kf→Prop:=AJ prog A7 To Aw Aw Qv (sub p (AG f163)) n
def JU (H:AH)(K:KT):Prop:=jn (mk 77 0 []) (EJ [tT,tT,tT,tT,tT,tT,fF,tT,fF,tT] 14) [] H (AN (EJ [tT,tT,tT,tT,tT,tT,tT] 15) (AR prog f163.results.toList K))
def JV (R18:RT)(x0 x1 x9 x10:AV)(H:AH)(K:KT):Prop:=jn (mk 77 0 [0,1,9,10]) (EJ [tT,tT,tT,tT,tT,tT,tT,tT,fF,tT,fF,fF,tT,tT] 23) [x0,x1,x9,x10] H (PP (mk 77 0 [0,1,9,10]) R18 (AS 0 (AN (EJ [tT,tT,tT,tT,tT,tT,tT,tT,tT] 23) (AR prog f163.results.toList K))))
def Pg (x0 x1 x9 x10:AV)(H:AH)(K:KT):Prop:=lp (mk 77 0 [0,1,9,10]) (EJ [tT,tT,tT,tT,tT,tT,tT,tT,fF,tT,fF,fF] 19) [x0,x1,x9,x10] H (AS 0 (AN (EJ [tT,tT,tT,tT,tT,tT,tT,tT,tT] 23) (AR prog f163.results.toList K)))
def Iv (H:AH)(K:KT):Prop:=
 K (.tup [Ad,(I 1)]) H
theorem LN (H:AH)(K:KT):JU H K=Iv H K:=(B5 _ _ _ _ _).trans (by kernel_rfl)
def Iw (R18:RT)(x0 x1 x9 x10:AV)(H:AH)(K:KT):Prop:=
 bO (Ar .add x10 (I 1)) λv0=>
 R18 [x0,x1,x9,v0] H
theorem LO (R18:RT)(x0 x1 x9 x10:AV)(H:AH)(K:KT):JV R18 x0 x1 x9 x10 H K=Iw R18 x0 x1 x9 x10 H K:=(B5 _ _ _ _ _).trans (by kernel_rfl)
def MI (R18:RT)(x0 x1 x9 x10:AV)(H:AH)(K:KT):Prop:=
 bO (Ar .mul x10 (I 8)) λv0=>
 bO (Ar .lss v0 x9) λv1=>
 bB v1 λt2=>bI t2 (
 bC (BCall prog 189 [x0,x10] H) λv3 H4=>
 bB v3 λt5=>bI t5 (
 bO (Ar .mul x10 (I 8)) λv6=>
 JV R18 x0 x1 v6 x10 H4 K)
 (JV R18 x0 x1 x9 x10 H4 K))
 (bO (Af x0) λv7=>
 bO (Ab 0 v7) λv8=>
 bO (Ap false 1 H v8) λv9=>
 bO (Bf 1 v9 (some x1) (some x9) none) λv10=>
 bC (BCall prog 89 [v10] H) λv11 H12=>
 K (.tup [v11,(I 0)]) H12)
theorem RK {K:KT}:eI (λR x0 x1 x9 x10 H=>MI R x0 x1 x9 x10 H K) (λx0 x1 x9 x10 H=>Pg x0 x1 x9 x10 H K):=RQ (A3 _ _) (λ_ _ _ _ _ _=>by kernel_rfl)
def Vv (a0 a1 a2:AV)(H:AH)(K:KT):Prop:=
 bO (Ar .lss a1 (I 0)) λv0=>
 bG v0 false λw1=>
 gO w1 (some a2) λv2=>
 bG v0 false λw3=>
 gO w3 (Ar .lss v2 (I 0)) λv4=>
 bO (A0 v0 (B true) v4) λv5=>
 bG v5 false λw6=>
 gO w6 (some a2) λv7=>
 bG v5 false λw8=>
 gO w8 (Ar .gtr v7 (I 4096)) λv9=>
 bO (A0 v5 (B true) v9) λv10=>
 bB v10 λt11=>bI t11 (
 K (.tup [Ad,(I 5)]) H)
 (bC (BCall prog 188 [a0,a1,a2] H) λv12 H13=>
 bO (Af a0) λv14=>
 bO (Ab 4 v14) λv15=>
 bO (Ap false 1 H13 v15) λv16=>
 bO (Ar .add v16 (I 1)) λv17=>
 bO (Af a0) λv18=>
 bO (Ab 4 v18) λv19=>
 bS (AP 1 H13 v19 v17) λH20=>
 bO (Ar .eql v12 (I 0)) λv21=>
 bB v21 λt22=>bI t22 (
 K (.tup [Ad,(I 0)]) H20)
 (bO (Ar .quo a1 (I 8)) λv23=>
 bC (BCall prog 189 [a0,v23] H20) λv24 H25=>
 bB v24 λt26=>bI t26 (
 bO (Af a0) λv27=>
 bO (Ab 1 v27) λv28=>
 bO (Ap false 1 H25 v28) λv29=>
 bO (lW (.int .i64) (.bool false) H25 v29 v23 false) λv30=>
 bO (Em .not v30) λv31=>
 bB v31 λt32=>bI t32 (
 bO (Af a0) λv33=>
 bO (Ab 2 v33) λv34=>
 bO (Ap false 1 H25 v34) λv35=>
 bO (lW (.int .i64) (.int .i64 0) H25 v35 v23 false) λv36=>
 bO (Ar .sub v36 (I 1)) λv37=>
 bS (zdfgZ (.int .i64) H25 v35 v23 v37) λH38=>
 JU H38 K)
 (JU H25 K))
 (bO (Ar .add a1 v12) λv39=>
 bO (Ar .add v23 (I 1)) λv40=>
 Pg a0 a1 v39 v40 H25 K)))
theorem Yi {a0 a1 a2:AV}{H:AH}{K:KT}(h:Vv a0 a1 a2 H K):Ch 163 [a0,a1,a2] H K:=
 fok A7 To Qv func163 h
def Sj (a0:AV)(H:AH)(K:KT):Prop:=
 bO (Af a0) λv0=>
 bO (Ab 4 v0) λv1=>
 bO (Ap false 1 H v1) λv2=>
 K v2 H
theorem VV {a0:AV}{H:AH}{K:KT}(h:Sj a0 H K):Ch 108 [a0] H K:=
 fok A7 To BA func108 h
def N7:Nat→Option (List Bool):=Cd [(2,mk 53 0 [2])]
def WD (p:List Bool)(n:Nat):List AV→AH→Kf→Prop:=AJ prog A7 To Aw Aw N7 (sub p (AG f188)) n
def FS (x2:AV)(H:AH)(K:KT):Prop:=jn (mk 53 0 [2]) (WD [tT,tT,tT] 4) [x2] H (AR prog f188.results.toList K)
def LP (x2:AV)(H:AH)(K:KT):Prop:=
 K x2 H
theorem SN (x2:AV)(H:AH)(K:KT):FS x2 H K=LP x2 H K:=(B5 _ _ _ _ _).trans (by kernel_rfl)
def Sk (a0 a1 a2:AV)(H:AH)(K:KT):Prop:=
 bO (Af a0) λv0=>
 bO (Ab 0 v0) λv1=>
 bO (Ap false 1 H v1) λv2=>
 bO (AL v2) λv3=>
 bO (Ar .sub v3 a1) λv4=>
 bO (amm XX [(I 0),v4]) λv5=>
 bO (amm Zn [a2,v5]) λv6=>
 bO (Af a0) λv7=>
 bO (Ab 4 v7) λv8=>
 bO (Ap false 1 H v8) λv9=>
 bO (Af a0) λv10=>
 bO (Ab 3 v10) λv11=>
 bO (Ap false 1 H v11) λv12=>
 bO (AL v12) λv13=>
 bO (Ar .lss v9 v13) λv14=>
 bG v14 true λw15=>
 gO w15 (some a0) λv16=>
 bG v14 true λw17=>
 gO w17 (Af v16) λv18=>
 bG v14 true λw19=>
 gO w19 (Ab 3 v18) λv20=>
 bG v14 true λw21=>
 gO w21 (Ap false 1 H v20) λv22=>
 bG v14 true λw23=>
 gO w23 (some a0) λv24=>
 bG v14 true λw25=>
 gO w25 (Af v24) λv26=>
 bG v14 true λw27=>
 gO w27 (Ab 4 v26) λv28=>
 bG v14 true λw29=>
 gO w29 (Ap false 1 H v28) λv30=>
 bG v14 true λw31=>
 gO w31 (Bo 1 v22 v30) λv32=>
 bG v14 true λw33=>
 gO w33 (Ap false 1 H v32) λv34=>
 bG v14 true λw35=>
 gO w35 (Ar .gtr v34 (I 0)) λv36=>
 bO (A0 v14 v36 (B false)) λv37=>
 bB v37 λt38=>bI t38 (
 bO (Af a0) λv39=>
 bO (Ab 3 v39) λv40=>
 bO (Ap false 1 H v40) λv41=>
 bO (Af a0) λv42=>
 bO (Ab 4 v42) λv43=>
 bO (Ap false 1 H v43) λv44=>
 bO (Bo 1 v41 v44) λv45=>
 bO (Ap false 1 H v45) λv46=>
 bO (amm Zn [v6,v46]) λv47=>
 FS v47 H K)
 (FS v6 H K)
theorem VW {a0 a1 a2:AV}{H:AH}{K:KT}(h:Sk a0 a1 a2 H K):Ch 188 [a0,a1,a2] H K:=
 fok A7 To N7 func188 h
def Sn (a0 a1:AV)(H:AH)(K:KT):Prop:=
 bO (Af a0) λv0=>
 bO (Ab 1 v0) λv1=>
 bO (Ap false 1 H v1) λv2=>
 bO (lW (.int .i64) (.bool false) H v2 a1 false) λv3=>
 bG v3 false λw4=>
 gO w4 (some a0) λv5=>
 bG v3 false λw6=>
 gO w6 (Af v5) λv7=>
 bG v3 false λw8=>
 gO w8 (Ab 2 v7) λv9=>
 bG v3 false λw10=>
 gO w10 (Ap false 1 H v9) λv11=>
 bG v3 false λw12=>
 gO w12 (some a1) λv13=>
 bG v3 false λw14=>
 gO w14 (lW (.int .i64) (.int .i64 0) H v11 v13 false) λv15=>
 bG v3 false λw16=>
 gO w16 (Ar .gtr v15 (I 0)) λv17=>
 bO (A0 v3 (B true) v17) λv18=>
 K v18 H
theorem VX {a0 a1:AV}{H:AH}{K:KT}(h:Sn a0 a1 H K):Ch 189 [a0,a1] H K:=
 fok A7 To BA func189 h
def Xo:Nat→Option (List Bool):=Cd [(6,mk 47 0 [0,1,2,8])]
def Zr (p:List Bool)(n:Nat):List AV→AH→Kf→Prop:=AJ prog A7 To Aw Aw Xo (sub p (AG f107)) n
def Xm (x0 x1 x2 x8:AV)(H:AH)(K:KT):Prop:=lp (mk 47 0 [0,1,2,8]) (Zr [tT,tT,tT,fF,fF,fF] 7) [x0,x1,x2,x8] H (AS 0 (AN (Zr [tT,tT,tT,tT] 13) (AR prog f107.results.toList K)))
def Ub (R6:RT)(x0 x1 x2 x8:AV)(H:AH)(K:KT):Prop:=
 bO (AL x8) λv0=>
 bO (Ar .lss v0 x2) λv1=>
 bB v1 λt2=>bI t2 (
 bO (AL x8) λv3=>
 bO (Ar .add x1 v3) λv4=>
 bO (AL x8) λv5=>
 bO (Ar .sub x2 v5) λv6=>
 bC (BCall prog 163 [x0,v4,v6] H) λv7 H8=>
 bO (Ag v7 0) λv9=>
 bO (Ag v7 1) λv10=>
 bO (AL v9) λv11=>
 bO (Ar .eql v11 (I 0)) λv12=>
 bB v12 λt13=>bI t13 (
 K (.tup [x8,v10]) H8)
 (bH (HM 1 1 H8 x8 v9) λv14 H15=>
 R6 [x0,x1,x2,v14] H15))
 (K (.tup [x8,(I 0)]) H)
theorem Xn {K:KT}:eI (λR x0 x1 x2 x8 H=>Ub R x0 x1 x2 x8 H K) (λx0 x1 x2 x8 H=>Xm x0 x1 x2 x8 H K):=RQ (A3 _ _) (λ_ _ _ _ _ _=>by kernel_rfl)
def gZ (a0 a1 a2:AV)(H:AH)(K:KT):Prop:=
 bO (Ar .lss a1 (I 0)) λv0=>
 bG v0 false λw1=>
 gO w1 (some a2) λv2=>
 bG v0 false λw3=>
 gO w3 (Ar .lss v2 (I 0)) λv4=>
 bO (A0 v0 (B true) v4) λv5=>
 bG v5 false λw6=>
 gO w6 (some a2) λv7=>
 bG v5 false λw8=>
 gO w8 (Ar .gtr v7 (I 4096)) λv9=>
 bO (A0 v5 (B true) v9) λv10=>
 bB v10 λt11=>bI t11 (
 K (.tup [Ad,(I 5)]) H)
 (Xm a0 a1 a2 Ad H K)
theorem kL {a0 a1 a2:AV}{H:AH}{K:KT}(h:gZ a0 a1 a2 H K):Ch 107 [a0,a1,a2] H K:=
 fok A7 To Xo func107 h
def Zp:Nat→Option (List Bool):=Cd [(9,mk 43 0 [0,1,6,8])]
def dF (p:List Bool)(n:Nat):List AV→AH→Kf→Prop:=AJ prog A7 To Aw Aw Zp (sub p (AG f56)) n
def Zo (x0 x1 x6 x8:AV)(H:AH)(K:KT):Prop:=lp (mk 43 0 [0,1,6,8]) (dF [tT,tT,tT,tT,fF,fF,fF] 10) [x0,x1,x6,x8] H (AS 1 (AN (dF [tT,tT,tT,tT,tT] 16) (AR prog f56.results.toList K)))
def PQ (R9:RT)(x0 x1 x6 x8:AV)(H:AH)(K:KT):Prop:=
 bO (AL x8) λv0=>
 bO (Ar .lss v0 x6) λv1=>
 bB v1 λt2=>bI t2 (
 bO (AL x8) λv3=>
 bC (BCall prog 45 [x0,x1,v3,(I 4096)] H) λv4 H5=>
 bO (Ag v4 0) λv6=>
 bO (Ag v4 1) λv7=>
 bO (Ar .neq v7 (I 0)) λv8=>
 bB v8 λt9=>bI t9 (
 K (.tup [Ad,v7]) H5)
 (bH (HM 1 1 H5 x8 v6) λv10 H11=>
 R9 [x0,x1,x6,v10] H11))
 (K (.tup [x8,(I 0)]) H)
theorem QF {K:KT}:eI (λR x0 x1 x6 x8 H=>PQ R x0 x1 x6 x8 H K) (λx0 x1 x6 x8 H=>Zo x0 x1 x6 x8 H K):=RQ (A3 _ _) (λ_ _ _ _ _ _=>by kernel_rfl)
def dE (a0 a1:AV)(H:AH)(K:KT):Prop:=
 bC (BCall prog 46 [a0,a1] H) λv0 H1=>
 bO (Ag v0 0) λv2=>
 bO (Ag v0 1) λv3=>
 bO (Ar .neq v3 (I 0)) λv4=>
 bB v4 λt5=>bI t5 (
 K (.tup [Ad,v3]) H1)
 (bO (Ar .gtr v2 (I 65536)) λv6=>
 bB v6 λt7=>bI t7 (
 K (.tup [Ad,(I 5)]) H1)
 (Zo a0 a1 v2 Ad H1 K))
theorem Zq {a0 a1:AV}{H:AH}{K:KT}(h:dE a0 a1 H K):Ch 56 [a0,a1] H K:=
 fok A7 To Zp func56 h
def Xr:Nat→Option (List Bool):=Cd [(200010,mk 37 0 [3,4,6,7,13,14,15,20]),(300010,mk 37 0 [3,4,6,7,10]),(4,mk 37 0 [3,4,6,7,13,14,15])]
def RP:Nat→Bool:=kG [200010]
def EN (p:List Bool)(n:Nat):List AV→AH→Kf→Prop:=AJ prog A7 To wY RP Xr (sub p (AG f109)) n
def VI (R4:RT)(x3 x4 x6 x7 x13 x14 x15 x20:AV)(H:AH)(K:KT):Prop:=unF prog (sub [tT,tT,fF,tT,fF,fF,tT,tT,fF,fF,tT,tT,fF] (AG f109)) (Bt (mk 37 0 [3,4,6,7,13,14,15,20]) [x3,x4,x6,x7,x13,x14,x15,x20]) H (AS 2 (AS 1 (AN (EN [tT,tT,fF,tT,fF,fF,tT,tT,tT] 15) (PP (mk 37 0 [3,4,6,7,13,14,15]) R4 (AS 0 (AN (EN [tT,tT,tT] 15) (AR prog f109.results.toList K)))))))
def Xp (x3 x4 x6 x7 x13 x14 x15:AV)(H:AH)(K:KT):Prop:=lp (mk 37 0 [3,4,6,7,13,14,15]) (EN [tT,tT,fF,tT,fF,fF] 5) [x3,x4,x6,x7,x13,x14,x15] H (AS 0 (AN (EN [tT,tT,tT] 15) (AR prog f109.results.toList K)))
theorem Wm:sub [tT,tT,fF,tT,fF,fF,tT,tT,fF,fF,tT,tT,fF] (AG f109)=.rangeFunc (.tmp 20) #[21] (mT (sub [tT,tT,fF,tT,fF,fF,tT,tT,fF,fF,tT,tT,fF] (AG f109))) (sub [tT,tT,fF,tT,fF,fF,tT,tT,fF,fF,tT,tT,fF,tT] (AG f109)):=by kernel_rfl
def Gd (Rf:Exit→AH→Prop)(x3 x4 x6 x7 x10:AV)(H:AH)(K:KT):Prop:=
 bO (Ap false 1 H x3) λv0=>
 bO (Ap false 1 H x4) λv1=>
 bO (Ap false 1 H x7) λv2=>
 bC (BCall prog 34 [v0,v1,v2,x10] H) λv3 H4=>
 bO (Ag v3 0) λv5=>
 bO (Ag v3 1) λv6=>
 bO (Ar .neq v6 (I 0)) λv7=>
 bB v7 λt8=>bI t8 (
 bS (AP 1 H4 x6 v6) λH9=>
 Rf .ret H9)
 (bO (Ap false 1 H4 x7) λv10=>
 bO (Ar .add v10 v5) λv11=>
 bS (AP 1 H4 x7 v11) λH12=>
 Rf .normal H12)
theorem Y0 (Rf:Exit→AH→Prop)(x3 x4 x6 x7 x10:AV)(H:AH)(K:KT):EN [tT,tT,fF,tT,fF,fF,tT,tT,fF,fF,tT,tT,fF,tT] 11 (Bt (mk 37 0 [3,4,6,7,10]) [x3,x4,x6,x7,x10]) H (λe _ H=>Rf e H)=Gd Rf x3 x4 x6 x7 x10 H K:=by kernel_rfl
theorem Y1 (R4:RT)(x3 x4 x6 x7 x13 x14 x15 x20:AV)(H:AH)(K:KT):(AS 2 (AS 1 (AN (EN [tT,tT,fF,tT,fF,fF,tT,tT,tT] 15) (PP (mk 37 0 [3,4,6,7,13,14,15]) R4 (AS 0 (AN (EN [tT,tT,tT] 15) (AR prog f109.results.toList K))))))) .normal (Bt (mk 37 0 [3,4,6,7,13,14,15,20]) [x3,x4,x6,x7,x13,x14,x15,x20]) H=(bO (Ar .add x15 (I 1)) λv6=>
 R4 [x3,x4,x6,x7,x13,x14,v6] H):=by kernel_rfl
theorem Y2 (R4:RT)(x3 x4 x6 x7 x13 x14 x15 x20:AV)(H:AH)(K:KT):(AS 2 (AS 1 (AN (EN [tT,tT,fF,tT,fF,fF,tT,tT,tT] 15) (PP (mk 37 0 [3,4,6,7,13,14,15]) R4 (AS 0 (AN (EN [tT,tT,tT] 15) (AR prog f109.results.toList K))))))) .ret (Bt (mk 37 0 [3,4,6,7,13,14,15,20]) [x3,x4,x6,x7,x13,x14,x15,x20]) H=(bO (Ap false 1 H x6) λv7=>
 K v7 H):=by kernel_rfl
def Uc (R4:RT)(x3 x4 x6 x7 x13 x14 x15:AV)(H:AH)(K:KT):Prop:=
 bO (Ar .lss x15 x14) λv0=>
 bB v0 λt1=>bI t1 (
 bO (Bo 1 x13 x15) λv2=>
 bO (Ap false 1 H v2) λv3=>
 bC (BCall prog 65 [v3,(I 4096)] H) λv4 H5=>
 VI R4 x3 x4 x6 x7 x13 x14 x15 v4 H5 K)
 (bS (AP 1 H x6 (I 0)) λH8=>
 bO (Ap false 1 H8 x6) λv9=>
 K v9 H8)
theorem Xq {K:KT}:zdiqZ (λR x3 x4 x6 x7 x13 x14 x15 H=>Uc R x3 x4 x6 x7 x13 x14 x15 H K) (λx3 x4 x6 x7 x13 x14 x15 H=>Xp x3 x4 x6 x7 x13 x14 x15 H K):=zdnwZ (Dv _ _) (λ_ _ _ _ _ _ _ _ _=>by kernel_rfl)
def Yz (a0 a1 a2:AV)(H:AH)(K:KT):Prop:=
 bH (AC H a0) λv0 H1=>
 bH (AC H1 a1) λv2 H3=>
 bH (AC H3 (I 0)) λv4 H5=>
 bH (AC H5 (I 0)) λv6 H7=>
 bS (AP 1 H7 v6 (I 0)) λH8=>
 bO (AL a2) λv9=>
 Xp v0 v2 v4 v6 a2 v9 (I 0) H8 K
theorem kM (a0 a1 a2:AV)(H:AH)(K:KT):UY prog A7 To wY RP Xr f109 [a0,a1,a2] H K=Yz a0 a1 a2 H K:=by kernel_rfl
theorem kN {a0 a1 a2:AV}{H:AH}{K:KT}(h:Yz a0 a1 a2 H K):ACalls prog 109 [a0,a1,a2] H K:=
 Nn PT func109 (by kernel_rfl) (Eq.mpr (kM a0 a1 a2 H K) h)
def oD:Nat→Bool:=kG []
def dG (a0 a1 a2:AV)(H:AH)(K:KT):Prop:=
 bC (BCall prog 13 [a0,a1,(B true)] H) λv0 H1=>
 bO (Ag v0 0) λv2=>
 bO (Ag v0 1) λv3=>
 bO (Ar .neq v3 (I 0)) λv4=>
 bB v4 λt5=>bI t5 (
 K v3 H1)
 (bC (BCall prog 49 [a0,v2,(I 0)] H1) λv6 H7=>
 bO (Ar .neq v6 (I 0)) λv8=>
 bB v8 λt9=>bI t9 (
 K v6 H7)
 (bA (ACalls prog 109 [a0,v2,a2] H7) λv10 H11=>
 bO (Ar .neq v10 (I 0)) λv12=>
 bB v12 λt13=>bI t13 (
 K v10 H11)
 (bH (D9 H11 1 1 (B4 [(I 0)] 1) [(0,1,v2)]) λv14 H15=>
 bC (BCall prog 39 [a0,v14] H15) λv16 H17=>
 K v16 H17)))
theorem oB (a0 a1 a2:AV)(H:AH)(K:KT):UY prog A7 To wY oD BA f53 [a0,a1,a2] H K=dG a0 a1 a2 H K:=by kernel_rfl
theorem oC {a0 a1 a2:AV}{H:AH}{K:KT}(h:dG a0 a1 a2 H K):ACalls prog 53 [a0,a1,a2] H K:=
 Nn PT func53 (by kernel_rfl) (Eq.mpr (oB a0 a1 a2 H K) h)
def QS:Nat→Bool:=kG []
def Hj (H:AH)(K:KT):Prop:=
 bH (D9 H 1 8 (B4 [u0Z] 8) [(0,1,(.lit (.int .u8 97))),(1,1,(.lit (.int .u8 98))),(2,1,(.lit (.int .u8 99))),(3,1,(.lit (.int .u8 100))),(4,1,(.lit (.int .u8 101))),(5,1,(.lit (.int .u8 102))),(6,1,(.lit (.int .u8 103))),(7,1,(.lit (.int .u8 104)))]) λv0 H1=>
 bH (mJ H1 v0) λv2 H3=>
 bH (D9 H3 1 2 (B4 [(I 0)] 2) [(0,1,(I 3)),(1,1,(I 3))]) λv4 H5=>
 bO (En [Ad,Ad,Ad,Ad] [(0,1,v2),(3,1,v4)]) λv6=>
 bA (ACalls prog 106 [v6] H5) λv7 H8=>
 bC (BCall prog 11 [(I 9)] H8) λv9 H10=>
 bO (ZQ .eql Y7 v7 (.lit (.pointer none))) λv11=>
 bG v11 false λw12=>
 gO w12 (some v9) λv13=>
 bG v11 false λw14=>
 gO w14 (ZQ .eql Y7 v13 (.lit (.pointer none))) λv15=>
 bO (A0 v11 (B true) v15) λv16=>
 bB v16 λt17=>bI t17 (
 K (B false) H10)
 (bC (BCall prog 107 [v7,(I 0),(I 8)] H10) λv18 H19=>
 bO (Ag v18 0) λv20=>
 bO (Ag v18 1) λv21=>
 bH (D9 H19 1 1 (B4 [u0Z] 1) [(0,1,(.lit (.int .u8 105)))]) λv22 H23=>
 bH (mJ H23 v22) λv24 H25=>
 bH (D9 H25 1 2 (B4 [Ad] 2) [(0,1,v20),(1,1,v24)]) λv26 H27=>
 bA (ACalls prog 53 [v9,(.lit (.string ⟨#[97]⟩)),v26] H27) λv28 H29=>
 bC (BCall prog 56 [v9,(I 1)] H29) λv30 H31=>
 bO (Ag v30 0) λv32=>
 bO (Ag v30 1) λv33=>
 bO (xS H31 v20) λv34=>
 bO (XZ .eql v34 (.lit (.string ⟨#[97,98,99,100,101,102,103,104]⟩))) λv35=>
 bG v35 true λw36=>
 gO w36 (some v21) λv37=>
 bG v35 true λw38=>
 gO w38 (Ar .eql v37 (I 0)) λv39=>
 bO (A0 v35 v39 (B false)) λv40=>
 bG v40 true λw41=>
 gO w41 (some v7) λv42=>
 bG v40 true λw43=>
 gC w43 (BCall prog 108 [v42] H31) H31 λv44 H45=>
 bG v40 true λw46=>
 gO w46 (Ar .eql v44 (I 3)) λv47=>
 bO (A0 v40 v47 (B false)) λv48=>
 bG v48 true λw49=>
 gO w49 (some v28) λv50=>
 bG v48 true λw51=>
 gO w51 (Ar .eql v50 (I 0)) λv52=>
 bO (A0 v48 v52 (B false)) λv53=>
 bG v53 true λw54=>
 gO w54 (some v32) λv55=>
 bG v53 true λw56=>
 gO w56 (xS H45 v55) λv57=>
 bG v53 true λw58=>
 gO w58 (XZ .eql v57 (.lit (.string ⟨#[97,98,99,100,101,102,103,104,105]⟩))) λv59=>
 bO (A0 v53 v59 (B false)) λv60=>
 bG v60 true λw61=>
 gO w61 (some v33) λv62=>
 bG v60 true λw63=>
 gO w63 (Ar .eql v62 (I 0)) λv64=>
 bO (A0 v60 v64 (B false)) λv65=>
 K v65 H45)
theorem QQ (H:AH)(K:KT):UY prog A7 To wY QS BA f52 [] H K=Hj H K:=by kernel_rfl
theorem QR {H:AH}{K:KT}(h:Hj H K):ACalls prog 52 [] H K:=
 Nn PT func52 (by kernel_rfl) (Eq.mpr (QQ H K) h)
end Go.Proofs.YtadghlcfbajamaaGreat.Av
end
section
namespace Go.Proofs.YtadghlcfbajamaaGreat.Av
open Go Go.RowKit Go.Proofs.Tryz
structure LwS (os b0:Nat)(ino:Int)(s:StS)(at':Int)(p:AV)(H:AH):Prop where
 st:StAt s os p H
 bx:H[b0]?=some (some (.cells [.ptr os 0]))
 bi:H[b0+1]?=some (some (.cells [I ino]))
 br:∃a,H[b0+2]?=some (some (.cells [a]))
 ba:H[b0+3]?=some (some (.cells [I at']))
 no:os<b0
 nb:∀j,b0≤j→j≤b0+3→j∉AM p
structure LwF (os b0:Nat)(p p':AV)(H H':AH):Prop where
 len:H.length≤H'.length
 same:∀j,j<H.length→j≠os→(j<b0+2∨b0+3<j)→j∉AM p→H'[j]?=H[j]?
 ids:∀j∈AM p',j∈AM p∨H.length≤j
theorem LwF.refl (os b0:Nat)(p:AV)(H:AH):LwF os b0 p p H H:=⟨Ah9 _,λ_ _ _ _ _=>rfl,λ_ h=>.inl h⟩
theorem LwF.trans {os b0:Nat}{p p' p'':AV}{A B C:AH}(h:LwF os b0 p p' A B)(k:LwF os b0 p' p'' B C):LwF os b0 p p'' A C:=
  ⟨Aj0 h.len k.len,λj hj h1 h3 hp=>by
    rw[k.same j (Ak8 hj h.len) h1 h3 (λhp'=>(h.ids j hp').elim hp (λq=>by omega)),h.same j hj h1 h3 hp],
   λj hj=>(k.ids j hj).elim (h.ids j) (λq=>.inr (Aj0 h.len q))⟩
theorem LwF.of_grew {os b0:Nat}{p:AV}{H H':AH}(g:Grew H H'):LwF os b0 p p H H':=⟨g.1,λj hj _ _ _=>g.2 j hj,λ_ h=>.inl h⟩
theorem LwS.grew {os b0:Nat}{ino:Int}{s:StS}{at':Int}{p:AV}{H H':AH}(h:LwS os b0 ino s at' p H)(g:Grew H H'):LwS os b0 ino s at' p H':=by
 obtain⟨a,ha⟩:=h.br;exact⟨h.st.grew g,g.cells h.bx,g.cells h.bi,⟨a,g.cells ha⟩,g.cells h.ba,h.no,h.nb⟩
theorem zddiZ {os b0:Nat}{ino:Int}{s:StS}{at':Int}{p w:AV}{H:AH}{N:Nat}{b:List UInt8}{K0:AV→AH→Prop}{J X:AH→Prop}(h:LwS os b0 ino s at' p H)(hw:SW N s)(hN:N+9*b.length<900000)
  (hv:Ac H 1 w=some (AY b,b.length)) (hvi:∀j∈AM w,j≠os∧j∉AM p) (ha:0≤at'∧at'+b.length≤9223372036854775807)
  (hj:(BI s ino at' b).1.2=0→∀p' H',LwS os b0 ino (BI s ino at' b).2 (at'+(BI s ino at' b).1.1) p' H'→LwF os b0 p p' H H'→J H')
  (hx:(BI s ino at' b).1.2≠0→∀p' H',StAt (BI s ino at' b).2 os p' H'→LwF os b0 p p' H H'→H'[b0+2]?=some (some (.cells [I (BI s ino at' b).1.2]))→X H'):
  Gd (λe H'=>match e with | .normal=>J H' | .ret=>X H' | _=>False) (.ptr b0 0) (.ptr (b0+1) 0) (.ptr (b0+2) 0) (.ptr (b0+3) 0) w H K0:=by
 unfold Gd;obtain⟨n1,n2⟩:=XU s ino at' b;obtain⟨r,H1,⟨rfl,p',h1,f1⟩,hc⟩:=jA h.st hw ino at' hN hv hvi;generalize BI s ino at' b=W at*;have d4:=h.no;have hl3:b0+3<H.length:=(BE.1 h.ba).1;have np:∀j,j<H.length→j∉AM p→j∉AM p':=λj hj hp q=>(f1.ids j q).elim hp (λq=>by omega)
 have keep:∀j,b0≤j→j≤b0+3→H1[j]?=H[j]?:=λj hj1 hj2=>f1.same j (by omega) (by omega) (h.nb j hj1 hj2)
 have kx:H1[b0]?=_:=(keep b0 (by omega) (by omega)).trans h.bx;have ki:H1[b0+1]?=_:=(keep _ (by omega) (by omega)).trans h.bi;have ka:H1[b0+3]?=_:=(keep _ (by omega) (by omega)).trans h.ba;obtain⟨a2,q2⟩:=h.br;have kr:H1[b0+2]?=_:=(keep _ (by omega) (by omega)).trans q2;simp only[Ai h.bx,Ai h.bi,Ai h.ba,Ah2,C1];refine bC_of hc ?_;have hlen:=f1.len;have hid:∀j∈AM p',j<H1.length:=h1.p_lt;simp only[Ad0]
 have nob:∀j,j=os∨j∈AM p'→j≠b0+2∧j≠b0+3:=by
  intro j hj;rcases hj with rfl | hj
  ·omega
  ·exact⟨λe=>np (b0+2) (by omega) (h.nb _ (by omega) (by omega)) (by rw[← e];exact hj),λe=>np (b0+3) (by omega) (h.nb _ (by omega) (by omega)) (by rw[← e];exact hj)⟩
 by_cases he:W.1.2=0
 ·have e1:Ar .add (I at') (I W.1.1)=some (I (at'+W.1.1)):=Au (by omega) (by omega)
  have e2:AP 1 H1 (.ptr (b0+3) 0) (I (at'+W.1.1))=some (H1.set (b0+3) (some (.cells [I (at'+W.1.1)]))):=eJ ka (by simp) rfl;simp only[he,Ag2,Ai ka,Ah2,C1,e1,e2,AF];generalize hH2:H1.set (b0+3) (some (AObj.cells [I (at'+W.1.1)]))=H2;have g2:∀j,j≠b0+3→H2[j]?=H1[j]?:=λj hj=>by rw[← hH2];exact Cc (Aj4 hj)
  have ga:H2[b0+3]?=some (some (.cells [I (at'+W.1.1)])):=by rw[← hH2];exact JY (by omega)
  have l2:H2.length=H1.length:=by rw[← hH2,Aj6]
  exact hj he p' H2 ⟨h1.keep λj hj=>g2 j (nob j hj).2,by rw[g2 _ (by omega)];exact kx,by rw[g2 _ (by omega)];exact ki,⟨a2,by rw[g2 _ (by omega)];exact kr⟩,ga,d4,λj hj1 hj2=>np j (by omega) (h.nb j hj1 hj2)⟩
   ⟨by omega,λj hj h1 h3 hp=>by rw[g2 j (by omega),f1.same j hj h1 hp],f1.ids⟩
 ·have e2:AP 1 H1 (.ptr (b0+2) 0) (I W.1.2)=some (H1.set (b0+2) (some (.cells [I W.1.2]))):=eJ kr (by simp) rfl
  simp only[he,Ab6,CL,e2,AF];generalize hH2:H1.set (b0+2) (some (AObj.cells [I W.1.2]))=H2;have g2:∀j,j≠b0+2→H2[j]?=H1[j]?:=λj hj=>by rw[← hH2];exact Cc (Aj4 hj)
  have ga:H2[b0+2]?=some (some (.cells [I W.1.2])):=by rw[← hH2];exact JY (by omega)
  have l2:H2.length=H1.length:=by rw[← hH2,Aj6]
  exact hx he p' H2 (h1.keep λj hj=>g2 j (nob j hj).1) ⟨by omega,λj hj h1 h3 hp=>by rw[g2 j (by omega),f1.same j hj h1 hp],f1.ids⟩ ga
noncomputable abbrev zdkfZ:Code:=AG f109
theorem zdkgZ (x3 x4 x6 x7 x13 x14 x15 x20 x:AV)(H:AH)(Q:Exit→List AV→AH→Prop):AJ prog (LT []) Aw Aw Aw (Cd []) (mT (sub zdjxZ zdkfZ)) 0 ((Bt (mk 37 0 [3,4,6,7,13,14,15,20]) [x3,x4,x6,x7,x13,x14,x15,x20]).set 21 x) H (λe T H=>fP (mk 37 0 [3,4,6,7,10]) T λX=>Q e X H)=Q .normal [x3,x4,x6,x7,x] H:=by kernel_rfl
theorem wN:G5 (LT []) Aw (mT (sub zdjxZ zdkfZ))=true:=by kernel_rfl
theorem zddjZ:DW A7 To RP (sub (zdjxZ++[true]) zdkfZ)=true:=by kernel_rfl
theorem zdkhZ {x3 x4 x6 x7 x13 x14 x15 x20 x:AV}{H:AH}{J X:AH→Prop}{K0:AV→AH→Prop}(h:Gd (λe H'=>match e with | .normal=>J H' | .ret=>X H' | _=>False) x3 x4 x6 x7 x H K0):
  fY prog (mT (sub zdjxZ zdkfZ)) (sub (zdjxZ++[true]) zdkfZ) (Bt (mk 37 0 [3,4,6,7,13,14,15,20]) [x3,x4,x6,x7,x13,x14,x15,x20]) 21 x H J (λc H'=>c=.ret∧X H'):=by
 obtain⟨e,T',H',hk,hb⟩:=I9 PT (mT (sub zdjxZ zdkfZ)) 0 _ H _ wN (Eq.mpr (zdkgZ x3 x4 x6 x7 x13 x14 x15 x20 x H (λe X H2=>e=.normal∧X=[x3,x4,x6,x7,x]∧H2=H)) ⟨rfl,rfl,rfl⟩);obtain⟨hl,he,hX,hH⟩:=C5.1 hk;subst he;subst hH;refine⟨T',hb,?_⟩;refine ACode.weak (λG a hF=>Fp hl hF) ?_;rw[hX];refine(Fs PT (sub (zdjxZ++[true]) zdkfZ) _ _ _ _ zddjZ (Eq.mpr (Y0 (λe H'=>match e with | .normal=>J H' | .ret=>X H' | _=>False) x3 x4 x6 x7 x _ K0) h)).mono ?_;intro e T H2 hk;cases e with
 | normal=>exact hk
 | ret=>exact⟨rfl,hk⟩
 | _=>exact hk.elim
theorem zdpzZ {R4:List AV→AH→Prop}{x3 x4 x6 x7 x13 x14 x15:AV}{H:AH}{K:AV→AH→Prop}{k:FuncId}{cap xs:List AV}{Cap:AH→Prop}(hit:iV prog k cap Cap xs)(hgo:BW prog k=true)(J:Nat→AH→Prop)(X:AH→Prop)(h0:J 0 H)(hcap:∀i H',J i H'→Cap H')
  (hr:∀i x H',xs[i]?=some x→J i H'→Gd (λe H'=>match e with | .normal=>J (i+1) H' | .ret=>X H' | _=>False) x3 x4 x6 x7 x H' K)
  (hdone:∀H',J xs.length H'→bO (Ar .add x15 (I 1)) λv6=>R4 [x3,x4,x6,x7,x13,x14,v6] H')
  (hout:∀H',X H'→bO (Ap false 1 H' x6) λv7=>K v7 H'):VI R4 x3 x4 x6 x7 x13 x14 x15 (.fn (.func k) [] cap) H K:=by
 refine⟨?_⟩;rw[Wm];refine ACode.rangeF hit hgo rfl J (λc H'=>c=.ret∧X H') h0 hcap (λi x H' hx hj=>zdkhZ (hr i x H' hx hj)) (λH' hj=>?_) (λc H' hx=>.inl ⟨hx.1,?_⟩)
 ·exact Eq.mpr (Y1 R4 x3 x4 x6 x7 x13 x14 x15 (.fn (.func k) [] cap) H' K) (hdone H' hj)
 ·exact Eq.mpr (Y2 R4 x3 x4 x6 x7 x13 x14 x15 (.fn (.func k) [] cap) H' K) (hout H' hx.2)
theorem zdinZ {N:Nat}{s:StS}{os:Nat}{p a2:AV}{H:AH}{ino:Int}{bl:List (AV×List UInt8)}(hst:StAt s os p H)(hw:SW N s)
  (ha:Ac H 1 a2=some (bl.map Prod.fst,bl.length)) (hai:∀j∈AM a2,j≠os∧j∉AM p) (hb:∀x∈bl,Ac H 1 x.1=some (AY x.2,x.2.length)∧oneA x.1=true∧x.2.length≤1000000∧∀j∈AM x.1,j≠os∧j∉AM p) (hbn:bl.length≤1000000)
  (hN:N+9*JK (bl.flatMap λx=>BK x.2)<900000):
  ACalls prog 109 [.ptr os 0,I ino,a2] H λr H'=>∃p',r=I (pcs ino (bl.flatMap λx=>BK x.2) s 0 0).2∧StAt (pcs ino (bl.flatMap λx=>BK x.2) s 0 0).1.1 os p' H'∧StF os p p' H H':=kN (by
 generalize hRES:pcs ino (bl.flatMap λx=>BK x.2) s 0 0=RES;generalize hNN:N+9*JK (bl.flatMap λx=>BK x.2)=NN at hN;unfold Yz;have n1:∀(Z:AH) (x:AV),oneA x=true→AC Z x=some (.ptr Z.length 0,Z++[some (.cells [x])]):=λZ x hx=>by unfold AC;rw[Bs hx];rfl
 generalize hb0:H.length=b0;have al:AL a2=some (I (bl.length:Nat)):=By ha
 have s0:AP 1 (H++[some (AObj.cells [.ptr os 0])]++[some (.cells [I ino])]++[some (.cells [I 0])]++[some (.cells [I 0])]) (.ptr (b0+3) 0) (I 0)=some (H++[some (AObj.cells [.ptr os 0])]++[some (.cells [I ino])]++[some (.cells [I 0])]++[some (.cells [I 0])]):=by
  rw[eJ (cs:=[I 0]) (k:=0) (by rw[← hb0];simp) (by simp) rfl]
  congr 1
  apply Ak5;intro j
  by_cases c:j=b0+3
  ·subst c
   rw[JY (by rw[← hb0];simp),← hb0];simp
  ·rw[Cc (Aj4 c)]
 have l1:(H++[some (AObj.cells [AV.ptr os 0])]).length=b0+1:=by simp[hb0]
 have l2:(H++[some (AObj.cells [AV.ptr os 0])]++[some (AObj.cells [I ino])]).length=b0+2:=by simp[hb0]
 have l3:(H++[some (AObj.cells [AV.ptr os 0])]++[some (AObj.cells [I ino])]++[some (AObj.cells [I 0])]).length=b0+3:=by simp[hb0]
 simp only[n1 H (AV.ptr os 0) rfl,Ae5,n1 (H++[some (AObj.cells [AV.ptr os 0])]) (I ino) rfl,n1 (H++[some (AObj.cells [AV.ptr os 0])]++[some (AObj.cells [I ino])]) (I 0) rfl,n1 (H++[some (AObj.cells [AV.ptr os 0])]++[some (AObj.cells [I ino])]++[some (AObj.cells [I 0])]) (I 0) rfl,hb0,l1,l2,l3,s0,al,Aa]
 have g0:Grew H (H++[some (AObj.cells [AV.ptr os 0])]++[some (AObj.cells [I ino])]++[some (AObj.cells [I 0])]++[some (AObj.cells [I 0])]):=by
  simp only[Ai8];exact Grew.app H _
 have hplt:=hst.p_lt;have holt:=hst.os_lt;have S0:LwS os b0 ino s 0 p (H++[some (AObj.cells [AV.ptr os 0])]++[some (AObj.cells [I ino])]++[some (AObj.cells [I 0])]++[some (AObj.cells [I 0])]):=
  ⟨hst.grew g0,by rw[← hb0];simp,by rw[← hb0];simp,⟨I 0,by rw[← hb0];simp⟩,by rw[← hb0];simp,by omega,λj hj _ q=>by have:=hplt j q;omega⟩
 have F0:LwF os b0 p p H (H++[some (AObj.cells [AV.ptr os 0])]++[some (AObj.cells [I ino])]++[some (AObj.cells [I 0])]++[some (AObj.cells [I 0])]):=.of_grew g0;have B0:Bd NN (bl.flatMap λx=>BK x.2) s 0 0:=⟨⟨N,hw,by omega⟩,by omega,by omega⟩;have fin:∀{p' H'},LwF os b0 p p' H H'→StF os p p' H H':=λf=>⟨f.len,λj hj h1 hp=>f.same j hj h1 (by omega) hp,f.ids⟩
 generalize (H++[some (AObj.cells [AV.ptr os 0])]++[some (AObj.cells [I ino])]++[some (AObj.cells [I 0])]++[some (AObj.cells [I 0])])=HB at S0 F0;refine Xq (λm x2 x4 x5 x6 x12 x13 x14 H'=>∃(k:Nat) (s:StS) (at' sum:Int) (p':AV),k+m=bl.length∧x2=.ptr b0 0∧x4=.ptr (b0+1) 0∧x5=.ptr (b0+2) 0∧x6=.ptr (b0+3) 0∧a2=x12∧x13=I bl.length∧x14=I k∧
  LwS os b0 ino s at' p' H'∧LwF os b0 p p' H H'∧pcs ino ((bl.drop k).flatMap λx=>BK x.2) s at' sum=RES∧Bd NN ((bl.drop k).flatMap λx=>BK x.2) s at' 0) ?_ bl.length ⟨0,s,0,0,p,by omega,rfl,rfl,rfl,rfl,rfl,rfl,rfl,S0,F0,hRES,B0⟩
 rintro m x2 x4 x5 x6 x12 x13 x14 H1 R hR ⟨k,s,at',sum,p1,hk,rfl,rfl,rfl,rfl,e12,rfl,rfl,S1,F1,hpc,hbd⟩;subst e12;unfold Uc;have keepS:∀{w:AV} {sz:Nat} {cs:List AV} {n:Nat} {p2:AV} {H2:AH},Ac H sz w=some (cs,n)→(∀j∈AM w,j≠os∧j∉AM p)→LwF os b0 p p2 H H2→Ac H2 sz w=some (cs,n):=λh1 h2 f=>Ae h1 λj hj=>f.same j (Az h1 j hj) (h2 j hj).1 (by have:=Az h1 j hj;omega) (h2 j hj).2
 rcases Ai0 k bl.length with h | h
 ·have hx:=DD h
  generalize bl[k]=vb at hx;obtain⟨v,b⟩:=vb;obtain⟨hb1,hb2,hb3,hb4⟩:=hb _ (Ah7 hx);simp only at hb1 hb2 hb3 hb4;have hdrop:bl.drop k=(v,b)::bl.drop (k+1):=Dy hx;rw[hdrop]at hpc hbd;simp only[Aj9]at hpc hbd;generalize hrest:(bl.drop (k+1)).flatMap (λx=>BK x.2)=rest at hpc hbd;have kI:(k:Int)<(bl.length:Int):=by omega
  have ha1:=keepS ha hai F1;have hv1:=keepS hb1 hb4 F1;obtain⟨pp,q1,q2⟩:=zdduZ (enc:=fun x:AV×List UInt8=>[x.1]) (f:=Prod.fst) (λ_=>rfl) (l:=bl) (by rw[← List.map_eq_flatMap];exact ha1) hx;simp only[Ac0,kI,Ad1,q1,q2];refine bC_of (zdfkZ hv1 hb2) ?_;have g2:=Grew.app H1 [some (AObj.cells [v]),some (.cells [I 4096])];have S2:=S1.grew g2;have F2:LwF os b0 p p1 H (H1++[some (AObj.cells [v]),some (.cells [I 4096])]):=F1.trans (.of_grew g2);have t0:(H1++[some (AObj.cells [v]),some (.cells [I 4096])])[H1.length]?=some (some (.cells [v])):=by simp
  have t1:(H1++[some (AObj.cells [v]),some (.cells [I 4096])])[H1.length+1]?=some (some (.cells [I 4096])):=by simp
  have hlc:(H1++[some (AObj.cells [v]),some (.cells [I 4096])]).length=H1.length+2:=by simp
  have hp1:=S1.st.p_lt;have hb03:b0+3<H1.length:=(BE.1 S1.ba).1;have z4:=S1.no;generalize (H1++[some (AObj.cells [v]),some (.cells [I 4096])])=Hc at S2 F2 t0 t1 hlc
  refine zdpzZ (zG (o1:=H1.length) (o2:=H1.length+1) (s:=v) (cs:=AY b) (len:=b.length) (n:=4096) (by omega) (by omega) (by omega)) (by kernel_rfl)
   (λi H'=>∃(s:StS) (at' sum:Int) (p':AV),LwS os b0 ino s at' p' H'∧LwF os b0 p1 p' Hc H'∧pcs ino ((BK b).drop i++rest) s at' sum=RES∧Bd NN ((BK b).drop i++rest) s at' 0)
   (λH'=>∃(s:StS) (at' sum:Int) (p':AV) (e:Int),StAt s os p' H'∧LwF os b0 p1 p' Hc H'∧H'[b0+2]?=some (some (.cells [I e]))∧RES=((s,at',sum),e))
   ⟨s,at',sum,p1,S2,.refl _ _ _ _,by simpa using hpc,by simpa using hbd⟩ ?_ ?_ ?_ ?_
  ·rintro i H' ⟨s',at'',sum',p',S',F',-,-⟩
   refine⟨(F'.same _ (by omega) (by omega) (by omega) (λq=>by have:=hp1 _ q;omega)).trans t0,(F'.same _ (by omega) (by omega) (by omega) (λq=>by have:=hp1 _ q;omega)).trans t1,keepS hb1 hb4 (F2.trans F')⟩
  ·rintro i x H' hxi ⟨s',at'',sum',p',S',F',hpc',hbd'⟩
   have hi:i<tD b.length 4096:=by
    have:=(BE.1 hxi).1
    rwa[jS]at this
   have hil:=(zC (len:=b.length) (k:=i) (show 0<4096 by omega)).1 hi
   have ex:x=zdhxZ v b.length 4096 i:=by
    unfold zdlrZ at hxi;rw[Aj3,Aq3 hi]at hxi;injection hxi with hxi;exact hxi.symm
   subst ex;have hv':=keepS hb1 hb4 (F2.trans F');obtain⟨c1,c2⟩:=zdjjZ hv' hil;have hcd:(BK b).drop i=Wp b i::(BK b).drop (i+1):=Dy (qN hi);rw[hcd,An9]at hpc' hbd';obtain⟨⟨M,w1,w2⟩,w3,w4⟩:=hbd';rw[U9]at w2 w3 w4
   have fp:∀j∈AM v,j∉AM p':=λj hj q=>by
    have hjl:=Az hb1 j hj;rcases(F2.trans F').ids j q with q | q
    ·exact(hb4 j hj).2 q
    ·omega
   have wn:=XU s' ino at'' (Wp b i);have ww:=XV w1 ino at'' (Wp b i);unfold pcs at hpc';refine zddiZ S' w1 (by omega) c1 (λj hj=>⟨(hb4 j (c2 j hj)).1,fp j (c2 j hj)⟩) (by omega) ?_ ?_
   ·intro he p2 H2 S2' F2'
    rw[if_pos he]at hpc';exact⟨_,_,_,p2,S2',F'.trans F2',hpc',⟨⟨_,ww,by omega⟩,by omega,by omega⟩⟩
   ·intro he p2 H2 S2' F2' r2
    rw[if_neg he]at hpc';exact⟨_,_,_,p2,_,S2',F'.trans F2',r2,hpc'.symm⟩
  ·rintro H' ⟨s',at'',sum',p',S',F',hpc',hbd'⟩
   rw[jS,← qO,Ap5,Am5]at hpc' hbd';simp only[Au (a:=k) (b:=1) (by omega) (by omega),Aa];exact hR (m - 1) _ _ _ _ _ _ _ _ (by omega) ⟨k+1,s',at'',sum',p',by omega,rfl,rfl,rfl,rfl,rfl,rfl,by simp,S',F2.trans F',by rw[hrest];exact hpc',by rw[hrest];exact hbd'⟩
  ·rintro H' ⟨s',at'',sum',p',e,S',F',r2,rfl⟩
   simp only[Ai r2,Ah2,C1];exact⟨p',by trivial,S',fin (F2.trans F')⟩
 ·have kI:¬(k:Int)<(bl.length:Int):=by omega
  have hdrop:bl.drop k=[]:=Aj5 h;rw[hdrop]at hpc;simp only[List.flatMap_nil]at hpc;unfold pcs at hpc;subst hpc;obtain⟨c,r2⟩:=S1.br;have hb03:b0+3<H1.length:=(BE.1 S1.ba).1;have z4:=S1.no;have e2:AP 1 H1 (.ptr (b0+2) 0) (I 0)=some (H1.set (b0+2) (some (.cells [I 0]))):=eJ r2 (by simp) rfl;simp only[Ae8,kI,e2,AF];generalize hH4:H1.set (b0+2) (some (AObj.cells [I 0]))=H4;have g4:∀j,j≠b0+2→H4[j]?=H1[j]?:=λj hj=>by rw[← hH4,Cc (Aj4 hj)]
  have t2:H4[b0+2]?=some (some (.cells [I 0])):=by rw[← hH4];exact JY (by omega)
  have l4:H4.length=H1.length:=by rw[← hH4,Aj6]
  simp only[Ai t2,Ah2,C1];refine⟨p1,by trivial,S1.st.keep λj hj=>?_,fin ⟨by have:=F1.len;omega,λj hj h1 h3 hp=>by rw[g4 j (by omega)];exact F1.same j hj h1 h3 hp,F1.ids⟩⟩;rcases hj with rfl | hj
  ·exact g4 j (by omega)
  ·exact g4 j (λe=>S1.nb (b0+2) (by omega) (by omega) (by rw[← e];exact hj)))
theorem pY {N:Nat}{s:StS}{os:Nat}{p:AV}{H:AH}(h:StAt s os p H)(hw:SW N s)(hN:N≤900000)(ino:Int):∃r H',(r=.tup [I (Aq s ino).1.1,I (Aq s ino).2]∧Grew H H')∧BCall prog 46 [.ptr os 0,I ino] H r H':=Vo (by
 unfold Rq;obtain⟨R,hR,r,H1,⟨rfl,g1⟩,hc⟩:=Ju h hw hN ino;have oR:=SV.oneA hR;refine bC_of hc ?_;have g2:=Grew.app H1 [some (AObj.cells [I (Aq s ino).1.1,R])];simp only[Ac4,Ab5,Y8,Ae5,HU _ _ oR,Ai Dk];exact⟨by trivial,g1.trans g2⟩)
theorem zdhsZ {N:Nat}{s:StS}{os:Nat}{p a2:AV}{H:AH}{nm:List UInt8}{bl:List (AV×List UInt8)}(hst:StAt s os p H)(hw:SW N s)(hnm:nm.length≤9223372036854775807)
  (ha:Ac H 1 a2=some (bl.map Prod.fst,bl.length)) (hai:∀j∈AM a2,j≠os∧j∉AM p) (hb:∀x∈bl,Ac H 1 x.1=some (AY x.2,x.2.length)∧oneA x.1=true∧x.2.length≤1000000∧∀j∈AM x.1,j≠os∧j∉AM p) (hbn:bl.length≤1000000)
  (hN:N+2+9*JK (bl.flatMap λx=>BK x.2)<900000):
  ACalls prog 53 [.ptr os 0,S (B9 nm),a2] H λr H'=>∃p',r=I (lE s nm (bl.flatMap λx=>BK x.2)).1∧StAt (lE s nm (bl.flatMap λx=>BK x.2)).2 os p' H'∧StF os p p' H H':=oC (by
 unfold dG;obtain⟨r,H1,⟨rfl,p1,h1,f1⟩,hc⟩:=pS hst hw (by omega) hnm true;have w1:=X2 hw nm true;refine bC_of hc ?_;unfold lE;generalize Bq s nm true=O at*;simp only[Ad0]
 by_cases c1:O.1.2=0
 rotate_left
 ·simp only[c1,Ad4]
  exact⟨p1,by trivial,h1,f1⟩
 simp only[c1,Ag3];obtain⟨r,H2,⟨rfl,p2,h2,f2⟩,hc⟩:=sQ h1 w1 (by omega) O.1.1 0;have w2:=XO w1 O.1.1 0;refine bC_of hc ?_;generalize DH O.2 O.1.1 0=Q at*;simp only[B6,Aa6];have f12:=f1.trans f2
 by_cases c2:Q.1=0
 rotate_left
 ·simp only[c2,Ad4]
  exact⟨p2,by trivial,h2,f12⟩
 simp only[c2,Ag3];have keepS:∀{w:AV} {cs:List AV} {n:Nat},Ac H 1 w=some (cs,n)→(∀j∈AM w,j≠os∧j∉AM p)→Ac H2 1 w=some (cs,n)∧∀j∈AM w,j≠os∧j∉AM p2:=λk1 k2=>
  ⟨Ae k1 λj hj=>f12.same j (Az k1 j hj) (k2 j hj).1 (k2 j hj).2,λj hj=>⟨(k2 j hj).1,λq=>(f12.ids j q).elim (k2 j hj).2 (λq=>by have:=Az k1 j hj;omega)⟩⟩
 refine⟨_,zdinZ (ino:=O.1.1) h2 w2 (keepS ha hai).1 (keepS ha hai).2 (λx hx=>⟨(keepS (hb x hx).1 (hb x hx).2.2.2).1,(hb x hx).2.1,(hb x hx).2.2.1,(keepS (hb x hx).1 (hb x hx).2.2.2).2⟩) hbn (by omega),?_⟩;have w3:=zddyZ (ino:=O.1.1) (l:=bl.flatMap λx=>BK x.2) (a:=0) (m:=0) w2;generalize pcs O.1.1 (bl.flatMap λx=>BK x.2) Q.2 0 0=Z at*;rintro r H3 ⟨p3,rfl,h3,f3⟩;have f123:=f12.trans f3;simp only[B6,Aa6]
 by_cases c3:Z.2=0
 rotate_left
 ·simp only[c3,Ad4]
  exact⟨p3,by trivial,h3,f123⟩
 simp only[c3,Ag3];have eA:D9 H3 1 1 (B4 [(I 0)] 1) [(0,1,I O.1.1)]=some (.sl H3.length 0 1 1 (.ex 1),H3++[some (.cells [I O.1.1])]):=rfl;have g4:=Grew.app H3 [some (AObj.cells [I O.1.1])];have hsl:Ac (H3++[some (AObj.cells [I O.1.1])]) 1 (.sl H3.length 0 1 1 (.ex 1))=some (([O.1.1]:List Int).flatMap UR,([O.1.1]:List Int).length):=by simp[Ac,UR]
 have lo:=h3.os_lt;have lp:=h3.p_lt
 obtain⟨r,H5,⟨rfl,p5,h5,f5⟩,hc⟩:=iZ (h3.grew g4) w3 (by omega) hsl (by
  intro j hj;simp[AM]at hj;subst hj;exact⟨by omega,λq=>by have:=lp _ q;omega⟩) (by simp)
 simp only[eA,A6];refine bC_of hc ?_;exact⟨p5,by trivial,h5,(f123.grew g4).trans f5⟩)
theorem zdlxZ {nm:List UInt8}{cap N:Nat}{t:List UInt8}{s:StS}{os:Nat}{p:AV}{H:AH}(h:Txr nm cap t s)(hst:StAt s os p H)(hw:SW N s)(hN:N<900000)(ht:t.length≤65536):
  ∃r H',(∃v,r=.tup [v,I 0]∧Ac H' 1 v=some (AY t,t.length)∧Grew H H')∧BCall prog 56 [.ptr os 0,I 1] H r H':=Zq (by
 unfold dE;obtain⟨r,H1,⟨rfl,g1⟩,hc⟩:=pY hst hw (by omega) 1;refine bC_of hc ?_;obtain⟨l,q1,q2,q3⟩:=h.h;rw[q1.content];have c1:¬(65536:Int)<(t.length:Int):=by omega
 simp only[Ad0,Ag2,Du,c1];refine QF (λm x0 x1 x6 x8 H'=>∃j:Nat,j+m=t.length∧x0=.ptr os 0∧x1=I 1∧x6=I t.length∧Ac H' 1 x8=some (AY (t.take j),j)∧AZ x8=true∧(∀i∈AM x8,H.length≤i)∧Grew H H') ?_ t.length ⟨0,by omega,rfl,rfl,rfl,rfl,rfl,by simp[AM],g1⟩;rintro m x0 x1 x6 x8 H2 R hR ⟨j,hj,rfl,rfl,rfl,hs,ho,hi,g2⟩;unfold PQ;have al:=By hs;simp only[al,Ac0]
 by_cases c:j<t.length
 ·have c':(j:Int)<(t.length:Int):=by omega
  have hr:=h.read (pos:=j) (n:=4096) (by omega) (by omega) (by omega);have hr':I8 s 1 j 4096=((t.drop j).take 4096,0):=hr;obtain⟨Rb,hRb,r,H3,⟨rfl,g3⟩,hc⟩:=pX (hst.grew g2) hw hN 1 (j:Int) 4096;rw[hr']at hRb hc;simp only[c',Ad1];refine bC_of hc ?_;have hlen:((t.drop j).take 4096).length=min 4096 (t.length - j):=by rw[Ah8,Ai5]
  obtain⟨r,H4,a1,a2,a3,a4,a5,a6⟩:=BX (sz:=1) (bytes:=1) (g3.slice hs) ho (A1 (hRb.bytes H3)) (by rw[hlen];omega);simp only[Ad0,Ag2,a1,A6];refine hR (m - min 4096 (t.length - j)) _ _ _ _ _ (by omega) ⟨j+min 4096 (t.length - j),by omega,rfl,rfl,rfl,?_,a2,?_,?_⟩
  ·rw[a3,hlen]
   congr 2
   rw[Av0,AY,AY,AY,Ak2]
   congr 2
   rw[List.take_eq_take_iff,Ai5];omega
  ·intro i q
   rcases a6 i q with q | q
   ·exact hi i q
   ·have:=g2.1;have:=g3.1;omega
  ·refine⟨by have:=g2.1;have:=g3.1;omega,λi q=>?_⟩
   rw[a5 i (by have:=g2.1;have:=g3.1;omega) (λz=>by have:=hi i z;omega),g3.2 i (by have:=g2.1;omega),g2.2 i q]
 ·have c':¬(j:Int)<(t.length:Int):=by omega
  have ej:j=t.length:=by omega
  subst ej;rw[Al2]at hs;simp only[c',Ab7];exact⟨x8,by trivial,hs,g2⟩)
def nA (s:StS)(ino:Int):List UInt8×Int:=
 if(Aq s ino).2≠0 then([],(Aq s ino).2)else if 65536<(Aq s ino).1.1 then([],5)else(CR (Aq s ino).1.2 0 (Aq s ino).1.1.toNat,0)
theorem aU (l:List Ext)(pos:Int)(j k:Nat):CR l pos (j+k)=CR l pos j++CR l (pos+j) k:=by
 unfold CR;rw[List.range_add,Ak2,List.map_map]
 congr 1
 apply Ar7;intro i _;simp only[Function.comp]
 congr 1
 omega
theorem iI {N:Nat}{s:StS}(hw:SW N s){ino:Int}(h0:(Aq s ino).2=0)(hl:(Aq s ino).1.1≤65536){j:Nat}(hj:j<(Aq s ino).1.1.toNat):
  I8 s ino j 4096=(CR (Aq s ino).1.2 j (min 4096 ((Aq s ino).1.1.toNat - j)),0):=by
 obtain⟨d,hd,hi,e,-⟩:=FE hw h0;have hm:=hw.now.1.mc d hd;unfold I8;rw[if_neg (λq=>q h0),if_neg (by omega),e];rw[e]at hl hj;simp only at hl hj⊢;unfold Kh;rw[if_pos (by unfold zdkbZ;refine⟨hm,?_⟩;omega)]
 congr 2
 omega
abbrev Au2:=@Int.zero_add
theorem zdiiZ {N:Nat}{s:StS}{os:Nat}{p:AV}{H:AH}(hst:StAt s os p H)(hw:SW N s)(hN:N<900000)(ino:Int):
  ∃r H',(∃v,r=.tup [v,I (nA s ino).2]∧Ac H' 1 v=some (AY (nA s ino).1,(nA s ino).1.length)∧(∀i∈AM v,H.length≤i)∧Grew H H')∧BCall prog 56 [.ptr os 0,I ino] H r H':=Zq (by
 unfold dE;obtain⟨r,H1,⟨rfl,g1⟩,hc⟩:=pY hst hw (by omega) ino;refine bC_of hc ?_;have nil1:∀H:AH,Ac H 1 Ad=some (AY [],([]:List UInt8).length):=λ_=>rfl
 unfold nA;simp only[Ad0,ne_eq]
 by_cases c0:(Aq s ino).2=0
 rotate_left
 ·simp only[c0,Aa1,Aa4]
  exact⟨_,by trivial,nil1 _,by simp[AM],g1⟩
 simp only[c0,Ad3,Dd,Du]
 by_cases c1:65536<(Aq s ino).1.1
 ·simp only[c1,Aa4]
  exact⟨_,by trivial,nil1 _,by simp[AM],g1⟩
 simp only[c1,Dd,if_false];have rn:=λj hj=>iI hw c0 (by omega) (j:=j) hj
 have h0:0≤(Aq s ino).1.1:=by
  obtain⟨d,hd,hi,e,-⟩:=FE hw c0
  have:=(RS.1 (hw.now.1.mc d hd)).1
  rw[e];exact this
 obtain⟨n,hn⟩:∃n:Nat,(Aq s ino).1.1=n:=⟨(Aq s ino).1.1.toNat,by omega⟩;generalize (Aq s ino).1.2=l at*;rw[hn]at rn c1⊢;simp only[As9]at rn⊢;refine QF (λm x0 x1 x6 x8 H'=>∃j:Nat,j+m=n∧x0=.ptr os 0∧x1=I ino∧x6=I n∧Ac H' 1 x8=some (AY (CR l 0 j),j)∧AZ x8=true∧(∀i∈AM x8,H.length≤i)∧Grew H H') ?_ n ⟨0,by omega,rfl,rfl,rfl,rfl,rfl,by simp[AM],g1⟩;rintro m x0 x1 x6 x8 H2 R hR ⟨j,hj,rfl,rfl,rfl,hs,ho,hi,g2⟩;unfold PQ;have al:=By hs;simp only[al,Ac0]
 by_cases c:j<n
 ·have c':(j:Int)<(n:Int):=by omega
  have hr:=rn j c;obtain⟨Rb,hRb,r,H3,⟨rfl,g3⟩,hc⟩:=pX (hst.grew g2) hw hN ino (j:Int) 4096;rw[hr]at hRb hc;simp only[c',Ad1];refine bC_of hc ?_;have hlen:=EZ l (j:Int) (min 4096 (n - j));obtain⟨r,H4,a1,a2,a3,a4,a5,a6⟩:=BX (sz:=1) (bytes:=1) (g3.slice hs) ho (A1 (hRb.bytes H3)) (by rw[hlen];omega);simp only[Ad0,Ag2,a1,A6];refine hR (m - min 4096 (n - j)) _ _ _ _ _ (by omega) ⟨j+min 4096 (n - j),by omega,rfl,rfl,rfl,?_,a2,?_,?_⟩
  ·rw[a3,hlen,aU,Au2,AY,AY,AY,Ak2]
  ·intro i q
   rcases a6 i q with q | q
   ·exact hi i q
   ·have:=g2.1;have:=g3.1;omega
  ·refine⟨by have:=g2.1;have:=g3.1;omega,λi q=>?_⟩
   rw[a5 i (by have:=g2.1;have:=g3.1;omega) (λz=>by have:=hi i z;omega),g3.2 i (by have:=g2.1;omega),g2.2 i q]
 ·have c':¬(j:Int)<(n:Int):=by omega
  have ej:j=n:=by omega
  subst ej;simp only[c',Ab7];exact⟨x8,by trivial,by rw[EZ];exact hs,hi,g2⟩)
theorem VRs.setK {G' G'':Cfg}(ht:Tr G' G''){a:AV}:∀{cs:List AV} {vs:List Value} (k:Nat),VRs G' cs vs→(∀b v,cs[k]?=some b→VR G' b v→VR G'' a v)→VRs G'' (cs.set k a) vs
 | [],vs,k,h,hk=>by simpa only[List.set_nil]using h.tr ht
 | b::cs,vs,0,h,hk=>by
  simp only[VRs,Aq8]at h⊢;obtain⟨v,r,e,h1,h2⟩:=h;exact⟨v,r,e,hk b v rfl h1,h2.tr ht⟩
 | b::cs,vs,k+1,h,hk=>by
  simp only[VRs,Aq9]at h⊢;obtain⟨v,r,e,h1,h2⟩:=h;exact⟨v,r,e,h1.tr ht,VRs.setK ht k h2 λb v hb=>hk b v (by simpa using hb)⟩
variable {P : Program}
theorem BCall.fzCell {f:FuncId}{args:List AV}{H X:AH}{r:AV}(h:BCall P f args H r X){o q k off len sz:Nat}{cap:Room}{cs cs0:List AV}(hoq:o≠q)(ho:X[o]?=some (some (.cells cs)))(hq:X[q]?=some (some (.cells cs0)))
  (hk:cs0[k]?=some (.sl o off len sz cap)) (hn:A5 ((cs.drop off).take (len*sz))=true):
  BCall P f args H r ((X.set o none).set q (some (.cells (cs0.set k (.imm ((cs.drop off).take (len*sz)) len sz))))):=by
 intro G vs hH hv;refine(h G vs hH hv).mono ?_;rintro e w' ⟨r',X',G',v,rfl,rfl,hE,hx,hX,rfl,rfl⟩
 let L2:Nat→Prop:=λb=>G'.L b∧b≠(G'.μ o).1
 have hlen:(X'.set o none).length=X'.length:=by simp
 have gets:∀(i:Nat) (x:AObj),(X'.set o none)[i]?=some (some x)→i≠o∧X'[i]?=some (some x):=by
  intro i x hi
  by_cases c:o=i
  ·subst c
   rw[JY (BE.1 ho).1]at hi;cases hi
  ·rw[Cc c]at hi
   exact⟨λe=>c e.symm,hi⟩
 have hF:HR G' (X'.set o none):=hX.fewer hlen λi x hi=>(gets i x hi).2
 have hlive:∀(i:Nat) (x:AObj),(X'.set o none)[i]?=some (some x)→L2 (G'.μ i).1:=λi x hi=>
  ⟨hX.live i x (gets i x hi).2,λe=>(gets i x hi).1 (hX.inj i o x _ (gets i x hi).2 ho e)⟩
 have hF2:HR (G'.less L2) (X'.set o none):=hF.less L2 (λb hb=>hb.1) hlive;have ht:Tr G' (G'.less L2):=⟨Ah9 _,λ_ _=>rfl,λad vs hh=>hh.imp id λh=>⟨λhh=>h.1 (hh.imp (λz=>z.1) id),h.2⟩⟩;have hE2:Evo G (G'.less L2):=⟨hE.os,hE.tape,hE.output,hE.size,λk hk hL=>⟨(hE.keep k hk hL).1,λhh=>(hE.keep k hk hL).2 hh.1⟩,hE.n,hE.μ,hE.K⟩
 -- the slice,told frozen
 let X0:AH:=(List.replicate X'.length none).set o (some (.cells cs))
 have ol:=(BE.1 ho).1
 have get0:∀(i:Nat) (x:AObj),X0[i]?=some (some x)→i=o∧x=.cells cs:=by
  intro i x hi
  by_cases c:o=i
  ·subst c
   rw[JY (by simpa using ol)]at hi;injection hi with hi;injection hi with hi;exact⟨rfl,hi.symm⟩
  ·rw[Cc c,Aq5]at hi
   split at hi<;>cases hi
 have hX0:HR G' X0:=hX.fewer (by simp[X0]) λi x hi=>by
  obtain⟨rfl,rfl⟩:=get0 i x hi;exact ho
 have self0:X0[o]?=some (some (.cells cs)):=JY (by simpa using ol);obtain⟨n0,hf⟩:=Fb X0 _ hn
 have hfz:OP X0 (n0+1) (.sl o off len sz cap)=some (.imm ((cs.drop off).take (len*sz)) len sz):=by
  simp only[OP,self0,hf n0 (Ah9 _),Ar9]
 have hcell:∀b v,cs0[k]?=some b→VR G' b v→VR (G'.less L2) (.imm ((cs.drop off).take (len*sz)) len sz) v:=by
  intro b v hb hv;rw[hk]at hb;injection hb with hb;subst hb;refine cM (G':=G') (G'':=G'.less L2) rfl (λb hn hh=>hn (hh.imp (λz=>z.1) id)) hX0 ?_ (n0+1) _ v _ hv hfz;intro i x hi hh;obtain⟨rfl,rfl⟩:=get0 i x hi;rcases hh with hh | hh
  ·exact hh.2 rfl
  ·exact hX.dis _ (hX.live i _ ho) hh
 have hq':(X'.set o none)[q]?=some (some (.cells cs0)):=by rw[Cc hoq];exact hq
 have ql:=(BE.1 hq').1;refine⟨r',_,G'.less L2,v,rfl,rfl,hE2,hx.tr ht,?_,rfl,rfl⟩
 have back:∀(i:Nat) (x:AObj),((X'.set o none).set q (some (.cells (cs0.set k (.imm ((cs.drop off).take (len*sz)) len sz)))))[i]?=some (some x)→∃y,(X'.set o none)[i]?=some (some y):=by
  intro i x hi
  by_cases c:q=i
  ·subst c;exact⟨_,hq'⟩
  ·rw[Cc c]at hi;exact⟨_,hi⟩
 refine⟨by rw[Aj6];exact hF2.n,?_,?_,?_,hF2.lt,hF2.dis⟩
 ·intro i x hi
  by_cases c:q=i
  ·subst c
   rw[JY ql]at hi;injection hi with hi;injection hi with hi;subst hi;obtain⟨c,e,us,h1,h2,h3,h4,h5⟩:=hX.obj q _ hq;exact⟨c,e,us,h1,h2,by rw[Aj6];exact h3,VRs.setK ht k h4 hcell,h5⟩
  ·rw[Cc c]at hi
   exact hF2.obj i x hi
 ·intro i i' x x' hi hi' he
  obtain⟨y,hy⟩:=back i x hi;obtain⟨y',hy'⟩:=back i' x' hi';exact hF2.inj i i' y y' hy hy' he
 ·intro i x hi
  obtain⟨y,hy⟩:=back i x hi;exact hF2.live i y hy
end Go.Proofs.YtadghlcfbajamaaGreat.Av
end
