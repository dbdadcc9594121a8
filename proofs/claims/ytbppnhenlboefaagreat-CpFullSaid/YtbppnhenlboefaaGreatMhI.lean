/- Texts of this proof, one behind the other, packed into one file by a program of this session. No condition. -/
import Derived.Test.YtbppnhenlboefaaGreatMhH
import Derived.KernelRfl
set_option linter.unusedVariables false
set_option linter.unusedSimpArgs false
set_option maxRecDepth 100000
namespace Go.Proofs.YtbppnhenlboefaaGreat.Av
open Go Go.RowKit Go.Proofs.Tryz
section
def GrN (N:Nat)(H H':AH):Prop:=H.length≤H'.length∧∀i,i<N→H'[i]?=H[i]?
structure OwN (N sz:Nat)(cs:List AV)(n:Nat)(r:AV)(H:AH):Prop where
 s:Aa H sz r=some (cs,n)
 o:AP r=true
 i:∀i∈AU r,N≤i
 c:Cm r n
theorem yF {N sz bytes:Nat}{H:AH}{s x:AV}{cs ds:List AV}{n m:Nat}(hs:OwN N sz cs n s H)(hx:Bf H sz x=some (ds,m))(hN:N≤H.length)(hb:(n+m)*bytes≤140737488355328):∃r H',Mm sz bytes H s x=some (r,H')∧OwN N sz (cs++ds) (n+m) r H'∧GrN N H H':=by
 obtain⟨r,H2,a1,a2,a3,a4,a5,a6⟩:=CC (bytes:=bytes) hs.s hs.o hx hb;have a7:=NC hs.s hs.o hx hs.c a1;exact⟨r,H2,a1,⟨a3,a2,λi hi=>(a6 i hi).elim (hs.i i) (λq=>by omega),a7⟩,a4,λi hi=>a5 i (by omega) (λq=>by have:=hs.i i q;omega)⟩
theorem OwN.grew {N sz n:Nat}{cs:List AV}{r:AV}{H H':AH}(h:OwN N sz cs n r H)(g:Grew H H'):OwN N sz cs n r H':=⟨g.slice h.s,h.o,h.i,h.c⟩
section
variable {κ α : Type} {c : κ→κ→Int} {key : α→κ}
theorem Zv (hc:KO c):∀{l m:List α},Cb c key l→Cb c key m→(∀x,x∈l↔x∈m)→l=m
 | [],[],_,_,_=>rfl
 | [],b::m,_,_,h=>by have:=(h b).2 (by simp);simp at this
 | a::l,[],_,_,h=>by have:=(h a).1 (by simp);simp at this
 | a::l,b::m,h1,h2,h=>by
  have k1:=Ae4.1 h1;have k2:=Ae4.1 h2
  have e:a=b:=by
   rcases Ad5.1 ((h a).1 (by simp))with e | q1
   ·exact e
   ·rcases Ad5.1 ((h b).2 (by simp))with e | q2
    ·exact e.symm
    ·exact absurd (hc.trans _ _ _ (k1.1 b q2) (k2.1 a q1)) (hc.irr _)
  subst e
  congr 1
  refine Zv hc k1.2 k2.2 λx=>?_
  have irr:∀y,y∈l∨y∈m→y≠a:=by
   rintro y (q | q) rfl
   ·exact hc.irr _ (k1.1 y q)
   ·exact hc.irr _ (k2.1 y q)
  constructor
  ·intro q
   rcases Ad5.1 ((h x).1 (by simp[q]))with e | q2
   ·exact absurd e (irr x (.inl q))
   ·exact q2
  ·intro q
   rcases Ad5.1 ((h x).2 (by simp[q]))with e | q2
   ·exact absurd e (irr x (.inr q))
   ·exact q2
theorem Ni (hc:KO c){l:List α}(h:Cb c key l){k k2:κ}(hk:AO key l k)(hne:k2≠k):AO key (CY c key l k) k2↔AO key l k2:=by
 constructor
 ·rintro⟨x,hx,e⟩
  exact⟨x,delK_sub.subset hx,e⟩
 ·rintro⟨x,hx,e⟩
  exact⟨x,(Fu hc h hk).2 ⟨hx,by rw[e];exact hne⟩,e⟩
theorem fH (hc:KO c){l:List α}(h:Cb c key l){k k2:κ}(hk:AO key l k)(hk2:AO key l k2)(hne:k≠k2):CY c key (CY c key l k) k2=CY c key (CY c key l k2) k:=by
 refine Zv hc (E1 (E1 h)) (E1 (E1 h)) λx=>?_
 rw[Fu hc (E1 h) ((Ni hc h hk (Af4 hne)).2 hk2),Fu hc h hk,Fu hc (E1 h) ((Ni hc h hk2 hne).2 hk),Fu hc h hk2,and_right_comm]
end
theorem W1 {ns:List Nm}(hs:Cb Bg Nm.name ns){s t:List UInt8}(hk:AO Nm.name ns s)(ht:AO Nm.name ns t)(hne:t≠s):Fh (CY Bg Nm.name ns s) t=Fh ns t:=by
 obtain⟨x,h1,h2,rfl⟩:=bZ ht;unfold Fh;rw[h1,Xc koN (E1 hs) ((Fu koN hs hk).2 ⟨h2,hne⟩)]
end
section
theorem V2:∀{bs:List UInt8} {l:List Ext} {p:Int},(Bo l p bs).length≤l.length+bs.length
 | [],l,p=>Ac2 _
 | b::r,l,p=>by
  show(Bo (Dt l p [b]) (p+1) r).length≤_
  have ih:=V2 (bs:=r) (l:=Dt l p [b]) (p:=p+1)
  have h:(Dt l p [b]).length≤l.length+1:=by
   unfold Dt
   have:=QK l (p/8)
   simp[Vk];omega
  simp only[Ad7];omega
theorem oF {o:OpM}{d:Nd}:(cL (Of o d)).length≤d.l.length+o.b.length+4098:=by
 unfold Of
 split
 ·unfold DE
  split
  ·split
   ·simp only[cL,Ak1];omega
   ·simp only[cL,Ak1]
    have:=V2 (bs:=o.b) (l:=d.l) (p:=o.pos)
    omega
  ·simp[cL]
 ·split
  ·unfold Cl
   split
   ·simp only[cL,Ak1,Dy,Pe,Ae9]
    exact Ad8 (Ah4 _ _) (by omega)
   ·simp[cL]
  ·split
   ·unfold Gt
    split
    ·simp only[cL,Ak1,Pi]
     have:=(aI (k:=allocN o.pos o.size) (l:=d.l) (no:=o.pos/8)).1
     have hN:allocN o.pos o.size≤4098:=by unfold allocN;omega
     omega
    ·simp[cL]
   ·split
    ·unfold Ih
     split
     ·simp only[cL,Ak1,Kp,Pe,Ae9]
      exact Ad8 (Ah4 _ _) (by omega)
     ·simp[cL]
    ·simp[cL]
def uV (ns:List Nm)(ds:List Nd):Prop:=ns.length≤30∧ds.length≤30∧(∀d∈ds,d.l.length≤60)∧JD ds≤300
instance (ns:List Nm) (ds:List Nd):Decidable (uV ns ds):=by unfold uV;infer_instance
theorem OwI.lend {L:Nat}{ns:List Nm}{dv:List NdV}{a b:AV}{H:AH}(h:OwI L ns dv a b H):∃R,ImV ns (dv.map NdV.nd) R∧FZ H (.agg [a,b]) R:=by
 obtain⟨Ra,h1,f1⟩:=FZ.sv h.sa (De λx _=>Nu x);obtain⟨Rb,h2,f2⟩:=FZ.sv h.sb (De λx _=>Kc x);exact⟨_,⟨Ra,Rb,dv,rfl,h1,h2,rfl⟩,FZ.agg (FZs.cons f1 (FZs.cons f2 FZs.nil))⟩
theorem qV {ns:List Nm}{ds:List Nd}{v:AV}(hv:ImV ns ds v)(hb:Sm ns ds):∃R,ImV ns ds R∧BPure prog 43 [v] R:=by
 have hids:=hv.noIds;obtain⟨a,b,dv,rfl,sa,sb,rfl⟩:=hv;have b2:=hb.2.1;rw[Ae9]at b2;obtain⟨r,X,⟨a',b',ew,rfl,hew,-,ow⟩,hc⟩:=iI (H:=[]) sa sb hb.1 b2 (λd hd=>hb.2.2.2 d.nd (Af7 hd));obtain⟨R,hR,fR⟩:=ow.lend;rw[hew]at hR;exact BPure.FZ hids ⟨_,X,⟨R,fR,hR⟩,hc⟩
structure OpV where
 o:OpM
 bv:AV
 h:SV Je 1 o.b bv
def Mp (x:OpV):List AV:=DL x.o x.bv
theorem U2 (x:OpV):(Mp x).length=8:=rfl
theorem wY {H:AH}{w:AV}{l:List OpV}{k:Nat}{x:OpV}(hw:Aa H 8 w=some (l.flatMap Mp,l.length))(hx:l[k]?=some x):∃p,Bj 8 w (I k)=some p∧Au true 8 H p=some (.agg (DL x.o x.bv)):=by
 have hk:=(BD.1 hx).1;obtain⟨p,c,h1,h2,h3,h4⟩:=Kx hw (i:=(k:Int)) rfl hk
 have hc:c.take 8=Mp x:=by
  rw[h3,Dd U2 hx,Ad4 (by rw[U2];omega),Ac1 (by rw[U2];omega)]
 exact⟨p,h1,by rw[Rw h2 (by omega) h4,FV (by omega),Ad9,hc];rfl⟩
section
variable {α κ ι : Type} {c : κ→κ→Int} {key : α→κ}
theorem UK {f:α→ι}{l:List α}{x:α}{i:ι}:AO f (Jr c key l x) i↔f x=i∨AO f l i:=by
 unfold AO
 constructor
 ·rintro⟨y,hy,e⟩
  rcases G6.1 hy with rfl | hy
  ·exact .inl e
  ·exact .inr ⟨y,hy,e⟩
 ·rintro(e | ⟨y,hy,e⟩)
  ·exact⟨x,G6.2 (.inl rfl),e⟩
  ·exact⟨y,G6.2 (.inr hy),e⟩
theorem RX (hc:KO c){f:α→ι}{l:List α}(h:Cb c key l){k:κ}(hk:AO key l k){i:ι}:AO f (CY c key l k) i↔∃y∈l,key y≠k∧f y=i:=by
 unfold AO
 constructor
 ·rintro⟨y,hy,e⟩
  obtain⟨h1,h2⟩:=(Fu hc h hk).1 hy;exact⟨y,h1,h2,e⟩
 ·rintro⟨y,hy,h2,e⟩
  exact⟨y,(Fu hc h hk).2 ⟨hy,h2⟩,e⟩
theorem NV {β:Type}{f:α→β}:∀{l:List α},l.Nodup→((l.map f).Nodup↔∀x∈l,∀y∈l,f x=f y→x=y)
 | [],_=>by simp
 | a::l,h=>by
  obtain⟨h1,h2⟩:=Ai9.1 h;rw[Aj7,Ai9,NV h2]
  constructor
  ·rintro⟨h3,h4⟩ x hx y hy e
   rcases Ad5.1 hx with hx1 | hx1<;>rcases Ad5.1 hy with hy1 | hy1
   ·rw[hx1,hy1]
   ·rw[hx1]at e;exact absurd (Ae6.2 ⟨y,hy1,e.symm⟩) h3
   ·rw[hy1]at e;exact absurd (Ae6.2 ⟨x,hx1,e⟩) h3
   ·exact h4 x hx1 y hy1 e
  ·intro h3
   refine⟨λhm=>?_,λx hx y hy=>h3 x (by simp[hx]) y (by simp[hy])⟩;obtain⟨y,hy,e⟩:=Ae6.1 hm
   have:=h3 y (by simp[hy]) a (by simp) e
   exact h1 (this▸hy)
theorem P6 (hc:KO c){l:List α}(h:Cb c key l):l.Nodup:=by
 refine List.Pairwise.imp ?_ h;rintro a b hab rfl;exact hc.irr _ hab
end
structure MayW (ns:List Nm)(ds:List Nd):Prop where
 len:ns.length≤16
 nm:∀x∈ns,G5 x.name∧1≤x.ino∧x.ino≤4611686018427387904
 srt:Cb Bg Nm.name ns
 inj:∀x∈ns,∀y∈ns,x.ino=y.ino→x=y
 sd:Cb Cc Nd.ino ds
 mc:∀d∈ds,Cs d.size d.l
 ino:∀i,AO Nd.ino ds i↔AO Nm.ino ns i
theorem ZZ {ds:List Nd}(h:Cb Cc Nd.ino ds):(ds.map Nd.ino).Nodup:=by
 rw[List.Nodup,Aj6];exact h.imp λh=>by rw[Xh]at h;omega
theorem G4 {ns:List Nm}{ds:List Nd}:Km ns ds↔MayW ns ds:=by
 constructor
 ·intro h
  have h2:=YU.1 h;obtain⟨h21,h22,⟨h23,h24,h25⟩,h26,h27,h28⟩:=h2;refine⟨h21,h23,h24,(NV (P6 koN h24)).1 h25,h26,h28,λi=>⟨?_,?_⟩⟩
  ·rintro⟨d,hd,rfl⟩
   exact(h.2.2.2 d hd).1
  ·rintro⟨x,hx,rfl⟩
   exact h27 x hx
 ·intro h
  refine⟨⟨h.len,h.nm,h.srt,(NV (P6 koN h.srt)).2 h.inj⟩,?_,h.sd,λd hd=>⟨(h.ino d.ino).1 ⟨d,hd,rfl⟩,h.mc d hd⟩⟩
  have hp:=(List.perm_ext_iff_of_nodup (ZZ h.sd) ((NV (P6 koN h.srt)).2 h.inj)).2 λi=>by
   have:=h.ino i
   unfold AO at this
   simpa[Ae6]using this
  have:=hp.length_eq
  simpa using this
theorem W2 {ns:List Nm}(hs:Cb Bg Nm.name ns){x:Nm}(hx:x∈ns):Fh ns x.name=x.ino:=by
 unfold Fh;rw[Xc koN hs hx]
theorem lF {ns:List Nm}{s:List UInt8}(h:¬AO Nm.name ns s):Fh ns s=0:=by
 unfold Fh;rw[Ym h]
theorem MayW.rem {ns:List Nm}{ds:List Nd}{s:List UInt8}(h:MayW ns ds)(hk:AO Nm.name ns s):MayW (CY Bg Nm.name ns s) (CY Cc Nd.ino ds (Fh ns s)):=by
 obtain⟨x,hx,rfl⟩:=hk;have hk:AO Nm.name ns x.name:=⟨x,hx,rfl⟩;rw[W2 h.srt hx];have hd:AO Nd.ino ds x.ino:=(h.ino _).2 ⟨x,hx,rfl⟩;have sub:∀y,y∈CY Bg Nm.name ns x.name→y∈ns:=λy hy=>delK_sub.subset hy
 have hl:=MO (UL koN h.srt hk)
 have:=h.len
 refine⟨by omega,λy hy=>h.nm y (sub y hy),E1 h.srt,λy hy z hz=>h.inj y (sub y hy) z (sub z hz),E1 h.sd,λd hd=>h.mc d (delK_sub.subset hd),λi=>?_⟩;rw[RX koI h.sd hd,RX koN h.srt hk]
 constructor
 ·rintro⟨d,hd1,hd2,rfl⟩
  obtain⟨y,hy,e⟩:=(h.ino d.ino).1 ⟨d,hd1,rfl⟩;exact⟨y,hy,λe2=>hd2 (by rw[← e,Sy koN h.srt hy hx e2]),e⟩
 ·rintro⟨y,hy,hne,rfl⟩
  obtain⟨d,hd1,e⟩:=(h.ino y.ino).2 ⟨y,hy,rfl⟩;exact⟨d,hd1,λe2=>hne (by rw[h.inj y hy x hx (by rw[← e,e2])]),e⟩
theorem MayW.ren {ns:List Nm}{ds:List Nd}{s t:List UInt8}(h:MayW ns ds)(hk:AO Nm.name ns s)(ht:¬AO Nm.name ns t)(hm:G5 t):MayW (Jr Bg Nm.name (CY Bg Nm.name ns s) ⟨t,Fh ns s⟩) ds:=by
 obtain⟨x,hx,rfl⟩:=hk;have hk:AO Nm.name ns x.name:=⟨x,hx,rfl⟩;rw[W2 h.srt hx];have mem:∀y,y∈Jr Bg Nm.name (CY Bg Nm.name ns x.name) ⟨t,x.ino⟩↔y=⟨t,x.ino⟩∨(y∈ns∧y.name≠x.name):=λy=>by rw[G6,Fu koN h.srt hk]
 have hl:=MO (UL koN h.srt hk)
 have:=h.len
 refine⟨by rw[UU];omega,?_,Vs koN (E1 h.srt) (λhh=>ht ?_),?_,h.sd,h.mc,λi=>?_⟩
 ·intro y hy
  rcases(mem y).1 hy with rfl | ⟨hy,-⟩
  ·exact⟨hm,(h.nm x hx).2⟩
  ·exact h.nm y hy
 ·obtain⟨y,hy,e⟩:=hh
  exact⟨y,delK_sub.subset hy,e⟩
 ·intro y hy z hz e
  rcases(mem y).1 hy with rfl | ⟨hy,hny⟩<;>rcases(mem z).1 hz with rfl | ⟨hz,hnz⟩
  ·rfl
  ·exact absurd (by rw[h.inj x hx z hz e]) hnz
  ·exact absurd (by rw[h.inj y hy x hx e]) hny
  ·exact h.inj y hy z hz e
 ·rw[h.ino i,UK,RX koN h.srt hk]
  constructor
  ·rintro⟨y,hy,rfl⟩
   by_cases c:y.name=x.name
   ·exact .inl (by rw[Sy koN h.srt hy hx c])
   ·exact .inr ⟨y,hy,c,rfl⟩
  ·rintro(rfl | ⟨y,hy,-,rfl⟩)
   ·exact⟨x,hx,rfl⟩
   ·exact⟨y,hy,rfl⟩
theorem lE:Cs 0 []:=by decide
theorem MayW.cre {ns:List Nm}{ds:List Nd}{o:OpM}(h:MayW ns ds)(hc:fC ns ds o):MayW (Jr Bg Nm.name ns ⟨o.name,o.ino⟩) (Jr Cc Nd.ino ds ⟨o.ino,0,[]⟩):=by
 obtain⟨h1,h2,h3,h4,h5,h6⟩:=hc;have hn:¬AO Nm.ino ns o.ino:=λhh=>h2 ((h.ino _).2 hh)
 refine⟨by rw[UU];omega,?_,Vs koN h.srt h1,?_,Vs koI h.sd h2,?_,λi=>by rw[UK,UK,h.ino]⟩
 ·intro y hy
  rcases G6.1 hy with rfl | hy
  ·exact⟨h3,h4,h5⟩
  ·exact h.nm y hy
 ·intro y hy z hz e
  rcases G6.1 hy with rfl | hy<;>rcases G6.1 hz with rfl | hz
  ·rfl
  ·exact absurd ⟨z,hz,e.symm⟩ hn
  ·exact absurd ⟨y,hy,e⟩ hn
  ·exact h.inj y hy z hz e
 ·intro d hd
  rcases G6.1 hd with rfl | hd
  ·exact lE
  ·exact h.mc d hd
theorem jP {o:OpM}{d:Nd}{c:Gr}(hk:o.kind=2∨o.kind=3∨o.kind=4∨o.kind=5)(h:Of o d=some c):Cs c.1 c.2:=by
 unfold Of at h;split at h
 ·exact NQ h
 ·split at h
  ·exact gF h
  ·split at h
   ·exact gD h
   ·split at h
    ·exact gE h
    ·omega
theorem eV {ds:List Nd}{o:OpM}(hs:Cb Cc Nd.ino ds):(Qd ds o).map Nd.ino=ds.map Nd.ino:=by
 unfold Qd
 split
 ·rename_i d hd
  split
  ·rename_i c hc
   have hk:AO Nd.ino ds o.ino:=⟨d,Am6 hd,by simpa using List.find?_some hd⟩;obtain⟨y,h1,h2,h3⟩:=KY koI hs hk;have e:y=d:=by rw[hd]at h2;injection h2 with h2;exact h2.symm
   rw[Al9,← e];apply Ae5;intro j;rw[Ag6]
   split
   ·rename_i hj
    subst hj
    split
    ·rw[Ae7,h1];rfl
    ·rename_i hl
     rw[Ae7,h1]
     have:=(BD.1 h1).1
     simp at hl;omega
   ·rfl
  ·rfl
 ·rfl
theorem mR {ds es:List Nd}(e:ds.map Nd.ino=es.map Nd.ino)(h:Cb Cc Nd.ino es):Cb Cc Nd.ino ds:=by
 unfold Cb at h⊢;have h1:(es.map Nd.ino).Pairwise λa b=>Cc a b<0:=Aj6.2 h
 rw[← e]at h1;exact Aj6.1 h1
theorem kL {ds es:List Nd}(e:ds.map Nd.ino=es.map Nd.ino)(i:Int):AO Nd.ino ds i↔AO Nd.ino es i:=by
 have a:∀l:List Nd,AO Nd.ino l i↔i∈l.map Nd.ino:=λl=>by unfold AO;simp[Ae6]
 rw[a,a,e]
theorem YW {ds:List Nd}{o:OpM}(hs:Cb Cc Nd.ino ds){d:Nd}(h:d∈Qd ds o):d∈ds∨(d.ino=o.ino∧∃e∈ds,e.ino=o.ino∧Of o e=some (d.size,d.l)):=by
 unfold Qd at h;split at h
 ·rename_i e he
  split at h
  ·rename_i c hc
   have e1:=Am6 he;have e2:e.ino=o.ino:=by simpa using List.find?_some he
   rcases List.mem_or_eq_of_mem_set h with h | h
   ·exact .inl h
   ·exact .inr ⟨by rw[h];exact e2,e,e1,e2,by rw[h];exact hc⟩
  ·exact .inl h
 ·exact .inl h
theorem MayW.chg {ns:List Nm}{ds:List Nd}{o:OpM}(h:MayW ns ds)(hk:o.kind=2∨o.kind=3∨o.kind=4∨o.kind=5):MayW ns (Qd ds o):=by
 have hi:=eV (o:=o) h.sd;refine⟨h.len,h.nm,h.srt,h.inj,mR hi h.sd,λd hd=>?_,λi=>by rw[kL hi,h.ino]⟩;rcases YW h.sd hd with hd | ⟨-,e,-,-,he⟩
 ·exact h.mc d hd
 ·exact jP hk he
theorem tX {ns:List Nm}{ds:List Nd}{s t:List UInt8}(h:MayW ns ds)(hk:AO Nm.name ns s)(hne:s≠t):
  (Jr Bg Nm.name (Fi (CY Bg Nm.name ns s) t) ⟨t,Fh ns s⟩,Vm (CY Bg Nm.name ns s) ds t)=(Jr Bg Nm.name (CY Bg Nm.name (Fi ns t) s) ⟨t,Fh (Fi ns t) s⟩,Vm ns ds t):=by
 unfold Fi Vm
 by_cases c:AO Nm.name ns t
 ·have c1:AO Nm.name (CY Bg Nm.name ns s) t:=(Ni koN h.srt hk (Af4 hne)).2 c
  rw[if_pos c1,if_pos c,if_pos c1,if_pos c,fH koN h.srt hk c hne,W1 h.srt hk c (Af4 hne),W1 h.srt c hk hne]
 ·have c1:¬AO Nm.name (CY Bg Nm.name ns s) t:=λhh=>c ((Ni koN h.srt hk (Af4 hne)).1 hh)
  rw[if_neg c1,if_neg c,if_neg c1,if_neg c]
theorem MayW.remN {ns:List Nm}{ds:List Nd}(h:MayW ns ds)(t:List UInt8):MayW (Fi ns t) (Vm ns ds t)∧¬AO Nm.name (Fi ns t) t:=by
 unfold Fi Vm
 by_cases c:AO Nm.name ns t
 ·rw[if_pos c,if_pos c]
  refine⟨h.rem c,?_⟩;rintro⟨y,hy,e⟩;exact((Fu koN h.srt c).1 hy).2 e
 ·rw[if_neg c,if_neg c];exact⟨h,c⟩
theorem kM {ns:List Nm}(hs:Cb Bg Nm.name ns){s t:List UInt8}(hne:s≠t):AO Nm.name (Fi ns t) s↔AO Nm.name ns s:=by
 unfold Fi
 split
 ·rename_i c;exact Ni koN hs c hne
 ·rfl
theorem jF {ns:List Nm}{ds:List Nd}(h:MayW ns ds)(o:OpM):MayW (B8 ns ds o).1 (B8 ns ds o).2:=by
 unfold B8;rw[if_pos (G4.2 h)]
 split
 ·split
  ·rename_i hc;exact h.cre hc
  ·exact h
 ·split
  ·rename_i hk;exact h.chg hk
  ·split
   ·split
    ·rename_i hr
     obtain⟨h1,h2,h3⟩:=hr;rw[tX h h1 h3];obtain⟨g1,g2⟩:=h.remN o.to;exact g1.ren ((kM h.srt h3).2 h1) g2 h2
    ·exact h
   ·split
    ·exact(h.remN o.name).1
    ·exact h
theorem oK {ns:List Nm}{ds:List Nd}(h:MayW ns ds)(s:List UInt8):UG ns ds s=Fh ns s∧(T9 ns ds s↔AO Nm.name ns s):=by
 have hm:=G4.2 h;have hi:T9 ns ds s↔AO Nm.name ns s:=⟨λhh=>hh.2,λhh=>⟨hm,hh⟩⟩;refine⟨?_,hi⟩;unfold UG
 by_cases c:T9 ns ds s
 ·rw[if_pos c]
 ·rw[if_neg c,lF (λhh=>c (hi.2 hh))]
theorem Xr {ns:List Nm}{ds:List Nd}(h:MayW ns ds){d:Nd}(hd:d∈ds):Fo ns ds d.ino=d∧Ol ns ds d.ino:=by
 have hg:Ol ns ds d.ino:=⟨G4.2 h,d,hd,rfl⟩;refine⟨?_,hg⟩;unfold Fo;rw[if_pos hg,Xc koI h.sd hd];rfl
theorem pX {ns:List Nm}{ds:List Nd}(h:MayW ns ds):Zz ns ds=JD ds:=by unfold Zz;rw[if_pos (G4.2 h)]
end
section
def old (N:Nat)(X:AH):AH:=List.replicate N none++X.drop N
theorem cZ {N:Nat}{X:AH}{o:Nat}{x:AObj}(h:(old N X)[o]?=some (some x)):N≤o∧X[o]?=some (some x):=by
 unfold old at h;rcases Ac5 o N with hlt | hge
 ·rw[Ab9 (by simpa using hlt),An1,if_pos hlt]at h
  cases h
 ·rw[Ac4 (by simpa using hge),List.length_replicate,Ad1]at h
  rw[show N+(o - N)=o by omega]at h;exact⟨hge,h⟩
def Cfg.less (G:Cfg)(L:Nat→Prop):Cfg:={G with L:=L}
theorem HR.less {G:Cfg}{H:AH}(hr:HR G H)(L:Nat→Prop)(hL:∀b,L b→G.L b)(hl:∀(o:Nat) (x:AObj),H[o]?=some (some x)→L (G.μ o).1):HR (G.less L) H:=by
 have ht:Tr G (G.less L):=⟨Ac2 _,λ_ _=>rfl,λad vs hh=>hh.imp id λh=>⟨λhh=>h.1 (hh.imp (hL _) id),h.2⟩⟩;exact⟨hr.n,λo x ho=>OR.tr ht (hr.lt_n ho) rfl (hr.obj o x ho),hr.inj,hl,λb hb=>hr.lt b (hb.imp (hL _) id),λb hb=>hr.dis b (hL b hb)⟩
theorem HR.fewer {G:Cfg}{H H2:AH}(hr:HR G H)(hlen:H2.length=H.length)(h:∀(o:Nat) (x:AObj),H2[o]?=some (some x)→H[o]?=some (some x)):HR G H2:=
 ⟨by rw[hlen];exact hr.n,λo x ho=>hr.obj o x (h o x ho),λo o' x x' ho ho'=>hr.inj o o' x x' (h o x ho) (h o' x' ho'),λo x ho=>hr.live o x (h o x ho),hr.lt,hr.dis⟩
section
variable {P : Program}
theorem ACalls.fzNew {f:FuncId}{args:List AV}{H:AH}{R:AV→AH→Prop}{R':AV→Prop}(h:ACalls P f args H R)
  (hR:∀r H1,R r H1→H.length≤H1.length∧(∀o,o<H.length→H1[o]?=H[o]?)∧∃n r',Kw (old H.length H1) n r=some r'∧R' r'):ACalls P f args H λr' H'=>R' r'∧H'=H:=by
 intro G vs hH hv;refine(h G vs hH hv).mono ?_;rintro e w' ⟨r,H1,G',v,rfl,rfl,hE,hx,hX,hq⟩;obtain⟨hlen,hpre,n,r',hf,hr'⟩:=hR r H1 hq
 have e1:H1=H++H1.drop H.length:=by
  apply Ae5;intro o;rcases Ac5 o H.length with hlt | hge
  ·rw[Ab9 hlt,hpre o hlt]
  ·rw[Ac4 hge,Ad1,show H.length+(o - H.length)=o by omega]
 have hX1:HR G' (H++H1.drop H.length):=by rw[← e1];exact hX
 have hF:HR {G' with n:=H.length} H:=hX1.forget λo x ho=>by
  have:=(hH.obj o x ho).bel
  rwa[hH.n]at this
 let L2:Nat→Prop:=λb=>G.L b∧G'.L b∧∀(o:Nat) (x:AObj),H.length≤o→H1[o]?=some (some x)→b≠(G'.μ o).1
 have hF2:=hF.less L2 (λb hb=>hb.2.1) (λo x ho=>by
  have hlt:=(BD.1 ho).1;have ho1:H1[o]?=some (some x):=by rw[hpre o hlt];exact ho
  have hμ:G'.μ o=G.μ o:=hE.μ o (by rw[hH.n];exact hlt);refine⟨?_,hX.live o x ho1,λo' x' hge ho' he=>?_⟩
  ·show G.L (G'.μ o).1
   rw[hμ];exact hH.live o x ho
  ·have:=hX.inj o o' x x' ho1 ho' he
   omega)
 have hE2:Evo G (Cfg.less {G' with n:=H.length} L2):=⟨hE.os,hE.tape,hE.output,hE.size,λk hk hL=>⟨(hE.keep k hk hL).1,λhh=>hL hh.1⟩,by show G.n≤H.length;rw[hH.n];exact Ac2 _,λo ho=>hE.μ o ho,hE.K⟩;have hK:HR G' (old H.length H1):=hX.fewer (by unfold old;simp;omega) λo x ho=>(cZ ho).2
 refine⟨r',H,Cfg.less {G' with n:=H.length} L2,v,rfl,rfl,hE2,?_,hF2,hr',rfl⟩;refine Xp (G':=G') (G'':=Cfg.less {G' with n:=H.length} L2) rfl (λb hn hh=>hn (hh.imp (λh=>h.2.1) id)) hK ?_ n r v r' hx hf;intro o x ho hh;obtain⟨h1,h2⟩:=cZ ho;rcases hh with hh | hh
 ·exact hh.2.2 o x h1 h2 rfl
 ·exact hX.dis _ (hX.live o x h2) hh
end
end
section
abbrev bJ:=List Nm×List Nd
structure StS where
 cap:Int
 now:bJ
 kept:bJ
 pend:List OpM
 made:Int
 armed:Int
 off:Bool
def LB (room:Int):StS:=⟨min (max room 0) 4096,([],[]),([],[]),[],0,-1,false⟩
def wt (o:OpM):Nat:=1+o.b.length+if o.kind=4 then 4098 else 0
def TJ (l:List OpM):Nat:=(l.map wt).sum
theorem sD {o:OpM}{d:Nd}{c:Gr}(h:Of o d=some c):c.2.length≤d.l.length+wt o:=by
 have h4:=oF (o:=o) (d:=d);rw[h]at h4;simp only[cL,Ak1]at h4;unfold wt
 by_cases c4:o.kind=4
 ·rw[if_pos c4];omega
 ·rw[if_neg c4]
  unfold Of at h;split at h
  ·unfold DE at h
   split at h
   ·injection h with h
    subst h
    split
    ·simp
    ·have:=V2 (bs:=o.b) (l:=d.l) (p:=o.pos)
     simp only;omega
   ·cases h
  ·split at h
   ·unfold Cl at h
    split at h
    ·injection h with h
     subst h;simp only[Dy,Pe,Ae9];exact Ad8 (Ah4 _ _) (by omega)
    ·cases h
   ·split at h
    ·unfold Ih at h
     split at h
     ·injection h with h
      subst h;simp only[Kp,Pe,Ae9];exact Ad8 (Ah4 _ _) (by omega)
     ·cases h
    ·cases h
def Few1 (M:Nat)(i:bJ):Prop:=MayW i.1 i.2∧∀d∈i.2,d.l.length≤M
theorem Zn {ns:List Nm}{ds:List Nd}{s:List UInt8}{d:Nd}(h:d∈Vm ns ds s):d∈ds:=by
 unfold Vm at h;split at h
 ·exact delK_sub.subset h
 ·exact h
theorem Few1.step {M:Nat}{i:bJ}(h:Few1 M i)(o:OpM):Few1 (M+wt o) (B8 i.1 i.2 o):=by
 refine⟨jF h.1 o,λd hd=>?_⟩;have old:d∈i.2→d.l.length≤M+wt o:=λhd=>Ad8 (h.2 d hd) (by omega)
 unfold B8 at hd;rw[if_pos (G4.2 h.1)]at hd;split at hd
 ·split at hd
  ·rcases G6.1 hd with rfl | hd
   ·simp
   ·exact old hd
  ·exact old hd
 ·split at hd
  ·rcases YW h.1.sd hd with hd | ⟨-,e,he,-,hc⟩
   ·exact old hd
   ·have:=sD hc
    have:=h.2 e he
    simp only at*;omega
  ·split at hd
   ·split at hd
    ·exact old (Zn hd)
    ·exact old hd
   ·split at hd
    ·exact old (Zn hd)
    ·exact old hd
theorem Few1.mono {M M':Nat}{i:bJ}(h:Few1 M i)(hm:M≤M'):Few1 M' i:=⟨h.1,λd hd=>Ad8 (h.2 d hd) hm⟩
theorem MayW.len2 {ns:List Nm}{ds:List Nd}(h:MayW ns ds):ds.length≤16:=by
 have:=(G4.2 h).2.1
 have:=h.len
 omega
theorem Few1.sm {M:Nat}{i:bJ}(h:Few1 M i)(hm:M≤1000000):Sm i.1 i.2:=
 ⟨by have:=h.1.len;omega,by have:=h.1.len2;omega,λx hx=>by have:=(h.1.nm x hx).1.2.1;omega,λd hd=>Ad8 (h.2 d hd) hm⟩
def iM (o:OpM):Prop:=o.b.length≤5000∧o.name.length≤20∧o.to.length≤20
structure SW (N:Nat)(s:StS):Prop where
 now:Few1 N s.now
 kept:∃a,Few1 a s.kept∧a+TJ s.pend≤N
 ob:∀o∈s.pend,iM o
 made:0≤s.made∧s.made≤N
 cap:0≤s.cap∧s.cap≤4096
 armed: -1≤s.armed∧s.armed≤9223372036854775807
theorem dV {l:List OpM}:l.length≤TJ l:=by
 unfold TJ
 induction l with
 | nil=>simp
 | cons o l ih=>simp only[Aj7,List.sum_cons,Ad7];unfold wt at*;omega
theorem V4 {l:List OpM}{o:OpM}:TJ (l++[o])=TJ l+wt o:=by simp[TJ]
theorem SW.plen {N:Nat}{s:StS}(h:SW N s):s.pend.length≤N:=by
 obtain⟨a,-,h2⟩:=h.kept
 have:=dV (l:=s.pend)
 omega
theorem SW.mono {N N':Nat}{s:StS}(h:SW N s)(hn:N≤N'):SW N' s:=
 ⟨h.now.mono hn,by obtain⟨a,h1,h2⟩:=h.kept;exact⟨a,h1,by omega⟩,h.ob,by have:=h.made;omega,h.cap,h.armed⟩
theorem YV:MayW [] []:=⟨by simp,by simp,by simp[Cb],by simp,by simp[Cb],by simp,λi=>by simp[AO]⟩
theorem Sn (room:Int):SW 0 (LB room):=
 ⟨⟨YV,by simp[LB]⟩,⟨0,⟨YV,by simp[LB]⟩,by simp[LB,TJ]⟩,by simp[LB],by simp[LB],by simp[LB];omega,by simp[LB]⟩
def Bc (s:StS):Bool×StS:=
 if s.off=true∨s.armed=0 then(false,{s with off:=true})
 else if 0<s.armed then(true,{s with armed:=s.armed - 1})
 else(true,s)
def Lz (s:StS)(o:OpM):Int×StS:=
 if(Bc s).1=true then(0,{(Bc s).2 with now:=B8 s.now.1 s.now.2 o,pend:=s.pend++[o]})else(8,(Bc s).2)
theorem Xo {N:Nat}{s:StS}(h:SW N s):SW N (Bc s).2:=by
 unfold Bc
 split
 ·exact⟨h.now,h.kept,h.ob,h.made,h.cap,h.armed⟩
 ·split
  ·exact⟨h.now,h.kept,h.ob,h.made,h.cap,by have:=h.armed;simp only;omega⟩
  ·exact h
theorem GZ (s:StS):(Bc s).2.now=s.now∧(Bc s).2.kept=s.kept∧(Bc s).2.pend=s.pend∧(Bc s).2.made=s.made∧(Bc s).2.cap=s.cap:=by
 unfold Bc
 split
 ·exact⟨rfl,rfl,rfl,rfl,rfl⟩
 ·split<;>exact⟨rfl,rfl,rfl,rfl,rfl⟩
theorem cK {N:Nat}{s:StS}{o:OpM}(h:SW N s)(ho:iM o):SW (N+wt o) (Lz s o).2:=by
 have hd:=Xo h;obtain⟨e1,e2,e3,e4,e5⟩:=GZ s;unfold Lz
 split
 ·obtain⟨a,h1,h2⟩:=h.kept
  refine⟨h.now.step o,⟨a,by simp only[e2];exact h1,by simp only[V4];omega⟩,?_,by simp only[e4];have:=h.made;omega,by simp only[e5];exact h.cap,hd.armed⟩;intro x hx;simp only[zH]at hx;rcases hx with hx | rfl
  ·exact h.ob x hx
  ·exact ho
 ·exact hd.mono (by omega)
structure StC (s:StS)(os:Nat)(a b c d p:AV)(pv:List OpV)(H:AH):Prop where
 obj:H[os]?=some (some (.cells [I s.cap,a,b,c,d,p,I s.made,I s.armed,B s.off]))
 now:ImV s.now.1 s.now.2 (.agg [a,b])
 kept:ImV s.kept.1 s.kept.2 (.agg [c,d])
 pm:pv.map OpV.o=s.pend
 ps:Aa H 8 p=some (pv.flatMap Mp,pv.length)
 po:AP p=true
 pi:os∉AU p
 pc:Cm p pv.length
def StAt (s:StS)(os:Nat)(p:AV)(H:AH):Prop:=∃a b c d pv,StC s os a b c d p pv H
structure StF (os:Nat)(p p':AV)(H H':AH):Prop where
 len:H.length≤H'.length
 same:∀j,j<H.length→j≠os→j∉AU p→H'[j]?=H[j]?
 ids:∀j∈AU p',j∈AU p∨H.length≤j
theorem StF.refl (os:Nat)(p:AV)(H:AH):StF os p p H H:=⟨Ac2 _,λ_ _ _ _=>rfl,λ_ h=>.inl h⟩
theorem StF.trans {os:Nat}{p p' p'':AV}{A B C:AH}(h:StF os p p' A B)(k:StF os p' p'' B C):StF os p p'' A C:=
  ⟨Ad8 h.len k.len,λj hj hne hp=>by
    rw[k.same j (Af0 hj h.len) hne (λhp'=>(h.ids j hp').elim hp (λq=>by omega)),h.same j hj hne hp],
   λj hj=>(k.ids j hj).elim (h.ids j) (λq=>.inr (Ad8 h.len q))⟩
theorem StF.of_grew {os:Nat}{p:AV}{H H':AH}(g:Grew H H'):StF os p p H H':=⟨g.1,λj hj _ _=>g.2 j hj,λ_ h=>.inl h⟩
theorem StF.grew {os:Nat}{p p':AV}{H H' H'':AH}(h:StF os p p' H H')(g:Grew H' H''):StF os p p' H H'':=h.trans (.of_grew g)
theorem StC.lt {s:StS}{os:Nat}{a b c d p:AV}{pv:List OpV}{H:AH}(h:StC s os a b c d p pv H):os<H.length:=(BD.1 h.obj).1
theorem StC.grew {s:StS}{os:Nat}{a b c d p:AV}{pv:List OpV}{H H':AH}(h:StC s os a b c d p pv H)(g:Grew H H'):StC s os a b c d p pv H':=
 ⟨g.cells h.obj,h.now,h.kept,h.pm,g.slice h.ps,h.po,h.pi,h.pc⟩
theorem StAt.grew {s:StS}{os:Nat}{p:AV}{H H':AH}(h:StAt s os p H)(g:Grew H H'):StAt s os p H':=by
 obtain⟨a,b,c,d,pv,h⟩:=h;exact⟨a,b,c,d,pv,h.grew g⟩
theorem StC.set {s s':StS}{os:Nat}{a b c d a' b' c' d' p:AV}{pv:List OpV}{H:AH}(h:StC s os a b c d p pv H)(hn:ImV s'.now.1 s'.now.2 (.agg [a',b']))(hk:ImV s'.kept.1 s'.kept.2 (.agg [c',d']))(hp:s'.pend=s.pend):
  StC s' os a' b' c' d' p pv (H.set os (some (.cells [I s'.cap,a',b',c',d',p,I s'.made,I s'.armed,B s'.off])))∧StF os p p H (H.set os (some (.cells [I s'.cap,a',b',c',d',p,I s'.made,I s'.armed,B s'.off]))):=by
 refine⟨⟨JW h.lt,hn,hk,by rw[hp];exact h.pm,Ae h.ps λi q=>C4 (λe=>h.pi (by rw[e];exact q)),h.po,h.pi,h.pc⟩,by simp,λj _ hne _=>C4 (Af4 hne),λ_ q=>.inl q⟩
theorem ImV.agg2 {ns:List Nm}{ds:List Nd}{v:AV}(h:ImV ns ds v):∃a b,v=.agg [a,b]∧oneA a=true∧oneA b=true:=by
 obtain⟨a,b,dv,rfl,h1,h2,-⟩:=h;exact⟨a,b,rfl,SV.oneA h1,SV.oneA h2⟩
theorem oM {H:AH}{os k:Nat}{cs:List AV}{x:AV}(h:H[os]?=some (some (.cells cs)))(hk:k<cs.length)(hx:oneA x=true):AT 1 H (.ptr os k) x=some (H.set os (some (.cells (cs.set k x)))):=by
 rw[AC (n:=1) (xs:=[x]) (cs:=cs) (AS hx) h rfl hk];rfl
theorem tV (x y:AV):Ao true 2 [x,y] 0=some (.agg [x,y]):=rfl
theorem iF (H:AH):AD H (.agg [(I 0),Ad])=some (.ptr H.length 0,H++[some (.cells [I 0,Ad])]):=by simp
theorem VW (H:AH)(s:Int){R:AV}(hR:oneA R=true):AT 2 (H++[some (.cells [I 0,Ad])]) (.ptr H.length 0) (.agg [I s,R])=some (H++[some (.cells [I s,R])]):=by
 rw[AC (n:=2) (xs:=[I s,R]) (cs:=[I 0,Ad]) (by simp[hR]) (by simp) rfl (by simp)];simp[AR]
theorem CI {H:AH}{x:AObj}:(H++[some x])[H.length]?=some (some x):=by simp
theorem iL (room:Int)(H:AH)(hr:room≤9223372036854775807):∃r H',(∃p,r=.ptr H.length 0∧H'.length=H.length+1∧StAt (LB room) H.length p H'∧Grew H H'∧AU p=[])∧BCall prog 10 [I room] H r H':=XE (by
 unfold WG;have e1:amm ZX [I room,(I 0)]=some (I (max room 0)):=by rw[NE,kO,Int.max_comm]
 have e2:amm VP [I (max room 0),(I 4096)]=some (I (min (max room 0) 4096)):=by rw[NE,ZW,Int.min_comm]
 have e3:FK [(I 0),Ad,Ad,Ad,Ad,Ad,(I 0),(I 0),(B false)] [(0,1,I (min (max room 0) 4096)),(7,1,(I (-1)))]=some (.agg [I (min (max room 0) 4096),Ad,Ad,Ad,Ad,Ad,I 0,I (-1),B false]):=rfl;have e4:AD H (.agg [I (min (max room 0) 4096),Ad,Ad,Ad,Ad,Ad,I 0,I (-1),B false])=some (.ptr H.length 0,H++[some (.cells [I (min (max room 0) 4096),Ad,Ad,Ad,Ad,Ad,I 0,I (-1),B false])]):=by simp
 rw[e1,Ab,e2,Ab,e3,Ab,e4,Az];have hI:ImV [] [] (.agg [Ad,Ad]):=⟨Ad,Ad,[],rfl,SV.nil,SV.nil,rfl⟩;exact⟨Ad,rfl,by simp,⟨Ad,Ad,Ad,Ad,[],⟨CI,hI,hI,rfl,rfl,rfl,by simp[AU],by simp[Cm]⟩⟩,Grew.app _ _,rfl⟩)
abbrev Pr:=And.intro @Ab @Nat.zero_add
abbrev yS:=And.intro @AF @beq_self_eq_true.{0}
abbrev yZ:=And.intro @CL.{0} @Eb.{0}
abbrev zC:=And.intro @Am @Pr
abbrev zE:=And.intro @Al @CA
abbrev zG:=And.intro @Ah @zC
abbrev zJ:=And.intro @yZ @zG
abbrev zZ:=And.intro @Ay @zJ
theorem kB {s:StS}{os:Nat}{p:AV}{H:AH}(h:StAt s os p H)(hb: -1≤s.armed∧s.armed≤9223372036854775807):∃r H',(r=B (Bc s).1∧StAt (Bc s).2 os p H'∧StF os p p H H')∧BCall prog 80 [.ptr os 0] H r H':=O1 (by
 obtain⟨a,b,c,d,pv,h⟩:=h;unfold Ln;simp only[zZ,Ak h.obj,AK]
 have stop:s.off=true∨s.armed=0→bS (AT 1 H (.ptr os 8) (B true)) λH17=>B false=B (Bc s).1∧StAt (Bc s).2 os p H17∧StF os p p H H17:=by
  intro hc;have e:Bc s=(false,{s with off:=true}):=by unfold Bc;rw[if_pos hc]
  rw[e];obtain⟨h2,h3⟩:=h.set (s':={s with off:=true}) h.now h.kept rfl;have e2:AT 1 H (.ptr os 8) (B true)=some (H.set os (some (.cells [I s.cap,a,b,c,d,p,I s.made,I s.armed,B true]))):=oM h.obj (by simp) rfl;simp only[e2,AE];exact⟨by trivial,⟨a,b,c,d,pv,h2⟩,h3⟩
 cases ho:s.off with
 | true=>
  simp only[show((true==false)=false)from rfl,BE,zC,As,if_true,Af,Al,Ay];exact stop (.inl ho)
 | false=>
  simp only[yS,zZ,Ak h.obj,CX,As,An,Af]
  by_cases h0:s.armed=0
  ·simp only[h0,zE]
   exact stop (.inr h0)
  ·simp only[h0,yY,Hp,Af]
   have hn:¬(s.off=true∨s.armed=0):=by rintro(q | q);rw[ho]at q;cases q;exact h0 q
   by_cases hp:0<s.armed
   ·have e:Bc s=(true,{s with armed:=s.armed - 1}):=by unfold Bc;rw[if_neg hn,if_pos hp]
    rw[e];obtain⟨h2,h3⟩:=h.set (s':={s with armed:=s.armed - 1}) h.now h.kept rfl;have e1:Ap .sub (I s.armed) (I 1)=some (I (s.armed - 1)):=BM (by omega) (by omega);have e2:AT 1 H (.ptr os 7) (I (s.armed - 1))=some (H.set os (some (.cells [I s.cap,a,b,c,d,p,I s.made,I (s.armed - 1),B s.off]))):=oM h.obj (by simp) rfl;simp only[hp,zE,e1,Ab,e2,AE];rw[GF];unfold E8;exact⟨rfl,⟨a,b,c,d,pv,h2⟩,h3⟩
   ·have e:Bc s=(true,s):=by unfold Bc;rw[if_neg hn,if_neg hp]
    rw[e];simp only[hp,yY];rw[GF];unfold E8;exact⟨rfl,⟨a,b,c,d,pv,h⟩,.refl _ _ _⟩)
theorem tW (c a b d e f g h i:AV):Ao true 2 [c,a,b,d,e,f,g,h,i] 1=some (.agg [a,b])∧Ao true 2 [c,a,b,d,e,f,g,h,i] 3=some (.agg [d,e]):=⟨rfl,rfl⟩
theorem xT {H:AH}{os:Nat}{x0 x1 x2 x3 x4 x5 x6 x7 x8 a b:AV}(h:H[os]?=some (some (.cells [x0,x1,x2,x3,x4,x5,x6,x7,x8])))(ha:oneA a=true)(hb:oneA b=true):
  AT 2 H (.ptr os 1) (.agg [a,b])=some (H.set os (some (.cells [x0,a,b,x3,x4,x5,x6,x7,x8])))∧AT 2 H (.ptr os 3) (.agg [a,b])=some (H.set os (some (.cells [x0,x1,x2,a,b,x5,x6,x7,x8]))):=by
 constructor
 ·rw[AC (n:=2) (off:=1) (xs:=[a,b]) (by simp[ha,hb]) h rfl (by simp)];rfl
 ·rw[AC (n:=2) (off:=3) (xs:=[a,b]) (by simp[ha,hb]) h rfl (by simp)];rfl
theorem RZ {s:StS}{os:Nat}{a b c d p:AV}{pv:List OpV}{H:AH}(h:StC s os a b c d p pv H):∀j∈AU p,j<H.length:=λj q=>A3 h.ps j q
abbrev zA:=And.intro @Al @Bool.not_false
abbrev zB:=And.intro @Ag @Bool.not_true
abbrev zM:=And.intro @AE @Az
abbrev zX:=And.intro @Bp @yV
theorem sK {N:Nat}{s:StS}{os:Nat}{p bv:AV}{H:AH}{o:OpM}(h:StAt s os p H)(hw:SW N s)(hN:N≤900000)(hb:SV Je 1 o.b bv)(ho:iM o):
  ∃r H',(r=I (Lz s o).1∧∃p',StAt (Lz s o).2 os p' H'∧StF os p p' H H')∧BCall prog 48 [.ptr os 0,.agg (DL o bv)] H r H':=Ri (by
 have h0:=h;obtain⟨a0,b0,c0,d0,pv0,hc0⟩:=h;unfold N5;have obv:=SV.oneA hb;have e1:AD H (.agg (DL o bv))=some (.ptr H.length 0,H++[some (.cells (DL o bv))]):=by simp[DL,obv]
 have g:=Grew.app H [some (.cells (DL o bv))];obtain⟨r,H3,⟨rfl,h3,f3⟩,hc⟩:=kB (h0.grew g) hw.armed;rw[e1,Az];refine bC_of hc ?_;have sm:=hw.now.sm (by omega);obtain⟨q1,q2,q3,q4,q5⟩:=GZ s;simp only[zX];cases hd:(Bc s).1 with
 | false=>
  have e:Lz s o=(8,(Bc s).2):=by unfold Lz;rw[if_neg (by rw[hd];simp)]
  rw[e];simp only[zA];exact⟨by trivial,p,h3,(StF.of_grew g).trans f3⟩
 | true=>
  have e:Lz s o=(0,{(Bc s).2 with now:=B8 s.now.1 s.now.2 o,pend:=s.pend++[o]}):=by unfold Lz;rw[if_pos hd]
  rw[e];have hos:os<H.length:=hc0.lt;have hid:=RZ hc0;obtain⟨a,b,c,d,pv,h3⟩:=h3
  have c3:H3[H.length]?=some (some (.cells (DL o bv))):=by
   rw[f3.same H.length (by simp) (by omega) (λq=>by have:=hid _ q;omega)];exact CI
  obtain⟨R,hR,hp⟩:=bD (o:=o) (bv:=bv) h3.now (by rw[q1];exact sm) hb (by have:=ho.1;omega) (by have:=ho.2.1;omega) (by have:=ho.2.2;omega);rw[q1]at hR;obtain⟨a',b',rfl,oa,ob⟩:=hR.agg2;have rd8:Ao true 8 (DL o bv) 0=some (.agg (DL o bv)):=rfl;simp only[zB,Ay,zC,Ak h3.obj,(tW _ _ _ _ _ _ _ _ _).1,Ak c3,rd8];refine bP_of hp ?_;obtain⟨h4,f4⟩:=h3.set (s':={(Bc s).2 with now:=B8 s.now.1 s.now.2 o}) hR h3.kept rfl;simp only[Ay,zC,(xT h3.obj oa ob).1,AE];have c4:(H3.set os (some (AObj.cells [I (Bc s).2.cap,a',b',c,d,p,I (Bc s).2.made,I (Bc s).2.armed,B (Bc s).2.off])))[H.length]?=some (some (.cells (DL o bv))):=by rw[C4 (by omega)];exact c3
  simp only at h4 f4;generalize hH4:H3.set os (some (AObj.cells [I (Bc s).2.cap,a',b',c,d,p,I (Bc s).2.made,I (Bc s).2.armed,B (Bc s).2.off]))=H4 at*
  have e6:Tq 8 1 (Be [(I 0),(I 0),(I 0),(I 0),(B false),(.lit (.string ⟨#[]⟩)),(.lit (.string ⟨#[]⟩)),Ad] 1) [(0,8,.agg (DL o bv))]=some (.imm (Mp ⟨o,bv,hb⟩) 1 8):=by
   simp[Tq,Be,Mp,DL,Pk,obv,AR]
  have x1:Bf H4 8 (.imm (Mp ⟨o,bv,hb⟩) 1 8)=some (Mp ⟨o,bv,hb⟩,1):=AI (by simp[Aa,Mp,DL]);have hpl:pv.length=s.pend.length:=by rw[← q3,← h3.pm,Ae9]
  have hplN:=hw.plen;obtain⟨r,H5,a1,a2,a3,a4,a5,a6⟩:=CC (bytes:=96) h4.ps h4.po x1 (by omega);have a7:=NC h4.ps h4.po x1 h4.pc a1;have c5:H5[os]?=some (some (.cells [I (Bc s).2.cap,a',b',c,d,p,I (Bc s).2.made,I (Bc s).2.armed,B (Bc s).2.off])):=by rw[a5 os h4.lt h4.pi];exact h4.obj
  have hor:os∉AU r:=λq=>(a6 os q).elim h4.pi (λq=>by have:=h4.lt;omega)
  have e7:AT 1 H5 (.ptr os 5) r=some (H5.set os (some (.cells [I (Bc s).2.cap,a',b',c,d,r,I (Bc s).2.made,I (Bc s).2.armed,B (Bc s).2.off]))):=oM c5 (by simp) (AM a2);simp only[Ak h4.obj,zZ,Ak c4,rd8,e6,a1,zM,e7];have hl5:os<H5.length:=(BD.1 c5).1;refine⟨by trivial,r,⟨a',b',c,d,pv++[⟨o,bv,hb⟩],⟨JW hl5,hR,h3.kept,?_,?_,a2,hor,by simpa using a7⟩⟩,?_⟩
  ·rw[Ag8,h3.pm,q3];rfl
  ·have:=Ae a3 (H':=H5.set os (some (.cells [I (Bc s).2.cap,a',b',c,d,r,I (Bc s).2.made,I (Bc s).2.armed,B (Bc s).2.off]))) λi q=>C4 (λe=>hor (by rw[e];exact q))
   simpa using this
  ·have f5:StF os p r H4 (H5.set os (some (.cells [I (Bc s).2.cap,a',b',c,d,r,I (Bc s).2.made,I (Bc s).2.armed,B (Bc s).2.off]))):=⟨by simpa using a4,λj hj hne hjp=>by rw[C4 (Af4 hne),a5 j hj hjp],a6⟩
   exact((StF.of_grew g).trans f3).trans (f4.trans f5))
theorem bK {N:Nat}{s:StS}{os:Nat}{p:AV}{H:AH}(h:StAt s os p H)(hw:SW N s)(hN:N≤900000):∃R,ImV s.now.1 s.now.2 R∧∃r H',(r=R∧Grew H H')∧BCall prog 14 [.ptr os 0] H r H':=by
 obtain⟨a,b,c,d,pv,h⟩:=h;obtain⟨R,hR,hp⟩:=qV h.now (hw.now.sm (by omega));refine⟨R,hR,P8 ?_⟩;unfold Mk;obtain⟨a',b',rfl,oa,ob⟩:=hR.agg2;have e1:AD H (.agg [Ad,Ad])=some (.ptr H.length 0,H++[some (.cells [Ad,Ad])]):=by simp
 have g:=Grew.app H [some (.cells [Ad,Ad])]
 have e2:AT 2 (H++[some (.cells [Ad,Ad])]) (.ptr H.length 0) (.agg [a',b'])=some (H++[some (.cells [a',b'])]):=by
  rw[AC (n:=2) (xs:=[a',b']) (cs:=[Ad,Ad]) (by simp[oa,ob]) (by simp) rfl (by simp)];simp[AR]
 simp only[e1,Az,Ay,zC,Ak (g.cells h.obj),(tW _ _ _ _ _ _ _ _ _).1];refine A4 hp ?_;simp only[e2,AE,Ak CI,tV,Ab];exact⟨by trivial,Grew.app _ _⟩
def LX (s:StS):Int:=max 0 (s.cap - JD s.now.2)
theorem mT {M:Nat}{i:bJ}(h:Few1 M i):JD i.2≤16*M:=by
 have h1:=XG h.2;have h2:=h.1.len2;exact Ad8 h1 (Ad0 _ h2)
theorem qY {N:Nat}{s:StS}{os:Nat}{p:AV}{H:AH}(h:StAt s os p H)(hw:SW N s)(hN:N≤900000):BCall prog 21 [.ptr os 0] H (I (LX s)) H:=by
 obtain⟨r,H',⟨rfl,rfl⟩,hc⟩:=Ox (a0:=.ptr os 0) (H:=H) (K:=λr H'=>r=I (LX s)∧H'=H) (by
  obtain⟨a,b,c,d,pv,h⟩:=h;unfold Li;have hu:=rE h.now (hw.now.sm (by omega));rw[pX hw.now.1]at hu;have hs:=mT hw.now;have hcap:=hw.cap;have e1:Ap .sub (I s.cap) (I (JD s.now.2:Int))=some (I (s.cap - JD s.now.2)):=BM (by omega) (by omega);have e2:amm ZX [(I 0),I (s.cap - JD s.now.2)]=some (I (LX s)):=by rw[NE,kO,Int.max_comm];rfl
  simp only[Ay,zG,Ak h.obj,CL,(tW _ _ _ _ _ _ _ _ _).1];refine bP_of hu ?_;simp only[e1,Ab,e2];exact⟨by trivial,by trivial⟩)
 exact hc
def Ar (s:StS)(ino:Int):Gr×Int:=
 if s.off=true then((0,[]),8)else if Ol s.now.1 s.now.2 ino then(((Fo s.now.1 s.now.2 ino).size,(Fo s.now.1 s.now.2 ino).l),0)else((0,[]),3)
abbrev zL:=And.intro @A2 @yZ
theorem NL {N:Nat}{s:StS}{os:Nat}{p:AV}{H:AH}(h:StAt s os p H)(hw:SW N s)(hN:N≤900000)(ino:Int):
  ∃R,SV Ax 9 (Ar s ino).1.2 R∧∃r H',(r=.tup [.agg [I (Ar s ino).1.1,R],I (Ar s ino).2]∧Grew H H')∧BCall prog 49 [.ptr os 0,I ino] H r H':=by
 obtain⟨a,b,c,d,pv,h⟩:=h;have e0:FK [(I 0),Ad] []=some (.agg [I 0,Ad]):=rfl;have g:=Grew.app H [some (.cells [I 0,Ad])];cases ho:s.off with
 | true=>
  have e:Ar s ino=((0,[]),8):=by unfold Ar;rw[if_pos ho]
  rw[e];refine⟨Ad,SV.nil,Et ?_⟩;unfold DO;simp only[iF,zM,zZ,Ak (g.cells h.obj),ho,Af,Al,e0,VW H 0 (R:=Ad) rfl,Ak CI,tV];exact⟨by trivial,Grew.app _ _⟩
 | false=>
  have sm:=hw.now.sm (by omega);obtain⟨R,hR,hp⟩:=bE h.now sm ino;have oR:=SV.oneA hR
  by_cases hg:Ol s.now.1 s.now.2 ino
  ·have e:Ar s ino=(((Fo s.now.1 s.now.2 ino).size,(Fo s.now.1 s.now.2 ino).l),0):=by unfold Ar;rw[if_neg (by rw[ho];simp),if_pos hg]
   rw[e];refine⟨R,hR,Et ?_⟩;unfold DO;simp only[iF,Az,zZ,Ak (g.cells h.obj),ho,Af,Ag,(tW _ _ _ _ _ _ _ _ _).1];refine A4 hp ?_;have g2:=Grew.app (H++[some (AObj.cells [I 0,Ad])]) [some (AObj.cells [I (Fo s.now.1 s.now.2 ino).size,R])]
   have e5:AT 2 (H++[some (AObj.cells [I 0,Ad])]++[some (AObj.cells [I (Fo s.now.1 s.now.2 ino).size,R])]) (.ptr H.length 0) (.agg [I (Fo s.now.1 s.now.2 ino).size,R])=some (H++[some (AObj.cells [I (Fo s.now.1 s.now.2 ino).size,R])]++[some (AObj.cells [I (Fo s.now.1 s.now.2 ino).size,R])]):=by
    rw[AC (n:=2) (xs:=[I (Fo s.now.1 s.now.2 ino).size,R]) (cs:=[I 0,Ad]) (by simp[oR]) (g2.cells CI) rfl (by simp)];simp[AR]
   have g3:=Grew.app (H++[some (AObj.cells [I (Fo s.now.1 s.now.2 ino).size,R])]) [some (AObj.cells [I (Fo s.now.1 s.now.2 ino).size,R])];simp only[zL,zX,iF,zM,VW _ _ oR,hg,CA,zB,Ak CI,tV,e5,Ak (g3.cells CI)];exact⟨by trivial,(Grew.app H _).trans g3⟩
  ·have e:Ar s ino=((0,[]),3):=by unfold Ar;rw[if_neg (by rw[ho];simp),if_neg hg]
   rw[e];refine⟨Ad,SV.nil,Et ?_⟩;unfold DO;simp only[iF,Az,zZ,Ak (g.cells h.obj),ho,Af,Ag,(tW _ _ _ _ _ _ _ _ _).1];refine A4 hp ?_;have g2:=Grew.app (H++[some (AObj.cells [I 0,Ad])]) [some (AObj.cells [I (Fo s.now.1 s.now.2 ino).size,R])]
   have e5:AT 2 (H++[some (AObj.cells [I 0,Ad])]++[some (AObj.cells [I (Fo s.now.1 s.now.2 ino).size,R])]) (.ptr H.length 0) (.agg [I 0,Ad])=some (H++[some (AObj.cells [I 0,Ad])]++[some (AObj.cells [I (Fo s.now.1 s.now.2 ino).size,R])]):=by
    rw[AC (n:=2) (xs:=[I 0,Ad]) (cs:=[I 0,Ad]) rfl (g2.cells CI) rfl (by simp)];simp[AR]
   simp only[zL,zX,iF,zM,VW _ _ oR,hg,C9,zA,e0,e5,Ak (g2.cells CI),tV];exact⟨by trivial,g.trans g2⟩
def EP (s:StS)(name:List UInt8):Int×Int:=
 if s.off=true then(0,8)else if ¬G5 name then(0,5)else if AO Nm.name s.now.1 name then(Fh s.now.1 name,0)else(0,3)
abbrev yW:=And.intro @CA @if_true.{1}
abbrev zR:=And.intro @if_false.{1} @not_true_eq_false
theorem sP {N:Nat}{s:StS}{os:Nat}{p:AV}{H:AH}(h:StAt s os p H)(hw:SW N s)(hN:N≤900000){name:List UInt8}(hn:name.length≤9223372036854775807):
  BCall prog 47 [.ptr os 0,S (A0 name)] H (.tup [I (EP s name).1,I (EP s name).2]) H:=by
 obtain⟨r,H',⟨rfl,rfl⟩,hc⟩:=O2 (a0:=.ptr os 0) (a1:=S (A0 name)) (H:=H) (K:=λr H'=>r=.tup [I (EP s name).1,I (EP s name).2]∧H'=H) (by
  obtain⟨a,b,c,d,pv,h⟩:=h;unfold Lo;unfold EP;simp only[zZ,Ak h.obj,Af];cases ho:s.off with
  | true=>simp only[if_true,Al];exact⟨by trivial,by trivial⟩
  | false=>
   simp only[Ag,An];refine A4 (NB hn) ?_
   by_cases hm:G5 name
   ·simp only[hm,CA,zX,zB,zR]
    have hf:=qX h.now (hw.now.sm (by omega)) name;obtain⟨w1,w2⟩:=oK hw.now.1 name;rw[w1,show decide (T9 s.now.1 s.now.2 name)=decide (AO Nm.name s.now.1 name)from decide_eq_decide.2 w2]at hf;simp only[Ay,zC,Ak h.obj,(tW _ _ _ _ _ _ _ _ _).1];refine A4 hf ?_
    by_cases hk:AO Nm.name s.now.1 name
    ·simp only[zL,zX,hk,yW,zB]
     exact⟨by trivial,by trivial⟩
    ·simp only[zL,zX,hk,C9,zA,if_false]
     exact⟨by trivial,by trivial⟩
   ·simp only[hm,C9,zX,zA,not_false_eq_true,if_true]
    exact⟨by trivial,by trivial⟩)
 exact hc
def DV (name:List UInt8)(i:Int):OpM:=⟨1,i,0,0,false,name,[],[]⟩
def Sq (ino size:Int):OpM:=⟨3,ino,0,size,false,[],[],[]⟩
theorem lR (ino size:Int):iM (Sq ino size):=⟨by simp[Sq],by simp[Sq],by simp[Sq]⟩
def AZ (s:StS)(name:List UInt8)(make:Bool):(Int×Int)×StS:=
 if(EP s name).2≠3∨make=false then(EP s name,s)
 else if 16≤s.now.1.length then((0,4),s)
 else if(Lz s (DV name (s.made+1))).1≠0 then((0,(Lz s (DV name (s.made+1))).1),(Lz s (DV name (s.made+1))).2)
 else((s.made+1,0),{(Lz s (DV name (s.made+1))).2 with made:=s.made+1})
theorem cM {s:StS}{name:List UInt8}(h:(EP s name).2=3):G5 name∧¬AO Nm.name s.now.1 name∧s.off=false:=by
 unfold EP at h;split at h
 ·simp at h
 ·split at h
  ·simp at h
  ·split at h
   ·simp at h
   ·rename_i h1 h2 h3
    exact⟨Af2 h2,h3,by simpa using h1⟩
theorem QQ {N:Nat}{s:StS}(h:SW N s)(name:List UInt8)(make:Bool):SW (N+1) (AZ s name make).2:=by
 unfold AZ
 split
 ·exact h.mono (by omega)
 ·rename_i hf
  have hn:G5 name:=(cM (Af2 λq=>hf (.inl q))).1;have ho:iM (DV name (s.made+1)):=⟨by simp[DV],hn.2.1,by simp[DV]⟩;have hd:=cK h ho;have hwt:wt (DV name (s.made+1))=1:=rfl;rw[hwt]at hd
  split
  ·exact h.mono (by omega)
  ·split
   ·exact hd
   ·exact⟨hd.now,hd.kept,hd.ob,by simp only;have:=h.made;omega,hd.cap,hd.armed⟩
abbrev yT:=And.intro @ne_eq.{1} @not_false_eq_true
abbrev Ab3:=And.intro @BL @yV
abbrev Ab8:=And.intro @Al @yW
theorem WM {N:Nat}{s:StS}{os:Nat}{p:AV}{H:AH}(h:StAt s os p H)(hw:SW N s)(hN:N<900000){name:List UInt8}(hn:name.length≤9223372036854775807)(make:Bool):
  ∃r H',(r=.tup [I (AZ s name make).1.1,I (AZ s name make).1.2]∧∃p',StAt (AZ s name make).2 os p' H'∧StF os p p' H H')∧BCall prog 18 [.ptr os 0,S (A0 name),B make] H r H':=Oy (by
 unfold Lj;refine bC_of (sP h hw (by omega) hn) ?_;have hmade:=hw.made;simp only[zL,Ab,BL,AK]
 by_cases h3:(EP s name).2=3
 ·obtain⟨hm,hk,hoff⟩:=cM h3
  simp only[h3,yR,C9,yS,zX,As,An];cases make with
  | false=>
   have e:AZ s name false=(EP s name,s):=by unfold AZ;rw[if_pos (.inr rfl)]
   rw[e];simp only[zA];exact⟨by rw[h3],p,h,.refl _ _ _⟩
  | true=>
   have hn0:¬((EP s name).2≠3∨true=false):=by rintro(q | q);exact q h3;cases q
   have h':=h;obtain⟨a,b,c,d,pv,hc⟩:=h;obtain⟨a',b',dv,eab,sa,sb,-⟩:=hc.now;injection eab with eab;injection eab with ea eb;subst ea;simp only[zB,zZ,Ah1,Ak hc.obj,sa.len,I3,Af]
   by_cases h16:16≤s.now.1.length
   ·have h16I:(16:Int)≤(s.now.1.length:Int):=by omega
    have e:AZ s name true=((0,4),s):=by unfold AZ;rw[if_neg hn0,if_pos h16]
    rw[e];simp only[h16I,zE];exact⟨by trivial,p,h',.refl _ _ _⟩
   ·have h16I:¬(16:Int)≤(s.now.1.length:Int):=by omega
    have ho:iM (DV name (s.made+1)):=⟨by simp[DV],hm.2.1,by simp[DV]⟩;have e1:Ap .add (I s.made) (I 1)=some (I (s.made+1)):=Aw (by omega) (by omega);have e2:FK [(I 0),(I 0),(I 0),(I 0),(B false),(.lit (.string ⟨#[]⟩)),(.lit (.string ⟨#[]⟩)),Ad] [(0,1,(I 1)),(5,1,S (A0 name)),(1,1,I (s.made+1))]=some (.agg (DL (DV name (s.made+1)) Ad)):=rfl;simp only[h16I,yY,zZ,Ak hc.obj,e1,e2];obtain⟨r,H2,⟨rfl,p2,h2,f2⟩,hcall⟩:=sK (bv:=Ad) h' hw (by omega) SV.nil ho;refine bC_of hcall ?_;simp only[Ab3]
    by_cases hd:(Lz s (DV name (s.made+1))).1=0
    ·have e:AZ s name true=((s.made+1,0),{(Lz s (DV name (s.made+1))).2 with made:=s.made+1}):=by unfold AZ;rw[if_neg hn0,if_neg h16,if_neg (by rw[hd];simp)]
     rw[e]
     have emade:(Lz s (DV name (s.made+1))).2.made=s.made:=by
      obtain⟨-,-,-,q4,-⟩:=GZ s;unfold Lz;split<;>exact q4
     obtain⟨a2,b2,c2,d2,pv2,hc2⟩:=h2;obtain⟨h3',f3⟩:=hc2.set (s':={(Lz s (DV name (s.made+1))).2 with made:=s.made+1}) hc2.now hc2.kept rfl;have e3:AT 1 H2 (.ptr os 6) (I (s.made+1))=some (H2.set os (some (.cells [I (Lz s (DV name (s.made+1))).2.cap,a2,b2,c2,d2,p2,I (s.made+1),I (Lz s (DV name (s.made+1))).2.armed,B (Lz s (DV name (s.made+1))).2.off]))):=oM hc2.obj (by simp) rfl;have hob:=hc2.obj;rw[emade]at hob;simp only[hd,yR,yY,zZ,Ak hob,e1,e3,AE,Ak h3'.obj];exact⟨by trivial,p2,⟨a2,b2,c2,d2,pv2,h3'⟩,f2.trans f3⟩
    ·have e:AZ s name true=((0,(Lz s (DV name (s.made+1))).1),(Lz s (DV name (s.made+1))).2):=by unfold AZ;rw[if_neg hn0,if_neg h16,if_pos hd]
     rw[e];simp only[hd,yT,zE];exact⟨by trivial,p2,h2,f2⟩
 ·have e:AZ s name make=(EP s name,s):=by unfold AZ;rw[if_pos (.inl h3)]
  rw[e];simp only[h3,yT,Ab8,show((true==false)=false)from rfl,BE,yV,As];exact⟨by trivial,p,h,.refl _ _ _⟩)
def DD (s:StS)(ino size:Int):Int×StS:=
 if(Ar s ino).2≠0 then((Ar s ino).2,s)else if Cl (Ar s ino).1 size=none then(5,s)else Lz s (Sq ino size)
theorem N8 {N:Nat}{s:StS}(h:SW N s)(ino size:Int):SW (N+1) (DD s ino size).2:=by
 unfold DD
 split
 ·exact h.mono (by omega)
 ·split
  ·exact h.mono (by omega)
  ·exact cK h (lR ino size)
theorem JI {N:Nat}{s:StS}(h:SW N s)(ino:Int):(Ar s ino).1.2.length≤N:=by
 unfold Ar
 split
 ·simp
 ·split
  ·rename_i hg
   obtain⟨d,hd,rfl⟩:=hg.2;rw[(Xr h.now.1 hd).1];exact h.now.2 d hd
  ·simp
abbrev An0:=@Option.isSome_none
theorem TK {N:Nat}{s:StS}{os:Nat}{p:AV}{H:AH}(h:StAt s os p H)(hw:SW N s)(hN:N<900000)(ino size:Int):
  ∃r H',(r=I (DD s ino size).1∧∃p',StAt (DD s ino size).2 os p' H'∧StF os p p' H H')∧BCall prog 19 [.ptr os 0,I ino,I size] H r H':=Lm (by
 unfold HT;obtain⟨R,hR,r,H1,⟨rfl,g1⟩,hc⟩:=NL h hw (by omega) ino;have hlen:=JI hw ino;refine bC_of hc ?_;unfold DD;generalize Ar s ino=ct at*;have oR:=SV.oneA hR;have h1:=h.grew g1;have g2:=Grew.app H1 [some (.cells [I ct.1.1,R])];have h2:=h1.grew g2;simp only[zL,Ab3,iF,zM,VW _ _ oR]
 by_cases hc0:ct.2=0
 ·simp only[hc0,zF,yY,Ak CI,tV,Ab]
  obtain⟨R2,hR2,hp⟩:=JR (size0:=ct.1.1) hR (by omega) size;refine A4 hp ?_;have oR2:=SV.oneA hR2;have g3:=Grew.app (H1++[some (AObj.cells [I ct.1.1,R])]) [some (.cells [I (cS (Cl (ct.1.1,ct.1.2) size)),R2])];have h3:=h2.grew g3;have ff:StF os p p H (H1++[some (AObj.cells [I ct.1.1,R])]++[some (.cells [I (cS (Cl (ct.1.1,ct.1.2) size)),R2])]):=.of_grew ((g1.trans g2).trans g3);simp only[zL,zX,iF,zM,VW _ _ oR2];cases ht:Cl (ct.1.1,ct.1.2) size with
  | none=>
   have ht':Cl ct.1 size=none:=ht;rw[ht]at h3 ff;simp only[An0,zA,ht',if_true];exact⟨by trivial,p,h3,ff⟩
  | some c2=>
   have ht':¬Cl ct.1 size=none:=by rw[show Cl ct.1 size=some c2 from ht];simp
   rw[ht]at h3 ff;have e2:FK [(I 0),(I 0),(I 0),(I 0),(B false),(.lit (.string ⟨#[]⟩)),(.lit (.string ⟨#[]⟩)),Ad] [(0,1,(I 3)),(1,1,I ino),(3,1,I size)]=some (.agg (DL (Sq ino size) Ad)):=rfl;simp only[Ai6,zB,ht',if_false,e2,Ab];obtain⟨r,H2,⟨rfl,p2,h4,f4⟩,hcall⟩:=sK (bv:=Ad) (o:=Sq ino size) h3 hw (by omega) SV.nil (lR ino size);exact bC_of hcall ⟨rfl,p2,h4,ff.trans f4⟩
 ·simp only[hc0,yT,Ab8]
  exact⟨by trivial,p,h2,.of_grew (g1.trans g2)⟩)
def OZ (s:StS)(ino pos n:Int):List UInt8×Int:=
 if(Ar s ino).2≠0 then([],(Ar s ino).2)else if pos<0∨n<0∨4096<n then([],5)else(HM (Ar s ino).1.1 (Ar s ino).1.2 pos n,0)
theorem FT {N:Nat}{s:StS}(h:SW N s){ino:Int}(h0:(Ar s ino).2=0):∃d∈s.now.2,d.ino=ino∧(Ar s ino).1=(d.size,d.l)∧s.off=false:=by
 unfold Ar at h0⊢;split at h0
 ·simp at h0
 ·rename_i h1
  split at h0
  ·rename_i hg
   obtain⟨d,hd,rfl⟩:=hg.2;rw[if_neg h1,if_pos hg,(Xr h.now.1 hd).1];exact⟨d,hd,rfl,rfl,by simpa using h1⟩
  ·simp at h0
abbrev zP:=And.intro @AK @As
abbrev Ab4:=And.intro @An @zP
theorem rC {N:Nat}{s:StS}{os:Nat}{p:AV}{H:AH}(h:StAt s os p H)(hw:SW N s)(hN:N<900000)(ino pos n:Int):
  ∃R,SV Je 1 (OZ s ino pos n).1 R∧∃r H',(r=.tup [R,I (OZ s ino pos n).2]∧Grew H H')∧BCall prog 61 [.ptr os 0,I ino,I pos,I n] H r H':=by
 obtain⟨R,hR,r,H1,⟨rfl,g1⟩,hc⟩:=NL h hw (by omega) ino;have hlen:=JI hw ino;have oR:=SV.oneA hR;have g2:=Grew.app H1 [some (.cells [I (Ar s ino).1.1,R])]
 by_cases hc0:(Ar s ino).2=0
 ·obtain⟨d,hd,hdi,hdc,hoff⟩:=FT hw hc0
  by_cases hb:pos<0∨n<0∨4096<n
  ·have e:OZ s ino pos n=([],5):=by unfold OZ;rw[if_neg (by rw[hc0];simp),if_pos hb]
   rw[e];refine⟨Ad,SV.nil,Fr ?_⟩;unfold Ff;refine bC_of hc ?_;simp only[zL,zO,iF,zM,VW _ _ oR,BL,hc0,yR,yY,AK];have done:True∧Grew H (H1++[some (AObj.cells [I (Ar s ino).1.1,R])]):=⟨trivial,g1.trans g2⟩
   by_cases c1:pos<0
   ·simp only[c1,Ab8,show((true==false)=false)from rfl,BE,yV,zP]
    exact done
   ·by_cases c2:n<0
    ·simp only[c1,C9,yS,zO,c2,Ab8,Ab4,show((true==false)=false)from rfl,BE]
     exact done
    ·have c3:4096<n:=by omega
     simp only[c1,C9,yS,zO,c2,Ab4,Hp,c3,zE];exact done
  ·have e:OZ s ino pos n=(HM (Ar s ino).1.1 (Ar s ino).1.2 pos n,0):=by unfold OZ;rw[if_neg (by rw[hc0];simp),if_neg hb]
   rw[e];have hmc:=hw.now.1.mc d hd;obtain⟨R2,hR2,hp⟩:=VF hR (by omega) pos n;refine⟨R2,hR2,Fr ?_⟩;unfold Ff;refine bC_of hc ?_;have c1:¬pos<0:=by omega
   have c2:¬n<0:=by omega
   have c3:¬4096<n:=by omega
   simp only[zL,zO,iF,zM,VW _ _ oR,BL,hc0,yR,yY,Ab4,c1,c2,Hp,c3,yS,Ak CI,tV];exact A4 hp ⟨rfl,g1.trans g2⟩
 ·have e:OZ s ino pos n=([],(Ar s ino).2):=by unfold OZ;rw[if_pos hc0]
  rw[e];refine⟨Ad,SV.nil,Fr ?_⟩;unfold Ff;refine bC_of hc ?_;simp only[zL,Ab3,iF,zM,VW _ _ oR,hc0,yT,zE];exact⟨by trivial,g1.trans g2⟩
theorem tK {N:Nat}{X:AH}{o:Nat}(hN:N≤o):(old N X)[o]?=X[o]?:=by
 unfold old;rw[Ac4 (by simpa using hN),List.length_replicate,Ad1,show N+(o - N)=o by omega]
theorem BCall.fzS {P:Program}{f:FuncId}{args:List AV}{H X:AH}{r:AV}{sz m:Nat}{cs:List AV}(h:BCall P f args H r X)(g:Grew H X)(hs:Aa X sz r=some (cs,m))(hi:∀i∈AU r,H.length≤i)(hn:A6 cs=true):
  ∃R,(noIds R=true∧∀H,Aa H sz R=some (cs,m))∧BCall P f args H R H:=by
 have hs2:Aa (old H.length X) sz r=some (cs,m):=Ae hs λi q=>tK (hi i q)
 obtain⟨R,n0,h1,h2,h3⟩:=RW hs2 hn;refine⟨R,⟨h1,h2⟩,ACalls.fzNew (R':=λr'=>r'=R) h ?_⟩;rintro r1 H1 ⟨rfl,rfl⟩;exact⟨g.1,g.2,n0,R,h3 n0 (Ac2 _),rfl⟩
theorem jR {H:AH}{v:AV}{l:List UInt8}(h:Aa H 1 v=some (AB l,l.length))(hl:l.length≤1000000000):∃R,SV Je 1 l R∧BCall prog 101 [v] H R H:=by
 obtain⟨r,X,⟨hs,g,hi⟩,hc⟩:=J1 (a0:=v) (H:=H) (K:=λr X=>Aa X 1 r=some (AB l,l.length)∧Grew H X∧∀i∈AU r,H.length≤i) (by
  unfold Ge;rcases LC h with⟨rfl,e1,e2⟩ | hb
  ·have e:V5 .eql On Ad Ad=some (B true):=rfl
   simp only[e,yV,Al];exact⟨h,Grew.refl H,by simp[AU]⟩
  ·simp only[hb,yV,Ag]
   have e:Cr H 1 0 (Be [u0Z] 0) []=some (.sl H.length 0 0 1 (.ex 0),H++[some (.cells [])]):=rfl;simp only[e,Az];have g:=Grew.app H [some (.cells [])];have h0:Aa (H++[some (.cells [])]) 1 (.sl H.length 0 0 1 (.ex 0))=some ([],0):=by simp[Aa]
   obtain⟨r,H2,a1,a2,a3,a4,a5,a6⟩:=CC (sz:=1) (bytes:=1) (H:=H++[some (.cells [])]) (v:=.sl H.length 0 0 1 (.ex 0)) (cs:=[]) (n:=0) h0 rfl (AI (g.slice h)) (by omega);simp only[a1,Az];refine⟨by simpa using a3,⟨by simp at a4;omega,λi hi=>?_⟩,λi hi=>?_⟩
   ·rw[a5 i (by simp;omega) (by simp[AU];omega)]
    exact g.2 i hi
   ·rcases a6 i hi with h | h
    ·simp[AU]at h;omega
    ·simp at h;omega)
 obtain⟨R,⟨h1,h2⟩,h3⟩:=BCall.fzS hc g hs hi (HJ _);exact⟨R,⟨h1,λH=>by rw[h2 H,IN]⟩,h3⟩
theorem oP:B4 prog 165=true:=by kernel_rfl
theorem sT (x:Ext)(no:Int):BPure prog 165 [.agg (Ax x),.ip [I no]] (B (decide (x.no=no))):=BPure.val (by simp[A6,noIds,ET]) rfl (Vu (by
 unfold Tl;have e1:AD [] (.agg (Ax x))=some (.ptr 0 0,[some (.cells (Ax x))]):=by simp
 have e2:(Ax x)[0]?=some (I x.no):=rfl;have e3:([some (.cells (Ax x))]:AH)[0]?=some (some (.cells (Ax x))):=rfl;simp only[e1,Az,zG,Ak e3,e2,Lv,CL,CX]
 try trivial))
theorem xF (x:Ext)(t:List AV):Ao true 9 (Ax x++t) 0=some (.agg (Ax x)):=by
 have:=A1 x
 simp only[Ao,if_true,Ac6,this,Ad9];rw[if_pos (by omega),Ad4 (by omega),Ac1 (by omega)]
abbrev zI:=And.intro @List.cons_append.{0} @List.nil_append.{0}
abbrev Ab6:=And.intro @Bool.true_or @TM
theorem kN {l:List Ext}{v:AV}(hv:SV Ax 9 l v)(hl:l.length≤281474976710656)(no:Int):∃j:Int,(0≤j↔Bb l no)∧BPure prog 167 [v,.fn (.func 165) [] [.ip [I no]]] (I j):=by
 have key:∃r X,(∃j:Int,r=I j∧(0≤j↔Bb l no))∧BCall prog 167 [v,.fn (.func 165) [] [.ip [I no]]] [] r X:=CU (by
  unfold Cp;simp only[hv.len,Ab];refine Cv (λn x0 x1 x7 x8 H'=>∃k:Nat,k+n=l.length∧x0=v∧x1=.fn (.func 165) [] [.ip [I no]]∧x7=I l.length∧x8=I k∧∀(m:Nat) y,m<k→l[m]?=some y→y.no≠no) ?_ l.length ⟨0,by omega,rfl,rfl,rfl,rfl,by omega⟩;rintro n x0 x1 x7 x8 H R hR ⟨k,hk,rfl,rfl,rfl,rfl,hb⟩;unfold BP;rcases Ac5 k l.length with h | h
  ·have hx:=DR h
   generalize l[k]=y at hx;have kI:(k:Int)<(l.length:Int):=by omega
   simp only[zO,kI,zE,hv.idx A1 hx rfl,Lv,xF,cB,oP,Ab6,zI];refine bC_of (sT y no H) ?_;simp only[Af]
   by_cases c:y.no=no
   ·simp only[c,zE]
    exact⟨k,rfl,by simp only[Int.natCast_nonneg,true_iff];exact⟨y,Ac3 hx,c⟩⟩
   ·simp only[c,yY,Aw (a:=k) (b:=1) (by omega) (by omega),Ab]
    refine hR (n - 1) _ _ _ _ _ (by omega) ⟨k+1,by omega,rfl,rfl,rfl,by simp,?_⟩;intro m z hm hz
    by_cases e:m=k
    ·rw[e,hx]at hz;injection hz with hz;rw[← hz];exact c
    ·exact hb m z (by omega) hz
  ·have kI:¬(k:Int)<(l.length:Int):=by omega
   simp only[zO,kI,yY];refine⟨-1,rfl,by simp only[show ¬(0:Int)≤-1 by omega,false_iff];rintro⟨y,hy,e⟩;obtain⟨m,hm⟩:=Ad6.1 hy;exact hb m y (by have:=(BD.1 hm).1;omega) hm e⟩)
 obtain⟨r,X,⟨j,rfl,hj⟩,hc⟩:=key;exact⟨j,hj,BPure.val (by simp[A6,noIds,hv.1]) rfl ⟨_,_,rfl,hc⟩⟩
theorem Z5 {l:List Ext}{v:AV}(hv:SV Ax 9 l v)(hl:l.length≤281474976710656)(no:Int):BPure prog 164 [v,.fn (.func 165) [] [.ip [I no]]] (B (decide (Bb l no))):=by
 obtain⟨j,hj,hp⟩:=kN hv hl no;refine BPure.flat λH=>EG ?_
 unfold CQ;refine A4 hp ?_;simp only[I3,Ab];exact⟨by congr 3;exact propext hj,by trivial⟩
theorem wO {size:Int}{l:List Ext}{v:AV}(hv:SV Ax 9 l v)(hl:l.length≤281474976710656)(no:Int):BPure prog 100 [.agg [I size,v],I no] (B (decide (Bb l no))):=BPure.val (by simp[A6,noIds,hv.1]) rfl (XF (by
 have ov:=SV.oneA hv;unfold WH;have e1:AD [] (.agg [I size,v])=some (.ptr 0 0,[some (.cells [I size,v])]):=by simp[ov]
 have e2:AD [some (.cells [I size,v])] (I no)=some (.ptr 1 0,[some (.cells [I size,v]),some (.cells [I no])]):=rfl;have e3:([some (.cells [I size,v]),some (.cells [I no])]:AH)[0]?=some (some (.cells [I size,v])):=rfl;simp only[e1,Az,e2,zJ,Ak e3]
 have hf:FZs [some (.cells [I size,v]),some (.cells [I no])] [v,.fn (.func 165) [] [.ptr 1 0]] [v,.fn (.func 165) [] [.ip [I no]]]:=by
  refine FZs.cons (FZ.same hv.1) (FZs.cons ⟨3,λn hn=>?_⟩ FZs.nil);obtain⟨n,rfl⟩:∃m,n=m+3:=⟨n - 3,by omega⟩;rfl
 refine bP_of (PCall.lend hf rfl (Z5 hv hl no)) ?_
 try trivial))
theorem cJ:∀{f:Nat} {p n:Int} {q:Sp},0≤p→q∈BU f p n 8→p≤q.pos∧0<q.len∧q.len≤8∧q.pos+q.len≤p+n
 | 0,p,n,q,_,h=>by simp[BU]at h
 | f+1,p,n,q,hp,h=>by
  unfold BU at h;split at h
  ·rename_i hn
   have h1:=Aj2 p (show(0:Int)<8 by omega);have h2:=Ak4 p (show(8:Int)≠0 by omega);rcases Ad5.1 h with rfl | h
   ·simp only;omega
   ·have:=cJ (by omega) h
    omega
  ·simp at h
def If (ino pos:Int)(b:List UInt8):OpM:=⟨2,ino,pos,0,false,[],[],b⟩
theorem aM {ino pos:Int}{b:List UInt8}(h:b.length≤8):iM (If ino pos b):=⟨by show b.length≤_;omega,by simp[If],by simp[If]⟩
def DI (b:List UInt8)(pos:Int)(q:Sp):List UInt8:=(b.drop (q.pos - pos).toNat).take q.len.toNat
def Pf (c:List Ext)(ino pos:Int)(b:List UInt8):List Sp→StS→(Int×Int)×StS
 | [],s=>((b.length,0),s)
 | q::r,s=>
  if ¬Bb c (q.pos/8)∧LX s=0 then((q.pos - pos,4),s)
  else if(Lz s (If ino q.pos (DI b pos q))).1≠0 then((q.pos - pos,(Lz s (If ino q.pos (DI b pos q))).1),(Lz s (If ino q.pos (DI b pos q))).2)
  else Pf c ino pos b r (Lz s (If ino q.pos (DI b pos q))).2
def Wp (pos:Int)(n:Nat):Prop:=0≤pos∧n≤4096∧pos≤1099511627776 - n
instance (pos:Int) (n:Nat):Decidable (Wp pos n):=by unfold Wp;infer_instance
def BI (s:StS)(ino pos:Int)(b:List UInt8):(Int×Int)×StS:=
 if(Ar s ino).2≠0 then((0,(Ar s ino).2),s)else if ¬Wp pos b.length then((0,5),s)
 else Pf (Ar s ino).1.2 ino pos b (Dx ⟨pos,b.length⟩ 8) s
theorem Vh {pos:Int}{b:List UInt8}{q:Sp}(hf:Wp pos b.length)(h:q∈Dx ⟨pos,b.length⟩ 8):pos≤q.pos∧0<q.len∧q.len≤8∧q.pos+q.len≤pos+b.length:=by
 unfold Dx at h;split at h
 ·exact cJ hf.1 h
 ·simp at h
theorem W7 {b:List UInt8}{pos:Int}{q:Sp}(h:pos≤q.pos∧0<q.len∧q.len≤8∧q.pos+q.len≤pos+b.length):(DI b pos q).length=q.len.toNat:=by
 unfold DI;rw[Ac0,Ac7];omega
theorem qT {c:List Ext}{ino pos:Int}{b:List UInt8}:∀{l:List Sp} {N:Nat} {s:StS},(∀q∈l,pos≤q.pos∧0<q.len∧q.len≤8∧q.pos+q.len≤pos+b.length)→SW N s→SW (N+9*l.length) (Pf c ino pos b l s).2
 | [],N,s,_,h=>h
 | q::r,N,s,hq,h=>by
  have h1:=hq q (by simp);have hl:=W7 h1;have hd:=cK (o:=If ino q.pos (DI b pos q)) h (aM (by omega))
  have hwt:wt (If ino q.pos (DI b pos q))≤9:=by
   show 1+(DI b pos q).length+(if(2:Int)=4 then 4098 else 0)≤9
   rw[if_neg (by omega)];omega
  unfold Pf;simp only[Ad7]
  split
  ·exact h.mono (by omega)
  ·split
   ·exact hd.mono (by omega)
   ·exact(qT (λx hx=>hq x (by simp[hx])) hd).mono (by omega)
theorem W8 {pos:Int}{b:List UInt8}(hf:Wp pos b.length):(Dx ⟨pos,b.length⟩ 8).length≤b.length:=by
 unfold Dx
 split
 ·have:∀(f:Nat) (p n:Int),(BU f p n 8).length≤f:=by
   intro f
   induction f with
   | zero=>intro p n;simp[BU]
   | succ f ih=>
    intro p n;unfold BU
    split
    ·simp only[Ad7];have:=ih (p+min n (8 - p % 8)) (n - min n (8 - p % 8));omega
    ·simp
  have h2:=this (b.length:Int).toNat pos b.length;have e:((b.length:Int)).toNat=b.length:=by omega
  simp only;omega
 ·simp
theorem Ro {N:Nat}{s:StS}(h:SW N s)(ino pos:Int)(b:List UInt8):SW (N+9*b.length) (BI s ino pos b).2:=by
 unfold BI
 split
 ·exact h.mono (by omega)
 ·split
  ·exact h.mono (by omega)
  ·rename_i hf
   have hf:=Af2 hf;exact(qT (λq hq=>Vh hf hq) h).mono (by have:=W8 hf;omega)
theorem WO {N:Nat}{s:StS}{os:Nat}{p v:AV}{H:AH}(h:StAt s os p H)(hw:SW N s)(ino pos:Int){b:List UInt8}(hN:N+9*b.length<900000)(hv:Aa H 1 v=some (AB b,b.length))(hvi:∀j∈AU v,j≠os∧j∉AU p):
  ∃r H',(r=.tup [I (BI s ino pos b).1.1,I (BI s ino pos b).1.2]∧∃p',StAt (BI s ino pos b).2 os p' H'∧StF os p p' H H')∧BCall prog 44 [.ptr os 0,I ino,I pos,v] H r H':=N4 (by
 unfold Kh;obtain⟨R,hR,r,H1,⟨rfl,g1⟩,hc⟩:=NL h hw (by omega) ino;have hlen:=JI hw ino;refine bC_of hc ?_;unfold BI;generalize Ar s ino=ct at*;have oR:=SV.oneA hR;have h1:=h.grew g1;have g2:=Grew.app H1 [some (.cells [I ct.1.1,R])];have h2:=h1.grew g2;have hv2:=g2.slice (g1.slice hv);have alv:Ba v=some (I b.length):=By hv;simp only[zL,Ab3,iF,zM,VW _ _ oR]
 by_cases hc0:ct.2=0
 ·simp only[hc0,zF,yY,alv,Ab]
  refine A4 (OF pos b.length (by omega)) ?_
  by_cases hf:Wp pos b.length
  ·have hf':0≤pos∧b.length≤4096∧pos≤1099511627776 - b.length:=hf
   have e1:FK [(I 0),(I 0)] [(0,1,I pos),(1,1,I (b.length:Int))]=some (.agg (Cd ⟨pos,b.length⟩)):=rfl;simp only[hf,hf',and_self,CA,zX,zB,zR,alv,e1];obtain⟨V,hV,hp⟩:=Tb ⟨pos,b.length⟩ (unit:=8) (by omega);refine A4 hp ?_;simp only[hV.len,Ab];have hin:∀q∈Dx ⟨pos,b.length⟩ 8,pos≤q.pos∧0<q.len∧q.len≤8∧q.pos+q.len≤pos+b.length:=λq hq=>Vh hf hq
   have hpl:=W8 hf;generalize Dx ⟨pos,b.length⟩ 8=L at hV hin hpl;have c0:(H1++[some (AObj.cells [I ct.1.1,R])])[H1.length]?=some (some (.cells [I ct.1.1,R])):=CI;have f0:StF os p p H (H1++[some (AObj.cells [I ct.1.1,R])]):=.of_grew (g1.trans g2);have hosH:os<H.length:=by obtain⟨a,b',c,d,pv,hx⟩:=h;exact hx.lt
   have hpH:∀j∈AU p,j<H.length:=by obtain⟨a,b',c,d,pv,hx⟩:=h;exact RZ hx
   have hvH:∀j∈AU v,j<H.length:=λj q=>A3 hv j q
   have hH1:H.length≤H1.length:=g1.1;refine JC (λm x0 x1 x2 x3 x10 x36 x37 x38 H'=>∃(k:Nat) (s':StS) (p':AV),k+m=L.length∧x0=.ptr os 0∧x1=I ino∧x2=I pos∧x3=v∧x10=.ptr H1.length 0∧x36=V∧x37=I L.length∧x38=I k∧StAt s' os p' H'∧StF os p p' H H'∧SW (N+9*k) s'∧H'[H1.length]?=some (some (.cells [I ct.1.1,R]))∧H1.length∉AU p'∧Pf ct.1.2 ino pos b (L.drop k) s'=Pf ct.1.2 ino pos b L s) ?_ L.length ⟨0,s,p,by omega,rfl,rfl,rfl,rfl,rfl,rfl,rfl,rfl,h2,f0,hw,c0,λq=>by have:=hpH _ q;omega,rfl⟩;rintro m x0 x1 x2 x3 x10 x36 x37 x38 H2 R2 hR2 ⟨k,s',p',hk,rfl,rfl,rfl,rfl,rfl,rfl,rfl,rfl,hs',fs',hws',cc,hcp,heq⟩;rw[← heq];unfold GE;rcases Ac5 k L.length with hlt | hge
   ·have hx:=DR hlt
    have hq:=hin L[k] (List.getElem_mem hlt);generalize L[k]=q at hx hq;obtain⟨q1,q2,q3,q4⟩:=hq;have kI:(k:Int)<(L.length:Int):=by omega
    have hdrop:L.drop k=q::L.drop (k+1):=D0 hx;rw[hdrop];generalize hW:Pf ct.1.2 ino pos b (q::L.drop (k+1)) s'=W;have rdq:Ao true 2 (Cd q++(L.drop (k+1)).flatMap Cd) 0=some (.agg (Cd q)):=by simp[Ao,Cd]
    have eA:(AV.agg (Cd q))=.agg [I q.pos,I q.len]:=rfl;have n2:AD H2 (.agg [(I 0),(I 0)])=some (.ptr H2.length 0,H2++[some (.cells [I 0,I 0])]):=by simp
    have t2:AT 2 (H2++[some (.cells [I 0,I 0])]) (.ptr H2.length 0) (.agg [I q.pos,I q.len])=some (H2++[some (.cells [I q.pos,I q.len])]):=by
     rw[AC (n:=2) (xs:=[I q.pos,I q.len]) (cs:=[I 0,I 0]) rfl (by simp) rfl (by simp)];simp[AR]
    have g3:=Grew.app H2 [some (.cells [I q.pos,I q.len])];have e2:Ap .sub (I q.pos) (I pos)=some (I (q.pos - pos)):=BM (by omega) (by omega);have e3:Ap .quo (I q.pos) (I 8)=some (I (q.pos/8)):=I4 (by omega) (by omega) (by omega);simp only[AN,zJ,Af,kI,zE,hV.idx Wn hx rfl,Lv,rdq,eA,n2,zM,t2,Ak CI,e2,Ak (g3.cells cc),tV,e3];refine A4 (wO hR (by omega) (q.pos/8)) ?_;have hs3:=hs'.grew g3;have fs3:StF os p p' H (H2++[some (.cells [I q.pos,I q.len])]):=fs'.grew g3;have cc3:=g3.cells cc;have tq:(H2++[some (AObj.cells [I q.pos,I q.len])])[H2.length]?=some (some (.cells [I q.pos,I q.len])):=CI;have hl3:H2.length+1=(H2++[some (AObj.cells [I q.pos,I q.len])]).length:=by simp
    have hpid:∀j∈AU p',j<H2.length:=by obtain⟨a,b',c,d,pv,hx⟩:=hs';exact RZ hx
    have hos2:os<H2.length:=by obtain⟨a,b',c,d,pv,hx⟩:=hs';exact hx.lt
    have hcl2:H1.length<H2.length:=(BD.1 cc).1;generalize (H2++[some (AObj.cells [I q.pos,I q.len])])=H3 at hs3 fs3 cc3 tq hl3
    -- the deed
    have deed:¬(¬Bb ct.1.2 (q.pos/8)∧LX s'=0)→bO (Ac 0 (.ptr H2.length 0)) (λv25=>bO (Au false 1 H3 v25) λv26=>bO (Ac 1 (.ptr H2.length 0)) λv27=>bO (Au false 1 H3 v27) λv28=>bO (Ap .add (I (q.pos - pos)) v28) λv29=>bO (AX 1 x3 (some (I (q.pos - pos))) (some v29) none) λv30=>
      bC (BCall prog 101 [v30] H3) λv31 H32=>bO (FK [(I 0),(I 0),(I 0),(I 0),(B false),(.lit (.string ⟨#[]⟩)),(.lit (.string ⟨#[]⟩)),Ad] [(0,1,(I 2)),(1,1,I ino),(2,1,v26),(7,1,v31)]) λv33=>
      bC (BCall prog 48 [.ptr os 0,v33] H32) λv34 H35=>(Au false 1 H32 v25=some v26)∧bO (Ap .neq v34 (I 0)) λv36=>bB v36 λt37=>bI t37
       (AV.tup [I (q.pos - pos),v34]=.tup [I W.1.1,I W.1.2]∧
        ∃p',StAt W.2 os p' H35∧StF os p p' H H35)
       (bO (Ap .add (I k) (I 1)) λv38=>R2 [.ptr os 0,I ino,I pos,x3,.ptr H1.length 0,x36,I L.length,v38] H35)):=by
     intro hno;have e4:Ap .add (I (q.pos - pos)) (I q.len)=some (I (q.pos - pos+q.len)):=Aw (by omega) (by omega)
     have hv3:Aa H3 1 x3=some (AB b,b.length):=Ae hv λj hj=>by
      have hne:=hvi j hj;exact fs3.same j (hvH j hj) hne.1 hne.2
     obtain⟨r5,s1,s2,s3,-⟩:=E3 hv3 (lo:=some (I (q.pos - pos))) (hi:=some (I (q.pos - pos+q.len))) (l:=(q.pos - pos).toNat) (k:=(q.pos - pos+q.len).toNat) (by simp only[Bs];rw[if_pos (by omega)]) (by simp only[Bs];rw[if_pos (by omega)]) (by omega) (by omega);have hpl2:=W7 (b:=b) (pos:=pos) (q:=q) ⟨q1,q2,q3,q4⟩
     have s2':Aa H3 1 r5=some (AB (DI b pos q),(DI b pos q).length):=by
      rw[s2,hpl2];unfold DI;rw[Ah5,Ah5,show(q.pos - pos+q.len).toNat - (q.pos - pos).toNat=q.len.toNat by omega];simp[AB,An5,Ao7]
     obtain⟨Rb,hRb,hcb⟩:=jR s2' (by omega);simp only[zJ,Ak tq,e4,s1];refine bC_of hcb ?_
     have e5:FK [(I 0),(I 0),(I 0),(I 0),(B false),(.lit (.string ⟨#[]⟩)),(.lit (.string ⟨#[]⟩)),Ad] [(0,1,(I 2)),(1,1,I ino),(2,1,I q.pos),(7,1,Rb)]=some (.agg (DL (If ino q.pos (DI b pos q)) Rb)):=by
      have:=SV.oneA hRb
      simp[FK,DL,If,AS this];rfl
     simp only[e5,Ab];obtain⟨r6,H6,⟨rfl,p6,h6,f6⟩,hcall⟩:=sK (o:=If ino q.pos (DI b pos q)) hs3 hws' (by omega) hRb (aM (by omega));have hws6:=cK (o:=If ino q.pos (DI b pos q)) hws' (aM (by omega));refine bC_of hcall ⟨by rw[Ak tq];rfl,?_⟩;simp only[Ab3]
     by_cases hd:(Lz s' (If ino q.pos (DI b pos q))).1=0
     ·simp only[hd,yR,yY,Aw (a:=k) (b:=1) (by omega) (by omega),Ab]
      have hwt:wt (If ino q.pos (DI b pos q))≤9:=by
       show 1+(DI b pos q).length+(if(2:Int)=4 then 4098 else 0)≤9
       rw[if_neg (by omega)];omega
      refine hR2 (m - 1) _ _ _ _ _ _ _ _ _ (by omega) ⟨k+1,_,p6,by omega,rfl,rfl,rfl,rfl,rfl,rfl,rfl,by simp,h6,fs3.trans f6,hws6.mono (by omega),?_,?_,?_⟩
      ·rw[f6.same H1.length (by omega) (by omega) hcp];exact cc3
      ·intro hh
       rcases f6.ids _ hh with hh | hh
       ·exact hcp hh
       ·omega
      ·rw[← heq,hdrop]
       conv=>rhs;unfold Pf
       rw[if_neg hno,if_neg (by rw[hd];simp)]
     ·have eW:W=((q.pos - pos,(Lz s' (If ino q.pos (DI b pos q))).1),(Lz s' (If ino q.pos (DI b pos q))).2):=by
       rw[← hW];unfold Pf;rw[if_neg hno,if_pos hd]
      rw[eW];simp only[hd,yT,zE];exact⟨by trivial,p6,h6,fs3.trans f6⟩
    by_cases hh:Bb ct.1.2 (q.pos/8)
    ·simp only[hh,CA,zX,zB,Ab4,show((false==true)=false)from rfl,BE,KN]
     exact deed (λx=>x.1 hh)
    ·simp only[hh,C9,Bp,Bool.not_false,Ab,AK,yS,TN]
     refine bC_of (qY hs3 hws' (by omega)) ?_;simp only[CX,yV,As,if_true]
     by_cases hfr:LX s'=0
     ·have eW:W=((q.pos - pos,4),s'):=by
       rw[← hW];unfold Pf;rw[if_pos ⟨hh,hfr⟩]
      rw[eW];simp only[hfr,zE];exact⟨by trivial,p',hs3,fs3⟩
     ·simp only[hfr,yY]
      exact deed (λx=>hfr x.2)
   ·have kI:¬(k:Int)<(L.length:Int):=by omega
    have hdrop:L.drop k=[]:=Ad2 hge;rw[hdrop];unfold Pf;simp only[zO,kI,yY,alv];exact⟨by trivial,p',hs',fs'⟩
  ·have hf':¬(0≤pos∧b.length≤4096∧pos≤1099511627776 - b.length):=hf
   simp only[hf,hf',C9,zX,zA,not_false_eq_true,if_true];exact⟨by trivial,p,h2,.of_grew (g1.trans g2)⟩
 ·simp only[hc0,yT,Ab8]
  exact⟨by trivial,p,h2,.of_grew (g1.trans g2)⟩)
def U4 (i:Int):List AV:=[I i]
theorem kH (i:Int):(U4 i).length=1:=rfl
theorem YZ (l:List Int):A6 (l.flatMap U4)=true:=De λx _=>rfl
theorem xG (x:Int)(t:List AV):Ao false 1 (U4 x++t) 0=some (I x):=rfl
theorem sV {l:List Int}{v:AV}(hv:SV U4 1 l v)(hl:l.length≤281474976710656)(no:Int):∃j:Int,(0≤j↔no∈l)∧BPure prog 185 [v,I no] (I j):=by
 have key:∃r X,(∃j:Int,r=I j∧(0≤j↔no∈l))∧BCall prog 185 [v,I no] [] r X:=Kt (by
  unfold GW;simp only[hv.len,Ab];refine HQ (λn x0 x1 x7 x8 H'=>∃k:Nat,k+n=l.length∧x0=v∧x1=I no∧x7=I l.length∧x8=I k∧∀(m:Nat) y,m<k→l[m]?=some y→no≠y) ?_ l.length ⟨0,by omega,rfl,rfl,rfl,rfl,by omega⟩;rintro n x0 x1 x7 x8 H R hR ⟨k,hk,rfl,rfl,rfl,rfl,hb⟩;unfold EZ;rcases Ac5 k l.length with h | h
  ·have hx:=DR h
   generalize l[k]=y at hx;have kI:(k:Int)<(l.length:Int):=by omega
   simp only[zO,kI,zE,hv.idx kH hx rfl,Lv,xG,CX]
   by_cases c:no=y
   ·simp only[c,zE]
    exact⟨k,rfl,by simp only[Int.natCast_nonneg,true_iff];exact Ac3 hx⟩
   ·simp only[c,yY,Aw (a:=k) (b:=1) (by omega) (by omega),Ab]
    refine hR (n - 1) _ _ _ _ _ (by omega) ⟨k+1,by omega,rfl,rfl,rfl,by simp,?_⟩;intro m z hm hz
    by_cases e:m=k
    ·rw[e,hx]at hz;injection hz with hz;rw[← hz];exact c
    ·exact hb m z (by omega) hz
  ·have kI:¬(k:Int)<(l.length:Int):=by omega
   simp only[zO,kI,yY];refine⟨-1,rfl,by simp only[show ¬(0:Int)≤-1 by omega,false_iff];intro hy;obtain⟨m,hm⟩:=Ad6.1 hy;exact hb m no (by have:=(BD.1 hm).1;omega) hm rfl⟩)
 obtain⟨r,X,⟨j,rfl,hj⟩,hc⟩:=key;exact⟨j,hj,BPure.val (by simp[A6,noIds,hv.1]) rfl ⟨_,_,rfl,hc⟩⟩
theorem XO {l:List Int}{v:AV}(hv:SV U4 1 l v)(hl:l.length≤281474976710656)(no:Int):BPure prog 151 [v,I no] (B (decide (no∈l))):=by
 obtain⟨j,hj,hp⟩:=sV hv hl no;refine BPure.val (by simp[A6,noIds,hv.1]) rfl (IH ?_);unfold F4;refine A4 hp ?_;simp only[I3,Ab]
 congr 3;exact propext hj
def Sz (l:List Int)(o:OpM):Prop:=o.kind=1∨o.kind=6∨o.kind=7∨o.ino∈l
instance (l:List Int) (o:OpM):Decidable (Sz l o):=by unfold Sz;infer_instance
theorem pV {o:OpM}{bv:AV}(hb:SV Je 1 o.b bv){l:List Int}{v:AV}(hv:SV U4 1 l v)(hl:l.length≤281474976710656):BPure prog 81 [.agg (DL o bv),v] (B (decide (Sz l o))):=by
 have obv:=SV.oneA hb;have e1:AD [] (.agg (DL o bv))=some (.ptr 0 0,[some (.cells (DL o bv))]):=by simp[DL,obv]
 have e0:([some (.cells (DL o bv))]:AH)[0]?=some (some (.cells (DL o bv))):=rfl;have i0:(DL o bv)[0]?=some (I o.kind):=rfl;have i1:(DL o bv)[1]?=some (I o.ino):=rfl;refine BPure.val (by simp[A6,noIds,hv.1,hb.1,DL]) rfl (Vv ?_);unfold Tm;simp only[e1,Az,zG,Ak e0,i0,CX,Af]
 have last:∀c:Prop,∀_ :Decidable c,J3 v (.ptr 0 0) [some (.cells (DL o bv))] (λr H=>r=B (decide (o.ino∈l))):=by
  intro c _;rw[Rj];unfold Lp;simp only[zG,Ak e0,i1];exact A4 (XO hv hl o.ino) rfl
 unfold Sz
 by_cases c1:o.kind=1
 ·simp only[c1,zE,true_or]
  rw[GH];unfold Fg;simp only[Af,Al]
  try trivial
 ·simp only[c1,yY,false_or]
  by_cases c6:o.kind=6
  ·simp only[c6,zE,true_or]
   rw[GH];unfold Fg;simp only[Af,Al]
   try trivial
  ·simp only[c6,yY,false_or]
   rw[GH];unfold Fg
   by_cases c7:o.kind=7
   ·simp only[c7,zE,Af,true_or]
    try trivial
   ·simp only[c7,yY,Af,false_or]
    exact last True inferInstance
def J4 (l:List Int):List OpM→bJ×List OpM→bJ×List OpM
 | [],x=>x
 | o::r,x=>if Sz l o then J4 l r (B8 x.1.1 x.1.2 o,x.2)else J4 l r (x.1,x.2++[o])
def Pb (s:StS)(l:List Int):Int×StS:=
 if(Bc s).1=true then(0,{(Bc s).2 with kept:=(J4 l s.pend (s.kept,[])).1,pend:=(J4 l s.pend (s.kept,[])).2})else(8,(Bc s).2)
theorem XI {l:List Int}{N:Nat}:∀{r:List OpM} {x:bJ×List OpM},(∃a,Few1 a x.1∧a+TJ x.2+TJ r≤N)→(∃a,Few1 a (J4 l r x).1∧a+TJ (J4 l r x).2≤N)
 | [],x,⟨a,h1,h2⟩=>⟨a,h1,by simp only[J4];omega⟩
 | o::r,x,⟨a,h1,h2⟩=>by
  have e:TJ (o::r)=wt o+TJ r:=by simp[TJ]
  unfold J4
  split
  ·exact XI ⟨a+wt o,h1.step o,by simp only;omega⟩
  ·exact XI ⟨a,h1,by simp only[V4];omega⟩
theorem XH {l:List Int}:∀{r:List OpM} {x:bJ×List OpM},(∀o∈x.2,iM o)→(∀o∈r,iM o)→∀o∈(J4 l r x).2,iM o
 | [],x,h1,h2,o,ho=>h1 o ho
 | q::r,x,h1,h2,o,ho=>by
  unfold J4 at ho;split at ho
  ·exact XH (x:=(B8 x.1.1 x.1.2 q,x.2)) h1 (λz hz=>h2 z (by simp[hz])) o ho
  ·refine XH (x:=(x.1,x.2++[q])) ?_ (λz hz=>h2 z (by simp[hz])) o ho
   intro z hz;simp only[zH]at hz;rcases hz with hz | rfl
   ·exact h1 z hz
   ·exact h2 _ (by simp)
theorem pW {N:Nat}{s:StS}(h:SW N s)(l:List Int):SW N (Pb s l).2:=by
 have hd:=Xo h;obtain⟨e1,e2,e3,e4,e5⟩:=GZ s;unfold Pb
 split
 ·refine⟨by simp only[e1];exact h.now,?_,?_,hd.made,hd.cap,hd.armed⟩
  ·obtain⟨a,h1,h2⟩:=h.kept
   exact XI ⟨a,h1,by simp only[TJ,List.map_nil,List.sum_nil];unfold TJ at h2;omega⟩
  ·exact XH (x:=(s.kept,[])) (by simp) h.ob
 ·exact hd
theorem rD {N:Nat}{s:StS}{os:Nat}{p v:AV}{H:AH}(h:StAt s os p H)(hw:SW N s)(hN:N≤900000){l:List Int}(hv:Aa H 1 v=some (l.flatMap U4,l.length))(hvi:∀j∈AU v,j≠os∧j∉AU p)(hl:l.length≤1000000):
  ∃r H',(r=I (Pb s l).1∧∃p',StAt (Pb s l).2 os p' H'∧StF os p p' H H')∧BCall prog 37 [.ptr os 0,v] H r H':=O0 (by
 unfold Ll;obtain⟨r,H1,⟨rfl,h1,f1⟩,hc⟩:=kB h hw.armed;refine bC_of hc ?_;obtain⟨e1,e2,e3,e4,e5⟩:=GZ s;have hwd:=Xo hw;have hpl:(Bc s).2.pend.length≤N:=by rw[e3];exact hw.plen
 have hob:∀o∈(Bc s).2.pend,iM o:=by rw[e3];exact hw.ob
 have hkw:∃a,Few1 a (Bc s).2.kept∧a+TJ (Bc s).2.pend≤N:=by rw[e2,e3];exact hw.kept
 unfold Pb;rw[← e2,← e3];simp only[zX];cases hd:(Bc s).1 with
 | false=>
  simp only[zA,An];exact⟨by trivial,p,h1,f1⟩
 | true=>
  have hv1:Aa H1 1 v=some (l.flatMap U4,l.length):=Ae hv λj hj=>f1.same j (A3 hv j hj) (hvi j hj).1 (hvi j hj).2
  clear e1 e2 e3 e4 e5 hc;generalize (Bc s).2=s1 at*;simp only[if_true];obtain⟨a,b,c,d,pv,h1⟩:=h1;have hpn:pv.length=s1.pend.length:=by rw[← h1.pm,Ae9]
  have alv:Ba p=some (I (s1.pend.length:Nat)):=by rw[← hpn];exact By h1.ps
  simp only[zB,zZ,Ak h1.obj,alv];have hos:os<H1.length:=h1.lt;have hH:H.length≤H1.length:=f1.len;generalize hres:J4 l s1.pend (s1.kept,[])=res;refine Ku (λm x0 x1 x5 x14 x15 x16 H'=>∃(k:Nat) (ki:bJ) (c' d':AV) (lv:List OpV),k+m=s1.pend.length∧x0=.ptr os 0∧x1=v∧x14=p∧x15=I s1.pend.length∧x16=I k∧StC {s1 with kept:=ki} os a b c' d' p pv H'∧StF os p p H1 H'∧J4 l (s1.pend.drop k) (ki,lv.map OpV.o)=res∧(∃a,Few1 a ki∧a+TJ (lv.map OpV.o)+TJ (s1.pend.drop k)≤N)∧Aa H' 8 x5=some (lv.flatMap Mp,lv.length)∧AP x5=true∧Cm x5 lv.length∧(∀j∈AU x5,H1.length≤j)) ?_ s1.pend.length ⟨0,s1.kept,c,d,[],by omega,rfl,rfl,rfl,rfl,rfl,h1,.refl _ _ _,hres,by obtain⟨x,y,z⟩:=hkw;exact⟨x,y,by simp only[Aa7];simp only[TJ,List.map_nil,List.sum_nil]at*;omega⟩,rfl,rfl,by simp[Cm],by simp[AU]⟩;rintro m x0 x1 x5 x14 x15 x16 H2 R hR ⟨k,ki,c',d',lv,hk,rfl,rfl,rfl,rfl,rfl,h2,f2,hsy,hfew,ls,lo,lc,li⟩
  have lvN:lv.length≤N:=by
   obtain⟨x,-,y⟩:=hfew
   have:=dV (l:=lv.map OpV.o)
   rw[Ae9]at this;omega
  unfold GX;rcases Ac5 k s1.pend.length with hlt | hge
  ·have hx:=DR (show k<pv.length by omega)
   generalize pv[k]'(by omega)=x at hx;have hxo : s1.pend[k]? = some x.o:=by rw [← h1.pm,Ae7,hx]; rfl
   have hdrop:s1.pend.drop k=x.o::s1.pend.drop (k+1):=D0 hxo;have hxb:=hob x.o (Ac3 hxo);rw[hdrop]at hsy hfew;have ox:=SV.oneA x.h;have kI:(k:Int)<(s1.pend.length:Int):=by omega
   obtain⟨pp,q1,q2⟩:=wY h2.ps hx;have n8:AD H2 (.agg [(I 0),(I 0),(I 0),(I 0),(B false),(.lit (.string ⟨#[]⟩)),(.lit (.string ⟨#[]⟩)),Ad])=some (.ptr H2.length 0,H2++[some (.cells [I 0,I 0,I 0,I 0,B false,S ⟨#[]⟩,S ⟨#[]⟩,Ad])]):=by simp
   have t8:AT 8 (H2++[some (.cells [I 0,I 0,I 0,I 0,B false,S ⟨#[]⟩,S ⟨#[]⟩,Ad])]) (.ptr H2.length 0) (.agg (DL x.o x.bv))=some (H2++[some (.cells (DL x.o x.bv))]):=by
    rw[AC (n:=8) (xs:=DL x.o x.bv) (cs:=[I 0,I 0,I 0,I 0,B false,S ⟨#[]⟩,S ⟨#[]⟩,Ad]) (by simp[DL,ox]) (by simp) rfl (by simp)];simp[AR,DL]
   have g3:=Grew.app H2 [some (.cells (DL x.o x.bv))];have rd8:Ao true 8 (DL x.o x.bv) 0=some (.agg (DL x.o x.bv)):=rfl;have h3:=h2.grew g3;have f3:StF os x14 x14 H1 (H2++[some (AObj.cells (DL x.o x.bv))]):=f2.grew g3;have hl2:=f2.len
   have hv3:Aa (H2++[some (AObj.cells (DL x.o x.bv))]) 1 x1=some (l.flatMap U4,l.length):=Ae hv λj hj=>by
    have:=A3 hv j hj
    rw[f3.same j (by omega) (hvi j hj).1 (hvi j hj).2,f1.same j this (hvi j hj).1 (hvi j hj).2]
   obtain⟨Rv,hRv,fRv⟩:=FZ.sv hv3 (YZ l);have ls3:=g3.slice ls;have sm:Sm ki.1 ki.2:=by obtain⟨x,y,z⟩:=hfew;exact y.sm (by omega)
   simp only[zO,kI,zE,q1,q2,n8,zM,t8,Ak CI,rd8];refine bP_of (PCall.lend (FZs.cons (FZ.same (by simp[noIds,DL,A6,x.h.1])) (FZs.cons fRv FZs.nil)) rfl (pV x.h hRv (by omega))) ?_;have topx:(H2++[some (AObj.cells (DL x.o x.bv))])[H2.length]?=some (some (.cells (DL x.o x.bv))):=CI;have hl3:(H2++[some (AObj.cells (DL x.o x.bv))]).length=H2.length+1:=by simp
   generalize (H2++[some (AObj.cells (DL x.o x.bv))])=H3 at*;simp only[Af]
   by_cases hst:Sz l x.o
   ·obtain⟨RA,hRA,hpA⟩:=bD (o:=x.o) (bv:=x.bv) h3.kept sm x.h (by have:=hxb.1;omega) (by have:=hxb.2.1;omega) (by have:=hxb.2.2;omega)
    obtain⟨a',b',rfl,oa,ob⟩:=hRA.agg2;simp only[hst,zE,Ay,zC,Ak h3.obj,(tW _ _ _ _ _ _ _ _ _).2,Ak topx,rd8];refine bP_of hpA ?_;obtain⟨h4,f4⟩:=h3.set (s':={s1 with kept:=B8 ki.1 ki.2 x.o}) h3.now hRA rfl;simp only[Ay,zC,(xT h3.obj oa ob).2,AE];rw[Gg];unfold Er;simp only[Aw (a:=k) (b:=1) (by omega) (by omega),Ab];refine hR (m - 1) _ _ _ _ _ _ _ (by omega) ⟨k+1,_,a',b',lv,by omega,rfl,rfl,rfl,rfl,by simp,h4,f3.trans f4,?_,?_,?_,lo,lc,li⟩
    ·rw[← hsy];conv=>rhs;unfold J4
     rw[if_pos hst]
    ·obtain⟨y,z,w⟩:=hfew
     have e:TJ (x.o::s1.pend.drop (k+1))=wt x.o+TJ (s1.pend.drop (k+1)):=by simp[TJ]
     exact⟨y+wt x.o,z.step x.o,by omega⟩
    ·exact Ae ls3 λj hj=>by
      have:=li j hj
      exact f4.same j (by have:=A3 ls3 j hj;omega) (by omega) (λq=>by have:=RZ h1 j q;omega)
   ·have eA:Cr H3 8 1 (Be [(I 0),(I 0),(I 0),(I 0),(B false),(.lit (.string ⟨#[]⟩)),(.lit (.string ⟨#[]⟩)),Ad] 1) [(0,8,.agg (DL x.o x.bv))]=some (.sl H3.length 0 1 8 (.ex 1),H3++[some (.cells (Mp x))]):=by
     simp[Cr,Tq,Be,Mp,DL,Pk,ox,AR]
    have g4:=Grew.app H3 [some (.cells (Mp x))];have x1':Bf (H3++[some (AObj.cells (Mp x))]) 8 (.sl H3.length 0 1 8 (.ex 1))=some (Mp x,1):=AI (by simp[Aa,Mp,DL]);obtain⟨r,H5,a1,a2,a3,a4,a5,a6⟩:=CC (bytes:=96) (g4.slice ls3) lo x1' (by omega);have a7:=NC (g4.slice ls3) lo x1' lc a1;simp only[hst,yY,Ak topx,rd8,Ab,eA,Az,a1];rw[Gg];unfold Er;simp only[Aw (a:=k) (b:=1) (by omega) (by omega),Ab];have h4:=h3.grew g4;have f4:=f3.grew g4;have lt4:∀j,j<H1.length→j∉AU x5:=λj hj q=>by have:=li j q;omega
    have len4:(H3++[some (AObj.cells (Mp x))]).length=H3.length+1:=by simp
    have k5:∀j,j<H1.length→H5[j]?=(H3++[some (AObj.cells (Mp x))])[j]?:=λj hj=>a5 j (by omega) (lt4 j hj)
    refine hR (m - 1) _ _ _ _ _ _ _ (by omega) ⟨k+1,ki,c',d',lv++[x],by omega,rfl,rfl,rfl,rfl,by simp,?_,?_,?_,?_,?_,a2,by simpa using a7,?_⟩
    ·exact⟨by rw[k5 os hos];exact h4.obj,h4.now,h4.kept,h4.pm,Ae h4.ps λj hj=>k5 j (RZ h1 j hj),h4.po,h4.pi,h4.pc⟩
    ·exact⟨by omega,λj hj hne hjp=>by rw[k5 j hj];exact f4.same j hj hne hjp,λ_ q=>.inl q⟩
    ·rw[← hsy];conv=>rhs;unfold J4
     rw[if_neg hst];simp
    ·obtain⟨y,z,w⟩:=hfew
     have e:TJ (x.o::s1.pend.drop (k+1))=wt x.o+TJ (s1.pend.drop (k+1)):=by simp[TJ]
     exact⟨y,z,by rw[Ag8];simp only[Aa8,V4];omega⟩
    ·simpa using a3
    ·intro j hj
     rcases a6 j hj with q | q
     ·exact li j q
     ·omega
  ·have kI:¬(k:Int)<(s1.pend.length:Int):=by omega
   have hdrop:s1.pend.drop k=[]:=Ad2 hge;rw[hdrop]at hsy hfew;unfold J4 at hsy;rw[← hsy];have e7:AT 1 H2 (.ptr os 5) x5=some (H2.set os (some (.cells [I s1.cap,a,b,c',d',x5,I s1.made,I s1.armed,B s1.off]))):=oM h2.obj (by simp) (AM lo);have hnx:os∉AU x5:=λq=>by have:=li os q;omega
   simp only[AN,zC,Af,kI,yY,Ay,e7,AE];have hl2:=f2.len;refine⟨by trivial,x5,⟨a,b,c',d',lv,⟨JW h2.lt,h2.now,h2.kept,rfl,Ae ls λj hj=>C4 (λe=>hnx (by rw[e];exact hj)),lo,hnx,lc⟩⟩,?_⟩;refine⟨by rw[Ae1];omega,λj hj hne hjp=>?_,λj hj=>.inr (by have:=li j hj;omega)⟩;rw[C4 (Af4 hne),f2.same j (by omega) hne hjp,f1.same j hj hne hjp])
theorem P4 {α:Type}{enc:α→List AV}{f:α→AV}(he:∀x,enc x=[f x]){H:AH}{w:AV}{l:List α}{k:Nat}{x:α}(hw:Aa H 1 w=some (l.flatMap enc,l.length))(hx:l[k]?=some x):∃p,Bj 1 w (I k)=some p∧Au false 1 H p=some (f x):=by
 have hk:=(BD.1 hx).1;obtain⟨p,c,h1,h2,h3,h4⟩:=Kx hw (i:=(k:Int)) rfl hk;have el:∀x,(enc x).length=1:=λx=>by rw[he];rfl
 have hc:c.take 1=[f x]:=by
  rw[h3,Dd el hx,Ad4 (by rw[el];exact Ac2 1),Ac1 (by rw[el];exact Ac2 1),he]
 refine⟨p,h1,?_⟩;rw[Rw h2 (by omega) h4];cases c with
 | nil=>simp at hc
 | cons y t=>simp at hc;rw[hc];rfl
theorem Yl {H:AH}{v:AV}{cs:List AV}{n l k:Nat}(h:Aa H 1 v=some (cs,n))(hlk:l<k)(hkn:k≤n):
  ∃r,AX 1 v (some (I l)) (some (I k)) (some (I k))=some r∧(∀H,Aa H 1 v=some (cs,n)→Aa H 1 r=some ((cs.drop l).take (k - l),k - l))∧∀i∈AU r,i∈AU v:=by
 have b1:Bs (some (I l)) 0=some l:=by simp[Bs]
 have b2:∀d,Bs (some (I k)) d=some k:=λd=>by simp[Bs]
 have hcl:=Cf h;unfold Aa at h;unfold AX;split at h
 ·rename_i c len esz
  split at h
  ·rename_i hb
   obtain⟨rfl,hb⟩:=hb;injection h with h;injection h with h1 h2;subst h1;subst h2;simp only[b1,b2,Ai6];rw[if_pos ⟨by omega,by omega,by omega,by trivial⟩,if_neg (by omega)];refine⟨_,rfl,λH _=>?_,λi hi=>hi⟩;simp only[Aa,true_and,Ah5];rw[if_pos (by rw[Ac0,Ac7];omega)]
  ·cases h
 ·rename_i o off len esz cap
  split at h
  ·rename_i c hoc
   split at h
   ·rename_i hb
    obtain⟨rfl,hb⟩:=hb;injection h with h;injection h with h1 h2;subst h2;simp only[zF,b1,b2,Ai6];rw[if_pos ⟨by omega,by omega,by omega,by trivial⟩];refine⟨_,rfl,λH h2=>?_,λi hi=>hi⟩;unfold Aa at h2;simp only[true_and]at h2;split at h2
    ·rename_i c2 hoc2
     split at h2
     ·rename_i hb2
      injection h2 with h2;injection h2 with h3 h4;rw[A9 hoc2 (by omega),← h3];simp only[Ah5];rw[Ak0,Ag3,Ah0]
      congr 3
      omega
     ·cases h2
    ·cases h2
   ·cases h
  ·cases h
 all_goals (try (injection h with h;injection h with h1 h2;omega))
 all_goals cases h
noncomputable abbrev jM:Code:=AL f150
noncomputable abbrev chO:Array Oper:=Ze (sub [true,true,true,true,false,true,true,false] jM)
noncomputable abbrev chY : Oper := chO.toList.getD 10 ⟨none, .nilCheck (.tmp 0), 0, "", #[], none⟩
theorem oD:f150.body=some (.seq (sub [false] jM) (.block 0 (.loop (.seq (.seq (sub [true,true,true,false,false] jM) (.cond (.tmp 9) .skip (.exit 0)))
  (.seq (.block 1 (.seq (sub [true,true,true,true,false,true,false] jM) (.seq (.region 4 chO false) (.cond (.tmp 30) .ret .skip)))) (sub [true,true,true,true,true] jM)))))):=by kernel_rfl
noncomputable abbrev xP (p:List Bool)(T:List AV)(H:AH)(K:Kf):Prop:=AJ prog (KM []) Aq Aq Aq (Co []) (sub p jM) 0 T H K
theorem vV (x0 x1 x2:AV)(H:AH)(Q:Exit→List AV→AH→Prop):xP [false] ([x0,x1,x2]++List.replicate 28 AG) H (λe T H=>fP (mk 31 0 [0,1,2,4]) T λX=>Q e X H)=Q .normal [x0,x1,x2,I 0] H:=by kernel_rfl
theorem vW (x0 x1 x2 x4:AV)(H:AH)(Q:Exit→List AV→AH→Prop):xP [true,true,true,false,false] (AW (mk 31 0 [0,1,2,4]) [x0,x1,x2,x4]) H (λe T H=>fP (mk 31 0 [0,1,2,4,9]) T λX=>Q e X H)=
  bO (Au false 1 H x1) λv7=>bO (Ba v7) λv8=>bO (Ap .lss x4 v8) λv9=>Q .normal [x0,x1,x2,x4,v9] H:=by kernel_rfl
theorem vY (x0 x1 x2 x4 x9:AV)(H:AH)(Q:Exit→List AV→AH→Prop):xP [true,true,true,true,false,true,false] (AW (mk 31 0 [0,1,2,4,9]) [x0,x1,x2,x4,x9]) H (λe T H=>fP (mk 31 0 [0,1,2,4,5]) T λX=>Q e X H)=
  bO (Au false 1 H x2) λv13=>bO (Au false 1 H x1) λv14=>bO (AX 1 v14 (some x4) none none) λv16=>bO (Ba v16) λv17=>bO (amm VP [v13,v17]) λv18=>Q .normal [x0,x1,x2,x4,v18] H:=by kernel_rfl
theorem vZ (x0 x1 x2 x4 x5:AV)(H:AH)(Q:List AV→AH→Prop):LG prog Aq Aq false chO (chO.toList.take 10) (AW (mk 31 0 [0,1,2,4,5]) [x0,x1,x2,x4,x5]) H (λT H=>fP (mk 31 0 [0,1,2,4,19,28]) T λX=>Q X H)=
  bO (Au false 1 H x1) λv20=>bO (Ap .add x4 x5) λv24=>bO (Ap .add x4 x5) λv27=>bO (AX 1 v20 (some x4) (some v24) (some v27)) λv28=>Q [x0,x1,x2,x4,x0,v28] H:=by kernel_rfl
theorem qH (x0 x1 x2 x4 x19 x28 x29:AV)(H:AH)(Q:List AV→AH→Prop):LG prog Aq Aq false chO (chO.toList.drop 11) (Dj (AW (mk 31 0 [0,1,2,4,19,28]) [x0,x1,x2,x4,x19,x28]) (some 29) x29) H (λT H=>fP (mk 31 0 [0,1,2,4,30]) T λX=>Q X H)=
  bO (Fb .not x29) λv30=>Q [x0,x1,x2,x4,v30] H:=by kernel_rfl
theorem vX (x0 x1 x2 x4 x30:AV)(H:AH)(Q:Exit→List AV→AH→Prop):xP [true,true,true,true,true] (AW (mk 31 0 [0,1,2,4,30]) [x0,x1,x2,x4,x30]) H (λe T H=>fP (mk 31 0 [0,1,2,4]) T λX=>Q e X H)=
  bO (Au false 1 H x2) λv11=>bO (Ap .add x4 v11) λv12=>Q .normal [x0,x1,x2,v12] H:=by kernel_rfl
theorem sC:chO.toList=chO.toList.take 10++chY::chO.toList.drop 11:=by kernel_rfl
noncomputable abbrev chA:Array TypeId:=match chY.op with
 | .call c=>c.argTypes
 | _=> #[]
theorem oE:chY.op=.call {callee:=.value (.tmp 19),args:=#[.tmp 28],argTypes:=chA}∧chY.guard=none∧chY.dst=some 29:=⟨by kernel_rfl,by kernel_rfl,by kernel_rfl⟩
theorem cE:CJ (KM []) Aq Aq (sub [false] jM)=true∧CJ (KM []) Aq Aq (sub [true,true,true,false,false] jM)=true∧CJ (KM []) Aq Aq (sub [true,true,true,true,false,true,false] jM)=true∧CJ (KM []) Aq Aq (sub [true,true,true,true,true] jM)=true:=⟨by kernel_rfl,by kernel_rfl,by kernel_rfl,by kernel_rfl⟩
def qG (s:AV)(len n j:Nat):AV:=(AX 1 s (some (I (j*n:Nat))) (some (I (j*n+min n (len - j*n):Nat))) (some (I (j*n+min n (len - j*n):Nat)))).getD AG
def cD (len n:Nat):Nat:=(len+n - 1)/n
def uN (s:AV)(len n:Nat):List AV:=(List.range (cD len n)).map (qG s len n)
theorem Xf (s:AV)(len n:Nat):(uN s len n).length=cD len n:=by simp[uN]
theorem jN {len n k:Nat}(hn:0<n):k<cD len n↔k*n<len:=by
 unfold cD;rw[show(k<(len+n - 1)/n)=(k+1≤(len+n - 1)/n)from rfl,Nat.le_div_iff_mul_le hn,Af6];omega
theorem iS (a d:Nat):Bs (some (I a)) d=some a:=by simp[Bs]
theorem oT (a b:Nat):VP (a:Int) b=((min a b:Nat):Int):=by unfold VP;split<;>omega
theorem jQ {o1 o2:Nat}{s:AV}{cs:List AV}{len n:Nat}(hn:0<n)(hn2:n≤1099511627776)(hlen:len≤1099511627776):WL prog 150 [.ptr o1 0,.ptr o2 0] (λH=>H[o1]?=some (some (.cells [s]))∧H[o2]?=some (some (.cells [I n]))∧Aa H 1 s=some (cs,len)) (uN s len n):=by
 have e31:f150.ntmps=31:=by kernel_rfl
 refine Xu func150 oD (by kernel_rfl) ?_;intro l G0 rec T p H J X hrd hpd hps hT h0 hcap hr;rw[e31,Xf];generalize hY:(AV.lit (.func (.yield l) #[] #[]))=Y;refine XCode.seqP (fl:=KM []) (ql:=Aq) (al:=Aq) (un:=Aq) (kp:=Co []) (n:=0) (keep:=mk 31 0 [0,1,2,4]) Kn cE.1 (λe T T' H he h=>by cases e<;>first | exact absurd rfl he | exact h) ?_;refine Eq.mpr (vV Y (.ptr o1 0) (.ptr o2 0) H _) ?_;refine(?_:XCode _ l G0 (.block 0 _) _ _ _ _);refine XCode.block ?_;refine XCode.loop (λm T H r=>∃k,k+m=cD len n∧r=rec∧T.length=31∧Nx (mk 31 0 [0,1,2,4]) T=[Y,.ptr o1 0,.ptr o2 0,I (k*n:Nat)]∧J k H) (cD len n) ⟨0,by omega,rfl,rfl,by simp[mk,Nx,AW],h0⟩ ?_;rintro m T H r ⟨k,hk,rfl,hl,hT2,hj⟩;refine XCode.weak (keep:=mk 31 0 [0,1,2,4]) hl ?_;rw[hT2];obtain⟨c1,c2,c3⟩:=hcap k H hj;have hkn:=jN (len:=len) (k:=k) hn;refine XCode.seq ?_;refine XCode.seqP (fl:=KM []) (ql:=Aq) (al:=Aq) (un:=Aq) (kp:=Co []) (n:=0) (keep:=mk 31 0 [0,1,2,4,9]) Kn cE.2.1 (λe T T' H he h=>by cases e<;>first | exact absurd rfl he | exact h) ?_;refine Eq.mpr (vW Y (.ptr o1 0) (.ptr o2 0) _ H _) ?_;have al:Ba s=some (I (len:Nat)):=By c3;simp only[Ak c1,Ah,CL,Ab,al,AN];refine(?_:XCode _ l G0 (.cond (.tmp 9) .skip (.exit 0)) _ _ _ _);refine XCode.cond (b:=decide (((k*n:Nat):Int)<len)) rfl ?_
 by_cases h:k*n<len
 ·have hI:((k*n:Nat):Int)<(len:Int):=by omega
  simp only[hI,yW];refine XCode.skip ?_;refine(?_:XCode _ l G0 (.seq (.block 1 _) _) _ _ _ _);refine XCode.seq (XCode.block ?_);refine XCode.seqN (fl:=KM []) (ql:=Aq) (al:=Aq) (un:=Aq) (kp:=Co []) (n:=0) (keep:=mk 31 0 [0,1,2,4,5]) Kn cE.2.2.1 ?_;refine Eq.mpr (vY Y (.ptr o1 0) (.ptr o2 0) _ _ H _) ?_;obtain⟨r1,s1,s2,-⟩:=E3 c3 (lo:=some (I (k*n:Nat))) (hi:=none) (l:=k*n) (k:=len) (iS _ _) rfl (by omega) (Ac2 _);have al1:Ba r1=some (I (len - k*n:Nat)):=By s2;have hmin:amm VP [I n,I (len - k*n:Nat)]=some (I (min n (len - k*n):Nat)):=by rw[NE,oT]
  simp only[Ak c2,Ak c1,Ah,CL,Ab,s1,al1,hmin];refine⟨by trivial,?_⟩;refine XCode.seq (XCode.region ?_);refine Eq.mpr (congrArg (λL=>XOps _ l G0 chO _ L _ _ _) sC) ?_;refine XOps.preP (ql:=Aq) (al:=Aq) (keep:=mk 31 0 [0,1,2,4,19,28]) ?_;refine Eq.mpr (vZ Y (.ptr o1 0) (.ptr o2 0) _ _ H _) ?_
  have hadd:Ap .add (I (k*n:Nat)) (I (min n (len - k*n):Nat))=some (I (k*n+min n (len - k*n):Nat)):=by
   rw[Aw (by omega) (by omega)];congr 3
  have hlt:k*n<k*n+min n (len - k*n):=by omega
  obtain⟨r2,t1,t2,-⟩:=Yl c3 hlt (show k*n+min n (len - k*n)≤len by omega)
  have hx:(uN s len n)[k]?=some r2:=by
   unfold uN;rw[Ae7,Aj0 (hkn.2 h)]
   show some (qG s len n k)=some r2
   unfold qG;rw[t1];rfl
  simp only[Ak c1,Ah,CL,Ab,hadd,t1];refine XOps.yield oE.1 oE.2.1 hY.symm hrd hpd hps hT (hr k r2 H hx hj) ?_ ?_
  ·intro H' hj'
   rw[oE.2.2];obtain⟨d1,d2,d3⟩:=hcap (k+1) H' hj';refine Eq.mpr (congrArg (λL=>XOps _ l G0 chO _ L _ _ _) (Af1 _).symm) ?_;refine XOps.preP (ql:=Aq) (al:=Aq) (keep:=mk 31 0 [0,1,2,4,30]) ?_;refine Eq.mpr (qH Y (.ptr o1 0) (.ptr o2 0) _ _ _ _ H' _) ?_;simp only[Bp,Ab,Ak6];refine XOps.nil ?_;refine(?_:XCode _ l G0 (.cond (.tmp 30) .ret .skip) _ _ _ _);refine XCode.cond (b:=false) rfl ?_;simp only[An];refine XCode.skip ?_;refine(?_:XCode _ l G0 (sub [true,true,true,true,true] jM) _ _ _ _);refine XCode.of ((DW (fl:=KM []) (ql:=Aq) (al:=Aq) (un:=Aq) (kp:=Co []) Kn _ 0 _ _ _ cE.2.2.2 (Eq.mpr (vX Y (.ptr o1 0) (.ptr o2 0) _ _ H' (λe X H2=>e=.normal∧X=[Y,.ptr o1 0,.ptr o2 0,I ((k+1)*n:Nat)]∧H2=H')) ?_)).mono ?_)
   ·have ha:Ap .add (I (k*n:Nat)) (I n)=some (I ((k+1)*n:Nat)):=by
     rw[Aw (by omega) (by omega)];congr 3;rw[Af6];omega
    simp only[Ak d2,Ah,CL,Ab,ha];exact⟨by trivial,by trivial,by trivial⟩
   ·intro e T' H2 hk2
    obtain⟨hl2,rfl,hX,rfl⟩:=BN.1 hk2;exact⟨m - 1,by have:=hkn.2 h;omega,k+1,by have:=hkn.2 h;omega,rfl,hl2,hX,hj'⟩
  ·intro c H' hx'
   rw[oE.2.2];refine Eq.mpr (congrArg (λL=>XOps _ l G0 chO _ L _ _ _) (Af1 _).symm) ?_;refine XOps.preP (ql:=Aq) (al:=Aq) (keep:=mk 31 0 [0,1,2,4,30]) ?_;refine Eq.mpr (qH Y (.ptr o1 0) (.ptr o2 0) _ _ _ _ H' _) ?_;simp only[Bp,Ab,Bool.not_false];refine XOps.nil ?_;refine(?_:XCode _ l G0 (.cond (.tmp 30) .ret .skip) _ _ _ _);refine XCode.cond (b:=true) rfl ?_;simp only[if_true];refine XCode.ret ?_;exact⟨.inr rfl,.inr ⟨c,rfl,hx'⟩⟩
 ·have hI:¬((k*n:Nat):Int)<(len:Int):=by omega
  simp only[hI,C9,An];refine XCode.exit ?_
  have hkN:k=cD len n:=by
   have:=mt hkn.1 h
   omega
  exact⟨.inl rfl,.inl ⟨rfl,by rw[← hkN];exact hj⟩⟩
theorem StAt.keep {s:StS}{os:Nat}{p:AV}{H H':AH}(h:StAt s os p H)(k:∀j,j=os∨j∈AU p→H'[j]?=H[j]?):StAt s os p H':=by
 obtain⟨a,b,c,d,pv,h⟩:=h;exact⟨a,b,c,d,pv,by rw[k os (.inl rfl)];exact h.obj,h.now,h.kept,h.pm,Ae h.ps λi q=>k i (.inr q),h.po,h.pi,h.pc⟩
theorem StAt.os_lt {s:StS}{os:Nat}{p:AV}{H:AH}(h:StAt s os p H):os<H.length:=by obtain⟨a,b,c,d,pv,h⟩:=h;exact h.lt
theorem StAt.p_lt {s:StS}{os:Nat}{p:AV}{H:AH}(h:StAt s os p H):∀j∈AU p,j<H.length:=by obtain⟨a,b,c,d,pv,h⟩:=h;exact RZ h
theorem nF {H:AH}{v:AV}{cs:List AV}{m:Nat}(hv:Aa H 1 v=some (cs,m))(ho:oneA v=true):BCall prog 79 [v,I 4096] H (.fn (.func 150) [] [.ptr H.length 0,.ptr (H.length+1) 0]) (H++[some (.cells [v]),some (.cells [I 4096])]):=by
 obtain⟨r,H',⟨rfl,rfl⟩,hc⟩:=J0 (a0:=v) (a1:=I 4096) (H:=H) (K:=λr H'=>r=.fn (.func 150) [] [.ptr H.length 0,.ptr (H.length+1) 0]∧H'=H++[some (.cells [v]),some (.cells [I 4096])]) (by
  unfold Gd;have e1:AD H v=some (.ptr H.length 0,H++[some (.cells [v])]):=by unfold AD;rw[AS ho];rfl
  have e2:AD (H++[some (.cells [v])]) (I 4096)=some (.ptr (H.length+1) 0,H++[some (.cells [v]),some (.cells [I 4096])]):=by unfold AD;rw[AS (v:=I 4096) rfl];simp
  have c2:(H++[some (AObj.cells [v]),some (.cells [I 4096])])[H.length+1]?=some (some (.cells [I 4096])):=by simp
  simp only[e1,Az,e2,Ak c2,Ah,CL,zO,show ¬(4096:Int)<1 by omega,yY];exact⟨by trivial,by trivial⟩)
 exact hc
def B9 (b:List UInt8):List (List UInt8):=(List.range (cD b.length 4096)).map λj=>(b.drop (j*4096)).take (min 4096 (b.length - j*4096))
def pcs (ino:Int):List (List UInt8)→StS→Int→Int→(StS×Int×Int)×Int
 | [],s,at',sum=>((s,at',sum),0)
 | b::r,s,at',sum=>
  if(BI s ino at' b).1.2=0 then pcs ino r (BI s ino at' b).2 (at'+(BI s ino at' b).1.1) (sum+(BI s ino at' b).1.1)
  else(((BI s ino at' b).2,at'+(BI s ino at' b).1.1,sum+(BI s ino at' b).1.1),(BI s ino at' b).1.2)
def Hh (l:List (List UInt8)):Nat:=(l.map List.length).sum
theorem qS {c:List Ext}{ino pos:Int}{b:List UInt8}:∀{l:List Sp} {s:StS},(∀q∈l,pos≤q.pos∧0<q.len∧q.len≤8∧q.pos+q.len≤pos+b.length)→0≤(Pf c ino pos b l s).1.1∧(Pf c ino pos b l s).1.1≤b.length
 | [],s,_=>by unfold Pf;simp only;omega
 | q::r,s,hq=>by
  have h1:=hq q (by simp);unfold Pf
  split
  ·simp only;omega
  ·split
   ·simp only;omega
   ·exact qS λx hx=>hq x (by simp[hx])
theorem Z4 (s:StS)(ino pos:Int)(b:List UInt8):0≤(BI s ino pos b).1.1∧(BI s ino pos b).1.1≤b.length:=by
 unfold BI
 split
 ·simp only;omega
 ·split
  ·simp only;omega
  ·rename_i hf
   have hf:=Af2 hf;exact qS λq hq=>Vh hf hq
abbrev sS:List Bool:=[true,true,false,true,false,false,true,true,false,false,true,true,false]
def P5 (b:List UInt8)(j:Nat):List UInt8:=(b.drop (j*4096)).take (min 4096 (b.length - j*4096))
theorem ZO {b:List UInt8}{i:Nat}(h:i<cD b.length 4096):(B9 b)[i]?=some (P5 b i):=by
 unfold B9;rw[Ae7,Aj0 h];rfl
theorem ZP (b:List UInt8):(B9 b).length=cD b.length 4096:=by simp[B9]
theorem sB {H:AH}{v:AV}{b:List UInt8}{j:Nat}(hv:Aa H 1 v=some (AB b,b.length))(hj:j*4096<b.length):
  Aa H 1 (qG v b.length 4096 j)=some (AB (P5 b j),(P5 b j).length)∧∀i∈AU (qG v b.length 4096 j),i∈AU v:=by
 obtain⟨r,h1,h2,h3⟩:=Yl hv (l:=j*4096) (k:=j*4096+min 4096 (b.length - j*4096)) (by omega) (by omega);have e:qG v b.length 4096 j=r:=by unfold qG;rw[h1];rfl
 rw[e];refine⟨?_,h3⟩;rw[h2 H hv];unfold P5;rw[Al2,Ac0,Ac7];simp only[AB,An5,Ao7]
 congr 2
 omega
structure Bd (NN:Nat)(rest:List (List UInt8))(s:StS)(at' sum:Int):Prop where
 w:∃M,SW M s∧M+9*Hh rest≤NN
 a:0≤at'∧at'+Hh rest≤9223372036854775807
 s:0≤sum∧sum+Hh rest≤9223372036854775807
theorem Wu (b:List UInt8)(r:List (List UInt8)):Hh (b::r)=b.length+Hh r:=by simp[Hh]
theorem lT {ino:Int}:∀{l:List (List UInt8)} {N:Nat} {s:StS} {a m:Int},SW N s→SW (N+9*Hh l) (pcs ino l s a m).1.1
 | [],N,s,a,m,h=>h
 | b::r,N,s,a,m,h=>by
  have h1:=Ro h ino a b;rw[Wu];unfold pcs
  split
  ·exact(lT h1).mono (by omega)
  ·exact h1.mono (by omega)
def G7 (nm:List UInt8)(size:Int)(l:List Ext):bJ:=([⟨nm,1⟩],[⟨1,size,l⟩])
theorem X3 {nm:List UInt8}{size:Int}{l:List Ext}(hn:G5 nm)(h:Cs size l):MayW (G7 nm size l).1 (G7 nm size l).2:=by
 refine⟨by simp[G7],?_,by simp[G7,Cb],by simp[G7],by simp[G7,Cb],by simpa[G7]using h,by simp[G7,AO]⟩;intro x hx;simp only[G7,Ag2]at hx;subst hx;exact⟨hn,by simp only;omega,by simp only;omega⟩
theorem aL {nm:List UInt8}{size:Int}{l:List Ext}{o:OpM}{c:Gr}(hn:G5 nm)(h:Cs size l)(hk:o.kind=2)(hi:o.ino=1)(hc:Of o ⟨1,size,l⟩=some c):B8 (G7 nm size l).1 (G7 nm size l).2 o=G7 nm c.1 c.2:=by
 unfold B8;rw[if_pos (G4.2 (X3 hn h)),if_neg (by omega),if_pos (by omega)];have e1:ZI Nd.ino (G7 nm size l).2 o.ino=some ⟨1,size,l⟩:=by rw[hi];rfl
 have e2:CZ Cc Nd.ino (G7 nm size l).2 o.ino=0:=by rw[hi];rfl
 unfold Qd;rw[e1];simp only[hc,e2];rfl
structure ON (nm:List UInt8)(cap:Int)(size:Int)(l:List Ext)(s:StS):Prop where
 now:s.now=G7 nm size l
 nm:G5 nm
 mc:Cs size l
 cap:s.cap=cap
 off:s.off=false
 armed:s.armed= -1
theorem ON.content {nm:List UInt8}{cap size:Int}{l:List Ext}{s:StS}(h:ON nm cap size l s):Ar s 1=((size,l),0):=by
 have hg:Ol s.now.1 s.now.2 1:=by
  rw[h.now];exact⟨G4.2 (X3 h.nm h.mc),by simp[G7,AO]⟩
 unfold Ar;rw[if_neg (by rw[h.off];simp),if_pos hg]
 have:Fo s.now.1 s.now.2 1=⟨1,size,l⟩:=by
  unfold Fo;rw[if_pos hg,h.now];rfl
 rw[this]
theorem ON.free {nm:List UInt8}{cap size:Int}{l:List Ext}{s:StS}(h:ON nm cap size l s)(hl:(l.length:Int)<cap):LX s≠0:=by
 unfold LX;rw[h.cap,h.now];have:JD (G7 nm size l).2=l.length:=by simp[JD,G7]
 rw[this];omega
theorem ON.do {nm:List UInt8}{cap size:Int}{l:List Ext}{s:StS}(h:ON nm cap size l s){p:Int}{bs:List UInt8}(hb:bs≠[])(hp:0≤p)(hlen:bs.length≤4096)(hf:p≤1099511627776 - bs.length):
  (Lz s (If 1 p bs)).1=0∧ON nm cap (max size (p+bs.length)) (Bo l p bs) (Lz s (If 1 p bs)).2:=by
 have hw:DE (size,l) p bs=some (max size (p+bs.length),Bo l p bs):=by
  unfold DE;rw[if_pos ⟨h.mc,hp,hlen,hf⟩,if_neg hb]
 have hd:Bc s=(true,s):=by
  unfold Bc;rw[if_neg (by rw[h.off,h.armed];simp),if_neg (by rw[h.armed];omega)]
 unfold Lz;rw[hd];refine⟨rfl,?_,h.nm,NQ hw,h.cap,h.off,h.armed⟩
 show B8 s.now.1 s.now.2 (If 1 p bs)=_
 rw[h.now];refine aL (o:=If 1 p bs) (c:=(max size (p+bs.length),Bo l p bs)) h.nm h.mc rfl rfl ?_
 show(if(2:Int)=2 then DE (size,l) p bs else _)=_
 rw[if_pos rfl,hw]
theorem PD {l:List Ext}(hs:srt l){p:Int}{bs:List UInt8}(h:p % 8+bs.length≤8)(hb:bs≠[]):(Bo l p bs).length≤l.length+1:=by
 rw[← mX hs h hb]
 have:=(QK l (p/8)).1
 simp only[Dt,Vk,Ae9];exact this
theorem ON.cuts {nm:List UInt8}{cap:Int}{c:List Ext}{pos:Int}{b:List UInt8}(hpos:0≤pos)(hbl:b.length≤4096)(hf:pos≤1099511627776 - b.length):∀(f k:Nat) {size:Int} {l:List Ext} {s:StS},k≤b.length→b.length - k≤f→ON nm cap size l s→(l.length:Int)+(b.length - k:Nat)≤cap→
  ∃s',Pf c 1 pos b (BU f (pos+k) (b.length - k:Nat) 8) s=(((b.length:Int),0),s')∧∃size' l',ON nm cap size' l' s'∧l'=Bo l (pos+k) (b.drop k)∧size'=(if b.length - k=0 then size else max size (pos+b.length))∧l'.length≤l.length+(b.length - k)
 | 0,k,size,l,s,hk,hfk,h,hc=>by
  have e:b.drop k=[]:=Ad2 (by omega);refine⟨s,by simp[BU,Pf],size,l,h,by rw[e];rfl,by rw[if_pos (by omega)],by omega⟩
 | f+1,k,size,l,s,hk,hfk,h,hc=>by
  by_cases h0:b.length - k=0
  ·have e:b.drop k=[]:=Ad2 (by omega)
   refine⟨s,?_,size,l,h,by rw[e];rfl,by rw[if_pos h0],by omega⟩;unfold BU;rw[if_neg (by omega)];unfold Pf;rfl
  ·have m1:=Aj2 (pos+k) (show(0:Int)<8 by omega)
   have m2:=Ak4 (pos+k) (show(8:Int)≠0 by omega);obtain⟨n,hn⟩:∃n:Nat,min ((b.length - k:Nat):Int) (8 - (pos+k) % 8)=n:=⟨(min ((b.length - k:Nat):Int) (8 - (pos+k) % 8)).toNat,by omega⟩;have n1:0<n∧n≤8∧n≤b.length - k:=by omega
   unfold BU;rw[if_pos (by omega),hn]
   have hpb:DI b pos ⟨pos+k,n⟩=(b.drop k).take n:=by
    unfold DI;simp only;rw[show(pos+k - pos).toNat=k by omega,show((n:Int)).toNat=n by omega]
   have hbs:((b.drop k).take n).length=n:=by rw[Ac0,Ac7];omega
   have hne:(b.drop k).take n≠[]:=by intro q;rw[q]at hbs;simp at hbs;omega
   obtain⟨d1,d2⟩:=h.do hne (p:=pos+k) (by omega) (by omega) (by omega);unfold Pf;rw[if_neg (λq=>h.free (by omega) q.2),hpb];simp only;rw[if_neg (by rw[d1];simp)];rw[hbs]at d2;have hl1:=PD (Dw.1 h.mc).2.2.1 (p:=pos+k) (bs:=(b.drop k).take n) (by omega) hne;obtain⟨s',w1,size',l',w2,w3,w4,w5⟩:=ON.cuts (c:=c) hpos hbl hf f (k+n) (by omega) (by omega) d2 (by omega);refine⟨s',?_,size',l',w2,?_,?_,by omega⟩
   ·rw[show pos+(k:Int)+n=pos+(k+n:Nat) by omega,show((b.length - k:Nat):Int) - n=(b.length - (k+n):Nat) by omega]
    exact w1
   ·rw[w3]
    conv=>rhs;rw[← Af3 n (b.drop k)]
    rw[V1,hbs,Ag3]
    congr 1
    omega
   ·rw[w4,if_neg h0]
    split<;>omega
theorem ON.write {nm:List UInt8}{cap size pos:Int}{l:List Ext}{s:StS}{b:List UInt8}(h:ON nm cap size l s)(hpos:0≤pos)(hbl:b.length≤4096)(hf:pos≤1099511627776 - b.length)(hc:(l.length:Int)+b.length≤cap):
  ∃s',BI s 1 pos b=(((b.length:Int),0),s')∧∃size' l',ON nm cap size' l' s'∧l'=Bo l pos b∧size'=(if b.length=0 then size else max size (pos+b.length))∧l'.length≤l.length+b.length:=by
 unfold BI;rw[h.content,if_neg (by simp),if_neg (λq=>q ⟨hpos,hbl,hf⟩)]
 have e:Dx ⟨pos,b.length⟩ 8=BU (b.length) pos b.length 8:=by
  unfold Dx;rw[if_pos ⟨⟨by unfold May;simp only;omega,by unfold May;simp only;omega,by simp only;omega⟩,by simp only;omega,by omega⟩]
  show BU ((b.length:Int)).toNat pos b.length 8=_
  rw[show((b.length:Int)).toNat=b.length by omega]
 rw[e]
 have:=ON.cuts (c:=l) hpos hbl hf b.length 0 (by omega) (by omega) h (by omega)
 simpa using this
theorem Xg {b:List UInt8}(h:b.length≤4096):B9 b=if b=[]then []else [b]:=by
 unfold B9 cD
 by_cases hb:b=[]
 ·subst hb;rfl
 ·have:0<b.length:=List.length_pos_iff.2 hb
  rw[if_neg hb,show(b.length+4096 - 1)/4096=1 by omega];simp;rw[Ac1 (by omega)]
theorem I8:∀{bl:List (AV×List UInt8)},(∀x∈bl,x.2.length≤4096)→(bl.flatMap λx=>B9 x.2).flatten=(bl.map Prod.snd).flatten∧(∀b∈bl.flatMap λx=>B9 x.2,b.length≤4096)∧Hh (bl.flatMap λx=>B9 x.2)=((bl.map Prod.snd).flatten).length
 | [],_=>by simp[Hh]
 | x::r,h=>by
  obtain⟨i1,i2,i3⟩:=I8 (bl:=r) λy hy=>h y (by simp[hy])
  have hx:=h x (by simp);have ec:=Xg hx;simp only[Ae8,Aj7,An2,List.flatten_append,Ac6];refine⟨?_,?_,?_⟩
  ·rw[i1,ec];split
   ·rename_i e;rw[e];rfl
   ·simp
  ·intro b hb
   rw[Af8]at hb;rcases hb with hb | hb
   ·rw[ec]at hb
    split at hb
    ·simp at hb
    ·simp at hb;rw[hb];exact hx
   ·exact i2 b hb
  ·have:Hh (B9 x.2)=x.2.length:=by
    rw[ec];split
    ·rename_i e;rw[e];rfl
    ·simp[Hh]
   rw[← i3,← this];simp[Hh]
theorem lG {α:Type}[DecidableEq α]:∀{a b:List α},a.Nodup→(∀x∈a,x∈b)→a.length≤b.length
 | [],_,_,_=>by simp
 | x::a,b,hn,hs=>by
  rw[Ai9]at hn;have h1:=lG (a:=a) (b:=b.erase x) hn.2 λy hy=>(An9 (λe=>hn.1 (by rw[← e];exact hy))).2 (hs y (by simp[hy]))
  rw[List.length_erase_of_mem (hs x (by simp))]at h1
  have:=List.length_pos_of_mem (hs x (by simp))
  simp only[Ad7];omega
theorem mG {l:List Ext}{cap:Nat}{q:Int}(hs:srt l)(hl:∀no,Bb l no→0≤no∧no<cap)(hq:¬Bb l q)(h0:0≤q)(h1:q<cap):l.length+1≤cap:=by
 have hn:(q::l.map Ext.no).Nodup:=by
  rw[Ai9];refine⟨λhm=>?_,?_⟩
  ·obtain⟨x,hx,e⟩:=Ae6.1 hm
   exact hq ⟨x,hx,e⟩
  ·unfold List.Nodup
   rw[Aj6];exact List.Pairwise.imp (λh e=>by rw[e]at h;omega) hs
 have:=lG (b:=(List.range cap).map fun (i:Nat)=>(i:Int)) hn (by
  intro x hx
  have hb:0≤x∧x<cap:=by
   rcases Ad5.1 hx with rfl | hx
   ·exact⟨h0,h1⟩
   ·obtain⟨y,hy,rfl⟩:=Ae6.1 hx
    exact hl y.no ⟨y,hy,rfl⟩
  exact Ae6.2 ⟨x.toNat,Aj9.2 (by omega),by omega⟩)
 simp only[Ad7,Ae9,List.length_range]at this;exact this
theorem ON.cutsR {nm:List UInt8}{cap:Nat}{c:List Ext}{pos:Int}{b:List UInt8}(hpos:0≤pos)(hbl:b.length≤4096)(hf:pos+b.length≤8*cap)(hcap:cap≤100000):∀(f k:Nat) {size:Int} {l:List Ext} {s:StS},k≤b.length→b.length - k≤f→ON nm cap size l s→(∀no,Bb l no→no<cap)→(k<b.length→∀no,Bb l no→Bb c no∨no<(pos+k)/8)→(k<b.length→0<k→(pos+k) % 8=0)→
  ∃s',Pf c 1 pos b (BU f (pos+k) (b.length - k:Nat) 8) s=(((b.length:Int),0),s')∧∃size' l',ON nm cap size' l' s'∧l'=Bo l (pos+k) (b.drop k)∧size'=(if b.length - k=0 then size else max size (pos+b.length))
 | 0,k,size,l,s,hk,hfk,h,hc,hcl,hm=>by
  have e:b.drop k=[]:=Ad2 (by omega);refine⟨s,by simp[BU,Pf],size,l,h,by rw[e];rfl,by rw[if_pos (by omega)]⟩
 | f+1,k,size,l,s,hk,hfk,h,hc,hcl,hm=>by
  by_cases h0:b.length - k=0
  ·have e:b.drop k=[]:=Ad2 (by omega)
   refine⟨s,?_,size,l,h,by rw[e];rfl,by rw[if_pos h0]⟩;unfold BU;rw[if_neg (by omega)];unfold Pf;rfl
  ·have m1:=Aj2 (pos+k) (show(0:Int)<8 by omega)
   have m2:=Ak4 (pos+k) (show(8:Int)≠0 by omega);obtain⟨n,hn⟩:∃n:Nat,min ((b.length - k:Nat):Int) (8 - (pos+k) % 8)=n:=⟨(min ((b.length - k:Nat):Int) (8 - (pos+k) % 8)).toNat,by omega⟩;have n1:0<n∧n≤8∧n≤b.length - k:=by omega
   unfold BU;rw[if_pos (by omega),hn]
   have hpb:DI b pos ⟨pos+k,n⟩=(b.drop k).take n:=by
    unfold DI;simp only;rw[show(pos+k - pos).toNat=k by omega,show((n:Int)).toNat=n by omega]
   have hbs:((b.drop k).take n).length=n:=by rw[Ac0,Ac7];omega
   have hne:(b.drop k).take n≠[]:=by intro q;rw[q]at hbs;simp at hbs;omega
   obtain⟨d1,d2⟩:=h.do hne (p:=pos+k) (by omega) (by omega) (by omega);have hm2:=Dw.1 h.mc
   have hgo:¬(¬Bb c ((pos+k)/8)∧LX s=0):=by
    rintro⟨q1,q2⟩;have hql:¬Bb l ((pos+k)/8):=λq=>(hcl (by omega) _ q).elim q1 (λq=>by omega)
    have:=mG (cap:=cap) hm2.2.2.1 (λno q=>⟨(hm2.2.2.2.1 no q).1,hc no q⟩) hql (by omega) (by omega)
    exact h.free (by omega) q2
   unfold Pf;rw[if_neg hgo,hpb];simp only;rw[if_neg (by rw[d1];simp)];rw[hbs]at d2
   obtain⟨s',w1,size',l',w2,w3,w4⟩:=ON.cutsR (c:=c) hpos hbl hf hcap f (k+n) (by omega) (by omega) d2 (λno q=>by
    rcases PC.1 q with q | ⟨z,z1,z2,z3⟩
    ·exact hc no q
    ·rw[hbs]at z2;omega) (λhlt no q=>by
    rcases PC.1 q with q | ⟨z,z1,z2,z3⟩
    ·rcases hcl (by omega) no q with q | q
     ·exact .inl q
     ·exact .inr (by omega)
    ·rw[hbs]at z2
     exact .inr (by omega)) (by omega)
   refine⟨s',?_,size',l',w2,?_,?_⟩
   ·rw[show pos+(k:Int)+n=pos+(k+n:Nat) by omega,show((b.length - k:Nat):Int) - n=(b.length - (k+n):Nat) by omega]
    exact w1
   ·rw[w3]
    conv=>rhs;rw[← Af3 n (b.drop k)]
    rw[V1,hbs,Ag3]
    congr 1
    omega
   ·rw[w4,if_neg h0]
    split<;>omega
theorem ON.writeR {nm:List UInt8}{cap:Nat}{size pos:Int}{l:List Ext}{s:StS}{b:List UInt8}(h:ON nm cap size l s)(hpos:0≤pos)(hbl:b.length≤4096)(hf:pos+b.length≤8*cap)(hcap:cap≤100000)(hc:∀no,Bb l no→no<cap):
  ∃s',BI s 1 pos b=(((b.length:Int),0),s')∧∃size' l',ON nm cap size' l' s'∧l'=Bo l pos b∧size'=(if b.length=0 then size else max size (pos+b.length)):=by
 unfold BI;rw[h.content,if_neg (by simp),if_neg (λq=>q ⟨hpos,hbl,by omega⟩)]
 have e:Dx ⟨pos,b.length⟩ 8=BU (b.length) pos b.length 8:=by
  unfold Dx;rw[if_pos ⟨⟨by unfold May;simp only;omega,by unfold May;simp only;omega,by simp only;omega⟩,by simp only;omega,by omega⟩]
  show BU ((b.length:Int)).toNat pos b.length 8=_
  rw[show((b.length:Int)).toNat=b.length by omega]
 rw[e]
 have:=ON.cutsR (c:=l) hpos hbl hf hcap b.length 0 (by omega) (by omega) h hc (λ_ no q=>.inl q) (λ_ q=>by omega)
 simpa using this
def Vl (s:StS)(nm:List UInt8)(l:List (List UInt8)):Int×StS:=
 if(AZ s nm true).1.2≠0 then((AZ s nm true).1.2,(AZ s nm true).2)
 else if(DD (AZ s nm true).2 (AZ s nm true).1.1 0).1≠0 then DD (AZ s nm true).2 (AZ s nm true).1.1 0
 else if(Av.pcs (AZ s nm true).1.1 l (DD (AZ s nm true).2 (AZ s nm true).1.1 0).2 0 0).2≠0 then((Av.pcs (AZ s nm true).1.1 l (DD (AZ s nm true).2 (AZ s nm true).1.1 0).2 0 0).2,(Av.pcs (AZ s nm true).1.1 l (DD (AZ s nm true).2 (AZ s nm true).1.1 0).2 0 0).1.1)
 else Pb (Av.pcs (AZ s nm true).1.1 l (DD (AZ s nm true).2 (AZ s nm true).1.1 0).2 0 0).1.1 [(AZ s nm true).1.1]
structure LwS (os b0:Nat)(ino:Int)(s:StS)(at':Int)(p:AV)(H:AH):Prop where
 st:StAt s os p H
 bx:H[b0]?=some (some (.cells [.ptr os 0]))
 bi:H[b0+1]?=some (some (.cells [I ino]))
 br:∃a,H[b0+2]?=some (some (.cells [a]))
 ba:H[b0+3]?=some (some (.cells [I at']))
 no:os<b0
 nb:∀j,b0≤j→j≤b0+3→j∉AU p
structure LwF (os b0:Nat)(p p':AV)(H H':AH):Prop where
 len:H.length≤H'.length
 same:∀j,j<H.length→j≠os→(j<b0+2∨b0+3<j)→j∉AU p→H'[j]?=H[j]?
 ids:∀j∈AU p',j∈AU p∨H.length≤j
theorem LwF.refl (os b0:Nat)(p:AV)(H:AH):LwF os b0 p p H H:=⟨Ac2 _,λ_ _ _ _ _=>rfl,λ_ h=>.inl h⟩
theorem LwF.trans {os b0:Nat}{p p' p'':AV}{A B C:AH}(h:LwF os b0 p p' A B)(k:LwF os b0 p' p'' B C):LwF os b0 p p'' A C:=
  ⟨Ad8 h.len k.len,λj hj h1 h3 hp=>by
    rw[k.same j (Af0 hj h.len) h1 h3 (λhp'=>(h.ids j hp').elim hp (λq=>by omega)),h.same j hj h1 h3 hp],
   λj hj=>(k.ids j hj).elim (h.ids j) (λq=>.inr (Ad8 h.len q))⟩
theorem LwF.of_grew {os b0:Nat}{p:AV}{H H':AH}(g:Grew H H'):LwF os b0 p p H H':=⟨g.1,λj hj _ _ _=>g.2 j hj,λ_ h=>.inl h⟩
theorem LwS.grew {os b0:Nat}{ino:Int}{s:StS}{at':Int}{p:AV}{H H':AH}(h:LwS os b0 ino s at' p H)(g:Grew H H'):LwS os b0 ino s at' p H':=by
 obtain⟨a,ha⟩:=h.br;exact⟨h.st.grew g,g.cells h.bx,g.cells h.bi,⟨a,g.cells ha⟩,g.cells h.ba,h.no,h.nb⟩
theorem kY {os b0:Nat}{ino:Int}{s:StS}{at':Int}{p w:AV}{H:AH}{N:Nat}{b:List UInt8}{K0:AV→AH→Prop}{J X:AH→Prop}(h:LwS os b0 ino s at' p H)(hw:SW N s)(hN:N+9*b.length<900000)
  (hv:Aa H 1 w=some (AB b,b.length)) (hvi:∀j∈AU w,j≠os∧j∉AU p) (ha:0≤at'∧at'+b.length≤9223372036854775807)
  (hj:(BI s ino at' b).1.2=0→∀p' H',LwS os b0 ino (BI s ino at' b).2 (at'+(BI s ino at' b).1.1) p' H'→LwF os b0 p p' H H'→J H')
  (hx:(BI s ino at' b).1.2≠0→∀p' H',StAt (BI s ino at' b).2 os p' H'→LwF os b0 p p' H H'→H'[b0+2]?=some (some (.cells [I (BI s ino at' b).1.2]))→X H'):
  Ew (λe H'=>match e with | .normal=>J H' | .ret=>X H' | _=>False) (.ptr b0 0) (.ptr (b0+1) 0) (.ptr (b0+2) 0) (.ptr (b0+3) 0) w H K0:=by
 unfold Ew;obtain⟨n1,n2⟩:=Z4 s ino at' b;obtain⟨r,H1,⟨rfl,p',h1,f1⟩,hc⟩:=WO h.st hw ino at' hN hv hvi;generalize BI s ino at' b=W at*;have d4:=h.no;have hl3:b0+3<H.length:=(BD.1 h.ba).1;have np:∀j,j<H.length→j∉AU p→j∉AU p':=λj hj hp q=>(f1.ids j q).elim hp (λq=>by omega)
 have keep:∀j,b0≤j→j≤b0+3→H1[j]?=H[j]?:=λj hj1 hj2=>f1.same j (by omega) (by omega) (h.nb j hj1 hj2)
 have kx:H1[b0]?=_:=(keep b0 (by omega) (by omega)).trans h.bx;have ki:H1[b0+1]?=_:=(keep _ (by omega) (by omega)).trans h.bi;have ka:H1[b0+3]?=_:=(keep _ (by omega) (by omega)).trans h.ba;obtain⟨a2,q2⟩:=h.br;have kr:H1[b0+2]?=_:=(keep _ (by omega) (by omega)).trans q2;simp only[Ak h.bx,Ak h.bi,Ak h.ba,Ah,CL,Ab];refine bC_of hc ?_;have hlen:=f1.len;have hid:∀j∈AU p',j<H1.length:=h1.p_lt;simp only[zL,Ab3]
 have nob:∀j,j=os∨j∈AU p'→j≠b0+2∧j≠b0+3:=by
  intro j hj;rcases hj with rfl | hj
  ·omega
  ·exact⟨λe=>np (b0+2) (by omega) (h.nb _ (by omega) (by omega)) (by rw[← e];exact hj),λe=>np (b0+3) (by omega) (h.nb _ (by omega) (by omega)) (by rw[← e];exact hj)⟩
 by_cases he:W.1.2=0
 ·have e1:Ap .add (I at') (I W.1.1)=some (I (at'+W.1.1)):=Aw (by omega) (by omega)
  have e2:AT 1 H1 (.ptr (b0+3) 0) (I (at'+W.1.1))=some (H1.set (b0+3) (some (.cells [I (at'+W.1.1)]))):=oM ka (by simp) rfl;simp only[he,yR,yY,Ak ka,Ah,CL,Ab,e1,e2,AE];generalize hH2:H1.set (b0+3) (some (AObj.cells [I (at'+W.1.1)]))=H2;have g2:∀j,j≠b0+3→H2[j]?=H1[j]?:=λj hj=>by rw[← hH2];exact C4 (Af4 hj)
  have ga:H2[b0+3]?=some (some (.cells [I (at'+W.1.1)])):=by rw[← hH2];exact JW (by omega)
  have l2:H2.length=H1.length:=by rw[← hH2,Ae1]
  exact hj he p' H2 ⟨h1.keep λj hj=>g2 j (nob j hj).2,by rw[g2 _ (by omega)];exact kx,by rw[g2 _ (by omega)];exact ki,⟨a2,by rw[g2 _ (by omega)];exact kr⟩,ga,d4,λj hj1 hj2=>np j (by omega) (h.nb j hj1 hj2)⟩
   ⟨by omega,λj hj h1 h3 hp=>by rw[g2 j (by omega),f1.same j hj h1 hp],f1.ids⟩
 ·have e2:AT 1 H1 (.ptr (b0+2) 0) (I W.1.2)=some (H1.set (b0+2) (some (.cells [I W.1.2]))):=oM kr (by simp) rfl
  simp only[he,yT,zE,e2,AE];generalize hH2:H1.set (b0+2) (some (AObj.cells [I W.1.2]))=H2;have g2:∀j,j≠b0+2→H2[j]?=H1[j]?:=λj hj=>by rw[← hH2];exact C4 (Af4 hj)
  have ga:H2[b0+2]?=some (some (.cells [I W.1.2])):=by rw[← hH2];exact JW (by omega)
  have l2:H2.length=H1.length:=by rw[← hH2,Ae1]
  exact hx he p' H2 (h1.keep λj hj=>g2 j (nob j hj).1) ⟨by omega,λj hj h1 h3 hp=>by rw[g2 j (by omega),f1.same j hj h1 hp],f1.ids⟩ ga
noncomputable abbrev tC:Code:=AL f36
theorem tD (x3 x4 x6 x7 x13 x14 x15 x20 x:AV)(H:AH)(Q:Exit→List AV→AH→Prop):AJ prog (KM []) Aq Aq Aq (Co []) (Yk (sub sS tC)) 0 ((AW (mk 37 0 [3,4,6,7,13,14,15,20]) [x3,x4,x6,x7,x13,x14,x15,x20]).set 21 x) H (λe T H=>fP (mk 37 0 [3,4,6,7,10]) T λX=>Q e X H)=Q .normal [x3,x4,x6,x7,x] H:=by kernel_rfl
theorem fY:E5 (KM []) Aq (Yk (sub sS tC))=true:=by kernel_rfl
theorem lC:CJ AA uS L5 (sub (sS++[true]) tC)=true:=by kernel_rfl
theorem tE {x3 x4 x6 x7 x13 x14 x15 x20 x:AV}{H:AH}{J X:AH→Prop}{K0:AV→AH→Prop}(h:Ew (λe H'=>match e with | .normal=>J H' | .ret=>X H' | _=>False) x3 x4 x6 x7 x H K0):
  VZ prog (Yk (sub sS tC)) (sub (sS++[true]) tC) (AW (mk 37 0 [3,4,6,7,13,14,15,20]) [x3,x4,x6,x7,x13,x14,x15,x20]) 21 x H J (λc H'=>c=.ret∧X H'):=by
 obtain⟨e,T',H',hk,hb⟩:=Fw Kn (Yk (sub sS tC)) 0 _ H _ fY (Eq.mpr (tD x3 x4 x6 x7 x13 x14 x15 x20 x H (λe X H2=>e=.normal∧X=[x3,x4,x6,x7,x]∧H2=H)) ⟨rfl,rfl,rfl⟩);obtain⟨hl,he,hX,hH⟩:=BN.1 hk;subst he;subst hH;refine⟨T',hb,?_⟩;refine ACode.weak (λG a hF=>DQ hl hF) ?_;rw[hX];refine(DW Kn (sub (sS++[true]) tC) _ _ _ _ lC (Eq.mpr (Si (λe H'=>match e with | .normal=>J H' | .ret=>X H' | _=>False) x3 x4 x6 x7 x _ K0) h)).mono ?_;intro e T H2 hk;cases e with
 | normal=>exact hk
 | ret=>exact⟨rfl,hk⟩
 | _=>exact hk.elim
theorem yN {R4:List AV→AH→Prop}{x3 x4 x6 x7 x13 x14 x15:AV}{H:AH}{K:AV→AH→Prop}{k:FuncId}{cap xs:List AV}{Cap:AH→Prop}(hit:WL prog k cap Cap xs)(hgo:B4 prog k=true)(J:Nat→AH→Prop)(X:AH→Prop)(h0:J 0 H)(hcap:∀i H',J i H'→Cap H')
  (hr:∀i x H',xs[i]?=some x→J i H'→Ew (λe H'=>match e with | .normal=>J (i+1) H' | .ret=>X H' | _=>False) x3 x4 x6 x7 x H' K)
  (hdone:∀H',J xs.length H'→bO (Ap .add x15 (I 1)) λv6=>R4 [x3,x4,x6,x7,x13,x14,v6] H')
  (hout:∀H',X H'→bO (Au false 1 H' x6) λv7=>K v7 H'):OY R4 x3 x4 x6 x7 x13 x14 x15 (.fn (.func k) [] cap) H K:=by
 refine⟨?_⟩;rw[P1];refine ACode.rangeF hit hgo rfl J (λc H'=>c=.ret∧X H') h0 hcap (λi x H' hx hj=>tE (hr i x H' hx hj)) (λH' hj=>?_) (λc H' hx=>.inl ⟨hx.1,?_⟩)
 ·exact Eq.mpr (Sj R4 x3 x4 x6 x7 x13 x14 x15 (.fn (.func k) [] cap) H' K) (hdone H' hj)
 ·exact Eq.mpr (Sk R4 x3 x4 x6 x7 x13 x14 x15 (.fn (.func k) [] cap) H' K) (hout H' hx.2)
end
end Go.Proofs.YtbppnhenlboefaaGreat.Av
