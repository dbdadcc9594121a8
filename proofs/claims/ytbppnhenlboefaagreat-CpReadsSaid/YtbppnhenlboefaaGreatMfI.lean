/- Texts of this proof, one behind the other, packed into one file by a program of this session. No condition. -/
import Derived.Test.YtbppnhenlboefaaGreatMfH
import Derived.KernelRfl
set_option linter.unusedVariables false
set_option linter.unusedSimpArgs false
set_option maxRecDepth 100000
namespace Go.Proofs.YtbppnhenlboefaaGreat.Av
open Go Go.RowKit Go.Proofs.Tryz
section
def GrN (N:Nat)(H H':AH):Prop:=H.length≤H'.length∧∀i,i<N→H'[i]?=H[i]?
structure OwN (N sz:Nat)(cs:List AV)(n:Nat)(r:AV)(H:AH):Prop where
 s:Aa H sz r=some (cs,n)
 o:AP r=true
 i:∀i∈AT r,N≤i
 c:Ch r n
theorem yL {N sz bytes:Nat}{H:AH}{s x:AV}{cs ds:List AV}{n m:Nat}(hs:OwN N sz cs n s H)(hx:AZ H sz x=some (ds,m))(hN:N≤H.length)(hb:(n+m)*bytes≤140737488355328):∃r H',MJ sz bytes H s x=some (r,H')∧OwN N sz (cs++ds) (n+m) r H'∧GrN N H H':=by
 obtain⟨r,H2,a1,a2,a3,a4,a5,a6⟩:=CL (bytes:=bytes) hs.s hs.o hx hb;have a7:=NU hs.s hs.o hx hs.c a1;exact⟨r,H2,a1,⟨a3,a2,λi hi=>(a6 i hi).elim (hs.i i) (λq=>by omega),a7⟩,a4,λi hi=>a5 i (by omega) (λq=>by have:=hs.i i q;omega)⟩
theorem OwN.grew {N sz n:Nat}{cs:List AV}{r:AV}{H H':AH}(h:OwN N sz cs n r H)(g:Grew H H'):OwN N sz cs n r H':=⟨g.slice h.s,h.o,h.i,h.c⟩
section
variable {κ α : Type} {c : κ→κ→Int} {key : α→κ}
theorem Z6 (hc:KO c):∀{l m:List α},BW c key l→BW c key m→(∀x,x∈l↔x∈m)→l=m
 | [],[],_,_,_=>rfl
 | [],b::m,_,_,h=>by have:=(h b).2 (by simp);simp at this
 | a::l,[],_,_,h=>by have:=(h a).1 (by simp);simp at this
 | a::l,b::m,h1,h2,h=>by
  have k1:=Af1.1 h1;have k2:=Af1.1 h2
  have e:a=b:=by
   rcases Ad8.1 ((h a).1 (by simp))with e | q1
   ·exact e
   ·rcases Ad8.1 ((h b).2 (by simp))with e | q2
    ·exact e.symm
    ·exact absurd (hc.trans _ _ _ (k1.1 b q2) (k2.1 a q1)) (hc.irr _)
  subst e
  congr 1
  refine Z6 hc k1.2 k2.2 λx=>?_
  have irr:∀y,y∈l∨y∈m→y≠a:=by
   rintro y (q | q) rfl
   ·exact hc.irr _ (k1.1 y q)
   ·exact hc.irr _ (k2.1 y q)
  constructor
  ·intro q
   rcases Ad8.1 ((h x).1 (by simp[q]))with e | q2
   ·exact absurd e (irr x (.inl q))
   ·exact q2
  ·intro q
   rcases Ad8.1 ((h x).2 (by simp[q]))with e | q2
   ·exact absurd e (irr x (.inr q))
   ·exact q2
theorem N3 (hc:KO c){l:List α}(h:BW c key l){k k2:κ}(hk:AM key l k)(hne:k2≠k):AM key (CV c key l k) k2↔AM key l k2:=by
 constructor
 ·rintro⟨x,hx,e⟩
  exact⟨x,delK_sub.subset hx,e⟩
 ·rintro⟨x,hx,e⟩
  exact⟨x,(Fq hc h hk).2 ⟨hx,by rw[e];exact hne⟩,e⟩
theorem fQ (hc:KO c){l:List α}(h:BW c key l){k k2:κ}(hk:AM key l k)(hk2:AM key l k2)(hne:k≠k2):CV c key (CV c key l k) k2=CV c key (CV c key l k2) k:=by
 refine Z6 hc (Ez (Ez h)) (Ez (Ez h)) λx=>?_
 rw[Fq hc (Ez h) ((N3 hc h hk (Af7 hne)).2 hk2),Fq hc h hk,Fq hc (Ez h) ((N3 hc h hk2 hne).2 hk),Fq hc h hk2,and_right_comm]
end
theorem WJ {ns:List Nm}(hs:BW Ba Nm.name ns){s t:List UInt8}(hk:AM Nm.name ns s)(ht:AM Nm.name ns t)(hne:t≠s):Ff (CV Ba Nm.name ns s) t=Ff ns t:=by
 obtain⟨x,h1,h2,rfl⟩:=cH ht;unfold Ff;rw[h1,Xs koN (Ez hs) ((Fq koN hs hk).2 ⟨h2,hne⟩)]
end
section
theorem VH:∀{bs:List UInt8} {l:List Ext} {p:Int},(Bt l p bs).length≤l.length+bs.length
 | [],l,p=>Ac6 _
 | b::r,l,p=>by
  show(Bt (Dn l p [b]) (p+1) r).length≤_
  have ih:=VH (bs:=r) (l:=Dn l p [b]) (p:=p+1)
  have h:(Dn l p [b]).length≤l.length+1:=by
   unfold Dn
   have:=QZ l (p/8)
   simp[Vy];omega
  simp only[Ae2];omega
theorem oM {o:OpM}{d:Nd}:(cL (O0 o d)).length≤d.l.length+o.b.length+4098:=by
 unfold O0
 split
 ·unfold DA
  split
  ·split
   ·simp only[cL,Ak0];omega
   ·simp only[cL,Ak0]
    have:=VH (bs:=o.b) (l:=d.l) (p:=o.pos)
    omega
  ·simp[cL]
 ·split
  ·unfold Cg
   split
   ·simp only[cL,Ak0,Dq,Pw,Af2]
    exact Ae1 (Ai5 _ _) (by omega)
   ·simp[cL]
  ·split
   ·unfold Gr
    split
    ·simp only[cL,Ak0,Pz]
     have:=(aQ (k:=allocN o.pos o.size) (l:=d.l) (no:=o.pos/8)).1
     have hN:allocN o.pos o.size≤4098:=by unfold allocN;omega
     omega
    ·simp[cL]
   ·split
    ·unfold Io
     split
     ·simp only[cL,Ak0,Kq,Pw,Af2]
      exact Ae1 (Ai5 _ _) (by omega)
     ·simp[cL]
    ·simp[cL]
def uZ (ns:List Nm)(ds:List Nd):Prop:=ns.length≤30∧ds.length≤30∧(∀d∈ds,d.l.length≤60)∧JE ds≤300
instance (ns:List Nm) (ds:List Nd):Decidable (uZ ns ds):=by unfold uZ;infer_instance
theorem OwI.lend {L:Nat}{ns:List Nm}{dv:List NdV}{a b:AV}{H:AH}(h:OwI L ns dv a b H):∃R,ImV ns (dv.map NdV.nd) R∧FZ H (.agg [a,b]) R:=by
 obtain⟨Ra,h1,f1⟩:=FZ.sv h.sa (Db λx _=>ND x);obtain⟨Rb,h2,f2⟩:=FZ.sv h.sb (Db λx _=>Kd x);exact⟨_,⟨Ra,Rb,dv,rfl,h1,h2,rfl⟩,FZ.agg (FZs.cons f1 (FZs.cons f2 FZs.nil))⟩
theorem rD {ns:List Nm}{ds:List Nd}{v:AV}(hv:ImV ns ds v)(hb:Sm ns ds):∃R,ImV ns ds R∧BPure prog 43 [v] R:=by
 have hids:=hv.noIds;obtain⟨a,b,dv,rfl,sa,sb,rfl⟩:=hv;have b2:=hb.2.1;rw[Af2]at b2;obtain⟨r,X,⟨a',b',ew,rfl,hew,-,ow⟩,hc⟩:=iP (H:=[]) sa sb hb.1 b2 (λd hd=>hb.2.2.2 d.nd (Ag1 hd));obtain⟨R,hR,fR⟩:=ow.lend;rw[hew]at hR;exact BPure.FZ hids ⟨_,X,⟨R,fR,hR⟩,hc⟩
structure OpV where
 o:OpM
 bv:AV
 h:SV J9 1 o.b bv
def MA (x:OpV):List AV:=DG x.o x.bv
theorem UG (x:OpV):(MA x).length=8:=rfl
theorem xE {H:AH}{w:AV}{l:List OpV}{k:Nat}{x:OpV}(hw:Aa H 8 w=some (l.flatMap MA,l.length))(hx:l[k]?=some x):∃p,Bh 8 w (I k)=some p∧Ar true 8 H p=some (.agg (DG x.o x.bv)):=by
 have hk:=(B8.1 hx).1;obtain⟨p,c,h1,h2,h3,h4⟩:=K8 hw (i:=(k:Int)) rfl hk
 have hc:c.take 8=MA x:=by
  rw[h3,Da UG hx,Ad7 (by rw[UG];omega),Ac5 (by rw[UG];omega)]
 exact⟨p,h1,by rw[RL h2 (by omega) h4,FN (by omega),Ae3,hc];rfl⟩
section
variable {α κ ι : Type} {c : κ→κ→Int} {key : α→κ}
theorem UZ {f:α→ι}{l:List α}{x:α}{i:ι}:AM f (Jq c key l x) i↔f x=i∨AM f l i:=by
 unfold AM
 constructor
 ·rintro⟨y,hy,e⟩
  rcases G4.1 hy with rfl | hy
  ·exact .inl e
  ·exact .inr ⟨y,hy,e⟩
 ·rintro(e | ⟨y,hy,e⟩)
  ·exact⟨x,G4.2 (.inl rfl),e⟩
  ·exact⟨y,G4.2 (.inr hy),e⟩
theorem Sr (hc:KO c){f:α→ι}{l:List α}(h:BW c key l){k:κ}(hk:AM key l k){i:ι}:AM f (CV c key l k) i↔∃y∈l,key y≠k∧f y=i:=by
 unfold AM
 constructor
 ·rintro⟨y,hy,e⟩
  obtain⟨h1,h2⟩:=(Fq hc h hk).1 hy;exact⟨y,h1,h2,e⟩
 ·rintro⟨y,hy,h2,e⟩
  exact⟨y,(Fq hc h hk).2 ⟨hy,h2⟩,e⟩
theorem Ol {β:Type}{f:α→β}:∀{l:List α},l.Nodup→((l.map f).Nodup↔∀x∈l,∀y∈l,f x=f y→x=y)
 | [],_=>by simp
 | a::l,h=>by
  obtain⟨h1,h2⟩:=Ak4.1 h;rw[Aj5,Ak4,Ol h2]
  constructor
  ·rintro⟨h3,h4⟩ x hx y hy e
   rcases Ad8.1 hx with hx1 | hx1<;>rcases Ad8.1 hy with hy1 | hy1
   ·rw[hx1,hy1]
   ·rw[hx1]at e;exact absurd (Af4.2 ⟨y,hy1,e.symm⟩) h3
   ·rw[hy1]at e;exact absurd (Af4.2 ⟨x,hx1,e⟩) h3
   ·exact h4 x hx1 y hy1 e
  ·intro h3
   refine⟨λhm=>?_,λx hx y hy=>h3 x (by simp[hx]) y (by simp[hy])⟩;obtain⟨y,hy,e⟩:=Af4.1 hm
   have:=h3 y (by simp[hy]) a (by simp) e
   exact h1 (this▸hy)
theorem PN (hc:KO c){l:List α}(h:BW c key l):l.Nodup:=by
 refine List.Pairwise.imp ?_ h;rintro a b hab rfl;exact hc.irr _ hab
end
structure MayW (ns:List Nm)(ds:List Nd):Prop where
 len:ns.length≤16
 nm:∀x∈ns,Gz x.name∧1≤x.ino∧x.ino≤4611686018427387904
 srt:BW Ba Nm.name ns
 inj:∀x∈ns,∀y∈ns,x.ino=y.ino→x=y
 sd:BW BX Nd.ino ds
 mc:∀d∈ds,Ck d.size d.l
 ino:∀i,AM Nd.ino ds i↔AM Nm.ino ns i
theorem aH {ds:List Nd}(h:BW BX Nd.ino ds):(ds.map Nd.ino).Nodup:=by
 rw[List.Nodup,Ak9];exact h.imp λh=>by rw[Xx]at h;omega
theorem FH {ns:List Nm}{ds:List Nd}:Ko ns ds↔MayW ns ds:=by
 constructor
 ·intro h
  have h2:=Zd.1 h;obtain⟨h21,h22,⟨h23,h24,h25⟩,h26,h27,h28⟩:=h2;refine⟨h21,h23,h24,(Ol (PN koN h24)).1 h25,h26,h28,λi=>⟨?_,?_⟩⟩
  ·rintro⟨d,hd,rfl⟩
   exact(h.2.2.2 d hd).1
  ·rintro⟨x,hx,rfl⟩
   exact h27 x hx
 ·intro h
  refine⟨⟨h.len,h.nm,h.srt,(Ol (PN koN h.srt)).2 h.inj⟩,?_,h.sd,λd hd=>⟨(h.ino d.ino).1 ⟨d,hd,rfl⟩,h.mc d hd⟩⟩
  have hp:=(List.perm_ext_iff_of_nodup (aH h.sd) ((Ol (PN koN h.srt)).2 h.inj)).2 λi=>by
   have:=h.ino i
   unfold AM at this
   simpa[Af4]using this
  have:=hp.length_eq
  simpa using this
theorem WK {ns:List Nm}(hs:BW Ba Nm.name ns){x:Nm}(hx:x∈ns):Ff ns x.name=x.ino:=by
 unfold Ff;rw[Xs koN hs hx]
theorem lP {ns:List Nm}{s:List UInt8}(h:¬AM Nm.name ns s):Ff ns s=0:=by
 unfold Ff;rw[Y2 h]
theorem MayW.rem {ns:List Nm}{ds:List Nd}{s:List UInt8}(h:MayW ns ds)(hk:AM Nm.name ns s):MayW (CV Ba Nm.name ns s) (CV BX Nd.ino ds (Ff ns s)):=by
 obtain⟨x,hx,rfl⟩:=hk;have hk:AM Nm.name ns x.name:=⟨x,hx,rfl⟩;rw[WK h.srt hx];have hd:AM Nd.ino ds x.ino:=(h.ino _).2 ⟨x,hx,rfl⟩;have sub:∀y,y∈CV Ba Nm.name ns x.name→y∈ns:=λy hy=>delK_sub.subset hy
 have hl:=Nj (Va koN h.srt hk)
 have:=h.len
 refine⟨by omega,λy hy=>h.nm y (sub y hy),Ez h.srt,λy hy z hz=>h.inj y (sub y hy) z (sub z hz),Ez h.sd,λd hd=>h.mc d (delK_sub.subset hd),λi=>?_⟩;rw[Sr koI h.sd hd,Sr koN h.srt hk]
 constructor
 ·rintro⟨d,hd1,hd2,rfl⟩
  obtain⟨y,hy,e⟩:=(h.ino d.ino).1 ⟨d,hd1,rfl⟩;exact⟨y,hy,λe2=>hd2 (by rw[← e,SF koN h.srt hy hx e2]),e⟩
 ·rintro⟨y,hy,hne,rfl⟩
  obtain⟨d,hd1,e⟩:=(h.ino y.ino).2 ⟨y,hy,rfl⟩;exact⟨d,hd1,λe2=>hne (by rw[h.inj y hy x hx (by rw[← e,e2])]),e⟩
theorem MayW.ren {ns:List Nm}{ds:List Nd}{s t:List UInt8}(h:MayW ns ds)(hk:AM Nm.name ns s)(ht:¬AM Nm.name ns t)(hm:Gz t):MayW (Jq Ba Nm.name (CV Ba Nm.name ns s) ⟨t,Ff ns s⟩) ds:=by
 obtain⟨x,hx,rfl⟩:=hk;have hk:AM Nm.name ns x.name:=⟨x,hx,rfl⟩;rw[WK h.srt hx];have mem:∀y,y∈Jq Ba Nm.name (CV Ba Nm.name ns x.name) ⟨t,x.ino⟩↔y=⟨t,x.ino⟩∨(y∈ns∧y.name≠x.name):=λy=>by rw[G4,Fq koN h.srt hk]
 have hl:=Nj (Va koN h.srt hk)
 have:=h.len
 refine⟨by rw[Vj];omega,?_,V7 koN (Ez h.srt) (λhh=>ht ?_),?_,h.sd,h.mc,λi=>?_⟩
 ·intro y hy
  rcases(mem y).1 hy with rfl | ⟨hy,-⟩
  ·exact⟨hm,(h.nm x hx).2⟩
  ·exact h.nm y hy
 ·obtain⟨y,hy,e⟩:=hh
  exact⟨y,delK_sub.subset hy,e⟩
 ·intro y hy z hz e
  rcases(mem y).1 hy with rfl | ⟨hy,hny⟩<;>rcases(mem z).1 hz with rfl | ⟨hz,hnz⟩
  ·rfl
  ·exact absurd (by rw[h.inj x hx z hz e]) hnz
  ·exact absurd (by rw[h.inj y hy x hx e]) hny
  ·exact h.inj y hy z hz e
 ·rw[h.ino i,UZ,Sr koN h.srt hk]
  constructor
  ·rintro⟨y,hy,rfl⟩
   by_cases c:y.name=x.name
   ·exact .inl (by rw[SF koN h.srt hy hx c])
   ·exact .inr ⟨y,hy,c,rfl⟩
  ·rintro(rfl | ⟨y,hy,-,rfl⟩)
   ·exact⟨x,hx,rfl⟩
   ·exact⟨y,hy,rfl⟩
theorem lO:Ck 0 []:=by decide
theorem MayW.cre {ns:List Nm}{ds:List Nd}{o:OpM}(h:MayW ns ds)(hc:fK ns ds o):MayW (Jq Ba Nm.name ns ⟨o.name,o.ino⟩) (Jq BX Nd.ino ds ⟨o.ino,0,[]⟩):=by
 obtain⟨h1,h2,h3,h4,h5,h6⟩:=hc;have hn:¬AM Nm.ino ns o.ino:=λhh=>h2 ((h.ino _).2 hh)
 refine⟨by rw[Vj];omega,?_,V7 koN h.srt h1,?_,V7 koI h.sd h2,?_,λi=>by rw[UZ,UZ,h.ino]⟩
 ·intro y hy
  rcases G4.1 hy with rfl | hy
  ·exact⟨h3,h4,h5⟩
  ·exact h.nm y hy
 ·intro y hy z hz e
  rcases G4.1 hy with rfl | hy<;>rcases G4.1 hz with rfl | hz
  ·rfl
  ·exact absurd ⟨z,hz,e.symm⟩ hn
  ·exact absurd ⟨y,hy,e⟩ hn
  ·exact h.inj y hy z hz e
 ·intro d hd
  rcases G4.1 hd with rfl | hd
  ·exact lO
  ·exact h.mc d hd
theorem jX {o:OpM}{d:Nd}{c:Gn}(hk:o.kind=2∨o.kind=3∨o.kind=4∨o.kind=5)(h:O0 o d=some c):Ck c.1 c.2:=by
 unfold O0 at h;split at h
 ·exact Of h
 ·split at h
  ·exact gN h
  ·split at h
   ·exact gL h
   ·split at h
    ·exact gM h
    ·omega
theorem fG {ds:List Nd}{o:OpM}(hs:BW BX Nd.ino ds):(Qq ds o).map Nd.ino=ds.map Nd.ino:=by
 unfold Qq
 split
 ·rename_i d hd
  split
  ·rename_i c hc
   have hk:AM Nd.ino ds o.ino:=⟨d,Am7 hd,by simpa using List.find?_some hd⟩;obtain⟨y,h1,h2,h3⟩:=Lk koI hs hk;have e:y=d:=by rw[hd]at h2;injection h2 with h2;exact h2.symm
   rw[Am1,← e];apply Ae8;intro j;rw[Ag8]
   split
   ·rename_i hj
    subst hj
    split
    ·rw[Af3,h1];rfl
    ·rename_i hl
     rw[Af3,h1]
     have:=(B8.1 h1).1
     simp at hl;omega
   ·rfl
  ·rfl
 ·rfl
theorem mY {ds es:List Nd}(e:ds.map Nd.ino=es.map Nd.ino)(h:BW BX Nd.ino es):BW BX Nd.ino ds:=by
 unfold BW at h⊢;have h1:(es.map Nd.ino).Pairwise λa b=>BX a b<0:=Ak9.2 h
 rw[← e]at h1;exact Ak9.1 h1
theorem kU {ds es:List Nd}(e:ds.map Nd.ino=es.map Nd.ino)(i:Int):AM Nd.ino ds i↔AM Nd.ino es i:=by
 have a:∀l:List Nd,AM Nd.ino l i↔i∈l.map Nd.ino:=λl=>by unfold AM;simp[Af4]
 rw[a,a,e]
theorem Zf {ds:List Nd}{o:OpM}(hs:BW BX Nd.ino ds){d:Nd}(h:d∈Qq ds o):d∈ds∨(d.ino=o.ino∧∃e∈ds,e.ino=o.ino∧O0 o e=some (d.size,d.l)):=by
 unfold Qq at h;split at h
 ·rename_i e he
  split at h
  ·rename_i c hc
   have e1:=Am7 he;have e2:e.ino=o.ino:=by simpa using List.find?_some he
   rcases List.mem_or_eq_of_mem_set h with h | h
   ·exact .inl h
   ·exact .inr ⟨by rw[h];exact e2,e,e1,e2,by rw[h];exact hc⟩
  ·exact .inl h
 ·exact .inl h
theorem MayW.chg {ns:List Nm}{ds:List Nd}{o:OpM}(h:MayW ns ds)(hk:o.kind=2∨o.kind=3∨o.kind=4∨o.kind=5):MayW ns (Qq ds o):=by
 have hi:=fG (o:=o) h.sd;refine⟨h.len,h.nm,h.srt,h.inj,mY hi h.sd,λd hd=>?_,λi=>by rw[kU hi,h.ino]⟩;rcases Zf h.sd hd with hd | ⟨-,e,-,-,he⟩
 ·exact h.mc d hd
 ·exact jX hk he
theorem uC {ns:List Nm}{ds:List Nd}{s t:List UInt8}(h:MayW ns ds)(hk:AM Nm.name ns s)(hne:s≠t):
  (Jq Ba Nm.name (Fg (CV Ba Nm.name ns s) t) ⟨t,Ff ns s⟩,Vz (CV Ba Nm.name ns s) ds t)=(Jq Ba Nm.name (CV Ba Nm.name (Fg ns t) s) ⟨t,Ff (Fg ns t) s⟩,Vz ns ds t):=by
 unfold Fg Vz
 by_cases c:AM Nm.name ns t
 ·have c1:AM Nm.name (CV Ba Nm.name ns s) t:=(N3 koN h.srt hk (Af7 hne)).2 c
  rw[if_pos c1,if_pos c,if_pos c1,if_pos c,fQ koN h.srt hk c hne,WJ h.srt hk c (Af7 hne),WJ h.srt c hk hne]
 ·have c1:¬AM Nm.name (CV Ba Nm.name ns s) t:=λhh=>c ((N3 koN h.srt hk (Af7 hne)).1 hh)
  rw[if_neg c1,if_neg c,if_neg c1,if_neg c]
theorem MayW.remN {ns:List Nm}{ds:List Nd}(h:MayW ns ds)(t:List UInt8):MayW (Fg ns t) (Vz ns ds t)∧¬AM Nm.name (Fg ns t) t:=by
 unfold Fg Vz
 by_cases c:AM Nm.name ns t
 ·rw[if_pos c,if_pos c]
  refine⟨h.rem c,?_⟩;rintro⟨y,hy,e⟩;exact((Fq koN h.srt c).1 hy).2 e
 ·rw[if_neg c,if_neg c];exact⟨h,c⟩
theorem kV {ns:List Nm}(hs:BW Ba Nm.name ns){s t:List UInt8}(hne:s≠t):AM Nm.name (Fg ns t) s↔AM Nm.name ns s:=by
 unfold Fg
 split
 ·rename_i c;exact N3 koN hs c hne
 ·rfl
theorem jM {ns:List Nm}{ds:List Nd}(h:MayW ns ds)(o:OpM):MayW (B5 ns ds o).1 (B5 ns ds o).2:=by
 unfold B5;rw[if_pos (FH.2 h)]
 split
 ·split
  ·rename_i hc;exact h.cre hc
  ·exact h
 ·split
  ·rename_i hk;exact h.chg hk
  ·split
   ·split
    ·rename_i hr
     obtain⟨h1,h2,h3⟩:=hr;rw[uC h h1 h3];obtain⟨g1,g2⟩:=h.remN o.to;exact g1.ren ((kV h.srt h3).2 h1) g2 h2
    ·exact h
   ·split
    ·exact(h.remN o.name).1
    ·exact h
theorem oQ {ns:List Nm}{ds:List Nd}(h:MayW ns ds)(s:List UInt8):JU ns ds s=Ff ns s∧(PC ns ds s↔AM Nm.name ns s):=by
 have hm:=FH.2 h;have hi:PC ns ds s↔AM Nm.name ns s:=⟨λhh=>hh.2,λhh=>⟨hm,hh⟩⟩;refine⟨?_,hi⟩;unfold JU
 by_cases c:PC ns ds s
 ·rw[if_pos c]
 ·rw[if_neg c,lP (λhh=>c (hi.2 hh))]
theorem X7 {ns:List Nm}{ds:List Nd}(h:MayW ns ds){d:Nd}(hd:d∈ds):E2 ns ds d.ino=d∧O5 ns ds d.ino:=by
 have hg:O5 ns ds d.ino:=⟨FH.2 h,d,hd,rfl⟩;refine⟨?_,hg⟩;unfold E2;rw[if_pos hg,Xs koI h.sd hd];rfl
theorem qF {ns:List Nm}{ds:List Nd}(h:MayW ns ds):ZA ns ds=JE ds:=by unfold ZA;rw[if_pos (FH.2 h)]
end
section
def old (N:Nat)(X:AH):AH:=List.replicate N none++X.drop N
theorem dI {N:Nat}{X:AH}{o:Nat}{x:AObj}(h:(old N X)[o]?=some (some x)):N≤o∧X[o]?=some (some x):=by
 unfold old at h;rcases Ac9 o N with hlt | hge
 ·rw[Ac3 (by simpa using hlt),An1,if_pos hlt]at h
  cases h
 ·rw[Ac8 (by simpa using hge),List.length_replicate,Ad5]at h
  rw[show N+(o - N)=o by omega]at h;exact⟨hge,h⟩
def Cfg.less (G:Cfg)(L:Nat→Prop):Cfg:={G with L:=L}
theorem HR.less {G:Cfg}{H:AH}(hr:HR G H)(L:Nat→Prop)(hL:∀b,L b→G.L b)(hl:∀(o:Nat) (x:AObj),H[o]?=some (some x)→L (G.μ o).1):HR (G.less L) H:=by
 have ht:Tr G (G.less L):=⟨Ac6 _,λ_ _=>rfl,λad vs hh=>hh.imp id λh=>⟨λhh=>h.1 (hh.imp (hL _) id),h.2⟩⟩;exact⟨hr.n,λo x ho=>OR.tr ht (hr.lt_n ho) rfl (hr.obj o x ho),hr.inj,hl,λb hb=>hr.lt b (hb.imp (hL _) id),λb hb=>hr.dis b (hL b hb)⟩
theorem HR.fewer {G:Cfg}{H H2:AH}(hr:HR G H)(hlen:H2.length=H.length)(h:∀(o:Nat) (x:AObj),H2[o]?=some (some x)→H[o]?=some (some x)):HR G H2:=
 ⟨by rw[hlen];exact hr.n,λo x ho=>hr.obj o x (h o x ho),λo o' x x' ho ho'=>hr.inj o o' x x' (h o x ho) (h o' x' ho'),λo x ho=>hr.live o x (h o x ho),hr.lt,hr.dis⟩
section
variable {P : Program}
theorem ACalls.fzNew {f:FuncId}{args:List AV}{H:AH}{R:AV→AH→Prop}{R':AV→Prop}(h:ACalls P f args H R)
  (hR:∀r H1,R r H1→H.length≤H1.length∧(∀o,o<H.length→H1[o]?=H[o]?)∧∃n r',K7 (old H.length H1) n r=some r'∧R' r'):ACalls P f args H λr' H'=>R' r'∧H'=H:=by
 intro G vs hH hv;refine(h G vs hH hv).mono ?_;rintro e w' ⟨r,H1,G',v,rfl,rfl,hE,hx,hX,hq⟩;obtain⟨hlen,hpre,n,r',hf,hr'⟩:=hR r H1 hq
 have e1:H1=H++H1.drop H.length:=by
  apply Ae8;intro o;rcases Ac9 o H.length with hlt | hge
  ·rw[Ac3 hlt,hpre o hlt]
  ·rw[Ac8 hge,Ad5,show H.length+(o - H.length)=o by omega]
 have hX1:HR G' (H++H1.drop H.length):=by rw[← e1];exact hX
 have hF:HR {G' with n:=H.length} H:=hX1.forget λo x ho=>by
  have:=(hH.obj o x ho).bel
  rwa[hH.n]at this
 let L2:Nat→Prop:=λb=>G.L b∧G'.L b∧∀(o:Nat) (x:AObj),H.length≤o→H1[o]?=some (some x)→b≠(G'.μ o).1
 have hF2:=hF.less L2 (λb hb=>hb.2.1) (λo x ho=>by
  have hlt:=(B8.1 ho).1;have ho1:H1[o]?=some (some x):=by rw[hpre o hlt];exact ho
  have hμ:G'.μ o=G.μ o:=hE.μ o (by rw[hH.n];exact hlt);refine⟨?_,hX.live o x ho1,λo' x' hge ho' he=>?_⟩
  ·show G.L (G'.μ o).1
   rw[hμ];exact hH.live o x ho
  ·have:=hX.inj o o' x x' ho1 ho' he
   omega)
 have hE2:Evo G (Cfg.less {G' with n:=H.length} L2):=⟨hE.os,hE.tape,hE.output,hE.size,λk hk hL=>⟨(hE.keep k hk hL).1,λhh=>hL hh.1⟩,by show G.n≤H.length;rw[hH.n];exact Ac6 _,λo ho=>hE.μ o ho,hE.K⟩;have hK:HR G' (old H.length H1):=hX.fewer (by unfold old;simp;omega) λo x ho=>(dI ho).2
 refine⟨r',H,Cfg.less {G' with n:=H.length} L2,v,rfl,rfl,hE2,?_,hF2,hr',rfl⟩;refine X5 (G':=G') (G'':=Cfg.less {G' with n:=H.length} L2) rfl (λb hn hh=>hn (hh.imp (λh=>h.2.1) id)) hK ?_ n r v r' hx hf;intro o x ho hh;obtain⟨h1,h2⟩:=dI ho;rcases hh with hh | hh
 ·exact hh.2.2 o x h1 h2 rfl
 ·exact hX.dis _ (hX.live o x h2) hh
end
end
section
abbrev bV:=List Nm×List Nd
structure StS where
 cap:Int
 now:bV
 kept:bV
 pend:List OpM
 made:Int
 armed:Int
 off:Bool
def Li (room:Int):StS:=⟨min (max room 0) 4096,([],[]),([],[]),[],0,-1,false⟩
def wt (o:OpM):Nat:=1+o.b.length+if o.kind=4 then 4098 else 0
def TV (l:List OpM):Nat:=(l.map wt).sum
theorem sH {o:OpM}{d:Nd}{c:Gn}(h:O0 o d=some c):c.2.length≤d.l.length+wt o:=by
 have h4:=oM (o:=o) (d:=d);rw[h]at h4;simp only[cL,Ak0]at h4;unfold wt
 by_cases c4:o.kind=4
 ·rw[if_pos c4];omega
 ·rw[if_neg c4]
  unfold O0 at h;split at h
  ·unfold DA at h
   split at h
   ·injection h with h
    subst h
    split
    ·simp
    ·have:=VH (bs:=o.b) (l:=d.l) (p:=o.pos)
     simp only;omega
   ·cases h
  ·split at h
   ·unfold Cg at h
    split at h
    ·injection h with h
     subst h;simp only[Dq,Pw,Af2];exact Ae1 (Ai5 _ _) (by omega)
    ·cases h
   ·split at h
    ·unfold Io at h
     split at h
     ·injection h with h
      subst h;simp only[Kq,Pw,Af2];exact Ae1 (Ai5 _ _) (by omega)
     ·cases h
    ·cases h
def Few1 (M:Nat)(i:bV):Prop:=MayW i.1 i.2∧∀d∈i.2,d.l.length≤M
theorem Zy {ns:List Nm}{ds:List Nd}{s:List UInt8}{d:Nd}(h:d∈Vz ns ds s):d∈ds:=by
 unfold Vz at h;split at h
 ·exact delK_sub.subset h
 ·exact h
theorem Few1.step {M:Nat}{i:bV}(h:Few1 M i)(o:OpM):Few1 (M+wt o) (B5 i.1 i.2 o):=by
 refine⟨jM h.1 o,λd hd=>?_⟩;have old:d∈i.2→d.l.length≤M+wt o:=λhd=>Ae1 (h.2 d hd) (by omega)
 unfold B5 at hd;rw[if_pos (FH.2 h.1)]at hd;split at hd
 ·split at hd
  ·rcases G4.1 hd with rfl | hd
   ·simp
   ·exact old hd
  ·exact old hd
 ·split at hd
  ·rcases Zf h.1.sd hd with hd | ⟨-,e,he,-,hc⟩
   ·exact old hd
   ·have:=sH hc
    have:=h.2 e he
    simp only at*;omega
  ·split at hd
   ·split at hd
    ·exact old (Zy hd)
    ·exact old hd
   ·split at hd
    ·exact old (Zy hd)
    ·exact old hd
theorem Few1.mono {M M':Nat}{i:bV}(h:Few1 M i)(hm:M≤M'):Few1 M' i:=⟨h.1,λd hd=>Ae1 (h.2 d hd) hm⟩
theorem MayW.len2 {ns:List Nm}{ds:List Nd}(h:MayW ns ds):ds.length≤16:=by
 have:=(FH.2 h).2.1
 have:=h.len
 omega
theorem Few1.sm {M:Nat}{i:bV}(h:Few1 M i)(hm:M≤1000000):Sm i.1 i.2:=
 ⟨by have:=h.1.len;omega,by have:=h.1.len2;omega,λx hx=>by have:=(h.1.nm x hx).1.2.1;omega,λd hd=>Ae1 (h.2 d hd) hm⟩
def iV (o:OpM):Prop:=o.b.length≤5000∧o.name.length≤20∧o.to.length≤20
structure SW (N:Nat)(s:StS):Prop where
 now:Few1 N s.now
 kept:∃a,Few1 a s.kept∧a+TV s.pend≤N
 ob:∀o∈s.pend,iV o
 made:0≤s.made∧s.made≤N
 cap:0≤s.cap∧s.cap≤4096
 armed: -1≤s.armed∧s.armed≤9223372036854775807
theorem eG {l:List OpM}:l.length≤TV l:=by
 unfold TV
 induction l with
 | nil=>simp
 | cons o l ih=>simp only[Aj5,List.sum_cons,Ae2];unfold wt at*;omega
theorem VJ {l:List OpM}{o:OpM}:TV (l++[o])=TV l+wt o:=by simp[TV]
theorem SW.plen {N:Nat}{s:StS}(h:SW N s):s.pend.length≤N:=by
 obtain⟨a,-,h2⟩:=h.kept
 have:=eG (l:=s.pend)
 omega
theorem SW.mono {N N':Nat}{s:StS}(h:SW N s)(hn:N≤N'):SW N' s:=
 ⟨h.now.mono hn,by obtain⟨a,h1,h2⟩:=h.kept;exact⟨a,h1,by omega⟩,h.ob,by have:=h.made;omega,h.cap,h.armed⟩
theorem Ze:MayW [] []:=⟨by simp,by simp,by simp[BW],by simp,by simp[BW],by simp,λi=>by simp[AM]⟩
theorem S5 (room:Int):SW 0 (Li room):=
 ⟨⟨Ze,by simp[Li]⟩,⟨0,⟨Ze,by simp[Li]⟩,by simp[Li,TV]⟩,by simp[Li],by simp[Li],by simp[Li];omega,by simp[Li]⟩
def Be (s:StS):Bool×StS:=
 if s.off=true∨s.armed=0 then(false,{s with off:=true})
 else if 0<s.armed then(true,{s with armed:=s.armed - 1})
 else(true,s)
def LR (s:StS)(o:OpM):Int×StS:=
 if(Be s).1=true then(0,{(Be s).2 with now:=B5 s.now.1 s.now.2 o,pend:=s.pend++[o]})else(8,(Be s).2)
theorem X4 {N:Nat}{s:StS}(h:SW N s):SW N (Be s).2:=by
 unfold Be
 split
 ·exact⟨h.now,h.kept,h.ob,h.made,h.cap,h.armed⟩
 ·split
  ·exact⟨h.now,h.kept,h.ob,h.made,h.cap,by have:=h.armed;simp only;omega⟩
  ·exact h
theorem Hi (s:StS):(Be s).2.now=s.now∧(Be s).2.kept=s.kept∧(Be s).2.pend=s.pend∧(Be s).2.made=s.made∧(Be s).2.cap=s.cap:=by
 unfold Be
 split
 ·exact⟨rfl,rfl,rfl,rfl,rfl⟩
 ·split<;>exact⟨rfl,rfl,rfl,rfl,rfl⟩
theorem cT {N:Nat}{s:StS}{o:OpM}(h:SW N s)(ho:iV o):SW (N+wt o) (LR s o).2:=by
 have hd:=X4 h;obtain⟨e1,e2,e3,e4,e5⟩:=Hi s;unfold LR
 split
 ·obtain⟨a,h1,h2⟩:=h.kept
  refine⟨h.now.step o,⟨a,by simp only[e2];exact h1,by simp only[VJ];omega⟩,?_,by simp only[e4];have:=h.made;omega,by simp only[e5];exact h.cap,hd.armed⟩;intro x hx;simp only[zP]at hx;rcases hx with hx | rfl
  ·exact h.ob x hx
  ·exact ho
 ·exact hd.mono (by omega)
structure StC (s:StS)(os:Nat)(a b c d p:AV)(pv:List OpV)(H:AH):Prop where
 obj:H[os]?=some (some (.cells [I s.cap,a,b,c,d,p,I s.made,I s.armed,B s.off]))
 now:ImV s.now.1 s.now.2 (.agg [a,b])
 kept:ImV s.kept.1 s.kept.2 (.agg [c,d])
 pm:pv.map OpV.o=s.pend
 ps:Aa H 8 p=some (pv.flatMap MA,pv.length)
 po:AP p=true
 pi:os∉AT p
 pc:Ch p pv.length
def StAt (s:StS)(os:Nat)(p:AV)(H:AH):Prop:=∃a b c d pv,StC s os a b c d p pv H
structure StF (os:Nat)(p p':AV)(H H':AH):Prop where
 len:H.length≤H'.length
 same:∀j,j<H.length→j≠os→j∉AT p→H'[j]?=H[j]?
 ids:∀j∈AT p',j∈AT p∨H.length≤j
theorem StF.refl (os:Nat)(p:AV)(H:AH):StF os p p H H:=⟨Ac6 _,λ_ _ _ _=>rfl,λ_ h=>.inl h⟩
theorem StF.trans {os:Nat}{p p' p'':AV}{A B C:AH}(h:StF os p p' A B)(k:StF os p' p'' B C):StF os p p'' A C:=
  ⟨Ae1 h.len k.len,λj hj hne hp=>by
    rw[k.same j (Af0 hj h.len) hne (λhp'=>(h.ids j hp').elim hp (λq=>by omega)),h.same j hj hne hp],
   λj hj=>(k.ids j hj).elim (h.ids j) (λq=>.inr (Ae1 h.len q))⟩
theorem StF.of_grew {os:Nat}{p:AV}{H H':AH}(g:Grew H H'):StF os p p H H':=⟨g.1,λj hj _ _=>g.2 j hj,λ_ h=>.inl h⟩
theorem StF.grew {os:Nat}{p p':AV}{H H' H'':AH}(h:StF os p p' H H')(g:Grew H' H''):StF os p p' H H'':=h.trans (.of_grew g)
theorem StC.lt {s:StS}{os:Nat}{a b c d p:AV}{pv:List OpV}{H:AH}(h:StC s os a b c d p pv H):os<H.length:=(B8.1 h.obj).1
theorem StC.grew {s:StS}{os:Nat}{a b c d p:AV}{pv:List OpV}{H H':AH}(h:StC s os a b c d p pv H)(g:Grew H H'):StC s os a b c d p pv H':=
 ⟨g.cells h.obj,h.now,h.kept,h.pm,g.slice h.ps,h.po,h.pi,h.pc⟩
theorem StAt.grew {s:StS}{os:Nat}{p:AV}{H H':AH}(h:StAt s os p H)(g:Grew H H'):StAt s os p H':=by
 obtain⟨a,b,c,d,pv,h⟩:=h;exact⟨a,b,c,d,pv,h.grew g⟩
theorem StC.set {s s':StS}{os:Nat}{a b c d a' b' c' d' p:AV}{pv:List OpV}{H:AH}(h:StC s os a b c d p pv H)(hn:ImV s'.now.1 s'.now.2 (.agg [a',b']))(hk:ImV s'.kept.1 s'.kept.2 (.agg [c',d']))(hp:s'.pend=s.pend):
  StC s' os a' b' c' d' p pv (H.set os (some (.cells [I s'.cap,a',b',c',d',p,I s'.made,I s'.armed,B s'.off])))∧StF os p p H (H.set os (some (.cells [I s'.cap,a',b',c',d',p,I s'.made,I s'.armed,B s'.off]))):=by
 refine⟨⟨JX h.lt,hn,hk,by rw[hp];exact h.pm,Ae h.ps λi q=>C2 (λe=>h.pi (by rw[e];exact q)),h.po,h.pi,h.pc⟩,by simp,λj _ hne _=>C2 (Af7 hne),λ_ q=>.inl q⟩
theorem ImV.agg2 {ns:List Nm}{ds:List Nd}{v:AV}(h:ImV ns ds v):∃a b,v=.agg [a,b]∧oneA a=true∧oneA b=true:=by
 obtain⟨a,b,dv,rfl,h1,h2,-⟩:=h;exact⟨a,b,rfl,SV.oneA h1,SV.oneA h2⟩
theorem oS {H:AH}{os k:Nat}{cs:List AV}{x:AV}(h:H[os]?=some (some (.cells cs)))(hk:k<cs.length)(hx:oneA x=true):AR 1 H (.ptr os k) x=some (H.set os (some (.cells (cs.set k x)))):=by
 rw[A8 (n:=1) (xs:=[x]) (cs:=cs) (AO hx) h rfl hk];rfl
theorem uW (x y:AV):Am true 2 [x,y] 0=some (.agg [x,y]):=rfl
theorem pF (H:AH):A9 H (.agg [(I 0),Ad])=some (.ptr H.length 0,H++[some (.cells [I 0,Ad])]):=by simp
theorem bL (H:AH)(s:Int){R:AV}(hR:oneA R=true):AR 2 (H++[some (.cells [I 0,Ad])]) (.ptr H.length 0) (.agg [I s,R])=some (H++[some (.cells [I s,R])]):=by
 rw[A8 (n:=2) (xs:=[I s,R]) (cs:=[I 0,Ad]) (by simp[hR]) (by simp) rfl (by simp)];simp[AN]
theorem C6 {H:AH}{x:AObj}:(H++[some x])[H.length]?=some (some x):=by simp
theorem iU (room:Int)(H:AH)(hr:room≤9223372036854775807):∃r H',(∃p,r=.ptr H.length 0∧H'.length=H.length+1∧StAt (Li room) H.length p H'∧Grew H H'∧AT p=[])∧BCall prog 10 [I room] H r H':=XV (by
 unfold WZ;have e1:amm aF [I room,(I 0)]=some (I (max room 0)):=by rw[Qd,kY,Int.max_comm]
 have e2:amm XA [I (max room 0),(I 4096)]=some (I (min (max room 0) 4096)):=by rw[Qd,kX,Int.min_comm]
 have e3:FD [(I 0),Ad,Ad,Ad,Ad,Ad,(I 0),(I 0),(B false)] [(0,1,I (min (max room 0) 4096)),(7,1,(I (-1)))]=some (.agg [I (min (max room 0) 4096),Ad,Ad,Ad,Ad,Ad,I 0,I (-1),B false]):=rfl;have e4:A9 H (.agg [I (min (max room 0) 4096),Ad,Ad,Ad,Ad,Ad,I 0,I (-1),B false])=some (.ptr H.length 0,H++[some (.cells [I (min (max room 0) 4096),Ad,Ad,Ad,Ad,Ad,I 0,I (-1),B false])]):=by simp
 rw[e1,Ab,e2,Ab,e3,Ab,e4,A0];have hI:ImV [] [] (.agg [Ad,Ad]):=⟨Ad,Ad,[],rfl,SV.nil,SV.nil,rfl⟩;exact⟨Ad,rfl,by simp,⟨Ad,Ad,Ad,Ad,[],⟨C6,hI,hI,rfl,rfl,rfl,by simp[AT],by simp[Ch]⟩⟩,Grew.app _ _,rfl⟩)
abbrev Pr:=And.intro @Ab @Nat.zero_add
abbrev yZ:=And.intro @AD @beq_self_eq_true.{0}
abbrev zG:=And.intro @CN.{0} @DZ.{0}
abbrev zK:=And.intro @Al @Pr
abbrev zL:=And.intro @Ao @CM
abbrev zM:=And.intro @Ah @zK
abbrev zQ:=And.intro @zG @zM
abbrev Ab4:=And.intro @Au @zQ
theorem kK {s:StS}{os:Nat}{p:AV}{H:AH}(h:StAt s os p H)(hb: -1≤s.armed∧s.armed≤9223372036854775807):∃r H',(r=B (Be s).1∧StAt (Be s).2 os p H'∧StF os p p H H')∧BCall prog 80 [.ptr os 0] H r H':=OJ (by
 obtain⟨a,b,c,d,pv,h⟩:=h;unfold L8;simp only[Ab4,Ak h.obj,AK]
 have stop:s.off=true∨s.armed=0→bS (AR 1 H (.ptr os 8) (B true)) λH17=>B false=B (Be s).1∧StAt (Be s).2 os p H17∧StF os p p H H17:=by
  intro hc;have e:Be s=(false,{s with off:=true}):=by unfold Be;rw[if_pos hc]
  rw[e];obtain⟨h2,h3⟩:=h.set (s':={s with off:=true}) h.now h.kept rfl;have e2:AR 1 H (.ptr os 8) (B true)=some (H.set os (some (.cells [I s.cap,a,b,c,d,p,I s.made,I s.armed,B true]))):=oS h.obj (by simp) rfl;simp only[e2,AC];exact⟨by trivial,⟨a,b,c,d,pv,h2⟩,h3⟩
 cases ho:s.off with
 | true=>
  simp only[show((true==false)=false)from rfl,Cq,zK,Aw,if_true,Ag,Ao,Au];exact stop (.inl ho)
 | false=>
  simp only[yZ,Ab4,Ak h.obj,Cn,Aw,An,Ag]
  by_cases h0:s.armed=0
  ·simp only[h0,zL]
   exact stop (.inr h0)
  ·simp only[h0,zI,LH,Ag]
   have hn:¬(s.off=true∨s.armed=0):=by rintro(q | q);rw[ho]at q;cases q;exact h0 q
   by_cases hp:0<s.armed
   ·have e:Be s=(true,{s with armed:=s.armed - 1}):=by unfold Be;rw[if_neg hn,if_pos hp]
    rw[e];obtain⟨h2,h3⟩:=h.set (s':={s with armed:=s.armed - 1}) h.now h.kept rfl;have e1:Aq .sub (I s.armed) (I 1)=some (I (s.armed - 1)):=BP (by omega) (by omega);have e2:AR 1 H (.ptr os 7) (I (s.armed - 1))=some (H.set os (some (.cells [I s.cap,a,b,c,d,p,I s.made,I (s.armed - 1),B s.off]))):=oS h.obj (by simp) rfl;simp only[hp,zL,e1,Ab,e2,AC];rw[GI];unfold E6;exact⟨rfl,⟨a,b,c,d,pv,h2⟩,h3⟩
   ·have e:Be s=(true,s):=by unfold Be;rw[if_neg hn,if_neg hp]
    rw[e];simp only[hp,zI];rw[GI];unfold E6;exact⟨rfl,⟨a,b,c,d,pv,h⟩,.refl _ _ _⟩)
theorem uB (c a b d e f g h i:AV):Am true 2 [c,a,b,d,e,f,g,h,i] 1=some (.agg [a,b])∧Am true 2 [c,a,b,d,e,f,g,h,i] 3=some (.agg [d,e]):=⟨rfl,rfl⟩
theorem xZ {H:AH}{os:Nat}{x0 x1 x2 x3 x4 x5 x6 x7 x8 a b:AV}(h:H[os]?=some (some (.cells [x0,x1,x2,x3,x4,x5,x6,x7,x8])))(ha:oneA a=true)(hb:oneA b=true):
  AR 2 H (.ptr os 1) (.agg [a,b])=some (H.set os (some (.cells [x0,a,b,x3,x4,x5,x6,x7,x8])))∧AR 2 H (.ptr os 3) (.agg [a,b])=some (H.set os (some (.cells [x0,x1,x2,a,b,x5,x6,x7,x8]))):=by
 constructor
 ·rw[A8 (n:=2) (off:=1) (xs:=[a,b]) (by simp[ha,hb]) h rfl (by simp)];rfl
 ·rw[A8 (n:=2) (off:=3) (xs:=[a,b]) (by simp[ha,hb]) h rfl (by simp)];rfl
theorem St {s:StS}{os:Nat}{a b c d p:AV}{pv:List OpV}{H:AH}(h:StC s os a b c d p pv H):∀j∈AT p,j<H.length:=λj q=>A2 h.ps j q
abbrev zH:=And.intro @Ao @Bool.not_false
abbrev zJ:=And.intro @Aj @Bool.not_true
abbrev zT:=And.intro @A0 @AC
abbrev Ab5:=And.intro @Bo @zC
theorem sP {N:Nat}{s:StS}{os:Nat}{p bv:AV}{H:AH}{o:OpM}(h:StAt s os p H)(hw:SW N s)(hN:N≤900000)(hb:SV J9 1 o.b bv)(ho:iV o):
  ∃r H',(r=I (LR s o).1∧∃p',StAt (LR s o).2 os p' H'∧StF os p p' H H')∧BCall prog 48 [.ptr os 0,.agg (DG o bv)] H r H':=RB (by
 have h0:=h;obtain⟨a0,b0,c0,d0,pv0,hc0⟩:=h;unfold NO;have obv:=SV.oneA hb;have e1:A9 H (.agg (DG o bv))=some (.ptr H.length 0,H++[some (.cells (DG o bv))]):=by simp[DG,obv]
 have g:=Grew.app H [some (.cells (DG o bv))];obtain⟨r,H3,⟨rfl,h3,f3⟩,hc⟩:=kK (h0.grew g) hw.armed;rw[e1,A0];refine bC_of hc ?_;have sm:=hw.now.sm (by omega);obtain⟨q1,q2,q3,q4,q5⟩:=Hi s;simp only[Ab5];cases hd:(Be s).1 with
 | false=>
  have e:LR s o=(8,(Be s).2):=by unfold LR;rw[if_neg (by rw[hd];simp)]
  rw[e];simp only[zH];exact⟨by trivial,p,h3,(StF.of_grew g).trans f3⟩
 | true=>
  have e:LR s o=(0,{(Be s).2 with now:=B5 s.now.1 s.now.2 o,pend:=s.pend++[o]}):=by unfold LR;rw[if_pos hd]
  rw[e];have hos:os<H.length:=hc0.lt;have hid:=St hc0;obtain⟨a,b,c,d,pv,h3⟩:=h3
  have c3:H3[H.length]?=some (some (.cells (DG o bv))):=by
   rw[f3.same H.length (by simp) (by omega) (λq=>by have:=hid _ q;omega)];exact C6
  obtain⟨R,hR,hp⟩:=bU (o:=o) (bv:=bv) h3.now (by rw[q1];exact sm) hb (by have:=ho.1;omega) (by have:=ho.2.1;omega) (by have:=ho.2.2;omega);rw[q1]at hR;obtain⟨a',b',rfl,oa,ob⟩:=hR.agg2;have rd8:Am true 8 (DG o bv) 0=some (.agg (DG o bv)):=rfl;simp only[zJ,Au,zK,Ak h3.obj,(uB _ _ _ _ _ _ _ _ _).1,Ak c3,rd8];refine bP_of hp ?_;obtain⟨h4,f4⟩:=h3.set (s':={(Be s).2 with now:=B5 s.now.1 s.now.2 o}) hR h3.kept rfl;simp only[Au,zK,(xZ h3.obj oa ob).1,AC];have c4:(H3.set os (some (AObj.cells [I (Be s).2.cap,a',b',c,d,p,I (Be s).2.made,I (Be s).2.armed,B (Be s).2.off])))[H.length]?=some (some (.cells (DG o bv))):=by rw[C2 (by omega)];exact c3
  simp only at h4 f4;generalize hH4:H3.set os (some (AObj.cells [I (Be s).2.cap,a',b',c,d,p,I (Be s).2.made,I (Be s).2.armed,B (Be s).2.off]))=H4 at*
  have e6:T8 8 1 (Bg [(I 0),(I 0),(I 0),(I 0),(B false),(.lit (.string ⟨#[]⟩)),(.lit (.string ⟨#[]⟩)),Ad] 1) [(0,8,.agg (DG o bv))]=some (.imm (MA ⟨o,bv,hb⟩) 1 8):=by
   simp[T8,Bg,MA,DG,P1,obv,AN]
  have x1:AZ H4 8 (.imm (MA ⟨o,bv,hb⟩) 1 8)=some (MA ⟨o,bv,hb⟩,1):=AI (by simp[Aa,MA,DG]);have hpl:pv.length=s.pend.length:=by rw[← q3,← h3.pm,Af2]
  have hplN:=hw.plen;obtain⟨r,H5,a1,a2,a3,a4,a5,a6⟩:=CL (bytes:=96) h4.ps h4.po x1 (by omega);have a7:=NU h4.ps h4.po x1 h4.pc a1;have c5:H5[os]?=some (some (.cells [I (Be s).2.cap,a',b',c,d,p,I (Be s).2.made,I (Be s).2.armed,B (Be s).2.off])):=by rw[a5 os h4.lt h4.pi];exact h4.obj
  have hor:os∉AT r:=λq=>(a6 os q).elim h4.pi (λq=>by have:=h4.lt;omega)
  have e7:AR 1 H5 (.ptr os 5) r=some (H5.set os (some (.cells [I (Be s).2.cap,a',b',c,d,r,I (Be s).2.made,I (Be s).2.armed,B (Be s).2.off]))):=oS c5 (by simp) (AL a2);simp only[Ak h4.obj,Ab4,Ak c4,rd8,e6,a1,zT,e7];have hl5:os<H5.length:=(B8.1 c5).1;refine⟨by trivial,r,⟨a',b',c,d,pv++[⟨o,bv,hb⟩],⟨JX hl5,hR,h3.kept,?_,?_,a2,hor,by simpa using a7⟩⟩,?_⟩
  ·rw[Ah7,h3.pm,q3];rfl
  ·have:=Ae a3 (H':=H5.set os (some (.cells [I (Be s).2.cap,a',b',c,d,r,I (Be s).2.made,I (Be s).2.armed,B (Be s).2.off]))) λi q=>C2 (λe=>hor (by rw[e];exact q))
   simpa using this
  ·have f5:StF os p r H4 (H5.set os (some (.cells [I (Be s).2.cap,a',b',c,d,r,I (Be s).2.made,I (Be s).2.armed,B (Be s).2.off]))):=⟨by simpa using a4,λj hj hne hjp=>by rw[C2 (Af7 hne),a5 j hj hjp],a6⟩
   exact((StF.of_grew g).trans f3).trans (f4.trans f5))
theorem Uj {N:Nat}{s:StS}{os:Nat}{p:AV}{H:AH}(h:StAt s os p H)(hw:SW N s)(hN:N≤900000):∃R,ImV s.now.1 s.now.2 R∧∃r H',(r=R∧Grew H H')∧BCall prog 14 [.ptr os 0] H r H':=by
 obtain⟨a,b,c,d,pv,h⟩:=h;obtain⟨R,hR,hp⟩:=rD h.now (hw.now.sm (by omega));refine⟨R,hR,PP ?_⟩;unfold M5;obtain⟨a',b',rfl,oa,ob⟩:=hR.agg2;have e1:A9 H (.agg [Ad,Ad])=some (.ptr H.length 0,H++[some (.cells [Ad,Ad])]):=by simp
 have g:=Grew.app H [some (.cells [Ad,Ad])]
 have e2:AR 2 (H++[some (.cells [Ad,Ad])]) (.ptr H.length 0) (.agg [a',b'])=some (H++[some (.cells [a',b'])]):=by
  rw[A8 (n:=2) (xs:=[a',b']) (cs:=[Ad,Ad]) (by simp[oa,ob]) (by simp) rfl (by simp)];simp[AN]
 simp only[e1,A0,Au,zK,Ak (g.cells h.obj),(uB _ _ _ _ _ _ _ _ _).1];refine A1 hp ?_;simp only[e2,AC,Ak C6,uW,Ab];exact⟨by trivial,Grew.app _ _⟩
def KY (s:StS):Int:=max 0 (s.cap - JE s.now.2)
theorem nA {M:Nat}{i:bV}(h:Few1 M i):JE i.2≤16*M:=by
 have h1:=XX h.2;have h2:=h.1.len2;exact Ae1 h1 (Ad3 _ h2)
theorem iS {N:Nat}{s:StS}{os:Nat}{p:AV}{H:AH}(h:StAt s os p H)(hw:SW N s)(hN:N≤900000):BCall prog 21 [.ptr os 0] H (I (KY s)) H:=by
 obtain⟨r,H',⟨rfl,rfl⟩,hc⟩:=OF (a0:=.ptr os 0) (H:=H) (K:=λr H'=>r=I (KY s)∧H'=H) (by
  obtain⟨a,b,c,d,pv,h⟩:=h;unfold L0;have hu:=rK h.now (hw.now.sm (by omega));rw[qF hw.now.1]at hu;have hs:=nA hw.now;have hcap:=hw.cap;have e1:Aq .sub (I s.cap) (I (JE s.now.2:Int))=some (I (s.cap - JE s.now.2)):=BP (by omega) (by omega);have e2:amm aF [(I 0),I (s.cap - JE s.now.2)]=some (I (KY s)):=by rw[Qd,kY,Int.max_comm];rfl
  simp only[Au,zM,Ak h.obj,CN,(uB _ _ _ _ _ _ _ _ _).1];refine bP_of hu ?_;simp only[e1,Ab,e2];exact⟨by trivial,by trivial⟩)
 exact hc
def AB (s:StS)(ino:Int):Gn×Int:=
 if s.off=true then((0,[]),8)else if O5 s.now.1 s.now.2 ino then(((E2 s.now.1 s.now.2 ino).size,(E2 s.now.1 s.now.2 ino).l),0)else((0,[]),3)
abbrev zU:=And.intro @A5 @zG
theorem RZ {N:Nat}{s:StS}{os:Nat}{p:AV}{H:AH}(h:StAt s os p H)(hw:SW N s)(hN:N≤900000)(ino:Int):
  ∃R,SV As 9 (AB s ino).1.2 R∧∃r H',(r=.tup [.agg [I (AB s ino).1.1,R],I (AB s ino).2]∧Grew H H')∧BCall prog 49 [.ptr os 0,I ino] H r H':=by
 obtain⟨a,b,c,d,pv,h⟩:=h;have e0:FD [(I 0),Ad] []=some (.agg [I 0,Ad]):=rfl;have g:=Grew.app H [some (.cells [I 0,Ad])];cases ho:s.off with
 | true=>
  have e:AB s ino=((0,[]),8):=by unfold AB;rw[if_pos ho]
  rw[e];refine⟨Ad,SV.nil,Er ?_⟩;unfold DJ;simp only[pF,zT,Ab4,Ak (g.cells h.obj),ho,Ag,Ao,e0,bL H 0 (R:=Ad) rfl,Ak C6,uW];exact⟨by trivial,Grew.app _ _⟩
 | false=>
  have sm:=hw.now.sm (by omega);obtain⟨R,hR,hp⟩:=Wn h.now sm ino;have oR:=SV.oneA hR
  by_cases hg:O5 s.now.1 s.now.2 ino
  ·have e:AB s ino=(((E2 s.now.1 s.now.2 ino).size,(E2 s.now.1 s.now.2 ino).l),0):=by unfold AB;rw[if_neg (by rw[ho];simp),if_pos hg]
   rw[e];refine⟨R,hR,Er ?_⟩;unfold DJ;simp only[pF,A0,Ab4,Ak (g.cells h.obj),ho,Ag,Aj,(uB _ _ _ _ _ _ _ _ _).1];refine A1 hp ?_;have g2:=Grew.app (H++[some (AObj.cells [I 0,Ad])]) [some (AObj.cells [I (E2 s.now.1 s.now.2 ino).size,R])]
   have e5:AR 2 (H++[some (AObj.cells [I 0,Ad])]++[some (AObj.cells [I (E2 s.now.1 s.now.2 ino).size,R])]) (.ptr H.length 0) (.agg [I (E2 s.now.1 s.now.2 ino).size,R])=some (H++[some (AObj.cells [I (E2 s.now.1 s.now.2 ino).size,R])]++[some (AObj.cells [I (E2 s.now.1 s.now.2 ino).size,R])]):=by
    rw[A8 (n:=2) (xs:=[I (E2 s.now.1 s.now.2 ino).size,R]) (cs:=[I 0,Ad]) (by simp[oR]) (g2.cells C6) rfl (by simp)];simp[AN]
   have g3:=Grew.app (H++[some (AObj.cells [I (E2 s.now.1 s.now.2 ino).size,R])]) [some (AObj.cells [I (E2 s.now.1 s.now.2 ino).size,R])];simp only[zU,Ab5,pF,zT,bL _ _ oR,hg,CM,zJ,Ak C6,uW,e5,Ak (g3.cells C6)];exact⟨by trivial,(Grew.app H _).trans g3⟩
  ·have e:AB s ino=((0,[]),3):=by unfold AB;rw[if_neg (by rw[ho];simp),if_neg hg]
   rw[e];refine⟨Ad,SV.nil,Er ?_⟩;unfold DJ;simp only[pF,A0,Ab4,Ak (g.cells h.obj),ho,Ag,Aj,(uB _ _ _ _ _ _ _ _ _).1];refine A1 hp ?_;have g2:=Grew.app (H++[some (AObj.cells [I 0,Ad])]) [some (AObj.cells [I (E2 s.now.1 s.now.2 ino).size,R])]
   have e5:AR 2 (H++[some (AObj.cells [I 0,Ad])]++[some (AObj.cells [I (E2 s.now.1 s.now.2 ino).size,R])]) (.ptr H.length 0) (.agg [I 0,Ad])=some (H++[some (AObj.cells [I 0,Ad])]++[some (AObj.cells [I (E2 s.now.1 s.now.2 ino).size,R])]):=by
    rw[A8 (n:=2) (xs:=[I 0,Ad]) (cs:=[I 0,Ad]) rfl (g2.cells C6) rfl (by simp)];simp[AN]
   simp only[zU,Ab5,pF,zT,bL _ _ oR,hg,Dg,zH,e0,e5,Ak (g2.cells C6),uW];exact⟨by trivial,g.trans g2⟩
def EL (s:StS)(name:List UInt8):Int×Int:=
 if s.off=true then(0,8)else if ¬Gz name then(0,5)else if AM Nm.name s.now.1 name then(Ff s.now.1 name,0)else(0,3)
abbrev zE:=And.intro @CM @if_true.{1}
abbrev Aa9:=And.intro @not_true_eq_false @zC
theorem sV {N:Nat}{s:StS}{os:Nat}{p:AV}{H:AH}(h:StAt s os p H)(hw:SW N s)(hN:N≤900000){name:List UInt8}(hn:name.length≤9223372036854775807):
  BCall prog 47 [.ptr os 0,S (Ay name)] H (.tup [I (EL s name).1,I (EL s name).2]) H:=by
 obtain⟨r,H',⟨rfl,rfl⟩,hc⟩:=OK (a0:=.ptr os 0) (a1:=S (Ay name)) (H:=H) (K:=λr H'=>r=.tup [I (EL s name).1,I (EL s name).2]∧H'=H) (by
  obtain⟨a,b,c,d,pv,h⟩:=h;unfold LA;unfold EL;simp only[Ab4,Ak h.obj,Ag];cases ho:s.off with
  | true=>simp only[if_true,Ao];exact⟨by trivial,by trivial⟩
  | false=>
   simp only[Aj,An];refine A1 (NT hn) ?_
   by_cases hm:Gz name
   ·simp only[hm,CM,Bo,zJ,Aa9,if_false]
    have hf:=iQ h.now (hw.now.sm (by omega)) name;obtain⟨w1,w2⟩:=oQ hw.now.1 name;rw[w1,show decide (PC s.now.1 s.now.2 name)=decide (AM Nm.name s.now.1 name)from decide_eq_decide.2 w2]at hf;simp only[Au,zK,Ak h.obj,(uB _ _ _ _ _ _ _ _ _).1];refine A1 hf ?_
    by_cases hk:AM Nm.name s.now.1 name
    ·simp only[zU,Ab5,hk,zE,zJ]
     exact⟨by trivial,by trivial⟩
    ·simp only[zU,Ab5,hk,Dg,zH,if_false]
     exact⟨by trivial,by trivial⟩
   ·simp only[hm,Dg,Ab5,zH,not_false_eq_true,if_true]
    exact⟨by trivial,by trivial⟩)
 exact hc
def DP (name:List UInt8)(i:Int):OpM:=⟨1,i,0,0,false,name,[],[]⟩
def S7 (ino size:Int):OpM:=⟨3,ino,0,size,false,[],[],[]⟩
theorem lZ (ino size:Int):iV (S7 ino size):=⟨by simp[S7],by simp[S7],by simp[S7]⟩
def AX (s:StS)(name:List UInt8)(make:Bool):(Int×Int)×StS:=
 if(EL s name).2≠3∨make=false then(EL s name,s)
 else if 16≤s.now.1.length then((0,4),s)
 else if(LR s (DP name (s.made+1))).1≠0 then((0,(LR s (DP name (s.made+1))).1),(LR s (DP name (s.made+1))).2)
 else((s.made+1,0),{(LR s (DP name (s.made+1))).2 with made:=s.made+1})
theorem cV {s:StS}{name:List UInt8}(h:(EL s name).2=3):Gz name∧¬AM Nm.name s.now.1 name∧s.off=false:=by
 unfold EL at h;split at h
 ·simp at h
 ·split at h
  ·simp at h
  ·split at h
   ·simp at h
   ·rename_i h1 h2 h3
    exact⟨Af6 h2,h3,by simpa using h1⟩
theorem Om {N:Nat}{s:StS}(h:SW N s)(name:List UInt8)(make:Bool):SW (N+1) (AX s name make).2:=by
 unfold AX
 split
 ·exact h.mono (by omega)
 ·rename_i hf
  have hn:Gz name:=(cV (Af6 λq=>hf (.inl q))).1;have ho:iV (DP name (s.made+1)):=⟨by simp[DP],hn.2.1,by simp[DP]⟩;have hd:=cT h ho;have hwt:wt (DP name (s.made+1))=1:=rfl;rw[hwt]at hd
  split
  ·exact h.mono (by omega)
  ·split
   ·exact hd
   ·exact⟨hd.now,hd.kept,hd.ob,by simp only;have:=h.made;omega,hd.cap,hd.armed⟩
abbrev zA:=And.intro @ne_eq.{1} @not_false_eq_true
theorem Uk {N:Nat}{s:StS}{os:Nat}{p:AV}{H:AH}(h:StAt s os p H)(hw:SW N s)(hN:N<900000){name:List UInt8}(hn:name.length≤9223372036854775807)(make:Bool):
  ∃r H',(r=.tup [I (AX s name make).1.1,I (AX s name make).1.2]∧∃p',StAt (AX s name make).2 os p' H'∧StF os p p' H H')∧BCall prog 18 [.ptr os 0,S (Ay name),B make] H r H':=OG (by
 unfold L3;refine bC_of (sV h hw (by omega) hn) ?_;have hmade:=hw.made;simp only[zU,Ab,CD,AK]
 by_cases h3:(EL s name).2=3
 ·obtain⟨hm,hk,hoff⟩:=cV h3
  simp only[h3,yY,Dg,yZ,Ab5,Aw,An];cases make with
  | false=>
   have e:AX s name false=(EL s name,s):=by unfold AX;rw[if_pos (.inr rfl)]
   rw[e];simp only[zH];exact⟨by rw[h3],p,h,.refl _ _ _⟩
  | true=>
   have hn0:¬((EL s name).2≠3∨true=false):=by rintro(q | q);exact q h3;cases q
   have h':=h;obtain⟨a,b,c,d,pv,hc⟩:=h;obtain⟨a',b',dv,eab,sa,sb,-⟩:=hc.now;injection eab with eab;injection eab with ea eb;subst ea;simp only[zJ,Ab4,Ah6,Ak hc.obj,sa.len,I9,Ag]
   by_cases h16:16≤s.now.1.length
   ·have h16I:(16:Int)≤(s.now.1.length:Int):=by omega
    have e:AX s name true=((0,4),s):=by unfold AX;rw[if_neg hn0,if_pos h16]
    rw[e];simp only[h16I,zL];exact⟨by trivial,p,h',.refl _ _ _⟩
   ·have h16I:¬(16:Int)≤(s.now.1.length:Int):=by omega
    have ho:iV (DP name (s.made+1)):=⟨by simp[DP],hm.2.1,by simp[DP]⟩;have e1:Aq .add (I s.made) (I 1)=some (I (s.made+1)):=Ax (by omega) (by omega);have e2:FD [(I 0),(I 0),(I 0),(I 0),(B false),(.lit (.string ⟨#[]⟩)),(.lit (.string ⟨#[]⟩)),Ad] [(0,1,(I 1)),(5,1,S (Ay name)),(1,1,I (s.made+1))]=some (.agg (DG (DP name (s.made+1)) Ad)):=rfl;simp only[h16I,zI,Ab4,Ak hc.obj,e1,e2];obtain⟨r,H2,⟨rfl,p2,h2,f2⟩,hcall⟩:=sP (bv:=Ad) h' hw (by omega) SV.nil ho;refine bC_of hcall ?_;simp only[CD,zC]
    by_cases hd:(LR s (DP name (s.made+1))).1=0
    ·have e:AX s name true=((s.made+1,0),{(LR s (DP name (s.made+1))).2 with made:=s.made+1}):=by unfold AX;rw[if_neg hn0,if_neg h16,if_neg (by rw[hd];simp)]
     rw[e]
     have emade:(LR s (DP name (s.made+1))).2.made=s.made:=by
      obtain⟨-,-,-,q4,-⟩:=Hi s;unfold LR;split<;>exact q4
     obtain⟨a2,b2,c2,d2,pv2,hc2⟩:=h2;obtain⟨h3',f3⟩:=hc2.set (s':={(LR s (DP name (s.made+1))).2 with made:=s.made+1}) hc2.now hc2.kept rfl;have e3:AR 1 H2 (.ptr os 6) (I (s.made+1))=some (H2.set os (some (.cells [I (LR s (DP name (s.made+1))).2.cap,a2,b2,c2,d2,p2,I (s.made+1),I (LR s (DP name (s.made+1))).2.armed,B (LR s (DP name (s.made+1))).2.off]))):=oS hc2.obj (by simp) rfl;have hob:=hc2.obj;rw[emade]at hob;simp only[hd,yY,zI,Ab4,Ak hob,e1,e3,AC,Ak h3'.obj];exact⟨by trivial,p2,⟨a2,b2,c2,d2,pv2,h3'⟩,f2.trans f3⟩
    ·have e:AX s name true=((0,(LR s (DP name (s.made+1))).1),(LR s (DP name (s.made+1))).2):=by unfold AX;rw[if_neg hn0,if_neg h16,if_pos hd]
     rw[e];simp only[hd,zA,zL];exact⟨by trivial,p2,h2,f2⟩
 ·have e:AX s name make=(EL s name,s):=by unfold AX;rw[if_pos (.inl h3)]
  rw[e];simp only[h3,zA,zE,show((true==false)=false)from rfl,Cq,zC,Aw,Ao];exact⟨by trivial,p,h,.refl _ _ _⟩)
def D9 (s:StS)(ino size:Int):Int×StS:=
 if(AB s ino).2≠0 then((AB s ino).2,s)else if Cg (AB s ino).1 size=none then(5,s)else LR s (S7 ino size)
theorem LC {N:Nat}{s:StS}(h:SW N s)(ino size:Int):SW (N+1) (D9 s ino size).2:=by
 unfold D9
 split
 ·exact h.mono (by omega)
 ·split
  ·exact h.mono (by omega)
  ·exact cT h (lZ ino size)
theorem MW {N:Nat}{s:StS}(h:SW N s)(ino:Int):(AB s ino).1.2.length≤N:=by
 unfold AB
 split
 ·simp
 ·split
  ·rename_i hg
   obtain⟨d,hd,rfl⟩:=hg.2;rw[(X7 h.now.1 hd).1];exact h.now.2 d hd
  ·simp
abbrev An0:=@Option.isSome_none
theorem PU {N:Nat}{s:StS}{os:Nat}{p:AV}{H:AH}(h:StAt s os p H)(hw:SW N s)(hN:N<900000)(ino size:Int):
  ∃r H',(r=I (D9 s ino size).1∧∃p',StAt (D9 s ino size).2 os p' H'∧StF os p p' H H')∧BCall prog 19 [.ptr os 0,I ino,I size] H r H':=L6 (by
 unfold Ia;obtain⟨R,hR,r,H1,⟨rfl,g1⟩,hc⟩:=RZ h hw (by omega) ino;have hlen:=MW hw ino;refine bC_of hc ?_;unfold D9;generalize AB s ino=ct at*;have oR:=SV.oneA hR;have h1:=h.grew g1;have g2:=Grew.app H1 [some (.cells [I ct.1.1,R])];have h2:=h1.grew g2;simp only[zU,zC,pF,zT,bL _ _ oR,CD]
 by_cases hc0:ct.2=0
 ·simp only[hc0,zO,zI,Ak C6,uW,Ab]
  obtain⟨R2,hR2,hp⟩:=JR (size0:=ct.1.1) hR (by omega) size;refine A1 hp ?_;have oR2:=SV.oneA hR2;have g3:=Grew.app (H1++[some (AObj.cells [I ct.1.1,R])]) [some (.cells [I (cS (Cg (ct.1.1,ct.1.2) size)),R2])];have h3:=h2.grew g3;have ff:StF os p p H (H1++[some (AObj.cells [I ct.1.1,R])]++[some (.cells [I (cS (Cg (ct.1.1,ct.1.2) size)),R2])]):=.of_grew ((g1.trans g2).trans g3);simp only[zU,Ab5,pF,zT,bL _ _ oR2];cases ht:Cg (ct.1.1,ct.1.2) size with
  | none=>
   have ht':Cg ct.1 size=none:=ht;rw[ht]at h3 ff;simp only[An0,zH,ht',if_true];exact⟨by trivial,p,h3,ff⟩
  | some c2=>
   have ht':¬Cg ct.1 size=none:=by rw[show Cg ct.1 size=some c2 from ht];simp
   rw[ht]at h3 ff;have e2:FD [(I 0),(I 0),(I 0),(I 0),(B false),(.lit (.string ⟨#[]⟩)),(.lit (.string ⟨#[]⟩)),Ad] [(0,1,(I 3)),(1,1,I ino),(3,1,I size)]=some (.agg (DG (S7 ino size) Ad)):=rfl;simp only[Ai7,zJ,ht',if_false,e2,Ab];obtain⟨r,H2,⟨rfl,p2,h4,f4⟩,hcall⟩:=sP (bv:=Ad) (o:=S7 ino size) h3 hw (by omega) SV.nil (lZ ino size);exact bC_of hcall ⟨rfl,p2,h4,ff.trans f4⟩
 ·simp only[hc0,zA,zE,Ao]
  exact⟨by trivial,p,h2,.of_grew (g1.trans g2)⟩)
theorem MX {N:Nat}{s:StS}(h:SW N s){ino:Int}(h0:(AB s ino).2=0):∃d∈s.now.2,d.ino=ino∧(AB s ino).1=(d.size,d.l)∧s.off=false:=by
 unfold AB at h0⊢;split at h0
 ·simp at h0
 ·rename_i h1
  split at h0
  ·rename_i hg
   obtain⟨d,hd,rfl⟩:=hg.2;rw[if_neg h1,if_pos hg,(X7 h.now.1 hd).1];exact⟨d,hd,rfl,rfl,by simpa using h1⟩
  ·simp at h0
theorem tP {N:Nat}{X:AH}{o:Nat}(hN:N≤o):(old N X)[o]?=X[o]?:=by
 unfold old;rw[Ac8 (by simpa using hN),List.length_replicate,Ad5,show N+(o - N)=o by omega]
theorem BCall.fzS {P:Program}{f:FuncId}{args:List AV}{H X:AH}{r:AV}{sz m:Nat}{cs:List AV}(h:BCall P f args H r X)(g:Grew H X)(hs:Aa X sz r=some (cs,m))(hi:∀i∈AT r,H.length≤i)(hn:A3 cs=true):
  ∃R,(noIds R=true∧∀H,Aa H sz R=some (cs,m))∧BCall P f args H R H:=by
 have hs2:Aa (old H.length X) sz r=some (cs,m):=Ae hs λi q=>tP (hi i q)
 obtain⟨R,n0,h1,h2,h3⟩:=Sq hs2 hn;refine⟨R,⟨h1,h2⟩,ACalls.fzNew (R':=λr'=>r'=R) h ?_⟩;rintro r1 H1 ⟨rfl,rfl⟩;exact⟨g.1,g.2,n0,R,h3 n0 (Ac6 _),rfl⟩
theorem jZ {H:AH}{v:AV}{l:List UInt8}(h:Aa H 1 v=some (AF l,l.length))(hl:l.length≤1000000000):∃R,SV J9 1 l R∧BCall prog 101 [v] H R H:=by
 obtain⟨r,X,⟨hs,g,hi⟩,hc⟩:=J1 (a0:=v) (H:=H) (K:=λr X=>Aa X 1 r=some (AF l,l.length)∧Grew H X∧∀i∈AT r,H.length≤i) (by
  unfold Gb;rcases LZ h with⟨rfl,e1,e2⟩ | hb
  ·have e:VM .eql O7 Ad Ad=some (B true):=rfl
   simp only[e,zC,Ao];exact⟨h,Grew.refl H,by simp[AT]⟩
  ·simp only[hb,zC,Aj]
   have e:Cv H 1 0 (Bg [u0Z] 0) []=some (.sl H.length 0 0 1 (.ex 0),H++[some (.cells [])]):=rfl;simp only[e,A0];have g:=Grew.app H [some (.cells [])];have h0:Aa (H++[some (.cells [])]) 1 (.sl H.length 0 0 1 (.ex 0))=some ([],0):=by simp[Aa]
   obtain⟨r,H2,a1,a2,a3,a4,a5,a6⟩:=CL (sz:=1) (bytes:=1) (H:=H++[some (.cells [])]) (v:=.sl H.length 0 0 1 (.ex 0)) (cs:=[]) (n:=0) h0 rfl (AI (g.slice h)) (by omega);simp only[a1,A0];refine⟨by simpa using a3,⟨by simp at a4;omega,λi hi=>?_⟩,λi hi=>?_⟩
   ·rw[a5 i (by simp;omega) (by simp[AT];omega)]
    exact g.2 i hi
   ·rcases a6 i hi with h | h
    ·simp[AT]at h;omega
    ·simp at h;omega)
 obtain⟨R,⟨h1,h2⟩,h3⟩:=BCall.fzS hc g hs hi (HQ _);exact⟨R,⟨h1,λH=>by rw[h2 H,IN]⟩,h3⟩
theorem oV:B1 prog 165=true:=by kernel_rfl
theorem sY (x:Ext)(no:Int):BPure prog 165 [.agg (As x),.ip [I no]] (B (decide (x.no=no))):=BPure.val (by simp[A3,noIds,EP]) rfl (V9 (by
 unfold Tz;have e1:A9 [] (.agg (As x))=some (.ptr 0 0,[some (.cells (As x))]):=by simp
 have e2:(As x)[0]?=some (I x.no):=rfl;have e3:([some (.cells (As x))]:AH)[0]?=some (some (.cells (As x))):=rfl;simp only[e1,A0,zM,Ak e3,e2,Py,CN,Cn]
 try trivial))
theorem xJ (x:Ext)(t:List AV):Am true 9 (As x++t) 0=some (.agg (As x)):=by
 have:=Az x
 simp only[Am,if_true,Ad0,this,Ae3];rw[if_pos (by omega),Ad7 (by omega),Ac5 (by omega)]
abbrev zR:=And.intro @List.cons_append.{0} @List.nil_append.{0}
abbrev Ac0:=And.intro @Bool.true_or @TZ
theorem kW {l:List Ext}{v:AV}(hv:SV As 9 l v)(hl:l.length≤281474976710656)(no:Int):∃j:Int,(0≤j↔Bm l no)∧BPure prog 167 [v,.fn (.func 165) [] [.ip [I no]]] (I j):=by
 have key:∃r X,(∃j:Int,r=I j∧(0≤j↔Bm l no))∧BCall prog 167 [v,.fn (.func 165) [] [.ip [I no]]] [] r X:=CS (by
  unfold Cl;simp only[hv.len,Ab];refine Cu (λn x0 x1 x7 x8 H'=>∃k:Nat,k+n=l.length∧x0=v∧x1=.fn (.func 165) [] [.ip [I no]]∧x7=I l.length∧x8=I k∧∀(m:Nat) y,m<k→l[m]?=some y→y.no≠no) ?_ l.length ⟨0,by omega,rfl,rfl,rfl,rfl,by omega⟩;rintro n x0 x1 x7 x8 H R hR ⟨k,hk,rfl,rfl,rfl,rfl,hb⟩;unfold BK;rcases Ac9 k l.length with h | h
  ·have hx:=Ea h
   generalize l[k]=y at hx;have kI:(k:Int)<(l.length:Int):=by omega
   simp only[Aa6,kI,zL,hv.idx Az hx rfl,Py,xJ,cJ,oV,Ac0,zR];refine bC_of (sY y no H) ?_;simp only[Ag]
   by_cases c:y.no=no
   ·simp only[c,zL]
    exact⟨k,rfl,by simp only[Int.natCast_nonneg,true_iff];exact⟨y,Ac7 hx,c⟩⟩
   ·simp only[c,zI,Ax (a:=k) (b:=1) (by omega) (by omega),Ab]
    refine hR (n - 1) _ _ _ _ _ (by omega) ⟨k+1,by omega,rfl,rfl,rfl,by simp,?_⟩;intro m z hm hz
    by_cases e:m=k
    ·rw[e,hx]at hz;injection hz with hz;rw[← hz];exact c
    ·exact hb m z (by omega) hz
  ·have kI:¬(k:Int)<(l.length:Int):=by omega
   simp only[Aa6,kI,zI];refine⟨-1,rfl,by simp only[show ¬(0:Int)≤-1 by omega,false_iff];rintro⟨y,hy,e⟩;obtain⟨m,hm⟩:=Ae0.1 hy;exact hb m y (by have:=(B8.1 hm).1;omega) hm e⟩)
 obtain⟨r,X,⟨j,rfl,hj⟩,hc⟩:=key;exact⟨j,hj,BPure.val (by simp[A3,noIds,hv.1]) rfl ⟨_,_,rfl,hc⟩⟩
theorem ZH {l:List Ext}{v:AV}(hv:SV As 9 l v)(hl:l.length≤281474976710656)(no:Int):BPure prog 164 [v,.fn (.func 165) [] [.ip [I no]]] (B (decide (Bm l no))):=by
 obtain⟨j,hj,hp⟩:=kW hv hl no;refine BPure.flat λH=>EC ?_
 unfold CO;refine A1 hp ?_;simp only[I9,Ab];exact⟨by congr 3;exact propext hj,by trivial⟩
theorem wT {size:Int}{l:List Ext}{v:AV}(hv:SV As 9 l v)(hl:l.length≤281474976710656)(no:Int):BPure prog 100 [.agg [I size,v],I no] (B (decide (Bm l no))):=BPure.val (by simp[A3,noIds,hv.1]) rfl (XW (by
 have ov:=SV.oneA hv;unfold Xa;have e1:A9 [] (.agg [I size,v])=some (.ptr 0 0,[some (.cells [I size,v])]):=by simp[ov]
 have e2:A9 [some (.cells [I size,v])] (I no)=some (.ptr 1 0,[some (.cells [I size,v]),some (.cells [I no])]):=rfl;have e3:([some (.cells [I size,v]),some (.cells [I no])]:AH)[0]?=some (some (.cells [I size,v])):=rfl;simp only[e1,A0,e2,zQ,Ak e3]
 have hf:FZs [some (.cells [I size,v]),some (.cells [I no])] [v,.fn (.func 165) [] [.ptr 1 0]] [v,.fn (.func 165) [] [.ip [I no]]]:=by
  refine FZs.cons (FZ.same hv.1) (FZs.cons ⟨3,λn hn=>?_⟩ FZs.nil);obtain⟨n,rfl⟩:∃m,n=m+3:=⟨n - 3,by omega⟩;rfl
 refine bP_of (PCall.lend hf rfl (ZH hv hl no)) ?_
 try trivial))
theorem cR:∀{f:Nat} {p n:Int} {q:Sp},0≤p→q∈Co f p n 8→p≤q.pos∧0<q.len∧q.len≤8∧q.pos+q.len≤p+n
 | 0,p,n,q,_,h=>by simp[Co]at h
 | f+1,p,n,q,hp,h=>by
  unfold Co at h;split at h
  ·rename_i hn
   have h1:=Ak2 p (show(0:Int)<8 by omega);have h2:=Al8 p (show(8:Int)≠0 by omega);rcases Ad8.1 h with rfl | h
   ·simp only;omega
   ·have:=cR (by omega) h
    omega
  ·simp at h
def In (ino pos:Int)(b:List UInt8):OpM:=⟨2,ino,pos,0,false,[],[],b⟩
theorem aU {ino pos:Int}{b:List UInt8}(h:b.length≤8):iV (In ino pos b):=⟨by show b.length≤_;omega,by simp[In],by simp[In]⟩
def Ef (b:List UInt8)(pos:Int)(q:Sp):List UInt8:=(b.drop (q.pos - pos).toNat).take q.len.toNat
def SI (c:List Ext)(ino pos:Int)(b:List UInt8):List Sp→StS→(Int×Int)×StS
 | [],s=>((b.length,0),s)
 | q::r,s=>
  if ¬Bm c (q.pos/8)∧KY s=0 then((q.pos - pos,4),s)
  else if(LR s (In ino q.pos (Ef b pos q))).1≠0 then((q.pos - pos,(LR s (In ino q.pos (Ef b pos q))).1),(LR s (In ino q.pos (Ef b pos q))).2)
  else SI c ino pos b r (LR s (In ino q.pos (Ef b pos q))).2
def W7 (pos:Int)(n:Nat):Prop:=0≤pos∧n≤4096∧pos≤1099511627776 - n
instance (pos:Int) (n:Nat):Decidable (W7 pos n):=by unfold W7;infer_instance
def BT (s:StS)(ino pos:Int)(b:List UInt8):(Int×Int)×StS:=
 if(AB s ino).2≠0 then((0,(AB s ino).2),s)else if ¬W7 pos b.length then((0,5),s)
 else SI (AB s ino).1.2 ino pos b (DQ ⟨pos,b.length⟩ 8) s
theorem Vv {pos:Int}{b:List UInt8}{q:Sp}(hf:W7 pos b.length)(h:q∈DQ ⟨pos,b.length⟩ 8):pos≤q.pos∧0<q.len∧q.len≤8∧q.pos+q.len≤pos+b.length:=by
 unfold DQ at h;split at h
 ·exact cR hf.1 h
 ·simp at h
theorem WP {b:List UInt8}{pos:Int}{q:Sp}(h:pos≤q.pos∧0<q.len∧q.len≤8∧q.pos+q.len≤pos+b.length):(Ef b pos q).length=q.len.toNat:=by
 unfold Ef;rw[Ac4,Ad1];omega
theorem rC {c:List Ext}{ino pos:Int}{b:List UInt8}:∀{l:List Sp} {N:Nat} {s:StS},(∀q∈l,pos≤q.pos∧0<q.len∧q.len≤8∧q.pos+q.len≤pos+b.length)→SW N s→SW (N+9*l.length) (SI c ino pos b l s).2
 | [],N,s,_,h=>h
 | q::r,N,s,hq,h=>by
  have h1:=hq q (by simp);have hl:=WP h1;have hd:=cT (o:=In ino q.pos (Ef b pos q)) h (aU (by omega))
  have hwt:wt (In ino q.pos (Ef b pos q))≤9:=by
   show 1+(Ef b pos q).length+(if(2:Int)=4 then 4098 else 0)≤9
   rw[if_neg (by omega)];omega
  unfold SI;simp only[Ae2]
  split
  ·exact h.mono (by omega)
  ·split
   ·exact hd.mono (by omega)
   ·exact(rC (λx hx=>hq x (by simp[hx])) hd).mono (by omega)
theorem WQ {pos:Int}{b:List UInt8}(hf:W7 pos b.length):(DQ ⟨pos,b.length⟩ 8).length≤b.length:=by
 unfold DQ
 split
 ·have:∀(f:Nat) (p n:Int),(Co f p n 8).length≤f:=by
   intro f
   induction f with
   | zero=>intro p n;simp[Co]
   | succ f ih=>
    intro p n;unfold Co
    split
    ·simp only[Ae2];have:=ih (p+min n (8 - p % 8)) (n - min n (8 - p % 8));omega
    ·simp
  have h2:=this (b.length:Int).toNat pos b.length;have e:((b.length:Int)).toNat=b.length:=by omega
  simp only;omega
 ·simp
theorem RG {N:Nat}{s:StS}(h:SW N s)(ino pos:Int)(b:List UInt8):SW (N+9*b.length) (BT s ino pos b).2:=by
 unfold BT
 split
 ·exact h.mono (by omega)
 ·split
  ·exact h.mono (by omega)
  ·rename_i hf
   have hf:=Af6 hf;exact(rC (λq hq=>Vv hf hq) h).mono (by have:=WQ hf;omega)
abbrev zW:=And.intro @AK @Aw
theorem Xg {N:Nat}{s:StS}{os:Nat}{p v:AV}{H:AH}(h:StAt s os p H)(hw:SW N s)(ino pos:Int){b:List UInt8}(hN:N+9*b.length<900000)(hv:Aa H 1 v=some (AF b,b.length))(hvi:∀j∈AT v,j≠os∧j∉AT p):
  ∃r H',(r=.tup [I (BT s ino pos b).1.1,I (BT s ino pos b).1.2]∧∃p',StAt (BT s ino pos b).2 os p' H'∧StF os p p' H H')∧BCall prog 44 [.ptr os 0,I ino,I pos,v] H r H':=NM (by
 unfold Kj;obtain⟨R,hR,r,H1,⟨rfl,g1⟩,hc⟩:=RZ h hw (by omega) ino;have hlen:=MW hw ino;refine bC_of hc ?_;unfold BT;generalize AB s ino=ct at*;have oR:=SV.oneA hR;have h1:=h.grew g1;have g2:=Grew.app H1 [some (.cells [I ct.1.1,R])];have h2:=h1.grew g2;have hv2:=g2.slice (g1.slice hv);have alv:Bf v=some (I b.length):=BF hv;simp only[zU,zC,pF,zT,bL _ _ oR,CD]
 by_cases hc0:ct.2=0
 ·simp only[hc0,zO,zI,alv,Ab]
  refine A1 (OZ pos b.length (by omega)) ?_
  by_cases hf:W7 pos b.length
  ·have hf':0≤pos∧b.length≤4096∧pos≤1099511627776 - b.length:=hf
   have e1:FD [(I 0),(I 0)] [(0,1,I pos),(1,1,I (b.length:Int))]=some (.agg (BY ⟨pos,b.length⟩)):=rfl;simp only[hf,hf',and_self,CM,Bo,zJ,Aa9,if_false,alv,e1];obtain⟨V,hV,hp⟩:=Tq ⟨pos,b.length⟩ (unit:=8) (by omega);refine A1 hp ?_;simp only[hV.len,Ab];have hin:∀q∈DQ ⟨pos,b.length⟩ 8,pos≤q.pos∧0<q.len∧q.len≤8∧q.pos+q.len≤pos+b.length:=λq hq=>Vv hf hq
   have hpl:=WQ hf;generalize DQ ⟨pos,b.length⟩ 8=L at hV hin hpl;have c0:(H1++[some (AObj.cells [I ct.1.1,R])])[H1.length]?=some (some (.cells [I ct.1.1,R])):=C6;have f0:StF os p p H (H1++[some (AObj.cells [I ct.1.1,R])]):=.of_grew (g1.trans g2);have hosH:os<H.length:=by obtain⟨a,b',c,d,pv,hx⟩:=h;exact hx.lt
   have hpH:∀j∈AT p,j<H.length:=by obtain⟨a,b',c,d,pv,hx⟩:=h;exact St hx
   have hvH:∀j∈AT v,j<H.length:=λj q=>A2 hv j q
   have hH1:H.length≤H1.length:=g1.1;refine JD (λm x0 x1 x2 x3 x10 x36 x37 x38 H'=>∃(k:Nat) (s':StS) (p':AV),k+m=L.length∧x0=.ptr os 0∧x1=I ino∧x2=I pos∧x3=v∧x10=.ptr H1.length 0∧x36=V∧x37=I L.length∧x38=I k∧StAt s' os p' H'∧StF os p p' H H'∧SW (N+9*k) s'∧H'[H1.length]?=some (some (.cells [I ct.1.1,R]))∧H1.length∉AT p'∧SI ct.1.2 ino pos b (L.drop k) s'=SI ct.1.2 ino pos b L s) ?_ L.length ⟨0,s,p,by omega,rfl,rfl,rfl,rfl,rfl,rfl,rfl,rfl,h2,f0,hw,c0,λq=>by have:=hpH _ q;omega,rfl⟩;rintro m x0 x1 x2 x3 x10 x36 x37 x38 H2 R2 hR2 ⟨k,s',p',hk,rfl,rfl,rfl,rfl,rfl,rfl,rfl,rfl,hs',fs',hws',cc,hcp,heq⟩;rw[← heq];unfold GH;rcases Ac9 k L.length with hlt | hge
   ·have hx:=Ea hlt
    have hq:=hin L[k] (List.getElem_mem hlt);generalize L[k]=q at hx hq;obtain⟨q1,q2,q3,q4⟩:=hq;have kI:(k:Int)<(L.length:Int):=by omega
    have hdrop:L.drop k=q::L.drop (k+1):=Dt hx;rw[hdrop];generalize hW:SI ct.1.2 ino pos b (q::L.drop (k+1)) s'=W;have rdq:Am true 2 (BY q++(L.drop (k+1)).flatMap BY) 0=some (.agg (BY q)):=by simp[Am,BY]
    have eA:(AV.agg (BY q))=.agg [I q.pos,I q.len]:=rfl;have n2:A9 H2 (.agg [(I 0),(I 0)])=some (.ptr H2.length 0,H2++[some (.cells [I 0,I 0])]):=by simp
    have t2:AR 2 (H2++[some (.cells [I 0,I 0])]) (.ptr H2.length 0) (.agg [I q.pos,I q.len])=some (H2++[some (.cells [I q.pos,I q.len])]):=by
     rw[A8 (n:=2) (xs:=[I q.pos,I q.len]) (cs:=[I 0,I 0]) rfl (by simp) rfl (by simp)];simp[AN]
    have g3:=Grew.app H2 [some (.cells [I q.pos,I q.len])];have e2:Aq .sub (I q.pos) (I pos)=some (I (q.pos - pos)):=BP (by omega) (by omega);have e3:Aq .quo (I q.pos) (I 8)=some (I (q.pos/8)):=LI (by omega) (by omega) (by omega);simp only[Bi,zQ,Ag,kI,zL,hV.idx W5 hx rfl,Py,rdq,eA,n2,zT,t2,Ak C6,e2,Ak (g3.cells cc),uW,e3];refine A1 (wT hR (by omega) (q.pos/8)) ?_;have hs3:=hs'.grew g3;have fs3:StF os p p' H (H2++[some (.cells [I q.pos,I q.len])]):=fs'.grew g3;have cc3:=g3.cells cc;have tq:(H2++[some (AObj.cells [I q.pos,I q.len])])[H2.length]?=some (some (.cells [I q.pos,I q.len])):=C6;have hl3:H2.length+1=(H2++[some (AObj.cells [I q.pos,I q.len])]).length:=by simp
    have hpid:∀j∈AT p',j<H2.length:=by obtain⟨a,b',c,d,pv,hx⟩:=hs';exact St hx
    have hos2:os<H2.length:=by obtain⟨a,b',c,d,pv,hx⟩:=hs';exact hx.lt
    have hcl2:H1.length<H2.length:=(B8.1 cc).1;generalize (H2++[some (AObj.cells [I q.pos,I q.len])])=H3 at hs3 fs3 cc3 tq hl3
    -- the deed
    have deed:¬(¬Bm ct.1.2 (q.pos/8)∧KY s'=0)→bO (Ac 0 (.ptr H2.length 0)) (λv25=>bO (Ar false 1 H3 v25) λv26=>bO (Ac 1 (.ptr H2.length 0)) λv27=>bO (Ar false 1 H3 v27) λv28=>bO (Aq .add (I (q.pos - pos)) v28) λv29=>bO (AW 1 x3 (some (I (q.pos - pos))) (some v29) none) λv30=>
      bC (BCall prog 101 [v30] H3) λv31 H32=>bO (FD [(I 0),(I 0),(I 0),(I 0),(B false),(.lit (.string ⟨#[]⟩)),(.lit (.string ⟨#[]⟩)),Ad] [(0,1,(I 2)),(1,1,I ino),(2,1,v26),(7,1,v31)]) λv33=>
      bC (BCall prog 48 [.ptr os 0,v33] H32) λv34 H35=>(Ar false 1 H32 v25=some v26)∧bO (Aq .neq v34 (I 0)) λv36=>bB v36 λt37=>bI t37
       (AV.tup [I (q.pos - pos),v34]=.tup [I W.1.1,I W.1.2]∧
        ∃p',StAt W.2 os p' H35∧StF os p p' H H35)
       (bO (Aq .add (I k) (I 1)) λv38=>R2 [.ptr os 0,I ino,I pos,x3,.ptr H1.length 0,x36,I L.length,v38] H35)):=by
     intro hno;have e4:Aq .add (I (q.pos - pos)) (I q.len)=some (I (q.pos - pos+q.len)):=Ax (by omega) (by omega)
     have hv3:Aa H3 1 x3=some (AF b,b.length):=Ae hv λj hj=>by
      have hne:=hvi j hj;exact fs3.same j (hvH j hj) hne.1 hne.2
     obtain⟨r5,s1,s2,s3,-⟩:=EZ hv3 (lo:=some (I (q.pos - pos))) (hi:=some (I (q.pos - pos+q.len))) (l:=(q.pos - pos).toNat) (k:=(q.pos - pos+q.len).toNat) (by simp only[Bu];rw[if_pos (by omega)]) (by simp only[Bu];rw[if_pos (by omega)]) (by omega) (by omega);have hpl2:=WP (b:=b) (pos:=pos) (q:=q) ⟨q1,q2,q3,q4⟩
     have s2':Aa H3 1 r5=some (AF (Ef b pos q),(Ef b pos q).length):=by
      rw[s2,hpl2];unfold Ef;rw[Ai8,Ai8,show(q.pos - pos+q.len).toNat - (q.pos - pos).toNat=q.len.toNat by omega];simp[AF,An5,Ao9]
     obtain⟨Rb,hRb,hcb⟩:=jZ s2' (by omega);simp only[zQ,Ak tq,e4,s1];refine bC_of hcb ?_
     have e5:FD [(I 0),(I 0),(I 0),(I 0),(B false),(.lit (.string ⟨#[]⟩)),(.lit (.string ⟨#[]⟩)),Ad] [(0,1,(I 2)),(1,1,I ino),(2,1,I q.pos),(7,1,Rb)]=some (.agg (DG (In ino q.pos (Ef b pos q)) Rb)):=by
      have:=SV.oneA hRb
      simp[FD,DG,In,AO this];rfl
     simp only[e5,Ab];obtain⟨r6,H6,⟨rfl,p6,h6,f6⟩,hcall⟩:=sP (o:=In ino q.pos (Ef b pos q)) hs3 hws' (by omega) hRb (aU (by omega));have hws6:=cT (o:=In ino q.pos (Ef b pos q)) hws' (aU (by omega));refine bC_of hcall ⟨by rw[Ak tq];rfl,?_⟩;simp only[CD,zC]
     by_cases hd:(LR s' (In ino q.pos (Ef b pos q))).1=0
     ·simp only[hd,yY,zI,Ax (a:=k) (b:=1) (by omega) (by omega),Ab]
      have hwt:wt (In ino q.pos (Ef b pos q))≤9:=by
       show 1+(Ef b pos q).length+(if(2:Int)=4 then 4098 else 0)≤9
       rw[if_neg (by omega)];omega
      refine hR2 (m - 1) _ _ _ _ _ _ _ _ _ (by omega) ⟨k+1,_,p6,by omega,rfl,rfl,rfl,rfl,rfl,rfl,rfl,by simp,h6,fs3.trans f6,hws6.mono (by omega),?_,?_,?_⟩
      ·rw[f6.same H1.length (by omega) (by omega) hcp];exact cc3
      ·intro hh
       rcases f6.ids _ hh with hh | hh
       ·exact hcp hh
       ·omega
      ·rw[← heq,hdrop]
       conv=>rhs;unfold SI
       rw[if_neg hno,if_neg (by rw[hd];simp)]
     ·have eW:W=((q.pos - pos,(LR s' (In ino q.pos (Ef b pos q))).1),(LR s' (In ino q.pos (Ef b pos q))).2):=by
       rw[← hW];unfold SI;rw[if_neg hno,if_pos hd]
      rw[eW];simp only[hd,zA,zL];exact⟨by trivial,p6,h6,fs3.trans f6⟩
    by_cases hh:Bm ct.1.2 (q.pos/8)
    ·simp only[hh,CM,Ab5,zJ,zW,show((false==true)=false)from rfl,Cq,KZ,An]
     exact deed (λx=>x.1 hh)
    ·simp only[hh,Dg,Bo,Bool.not_false,Ab,AK,yZ,Od]
     refine bC_of (iS hs3 hws' (by omega)) ?_;simp only[Cn,zC,Aw,if_true]
     by_cases hfr:KY s'=0
     ·have eW:W=((q.pos - pos,4),s'):=by
       rw[← hW];unfold SI;rw[if_pos ⟨hh,hfr⟩]
      rw[eW];simp only[hfr,zL];exact⟨by trivial,p',hs3,fs3⟩
     ·simp only[hfr,zI]
      exact deed (λx=>hfr x.2)
   ·have kI:¬(k:Int)<(L.length:Int):=by omega
    have hdrop:L.drop k=[]:=Ad9 hge;rw[hdrop];unfold SI;simp only[Aa6,kI,zI,alv];exact⟨by trivial,p',hs',fs'⟩
  ·have hf':¬(0≤pos∧b.length≤4096∧pos≤1099511627776 - b.length):=hf
   simp only[hf,hf',Dg,Ab5,zH,not_false_eq_true,if_true];exact⟨by trivial,p,h2,.of_grew (g1.trans g2)⟩
 ·simp only[hc0,zA,zE,Ao]
  exact⟨by trivial,p,h2,.of_grew (g1.trans g2)⟩)
def UI (i:Int):List AV:=[I i]
theorem kQ (i:Int):(UI i).length=1:=rfl
theorem Zj (l:List Int):A3 (l.flatMap UI)=true:=Db λx _=>rfl
theorem xK (x:Int)(t:List AV):Am false 1 (UI x++t) 0=some (I x):=rfl
theorem tA {l:List Int}{v:AV}(hv:SV UI 1 l v)(hl:l.length≤281474976710656)(no:Int):∃j:Int,(0≤j↔no∈l)∧BPure prog 185 [v,I no] (I j):=by
 have key:∃r X,(∃j:Int,r=I j∧(0≤j↔no∈l))∧BCall prog 185 [v,I no] [] r X:=K4 (by
  unfold He;simp only[hv.len,Ab];refine HZ (λn x0 x1 x7 x8 H'=>∃k:Nat,k+n=l.length∧x0=v∧x1=I no∧x7=I l.length∧x8=I k∧∀(m:Nat) y,m<k→l[m]?=some y→no≠y) ?_ l.length ⟨0,by omega,rfl,rfl,rfl,rfl,by omega⟩;rintro n x0 x1 x7 x8 H R hR ⟨k,hk,rfl,rfl,rfl,rfl,hb⟩;unfold EV;rcases Ac9 k l.length with h | h
  ·have hx:=Ea h
   generalize l[k]=y at hx;have kI:(k:Int)<(l.length:Int):=by omega
   simp only[Aa6,kI,zL,hv.idx kQ hx rfl,Py,xK,Cn]
   by_cases c:no=y
   ·simp only[c,zL]
    exact⟨k,rfl,by simp only[Int.natCast_nonneg,true_iff];exact Ac7 hx⟩
   ·simp only[c,zI,Ax (a:=k) (b:=1) (by omega) (by omega),Ab]
    refine hR (n - 1) _ _ _ _ _ (by omega) ⟨k+1,by omega,rfl,rfl,rfl,by simp,?_⟩;intro m z hm hz
    by_cases e:m=k
    ·rw[e,hx]at hz;injection hz with hz;rw[← hz];exact c
    ·exact hb m z (by omega) hz
  ·have kI:¬(k:Int)<(l.length:Int):=by omega
   simp only[Aa6,kI,zI];refine⟨-1,rfl,by simp only[show ¬(0:Int)≤-1 by omega,false_iff];intro hy;obtain⟨m,hm⟩:=Ae0.1 hy;exact hb m no (by have:=(B8.1 hm).1;omega) hm rfl⟩)
 obtain⟨r,X,⟨j,rfl,hj⟩,hc⟩:=key;exact⟨j,hj,BPure.val (by simp[A3,noIds,hv.1]) rfl ⟨_,_,rfl,hc⟩⟩
theorem Yf {l:List Int}{v:AV}(hv:SV UI 1 l v)(hl:l.length≤281474976710656)(no:Int):BPure prog 151 [v,I no] (B (decide (no∈l))):=by
 obtain⟨j,hj,hp⟩:=tA hv hl no;refine BPure.val (by simp[A3,noIds,hv.1]) rfl (IH ?_);unfold Fv;refine A1 hp ?_;simp only[I9,Ab]
 congr 3;exact propext hj
def SG (l:List Int)(o:OpM):Prop:=o.kind=1∨o.kind=6∨o.kind=7∨o.ino∈l
instance (l:List Int) (o:OpM):Decidable (SG l o):=by unfold SG;infer_instance
theorem qD {o:OpM}{bv:AV}(hb:SV J9 1 o.b bv){l:List Int}{v:AV}(hv:SV UI 1 l v)(hl:l.length≤281474976710656):BPure prog 81 [.agg (DG o bv),v] (B (decide (SG l o))):=by
 have obv:=SV.oneA hb;have e1:A9 [] (.agg (DG o bv))=some (.ptr 0 0,[some (.cells (DG o bv))]):=by simp[DG,obv]
 have e0:([some (.cells (DG o bv))]:AH)[0]?=some (some (.cells (DG o bv))):=rfl;have i0:(DG o bv)[0]?=some (I o.kind):=rfl;have i1:(DG o bv)[1]?=some (I o.ino):=rfl;refine BPure.val (by simp[A3,noIds,hv.1,hb.1,DG]) rfl (VA ?_);unfold T4;simp only[e1,A0,zM,Ak e0,i0,Cn,Ag]
 have last:∀c:Prop,∀_ :Decidable c,J3 v (.ptr 0 0) [some (.cells (DG o bv))] (λr H=>r=B (decide (o.ino∈l))):=by
  intro c _;rw[RC];unfold LB;simp only[zM,Ak e0,i1];exact A1 (Yf hv hl o.ino) rfl
 unfold SG
 by_cases c1:o.kind=1
 ·simp only[c1,zL,true_or]
  rw[GK];unfold Fe;simp only[Ag,Ao]
  try trivial
 ·simp only[c1,zI,false_or]
  by_cases c6:o.kind=6
  ·simp only[c6,zL,true_or]
   rw[GK];unfold Fe;simp only[Ag,Ao]
   try trivial
  ·simp only[c6,zI,false_or]
   rw[GK];unfold Fe
   by_cases c7:o.kind=7
   ·simp only[c7,zL,Ag,true_or]
    try trivial
   ·simp only[c7,zI,Ag,false_or]
    exact last True inferInstance
def J4 (l:List Int):List OpM→bV×List OpM→bV×List OpM
 | [],x=>x
 | o::r,x=>if SG l o then J4 l r (B5 x.1.1 x.1.2 o,x.2)else J4 l r (x.1,x.2++[o])
def T6 (s:StS)(l:List Int):Int×StS:=
 if(Be s).1=true then(0,{(Be s).2 with kept:=(J4 l s.pend (s.kept,[])).1,pend:=(J4 l s.pend (s.kept,[])).2})else(8,(Be s).2)
theorem XZ {l:List Int}{N:Nat}:∀{r:List OpM} {x:bV×List OpM},(∃a,Few1 a x.1∧a+TV x.2+TV r≤N)→(∃a,Few1 a (J4 l r x).1∧a+TV (J4 l r x).2≤N)
 | [],x,⟨a,h1,h2⟩=>⟨a,h1,by simp only[J4];omega⟩
 | o::r,x,⟨a,h1,h2⟩=>by
  have e:TV (o::r)=wt o+TV r:=by simp[TV]
  unfold J4
  split
  ·exact XZ ⟨a+wt o,h1.step o,by simp only;omega⟩
  ·exact XZ ⟨a,h1,by simp only[VJ];omega⟩
theorem XY {l:List Int}:∀{r:List OpM} {x:bV×List OpM},(∀o∈x.2,iV o)→(∀o∈r,iV o)→∀o∈(J4 l r x).2,iV o
 | [],x,h1,h2,o,ho=>h1 o ho
 | q::r,x,h1,h2,o,ho=>by
  unfold J4 at ho;split at ho
  ·exact XY (x:=(B5 x.1.1 x.1.2 q,x.2)) h1 (λz hz=>h2 z (by simp[hz])) o ho
  ·refine XY (x:=(x.1,x.2++[q])) ?_ (λz hz=>h2 z (by simp[hz])) o ho
   intro z hz;simp only[zP]at hz;rcases hz with hz | rfl
   ·exact h1 z hz
   ·exact h2 _ (by simp)
theorem qE {N:Nat}{s:StS}(h:SW N s)(l:List Int):SW N (T6 s l).2:=by
 have hd:=X4 h;obtain⟨e1,e2,e3,e4,e5⟩:=Hi s;unfold T6
 split
 ·refine⟨by simp only[e1];exact h.now,?_,?_,hd.made,hd.cap,hd.armed⟩
  ·obtain⟨a,h1,h2⟩:=h.kept
   exact XZ ⟨a,h1,by simp only[TV,List.map_nil,List.sum_nil];unfold TV at h2;omega⟩
  ·exact XY (x:=(s.kept,[])) (by simp) h.ob
 ·exact hd
theorem rJ {N:Nat}{s:StS}{os:Nat}{p v:AV}{H:AH}(h:StAt s os p H)(hw:SW N s)(hN:N≤900000){l:List Int}(hv:Aa H 1 v=some (l.flatMap UI,l.length))(hvi:∀j∈AT v,j≠os∧j∉AT p)(hl:l.length≤1000000):
  ∃r H',(r=I (T6 s l).1∧∃p',StAt (T6 s l).2 os p' H'∧StF os p p' H H')∧BCall prog 37 [.ptr os 0,v] H r H':=OI (by
 unfold L5;obtain⟨r,H1,⟨rfl,h1,f1⟩,hc⟩:=kK h hw.armed;refine bC_of hc ?_;obtain⟨e1,e2,e3,e4,e5⟩:=Hi s;have hwd:=X4 hw;have hpl:(Be s).2.pend.length≤N:=by rw[e3];exact hw.plen
 have hob:∀o∈(Be s).2.pend,iV o:=by rw[e3];exact hw.ob
 have hkw:∃a,Few1 a (Be s).2.kept∧a+TV (Be s).2.pend≤N:=by rw[e2,e3];exact hw.kept
 unfold T6;rw[← e2,← e3];simp only[Ab5];cases hd:(Be s).1 with
 | false=>
  simp only[zH,An];exact⟨by trivial,p,h1,f1⟩
 | true=>
  have hv1:Aa H1 1 v=some (l.flatMap UI,l.length):=Ae hv λj hj=>f1.same j (A2 hv j hj) (hvi j hj).1 (hvi j hj).2
  clear e1 e2 e3 e4 e5 hc;generalize (Be s).2=s1 at*;simp only[if_true];obtain⟨a,b,c,d,pv,h1⟩:=h1;have hpn:pv.length=s1.pend.length:=by rw[← h1.pm,Af2]
  have alv:Bf p=some (I (s1.pend.length:Nat)):=by rw[← hpn];exact BF h1.ps
  simp only[zJ,Ab4,Ak h1.obj,alv];have hos:os<H1.length:=h1.lt;have hH:H.length≤H1.length:=f1.len;generalize hres:J4 l s1.pend (s1.kept,[])=res;refine K5 (λm x0 x1 x5 x14 x15 x16 H'=>∃(k:Nat) (ki:bV) (c' d':AV) (lv:List OpV),k+m=s1.pend.length∧x0=.ptr os 0∧x1=v∧x14=p∧x15=I s1.pend.length∧x16=I k∧StC {s1 with kept:=ki} os a b c' d' p pv H'∧StF os p p H1 H'∧J4 l (s1.pend.drop k) (ki,lv.map OpV.o)=res∧(∃a,Few1 a ki∧a+TV (lv.map OpV.o)+TV (s1.pend.drop k)≤N)∧Aa H' 8 x5=some (lv.flatMap MA,lv.length)∧AP x5=true∧Ch x5 lv.length∧(∀j∈AT x5,H1.length≤j)) ?_ s1.pend.length ⟨0,s1.kept,c,d,[],by omega,rfl,rfl,rfl,rfl,rfl,h1,.refl _ _ _,hres,by obtain⟨x,y,z⟩:=hkw;exact⟨x,y,by simp only[Ab1];simp only[TV,List.map_nil,List.sum_nil]at*;omega⟩,rfl,rfl,by simp[Ch],by simp[AT]⟩;rintro m x0 x1 x5 x14 x15 x16 H2 R hR ⟨k,ki,c',d',lv,hk,rfl,rfl,rfl,rfl,rfl,h2,f2,hsy,hfew,ls,lo,lc,li⟩
  have lvN:lv.length≤N:=by
   obtain⟨x,-,y⟩:=hfew
   have:=eG (l:=lv.map OpV.o)
   rw[Af2]at this;omega
  unfold Hf;rcases Ac9 k s1.pend.length with hlt | hge
  ·have hx:=Ea (show k<pv.length by omega)
   generalize pv[k]'(by omega)=x at hx;have hxo : s1.pend[k]? = some x.o:=by rw [← h1.pm,Af3,hx]; rfl
   have hdrop:s1.pend.drop k=x.o::s1.pend.drop (k+1):=Dt hxo;have hxb:=hob x.o (Ac7 hxo);rw[hdrop]at hsy hfew;have ox:=SV.oneA x.h;have kI:(k:Int)<(s1.pend.length:Int):=by omega
   obtain⟨pp,q1,q2⟩:=xE h2.ps hx;have n8:A9 H2 (.agg [(I 0),(I 0),(I 0),(I 0),(B false),(.lit (.string ⟨#[]⟩)),(.lit (.string ⟨#[]⟩)),Ad])=some (.ptr H2.length 0,H2++[some (.cells [I 0,I 0,I 0,I 0,B false,S ⟨#[]⟩,S ⟨#[]⟩,Ad])]):=by simp
   have t8:AR 8 (H2++[some (.cells [I 0,I 0,I 0,I 0,B false,S ⟨#[]⟩,S ⟨#[]⟩,Ad])]) (.ptr H2.length 0) (.agg (DG x.o x.bv))=some (H2++[some (.cells (DG x.o x.bv))]):=by
    rw[A8 (n:=8) (xs:=DG x.o x.bv) (cs:=[I 0,I 0,I 0,I 0,B false,S ⟨#[]⟩,S ⟨#[]⟩,Ad]) (by simp[DG,ox]) (by simp) rfl (by simp)];simp[AN,DG]
   have g3:=Grew.app H2 [some (.cells (DG x.o x.bv))];have rd8:Am true 8 (DG x.o x.bv) 0=some (.agg (DG x.o x.bv)):=rfl;have h3:=h2.grew g3;have f3:StF os x14 x14 H1 (H2++[some (AObj.cells (DG x.o x.bv))]):=f2.grew g3;have hl2:=f2.len
   have hv3:Aa (H2++[some (AObj.cells (DG x.o x.bv))]) 1 x1=some (l.flatMap UI,l.length):=Ae hv λj hj=>by
    have:=A2 hv j hj
    rw[f3.same j (by omega) (hvi j hj).1 (hvi j hj).2,f1.same j this (hvi j hj).1 (hvi j hj).2]
   obtain⟨Rv,hRv,fRv⟩:=FZ.sv hv3 (Zj l);have ls3:=g3.slice ls;have sm:Sm ki.1 ki.2:=by obtain⟨x,y,z⟩:=hfew;exact y.sm (by omega)
   simp only[Aa6,kI,zL,q1,q2,n8,zT,t8,Ak C6,rd8];refine bP_of (PCall.lend (FZs.cons (FZ.same (by simp[noIds,DG,A3,x.h.1])) (FZs.cons fRv FZs.nil)) rfl (qD x.h hRv (by omega))) ?_;have topx:(H2++[some (AObj.cells (DG x.o x.bv))])[H2.length]?=some (some (.cells (DG x.o x.bv))):=C6;have hl3:(H2++[some (AObj.cells (DG x.o x.bv))]).length=H2.length+1:=by simp
   generalize (H2++[some (AObj.cells (DG x.o x.bv))])=H3 at*;simp only[Ag]
   by_cases hst:SG l x.o
   ·obtain⟨RA,hRA,hpA⟩:=bU (o:=x.o) (bv:=x.bv) h3.kept sm x.h (by have:=hxb.1;omega) (by have:=hxb.2.1;omega) (by have:=hxb.2.2;omega)
    obtain⟨a',b',rfl,oa,ob⟩:=hRA.agg2;simp only[hst,zL,Au,zK,Ak h3.obj,(uB _ _ _ _ _ _ _ _ _).2,Ak topx,rd8];refine bP_of hpA ?_;obtain⟨h4,f4⟩:=h3.set (s':={s1 with kept:=B5 ki.1 ki.2 x.o}) h3.now hRA rfl;simp only[Au,zK,(xZ h3.obj oa ob).2,AC];rw[Gd];unfold Eo;simp only[Ax (a:=k) (b:=1) (by omega) (by omega),Ab];refine hR (m - 1) _ _ _ _ _ _ _ (by omega) ⟨k+1,_,a',b',lv,by omega,rfl,rfl,rfl,rfl,by simp,h4,f3.trans f4,?_,?_,?_,lo,lc,li⟩
    ·rw[← hsy];conv=>rhs;unfold J4
     rw[if_pos hst]
    ·obtain⟨y,z,w⟩:=hfew
     have e:TV (x.o::s1.pend.drop (k+1))=wt x.o+TV (s1.pend.drop (k+1)):=by simp[TV]
     exact⟨y+wt x.o,z.step x.o,by omega⟩
    ·exact Ae ls3 λj hj=>by
      have:=li j hj
      exact f4.same j (by have:=A2 ls3 j hj;omega) (by omega) (λq=>by have:=St h1 j q;omega)
   ·have eA:Cv H3 8 1 (Bg [(I 0),(I 0),(I 0),(I 0),(B false),(.lit (.string ⟨#[]⟩)),(.lit (.string ⟨#[]⟩)),Ad] 1) [(0,8,.agg (DG x.o x.bv))]=some (.sl H3.length 0 1 8 (.ex 1),H3++[some (.cells (MA x))]):=by
     simp[Cv,T8,Bg,MA,DG,P1,ox,AN]
    have g4:=Grew.app H3 [some (.cells (MA x))];have x1':AZ (H3++[some (AObj.cells (MA x))]) 8 (.sl H3.length 0 1 8 (.ex 1))=some (MA x,1):=AI (by simp[Aa,MA,DG]);obtain⟨r,H5,a1,a2,a3,a4,a5,a6⟩:=CL (bytes:=96) (g4.slice ls3) lo x1' (by omega);have a7:=NU (g4.slice ls3) lo x1' lc a1;simp only[hst,zI,Ak topx,rd8,Ab,eA,A0,a1];rw[Gd];unfold Eo;simp only[Ax (a:=k) (b:=1) (by omega) (by omega),Ab];have h4:=h3.grew g4;have f4:=f3.grew g4;have lt4:∀j,j<H1.length→j∉AT x5:=λj hj q=>by have:=li j q;omega
    have len4:(H3++[some (AObj.cells (MA x))]).length=H3.length+1:=by simp
    have k5:∀j,j<H1.length→H5[j]?=(H3++[some (AObj.cells (MA x))])[j]?:=λj hj=>a5 j (by omega) (lt4 j hj)
    refine hR (m - 1) _ _ _ _ _ _ _ (by omega) ⟨k+1,ki,c',d',lv++[x],by omega,rfl,rfl,rfl,rfl,by simp,?_,?_,?_,?_,?_,a2,by simpa using a7,?_⟩
    ·exact⟨by rw[k5 os hos];exact h4.obj,h4.now,h4.kept,h4.pm,Ae h4.ps λj hj=>k5 j (St h1 j hj),h4.po,h4.pi,h4.pc⟩
    ·exact⟨by omega,λj hj hne hjp=>by rw[k5 j hj];exact f4.same j hj hne hjp,λ_ q=>.inl q⟩
    ·rw[← hsy];conv=>rhs;unfold J4
     rw[if_neg hst];simp
    ·obtain⟨y,z,w⟩:=hfew
     have e:TV (x.o::s1.pend.drop (k+1))=wt x.o+TV (s1.pend.drop (k+1)):=by simp[TV]
     exact⟨y,z,by rw[Ah7];simp only[Ab3,VJ];omega⟩
    ·simpa using a3
    ·intro j hj
     rcases a6 j hj with q | q
     ·exact li j q
     ·omega
  ·have kI:¬(k:Int)<(s1.pend.length:Int):=by omega
   have hdrop:s1.pend.drop k=[]:=Ad9 hge;rw[hdrop]at hsy hfew;unfold J4 at hsy;rw[← hsy];have e7:AR 1 H2 (.ptr os 5) x5=some (H2.set os (some (.cells [I s1.cap,a,b,c',d',x5,I s1.made,I s1.armed,B s1.off]))):=oS h2.obj (by simp) (AL lo);have hnx:os∉AT x5:=λq=>by have:=li os q;omega
   simp only[Bi,zK,Ag,kI,zI,Au,e7,AC];have hl2:=f2.len;refine⟨by trivial,x5,⟨a,b,c',d',lv,⟨JX h2.lt,h2.now,h2.kept,rfl,Ae ls λj hj=>C2 (λe=>hnx (by rw[e];exact hj)),lo,hnx,lc⟩⟩,?_⟩;refine⟨by rw[Ae5];omega,λj hj hne hjp=>?_,λj hj=>.inr (by have:=li j hj;omega)⟩;rw[C2 (Af7 hne),f2.same j (by omega) hne hjp,f1.same j hj hne hjp])
theorem PL {α:Type}{enc:α→List AV}{f:α→AV}(he:∀x,enc x=[f x]){H:AH}{w:AV}{l:List α}{k:Nat}{x:α}(hw:Aa H 1 w=some (l.flatMap enc,l.length))(hx:l[k]?=some x):∃p,Bh 1 w (I k)=some p∧Ar false 1 H p=some (f x):=by
 have hk:=(B8.1 hx).1;obtain⟨p,c,h1,h2,h3,h4⟩:=K8 hw (i:=(k:Int)) rfl hk;have el:∀x,(enc x).length=1:=λx=>by rw[he];rfl
 have hc:c.take 1=[f x]:=by
  rw[h3,Da el hx,Ad7 (by rw[el];exact Ac6 1),Ac5 (by rw[el];exact Ac6 1),he]
 refine⟨p,h1,?_⟩;rw[RL h2 (by omega) h4];cases c with
 | nil=>simp at hc
 | cons y t=>simp at hc;rw[hc];rfl
theorem Y1 {H:AH}{v:AV}{cs:List AV}{n l k:Nat}(h:Aa H 1 v=some (cs,n))(hlk:l<k)(hkn:k≤n):
  ∃r,AW 1 v (some (I l)) (some (I k)) (some (I k))=some r∧(∀H,Aa H 1 v=some (cs,n)→Aa H 1 r=some ((cs.drop l).take (k - l),k - l))∧∀i∈AT r,i∈AT v:=by
 have b1:Bu (some (I l)) 0=some l:=by simp[Bu]
 have b2:∀d,Bu (some (I k)) d=some k:=λd=>by simp[Bu]
 have hcl:=Ca h;unfold Aa at h;unfold AW;split at h
 ·rename_i c len esz
  split at h
  ·rename_i hb
   obtain⟨rfl,hb⟩:=hb;injection h with h;injection h with h1 h2;subst h1;subst h2;simp only[b1,b2,Ai7];rw[if_pos ⟨by omega,by omega,by omega,by trivial⟩,if_neg (by omega)];refine⟨_,rfl,λH _=>?_,λi hi=>hi⟩;simp only[Aa,true_and,Ai8];rw[if_pos (by rw[Ac4,Ad1];omega)]
  ·cases h
 ·rename_i o off len esz cap
  split at h
  ·rename_i c hoc
   split at h
   ·rename_i hb
    obtain⟨rfl,hb⟩:=hb;injection h with h;injection h with h1 h2;subst h2;simp only[zO,b1,b2,Ai7];rw[if_pos ⟨by omega,by omega,by omega,by trivial⟩];refine⟨_,rfl,λH h2=>?_,λi hi=>hi⟩;unfold Aa at h2;simp only[true_and]at h2;split at h2
    ·rename_i c2 hoc2
     split at h2
     ·rename_i hb2
      injection h2 with h2;injection h2 with h3 h4;rw[AA hoc2 (by omega),← h3];simp only[Ai8];rw[Aj9,Ah1,Ah3]
      congr 3
      omega
     ·cases h2
    ·cases h2
   ·cases h
  ·cases h
 all_goals (try (injection h with h;injection h with h1 h2;omega))
 all_goals cases h
noncomputable abbrev jU:Code:=AJ f150
noncomputable abbrev chO:Array Oper:=Zo (sub [true,true,true,true,false,true,true,false] jU)
noncomputable abbrev chY : Oper := chO.toList.getD 10 ⟨none, .nilCheck (.tmp 0), 0, "", #[], none⟩
theorem oJ:f150.body=some (.seq (sub [false] jU) (.block 0 (.loop (.seq (.seq (sub [true,true,true,false,false] jU) (.cond (.tmp 9) .skip (.exit 0)))
  (.seq (.block 1 (.seq (sub [true,true,true,true,false,true,false] jU) (.seq (.region 4 chO false) (.cond (.tmp 30) .ret .skip)))) (sub [true,true,true,true,true] jU)))))):=by kernel_rfl
noncomputable abbrev xU (p:List Bool)(T:List AV)(H:AH)(K:Kf):Prop:=AG prog (KX []) Ap Ap Ap (Ci []) (sub p jU) 0 T H K
theorem wA (x0 x1 x2:AV)(H:AH)(Q:Exit→List AV→AH→Prop):xU [false] ([x0,x1,x2]++List.replicate 28 AE) H (λe T H=>fP (mk 31 0 [0,1,2,4]) T λX=>Q e X H)=Q .normal [x0,x1,x2,I 0] H:=by kernel_rfl
theorem wB (x0 x1 x2 x4:AV)(H:AH)(Q:Exit→List AV→AH→Prop):xU [true,true,true,false,false] (AY (mk 31 0 [0,1,2,4]) [x0,x1,x2,x4]) H (λe T H=>fP (mk 31 0 [0,1,2,4,9]) T λX=>Q e X H)=
  bO (Ar false 1 H x1) λv7=>bO (Bf v7) λv8=>bO (Aq .lss x4 v8) λv9=>Q .normal [x0,x1,x2,x4,v9] H:=by kernel_rfl
theorem wD (x0 x1 x2 x4 x9:AV)(H:AH)(Q:Exit→List AV→AH→Prop):xU [true,true,true,true,false,true,false] (AY (mk 31 0 [0,1,2,4,9]) [x0,x1,x2,x4,x9]) H (λe T H=>fP (mk 31 0 [0,1,2,4,5]) T λX=>Q e X H)=
  bO (Ar false 1 H x2) λv13=>bO (Ar false 1 H x1) λv14=>bO (AW 1 v14 (some x4) none none) λv16=>bO (Bf v16) λv17=>bO (amm XA [v13,v17]) λv18=>Q .normal [x0,x1,x2,x4,v18] H:=by kernel_rfl
theorem wE (x0 x1 x2 x4 x5:AV)(H:AH)(Q:List AV→AH→Prop):Md prog Ap Ap false chO (chO.toList.take 10) (AY (mk 31 0 [0,1,2,4,5]) [x0,x1,x2,x4,x5]) H (λT H=>fP (mk 31 0 [0,1,2,4,19,28]) T λX=>Q X H)=
  bO (Ar false 1 H x1) λv20=>bO (Aq .add x4 x5) λv24=>bO (Aq .add x4 x5) λv27=>bO (AW 1 v20 (some x4) (some v24) (some v27)) λv28=>Q [x0,x1,x2,x4,x0,v28] H:=by kernel_rfl
theorem qR (x0 x1 x2 x4 x19 x28 x29:AV)(H:AH)(Q:List AV→AH→Prop):Md prog Ap Ap false chO (chO.toList.drop 11) (Dh (AY (mk 31 0 [0,1,2,4,19,28]) [x0,x1,x2,x4,x19,x28]) (some 29) x29) H (λT H=>fP (mk 31 0 [0,1,2,4,30]) T λX=>Q X H)=
  bO (EX .not x29) λv30=>Q [x0,x1,x2,x4,v30] H:=by kernel_rfl
theorem wC (x0 x1 x2 x4 x30:AV)(H:AH)(Q:Exit→List AV→AH→Prop):xU [true,true,true,true,true] (AY (mk 31 0 [0,1,2,4,30]) [x0,x1,x2,x4,x30]) H (λe T H=>fP (mk 31 0 [0,1,2,4]) T λX=>Q e X H)=
  bO (Ar false 1 H x2) λv11=>bO (Aq .add x4 v11) λv12=>Q .normal [x0,x1,x2,v12] H:=by kernel_rfl
theorem sG:chO.toList=chO.toList.take 10++chY::chO.toList.drop 11:=by kernel_rfl
noncomputable abbrev chA:Array TypeId:=match chY.op with
 | .call c=>c.argTypes
 | _=> #[]
theorem oK:chY.op=.call {callee:=.value (.tmp 19),args:=#[.tmp 28],argTypes:=chA}∧chY.guard=none∧chY.dst=some 29:=⟨by kernel_rfl,by kernel_rfl,by kernel_rfl⟩
theorem cM:CE (KX []) Ap Ap (sub [false] jU)=true∧CE (KX []) Ap Ap (sub [true,true,true,false,false] jU)=true∧CE (KX []) Ap Ap (sub [true,true,true,true,false,true,false] jU)=true∧CE (KX []) Ap Ap (sub [true,true,true,true,true] jU)=true:=⟨by kernel_rfl,by kernel_rfl,by kernel_rfl,by kernel_rfl⟩
def qQ (s:AV)(len n j:Nat):AV:=(AW 1 s (some (I (j*n:Nat))) (some (I (j*n+min n (len - j*n):Nat))) (some (I (j*n+min n (len - j*n):Nat)))).getD AE
def iM (len n:Nat):Nat:=(len+n - 1)/n
def uS (s:AV)(len n:Nat):List AV:=(List.range (iM len n)).map (qQ s len n)
theorem Xv (s:AV)(len n:Nat):(uS s len n).length=iM len n:=by simp[uS]
theorem jV {len n k:Nat}(hn:0<n):k<iM len n↔k*n<len:=by
 unfold iM;rw[show(k<(len+n - 1)/n)=(k+1≤(len+n - 1)/n)from rfl,Nat.le_div_iff_mul_le hn,Af9];omega
theorem iZ (a d:Nat):Bu (some (I a)) d=some a:=by simp[Bu]
theorem oY (a b:Nat):XA (a:Int) b=((min a b:Nat):Int):=by unfold XA;split<;>omega
theorem jY {o1 o2:Nat}{s:AV}{cs:List AV}{len n:Nat}(hn:0<n)(hn2:n≤1099511627776)(hlen:len≤1099511627776):Xe prog 150 [.ptr o1 0,.ptr o2 0] (λH=>H[o1]?=some (some (.cells [s]))∧H[o2]?=some (some (.cells [I n]))∧Aa H 1 s=some (cs,len)) (uS s len n):=by
 have e31:f150.ntmps=31:=by kernel_rfl
 refine XB func150 oJ (by kernel_rfl) ?_;intro l G0 rec T p H J X hrd hpd hps hT h0 hcap hr;rw[e31,Xv];generalize hY:(AV.lit (.func (.yield l) #[] #[]))=Y;refine XCode.seqP (fl:=KX []) (ql:=Ap) (al:=Ap) (un:=Ap) (kp:=Ci []) (n:=0) (keep:=mk 31 0 [0,1,2,4]) Lg cM.1 (λe T T' H he h=>by cases e<;>first | exact absurd rfl he | exact h) ?_;refine Eq.mpr (wA Y (.ptr o1 0) (.ptr o2 0) H _) ?_;refine(?_:XCode _ l G0 (.block 0 _) _ _ _ _);refine XCode.block ?_;refine XCode.loop (λm T H r=>∃k,k+m=iM len n∧r=rec∧T.length=31∧NG (mk 31 0 [0,1,2,4]) T=[Y,.ptr o1 0,.ptr o2 0,I (k*n:Nat)]∧J k H) (iM len n) ⟨0,by omega,rfl,rfl,by simp[mk,NG,AY],h0⟩ ?_;rintro m T H r ⟨k,hk,rfl,hl,hT2,hj⟩;refine XCode.weak (keep:=mk 31 0 [0,1,2,4]) hl ?_;rw[hT2];obtain⟨c1,c2,c3⟩:=hcap k H hj;have hkn:=jV (len:=len) (k:=k) hn;refine XCode.seq ?_;refine XCode.seqP (fl:=KX []) (ql:=Ap) (al:=Ap) (un:=Ap) (kp:=Ci []) (n:=0) (keep:=mk 31 0 [0,1,2,4,9]) Lg cM.2.1 (λe T T' H he h=>by cases e<;>first | exact absurd rfl he | exact h) ?_;refine Eq.mpr (wB Y (.ptr o1 0) (.ptr o2 0) _ H _) ?_;have al:Bf s=some (I (len:Nat)):=BF c3;simp only[Ak c1,Ah,CN,Ab,al,Bi];refine(?_:XCode _ l G0 (.cond (.tmp 9) .skip (.exit 0)) _ _ _ _);refine XCode.cond (b:=decide (((k*n:Nat):Int)<len)) rfl ?_
 by_cases h:k*n<len
 ·have hI:((k*n:Nat):Int)<(len:Int):=by omega
  simp only[hI,zE];refine XCode.skip ?_;refine(?_:XCode _ l G0 (.seq (.block 1 _) _) _ _ _ _);refine XCode.seq (XCode.block ?_);refine XCode.seqN (fl:=KX []) (ql:=Ap) (al:=Ap) (un:=Ap) (kp:=Ci []) (n:=0) (keep:=mk 31 0 [0,1,2,4,5]) Lg cM.2.2.1 ?_;refine Eq.mpr (wD Y (.ptr o1 0) (.ptr o2 0) _ _ H _) ?_;obtain⟨r1,s1,s2,-⟩:=EZ c3 (lo:=some (I (k*n:Nat))) (hi:=none) (l:=k*n) (k:=len) (iZ _ _) rfl (by omega) (Ac6 _);have al1:Bf r1=some (I (len - k*n:Nat)):=BF s2;have hmin:amm XA [I n,I (len - k*n:Nat)]=some (I (min n (len - k*n):Nat)):=by rw[Qd,oY]
  simp only[Ak c2,Ak c1,Ah,CN,Ab,s1,al1,hmin];refine⟨by trivial,?_⟩;refine XCode.seq (XCode.region ?_);refine Eq.mpr (congrArg (λL=>XOps _ l G0 chO _ L _ _ _) sG) ?_;refine XOps.preP (ql:=Ap) (al:=Ap) (keep:=mk 31 0 [0,1,2,4,19,28]) ?_;refine Eq.mpr (wE Y (.ptr o1 0) (.ptr o2 0) _ _ H _) ?_
  have hadd:Aq .add (I (k*n:Nat)) (I (min n (len - k*n):Nat))=some (I (k*n+min n (len - k*n):Nat)):=by
   rw[Ax (by omega) (by omega)];congr 3
  have hlt:k*n<k*n+min n (len - k*n):=by omega
  obtain⟨r2,t1,t2,-⟩:=Y1 c3 hlt (show k*n+min n (len - k*n)≤len by omega)
  have hx:(uS s len n)[k]?=some r2:=by
   unfold uS;rw[Af3,Aj6 (hkn.2 h)]
   show some (qQ s len n k)=some r2
   unfold qQ;rw[t1];rfl
  simp only[Ak c1,Ah,CN,Ab,hadd,t1];refine XOps.yield oK.1 oK.2.1 hY.symm hrd hpd hps hT (hr k r2 H hx hj) ?_ ?_
  ·intro H' hj'
   rw[oK.2.2];obtain⟨d1,d2,d3⟩:=hcap (k+1) H' hj';refine Eq.mpr (congrArg (λL=>XOps _ l G0 chO _ L _ _ _) (Af5 _).symm) ?_;refine XOps.preP (ql:=Ap) (al:=Ap) (keep:=mk 31 0 [0,1,2,4,30]) ?_;refine Eq.mpr (qR Y (.ptr o1 0) (.ptr o2 0) _ _ _ _ H' _) ?_;simp only[Bo,Ab,Al5];refine XOps.nil ?_;refine(?_:XCode _ l G0 (.cond (.tmp 30) .ret .skip) _ _ _ _);refine XCode.cond (b:=false) rfl ?_;simp only[An];refine XCode.skip ?_;refine(?_:XCode _ l G0 (sub [true,true,true,true,true] jU) _ _ _ _);refine XCode.of ((DR (fl:=KX []) (ql:=Ap) (al:=Ap) (un:=Ap) (kp:=Ci []) Lg _ 0 _ _ _ cM.2.2.2 (Eq.mpr (wC Y (.ptr o1 0) (.ptr o2 0) _ _ H' (λe X H2=>e=.normal∧X=[Y,.ptr o1 0,.ptr o2 0,I ((k+1)*n:Nat)]∧H2=H')) ?_)).mono ?_)
   ·have ha:Aq .add (I (k*n:Nat)) (I n)=some (I ((k+1)*n:Nat)):=by
     rw[Ax (by omega) (by omega)];congr 3;rw[Af9];omega
    simp only[Ak d2,Ah,CN,Ab,ha];exact⟨by trivial,by trivial,by trivial⟩
   ·intro e T' H2 hk2
    obtain⟨hl2,rfl,hX,rfl⟩:=BI.1 hk2;exact⟨m - 1,by have:=hkn.2 h;omega,k+1,by have:=hkn.2 h;omega,rfl,hl2,hX,hj'⟩
  ·intro c H' hx'
   rw[oK.2.2];refine Eq.mpr (congrArg (λL=>XOps _ l G0 chO _ L _ _ _) (Af5 _).symm) ?_;refine XOps.preP (ql:=Ap) (al:=Ap) (keep:=mk 31 0 [0,1,2,4,30]) ?_;refine Eq.mpr (qR Y (.ptr o1 0) (.ptr o2 0) _ _ _ _ H' _) ?_;simp only[Bo,Ab,Bool.not_false];refine XOps.nil ?_;refine(?_:XCode _ l G0 (.cond (.tmp 30) .ret .skip) _ _ _ _);refine XCode.cond (b:=true) rfl ?_;simp only[if_true];refine XCode.ret ?_;exact⟨.inr rfl,.inr ⟨c,rfl,hx'⟩⟩
 ·have hI:¬((k*n:Nat):Int)<(len:Int):=by omega
  simp only[hI,Dg,An];refine XCode.exit ?_
  have hkN:k=iM len n:=by
   have:=mt hkn.1 h
   omega
  exact⟨.inl rfl,.inl ⟨rfl,by rw[← hkN];exact hj⟩⟩
theorem StAt.keep {s:StS}{os:Nat}{p:AV}{H H':AH}(h:StAt s os p H)(k:∀j,j=os∨j∈AT p→H'[j]?=H[j]?):StAt s os p H':=by
 obtain⟨a,b,c,d,pv,h⟩:=h;exact⟨a,b,c,d,pv,by rw[k os (.inl rfl)];exact h.obj,h.now,h.kept,h.pm,Ae h.ps λi q=>k i (.inr q),h.po,h.pi,h.pc⟩
theorem StAt.os_lt {s:StS}{os:Nat}{p:AV}{H:AH}(h:StAt s os p H):os<H.length:=by obtain⟨a,b,c,d,pv,h⟩:=h;exact h.lt
theorem StAt.p_lt {s:StS}{os:Nat}{p:AV}{H:AH}(h:StAt s os p H):∀j∈AT p,j<H.length:=by obtain⟨a,b,c,d,pv,h⟩:=h;exact St h
theorem nM {H:AH}{v:AV}{cs:List AV}{m:Nat}(hv:Aa H 1 v=some (cs,m))(ho:oneA v=true):BCall prog 79 [v,I 4096] H (.fn (.func 150) [] [.ptr H.length 0,.ptr (H.length+1) 0]) (H++[some (.cells [v]),some (.cells [I 4096])]):=by
 obtain⟨r,H',⟨rfl,rfl⟩,hc⟩:=J0 (a0:=v) (a1:=I 4096) (H:=H) (K:=λr H'=>r=.fn (.func 150) [] [.ptr H.length 0,.ptr (H.length+1) 0]∧H'=H++[some (.cells [v]),some (.cells [I 4096])]) (by
  unfold Ga;have e1:A9 H v=some (.ptr H.length 0,H++[some (.cells [v])]):=by unfold A9;rw[AO ho];rfl
  have e2:A9 (H++[some (.cells [v])]) (I 4096)=some (.ptr (H.length+1) 0,H++[some (.cells [v]),some (.cells [I 4096])]):=by unfold A9;rw[AO (v:=I 4096) rfl];simp
  have c2:(H++[some (AObj.cells [v]),some (.cells [I 4096])])[H.length+1]?=some (some (.cells [I 4096])):=by simp
  simp only[e1,A0,e2,Ak c2,Ah,CN,Aa6,show ¬(4096:Int)<1 by omega,zI];exact⟨by trivial,by trivial⟩)
 exact hc
def Cf (b:List UInt8):List (List UInt8):=(List.range (iM b.length 4096)).map λj=>(b.drop (j*4096)).take (min 4096 (b.length - j*4096))
def pcs (ino:Int):List (List UInt8)→StS→Int→Int→(StS×Int×Int)×Int
 | [],s,at',sum=>((s,at',sum),0)
 | b::r,s,at',sum=>
  if(BT s ino at' b).1.2=0 then pcs ino r (BT s ino at' b).2 (at'+(BT s ino at' b).1.1) (sum+(BT s ino at' b).1.1)
  else(((BT s ino at' b).2,at'+(BT s ino at' b).1.1,sum+(BT s ino at' b).1.1),(BT s ino at' b).1.2)
def Hq (l:List (List UInt8)):Nat:=(l.map List.length).sum
theorem rB {c:List Ext}{ino pos:Int}{b:List UInt8}:∀{l:List Sp} {s:StS},(∀q∈l,pos≤q.pos∧0<q.len∧q.len≤8∧q.pos+q.len≤pos+b.length)→0≤(SI c ino pos b l s).1.1∧(SI c ino pos b l s).1.1≤b.length
 | [],s,_=>by unfold SI;simp only;omega
 | q::r,s,hq=>by
  have h1:=hq q (by simp);unfold SI
  split
  ·simp only;omega
  ·split
   ·simp only;omega
   ·exact rB λx hx=>hq x (by simp[hx])
theorem ZF (s:StS)(ino pos:Int)(b:List UInt8):0≤(BT s ino pos b).1.1∧(BT s ino pos b).1.1≤b.length:=by
 unfold BT
 split
 ·simp only;omega
 ·split
  ·simp only;omega
  ·rename_i hf
   have hf:=Af6 hf;exact rB λq hq=>Vv hf hq
abbrev sX:List Bool:=[true,true,false,true,false,false,true,true,false,false,true,true,false]
def PM (b:List UInt8)(j:Nat):List UInt8:=(b.drop (j*4096)).take (min 4096 (b.length - j*4096))
theorem ZY {b:List UInt8}{i:Nat}(h:i<iM b.length 4096):(Cf b)[i]?=some (PM b i):=by
 unfold Cf;rw[Af3,Aj6 h];rfl
theorem ZZ (b:List UInt8):(Cf b).length=iM b.length 4096:=by simp[Cf]
theorem sF {H:AH}{v:AV}{b:List UInt8}{j:Nat}(hv:Aa H 1 v=some (AF b,b.length))(hj:j*4096<b.length):
  Aa H 1 (qQ v b.length 4096 j)=some (AF (PM b j),(PM b j).length)∧∀i∈AT (qQ v b.length 4096 j),i∈AT v:=by
 obtain⟨r,h1,h2,h3⟩:=Y1 hv (l:=j*4096) (k:=j*4096+min 4096 (b.length - j*4096)) (by omega) (by omega);have e:qQ v b.length 4096 j=r:=by unfold qQ;rw[h1];rfl
 rw[e];refine⟨?_,h3⟩;rw[h2 H hv];unfold PM;rw[Al4,Ac4,Ad1];simp only[AF,An5,Ao9]
 congr 2
 omega
structure Bd (NN:Nat)(rest:List (List UInt8))(s:StS)(at' sum:Int):Prop where
 w:∃M,SW M s∧M+9*Hq rest≤NN
 a:0≤at'∧at'+Hq rest≤9223372036854775807
 s:0≤sum∧sum+Hq rest≤9223372036854775807
theorem WC (b:List UInt8)(r:List (List UInt8)):Hq (b::r)=b.length+Hq r:=by simp[Hq]
theorem mB {ino:Int}:∀{l:List (List UInt8)} {N:Nat} {s:StS} {a m:Int},SW N s→SW (N+9*Hq l) (pcs ino l s a m).1.1
 | [],N,s,a,m,h=>h
 | b::r,N,s,a,m,h=>by
  have h1:=RG h ino a b;rw[WC];unfold pcs
  split
  ·exact(mB h1).mono (by omega)
  ·exact h1.mono (by omega)
def G5 (nm:List UInt8)(size:Int)(l:List Ext):bV:=([⟨nm,1⟩],[⟨1,size,l⟩])
theorem XJ {nm:List UInt8}{size:Int}{l:List Ext}(hn:Gz nm)(h:Ck size l):MayW (G5 nm size l).1 (G5 nm size l).2:=by
 refine⟨by simp[G5],?_,by simp[G5,BW],by simp[G5],by simp[G5,BW],by simpa[G5]using h,by simp[G5,AM]⟩;intro x hx;simp only[G5,Ah0]at hx;subst hx;exact⟨hn,by simp only;omega,by simp only;omega⟩
theorem aT {nm:List UInt8}{size:Int}{l:List Ext}{o:OpM}{c:Gn}(hn:Gz nm)(h:Ck size l)(hk:o.kind=2)(hi:o.ino=1)(hc:O0 o ⟨1,size,l⟩=some c):B5 (G5 nm size l).1 (G5 nm size l).2 o=G5 nm c.1 c.2:=by
 unfold B5;rw[if_pos (FH.2 (XJ hn h)),if_neg (by omega),if_pos (by omega)];have e1:ZT Nd.ino (G5 nm size l).2 o.ino=some ⟨1,size,l⟩:=by rw[hi];rfl
 have e2:CW BX Nd.ino (G5 nm size l).2 o.ino=0:=by rw[hi];rfl
 unfold Qq;rw[e1];simp only[hc,e2];rfl
structure ON (nm:List UInt8)(cap:Int)(size:Int)(l:List Ext)(s:StS):Prop where
 now:s.now=G5 nm size l
 nm:Gz nm
 mc:Ck size l
 cap:s.cap=cap
 off:s.off=false
 armed:s.armed= -1
theorem ON.content {nm:List UInt8}{cap size:Int}{l:List Ext}{s:StS}(h:ON nm cap size l s):AB s 1=((size,l),0):=by
 have hg:O5 s.now.1 s.now.2 1:=by
  rw[h.now];exact⟨FH.2 (XJ h.nm h.mc),by simp[G5,AM]⟩
 unfold AB;rw[if_neg (by rw[h.off];simp),if_pos hg]
 have:E2 s.now.1 s.now.2 1=⟨1,size,l⟩:=by
  unfold E2;rw[if_pos hg,h.now];rfl
 rw[this]
theorem ON.free {nm:List UInt8}{cap size:Int}{l:List Ext}{s:StS}(h:ON nm cap size l s)(hl:(l.length:Int)<cap):KY s≠0:=by
 unfold KY;rw[h.cap,h.now];have:JE (G5 nm size l).2=l.length:=by simp[JE,G5]
 rw[this];omega
theorem ON.do {nm:List UInt8}{cap size:Int}{l:List Ext}{s:StS}(h:ON nm cap size l s){p:Int}{bs:List UInt8}(hb:bs≠[])(hp:0≤p)(hlen:bs.length≤4096)(hf:p≤1099511627776 - bs.length):
  (LR s (In 1 p bs)).1=0∧ON nm cap (max size (p+bs.length)) (Bt l p bs) (LR s (In 1 p bs)).2:=by
 have hw:DA (size,l) p bs=some (max size (p+bs.length),Bt l p bs):=by
  unfold DA;rw[if_pos ⟨h.mc,hp,hlen,hf⟩,if_neg hb]
 have hd:Be s=(true,s):=by
  unfold Be;rw[if_neg (by rw[h.off,h.armed];simp),if_neg (by rw[h.armed];omega)]
 unfold LR;rw[hd];refine⟨rfl,?_,h.nm,Of hw,h.cap,h.off,h.armed⟩
 show B5 s.now.1 s.now.2 (In 1 p bs)=_
 rw[h.now];refine aT (o:=In 1 p bs) (c:=(max size (p+bs.length),Bt l p bs)) h.nm h.mc rfl rfl ?_
 show(if(2:Int)=2 then DA (size,l) p bs else _)=_
 rw[if_pos rfl,hw]
theorem PT {l:List Ext}(hs:srt l){p:Int}{bs:List UInt8}(h:p % 8+bs.length≤8)(hb:bs≠[]):(Bt l p bs).length≤l.length+1:=by
 rw[← nE hs h hb]
 have:=(QZ l (p/8)).1
 simp only[Dn,Vy,Af2];exact this
theorem ON.cuts {nm:List UInt8}{cap:Int}{c:List Ext}{pos:Int}{b:List UInt8}(hpos:0≤pos)(hbl:b.length≤4096)(hf:pos≤1099511627776 - b.length):∀(f k:Nat) {size:Int} {l:List Ext} {s:StS},k≤b.length→b.length - k≤f→ON nm cap size l s→(l.length:Int)+(b.length - k:Nat)≤cap→
  ∃s',SI c 1 pos b (Co f (pos+k) (b.length - k:Nat) 8) s=(((b.length:Int),0),s')∧∃size' l',ON nm cap size' l' s'∧l'=Bt l (pos+k) (b.drop k)∧size'=(if b.length - k=0 then size else max size (pos+b.length))∧l'.length≤l.length+(b.length - k)
 | 0,k,size,l,s,hk,hfk,h,hc=>by
  have e:b.drop k=[]:=Ad9 (by omega);refine⟨s,by simp[Co,SI],size,l,h,by rw[e];rfl,by rw[if_pos (by omega)],by omega⟩
 | f+1,k,size,l,s,hk,hfk,h,hc=>by
  by_cases h0:b.length - k=0
  ·have e:b.drop k=[]:=Ad9 (by omega)
   refine⟨s,?_,size,l,h,by rw[e];rfl,by rw[if_pos h0],by omega⟩;unfold Co;rw[if_neg (by omega)];unfold SI;rfl
  ·have m1:=Ak2 (pos+k) (show(0:Int)<8 by omega)
   have m2:=Al8 (pos+k) (show(8:Int)≠0 by omega);obtain⟨n,hn⟩:∃n:Nat,min ((b.length - k:Nat):Int) (8 - (pos+k) % 8)=n:=⟨(min ((b.length - k:Nat):Int) (8 - (pos+k) % 8)).toNat,by omega⟩;have n1:0<n∧n≤8∧n≤b.length - k:=by omega
   unfold Co;rw[if_pos (by omega),hn]
   have hpb:Ef b pos ⟨pos+k,n⟩=(b.drop k).take n:=by
    unfold Ef;simp only;rw[show(pos+k - pos).toNat=k by omega,show((n:Int)).toNat=n by omega]
   have hbs:((b.drop k).take n).length=n:=by rw[Ac4,Ad1];omega
   have hne:(b.drop k).take n≠[]:=by intro q;rw[q]at hbs;simp at hbs;omega
   obtain⟨d1,d2⟩:=h.do hne (p:=pos+k) (by omega) (by omega) (by omega);unfold SI;rw[if_neg (λq=>h.free (by omega) q.2),hpb];simp only;rw[if_neg (by rw[d1];simp)];rw[hbs]at d2;have hl1:=PT (FI.1 h.mc).2.2.1 (p:=pos+k) (bs:=(b.drop k).take n) (by omega) hne;obtain⟨s',w1,size',l',w2,w3,w4,w5⟩:=ON.cuts (c:=c) hpos hbl hf f (k+n) (by omega) (by omega) d2 (by omega);refine⟨s',?_,size',l',w2,?_,?_,by omega⟩
   ·rw[show pos+(k:Int)+n=pos+(k+n:Nat) by omega,show((b.length - k:Nat):Int) - n=(b.length - (k+n):Nat) by omega]
    exact w1
   ·rw[w3]
    conv=>rhs;rw[← Ag0 n (b.drop k)]
    rw[Yb,hbs,Ah1]
    congr 1
    omega
   ·rw[w4,if_neg h0]
    split<;>omega
theorem ON.write {nm:List UInt8}{cap size pos:Int}{l:List Ext}{s:StS}{b:List UInt8}(h:ON nm cap size l s)(hpos:0≤pos)(hbl:b.length≤4096)(hf:pos≤1099511627776 - b.length)(hc:(l.length:Int)+b.length≤cap):
  ∃s',BT s 1 pos b=(((b.length:Int),0),s')∧∃size' l',ON nm cap size' l' s'∧l'=Bt l pos b∧size'=(if b.length=0 then size else max size (pos+b.length))∧l'.length≤l.length+b.length:=by
 unfold BT;rw[h.content,if_neg (by simp),if_neg (λq=>q ⟨hpos,hbl,hf⟩)]
 have e:DQ ⟨pos,b.length⟩ 8=Co (b.length) pos b.length 8:=by
  unfold DQ;rw[if_pos ⟨⟨by unfold May;simp only;omega,by unfold May;simp only;omega,by simp only;omega⟩,by simp only;omega,by omega⟩]
  show Co ((b.length:Int)).toNat pos b.length 8=_
  rw[show((b.length:Int)).toNat=b.length by omega]
 rw[e]
 have:=ON.cuts (c:=l) hpos hbl hf b.length 0 (by omega) (by omega) h (by omega)
 simpa using this
theorem Xw {b:List UInt8}(h:b.length≤4096):Cf b=if b=[]then []else [b]:=by
 unfold Cf iM
 by_cases hb:b=[]
 ·subst hb;rfl
 ·have:0<b.length:=List.length_pos_iff.2 hb
  rw[if_neg hb,show(b.length+4096 - 1)/4096=1 by omega];simp;rw[Ac5 (by omega)]
theorem Qr:∀{bl:List (AV×List UInt8)},(∀x∈bl,x.2.length≤4096)→(bl.flatMap λx=>Cf x.2).flatten=(bl.map Prod.snd).flatten∧(∀b∈bl.flatMap λx=>Cf x.2,b.length≤4096)∧Hq (bl.flatMap λx=>Cf x.2)=((bl.map Prod.snd).flatten).length
 | [],_=>by simp[Hq]
 | x::r,h=>by
  obtain⟨i1,i2,i3⟩:=Qr (bl:=r) λy hy=>h y (by simp[hy])
  have hx:=h x (by simp);have ec:=Xw hx;simp only[Ae9,Aj5,An2,List.flatten_append,Ad0];refine⟨?_,?_,?_⟩
  ·rw[i1,ec];split
   ·rename_i e;rw[e];rfl
   ·simp
  ·intro b hb
   rw[Ag2]at hb;rcases hb with hb | hb
   ·rw[ec]at hb
    split at hb
    ·simp at hb
    ·simp at hb;rw[hb];exact hx
   ·exact i2 b hb
  ·have:Hq (Cf x.2)=x.2.length:=by
    rw[ec];split
    ·rename_i e;rw[e];rfl
    ·simp[Hq]
   rw[← i3,← this];simp[Hq]
def XO (s:StS)(nm:List UInt8)(l:List (List UInt8)):Int×StS:=
 if(AX s nm true).1.2≠0 then((AX s nm true).1.2,(AX s nm true).2)
 else if(D9 (AX s nm true).2 (AX s nm true).1.1 0).1≠0 then D9 (AX s nm true).2 (AX s nm true).1.1 0
 else if(Av.pcs (AX s nm true).1.1 l (D9 (AX s nm true).2 (AX s nm true).1.1 0).2 0 0).2≠0 then((Av.pcs (AX s nm true).1.1 l (D9 (AX s nm true).2 (AX s nm true).1.1 0).2 0 0).2,(Av.pcs (AX s nm true).1.1 l (D9 (AX s nm true).2 (AX s nm true).1.1 0).2 0 0).1.1)
 else T6 (Av.pcs (AX s nm true).1.1 l (D9 (AX s nm true).2 (AX s nm true).1.1 0).2 0 0).1.1 [(AX s nm true).1.1]
structure LwS (os b0:Nat)(ino:Int)(s:StS)(at':Int)(p:AV)(H:AH):Prop where
 st:StAt s os p H
 bx:H[b0]?=some (some (.cells [.ptr os 0]))
 bi:H[b0+1]?=some (some (.cells [I ino]))
 br:∃a,H[b0+2]?=some (some (.cells [a]))
 ba:H[b0+3]?=some (some (.cells [I at']))
 no:os<b0
 nb:∀j,b0≤j→j≤b0+3→j∉AT p
structure LwF (os b0:Nat)(p p':AV)(H H':AH):Prop where
 len:H.length≤H'.length
 same:∀j,j<H.length→j≠os→(j<b0+2∨b0+3<j)→j∉AT p→H'[j]?=H[j]?
 ids:∀j∈AT p',j∈AT p∨H.length≤j
theorem LwF.refl (os b0:Nat)(p:AV)(H:AH):LwF os b0 p p H H:=⟨Ac6 _,λ_ _ _ _ _=>rfl,λ_ h=>.inl h⟩
theorem LwF.trans {os b0:Nat}{p p' p'':AV}{A B C:AH}(h:LwF os b0 p p' A B)(k:LwF os b0 p' p'' B C):LwF os b0 p p'' A C:=
  ⟨Ae1 h.len k.len,λj hj h1 h3 hp=>by
    rw[k.same j (Af0 hj h.len) h1 h3 (λhp'=>(h.ids j hp').elim hp (λq=>by omega)),h.same j hj h1 h3 hp],
   λj hj=>(k.ids j hj).elim (h.ids j) (λq=>.inr (Ae1 h.len q))⟩
theorem LwF.of_grew {os b0:Nat}{p:AV}{H H':AH}(g:Grew H H'):LwF os b0 p p H H':=⟨g.1,λj hj _ _ _=>g.2 j hj,λ_ h=>.inl h⟩
theorem LwS.grew {os b0:Nat}{ino:Int}{s:StS}{at':Int}{p:AV}{H H':AH}(h:LwS os b0 ino s at' p H)(g:Grew H H'):LwS os b0 ino s at' p H':=by
 obtain⟨a,ha⟩:=h.br;exact⟨h.st.grew g,g.cells h.bx,g.cells h.bi,⟨a,g.cells ha⟩,g.cells h.ba,h.no,h.nb⟩
theorem lK {os b0:Nat}{ino:Int}{s:StS}{at':Int}{p w:AV}{H:AH}{N:Nat}{b:List UInt8}{K0:AV→AH→Prop}{J X:AH→Prop}(h:LwS os b0 ino s at' p H)(hw:SW N s)(hN:N+9*b.length<900000)
  (hv:Aa H 1 w=some (AF b,b.length)) (hvi:∀j∈AT w,j≠os∧j∉AT p) (ha:0≤at'∧at'+b.length≤9223372036854775807)
  (hj:(BT s ino at' b).1.2=0→∀p' H',LwS os b0 ino (BT s ino at' b).2 (at'+(BT s ino at' b).1.1) p' H'→LwF os b0 p p' H H'→J H')
  (hx:(BT s ino at' b).1.2≠0→∀p' H',StAt (BT s ino at' b).2 os p' H'→LwF os b0 p p' H H'→H'[b0+2]?=some (some (.cells [I (BT s ino at' b).1.2]))→X H'):
  Eu (λe H'=>match e with | .normal=>J H' | .ret=>X H' | _=>False) (.ptr b0 0) (.ptr (b0+1) 0) (.ptr (b0+2) 0) (.ptr (b0+3) 0) w H K0:=by
 unfold Eu;obtain⟨n1,n2⟩:=ZF s ino at' b;obtain⟨r,H1,⟨rfl,p',h1,f1⟩,hc⟩:=Xg h.st hw ino at' hN hv hvi;generalize BT s ino at' b=W at*;have d4:=h.no;have hl3:b0+3<H.length:=(B8.1 h.ba).1;have np:∀j,j<H.length→j∉AT p→j∉AT p':=λj hj hp q=>(f1.ids j q).elim hp (λq=>by omega)
 have keep:∀j,b0≤j→j≤b0+3→H1[j]?=H[j]?:=λj hj1 hj2=>f1.same j (by omega) (by omega) (h.nb j hj1 hj2)
 have kx:H1[b0]?=_:=(keep b0 (by omega) (by omega)).trans h.bx;have ki:H1[b0+1]?=_:=(keep _ (by omega) (by omega)).trans h.bi;have ka:H1[b0+3]?=_:=(keep _ (by omega) (by omega)).trans h.ba;obtain⟨a2,q2⟩:=h.br;have kr:H1[b0+2]?=_:=(keep _ (by omega) (by omega)).trans q2;simp only[Ak h.bx,Ak h.bi,Ak h.ba,Ah,CN,Ab];refine bC_of hc ?_;have hlen:=f1.len;have hid:∀j∈AT p',j<H1.length:=h1.p_lt;simp only[zU,zC,CD]
 have nob:∀j,j=os∨j∈AT p'→j≠b0+2∧j≠b0+3:=by
  intro j hj;rcases hj with rfl | hj
  ·omega
  ·exact⟨λe=>np (b0+2) (by omega) (h.nb _ (by omega) (by omega)) (by rw[← e];exact hj),λe=>np (b0+3) (by omega) (h.nb _ (by omega) (by omega)) (by rw[← e];exact hj)⟩
 by_cases he:W.1.2=0
 ·have e1:Aq .add (I at') (I W.1.1)=some (I (at'+W.1.1)):=Ax (by omega) (by omega)
  have e2:AR 1 H1 (.ptr (b0+3) 0) (I (at'+W.1.1))=some (H1.set (b0+3) (some (.cells [I (at'+W.1.1)]))):=oS ka (by simp) rfl;simp only[he,yY,zI,Ak ka,Ah,CN,Ab,e1,e2,AC];generalize hH2:H1.set (b0+3) (some (AObj.cells [I (at'+W.1.1)]))=H2;have g2:∀j,j≠b0+3→H2[j]?=H1[j]?:=λj hj=>by rw[← hH2];exact C2 (Af7 hj)
  have ga:H2[b0+3]?=some (some (.cells [I (at'+W.1.1)])):=by rw[← hH2];exact JX (by omega)
  have l2:H2.length=H1.length:=by rw[← hH2,Ae5]
  exact hj he p' H2 ⟨h1.keep λj hj=>g2 j (nob j hj).2,by rw[g2 _ (by omega)];exact kx,by rw[g2 _ (by omega)];exact ki,⟨a2,by rw[g2 _ (by omega)];exact kr⟩,ga,d4,λj hj1 hj2=>np j (by omega) (h.nb j hj1 hj2)⟩
   ⟨by omega,λj hj h1 h3 hp=>by rw[g2 j (by omega),f1.same j hj h1 hp],f1.ids⟩
 ·have e2:AR 1 H1 (.ptr (b0+2) 0) (I W.1.2)=some (H1.set (b0+2) (some (.cells [I W.1.2]))):=oS kr (by simp) rfl
  simp only[he,zA,zL,e2,AC];generalize hH2:H1.set (b0+2) (some (AObj.cells [I W.1.2]))=H2;have g2:∀j,j≠b0+2→H2[j]?=H1[j]?:=λj hj=>by rw[← hH2];exact C2 (Af7 hj)
  have ga:H2[b0+2]?=some (some (.cells [I W.1.2])):=by rw[← hH2];exact JX (by omega)
  have l2:H2.length=H1.length:=by rw[← hH2,Ae5]
  exact hx he p' H2 (h1.keep λj hj=>g2 j (nob j hj).1) ⟨by omega,λj hj h1 h3 hp=>by rw[g2 j (by omega),f1.same j hj h1 hp],f1.ids⟩ ga
noncomputable abbrev tI:Code:=AJ f36
theorem tJ (x3 x4 x6 x7 x13 x14 x15 x20 x:AV)(H:AH)(Q:Exit→List AV→AH→Prop):AG prog (KX []) Ap Ap Ap (Ci []) (Y0 (sub sX tI)) 0 ((AY (mk 37 0 [3,4,6,7,13,14,15,20]) [x3,x4,x6,x7,x13,x14,x15,x20]).set 21 x) H (λe T H=>fP (mk 37 0 [3,4,6,7,10]) T λX=>Q e X H)=Q .normal [x3,x4,x6,x7,x] H:=by kernel_rfl
theorem gJ:E1 (KX []) Ap (Y0 (sub sX tI))=true:=by kernel_rfl
theorem lM:CE A6 xY LV (sub (sX++[true]) tI)=true:=by kernel_rfl
theorem tK {x3 x4 x6 x7 x13 x14 x15 x20 x:AV}{H:AH}{J X:AH→Prop}{K0:AV→AH→Prop}(h:Eu (λe H'=>match e with | .normal=>J H' | .ret=>X H' | _=>False) x3 x4 x6 x7 x H K0):
  Wo prog (Y0 (sub sX tI)) (sub (sX++[true]) tI) (AY (mk 37 0 [3,4,6,7,13,14,15,20]) [x3,x4,x6,x7,x13,x14,x15,x20]) 21 x H J (λc H'=>c=.ret∧X H'):=by
 obtain⟨e,T',H',hk,hb⟩:=Fs Lg (Y0 (sub sX tI)) 0 _ H _ gJ (Eq.mpr (tJ x3 x4 x6 x7 x13 x14 x15 x20 x H (λe X H2=>e=.normal∧X=[x3,x4,x6,x7,x]∧H2=H)) ⟨rfl,rfl,rfl⟩);obtain⟨hl,he,hX,hH⟩:=BI.1 hk;subst he;subst hH;refine⟨T',hb,?_⟩;refine ACode.weak (λG a hF=>DL hl hF) ?_;rw[hX];refine(DR Lg (sub (sX++[true]) tI) _ _ _ _ lM (Eq.mpr (Sz (λe H'=>match e with | .normal=>J H' | .ret=>X H' | _=>False) x3 x4 x6 x7 x _ K0) h)).mono ?_;intro e T H2 hk;cases e with
 | normal=>exact hk
 | ret=>exact⟨rfl,hk⟩
 | _=>exact hk.elim
theorem yT {R4:List AV→AH→Prop}{x3 x4 x6 x7 x13 x14 x15:AV}{H:AH}{K:AV→AH→Prop}{k:FuncId}{cap xs:List AV}{Cap:AH→Prop}(hit:Xe prog k cap Cap xs)(hgo:B1 prog k=true)(J:Nat→AH→Prop)(X:AH→Prop)(h0:J 0 H)(hcap:∀i H',J i H'→Cap H')
  (hr:∀i x H',xs[i]?=some x→J i H'→Eu (λe H'=>match e with | .normal=>J (i+1) H' | .ret=>X H' | _=>False) x3 x4 x6 x7 x H' K)
  (hdone:∀H',J xs.length H'→bO (Aq .add x15 (I 1)) λv6=>R4 [x3,x4,x6,x7,x13,x14,v6] H')
  (hout:∀H',X H'→bO (Ar false 1 H' x6) λv7=>K v7 H'):Ps R4 x3 x4 x6 x7 x13 x14 x15 (.fn (.func k) [] cap) H K:=by
 refine⟨?_⟩;rw[PI];refine ACode.rangeF hit hgo rfl J (λc H'=>c=.ret∧X H') h0 hcap (λi x H' hx hj=>tK (hr i x H' hx hj)) (λH' hj=>?_) (λc H' hx=>.inl ⟨hx.1,?_⟩)
 ·exact Eq.mpr (S3 R4 x3 x4 x6 x7 x13 x14 x15 (.fn (.func k) [] cap) H' K) (hdone H' hj)
 ·exact Eq.mpr (S4 R4 x3 x4 x6 x7 x13 x14 x15 (.fn (.func k) [] cap) H' K) (hout H' hx.2)
end
end Go.Proofs.YtbppnhenlboefaaGreat.Av
