/- Texts of this proof, one behind the other, packed into one file by a program of this session. No condition. -/
import Derived.Test.YtbppnhenlboefaaGreatMwH
import Derived.KernelRfl
set_option linter.unusedVariables false
set_option linter.unusedSimpArgs false
set_option maxRecDepth 100000
namespace Go.Proofs.YtbppnhenlboefaaGreat.Av
open Go Go.RowKit Go.Proofs.Tryz
section
section
variable {κ α : Type} {c : κ→κ→Int} {key : α→κ}
theorem Xq (hc:KO c):∀{l m:List α},BX c key l→BX c key m→(∀x,x∈l↔x∈m)→l=m
 | [],[],_,_,_=>rfl
 | [],b::m,_,_,h=>by have:=(h b).2 (by simp);simp at this
 | a::l,[],_,_,h=>by have:=(h a).1 (by simp);simp at this
 | a::l,b::m,h1,h2,h=>by
  have k1:=xB.1 h1;have k2:=xB.1 h2
  have e:a=b:=by
   rcases vX.1 ((h a).1 (by simp))with e | q1
   ·exact e
   ·rcases vX.1 ((h b).2 (by simp))with e | q2
    ·exact e.symm
    ·exact absurd (hc.trans _ _ _ (k1.1 b q2) (k2.1 a q1)) (hc.irr _)
  subst e
  congr 1
  refine Xq hc k1.2 k2.2 λx=>?_
  have irr:∀y,y∈l∨y∈m→y≠a:=by
   rintro y (q | q) rfl
   ·exact hc.irr _ (k1.1 y q)
   ·exact hc.irr _ (k2.1 y q)
  constructor
  ·intro q
   rcases vX.1 ((h x).1 (by simp[q]))with e | q2
   ·exact absurd e (irr x (.inl q))
   ·exact q2
  ·intro q
   rcases vX.1 ((h x).2 (by simp[q]))with e | q2
   ·exact absurd e (irr x (.inr q))
   ·exact q2
theorem LI (hc:KO c){l:List α}(h:BX c key l){k k2:κ}(hk:AO key l k)(hne:k2≠k):AO key (CQ c key l k) k2↔AO key l k2:=by
 constructor
 ·rintro⟨x,hx,e⟩
  exact⟨x,delK_sub.subset hx,e⟩
 ·rintro⟨x,hx,e⟩
  exact⟨x,(Fa hc h hk).2 ⟨hx,by rw[e];exact hne⟩,e⟩
theorem Z7 (hc:KO c){l:List α}(h:BX c key l){k k2:κ}(hk:AO key l k)(hk2:AO key l k2)(hne:k≠k2):CQ c key (CQ c key l k) k2=CQ c key (CQ c key l k2) k:=by
 refine Xq hc (Er (Er h)) (Er (Er h)) λx=>?_
 rw[Fa hc (Er h) ((LI hc h hk (wD hne)).2 hk2),Fa hc h hk,Fa hc (Er h) ((LI hc h hk2 hne).2 hk),Fa hc h hk2,and_right_comm]
end
theorem U2 {ns:List Nm}(hs:BX AX Nm.name ns){s t:List UInt8}(hk:AO Nm.name ns s)(ht:AO Nm.name ns t)(hne:t≠s):EP (CQ AX Nm.name ns s) t=EP ns t:=by
 obtain⟨x,h1,h2,rfl⟩:=Y4 ht;unfold EP;rw[h1,Ve koN (Er hs) ((Fa koN hs hk).2 ⟨h2,hne⟩)]
end
section
theorem Tw:∀{bs:List UInt8} {l:List Ext} {p:Int},(BO l p bs).length≤l.length+bs.length
 | [],l,p=>vB _
 | b::r,l,p=>by
  show(BO (Du l p [b]) (p+1) r).length≤_
  have ih:=Tw (bs:=r) (l:=Du l p [b]) (p:=p+1)
  have h:(Du l p [b]).length≤l.length+1:=by
   unfold Du
   have:=SO l (p/8)
   simp[TU];omega
  simp only[vR];omega
theorem hZ {o:OpM}{d:Nd}:(cL (Nx o d)).length≤d.l.length+o.b.length+4098:=by
 unfold Nx
 split
 ·unfold F4
  split
  ·split
   ·simp only[cL,xV];omega
   ·simp only[cL,xV]
    have:=Tw (bs:=o.b) (l:=d.l) (p:=o.pos)
    omega
  ·simp[cL]
 ·split
  ·unfold Di
   split
   ·simp only[cL,xV,Ix,Nr,wB]
    exact vO (xN _ _) (by omega)
   ·simp[cL]
  ·split
   ·unfold FO
    split
    ·simp only[cL,xV,Nu]
     have:=(XZ (k:=allocN o.pos o.size) (l:=d.l) (no:=o.pos/8)).1
     have hN:allocN o.pos o.size≤4098:=by unfold allocN;omega
     omega
    ·simp[cL]
   ·split
    ·unfold Hi
     split
     ·simp only[cL,xV,Ji,Nr,wB]
      exact vO (xN _ _) (by omega)
     ·simp[cL]
    ·simp[cL]
def oN (ns:List Nm)(ds:List Nd):Prop:=ns.length≤30∧ds.length≤30∧(∀d∈ds,d.l.length≤60)∧JX ds≤300
instance (ns:List Nm) (ds:List Nd):Decidable (oN ns ds):=by unfold oN;infer_instance
theorem OwI.lend {L:Nat}{ns:List Nm}{dv:List NdV}{a b:AV}{H:AH}(h:OwI L ns dv a b H):∃R,ImV ns (dv.map NdV.nd) R∧FZ H (.agg [a,b]) R:=by
 obtain⟨Ra,h1,f1⟩:=FZ.sv h.sa (Dv λx _=>LV x);obtain⟨Rb,h2,f2⟩:=FZ.sv h.sb (Dv λx _=>GR x);exact⟨_,⟨Ra,Rb,dv,rfl,h1,h2,rfl⟩,FZ.agg (FZs.cons f1 (FZs.cons f2 FZs.nil))⟩
theorem aO {ns:List Nm}{ds:List Nd}{v:AV}(hv:ImV ns ds v)(hb:Sm ns ds):∃R,ImV ns ds R∧BPure prog 43 [v] R:=by
 have hids:=hv.noIds;obtain⟨a,b,dv,rfl,sa,sb,rfl⟩:=hv;have b2:=hb.2.1;rw[wB]at b2;obtain⟨r,X,⟨a',b',ew,rfl,hew,-,ow⟩,hc⟩:=aN (H:=[]) sa sb hb.1 b2 (λd hd=>hb.2.2.2 d.nd (wF hd));obtain⟨R,hR,fR⟩:=ow.lend;rw[hew]at hR;exact BPure.FZ hids ⟨_,X,⟨R,fR,hR⟩,hc⟩
structure OpV where
 o:OpM
 bv:AV
 h:SV N2 1 o.b bv
def KX (x:OpV):List AV:=DD x.o x.bv
theorem Sh (x:OpV):(KX x).length=8:=rfl
theorem qV {H:AH}{w:AV}{l:List OpV}{k:Nat}{x:OpV}(hw:Aa H 8 w=some (l.flatMap KX,l.length))(hx:l[k]?=some x):∃p,Bk 8 w (I k)=some p∧Ar true 8 H p=some (.agg (DD x.o x.bv)):=by
 have hk:=(BE.1 hx).1;obtain⟨p,c,h1,h2,h3,h4⟩:=Jp hw (i:=(k:Int)) rfl hk
 have hc:c.take 8=KX x:=by
  rw[h3,CU Sh hx,vL (by rw[Sh];omega),vA (by rw[Sh];omega)]
 exact⟨p,h1,by rw[Pv h2 (by omega) h4,F7 (by omega),vZ,hc];rfl⟩
section
variable {α κ ι : Type} {c : κ→κ→Int} {key : α→κ}
theorem S8 {f:α→ι}{l:List α}{x:α}{i:ι}:AO f (Il c key l x) i↔f x=i∨AO f l i:=by
 unfold AO
 constructor
 ·rintro⟨y,hy,e⟩
  rcases FY.1 hy with rfl | hy
  ·exact .inl e
  ·exact .inr ⟨y,hy,e⟩
 ·rintro(e | ⟨y,hy,e⟩)
  ·exact⟨x,FY.2 (.inl rfl),e⟩
  ·exact⟨y,FY.2 (.inr hy),e⟩
theorem PL (hc:KO c){f:α→ι}{l:List α}(h:BX c key l){k:κ}(hk:AO key l k){i:ι}:AO f (CQ c key l k) i↔∃y∈l,key y≠k∧f y=i:=by
 unfold AO
 constructor
 ·rintro⟨y,hy,e⟩
  obtain⟨h1,h2⟩:=(Fa hc h hk).1 hy;exact⟨y,h1,h2,e⟩
 ·rintro⟨y,hy,h2,e⟩
  exact⟨y,(Fa hc h hk).2 ⟨hy,h2⟩,e⟩
theorem Mw {β:Type}{f:α→β}:∀{l:List α},l.Nodup→((l.map f).Nodup↔∀x∈l,∀y∈l,f x=f y→x=y)
 | [],_=>by simp
 | a::l,h=>by
  obtain⟨h1,h2⟩:=xL.1 h;rw[xS,xL,Mw h2]
  constructor
  ·rintro⟨h3,h4⟩ x hx y hy e
   rcases vX.1 hx with hx1 | hx1<;>rcases vX.1 hy with hy1 | hy1
   ·rw[hx1,hy1]
   ·rw[hx1]at e;exact absurd (vV.2 ⟨y,hy1,e.symm⟩) h3
   ·rw[hy1]at e;exact absurd (vV.2 ⟨x,hx1,e⟩) h3
   ·exact h4 x hx1 y hy1 e
  ·intro h3
   refine⟨λhm=>?_,λx hx y hy=>h3 x (by simp[hx]) y (by simp[hy])⟩;obtain⟨y,hy,e⟩:=vV.1 hm
   have:=h3 y (by simp[hy]) a (by simp) e
   exact h1 (this▸hy)
theorem NH (hc:KO c){l:List α}(h:BX c key l):l.Nodup:=by
 refine List.Pairwise.imp ?_ h;rintro a b hab rfl;exact hc.irr _ hab
end
structure MayW (ns:List Nm)(ds:List Nd):Prop where
 len:ns.length≤16
 nm:∀x∈ns,FX x.name∧1≤x.ino∧x.ino≤4611686018427387904
 srt:BX AX Nm.name ns
 inj:∀x∈ns,∀y∈ns,x.ino=y.ino→x=y
 sd:BX Ca Nd.ino ds
 mc:∀d∈ds,E4 d.size d.l
 ino:∀i,AO Nd.ino ds i↔AO Nm.ino ns i
theorem XO {ds:List Nd}(h:BX Ca Nd.ino ds):(ds.map Nd.ino).Nodup:=by
 rw[List.Nodup,xR];exact h.imp λh=>by rw[Vj]at h;omega
theorem Kn {ns:List Nm}{ds:List Nd}:Jf ns ds↔MayW ns ds:=by
 constructor
 ·intro h
  have h2:=WR.1 h;obtain⟨h21,h22,⟨h23,h24,h25⟩,h26,h27,h28⟩:=h2;refine⟨h21,h23,h24,(Mw (NH koN h24)).1 h25,h26,h28,λi=>⟨?_,?_⟩⟩
  ·rintro⟨d,hd,rfl⟩
   exact(h.2.2.2 d hd).1
  ·rintro⟨x,hx,rfl⟩
   exact h27 x hx
 ·intro h
  refine⟨⟨h.len,h.nm,h.srt,(Mw (NH koN h.srt)).2 h.inj⟩,?_,h.sd,λd hd=>⟨(h.ino d.ino).1 ⟨d,hd,rfl⟩,h.mc d hd⟩⟩
  have hp:=(List.perm_ext_iff_of_nodup (XO h.sd) ((Mw (NH koN h.srt)).2 h.inj)).2 λi=>by
   have:=h.ino i
   unfold AO at this
   simpa[vV]using this
  have:=hp.length_eq
  simpa using this
theorem U3 {ns:List Nm}(hs:BX AX Nm.name ns){x:Nm}(hx:x∈ns):EP ns x.name=x.ino:=by
 unfold EP;rw[Ve koN hs hx]
theorem dS {ns:List Nm}{s:List UInt8}(h:¬AO Nm.name ns s):EP ns s=0:=by
 unfold EP;rw[Wn h]
theorem MayW.rem {ns:List Nm}{ds:List Nd}{s:List UInt8}(h:MayW ns ds)(hk:AO Nm.name ns s):MayW (CQ AX Nm.name ns s) (CQ Ca Nd.ino ds (EP ns s)):=by
 obtain⟨x,hx,rfl⟩:=hk;have hk:AO Nm.name ns x.name:=⟨x,hx,rfl⟩;rw[U3 h.srt hx];have hd:AO Nd.ino ds x.ino:=(h.ino _).2 ⟨x,hx,rfl⟩;have sub:∀y,y∈CQ AX Nm.name ns x.name→y∈ns:=λy hy=>delK_sub.subset hy
 have hl:=L0 (S9 koN h.srt hk)
 have:=h.len
 refine⟨by omega,λy hy=>h.nm y (sub y hy),Er h.srt,λy hy z hz=>h.inj y (sub y hy) z (sub z hz),Er h.sd,λd hd=>h.mc d (delK_sub.subset hd),λi=>?_⟩;rw[PL koI h.sd hd,PL koN h.srt hk]
 constructor
 ·rintro⟨d,hd1,hd2,rfl⟩
  obtain⟨y,hy,e⟩:=(h.ino d.ino).1 ⟨d,hd1,rfl⟩;exact⟨y,hy,λe2=>hd2 (by rw[← e,Qc koN h.srt hy hx e2]),e⟩
 ·rintro⟨y,hy,hne,rfl⟩
  obtain⟨d,hd1,e⟩:=(h.ino y.ino).2 ⟨y,hy,rfl⟩;exact⟨d,hd1,λe2=>hne (by rw[h.inj y hy x hx (by rw[← e,e2])]),e⟩
theorem MayW.ren {ns:List Nm}{ds:List Nd}{s t:List UInt8}(h:MayW ns ds)(hk:AO Nm.name ns s)(ht:¬AO Nm.name ns t)(hm:FX t):MayW (Il AX Nm.name (CQ AX Nm.name ns s) ⟨t,EP ns s⟩) ds:=by
 obtain⟨x,hx,rfl⟩:=hk;have hk:AO Nm.name ns x.name:=⟨x,hx,rfl⟩;rw[U3 h.srt hx];have mem:∀y,y∈Il AX Nm.name (CQ AX Nm.name ns x.name) ⟨t,x.ino⟩↔y=⟨t,x.ino⟩∨(y∈ns∧y.name≠x.name):=λy=>by rw[FY,Fa koN h.srt hk]
 have hl:=L0 (S9 koN h.srt hk)
 have:=h.len
 refine⟨by rw[SL];omega,?_,To koN (Er h.srt) (λhh=>ht ?_),?_,h.sd,h.mc,λi=>?_⟩
 ·intro y hy
  rcases(mem y).1 hy with rfl | ⟨hy,-⟩
  ·exact⟨hm,(h.nm x hx).2⟩
  ·exact h.nm y hy
 ·obtain⟨y,hy,e⟩:=hh
  exact⟨y,delK_sub.subset hy,e⟩
 ·intro y hy z hz e
  rcases(mem y).1 hy with rfl | ⟨hy,hny⟩<;>rcases(mem z).1 hz with rfl | ⟨hz,hnz⟩
  ·rfl
  ·exact absurd (by rw[h.inj x hx z hz e]) hnz
  ·exact absurd (by rw[h.inj y hy x hx e]) hny
  ·exact h.inj y hy z hz e
 ·rw[h.ino i,S8,PL koN h.srt hk]
  constructor
  ·rintro⟨y,hy,rfl⟩
   by_cases c:y.name=x.name
   ·exact .inl (by rw[Qc koN h.srt hy hx c])
   ·exact .inr ⟨y,hy,c,rfl⟩
  ·rintro(rfl | ⟨y,hy,-,rfl⟩)
   ·exact⟨x,hx,rfl⟩
   ·exact⟨y,hy,rfl⟩
theorem dR:E4 0 []:=by decide
theorem MayW.cre {ns:List Nm}{ds:List Nd}{o:OpM}(h:MayW ns ds)(hc:Z4 ns ds o):MayW (Il AX Nm.name ns ⟨o.name,o.ino⟩) (Il Ca Nd.ino ds ⟨o.ino,0,[]⟩):=by
 obtain⟨h1,h2,h3,h4,h5,h6⟩:=hc;have hn:¬AO Nm.ino ns o.ino:=λhh=>h2 ((h.ino _).2 hh)
 refine⟨by rw[SL];omega,?_,To koN h.srt h1,?_,To koI h.sd h2,?_,λi=>by rw[S8,S8,h.ino]⟩
 ·intro y hy
  rcases FY.1 hy with rfl | hy
  ·exact⟨h3,h4,h5⟩
  ·exact h.nm y hy
 ·intro y hy z hz e
  rcases FY.1 hy with rfl | hy<;>rcases FY.1 hz with rfl | hz
  ·rfl
  ·exact absurd ⟨z,hz,e.symm⟩ hn
  ·exact absurd ⟨y,hy,e⟩ hn
  ·exact h.inj y hy z hz e
 ·intro d hd
  rcases FY.1 hd with rfl | hd
  ·exact dR
  ·exact h.mc d hd
theorem cF {o:OpM}{d:Nd}{c:FM}(hk:o.kind=2∨o.kind=3∨o.kind=4∨o.kind=5)(h:Nx o d=some c):E4 c.1 c.2:=by
 unfold Nx at h;split at h
 ·exact U0 h
 ·split at h
  ·exact ZN h
  ·split at h
   ·exact ZL h
   ·split at h
    ·exact ZM h
    ·omega
theorem Z0 {ds:List Nd}{o:OpM}(hs:BX Ca Nd.ino ds):(P5 ds o).map Nd.ino=ds.map Nd.ino:=by
 unfold P5
 split
 ·rename_i d hd
  split
  ·rename_i c hc
   have hk:AO Nd.ino ds o.ino:=⟨d,yS hd,by simpa using List.find?_some hd⟩;obtain⟨y,h1,h2,h3⟩:=JL koI hs hk;have e:y=d:=by rw[hd]at h2;injection h2 with h2;exact h2.symm
   rw[zE,← e];apply wH;intro j;rw[wQ]
   split
   ·rename_i hj
    subst hj
    split
    ·rw[wA,h1];rfl
    ·rename_i hl
     rw[wA,h1]
     have:=(BE.1 h1).1
     simp at hl;omega
   ·rfl
  ·rfl
 ·rfl
theorem fK {ds es:List Nd}(e:ds.map Nd.ino=es.map Nd.ino)(h:BX Ca Nd.ino es):BX Ca Nd.ino ds:=by
 unfold BX at h⊢;have h1:(es.map Nd.ino).Pairwise λa b=>Ca a b<0:=xR.2 h
 rw[← e]at h1;exact xR.1 h1
theorem dA {ds es:List Nd}(e:ds.map Nd.ino=es.map Nd.ino)(i:Int):AO Nd.ino ds i↔AO Nd.ino es i:=by
 have a:∀l:List Nd,AO Nd.ino l i↔i∈l.map Nd.ino:=λl=>by unfold AO;simp[vV]
 rw[a,a,e]
theorem WT {ds:List Nd}{o:OpM}(hs:BX Ca Nd.ino ds){d:Nd}(h:d∈P5 ds o):d∈ds∨(d.ino=o.ino∧∃e∈ds,e.ino=o.ino∧Nx o e=some (d.size,d.l)):=by
 unfold P5 at h;split at h
 ·rename_i e he
  split at h
  ·rename_i c hc
   have e1:=yS he;have e2:e.ino=o.ino:=by simpa using List.find?_some he
   rcases List.mem_or_eq_of_mem_set h with h | h
   ·exact .inl h
   ·exact .inr ⟨by rw[h];exact e2,e,e1,e2,by rw[h];exact hc⟩
  ·exact .inl h
 ·exact .inl h
theorem MayW.chg {ns:List Nm}{ds:List Nd}{o:OpM}(h:MayW ns ds)(hk:o.kind=2∨o.kind=3∨o.kind=4∨o.kind=5):MayW ns (P5 ds o):=by
 have hi:=Z0 (o:=o) h.sd;refine⟨h.len,h.nm,h.srt,h.inj,fK hi h.sd,λd hd=>?_,λi=>by rw[dA hi,h.ino]⟩;rcases WT h.sd hd with hd | ⟨-,e,-,-,he⟩
 ·exact h.mc d hd
 ·exact cF hk he
theorem nK {ns:List Nm}{ds:List Nd}{s t:List UInt8}(h:MayW ns ds)(hk:AO Nm.name ns s)(hne:s≠t):
  (Il AX Nm.name (EQ (CQ AX Nm.name ns s) t) ⟨t,EP ns s⟩,Tf (CQ AX Nm.name ns s) ds t)=(Il AX Nm.name (CQ AX Nm.name (EQ ns t) s) ⟨t,EP (EQ ns t) s⟩,Tf ns ds t):=by
 unfold EQ Tf
 by_cases c:AO Nm.name ns t
 ·have c1:AO Nm.name (CQ AX Nm.name ns s) t:=(LI koN h.srt hk (wD hne)).2 c
  rw[if_pos c1,if_pos c,if_pos c1,if_pos c,Z7 koN h.srt hk c hne,U2 h.srt hk c (wD hne),U2 h.srt c hk hne]
 ·have c1:¬AO Nm.name (CQ AX Nm.name ns s) t:=λhh=>c ((LI koN h.srt hk (wD hne)).1 hh)
  rw[if_neg c1,if_neg c,if_neg c1,if_neg c]
theorem MayW.remN {ns:List Nm}{ds:List Nd}(h:MayW ns ds)(t:List UInt8):MayW (EQ ns t) (Tf ns ds t)∧¬AO Nm.name (EQ ns t) t:=by
 unfold EQ Tf
 by_cases c:AO Nm.name ns t
 ·rw[if_pos c,if_pos c]
  refine⟨h.rem c,?_⟩;rintro⟨y,hy,e⟩;exact((Fa koN h.srt c).1 hy).2 e
 ·rw[if_neg c,if_neg c];exact⟨h,c⟩
theorem dB {ns:List Nm}(hs:BX AX Nm.name ns){s t:List UInt8}(hne:s≠t):AO Nm.name (EQ ns t) s↔AO Nm.name ns s:=by
 unfold EQ
 split
 ·rename_i c;exact LI koN hs c hne
 ·rfl
theorem bW {ns:List Nm}{ds:List Nd}(h:MayW ns ds)(o:OpM):MayW (B9 ns ds o).1 (B9 ns ds o).2:=by
 unfold B9;rw[if_pos (Kn.2 h)]
 split
 ·split
  ·rename_i hc;exact h.cre hc
  ·exact h
 ·split
  ·rename_i hk;exact h.chg hk
  ·split
   ·split
    ·rename_i hr
     obtain⟨h1,h2,h3⟩:=hr;rw[nK h h1 h3];obtain⟨g1,g2⟩:=h.remN o.to;exact g1.ren ((dB h.srt h3).2 h1) g2 h2
    ·exact h
   ·split
    ·exact(h.remN o.name).1
    ·exact h
theorem iB {ns:List Nm}{ds:List Nd}(h:MayW ns ds)(s:List UInt8):Sz ns ds s=EP ns s∧(S7 ns ds s↔AO Nm.name ns s):=by
 have hm:=Kn.2 h;have hi:S7 ns ds s↔AO Nm.name ns s:=⟨λhh=>hh.2,λhh=>⟨hm,hh⟩⟩;refine⟨?_,hi⟩;unfold Sz
 by_cases c:S7 ns ds s
 ·rw[if_pos c]
 ·rw[if_neg c,dS (λhh=>c (hi.2 hh))]
theorem Vt {ns:List Nm}{ds:List Nd}(h:MayW ns ds){d:Nd}(hd:d∈ds):GN ns ds d.ino=d∧S6 ns ds d.ino:=by
 have hg:S6 ns ds d.ino:=⟨Kn.2 h,d,hd,rfl⟩;refine⟨?_,hg⟩;unfold GN;rw[if_pos hg,Ve koI h.sd hd];rfl
theorem jQ {ns:List Nm}{ds:List Nd}(h:MayW ns ds):Xu ns ds=JX ds:=by unfold Xu;rw[if_pos (Kn.2 h)]
end
section
def old (N:Nat)(X:AH):AH:=List.replicate N none++X.drop N
theorem YP {N:Nat}{X:AH}{o:Nat}{x:AObj}(h:(old N X)[o]?=some (some x)):N≤o∧X[o]?=some (some x):=by
 unfold old at h;rcases vF o N with hlt | hge
 ·rw[uY (by simpa using hlt),List.getElem?_replicate,if_pos hlt]at h
  cases h
 ·rw[vC (by simpa using hge),List.length_replicate,vJ]at h
  rw[show N+(o - N)=o by omega]at h;exact⟨hge,h⟩
def Cfg.less (G:Cfg)(L:Nat→Prop):Cfg:={G with L:=L}
theorem HR.less {G:Cfg}{H:AH}(hr:HR G H)(L:Nat→Prop)(hL:∀b,L b→G.L b)(hl:∀(o:Nat) (x:AObj),H[o]?=some (some x)→L (G.μ o).1):HR (G.less L) H:=by
 have ht:Tr G (G.less L):=⟨vB _,λ_ _=>rfl,λad vs hh=>hh.imp id λh=>⟨λhh=>h.1 (hh.imp (hL _) id),h.2⟩⟩;exact⟨hr.n,λo x ho=>OR.tr ht (hr.lt_n ho) rfl (hr.obj o x ho),hr.inj,hl,λb hb=>hr.lt b (hb.imp (hL _) id),λb hb=>hr.dis b (hL b hb)⟩
theorem HR.fewer {G:Cfg}{H H2:AH}(hr:HR G H)(hlen:H2.length=H.length)(h:∀(o:Nat) (x:AObj),H2[o]?=some (some x)→H[o]?=some (some x)):HR G H2:=
 ⟨by rw[hlen];exact hr.n,λo x ho=>hr.obj o x (h o x ho),λo o' x x' ho ho'=>hr.inj o o' x x' (h o x ho) (h o' x' ho'),λo x ho=>hr.live o x (h o x ho),hr.lt,hr.dis⟩
section
variable {P : Program}
theorem ACalls.fzNew {f:FuncId}{args:List AV}{H:AH}{R:AV→AH→Prop}{R':AV→Prop}(h:ACalls P f args H R)
  (hR:∀r H1,R r H1→H.length≤H1.length∧(∀o,o<H.length→H1[o]?=H[o]?)∧∃n r',Jn (old H.length H1) n r=some r'∧R' r'):ACalls P f args H λr' H'=>R' r'∧H'=H:=by
 intro G vs hH hv;refine(h G vs hH hv).mono ?_;rintro e w' ⟨r,H1,G',v,rfl,rfl,hE,hx,hX,hq⟩;obtain⟨hlen,hpre,n,r',hf,hr'⟩:=hR r H1 hq
 have e1:H1=H++H1.drop H.length:=by
  apply wH;intro o;rcases vF o H.length with hlt | hge
  ·rw[uY hlt,hpre o hlt]
  ·rw[vC hge,vJ,show H.length+(o - H.length)=o by omega]
 have hX1:HR G' (H++H1.drop H.length):=by rw[← e1];exact hX
 have hF:HR {G' with n:=H.length} H:=hX1.forget λo x ho=>by
  have:=(hH.obj o x ho).bel
  rwa[hH.n]at this
 let L2:Nat→Prop:=λb=>G.L b∧G'.L b∧∀(o:Nat) (x:AObj),H.length≤o→H1[o]?=some (some x)→b≠(G'.μ o).1
 have hF2:=hF.less L2 (λb hb=>hb.2.1) (λo x ho=>by
  have hlt:=(BE.1 ho).1;have ho1:H1[o]?=some (some x):=by rw[hpre o hlt];exact ho
  have hμ:G'.μ o=G.μ o:=hE.μ o (by rw[hH.n];exact hlt);refine⟨?_,hX.live o x ho1,λo' x' hge ho' he=>?_⟩
  ·show G.L (G'.μ o).1
   rw[hμ];exact hH.live o x ho
  ·have:=hX.inj o o' x x' ho1 ho' he
   omega)
 have hE2:Evo G (Cfg.less {G' with n:=H.length} L2):=⟨hE.os,hE.tape,hE.output,hE.size,λk hk hL=>⟨(hE.keep k hk hL).1,λhh=>hL hh.1⟩,by show G.n≤H.length;rw[hH.n];exact vB _,λo ho=>hE.μ o ho,hE.K⟩;have hK:HR G' (old H.length H1):=hX.fewer (by unfold old;simp;omega) λo x ho=>(YP ho).2
 refine⟨r',H,Cfg.less {G' with n:=H.length} L2,v,rfl,rfl,hE2,?_,hF2,hr',rfl⟩;refine Vq (G':=G') (G'':=Cfg.less {G' with n:=H.length} L2) rfl (λb hn hh=>hn (hh.imp (λh=>h.2.1) id)) hK ?_ n r v r' hx hf;intro o x ho hh;obtain⟨h1,h2⟩:=YP ho;rcases hh with hh | hh
 ·exact hh.2.2 o x h1 h2 rfl
 ·exact hX.dis _ (hX.live o x h2) hh
end
end
section
abbrev Yr:=List Nm×List Nd
structure StS where
 cap:Int
 now:Yr
 kept:Yr
 pend:List OpM
 made:Int
 armed:Int
 off:Bool
def OV (room:Int):StS:=⟨min (max room 0) 4096,([],[]),([],[]),[],0,-1,false⟩
def wt (o:OpM):Nat:=1+o.b.length+if o.kind=4 then 4098 else 0
def Rk (l:List OpM):Nat:=(l.map wt).sum
theorem lX {o:OpM}{d:Nd}{c:FM}(h:Nx o d=some c):c.2.length≤d.l.length+wt o:=by
 have h4:=hZ (o:=o) (d:=d);rw[h]at h4;simp only[cL,xV]at h4;unfold wt
 by_cases c4:o.kind=4
 ·rw[if_pos c4];omega
 ·rw[if_neg c4]
  unfold Nx at h;split at h
  ·unfold F4 at h
   split at h
   ·injection h with h
    subst h
    split
    ·simp
    ·have:=Tw (bs:=o.b) (l:=d.l) (p:=o.pos)
     simp only;omega
   ·cases h
  ·split at h
   ·unfold Di at h
    split at h
    ·injection h with h
     subst h;simp only[Ix,Nr,wB];exact vO (xN _ _) (by omega)
    ·cases h
   ·split at h
    ·unfold Hi at h
     split at h
     ·injection h with h
      subst h;simp only[Ji,Nr,wB];exact vO (xN _ _) (by omega)
     ·cases h
    ·cases h
def Few1 (M:Nat)(i:Yr):Prop:=MayW i.1 i.2∧∀d∈i.2,d.l.length≤M
theorem Xi {ns:List Nm}{ds:List Nd}{s:List UInt8}{d:Nd}(h:d∈Tf ns ds s):d∈ds:=by
 unfold Tf at h;split at h
 ·exact delK_sub.subset h
 ·exact h
theorem Few1.step {M:Nat}{i:Yr}(h:Few1 M i)(o:OpM):Few1 (M+wt o) (B9 i.1 i.2 o):=by
 refine⟨bW h.1 o,λd hd=>?_⟩;have old:d∈i.2→d.l.length≤M+wt o:=λhd=>vO (h.2 d hd) (by omega)
 unfold B9 at hd;rw[if_pos (Kn.2 h.1)]at hd;split at hd
 ·split at hd
  ·rcases FY.1 hd with rfl | hd
   ·simp
   ·exact old hd
  ·exact old hd
 ·split at hd
  ·rcases WT h.1.sd hd with hd | ⟨-,e,he,-,hc⟩
   ·exact old hd
   ·have:=lX hc
    have:=h.2 e he
    simp only at*;omega
  ·split at hd
   ·split at hd
    ·exact old (Xi hd)
    ·exact old hd
   ·split at hd
    ·exact old (Xi hd)
    ·exact old hd
theorem Few1.mono {M M':Nat}{i:Yr}(h:Few1 M i)(hm:M≤M'):Few1 M' i:=⟨h.1,λd hd=>vO (h.2 d hd) hm⟩
theorem MayW.len2 {ns:List Nm}{ds:List Nd}(h:MayW ns ds):ds.length≤16:=by
 have:=(Kn.2 h).2.1
 have:=h.len
 omega
theorem Few1.sm {M:Nat}{i:Yr}(h:Few1 M i)(hm:M≤1000000):Sm i.1 i.2:=
 ⟨by have:=h.1.len;omega,by have:=h.1.len2;omega,λx hx=>by have:=(h.1.nm x hx).1.2.1;omega,λd hd=>vO (h.2 d hd) hm⟩
def aU (o:OpM):Prop:=o.b.length≤5000∧o.name.length≤20∧o.to.length≤20
structure SW (N:Nat)(s:StS):Prop where
 now:Few1 N s.now
 kept:∃a,Few1 a s.kept∧a+Rk s.pend≤N
 ob:∀o∈s.pend,aU o
 made:0≤s.made∧s.made≤N
 cap:0≤s.cap∧s.cap≤4096
 armed: -1≤s.armed∧s.armed≤9223372036854775807
theorem Zi {l:List OpM}:l.length≤Rk l:=by
 unfold Rk
 induction l with
 | nil=>simp
 | cons o l ih=>simp only[xS,List.sum_cons,vR];unfold wt at*;omega
theorem T5 {l:List OpM}{o:OpM}:Rk (l++[o])=Rk l+wt o:=by simp[Rk]
theorem SW.plen {N:Nat}{s:StS}(h:SW N s):s.pend.length≤N:=by
 obtain⟨a,-,h2⟩:=h.kept
 have:=Zi (l:=s.pend)
 omega
theorem SW.mono {N N':Nat}{s:StS}(h:SW N s)(hn:N≤N'):SW N' s:=
 ⟨h.now.mono hn,by obtain⟨a,h1,h2⟩:=h.kept;exact⟨a,h1,by omega⟩,h.ob,by have:=h.made;omega,h.cap,h.armed⟩
theorem WS:MayW [] []:=⟨by simp,by simp,by simp[BX],by simp,by simp[BX],by simp,λi=>by simp[AO]⟩
theorem V1 (room:Int):SW 0 (OV room):=
 ⟨⟨WS,by simp[OV]⟩,⟨0,⟨WS,by simp[OV]⟩,by simp[OV,Rk]⟩,by simp[OV],by simp[OV],by simp[OV];omega,by simp[OV]⟩
def AU (s:StS):Bool×StS:=
 if s.off=true∨s.armed=0 then(false,{s with off:=true})
 else if 0<s.armed then(true,{s with armed:=s.armed - 1})
 else(true,s)
def Lf (s:StS)(o:OpM):Int×StS:=
 if(AU s).1=true then(0,{(AU s).2 with now:=B9 s.now.1 s.now.2 o,pend:=s.pend++[o]})else(8,(AU s).2)
theorem Vp {N:Nat}{s:StS}(h:SW N s):SW N (AU s).2:=by
 unfold AU
 split
 ·exact⟨h.now,h.kept,h.ob,h.made,h.cap,h.armed⟩
 ·split
  ·exact⟨h.now,h.kept,h.ob,h.made,h.cap,by have:=h.armed;simp only;omega⟩
  ·exact h
theorem Fv (s:StS):(AU s).2.now=s.now∧(AU s).2.kept=s.kept∧(AU s).2.pend=s.pend∧(AU s).2.made=s.made∧(AU s).2.cap=s.cap:=by
 unfold AU
 split
 ·exact⟨rfl,rfl,rfl,rfl,rfl⟩
 ·split<;>exact⟨rfl,rfl,rfl,rfl,rfl⟩
theorem YE {N:Nat}{s:StS}{o:OpM}(h:SW N s)(ho:aU o):SW (N+wt o) (Lf s o).2:=by
 have hd:=Vp h;obtain⟨e1,e2,e3,e4,e5⟩:=Fv s;unfold Lf
 split
 ·obtain⟨a,h1,h2⟩:=h.kept
  refine⟨h.now.step o,⟨a,by simp only[e2];exact h1,by simp only[T5];omega⟩,?_,by simp only[e4];have:=h.made;omega,by simp only[e5];exact h.cap,hd.armed⟩;intro x hx;simp only[tG]at hx;rcases hx with hx | rfl
  ·exact h.ob x hx
  ·exact ho
 ·exact hd.mono (by omega)
structure StC (s:StS)(os:Nat)(a b c d p:AV)(pv:List OpV)(H:AH):Prop where
 obj:H[os]?=some (some (.cells [I s.cap,a,b,c,d,p,I s.made,I s.armed,B s.off]))
 now:ImV s.now.1 s.now.2 (.agg [a,b])
 kept:ImV s.kept.1 s.kept.2 (.agg [c,d])
 pm:pv.map OpV.o=s.pend
 ps:Aa H 8 p=some (pv.flatMap KX,pv.length)
 po:AM p=true
 pi:os∉AR p
 pc:Ci p pv.length
def StAt (s:StS)(os:Nat)(p:AV)(H:AH):Prop:=∃a b c d pv,StC s os a b c d p pv H
structure StF (os:Nat)(p p':AV)(H H':AH):Prop where
 len:H.length≤H'.length
 same:∀j,j<H.length→j≠os→j∉AR p→H'[j]?=H[j]?
 ids:∀j∈AR p',j∈AR p∨H.length≤j
theorem StF.refl (os:Nat)(p:AV)(H:AH):StF os p p H H:=⟨vB _,λ_ _ _ _=>rfl,λ_ h=>.inl h⟩
theorem StF.trans {os:Nat}{p p' p'':AV}{A B C:AH}(h:StF os p p' A B)(k:StF os p' p'' B C):StF os p p'' A C:=
  ⟨vO h.len k.len,λj hj hne hp=>by
    rw[k.same j (vY hj h.len) hne (λhp'=>(h.ids j hp').elim hp (λq=>by omega)),h.same j hj hne hp],
   λj hj=>(k.ids j hj).elim (h.ids j) (λq=>.inr (vO h.len q))⟩
theorem StF.of_grew {os:Nat}{p:AV}{H H':AH}(g:Grew H H'):StF os p p H H':=⟨g.1,λj hj _ _=>g.2 j hj,λ_ h=>.inl h⟩
theorem StF.grew {os:Nat}{p p':AV}{H H' H'':AH}(h:StF os p p' H H')(g:Grew H' H''):StF os p p' H H'':=h.trans (.of_grew g)
theorem StC.lt {s:StS}{os:Nat}{a b c d p:AV}{pv:List OpV}{H:AH}(h:StC s os a b c d p pv H):os<H.length:=(BE.1 h.obj).1
theorem StC.grew {s:StS}{os:Nat}{a b c d p:AV}{pv:List OpV}{H H':AH}(h:StC s os a b c d p pv H)(g:Grew H H'):StC s os a b c d p pv H':=
 ⟨g.cells h.obj,h.now,h.kept,h.pm,g.slice h.ps,h.po,h.pi,h.pc⟩
theorem StAt.grew {s:StS}{os:Nat}{p:AV}{H H':AH}(h:StAt s os p H)(g:Grew H H'):StAt s os p H':=by
 obtain⟨a,b,c,d,pv,h⟩:=h;exact⟨a,b,c,d,pv,h.grew g⟩
theorem StC.set {s s':StS}{os:Nat}{a b c d a' b' c' d' p:AV}{pv:List OpV}{H:AH}(h:StC s os a b c d p pv H)(hn:ImV s'.now.1 s'.now.2 (.agg [a',b']))(hk:ImV s'.kept.1 s'.kept.2 (.agg [c',d']))(hp:s'.pend=s.pend):
  StC s' os a' b' c' d' p pv (H.set os (some (.cells [I s'.cap,a',b',c',d',p,I s'.made,I s'.armed,B s'.off])))∧StF os p p H (H.set os (some (.cells [I s'.cap,a',b',c',d',p,I s'.made,I s'.armed,B s'.off]))):=by
 refine⟨⟨Jo h.lt,hn,hk,by rw[hp];exact h.pm,Ae h.ps λi q=>C3 (λe=>h.pi (by rw[e];exact q)),h.po,h.pi,h.pc⟩,by simp,λj _ hne _=>C3 (wD hne),λ_ q=>.inl q⟩
theorem ImV.agg2 {ns:List Nm}{ds:List Nd}{v:AV}(h:ImV ns ds v):∃a b,v=.agg [a,b]∧oneA a=true∧oneA b=true:=by
 obtain⟨a,b,dv,rfl,h1,h2,-⟩:=h;exact⟨a,b,rfl,SV.oneA h1,SV.oneA h2⟩
theorem iC {H:AH}{os k:Nat}{cs:List AV}{x:AV}(h:H[os]?=some (some (.cells cs)))(hk:k<cs.length)(hx:oneA x=true):AS 1 H (.ptr os k) x=some (H.set os (some (.cells (cs.set k x)))):=by
 rw[A7 (n:=1) (xs:=[x]) (cs:=cs) (AL hx) h rfl hk];rfl
theorem nJ (x y:AV):Al true 2 [x,y] 0=some (.agg [x,y]):=rfl
theorem iS (H:AH):A5 H (.agg [(I 0),Ac])=some (.ptr H.length 0,H++[some (.cells [I 0,Ac])]):=by simp
theorem Ym (H:AH)(s:Int){R:AV}(hR:oneA R=true):AS 2 (H++[some (.cells [I 0,Ac])]) (.ptr H.length 0) (.agg [I s,R])=some (H++[some (.cells [I s,R])]):=by
 rw[A7 (n:=2) (xs:=[I s,R]) (cs:=[I 0,Ac]) (by simp[hR]) (by simp) rfl (by simp)];simp[AK]
theorem CT {H:AH}{x:AObj}:(H++[some x])[H.length]?=some (some x):=by simp
theorem jV (room:Int)(H:AH)(hr:room≤9223372036854775807):∃r H',(∃p,r=.ptr H.length 0∧H'.length=H.length+1∧StAt (OV room) H.length p H'∧Grew H H'∧AR p=[])∧BCall prog 10 [I room] H r H':=VF (by
 unfold UJ;have e1:amm XM [I room,(I 0)]=some (I (max room 0)):=by rw[NX,dE,Int.max_comm]
 have e2:amm VO [I (max room 0),(I 4096)]=some (I (min (max room 0) 4096)):=by rw[NX,dD,Int.min_comm]
 have e3:FC [(I 0),Ac,Ac,Ac,Ac,Ac,(I 0),(I 0),(B false)] [(0,1,I (min (max room 0) 4096)),(7,1,(I (-1)))]=some (.agg [I (min (max room 0) 4096),Ac,Ac,Ac,Ac,Ac,I 0,I (-1),B false]):=rfl;have e4:A5 H (.agg [I (min (max room 0) 4096),Ac,Ac,Ac,Ac,Ac,I 0,I (-1),B false])=some (.ptr H.length 0,H++[some (.cells [I (min (max room 0) 4096),Ac,Ac,Ac,Ac,Ac,I 0,I (-1),B false])]):=by simp
 rw[e1,Ab,e2,Ab,e3,Ab,e4,Az];have hI:ImV [] [] (.agg [Ac,Ac]):=⟨Ac,Ac,[],rfl,SV.nil,SV.nil,rfl⟩;exact⟨Ac,rfl,by simp,⟨Ac,Ac,Ac,Ac,[],⟨CT,hI,hI,rfl,rfl,rfl,by simp[AR],by simp[Ci]⟩⟩,Grew.app _ _,rfl⟩)
abbrev sX:=And.intro @AF @beq_self_eq_true.{0}
abbrev tE:=And.intro @DG.{0} @EY.{0}
abbrev tF:=And.intro @Am (And.intro @Ab @Nat.zero_add)
abbrev tH:=And.intro @Aq @DS
abbrev tI:=And.intro @Ah @tF
abbrev tM:=And.intro @tE @tI
abbrev tY:=And.intro @Ao @tM
abbrev uC:=And.intro @A4 @At
abbrev uT:=And.intro @Ao @tF
theorem cR {s:StS}{os:Nat}{p:AV}{H:AH}(h:StAt s os p H)(hb: -1≤s.armed∧s.armed≤9223372036854775807):∃r H',(r=B (AU s).1∧StAt (AU s).2 os p H'∧StF os p p H H')∧BCall prog 80 [.ptr os 0] H r H':=MF (by
 obtain⟨a,b,c,d,pv,h⟩:=h;unfold JU;simp only[tY,Aj h.obj,Ba]
 have stop:s.off=true∨s.armed=0→bS (AS 1 H (.ptr os 8) (B true)) λH17=>B false=B (AU s).1∧StAt (AU s).2 os p H17∧StF os p p H H17:=by
  intro hc;have e:AU s=(false,{s with off:=true}):=by unfold AU;rw[if_pos hc]
  rw[e];obtain⟨h2,h3⟩:=h.set (s':={s with off:=true}) h.now h.kept rfl;have e2:AS 1 H (.ptr os 8) (B true)=some (H.set os (some (.cells [I s.cap,a,b,c,d,p,I s.made,I s.armed,B true]))):=iC h.obj (by simp) rfl;simp only[e2,AB];exact⟨by trivial,⟨a,b,c,d,pv,h2⟩,h3⟩
 cases ho:s.off with
 | true=>
  simp only[show((true==false)=false)from rfl,C2,uT,A4,if_true,Ag,Aq];exact stop (.inl ho)
 | false=>
  simp only[sX,tY,Aj h.obj,FN,uC,Ag]
  by_cases h0:s.armed=0
  ·simp only[h0,tH]
   exact stop (.inr h0)
  ·simp only[h0,tC,Mi,Ag]
   have hn:¬(s.off=true∨s.armed=0):=by rintro(q | q);rw[ho]at q;cases q;exact h0 q
   by_cases hp:0<s.armed
   ·have e:AU s=(true,{s with armed:=s.armed - 1}):=by unfold AU;rw[if_neg hn,if_pos hp]
    rw[e];obtain⟨h2,h3⟩:=h.set (s':={s with armed:=s.armed - 1}) h.now h.kept rfl;have e1:Ay .sub (I s.armed) (I 1)=some (I (s.armed - 1)):=Cv (by omega) (by omega);have e2:AS 1 H (.ptr os 7) (I (s.armed - 1))=some (H.set os (some (.cells [I s.cap,a,b,c,d,p,I s.made,I (s.armed - 1),B s.off]))):=iC h.obj (by simp) rfl;simp only[hp,tH,e1,Ab,e2,AB];rw[Gj];unfold Ey;exact⟨rfl,⟨a,b,c,d,pv,h2⟩,h3⟩
   ·have e:AU s=(true,s):=by unfold AU;rw[if_neg hn,if_neg hp]
    rw[e];simp only[hp,tC];rw[Gj];unfold Ey;exact⟨rfl,⟨a,b,c,d,pv,h⟩,.refl _ _ _⟩)
theorem kL (c a b d e f g h i:AV):Al true 2 [c,a,b,d,e,f,g,h,i] 1=some (.agg [a,b])∧Al true 2 [c,a,b,d,e,f,g,h,i] 3=some (.agg [d,e]):=⟨rfl,rfl⟩
theorem st9 {H:AH}{os:Nat}{x0 x1 x2 x3 x4 x5 x6 x7 x8 a b:AV}(h:H[os]?=some (some (.cells [x0,x1,x2,x3,x4,x5,x6,x7,x8])))(ha:oneA a=true)(hb:oneA b=true):
  AS 2 H (.ptr os 1) (.agg [a,b])=some (H.set os (some (.cells [x0,a,b,x3,x4,x5,x6,x7,x8])))∧AS 2 H (.ptr os 3) (.agg [a,b])=some (H.set os (some (.cells [x0,x1,x2,a,b,x5,x6,x7,x8]))):=by
 constructor
 ·rw[A7 (n:=2) (off:=1) (xs:=[a,b]) (by simp[ha,hb]) h rfl (by simp)];rfl
 ·rw[A7 (n:=2) (off:=3) (xs:=[a,b]) (by simp[ha,hb]) h rfl (by simp)];rfl
theorem PM {s:StS}{os:Nat}{a b c d p:AV}{pv:List OpV}{H:AH}(h:StC s os a b c d p pv H):∀j∈AR p,j<H.length:=λj q=>Ax h.ps j q
abbrev tA:=And.intro @Aq @Bool.not_false
abbrev tB:=And.intro @Ai @Bool.not_true
abbrev tV:=And.intro @AB @Az
abbrev tW:=And.intro @Bl @sY
theorem mD {N:Nat}{s:StS}{os:Nat}{p bv:AV}{H:AH}{o:OpM}(h:StAt s os p H)(hw:SW N s)(hN:N≤900000)(hb:SV N2 1 o.b bv)(ho:aU o):
  ∃r H',(r=I (Lf s o).1∧∃p',StAt (Lf s o).2 os p' H'∧StF os p p' H H')∧BCall prog 48 [.ptr os 0,.agg (DD o bv)] H r H':=Pk (by
 have h0:=h;obtain⟨a0,b0,c0,d0,pv0,hc0⟩:=h;unfold Mc;have obv:=SV.oneA hb;have e1:A5 H (.agg (DD o bv))=some (.ptr H.length 0,H++[some (.cells (DD o bv))]):=by simp[DD,obv]
 have g:=Grew.app H [some (.cells (DD o bv))];obtain⟨r,H3,⟨rfl,h3,f3⟩,hc⟩:=cR (h0.grew g) hw.armed;rw[e1,Az];refine bC_of hc ?_;have sm:=hw.now.sm (by omega);obtain⟨q1,q2,q3,q4,q5⟩:=Fv s;simp only[tW];cases hd:(AU s).1 with
 | false=>
  have e:Lf s o=(8,(AU s).2):=by unfold Lf;rw[if_neg (by rw[hd];simp)]
  rw[e];simp only[tA];exact⟨by trivial,p,h3,(StF.of_grew g).trans f3⟩
 | true=>
  have e:Lf s o=(0,{(AU s).2 with now:=B9 s.now.1 s.now.2 o,pend:=s.pend++[o]}):=by unfold Lf;rw[if_pos hd]
  rw[e];have hos:os<H.length:=hc0.lt;have hid:=PM hc0;obtain⟨a,b,c,d,pv,h3⟩:=h3
  have c3:H3[H.length]?=some (some (.cells (DD o bv))):=by
   rw[f3.same H.length (by simp) (by omega) (λq=>by have:=hid _ q;omega)];exact CT
  obtain⟨R,hR,hp⟩:=Yq (o:=o) (bv:=bv) h3.now (by rw[q1];exact sm) hb (by have:=ho.1;omega) (by have:=ho.2.1;omega) (by have:=ho.2.2;omega);rw[q1]at hR;obtain⟨a',b',rfl,oa,ob⟩:=hR.agg2;have rd8:Al true 8 (DD o bv) 0=some (.agg (DD o bv)):=rfl;simp only[tB,uT,Aj h3.obj,(kL _ _ _ _ _ _ _ _ _).1,Aj c3,rd8];refine bP_of hp ?_;obtain⟨h4,f4⟩:=h3.set (s':={(AU s).2 with now:=B9 s.now.1 s.now.2 o}) hR h3.kept rfl;simp only[uT,(st9 h3.obj oa ob).1,AB];have c4:(H3.set os (some (AObj.cells [I (AU s).2.cap,a',b',c,d,p,I (AU s).2.made,I (AU s).2.armed,B (AU s).2.off])))[H.length]?=some (some (.cells (DD o bv))):=by rw[C3 (by omega)];exact c3
  simp only at h4 f4;generalize hH4:H3.set os (some (AObj.cells [I (AU s).2.cap,a',b',c,d,p,I (AU s).2.made,I (AU s).2.armed,B (AU s).2.off]))=H4 at*
  have e6:QL 8 1 (AZ [(I 0),(I 0),(I 0),(I 0),(B false),(.lit (.string ⟨#[]⟩)),(.lit (.string ⟨#[]⟩)),Ac] 1) [(0,8,.agg (DD o bv))]=some (.imm (KX ⟨o,bv,hb⟩) 1 8):=by
   simp[QL,AZ,KX,DD,RU,obv,AK]
  have x1:Bb H4 8 (.imm (KX ⟨o,bv,hb⟩) 1 8)=some (KX ⟨o,bv,hb⟩,1):=AI (by simp[Aa,KX,DD]);have hpl:pv.length=s.pend.length:=by rw[← q3,← h3.pm,wB]
  have hplN:=hw.plen;obtain⟨r,H5,a1,a2,a3,a4,a5,a6⟩:=Ek (bytes:=96) h4.ps h4.po x1 (by omega);have a7:=NP h4.ps h4.po x1 h4.pc a1;have c5:H5[os]?=some (some (.cells [I (AU s).2.cap,a',b',c,d,p,I (AU s).2.made,I (AU s).2.armed,B (AU s).2.off])):=by rw[a5 os h4.lt h4.pi];exact h4.obj
  have hor:os∉AR r:=λq=>(a6 os q).elim h4.pi (λq=>by have:=h4.lt;omega)
  have e7:AS 1 H5 (.ptr os 5) r=some (H5.set os (some (.cells [I (AU s).2.cap,a',b',c,d,r,I (AU s).2.made,I (AU s).2.armed,B (AU s).2.off]))):=iC c5 (by simp) (AJ a2);simp only[Aj h4.obj,tY,Aj c4,rd8,e6,a1,tV,e7];have hl5:os<H5.length:=(BE.1 c5).1;refine⟨by trivial,r,⟨a',b',c,d,pv++[⟨o,bv,hb⟩],⟨Jo hl5,hR,h3.kept,?_,?_,a2,hor,by simpa using a7⟩⟩,?_⟩
  ·rw[wT,h3.pm,q3];rfl
  ·have:=Ae a3 (H':=H5.set os (some (.cells [I (AU s).2.cap,a',b',c,d,r,I (AU s).2.made,I (AU s).2.armed,B (AU s).2.off]))) λi q=>C3 (λe=>hor (by rw[e];exact q))
   simpa using this
  ·have f5:StF os p r H4 (H5.set os (some (.cells [I (AU s).2.cap,a',b',c,d,r,I (AU s).2.made,I (AU s).2.armed,B (AU s).2.off]))):=⟨by simpa using a4,λj hj hne hjp=>by rw[C3 (wD hne),a5 j hj hjp],a6⟩
   exact((StF.of_grew g).trans f3).trans (f4.trans f5))
theorem aT {N:Nat}{s:StS}{os:Nat}{p:AV}{H:AH}(h:StAt s os p H)(hw:SW N s)(hN:N≤900000):∃R,ImV s.now.1 s.now.2 R∧∃r H',(r=R∧Grew H H')∧BCall prog 14 [.ptr os 0] H r H':=by
 obtain⟨a,b,c,d,pv,h⟩:=h;obtain⟨R,hR,hp⟩:=aO h.now (hw.now.sm (by omega));refine⟨R,hR,Iv ?_⟩;unfold Hl;obtain⟨a',b',rfl,oa,ob⟩:=hR.agg2;have e1:A5 H (.agg [Ac,Ac])=some (.ptr H.length 0,H++[some (.cells [Ac,Ac])]):=by simp
 have g:=Grew.app H [some (.cells [Ac,Ac])]
 have e2:AS 2 (H++[some (.cells [Ac,Ac])]) (.ptr H.length 0) (.agg [a',b'])=some (H++[some (.cells [a',b'])]):=by
  rw[A7 (n:=2) (xs:=[a',b']) (cs:=[Ac,Ac]) (by simp[oa,ob]) (by simp) rfl (by simp)];simp[AK]
 simp only[e1,Az,uT,Aj (g.cells h.obj),(kL _ _ _ _ _ _ _ _ _).1];refine A1 hp ?_;simp only[e2,AB,Aj CT,nJ,Ab];exact⟨by trivial,Grew.app _ _⟩
def O4 (s:StS):Int:=max 0 (s.cap - JX s.now.2)
theorem fM {M:Nat}{i:Yr}(h:Few1 M i):JX i.2≤16*M:=by
 have h1:=VH h.2;have h2:=h.1.len2;exact vO h1 (vH _ h2)
theorem kR {N:Nat}{s:StS}{os:Nat}{p:AV}{H:AH}(h:StAt s os p H)(hw:SW N s)(hN:N≤900000):BCall prog 21 [.ptr os 0] H (I (O4 s)) H:=by
 obtain⟨r,H',⟨rfl,rfl⟩,hc⟩:=MB (a0:=.ptr os 0) (H:=H) (K:=λr H'=>r=I (O4 s)∧H'=H) (by
  obtain⟨a,b,c,d,pv,h⟩:=h;unfold JP;have hu:=kZ h.now (hw.now.sm (by omega));rw[jQ hw.now.1]at hu;have hs:=fM hw.now;have hcap:=hw.cap;have e1:Ay .sub (I s.cap) (I (JX s.now.2:Int))=some (I (s.cap - JX s.now.2)):=Cv (by omega) (by omega);have e2:amm XM [(I 0),I (s.cap - JX s.now.2)]=some (I (O4 s)):=by rw[NX,dE,Int.max_comm];rfl
  simp only[Ao,tI,Aj h.obj,DG,(kL _ _ _ _ _ _ _ _ _).1];refine bP_of hu ?_;simp only[e1,Ab,e2];exact⟨by trivial,by trivial⟩)
 exact hc
def AA (s:StS)(ino:Int):FM×Int:=
 if s.off=true then((0,[]),8)else if S6 s.now.1 s.now.2 ino then(((GN s.now.1 s.now.2 ino).size,(GN s.now.1 s.now.2 ino).l),0)else((0,[]),3)
abbrev tX:=And.intro @AE @tE
theorem P7 {N:Nat}{s:StS}{os:Nat}{p:AV}{H:AH}(h:StAt s os p H)(hw:SW N s)(hN:N≤900000)(ino:Int):
  ∃R,SV Aw 9 (AA s ino).1.2 R∧∃r H',(r=.tup [.agg [I (AA s ino).1.1,R],I (AA s ino).2]∧Grew H H')∧BCall prog 49 [.ptr os 0,I ino] H r H':=by
 obtain⟨a,b,c,d,pv,h⟩:=h;have e0:FC [(I 0),Ac] []=some (.agg [I 0,Ac]):=rfl;have g:=Grew.app H [some (.cells [I 0,Ac])];cases ho:s.off with
 | true=>
  have e:AA s ino=((0,[]),8):=by unfold AA;rw[if_pos ho]
  rw[e];refine⟨Ac,SV.nil,Ej ?_⟩;unfold DH;simp only[iS,tV,tY,Aj (g.cells h.obj),ho,Ag,Aq,e0,Ym H 0 (R:=Ac) rfl,Aj CT,nJ];exact⟨by trivial,Grew.app _ _⟩
 | false=>
  have sm:=hw.now.sm (by omega);obtain⟨R,hR,hp⟩:=jU h.now sm ino;have oR:=SV.oneA hR
  by_cases hg:S6 s.now.1 s.now.2 ino
  ·have e:AA s ino=(((GN s.now.1 s.now.2 ino).size,(GN s.now.1 s.now.2 ino).l),0):=by unfold AA;rw[if_neg (by rw[ho];simp),if_pos hg]
   rw[e];refine⟨R,hR,Ej ?_⟩;unfold DH;simp only[iS,Az,tY,Aj (g.cells h.obj),ho,Ag,Ai,(kL _ _ _ _ _ _ _ _ _).1];refine A1 hp ?_;have g2:=Grew.app (H++[some (AObj.cells [I 0,Ac])]) [some (AObj.cells [I (GN s.now.1 s.now.2 ino).size,R])]
   have e5:AS 2 (H++[some (AObj.cells [I 0,Ac])]++[some (AObj.cells [I (GN s.now.1 s.now.2 ino).size,R])]) (.ptr H.length 0) (.agg [I (GN s.now.1 s.now.2 ino).size,R])=some (H++[some (AObj.cells [I (GN s.now.1 s.now.2 ino).size,R])]++[some (AObj.cells [I (GN s.now.1 s.now.2 ino).size,R])]):=by
    rw[A7 (n:=2) (xs:=[I (GN s.now.1 s.now.2 ino).size,R]) (cs:=[I 0,Ac]) (by simp[oR]) (g2.cells CT) rfl (by simp)];simp[AK]
   have g3:=Grew.app (H++[some (AObj.cells [I (GN s.now.1 s.now.2 ino).size,R])]) [some (AObj.cells [I (GN s.now.1 s.now.2 ino).size,R])];simp only[tX,tW,iS,tV,Ym _ _ oR,hg,DS,tB,Aj CT,nJ,e5,Aj (g3.cells CT)];exact⟨by trivial,(Grew.app H _).trans g3⟩
  ·have e:AA s ino=((0,[]),3):=by unfold AA;rw[if_neg (by rw[ho];simp),if_neg hg]
   rw[e];refine⟨Ac,SV.nil,Ej ?_⟩;unfold DH;simp only[iS,Az,tY,Aj (g.cells h.obj),ho,Ag,Ai,(kL _ _ _ _ _ _ _ _ _).1];refine A1 hp ?_;have g2:=Grew.app (H++[some (AObj.cells [I 0,Ac])]) [some (AObj.cells [I (GN s.now.1 s.now.2 ino).size,R])]
   have e5:AS 2 (H++[some (AObj.cells [I 0,Ac])]++[some (AObj.cells [I (GN s.now.1 s.now.2 ino).size,R])]) (.ptr H.length 0) (.agg [I 0,Ac])=some (H++[some (AObj.cells [I 0,Ac])]++[some (AObj.cells [I (GN s.now.1 s.now.2 ino).size,R])]):=by
    rw[A7 (n:=2) (xs:=[I 0,Ac]) (cs:=[I 0,Ac]) rfl (g2.cells CT) rfl (by simp)];simp[AK]
   simp only[tX,tW,iS,tV,Ym _ _ oR,hg,DC,tA,e0,e5,Aj (g2.cells CT),nJ];exact⟨by trivial,g.trans g2⟩
def Gq (s:StS)(name:List UInt8):Int×Int:=
 if s.off=true then(0,8)else if ¬FX name then(0,5)else if AO Nm.name s.now.1 name then(EP s.now.1 name,0)else(0,3)
abbrev tD:=And.intro @DS @if_true.{1}
theorem mJ {N:Nat}{s:StS}{os:Nat}{p:AV}{H:AH}(h:StAt s os p H)(hw:SW N s)(hN:N≤900000){name:List UInt8}(hn:name.length≤9223372036854775807):
  BCall prog 47 [.ptr os 0,S (As name)] H (.tup [I (Gq s name).1,I (Gq s name).2]) H:=by
 obtain⟨r,H',⟨rfl,rfl⟩,hc⟩:=MG (a0:=.ptr os 0) (a1:=S (As name)) (H:=H) (K:=λr H'=>r=.tup [I (Gq s name).1,I (Gq s name).2]∧H'=H) (by
  obtain⟨a,b,c,d,pv,h⟩:=h;unfold JV;unfold Gq;simp only[tY,Aj h.obj,Ag];cases ho:s.off with
  | true=>simp only[if_true,Aq];exact⟨by trivial,by trivial⟩
  | false=>
   simp only[Ai,At];refine A1 (Mh hn) ?_
   by_cases hm:FX name
   ·simp only[hm,DS,tW,tB,not_true_eq_false,if_false]
    have hf:=kQ h.now (hw.now.sm (by omega)) name;obtain⟨w1,w2⟩:=iB hw.now.1 name;rw[w1,show decide (S7 s.now.1 s.now.2 name)=decide (AO Nm.name s.now.1 name)from decide_eq_decide.2 w2]at hf;simp only[uT,Aj h.obj,(kL _ _ _ _ _ _ _ _ _).1];refine A1 hf ?_
    by_cases hk:AO Nm.name s.now.1 name
    ·simp only[tX,tW,hk,tD,tB]
     exact⟨by trivial,by trivial⟩
    ·simp only[tX,tW,hk,DC,tA,if_false]
     exact⟨by trivial,by trivial⟩
   ·simp only[hm,DC,tW,tA,not_false_eq_true,if_true]
    exact⟨by trivial,by trivial⟩)
 exact hc
def Fc (name:List UInt8)(i:Int):OpM:=⟨1,i,0,0,false,name,[],[]⟩
def PV (ino size:Int):OpM:=⟨3,ino,0,size,false,[],[],[]⟩
theorem eC (ino size:Int):aU (PV ino size):=⟨by simp[PV],by simp[PV],by simp[PV]⟩
def AY (s:StS)(name:List UInt8)(make:Bool):(Int×Int)×StS:=
 if(Gq s name).2≠3∨make=false then(Gq s name,s)
 else if 16≤s.now.1.length then((0,4),s)
 else if(Lf s (Fc name (s.made+1))).1≠0 then((0,(Lf s (Fc name (s.made+1))).1),(Lf s (Fc name (s.made+1))).2)
 else((s.made+1,0),{(Lf s (Fc name (s.made+1))).2 with made:=s.made+1})
theorem YF {s:StS}{name:List UInt8}(h:(Gq s name).2=3):FX name∧¬AO Nm.name s.now.1 name∧s.off=false:=by
 unfold Gq at h;split at h
 ·simp at h
 ·split at h
  ·simp at h
  ·split at h
   ·simp at h
   ·rename_i h1 h2 h3
    exact⟨wC h2,h3,by simpa using h1⟩
theorem Rw {N:Nat}{s:StS}(h:SW N s)(name:List UInt8)(make:Bool):SW (N+1) (AY s name make).2:=by
 unfold AY
 split
 ·exact h.mono (by omega)
 ·rename_i hf
  have hn:FX name:=(YF (wC λq=>hf (.inl q))).1;have ho:aU (Fc name (s.made+1)):=⟨by simp[Fc],hn.2.1,by simp[Fc]⟩;have hd:=YE h ho;have hwt:wt (Fc name (s.made+1))=1:=rfl;rw[hwt]at hd
  split
  ·exact h.mono (by omega)
  ·split
   ·exact hd
   ·exact⟨hd.now,hd.kept,hd.ob,by simp only;have:=h.made;omega,hd.cap,hd.armed⟩
abbrev sV:=And.intro @ne_eq.{1} @not_false_eq_true
abbrev uI:=And.intro @Ab @Ba
abbrev uM:=And.intro @C7 @sY
abbrev uW:=And.intro @Aq @tD
theorem Xz {N:Nat}{s:StS}{os:Nat}{p:AV}{H:AH}(h:StAt s os p H)(hw:SW N s)(hN:N<900000){name:List UInt8}(hn:name.length≤9223372036854775807)(make:Bool):
  ∃r H',(r=.tup [I (AY s name make).1.1,I (AY s name make).1.2]∧∃p',StAt (AY s name make).2 os p' H'∧StF os p p' H H')∧BCall prog 18 [.ptr os 0,S (As name),B make] H r H':=MC (by
 unfold JQ;refine bC_of (mJ h hw (by omega) hn) ?_;have hmade:=hw.made;simp only[tX,uI,C7]
 by_cases h3:(Gq s name).2=3
 ·obtain⟨hm,hk,hoff⟩:=YF h3
  simp only[h3,sU,DC,sX,tW,uC];cases make with
  | false=>
   have e:AY s name false=(Gq s name,s):=by unfold AY;rw[if_pos (.inr rfl)]
   rw[e];simp only[tA];exact⟨by rw[h3],p,h,.refl _ _ _⟩
  | true=>
   have hn0:¬((Gq s name).2≠3∨true=false):=by rintro(q | q);exact q h3;cases q
   have h':=h;obtain⟨a,b,c,d,pv,hc⟩:=h;obtain⟨a',b',dv,eab,sa,sb,-⟩:=hc.now;injection eab with eab;injection eab with ea eb;subst ea;simp only[tB,tY,wW,Aj hc.obj,sa.len,Hz,Ag]
   by_cases h16:16≤s.now.1.length
   ·have h16I:(16:Int)≤(s.now.1.length:Int):=by omega
    have e:AY s name true=((0,4),s):=by unfold AY;rw[if_neg hn0,if_pos h16]
    rw[e];simp only[h16I,tH];exact⟨by trivial,p,h',.refl _ _ _⟩
   ·have h16I:¬(16:Int)≤(s.now.1.length:Int):=by omega
    have ho:aU (Fc name (s.made+1)):=⟨by simp[Fc],hm.2.1,by simp[Fc]⟩;have e1:Ay .add (I s.made) (I 1)=some (I (s.made+1)):=A0 (by omega) (by omega);have e2:FC [(I 0),(I 0),(I 0),(I 0),(B false),(.lit (.string ⟨#[]⟩)),(.lit (.string ⟨#[]⟩)),Ac] [(0,1,(I 1)),(5,1,S (As name)),(1,1,I (s.made+1))]=some (.agg (DD (Fc name (s.made+1)) Ac)):=rfl;simp only[h16I,tC,tY,Aj hc.obj,e1,e2];obtain⟨r,H2,⟨rfl,p2,h2,f2⟩,hcall⟩:=mD (bv:=Ac) h' hw (by omega) SV.nil ho;refine bC_of hcall ?_;simp only[uM]
    by_cases hd:(Lf s (Fc name (s.made+1))).1=0
    ·have e:AY s name true=((s.made+1,0),{(Lf s (Fc name (s.made+1))).2 with made:=s.made+1}):=by unfold AY;rw[if_neg hn0,if_neg h16,if_neg (by rw[hd];simp)]
     rw[e]
     have emade:(Lf s (Fc name (s.made+1))).2.made=s.made:=by
      obtain⟨-,-,-,q4,-⟩:=Fv s;unfold Lf;split<;>exact q4
     obtain⟨a2,b2,c2,d2,pv2,hc2⟩:=h2;obtain⟨h3',f3⟩:=hc2.set (s':={(Lf s (Fc name (s.made+1))).2 with made:=s.made+1}) hc2.now hc2.kept rfl;have e3:AS 1 H2 (.ptr os 6) (I (s.made+1))=some (H2.set os (some (.cells [I (Lf s (Fc name (s.made+1))).2.cap,a2,b2,c2,d2,p2,I (s.made+1),I (Lf s (Fc name (s.made+1))).2.armed,B (Lf s (Fc name (s.made+1))).2.off]))):=iC hc2.obj (by simp) rfl;have hob:=hc2.obj;rw[emade]at hob;simp only[hd,sU,tC,tY,Aj hob,e1,e3,AB,Aj h3'.obj];exact⟨by trivial,p2,⟨a2,b2,c2,d2,pv2,h3'⟩,f2.trans f3⟩
    ·have e:AY s name true=((0,(Lf s (Fc name (s.made+1))).1),(Lf s (Fc name (s.made+1))).2):=by unfold AY;rw[if_neg hn0,if_neg h16,if_pos hd]
     rw[e];simp only[hd,sV,tH];exact⟨by trivial,p2,h2,f2⟩
 ·have e:AY s name make=(Gq s name,s):=by unfold AY;rw[if_pos (.inl h3)]
  rw[e];simp only[h3,sV,uW,show((true==false)=false)from rfl,C2,sY,A4];exact⟨by trivial,p,h,.refl _ _ _⟩)
def D6 (s:StS)(ino size:Int):Int×StS:=
 if(AA s ino).2≠0 then((AA s ino).2,s)else if Di (AA s ino).1 size=none then(5,s)else Lf s (PV ino size)
theorem Pm {N:Nat}{s:StS}(h:SW N s)(ino size:Int):SW (N+1) (D6 s ino size).2:=by
 unfold D6
 split
 ·exact h.mono (by omega)
 ·split
  ·exact h.mono (by omega)
  ·exact YE h (eC ino size)
theorem Ql {N:Nat}{s:StS}(h:SW N s)(ino:Int):(AA s ino).1.2.length≤N:=by
 unfold AA
 split
 ·simp
 ·split
  ·rename_i hg
   obtain⟨d,hd,rfl⟩:=hg.2;rw[(Vt h.now.1 hd).1];exact h.now.2 d hd
  ·simp
abbrev uS:=And.intro @Ab @tC
abbrev yW:=@Option.isSome_none
theorem UP {N:Nat}{s:StS}{os:Nat}{p:AV}{H:AH}(h:StAt s os p H)(hw:SW N s)(hN:N<900000)(ino size:Int):
  ∃r H',(r=I (D6 s ino size).1∧∃p',StAt (D6 s ino size).2 os p' H'∧StF os p p' H H')∧BCall prog 19 [.ptr os 0,I ino,I size] H r H':=JT (by
 unfold GV;obtain⟨R,hR,r,H1,⟨rfl,g1⟩,hc⟩:=P7 h hw (by omega) ino;have hlen:=Ql hw ino;refine bC_of hc ?_;unfold D6;generalize AA s ino=ct at*;have oR:=SV.oneA hR;have h1:=h.grew g1;have g2:=Grew.app H1 [some (.cells [I ct.1.1,R])];have h2:=h1.grew g2;simp only[tX,uM,iS,tV,Ym _ _ oR]
 by_cases hc0:ct.2=0
 ·simp only[hc0,tL,uS,Aj CT,nJ]
  obtain⟨R2,hR2,hp⟩:=II (size0:=ct.1.1) hR (by omega) size;refine A1 hp ?_;have oR2:=SV.oneA hR2;have g3:=Grew.app (H1++[some (AObj.cells [I ct.1.1,R])]) [some (.cells [I (cS (Di (ct.1.1,ct.1.2) size)),R2])];have h3:=h2.grew g3;have ff:StF os p p H (H1++[some (AObj.cells [I ct.1.1,R])]++[some (.cells [I (cS (Di (ct.1.1,ct.1.2) size)),R2])]):=.of_grew ((g1.trans g2).trans g3);simp only[tX,tW,iS,tV,Ym _ _ oR2];cases ht:Di (ct.1.1,ct.1.2) size with
  | none=>
   have ht':Di ct.1 size=none:=ht;rw[ht]at h3 ff;simp only[yW,tA,ht',if_true];exact⟨by trivial,p,h3,ff⟩
  | some c2=>
   have ht':¬Di ct.1 size=none:=by rw[show Di ct.1 size=some c2 from ht];simp
   rw[ht]at h3 ff;have e2:FC [(I 0),(I 0),(I 0),(I 0),(B false),(.lit (.string ⟨#[]⟩)),(.lit (.string ⟨#[]⟩)),Ac] [(0,1,(I 3)),(1,1,I ino),(3,1,I size)]=some (.agg (DD (PV ino size) Ac)):=rfl;simp only[xH,tB,ht',if_false,e2,Ab];obtain⟨r,H2,⟨rfl,p2,h4,f4⟩,hcall⟩:=mD (bv:=Ac) (o:=PV ino size) h3 hw (by omega) SV.nil (eC ino size);exact bC_of hcall ⟨rfl,p2,h4,ff.trans f4⟩
 ·simp only[hc0,sV,uW]
  exact⟨by trivial,p,h2,.of_grew (g1.trans g2)⟩)
theorem Lr {N:Nat}{s:StS}(h:SW N s){ino:Int}(h0:(AA s ino).2=0):∃d∈s.now.2,d.ino=ino∧(AA s ino).1=(d.size,d.l)∧s.off=false:=by
 unfold AA at h0⊢;split at h0
 ·simp at h0
 ·rename_i h1
  split at h0
  ·rename_i hg
   obtain⟨d,hd,rfl⟩:=hg.2;rw[if_neg h1,if_pos hg,(Vt h.now.1 hd).1];exact⟨d,hd,rfl,rfl,by simpa using h1⟩
  ·simp at h0
theorem nB {N:Nat}{X:AH}{o:Nat}(hN:N≤o):(old N X)[o]?=X[o]?:=by
 unfold old;rw[vC (by simpa using hN),List.length_replicate,vJ,show N+(o - N)=o by omega]
theorem BCall.fzS {P:Program}{f:FuncId}{args:List AV}{H X:AH}{r:AV}{sz m:Nat}{cs:List AV}(h:BCall P f args H r X)(g:Grew H X)(hs:Aa X sz r=some (cs,m))(hi:∀i∈AR r,H.length≤i)(hn:Au cs=true):
  ∃R,(noIds R=true∧∀H,Aa H sz R=some (cs,m))∧BCall P f args H R H:=by
 have hs2:Aa (old H.length X) sz r=some (cs,m):=Ae hs λi q=>nB (hi i q)
 obtain⟨R,n0,h1,h2,h3⟩:=PK hs2 hn;refine⟨R,⟨h1,h2⟩,ACalls.fzNew (R':=λr'=>r'=R) h ?_⟩;rintro r1 H1 ⟨rfl,rfl⟩;exact⟨g.1,g.2,n0,R,h3 n0 (vB _),rfl⟩
theorem cH {H:AH}{v:AV}{l:List UInt8}(h:Aa H 1 v=some (Bc l,l.length))(hl:l.length≤1000000000):∃R,SV N2 1 l R∧BCall prog 101 [v] H R H:=by
 obtain⟨r,X,⟨hs,g,hi⟩,hc⟩:=It (a0:=v) (H:=H) (K:=λr X=>Aa X 1 r=some (Bc l,l.length)∧Grew H X∧∀i∈AR r,H.length≤i) (by
  unfold F9;rcases Kp h with⟨rfl,e1,e2⟩ | hb
  ·have e:UQ .eql MA Ac Ac=some (B true):=rfl
   simp only[e,sY,Aq];exact⟨h,Grew.refl H,by simp[AR]⟩
  ·simp only[hb,sY,Ai]
   have e:Cg H 1 0 (AZ [u0Z] 0) []=some (.sl H.length 0 0 1 (.ex 0),H++[some (.cells [])]):=rfl;simp only[e,Az];have g:=Grew.app H [some (.cells [])];have h0:Aa (H++[some (.cells [])]) 1 (.sl H.length 0 0 1 (.ex 0))=some ([],0):=by simp[Aa]
   obtain⟨r,H2,a1,a2,a3,a4,a5,a6⟩:=Ek (sz:=1) (bytes:=1) (H:=H++[some (.cells [])]) (v:=.sl H.length 0 0 1 (.ex 0)) (cs:=[]) (n:=0) h0 rfl (AI (g.slice h)) (by omega);simp only[a1,Az];refine⟨by simpa using a3,⟨by simp at a4;omega,λi hi=>?_⟩,λi hi=>?_⟩
   ·rw[a5 i (by simp;omega) (by simp[AR];omega)]
    exact g.2 i hi
   ·rcases a6 i hi with h | h
    ·simp[AR]at h;omega
    ·simp at h;omega)
 obtain⟨R,⟨h1,h2⟩,h3⟩:=BCall.fzS hc g hs hi (Q3 _);exact⟨R,⟨h1,λH=>by rw[h2 H,PJ]⟩,h3⟩
theorem iG:Bq prog 165=true:=by kernel_rfl
theorem mN (x:Ext)(no:Int):BPure prog 165 [.agg (Aw x),.ip [I no]] (B (decide (x.no=no))):=BPure.val (by simp[Au,noIds,F6]) rfl (Tq (by
 unfold QF;have e1:A5 [] (.agg (Aw x))=some (.ptr 0 0,[some (.cells (Aw x))]):=by simp
 have e2:(Aw x)[0]?=some (I x.no):=rfl;have e3:([some (.cells (Aw x))]:AH)[0]?=some (some (.cells (Aw x))):=rfl;simp only[e1,Az,tI,Aj e3,e2,UW,DG,FN]
 try trivial))
theorem rB (x:Ext)(t:List AV):Al true 9 (Aw x++t) 0=some (.agg (Aw x)):=by
 have:=A2 x
 simp only[Al,if_true,vE,this,vZ];rw[if_pos (by omega),vL (by omega),vA (by omega)]
abbrev tJ:=And.intro @List.cons_append.{0} @List.nil_append.{0}
abbrev uR:=And.intro @Bool.true_or @Ro
theorem dC {l:List Ext}{v:AV}(hv:SV Aw 9 l v)(hl:l.length≤281474976710656)(no:Int):∃j:Int,(0≤j↔BT l no)∧BPure prog 167 [v,.fn (.func 165) [] [.ip [I no]]] (I j):=by
 have key:∃r X,(∃j:Int,r=I j∧(0≤j↔BT l no))∧BCall prog 167 [v,.fn (.func 165) [] [.ip [I no]]] [] r X:=CN (by
  unfold Ce;simp only[hv.len,Ab];refine Cm (λn x0 x1 x7 x8 H'=>∃k:Nat,k+n=l.length∧x0=v∧x1=.fn (.func 165) [] [.ip [I no]]∧x7=I l.length∧x8=I k∧∀(m:Nat) y,m<k→l[m]?=some y→y.no≠no) ?_ l.length ⟨0,by omega,rfl,rfl,rfl,rfl,by omega⟩;rintro n x0 x1 x7 x8 H R hR ⟨k,hk,rfl,rfl,rfl,rfl,hb⟩;unfold BJ;rcases vF k l.length with h | h
  ·have hx:=E3 h
   generalize l[k]=y at hx;have kI:(k:Int)<(l.length:Int):=by omega
   simp only[uA,kI,tH,hv.idx A2 hx rfl,UW,rB,Y6,iG,uR,tJ];refine bC_of (mN y no H) ?_;simp only[Ag]
   by_cases c:y.no=no
   ·simp only[c,tH]
    exact⟨k,rfl,by simp only[Int.natCast_nonneg,true_iff];exact⟨y,vD hx,c⟩⟩
   ·simp only[c,uS,A0 (a:=k) (b:=1) (by omega) (by omega)]
    refine hR (n - 1) _ _ _ _ _ (by omega) ⟨k+1,by omega,rfl,rfl,rfl,by simp,?_⟩;intro m z hm hz
    by_cases e:m=k
    ·rw[e,hx]at hz;injection hz with hz;rw[← hz];exact c
    ·exact hb m z (by omega) hz
  ·have kI:¬(k:Int)<(l.length:Int):=by omega
   simp only[uA,kI,tC];refine⟨-1,rfl,by simp only[show ¬(0:Int)≤-1 by omega,false_iff];rintro⟨y,hy,e⟩;obtain⟨m,hm⟩:=vN.1 hy;exact hb m y (by have:=(BE.1 hm).1;omega) hm e⟩)
 obtain⟨r,X,⟨j,rfl,hj⟩,hc⟩:=key;exact⟨j,hj,BPure.val (by simp[Au,noIds,hv.1]) rfl ⟨_,_,rfl,hc⟩⟩
theorem Xy {l:List Ext}{v:AV}(hv:SV Aw 9 l v)(hl:l.length≤281474976710656)(no:Int):BPure prog 164 [v,.fn (.func 165) [] [.ip [I no]]] (B (decide (BT l no))):=by
 obtain⟨j,hj,hp⟩:=dC hv hl no;refine BPure.flat λH=>E5 ?_
 unfold CH;refine A1 hp ?_;simp only[Hz,Ab];exact⟨by congr 3;exact propext hj,by trivial⟩
theorem qI {size:Int}{l:List Ext}{v:AV}(hv:SV Aw 9 l v)(hl:l.length≤281474976710656)(no:Int):BPure prog 100 [.agg [I size,v],I no] (B (decide (BT l no))):=BPure.val (by simp[Au,noIds,hv.1]) rfl (VG (by
 have ov:=SV.oneA hv;unfold UK;have e1:A5 [] (.agg [I size,v])=some (.ptr 0 0,[some (.cells [I size,v])]):=by simp[ov]
 have e2:A5 [some (.cells [I size,v])] (I no)=some (.ptr 1 0,[some (.cells [I size,v]),some (.cells [I no])]):=rfl;have e3:([some (.cells [I size,v]),some (.cells [I no])]:AH)[0]?=some (some (.cells [I size,v])):=rfl;simp only[e1,Az,e2,tM,Aj e3]
 have hf:FZs [some (.cells [I size,v]),some (.cells [I no])] [v,.fn (.func 165) [] [.ptr 1 0]] [v,.fn (.func 165) [] [.ip [I no]]]:=by
  refine FZs.cons (FZ.same hv.1) (FZs.cons ⟨3,λn hn=>?_⟩ FZs.nil);obtain⟨n,rfl⟩:∃m,n=m+3:=⟨n - 3,by omega⟩;rfl
 refine bP_of (PCall.lend hf rfl (Xy hv hl no)) ?_
 try trivial))
theorem YD:∀{f:Nat} {p n:Int} {q:Sp},0≤p→q∈Dq f p n 8→p≤q.pos∧0<q.len∧q.len≤8∧q.pos+q.len≤p+n
 | 0,p,n,q,_,h=>by simp[Dq]at h
 | f+1,p,n,q,hp,h=>by
  unfold Dq at h;split at h
  ·rename_i hn
   have h1:=yJ p (show(0:Int)<8 by omega);have h2:=yQ p (show(8:Int)≠0 by omega);rcases vX.1 h with rfl | h
   ·simp only;omega
   ·have:=YD (by omega) h
    omega
  ·simp at h
def I3 (ino pos:Int)(b:List UInt8):OpM:=⟨2,ino,pos,0,false,[],[],b⟩
theorem Ye {ino pos:Int}{b:List UInt8}(h:b.length≤8):aU (I3 ino pos b):=⟨by show b.length≤_;omega,by simp[I3],by simp[I3]⟩
def EE (b:List UInt8)(pos:Int)(q:Sp):List UInt8:=(b.drop (q.pos - pos).toNat).take q.len.toNat
def TW (c:List Ext)(ino pos:Int)(b:List UInt8):List Sp→StS→(Int×Int)×StS
 | [],s=>((b.length,0),s)
 | q::r,s=>
  if ¬BT c (q.pos/8)∧O4 s=0 then((q.pos - pos,4),s)
  else if(Lf s (I3 ino q.pos (EE b pos q))).1≠0 then((q.pos - pos,(Lf s (I3 ino q.pos (EE b pos q))).1),(Lf s (I3 ino q.pos (EE b pos q))).2)
  else TW c ino pos b r (Lf s (I3 ino q.pos (EE b pos q))).2
def Uq (pos:Int)(n:Nat):Prop:=0≤pos∧n≤4096∧pos≤1099511627776 - n
instance (pos:Int) (n:Nat):Decidable (Uq pos n):=by unfold Uq;infer_instance
def Cb (s:StS)(ino pos:Int)(b:List UInt8):(Int×Int)×StS:=
 if(AA s ino).2≠0 then((0,(AA s ino).2),s)else if ¬Uq pos b.length then((0,5),s)
 else TW (AA s ino).1.2 ino pos b (ET ⟨pos,b.length⟩ 8) s
theorem Tc {pos:Int}{b:List UInt8}{q:Sp}(hf:Uq pos b.length)(h:q∈ET ⟨pos,b.length⟩ 8):pos≤q.pos∧0<q.len∧q.len≤8∧q.pos+q.len≤pos+b.length:=by
 unfold ET at h;split at h
 ·exact YD hf.1 h
 ·simp at h
theorem U7 {b:List UInt8}{pos:Int}{q:Sp}(h:pos≤q.pos∧0<q.len∧q.len≤8∧q.pos+q.len≤pos+b.length):(EE b pos q).length=q.len.toNat:=by
 unfold EE;rw[uZ,vG];omega
theorem kO {c:List Ext}{ino pos:Int}{b:List UInt8}:∀{l:List Sp} {N:Nat} {s:StS},(∀q∈l,pos≤q.pos∧0<q.len∧q.len≤8∧q.pos+q.len≤pos+b.length)→SW N s→SW (N+9*l.length) (TW c ino pos b l s).2
 | [],N,s,_,h=>h
 | q::r,N,s,hq,h=>by
  have h1:=hq q (by simp);have hl:=U7 h1;have hd:=YE (o:=I3 ino q.pos (EE b pos q)) h (Ye (by omega))
  have hwt:wt (I3 ino q.pos (EE b pos q))≤9:=by
   show 1+(EE b pos q).length+(if(2:Int)=4 then 4098 else 0)≤9
   rw[if_neg (by omega)];omega
  unfold TW;simp only[vR]
  split
  ·exact h.mono (by omega)
  ·split
   ·exact hd.mono (by omega)
   ·exact(kO (λx hx=>hq x (by simp[hx])) hd).mono (by omega)
theorem U8 {pos:Int}{b:List UInt8}(hf:Uq pos b.length):(ET ⟨pos,b.length⟩ 8).length≤b.length:=by
 unfold ET
 split
 ·have:∀(f:Nat) (p n:Int),(Dq f p n 8).length≤f:=by
   intro f
   induction f with
   | zero=>intro p n;simp[Dq]
   | succ f ih=>
    intro p n;unfold Dq
    split
    ·simp only[vR];have:=ih (p+min n (8 - p % 8)) (n - min n (8 - p % 8));omega
    ·simp
  have h2:=this (b.length:Int).toNat pos b.length;have e:((b.length:Int)).toNat=b.length:=by omega
  simp only;omega
 ·simp
theorem Tz {N:Nat}{s:StS}(h:SW N s)(ino pos:Int)(b:List UInt8):SW (N+9*b.length) (Cb s ino pos b).2:=by
 unfold Cb
 split
 ·exact h.mono (by omega)
 ·split
  ·exact h.mono (by omega)
  ·rename_i hf
   have hf:=wC hf;exact(kO (λq hq=>Tc hf hq) h).mono (by have:=U8 hf;omega)
theorem Yt {N:Nat}{s:StS}{os:Nat}{p v:AV}{H:AH}(h:StAt s os p H)(hw:SW N s)(ino pos:Int){b:List UInt8}(hN:N+9*b.length<900000)(hv:Aa H 1 v=some (Bc b,b.length))(hvi:∀j∈AR v,j≠os∧j∉AR p):
  ∃r H',(r=.tup [I (Cb s ino pos b).1.1,I (Cb s ino pos b).1.2]∧∃p',StAt (Cb s ino pos b).2 os p' H'∧StF os p p' H H')∧BCall prog 44 [.ptr os 0,I ino,I pos,v] H r H':=Mb (by
 unfold IX;obtain⟨R,hR,r,H1,⟨rfl,g1⟩,hc⟩:=P7 h hw (by omega) ino;have hlen:=Ql hw ino;refine bC_of hc ?_;unfold Cb;generalize AA s ino=ct at*;have oR:=SV.oneA hR;have h1:=h.grew g1;have g2:=Grew.app H1 [some (.cells [I ct.1.1,R])];have h2:=h1.grew g2;have hv2:=g2.slice (g1.slice hv);have alv:AW v=some (I b.length):=B4 hv;simp only[tX,uM,iS,tV,Ym _ _ oR]
 by_cases hc0:ct.2=0
 ·simp only[hc0,tL,uS,alv]
  refine A1 (MT pos b.length (by omega)) ?_
  by_cases hf:Uq pos b.length
  ·have hf':0≤pos∧b.length≤4096∧pos≤1099511627776 - b.length:=hf
   have e1:FC [(I 0),(I 0)] [(0,1,I pos),(1,1,I (b.length:Int))]=some (.agg (Cc ⟨pos,b.length⟩)):=rfl;simp only[hf,hf',and_self,DS,tW,tB,not_true_eq_false,if_false,alv,e1];obtain⟨V,hV,hp⟩:=Q7 ⟨pos,b.length⟩ (unit:=8) (by omega);refine A1 hp ?_;simp only[hV.len,Ab];have hin:∀q∈ET ⟨pos,b.length⟩ 8,pos≤q.pos∧0<q.len∧q.len≤8∧q.pos+q.len≤pos+b.length:=λq hq=>Tc hf hq
   have hpl:=U8 hf;generalize ET ⟨pos,b.length⟩ 8=L at hV hin hpl;have c0:(H1++[some (AObj.cells [I ct.1.1,R])])[H1.length]?=some (some (.cells [I ct.1.1,R])):=CT;have f0:StF os p p H (H1++[some (AObj.cells [I ct.1.1,R])]):=.of_grew (g1.trans g2);have hosH:os<H.length:=by obtain⟨a,b',c,d,pv,hx⟩:=h;exact hx.lt
   have hpH:∀j∈AR p,j<H.length:=by obtain⟨a,b',c,d,pv,hx⟩:=h;exact PM hx
   have hvH:∀j∈AR v,j<H.length:=λj q=>Ax hv j q
   have hH1:H.length≤H1.length:=g1.1;refine I7 (λm x0 x1 x2 x3 x10 x36 x37 x38 H'=>∃(k:Nat) (s':StS) (p':AV),k+m=L.length∧x0=.ptr os 0∧x1=I ino∧x2=I pos∧x3=v∧x10=.ptr H1.length 0∧x36=V∧x37=I L.length∧x38=I k∧StAt s' os p' H'∧StF os p p' H H'∧SW (N+9*k) s'∧H'[H1.length]?=some (some (.cells [I ct.1.1,R]))∧H1.length∉AR p'∧TW ct.1.2 ino pos b (L.drop k) s'=TW ct.1.2 ino pos b L s) ?_ L.length ⟨0,s,p,by omega,rfl,rfl,rfl,rfl,rfl,rfl,rfl,rfl,h2,f0,hw,c0,λq=>by have:=hpH _ q;omega,rfl⟩;rintro m x0 x1 x2 x3 x10 x36 x37 x38 H2 R2 hR2 ⟨k,s',p',hk,rfl,rfl,rfl,rfl,rfl,rfl,rfl,rfl,hs',fs',hws',cc,hcp,heq⟩;rw[← heq];unfold Gi;rcases vF k L.length with hlt | hge
   ·have hx:=E3 hlt
    have hq:=hin L[k] (List.getElem_mem hlt);generalize L[k]=q at hx hq;obtain⟨q1,q2,q3,q4⟩:=hq;have kI:(k:Int)<(L.length:Int):=by omega
    have hdrop:L.drop k=q::L.drop (k+1):=Et hx;rw[hdrop];generalize hW:TW ct.1.2 ino pos b (q::L.drop (k+1)) s'=W;have rdq:Al true 2 (Cc q++(L.drop (k+1)).flatMap Cc) 0=some (.agg (Cc q)):=by simp[Al,Cc]
    have eA:(AV.agg (Cc q))=.agg [I q.pos,I q.len]:=rfl;have n2:A5 H2 (.agg [(I 0),(I 0)])=some (.ptr H2.length 0,H2++[some (.cells [I 0,I 0])]):=by simp
    have t2:AS 2 (H2++[some (.cells [I 0,I 0])]) (.ptr H2.length 0) (.agg [I q.pos,I q.len])=some (H2++[some (.cells [I q.pos,I q.len])]):=by
     rw[A7 (n:=2) (xs:=[I q.pos,I q.len]) (cs:=[I 0,I 0]) rfl (by simp) rfl (by simp)];simp[AK]
    have g3:=Grew.app H2 [some (.cells [I q.pos,I q.len])];have e2:Ay .sub (I q.pos) (I pos)=some (I (q.pos - pos)):=Cv (by omega) (by omega);have e3:Ay .quo (I q.pos) (I 8)=some (I (q.pos/8)):=NQ (by omega) (by omega) (by omega);simp only[B1,tM,Ag,kI,tH,hV.idx Uo hx rfl,UW,rdq,eA,n2,tV,t2,Aj CT,e2,Aj (g3.cells cc),nJ,e3];refine A1 (qI hR (by omega) (q.pos/8)) ?_;have hs3:=hs'.grew g3;have fs3:StF os p p' H (H2++[some (.cells [I q.pos,I q.len])]):=fs'.grew g3;have cc3:=g3.cells cc;have tq:(H2++[some (AObj.cells [I q.pos,I q.len])])[H2.length]?=some (some (.cells [I q.pos,I q.len])):=CT;have hl3:H2.length+1=(H2++[some (AObj.cells [I q.pos,I q.len])]).length:=by simp
    have hpid:∀j∈AR p',j<H2.length:=by obtain⟨a,b',c,d,pv,hx⟩:=hs';exact PM hx
    have hos2:os<H2.length:=by obtain⟨a,b',c,d,pv,hx⟩:=hs';exact hx.lt
    have hcl2:H1.length<H2.length:=(BE.1 cc).1;generalize (H2++[some (AObj.cells [I q.pos,I q.len])])=H3 at hs3 fs3 cc3 tq hl3
    -- the deed
    have deed:¬(¬BT ct.1.2 (q.pos/8)∧O4 s'=0)→bO (Ad 0 (.ptr H2.length 0)) (λv25=>bO (Ar false 1 H3 v25) λv26=>bO (Ad 1 (.ptr H2.length 0)) λv27=>bO (Ar false 1 H3 v27) λv28=>bO (Ay .add (I (q.pos - pos)) v28) λv29=>bO (AT 1 x3 (some (I (q.pos - pos))) (some v29) none) λv30=>
      bC (BCall prog 101 [v30] H3) λv31 H32=>bO (FC [(I 0),(I 0),(I 0),(I 0),(B false),(.lit (.string ⟨#[]⟩)),(.lit (.string ⟨#[]⟩)),Ac] [(0,1,(I 2)),(1,1,I ino),(2,1,v26),(7,1,v31)]) λv33=>
      bC (BCall prog 48 [.ptr os 0,v33] H32) λv34 H35=>(Ar false 1 H32 v25=some v26)∧bO (Ay .neq v34 (I 0)) λv36=>bB v36 λt37=>bI t37
       (AV.tup [I (q.pos - pos),v34]=.tup [I W.1.1,I W.1.2]∧
        ∃p',StAt W.2 os p' H35∧StF os p p' H H35)
       (bO (Ay .add (I k) (I 1)) λv38=>R2 [.ptr os 0,I ino,I pos,x3,.ptr H1.length 0,x36,I L.length,v38] H35)):=by
     intro hno;have e4:Ay .add (I (q.pos - pos)) (I q.len)=some (I (q.pos - pos+q.len)):=A0 (by omega) (by omega)
     have hv3:Aa H3 1 x3=some (Bc b,b.length):=Ae hv λj hj=>by
      have hne:=hvi j hj;exact fs3.same j (hvH j hj) hne.1 hne.2
     obtain⟨r5,s1,s2,s3,-⟩:=EL hv3 (lo:=some (I (q.pos - pos))) (hi:=some (I (q.pos - pos+q.len))) (l:=(q.pos - pos).toNat) (k:=(q.pos - pos+q.len).toNat) (by simp only[Bt];rw[if_pos (by omega)]) (by simp only[Bt];rw[if_pos (by omega)]) (by omega) (by omega);have hpl2:=U7 (b:=b) (pos:=pos) (q:=q) ⟨q1,q2,q3,q4⟩
     have s2':Aa H3 1 r5=some (Bc (EE b pos q),(EE b pos q).length):=by
      rw[s2,hpl2];unfold EE;rw[xI,xI,show(q.pos - pos+q.len).toNat - (q.pos - pos).toNat=q.len.toNat by omega];simp[Bc,yZ,zQ]
     obtain⟨Rb,hRb,hcb⟩:=cH s2' (by omega);simp only[tM,Aj tq,e4,s1];refine bC_of hcb ?_
     have e5:FC [(I 0),(I 0),(I 0),(I 0),(B false),(.lit (.string ⟨#[]⟩)),(.lit (.string ⟨#[]⟩)),Ac] [(0,1,(I 2)),(1,1,I ino),(2,1,I q.pos),(7,1,Rb)]=some (.agg (DD (I3 ino q.pos (EE b pos q)) Rb)):=by
      have:=SV.oneA hRb
      simp[FC,DD,I3,AL this];rfl
     simp only[e5,Ab];obtain⟨r6,H6,⟨rfl,p6,h6,f6⟩,hcall⟩:=mD (o:=I3 ino q.pos (EE b pos q)) hs3 hws' (by omega) hRb (Ye (by omega));have hws6:=YE (o:=I3 ino q.pos (EE b pos q)) hws' (Ye (by omega));refine bC_of hcall ⟨by rw[Aj tq];rfl,?_⟩;simp only[uM]
     by_cases hd:(Lf s' (I3 ino q.pos (EE b pos q))).1=0
     ·simp only[hd,sU,uS,A0 (a:=k) (b:=1) (by omega) (by omega)]
      have hwt:wt (I3 ino q.pos (EE b pos q))≤9:=by
       show 1+(EE b pos q).length+(if(2:Int)=4 then 4098 else 0)≤9
       rw[if_neg (by omega)];omega
      refine hR2 (m - 1) _ _ _ _ _ _ _ _ _ (by omega) ⟨k+1,_,p6,by omega,rfl,rfl,rfl,rfl,rfl,rfl,rfl,by simp,h6,fs3.trans f6,hws6.mono (by omega),?_,?_,?_⟩
      ·rw[f6.same H1.length (by omega) (by omega) hcp];exact cc3
      ·intro hh
       rcases f6.ids _ hh with hh | hh
       ·exact hcp hh
       ·omega
      ·rw[← heq,hdrop]
       conv=>rhs;unfold TW
       rw[if_neg hno,if_neg (by rw[hd];simp)]
     ·have eW:W=((q.pos - pos,(Lf s' (I3 ino q.pos (EE b pos q))).1),(Lf s' (I3 ino q.pos (EE b pos q))).2):=by
       rw[← hW];unfold TW;rw[if_neg hno,if_pos hd]
      rw[eW];simp only[hd,sV,tH];exact⟨by trivial,p6,h6,fs3.trans f6⟩
    by_cases hh:BT ct.1.2 (q.pos/8)
    ·simp only[hh,DS,tW,tB,Ba,show((false==true)=false)from rfl,C2,JC,uC]
     exact deed (λx=>x.1 hh)
    ·simp only[hh,DC,Bl,Bool.not_false,uI,sX,Vr]
     refine bC_of (kR hs3 hws' (by omega)) ?_;simp only[FN,sY,A4,if_true]
     by_cases hfr:O4 s'=0
     ·have eW:W=((q.pos - pos,4),s'):=by
       rw[← hW];unfold TW;rw[if_pos ⟨hh,hfr⟩]
      rw[eW];simp only[hfr,tH];exact⟨by trivial,p',hs3,fs3⟩
     ·simp only[hfr,tC]
      exact deed (λx=>hfr x.2)
   ·have kI:¬(k:Int)<(L.length:Int):=by omega
    have hdrop:L.drop k=[]:=vP hge;rw[hdrop];unfold TW;simp only[uA,kI,tC,alv];exact⟨by trivial,p',hs',fs'⟩
  ·have hf':¬(0≤pos∧b.length≤4096∧pos≤1099511627776 - b.length):=hf
   simp only[hf,hf',DC,tW,tA,not_false_eq_true,if_true];exact⟨by trivial,p,h2,.of_grew (g1.trans g2)⟩
 ·simp only[hc0,sV,uW]
  exact⟨by trivial,p,h2,.of_grew (g1.trans g2)⟩)
def Sj (i:Int):List AV:=[I i]
theorem cX (i:Int):(Sj i).length=1:=rfl
theorem WV (l:List Int):Au (l.flatMap Sj)=true:=Dv λx _=>rfl
theorem rC (x:Int)(t:List AV):Al false 1 (Sj x++t) 0=some (I x):=rfl
theorem mP {l:List Int}{v:AV}(hv:SV Sj 1 l v)(hl:l.length≤281474976710656)(no:Int):∃j:Int,(0≤j↔no∈l)∧BPure prog 185 [v,I no] (I j):=by
 have key:∃r X,(∃j:Int,r=I j∧(0≤j↔no∈l))∧BCall prog 185 [v,I no] [] r X:=Jj (by
  unfold Gs;simp only[hv.len,Ab];refine GU (λn x0 x1 x7 x8 H'=>∃k:Nat,k+n=l.length∧x0=v∧x1=I no∧x7=I l.length∧x8=I k∧∀(m:Nat) y,m<k→l[m]?=some y→no≠y) ?_ l.length ⟨0,by omega,rfl,rfl,rfl,rfl,by omega⟩;rintro n x0 x1 x7 x8 H R hR ⟨k,hk,rfl,rfl,rfl,rfl,hb⟩;unfold EI;rcases vF k l.length with h | h
  ·have hx:=E3 h
   generalize l[k]=y at hx;have kI:(k:Int)<(l.length:Int):=by omega
   simp only[uA,kI,tH,hv.idx cX hx rfl,UW,rC,FN]
   by_cases c:no=y
   ·simp only[c,tH]
    exact⟨k,rfl,by simp only[Int.natCast_nonneg,true_iff];exact vD hx⟩
   ·simp only[c,uS,A0 (a:=k) (b:=1) (by omega) (by omega)]
    refine hR (n - 1) _ _ _ _ _ (by omega) ⟨k+1,by omega,rfl,rfl,rfl,by simp,?_⟩;intro m z hm hz
    by_cases e:m=k
    ·rw[e,hx]at hz;injection hz with hz;rw[← hz];exact c
    ·exact hb m z (by omega) hz
  ·have kI:¬(k:Int)<(l.length:Int):=by omega
   simp only[uA,kI,tC];refine⟨-1,rfl,by simp only[show ¬(0:Int)≤-1 by omega,false_iff];intro hy;obtain⟨m,hm⟩:=vN.1 hy;exact hb m no (by have:=(BE.1 hm).1;omega) hm rfl⟩)
 obtain⟨r,X,⟨j,rfl,hj⟩,hc⟩:=key;exact⟨j,hj,BPure.val (by simp[Au,noIds,hv.1]) rfl ⟨_,_,rfl,hc⟩⟩
theorem VQ {l:List Int}{v:AV}(hv:SV Sj 1 l v)(hl:l.length≤281474976710656)(no:Int):BPure prog 151 [v,I no] (B (decide (no∈l))):=by
 obtain⟨j,hj,hp⟩:=mP hv hl no;refine BPure.val (by simp[Au,noIds,hv.1]) rfl (HG ?_);unfold Ff;refine A1 hp ?_;simp only[Hz,Ab]
 congr 3;exact propext hj
def Jk (l:List Int)(o:OpM):Prop:=o.kind=1∨o.kind=6∨o.kind=7∨o.ino∈l
instance (l:List Int) (o:OpM):Decidable (Jk l o):=by unfold Jk;infer_instance
theorem jO {o:OpM}{bv:AV}(hb:SV N2 1 o.b bv){l:List Int}{v:AV}(hv:SV Sj 1 l v)(hl:l.length≤281474976710656):BPure prog 81 [.agg (DD o bv),v] (B (decide (Jk l o))):=by
 have obv:=SV.oneA hb;have e1:A5 [] (.agg (DD o bv))=some (.ptr 0 0,[some (.cells (DD o bv))]):=by simp[DD,obv]
 have e0:([some (.cells (DD o bv))]:AH)[0]?=some (some (.cells (DD o bv))):=rfl;have i0:(DD o bv)[0]?=some (I o.kind):=rfl;have i1:(DD o bv)[1]?=some (I o.ino):=rfl;refine BPure.val (by simp[Au,noIds,hv.1,hb.1,DD]) rfl (Ts ?_);unfold QG;simp only[e1,Az,tI,Aj e0,i0,FN,Ag]
 have last:∀c:Prop,∀_ :Decidable c,Iw v (.ptr 0 0) [some (.cells (DD o bv))] (λr H=>r=B (decide (o.ino∈l))):=by
  intro c _;rw[Pl];unfold JW;simp only[tI,Aj e0,i1];exact A1 (VQ hv hl o.ino) rfl
 unfold Jk
 by_cases c1:o.kind=1
 ·simp only[c1,tH,true_or]
  rw[Gl];unfold EO;simp only[Ag,Aq]
  try trivial
 ·simp only[c1,tC,false_or]
  by_cases c6:o.kind=6
  ·simp only[c6,tH,true_or]
   rw[Gl];unfold EO;simp only[Ag,Aq]
   try trivial
  ·simp only[c6,tC,false_or]
   rw[Gl];unfold EO
   by_cases c7:o.kind=7
   ·simp only[c7,tH,Ag,true_or]
    try trivial
   ·simp only[c7,tC,Ag,false_or]
    exact last True inferInstance
def GZ (l:List Int):List OpM→Yr×List OpM→Yr×List OpM
 | [],x=>x
 | o::r,x=>if Jk l o then GZ l r (B9 x.1.1 x.1.2 o,x.2)else GZ l r (x.1,x.2++[o])
def QI (s:StS)(l:List Int):Int×StS:=
 if(AU s).1=true then(0,{(AU s).2 with kept:=(GZ l s.pend (s.kept,[])).1,pend:=(GZ l s.pend (s.kept,[])).2})else(8,(AU s).2)
theorem VJ {l:List Int}{N:Nat}:∀{r:List OpM} {x:Yr×List OpM},(∃a,Few1 a x.1∧a+Rk x.2+Rk r≤N)→(∃a,Few1 a (GZ l r x).1∧a+Rk (GZ l r x).2≤N)
 | [],x,⟨a,h1,h2⟩=>⟨a,h1,by simp only[GZ];omega⟩
 | o::r,x,⟨a,h1,h2⟩=>by
  have e:Rk (o::r)=wt o+Rk r:=by simp[Rk]
  unfold GZ
  split
  ·exact VJ ⟨a+wt o,h1.step o,by simp only;omega⟩
  ·exact VJ ⟨a,h1,by simp only[T5];omega⟩
theorem VI {l:List Int}:∀{r:List OpM} {x:Yr×List OpM},(∀o∈x.2,aU o)→(∀o∈r,aU o)→∀o∈(GZ l r x).2,aU o
 | [],x,h1,h2,o,ho=>h1 o ho
 | q::r,x,h1,h2,o,ho=>by
  unfold GZ at ho;split at ho
  ·exact VI (x:=(B9 x.1.1 x.1.2 q,x.2)) h1 (λz hz=>h2 z (by simp[hz])) o ho
  ·refine VI (x:=(x.1,x.2++[q])) ?_ (λz hz=>h2 z (by simp[hz])) o ho
   intro z hz;simp only[tG]at hz;rcases hz with hz | rfl
   ·exact h1 z hz
   ·exact h2 _ (by simp)
theorem jP {N:Nat}{s:StS}(h:SW N s)(l:List Int):SW N (QI s l).2:=by
 have hd:=Vp h;obtain⟨e1,e2,e3,e4,e5⟩:=Fv s;unfold QI
 split
 ·refine⟨by simp only[e1];exact h.now,?_,?_,hd.made,hd.cap,hd.armed⟩
  ·obtain⟨a,h1,h2⟩:=h.kept
   exact VJ ⟨a,h1,by simp only[Rk,List.map_nil,List.sum_nil];unfold Rk at h2;omega⟩
  ·exact VI (x:=(s.kept,[])) (by simp) h.ob
 ·exact hd
theorem kY {N:Nat}{s:StS}{os:Nat}{p v:AV}{H:AH}(h:StAt s os p H)(hw:SW N s)(hN:N≤900000){l:List Int}(hv:Aa H 1 v=some (l.flatMap Sj,l.length))(hvi:∀j∈AR v,j≠os∧j∉AR p)(hl:l.length≤1000000):
  ∃r H',(r=I (QI s l).1∧∃p',StAt (QI s l).2 os p' H'∧StF os p p' H H')∧BCall prog 37 [.ptr os 0,v] H r H':=ME (by
 unfold JS;obtain⟨r,H1,⟨rfl,h1,f1⟩,hc⟩:=cR h hw.armed;refine bC_of hc ?_;obtain⟨e1,e2,e3,e4,e5⟩:=Fv s;have hwd:=Vp hw;have hpl:(AU s).2.pend.length≤N:=by rw[e3];exact hw.plen
 have hob:∀o∈(AU s).2.pend,aU o:=by rw[e3];exact hw.ob
 have hkw:∃a,Few1 a (AU s).2.kept∧a+Rk (AU s).2.pend≤N:=by rw[e2,e3];exact hw.kept
 unfold QI;rw[← e2,← e3];simp only[tW];cases hd:(AU s).1 with
 | false=>
  simp only[tA,At];exact⟨by trivial,p,h1,f1⟩
 | true=>
  have hv1:Aa H1 1 v=some (l.flatMap Sj,l.length):=Ae hv λj hj=>f1.same j (Ax hv j hj) (hvi j hj).1 (hvi j hj).2
  clear e1 e2 e3 e4 e5 hc;generalize (AU s).2=s1 at*;simp only[if_true];obtain⟨a,b,c,d,pv,h1⟩:=h1;have hpn:pv.length=s1.pend.length:=by rw[← h1.pm,wB]
  have alv:AW p=some (I (s1.pend.length:Nat)):=by rw[← hpn];exact B4 h1.ps
  simp only[tB,tY,Aj h1.obj,alv];have hos:os<H1.length:=h1.lt;have hH:H.length≤H1.length:=f1.len;generalize hres:GZ l s1.pend (s1.kept,[])=res;refine Jl (λm x0 x1 x5 x14 x15 x16 H'=>∃(k:Nat) (ki:Yr) (c' d':AV) (lv:List OpV),k+m=s1.pend.length∧x0=.ptr os 0∧x1=v∧x14=p∧x15=I s1.pend.length∧x16=I k∧StC {s1 with kept:=ki} os a b c' d' p pv H'∧StF os p p H1 H'∧GZ l (s1.pend.drop k) (ki,lv.map OpV.o)=res∧(∃a,Few1 a ki∧a+Rk (lv.map OpV.o)+Rk (s1.pend.drop k)≤N)∧Aa H' 8 x5=some (lv.flatMap KX,lv.length)∧AM x5=true∧Ci x5 lv.length∧(∀j∈AR x5,H1.length≤j)) ?_ s1.pend.length ⟨0,s1.kept,c,d,[],by omega,rfl,rfl,rfl,rfl,rfl,h1,.refl _ _ _,hres,by obtain⟨x,y,z⟩:=hkw;exact⟨x,y,by simp only[uJ];simp only[Rk,List.map_nil,List.sum_nil]at*;omega⟩,rfl,rfl,by simp[Ci],by simp[AR]⟩;rintro m x0 x1 x5 x14 x15 x16 H2 R hR ⟨k,ki,c',d',lv,hk,rfl,rfl,rfl,rfl,rfl,h2,f2,hsy,hfew,ls,lo,lc,li⟩
  have lvN:lv.length≤N:=by
   obtain⟨x,-,y⟩:=hfew
   have:=Zi (l:=lv.map OpV.o)
   rw[wB]at this;omega
  unfold Gt;rcases vF k s1.pend.length with hlt | hge
  ·have hx:=E3 (show k<pv.length by omega)
   generalize pv[k]'(by omega)=x at hx;have hxo : s1.pend[k]? = some x.o:=by rw [← h1.pm,wA,hx]; rfl
   have hdrop:s1.pend.drop k=x.o::s1.pend.drop (k+1):=Et hxo;have hxb:=hob x.o (vD hxo);rw[hdrop]at hsy hfew;have ox:=SV.oneA x.h;have kI:(k:Int)<(s1.pend.length:Int):=by omega
   obtain⟨pp,q1,q2⟩:=qV h2.ps hx;have n8:A5 H2 (.agg [(I 0),(I 0),(I 0),(I 0),(B false),(.lit (.string ⟨#[]⟩)),(.lit (.string ⟨#[]⟩)),Ac])=some (.ptr H2.length 0,H2++[some (.cells [I 0,I 0,I 0,I 0,B false,S ⟨#[]⟩,S ⟨#[]⟩,Ac])]):=by simp
   have t8:AS 8 (H2++[some (.cells [I 0,I 0,I 0,I 0,B false,S ⟨#[]⟩,S ⟨#[]⟩,Ac])]) (.ptr H2.length 0) (.agg (DD x.o x.bv))=some (H2++[some (.cells (DD x.o x.bv))]):=by
    rw[A7 (n:=8) (xs:=DD x.o x.bv) (cs:=[I 0,I 0,I 0,I 0,B false,S ⟨#[]⟩,S ⟨#[]⟩,Ac]) (by simp[DD,ox]) (by simp) rfl (by simp)];simp[AK,DD]
   have g3:=Grew.app H2 [some (.cells (DD x.o x.bv))];have rd8:Al true 8 (DD x.o x.bv) 0=some (.agg (DD x.o x.bv)):=rfl;have h3:=h2.grew g3;have f3:StF os x14 x14 H1 (H2++[some (AObj.cells (DD x.o x.bv))]):=f2.grew g3;have hl2:=f2.len
   have hv3:Aa (H2++[some (AObj.cells (DD x.o x.bv))]) 1 x1=some (l.flatMap Sj,l.length):=Ae hv λj hj=>by
    have:=Ax hv j hj
    rw[f3.same j (by omega) (hvi j hj).1 (hvi j hj).2,f1.same j this (hvi j hj).1 (hvi j hj).2]
   obtain⟨Rv,hRv,fRv⟩:=FZ.sv hv3 (WV l);have ls3:=g3.slice ls;have sm:Sm ki.1 ki.2:=by obtain⟨x,y,z⟩:=hfew;exact y.sm (by omega)
   simp only[uA,kI,tH,q1,q2,n8,tV,t8,Aj CT,rd8];refine bP_of (PCall.lend (FZs.cons (FZ.same (by simp[noIds,DD,Au,x.h.1])) (FZs.cons fRv FZs.nil)) rfl (jO x.h hRv (by omega))) ?_;have topx:(H2++[some (AObj.cells (DD x.o x.bv))])[H2.length]?=some (some (.cells (DD x.o x.bv))):=CT;have hl3:(H2++[some (AObj.cells (DD x.o x.bv))]).length=H2.length+1:=by simp
   generalize (H2++[some (AObj.cells (DD x.o x.bv))])=H3 at*;simp only[Ag]
   by_cases hst:Jk l x.o
   ·obtain⟨RA,hRA,hpA⟩:=Yq (o:=x.o) (bv:=x.bv) h3.kept sm x.h (by have:=hxb.1;omega) (by have:=hxb.2.1;omega) (by have:=hxb.2.2;omega)
    obtain⟨a',b',rfl,oa,ob⟩:=hRA.agg2;simp only[hst,tH,uT,Aj h3.obj,(kL _ _ _ _ _ _ _ _ _).2,Aj topx,rd8];refine bP_of hpA ?_;obtain⟨h4,f4⟩:=h3.set (s':={s1 with kept:=B9 ki.1 ki.2 x.o}) h3.now hRA rfl;simp only[uT,(st9 h3.obj oa ob).2,AB];rw[FB];unfold Eh;simp only[A0 (a:=k) (b:=1) (by omega) (by omega),Ab];refine hR (m - 1) _ _ _ _ _ _ _ (by omega) ⟨k+1,_,a',b',lv,by omega,rfl,rfl,rfl,rfl,by simp,h4,f3.trans f4,?_,?_,?_,lo,lc,li⟩
    ·rw[← hsy];conv=>rhs;unfold GZ
     rw[if_pos hst]
    ·obtain⟨y,z,w⟩:=hfew
     have e:Rk (x.o::s1.pend.drop (k+1))=wt x.o+Rk (s1.pend.drop (k+1)):=by simp[Rk]
     exact⟨y+wt x.o,z.step x.o,by omega⟩
    ·exact Ae ls3 λj hj=>by
      have:=li j hj
      exact f4.same j (by have:=Ax ls3 j hj;omega) (by omega) (λq=>by have:=PM h1 j q;omega)
   ·have eA:Cg H3 8 1 (AZ [(I 0),(I 0),(I 0),(I 0),(B false),(.lit (.string ⟨#[]⟩)),(.lit (.string ⟨#[]⟩)),Ac] 1) [(0,8,.agg (DD x.o x.bv))]=some (.sl H3.length 0 1 8 (.ex 1),H3++[some (.cells (KX x))]):=by
     simp[Cg,QL,AZ,KX,DD,RU,ox,AK]
    have g4:=Grew.app H3 [some (.cells (KX x))];have x1':Bb (H3++[some (AObj.cells (KX x))]) 8 (.sl H3.length 0 1 8 (.ex 1))=some (KX x,1):=AI (by simp[Aa,KX,DD]);obtain⟨r,H5,a1,a2,a3,a4,a5,a6⟩:=Ek (bytes:=96) (g4.slice ls3) lo x1' (by omega);have a7:=NP (g4.slice ls3) lo x1' lc a1;simp only[hst,uS,Aj topx,rd8,eA,Az,a1];rw[FB];unfold Eh;simp only[A0 (a:=k) (b:=1) (by omega) (by omega),Ab];have h4:=h3.grew g4;have f4:=f3.grew g4;have lt4:∀j,j<H1.length→j∉AR x5:=λj hj q=>by have:=li j q;omega
    have len4:(H3++[some (AObj.cells (KX x))]).length=H3.length+1:=by simp
    have k5:∀j,j<H1.length→H5[j]?=(H3++[some (AObj.cells (KX x))])[j]?:=λj hj=>a5 j (by omega) (lt4 j hj)
    refine hR (m - 1) _ _ _ _ _ _ _ (by omega) ⟨k+1,ki,c',d',lv++[x],by omega,rfl,rfl,rfl,rfl,by simp,?_,?_,?_,?_,?_,a2,by simpa using a7,?_⟩
    ·exact⟨by rw[k5 os hos];exact h4.obj,h4.now,h4.kept,h4.pm,Ae h4.ps λj hj=>k5 j (PM h1 j hj),h4.po,h4.pi,h4.pc⟩
    ·exact⟨by omega,λj hj hne hjp=>by rw[k5 j hj];exact f4.same j hj hne hjp,λ_ q=>.inl q⟩
    ·rw[← hsy];conv=>rhs;unfold GZ
     rw[if_neg hst];simp
    ·obtain⟨y,z,w⟩:=hfew
     have e:Rk (x.o::s1.pend.drop (k+1))=wt x.o+Rk (s1.pend.drop (k+1)):=by simp[Rk]
     exact⟨y,z,by rw[wT];simp only[uL,T5];omega⟩
    ·simpa using a3
    ·intro j hj
     rcases a6 j hj with q | q
     ·exact li j q
     ·omega
  ·have kI:¬(k:Int)<(s1.pend.length:Int):=by omega
   have hdrop:s1.pend.drop k=[]:=vP hge;rw[hdrop]at hsy hfew;unfold GZ at hsy;rw[← hsy];have e7:AS 1 H2 (.ptr os 5) x5=some (H2.set os (some (.cells [I s1.cap,a,b,c',d',x5,I s1.made,I s1.armed,B s1.off]))):=iC h2.obj (by simp) (AJ lo);have hnx:os∉AR x5:=λq=>by have:=li os q;omega
   simp only[B1,uT,Ag,kI,tC,e7,AB];have hl2:=f2.len;refine⟨by trivial,x5,⟨a,b,c',d',lv,⟨Jo h2.lt,h2.now,h2.kept,rfl,Ae ls λj hj=>C3 (λe=>hnx (by rw[e];exact hj)),lo,hnx,lc⟩⟩,?_⟩;refine⟨by rw[vT];omega,λj hj hne hjp=>?_,λj hj=>.inr (by have:=li j hj;omega)⟩;rw[C3 (wD hne),f2.same j (by omega) hne hjp,f1.same j hj hne hjp])
theorem NE {α:Type}{enc:α→List AV}{f:α→AV}(he:∀x,enc x=[f x]){H:AH}{w:AV}{l:List α}{k:Nat}{x:α}(hw:Aa H 1 w=some (l.flatMap enc,l.length))(hx:l[k]?=some x):∃p,Bk 1 w (I k)=some p∧Ar false 1 H p=some (f x):=by
 have hk:=(BE.1 hx).1;obtain⟨p,c,h1,h2,h3,h4⟩:=Jp hw (i:=(k:Int)) rfl hk;have el:∀x,(enc x).length=1:=λx=>by rw[he];rfl
 have hc:c.take 1=[f x]:=by
  rw[h3,CU el hx,vL (by rw[el];exact vB 1),vA (by rw[el];exact vB 1),he]
 refine⟨p,h1,?_⟩;rw[Pv h2 (by omega) h4];cases c with
 | nil=>simp at hc
 | cons y t=>simp at hc;rw[hc];rfl
theorem Wm {H:AH}{v:AV}{cs:List AV}{n l k:Nat}(h:Aa H 1 v=some (cs,n))(hlk:l<k)(hkn:k≤n):
  ∃r,AT 1 v (some (I l)) (some (I k)) (some (I k))=some r∧(∀H,Aa H 1 v=some (cs,n)→Aa H 1 r=some ((cs.drop l).take (k - l),k - l))∧∀i∈AR r,i∈AR v:=by
 have b1:Bt (some (I l)) 0=some l:=by simp[Bt]
 have b2:∀d,Bt (some (I k)) d=some k:=λd=>by simp[Bt]
 have hcl:=BU h;unfold Aa at h;unfold AT;split at h
 ·rename_i c len esz
  split at h
  ·rename_i hb
   obtain⟨rfl,hb⟩:=hb;injection h with h;injection h with h1 h2;subst h1;subst h2;simp only[b1,b2,xH];rw[if_pos ⟨by omega,by omega,by omega,by trivial⟩,if_neg (by omega)];refine⟨_,rfl,λH _=>?_,λi hi=>hi⟩;simp only[Aa,true_and,xI];rw[if_pos (by rw[uZ,vG];omega)]
  ·cases h
 ·rename_i o off len esz cap
  split at h
  ·rename_i c hoc
   split at h
   ·rename_i hb
    obtain⟨rfl,hb⟩:=hb;injection h with h;injection h with h1 h2;subst h2;simp only[tL,b1,b2,xH];rw[if_pos ⟨by omega,by omega,by omega,by trivial⟩];refine⟨_,rfl,λH h2=>?_,λi hi=>hi⟩;unfold Aa at h2;simp only[true_and]at h2;split at h2
    ·rename_i c2 hoc2
     split at h2
     ·rename_i hb2
      injection h2 with h2;injection h2 with h3 h4;rw[A9 hoc2 (by omega),← h3];simp only[xI];rw[xU,wX,wY]
      congr 3
      omega
     ·cases h2
    ·cases h2
   ·cases h
  ·cases h
 all_goals (try (injection h with h;injection h with h1 h2;omega))
 all_goals cases h
noncomputable abbrev cC:Code:=AG f150
noncomputable abbrev chO:Array Oper:=SZ (sub [true,true,true,true,false,true,true,false] cC)
noncomputable abbrev chY : Oper := chO.toList.getD 10 ⟨none, .nilCheck (.tmp 0), 0, "", #[], none⟩
theorem gZ:f150.body=some (.seq (sub [false] cC) (.block 0 (.loop (.seq (.seq (sub [true,true,true,false,false] cC) (.cond (.tmp 9) .skip (.exit 0)))
  (.seq (.block 1 (.seq (sub [true,true,true,true,false,true,false] cC) (.seq (.region 4 chO false) (.cond (.tmp 30) .ret .skip)))) (sub [true,true,true,true,true] cC)))))):=by kernel_rfl
noncomputable abbrev rO (p:List Bool)(T:List AV)(H:AH)(K:Kf):Prop:=AD prog (JB []) Ap Ap Ap (Cn []) (sub p cC) 0 T H K
theorem pN (x0 x1 x2:AV)(H:AH)(Q:Exit→List AV→AH→Prop):rO [false] ([x0,x1,x2]++List.replicate 28 A6) H (λe T H=>fP (mk 31 0 [0,1,2,4]) T λX=>Q e X H)=Q .normal [x0,x1,x2,I 0] H:=by kernel_rfl
theorem pO (x0 x1 x2 x4:AV)(H:AH)(Q:Exit→List AV→AH→Prop):rO [true,true,true,false,false] (AP (mk 31 0 [0,1,2,4]) [x0,x1,x2,x4]) H (λe T H=>fP (mk 31 0 [0,1,2,4,9]) T λX=>Q e X H)=
  bO (Ar false 1 H x1) λv7=>bO (AW v7) λv8=>bO (Ay .lss x4 v8) λv9=>Q .normal [x0,x1,x2,x4,v9] H:=by kernel_rfl
theorem pQ (x0 x1 x2 x4 x9:AV)(H:AH)(Q:Exit→List AV→AH→Prop):rO [true,true,true,true,false,true,false] (AP (mk 31 0 [0,1,2,4,9]) [x0,x1,x2,x4,x9]) H (λe T H=>fP (mk 31 0 [0,1,2,4,5]) T λX=>Q e X H)=
  bO (Ar false 1 H x2) λv13=>bO (Ar false 1 H x1) λv14=>bO (AT 1 v14 (some x4) none none) λv16=>bO (AW v16) λv17=>bO (amm VO [v13,v17]) λv18=>Q .normal [x0,x1,x2,x4,v18] H:=by kernel_rfl
theorem pR (x0 x1 x2 x4 x5:AV)(H:AH)(Q:List AV→AH→Prop):Kr prog Ap Ap false chO (chO.toList.take 10) (AP (mk 31 0 [0,1,2,4,5]) [x0,x1,x2,x4,x5]) H (λT H=>fP (mk 31 0 [0,1,2,4,19,28]) T λX=>Q X H)=
  bO (Ar false 1 H x1) λv20=>bO (Ay .add x4 x5) λv24=>bO (Ay .add x4 x5) λv27=>bO (AT 1 v20 (some x4) (some v24) (some v27)) λv28=>Q [x0,x1,x2,x4,x0,v28] H:=by kernel_rfl
theorem kD (x0 x1 x2 x4 x19 x28 x29:AV)(H:AH)(Q:List AV→AH→Prop):Kr prog Ap Ap false chO (chO.toList.drop 11) (Da (AP (mk 31 0 [0,1,2,4,19,28]) [x0,x1,x2,x4,x19,x28]) (some 29) x29) H (λT H=>fP (mk 31 0 [0,1,2,4,30]) T λX=>Q X H)=
  bO (EX .not x29) λv30=>Q [x0,x1,x2,x4,v30] H:=by kernel_rfl
theorem pP (x0 x1 x2 x4 x30:AV)(H:AH)(Q:Exit→List AV→AH→Prop):rO [true,true,true,true,true] (AP (mk 31 0 [0,1,2,4,30]) [x0,x1,x2,x4,x30]) H (λe T H=>fP (mk 31 0 [0,1,2,4]) T λX=>Q e X H)=
  bO (Ar false 1 H x2) λv11=>bO (Ay .add x4 v11) λv12=>Q .normal [x0,x1,x2,v12] H:=by kernel_rfl
theorem lW:chO.toList=chO.toList.take 10++chY::chO.toList.drop 11:=by kernel_rfl
noncomputable abbrev chA:Array TypeId:=match chY.op with
 | .call c=>c.argTypes
 | _=> #[]
theorem hU:chY.op=.call {callee:=.value (.tmp 19),args:=#[.tmp 28],argTypes:=chA}∧chY.guard=none∧chY.dst=some 29:=⟨by kernel_rfl,by kernel_rfl,by kernel_rfl⟩
theorem Y8:C8 (JB []) Ap Ap (sub [false] cC)=true∧C8 (JB []) Ap Ap (sub [true,true,true,false,false] cC)=true∧C8 (JB []) Ap Ap (sub [true,true,true,true,false,true,false] cC)=true∧C8 (JB []) Ap Ap (sub [true,true,true,true,true] cC)=true:=⟨by kernel_rfl,by kernel_rfl,by kernel_rfl,by kernel_rfl⟩
def kC (s:AV)(len n j:Nat):AV:=(AT 1 s (some (I (j*n:Nat))) (some (I (j*n+min n (len - j*n):Nat))) (some (I (j*n+min n (len - j*n):Nat)))).getD A6
def aL (len n:Nat):Nat:=(len+n - 1)/n
def oF (s:AV)(len n:Nat):List AV:=(List.range (aL len n)).map (kC s len n)
theorem Vh (s:AV)(len n:Nat):(oF s len n).length=aL len n:=by simp[oF]
theorem cD {len n k:Nat}(hn:0<n):k<aL len n↔k*n<len:=by
 unfold aL;rw[show(k<(len+n - 1)/n)=(k+1≤(len+n - 1)/n)from rfl,Nat.le_div_iff_mul_le hn,wG];omega
theorem aY (a d:Nat):Bt (some (I a)) d=some a:=by simp[Bt]
theorem iJ (a b:Nat):VO (a:Int) b=((min a b:Nat):Int):=by unfold VO;split<;>omega
theorem cG {o1 o2:Nat}{s:AV}{cs:List AV}{len n:Nat}(hn:0<n)(hn2:n≤1099511627776)(hlen:len≤1099511627776):UO prog 150 [.ptr o1 0,.ptr o2 0] (λH=>H[o1]?=some (some (.cells [s]))∧H[o2]?=some (some (.cells [I n]))∧Aa H 1 s=some (cs,len)) (oF s len n):=by
 have e31:f150.ntmps=31:=by kernel_rfl
 refine Vw func150 gZ (by kernel_rfl) ?_;intro l G0 rec T p H J X hrd hpd hps hT h0 hcap hr;rw[e31,Vh];generalize hY:(AV.lit (.func (.yield l) #[] #[]))=Y;refine XCode.seqP (fl:=JB []) (ql:=Ap) (al:=Ap) (un:=Ap) (kp:=Cn []) (n:=0) (keep:=mk 31 0 [0,1,2,4]) JJ Y8.1 (λe T T' H he h=>by cases e<;>first | exact absurd rfl he | exact h) ?_;refine Eq.mpr (pN Y (.ptr o1 0) (.ptr o2 0) H _) ?_;refine(?_:XCode _ l G0 (.block 0 _) _ _ _ _);refine XCode.block ?_;refine XCode.loop (λm T H r=>∃k,k+m=aL len n∧r=rec∧T.length=31∧LX (mk 31 0 [0,1,2,4]) T=[Y,.ptr o1 0,.ptr o2 0,I (k*n:Nat)]∧J k H) (aL len n) ⟨0,by omega,rfl,rfl,by simp[mk,LX,AP],h0⟩ ?_;rintro m T H r ⟨k,hk,rfl,hl,hT2,hj⟩;refine XCode.weak (keep:=mk 31 0 [0,1,2,4]) hl ?_;rw[hT2];obtain⟨c1,c2,c3⟩:=hcap k H hj;have hkn:=cD (len:=len) (k:=k) hn;refine XCode.seq ?_;refine XCode.seqP (fl:=JB []) (ql:=Ap) (al:=Ap) (un:=Ap) (kp:=Cn []) (n:=0) (keep:=mk 31 0 [0,1,2,4,9]) JJ Y8.2.1 (λe T T' H he h=>by cases e<;>first | exact absurd rfl he | exact h) ?_;refine Eq.mpr (pO Y (.ptr o1 0) (.ptr o2 0) _ H _) ?_;have al:AW s=some (I (len:Nat)):=B4 c3;simp only[Aj c1,Ah,DG,Ab,al,B1];refine(?_:XCode _ l G0 (.cond (.tmp 9) .skip (.exit 0)) _ _ _ _);refine XCode.cond (b:=decide (((k*n:Nat):Int)<len)) rfl ?_
 by_cases h:k*n<len
 ·have hI:((k*n:Nat):Int)<(len:Int):=by omega
  simp only[hI,tD];refine XCode.skip ?_;refine(?_:XCode _ l G0 (.seq (.block 1 _) _) _ _ _ _);refine XCode.seq (XCode.block ?_);refine XCode.seqN (fl:=JB []) (ql:=Ap) (al:=Ap) (un:=Ap) (kp:=Cn []) (n:=0) (keep:=mk 31 0 [0,1,2,4,5]) JJ Y8.2.2.1 ?_;refine Eq.mpr (pQ Y (.ptr o1 0) (.ptr o2 0) _ _ H _) ?_;obtain⟨r1,s1,s2,-⟩:=EL c3 (lo:=some (I (k*n:Nat))) (hi:=none) (l:=k*n) (k:=len) (aY _ _) rfl (by omega) (vB _);have al1:AW r1=some (I (len - k*n:Nat)):=B4 s2;have hmin:amm VO [I n,I (len - k*n:Nat)]=some (I (min n (len - k*n):Nat)):=by rw[NX,iJ]
  simp only[Aj c2,Aj c1,Ah,DG,Ab,s1,al1,hmin];refine⟨by trivial,?_⟩;refine XCode.seq (XCode.region ?_);refine Eq.mpr (congrArg (λL=>XOps _ l G0 chO _ L _ _ _) lW) ?_;refine XOps.preP (ql:=Ap) (al:=Ap) (keep:=mk 31 0 [0,1,2,4,19,28]) ?_;refine Eq.mpr (pR Y (.ptr o1 0) (.ptr o2 0) _ _ H _) ?_
  have hadd:Ay .add (I (k*n:Nat)) (I (min n (len - k*n):Nat))=some (I (k*n+min n (len - k*n):Nat)):=by
   rw[A0 (by omega) (by omega)];congr 3
  have hlt:k*n<k*n+min n (len - k*n):=by omega
  obtain⟨r2,t1,t2,-⟩:=Wm c3 hlt (show k*n+min n (len - k*n)≤len by omega)
  have hx:(oF s len n)[k]?=some r2:=by
   unfold oF;rw[wA,yE (hkn.2 h)]
   show some (kC s len n k)=some r2
   unfold kC;rw[t1];rfl
  simp only[Aj c1,Ah,DG,Ab,hadd,t1];refine XOps.yield hU.1 hU.2.1 hY.symm hrd hpd hps hT (hr k r2 H hx hj) ?_ ?_
  ·intro H' hj'
   rw[hU.2.2];obtain⟨d1,d2,d3⟩:=hcap (k+1) H' hj';refine Eq.mpr (congrArg (λL=>XOps _ l G0 chO _ L _ _ _) (wI _).symm) ?_;refine XOps.preP (ql:=Ap) (al:=Ap) (keep:=mk 31 0 [0,1,2,4,30]) ?_;refine Eq.mpr (kD Y (.ptr o1 0) (.ptr o2 0) _ _ _ _ H' _) ?_;simp only[Bl,Ab,yG];refine XOps.nil ?_;refine(?_:XCode _ l G0 (.cond (.tmp 30) .ret .skip) _ _ _ _);refine XCode.cond (b:=false) rfl ?_;simp only[At];refine XCode.skip ?_;refine(?_:XCode _ l G0 (sub [true,true,true,true,true] cC) _ _ _ _);refine XCode.of ((DN (fl:=JB []) (ql:=Ap) (al:=Ap) (un:=Ap) (kp:=Cn []) JJ _ 0 _ _ _ Y8.2.2.2 (Eq.mpr (pP Y (.ptr o1 0) (.ptr o2 0) _ _ H' (λe X H2=>e=.normal∧X=[Y,.ptr o1 0,.ptr o2 0,I ((k+1)*n:Nat)]∧H2=H')) ?_)).mono ?_)
   ·have ha:Ay .add (I (k*n:Nat)) (I n)=some (I ((k+1)*n:Nat)):=by
     rw[A0 (by omega) (by omega)];congr 3;rw[wG];omega
    simp only[Aj d2,Ah,DG,Ab,ha];exact⟨by trivial,by trivial,by trivial⟩
   ·intro e T' H2 hk2
    obtain⟨hl2,rfl,hX,rfl⟩:=BF.1 hk2;exact⟨m - 1,by have:=hkn.2 h;omega,k+1,by have:=hkn.2 h;omega,rfl,hl2,hX,hj'⟩
  ·intro c H' hx'
   rw[hU.2.2];refine Eq.mpr (congrArg (λL=>XOps _ l G0 chO _ L _ _ _) (wI _).symm) ?_;refine XOps.preP (ql:=Ap) (al:=Ap) (keep:=mk 31 0 [0,1,2,4,30]) ?_;refine Eq.mpr (kD Y (.ptr o1 0) (.ptr o2 0) _ _ _ _ H' _) ?_;simp only[Bl,Ab,Bool.not_false];refine XOps.nil ?_;refine(?_:XCode _ l G0 (.cond (.tmp 30) .ret .skip) _ _ _ _);refine XCode.cond (b:=true) rfl ?_;simp only[if_true];refine XCode.ret ?_;exact⟨.inr rfl,.inr ⟨c,rfl,hx'⟩⟩
 ·have hI:¬((k*n:Nat):Int)<(len:Int):=by omega
  simp only[hI,DC,At];refine XCode.exit ?_
  have hkN:k=aL len n:=by
   have:=mt hkn.1 h
   omega
  exact⟨.inl rfl,.inl ⟨rfl,by rw[← hkN];exact hj⟩⟩
theorem StAt.keep {s:StS}{os:Nat}{p:AV}{H H':AH}(h:StAt s os p H)(k:∀j,j=os∨j∈AR p→H'[j]?=H[j]?):StAt s os p H':=by
 obtain⟨a,b,c,d,pv,h⟩:=h;exact⟨a,b,c,d,pv,by rw[k os (.inl rfl)];exact h.obj,h.now,h.kept,h.pm,Ae h.ps λi q=>k i (.inr q),h.po,h.pi,h.pc⟩
theorem StAt.os_lt {s:StS}{os:Nat}{p:AV}{H:AH}(h:StAt s os p H):os<H.length:=by obtain⟨a,b,c,d,pv,h⟩:=h;exact h.lt
theorem StAt.p_lt {s:StS}{os:Nat}{p:AV}{H:AH}(h:StAt s os p H):∀j∈AR p,j<H.length:=by obtain⟨a,b,c,d,pv,h⟩:=h;exact PM h
theorem fY {H:AH}{v:AV}{cs:List AV}{m:Nat}(hv:Aa H 1 v=some (cs,m))(ho:oneA v=true):BCall prog 79 [v,I 4096] H (.fn (.func 150) [] [.ptr H.length 0,.ptr (H.length+1) 0]) (H++[some (.cells [v]),some (.cells [I 4096])]):=by
 obtain⟨r,H',⟨rfl,rfl⟩,hc⟩:=Is (a0:=v) (a1:=I 4096) (H:=H) (K:=λr H'=>r=.fn (.func 150) [] [.ptr H.length 0,.ptr (H.length+1) 0]∧H'=H++[some (.cells [v]),some (.cells [I 4096])]) (by
  unfold F8;have e1:A5 H v=some (.ptr H.length 0,H++[some (.cells [v])]):=by unfold A5;rw[AL ho];rfl
  have e2:A5 (H++[some (.cells [v])]) (I 4096)=some (.ptr (H.length+1) 0,H++[some (.cells [v]),some (.cells [I 4096])]):=by unfold A5;rw[AL (v:=I 4096) rfl];simp
  have c2:(H++[some (AObj.cells [v]),some (.cells [I 4096])])[H.length+1]?=some (some (.cells [I 4096])):=by simp
  simp only[e1,Az,e2,Aj c2,Ah,DG,uA,show ¬(4096:Int)<1 by omega,tC];exact⟨by trivial,by trivial⟩)
 exact hc
def BZ (b:List UInt8):List (List UInt8):=(List.range (aL b.length 4096)).map λj=>(b.drop (j*4096)).take (min 4096 (b.length - j*4096))
def pcs (ino:Int):List (List UInt8)→StS→Int→Int→(StS×Int×Int)×Int
 | [],s,at',sum=>((s,at',sum),0)
 | b::r,s,at',sum=>
  if(Cb s ino at' b).1.2=0 then pcs ino r (Cb s ino at' b).2 (at'+(Cb s ino at' b).1.1) (sum+(Cb s ino at' b).1.1)
  else(((Cb s ino at' b).2,at'+(Cb s ino at' b).1.1,sum+(Cb s ino at' b).1.1),(Cb s ino at' b).1.2)
def I1 (l:List (List UInt8)):Nat:=(l.map List.length).sum
theorem kN {c:List Ext}{ino pos:Int}{b:List UInt8}:∀{l:List Sp} {s:StS},(∀q∈l,pos≤q.pos∧0<q.len∧q.len≤8∧q.pos+q.len≤pos+b.length)→0≤(TW c ino pos b l s).1.1∧(TW c ino pos b l s).1.1≤b.length
 | [],s,_=>by unfold TW;simp only;omega
 | q::r,s,hq=>by
  have h1:=hq q (by simp);unfold TW
  split
  ·simp only;omega
  ·split
   ·simp only;omega
   ·exact kN λx hx=>hq x (by simp[hx])
theorem Xx (s:StS)(ino pos:Int)(b:List UInt8):0≤(Cb s ino pos b).1.1∧(Cb s ino pos b).1.1≤b.length:=by
 unfold Cb
 split
 ·simp only;omega
 ·split
  ·simp only;omega
  ·rename_i hf
   have hf:=wC hf;exact kN λq hq=>Tc hf hq
abbrev mL:List Bool:=[true,true,false,true,false,false,true,true,false,false,true,true,false]
def NF (b:List UInt8)(j:Nat):List UInt8:=(b.drop (j*4096)).take (min 4096 (b.length - j*4096))
theorem XG {b:List UInt8}{i:Nat}(h:i<aL b.length 4096):(BZ b)[i]?=some (NF b i):=by
 unfold BZ;rw[wA,yE h];rfl
theorem XH (b:List UInt8):(BZ b).length=aL b.length 4096:=by simp[BZ]
theorem lV {H:AH}{v:AV}{b:List UInt8}{j:Nat}(hv:Aa H 1 v=some (Bc b,b.length))(hj:j*4096<b.length):
  Aa H 1 (kC v b.length 4096 j)=some (Bc (NF b j),(NF b j).length)∧∀i∈AR (kC v b.length 4096 j),i∈AR v:=by
 obtain⟨r,h1,h2,h3⟩:=Wm hv (l:=j*4096) (k:=j*4096+min 4096 (b.length - j*4096)) (by omega) (by omega);have e:kC v b.length 4096 j=r:=by unfold kC;rw[h1];rfl
 rw[e];refine⟨?_,h3⟩;rw[h2 H hv];unfold NF;rw[yF,uZ,vG];simp only[Bc,yZ,zQ]
 congr 2
 omega
structure Bd (NN:Nat)(rest:List (List UInt8))(s:StS)(at' sum:Int):Prop where
 w:∃M,SW M s∧M+9*I1 rest≤NN
 a:0≤at'∧at'+I1 rest≤9223372036854775807
 s:0≤sum∧sum+I1 rest≤9223372036854775807
theorem Mq (b:List UInt8)(r:List (List UInt8)):I1 (b::r)=b.length+I1 r:=by simp[I1]
theorem eH {ino:Int}:∀{l:List (List UInt8)} {N:Nat} {s:StS} {a m:Int},SW N s→SW (N+9*I1 l) (pcs ino l s a m).1.1
 | [],N,s,a,m,h=>h
 | b::r,N,s,a,m,h=>by
  have h1:=Tz h ino a b;rw[Mq];unfold pcs
  split
  ·exact(eH h1).mono (by omega)
  ·exact h1.mono (by omega)
def I2 (nm:List UInt8)(size:Int)(l:List Ext):Yr:=([⟨nm,1⟩],[⟨1,size,l⟩])
theorem Yd {nm:List UInt8}{size:Int}{l:List Ext}(hn:FX nm)(h:E4 size l):MayW (I2 nm size l).1 (I2 nm size l).2:=by
 refine⟨by simp[I2],?_,by simp[I2,BX],by simp[I2],by simp[I2,BX],by simpa[I2]using h,by simp[I2,AO]⟩;intro x hx;simp only[I2,xA]at hx;subst hx;exact⟨hn,by simp only;omega,by simp only;omega⟩
theorem Yc {nm:List UInt8}{size:Int}{l:List Ext}{o:OpM}{c:FM}(hn:FX nm)(h:E4 size l)(hk:o.kind=2)(hi:o.ino=1)(hc:Nx o ⟨1,size,l⟩=some c):B9 (I2 nm size l).1 (I2 nm size l).2 o=I2 nm c.1 c.2:=by
 unfold B9;rw[if_pos (Kn.2 (Yd hn h)),if_neg (by omega),if_pos (by omega)];have e1:Y3 Nd.ino (I2 nm size l).2 o.ino=some ⟨1,size,l⟩:=by rw[hi];rfl
 have e2:CZ Ca Nd.ino (I2 nm size l).2 o.ino=0:=by rw[hi];rfl
 unfold P5;rw[e1];simp only[hc,e2];rfl
structure ON (nm:List UInt8)(cap:Int)(size:Int)(l:List Ext)(s:StS):Prop where
 now:s.now=I2 nm size l
 nm:FX nm
 mc:E4 size l
 cap:s.cap=cap
 off:s.off=false
 armed:s.armed= -1
theorem ON.content {nm:List UInt8}{cap size:Int}{l:List Ext}{s:StS}(h:ON nm cap size l s):AA s 1=((size,l),0):=by
 have hg:S6 s.now.1 s.now.2 1:=by
  rw[h.now];exact⟨Kn.2 (Yd h.nm h.mc),by simp[I2,AO]⟩
 unfold AA;rw[if_neg (by rw[h.off];simp),if_pos hg]
 have:GN s.now.1 s.now.2 1=⟨1,size,l⟩:=by
  unfold GN;rw[if_pos hg,h.now];rfl
 rw[this]
theorem ON.free {nm:List UInt8}{cap size:Int}{l:List Ext}{s:StS}(h:ON nm cap size l s)(hl:(l.length:Int)<cap):O4 s≠0:=by
 unfold O4;rw[h.cap,h.now];have:JX (I2 nm size l).2=l.length:=by simp[JX,I2]
 rw[this];omega
theorem ON.do {nm:List UInt8}{cap size:Int}{l:List Ext}{s:StS}(h:ON nm cap size l s){p:Int}{bs:List UInt8}(hb:bs≠[])(hp:0≤p)(hlen:bs.length≤4096)(hf:p≤1099511627776 - bs.length):
  (Lf s (I3 1 p bs)).1=0∧ON nm cap (max size (p+bs.length)) (BO l p bs) (Lf s (I3 1 p bs)).2:=by
 have hw:F4 (size,l) p bs=some (max size (p+bs.length),BO l p bs):=by
  unfold F4;rw[if_pos ⟨h.mc,hp,hlen,hf⟩,if_neg hb]
 have hd:AU s=(true,s):=by
  unfold AU;rw[if_neg (by rw[h.off,h.armed];simp),if_neg (by rw[h.armed];omega)]
 unfold Lf;rw[hd];refine⟨rfl,?_,h.nm,U0 hw,h.cap,h.off,h.armed⟩
 show B9 s.now.1 s.now.2 (I3 1 p bs)=_
 rw[h.now];refine Yc (o:=I3 1 p bs) (c:=(max size (p+bs.length),BO l p bs)) h.nm h.mc rfl rfl ?_
 show(if(2:Int)=2 then F4 (size,l) p bs else _)=_
 rw[if_pos rfl,hw]
theorem Vi {b:List UInt8}(h:b.length≤4096):BZ b=if b=[]then []else [b]:=by
 unfold BZ aL
 by_cases hb:b=[]
 ·subst hb;rfl
 ·have:0<b.length:=List.length_pos_iff.2 hb
  rw[if_neg hb,show(b.length+4096 - 1)/4096=1 by omega];simp;rw[vA (by omega)]
theorem Oj:∀{bl:List (AV×List UInt8)},(∀x∈bl,x.2.length≤4096)→(bl.flatMap λx=>BZ x.2).flatten=(bl.map Prod.snd).flatten∧(∀b∈bl.flatMap λx=>BZ x.2,b.length≤4096)∧I1 (bl.flatMap λx=>BZ x.2)=((bl.map Prod.snd).flatten).length
 | [],_=>by simp[I1]
 | x::r,h=>by
  obtain⟨i1,i2,i3⟩:=Oj (bl:=r) λy hy=>h y (by simp[hy])
  have hx:=h x (by simp);have ec:=Vi hx;simp only[vW,xS,yX,List.flatten_append,vE];refine⟨?_,?_,?_⟩
  ·rw[i1,ec];split
   ·rename_i e;rw[e];rfl
   ·simp
  ·intro b hb
   rw[wL]at hb;rcases hb with hb | hb
   ·rw[ec]at hb
    split at hb
    ·simp at hb
    ·simp at hb;rw[hb];exact hx
   ·exact i2 b hb
  ·have:I1 (BZ x.2)=x.2.length:=by
    rw[ec];split
    ·rename_i e;rw[e];rfl
    ·simp[I1]
   rw[← i3,← this];simp[I1]
theorem dT {α:Type}[DecidableEq α]:∀{a b:List α},a.Nodup→(∀x∈a,x∈b)→a.length≤b.length
 | [],_,_,_=>by simp
 | x::a,b,hn,hs=>by
  rw[xL]at hn;have h1:=dT (a:=a) (b:=b.erase x) hn.2 λy hy=>(zF (λe=>hn.1 (by rw[← e];exact hy))).2 (hs y (by simp[hy]))
  rw[List.length_erase_of_mem (hs x (by simp))]at h1
  have:=List.length_pos_of_mem (hs x (by simp))
  simp only[vR];omega
theorem eU {l:List Ext}{cap:Nat}{q:Int}(hs:srt l)(hl:∀no,BT l no→0≤no∧no<cap)(hq:¬BT l q)(h0:0≤q)(h1:q<cap):l.length+1≤cap:=by
 have hn:(q::l.map Ext.no).Nodup:=by
  rw[xL];refine⟨λhm=>?_,?_⟩
  ·obtain⟨x,hx,e⟩:=vV.1 hm
   exact hq ⟨x,hx,e⟩
  ·unfold List.Nodup
   rw[xR];exact List.Pairwise.imp (λh e=>by rw[e]at h;omega) hs
 have:=dT (b:=(List.range cap).map fun (i:Nat)=>(i:Int)) hn (by
  intro x hx
  have hb:0≤x∧x<cap:=by
   rcases vX.1 hx with rfl | hx
   ·exact⟨h0,h1⟩
   ·obtain⟨y,hy,rfl⟩:=vV.1 hx
    exact hl y.no ⟨y,hy,rfl⟩
  exact vV.2 ⟨x.toNat,xT.2 (by omega),by omega⟩)
 simp only[vR,wB,List.length_range]at this;exact this
theorem ON.cutsR {nm:List UInt8}{cap:Nat}{c:List Ext}{pos:Int}{b:List UInt8}(hpos:0≤pos)(hbl:b.length≤4096)(hf:pos+b.length≤8*cap)(hcap:cap≤100000):∀(f k:Nat) {size:Int} {l:List Ext} {s:StS},k≤b.length→b.length - k≤f→ON nm cap size l s→(∀no,BT l no→no<cap)→(k<b.length→∀no,BT l no→BT c no∨no<(pos+k)/8)→(k<b.length→0<k→(pos+k) % 8=0)→
  ∃s',TW c 1 pos b (Dq f (pos+k) (b.length - k:Nat) 8) s=(((b.length:Int),0),s')∧∃size' l',ON nm cap size' l' s'∧l'=BO l (pos+k) (b.drop k)∧size'=(if b.length - k=0 then size else max size (pos+b.length))
 | 0,k,size,l,s,hk,hfk,h,hc,hcl,hm=>by
  have e:b.drop k=[]:=vP (by omega);refine⟨s,by simp[Dq,TW],size,l,h,by rw[e];rfl,by rw[if_pos (by omega)]⟩
 | f+1,k,size,l,s,hk,hfk,h,hc,hcl,hm=>by
  by_cases h0:b.length - k=0
  ·have e:b.drop k=[]:=vP (by omega)
   refine⟨s,?_,size,l,h,by rw[e];rfl,by rw[if_pos h0]⟩;unfold Dq;rw[if_neg (by omega)];unfold TW;rfl
  ·have m1:=yJ (pos+k) (show(0:Int)<8 by omega)
   have m2:=yQ (pos+k) (show(8:Int)≠0 by omega);obtain⟨n,hn⟩:∃n:Nat,min ((b.length - k:Nat):Int) (8 - (pos+k) % 8)=n:=⟨(min ((b.length - k:Nat):Int) (8 - (pos+k) % 8)).toNat,by omega⟩;have n1:0<n∧n≤8∧n≤b.length - k:=by omega
   unfold Dq;rw[if_pos (by omega),hn]
   have hpb:EE b pos ⟨pos+k,n⟩=(b.drop k).take n:=by
    unfold EE;simp only;rw[show(pos+k - pos).toNat=k by omega,show((n:Int)).toNat=n by omega]
   have hbs:((b.drop k).take n).length=n:=by rw[uZ,vG];omega
   have hne:(b.drop k).take n≠[]:=by intro q;rw[q]at hbs;simp at hbs;omega
   obtain⟨d1,d2⟩:=h.do hne (p:=pos+k) (by omega) (by omega) (by omega);have hm2:=Ko.1 h.mc
   have hgo:¬(¬BT c ((pos+k)/8)∧O4 s=0):=by
    rintro⟨q1,q2⟩;have hql:¬BT l ((pos+k)/8):=λq=>(hcl (by omega) _ q).elim q1 (λq=>by omega)
    have:=eU (cap:=cap) hm2.2.2.1 (λno q=>⟨(hm2.2.2.2.1 no q).1,hc no q⟩) hql (by omega) (by omega)
    exact h.free (by omega) q2
   unfold TW;rw[if_neg hgo,hpb];simp only;rw[if_neg (by rw[d1];simp)];rw[hbs]at d2
   obtain⟨s',w1,size',l',w2,w3,w4⟩:=ON.cutsR (c:=c) hpos hbl hf hcap f (k+n) (by omega) (by omega) d2 (λno q=>by
    rcases Qd.1 q with q | ⟨z,z1,z2,z3⟩
    ·exact hc no q
    ·rw[hbs]at z2;omega) (λhlt no q=>by
    rcases Qd.1 q with q | ⟨z,z1,z2,z3⟩
    ·rcases hcl (by omega) no q with q | q
     ·exact .inl q
     ·exact .inr (by omega)
    ·rw[hbs]at z2
     exact .inr (by omega)) (by omega)
   refine⟨s',?_,size',l',w2,?_,?_⟩
   ·rw[show pos+(k:Int)+n=pos+(k+n:Nat) by omega,show((b.length - k:Nat):Int) - n=(b.length - (k+n):Nat) by omega]
    exact w1
   ·rw[w3]
    conv=>rhs;rw[← wZ n (b.drop k)]
    rw[Yo,hbs,wX]
    congr 1
    omega
   ·rw[w4,if_neg h0]
    split<;>omega
theorem ON.writeR {nm:List UInt8}{cap:Nat}{size pos:Int}{l:List Ext}{s:StS}{b:List UInt8}(h:ON nm cap size l s)(hpos:0≤pos)(hbl:b.length≤4096)(hf:pos+b.length≤8*cap)(hcap:cap≤100000)(hc:∀no,BT l no→no<cap):
  ∃s',Cb s 1 pos b=(((b.length:Int),0),s')∧∃size' l',ON nm cap size' l' s'∧l'=BO l pos b∧size'=(if b.length=0 then size else max size (pos+b.length)):=by
 unfold Cb;rw[h.content,if_neg (by simp),if_neg (λq=>q ⟨hpos,hbl,by omega⟩)]
 have e:ET ⟨pos,b.length⟩ 8=Dq (b.length) pos b.length 8:=by
  unfold ET;rw[if_pos ⟨⟨by unfold May;simp only;omega,by unfold May;simp only;omega,by simp only;omega⟩,by simp only;omega,by omega⟩]
  show Dq ((b.length:Int)).toNat pos b.length 8=_
  rw[show((b.length:Int)).toNat=b.length by omega]
 rw[e]
 have:=ON.cutsR (c:=l) hpos hbl hf hcap b.length 0 (by omega) (by omega) h hc (λ_ no q=>.inl q) (λ_ q=>by omega)
 simpa using this
structure Txr (nm:List UInt8)(cap:Nat)(t:List UInt8)(s:StS):Prop where
 h:∃l,ON nm cap t.length l s∧(∀q:Nat,q<t.length→Nw l q=t.getD q 0)∧∀no,BT l no→no*8<t.length
theorem Txr.write {nm:List UInt8}{cap:Nat}{t b:List UInt8}{s:StS}(h:Txr nm cap t s)(hbl:b.length≤4096)(hcap:cap≤100000)(hc:t.length+b.length≤8*cap):
  ∃s',Cb s 1 t.length b=(((b.length:Int),0),s')∧Txr nm cap (t++b) s':=by
 obtain⟨l,h1,h2,h3⟩:=h.h;obtain⟨s',w1,size',l',w2,w3,w4⟩:=h1.writeR (pos:=t.length) (b:=b) (by omega) hbl (by omega) hcap (λno q=>by have:=h3 no q;omega);refine⟨s',w1,⟨l',?_,λq hq=>?_,λno q=>?_⟩⟩
 ·have:size'=((t++b).length:Nat):=by
   rw[w4,vE];split<;>omega
  rw[← this];exact w2
 ·rw[vE]at hq
  rw[w3,Zh (Ko.1 h1.mc).2.2.1]
  by_cases c:q<t.length
  ·rw[if_neg (by omega),h2 q c,vM,vM,uY c]
  ·rw[if_pos (by omega),vM,vM,vC (by omega),show((q:Int) - t.length).toNat=q - t.length by omega]
 ·rw[vE]
  rw[w3]at q;rcases Qd.1 q with q | ⟨z,z1,z2,z3⟩
  ·have:=h3 no q;omega
  ·omega
theorem Txr.pcs {nm:List UInt8}{cap:Nat}(hcap:cap≤100000):∀{l:List (List UInt8)} {t:List UInt8} {s:StS} {m:Int},Txr nm cap t s→(∀b∈l,b.length≤4096)→t.length+I1 l≤8*cap→
  ∃s',Av.pcs 1 l s t.length m=((s',(((t++l.flatten).length:Nat):Int),m+I1 l),(0:Int))∧Txr nm cap (t++l.flatten) s'
 | [],t,s,m,h,_,_=>⟨s,by simp[Av.pcs,I1],by simpa using h⟩
 | b::r,t,s,m,h,hb,hc=>by
  rw[Mq]at hc;obtain⟨s1,w1,w2⟩:=h.write (hb b (by simp)) hcap (by omega);obtain⟨s2,p1,p2⟩:=Txr.pcs hcap (l:=r) (m:=m+b.length) w2 (λx hx=>hb x (by simp[hx])) (by rw[vE];omega);refine⟨s2,?_,by simpa using p2⟩;unfold Av.pcs;rw[w1];simp only[if_true];rw[show(t.length:Int)+b.length=((t++b).length:Nat) by rw[vE];omega,p1,Mq];simp only[vK,yX,wJ,and_true,true_and];omega
structure KP (s:StS):Prop where
 f:s.pend.foldl (λp o=>B9 p.1 p.2 o) s.kept=s.now
 st:∀o∈s.pend,Jk [1] o
theorem KP.deed {s:StS}(h:KP s):KP (AU s).2:=by
 obtain⟨e1,e2,e3,-,-⟩:=Fv s;exact⟨by rw[e1,e2,e3];exact h.f,by rw[e3];exact h.st⟩
theorem KP.do {s:StS}(h:KP s){o:OpM}(ho:Jk [1] o):KP (Lf s o).2:=by
 obtain⟨e1,e2,e3,-,-⟩:=Fv s;unfold Lf
 split
 ·refine⟨?_,λx hx=>?_⟩
  ·show(s.pend++[o]).foldl (λp o=>B9 p.1 p.2 o) (AU s).2.kept=B9 s.now.1 s.now.2 o
   rw[e2,List.foldl_append,h.f];rfl
  ·have hx:x∈s.pend++[o]:=hx
   simp only[tG]at hx;rcases hx with hx | rfl
   ·exact h.st x hx
   ·exact ho
 ·exact h.deed
theorem UI {o:OpM}(h:o.ino=1):Jk [1] o:=.inr (.inr (.inr (by simp[h])))
theorem fQ {c:List Ext}{pos:Int}{b:List UInt8}:∀{l:List Sp} {s:StS},KP s→KP (TW c 1 pos b l s).2
 | [],s,h=>h
 | q::r,s,h=>by
  have hd:=h.do (o:=I3 1 q.pos (EE b pos q)) (UI rfl);unfold TW
  split
  ·exact h
  ·split
   ·exact hd
   ·exact fQ hd
theorem aJ {s:StS}(h:KP s)(pos:Int)(b:List UInt8):KP (Cb s 1 pos b).2:=by
 unfold Cb
 split
 ·exact h
 ·split
  ·exact h
  ·exact fQ h
theorem eG:∀{l:List (List UInt8)} {s:StS} {a m:Int},KP s→KP (Av.pcs 1 l s a m).1.1
 | [],s,a,m,h=>h
 | b::r,s,a,m,h=>by
  have h1:=aJ h a b;unfold Av.pcs
  split
  ·exact eG h1
  ·exact h1
theorem aF {s:StS}(h:KP s)(size:Int):KP (D6 s 1 size).2:=by
 unfold D6
 split
 ·exact h
 ·split
  ·exact h
  ·exact h.do (UI rfl)
theorem UL {l:List Int}:∀{r:List OpM} {x:Yr×List OpM},(∀o∈r,Jk l o)→GZ l r x=(r.foldl (λp o=>B9 p.1 p.2 o) x.1,x.2)
 | [],x,_=>rfl
 | o::r,x,h=>by
  unfold GZ;rw[if_pos (h o (by simp)),UL λz hz=>h z (by simp[hz])];rfl
theorem KP.sync {s:StS}(h:KP s)(ho:s.off=false)(ha:s.armed= -1):QI s [1]=(0,{s with kept:=s.now,pend:=[]}):=by
 have hd:AU s=(true,s):=by
  unfold AU;rw[if_neg (by rw[ho,ha];simp),if_neg (by rw[ha];omega)]
 unfold QI;rw[hd,UL h.st];simp only[if_true,h.f]
def V9 (s:StS)(nm:List UInt8)(l:List (List UInt8)):Int×StS:=
 if(AY s nm true).1.2≠0 then((AY s nm true).1.2,(AY s nm true).2)
 else if(D6 (AY s nm true).2 (AY s nm true).1.1 0).1≠0 then D6 (AY s nm true).2 (AY s nm true).1.1 0
 else if(Av.pcs (AY s nm true).1.1 l (D6 (AY s nm true).2 (AY s nm true).1.1 0).2 0 0).2≠0 then((Av.pcs (AY s nm true).1.1 l (D6 (AY s nm true).2 (AY s nm true).1.1 0).2 0 0).2,(Av.pcs (AY s nm true).1.1 l (D6 (AY s nm true).2 (AY s nm true).1.1 0).2 0 0).1.1)
 else QI (Av.pcs (AY s nm true).1.1 l (D6 (AY s nm true).2 (AY s nm true).1.1 0).2 0 0).1.1 [(AY s nm true).1.1]
theorem Txr.trunc {nm:List UInt8}{cap:Nat}{t:List UInt8}{s:StS}(h:Txr nm cap t s):∃s',D6 s 1 0=(0,s')∧Txr nm cap [] s':=by
 obtain⟨l,h1,h2,h3⟩:=h.h;have hm:=Ko.1 h1.mc
 have ht:Di ((t.length:Int),l) 0=some (0,[]):=by
  unfold Di;rw[if_pos ⟨h1.mc,by omega,by omega⟩]
  have:l.filter (λx=>decide (x.no*8<(0:Int)))=[]:=by
   rw[List.filter_eq_nil_iff];intro x hx
   have:=(hm.2.2.2.1 x.no ⟨x,hx,rfl⟩).1
   simp only[decide_eq_true_eq];omega
  simp only[Ix,this,Nr,List.map_nil]
 have hd:AU s=(true,s):=by
  unfold AU;rw[if_neg (by rw[h1.off,h1.armed];simp),if_neg (by rw[h1.armed];omega)]
 have hap:B9 s.now.1 s.now.2 (PV 1 0)=I2 nm 0 []:=by
  rw[h1.now];unfold B9;rw[if_pos (Kn.2 (Yd h1.nm h1.mc)),if_neg (by simp[PV]),if_pos (by simp[PV])];have e1:Y3 Nd.ino (I2 nm t.length l).2 (PV 1 0).ino=some ⟨1,t.length,l⟩:=rfl;have e2:CZ Ca Nd.ino (I2 nm t.length l).2 (PV 1 0).ino=0:=rfl
  have e3:Nx (PV 1 0) ⟨1,(t.length:Int),l⟩=some (0,[]):=by
   show(if(3:Int)=2 then _ else if(3:Int)=3 then Di ((t.length:Int),l) 0 else _)=_
   rw[if_neg (by omega),if_pos rfl,ht]
  unfold P5;rw[e1];simp only[e3,e2];rfl
 unfold D6;rw[h1.content,if_neg (by simp),if_neg (by rw[ht];simp)];unfold Lf;rw[hd];refine⟨_,rfl,⟨[],⟨hap,h1.nm,by decide,h1.cap,h1.off,h1.armed⟩,by simp,by simp[BT]⟩⟩
structure Done (s:StS):Prop where
 k:s.kept=s.now
 p:s.pend=[]
theorem eO {nm:List UInt8}{cap:Nat}{t:List UInt8}{s:StS}{l:List (List UInt8)}(h1:(AY s nm true).1=(1,0))(h2:Txr nm cap t (AY s nm true).2)(h3:KP (AY s nm true).2)(hcap:cap≤100000)(hb:∀b∈l,b.length≤4096)(hl:I1 l≤8*cap):
  ∃s',V9 s nm l=(0,s')∧Txr nm cap l.flatten s'∧Done s':=by
 obtain⟨s1,t1,t2⟩:=h2.trunc;have k1:=aF h3 0;rw[t1]at k1;obtain⟨s2,p1,p2⟩:=Txr.pcs hcap (l:=l) (m:=0) t2 hb (by simpa using hl);have k2:=eG (l:=l) (a:=0) (m:=0) k1;have p1':Av.pcs 1 l s1 0 0=_:=p1;rw[p1']at k2;rw[wP]at p2;obtain⟨ll,q1,q2,q3⟩:=p2.h;have hs:=k2.sync q1.off q1.armed;unfold V9;rw[h1];simp only[tL,t1,p1'];refine⟨_,hs,⟨ll,⟨q1.now,q1.nm,q1.mc,q1.cap,q1.off,q1.armed⟩,q2,q3⟩,rfl,rfl⟩
structure LwS (os b0:Nat)(ino:Int)(s:StS)(at':Int)(p:AV)(H:AH):Prop where
 st:StAt s os p H
 bx:H[b0]?=some (some (.cells [.ptr os 0]))
 bi:H[b0+1]?=some (some (.cells [I ino]))
 br:∃a,H[b0+2]?=some (some (.cells [a]))
 ba:H[b0+3]?=some (some (.cells [I at']))
 no:os<b0
 nb:∀j,b0≤j→j≤b0+3→j∉AR p
structure LwF (os b0:Nat)(p p':AV)(H H':AH):Prop where
 len:H.length≤H'.length
 same:∀j,j<H.length→j≠os→(j<b0+2∨b0+3<j)→j∉AR p→H'[j]?=H[j]?
 ids:∀j∈AR p',j∈AR p∨H.length≤j
theorem LwF.refl (os b0:Nat)(p:AV)(H:AH):LwF os b0 p p H H:=⟨vB _,λ_ _ _ _ _=>rfl,λ_ h=>.inl h⟩
theorem LwF.trans {os b0:Nat}{p p' p'':AV}{A B C:AH}(h:LwF os b0 p p' A B)(k:LwF os b0 p' p'' B C):LwF os b0 p p'' A C:=
  ⟨vO h.len k.len,λj hj h1 h3 hp=>by
    rw[k.same j (vY hj h.len) h1 h3 (λhp'=>(h.ids j hp').elim hp (λq=>by omega)),h.same j hj h1 h3 hp],
   λj hj=>(k.ids j hj).elim (h.ids j) (λq=>.inr (vO h.len q))⟩
theorem LwF.of_grew {os b0:Nat}{p:AV}{H H':AH}(g:Grew H H'):LwF os b0 p p H H':=⟨g.1,λj hj _ _ _=>g.2 j hj,λ_ h=>.inl h⟩
theorem LwS.grew {os b0:Nat}{ino:Int}{s:StS}{at':Int}{p:AV}{H H':AH}(h:LwS os b0 ino s at' p H)(g:Grew H H'):LwS os b0 ino s at' p H':=by
 obtain⟨a,ha⟩:=h.br;exact⟨h.st.grew g,g.cells h.bx,g.cells h.bi,⟨a,g.cells ha⟩,g.cells h.ba,h.no,h.nb⟩
theorem dN {os b0:Nat}{ino:Int}{s:StS}{at':Int}{p w:AV}{H:AH}{N:Nat}{b:List UInt8}{K0:AV→AH→Prop}{J X:AH→Prop}(h:LwS os b0 ino s at' p H)(hw:SW N s)(hN:N+9*b.length<900000)
  (hv:Aa H 1 w=some (Bc b,b.length)) (hvi:∀j∈AR w,j≠os∧j∉AR p) (ha:0≤at'∧at'+b.length≤9223372036854775807)
  (hj:(Cb s ino at' b).1.2=0→∀p' H',LwS os b0 ino (Cb s ino at' b).2 (at'+(Cb s ino at' b).1.1) p' H'→LwF os b0 p p' H H'→J H')
  (hx:(Cb s ino at' b).1.2≠0→∀p' H',StAt (Cb s ino at' b).2 os p' H'→LwF os b0 p p' H H'→H'[b0+2]?=some (some (.cells [I (Cb s ino at' b).1.2]))→X H'):
  En (λe H'=>match e with | .normal=>J H' | .ret=>X H' | _=>False) (.ptr b0 0) (.ptr (b0+1) 0) (.ptr (b0+2) 0) (.ptr (b0+3) 0) w H K0:=by
 unfold En;obtain⟨n1,n2⟩:=Xx s ino at' b;obtain⟨r,H1,⟨rfl,p',h1,f1⟩,hc⟩:=Yt h.st hw ino at' hN hv hvi;generalize Cb s ino at' b=W at*;have d4:=h.no;have hl3:b0+3<H.length:=(BE.1 h.ba).1;have np:∀j,j<H.length→j∉AR p→j∉AR p':=λj hj hp q=>(f1.ids j q).elim hp (λq=>by omega)
 have keep:∀j,b0≤j→j≤b0+3→H1[j]?=H[j]?:=λj hj1 hj2=>f1.same j (by omega) (by omega) (h.nb j hj1 hj2)
 have kx:H1[b0]?=_:=(keep b0 (by omega) (by omega)).trans h.bx;have ki:H1[b0+1]?=_:=(keep _ (by omega) (by omega)).trans h.bi;have ka:H1[b0+3]?=_:=(keep _ (by omega) (by omega)).trans h.ba;obtain⟨a2,q2⟩:=h.br;have kr:H1[b0+2]?=_:=(keep _ (by omega) (by omega)).trans q2;simp only[Aj h.bx,Aj h.bi,Aj h.ba,Ah,DG,Ab];refine bC_of hc ?_;have hlen:=f1.len;have hid:∀j∈AR p',j<H1.length:=h1.p_lt;simp only[tX,uM]
 have nob:∀j,j=os∨j∈AR p'→j≠b0+2∧j≠b0+3:=by
  intro j hj;rcases hj with rfl | hj
  ·omega
  ·exact⟨λe=>np (b0+2) (by omega) (h.nb _ (by omega) (by omega)) (by rw[← e];exact hj),λe=>np (b0+3) (by omega) (h.nb _ (by omega) (by omega)) (by rw[← e];exact hj)⟩
 by_cases he:W.1.2=0
 ·have e1:Ay .add (I at') (I W.1.1)=some (I (at'+W.1.1)):=A0 (by omega) (by omega)
  have e2:AS 1 H1 (.ptr (b0+3) 0) (I (at'+W.1.1))=some (H1.set (b0+3) (some (.cells [I (at'+W.1.1)]))):=iC ka (by simp) rfl;simp only[he,sU,uS,Aj ka,Ah,DG,e1,e2,AB];generalize hH2:H1.set (b0+3) (some (AObj.cells [I (at'+W.1.1)]))=H2;have g2:∀j,j≠b0+3→H2[j]?=H1[j]?:=λj hj=>by rw[← hH2];exact C3 (wD hj)
  have ga:H2[b0+3]?=some (some (.cells [I (at'+W.1.1)])):=by rw[← hH2];exact Jo (by omega)
  have l2:H2.length=H1.length:=by rw[← hH2,vT]
  exact hj he p' H2 ⟨h1.keep λj hj=>g2 j (nob j hj).2,by rw[g2 _ (by omega)];exact kx,by rw[g2 _ (by omega)];exact ki,⟨a2,by rw[g2 _ (by omega)];exact kr⟩,ga,d4,λj hj1 hj2=>np j (by omega) (h.nb j hj1 hj2)⟩
   ⟨by omega,λj hj h1 h3 hp=>by rw[g2 j (by omega),f1.same j hj h1 hp],f1.ids⟩
 ·have e2:AS 1 H1 (.ptr (b0+2) 0) (I W.1.2)=some (H1.set (b0+2) (some (.cells [I W.1.2]))):=iC kr (by simp) rfl
  simp only[he,sV,tH,e2,AB];generalize hH2:H1.set (b0+2) (some (AObj.cells [I W.1.2]))=H2;have g2:∀j,j≠b0+2→H2[j]?=H1[j]?:=λj hj=>by rw[← hH2];exact C3 (wD hj)
  have ga:H2[b0+2]?=some (some (.cells [I W.1.2])):=by rw[← hH2];exact Jo (by omega)
  have l2:H2.length=H1.length:=by rw[← hH2,vT]
  exact hx he p' H2 (h1.keep λj hj=>g2 j (nob j hj).1) ⟨by omega,λj hj h1 h3 hp=>by rw[g2 j (by omega),f1.same j hj h1 hp],f1.ids⟩ ga
noncomputable abbrev mU:Code:=AG f36
theorem mV (x3 x4 x6 x7 x13 x14 x15 x20 x:AV)(H:AH)(Q:Exit→List AV→AH→Prop):AD prog (JB []) Ap Ap Ap (Cn []) (Wl (sub mL mU)) 0 ((AP (mk 37 0 [3,4,6,7,13,14,15,20]) [x3,x4,x6,x7,x13,x14,x15,x20]).set 21 x) H (λe T H=>fP (mk 37 0 [3,4,6,7,10]) T λX=>Q e X H)=Q .normal [x3,x4,x6,x7,x] H:=by kernel_rfl
theorem ZJ:Ev (JB []) Ap (Wl (sub mL mU))=true:=by kernel_rfl
theorem dP:C8 A8 rS Kk (sub (mL++[true]) mU)=true:=by kernel_rfl
theorem mW {x3 x4 x6 x7 x13 x14 x15 x20 x:AV}{H:AH}{J X:AH→Prop}{K0:AV→AH→Prop}(h:En (λe H'=>match e with | .normal=>J H' | .ret=>X H' | _=>False) x3 x4 x6 x7 x H K0):
  TZ prog (Wl (sub mL mU)) (sub (mL++[true]) mU) (AP (mk 37 0 [3,4,6,7,13,14,15,20]) [x3,x4,x6,x7,x13,x14,x15,x20]) 21 x H J (λc H'=>c=.ret∧X H'):=by
 obtain⟨e,T',H',hk,hb⟩:=Fd JJ (Wl (sub mL mU)) 0 _ H _ ZJ (Eq.mpr (mV x3 x4 x6 x7 x13 x14 x15 x20 x H (λe X H2=>e=.normal∧X=[x3,x4,x6,x7,x]∧H2=H)) ⟨rfl,rfl,rfl⟩);obtain⟨hl,he,hX,hH⟩:=BF.1 hk;subst he;subst hH;refine⟨T',hb,?_⟩;refine ACode.weak (λG a hF=>DJ hl hF) ?_;rw[hX];refine(DN JJ (sub (mL++[true]) mU) _ _ _ _ dP (Eq.mpr (PS (λe H'=>match e with | .normal=>J H' | .ret=>X H' | _=>False) x3 x4 x6 x7 x _ K0) h)).mono ?_;intro e T H2 hk;cases e with
 | normal=>exact hk
 | ret=>exact⟨rfl,hk⟩
 | _=>exact hk.elim
theorem sM {R4:List AV→AH→Prop}{x3 x4 x6 x7 x13 x14 x15:AV}{H:AH}{K:AV→AH→Prop}{k:FuncId}{cap xs:List AV}{Cap:AH→Prop}(hit:UO prog k cap Cap xs)(hgo:Bq prog k=true)(J:Nat→AH→Prop)(X:AH→Prop)(h0:J 0 H)(hcap:∀i H',J i H'→Cap H')
  (hr:∀i x H',xs[i]?=some x→J i H'→En (λe H'=>match e with | .normal=>J (i+1) H' | .ret=>X H' | _=>False) x3 x4 x6 x7 x H' K)
  (hdone:∀H',J xs.length H'→bO (Ay .add x15 (I 1)) λv6=>R4 [x3,x4,x6,x7,x13,x14,v6] H')
  (hout:∀H',X H'→bO (Ar false 1 H' x6) λv7=>K v7 H'):Nk R4 x3 x4 x6 x7 x13 x14 x15 (.fn (.func k) [] cap) H K:=by
 refine⟨?_⟩;rw[ND];refine ACode.rangeF hit hgo rfl J (λc H'=>c=.ret∧X H') h0 hcap (λi x H' hx hj=>mW (hr i x H' hx hj)) (λH' hj=>?_) (λc H' hx=>.inl ⟨hx.1,?_⟩)
 ·exact Eq.mpr (PT R4 x3 x4 x6 x7 x13 x14 x15 (.fn (.func k) [] cap) H' K) (hdone H' hj)
 ·exact Eq.mpr (PU R4 x3 x4 x6 x7 x13 x14 x15 (.fn (.func k) [] cap) H' K) (hout H' hx.2)
end
end Go.Proofs.YtbppnhenlboefaaGreat.Av
