/- Texts of this proof, one behind the other, packed into one file by a program of this session. No condition. -/
import Derived.Test.YtbppnhenlboefaaGreatMcH
import Derived.KernelRfl
set_option linter.unusedVariables false
set_option linter.unusedSimpArgs false
set_option maxRecDepth 100000
namespace Go.Proofs.YtbppnhenlboefaaGreat.Av
open Go Go.RowKit Go.Proofs.Tryz
section
section
variable {κ α : Type} {c : κ→κ→Int} {key : α→κ}
theorem VZ (hc:KO c):∀{l m:List α},BP c key l→BP c key m→(∀x,x∈l↔x∈m)→l=m
 | [],[],_,_,_=>rfl
 | [],b::m,_,_,h=>by have:=(h b).2 (by simp);simp at this
 | a::l,[],_,_,h=>by have:=(h a).1 (by simp);simp at this
 | a::l,b::m,h1,h2,h=>by
  have k1:=uW.1 h1;have k2:=uW.1 h2
  have e:a=b:=by
   rcases tU.1 ((h a).1 (by simp))with e | q1
   ·exact e
   ·rcases tU.1 ((h b).2 (by simp))with e | q2
    ·exact e.symm
    ·exact absurd (hc.trans _ _ _ (k1.1 b q2) (k2.1 a q1)) (hc.irr _)
  subst e
  congr 1
  refine VZ hc k1.2 k2.2 λx=>?_
  have irr:∀y,y∈l∨y∈m→y≠a:=by
   rintro y (q | q) rfl
   ·exact hc.irr _ (k1.1 y q)
   ·exact hc.irr _ (k2.1 y q)
  constructor
  ·intro q
   rcases tU.1 ((h x).1 (by simp[q]))with e | q2
   ·exact absurd e (irr x (.inl q))
   ·exact q2
  ·intro q
   rcases tU.1 ((h x).2 (by simp[q]))with e | q2
   ·exact absurd e (irr x (.inr q))
   ·exact q2
theorem KL (hc:KO c){l:List α}(h:BP c key l){k k2:κ}(hk:AO key l k)(hne:k2≠k):AO key (CB c key l k) k2↔AO key l k2:=by
 constructor
 ·rintro⟨x,hx,e⟩
  exact⟨x,delK_sub.subset hx,e⟩
 ·rintro⟨x,hx,e⟩
  exact⟨x,(E7 hc h hk).2 ⟨hx,by rw[e];exact hne⟩,e⟩
theorem Yo (hc:KO c){l:List α}(h:BP c key l){k k2:κ}(hk:AO key l k)(hk2:AO key l k2)(hne:k≠k2):CB c key (CB c key l k) k2=CB c key (CB c key l k2) k:=by
 refine VZ hc (DQ (DQ h)) (DQ (DQ h)) λx=>?_
 rw[E7 hc (DQ h) ((KL hc h hk (uC hne)).2 hk2),E7 hc h hk,E7 hc (DQ h) ((KL hc h hk2 hne).2 hk),E7 hc h hk2,and_right_comm]
end
theorem Th {ns:List Nm}(hs:BP AW Nm.name ns){s t:List UInt8}(hk:AO Nm.name ns s)(ht:AO Nm.name ns t)(hne:t≠s):Ey (CB AW Nm.name ns s) t=Ey ns t:=by
 obtain⟨x,h1,h2,rfl⟩:=Xj ht;unfold Ey;rw[h1,TU koN (DQ hs) ((E7 koN hs hk).2 ⟨h2,hne⟩)]
end
section
theorem Sc:∀{bs:List UInt8} {l:List Ext} {p:Int},(BW l p bs).length≤l.length+bs.length
 | [],l,p=>sY _
 | b::r,l,p=>by
  show(BW (CZ l p [b]) (p+1) r).length≤_
  have ih:=Sc (bs:=r) (l:=CZ l p [b]) (p:=p+1)
  have h:(CZ l p [b]).length≤l.length+1:=by
   unfold CZ
   have:=Rz l (p/8)
   simp[S8];omega
  simp only[tP];omega
theorem dF {o:OpM}{d:Nd}:(cL (O4 o d)).length≤d.l.length+o.b.length+4098:=by
 unfold O4
 split
 ·unfold G4
  split
  ·split
   ·simp only[cL,vR];omega
   ·simp only[cL,vR]
    have:=Sc (bs:=o.b) (l:=d.l) (p:=o.pos)
    omega
  ·simp[cL]
 ·split
  ·unfold D1
   split
   ·simp only[cL,vR,Iu,On,uE]
    exact tL (vK _ _) (by omega)
   ·simp[cL]
  ·split
   ·unfold Fq
    split
    ·simp only[cL,vR,Mt]
     have:=(WH (k:=allocN o.pos o.size) (l:=d.l) (no:=o.pos/8)).1
     have hN:allocN o.pos o.size≤4098:=by unfold allocN;omega
     omega
    ·simp[cL]
   ·split
    ·unfold Gz
     split
     ·simp only[cL,vR,Iq,On,uE]
      exact tL (vK _ _) (by omega)
     ·simp[cL]
    ·simp[cL]
def mS (ns:List Nm)(ds:List Nd):Prop:=ns.length≤30∧ds.length≤30∧(∀d∈ds,d.l.length≤60)∧Kd ds≤300
instance (ns:List Nm) (ds:List Nd):Decidable (mS ns ds):=by unfold mS;infer_instance
theorem OwI.lend {L:Nat}{ns:List Nm}{dv:List NdV}{a b:AV}{H:AH}(h:OwI L ns dv a b H):∃R,ImV ns (dv.map NdV.nd) R∧FZ H (.agg [a,b]) R:=by
 obtain⟨Ra,h1,f1⟩:=FZ.sv h.sa (Da λx _=>KY x);obtain⟨Rb,h2,f2⟩:=FZ.sv h.sb (Da λx _=>Ic x);exact⟨_,⟨Ra,Rb,dv,rfl,h1,h2,rfl⟩,FZ.agg (FZs.cons f1 (FZs.cons f2 FZs.nil))⟩
theorem iH {ns:List Nm}{ds:List Nd}{v:AV}(hv:ImV ns ds v)(hb:Sm ns ds):∃R,ImV ns ds R∧BPure prog 43 [v] R:=by
 have hids:=hv.noIds;obtain⟨a,b,dv,rfl,sa,sb,rfl⟩:=hv;have b2:=hb.2.1;rw[uE]at b2;obtain⟨r,X,⟨a',b',ew,rfl,hew,-,ow⟩,hc⟩:=YT (H:=[]) sa sb hb.1 b2 (λd hd=>hb.2.2.2 d.nd (uH hd));obtain⟨R,hR,fR⟩:=ow.lend;rw[hew]at hR;exact BPure.FZ hids ⟨_,X,⟨R,fR,hR⟩,hc⟩
structure OpV where
 o:OpM
 bv:AV
 h:SV QN 1 o.b bv
def JW (x:OpV):List AV:=Dm x.o x.bv
theorem QM (x:OpV):(JW x).length=8:=rfl
theorem pD {H:AH}{w:AV}{l:List OpV}{k:Nat}{x:OpV}(hw:Aa H 8 w=some (l.flatMap JW,l.length))(hx:l[k]?=some x):∃p,Bv 8 w (I k)=some p∧Ar true 8 H p=some (.agg (Dm x.o x.bv)):=by
 have hk:=(B5.1 hx).1;obtain⟨p,c,h1,h2,h3,h4⟩:=Iw hw (i:=(k:Int)) rfl hk
 have hc:c.take 8=JW x:=by
  rw[h3,CE QM hx,tJ (by rw[QM];omega),sZ (by rw[QM];omega)]
 exact⟨p,h1,by rw[Ov h2 (by omega) h4,Fa (by omega),uA,hc];rfl⟩
section
variable {α κ ι : Type} {c : κ→κ→Int} {key : α→κ}
theorem Ri {f:α→ι}{l:List α}{x:α}{i:ι}:AO f (Ht c key l x) i↔f x=i∨AO f l i:=by
 unfold AO
 constructor
 ·rintro⟨y,hy,e⟩
  rcases Fx.1 hy with rfl | hy
  ·exact .inl e
  ·exact .inr ⟨y,hy,e⟩
 ·rintro(e | ⟨y,hy,e⟩)
  ·exact⟨x,Fx.2 (.inl rfl),e⟩
  ·exact⟨y,Fx.2 (.inr hy),e⟩
theorem OK (hc:KO c){f:α→ι}{l:List α}(h:BP c key l){k:κ}(hk:AO key l k){i:ι}:AO f (CB c key l k) i↔∃y∈l,key y≠k∧f y=i:=by
 unfold AO
 constructor
 ·rintro⟨y,hy,e⟩
  obtain⟨h1,h2⟩:=(E7 hc h hk).1 hy;exact⟨y,h1,h2,e⟩
 ·rintro⟨y,hy,h2,e⟩
  exact⟨y,(E7 hc h hk).2 ⟨hy,h2⟩,e⟩
theorem Ly {β:Type}{f:α→β}:∀{l:List α},l.Nodup→((l.map f).Nodup↔∀x∈l,∀y∈l,f x=f y→x=y)
 | [],_=>by simp
 | a::l,h=>by
  obtain⟨h1,h2⟩:=vS.1 h;rw[vV,vS,Ly h2]
  constructor
  ·rintro⟨h3,h4⟩ x hx y hy e
   rcases tU.1 hx with hx1 | hx1<;>rcases tU.1 hy with hy1 | hy1
   ·rw[hx1,hy1]
   ·rw[hx1]at e;exact absurd (tZ.2 ⟨y,hy1,e.symm⟩) h3
   ·rw[hy1]at e;exact absurd (tZ.2 ⟨x,hx1,e⟩) h3
   ·exact h4 x hx1 y hy1 e
  ·intro h3
   refine⟨λhm=>?_,λx hx y hy=>h3 x (by simp[hx]) y (by simp[hy])⟩;obtain⟨y,hy,e⟩:=tZ.1 hm
   have:=h3 y (by simp[hy]) a (by simp) e
   exact h1 (this▸hy)
theorem ME (hc:KO c){l:List α}(h:BP c key l):l.Nodup:=by
 refine List.Pairwise.imp ?_ h;rintro a b hab rfl;exact hc.irr _ hab
end
structure MayW (ns:List Nm)(ds:List Nd):Prop where
 len:ns.length≤16
 nm:∀x∈ns,Gi x.name∧1≤x.ino∧x.ino≤4611686018427387904
 srt:BP AW Nm.name ns
 inj:∀x∈ns,∀y∈ns,x.ino=y.ino→x=y
 sd:BP BS Nd.ino ds
 mc:∀d∈ds,E1 d.size d.l
 ino:∀i,AO Nd.ino ds i↔AO Nm.ino ns i
theorem W5 {ds:List Nd}(h:BP BS Nd.ino ds):(ds.map Nd.ino).Nodup:=by
 rw[List.Nodup,vW];exact h.imp λh=>by rw[TY]at h;omega
theorem OW {ns:List Nm}{ds:List Nd}:Io ns ds↔MayW ns ds:=by
 constructor
 ·intro h
  have h2:=V9.1 h;obtain⟨h21,h22,⟨h23,h24,h25⟩,h26,h27,h28⟩:=h2;refine⟨h21,h23,h24,(Ly (ME koN h24)).1 h25,h26,h28,λi=>⟨?_,?_⟩⟩
  ·rintro⟨d,hd,rfl⟩
   exact(h.2.2.2 d hd).1
  ·rintro⟨x,hx,rfl⟩
   exact h27 x hx
 ·intro h
  refine⟨⟨h.len,h.nm,h.srt,(Ly (ME koN h.srt)).2 h.inj⟩,?_,h.sd,λd hd=>⟨(h.ino d.ino).1 ⟨d,hd,rfl⟩,h.mc d hd⟩⟩
  have hp:=(List.perm_ext_iff_of_nodup (W5 h.sd) ((Ly (ME koN h.srt)).2 h.inj)).2 λi=>by
   have:=h.ino i
   unfold AO at this
   simpa[tZ]using this
  have:=hp.length_eq
  simpa using this
theorem Tj {ns:List Nm}(hs:BP AW Nm.name ns){x:Nm}(hx:x∈ns):Ey ns x.name=x.ino:=by
 unfold Ey;rw[TU koN hs hx]
theorem aH {ns:List Nm}{s:List UInt8}(h:¬AO Nm.name ns s):Ey ns s=0:=by
 unfold Ey;rw[UZ h]
theorem MayW.rem {ns:List Nm}{ds:List Nd}{s:List UInt8}(h:MayW ns ds)(hk:AO Nm.name ns s):MayW (CB AW Nm.name ns s) (CB BS Nd.ino ds (Ey ns s)):=by
 obtain⟨x,hx,rfl⟩:=hk;have hk:AO Nm.name ns x.name:=⟨x,hx,rfl⟩;rw[Tj h.srt hx];have hd:AO Nd.ino ds x.ino:=(h.ino _).2 ⟨x,hx,rfl⟩;have sub:∀y,y∈CB AW Nm.name ns x.name→y∈ns:=λy hy=>delK_sub.subset hy
 have hl:=K4 (Rj koN h.srt hk)
 have:=h.len
 refine⟨by omega,λy hy=>h.nm y (sub y hy),DQ h.srt,λy hy z hz=>h.inj y (sub y hy) z (sub z hz),DQ h.sd,λd hd=>h.mc d (delK_sub.subset hd),λi=>?_⟩;rw[OK koI h.sd hd,OK koN h.srt hk]
 constructor
 ·rintro⟨d,hd1,hd2,rfl⟩
  obtain⟨y,hy,e⟩:=(h.ino d.ino).1 ⟨d,hd1,rfl⟩;exact⟨y,hy,λe2=>hd2 (by rw[← e,Pe koN h.srt hy hx e2]),e⟩
 ·rintro⟨y,hy,hne,rfl⟩
  obtain⟨d,hd1,e⟩:=(h.ino y.ino).2 ⟨y,hy,rfl⟩;exact⟨d,hd1,λe2=>hne (by rw[h.inj y hy x hx (by rw[← e,e2])]),e⟩
theorem MayW.ren {ns:List Nm}{ds:List Nd}{s t:List UInt8}(h:MayW ns ds)(hk:AO Nm.name ns s)(ht:¬AO Nm.name ns t)(hm:Gi t):MayW (Ht AW Nm.name (CB AW Nm.name ns s) ⟨t,Ey ns s⟩) ds:=by
 obtain⟨x,hx,rfl⟩:=hk;have hk:AO Nm.name ns x.name:=⟨x,hx,rfl⟩;rw[Tj h.srt hx];have mem:∀y,y∈Ht AW Nm.name (CB AW Nm.name ns x.name) ⟨t,x.ino⟩↔y=⟨t,x.ino⟩∨(y∈ns∧y.name≠x.name):=λy=>by rw[Fx,E7 koN h.srt hk]
 have hl:=K4 (Rj koN h.srt hk)
 have:=h.len
 refine⟨by rw[Rw];omega,?_,RS koN (DQ h.srt) (λhh=>ht ?_),?_,h.sd,h.mc,λi=>?_⟩
 ·intro y hy
  rcases(mem y).1 hy with rfl | ⟨hy,-⟩
  ·exact⟨hm,(h.nm x hx).2⟩
  ·exact h.nm y hy
 ·obtain⟨y,hy,e⟩:=hh
  exact⟨y,delK_sub.subset hy,e⟩
 ·intro y hy z hz e
  rcases(mem y).1 hy with rfl | ⟨hy,hny⟩<;>rcases(mem z).1 hz with rfl | ⟨hz,hnz⟩
  ·rfl
  ·exact absurd (by rw[h.inj x hx z hz e]) hnz
  ·exact absurd (by rw[h.inj y hy x hx e]) hny
  ·exact h.inj y hy z hz e
 ·rw[h.ino i,Ri,OK koN h.srt hk]
  constructor
  ·rintro⟨y,hy,rfl⟩
   by_cases c:y.name=x.name
   ·exact .inl (by rw[Pe koN h.srt hy hx c])
   ·exact .inr ⟨y,hy,c,rfl⟩
  ·rintro(rfl | ⟨y,hy,-,rfl⟩)
   ·exact⟨x,hx,rfl⟩
   ·exact⟨y,hy,rfl⟩
theorem aG:E1 0 []:=by decide
theorem MayW.cre {ns:List Nm}{ds:List Nd}{o:OpM}(h:MayW ns ds)(hc:Yl ns ds o):MayW (Ht AW Nm.name ns ⟨o.name,o.ino⟩) (Ht BS Nd.ino ds ⟨o.ino,0,[]⟩):=by
 obtain⟨h1,h2,h3,h4,h5,h6⟩:=hc;have hn:¬AO Nm.ino ns o.ino:=λhh=>h2 ((h.ino _).2 hh)
 refine⟨by rw[Rw];omega,?_,RS koN h.srt h1,?_,RS koI h.sd h2,?_,λi=>by rw[Ri,Ri,h.ino]⟩
 ·intro y hy
  rcases Fx.1 hy with rfl | hy
  ·exact⟨h3,h4,h5⟩
  ·exact h.nm y hy
 ·intro y hy z hz e
  rcases Fx.1 hy with rfl | hy<;>rcases Fx.1 hz with rfl | hz
  ·rfl
  ·exact absurd ⟨z,hz,e.symm⟩ hn
  ·exact absurd ⟨y,hy,e⟩ hn
  ·exact h.inj y hy z hz e
 ·intro d hd
  rcases Fx.1 hd with rfl | hd
  ·exact aG
  ·exact h.mc d hd
theorem Zx {o:OpM}{d:Nd}{c:F9}(hk:o.kind=2∨o.kind=3∨o.kind=4∨o.kind=5)(h:O4 o d=some c):E1 c.1 c.2:=by
 unfold O4 at h;split at h
 ·exact Y5 h
 ·split at h
  ·exact Y4 h
  ·split at h
   ·exact Y2 h
   ·split at h
    ·exact Y3 h
    ·omega
theorem Yg {ds:List Nd}{o:OpM}(hs:BP BS Nd.ino ds):(QB ds o).map Nd.ino=ds.map Nd.ino:=by
 unfold QB
 split
 ·rename_i d hd
  split
  ·rename_i c hc
   have hk:AO Nd.ino ds o.ino:=⟨d,wP hd,by simpa using List.find?_some hd⟩;obtain⟨y,h1,h2,h3⟩:=IU koI hs hk;have e:y=d:=by rw[hd]at h2;injection h2 with h2;exact h2.symm
   rw[xC,← e];apply uF;intro j;rw[uQ]
   split
   ·rename_i hj
    subst hj
    split
    ·rw[uJ,h1];rfl
    ·rename_i hl
     rw[uJ,h1]
     have:=(B5.1 h1).1
     simp at hl;omega
   ·rfl
  ·rfl
 ·rfl
theorem bY {ds es:List Nd}(e:ds.map Nd.ino=es.map Nd.ino)(h:BP BS Nd.ino es):BP BS Nd.ino ds:=by
 unfold BP at h⊢;have h1:(es.map Nd.ino).Pairwise λa b=>BS a b<0:=vW.2 h
 rw[← e]at h1;exact vW.1 h1
theorem ZP {ds es:List Nd}(e:ds.map Nd.ino=es.map Nd.ino)(i:Int):AO Nd.ino ds i↔AO Nd.ino es i:=by
 have a:∀l:List Nd,AO Nd.ino l i↔i∈l.map Nd.ino:=λl=>by unfold AO;simp[tZ]
 rw[a,a,e]
theorem VB {ds:List Nd}{o:OpM}(hs:BP BS Nd.ino ds){d:Nd}(h:d∈QB ds o):d∈ds∨(d.ino=o.ino∧∃e∈ds,e.ino=o.ino∧O4 o e=some (d.size,d.l)):=by
 unfold QB at h;split at h
 ·rename_i e he
  split at h
  ·rename_i c hc
   have e1:=wP he;have e2:e.ino=o.ino:=by simpa using List.find?_some he
   rcases List.mem_or_eq_of_mem_set h with h | h
   ·exact .inl h
   ·exact .inr ⟨by rw[h];exact e2,e,e1,e2,by rw[h];exact hc⟩
  ·exact .inl h
 ·exact .inl h
theorem MayW.chg {ns:List Nm}{ds:List Nd}{o:OpM}(h:MayW ns ds)(hk:o.kind=2∨o.kind=3∨o.kind=4∨o.kind=5):MayW ns (QB ds o):=by
 have hi:=Yg (o:=o) h.sd;refine⟨h.len,h.nm,h.srt,h.inj,bY hi h.sd,λd hd=>?_,λi=>by rw[ZP hi,h.ino]⟩;rcases VB h.sd hd with hd | ⟨-,e,-,-,he⟩
 ·exact h.mc d hd
 ·exact Zx hk he
theorem lR {ns:List Nm}{ds:List Nd}{s t:List UInt8}(h:MayW ns ds)(hk:AO Nm.name ns s)(hne:s≠t):
  (Ht AW Nm.name (Ez (CB AW Nm.name ns s) t) ⟨t,Ey ns s⟩,RM (CB AW Nm.name ns s) ds t)=(Ht AW Nm.name (CB AW Nm.name (Ez ns t) s) ⟨t,Ey (Ez ns t) s⟩,RM ns ds t):=by
 unfold Ez RM
 by_cases c:AO Nm.name ns t
 ·have c1:AO Nm.name (CB AW Nm.name ns s) t:=(KL koN h.srt hk (uC hne)).2 c
  rw[if_pos c1,if_pos c,if_pos c1,if_pos c,Yo koN h.srt hk c hne,Th h.srt hk c (uC hne),Th h.srt c hk hne]
 ·have c1:¬AO Nm.name (CB AW Nm.name ns s) t:=λhh=>c ((KL koN h.srt hk (uC hne)).1 hh)
  rw[if_neg c1,if_neg c,if_neg c1,if_neg c]
theorem MayW.remN {ns:List Nm}{ds:List Nd}(h:MayW ns ds)(t:List UInt8):MayW (Ez ns t) (RM ns ds t)∧¬AO Nm.name (Ez ns t) t:=by
 unfold Ez RM
 by_cases c:AO Nm.name ns t
 ·rw[if_pos c,if_pos c]
  refine⟨h.rem c,?_⟩;rintro⟨y,hy,e⟩;exact((E7 koN h.srt c).1 hy).2 e
 ·rw[if_neg c,if_neg c];exact⟨h,c⟩
theorem ZQ {ns:List Nm}(hs:BP AW Nm.name ns){s t:List UInt8}(hne:s≠t):AO Nm.name (Ez ns t) s↔AO Nm.name ns s:=by
 unfold Ez
 split
 ·rename_i c;exact KL koN hs c hne
 ·rfl
theorem Zn {ns:List Nm}{ds:List Nd}(h:MayW ns ds)(o:OpM):MayW (Cd ns ds o).1 (Cd ns ds o).2:=by
 unfold Cd;rw[if_pos (OW.2 h)]
 split
 ·split
  ·rename_i hc;exact h.cre hc
  ·exact h
 ·split
  ·rename_i hk;exact h.chg hk
  ·split
   ·split
    ·rename_i hr
     obtain⟨h1,h2,h3⟩:=hr;rw[lR h h1 h3];obtain⟨g1,g2⟩:=h.remN o.to;exact g1.ren ((ZQ h.srt h3).2 h1) g2 h2
    ·exact h
   ·split
    ·exact(h.remN o.name).1
    ·exact h
theorem eM {ns:List Nm}{ds:List Nd}(h:MayW ns ds)(s:List UInt8):Rc ns ds s=Ey ns s∧(Rh ns ds s↔AO Nm.name ns s):=by
 have hm:=OW.2 h;have hi:Rh ns ds s↔AO Nm.name ns s:=⟨λhh=>hh.2,λhh=>⟨hm,hh⟩⟩;refine⟨?_,hi⟩;unfold Rc
 by_cases c:Rh ns ds s
 ·rw[if_pos c]
 ·rw[if_neg c,aH (λhh=>c (hi.2 hh))]
theorem Ui {ns:List Nm}{ds:List Nd}(h:MayW ns ds){d:Nd}(hd:d∈ds):GJ ns ds d.ino=d∧Sx ns ds d.ino:=by
 have hg:Sx ns ds d.ino:=⟨OW.2 h,d,hd,rfl⟩;refine⟨?_,hg⟩;unfold GJ;rw[if_pos hg,TU koI h.sd hd];rfl
theorem gF {ns:List Nm}{ds:List Nd}(h:MayW ns ds):Wd ns ds=Kd ds:=by unfold Wd;rw[if_pos (OW.2 h)]
end
section
def old (N:Nat)(X:AH):AH:=List.replicate N none++X.drop N
theorem X5 {N:Nat}{X:AH}{o:Nat}{x:AObj}(h:(old N X)[o]?=some (some x)):N≤o∧X[o]?=some (some x):=by
 unfold old at h;rcases tD o N with hlt | hge
 ·rw[sW (by simpa using hlt),List.getElem?_replicate,if_pos hlt]at h
  cases h
 ·rw[tA (by simpa using hge),List.length_replicate,tG]at h
  rw[show N+(o - N)=o by omega]at h;exact⟨hge,h⟩
def Cfg.less (G:Cfg)(L:Nat→Prop):Cfg:={G with L:=L}
theorem HR.less {G:Cfg}{H:AH}(hr:HR G H)(L:Nat→Prop)(hL:∀b,L b→G.L b)(hl:∀(o:Nat) (x:AObj),H[o]?=some (some x)→L (G.μ o).1):HR (G.less L) H:=by
 have ht:Tr G (G.less L):=⟨sY _,λ_ _=>rfl,λad vs hh=>hh.imp id λh=>⟨λhh=>h.1 (hh.imp (hL _) id),h.2⟩⟩;exact⟨hr.n,λo x ho=>OR.tr ht (hr.lt_n ho) rfl (hr.obj o x ho),hr.inj,hl,λb hb=>hr.lt b (hb.imp (hL _) id),λb hb=>hr.dis b (hL b hb)⟩
theorem HR.fewer {G:Cfg}{H H2:AH}(hr:HR G H)(hlen:H2.length=H.length)(h:∀(o:Nat) (x:AObj),H2[o]?=some (some x)→H[o]?=some (some x)):HR G H2:=
 ⟨by rw[hlen];exact hr.n,λo x ho=>hr.obj o x (h o x ho),λo o' x x' ho ho'=>hr.inj o o' x x' (h o x ho) (h o' x' ho'),λo x ho=>hr.live o x (h o x ho),hr.lt,hr.dis⟩
section
variable {P : Program}
theorem ACalls.fzNew {f:FuncId}{args:List AV}{H:AH}{R:AV→AH→Prop}{R':AV→Prop}(h:ACalls P f args H R)
  (hR:∀r H1,R r H1→H.length≤H1.length∧(∀o,o<H.length→H1[o]?=H[o]?)∧∃n r',Iv (old H.length H1) n r=some r'∧R' r'):ACalls P f args H λr' H'=>R' r'∧H'=H:=by
 intro G vs hH hv;refine(h G vs hH hv).mono ?_;rintro e w' ⟨r,H1,G',v,rfl,rfl,hE,hx,hX,hq⟩;obtain⟨hlen,hpre,n,r',hf,hr'⟩:=hR r H1 hq
 have e1:H1=H++H1.drop H.length:=by
  apply uF;intro o;rcases tD o H.length with hlt | hge
  ·rw[sW hlt,hpre o hlt]
  ·rw[tA hge,tG,show H.length+(o - H.length)=o by omega]
 have hX1:HR G' (H++H1.drop H.length):=by rw[← e1];exact hX
 have hF:HR {G' with n:=H.length} H:=hX1.forget λo x ho=>by
  have:=(hH.obj o x ho).bel
  rwa[hH.n]at this
 let L2:Nat→Prop:=λb=>G.L b∧G'.L b∧∀(o:Nat) (x:AObj),H.length≤o→H1[o]?=some (some x)→b≠(G'.μ o).1
 have hF2:=hF.less L2 (λb hb=>hb.2.1) (λo x ho=>by
  have hlt:=(B5.1 ho).1;have ho1:H1[o]?=some (some x):=by rw[hpre o hlt];exact ho
  have hμ:G'.μ o=G.μ o:=hE.μ o (by rw[hH.n];exact hlt);refine⟨?_,hX.live o x ho1,λo' x' hge ho' he=>?_⟩
  ·show G.L (G'.μ o).1
   rw[hμ];exact hH.live o x ho
  ·have:=hX.inj o o' x x' ho1 ho' he
   omega)
 have hE2:Evo G (Cfg.less {G' with n:=H.length} L2):=⟨hE.os,hE.tape,hE.output,hE.size,λk hk hL=>⟨(hE.keep k hk hL).1,λhh=>hL hh.1⟩,by show G.n≤H.length;rw[hH.n];exact sY _,λo ho=>hE.μ o ho,hE.K⟩;have hK:HR G' (old H.length H1):=hX.fewer (by unfold old;simp;omega) λo x ho=>(X5 ho).2
 refine⟨r',H,Cfg.less {G' with n:=H.length} L2,v,rfl,rfl,hE2,?_,hF2,hr',rfl⟩;refine Uf (G':=G') (G'':=Cfg.less {G' with n:=H.length} L2) rfl (λb hn hh=>hn (hh.imp (λh=>h.2.1) id)) hK ?_ n r v r' hx hf;intro o x ho hh;obtain⟨h1,h2⟩:=X5 ho;rcases hh with hh | hh
 ·exact hh.2.2 o x h1 h2 rfl
 ·exact hX.dis _ (hX.live o x h2) hh
end
end
section
abbrev YP:=List Nm×List Nd
structure StS where
 cap:Int
 now:YP
 kept:YP
 pend:List OpM
 made:Int
 armed:Int
 off:Bool
def R1 (room:Int):StS:=⟨min (max room 0) 4096,([],[]),([],[]),[],0,-1,false⟩
def wt (o:OpM):Nat:=1+o.b.length+if o.kind=4 then 4098 else 0
def Qe (l:List OpM):Nat:=(l.map wt).sum
theorem jL {o:OpM}{d:Nd}{c:F9}(h:O4 o d=some c):c.2.length≤d.l.length+wt o:=by
 have h4:=dF (o:=o) (d:=d);rw[h]at h4;simp only[cL,vR]at h4;unfold wt
 by_cases c4:o.kind=4
 ·rw[if_pos c4];omega
 ·rw[if_neg c4]
  unfold O4 at h;split at h
  ·unfold G4 at h
   split at h
   ·injection h with h
    subst h
    split
    ·simp
    ·have:=Sc (bs:=o.b) (l:=d.l) (p:=o.pos)
     simp only;omega
   ·cases h
  ·split at h
   ·unfold D1 at h
    split at h
    ·injection h with h
     subst h;simp only[Iu,On,uE];exact tL (vK _ _) (by omega)
    ·cases h
   ·split at h
    ·unfold Gz at h
     split at h
     ·injection h with h
      subst h;simp only[Iq,On,uE];exact tL (vK _ _) (by omega)
     ·cases h
    ·cases h
def Few1 (M:Nat)(i:YP):Prop:=MayW i.1 i.2∧∀d∈i.2,d.l.length≤M
theorem VQ {ns:List Nm}{ds:List Nd}{s:List UInt8}{d:Nd}(h:d∈RM ns ds s):d∈ds:=by
 unfold RM at h;split at h
 ·exact delK_sub.subset h
 ·exact h
theorem Few1.step {M:Nat}{i:YP}(h:Few1 M i)(o:OpM):Few1 (M+wt o) (Cd i.1 i.2 o):=by
 refine⟨Zn h.1 o,λd hd=>?_⟩;have old:d∈i.2→d.l.length≤M+wt o:=λhd=>tL (h.2 d hd) (by omega)
 unfold Cd at hd;rw[if_pos (OW.2 h.1)]at hd;split at hd
 ·split at hd
  ·rcases Fx.1 hd with rfl | hd
   ·simp
   ·exact old hd
  ·exact old hd
 ·split at hd
  ·rcases VB h.1.sd hd with hd | ⟨-,e,he,-,hc⟩
   ·exact old hd
   ·have:=jL hc
    have:=h.2 e he
    simp only at*;omega
  ·split at hd
   ·split at hd
    ·exact old (VQ hd)
    ·exact old hd
   ·split at hd
    ·exact old (VQ hd)
    ·exact old hd
theorem Few1.mono {M M':Nat}{i:YP}(h:Few1 M i)(hm:M≤M'):Few1 M' i:=⟨h.1,λd hd=>tL (h.2 d hd) hm⟩
theorem MayW.len2 {ns:List Nm}{ds:List Nd}(h:MayW ns ds):ds.length≤16:=by
 have:=(OW.2 h).2.1
 have:=h.len
 omega
theorem Few1.sm {M:Nat}{i:YP}(h:Few1 M i)(hm:M≤1000000):Sm i.1 i.2:=
 ⟨by have:=h.1.len;omega,by have:=h.1.len2;omega,λx hx=>by have:=(h.1.nm x hx).1.2.1;omega,λd hd=>tL (h.2 d hd) hm⟩
def YW (o:OpM):Prop:=o.b.length≤5000∧o.name.length≤20∧o.to.length≤20
structure SW (N:Nat)(s:StS):Prop where
 now:Few1 N s.now
 kept:∃a,Few1 a s.kept∧a+Qe s.pend≤N
 ob:∀o∈s.pend,YW o
 made:0≤s.made∧s.made≤N
 cap:0≤s.cap∧s.cap≤4096
 armed: -1≤s.armed∧s.armed≤9223372036854775807
theorem XM {l:List OpM}:l.length≤Qe l:=by
 unfold Qe
 induction l with
 | nil=>simp
 | cons o l ih=>simp only[vV,List.sum_cons,tP];unfold wt at*;omega
theorem Sf {l:List OpM}{o:OpM}:Qe (l++[o])=Qe l+wt o:=by simp[Qe]
theorem SW.plen {N:Nat}{s:StS}(h:SW N s):s.pend.length≤N:=by
 obtain⟨a,-,h2⟩:=h.kept
 have:=XM (l:=s.pend)
 omega
theorem SW.mono {N N':Nat}{s:StS}(h:SW N s)(hn:N≤N'):SW N' s:=
 ⟨h.now.mono hn,by obtain⟨a,h1,h2⟩:=h.kept;exact⟨a,h1,by omega⟩,h.ob,by have:=h.made;omega,h.cap,h.armed⟩
theorem VA:MayW [] []:=⟨by simp,by simp,by simp[BP],by simp,by simp[BP],by simp,λi=>by simp[AO]⟩
theorem aK (room:Int):SW 0 (R1 room):=
 ⟨⟨VA,by simp[R1]⟩,⟨0,⟨VA,by simp[R1]⟩,by simp[R1,Qe]⟩,by simp[R1],by simp[R1],by simp[R1];omega,by simp[R1]⟩
def Bb (s:StS):Bool×StS:=
 if s.off=true∨s.armed=0 then(false,{s with off:=true})
 else if 0<s.armed then(true,{s with armed:=s.armed - 1})
 else(true,s)
def MM (s:StS)(o:OpM):Int×StS:=
 if(Bb s).1=true then(0,{(Bb s).2 with now:=Cd s.now.1 s.now.2 o,pend:=s.pend++[o]})else(8,(Bb s).2)
theorem Ue {N:Nat}{s:StS}(h:SW N s):SW N (Bb s).2:=by
 unfold Bb
 split
 ·exact⟨h.now,h.kept,h.ob,h.made,h.cap,h.armed⟩
 ·split
  ·exact⟨h.now,h.kept,h.ob,h.made,h.cap,by have:=h.armed;simp only;omega⟩
  ·exact h
theorem Hf (s:StS):(Bb s).2.now=s.now∧(Bb s).2.kept=s.kept∧(Bb s).2.pend=s.pend∧(Bb s).2.made=s.made∧(Bb s).2.cap=s.cap:=by
 unfold Bb
 split
 ·exact⟨rfl,rfl,rfl,rfl,rfl⟩
 ·split<;>exact⟨rfl,rfl,rfl,rfl,rfl⟩
theorem Xt {N:Nat}{s:StS}{o:OpM}(h:SW N s)(ho:YW o):SW (N+wt o) (MM s o).2:=by
 have hd:=Ue h;obtain⟨e1,e2,e3,e4,e5⟩:=Hf s;unfold MM
 split
 ·obtain⟨a,h1,h2⟩:=h.kept
  refine⟨h.now.step o,⟨a,by simp only[e2];exact h1,by simp only[Sf];omega⟩,?_,by simp only[e4];have:=h.made;omega,by simp only[e5];exact h.cap,hd.armed⟩;intro x hx;simp only[rN]at hx;rcases hx with hx | rfl
  ·exact h.ob x hx
  ·exact ho
 ·exact hd.mono (by omega)
structure StC (s:StS)(os:Nat)(a b c d p:AV)(pv:List OpV)(H:AH):Prop where
 obj:H[os]?=some (some (.cells [I s.cap,a,b,c,d,p,I s.made,I s.armed,B s.off]))
 now:ImV s.now.1 s.now.2 (.agg [a,b])
 kept:ImV s.kept.1 s.kept.2 (.agg [c,d])
 pm:pv.map OpV.o=s.pend
 ps:Aa H 8 p=some (pv.flatMap JW,pv.length)
 po:AM p=true
 pi:os∉AP p
 pc:BV p pv.length
def StAt (s:StS)(os:Nat)(p:AV)(H:AH):Prop:=∃a b c d pv,StC s os a b c d p pv H
structure StF (os:Nat)(p p':AV)(H H':AH):Prop where
 len:H.length≤H'.length
 same:∀j,j<H.length→j≠os→j∉AP p→H'[j]?=H[j]?
 ids:∀j∈AP p',j∈AP p∨H.length≤j
theorem StF.refl (os:Nat)(p:AV)(H:AH):StF os p p H H:=⟨sY _,λ_ _ _ _=>rfl,λ_ h=>.inl h⟩
theorem StF.trans {os:Nat}{p p' p'':AV}{A B C:AH}(h:StF os p p' A B)(k:StF os p' p'' B C):StF os p p'' A C:=
  ⟨tL h.len k.len,λj hj hne hp=>by
    rw[k.same j (tX hj h.len) hne (λhp'=>(h.ids j hp').elim hp (λq=>by omega)),h.same j hj hne hp],
   λj hj=>(k.ids j hj).elim (h.ids j) (λq=>.inr (tL h.len q))⟩
theorem StF.of_grew {os:Nat}{p:AV}{H H':AH}(g:Grew H H'):StF os p p H H':=⟨g.1,λj hj _ _=>g.2 j hj,λ_ h=>.inl h⟩
theorem StF.grew {os:Nat}{p p':AV}{H H' H'':AH}(h:StF os p p' H H')(g:Grew H' H''):StF os p p' H H'':=h.trans (.of_grew g)
theorem StC.lt {s:StS}{os:Nat}{a b c d p:AV}{pv:List OpV}{H:AH}(h:StC s os a b c d p pv H):os<H.length:=(B5.1 h.obj).1
theorem StC.grew {s:StS}{os:Nat}{a b c d p:AV}{pv:List OpV}{H H':AH}(h:StC s os a b c d p pv H)(g:Grew H H'):StC s os a b c d p pv H':=
 ⟨g.cells h.obj,h.now,h.kept,h.pm,g.slice h.ps,h.po,h.pi,h.pc⟩
theorem StAt.grew {s:StS}{os:Nat}{p:AV}{H H':AH}(h:StAt s os p H)(g:Grew H H'):StAt s os p H':=by
 obtain⟨a,b,c,d,pv,h⟩:=h;exact⟨a,b,c,d,pv,h.grew g⟩
theorem StC.set {s s':StS}{os:Nat}{a b c d a' b' c' d' p:AV}{pv:List OpV}{H:AH}(h:StC s os a b c d p pv H)(hn:ImV s'.now.1 s'.now.2 (.agg [a',b']))(hk:ImV s'.kept.1 s'.kept.2 (.agg [c',d']))(hp:s'.pend=s.pend):
  StC s' os a' b' c' d' p pv (H.set os (some (.cells [I s'.cap,a',b',c',d',p,I s'.made,I s'.armed,B s'.off])))∧StF os p p H (H.set os (some (.cells [I s'.cap,a',b',c',d',p,I s'.made,I s'.armed,B s'.off]))):=by
 refine⟨⟨IJ h.lt,hn,hk,by rw[hp];exact h.pm,Ae h.ps λi q=>Co (λe=>h.pi (by rw[e];exact q)),h.po,h.pi,h.pc⟩,by simp,λj _ hne _=>Co (uC hne),λ_ q=>.inl q⟩
theorem ImV.agg2 {ns:List Nm}{ds:List Nd}{v:AV}(h:ImV ns ds v):∃a b,v=.agg [a,b]∧oneA a=true∧oneA b=true:=by
 obtain⟨a,b,dv,rfl,h1,h2,-⟩:=h;exact⟨a,b,rfl,SV.oneA h1,SV.oneA h2⟩
theorem eN {H:AH}{os k:Nat}{cs:List AV}{x:AV}(h:H[os]?=some (some (.cells cs)))(hk:k<cs.length)(hx:oneA x=true):AU 1 H (.ptr os k) x=some (H.set os (some (.cells (cs.set k x)))):=by
 rw[A6 (n:=1) (xs:=[x]) (cs:=cs) (AL hx) h rfl hk];rfl
theorem mP (x y:AV):Am true 2 [x,y] 0=some (.agg [x,y]):=rfl
theorem fD (H:AH):A8 H (.agg [(I 0),Ad])=some (.ptr H.length 0,H++[some (.cells [I 0,Ad])]):=by simp
theorem WU (H:AH)(s:Int){R:AV}(hR:oneA R=true):AU 2 (H++[some (.cells [I 0,Ad])]) (.ptr H.length 0) (.agg [I s,R])=some (H++[some (.cells [I s,R])]):=by
 rw[A6 (n:=2) (xs:=[I s,R]) (cs:=[I 0,Ad]) (by simp[hR]) (by simp) rfl (by simp)];simp[AS]
theorem CT {H:AH}{x:AObj}:(H++[some x])[H.length]?=some (some x):=by simp
theorem mU (room:Int)(H:AH)(hr:room≤9223372036854775807):∃r H',(∃p,r=.ptr H.length 0∧H'.length=H.length+1∧StAt (R1 room) H.length p H'∧Grew H H'∧AP p=[])∧BCall prog 10 [I room] H r H':=U2 (by
 unfold T7;have e1:amm W3 [I room,(I 0)]=some (I (max room 0)):=by rw[MX,ZT,Int.max_comm]
 have e2:amm U9 [I (max room 0),(I 4096)]=some (I (min (max room 0) 4096)):=by rw[MX,ZS,Int.min_comm]
 have e3:EW [(I 0),Ad,Ad,Ad,Ad,Ad,(I 0),(I 0),(B false)] [(0,1,I (min (max room 0) 4096)),(7,1,(I (-1)))]=some (.agg [I (min (max room 0) 4096),Ad,Ad,Ad,Ad,Ad,I 0,I (-1),B false]):=rfl;have e4:A8 H (.agg [I (min (max room 0) 4096),Ad,Ad,Ad,Ad,Ad,I 0,I (-1),B false])=some (.ptr H.length 0,H++[some (.cells [I (min (max room 0) 4096),Ad,Ad,Ad,Ad,Ad,I 0,I (-1),B false])]):=by simp
 rw[e1,Ab,e2,Ab,e3,Ab,e4,A1];have hI:ImV [] [] (.agg [Ad,Ad]):=⟨Ad,Ad,[],rfl,SV.nil,SV.nil,rfl⟩;exact⟨Ad,rfl,by simp,⟨Ad,Ad,Ad,Ad,[],⟨CT,hI,hI,rfl,rfl,rfl,by simp[AP],by simp[BV]⟩⟩,Grew.app _ _,rfl⟩)
abbrev qY:=And.intro @AD @beq_self_eq_true.{0}
abbrev rG:=And.intro @Dt.{0} @EN.{0}
abbrev rH:=And.intro @Ao (And.intro @Ab @Nat.zero_add)
abbrev rI:=And.intro @Ap @D5
abbrev rJ:=And.intro @Ai @rH
abbrev rL:=And.intro @rG @rJ
abbrev rY:=And.intro @Aq @rL
abbrev sT:=And.intro @Aq @rH
theorem ZH {s:StS}{os:Nat}{p:AV}{H:AH}(h:StAt s os p H)(hb: -1≤s.armed∧s.armed≤9223372036854775807):∃r H',(r=B (Bb s).1∧StAt (Bb s).2 os p H'∧StF os p p H H')∧BCall prog 80 [.ptr os 0] H r H':=LH (by
 obtain⟨a,b,c,d,pv,h⟩:=h;unfold Jd;simp only[rY,Al h.obj,AZ]
 have stop:s.off=true∨s.armed=0→bS (AU 1 H (.ptr os 8) (B true)) λH17=>B false=B (Bb s).1∧StAt (Bb s).2 os p H17∧StF os p p H H17:=by
  intro hc;have e:Bb s=(false,{s with off:=true}):=by unfold Bb;rw[if_pos hc]
  rw[e];obtain⟨h2,h3⟩:=h.set (s':={s with off:=true}) h.now h.kept rfl;have e2:AU 1 H (.ptr os 8) (B true)=some (H.set os (some (.cells [I s.cap,a,b,c,d,p,I s.made,I s.armed,B true]))):=eN h.obj (by simp) rfl;simp only[e2,AE];exact⟨by trivial,⟨a,b,c,d,pv,h2⟩,h3⟩
 cases ho:s.off with
 | true=>
  simp only[show((true==false)=false)from rfl,Cn,sT,A4,if_true,Ag,Ap];exact stop (.inl ho)
 | false=>
  simp only[qY,rY,Al h.obj,FQ,A4,At,Ag]
  by_cases h0:s.armed=0
  ·simp only[h0,rI]
   exact stop (.inr h0)
  ·simp only[h0,rF,MP,Ag]
   have hn:¬(s.off=true∨s.armed=0):=by rintro(q | q);rw[ho]at q;cases q;exact h0 q
   by_cases hp:0<s.armed
   ·have e:Bb s=(true,{s with armed:=s.armed - 1}):=by unfold Bb;rw[if_neg hn,if_pos hp]
    rw[e];obtain⟨h2,h3⟩:=h.set (s':={s with armed:=s.armed - 1}) h.now h.kept rfl;have e1:Ax .sub (I s.armed) (I 1)=some (I (s.armed - 1)):=Ci (by omega) (by omega);have e2:AU 1 H (.ptr os 7) (I (s.armed - 1))=some (H.set os (some (.cells [I s.cap,a,b,c,d,p,I s.made,I (s.armed - 1),B s.off]))):=eN h.obj (by simp) rfl;simp only[hp,rI,e1,Ab,e2,AE];rw[F6];unfold DW;exact⟨rfl,⟨a,b,c,d,pv,h2⟩,h3⟩
   ·have e:Bb s=(true,s):=by unfold Bb;rw[if_neg hn,if_neg hp]
    rw[e];simp only[hp,rF];rw[F6];unfold DW;exact⟨rfl,⟨a,b,c,d,pv,h⟩,.refl _ _ _⟩)
theorem lQ (c a b d e f g h i:AV):Am true 2 [c,a,b,d,e,f,g,h,i] 1=some (.agg [a,b])∧Am true 2 [c,a,b,d,e,f,g,h,i] 3=some (.agg [d,e]):=⟨rfl,rfl⟩
theorem st9 {H:AH}{os:Nat}{x0 x1 x2 x3 x4 x5 x6 x7 x8 a b:AV}(h:H[os]?=some (some (.cells [x0,x1,x2,x3,x4,x5,x6,x7,x8])))(ha:oneA a=true)(hb:oneA b=true):
  AU 2 H (.ptr os 1) (.agg [a,b])=some (H.set os (some (.cells [x0,a,b,x3,x4,x5,x6,x7,x8])))∧AU 2 H (.ptr os 3) (.agg [a,b])=some (H.set os (some (.cells [x0,x1,x2,a,b,x5,x6,x7,x8]))):=by
 constructor
 ·rw[A6 (n:=2) (off:=1) (xs:=[a,b]) (by simp[ha,hb]) h rfl (by simp)];rfl
 ·rw[A6 (n:=2) (off:=3) (xs:=[a,b]) (by simp[ha,hb]) h rfl (by simp)];rfl
theorem OL {s:StS}{os:Nat}{a b c d p:AV}{pv:List OpV}{H:AH}(h:StC s os a b c d p pv H):∀j∈AP p,j<H.length:=λj q=>Au h.ps j q
abbrev rC:=And.intro @Ap @Bool.not_false
abbrev rD:=And.intro @Ah @Bool.not_true
abbrev rT:=And.intro @A1 @AE
abbrev rU:=And.intro @Bi @rA
theorem kK {N:Nat}{s:StS}{os:Nat}{p bv:AV}{H:AH}{o:OpM}(h:StAt s os p H)(hw:SW N s)(hN:N≤900000)(hb:SV QN 1 o.b bv)(ho:YW o):
  ∃r H',(r=I (MM s o).1∧∃p',StAt (MM s o).2 os p' H'∧StF os p p' H H')∧BCall prog 48 [.ptr os 0,.agg (Dm o bv)] H r H':=Og (by
 have h0:=h;obtain⟨a0,b0,c0,d0,pv0,hc0⟩:=h;unfold Lg;have obv:=SV.oneA hb;have e1:A8 H (.agg (Dm o bv))=some (.ptr H.length 0,H++[some (.cells (Dm o bv))]):=by simp[Dm,obv]
 have g:=Grew.app H [some (.cells (Dm o bv))];obtain⟨r,H3,⟨rfl,h3,f3⟩,hc⟩:=ZH (h0.grew g) hw.armed;rw[e1,A1];refine bC_of hc ?_;have sm:=hw.now.sm (by omega);obtain⟨q1,q2,q3,q4,q5⟩:=Hf s;simp only[rU];cases hd:(Bb s).1 with
 | false=>
  have e:MM s o=(8,(Bb s).2):=by unfold MM;rw[if_neg (by rw[hd];simp)]
  rw[e];simp only[rC];exact⟨by trivial,p,h3,(StF.of_grew g).trans f3⟩
 | true=>
  have e:MM s o=(0,{(Bb s).2 with now:=Cd s.now.1 s.now.2 o,pend:=s.pend++[o]}):=by unfold MM;rw[if_pos hd]
  rw[e];have hos:os<H.length:=hc0.lt;have hid:=OL hc0;obtain⟨a,b,c,d,pv,h3⟩:=h3
  have c3:H3[H.length]?=some (some (.cells (Dm o bv))):=by
   rw[f3.same H.length (by simp) (by omega) (λq=>by have:=hid _ q;omega)];exact CT
  obtain⟨R,hR,hp⟩:=WZ (o:=o) (bv:=bv) h3.now (by rw[q1];exact sm) hb (by have:=ho.1;omega) (by have:=ho.2.1;omega) (by have:=ho.2.2;omega);rw[q1]at hR;obtain⟨a',b',rfl,oa,ob⟩:=hR.agg2;have rd8:Am true 8 (Dm o bv) 0=some (.agg (Dm o bv)):=rfl;simp only[rD,sT,Al h3.obj,(lQ _ _ _ _ _ _ _ _ _).1,Al c3,rd8];refine bP_of hp ?_;obtain⟨h4,f4⟩:=h3.set (s':={(Bb s).2 with now:=Cd s.now.1 s.now.2 o}) hR h3.kept rfl;simp only[sT,(st9 h3.obj oa ob).1,AE];have c4:(H3.set os (some (AObj.cells [I (Bb s).2.cap,a',b',c,d,p,I (Bb s).2.made,I (Bb s).2.armed,B (Bb s).2.off])))[H.length]?=some (some (.cells (Dm o bv))):=by rw[Co (by omega)];exact c3
  simp only at h4 f4;generalize hH4:H3.set os (some (AObj.cells [I (Bb s).2.cap,a',b',c,d,p,I (Bb s).2.made,I (Bb s).2.armed,B (Bb s).2.off]))=H4 at*
  have e6:PJ 8 1 (Bo [(I 0),(I 0),(I 0),(I 0),(B false),(.lit (.string ⟨#[]⟩)),(.lit (.string ⟨#[]⟩)),Ad] 1) [(0,8,.agg (Dm o bv))]=some (.imm (JW ⟨o,bv,hb⟩) 1 8):=by
   simp[PJ,Bo,JW,Dm,QA,obv,AS]
  have x1:AX H4 8 (.imm (JW ⟨o,bv,hb⟩) 1 8)=some (JW ⟨o,bv,hb⟩,1):=AJ (by simp[Aa,JW,Dm]);have hpl:pv.length=s.pend.length:=by rw[← q3,← h3.pm,uE]
  have hplN:=hw.plen;obtain⟨r,H5,a1,a2,a3,a4,a5,a6⟩:=DK (bytes:=96) h4.ps h4.po x1 (by omega);have a7:=MO h4.ps h4.po x1 h4.pc a1;have c5:H5[os]?=some (some (.cells [I (Bb s).2.cap,a',b',c,d,p,I (Bb s).2.made,I (Bb s).2.armed,B (Bb s).2.off])):=by rw[a5 os h4.lt h4.pi];exact h4.obj
  have hor:os∉AP r:=λq=>(a6 os q).elim h4.pi (λq=>by have:=h4.lt;omega)
  have e7:AU 1 H5 (.ptr os 5) r=some (H5.set os (some (.cells [I (Bb s).2.cap,a',b',c,d,r,I (Bb s).2.made,I (Bb s).2.armed,B (Bb s).2.off]))):=eN c5 (by simp) (AK a2);simp only[Al h4.obj,rY,Al c4,rd8,e6,a1,rT,e7];have hl5:os<H5.length:=(B5.1 c5).1;refine⟨by trivial,r,⟨a',b',c,d,pv++[⟨o,bv,hb⟩],⟨IJ hl5,hR,h3.kept,?_,?_,a2,hor,by simpa using a7⟩⟩,?_⟩
  ·rw[vA,h3.pm,q3];rfl
  ·have:=Ae a3 (H':=H5.set os (some (.cells [I (Bb s).2.cap,a',b',c,d,r,I (Bb s).2.made,I (Bb s).2.armed,B (Bb s).2.off]))) λi q=>Co (λe=>hor (by rw[e];exact q))
   simpa using this
  ·have f5:StF os p r H4 (H5.set os (some (.cells [I (Bb s).2.cap,a',b',c,d,r,I (Bb s).2.made,I (Bb s).2.armed,B (Bb s).2.off]))):=⟨by simpa using a4,λj hj hne hjp=>by rw[Co (uC hne),a5 j hj hjp],a6⟩
   exact((StF.of_grew g).trans f3).trans (f4.trans f5))
theorem gK {N:Nat}{s:StS}{os:Nat}{p:AV}{H:AH}(h:StAt s os p H)(hw:SW N s)(hN:N≤900000):∃R,ImV s.now.1 s.now.2 R∧∃r H',(r=R∧Grew H H')∧BCall prog 14 [.ptr os 0] H r H':=by
 obtain⟨a,b,c,d,pv,h⟩:=h;obtain⟨R,hR,hp⟩:=iH h.now (hw.now.sm (by omega));refine⟨R,hR,MG ?_⟩;unfold JR;obtain⟨a',b',rfl,oa,ob⟩:=hR.agg2;have e1:A8 H (.agg [Ad,Ad])=some (.ptr H.length 0,H++[some (.cells [Ad,Ad])]):=by simp
 have g:=Grew.app H [some (.cells [Ad,Ad])]
 have e2:AU 2 (H++[some (.cells [Ad,Ad])]) (.ptr H.length 0) (.agg [a',b'])=some (H++[some (.cells [a',b'])]):=by
  rw[A6 (n:=2) (xs:=[a',b']) (cs:=[Ad,Ad]) (by simp[oa,ob]) (by simp) rfl (by simp)];simp[AS]
 simp only[e1,A1,sT,Al (g.cells h.obj),(lQ _ _ _ _ _ _ _ _ _).1];refine A3 hp ?_;simp only[e2,AE,Al CT,mP,Ab];exact⟨by trivial,Grew.app _ _⟩
def ST (s:StS):Int:=max 0 (s.cap - Kd s.now.2)
theorem bZ {M:Nat}{i:YP}(h:Few1 M i):Kd i.2≤16*M:=by
 have h1:=U4 h.2;have h2:=h.1.len2;exact tL h1 (tE _ h2)
theorem iK {N:Nat}{s:StS}{os:Nat}{p:AV}{H:AH}(h:StAt s os p H)(hw:SW N s)(hN:N≤900000):BCall prog 21 [.ptr os 0] H (I (ST s)) H:=by
 obtain⟨r,H',⟨rfl,rfl⟩,hc⟩:=LD (a0:=.ptr os 0) (H:=H) (K:=λr H'=>r=I (ST s)∧H'=H) (by
  obtain⟨a,b,c,d,pv,h⟩:=h;unfold IY;have hu:=iQ h.now (hw.now.sm (by omega));rw[gF hw.now.1]at hu;have hs:=bZ hw.now;have hcap:=hw.cap;have e1:Ax .sub (I s.cap) (I (Kd s.now.2:Int))=some (I (s.cap - Kd s.now.2)):=Ci (by omega) (by omega);have e2:amm W3 [(I 0),I (s.cap - Kd s.now.2)]=some (I (ST s)):=by rw[MX,ZT,Int.max_comm];rfl
  simp only[Aq,rJ,Al h.obj,Dt,(lQ _ _ _ _ _ _ _ _ _).1];refine bP_of hu ?_;simp only[e1,Ab,e2];exact⟨by trivial,by trivial⟩)
 exact hc
def A9 (s:StS)(ino:Int):F9×Int:=
 if s.off=true then((0,[]),8)else if Sx s.now.1 s.now.2 ino then(((GJ s.now.1 s.now.2 ino).size,(GJ s.now.1 s.now.2 ino).l),0)else((0,[]),3)
abbrev rV:=And.intro @AB @rG
theorem O6 {N:Nat}{s:StS}{os:Nat}{p:AV}{H:AH}(h:StAt s os p H)(hw:SW N s)(hN:N≤900000)(ino:Int):
  ∃R,SV Aw 9 (A9 s ino).1.2 R∧∃r H',(r=.tup [.agg [I (A9 s ino).1.1,R],I (A9 s ino).2]∧Grew H H')∧BCall prog 49 [.ptr os 0,I ino] H r H':=by
 obtain⟨a,b,c,d,pv,h⟩:=h;have e0:EW [(I 0),Ad] []=some (.agg [I 0,Ad]):=rfl;have g:=Grew.app H [some (.cells [I 0,Ad])];cases ho:s.off with
 | true=>
  have e:A9 s ino=((0,[]),8):=by unfold A9;rw[if_pos ho]
  rw[e];refine⟨Ad,SV.nil,DJ ?_⟩;unfold Do;simp only[fD,rT,rY,Al (g.cells h.obj),ho,Ag,Ap,e0,WU H 0 (R:=Ad) rfl,Al CT,mP];exact⟨by trivial,Grew.app _ _⟩
 | false=>
  have sm:=hw.now.sm (by omega);obtain⟨R,hR,hp⟩:=gJ h.now sm ino;have oR:=SV.oneA hR
  by_cases hg:Sx s.now.1 s.now.2 ino
  ·have e:A9 s ino=(((GJ s.now.1 s.now.2 ino).size,(GJ s.now.1 s.now.2 ino).l),0):=by unfold A9;rw[if_neg (by rw[ho];simp),if_pos hg]
   rw[e];refine⟨R,hR,DJ ?_⟩;unfold Do;simp only[fD,A1,rY,Al (g.cells h.obj),ho,Ag,Ah,(lQ _ _ _ _ _ _ _ _ _).1];refine A3 hp ?_;have g2:=Grew.app (H++[some (AObj.cells [I 0,Ad])]) [some (AObj.cells [I (GJ s.now.1 s.now.2 ino).size,R])]
   have e5:AU 2 (H++[some (AObj.cells [I 0,Ad])]++[some (AObj.cells [I (GJ s.now.1 s.now.2 ino).size,R])]) (.ptr H.length 0) (.agg [I (GJ s.now.1 s.now.2 ino).size,R])=some (H++[some (AObj.cells [I (GJ s.now.1 s.now.2 ino).size,R])]++[some (AObj.cells [I (GJ s.now.1 s.now.2 ino).size,R])]):=by
    rw[A6 (n:=2) (xs:=[I (GJ s.now.1 s.now.2 ino).size,R]) (cs:=[I 0,Ad]) (by simp[oR]) (g2.cells CT) rfl (by simp)];simp[AS]
   have g3:=Grew.app (H++[some (AObj.cells [I (GJ s.now.1 s.now.2 ino).size,R])]) [some (AObj.cells [I (GJ s.now.1 s.now.2 ino).size,R])];simp only[rV,rU,fD,rT,WU _ _ oR,hg,D5,rD,Al CT,mP,e5,Al (g3.cells CT)];exact⟨by trivial,(Grew.app H _).trans g3⟩
  ·have e:A9 s ino=((0,[]),3):=by unfold A9;rw[if_neg (by rw[ho];simp),if_neg hg]
   rw[e];refine⟨Ad,SV.nil,DJ ?_⟩;unfold Do;simp only[fD,A1,rY,Al (g.cells h.obj),ho,Ag,Ah,(lQ _ _ _ _ _ _ _ _ _).1];refine A3 hp ?_;have g2:=Grew.app (H++[some (AObj.cells [I 0,Ad])]) [some (AObj.cells [I (GJ s.now.1 s.now.2 ino).size,R])]
   have e5:AU 2 (H++[some (AObj.cells [I 0,Ad])]++[some (AObj.cells [I (GJ s.now.1 s.now.2 ino).size,R])]) (.ptr H.length 0) (.agg [I 0,Ad])=some (H++[some (AObj.cells [I 0,Ad])]++[some (AObj.cells [I (GJ s.now.1 s.now.2 ino).size,R])]):=by
    rw[A6 (n:=2) (xs:=[I 0,Ad]) (cs:=[I 0,Ad]) rfl (g2.cells CT) rfl (by simp)];simp[AS]
   simp only[rV,rU,fD,rT,WU _ _ oR,hg,Dp,rC,e0,e5,Al (g2.cells CT),mP];exact⟨by trivial,g.trans g2⟩
def Ho (s:StS)(name:List UInt8):Int×Int:=
 if s.off=true then(0,8)else if ¬Gi name then(0,5)else if AO Nm.name s.now.1 name then(Ey s.now.1 name,0)else(0,3)
abbrev rE:=And.intro @D5 @if_true.{1}
theorem kQ {N:Nat}{s:StS}{os:Nat}{p:AV}{H:AH}(h:StAt s os p H)(hw:SW N s)(hN:N≤900000){name:List UInt8}(hn:name.length≤9223372036854775807):
  BCall prog 47 [.ptr os 0,S (As name)] H (.tup [I (Ho s name).1,I (Ho s name).2]) H:=by
 obtain⟨r,H',⟨rfl,rfl⟩,hc⟩:=LI (a0:=.ptr os 0) (a1:=S (As name)) (H:=H) (K:=λr H'=>r=.tup [I (Ho s name).1,I (Ho s name).2]∧H'=H) (by
  obtain⟨a,b,c,d,pv,h⟩:=h;unfold Je;unfold Ho;simp only[rY,Al h.obj,Ag];cases ho:s.off with
  | true=>simp only[if_true,Ap];exact⟨by trivial,by trivial⟩
  | false=>
   simp only[Ah,At];refine A3 (Ll hn) ?_
   by_cases hm:Gi name
   ·simp only[hm,D5,rU,rD,not_true_eq_false,if_false]
    have hf:=iJ h.now (hw.now.sm (by omega)) name;obtain⟨w1,w2⟩:=eM hw.now.1 name;rw[w1,show decide (Rh s.now.1 s.now.2 name)=decide (AO Nm.name s.now.1 name)from decide_eq_decide.2 w2]at hf;simp only[sT,Al h.obj,(lQ _ _ _ _ _ _ _ _ _).1];refine A3 hf ?_
    by_cases hk:AO Nm.name s.now.1 name
    ·simp only[rV,rU,hk,rE,rD]
     exact⟨by trivial,by trivial⟩
    ·simp only[rV,rU,hk,Dp,rC,if_false]
     exact⟨by trivial,by trivial⟩
   ·simp only[hm,Dp,rU,rC,not_false_eq_true,if_true]
    exact⟨by trivial,by trivial⟩)
 exact hc
def E9 (name:List UInt8)(i:Int):OpM:=⟨1,i,0,0,false,name,[],[]⟩
def WK (ino size:Int):OpM:=⟨3,ino,0,size,false,[],[],[]⟩
theorem aP (ino size:Int):YW (WK ino size):=⟨by simp[WK],by simp[WK],by simp[WK]⟩
def Bc (s:StS)(name:List UInt8)(make:Bool):(Int×Int)×StS:=
 if(Ho s name).2≠3∨make=false then(Ho s name,s)
 else if 16≤s.now.1.length then((0,4),s)
 else if(MM s (E9 name (s.made+1))).1≠0 then((0,(MM s (E9 name (s.made+1))).1),(MM s (E9 name (s.made+1))).2)
 else((s.made+1,0),{(MM s (E9 name (s.made+1))).2 with made:=s.made+1})
theorem Xu {s:StS}{name:List UInt8}(h:(Ho s name).2=3):Gi name∧¬AO Nm.name s.now.1 name∧s.off=false:=by
 unfold Ho at h;split at h
 ·simp at h
 ·split at h
  ·simp at h
  ·split at h
   ·simp at h
   ·rename_i h1 h2 h3
    exact⟨uB h2,h3,by simpa using h1⟩
theorem Ql {N:Nat}{s:StS}(h:SW N s)(name:List UInt8)(make:Bool):SW (N+1) (Bc s name make).2:=by
 unfold Bc
 split
 ·exact h.mono (by omega)
 ·rename_i hf
  have hn:Gi name:=(Xu (uB λq=>hf (.inl q))).1;have ho:YW (E9 name (s.made+1)):=⟨by simp[E9],hn.2.1,by simp[E9]⟩;have hd:=Xt h ho;have hwt:wt (E9 name (s.made+1))=1:=rfl;rw[hwt]at hd
  split
  ·exact h.mono (by omega)
  ·split
   ·exact hd
   ·exact⟨hd.now,hd.kept,hd.ob,by simp only;have:=h.made;omega,hd.cap,hd.armed⟩
abbrev qX:=And.intro @ne_eq.{1} @not_false_eq_true
abbrev sK:=And.intro @CA @rA
abbrev sS:=And.intro @Ap @rE
theorem Wi {N:Nat}{s:StS}{os:Nat}{p:AV}{H:AH}(h:StAt s os p H)(hw:SW N s)(hN:N<900000){name:List UInt8}(hn:name.length≤9223372036854775807)(make:Bool):
  ∃r H',(r=.tup [I (Bc s name make).1.1,I (Bc s name make).1.2]∧∃p',StAt (Bc s name make).2 os p' H'∧StF os p p' H H')∧BCall prog 18 [.ptr os 0,S (As name),B make] H r H':=LE (by
 unfold IZ;refine bC_of (kQ h hw (by omega) hn) ?_;have hmade:=hw.made;simp only[rV,Ab,CA,AZ]
 by_cases h3:(Ho s name).2=3
 ·obtain⟨hm,hk,hoff⟩:=Xu h3
  simp only[h3,qW,Dp,qY,rU,A4,At];cases make with
  | false=>
   have e:Bc s name false=(Ho s name,s):=by unfold Bc;rw[if_pos (.inr rfl)]
   rw[e];simp only[rC];exact⟨by rw[h3],p,h,.refl _ _ _⟩
  | true=>
   have hn0:¬((Ho s name).2≠3∨true=false):=by rintro(q | q);exact q h3;cases q
   have h':=h;obtain⟨a,b,c,d,pv,hc⟩:=h;obtain⟨a',b',dv,eab,sa,sb,-⟩:=hc.now;injection eab with eab;injection eab with ea eb;subst ea;simp only[rD,rY,uU,Al hc.obj,sa.len,GG,Ag]
   by_cases h16:16≤s.now.1.length
   ·have h16I:(16:Int)≤(s.now.1.length:Int):=by omega
    have e:Bc s name true=((0,4),s):=by unfold Bc;rw[if_neg hn0,if_pos h16]
    rw[e];simp only[h16I,rI];exact⟨by trivial,p,h',.refl _ _ _⟩
   ·have h16I:¬(16:Int)≤(s.now.1.length:Int):=by omega
    have ho:YW (E9 name (s.made+1)):=⟨by simp[E9],hm.2.1,by simp[E9]⟩;have e1:Ax .add (I s.made) (I 1)=some (I (s.made+1)):=Az (by omega) (by omega);have e2:EW [(I 0),(I 0),(I 0),(I 0),(B false),(.lit (.string ⟨#[]⟩)),(.lit (.string ⟨#[]⟩)),Ad] [(0,1,(I 1)),(5,1,S (As name)),(1,1,I (s.made+1))]=some (.agg (Dm (E9 name (s.made+1)) Ad)):=rfl;simp only[h16I,rF,rY,Al hc.obj,e1,e2];obtain⟨r,H2,⟨rfl,p2,h2,f2⟩,hcall⟩:=kK (bv:=Ad) h' hw (by omega) SV.nil ho;refine bC_of hcall ?_;simp only[sK]
    by_cases hd:(MM s (E9 name (s.made+1))).1=0
    ·have e:Bc s name true=((s.made+1,0),{(MM s (E9 name (s.made+1))).2 with made:=s.made+1}):=by unfold Bc;rw[if_neg hn0,if_neg h16,if_neg (by rw[hd];simp)]
     rw[e]
     have emade:(MM s (E9 name (s.made+1))).2.made=s.made:=by
      obtain⟨-,-,-,q4,-⟩:=Hf s;unfold MM;split<;>exact q4
     obtain⟨a2,b2,c2,d2,pv2,hc2⟩:=h2;obtain⟨h3',f3⟩:=hc2.set (s':={(MM s (E9 name (s.made+1))).2 with made:=s.made+1}) hc2.now hc2.kept rfl;have e3:AU 1 H2 (.ptr os 6) (I (s.made+1))=some (H2.set os (some (.cells [I (MM s (E9 name (s.made+1))).2.cap,a2,b2,c2,d2,p2,I (s.made+1),I (MM s (E9 name (s.made+1))).2.armed,B (MM s (E9 name (s.made+1))).2.off]))):=eN hc2.obj (by simp) rfl;have hob:=hc2.obj;rw[emade]at hob;simp only[hd,qW,rF,rY,Al hob,e1,e3,AE,Al h3'.obj];exact⟨by trivial,p2,⟨a2,b2,c2,d2,pv2,h3'⟩,f2.trans f3⟩
    ·have e:Bc s name true=((0,(MM s (E9 name (s.made+1))).1),(MM s (E9 name (s.made+1))).2):=by unfold Bc;rw[if_neg hn0,if_neg h16,if_pos hd]
     rw[e];simp only[hd,qX,rI];exact⟨by trivial,p2,h2,f2⟩
 ·have e:Bc s name make=(Ho s name,s):=by unfold Bc;rw[if_pos (.inl h3)]
  rw[e];simp only[h3,qX,sS,show((true==false)=false)from rfl,Cn,rA,A4];exact⟨by trivial,p,h,.refl _ _ _⟩)
def Es (s:StS)(ino size:Int):Int×StS:=
 if(A9 s ino).2≠0 then((A9 s ino).2,s)else if D1 (A9 s ino).1 size=none then(5,s)else MM s (WK ino size)
theorem Oi {N:Nat}{s:StS}(h:SW N s)(ino size:Int):SW (N+1) (Es s ino size).2:=by
 unfold Es
 split
 ·exact h.mono (by omega)
 ·split
  ·exact h.mono (by omega)
  ·exact Xt h (aP ino size)
theorem Pm {N:Nat}{s:StS}(h:SW N s)(ino:Int):(A9 s ino).1.2.length≤N:=by
 unfold A9
 split
 ·simp
 ·split
  ·rename_i hg
   obtain⟨d,hd,rfl⟩:=hg.2;rw[(Ui h.now.1 hd).1];exact h.now.2 d hd
  ·simp
abbrev sI:=And.intro @Ab @rF
abbrev wU:=@Option.isSome_none
theorem TF {N:Nat}{s:StS}{os:Nat}{p:AV}{H:AH}(h:StAt s os p H)(hw:SW N s)(hN:N<900000)(ino size:Int):
  ∃r H',(r=I (Es s ino size).1∧∃p',StAt (Es s ino size).2 os p' H'∧StF os p p' H H')∧BCall prog 19 [.ptr os 0,I ino,I size] H r H':=Jc (by
 unfold Gn;obtain⟨R,hR,r,H1,⟨rfl,g1⟩,hc⟩:=O6 h hw (by omega) ino;have hlen:=Pm hw ino;refine bC_of hc ?_;unfold Es;generalize A9 s ino=ct at*;have oR:=SV.oneA hR;have h1:=h.grew g1;have g2:=Grew.app H1 [some (.cells [I ct.1.1,R])];have h2:=h1.grew g2;simp only[rV,sK,fD,rT,WU _ _ oR]
 by_cases hc0:ct.2=0
 ·simp only[hc0,rM,sI,Al CT,mP]
  obtain⟨R2,hR2,hp⟩:=HT (size0:=ct.1.1) hR (by omega) size;refine A3 hp ?_;have oR2:=SV.oneA hR2;have g3:=Grew.app (H1++[some (AObj.cells [I ct.1.1,R])]) [some (.cells [I (cS (D1 (ct.1.1,ct.1.2) size)),R2])];have h3:=h2.grew g3;have ff:StF os p p H (H1++[some (AObj.cells [I ct.1.1,R])]++[some (.cells [I (cS (D1 (ct.1.1,ct.1.2) size)),R2])]):=.of_grew ((g1.trans g2).trans g3);simp only[rV,rU,fD,rT,WU _ _ oR2];cases ht:D1 (ct.1.1,ct.1.2) size with
  | none=>
   have ht':D1 ct.1 size=none:=ht;rw[ht]at h3 ff;simp only[wU,rC,ht',if_true];exact⟨by trivial,p,h3,ff⟩
  | some c2=>
   have ht':¬D1 ct.1 size=none:=by rw[show D1 ct.1 size=some c2 from ht];simp
   rw[ht]at h3 ff;have e2:EW [(I 0),(I 0),(I 0),(I 0),(B false),(.lit (.string ⟨#[]⟩)),(.lit (.string ⟨#[]⟩)),Ad] [(0,1,(I 3)),(1,1,I ino),(3,1,I size)]=some (.agg (Dm (WK ino size) Ad)):=rfl;simp only[vE,rD,ht',if_false,e2,Ab];obtain⟨r,H2,⟨rfl,p2,h4,f4⟩,hcall⟩:=kK (bv:=Ad) (o:=WK ino size) h3 hw (by omega) SV.nil (aP ino size);exact bC_of hcall ⟨rfl,p2,h4,ff.trans f4⟩
 ·simp only[hc0,qX,sS]
  exact⟨by trivial,p,h2,.of_grew (g1.trans g2)⟩)
theorem Kr {N:Nat}{s:StS}(h:SW N s){ino:Int}(h0:(A9 s ino).2=0):∃d∈s.now.2,d.ino=ino∧(A9 s ino).1=(d.size,d.l)∧s.off=false:=by
 unfold A9 at h0⊢;split at h0
 ·simp at h0
 ·rename_i h1
  split at h0
  ·rename_i hg
   obtain⟨d,hd,rfl⟩:=hg.2;rw[if_neg h1,if_pos hg,(Ui h.now.1 hd).1];exact⟨d,hd,rfl,rfl,by simpa using h1⟩
  ·simp at h0
theorem lJ {N:Nat}{X:AH}{o:Nat}(hN:N≤o):(old N X)[o]?=X[o]?:=by
 unfold old;rw[tA (by simpa using hN),List.length_replicate,tG,show N+(o - N)=o by omega]
theorem BCall.fzS {P:Program}{f:FuncId}{args:List AV}{H X:AH}{r:AV}{sz m:Nat}{cs:List AV}(h:BCall P f args H r X)(g:Grew H X)(hs:Aa X sz r=some (cs,m))(hi:∀i∈AP r,H.length≤i)(hn:Ay cs=true):
  ∃R,(noIds R=true∧∀H,Aa H sz R=some (cs,m))∧BCall P f args H R H:=by
 have hs2:Aa (old H.length X) sz r=some (cs,m):=Ae hs λi q=>lJ (hi i q)
 obtain⟨R,n0,h1,h2,h3⟩:=OJ hs2 hn;refine⟨R,⟨h1,h2⟩,ACalls.fzNew (R':=λr'=>r'=R) h ?_⟩;rintro r1 H1 ⟨rfl,rfl⟩;exact⟨g.1,g.2,n0,R,h3 n0 (sY _),rfl⟩
theorem Zz {H:AH}{v:AV}{l:List UInt8}(h:Aa H 1 v=some (AY l,l.length))(hl:l.length≤1000000000):∃R,SV QN 1 l R∧BCall prog 101 [v] H R H:=by
 obtain⟨r,X,⟨hs,g,hi⟩,hc⟩:=Hy (a0:=v) (H:=H) (K:=λr X=>Aa X 1 r=some (AY l,l.length)∧Grew H X∧∀i∈AP r,H.length≤i) (by
  unfold Fc;rcases Jv h with⟨rfl,e1,e2⟩ | hb
  ·have e:UH .eql LC Ad Ad=some (B true):=rfl
   simp only[e,rA,Ap];exact⟨h,Grew.refl H,by simp[AP]⟩
  ·simp only[hb,rA,Ah]
   have e:Dh H 1 0 (Bo [u0Z] 0) []=some (.sl H.length 0 0 1 (.ex 0),H++[some (.cells [])]):=rfl;simp only[e,A1];have g:=Grew.app H [some (.cells [])];have h0:Aa (H++[some (.cells [])]) 1 (.sl H.length 0 0 1 (.ex 0))=some ([],0):=by simp[Aa]
   obtain⟨r,H2,a1,a2,a3,a4,a5,a6⟩:=DK (sz:=1) (bytes:=1) (H:=H++[some (.cells [])]) (v:=.sl H.length 0 0 1 (.ex 0)) (cs:=[]) (n:=0) h0 rfl (AJ (g.slice h)) (by omega);simp only[a1,A1];refine⟨by simpa using a3,⟨by simp at a4;omega,λi hi=>?_⟩,λi hi=>?_⟩
   ·rw[a5 i (by simp;omega) (by simp[AP];omega)]
    exact g.2 i hi
   ·rcases a6 i hi with h | h
    ·simp[AP]at h;omega
    ·simp at h;omega)
 obtain⟨R,⟨h1,h2⟩,h3⟩:=BCall.fzS hc g hs hi (P3 _);exact⟨R,⟨h1,λH=>by rw[h2 H,OI]⟩,h3⟩
theorem eR:Bs prog 165=true:=by kernel_rfl
theorem kT (x:Ext)(no:Int):BPure prog 165 [.agg (Aw x),.ip [I no]] (B (decide (x.no=no))):=BPure.val (by simp[Ay,noIds,EY]) rfl (RV (by
 unfold PE;have e1:A8 [] (.agg (Aw x))=some (.ptr 0 0,[some (.cells (Aw x))]):=by simp
 have e2:(Aw x)[0]?=some (I x.no):=rfl;have e3:([some (.cells (Aw x))]:AH)[0]?=some (some (.cells (Aw x))):=rfl;simp only[e1,A1,rJ,Al e3,e2,TM,Dt,FQ]
 try trivial))
theorem pI (x:Ext)(t:List AV):Am true 9 (Aw x++t) 0=some (.agg (Aw x)):=by
 have:=A2 x
 simp only[Am,if_true,tH,this,uA];rw[if_pos (by omega),tJ (by omega),sZ (by omega)]
abbrev rP:=And.intro @List.cons_append.{0} @List.nil_append.{0}
abbrev sO:=And.intro @Bool.true_or @Qg
theorem ZR {l:List Ext}{v:AV}(hv:SV Aw 9 l v)(hl:l.length≤281474976710656)(no:Int):∃j:Int,(0≤j↔Cf l no)∧BPure prog 167 [v,.fn (.func 165) [] [.ip [I no]]] (I j):=by
 have key:∃r X,(∃j:Int,r=I j∧(0≤j↔Cf l no))∧BCall prog 167 [v,.fn (.func 165) [] [.ip [I no]]] [] r X:=C7 (by
  unfold BT;simp only[hv.len,Ab];refine BZ (λn x0 x1 x7 x8 H'=>∃k:Nat,k+n=l.length∧x0=v∧x1=.fn (.func 165) [] [.ip [I no]]∧x7=I l.length∧x8=I k∧∀(m:Nat) y,m<k→l[m]?=some y→y.no≠no) ?_ l.length ⟨0,by omega,rfl,rfl,rfl,rfl,by omega⟩;rintro n x0 x1 x7 x8 H R hR ⟨k,hk,rfl,rfl,rfl,rfl,hb⟩;unfold B7;rcases tD k l.length with h | h
  ·have hx:=E5 h
   generalize l[k]=y at hx;have kI:(k:Int)<(l.length:Int):=by omega
   simp only[rX,kI,rI,hv.idx A2 hx rfl,TM,pI,Xl,eR,sO,rP];refine bC_of (kT y no H) ?_;simp only[Ag]
   by_cases c:y.no=no
   ·simp only[c,rI]
    exact⟨k,rfl,by simp only[Int.natCast_nonneg,true_iff];exact⟨y,tB hx,c⟩⟩
   ·simp only[c,sI,Az (a:=k) (b:=1) (by omega) (by omega)]
    refine hR (n - 1) _ _ _ _ _ (by omega) ⟨k+1,by omega,rfl,rfl,rfl,by simp,?_⟩;intro m z hm hz
    by_cases e:m=k
    ·rw[e,hx]at hz;injection hz with hz;rw[← hz];exact c
    ·exact hb m z (by omega) hz
  ·have kI:¬(k:Int)<(l.length:Int):=by omega
   simp only[rX,kI,rF];refine⟨-1,rfl,by simp only[show ¬(0:Int)≤-1 by omega,false_iff];rintro⟨y,hy,e⟩;obtain⟨m,hm⟩:=tK.1 hy;exact hb m y (by have:=(B5.1 hm).1;omega) hm e⟩)
 obtain⟨r,X,⟨j,rfl,hj⟩,hc⟩:=key;exact⟨j,hj,BPure.val (by simp[Ay,noIds,hv.1]) rfl ⟨_,_,rfl,hc⟩⟩
theorem Wh {l:List Ext}{v:AV}(hv:SV Aw 9 l v)(hl:l.length≤281474976710656)(no:Int):BPure prog 164 [v,.fn (.func 165) [] [.ip [I no]]] (B (decide (Cf l no))):=by
 obtain⟨j,hj,hp⟩:=ZR hv hl no;refine BPure.flat λH=>Ec ?_
 unfold C3;refine A3 hp ?_;simp only[GG,Ab];exact⟨by congr 3;exact propext hj,by trivial⟩
theorem oQ {size:Int}{l:List Ext}{v:AV}(hv:SV Aw 9 l v)(hl:l.length≤281474976710656)(no:Int):BPure prog 100 [.agg [I size,v],I no] (B (decide (Cf l no))):=BPure.val (by simp[Ay,noIds,hv.1]) rfl (U3 (by
 have ov:=SV.oneA hv;unfold T8;have e1:A8 [] (.agg [I size,v])=some (.ptr 0 0,[some (.cells [I size,v])]):=by simp[ov]
 have e2:A8 [some (.cells [I size,v])] (I no)=some (.ptr 1 0,[some (.cells [I size,v]),some (.cells [I no])]):=rfl;have e3:([some (.cells [I size,v]),some (.cells [I no])]:AH)[0]?=some (some (.cells [I size,v])):=rfl;simp only[e1,A1,e2,rL,Al e3]
 have hf:FZs [some (.cells [I size,v]),some (.cells [I no])] [v,.fn (.func 165) [] [.ptr 1 0]] [v,.fn (.func 165) [] [.ip [I no]]]:=by
  refine FZs.cons (FZ.same hv.1) (FZs.cons ⟨3,λn hn=>?_⟩ FZs.nil);obtain⟨n,rfl⟩:∃m,n=m+3:=⟨n - 3,by omega⟩;rfl
 refine bP_of (PCall.lend hf rfl (Wh hv hl no)) ?_
 try trivial))
theorem Xs:∀{f:Nat} {p n:Int} {q:Sp},0≤p→q∈Ei f p n 8→p≤q.pos∧0<q.len∧q.len≤8∧q.pos+q.len≤p+n
 | 0,p,n,q,_,h=>by simp[Ei]at h
 | f+1,p,n,q,hp,h=>by
  unfold Ei at h;split at h
  ·rename_i hn
   have h1:=wS p (show(0:Int)<8 by omega);have h2:=xD p (show(8:Int)≠0 by omega);rcases tU.1 h with rfl | h
   ·simp only;omega
   ·have:=Xs (by omega) h
    omega
  ·simp at h
def La (ino pos:Int)(b:List UInt8):OpM:=⟨2,ino,pos,0,false,[],[],b⟩
theorem WL {ino pos:Int}{b:List UInt8}(h:b.length≤8):YW (La ino pos b):=⟨by show b.length≤_;omega,by simp[La],by simp[La]⟩
def EZ (b:List UInt8)(pos:Int)(q:Sp):List UInt8:=(b.drop (q.pos - pos).toNat).take q.len.toNat
def WW (c:List Ext)(ino pos:Int)(b:List UInt8):List Sp→StS→(Int×Int)×StS
 | [],s=>((b.length,0),s)
 | q::r,s=>
  if ¬Cf c (q.pos/8)∧ST s=0 then((q.pos - pos,4),s)
  else if(MM s (La ino q.pos (EZ b pos q))).1≠0 then((q.pos - pos,(MM s (La ino q.pos (EZ b pos q))).1),(MM s (La ino q.pos (EZ b pos q))).2)
  else WW c ino pos b r (MM s (La ino q.pos (EZ b pos q))).2
def SS (pos:Int)(n:Nat):Prop:=0≤pos∧n≤4096∧pos≤1099511627776 - n
instance (pos:Int) (n:Nat):Decidable (SS pos n):=by unfold SS;infer_instance
def Cs (s:StS)(ino pos:Int)(b:List UInt8):(Int×Int)×StS:=
 if(A9 s ino).2≠0 then((0,(A9 s ino).2),s)else if ¬SS pos b.length then((0,5),s)
 else WW (A9 s ino).1.2 ino pos b (Fz ⟨pos,b.length⟩ 8) s
theorem RJ {pos:Int}{b:List UInt8}{q:Sp}(hf:SS pos b.length)(h:q∈Fz ⟨pos,b.length⟩ 8):pos≤q.pos∧0<q.len∧q.len≤8∧q.pos+q.len≤pos+b.length:=by
 unfold Fz at h;split at h
 ·exact Xs hf.1 h
 ·simp at h
theorem Tq {b:List UInt8}{pos:Int}{q:Sp}(h:pos≤q.pos∧0<q.len∧q.len≤8∧q.pos+q.len≤pos+b.length):(EZ b pos q).length=q.len.toNat:=by
 unfold EZ;rw[sX,tC];omega
theorem iG {c:List Ext}{ino pos:Int}{b:List UInt8}:∀{l:List Sp} {N:Nat} {s:StS},(∀q∈l,pos≤q.pos∧0<q.len∧q.len≤8∧q.pos+q.len≤pos+b.length)→SW N s→SW (N+9*l.length) (WW c ino pos b l s).2
 | [],N,s,_,h=>h
 | q::r,N,s,hq,h=>by
  have h1:=hq q (by simp);have hl:=Tq h1;have hd:=Xt (o:=La ino q.pos (EZ b pos q)) h (WL (by omega))
  have hwt:wt (La ino q.pos (EZ b pos q))≤9:=by
   show 1+(EZ b pos q).length+(if(2:Int)=4 then 4098 else 0)≤9
   rw[if_neg (by omega)];omega
  unfold WW;simp only[tP]
  split
  ·exact h.mono (by omega)
  ·split
   ·exact hd.mono (by omega)
   ·exact(iG (λx hx=>hq x (by simp[hx])) hd).mono (by omega)
theorem Ts {pos:Int}{b:List UInt8}(hf:SS pos b.length):(Fz ⟨pos,b.length⟩ 8).length≤b.length:=by
 unfold Fz
 split
 ·have:∀(f:Nat) (p n:Int),(Ei f p n 8).length≤f:=by
   intro f
   induction f with
   | zero=>intro p n;simp[Ei]
   | succ f ih=>
    intro p n;unfold Ei
    split
    ·simp only[tP];have:=ih (p+min n (8 - p % 8)) (n - min n (8 - p % 8));omega
    ·simp
  have h2:=this (b.length:Int).toNat pos b.length;have e:((b.length:Int)).toNat=b.length:=by omega
  simp only;omega
 ·simp
theorem Se {N:Nat}{s:StS}(h:SW N s)(ino pos:Int)(b:List UInt8):SW (N+9*b.length) (Cs s ino pos b).2:=by
 unfold Cs
 split
 ·exact h.mono (by omega)
 ·split
  ·exact h.mono (by omega)
  ·rename_i hf
   have hf:=uB hf;exact(iG (λq hq=>RJ hf hq) h).mono (by have:=Ts hf;omega)
abbrev sB:=And.intro @A4 @AZ
abbrev sU:=And.intro @At @sB
theorem Xa {N:Nat}{s:StS}{os:Nat}{p v:AV}{H:AH}(h:StAt s os p H)(hw:SW N s)(ino pos:Int){b:List UInt8}(hN:N+9*b.length<900000)(hv:Aa H 1 v=some (AY b,b.length))(hvi:∀j∈AP v,j≠os∧j∉AP p):
  ∃r H',(r=.tup [I (Cs s ino pos b).1.1,I (Cs s ino pos b).1.2]∧∃p',StAt (Cs s ino pos b).2 os p' H'∧StF os p p' H H')∧BCall prog 44 [.ptr os 0,I ino,I pos,v] H r H':=Lf (by
 unfold Ig;obtain⟨R,hR,r,H1,⟨rfl,g1⟩,hc⟩:=O6 h hw (by omega) ino;have hlen:=Pm hw ino;refine bC_of hc ?_;unfold Cs;generalize A9 s ino=ct at*;have oR:=SV.oneA hR;have h1:=h.grew g1;have g2:=Grew.app H1 [some (.cells [I ct.1.1,R])];have h2:=h1.grew g2;have hv2:=g2.slice (g1.slice hv);have alv:Be v=some (I b.length):=Bz hv;simp only[rV,sK,fD,rT,WU _ _ oR]
 by_cases hc0:ct.2=0
 ·simp only[hc0,rM,sI,alv]
  refine A3 (LW pos b.length (by omega)) ?_
  by_cases hf:SS pos b.length
  ·have hf':0≤pos∧b.length≤4096∧pos≤1099511627776 - b.length:=hf
   have e1:EW [(I 0),(I 0)] [(0,1,I pos),(1,1,I (b.length:Int))]=some (.agg (BQ ⟨pos,b.length⟩)):=rfl;simp only[hf,hf',and_self,D5,rU,rD,not_true_eq_false,if_false,alv,e1];obtain⟨V,hV,hp⟩:=P7 ⟨pos,b.length⟩ (unit:=8) (by omega);refine A3 hp ?_;simp only[hV.len,Ab];have hin:∀q∈Fz ⟨pos,b.length⟩ 8,pos≤q.pos∧0<q.len∧q.len≤8∧q.pos+q.len≤pos+b.length:=λq hq=>RJ hf hq
   have hpl:=Ts hf;generalize Fz ⟨pos,b.length⟩ 8=L at hV hin hpl;have c0:(H1++[some (AObj.cells [I ct.1.1,R])])[H1.length]?=some (some (.cells [I ct.1.1,R])):=CT;have f0:StF os p p H (H1++[some (AObj.cells [I ct.1.1,R])]):=.of_grew (g1.trans g2);have hosH:os<H.length:=by obtain⟨a,b',c,d,pv,hx⟩:=h;exact hx.lt
   have hpH:∀j∈AP p,j<H.length:=by obtain⟨a,b',c,d,pv,hx⟩:=h;exact OL hx
   have hvH:∀j∈AP v,j<H.length:=λj q=>Au hv j q
   have hH1:H.length≤H1.length:=g1.1;refine HG (λm x0 x1 x2 x3 x10 x36 x37 x38 H'=>∃(k:Nat) (s':StS) (p':AV),k+m=L.length∧x0=.ptr os 0∧x1=I ino∧x2=I pos∧x3=v∧x10=.ptr H1.length 0∧x36=V∧x37=I L.length∧x38=I k∧StAt s' os p' H'∧StF os p p' H H'∧SW (N+9*k) s'∧H'[H1.length]?=some (some (.cells [I ct.1.1,R]))∧H1.length∉AP p'∧WW ct.1.2 ino pos b (L.drop k) s'=WW ct.1.2 ino pos b L s) ?_ L.length ⟨0,s,p,by omega,rfl,rfl,rfl,rfl,rfl,rfl,rfl,rfl,h2,f0,hw,c0,λq=>by have:=hpH _ q;omega,rfl⟩;rintro m x0 x1 x2 x3 x10 x36 x37 x38 H2 R2 hR2 ⟨k,s',p',hk,rfl,rfl,rfl,rfl,rfl,rfl,rfl,rfl,hs',fs',hws',cc,hcp,heq⟩;rw[← heq];unfold F5;rcases tD k L.length with hlt | hge
   ·have hx:=E5 hlt
    have hq:=hin L[k] (List.getElem_mem hlt);generalize L[k]=q at hx hq;obtain⟨q1,q2,q3,q4⟩:=hq;have kI:(k:Int)<(L.length:Int):=by omega
    have hdrop:L.drop k=q::L.drop (k+1):=DS hx;rw[hdrop];generalize hW:WW ct.1.2 ino pos b (q::L.drop (k+1)) s'=W;have rdq:Am true 2 (BQ q++(L.drop (k+1)).flatMap BQ) 0=some (.agg (BQ q)):=by simp[Am,BQ]
    have eA:(AV.agg (BQ q))=.agg [I q.pos,I q.len]:=rfl;have n2:A8 H2 (.agg [(I 0),(I 0)])=some (.ptr H2.length 0,H2++[some (.cells [I 0,I 0])]):=by simp
    have t2:AU 2 (H2++[some (.cells [I 0,I 0])]) (.ptr H2.length 0) (.agg [I q.pos,I q.len])=some (H2++[some (.cells [I q.pos,I q.len])]):=by
     rw[A6 (n:=2) (xs:=[I q.pos,I q.len]) (cs:=[I 0,I 0]) rfl (by simp) rfl (by simp)];simp[AS]
    have g3:=Grew.app H2 [some (.cells [I q.pos,I q.len])];have e2:Ax .sub (I q.pos) (I pos)=some (I (q.pos - pos)):=Ci (by omega) (by omega);have e3:Ax .quo (I q.pos) (I 8)=some (I (q.pos/8)):=MQ (by omega) (by omega) (by omega);simp only[Bq,rL,Ag,kI,rI,hV.idx SQ hx rfl,TM,rdq,eA,n2,rT,t2,Al CT,e2,Al (g3.cells cc),mP,e3];refine A3 (oQ hR (by omega) (q.pos/8)) ?_;have hs3:=hs'.grew g3;have fs3:StF os p p' H (H2++[some (.cells [I q.pos,I q.len])]):=fs'.grew g3;have cc3:=g3.cells cc;have tq:(H2++[some (AObj.cells [I q.pos,I q.len])])[H2.length]?=some (some (.cells [I q.pos,I q.len])):=CT;have hl3:H2.length+1=(H2++[some (AObj.cells [I q.pos,I q.len])]).length:=by simp
    have hpid:∀j∈AP p',j<H2.length:=by obtain⟨a,b',c,d,pv,hx⟩:=hs';exact OL hx
    have hos2:os<H2.length:=by obtain⟨a,b',c,d,pv,hx⟩:=hs';exact hx.lt
    have hcl2:H1.length<H2.length:=(B5.1 cc).1;generalize (H2++[some (AObj.cells [I q.pos,I q.len])])=H3 at hs3 fs3 cc3 tq hl3
    -- the deed
    have deed:¬(¬Cf ct.1.2 (q.pos/8)∧ST s'=0)→bO (Ac 0 (.ptr H2.length 0)) (λv25=>bO (Ar false 1 H3 v25) λv26=>bO (Ac 1 (.ptr H2.length 0)) λv27=>bO (Ar false 1 H3 v27) λv28=>bO (Ax .add (I (q.pos - pos)) v28) λv29=>bO (AT 1 x3 (some (I (q.pos - pos))) (some v29) none) λv30=>
      bC (BCall prog 101 [v30] H3) λv31 H32=>bO (EW [(I 0),(I 0),(I 0),(I 0),(B false),(.lit (.string ⟨#[]⟩)),(.lit (.string ⟨#[]⟩)),Ad] [(0,1,(I 2)),(1,1,I ino),(2,1,v26),(7,1,v31)]) λv33=>
      bC (BCall prog 48 [.ptr os 0,v33] H32) λv34 H35=>(Ar false 1 H32 v25=some v26)∧bO (Ax .neq v34 (I 0)) λv36=>bB v36 λt37=>bI t37
       (AV.tup [I (q.pos - pos),v34]=.tup [I W.1.1,I W.1.2]∧
        ∃p',StAt W.2 os p' H35∧StF os p p' H H35)
       (bO (Ax .add (I k) (I 1)) λv38=>R2 [.ptr os 0,I ino,I pos,x3,.ptr H1.length 0,x36,I L.length,v38] H35)):=by
     intro hno;have e4:Ax .add (I (q.pos - pos)) (I q.len)=some (I (q.pos - pos+q.len)):=Az (by omega) (by omega)
     have hv3:Aa H3 1 x3=some (AY b,b.length):=Ae hv λj hj=>by
      have hne:=hvi j hj;exact fs3.same j (hvH j hj) hne.1 hne.2
     obtain⟨r5,s1,s2,s3,-⟩:=Eu hv3 (lo:=some (I (q.pos - pos))) (hi:=some (I (q.pos - pos+q.len))) (l:=(q.pos - pos).toNat) (k:=(q.pos - pos+q.len).toNat) (by simp only[Bk];rw[if_pos (by omega)]) (by simp only[Bk];rw[if_pos (by omega)]) (by omega) (by omega);have hpl2:=Tq (b:=b) (pos:=pos) (q:=q) ⟨q1,q2,q3,q4⟩
     have s2':Aa H3 1 r5=some (AY (EZ b pos q),(EZ b pos q).length):=by
      rw[s2,hpl2];unfold EZ;rw[vM,vM,show(q.pos - pos+q.len).toNat - (q.pos - pos).toNat=q.len.toNat by omega];simp[AY,wW,xN]
     obtain⟨Rb,hRb,hcb⟩:=Zz s2' (by omega);simp only[rL,Al tq,e4,s1];refine bC_of hcb ?_
     have e5:EW [(I 0),(I 0),(I 0),(I 0),(B false),(.lit (.string ⟨#[]⟩)),(.lit (.string ⟨#[]⟩)),Ad] [(0,1,(I 2)),(1,1,I ino),(2,1,I q.pos),(7,1,Rb)]=some (.agg (Dm (La ino q.pos (EZ b pos q)) Rb)):=by
      have:=SV.oneA hRb
      simp[EW,Dm,La,AL this];rfl
     simp only[e5,Ab];obtain⟨r6,H6,⟨rfl,p6,h6,f6⟩,hcall⟩:=kK (o:=La ino q.pos (EZ b pos q)) hs3 hws' (by omega) hRb (WL (by omega));have hws6:=Xt (o:=La ino q.pos (EZ b pos q)) hws' (WL (by omega));refine bC_of hcall ⟨by rw[Al tq];rfl,?_⟩;simp only[sK]
     by_cases hd:(MM s' (La ino q.pos (EZ b pos q))).1=0
     ·simp only[hd,qW,sI,Az (a:=k) (b:=1) (by omega) (by omega)]
      have hwt:wt (La ino q.pos (EZ b pos q))≤9:=by
       show 1+(EZ b pos q).length+(if(2:Int)=4 then 4098 else 0)≤9
       rw[if_neg (by omega)];omega
      refine hR2 (m - 1) _ _ _ _ _ _ _ _ _ (by omega) ⟨k+1,_,p6,by omega,rfl,rfl,rfl,rfl,rfl,rfl,rfl,by simp,h6,fs3.trans f6,hws6.mono (by omega),?_,?_,?_⟩
      ·rw[f6.same H1.length (by omega) (by omega) hcp];exact cc3
      ·intro hh
       rcases f6.ids _ hh with hh | hh
       ·exact hcp hh
       ·omega
      ·rw[← heq,hdrop]
       conv=>rhs;unfold WW
       rw[if_neg hno,if_neg (by rw[hd];simp)]
     ·have eW:W=((q.pos - pos,(MM s' (La ino q.pos (EZ b pos q))).1),(MM s' (La ino q.pos (EZ b pos q))).2):=by
       rw[← hW];unfold WW;rw[if_neg hno,if_pos hd]
      rw[eW];simp only[hd,qX,rI];exact⟨by trivial,p6,h6,fs3.trans f6⟩
    by_cases hh:Cf ct.1.2 (q.pos/8)
    ·simp only[hh,D5,rU,rD,sU,show((false==true)=false)from rfl,Cn,II]
     exact deed (λx=>x.1 hh)
    ·simp only[hh,Dp,Bi,Bool.not_false,Ab,AZ,qY,Ug]
     refine bC_of (iK hs3 hws' (by omega)) ?_;simp only[FQ,rA,A4,if_true]
     by_cases hfr:ST s'=0
     ·have eW:W=((q.pos - pos,4),s'):=by
       rw[← hW];unfold WW;rw[if_pos ⟨hh,hfr⟩]
      rw[eW];simp only[hfr,rI];exact⟨by trivial,p',hs3,fs3⟩
     ·simp only[hfr,rF]
      exact deed (λx=>hfr x.2)
   ·have kI:¬(k:Int)<(L.length:Int):=by omega
    have hdrop:L.drop k=[]:=tQ hge;rw[hdrop];unfold WW;simp only[rX,kI,rF,alv];exact⟨by trivial,p',hs',fs'⟩
  ·have hf':¬(0≤pos∧b.length≤4096∧pos≤1099511627776 - b.length):=hf
   simp only[hf,hf',Dp,rU,rC,not_false_eq_true,if_true];exact⟨by trivial,p,h2,.of_grew (g1.trans g2)⟩
 ·simp only[hc0,qX,sS]
  exact⟨by trivial,p,h2,.of_grew (g1.trans g2)⟩)
def QP (i:Int):List AV:=[I i]
theorem ZM (i:Int):(QP i).length=1:=rfl
theorem VD (l:List Int):Ay (l.flatMap QP)=true:=Da λx _=>rfl
theorem pJ (x:Int)(t:List AV):Am false 1 (QP x++t) 0=some (I x):=rfl
theorem kV {l:List Int}{v:AV}(hv:SV QP 1 l v)(hl:l.length≤281474976710656)(no:Int):∃j:Int,(0≤j↔no∈l)∧BPure prog 185 [v,I no] (I j):=by
 have key:∃r X,(∃j:Int,r=I j∧(0≤j↔no∈l))∧BCall prog 185 [v,I no] [] r X:=Ir (by
  unfold FE;simp only[hv.len,Ab];refine Gm (λn x0 x1 x7 x8 H'=>∃k:Nat,k+n=l.length∧x0=v∧x1=I no∧x7=I l.length∧x8=I k∧∀(m:Nat) y,m<k→l[m]?=some y→no≠y) ?_ l.length ⟨0,by omega,rfl,rfl,rfl,rfl,by omega⟩;rintro n x0 x1 x7 x8 H R hR ⟨k,hk,rfl,rfl,rfl,rfl,hb⟩;unfold Ep;rcases tD k l.length with h | h
  ·have hx:=E5 h
   generalize l[k]=y at hx;have kI:(k:Int)<(l.length:Int):=by omega
   simp only[rX,kI,rI,hv.idx ZM hx rfl,TM,pJ,FQ]
   by_cases c:no=y
   ·simp only[c,rI]
    exact⟨k,rfl,by simp only[Int.natCast_nonneg,true_iff];exact tB hx⟩
   ·simp only[c,sI,Az (a:=k) (b:=1) (by omega) (by omega)]
    refine hR (n - 1) _ _ _ _ _ (by omega) ⟨k+1,by omega,rfl,rfl,rfl,by simp,?_⟩;intro m z hm hz
    by_cases e:m=k
    ·rw[e,hx]at hz;injection hz with hz;rw[← hz];exact c
    ·exact hb m z (by omega) hz
  ·have kI:¬(k:Int)<(l.length:Int):=by omega
   simp only[rX,kI,rF];refine⟨-1,rfl,by simp only[show ¬(0:Int)≤-1 by omega,false_iff];intro hy;obtain⟨m,hm⟩:=tK.1 hy;exact hb m no (by have:=(B5.1 hm).1;omega) hm rfl⟩)
 obtain⟨r,X,⟨j,rfl,hj⟩,hc⟩:=key;exact⟨j,hj,BPure.val (by simp[Ay,noIds,hv.1]) rfl ⟨_,_,rfl,hc⟩⟩
theorem UB {l:List Int}{v:AV}(hv:SV QP 1 l v)(hl:l.length≤281474976710656)(no:Int):BPure prog 151 [v,I no] (B (decide (no∈l))):=by
 obtain⟨j,hj,hp⟩:=kV hv hl no;refine BPure.val (by simp[Ay,noIds,hv.1]) rfl (GP ?_);unfold EB;refine A3 hp ?_;simp only[GG,Ab]
 congr 3;exact propext hj
def Pf (l:List Int)(o:OpM):Prop:=o.kind=1∨o.kind=6∨o.kind=7∨o.ino∈l
instance (l:List Int) (o:OpM):Decidable (Pf l o):=by unfold Pf;infer_instance
theorem gD {o:OpM}{bv:AV}(hb:SV QN 1 o.b bv){l:List Int}{v:AV}(hv:SV QP 1 l v)(hl:l.length≤281474976710656):BPure prog 81 [.agg (Dm o bv),v] (B (decide (Pf l o))):=by
 have obv:=SV.oneA hb;have e1:A8 [] (.agg (Dm o bv))=some (.ptr 0 0,[some (.cells (Dm o bv))]):=by simp[Dm,obv]
 have e0:([some (.cells (Dm o bv))]:AH)[0]?=some (some (.cells (Dm o bv))):=rfl;have i0:(Dm o bv)[0]?=some (I o.kind):=rfl;have i1:(Dm o bv)[1]?=some (I o.ino):=rfl;refine BPure.val (by simp[Ay,noIds,hv.1,hb.1,Dm]) rfl (RW ?_);unfold PF;simp only[e1,A1,rJ,Al e0,i0,FQ,Ag]
 have last:∀c:Prop,∀_ :Decidable c,HA v (.ptr 0 0) [some (.cells (Dm o bv))] (λr H=>r=B (decide (o.ino∈l))):=by
  intro c _;rw[Oh];unfold Jf;simp only[rJ,Al e0,i1];exact A3 (UB hv hl o.ino) rfl
 unfold Pf
 by_cases c1:o.kind=1
 ·simp only[c1,rI,true_or]
  rw[F8];unfold Ex;simp only[Ag,Ap]
  try trivial
 ·simp only[c1,rF,false_or]
  by_cases c6:o.kind=6
  ·simp only[c6,rI,true_or]
   rw[F8];unfold Ex;simp only[Ag,Ap]
   try trivial
  ·simp only[c6,rF,false_or]
   rw[F8];unfold Ex
   by_cases c7:o.kind=7
   ·simp only[c7,rI,Ag,true_or]
    try trivial
   ·simp only[c7,rF,Ag,false_or]
    exact last True inferInstance
def HC (l:List Int):List OpM→YP×List OpM→YP×List OpM
 | [],x=>x
 | o::r,x=>if Pf l o then HC l r (Cd x.1.1 x.1.2 o,x.2)else HC l r (x.1,x.2++[o])
def T9 (s:StS)(l:List Int):Int×StS:=
 if(Bb s).1=true then(0,{(Bb s).2 with kept:=(HC l s.pend (s.kept,[])).1,pend:=(HC l s.pend (s.kept,[])).2})else(8,(Bb s).2)
theorem U6 {l:List Int}{N:Nat}:∀{r:List OpM} {x:YP×List OpM},(∃a,Few1 a x.1∧a+Qe x.2+Qe r≤N)→(∃a,Few1 a (HC l r x).1∧a+Qe (HC l r x).2≤N)
 | [],x,⟨a,h1,h2⟩=>⟨a,h1,by simp only[HC];omega⟩
 | o::r,x,⟨a,h1,h2⟩=>by
  have e:Qe (o::r)=wt o+Qe r:=by simp[Qe]
  unfold HC
  split
  ·exact U6 ⟨a+wt o,h1.step o,by simp only;omega⟩
  ·exact U6 ⟨a,h1,by simp only[Sf];omega⟩
theorem U5 {l:List Int}:∀{r:List OpM} {x:YP×List OpM},(∀o∈x.2,YW o)→(∀o∈r,YW o)→∀o∈(HC l r x).2,YW o
 | [],x,h1,h2,o,ho=>h1 o ho
 | q::r,x,h1,h2,o,ho=>by
  unfold HC at ho;split at ho
  ·exact U5 (x:=(Cd x.1.1 x.1.2 q,x.2)) h1 (λz hz=>h2 z (by simp[hz])) o ho
  ·refine U5 (x:=(x.1,x.2++[q])) ?_ (λz hz=>h2 z (by simp[hz])) o ho
   intro z hz;simp only[rN]at hz;rcases hz with hz | rfl
   ·exact h1 z hz
   ·exact h2 _ (by simp)
theorem gE {N:Nat}{s:StS}(h:SW N s)(l:List Int):SW N (T9 s l).2:=by
 have hd:=Ue h;obtain⟨e1,e2,e3,e4,e5⟩:=Hf s;unfold T9
 split
 ·refine⟨by simp only[e1];exact h.now,?_,?_,hd.made,hd.cap,hd.armed⟩
  ·obtain⟨a,h1,h2⟩:=h.kept
   exact U6 ⟨a,h1,by simp only[Qe,List.map_nil,List.sum_nil];unfold Qe at h2;omega⟩
  ·exact U5 (x:=(s.kept,[])) (by simp) h.ob
 ·exact hd
theorem iP {N:Nat}{s:StS}{os:Nat}{p v:AV}{H:AH}(h:StAt s os p H)(hw:SW N s)(hN:N≤900000){l:List Int}(hv:Aa H 1 v=some (l.flatMap QP,l.length))(hvi:∀j∈AP v,j≠os∧j∉AP p)(hl:l.length≤1000000):
  ∃r H',(r=I (T9 s l).1∧∃p',StAt (T9 s l).2 os p' H'∧StF os p p' H H')∧BCall prog 37 [.ptr os 0,v] H r H':=LG (by
 unfold Jb;obtain⟨r,H1,⟨rfl,h1,f1⟩,hc⟩:=ZH h hw.armed;refine bC_of hc ?_;obtain⟨e1,e2,e3,e4,e5⟩:=Hf s;have hwd:=Ue hw;have hpl:(Bb s).2.pend.length≤N:=by rw[e3];exact hw.plen
 have hob:∀o∈(Bb s).2.pend,YW o:=by rw[e3];exact hw.ob
 have hkw:∃a,Few1 a (Bb s).2.kept∧a+Qe (Bb s).2.pend≤N:=by rw[e2,e3];exact hw.kept
 unfold T9;rw[← e2,← e3];simp only[rU];cases hd:(Bb s).1 with
 | false=>
  simp only[rC,At];exact⟨by trivial,p,h1,f1⟩
 | true=>
  have hv1:Aa H1 1 v=some (l.flatMap QP,l.length):=Ae hv λj hj=>f1.same j (Au hv j hj) (hvi j hj).1 (hvi j hj).2
  clear e1 e2 e3 e4 e5 hc;generalize (Bb s).2=s1 at*;simp only[if_true];obtain⟨a,b,c,d,pv,h1⟩:=h1;have hpn:pv.length=s1.pend.length:=by rw[← h1.pm,uE]
  have alv:Be p=some (I (s1.pend.length:Nat)):=by rw[← hpn];exact Bz h1.ps
  simp only[rD,rY,Al h1.obj,alv];have hos:os<H1.length:=h1.lt;have hH:H.length≤H1.length:=f1.len;generalize hres:HC l s1.pend (s1.kept,[])=res;refine Is (λm x0 x1 x5 x14 x15 x16 H'=>∃(k:Nat) (ki:YP) (c' d':AV) (lv:List OpV),k+m=s1.pend.length∧x0=.ptr os 0∧x1=v∧x14=p∧x15=I s1.pend.length∧x16=I k∧StC {s1 with kept:=ki} os a b c' d' p pv H'∧StF os p p H1 H'∧HC l (s1.pend.drop k) (ki,lv.map OpV.o)=res∧(∃a,Few1 a ki∧a+Qe (lv.map OpV.o)+Qe (s1.pend.drop k)≤N)∧Aa H' 8 x5=some (lv.flatMap JW,lv.length)∧AM x5=true∧BV x5 lv.length∧(∀j∈AP x5,H1.length≤j)) ?_ s1.pend.length ⟨0,s1.kept,c,d,[],by omega,rfl,rfl,rfl,rfl,rfl,h1,.refl _ _ _,hres,by obtain⟨x,y,z⟩:=hkw;exact⟨x,y,by simp only[sF];simp only[Qe,List.map_nil,List.sum_nil]at*;omega⟩,rfl,rfl,by simp[BV],by simp[AP]⟩;rintro m x0 x1 x5 x14 x15 x16 H2 R hR ⟨k,ki,c',d',lv,hk,rfl,rfl,rfl,rfl,rfl,h2,f2,hsy,hfew,ls,lo,lc,li⟩
  have lvN:lv.length≤N:=by
   obtain⟨x,-,y⟩:=hfew
   have:=XM (l:=lv.map OpV.o)
   rw[uE]at this;omega
  unfold FF;rcases tD k s1.pend.length with hlt | hge
  ·have hx:=E5 (show k<pv.length by omega)
   generalize pv[k]'(by omega)=x at hx;have hxo : s1.pend[k]? = some x.o:=by rw [← h1.pm,uJ,hx]; rfl
   have hdrop:s1.pend.drop k=x.o::s1.pend.drop (k+1):=DS hxo;have hxb:=hob x.o (tB hxo);rw[hdrop]at hsy hfew;have ox:=SV.oneA x.h;have kI:(k:Int)<(s1.pend.length:Int):=by omega
   obtain⟨pp,q1,q2⟩:=pD h2.ps hx;have n8:A8 H2 (.agg [(I 0),(I 0),(I 0),(I 0),(B false),(.lit (.string ⟨#[]⟩)),(.lit (.string ⟨#[]⟩)),Ad])=some (.ptr H2.length 0,H2++[some (.cells [I 0,I 0,I 0,I 0,B false,S ⟨#[]⟩,S ⟨#[]⟩,Ad])]):=by simp
   have t8:AU 8 (H2++[some (.cells [I 0,I 0,I 0,I 0,B false,S ⟨#[]⟩,S ⟨#[]⟩,Ad])]) (.ptr H2.length 0) (.agg (Dm x.o x.bv))=some (H2++[some (.cells (Dm x.o x.bv))]):=by
    rw[A6 (n:=8) (xs:=Dm x.o x.bv) (cs:=[I 0,I 0,I 0,I 0,B false,S ⟨#[]⟩,S ⟨#[]⟩,Ad]) (by simp[Dm,ox]) (by simp) rfl (by simp)];simp[AS,Dm]
   have g3:=Grew.app H2 [some (.cells (Dm x.o x.bv))];have rd8:Am true 8 (Dm x.o x.bv) 0=some (.agg (Dm x.o x.bv)):=rfl;have h3:=h2.grew g3;have f3:StF os x14 x14 H1 (H2++[some (AObj.cells (Dm x.o x.bv))]):=f2.grew g3;have hl2:=f2.len
   have hv3:Aa (H2++[some (AObj.cells (Dm x.o x.bv))]) 1 x1=some (l.flatMap QP,l.length):=Ae hv λj hj=>by
    have:=Au hv j hj
    rw[f3.same j (by omega) (hvi j hj).1 (hvi j hj).2,f1.same j this (hvi j hj).1 (hvi j hj).2]
   obtain⟨Rv,hRv,fRv⟩:=FZ.sv hv3 (VD l);have ls3:=g3.slice ls;have sm:Sm ki.1 ki.2:=by obtain⟨x,y,z⟩:=hfew;exact y.sm (by omega)
   simp only[rX,kI,rI,q1,q2,n8,rT,t8,Al CT,rd8];refine bP_of (PCall.lend (FZs.cons (FZ.same (by simp[noIds,Dm,Ay,x.h.1])) (FZs.cons fRv FZs.nil)) rfl (gD x.h hRv (by omega))) ?_;have topx:(H2++[some (AObj.cells (Dm x.o x.bv))])[H2.length]?=some (some (.cells (Dm x.o x.bv))):=CT;have hl3:(H2++[some (AObj.cells (Dm x.o x.bv))]).length=H2.length+1:=by simp
   generalize (H2++[some (AObj.cells (Dm x.o x.bv))])=H3 at*;simp only[Ag]
   by_cases hst:Pf l x.o
   ·obtain⟨RA,hRA,hpA⟩:=WZ (o:=x.o) (bv:=x.bv) h3.kept sm x.h (by have:=hxb.1;omega) (by have:=hxb.2.1;omega) (by have:=hxb.2.2;omega)
    obtain⟨a',b',rfl,oa,ob⟩:=hRA.agg2;simp only[hst,rI,sT,Al h3.obj,(lQ _ _ _ _ _ _ _ _ _).2,Al topx,rd8];refine bP_of hpA ?_;obtain⟨h4,f4⟩:=h3.set (s':={s1 with kept:=Cd ki.1 ki.2 x.o}) h3.now hRA rfl;simp only[sT,(st9 h3.obj oa ob).2,AE];rw[Fe];unfold DH;simp only[Az (a:=k) (b:=1) (by omega) (by omega),Ab];refine hR (m - 1) _ _ _ _ _ _ _ (by omega) ⟨k+1,_,a',b',lv,by omega,rfl,rfl,rfl,rfl,by simp,h4,f3.trans f4,?_,?_,?_,lo,lc,li⟩
    ·rw[← hsy];conv=>rhs;unfold HC
     rw[if_pos hst]
    ·obtain⟨y,z,w⟩:=hfew
     have e:Qe (x.o::s1.pend.drop (k+1))=wt x.o+Qe (s1.pend.drop (k+1)):=by simp[Qe]
     exact⟨y+wt x.o,z.step x.o,by omega⟩
    ·exact Ae ls3 λj hj=>by
      have:=li j hj
      exact f4.same j (by have:=Au ls3 j hj;omega) (by omega) (λq=>by have:=OL h1 j q;omega)
   ·have eA:Dh H3 8 1 (Bo [(I 0),(I 0),(I 0),(I 0),(B false),(.lit (.string ⟨#[]⟩)),(.lit (.string ⟨#[]⟩)),Ad] 1) [(0,8,.agg (Dm x.o x.bv))]=some (.sl H3.length 0 1 8 (.ex 1),H3++[some (.cells (JW x))]):=by
     simp[Dh,PJ,Bo,JW,Dm,QA,ox,AS]
    have g4:=Grew.app H3 [some (.cells (JW x))];have x1':AX (H3++[some (AObj.cells (JW x))]) 8 (.sl H3.length 0 1 8 (.ex 1))=some (JW x,1):=AJ (by simp[Aa,JW,Dm]);obtain⟨r,H5,a1,a2,a3,a4,a5,a6⟩:=DK (bytes:=96) (g4.slice ls3) lo x1' (by omega);have a7:=MO (g4.slice ls3) lo x1' lc a1;simp only[hst,sI,Al topx,rd8,eA,A1,a1];rw[Fe];unfold DH;simp only[Az (a:=k) (b:=1) (by omega) (by omega),Ab];have h4:=h3.grew g4;have f4:=f3.grew g4;have lt4:∀j,j<H1.length→j∉AP x5:=λj hj q=>by have:=li j q;omega
    have len4:(H3++[some (AObj.cells (JW x))]).length=H3.length+1:=by simp
    have k5:∀j,j<H1.length→H5[j]?=(H3++[some (AObj.cells (JW x))])[j]?:=λj hj=>a5 j (by omega) (lt4 j hj)
    refine hR (m - 1) _ _ _ _ _ _ _ (by omega) ⟨k+1,ki,c',d',lv++[x],by omega,rfl,rfl,rfl,rfl,by simp,?_,?_,?_,?_,?_,a2,by simpa using a7,?_⟩
    ·exact⟨by rw[k5 os hos];exact h4.obj,h4.now,h4.kept,h4.pm,Ae h4.ps λj hj=>k5 j (OL h1 j hj),h4.po,h4.pi,h4.pc⟩
    ·exact⟨by omega,λj hj hne hjp=>by rw[k5 j hj];exact f4.same j hj hne hjp,λ_ q=>.inl q⟩
    ·rw[← hsy];conv=>rhs;unfold HC
     rw[if_neg hst];simp
    ·obtain⟨y,z,w⟩:=hfew
     have e:Qe (x.o::s1.pend.drop (k+1))=wt x.o+Qe (s1.pend.drop (k+1)):=by simp[Qe]
     exact⟨y,z,by rw[vA];simp only[sH,Sf];omega⟩
    ·simpa using a3
    ·intro j hj
     rcases a6 j hj with q | q
     ·exact li j q
     ·omega
  ·have kI:¬(k:Int)<(s1.pend.length:Int):=by omega
   have hdrop:s1.pend.drop k=[]:=tQ hge;rw[hdrop]at hsy hfew;unfold HC at hsy;rw[← hsy];have e7:AU 1 H2 (.ptr os 5) x5=some (H2.set os (some (.cells [I s1.cap,a,b,c',d',x5,I s1.made,I s1.armed,B s1.off]))):=eN h2.obj (by simp) (AK lo);have hnx:os∉AP x5:=λq=>by have:=li os q;omega
   simp only[Bq,sT,Ag,kI,rF,e7,AE];have hl2:=f2.len;refine⟨by trivial,x5,⟨a,b,c',d',lv,⟨IJ h2.lt,h2.now,h2.kept,rfl,Ae ls λj hj=>Co (λe=>hnx (by rw[e];exact hj)),lo,hnx,lc⟩⟩,?_⟩;refine⟨by rw[tM];omega,λj hj hne hjp=>?_,λj hj=>.inr (by have:=li j hj;omega)⟩;rw[Co (uC hne),f2.same j (by omega) hne hjp,f1.same j hj hne hjp])
theorem MC {α:Type}{enc:α→List AV}{f:α→AV}(he:∀x,enc x=[f x]){H:AH}{w:AV}{l:List α}{k:Nat}{x:α}(hw:Aa H 1 w=some (l.flatMap enc,l.length))(hx:l[k]?=some x):∃p,Bv 1 w (I k)=some p∧Ar false 1 H p=some (f x):=by
 have hk:=(B5.1 hx).1;obtain⟨p,c,h1,h2,h3,h4⟩:=Iw hw (i:=(k:Int)) rfl hk;have el:∀x,(enc x).length=1:=λx=>by rw[he];rfl
 have hc:c.take 1=[f x]:=by
  rw[h3,CE el hx,tJ (by rw[el];exact sY 1),sZ (by rw[el];exact sY 1),he]
 refine⟨p,h1,?_⟩;rw[Ov h2 (by omega) h4];cases c with
 | nil=>simp at hc
 | cons y t=>simp at hc;rw[hc];rfl
theorem UY {H:AH}{v:AV}{cs:List AV}{n l k:Nat}(h:Aa H 1 v=some (cs,n))(hlk:l<k)(hkn:k≤n):
  ∃r,AT 1 v (some (I l)) (some (I k)) (some (I k))=some r∧(∀H,Aa H 1 v=some (cs,n)→Aa H 1 r=some ((cs.drop l).take (k - l),k - l))∧∀i∈AP r,i∈AP v:=by
 have b1:Bk (some (I l)) 0=some l:=by simp[Bk]
 have b2:∀d,Bk (some (I k)) d=some k:=λd=>by simp[Bk]
 have hcl:=BL h;unfold Aa at h;unfold AT;split at h
 ·rename_i c len esz
  split at h
  ·rename_i hb
   obtain⟨rfl,hb⟩:=hb;injection h with h;injection h with h1 h2;subst h1;subst h2;simp only[b1,b2,vE];rw[if_pos ⟨by omega,by omega,by omega,by trivial⟩,if_neg (by omega)];refine⟨_,rfl,λH _=>?_,λi hi=>hi⟩;simp only[Aa,true_and,vM];rw[if_pos (by rw[sX,tC];omega)]
  ·cases h
 ·rename_i o off len esz cap
  split at h
  ·rename_i c hoc
   split at h
   ·rename_i hb
    obtain⟨rfl,hb⟩:=hb;injection h with h;injection h with h1 h2;subst h2;simp only[rM,b1,b2,vE];rw[if_pos ⟨by omega,by omega,by omega,by trivial⟩];refine⟨_,rfl,λH h2=>?_,λi hi=>hi⟩;unfold Aa at h2;simp only[true_and]at h2;split at h2
    ·rename_i c2 hoc2
     split at h2
     ·rename_i hb2
      injection h2 with h2;injection h2 with h3 h4;rw[AA hoc2 (by omega),← h3];simp only[vM];rw[vQ,uY,uV]
      congr 3
      omega
     ·cases h2
    ·cases h2
   ·cases h
  ·cases h
 all_goals (try (injection h with h;injection h with h1 h2;omega))
 all_goals cases h
noncomputable abbrev Zt:Code:=AI f150
noncomputable abbrev chO:Array Oper:=VI (sub [true,true,true,true,false,true,true,false] Zt)
noncomputable abbrev chY : Oper := chO.toList.getD 10 ⟨none, .nilCheck (.tmp 0), 0, "", #[], none⟩
theorem dD:f150.body=some (.seq (sub [false] Zt) (.block 0 (.loop (.seq (.seq (sub [true,true,true,false,false] Zt) (.cond (.tmp 9) .skip (.exit 0)))
  (.seq (.block 1 (.seq (sub [true,true,true,true,false,true,false] Zt) (.seq (.region 4 chO false) (.cond (.tmp 30) .ret .skip)))) (sub [true,true,true,true,true] Zt)))))):=by kernel_rfl
noncomputable abbrev pV (p:List Bool)(T:List AV)(H:AH)(K:Kf):Prop:=AC prog (Jp []) Ak Ak Ak (Cu []) (sub p Zt) 0 T H K
theorem nU (x0 x1 x2:AV)(H:AH)(Q:Exit→List AV→AH→Prop):pV [false] ([x0,x1,x2]++List.replicate 28 A0) H (λe T H=>fP (mk 31 0 [0,1,2,4]) T λX=>Q e X H)=Q .normal [x0,x1,x2,I 0] H:=by kernel_rfl
theorem nV (x0 x1 x2 x4:AV)(H:AH)(Q:Exit→List AV→AH→Prop):pV [true,true,true,false,false] (AR (mk 31 0 [0,1,2,4]) [x0,x1,x2,x4]) H (λe T H=>fP (mk 31 0 [0,1,2,4,9]) T λX=>Q e X H)=
  bO (Ar false 1 H x1) λv7=>bO (Be v7) λv8=>bO (Ax .lss x4 v8) λv9=>Q .normal [x0,x1,x2,x4,v9] H:=by kernel_rfl
theorem nX (x0 x1 x2 x4 x9:AV)(H:AH)(Q:Exit→List AV→AH→Prop):pV [true,true,true,true,false,true,false] (AR (mk 31 0 [0,1,2,4,9]) [x0,x1,x2,x4,x9]) H (λe T H=>fP (mk 31 0 [0,1,2,4,5]) T λX=>Q e X H)=
  bO (Ar false 1 H x2) λv13=>bO (Ar false 1 H x1) λv14=>bO (AT 1 v14 (some x4) none none) λv16=>bO (Be v16) λv17=>bO (amm U9 [v13,v17]) λv18=>Q .normal [x0,x1,x2,x4,v18] H:=by kernel_rfl
theorem nY (x0 x1 x2 x4 x5:AV)(H:AH)(Q:List AV→AH→Prop):Jx prog Ak Ak false chO (chO.toList.take 10) (AR (mk 31 0 [0,1,2,4,5]) [x0,x1,x2,x4,x5]) H (λT H=>fP (mk 31 0 [0,1,2,4,19,28]) T λX=>Q X H)=
  bO (Ar false 1 H x1) λv20=>bO (Ax .add x4 x5) λv24=>bO (Ax .add x4 x5) λv27=>bO (AT 1 v20 (some x4) (some v24) (some v27)) λv28=>Q [x0,x1,x2,x4,x0,v28] H:=by kernel_rfl
theorem gW (x0 x1 x2 x4 x19 x28 x29:AV)(H:AH)(Q:List AV→AH→Prop):Jx prog Ak Ak false chO (chO.toList.drop 11) (CO (AR (mk 31 0 [0,1,2,4,19,28]) [x0,x1,x2,x4,x19,x28]) (some 29) x29) H (λT H=>fP (mk 31 0 [0,1,2,4,30]) T λX=>Q X H)=
  bO (E4 .not x29) λv30=>Q [x0,x1,x2,x4,v30] H:=by kernel_rfl
theorem nW (x0 x1 x2 x4 x30:AV)(H:AH)(Q:Exit→List AV→AH→Prop):pV [true,true,true,true,true] (AR (mk 31 0 [0,1,2,4,30]) [x0,x1,x2,x4,x30]) H (λe T H=>fP (mk 31 0 [0,1,2,4]) T λX=>Q e X H)=
  bO (Ar false 1 H x2) λv11=>bO (Ax .add x4 v11) λv12=>Q .normal [x0,x1,x2,v12] H:=by kernel_rfl
theorem jK:chO.toList=chO.toList.take 10++chY::chO.toList.drop 11:=by kernel_rfl
noncomputable abbrev chA:Array TypeId:=match chY.op with
 | .call c=>c.argTypes
 | _=> #[]
theorem dE:chY.op=.call {callee:=.value (.tmp 19),args:=#[.tmp 28],argTypes:=chA}∧chY.guard=none∧chY.dst=some 29:=⟨by kernel_rfl,by kernel_rfl,by kernel_rfl⟩
theorem Xn:Cw (Jp []) Ak Ak (sub [false] Zt)=true∧Cw (Jp []) Ak Ak (sub [true,true,true,false,false] Zt)=true∧Cw (Jp []) Ak Ak (sub [true,true,true,true,false,true,false] Zt)=true∧Cw (Jp []) Ak Ak (sub [true,true,true,true,true] Zt)=true:=⟨by kernel_rfl,by kernel_rfl,by kernel_rfl,by kernel_rfl⟩
def gV (s:AV)(len n j:Nat):AV:=(AT 1 s (some (I (j*n:Nat))) (some (I (j*n+min n (len - j*n):Nat))) (some (I (j*n+min n (len - j*n):Nat)))).getD A0
def Zu (len n:Nat):Nat:=(len+n - 1)/n
def mK (s:AV)(len n:Nat):List AV:=(List.range (Zu len n)).map (gV s len n)
theorem TX (s:AV)(len n:Nat):(mK s len n).length=Zu len n:=by simp[mK]
theorem Zv {len n k:Nat}(hn:0<n):k<Zu len n↔k*n<len:=by
 unfold Zu;rw[show(k<(len+n - 1)/n)=(k+1≤(len+n - 1)/n)from rfl,Nat.le_div_iff_mul_le hn,uG];omega
theorem Za (a d:Nat):Bk (some (I a)) d=some a:=by simp[Bk]
theorem eU (a b:Nat):U9 (a:Int) b=((min a b:Nat):Int):=by unfold U9;split<;>omega
theorem Zy {o1 o2:Nat}{s:AV}{cs:List AV}{len n:Nat}(hn:0<n)(hn2:n≤1099511627776)(hlen:len≤1099511627776):TE prog 150 [.ptr o1 0,.ptr o2 0] (λH=>H[o1]?=some (some (.cells [s]))∧H[o2]?=some (some (.cells [I n]))∧Aa H 1 s=some (cs,len)) (mK s len n):=by
 have e31:f150.ntmps=31:=by kernel_rfl
 refine Ul func150 dD (by kernel_rfl) ?_;intro l G0 rec T p H J X hrd hpd hps hT h0 hcap hr;rw[e31,TX];generalize hY:(AV.lit (.func (.yield l) #[] #[]))=Y;refine XCode.seqP (fl:=Jp []) (ql:=Ak) (al:=Ak) (un:=Ak) (kp:=Cu []) (n:=0) (keep:=mk 31 0 [0,1,2,4]) JZ Xn.1 (λe T T' H he h=>by cases e<;>first | exact absurd rfl he | exact h) ?_;refine Eq.mpr (nU Y (.ptr o1 0) (.ptr o2 0) H _) ?_;refine(?_:XCode _ l G0 (.block 0 _) _ _ _ _);refine XCode.block ?_;refine XCode.loop (λm T H r=>∃k,k+m=Zu len n∧r=rec∧T.length=31∧Lb (mk 31 0 [0,1,2,4]) T=[Y,.ptr o1 0,.ptr o2 0,I (k*n:Nat)]∧J k H) (Zu len n) ⟨0,by omega,rfl,rfl,by simp[mk,Lb,AR],h0⟩ ?_;rintro m T H r ⟨k,hk,rfl,hl,hT2,hj⟩;refine XCode.weak (keep:=mk 31 0 [0,1,2,4]) hl ?_;rw[hT2];obtain⟨c1,c2,c3⟩:=hcap k H hj;have hkn:=Zv (len:=len) (k:=k) hn;refine XCode.seq ?_;refine XCode.seqP (fl:=Jp []) (ql:=Ak) (al:=Ak) (un:=Ak) (kp:=Cu []) (n:=0) (keep:=mk 31 0 [0,1,2,4,9]) JZ Xn.2.1 (λe T T' H he h=>by cases e<;>first | exact absurd rfl he | exact h) ?_;refine Eq.mpr (nV Y (.ptr o1 0) (.ptr o2 0) _ H _) ?_;have al:Be s=some (I (len:Nat)):=Bz c3;simp only[Al c1,Ai,Dt,Ab,al,Bq];refine(?_:XCode _ l G0 (.cond (.tmp 9) .skip (.exit 0)) _ _ _ _);refine XCode.cond (b:=decide (((k*n:Nat):Int)<len)) rfl ?_
 by_cases h:k*n<len
 ·have hI:((k*n:Nat):Int)<(len:Int):=by omega
  simp only[hI,rE];refine XCode.skip ?_;refine(?_:XCode _ l G0 (.seq (.block 1 _) _) _ _ _ _);refine XCode.seq (XCode.block ?_);refine XCode.seqN (fl:=Jp []) (ql:=Ak) (al:=Ak) (un:=Ak) (kp:=Cu []) (n:=0) (keep:=mk 31 0 [0,1,2,4,5]) JZ Xn.2.2.1 ?_;refine Eq.mpr (nX Y (.ptr o1 0) (.ptr o2 0) _ _ H _) ?_;obtain⟨r1,s1,s2,-⟩:=Eu c3 (lo:=some (I (k*n:Nat))) (hi:=none) (l:=k*n) (k:=len) (Za _ _) rfl (by omega) (sY _);have al1:Be r1=some (I (len - k*n:Nat)):=Bz s2;have hmin:amm U9 [I n,I (len - k*n:Nat)]=some (I (min n (len - k*n):Nat)):=by rw[MX,eU]
  simp only[Al c2,Al c1,Ai,Dt,Ab,s1,al1,hmin];refine⟨by trivial,?_⟩;refine XCode.seq (XCode.region ?_);refine Eq.mpr (congrArg (λL=>XOps _ l G0 chO _ L _ _ _) jK) ?_;refine XOps.preP (ql:=Ak) (al:=Ak) (keep:=mk 31 0 [0,1,2,4,19,28]) ?_;refine Eq.mpr (nY Y (.ptr o1 0) (.ptr o2 0) _ _ H _) ?_
  have hadd:Ax .add (I (k*n:Nat)) (I (min n (len - k*n):Nat))=some (I (k*n+min n (len - k*n):Nat)):=by
   rw[Az (by omega) (by omega)];congr 3
  have hlt:k*n<k*n+min n (len - k*n):=by omega
  obtain⟨r2,t1,t2,-⟩:=UY c3 hlt (show k*n+min n (len - k*n)≤len by omega)
  have hx:(mK s len n)[k]?=some r2:=by
   unfold mK;rw[uJ,wK (hkn.2 h)]
   show some (gV s len n k)=some r2
   unfold gV;rw[t1];rfl
  simp only[Al c1,Ai,Dt,Ab,hadd,t1];refine XOps.yield dE.1 dE.2.1 hY.symm hrd hpd hps hT (hr k r2 H hx hj) ?_ ?_
  ·intro H' hj'
   rw[dE.2.2];obtain⟨d1,d2,d3⟩:=hcap (k+1) H' hj';refine Eq.mpr (congrArg (λL=>XOps _ l G0 chO _ L _ _ _) (uI _).symm) ?_;refine XOps.preP (ql:=Ak) (al:=Ak) (keep:=mk 31 0 [0,1,2,4,30]) ?_;refine Eq.mpr (gW Y (.ptr o1 0) (.ptr o2 0) _ _ _ _ H' _) ?_;simp only[Bi,Ab,wA];refine XOps.nil ?_;refine(?_:XCode _ l G0 (.cond (.tmp 30) .ret .skip) _ _ _ _);refine XCode.cond (b:=false) rfl ?_;simp only[At];refine XCode.skip ?_;refine(?_:XCode _ l G0 (sub [true,true,true,true,true] Zt) _ _ _ _);refine XCode.of ((Dx (fl:=Jp []) (ql:=Ak) (al:=Ak) (un:=Ak) (kp:=Cu []) JZ _ 0 _ _ _ Xn.2.2.2 (Eq.mpr (nW Y (.ptr o1 0) (.ptr o2 0) _ _ H' (λe X H2=>e=.normal∧X=[Y,.ptr o1 0,.ptr o2 0,I ((k+1)*n:Nat)]∧H2=H')) ?_)).mono ?_)
   ·have ha:Ax .add (I (k*n:Nat)) (I n)=some (I ((k+1)*n:Nat)):=by
     rw[Az (by omega) (by omega)];congr 3;rw[uG];omega
    simp only[Al d2,Ai,Dt,Ab,ha];exact⟨by trivial,by trivial,by trivial⟩
   ·intro e T' H2 hk2
    obtain⟨hl2,rfl,hX,rfl⟩:=B4.1 hk2;exact⟨m - 1,by have:=hkn.2 h;omega,k+1,by have:=hkn.2 h;omega,rfl,hl2,hX,hj'⟩
  ·intro c H' hx'
   rw[dE.2.2];refine Eq.mpr (congrArg (λL=>XOps _ l G0 chO _ L _ _ _) (uI _).symm) ?_;refine XOps.preP (ql:=Ak) (al:=Ak) (keep:=mk 31 0 [0,1,2,4,30]) ?_;refine Eq.mpr (gW Y (.ptr o1 0) (.ptr o2 0) _ _ _ _ H' _) ?_;simp only[Bi,Ab,Bool.not_false];refine XOps.nil ?_;refine(?_:XCode _ l G0 (.cond (.tmp 30) .ret .skip) _ _ _ _);refine XCode.cond (b:=true) rfl ?_;simp only[if_true];refine XCode.ret ?_;exact⟨.inr rfl,.inr ⟨c,rfl,hx'⟩⟩
 ·have hI:¬((k*n:Nat):Int)<(len:Int):=by omega
  simp only[hI,Dp,At];refine XCode.exit ?_
  have hkN:k=Zu len n:=by
   have:=mt hkn.1 h
   omega
  exact⟨.inl rfl,.inl ⟨rfl,by rw[← hkN];exact hj⟩⟩
theorem StAt.keep {s:StS}{os:Nat}{p:AV}{H H':AH}(h:StAt s os p H)(k:∀j,j=os∨j∈AP p→H'[j]?=H[j]?):StAt s os p H':=by
 obtain⟨a,b,c,d,pv,h⟩:=h;exact⟨a,b,c,d,pv,by rw[k os (.inl rfl)];exact h.obj,h.now,h.kept,h.pm,Ae h.ps λi q=>k i (.inr q),h.po,h.pi,h.pc⟩
theorem StAt.os_lt {s:StS}{os:Nat}{p:AV}{H:AH}(h:StAt s os p H):os<H.length:=by obtain⟨a,b,c,d,pv,h⟩:=h;exact h.lt
theorem StAt.p_lt {s:StS}{os:Nat}{p:AV}{H:AH}(h:StAt s os p H):∀j∈AP p,j<H.length:=by obtain⟨a,b,c,d,pv,h⟩:=h;exact OL h
theorem cI {H:AH}{v:AV}{cs:List AV}{m:Nat}(hv:Aa H 1 v=some (cs,m))(ho:oneA v=true):BCall prog 79 [v,I 4096] H (.fn (.func 150) [] [.ptr H.length 0,.ptr (H.length+1) 0]) (H++[some (.cells [v]),some (.cells [I 4096])]):=by
 obtain⟨r,H',⟨rfl,rfl⟩,hc⟩:=Hx (a0:=v) (a1:=I 4096) (H:=H) (K:=λr H'=>r=.fn (.func 150) [] [.ptr H.length 0,.ptr (H.length+1) 0]∧H'=H++[some (.cells [v]),some (.cells [I 4096])]) (by
  unfold Fb;have e1:A8 H v=some (.ptr H.length 0,H++[some (.cells [v])]):=by unfold A8;rw[AL ho];rfl
  have e2:A8 (H++[some (.cells [v])]) (I 4096)=some (.ptr (H.length+1) 0,H++[some (.cells [v]),some (.cells [I 4096])]):=by unfold A8;rw[AL (v:=I 4096) rfl];simp
  have c2:(H++[some (AObj.cells [v]),some (.cells [I 4096])])[H.length+1]?=some (some (.cells [I 4096])):=by simp
  simp only[e1,A1,e2,Al c2,Ai,Dt,rX,show ¬(4096:Int)<1 by omega,rF];exact⟨by trivial,by trivial⟩)
 exact hc
def CJ (b:List UInt8):List (List UInt8):=(List.range (Zu b.length 4096)).map λj=>(b.drop (j*4096)).take (min 4096 (b.length - j*4096))
def pcs (ino:Int):List (List UInt8)→StS→Int→Int→(StS×Int×Int)×Int
 | [],s,at',sum=>((s,at',sum),0)
 | b::r,s,at',sum=>
  if(Cs s ino at' b).1.2=0 then pcs ino r (Cs s ino at' b).2 (at'+(Cs s ino at' b).1.1) (sum+(Cs s ino at' b).1.1)
  else(((Cs s ino at' b).2,at'+(Cs s ino at' b).1.1,sum+(Cs s ino at' b).1.1),(Cs s ino at' b).1.2)
def OQ (l:List (List UInt8)):Nat:=(l.map List.length).sum
theorem iF {c:List Ext}{ino pos:Int}{b:List UInt8}:∀{l:List Sp} {s:StS},(∀q∈l,pos≤q.pos∧0<q.len∧q.len≤8∧q.pos+q.len≤pos+b.length)→0≤(WW c ino pos b l s).1.1∧(WW c ino pos b l s).1.1≤b.length
 | [],s,_=>by unfold WW;simp only;omega
 | q::r,s,hq=>by
  have h1:=hq q (by simp);unfold WW
  split
  ·simp only;omega
  ·split
   ·simp only;omega
   ·exact iF λx hx=>hq x (by simp[hx])
theorem Wf (s:StS)(ino pos:Int)(b:List UInt8):0≤(Cs s ino pos b).1.1∧(Cs s ino pos b).1.1≤b.length:=by
 unfold Cs
 split
 ·simp only;omega
 ·split
  ·simp only;omega
  ·rename_i hf
   have hf:=uB hf;exact iF λq hq=>RJ hf hq
abbrev kS:List Bool:=[true,true,false,true,false,false,true,true,false,false,true,true,false]
def MD (b:List UInt8)(j:Nat):List UInt8:=(b.drop (j*4096)).take (min 4096 (b.length - j*4096))
theorem Wx {b:List UInt8}{i:Nat}(h:i<Zu b.length 4096):(CJ b)[i]?=some (MD b i):=by
 unfold CJ;rw[uJ,wK h];rfl
theorem Wy (b:List UInt8):(CJ b).length=Zu b.length 4096:=by simp[CJ]
theorem jJ {H:AH}{v:AV}{b:List UInt8}{j:Nat}(hv:Aa H 1 v=some (AY b,b.length))(hj:j*4096<b.length):
  Aa H 1 (gV v b.length 4096 j)=some (AY (MD b j),(MD b j).length)∧∀i∈AP (gV v b.length 4096 j),i∈AP v:=by
 obtain⟨r,h1,h2,h3⟩:=UY hv (l:=j*4096) (k:=j*4096+min 4096 (b.length - j*4096)) (by omega) (by omega);have e:gV v b.length 4096 j=r:=by unfold gV;rw[h1];rfl
 rw[e];refine⟨?_,h3⟩;rw[h2 H hv];unfold MD;rw[vZ,sX,tC];simp only[AY,wW,xN]
 congr 2
 omega
structure Bd (NN:Nat)(rest:List (List UInt8))(s:StS)(at' sum:Int):Prop where
 w:∃M,SW M s∧M+9*OQ rest≤NN
 a:0≤at'∧at'+OQ rest≤9223372036854775807
 s:0≤sum∧sum+OQ rest≤9223372036854775807
theorem Ta (b:List UInt8)(r:List (List UInt8)):OQ (b::r)=b.length+OQ r:=by simp[OQ]
theorem aS {ino:Int}:∀{l:List (List UInt8)} {N:Nat} {s:StS} {a m:Int},SW N s→SW (N+9*OQ l) (pcs ino l s a m).1.1
 | [],N,s,a,m,h=>h
 | b::r,N,s,a,m,h=>by
  have h1:=Se h ino a b;rw[Ta];unfold pcs
  split
  ·exact(aS h1).mono (by omega)
  ·exact h1.mono (by omega)
end
end Go.Proofs.YtbppnhenlboefaaGreat.Av
