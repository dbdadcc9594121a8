/- Texts of this proof, one behind the other, packed into one file by a program of this session. No condition. -/
import Derived.Below
import Derived.Deep.AppendSrc
import Derived.Laws.BytesString
import Derived.Laws.Cells
import Derived.Laws.CopyRow
import Derived.Laws.IdiomStrings
import Derived.Laws.MakeOwn
import Derived.Laws.StructEq
import Derived.Lib.AppendZerosOnto
import Derived.MapKept
import Derived.Orders
import Derived.RangeFuncCalls
import Derived.RangeFuncLeaves
import Derived.RangeFuncRecord
import Derived.Tactics
import Derived.TacticsIn
set_option linter.unusedVariables false
set_option linter.unusedSimpArgs false
namespace Go.Proofs.YtbppnhenlboefaaGreat.Av
open Go Go.RowKit
section
theorem BG {α:Type _}{l:List α}{i:Nat}{a:α}:l[i]?=some a↔∃h:i<l.length,l[i]=a:=List.getElem?_eq_some_iff
theorem Cc {α:Type _}{l:List α}{i j:Nat}(h:i≠j){a:α}:(l.set i a)[j]?=l[j]?:=List.getElem?_set_ne h
theorem HU {α:Type _}{l:List α}{i:Nat}(h:i<l.length){a:α}:(l.set i a)[i]?=some a:=List.getElem?_set_self h
theorem Ca {α:Type _}{a:α}{as:List α}{i:Nat}:(a::as)[i+1]?=as[i]?:=List.getElem?_cons_succ
theorem BH {α:Type _}{a:α}{as:List α}:(a::as)[0]?=some a:=List.getElem?_cons_zero
theorem Dq {α:Type _}{l:List α}{i:Nat}(h:i<l.length):l[i]?=some l[i]:=List.getElem?_eq_getElem h
theorem B3 (h:Decidable True): @decide True h=true:=decide_eq_true trivial
theorem B8 (h:Decidable False): @decide False h=false:=decide_eq_false id
inductive Room where
 | ex (k:Nat)
 | ge (k:Nat)
 deriving DecidableEq,Inhabited
def Room.least:Room->Nat
 | .ex k=>k
 | .ge k=>k
inductive AV where
 | lit (v:Value)
 | ptr (o off:Nat)
 | ip (cs:List AV)
 | sl (o off len esz:Nat) (cap:Room)
 | imm (cs:List AV) (len esz:Nat)
 | mp (o:Nat)
 | agg (cs:List AV)
 | tup (vs:List AV)
 | fn (f:Fn) (first captured:List AV)
 | emp
 | junk
 deriving Inhabited
inductive AObj where
 | cells (cs:List AV)
 | map (es:List (Value×AV))
abbrev AH:=List (Option AObj)
structure Cfg where
 w:World
 n:Nat
 μ:Nat->Nat×Nat×Nat
 L:Nat->Prop
 K:Nat->Prop
def Has (G:Cfg)(a:Addr)(vs:List Value):Prop:=vs=[]\/(¬(G.L a.block\/G.K a.block)/\∀i v,vs[i]?=some v->G.w.cell? (a.add i)=some v/\v.oneCell'=true)
def SlAt (m:Nat×Nat×Nat)(off esz:Nat)(b:Room)(a:Addr)(c:Nat):Prop:=
 match b with
 | .ex k=>c=k/\(k=0\/(a=⟨m.1,m.2.1+off,none⟩/\off+k*esz<=m.2.2))
 | .ge k=>k<=c/\(c=0\/(a=⟨m.1,m.2.1+off,none⟩/\off+c*esz=m.2.2))
mutual
def VR (G:Cfg):AV->Value->Prop
 | .lit v,u=>u=v
 | .ptr o off,u=>o<G.n/\u=.pointer (some ⟨(G.μ o).1,(G.μ o).2.1+off,none⟩)
 | .ip cs,u=>∃ad vs,u=.pointer (some ad)/\Has G ad vs/\VRs G cs vs
 | .sl o off len esz cap,u=>o<G.n/\∃a c,u=.slice (some a) len c/\len<=c/\SlAt (G.μ o) off esz cap a c
 | .imm cs len esz,u=>∃ad c vs,u=.slice (some ad) len c/\len<=c/\Has G ad vs/\VRs G cs vs
 | .mp o,u=>o<G.n/\u=.map (some (G.μ o).1)
 | .agg cs,u=>∃vs,u=.agg vs/\VRs G cs vs.toList
 | .tup cs,u=>∃vs,u=.tuple vs/\VRs G cs vs.toList
 | .fn f a b,u=>∃va vb,u=.func f va vb/\VRs G a va.toList/\VRs G b vb.toList
 | .emp,u=>∃a,u=.slice (some a) 0 0
 | .junk,_=>True
def VRs (G:Cfg):List AV->List Value->Prop
 | [],vs=>vs=[]
 | a::as,vs=>∃v r,vs=v::r/\VR G a v/\VRs G as r
end
def OR (G:Cfg)(o:Nat):AObj->Prop
 | .cells cs=>∃c e b,G.w.heap[(G.μ o).1]?=some (.cells c e (0,0))/\(G.μ o).2.1+(G.μ o).2.2<=c.size/\
   cs.length<=(G.μ o).2.2/\VRs G cs b/\∀i v,b[i]?=some v->c[(G.μ o).2.1+i]?=some v/\v.oneCell'=true
 | .map es=>∃a,G.w.heap[(G.μ o).1]?=some (.map a a.size)/\VRs G (es.map Prod.snd) (a.toList.map (·.val))/\a.toList.map (·.key)=es.map Prod.fst/\
   a.toList.map (·.born)=List.range es.length
structure HR (G:Cfg)(H:AH):Prop where
 n:G.n=H.length
 obj:∀(o:Nat) (x:AObj),H[o]?=some (some x)->OR G o x
 inj:∀(o o':Nat) (x x':AObj),H[o]?=some (some x)->H[o']?=some (some x')->(G.μ o).1=(G.μ o').1->o=o'
 live:∀(o:Nat) (x:AObj),H[o]?=some (some x)->G.L (G.μ o).1
 lt:∀b,G.L b\/G.K b->b<G.w.heap.size
 dis:∀b,G.L b->¬G.K b
structure Evo (G G':Cfg):Prop where
 os:G'.w.os=G.w.os
 tape:G'.w.tape=G.w.tape
 output:G'.w.output=G.w.output
 size:G.w.heap.size<=G'.w.heap.size
 keep:∀k,k<G.w.heap.size->¬G.L k->G'.w.heap[k]?=G.w.heap[k]?/\¬G'.L k
 n:G.n<=G'.n
 μ:∀o,o<G.n->G'.μ o=G.μ o
 K:G'.K=G.K
abbrev Aj7:=@Nat.le_refl
theorem Evo.refl (G:Cfg):Evo G G:=⟨rfl,rfl,rfl,Aj7 _,λ_ _ h=>⟨rfl,h⟩,Aj7 _,λ_ _=>rfl,rfl⟩
abbrev Al1:=@Nat.le_trans
abbrev Am7:=@Nat.lt_of_lt_of_le
theorem Evo.trans {A B C:Cfg}(h:Evo A B)(k:Evo B C):Evo A C:=
  ⟨k.os.trans h.os,k.tape.trans h.tape,k.output.trans h.output,Al1 h.size k.size,
   λi a e=>by obtain⟨c,f⟩:=h.keep i a e;obtain⟨d,g⟩:=k.keep i (Am7 a h.size) f;exact⟨d.trans c,g⟩,
   Al1 h.n k.n,λo b=>(k.μ o (Am7 b h.n)).trans (h.μ o b),k.K.trans h.K⟩
theorem iC (a:Addr)(i:Nat):(a.add i).block=a.block:=by unfold Addr.add;split<;>rfl
theorem Has.evo {G G':Cfg}(h:Evo G G'){a:Addr}{vs:List Value}(b:Has G a vs):Has G' a vs:=by
 rcases b with rfl | ⟨c,d⟩
 ·exact .inl rfl
 ·cases vs with
  | nil=>exact .inl rfl
  | cons v r=>
   have j:a.block<G.w.heap.size:=by
    have:=World.block_lt_of_cell? _ _ (d 0 v rfl).1
    rwa[iC]at this
   obtain⟨e,l⟩:=h.keep _ j λh=>c (.inl h);refine .inr ⟨λb=>b.elim l λg=>c (.inr (by rw[<- h.K];exact g)),λi u k=>?_⟩;obtain⟨this,f⟩:=d i u k;refine⟨?_,f⟩;unfold World.cell? at this|-;rw[iC]at this|-;rw[e];exact this
structure Tr (G G':Cfg):Prop where
 n:G.n<=G'.n
 μ:∀o,o<G.n->G'.μ o=G.μ o
 has:∀ad vs,Has G ad vs->Has G' ad vs
theorem Evo.tr {G G':Cfg}(h:Evo G G'):Tr G G':=⟨h.n,h.μ,λ_ _ a=>a.evo h⟩
mutual
theorem VR.tr {G G':Cfg}(h:Tr G G'):∀{a:AV} {v:Value},VR G a v->VR G' a v
 | .lit _,_,hv=>by simpa only[VR]using hv
 | .ptr o off,v,hv=>by
  simp only[VR]at hv|-;obtain⟨ho,e⟩:=hv;exact⟨Am7 ho h.n,by rw[h.μ o ho];exact e⟩
 | .ip cs,v,hv=>by
  simp only[VR]at hv|-;obtain⟨ad,vs,e,hh,hr⟩:=hv;exact⟨ad,vs,e,h.has _ _ hh,VRs.tr h hr⟩
 | .sl o off len esz cap,v,hv=>by
  simp only[VR]at hv|-;obtain⟨ho,e⟩:=hv;exact⟨Am7 ho h.n,by rw[h.μ o ho];exact e⟩
 | .imm cs len esz,v,hv=>by
  simp only[VR]at hv|-;obtain⟨ad,c,vs,e,hl,hh,hr⟩:=hv;exact⟨ad,c,vs,e,hl,h.has _ _ hh,VRs.tr h hr⟩
 | .mp o,v,hv=>by
  simp only[VR]at hv|-;obtain⟨ho,e⟩:=hv;exact⟨Am7 ho h.n,by rw[h.μ o ho];exact e⟩
 | .agg cs,v,hv=>by
  simp only[VR]at hv|-;obtain⟨vs,e,hr⟩:=hv;exact⟨vs,e,VRs.tr h hr⟩
 | .tup cs,v,hv=>by
  simp only[VR]at hv|-;obtain⟨vs,e,hr⟩:=hv;exact⟨vs,e,VRs.tr h hr⟩
 | .fn f a b,v,hv=>by
  simp only[VR]at hv|-;obtain⟨va,vb,e,hr,hs⟩:=hv;exact⟨va,vb,e,VRs.tr h hr,VRs.tr h hs⟩
 | .emp,_,hv=>by simpa only[VR]using hv
 | .junk,_,_=>by simp only[VR]
theorem VRs.tr {G G':Cfg}(h:Tr G G'):∀{as:List AV} {vs:List Value},VRs G as vs->VRs G' as vs
 | [],_,hv=>by simpa only[VRs]using hv
 | a::as,vs,hv=>by
  simp only[VRs]at hv|-;obtain⟨v,r,e,h1,h2⟩:=hv;exact⟨v,r,e,VR.tr h h1,VRs.tr h h2⟩
end
theorem VRs.evo {G G':Cfg}(h:Evo G G'){as:List AV}{vs:List Value}(a:VRs G as vs):VRs G' as vs:=VRs.tr h.tr a
mutual
def HV (m:Nat):AV->Prop
 | .lit _=>True
 | .ptr o _=>o<m
 | .ip cs=>DZ m cs
 | .sl o _ _ _ _=>o<m
 | .imm cs _ _=>DZ m cs
 | .mp o=>o<m
 | .agg cs=>DZ m cs
 | .tup cs=>DZ m cs
 | .fn _ a b=>DZ m a/\DZ m b
 | .emp=>True
 | .junk=>True
def DZ (m:Nat):List AV->Prop
 | []=>True
 | a::as=>HV m a/\DZ m as
end
mutual
theorem VR.bel {G:Cfg}:∀{a:AV} {v:Value},VR G a v->HV G.n a
 | .lit _,_,_=>by simp only[HV]
 | .ptr o off,v,hv=>by simp only[VR]at hv;simp only[HV];exact hv.1
 | .ip cs,v,hv=>by simp only[VR]at hv;simp only[HV];obtain⟨_,_,_,_,h⟩:=hv;exact VRs.bel h
 | .sl o off len esz cap,v,hv=>by simp only[VR]at hv;simp only[HV];exact hv.1
 | .imm cs len esz,v,hv=>by simp only[VR]at hv;simp only[HV];obtain⟨_,_,_,_,_,_,h⟩:=hv;exact VRs.bel h
 | .mp o,v,hv=>by simp only[VR]at hv;simp only[HV];exact hv.1
 | .agg cs,v,hv=>by simp only[VR]at hv;simp only[HV];obtain⟨_,_,h⟩:=hv;exact VRs.bel h
 | .tup cs,v,hv=>by simp only[VR]at hv;simp only[HV];obtain⟨_,_,h⟩:=hv;exact VRs.bel h
 | .fn f a b,v,hv=>by simp only[VR]at hv;simp only[HV];obtain⟨_,_,_,h,k⟩:=hv;exact⟨VRs.bel h,VRs.bel k⟩
 | .emp,_,_=>by simp only[HV]
 | .junk,_,_=>by simp only[HV]
theorem VRs.bel {G:Cfg}:∀{as:List AV} {vs:List Value},VRs G as vs->DZ G.n as
 | [],_,_=>by simp only[DZ]
 | a::as,vs,hv=>by simp only[VRs]at hv;simp only[DZ];obtain⟨_,_,_,h,k⟩:=hv;exact⟨VR.bel h,VRs.bel k⟩
end
mutual
theorem VR.low {G:Cfg}{m:Nat}:∀{a:AV} {v:Value},VR G a v->HV m a->VR {G with n:=m} a v
 | .lit _,_,hv,_=>by simpa only[VR]using hv
 | .ptr o off,v,hv,hb=>by simp only[VR]at hv|-;simp only[HV]at hb;exact⟨hb,hv.2⟩
 | .ip cs,v,hv,hb=>by simp only[VR]at hv|-;simp only[HV]at hb;obtain⟨x,y,z,t,h⟩:=hv;exact⟨x,y,z,t,VRs.low h hb⟩
 | .sl o off len esz cap,v,hv,hb=>by simp only[VR]at hv|-;simp only[HV]at hb;exact⟨hb,hv.2⟩
 | .imm cs len esz,v,hv,hb=>by simp only[VR]at hv|-;simp only[HV]at hb;obtain⟨x,y,z,t,u,s,h⟩:=hv;exact⟨x,y,z,t,u,s,VRs.low h hb⟩
 | .mp o,v,hv,hb=>by simp only[VR]at hv|-;simp only[HV]at hb;exact⟨hb,hv.2⟩
 | .agg cs,v,hv,hb=>by simp only[VR]at hv|-;simp only[HV]at hb;obtain⟨x,y,h⟩:=hv;exact⟨x,y,VRs.low h hb⟩
 | .tup cs,v,hv,hb=>by simp only[VR]at hv|-;simp only[HV]at hb;obtain⟨x,y,h⟩:=hv;exact⟨x,y,VRs.low h hb⟩
 | .fn f a b,v,hv,hb=>by simp only[VR]at hv|-;simp only[HV]at hb;obtain⟨x,y,z,h,k⟩:=hv;exact⟨x,y,z,VRs.low h hb.1,VRs.low k hb.2⟩
 | .emp,_,hv,_=>by simpa only[VR]using hv
 | .junk,_,_,_=>by simp only[VR]
theorem VRs.low {G:Cfg}{m:Nat}:∀{as:List AV} {vs:List Value},VRs G as vs->DZ m as->VRs {G with n:=m} as vs
 | [],_,hv,_=>by simpa only[VRs]using hv
 | a::as,vs,hv,hb=>by simp only[VRs]at hv|-;simp only[DZ]at hb;obtain⟨x,y,z,h,k⟩:=hv;exact⟨x,y,z,VR.low h hb.1,VRs.low k hb.2⟩
end
section lists
variable {G : Cfg}
theorem VRs.length {as:List AV}{vs:List Value}(h:VRs G as vs):as.length=vs.length:=by
 induction as generalizing vs with
 | nil=>simp only[VRs]at h;simp[h]
 | cons a as ih=>
  simp only[VRs]at h;obtain⟨v,r,rfl,_,b⟩:=h;simp[ih b]
theorem VRs.nil:VRs G [] []:=by simp only[VRs]
theorem VRs.cons {a:AV}{v:Value}{as:List AV}{vs:List Value}(h:VR G a v)(hs:VRs G as vs):VRs G (a::as) (v::vs):=by
 simp only[VRs];exact⟨v,vs,rfl,h,hs⟩
theorem VRs.get {as:List AV}{vs:List Value}(h:VRs G as vs){i:Nat}{a:AV}(c:as[i]?=some a):∃v,vs[i]?=some v/\VR G a v:=by
 induction as generalizing vs i with
 | nil=>simp at c
 | cons b as ih=>
  simp only[VRs]at h;obtain⟨v,r,rfl,d,e⟩:=h;cases i with
  | zero=>simp at c;subst c;exact⟨v,rfl,d⟩
  | succ i=>simp at c;simpa using ih e c
abbrev Al0:=@List.getD_eq_getElem?_getD
theorem VRs.getD {as:List AV}{vs:List Value}(h:VRs G as vs)(i:Nat){a:AV}{v:Value}(c:VR G a v):VR G (as.getD i a) (vs.getD i v):=by
 rw[Al0,Al0];cases b:as[i]? with
 | none=>
  have:vs[i]?=none:=by rw[List.getElem?_eq_none_iff]at b|-;rw[<- h.length];exact b
  rw[this];exact c
 | some x=>obtain⟨u,d,e⟩:=h.get b;rw[d];exact e
theorem VRs.of_get {as:List AV}{vs:List Value}(hl:as.length=vs.length)(h:∀(i:Nat) (a:AV) (v:Value),as[i]?=some a->vs[i]?=some v->VR G a v):VRs G as vs:=by
 induction as generalizing vs with
 | nil=>cases vs with
  | nil=>exact .nil
  | cons _ _=>simp at hl
 | cons a as ih=>cases vs with
  | nil=>simp at hl
  | cons v vs=>exact .cons (h 0 a v rfl rfl) (ih (by simpa using hl) fun i b u (c:as[i]?=some b) (d:vs[i]?=some u)=>h (i+1) b u c d)
theorem VRs.set {as:List AV}{vs:List Value}(h:VRs G as vs)(i:Nat){a:AV}{v:Value}(e:VR G a v):VRs G (as.set i a) (vs.set i v):=by
 induction as generalizing vs i with
 | nil=>simp only[VRs]at h;subst h;exact .nil
 | cons b as ih=>
  simp only[VRs]at h;obtain⟨u,r,rfl,d,c⟩:=h;cases i with
  | zero=>exact .cons e c
  | succ i=>exact .cons d (ih c i)
theorem VRs.append {as bs:List AV}{vs a:List Value}(h:VRs G as vs)(k:VRs G bs a):VRs G (as++bs) (vs++a):=by
 induction as generalizing vs with
 | nil=>simp only[VRs]at h;subst h;exact k
 | cons b as ih=>
  simp only[VRs]at h;obtain⟨u,r,rfl,c,d⟩:=h;exact .cons c (ih d)
theorem VRs.take {as:List AV}{vs:List Value}(h:VRs G as vs)(n:Nat):VRs G (as.take n) (vs.take n):=by
 induction as generalizing vs n with
 | nil=>simp only[VRs]at h;subst h;cases n<;>exact .nil
 | cons b as ih=>
  simp only[VRs]at h;obtain⟨u,r,rfl,a,c⟩:=h;cases n with
  | zero=>exact .nil
  | succ n=>exact .cons a (ih c n)
theorem VRs.drop {as:List AV}{vs:List Value}(h:VRs G as vs)(n:Nat):VRs G (as.drop n) (vs.drop n):=by
 induction as generalizing vs n with
 | nil=>simp only[VRs]at h;subst h;cases n<;>exact .nil
 | cons b as ih=>
  simp only[VRs]at h;obtain⟨u,r,rfl,c,a⟩:=h;cases n with
  | zero=>exact .cons c a
  | succ n=>exact ih a n
theorem VRs.lits (vs:List Value):VRs G (vs.map .lit) vs:=by
 induction vs with
 | nil=>exact .nil
 | cons v vs ih=>exact .cons (by simp only[VR]) ih
theorem VRs.replicate {a:AV}{v:Value}(h:VR G a v)(n:Nat):VRs G (List.replicate n a) (List.replicate n v):=by
 induction n with
 | zero=>exact .nil
 | succ n ih=>exact .cons h ih
end lists
end
section
theorem OR.evo {G G':Cfg}(h:Evo G G'){o:Nat}(g:o<G.n)(f:G'.w.heap[(G.μ o).1]?=G.w.heap[(G.μ o).1]?){x:AObj}(i:OR G o x):OR G' o x:=by
 cases x with
 | cells cs=>
  obtain⟨c,e,m,a,b,d,k,l⟩:=i;refine⟨c,e,m,?_,?_,?_,k.evo h,?_⟩<;>rw[h.μ o g]
  ·rw[f];exact a
  ·exact b
  ·exact d
  ·exact l
 | map es=>
  obtain⟨j,a,b,d⟩:=i;refine⟨j,?_,b.evo h,d⟩;rw[h.μ o g,f];exact a
theorem HR.lt_n {G:Cfg}{H:AH}(h:HR G H){o:Nat}{x:Option AObj}(a:H[o]?=some x):o<G.n:=by
 rw[h.n];exact(BG.1 a).1
abbrev Al6:=@Ne.symm
abbrev Ak4:=@List.length_set
theorem HR.update {G G':Cfg}{H:AH}(hr:HR G H)(g:Evo G G')(v:G'.n=G.n)(m:G'.L=G.L){o:Nat}{x:AObj}(p:H[o]?=some (some x))(y:AObj)
  (B:∀k,k≠(G.μ o).1->G'.w.heap[k]?=G.w.heap[k]?) (C:G'.w.heap.size=G.w.heap.size) (A:OR G' o y):HR G' (H.set o (some y)):=by
 have u:=hr.lt_n p;have q:∀(i:Nat) (z:AObj),H[i]?=some (some z)->G'.μ i=G.μ i:=λi z c=>g.μ i (hr.lt_n c);have s:∀(i:Nat) (z:AObj),(H.set o (some y))[i]?=some (some z)->(i=o/\z=y)\/(i≠o/\H[i]?=some (some z)):=by
  intro i z c;by_cases f:i=o
  ·subst f;rw[HU (by rw[<- hr.n];exact u)]at c;exact .inl ⟨rfl,by simpa using c.symm⟩
  ·rw[Cc (Al6 f)]at c;exact .inr ⟨f,c⟩
 have old:∀(i:Nat) (z:AObj),(H.set o (some y))[i]?=some (some z)->∃r,H[i]?=some (some r):=by
  intro i z c;rcases s i z c with⟨rfl,rfl⟩ | ⟨_,h⟩
  ·exact⟨_,p⟩
  ·exact⟨_,h⟩
 refine⟨by rw[v,hr.n,Ak4],?_,?_,?_,?_,λb d=>by rw[g.K];exact hr.dis b (by rwa[m]at d)⟩
 ·intro i z c;rcases s i z c with⟨rfl,rfl⟩ | ⟨f,h⟩
  ·exact A
  ·exact OR.evo g (hr.lt_n h) (B _ λl=>f (hr.inj _ _ _ _ h p l)) (hr.obj i z h)
 ·intro i j z r c t l;obtain⟨a,e⟩:=old i z c;obtain⟨b,d⟩:=old j r t;rw[q i a e,q j b d]at l;exact hr.inj _ _ _ _ e d l
 ·intro i z c;obtain⟨a,e⟩:=old i z c;rw[q i a e,m];exact hr.live _ _ e
 ·intro b d;rw[m,g.K]at d;rw[C];exact hr.lt b d
abbrev Ao7:=@List.getElem?_set
theorem HR.kill {G:Cfg}{H:AH}(hr:HR G H)(o:Nat):HR G (H.set o none):=by
 have old:∀(i:Nat) (z:AObj),(H.set o none)[i]?=some (some z)->H[i]?=some (some z):=by
  intro i z a;by_cases b:i=o
  ·subst b;rw[Ao7]at a;simp at a
  ·rwa[Cc (Al6 b)]at a
 exact⟨by rw[Ak4];exact hr.n,λi z a=>hr.obj i z (old i z a),λi j z e a d c=>hr.inj _ _ _ _ (old _ _ a) (old _ _ d) c,
  λi z a=>hr.live _ _ (old _ _ a),hr.lt,hr.dis⟩
theorem Evo.drew (G:Cfg):Evo G {G with w:=G.w.drew}:=⟨rfl,rfl,rfl,Aj7 _,λ_ _ h=>⟨rfl,h⟩,Aj7 _,λ_ _=>rfl,rfl⟩
theorem HR.drew {G:Cfg}{H:AH}(hr:HR G H):HR {G with w:=G.w.drew} H:=
 ⟨hr.n,λo x a=>OR.evo (Evo.drew G) (hr.lt_n a) rfl (hr.obj o x a),hr.inj,hr.live,hr.lt,hr.dis⟩
def Cfg.new (G:Cfg)(c:Obj)(a:Nat):Cfg:=
 {w:=G.w.alloc c,n:=G.n+1,μ:=λi=>if i=G.n then(G.w.heap.size,0,a)else G.μ i,L:=λb=>G.L b\/b=G.w.heap.size,K:=G.K}
theorem Evo.new (G:Cfg)(d:Obj)(c:Nat):Evo G (G.new d c):=
  ⟨rfl,rfl,rfl,by simp[Cfg.new],λk b a=>⟨Below.heap_alloc _ _ _ b,by simp only[Cfg.new];intro h;rcases h with h | h;exact a h;omega⟩,
   by simp[Cfg.new],(λo e=>by simp only[Cfg.new];rw[if_neg (by omega)]),rfl⟩
abbrev Aj5:=@Nat.lt_or_ge
abbrev Aj6:=@List.getElem?_append_left
abbrev Aj8:=@List.getElem?_append_right
abbrev An9:=@Nat.eq_zero_or_pos
abbrev Ao3:=@List.getElem?_eq_none
theorem HR.new {G:Cfg}{H:AH}(hr:HR G H)(k:Obj)(e:Nat)(y:AObj)(u:OR (G.new k e) H.length y):HR (G.new k e) (H++[some y]):=by
 have q:=Evo.new G k e;have l:∀(i:Nat) (z:AObj),(H++[some y])[i]?=some (some z)->(i=H.length/\z=y)\/(i<H.length/\H[i]?=some (some z)):=by
  intro i z a;rcases Aj5 i H.length with h | h
  ·rw[Aj6 h]at a;exact .inr ⟨h,a⟩
  ·rw[Aj8 h]at a;have:i - H.length=0:=by
    rcases An9 (i - H.length)with p | p
    ·exact p
    ·rw[Ao3 (by simp;omega)]at a;cases a
   rw[this]at a;exact .inl ⟨by omega,by simpa using a.symm⟩
 have g:∀i,i<H.length->(G.new k e).μ i=G.μ i:=λi a=>q.μ i (by rw[hr.n];exact a);have m:(G.new k e).μ H.length=(G.w.heap.size,0,e):=by simp[Cfg.new,hr.n]
 refine⟨by simp[Cfg.new,hr.n],?_,?_,?_,?_,λb c r=>?_⟩
 ·intro i z a;rcases l i z a with⟨rfl,rfl⟩ | ⟨f,h⟩
  ·exact u
  ·exact OR.evo q (hr.lt_n h) (Below.heap_alloc _ _ _ (hr.lt _ (.inl (hr.live _ _ h)))) (hr.obj i z h)
 ·intro i j z v a t d;rcases l i z a with⟨rfl,rfl⟩ | ⟨f,h⟩<;>rcases l j v t with⟨rfl,rfl⟩ | ⟨s,o⟩
  ·rfl
  ·rw[m,g j s]at d;have:=hr.lt _ (.inl (hr.live _ _ o));simp only at d;omega
  ·rw[m,g i f]at d;have:=hr.lt _ (.inl (hr.live _ _ h));simp only at d;omega
  ·rw[g i f,g j s]at d;exact hr.inj _ _ _ _ h o d
 ·intro i z a;rcases l i z a with⟨rfl,rfl⟩ | ⟨f,h⟩
  ·rw[m];exact .inr rfl
  ·rw[g i f];exact .inl (hr.live _ _ h)
 ·intro b c;rcases c with(c | c) | c
  ·have:=hr.lt b (.inl c);simp[Cfg.new];omega
  ·simp[Cfg.new];omega
  ·have:=hr.lt b (.inr c);simp[Cfg.new];omega
 ·rcases c with c | c
  ·exact hr.dis b c r
  ·have:=hr.lt b (.inr r);omega
theorem HR.newCells {G:Cfg}{H:AH}(hr:HR G H)(c:Array Value)(e:TypeId){as:List AV}{a:Nat}(hl:a<=c.size)(b:as.length<=a){vs:List Value}(h:VRs G as vs)
  (d:∀(i:Nat) (v:Value),vs[i]?=some v->c[i]?=some v/\v.oneCell'=true):HR (G.new (.cells c e) a) (H++[some (.cells as)]):=by
 refine hr.new _ _ _ ?_;have f:(G.new (.cells c e) a).μ H.length=(G.w.heap.size,0,a):=by simp[Cfg.new,hr.n]
 refine⟨c,e,vs,?_,?_,?_,h.evo (Evo.new _ _ _),?_⟩<;>rw[f]
 ·simpa[Cfg.new]using heap_alloc_new G.w (.cells c e)
 ·simpa using hl
 ·exact b
 ·simpa using d
def AObj.bel (m:Nat):AObj->Prop
 | .cells cs=>DZ m cs
 | .map es=>DZ m (es.map Prod.snd)
theorem OR.bel {G:Cfg}{o:Nat}{x:AObj}(h:OR G o x):x.bel G.n:=by
 cases x with
 | cells cs=>obtain⟨c,e,j,b,a,d,f,i⟩:=h;exact f.bel
 | map es=>obtain⟨g,b,a,d⟩:=h;exact a.bel
theorem HR.forget {G:Cfg}{H H':AH}(hr:HR G (H++H'))(p:∀(o:Nat) (x:AObj),H[o]?=some (some x)->x.bel H.length):HR {G with n:=H.length} H:=by
 have old:∀(i:Nat) (z:AObj),H[i]?=some (some z)->(H++H')[i]?=some (some z):=λi z h=>by rw[Aj6 (BG.1 h).1];exact h
 refine⟨rfl,λi z h=>?_,λi j z t h r q=>hr.inj _ _ _ _ (old _ _ h) (old _ _ r) q,λi z h=>hr.live _ _ (old _ _ h),hr.lt,hr.dis⟩;have k:=hr.obj i z (old i z h);have l:=p i z h;cases z with
 | cells cs=>obtain⟨c,e,s,a,b,d,f,g⟩:=k;exact⟨c,e,s,a,b,d,f.low l,g⟩
 | map es=>obtain⟨m,a,b,d⟩:=k;exact⟨m,a,b.low l,d⟩
def Cfg.put (G:Cfg)(D:Nat)(x:Obj):Cfg:={G with w:=G.w.putObj D x}
theorem OR.tr {G G':Cfg}(h:Tr G G'){o:Nat}(g:o<G.n)(f:G'.w.heap[(G.μ o).1]?=G.w.heap[(G.μ o).1]?){x:AObj}(i:OR G o x):OR G' o x:=by
 cases x with
 | cells cs=>
  obtain⟨c,e,m,a,b,d,k,l⟩:=i;refine⟨c,e,m,?_,?_,?_,k.tr h,?_⟩<;>rw[h.μ o g]
  ·rw[f];exact a
  ·exact b
  ·exact d
  ·exact l
 | map es=>
  obtain⟨j,a,b,d⟩:=i;refine⟨j,?_,b.tr h,d⟩;rw[h.μ o g,f];exact a
theorem Tr.put {G:Cfg}{D:Nat}{y:Obj}(n:G.w.heap[D]?=some y)(j:∀c e f,y≠.cells c e f)(x:Obj):Tr G (G.put D x):=by
 refine⟨Aj7 _,λ_ _=>rfl,λb o k=>?_⟩;rcases k with rfl | ⟨h,d⟩
 ·exact .inl rfl
 ·cases o with
  | nil=>exact .inl rfl
  | cons v r=>
   refine .inr ⟨h,λi u m=>?_⟩;obtain⟨a,g⟩:=d i u m;refine⟨?_,g⟩;have l:(b.add i).block≠D:=by
    rintro e;unfold World.cell? at a;rw[e,n]at a;cases y with
    | cells c e f=>exact j c e f rfl
    | _=>simp at a
   unfold World.cell? at a|-;simp only[Cfg.put];rw[World.putObj_heap_other l];exact a
theorem HR.putO {G:Cfg}{H:AH}(hr:HR G H){D:Nat}{y:Obj}(d:∀(o:Nat) (z:AObj),H[o]?=some (some z)->(G.μ o).1≠D)(i:G.w.heap[D]?=some y)(h:∀c e f,y≠.cells c e f)(x:Obj):HR (G.put D x) H:=
 ⟨hr.n,λo z a=>OR.tr (Tr.put i h x) (hr.lt_n a) (World.putObj_heap_other (d o z a)) (hr.obj o z a),hr.inj,hr.live,λb g=>by have:=hr.lt b g;simp only[Cfg.put,World.putObj];simpa using this,hr.dis⟩
def Be:AV:=.lit undef
def AV.ofV:Value->AV
 | .agg cs=>.agg (cs.toList.map .lit)
 | v=>.lit v
theorem VR.ofV (G:Cfg)(v:Value):VR G (.ofV v) v:=by
 cases v<;>simp only[AV.ofV,VR];exact⟨_,rfl,.lits _⟩
def Cf (T:List AV):Operand->AV
 | .tmp t=>T.getD t Be
 | .const v=>.ofV v
 | .global g=>.lit (.pointer (some ⟨g,0,none⟩))
 | .func f=>.fn (.func f) [] []
def FR (G:Cfg)(T:List AV)(a:Act):Prop:=VRs G T a.tmps.toList
abbrev Aq6:=@Array.getD_eq_getD_getElem?
theorem FR.eval {G:Cfg}{T:List AV}{a:Act}(h:FR G T a)(x:Operand):VR G (Cf T x) (a.eval x):=by
 cases x with
 | tmp t=>
  simp only[Cf,Act.eval];have:=VRs.getD h t (a:=Be) (v:=undef) (by simp only[Be,VR]);simpa[Aq6,Al0]using this
 | const v=>exact .ofV G v
 | global g=>simp only[Cf,Act.eval,VR]
 | func f=>simp only[Cf,Act.eval,VR];exact⟨_,_,rfl,.nil,.nil⟩
def EL (T:List AV):Option Tmp->AV->List AV
 | some d,v=>T.set d v
 | none,_=>T
abbrev Ar9:=@Array.toList_setIfInBounds
theorem FR.put {G:Cfg}{T:List AV}{a:Act}(h:FR G T a)(b:Option Tmp){x:AV}{v:Value}(c:VR G x v):FR G (EL T b x) (a.put b v):=by
 cases b with
 | none=>exact h
 | some d=>
  show VRs G _ (a.tmps.setIfInBounds d v).toList;rw[Ar9];exact VRs.set h d c
theorem FR.evo {G G':Cfg}{T:List AV}{a:Act}(b:Evo G G')(h:FR G T a):FR G' T a:=VRs.evo b h
def Dc (P:Program)(t:TypeId):Option Nat:=(P.info? t).map (·.size)
def Akq:TypeDesc->Bool
 | .struct _ | .array _ _=>true
 | _=>false
def mR (P:Program)(t:TypeId):Option Bool:=(P.underlying t).map Akq
section
variable {P : Program} {G : Cfg} {w : World}
theorem Cv {t:TypeId}{n:Nat}(h:Dc P t=some n):(sizeOf t).run P w=.ok n w:=by
 unfold Dc at h;obtain⟨i,a,rfl⟩:=Option.map_eq_some_iff.1 h;simp[sizeOf,typeInfo,a]
theorem YQ {t:TypeId}{g:Bool}(h:mR P t=some g):(isAgg t).run P w=.ok g w:=by
 unfold mR at h;obtain⟨d,a,rfl⟩:=Option.map_eq_some_iff.1 h;unfold isAgg;simp only[Sem.run_bind,run_underlying a,Result.andThen_ok];cases d<;>rfl
def A1 (agg:Bool)(size:Nat)(cs:List AV)(off:Nat):Option AV:=
 if agg then(if off+size<=cs.length then some (.agg ((cs.drop off).take size))else none)else cs[off]?
abbrev Ao6:=@Nat.add_assoc
theorem add_add (a:Addr)(i j:Nat):(a.add i).add j=a.add (i+j):=by
 unfold Addr.add;by_cases b:i=0
 ·subst b;simp
 ·by_cases c:j=0
  ·subst c;simp[b]
  ·have:i+j≠0:=by omega
   simp[b,c,Ao6]
abbrev Ak3:=@List.getElem?_drop
theorem Has.shift {a:Addr}{vs:List Value}(h:Has G a vs)(k:Nat):Has G (a.add k) (vs.drop k):=by
 rcases h with rfl | ⟨c,d⟩
 ·exact .inl (by simp)
 ·refine .inr ⟨by rw[iC];exact c,λi v b=>?_⟩;rw[add_add];rw[Ak3]at b;exact d _ _ b
abbrev Ak2:=@List.getElem?_take
theorem Has.take {b:Addr}{vs:List Value}(h:Has G b vs)(k:Nat):Has G b (vs.take k):=by
 rcases h with rfl | ⟨c,d⟩
 ·exact .inl (by simp)
 ·refine .inr ⟨c,λi v a=>?_⟩;rw[Ak2]at a;split at a
  ·exact d _ _ a
  ·cases a
abbrev An:=And.intro @Bool.false_eq_true @if_false.{1}
abbrev Aj4:=@List.length_take
abbrev Aj9:=@List.length_drop
theorem lP {t:TypeId}{g:Bool}{n:Nat}(e:mR P t=some g)(f:Dc P t=some n){b:Addr}{vs:List Value}{cs:List AV}
  (d:∀(i:Nat) (v:Value),vs[i]?=some v->w.cell? (b.add i)=some v) (c:VRs G cs vs) {off:Nat} {r:AV} (hr:A1 g n cs off=some r):
  ∃u,(loadVar t (b.add off)).run P w=.ok u w/\VR G r u:=by
 unfold A1 at hr;cases g with
 | true=>
  simp only[if_true]at hr;split at hr
  ·rename_i o;injection hr with hr;subst hr;have m:=c.length;refine⟨.agg ((vs.drop off).take n).toArray,?_,?_⟩
   ·have h:=run_loadCells_list (P:=P) w (b.add off) ((vs.drop off).take n) (λj v a=>by
     rw[add_add];rw[Ak2]at a;split at a
     ·rw[Ak3]at a;exact d _ _ a
     ·cases a)
    rw[show((vs.drop off).take n).length=n by rw[Aj4,Aj9];omega]at h;simp only[loadVar,Sem.run_bind,YQ e,Result.andThen_ok,if_true,Cv f,h,Sem.run_pure]
   ·simp only[VR];exact⟨_,rfl,by simpa using(c.drop off).take n⟩
  ·cases hr
 | false=>
  simp only[An]at hr;obtain⟨u,k,l⟩:=c.get hr;refine⟨u,?_,l⟩;simp only[loadVar,Sem.run_bind,YQ e,Result.andThen_ok,An,run_load,d _ _ k]
theorem HR.cells {H:AH}(hr:HR G H){o:Nat}{cs:List AV}(g:H[o]?=some (some (.cells cs))):
  ∃vs,VRs G cs vs/\∀(i:Nat) (v:Value),vs[i]?=some v->G.w.cell? ((⟨(G.μ o).1,(G.μ o).2.1,none⟩:Addr).add i)=some v/\v.oneCell'=true:=by
 obtain⟨c,e,vs,a,j,k,b,d⟩:=hr.obj _ _ g;refine⟨vs,b,λi v h=>?_⟩;obtain⟨this,f⟩:=d i v h;refine⟨?_,f⟩;rw[Addr.add_lit];simp[World.cell?,a,this]
def kE (P:Program)(H:AH)(t:TypeId)(a:AV):Option AV:=
 match mR P t,Dc P t with
 | some g,some n=>match a with
  | .ptr o off=>match H[o]? with
   | some (some (.cells cs))=>A1 g n cs off
   | _=>none
  | .ip cs=>A1 g n cs 0
  | _=>none
 | _,_=>none
theorem yG {H:AH}(hr:HR G H){t:TypeId}{a r:AV}{v:Value}(b:VR G a v)(h:kE P H t a=some r):
  ∃u,(Instr.loadAt t v).run P G.w=.ok u G.w/\VR G r u:=by
 unfold kE at h;split at h
 ·rename_i g n j k;split at h
  ·rename_i o x;split at h
   ·rename_i cs s;simp only[VR]at b;obtain⟨_,rfl⟩:=b;obtain⟨l,m,p⟩:=hr.cells s;obtain⟨u,c,f⟩:=lP (w:=G.w) j k (λi v b=>(p i v b).1) m h;rw[Addr.add_lit]at c;exact⟨u,by simpa[Instr.loadAt,Instr.sureAddr]using c,f⟩
   ·cases h
  ·rename_i cs;simp only[VR]at b;obtain⟨d,l,rfl,q,hs⟩:=b;have e:∀(i:Nat) (v:Value),l[i]?=some v->G.w.cell? (d.add i)=some v:=by
    rcases q with rfl | ⟨_,e⟩
    ·intro i v b;simp at b
    ·exact λi v b=>(e i v b).1
   obtain⟨u,c,f⟩:=lP (w:=G.w) j k e hs h;rw[show d.add 0=d from rfl]at c;exact⟨u,by simpa[Instr.loadAt,Instr.sureAddr]using c,f⟩
  ·cases h
 ·cases h
def nS (P:Program)(s:TypeId)(f:Nat):Option Nat:=
 match P.underlying s with
 | some (.struct fields)=>match fields[f]? with
  | some fl=>match Dc P fl.type with
   | some (_+1)=>some fl.offset
   | _=>none
  | none=>none
 | _=>none
def Ab (k:Nat):AV->Option AV
 | .ptr o off=>some (.ptr o (off+k))
 | .ip cs=>some (.ip (cs.drop k))
 | _=>none
theorem sV {k:Nat}{a r:AV}{v:Value}(b:VR G a v)(h:Ab k a=some r):∃c:Addr,v=.pointer (some c)/\VR G r (.pointer (some (c.add k))):=by
 unfold Ab at h;split at h
 ·injection h with h;subst h;simp only[VR]at b|-;obtain⟨e,rfl⟩:=b;exact⟨_,rfl,e,by rw[Addr.add_lit,Ao6]⟩
 ·injection h with h;subst h;simp only[VR]at b|-;obtain⟨c,f,rfl,d,hs⟩:=b;exact⟨_,rfl,_,_,rfl,d.shift k,hs.drop k⟩
 ·cases h
def Vy (P:Program)(s:TypeId)(a:AV)(f:Nat):Option AV:=(nS P s f).bind λk=>Ab k a
theorem rG {s:TypeId}{f:Nat}{a r:AV}{v:Value}(g:VR G a v)(h:Vy P s a f=some r):
  ∃u,(Instr.fieldAt s v f).run P w=.ok u w/\VR G r u:=by
 unfold Vy at h;obtain⟨k,b,h⟩:=Option.bind_eq_some_iff.1 h;obtain⟨i,rfl,hr⟩:=sV g h;refine⟨_,?_,hr⟩;unfold nS at b;split at b
 ·rename_i j e;split at b
  ·rename_i l c;split at b
   ·rename_i m d;injection b with b;subst b;simp[Instr.fieldAt,run_underlying e,c,Instr.sureAddr,fieldPlace,Cv d]
   ·cases b
  ·cases b
 ·cases b
def OG:AV->Option Int
 | .lit (.int _ n)=>some n
 | _=>none
theorem Afh {a:AV}{v:Value}{n:Int}(b:VR G a v)(h:OG a=some n):∃k,v=.int k n:=by
 unfold OG at h;split at h
 ·injection h with h;subst h;simp only[VR]at b;exact⟨_,b⟩
 ·cases h
def PV (P:Program)(t:TypeId)(x i:AV):Option AV:=
 match OG i with
 | none=>none
 | some n=>match P.underlying t with
  | some (.slice e)=>match Dc P e with
   | none=>none
   | some sz=>match x with
    | .sl o off len _ _=>if 0<=n/\n<len then some (.ptr o (off+n.toNat*sz))else none
    | .imm cs len _=>if 0<=n/\n<len then some (.ip (cs.drop (n.toNat*sz)))else none
    | _=>none
  | some (.array len e)=>match Dc P e with
   | none=>none
   | some sz=>if 0<=n/\n<len then Ab (n.toNat*sz) x else none
  | _=>none
theorem rI {t:TypeId}{x i r:AV}{v q:Value}(f:VR G x v)(hi:VR G i q)(h:PV P t x i=some r):
  ∃u,(Instr.indexAt t v q).run P w=.ok u w/\VR G r u:=by
 unfold PV at h;split at h
 ·cases h
 rename_i n B;obtain⟨k,rfl⟩:=Afh hi B;split at h
 ·rename_i e l;split at h
  ·cases h
  rename_i sz j;split at h
  ·rename_i o p len s D;split at h
   ·rename_i d;injection h with h;subst h;simp only[VR]at f;obtain⟨C,a,c,rfl,A,g⟩:=f;have y:a=⟨(G.μ o).1,(G.μ o).2.1+p,none⟩:=by
     unfold SlAt at g;split at g
     ·obtain⟨rfl,b | b⟩:=g
      ·omega
      ·exact b.1
     ·rcases g with⟨_,b | b⟩
      ·omega
      ·exact b.1
    subst y;refine⟨.pointer (some ((⟨(G.μ o).1,(G.μ o).2.1+p,none⟩:Addr).add (n.toNat*sz))),?_,?_⟩
    ·simp[Instr.indexAt,asIntOf,run_underlying l,d,Cv j]
    ·simp only[VR,Addr.add_lit];exact⟨C,by simp[Ao6]⟩
   ·cases h
  ·rename_i cs len s;split at h
   ·rename_i d;injection h with h;subst h;simp only[VR]at f;obtain⟨m,c,E,rfl,A,z,hs⟩:=f;refine⟨.pointer (some (m.add (n.toNat*sz))),?_,?_⟩
    ·simp[Instr.indexAt,asIntOf,run_underlying l,d,Cv j]
    ·simp only[VR];exact⟨_,_,rfl,z.shift _,hs.drop _⟩
   ·cases h
  ·cases h
 ·rename_i len e l;split at h
  ·cases h
  rename_i sz j;split at h
  ·rename_i d;obtain⟨m,rfl,hr⟩:=sV f h;exact⟨_,by simp[Instr.indexAt,asIntOf,run_underlying l,d,Cv j,Instr.sureAddr],hr⟩
  ·cases h
 ·cases h
def apart (P:Program)(t:TypeId)(x:AV)(off:Nat):Option AV:=
 match mR P t,Dc P t,x with
 | some g,some n,.agg cs=>A1 g n cs off
 | _,_,_=>none
abbrev As3:=@Nat.add_sub_cancel_left
theorem UD {t:TypeId}{x r:AV}{v:Value}{off:Nat}(b:VR G x v)(h:apart P t x off=some r):
  ∃vs u,v=.agg vs/\(part t vs off).run P w=.ok u w/\VR G r u:=by
 unfold apart at h;split at h
 ·rename_i g n cs a c;simp only[VR]at b;obtain⟨vs,rfl,hs⟩:=b;unfold A1 at h;cases g with
  | true=>
   simp only[if_true]at h;split at h
   ·injection h with h;subst h;refine⟨vs,.agg (vs.extract off (off+n)),rfl,?_,?_⟩
    ·simp[part,YQ a,Cv c]
    ·simp only[VR];refine⟨_,rfl,?_⟩;rw[Array.toList_extract,List.extract_eq_take_drop,As3];exact(hs.drop off).take n
   ·cases h
  | false=>
   simp only[An]at h;obtain⟨u,d,f⟩:=hs.get h;refine⟨vs,u,rfl,?_,f⟩;have e:vs[off]?=some u:=by simpa using d
   simp[part,YQ a,e]
 ·cases h
def nR (P:Program)(s:TypeId)(x:AV)(f:Nat):Option AV:=
 match P.underlying s with
 | some (.struct fields)=>match fields[f]? with
  | some fl=>apart P fl.type x fl.offset
  | none=>none
 | _=>none
theorem Akr {s:TypeId}{f:Nat}{x r:AV}{v:Value}(d:VR G x v)(h:nR P s x f=some r):
  ∃u,(Instr.field s v f).run P w=.ok u w/\VR G r u:=by
 unfold nR at h;split at h
 ·rename_i g c;split at h
  ·rename_i i a;obtain⟨j,u,rfl,b,e⟩:=UD (w:=w) d h;exact⟨u,by simp[Instr.field,run_underlying c,a,asAgg,b],e⟩
  ·cases h
 ·cases h
def nT (P:Program)(t:TypeId)(x i:AV):Option AV:=
 match OG i with
 | none=>none
 | some n=>match P.underlying t with
  | some (.array len e)=>match Dc P e with
   | none=>none
   | some sz=>if 0<=n/\n<len then apart P e x (n.toNat*sz)else none
  | some .string=>match x with
   | .lit (.string s)=>if 0<=n then(s[n.toNat]?).map λb=>.lit (.int .u8 b.toNat)else none
   | _=>none
  | _=>none
theorem Aks {t:TypeId}{x i r:AV}{v f:Value}(d:VR G x v)(hi:VR G i f)(h:nT P t x i=some r):
  ∃u,(Instr.index t v f).run P w=.ok u w/\VR G r u:=by
 unfold nT at h;split at h
 ·cases h
 rename_i n j;obtain⟨k,rfl⟩:=Afh hi j;split at h
 ·rename_i len e c;split at h
  ·cases h
  rename_i sz m;split at h
  ·rename_i a;obtain⟨p,u,rfl,l,o⟩:=UD (w:=w) d h;exact⟨u,by simp[Instr.index,asIntOf,run_underlying c,a,Cv m,l],o⟩
  ·cases h
 ·rename_i c;split at h
  ·rename_i s;split at h
   ·rename_i g;obtain⟨b,a,rfl⟩:=Option.map_eq_some_iff.1 h;simp only[VR]at d;subst d;refine⟨.int .u8 b.toNat,?_,by simp only[VR]⟩;simp[Instr.index,asIntOf,run_underlying c,g,a]
   ·cases h
  ·cases h
 ·cases h
end
end
section
section
variable {P : Program} {G : Cfg} {w : World}
def BL:Option AV->Nat->Option Nat
 | none,d=>some d
 | some (.lit (.int _ n)),_=>if 0<=n then some n.toNat else none
 | _,_=>none
def VRo (G:Cfg):Option AV->Option Value->Prop
 | none,none=>True
 | some a,some v=>VR G a v
 | _,_=>False
theorem vC {x:Option AV}{v:Option Value}{d l:Nat}(a:VRo G x v)(h:BL x d=some l):(v=none/\l=d)\/∃k,v=some (.int k (l:Int)):=by
 unfold BL at h;split at h
 ·injection h with h;cases v with
  | none=>exact .inl ⟨rfl,h.symm⟩
  | some _=>exact a.elim
 ·rename_i k n;split at h
  ·rename_i b;injection h with h;cases v with
   | none=>exact a.elim
   | some u=>
    simp only[VRo,VR]at a;exact .inr ⟨k,by rw[a,<- h,Int.toNat_of_nonneg b]⟩
  ·cases h
 ·cases h
theorem Q2 {k:IntKind}{n y:Nat}{code:BoundsCode}(h:n<=y):(Instr.sliceBound (.int k (n:Int)) y code).run P w=.ok n w:=by
 have:(0:Int)<=n/\(n:Int)<=y:=by omega
 simp[Instr.sliceBound,asIntOf,this]
theorem Dr {isSlice : Bool} {len c : Nat} {i a xm : Option AV} {g f vm : Option Value} {l h m : Nat} (hl : VRo G i g) (d : VRo G a f) (e : VRo G xm vm)
    (k:BL i 0=some l) (j:BL a len=some h) (n:BL xm c=some m) (b:xm=none\/a≠none) (o:l<=h) (p:h<=m) (q:m<=c):
    (Instr.sliceBounds isSlice len c g f vm).run P w=.ok (l,h,m) w:=by
  rcases vC hl k with⟨rfl,rfl⟩ | ⟨s,rfl⟩<;>rcases vC d j with⟨rfl,rfl⟩ | ⟨r,rfl⟩<;>rcases vC e n with⟨rfl,rfl⟩ | ⟨t,rfl⟩<;>
    first
    | (simp[Instr.sliceBounds,Q2 q,Q2 p,Q2 o];done)
    | (rcases b with rfl | b
       · exact e.elim
       · cases a with
         | none=>exact absurd rfl b
         | some _=>exact d.elim)
def Room.cut (len l:Nat):Room->Room
 | .ex k=>.ex (k - l)
 | .ge k=>.ge (max len k - l)
def V0 (P:Program)(H:AH)(t:TypeId)(x:AV)(lo hi a:Option AV):Option AV:=
 match P.underlying t with
 | some .string=>match x,a with
  | .lit (.string s),none=>match BL lo 0,BL hi s.size with
   | some l,some h=>if l<=h/\h<=s.size then some (.lit (.string (s.extract l h)))else none
   | _,_=>none
  | _,_=>none
 | some (.slice e)=>match Dc P e,x with
  | some sz,.sl o off len esz cap=>if sz≠esz then none else
   match BL lo 0,BL hi len,a with
   | some l,some h,none=>if l<=h/\h<=max len cap.least then some (.sl o (off+l*esz) (h - l) esz (cap.cut len l))else none
   | some l,some h,some m=>match BL (some m) 0 with
    | some m=>if l<=h/\h<=m/\m<=max len cap.least/\hi.isSome then some (.sl o (off+l*esz) (h - l) esz (.ex (m - l)))else none
    | none=>none
   | _,_,_=>none
  | some sz,.imm cs len esz=>match BL lo 0,BL hi len,a with
   | some l,some h,none=>if l<=h/\h<=len then some (.imm ((cs.drop (l*sz)).take ((h - l)*sz)) (h - l) esz)else none
   | some l,some h,some m=>match BL (some m) 0 with
    | some m=>if l<=h/\h<=m/\m<=len/\hi.isSome then some (if m=l then .emp else .imm ((cs.drop (l*sz)).take ((h - l)*sz)) (h - l) esz)else none
    | none=>none
   | _,_,_=>none
  | some _,.emp=>match BL lo 0,BL hi 0,a with
   | some 0,some 0,none=>some .emp
   | _,_,_=>none
  | some _,.lit (.slice none 0 0)=>match BL lo 0,BL hi 0,a with
   | some 0,some 0,none=>some (.lit (.slice none 0 0))
   | _,_,_=>none
  | _,_=>none
 | some (.array n e)=>match Dc P e,a with
  | some sz,none=>match BL lo 0,BL hi n,x with
   | some l,some h,.ptr o off=>match H[o]? with
    | some (some (.cells cs))=>if l<=h/\h<=n/\off+n*sz<=cs.length then some (.sl o (off+l*sz) (h - l) sz (.ex (n - l)))else none
    | _=>none
   | some l,some h,.ip cs=>if l<=h/\h<=n then some (.imm ((cs.drop (l*sz)).take ((h - l)*sz)) (h - l) sz)else none
   | _,_,_=>none
  | _,_=>none
 | _=>none
theorem Has.nil (G:Cfg)(a:Addr):Has G a []:=.inl rfl
abbrev Au3:=@Nat.zero_mul
abbrev Ap7:=@List.take_zero
theorem vZ {a:Addr}{vs:List Value}{cs:List AV}(b:Has G a vs)(hs:VRs G cs vs){l h m sz esz c:Nat}(d:l<=h)(e:h<=m):
  VR G (.imm ((cs.drop (l*sz)).take ((h - l)*sz)) (h - l) esz) (.slice (some (if m=l then a else a.add (l*sz))) (h - l) (m - l)):=by
 simp only[VR];refine⟨_,_,(vs.drop (l*sz)).take ((h - l)*sz),rfl,by omega,?_,(hs.drop _).take _⟩;split
 ·rename_i f;have:h - l=0:=by omega
  rw[this];simp only[Au3,Ap7];exact .nil _ _
 ·exact(b.shift _).take _
abbrev Al7:=@Decidable.byContradiction
abbrev Ap2:=@Nat.add_mul
abbrev Ak5:=@Nat.mul_le_mul_right
theorem Akt {H:AH}(hr:HR G H){t:TypeId}{x r:AV}{lo hi Z:Option AV}{v:Value}{I F vm:Option Value}(p:VR G x v)(hl:VRo G lo I)(y:VRo G hi F)(A:VRo G Z vm)
  (h:V0 P H t x lo hi Z=some r):∃u,(Instr.sliceAt t v I F vm).run P w=.ok u w/\VR G r u:=by
 unfold V0 at h;split at h
 ·
  rename_i K;split at h
  ·rename_i s;split at h
   ·rename_i l af f d;split at h
    ·rename_i b;injection h with h;subst h;simp only[VR]at p;subst p;cases vm with
     | some _=>exact A.elim
     | none=>
      have:=Dr (P:=P) (w:=w) (isSlice:=false) (xm:=none) (vm:=none) (c:=s.size) (m:=s.size) hl y trivial f d rfl (.inl rfl) b.1 b.2 (Aj7 _);exact⟨.string (s.extract l af),by simp[Instr.sliceAt,Instr.slice,run_underlying K,this],by simp only[VR]⟩
    ·cases h
   ·cases h
  ·cases h
 ·
  rename_i e K;have go:∀(a:Option Addr) (len c:Nat) (l h m sz:Nat),Dc P e=some sz->(Instr.sliceBounds true len c I F vm).run P w=.ok (l,h,m) w->
    (Instr.sliceAt t (.slice a len c) I F vm).run P w=.ok (.slice (if m=l then a else a.map (·.add (l*sz))) (h - l) (m - l)) w:=by
   intro a len c l h m sz g b;simp[Instr.sliceAt,Instr.slice,run_underlying K,b,Cv g]
  split at h
  ·rename_i sz o aa len C N g;split at h
   ·cases h
   rename_i W;have W:sz=C:=Al7 W;subst W;simp only[VR]at p;obtain⟨V,a,c,rfl,ag,z⟩:=p;have ae:max len N.least<=c:=by
    unfold SlAt at z;split at z
    ·simp only[Room.least];omega
    ·simp only[Room.least];omega
   have ab:∀l h m k,l<=h->h<=m->m<=c->(k=.ex (m - l)\/(∃j X,k=.ge j/\N=.ge X/\j<=c - l/\m=c))->
     VR G (.sl o (aa+l*sz) (h - l) sz k) (.slice (if m=l then some a else(some a).map (·.add (l*sz))) (h - l) (m - l)):=by
    intro l h m k h1 h2 S U;simp only[VR];have O:(if m=l then some a else(some a).map (·.add (l*sz)))=some (if m=l then a else a.add (l*sz)):=by split<;>rfl
    rw[O];refine⟨V,_,_,rfl,by omega,?_⟩;by_cases E:m=l
    ·subst E;rcases U with rfl | ⟨j,X,rfl,_,Y,rfl⟩
     ·simp[SlAt]
     ·simp only[SlAt];exact⟨by omega,.inl (by omega)⟩
    ·rw[if_neg E];have am:l<m:=by omega
     have aj:l*sz+(m - l)*sz=m*sz:=by rw[<- Ap2];congr 1;omega
     unfold SlAt at z;split at z
     ·rename_i k0;obtain⟨rfl,h0 | ⟨rfl,ah⟩⟩:=z
      ·omega
      ·have ai:m*sz<=c*sz:=Ak5 _ S;rcases U with rfl | ⟨_,_,_,hc,_⟩
       ·refine⟨rfl,.inr ⟨by rw[Addr.add_lit,Ao6],by omega⟩⟩
       ·cases hc
     ·rcases z with⟨_,h0 | ⟨rfl,ah⟩⟩
      ·omega
      ·have ai:m*sz<=c*sz:=Ak5 _ S;rcases U with rfl | ⟨j,X,rfl,_,Y,rfl⟩
       ·refine⟨rfl,.inr ⟨by rw[Addr.add_lit,Ao6],by omega⟩⟩
       ·exact⟨Y,.inr ⟨by rw[Addr.add_lit,Ao6],by omega⟩⟩
   split at h
   ·rename_i l D f d;split at h
    ·rename_i b;injection h with h;subst h;cases vm with
     | some _=>exact A.elim
     | none=>
      have i:=Dr (P:=P) (w:=w) (isSlice:=true) (xm:=none) (vm:=none) (c:=c) (m:=c) hl y trivial f d rfl (.inl rfl) b.1 (by omega) (Aj7 _);refine⟨_,go _ _ _ _ _ _ _ g i,ab _ _ _ _ b.1 (by omega) (Aj7 _) ?_⟩;cases N with
      | ge k=>exact .inr ⟨_,_,rfl,rfl,by simp only[Room.least]at ae;omega,rfl⟩
      | ex k=>left;simp only[SlAt]at z;simp[z.1,Room.cut]
    ·cases h
   ·rename_i l D L f d;split at h
    ·rename_i m Q;split at h
     ·rename_i b;injection h with h;subst h;have R:BL (some L) c=some m:=by
       revert Q
       cases L<;>simp[BL];rename_i u;cases u<;>simp
      have i:=Dr (P:=P) (w:=w) (isSlice:=true) (c:=c) (m:=m) hl y A f d R (.inr (by intro T;rw[T]at b;simp at b)) b.1 b.2.1 (by omega);exact⟨_,go _ _ _ _ _ _ _ g i,ab _ _ _ _ b.1 b.2.1 (by omega) (.inl rfl)⟩
     ·cases h
    ·cases h
   ·cases h
  ·rename_i sz cs len C g;simp only[VR]at p;obtain⟨q,c,vs,rfl,ag,M,hs⟩:=p;split at h
   ·rename_i l D f d;split at h
    ·rename_i b;injection h with h;subst h;cases vm with
     | some _=>exact A.elim
     | none=>
      have i:=Dr (P:=P) (w:=w) (isSlice:=true) (xm:=none) (vm:=none) (c:=c) (m:=c) hl y trivial f d rfl (.inl rfl) b.1 (by omega) (Aj7 _);refine⟨_,go _ _ _ _ _ _ _ g i,?_⟩;have:=vZ (sz:=sz) (esz:=C) (c:=c) M hs b.1 (m:=c) (by omega);rw[show(if c=l then some q else(some q).map (·.add (l*sz)))=some (if c=l then q else q.add (l*sz)) by split<;>rfl];exact this
    ·cases h
   ·rename_i l D L f d;split at h
    ·rename_i m Q;split at h
     ·rename_i b;injection h with h;subst h;have R:BL (some L) c=some m:=by
       revert Q
       cases L<;>simp[BL];rename_i u;cases u<;>simp
      have i:=Dr (P:=P) (w:=w) (isSlice:=true) (c:=c) (m:=m) hl y A f d R (.inr (by intro T;rw[T]at b;simp at b)) b.1 b.2.1 (by omega);refine⟨_,go _ _ _ _ _ _ _ g i,?_⟩;have O:(if m=l then some q else(some q).map (·.add (l*sz)))=some (if m=l then q else q.add (l*sz)):=by split<;>rfl
      rw[O];by_cases E:m=l
      ·subst E;have:D - m=0:=by omega
       rw[this,if_pos rfl,if_pos rfl];simp only[VR,Nat.sub_self];exact⟨_,rfl⟩
      ·have:=vZ (sz:=sz) (esz:=C) (c:=c) M hs b.1 b.2.1;rw[if_neg E]at this|-;rw[if_neg E];exact this
     ·cases h
    ·cases h
   ·cases h
  ·rename_i sz g;simp only[VR]at p;obtain⟨q,rfl⟩:=p;split at h
   ·rename_i f d;injection h with h;subst h;cases vm with
    | some _=>exact A.elim
    | none=>
     have i:=Dr (P:=P) (w:=w) (isSlice:=true) (xm:=none) (vm:=none) (c:=0) (m:=0) hl y trivial f d rfl (.inl rfl) (Aj7 _) (Aj7 _) (Aj7 _);exact⟨_,go _ _ _ _ _ _ _ g i,by simp only[VR];simp⟩
   ·cases h
  ·rename_i sz g;simp only[VR]at p;subst p;split at h
   ·rename_i f d;injection h with h;subst h;cases vm with
    | some _=>exact A.elim
    | none=>
     have i:=Dr (P:=P) (w:=w) (isSlice:=true) (xm:=none) (vm:=none) (c:=0) (m:=0) hl y trivial f d rfl (.inl rfl) (Aj7 _) (Aj7 _) (Aj7 _);exact⟨_,go _ _ _ _ _ _ _ g i,by simp only[VR];simp⟩
   ·cases h
  ·cases h
 ·
  rename_i n e K;have go:∀(a:Addr) (l h m sz:Nat),Dc P e=some sz->(Instr.sliceBounds false n n I F vm).run P w=.ok (l,h,m) w->
    (Instr.sliceAt t (.pointer (some a)) I F vm).run P w=.ok (.slice (some (if m=l then a else a.add (l*sz))) (h - l) (m - l)) w:=by
   intro a l h m sz g b;simp[Instr.sliceAt,Instr.sureAddr,run_underlying K,b,Cv g]
  split at h
  ·rename_i sz g;cases vm with
   | some _=>exact A.elim
   | none=>
    split at h
    ·rename_i l D o aa f d;split at h
     ·rename_i cs V;split at h
      ·rename_i b;injection h with h;subst h;simp only[VR]at p;obtain⟨al,rfl⟩:=p;have i:=Dr (P:=P) (w:=w) (isSlice:=false) (xm:=none) (vm:=none) (c:=n) (m:=n) hl y trivial f d rfl (.inl rfl) b.1 b.2.1 (Aj7 _);refine⟨_,go _ _ _ _ _ g i,?_⟩;simp only[VR];refine⟨al,_,_,rfl,by omega,?_⟩;refine⟨rfl,?_⟩;by_cases ak:n=l
       ·left;omega
       ·right;rw[if_neg ak,Addr.add_lit,Ao6];refine⟨rfl,?_⟩;obtain⟨c,e',vs,_,_,S,_,_⟩:=hr.obj _ _ V;have aj:l*sz+(n - l)*sz=n*sz:=by rw[<- Ap2];congr 1;omega
        omega
      ·cases h
     ·cases h
    ·rename_i l D cs f d;split at h
     ·rename_i b;injection h with h;subst h;simp only[VR]at p;obtain⟨q,vs,rfl,M,hs⟩:=p;have i:=Dr (P:=P) (w:=w) (isSlice:=false) (xm:=none) (vm:=none) (c:=n) (m:=n) hl y trivial f d rfl (.inl rfl) b.1 b.2 (Aj7 _);exact⟨_,go _ _ _ _ _ g i,vZ (c:=n) M hs b.1 b.2⟩
     ·cases h
    ·cases h
  ·cases h
 ·cases h
end
end
section
section
variable {P : Program} {G : Cfg} {w : World}
def Ls (op:BinOp)(k:IntKind)(a b:Int):Option Value:=
 match op with
 | .add=>some (.int k (k.wrap (a+b)))
 | .sub=>some (.int k (k.wrap (a - b)))
 | .mul=>some (.int k (k.wrap (a*b)))
 | .quo=>if b=0 then none else some (.int k (k.wrap (a.tdiv b)))
 | .rem=>if b=0 then none else some (.int k (a.tmod b))
 | .and=>some (.int k (k.wrap ((BitVec.ofInt k.bits a&&& BitVec.ofInt k.bits b).toNat)))
 | .or=>some (.int k (k.wrap ((BitVec.ofInt k.bits a||| BitVec.ofInt k.bits b).toNat)))
 | .xor=>some (.int k (k.wrap ((BitVec.ofInt k.bits a ^^^ BitVec.ofInt k.bits b).toNat)))
 | .andNot=>some (.int k (k.wrap ((BitVec.ofInt k.bits a&&& ~~~ BitVec.ofInt k.bits b).toNat)))
 | .eql=>some (.bool (a==b))
 | .neq=>some (.bool (a !=b))
 | .lss=>some (.bool (decide (a<b)))
 | .leq=>some (.bool (decide (a<=b)))
 | .gtr=>some (.bool (decide (a>b)))
 | .geq=>some (.bool (decide (a>=b)))
 | _=>none
theorem Aku {op:BinOp}{t:TypeId}{k:IntKind}{a b:Int}{v:Value}(h:Ls op k a b=some v):(binOp op t (.int k a) (.int k b)).run P w=.ok v w:=by
  cases op<;>simp only[Ls]at h<;>first
    | (injection h with h;subst h;simp[binOp,Op.intArith,Op.intCmp,Op.intBits];done)
    | (split at h
       · cases h
       · rename_i c;injection h with h;subst h;simp[binOp,Op.intDiv,c])
    | cases h
def Xn (op:BinOp)(k:IntKind)(a b:Int):Option Value:=
 if b<0 then none else match op with
 | .shl=>some (.int k (k.wrap (a*2 ^ min b.toNat k.bits)))
 | .shr=>some (.int k (a.fdiv (2 ^ min b.toNat k.bits)))
 | _=>none
theorem kH {op:BinOp}{t:TypeId}{k d:IntKind}{a b:Int}{v:Value}(h:Xn op k a b=some v):(binOp op t (.int k a) (.int d b)).run P w=.ok v w:=by
 unfold Xn at h;split at h
 ·cases h
 rename_i c;cases op<;>simp only[]at h<;>first
  | (injection h with h;subst h;simp[binOp,Op.shift,c];done)
  | cases h
def kJ (op:BinOp)(a b:ByteArray):Option Value:=
 match op with
 | .add=>if((a.size+b.size:Nat):Int)>9223372036854775807 then none else some (.string (a++b))
 | .eql=>some (.bool (a.toList==b.toList))
 | .neq=>some (.bool !(a.toList==b.toList))
 | .lss=>some (.bool (Op.bytesLess a.toList b.toList))
 | .leq=>some (.bool (Op.bytesLess a.toList b.toList||a.toList==b.toList))
 | .gtr=>some (.bool !(Op.bytesLess a.toList b.toList||a.toList==b.toList))
 | .geq=>some (.bool !(Op.bytesLess a.toList b.toList))
 | _=>none
theorem Akv:IntKind.i64.max=9223372036854775807:=by decide
theorem Akw {op:BinOp}{t:TypeId}{a b:ByteArray}{v:Value}(h:kJ op a b=some v):(binOp op t (.string a) (.string b)).run P w=.ok v w:=by
  cases op<;>simp only[kJ]at h<;>first
    | (injection h with h;subst h;simp[binOp,Op.stringOp];done)
    | (split at h
       · cases h
       · rename_i c;injection h with h;subst h;simp only[binOp,Op.stringOp,Akv,if_neg c]
         simp)
    | cases h
def pZ:AV->Option Bool
 | .lit (.pointer none)=>some true
 | .ptr _ _ | .ip _=>some false
 | _=>none
def Zi:AV->Option Bool
 | .lit (.slice none _ _)=>some true
 | .sl _ _ _ _ _ | .imm _ _ _ | .emp=>some false
 | _=>none
def Aau:AV->Option Bool
 | .lit .nilFunc=>some true
 | .fn _ _ _=>some false
 | _=>none
def Aav:AV->Option Bool
 | .lit (.map none)=>some true
 | .mp _=>some false
 | _=>none
def My (a b:Option Bool):Option Bool:=
 match a,b with
 | some true,some b=>some b
 | some false,some true=>some false
 | _,_=>none
abbrev Aq5:=@Option.some.injEq
theorem YM {x:AV}{v:Value}{b:Bool}(c:VR G x v)(h:pZ x=some b):∃a,v=.pointer a/\b=a.isNone:=by
 unfold pZ at h;split at h<;>simp only[Aq5,reduceCtorEq]at h<;>subst h<;>simp only[VR]at c
 ·exact⟨none,c,rfl⟩
 ·exact⟨_,c.2,rfl⟩
 ·obtain⟨d,f,e,_⟩:=c;exact⟨_,e,rfl⟩
theorem YN {x:AV}{v:Value}{b:Bool}(d:VR G x v)(h:Zi x=some b):∃a n c,v=.slice a n c/\b=a.isNone:=by
 unfold Zi at h;split at h<;>simp only[Aq5,reduceCtorEq]at h<;>subst h<;>simp only[VR]at d
 ·exact⟨none,_,_,d,rfl⟩
 ·obtain⟨_,a,c,e,_⟩:=d;exact⟨_,_,_,e,rfl⟩
 ·obtain⟨a,c,f,e,_⟩:=d;exact⟨_,_,_,e,rfl⟩
 ·obtain⟨a,e⟩:=d;exact⟨_,_,_,e,rfl⟩
theorem YK {x:AV}{v:Value}{b:Bool}(d:VR G x v)(h:Aau x=some b):(v=.nilFunc/\b=true)\/(∃f p c,v=.func f p c/\b=false):=by
 unfold Aau at h;split at h<;>simp only[Aq5,reduceCtorEq]at h<;>subst h<;>simp only[VR]at d
 ·exact .inl ⟨d,rfl⟩
 ·obtain⟨a,c,e,_⟩:=d;exact .inr ⟨_,_,_,e,rfl⟩
theorem YL {x:AV}{v:Value}{b:Bool}(c:VR G x v)(h:Aav x=some b):∃a,v=.map a/\b=a.isNone:=by
 unfold Aav at h;split at h<;>simp only[Aq5,reduceCtorEq]at h<;>subst h<;>simp only[VR]at c
 ·exact⟨none,c,rfl⟩
 ·exact⟨_,c.2,rfl⟩
def Abu (f:TypeId->AV->AV->Option Bool)(P:Program)(x y:AV):List Field->Option Bool
 | []=>some true
 | fl :: r => if fl.name = "_" then none else
  match apart P fl.type x fl.offset,apart P fl.type y fl.offset with
  | some a,some b=>match f fl.type a b,Abu f P x y r with
   | some e,some e'=>some (e&&e')
   | _,_=>none
  | _,_=>none
def Abv (f:AV->AV->Option Bool)(P:Program)(t:TypeId)(x y:AV)(sz:Nat):List Nat->Option Bool
 | []=>some true
 | i::r=>match apart P t x (i*sz),apart P t y (i*sz)with
  | some a,some b=>match f a b,Abv f P t x y sz r with
   | some e,some e'=>some (e&&e')
   | _,_=>none
  | _,_=>none
def kD (P:Program):Nat->TypeId->AV->AV->Option Bool
 | 0,_,_,_=>none
 | d+1,t,x,y=>
  match P.underlying t with
  | some .bool=>match x,y with
   | .lit (.bool a),.lit (.bool b)=>some (a==b)
   | _,_=>none
  | some (.int _)=>match x,y with
   | .lit (.int k a),.lit (.int k' b)=>if k=k' then some (a==b)else none
   | _,_=>none
  | some .string=>match x,y with
   | .lit (.string a),.lit (.string b)=>some (a.toList==b.toList)
   | _,_=>none
  | some (.pointer _)=>My (pZ x) (pZ y)
  | some (.slice _)=>My (Zi x) (Zi y)
  | some (.func ..)=>My (Aau x) (Aau y)
  | some (.map ..)=>My (Aav x) (Aav y)
  | some (.struct fs)=>match P.stoodInHeld t,x,y with
   | false,.agg xs,.agg ys=>Abu (kD P d) P x y fs.toList
   | _,_,_=>none
  | some (.array n e)=>match Dc P e,x,y with
   | some sz,.agg xs,.agg ys=>Abv (kD P d e) P e x y sz (List.range n)
   | _,_,_=>none
  | _=>none
abbrev Ad7:=And.intro @An @Bool.not_true
abbrev Aw5:=@List.all_cons
abbrev As5:=@Bool.true_and
theorem sH (f:Nat->Sem Bool)(g:Nat->Bool)(l:List Nat)(a:∀i,i∈l->(f i).run P w=.ok (g i) w):
  ((do
   for i in l do
    if !(<- f i)then return false
   pure true:Sem Bool)).run P w=.ok (l.all g) w:=by
 induction l with
 | nil=>simp
 | cons i l ih=>
  have c:=a i (by simp);have e:=ih λj d=>a j (by simp[d]);simp only[List.forIn_cons,Sem.run_bind,c,Result.andThen_ok];cases b:g i with
  | false=>simp[b]
  | true=>
   simp only[Ad7,Sem.run_pure,Result.andThen_ok,Aw5,b,As5];simpa[Sem.run_bind]using e
theorem kQ {d:Nat}{x y:AV}{vx vy:Array Value}(hx:VR G x (.agg vx))(hy:VR G y (.agg vy))(f:TypeId->AV->AV->Option Bool)
  (hf:∀t a b va vb e,VR G a va->VR G b vb->f t a b=some e->(Op.equalIn d t va vb).run P w=.ok e w):
  ∀(fs:List Field) (e:Bool),Abu f P x y fs=some e->(Op.eqFields d vx vy fs).run P w=.ok e w
 | [],e,h=>by simp only[Abu]at h;injection h with h;subst h;simp[Op.eqFields]
 | fl::r,e,h=>by
  simp only[Abu]at h;split at h
  ·cases h
  rename_i hn;split at h
  ·rename_i a b ha hb;split at h
   ·rename_i e1 e2 h1 h2;injection h with h;subst h;obtain ⟨_,ua,ea,pa,xa⟩:=UD (w:=w) hx ha;obtain ⟨_,ub,eb,pb,xb⟩:=UD (w:=w) hy hb;injection ea with ea;injection eb with eb;subst ea;subst eb;have q:=hf _ _ _ _ _ _ xa xb h1;have ih:=kQ hx hy f hf r e2 h2;simp only [Op.eqFields, if_pos (show fl.name ≠ "_" from hn), Sem.run_bind, pa, pb, q, Result.andThen_ok];cases e1 <;> simp [ih]
   ·cases h
  ·cases h
abbrev Am2:=@List.all_eq_true
theorem Afi {d:Nat}{t:TypeId}{sz:Nat}{x y:AV}{u v:Array Value}(E:VR G x (.agg u))(F:VR G y (.agg v))(f:AV->AV->Option Bool)
  (B:∀a b H I e,VR G a H->VR G b I->f a b=some e->(Op.equalIn d t H I).run P w=.ok e w):
  ∀(l:List Nat) (e:Bool),Abv f P t x y sz l=some e->∃g:Nat->Bool,l.all g=e/\
   ∀i,i∈l->((do Op.equalIn d t (<- part t u (i*sz)) (<- part t v (i*sz))):Sem Bool).run P w=.ok (g i) w
 | [],e,h=>by simp only[Abv]at h;injection h with h;subst h;exact⟨λ_=>true,rfl,by simp⟩
 | i::r,e,h=>by
  simp only[Abv]at h;split at h
  ·rename_i a b M N;split at h
   ·rename_i k J K L;injection h with h;subst h;obtain⟨_,U,m,Q,S⟩:=UD (w:=w) E M;obtain⟨_,V,n,R,T⟩:=UD (w:=w) F N;injection m with m;injection n with n;subst m;subst n;have q:=B _ _ _ _ _ S T K;obtain⟨g,C,z⟩:=Afi E F f B r J L;have A:((do Op.equalIn d t (<- part t u (i*sz)) (<- part t v (i*sz))):Sem Bool).run P w=.ok k w:=by simp only[Sem.run_bind,Q,R,q,Result.andThen_ok]
    refine⟨λj=>if j=i then k else g j,?_,?_⟩
    ·by_cases p:i∈r
     ·have O:g i=k:=by have:=z i p;rw[A]at this;injection this with this;exact this.symm
      have:(λj=>if j=i then k else g j)=g:=by funext j;split<;>simp_all
      rw[this,Aw5,O,C]
     ·rw[Aw5];simp only[if_true];congr 1;rw[<- C];rw[Bool.eq_iff_iff,Am2,Am2];constructor<;>intro D j c
      ·have:=D j c;rwa[if_neg (fun (o:j=i)=>p (o▸c))]at this
      ·rw[if_neg (fun (o:j=i)=>p (o▸c))];exact D j c
    ·intro j c;by_cases s:j=i
     ·subst s;simpa using A
     ·simp only[if_neg s];exact z j (by simpa[s]using c)
   ·cases h
  ·cases h
theorem Adn:∀(d:Nat) (t:TypeId) (x y:AV) (p r:Value) (e:Bool),VR G x p->VR G y r->kD P d t x y=some e->∀k,(Op.equalIn (d+k) t p r).run P w=.ok e w
 | 0,t,x,y,p,r,e,hx,hy,h,k=>by simp[kD]at h
 | d+1,t,x,y,p,r,e,hx,hy,h,k=>by
  have I:d+1+k=(d+k)+1:=by omega
  rw[I];unfold kD at h;split at h
  ·rename_i f;split at h
   ·injection h with h;simp only[VR]at hx hy;subst h;subst hx;subst hy;simp[Op.equalIn,run_underlying f]
   ·cases h
  ·rename_i f;split at h
   ·split at h
    ·rename_i K;injection h with h;simp only[VR]at hx hy;subst h;subst hx;subst hy;subst K;simp[Op.equalIn,run_underlying f]
    ·cases h
   ·cases h
  ·rename_i f;split at h
   ·injection h with h;simp only[VR]at hx hy;subst h;subst hx;subst hy;simp[Op.equalIn,run_underlying f,beq_toListBytes]
   ·cases h
  ·rename_i f;unfold My at h;split at h
   ·rename_i b m o;injection h with h;obtain⟨a,rfl,j⟩:=YM hx m;obtain⟨c,rfl,l⟩:=YM hy o;cases a with
    | some _=>simp at j
    | none=>subst h;subst l;simp[Op.equalIn,run_underlying f]
   ·rename_i m o;injection h with h;obtain⟨a,rfl,j⟩:=YM hx m;obtain⟨c,rfl,l⟩:=YM hy o;cases c with
    | some _=>simp at l
    | none=>cases a with
     | none=>simp at j
     | some _=>subst h;simp[Op.equalIn,run_underlying f]
   ·cases h
  ·rename_i f;unfold My at h;split at h
   ·rename_i b m o;injection h with h;obtain⟨a,_,_,rfl,j⟩:=YN hx m;obtain⟨c,_,_,rfl,l⟩:=YN hy o;cases a with
    | some _=>simp at j
    | none=>subst h;subst l;simp[Op.equalIn,run_underlying f]
   ·rename_i m o;injection h with h;obtain⟨a,_,_,rfl,j⟩:=YN hx m;obtain⟨c,_,_,rfl,l⟩:=YN hy o;cases c with
    | some _=>simp at l
    | none=>cases a with
     | none=>simp at j
     | some _=>subst h;simp[Op.equalIn,run_underlying f]
   ·cases h
  ·rename_i f;unfold My at h;split at h
   ·rename_i b m o;injection h with h;subst h;rcases YK hx m with⟨rfl,j⟩ | ⟨_,_,_,_,j⟩
    ·rcases YK hy o with⟨rfl,l⟩ | ⟨_,_,_,rfl,l⟩<;>subst l<;>simp[Op.equalIn,run_underlying f]
    ·simp at j
   ·rename_i m o;injection h with h;subst h;rcases YK hx m with⟨rfl,j⟩ | ⟨_,_,_,rfl,j⟩
    ·simp at j
    ·rcases YK hy o with⟨rfl,l⟩ | ⟨_,_,_,rfl,l⟩
     ·simp[Op.equalIn,run_underlying f]
     ·simp at l
   ·cases h
  ·rename_i f;unfold My at h;split at h
   ·rename_i b m o;injection h with h;obtain⟨a,rfl,j⟩:=YL hx m;obtain⟨c,rfl,l⟩:=YL hy o;cases a with
    | some _=>simp at j
    | none=>subst h;subst l;simp[Op.equalIn,run_underlying f]
   ·rename_i m o;injection h with h;obtain⟨a,rfl,j⟩:=YL hx m;obtain⟨c,rfl,l⟩:=YL hy o;cases c with
    | some _=>simp at l
    | none=>cases a with
     | none=>simp at j
     | some _=>subst h;simp[Op.equalIn,run_underlying f]
   ·cases h
  ·rename_i F f;split at h
   ·rename_i N O L;have u:=hx;have v:=hy;simp only[VR]at u v;obtain⟨p,rfl,_⟩:=u;obtain⟨r,rfl,_⟩:=v;have D:P.fieldsOf t=F:=by simp[Program.fieldsOf,f]
    rw[run_equalIn_struct w (d+k) t p r (by rw[D];exact f) L,D];exact kQ hx hy (kD P d) (λt a b B C e j z A=>Adn d t a b B C e j z A k) _ _ h
   ·cases h
  ·rename_i n s f;split at h
   ·rename_i sz N O M;have u:=hx;have v:=hy;simp only[VR]at u v;obtain⟨p,rfl,_⟩:=u;obtain⟨r,rfl,_⟩:=v;obtain⟨g,J,H⟩:=Afi (d:=d+k) hx hy (kD P d s) (λa b B C e j z A=>Adn d s a b B C e j z A k) _ _ h;have q:=sH (P:=P) (w:=w) (λi=>do Op.equalIn (d+k) s (<- part s p (i*sz)) (<- part s r (i*sz))) g (List.range n) H;rw[J]at q;simp only[Op.equalIn,Sem.run_bind,run_underlying f,Result.andThen_ok,Cv M];rw[Std.Legacy.Range.forIn_eq_forIn_range'];have E:List.range' (([:n]:Std.Legacy.Range)).start ([:n]:Std.Legacy.Range).size ([:n]:Std.Legacy.Range).step=List.range n:=by rw[List.range_eq_range'];simp[Std.Legacy.Range.size]
    rw[E];simp only[bind_assoc,Sem.run_bind]at q;exact q
   ·cases h
  ·cases h
end
end
section
section
variable {P : Program} {G : Cfg} {w : World}
def P9 (P:Program)(op:BinOp)(t:TypeId)(x y:AV):Option AV:=
 match x,y with
 | .lit (.int k a),.lit (.int k' b)=>
  match op with
  | .shl | .shr=>(Xn op k a b).map .lit
  | _=>if k=k' then(Ls op k a b).map .lit else none
 | .lit (.string a),.lit (.string b)=>(kJ op a b).map .lit
 | .agg _,.agg _=>if P.eqGuardType P.depth t then none else
  match op with
  | .eql=>(kD P 20 t x y).map λb=>.lit (.bool b)
  | .neq=>(kD P 20 t x y).map λb=>.lit (.bool !b)
  | _=>none
 | .lit .nilIface,_ | _,.lit .nilIface=>none
 | _,_=>
  match op with
  | .eql=>(kD P 20 t x y).map λb=>.lit (.bool b)
  | .neq=>(kD P 20 t x y).map λb=>.lit (.bool !b)
  | _=>none
inductive EqShape:AV->AV->Value->Value->Prop
 | bool (x y a b):EqShape x y (.bool a) (.bool b)
 | int (k k' a b):EqShape (.lit (.int k a)) (.lit (.int k' b)) (.int k a) (.int k' b)
 | string (a b):EqShape (.lit (.string a)) (.lit (.string b)) (.string a) (.string b)
 | pointer (x y a b):EqShape x y (.pointer a) (.pointer b)
 | slice (x y a n c b m d):EqShape x y (.slice a n c) (.slice b m d)
 | func (x y v u) (h:v=.nilFunc\/∃f p c,v=.func f p c) (h':u=.nilFunc\/∃f p c,u=.func f p c):EqShape x y v u
 | map (x y a b):EqShape x y (.map a) (.map b)
 | agg (xs ys a b):EqShape (.agg xs) (.agg ys) (.agg a) (.agg b)
theorem Vz {a b:Option Bool}{e:Bool}(h:My a b=some e):(∃c,a=some c)/\∃c,b=some c:=by
 unfold My at h;split at h
 ·exact⟨⟨_,rfl⟩,⟨_,rfl⟩⟩
 ·exact⟨⟨_,rfl⟩,⟨_,rfl⟩⟩
 ·cases h
theorem Akx {d:Nat}{t:TypeId}{x y:AV}{j k:Value}{e:Bool}(c:VR G x j)(f:VR G y k)(h:kD P d t x y=some e):EqShape x y j k:=by
 cases d with
 | zero=>simp[kD]at h
 | succ d=>
  unfold kD at h;split at h
  ·split at h
   ·simp only[VR]at c f;subst c;subst f;exact .bool ..
   ·cases h
  ·split at h
   ·simp only[VR]at c f;subst c;subst f;exact .int ..
   ·cases h
  ·split at h
   ·simp only[VR]at c f;subst c;subst f;exact .string ..
   ·cases h
  ·obtain⟨⟨a,g⟩,⟨b,i⟩⟩:=Vz h;obtain⟨_,rfl,_⟩:=YM c g;obtain⟨_,rfl,_⟩:=YM f i;exact .pointer ..
  ·obtain⟨⟨a,g⟩,⟨b,i⟩⟩:=Vz h;obtain⟨_,_,_,rfl,_⟩:=YN c g;obtain⟨_,_,_,rfl,_⟩:=YN f i;exact .slice ..
  ·obtain⟨⟨a,g⟩,⟨b,i⟩⟩:=Vz h;refine .func _ _ _ _ ?_ ?_
   ·rcases YK c g with⟨rfl,_⟩ | ⟨_,_,_,rfl,_⟩
    ·exact .inl rfl
    ·exact .inr ⟨_,_,_,rfl⟩
   ·rcases YK f i with⟨rfl,_⟩ | ⟨_,_,_,rfl,_⟩
    ·exact .inl rfl
    ·exact .inr ⟨_,_,_,rfl⟩
  ·obtain⟨⟨a,g⟩,⟨b,i⟩⟩:=Vz h;obtain⟨_,rfl,_⟩:=YL c g;obtain⟨_,rfl,_⟩:=YL f i;exact .map ..
  ·split at h
   ·simp only[VR]at c f;obtain⟨_,rfl,_⟩:=c;obtain⟨_,rfl,_⟩:=f;exact .agg ..
   ·cases h
  ·split at h
   ·simp only[VR]at c f;obtain⟨_,rfl,_⟩:=c;obtain⟨_,rfl,_⟩:=f;exact .agg ..
   ·cases h
  ·cases h
theorem Aky {t:TypeId}{x y:AV}{a b:Value}{e:Bool}(c:VR G x a)(d:VR G y b)(h:kD P 20 t x y=some e):(Op.equal t a b).run P w=.ok e w:=by
 have:=Adn (w:=w) 20 t x y a b e c d h 9980;exact this
theorem fU {op:BinOp}{t:TypeId}{z A:Operand}{x y:AV}{g i:Value}{e:Bool}(l:VR G x g)(o:VR G y i)(h:kD P 20 t x y=some e)(s:∀xs r,x=.agg xs->y=.agg r->P.eqGuardType P.depth t=false)
  (u:∀k p a b,x=.lit (.int k a)->y=.lit (.int p b)->False) (v:∀a b,x=.lit (.string a)->y=.lit (.string b)->False) (f:op=.eql\/op=.neq):
  ((do eqGuard op t z A g i;binOp op t g i):Sem Value).run P w=.ok (.bool (if op=.eql then e else !e)) w:=by
 have q:=Aky (w:=w) l o h;have B:=Akx l o h;cases B with
 | int k p a b=>exact(u _ _ _ _ rfl rfl).elim
 | string a b=>exact(v _ _ rfl rfl).elim
 | agg xs r a b=>
  have j:=s _ _ rfl rfl;rcases f with rfl | rfl
  ·simp[run_eqGuard_agg w _ _ _ _ _ _ j,binOp,q]
  ·simp[run_eqGuard_agg w _ _ _ _ _ _ j,binOp,q]
 | bool _ _ a b=>rcases f with rfl | rfl<;>simp[eqGuard,binOp,q]
 | pointer _ _ a b=>rcases f with rfl | rfl<;>simp[eqGuard,binOp,q]
 | slice _ _ a n c b m d=>rcases f with rfl | rfl<;>simp[eqGuard,binOp,q]
 | func _ _ _ _ h1 h2=>
  rcases h1 with rfl | ⟨_,_,_,rfl⟩<;>rcases h2 with rfl | ⟨_,_,_,rfl⟩<;>rcases f with rfl | rfl<;>simp[eqGuard,binOp,q]
 | map _ _ a b=>rcases f with rfl | rfl<;>simp[eqGuard,binOp,q]
theorem Akz {op:BinOp}{t:TypeId}{m n:Operand}{x y r:AV}{o p:Value}(f:VR G x o)(i:VR G y p)(h:P9 P op t x y=some r):
  ∃u,((do eqGuard op t m n o p;binOp op t o p):Sem Value).run P w=.ok u w/\VR G r u:=by
 unfold P9 at h;split at h
 ·rename_i k a C b;simp only[VR]at f i;subst f;subst i;have g:(eqGuard op t m n (.int k a) (.int C b)).run P w=.ok () w:=by cases op<;>simp[eqGuard]
  split at h
  ·obtain⟨v,l,rfl⟩:=Option.map_eq_some_iff.1 h;exact⟨v,by simp only[Sem.run_bind,g,Result.andThen_ok];exact kH l,by simp only[VR]⟩
  ·obtain⟨v,l,rfl⟩:=Option.map_eq_some_iff.1 h;exact⟨v,by simp only[Sem.run_bind,g,Result.andThen_ok];exact kH l,by simp only[VR]⟩
  ·split at h
   ·rename_i B;subst B;obtain⟨v,l,rfl⟩:=Option.map_eq_some_iff.1 h;exact⟨v,by simp only[Sem.run_bind,g,Result.andThen_ok];exact Aku l,by simp only[VR]⟩
   ·cases h
 ·rename_i a b;simp only[VR]at f i;subst f;subst i;obtain⟨v,l,rfl⟩:=Option.map_eq_some_iff.1 h;have g:(eqGuard op t m n (.string a) (.string b)).run P w=.ok () w:=by cases op<;>simp[eqGuard]
  exact⟨v,by simp only[Sem.run_bind,g,Result.andThen_ok];exact Akw l,by simp only[VR]⟩
 ·rename_i D E;split at h
  ·cases h
  rename_i A;split at h
  ·obtain⟨e,j,rfl⟩:=Option.map_eq_some_iff.1 h;exact⟨_,fU f i j (λ_ _ _ _=>by simpa using A) (λ_ _ _ _ h=>by cases h) (λ_ _ h=>by cases h) (.inl rfl),by simp only[VR];rfl⟩
  ·obtain⟨e,j,rfl⟩:=Option.map_eq_some_iff.1 h;exact⟨_,fU f i j (λ_ _ _ _=>by simpa using A) (λ_ _ _ _ h=>by cases h) (λ_ _ h=>by cases h) (.inr rfl),by simp only[VR];rfl⟩
  ·cases h
 ·cases h
 ·cases h
 ·rename_i _ _ q s z;split at h
  ·obtain⟨e,j,rfl⟩:=Option.map_eq_some_iff.1 h;exact⟨_,fU f i j (λ_ _ c d=>(z _ _ c d).elim) (λ_ _ _ _ c d=>q _ _ _ _ c d) (λ_ _ c d=>s _ _ c d) (.inl rfl),by simp only[VR];rfl⟩
  ·obtain⟨e,j,rfl⟩:=Option.map_eq_some_iff.1 h;exact⟨_,fU f i j (λ_ _ c d=>(z _ _ c d).elim) (λ_ _ _ _ c d=>q _ _ _ _ c d) (λ_ _ c d=>s _ _ c d) (.inr rfl),by simp only[VR];rfl⟩
  ·cases h
def D5 (op:UnOp)(x:AV):Option AV:=
 match op,x with
 | .neg,.lit (.int k n)=>some (.lit (.int k (k.wrap (0 - n))))
 | .not,.lit (.bool b)=>some (.lit (.bool !b))
 | .xor,.lit (.int k n)=>(Ls .xor k (if k.signed then -1 else k.max) n).map .lit
 | _,_=>none
theorem Ala {op:UnOp}{x r:AV}{v:Value}(a:VR G x v)(h:D5 op x=some r):∃u,(Op.unary op v).run P w=.ok u w/\VR G r u:=by
 unfold D5 at h;split at h
 ·injection h with h;subst h;simp only[VR]at a;subst a;exact⟨_,by simp only[Op.unary,Op.intArith];rfl,by simp only[VR]⟩
 ·injection h with h;subst h;simp only[VR]at a;subst a;exact⟨_,by simp[Op.unary];rfl,by simp only[VR]⟩
 ·simp only[VR]at a;subst a;obtain⟨u,b,rfl⟩:=Option.map_eq_some_iff.1 h;simp only[Ls]at b;injection b with b;exact⟨u,by rw[<- b];simp[Op.unary,Op.intBits],by simp only[VR]⟩
 ·cases h
def Aj:AV->Option AV
 | .ptr o off=>some (.ptr o off)
 | .ip cs=>some (.ip cs)
 | .lit (.pointer (some a))=>some (.lit (.pointer (some a)))
 | .fn (.func f) a b=>some (.fn (.func f) a b)
 | _=>none
theorem vJ {x r:AV}{v:Value}(c:VR G x v)(h:Aj x=some r):r=x/\((∃a,v=.pointer (some a))\/∃f a b,v=.func (.func f) a b):=by
 unfold Aj at h;split at h<;>first
  | (injection h with h;subst h;refine⟨rfl,?_⟩;simp only[VR]at c)
  | cases h
 ·exact .inl ⟨_,c.2⟩
 ·obtain⟨d,g,e,_⟩:=c;exact .inl ⟨_,e⟩
 ·exact .inl ⟨_,c⟩
 ·obtain⟨a,b,e,_⟩:=c;exact .inr ⟨_,_,_,e⟩
def Ak (x:AV)(i:Nat):Option AV:=
 match x with
 | .tup vs=>vs[i]?
 | _=>none
abbrev Am1:=@Array.getElem?_toList
theorem yF {x r:AV}{i:Nat}{v:Value}(b:VR G x v)(h:Ak x i=some r):∃u,(Instr.extract v i).run P w=.ok u w/\VR G r u:=by
 unfold Ak at h;split at h
 ·simp only[VR]at b;obtain⟨c,rfl,hs⟩:=b;obtain⟨u,a,hr⟩:=hs.get h;exact⟨u,by simp only[Instr.extract];rw[Am1]at a;simp[a],hr⟩
 ·cases h
def Ayj:AV->Option UInt8
 | .lit (.int .u8 n)=>some (UInt8.ofNat n.toNat)
 | _=>none
def Xp:List AV->Option (List Int)
 | []=>some []
 | .lit (.int .u8 n)::r=>(Xp r).map (n::·)
 | _=>none
def fK (ns:List Int):ByteArray:=ns.foldl (λr n=>r.push (UInt8.ofNat n.toNat)) ByteArray.empty
theorem Alb {cs:List AV}{vs:List Value}{ns:List Int}(h:VRs G cs vs)(a:Xp cs=some ns):vs=ns.map (Value.int .u8):=by
 induction cs generalizing vs ns with
 | nil=>simp only[VRs]at h;simp only[Xp]at a;injection a with a;subst a;subst h;rfl
 | cons c cs ih=>
  simp only[VRs]at h;obtain⟨v,r,rfl,d,e⟩:=h;unfold Xp at a;split at a
  ·rename_i b;cases b
  ·rename_i n j b;injection b with f g;subst f;subst g;obtain⟨m,i,rfl⟩:=Option.map_eq_some_iff.1 a;simp only[VR]at d;subst d;rw[ih e i];rfl
  ·cases a
def Ac (H:AH)(sz:Nat)(x:AV):Option (List AV×Nat):=
 match x with
 | .imm cs len esz=>if esz=sz/\cs.length=len*sz then some (cs,len)else none
 | .sl o off len esz _=>match H[o]? with
  | some (some (.cells cs))=>if esz=sz/\off+len*sz<=cs.length then some ((cs.drop off).take (len*sz),len)else none
  | _=>none
 | .lit (.slice none 0 0)=>some ([],0)
 | .emp=>some ([],0)
 | _=>none
abbrev Au4:=@Nat.le_of_eq
theorem I1 {m:Nat×Nat×Nat}{off esz:Nat}{d:Room}{a:Addr}{c:Nat}(h:SlAt m off esz d a c)(e:c≠0):a=⟨m.1,m.2.1+off,none⟩/\off+c*esz<=m.2.2:=by
 unfold SlAt at h;split at h
 ·obtain⟨rfl,b | b⟩:=h
  ·omega
  ·exact b
 ·rcases h with⟨_,b | b⟩
  ·omega
  ·exact⟨b.1,Au4 b.2⟩
theorem jZ {H:AH}(hr:HR G H){o off len esz:Nat}{e:Room}{cs:List AV}(l:H[o]?=some (some (.cells cs))){a:Addr}{c:Nat}(j:SlAt (G.μ o) off esz e a c)(n:len<=c)(m:off+len*esz<=cs.length):
  ∃vs,VRs G ((cs.drop off).take (len*esz)) vs/\∀(i:Nat) (v:Value),vs[i]?=some v->G.w.cell? (a.add i)=some v/\v.oneCell'=true:=by
 obtain⟨vs,f,g⟩:=hr.cells l;refine⟨(vs.drop off).take (len*esz),(f.drop _).take _,λi v b=>?_⟩;have d:i<len*esz:=by
  rw[Ak2]at b;split at b
  ·assumption
  ·cases b
 have k:c≠0:=by
  rintro rfl;have:len=0:=by omega
  subst this;simp at d
 obtain⟨h,_⟩:=I1 j k;rw[Ak2,if_pos d,Ak3]at b;have:=g _ _ b;rw[h,Addr.add_lit];rw[Addr.add_lit]at this;rw[Ao6];exact this
theorem N2 {H:AH}(hr:HR G H){sz:Nat}{x:AV}{v:Value}{cs:List AV}{n:Nat}(f:VR G x v)(h:Ac H sz x=some (cs,n)):
  cs.length=n*sz/\∃a c vs,v=.slice a n c/\VRs G cs vs/\(a=none->vs=[]/\n=0/\c=0)/\∀j,a=some j->∀(i:Nat) (u:Value),vs[i]?=some u->G.w.cell? (j.add i)=some u/\u.oneCell'=true:=by
 unfold Ac at h;split at h
 ·rename_i p len q;split at h
  ·rename_i k;injection h with h;injection h with d e;subst d;subst e;simp only[VR]at f;obtain⟨j,c,vs,rfl,l,t,hs⟩:=f;refine⟨k.2,some j,c,vs,rfl,hs,by simp,λm b i u g=>?_⟩;injection b with b;subst b;rcases t with rfl | ⟨_,s⟩
   ·simp at g
   ·exact s _ _ g
  ·cases h
 ·rename_i o B len q z;split at h
  ·rename_i p y;split at h
   ·rename_i k;obtain⟨rfl,k⟩:=k;injection h with h;injection h with d e;subst d;subst e;simp only[VR]at f;obtain⟨A,a,c,rfl,l,r⟩:=f;obtain⟨vs,d,e⟩:=jZ hr y r l k;refine⟨by rw[Aj4,Aj9];omega,some a,c,vs,rfl,d,by simp,λm b i u g=>?_⟩;injection b with b;subst b;exact e _ _ g
   ·cases h
  ·cases h
 ·injection h with h;injection h with d e;subst d;subst e;simp only[VR]at f;subst f;exact⟨by simp,none,0,[],rfl,.nil,λ_=>⟨rfl,rfl,rfl⟩,λ_ b=>by cases b⟩
 ·injection h with h;injection h with d e;subst d;subst e;simp only[VR]at f;obtain⟨a,rfl⟩:=f;exact⟨by simp,some a,0,[],rfl,.nil,(λb=>by cases b),λj _ i u g=>by simp at g⟩
 ·cases h
def HW (P:Program)(H:AH)(a b:TypeId)(x:AV):Option AV:=
 match P.underlying b with
 | some (.int k)=>match P.underlying a,x with
  | some _,.lit (.int _ n)=>some (.lit (.int k (k.wrap n)))
  | _,_=>none
 | some .string=>match P.underlying a,x with
  | some _,.lit (.string s)=>some (.lit (.string s))
  | some (.slice e),x=>match P.underlying e,Ac H 1 x with
   | some (.int .u8),some (cs,_)=>(Xp cs).map λc=>.lit (.string (fK c))
   | _,_=>none
  | _,_=>none
 | _=>none
abbrev Ao5:=@Nat.mul_one
theorem yC {H:AH}(hr:HR G H){l g:TypeId}{x r:AV}{v:Value}(b:VR G x v)(h:HW P H l g x=some r):∃u,(convert l g v).run P G.w=.ok u G.w/\VR G r u:=by
 unfold HW at h;split at h
 ·rename_i k i;split at h
  ·rename_i d J n hs;injection h with h;subst h;simp only[VR]at b;subst b;refine⟨.int k (k.wrap n),?_,by simp only[VR]⟩;simp[convert,run_underlying i,run_underlying hs,Conv.intToInt]
  ·cases h
 ·rename_i i;split at h
  ·rename_i d s hs;injection h with h;subst h;simp only[VR]at b;subst b;refine⟨.string s,?_,by simp only[VR]⟩;simp[convert,run_underlying i,run_underlying hs]
  ·rename_i y e hs _;split at h
   ·rename_i cs n z t;obtain⟨f,E,rfl⟩:=Option.map_eq_some_iff.1 h;obtain⟨B,a,c,K,rfl,m,D,F⟩:=N2 hr b t;have I:=Alb m E;subst I;have o:(convert l g (.slice a n c)).run P G.w=(Conv.bytesToString (.slice a n c)).run P G.w:=run_convert_bytes_string G.w l g e a n c hs z i;refine⟨.string (fK f),?_,by simp only[VR]⟩;rw[o];cases a with
    | none=>
     obtain⟨p,_,_⟩:=D rfl;have:f=[]:=by simpa using p
     subst this;rfl
    | some ad=>
     have C:(f.map (Value.int .u8)).length=n:=by rw[<- m.length,B,Ao5]
     have q:=run_loadCells_list (P:=P) G.w ad (f.map (Value.int .u8)) (λj v A=>(F ad rfl j v A).1);rw[C]at q;exact run_bytesToString G.w ad n c f q
   ·cases h
  ·cases h
 ·cases h
end
end
section
section
variable {P : Program} {G : Cfg}
def oneA:AV->Bool
 | .agg _ | .tup _ | .junk | .lit (.agg _) | .lit (.tuple _)=>false
 | _=>true
theorem Afj {a:AV}{v:Value}(h:VR G a v)(b:oneA a=true):v.oneCell'=true/\v.cells= #[v]:=by
 unfold oneA at b;split at b<;>first
  | (simp at b;done)
  | skip
 cases a<;>simp only[VR]at h<;>try (simp_all;done)
 ·subst h;rename_i c d
  revert c d
  generalize v=v0;cases v0<;>intro c d<;>simp_all[Value.oneCell',Value.cells]
 ·obtain⟨_,rfl⟩:=h;exact⟨rfl,rfl⟩
 ·obtain⟨_,_,rfl,_⟩:=h;exact⟨rfl,rfl⟩
 ·obtain⟨_,_,_,rfl,_⟩:=h;exact⟨rfl,rfl⟩
 ·obtain⟨_,_,_,rfl,_⟩:=h;exact⟨rfl,rfl⟩
 ·obtain⟨_,rfl⟩:=h;exact⟨rfl,rfl⟩
 ·obtain⟨_,_,rfl,_⟩:=h;exact⟨rfl,rfl⟩
 ·obtain⟨_,rfl⟩:=h;exact⟨rfl,rfl⟩
def Cy:AV->Option (List AV)
 | .agg cs=>if cs.all oneA then some cs else none
 | a=>if oneA a then some [a]else none
abbrev Ar0:=@List.getElem_mem
theorem YG {a:AV}{v:Value}{xs:List AV}(h:VR G a v)(b:Cy a=some xs):VRs G xs v.cells.toList/\∀u∈v.cells.toList,u.oneCell'=true:=by
 unfold Cy at b;split at b
 ·rename_i cs;split at b
  ·rename_i l;injection b with b;subst b;simp only[VR]at h;obtain⟨f,rfl,hs⟩:=h;refine⟨hs,λu n=>?_⟩;obtain⟨i,c,rfl⟩:=List.mem_iff_getElem.1 n;have d:i<cs.length:=by rw[hs.length];exact c
   obtain⟨v,o,p⟩:=hs.get (Dq d);have m:(Value.agg f).cells.toList[i]=v:=by have e:(Value.agg f).cells.toList[i]?=some v:=o;rw[Dq c]at e;exact Option.some.inj e
   rw[m];exact(Afj p (Am2.1 l _ (Ar0 d))).1
  ·cases b
 ·split at b
  ·rename_i g;injection b with b;subst b;obtain⟨j,k⟩:=Afj h g;rw[k];exact⟨.cons h .nil,by simpa using j⟩
  ·cases b
def Bb (cs:List AV)(off:Nat):List AV->List AV
 | [x]=>cs.set off x
 | xs=>cs.take off++xs++cs.drop (off+xs.length)
abbrev Aa6:=And.intro @List.length_cons.{0} @List.length_nil.{0}
theorem Fp (cs:List AV)(off:Nat)(xs:List AV)(h:off+xs.length<=cs.length):Bb cs off xs=cs.take off++xs++cs.drop (off+xs.length):=by
 unfold Bb;split
 ·rename_i x;simp only[Aa6]at h;rw[List.set_eq_take_append_cons_drop,if_pos (by omega)];simp
 ·rfl
abbrev Ab3:=And.intro @List.length_append.{0} @List.length_take.{0}
abbrev Ac5:=And.intro @Ab3 @List.length_drop.{0}
theorem aD (cs:List AV)(off:Nat)(xs:List AV)(h:off+xs.length<=cs.length):(Bb cs off xs).length=cs.length:=by
 rw[Fp _ _ _ h];simp only[Ac5];omega
abbrev Af2:=And.intro @Array.length_toList.{0} @List.size_toArray.{0}
abbrev Ao8:=@Nat.add_zero
abbrev At0:=@List.getElem?_toArray
abbrev An3:=@Array.length_toList
abbrev Ak7:=@List.append_assoc
abbrev Aj2:=@List.mem_of_getElem?
theorem HR.store {H:AH}(hr:HR G H){o off:Nat}{cs xs:List AV}(g:H[o]?=some (some (.cells cs)))(y:off+xs.length<=cs.length){vs:List Value}(z:VRs G xs vs)(p:∀u∈vs,u.oneCell'=true):
  ∃G':Cfg,(storeCells ⟨(G.μ o).1,(G.μ o).2.1+off,none⟩ vs).run P G.w=.ok () G'.w/\Evo G G'/\G'.n=G.n/\G'.μ=G.μ/\HR G' (H.set o (some (.cells (Bb cs off xs)))):=by
 obtain⟨c,e,b,r,I,A,j,t⟩:=hr.obj _ _ g;have F:=z.length;have h:=run_storeCells_at P (G.μ o).1 ((G.μ o).2.1+off) e vs 0 c G.w r (by omega) p;simp only[Ao8]at h;generalize s:(c.toList.take ((G.μ o).2.1+off)++vs++c.toList.drop ((G.μ o).2.1+off+vs.length)).toArray=c' at h;have J:c'.size=c.size:=by rw[<- s];simp only[Af2,Ac5];omega
 have d:Evo G {G with w:=G.w.setRow (G.μ o).1 c'}:=
  ⟨rfl,rfl,rfl,by simp,λk x q=>⟨setRow_other _ _ _ _ (λC=>q (by rw[C];exact hr.live _ _ g)),q⟩,Aj7 _,λ_ _=>rfl,rfl⟩
 refine⟨{G with w:=G.w.setRow (G.μ o).1 c'},h,d,rfl,rfl,?_⟩;refine hr.update d rfl rfl g _ (λk x=>setRow_other _ _ _ _ x) (by simp) ?_;have L:=j.length;refine⟨c',e,b.take off++vs++b.drop (off+vs.length),setRow_heap _ _ _ _ _ _ r,by rw[J];exact I,by rw[aD _ _ _ y];exact A,?_,?_⟩
 ·rw[Fp _ _ _ y,F];exact(((j.evo d).take off).append (z.evo d)).append ((j.evo d).drop _)
 ·intro i v a;rw[<- s];simp only[At0];have B:((b.take off++vs++b.drop (off+vs.length))).length=b.length:=by simp only[Ac5];omega
  have K:i<b.length:=by rw[<- B];exact(BG.1 a).1
  have l:(b.take off).length=off:=by rw[Aj4];omega
  have m:(c.toList.take ((G.μ o).2.1+off)).length=(G.μ o).2.1+off:=by rw[Aj4,An3];omega
  rw[Ak7]at a|-;rcases Aj5 i off with f | D
  ·rw[Aj6 (by rw[l];exact f),Ak2,if_pos f]at a;rw[Aj6 (by rw[m];omega),Ak2,if_pos (by omega)];simpa using t i v a
  ·rw[Aj8 (by rw[l];exact D),l]at a;rw[Aj8 (by rw[m];omega),m,show(G.μ o).2.1+i - ((G.μ o).2.1+off)=i - off by omega];rcases Aj5 (i - off) vs.length with f | E
   ·rw[Aj6 f]at a|-;exact⟨a,p _ (Aj2 a)⟩
   ·rw[Aj8 E,Ak3]at a|-;rw[show off+vs.length+(i - off - vs.length)=i by omega]at a;rw[show(G.μ o).2.1+off+vs.length+(i - off - vs.length)=(G.μ o).2.1+i by omega];simpa using t i v a
def Cq (cs:List AV)(off:Nat)(xs:List AV):List AV:=cs.take off++xs++cs.drop (off+xs.length)
theorem HR.put {H:AH}(hr:HR G H){o off:Nat}{cs xs:List AV}(f:H[o]?=some (some (.cells cs)))(K:off<=cs.length)(I:off+xs.length<=(G.μ o).2.2){vs:List Value}(y:VRs G xs vs)(p:∀u∈vs,u.oneCell'=true):
  ∃G':Cfg,(storeCells ⟨(G.μ o).1,(G.μ o).2.1+off,none⟩ vs).run P G.w=.ok () G'.w/\Evo G G'/\G'.n=G.n/\G'.μ=G.μ/\HR G' (H.set o (some (.cells (Cq cs off xs)))):=by
 obtain⟨c,e,m,r,D,F,h,t⟩:=hr.obj _ _ f;have C:=y.length;have g:=run_storeCells_at P (G.μ o).1 ((G.μ o).2.1+off) e vs 0 c G.w r (by omega) p;simp only[Ao8]at g;generalize s:(c.toList.take ((G.μ o).2.1+off)++vs++c.toList.drop ((G.μ o).2.1+off+vs.length)).toArray=c' at g;have E:c'.size=c.size:=by rw[<- s];simp only[Af2,Ac5];omega
 have b:Evo G {G with w:=G.w.setRow (G.μ o).1 c'}:=
  ⟨rfl,rfl,rfl,by simp,λk x q=>⟨setRow_other _ _ _ _ (λz=>q (by rw[z];exact hr.live _ _ f)),q⟩,Aj7 _,λ_ _=>rfl,rfl⟩
 refine⟨{G with w:=G.w.setRow (G.μ o).1 c'},g,b,rfl,rfl,?_⟩;refine hr.update b rfl rfl f _ (λk x=>setRow_other _ _ _ _ x) (by simp) ?_;have J:=h.length;refine⟨c',e,m.take off++vs++m.drop (off+vs.length),setRow_heap _ _ _ _ _ _ r,by rw[E];exact D,by unfold Cq;simp only[Ac5];omega,?_,?_⟩
 ·unfold Cq;rw[C];exact(((h.evo b).take off).append (y.evo b)).append ((h.evo b).drop _)
 ·intro i v a;rw[<- s];simp only[At0];have j:(m.take off).length=off:=by rw[Aj4];omega
  have l:(c.toList.take ((G.μ o).2.1+off)).length=(G.μ o).2.1+off:=by rw[Aj4,An3];omega
  rw[Ak7]at a|-;rcases Aj5 i off with d | A
  ·rw[Aj6 (by rw[j];exact d),Ak2,if_pos d]at a;rw[Aj6 (by rw[l];omega),Ak2,if_pos (by omega)];simpa using t i v a
  ·rw[Aj8 (by rw[j];exact A),j]at a;rw[Aj8 (by rw[l];omega),l,show(G.μ o).2.1+i - ((G.μ o).2.1+off)=i - off by omega];rcases Aj5 (i - off) vs.length with d | B
   ·rw[Aj6 d]at a|-;exact⟨a,p _ (Aj2 a)⟩
   ·rw[Aj8 B,Ak3]at a|-;rw[show off+vs.length+(i - off - vs.length)=i by omega]at a;rw[show(G.μ o).2.1+off+vs.length+(i - off - vs.length)=(G.μ o).2.1+i by omega];simpa using t i v a
def iJ (P:Program)(H:AH)(t:TypeId)(a x:AV):Option AH:=
 match Dc P t,Cy x,a with
 | some n,some xs,.ptr o off=>match H[o]? with
  | some (some (.cells cs))=>if xs.length=n/\off+n<=cs.length then some (H.set o (some (.cells (Bb cs off xs))))else none
  | _=>none
 | _,_,_=>none
theorem Alc {H H':AH}(hr:HR G H){t:TypeId}{a x:AV}{f c:Value}(d:VR G a f)(m:VR G x c)(h:iJ P H t a x=some H'):
  ∃G':Cfg,(Instr.storeAt t f c).run P G.w=.ok () G'.w/\Evo G G'/\HR G' H':=by
 unfold iJ at h;split at h
 ·rename_i n s o r k p;split at h
  ·rename_i cs l;split at h
   ·rename_i b;injection h with h;subst h;obtain⟨e,g⟩:=YG m p;simp only[VR]at d;obtain⟨_,rfl⟩:=d;obtain⟨G',q,i,_,_,j⟩:=hr.store (P:=P) l (by rw[b.1];exact b.2) e g;refine⟨G',?_,i,j⟩;have hs:c.cells.size=n:=by rw[<- An3,<- e.length,b.1]
    simp[Instr.storeAt,Instr.sureAddr,storeVar,Cv k,hs,q]
   ·cases h
  ·cases h
 ·cases h
theorem HR.fresh {H:AH}(hr:HR G H)(c:Array Value)(e:TypeId){as:List AV}{vs:List Value}(h:VRs G as vs)(b:vs=c.toList)(d:∀u∈vs,u.oneCell'=true):
  HR (G.new (.cells c e) c.size) (H++[some (.cells as)])/\Evo G (G.new (.cells c e) c.size)/\(G.new (.cells c e) c.size).μ H.length=(G.w.heap.size,0,c.size)/\H.length<(G.new (.cells c e) c.size).n:=by
 refine⟨hr.newCells c e (Aj7 _) (by rw[h.length,b];simp) h (λi v a=>⟨by rw[b]at a;simpa using a,d _ (Aj2 a)⟩),Evo.new _ _ _,by simp[Cfg.new,hr.n],by simp[Cfg.new,hr.n]⟩
def aE (P:Program)(t:TypeId):Option Value:=(P.info? t).bind (·.zero)
theorem DW {t:TypeId}{z:Value}(h:aE P t=some z)(w:World):(zeroValue t).run P w=.ok z w:=by
 unfold aE at h;obtain⟨i,a,b⟩:=Option.bind_eq_some_iff.1 h;simp[zeroValue,typeInfo,a,b]
def AE (H:AH)(x:AV):Option (AV×AH):=(Cy x).map λcs=>(.ptr H.length 0,H++[some (.cells cs)])
theorem Afk {H H':AH}(hr:HR G H){e:TypeId}{x r:AV}{v:Value}(m:VR G x v)(h:AE H x=some (r,H')):
  ∃(G':Cfg) (u:Addr),(newVar e v).run P G.w=.ok u G'.w/\Evo G G'/\VR G' r (.pointer (some u))/\HR G' H':=by
 obtain⟨cs,i,j⟩:=Option.map_eq_some_iff.1 h;injection j with f g;subst f;subst g;obtain⟨l,k⟩:=YG m i;obtain⟨a,b,c,d⟩:=hr.fresh v.cells e l rfl k;refine⟨_,⟨G.w.heap.size,0,none⟩,?_,b,?_,a⟩
 ·simp[newVar,newRow,Cfg.new]
 ·simp only[VR];rw[c];exact⟨d,rfl⟩
def PU (a:Nat->Option (Nat×Nat))(cells:List AV):List (Nat×AV)->Option (List AV)
 | []=>some cells
 | (i,v)::rest=>match a i,Cy v with
  | some (off,size),some xs=>if xs.length=size/\off+size<=cells.length then PU a (Bb cells off xs) rest else none
  | _,_=>none
abbrev Al4:=@List.length_cons
theorem kZ (xs:List Value):∀(k off:Nat) (cells:Array Value),off+k+xs.length<=cells.size->
  (((xs.zipIdx k).foldl (fun cs (c,j)=>cs.setIfInBounds (off+j) c) cells)).toList=cells.toList.take (off+k)++xs++cells.toList.drop (off+k+xs.length):=by
 induction xs with
 | nil=>intro k off cells _;simp
 | cons x xs ih=>
  intro k off cells h;simp only[Al4]at h;rw[List.zipIdx_cons,List.foldl_cons,ih (k+1) off _ (by simp;omega),Ar9];have a:(cells.toList.set (off+k) x).take (off+(k+1))=cells.toList.take (off+k)++[x]:=by rw[show off+(k+1)=off+k+1 by omega,List.take_succ_eq_append_getElem (by simp;omega)];simp[List.take_set_of_le]
  have b:(cells.toList.set (off+k) x).drop (off+(k+1)+xs.length)=cells.toList.drop (off+k+(x::xs).length):=by rw[List.drop_set_of_lt (by omega)];congr 1;simp only[Al4];omega
  rw[a,b,Ak7,Ak7,Ak7];rfl
abbrev Ag5:=And.intro @List.cons.injEq.{0} @List.map_cons.{0,0}
theorem Xg {m:Nat->Option (Nat×Nat)}:∀(k:List (Nat×AV)) (vparts:List (Nat×Value)) (cells:List AV) (a:Array Value) (d:List AV),
  (k.map Prod.fst=vparts.map Prod.fst)->VRs G (k.map Prod.snd) (vparts.map Prod.snd)->VRs G cells a.toList->PU m cells k=some d->
  ∃g,Instr.fill m a vparts=some g/\VRs G d g.toList
 | [],vparts,cells,a,d,b,hp,hc,h=>by
  cases vparts with
  | cons _ _=>simp at b
  | nil=>simp only[PU]at h;injection h with h;subst h;exact⟨a,rfl,hc⟩
 | (i,x)::rest,vparts,cells,a,d,b,hp,hc,h=>by
  cases vparts with
  | nil=>simp at b
  | cons q vrest=>
   obtain⟨j,v⟩:=q;simp only[Ag5]at b hp;obtain⟨rfl,b⟩:=b;simp only[VRs]at hp;obtain⟨_,_,r,y,hr⟩:=hp;injection r with s t;subst s;subst t;simp only[PU]at h;split at h
   ·rename_i f A n u z;split at h
    ·rename_i p;obtain⟨e,_⟩:=YG y z;have C:v.cells.size=A:=by rw[<- An3,<- e.length,p.1]
     have B:cells.length=a.size:=by rw[<- An3];exact hc.length
     have D:n.length=v.cells.size:=by rw[<- An3];exact e.length
     have l:=kZ v.cells.toList 0 f a (by rw[An3];omega);simp only[Ao8]at l;obtain⟨g,w,o⟩:=Xg rest vrest (Bb cells f n) ((v.cells.toList.zipIdx).foldl (fun cs (c,j)=>cs.setIfInBounds (f+j) c) a) d b hr (by rw[l,Fp _ _ _ (by omega),e.length];exact((hc.take f).append e).append (hc.drop _)) h;refine⟨g,?_,o⟩;rw[<- w]
     conv=>lhs;unfold Instr.fill
     simp only[u];rw[if_neg (by simp;omega)];congr 1;rw[<- Array.foldl_toList,Array.toList_zipIdx]
    ·cases h
   ·cases h
def nN (P:Program)(t:TypeId)(a:List (Nat×AV)):Option AV:=
 match aE P t,P.underlying t with
 | some z,some (.struct fields)=>
  if fields.toList.all λf=>(Dc P f.type).isSome then
   (PU (λi=>(fields[i]?).bind λf=>(Dc P f.type).map λn=>(f.offset,n)) (z.cells.toList.map .lit) a).map .agg
  else none
 | some z,some (.array _ e)=>match Dc P e with
  | some sz=>(PU (λi=>some (i*sz,sz)) (z.cells.toList.map .lit) a).map .agg
  | none=>none
 | _,_=>none
abbrev Am0:=@Bool.and_eq_true
theorem mQ (a:Array Field)(h:a.toList.all (λf=>(Dc P f.type).isSome)=true)(w:World):
  (a.mapM λf=>(do pure (f.offset,<- sizeOf f.type):Sem (Nat×Nat))).run P w=.ok (a.map λf=>(f.offset,(Dc P f.type).getD 0)) w:=by
 obtain⟨l⟩:=a;simp only[List.mapM_toArray];have:∀(l:List Field),l.all (λf=>(Dc P f.type).isSome)=true->(l.mapM λf=>(Prod.mk f.offset<$>sizeOf f.type:Sem (Nat×Nat))).run P w=.ok (l.map λf=>(f.offset,(Dc P f.type).getD 0)) w:=by
  intro l b
  induction l with
  | nil=>simp
  | cons f l ih=>
   simp only[Aw5,Am0]at b;obtain⟨n,c⟩:=Option.isSome_iff_exists.1 b.1;simp[Cv c,ih b.2,c]
 simp[this l h]
abbrev Aw2:=@Array.getElem?_map
theorem Ald {t:TypeId}{b:List (Nat×AV)}{vparts:Array (Nat×Value)}{r:AV}(p:b.map Prod.fst=vparts.toList.map Prod.fst)(q:VRs G (b.map Prod.snd) (vparts.toList.map Prod.snd))(h:nN P t b=some r)(w:World):
  ∃u,(Instr.build t vparts).run P w=.ok u w/\VR G r u:=by
 unfold nN at h;split at h
 ·rename_i z a k j;split at h
  ·rename_i m;obtain⟨rs,g,rfl⟩:=Option.map_eq_some_iff.1 h;obtain⟨l,c,d⟩:=Xg b vparts.toList _ z.cells rs p q (VRs.lits _) g;have e:(fun (i:Nat)=>(a[i]?).bind λf=>(Dc P f.type).map λn=>(f.offset,n))=fun (i:Nat)=>(a.map λf=>(f.offset,(Dc P f.type).getD 0))[i]?:=by
    funext i;rw[Aw2];cases o:a[i]? with
    | none=>rfl
    | some f=>
     have s:f∈a.toList:=by rw[<- Am1]at o;exact Aj2 o
     obtain⟨n,v⟩:=Option.isSome_iff_exists.1 (Am2.1 m f s);simp[v]
   rw[e]at c;refine⟨.agg l,?_,by simp only[VR];exact⟨_,rfl,d⟩⟩;simp only[Instr.build,Sem.run_bind,DW k,run_underlying j,Result.andThen_ok,mQ a m];rw[c];rfl
  ·cases h
 ·rename_i z n e k j;split at h
  ·rename_i sz x;obtain⟨rs,g,rfl⟩:=Option.map_eq_some_iff.1 h;obtain⟨l,c,d⟩:=Xg b vparts.toList _ z.cells rs p q (VRs.lits _) g;refine⟨.agg l,?_,by simp only[VR];exact⟨_,rfl,d⟩⟩;simp only[Instr.build,Sem.run_bind,DW k,run_underlying j,Result.andThen_ok,Cv x];simp[c]
  ·cases h
 ·cases h
end
end
section
section
variable {P : Program} {G : Cfg}
theorem getElem?_madeCells (z:Array Value)(n i:Nat):(madeCells z n)[i]?=if i<n then some (z[i % z.size]!)else none:=by
 unfold madeCells;rw[Aw2,Array.getElem?_range];split<;>simp
def Bx (z:List AV)(n:Nat):List AV:=(List.replicate n z).flatten
abbrev Ak1:=@List.length_append
abbrev An4:=@Nat.succ_mul
theorem EJ (z:List AV)(n:Nat):(Bx z n).length=n*z.length:=by
 induction n with
 | zero=>simp[Bx]
 | succ n ih=>
  unfold Bx at ih|-;rw[List.replicate_succ,List.flatten_cons,Ak1,ih,An4];omega
theorem Ale (z:List AV)(n i:Nat)(h:i<n*z.length):(Bx z n)[i]?=z[i % z.length]?:=by
 induction n generalizing i with
 | zero=>simp at h
 | succ n ih=>
  unfold Bx at ih|-;rw[List.replicate_succ,List.flatten_cons];rcases Aj5 i z.length with a | a
  ·rw[Aj6 a,Nat.mod_eq_of_lt a]
  ·rw[Aj8 a,ih (i - z.length) (by rw[An4]at h;omega)];congr 1;rw[Nat.mod_eq_sub_mod a]
abbrev At4:=@Nat.mod_lt
abbrev Al2:=@List.getElem?_map
abbrev Ak8:=@List.length_map
abbrev Aq1:=@Array.getElem?_eq_getElem
abbrev As6:=@Option.map_some
theorem Vu {z:Array Value}(n:Nat)(f:z.size≠0):VRs G (Bx (z.toList.map .lit) n) (madeCells z (n*z.size)).toList:=by
 refine VRs.of_get (by rw[EJ];simp[size_madeCells]) λi a v b c=>?_;have d:i<n*z.size:=by have:=(BG.1 b).1;rw[EJ]at this;simpa using this
 rw[Ale _ _ _ (by simpa using d)]at b;rw[Am1,getElem?_madeCells,if_pos d]at c;injection c with c;have e:i % z.size<z.size:=At4 _ (by omega);rw[Al2]at b;simp only[Ak8,An3,Am1,Aq1 e,As6]at b;injection b with b;subst b;rw[<- c];simp only[VR];simp[e]
theorem Yb {z:Array Value}(n:Nat)(b:∀u∈z.toList,u.oneCell'=true)(e:z.size≠0):∀u∈(madeCells z n).toList,u.oneCell'=true:=by
 intro u d;obtain⟨i,c,rfl⟩:=List.mem_iff_getElem.1 d;have:(madeCells z n)[i]?=some ((madeCells z n).toList[i]):=by rw[<- Am1];exact Dq c
 rw[getElem?_madeCells]at this;split at this
 ·injection this with this;rw[<- this];have a:i % z.size<z.size:=At4 _ (by omega);refine b _ ?_;simp only[a,getElem!_pos];exact Array.getElem_mem_toList a
 ·cases this
def Xh (z:Value):Bool:=z.cells.toList.all Value.oneCell'
def Ack (P:Program)(H:AH)(t:TypeId)(l c:AV):Option (AV×AH):=
 match P.underlying t,l,c with
 | some (.slice e),.lit (.int _ n),.lit (.int _ m)=>
  match P.info? e with
  | some i=>match i.zero with
   | some z=>if 0<=n/\n<=m/\(i.bytes:Int)*m<=281474976710656/\m<=9223372036854775807/\z.cells.size=i.size/\i.size≠0/\Xh z=true then
     some (.sl H.length 0 n.toNat i.size (.ex m.toNat),H++[some (.cells (Bx (z.cells.toList.map .lit) m.toNat))])else none
   | none=>none
  | none=>none
 | _,_,_=>none
theorem Alf {H H':AH}(hr:HR G H){t:TypeId}{l c r:AV}{s p:Value}(hl:VR G l s)(k:VR G c p)(h:Ack P H t l c=some (r,H')):
  ∃(G':Cfg) (u:Value),(Instr.makeSlice t s p).run P G.w=.ok u G'.w/\Evo G G'/\VR G' r u/\HR G' H':=by
 unfold Ack at h;split at h
 ·rename_i e M n L m g;split at h
  ·rename_i i I;split at h
   ·rename_i z K;split at h
    ·rename_i E;obtain⟨v,x,y,A,j,B,C⟩:=E;injection h with h;injection h with D F;subst D;subst F;simp only[VR]at hl k;subst hl;subst k;have q:=run_make (P:=P) G.w t e i z g I K M L n m v x y A;have J:m.toNat*i.size=m.toNat*z.cells.size:=by rw[j]
     have o:z.cells.size≠0:=by rw[j];exact B
     obtain⟨a,b,d,f⟩:=hr.fresh (madeCells z.cells (m.toNat*i.size)) e (by rw[J];exact Vu m.toNat o) rfl (Yb _ (λu g=>Am2.1 C u g) o);refine⟨_,_,q,b,?_,a⟩;simp only[VR];refine⟨f,_,_,rfl,by omega,?_⟩;rw[d];refine⟨rfl,.inr ⟨rfl,?_⟩⟩;simp[size_madeCells]
    ·cases h
   ·cases h
  ·cases h
 ·cases h
def Gu (P:Program)(H:AH)(t:TypeId)(len:Nat)(a:List (Nat×AV)):Option (AV×AH):=
 match P.underlying t with
 | some (.slice e)=>match P.info? e with
  | some i=>match i.zero with
   | some z=>if len*i.size<=16777216/\z.cells.size=i.size/\i.size≠0/\Xh z=true then
     (PU (λj=>some (j*i.size,i.size)) (Bx (z.cells.toList.map .lit) len) a).map λcs=>(.sl H.length 0 len i.size (.ex len),H++[some (.cells cs)])
    else none
   | none=>none
  | none=>none
 | _=>none
theorem cT {c:Nat->Option (Nat×Nat)}:∀{b:List (Nat×AV)} {cells a:List AV},PU c cells b=some a->a.length=cells.length
 | [],cells,a,h=>by simp only[PU]at h;injection h with h;rw[h]
 | (i,v)::rest,cells,a,h=>by
  simp only[PU]at h;split at h
  ·split at h
   ·rename_i d;rw[cT h,aD _ _ _ (by omega)]
   ·cases h
  ·cases h
abbrev Am3:=@List.mem_append
abbrev An8:=@List.mem_of_mem_take
abbrev Aq0:=@List.mem_of_mem_drop
theorem pC {g:Nat->Option (Nat×Nat)}:∀(vparts:List (Nat×Value)) (c b:Array Value),(∀p∈vparts,∀u∈p.2.cells.toList,u.oneCell'=true)->(∀u∈c.toList,u.oneCell'=true)->
  Instr.fill g c vparts=some b->∀u∈b.toList,u.oneCell'=true
 | [],c,b,_,hc,h=>by simp only[Instr.fill]at h;injection h with h;subst h;exact hc
 | (i,v)::rest,c,b,hp,hc,h=>by
  unfold Instr.fill at h;split at h
  ·cases h
  ·rename_i f k j;split at h
   ·cases h
   ·rename_i d;simp at d;refine pC rest _ b (λp e=>hp p (by simp[e])) ?_ h;intro u a;rw[<- Array.foldl_toList,Array.toList_zipIdx,kZ _ 0 f c (by rw[An3];omega)]at a;simp only[Am3]at a;rcases a with(a | a) | a
    ·exact hc u (An8 a)
    ·exact hp (i,v) (by simp) u a
    ·exact hc u (Aq0 a)
abbrev Aq7:=@List.map_cons
abbrev Al3:=@List.mem_cons
theorem OF {l:Nat->Option (Nat×Nat)}:∀{e:List (Nat×AV)} {vparts:List (Nat×Value)} {cells b:List AV},VRs G (e.map Prod.snd) (vparts.map Prod.snd)->PU l cells e=some b->
  ∀p∈vparts,∀u∈p.2.cells.toList,u.oneCell'=true
 | [],vparts,cells,b,a,h=>by
  cases vparts with
  | nil=>simp
  | cons q r=>simp[VRs]at a
 | (i,x)::rest,vparts,cells,b,a,h=>by
  cases vparts with
  | nil=>simp
  | cons q vrest=>
   simp only[Aq7,VRs]at a;obtain⟨_,_,c,j,hr⟩:=a;simp only[List.cons.injEq]at c;obtain⟨f,g⟩:=c;subst f;subst g;simp only[PU]at h;split at h
   ·rename_i n o s m k;split at h
    ·intro p a u d;rcases Al3.1 a with rfl | a
     ·exact(YG j k).2 u d
     ·exact OF hr h p a u d
    ·cases h
   ·cases h
theorem nO {H H':AH}(hr:HR G H){t:TypeId}{len:Nat}{j:List (Nat×AV)}{vparts:Array (Nat×Value)}{r:AV}(E:j.map Prod.fst=vparts.toList.map Prod.fst)
  (q:VRs G (j.map Prod.snd) (vparts.toList.map Prod.snd)) (h:Gu P H t len j=some (r,H')):
  ∃(G':Cfg) (u:Value),(Instr.buildSlice t len vparts).run P G.w=.ok u G'.w/\Evo G G'/\VR G' r u/\HR G' H':=by
 unfold Gu at h;split at h
 ·rename_i e c;split at h
  ·rename_i i m;split at h
   ·rename_i z M;split at h
    ·rename_i B;obtain⟨O,k,x,y⟩:=B;obtain⟨cs,l,D⟩:=Option.map_eq_some_iff.1 h;injection D with A C;subst A;subst C;have v:z.cells.size≠0:=by rw[k];exact x
     have s:=Vu (G:=G) (z:=z.cells) len v;rw[k]at s;obtain⟨o,g,p⟩:=Xg j vparts.toList _ (madeCells z.cells (len*i.size)) cs E q s l;have J:=pC vparts.toList _ o (OF q l) (Yb _ (λu c=>Am2.1 y u c) v) g;obtain⟨a,b,d,f⟩:=hr.fresh o e p rfl J;have L:o.size=len*i.size:=by rw[<- An3,<- p.length,cT l,EJ];simp[k]
     refine⟨_,.slice (some ⟨G.w.heap.size,0,none⟩) len len,?_,b,?_,a⟩
     ·have N:(P.info? e).bind (·.zero)=some z:=by rw[m];exact M
      have I:¬(16777216<len*i.size):=by omega
      by_cases n:len*i.size=0
      ·have F:madeCells z.cells 0= #[]:=by simp[madeCells]
       rw[n,F]at g;have K:Array.range 0= #[]:=rfl;simp[K,Instr.buildSlice,run_underlying c,sizeOf,typeInfo,m,n,g,newRow,Cfg.new]
      ·have:=g;unfold madeCells at this;simp[Instr.buildSlice,run_underlying c,sizeOf,typeInfo,m,I,n,DW N,this,newRow,Cfg.new]
     ·simp only[VR];refine⟨f,_,_,rfl,Aj7 _,?_⟩;rw[d];refine⟨rfl,.inr ⟨rfl,?_⟩⟩;simp[L]
    ·cases h
   ·cases h
  ·cases h
 ·cases h
def B1 (H:AH)(sz:Nat)(x:AV):Option (List AV×Nat):=
 match x with
 | .lit (.string s)=>if sz=1 then some (s.data.toList.map λb=>.lit (.int .u8 b.toNat),s.size)else none
 | x=>Ac H sz x
abbrev Am5:=@List.mem_map
theorem yI {H:AH}(hr:HR G H){l:TypeId}{sz:Nat}{x:AV}{v:Value}{cs:List AV}{n:Nat}(k:VR G x v)(f:(∃p,P.underlying l=some (.slice p))\/P.underlying l=some .string)(h:B1 H sz x=some (cs,n)):
  cs.length=n*sz/\∃vs,VRs G cs vs/\Src P sz l v n vs G.w:=by
 unfold B1 at h;split at h
 ·rename_i s;split at h
  ·rename_i hs;subst hs;injection h with h;injection h with q r;subst q;subst r;simp only[VR]at k;subst k;refine⟨by simp,byteCells s,?_,?_⟩
   ·unfold byteCells;have:=VRs.lits (G:=G) (s.data.toList.map λb=>Value.int .u8 b.toNat);simpa[List.map_map,Function.comp_def]using this
   ·exact⟨f,λ_=>rfl,firstCells_string s G.w,firstCells_string s _,by rw[byteCells_length,Ao5],λu e=>by unfold byteCells at e;obtain⟨_,_,rfl⟩:=Am5.1 e;rfl⟩
  ·cases h
 ·obtain⟨m,a,c,vs,rfl,o,t,g⟩:=N2 hr k h;refine⟨m,vs,o,?_⟩;have i:vs.length=n*sz:=by rw[<- o.length,m]
  cases a with
  | none=>
   obtain⟨rfl,rfl,rfl⟩:=t rfl;exact⟨f,λ_=>rfl,run_firstCells_none G.w sz 0 0 0,run_firstCells_none _ sz 0 0 0,by simp,λ_ h=>by cases h⟩
  | some ad=>
   exact⟨f,λ_=>rfl,run_firstCells_some G.w sz n ad n c vs i λj v d=>(g ad rfl j v d).1,
    run_firstCells_some G.w.drew sz n ad n c vs i λj v d=>by simpa using(g ad rfl j v d).1,i,λu e=>by obtain⟨j,d,rfl⟩:=List.mem_iff_getElem.1 e;exact(g ad rfl j _ (Dq d)).2⟩
def Sy (H:AH)(size bytes:Nat)(s:AV)(a:List AV)(n:Nat):Option (AV×AH):=
 match s with
 | .lit (.slice none 0 0)=>
  if n=0 then some (.lit (.slice none 0 0),H)else
  if n*bytes<=140737488355328 then some (.sl H.length 0 n size (.ge n),H++[some (.cells a)])else none
 | .sl o off len esz cap=>match H[o]? with
  | some (some (.cells cs))=>
   if esz≠size\/¬off+len*esz<=cs.length then none else
   match cap with
   | .ex k=>
    if len+n<=k then
     some (.sl o off (len+n) esz (.ex k),H.set o (some (.cells (Cq cs (off+len*esz) a))))
    else if(len+n)*bytes<=140737488355328 then some (.sl H.length 0 (len+n) size (.ge (len+n)),H++[some (.cells ((cs.drop off).take (len*esz)++a))])else none
   | .ge k=>
    if n=0 then some (.sl o off len esz (.ge k),H)else
    if len+n<=k then
     some (.sl o off (len+n) esz (.ge k),H.set o (some (.cells (Cq cs (off+len*esz) a))))
    else if(len+n)*bytes<=140737488355328 then some (.sl H.length 0 (len+n) size (.ge (len+n)),H.set o none++[some (.cells ((cs.drop off).take (len*esz)++a))])else none
  | _=>none
 | .imm cs len esz=>if n=0 then some (.imm cs len esz,H)else none
 | .emp=>if n=0 then some (.emp,H)else
  if n*bytes<=140737488355328 then some (.sl H.length 0 n size (.ge n),H++[some (.cells a)])else none
 | _=>none
def Vw (P:Program)(H:AH)(a b:TypeId)(s x:AV):Option (AV×AH):=
 match P.underlying a,P.underlying b with
 | some (.slice e),some (.slice _) | some (.slice e),some .string=>
  match P.info? e with
  | none=>none
  | some i=>match i.zero with
   | none=>none
   | some z=>match B1 H i.size x with
    | none=>none
    | some (news,n)=>
     if i.size=0\/i.bytes=0\/z.cells.size≠i.size then none else
     Sy H i.size i.bytes s news n
 | _,_=>none
theorem Nn {t d ty e:TypeId}{i:TypeInfo}(j:P.underlying t=some (.slice e))(hi:P.info? e=some i){b off sLen sCap:Nat}{x:Value}{n:Nat}{c:List Value}{w f:World}(hs:Src P i.size d x n c w)
  (g:sLen+n<=sCap) (h:(storeCells ⟨b,off+sLen*i.size,none⟩ c).run P w=.ok () f):
  (Builtin.append_ #[t,d] ty #[.slice (some ⟨b,off,none⟩) sLen sCap,x]).run P w=.ok (.slice (some ⟨b,off,none⟩) (sLen+n) sCap) f:=by
 rcases hs.kind with⟨k,a⟩ | a<;>simp[Builtin.append_,run_underlying j,run_underlying a,sizeOf,typeInfo,hi,hs.len,g,hs.cells,Addr.add_lit,h]
theorem GQ {t c ty e:TypeId}{i:TypeInfo}(f:P.underlying t=some (.slice e))(hi:P.info? e=some i){a:Option Addr}{sLen sCap:Nat}{x:Value}{w:World}(hs:Src P i.size c x 0 [] w)
  (d:sLen<=sCap):(Builtin.append_ #[t,c] ty #[.slice a sLen sCap,x]).run P w=.ok (.slice a sLen sCap) w:=by
 rcases hs.kind with⟨g,b⟩ | b<;>cases a<;>simp[Builtin.append_,run_underlying f,run_underlying b,sizeOf,typeInfo,hi,hs.len,d,hs.cells,storeCells]
abbrev Af6:=And.intro @Array.size_append.{0} @List.size_toArray.{0}
abbrev At5:=@Array.getElem?_append_left
theorem PA {H:AH}(hr:HR G H){t o ty e:TypeId}{i:TypeInfo}{z:Value}(O:P.underlying t=some (.slice e))(hi:P.info? e=some i)(Q:i.zero=some z)(U:i.size≠0)(T:i.bytes≠0)(R:z.cells.size=i.size)
  {a:Option Addr} {sLen sCap:Nat} {x:Value} {n:Nat} {olds h:List Value} {as bs:List AV} (A:VRs G as olds) (s:VRs G bs h)
  (B:∀d,a=some d->∀(j:Nat) (u:Value),olds[j]?=some u->G.w.cell? (d.add j)=some u/\u.oneCell'=true) (y:a=none->olds=[]) (m:olds.length=sLen*i.size) (hs:Src P i.size o x n h G.w)
  (r:sCap<sLen+n) (D:(sLen+n)*i.bytes<=140737488355328):
  ∃(G':Cfg) (u:Value),(Builtin.append_ #[t,o] ty #[.slice a sLen sCap,x]).run P G.w=.ok u G'.w/\Evo G G'/\VR G' (.sl H.length 0 (sLen+n) i.size (.ge (sLen+n))) u/\HR G' (H++[some (.cells (as++bs))]):=by
 have L:((sLen+n:Nat):Int)<=9223372036854775807:=by have:(sLen+n)*1<=(sLen+n)*i.bytes:=Nat.mul_le_mul_left _ (by omega);omega
 have F:(Builtin.firstCells i.size sLen (.slice a sLen sCap)).run P G.w.drew=.ok olds.toArray G.w.drew:=by
  cases a with
  | none=>rw[y rfl];exact run_firstCells_none G.w.drew i.size sLen sLen sCap
  | some d=>exact run_firstCells_some G.w.drew i.size sLen d sLen sCap olds m λj v f=>by simpa using(B d rfl j v f).1
 have q:=run_append_grow_src (P:=P) G.w t o ty e i z O hi Q a sLen sCap olds F x n h hs r L (growslice_fits r D);generalize E:grownCap G.w (sLen+n) sCap e=cap at q;have l:sLen+n<=cap:=by rw[<- E];exact grownCap_ge _ _ _ _
 generalize p:(olds++h).toArray++Builtin.zeroCells z.cells (cap - (sLen+n))=c at q;have N:c.size=cap*i.size:=by rw[<- p];simp only[Af6,Ak1,size_zeroCells,R,m,hs.newsLen,<- Ap2];congr 1;omega
 have J:=A.length;have K:=s.length;let b:Cfg:={G with w:=G.w.drew};have M:HR b H:=hr.drew;have C:HR (b.new (.cells c e) (cap*i.size)) (H++[some (.cells (as++bs))]):=by
  refine M.newCells c e (by rw[N];exact Aj7 _) ?_ ((A.append s).evo (Evo.drew G)) ?_
  ·rw[Ak1,J,K,m,hs.newsLen,<- Ap2];exact Ak5 _ l
  ·intro j v f;refine⟨?_,?_⟩
   ·rw[<- p,At5 (by simpa using(BG.1 f).1)];simpa using f
   ·rcases Am3.1 (Aj2 f)with g | g
    ·cases a with
     | none=>rw[y rfl]at g;cases g
     | some d=>
      obtain⟨k,I,rfl⟩:=List.mem_iff_getElem.1 g;exact(B d rfl k _ (Dq I)).2
    ·exact hs.one _ g
 have S:(b.new (.cells c e) (cap*i.size)).μ H.length=(G.w.heap.size,0,cap*i.size):=by simp[Cfg.new,b,hr.n]
 refine⟨b.new (.cells c e) (cap*i.size),_,q,(Evo.drew G).trans (Evo.new b _ _),?_,C⟩;simp only[VR];refine⟨by simp[Cfg.new,b,hr.n],_,_,rfl,l,?_⟩;rw[S];exact⟨l,.inr ⟨rfl,by simp⟩⟩
abbrev An7:=@List.eq_nil_of_length_eq_zero
theorem Src.zero {sz:Nat}{a:TypeId}{v:Value}{vs:List Value}{w:World}(h:Src P sz a v 0 vs w):vs=[]:=An7 (by rw[h.newsLen];simp)
abbrev Am4:=@List.ext_getElem?
theorem Afl {α:Type}{l:List α}{i:Nat}{x:α}(h:l[i]?=some x):l.set i x=l:=by
 apply Am4;intro j;rw[Ao7];split
 ·rename_i a;subst a;rw[h];rw[if_pos (BG.1 h).1]
 ·rfl
abbrev Am9:=@List.append_nil
abbrev Ap0:=@List.length_nil
abbrev Ao0:=@List.take_append_drop
theorem xW {H H':AH}(hr:HR G H){ts tx ty e:TypeId}{s x r:AV}{vs vx:Value}(hs:VR G s vs)(hx:VR G x vx)(C:P.underlying ts=some (.slice e))(hk:(∃e',P.underlying tx=some (.slice e'))\/P.underlying tx=some .string)
  {i:TypeInfo} (hi:P.info? e=some i) {z:Value} (hz:i.zero=some z) {N:List AV} {n:Nat} (a5:B1 H i.size x=some (N,n)) (ah:i.size≠0) (aa:i.bytes≠0) (ai:z.cells.size=i.size)
  (h:Sy H i.size i.bytes s N n=some (r,H')):
  ∃(G':Cfg) (u:Value),(Builtin.append_ #[ts,tx] ty #[vs,vx]).run P G.w=.ok u G'.w/\Evo G G'/\VR G' r u/\HR G' H':=by
 obtain⟨a1,Y,J,g⟩:=yI hr hx hk a5;unfold Sy at h;split at h
 ·
  simp only[VR]at hs;subst hs;split at h
  ·rename_i B;subst B;injection h with h;injection h with l m;subst l;subst m;have:=Src.zero g;subst this;exact⟨G,_,GQ C hi g (Aj7 _),Evo.refl G,by simp only[VR],hr⟩
  ·rename_i B;split at h
   ·rename_i M;injection h with h;injection h with l m;subst l;subst m;have:=PA hr (ty:=ty) C hi hz ah aa ai (a:=none) (sLen:=0) (sCap:=0) (olds:=[]) (as:=[]) .nil J (by simp) (by simp) (by simp) g (by omega) (by simpa using M);simpa using this
   ·cases h
 ·
  rename_i o d len ak bn;split at h
  ·rename_i cs D;split at h
   ·cases h
   rename_i S;have S:ak=i.size/\d+len*ak<=cs.length:=by rw[not_or]at S;exact⟨Al7 S.1,Al7 S.2⟩
   obtain⟨rfl,a9⟩:=S;simp only[VR]at hs;obtain⟨af,a,c,rfl,V,A⟩:=hs;obtain⟨bl,al,az⟩:=jZ hr D A V a9;have a2:bl.length=len*i.size:=by rw[<- al.length,Aj4,Aj9];omega
   split at h
   ·
    rename_i k;have a8:c=k:=by simp only[SlAt]at A;exact A.1
    subst a8;split at h
    ·rename_i E;injection h with h;injection h with l m;subst l;subst m;by_cases O:c=0
     ·have be:n=0:=by omega
      have bc:len=0:=by omega
      subst be;subst bc;subst O;have:=Src.zero g;subst this;have bf:N=[]:=An7 (by rw[a1];simp);subst bf;refine⟨G,_,GQ C hi g (Aj7 _),Evo.refl G,by simp only[VR];exact⟨af,a,0,rfl,Aj7 _,A⟩,?_⟩;unfold Cq;simp only[Am9,Ap0,Ao8,Ao0];rw[Afl D];exact hr
     ·obtain⟨rfl,aw⟩:=I1 A O;have a0:(len+n)*i.size<=c*i.size:=Ak5 _ E;have ap:(len+n)*i.size=len*i.size+n*i.size:=Ap2 _ _ _;obtain⟨G',q,F,B,W,hH⟩:=hr.put (P:=P) D (off:=d+len*i.size) (xs:=N) (by omega) (by omega) J g.one;refine⟨G',_,Nn C hi g E (by rw[Ao6];exact q),F,?_,hH⟩;simp only[VR];rw[B,W];refine⟨af,_,_,rfl,E,rfl,.inr ⟨rfl,?_⟩⟩;exact aw
    ·rename_i E;split at h
     ·rename_i M;injection h with h;injection h with l m;subst l;subst m;exact PA hr (ty:=ty) C hi hz ah aa ai al J (λZ p j u f=>by injection p with p;subst p;exact az j u f) (by simp) a2 g (by omega) M
     ·cases h
   ·
    rename_i kk;split at h
    ·rename_i B;subst B;injection h with h;injection h with l m;subst l;subst m;have:=Src.zero g;subst this;exact⟨G,_,GQ C hi g V,Evo.refl G,by simp only[VR];exact⟨af,a,c,rfl,V,A⟩,hr⟩
    ·rename_i B;split at h
     ·rename_i E;injection h with h;injection h with l m;subst l;subst m;have bq:kk<=c:=by simp only[SlAt]at A;exact A.1
      have O:c≠0:=by omega
      have am:len+n<=c:=by omega
      have a6:=A;obtain⟨rfl,aw⟩:=I1 A O;have a0:(len+n)*i.size<=c*i.size:=Ak5 _ am;have ap:(len+n)*i.size=len*i.size+n*i.size:=Ap2 _ _ _;obtain⟨G',q,F,bd,W,hH⟩:=hr.put (P:=P) D (off:=d+len*i.size) (xs:=N) (by omega) (by omega) J g.one;refine⟨G',_,Nn C hi g am (by rw[Ao6];exact q),F,?_,hH⟩;simp only[VR];rw[bd,W];exact⟨af,_,_,rfl,am,a6⟩
     rename_i bt;split at h
     ·rename_i M;injection h with h;injection h with l m;subst l;subst m;have bi:=hr.kill o;have ax:(H.set o none).length=H.length:=by simp
      by_cases E:len+n<=c
      ·
       have O:c≠0:=by omega
       obtain⟨rfl,_⟩:=I1 A O;have bo:d+c*i.size=(G.μ o).2.2:=by
        simp only[SlAt]at A;rcases A with⟨_,h | h⟩
        ·omega
        ·exact h.2
       obtain⟨R,e',us,hb,br,bp,a3,a7⟩:=hr.obj _ _ D;have bs:Y.length=n*i.size:=by rw[<- J.length,a1]
       have a0:(len+n)*i.size<=c*i.size:=Ak5 _ E;have ap:(len+n)*i.size=len*i.size+n*i.size:=Ap2 _ _ _;have ao:=run_storeCells_at P (G.μ o).1 ((G.μ o).2.1+d+len*i.size) e' Y 0 R G.w hb (by omega) g.one;simp only[Ao8]at ao;generalize ar:(R.toList.take ((G.μ o).2.1+d+len*i.size)++Y++R.toList.drop ((G.μ o).2.1+d+len*i.size+Y.length)).toArray=c' at ao;have bj:c'.size=R.size:=by rw[<- ar];simp only[Af2,Ac5];omega
       let t:Cfg:={w:=G.w.setRow (G.μ o).1 c',n:=G.n+1,μ:=λj=>if j=G.n then((G.μ o).1,(G.μ o).2.1+d,(G.μ o).2.2 - d)else G.μ j,L:=G.L,K:=G.K};have F:Evo G t:=
        ⟨rfl,rfl,rfl,by simp[t],λk hk hL=>⟨setRow_other _ _ _ _ (λp=>hL (by rw[p];exact hr.live _ _ D)),hL⟩,by simp[t],(λj f=>by simp only[t];rw[if_neg (by omega)]),rfl⟩
       refine⟨t,_,Nn C hi g E ao,F,?_,?_⟩
       ·simp only[VR];have W:t.μ H.length=((G.μ o).1,(G.μ o).2.1+d,(G.μ o).2.2 - d):=by simp[t,hr.n]
        rw[W];refine⟨by simp[t,hr.n],_,_,rfl,E,E,.inr ⟨rfl,?_⟩⟩;simp only;omega
       ·have ab:∀(j:Nat) (y:AObj),(H.set o none++[some (.cells ((cs.drop d).take (len*i.size)++N))])[j]?=some (some y)->(j=H.length/\y=.cells ((cs.drop d).take (len*i.size)++N))\/(j<H.length/\j≠o/\H[j]?=some (some y)):=by
         intro j y f;rcases Aj5 j H.length with h | h
         ·rw[Aj6 (by simpa using h)]at f;by_cases I:j=o
          ·subst I;rw[HU h]at f;simp at f
          ·rw[Cc (Al6 I)]at f;exact .inr ⟨h,I,f⟩
         ·rw[Aj8 (by simpa using h)]at f;have:j - (H.set o none).length=0:=by
           rcases An9 (j - (H.set o none).length)with h0 | h0
           ·exact h0
           ·rw[Ao3 (by simp at h0|-;omega)]at f;cases f
          rw[this]at f;rw[ax]at this;exact .inl ⟨by omega,by simpa using f.symm⟩
        have aj:t.μ H.length=((G.μ o).1,(G.μ o).2.1+d,(G.μ o).2.2 - d):=by simp[t,hr.n]
        have X:∀j,j<H.length->t.μ j=G.μ j:=λj f=>F.μ j (by rw[hr.n];exact f);refine⟨by simp[t,hr.n],?_,?_,?_,?_,λb hb=>hr.dis b hb⟩
        ·intro j y f;rcases ab j y f with⟨rfl,rfl⟩ | ⟨U,I,T⟩
         ·have bg:VRs G ((cs.drop d).take (len*i.size)) ((us.drop d).take (len*i.size)):=(a3.drop _).take _;refine⟨c',e',(us.drop d).take (len*i.size)++Y,?_,?_,?_,(bg.append J).evo F,?_⟩<;>rw[aj]
          ·exact setRow_heap _ _ _ _ _ _ hb
          ·simp only;rw[bj];omega
          ·simp only[Ac5];omega
          ·intro q v Q;have bu:=a3.length;have t1:((us.drop d).take (len*i.size)).length=len*i.size:=by rw[Aj4,Aj9];omega
           have t2:(R.toList.take ((G.μ o).2.1+d+len*i.size)).length=(G.μ o).2.1+d+len*i.size:=by rw[Aj4,An3];omega
           rw[<- ar];simp only[At0];rw[Ak7];rcases Aj5 q (len*i.size)with ay | ba
           ·rw[Aj6 (by rw[t1];exact ay),Ak2,if_pos ay,Ak3]at Q;rw[Aj6 (by rw[t2];omega),Ak2,if_pos (by omega)];have:=a7 _ _ Q;rw[show(G.μ o).2.1+(d+q)=(G.μ o).2.1+d+q by omega]at this;simpa using this
           ·rw[Aj8 (by rw[t1];exact ba),t1]at Q;have bh:=(BG.1 Q).1;rw[Aj8 (by rw[t2];omega),t2,show(G.μ o).2.1+d+q - ((G.μ o).2.1+d+len*i.size)=q - len*i.size by omega,Aj6 bh];exact⟨Q,g.one _ (Aj2 Q)⟩
         ·exact OR.evo F (hr.lt_n T) (setRow_other _ _ _ _ λp=>I (hr.inj _ _ _ _ T D p)) (hr.obj _ _ T)
        ·intro j j' y y' f T p;rcases ab j y f with⟨rfl,rfl⟩ | ⟨U,I,ae⟩<;>rcases ab j' y' T with⟨rfl,rfl⟩ | ⟨av,bb,au⟩
         ·rfl
         ·rw[aj,X _ av]at p;exact absurd (hr.inj _ _ _ _ D au p).symm bb
         ·rw[aj,X _ U]at p;exact absurd (hr.inj _ _ _ _ ae D p) I
         ·rw[X _ U,X _ av]at p;exact hr.inj _ _ _ _ ae au p
        ·intro j y f;rcases ab j y f with⟨rfl,rfl⟩ | ⟨U,I,ae⟩
         ·rw[aj];exact hr.live _ _ D
         ·rw[X _ U];exact hr.live _ _ ae
        ·intro b aq;simp only[t]at aq|-;rw[size_setRow];exact hr.lt b aq
      ·have:=PA bi (ty:=ty) C hi hz ah aa ai al J (a:=some a) (sCap:=c) (λZ p j u f=>by injection p with p;subst p;exact az j u f) (by simp) a2 g (by omega) M;rw[ax]at this;exact this
     ·cases h
  ·cases h
 ·
  rename_i cs len ak;split at h
  ·rename_i B;subst B;injection h with h;injection h with l m;subst l;subst m;have:=Src.zero g;subst this;have ag:=hs;simp only[VR]at ag;obtain⟨Z,c,vs,rfl,V,hh,bv⟩:=ag;exact⟨G,_,GQ C hi g V,Evo.refl G,hs,hr⟩
  ·cases h
 ·
  have ag:=hs;simp only[VR]at hs;obtain⟨Z,rfl⟩:=hs;split at h
  ·rename_i B;subst B;injection h with h;injection h with l m;subst l;subst m;have:=Src.zero g;subst this;exact⟨G,_,GQ C hi g (Aj7 _),Evo.refl G,ag,hr⟩
  ·rename_i B;split at h
   ·rename_i M;injection h with h;injection h with l m;subst l;subst m;have:=PA hr (ty:=ty) C hi hz ah aa ai (a:=some Z) (sLen:=0) (sCap:=0) (olds:=[]) (as:=[]) .nil J (by simp) (by simp) (by simp) g (by omega) (by simpa using M);simpa using this
   ·cases h
 ·cases h
theorem Alg {H H':AH}(hr:HR G H){k l ty:TypeId}{s x r:AV}{vs m:Value}(hs:VR G s vs)(j:VR G x m)(h:Vw P H k l s x=some (r,H')):
  ∃(G':Cfg) (u:Value),(Builtin.append_ #[k,l] ty #[vs,m]).run P G.w=.ok u G'.w/\Evo G G'/\VR G' r u/\HR G' H':=by
 unfold Vw at h;split at h
 ·rename_i e o d f;split at h
  ·cases h
  rename_i i c;split at h
  ·cases h
  rename_i z g;split at h
  ·cases h
  rename_i p n b;split at h
  ·cases h
  rename_i a;rw[not_or,not_or]at a;exact xW hr hs j d (.inl ⟨o,f⟩) c g b a.1 a.2.1 (Al7 a.2.2) h
 ·rename_i e d f;split at h
  ·cases h
  rename_i i c;split at h
  ·cases h
  rename_i z g;split at h
  ·cases h
  rename_i p n b;split at h
  ·cases h
  rename_i a;rw[not_or,not_or]at a;exact xW hr hs j d (.inr f) c g b a.1 a.2.1 (Al7 a.2.2) h
 ·cases h
end
end
section
section
variable {P : Program} {G : Cfg}
theorem Afm {H:AH}(hr:HR G H){sz:Nat}{x:AV}{v:Value}{cs:List AV}{n:Nat}(b:VR G x v)(h:B1 H sz x=some (cs,n))(w:World):(Builtin.lenOf v).run P w=.ok n w:=by
 unfold B1 at h;split at h
 ·split at h
  ·injection h with h;injection h with e d;subst d;simp only[VR]at b;subst b;rfl
  ·cases h
 ·obtain⟨f,a,c,g,rfl,_⟩:=N2 hr b h;rfl
theorem ZQ {H:AH}(hr:HR G H){sz:Nat}{x:AV}{v:Value}{cs:List AV}{n k:Nat}(f:VR G x v)(h:B1 H sz x=some (cs,n))(p:k<=n):
  ∃vs,VRs G (cs.take (k*sz)) vs/\vs.length=k*sz/\(Builtin.firstCells sz k v).run P G.w=.ok vs.toArray G.w/\∀u∈vs,u.oneCell'=true:=by
 unfold B1 at h;split at h
 ·rename_i s;split at h
  ·rename_i hs;subst hs;injection h with h;injection h with m o;subst m;subst o;simp only[VR]at f;subst f;refine⟨(byteCells s).take k,?_,?_,?_,?_⟩
   ·rw[Ao5];refine VRs.take ?_ k;unfold byteCells;have:=VRs.lits (G:=G) (s.data.toList.map λb=>Value.int .u8 b.toNat);simpa[List.map_map,Function.comp_def]using this
   ·rw[Aj4,byteCells_length,Ao5];omega
   ·simp[Builtin.firstCells,byteCells];apply Array.ext';simp
   ·intro u e;have:=An8 e;unfold byteCells at this;obtain⟨_,_,rfl⟩:=Am5.1 this;rfl
  ·cases h
 ·obtain⟨q,a,c,vs,rfl,l,g,i⟩:=N2 hr f h;have t:vs.length=n*sz:=by rw[<- l.length,q]
  have r:k*sz<=n*sz:=Ak5 _ p;refine⟨vs.take (k*sz),l.take _,by rw[Aj4];omega,?_,?_⟩
  ·cases a with
   | none=>
    obtain⟨rfl,_,_⟩:=g rfl;simp[Builtin.firstCells]
   | some ad=>
    exact run_firstCells_some G.w sz k ad n c _ (by rw[Aj4];omega) λj v d=>by
     rw[Ak2]at d;split at d
     ·exact(i ad rfl j v d).1
     ·cases d
  ·intro u e;cases a with
   | none=>obtain⟨rfl,_,_⟩:=g rfl;simp at e
   | some ad=>
    obtain⟨j,d,rfl⟩:=List.mem_iff_getElem.1 (An8 e);exact(i ad rfl j _ (Dq d)).2
def Abn (sz:Nat)(H:AH)(a b:AV):Option (AV×AH):=match B1 H sz b,a with
 | some (news,m),.sl o off len esz _=>match H[o]? with
  | some (some (.cells cs))=>
   if esz=sz/\off<=cs.length then
    some (.lit (.int .i64 (min m len:Nat)),H.set o (some (.cells (Cq cs off (news.take (min m len*sz))))))
   else none
  | _=>none
 | some (_,_),.lit (.slice none 0 0)=>some (.lit (.int .i64 0),H)
 | _,_=>none
def Acl (sz:Nat)(H:AH)(a b:AV):Option (AV×AH):=match b,a with
 | .sl o2 off2 m esz2 _,.sl o off len esz _=>match H[o2]?,H[o]? with
  | some (some (.cells cs2)),some (some (.cells cs))=>
   if esz2=sz/\esz=sz/\off<=cs.length/\off2+min m len*sz<=cs2.length then
    some (.lit (.int .i64 (min m len:Nat)),H.set o (some (.cells (Cq cs off ((cs2.drop off2).take (min m len*sz))))))
   else none
  | _,_=>none
 | _,_=>none
def YX (sz:Nat)(H:AH)(a b:AV):Option (AV×AH):=match Abn sz H a b with
 | some r=>some r
 | none=>Acl sz H a b
def yD (P:Program)(H:AH)(c:TypeId)(a b:AV):Option (AV×AH):=
 match P.underlying c with
 | some (.slice e)=>match Dc P e with
  | some sz=>YX sz H a b
  | none=>none
 | _=>none
theorem tD {H:AH}(hr:HR G H){o off len esz k:Nat}{j:Room}{cs xs:List AV}{h:Value}(d:VR G (.sl o off len esz j) h)(e:H[o]?=some (some (.cells cs)))(r:off<=cs.length)
  {b:List Value} (g:VRs G xs b) (f:b.length=k*esz) (s:k<=len) (z:∀u∈b,u.oneCell'=true):
  ∃a c,h=.slice (some a) len c/\∃G'':Cfg,(storeCells a b).run P G.w=.ok () G''.w/\Evo G G''/\HR G'' (H.set o (some (.cells (Cq cs off xs)))):=by
 simp only[VR]at d;obtain⟨F,a,c,rfl,v,n⟩:=d;have y:xs.length=k*esz:=by rw[g.length,f]
 have D:k*esz<=len*esz:=Ak5 _ s;refine⟨a,c,rfl,?_⟩;by_cases p:c=0
 ·have t:k=0:=by omega
  subst t;have A:b=[]:=An7 (by rw[f];simp);subst A;have x:xs=[]:=An7 (by rw[y];simp);rw[x];unfold Cq;simp only[Am9,Ap0,Ao8,Ao0];rw[Afl e];exact⟨G,rfl,Evo.refl G,hr⟩
 ·obtain⟨rfl,C⟩:=I1 n p;have B:len*esz<=c*esz:=Ak5 _ v;obtain⟨i,q,l,E,I,m⟩:=hr.put (P:=P) e (off:=off) (xs:=xs) r (by omega) g z;exact⟨i,q,l,m⟩
abbrev Av5:=@Nat.min_le_left
theorem Alh {H H':AH}(hr:HR G H){Q Z ty:TypeId}{M O r:AV}{R vs:Value}(t:VR G M R)(hs:VR G O vs)(h:yD P H Q M O=some (r,H')):
  ∃(G':Cfg) (u:Value),(Builtin.copy_ #[Q,Z] ty #[R,vs]).run P G.w=.ok u G'.w/\Evo G G'/\VR G' r u/\HR G' H':=by
 unfold yD at h;split at h
 ·rename_i e n;split at h
  ·rename_i sz J;unfold YX at h;split at h
   ·rename_i r0 b;injection h with h;subst h;unfold Abn at b;split at b
    ·rename_i X m o Y len A S g;split at b
     ·rename_i cs I;split at b
      ·rename_i D;obtain⟨rfl,E⟩:=D;injection b with b;injection b with d f;subst d;subst f;obtain⟨s,q,p,i,y⟩:=ZQ (P:=P) hr hs g (k:=min m len) (Av5 _ _);have l:=Afm (P:=P) hr hs g G.w;have x:Nat.min m len=min m len:=rfl;obtain⟨a,c,rfl,z,K,B,C⟩:=tD (P:=P) hr t I E q p (Nat.min_le_right _ _) y;refine⟨z,.int .i64 ((min m len:Nat):Int),?_,B,by simp only[VR],C⟩;simp[Builtin.copy_,run_underlying n,l,Cv J,x,i,K,goInt]
      ·cases b
     ·cases b
    ·rename_i X m g;injection b with b;injection b with d f;subst d;subst f;simp only[VR]at t;subst t;obtain⟨s,q,p,i,y⟩:=ZQ (P:=P) hr hs g (k:=0) (Nat.zero_le _);have l:=Afm (P:=P) hr hs g G.w;have x:Nat.min m 0=0:=Nat.min_zero m;refine⟨G,.int .i64 0,?_,Evo.refl G,by simp only[VR],hr⟩;simp[Builtin.copy_,run_underlying n,l,Cv J,i,goInt]
    ·cases b
   ·unfold Acl at h;split at h
    ·rename_i o2 af m ad aa o Y len A S hz;split at h
     ·rename_i ab cs V I;split at h
      ·rename_i D;obtain⟨rfl,rfl,E,W⟩:=D;injection h with h;injection h with d f;subst d;subst f;simp only[VR]at hs;obtain⟨ae,a2,L,rfl,U,T⟩:=hs;obtain⟨s,q,N⟩:=jZ hr V T (Al1 (Av5 m len) U) W;have p:s.length=min m len*A:=by rw[<- q.length,Aj4,Aj9];omega
       have y:∀u∈s,u.oneCell'=true:=by intro u n;obtain⟨j,F,rfl⟩:=List.mem_iff_getElem.1 n;exact(N j _ (Dq F)).2
       have i:=run_firstCells_some (P:=P) G.w A (min m len) a2 m L s p (λj v F=>(N j v F).1);have x:Nat.min m len=min m len:=rfl;obtain⟨a,c,rfl,z,K,B,C⟩:=tD (P:=P) hr t I E q p (Nat.min_le_right _ _) y;refine⟨z,.int .i64 ((min m len:Nat):Int),?_,B,by simp only[VR],C⟩;have l:(Builtin.lenOf (.slice (some a2) m L)).run P G.w=.ok m G.w:=rfl;simp[Builtin.copy_,run_underlying n,l,Cv J,x,i,K,goInt]
      ·cases h
     ·cases h
    ·cases h
  ·cases h
 ·cases h
def iD (P:Program)(t:TypeId)(x:AV):Option AV:=
 match P.underlying t,x with
 | some .string,.lit (.string s)=>some (.lit (.int .i64 s.size))
 | some (.slice _),.sl _ _ len _ _=>some (.lit (.int .i64 len))
 | some (.slice _),.imm _ len _=>some (.lit (.int .i64 len))
 | some (.slice _),.lit (.slice none n _)=>some (.lit (.int .i64 n))
 | some (.slice _),.emp=>some (.lit (.int .i64 0))
 | some (.array n _),_=>some (.lit (.int .i64 n))
 | some (.map _ _),.lit (.map none)=>some (.lit (.int .i64 0))
 | _,_=>none
theorem Ub {v:Value}{s:Sem Value}{w:World}(h:s.run P w=.ok v w):∃u,s.run P w=.ok u w/\VR G (.lit v) u:=⟨v,h,by simp only[VR]⟩
theorem Ali {t ty:TypeId}{x r:AV}{v:Value}(b:VR G x v)(h:iD P t x=some r)(w:World):∃u,(Builtin.len_ #[t] ty #[v]).run P w=.ok u w/\VR G r u:=by
 unfold iD at h;split at h<;>first
  | (injection h with h;subst h;simp only[VR]at b)
  | cases h
 ·subst b;exact Ub (by simp[Builtin.len_,underlying,goInt, *])
 ·obtain⟨_,a,c,rfl,_⟩:=b;exact Ub (by simp[Builtin.len_,underlying,goInt, *])
 ·obtain⟨a,c,f,rfl,_⟩:=b;exact Ub (by simp[Builtin.len_,underlying,goInt, *])
 ·subst b;exact Ub (by simp[Builtin.len_,underlying,goInt, *])
 ·obtain⟨a,rfl⟩:=b;exact Ub (by simp[Builtin.len_,underlying,goInt, *])
 ·rename_i n e d;exact⟨goInt n,by simp[Builtin.len_,underlying,d],by simp only[VR,goInt]⟩
 ·subst b;exact Ub (by simp[Builtin.len_,underlying,goInt, *])
def amm (f:Int->Int->Int):List AV->Option AV
 | .lit (.int k a)::r=>go k a r
 | _=>none
where
 go (k:IntKind) (a:Int):List AV->Option AV
 | []=>some (.lit (.int k a))
 | .lit (.int _ b)::r=>go k (f a b) r
 | _=>none
def gZ (a b:Int):Int:=if b<a then b else a
def jF (a b:Int):Int:=if a<b then b else a
theorem Alj {xs:List AV}{vs:Array Value}{r:AV}{m:Array TypeId}{ty:TypeId}(c:VRs G xs vs.toList)(h:amm gZ xs=some r)(w:World):∃u,(Builtin.min_ m ty vs).run P w=.ok u w/\VR G r u:=by
 obtain⟨vs⟩:=vs;have go:∀(xs:List AV) (vs:List Value) (k:IntKind) (a:Int),VRs G xs vs->amm.go gZ k a xs=some r->∃u,(vs.foldlM Builtin.min2 (.int k a)).run P w=.ok u w/\VR G r u:=by
  intro xs
  induction xs with
  | nil=>intro vs k a c h;simp only[VRs]at c;subst c;simp only[amm.go]at h;injection h with h;subst h;exact⟨_,rfl,by simp only[VR]⟩
  | cons x xs ih=>
   intro vs k a c h;simp only[VRs]at c;obtain⟨v,g,rfl,d,f⟩:=c;unfold amm.go at h;split at h
   ·rename_i e;cases e
   ·rename_i b n e;injection e with i j;subst i;subst j;simp only[VR]at d;subst d;obtain⟨u,l,hr⟩:=ih g k (gZ a b) f h;refine⟨u,?_,hr⟩;simp only[List.foldlM_cons,Sem.run_bind,Builtin.min2,Sem.run_pure,Result.andThen_ok];exact l
   ·cases h
 unfold amm at h;split at h
 ·rename_i k a g;simp only[VRs]at c;obtain⟨v,vr,e,d,f⟩:=c;subst e;simp only[VR]at d;subst d;exact go _ _ k a f h
 ·cases h
theorem Alk {xs:List AV}{vs:Array Value}{r:AV}{m:Array TypeId}{ty:TypeId}(c:VRs G xs vs.toList)(h:amm jF xs=some r)(w:World):∃u,(Builtin.max_ m ty vs).run P w=.ok u w/\VR G r u:=by
 obtain⟨vs⟩:=vs;have go:∀(xs:List AV) (vs:List Value) (k:IntKind) (a:Int),VRs G xs vs->amm.go jF k a xs=some r->∃u,(vs.foldlM Builtin.max2 (.int k a)).run P w=.ok u w/\VR G r u:=by
  intro xs
  induction xs with
  | nil=>intro vs k a c h;simp only[VRs]at c;subst c;simp only[amm.go]at h;injection h with h;subst h;exact⟨_,rfl,by simp only[VR]⟩
  | cons x xs ih=>
   intro vs k a c h;simp only[VRs]at c;obtain⟨v,g,rfl,d,f⟩:=c;unfold amm.go at h;split at h
   ·rename_i e;cases e
   ·rename_i b n e;injection e with i j;subst i;subst j;simp only[VR]at d;subst d;obtain⟨u,l,hr⟩:=ih g k (jF a b) f h;refine⟨u,?_,hr⟩;simp only[List.foldlM_cons,Sem.run_bind,Builtin.max2,Sem.run_pure,Result.andThen_ok];exact l
   ·cases h
 unfold amm at h;split at h
 ·rename_i k a g;simp only[VRs]at c;obtain⟨v,vr,e,d,f⟩:=c;subst e;simp only[VR]at d;subst d;exact go _ _ k a f h
 ·cases h
end
end
section
section
variable {P : Program} {G : Cfg}
def sD:TypeDesc->Value->Bool
 | .bool,.bool _=>true
 | .int k,.int k' _=>decide (k'=k)
 | .string,.string _=>true
 | _,_=>false
theorem wH {d:TypeDesc}{k:Value}(h:sD d k=true):MapKept.IsKey d k:=by
 unfold sD at h;split at h<;>simp_all[MapKept.IsKey]
def Ux (d:TypeDesc)(k:Value):List (Value×AV)->Nat->Option (Option (Nat×AV))
 | [],_=>some none
 | (k',a)::es,i=>match Instr.sameNow d k k' with
  | some true=>some (some (i,a))
  | some false=>Ux d k es (i+1)
  | none=>none
theorem All {d:TypeDesc}{k a:Value}(b:MapKept.IsKey d k)(h:Instr.sameNow d k a=some true):a=k:=by
 unfold Instr.sameNow at h;split at h<;>simp_all[MapKept.IsKey,MapKept.bytes_beq]
theorem Uy {d:TypeDesc}{k:Value}(m:MapKept.IsKey d k):∀{c:List (Value×AV)} {b:List MapEntry} {i:Nat} {r:Option (Nat×AV)},VRs G (c.map Prod.snd) (b.map (·.val))->b.map (·.key)=c.map Prod.fst->Ux d k c i=some r->
  match r with
  | none=>Instr.findNow d k b i=some none
  | some (j,a)=>∃e,i<=j/\b[j - i]?=some e/\Instr.findNow d k b i=some (some (j,e.val))/\VR G a e.val/\e.key=k
 | [],b,i,r,hv,hks,h=>by
  simp only[Ux]at h;injection h with h;subst h;cases b with
  | nil=>rfl
  | cons e l=>simp at hks
 | (k',a)::c,b,i,r,hv,hks,h=>by
  cases b with
  | nil=>simp at hks
  | cons e l=>
   simp only[Ag5]at hks;obtain⟨f,z⟩:=hks;simp only[Aq7,VRs]at hv;obtain⟨v,E,g,B,A⟩:=hv;simp only[List.cons.injEq]at g;obtain⟨x,y⟩:=g;subst x;subst y;simp only[Ux]at h;split at h
   ·rename_i hs;injection h with h;subst h;refine⟨e,Aj7 _,by simp,?_,B,by rw[f];exact All m hs⟩;unfold Instr.findNow;rw[f,hs]
   ·rename_i hs;have o:=Uy m A z h;have n:Instr.findNow d k (e::l) i=Instr.findNow d k l (i+1):=by
     conv=>lhs;unfold Instr.findNow
     rw[f,hs]
    cases r with
    | none=>rw[n];exact o
    | some q=>
     obtain⟨j,C⟩:=q;obtain⟨p,D,s,t,u,w⟩:=o;refine⟨p,by omega,?_,by rw[n];exact t,u,w⟩;rw[show j - i=(j - (i+1))+1 by omega];simpa using s
   ·cases h
theorem HR.setMap {H:AH}(hr:HR G H){o:Nat}{i b:List (Value×AV)}(d:H[o]?=some (some (.map i))){a:Array MapEntry}(j:VRs G (b.map Prod.snd) (a.toList.map (·.val)))
  (l:a.toList.map (·.key)=b.map Prod.fst) (m:a.toList.map (·.born)=List.range b.length):
  ∃G':Cfg,G'.w={G.w with heap:=G.w.heap.setIfInBounds (G.μ o).1 (.map a a.size)}/\Evo G G'/\HR G' (H.set o (some (.map b))):=by
 obtain⟨p,g,-,-,-⟩:=hr.obj _ _ d;have q:(G.μ o).1<G.w.heap.size:=(Array.getElem?_eq_some_iff.1 g).1;let G':Cfg:={G with w:={G.w with heap:=G.w.heap.setIfInBounds (G.μ o).1 (.map a a.size)}};have e:=MapKept.heap_set (o':=Obj.map a a.size) g;have c:Evo G G':=⟨rfl,rfl,rfl,by simp[G'],λk h f=>⟨e.2 k (λn=>f (by rw[n];exact hr.live _ _ d)),f⟩,Aj7 _,λ_ _=>rfl,rfl⟩;refine⟨G',rfl,c,hr.update c rfl rfl d _ (λk h=>e.2 k h) (by simp[G']) ?_⟩;exact⟨a,e.1,j.evo c,l,m⟩
def dR (H:AH):AV->Option (List (Value×AV))
 | .lit (.map none)=>some []
 | .mp o=>match H[o]? with
  | some (some (.map es))=>some es
  | _=>none
 | _=>none
def cU (P:Program)(H:AH)(t:TypeId)(x k:AV)(b:Bool):Option AV:=
 match P.underlying t,dR H x,k with
 | some (.map key elem),some es,.lit kv=>match P.underlying key with
  | some d=>if sD d kv then match Ux d kv es 0 with
    | some (some (_,a))=>some (if b then .tup [a,.lit (.bool true)]else a)
    | some none=>match aE P elem with
     | some z=>some (if b then .tup [.ofV z,.lit (.bool false)]else .ofV z)
     | none=>none
    | none=>none
   else none
  | none=>none
 | _,_,_=>none
theorem VRs.two {a b:AV}{u v:Value}(h:VR G a u)(k:VR G b v):VRs G [a,b] [u,v]:=.cons h (.cons k .nil)
theorem Alm {H:AH}(hr:HR G H){t:TypeId}{x k r:AV}{v s:Value}{g:Bool}(q:VR G x v)(J:VR G k s)(h:cU P H t x k g=some r):
  ∃u,(Instr.lookup t v s g).run P G.w=.ok u G.w/\VR G r u:=by
 unfold cU at h;split at h
 ·rename_i key R A U E c;split at h
  ·rename_i d i;split at h
   ·rename_i N;simp only[VR]at J;have n:=wH N;rw[<- J]at n h;have M:∃f:Array MapEntry,((v=.map none/\f= #[])\/∃b y,v=.map (some b)/\G.w.heap[b]?=some (.map f y))/\VRs G (A.map Prod.snd) (f.toList.map (·.val))/\f.toList.map (·.key)=A.map Prod.fst:=by
     unfold dR at c;split at c
     ·injection c with c;subst c;simp only[VR]at q;exact⟨#[],.inl ⟨q,rfl⟩,.nil,rfl⟩
     ·split at c
      ·rename_i o S O;injection c with c;subst c;simp only[VR]at q;obtain⟨f,m,B,C,T⟩:=hr.obj _ _ O;exact⟨f,.inr ⟨_,_,q.2,m⟩,B,C⟩
      ·cases c
     ·cases c
    obtain⟨f,K,B,C⟩:=M;have I:∀F,Ux d s A 0=some F->_:=λF Q=>Uy (r:=F) n B C Q;split at h
    ·rename_i j a D;injection h with h;subst h;obtain⟨e,-,-,l,p,-⟩:=I _ D;refine⟨if g then .tuple #[e.val,.bool true]else e.val,?_,?_⟩
     ·rcases K with⟨rfl,rfl⟩ | ⟨b,y,rfl,m⟩
      ·simp[Instr.findNow]at l
      ·simp[Instr.lookup,run_underlying E,MapKept.run_getObj_map m,MapKept.run_checkKey i n,MapKept.run_findKey i l]
     ·cases g
      ·simpa using p
      ·simp only[if_true,VR];exact⟨_,rfl,.two p (by simp only[VR])⟩
    ·rename_i D;have l:=I _ D;simp only at l;split at h
     ·rename_i z L;injection h with h;subst h;refine⟨if g then .tuple #[z,.bool false]else z,?_,?_⟩
      ·rcases K with⟨rfl,rfl⟩ | ⟨b,y,rfl,m⟩
       ·have p:Instr.findNow d s [] 0=some none:=rfl;simp[Instr.lookup,run_underlying E,MapKept.run_checkKey i n,MapKept.run_findKey i p,DW L]
       ·simp[Instr.lookup,run_underlying E,MapKept.run_getObj_map m,MapKept.run_checkKey i n,MapKept.run_findKey i l,DW L]
      ·cases g
       ·simpa using VR.ofV G z
       ·simp only[if_true,VR];exact⟨_,rfl,.two (VR.ofV G z) (by simp only[VR])⟩
     ·cases h
    ·cases h
   ·cases h
  ·cases h
 ·cases h
theorem Aln (n:Nat):List.range (n+1)=List.range n++[n]:=List.range_succ
abbrev Av3:=@Array.getElem?_modify
abbrev Au5:=@List.map_set
theorem X5 {b:Array MapEntry}{c:List (Value×AV)}{j:Nat}{e:MapEntry}{k v:Value}{a:AV}(n:VRs G (c.map Prod.snd) (b.toList.map (·.val)))(l:b.toList.map (·.key)=c.map Prod.fst)
  (m:b.toList.map (·.born)=List.range c.length) (g:b[j]?=some e) (t:e.key=k) (s:VR G a v) (f:MapEntry->MapEntry) (o:∀h:MapEntry,b[j]?=some h->f h={h with key:=k,val:=v}):
  VRs G ((c.set j (k,a)).map Prod.snd) ((b.modify j f).toList.map (·.val))/\(b.modify j f).toList.map (·.key)=(c.set j (k,a)).map Prod.fst/\
  (b.modify j f).toList.map (·.born)=List.range (c.set j (k,a)).length:=by
 have p:j<b.size:=(Array.getElem?_eq_some_iff.1 g).1;have r:(b.modify j f).toList=b.toList.set j {e with key:=k,val:=v}:=by
  apply Am4;intro i;rw[Am1,Av3];by_cases d:j=i
  ·subst d;rw[if_pos rfl,g,HU (by simpa using p)];simp[o e g]
  ·rw[if_neg d,Cc d,Am1]
 rw[r];simp only[Au5];refine⟨n.set j s,by rw[l],?_⟩;rw[m,Ak4];apply Am4;intro i;by_cases d:j=i
 ·subst d;have q:j<c.length:=by have:=congrArg List.length l;simp at this;omega
  rw[HU (by simpa using q)];have:(b.toList.map (·.born))[j]?=some e.born:=by rw[Al2,Am1,g];rfl
  rw[m]at this;rw[this]
 ·rw[Cc d]
abbrev Af0:=And.intro @List.map_cons.{0,0} @List.map_nil.{0,0}
abbrev Ai6:=And.intro @Aa6 @List.length_append.{0}
abbrev An0:=@List.map_append
theorem dS {b:Array MapEntry}{c:List (Value×AV)}{k v:Value}{a:AV}(e:VRs G (c.map Prod.snd) (b.toList.map (·.val)))(d:b.toList.map (·.key)=c.map Prod.fst)
  (f:b.toList.map (·.born)=List.range c.length) (h:VR G a v):
  VRs G ((c++[(k,a)]).map Prod.snd) ((b.push {key:=k,val:=v,born:=b.size}).toList.map (·.val))/\(b.push {key:=k,val:=v,born:=b.size}).toList.map (·.key)=(c++[(k,a)]).map Prod.fst/\
  (b.push {key:=k,val:=v,born:=b.size}).toList.map (·.born)=List.range (c++[(k,a)]).length:=by
 have g:c.length=b.size:=by have:=congrArg List.length d;simp at this;omega
 simp only[Array.toList_push,An0,Af0,Ai6];refine⟨e.append (.cons h .nil),by rw[d],?_⟩;rw[f,Aln,g]
def PY (P:Program)(H:AH)(t:TypeId)(m k x:AV):Option AH:=
 match P.underlying t,m,k with
 | some (.map key _),.mp o,.lit kv=>match P.underlying key,H[o]? with
  | some d,some (some (.map es))=>if sD d kv then match Ux d kv es 0 with
    | some (some (j,_))=>some (H.set o (some (.map (es.set j (kv,x)))))
    | some none=>some (H.set o (some (.map (es++[(kv,x)]))))
    | none=>none
   else none
  | _,_=>none
 | _,_,_=>none
abbrev At1:=@Nat.sub_zero
theorem rJ {H H':AH}(hr:HR G H){t:TypeId}{m k x:AV}{vm c q:Value}(I:VR G m vm)(F:VR G k c)(K:VR G x q)(h:PY P H t m k x=some H'):
  ∃G':Cfg,(Instr.mapUpdate t vm c q).run P G.w=.ok () G'.w/\Evo G G'/\HR G' H':=by
 unfold PY at h;split at h
 ·rename_i key N o R J;split at h
  ·rename_i d O n B;split at h
   ·rename_i L;simp only[VR]at F I;subst F;obtain⟨Q,rfl⟩:=I;have b:=wH L;obtain⟨C,l,f,g,D⟩:=hr.obj _ _ B;split at h
    ·rename_i j a A;injection h with h;subst h;obtain⟨e,-,z,i,-,E⟩:=Uy b f g A;simp only[At1,Am1]at z;obtain⟨r,a2,s⟩:=X5 f g D z E K (λu=>{u with key:=c,val:=q}) (λ_ _=>rfl);have M:(C.modify j λu=>{u with key:=c,val:=q}).size=C.size:=by simp
     obtain⟨G',p,v,y⟩:=hr.setMap B r a2 s;rw[M]at p;refine⟨G',?_,v,y⟩;rw[p];simp[Instr.mapUpdate,run_underlying J,MapKept.run_getObj_map l,MapKept.run_checkKey n b,MapKept.run_findKey n i,z,E,MapKept.run_keyThatStays b,MapKept.run_setObj_map _ l]
    ·rename_i A;injection h with h;subst h;have i:=Uy b f g A;simp only at i;obtain⟨r,a2,s⟩:=dS (k:=c) f g D K;obtain⟨G',p,v,y⟩:=hr.setMap B r a2 s;refine⟨G',?_,v,y⟩;rw[p];simp[Instr.mapUpdate,run_underlying J,MapKept.run_getObj_map l,MapKept.run_checkKey n b,MapKept.run_findKey n i,MapKept.run_setObj_map _ l]
    ·cases h
   ·cases h
  ·cases h
 ·cases h
def YD (P:Program)(H:AH)(t:TypeId)(m k:AV):Option (AV×AH):=
 match P.underlying t,m,k with
 | some (.map key elem),.mp o,.lit kv=>match P.underlying key,H[o]? with
  | some d,some (some (.map es))=>if sD d kv then match Ux d kv es 0 with
    | some (some (j,a))=>some (.tup [a,.lit (goInt j)],H)
    | some none=>match aE P elem with
     | some z=>some (.tup [.ofV z,.lit (goInt es.length)],H.set o (some (.map (es++[(kv,.ofV z)]))))
     | none=>none
    | none=>none
   else none
  | _,_=>none
 | _,_,_=>none
abbrev Aq9:=@List.getElem?_range
theorem vS {a:Array MapEntry}{b:List (Value×AV)}(d:a.toList.map (·.born)=List.range b.length){j:Nat}{e:MapEntry}(f:a[j]?=some e):e.born=j:=by
 have:(a.toList.map (·.born))[j]?=some e.born:=by rw[Al2,Am1,f];rfl
 rw[d]at this;have c:=(BG.1 this).1;rw[Aq9 (by simpa using c)]at this;injection this with this;exact this.symm
theorem vI {H H':AH}(hr:HR G H){t:TypeId}{m k r:AV}{vm q:Value}(E:VR G m vm)(D:VR G k q)(h:YD P H t m k=some (r,H')):
  ∃(G':Cfg) (u:Value),(Instr.mapEntry t vm q).run P G.w=.ok u G'.w/\Evo G G'/\VR G' r u/\HR G' H':=by
 unfold YD at h;split at h
 ·rename_i key Y o kv I;split at h
  ·rename_i d M n F;split at h
   ·rename_i S;simp only[VR]at D E;subst D;obtain⟨Z,rfl⟩:=E;have f:=wH S;obtain⟨b,c,x,g,A⟩:=hr.obj _ _ F;split at h
    ·rename_i j a y;injection h with h;injection h with s v;subst s;subst v;obtain⟨e,-,p,l,N,B⟩:=Uy f x g y;simp only[At1,Am1]at p;have U:(b.modify j λL=>{L with key:=q})=b:=by
      apply Array.ext_getElem?;intro i;rw[Av3];split
      ·rename_i R;subst R;rw[p];simp[<- B]
      ·rfl
     have V:({G.w with heap:=G.w.heap.setIfInBounds (G.μ o).1 (.map b b.size)}:World)=G.w:=by
      have:G.w.heap.setIfInBounds (G.μ o).1 (.map b b.size)=G.w.heap:=by
       apply Array.ext_getElem?;intro i;by_cases C:i=(G.μ o).1
       ·subst C;rw[(MapKept.heap_set c).1,c]
       ·exact(MapKept.heap_set c).2 i C
      rw[this]
     refine⟨G,.tuple #[e.val,goInt j],?_,Evo.refl G,?_,hr⟩
     ·simp[Instr.mapEntry,run_underlying I,MapKept.run_getObj_map c,MapKept.run_checkKey n f,MapKept.run_findKey n l,p,B,MapKept.run_keyThatStays f,MapKept.run_setObj_map _ c,U,V,vS A p]
     ·simp only[VR];exact⟨_,rfl,.two N (by simp only[VR])⟩
    ·rename_i y;split at h
     ·rename_i z X;injection h with h;injection h with s v;subst s;subst v;have l:=Uy f x g y;simp only at l;obtain⟨J,a2,K⟩:=dS (k:=q) x g A (VR.ofV G z);obtain⟨G',W,O,Q⟩:=hr.setMap F J a2 K;have T:M.length=b.size:=by have:=congrArg List.length g;simp at this;omega
      refine⟨G',.tuple #[z,goInt b.size],?_,O,?_,Q⟩
      ·rw[W];simp[Instr.mapEntry,run_underlying I,MapKept.run_getObj_map c,MapKept.run_checkKey n f,MapKept.run_findKey n l,DW X,MapKept.run_setObj_map _ c]
      ·simp only[VR];rw[T];exact⟨_,rfl,.two (VR.ofV _ z) (by simp only[VR])⟩
     ·cases h
    ·cases h
   ·cases h
  ·cases h
 ·cases h
def N4 (H:AH)(m s x:AV):Option AH:=
 match m,s with
 | .mp o,.lit (.int _ n)=>match H[o]? with
  | some (some (.map es))=>match es[n.toNat]? with
   | some (k,_)=>if 0<=n then some (H.set o (some (.map (es.set n.toNat (k,x)))))else none
   | none=>none
  | _=>none
 | _,_=>none
theorem nQ {H H':AH}(hr:HR G H){t:TypeId}{m s x:AV}{vm vs g:Value}(y:VR G m vm)(hs:VR G s vs)(N:VR G x g)(h:N4 H m s x=some H'):
  ∃G':Cfg,(Instr.entryStore t vm vs g).run P G.w=.ok () G'.w/\Evo G G'/\HR G' H':=by
 unfold N4 at h;split at h
 ·rename_i o S n;split at h
  ·rename_i D z;split at h
   ·rename_i k a u;split at h
    ·rename_i Q;injection h with h;subst h;simp only[VR]at hs y;subst hs;obtain⟨R,rfl⟩:=y;obtain⟨b,q,E,j,l⟩:=hr.obj _ _ z;have L:D.length=b.size:=by have:=congrArg List.length j;simp at this;omega
     have v:n.toNat<b.size:=by rw[<- L];exact(BG.1 u).1
     have d:b[n.toNat]?=some b[n.toNat]:=Aq1 v;have r:b[n.toNat].key=k:=by
      have p:(b.toList.map (·.key))[n.toNat]?=some b[n.toNat].key:=by rw[Al2,Am1,d];rfl
      rw[j,Al2,u]at p;simpa using p.symm
     obtain⟨B,a2,C⟩:=X5 (k:=k) E j l d r N (λc=>{c with val:=g}) (λc f=>by rw[d]at f;injection f with f;rw[<- f,<- r]);have M:(b.modify n.toNat λc=>{c with val:=g}).size=b.size:=by simp
     obtain⟨G',A,F,I⟩:=hr.setMap z B a2 C;rw[M]at A;refine⟨G',?_,F,I⟩;have J:b.findIdx? (λe=>decide ((e.born:Int)=n))=some n.toNat:=by
      rw[Array.findIdx?_eq_some_iff_getElem];refine⟨v,?_,λi O=>?_⟩
      ·have:=vS l d;simp only[decide_eq_true_eq,this];omega
      ·have:=vS l (Aq1 (show i<b.size by omega));simp only[decide_eq_true_eq,this];omega
     have K:b.findIdx? (λe=>(e.born:Int)==n)=some n.toNat:=by rw[<- J];congr 1
     rw[A];simp[Instr.entryStore,MapKept.run_getObj_map q,asInt,asIntOf,K,MapKept.run_setObj_map _ q]
    ·cases h
   ·cases h
  ·cases h
 ·cases h
def vF (P:Program)(H:AH)(t:TypeId)(x:AV):Option AH:=
 match P.underlying t,x with
 | some (.slice _),.lit (.slice none _ _)=>some H
 | some (.slice e),.sl o off len esz _=>match P.info? e,H[o]? with
  | some i,some (some (.cells cs))=>match i.zero with
   | some z=>if z.cells.size=esz/\esz≠0/\Xh z=true/\off+len*esz<=cs.length then
     some (if len=0 then H else H.set o (some (.cells (Bb cs off (Bx (z.cells.toList.map .lit) len)))))else none
   | none=>none
  | _,_=>none
 | _,_=>none
theorem Alo {H H':AH}(hr:HR G H){t ty:TypeId}{x:AV}{k:Value}(d:VR G x k)(h:vF P H t x=some H'):
  ∃G':Cfg,(Builtin.clear_ #[t] ty #[k]).run P G.w=.ok (.tuple #[]) G'.w/\Evo G G'/\HR G' H':=by
 unfold vF at h;split at h
 ·rename_i b;injection h with h;subst h;simp only[VR]at d;subst d;exact⟨G,by simp[Builtin.clear_,run_underlying b],Evo.refl G,hr⟩
 ·rename_i e o j len F E b;split at h
  ·rename_i i cs v y;split at h
   ·rename_i z B;split at h
    ·rename_i s;obtain⟨rfl,f,m,I⟩:=s;injection h with h;subst h;simp only[VR]at d;obtain⟨M,a,c,rfl,J,r⟩:=d;split
     ·rename_i g;subst g;exact⟨G,by simp[Builtin.clear_,run_underlying b],Evo.refl G,hr⟩
     ·rename_i g;have A:=Vu (G:=G) (z:=z.cells) len f;have K:(Bx (z.cells.toList.map .lit) len).length=len*z.cells.size:=by rw[EJ];simp
      obtain⟨G',q,n,L,N,p⟩:=hr.store (P:=P) y (off:=j) (xs:=Bx (z.cells.toList.map .lit) len) (by omega) A (Yb _ (λu b=>Am2.1 m u b) f);obtain⟨rfl,_⟩:=I1 r (by omega);refine⟨G',?_,n,p⟩;have D:(P.info? e).bind (·.zero)=some z:=by rw[v];exact B
      have C:Builtin.zeroCells z.cells len=madeCells z.cells (len*z.cells.size):=rfl;obtain⟨O,rfl⟩:∃l,len=l+1:=⟨len - 1,by omega⟩;simp[Builtin.clear_,run_underlying b,DW D,C,q]
    ·cases h
   ·cases h
  ·cases h
 ·cases h
def cV (P:Program)(H:AH)(t:TypeId)(l:Option AV):Option (AV×AH):=
 match P.underlying t,l with
 | some (.map _ _),none=>some (.mp H.length,H++[some (.map [])])
 | some (.map _ _),some (.lit (.int _ _))=>some (.mp H.length,H++[some (.map [])])
 | _,_=>none
theorem yH {H H':AH}(hr:HR G H){t:TypeId}{l:Option AV}{a:Option Value}{r:AV}(hl:VRo G l a)(h:cV P H t l=some (r,H')):
  ∃(G':Cfg) (u:Value),(Instr.makeMap t a).run P G.w=.ok u G'.w/\Evo G G'/\VR G' r u/\HR G' H':=by
 have key:∀{a:Option Value},(Instr.makeMap t a).run P G.w=.ok (.map (some G.w.heap.size)) (G.w.alloc (.map #[] 0))->
   ∃(G':Cfg) (u:Value),(Instr.makeMap t a).run P G.w=.ok u G'.w/\Evo G G'/\VR G' (.mp H.length) u/\HR G' (H++[some (.map [])]):=by
  intro a f;have e:(G.new (.map #[] 0) 0).μ H.length=(G.w.heap.size,0,0):=by simp[Cfg.new,hr.n]
  refine⟨G.new (.map #[] 0) 0,_,f,Evo.new _ _ _,?_,hr.new _ _ _ ?_⟩
  ·simp only[VR];rw[e];exact⟨by simp[Cfg.new,hr.n],rfl⟩
  ·refine⟨#[],?_,.nil,rfl,rfl⟩;rw[e];simpa[Cfg.new]using heap_alloc_new G.w (.map #[] 0)
 unfold cV at h;split at h
 ·rename_i d;injection h with h;injection h with b c;subst b;subst c;cases a with
  | none=>exact key (by simp[Instr.makeMap])
  | some v=>simp[VRo]at hl
 ·rename_i g n d;injection h with h;injection h with b c;subst b;subst c;cases a with
  | none=>simp[VRo]at hl
  | some v=>
   simp only[VRo,VR]at hl;subst hl;exact key (by simp[Instr.makeMap,run_underlying d,asInt,asIntOf])
 ·cases h
def Abw (P:Program)(t:TypeId)(x:AV):Option AV:=
 match P.underlying t,x with
 | some (.slice _),.sl _ _ _ _ (.ex k)=>some (.lit (goInt k))
 | some (.slice _),.lit (.slice none _ c)=>some (.lit (goInt c))
 | some (.slice _),.emp=>some (.lit (goInt 0))
 | some (.array n _),_=>some (.lit (goInt n))
 | _,_=>none
theorem Alp {t ty:TypeId}{x r:AV}{v:Value}(d:VR G x v)(h:Abw P t x=some r)(w:World):∃u,(Builtin.cap_ #[t] ty #[v]).run P w=.ok u w/\VR G r u:=by
 unfold Abw at h;split at h
 ·rename_i k b;injection h with h;subst h;simp only[VR]at d;obtain⟨_,a,c,rfl,_,hs⟩:=d;simp only[SlAt]at hs;obtain⟨rfl,_⟩:=hs;exact⟨_,by simp[Builtin.cap_,run_underlying b];rfl,by simp only[VR]⟩
 ·rename_i c b;injection h with h;subst h;simp only[VR]at d;subst d;exact⟨_,by simp[Builtin.cap_,run_underlying b];rfl,by simp only[VR]⟩
 ·rename_i b;injection h with h;subst h;simp only[VR]at d;obtain⟨a,rfl⟩:=d;exact⟨_,by simp[Builtin.cap_,run_underlying b];rfl,by simp only[VR]⟩
 ·rename_i n e b;injection h with h;subst h;exact⟨goInt n,by simp[Builtin.cap_,run_underlying b],by simp only[VR]⟩
 ·cases h
def cW (P:Program)(H:AH)(t:TypeId)(x:AV):Option AV:=
 match P.underlying t,x with
 | some (.map _ _),.mp o=>match H[o]? with
  | some (some (.map es))=>some (.lit (goInt es.length))
  | _=>none
 | _,_=>none
theorem Alq {H:AH}(hr:HR G H){t ty:TypeId}{x r:AV}{v:Value}(b:VR G x v)(h:cW P H t x=some r):∃u,(Builtin.len_ #[t] ty #[v]).run P G.w=.ok u G.w/\VR G r u:=by
 unfold cW at h;split at h
 ·rename_i key j o i;split at h
  ·rename_i c g;injection h with h;subst h;simp only[VR]at b;obtain⟨_,rfl⟩:=b;obtain⟨a,e,k,d,l⟩:=hr.obj _ _ g;have f:c.length=a.size:=by have:=congrArg List.length d;simp at this;omega
   exact⟨goInt a.size,by simp[Builtin.len_,run_underlying i,MapKept.run_getObj_map e],by simp only[VR,f]⟩
  ·cases h
 ·cases h
end
end
section
section
variable {P : Program} {G : Cfg}
def Tv (H:AH)(size bytes:Nat)(zc:List AV)(s x:AV):Option (AV×AH):=
 match s,x with
 | .sl o off len esz (.ex k),.lit (.int _ n)=>match H[o]? with
  | some (some (.cells cs))=>
   if esz=size/\off+len*esz<=cs.length/\0<n/\k<len+n.toNat/\(len+n.toNat)*bytes<=140737488355328 then
    some (.sl H.length 0 (len+n.toNat) size (.ge (len+n.toNat)),H++[some (.cells ((cs.drop off).take (len*esz)++Bx zc n.toNat))])
   else none
  | _=>none
 | _,_=>none
def Xe (P:Program)(H:AH)(a b:TypeId)(s x:AV):Option (AV×AH):=
 match P.underlying a,P.underlying b with
 | some (.slice e),some (.int _)=>
  match P.info? e with
  | none=>none
  | some i=>match i.zero with
   | none=>none
   | some z=>if i.size=0\/i.bytes=0\/z.cells.size≠i.size\/Xh z=false then none else
    Tv H i.size i.bytes (z.cells.toList.map .lit) s x
 | _,_=>none
abbrev Ap6:=@Int.toNat_natCast
abbrev Ak0:=@List.mem_iff_getElem?
theorem xX {H H':AH}(hr:HR G H){D E ty:TypeId}{s x r:AV}{vs S:Value}(hs:VR G s vs)(N:VR G x S)(h:Xe P H D E s x=some (r,H')):
  ∃(G':Cfg) (u:Value),(Builtin.append_ #[D,E] ty #[vs,S]).run P G.w=.ok u G'.w/\Evo G G'/\VR G' r u/\HR G' H':=by
 unfold Xe at h;split at h
 ·rename_i e kn C al;split at h
  ·cases h
  rename_i i hi;split at h
  ·cases h
  rename_i z hz;split at h
  ·cases h
  rename_i J;rw[not_or,not_or,not_or]at J;obtain⟨B,ao,f,A⟩:=J;have f:=Al7 f;have A:Xh z=true:=by simpa using A
  unfold Tv at h;split at h
  ·rename_i o d len an k kq n;split at h
   ·rename_i cs ab;split at h
    ·rename_i Y;obtain⟨rfl,ap,au,p,I⟩:=Y;injection h with h;injection h with V W;subst V;subst W;simp only[VR]at hs N;subst N;obtain⟨ho,a,c,rfl,ar,aa,ak⟩:=hs;subst aa;obtain⟨m,rfl⟩:∃m:Nat,n=m:=⟨n.toNat,by omega⟩;simp only[Ap6]at p I|-;have af:0<m:=by omega
     obtain⟨cc,ce,vs,q1,q2,q3,Q,R⟩:=hr.obj o _ ab
     have y:((vs.drop d).take (len*i.size)).length=len*i.size:=by have:=Q.length;rw[Aj4,Aj9];omega
     have ad:(Builtin.firstCells i.size len (.slice (some a) len c)).run P G.w.drew=.ok ((vs.drop d).take (len*i.size)).toArray G.w.drew:=by
      refine run_firstCells_some G.w.drew i.size len a len c _ y λj v b=>?_;rcases ak with U | ⟨rfl,aq⟩
      ·subst U;have:len=0:=by omega
       subst this;simp at b
      ·rw[Ak2,Ak3]at b;split at b
       ·have:=(R _ _ b).1;show World.cell? _ _=_;simp only[Addr.add_lit];unfold World.cell?;have T:G.w.drew.heap=G.w.heap:=rfl;simp only[T,q1];rw[show(G.μ o).2.1+d+j=(G.μ o).2.1+(d+j) by omega];exact this
       ·cases b
     have ah:((len+m:Nat):Int)<=9223372036854775807:=by have:(len+m)*1<=(len+m)*i.bytes:=Nat.mul_le_mul_left _ (by omega);omega
     have ag:m*i.bytes<=281474976710656:=by have:m*i.bytes<=(len+m)*i.bytes:=Ak5 _ (by omega);omega
     have q:=Go.Lib.run_append_grow_zeros (P:=P) (ty:=ty) G.w D E e i z kq kn C al hi hz (some a) len c _ ad m af (by omega) p ah ag (growslice_fits p I);generalize Z:grownCap G.w (len+m) c e=cap at q;have t:len+m<=cap:=by rw[<- Z];exact grownCap_ge _ _ _ _
     generalize M:((vs.drop d).take (len*i.size)).toArray++Builtin.zeroCells z.cells m++Builtin.zeroCells z.cells (cap - (len+m))=row at q;have aj:row.size=cap*i.size:=by rw[<- M];simp only[Af6,size_zeroCells,f,y,<- Ap2];congr 1;omega
     have O:(Builtin.zeroCells z.cells m).toList=(madeCells z.cells (m*i.size)).toList:=by
      rw[<- f];apply Am4;intro j;have:z.cells.size≠0:=by rw[f];exact B
      rw[Am1,Am1,getElem?_madeCells];unfold Builtin.zeroCells;simp only[Aw2];by_cases b:j<m*z.cells.size
      ·rw[if_pos b];simp[b]
      ·rw[if_neg b];simp[b]
     have am:VRs G (Bx (z.cells.toList.map .lit) m) (Builtin.zeroCells z.cells m).toList:=by rw[O,<- f];exact Vu m (by rw[f];exact B)
     have F:VRs G ((cs.drop d).take (len*i.size)++Bx (z.cells.toList.map .lit) m) ((vs.drop d).take (len*i.size)++(Builtin.zeroCells z.cells m).toList):=((Q.drop d).take _).append am;have ae:=F.length;let g:Cfg:={G with w:=G.w.drew};have ai:HR g H:=hr.drew;have X:HR (g.new (.cells row e) (cap*i.size)) (H++[some (.cells ((cs.drop d).take (len*i.size)++Bx (z.cells.toList.map .lit) m))]):=by
      refine ai.newCells row e (by rw[aj];exact Aj7 _) ?_ (F.evo (Evo.drew G)) ?_
      ·rw[ae,Ak1,y,An3,size_zeroCells,f,<- Ap2];exact Ak5 _ t
      ·intro j v b;refine⟨?_,?_⟩
       ·have K:(((vs.drop d).take (len*i.size)).toArray++Builtin.zeroCells z.cells m)[j]?=some v:=by rw[<- Am1,Array.toList_append];exact b
        rw[<- M,At5 (Array.getElem?_eq_some_iff.1 K).1];exact K
       ·rcases Am3.1 (Aj2 b)with l | l
        ·obtain⟨k',L⟩:=Ak0.1 (An8 l);rw[Ak3]at L;exact(R _ _ L).2
        ·rw[O]at l;exact Yb _ (λu C=>Am2.1 A u C) (by rw[f];exact B) v l
     have hμ:(g.new (.cells row e) (cap*i.size)).μ H.length=(G.w.heap.size,0,cap*i.size):=by simp[Cfg.new,g,hr.n]
     refine⟨g.new (.cells row e) (cap*i.size),_,q,(Evo.drew G).trans (Evo.new g _ _),?_,X⟩;simp only[VR];refine⟨by simp[Cfg.new,g,hr.n],_,_,rfl,t,?_⟩;rw[hμ];exact⟨t,.inr ⟨rfl,by simp⟩⟩
    ·cases h
   ·cases h
  ·cases h
 ·cases h
end
end
section
section
variable {P : Program} {G : Cfg}
theorem Alr (w:World)(b:Nat)(k:Nat)(c:Array Value)(e:TypeId)(h:w.heap[b]?=some (.cells c e (0,0))):(w.freeze ⟨b,c.size,none⟩ 1).heap[k]?=if k=b then some (.cells c e (c.size,c.size+1))else w.heap[k]?:=by
 unfold World.freeze;simp only[Nat.one_ne_zero,if_false];rw[Av3];by_cases a:k=b
 ·subst a;simp[h]
 ·rw[if_neg a,if_neg (λe=>a e.symm)]
theorem vW {H : AH} (hr : HR G H) {t e : TypeId} (V : P.underlying t=some (.slice e)) (S : P.underlying e=some (.int .u8)) {o off len : Nat} {C : Room} {cs : List AV} {v : Value} (I : VR G (.sl o off len 1 C) v) (j : H[o]? = some (some (.cells cs))) (hb : off + len<=cs.length) (ad : 0 < len) :
    ∃(G':Cfg) (u:Value),(convert t t v).run P G.w=.ok u G'.w/\Evo G G'/\VR G' (.imm ((cs.drop off).take len) len 1) u/\HR G' (H.set o none):=by
  simp only[VR]at I;obtain⟨ab,a,c,rfl,T,B⟩:=I;obtain⟨m,y,N,F,ae,aa,X,Q⟩:=hr.obj o _ j;have O:a=⟨(G.μ o).1,(G.μ o).2.1+off,none⟩:=by
    unfold SlAt at B;cases C with
    | ex k => obtain ⟨g, d⟩ := B; rcases d with d | d
              · omega
              · exact d.1
    | ge k => obtain ⟨g, d⟩ := B; rcases d with d | d
              · omega
              · exact d.1
  subst O;have D:=hr.live o _ j;let b:=(G.μ o).1;let l:Cfg:={w:=G.w.freeze ⟨b,m.size,none⟩ 1,n:=G.n,μ:=G.μ,L:=λk=>G.L k/\k≠b,K:=G.K};have A:∀k,l.w.heap[k]?=if k=b then some (.cells m y (m.size,m.size+1))else G.w.heap[k]?:=λk=>Alr G.w b k m y F
  have E:l.w.heap.size=G.w.heap.size:=by simp[l,World.freeze]
  have z:Evo G l:=⟨rfl,rfl,rfl,by rw[E];exact Aj7 _,λk _ q=>⟨by rw[A,if_neg (fun (e:k=b)=>q (by rw[e];exact D))],λh=>q h.1⟩,Aj7 _,λ_ _=>rfl,rfl⟩;have R:∀i,l.w.cell? ⟨b,i,none⟩=m[i]?:=λi=>by unfold World.cell?;rw[A,if_pos rfl];simp
  refine⟨l,.slice (some ⟨b,(G.μ o).2.1+off,none⟩) len c,?_,z,?_,?_⟩
  · have U:G.w.shape? b=some (y,m.size):=by simp[World.shape?,b,F]
    simp[convert,run_underlying V,run_underlying S,markStringish,U,b,l]
  · simp only[VR];have W:VRs G ((cs.drop off).take len) ((N.drop off).take len):=(X.drop off).take len;refine⟨_,c,(N.drop off).take len,rfl,T,.inr ⟨?_,λi u s=>?_⟩,VRs.evo z W⟩
    · rintro(h | h)
      · exact h.2 rfl
      · exact hr.dis _ D h
    · rw[Ak2]at s;split at s
      · rw[Ak3]at s;obtain⟨g,d⟩:=Q (off+i) u s;refine⟨?_,d⟩;rw[Addr.add_lit,R,<- g]
        congr 1;omega
      · cases s
  · refine⟨by rw[Ak4];exact hr.n,λp x f=>?_,λJ M x1 x2 g d=>?_,λp x f=>?_,λk q=>?_,λk q=>hr.dis k q.1⟩
    · have r:p≠o:=by rintro rfl;rw[HU (BG.1 j).1]at f;simp at f
      rw[Cc (Al6 r)]at f;refine OR.evo z (hr.lt_n f) ?_ (hr.obj p x f);rw[A,if_neg (λh=>r (hr.inj p o x _ f j h))]
    · have Y:J≠o:=by rintro rfl;rw[HU (BG.1 j).1]at g;simp at g
      have Z:M≠o:=by rintro rfl;rw[HU (BG.1 j).1]at d;simp at d
      rw[Cc (Al6 Y)]at g;rw[Cc (Al6 Z)]at d;exact hr.inj J M x1 x2 g d
    · have r:p≠o:=by rintro rfl;rw[HU (BG.1 j).1]at f;simp at f
      rw[Cc (Al6 r)]at f;exact⟨hr.live p x f,λh=>r (hr.inj p o x _ f j h)⟩
    · rw[E];exact hr.lt k (q.imp (λh=>h.1) id)
def Ado (H:AH)(x:AV):Option (AV×AH):=match x with
 | .sl o off len 1 cap=>match H[o]? with
  | some (some (.cells cs))=>if off+len<=cs.length/\0<len then some (.imm ((cs.drop off).take len) len 1,H.set o none)else none
  | _=>none
 | _=>none
def yO (P:Program)(H:AH)(s d:TypeId)(x:AV):Option (AV×AH):=match Nat.beq s d with
 | true=>match P.underlying d with
  | some (.slice e)=>match P.underlying e with
   | some (.int .u8)=>Ado H x
   | _=>none
  | _=>none
 | false=>none
abbrev Aq3:=@Nat.eq_of_beq_eq_true
theorem Als {H H':AH}(hr:HR G H){s d:TypeId}{x r:AV}{v:Value}(k:VR G x v)(h:yO P H s d x=some (r,H')):∃(G':Cfg) (u:Value),(convert s d v).run P G.w=.ok u G'.w/\Evo G G'/\VR G' r u/\HR G' H':=by
 unfold yO at h;split at h
 ·rename_i j;have:=Aq3 j;subst this;split at h
  ·rename_i e g;split at h
   ·rename_i i;unfold Ado at h;split at h
    ·rename_i o m len l;split at h
     ·rename_i cs f;split at h
      ·rename_i a;injection h with h;injection h with b c;subst b;subst c;exact vW hr g i k f a.1 a.2
      ·cases h
     ·cases h
    ·cases h
   ·cases h
  ·cases h
 ·cases h
end
end
section
section
variable {P : Program} {G : Cfg}
def nP (P:Program)(c a:TypeId)(x:AV):Option AV:=
 match P.underlying c,P.underlying a,x with
 | some .string,some (.slice e),.lit (.string s)=>match P.underlying e with
  | some (.int .u8)=>some (.imm (s.data.toList.map λb=>.lit (.int .u8 b.toNat)) s.size 1)
  | _=>none
 | _,_,_=>none
theorem yW {w:World}{c:Array Value}{e:TypeId}{fr:Nat×Nat}(j:Nat):(w.alloc (.cells c e fr)).cell? ⟨w.heap.size,j,none⟩=c[j]?:=by
 unfold World.cell?;rw[heap_alloc_new];rfl
theorem Alt {H:AH}(hr:HR G H){m f:TypeId}{x r:AV}{v:Value}(t:VR G x v)(h:nP P m f x=some r):
  ∃(G':Cfg) (u:Value),(convert m f v).run P G.w=.ok u G'.w/\Evo G G'/\VR G' r u/\HR G' H:=by
 unfold nP at h;split at h
 ·rename_i e s hs A;split at h
  ·rename_i B;injection h with h;subst h;simp only[VR]at t;subst t;have q:=run_bytes_of_string (P:=P) G.w m f e s hs A B;generalize z:grownCap G.w s.size 0 e=cap at q;have C:s.size<=cap:=by rw[<- z];exact grownCap_ge _ _ _ _
   generalize E:((bytesRow s cap).size,(bytesRow s cap).size+1)=g at q;let a:Cfg:={G with w:=G.w.drew.alloc (.cells (bytesRow s cap) e g)};have p:Evo G a:=⟨rfl,rfl,rfl,by simp[a],λk D j=>⟨Below.heap_alloc _ _ _ D,j⟩,Aj7 _,λ_ _=>rfl,rfl⟩;refine⟨a,_,q,p,?_,?_⟩
   ·simp only[VR];refine⟨_,_,byteCells s,rfl,C,.inr ⟨λj=>?_,λi v d=>?_⟩,?_⟩
    ·have:=hr.lt _ j;simp at this
    ·refine⟨?_,?_⟩
     ·rw[Addr.add_lit];have:=yW (w:=G.w.drew) (c:=bytesRow s cap) (e:=e) (fr:=g) i;rw[show(0:Nat)+i=i by omega];refine this.trans ?_;unfold bytesRow;unfold byteCells at d;rw[At5 (by have:=(BG.1 d).1;simpa using this)];simpa using d
     ·have:=Aj2 d;unfold byteCells at this;obtain⟨_,_,rfl⟩:=Am5.1 this;rfl
    ·unfold byteCells;have:=VRs.lits (G:=a) (s.data.toList.map λb=>Value.int .u8 b.toNat);simpa[List.map_map,Function.comp_def]using this
   ·exact⟨hr.n,λo x l=>OR.evo p (hr.lt_n l) (Below.heap_alloc _ _ _ (hr.lt _ (.inl (hr.live _ _ l)))) (hr.obj o x l),hr.inj,hr.live,λb y=>by have:=hr.lt b y;simp[a];omega,hr.dis⟩
  ·cases h
 ·cases h
def Ce (P:Program)(H:AH)(b:Builtin)(a:List TypeId)(xs:List AV):Option (AV×AH):=
 match b,a,xs with
 | .len,[t],[x]=>(match iD P t x with
  | some r=>some r
  | none=>cW P H t x).map (·,H)
 | .cap,[t],[x]=>(Abw P t x).map (·,H)
 | .clear,[t],[x]=>(vF P H t x).map (.lit (.tuple #[]),·)
 | .append,[t,u],[s,x]=>match Vw P H t u s x with
  | some r=>some r
  | none=>Xe P H t u s x
 | .copy,[t,_],[d,s]=>yD P H t d s
 | .min,_,xs=>(amm gZ xs).map (·,H)
 | .max,_,xs=>(amm jF xs).map (·,H)
 | _,_,_=>none
def Ea (P:Program)(ρ:Operand->AV)(H:AH)(o:Oper):Option (AV×AH):=
 match o.op with
 | .move x | .assign x=>some (ρ x,H)
 | .pick c a b=>match ρ c with
  | .lit (.bool t)=>some (if t then ρ a else ρ b,H)
  | _=>none
 | .alloc e=>match aE P e with
  | some z=>AE H (.ofV z)
  | none=>none
 | .box _ x=>AE H (ρ x)
 | .build t parts=>(nN P t (parts.toList.map λp=>(p.1,ρ p.2))).map (·,H)
 | .buildSlice t len parts=>Gu P H t len (parts.toList.map λp=>(p.1,ρ p.2))
 | .load t a=>(kE P H t (ρ a)).map (·,H)
 | .store t a x=>(iJ P H t (ρ a) (ρ x)).map (Be,·)
 | .nilCheck x=>(Aj (ρ x)).map (·,H)
 | .binOp op t x y _=>(P9 P op t (ρ x) (ρ y)).map (·,H)
 | .unOp op _ x=>(D5 op (ρ x)).map (·,H)
 | .convert s d x=>match HW P H s d (ρ x)with
  | some r=>some (r,H)
  | none=>match nP P s d (ρ x)with
   | some r=>some (r,H)
   | none=>yO P H s d (ρ x)
 | .makeFunc fn f c=>some (.fn fn (f.toList.map ρ) (c.toList.map ρ),H)
 | .makeSlice t l c=>Ack P H t (ρ l) (ρ c)
 | .slice t x lo hi mx=>(V0 P H t (ρ x) (lo.map ρ) (hi.map ρ) (mx.map ρ)).map (·,H)
 | .fieldAddr s x f=>(Vy P s (ρ x) f).map (·,H)
 | .field s x f=>(nR P s (ρ x) f).map (·,H)
 | .indexAddr t x i=>(PV P t (ρ x) (ρ i)).map (·,H)
 | .index t x i=>(nT P t (ρ x) (ρ i)).map (·,H)
 | .extract t i=>(Ak (ρ t) i).map (·,H)
 | .makeMap t l=>cV P H t (l.map ρ)
 | .lookup t x k co=>(cU P H t (ρ x) (ρ k) co).map (·,H)
 | .mapUpdate t m k x=>(PY P H t (ρ m) (ρ k) (ρ x)).map (Be,·)
 | .mapEntry t m k=>YD P H t (ρ m) (ρ k)
 | .entryStore _ m s x=>(N4 H (ρ m) (ρ s) (ρ x)).map (Be,·)
 | .call {callee:=.builtin b,args,argTypes}=>Ce P H b argTypes.toList (args.toList.map ρ)
 | _=>none
def OpS (P:Program)(G:Cfg)(s:Sem Next)(r:AV)(H':AH):Prop:=∃(a:Cfg) (u:Value),(s.run P G.w=.ok (.value u) a.w\/(s.run P G.w=.ok .skip a.w/\u=undef))/\Evo G a/\VR a r u/\HR a H'
theorem OpS.val {s:Sem Value}{r:AV}{H:AH}(hr:HR G H)(h:∃u,s.run P G.w=.ok u G.w/\VR G r u):OpS P G (do pure (.value (<- s))) r H:=by
 obtain⟨u,a,b⟩:=h;exact⟨G,u,.inl (by simp[a]),Evo.refl G,b,hr⟩
theorem OpS.heap {s:Sem Value}{r:AV}{H':AH}(h:∃(G':Cfg) (u:Value),s.run P G.w=.ok u G'.w/\Evo G G'/\VR G' r u/\HR G' H'):OpS P G (do pure (.value (<- s))) r H':=by
 obtain⟨G',u,b,a,c,hr⟩:=h;exact⟨G',u,.inl (by simp[b]),a,c,hr⟩
theorem VRs.map_ops {ρ:Operand->AV}{a:Operand->Value}(b:∀x,VR G (ρ x) (a x))(l:List Operand):VRs G (l.map ρ) (l.map a):=by
 induction l with
 | nil=>exact .nil
 | cons x l ih=>exact .cons (b x) ih
theorem VRo.map_ops {ρ:Operand->AV}{a:Operand->Value}(b:∀x,VR G (ρ x) (a x))(l:Option Operand):VRo G (l.map ρ) (l.map a):=by
 cases l with
 | none=>trivial
 | some x=>exact b x
theorem VRs.map_parts {ρ:Operand->AV}{a:Operand->Value}(b:∀x,VR G (ρ x) (a x))(l:List (Nat×Operand)):
  (l.map λp=>(p.1,ρ p.2)).map Prod.fst=(l.map λp=>(p.1,a p.2)).map Prod.fst/\VRs G ((l.map λp=>(p.1,ρ p.2)).map Prod.snd) ((l.map λp=>(p.1,a p.2)).map Prod.snd):=by
 induction l with
 | nil=>exact⟨rfl,.nil⟩
 | cons x l ih=>exact⟨by simp,.cons (b x.2) ih.2⟩
theorem DO {α:Type}{o:Option α}{H H':AH}{r:α}(h:o.map (·,H)=some (r,H')):o=some r/\H'=H:=by
 obtain⟨a,d,e⟩:=Option.map_eq_some_iff.1 h;injection e with b c;exact⟨by rw[d,b],c.symm⟩
theorem Adp {x:AV}{vs:List Value}(h:VRs G [x] vs):∃v,vs=[v]/\VR G x v:=by
 simp only[VRs]at h;obtain⟨v,r,e,b,a⟩:=h;exact⟨v,by rw[e,a],b⟩
theorem Afn {x y:AV}{vs:List Value}(h:VRs G [x,y] vs):∃v u,vs=[v,u]/\VR G x v/\VR G y u:=by
 simp only[VRs]at h;obtain⟨v,r,e,d,u,f,a,c,b⟩:=h;exact⟨v,u,by rw[e,a,b],d,c⟩
theorem xY {H H':AH}(hr:HR G H){b:Builtin}{f:Array TypeId}{ty:TypeId}{cs:Array Bool}{xs:List AV}{vs:List Value}{r:AV}(d:VRs G xs vs)(h:Ce P H b f.toList xs=some (r,H')):
  OpS P G (builtin b f ty cs vs.toArray) r H':=by
 obtain⟨f⟩:=f;simp only at h;unfold Ce at h;split at h
 ·obtain⟨a,rfl⟩:=DO h;obtain⟨v,rfl,c⟩:=Adp d;split at a
  ·rename_i l;injection a with a;subst a;exact OpS.val hr (Ali c l _)
  ·exact OpS.val hr (Alq hr c a)
 ·obtain⟨a,rfl⟩:=DO h;obtain⟨v,rfl,c⟩:=Adp d;exact OpS.val hr (Alp c a _)
 ·obtain⟨v,rfl,c⟩:=Adp d;obtain⟨p,g,o⟩:=Option.map_eq_some_iff.1 h;injection o with j k;subst j;subst k;obtain⟨i,q,m,n⟩:=Alo (ty:=ty) hr c g;exact OpS.heap ⟨i,_,q,m,by simp only[VR],n⟩
 ·obtain⟨v,u,rfl,c,e⟩:=Afn d;split at h
  ·rename_i s g;injection h with h;subst h;exact OpS.heap (Alg hr c e g)
  ·exact OpS.heap (xX hr c e h)
 ·obtain⟨v,u,rfl,c,e⟩:=Afn d;exact OpS.heap (Alh hr c e h)
 ·obtain⟨a,rfl⟩:=DO h;exact OpS.val hr (Alj (vs:=vs.toArray) d a _)
 ·obtain⟨a,rfl⟩:=DO h;exact OpS.val hr (Alk (vs:=vs.toArray) d a _)
 ·cases h
theorem N0 {H H':AH}{a r:AV}(h:some (a,H)=some (r,H')):r=a/\H'=H:=by
 injection h with h;injection h with b c;exact⟨b.symm,c.symm⟩
abbrev Aq4:=@Array.toList_map
set_option maxHeartbeats 2000000 in
theorem Afo {ρ:Operand->AV}{C:Operand->Value}{H H':AH}(hr:HR G H)(g:∀x,VR G (ρ x) (C x)){o:Oper}{r:AV}(h:Ea P ρ H o=some (r,H')):OpS P G (execOp C o) r H':=by
 obtain⟨V,op,S,X,U,W⟩:=o;cases op
 case move x=>obtain⟨rfl,rfl⟩:=N0 h;exact⟨G,_,.inl rfl,Evo.refl G,g x,hr⟩
 case assign x=>obtain⟨rfl,rfl⟩:=N0 h;exact⟨G,_,.inl rfl,Evo.refl G,g x,hr⟩
 case pick c a b=>
  unfold Ea at h;simp only at h;split at h
  ·rename_i t Q;obtain⟨rfl,rfl⟩:=N0 h;have:=g c;rw[Q]at this;simp only[VR]at this;refine⟨G,if t then C a else C b,.inl (by simp[execOp,this,asBool]),Evo.refl G,?_,hr⟩;cases t
   ·exact g b
   ·exact g a
  ·cases h
 case alloc e=>
  unfold Ea at h;simp only at h;split at h
  ·rename_i z R;obtain⟨v,u,n,j,I,J⟩:=Afk (P:=P) (e:=e) hr (VR.ofV G z) h;exact OpS.heap ⟨v,_,by simp[Instr.alloc,DW R,n],j,I,J⟩
  ·cases h
 case box e x=>
  obtain⟨v,u,n,j,I,J⟩:=Afk (P:=P) (e:=e) hr (g x) h;exact OpS.heap ⟨v,_,by simp[Instr.box,n],j,I,J⟩
 case build t parts=>
  obtain⟨j,rfl⟩:=DO h;obtain⟨A,B⟩:=VRs.map_parts g parts.toList;have q:=Ald (vparts:=parts.map fun (i,x)=>(i,C x)) (by rw[Aq4];exact A) (by rw[Aq4];exact B) j G.w;exact OpS.val hr q
 case buildSlice t len parts=>
  obtain⟨A,B⟩:=VRs.map_parts g parts.toList;have j:Gu P H t len (parts.toList.map λp=>(p.1,ρ p.2))=some (r,H'):=h;have q:=nO hr (vparts:=parts.map fun (i,x)=>(i,C x)) (by rw[Aq4];exact A) (by rw[Aq4];exact B) j;exact OpS.heap q
 case load t a=>obtain⟨j,rfl⟩:=DO h;exact OpS.val hr (yG hr (g a) j)
 case store t a x=>
  obtain⟨L,n,F⟩:=Option.map_eq_some_iff.1 (show(iJ P H t (ρ a) (ρ x)).map (Be,·)=some (r,H')from h);injection F with A B;subst A;subst B;obtain⟨v,q,D,E⟩:=Alc hr (g a) (g x) n;exact⟨v,undef,.inr ⟨by simp[execOp,q],rfl⟩,D,by simp only[Be,VR],E⟩
 case nilCheck x=>
  obtain⟨j,rfl⟩:=DO h;obtain⟨rfl,n⟩:=vJ (g x) j;refine⟨G,C x,.inl ?_,Evo.refl G,g x,hr⟩;rcases n with⟨a,n⟩ | ⟨f,a,b,n⟩<;>simp[execOp,n]
 case binOp op t x y u=>obtain⟨j,rfl⟩:=DO h;exact OpS.val hr (Akz (g x) (g y) j)
 case unOp op t x=>obtain⟨j,rfl⟩:=DO h;exact OpS.val hr (Ala (g x) j)
 case convert s d x=>
  unfold Ea at h;simp only at h;split at h
  ·rename_i q K;obtain⟨rfl,rfl⟩:=N0 h;exact OpS.val hr (yC hr (g x) K)
  ·split at h
   ·rename_i q K;obtain⟨rfl,rfl⟩:=N0 h;exact OpS.heap (Alt hr (g x) K)
   ·exact OpS.heap (Als hr (g x) h)
 case makeFunc fn f c=>
  obtain⟨rfl,rfl⟩:=N0 h;refine OpS.val hr ⟨.func fn (f.map C) (c.map C),rfl,?_⟩;simp only[VR];exact⟨_,_,rfl,by rw[Aq4];exact VRs.map_ops g f.toList,by rw[Aq4];exact VRs.map_ops g c.toList⟩
 case makeSlice t l c=>exact OpS.heap (Alf hr (g l) (g c) h)
 case slice t x lo hi mx=>obtain⟨j,rfl⟩:=DO h;exact OpS.val hr (Akt hr (g x) (VRo.map_ops g lo) (VRo.map_ops g hi) (VRo.map_ops g mx) j)
 case fieldAddr s x f=>obtain⟨j,rfl⟩:=DO h;exact OpS.val hr (rG (g x) j)
 case field s x f=>obtain⟨j,rfl⟩:=DO h;exact OpS.val hr (Akr (g x) j)
 case indexAddr t x i=>obtain⟨j,rfl⟩:=DO h;exact OpS.val hr (rI (g x) (g i) j)
 case index t x i=>obtain⟨j,rfl⟩:=DO h;exact OpS.val hr (Aks (g x) (g i) j)
 case extract t i=>obtain⟨j,rfl⟩:=DO h;exact OpS.val hr (yF (g t) j)
 case makeMap t l=>exact OpS.heap (yH hr (VRo.map_ops g l) h)
 case lookup t x k co=>obtain⟨j,rfl⟩:=DO h;exact OpS.val hr (Alm hr (g x) (g k) j)
 case mapUpdate t m k x=>
  obtain⟨L,n,F⟩:=Option.map_eq_some_iff.1 (show(PY P H t (ρ m) (ρ k) (ρ x)).map (Be,·)=some (r,H')from h);injection F with A B;subst A;subst B;obtain⟨v,q,D,E⟩:=rJ hr (g m) (g k) (g x) n;exact⟨v,undef,.inr ⟨by simp[execOp,q],rfl⟩,D,by simp only[Be,VR],E⟩
 case mapEntry t m k=>exact OpS.heap (vI hr (g m) (g k) h)
 case entryStore t m s x=>
  obtain⟨L,n,F⟩:=Option.map_eq_some_iff.1 (show(N4 H (ρ m) (ρ s) (ρ x)).map (Be,·)=some (r,H')from h);injection F with A B;subst A;subst B;obtain⟨v,q,D,E⟩:=nQ (P:=P) (t:=t) hr (g m) (g s) (g x) n;exact⟨v,undef,.inr ⟨by simp[execOp,q],rfl⟩,D,by simp only[Be,VR],E⟩
 case call c=>
  obtain⟨N,args,M⟩:=c;cases N
  case builtin b=>
   obtain⟨args⟩:=args;have O:Ce P H b M.toList (args.map ρ)=some (r,H'):=h;have q:=λcs=>xY (ty:=S) (cs:=cs) hr (VRs.map_ops g args) O;simp only[execOp,resolve,invoke,pure_bind,List.map_toArray];exact q _
  all_goals cases h
 all_goals cases h
end
end
section
section
variable {P : Program}
abbrev AQ:=Exit->List AV->AH->Prop
def ACalls (P:Program)(f:FuncId)(args:List AV)(H:AH)(R:AV->AH->Prop):Prop:=∀(G:Cfg) (b:List Value),HR G H->VRs G args b-> Calls P f b.toArray G.w λe c=>∃(r:AV) (H':AH) (a:Cfg) (v:Value),e=.returned v/\a.w=c/\Evo G a/\VR a r v/\HR a H'/\R r H'
abbrev FW (ρ:Option Nat):Fence:={Fence.wide with round:=ρ}
abbrev Aao:=Option Nat×Nat
abbrev Abx (D:Nat):Deferred:={target:=.collected D,args:=#[]}
structure DF (G:Cfg)(ρ:Aao)(a:Act):Prop where
 defs:∃Ds:List Nat,a.defers=Ds.map Abx/\Ds.Nodup/\∀D∈Ds,ρ.2<=D/\¬G.L D/\G.w.heap[D]?=some (.deferred (some []))
 round:∀l,ρ.1=some l->∃r,G.w.heap[l]?=some (.loop r)/\¬G.L l
 lb:ρ.2<=G.w.heap.size
theorem eU {G G':Cfg}(a:Evo G G'){k:Nat}{x:Obj}(h:G.w.heap[k]?=some x)(b:¬G.L k):G'.w.heap[k]?=some x/\¬G'.L k:=by
 obtain⟨e,l⟩:=a.keep k (Array.getElem?_eq_some_iff.1 h).1 b;exact⟨by rw[e];exact h,l⟩
theorem DF.evo {G G':Cfg}{ρ:Aao}{a a':Act}(h:DF G ρ a)(d:Evo G G')(n:a'.defers=a.defers):DF G' ρ a':=by
 obtain⟨⟨e,b,c,k⟩,hr,p⟩:=h;refine⟨⟨e,by rw[n,b],c,λD m=>?_⟩,λl o=>?_,Al1 p d.size⟩
 ·obtain⟨f,a2,g⟩:=k D m;obtain⟨i,j⟩:=eU d g a2;exact⟨f,j,i⟩
 ·obtain⟨r,b,c⟩:=hr l o;exact⟨r,eU d b c⟩
theorem DF.put {G:Cfg}{ρ:Aao}{a:Act}(h:DF G ρ a)(d:Option Tmp)(v:Value):DF G ρ (a.put d v):=by
 refine⟨?_,h.round,h.lb⟩;cases d<;>exact h.defs
def sJ (G:Cfg)(ρ:Aao)(Q:AQ):Exit->Act->World->Prop:=λe a w=>∃(T:List AV) (H:AH) (b:Cfg),b.w=w/\Evo G b/\FR b T a/\DF b ρ a/\HR b H/\Q e T H
def ACode (P:Program)(c:Code)(Q:AQ)(T:List AV)(H:AH):Prop:=∀(G0 G:Cfg) (a:Act) (ρ:Aao),Evo G0 G->FR G T a->DF G ρ a->HR G H->c.wpIn (FW ρ.1) 0 P (sJ G0 ρ Q) a G.w
def AOps (P:Program)(ops:Array Oper)(Q:AQ)(l:List Oper)(T:List AV)(H:AH):Prop:=∀(G0 G:Cfg) (a:Act) (ρ:Aao),Evo G0 G->FR G T a->DF G ρ a->HR G H->wpListIn (FW ρ.1) 0 P ops (sJ G0 ρ Q) l a G.w
theorem ACalls.mono {f:FuncId}{args:List AV}{H:AH}{R R':AV->AH->Prop}(h:ACalls P f args H R)(hr:∀r H',R r H'->R' r H'):ACalls P f args H R':=
 λG j g i=>(h G j g i).mono fun e w' ⟨r,H',G',v,a,b,c,d,e',q⟩=>⟨r,H',G',v,a,b,c,d,e',hr _ _ q⟩
theorem ACode.mono {c:Code}{Q b:AQ}{T:List AV}{H:AH}(h:ACode P c Q T H)(j:∀e T H,Q e T H->b e T H):ACode P c b T H:=
 λG0 G a ρ d f i g=>Code.wpIn_mono (fun e a w ⟨T,H,G',a1,a2,a3,a4,a5,a6⟩=>⟨T,H,G',a1,a2,a3,a4,a5,j _ _ _ a6⟩) (h G0 G a ρ d f i g)
theorem UB {Q:AQ}{e:Exit}{T:List AV}{H:AH}(h:Q e T H){G0 G:Cfg}{a:Act}{ρ:Aao}(b:Evo G0 G)(c:FR G T a)(f:DF G ρ a)(d:HR G H):sJ G0 ρ Q e a G.w:=⟨T,H,G,rfl,b,c,f,d,h⟩
theorem ACode.skip {Q:AQ}{T:List AV}{H:AH}(h:Q .normal T H):ACode P .skip Q T H:=λG0 G a ρ b c e d=>wpIn_skip (UB h b c e d)
theorem ACode.label {l:Nat}{Q:AQ}{T:List AV}{H:AH}(h:Q .normal T H):ACode P (.label l) Q T H:=λG0 G a ρ b c e d=>wpIn_label (UB h b c e d)
theorem ACode.exit {id:Nat}{Q:AQ}{T:List AV}{H:AH}(h:Q (.exit id) T H):ACode P (.exit id) Q T H:=λG0 G a ρ b c e d=>wpIn_exit (UB h b c e d)
theorem ACode.ret {Q:AQ}{T:List AV}{H:AH}(h:Q .ret T H):ACode P .ret Q T H:=λG0 G a ρ b c e d=>wpIn_ret (UB h b c e d)
def AQ.then (next:List AV->AH->Prop)(Q:AQ):AQ
 | .normal,T,H=>next T H
 | e,T,H=>Q e T H
theorem ACode.seq {x y:Code}{Q:AQ}{T:List AV}{H:AH}(h:ACode P x (AQ.then (ACode P y Q) Q) T H):ACode P (.seq x y) Q T H:=by
 intro G0 G a ρ l m o n;refine wpIn_seq (Code.wpIn_mono ?_ (h G0 G a ρ l m o n));rintro e k p ⟨j,H',b,rfl,c,d,g,f,i⟩;cases e with
 | normal=>exact i G0 b k ρ c d g f
 | _=>exact⟨j,H',b,rfl,c,d,g,f,i⟩
theorem ACode.cond {c:Operand}{x y:Code}{Q:AQ}{T:List AV}{H:AH}{b:Bool}(g:Cf T c=.lit (.bool b))(h:ACode P (if b then x else y) Q T H):ACode P (.cond c x y) Q T H:=by
 intro G0 G a ρ e d i f;have:=d.eval c;rw[g]at this;simp only[VR]at this;exact wpIn_cond this (h G0 G a ρ e d i f)
def AQ.inBlock (id:Nat)(Q:AQ):AQ
 | .exit id',T,H=>if id'=id then Q .normal T H else Q (.exit id') T H
 | e,T,H=>Q e T H
theorem ACode.block {id:Nat}{c:Code}{Q:AQ}{T:List AV}{H:AH}(h:ACode P c (Q.inBlock id) T H):ACode P (.block id c) Q T H:=by
 intro G0 G a ρ m n p o;refine wpIn_block (Code.wpIn_mono ?_ (h G0 G a ρ m n p o));rintro e q r ⟨f,H',d,rfl,g,i,k,j,b⟩;cases e with
 | exit id'=>
  simp only[AQ.inBlock]at b;simp only[Exit.inBlock];split
  ·rename_i l;rw[if_pos l]at b;exact⟨f,H',d,rfl,g,i,k,j,b⟩
  ·rename_i l;rw[if_neg l]at b;exact⟨f,H',d,rfl,g,i,k,j,b⟩
 | _=>exact⟨f,H',d,rfl,g,i,k,j,b⟩
theorem ACode.region {id:Nat}{ops:Array Oper}{Q:AQ}{T:List AV}{H:AH}(h:AOps P ops Q ops.toList T H):ACode P (.region id ops false) Q T H:=
 λG0 G a ρ b c e d=>wpIn_region_list (h G0 G a ρ b c e d)
theorem AOps.nil {ops:Array Oper}{Q:AQ}{T:List AV}{H:AH}(h:Q .normal T H):AOps P ops Q [] T H:=λG0 G a ρ b c e d=>UB h b c e d
def iK (ops:Array Oper)(T:List AV)(j:Nat):Option (Option Bool):=
 match (ops[j]?).bind (·.dst)with
 | some d=>match T[d]? with
  | some (.lit (.bool b))=>some (some b)
  | some (.lit _)=>some none
  | _=>none
 | none=>none
theorem Alu {G:Cfg}{ops:Array Oper}{T:List AV}{a:Act}(g:FR G T a){j:Nat}{b:Option Bool}(h:iK ops T j=some b):yielded ops a.tmps j=b:=by
 unfold iK at h;unfold yielded;split at h
 ·rename_i d i;rw[i];split at h
  ·rename_i l f;injection h with h;subst h;obtain⟨v,c,e⟩:=VRs.get g f;simp only[VR]at e;subst e;simp only[Am1]at c;simp[c]
  ·rename_i m k f
   injection h with h;subst h;obtain⟨v,c,e⟩:=VRs.get g f;simp only[VR]at e;subst e;simp only[Am1]at c;cases v<;>first
    | (simp[c];done)
    | exact absurd rfl (k _)
  ·cases h
 ·cases h
def C0 (ops:Array Oper)(T:List AV)(o:Oper):Option Bool:=
 match o.guard with
 | none=>some true
 | some (j,want)=>(iK ops T j).map (·==some want)
theorem Nf {G:Cfg}{ops:Array Oper}{T:List AV}{a:Act}(e:FR G T a){o:Oper}{b:Bool}(h:C0 ops T o=some b):Region.wanted o (yielded ops a.tmps)=b:=by
 unfold C0 at h;unfold Region.wanted;split at h
 ·rename_i d;injection h with h;rw[d];exact h
 ·rename_i j g d;rw[d];show(yielded ops a.tmps j==some g)=b;obtain⟨c,f,rfl⟩:=Option.map_eq_some_iff.1 h;rw[Alu e f]
theorem kF {ρ:Operand->AV}{H H':AH}{o:Oper}{r:AV}(h:Ea P ρ H o=some (r,H'))(c:Call):o.op≠.defer c:=by
 intro a;simp[Ea,a]at h
theorem oB (ρ:Option Nat){n:Nat}{f:FuncId}{args:Array Value}{w:World}{R:Ending->World->Prop}(h:Calls P f args w R):CallsIn (FW ρ) n P f args w R:=by
 cases ρ with
 | none=>exact callsIn_wide.2 h
 | some l=>exact CallsIn.inRound l (callsIn_wide.2 h)
theorem AOps.op {ops:Array Oper}{Q:AQ}{o:Oper}{e:List Oper}{T:List AV}{H H':AH}{r:AV}(m:C0 ops T o=some true)(h:Ea P (Cf T) H o=some (r,H'))(hr:AOps P ops Q e (EL T o.dst r) H'):
  AOps P ops Q (o::e) T H:=by
 intro G0 G a ρ g d l j;unfold wpListIn;rw[if_pos (Nf d m)];refine⟨λ_ _=>trivial,?_⟩;obtain⟨f,u,b,c,n,k⟩:=Afo j (λx=>d.eval x) h;have i:=(FR.evo c d).put o.dst n;have q:=hr G0 f (a.put o.dst u) ρ (g.trans c) i ((l.evo c rfl).put _ _) k;rw[Oper.semAt_eq _ _ _ (kF h)];rcases b with b | ⟨b,rfl⟩<;>rw[b]<;>exact q
theorem AOps.unwanted {ops:Array Oper}{Q:AQ}{o:Oper}{c:List Oper}{T:List AV}{H:AH}(g:C0 ops T o=some false)(hr:AOps P ops Q c (EL T o.dst Be) H):AOps P ops Q (o::c) T H:=by
 intro G0 G a ρ d b f e;unfold wpListIn;rw[if_neg (by rw[Nf b g];simp)];exact⟨λ_ _=>trivial,hr G0 G _ ρ d (b.put o.dst (by simp only[Be,VR])) (f.put _ _) e⟩
def Gv (ρ:Operand->AV)(o:Oper):Option (FuncId×List AV):=
 match o.op with
 | .call {callee:=.value f,args,argTypes:=_}=>match ρ f with
  | .fn (.func k) first cap=>some (k,first++args.toList.map ρ++cap)
  | _=>none
 | _=>none
def Ch (P:Program)(k:FuncId):Bool:=
 match P.funcs[k]? with
 | some fn => fn.body.isSome && !(fn.name == "runtime.NumGoroutine")
 | none=>false
abbrev Ad6:=And.intro @Bool.and_eq_true @Bool.not_eq_true'
theorem yB {G:Cfg}{ρ:Operand->AV}{ρc:Operand->Value}(hf:∀x,VR G (ρ x) (ρc x)){o:Oper}{k:FuncId}{args:List AV}(h:Gv ρ o=some (k,args))(hk:Ch P k=true)(w:World):
  ∃vs:List Value,VRs G args vs/\(execOp ρc o).run P w=.ok (.enter k vs.toArray) w:=by
 obtain⟨dst,op,type,pos,after,guard⟩:=o;unfold Gv at h;split at h
 ·rename_i f args' ats hop;simp only at hop;subst hop;split at h
  ·rename_i k' first cap hfn
   injection h with h;injection h with h1 h2;subst h1;subst h2;have hv:=hf f;rw[hfn]at hv;simp only[VR]at hv;obtain⟨va,vb,hv,ha,hb⟩:=hv;have hm:=VRs.map_ops hf args'.toList;refine⟨va.toList++args'.toList.map ρc++vb.toList,(ha.append hm).append hb,?_⟩;unfold Ch at hk;split at hk
   ·rename_i fn hfn';simp only[Ad6]at hk;obtain⟨b,hbody⟩:=Option.isSome_iff_exists.1 hk.1;have he:(va.toList++args'.toList.map ρc++vb.toList).toArray=va++args'.map ρc++vb:=by apply Array.ext';simp
    rw [he];have hne : ¬ fn.name = "runtime.NumGoroutine" := by have := hk.2; simpa using this
    simp[execOp,resolve,hv,Deferred.ofValue,invoke,callFunc,hfn',hne,hbody]
   ·cases hk
  ·cases h
 ·cases h
theorem Tw {ρ:Operand->AV}{o:Oper}{k:FuncId}{args:List AV}(h:Gv ρ o=some (k,args))(c:Call):o.op≠.defer c:=by
 intro a;simp[Gv,a]at h
theorem AOps.call {ops:Array Oper}{Q:AQ}{o:Oper}{d:List Oper}{T:List AV}{H:AH}{k:FuncId}{args:List AV}(u:C0 ops T o=some true)(h:Gv (Cf T) o=some (k,args))(n:Ch P k=true)
  (l:ACalls P k args H λr H'=>AOps P ops Q d (EL T o.dst r) H'):AOps P ops Q (o::d) T H:=by
 intro G0 G a ρ g c m i;unfold wpListIn;rw[if_pos (Nf c u)];obtain⟨z,t,s⟩:=yB (P:=P) (λx=>c.eval x) h n G.w;refine⟨λ_ _=>trivial,?_⟩;rw[Oper.semAt_eq _ _ _ (Tw h),s];refine⟨λp=>(by simp[Fence.wide]at p),CallsIn.mono (oB ρ.1 (l G z i t)) ?_⟩;rintro e A ⟨r,H',f,v,rfl,rfl,b,y,j,q⟩;exact q G0 f _ ρ (g.trans b) ((FR.evo b c).put o.dst y) ((m.evo b rfl).put _ _) j
def iF (P:Program)(H:AH)(T:List AV):List ResultVar->Option (List AV)
 | []=>some []
 | .tmp t::r=>(iF P H T r).map (T.getD t Be::·)
 | .cell a t::r=>match kE P H t (T.getD a Be),iF P H T r with
  | some x,some xs=>some (x::xs)
  | _,_=>none
def tY:List AV->AV
 | [x]=>x
 | l=>.tup l
theorem Alv {G:Cfg}{H:AH}{t:TypeId}{a r:AV}{v:Value}(b:VR G a v)(h:kE P H t a=some r):∃c,v=.pointer (some c):=by
 unfold kE at h;split at h
 ·split at h
  ·simp only[VR]at b;exact⟨_,b.2⟩
  ·simp only[VR]at b;obtain⟨c,d,e,_⟩:=b;exact⟨_,e⟩
  ·cases h
 ·cases h
def Aby (tmps:Array Value):ResultVar->Sem Value
 | .tmp t=>pure (tmps.getD t undef)
 | .cell ad t=>do loadVar t (<- asAddr (tmps.getD ad undef))
theorem vL {G:Cfg}{H:AH}(hr:HR G H){T:List AV}{a:Act}(b:FR G T a):∀(l:List ResultVar) (xs:List AV),iF P H T l=some xs->
  ∃vs:List Value,VRs G xs vs/\(l.mapM (Aby a.tmps)).run P G.w=.ok vs G.w
 | [],xs,h=>by simp only[iF]at h;injection h with h;subst h;exact⟨[],.nil,by simp⟩
 | .tmp t::r,xs,h=>by simp only[iF]at h;obtain⟨g,f,rfl⟩:=Option.map_eq_some_iff.1 h;obtain⟨vs,e,c⟩:=vL hr b r g f;refine⟨a.tmps.getD t undef::vs,.cons (b.eval (.tmp t)) e,?_⟩;simp only[List.mapM_cons,Aby,Sem.run_bind,Sem.run_pure,Result.andThen_ok,c]
 | .cell ad t::r,xs,h=>by
  simp only[iF]at h;split at h
  ·rename_i x g k f;injection h with h;subst h;obtain⟨vs,e,c⟩:=vL hr b r g f;have i:VR G (T.getD ad Be) (a.tmps.getD ad undef):=b.eval (.tmp ad);obtain⟨p,j⟩:=Alv i k;obtain⟨u,d,m⟩:=yG (P:=P) hr i k;refine⟨u::vs,.cons m e,?_⟩;rw[j]at d;simp only[Instr.loadAt,Instr.sureAddr,Sem.run_bind,Sem.run_pure,Result.andThen_ok]at d;simp only[List.mapM_cons,Aby,Sem.run_bind,Sem.run_pure,Result.andThen_ok,j,asAddr,d,c]
  ·cases h
theorem qL {G:Cfg}{H:AH}(hr:HR G H){T:List AV}{a:Act}(i:FR G T a){fn:Func}{xs:List AV}(h:iF P H T fn.results.toList=some xs):
  ∃v,(results fn a.tmps).run P G.w=.ok v G.w/\VR G (tY xs) v:=by
 obtain⟨c,b,m⟩:=vL (P:=P) hr i _ _ h;refine⟨if h:c.toArray.size=1 then c.toArray[0]else .tuple c.toArray,?_,?_⟩
 ·unfold results;have d:∀(f:ResultVar->Sem Value),(∀x,f x=Aby a.tmps x)->(List.mapM f fn.results.toList).run P G.w=.ok c G.w:=λf j=>by rw[show f=Aby a.tmps from funext j];exact m
  rw[Array.mapM_eq_mapM_toList];simp only[Sem.run_bind,Sem.run_map];rw[d _ (by intro x;cases x<;>rfl)];simp only[Result.andThen_ok,Sem.run_pure]
 ·unfold tY;split
  ·rename_i x;simp only[VRs]at b;obtain⟨v,r,rfl,n,rfl⟩:=b;simpa using n
  ·rename_i l;have k:=b.length;rw[dif_neg]
   ·simp only[VR];exact⟨_,rfl,by simpa using b⟩
   ·intro e;have g:xs.length=1:=by rw[k];simpa using e
    match xs,g with
    | [x],_=>exact l x rfl
abbrev Ar7:=@List.nodup_cons
theorem eV {fn:Func}{tmps:Array Value}{R:Ending->World->Prop}{G0:Cfg}{T:List AV}{H:AH}(K:∀G:Cfg,Evo G0 G->FR G T {tmps,defers:=[]}->HR G H->LeavesIn Fence.wide 0 P fn tmps R [] .returning G.w):
  ∀(a:List Nat) (G:Cfg),Evo G0 G->FR G T {tmps,defers:=[]}->HR G H->a.Nodup->(∀D∈a,G0.w.heap.size<=D/\¬G.L D/\G.w.heap[D]?=some (.deferred (some [])))->
   LeavesInM Fence.wide 0 P fn tmps R (a.map Abx) .returning G.w
 | [],G,hE,hF,hH,_,_=>K G hE hF hH
 | D::a,G,hE,hF,hH,hn,hD=>by
  obtain⟨x,p,b⟩:=hD D (.head _);obtain⟨t,s⟩:=Ar7.1 hn;refine⟨by simp,.inl ⟨D,_,rfl,run_takeDeferred b,?_⟩⟩;have g:∀c e f,Obj.deferred (some [])≠.cells c e f:=by intro c e f h;cases h
  refine eV K a (G.put D (.deferred none)) ?_ (VRs.tr (Tr.put b g _) hF) (hH.putO (fun o z u (e:(G.μ o).1=D)=>p (by have:=hH.live o z u;rwa[e]at this)) b g _) s λi d=>?_
  ·refine⟨hE.os,hE.tape,hE.output,?_,λk r q=>?_,hE.n,hE.μ,hE.K⟩
   ·simp only[Cfg.put,World.putObj];simpa using hE.size
   ·obtain⟨m,v⟩:=hE.keep k r q;refine⟨?_,v⟩;simp only[Cfg.put];rw[World.putObj_heap_other (by omega)];exact m
  ·obtain⟨j,a2,l⟩:=hD i (.tail _ d);refine⟨j,a2,?_⟩;simp only[Cfg.put];rw[World.putObj_heap_other (λe=>t (by rw[<- e];exact d))];exact l
abbrev Ai1:=And.intro @Array.toList_append.{0} @Array.toList_replicate.{0}
abbrev Aw0:=@List.nodup_nil
theorem ACalls.of_body {f:FuncId}{fn:Func}{c:Code}{args:List AV}{H:AH}{R:AV->AH->Prop}(D:P.funcs[f]?=some fn)(A:fn.body=some c)
  (h:ACode P c (λe T H'=>(e=.normal\/e=.ret)/\∃xs,iF P H' T fn.results.toList=some xs/\R (tY xs) H') (args++List.replicate (fn.ntmps - args.length) Be) H):ACalls P f args H R:=by
 intro G j x i;refine callsIn_wide.1 (callsIn_of_wp_marks (n:=0) D A trivial ?_ rfl);have E:=i.length;have s:FR G (args++List.replicate (fn.ntmps - args.length) Be) {tmps:=j.toArray++Array.replicate (fn.ntmps - j.toArray.size) undef,defers:=[]}:=by unfold FR;simp only[Ai1,List.size_toArray];rw[E];exact i.append (VRs.replicate (by simp only[Be,VR]) _)
 refine Code.wpIn_mono ?_ (h G G _ (none,G.w.heap.size) (Evo.refl G) s ⟨⟨[],rfl,Aw0,λ_ h=>(by cases h)⟩,λ_ h=>(by cases h),Aj7 _⟩ x);rintro e a w ⟨L,H',b,rfl,p,t,B,y,C,xs,J,z⟩;obtain⟨⟨k,m,o,d⟩,-,-⟩:=B;simp only at d;have:LeavesInM Fence.wide 0 P fn a.tmps (λe K=>∃(r:AV) (H':AH) (b:Cfg) (v:Value),e=.returned v/\b.w=K/\Evo G b/\VR b r v/\HR b H'/\R r H') a.defers .returning b.w:=by rw[m];refine eV (G0:=G) (λl q u g=>?_) k b p t y o d;obtain⟨v,F,I⟩:=qL (P:=P) g u J;exact⟨v,F,_,H',l,v,rfl,rfl,q,I,g,z⟩
 rcases C with rfl | rfl<;>exact this
end
end
end Go.Proofs.YtbppnhenlboefaaGreat.Av
