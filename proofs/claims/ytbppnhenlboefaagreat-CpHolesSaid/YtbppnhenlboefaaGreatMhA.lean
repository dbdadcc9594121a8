/- Texts of this proof, one behind the other, packed into one file by a program of this session. No condition. -/
import Derived.Below
import Derived.Deep.AppendSrc
import Derived.Laws.BytesString
import Derived.Laws.Cells
import Derived.Laws.CopyRow
import Derived.Laws.IdiomStrings
import Derived.Laws.MakeOwn
import Derived.Laws.StructEq
import Derived.Lib.AppendZerosOnto
import Derived.MapKept
import Derived.Orders
import Derived.RangeFuncCalls
import Derived.RangeFuncLeaves
import Derived.RangeFuncRecord
import Derived.Tactics
import Derived.TacticsIn
set_option linter.unusedVariables false
set_option linter.unusedSimpArgs false
namespace Go.Proofs.YtbppnhenlboefaaGreat.Av
open Go Go.RowKit
section
theorem BD {α:Type _}{l:List α}{i:Nat}{a:α}:l[i]?=some a↔∃h:i<l.length,l[i]=a:=List.getElem?_eq_some_iff
theorem C4 {α:Type _}{l:List α}{i j:Nat}(h:i≠j){a:α}:(l.set i a)[j]?=l[j]?:=List.getElem?_set_ne h
theorem JW {α:Type _}{l:List α}{i:Nat}(h:i<l.length){a:α}:(l.set i a)[i]?=some a:=List.getElem?_set_self h
theorem Eb {α:Type _}{a:α}{as:List α}{i:Nat}:(a::as)[i+1]?=as[i]?:=List.getElem?_cons_succ
theorem CL {α:Type _}{a:α}{as:List α}:(a::as)[0]?=some a:=List.getElem?_cons_zero
theorem DR {α:Type _}{l:List α}{i:Nat}(h:i<l.length):l[i]?=some l[i]:=List.getElem?_eq_getElem h
theorem CA (h:Decidable True): @decide True h=true:=decide_eq_true trivial
theorem C9 (h:Decidable False): @decide False h=false:=decide_eq_false id
inductive Room where
 | ex (k:Nat)
 | ge (k:Nat)
 deriving DecidableEq,Inhabited
def Room.least:Room→Nat
 | .ex k=>k
 | .ge k=>k
inductive AV where
 | lit (v:Value)
 | ptr (o off:Nat)
 | ip (cs:List AV)
 | sl (o off len esz:Nat) (cap:Room)
 | imm (cs:List AV) (len esz:Nat)
 | mp (o:Nat)
 | agg (cs:List AV)
 | tup (vs:List AV)
 | fn (f:Fn) (first captured:List AV)
 | emp
 | junk
 deriving Inhabited
inductive AObj where
 | cells (cs:List AV)
 | map (es:List (Value×AV))
abbrev AH:=List (Option AObj)
structure Cfg where
 w:World
 n:Nat
 μ:Nat→Nat×Nat×Nat
 L:Nat→Prop
 K:Nat→Prop
def Has (G:Cfg)(ad:Addr)(vs:List Value):Prop:=
 vs=[]∨(¬(G.L ad.block∨G.K ad.block)∧∀i v,vs[i]?=some v→G.w.cell? (ad.add i)=some v∧v.oneCell'=true)
def SlAt (m:Nat×Nat×Nat)(off esz:Nat)(cap:Room)(a:Addr)(c:Nat):Prop:=
 match cap with
 | .ex k=>c=k∧(k=0∨(a=⟨m.1,m.2.1+off,none⟩∧off+k*esz≤m.2.2))
 | .ge k=>k≤c∧(c=0∨(a=⟨m.1,m.2.1+off,none⟩∧off+c*esz=m.2.2))
mutual
def VR (G:Cfg):AV→Value→Prop
 | .lit v,u=>u=v
 | .ptr o off,u=>o<G.n∧u=.pointer (some ⟨(G.μ o).1,(G.μ o).2.1+off,none⟩)
 | .ip cs,u=>∃ad vs,u=.pointer (some ad)∧Has G ad vs∧VRs G cs vs
 | .sl o off len esz cap,u=>o<G.n∧∃a c,u=.slice (some a) len c∧len≤c∧SlAt (G.μ o) off esz cap a c
 | .imm cs len esz,u=>∃ad c vs,u=.slice (some ad) len c∧len≤c∧Has G ad vs∧VRs G cs vs
 | .mp o,u=>o<G.n∧u=.map (some (G.μ o).1)
 | .agg cs,u=>∃vs,u=.agg vs∧VRs G cs vs.toList
 | .tup cs,u=>∃vs,u=.tuple vs∧VRs G cs vs.toList
 | .fn f a b,u=>∃va vb,u=.func f va vb∧VRs G a va.toList∧VRs G b vb.toList
 | .emp,u=>∃a,u=.slice (some a) 0 0
 | .junk,_=>True
def VRs (G:Cfg):List AV→List Value→Prop
 | [],vs=>vs=[]
 | a::as,vs=>∃v r,vs=v::r∧VR G a v∧VRs G as r
end
def OR (G:Cfg)(o:Nat):AObj→Prop
 | .cells cs=>∃c e vs,G.w.heap[(G.μ o).1]?=some (.cells c e (0,0))∧(G.μ o).2.1+(G.μ o).2.2≤c.size∧
   cs.length≤(G.μ o).2.2∧VRs G cs vs∧∀i v,vs[i]?=some v→c[(G.μ o).2.1+i]?=some v∧v.oneCell'=true
 | .map es=>∃ents,G.w.heap[(G.μ o).1]?=some (.map ents ents.size)∧VRs G (es.map Prod.snd) (ents.toList.map (·.val))∧ents.toList.map (·.key)=es.map Prod.fst∧
   ents.toList.map (·.born)=List.range es.length
structure HR (G:Cfg)(H:AH):Prop where
 n:G.n=H.length
 obj:∀(o:Nat) (x:AObj),H[o]?=some (some x)→OR G o x
 inj:∀(o o':Nat) (x x':AObj),H[o]?=some (some x)→H[o']?=some (some x')→(G.μ o).1=(G.μ o').1→o=o'
 live:∀(o:Nat) (x:AObj),H[o]?=some (some x)→G.L (G.μ o).1
 lt:∀b,G.L b∨G.K b→b<G.w.heap.size
 dis:∀b,G.L b→¬G.K b
structure Evo (G G':Cfg):Prop where
 os:G'.w.os=G.w.os
 tape:G'.w.tape=G.w.tape
 output:G'.w.output=G.w.output
 size:G.w.heap.size≤G'.w.heap.size
 keep:∀k,k<G.w.heap.size→¬G.L k→G'.w.heap[k]?=G.w.heap[k]?∧¬G'.L k
 n:G.n≤G'.n
 μ:∀o,o<G.n→G'.μ o=G.μ o
 K:G'.K=G.K
abbrev Ac2:=@Nat.le_refl
theorem Evo.refl (G:Cfg):Evo G G:=⟨rfl,rfl,rfl,Ac2 _,λ_ _ h=>⟨rfl,h⟩,Ac2 _,λ_ _=>rfl,rfl⟩
abbrev Ad8:=@Nat.le_trans
abbrev Af0:=@Nat.lt_of_lt_of_le
theorem Evo.trans {A B C:Cfg}(h:Evo A B)(k:Evo B C):Evo A C:=
  ⟨k.os.trans h.os,k.tape.trans h.tape,k.output.trans h.output,Ad8 h.size k.size,
   λi hi hL=>by
     obtain⟨e1,l1⟩:=h.keep i hi hL;obtain⟨e2,l2⟩:=k.keep i (Af0 hi h.size) l1;exact⟨e2.trans e1,l2⟩,
   Ad8 h.n k.n,λo ho=>(k.μ o (Af0 ho h.n)).trans (h.μ o ho),k.K.trans h.K⟩
theorem Rt (a:Addr)(i:Nat):(a.add i).block=a.block:=by unfold Addr.add;split<;>rfl
theorem Has.evo {G G':Cfg}(h:Evo G G'){ad:Addr}{vs:List Value}(hh:Has G ad vs):Has G' ad vs:=by
 rcases hh with rfl | ⟨hL,hc⟩
 ·exact .inl rfl
 ·cases vs with
  | nil=>exact .inl rfl
  | cons v r=>
   have hlt:ad.block<G.w.heap.size:=by
    have:=World.block_lt_of_cell? _ _ (hc 0 v rfl).1
    rwa[Rt]at this
   obtain⟨e,l⟩:=h.keep _ hlt λh=>hL (.inl h)
   refine .inr ⟨λhh=>hh.elim l λhk=>hL (.inr (by rw[← h.K];exact hk)),λi u hu=>?_⟩;obtain⟨this,h1⟩:=hc i u hu;refine⟨?_,h1⟩;unfold World.cell? at this⊢;rw[Rt]at this⊢;rw[e];exact this
structure Tr (G G':Cfg):Prop where
 n:G.n≤G'.n
 μ:∀o,o<G.n→G'.μ o=G.μ o
 has:∀ad vs,Has G ad vs→Has G' ad vs
theorem Evo.tr {G G':Cfg}(h:Evo G G'):Tr G G':=⟨h.n,h.μ,λ_ _ hh=>hh.evo h⟩
mutual
theorem VR.tr {G G':Cfg}(h:Tr G G'):∀{a:AV} {v:Value},VR G a v→VR G' a v
 | .lit _,_,hv=>by simpa only[VR]using hv
 | .ptr o off,v,hv=>by
  simp only[VR]at hv⊢;obtain⟨ho,e⟩:=hv;exact⟨Af0 ho h.n,by rw[h.μ o ho];exact e⟩
 | .ip cs,v,hv=>by
  simp only[VR]at hv⊢;obtain⟨ad,vs,e,hh,hr⟩:=hv;exact⟨ad,vs,e,h.has _ _ hh,VRs.tr h hr⟩
 | .sl o off len esz cap,v,hv=>by
  simp only[VR]at hv⊢;obtain⟨ho,e⟩:=hv;exact⟨Af0 ho h.n,by rw[h.μ o ho];exact e⟩
 | .imm cs len esz,v,hv=>by
  simp only[VR]at hv⊢;obtain⟨ad,c,vs,e,hl,hh,hr⟩:=hv;exact⟨ad,c,vs,e,hl,h.has _ _ hh,VRs.tr h hr⟩
 | .mp o,v,hv=>by
  simp only[VR]at hv⊢;obtain⟨ho,e⟩:=hv;exact⟨Af0 ho h.n,by rw[h.μ o ho];exact e⟩
 | .agg cs,v,hv=>by
  simp only[VR]at hv⊢;obtain⟨vs,e,hr⟩:=hv;exact⟨vs,e,VRs.tr h hr⟩
 | .tup cs,v,hv=>by
  simp only[VR]at hv⊢;obtain⟨vs,e,hr⟩:=hv;exact⟨vs,e,VRs.tr h hr⟩
 | .fn f a b,v,hv=>by
  simp only[VR]at hv⊢;obtain⟨va,vb,e,hr,hs⟩:=hv;exact⟨va,vb,e,VRs.tr h hr,VRs.tr h hs⟩
 | .emp,_,hv=>by simpa only[VR]using hv
 | .junk,_,_=>by simp only[VR]
theorem VRs.tr {G G':Cfg}(h:Tr G G'):∀{as:List AV} {vs:List Value},VRs G as vs→VRs G' as vs
 | [],_,hv=>by simpa only[VRs]using hv
 | a::as,vs,hv=>by
  simp only[VRs]at hv⊢;obtain⟨v,r,e,h1,h2⟩:=hv;exact⟨v,r,e,VR.tr h h1,VRs.tr h h2⟩
end
theorem VRs.evo {G G':Cfg}(h:Evo G G'){as:List AV}{vs:List Value}(hv:VRs G as vs):VRs G' as vs:=VRs.tr h.tr hv
mutual
def EI (m:Nat):AV→Prop
 | .lit _=>True
 | .ptr o _=>o<m
 | .ip cs=>CB m cs
 | .sl o _ _ _ _=>o<m
 | .imm cs _ _=>CB m cs
 | .mp o=>o<m
 | .agg cs=>CB m cs
 | .tup cs=>CB m cs
 | .fn _ a b=>CB m a∧CB m b
 | .emp=>True
 | .junk=>True
def CB (m:Nat):List AV→Prop
 | []=>True
 | a::as=>EI m a∧CB m as
end
mutual
theorem VR.bel {G:Cfg}:∀{a:AV} {v:Value},VR G a v→EI G.n a
 | .lit _,_,_=>by simp only[EI]
 | .ptr o off,v,hv=>by simp only[VR]at hv;simp only[EI];exact hv.1
 | .ip cs,v,hv=>by simp only[VR]at hv;simp only[EI];obtain⟨_,_,_,_,h⟩:=hv;exact VRs.bel h
 | .sl o off len esz cap,v,hv=>by simp only[VR]at hv;simp only[EI];exact hv.1
 | .imm cs len esz,v,hv=>by simp only[VR]at hv;simp only[EI];obtain⟨_,_,_,_,_,_,h⟩:=hv;exact VRs.bel h
 | .mp o,v,hv=>by simp only[VR]at hv;simp only[EI];exact hv.1
 | .agg cs,v,hv=>by simp only[VR]at hv;simp only[EI];obtain⟨_,_,h⟩:=hv;exact VRs.bel h
 | .tup cs,v,hv=>by simp only[VR]at hv;simp only[EI];obtain⟨_,_,h⟩:=hv;exact VRs.bel h
 | .fn f a b,v,hv=>by simp only[VR]at hv;simp only[EI];obtain⟨_,_,_,h,k⟩:=hv;exact⟨VRs.bel h,VRs.bel k⟩
 | .emp,_,_=>by simp only[EI]
 | .junk,_,_=>by simp only[EI]
theorem VRs.bel {G:Cfg}:∀{as:List AV} {vs:List Value},VRs G as vs→CB G.n as
 | [],_,_=>by simp only[CB]
 | a::as,vs,hv=>by simp only[VRs]at hv;simp only[CB];obtain⟨_,_,_,h,k⟩:=hv;exact⟨VR.bel h,VRs.bel k⟩
end
mutual
theorem VR.low {G:Cfg}{m:Nat}:∀{a:AV} {v:Value},VR G a v→EI m a→VR {G with n:=m} a v
 | .lit _,_,hv,_=>by simpa only[VR]using hv
 | .ptr o off,v,hv,hb=>by simp only[VR]at hv⊢;simp only[EI]at hb;exact⟨hb,hv.2⟩
 | .ip cs,v,hv,hb=>by simp only[VR]at hv⊢;simp only[EI]at hb;obtain⟨x,y,z,t,h⟩:=hv;exact⟨x,y,z,t,VRs.low h hb⟩
 | .sl o off len esz cap,v,hv,hb=>by simp only[VR]at hv⊢;simp only[EI]at hb;exact⟨hb,hv.2⟩
 | .imm cs len esz,v,hv,hb=>by simp only[VR]at hv⊢;simp only[EI]at hb;obtain⟨x,y,z,t,u,s,h⟩:=hv;exact⟨x,y,z,t,u,s,VRs.low h hb⟩
 | .mp o,v,hv,hb=>by simp only[VR]at hv⊢;simp only[EI]at hb;exact⟨hb,hv.2⟩
 | .agg cs,v,hv,hb=>by simp only[VR]at hv⊢;simp only[EI]at hb;obtain⟨x,y,h⟩:=hv;exact⟨x,y,VRs.low h hb⟩
 | .tup cs,v,hv,hb=>by simp only[VR]at hv⊢;simp only[EI]at hb;obtain⟨x,y,h⟩:=hv;exact⟨x,y,VRs.low h hb⟩
 | .fn f a b,v,hv,hb=>by simp only[VR]at hv⊢;simp only[EI]at hb;obtain⟨x,y,z,h,k⟩:=hv;exact⟨x,y,z,VRs.low h hb.1,VRs.low k hb.2⟩
 | .emp,_,hv,_=>by simpa only[VR]using hv
 | .junk,_,_,_=>by simp only[VR]
theorem VRs.low {G:Cfg}{m:Nat}:∀{as:List AV} {vs:List Value},VRs G as vs→CB m as→VRs {G with n:=m} as vs
 | [],_,hv,_=>by simpa only[VRs]using hv
 | a::as,vs,hv,hb=>by simp only[VRs]at hv⊢;simp only[CB]at hb;obtain⟨x,y,z,h,k⟩:=hv;exact⟨x,y,z,VR.low h hb.1,VRs.low k hb.2⟩
end
section lists
variable {G : Cfg}
theorem VRs.length {as:List AV}{vs:List Value}(h:VRs G as vs):as.length=vs.length:=by
 induction as generalizing vs with
 | nil=>simp only[VRs]at h;simp[h]
 | cons a as ih=>
  simp only[VRs]at h;obtain⟨v,r,rfl,_,h2⟩:=h;simp[ih h2]
theorem VRs.nil:VRs G [] []:=by simp only[VRs]
theorem VRs.cons {a:AV}{v:Value}{as:List AV}{vs:List Value}(h:VR G a v)(hs:VRs G as vs):VRs G (a::as) (v::vs):=by
 simp only[VRs];exact⟨v,vs,rfl,h,hs⟩
theorem VRs.get {as:List AV}{vs:List Value}(h:VRs G as vs){i:Nat}{a:AV}(ha:as[i]?=some a):∃v,vs[i]?=some v∧VR G a v:=by
 induction as generalizing vs i with
 | nil=>simp at ha
 | cons b as ih=>
  simp only[VRs]at h;obtain⟨v,r,rfl,h1,h2⟩:=h;cases i with
  | zero=>simp at ha;subst ha;exact⟨v,rfl,h1⟩
  | succ i=>simp at ha;simpa using ih h2 ha
abbrev Ac8:=@List.getD_eq_getElem?_getD
theorem VRs.getD {as:List AV}{vs:List Value}(h:VRs G as vs)(i:Nat){a:AV}{v:Value}(hd:VR G a v):VR G (as.getD i a) (vs.getD i v):=by
 rw[Ac8,Ac8];cases ha:as[i]? with
 | none=>
  have:vs[i]?=none:=by rw[List.getElem?_eq_none_iff]at ha⊢;rw[← h.length];exact ha
  rw[this];exact hd
 | some x=>obtain⟨u,hu,hx⟩:=h.get ha;rw[hu];exact hx
theorem VRs.of_get {as:List AV}{vs:List Value}(hl:as.length=vs.length)(h:∀(i:Nat) (a:AV) (v:Value),as[i]?=some a→vs[i]?=some v→VR G a v):VRs G as vs:=by
 induction as generalizing vs with
 | nil=>cases vs with
  | nil=>exact .nil
  | cons _ _=>simp at hl
 | cons a as ih=>cases vs with
  | nil=>simp at hl
  | cons v vs=>exact .cons (h 0 a v rfl rfl) (ih (by simpa using hl) fun i b u (hb:as[i]?=some b) (hu:vs[i]?=some u)=>h (i+1) b u hb hu)
theorem VRs.set {as:List AV}{vs:List Value}(h:VRs G as vs)(i:Nat){a:AV}{v:Value}(ha:VR G a v):VRs G (as.set i a) (vs.set i v):=by
 induction as generalizing vs i with
 | nil=>simp only[VRs]at h;subst h;exact .nil
 | cons b as ih=>
  simp only[VRs]at h;obtain⟨u,r,rfl,h1,h2⟩:=h;cases i with
  | zero=>exact .cons ha h2
  | succ i=>exact .cons h1 (ih h2 i)
theorem VRs.append {as bs:List AV}{vs us:List Value}(h:VRs G as vs)(k:VRs G bs us):VRs G (as++bs) (vs++us):=by
 induction as generalizing vs with
 | nil=>simp only[VRs]at h;subst h;exact k
 | cons b as ih=>
  simp only[VRs]at h;obtain⟨u,r,rfl,h1,h2⟩:=h;exact .cons h1 (ih h2)
theorem VRs.take {as:List AV}{vs:List Value}(h:VRs G as vs)(n:Nat):VRs G (as.take n) (vs.take n):=by
 induction as generalizing vs n with
 | nil=>simp only[VRs]at h;subst h;cases n<;>exact .nil
 | cons b as ih=>
  simp only[VRs]at h;obtain⟨u,r,rfl,h1,h2⟩:=h;cases n with
  | zero=>exact .nil
  | succ n=>exact .cons h1 (ih h2 n)
theorem VRs.drop {as:List AV}{vs:List Value}(h:VRs G as vs)(n:Nat):VRs G (as.drop n) (vs.drop n):=by
 induction as generalizing vs n with
 | nil=>simp only[VRs]at h;subst h;cases n<;>exact .nil
 | cons b as ih=>
  simp only[VRs]at h;obtain⟨u,r,rfl,h1,h2⟩:=h;cases n with
  | zero=>exact .cons h1 h2
  | succ n=>exact ih h2 n
theorem VRs.lits (vs:List Value):VRs G (vs.map .lit) vs:=by
 induction vs with
 | nil=>exact .nil
 | cons v vs ih=>exact .cons (by simp only[VR]) ih
theorem VRs.replicate {a:AV}{v:Value}(h:VR G a v)(n:Nat):VRs G (List.replicate n a) (List.replicate n v):=by
 induction n with
 | zero=>exact .nil
 | succ n ih=>exact .cons h ih
end lists
end
section
theorem OR.evo {G G':Cfg}(h:Evo G G'){o:Nat}(ho:o<G.n)(hb:G'.w.heap[(G.μ o).1]?=G.w.heap[(G.μ o).1]?){x:AObj}(hx:OR G o x):OR G' o x:=by
 cases x with
 | cells cs=>
  obtain⟨c,e,vs,h1,h2,h3,h4,h5⟩:=hx;refine⟨c,e,vs,?_,?_,?_,h4.evo h,?_⟩<;>rw[h.μ o ho]
  ·rw[hb];exact h1
  ·exact h2
  ·exact h3
  ·exact h5
 | map es=>
  obtain⟨ents,h1,h2,h3⟩:=hx;refine⟨ents,?_,h2.evo h,h3⟩;rw[h.μ o ho,hb];exact h1
theorem HR.lt_n {G:Cfg}{H:AH}(h:HR G H){o:Nat}{x:Option AObj}(ho:H[o]?=some x):o<G.n:=by
 rw[h.n];exact(BD.1 ho).1
abbrev Af4:=@Ne.symm
abbrev Ae1:=@List.length_set
theorem HR.update {G G':Cfg}{H:AH}(hr:HR G H)(hE:Evo G G')(hn:G'.n=G.n)(hL:G'.L=G.L){o:Nat}{x:AObj}(ho:H[o]?=some (some x))(y:AObj)
  (hother:∀k,k≠(G.μ o).1→G'.w.heap[k]?=G.w.heap[k]?) (hsz:G'.w.heap.size=G.w.heap.size) (hnew:OR G' o y):HR G' (H.set o (some y)):=by
 have hlt:=hr.lt_n ho;have hμ:∀(i:Nat) (z:AObj),H[i]?=some (some z)→G'.μ i=G.μ i:=λi z hi=>hE.μ i (hr.lt_n hi)
 have hget:∀(i:Nat) (z:AObj),(H.set o (some y))[i]?=some (some z)→(i=o∧z=y)∨(i≠o∧H[i]?=some (some z)):=by
  intro i z hi
  by_cases hio:i=o
  ·subst hio
   rw[JW (by rw[← hr.n];exact hlt)]at hi;exact .inl ⟨rfl,by simpa using hi.symm⟩
  ·rw[C4 (Af4 hio)]at hi
   exact .inr ⟨hio,hi⟩
 have old:∀(i:Nat) (z:AObj),(H.set o (some y))[i]?=some (some z)→∃z',H[i]?=some (some z'):=by
  intro i z hi;rcases hget i z hi with⟨rfl,rfl⟩ | ⟨_,h⟩
  ·exact⟨_,ho⟩
  ·exact⟨_,h⟩
 refine⟨by rw[hn,hr.n,Ae1],?_,?_,?_,?_,λb hb=>by rw[hE.K];exact hr.dis b (by rwa[hL]at hb)⟩
 ·intro i z hi
  rcases hget i z hi with⟨rfl,rfl⟩ | ⟨hio,h⟩
  ·exact hnew
  ·exact OR.evo hE (hr.lt_n h) (hother _ λhe=>hio (hr.inj _ _ _ _ h ho he)) (hr.obj i z h)
 ·intro i j z z' hi hj he
  obtain⟨a,ha⟩:=old i z hi;obtain⟨b,hb⟩:=old j z' hj;rw[hμ i a ha,hμ j b hb]at he;exact hr.inj _ _ _ _ ha hb he
 ·intro i z hi
  obtain⟨a,ha⟩:=old i z hi;rw[hμ i a ha,hL];exact hr.live _ _ ha
 ·intro b hb
  rw[hL,hE.K]at hb;rw[hsz];exact hr.lt b hb
abbrev Ag6:=@List.getElem?_set
theorem HR.kill {G:Cfg}{H:AH}(hr:HR G H)(o:Nat):HR G (H.set o none):=by
 have old:∀(i:Nat) (z:AObj),(H.set o none)[i]?=some (some z)→H[i]?=some (some z):=by
  intro i z hi
  by_cases hio:i=o
  ·subst hio
   rw[Ag6]at hi;simp at hi
  ·rwa[C4 (Af4 hio)]at hi
 exact⟨by rw[Ae1];exact hr.n,λi z hi=>hr.obj i z (old i z hi),λi j z z' hi hj he=>hr.inj _ _ _ _ (old _ _ hi) (old _ _ hj) he,
  λi z hi=>hr.live _ _ (old _ _ hi),hr.lt,hr.dis⟩
theorem Evo.drew (G:Cfg):Evo G {G with w:=G.w.drew}:=⟨rfl,rfl,rfl,Ac2 _,λ_ _ h=>⟨rfl,h⟩,Ac2 _,λ_ _=>rfl,rfl⟩
theorem HR.drew {G:Cfg}{H:AH}(hr:HR G H):HR {G with w:=G.w.drew} H:=
 ⟨hr.n,λo x ho=>OR.evo (Evo.drew G) (hr.lt_n ho) rfl (hr.obj o x ho),hr.inj,hr.live,hr.lt,hr.dis⟩
def Cfg.new (G:Cfg)(ob:Obj)(lim:Nat):Cfg:=
 {w:=G.w.alloc ob,n:=G.n+1,μ:=λi=>if i=G.n then(G.w.heap.size,0,lim)else G.μ i,L:=λb=>G.L b∨b=G.w.heap.size,K:=G.K}
theorem Evo.new (G:Cfg)(ob:Obj)(lim:Nat):Evo G (G.new ob lim):=
  ⟨rfl,rfl,rfl,by simp[Cfg.new],λk hk hL=>⟨Below.heap_alloc _ _ _ hk,by simp only[Cfg.new];intro h;rcases h with h | h;exact hL h;omega⟩,
   by simp[Cfg.new],(λo ho=>by simp only[Cfg.new];rw[if_neg (by omega)]),rfl⟩
abbrev Ac5:=@Nat.lt_or_ge
abbrev Ab9:=@List.getElem?_append_left
abbrev Ac4:=@List.getElem?_append_right
abbrev Ak2:=@Nat.eq_zero_or_pos
abbrev Ai3:=@List.getElem?_eq_none
theorem HR.new {G:Cfg}{H:AH}(hr:HR G H)(ob:Obj)(lim:Nat)(y:AObj)(hy:OR (G.new ob lim) H.length y):HR (G.new ob lim) (H++[some y]):=by
 have hE:=Evo.new G ob lim
 have hget:∀(i:Nat) (z:AObj),(H++[some y])[i]?=some (some z)→(i=H.length∧z=y)∨(i<H.length∧H[i]?=some (some z)):=by
  intro i z hi;rcases Ac5 i H.length with h | h
  ·rw[Ab9 h]at hi;exact .inr ⟨h,hi⟩
  ·rw[Ac4 h]at hi
   have:i - H.length=0:=by
    rcases Ak2 (i - H.length)with h0 | h0
    ·exact h0
    ·rw[Ai3 (by simp;omega)]at hi;cases hi
   rw[this]at hi;exact .inl ⟨by omega,by simpa using hi.symm⟩
 have hμo:∀i,i<H.length→(G.new ob lim).μ i=G.μ i:=λi hi=>hE.μ i (by rw[hr.n];exact hi)
 have hμn:(G.new ob lim).μ H.length=(G.w.heap.size,0,lim):=by simp[Cfg.new,hr.n]
 refine⟨by simp[Cfg.new,hr.n],?_,?_,?_,?_,λb hb hk=>?_⟩
 ·intro i z hi
  rcases hget i z hi with⟨rfl,rfl⟩ | ⟨hl,h⟩
  ·exact hy
  ·exact OR.evo hE (hr.lt_n h) (Below.heap_alloc _ _ _ (hr.lt _ (.inl (hr.live _ _ h)))) (hr.obj i z h)
 ·intro i j z z' hi hj he
  rcases hget i z hi with⟨rfl,rfl⟩ | ⟨hl,h⟩<;>rcases hget j z' hj with⟨rfl,rfl⟩ | ⟨hl',h'⟩
  ·rfl
  ·rw[hμn,hμo j hl']at he
   have:=hr.lt _ (.inl (hr.live _ _ h'))
   simp only at he;omega
  ·rw[hμn,hμo i hl]at he
   have:=hr.lt _ (.inl (hr.live _ _ h))
   simp only at he;omega
  ·rw[hμo i hl,hμo j hl']at he
   exact hr.inj _ _ _ _ h h' he
 ·intro i z hi
  rcases hget i z hi with⟨rfl,rfl⟩ | ⟨hl,h⟩
  ·rw[hμn];exact .inr rfl
  ·rw[hμo i hl];exact .inl (hr.live _ _ h)
 ·intro b hb
  rcases hb with(hb | hb) | hb
  ·have:=hr.lt b (.inl hb);simp[Cfg.new];omega
  ·simp[Cfg.new];omega
  ·have:=hr.lt b (.inr hb);simp[Cfg.new];omega
 ·rcases hb with hb | hb
  ·exact hr.dis b hb hk
  ·have:=hr.lt b (.inr hk);omega
theorem HR.newCells {G:Cfg}{H:AH}(hr:HR G H)(c:Array Value)(e:TypeId){as:List AV}{lim:Nat}(hl:lim≤c.size)(ha:as.length≤lim){vs:List Value}(h:VRs G as vs)
  (hv:∀(i:Nat) (v:Value),vs[i]?=some v→c[i]?=some v∧v.oneCell'=true):HR (G.new (.cells c e) lim) (H++[some (.cells as)]):=by
 refine hr.new _ _ _ ?_;have hμn:(G.new (.cells c e) lim).μ H.length=(G.w.heap.size,0,lim):=by simp[Cfg.new,hr.n]
 refine⟨c,e,vs,?_,?_,?_,h.evo (Evo.new _ _ _),?_⟩<;>rw[hμn]
 ·simpa[Cfg.new]using heap_alloc_new G.w (.cells c e)
 ·simpa using hl
 ·exact ha
 ·simpa using hv
def AObj.bel (m:Nat):AObj→Prop
 | .cells cs=>CB m cs
 | .map es=>CB m (es.map Prod.snd)
theorem OR.bel {G:Cfg}{o:Nat}{x:AObj}(h:OR G o x):x.bel G.n:=by
 cases x with
 | cells cs=>obtain⟨c,e,vs,h1,h2,h3,h4,h5⟩:=h;exact h4.bel
 | map es=>obtain⟨ents,h1,h2,h3⟩:=h;exact h2.bel
theorem HR.forget {G:Cfg}{H H':AH}(hr:HR G (H++H'))(hb:∀(o:Nat) (x:AObj),H[o]?=some (some x)→x.bel H.length):HR {G with n:=H.length} H:=by
 have old:∀(i:Nat) (z:AObj),H[i]?=some (some z)→(H++H')[i]?=some (some z):=λi z hi=>by
  rw[Ab9 (BD.1 hi).1];exact hi
 refine⟨rfl,λi z hi=>?_,λi j z z' hi hj he=>hr.inj _ _ _ _ (old _ _ hi) (old _ _ hj) he,λi z hi=>hr.live _ _ (old _ _ hi),hr.lt,hr.dis⟩;have h1:=hr.obj i z (old i z hi);have h2:=hb i z hi;cases z with
 | cells cs=>obtain⟨c,e,vs,a,b,d,f,g⟩:=h1;exact⟨c,e,vs,a,b,d,f.low h2,g⟩
 | map es=>obtain⟨ents,a,b,d⟩:=h1;exact⟨ents,a,b.low h2,d⟩
def Cfg.put (G:Cfg)(D:Nat)(x:Obj):Cfg:={G with w:=G.w.putObj D x}
theorem OR.tr {G G':Cfg}(h:Tr G G'){o:Nat}(ho:o<G.n)(hb:G'.w.heap[(G.μ o).1]?=G.w.heap[(G.μ o).1]?){x:AObj}(hx:OR G o x):OR G' o x:=by
 cases x with
 | cells cs=>
  obtain⟨c,e,vs,h1,h2,h3,h4,h5⟩:=hx;refine⟨c,e,vs,?_,?_,?_,h4.tr h,?_⟩<;>rw[h.μ o ho]
  ·rw[hb];exact h1
  ·exact h2
  ·exact h3
  ·exact h5
 | map es=>
  obtain⟨ents,h1,h2,h3⟩:=hx;refine⟨ents,?_,h2.tr h,h3⟩;rw[h.μ o ho,hb];exact h1
theorem Tr.put {G:Cfg}{D:Nat}{y:Obj}(hy:G.w.heap[D]?=some y)(hc:∀c e f,y≠.cells c e f)(x:Obj):Tr G (G.put D x):=by
 refine⟨Ac2 _,λ_ _=>rfl,λad vs hh=>?_⟩;rcases hh with rfl | ⟨hL,h1⟩
 ·exact .inl rfl
 ·cases vs with
  | nil=>exact .inl rfl
  | cons v r=>
   refine .inr ⟨hL,λi u hu=>?_⟩;obtain⟨h2,h3⟩:=h1 i u hu;refine⟨?_,h3⟩
   have hne:(ad.add i).block≠D:=by
    rintro e;unfold World.cell? at h2;rw[e,hy]at h2;cases y with
    | cells c e f=>exact hc c e f rfl
    | _=>simp at h2
   unfold World.cell? at h2⊢;simp only[Cfg.put];rw[World.putObj_heap_other hne];exact h2
theorem HR.putO {G:Cfg}{H:AH}(hr:HR G H){D:Nat}{y:Obj}(hL:∀(o:Nat) (z:AObj),H[o]?=some (some z)→(G.μ o).1≠D)(hy:G.w.heap[D]?=some y)(hc:∀c e f,y≠.cells c e f)(x:Obj):HR (G.put D x) H:=
 ⟨hr.n,λo z ho=>OR.tr (Tr.put hy hc x) (hr.lt_n ho) (World.putObj_heap_other (hL o z ho)) (hr.obj o z ho),hr.inj,hr.live,λb hb=>by
  have:=hr.lt b hb
  simp only[Cfg.put,World.putObj]
  simpa using this,hr.dis⟩
def AG:AV:=.lit undef
def AV.ofV:Value→AV
 | .agg cs=>.agg (cs.toList.map .lit)
 | v=>.lit v
theorem VR.ofV (G:Cfg)(v:Value):VR G (.ofV v) v:=by
 cases v<;>simp only[AV.ofV,VR];exact⟨_,rfl,.lits _⟩
def Bu (T:List AV):Operand→AV
 | .tmp t=>T.getD t AG
 | .const v=>.ofV v
 | .global g=>.lit (.pointer (some ⟨g,0,none⟩))
 | .func f=>.fn (.func f) [] []
def FR (G:Cfg)(T:List AV)(a:Act):Prop:=VRs G T a.tmps.toList
abbrev Ai7:=@Array.getD_eq_getD_getElem?
theorem FR.eval {G:Cfg}{T:List AV}{a:Act}(h:FR G T a)(x:Operand):VR G (Bu T x) (a.eval x):=by
 cases x with
 | tmp t=>
  simp only[Bu,Act.eval]
  have:=VRs.getD h t (a:=AG) (v:=undef) (by simp only[AG,VR])
  simpa[Ai7,Ac8]using this
 | const v=>exact .ofV G v
 | global g=>simp only[Bu,Act.eval,VR]
 | func f=>simp only[Bu,Act.eval,VR];exact⟨_,_,rfl,.nil,.nil⟩
def Dj (T:List AV):Option Tmp→AV→List AV
 | some d,v=>T.set d v
 | none,_=>T
abbrev Ak5:=@Array.toList_setIfInBounds
theorem FR.put {G:Cfg}{T:List AV}{a:Act}(h:FR G T a)(dst:Option Tmp){x:AV}{v:Value}(hx:VR G x v):FR G (Dj T dst x) (a.put dst v):=by
 cases dst with
 | none=>exact h
 | some d=>
  show VRs G _ (a.tmps.setIfInBounds d v).toList
  rw[Ak5];exact VRs.set h d hx
theorem FR.evo {G G':Cfg}{T:List AV}{a:Act}(hE:Evo G G')(h:FR G T a):FR G' T a:=VRs.evo hE h
def BW (P:Program)(t:TypeId):Option Nat:=(P.info? t).map (·.size)
def sY:TypeDesc→Bool
 | .struct _ | .array _ _=>true
 | _=>false
def TI (P:Program)(t:TypeId):Option Bool:=(P.underlying t).map sY
section
variable {P : Program} {G : Cfg} {w : World}
theorem Bz {t:TypeId}{n:Nat}(h:BW P t=some n):(sizeOf t).run P w=.ok n w:=by
 unfold BW at h;obtain⟨i,hi,rfl⟩:=Option.map_eq_some_iff.1 h;simp[sizeOf,typeInfo,hi]
theorem NZ {t:TypeId}{g:Bool}(h:TI P t=some g):(isAgg t).run P w=.ok g w:=by
 unfold TI at h;obtain⟨d,hd,rfl⟩:=Option.map_eq_some_iff.1 h;unfold isAgg;simp only[Sem.run_bind,run_underlying hd,Result.andThen_ok];cases d<;>rfl
def Ao (agg:Bool)(size:Nat)(cs:List AV)(off:Nat):Option AV:=
 if agg then(if off+size≤cs.length then some (.agg ((cs.drop off).take size))else none)else cs[off]?
abbrev Ag5:=@Nat.add_assoc
theorem add_add (a:Addr)(i j:Nat):(a.add i).add j=a.add (i+j):=by
 unfold Addr.add
 by_cases hi:i=0
 ·subst hi;simp
 ·by_cases hj:j=0
  ·subst hj;simp[hi]
  ·have:i+j≠0:=by omega
   simp[hi,hj,this,Ag5]
abbrev Ad1:=@List.getElem?_drop
theorem Has.shift {ad:Addr}{vs:List Value}(h:Has G ad vs)(k:Nat):Has G (ad.add k) (vs.drop k):=by
 rcases h with rfl | ⟨hL,hc⟩
 ·exact .inl (by simp)
 ·refine .inr ⟨by rw[Rt];exact hL,λi v hv=>?_⟩
  rw[add_add];rw[Ad1]at hv;exact hc _ _ hv
abbrev Ac9:=@List.getElem?_take
theorem Has.take {ad:Addr}{vs:List Value}(h:Has G ad vs)(k:Nat):Has G ad (vs.take k):=by
 rcases h with rfl | ⟨hL,hc⟩
 ·exact .inl (by simp)
 ·refine .inr ⟨hL,λi v hv=>?_⟩
  rw[Ac9]at hv;split at hv
  ·exact hc _ _ hv
  ·cases hv
abbrev An:=And.intro @Bool.false_eq_true @if_false.{1}
abbrev Ac0:=@List.length_take
abbrev Ac7:=@List.length_drop
theorem Tg {t:TypeId}{g:Bool}{n:Nat}(hg:TI P t=some g)(hn:BW P t=some n){ad:Addr}{vs:List Value}{cs:List AV}
  (hc:∀(i:Nat) (v:Value),vs[i]?=some v→w.cell? (ad.add i)=some v) (hv:VRs G cs vs) {off:Nat} {r:AV} (hr:Ao g n cs off=some r):
  ∃u,(loadVar t (ad.add off)).run P w=.ok u w∧VR G r u:=by
 unfold Ao at hr;cases g with
 | true=>
  simp only[if_true]at hr;split at hr
  ·rename_i hle
   injection hr with hr;subst hr;have hl:=hv.length;refine⟨.agg ((vs.drop off).take n).toArray,?_,?_⟩
   ·have h:=run_loadCells_list (P:=P) w (ad.add off) ((vs.drop off).take n) (λj v hj=>by
     rw[add_add];rw[Ac9]at hj;split at hj
     ·rw[Ad1]at hj;exact hc _ _ hj
     ·cases hj)
    rw[show((vs.drop off).take n).length=n by rw[Ac0,Ac7];omega]at h;simp only[loadVar,Sem.run_bind,NZ hg,Result.andThen_ok,if_true,Bz hn,h,Sem.run_pure]
   ·simp only[VR]
    exact⟨_,rfl,by simpa using(hv.drop off).take n⟩
  ·cases hr
 | false=>
  simp only[An]at hr;obtain⟨u,hu,hx⟩:=hv.get hr;refine⟨u,?_,hx⟩;simp only[loadVar,Sem.run_bind,NZ hg,Result.andThen_ok,An,run_load,hc _ _ hu]
theorem HR.cells {H:AH}(hr:HR G H){o:Nat}{cs:List AV}(ho:H[o]?=some (some (.cells cs))):
  ∃vs,VRs G cs vs∧∀(i:Nat) (v:Value),vs[i]?=some v→G.w.cell? ((⟨(G.μ o).1,(G.μ o).2.1,none⟩:Addr).add i)=some v∧v.oneCell'=true:=by
 obtain⟨c,e,vs,h1,h2,h3,h4,h5⟩:=hr.obj _ _ ho;refine⟨vs,h4,λi v hv=>?_⟩;obtain⟨this,h6⟩:=h5 i v hv;refine⟨?_,h6⟩;rw[Addr.add_lit];simp[World.cell?,h1,this]
def S7 (P:Program)(H:AH)(t:TypeId)(a:AV):Option AV:=
 match TI P t,BW P t with
 | some g,some n=>match a with
  | .ptr o off=>match H[o]? with
   | some (some (.cells cs))=>Ao g n cs off
   | _=>none
  | .ip cs=>Ao g n cs 0
  | _=>none
 | _,_=>none
theorem Yc {H:AH}(hr:HR G H){t:TypeId}{a r:AV}{v:Value}(hv:VR G a v)(h:S7 P H t a=some r):
  ∃u,(Instr.loadAt t v).run P G.w=.ok u G.w∧VR G r u:=by
 unfold S7 at h;split at h
 ·rename_i g n hg hn
  split at h
  ·rename_i o off
   split at h
   ·rename_i cs ho
    simp only[VR]at hv;obtain⟨_,rfl⟩:=hv;obtain⟨vs,h1,h2⟩:=hr.cells ho;obtain⟨u,hu,hx⟩:=Tg (w:=G.w) hg hn (λi v hv=>(h2 i v hv).1) h1 h;rw[Addr.add_lit]at hu;exact⟨u,by simpa[Instr.loadAt,Instr.sureAddr]using hu,hx⟩
   ·cases h
  ·rename_i cs
   simp only[VR]at hv;obtain⟨ad,vs,rfl,hh,hs⟩:=hv
   have hc:∀(i:Nat) (v:Value),vs[i]?=some v→G.w.cell? (ad.add i)=some v:=by
    rcases hh with rfl | ⟨_,hc⟩
    ·intro i v hv;simp at hv
    ·exact λi v hv=>(hc i v hv).1
   obtain⟨u,hu,hx⟩:=Tg (w:=G.w) hg hn hc hs h;rw[show ad.add 0=ad from rfl]at hu;exact⟨u,by simpa[Instr.loadAt,Instr.sureAddr]using hu,hx⟩
  ·cases h
 ·cases h
def Ug (P:Program)(s:TypeId)(f:Nat):Option Nat:=
 match P.underlying s with
 | some (.struct fields)=>match fields[f]? with
  | some fl=>match BW P fl.type with
   | some (_+1)=>some fl.offset
   | _=>none
  | none=>none
 | _=>none
def Ac (k:Nat):AV→Option AV
 | .ptr o off=>some (.ptr o (off+k))
 | .ip cs=>some (.ip (cs.drop k))
 | _=>none
theorem Wf {k:Nat}{a r:AV}{v:Value}(hv:VR G a v)(h:Ac k a=some r):∃ad:Addr,v=.pointer (some ad)∧VR G r (.pointer (some (ad.add k))):=by
 unfold Ac at h;split at h
 ·injection h with h
  subst h;simp only[VR]at hv⊢;obtain⟨ho,rfl⟩:=hv;exact⟨_,rfl,ho,by rw[Addr.add_lit,Ag5]⟩
 ·injection h with h
  subst h;simp only[VR]at hv⊢;obtain⟨ad,vs,rfl,hh,hs⟩:=hv;exact⟨_,rfl,_,_,rfl,hh.shift k,hs.drop k⟩
 ·cases h
def Lu (P:Program)(s:TypeId)(a:AV)(f:Nat):Option AV:=(Ug P s f).bind λk=>Ac k a
theorem V7 {s:TypeId}{f:Nat}{a r:AV}{v:Value}(hv:VR G a v)(h:Lu P s a f=some r):
  ∃u,(Instr.fieldAt s v f).run P w=.ok u w∧VR G r u:=by
 unfold Lu at h;obtain⟨k,hk,h⟩:=Option.bind_eq_some_iff.1 h;obtain⟨ad,rfl,hr⟩:=Wf hv h;refine⟨_,?_,hr⟩;unfold Ug at hk;split at hk
 ·rename_i fields hu
  split at hk
  ·rename_i fl hf
   split at hk
   ·rename_i m hm
    injection hk with hk;subst hk;simp[Instr.fieldAt,run_underlying hu,hf,Instr.sureAddr,fieldPlace,Bz hm]
   ·cases hk
  ·cases hk
 ·cases hk
def J8:AV→Option Int
 | .lit (.int _ n)=>some n
 | _=>none
theorem bR {a:AV}{v:Value}{n:Int}(hv:VR G a v)(h:J8 a=some n):∃k,v=.int k n:=by
 unfold J8 at h;split at h
 ·injection h with h;subst h;simp only[VR]at hv;exact⟨_,hv⟩
 ·cases h
def IU (P:Program)(t:TypeId)(x i:AV):Option AV:=
 match J8 i with
 | none=>none
 | some n=>match P.underlying t with
  | some (.slice e)=>match BW P e with
   | none=>none
   | some sz=>match x with
    | .sl o off len _ _=>if 0≤n∧n<len then some (.ptr o (off+n.toNat*sz))else none
    | .imm cs len _=>if 0≤n∧n<len then some (.ip (cs.drop (n.toNat*sz)))else none
    | _=>none
  | some (.array len e)=>match BW P e with
   | none=>none
   | some sz=>if 0≤n∧n<len then Ac (n.toNat*sz) x else none
  | _=>none
theorem V9 {t:TypeId}{x i r:AV}{v vi:Value}(hv:VR G x v)(hi:VR G i vi)(h:IU P t x i=some r):
  ∃u,(Instr.indexAt t v vi).run P w=.ok u w∧VR G r u:=by
 unfold IU at h;split at h
 ·cases h
 rename_i n hn;obtain⟨k,rfl⟩:=bR hi hn;split at h
 ·rename_i e hu
  split at h
  ·cases h
  rename_i sz hsz;split at h
  ·rename_i o off len esz cap
   split at h
   ·rename_i hb
    injection h with h;subst h;simp only[VR]at hv;obtain⟨ho,a,c,rfl,hlc,hat⟩:=hv
    have ha:a=⟨(G.μ o).1,(G.μ o).2.1+off,none⟩:=by
     unfold SlAt at hat;split at hat
     ·obtain⟨rfl,h0 | h0⟩:=hat
      ·omega
      ·exact h0.1
     ·rcases hat with⟨_,h0 | h0⟩
      ·omega
      ·exact h0.1
    subst ha;refine⟨.pointer (some ((⟨(G.μ o).1,(G.μ o).2.1+off,none⟩:Addr).add (n.toNat*sz))),?_,?_⟩
    ·simp[Instr.indexAt,asIntOf,run_underlying hu,hb,Bz hsz]
    ·simp only[VR,Addr.add_lit]
     exact⟨ho,by simp[Ag5]⟩
   ·cases h
  ·rename_i cs len esz
   split at h
   ·rename_i hb
    injection h with h;subst h;simp only[VR]at hv;obtain⟨ad,c,vs,rfl,hlc,hh,hs⟩:=hv;refine⟨.pointer (some (ad.add (n.toNat*sz))),?_,?_⟩
    ·simp[Instr.indexAt,asIntOf,run_underlying hu,hb,Bz hsz]
    ·simp only[VR]
     exact⟨_,_,rfl,hh.shift _,hs.drop _⟩
   ·cases h
  ·cases h
 ·rename_i len e hu
  split at h
  ·cases h
  rename_i sz hsz;split at h
  ·rename_i hb
   obtain⟨ad,rfl,hr⟩:=Wf hv h;exact⟨_,by simp[Instr.indexAt,asIntOf,run_underlying hu,hb,Bz hsz,Instr.sureAddr],hr⟩
  ·cases h
 ·cases h
def apart (P:Program)(t:TypeId)(x:AV)(off:Nat):Option AV:=
 match TI P t,BW P t,x with
 | some g,some n,.agg cs=>Ao g n cs off
 | _,_,_=>none
abbrev Al2:=@Nat.add_sub_cancel_left
theorem La {t:TypeId}{x r:AV}{v:Value}{off:Nat}(hv:VR G x v)(h:apart P t x off=some r):
  ∃vs u,v=.agg vs∧(part t vs off).run P w=.ok u w∧VR G r u:=by
 unfold apart at h;split at h
 ·rename_i g n cs hg hn
  simp only[VR]at hv;obtain⟨vs,rfl,hs⟩:=hv;unfold Ao at h;cases g with
  | true=>
   simp only[if_true]at h;split at h
   ·injection h with h
    subst h;refine⟨vs,.agg (vs.extract off (off+n)),rfl,?_,?_⟩
    ·simp[part,NZ hg,Bz hn]
    ·simp only[VR]
     refine⟨_,rfl,?_⟩;rw[Array.toList_extract,List.extract_eq_take_drop,Al2];exact(hs.drop off).take n
   ·cases h
  | false=>
   simp only[An]at h;obtain⟨u,hu,hx⟩:=hs.get h;refine⟨vs,u,rfl,?_,hx⟩;have hu':vs[off]?=some u:=by simpa using hu
   simp[part,NZ hg,hu']
 ·cases h
def Uf (P:Program)(s:TypeId)(x:AV)(f:Nat):Option AV:=
 match P.underlying s with
 | some (.struct fields)=>match fields[f]? with
  | some fl=>apart P fl.type x fl.offset
  | none=>none
 | _=>none
theorem eG {s:TypeId}{f:Nat}{x r:AV}{v:Value}(hv:VR G x v)(h:Uf P s x f=some r):
  ∃u,(Instr.field s v f).run P w=.ok u w∧VR G r u:=by
 unfold Uf at h;split at h
 ·rename_i fields hu
  split at h
  ·rename_i fl hf
   obtain⟨vs,u,rfl,hp,hx⟩:=La (w:=w) hv h;exact⟨u,by simp[Instr.field,run_underlying hu,hf,asAgg,hp],hx⟩
  ·cases h
 ·cases h
def Uh (P:Program)(t:TypeId)(x i:AV):Option AV:=
 match J8 i with
 | none=>none
 | some n=>match P.underlying t with
  | some (.array len e)=>match BW P e with
   | none=>none
   | some sz=>if 0≤n∧n<len then apart P e x (n.toNat*sz)else none
  | some .string=>match x with
   | .lit (.string s)=>if 0≤n then(s[n.toNat]?).map λb=>.lit (.int .u8 b.toNat)else none
   | _=>none
  | _=>none
theorem eH {t:TypeId}{x i r:AV}{v vi:Value}(hv:VR G x v)(hi:VR G i vi)(h:Uh P t x i=some r):
  ∃u,(Instr.index t v vi).run P w=.ok u w∧VR G r u:=by
 unfold Uh at h;split at h
 ·cases h
 rename_i n hn;obtain⟨k,rfl⟩:=bR hi hn;split at h
 ·rename_i len e hu
  split at h
  ·cases h
  rename_i sz hsz;split at h
  ·rename_i hb
   obtain⟨vs,u,rfl,hp,hx⟩:=La (w:=w) hv h;exact⟨u,by simp[Instr.index,asIntOf,run_underlying hu,hb,Bz hsz,hp],hx⟩
  ·cases h
 ·rename_i hu
  split at h
  ·rename_i s
   split at h
   ·rename_i h0
    obtain⟨b,hb,rfl⟩:=Option.map_eq_some_iff.1 h;simp only[VR]at hv;subst hv;refine⟨.int .u8 b.toNat,?_,by simp only[VR]⟩;simp[Instr.index,asIntOf,run_underlying hu,h0,hb]
   ·cases h
  ·cases h
 ·cases h
end
end
section
section
variable {P : Program} {G : Cfg} {w : World}
def Bs:Option AV→Nat→Option Nat
 | none,d=>some d
 | some (.lit (.int _ n)),_=>if 0≤n then some n.toNat else none
 | _,_=>none
def VRo (G:Cfg):Option AV→Option Value→Prop
 | none,none=>True
 | some a,some v=>VR G a v
 | _,_=>False
theorem WR {x:Option AV}{v:Option Value}{d l:Nat}(hv:VRo G x v)(h:Bs x d=some l):(v=none∧l=d)∨∃k,v=some (.int k (l:Int)):=by
 unfold Bs at h;split at h
 ·injection h with h
  cases v with
  | none=>exact .inl ⟨rfl,h.symm⟩
  | some _=>exact hv.elim
 ·rename_i k n
  split at h
  ·rename_i h0
   injection h with h;cases v with
   | none=>exact hv.elim
   | some u=>
    simp only[VRo,VR]at hv;exact .inr ⟨k,by rw[hv,← h,Int.toNat_of_nonneg h0]⟩
  ·cases h
 ·cases h
theorem Jt {k:IntKind}{n y:Nat}{code:BoundsCode}(h:n≤y):(Instr.sliceBound (.int k (n:Int)) y code).run P w=.ok n w:=by
 have:(0:Int)≤n∧(n:Int)≤y:=by omega
 simp[Instr.sliceBound,asIntOf,this]
theorem Ck {isSlice : Bool} {len c : Nat} {xl xh xm : Option AV} {vl vh vm : Option Value} {l h m : Nat} (hl : VRo G xl vl) (hh : VRo G xh vh) (hm : VRo G xm vm)
    (el:Bs xl 0=some l) (eh:Bs xh len=some h) (em:Bs xm c=some m) (hmx:xm=none∨xh≠none) (h1:l≤h) (h2:h≤m) (h3:m≤c):
    (Instr.sliceBounds isSlice len c vl vh vm).run P w=.ok (l,h,m) w:=by
  rcases WR hl el with⟨rfl,rfl⟩ | ⟨kl,rfl⟩<;>rcases WR hh eh with⟨rfl,rfl⟩ | ⟨kh,rfl⟩<;>rcases WR hm em with⟨rfl,rfl⟩ | ⟨km,rfl⟩<;>
    first
    | (simp[Instr.sliceBounds,Jt h3,Jt h2,Jt h1];done)
    | (rcases hmx with rfl | hmx
       · exact hm.elim
       · cases xh with
         | none=>exact absurd rfl hmx
         | some _=>exact hh.elim)
def Room.cut (len l:Nat):Room→Room
 | .ex k=>.ex (k - l)
 | .ge k=>.ge (max len k - l)
def Ly (P:Program)(H:AH)(t:TypeId)(x:AV)(lo hi mx:Option AV):Option AV:=
 match P.underlying t with
 | some .string=>match x,mx with
  | .lit (.string s),none=>match Bs lo 0,Bs hi s.size with
   | some l,some h=>if l≤h∧h≤s.size then some (.lit (.string (s.extract l h)))else none
   | _,_=>none
  | _,_=>none
 | some (.slice e)=>match BW P e,x with
  | some sz,.sl o off len esz cap=>if sz≠esz then none else
   match Bs lo 0,Bs hi len,mx with
   | some l,some h,none=>if l≤h∧h≤max len cap.least then some (.sl o (off+l*esz) (h - l) esz (cap.cut len l))else none
   | some l,some h,some m=>match Bs (some m) 0 with
    | some m=>if l≤h∧h≤m∧m≤max len cap.least∧hi.isSome then some (.sl o (off+l*esz) (h - l) esz (.ex (m - l)))else none
    | none=>none
   | _,_,_=>none
  | some sz,.imm cs len esz=>match Bs lo 0,Bs hi len,mx with
   | some l,some h,none=>if l≤h∧h≤len then some (.imm ((cs.drop (l*sz)).take ((h - l)*sz)) (h - l) esz)else none
   | some l,some h,some m=>match Bs (some m) 0 with
    | some m=>if l≤h∧h≤m∧m≤len∧hi.isSome then some (if m=l then .emp else .imm ((cs.drop (l*sz)).take ((h - l)*sz)) (h - l) esz)else none
    | none=>none
   | _,_,_=>none
  | some _,.emp=>match Bs lo 0,Bs hi 0,mx with
   | some 0,some 0,none=>some .emp
   | _,_,_=>none
  | some _,.lit (.slice none 0 0)=>match Bs lo 0,Bs hi 0,mx with
   | some 0,some 0,none=>some (.lit (.slice none 0 0))
   | _,_,_=>none
  | _,_=>none
 | some (.array n e)=>match BW P e,mx with
  | some sz,none=>match Bs lo 0,Bs hi n,x with
   | some l,some h,.ptr o off=>match H[o]? with
    | some (some (.cells cs))=>if l≤h∧h≤n∧off+n*sz≤cs.length then some (.sl o (off+l*sz) (h - l) sz (.ex (n - l)))else none
    | _=>none
   | some l,some h,.ip cs=>if l≤h∧h≤n then some (.imm ((cs.drop (l*sz)).take ((h - l)*sz)) (h - l) sz)else none
   | _,_,_=>none
  | _,_=>none
 | _=>none
theorem Has.nil (G:Cfg)(ad:Addr):Has G ad []:=.inl rfl
abbrev Al7:=@Nat.zero_mul
abbrev Aj8:=@List.take_zero
theorem Xn {ad:Addr}{vs:List Value}{cs:List AV}(hh:Has G ad vs)(hs:VRs G cs vs){l h m sz esz c:Nat}(h1:l≤h)(h2:h≤m):
  VR G (.imm ((cs.drop (l*sz)).take ((h - l)*sz)) (h - l) esz) (.slice (some (if m=l then ad else ad.add (l*sz))) (h - l) (m - l)):=by
 simp only[VR];refine⟨_,_,(vs.drop (l*sz)).take ((h - l)*sz),rfl,by omega,?_,(hs.drop _).take _⟩
 split
 ·rename_i he
  have:h - l=0:=by omega
  rw[this];simp only[Al7,Aj8];exact .nil _ _
 ·exact(hh.shift _).take _
abbrev Af2:=@Decidable.byContradiction
abbrev Ag9:=@Nat.add_mul
abbrev Ad0:=@Nat.mul_le_mul_right
theorem eP {H:AH}(hr:HR G H){t:TypeId}{x r:AV}{lo hi mx:Option AV}{v:Value}{vl vh vm:Option Value}(hv:VR G x v)(hl:VRo G lo vl)(hh:VRo G hi vh)(hm:VRo G mx vm)
  (h:Ly P H t x lo hi mx=some r):∃u,(Instr.sliceAt t v vl vh vm).run P w=.ok u w∧VR G r u:=by
 unfold Ly at h;split at h
 ·
  rename_i hu;split at h
  ·rename_i s
   split at h
   ·rename_i l hh' el eh
    split at h
    ·rename_i hb
     injection h with h;subst h;simp only[VR]at hv;subst hv;cases vm with
     | some _=>exact hm.elim
     | none=>
      have:=Ck (P:=P) (w:=w) (isSlice:=false) (xm:=none) (vm:=none) (c:=s.size) (m:=s.size) hl hh trivial el eh rfl (.inl rfl) hb.1 hb.2 (Ac2 _)
      exact⟨.string (s.extract l hh'),by simp[Instr.sliceAt,Instr.slice,run_underlying hu,this],by simp only[VR]⟩
    ·cases h
   ·cases h
  ·cases h
 ·
  rename_i e hu;have go:∀(a:Option Addr) (len c:Nat) (l h m sz:Nat),BW P e=some sz→(Instr.sliceBounds true len c vl vh vm).run P w=.ok (l,h,m) w→
    (Instr.sliceAt t (.slice a len c) vl vh vm).run P w=.ok (.slice (if m=l then a else a.map (·.add (l*sz))) (h - l) (m - l)) w:=by
   intro a len c l h m sz hsz hb;simp[Instr.sliceAt,Instr.slice,run_underlying hu,hb,Bz hsz]
  split at h
  ·rename_i sz o off len esz cap hsz
   split at h
   ·cases h
   rename_i hse;have hse:sz=esz:=Af2 hse;subst hse;simp only[VR]at hv;obtain⟨ho,a,c,rfl,hlc,hat⟩:=hv
   have hcap:max len cap.least≤c:=by
    unfold SlAt at hat;split at hat
    ·simp only[Room.least];omega
    ·simp only[Room.least];omega
   have res:∀l h m k,l≤h→h≤m→m≤c→(k=.ex (m - l)∨(∃j j',k=.ge j∧cap=.ge j'∧j≤c - l∧m=c))→
     VR G (.sl o (off+l*sz) (h - l) sz k) (.slice (if m=l then some a else(some a).map (·.add (l*sz))) (h - l) (m - l)):=by
    intro l h m k h1 h2 h3 hk;simp only[VR];have e1:(if m=l then some a else(some a).map (·.add (l*sz)))=some (if m=l then a else a.add (l*sz)):=by split<;>rfl
    rw[e1];refine⟨ho,_,_,rfl,by omega,?_⟩
    by_cases hml:m=l
    ·subst hml
     rcases hk with rfl | ⟨j,j',rfl,_,hj,rfl⟩
     ·simp[SlAt]
     ·simp only[SlAt];exact⟨by omega,.inl (by omega)⟩
    ·rw[if_neg hml]
     have hlt:l<m:=by omega
     have hmul:l*sz+(m - l)*sz=m*sz:=by rw[← Ag9];congr 1;omega
     unfold SlAt at hat;split at hat
     ·rename_i k0
      obtain⟨rfl,h0 | ⟨rfl,hle⟩⟩:=hat
      ·omega
      ·have hmc:m*sz≤c*sz:=Ad0 _ h3
       rcases hk with rfl | ⟨_,_,_,hc,_⟩
       ·refine⟨rfl,.inr ⟨by rw[Addr.add_lit,Ag5],by omega⟩⟩
       ·cases hc
     ·rcases hat with⟨_,h0 | ⟨rfl,hle⟩⟩
      ·omega
      ·have hmc:m*sz≤c*sz:=Ad0 _ h3
       rcases hk with rfl | ⟨j,j',rfl,_,hj,rfl⟩
       ·refine⟨rfl,.inr ⟨by rw[Addr.add_lit,Ag5],by omega⟩⟩
       ·exact⟨hj,.inr ⟨by rw[Addr.add_lit,Ag5],by omega⟩⟩
   split at h
   ·rename_i l h' el eh
    split at h
    ·rename_i hb
     injection h with h;subst h;cases vm with
     | some _=>exact hm.elim
     | none=>
      have hbd:=Ck (P:=P) (w:=w) (isSlice:=true) (xm:=none) (vm:=none) (c:=c) (m:=c) hl hh trivial el eh rfl (.inl rfl) hb.1 (by omega) (Ac2 _);refine⟨_,go _ _ _ _ _ _ _ hsz hbd,res _ _ _ _ hb.1 (by omega) (Ac2 _) ?_⟩;cases cap with
      | ge k=>exact .inr ⟨_,_,rfl,rfl,by simp only[Room.least]at hcap;omega,rfl⟩
      | ex k=>left;simp only[SlAt]at hat;simp[hat.1,Room.cut]
    ·cases h
   ·rename_i l h' ma el eh
    split at h
    ·rename_i m em
     split at h
     ·rename_i hb
      injection h with h;subst h
      have em':Bs (some ma) c=some m:=by
       revert em
       cases ma<;>simp[Bs];rename_i u;cases u<;>simp[Bs]
      have hbd:=Ck (P:=P) (w:=w) (isSlice:=true) (c:=c) (m:=m) hl hh hm el eh em' (.inr (by intro he;rw[he]at hb;simp at hb)) hb.1 hb.2.1 (by omega);exact⟨_,go _ _ _ _ _ _ _ hsz hbd,res _ _ _ _ hb.1 hb.2.1 (by omega) (.inl rfl)⟩
     ·cases h
    ·cases h
   ·cases h
  ·rename_i sz cs len esz hsz
   simp only[VR]at hv;obtain⟨ad,c,vs,rfl,hlc,hHas,hs⟩:=hv;split at h
   ·rename_i l h' el eh
    split at h
    ·rename_i hb
     injection h with h;subst h;cases vm with
     | some _=>exact hm.elim
     | none=>
      have hbd:=Ck (P:=P) (w:=w) (isSlice:=true) (xm:=none) (vm:=none) (c:=c) (m:=c) hl hh trivial el eh rfl (.inl rfl) hb.1 (by omega) (Ac2 _);refine⟨_,go _ _ _ _ _ _ _ hsz hbd,?_⟩
      have:=Xn (sz:=sz) (esz:=esz) (c:=c) hHas hs hb.1 (m:=c) (by omega)
      rw[show(if c=l then some ad else(some ad).map (·.add (l*sz)))=some (if c=l then ad else ad.add (l*sz)) by split<;>rfl];exact this
    ·cases h
   ·rename_i l h' ma el eh
    split at h
    ·rename_i m em
     split at h
     ·rename_i hb
      injection h with h;subst h
      have em':Bs (some ma) c=some m:=by
       revert em
       cases ma<;>simp[Bs];rename_i u;cases u<;>simp[Bs]
      have hbd:=Ck (P:=P) (w:=w) (isSlice:=true) (c:=c) (m:=m) hl hh hm el eh em' (.inr (by intro he;rw[he]at hb;simp at hb)) hb.1 hb.2.1 (by omega);refine⟨_,go _ _ _ _ _ _ _ hsz hbd,?_⟩;have e1:(if m=l then some ad else(some ad).map (·.add (l*sz)))=some (if m=l then ad else ad.add (l*sz)):=by split<;>rfl
      rw[e1]
      by_cases hml:m=l
      ·subst hml
       have:h' - m=0:=by omega
       rw[this,if_pos rfl,if_pos rfl];simp only[VR,Nat.sub_self];exact⟨_,rfl⟩
      ·have:=Xn (sz:=sz) (esz:=esz) (c:=c) hHas hs hb.1 hb.2.1
       rw[if_neg hml]at this⊢;rw[if_neg hml];exact this
     ·cases h
    ·cases h
   ·cases h
  ·rename_i sz hsz
   simp only[VR]at hv;obtain⟨ad,rfl⟩:=hv;split at h
   ·rename_i el eh
    injection h with h;subst h;cases vm with
    | some _=>exact hm.elim
    | none=>
     have hbd:=Ck (P:=P) (w:=w) (isSlice:=true) (xm:=none) (vm:=none) (c:=0) (m:=0) hl hh trivial el eh rfl (.inl rfl) (Ac2 _) (Ac2 _) (Ac2 _);exact⟨_,go _ _ _ _ _ _ _ hsz hbd,by simp only[VR];simp⟩
   ·cases h
  ·rename_i sz hsz
   simp only[VR]at hv;subst hv;split at h
   ·rename_i el eh
    injection h with h;subst h;cases vm with
    | some _=>exact hm.elim
    | none=>
     have hbd:=Ck (P:=P) (w:=w) (isSlice:=true) (xm:=none) (vm:=none) (c:=0) (m:=0) hl hh trivial el eh rfl (.inl rfl) (Ac2 _) (Ac2 _) (Ac2 _);exact⟨_,go _ _ _ _ _ _ _ hsz hbd,by simp only[VR];simp⟩
   ·cases h
  ·cases h
 ·
  rename_i n e hu;have go:∀(a:Addr) (l h m sz:Nat),BW P e=some sz→(Instr.sliceBounds false n n vl vh vm).run P w=.ok (l,h,m) w→
    (Instr.sliceAt t (.pointer (some a)) vl vh vm).run P w=.ok (.slice (some (if m=l then a else a.add (l*sz))) (h - l) (m - l)) w:=by
   intro a l h m sz hsz hb;simp[Instr.sliceAt,Instr.sureAddr,run_underlying hu,hb,Bz hsz]
  split at h
  ·rename_i sz hsz
   cases vm with
   | some _=>exact hm.elim
   | none=>
    split at h
    ·rename_i l h' o off el eh
     split at h
     ·rename_i cs ho
      split at h
      ·rename_i hb
       injection h with h;subst h;simp only[VR]at hv;obtain⟨hon,rfl⟩:=hv;have hbd:=Ck (P:=P) (w:=w) (isSlice:=false) (xm:=none) (vm:=none) (c:=n) (m:=n) hl hh trivial el eh rfl (.inl rfl) hb.1 hb.2.1 (Ac2 _);refine⟨_,go _ _ _ _ _ hsz hbd,?_⟩;simp only[VR];refine⟨hon,_,_,rfl,by omega,?_⟩;refine⟨rfl,?_⟩
       by_cases hnl:n=l
       ·left;omega
       ·right
        rw[if_neg hnl,Addr.add_lit,Ag5];refine⟨rfl,?_⟩;obtain⟨c,e',vs,_,_,h3,_,_⟩:=hr.obj _ _ ho;have hmul:l*sz+(n - l)*sz=n*sz:=by rw[← Ag9];congr 1;omega
        omega
      ·cases h
     ·cases h
    ·rename_i l h' cs el eh
     split at h
     ·rename_i hb
      injection h with h;subst h;simp only[VR]at hv;obtain⟨ad,vs,rfl,hHas,hs⟩:=hv;have hbd:=Ck (P:=P) (w:=w) (isSlice:=false) (xm:=none) (vm:=none) (c:=n) (m:=n) hl hh trivial el eh rfl (.inl rfl) hb.1 hb.2 (Ac2 _);exact⟨_,go _ _ _ _ _ hsz hbd,Xn (c:=n) hHas hs hb.1 hb.2⟩
     ·cases h
    ·cases h
  ·cases h
 ·cases h
end
end
section
section
variable {P : Program} {G : Cfg} {w : World}
def GK (op:BinOp)(k:IntKind)(a b:Int):Option Value:=
 match op with
 | .add=>some (.int k (k.wrap (a+b)))
 | .sub=>some (.int k (k.wrap (a - b)))
 | .mul=>some (.int k (k.wrap (a*b)))
 | .quo=>if b=0 then none else some (.int k (k.wrap (a.tdiv b)))
 | .rem=>if b=0 then none else some (.int k (a.tmod b))
 | .and=>some (.int k (k.wrap ((BitVec.ofInt k.bits a&&& BitVec.ofInt k.bits b).toNat)))
 | .or=>some (.int k (k.wrap ((BitVec.ofInt k.bits a||| BitVec.ofInt k.bits b).toNat)))
 | .xor=>some (.int k (k.wrap ((BitVec.ofInt k.bits a ^^^ BitVec.ofInt k.bits b).toNat)))
 | .andNot=>some (.int k (k.wrap ((BitVec.ofInt k.bits a&&& ~~~ BitVec.ofInt k.bits b).toNat)))
 | .eql=>some (.bool (a==b))
 | .neq=>some (.bool (a !=b))
 | .lss=>some (.bool (decide (a<b)))
 | .leq=>some (.bool (decide (a≤b)))
 | .gtr=>some (.bool (decide (a>b)))
 | .geq=>some (.bool (decide (a≥b)))
 | _=>none
theorem iY {op:BinOp}{t:TypeId}{k:IntKind}{a b:Int}{v:Value}(h:GK op k a b=some v):(binOp op t (.int k a) (.int k b)).run P w=.ok v w:=by
  cases op<;>simp only[GK]at h<;>first
    | (injection h with h;subst h;simp[binOp,Op.intArith,Op.intCmp,Op.intBits];done)
    | (split at h
       · cases h
       · rename_i hb;injection h with h;subst h;simp[binOp,Op.intDiv,hb])
    | cases h
def MA (op:BinOp)(k:IntKind)(a b:Int):Option Value:=
 if b<0 then none else match op with
 | .shl=>some (.int k (k.wrap (a*2 ^ min b.toNat k.bits)))
 | .shr=>some (.int k (a.fdiv (2 ^ min b.toNat k.bits)))
 | _=>none
theorem SA {op:BinOp}{t:TypeId}{k k':IntKind}{a b:Int}{v:Value}(h:MA op k a b=some v):(binOp op t (.int k a) (.int k' b)).run P w=.ok v w:=by
 unfold MA at h;split at h
 ·cases h
 rename_i hb;cases op<;>simp only[]at h<;>first
  | (injection h with h;subst h;simp[binOp,Op.shift,hb];done)
  | cases h
def Ul (op:BinOp)(a b:ByteArray):Option Value:=
 match op with
 | .add=>if((a.size+b.size:Nat):Int)>9223372036854775807 then none else some (.string (a++b))
 | .eql=>some (.bool (a.toList==b.toList))
 | .neq=>some (.bool !(a.toList==b.toList))
 | .lss=>some (.bool (Op.bytesLess a.toList b.toList))
 | .leq=>some (.bool (Op.bytesLess a.toList b.toList||a.toList==b.toList))
 | .gtr=>some (.bool !(Op.bytesLess a.toList b.toList||a.toList==b.toList))
 | .geq=>some (.bool !(Op.bytesLess a.toList b.toList))
 | _=>none
theorem oS:IntKind.i64.max=9223372036854775807:=by decide
theorem jI {op:BinOp}{t:TypeId}{a b:ByteArray}{v:Value}(h:Ul op a b=some v):(binOp op t (.string a) (.string b)).run P w=.ok v w:=by
  cases op<;>simp only[Ul]at h<;>first
    | (injection h with h;subst h;simp[binOp,Op.stringOp];done)
    | (split at h
       · cases h
       · rename_i hb;injection h with h;subst h;simp only[binOp,Op.stringOp,oS,if_neg hb]
         simp)
    | cases h
def So:AV→Option Bool
 | .lit (.pointer none)=>some true
 | .ptr _ _ | .ip _=>some false
 | _=>none
def On:AV→Option Bool
 | .lit (.slice none _ _)=>some true
 | .sl _ _ _ _ _ | .imm _ _ _ | .emp=>some false
 | _=>none
def aE:AV→Option Bool
 | .lit .nilFunc=>some true
 | .fn _ _ _=>some false
 | _=>none
def aF:AV→Option Bool
 | .lit (.map none)=>some true
 | .mp _=>some false
 | _=>none
def GL (a b:Option Bool):Option Bool:=
 match a,b with
 | some true,some b=>some b
 | some false,some true=>some false
 | _,_=>none
abbrev Ak7:=@Option.some.injEq
theorem NT {x:AV}{v:Value}{b:Bool}(hx:VR G x v)(h:So x=some b):∃a,v=.pointer a∧b=a.isNone:=by
 unfold So at h;split at h<;>simp only[Ak7,reduceCtorEq]at h<;>subst h<;>simp only[VR]at hx
 ·exact⟨none,hx,rfl⟩
 ·exact⟨_,hx.2,rfl⟩
 ·obtain⟨ad,vs,e,_⟩:=hx;exact⟨_,e,rfl⟩
theorem NU {x:AV}{v:Value}{b:Bool}(hx:VR G x v)(h:On x=some b):∃a n c,v=.slice a n c∧b=a.isNone:=by
 unfold On at h;split at h<;>simp only[Ak7,reduceCtorEq]at h<;>subst h<;>simp only[VR]at hx
 ·exact⟨none,_,_,hx,rfl⟩
 ·obtain⟨_,a,c,e,_⟩:=hx;exact⟨_,_,_,e,rfl⟩
 ·obtain⟨a,c,vs,e,_⟩:=hx;exact⟨_,_,_,e,rfl⟩
 ·obtain⟨a,e⟩:=hx;exact⟨_,_,_,e,rfl⟩
theorem NR {x:AV}{v:Value}{b:Bool}(hx:VR G x v)(h:aE x=some b):(v=.nilFunc∧b=true)∨(∃f p c,v=.func f p c∧b=false):=by
 unfold aE at h;split at h<;>simp only[Ak7,reduceCtorEq]at h<;>subst h<;>simp only[VR]at hx
 ·exact .inl ⟨hx,rfl⟩
 ·obtain⟨a,c,e,_⟩:=hx;exact .inr ⟨_,_,_,e,rfl⟩
theorem NS {x:AV}{v:Value}{b:Bool}(hx:VR G x v)(h:aF x=some b):∃a,v=.map a∧b=a.isNone:=by
 unfold aF at h;split at h<;>simp only[Ak7,reduceCtorEq]at h<;>subst h<;>simp only[VR]at hx
 ·exact⟨none,hx,rfl⟩
 ·exact⟨_,hx.2,rfl⟩
def iX (f:TypeId→AV→AV→Option Bool)(P:Program)(x y:AV):List Field→Option Bool
 | []=>some true
 | fl :: r => if fl.name = "_" then none else
  match apart P fl.type x fl.offset,apart P fl.type y fl.offset with
  | some a,some b=>match f fl.type a b,iX f P x y r with
   | some e,some e'=>some (e&&e')
   | _,_=>none
  | _,_=>none
def iW (f:AV→AV→Option Bool)(P:Program)(t:TypeId)(x y:AV)(sz:Nat):List Nat→Option Bool
 | []=>some true
 | i::r=>match apart P t x (i*sz),apart P t y (i*sz)with
  | some a,some b=>match f a b,iW f P t x y sz r with
   | some e,some e'=>some (e&&e')
   | _,_=>none
  | _,_=>none
def S6 (P:Program):Nat→TypeId→AV→AV→Option Bool
 | 0,_,_,_=>none
 | d+1,t,x,y=>
  match P.underlying t with
  | some .bool=>match x,y with
   | .lit (.bool a),.lit (.bool b)=>some (a==b)
   | _,_=>none
  | some (.int _)=>match x,y with
   | .lit (.int k a),.lit (.int k' b)=>if k=k' then some (a==b)else none
   | _,_=>none
  | some .string=>match x,y with
   | .lit (.string a),.lit (.string b)=>some (a.toList==b.toList)
   | _,_=>none
  | some (.pointer _)=>GL (So x) (So y)
  | some (.slice _)=>GL (On x) (On y)
  | some (.func ..)=>GL (aE x) (aE y)
  | some (.map ..)=>GL (aF x) (aF y)
  | some (.struct fs)=>match P.stoodInHeld t,x,y with
   | false,.agg xs,.agg ys=>iX (S6 P d) P x y fs.toList
   | _,_,_=>none
  | some (.array n e)=>match BW P e,x,y with
   | some sz,.agg xs,.agg ys=>iW (S6 P d e) P e x y sz (List.range n)
   | _,_,_=>none
  | _=>none
abbrev Ak6:=@Bool.not_true
abbrev An4:=@List.all_cons
abbrev Al3:=@Bool.true_and
theorem VV (f:Nat→Sem Bool)(g:Nat→Bool)(l:List Nat)(hf:∀i,i∈l→(f i).run P w=.ok (g i) w):
  ((do
   for i in l do
    if !(← f i)then return false
   pure true:Sem Bool)).run P w=.ok (l.all g) w:=by
 induction l with
 | nil=>simp
 | cons i l ih=>
  have h0:=hf i (by simp);have ih':=ih λj hj=>hf j (by simp[hj])
  simp only[List.forIn_cons,Sem.run_bind,h0,Result.andThen_ok];cases hg:g i with
  | false=>simp[hg]
  | true=>
   simp only[Ak6,An,Sem.run_pure,Result.andThen_ok,An4,hg,Al3]
   simpa[Sem.run_bind]using ih'
theorem SG {d:Nat}{x y:AV}{vx vy:Array Value}(hx:VR G x (.agg vx))(hy:VR G y (.agg vy))(f:TypeId→AV→AV→Option Bool)
  (hf:∀t a b va vb e,VR G a va→VR G b vb→f t a b=some e→(Op.equalIn d t va vb).run P w=.ok e w):
  ∀(fs:List Field) (e:Bool),iX f P x y fs=some e→(Op.eqFields d vx vy fs).run P w=.ok e w
 | [],e,h=>by simp only[iX]at h;injection h with h;subst h;simp[Op.eqFields]
 | fl::r,e,h=>by
  simp only[iX]at h;split at h
  ·cases h
  rename_i hn;split at h
  ·rename_i a b ha hb
   split at h
   ·rename_i e1 e2 h1 h2
    injection h with h;subst h;obtain ⟨_,ua,ea,pa,xa⟩:=La (w:=w) hx ha;obtain ⟨_,ub,eb,pb,xb⟩:=La (w:=w) hy hb;injection ea with ea;injection eb with eb;subst ea;subst eb;have q:=hf _ _ _ _ _ _ xa xb h1;have ih:=SG hx hy f hf r e2 h2;simp only [Op.eqFields, if_pos (show fl.name ≠ "_" from hn), Sem.run_bind, pa, pb, q, Result.andThen_ok];cases e1 <;> simp [ih]
   ·cases h
  ·cases h
abbrev Ae3:=@List.all_eq_true
theorem bQ {d:Nat}{t:TypeId}{sz:Nat}{x y:AV}{vx vy:Array Value}(hx:VR G x (.agg vx))(hy:VR G y (.agg vy))(f:AV→AV→Option Bool)
  (hf:∀a b va vb e,VR G a va→VR G b vb→f a b=some e→(Op.equalIn d t va vb).run P w=.ok e w):
  ∀(l:List Nat) (e:Bool),iW f P t x y sz l=some e→∃g:Nat→Bool,l.all g=e∧
   ∀i,i∈l→((do Op.equalIn d t (← part t vx (i*sz)) (← part t vy (i*sz))):Sem Bool).run P w=.ok (g i) w
 | [],e,h=>by simp only[iW]at h;injection h with h;subst h;exact⟨λ_=>true,rfl,by simp⟩
 | i::r,e,h=>by
  simp only[iW]at h;split at h
  ·rename_i a b ha hb
   split at h
   ·rename_i e1 e2 h1 h2
    injection h with h;subst h;obtain⟨_,ua,ea,pa,xa⟩:=La (w:=w) hx ha;obtain⟨_,ub,eb,pb,xb⟩:=La (w:=w) hy hb;injection ea with ea;injection eb with eb;subst ea;subst eb;have q:=hf _ _ _ _ _ xa xb h1;obtain⟨g,hg,hall⟩:=bQ hx hy f hf r e2 h2
    have here:((do Op.equalIn d t (← part t vx (i*sz)) (← part t vy (i*sz))):Sem Bool).run P w=.ok e1 w:=by
     simp only[Sem.run_bind,pa,pb,q,Result.andThen_ok]
    refine⟨λj=>if j=i then e1 else g j,?_,?_⟩
    ·by_cases hir:i∈r
     ·have hgi:g i=e1:=by
       have:=hall i hir
       rw[here]at this;injection this with this;exact this.symm
      have:(λj=>if j=i then e1 else g j)=g:=by funext j;split<;>simp_all
      rw[this,An4,hgi,hg]
     ·rw[An4]
      simp only[if_true]
      congr 1
      rw[← hg];rw[Bool.eq_iff_iff,Ae3,Ae3]
      constructor<;>intro hh j hj
      ·have:=hh j hj;rwa[if_neg (fun (he:j=i)=>hir (he▸hj))]at this
      ·rw[if_neg (fun (he:j=i)=>hir (he▸hj))];exact hh j hj
    ·intro j hj
     by_cases hji:j=i
     ·subst hji;simpa using here
     ·simp only[if_neg hji]
      exact hall j (by simpa[hji]using hj)
   ·cases h
  ·cases h
theorem Z9:∀(d:Nat) (t:TypeId) (x y:AV) (vx vy:Value) (e:Bool),VR G x vx→VR G y vy→S6 P d t x y=some e→∀k,(Op.equalIn (d+k) t vx vy).run P w=.ok e w
 | 0,t,x,y,vx,vy,e,hx,hy,h,k=>by simp[S6]at h
 | d+1,t,x,y,vx,vy,e,hx,hy,h,k=>by
  have hd:d+1+k=(d+k)+1:=by omega
  rw[hd];unfold S6 at h;split at h
  ·rename_i hu
   split at h
   ·injection h with h
    simp only[VR]at hx hy;subst h;subst hx;subst hy;simp[Op.equalIn,run_underlying hu]
   ·cases h
  ·rename_i hu
   split at h
   ·split at h
    ·rename_i hk
     injection h with h;simp only[VR]at hx hy;subst h;subst hx;subst hy;subst hk;simp[Op.equalIn,run_underlying hu]
    ·cases h
   ·cases h
  ·rename_i hu
   split at h
   ·injection h with h
    simp only[VR]at hx hy;subst h;subst hx;subst hy;simp[Op.equalIn,run_underlying hu,beq_toListBytes]
   ·cases h
  ·rename_i hu
   unfold GL at h;split at h
   ·rename_i b h1 h2
    injection h with h;obtain⟨a,rfl,ha⟩:=NT hx h1;obtain⟨c,rfl,hc⟩:=NT hy h2;cases a with
    | some _=>simp at ha
    | none=>subst h;subst hc;simp[Op.equalIn,run_underlying hu]
   ·rename_i h1 h2
    injection h with h;obtain⟨a,rfl,ha⟩:=NT hx h1;obtain⟨c,rfl,hc⟩:=NT hy h2;cases c with
    | some _=>simp at hc
    | none=>cases a with
     | none=>simp at ha
     | some _=>subst h;simp[Op.equalIn,run_underlying hu]
   ·cases h
  ·rename_i hu
   unfold GL at h;split at h
   ·rename_i b h1 h2
    injection h with h;obtain⟨a,_,_,rfl,ha⟩:=NU hx h1;obtain⟨c,_,_,rfl,hc⟩:=NU hy h2;cases a with
    | some _=>simp at ha
    | none=>subst h;subst hc;simp[Op.equalIn,run_underlying hu]
   ·rename_i h1 h2
    injection h with h;obtain⟨a,_,_,rfl,ha⟩:=NU hx h1;obtain⟨c,_,_,rfl,hc⟩:=NU hy h2;cases c with
    | some _=>simp at hc
    | none=>cases a with
     | none=>simp at ha
     | some _=>subst h;simp[Op.equalIn,run_underlying hu]
   ·cases h
  ·rename_i hu
   unfold GL at h;split at h
   ·rename_i b h1 h2
    injection h with h;subst h;rcases NR hx h1 with⟨rfl,ha⟩ | ⟨_,_,_,_,ha⟩
    ·rcases NR hy h2 with⟨rfl,hc⟩ | ⟨_,_,_,rfl,hc⟩<;>subst hc<;>simp[Op.equalIn,run_underlying hu]
    ·simp at ha
   ·rename_i h1 h2
    injection h with h;subst h;rcases NR hx h1 with⟨rfl,ha⟩ | ⟨_,_,_,rfl,ha⟩
    ·simp at ha
    ·rcases NR hy h2 with⟨rfl,hc⟩ | ⟨_,_,_,rfl,hc⟩
     ·simp[Op.equalIn,run_underlying hu]
     ·simp at hc
   ·cases h
  ·rename_i hu
   unfold GL at h;split at h
   ·rename_i b h1 h2
    injection h with h;obtain⟨a,rfl,ha⟩:=NS hx h1;obtain⟨c,rfl,hc⟩:=NS hy h2;cases a with
    | some _=>simp at ha
    | none=>subst h;subst hc;simp[Op.equalIn,run_underlying hu]
   ·rename_i h1 h2
    injection h with h;obtain⟨a,rfl,ha⟩:=NS hx h1;obtain⟨c,rfl,hc⟩:=NS hy h2;cases c with
    | some _=>simp at hc
    | none=>cases a with
     | none=>simp at ha
     | some _=>subst h;simp[Op.equalIn,run_underlying hu]
   ·cases h
  ·rename_i fs hu
   split at h
   ·rename_i xs ys hst
    have hx':=hx;have hy':=hy;simp only[VR]at hx' hy';obtain⟨vx,rfl,_⟩:=hx';obtain⟨vy,rfl,_⟩:=hy';have hfo:P.fieldsOf t=fs:=by simp[Program.fieldsOf,hu]
    rw[run_equalIn_struct w (d+k) t vx vy (by rw[hfo];exact hu) hst,hfo];exact SG hx hy (S6 P d) (λt a b va vb e ha hb he=>Z9 d t a b va vb e ha hb he k) _ _ h
   ·cases h
  ·rename_i n e' hu
   split at h
   ·rename_i sz xs ys hsz
    have hx':=hx;have hy':=hy;simp only[VR]at hx' hy';obtain⟨vx,rfl,_⟩:=hx';obtain⟨vy,rfl,_⟩:=hy';obtain⟨g,hg,hall⟩:=bQ (d:=d+k) hx hy (S6 P d e') (λa b va vb e ha hb he=>Z9 d e' a b va vb e ha hb he k) _ _ h;have q:=VV (P:=P) (w:=w) (λi=>do Op.equalIn (d+k) e' (← part e' vx (i*sz)) (← part e' vy (i*sz))) g (List.range n) hall;rw[hg]at q;simp only[Op.equalIn,Sem.run_bind,run_underlying hu,Result.andThen_ok,Bz hsz];rw[Std.Legacy.Range.forIn_eq_forIn_range']
    have er:List.range' (([:n]:Std.Legacy.Range)).start ([:n]:Std.Legacy.Range).size ([:n]:Std.Legacy.Range).step=List.range n:=by
     rw[List.range_eq_range'];simp[Std.Legacy.Range.size]
    rw[er];simp only[bind_assoc,Sem.run_bind]at q;exact q
   ·cases h
  ·cases h
end
end
section
section
variable {P : Program} {G : Cfg} {w : World}
def Ph (P:Program)(op:BinOp)(t:TypeId)(x y:AV):Option AV:=
 match x,y with
 | .lit (.int k a),.lit (.int k' b)=>
  match op with
  | .shl | .shr=>(MA op k a b).map .lit
  | _=>if k=k' then(GK op k a b).map .lit else none
 | .lit (.string a),.lit (.string b)=>(Ul op a b).map .lit
 | .agg _,.agg _=>if P.eqGuardType P.depth t then none else
  match op with
  | .eql=>(S6 P 20 t x y).map λb=>.lit (.bool b)
  | .neq=>(S6 P 20 t x y).map λb=>.lit (.bool !b)
  | _=>none
 | .lit .nilIface,_ | _,.lit .nilIface=>none
 | _,_=>
  match op with
  | .eql=>(S6 P 20 t x y).map λb=>.lit (.bool b)
  | .neq=>(S6 P 20 t x y).map λb=>.lit (.bool !b)
  | _=>none
inductive EqShape:AV→AV→Value→Value→Prop
 | bool (x y a b):EqShape x y (.bool a) (.bool b)
 | int (k k' a b):EqShape (.lit (.int k a)) (.lit (.int k' b)) (.int k a) (.int k' b)
 | string (a b):EqShape (.lit (.string a)) (.lit (.string b)) (.string a) (.string b)
 | pointer (x y a b):EqShape x y (.pointer a) (.pointer b)
 | slice (x y a n c b m d):EqShape x y (.slice a n c) (.slice b m d)
 | func (x y v u) (h:v=.nilFunc∨∃f p c,v=.func f p c) (h':u=.nilFunc∨∃f p c,u=.func f p c):EqShape x y v u
 | map (x y a b):EqShape x y (.map a) (.map b)
 | agg (xs ys a b):EqShape (.agg xs) (.agg ys) (.agg a) (.agg b)
theorem Lw {a b:Option Bool}{e:Bool}(h:GL a b=some e):(∃c,a=some c)∧∃c,b=some c:=by
 unfold GL at h;split at h
 ·exact⟨⟨_,rfl⟩,⟨_,rfl⟩⟩
 ·exact⟨⟨_,rfl⟩,⟨_,rfl⟩⟩
 ·cases h
theorem eF {d:Nat}{t:TypeId}{x y:AV}{vx vy:Value}{e:Bool}(hx:VR G x vx)(hy:VR G y vy)(h:S6 P d t x y=some e):EqShape x y vx vy:=by
 cases d with
 | zero=>simp[S6]at h
 | succ d=>
  unfold S6 at h;split at h
  ·split at h
   ·simp only[VR]at hx hy;subst hx;subst hy;exact .bool ..
   ·cases h
  ·split at h
   ·simp only[VR]at hx hy;subst hx;subst hy;exact .int ..
   ·cases h
  ·split at h
   ·simp only[VR]at hx hy;subst hx;subst hy;exact .string ..
   ·cases h
  ·obtain⟨⟨a,h1⟩,⟨b,h2⟩⟩:=Lw h
   obtain⟨_,rfl,_⟩:=NT hx h1;obtain⟨_,rfl,_⟩:=NT hy h2;exact .pointer ..
  ·obtain⟨⟨a,h1⟩,⟨b,h2⟩⟩:=Lw h
   obtain⟨_,_,_,rfl,_⟩:=NU hx h1;obtain⟨_,_,_,rfl,_⟩:=NU hy h2;exact .slice ..
  ·obtain⟨⟨a,h1⟩,⟨b,h2⟩⟩:=Lw h
   refine .func _ _ _ _ ?_ ?_
   ·rcases NR hx h1 with⟨rfl,_⟩ | ⟨_,_,_,rfl,_⟩
    ·exact .inl rfl
    ·exact .inr ⟨_,_,_,rfl⟩
   ·rcases NR hy h2 with⟨rfl,_⟩ | ⟨_,_,_,rfl,_⟩
    ·exact .inl rfl
    ·exact .inr ⟨_,_,_,rfl⟩
  ·obtain⟨⟨a,h1⟩,⟨b,h2⟩⟩:=Lw h
   obtain⟨_,rfl,_⟩:=NS hx h1;obtain⟨_,rfl,_⟩:=NS hy h2;exact .map ..
  ·split at h
   ·simp only[VR]at hx hy;obtain⟨_,rfl,_⟩:=hx;obtain⟨_,rfl,_⟩:=hy;exact .agg ..
   ·cases h
  ·split at h
   ·simp only[VR]at hx hy;obtain⟨_,rfl,_⟩:=hx;obtain⟨_,rfl,_⟩:=hy;exact .agg ..
   ·cases h
  ·cases h
theorem gY {t:TypeId}{x y:AV}{vx vy:Value}{e:Bool}(hx:VR G x vx)(hy:VR G y vy)(h:S6 P 20 t x y=some e):(Op.equal t vx vy).run P w=.ok e w:=by
 have:=Z9 (w:=w) 20 t x y vx vy e hx hy h 9980
 exact this
theorem QU {op:BinOp}{t:TypeId}{ox oy:Operand}{x y:AV}{vx vy:Value}{e:Bool}(hx:VR G x vx)(hy:VR G y vy)(h:S6 P 20 t x y=some e)(hg:∀xs ys,x=.agg xs→y=.agg ys→P.eqGuardType P.depth t=false)
  (hni:∀k k' a b,x=.lit (.int k a)→y=.lit (.int k' b)→False) (hns:∀a b,x=.lit (.string a)→y=.lit (.string b)→False) (hop:op=.eql∨op=.neq):
  ((do eqGuard op t ox oy vx vy;binOp op t vx vy):Sem Value).run P w=.ok (.bool (if op=.eql then e else !e)) w:=by
 have q:=gY (w:=w) hx hy h;have sh:=eF hx hy h;cases sh with
 | int k k' a b=>exact(hni _ _ _ _ rfl rfl).elim
 | string a b=>exact(hns _ _ rfl rfl).elim
 | agg xs ys a b=>
  have hg':=hg _ _ rfl rfl;rcases hop with rfl | rfl
  ·simp[run_eqGuard_agg w _ _ _ _ _ _ hg',binOp,q]
  ·simp[run_eqGuard_agg w _ _ _ _ _ _ hg',binOp,q]
 | bool _ _ a b=>rcases hop with rfl | rfl<;>simp[eqGuard,binOp,q]
 | pointer _ _ a b=>rcases hop with rfl | rfl<;>simp[eqGuard,binOp,q]
 | slice _ _ a n c b m d=>rcases hop with rfl | rfl<;>simp[eqGuard,binOp,q]
 | func _ _ _ _ h1 h2=>
  rcases h1 with rfl | ⟨_,_,_,rfl⟩<;>rcases h2 with rfl | ⟨_,_,_,rfl⟩<;>rcases hop with rfl | rfl<;>simp[eqGuard,binOp,q]
 | map _ _ a b=>rcases hop with rfl | rfl<;>simp[eqGuard,binOp,q]
theorem nQ {op:BinOp}{t:TypeId}{ox oy:Operand}{x y r:AV}{vx vy:Value}(hx:VR G x vx)(hy:VR G y vy)(h:Ph P op t x y=some r):
  ∃u,((do eqGuard op t ox oy vx vy;binOp op t vx vy):Sem Value).run P w=.ok u w∧VR G r u:=by
 unfold Ph at h;split at h
 ·rename_i k a k' b
  simp only[VR]at hx hy;subst hx;subst hy;have g:(eqGuard op t ox oy (.int k a) (.int k' b)).run P w=.ok () w:=by cases op<;>simp[eqGuard]
  split at h
  ·obtain⟨v,hv,rfl⟩:=Option.map_eq_some_iff.1 h
   exact⟨v,by simp only[Sem.run_bind,g,Result.andThen_ok];exact SA hv,by simp only[VR]⟩
  ·obtain⟨v,hv,rfl⟩:=Option.map_eq_some_iff.1 h
   exact⟨v,by simp only[Sem.run_bind,g,Result.andThen_ok];exact SA hv,by simp only[VR]⟩
  ·split at h
   ·rename_i hk
    subst hk;obtain⟨v,hv,rfl⟩:=Option.map_eq_some_iff.1 h;exact⟨v,by simp only[Sem.run_bind,g,Result.andThen_ok];exact iY hv,by simp only[VR]⟩
   ·cases h
 ·rename_i a b
  simp only[VR]at hx hy;subst hx;subst hy;obtain⟨v,hv,rfl⟩:=Option.map_eq_some_iff.1 h;have g:(eqGuard op t ox oy (.string a) (.string b)).run P w=.ok () w:=by cases op<;>simp[eqGuard]
  exact⟨v,by simp only[Sem.run_bind,g,Result.andThen_ok];exact jI hv,by simp only[VR]⟩
 ·rename_i xs ys
  split at h
  ·cases h
  rename_i hg;split at h
  ·obtain⟨e,he,rfl⟩:=Option.map_eq_some_iff.1 h
   exact⟨_,QU hx hy he (λ_ _ _ _=>by simpa using hg) (λ_ _ _ _ h=>by cases h) (λ_ _ h=>by cases h) (.inl rfl),by simp only[VR];rfl⟩
  ·obtain⟨e,he,rfl⟩:=Option.map_eq_some_iff.1 h
   exact⟨_,QU hx hy he (λ_ _ _ _=>by simpa using hg) (λ_ _ _ _ h=>by cases h) (λ_ _ h=>by cases h) (.inr rfl),by simp only[VR];rfl⟩
  ·cases h
 ·cases h
 ·cases h
 ·rename_i _ _ h1 h2 h3
  split at h
  ·obtain⟨e,he,rfl⟩:=Option.map_eq_some_iff.1 h
   exact⟨_,QU hx hy he (λ_ _ e1 e2=>(h3 _ _ e1 e2).elim) (λ_ _ _ _ e1 e2=>h1 _ _ _ _ e1 e2) (λ_ _ e1 e2=>h2 _ _ e1 e2) (.inl rfl),by simp only[VR];rfl⟩
  ·obtain⟨e,he,rfl⟩:=Option.map_eq_some_iff.1 h
   exact⟨_,QU hx hy he (λ_ _ e1 e2=>(h3 _ _ e1 e2).elim) (λ_ _ _ _ e1 e2=>h1 _ _ _ _ e1 e2) (λ_ _ e1 e2=>h2 _ _ e1 e2) (.inr rfl),by simp only[VR];rfl⟩
  ·cases h
def Fb (op:UnOp)(x:AV):Option AV:=
 match op,x with
 | .neg,.lit (.int k n)=>some (.lit (.int k (k.wrap (0 - n))))
 | .not,.lit (.bool b)=>some (.lit (.bool !b))
 | .xor,.lit (.int k n)=>(GK .xor k (if k.signed then -1 else k.max) n).map .lit
 | _,_=>none
theorem rS {op:UnOp}{x r:AV}{v:Value}(hx:VR G x v)(h:Fb op x=some r):∃u,(Op.unary op v).run P w=.ok u w∧VR G r u:=by
 unfold Fb at h;split at h
 ·injection h with h;subst h;simp only[VR]at hx;subst hx
  exact⟨_,by simp only[Op.unary,Op.intArith];rfl,by simp only[VR]⟩
 ·injection h with h;subst h;simp only[VR]at hx;subst hx
  exact⟨_,by simp[Op.unary];rfl,by simp only[VR]⟩
 ·simp only[VR]at hx;subst hx
  obtain⟨u,hu,rfl⟩:=Option.map_eq_some_iff.1 h;simp only[GK]at hu;injection hu with hu;exact⟨u,by rw[← hu];simp[Op.unary,Op.intBits],by simp only[VR]⟩
 ·cases h
def Ai:AV→Option AV
 | .ptr o off=>some (.ptr o off)
 | .ip cs=>some (.ip cs)
 | .lit (.pointer (some a))=>some (.lit (.pointer (some a)))
 | .fn (.func f) a b=>some (.fn (.func f) a b)
 | _=>none
theorem WW {x r:AV}{v:Value}(hx:VR G x v)(h:Ai x=some r):r=x∧((∃a,v=.pointer (some a))∨∃f a b,v=.func (.func f) a b):=by
 unfold Ai at h;split at h<;>first
  | (injection h with h;subst h;refine⟨rfl,?_⟩;simp only[VR]at hx)
  | cases h
 ·exact .inl ⟨_,hx.2⟩
 ·obtain⟨ad,vs,e,_⟩:=hx;exact .inl ⟨_,e⟩
 ·exact .inl ⟨_,hx⟩
 ·obtain⟨a,b,e,_⟩:=hx;exact .inr ⟨_,_,_,e⟩
def Aj (x:AV)(i:Nat):Option AV:=
 match x with
 | .tup vs=>vs[i]?
 | _=>none
abbrev Ae2:=@Array.getElem?_toList
theorem Ya {x r:AV}{i:Nat}{v:Value}(hx:VR G x v)(h:Aj x i=some r):∃u,(Instr.extract v i).run P w=.ok u w∧VR G r u:=by
 unfold Aj at h;split at h
 ·simp only[VR]at hx
  obtain⟨vs,rfl,hs⟩:=hx;obtain⟨u,hu,hr⟩:=hs.get h;exact⟨u,by simp only[Instr.extract];rw[Ae2]at hu;simp[hu],hr⟩
 ·cases h
def yG:AV→Option UInt8
 | .lit (.int .u8 n)=>some (UInt8.ofNat n.toNat)
 | _=>none
def MB:List AV→Option (List Int)
 | []=>some []
 | .lit (.int .u8 n)::r=>(MB r).map (n::·)
 | _=>none
def QS (ns:List Int):ByteArray:=ns.foldl (λr n=>r.push (UInt8.ofNat n.toNat)) ByteArray.empty
theorem eR {cs:List AV}{vs:List Value}{ns:List Int}(h:VRs G cs vs)(hn:MB cs=some ns):vs=ns.map (Value.int .u8):=by
 induction cs generalizing vs ns with
 | nil=>simp only[VRs]at h;simp only[MB]at hn;injection hn with hn;subst hn;subst h;rfl
 | cons c cs ih=>
  simp only[VRs]at h;obtain⟨v,r,rfl,h1,h2⟩:=h;unfold MB at hn;split at hn
  ·rename_i he;cases he
  ·rename_i n r' he
   injection he with he1 he2;subst he1;subst he2;obtain⟨m,hm,rfl⟩:=Option.map_eq_some_iff.1 hn;simp only[VR]at h1;subst h1;rw[ih h2 hm];rfl
  ·cases hn
def Aa (H:AH)(sz:Nat)(x:AV):Option (List AV×Nat):=
 match x with
 | .imm cs len esz=>if esz=sz∧cs.length=len*sz then some (cs,len)else none
 | .sl o off len esz _=>match H[o]? with
  | some (some (.cells cs))=>if esz=sz∧off+len*sz≤cs.length then some ((cs.drop off).take (len*sz),len)else none
  | _=>none
 | .lit (.slice none 0 0)=>some ([],0)
 | .emp=>some ([],0)
 | _=>none
abbrev Am7:=@Nat.le_of_eq
theorem EX {m:Nat×Nat×Nat}{off esz:Nat}{cap:Room}{a:Addr}{c:Nat}(h:SlAt m off esz cap a c)(hc:c≠0):a=⟨m.1,m.2.1+off,none⟩∧off+c*esz≤m.2.2:=by
 unfold SlAt at h;split at h
 ·obtain⟨rfl,h0 | h0⟩:=h
  ·omega
  ·exact h0
 ·rcases h with⟨_,h0 | h0⟩
  ·omega
  ·exact⟨h0.1,Am7 h0.2⟩
theorem Sx {H:AH}(hr:HR G H){o off len esz:Nat}{cap:Room}{cs:List AV}(ho:H[o]?=some (some (.cells cs))){a:Addr}{c:Nat}(hat:SlAt (G.μ o) off esz cap a c)(hlc:len≤c)(hk:off+len*esz≤cs.length):
  ∃vs,VRs G ((cs.drop off).take (len*esz)) vs∧∀(i:Nat) (v:Value),vs[i]?=some v→G.w.cell? (a.add i)=some v∧v.oneCell'=true:=by
 obtain⟨vs,h1,h2⟩:=hr.cells ho;refine⟨(vs.drop off).take (len*esz),(h1.drop _).take _,λi v hv=>?_⟩
 have hlen:i<len*esz:=by
  rw[Ac9]at hv;split at hv
  ·assumption
  ·cases hv
 have hc:c≠0:=by
  rintro rfl;have:len=0:=by omega
  subst this;simp at hlen
 obtain⟨ha,_⟩:=EX hat hc;rw[Ac9,if_pos hlen,Ad1]at hv
 have:=h2 _ _ hv
 rw[ha,Addr.add_lit];rw[Addr.add_lit]at this;rw[Ag5];exact this
theorem Hv {H:AH}(hr:HR G H){sz:Nat}{x:AV}{v:Value}{cs:List AV}{n:Nat}(hx:VR G x v)(h:Aa H sz x=some (cs,n)):
  cs.length=n*sz∧∃a c vs,v=.slice a n c∧VRs G cs vs∧(a=none→vs=[]∧n=0∧c=0)∧∀ad,a=some ad→∀(i:Nat) (u:Value),vs[i]?=some u→G.w.cell? (ad.add i)=some u∧u.oneCell'=true:=by
 unfold Aa at h;split at h
 ·rename_i cs' len esz
  split at h
  ·rename_i hl
   injection h with h;injection h with h1 h2;subst h1;subst h2;simp only[VR]at hx;obtain⟨ad,c,vs,rfl,hlc,hh,hs⟩:=hx;refine⟨hl.2,some ad,c,vs,rfl,hs,by simp,λad' he i u hu=>?_⟩;injection he with he;subst he;rcases hh with rfl | ⟨_,hc⟩
   ·simp at hu
   ·exact hc _ _ hu
  ·cases h
 ·rename_i o off len esz cap
  split at h
  ·rename_i cs' ho
   split at h
   ·rename_i hl
    obtain⟨rfl,hl⟩:=hl;injection h with h;injection h with h1 h2;subst h1;subst h2;simp only[VR]at hx;obtain⟨hon,a,c,rfl,hlc,hat⟩:=hx;obtain⟨vs,h1,h2⟩:=Sx hr ho hat hlc hl;refine⟨by rw[Ac0,Ac7];omega,some a,c,vs,rfl,h1,by simp,λad' he i u hu=>?_⟩;injection he with he;subst he;exact h2 _ _ hu
   ·cases h
  ·cases h
 ·injection h with h
  injection h with h1 h2;subst h1;subst h2;simp only[VR]at hx;subst hx;exact⟨by simp,none,0,[],rfl,.nil,λ_=>⟨rfl,rfl,rfl⟩,λ_ he=>by cases he⟩
 ·injection h with h
  injection h with h1 h2;subst h1;subst h2;simp only[VR]at hx;obtain⟨a,rfl⟩:=hx;exact⟨by simp,some a,0,[],rfl,.nil,(λhe=>by cases he),λad _ i u hu=>by simp at hu⟩
 ·cases h
def EJ (P:Program)(H:AH)(src dst:TypeId)(x:AV):Option AV:=
 match P.underlying dst with
 | some (.int k)=>match P.underlying src,x with
  | some _,.lit (.int _ n)=>some (.lit (.int k (k.wrap n)))
  | _,_=>none
 | some .string=>match P.underlying src,x with
  | some _,.lit (.string s)=>some (.lit (.string s))
  | some (.slice e),x=>match P.underlying e,Aa H 1 x with
   | some (.int .u8),some (cs,_)=>(MB cs).map λns=>.lit (.string (QS ns))
   | _,_=>none
  | _,_=>none
 | _=>none
abbrev Ah5:=@Nat.mul_one
theorem XY {H:AH}(hr:HR G H){src dst:TypeId}{x r:AV}{v:Value}(hx:VR G x v)(h:EJ P H src dst x=some r):∃u,(convert src dst v).run P G.w=.ok u G.w∧VR G r u:=by
 unfold EJ at h;split at h
 ·rename_i k hd
  split at h
  ·rename_i d k' n hs
   injection h with h;subst h;simp only[VR]at hx;subst hx;refine⟨.int k (k.wrap n),?_,by simp only[VR]⟩;simp[convert,run_underlying hd,run_underlying hs,Conv.intToInt]
  ·cases h
 ·rename_i hd
  split at h
  ·rename_i d s hs
   injection h with h;subst h;simp only[VR]at hx;subst hx;refine⟨.string s,?_,by simp only[VR]⟩;simp[convert,run_underlying hd,run_underlying hs]
  ·rename_i y e hs _
   split at h
   ·rename_i cs n he hcs
    obtain⟨ns,hns,rfl⟩:=Option.map_eq_some_iff.1 h;obtain⟨hl,a,c,vs,rfl,hv,hnone,hsome⟩:=Hv hr hx hcs;have hvs:=eR hv hns;subst hvs;have e1:(convert src dst (.slice a n c)).run P G.w=(Conv.bytesToString (.slice a n c)).run P G.w:=run_convert_bytes_string G.w src dst e a n c hs he hd;refine⟨.string (QS ns),?_,by simp only[VR]⟩;rw[e1];cases a with
    | none=>
     obtain⟨h0,_,_⟩:=hnone rfl;have:ns=[]:=by simpa using h0
     subst this;rfl
    | some ad=>
     have hlen:(ns.map (Value.int .u8)).length=n:=by rw[← hv.length,hl,Ah5]
     have q:=run_loadCells_list (P:=P) G.w ad (ns.map (Value.int .u8)) (λj v hj=>(hsome ad rfl j v hj).1);rw[hlen]at q;exact run_bytesToString G.w ad n c ns q
   ·cases h
  ·cases h
 ·cases h
end
end
section
section
variable {P : Program} {G : Cfg}
def oneA:AV→Bool
 | .agg _ | .tup _ | .junk | .lit (.agg _) | .lit (.tuple _)=>false
 | _=>true
theorem dA {a:AV}{v:Value}(h:VR G a v)(h1:oneA a=true):v.oneCell'=true∧v.cells= #[v]:=by
 unfold oneA at h1;split at h1<;>first
  | (simp at h1;done)
  | skip
 cases a<;>simp only[VR]at h<;>try (simp_all;done)
 ·subst h
  rename_i h2 h3
  revert h2 h3
  generalize v=v0;cases v0<;>intro h2 h3<;>simp_all[Value.oneCell',Value.cells]
 ·obtain⟨_,rfl⟩:=h;exact⟨rfl,rfl⟩
 ·obtain⟨_,_,rfl,_⟩:=h;exact⟨rfl,rfl⟩
 ·obtain⟨_,_,_,rfl,_⟩:=h;exact⟨rfl,rfl⟩
 ·obtain⟨_,_,_,rfl,_⟩:=h;exact⟨rfl,rfl⟩
 ·obtain⟨_,rfl⟩:=h;exact⟨rfl,rfl⟩
 ·obtain⟨_,_,rfl,_⟩:=h;exact⟨rfl,rfl⟩
 ·obtain⟨_,rfl⟩:=h;exact⟨rfl,rfl⟩
def BH:AV→Option (List AV)
 | .agg cs=>if cs.all oneA then some cs else none
 | a=>if oneA a then some [a]else none
theorem NK {a:AV}{v:Value}{xs:List AV}(h:VR G a v)(hc:BH a=some xs):VRs G xs v.cells.toList∧∀u∈v.cells.toList,u.oneCell'=true:=by
 unfold BH at hc;split at hc
 ·rename_i cs
  split at hc
  ·rename_i hall
   injection hc with hc;subst hc;simp only[VR]at h;obtain⟨vs,rfl,hs⟩:=h;refine⟨hs,λu hu=>?_⟩;obtain⟨i,hi,rfl⟩:=List.mem_iff_getElem.1 hu;have hil:i<cs.length:=by rw[hs.length];exact hi
   obtain⟨v,hv,hx⟩:=hs.get (DR hil)
   have he:(Value.agg vs).cells.toList[i]=v:=by
    have hv':(Value.agg vs).cells.toList[i]?=some v:=hv;rw[DR hi]at hv';exact Option.some.inj hv'
   rw[he];exact(dA hx (Ae3.1 hall _ (List.getElem_mem hil))).1
  ·cases hc
 ·split at hc
  ·rename_i h1
   injection hc with hc;subst hc;obtain⟨h2,h3⟩:=dA h h1;rw[h3];exact⟨.cons h .nil,by simpa using h2⟩
  ·cases hc
def AR (cs:List AV)(off:Nat):List AV→List AV
 | [x]=>cs.set off x
 | xs=>cs.take off++xs++cs.drop (off+xs.length)
abbrev yU:=And.intro @List.length_cons.{0} @List.length_nil.{0}
theorem Ea (cs:List AV)(off:Nat)(xs:List AV)(h:off+xs.length≤cs.length):AR cs off xs=cs.take off++xs++cs.drop (off+xs.length):=by
 unfold AR
 split
 ·rename_i x
  simp only[yU]at h;rw[List.set_eq_take_append_cons_drop,if_pos (by omega)];simp
 ·rfl
abbrev yX:=And.intro @List.length_append.{0} @List.length_take.{0}
abbrev zK:=And.intro @List.length_drop.{0} @yX
theorem Pa (cs:List AV)(off:Nat)(xs:List AV)(h:off+xs.length≤cs.length):(AR cs off xs).length=cs.length:=by
 rw[Ea _ _ _ h];simp only[zK];omega
abbrev zY:=And.intro @Array.length_toList.{0} @List.size_toArray.{0}
abbrev Ah1:=@Nat.add_zero
abbrev Al8:=@List.getElem?_toArray
abbrev Af5:=@Array.length_toList
abbrev Ad3:=@List.append_assoc
abbrev Ac3:=@List.mem_of_getElem?
theorem HR.store {H:AH}(hr:HR G H){o off:Nat}{cs xs:List AV}(ho:H[o]?=some (some (.cells cs)))(hoff:off+xs.length≤cs.length){vs:List Value}(hv:VRs G xs vs)(h1:∀u∈vs,u.oneCell'=true):
  ∃G':Cfg,(storeCells ⟨(G.μ o).1,(G.μ o).2.1+off,none⟩ vs).run P G.w=.ok () G'.w∧Evo G G'∧G'.n=G.n∧G'.μ=G.μ∧HR G' (H.set o (some (.cells (AR cs off xs)))):=by
 obtain⟨c,e,us,hb,hlim,hcl,hus,hcell⟩:=hr.obj _ _ ho;have hlen:=hv.length;have hst:=run_storeCells_at P (G.μ o).1 ((G.μ o).2.1+off) e vs 0 c G.w hb (by omega) h1;simp only[Ah1]at hst;generalize hc':(c.toList.take ((G.μ o).2.1+off)++vs++c.toList.drop ((G.μ o).2.1+off+vs.length)).toArray=c' at hst
 have hsize:c'.size=c.size:=by
  rw[← hc'];simp only[zY,zK];omega
 have hE:Evo G {G with w:=G.w.setRow (G.μ o).1 c'}:=
  ⟨rfl,rfl,rfl,by simp,λk hk hL=>⟨setRow_other _ _ _ _ (λhe=>hL (by rw[he];exact hr.live _ _ ho)),hL⟩,Ac2 _,λ_ _=>rfl,rfl⟩
 refine⟨{G with w:=G.w.setRow (G.μ o).1 c'},hst,hE,rfl,rfl,?_⟩;refine hr.update hE rfl rfl ho _ (λk hk=>setRow_other _ _ _ _ hk) (by simp) ?_;have hl2:=hus.length;refine⟨c',e,us.take off++vs++us.drop (off+vs.length),setRow_heap _ _ _ _ _ _ hb,by rw[hsize];exact hlim,by rw[Pa _ _ _ hoff];exact hcl,?_,?_⟩
 ·rw[Ea _ _ _ hoff,hlen]
  exact(((hus.evo hE).take off).append (hv.evo hE)).append ((hus.evo hE).drop _)
 ·intro i v hi
  rw[← hc'];simp only[Al8]
  have hcl':((us.take off++vs++us.drop (off+vs.length))).length=us.length:=by
   simp only[zK];omega
  have hil:i<us.length:=by rw[← hcl'];exact(BD.1 hi).1
  have t1:(us.take off).length=off:=by rw[Ac0];omega
  have t2:(c.toList.take ((G.μ o).2.1+off)).length=(G.μ o).2.1+off:=by rw[Ac0,Af5];omega
  rw[Ad3]at hi⊢;rcases Ac5 i off with hlt | hge
  ·rw[Ab9 (by rw[t1];exact hlt),Ac9,if_pos hlt]at hi
   rw[Ab9 (by rw[t2];omega),Ac9,if_pos (by omega)]
   simpa using hcell i v hi
  ·rw[Ac4 (by rw[t1];exact hge),t1]at hi
   rw[Ac4 (by rw[t2];omega),t2,show(G.μ o).2.1+i - ((G.μ o).2.1+off)=i - off by omega];rcases Ac5 (i - off) vs.length with hlt | hge'
   ·rw[Ab9 hlt]at hi⊢
    exact⟨hi,h1 _ (Ac3 hi)⟩
   ·rw[Ac4 hge',Ad1]at hi⊢
    rw[show off+vs.length+(i - off - vs.length)=i by omega]at hi;rw[show(G.μ o).2.1+off+vs.length+(i - off - vs.length)=(G.μ o).2.1+i by omega]
    simpa using hcell i v hi
def B2 (cs:List AV)(off:Nat)(xs:List AV):List AV:=cs.take off++xs++cs.drop (off+xs.length)
theorem HR.put {H:AH}(hr:HR G H){o off:Nat}{cs xs:List AV}(ho:H[o]?=some (some (.cells cs)))(hoff:off≤cs.length)(hfit:off+xs.length≤(G.μ o).2.2){vs:List Value}(hv:VRs G xs vs)(h1:∀u∈vs,u.oneCell'=true):
  ∃G':Cfg,(storeCells ⟨(G.μ o).1,(G.μ o).2.1+off,none⟩ vs).run P G.w=.ok () G'.w∧Evo G G'∧G'.n=G.n∧G'.μ=G.μ∧HR G' (H.set o (some (.cells (B2 cs off xs)))):=by
 obtain⟨c,e,us,hb,hlim,hcl,hus,hcell⟩:=hr.obj _ _ ho;have hlen:=hv.length;have hst:=run_storeCells_at P (G.μ o).1 ((G.μ o).2.1+off) e vs 0 c G.w hb (by omega) h1;simp only[Ah1]at hst;generalize hc':(c.toList.take ((G.μ o).2.1+off)++vs++c.toList.drop ((G.μ o).2.1+off+vs.length)).toArray=c' at hst
 have hsize:c'.size=c.size:=by
  rw[← hc'];simp only[zY,zK];omega
 have hE:Evo G {G with w:=G.w.setRow (G.μ o).1 c'}:=
  ⟨rfl,rfl,rfl,by simp,λk hk hL=>⟨setRow_other _ _ _ _ (λhe=>hL (by rw[he];exact hr.live _ _ ho)),hL⟩,Ac2 _,λ_ _=>rfl,rfl⟩
 refine⟨{G with w:=G.w.setRow (G.μ o).1 c'},hst,hE,rfl,rfl,?_⟩;refine hr.update hE rfl rfl ho _ (λk hk=>setRow_other _ _ _ _ hk) (by simp) ?_;have hl2:=hus.length;refine⟨c',e,us.take off++vs++us.drop (off+vs.length),setRow_heap _ _ _ _ _ _ hb,by rw[hsize];exact hlim,by unfold B2;simp only[zK];omega,?_,?_⟩
 ·unfold B2;rw[hlen]
  exact(((hus.evo hE).take off).append (hv.evo hE)).append ((hus.evo hE).drop _)
 ·intro i v hi
  rw[← hc'];simp only[Al8];have t1:(us.take off).length=off:=by rw[Ac0];omega
  have t2:(c.toList.take ((G.μ o).2.1+off)).length=(G.μ o).2.1+off:=by rw[Ac0,Af5];omega
  rw[Ad3]at hi⊢;rcases Ac5 i off with hlt | hge
  ·rw[Ab9 (by rw[t1];exact hlt),Ac9,if_pos hlt]at hi
   rw[Ab9 (by rw[t2];omega),Ac9,if_pos (by omega)]
   simpa using hcell i v hi
  ·rw[Ac4 (by rw[t1];exact hge),t1]at hi
   rw[Ac4 (by rw[t2];omega),t2,show(G.μ o).2.1+i - ((G.μ o).2.1+off)=i - off by omega];rcases Ac5 (i - off) vs.length with hlt | hge'
   ·rw[Ab9 hlt]at hi⊢
    exact⟨hi,h1 _ (Ac3 hi)⟩
   ·rw[Ac4 hge',Ad1]at hi⊢
    rw[show off+vs.length+(i - off - vs.length)=i by omega]at hi;rw[show(G.μ o).2.1+off+vs.length+(i - off - vs.length)=(G.μ o).2.1+i by omega]
    simpa using hcell i v hi
def RE (P:Program)(H:AH)(t:TypeId)(a x:AV):Option AH:=
 match BW P t,BH x,a with
 | some n,some xs,.ptr o off=>match H[o]? with
  | some (some (.cells cs))=>if xs.length=n∧off+n≤cs.length then some (H.set o (some (.cells (AR cs off xs))))else none
  | _=>none
 | _,_,_=>none
theorem eQ {H H':AH}(hr:HR G H){t:TypeId}{a x:AV}{va vx:Value}(ha:VR G a va)(hx:VR G x vx)(h:RE P H t a x=some H'):
  ∃G':Cfg,(Instr.storeAt t va vx).run P G.w=.ok () G'.w∧Evo G G'∧HR G' H':=by
 unfold RE at h;split at h
 ·rename_i n xs o off hn hxs
  split at h
  ·rename_i cs ho
   split at h
   ·rename_i hb
    injection h with h;subst h;obtain⟨hv,h1⟩:=NK hx hxs;simp only[VR]at ha;obtain⟨_,rfl⟩:=ha;obtain⟨G',q,hE,_,_,hH⟩:=hr.store (P:=P) ho (by rw[hb.1];exact hb.2) hv h1;refine⟨G',?_,hE,hH⟩;have hs:vx.cells.size=n:=by rw[← Af5,← hv.length,hb.1]
    simp[Instr.storeAt,Instr.sureAddr,storeVar,Bz hn,hs,q]
   ·cases h
  ·cases h
 ·cases h
theorem HR.fresh {H:AH}(hr:HR G H)(c:Array Value)(e:TypeId){as:List AV}{vs:List Value}(h:VRs G as vs)(hcs:vs=c.toList)(h1:∀u∈vs,u.oneCell'=true):
  HR (G.new (.cells c e) c.size) (H++[some (.cells as)])∧Evo G (G.new (.cells c e) c.size)∧(G.new (.cells c e) c.size).μ H.length=(G.w.heap.size,0,c.size)∧H.length<(G.new (.cells c e) c.size).n:=by
 refine⟨hr.newCells c e (Ac2 _) (by rw[h.length,hcs];simp) h (λi v hv=>⟨by rw[hcs]at hv;simpa using hv,h1 _ (Ac3 hv)⟩),Evo.new _ _ _,by simp[Cfg.new,hr.n],by simp[Cfg.new,hr.n]⟩
def Pc (P:Program)(t:TypeId):Option Value:=(P.info? t).bind (·.zero)
theorem C6 {t:TypeId}{z:Value}(h:Pc P t=some z)(w:World):(zeroValue t).run P w=.ok z w:=by
 unfold Pc at h;obtain⟨i,hi,hz⟩:=Option.bind_eq_some_iff.1 h;simp[zeroValue,typeInfo,hi,hz]
def AD (H:AH)(x:AV):Option (AV×AH):=(BH x).map λcs=>(.ptr H.length 0,H++[some (.cells cs)])
theorem bX {H H':AH}(hr:HR G H){e:TypeId}{x r:AV}{v:Value}(hx:VR G x v)(h:AD H x=some (r,H')):
  ∃(G':Cfg) (u:Addr),(newVar e v).run P G.w=.ok u G'.w∧Evo G G'∧VR G' r (.pointer (some u))∧HR G' H':=by
 obtain⟨cs,hcs,he⟩:=Option.map_eq_some_iff.1 h;injection he with h1 h2;subst h1;subst h2;obtain⟨hv,ho⟩:=NK hx hcs;obtain⟨a,b,c,d⟩:=hr.fresh v.cells e hv rfl ho;refine⟨_,⟨G.w.heap.size,0,none⟩,?_,b,?_,a⟩
 ·simp[newVar,newRow,Cfg.new]
 ·simp only[VR]
  rw[c];exact⟨d,rfl⟩
def IT (place:Nat→Option (Nat×Nat))(cells:List AV):List (Nat×AV)→Option (List AV)
 | []=>some cells
 | (i,v)::rest=>match place i,BH v with
  | some (off,size),some xs=>if xs.length=size∧off+size≤cells.length then IT place (AR cells off xs) rest else none
  | _,_=>none
abbrev Ad7:=@List.length_cons
theorem SO (xs:List Value):∀(k off:Nat) (cells:Array Value),off+k+xs.length≤cells.size→
  (((xs.zipIdx k).foldl (fun cs (c,j)=>cs.setIfInBounds (off+j) c) cells)).toList=cells.toList.take (off+k)++xs++cells.toList.drop (off+k+xs.length):=by
 induction xs with
 | nil=>intro k off cells _;simp
 | cons x xs ih=>
  intro k off cells h;simp only[Ad7]at h;rw[List.zipIdx_cons,List.foldl_cons,ih (k+1) off _ (by simp;omega),Ak5]
  have e1:(cells.toList.set (off+k) x).take (off+(k+1))=cells.toList.take (off+k)++[x]:=by
   rw[show off+(k+1)=off+k+1 by omega,List.take_succ_eq_append_getElem (by simp;omega)];simp[List.take_set_of_le]
  have e2:(cells.toList.set (off+k) x).drop (off+(k+1)+xs.length)=cells.toList.drop (off+k+(x::xs).length):=by
   rw[List.drop_set_of_lt (by omega)]
   congr 1
   simp only[Ad7];omega
  rw[e1,e2,Ad3,Ad3,Ad3];rfl
abbrev Aa4:=And.intro @List.cons.injEq.{0} @List.map_cons.{0,0}
theorem M3 {place:Nat→Option (Nat×Nat)}:∀(parts:List (Nat×AV)) (vparts:List (Nat×Value)) (cells:List AV) (vcells:Array Value) (rs:List AV),
  (parts.map Prod.fst=vparts.map Prod.fst)→VRs G (parts.map Prod.snd) (vparts.map Prod.snd)→VRs G cells vcells.toList→IT place cells parts=some rs→
  ∃us,Instr.fill place vcells vparts=some us∧VRs G rs us.toList
 | [],vparts,cells,vcells,rs,hk,hp,hc,h=>by
  cases vparts with
  | cons _ _=>simp at hk
  | nil=>simp only[IT]at h;injection h with h;subst h;exact⟨vcells,rfl,hc⟩
 | (i,x)::rest,vparts,cells,vcells,rs,hk,hp,hc,h=>by
  cases vparts with
  | nil=>simp at hk
  | cons q vrest=>
   obtain⟨j,v⟩:=q;simp only[Aa4]at hk hp;obtain⟨rfl,hk⟩:=hk;simp only[VRs]at hp;obtain⟨_,_,he,hx,hr⟩:=hp;injection he with he1 he2;subst he1;subst he2;simp only[IT]at h;split at h
   ·rename_i off size xs hpl hxs
    split at h
    ·rename_i hb
     obtain⟨hv,_⟩:=NK hx hxs;have hsz:v.cells.size=size:=by rw[← Af5,← hv.length,hb.1]
     have hcl:cells.length=vcells.size:=by rw[← Af5];exact hc.length
     have hxl:xs.length=v.cells.size:=by rw[← Af5];exact hv.length
     have hfold:=SO v.cells.toList 0 off vcells (by rw[Af5];omega);simp only[Ah1]at hfold
     obtain⟨us,hus,hR⟩:=M3 rest vrest (AR cells off xs) ((v.cells.toList.zipIdx).foldl (fun cs (c,j)=>cs.setIfInBounds (off+j) c) vcells) rs hk hr (by
      rw[hfold,Ea _ _ _ (by omega),hv.length];exact((hc.take off).append hv).append (hc.drop _)) h
     refine⟨us,?_,hR⟩;rw[← hus]
     conv=>lhs;unfold Instr.fill
     simp only[hpl];rw[if_neg (by simp;omega)]
     congr 1
     rw[← Array.foldl_toList,Array.toList_zipIdx]
    ·cases h
   ·cases h
def Ub (P:Program)(t:TypeId)(parts:List (Nat×AV)):Option AV:=
 match Pc P t,P.underlying t with
 | some z,some (.struct fields)=>
  if fields.toList.all λf=>(BW P f.type).isSome then
   (IT (λi=>(fields[i]?).bind λf=>(BW P f.type).map λn=>(f.offset,n)) (z.cells.toList.map .lit) parts).map .agg
  else none
 | some z,some (.array _ e)=>match BW P e with
  | some sz=>(IT (λi=>some (i*sz,sz)) (z.cells.toList.map .lit) parts).map .agg
  | none=>none
 | _,_=>none
abbrev Ae0:=@Bool.and_eq_true
theorem TG (fields:Array Field)(h:fields.toList.all (λf=>(BW P f.type).isSome)=true)(w:World):
  (fields.mapM λf=>(do pure (f.offset,← sizeOf f.type):Sem (Nat×Nat))).run P w=.ok (fields.map λf=>(f.offset,(BW P f.type).getD 0)) w:=by
 obtain⟨l⟩:=fields;simp only[List.mapM_toArray]
 have:∀(l:List Field),l.all (λf=>(BW P f.type).isSome)=true→(l.mapM λf=>(Prod.mk f.offset<$>sizeOf f.type:Sem (Nat×Nat))).run P w=.ok (l.map λf=>(f.offset,(BW P f.type).getD 0)) w:=by
  intro l hl
  induction l with
  | nil=>simp
  | cons f l ih=>
   simp only[An4,Ae0]at hl;obtain⟨n,hn⟩:=Option.isSome_iff_exists.1 hl.1;simp[Bz hn,ih hl.2,hn]
 simp[this l h]
abbrev Ao4:=@Array.getElem?_map
theorem dY {t:TypeId}{parts:List (Nat×AV)}{vparts:Array (Nat×Value)}{r:AV}(hk:parts.map Prod.fst=vparts.toList.map Prod.fst)(hp:VRs G (parts.map Prod.snd) (vparts.toList.map Prod.snd))(h:Ub P t parts=some r)(w:World):
  ∃u,(Instr.build t vparts).run P w=.ok u w∧VR G r u:=by
 unfold Ub at h;split at h
 ·rename_i z fields hz hu
  split at h
  ·rename_i hall
   obtain⟨rs,hrs,rfl⟩:=Option.map_eq_some_iff.1 h;obtain⟨us,hus,hR⟩:=M3 parts vparts.toList _ z.cells rs hk hp (VRs.lits _) hrs
   have e:(fun (i:Nat)=>(fields[i]?).bind λf=>(BW P f.type).map λn=>(f.offset,n))=fun (i:Nat)=>(fields.map λf=>(f.offset,(BW P f.type).getD 0))[i]?:=by
    funext i
    rw[Ao4];cases hf:fields[i]? with
    | none=>rfl
    | some f=>
     have hm:f∈fields.toList:=by
      rw[← Ae2]at hf;exact Ac3 hf
     obtain⟨n,hn⟩:=Option.isSome_iff_exists.1 (Ae3.1 hall f hm);simp[hn]
   rw[e]at hus;refine⟨.agg us,?_,by simp only[VR];exact⟨_,rfl,hR⟩⟩;simp only[Instr.build,Sem.run_bind,C6 hz,run_underlying hu,Result.andThen_ok,TG fields hall];rw[hus];rfl
  ·cases h
 ·rename_i z n e hz hu
  split at h
  ·rename_i sz hsz
   obtain⟨rs,hrs,rfl⟩:=Option.map_eq_some_iff.1 h;obtain⟨us,hus,hR⟩:=M3 parts vparts.toList _ z.cells rs hk hp (VRs.lits _) hrs;refine⟨.agg us,?_,by simp only[VR];exact⟨_,rfl,hR⟩⟩;simp only[Instr.build,Sem.run_bind,C6 hz,run_underlying hu,Result.andThen_ok,Bz hsz];simp[hus]
  ·cases h
 ·cases h
end
end
section
section
variable {P : Program} {G : Cfg}
theorem getElem?_madeCells (z:Array Value)(n i:Nat):(madeCells z n)[i]?=if i<n then some (z[i % z.size]!)else none:=by
 unfold madeCells;rw[Ao4,Array.getElem?_range]
 split<;>simp
def Be (z:List AV)(n:Nat):List AV:=(List.replicate n z).flatten
abbrev Al0:=@List.replicate_succ
abbrev An2:=@List.flatten_cons
abbrev Ac6:=@List.length_append
abbrev Af6:=@Nat.succ_mul
theorem Di (z:List AV)(n:Nat):(Be z n).length=n*z.length:=by
 induction n with
 | zero=>simp[Be]
 | succ n ih=>
  unfold Be at ih⊢;rw[Al0,An2,Ac6,ih,Af6];omega
theorem mZ (z:List AV)(n i:Nat)(h:i<n*z.length):(Be z n)[i]?=z[i % z.length]?:=by
 induction n generalizing i with
 | zero=>simp at h
 | succ n ih=>
  unfold Be at ih⊢;rw[Al0,An2];rcases Ac5 i z.length with hi | hi
  ·rw[Ab9 hi,Nat.mod_eq_of_lt hi]
  ·rw[Ac4 hi,ih (i - z.length) (by rw[Af6]at h;omega)]
   congr 1
   rw[Nat.mod_eq_sub_mod hi]
abbrev Al4:=@Nat.mod_lt
abbrev Ae7:=@List.getElem?_map
abbrev Ae9:=@List.length_map
abbrev Ah9:=@Array.getElem?_eq_getElem
abbrev Ai8:=@Option.map_some
theorem Lr {z:Array Value}(n:Nat)(hz:z.size≠0):VRs G (Be (z.toList.map .lit) n) (madeCells z (n*z.size)).toList:=by
 refine VRs.of_get (by rw[Di];simp[size_madeCells]) λi a v ha hv=>?_
 have hl:i<n*z.size:=by
  have:=(BD.1 ha).1
  rw[Di]at this;simpa using this
 rw[mZ _ _ _ (by simpa using hl)]at ha;rw[Ae2,getElem?_madeCells,if_pos hl]at hv;injection hv with hv;have hm:i % z.size<z.size:=Al4 _ (by omega);rw[Ae7]at ha;simp only[Ae9,Af5,Ae2,Ah9 hm,Ai8]at ha;injection ha with ha;subst ha;rw[← hv];simp only[VR];simp[hm]
theorem Ns {z:Array Value}(n:Nat)(h1:∀u∈z.toList,u.oneCell'=true)(hz:z.size≠0):∀u∈(madeCells z n).toList,u.oneCell'=true:=by
 intro u hu;obtain⟨i,hi,rfl⟩:=List.mem_iff_getElem.1 hu;have:(madeCells z n)[i]?=some ((madeCells z n).toList[i]):=by rw[← Ae2];exact DR hi
 rw[getElem?_madeCells]at this;split at this
 ·injection this with this
  rw[← this];have hm:i % z.size<z.size:=Al4 _ (by omega);refine h1 _ ?_;simp only[hm,getElem!_pos];exact Array.getElem_mem_toList hm
 ·cases this
def M4 (z:Value):Bool:=z.cells.toList.all Value.oneCell'
def bW (P:Program)(H:AH)(t:TypeId)(l c:AV):Option (AV×AH):=
 match P.underlying t,l,c with
 | some (.slice e),.lit (.int _ n),.lit (.int _ m)=>
  match P.info? e with
  | some i=>match i.zero with
   | some z=>if 0≤n∧n≤m∧(i.bytes:Int)*m≤281474976710656∧m≤9223372036854775807∧z.cells.size=i.size∧i.size≠0∧M4 z=true then
     some (.sl H.length 0 n.toNat i.size (.ex m.toNat),H++[some (.cells (Be (z.cells.toList.map .lit) m.toNat))])else none
   | none=>none
  | none=>none
 | _,_,_=>none
theorem jB {H H':AH}(hr:HR G H){t:TypeId}{l c r:AV}{vl vc:Value}(hl:VR G l vl)(hc:VR G c vc)(h:bW P H t l c=some (r,H')):
  ∃(G':Cfg) (u:Value),(Instr.makeSlice t vl vc).run P G.w=.ok u G'.w∧Evo G G'∧VR G' r u∧HR G' H':=by
 unfold bW at h;split at h
 ·rename_i e kl n kc m hu
  split at h
  ·rename_i i hi
   split at h
   ·rename_i z hz
    split at h
    ·rename_i hb
     obtain⟨h0,h1,h2,h3,h4,h5,h6⟩:=hb;injection h with h;injection h with ha hb';subst ha;subst hb';simp only[VR]at hl hc;subst hl;subst hc;have q:=run_make (P:=P) G.w t e i z hu hi hz kl kc n m h0 h1 h2 h3;have hsz:m.toNat*i.size=m.toNat*z.cells.size:=by rw[h4]
     have hz0:z.cells.size≠0:=by rw[h4];exact h5
     obtain⟨a,b,d,f⟩:=hr.fresh (madeCells z.cells (m.toNat*i.size)) e (by rw[hsz];exact Lr m.toNat hz0) rfl (Ns _ (λu hu=>Ae3.1 h6 u hu) hz0);refine⟨_,_,q,b,?_,a⟩;simp only[VR];refine⟨f,_,_,rfl,by omega,?_⟩;rw[d];refine⟨rfl,.inr ⟨rfl,?_⟩⟩;simp[size_madeCells]
    ·cases h
   ·cases h
  ·cases h
 ·cases h
def Ed (P:Program)(H:AH)(t:TypeId)(len:Nat)(parts:List (Nat×AV)):Option (AV×AH):=
 match P.underlying t with
 | some (.slice e)=>match P.info? e with
  | some i=>match i.zero with
   | some z=>if len*i.size≤16777216∧z.cells.size=i.size∧i.size≠0∧M4 z=true then
     (IT (λj=>some (j*i.size,i.size)) (Be (z.cells.toList.map .lit) len) parts).map λcs=>(.sl H.length 0 len i.size (.ex len),H++[some (.cells cs)])
    else none
   | none=>none
  | none=>none
 | _=>none
theorem PJ {place:Nat→Option (Nat×Nat)}:∀{parts:List (Nat×AV)} {cells rs:List AV},IT place cells parts=some rs→rs.length=cells.length
 | [],cells,rs,h=>by simp only[IT]at h;injection h with h;rw[h]
 | (i,v)::rest,cells,rs,h=>by
  simp only[IT]at h;split at h
  ·split at h
   ·rename_i hb
    rw[PJ h,Pa _ _ _ (by omega)]
   ·cases h
  ·cases h
abbrev Af8:=@List.mem_append
abbrev Ag1:=@List.mem_of_mem_take
abbrev Ah6:=@List.mem_of_mem_drop
theorem UF {place:Nat→Option (Nat×Nat)}:∀(vparts:List (Nat×Value)) (vcells us:Array Value),(∀p∈vparts,∀u∈p.2.cells.toList,u.oneCell'=true)→(∀u∈vcells.toList,u.oneCell'=true)→
  Instr.fill place vcells vparts=some us→∀u∈us.toList,u.oneCell'=true
 | [],vcells,us,_,hc,h=>by simp only[Instr.fill]at h;injection h with h;subst h;exact hc
 | (i,v)::rest,vcells,us,hp,hc,h=>by
  unfold Instr.fill at h;split at h
  ·cases h
  ·rename_i off size hpl
   split at h
   ·cases h
   ·rename_i hb
    simp at hb;refine UF rest _ us (λp hp'=>hp p (by simp[hp'])) ?_ h;intro u hu;rw[← Array.foldl_toList,Array.toList_zipIdx,SO _ 0 off vcells (by rw[Af5];omega)]at hu;simp only[Af8]at hu;rcases hu with(hu | hu) | hu
    ·exact hc u (Ag1 hu)
    ·exact hp (i,v) (by simp) u hu
    ·exact hc u (Ah6 hu)
abbrev Aj7:=@List.map_cons
abbrev Ad5:=@List.mem_cons
theorem HX {place:Nat→Option (Nat×Nat)}:∀{parts:List (Nat×AV)} {vparts:List (Nat×Value)} {cells rs:List AV},VRs G (parts.map Prod.snd) (vparts.map Prod.snd)→IT place cells parts=some rs→
  ∀p∈vparts,∀u∈p.2.cells.toList,u.oneCell'=true
 | [],vparts,cells,rs,hp,h=>by
  cases vparts with
  | nil=>simp
  | cons q r=>simp[VRs]at hp
 | (i,x)::rest,vparts,cells,rs,hp,h=>by
  cases vparts with
  | nil=>simp
  | cons q vrest=>
   simp only[Aj7,VRs]at hp;obtain⟨_,_,he,hx,hr⟩:=hp;simp only[List.cons.injEq]at he;obtain⟨he1,he2⟩:=he;subst he1;subst he2;simp only[IT]at h;split at h
   ·rename_i off size xs hpl hxs
    split at h
    ·intro p hp u hu
     rcases Ad5.1 hp with rfl | hp
     ·exact(NK hx hxs).2 u hu
     ·exact HX hr h p hp u hu
    ·cases h
   ·cases h
theorem Uc {H H':AH}(hr:HR G H){t:TypeId}{len:Nat}{parts:List (Nat×AV)}{vparts:Array (Nat×Value)}{r:AV}(hk:parts.map Prod.fst=vparts.toList.map Prod.fst)
  (hp:VRs G (parts.map Prod.snd) (vparts.toList.map Prod.snd)) (h:Ed P H t len parts=some (r,H')):
  ∃(G':Cfg) (u:Value),(Instr.buildSlice t len vparts).run P G.w=.ok u G'.w∧Evo G G'∧VR G' r u∧HR G' H':=by
 unfold Ed at h;split at h
 ·rename_i e hu
  split at h
  ·rename_i i hi
   split at h
   ·rename_i z hz
    split at h
    ·rename_i hb
     obtain⟨h0,h4,h5,h6⟩:=hb;obtain⟨cs,hcs,he⟩:=Option.map_eq_some_iff.1 h;injection he with ha hb';subst ha;subst hb';have hz0:z.cells.size≠0:=by rw[h4];exact h5
     have hv:=Lr (G:=G) (z:=z.cells) len hz0;rw[h4]at hv;obtain⟨us,hus,hR⟩:=M3 parts vparts.toList _ (madeCells z.cells (len*i.size)) cs hk hp hv hcs;have hone:=UF vparts.toList _ us (HX hp hcs) (Ns _ (λu hu=>Ae3.1 h6 u hu) hz0) hus;obtain⟨a,b,d,f⟩:=hr.fresh us e hR rfl hone
     have hsz:us.size=len*i.size:=by
      rw[← Af5,← hR.length,PJ hcs,Di];simp[h4]
     refine⟨_,.slice (some ⟨G.w.heap.size,0,none⟩) len len,?_,b,?_,a⟩
     ·have hzi:(P.info? e).bind (·.zero)=some z:=by rw[hi];exact hz
      have hn:¬(16777216<len*i.size):=by omega
      by_cases hl:len*i.size=0
      ·have hm0:madeCells z.cells 0= #[]:=by simp[madeCells]
       rw[hl,hm0]at hus;have hr0:Array.range 0= #[]:=rfl;simp[hr0,Instr.buildSlice,run_underlying hu,sizeOf,typeInfo,hi,hl,hus,newRow,Cfg.new]
      ·have:=hus
       unfold madeCells at this;simp[Instr.buildSlice,run_underlying hu,sizeOf,typeInfo,hi,hn,hl,C6 hzi,this,newRow,Cfg.new]
     ·simp only[VR]
      refine⟨f,_,_,rfl,Ac2 _,?_⟩;rw[d];refine⟨rfl,.inr ⟨rfl,?_⟩⟩;simp[hsz]
    ·cases h
   ·cases h
  ·cases h
 ·cases h
def Bf (H:AH)(sz:Nat)(x:AV):Option (List AV×Nat):=
 match x with
 | .lit (.string s)=>if sz=1 then some (s.data.toList.map λb=>.lit (.int .u8 b.toNat),s.size)else none
 | x=>Aa H sz x
abbrev Ae6:=@List.mem_map
theorem Ye {H:AH}(hr:HR G H){tx:TypeId}{sz:Nat}{x:AV}{v:Value}{cs:List AV}{n:Nat}(hx:VR G x v)(hk:(∃e',P.underlying tx=some (.slice e'))∨P.underlying tx=some .string)(h:Bf H sz x=some (cs,n)):
  cs.length=n*sz∧∃vs,VRs G cs vs∧Src P sz tx v n vs G.w:=by
 unfold Bf at h;split at h
 ·rename_i s
  split at h
  ·rename_i hs
   subst hs;injection h with h;injection h with h1 h2;subst h1;subst h2;simp only[VR]at hx;subst hx;refine⟨by simp,byteCells s,?_,?_⟩
   ·unfold byteCells
    have:=VRs.lits (G:=G) (s.data.toList.map λb=>Value.int .u8 b.toNat)
    simpa[List.map_map,Function.comp_def]using this
   ·exact⟨hk,λ_=>rfl,firstCells_string s G.w,firstCells_string s _,by rw[byteCells_length,Ah5],λu hu=>by
     unfold byteCells at hu;obtain⟨_,_,rfl⟩:=Ae6.1 hu
     rfl⟩
  ·cases h
 ·obtain⟨hl,a,c,vs,rfl,hv,hnone,hsome⟩:=Hv hr hx h
  refine⟨hl,vs,hv,?_⟩;have hvl:vs.length=n*sz:=by rw[← hv.length,hl]
  cases a with
  | none=>
   obtain⟨rfl,rfl,rfl⟩:=hnone rfl;exact⟨hk,λ_=>rfl,run_firstCells_none G.w sz 0 0 0,run_firstCells_none _ sz 0 0 0,by simp,λ_ h=>by cases h⟩
  | some ad=>
   exact⟨hk,λ_=>rfl,run_firstCells_some G.w sz n ad n c vs hvl λj v hj=>(hsome ad rfl j v hj).1,
    run_firstCells_some G.w.drew sz n ad n c vs hvl λj v hj=>by simpa using(hsome ad rfl j v hj).1,hvl,λu hu=>by
     obtain⟨j,hj,rfl⟩:=List.mem_iff_getElem.1 hu;exact(hsome ad rfl j _ (DR hj)).2⟩
def LI (H:AH)(size bytes:Nat)(s:AV)(news:List AV)(n:Nat):Option (AV×AH):=
 match s with
 | .lit (.slice none 0 0)=>
  if n=0 then some (.lit (.slice none 0 0),H)else
  if n*bytes≤140737488355328 then some (.sl H.length 0 n size (.ge n),H++[some (.cells news)])else none
 | .sl o off len esz cap=>match H[o]? with
  | some (some (.cells cs))=>
   if esz≠size∨¬off+len*esz≤cs.length then none else
   match cap with
   | .ex k=>
    if len+n≤k then
     some (.sl o off (len+n) esz (.ex k),H.set o (some (.cells (B2 cs (off+len*esz) news))))
    else if(len+n)*bytes≤140737488355328 then some (.sl H.length 0 (len+n) size (.ge (len+n)),H++[some (.cells ((cs.drop off).take (len*esz)++news))])else none
   | .ge k=>
    if n=0 then some (.sl o off len esz (.ge k),H)else
    if len+n≤k then
     some (.sl o off (len+n) esz (.ge k),H.set o (some (.cells (B2 cs (off+len*esz) news))))
    else if(len+n)*bytes≤140737488355328 then some (.sl H.length 0 (len+n) size (.ge (len+n)),H.set o none++[some (.cells ((cs.drop off).take (len*esz)++news))])else none
  | _=>none
 | .imm cs len esz=>if n=0 then some (.imm cs len esz,H)else none
 | .emp=>if n=0 then some (.emp,H)else
  if n*bytes≤140737488355328 then some (.sl H.length 0 n size (.ge n),H++[some (.cells news)])else none
 | _=>none
def Ls (P:Program)(H:AH)(ts tx:TypeId)(s x:AV):Option (AV×AH):=
 match P.underlying ts,P.underlying tx with
 | some (.slice e),some (.slice _) | some (.slice e),some .string=>
  match P.info? e with
  | none=>none
  | some i=>match i.zero with
   | none=>none
   | some z=>match Bf H i.size x with
    | none=>none
    | some (news,n)=>
     if i.size=0∨i.bytes=0∨z.cells.size≠i.size then none else
     LI H i.size i.bytes s news n
 | _,_=>none
theorem Hi {t tx ty e:TypeId}{i:TypeInfo}(ht:P.underlying t=some (.slice e))(hi:P.info? e=some i){b off sLen sCap:Nat}{x:Value}{n:Nat}{news:List Value}{w w':World}(hs:Src P i.size tx x n news w)
  (hroom:sLen+n≤sCap) (hst:(storeCells ⟨b,off+sLen*i.size,none⟩ news).run P w=.ok () w'):
  (Builtin.append_ #[t,tx] ty #[.slice (some ⟨b,off,none⟩) sLen sCap,x]).run P w=.ok (.slice (some ⟨b,off,none⟩) (sLen+n) sCap) w':=by
 rcases hs.kind with⟨e',hk⟩ | hk<;>simp[Builtin.append_,run_underlying ht,run_underlying hk,sizeOf,typeInfo,hi,hs.len,hroom,hs.cells,Addr.add_lit,hst]
theorem Ex {t tx ty e:TypeId}{i:TypeInfo}(ht:P.underlying t=some (.slice e))(hi:P.info? e=some i){a:Option Addr}{sLen sCap:Nat}{x:Value}{w:World}(hs:Src P i.size tx x 0 [] w)
  (hroom:sLen≤sCap):(Builtin.append_ #[t,tx] ty #[.slice a sLen sCap,x]).run P w=.ok (.slice a sLen sCap) w:=by
 rcases hs.kind with⟨e',hk⟩ | hk<;>cases a<;>simp[Builtin.append_,run_underlying ht,run_underlying hk,sizeOf,typeInfo,hi,hs.len,hroom,hs.cells,storeCells]
abbrev Aa0:=And.intro @Array.size_append.{0} @List.size_toArray.{0}
abbrev Am1:=@Array.getElem?_append_left
theorem I6 {H:AH}(hr:HR G H){t tx ty e:TypeId}{i:TypeInfo}{z:Value}(ht:P.underlying t=some (.slice e))(hi:P.info? e=some i)(hz:i.zero=some z)(hs0:i.size≠0)(hb0:i.bytes≠0)(hzs:z.cells.size=i.size)
  {a:Option Addr} {sLen sCap:Nat} {x:Value} {n:Nat} {olds news:List Value} {as bs:List AV} (hold:VRs G as olds) (hnew:VRs G bs news)
  (holds:∀ad,a=some ad→∀(j:Nat) (u:Value),olds[j]?=some u→G.w.cell? (ad.add j)=some u∧u.oneCell'=true) (hnone:a=none→olds=[]) (hol:olds.length=sLen*i.size) (hs:Src P i.size tx x n news G.w)
  (hg:sCap<sLen+n) (hbytes:(sLen+n)*i.bytes≤140737488355328):
  ∃(G':Cfg) (u:Value),(Builtin.append_ #[t,tx] ty #[.slice a sLen sCap,x]).run P G.w=.ok u G'.w∧Evo G G'∧VR G' (.sl H.length 0 (sLen+n) i.size (.ge (sLen+n))) u∧HR G' (H++[some (.cells (as++bs))]):=by
 have hn63:((sLen+n:Nat):Int)≤9223372036854775807:=by
  have:(sLen+n)*1≤(sLen+n)*i.bytes:=Nat.mul_le_mul_left _ (by omega);omega
 have hfc:(Builtin.firstCells i.size sLen (.slice a sLen sCap)).run P G.w.drew=.ok olds.toArray G.w.drew:=by
  cases a with
  | none=>rw[hnone rfl];exact run_firstCells_none G.w.drew i.size sLen sLen sCap
  | some ad=>exact run_firstCells_some G.w.drew i.size sLen ad sLen sCap olds hol λj v hj=>by simpa using(holds ad rfl j v hj).1
 have q:=run_append_grow_src (P:=P) G.w t tx ty e i z ht hi hz a sLen sCap olds hfc x n news hs hg hn63 (growslice_fits hg hbytes);generalize hcap:grownCap G.w (sLen+n) sCap e=cap at q;have hge:sLen+n≤cap:=by rw[← hcap];exact grownCap_ge _ _ _ _
 generalize hc:(olds++news).toArray++Builtin.zeroCells z.cells (cap - (sLen+n))=c at q
 have hsize:c.size=cap*i.size:=by
  rw[← hc];simp only[Aa0,Ac6,size_zeroCells,hzs,hol,hs.newsLen,← Ag9]
  congr 1
  omega
 have hl:=hold.length;have hl':=hnew.length
 let G1:Cfg:={G with w:=G.w.drew}
 have hr1:HR G1 H:=hr.drew
 have hR:HR (G1.new (.cells c e) (cap*i.size)) (H++[some (.cells (as++bs))]):=by
  refine hr1.newCells c e (by rw[hsize];exact Ac2 _) ?_ ((hold.append hnew).evo (Evo.drew G)) ?_
  ·rw[Ac6,hl,hl',hol,hs.newsLen,← Ag9]
   exact Ad0 _ hge
  ·intro j v hj
   refine⟨?_,?_⟩
   ·rw[← hc,Am1 (by simpa using(BD.1 hj).1)]
    simpa using hj
   ·rcases Af8.1 (Ac3 hj)with hm | hm
    ·cases a with
     | none=>rw[hnone rfl]at hm;cases hm
     | some ad=>
      obtain⟨k,hk,rfl⟩:=List.mem_iff_getElem.1 hm;exact(holds ad rfl k _ (DR hk)).2
    ·exact hs.one _ hm
 have hμ:(G1.new (.cells c e) (cap*i.size)).μ H.length=(G.w.heap.size,0,cap*i.size):=by simp[Cfg.new,G1,hr.n]
 refine⟨G1.new (.cells c e) (cap*i.size),_,q,(Evo.drew G).trans (Evo.new G1 _ _),?_,hR⟩;simp only[VR];refine⟨by simp[Cfg.new,G1,hr.n],_,_,rfl,hge,?_⟩;rw[hμ];exact⟨hge,.inr ⟨rfl,by simp⟩⟩
abbrev Af9:=@List.eq_nil_of_length_eq_zero
theorem Src.zero {sz:Nat}{tx:TypeId}{v:Value}{vs:List Value}{w:World}(h:Src P sz tx v 0 vs w):vs=[]:=Af9 (by rw[h.newsLen];simp)
abbrev Ae5:=@List.ext_getElem?
theorem Zu {α:Type}{l:List α}{i:Nat}{x:α}(h:l[i]?=some x):l.set i x=l:=by
 apply Ae5;intro j;rw[Ag6]
 split
 ·rename_i hij;subst hij;rw[h];rw[if_pos (BD.1 h).1]
 ·rfl
abbrev Af1:=@List.append_nil
abbrev Ai0:=@List.length_nil
abbrev Af3:=@List.take_append_drop
theorem XT {H H':AH}(hr:HR G H){ts tx ty e:TypeId}{s x r:AV}{vs vx:Value}(hs:VR G s vs)(hx:VR G x vx)(hu:P.underlying ts=some (.slice e))(hk:(∃e',P.underlying tx=some (.slice e'))∨P.underlying tx=some .string)
  {i:TypeInfo} (hi:P.info? e=some i) {z:Value} (hz:i.zero=some z) {news:List AV} {n:Nat} (happ:Bf H i.size x=some (news,n)) (hs0:i.size≠0) (hb0:i.bytes≠0) (hzs:z.cells.size=i.size)
  (h:LI H i.size i.bytes s news n=some (r,H')):
  ∃(G':Cfg) (u:Value),(Builtin.append_ #[ts,tx] ty #[vs,vx]).run P G.w=.ok u G'.w∧Evo G G'∧VR G' r u∧HR G' H':=by
 obtain⟨hnl,nvs,hnv,hsrc⟩:=Ye hr hx hk happ;unfold LI at h;split at h
 ·
  simp only[VR]at hs;subst hs;split at h
  ·rename_i hn
   subst hn;injection h with h;injection h with h1 h2;subst h1;subst h2
   have:=Src.zero hsrc
   subst this;exact⟨G,_,Ex hu hi hsrc (Ac2 _),Evo.refl G,by simp only[VR],hr⟩
  ·rename_i hn
   split at h
   ·rename_i hbd
    injection h with h;injection h with h1 h2;subst h1;subst h2
    have:=I6 hr (ty:=ty) hu hi hz hs0 hb0 hzs (a:=none) (sLen:=0) (sCap:=0) (olds:=[]) (as:=[]) .nil hnv (by simp) (by simp) (by simp) hsrc (by omega) (by simpa using hbd)
    simpa using this
   ·cases h
 ·
  rename_i o off len esz cap;split at h
  ·rename_i cs ho
   split at h
   ·cases h
   rename_i hcond
   have hcond:esz=i.size∧off+len*esz≤cs.length:=by
    rw[not_or]at hcond;exact⟨Af2 hcond.1,Af2 hcond.2⟩
   obtain⟨rfl,hfit⟩:=hcond;simp only[VR]at hs;obtain⟨hon,a,c,rfl,hlc,hat⟩:=hs;obtain⟨ovs,hov,hmem⟩:=Sx hr ho hat hlc hfit;have hol:ovs.length=len*i.size:=by rw[← hov.length,Ac0,Ac7];omega
   split at h
   ·
    rename_i k;have hck:c=k:=by simp only[SlAt]at hat;exact hat.1
    subst hck;split at h
    ·rename_i hroom
     injection h with h;injection h with h1 h2;subst h1;subst h2
     by_cases hc0:c=0
     ·have hn0:n=0:=by omega
      have hl0:len=0:=by omega
      subst hn0;subst hl0;subst hc0
      have:=Src.zero hsrc
      subst this;have hnews:news=[]:=Af9 (by rw[hnl];simp);subst hnews;refine⟨G,_,Ex hu hi hsrc (Ac2 _),Evo.refl G,by simp only[VR];exact⟨hon,a,0,rfl,Ac2 _,hat⟩,?_⟩;unfold B2;simp only[Af1,Ai0,Ah1,Af3];rw[Zu ho];exact hr
     ·obtain⟨rfl,hle⟩:=EX hat hc0
      have hmul:(len+n)*i.size≤c*i.size:=Ad0 _ hroom;have hadd:(len+n)*i.size=len*i.size+n*i.size:=Ag9 _ _ _;obtain⟨G',q,hE,hn,hμ,hH⟩:=hr.put (P:=P) ho (off:=off+len*i.size) (xs:=news) (by omega) (by omega) hnv hsrc.one;refine⟨G',_,Hi hu hi hsrc hroom (by rw[Ag5];exact q),hE,?_,hH⟩;simp only[VR];rw[hn,hμ];refine⟨hon,_,_,rfl,hroom,rfl,.inr ⟨rfl,?_⟩⟩;exact hle
    ·rename_i hroom
     split at h
     ·rename_i hbd
      injection h with h;injection h with h1 h2;subst h1;subst h2;exact I6 hr (ty:=ty) hu hi hz hs0 hb0 hzs hov hnv (λad he j u hj=>by injection he with he;subst he;exact hmem j u hj) (by simp) hol hsrc (by omega) hbd
     ·cases h
   ·
    rename_i kk;split at h
    ·rename_i hn
     subst hn;injection h with h;injection h with h1 h2;subst h1;subst h2
     have:=Src.zero hsrc
     subst this;exact⟨G,_,Ex hu hi hsrc hlc,Evo.refl G,by simp only[VR];exact⟨hon,a,c,rfl,hlc,hat⟩,hr⟩
    ·rename_i hn
     split at h
     ·rename_i hroom
      injection h with h;injection h with h1 h2;subst h1;subst h2;have hkc:kk≤c:=by simp only[SlAt]at hat;exact hat.1
      have hc0:c≠0:=by omega
      have hroom':len+n≤c:=by omega
      have hat2:=hat;obtain⟨rfl,hle⟩:=EX hat hc0;have hmul:(len+n)*i.size≤c*i.size:=Ad0 _ hroom';have hadd:(len+n)*i.size=len*i.size+n*i.size:=Ag9 _ _ _;obtain⟨G',q,hE,hn',hμ,hH⟩:=hr.put (P:=P) ho (off:=off+len*i.size) (xs:=news) (by omega) (by omega) hnv hsrc.one;refine⟨G',_,Hi hu hi hsrc hroom' (by rw[Ag5];exact q),hE,?_,hH⟩;simp only[VR];rw[hn',hμ];exact⟨hon,_,_,rfl,hroom',hat2⟩
     rename_i hroomk;split at h
     ·rename_i hbd
      injection h with h;injection h with h1 h2;subst h1;subst h2;have hrk:=hr.kill o;have hlen:(H.set o none).length=H.length:=by simp
      by_cases hroom:len+n≤c
      ·
       have hc0:c≠0:=by omega
       obtain⟨rfl,_⟩:=EX hat hc0
       have hat':off+c*i.size=(G.μ o).2.2:=by
        simp only[SlAt]at hat;rcases hat with⟨_,h | h⟩
        ·omega
        ·exact h.2
       obtain⟨cc,e',us,hb,hlim,hcl,hus,hcell⟩:=hr.obj _ _ ho;have hnvl:nvs.length=n*i.size:=by rw[← hnv.length,hnl]
       have hmul:(len+n)*i.size≤c*i.size:=Ad0 _ hroom;have hadd:(len+n)*i.size=len*i.size+n*i.size:=Ag9 _ _ _;have hst:=run_storeCells_at P (G.μ o).1 ((G.μ o).2.1+off+len*i.size) e' nvs 0 cc G.w hb (by omega) hsrc.one;simp only[Ah1]at hst;generalize hc':(cc.toList.take ((G.μ o).2.1+off+len*i.size)++nvs++cc.toList.drop ((G.μ o).2.1+off+len*i.size+nvs.length)).toArray=c' at hst
       have hsize:c'.size=cc.size:=by
        rw[← hc'];simp only[zY,zK];omega
       let G1:Cfg:={w:=G.w.setRow (G.μ o).1 c',n:=G.n+1,μ:=λj=>if j=G.n then((G.μ o).1,(G.μ o).2.1+off,(G.μ o).2.2 - off)else G.μ j,L:=G.L,K:=G.K}
       have hE:Evo G G1:=
        ⟨rfl,rfl,rfl,by simp[G1],λk hk hL=>⟨setRow_other _ _ _ _ (λhe=>hL (by rw[he];exact hr.live _ _ ho)),hL⟩,by simp[G1],(λj hj=>by simp only[G1];rw[if_neg (by omega)]),rfl⟩
       refine⟨G1,_,Hi hu hi hsrc hroom hst,hE,?_,?_⟩
       ·simp only[VR]
        have hμ:G1.μ H.length=((G.μ o).1,(G.μ o).2.1+off,(G.μ o).2.2 - off):=by simp[G1,hr.n]
        rw[hμ];refine⟨by simp[G1,hr.n],_,_,rfl,hroom,hroom,.inr ⟨rfl,?_⟩⟩;simp only;omega
       ·have hget:∀(j:Nat) (y:AObj),(H.set o none++[some (.cells ((cs.drop off).take (len*i.size)++news))])[j]?=some (some y)→(j=H.length∧y=.cells ((cs.drop off).take (len*i.size)++news))∨(j<H.length∧j≠o∧H[j]?=some (some y)):=by
         intro j y hj;rcases Ac5 j H.length with h | h
         ·rw[Ab9 (by simpa using h)]at hj
          by_cases hjo:j=o
          ·subst hjo;rw[JW h]at hj;simp at hj
          ·rw[C4 (Af4 hjo)]at hj
           exact .inr ⟨h,hjo,hj⟩
         ·rw[Ac4 (by simpa using h)]at hj
          have:j - (H.set o none).length=0:=by
           rcases Ak2 (j - (H.set o none).length)with h0 | h0
           ·exact h0
           ·rw[Ai3 (by simp at h0⊢;omega)]at hj;cases hj
          rw[this]at hj;rw[hlen]at this;exact .inl ⟨by omega,by simpa using hj.symm⟩
        have hμn:G1.μ H.length=((G.μ o).1,(G.μ o).2.1+off,(G.μ o).2.2 - off):=by simp[G1,hr.n]
        have hμo:∀j,j<H.length→G1.μ j=G.μ j:=λj hj=>hE.μ j (by rw[hr.n];exact hj)
        refine⟨by simp[G1,hr.n],?_,?_,?_,?_,λb hb=>hr.dis b hb⟩
        ·intro j y hj
         rcases hget j y hj with⟨rfl,rfl⟩ | ⟨hjl,hjo,hj'⟩
         ·have hov':VRs G ((cs.drop off).take (len*i.size)) ((us.drop off).take (len*i.size)):=(hus.drop _).take _
          refine⟨c',e',(us.drop off).take (len*i.size)++nvs,?_,?_,?_,(hov'.append hnv).evo hE,?_⟩<;>rw[hμn]
          ·exact setRow_heap _ _ _ _ _ _ hb
          ·simp only;rw[hsize];omega
          ·simp only[zK];omega
          ·intro q v hq
           have hul:=hus.length;have t1:((us.drop off).take (len*i.size)).length=len*i.size:=by rw[Ac0,Ac7];omega
           have t2:(cc.toList.take ((G.μ o).2.1+off+len*i.size)).length=(G.μ o).2.1+off+len*i.size:=by rw[Ac0,Af5];omega
           rw[← hc'];simp only[Al8];rw[Ad3];rcases Ac5 q (len*i.size)with hlt | hge
           ·rw[Ab9 (by rw[t1];exact hlt),Ac9,if_pos hlt,Ad1]at hq
            rw[Ab9 (by rw[t2];omega),Ac9,if_pos (by omega)]
            have:=hcell _ _ hq
            rw[show(G.μ o).2.1+(off+q)=(G.μ o).2.1+off+q by omega]at this
            simpa using this
           ·rw[Ac4 (by rw[t1];exact hge),t1]at hq
            have hql:=(BD.1 hq).1;rw[Ac4 (by rw[t2];omega),t2,show(G.μ o).2.1+off+q - ((G.μ o).2.1+off+len*i.size)=q - len*i.size by omega,Ab9 hql];exact⟨hq,hsrc.one _ (Ac3 hq)⟩
         ·exact OR.evo hE (hr.lt_n hj') (setRow_other _ _ _ _ λhe=>hjo (hr.inj _ _ _ _ hj' ho he)) (hr.obj _ _ hj')
        ·intro j j' y y' hj hj' he
         rcases hget j y hj with⟨rfl,rfl⟩ | ⟨hjl,hjo,hj1⟩<;>rcases hget j' y' hj' with⟨rfl,rfl⟩ | ⟨hjl',hjo',hj1'⟩
         ·rfl
         ·rw[hμn,hμo _ hjl']at he
          exact absurd (hr.inj _ _ _ _ ho hj1' he).symm hjo'
         ·rw[hμn,hμo _ hjl]at he
          exact absurd (hr.inj _ _ _ _ hj1 ho he) hjo
         ·rw[hμo _ hjl,hμo _ hjl']at he
          exact hr.inj _ _ _ _ hj1 hj1' he
        ·intro j y hj
         rcases hget j y hj with⟨rfl,rfl⟩ | ⟨hjl,hjo,hj1⟩
         ·rw[hμn];exact hr.live _ _ ho
         ·rw[hμo _ hjl];exact hr.live _ _ hj1
        ·intro b hb'
         simp only[G1]at hb'⊢;rw[size_setRow];exact hr.lt b hb'
      ·have:=I6 hrk (ty:=ty) hu hi hz hs0 hb0 hzs hov hnv (a:=some a) (sCap:=c) (λad he j u hj=>by injection he with he;subst he;exact hmem j u hj) (by simp) hol hsrc (by omega) hbd
       rw[hlen]at this;exact this
     ·cases h
  ·cases h
 ·
  rename_i cs len esz;split at h
  ·rename_i hn
   subst hn;injection h with h;injection h with h1 h2;subst h1;subst h2
   have:=Src.zero hsrc
   subst this;have hs':=hs;simp only[VR]at hs';obtain⟨ad,c,vs,rfl,hlc,hh,hvs⟩:=hs';exact⟨G,_,Ex hu hi hsrc hlc,Evo.refl G,hs,hr⟩
  ·cases h
 ·
  have hs':=hs;simp only[VR]at hs;obtain⟨ad,rfl⟩:=hs;split at h
  ·rename_i hn
   subst hn;injection h with h;injection h with h1 h2;subst h1;subst h2
   have:=Src.zero hsrc
   subst this;exact⟨G,_,Ex hu hi hsrc (Ac2 _),Evo.refl G,hs',hr⟩
  ·rename_i hn
   split at h
   ·rename_i hbd
    injection h with h;injection h with h1 h2;subst h1;subst h2
    have:=I6 hr (ty:=ty) hu hi hz hs0 hb0 hzs (a:=some ad) (sLen:=0) (sCap:=0) (olds:=[]) (as:=[]) .nil hnv (by simp) (by simp) (by simp) hsrc (by omega) (by simpa using hbd)
    simpa using this
   ·cases h
 ·cases h
theorem Z8 {H H':AH}(hr:HR G H){ts tx ty:TypeId}{s x r:AV}{vs vx:Value}(hs:VR G s vs)(hx:VR G x vx)(h:Ls P H ts tx s x=some (r,H')):
  ∃(G':Cfg) (u:Value),(Builtin.append_ #[ts,tx] ty #[vs,vx]).run P G.w=.ok u G'.w∧Evo G G'∧VR G' r u∧HR G' H':=by
 unfold Ls at h;split at h
 ·rename_i e e' hu hux
  split at h
  ·cases h
  rename_i i hi;split at h
  ·cases h
  rename_i z hz;split at h
  ·cases h
  rename_i news n happ;split at h
  ·cases h
  rename_i hc;rw[not_or,not_or]at hc;exact XT hr hs hx hu (.inl ⟨e',hux⟩) hi hz happ hc.1 hc.2.1 (Af2 hc.2.2) h
 ·rename_i e hu hux
  split at h
  ·cases h
  rename_i i hi;split at h
  ·cases h
  rename_i z hz;split at h
  ·cases h
  rename_i news n happ;split at h
  ·cases h
  rename_i hc;rw[not_or,not_or]at hc;exact XT hr hs hx hu (.inr hux) hi hz happ hc.1 hc.2.1 (Af2 hc.2.2) h
 ·cases h
end
end
section
section
variable {P : Program} {G : Cfg}
theorem YN {H:AH}(hr:HR G H){sz:Nat}{x:AV}{v:Value}{cs:List AV}{n:Nat}(hx:VR G x v)(h:Bf H sz x=some (cs,n))(w:World):(Builtin.lenOf v).run P w=.ok n w:=by
 unfold Bf at h;split at h
 ·split at h
  ·injection h with h
   injection h with h1 h2;subst h2;simp only[VR]at hx;subst hx;rfl
  ·cases h
 ·obtain⟨hl,a,c,vs,rfl,_⟩:=Hv hr hx h
  rfl
abbrev An5:=@List.map_take
theorem OL {H:AH}(hr:HR G H){sz:Nat}{x:AV}{v:Value}{cs:List AV}{n k:Nat}(hx:VR G x v)(h:Bf H sz x=some (cs,n))(hk:k≤n):
  ∃vs,VRs G (cs.take (k*sz)) vs∧vs.length=k*sz∧(Builtin.firstCells sz k v).run P G.w=.ok vs.toArray G.w∧∀u∈vs,u.oneCell'=true:=by
 unfold Bf at h;split at h
 ·rename_i s
  split at h
  ·rename_i hs
   subst hs;injection h with h;injection h with h1 h2;subst h1;subst h2;simp only[VR]at hx;subst hx;refine⟨(byteCells s).take k,?_,?_,?_,?_⟩
   ·rw[Ah5]
    refine VRs.take ?_ k;unfold byteCells
    have:=VRs.lits (G:=G) (s.data.toList.map λb=>Value.int .u8 b.toNat)
    simpa[List.map_map,Function.comp_def]using this
   ·rw[Ac0,byteCells_length,Ah5];omega
   ·simp[Builtin.firstCells,byteCells]
    apply Array.ext';simp[An5]
   ·intro u hu
    have:=Ag1 hu
    unfold byteCells at this;obtain⟨_,_,rfl⟩:=Ae6.1 this;rfl
  ·cases h
 ·obtain⟨hl,a,c,vs,rfl,hv,hnone,hsome⟩:=Hv hr hx h
  have hvl:vs.length=n*sz:=by rw[← hv.length,hl]
  have hmul:k*sz≤n*sz:=Ad0 _ hk;refine⟨vs.take (k*sz),hv.take _,by rw[Ac0];omega,?_,?_⟩
  ·cases a with
   | none=>
    obtain⟨rfl,_,_⟩:=hnone rfl;simp[Builtin.firstCells]
   | some ad=>
    exact run_firstCells_some G.w sz k ad n c _ (by rw[Ac0];omega) λj v hj=>by
     rw[Ac9]at hj;split at hj
     ·exact(hsome ad rfl j v hj).1
     ·cases hj
  ·intro u hu
   cases a with
   | none=>obtain⟨rfl,_,_⟩:=hnone rfl;simp at hu
   | some ad=>
    obtain⟨j,hj,rfl⟩:=List.mem_iff_getElem.1 (Ag1 hu);exact(hsome ad rfl j _ (DR hj)).2
def eE (sz:Nat)(H:AH)(dst src:AV):Option (AV×AH):=match Bf H sz src,dst with
 | some (news,m),.sl o off len esz _=>match H[o]? with
  | some (some (.cells cs))=>
   if esz=sz∧off≤cs.length then
    some (.lit (.int .i64 (min m len:Nat)),H.set o (some (.cells (B2 cs off (news.take (min m len*sz))))))
   else none
  | _=>none
 | some (_,_),.lit (.slice none 0 0)=>some (.lit (.int .i64 0),H)
 | _,_=>none
def nS (sz:Nat)(H:AH)(dst src:AV):Option (AV×AH):=match src,dst with
 | .sl o2 off2 m esz2 _,.sl o off len esz _=>match H[o2]?,H[o]? with
  | some (some (.cells cs2)),some (some (.cells cs))=>
   if esz2=sz∧esz=sz∧off≤cs.length∧off2+min m len*sz≤cs2.length then
    some (.lit (.int .i64 (min m len:Nat)),H.set o (some (.cells (B2 cs off ((cs2.drop off2).take (min m len*sz))))))
   else none
  | _,_=>none
 | _,_=>none
def Oe (sz:Nat)(H:AH)(dst src:AV):Option (AV×AH):=match eE sz H dst src with
 | some r=>some r
 | none=>nS sz H dst src
def XZ (P:Program)(H:AH)(td:TypeId)(dst src:AV):Option (AV×AH):=
 match P.underlying td with
 | some (.slice e)=>match BW P e with
  | some sz=>Oe sz H dst src
  | none=>none
 | _=>none
theorem Wi {H:AH}(hr:HR G H){o off len esz k:Nat}{cap:Room}{cs xs:List AV}{vd:Value}(hd:VR G (.sl o off len esz cap) vd)(ho:H[o]?=some (some (.cells cs)))(hfit:off≤cs.length)
  {us:List Value} (hus:VRs G xs us) (hul:us.length=k*esz) (hk:k≤len) (hone:∀u∈us,u.oneCell'=true):
  ∃a c,vd=.slice (some a) len c∧∃G'':Cfg,(storeCells a us).run P G.w=.ok () G''.w∧Evo G G''∧HR G'' (H.set o (some (.cells (B2 cs off xs)))):=by
 simp only[VR]at hd;obtain⟨hon,a,c,rfl,hlc,hat⟩:=hd;have hnl:xs.length=k*esz:=by rw[hus.length,hul]
 have hmul:k*esz≤len*esz:=Ad0 _ hk;refine⟨a,c,rfl,?_⟩
 by_cases hc:c=0
 ·have hk0:k=0:=by omega
  subst hk0;have hu0:us=[]:=Af9 (by rw[hul];simp);subst hu0;have hn0:xs=[]:=Af9 (by rw[hnl];simp);rw[hn0];unfold B2;simp only[Af1,Ai0,Ah1,Af3];rw[Zu ho];exact⟨G,rfl,Evo.refl G,hr⟩
 ·obtain⟨rfl,hle⟩:=EX hat hc
  have hlc':len*esz≤c*esz:=Ad0 _ hlc;obtain⟨G',q,hE,hn,hμ,hH⟩:=hr.put (P:=P) ho (off:=off) (xs:=xs) hfit (by omega) hus hone;exact⟨G',q,hE,hH⟩
abbrev Am3:=@Nat.min_le_left
theorem iV {H H':AH}(hr:HR G H){td ts ty:TypeId}{dst src r:AV}{vd vs:Value}(hd:VR G dst vd)(hs:VR G src vs)(h:XZ P H td dst src=some (r,H')):
  ∃(G':Cfg) (u:Value),(Builtin.copy_ #[td,ts] ty #[vd,vs]).run P G.w=.ok u G'.w∧Evo G G'∧VR G' r u∧HR G' H':=by
 unfold XZ at h;split at h
 ·rename_i e hu
  split at h
  ·rename_i sz hsz
   unfold Oe at h;split at h
   ·rename_i r0 h0
    injection h with h;subst h;unfold eE at h0;split at h0
    ·rename_i news m o off len esz cap happ
     split at h0
     ·rename_i cs ho
      split at h0
      ·rename_i hb
       obtain⟨rfl,hfit⟩:=hb;injection h0 with h0;injection h0 with h1 h2;subst h1;subst h2;obtain⟨us,hus,hul,hfc,hone⟩:=OL (P:=P) hr hs happ (k:=min m len) (Am3 _ _);have hlen:=YN (P:=P) hr hs happ G.w;have hmin:Nat.min m len=min m len:=rfl;obtain⟨a,c,rfl,G'',q'',hE'',hH''⟩:=Wi (P:=P) hr hd ho hfit hus hul (Nat.min_le_right _ _) hone;refine⟨G'',.int .i64 ((min m len:Nat):Int),?_,hE'',by simp only[VR],hH''⟩;simp[Builtin.copy_,run_underlying hu,hlen,Bz hsz,hmin,hfc,q'',goInt]
      ·cases h0
     ·cases h0
    ·rename_i news m happ
     injection h0 with h0;injection h0 with h1 h2;subst h1;subst h2;simp only[VR]at hd;subst hd;obtain⟨us,hus,hul,hfc,hone⟩:=OL (P:=P) hr hs happ (k:=0) (Nat.zero_le _);have hlen:=YN (P:=P) hr hs happ G.w;have hmin:Nat.min m 0=0:=Nat.min_zero m;refine⟨G,.int .i64 0,?_,Evo.refl G,by simp only[VR],hr⟩;simp[Builtin.copy_,run_underlying hu,hlen,Bz hsz,hmin,hfc,goInt]
    ·cases h0
   ·unfold nS at h
    split at h
    ·rename_i o2 off2 m esz2 cap2 o off len esz cap hz
     split at h
     ·rename_i cs2 cs ho2 ho
      split at h
      ·rename_i hb
       obtain⟨rfl,rfl,hfit,htold⟩:=hb;injection h with h;injection h with h1 h2;subst h1;subst h2;simp only[VR]at hs;obtain⟨hon2,a2,c2,rfl,hlc2,hat2⟩:=hs;obtain⟨us,hus,hus2⟩:=Sx hr ho2 hat2 (Ad8 (Am3 m len) hlc2) htold
       have hul:us.length=min m len*esz:=by
        rw[← hus.length,Ac0,Ac7];omega
       have hone:∀u∈us,u.oneCell'=true:=by
        intro u hu;obtain⟨j,hj,rfl⟩:=List.mem_iff_getElem.1 hu;exact(hus2 j _ (DR hj)).2
       have hfc:=run_firstCells_some (P:=P) G.w esz (min m len) a2 m c2 us hul (λj v hj=>(hus2 j v hj).1);have hmin:Nat.min m len=min m len:=rfl;obtain⟨a,c,rfl,G'',q'',hE'',hH''⟩:=Wi (P:=P) hr hd ho hfit hus hul (Nat.min_le_right _ _) hone;refine⟨G'',.int .i64 ((min m len:Nat):Int),?_,hE'',by simp only[VR],hH''⟩;have hlen:(Builtin.lenOf (.slice (some a2) m c2)).run P G.w=.ok m G.w:=rfl;simp[Builtin.copy_,run_underlying hu,hlen,Bz hsz,hmin,hfc,q'',goInt]
      ·cases h
     ·cases h
    ·cases h
  ·cases h
 ·cases h
def Rx (P:Program)(t:TypeId)(x:AV):Option AV:=
 match P.underlying t,x with
 | some .string,.lit (.string s)=>some (.lit (.int .i64 s.size))
 | some (.slice _),.sl _ _ len _ _=>some (.lit (.int .i64 len))
 | some (.slice _),.imm _ len _=>some (.lit (.int .i64 len))
 | some (.slice _),.lit (.slice none n _)=>some (.lit (.int .i64 n))
 | some (.slice _),.emp=>some (.lit (.int .i64 0))
 | some (.array n _),_=>some (.lit (.int .i64 n))
 | some (.map _ _),.lit (.map none)=>some (.lit (.int .i64 0))
 | _,_=>none
theorem Ky {v:Value}{s:Sem Value}{w:World}(h:s.run P w=.ok v w):∃u,s.run P w=.ok u w∧VR G (.lit v) u:=⟨v,h,by simp only[VR]⟩
theorem nU {t ty:TypeId}{x r:AV}{v:Value}(hx:VR G x v)(h:Rx P t x=some r)(w:World):∃u,(Builtin.len_ #[t] ty #[v]).run P w=.ok u w∧VR G r u:=by
 unfold Rx at h;split at h<;>first
  | (injection h with h;subst h;simp only[VR]at hx)
  | cases h
 ·subst hx;exact Ky (by simp[Builtin.len_,underlying,goInt, *])
 ·obtain⟨_,a,c,rfl,_⟩:=hx;exact Ky (by simp[Builtin.len_,underlying,goInt, *])
 ·obtain⟨a,c,vs,rfl,_⟩:=hx;exact Ky (by simp[Builtin.len_,underlying,goInt, *])
 ·subst hx;exact Ky (by simp[Builtin.len_,underlying,goInt, *])
 ·obtain⟨a,rfl⟩:=hx;exact Ky (by simp[Builtin.len_,underlying,goInt, *])
 ·rename_i n e hu
  exact⟨goInt n,by simp[Builtin.len_,underlying,hu],by simp only[VR,goInt]⟩
 ·subst hx;exact Ky (by simp[Builtin.len_,underlying,goInt, *])
def amm (f:Int→Int→Int):List AV→Option AV
 | .lit (.int k a)::r=>go k a r
 | _=>none
where
 go (k:IntKind) (a:Int):List AV→Option AV
 | []=>some (.lit (.int k a))
 | .lit (.int _ b)::r=>go k (f a b) r
 | _=>none
def VP (a b:Int):Int:=if b<a then b else a
def ZX (a b:Int):Int:=if a<b then b else a
theorem nX {xs:List AV}{vs:Array Value}{r:AV}{ts:Array TypeId}{ty:TypeId}(hx:VRs G xs vs.toList)(h:amm VP xs=some r)(w:World):∃u,(Builtin.min_ ts ty vs).run P w=.ok u w∧VR G r u:=by
 obtain⟨vs⟩:=vs
 have go:∀(xs:List AV) (vs:List Value) (k:IntKind) (a:Int),VRs G xs vs→amm.go VP k a xs=some r→∃u,(vs.foldlM Builtin.min2 (.int k a)).run P w=.ok u w∧VR G r u:=by
  intro xs
  induction xs with
  | nil=>intro vs k a hx h;simp only[VRs]at hx;subst hx;simp only[amm.go]at h;injection h with h;subst h;exact⟨_,rfl,by simp only[VR]⟩
  | cons x xs ih=>
   intro vs k a hx h;simp only[VRs]at hx;obtain⟨v,r',rfl,h1,h2⟩:=hx;unfold amm.go at h;split at h
   ·rename_i he;cases he
   ·rename_i b r'' he
    injection he with he1 he2;subst he1;subst he2;simp only[VR]at h1;subst h1;obtain⟨u,hu,hr⟩:=ih r' k (VP a b) h2 h;refine⟨u,?_,hr⟩;simp only[List.foldlM_cons,Sem.run_bind,Builtin.min2,Sem.run_pure,Result.andThen_ok];exact hu
   ·cases h
 unfold amm at h;split at h
 ·rename_i k a r'
  simp only[VRs]at hx;obtain⟨v,vr,he,h1,h2⟩:=hx;subst he;simp only[VR]at h1;subst h1;exact go _ _ k a h2 h
 ·cases h
theorem nW {xs:List AV}{vs:Array Value}{r:AV}{ts:Array TypeId}{ty:TypeId}(hx:VRs G xs vs.toList)(h:amm ZX xs=some r)(w:World):∃u,(Builtin.max_ ts ty vs).run P w=.ok u w∧VR G r u:=by
 obtain⟨vs⟩:=vs
 have go:∀(xs:List AV) (vs:List Value) (k:IntKind) (a:Int),VRs G xs vs→amm.go ZX k a xs=some r→∃u,(vs.foldlM Builtin.max2 (.int k a)).run P w=.ok u w∧VR G r u:=by
  intro xs
  induction xs with
  | nil=>intro vs k a hx h;simp only[VRs]at hx;subst hx;simp only[amm.go]at h;injection h with h;subst h;exact⟨_,rfl,by simp only[VR]⟩
  | cons x xs ih=>
   intro vs k a hx h;simp only[VRs]at hx;obtain⟨v,r',rfl,h1,h2⟩:=hx;unfold amm.go at h;split at h
   ·rename_i he;cases he
   ·rename_i b r'' he
    injection he with he1 he2;subst he1;subst he2;simp only[VR]at h1;subst h1;obtain⟨u,hu,hr⟩:=ih r' k (ZX a b) h2 h;refine⟨u,?_,hr⟩;simp only[List.foldlM_cons,Sem.run_bind,Builtin.max2,Sem.run_pure,Result.andThen_ok];exact hu
   ·cases h
 unfold amm at h;split at h
 ·rename_i k a r'
  simp only[VRs]at hx;obtain⟨v,vr,he,h1,h2⟩:=hx;subst he;simp only[VR]at h1;subst h1;exact go _ _ k a h2 h
 ·cases h
end
end
section
section
variable {P : Program} {G : Cfg}
def VS:TypeDesc→Value→Bool
 | .bool,.bool _=>true
 | .int k,.int k' _=>decide (k'=k)
 | .string,.string _=>true
 | _,_=>false
theorem Xv {d:TypeDesc}{k:Value}(h:VS d k=true):MapKept.IsKey d k:=by
 unfold VS at h;split at h<;>simp_all[MapKept.IsKey]
def KK (d:TypeDesc)(k:Value):List (Value×AV)→Nat→Option (Option (Nat×AV))
 | [],_=>some none
 | (k',a)::es,i=>match Instr.sameNow d k k' with
  | some true=>some (some (i,a))
  | some false=>KK d k es (i+1)
  | none=>none
theorem aV {d:TypeDesc}{k k':Value}(hk:MapKept.IsKey d k)(h:Instr.sameNow d k k'=some true):k'=k:=by
 unfold Instr.sameNow at h;split at h<;>simp_all[MapKept.IsKey,MapKept.bytes_beq]
theorem KL {d:TypeDesc}{k:Value}(hk:MapKept.IsKey d k):∀{es:List (Value×AV)} {ents:List MapEntry} {i:Nat} {r:Option (Nat×AV)},VRs G (es.map Prod.snd) (ents.map (·.val))→ents.map (·.key)=es.map Prod.fst→KK d k es i=some r→
  match r with
  | none=>Instr.findNow d k ents i=some none
  | some (j,a)=>∃e,i≤j∧ents[j - i]?=some e∧Instr.findNow d k ents i=some (some (j,e.val))∧VR G a e.val∧e.key=k
 | [],ents,i,r,hv,hks,h=>by
  simp only[KK]at h;injection h with h;subst h;cases ents with
  | nil=>rfl
  | cons e l=>simp at hks
 | (k',a)::es,ents,i,r,hv,hks,h=>by
  cases ents with
  | nil=>simp at hks
  | cons e l=>
   simp only[Aa4]at hks;obtain⟨hk1,hk2⟩:=hks;simp only[Aj7,VRs]at hv;obtain⟨v,rr,he,hx,hrest⟩:=hv;simp only[List.cons.injEq]at he;obtain⟨he1,he2⟩:=he;subst he1;subst he2;simp only[KK]at h;split at h
   ·rename_i hs
    injection h with h;subst h;refine⟨e,Ac2 _,by simp,?_,hx,by rw[hk1];exact aV hk hs⟩;unfold Instr.findNow;rw[hk1,hs]
   ·rename_i hs
    have ih:=KL hk hrest hk2 h
    have hstep:Instr.findNow d k (e::l) i=Instr.findNow d k l (i+1):=by
     conv=>lhs;unfold Instr.findNow
     rw[hk1,hs]
    cases r with
    | none=>rw[hstep];exact ih
    | some q=>
     obtain⟨j,a'⟩:=q;obtain⟨e',h1,h2,h3,h4,h5⟩:=ih;refine⟨e',by omega,?_,by rw[hstep];exact h3,h4,h5⟩;rw[show j - i=(j - (i+1))+1 by omega]
     simpa using h2
   ·cases h
theorem HR.setMap {H:AH}(hr:HR G H){o:Nat}{es es':List (Value×AV)}(ho:H[o]?=some (some (.map es))){ents':Array MapEntry}(h1:VRs G (es'.map Prod.snd) (ents'.toList.map (·.val)))
  (h2:ents'.toList.map (·.key)=es'.map Prod.fst) (h3:ents'.toList.map (·.born)=List.range es'.length):
  ∃G':Cfg,G'.w={G.w with heap:=G.w.heap.setIfInBounds (G.μ o).1 (.map ents' ents'.size)}∧Evo G G'∧HR G' (H.set o (some (.map es'))):=by
 obtain⟨ents,hb,-,-,-⟩:=hr.obj _ _ ho;have hlt:(G.μ o).1<G.w.heap.size:=(Array.getElem?_eq_some_iff.1 hb).1
 let G':Cfg:={G with w:={G.w with heap:=G.w.heap.setIfInBounds (G.μ o).1 (.map ents' ents'.size)}}
 have hset:=MapKept.heap_set (o':=Obj.map ents' ents'.size) hb;have hE:Evo G G':=⟨rfl,rfl,rfl,by simp[G'],λk hk hL=>⟨hset.2 k (λhe=>hL (by rw[he];exact hr.live _ _ ho)),hL⟩,Ac2 _,λ_ _=>rfl,rfl⟩;refine⟨G',rfl,hE,hr.update hE rfl rfl ho _ (λk hk=>hset.2 k hk) (by simp[G']) ?_⟩;exact⟨ents',hset.1,h1.evo hE,h2,h3⟩
def Qk (H:AH):AV→Option (List (Value×AV))
 | .lit (.map none)=>some []
 | .mp o=>match H[o]? with
  | some (some (.map es))=>some es
  | _=>none
 | _=>none
def PM (P:Program)(H:AH)(t:TypeId)(x k:AV)(commaOk:Bool):Option AV:=
 match P.underlying t,Qk H x,k with
 | some (.map key elem),some es,.lit kv=>match P.underlying key with
  | some d=>if VS d kv then match KK d kv es 0 with
    | some (some (_,a))=>some (if commaOk then .tup [a,.lit (.bool true)]else a)
    | some none=>match Pc P elem with
     | some z=>some (if commaOk then .tup [.ofV z,.lit (.bool false)]else .ofV z)
     | none=>none
    | none=>none
   else none
  | none=>none
 | _,_,_=>none
theorem VRs.two {a b:AV}{u v:Value}(h:VR G a u)(k:VR G b v):VRs G [a,b] [u,v]:=.cons h (.cons k .nil)
theorem ZE {H:AH}(hr:HR G H){t:TypeId}{x k r:AV}{vx vk:Value}{co:Bool}(hx:VR G x vx)(hk:VR G k vk)(h:PM P H t x k co=some r):
  ∃u,(Instr.lookup t vx vk co).run P G.w=.ok u G.w∧VR G r u:=by
 unfold PM at h;split at h
 ·rename_i key elem es kv hu hes
  split at h
  ·rename_i d hd
   split at h
   ·rename_i hkb
    simp only[VR]at hk;have hik:=Xv hkb;rw[← hk]at hik h
    have hents:∃ents:Array MapEntry,((vx=.map none∧ents= #[])∨∃b cl,vx=.map (some b)∧G.w.heap[b]?=some (.map ents cl))∧VRs G (es.map Prod.snd) (ents.toList.map (·.val))∧ents.toList.map (·.key)=es.map Prod.fst:=by
     unfold Qk at hes;split at hes
     ·injection hes with hes
      subst hes;simp only[VR]at hx;exact⟨#[],.inl ⟨hx,rfl⟩,.nil,rfl⟩
     ·split at hes
      ·rename_i o es' ho
       injection hes with hes;subst hes;simp only[VR]at hx;obtain⟨ents,hb,h1,h2,h3⟩:=hr.obj _ _ ho;exact⟨ents,.inr ⟨_,_,hx.2,hb⟩,h1,h2⟩
      ·cases hes
     ·cases hes
    obtain⟨ents,hrun,h1,h2⟩:=hents;have hfind:∀rr,KK d vk es 0=some rr→_:=λrr hrr=>KL (r:=rr) hik h1 h2 hrr
    split at h
    ·rename_i j a hf
     injection h with h;subst h;obtain⟨e,-,-,h4,h5,-⟩:=hfind _ hf;refine⟨if co then .tuple #[e.val,.bool true]else e.val,?_,?_⟩
     ·rcases hrun with⟨rfl,rfl⟩ | ⟨b,cl,rfl,hb⟩
      ·simp[Instr.findNow]at h4
      ·simp[Instr.lookup,run_underlying hu,MapKept.run_getObj_map hb,MapKept.run_checkKey hd hik,MapKept.run_findKey hd h4]
     ·cases co
      ·simpa using h5
      ·simp only[if_true,VR]
       exact⟨_,rfl,.two h5 (by simp only[VR])⟩
    ·rename_i hf
     have h4:=hfind _ hf;simp only at h4;split at h
     ·rename_i z hz
      injection h with h;subst h;refine⟨if co then .tuple #[z,.bool false]else z,?_,?_⟩
      ·rcases hrun with⟨rfl,rfl⟩ | ⟨b,cl,rfl,hb⟩
       ·have h5:Instr.findNow d vk [] 0=some none:=rfl
        simp[Instr.lookup,run_underlying hu,MapKept.run_checkKey hd hik,MapKept.run_findKey hd h5,C6 hz]
       ·simp[Instr.lookup,run_underlying hu,MapKept.run_getObj_map hb,MapKept.run_checkKey hd hik,MapKept.run_findKey hd h4,C6 hz]
      ·cases co
       ·simpa using VR.ofV G z
       ·simp only[if_true,VR]
        exact⟨_,rfl,.two (VR.ofV G z) (by simp only[VR])⟩
     ·cases h
    ·cases h
   ·cases h
  ·cases h
 ·cases h
abbrev An8:=@List.range_succ
theorem aR (n:Nat):List.range (n+1)=List.range n++[n]:=An8
abbrev An6:=@Array.getElem?_modify
abbrev Al9:=@List.map_set
theorem MQ {ents:Array MapEntry}{es:List (Value×AV)}{j:Nat}{e:MapEntry}{k v:Value}{a:AV}(h1:VRs G (es.map Prod.snd) (ents.toList.map (·.val)))(h2:ents.toList.map (·.key)=es.map Prod.fst)
  (h3:ents.toList.map (·.born)=List.range es.length) (he:ents[j]?=some e) (hk:e.key=k) (hv:VR G a v) (f:MapEntry→MapEntry) (hf:∀e':MapEntry,ents[j]?=some e'→f e'={e' with key:=k,val:=v}):
  VRs G ((es.set j (k,a)).map Prod.snd) ((ents.modify j f).toList.map (·.val))∧(ents.modify j f).toList.map (·.key)=(es.set j (k,a)).map Prod.fst∧
  (ents.modify j f).toList.map (·.born)=List.range (es.set j (k,a)).length:=by
 have hj:j<ents.size:=(Array.getElem?_eq_some_iff.1 he).1
 have hm:(ents.modify j f).toList=ents.toList.set j {e with key:=k,val:=v}:=by
  apply Ae5;intro i;rw[Ae2,An6]
  by_cases hij:j=i
  ·subst hij
   rw[if_pos rfl,he,JW (by simpa using hj)];simp[hf e he]
  ·rw[if_neg hij,C4 hij,Ae2]
 rw[hm];simp only[Al9];refine⟨h1.set j hv,by rw[h2],?_⟩;rw[h3,Ae1];apply Ae5;intro i
 by_cases hij:j=i
 ·subst hij
  have hl:j<es.length:=by
   have:=congrArg List.length h2
   simp at this;omega
  rw[JW (by simpa using hl)];have:(ents.toList.map (·.born))[j]?=some e.born:=by rw[Ae7,Ae2,he];rfl
  rw[h3]at this;rw[this]
 ·rw[C4 hij]
abbrev Aa8:=And.intro @List.map_cons.{0,0} @List.map_nil.{0,0}
abbrev Ab7:=And.intro @List.length_append.{0} @yU
abbrev Ag8:=@List.map_append
theorem Ql {ents:Array MapEntry}{es:List (Value×AV)}{k v:Value}{a:AV}(h1:VRs G (es.map Prod.snd) (ents.toList.map (·.val)))(h2:ents.toList.map (·.key)=es.map Prod.fst)
  (h3:ents.toList.map (·.born)=List.range es.length) (hv:VR G a v):
  VRs G ((es++[(k,a)]).map Prod.snd) ((ents.push {key:=k,val:=v,born:=ents.size}).toList.map (·.val))∧(ents.push {key:=k,val:=v,born:=ents.size}).toList.map (·.key)=(es++[(k,a)]).map Prod.fst∧
  (ents.push {key:=k,val:=v,born:=ents.size}).toList.map (·.born)=List.range (es++[(k,a)]).length:=by
 have hl:es.length=ents.size:=by
  have:=congrArg List.length h2
  simp at this;omega
 simp only[Array.toList_push,Ag8,Aa8,Ab7];refine⟨h1.append (.cons hv .nil),by rw[h2],?_⟩;rw[h3,aR,hl]
def IW (P:Program)(H:AH)(t:TypeId)(m k x:AV):Option AH:=
 match P.underlying t,m,k with
 | some (.map key _),.mp o,.lit kv=>match P.underlying key,H[o]? with
  | some d,some (some (.map es))=>if VS d kv then match KK d kv es 0 with
    | some (some (j,_))=>some (H.set o (some (.map (es.set j (kv,x)))))
    | some none=>some (H.set o (some (.map (es++[(kv,x)]))))
    | none=>none
   else none
  | _,_=>none
 | _,_,_=>none
theorem VA {H H':AH}(hr:HR G H){t:TypeId}{m k x:AV}{vm vk vx:Value}(hm:VR G m vm)(hk:VR G k vk)(hx:VR G x vx)(h:IW P H t m k x=some H'):
  ∃G':Cfg,(Instr.mapUpdate t vm vk vx).run P G.w=.ok () G'.w∧Evo G G'∧HR G' H':=by
 unfold IW at h;split at h
 ·rename_i key elem o kv hu
  split at h
  ·rename_i d es hd ho
   split at h
   ·rename_i hkb
    simp only[VR]at hk hm;subst hk;obtain⟨hon,rfl⟩:=hm;have hik:=Xv hkb;obtain⟨ents,hb,h1,h2,h3⟩:=hr.obj _ _ ho;split at h
    ·rename_i j a hf
     injection h with h;subst h;obtain⟨e,-,he,h4,-,hek⟩:=KL hik h1 h2 hf;simp only[Nat.sub_zero,Ae2]at he;obtain⟨a1,a2,a3⟩:=MQ h1 h2 h3 he hek hx (λe'=>{e' with key:=vk,val:=vx}) (λ_ _=>rfl);have hsz:(ents.modify j λe'=>{e' with key:=vk,val:=vx}).size=ents.size:=by simp
     obtain⟨G',hw,hE,hH⟩:=hr.setMap ho a1 a2 a3;rw[hsz]at hw;refine⟨G',?_,hE,hH⟩;rw[hw];simp[Instr.mapUpdate,run_underlying hu,MapKept.run_getObj_map hb,MapKept.run_checkKey hd hik,MapKept.run_findKey hd h4,he,hek,MapKept.run_keyThatStays hik,MapKept.run_setObj_map _ hb]
    ·rename_i hf
     injection h with h;subst h;have h4:=KL hik h1 h2 hf;simp only at h4;obtain⟨a1,a2,a3⟩:=Ql (k:=vk) h1 h2 h3 hx;obtain⟨G',hw,hE,hH⟩:=hr.setMap ho a1 a2 a3;refine⟨G',?_,hE,hH⟩;rw[hw];simp[Instr.mapUpdate,run_underlying hu,MapKept.run_getObj_map hb,MapKept.run_checkKey hd hik,MapKept.run_findKey hd h4,MapKept.run_setObj_map _ hb]
    ·cases h
   ·cases h
  ·cases h
 ·cases h
def ND (P:Program)(H:AH)(t:TypeId)(m k:AV):Option (AV×AH):=
 match P.underlying t,m,k with
 | some (.map key elem),.mp o,.lit kv=>match P.underlying key,H[o]? with
  | some d,some (some (.map es))=>if VS d kv then match KK d kv es 0 with
    | some (some (j,a))=>some (.tup [a,.lit (goInt j)],H)
    | some none=>match Pc P elem with
     | some z=>some (.tup [.ofV z,.lit (goInt es.length)],H.set o (some (.map (es++[(kv,.ofV z)]))))
     | none=>none
    | none=>none
   else none
  | _,_=>none
 | _,_,_=>none
abbrev Aj0:=@List.getElem?_range
theorem Xe {ents:Array MapEntry}{es:List (Value×AV)}(h3:ents.toList.map (·.born)=List.range es.length){j:Nat}{e:MapEntry}(he:ents[j]?=some e):e.born=j:=by
 have:(ents.toList.map (·.born))[j]?=some e.born:=by rw[Ae7,Ae2,he];rfl
 rw[h3]at this;have h1:=(BD.1 this).1;rw[Aj0 (by simpa using h1)]at this;injection this with this;exact this.symm
theorem WV {H H':AH}(hr:HR G H){t:TypeId}{m k r:AV}{vm vk:Value}(hm:VR G m vm)(hk:VR G k vk)(h:ND P H t m k=some (r,H')):
  ∃(G':Cfg) (u:Value),(Instr.mapEntry t vm vk).run P G.w=.ok u G'.w∧Evo G G'∧VR G' r u∧HR G' H':=by
 unfold ND at h;split at h
 ·rename_i key elem o kv hu
  split at h
  ·rename_i d es hd ho
   split at h
   ·rename_i hkb
    simp only[VR]at hk hm;subst hk;obtain⟨hon,rfl⟩:=hm;have hik:=Xv hkb;obtain⟨ents,hb,h1,h2,h3⟩:=hr.obj _ _ ho;split at h
    ·rename_i j a hf
     injection h with h;injection h with e1 e2;subst e1;subst e2;obtain⟨e,-,he,h4,h5,hek⟩:=KL hik h1 h2 hf;simp only[Nat.sub_zero,Ae2]at he
     have hmod:(ents.modify j λe'=>{e' with key:=vk})=ents:=by
      apply Array.ext_getElem?;intro i;rw[An6]
      split
      ·rename_i hji
       subst hji;rw[he];simp[← hek]
      ·rfl
     have hset:({G.w with heap:=G.w.heap.setIfInBounds (G.μ o).1 (.map ents ents.size)}:World)=G.w:=by
      have:G.w.heap.setIfInBounds (G.μ o).1 (.map ents ents.size)=G.w.heap:=by
       apply Array.ext_getElem?;intro i
       by_cases hi:i=(G.μ o).1
       ·subst hi
        rw[(MapKept.heap_set hb).1,hb]
       ·exact(MapKept.heap_set hb).2 i hi
      rw[this]
     refine⟨G,.tuple #[e.val,goInt j],?_,Evo.refl G,?_,hr⟩
     ·simp[Instr.mapEntry,run_underlying hu,MapKept.run_getObj_map hb,MapKept.run_checkKey hd hik,MapKept.run_findKey hd h4,he,hek,MapKept.run_keyThatStays hik,MapKept.run_setObj_map _ hb,hmod,hset,Xe h3 he]
     ·simp only[VR]
      exact⟨_,rfl,.two h5 (by simp only[VR])⟩
    ·rename_i hf
     split at h
     ·rename_i z hz
      injection h with h;injection h with e1 e2;subst e1;subst e2;have h4:=KL hik h1 h2 hf;simp only at h4;obtain⟨a1,a2,a3⟩:=Ql (k:=vk) h1 h2 h3 (VR.ofV G z);obtain⟨G',hw,hE,hH⟩:=hr.setMap ho a1 a2 a3
      have hl:es.length=ents.size:=by
       have:=congrArg List.length h2
       simp at this;omega
      refine⟨G',.tuple #[z,goInt ents.size],?_,hE,?_,hH⟩
      ·rw[hw]
       simp[Instr.mapEntry,run_underlying hu,MapKept.run_getObj_map hb,MapKept.run_checkKey hd hik,MapKept.run_findKey hd h4,C6 hz,MapKept.run_setObj_map _ hb]
      ·simp only[VR]
       rw[hl];exact⟨_,rfl,.two (VR.ofV _ z) (by simp only[VR])⟩
     ·cases h
    ·cases h
   ·cases h
  ·cases h
 ·cases h
def Hw (H:AH)(m s x:AV):Option AH:=
 match m,s with
 | .mp o,.lit (.int _ n)=>match H[o]? with
  | some (some (.map es))=>match es[n.toNat]? with
   | some (k,_)=>if 0≤n then some (H.set o (some (.map (es.set n.toNat (k,x)))))else none
   | none=>none
  | _=>none
 | _,_=>none
theorem Ue {H H':AH}(hr:HR G H){t:TypeId}{m s x:AV}{vm vs vx:Value}(hm:VR G m vm)(hs:VR G s vs)(hx:VR G x vx)(h:Hw H m s x=some H'):
  ∃G':Cfg,(Instr.entryStore t vm vs vx).run P G.w=.ok () G'.w∧Evo G G'∧HR G' H':=by
 unfold Hw at h;split at h
 ·rename_i o ik n
  split at h
  ·rename_i es ho
   split at h
   ·rename_i k a hes
    split at h
    ·rename_i hn
     injection h with h;subst h;simp only[VR]at hs hm;subst hs;obtain⟨hon,rfl⟩:=hm;obtain⟨ents,hb,h1,h2,h3⟩:=hr.obj _ _ ho
     have hl:es.length=ents.size:=by
      have:=congrArg List.length h2
      simp at this;omega
     have hj:n.toNat<ents.size:=by rw[← hl];exact(BD.1 hes).1
     have he:ents[n.toNat]?=some ents[n.toNat]:=Ah9 hj
     have hek:ents[n.toNat].key=k:=by
      have e1:(ents.toList.map (·.key))[n.toNat]?=some ents[n.toNat].key:=by rw[Ae7,Ae2,he];rfl
      rw[h2,Ae7,hes]at e1
      simpa using e1.symm
     obtain⟨a1,a2,a3⟩:=MQ (k:=k) h1 h2 h3 he hek hx (λe'=>{e' with val:=vx}) (λe' he'=>by
      rw[he]at he';injection he' with he';rw[← he',← hek])
     have hsz:(ents.modify n.toNat λe'=>{e' with val:=vx}).size=ents.size:=by simp
     obtain⟨G',hw,hE,hH⟩:=hr.setMap ho a1 a2 a3;rw[hsz]at hw;refine⟨G',?_,hE,hH⟩
     have hfi:ents.findIdx? (λe=>decide ((e.born:Int)=n))=some n.toNat:=by
      rw[Array.findIdx?_eq_some_iff_getElem];refine⟨hj,?_,λi hi=>?_⟩
      ·have:=Xe h3 he
       simp only[decide_eq_true_eq,this];omega
      ·have:=Xe h3 (Ah9 (show i<ents.size by omega))
       simp only[decide_eq_true_eq,this];omega
     have hfi':ents.findIdx? (λe=>(e.born:Int)==n)=some n.toNat:=by
      rw[← hfi];congr 1
     rw[hw];simp[Instr.entryStore,MapKept.run_getObj_map hb,asInt,asIntOf,hfi',hfi,MapKept.run_setObj_map _ hb]
    ·cases h
   ·cases h
  ·cases h
 ·cases h
def WT (P:Program)(H:AH)(t:TypeId)(x:AV):Option AH:=
 match P.underlying t,x with
 | some (.slice _),.lit (.slice none _ _)=>some H
 | some (.slice e),.sl o off len esz _=>match P.info? e,H[o]? with
  | some i,some (some (.cells cs))=>match i.zero with
   | some z=>if z.cells.size=esz∧esz≠0∧M4 z=true∧off+len*esz≤cs.length then
     some (if len=0 then H else H.set o (some (.cells (AR cs off (Be (z.cells.toList.map .lit) len)))))else none
   | none=>none
  | _,_=>none
 | _,_=>none
theorem eC {H H':AH}(hr:HR G H){t ty:TypeId}{x:AV}{vx:Value}(hx:VR G x vx)(h:WT P H t x=some H'):
  ∃G':Cfg,(Builtin.clear_ #[t] ty #[vx]).run P G.w=.ok (.tuple #[]) G'.w∧Evo G G'∧HR G' H':=by
 unfold WT at h;split at h
 ·rename_i hu
  injection h with h;subst h;simp only[VR]at hx;subst hx;exact⟨G,by simp[Builtin.clear_,run_underlying hu],Evo.refl G,hr⟩
 ·rename_i e o off len esz cap hu
  split at h
  ·rename_i i cs hi ho
   split at h
   ·rename_i z hz
    split at h
    ·rename_i hb
     obtain⟨rfl,h0,h1,h2⟩:=hb;injection h with h;subst h;simp only[VR]at hx;obtain⟨hon,a,c,rfl,hlc,hat⟩:=hx
     split
     ·rename_i hl
      subst hl;exact⟨G,by simp[Builtin.clear_,run_underlying hu],Evo.refl G,hr⟩
     ·rename_i hl
      have hv:=Lr (G:=G) (z:=z.cells) len h0;have hlen:(Be (z.cells.toList.map .lit) len).length=len*z.cells.size:=by rw[Di];simp
      obtain⟨G',q,hE,hn,hμ,hH⟩:=hr.store (P:=P) ho (off:=off) (xs:=Be (z.cells.toList.map .lit) len) (by omega) hv (Ns _ (λu hu=>Ae3.1 h1 u hu) h0);obtain⟨rfl,_⟩:=EX hat (by omega);refine⟨G',?_,hE,hH⟩;have hzi:(P.info? e).bind (·.zero)=some z:=by rw[hi];exact hz
      have hzc:Builtin.zeroCells z.cells len=madeCells z.cells (len*z.cells.size):=rfl;obtain⟨len',rfl⟩:∃l,len=l+1:=⟨len - 1,by omega⟩;simp[Builtin.clear_,run_underlying hu,C6 hzi,hzc,q]
    ·cases h
   ·cases h
  ·cases h
 ·cases h
def PO (P:Program)(H:AH)(t:TypeId)(l:Option AV):Option (AV×AH):=
 match P.underlying t,l with
 | some (.map _ _),none=>some (.mp H.length,H++[some (.map [])])
 | some (.map _ _),some (.lit (.int _ _))=>some (.mp H.length,H++[some (.map [])])
 | _,_=>none
theorem Yd {H H':AH}(hr:HR G H){t:TypeId}{l:Option AV}{vl:Option Value}{r:AV}(hl:VRo G l vl)(h:PO P H t l=some (r,H')):
  ∃(G':Cfg) (u:Value),(Instr.makeMap t vl).run P G.w=.ok u G'.w∧Evo G G'∧VR G' r u∧HR G' H':=by
 have key:∀{vl:Option Value},(Instr.makeMap t vl).run P G.w=.ok (.map (some G.w.heap.size)) (G.w.alloc (.map #[] 0))→
   ∃(G':Cfg) (u:Value),(Instr.makeMap t vl).run P G.w=.ok u G'.w∧Evo G G'∧VR G' (.mp H.length) u∧HR G' (H++[some (.map [])]):=by
  intro vl hrun;have hμn:(G.new (.map #[] 0) 0).μ H.length=(G.w.heap.size,0,0):=by simp[Cfg.new,hr.n]
  refine⟨G.new (.map #[] 0) 0,_,hrun,Evo.new _ _ _,?_,hr.new _ _ _ ?_⟩
  ·simp only[VR]
   rw[hμn];exact⟨by simp[Cfg.new,hr.n],rfl⟩
  ·refine⟨#[],?_,.nil,rfl,rfl⟩
   rw[hμn]
   simpa[Cfg.new]using heap_alloc_new G.w (.map #[] 0)
 unfold PO at h;split at h
 ·rename_i hu
  injection h with h;injection h with e1 e2;subst e1;subst e2;cases vl with
  | none=>exact key (by simp[Instr.makeMap])
  | some v=>simp[VRo]at hl
 ·rename_i ik n hu
  injection h with h;injection h with e1 e2;subst e1;subst e2;cases vl with
  | none=>simp[VRo]at hl
  | some v=>
   simp only[VRo,VR]at hl;subst hl;exact key (by simp[Instr.makeMap,run_underlying hu,asInt,asIntOf])
 ·cases h
def iU (P:Program)(t:TypeId)(x:AV):Option AV:=
 match P.underlying t,x with
 | some (.slice _),.sl _ _ _ _ (.ex k)=>some (.lit (goInt k))
 | some (.slice _),.lit (.slice none _ c)=>some (.lit (goInt c))
 | some (.slice _),.emp=>some (.lit (goInt 0))
 | some (.array n _),_=>some (.lit (goInt n))
 | _,_=>none
theorem nR {t ty:TypeId}{x r:AV}{v:Value}(hx:VR G x v)(h:iU P t x=some r)(w:World):∃u,(Builtin.cap_ #[t] ty #[v]).run P w=.ok u w∧VR G r u:=by
 unfold iU at h;split at h
 ·rename_i k hu
  injection h with h;subst h;simp only[VR]at hx;obtain⟨_,a,c,rfl,_,hs⟩:=hx;simp only[SlAt]at hs;obtain⟨rfl,_⟩:=hs;exact⟨_,by simp[Builtin.cap_,run_underlying hu];rfl,by simp only[VR]⟩
 ·rename_i c hu
  injection h with h;subst h;simp only[VR]at hx;subst hx;exact⟨_,by simp[Builtin.cap_,run_underlying hu];rfl,by simp only[VR]⟩
 ·rename_i hu
  injection h with h;subst h;simp only[VR]at hx;obtain⟨a,rfl⟩:=hx;exact⟨_,by simp[Builtin.cap_,run_underlying hu];rfl,by simp only[VR]⟩
 ·rename_i n e hu
  injection h with h;subst h;exact⟨goInt n,by simp[Builtin.cap_,run_underlying hu],by simp only[VR]⟩
 ·cases h
def PP (P:Program)(H:AH)(t:TypeId)(x:AV):Option AV:=
 match P.underlying t,x with
 | some (.map _ _),.mp o=>match H[o]? with
  | some (some (.map es))=>some (.lit (goInt es.length))
  | _=>none
 | _,_=>none
theorem ZF {H:AH}(hr:HR G H){t ty:TypeId}{x r:AV}{v:Value}(hx:VR G x v)(h:PP P H t x=some r):∃u,(Builtin.len_ #[t] ty #[v]).run P G.w=.ok u G.w∧VR G r u:=by
 unfold PP at h;split at h
 ·rename_i key elem o hu
  split at h
  ·rename_i es ho
   injection h with h;subst h;simp only[VR]at hx;obtain⟨_,rfl⟩:=hx;obtain⟨ents,hb,h1,h2,h3⟩:=hr.obj _ _ ho
   have hl:es.length=ents.size:=by
    have:=congrArg List.length h2
    simp at this;omega
   exact⟨goInt ents.size,by simp[Builtin.len_,run_underlying hu,MapKept.run_getObj_map hb],by simp only[VR,hl]⟩
  ·cases h
 ·cases h
end
end
section
section
variable {P : Program} {G : Cfg}
def Kj (H:AH)(size bytes:Nat)(zc:List AV)(s x:AV):Option (AV×AH):=
 match s,x with
 | .sl o off len esz (.ex k),.lit (.int _ n)=>match H[o]? with
  | some (some (.cells cs))=>
   if esz=size∧off+len*esz≤cs.length∧0<n∧k<len+n.toNat∧(len+n.toNat)*bytes≤140737488355328 then
    some (.sl H.length 0 (len+n.toNat) size (.ge (len+n.toNat)),H++[some (.cells ((cs.drop off).take (len*esz)++Be zc n.toNat))])
   else none
  | _=>none
 | _,_=>none
def M1 (P:Program)(H:AH)(ts tx:TypeId)(s x:AV):Option (AV×AH):=
 match P.underlying ts,P.underlying tx with
 | some (.slice e),some (.int _)=>
  match P.info? e with
  | none=>none
  | some i=>match i.zero with
   | none=>none
   | some z=>if i.size=0∨i.bytes=0∨z.cells.size≠i.size∨M4 z=false then none else
    Kj H i.size i.bytes (z.cells.toList.map .lit) s x
 | _,_=>none
abbrev Ah3:=@Int.toNat_natCast
abbrev Ad6:=@List.mem_iff_getElem?
theorem XU {H H':AH}(hr:HR G H){ts tx ty:TypeId}{s x r:AV}{vs vx:Value}(hs:VR G s vs)(hx:VR G x vx)(h:M1 P H ts tx s x=some (r,H')):
  ∃(G':Cfg) (u:Value),(Builtin.append_ #[ts,tx] ty #[vs,vx]).run P G.w=.ok u G'.w∧Evo G G'∧VR G' r u∧HR G' H':=by
 unfold M1 at h;split at h
 ·rename_i e kn hu hux
  split at h
  ·cases h
  rename_i i hi;split at h
  ·cases h
  rename_i z hz;split at h
  ·cases h
  rename_i hc;rw[not_or,not_or,not_or]at hc;obtain⟨hs0,hb0,hzs,hone⟩:=hc;have hzs:=Af2 hzs;have hone:M4 z=true:=by simpa using hone
  unfold Kj at h;split at h
  ·rename_i o off len esz k kq n
   split at h
   ·rename_i cs hcs
    split at h
    ·rename_i hb
     obtain⟨rfl,hfit,hn0,hg,hbytes⟩:=hb;injection h with h;injection h with h1 h2;subst h1;subst h2;simp only[VR]at hs hx;subst hx;obtain⟨ho,a,c,rfl,hlc,hck,hsl⟩:=hs;subst hck;obtain⟨m,rfl⟩:∃m:Nat,n=m:=⟨n.toNat,by omega⟩;simp only[Ah3]at hg hbytes⊢;have hm0:0<m:=by omega
     obtain⟨cc,ce,vs,q1,q2,q3,q4,q5⟩:=hr.obj o _ hcs
     -- what the slice holds
     have hol:((vs.drop off).take (len*i.size)).length=len*i.size:=by
      have:=q4.length
      rw[Ac0,Ac7];omega
     have hfc:(Builtin.firstCells i.size len (.slice (some a) len c)).run P G.w.drew=.ok ((vs.drop off).take (len*i.size)).toArray G.w.drew:=by
      refine run_firstCells_some G.w.drew i.size len a len c _ hol λj v hj=>?_
      rcases hsl with h0 | ⟨rfl,hfit2⟩
      ·subst h0
       have:len=0:=by omega
       subst this;simp at hj
      ·rw[Ac9,Ad1]at hj
       split at hj
       ·have:=(q5 _ _ hj).1
        show World.cell? _ _=_
        simp only[Addr.add_lit];unfold World.cell?;have e1:G.w.drew.heap=G.w.heap:=rfl;simp only[e1,q1];rw[show(G.μ o).2.1+off+j=(G.μ o).2.1+(off+j) by omega];exact this
       ·cases hj
     have hn63:((len+m:Nat):Int)≤9223372036854775807:=by
      have:(len+m)*1≤(len+m)*i.bytes:=Nat.mul_le_mul_left _ (by omega);omega
     have hmb:m*i.bytes≤281474976710656:=by
      have:m*i.bytes≤(len+m)*i.bytes:=Ad0 _ (by omega);omega
     have q:=Go.Lib.run_append_grow_zeros (P:=P) (ty:=ty) G.w ts tx e i z kq kn hu hux hi hz (some a) len c _ hfc m hm0 (by omega) hg hn63 hmb (growslice_fits hg hbytes);generalize hcap:grownCap G.w (len+m) c e=cap at q;have hge:len+m≤cap:=by rw[← hcap];exact grownCap_ge _ _ _ _
     generalize hrow:((vs.drop off).take (len*i.size)).toArray++Builtin.zeroCells z.cells m++Builtin.zeroCells z.cells (cap - (len+m))=row at q
     have hsize:row.size=cap*i.size:=by
      rw[← hrow];simp only[Aa0,size_zeroCells,hzs,hol,← Ag9]
      congr 1
      omega
     have hzm:(Builtin.zeroCells z.cells m).toList=(madeCells z.cells (m*i.size)).toList:=by
      rw[← hzs];apply Ae5;intro j;have:z.cells.size≠0:=by rw[hzs];exact hs0
      rw[Ae2,Ae2,getElem?_madeCells];unfold Builtin.zeroCells;simp only[Ao4]
      by_cases hj:j<m*z.cells.size
      ·rw[if_pos hj]
       simp[hj]
      ·rw[if_neg hj]
       simp[hj]
     have hzr:VRs G (Be (z.cells.toList.map .lit) m) (Builtin.zeroCells z.cells m).toList:=by
      rw[hzm,← hzs];exact Lr m (by rw[hzs];exact hs0)
     have hall:VRs G ((cs.drop off).take (len*i.size)++Be (z.cells.toList.map .lit) m) ((vs.drop off).take (len*i.size)++(Builtin.zeroCells z.cells m).toList):=((q4.drop off).take _).append hzr;have hlen:=hall.length
     let G1:Cfg:={G with w:=G.w.drew}
     have hr1:HR G1 H:=hr.drew
     have hR:HR (G1.new (.cells row e) (cap*i.size)) (H++[some (.cells ((cs.drop off).take (len*i.size)++Be (z.cells.toList.map .lit) m))]):=by
      refine hr1.newCells row e (by rw[hsize];exact Ac2 _) ?_ (hall.evo (Evo.drew G)) ?_
      ·rw[hlen,Ac6,hol,Af5,size_zeroCells,hzs,← Ag9]
       exact Ad0 _ hge
      ·intro j v hj
       refine⟨?_,?_⟩
       ·have hj':(((vs.drop off).take (len*i.size)).toArray++Builtin.zeroCells z.cells m)[j]?=some v:=by
         rw[← Ae2,Array.toList_append];exact hj
        rw[← hrow,Am1 (Array.getElem?_eq_some_iff.1 hj').1];exact hj'
       ·rcases Af8.1 (Ac3 hj)with hm | hm
        ·obtain⟨k',hk'⟩:=Ad6.1 (Ag1 hm)
         rw[Ad1]at hk';exact(q5 _ _ hk').2
        ·rw[hzm]at hm
         exact Ns _ (λu hu=>Ae3.1 hone u hu) (by rw[hzs];exact hs0) v hm
     have hμ:(G1.new (.cells row e) (cap*i.size)).μ H.length=(G.w.heap.size,0,cap*i.size):=by simp[Cfg.new,G1,hr.n]
     refine⟨G1.new (.cells row e) (cap*i.size),_,q,(Evo.drew G).trans (Evo.new G1 _ _),?_,hR⟩;simp only[VR];refine⟨by simp[Cfg.new,G1,hr.n],_,_,rfl,hge,?_⟩;rw[hμ];exact⟨hge,.inr ⟨rfl,by simp⟩⟩
    ·cases h
   ·cases h
  ·cases h
 ·cases h
end
end
section
section
variable {P : Program} {G : Cfg}
theorem ZU (w:World)(b:Nat)(k:Nat)(c:Array Value)(e:TypeId)(h:w.heap[b]?=some (.cells c e (0,0))):(w.freeze ⟨b,c.size,none⟩ 1).heap[k]?=if k=b then some (.cells c e (c.size,c.size+1))else w.heap[k]?:=by
 unfold World.freeze;simp only[Nat.one_ne_zero,if_false];rw[An6]
 by_cases hk:k=b
 ·subst hk;simp[h]
 ·rw[if_neg hk,if_neg (λe=>hk e.symm)]
theorem Xj {H : AH} (hr : HR G H) {t e : TypeId} (ht : P.underlying t=some (.slice e)) (he : P.underlying e=some (.int .u8)) {o off len : Nat} {cap : Room} {cs : List AV} {v : Value} (hx : VR G (.sl o off len 1 cap) v) (ho : H[o]? = some (some (.cells cs))) (hb : off + len≤cs.length) (hpos : 0 < len) :
    ∃(G':Cfg) (u:Value),(convert t t v).run P G.w=.ok u G'.w∧Evo G G'∧VR G' (.imm ((cs.drop off).take len) len 1) u∧HR G' (H.set o none):=by
  simp only[VR]at hx;obtain⟨hon,a,c,rfl,hlc,hsl⟩:=hx;obtain⟨ca,el,vs,hw,hsz,hcl,hvs,hcell⟩:=hr.obj o _ ho
  have hblk:a=⟨(G.μ o).1,(G.μ o).2.1+off,none⟩:=by
    unfold SlAt at hsl;cases cap with
    | ex k => obtain ⟨h1, h2⟩ := hsl; rcases h2 with h2 | h2
              · omega
              · exact h2.1
    | ge k => obtain ⟨h1, h2⟩ := hsl; rcases h2 with h2 | h2
              · omega
              · exact h2.1
  subst hblk;have hL:=hr.live o _ ho
  let b:=(G.μ o).1
  let G1:Cfg:={w:=G.w.freeze ⟨b,ca.size,none⟩ 1,n:=G.n,μ:=G.μ,L:=λk=>G.L k∧k≠b,K:=G.K}
  have hget:∀k,G1.w.heap[k]?=if k=b then some (.cells ca el (ca.size,ca.size+1))else G.w.heap[k]?:=λk=>ZU G.w b k ca el hw
  have hsize:G1.w.heap.size=G.w.heap.size:=by simp[G1,World.freeze]
  have hE:Evo G G1:=⟨rfl,rfl,rfl,by rw[hsize];exact Ac2 _,λk _ hk=>⟨by rw[hget,if_neg (fun (e:k=b)=>hk (by rw[e];exact hL))],λh=>hk h.1⟩,Ac2 _,λ_ _=>rfl,rfl⟩
  have hcellb:∀i,G1.w.cell? ⟨b,i,none⟩=ca[i]?:=λi=>by
    unfold World.cell?;rw[hget,if_pos rfl];simp
  refine⟨G1,.slice (some ⟨b,(G.μ o).2.1+off,none⟩) len c,?_,hE,?_,?_⟩
  · have hsh:G.w.shape? b=some (el,ca.size):=by simp[World.shape?,b,hw]
    simp[convert,run_underlying ht,run_underlying he,markStringish,hsh,b,G1]
  · simp only[VR];have hvd:VRs G ((cs.drop off).take len) ((vs.drop off).take len):=(hvs.drop off).take len;refine⟨_,c,(vs.drop off).take len,rfl,hlc,.inr ⟨?_,λi u hu=>?_⟩,VRs.evo hE hvd⟩
    · rintro(h | h)
      · exact h.2 rfl
      · exact hr.dis _ hL h
    · rw[Ac9]at hu;split at hu
      · rw[Ad1]at hu;obtain⟨h1,h2⟩:=hcell (off+i) u hu;refine⟨?_,h2⟩;rw[Addr.add_lit,hcellb,← h1]
        congr 1
        omega
      · cases hu
  · refine⟨by rw[Ae1];exact hr.n,λo' x' ho'=>?_,λo1 o2 x1 x2 h1 h2=>?_,λo' x' ho'=>?_,λk hk=>?_,λk hk=>hr.dis k hk.1⟩
    · have hne:o'≠o:=by rintro rfl;rw[JW (BD.1 ho).1]at ho';simp at ho'
      rw[C4 (Af4 hne)]at ho';refine OR.evo hE (hr.lt_n ho') ?_ (hr.obj o' x' ho');rw[hget,if_neg (λh=>hne (hr.inj o' o x' _ ho' ho h))]
    · have n1:o1≠o:=by rintro rfl;rw[JW (BD.1 ho).1]at h1;simp at h1
      have n2:o2≠o:=by rintro rfl;rw[JW (BD.1 ho).1]at h2;simp at h2
      rw[C4 (Af4 n1)]at h1;rw[C4 (Af4 n2)]at h2;exact hr.inj o1 o2 x1 x2 h1 h2
    · have hne:o'≠o:=by rintro rfl;rw[JW (BD.1 ho).1]at ho';simp at ho'
      rw[C4 (Af4 hne)]at ho';exact⟨hr.live o' x' ho',λh=>hne (hr.inj o' o x' _ ho' ho h)⟩
    · rw[hsize];exact hr.lt k (hk.imp (λh=>h.1) id)
def rL (H:AH)(x:AV):Option (AV×AH):=match x with
 | .sl o off len 1 cap=>match H[o]? with
  | some (some (.cells cs))=>if off+len≤cs.length∧0<len then some (.imm ((cs.drop off).take len) len 1,H.set o none)else none
  | _=>none
 | _=>none
def Yj (P:Program)(H:AH)(s d:TypeId)(x:AV):Option (AV×AH):=match Nat.beq s d with
 | true=>match P.underlying d with
  | some (.slice e)=>match P.underlying e with
   | some (.int .u8)=>rL H x
   | _=>none
  | _=>none
 | false=>none
abbrev Ai4:=@Nat.eq_of_beq_eq_true
theorem jG {H H':AH}(hr:HR G H){s d:TypeId}{x r:AV}{v:Value}(hx:VR G x v)(h:Yj P H s d x=some (r,H')):∃(G':Cfg) (u:Value),(convert s d v).run P G.w=.ok u G'.w∧Evo G G'∧VR G' r u∧HR G' H':=by
 unfold Yj at h;split at h
 ·rename_i hsd
  have:=Ai4 hsd
  subst this;split at h
  ·rename_i e he
   split at h
   ·rename_i he2
    unfold rL at h;split at h
    ·rename_i o off len cap
     split at h
     ·rename_i cs hc
      split at h
      ·rename_i hb
       injection h with h;injection h with h1 h2;subst h1;subst h2;exact Xj hr he he2 hx hc hb.1 hb.2
      ·cases h
     ·cases h
    ·cases h
   ·cases h
  ·cases h
 ·cases h
end
end
section
section
variable {P : Program} {G : Cfg}
def Ud (P:Program)(src dst:TypeId)(x:AV):Option AV:=
 match P.underlying src,P.underlying dst,x with
 | some .string,some (.slice e),.lit (.string s)=>match P.underlying e with
  | some (.int .u8)=>some (.imm (s.data.toList.map λb=>.lit (.int .u8 b.toNat)) s.size 1)
  | _=>none
 | _,_,_=>none
theorem Yx {w:World}{c:Array Value}{e:TypeId}{fr:Nat×Nat}(j:Nat):(w.alloc (.cells c e fr)).cell? ⟨w.heap.size,j,none⟩=c[j]?:=by
 unfold World.cell?;rw[heap_alloc_new];rfl
theorem dZ {H:AH}(hr:HR G H){src dst:TypeId}{x r:AV}{v:Value}(hx:VR G x v)(h:Ud P src dst x=some r):
  ∃(G':Cfg) (u:Value),(convert src dst v).run P G.w=.ok u G'.w∧Evo G G'∧VR G' r u∧HR G' H:=by
 unfold Ud at h;split at h
 ·rename_i e s hs hd
  split at h
  ·rename_i he
   injection h with h;subst h;simp only[VR]at hx;subst hx;have q:=run_bytes_of_string (P:=P) G.w src dst e s hs hd he;generalize hcap:grownCap G.w s.size 0 e=cap at q;have hge:s.size≤cap:=by rw[← hcap];exact grownCap_ge _ _ _ _
   generalize hfr:((bytesRow s cap).size,(bytesRow s cap).size+1)=fr at q
   let G1:Cfg:={G with w:=G.w.drew.alloc (.cells (bytesRow s cap) e fr)}
   have hE:Evo G G1:=⟨rfl,rfl,rfl,by simp[G1],λk hk hL=>⟨Below.heap_alloc _ _ _ hk,hL⟩,Ac2 _,λ_ _=>rfl,rfl⟩;refine⟨G1,_,q,hE,?_,?_⟩
   ·simp only[VR]
    refine⟨_,_,byteCells s,rfl,hge,.inr ⟨λhL=>?_,λi v hv=>?_⟩,?_⟩
    ·have:=hr.lt _ hL;simp at this
    ·refine⟨?_,?_⟩
     ·rw[Addr.add_lit]
      have:=Yx (w:=G.w.drew) (c:=bytesRow s cap) (e:=e) (fr:=fr) i
      rw[show(0:Nat)+i=i by omega];refine this.trans ?_;unfold bytesRow;unfold byteCells at hv;rw[Am1 (by have:=(BD.1 hv).1;simpa using this)]
      simpa using hv
     ·have:=Ac3 hv
      unfold byteCells at this;obtain⟨_,_,rfl⟩:=Ae6.1 this;rfl
    ·unfold byteCells
     have:=VRs.lits (G:=G1) (s.data.toList.map λb=>Value.int .u8 b.toNat)
     simpa[List.map_map,Function.comp_def]using this
   ·exact⟨hr.n,λo x ho=>OR.evo hE (hr.lt_n ho) (Below.heap_alloc _ _ _ (hr.lt _ (.inl (hr.live _ _ ho)))) (hr.obj o x ho),hr.inj,hr.live,λb hb=>by have:=hr.lt b hb;simp[G1];omega,hr.dis⟩
  ·cases h
 ·cases h
def Bt (P:Program)(H:AH)(b:Builtin)(ts:List TypeId)(xs:List AV):Option (AV×AH):=
 match b,ts,xs with
 | .len,[t],[x]=>(match Rx P t x with
  | some r=>some r
  | none=>PP P H t x).map (·,H)
 | .cap,[t],[x]=>(iU P t x).map (·,H)
 | .clear,[t],[x]=>(WT P H t x).map (.lit (.tuple #[]),·)
 | .append,[t,u],[s,x]=>match Ls P H t u s x with
  | some r=>some r
  | none=>M1 P H t u s x
 | .copy,[t,_],[d,s]=>XZ P H t d s
 | .min,_,xs=>(amm VP xs).map (·,H)
 | .max,_,xs=>(amm ZX xs).map (·,H)
 | _,_,_=>none
def CD (P:Program)(ρ:Operand→AV)(H:AH)(o:Oper):Option (AV×AH):=
 match o.op with
 | .move x | .assign x=>some (ρ x,H)
 | .pick c a b=>match ρ c with
  | .lit (.bool t)=>some (if t then ρ a else ρ b,H)
  | _=>none
 | .alloc e=>match Pc P e with
  | some z=>AD H (.ofV z)
  | none=>none
 | .box _ x=>AD H (ρ x)
 | .build t parts=>(Ub P t (parts.toList.map λp=>(p.1,ρ p.2))).map (·,H)
 | .buildSlice t len parts=>Ed P H t len (parts.toList.map λp=>(p.1,ρ p.2))
 | .load t a=>(S7 P H t (ρ a)).map (·,H)
 | .store t a x=>(RE P H t (ρ a) (ρ x)).map (AG,·)
 | .nilCheck x=>(Ai (ρ x)).map (·,H)
 | .binOp op t x y _=>(Ph P op t (ρ x) (ρ y)).map (·,H)
 | .unOp op _ x=>(Fb op (ρ x)).map (·,H)
 | .convert s d x=>match EJ P H s d (ρ x)with
  | some r=>some (r,H)
  | none=>match Ud P s d (ρ x)with
   | some r=>some (r,H)
   | none=>Yj P H s d (ρ x)
 | .makeFunc fn f c=>some (.fn fn (f.toList.map ρ) (c.toList.map ρ),H)
 | .makeSlice t l c=>bW P H t (ρ l) (ρ c)
 | .slice t x lo hi mx=>(Ly P H t (ρ x) (lo.map ρ) (hi.map ρ) (mx.map ρ)).map (·,H)
 | .fieldAddr s x f=>(Lu P s (ρ x) f).map (·,H)
 | .field s x f=>(Uf P s (ρ x) f).map (·,H)
 | .indexAddr t x i=>(IU P t (ρ x) (ρ i)).map (·,H)
 | .index t x i=>(Uh P t (ρ x) (ρ i)).map (·,H)
 | .extract t i=>(Aj (ρ t) i).map (·,H)
 | .makeMap t l=>PO P H t (l.map ρ)
 | .lookup t x k co=>(PM P H t (ρ x) (ρ k) co).map (·,H)
 | .mapUpdate t m k x=>(IW P H t (ρ m) (ρ k) (ρ x)).map (AG,·)
 | .mapEntry t m k=>ND P H t (ρ m) (ρ k)
 | .entryStore _ m s x=>(Hw H (ρ m) (ρ s) (ρ x)).map (AG,·)
 | .call {callee:=.builtin b,args,argTypes}=>Bt P H b argTypes.toList (args.toList.map ρ)
 | _=>none
def OpS (P:Program)(G:Cfg)(s:Sem Next)(r:AV)(H':AH):Prop:=
 ∃(G':Cfg) (u:Value),(s.run P G.w=.ok (.value u) G'.w∨(s.run P G.w=.ok .skip G'.w∧u=undef))∧Evo G G'∧VR G' r u∧HR G' H'
theorem OpS.val {s:Sem Value}{r:AV}{H:AH}(hr:HR G H)(h:∃u,s.run P G.w=.ok u G.w∧VR G r u):OpS P G (do pure (.value (← s))) r H:=by
 obtain⟨u,hu,hx⟩:=h;exact⟨G,u,.inl (by simp[hu]),Evo.refl G,hx,hr⟩
theorem OpS.heap {s:Sem Value}{r:AV}{H':AH}(h:∃(G':Cfg) (u:Value),s.run P G.w=.ok u G'.w∧Evo G G'∧VR G' r u∧HR G' H'):OpS P G (do pure (.value (← s))) r H':=by
 obtain⟨G',u,hu,hE,hx,hr⟩:=h;exact⟨G',u,.inl (by simp[hu]),hE,hx,hr⟩
theorem VRs.map_ops {ρ:Operand→AV}{ρc:Operand→Value}(hf:∀x,VR G (ρ x) (ρc x))(l:List Operand):VRs G (l.map ρ) (l.map ρc):=by
 induction l with
 | nil=>exact .nil
 | cons x l ih=>exact .cons (hf x) ih
theorem VRo.map_ops {ρ:Operand→AV}{ρc:Operand→Value}(hf:∀x,VR G (ρ x) (ρc x))(l:Option Operand):VRo G (l.map ρ) (l.map ρc):=by
 cases l with
 | none=>trivial
 | some x=>exact hf x
theorem VRs.map_parts {ρ:Operand→AV}{ρc:Operand→Value}(hf:∀x,VR G (ρ x) (ρc x))(l:List (Nat×Operand)):
  (l.map λp=>(p.1,ρ p.2)).map Prod.fst=(l.map λp=>(p.1,ρc p.2)).map Prod.fst∧VRs G ((l.map λp=>(p.1,ρ p.2)).map Prod.snd) ((l.map λp=>(p.1,ρc p.2)).map Prod.snd):=by
 induction l with
 | nil=>exact⟨rfl,.nil⟩
 | cons x l ih=>exact⟨by simp,.cons (hf x.2) ih.2⟩
theorem Cz {α:Type}{o:Option α}{H H':AH}{r:α}(h:o.map (·,H)=some (r,H')):o=some r∧H'=H:=by
 obtain⟨a,ha,he⟩:=Option.map_eq_some_iff.1 h;injection he with h1 h2;exact⟨by rw[ha,h1],h2.symm⟩
theorem uH {x:AV}{vs:List Value}(h:VRs G [x] vs):∃v,vs=[v]∧VR G x v:=by
 simp only[VRs]at h;obtain⟨v,r,e,hv,e2⟩:=h;exact⟨v,by rw[e,e2],hv⟩
theorem xJ {x y:AV}{vs:List Value}(h:VRs G [x,y] vs):∃v u,vs=[v,u]∧VR G x v∧VR G y u:=by
 simp only[VRs]at h;obtain⟨v,r,e,hv,u,r2,e2,hu,e3⟩:=h;exact⟨v,u,by rw[e,e2,e3],hv,hu⟩
theorem XV {H H':AH}(hr:HR G H){b:Builtin}{ts:Array TypeId}{ty:TypeId}{cs:Array Bool}{xs:List AV}{vs:List Value}{r:AV}(hx:VRs G xs vs)(h:Bt P H b ts.toList xs=some (r,H')):
  OpS P G (builtin b ts ty cs vs.toArray) r H':=by
 obtain⟨ts⟩:=ts;simp only at h;unfold Bt at h;split at h
 ·obtain⟨h2,rfl⟩:=Cz h
  obtain⟨v,rfl,hv⟩:=uH hx;split at h2
  ·rename_i h3
   injection h2 with h2;subst h2;exact OpS.val hr (nU hv h3 _)
  ·exact OpS.val hr (ZF hr hv h2)
 ·obtain⟨h2,rfl⟩:=Cz h
  obtain⟨v,rfl,hv⟩:=uH hx;exact OpS.val hr (nR hv h2 _)
 ·obtain⟨v,rfl,hv⟩:=uH hx
  obtain⟨H1,h1,he⟩:=Option.map_eq_some_iff.1 h;injection he with e1 e2;subst e1;subst e2;obtain⟨G',q,hE,hH⟩:=eC (ty:=ty) hr hv h1;exact OpS.heap ⟨G',_,q,hE,by simp only[VR],hH⟩
 ·obtain⟨v,u,rfl,hv,hu⟩:=xJ hx
  split at h
  ·rename_i r1 h1
   injection h with h;subst h;exact OpS.heap (Z8 hr hv hu h1)
  ·exact OpS.heap (XU hr hv hu h)
 ·obtain⟨v,u,rfl,hv,hu⟩:=xJ hx
  exact OpS.heap (iV hr hv hu h)
 ·obtain⟨h2,rfl⟩:=Cz h
  exact OpS.val hr (nX (vs:=vs.toArray) hx h2 _)
 ·obtain⟨h2,rfl⟩:=Cz h
  exact OpS.val hr (nW (vs:=vs.toArray) hx h2 _)
 ·cases h
theorem Ht {H H':AH}{a r:AV}(h:some (a,H)=some (r,H')):r=a∧H'=H:=by
 injection h with h;injection h with h1 h2;exact⟨h1.symm,h2.symm⟩
abbrev Ai5:=@Array.toList_map
set_option maxHeartbeats 2000000 in
theorem jE {ρ:Operand→AV}{ρc:Operand→Value}{H H':AH}(hr:HR G H)(hf:∀x,VR G (ρ x) (ρc x)){o:Oper}{r:AV}(h:CD P ρ H o=some (r,H')):OpS P G (execOp ρc o) r H':=by
 obtain⟨dst,op,type,pos,after,guard⟩:=o;cases op
 case move x=>obtain⟨rfl,rfl⟩:=Ht h;exact⟨G,_,.inl rfl,Evo.refl G,hf x,hr⟩
 case assign x=>obtain⟨rfl,rfl⟩:=Ht h;exact⟨G,_,.inl rfl,Evo.refl G,hf x,hr⟩
 case pick c a b=>
  unfold CD at h;simp only at h;split at h
  ·rename_i t ht
   obtain⟨rfl,rfl⟩:=Ht h
   have:=hf c
   rw[ht]at this;simp only[VR]at this;refine⟨G,if t then ρc a else ρc b,.inl (by simp[execOp,this,asBool]),Evo.refl G,?_,hr⟩;cases t
   ·exact hf b
   ·exact hf a
  ·cases h
 case alloc e=>
  unfold CD at h;simp only at h;split at h
  ·rename_i z hz
   obtain⟨G',u,h1,h2,h3,h4⟩:=bX (P:=P) (e:=e) hr (VR.ofV G z) h;exact OpS.heap ⟨G',_,by simp[Instr.alloc,C6 hz,h1],h2,h3,h4⟩
  ·cases h
 case box e x=>
  obtain⟨G',u,h1,h2,h3,h4⟩:=bX (P:=P) (e:=e) hr (hf x) h;exact OpS.heap ⟨G',_,by simp[Instr.box,h1],h2,h3,h4⟩
 case build t parts=>
  obtain⟨h2,rfl⟩:=Cz h;obtain⟨e1,e2⟩:=VRs.map_parts hf parts.toList;have q:=dY (vparts:=parts.map fun (i,x)=>(i,ρc x)) (by rw[Ai5];exact e1) (by rw[Ai5];exact e2) h2 G.w;exact OpS.val hr q
 case buildSlice t len parts=>
  obtain⟨e1,e2⟩:=VRs.map_parts hf parts.toList;have h2:Ed P H t len (parts.toList.map λp=>(p.1,ρ p.2))=some (r,H'):=h;have q:=Uc hr (vparts:=parts.map fun (i,x)=>(i,ρc x)) (by rw[Ai5];exact e1) (by rw[Ai5];exact e2) h2;exact OpS.heap q
 case load t a=>obtain⟨h2,rfl⟩:=Cz h;exact OpS.val hr (Yc hr (hf a) h2)
 case store t a x=>
  obtain⟨H1,h1,he⟩:=Option.map_eq_some_iff.1 (show(RE P H t (ρ a) (ρ x)).map (AG,·)=some (r,H')from h);injection he with e1 e2;subst e1;subst e2;obtain⟨G',q,hE,hH⟩:=eQ hr (hf a) (hf x) h1;exact⟨G',undef,.inr ⟨by simp[execOp,q],rfl⟩,hE,by simp only[AG,VR],hH⟩
 case nilCheck x=>
  obtain⟨h2,rfl⟩:=Cz h;obtain⟨rfl,h1⟩:=WW (hf x) h2;refine⟨G,ρc x,.inl ?_,Evo.refl G,hf x,hr⟩;rcases h1 with⟨a,h1⟩ | ⟨f,a,b,h1⟩<;>simp[execOp,h1]
 case binOp op t x y u=>obtain⟨h2,rfl⟩:=Cz h;exact OpS.val hr (nQ (hf x) (hf y) h2)
 case unOp op t x=>obtain⟨h2,rfl⟩:=Cz h;exact OpS.val hr (rS (hf x) h2)
 case convert s d x=>
  unfold CD at h;simp only at h;split at h
  ·rename_i q hq
   obtain⟨rfl,rfl⟩:=Ht h;exact OpS.val hr (XY hr (hf x) hq)
  ·split at h
   ·rename_i q hq
    obtain⟨rfl,rfl⟩:=Ht h;exact OpS.heap (dZ hr (hf x) hq)
   ·exact OpS.heap (jG hr (hf x) h)
 case makeFunc fn f c=>
  obtain⟨rfl,rfl⟩:=Ht h;refine OpS.val hr ⟨.func fn (f.map ρc) (c.map ρc),rfl,?_⟩;simp only[VR];exact⟨_,_,rfl,by rw[Ai5];exact VRs.map_ops hf f.toList,by rw[Ai5];exact VRs.map_ops hf c.toList⟩
 case makeSlice t l c=>exact OpS.heap (jB hr (hf l) (hf c) h)
 case slice t x lo hi mx=>obtain⟨h2,rfl⟩:=Cz h;exact OpS.val hr (eP hr (hf x) (VRo.map_ops hf lo) (VRo.map_ops hf hi) (VRo.map_ops hf mx) h2)
 case fieldAddr s x f=>obtain⟨h2,rfl⟩:=Cz h;exact OpS.val hr (V7 (hf x) h2)
 case field s x f=>obtain⟨h2,rfl⟩:=Cz h;exact OpS.val hr (eG (hf x) h2)
 case indexAddr t x i=>obtain⟨h2,rfl⟩:=Cz h;exact OpS.val hr (V9 (hf x) (hf i) h2)
 case index t x i=>obtain⟨h2,rfl⟩:=Cz h;exact OpS.val hr (eH (hf x) (hf i) h2)
 case extract t i=>obtain⟨h2,rfl⟩:=Cz h;exact OpS.val hr (Ya (hf t) h2)
 case makeMap t l=>exact OpS.heap (Yd hr (VRo.map_ops hf l) h)
 case lookup t x k co=>obtain⟨h2,rfl⟩:=Cz h;exact OpS.val hr (ZE hr (hf x) (hf k) h2)
 case mapUpdate t m k x=>
  obtain⟨H1,h1,he⟩:=Option.map_eq_some_iff.1 (show(IW P H t (ρ m) (ρ k) (ρ x)).map (AG,·)=some (r,H')from h);injection he with e1 e2;subst e1;subst e2;obtain⟨G',q,hE,hH⟩:=VA hr (hf m) (hf k) (hf x) h1;exact⟨G',undef,.inr ⟨by simp[execOp,q],rfl⟩,hE,by simp only[AG,VR],hH⟩
 case mapEntry t m k=>exact OpS.heap (WV hr (hf m) (hf k) h)
 case entryStore t m s x=>
  obtain⟨H1,h1,he⟩:=Option.map_eq_some_iff.1 (show(Hw H (ρ m) (ρ s) (ρ x)).map (AG,·)=some (r,H')from h);injection he with e1 e2;subst e1;subst e2;obtain⟨G',q,hE,hH⟩:=Ue (P:=P) (t:=t) hr (hf m) (hf s) (hf x) h1;exact⟨G',undef,.inr ⟨by simp[execOp,q],rfl⟩,hE,by simp only[AG,VR],hH⟩
 case call c=>
  obtain⟨callee,args,argTypes⟩:=c;cases callee
  case builtin b=>
   obtain⟨args⟩:=args;have h':Bt P H b argTypes.toList (args.map ρ)=some (r,H'):=h;have q:=λcs=>XV (ty:=type) (cs:=cs) hr (VRs.map_ops hf args) h'
   simp only[execOp,resolve,invoke,pure_bind,List.map_toArray];exact q _
  all_goals cases h
 all_goals cases h
end
end
section
section
variable {P : Program}
abbrev AQ:=Exit→List AV→AH→Prop
def ACalls (P:Program)(f:FuncId)(args:List AV)(H:AH)(R:AV→AH→Prop):Prop:=
 ∀(G:Cfg) (vs:List Value),HR G H→VRs G args vs→
  Calls P f vs.toArray G.w λe w'=>∃(r:AV) (H':AH) (G':Cfg) (v:Value),e=.returned v∧G'.w=w'∧Evo G G'∧VR G' r v∧HR G' H'∧R r H'
abbrev FW (ρ:Option Nat):Fence:={Fence.wide with round:=ρ}
abbrev nN:=Option Nat×Nat
abbrev lD (D:Nat):Deferred:={target:=.collected D,args:=#[]}
structure DF (G:Cfg)(ρ:nN)(a:Act):Prop where
 defs:∃Ds:List Nat,a.defers=Ds.map lD∧Ds.Nodup∧∀D∈Ds,ρ.2≤D∧¬G.L D∧G.w.heap[D]?=some (.deferred (some []))
 round:∀l,ρ.1=some l→∃r,G.w.heap[l]?=some (.loop r)∧¬G.L l
 lb:ρ.2≤G.w.heap.size
theorem QA {G G':Cfg}(hE:Evo G G'){k:Nat}{x:Obj}(h:G.w.heap[k]?=some x)(hL:¬G.L k):G'.w.heap[k]?=some x∧¬G'.L k:=by
 obtain⟨e,l⟩:=hE.keep k (Array.getElem?_eq_some_iff.1 h).1 hL;exact⟨by rw[e];exact h,l⟩
theorem DF.evo {G G':Cfg}{ρ:nN}{a a':Act}(h:DF G ρ a)(hE:Evo G G')(ha:a'.defers=a.defers):DF G' ρ a':=by
 obtain⟨⟨Ds,h1,h2,h3⟩,hr,hlb⟩:=h;refine⟨⟨Ds,by rw[ha,h1],h2,λD hD=>?_⟩,λl hl=>?_,Ad8 hlb hE.size⟩
 ·obtain⟨a1,a2,a3⟩:=h3 D hD
  obtain⟨b1,b2⟩:=QA hE a3 a2;exact⟨a1,b2,b1⟩
 ·obtain⟨r,h1,h2⟩:=hr l hl
  exact⟨r,QA hE h1 h2⟩
theorem DF.put {G:Cfg}{ρ:nN}{a:Act}(h:DF G ρ a)(d:Option Tmp)(v:Value):DF G ρ (a.put d v):=by
 refine⟨?_,h.round,h.lb⟩;cases d<;>exact h.defs
def VX (G:Cfg)(ρ:nN)(Q:AQ):Exit→Act→World→Prop:=
 λe a w=>∃(T:List AV) (H:AH) (G':Cfg),G'.w=w∧Evo G G'∧FR G' T a∧DF G' ρ a∧HR G' H∧Q e T H
def ACode (P:Program)(c:Code)(Q:AQ)(T:List AV)(H:AH):Prop:=
 ∀(G0 G:Cfg) (a:Act) (ρ:nN),Evo G0 G→FR G T a→DF G ρ a→HR G H→c.wpIn (FW ρ.1) 0 P (VX G0 ρ Q) a G.w
def AOps (P:Program)(ops:Array Oper)(Q:AQ)(l:List Oper)(T:List AV)(H:AH):Prop:=
 ∀(G0 G:Cfg) (a:Act) (ρ:nN),Evo G0 G→FR G T a→DF G ρ a→HR G H→wpListIn (FW ρ.1) 0 P ops (VX G0 ρ Q) l a G.w
theorem ACalls.mono {f:FuncId}{args:List AV}{H:AH}{R R':AV→AH→Prop}(h:ACalls P f args H R)(hr:∀r H',R r H'→R' r H'):ACalls P f args H R':=
 λG vs hH hv=>(h G vs hH hv).mono fun e w' ⟨r,H',G',v,a,b,c,d,e',q⟩=>⟨r,H',G',v,a,b,c,d,e',hr _ _ q⟩
theorem ACode.mono {c:Code}{Q Q':AQ}{T:List AV}{H:AH}(h:ACode P c Q T H)(hq:∀e T H,Q e T H→Q' e T H):ACode P c Q' T H:=
 λG0 G a ρ hE hF hd hH=>Code.wpIn_mono (fun e a w ⟨T,H,G',a1,a2,a3,a4,a5,a6⟩=>⟨T,H,G',a1,a2,a3,a4,a5,hq _ _ _ a6⟩) (h G0 G a ρ hE hF hd hH)
theorem KZ {Q:AQ}{e:Exit}{T:List AV}{H:AH}(h:Q e T H){G0 G:Cfg}{a:Act}{ρ:nN}(hE:Evo G0 G)(hF:FR G T a)(hd:DF G ρ a)(hH:HR G H):VX G0 ρ Q e a G.w:=⟨T,H,G,rfl,hE,hF,hd,hH,h⟩
theorem ACode.skip {Q:AQ}{T:List AV}{H:AH}(h:Q .normal T H):ACode P .skip Q T H:=λG0 G a ρ hE hF hd hH=>wpIn_skip (KZ h hE hF hd hH)
theorem ACode.label {l:Nat}{Q:AQ}{T:List AV}{H:AH}(h:Q .normal T H):ACode P (.label l) Q T H:=λG0 G a ρ hE hF hd hH=>wpIn_label (KZ h hE hF hd hH)
theorem ACode.exit {id:Nat}{Q:AQ}{T:List AV}{H:AH}(h:Q (.exit id) T H):ACode P (.exit id) Q T H:=λG0 G a ρ hE hF hd hH=>wpIn_exit (KZ h hE hF hd hH)
theorem ACode.ret {Q:AQ}{T:List AV}{H:AH}(h:Q .ret T H):ACode P .ret Q T H:=λG0 G a ρ hE hF hd hH=>wpIn_ret (KZ h hE hF hd hH)
def AQ.then (next:List AV→AH→Prop)(Q:AQ):AQ
 | .normal,T,H=>next T H
 | e,T,H=>Q e T H
theorem ACode.seq {x y:Code}{Q:AQ}{T:List AV}{H:AH}(h:ACode P x (AQ.then (ACode P y Q) Q) T H):ACode P (.seq x y) Q T H:=by
 intro G0 G a ρ hE hF hd hH;refine wpIn_seq (Code.wpIn_mono ?_ (h G0 G a ρ hE hF hd hH));rintro e a' w' ⟨T',H',G',rfl,hE',hF',hd',hH',hq⟩;cases e with
 | normal=>exact hq G0 G' a' ρ hE' hF' hd' hH'
 | _=>exact⟨T',H',G',rfl,hE',hF',hd',hH',hq⟩
theorem ACode.cond {c:Operand}{x y:Code}{Q:AQ}{T:List AV}{H:AH}{b:Bool}(hc:Bu T c=.lit (.bool b))(h:ACode P (if b then x else y) Q T H):ACode P (.cond c x y) Q T H:=by
 intro G0 G a ρ hE hF hd hH
 have:=hF.eval c
 rw[hc]at this;simp only[VR]at this;exact wpIn_cond this (h G0 G a ρ hE hF hd hH)
def AQ.inBlock (id:Nat)(Q:AQ):AQ
 | .exit id',T,H=>if id'=id then Q .normal T H else Q (.exit id') T H
 | e,T,H=>Q e T H
theorem ACode.block {id:Nat}{c:Code}{Q:AQ}{T:List AV}{H:AH}(h:ACode P c (Q.inBlock id) T H):ACode P (.block id c) Q T H:=by
 intro G0 G a ρ hE hF hd hH;refine wpIn_block (Code.wpIn_mono ?_ (h G0 G a ρ hE hF hd hH));rintro e a' w' ⟨T',H',G',rfl,hE',hF',hd',hH',hq⟩;cases e with
 | exit id'=>
  simp only[AQ.inBlock]at hq;simp only[Exit.inBlock]
  split
  ·rename_i he;rw[if_pos he]at hq;exact⟨T',H',G',rfl,hE',hF',hd',hH',hq⟩
  ·rename_i he;rw[if_neg he]at hq;exact⟨T',H',G',rfl,hE',hF',hd',hH',hq⟩
 | _=>exact⟨T',H',G',rfl,hE',hF',hd',hH',hq⟩
theorem ACode.region {id:Nat}{ops:Array Oper}{Q:AQ}{T:List AV}{H:AH}(h:AOps P ops Q ops.toList T H):ACode P (.region id ops false) Q T H:=
 λG0 G a ρ hE hF hd hH=>wpIn_region_list (h G0 G a ρ hE hF hd hH)
theorem AOps.nil {ops:Array Oper}{Q:AQ}{T:List AV}{H:AH}(h:Q .normal T H):AOps P ops Q [] T H:=λG0 G a ρ hE hF hd hH=>KZ h hE hF hd hH
def RF (ops:Array Oper)(T:List AV)(j:Nat):Option (Option Bool):=
 match (ops[j]?).bind (·.dst)with
 | some d=>match T[d]? with
  | some (.lit (.bool b))=>some (some b)
  | some (.lit _)=>some none
  | _=>none
 | none=>none
theorem eS {G:Cfg}{ops:Array Oper}{T:List AV}{a:Act}(hF:FR G T a){j:Nat}{b:Option Bool}(h:RF ops T j=some b):yielded ops a.tmps j=b:=by
 unfold RF at h;unfold yielded;split at h
 ·rename_i d hd
  rw[hd];split at h
  ·rename_i b' hb
   injection h with h;subst h;obtain⟨v,hv,hx⟩:=VRs.get hF hb;simp only[VR]at hx;subst hx;simp only[Ae2]at hv;simp[hv]
  ·rename_i v' hne hb
   injection h with h;subst h;obtain⟨v,hv,hx⟩:=VRs.get hF hb;simp only[VR]at hx;subst hx;simp only[Ae2]at hv;cases v<;>first
    | (simp[hv];done)
    | exact absurd rfl (hne _)
  ·cases h
 ·cases h
def B6 (ops:Array Oper)(T:List AV)(o:Oper):Option Bool:=
 match o.guard with
 | none=>some true
 | some (j,want)=>(RF ops T j).map (·==some want)
theorem GY {G:Cfg}{ops:Array Oper}{T:List AV}{a:Act}(hF:FR G T a){o:Oper}{b:Bool}(h:B6 ops T o=some b):Region.wanted o (yielded ops a.tmps)=b:=by
 unfold B6 at h;unfold Region.wanted;split at h
 ·rename_i hg
  injection h with h;rw[hg];exact h
 ·rename_i j want hg
  rw[hg]
  show(yielded ops a.tmps j==some want)=b
  obtain⟨c,hc,rfl⟩:=Option.map_eq_some_iff.1 h;rw[eS hF hc]
theorem S8 {ρ:Operand→AV}{H H':AH}{o:Oper}{r:AV}(h:CD P ρ H o=some (r,H'))(c:Call):o.op≠.defer c:=by
 intro hc;simp[CD,hc]at h
theorem Uo (ρ:Option Nat){n:Nat}{f:FuncId}{args:Array Value}{w:World}{R:Ending→World→Prop}(h:Calls P f args w R):CallsIn (FW ρ) n P f args w R:=by
 cases ρ with
 | none=>exact callsIn_wide.2 h
 | some l=>exact CallsIn.inRound l (callsIn_wide.2 h)
theorem AOps.op {ops:Array Oper}{Q:AQ}{o:Oper}{rest:List Oper}{T:List AV}{H H':AH}{r:AV}(hw:B6 ops T o=some true)(h:CD P (Bu T) H o=some (r,H'))(hr:AOps P ops Q rest (Dj T o.dst r) H'):
  AOps P ops Q (o::rest) T H:=by
 intro G0 G a ρ hE hF hd hH;unfold wpListIn;rw[if_pos (GY hF hw)];refine⟨λ_ _=>trivial,?_⟩;obtain⟨G',u,hrun,hE',hx,hH'⟩:=jE hH (λx=>hF.eval x) h;have hF':=(FR.evo hE' hF).put o.dst hx;have q:=hr G0 G' (a.put o.dst u) ρ (hE.trans hE') hF' ((hd.evo hE' rfl).put _ _) hH';rw[Oper.semAt_eq _ _ _ (S8 h)];rcases hrun with hrun | ⟨hrun,rfl⟩<;>rw[hrun]<;>exact q
theorem AOps.unwanted {ops:Array Oper}{Q:AQ}{o:Oper}{rest:List Oper}{T:List AV}{H:AH}(hw:B6 ops T o=some false)(hr:AOps P ops Q rest (Dj T o.dst AG) H):AOps P ops Q (o::rest) T H:=by
 intro G0 G a ρ hE hF hd hH;unfold wpListIn;rw[if_neg (by rw[GY hF hw];simp)];exact⟨λ_ _=>trivial,hr G0 G _ ρ hE (hF.put o.dst (by simp only[AG,VR])) (hd.put _ _) hH⟩
def Ee (ρ:Operand→AV)(o:Oper):Option (FuncId×List AV):=
 match o.op with
 | .call {callee:=.value f,args,argTypes:=_}=>match ρ f with
  | .fn (.func k) first cap=>some (k,first++args.toList.map ρ++cap)
  | _=>none
 | _=>none
def B4 (P:Program)(k:FuncId):Bool:=
 match P.funcs[k]? with
 | some fn => fn.body.isSome && !(fn.name == "runtime.NumGoroutine")
 | none=>false
abbrev zQ:=And.intro @Bool.and_eq_true @Bool.not_eq_true'
theorem XX {G:Cfg}{ρ:Operand→AV}{ρc:Operand→Value}(hf:∀x,VR G (ρ x) (ρc x)){o:Oper}{k:FuncId}{args:List AV}(h:Ee ρ o=some (k,args))(hk:B4 P k=true)(w:World):
  ∃vs:List Value,VRs G args vs∧(execOp ρc o).run P w=.ok (.enter k vs.toArray) w:=by
 obtain⟨dst,op,type,pos,after,guard⟩:=o;unfold Ee at h;split at h
 ·rename_i f args' ats hop
  simp only at hop;subst hop;split at h
  ·rename_i k' first cap hfn
   injection h with h;injection h with h1 h2;subst h1;subst h2;have hv:=hf f;rw[hfn]at hv;simp only[VR]at hv;obtain⟨va,vb,hv,ha,hb⟩:=hv;have hm:=VRs.map_ops hf args'.toList;refine⟨va.toList++args'.toList.map ρc++vb.toList,(ha.append hm).append hb,?_⟩;unfold B4 at hk;split at hk
   ·rename_i fn hfn'
    simp only[zQ]at hk;obtain⟨b,hbody⟩:=Option.isSome_iff_exists.1 hk.1
    have he:(va.toList++args'.toList.map ρc++vb.toList).toArray=va++args'.map ρc++vb:=by
     apply Array.ext';simp
    rw [he];have hne : ¬ fn.name = "runtime.NumGoroutine" := by have := hk.2; simpa using this
    simp[execOp,resolve,hv,Deferred.ofValue,invoke,callFunc,hfn',hne,hbody]
   ·cases hk
  ·cases h
 ·cases h
theorem Kk {ρ:Operand→AV}{o:Oper}{k:FuncId}{args:List AV}(h:Ee ρ o=some (k,args))(c:Call):o.op≠.defer c:=by
 intro hc;simp[Ee,hc]at h
theorem AOps.call {ops:Array Oper}{Q:AQ}{o:Oper}{rest:List Oper}{T:List AV}{H:AH}{k:FuncId}{args:List AV}(hw:B6 ops T o=some true)(h:Ee (Bu T) o=some (k,args))(hk:B4 P k=true)
  (hc:ACalls P k args H λr H'=>AOps P ops Q rest (Dj T o.dst r) H'):AOps P ops Q (o::rest) T H:=by
 intro G0 G a ρ hE hF hd hH;unfold wpListIn;rw[if_pos (GY hF hw)];obtain⟨vs,hvs,hrun⟩:=XX (P:=P) (λx=>hF.eval x) h hk G.w;refine⟨λ_ _=>trivial,?_⟩;rw[Oper.semAt_eq _ _ _ (Kk h),hrun];refine⟨λhn=>(by simp[Fence.wide]at hn),CallsIn.mono (Uo ρ.1 (hc G vs hH hvs)) ?_⟩;rintro e w' ⟨r,H',G',v,rfl,rfl,hE',hx,hH',hq⟩;exact hq G0 G' _ ρ (hE.trans hE') ((FR.evo hE' hF).put o.dst hx) ((hd.evo hE' rfl).put _ _) hH'
def Ry (P:Program)(H:AH)(T:List AV):List ResultVar→Option (List AV)
 | []=>some []
 | .tmp t::r=>(Ry P H T r).map (T.getD t AG::·)
 | .cell a t::r=>match S7 P H t (T.getD a AG),Ry P H T r with
  | some x,some xs=>some (x::xs)
  | _,_=>none
def W0:List AV→AV
 | [x]=>x
 | l=>.tup l
theorem eI {G:Cfg}{H:AH}{t:TypeId}{a r:AV}{v:Value}(hv:VR G a v)(h:S7 P H t a=some r):∃ad,v=.pointer (some ad):=by
 unfold S7 at h;split at h
 ·split at h
  ·simp only[VR]at hv;exact⟨_,hv.2⟩
  ·simp only[VR]at hv;obtain⟨ad,vs,e,_⟩:=hv;exact⟨_,e⟩
  ·cases h
 ·cases h
def Zp (tmps:Array Value):ResultVar→Sem Value
 | .tmp t=>pure (tmps.getD t undef)
 | .cell ad t=>do loadVar t (← asAddr (tmps.getD ad undef))
theorem WY {G:Cfg}{H:AH}(hr:HR G H){T:List AV}{a:Act}(hF:FR G T a):∀(l:List ResultVar) (xs:List AV),Ry P H T l=some xs→
  ∃vs:List Value,VRs G xs vs∧(l.mapM (Zp a.tmps)).run P G.w=.ok vs G.w
 | [],xs,h=>by simp only[Ry]at h;injection h with h;subst h;exact⟨[],.nil,by simp⟩
 | .tmp t::r,xs,h=>by
  simp only[Ry]at h;obtain⟨ys,hy,rfl⟩:=Option.map_eq_some_iff.1 h;obtain⟨vs,hv,hrun⟩:=WY hr hF r ys hy;refine⟨a.tmps.getD t undef::vs,.cons (hF.eval (.tmp t)) hv,?_⟩;simp only[List.mapM_cons,Zp,Sem.run_bind,Sem.run_pure,Result.andThen_ok,hrun]
 | .cell ad t::r,xs,h=>by
  simp only[Ry]at h;split at h
  ·rename_i x ys hx hy
   injection h with h;subst h;obtain⟨vs,hv,hrun⟩:=WY hr hF r ys hy;have hp:VR G (T.getD ad AG) (a.tmps.getD ad undef):=hF.eval (.tmp ad);obtain⟨p,hpe⟩:=eI hp hx;obtain⟨u,hu,hxu⟩:=Yc (P:=P) hr hp hx;refine⟨u::vs,.cons hxu hv,?_⟩;rw[hpe]at hu;simp only[Instr.loadAt,Instr.sureAddr,Sem.run_bind,Sem.run_pure,Result.andThen_ok]at hu;simp only[List.mapM_cons,Zp,Sem.run_bind,Sem.run_pure,Result.andThen_ok,hpe,asAddr,hu,hrun]
  ·cases h
theorem Vn {G:Cfg}{H:AH}(hr:HR G H){T:List AV}{a:Act}(hF:FR G T a){fn:Func}{xs:List AV}(h:Ry P H T fn.results.toList=some xs):
  ∃v,(results fn a.tmps).run P G.w=.ok v G.w∧VR G (W0 xs) v:=by
 obtain⟨vs,hv,hrun⟩:=WY (P:=P) hr hF _ _ h;refine⟨if h:vs.toArray.size=1 then vs.toArray[0]else .tuple vs.toArray,?_,?_⟩
 ·unfold results
  have e2:∀(f:ResultVar→Sem Value),(∀x,f x=Zp a.tmps x)→(List.mapM f fn.results.toList).run P G.w=.ok vs G.w:=λf hf=>by
   rw[show f=Zp a.tmps from funext hf];exact hrun
  rw[Array.mapM_eq_mapM_toList];simp only[Sem.run_bind,Sem.run_map];rw[e2 _ (by intro x;cases x<;>rfl)];simp only[Result.andThen_ok,Sem.run_pure]
 ·unfold W0
  split
  ·rename_i x
   simp only[VRs]at hv;obtain⟨v,r,rfl,hx,rfl⟩:=hv
   simpa using hx
  ·rename_i hne
   have hl:=hv.length;rw[dif_neg]
   ·simp only[VR];exact⟨_,rfl,by simpa using hv⟩
   ·intro h1
    have h2:xs.length=1:=by rw[hl];simpa using h1
    match xs,h2 with
    | [x],_=>exact hne x rfl
abbrev Ai9:=@List.nodup_cons
theorem QB {fn:Func}{tmps:Array Value}{R:Ending→World→Prop}{G0:Cfg}{T:List AV}{H:AH}(K:∀G:Cfg,Evo G0 G→FR G T {tmps,defers:=[]}→HR G H→LeavesIn Fence.wide 0 P fn tmps R [] .returning G.w):
  ∀(Ds:List Nat) (G:Cfg),Evo G0 G→FR G T {tmps,defers:=[]}→HR G H→Ds.Nodup→(∀D∈Ds,G0.w.heap.size≤D∧¬G.L D∧G.w.heap[D]?=some (.deferred (some [])))→
   LeavesInM Fence.wide 0 P fn tmps R (Ds.map lD) .returning G.w
 | [],G,hE,hF,hH,_,_=>K G hE hF hH
 | D::Ds,G,hE,hF,hH,hn,hD=>by
  obtain⟨h1,h2,h3⟩:=hD D (.head _);obtain⟨hni,hn'⟩:=Ai9.1 hn;refine⟨by simp,.inl ⟨D,_,rfl,run_takeDeferred h3,?_⟩⟩;have hc:∀c e f,Obj.deferred (some [])≠.cells c e f:=by intro c e f h;cases h
  refine QB K Ds (G.put D (.deferred none)) ?_ (VRs.tr (Tr.put h3 hc _) hF) (hH.putO (fun o z ho (e:(G.μ o).1=D)=>h2 (by have:=hH.live o z ho;rwa[e]at this)) h3 hc _) hn' λD' hD'=>?_
  ·refine⟨hE.os,hE.tape,hE.output,?_,λk hk hL=>?_,hE.n,hE.μ,hE.K⟩
   ·simp only[Cfg.put,World.putObj];simpa using hE.size
   ·obtain⟨e1,l1⟩:=hE.keep k hk hL
    refine⟨?_,l1⟩;simp only[Cfg.put];rw[World.putObj_heap_other (by omega)];exact e1
  ·obtain⟨a1,a2,a3⟩:=hD D' (.tail _ hD')
   refine⟨a1,a2,?_⟩;simp only[Cfg.put];rw[World.putObj_heap_other (λe=>hni (by rw[← e];exact hD'))];exact a3
abbrev Ab1:=And.intro @Array.toList_append.{0} @Array.toList_replicate.{0}
abbrev Ao2:=@List.nodup_nil
theorem ACalls.of_body {f:FuncId}{fn:Func}{c:Code}{args:List AV}{H:AH}{R:AV→AH→Prop}(hf:P.funcs[f]?=some fn)(hb:fn.body=some c)
  (h:ACode P c (λe T H'=>(e=.normal∨e=.ret)∧∃xs,Ry P H' T fn.results.toList=some xs∧R (W0 xs) H') (args++List.replicate (fn.ntmps - args.length) AG) H):ACalls P f args H R:=by
 intro G vs hH hv;refine callsIn_wide.1 (callsIn_of_wp_marks (n:=0) hf hb trivial ?_ rfl);have hl:=hv.length
 have hF:FR G (args++List.replicate (fn.ntmps - args.length) AG) {tmps:=vs.toArray++Array.replicate (fn.ntmps - vs.toArray.size) undef,defers:=[]}:=by
  unfold FR;simp only[Ab1,List.size_toArray];rw[hl];exact hv.append (VRs.replicate (by simp only[AG,VR]) _)
 refine Code.wpIn_mono ?_ (h G G _ (none,G.w.heap.size) (Evo.refl G) hF ⟨⟨[],rfl,Ao2,λ_ h=>(by cases h)⟩,λ_ h=>(by cases h),Ac2 _⟩ hH);rintro e a w ⟨T',H',G',rfl,hE,hF',hd,hH',he,xs,hxs,hR⟩;obtain⟨⟨Ds,e1,e2,e3⟩,-,-⟩:=hd;simp only at e3
 have:LeavesInM Fence.wide 0 P fn a.tmps (λe w'=>∃(r:AV) (H':AH) (G':Cfg) (v:Value),e=.returned v∧G'.w=w'∧Evo G G'∧VR G' r v∧HR G' H'∧R r H') a.defers .returning G'.w:=by
  rw[e1];refine QB (G0:=G) (λG2 hE2 hF2 hH2=>?_) Ds G' hE hF' hH' e2 e3;obtain⟨v,hrun,hx⟩:=Vn (P:=P) hH2 hF2 hxs;exact⟨v,hrun,_,H',G2,v,rfl,rfl,hE2,hx,hH2,hR⟩
 rcases he with rfl | rfl<;>exact this
end
end
end Go.Proofs.YtbppnhenlboefaaGreat.Av
