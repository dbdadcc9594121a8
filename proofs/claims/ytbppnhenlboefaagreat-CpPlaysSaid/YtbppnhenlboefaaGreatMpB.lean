/- Texts of this proof, one behind the other, packed into one file by a program of this session. No condition. -/
import Derived.Test.YtbppnhenlboefaaGreatMpA
import Derived.LoopN
import Derived.LoopNIn
import Derived.OrdersIn
set_option linter.unusedVariables false
set_option linter.unusedSimpArgs false
namespace Go.Proofs.YtbppnhenlboefaaGreat.Av
open Go Go.RowKit
section
section
variable {P : Program}
abbrev Av8:=@List.map_congr_left
theorem Nz {ρ a:Operand->AV}(l:List Operand)(h:∀x∈l,ρ x=a x):l.map ρ=l.map a:=Av8 h
theorem Alw {ρ r:Operand->AV}{H:AH}{o:Oper}(h:∀x∈o.op.operands.toList,ρ x=r x):Ea P ρ H o=Ea P r H o:=by
 obtain⟨F,op,J,I,D,G⟩:=o;have w:∀j:Array (Nat×Operand),(∀x∈j.toList.map (·.2),ρ x=r x)->(j.toList.map λp=>(p.1,ρ p.2))=(j.toList.map λp=>(p.1,r p.2)):=λj B=>
  Av8 λp A=>by rw[B p.2 (Am5.2 ⟨p,A,rfl⟩)]
 cases op
 case move x=>simp only[Ea];rw[h x (by simp[Op.operands])]
 case assign x=>simp only[Ea];rw[h x (by simp[Op.operands])]
 case pick c a b=>simp only[Ea];rw[h c (by simp[Op.operands]),h a (by simp[Op.operands]),h b (by simp[Op.operands])]
 case box e x=>simp only[Ea];rw[h x (by simp[Op.operands])]
 case build t j=>simp only[Ea];rw[w j (λx g=>h x (by simpa[Op.operands]using g))]
 case buildSlice t n j=>simp only[Ea];rw[w j (λx g=>h x (by simpa[Op.operands]using g))]
 case load t a=>simp only[Ea];rw[h a (by simp[Op.operands])]
 case store t a x=>simp only[Ea];rw[h a (by simp[Op.operands]),h x (by simp[Op.operands])]
 case nilCheck x=>simp only[Ea];rw[h x (by simp[Op.operands])]
 case binOp op t x y u=>simp only[Ea];rw[h x (by simp[Op.operands]),h y (by simp[Op.operands])]
 case unOp op t x=>simp only[Ea];rw[h x (by simp[Op.operands])]
 case convert s d x=>simp only[Ea];rw[h x (by simp[Op.operands])]
 case makeFunc fn f c=>
  simp only[Ea];rw[Nz f.toList (λx g=>h x (by simp[Op.operands];exact .inl (Array.mem_toList_iff.1 g))),Nz c.toList (λx g=>h x (by simp[Op.operands];exact .inr (Array.mem_toList_iff.1 g)))]
 case makeSlice t l c=>simp only[Ea];rw[h l (by simp[Op.operands]),h c (by simp[Op.operands])]
 case slice t x lo hi mx=>
  simp only[Ea];have e:∀q:Option Operand,(∀y,q=some y->ρ y=r y)->q.map ρ=q.map r:=by
   intro q C;cases q with
   | none=>rfl
   | some y=>simp[C y rfl]
  rw[h x (by simp[Op.operands]),e lo (λy v=>h y (by simp[Op.operands,v])),e hi (λy v=>h y (by simp[Op.operands,v])),e mx (λy v=>h y (by simp[Op.operands,v]))]
 case fieldAddr s x f=>simp only[Ea];rw[h x (by simp[Op.operands])]
 case field s x f=>simp only[Ea];rw[h x (by simp[Op.operands])]
 case indexAddr t x i=>simp only[Ea];rw[h x (by simp[Op.operands]),h i (by simp[Op.operands])]
 case index t x i=>simp only[Ea];rw[h x (by simp[Op.operands]),h i (by simp[Op.operands])]
 case extract t i=>simp only[Ea];rw[h t (by simp[Op.operands])]
 case makeMap t l=>
  simp only[Ea];have e:l.map ρ=l.map r:=by
   cases l with
   | none=>rfl
   | some y=>simp[h y (by simp[Op.operands])]
  rw[e]
 case lookup t x k co=>simp only[Ea];rw[h x (by simp[Op.operands]),h k (by simp[Op.operands])]
 case mapUpdate t m k x=>simp only[Ea];rw[h m (by simp[Op.operands]),h k (by simp[Op.operands]),h x (by simp[Op.operands])]
 case mapEntry t m k=>simp only[Ea];rw[h m (by simp[Op.operands]),h k (by simp[Op.operands])]
 case entryStore t m s x=>simp only[Ea];rw[h m (by simp[Op.operands]),h s (by simp[Op.operands]),h x (by simp[Op.operands])]
 case call c=>
  obtain⟨z,args,E⟩:=c;cases z
  case builtin b=>
   simp only[Ea];rw[Nz args.toList (λx g=>h x (by simp[Op.operands,Call.operands];exact Array.mem_toList_iff.1 g))]
  all_goals rfl
 all_goals rfl
def Me:Op->Bool
 | .move _ | .assign _ | .pick .. | .build .. | .load .. | .nilCheck _ | .binOp .. | .unOp .. | .makeFunc .. | .slice .. | .fieldAddr .. | .field .. | .indexAddr .. | .index .. | .extract .. | .lookup ..=>true
 | .call {callee:=.builtin b,..}=>match b with
  | .len | .min | .max | .cap=>true
  | _=>false
 | .convert s d _=>!Nat.beq s d
 | _=>false
theorem cH {ρ:Operand->AV}{H H':AH}{o:Oper}{r:AV}(hs:Me o.op=true)(h:Ea P ρ H o=some (r,H')):H'=H:=by
 obtain⟨j,op,m,l,i,k⟩:=o;cases op<;>first
  | (simp[Me]at hs;done)
  | exact(N0 h).2
  | exact(DO h).2
  | skip
 case pick c a b=>
  unfold Ea at h;simp only at h;split at h
  ·exact(N0 h).2
  ·cases h
 case convert s d x=>
  unfold Ea at h;simp only at h;split at h
  ·exact(N0 h).2
  ·split at h
   ·exact(N0 h).2
   ·simp only[Me,Bool.not_eq_true']at hs;unfold yO at h;rw[hs]at h;cases h
 case call c=>
  obtain⟨g,args,f⟩:=c;cases g
  case builtin b=>
   have e:Ce P H b f.toList (args.toList.map ρ)=some (r,H'):=h;unfold Ce at e;split at e<;>first
    | exact(DO e).2
    | (simp[Me]at hs;done)
    | cases e
  all_goals simp[Me]at hs
def wK (o:Oper)(a:List Nat):Nat:=o.after.toList.foldl (λs e=>if Region.binds .any e then s||| 2 ^ e.on||| a.getD e.on 0 else s) 0
def Gy:List Oper->List Nat->List Nat
 | [],acc=>acc
 | o::r,acc=>Gy r (acc++[wK o acc])
theorem tX (l:List Oper):∀a i,i<a.length->(Gy l a).getD i 0=a.getD i 0:=by
 induction l with
 | nil=>intro a i _;rfl
 | cons o l ih=>
  intro a i b;simp only[Gy];rw[ih _ _ (by simp;omega)];simp[Al0,Aj6 b]
abbrev Ar4:=@Nat.zero_add
theorem Alx (l:List Oper):∀a j o,l[j]?=some o->∃b,(∀i,i<a.length+j->b.getD i 0=(Gy l a).getD i 0)/\(Gy l a).getD (a.length+j) 0=wK o b:=by
 induction l with
 | nil=>intro a j o h;simp at h
 | cons p l ih=>
  intro a j o h;cases j with
  | zero=>
   simp at h;subst h;refine⟨a,λi e=>?_,?_⟩
   ·exact(tX (p::l) a i (by omega)).symm
   ·simp only[Gy];rw[tX _ _ _ (by simp)];simp[Al0]
  | succ j=>
   simp only[Ca]at h;obtain⟨b,c,d⟩:=ih (a++[wK p a]) j o h;simp only[Ai6,Ar4]at c d;refine⟨b,λi e=>c i (by omega),?_⟩;simp only[Gy];rw[<- d];congr 1;omega
abbrev Af9:=And.intro @Bool.or_eq_true @decide_eq_true_eq
theorem xL (b:List Nat)(j:Nat):∀(l:List Edge) (s:Nat),(l.foldl (λs e=>if Region.binds .any e then s||| 2 ^ e.on||| b.getD e.on 0 else s) s).testBit j=true->
  s.testBit j=true\/∃e∈l,Region.binds .any e=true/\(e.on=j\/(b.getD e.on 0).testBit j=true):=by
 intro l
 induction l with
 | nil=>intro s h;exact .inl h
 | cons e l ih=>
  intro s h;simp only[List.foldl_cons]at h;rcases ih _ h with h | ⟨c,d,a,f⟩
  ·split at h
   ·rename_i a;simp only[Nat.testBit_or,Af9,Nat.testBit_two_pow]at h;rcases h with(h | h) | h
    ·exact .inl h
    ·exact .inr ⟨e,by simp,a,.inl h⟩
    ·exact .inr ⟨e,by simp,a,.inr h⟩
   ·exact .inl h
  ·exact .inr ⟨c,by simp[d],a,f⟩
def uU (ops:List Oper)(a:Nat->Bool):Prop:=∀(i:Nat) (o:Oper),ops[i]?=some o->a i=true->∀e∈o.after,Region.binds .any e=true->a e.on=true
def Uo (ops:List Oper):Bool:=ops.zipIdx.all λp=>p.1.after.toList.all λe=>!Region.binds .any e||decide (e.on<p.2)
theorem dO {ops:List Oper}(h:Uo ops=true){i:Nat}{o:Oper}(d:ops[i]?=some o){e:Edge}(b:e∈o.after)(a:Region.binds .any e=true):e.on<i:=by
 unfold Uo at h;rw[Am2]at h;have c:(o,i)∈ops.zipIdx:=by rw[Ak0];exact⟨i,by rw[List.getElem?_zipIdx,d];simp⟩
 have:=h _ c;rw[Am2]at this;have:=this e (Array.mem_toList_iff.2 b);simpa[a]using this
theorem U4 {ops:List Oper}(w:Uo ops=true){f:Nat->Bool}(v:uU ops f):∀(i:Nat) (o:Oper),ops[i]?=some o->(∀e∈o.after,Region.binds .any e=true->f e.on=true)->
  ∀j,((Gy ops []).getD i 0).testBit j=true->f j=true:=by
 intro i
 induction i using Nat.strongRecOn with
 | _ i ih=>
  intro o d t j c;obtain⟨q,h,k⟩:=Alx ops [] i o d;simp only[Ap0,Ar4]at h k;rw[k]at c;unfold wK at c;rcases xL q j _ 0 c with s | ⟨e,x,l,b⟩
  ·simp at s
  ·have a:=Array.mem_toList_iff.1 x;have m:=t e a l;have n:=dO w d a l;rcases b with rfl | b
   ·exact m
   ·rw[h _ n]at b;have y:∃g,ops[e.on]?=some g:=by have:i<ops.length:=(BG.1 d).1;exact⟨_,Dq (by omega)⟩
    obtain⟨g,p⟩:=y;exact ih _ n g p (λr a u=>v _ _ p m r a u) j b
def Wr (ops:List Oper)(o:Oper):List Tmp:=
 o.dst.toList++(o.op.operands.toList.filterMap fun | .tmp t=>some t | _=>none)++(match o.guard with
  | some (g,_)=>((ops[g]?).bind (·.dst)).toList
  | none=>[])
theorem nH {ops:List Oper}{i:Nat}{o:Oper}(a:ops[i]?=some o):(o,i)∈ops.zipIdx:=by
 rw[Ak0];exact⟨i,by rw[List.getElem?_zipIdx,a];simp⟩
def Pe (ops:List Oper)(j:Nat):Option Tmp:=(ops[j]?).bind (·.dst)
def pt (ops:List Oper)(vals:Nat->AV)(a:Nat->Bool)(T:List AV):Nat->List AV
 | 0=>T
 | n+1=>if a n then EL (pt ops vals a T n) (Pe ops n) (vals n)else pt ops vals a T n
theorem yK (T:List AV)(d:Option Tmp)(v:AV):(EL T d v).length=T.length:=by cases d<;>simp[EL]
theorem jU {ops:List Oper}{vals:Nat->AV}{a:Nat->Bool}{T:List AV}:∀n,(pt ops vals a T n).length=T.length
 | 0=>rfl
 | n+1=>by simp only[pt];split<;>simp[yK,jU n]
theorem kG {T:List AV}{d:Option Tmp}{v:AV}{t:Nat}(h:d≠some t):(EL T d v)[t]?=T[t]?:=by
 cases d with
 | none=>rfl
 | some d=>simp only[EL];rw[Cc (λe=>h (by rw[e]))]
theorem Afp {ops:List Oper}{vals:Nat->AV}{c d:Nat->Bool}{T:List AV}{t:Nat}:∀n,(∀j,j<n->Pe ops j=some t->c j=d j)->(pt ops vals c T n)[t]?=(pt ops vals d T n)[t]?
 | 0,_=>rfl
 | n+1,h=>by
  have b:=Afp (vals:=vals) (T:=T) n (λj g a=>h j (by omega) a);by_cases a:Pe ops n=some t
  ·have f:=h n (by omega) a;simp only[pt,f];split
   ·rw[a];simp only[EL,Ao7];simp[jU]
   ·exact b
  ·have e:∀l:Nat->Bool,(pt ops vals l T (n+1))[t]?=(pt ops vals l T n)[t]?:=λl=>by
    simp only[pt];split
    ·exact kG a
    ·rfl
   rw[e,e];exact b
theorem Afq {ops:List Oper}{vals:Nat->AV}{a b:Nat->Bool}{T:List AV}:∀n,(∀j,j<n->a j=b j)->pt ops vals a T n=pt ops vals b T n
 | 0,_=>rfl
 | n+1,h=>by simp only[pt];rw[Afq n (λj c=>h j (by omega))];simp only[h n (by omega)]
theorem Aly {T:List AV}{d e:Option Tmp}{v u:AV}(h:∀x,d=some x->e≠some x):EL (EL T d v) e u=EL (EL T e u) d v:=by
 cases d with
 | none=>rfl
 | some d=>cases e with
  | none=>rfl
  | some e=>simp only[EL];exact List.set_comm _ _ (λa=>h d rfl (by rw[a]))
theorem Alz {ops:List Oper}{vals:Nat->AV}{T:List AV}{i:Nat}:∀n,i<=n->pt ops vals (λj=>decide (j<i)) T n=pt ops vals (λ_=>true) T i:=by
  have low:∀m,m<=i->pt ops vals (λj=>decide (j<i)) T m=pt ops vals (λ_=>true) T m:=by
    intro m
    induction m with
    | zero=>intro _;rfl
    | succ m ih=>intro a;simp only[pt];rw[ih (by omega)];simp[show m<i by omega]
  intro n b
  induction n with
  | zero => have : i = 0 := by omega
            subst this;rfl
  | succ n ih=>
    rcases Aj5 n i with h | h
    · have:i=n+1:=by omega
      subst this;exact low _ (Aj7 _)
    · simp only[pt];rw[if_neg (by simp;omega)];exact ih h
def Nw (a:Nat->Bool)(i:Nat):Nat->Bool:=λj=>if j=i then true else a j
theorem Afr {ops:List Oper}{vals:Nat->AV}{b:Nat->Bool}{T:List AV}{i:Nat}(hl:b i=false):∀n,(∀j,i<j->j<n->b j=true->∀x,Pe ops i=some x->Pe ops j≠some x)->
  pt ops vals (Nw b i) T n=if i<n then EL (pt ops vals b T n) (Pe ops i) (vals i)else pt ops vals b T n
 | 0,_=>by simp[pt]
 | n+1,h=>by
  have a:=Afr (vals:=vals) (T:=T) hl n (λj d g=>h j d (by omega));rcases Nat.lt_trichotomy n i with k | e | c
  ·rw[if_neg (by omega)]at a;rw[if_neg (by omega)];simp only[pt,a,Nw];rw[if_neg (show ¬n=i by omega)]
  ·subst e;rw[if_neg (by omega)]at a;rw[if_pos (by omega)];simp only[pt,a,Nw,if_true,hl,An]
  ·rw[if_pos c]at a;rw[if_pos (by omega)];simp only[pt,a,Nw];rw[if_neg (show ¬n=i by omega)];split
   ·rename_i f;exact Aly (h n c (by omega) f)
   ·rfl
theorem rL {ops:List Oper}{T a:List AV}{o:Oper}(h:∀t∈Wr ops o,T[t]?=a[t]?):C0 ops.toArray T o=C0 ops.toArray a o:=by
 unfold C0;cases c:o.guard with
 | none=>rfl
 | some gw=>
  obtain⟨g,f⟩:=gw;simp only;congr 1;unfold iK;cases b:(ops.toArray[g]?).bind (·.dst)with
  | none=>rfl
  | some d=>
   have e:d∈Wr ops o:=by
    unfold Wr;rw[c];simp only[Am3];right;have:(ops[g]?).bind (·.dst)=some d:=by simpa using b
    simp[this]
   simp only[h d e]
theorem Xf {ops:List Oper}{T a:List AV}{o:Oper}(h:∀t∈Wr ops o,T[t]?=a[t]?):∀x∈o.op.operands.toList,Cf T x=Cf a x:=by
 intro x b;cases x with
 | tmp t=>
  simp only[Cf,Al0];rw[h t];unfold Wr;simp only[Am3];exact .inl (.inr (List.mem_filterMap.2 ⟨.tmp t,b,rfl⟩))
 | _=>rfl
theorem OK {L:Array Bool}{j:Nat}(h:j<L.size):L.getD j true=L.getD j false:=by simp[Aq6,h]
end
end
section
def T8 (f:AV->Option AV):List AV->Option (List AV)
 | []=>some []
 | a::r=>match f a,T8 f r with
  | some x,some xs=>some (x::xs)
  | _,_=>none
def Se (X:AH):Nat->AV->Option AV
 | 0,_=>none
 | n+1,a=>match a with
  | .lit v=>some (.lit v)
  | .ptr o off=>match X[o]? with
   | some (some (.cells cs))=>(T8 (Se X n) (cs.drop off)).map .ip
   | _=>none
  | .ip cs=>(T8 (Se X n) cs).map .ip
  | .sl o off len esz _=>match X[o]? with
   | some (some (.cells cs))=>(T8 (Se X n) ((cs.drop off).take (len*esz))).map (.imm · len esz)
   | _=>none
  | .imm cs len esz=>(T8 (Se X n) cs).map (.imm · len esz)
  | .mp _=>none
  | .agg cs=>(T8 (Se X n) cs).map .agg
  | .tup cs=>(T8 (Se X n) cs).map .tup
  | .fn f a b=>match T8 (Se X n) a,T8 (Se X n) b with
   | some a,some b=>some (.fn f a b)
   | _,_=>none
  | .emp=>some .emp
  | .junk=>some .junk
theorem Ny {G' G'':Cfg}{f:AV->Option AV}(d:∀a v r,VR G' a v->f a=some r->VR G'' r v):∀{as c:List AV} {vs:List Value},VRs G' as vs->T8 f as=some c->VRs G'' c vs
 | [],c,vs,h,b=>by simp only[T8]at b;injection b with b;subst b;simpa only[VRs]using h
 | a::as,c,vs,h,b=>by
  simp only[T8]at b;split at b
  ·rename_i x l j k;injection b with b;subst b;simp only[VRs]at h|-;obtain⟨v,r,e,g,i⟩:=h;exact⟨v,r,e,d _ _ _ g j,Ny d i k⟩
  ·cases b
theorem Has.move {G' G'':Cfg}(f:G''.w=G'.w)(e:∀b,¬(G'.L b\/G'.K b)->¬(G''.L b\/G''.K b)){a:Addr}{vs:List Value}(h:Has G' a vs):Has G'' a vs:=by
 rcases h with h | ⟨c,d⟩
 ·exact .inl h
 ·refine .inr ⟨e _ c,?_⟩;rw[f];exact d
theorem Has.of_obj {G' G'':Cfg}(l:G''.w=G'.w){X:AH}(hr:HR G' X){o:Nat}{cs:List AV}(k:X[o]?=some (some (.cells cs)))(j:¬(G''.L (G'.μ o).1\/G''.K (G'.μ o).1))(off:Nat):
  ∃vs,VRs G' (cs.drop off) vs/\Has G'' ⟨(G'.μ o).1,(G'.μ o).2.1+off,none⟩ vs:=by
 obtain⟨c,e,vs,f,m,n,g,h⟩:=hr.obj o _ k;refine⟨vs.drop off,g.drop off,.inr ⟨j,λi v d=>?_⟩⟩;rw[Ak3]at d;obtain⟨a,b⟩:=h _ _ d;refine⟨?_,b⟩;rw[Addr.add_lit,l];unfold World.cell?;rw[f];simpa[Ao6]using a
theorem pG {G' G'':Cfg}(q:G''.w=G'.w)(z:∀b,¬(G'.L b\/G'.K b)->¬(G''.L b\/G''.K b)){X:AH}(hr:HR G' X)(t:∀(o:Nat) (x:AObj),X[o]?=some (some x)->¬(G''.L (G'.μ o).1\/G''.K (G'.μ o).1)):
  ∀(n:Nat) (a:AV) (v:Value) (r:AV),VR G' a v->Se X n a=some r->VR G'' r v
 | 0,a,v,r,h,d=>by cases d
 | n+1,a,v,r,h,d=>by
  have l:=pG q z hr t n;cases a with
  | lit u=>simp only[Se]at d;injection d with d;subst d;simpa only[VR]using h
  | ptr o off=>
   simp only[Se]at d;split at d
   ·rename_i cs p;obtain⟨rs,g,rfl⟩:=Option.map_eq_some_iff.1 d;simp only[VR]at h|-;obtain⟨j,k,i⟩:=Has.of_obj q hr p (t _ _ p) off;exact⟨_,j,h.2,i,Ny l k g⟩
   ·cases d
  | ip cs=>
   simp only[Se]at d;obtain⟨rs,g,rfl⟩:=Option.map_eq_some_iff.1 d;simp only[VR]at h|-;obtain⟨s,j,e,k,i⟩:=h;exact⟨s,j,e,k.move q z,Ny l i g⟩
  | sl o off len esz cap=>
   simp only[Se]at d;split at d
   ·rename_i cs p;obtain⟨rs,g,rfl⟩:=Option.map_eq_some_iff.1 d;simp only[VR]at h|-;obtain⟨J,a,c,rfl,A,hs⟩:=h;obtain⟨j,k,i⟩:=Has.of_obj q hr p (t _ _ p) off;by_cases B:len*esz=0
    ·rw[B]at g;simp only[Ap7,T8]at g;injection g with g;subst g;exact⟨a,c,[],rfl,A,.inl rfl,.nil⟩
    ·have C:a=⟨(G'.μ o).1,(G'.μ o).2.1+off,none⟩:=by
      have I:len≠0:=λm=>B (by rw[m,Au3]);unfold SlAt at hs;split at hs
      ·obtain⟨rfl,m | m⟩:=hs
       ·omega
       ·exact m.1
      ·rcases hs with⟨_,m | m⟩
       ·omega
       ·exact m.1
     refine⟨a,c,j.take (len*esz),rfl,A,?_,Ny l (k.take _) g⟩;rw[C];exact i.take _
   ·cases d
  | imm cs len esz=>
   simp only[Se]at d;obtain⟨rs,g,rfl⟩:=Option.map_eq_some_iff.1 d;simp only[VR]at h|-;obtain⟨s,c,j,e,D,k,i⟩:=h;exact⟨s,c,j,e,D,k.move q z,Ny l i g⟩
  | mp o=>cases d
  | agg cs=>
   simp only[Se]at d;obtain⟨rs,g,rfl⟩:=Option.map_eq_some_iff.1 d;simp only[VR]at h|-;obtain⟨j,e,i⟩:=h;exact⟨j,e,Ny l i g⟩
  | tup cs=>
   simp only[Se]at d;obtain⟨rs,g,rfl⟩:=Option.map_eq_some_iff.1 d;simp only[VR]at h|-;obtain⟨j,e,i⟩:=h;exact⟨j,e,Ny l i g⟩
  | fn f a b=>
   simp only[Se]at d;split at d
   ·rename_i x y E F;injection d with d;subst d;simp only[VR]at h|-;obtain⟨G,H,e,k,i⟩:=h;exact⟨G,H,e,Ny l k E,Ny l i F⟩
   ·cases d
  | emp=>simp only[Se]at d;injection d with d;subst d;simpa only[VR]using h
  | junk=>simp only[Se]at d;injection d with d;subst d;simp only[VR]
mutual
def noIds:AV->Bool
 | .lit _=>true
 | .ptr ..=>false
 | .ip cs=>AF cs
 | .sl ..=>false
 | .imm cs _ _=>AF cs
 | .mp _=>false
 | .agg cs=>AF cs
 | .tup cs=>AF cs
 | .fn _ a b=>AF a&&AF b
 | .emp=>true
 | .junk=>true
def AF:List AV->Bool
 | []=>true
 | a::r=>noIds a&&AF r
end
mutual
theorem Ama:∀{a:AV},noIds a=true->HV 0 a
 | .lit _,_=>by simp only[HV]
 | .ptr ..,h=>by simp[noIds]at h
 | .ip cs,h=>by simp only[noIds]at h;simp only[HV];exact Ib h
 | .sl ..,h=>by simp[noIds]at h
 | .imm cs _ _,h=>by simp only[noIds]at h;simp only[HV];exact Ib h
 | .mp _,h=>by simp[noIds]at h
 | .agg cs,h=>by simp only[noIds]at h;simp only[HV];exact Ib h
 | .tup cs,h=>by simp only[noIds]at h;simp only[HV];exact Ib h
 | .fn _ a b,h=>by simp only[noIds,Am0]at h;simp only[HV];exact⟨Ib h.1,Ib h.2⟩
 | .emp,_=>by simp only[HV]
 | .junk,_=>by simp only[HV]
theorem Ib:∀{as:List AV},AF as=true->DZ 0 as
 | [],_=>by simp only[DZ]
 | a::r,h=>by simp only[AF,Am0]at h;simp only[DZ];exact⟨Ama h.1,Ib h.2⟩
end
section
variable {P : Program}
theorem sO {G:Cfg}{G':Cfg}(g:G'.w=G.w)(d:∀b,¬G'.L b)(c:∀b,G'.K b->G.L b\/G.K b){a:Addr}{vs:List Value}(h:Has G a vs):Has G' a vs:=
 Has.move g (λb f e=>f (e.elim (λh=>(d b h).elim) (c b))) h
def Cfg.alien (G:Cfg):Cfg:={w:=G.w,n:=0,μ:=G.μ,L:=λ_=>False,K:=λb=>G.L b\/G.K b}
mutual
theorem VR.alien {G:Cfg}:∀{a:AV} {v:Value},VR G a v->HV 0 a->VR G.alien a v
 | .lit _,_,hv,_=>by simpa only[VR]using hv
 | .ptr o off,v,hv,hb=>by simp only[HV]at hb;omega
 | .ip cs,v,hv,hb=>by simp only[VR]at hv|-;simp only[HV]at hb;obtain⟨x,y,z,t,h⟩:=hv;exact⟨x,y,z,sO (G:=G) (G':=G.alien) rfl (λ_ h=>h) (λ_ h=>h) t,VRs.alien h hb⟩
 | .sl o off len esz cap,v,hv,hb=>by simp only[HV]at hb;omega
 | .imm cs len esz,v,hv,hb=>by simp only[VR]at hv|-;simp only[HV]at hb;obtain⟨x,y,z,t,u,s,h⟩:=hv;exact⟨x,y,z,t,u,sO (G:=G) (G':=G.alien) rfl (λ_ h=>h) (λ_ h=>h) s,VRs.alien h hb⟩
 | .mp o,v,hv,hb=>by simp only[HV]at hb;omega
 | .agg cs,v,hv,hb=>by simp only[VR]at hv|-;simp only[HV]at hb;obtain⟨x,y,h⟩:=hv;exact⟨x,y,VRs.alien h hb⟩
 | .tup cs,v,hv,hb=>by simp only[VR]at hv|-;simp only[HV]at hb;obtain⟨x,y,h⟩:=hv;exact⟨x,y,VRs.alien h hb⟩
 | .fn f a b,v,hv,hb=>by simp only[VR]at hv|-;simp only[HV]at hb;obtain⟨x,y,z,h,k⟩:=hv;exact⟨x,y,z,VRs.alien h hb.1,VRs.alien k hb.2⟩
 | .emp,_,hv,_=>by simpa only[VR]using hv
 | .junk,_,_,_=>by simp only[VR]
theorem VRs.alien {G:Cfg}:∀{as:List AV} {vs:List Value},VRs G as vs->DZ 0 as->VRs G.alien as vs
 | [],_,hv,_=>by simpa only[VRs]using hv
 | a::as,vs,hv,hb=>by simp only[VRs]at hv|-;simp only[DZ]at hb;obtain⟨x,y,z,h,k⟩:=hv;exact⟨x,y,z,VR.alien h hb.1,VRs.alien k hb.2⟩
end
theorem ACalls.pure {f:FuncId}{args:List AV}{R:AV->AH->Prop}{R':AV->Prop}(h:ACalls P f args [] R)(l:DZ 0 args)(A:∀r X,R r X->∃n d,Se X n r=some d/\R' d)(H:AH):
  ACalls P f args H λd H'=>R' d/\H'=H:=by
 intro G J a F
 have t:HR G.alien []:=⟨rfl,λo x h=>by simp at h,λo M x O h=>by simp at h,λo x h=>by simp at h,λb h=>by
  rcases h with h | h
  ·exact h.elim
  ·exact a.lt b h,λb h=>h.elim⟩
 refine(h G.alien J t (F.alien l)).mono ?_;rintro e N ⟨r,X,g,v,rfl,rfl,c,I,s,D⟩;obtain⟨n,d,B,E⟩:=A r X D;have keep:∀k,k<G.w.heap.size->g.w.heap[k]?=G.w.heap[k]?/\¬g.L k:=λk p=>c.keep k p (λh=>h);let j:Cfg:={w:=g.w,n:=G.n,μ:=G.μ,L:=G.L,K:=G.K};have q:Evo G j:=⟨c.os,c.tape,c.output,c.size,λk p z=>⟨(keep k p).1,z⟩,Aj7 _,λ_ _=>rfl,rfl⟩;refine⟨d,H,j,v,rfl,rfl,q,?_,?_,E,rfl⟩
 ·refine pG (G':=g) (G'':=j) rfl ?_ s ?_ n r v d I B
  ·intro b C m;refine C (.inr ?_);rw[c.K];exact m
  ·intro o x i m;have u:=s.live o x i;have y:(g.μ o).1<G.w.heap.size:=a.lt _ m;exact(keep _ y).2 u
 ·exact⟨a.n,λo x i=>OR.evo q (a.lt_n i) (keep _ (a.lt _ (.inl (a.live _ _ i)))).1 (a.obj o x i),a.inj,a.live,λb l=>Am7 (a.lt b l) c.size,a.dis⟩
theorem Amb {G:Cfg}{ρ:Operand->AV}{b:Operand->Value}(g:∀x,VR G (ρ x) (b x)){o:Oper}{k:FuncId}{args:List AV}(h:Gv ρ o=some (k,args))(w:World):
  ∃vs:List Value,VRs G args vs/\(execOp b o).run P w=(callFunc k vs.toArray).run P w:=by
 obtain⟨v,op,B,A,s,y⟩:=o;unfold Gv at h;split at h
 ·rename_i f c t i;simp only at i;subst i;split at h
  ·rename_i z first u q
   injection h with h;injection h with j l;subst j;subst l;have a:=g f;rw[q]at a;simp only[VR]at a;obtain⟨d,e,a,m,n⟩:=a;have r:=VRs.map_ops g c.toList;refine⟨d.toList++c.toList.map b++e.toList,(m.append r).append n,?_⟩;have p:(d.toList++c.toList.map b++e.toList).toArray=d++c.map b++e:=by apply Array.ext';simp
   rw[p];simp[execOp,resolve,a,Deferred.ofValue,invoke]
  ·cases h
 ·cases h
theorem AOps.extern {ops:Array Oper}{Q:AQ}{o:Oper}{d:List Oper}{T:List AV}{H:AH}{k:FuncId}{args:List AV}{r:AV}(m:C0 ops T o=some true)(h:Gv (Cf T) o=some (k,args))
  (g:∀(G:Cfg) (vs:List Value),HR G H->VRs G args vs->∃u,(callFunc k vs.toArray).run P G.w=.ok (.value u) G.w/\VR G r u) (hr:AOps P ops Q d (EL T o.dst r) H):AOps P ops Q (o::d) T H:=by
 intro G0 G a ρ e b f c;unfold wpListIn;rw[if_pos (Nf b m)];obtain⟨vs,l,i⟩:=Amb (P:=P) (λx=>b.eval x) h G.w;obtain⟨u,j,n⟩:=g G vs c l;refine⟨λ_ _=>trivial,?_⟩;rw[Oper.semAt_eq _ _ _ (Tw h),i,j];exact hr G0 G _ ρ e (b.put o.dst n) (f.put _ _) c
end
end
section
section
variable {P : Program}
theorem yA {ρ a:Operand->AV}{o:Oper}(h:∀x∈o.op.operands.toList,ρ x=a x):Gv ρ o=Gv a o:=by
 obtain⟨i,op,l,k,e,j⟩:=o;cases op
 case call c=>
  obtain⟨b,args,g⟩:=c;cases b
  case value f=>
   simp only[Gv];rw[h f (by simp[Op.operands,Call.operands]),Nz args.toList (λx d=>h x (by simp[Op.operands,Call.operands];exact .inr (Array.mem_toList_iff.1 d)))]
  all_goals rfl
 all_goals rfl
def I6 (P:Program)(ρ:Operand->AV)(o:Oper):Option AV:=
 match o.op with
 | .buildSlice t len parts=>match Gu P [] t len (parts.toList.map λp=>(p.1,ρ p.2))with
  | some (.sl _ _ l esz _,[some (.cells cs)])=>some (.imm cs l esz)
  | _=>none
 | _=>none
theorem lW {ρ:Operand->AV}{o:Oper}{r:AV}(h:I6 P ρ o=some r)(c:Call):o.op≠.defer c:=by
 intro a;simp[I6,a]at h
abbrev Ao1:=@Prod.mk.injEq
abbrev Ao4:=@List.nil_append
theorem Amc {G:Cfg}{ρ:Operand->AV}{C:Operand->Value}{H:AH}(hr:HR G H)(S:∀x,VR G (ρ x) (C x)){o:Oper}{r:AV}(h:I6 P ρ o=some r):
  ∃(G':Cfg) (u:Value),(execOp C o).run P G.w=.ok (.value u) G'.w/\Evo G G'/\VR G' r u/\HR G' H:=by
 obtain⟨ab,op,ag,af,aa,ae⟩:=o;unfold I6 at h;split at h
 ·rename_i t len B J;simp only at J;subst J;obtain⟨M,D⟩:=VRs.map_parts S B.toList;split at h
  ·rename_i l ad cs a;injection h with h;subst h;unfold Gu at a;split at a
   ·rename_i e g;split at a
    ·rename_i i s;split at a
     ·rename_i z Y;split at a
      ·rename_i R;obtain⟨h0,E,N,O⟩:=R;obtain⟨L,F,I⟩:=Option.map_eq_some_iff.1 a;simp only[Ao1,AV.sl.injEq,Ao4,List.cons.injEq,Aq5,AObj.cells.injEq,and_true]at I;obtain⟨⟨-,-,rfl,rfl,-⟩,rfl⟩:=I;have K:z.cells.size≠0:=by rw[E];exact N
       have f:=Vu (G:=G) (z:=z.cells) len K;rw[E]at f;obtain⟨j,d,Q⟩:=Xg (B.toList.map λp=>(p.1,ρ p.2)) (B.map fun (i,x)=>(i,C x)).toList _ (madeCells z.cells (len*i.size)) L (by rw[Aq4];exact M) (by rw[Aq4];exact D) f F;have W:=pC _ _ j (OF (by rw[Aq4];exact D) F) (Yb _ (λu g=>Am2.1 O u g) K) d;let c:Cfg:={G with w:=G.w.alloc (.cells j e)};have m:Evo G c:=⟨rfl,rfl,rfl,by simp[c],λk T q=>⟨Below.heap_alloc _ _ _ T,q⟩,Aj7 _,λ_ _=>rfl,rfl⟩;refine⟨c,.slice (some ⟨G.w.heap.size,0,none⟩) len len,?_,m,?_,?_⟩
       ·have Z:(P.info? e).bind (·.zero)=some z:=by rw[s];exact Y
        have V:¬(16777216<len*i.size):=by omega
        by_cases y:len*i.size=0
        ·have U:madeCells z.cells 0= #[]:=by simp[madeCells]
         rw[y,U]at d;have X:Array.range 0= #[]:=rfl;simp at d;simp[execOp,X,Instr.buildSlice,run_underlying g,sizeOf,typeInfo,s,y,d,newRow,c]
        ·have:=d;unfold madeCells at this;simp at this;simp[execOp,Instr.buildSlice,run_underlying g,sizeOf,typeInfo,s,V,y,DW Z,this,newRow,c]
       ·simp only[VR];refine⟨_,_,j.toList,rfl,Aj7 _,.inr ⟨λq=>?_,λi v f=>?_⟩,Q.evo m⟩
        ·have:=hr.lt _ q;simp at this
        ·refine⟨?_,W v (Aj2 f)⟩;rw[Addr.add_lit];unfold World.cell?;rw[show c.w.heap[G.w.heap.size]?=some (.cells j e)from heap_alloc_new G.w _];simpa using f
       ·exact⟨hr.n,λo x A=>OR.evo m (hr.lt_n A) (Below.heap_alloc _ _ _ (hr.lt _ (.inl (hr.live _ _ A)))) (hr.obj o x A),hr.inj,hr.live,λb a=>by have:=hr.lt b a;simp[c];omega,hr.dis⟩
      ·cases a
     ·cases a
    ·cases a
   ·cases a
  ·cases h
 ·cases h
theorem rH {ρ a:Operand->AV}{o:Oper}(h:∀x∈o.op.operands.toList,ρ x=a x):I6 P ρ o=I6 P a o:=by
 obtain⟨d,op,g,f,c,e⟩:=o;cases op
 case buildSlice t n ps=>
  have:(ps.toList.map λp=>(p.1,ρ p.2))=(ps.toList.map λp=>(p.1,a p.2)):=
   Av8 λp b=>by rw[h p.2 (by simp[Op.operands];exact⟨p.1,by simpa using b⟩)]
  simp only[I6];rw[this]
 all_goals rfl
def sK (P:Program)(T:List AV)(H:AH)(o:Oper)(R:AV->AH->Prop):Prop:=(∃r H',Ea P (Cf T) H o=some (r,H')/\R r H')\/(∃r,I6 P (Cf T) o=some r/\R r H)\/∃k args,Gv (Cf T) o=some (k,args)/\Ch P k=true/\ACalls P k args H R
structure Ord (ops:List Oper):Prop where
 down:Uo ops=true
 ord:∀i j oi oj d,ops[i]?=some oi->ops[j]?=some oj->i≠j->oj.dst=some d->d∈Wr ops oi->((Gy ops []).getD (max i j) 0).testBit (min i j)=true
def U8 (ops:List Oper):Bool:=
 let b:=Gy ops []
 Uo ops&&
 (ops.zipIdx.all λp=>ops.zipIdx.all λq=>(p.2==q.2)||(match q.1.dst with
  | some d=> !(Wr ops p.1).contains d||(b.getD (max p.2 q.2) 0).testBit (min p.2 q.2)
  | none=>true))
theorem qI {ops:List Oper}(h:U8 ops=true):Ord ops:=by
 unfold U8 at h;simp only[Am0]at h;obtain⟨a,b⟩:=h;refine⟨a,λi j l m d e f k c g=>?_⟩;have:=Am2.1 (Am2.1 b _ (nH e)) _ (nH f);simp only[c]at this;simp only[Bool.or_eq_true,beq_iff_eq,Bool.not_eq_true',List.contains_eq_mem,decide_eq_false_iff_not]at this;rcases this with h | h | h
 ·exact absurd h k
 ·exact absurd g h
 ·exact h
def Amd (ops:List Oper)(S:Nat->Bool)(i:Nat)(o:Oper):Prop:=ops[i]?=some o/\uU ops S/\S i=false/\∀e∈o.after,Region.binds .any e=true->S e.on=true
def Afs (P:Program)(ops:List Oper)(T:List AV){Ω:Type}(d:Ω->(Nat->Bool)->Prop)(vals:Ω->Nat->AV)(c:Ω->(Nat->Bool)->AH):Prop:=∀ω S i o,Amd ops S i o->d ω S-> ∃b,C0 ops.toArray (pt ops (vals ω) (λ_=>true) T i) o=some b/\ (b=true->sK P (pt ops (vals ω) (λ_=>true) T i) (c ω S) o λr H'=>∃a,d a (Nw S i)/\(∀j,S j=true->vals a j=vals ω j)/\vals a i=r/\c a (Nw S i)=H')/\ (b=false->∃a,d a (Nw S i)/\(∀j,S j=true->vals a j=vals ω j)/\vals a i=Be/\c a (Nw S i)=c ω S)
theorem Aft {ops:List Oper}{vals b:Nat->AV}{a:Nat->Bool}{T:List AV}(h:∀j,a j=true->b j=vals j):∀n,pt ops b a T n=pt ops vals a T n
 | 0=>rfl
 | n+1=>by
  simp only[pt,Aft h n];split
  ·rename_i c;rw[h n c]
  ·rfl
abbrev Ac7:=And.intro @Bool.not_false @if_true.{1}
abbrev Ai0:=And.intro @Array.getD_eq_getD_getElem?.{0} @Option.getD_some.{0}
abbrev Aq2:=@Nat.min_eq_left
theorem Ame {ops:List Oper}(W:Ord ops){T:List AV}{Ω:Type}{Z:Ω->(Nat->Bool)->Prop}{vals:Ω->Nat->AV}{Y:Ω->(Nat->Bool)->AH}(hs:Afs P ops T Z vals Y){Q:AQ}{G0:Cfg}
  (a6:∀ω S,(∀j,j<ops.length->S j=true)->Z ω S->Q .normal (pt ops (vals ω) (λ_=>true) T ops.length) (Y ω S)):
  ∀(d:Nat) (c:Array Bool) (a:Act) (G:Cfg) (ρ:Aao) (ω:Ω),c.size=ops.length->c.toList.countP (λb=>!b)=d->
   uU ops (λj=>c.getD j false)->Z ω (λj=>c.getD j false)->Evo G0 G->FR G (pt ops (vals ω) (λj=>c.getD j false) T ops.length) a->DF G ρ a->HR G (Y ω λj=>c.getD j false)->
   wpAnyIn (FW ρ.1) 0 P .any ops.toArray (sJ G0 ρ Q) d c a G.w:=by
 intro d
 induction d with
 | zero=>
  intro c a G ρ ω al ah K af I p L J;have all:∀j,j<ops.length->c.getD j false=true:=by
   intro j A;have hs:j<c.size:=by omega
   have:=List.countP_eq_zero.1 ah c[j] (by simp);simp only[Ai0,Aq1 hs];simpa using this
  refine⟨?_,?_⟩
  ·rw[List.eq_nil_iff_forall_not_mem];intro i U;obtain⟨y,o,ho,_⟩:=mem_ready.1 U;have ab:i<ops.length:=by simpa using(Array.getElem?_eq_some_iff.1 ho).1
   rw[OK (by omega),all i ab]at y;cases y
  ·have e:pt ops (vals ω) (λj=>c.getD j false) T ops.length=pt ops (vals ω) (λ_=>true) T ops.length:=
    Afq _ λm hm=>all m hm
   rw[e]at p;exact UB (a6 ω _ all af) I p L J
 | succ d ih=>
  intro c a G ρ ω al ah K af I p L J;have ax:∃j,j<ops.length/\c.getD j false=false/\∀i,i<j->c.getD i false=true:=by
   have:∃j,j<ops.length/\c.getD j false=false:=by
    apply Al7;intro hn;have:c.toList.countP (λb=>!b)=0:=by
     refine List.countP_eq_zero.2 λb n=>?_;obtain⟨j,A,rfl⟩:=List.mem_iff_getElem.1 n;have a0:j<c.size:=by simpa using A
     cases h:c[j]with
     | true=>simp[h]
     | false=>
      exfalso;refine hn ⟨j,by omega,?_⟩;simp[Aq6,a0,h]
    omega
   obtain⟨j,A⟩:=this
   induction j using Nat.strongRecOn with
   | _ j ihj=>
    by_cases h:∃i,i<j/\c.getD i false=false
    ·obtain⟨i,h1,h2⟩:=h;exact ihj i h1 ⟨by omega,h2⟩
    ·exact⟨j,A.1,A.2,λi U=>by
      cases h':c.getD i false with
      | true=>rfl
      | false=>exact absurd ⟨i,U,h'⟩ h⟩
  obtain⟨j0,ab,a1,au⟩:=ax;refine⟨λa3=>?_,λi U=>?_⟩
  ·exfalso;have aj:j0∈Region.ready .any ops.toArray c:=by refine mem_ready.2 ⟨by rw[OK (by omega)];exact a1,ops[j0],by simp[ab],λe M n=>?_⟩;exact au _ (dO W.down (Dq ab) M n)
   rw[a3]at aj;cases aj
  ·obtain⟨y,o,ho,ae⟩:=mem_ready.1 U;have C:ops[i]?=some o:=by simpa using ho
   have az:i<ops.length:=(BG.1 C).1;have V:i<c.size:=by omega
   rw[OK V]at y;have ak:∀(j:Nat) (t:Tmp),j<ops.length->Pe ops j=some t->t∈Wr ops o->c.getD j false=decide (j<i):=by
    intro j t A R ht;have q:ops[j]?=some ops[j]:=Dq A;have ai:ops[j].dst=some t:=by unfold Pe at R;rw[q]at R;exact R
    rcases Nat.lt_trichotomy j i with h | h | h
    ·have n:=W.ord i j o _ t C q (by omega) ai ht;rw[Nat.max_eq_left (by omega),Nat.min_eq_right (by omega)]at n;have:=U4 W.down K i o C ae j n
     try simp only at this
     rw[this];simp[h]
    ·subst h;rw[y];simp
    ·have n:=W.ord i j o _ t C q (by omega) ai ht;rw[Nat.max_eq_right (by omega),Aq2 (by omega)]at n;cases E:c.getD j false with
     | false=>simp;omega
     | true=>
      exfalso;have:=U4 W.down K j _ q (λe M ap=>K j _ q E e M ap) i n
      try simp only at this
      rw[y]at this;cases this
   have aa:∀t∈Wr ops o,(pt ops (vals ω) (λj=>c.getD j false) T ops.length)[t]?=(pt ops (vals ω) (λ_=>true) T i)[t]?:=by intro t ht;rw[<- Alz (i:=i) ops.length (by omega)];exact Afp ops.length (λj A R=>ak j t A R ht)
   obtain⟨b,n,ar,aq⟩:=hs ω (λj=>c.getD j false) i o ⟨C,K,y,ae⟩ af;rw[<- rL aa]at n;have X:(λj=>(c.setIfInBounds i true).getD j false)=Nw (λj=>c.getD j false) i:=by
    funext j;unfold Nw;by_cases N:j=i
    ·subst N;simp[Aq6,V]
    ·rw[if_neg N,getD_set_ne false (Al6 N)]
   have ao:∀f,(∀j,c.getD j false=true->vals f j=vals ω j)->pt ops (vals f) (Nw (λj=>c.getD j false) i) T ops.length=EL (pt ops (vals ω) (λj=>c.getD j false) T ops.length) o.dst (vals f i):=by
    intro f s;rw[Afr (by simpa using y) ops.length,if_pos az,Aft s]
    ·simp[Pe,C]
    ·intro j h1 h2 h3 x H a5;have aw:o.dst=some x:=by simpa[Pe,C]using H
     have:=ak j x h2 a5 (by unfold Wr;simp[aw])
     try simp only at h3
     rw[h3]at this;simp at this;omega
   have next:∀(f:Ω) (O:Act) (g:Cfg),Z f (Nw (λj=>c.getD j false) i)->(∀j,c.getD j false=true->vals f j=vals ω j)->Evo G0 g->
     FR g (EL (pt ops (vals ω) (λj=>c.getD j false) T ops.length) o.dst (vals f i)) O->DF g ρ O->HR g (Y f (Nw (λj=>c.getD j false) i))->
     wpAnyIn (FW ρ.1) 0 P .any ops.toArray (sJ G0 ρ Q) d (c.setIfInBounds i true) O g.w:=by
    intro f O g B s l am av z;refine ih _ O g ρ f (by simpa using al) ?_ ?_ (by rw[X];exact B) l ?_ av (by rw[X];exact z)
    ·rw[Ar9,List.countP_set (by simpa using V)];have a2 : c.toList[i]'(by simpa using V)=false:=by simp only[Ai0,Aq1 V]at y;simpa using y
     rw[a2];simp only[Ac7,Ad7];omega
    ·intro j oj q E e M ag;have E:Nw (λj=>c.getD j false) i j=true:=(congrFun X j).symm.trans E;refine(congrFun X e.on).trans ?_;unfold Nw at E|-;split
     ·rfl
     ·by_cases N:j=i
      ·subst N;rw[C]at q;injection q with q;subst q;exact ae e M ag
      ·rw[if_neg N]at E;exact K j oj q E e M ag
    ·rw[X,ao f s];exact am
   unfold wpOpIn;simp only[ho];cases b with
   | true=>
    rw[if_pos (Nf p n)];rcases ar rfl with⟨r,H',F,f,B,s,rfl,rfl⟩ | ⟨r,F,f,B,s,rfl,an⟩ | ⟨k,args,ad,ay,hc⟩
    ·rw[<- Alw (Xf aa)]at F;obtain⟨g,u,D,l,H,z⟩:=Afo J (λx=>p.eval x) F;refine⟨λ_ _=>trivial,?_⟩;rw[Oper.semAt_eq _ _ _ (kF F)];rcases D with D | ⟨D,rfl⟩<;>rw[D]<;>exact next f _ g B s (I.trans l) ((FR.evo l p).put o.dst H) ((L.evo l rfl).put _ _) z
    ·rw[<- rH (Xf aa)]at F;obtain⟨g,u,D,l,H,z⟩:=Amc J (λx=>p.eval x) F;refine⟨λ_ _=>trivial,?_⟩;rw[Oper.semAt_eq _ _ _ (lW F),D];exact next f _ g B s (I.trans l) ((FR.evo l p).put o.dst H) ((L.evo l rfl).put _ _) (by rw[an];exact z)
    ·rw[<- yA (Xf aa)]at ad;obtain⟨vs,a4,D⟩:=yB (P:=P) (λx=>p.eval x) ad ay G.w;refine⟨λ_ _=>trivial,?_⟩;rw[Oper.semAt_eq _ _ _ (Tw ad),D];refine⟨λhn=>(by simp[Fence.wide]at hn),CallsIn.mono (oB ρ.1 (hc G vs J a4)) ?_⟩;rintro e w' ⟨r,H',g,v,rfl,rfl,l,H,z,f,B,s,rfl,rfl⟩;exact next f _ g B s (I.trans l) ((FR.evo l p).put o.dst H) ((L.evo l rfl).put _ _) z
   | false=>
    rw[if_neg (by rw[Nf p n];simp)];obtain⟨f,B,s,hu,z⟩:=aq rfl;refine⟨λ_ _=>trivial,next f _ G B s I ?_ (L.put _ _) (by rw[z];exact J)⟩;rw[hu];exact p.put o.dst (by simp only[Be,VR])
theorem ACode.drawn {id:Nat}{ops:List Oper}{Q:AQ}{T:List AV}{H:AH}(r:P.follows .mixedOrders=true)(q:U8 ops=true){Ω:Type}(e:Ω->(Nat->Bool)->Prop)(vals:Ω->Nat->AV)(d:Ω->(Nat->Bool)->AH)
  (b:Ω) (g:e b (λ_=>false)) (n:d b (λ_=>false)=H) (hs:Afs P ops T e vals d)
  (t:∀ω S,(∀j,j<ops.length->S j=true)->e ω S->Q .normal (pt ops (vals ω) (λ_=>true) T ops.length) (d ω S)):ACode P (.region id ops.toArray true) Q T H:=by
 intro G0 G a ρ h i p l;refine wpIn_region_any r ?_;have c:(λj=>(Array.replicate ops.toArray.size false).getD j false)=λ_=>false:=by funext j;simp only[Aq6,Array.getElem?_replicate];split<;>simp
 have k:FR {G with w:=G.w.drew} (pt ops (vals b) (λj=>(Array.replicate ops.toArray.size false).getD j false) T ops.length) a:=by
  have s:∀m,pt ops (vals b) (λ_=>false) T m=T:=by
   intro m
   induction m with
   | zero=>rfl
   | succ m ih=>simp only[pt];rw[if_neg (by simp),ih]
  rw[c,s];exact FR.evo (Evo.drew G) i
 refine Ame (qI q) hs t ops.toArray.size (Array.replicate ops.toArray.size false) a {G with w:=G.w.drew} ρ b (by simp) (by simp[List.countP_replicate]) ?_ ?_ (h.trans (Evo.drew G)) k (p.evo (Evo.drew G) rfl) ?_
 ·intro j o _ f;rw[c]at f;cases f
 ·rw[c];exact g
 ·rw[c,n];exact l.drew
end
end
section
def Amf:Value->Value->Bool
 | .bool a,.bool b=>decide (a=b)
 | .int k a,.int l b=>decide (k=l)&&decide (a=b)
 | .string a,.string b=>decide (a=b)
 | .pointer none,.pointer none=>true
 | .slice none a b,.slice none c d=>decide (a=c)&&decide (b=d)
 | .map none,.map none=>true
 | .nilFunc,.nilFunc=>true
 | .nilIface,.nilIface=>true
 | _,_=>false
def Amg:Fn->Fn->Bool
 | .func a,.func b=>decide (a=b)
 | _,_=>false
mutual
def AV.same:AV->AV->Bool
 | .lit v,.lit u=>Amf v u
 | .ptr a b,.ptr c d=>decide (a=c)&&decide (b=d)
 | .ip a,.ip b=>qP a b
 | .sl a b c d e,.sl a' b' c' d' e'=>decide (a=a')&&decide (b=b')&&decide (c=c')&&decide (d=d')&&decide (e=e')
 | .imm a l e,.imm b m f=>decide (l=m)&&decide (e=f)&&qP a b
 | .mp a,.mp b=>decide (a=b)
 | .agg a,.agg b=>qP a b
 | .tup a,.tup b=>qP a b
 | .fn f a b,.fn g c d=>Amg f g&&qP a c&&qP b d
 | .emp,.emp=>true
 | .junk,.junk=>true
 | _,_=>false
def qP:List AV->List AV->Bool
 | [],[]=>true
 | a::r,b::s=>AV.same a b&&qP r s
 | _,_=>false
end
def AQ.is (r:Exit×List AV×AH):AQ:=λe T H=>(e,T,H)=r
section
variable {P : Program}
abbrev PT:=FuncId->List AV->AH->Option (AV×AH)
def nI (P:Program)(call:PT):Prop:=∀f args H r H',call f args H=some (r,H')->ACalls P f args H λb a=>b=r/\a=H'
abbrev aG:=FuncId->List AV->Option AV
def iA (P:Program)(pure:aG):Prop:=∀f args r,pure f args=some r->Ch P f=true/\∀H,ACalls P f args H λa H'=>a=r/\H'=H
def C4 (a:FuncId->Bool):Op->Bool
 | .call {callee:=.value (.func k),..}=>a k
 | _=>false
def M2 (a:FuncId->Bool)(op:Op):Bool:=Me op||C4 a op||match op with
 | .buildSlice ..=>true
 | _=>false
def Ue:Op->Bool
 | .move _ | .assign _ | .pick .. | .build .. | .nilCheck _ | .binOp .. | .unOp .. | .makeFunc .. | .fieldAddr .. | .field .. | .indexAddr .. | .index .. | .extract .. | .buildSlice ..=>true
 | _=>false
theorem Amh {x:Option AV}{H c H':AH}{r:AV}(h:x.map (·,H)=some (r,c)):x.map (·,H')=some (r,H'):=by
 obtain⟨a,d,b⟩:=Option.map_eq_some_iff.1 h;injection b with b e;subst b;rw[d];rfl
theorem Ami {x r:AV}{H a H':AH}(h:some (x,H)=some (r,a)):some (x,H')=some (r,H'):=by
 injection h with h;injection h with b c;rw[b]
theorem tB {ρ:Operand->AV}{H e H':AH}{o:Oper}{r:AV}(i:Ue o.op=true)(d:Me o.op=true)(h:Ea P ρ H o=some (r,e)):Ea P ρ H' o=some (r,H'):=by
 have g:=cH d h;subst g;obtain⟨k,op,p,n,j,l⟩:=o;cases op<;>first
  | (simp[Ue]at i;done)
  | (simp[Me]at d;done)
  | exact Amh h
  | exact Ami h
  | skip
 case pick c a b=>
  simp only[Ea]at h|-;split at h
  ·injection h with h;injection h with f m;rw[f]
  ·cases h
def stepD (P:Program)(a:FuncId->Bool)(pure:aG)(call:PT)(T:List AV)(H:AH)(o:Oper):Option (AV×AH):=
 match o.op with
 | .buildSlice ..=>(I6 P (Cf T) o).map (·,H)
 | _=>if C4 a o.op then match Gv (Cf T) o with
   | some (f,args)=>(pure f args).map (·,H)
   | none=>none
  else match Ea P (Cf T) H o with
  | some x=>some x
  | none=>match Gv (Cf T) o with
   | some (f,args)=>if Ch P f then call f args H else none
   | none=>none
def Adq (P:Program)(a:FuncId->Bool)(pure:aG)(call:PT)(ops:Array Oper):List Oper->List AV->AH->Option (List (AV×AH))
 | [],_,_=>some []
 | o::l,T,H=>match C0 ops T o with
  | none=>none
  | some false=>(Adq P a pure call ops l (EL T o.dst Be) H).map ((Be,H)::·)
  | some true=>match stepD P a pure call T H o with
   | some (r,H')=>(Adq P a pure call ops l (EL T o.dst r) H').map ((r,H')::·)
   | none=>none
def Sd (a:FuncId->Bool)(ops:List Oper)(i:Nat):Bool:=match ops[i]? with
 | some o=>!M2 a o.op
 | none=>false
def Cw (tr:List (AV×AH))(i:Nat):AV:=(tr[i]?.map Prod.fst).getD Be
def Hm (tr:List (AV×AH))(i:Nat):AH:=(tr[i]?.map Prod.snd).getD []
def hs (a:FuncId->Bool)(ops:List Oper)(tr:List (AV×AH))(H:AH)(S:Nat->Bool):Nat->AH
 | 0=>H
 | m+1=>if S m&&Sd a ops m then Hm tr m else hs a ops tr H S m
def YJ (a:FuncId->Bool)(ops:List Oper)(b:List Nat)(i:Nat)(c:Option Nat):Bool:=
 (List.range ops.length).all (λj=>!(Sd a ops j&&(b.getD i 0).testBit j)||(match c with
  | some c=>decide (j<=c)
  | none=>false))&&(match c with
  | some c=> !(b.getD c 0).testBit i&&decide (c≠i)
  | none=>true)
def zW (ops:List Oper):List Oper->List (AV×AH)->List AV->List (List AV)
 | o::l,(r,_)::tr,T=>T::zW ops l tr (EL T o.dst r)
 | _,_,_=>[]
def Amj (P:Program)(a:FuncId->Bool)(ops:List Oper)(tr:List (AV×AH))(H:AH)(T:List AV):Bool:=
 let b:=Gy ops []
 let d:=zW ops ops tr T
 let e:=none::((List.range ops.length).filter (Sd a ops)).map some
 ops.zipIdx.all λp=>!M2 a p.1.op||Ue p.1.op||C4 a p.1.op||match d[p.2]? with
  | some Ti=>match C0 ops.toArray Ti p.1 with
   | some true=>e.all λc=>!YJ a ops b p.2 c||(match Ea P (Cf Ti) (match c with | some c=>Hm tr c | none=>H) p.1 with
    | some (r,_)=>AV.same r (Cw tr p.2)
    | none=>false)
   | _=>true
  | none=>false
def dI (a:FuncId->Bool)(ops:List Oper):Bool:=
 let b:=Gy ops []
 ops.zipIdx.all λp=>!(Sd a ops p.2)||(List.range p.2).all λj=>!(Sd a ops j)||(b.getD p.2 0).testBit j
def Amk (P:Program)(a:FuncId->Bool)(pure:aG)(call:PT)(ops:List Oper)(T:List AV)(H:AH):Option (List AV×AH):=
 if P.follows .mixedOrders&&U8 ops&&dI a ops then match Adq P a pure call ops.toArray ops T H with
  | some tr=>if Amj P a ops tr H T then some (pt ops (Cw tr) (λ_=>true) T ops.length,hs a ops tr H (λ_=>true) ops.length)else none
  | none=>none
 else none
def Abz (P:Program)(a:FuncId->Bool)(ops:List Oper)(tr:List (AV×AH))(T:List AV)(H:AH)(i:Nat)(o:Oper):Prop:=∃b,C0 ops.toArray (pt ops (Cw tr) (λ_=>true) T i) o=some b/\ (b=false->Cw tr i=Be/\Hm tr i=hs a ops tr H (λ_=>true) i)/\ (b=true->∃pure call,iA P pure/\nI P call/\stepD P a pure call (pt ops (Cw tr) (λ_=>true) T i) (hs a ops tr H (λ_=>true) i) o=some (Cw tr i,Hm tr i))
theorem Aml {ρ:Operand->AV}{o:Oper}{q:FuncId×List AV}(h:Gv ρ o=some q):Me o.op=false:=by
 obtain⟨c,op,f,e,b,d⟩:=o;unfold Gv at h;split at h
 ·rename_i a;simp only at a;subst a;rfl
 ·cases h
theorem Tq {c : FuncId->Bool} {pure : aG} (n : iA P pure) {call : PT} {T : List AV} {H H' : AH} {o : Oper} {r : AV} (k : M2 c o.op=true) (h : stepD P c pure call T H o=some (r,H')) :
    H'=H/\(I6 P (Cf T) o=some r\/(C4 c o.op=true/\∃f args,Gv (Cf T) o=some (f,args)/\Ch P f=true/\∀H,ACalls P f args H λq H'=>q=r/\H'=H)\/(Ea P (Cf T) H o=some (r,H)/\Me o.op=true/\C4 c o.op=false)):=by
  unfold stepD at h;split at h
  · obtain⟨a,d,b⟩:=Option.map_eq_some_iff.1 h;injection b with b i;subst b;subst i;exact⟨rfl,.inl d⟩
  · rename_i m
    by_cases e:C4 c o.op=true
    · rw[if_pos e]at h;split at h
      · rename_i f args j;obtain⟨a,d,b⟩:=Option.map_eq_some_iff.1 h;injection b with b i;subst b;subst i;exact⟨rfl,.inr (.inl ⟨e,f,args,j,n f args _ d⟩)⟩
      · cases h
    · rw[if_neg e]at h;have p:C4 c o.op=false:=by simpa using e
      have g:Me o.op=true:=by
        unfold M2 at k;simp only[Bool.or_eq_true]at k;rcases k with(h | h) | h
        · exact h
        · exact absurd h e
        · first
            | (split at h
               · rename_i d;exact absurd d (m _ _ _)
               · cases h)
            | cases h
      split at h
      · rename_i x l;injection h with h;subst h
        have:=cH g l;subst this;exact⟨rfl,.inr (.inr ⟨l,g,p⟩)⟩
      · exfalso
        split at h
        · rename_i f args j;rw[Aml j]at g;cases g
        · cases h
theorem Afu {a:FuncId->Bool}{ops:List Oper}{tr:List (AV×AH)}{H:AH}{S:Nat->Bool}:∀m,(hs a ops tr H S m=H/\∀j,j<m->¬(S j=true/\Sd a ops j=true))\/
  ∃c,c<m/\S c=true/\Sd a ops c=true/\hs a ops tr H S m=Hm tr c/\∀j,c<j->j<m->¬(S j=true/\Sd a ops j=true)
 | 0=>.inl ⟨rfl,λj h=>by omega⟩
 | m+1=>by
  simp only[hs];by_cases h:S m=true/\Sd a ops m=true
  ·rw[if_pos (by simp[h.1,h.2])];exact .inr ⟨m,by omega,h.1,h.2,rfl,λj e d=>by omega⟩
  ·rw[if_neg (by simpa using h)];rcases Afu m with⟨e,d⟩ | ⟨c,e,d,f,g,i⟩
   ·refine .inl ⟨e,λj b=>?_⟩;rcases Nat.lt_succ_iff_lt_or_eq.1 b with b | rfl
    ·exact d j b
    ·exact h
   ·refine .inr ⟨c,by omega,d,f,g,λj k l=>?_⟩;rcases Nat.lt_succ_iff_lt_or_eq.1 l with b | rfl
    ·exact i j k b
    ·exact h
theorem Ia {a:FuncId->Bool}{ops:List Oper}{tr:List (AV×AH)}{H:AH}{S S':Nat->Bool}:∀m,(∀j,j<m->Sd a ops j=true->S j=S' j)->hs a ops tr H S m=hs a ops tr H S' m
 | 0,_=>rfl
 | m+1,h=>by
  simp only[hs,Ia m (λj c=>h j (by omega))];cases b:Sd a ops m with
  | false=>simp
  | true=>rw[h m (by omega) b]
theorem V8 {a:FuncId->Bool}{ops:List Oper}{tr:List (AV×AH)}{H:AH}{S:Nat->Bool}{i:Nat}:∀m,i<=m->(∀j,i<=j->j<m->¬(S j=true/\Sd a ops j=true))->hs a ops tr H S m=hs a ops tr H S i
 | 0,hi,_=>by rw[show i=0 by omega]
 | m+1,hi,h=>by
  rcases Aj5 m i with e | b
  ·rw[show i=m+1 by omega]
  ·simp only[hs];rw[if_neg (by simpa using h m b (by omega))];exact V8 m b (λj c d=>h j c (by omega))
end
end
section
def zY:Exit->Bool
 | .normal | .ret=>true
 | _=>false
section
variable {P : Program}
def BCall (P:Program)(f:FuncId)(args:List AV)(H:AH)(r:AV)(H':AH):Prop:=ACalls P f args H λb a=>b=r/\a=H'
def BPure (P:Program)(f:FuncId)(args:List AV)(r:AV):Prop:=∀H,BCall P f args H r H
theorem BPure.of {f:FuncId}{args:List AV}{b r:AV}{X:AH}(h:BCall P f args [] b X)(c:AF args=true){n:Nat}(d:Se X n b=some r):BPure P f args r:=
 λH=>ACalls.pure (R':=λe=>e=r) h (Ib c) (λj i a=>⟨n,r,by rw[a.1,a.2];exact d,rfl⟩) H
inductive TraceR (P:Program) (ql:FuncId->Bool) (ops:Array Oper):List Oper->List AV->AH->List (AV×AH)->List AV->AH->Prop
 | nil (T:List AV) (H:AH):TraceR P ql ops [] T H [] T H
 | skip {o:Oper} {l:List Oper} {T T':List AV} {H H':AH} {tl:List (AV×AH)} (hw:C0 ops T o=some false) (hr:TraceR P ql ops l (EL T o.dst Be) H tl T' H'):TraceR P ql ops (o::l) T H ((Be,H)::tl) T' H'
 | step {o:Oper} {l:List Oper} {T T':List AV} {H H1 H':AH} {r:AV} {tl:List (AV×AH)} (hw:C0 ops T o=some true) (hs:∃pure call,iA P pure/\nI P call/\stepD P ql pure call T H o=some (r,H1))
   (hr:TraceR P ql ops l (EL T o.dst r) H1 tl T' H'):TraceR P ql ops (o::l) T H ((r,H1)::tl) T' H'
abbrev Ai7:=And.intro @BH.{0} @Nat.add_zero
theorem Amm {ql:FuncId->Bool}{ops:List Oper}{T:List AV}{H:AH}{tr:List (AV×AH)}:∀(l:List Oper) (g:List (AV×AH)) (k:Nat) (Tk:List AV) (i:AH) (d:List AV) (H':AH),(∀(j:Nat) (o:Oper),l[j]?=some o->ops[k+j]?=some o)->(∀j,g[j]?=tr[k+j]?)->
  pt ops (Cw tr) (λ_=>true) T k=Tk->hs ql ops tr H (λ_=>true) k=i->TraceR P ql ops.toArray l Tk i g d H'->
  pt ops (Cw tr) (λ_=>true) T (k+l.length)=d/\hs ql ops tr H (λ_=>true) (k+l.length)=H'/\∀(j:Nat) (o:Oper),l[j]?=some o->Abz P ql ops tr T H (k+j) o:=by
 intro l
 induction l with
 | nil=>
  intro g k Tk i d H' s n f m h;cases h;exact⟨by simpa using f,by simpa using m,λj o b=>by simp at b⟩
 | cons o l ih=>
  intro g k Tk i d H' s n f m h;have x:ops[k]?=some o:=by simpa using s 0 o rfl
  have step:∀(r:AV) (a:AH) (e:List (AV×AH)),g=(r,a)::e->TraceR P ql ops.toArray l (EL Tk o.dst r) a e d H'->(M2 ql o.op=true->a=i)->(Abz P ql ops tr T H k o)->
    pt ops (Cw tr) (λ_=>true) T (k+(o::l).length)=d/\hs ql ops tr H (λ_=>true) (k+(o::l).length)=H'/\∀(j:Nat) (p:Oper),(o::l)[j]?=some p->Abz P ql ops tr T H (k+j) p:=by
   intro r a e v E t K;subst v;have c:=n 0;simp only[Ai7]at c;have L:Cw tr k=r:=by unfold Cw;rw[<- c];rfl
   have I:Hm tr k=a:=by unfold Hm;rw[<- c];rfl
   obtain⟨B,C,D⟩:=ih e (k+1) (EL Tk o.dst r) a d H' (λj M b=>by
     rw[show k+1+j=k+(j+1) by omega];exact s (j+1) M (by simpa using b)) (λj=>by
     have:=n (j+1);rw[show k+1+j=k+(j+1) by omega,<- this];simp) (by
     simp only[pt,if_true];rw[f,L];simp[Pe,x]) (by
     have G:Sd ql ops k=!M2 ql o.op:=by unfold Sd;rw[x]
     simp only[hs,As5,G];by_cases u:M2 ql o.op=true
     ·rw[if_neg (by simp[u]),t u];exact m
     ·rw[if_pos (by simpa using u)];exact I) E
   have J:k+(o::l).length=k+1+l.length:=by simp;omega
   rw[J];refine⟨B,C,λj p b=>?_⟩;cases j with
   | zero=>simp only[BH]at b;injection b with b;subst b;exact K
   | succ j=>rw[show k+(j+1)=k+1+j by omega];exact D j p (by simpa using b)
  have w:∀(r:AV) (a:AH) (e:List (AV×AH)),g=(r,a)::e->Cw tr k=r/\Hm tr k=a:=by intro r a e v;have c:=n 0;rw[v]at c;simp only[Ai7]at c;exact⟨by unfold Cw;rw[<- c];rfl,by unfold Hm;rw[<- c];rfl⟩
  cases h with
  | skip hw hr=>
   obtain⟨q,a2⟩:=w _ _ _ rfl;exact step _ _ _ rfl hr (λ_=>rfl) ⟨false,by rw[f];exact hw,(λ_=>⟨q,by rw[a2,m]⟩),(λh=>by cases h)⟩
  | step hw hs hr=>
   obtain⟨N,A,y,F,z⟩:=hs;obtain⟨q,a2⟩:=w _ _ _ rfl;exact step _ _ _ rfl hr (λt=>(Tq y t z).1) ⟨true,by rw[f];exact hw,(λh=>by cases h),(λ_=>⟨N,A,y,F,by rw[f,m,q,a2];exact z⟩)⟩
theorem yT {ql:FuncId->Bool}{op:Op}(h:Ue op=true):M2 ql op=true:=by
 cases op<;>first
  | rfl
  | cases h
def Amn (ql:FuncId->Bool)(ops:List Oper):Bool:=
 let b:=Gy ops []
 ops.zipIdx.all λp=>Ue p.1.op||C4 ql p.1.op||(List.range ops.length).all λj=>!(Sd ql ops j)||decide (j=p.2)||(b.getD (max p.2 j) 0).testBit (min p.2 j)
abbrev Ag3:=And.intro @An @Bool.false_and
abbrev Aw3:=@Nat.eq_or_lt_of_le
abbrev As1:=@List.mem_range
theorem Ayk {ql:FuncId->Bool}{id:Nat}{ops:List Oper}{T:List AV}{H:AH}{tr:List (AV×AH)}(hm:P.follows .mixedOrders=true)(U:U8 ops=true)(aj:Amn ql ops=true)
  (ao:∀(i:Nat) (o:Oper),ops[i]?=some o->Abz P ql ops tr T H i o) {Q:AQ} (hq:Q .normal (pt ops (Cw tr) (λ_=>true) T ops.length) (hs ql ops tr H (λ_=>true) ops.length)):ACode P (.region id ops.toArray true) Q T H:=by
 have R:=qI U;refine ACode.drawn hm U (Ω:=Unit) (λ_ _=>True) (λ_=>Cw tr) (λ_ S=>hs ql ops tr H S ops.length) () trivial ?_ ?_ ?_
 ·rw[Ia (S':=λ_=>false) _ (λ_ _ _=>rfl)];have:∀m,hs ql ops tr H (λ_=>false) m=H:=by
   intro m
   induction m with
   | zero=>rfl
   | succ m ih=>simp only[hs,Ag3];exact ih
  exact this _
 ·intro _ S i o ⟨ho,hcl,hSi,hmet⟩ _;have ar:=(BG.1 ho).1;obtain⟨b,hw,ap,aq⟩:=ao i o ho;have X:∀j,(((Gy ops []).getD i 0).testBit j=true)->S j=true:=λj g=>U4 R.down hcl i o ho hmet j g;have Y:∀c,S c=true->c<ops.length->((Gy ops []).getD c 0).testBit i=true->False:=by intro c hc L ae;have:=U4 R.down hcl c _ (Dq L) (λe G ad=>hcl c _ (Dq L) hc e G ad) i ae;rw[hSi]at this;cases this
  have k:∀(r:AV) (B:AH),Cw tr i=r->hs ql ops tr H (Nw S i) ops.length=B->∃ω':Unit,True/\(∀j,S j=true->Cw tr j=Cw tr j)/\Cw tr i=r/\hs ql ops tr H (Nw S i) ops.length=B:=
   λr B C a2=>⟨(),trivial,λ_ _=>rfl,C,a2⟩
  have v:Sd ql ops i=false->hs ql ops tr H (Nw S i) ops.length=hs ql ops tr H S ops.length:=by
   intro a;refine Ia _ λj _ g=>?_;unfold Nw;split
   ·rename_i G;rw[G,a]at g;cases g
   ·rfl
  have y:(∀j,j<ops.length->Sd ql ops j=true->j≠i->((Gy ops []).getD (max i j) 0).testBit (min i j)=true)->hs ql ops tr H S ops.length=hs ql ops tr H (λ_=>true) i/\
    (∀j,i<=j->j<ops.length->¬(S j=true/\Sd ql ops j=true)):=by
   intro M;have w:∀j,i<=j->j<ops.length->¬(S j=true/\Sd ql ops j=true):=by
    rintro j g O ⟨n,s⟩;rcases Aw3 g with rfl | au
    ·rw[hSi]at n;cases n
    ·have:=M j O s (by omega);rw[Nat.max_eq_right (by omega),Aq2 (by omega)]at this;exact Y j n O this
   refine⟨?_,w⟩;rw[V8 ops.length (by omega) w];refine Ia _ λj g F=>?_;have:=M j (by omega) F (by omega);rw[Nat.max_eq_left (by omega),Nat.min_eq_right (by omega)]at this;exact X j this
  have N:=Am2.1 aj _ (nH ho);simp only[Bool.or_eq_true]at N;have A:(Ue o.op=false/\C4 ql o.op=false)->∀j,j<ops.length->Sd ql ops j=true->j≠i->((Gy ops []).getD (max i j) 0).testBit (min i j)=true:=by
   rintro⟨n,s⟩ j g F ak;rcases N with(h | h) | h
   ·rw[n]at h;cases h
   ·rw[s]at h;cases h
   ·have:=Am2.1 h j (As1.2 g);simpa[F,ak]using this
  have D:Sd ql ops i=true->Ue o.op=false/\C4 ql o.op=false/\M2 ql o.op=false:=by
   intro a;have p:M2 ql o.op=false:=by unfold Sd at a;rw[ho]at a;simpa using a
   refine⟨?_,?_,p⟩
   ·cases t:Ue o.op with
    | false=>rfl
    | true=>
     exfalso;rw[yT t]at p;cases p
   ·unfold M2 at p;simp only[Bool.or_eq_false_iff]at p;exact p.1.2
  have E:Sd ql ops i=true->hs ql ops tr H (Nw S i) ops.length=Hm tr i:=by intro a;obtain⟨q,l,-⟩:=D a;obtain⟨-,w⟩:=y (A ⟨q,l⟩);rw[V8 (i:=i+1) ops.length (by omega) (λj n s J=>w j (by omega) s ⟨by have:=J.1;unfold Nw at this;rwa[if_neg (by omega)]at this,J.2⟩)];simp only[hs];rw[if_pos (by simp[Nw,a])]
  refine⟨b,hw,λt=>?_,λt=>?_⟩
  ·subst t;obtain⟨pu,cl,am,ai,d⟩:=aq rfl;cases u:M2 ql o.op with
   | true=>
    have a:Sd ql ops i=false:=by unfold Sd;rw[ho];simp[u]
    obtain⟨_,z | ⟨av,f,args,ag,I,aa⟩ | ⟨z,an,al⟩⟩:=Tq am u d
    ·exact .inr (.inl ⟨_,z,k _ _ rfl (v a)⟩)
    ·refine .inr (.inr ⟨f,args,ag,I,(aa _).mono ?_⟩);rintro r' V ⟨rfl,rfl⟩;exact k _ _ rfl (v a)
    ·left;by_cases K:Ue o.op=true
     ·exact⟨_,_,tB K an z,k _ _ rfl (v a)⟩
     ·have:=(y (A ⟨by simpa using K,al⟩)).1;refine⟨_,_,?_,k _ _ rfl (v a)⟩;show Ea P _ (hs ql ops tr H S ops.length) o=_;rw[this];exact z
   | false=>
    have a:Sd ql ops i=true:=by unfold Sd;rw[ho];simp[u]
    obtain⟨q,l,-⟩:=D a;have Z:=(y (A ⟨q,l⟩)).1;show sK P _ (hs ql ops tr H S ops.length) o _;rw[Z];unfold stepD at d;split at d
    ·rename_i af;unfold M2 at u;simp[af]at u
    ·rw[if_neg (by simp[l])]at d;split at d
     ·rename_i x hx;injection d with d;subst d;exact .inl ⟨_,_,hx,k _ _ rfl (E a)⟩
     ·split at d
      ·rename_i f args ah;split at d
       ·rename_i I;refine .inr (.inr ⟨f,args,ah,I,(ai f args _ _ _ d).mono ?_⟩);rintro r' V ⟨rfl,rfl⟩;exact k _ _ rfl (E a)
       ·cases d
      ·cases d
  ·subst t;obtain⟨C,a2⟩:=ap rfl;refine k _ _ C ?_;cases a:Sd ql ops i with
   | false=>exact v a
   | true=>
    obtain⟨q,l,-⟩:=D a;rw[E a,a2];exact(y (A ⟨q,l⟩)).1.symm
 ·intro _ S ab _;show Q .normal (pt ops (Cw tr) (λ_=>true) T ops.length) (hs ql ops tr H S ops.length);rw[Ia (S':=λ_=>true) _ (λj g _=>ab j g)];exact hq
abbrev Ai8:=And.intro @Bool.and_eq_false_iff @Bool.not_eq_true'
abbrev At6:=@Bool.not_true
abbrev Aw6:=@Bool.or_false
theorem Amo {a : FuncId->Bool} {id : Nat} {ops : List Oper} {T : List AV} {H : AH} {tr : List (AV × AH)} (hm : P.follows .mixedOrders=true) (X : U8 ops=true) (an : dI a ops=true)
    (au:∀(i:Nat) (o:Oper),ops[i]?=some o->Abz P a ops tr T H i o)
    (aq:∀(i:Nat) (o:Oper),ops[i]?=some o->M2 a o.op=true->Ue o.op=false->C4 a o.op=false->C0 ops.toArray (pt ops (Cw tr) (λ_=>true) T i) o=some true->
      ∀(c:Option Nat),(c=none\/∃d,c=some d/\d<ops.length/\Sd a ops d=true)->YJ a ops (Gy ops []) i c=true->
        ∃v,Ea P (Cf (pt ops (Cw tr) (λ_=>true) T i)) (match c with | some c=>Hm tr c | none=>H) o=some (Cw tr i,v))
    {Q:AQ} (hq:Q .normal (pt ops (Cw tr) (λ_=>true) T ops.length) (hs a ops tr H (λ_=>true) ops.length)):ACode P (.region id ops.toArray true) Q T H:=by
  have W:=qI X;refine ACode.drawn hm X (Ω:=Unit) (λ_ _=>True) (λ_=>Cw tr) (λ_ S=>hs a ops tr H S ops.length) () trivial ?_ ?_ ?_
  · rw[Ia (S':=λ_=>false) _ (λ_ _ _=>rfl)]
    have:∀m,hs a ops tr H (λ_=>false) m=H:=by
      intro m
      induction m with
      | zero=>rfl
      | succ m ih=>simp only[hs,Ag3];exact ih
    exact this _
  · intro _ S i o ⟨ho,hcl,hSi,hmet⟩ _;have V:=(BG.1 ho).1;obtain⟨b,Z,av,aw⟩:=au i o ho;have C:∀j,(((Gy ops []).getD i 0).testBit j=true)->S j=true:=λj g=>U4 W.down hcl i o ho hmet j g
    have I:∀c,S c=true->c<ops.length->((Gy ops []).getD c 0).testBit i=true->False:=by intro c hc U ai;have:=U4 W.down hcl c _ (Dq U) (λe z ag=>hcl c _ (Dq U) hc e z ag) i ai;rw[hSi]at this;cases this
    have D:∀c d,c<d->d<ops.length->Sd a ops c=true->Sd a ops d=true->((Gy ops []).getD d 0).testBit c=true:=by intro c d am hd k p;have:=Am2.1 an _ (nH (Dq hd));simp only[p,At6,Bool.false_or]at this;have:=Am2.1 this c (As1.2 am);simpa[k]using this
    have u:∀(r:AV) (F:AH),Cw tr i=r->hs a ops tr H (Nw S i) ops.length=F->∃ω':Unit,True/\(∀j,S j=true->Cw tr j=Cw tr j)/\Cw tr i=r/\hs a ops tr H (Nw S i) ops.length=F:=
      λr F G a2=>⟨(),trivial,λ_ _=>rfl,G,a2⟩
    refine⟨b,Z,λJ=>?_,λJ=>?_⟩
    · subst J;obtain⟨pu,cl,ar,ao,h⟩:=aw rfl;cases q:M2 a o.op with
      | true=>
        have n:Sd a ops i=false:=by unfold Sd;rw[ho];simp[q]
        have E:hs a ops tr H (Nw S i) ops.length=hs a ops tr H S ops.length:=by
          refine Ia _ λj _ g=>?_;unfold Nw;split
          · rename_i z;rw[z,n]at g;cases g
          · rfl
        obtain⟨_,N | ⟨ax,f,args,ak,L,ae⟩ | ⟨N,Y,M⟩⟩:=Tq ar q h
        · exact .inr (.inl ⟨_,N,u _ _ rfl E⟩)
        · refine .inr (.inr ⟨f,args,ak,L,(ae _).mono ?_⟩);rintro r' ab ⟨rfl,rfl⟩;exact u _ _ rfl E
        · left
          by_cases R:Ue o.op=true
          · exact⟨_,_,tB R Y N,u _ _ rfl E⟩
          · have aa : ∀ (c : Option Nat), (c = none \/ ∃ d, c = some d /\ d < ops.length /\ Sd a ops d = true) -> YJ a ops (Gy ops []) i c = true ->
                ∃v,Ea P (Cf (pt ops (Cw tr) (λ_=>true) T i)) (match c with | some c=>Hm tr c | none=>H) o=some (Cw tr i,v):=aq i o ho q (by simpa using R) M Z
            have ad:∃v,Ea P (Cf (pt ops (Cw tr) (λ_=>true) T i)) (hs a ops tr H S ops.length) o=some (Cw tr i,v):=by
              rcases Afu (ops:=ops) (tr:=tr) (H:=H) (S:=S) ops.length with⟨s,t⟩ | ⟨c,s,t,e3,e4,e5⟩
              · rw[s];refine aa none (.inl rfl) ?_;unfold YJ;simp only[Bool.and_true];refine Am2.2 λj g=>?_
                have g:=As1.1 g;simp only[Aw6,Ai8];cases l:Sd a ops j with
                | false=>exact .inl rfl
                | true=>
                  right;cases K:((Gy ops []).getD i 0).testBit j with
                  | false=>rfl
                  | true=>exact absurd ⟨C j K,l⟩ (t j g)
              · rw[e4];refine aa (some c) (.inr ⟨c,rfl,s,e3⟩) ?_;unfold YJ;simp only[Am0];refine⟨Am2.2 λj g=>?_,?_,?_⟩
                · have g:=As1.1 g;simp only[Af9,Ai8];cases l:Sd a ops j with
                  | false=>exact .inl (.inl rfl)
                  | true=>
                    cases K:((Gy ops []).getD i 0).testBit j with
                    | false=>exact .inl (.inr rfl)
                    | true=>
                      right;rcases Aj5 c j with B | ap
                      · exact absurd ⟨C j K,l⟩ (e5 j B g)
                      · exact ap
                · cases ah:((Gy ops []).getD c 0).testBit i with
                  | false=>rfl
                  | true=>exact(I c t s ah).elim
                · refine decide_eq_true ?_;rintro rfl;rw[hSi]at t;cases t
            obtain⟨v,O⟩:=ad;have:=cH Y O;subst this;exact⟨_,_,O,u _ _ rfl E⟩
      | false=>
        have n:Sd a ops i=true:=by unfold Sd;rw[ho];simp[q]
        have below:∀j,j<i->Sd a ops j=true->S j=true:=λj g l=>C j (D j i g V l n);have w:∀j,i<=j->j<ops.length->¬(S j=true/\Sd a ops j=true):=by
          rintro j g A ⟨k,p⟩;rcases Aw3 g with rfl | B
          · rw[hSi]at k;cases k
          · exact I j k A (D i j B A n p)
        have s:hs a ops tr H S ops.length=hs a ops tr H (λ_=>true) i:=by rw[V8 ops.length (by omega) w];exact Ia _ λj g l=>below j g l
        have t:hs a ops tr H (Nw S i) ops.length=Hm tr i:=by rw[V8 (i:=i+1) ops.length (by omega) (λj k p y=>w j (by omega) p ⟨by have:=y.1;unfold Nw at this;rwa[if_neg (by omega)]at this,y.2⟩)];simp only[hs];rw[if_pos (by simp[Nw,n])]
        show sK P _ (hs a ops tr H S ops.length) o _;rw[s];unfold stepD at h;split at h
        · rename_i aj;unfold M2 at q;simp[aj]at q
        · have M : C4 a o.op=false:=by
            unfold M2 at q;simp only[Bool.or_eq_false_iff]at q;exact q.1.2
          rw[if_neg (by simp[M])]at h;split at h
          · rename_i x hx;injection h with h;subst h;exact .inl ⟨_,_,hx,u _ _ rfl t⟩
          · split at h
            · rename_i f args al;split at h
              · rename_i L;refine .inr (.inr ⟨f,args,al,L,(ao f args _ _ _ h).mono ?_⟩);rintro r' ab ⟨rfl,rfl⟩;exact u _ _ rfl t
              · cases h
            · cases h
    · subst J;obtain⟨G,a2⟩:=av rfl;refine u _ _ G ?_;cases n:Sd a ops i with
      | false=>
        refine Ia _ λj _ g=>?_;unfold Nw;split
        · rename_i z;rw[z,n]at g;cases g
        · rfl
      | true=>
        have below:∀j,j<i->Sd a ops j=true->S j=true:=λj g l=>C j (D j i g V l n);have w:∀j,i<=j->j<ops.length->¬(S j=true/\Sd a ops j=true):=by
          rintro j g A ⟨k,p⟩;rcases Aw3 g with rfl | B
          · rw[hSi]at k;cases k
          · exact I j k A (D i j B A n p)
        have s:hs a ops tr H S ops.length=hs a ops tr H (λ_=>true) i:=by rw[V8 ops.length (by omega) w];exact Ia _ λj g l=>below j g l
        rw[V8 (i:=i+1) ops.length (by omega) (λj k p y=>w j (by omega) p ⟨by have:=y.1;unfold Nw at this;rwa[if_neg (by omega)]at this,y.2⟩)];simp only[hs];rw[if_pos (by simp[Nw,n]),a2,s]
  · intro _ S af _
    show Q .normal (pt ops (Cw tr) (λ_=>true) T ops.length) (hs a ops tr H S ops.length);rw[Ia (S':=λ_=>true) _ (λj g _=>af j g)];exact hq
def Y9 (P:Program)(ql:FuncId->Bool)(dr:Bool)(ρ:Operand->AV)(o:Oper)(H:AH)(r:AV)(H':AH):Prop:=
 match Gv ρ o with
 | some (k,args)=>Ch P k=true/\if dr&&C4 ql o.op then BPure P k args r/\H'=H else BCall P k args H r H'
 | none=>False
def sC:Op->Bool
 | .buildSlice ..=>true
 | _=>false
def wQ (P:Program)(dr:Bool)(ρ:Operand->AV)(H:AH)(o:Oper):Option (AV×AH):=
 if dr&&sC o.op then(I6 P ρ o).map (·,H)else Ea P ρ H o
def YA (P:Program)(ql:FuncId->Bool)(dr:Bool)(ops:Array Oper):List Oper->List AV->AH->(List AV->AH->Prop)->Prop
 | [],T,H,K=>K T H
 | o::l,T,H,K=>match C0 ops T o with
  | none=>False
  | some false=>YA P ql dr ops l (EL T o.dst Be) H K
  | some true=>match wQ P dr (Cf T) H o with
   | some (r,H')=>YA P ql dr ops l (EL T o.dst r) H' K
   | none=>∃r H',Y9 P ql dr (Cf T) o H r H'/\YA P ql dr ops l (EL T o.dst r) H' K
theorem VS {ql:FuncId->Bool}{ops:Array Oper}:∀(l:List Oper) (T:List AV) (H:AH) (K:List AV->AH->Prop),YA P ql false ops l T H K->∃a H',K a H'/\AOps P ops (AQ.is (.normal,a,H')) l T H
 | [],T,H,K,h=>⟨T,H,h,AOps.nil rfl⟩
 | o::l,T,H,K,h=>by
  unfold YA at h;split at h
  ·exact h.elim
  ·rename_i e;obtain⟨a,H',d,c⟩:=VS l _ _ K h;exact⟨a,H',d,AOps.unwanted e c⟩
  ·rename_i e;split at h
   ·rename_i r f i;obtain⟨a,H',d,c⟩:=VS l _ _ K h;exact⟨a,H',d,AOps.op e (by simpa[wQ]using i) c⟩
   ·obtain⟨r,f,b,h⟩:=h;obtain⟨a,H',d,c⟩:=VS l _ _ K h;unfold Y9 at b;split at b
    ·rename_i k args g;simp only[Ag3]at b;refine⟨a,H',d,AOps.call e g b.1 (b.2.mono ?_)⟩;rintro m j ⟨rfl,rfl⟩;exact c
    ·exact b.elim
theorem Afv {dr:Bool}{T:List AV}{H:AH}{o:Oper}{q:FuncId×List AV}(a:Gv (Cf T) o=some q):Ea P (Cf T) H o=none/\sC o.op=false:=by
 obtain⟨d,op,g,f,c,e⟩:=o;unfold Gv at a;split at a
 ·rename_i b;simp only at b;subst b;exact⟨rfl,rfl⟩
 ·cases a
theorem YU {ql:FuncId->Bool}{ops:Array Oper}:∀(l:List Oper) (T:List AV) (H:AH) (K:List AV->AH->Prop),YA P ql true ops l T H K->∃q c H',K c H'/\TraceR P ql ops l T H q c H'
 | [],T,H,K,h=>⟨[],T,H,h,.nil _ _⟩
 | o::l,T,H,K,h=>by
  have y:iA P (λ_ _=>none):=λ_ _ _ h=>by cases h
  have z:nI P (λ_ _ _=>none):=λ_ _ _ _ _ h=>by cases h
  unfold YA at h;split at h
  ·exact h.elim
  ·rename_i m;obtain⟨q,c,H',i,g⟩:=YU l _ _ K h;exact⟨_,c,H',i,.skip m g⟩
  ·rename_i m;split at h
   ·rename_i r u j;obtain⟨q,c,H',i,g⟩:=YU l _ _ K h;refine⟨_,c,H',i,.step m ⟨λ_ _=>none,λ_ _ _=>none,y,z,?_⟩ g⟩;unfold wQ at j;simp only[As5]at j;unfold stepD;split at j
    ·rename_i n;split
     ·exact j
     ·rename_i B;exfalso
      revert n
      unfold sC;split
      ·rename_i b;exact λ_=>B _ _ _ b
      ·simp
    ·rename_i n;split
     ·rename_i b;rw[b]at n;simp[sC]at n
     ·have C:C4 ql o.op=false:=by
       cases e:C4 ql o.op with
       | false=>rfl
       | true=>
        exfalso;obtain⟨J,op,N,M,I,L⟩:=o;unfold C4 at e;split at e
        ·rename_i x;simp only at x;subst x;cases j
        ·cases e
      rw[if_neg (by simp[C]),j]
   ·obtain⟨r,u,d,h⟩:=h;obtain⟨q,c,H',i,g⟩:=YU l _ _ K h;unfold Y9 at d;split at d
    ·rename_i k args s;obtain⟨w,d⟩:=d;obtain⟨E,p⟩:=Afv (P:=P) (dr:=true) (H:=H) s;simp only[As5]at d;split at d
     ·rename_i e;obtain⟨D,rfl⟩:=d
      classical
      refine⟨_,c,H',i,.step m ⟨λf a=>if f=k/\a=args then some r else none,λ_ _ _=>none,?_,z,?_⟩ g⟩
      ·intro f a F b;dsimp only at b;split at b
       ·rename_i t;injection b with b;obtain⟨rfl,rfl⟩:=t;subst b;exact⟨w,D⟩
       ·cases b
      ·unfold stepD;split
       ·rename_i b;rw[b]at p;cases p
       ·rw[if_pos e,s];simp
     ·rename_i e
      classical
      refine⟨_,c,H',i,.step m ⟨λ_ _=>none,λf a v=>if f=k/\a=args/\v=H then some (r,u)else none,y,?_,?_⟩ g⟩
      ·intro f a v F G b;dsimp only at b;split at b
       ·rename_i t;injection b with b;injection b with b A;obtain⟨rfl,rfl,rfl⟩:=t;subst b;subst A;exact d
       ·cases b
      ·unfold stepD;split
       ·rename_i b;rw[b]at p;cases p
       ·rw[if_neg e,E,s];simp[w]
    ·exact d.elim
def pV (ql:FuncId->Bool)(ops:List Oper):Nat->Option Nat
 | 0=>none
 | m+1=>if Sd ql ops m then some m else pV ql ops m
theorem tL {ql:FuncId->Bool}{ops:List Oper}{tr:List (AV×AH)}{H:AH}:∀m,hs ql ops tr H (λ_=>true) m=match pV ql ops m with
  | some c=>Hm tr c
  | none=>H
 | 0=>rfl
 | m+1=>by
  simp only[hs,pV,As5];by_cases h:Sd ql ops m=true
  ·rw[if_pos h,if_pos h]
  ·rw[if_neg h,if_neg h];exact tL m
def pF (ql:FuncId->Bool)(ops:List Oper):List (Nat×Option Nat):=
 let b:=Gy ops []
 let a:=none::((List.range ops.length).filter (Sd ql ops)).map some
 (List.range ops.length).flatMap λi=>match ops[i]? with
  | some o=>if M2 ql o.op&&!Ue o.op&&!C4 ql o.op then(a.filter λc=>YJ ql ops b i c&&decide (c≠pV ql ops i)).map (i,·)else []
  | none=>[]
def FloatsOk (P:Program)(ops:Array Oper)(H:AH)(a:List (List AV×AH×AV)):List (Nat×Option Nat)->Prop
 | []=>True
 | (i,c)::r=>(match ops[i]?,a[i]? with
  | some o,some (Ti,_,v)=>C0 ops Ti o=some true->(Ea P (Cf Ti) (match c with
   | some c=>((a[c]?).map (·.2.1)).getD []
   | none=>H) o).map Prod.fst=some v
  | _,_=>False)/\FloatsOk P ops H a r
theorem FloatsOk.mem {ops:Array Oper}{H:AH}{f:List (List AV×AH×AV)}:∀{fl:List (Nat×Option Nat)},FloatsOk P ops H f fl->∀{i:Nat} {c:Option Nat},(i,c)∈fl->∃o a h v,ops[i]?=some o/\f[i]?=some (a,h,v)/\
  (C0 ops a o=some true->(Ea P (Cf a) (match c with
   | some c=>((f[c]?).map (·.2.1)).getD []
   | none=>H) o).map Prod.fst=some v)
 | (i,c)::r,h,j,d,e=>by
  simp only[FloatsOk]at h;rcases Al3.1 e with k | e
  ·injection k with b g;subst b;subst g;have b:=h.1;split at b
   ·rename_i o a l v n m;exact⟨o,a,l,v,n,m,b⟩
   ·exact b.elim
  ·exact h.2.mem e
def Qw:List Oper->List (AV×AH)->List AV->List (List AV×AH×AV)
 | o::l,(r,h)::tr,T=>(T,h,r)::Qw l tr (EL T o.dst r)
 | _,_,_=>[]
theorem tQ {ops:List Oper}{tr:List (AV×AH)}{T:List AV}:∀(l:List Oper) (a:List (AV×AH)) (k:Nat) (Tk:List AV),(∀(j:Nat) (o:Oper),l[j]?=some o->ops[k+j]?=some o)->(∀j,a[j]?=tr[k+j]?)->
  pt ops (Cw tr) (λ_=>true) T k=Tk->∀(j:Nat) (x:List AV×AH×AV),(Qw l a Tk)[j]?=some x->x=(pt ops (Cw tr) (λ_=>true) T (k+j),Hm tr (k+j),Cw tr (k+j))
 | [],a,k,Tk,hl,ht,hT,j,x,h=>by simp[Qw]at h
 | o::l,[],k,Tk,hl,ht,hT,j,x,h=>by simp[Qw]at h
 | o::l,(r,H')::a,k,Tk,hl,ht,hT,j,x,h=>by
  simp only[Qw]at h;have b:=ht 0;simp only[Ai7]at b;have c:Cw tr k=r:=by unfold Cw;rw[<- b];rfl
  have d:Hm tr k=H':=by unfold Hm;rw[<- b];rfl
  cases j with
  | zero=>simp only[BH]at h;injection h with h;rw[<- h,Ao8,hT,c,d]
  | succ j=>
   have f:ops[k]?=some o:=by simpa using hl 0 o rfl
   rw[show k+(j+1)=k+1+j by omega]
   refine tQ l a (k+1) (EL Tk o.dst r) (λj g e=>by
     rw[show k+1+j=k+(j+1) by omega];exact hl (j+1) g (by simpa using e)) (λj=>by
     have:=ht (j+1);rw[show k+1+j=k+(j+1) by omega,<- this];simp) (by
     simp only[pt,if_true];rw[hT,c];simp[Pe,f]) j x (by simpa using h)
theorem Amp {ql:FuncId->Bool}{ops:Array Oper}{l:List Oper}{T b:List AV}{H H':AH}{a:List (AV×AH)}(h:TraceR P ql ops l T H a b H'):(Qw l a T).length=l.length:=by
 induction h with
 | nil=>rfl
 | skip hw hr ih=>simp only[Qw,Al4,ih]
 | step hw hs hr ih=>simp only[Qw,Al4,ih]
def Vr (P:Program)(ql:FuncId->Bool)(ops:Array Oper)(a:AH)(fl:List (Nat×Option Nat)):List Oper->List AV->AH->List (List AV×AH×AV)->(List AV->AH->Prop)->Prop
 | [],T,H,lg,K=>FloatsOk P ops a lg.reverse fl/\K T H
 | o::l,T,H,lg,K=>match C0 ops T o with
  | none=>False
  | some false=>Vr P ql ops a fl l (EL T o.dst Be) H ((T,H,Be)::lg) K
  | some true=>match wQ P true (Cf T) H o with
   | some (r,H')=>Vr P ql ops a fl l (EL T o.dst r) H' ((T,H',r)::lg) K
   | none=>∃r H',Y9 P ql true (Cf T) o H r H'/\Vr P ql ops a fl l (EL T o.dst r) H' ((T,H',r)::lg) K
theorem gU {ql:FuncId->Bool}{ops:Array Oper}{A:AH}{fl:List (Nat×Option Nat)}:∀(l:List Oper) (T:List AV) (H:AH) (u:List (List AV×AH×AV)) (K:List AV->AH->Prop),Vr P ql ops A fl l T H u K->
  ∃q d H',K d H'/\TraceR P ql ops l T H q d H'/\FloatsOk P ops A (u.reverse++Qw l q T) fl
 | [],T,H,u,K,h=>⟨[],T,H,h.2,.nil _ _,by simpa[Qw]using h.1⟩
 | o::l,T,H,u,K,h=>by
  unfold Vr at h;split at h
  ·exact h.elim
  ·rename_i j;obtain⟨q,d,H',p,m,n⟩:=gU l _ _ _ K h;exact⟨_,d,H',p,.skip j m,by simpa[Qw]using n⟩
  ·rename_i j;split at h
   ·rename_i r s g;obtain⟨q,d,H',p,m,n⟩:=gU l _ _ _ K h;obtain⟨Z,Q,w,b,x⟩:=YU (P:=P) (ql:=ql) (ops:=ops) [o] T H (λd H'=>d=EL T o.dst r/\H'=s) (by unfold YA;rw[j];simp only[g];unfold YA;exact⟨rfl,rfl⟩);cases x with
    | skip hw' _=>rw[j]at hw';cases hw'
    | step hw' hs hr=>
     cases hr;obtain⟨V,rfl⟩:=b;rename_i M;have hr:M=r:=by
      obtain⟨Y,S,D,e,c⟩:=hs;unfold wQ at g;unfold stepD at c;simp only[As5]at g;split at g
      ·rename_i t;split at c
       ·rw[g]at c;injection c with c;injection c with b _;exact b.symm
       ·rename_i E;exfalso
        revert t
        unfold sC;split
        ·rename_i b;exact λ_=>E _ _ _ b
        ·simp
      ·rename_i t;split at c
       ·rename_i b;rw[b]at t;simp[sC]at t
       ·have F:C4 ql o.op=false:=by
         cases i:C4 ql o.op with
         | false=>rfl
         | true=>
          exfalso;obtain⟨U,op,aa,X,R,W⟩:=o;unfold C4 at i;split at i
          ·rename_i C;simp only at C;subst C;cases g
          ·cases i
        rw[if_neg (by simp[F]),g]at c;injection c with c;injection c with b _;exact b.symm
     subst hr;exact⟨_,d,H',p,.step j hs m,by simpa[Qw]using n⟩
   ·rename_i g;obtain⟨r,s,e,h⟩:=h;obtain⟨q,d,H',p,m,n⟩:=gU l _ _ _ K h;have G:∃pure call,iA P pure/\nI P call/\stepD P ql pure call T H o=some (r,s):=by
     have J:iA P (λ_ _=>none):=λ_ _ _ h=>by cases h
     have L:nI P (λ_ _ _=>none):=λ_ _ _ _ _ h=>by cases h
     unfold Y9 at e;split at e
     ·rename_i k args y;obtain⟨B,e⟩:=e;obtain⟨I,v⟩:=Afv (P:=P) (dr:=true) (H:=H) y;simp only[As5]at e;split at e
      ·rename_i i;obtain⟨D,rfl⟩:=e
       classical
       refine⟨λf a=>if f=k/\a=args then some r else none,λ_ _ _=>none,?_,L,?_⟩
       ·intro f a N b;dsimp only at b;split at b
        ·rename_i z;injection b with b;obtain⟨rfl,rfl⟩:=z;subst b;exact⟨B,D⟩
        ·cases b
       ·unfold stepD;split
        ·rename_i b;rw[b]at v;cases v
        ·rw[if_pos i,y];simp
      ·rename_i i
       classical
       refine⟨λ_ _=>none,λf a w=>if f=k/\a=args/\w=H then some (r,s)else none,J,?_,?_⟩
       ·intro f a w N O b;dsimp only at b;split at b
        ·rename_i z;injection b with b;injection b with b x;obtain⟨rfl,rfl,rfl⟩:=z;subst b;subst x;exact e
        ·cases b
       ·unfold stepD;split
        ·rename_i b;rw[b]at v;cases v
        ·rw[if_neg i,I,y];simp[B]
     ·exact e.elim
    exact⟨_,d,H',p,.step j G m,by simpa[Qw]using n⟩
def BCode (P:Program)(c:Code)(T:List AV)(H:AH)(e:Exit)(a:List AV)(H':AH):Prop:=ACode P c (AQ.is (e,a,H')) T H
abbrev Ar8:=@List.mem_filter
theorem BCode.draw (ql:FuncId->Bool){id:Nat}{ops:List Oper}{T:List AV}{H:AH}{fl:List (Nat×Option Nat)}{K:List AV->AH->Prop}(X:P.follows .mixedOrders=true)(hs:(U8 ops&&dI ql ops&&decide (pF ql ops=fl))=true)(h:Vr P ql ops.toArray H fl ops T H [] K):
  ∃e H',K e H'/\BCode P (.region id ops.toArray true) T H .normal e H':=by
 simp only[Am0,decide_eq_true_eq]at hs;obtain⟨⟨ad,ae⟩,rfl⟩:=hs;obtain⟨a,e,H',U,w,z⟩:=gU _ _ _ _ _ h;have V:=Amp w;obtain⟨s,t,l⟩:=Amm (ops:=ops) (T:=T) (H:=H) (tr:=a) ops a 0 T H e H' (λj o p=>by simpa using p) (λj=>by simp) rfl rfl w;simp only[Ar4]at s t l;refine⟨e,H',U,Amo X ad ae (λi o R=>l i o R) ?_ (by rw[s,t];rfl)⟩;intro i o g G x E J c y Z;have S:=(BG.1 g).1;have q:=tQ (ops:=ops) (tr:=a) (T:=T) ops a 0 T (λj o p=>by simpa using p) (λj=>by simp) rfl;simp only[Ar4]at q;simp only[List.reverse_nil,Ao4]at z;by_cases A:c=pV ql ops i
 ·obtain⟨b,k,-,L⟩:=l i o g;rw[J]at k;injection k with k;obtain⟨pu,cl,ab,aj,I⟩:=L k.symm;rw[tL]at I;have:=A;subst this;obtain⟨_,f | ⟨F,_⟩ | ⟨f,_,_⟩⟩:=Tq ab G I
  ·exfalso;obtain⟨ah,op,al,ak,ag,ai⟩:=o;unfold I6 at f;split at f
   ·rename_i D;simp only at D;subst D;simp[Ue]at x
   ·cases f
  ·rw[E]at F;cases F
  ·exact⟨_,f⟩
 ·have Y:(i,c)∈pF ql ops:=by
   unfold pF;simp only;refine List.mem_flatMap.2 ⟨i,As1.2 S,?_⟩;rw[g];simp only[G,x,E,Ac7,Bool.and_self];refine Am5.2 ⟨c,Ar8.2 ⟨?_,by simp[Z,A]⟩,rfl⟩;rcases y with rfl | ⟨d,rfl,N,M⟩
   ·simp
   ·simp[Ar8,N,M]
  obtain⟨o',Ti,hh,v,C,W,af⟩:=z.mem Y;have aa:o'=o:=by
   have:ops.toArray[i]?=some o:=by simpa using g
   rw[this]at C;injection C with h;exact h.symm
  subst aa;have:=q i _ W;simp only[Ao1]at this;obtain⟨rfl,-,rfl⟩:=this;have hv:=af J;obtain⟨⟨r2,r⟩,m,u⟩:=Option.map_eq_some_iff.1 hv;simp only at u;subst u;cases c with
  | none=>exact⟨r,m⟩
  | some d=>
   rcases y with h | ⟨d',n,O,-⟩
   ·cases h
   ·injection n with n;subst n;have B:d<(Qw ops a T).length:=by rw[V];exact O
    have Q:=q d _ (Dq B);have:(((Qw ops a T)[d]?).map (·.2.1)).getD []=Hm a d:=by rw[Dq B,Q];rfl
    simp only[this]at m;exact⟨r,m⟩
end
end
section
section
variable {P : Program}
def BRounds (P:Program)(b:Code)(e:Exit)(c:List AV)(H':AH):Nat->List AV->AH->Prop
 | 0,_,_=>False
 | n+1,T,H=>(∃d a,BCode P b T H .normal d a/\BRounds P b e c H' n d a)\/(e≠.normal/\BCode P b T H e c H')
theorem BRounds.code {b:Code}{e:Exit}{l:List AV}{H':AH}{n:Nat}{T:List AV}{H:AH}(h:BRounds P b e l H' n T H):BCode P (.loop b) T H e l H':=by
 intro G0 G a ρ p q s r;refine wpIn_loop_rounds n ?_
 induction n generalizing T H G a with
 | zero=>exact h.elim
 | succ n ih=>
  rw[roundsIn_succ];rcases h with⟨z,y,j,hr⟩ | ⟨w,j⟩
  ·refine Code.wpIn_mono ?_ (j G0 G a ρ p q s r);rintro o m x ⟨v,u,d,rfl,f,g,k,i,c⟩;simp only[AQ.is,Ao1]at c;obtain⟨rfl,rfl,rfl⟩:=c;exact ih hr d m f g k i
  ·refine Code.wpIn_mono ?_ (j G0 G a ρ p q s r);rintro o m x ⟨v,u,d,rfl,f,g,k,i,c⟩;have t:=c;simp only[AQ.is,Ao1]at t;obtain⟨rfl,rfl,rfl⟩:=t;cases o with
   | normal=>exact absurd rfl w
   | _=>exact⟨_,_,d,rfl,f,g,k,i,c⟩
def Amq (P:Program)(b:Code)(T:List AV)(H:AH)(K:Exit->List AV->AH->Prop):Prop:=∃e a H' n,K e a H'/\BRounds P b e a H' n T H
abbrev Dd:=Nat->List (Nat×Option Nat)
def Hl (fl:Dd)(ql:FuncId->Bool):Code->Bool
 | .region id ops true=>U8 ops.toList&&dI ql ops.toList&&decide (pF ql ops.toList=fl id)
 | .seq a b=>Hl fl ql a&&Hl fl ql b
 | .cond _ a b=>Hl fl ql a&&Hl fl ql b
 | .block _ b=>Hl fl ql b
 | .loop b=>Hl fl ql b
 | _=>true
def aF (P:Program)(fl:Dd)(ql:FuncId->Bool):Code->List AV->AH->(Exit->List AV->AH->Prop)->Prop
 | .skip,T,H,K=>K .normal T H
 | .label _,T,H,K=>K .normal T H
 | .ret,T,H,K=>K .ret T H
 | .exit id,T,H,K=>K (.exit id) T H
 | .region _ ops false,T,H,K=>YA P ql false ops ops.toList T H (K .normal)
 | .region id ops true,T,H,K=>match fl id with
  | []=>YA P ql true ops ops.toList T H (K .normal)
  | f=>Vr P ql ops H f ops.toList T H [] (K .normal)
 | .seq a b,T,H,K=>aF P fl ql a T H λe d H'=>match e with
  | .normal=>aF P fl ql b d H' K
  | e=>K e d H'
 | .cond c a b,T,H,K=>match Cf T c with
  | .lit (.bool t)=>if t then aF P fl ql a T H K else aF P fl ql b T H K
  | _=>False
 | .block id b,T,H,K=>aF P fl ql b T H λe d H'=>match e with
  | .exit j=>if j=id then K .normal d H' else K (.exit j) d H'
  | e=>K e d H'
 | .loop b,T,H,K=>Amq P b T H K
 | _,_,_,_=>False
theorem gV {ql:FuncId->Bool}{ops:Array Oper}{b:AH}:∀(l:List Oper) (T:List AV) (H:AH) (a:List (List AV×AH×AV)) (K:List AV->AH->Prop),YA P ql true ops l T H K->Vr P ql ops b [] l T H a K
 | [],T,H,a,K,h=>⟨trivial,h⟩
 | o::l,T,H,a,K,h=>by
  unfold YA at h;unfold Vr;split at h
  ·exact h.elim
  ·exact gV l _ _ _ K h
  ·split at h
   ·exact gV l _ _ _ K h
   ·obtain⟨r,c,d,h⟩:=h;exact⟨r,c,d,gV l _ _ _ K h⟩
theorem Sc {fl:Dd}{ql:FuncId->Bool}(m:P.follows .mixedOrders=true):∀(c:Code) (T:List AV) (H:AH) (K:Exit->List AV->AH->Prop),Hl fl ql c=true->aF P fl ql c T H K->∃e l H',K e l H'/\BCode P c T H e l H'
 | .skip,T,H,K,_,h=>⟨_,_,_,h,ACode.skip rfl⟩
 | .label _,T,H,K,_,h=>⟨_,_,_,h,ACode.label rfl⟩
 | .ret,T,H,K,_,h=>⟨_,_,_,h,ACode.ret rfl⟩
 | .exit id,T,H,K,_,h=>⟨_,_,_,h,ACode.exit rfl⟩
 | .region id u false,T,H,K,_,h=>by obtain⟨l,H',d,f⟩:=VS _ _ _ _ h;exact⟨_,l,H',d,ACode.region f⟩
 | .region id u true,T,H,K,hc,h=>by
  obtain⟨l,H',d,f⟩:=BCode.draw (P:=P) ql (id:=id) (ops:=u.toList) (fl:=fl id) m (by simpa only[Hl]using hc) (by
   simp only[aF]at h;split at h
   ·rename_i A;rw[A];exact gV _ _ _ _ _ h
   ·exact h)
  exact⟨_,l,H',d,by simpa using f⟩
 | .seq a b,T,H,K,hc,h=>by
  simp only[Hl,Am0]at hc;obtain⟨e,k,i,d,f⟩:=Sc m a T H _ hc.1 h;cases e with
  | normal=>
   obtain⟨e,y,x,d,z⟩:=Sc m b k i K hc.2 d;refine⟨e,y,x,d,ACode.seq (f.mono ?_)⟩;rintro q p o g;simp only[AQ.is,Ao1]at g;obtain⟨rfl,rfl,rfl⟩:=g;exact z
  | _=>
   refine⟨_,k,i,d,ACode.seq (f.mono ?_)⟩;rintro q p o g;have v:=g;simp only[AQ.is,Ao1]at v;obtain⟨rfl,rfl,rfl⟩:=v;exact g
 | .cond c a b,T,H,K,hc,h=>by
  simp only[Hl,Am0]at hc;unfold aF at h;split at h
  ·rename_i t w;split at h
   ·rename_i s;obtain⟨e,k,i,d,f⟩:=Sc m a T H K hc.1 h;refine⟨e,k,i,d,ACode.cond w ?_⟩;rw[if_pos s];exact f
   ·rename_i s;obtain⟨e,k,i,d,f⟩:=Sc m b T H K hc.2 h;refine⟨e,k,i,d,ACode.cond w ?_⟩;rw[if_neg s];exact f
  ·exact h.elim
 | .block id b,T,H,K,hc,h=>by
  simp only[Hl]at hc;obtain⟨e,k,i,d,f⟩:=Sc m b T H _ hc h;cases e with
  | exit j=>
   simp only at d;split at d
   ·rename_i r;refine⟨_,k,i,d,ACode.block (f.mono ?_)⟩;rintro q p o g;simp only[AQ.is,Ao1]at g;obtain⟨rfl,rfl,rfl⟩:=g;simp only[AQ.inBlock,if_pos r];rfl
   ·rename_i r;refine⟨_,k,i,d,ACode.block (f.mono ?_)⟩;rintro q p o g;simp only[AQ.is,Ao1]at g;obtain⟨rfl,rfl,rfl⟩:=g;simp only[AQ.inBlock,if_neg r];rfl
  | _=>
   refine⟨_,k,i,d,ACode.block (f.mono ?_)⟩;rintro q p o g;simp only[AQ.is,Ao1]at g;obtain⟨rfl,rfl,rfl⟩:=g;rfl
 | .loop b,T,H,K,hc,h=>by obtain⟨e,l,H',n,d,hr⟩:=h;exact⟨e,l,H',d,hr.code⟩
 | .rangeFunc ..,_,_,_,_,h=>h.elim
 | .scope _,_,_,_,_,h=>h.elim
 | .goto _,_,_,_,_,h=>h.elim
 | .refuse _,_,_,_,_,h=>h.elim
def Acm (P:Program)(res:List ResultVar)(K:AV->AH->Prop)(e:Exit)(T:List AV)(H:AH):Prop:=
 zY e=true/\match iF P H T res with
  | some xs=>K (tY xs) H
  | none=>False
end
end
section
def bO (x:Option AV)(K:AV->Prop):Prop:=match x with
 | some v=>K v
 | none=>False
def bH (x:Option (AV×AH))(K:AV->AH->Prop):Prop:=match x with
 | some (v,H)=>K v H
 | none=>False
def bS (x:Option AH)(K:AH->Prop):Prop:=match x with
 | some H=>K H
 | none=>False
def bB (v:AV)(K:Bool->Prop):Prop:=match v with
 | .lit (.bool b)=>K b
 | _=>False
def bI (b:Bool)(A B:Prop):Prop:=match b with
 | true=>A
 | false=>B
def bC (R:AV->AH->Prop)(K:AV->AH->Prop):Prop:=∃r H',R r H'/\K r H'
def bP (R:AV->Prop)(K:AV->Prop):Prop:=∃r,R r/\K r
def bF (w:Bool)(f:AV)(K:FuncId->List AV->List AV->Prop):Prop:=match f with
 | .fn (.func k) a b=>K k a b
 | _=>match w with
  | true=>False
  | false=>K 0 [] []
def bG (v:AV)(a:Bool)(K:Bool->Prop):Prop:=match v with
 | .lit (.bool b)=>K (b==a)
 | .lit _=>K false
 | _=>False
def gO (w:Bool)(x:Option AV)(K:AV->Prop):Prop:=match w with
 | true=>bO x K
 | false=>K Be
def gH (w:Bool)(x:Option (AV×AH))(H:AH)(K:AV->AH->Prop):Prop:=match w with
 | true=>bH x K
 | false=>K Be H
def gS (w:Bool)(x:Option AH)(H:AH)(K:AH->Prop):Prop:=match w with
 | true=>bS x K
 | false=>K H
def gC (w:Bool)(R:AV->AH->Prop)(H:AH)(K:AV->AH->Prop):Prop:=match w with
 | true=>bC R K
 | false=>K Be H
def gP (w:Bool)(R:AV->Prop)(K:AV->Prop):Prop:=match w with
 | true=>bP R K
 | false=>K Be
def bA (C:(AV->AH->Prop)->Prop)(K:AV->AH->Prop):Prop:=∃R,C R/\∀r H',R r H'->K r H'
def gA (w:Bool)(C:(AV->AH->Prop)->Prop)(H:AH)(K:AV->AH->Prop):Prop:=match w with
 | true=>bA C K
 | false=>K Be H
def ExtR (P:Program)(k:FuncId)(args:List AV)(H:AH)(r:AV):Prop:=∀(G:Cfg) (a:List Value),HR G H->VRs G args a->∃u,(callFunc k a.toArray).run P G.w=.ok (.value u) G.w/\VR G r u
def Aw:Nat->Bool:=λ_=>false
def bT (b:Bool)(A:Prop):Prop:=match b with
 | true=>A
 | false=>False
def A0 (c a b:AV):Option AV:=match c with
 | .lit (.bool t)=>some (if t then a else b)
 | _=>none
def ZP (cells:List AV):List (Nat×Nat×AV)->Option (List AV)
 | []=>some cells
 | (off,size,v)::rest=>match Cy v with
  | some xs=>if xs.length=size/\off+size<=cells.length then ZP (Bb cells off xs) rest else none
  | none=>none
def jT (a:Nat->Option (Nat×Nat))(ρ:Operand->AV):List (Nat×Operand)->Option (List (Nat×Nat×AV))
 | []=>some []
 | (i,x)::r=>match a i,jT a ρ r with
  | some (o,s),some l=>some ((o,s,ρ x)::l)
  | _,_=>none
theorem YP {a:Nat->Option (Nat×Nat)}{ρ:Operand->AV}:∀(b:List (Nat×Operand)) (l:List (Nat×Nat×AV)) (cells:List AV),jT a ρ b=some l->PU a cells (b.map λp=>(p.1,ρ p.2))=ZP cells l
 | [],l,cells,h=>by simp only[jT]at h;injection h with h;subst h;rfl
 | (i,x)::r,l,cells,h=>by
  simp only[jT]at h;split at h
  ·rename_i o s e c d;injection h with h;subst h;simp only[Aq7,PU,ZP,c];cases f:Cy (ρ x)with
   | none=>rfl
   | some xs=>
    simp only;split
    ·exact YP r e _ d
    ·rfl
  ·cases h
def Dy (zc:List AV)(l:List (Nat×Nat×AV)):Option AV:=(ZP zc l).map .agg
def Adr (P:Program)(t:TypeId):Option (List AV×(Nat->Option (Nat×Nat))):=
 match aE P t,P.underlying t with
 | some z,some (.struct fields)=>match fields.toList.all λf=>(Dc P f.type).isSome with
  | true=>some (z.cells.toList.map .lit,λi=>(fields[i]?).bind λf=>(Dc P f.type).map λn=>(f.offset,n))
  | false=>none
 | some z,some (.array _ e)=>match Dc P e with
  | some sz=>some (z.cells.toList.map .lit,λi=>some (i*sz,sz))
  | none=>none
 | _,_=>none
theorem Amr {P:Program}{t:TypeId}{zc:List AV}{g:Nat->Option (Nat×Nat)}(h:Adr P t=some (zc,g))(f:List (Nat×AV)):nN P t f=(PU g zc f).map .agg:=by
 unfold Adr at h;unfold nN;split at h
 ·rename_i z j d c;rw[d,c];simp only;split at h
  ·rename_i i;injection h with h;injection h with a b;subst a;subst b;rw[if_pos i]
  ·cases h
 ·rename_i z n e d c;rw[d,c];simp only;split at h
  ·rename_i sz hs;injection h with h;injection h with a b;subst a;subst b;rw[hs]
  ·cases h
 ·cases h
def oK (P:Program)(t:TypeId):Option (Nat×Nat×List AV):=
 match P.underlying t with
 | some (.slice e)=>match P.info? e with
  | some i=>match i.zero with
   | some z=>match !(Nat.beq i.size 0)&& !(Nat.beq i.bytes 0)&&Nat.beq z.cells.size i.size&&Xh z with
    | true=>some (i.size,i.bytes,z.cells.toList.map .lit)
    | false=>none
   | none=>none
  | none=>none
 | _=>none
theorem X3 {P:Program}{t:TypeId}{sz c:Nat}{zc:List AV}(h:oK P t=some (sz,c,zc)):
  ∃e i z,P.underlying t=some (.slice e)/\P.info? e=some i/\i.zero=some z/\i.size=sz/\i.bytes=c/\z.cells.toList.map .lit=zc/\sz≠0/\c≠0/\z.cells.size=sz/\Xh z=true:=by
 unfold oK at h;split at h
 ·rename_i e o;split at h
  ·rename_i i n;split at h
   ·rename_i z p;split at h
    ·rename_i k;injection h with h;injection h with f a;injection a with a m;simp only[Ad6]at k;obtain⟨⟨⟨g,j⟩,b⟩,l⟩:=k;have b:=Aq3 b;refine⟨e,i,z,o,n,p,f,a,m,?_,?_,by rw[<- f];exact b,l⟩
     ·rw[<- f];exact λd=>by rw[d]at g;cases g
     ·rw[<- a];exact λd=>by rw[d]at j;cases j
    ·cases h
   ·cases h
  ·cases h
 ·cases h
def Co (H:AH)(size len:Nat)(cells:List AV)(l:List (Nat×Nat×AV)):Option (AV×AH):=(ZP cells l).map λcs=>(.sl H.length 0 len size (.ex len),H++[some (.cells cs)])
def W6 (size len:Nat)(cells:List AV)(l:List (Nat×Nat×AV)):Option AV:=(ZP cells l).map λcs=>.imm cs len size
def Aq (g:Bool)(n:Nat)(H:AH)(a:AV):Option AV:=match a with
 | .ptr o off=>match H[o]? with
  | some (some (.cells cs))=>A1 g n cs off
  | _=>none
 | .ip cs=>A1 g n cs 0
 | _=>none
def AU (n:Nat)(H:AH)(a x:AV):Option AH:=match Cy x,a with
 | some xs,.ptr o off=>match H[o]? with
  | some (some (.cells cs))=>if xs.length=n/\off+n<=cs.length then some (H.set o (some (.cells (Bb cs off xs))))else none
  | _=>none
 | _,_=>none
def Ar (op:BinOp)(x y:AV):Option AV:=match x,y with
 | .lit (.int k a),.lit (.int k' b)=>match op with
  | .shl | .shr=>(Xn op k a b).map .lit
  | _=>if k=k' then(Ls op k a b).map .lit else none
 | _,_=>none
def OX (op:BinOp)(x y:AV):Option AV:=match x,y with
 | .lit (.string a),.lit (.string b)=>(kJ op a b).map .lit
 | _,_=>none
def Acn (op:BinOp)(e:Option Bool):Option AV:=match op with
 | .eql=>e.map λb=>.lit (.bool b)
 | .neq=>e.map λb=>.lit (.bool !b)
 | _=>none
def Abo (op:BinOp)(x y:AV):Option AV:=match x,y with
 | .lit (.bool a),.lit (.bool b)=>Acn op (some (a==b))
 | _,_=>none
def vA (op:BinOp)(f:AV->Option Bool)(x y:AV):Option AV:=match x,y with
 | .agg _,.agg _=>none
 | .lit .nilIface,_ | _,.lit .nilIface=>none
 | x,y=>Acn op (My (f x) (f y))
inductive CK where
 | int (k:IntKind)
 | str
 | ofB
 | toB
 | same
def Aco (P:Program)(s d:TypeId):Option CK:=
 match P.underlying d,P.underlying s with
 | some (.int k),some _=>some (.int k)
 | some .string,some .string=>some .str
 | some .string,some (.slice e)=>match P.underlying e with
  | some (.int .u8)=>some .ofB
  | _=>none
 | some (.slice e),some .string=>match P.underlying e with
  | some (.int .u8)=>some .toB
  | _=>none
 | some (.slice e),some (.slice _)=>match Nat.beq s d,P.underlying e with
  | true,some (.int .u8)=>some .same
  | _,_=>none
 | _,_=>none
def Aah (k:IntKind)(x:AV):Option AV:=match x with
 | .lit (.int _ n)=>some (.lit (.int k (k.wrap n)))
 | _=>none
def acS (x:AV):Option AV:=match x with
 | .lit (.string s)=>some (.lit (.string s))
 | _=>none
def Aap (H:AH)(x:AV):Option AV:=match x with
 | .lit (.string _)=>none
 | x=>match Ac H 1 x with
  | some (cs,_)=>(Xp cs).map λa=>.lit (.string (fK a))
  | none=>none
def acT (x:AV):Option AV:=match x with
 | .lit (.string s)=>some (.imm (s.data.toList.map λb=>.lit (.int .u8 b.toNat)) s.size 1)
 | _=>none
def Abp (sz bytes:Nat)(zc:List AV)(H:AH)(l c:AV):Option (AV×AH):=match l,c with
 | .lit (.int _ n),.lit (.int _ m)=>if 0<=n/\n<=m/\(bytes:Int)*m<=281474976710656/\m<=9223372036854775807 then
   some (.sl H.length 0 n.toNat sz (.ex m.toNat),H++[some (.cells (Bx zc m.toNat))])else none
 | _,_=>none
def OI (x:AV)(lo hi:Option AV):Option AV:=match x with
 | .lit (.string s)=>match BL lo 0,BL hi s.size with
  | some l,some h=>if l<=h/\h<=s.size then some (.lit (.string (s.extract l h)))else none
  | _,_=>none
 | _=>none
def Bq (sz:Nat)(x:AV)(lo hi a:Option AV):Option AV:=match x with
 | .sl o off len esz cap=>if sz≠esz then none else
   match BL lo 0,BL hi len,a with
   | some l,some h,none=>if l<=h/\h<=max len cap.least then some (.sl o (off+l*esz) (h - l) esz (cap.cut len l))else none
   | some l,some h,some m=>match BL (some m) 0 with
    | some m=>if l<=h/\h<=m/\m<=max len cap.least/\hi.isSome then some (.sl o (off+l*esz) (h - l) esz (.ex (m - l)))else none
    | none=>none
   | _,_,_=>none
 | .imm cs len esz=>match BL lo 0,BL hi len,a with
   | some l,some h,none=>if l<=h/\h<=len then some (.imm ((cs.drop (l*sz)).take ((h - l)*sz)) (h - l) esz)else none
   | some l,some h,some m=>match BL (some m) 0 with
    | some m=>if l<=h/\h<=m/\m<=len/\hi.isSome then some (if m=l then .emp else .imm ((cs.drop (l*sz)).take ((h - l)*sz)) (h - l) esz)else none
    | none=>none
   | _,_,_=>none
 | .emp=>match BL lo 0,BL hi 0,a with
   | some 0,some 0,none=>some .emp
   | _,_,_=>none
 | .lit (.slice none 0 0)=>match BL lo 0,BL hi 0,a with
   | some 0,some 0,none=>some (.lit (.slice none 0 0))
   | _,_,_=>none
 | _=>none
def Ty (n sz:Nat)(H:AH)(x:AV)(lo hi:Option AV):Option AV:=match BL lo 0,BL hi n,x with
 | some l,some h,.ptr o off=>match H[o]? with
  | some (some (.cells cs))=>if l<=h/\h<=n/\off+n*sz<=cs.length then some (.sl o (off+l*sz) (h - l) sz (.ex (n - l)))else none
  | _=>none
 | some l,some h,.ip cs=>if l<=h/\h<=n then some (.imm ((cs.drop (l*sz)).take ((h - l)*sz)) (h - l) sz)else none
 | _,_,_=>none
def yJ (g:Bool)(n off:Nat)(x:AV):Option AV:=match x with
 | .agg cs=>A1 g n cs off
 | _=>none
def Ads (P:Program)(s:TypeId)(f:Nat):Option (Bool×Nat×Nat):=
 match P.underlying s with
 | some (.struct fields)=>match fields[f]? with
  | some fl=>match mR P fl.type,Dc P fl.type with
   | some g,some n=>some (g,n,fl.offset)
   | _,_=>none
  | none=>none
 | _=>none
def AY (sz:Nat)(x i:AV):Option AV:=match OG i with
 | none=>none
 | some n=>match x with
  | .sl o off len _ _=>if 0<=n/\n<len then some (.ptr o (off+n.toNat*sz))else none
  | .imm cs len _=>if 0<=n/\n<len then some (.ip (cs.drop (n.toNat*sz)))else none
  | _=>none
def W7 (len sz:Nat)(x i:AV):Option AV:=match OG i with
 | none=>none
 | some n=>if 0<=n/\n<len then Ab (n.toNat*sz) x else none
def Aca (g:Bool)(a len sz:Nat)(x i:AV):Option AV:=match OG i with
 | none=>none
 | some n=>if 0<=n/\n<len then yJ g a (n.toNat*sz) x else none
def N5 (x i:AV):Option AV:=match OG i with
 | none=>none
 | some n=>match x with
  | .lit (.string s)=>if 0<=n then(s[n.toNat]?).map λb=>.lit (.int .u8 b.toNat)else none
  | _=>none
def Aaw (P:Program)(t:TypeId):Option (TypeDesc×Value):=
 match P.underlying t with
 | some (.map key elem)=>match P.underlying key,aE P elem with
  | some d,some z=>some (d,z)
  | _,_=>none
 | _=>none
theorem fA {P:Program}{t:TypeId}{d:TypeDesc}{z:Value}(h:Aaw P t=some (d,z)):∃key a,P.underlying t=some (.map key a)/\P.underlying key=some d/\aE P a=some z:=by
 unfold Aaw at h;split at h
 ·rename_i key a g;split at h
  ·rename_i i j e f;injection h with h;injection h with b c;subst b;subst c;exact⟨key,a,g,e,f⟩
  ·cases h
 ·cases h
def Adt (H:AH)(l:Option AV):Option (AV×AH):=match l with
 | none=>some (.mp H.length,H++[some (.map [])])
 | some (.lit (.int _ _))=>some (.mp H.length,H++[some (.map [])])
 | _=>none
def Aal (d:TypeDesc)(z:Value)(H:AH)(x k:AV)(b:Bool):Option AV:=match dR H x,k with
 | some es,.lit kv=>if sD d kv then match Ux d kv es 0 with
   | some (some (_,a))=>some (if b then .tup [a,.lit (.bool true)]else a)
   | some none=>some (if b then .tup [.ofV z,.lit (.bool false)]else .ofV z)
   | none=>none
  else none
 | _,_=>none
def Abq (d:TypeDesc)(H:AH)(m k x:AV):Option AH:=match m,k with
 | .mp o,.lit kv=>match H[o]? with
  | some (some (.map es))=>if sD d kv then match Ux d kv es 0 with
    | some (some (j,_))=>some (H.set o (some (.map (es.set j (kv,x)))))
    | some none=>some (H.set o (some (.map (es++[(kv,x)]))))
    | none=>none
   else none
  | _=>none
 | _,_=>none
def ame (d:TypeDesc)(z:Value)(H:AH)(m k:AV):Option (AV×AH):=match m,k with
 | .mp o,.lit kv=>match H[o]? with
  | some (some (.map es))=>if sD d kv then match Ux d kv es 0 with
    | some (some (j,a))=>some (.tup [a,.lit (goInt j)],H)
    | some none=>some (.tup [.ofV z,.lit (goInt es.length)],H.set o (some (.map (es++[(kv,.ofV z)]))))
    | none=>none
   else none
  | _=>none
 | _,_=>none
inductive LK where
 | str
 | sl
 | arr (n:Nat)
 | mp
def Abr (P:Program)(t:TypeId):Option LK:=
 match P.underlying t with
 | some .string=>some .str
 | some (.slice _)=>some .sl
 | some (.array n _)=>some (.arr n)
 | some (.map _ _)=>some .mp
 | _=>none
def Ev (x:AV):Option AV:=match x with
 | .lit (.string s)=>some (.lit (.int .i64 s.size))
 | _=>none
def AW (x:AV):Option AV:=match x with
 | .sl _ _ len _ _=>some (.lit (.int .i64 len))
 | .imm _ len _=>some (.lit (.int .i64 len))
 | .lit (.slice none n _)=>some (.lit (.int .i64 n))
 | .emp=>some (.lit (.int .i64 0))
 | _=>none
def Aax (H:AH)(x:AV):Option AV:=match x with
 | .lit (.map none)=>some (.lit (.int .i64 0))
 | .mp o=>match H[o]? with
  | some (some (.map es))=>some (.lit (goInt es.length))
  | _=>none
 | _=>none
def rF (x:AV):Option AV:=match x with
 | .sl _ _ _ _ (.ex k)=>some (.lit (goInt k))
 | .lit (.slice none _ c)=>some (.lit (goInt c))
 | .emp=>some (.lit (goInt 0))
 | _=>none
def Gt (size bytes:Nat)(H:AH)(s x:AV):Option (AV×AH):=match B1 H size x with
 | none=>none
 | some (news,n)=>Sy H size bytes s news n
def Aam (zc:List AV)(H:AH)(x:AV):Option AH:=match x with
 | .lit (.slice none _ _)=>some H
 | .sl o off len esz _=>match H[o]? with
  | some (some (.cells cs))=>if zc.length=esz/\esz≠0/\off+len*esz<=cs.length then some (if len=0 then H else H.set o (some (.cells (Bb cs off (Bx zc len)))))else none
  | _=>none
 | _=>none
inductive SK where
 | str
 | sl (sz:Nat)
 | arr (n sz:Nat)
def qQ (P:Program)(t:TypeId):Option SK:=
 match P.underlying t with
 | some .string=>some .str
 | some (.slice e)=>(Dc P e).map .sl
 | some (.array n e)=>(Dc P e).map (.arr n)
 | _=>none
inductive IK where
 | sl (sz:Nat)
 | arr (n sz:Nat)
def Adu (P:Program)(t:TypeId):Option IK:=
 match P.underlying t with
 | some (.slice e)=>(Dc P e).map .sl
 | some (.array n e)=>(Dc P e).map (.arr n)
 | _=>none
inductive VK where
 | str
 | arr (g:Bool) (n len sz:Nat)
def Adv (P:Program)(t:TypeId):Option VK:=
 match P.underlying t with
 | some .string=>some .str
 | some (.array len e)=>match mR P e,Dc P e with
  | some g,some n=>some (.arr g n len n)
  | _,_=>none
 | _=>none
mutual
def Qq:AV->Bool
 | .lit _=>true
 | .agg cs=>pE cs
 | .tup cs=>pE cs
 | .emp=>true
 | _=>false
def pE:List AV->Bool
 | []=>true
 | a::r=>Qq a&&pE r
end
mutual
theorem zV {G G':Cfg}:∀{a:AV} {v:Value},Qq a=true->VR G a v->VR G' a v
 | .lit _,_,_,hv=>by simpa only[VR]using hv
 | .agg cs,v,h,hv=>by
  simp only[Qq]at h;simp only[VR]at hv|-;obtain⟨vs,e,hr⟩:=hv;exact⟨vs,e,iX h hr⟩
 | .tup cs,v,h,hv=>by
  simp only[Qq]at h;simp only[VR]at hv|-;obtain⟨vs,e,hr⟩:=hv;exact⟨vs,e,iX h hr⟩
 | .emp,_,_,hv=>by simpa only[VR]using hv
 | .ptr ..,_,h,_=>by simp[Qq]at h
 | .ip ..,_,h,_=>by simp[Qq]at h
 | .sl ..,_,h,_=>by simp[Qq]at h
 | .imm ..,_,h,_=>by simp[Qq]at h
 | .mp ..,_,h,_=>by simp[Qq]at h
 | .fn ..,_,h,_=>by simp[Qq]at h
 | .junk,_,h,_=>by simp[Qq]at h
theorem iX {G G':Cfg}:∀{as:List AV} {vs:List Value},pE as=true->VRs G as vs->VRs G' as vs
 | [],_,_,hv=>by simpa only[VRs]using hv
 | a::as,vs,h,hv=>by
  simp only[pE,Am0]at h;simp only[VRs]at hv|-;obtain⟨v,r,e,h1,h2⟩:=hv;exact⟨v,r,e,zV h.1 h1,iX h.2 h2⟩
end
section
variable {P : Program}
theorem BPure.lent {f:FuncId}{args args':List AV}{H:AH}{r:AV}{n:Nat}(B:T8 (Se H n) args=some args')(hr:Qq r=true)(h:BPure P f args' r):BCall P f args H r H:=by
 intro G t c D;let j:Cfg:={w:=G.w,n:=0,μ:=G.μ,L:=λ_=>False,K:=λb=>G.K b/\¬G.L b}
 have u:HR j []:=⟨rfl,λo x h=>by simp at h,λo M x O h=>by simp at h,λo x h=>by simp at h,λb h=>by
  rcases h with h | h
  ·exact h.elim
  ·exact c.lt b (.inr h.1),λb h=>h.elim⟩
 have E:VRs j args' t:=Ny (λa v r p A=>pG (G':=G) (G'':=j) rfl (λb C m=>C (.inr (m.elim False.elim And.left))) c (λo x i m=>m.elim False.elim λg=>g.2 (c.live o x i)) n a v r p A) D B;refine((h []) j t u E).mono ?_;rintro e N ⟨F,X,l,v,rfl,rfl,d,p,J,rfl,rfl⟩;have keep:∀k,k<G.w.heap.size->l.w.heap[k]?=G.w.heap[k]?:=λk g=>(d.keep k g (λh=>h)).1;let q:Cfg:={w:=l.w,n:=G.n,μ:=G.μ,L:=G.L,K:=G.K};have s:Evo G q:=⟨d.os,d.tape,d.output,d.size,λk g y=>⟨keep k g,y⟩,Aj7 _,λ_ _=>rfl,rfl⟩;exact⟨F,H,q,v,rfl,rfl,s,zV hr p,⟨c.n,λo x i=>OR.evo s (c.lt_n i) (keep _ (c.lt _ (.inl (c.live _ _ i)))) (c.obj o x i),c.inj,c.live,λb z=>Am7 (c.lt b z) d.size,c.dis⟩,rfl,rfl⟩
def PCall (P:Program)(f:FuncId)(args:List AV)(H:AH)(r:AV):Prop:=BPure P f args r\/∃n a,T8 (Se H n) args=some a/\Qq r=true/\BPure P f a r
theorem PCall.call {f:FuncId}{args:List AV}{H:AH}{r:AV}(h:PCall P f args H r):BCall P f args H r H:=by
 rcases h with h | ⟨n,d,a,b,c⟩
 ·exact h H
 ·exact BPure.lent a b c
end
end
section
section
variable {P : Program}
def gE (P:Program)(H:AH)(w:Bool)(b:Builtin)(a:List TypeId)(xs:List AV)(K:AV->AH->Prop):Prop:=
 match b,a,xs with
 | .len,[t],[x]=>match Abr P t with
  | some .str=>gO w (Ev x) λv=>K v H
  | some .sl=>gO w (AW x) λv=>K v H
  | some (.arr n)=>gO w (some (.lit (.int .i64 n))) λv=>K v H
  | some .mp=>gO w (Aax H x) λv=>K v H
  | none=>False
 | .cap,[t],[x]=>match Abr P t with
  | some .sl=>gO w (rF x) λv=>K v H
  | some (.arr n)=>gO w (some (.lit (goInt n))) λv=>K v H
  | _=>False
 | .clear,[t],[x]=>match oK P t with
  | some (_,_,zc)=>gS w (Aam zc H x) H λH'=>K (if w then .lit (.tuple #[])else Be) H'
  | none=>False
 | .append,[t,u],[s,x]=>match oK P t,Abr P u with
  | some (sz,by',_),some .sl | some (sz,by',_),some .str=>gH w (Gt sz by' H s x) H K
  | some (sz,by',zc),none=>match P.underlying u with
   | some (.int _)=>gH w (Tv H sz by' zc s x) H K
   | _=>False
  | _,_=>False
 | .copy,[t,_],[d,s]=>match qQ P t with
  | some (.sl sz)=>gH w (YX sz H d s) H K
  | _=>False
 | .min,_,xs=>gO w (amm gZ xs) λv=>K v H
 | .max,_,xs=>gO w (amm jF xs) λv=>K v H
 | _,_,_=>False
def WF (P:Program)(ql al:FuncId->Bool)(dr:Bool)(ρ:Operand->AV)(H:AH)(o:Oper)(w:Bool)(K:AV->AH->Prop):Prop:=
 match o.op with
 | .move x=>gO w (some (ρ x)) λv=>K v H
 | .assign x=>gO w (some (ρ x)) λv=>K v H
 | .pick c a b=>gO w (A0 (ρ c) (ρ a) (ρ b)) λv=>K v H
 | .alloc e=>match aE P e with
  | some z=>gH w (AE H (.ofV z)) H K
  | none=>False
 | .box _ x=>gH w (AE H (ρ x)) H K
 | .build t parts=>match Adr P t with
  | some (zc,pl)=>match jT pl ρ parts.toList with
   | some l=>gO w (Dy zc l) λv=>K v H
   | none=>False
  | none=>False
 | .buildSlice t len parts=>match oK P t with
  | some (sz,_,zc)=>match Nat.ble (len*sz) 16777216 with
   | true=>match jT (λj=>some (j*sz,sz)) ρ parts.toList with
    | some l=>match dr with
     | true=>gO w (W6 sz len (Bx zc len) l) λv=>K v H
     | false=>gH w (Co H sz len (Bx zc len) l) H K
    | none=>False
   | false=>False
  | none=>False
 | .load t a=>match mR P t,Dc P t with
  | some g,some n=>gO w (Aq g n H (ρ a)) λv=>K v H
  | _,_=>False
 | .store t a x=>match Dc P t with
  | some n=>gS w (AU n H (ρ a) (ρ x)) H λH'=>K Be H'
  | none=>False
 | .nilCheck x=>gO w (Aj (ρ x)) λv=>K v H
 | .binOp op t x y _=>match P.underlying t with
  | some (.int _)=>gO w (Ar op (ρ x) (ρ y)) λv=>K v H
  | some .string=>gO w (OX op (ρ x) (ρ y)) λv=>K v H
  | some .bool=>gO w (Abo op (ρ x) (ρ y)) λv=>K v H
  | some (.pointer _)=>gO w (vA op pZ (ρ x) (ρ y)) λv=>K v H
  | some (.slice _)=>gO w (vA op Zi (ρ x) (ρ y)) λv=>K v H
  | some (.func ..)=>gO w (vA op Aau (ρ x) (ρ y)) λv=>K v H
  | some (.map ..)=>gO w (vA op Aav (ρ x) (ρ y)) λv=>K v H
  | _=>gO w (P9 P op t (ρ x) (ρ y)) λv=>K v H
 | .unOp op _ x=>gO w (D5 op (ρ x)) λv=>K v H
 | .convert s d x=>match Aco P s d with
  | some (.int k)=>gO w (Aah k (ρ x)) λv=>K v H
  | some .str=>gO w (acS (ρ x)) λv=>K v H
  | some .ofB=>gO w (Aap H (ρ x)) λv=>K v H
  | some .toB=>gO w (acT (ρ x)) λv=>K v H
  | some .same=>gH w (Ado H (ρ x)) H K
  | none=>False
 | .makeFunc fn f c=>gO w (some (.fn fn (f.toList.map ρ) (c.toList.map ρ))) λv=>K v H
 | .makeSlice t l c=>match oK P t with
  | some (sz,by',zc)=>gH w (Abp sz by' zc H (ρ l) (ρ c)) H K
  | none=>False
 | .slice t x lo hi mx=>match qQ P t,mx with
  | some .str,none=>gO w (OI (ρ x) (lo.map ρ) (hi.map ρ)) λv=>K v H
  | some (.sl sz),mx=>gO w (Bq sz (ρ x) (lo.map ρ) (hi.map ρ) (mx.map ρ)) λv=>K v H
  | some (.arr n sz),none=>gO w (Ty n sz H (ρ x) (lo.map ρ) (hi.map ρ)) λv=>K v H
  | _,_=>False
 | .fieldAddr s x f=>match nS P s f with
  | some k=>gO w (Ab k (ρ x)) λv=>K v H
  | none=>False
 | .field s x f=>match Ads P s f with
  | some (g,n,off)=>gO w (yJ g n off (ρ x)) λv=>K v H
  | none=>False
 | .indexAddr t x i=>match Adu P t with
  | some (.sl sz)=>gO w (AY sz (ρ x) (ρ i)) λv=>K v H
  | some (.arr len sz)=>gO w (W7 len sz (ρ x) (ρ i)) λv=>K v H
  | none=>False
 | .index t x i=>match Adv P t with
  | some .str=>gO w (N5 (ρ x) (ρ i)) λv=>K v H
  | some (.arr g n len sz)=>gO w (Aca g n len sz (ρ x) (ρ i)) λv=>K v H
  | none=>False
 | .extract t i=>gO w (Ak (ρ t) i) λv=>K v H
 | .makeMap t l=>match Aaw P t with
  | some _=>gH w (Adt H (l.map ρ)) H K
  | none=>False
 | .lookup t x k co=>match Aaw P t with
  | some (d,z)=>gO w (Aal d z H (ρ x) (ρ k) co) λv=>K v H
  | none=>False
 | .mapUpdate t m k x=>match Aaw P t with
  | some (d,_)=>gS w (Abq d H (ρ m) (ρ k) (ρ x)) H λH'=>K Be H'
  | none=>False
 | .mapEntry t m k=>match Aaw P t with
  | some (d,z)=>gH w (ame d z H (ρ m) (ρ k)) H K
  | none=>False
 | .entryStore _ m s x=>gS w (N4 H (ρ m) (ρ s) (ρ x)) H λH'=>K Be H'
 | .call {callee:=.builtin b,args,argTypes}=>gE P H w b argTypes.toList (args.toList.map ρ) K
 | .call {callee:=.value f,args,argTypes:=_}=>bF w (ρ f) λk first h=>match C4 al o.op with
   | true=>match dr with
    | true=>False
    | false=>match Ch P k with
     | true=>gA w (ACalls P k (first++args.toList.map ρ++h) H) H K
     | false=>gP w (ExtR P k (first++args.toList.map ρ++h) H) λv=>K v H
   | false=>bT (Ch P k||!w) (match C4 ql o.op with
    | true=>match dr with
     | true=>gP w (BPure P k (first++args.toList.map ρ++h)) λv=>K v H
     | false=>gP w (PCall P k (first++args.toList.map ρ++h) H) λv=>K v H
    | false=>gC w (BCall P k (first++args.toList.map ρ++h) H) H K)
 | _=>False
def StepR (P:Program)(ql:FuncId->Bool)(dr:Bool)(ρ:Operand->AV)(H:AH)(o:Oper)(w:Bool)(r:AV)(H':AH):Prop:=(w=true/\(wQ P dr ρ H o=some (r,H')\/(wQ P dr ρ H o=none/\Y9 P ql dr ρ o H r H')))\/(w=false/\r=Be/\H'=H)
section
variable {ql : FuncId->Bool} {dr : Bool} {ρ : Operand->AV} {H : AH} {o : Oper} {w : Bool} {K : AV->AH->Prop}
theorem Cl {x:Option AV}(h:gO w x λv=>K v H)(b:∀r,x=some r->wQ P dr ρ H o=some (r,H)):
  ∃r H',K r H'/\StepR P ql dr ρ H o w r H'/\∀a:AV->AH->Prop,a r H'->gO w x λv=>a v H:=by
 cases w with
 | false=>exact⟨Be,H,h,.inr ⟨rfl,rfl,rfl⟩,λ_ h=>h⟩
 | true=>cases x with
  | none=>exact h.elim
  | some r=>exact⟨r,H,h,.inl ⟨rfl,.inl (b r rfl)⟩,λ_ h=>h⟩
theorem Qr {x:Option (AV×AH)}(h:gH w x H K)(b:∀r,x=some r->wQ P dr ρ H o=some r):
  ∃r H',K r H'/\StepR P ql dr ρ H o w r H'/\∀a:AV->AH->Prop,a r H'->gH w x H a:=by
 cases w with
 | false=>exact⟨Be,H,h,.inr ⟨rfl,rfl,rfl⟩,λ_ h=>h⟩
 | true=>cases x with
  | none=>exact h.elim
  | some r=>exact⟨r.1,r.2,h,.inl ⟨rfl,.inl (b r rfl)⟩,λ_ h=>h⟩
theorem Afw {x:Option AH}{u:AV}(h:gS w x H λH'=>K (if w then u else Be) H')(b:∀r,x=some r->wQ P dr ρ H o=some (u,r)):
  ∃r H',K r H'/\StepR P ql dr ρ H o w r H'/\∀a:AV->AH->Prop,a r H'->gS w x H λH'=>a (if w then u else Be) H':=by
 cases w with
 | false=>exact⟨Be,H,h,.inr ⟨rfl,rfl,rfl⟩,λ_ h=>h⟩
 | true=>cases x with
  | none=>exact h.elim
  | some r=>exact⟨u,r,h,.inl ⟨rfl,.inl (b r rfl)⟩,λ_ h=>h⟩
theorem wC {x:Option AH}(h:gS w x H λH'=>K Be H')(b:∀r,x=some r->wQ P dr ρ H o=some (Be,r)):
  ∃r H',K r H'/\StepR P ql dr ρ H o w r H'/\∀a:AV->AH->Prop,a r H'->gS w x H λH'=>a Be H':=by
 have:=Afw (u:=Be) (ql:=ql) (by simpa using h) b;simpa using this
end
theorem BB {dr:Bool}{ρ:Operand->AV}{H:AH}{o:Oper}(a:sC o.op=false):wQ P dr ρ H o=Ea P ρ H o:=by
 unfold wQ;rw[a];simp
theorem Adw {t:TypeId}{g:Bool}{n:Nat}{H:AH}{a:AV}(b:mR P t=some g)(c:Dc P t=some n):kE P H t a=Aq g n H a:=by
 unfold kE Aq;rw[b,c];cases a<;>rfl
theorem Ams {t:TypeId}{n:Nat}{H:AH}{a x:AV}(b:Dc P t=some n):iJ P H t a x=AU n H a x:=by
 unfold iJ AU;rw[b];cases Cy x<;>cases a<;>rfl
theorem Amt {op:BinOp}{t:TypeId}{x y r:AV}(h:Ar op x y=some r):P9 P op t x y=some r:=by
 unfold Ar at h;split at h
 ·unfold P9;exact h
 ·cases h
theorem Amu {op:BinOp}{t:TypeId}{x y r:AV}(h:OX op x y=some r):P9 P op t x y=some r:=by
 unfold OX at h;split at h
 ·unfold P9;exact h
 ·cases h
theorem Amv {op:BinOp}{t:TypeId}{x y r:AV}(a:P.underlying t=some .bool)(h:Abo op x y=some r):P9 P op t x y=some r:=by
 unfold Abo at h;split at h
 ·unfold P9;simp only[kD,a];exact h
 ·cases h
theorem vB {op:BinOp}{f:AV->Option Bool}{t:TypeId}{x y r:AV}(c:∀v,x=.lit v->(∃k n,v=.int k n)\/(∃s,v=.string s)->f x=none)(e:∀x y,kD P 20 t x y=My (f x) (f y))(h:vA op f x y=some r):P9 P op t x y=some r:=by
 unfold vA at h;split at h
 ·cases h
 ·cases h
 ·cases h
 ·rename_i d g i;unfold P9;split
  ·rename_i k a j b;have:=c _ rfl (.inl ⟨k,a,rfl⟩);rw[this]at h;unfold Acn My at h;split at h<;>simp at h
  ·rename_i a b;have:=c _ rfl (.inr ⟨a,rfl⟩);rw[this]at h;unfold Acn My at h;split at h<;>simp at h
  ·exact(i _ _ rfl rfl).elim
  ·exact(d rfl).elim
  ·exact(g rfl).elim
  ·rw[e];exact h
end
end
section
section
variable {P : Program}
theorem JW {t:TypeId}{x:LK}(h:Abr P t=some x):match x with
  | .str=>P.underlying t=some .string
  | .sl=>∃e,P.underlying t=some (.slice e)
  | .arr n=>∃e,P.underlying t=some (.array n e)
  | .mp=>∃k e,P.underlying t=some (.map k e):=by
 unfold Abr at h;split at h
 ·rename_i a;injection h with h;subst h;exact a
 ·rename_i e a;injection h with h;subst h;exact⟨e,a⟩
 ·rename_i n e a;injection h with h;subst h;exact⟨e,a⟩
 ·rename_i k e a;injection h with h;subst h;exact⟨k,e,a⟩
 ·cases h
theorem Nu {t:TypeId}{x:SK}(h:qQ P t=some x):match x with
  | .str=>P.underlying t=some .string
  | .sl sz=>∃e,P.underlying t=some (.slice e)/\Dc P e=some sz
  | .arr n sz=>∃e,P.underlying t=some (.array n e)/\Dc P e=some sz:=by
 unfold qQ at h;split at h
 ·rename_i a;injection h with h;subst h;exact a
 ·rename_i e a;obtain⟨s,hs,rfl⟩:=Option.map_eq_some_iff.1 h;exact⟨e,a,hs⟩
 ·rename_i n e a;obtain⟨s,hs,rfl⟩:=Option.map_eq_some_iff.1 h;exact⟨e,a,hs⟩
 ·cases h
theorem tO {t:TypeId}{x:IK}(h:Adu P t=some x):match x with
  | .sl sz=>∃e,P.underlying t=some (.slice e)/\Dc P e=some sz
  | .arr n sz=>∃e,P.underlying t=some (.array n e)/\Dc P e=some sz:=by
 unfold Adu at h;split at h
 ·rename_i e a;obtain⟨s,hs,rfl⟩:=Option.map_eq_some_iff.1 h;exact⟨e,a,hs⟩
 ·rename_i n e a;obtain⟨s,hs,rfl⟩:=Option.map_eq_some_iff.1 h;exact⟨e,a,hs⟩
 ·cases h
theorem Afx {t:TypeId}{x:VK}(h:Adv P t=some x):match x with
  | .str=>P.underlying t=some .string
  | .arr g n len sz=>∃e,P.underlying t=some (.array len e)/\mR P e=some g/\Dc P e=some n/\sz=n:=by
 unfold Adv at h;split at h
 ·rename_i a;injection h with h;subst h;exact a
 ·rename_i len e a;split at h
  ·rename_i g n b c;injection h with h;subst h;exact⟨e,a,b,c,rfl⟩
  ·cases h
 ·cases h
theorem Uf {s d:TypeId}{x:CK}(h:Aco P s d=some x):match x with
  | .int k=>P.underlying d=some (.int k)/\∃y,P.underlying s=some y
  | .str=>P.underlying d=some .string/\P.underlying s=some .string
  | .ofB=>P.underlying d=some .string/\∃e,P.underlying s=some (.slice e)/\P.underlying e=some (.int .u8)
  | .toB=>P.underlying s=some .string/\∃e,P.underlying d=some (.slice e)/\P.underlying e=some (.int .u8)
  | .same=>s=d/\∃e,P.underlying d=some (.slice e)/\P.underlying e=some (.int .u8):=by
 unfold Aco at h;split at h
 ·rename_i k y a b;injection h with h;subst h;exact⟨a,y,b⟩
 ·rename_i a b;injection h with h;subst h;exact⟨a,b⟩
 ·rename_i e a b;split at h
  ·rename_i c;injection h with h;subst h;exact⟨a,e,b,c⟩
  ·cases h
 ·rename_i e a b;split at h
  ·rename_i c;injection h with h;subst h;exact⟨b,e,a,c⟩
  ·cases h
 ·rename_i e g a b;split at h
  ·rename_i c f;injection h with h;subst h;exact⟨Aq3 c,e,a,f⟩
  ·cases h
 ·cases h
theorem Amw {s:TypeId}{f:Nat}{g:Bool}{n off:Nat}(h:Ads P s f=some (g,n,off))(x:AV):nR P s x f=yJ g n off x:=by
 unfold Ads at h;unfold nR;split at h
 ·rename_i k j;rw[j];simp only;split at h
  ·rename_i l d;rw[d];simp only;split at h
   ·rename_i m o e i;injection h with h;injection h with b a;injection a with a c;subst b;subst a;subst c;unfold apart yJ;rw[e,i];cases x<;>rfl
   ·cases h
  ·cases h
 ·cases h
theorem Afy {t u:TypeId}{sz b:Nat}{zc:List AV}{H:AH}{s x:AV}(k:oK P t=some (sz,b,zc))(a:(∃e,P.underlying u=some (.slice e))\/P.underlying u=some .string):Vw P H t u s x=Gt sz b H s x:=by
 obtain⟨e,i,z,g,h,j,rfl,rfl,rfl,c,d,f,m⟩:=X3 k;unfold Vw Gt;rcases a with⟨l,a⟩ | a<;>rw[g,a]<;>simp only[h,j]
 ·cases B1 H i.size x with
  | none=>rfl
  | some q=>simp[c,d,f]
 ·cases B1 H i.size x with
  | none=>rfl
  | some q=>simp[c,d,f]
theorem Amx {d:Nat}{t e:TypeId}(a:P.underlying t=some (.pointer e))(x y:AV):kD P (d+1) t x y=My (pZ x) (pZ y):=by simp only[kD,a]
theorem Amy {d:Nat}{t e:TypeId}(a:P.underlying t=some (.slice e))(x y:AV):kD P (d+1) t x y=My (Zi x) (Zi y):=by simp only[kD,a]
theorem Amz {d:Nat}{t:TypeId}{b c:Array TypeId}{v:Bool}(a:P.underlying t=some (.func b c v))(x y:AV):kD P (d+1) t x y=My (Aau x) (Aau y):=by simp only[kD,a]
theorem Ana {d:Nat}{t k e:TypeId}(a:P.underlying t=some (.map k e))(x y:AV):kD P (d+1) t x y=My (Aav x) (Aav y):=by simp only[kD,a]
variable {ql : FuncId->Bool} {dr : Bool} {ρ : Operand->AV} {H : AH} {w : Bool} {K : AV->AH->Prop}
theorem xE {E:Option Tmp}{b:Builtin}{args:Array Operand}{l:Array TypeId}{I:TypeId}{pos:String}{D:Array Edge}{F:Option (Nat×Bool)}
  (h:gE P H w b l.toList (args.toList.map ρ) K):
  ∃r H',K r H'/\StepR P ql dr ρ H ⟨E,.call {callee:=.builtin b,args,argTypes:=l},I,pos,D,F⟩ w r H'/\∀C:AV->AH->Prop,C r H'->gE P H w b l.toList (args.toList.map ρ) C:=by
 have c:wQ P dr ρ H ⟨E,.call {callee:=.builtin b,args,argTypes:=l},I,pos,D,F⟩=Ce P H b l.toList (args.toList.map ρ):=(BB rfl).trans rfl;generalize l.toList=ts at*;generalize args.toList.map ρ=xs at*;unfold gE at h|-;split at h
 ·rename_i t x
  (try simp only)
  split at h
  ·rename_i a;have g:=JW a
   (try simp only[a])
   refine Cl h λr hr=>c.trans ?_;unfold Ev at hr;split at hr
   ·injection hr with hr;subst hr;simp[Ce,iD,g]
   ·cases hr
  ·rename_i a;obtain⟨e,g⟩:=JW a
   (try simp only[a])
   refine Cl h λr hr=>c.trans ?_
   unfold AW at hr;split at hr<;>first
    | (cases hr;done)
    | (injection hr with hr;subst hr;simp[Ce,iD,g])
  ·rename_i n a;obtain⟨e,g⟩:=JW a
   (try simp only[a])
   refine Cl h λr hr=>c.trans ?_;injection hr with hr;subst hr;simp[Ce,iD,g]
  ·rename_i a;obtain⟨k,e,g⟩:=JW a
   (try simp only[a])
   refine Cl h λr hr=>c.trans ?_;unfold Aax at hr;split at hr
   ·injection hr with hr;subst hr;simp[Ce,iD,g]
   ·simp only[Ce,iD,g,cW]
    first
     | (exact congrArg (Option.map λv=>(v,H)) hr)
     | ((try simp only[hr]);rfl)
   ·cases hr
  ·exact h.elim
 ·rename_i t x
  (try simp only)
  split at h
  ·rename_i a;obtain⟨e,g⟩:=JW a
   (try simp only[a])
   refine Cl h λr hr=>c.trans ?_
   unfold rF at hr;split at hr<;>first
    | (cases hr;done)
    | (injection hr with hr;subst hr;simp[Ce,Abw,g])
  ·rename_i n a;obtain⟨e,g⟩:=JW a
   (try simp only[a])
   refine Cl h λr hr=>c.trans ?_;injection hr with hr;subst hr;simp[Ce,Abw,g]
  ·exact h.elim
 ·rename_i t x
  (try simp only)
  split at h
  ·rename_i sz m B a;obtain⟨e,i,z,f,j,M,rfl,rfl,rfl,Y,Z,h6,N⟩:=X3 a
   (try simp only[a])
   refine Afw h λr hr=>c.trans ?_;unfold Aam at hr;unfold Ce vF;simp only[f];split at hr
   ·injection hr with hr;subst hr;rfl
   ·rename_i o Q len p X;simp only;split at hr
    ·rename_i cs O;simp only[O];split at hr
     ·rename_i y;injection hr with hr;subst hr;simp only[j,M];rw[if_pos (show z.cells.size=p/\p≠0/\Xh z=true/\Q+len*p<=cs.length from⟨by simpa using y.1,y.2.1,N,y.2.2⟩)];rfl
     ·cases hr
    ·cases hr
   ·cases hr
  ·exact h.elim
 ·rename_i t u s x
  (try simp only)
  split at h
  ·rename_i sz m B f j
   (try simp only[f,j])
   obtain⟨e,q⟩:=JW j;exact Qr h λr hr=>c.trans (by simp only[Ce];rw[Afy f (.inl ⟨e,q⟩),hr])
  ·rename_i sz m B f j
   (try simp only[f,j])
   have q:=JW j;exact Qr h λr hr=>c.trans (by simp only[Ce];rw[Afy f (.inr q),hr])
  ·rename_i sz m B f j
   (try simp only[f,j])
   split at h
   ·rename_i k A
    (try simp only[A])
    refine Qr h λr hr=>c.trans ?_;obtain⟨e,i,z,G,R,S,rfl,rfl,rfl,T,U,V,W⟩:=X3 f;have J:Vw P H t u s x=none:=by unfold Vw;rw[G,A]
    have L:Xe P H t u s x=Tv H i.size i.bytes (z.cells.toList.map .lit) s x:=by unfold Xe;simp only[G,A,R,S];rw[if_neg (by simp[T,U,V,W])]
    simp only[Ce,J,L,hr]
   ·exact h.elim
  ·exact h.elim
 ·rename_i t u d s
  (try simp only)
  split at h
  ·rename_i sz a;obtain⟨e,f,j⟩:=Nu a
   (try simp only[a])
   refine Qr h λr hr=>c.trans ?_;show yD P H t d s=_;unfold yD;simp only[f,j];exact hr
  ·exact h.elim
 ·exact Cl h λr hr=>c.trans (by simp[Ce,hr])
 ·exact Cl h λr hr=>c.trans (by simp[Ce,hr])
 ·exact h.elim
theorem lN (op:Op):C4 Aw op=false:=by
 unfold C4;split<;>rfl
abbrev At9:=@Option.map_none
abbrev As2:=@Bool.not_false
set_option maxHeartbeats 2000000 in
theorem VG {o:Oper}(h:WF P ql Aw dr ρ H o w K):∃r H',K r H'/\StepR P ql dr ρ H o w r H'/\∀F:AV->AH->Prop,F r H'->WF P ql Aw dr ρ H o w F:=by
 obtain⟨Y,op,af,ae,X,aa⟩:=o;cases op
 case move x=>exact Cl h λr hr=>by injection hr with hr;subst hr;exact(BB rfl).trans rfl
 case assign x=>exact Cl h λr hr=>by injection hr with hr;subst hr;exact(BB rfl).trans rfl
 case pick c a b=>
  refine Cl h λr hr=>(BB rfl).trans ?_;unfold A0 at hr;split at hr
  ·rename_i t ht;injection hr with hr;subst hr;simp[Ea,ht]
  ·cases hr
 case alloc e=>
  unfold WF at h|-;simp only at h|-;split at h
  ·rename_i z I
   (try simp only[I])
   exact Qr h λr hr=>(BB rfl).trans (by simp[Ea,I,hr])
  ·exact h.elim
 case box e x=>exact Qr h λr hr=>(BB rfl).trans (by simp[Ea,hr])
 case build t parts=>
  unfold WF at h|-;simp only at h|-;split at h
  ·rename_i zc pl I
   (try simp only[I])
   split at h
   ·rename_i l j
    (try simp only[j])
    refine Cl h λr hr=>(BB rfl).trans ?_;unfold Dy at hr;simp[Ea,Amr I,YP _ _ zc j,hr]
   ·exact h.elim
  ·exact h.elim
 case buildSlice t len parts=>
  unfold WF at h|-;simp only at h|-;split at h
  ·rename_i sz ah zc I
   (try simp only[I])
   obtain⟨e,i,z,p,u,B,rfl,rfl,rfl,T,h5,U,V⟩:=X3 I;split at h
   ·rename_i Q
    (try simp only[Q])
    have Q:=Nat.le_of_ble_eq_true Q;split at h
    ·rename_i l j
     (try simp only[j])
     cases dr with
     | true=>
      simp only at h|-;refine Cl h λr hr=>?_;unfold W6 at hr;obtain⟨cs,ab,rfl⟩:=Option.map_eq_some_iff.1 hr;simp only[wQ,sC,Bool.and_self,if_true,I6,Gu,p,u,B];rw[if_pos ⟨Q,U,T,V⟩,YP _ _ _ j,ab];rfl
     | false=>
      simp only at h|-;refine Qr h λr hr=>?_;unfold Co at hr;obtain⟨cs,ab,rfl⟩:=Option.map_eq_some_iff.1 hr;simp only[wQ,Ag3,Ea,Gu,p,u,B];rw[if_pos ⟨Q,U,T,V⟩,YP _ _ _ j,ab];rfl
    ·exact h.elim
   ·exact h.elim
  ·exact h.elim
 case load t a=>
  unfold WF at h|-;simp only at h|-;split at h
  ·rename_i g n M G
   (try simp only[M,G])
   exact Cl h λr hr=>(BB rfl).trans (by simp[Ea,Adw M G,hr])
  ·exact h.elim
 case store t a x=>
  unfold WF at h|-;simp only at h|-;split at h
  ·rename_i n G
   (try simp only[G])
   exact wC h λr hr=>(BB rfl).trans (by simp[Ea,Ams G,hr])
  ·exact h.elim
 case nilCheck x=>exact Cl h λr hr=>(BB rfl).trans (by simp[Ea,hr])
 case binOp op t x y yt=>
  unfold WF at h|-;simp only at h|-;split at h
  ·rename_i C;(try simp only[C]);exact Cl h λr hr=>(BB rfl).trans (by simp[Ea,Amt hr])
  ·rename_i C;(try simp only[C]);exact Cl h λr hr=>(BB rfl).trans (by simp[Ea,Amu hr])
  ·rename_i C;(try simp only[C]);exact Cl h λr hr=>(BB rfl).trans (by simp[Ea,Amv C hr])
  ·rename_i C;(try simp only[C]);exact Cl h λr hr=>(BB rfl).trans (by simp[Ea,vB (by rintro v N (⟨k,n,rfl⟩ | ⟨s,rfl⟩)<;>rw[N]<;>rfl) (Amx C) hr])
  ·rename_i C;(try simp only[C]);exact Cl h λr hr=>(BB rfl).trans (by simp[Ea,vB (by rintro v N (⟨k,n,rfl⟩ | ⟨s,rfl⟩)<;>rw[N]<;>rfl) (Amy C) hr])
  ·rename_i C;(try simp only[C]);exact Cl h λr hr=>(BB rfl).trans (by simp[Ea,vB (by rintro v N (⟨k,n,rfl⟩ | ⟨s,rfl⟩)<;>rw[N]<;>rfl) (Amz C) hr])
  ·rename_i C;(try simp only[C]);exact Cl h λr hr=>(BB rfl).trans (by simp[Ea,vB (by rintro v N (⟨k,n,rfl⟩ | ⟨s,rfl⟩)<;>rw[N]<;>rfl) (Ana C) hr])
  ·obtain⟨r,H',p,u,B⟩:=Cl (P:=P) (ql:=ql) (dr:=dr) (ρ:=ρ) (o:=⟨Y,.binOp op t x y yt,af,ae,X,aa⟩) h λr hr=>(BB rfl).trans (by simp[Ea,hr]);refine⟨r,H',p,u,λF A=>?_⟩;exact B F A
 case unOp op t x=>exact Cl h λr hr=>(BB rfl).trans (by simp[Ea,hr])
 case convert s d x=>
  unfold WF at h|-;simp only at h|-;split at h
  ·rename_i k E;obtain⟨p,y,u⟩:=Uf E
   (try simp only[E])
   refine Cl h λr hr=>(BB rfl).trans ?_;unfold Aah at hr;split at hr
   ·rename_i D;injection hr with hr;subst hr;simp[Ea,HW,p,u,D]
   ·cases hr
  ·rename_i E;obtain⟨p,u⟩:=Uf E
   (try simp only[E])
   refine Cl h λr hr=>(BB rfl).trans ?_;unfold acS at hr;split at hr
   ·rename_i D;injection hr with hr;subst hr;simp[Ea,HW,p,u,D]
   ·cases hr
  ·rename_i E;obtain⟨p,e,u,B⟩:=Uf E
   (try simp only[E])
   refine Cl h λr hr=>(BB rfl).trans ?_;unfold Aap at hr;split at hr
   ·cases hr
   ·rename_i D;have:HW P H s d (ρ x)=some r:=by
     unfold HW;simp only[p,u];split at hr
     ·rename_i cs n hs;simp only[B,hs];exact hr
     ·cases hr
    simp[Ea,this]
  ·rename_i E;obtain⟨p,e,u,B⟩:=Uf E
   (try simp only[E])
   refine Cl h λr hr=>(BB rfl).trans ?_;unfold acT at hr;split at hr
   ·rename_i t D;injection hr with hr;subst hr;simp[Ea,HW,p,u,B,D,nP]
   ·cases hr
  ·rename_i E;obtain⟨rfl,e,u,B⟩:=Uf E
   (try simp only[E])
   refine Qr h λr hr=>(BB rfl).trans ?_;have L:Nat.beq s s=true:=Nat.beq_refl s;simp[Ea,HW,nP,yO,u,B,hr]
  ·exact h.elim
 case makeFunc fn f c=>exact Cl h λr hr=>by injection hr with hr;subst hr;exact(BB rfl).trans rfl
 case makeSlice t l c=>
  unfold WF at h|-;simp only at h|-;split at h
  ·rename_i sz ah zc I
   (try simp only[I])
   obtain⟨e,i,z,p,u,B,rfl,rfl,rfl,T,h5,U,V⟩:=X3 I;refine Qr h λr hr=>(BB rfl).trans ?_;unfold Abp at hr;split at hr
   ·rename_i k n k' m G hm;split at hr
    ·rename_i L;injection hr with hr;subst hr;simp only[Ea,Ack,p,G,hm,u,B];rw[if_pos ⟨L.1,L.2.1,L.2.2.1,L.2.2.2,U,T,V⟩]
    ·cases hr
   ·cases hr
  ·exact h.elim
 case slice t x lo hi mx=>
  unfold WF at h|-;simp only at h|-;split at h
  ·rename_i j;have p:=Nu j
   (try simp only[j])
   refine Cl h λr hr=>(BB rfl).trans ?_;unfold OI at hr;split at hr
   ·rename_i s hs;simp only[Ea,V0,p,hs,At9];exact congrArg (Option.map λv=>(v,H)) hr
   ·cases hr
  ·rename_i sz j;obtain⟨e,p,u⟩:=Nu j
   (try simp only[j])
   refine Cl h λr hr=>(BB rfl).trans ?_;unfold Bq at hr;simp only[Ea,V0,p,u];split at hr
   ·rename_i D;rw[D];exact congrArg (Option.map λv=>(v,H)) hr
   ·rename_i D;rw[D];exact congrArg (Option.map λv=>(v,H)) hr
   ·rename_i D;rw[D];exact congrArg (Option.map λv=>(v,H)) hr
   ·rename_i D;rw[D];exact congrArg (Option.map λv=>(v,H)) hr
   ·cases hr
  ·rename_i n sz j;obtain⟨e,p,u⟩:=Nu j
   (try simp only[j])
   refine Cl h λr hr=>(BB rfl).trans ?_;unfold Ty at hr;simp only[Ea,V0,p,u,At9];exact congrArg (Option.map λv=>(v,H)) hr
  ·exact h.elim
 case fieldAddr s x f=>
  unfold WF at h|-;simp only at h|-;split at h
  ·rename_i k A
   (try simp only[A])
   exact Cl h λr hr=>(BB rfl).trans (by simp[Ea,Vy,A,hr])
  ·exact h.elim
 case field s x f=>
  unfold WF at h|-;simp only at h|-;split at h
  ·rename_i g n aj A
   (try simp only[A])
   exact Cl h λr hr=>(BB rfl).trans (by simp[Ea,Amw A,hr])
  ·exact h.elim
 case indexAddr t x i=>
  unfold WF at h|-;simp only at h|-;split at h
  ·rename_i sz j;obtain⟨e,p,u⟩:=tO j
   (try simp only[j])
   refine Cl h λr hr=>(BB rfl).trans ?_;unfold AY at hr;simp only[Ea,PV,p,u];exact congrArg (Option.map λv=>(v,H)) hr
  ·rename_i len sz j;obtain⟨e,p,u⟩:=tO j
   (try simp only[j])
   refine Cl h λr hr=>(BB rfl).trans ?_;unfold W7 at hr;simp only[Ea,PV,p,u];exact congrArg (Option.map λv=>(v,H)) hr
  ·exact h.elim
 case index t x i=>
  unfold WF at h|-;simp only at h|-;split at h
  ·rename_i j;have p:=Afx j
   (try simp only[j])
   refine Cl h λr hr=>(BB rfl).trans ?_;unfold N5 at hr;simp only[Ea,nT,p];exact congrArg (Option.map λv=>(v,H)) hr
  ·rename_i g n len sz j;obtain⟨e,p,u,B,rfl⟩:=Afx j
   (try simp only[j])
   refine Cl h λr hr=>(BB rfl).trans ?_;unfold Aca yJ at hr;simp only[Ea,nT,p,u,B,apart];cases hi:OG (ρ i)with
   | none=>rw[hi]at hr;cases hr
   | some m=>
    rw[hi]at hr;simp only at hr|-;split at hr
    ·rename_i L
     rw[if_pos L];cases D:ρ x<;>rw[D]at hr<;>first
      | (simp only at hr|-;exact congrArg (Option.map λv=>(v,H)) hr)
      | cases hr
    ·cases hr
  ·exact h.elim
 case extract t i=>exact Cl h λr hr=>(BB rfl).trans (by simp[Ea,hr])
 case makeMap t l=>
  unfold WF at h|-;simp only at h|-;split at h
  ·rename_i q j;obtain⟨d,z⟩:=q;obtain⟨key,Z,p,u,B⟩:=fA j
   (try simp only[j])
   refine Qr h λr hr=>(BB rfl).trans ?_;unfold Adt at hr;simp only[Ea,cV,p];split at hr
   ·rename_i J;rw[J];exact hr
   ·rename_i J;rw[J];exact hr
   ·cases hr
  ·exact h.elim
 case lookup t x k co=>
  unfold WF at h|-;simp only at h|-;split at h
  ·rename_i d z j;obtain⟨key,Z,p,u,B⟩:=fA j
   (try simp only[j])
   refine Cl h λr hr=>(BB rfl).trans ?_;unfold Aal at hr;simp only[Ea,cU,p];split at hr
   ·rename_i es kv J A;simp only[J,A,u,B];exact congrArg (Option.map λv=>(v,H)) hr
   ·cases hr
  ·exact h.elim
 case mapUpdate t m k x=>
  unfold WF at h|-;simp only at h|-;split at h
  ·rename_i d z j;obtain⟨key,Z,p,u,B⟩:=fA j
   (try simp only[j])
   refine wC h λr hr=>(BB rfl).trans ?_;unfold Abq at hr;simp only[Ea,PY,p];split at hr
   ·rename_i o kv J A;simp only[J,A,u];split at hr
    ·rename_i es ad;simp only[ad];exact congrArg (Option.map λv=>(Be,v)) hr
    ·cases hr
   ·cases hr
  ·exact h.elim
 case mapEntry t m k=>
  unfold WF at h|-;simp only at h|-;split at h
  ·rename_i d z j;obtain⟨key,Z,p,u,B⟩:=fA j
   (try simp only[j])
   refine Qr h λr hr=>(BB rfl).trans ?_;unfold ame at hr;simp only[Ea,YD,p];split at hr
   ·rename_i o kv J A;simp only[J,A,u];split at hr
    ·rename_i es ad;simp only[ad,B];exact hr
    ·cases hr
   ·cases hr
  ·exact h.elim
 case entryStore t m s x=>exact wC h λr hr=>(BB rfl).trans (by simp[Ea,hr])
 case call c=>
  obtain⟨O,args,S⟩:=c;cases O with
  | builtin b=>exact xE h
  | invoke r m=>exact h.elim
  | value f=>
   have G:wQ P dr ρ H ⟨Y,.call {callee:=.value f,args,argTypes:=S},af,ae,X,aa⟩=none:=(BB rfl).trans rfl;have ag:C4 Aw (.call {callee:=.value f,args,argTypes:=S})=false:=lN _;cases w with
   | false=>
    have key:∀F:AV->AH->Prop,WF P ql Aw dr ρ H ⟨Y,.call {callee:=.value f,args,argTypes:=S},af,ae,X,aa⟩ false F=F Be H:=by intro F;unfold WF bF;simp only[ag,As2,Bool.or_true];unfold bT;simp only[];cases C4 ql (Op.call {callee:=.value f,args,argTypes:=S})<;>cases dr<;>simp only[gC,gP]<;>split<;>rfl
    rw[key]at h;exact⟨Be,H,h,.inr ⟨rfl,rfl,rfl⟩,λF u=>by rw[key];exact u⟩
   | true=>
   unfold WF bF at h|-;simp only[ag,At6,Aw6]at h|-;split at h
   ·rename_i k first ai W
    (try simp only[W])
    unfold bT at h|-;split at h
    ·rename_i M
     (try simp only[M])
     split at h
     ·rename_i R
      (try simp only[R])
      cases dr with
      | true=>
       obtain⟨r,hr,A⟩:=h;refine⟨r,H,A,.inl ⟨rfl,.inr ⟨G,?_⟩⟩,λF A=>⟨r,hr,A⟩⟩;unfold Y9 Gv;simp only[W];refine⟨M,?_⟩;rw[if_pos (by simp[R])];exact⟨hr,trivial⟩
      | false=>
       obtain⟨r,hr,A⟩:=h;refine⟨r,H,A,.inl ⟨rfl,.inr ⟨G,?_⟩⟩,λF A=>⟨r,hr,A⟩⟩;unfold Y9 Gv;simp only[W];refine⟨M,?_⟩;rw[if_neg (by simp)];exact hr.call
     ·rename_i R
      (try simp only[R])
      obtain⟨r,H',hr,A⟩:=h;refine⟨r,H',A,.inl ⟨rfl,.inr ⟨G,?_⟩⟩,λF A=>⟨r,H',hr,A⟩⟩;unfold Y9 Gv;simp only[W];refine⟨M,?_⟩;rw[if_neg (by simp only[R,Bool.and_false];simp)];exact hr
    ·exact h.elim
   ·exact h.elim
 all_goals exact h.elim
theorem Adx {al:FuncId->Bool}{o:Oper}(d:C4 al o.op=false):WF P ql al dr ρ H o w K=WF P ql Aw dr ρ H o w K:=by
 obtain⟨i,op,l,k,h,j⟩:=o;simp only at d;cases op
 case call c=>
  obtain⟨a,args,e⟩:=c;cases a with
  | value f=>
   have g:C4 Aw (.call {callee:=.value f,args,argTypes:=e})=false:=lN _;unfold WF;simp only[d,g]
  | builtin b=>rfl
  | invoke r m=>rfl
 all_goals rfl
theorem Afz {al:FuncId->Bool}{o:Oper}(h:WF P ql al true ρ H o w K):WF P ql Aw true ρ H o w K:=by
 cases a:C4 al o.op with
 | false=>rwa[Adx a]at h
 | true=>
  obtain⟨f,op,j,i,d,g⟩:=o;simp only at a;unfold C4 at a;split at a
  ·rename_i k args b;exfalso;have c:C4 al (.call {callee:=.value (.func k),args:=args,argTypes:=b})=true:=a;unfold WF bF at h;simp only[c]at h;split at h
   ·exact h
   ·split at h<;>exact h
  ·cases a
theorem Anb {al:FuncId->Bool}{ops:Array Oper}{Q:AQ}{T:List AV}{o:Oper}{l:List Oper}(a:C0 ops T o=some w)(h:WF P ql al false (Cf T) H o w K)(d:∀r H',K r H'->AOps P ops Q l (EL T o.dst r) H'):AOps P ops Q (o::l) T H:=by
 cases b:C4 al o.op with
 | false=>
  rw[Adx b]at h;obtain⟨r,H',v,hs,-⟩:=VG h;have hr:=d r H' v;rcases hs with⟨rfl,g | ⟨g,c⟩⟩ | ⟨rfl,rfl,rfl⟩
  ·exact AOps.op a (by simpa[wQ]using g) hr
  ·unfold Y9 at c;split at c
   ·rename_i k args t;simp only[Ag3]at c;refine AOps.call a t c.1 (c.2.mono ?_);rintro L A ⟨rfl,rfl⟩;exact hr
   ·exact c.elim
  ·exact AOps.unwanted a hr
 | true=>
  obtain⟨E,op,M,J,B,F⟩:=o;simp only at b;unfold C4 at b;split at b
  ·rename_i k args i;have q:C4 al (.call {callee:=.value (.func k),args:=args,argTypes:=i})=true:=b;unfold WF bF at h;simp only[q]at h;split at h
   ·rename_i I first D f
    simp only[Cf]at f;injection f with e j m;injection e with e;subst e;subst j;subst m;split at h
    ·rename_i u;cases w with
     | true=>
      obtain⟨R,p,s⟩:=h;exact AOps.call (args:=[]++args.toList.map (Cf T)++[]) a rfl u (p.mono λr H' hr=>d r H' (s r H' hr))
     | false=>exact AOps.unwanted a (d _ _ h)
    ·cases w with
     | true=>
      obtain⟨r,hr,h⟩:=h;exact AOps.extern (args:=[]++args.toList.map (Cf T)++[]) a rfl (λG z n y=>hr G z n y) (d _ _ h)
     | false=>exact AOps.unwanted a (d _ _ h)
   ·rename_i x;exact(x k [] [] rfl).elim
  ·cases b
end
end
end Go.Proofs.YtbppnhenlboefaaGreat.Av
