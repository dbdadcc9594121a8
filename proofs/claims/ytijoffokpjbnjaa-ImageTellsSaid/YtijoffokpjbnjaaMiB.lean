/- Texts of this proof, one behind the other, packed into one file by a program of this session. No condition. -/
import Derived.Test.YtijoffokpjbnjaaMiA
import Derived.LoopN
import Derived.LoopNIn
import Derived.OrdersIn
set_option linter.unusedVariables false
set_option linter.unusedSimpArgs false
namespace Go.Proofs.Ytijoffokpjbnjaa.Av
open Go Go.RowKit
section
section
variable {P : Program}
abbrev SI:=@List.map_congr_left
theorem Db {ρ ρ':Operand→AV}(l:List Operand)(h:∀x∈l,ρ x=ρ' x):l.map ρ=l.map ρ':=SI h
theorem Mw {ρ ρ':Operand→AV}{H:AH}{o:Oper}(h:∀x∈o.op.operands.toList,ρ x=ρ' x):AT P ρ H o=AT P ρ' H o:=by
 obtain⟨dst,op,type,pos,after,guard⟩:=o;have pairs:∀ps:Array (Nat×Operand),(∀x∈ps.toList.map (·.2),ρ x=ρ' x)→(ps.toList.map λp=>(p.1,ρ p.2))=(ps.toList.map λp=>(p.1,ρ' p.2)):=λps hp=>
  SI λp hm=>by rw[hp p.2 (List.mem_map.2 ⟨p,hm,rfl⟩)]
 cases op
 case move x=>simp only[AT];rw[h x (by simp[Op.operands])]
 case assign x=>simp only[AT];rw[h x (by simp[Op.operands])]
 case pick c a b=>simp only[AT];rw[h c (by simp[Op.operands]),h a (by simp[Op.operands]),h b (by simp[Op.operands])]
 case box e x=>simp only[AT];rw[h x (by simp[Op.operands])]
 case build t ps=>simp only[AT];rw[pairs ps (λx hx=>h x (by simpa[Op.operands]using hx))]
 case buildSlice t n ps=>simp only[AT];rw[pairs ps (λx hx=>h x (by simpa[Op.operands]using hx))]
 case load t a=>simp only[AT];rw[h a (by simp[Op.operands])]
 case store t a x=>simp only[AT];rw[h a (by simp[Op.operands]),h x (by simp[Op.operands])]
 case nilCheck x=>simp only[AT];rw[h x (by simp[Op.operands])]
 case binOp op t x y u=>simp only[AT];rw[h x (by simp[Op.operands]),h y (by simp[Op.operands])]
 case unOp op t x=>simp only[AT];rw[h x (by simp[Op.operands])]
 case convert s d x=>simp only[AT];rw[h x (by simp[Op.operands])]
 case makeFunc fn f c=>
  simp only[AT];rw[Db f.toList (λx hx=>h x (by simp[Op.operands];exact .inl (Array.mem_toList_iff.1 hx))),Db c.toList (λx hx=>h x (by simp[Op.operands];exact .inr (Array.mem_toList_iff.1 hx)))]
 case makeSlice t l c=>simp only[AT];rw[h l (by simp[Op.operands]),h c (by simp[Op.operands])]
 case slice t x lo hi mx=>
  simp only[AT]
  have e:∀q:Option Operand,(∀y,q=some y→ρ y=ρ' y)→q.map ρ=q.map ρ':=by
   intro q hq;cases q with
   | none=>rfl
   | some y=>simp[hq y rfl]
  rw[h x (by simp[Op.operands]),e lo (λy hy=>h y (by simp[Op.operands,hy])),e hi (λy hy=>h y (by simp[Op.operands,hy])),e mx (λy hy=>h y (by simp[Op.operands,hy]))]
 case fieldAddr s x f=>simp only[AT];rw[h x (by simp[Op.operands])]
 case field s x f=>simp only[AT];rw[h x (by simp[Op.operands])]
 case indexAddr t x i=>simp only[AT];rw[h x (by simp[Op.operands]),h i (by simp[Op.operands])]
 case index t x i=>simp only[AT];rw[h x (by simp[Op.operands]),h i (by simp[Op.operands])]
 case extract t i=>simp only[AT];rw[h t (by simp[Op.operands])]
 case makeMap t l=>
  simp only[AT]
  have e:l.map ρ=l.map ρ':=by
   cases l with
   | none=>rfl
   | some y=>simp[h y (by simp[Op.operands])]
  rw[e]
 case lookup t x k co=>simp only[AT];rw[h x (by simp[Op.operands]),h k (by simp[Op.operands])]
 case mapUpdate t m k x=>simp only[AT];rw[h m (by simp[Op.operands]),h k (by simp[Op.operands]),h x (by simp[Op.operands])]
 case mapEntry t m k=>simp only[AT];rw[h m (by simp[Op.operands]),h k (by simp[Op.operands])]
 case entryStore t m s x=>simp only[AT];rw[h m (by simp[Op.operands]),h s (by simp[Op.operands]),h x (by simp[Op.operands])]
 case call c=>
  obtain⟨callee,args,ats⟩:=c;cases callee
  case builtin b=>
   simp only[AT];rw[Db args.toList (λx hx=>h x (by simp[Op.operands,Call.operands];exact Array.mem_toList_iff.1 hx))]
  all_goals rfl
 all_goals rfl
def CG:Op→Bool
 | .move _ | .assign _ | .pick .. | .build .. | .load .. | .nilCheck _ | .binOp .. | .unOp .. | .makeFunc .. | .slice .. | .fieldAddr .. | .field .. | .indexAddr .. | .index .. | .extract .. | .lookup ..=>true
 | .call {callee:=.builtin b,..}=>match b with
  | .len | .min | .max | .cap=>true
  | _=>false
 | .convert s d _=>!Nat.beq s d
 | _=>false
theorem Fa {ρ:Operand→AV}{H H':AH}{o:Oper}{r:AV}(hs:CG o.op=true)(h:AT P ρ H o=some (r,H')):H'=H:=by
 obtain⟨dst,op,type,pos,after,guard⟩:=o;cases op<;>first
  | (simp[CG]at hs;done)
  | exact(Dc h).2
  | exact(AR h).2
  | skip
 case pick c a b=>
  unfold AT at h;simp only at h;split at h
  ·exact(Dc h).2
  ·cases h
 case convert s d x=>
  unfold AT at h;simp only at h;split at h
  ·exact(Dc h).2
  ·split at h
   ·exact(Dc h).2
   ·simp only[CG,Bool.not_eq_true']at hs
    unfold K6 at h;rw[hs]at h;cases h
 case call c=>
  obtain⟨callee,args,ats⟩:=c;cases callee
  case builtin b=>
   have h':Ap P H b ats.toList (args.toList.map ρ)=some (r,H'):=h;unfold Ap at h';split at h'<;>first
    | exact(AR h').2
    | (simp[CG]at hs;done)
    | cases h'
  all_goals simp[CG]at hs
def Kd (o:Oper)(acc:List Nat):Nat:=o.after.toList.foldl (λs e=>if Region.binds .any e then s||| 2 ^ e.on||| acc.getD e.on 0 else s) 0
def Bk:List Oper→List Nat→List Nat
 | [],acc=>acc
 | o::r,acc=>Bk r (acc++[Kd o acc])
theorem JC (l:List Oper):∀acc i,i<acc.length→(Bk l acc).getD i 0=acc.getD i 0:=by
 induction l with
 | nil=>intro acc i _;rfl
 | cons o l ih=>
  intro acc i hi;simp only[Bk];rw[ih _ _ (by simp;omega)];simp[RM,Rz hi]
abbrev SD:=@Nat.zero_add
theorem MC (l:List Oper):∀acc j o,l[j]?=some o→∃acc',(∀i,i<acc.length+j→acc'.getD i 0=(Bk l acc).getD i 0)∧(Bk l acc).getD (acc.length+j) 0=Kd o acc':=by
 induction l with
 | nil=>intro acc j o h;simp at h
 | cons p l ih=>
  intro acc j o h;cases j with
  | zero=>
   simp at h;subst h;refine⟨acc,λi hi=>?_,?_⟩
   ·exact(JC (p::l) acc i (by omega)).symm
   ·simp only[Bk]
    rw[JC _ _ _ (by simp)];simp[RM]
  | succ j=>
   simp only[P3]at h;obtain⟨acc',h1,h2⟩:=ih (acc++[Kd p acc]) j o h;simp only[RV,Ro,SD]at h1 h2;refine⟨acc',λi hi=>h1 i (by omega),?_⟩;simp only[Bk];rw[← h2]
   congr 1
   omega
abbrev Rh:=And.intro @Bool.or_eq_true @decide_eq_true_eq
theorem Km (acc:List Nat)(j:Nat):∀(l:List Edge) (s:Nat),(l.foldl (λs e=>if Region.binds .any e then s||| 2 ^ e.on||| acc.getD e.on 0 else s) s).testBit j=true→
  s.testBit j=true∨∃e∈l,Region.binds .any e=true∧(e.on=j∨(acc.getD e.on 0).testBit j=true):=by
 intro l
 induction l with
 | nil=>intro s h;exact .inl h
 | cons e l ih=>
  intro s h;simp only[List.foldl_cons]at h;rcases ih _ h with h | ⟨e',he',hb,hh⟩
  ·split at h
   ·rename_i hb
    simp only[Nat.testBit_or,Rh,Nat.testBit_two_pow]at h;rcases h with(h | h) | h
    ·exact .inl h
    ·exact .inr ⟨e,by simp,hb,.inl h⟩
    ·exact .inr ⟨e,by simp,hb,.inr h⟩
   ·exact .inl h
  ·exact .inr ⟨e',by simp[he'],hb,hh⟩
def JH (ops:List Oper)(lst:Nat→Bool):Prop:=∀(i:Nat) (o:Oper),ops[i]?=some o→lst i=true→∀e∈o.after,Region.binds .any e=true→lst e.on=true
def E1 (ops:List Oper):Bool:=ops.zipIdx.all λp=>p.1.after.toList.all λe=>!Region.binds .any e||decide (e.on<p.2)
theorem GI {ops:List Oper}(h:E1 ops=true){i:Nat}{o:Oper}(ho:ops[i]?=some o){e:Edge}(he:e∈o.after)(hb:Region.binds .any e=true):e.on<i:=by
 unfold E1 at h;rw[R5]at h
 have hm:(o,i)∈ops.zipIdx:=by
  rw[RE];exact⟨i,by rw[List.getElem?_zipIdx,ho];simp⟩
 have:=h _ hm
 rw[R5]at this
 have:=this e (Array.mem_toList_iff.2 he)
 simpa[hb]using this
theorem Dh {ops:List Oper}(hd:E1 ops=true){lst:Nat→Bool}(hc:JH ops lst):∀(i:Nat) (o:Oper),ops[i]?=some o→(∀e∈o.after,Region.binds .any e=true→lst e.on=true)→
  ∀j,((Bk ops []).getD i 0).testBit j=true→lst j=true:=by
 intro i
 induction i using Nat.strongRecOn with
 | _ i ih=>
  intro o ho hall j hj;obtain⟨acc',h1,h2⟩:=MC ops [] i o ho;simp only[List.length_nil,SD]at h1 h2;rw[h2]at hj;unfold Kd at hj;rcases Km acc' j _ 0 hj with h0 | ⟨e,he,hb,hh⟩
  ·simp at h0
  ·have he':=Array.mem_toList_iff.1 he
   have hl:=hall e he' hb;have hlt:=GI hd ho he' hb;rcases hh with rfl | hh
   ·exact hl
   ·rw[h1 _ hlt]at hh
    have hex:∃o',ops[e.on]?=some o':=by
     have:i<ops.length:=(Et.1 ho).1;exact⟨_,Cq (by omega)⟩
    obtain⟨o',ho'⟩:=hex;exact ih _ hlt o' ho' (λe' he' hb'=>hc _ _ ho' hl e' he' hb') j hh
def Fj (ops:List Oper)(o:Oper):List Tmp:=
 o.dst.toList++(o.op.operands.toList.filterMap fun | .tmp t=>some t | _=>none)++(match o.guard with
  | some (g,_)=>((ops[g]?).bind (·.dst)).toList
  | none=>[])
theorem Ga {ops:List Oper}{i:Nat}{o:Oper}(ho:ops[i]?=some o):(o,i)∈ops.zipIdx:=by
 rw[RE];exact⟨i,by rw[List.getElem?_zipIdx,ho];simp⟩
def CL (ops:List Oper)(j:Nat):Option Tmp:=(ops[j]?).bind (·.dst)
def pt (ops:List Oper)(vals:Nat→AV)(lst:Nat→Bool)(T:List AV):Nat→List AV
 | 0=>T
 | n+1=>if lst n then Bp (pt ops vals lst T n) (CL ops n) (vals n)else pt ops vals lst T n
theorem K5 (T:List AV)(d:Option Tmp)(v:AV):(Bp T d v).length=T.length:=by cases d<;>simp[Bp]
theorem HL {ops:List Oper}{vals:Nat→AV}{lst:Nat→Bool}{T:List AV}:∀n,(pt ops vals lst T n).length=T.length
 | 0=>rfl
 | n+1=>by simp only[pt];split<;>simp[K5,HL n]
theorem HV {T:List AV}{d:Option Tmp}{v:AV}{t:Nat}(h:d≠some t):(Bp T d v)[t]?=T[t]?:=by
 cases d with
 | none=>rfl
 | some d=>simp only[Bp];rw[L2 (λe=>h (by rw[e]))]
theorem N0 {ops:List Oper}{vals:Nat→AV}{lst lst':Nat→Bool}{T:List AV}{t:Nat}:∀n,(∀j,j<n→CL ops j=some t→lst j=lst' j)→(pt ops vals lst T n)[t]?=(pt ops vals lst' T n)[t]?
 | 0,_=>rfl
 | n+1,h=>by
  have ih:=N0 (vals:=vals) (T:=T) n (λj hj hd=>h j (by omega) hd)
  by_cases hd:CL ops n=some t
  ·have he:=h n (by omega) hd
   simp only[pt,he]
   split
   ·rw[hd]
    simp only[Bp,List.getElem?_set];simp[HL]
   ·exact ih
  ·have side:∀l:Nat→Bool,(pt ops vals l T (n+1))[t]?=(pt ops vals l T n)[t]?:=λl=>by
    simp only[pt]
    split
    ·exact HV hd
    ·rfl
   rw[side,side];exact ih
theorem KU {ops:List Oper}{vals:Nat→AV}{lst lst':Nat→Bool}{T:List AV}:∀n,(∀j,j<n→lst j=lst' j)→pt ops vals lst T n=pt ops vals lst' T n
 | 0,_=>rfl
 | n+1,h=>by simp only[pt];rw[KU n (λj hj=>h j (by omega))];simp only[h n (by omega)]
theorem My {T:List AV}{d e:Option Tmp}{v u:AV}(h:∀x,d=some x→e≠some x):Bp (Bp T d v) e u=Bp (Bp T e u) d v:=by
 cases d with
 | none=>rfl
 | some d=>cases e with
  | none=>rfl
  | some e=>simp only[Bp];exact List.set_comm _ _ (λhe=>h d rfl (by rw[he]))
theorem MH {ops:List Oper}{vals:Nat→AV}{T:List AV}{i:Nat}:∀n,i≤n→pt ops vals (λj=>decide (j<i)) T n=pt ops vals (λ_=>true) T i:=by
  have low:∀m,m≤i→pt ops vals (λj=>decide (j<i)) T m=pt ops vals (λ_=>true) T m:=by
    intro m
    induction m with
    | zero=>intro _;rfl
    | succ m ih=>intro hm;simp only[pt];rw[ih (by omega)];simp[show m<i by omega]
  intro n hn
  induction n with
  | zero => have : i = 0 := by omega
            subst this;rfl
  | succ n ih=>
    rcases Ry n i with h | h
    · have:i=n+1:=by omega
      subst this;exact low _ (Rx _)
    · simp only[pt];rw[if_neg (by simp;omega)];exact ih h
def Dx (lst:Nat→Bool)(i:Nat):Nat→Bool:=λj=>if j=i then true else lst j
theorem Nz {ops:List Oper}{vals:Nat→AV}{lst:Nat→Bool}{T:List AV}{i:Nat}(hl:lst i=false):∀n,(∀j,i<j→j<n→lst j=true→∀x,CL ops i=some x→CL ops j≠some x)→
  pt ops vals (Dx lst i) T n=if i<n then Bp (pt ops vals lst T n) (CL ops i) (vals i)else pt ops vals lst T n
 | 0,_=>by simp[pt]
 | n+1,h=>by
  have ih:=Nz (vals:=vals) (T:=T) hl n (λj h1 h2=>h j h1 (by omega));rcases Nat.lt_trichotomy n i with hlt | he | hgt
  ·rw[if_neg (by omega)]at ih
   rw[if_neg (by omega)];simp only[pt,ih,Dx];rw[if_neg (show ¬n=i by omega)]
  ·subst he
   rw[if_neg (by omega)]at ih;rw[if_pos (by omega)];simp only[pt,ih,Dx,if_true,hl,An]
  ·rw[if_pos hgt]at ih
   rw[if_pos (by omega)];simp only[pt,ih,Dx];rw[if_neg (show ¬n=i by omega)]
   split
   ·rename_i hn
    exact My (h n hgt (by omega) hn)
   ·rfl
theorem Ji {ops:List Oper}{T T':List AV}{o:Oper}(h:∀t∈Fj ops o,T[t]?=T'[t]?):A0 ops.toArray T o=A0 ops.toArray T' o:=by
 unfold A0;cases hg:o.guard with
 | none=>rfl
 | some gw=>
  obtain⟨g,want⟩:=gw;simp only
  congr 1
  unfold Hw;cases hd:(ops.toArray[g]?).bind (·.dst)with
  | none=>rfl
  | some d=>
   have hm:d∈Fj ops o:=by
    unfold Fj;rw[hg];simp only[RN]
    right
    have:(ops[g]?).bind (·.dst)=some d:=by simpa using hd
    simp[this]
   simp only[h d hm]
theorem Fu {ops:List Oper}{T T':List AV}{o:Oper}(h:∀t∈Fj ops o,T[t]?=T'[t]?):∀x∈o.op.operands.toList,Au T x=Au T' x:=by
 intro x hx;cases x with
 | tmp t=>
  simp only[Au,RM];rw[h t];unfold Fj;simp only[RN];exact .inl (.inr (List.mem_filterMap.2 ⟨.tmp t,hx,rfl⟩))
 | _=>rfl
theorem Do {L:Array Bool}{j:Nat}(h:j<L.size):L.getD j true=L.getD j false:=by simp[Sf,h]
end
end
section
def EV (f:AV→Option AV):List AV→Option (List AV)
 | []=>some []
 | a::r=>match f a,EV f r with
  | some x,some xs=>some (x::xs)
  | _,_=>none
def Fg (X:AH):Nat→AV→Option AV
 | 0,_=>none
 | n+1,a=>match a with
  | .lit v=>some (.lit v)
  | .ptr o off=>match X[o]? with
   | some (some (.cells cs))=>(EV (Fg X n) (cs.drop off)).map .ip
   | _=>none
  | .ip cs=>(EV (Fg X n) cs).map .ip
  | .sl o off len esz _=>match X[o]? with
   | some (some (.cells cs))=>(EV (Fg X n) ((cs.drop off).take (len*esz))).map (.imm · len esz)
   | _=>none
  | .imm cs len esz=>(EV (Fg X n) cs).map (.imm · len esz)
  | .mp _=>none
  | .agg cs=>(EV (Fg X n) cs).map .agg
  | .tup cs=>(EV (Fg X n) cs).map .tup
  | .fn f a b=>match EV (Fg X n) a,EV (Fg X n) b with
   | some a,some b=>some (.fn f a b)
   | _,_=>none
  | .emp=>some .emp
  | .junk=>some .junk
theorem Da {G' G'':Cfg}{f:AV→Option AV}(hf:∀a v r,VR G' a v→f a=some r→VR G'' r v):∀{as rs:List AV} {vs:List Value},VRs G' as vs→EV f as=some rs→VRs G'' rs vs
 | [],rs,vs,h,he=>by
  simp only[EV]at he;injection he with he;subst he
  simpa only[VRs]using h
 | a::as,rs,vs,h,he=>by
  simp only[EV]at he;split at he
  ·rename_i x xs hx hxs
   injection he with he;subst he;simp only[VRs]at h⊢;obtain⟨v,r,e,h1,h2⟩:=h;exact⟨v,r,e,hf _ _ _ h1 hx,Da hf h2 hxs⟩
  ·cases he
theorem Has.move {G' G'':Cfg}(hw:G''.w=G'.w)(hp:∀b,¬(G'.L b∨G'.K b)→¬(G''.L b∨G''.K b)){ad:Addr}{vs:List Value}(h:Has G' ad vs):Has G'' ad vs:=by
 rcases h with h | ⟨h1,h2⟩
 ·exact .inl h
 ·refine .inr ⟨hp _ h1,?_⟩
  rw[hw];exact h2
theorem Has.of_obj {G' G'':Cfg}(hw:G''.w=G'.w){X:AH}(hr:HR G' X){o:Nat}{cs:List AV}(ho:X[o]?=some (some (.cells cs)))(hN:¬(G''.L (G'.μ o).1∨G''.K (G'.μ o).1))(off:Nat):
  ∃vs,VRs G' (cs.drop off) vs∧Has G'' ⟨(G'.μ o).1,(G'.μ o).2.1+off,none⟩ vs:=by
 obtain⟨c,e,vs,h1,h2,h3,h4,h5⟩:=hr.obj o _ ho;refine⟨vs.drop off,h4.drop off,.inr ⟨hN,λi v hv=>?_⟩⟩;rw[RQ]at hv;obtain⟨a,b⟩:=h5 _ _ hv;refine⟨?_,b⟩;rw[Addr.add_lit,hw];unfold World.cell?;rw[h1]
 simpa[Sc]using a
theorem L1 {G' G'':Cfg}(hw:G''.w=G'.w)(hp:∀b,¬(G'.L b∨G'.K b)→¬(G''.L b∨G''.K b)){X:AH}(hr:HR G' X)(hX:∀(o:Nat) (x:AObj),X[o]?=some (some x)→¬(G''.L (G'.μ o).1∨G''.K (G'.μ o).1)):
  ∀(n:Nat) (a:AV) (v:Value) (r:AV),VR G' a v→Fg X n a=some r→VR G'' r v
 | 0,a,v,r,h,he=>by cases he
 | n+1,a,v,r,h,he=>by
  have ih:=L1 hw hp hr hX n;cases a with
  | lit u=>simp only[Fg]at he;injection he with he;subst he;simpa only[VR]using h
  | ptr o off=>
   simp only[Fg]at he;split at he
   ·rename_i cs ho
    obtain⟨rs,hrs,rfl⟩:=Option.map_eq_some_iff.1 he;simp only[VR]at h⊢;obtain⟨vs,h1,h2⟩:=Has.of_obj hw hr ho (hX _ _ ho) off;exact⟨_,vs,h.2,h2,Da ih h1 hrs⟩
   ·cases he
  | ip cs=>
   simp only[Fg]at he;obtain⟨rs,hrs,rfl⟩:=Option.map_eq_some_iff.1 he;simp only[VR]at h⊢;obtain⟨ad,vs,e,h1,h2⟩:=h;exact⟨ad,vs,e,h1.move hw hp,Da ih h2 hrs⟩
  | sl o off len esz cap=>
   simp only[Fg]at he;split at he
   ·rename_i cs ho
    obtain⟨rs,hrs,rfl⟩:=Option.map_eq_some_iff.1 he;simp only[VR]at h⊢;obtain⟨ho',a,c,rfl,hlc,hs⟩:=h;obtain⟨vs,h1,h2⟩:=Has.of_obj hw hr ho (hX _ _ ho) off
    by_cases hz:len*esz=0
    ·rw[hz]at hrs
     simp only[List.take_zero,EV]at hrs;injection hrs with hrs;subst hrs;exact⟨a,c,[],rfl,hlc,.inl rfl,.nil⟩
    ·have ha:a=⟨(G'.μ o).1,(G'.μ o).2.1+off,none⟩:=by
      have hlen:len≠0:=λh0=>hz (by rw[h0,Nat.zero_mul])
      unfold Gb at hs;split at hs
      ·obtain⟨rfl,h0 | h0⟩:=hs
       ·omega
       ·exact h0.1
      ·rcases hs with⟨_,h0 | h0⟩
       ·omega
       ·exact h0.1
     refine⟨a,c,vs.take (len*esz),rfl,hlc,?_,Da ih (h1.take _) hrs⟩;rw[ha];exact h2.take _
   ·cases he
  | imm cs len esz=>
   simp only[Fg]at he;obtain⟨rs,hrs,rfl⟩:=Option.map_eq_some_iff.1 he;simp only[VR]at h⊢;obtain⟨ad,c,vs,e,hl,h1,h2⟩:=h;exact⟨ad,c,vs,e,hl,h1.move hw hp,Da ih h2 hrs⟩
  | mp o=>cases he
  | agg cs=>
   simp only[Fg]at he;obtain⟨rs,hrs,rfl⟩:=Option.map_eq_some_iff.1 he;simp only[VR]at h⊢;obtain⟨vs,e,h2⟩:=h;exact⟨vs,e,Da ih h2 hrs⟩
  | tup cs=>
   simp only[Fg]at he;obtain⟨rs,hrs,rfl⟩:=Option.map_eq_some_iff.1 he;simp only[VR]at h⊢;obtain⟨vs,e,h2⟩:=h;exact⟨vs,e,Da ih h2 hrs⟩
  | fn f a b=>
   simp only[Fg]at he;split at he
   ·rename_i x y hx hy
    injection he with he;subst he;simp only[VR]at h⊢;obtain⟨va,vb,e,h1,h2⟩:=h;exact⟨va,vb,e,Da ih h1 hx,Da ih h2 hy⟩
   ·cases he
  | emp=>simp only[Fg]at he;injection he with he;subst he;simpa only[VR]using h
  | junk=>simp only[Fg]at he;injection he with he;subst he;simp only[VR]
mutual
def noIds:AV→Bool
 | .lit _=>true
 | .ptr ..=>false
 | .ip cs=>Ac cs
 | .sl ..=>false
 | .imm cs _ _=>Ac cs
 | .mp _=>false
 | .agg cs=>Ac cs
 | .tup cs=>Ac cs
 | .fn _ a b=>Ac a&&Ac b
 | .emp=>true
 | .junk=>true
def Ac:List AV→Bool
 | []=>true
 | a::r=>noIds a&&Ac r
end
mutual
theorem ME:∀{a:AV},noIds a=true→JG 0 a
 | .lit _,_=>by simp only[JG]
 | .ptr ..,h=>by simp[noIds]at h
 | .ip cs,h=>by simp only[noIds]at h;simp only[JG];exact B4 h
 | .sl ..,h=>by simp[noIds]at h
 | .imm cs _ _,h=>by simp only[noIds]at h;simp only[JG];exact B4 h
 | .mp _,h=>by simp[noIds]at h
 | .agg cs,h=>by simp only[noIds]at h;simp only[JG];exact B4 h
 | .tup cs,h=>by simp only[noIds]at h;simp only[JG];exact B4 h
 | .fn _ a b,h=>by simp only[noIds,R9]at h;simp only[JG];exact⟨B4 h.1,B4 h.2⟩
 | .emp,_=>by simp only[JG]
 | .junk,_=>by simp only[JG]
theorem B4:∀{as:List AV},Ac as=true→GA 0 as
 | [],_=>by simp only[GA]
 | a::r,h=>by simp only[Ac,R9]at h;simp only[GA];exact⟨ME h.1,B4 h.2⟩
end
section
variable {P : Program}
theorem Jy {G:Cfg}{G':Cfg}(hw:G'.w=G.w)(hL:∀b,¬G'.L b)(hK:∀b,G'.K b→G.L b∨G.K b){ad:Addr}{vs:List Value}(h:Has G ad vs):Has G' ad vs:=
 Has.move hw (λb hn hh=>hn (hh.elim (λh=>(hL b h).elim) (hK b))) h
def Cfg.alien (G:Cfg):Cfg:={w:=G.w,n:=0,μ:=G.μ,L:=λ_=>False,K:=λb=>G.L b∨G.K b}
mutual
theorem VR.alien {G:Cfg}:∀{a:AV} {v:Value},VR G a v→JG 0 a→VR G.alien a v
 | .lit _,_,hv,_=>by simpa only[VR]using hv
 | .ptr o off,v,hv,hb=>by simp only[JG]at hb;omega
 | .ip cs,v,hv,hb=>by simp only[VR]at hv⊢;simp only[JG]at hb;obtain⟨x,y,z,t,h⟩:=hv;exact⟨x,y,z,Jy (G:=G) (G':=G.alien) rfl (λ_ h=>h) (λ_ h=>h) t,VRs.alien h hb⟩
 | .sl o off len esz cap,v,hv,hb=>by simp only[JG]at hb;omega
 | .imm cs len esz,v,hv,hb=>by simp only[VR]at hv⊢;simp only[JG]at hb;obtain⟨x,y,z,t,u,s,h⟩:=hv;exact⟨x,y,z,t,u,Jy (G:=G) (G':=G.alien) rfl (λ_ h=>h) (λ_ h=>h) s,VRs.alien h hb⟩
 | .mp o,v,hv,hb=>by simp only[JG]at hb;omega
 | .agg cs,v,hv,hb=>by simp only[VR]at hv⊢;simp only[JG]at hb;obtain⟨x,y,h⟩:=hv;exact⟨x,y,VRs.alien h hb⟩
 | .tup cs,v,hv,hb=>by simp only[VR]at hv⊢;simp only[JG]at hb;obtain⟨x,y,h⟩:=hv;exact⟨x,y,VRs.alien h hb⟩
 | .fn f a b,v,hv,hb=>by simp only[VR]at hv⊢;simp only[JG]at hb;obtain⟨x,y,z,h,k⟩:=hv;exact⟨x,y,z,VRs.alien h hb.1,VRs.alien k hb.2⟩
 | .emp,_,hv,_=>by simpa only[VR]using hv
 | .junk,_,_,_=>by simp only[VR]
theorem VRs.alien {G:Cfg}:∀{as:List AV} {vs:List Value},VRs G as vs→GA 0 as→VRs G.alien as vs
 | [],_,hv,_=>by simpa only[VRs]using hv
 | a::as,vs,hv,hb=>by simp only[VRs]at hv⊢;simp only[GA]at hb;obtain⟨x,y,z,h,k⟩:=hv;exact⟨x,y,z,VR.alien h hb.1,VRs.alien k hb.2⟩
end
theorem ACalls.pure {f:FuncId}{args:List AV}{R:AV→AH→Prop}{R':AV→Prop}(h:ACalls P f args [] R)(hb:GA 0 args)(hR:∀r X,R r X→∃n r',Fg X n r=some r'∧R' r')(H:AH):
  ACalls P f args H λr' H'=>R' r'∧H'=H:=by
 intro G vs hH hv
 have h0:HR G.alien []:=⟨rfl,λo x h=>by simp at h,λo o' x x' h=>by simp at h,λo x h=>by simp at h,λb h=>by
  rcases h with h | h
  ·exact h.elim
  ·exact hH.lt b h,λb h=>h.elim⟩
 refine(h G.alien vs h0 (hv.alien hb)).mono ?_;rintro e w' ⟨r,X,G',v,rfl,rfl,hE,hx,hX,hq⟩;obtain⟨n,r',hf,hr'⟩:=hR r X hq;have keep:∀k,k<G.w.heap.size→G'.w.heap[k]?=G.w.heap[k]?∧¬G'.L k:=λk hk=>hE.keep k hk (λh=>h)
 let G'':Cfg:={w:=G'.w,n:=G.n,μ:=G.μ,L:=G.L,K:=G.K}
 have hE':Evo G G'':=⟨hE.os,hE.tape,hE.output,hE.size,λk hk hL=>⟨(keep k hk).1,hL⟩,Rx _,λ_ _=>rfl,rfl⟩;refine⟨r',H,G'',v,rfl,rfl,hE',?_,?_,hr',rfl⟩
 ·refine L1 (G':=G') (G'':=G'') rfl ?_ hX ?_ n r v r' hx hf
  ·intro b hn hh
   refine hn (.inr ?_);rw[hE.K];exact hh
  ·intro o x ho hh
   have h1:=hX.live o x ho;have h2:(G'.μ o).1<G.w.heap.size:=hH.lt _ hh;exact(keep _ h2).2 h1
 ·exact⟨hH.n,λo x ho=>OR.evo hE' (hH.lt_n ho) (keep _ (hH.lt _ (.inl (hH.live _ _ ho)))).1 (hH.obj o x ho),hH.inj,hH.live,λb hb=>RZ (hH.lt b hb) hE.size,hH.dis⟩
theorem Mq {G:Cfg}{ρ:Operand→AV}{ρc:Operand→Value}(hf:∀x,VR G (ρ x) (ρc x)){o:Oper}{k:FuncId}{args:List AV}(h:BD ρ o=some (k,args))(w:World):
  ∃vs:List Value,VRs G args vs∧(execOp ρc o).run P w=(callFunc k vs.toArray).run P w:=by
 obtain⟨dst,op,type,pos,after,guard⟩:=o;unfold BD at h;split at h
 ·rename_i f args' ats hop
  simp only at hop;subst hop;split at h
  ·rename_i k' first cap hfn
   injection h with h;injection h with h1 h2;subst h1;subst h2;have hv:=hf f;rw[hfn]at hv;simp only[VR]at hv;obtain⟨va,vb,hv,ha,hb⟩:=hv;have hm:=VRs.map_ops hf args'.toList;refine⟨va.toList++args'.toList.map ρc++vb.toList,(ha.append hm).append hb,?_⟩
   have he:(va.toList++args'.toList.map ρc++vb.toList).toArray=va++args'.map ρc++vb:=by
    apply Array.ext';simp
   rw[he];simp[execOp,resolve,hv,Deferred.ofValue,invoke]
  ·cases h
 ·cases h
theorem AOps.extern {ops:Array Oper}{Q:AQ}{o:Oper}{rest:List Oper}{T:List AV}{H:AH}{k:FuncId}{args:List AV}{r:AV}(hw:A0 ops T o=some true)(h:BD (Au T) o=some (k,args))
  (hk:∀(G:Cfg) (vs:List Value),HR G H→VRs G args vs→∃u,(callFunc k vs.toArray).run P G.w=.ok (.value u) G.w∧VR G r u) (hr:AOps P ops Q rest (Bp T o.dst r) H):AOps P ops Q (o::rest) T H:=by
 intro G0 G a ρ hE hF hd hH;unfold wpListIn;rw[if_pos (CQ hF hw)];obtain⟨vs,hvs,hrun⟩:=Mq (P:=P) (λx=>hF.eval x) h G.w;obtain⟨u,hu,hx⟩:=hk G vs hH hvs;refine⟨λ_ _=>trivial,?_⟩;rw[Oper.semAt_eq _ _ _ (Er h),hrun,hu];exact hr G0 G _ ρ hE (hF.put o.dst hx) (hd.put _ _) hH
end
end
section
section
variable {P : Program}
theorem Kv {ρ ρ':Operand→AV}{o:Oper}(h:∀x∈o.op.operands.toList,ρ x=ρ' x):BD ρ o=BD ρ' o:=by
 obtain⟨dst,op,type,pos,after,guard⟩:=o;cases op
 case call c=>
  obtain⟨callee,args,ats⟩:=c;cases callee
  case value f=>
   simp only[BD];rw[h f (by simp[Op.operands,Call.operands]),Db args.toList (λx hx=>h x (by simp[Op.operands,Call.operands];exact .inr (Array.mem_toList_iff.1 hx)))]
  all_goals rfl
 all_goals rfl
def Cd (P:Program)(ρ:Operand→AV)(o:Oper):Option AV:=
 match o.op with
 | .buildSlice t len parts=>match BC P [] t len (parts.toList.map λp=>(p.1,ρ p.2))with
  | some (.sl _ _ l esz _,[some (.cells cs)])=>some (.imm cs l esz)
  | _=>none
 | _=>none
theorem Ik {ρ:Operand→AV}{o:Oper}{r:AV}(h:Cd P ρ o=some r)(c:Call):o.op≠.defer c:=by
 intro hc;simp[Cd,hc]at h
abbrev RK:=@Prod.mk.injEq
theorem Ln {G:Cfg}{ρ:Operand→AV}{ρc:Operand→Value}{H:AH}(hr:HR G H)(hf:∀x,VR G (ρ x) (ρc x)){o:Oper}{r:AV}(h:Cd P ρ o=some r):
  ∃(G':Cfg) (u:Value),(execOp ρc o).run P G.w=.ok (.value u) G'.w∧Evo G G'∧VR G' r u∧HR G' H:=by
 obtain⟨dst,op,type,pos,after,guard⟩:=o;unfold Cd at h;split at h
 ·rename_i t len parts hop
  simp only at hop;subst hop;obtain⟨e1,e2⟩:=VRs.map_parts hf parts.toList;split at h
  ·rename_i l esz cs hb
   injection h with h;subst h;unfold BC at hb;split at hb
   ·rename_i e hu
    split at hb
    ·rename_i i hi
     split at hb
     ·rename_i z hz
      split at hb
      ·rename_i hbb
       obtain⟨h0,h4,h5,h6⟩:=hbb;obtain⟨cs',hcs,he⟩:=Option.map_eq_some_iff.1 hb;simp only[RK,AV.sl.injEq,List.nil_append,S2,So,AObj.cells.injEq,and_true]at he;obtain⟨⟨-,-,rfl,rfl,-⟩,rfl⟩:=he;have hz0:z.cells.size≠0:=by rw[h4];exact h5
       have hv:=EM (G:=G) (z:=z.cells) len hz0;rw[h4]at hv;obtain⟨us,hus,hR⟩:=Fv (parts.toList.map λp=>(p.1,ρ p.2)) (parts.map fun (i,x)=>(i,ρc x)).toList _ (madeCells z.cells (len*i.size)) cs' (by rw[Sb];exact e1) (by rw[Sb];exact e2) hv hcs;have hone:=II _ _ us (Dn (by rw[Sb];exact e2) hcs) (F7 _ (λu hu=>R5.1 h6 u hu) hz0) hus
       let G1:Cfg:={G with w:=G.w.alloc (.cells us e)}
       have hE:Evo G G1:=⟨rfl,rfl,rfl,by simp[G1],λk hk hL=>⟨Below.heap_alloc _ _ _ hk,hL⟩,Rx _,λ_ _=>rfl,rfl⟩;refine⟨G1,.slice (some ⟨G.w.heap.size,0,none⟩) len len,?_,hE,?_,?_⟩
       ·have hzi:(P.info? e).bind (·.zero)=some z:=by rw[hi];exact hz
        have hn:¬(16777216<len*i.size):=by omega
        by_cases hl:len*i.size=0
        ·have hm0:madeCells z.cells 0= #[]:=by simp[madeCells]
         rw[hl,hm0]at hus;have hr0:Array.range 0= #[]:=rfl;simp at hus;simp[execOp,hr0,Instr.buildSlice,run_underlying hu,sizeOf,typeInfo,hi,hl,hus,newRow,G1]
        ·have:=hus
         unfold madeCells at this;simp at this;simp[execOp,Instr.buildSlice,run_underlying hu,sizeOf,typeInfo,hi,hn,hl,AU hzi,this,newRow,G1]
       ·simp only[VR]
        refine⟨_,_,us.toList,rfl,Rx _,.inr ⟨λhL=>?_,λi v hv=>?_⟩,hR.evo hE⟩
        ·have:=hr.lt _ hL;simp at this
        ·refine⟨?_,hone v (Rw hv)⟩
         rw[Addr.add_lit];unfold World.cell?;rw[show G1.w.heap[G.w.heap.size]?=some (.cells us e)from heap_alloc_new G.w _]
         simpa using hv
       ·exact⟨hr.n,λo x ho=>OR.evo hE (hr.lt_n ho) (Below.heap_alloc _ _ _ (hr.lt _ (.inl (hr.live _ _ ho)))) (hr.obj o x ho),hr.inj,hr.live,λb hb=>by have:=hr.lt b hb;simp[G1];omega,hr.dis⟩
      ·cases hb
     ·cases hb
    ·cases hb
   ·cases hb
  ·cases h
 ·cases h
theorem Jf {ρ ρ':Operand→AV}{o:Oper}(h:∀x∈o.op.operands.toList,ρ x=ρ' x):Cd P ρ o=Cd P ρ' o:=by
 obtain⟨dst,op,type,pos,after,guard⟩:=o;cases op
 case buildSlice t n ps=>
  have:(ps.toList.map λp=>(p.1,ρ p.2))=(ps.toList.map λp=>(p.1,ρ' p.2)):=
   SI λp hm=>by rw[h p.2 (by simp[Op.operands];exact⟨p.1,by simpa using hm⟩)]
  simp only[Cd];rw[this]
 all_goals rfl
def I1 (P:Program)(T:List AV)(H:AH)(o:Oper)(R:AV→AH→Prop):Prop:=
 (∃r H',AT P (Au T) H o=some (r,H')∧R r H')∨(∃r,Cd P (Au T) o=some r∧R r H)∨∃k args,BD (Au T) o=some (k,args)∧B0 P k=true∧ACalls P k args H R
structure Ord (ops:List Oper):Prop where
 down:E1 ops=true
 ord:∀i j oi oj d,ops[i]?=some oi→ops[j]?=some oj→i≠j→oj.dst=some d→d∈Fj ops oi→((Bk ops []).getD (max i j) 0).testBit (min i j)=true
def FA (ops:List Oper):Bool:=
 let b:=Bk ops []
 E1 ops&&
 (ops.zipIdx.all λp=>ops.zipIdx.all λq=>(p.2==q.2)||(match q.1.dst with
  | some d=> !(Fj ops p.1).contains d||(b.getD (max p.2 q.2) 0).testBit (min p.2 q.2)
  | none=>true))
abbrev SE:=@Bool.or_eq_true
theorem He {ops:List Oper}(h:FA ops=true):Ord ops:=by
 unfold FA at h;simp only[R9]at h;obtain⟨h1,h3⟩:=h;refine⟨h1,λi j oi oj d hi hj hne hd hl=>?_⟩
 have:=R5.1 (R5.1 h3 _ (Ga hi)) _ (Ga hj)
 simp only[hd]at this;simp only[SE,beq_iff_eq,Bool.not_eq_true',List.contains_eq_mem,decide_eq_false_iff_not]at this;rcases this with h | h | h
 ·exact absurd h hne
 ·exact absurd hl h
 ·exact h
def PC (ops:List Oper)(S:Nat→Bool)(i:Nat)(o:Oper):Prop:=
 ops[i]?=some o∧JH ops S∧S i=false∧∀e∈o.after,Region.binds .any e=true→S e.on=true
def O0 (P:Program)(ops:List Oper)(T:List AV){Ω:Type}(Ok:Ω→(Nat→Bool)→Prop)(vals:Ω→Nat→AV)(HS:Ω→(Nat→Bool)→AH):Prop:=
 ∀ω S i o,PC ops S i o→Ok ω S→
  ∃b,A0 ops.toArray (pt ops (vals ω) (λ_=>true) T i) o=some b∧
   (b=true→I1 P (pt ops (vals ω) (λ_=>true) T i) (HS ω S) o λr H'=>∃ω',Ok ω' (Dx S i)∧(∀j,S j=true→vals ω' j=vals ω j)∧vals ω' i=r∧HS ω' (Dx S i)=H')∧
   (b=false→∃ω',Ok ω' (Dx S i)∧(∀j,S j=true→vals ω' j=vals ω j)∧vals ω' i=Ad∧HS ω' (Dx S i)=HS ω S)
theorem Mj {ops:List Oper}{vals vals':Nat→AV}{lst:Nat→Bool}{T:List AV}(h:∀j,lst j=true→vals' j=vals j):∀n,pt ops vals' lst T n=pt ops vals lst T n
 | 0=>rfl
 | n+1=>by
  simp only[pt,Mj h n]
  split
  ·rename_i hn;rw[h n hn]
  ·rfl
abbrev Rp:=And.intro @Bool.not_false @if_true.{1}
abbrev Rq:=And.intro @Array.getD_eq_getD_getElem?.{0} @Option.getD_some.{0}
abbrev SF:=@Nat.min_eq_left
theorem MO {ops:List Oper}(hk:Ord ops){T:List AV}{Ω:Type}{Ok:Ω→(Nat→Bool)→Prop}{vals:Ω→Nat→AV}{HS:Ω→(Nat→Bool)→AH}(hs:O0 P ops T Ok vals HS){Q:AQ}{G0:Cfg}
  (last:∀ω S,(∀j,j<ops.length→S j=true)→Ok ω S→Q .normal (pt ops (vals ω) (λ_=>true) T ops.length) (HS ω S)):
  ∀(d:Nat) (listed:Array Bool) (a:Act) (G:Cfg) (ρ:Oz) (ω:Ω),listed.size=ops.length→listed.toList.countP (λb=>!b)=d→
   JH ops (λj=>listed.getD j false)→Ok ω (λj=>listed.getD j false)→Evo G0 G→FR G (pt ops (vals ω) (λj=>listed.getD j false) T ops.length) a→DF G ρ a→HR G (HS ω λj=>listed.getD j false)→
   wpAnyIn (FW ρ.1) 0 P .any ops.toArray (Jw G0 ρ Q) d listed a G.w:=by
 intro d
 induction d with
 | zero=>
  intro listed a G ρ ω hsz hcnt hcl hok hE hF hd hH
  have all:∀j,j<ops.length→listed.getD j false=true:=by
   intro j hj;have hs:j<listed.size:=by omega
   have:=List.countP_eq_zero.1 hcnt listed[j] (by simp)
   simp only[Rq,RX hs]
   simpa using this
  refine⟨?_,?_⟩
  ·rw[List.eq_nil_iff_forall_not_mem]
   intro i hi;obtain⟨h0,o,ho,_⟩:=mem_ready.1 hi;have hlt:i<ops.length:=by simpa using(Array.getElem?_eq_some_iff.1 ho).1
   rw[Do (by omega),all i hlt]at h0;cases h0
  ·have e:pt ops (vals ω) (λj=>listed.getD j false) T ops.length=pt ops (vals ω) (λ_=>true) T ops.length:=
    KU _ λm hm=>all m hm
   rw[e]at hF;exact EA (last ω _ all hok) hE hF hd hH
 | succ d ih=>
  intro listed a G ρ ω hsz hcnt hcl hok hE hF hd hH
  have hex:∃j,j<ops.length∧listed.getD j false=false∧∀i,i<j→listed.getD i false=true:=by
   have:∃j,j<ops.length∧listed.getD j false=false:=by
    apply RS;intro hn
    have:listed.toList.countP (λb=>!b)=0:=by
     refine List.countP_eq_zero.2 λb hb=>?_
     obtain⟨j,hj,rfl⟩:=List.mem_iff_getElem.1 hb;have hj':j<listed.size:=by simpa using hj
     cases h:listed[j]with
     | true=>simp[h]
     | false=>
      exfalso
      refine hn ⟨j,by omega,?_⟩;simp[Sf,hj',h]
    omega
   obtain⟨j,hj⟩:=this
   induction j using Nat.strongRecOn with
   | _ j ihj=>
    by_cases h:∃i,i<j∧listed.getD i false=false
    ·obtain⟨i,h1,h2⟩:=h
     exact ihj i h1 ⟨by omega,h2⟩
    ·exact⟨j,hj.1,hj.2,λi hi=>by
      cases h':listed.getD i false with
      | true=>rfl
      | false=>exact absurd ⟨i,hi,h'⟩ h⟩
  obtain⟨j0,hlt,hj0,hbelow⟩:=hex;refine⟨λhnil=>?_,λi hi=>?_⟩
  ·exfalso
   have hin:j0∈Region.ready .any ops.toArray listed:=by
    refine mem_ready.2 ⟨by rw[Do (by omega)];exact hj0,ops[j0],by simp[hlt],λe he hb=>?_⟩;exact hbelow _ (GI hk.down (Cq hlt) he hb)
   rw[hnil]at hin;cases hin
  ·obtain⟨h0,o,ho,hmet⟩:=mem_ready.1 hi
   have ho':ops[i]?=some o:=by simpa using ho
   have hil:i<ops.length:=(Et.1 ho').1;have his:i<listed.size:=by omega
   rw[Do his]at h0
   have hord:∀(j:Nat) (t:Tmp),j<ops.length→CL ops j=some t→t∈Fj ops o→listed.getD j false=decide (j<i):=by
    intro j t hj hdj ht;have hoj:ops[j]?=some ops[j]:=Cq hj
    have hdst:ops[j].dst=some t:=by
     unfold CL at hdj;rw[hoj]at hdj;exact hdj
    rcases Nat.lt_trichotomy j i with h | h | h
    ·have hb:=hk.ord i j o _ t ho' hoj (by omega) hdst ht
     rw[Nat.max_eq_left (by omega),Nat.min_eq_right (by omega)]at hb
     have:=Dh hk.down hcl i o ho' hmet j hb
     try simp only at this
     rw[this];simp[h]
    ·subst h;rw[h0];simp
    ·have hb:=hk.ord i j o _ t ho' hoj (by omega) hdst ht
     rw[Nat.max_eq_right (by omega),SF (by omega)]at hb;cases hlj:listed.getD j false with
     | false=>simp;omega
     | true=>
      exfalso
      have:=Dh hk.down hcl j _ hoj (λe he hb'=>hcl j _ hoj hlj e he hb') i hb
      try simp only at this
      rw[h0]at this;cases this
   have hget:∀t∈Fj ops o,(pt ops (vals ω) (λj=>listed.getD j false) T ops.length)[t]?=(pt ops (vals ω) (λ_=>true) T i)[t]?:=by
    intro t ht;rw[← MH (i:=i) ops.length (by omega)];exact N0 ops.length (λj hj hdj=>hord j t hj hdj ht)
   obtain⟨b,hb,hb1,hb0⟩:=hs ω (λj=>listed.getD j false) i o ⟨ho',hcl,h0,hmet⟩ hok;rw[← Ji hget]at hb
   have hlst':(λj=>(listed.setIfInBounds i true).getD j false)=Dx (λj=>listed.getD j false) i:=by
    funext j
    unfold Dx
    by_cases hji:j=i
    ·subst hji;simp[Sf,his]
    ·rw[if_neg hji,getD_set_ne false (Ne.symm hji)]
   have hadd:∀ω',(∀j,listed.getD j false=true→vals ω' j=vals ω j)→pt ops (vals ω') (Dx (λj=>listed.getD j false) i) T ops.length=Bp (pt ops (vals ω) (λj=>listed.getD j false) T ops.length) o.dst (vals ω' i):=by
    intro ω' hv;rw[Nz (by simpa using h0) ops.length,if_pos hil,Mj hv]
    ·simp[CL,ho']
    ·intro j h1 h2 h3 x hx hxj
     have hdx:o.dst=some x:=by simpa[CL,ho']using hx
     have:=hord j x h2 hxj (by unfold Fj;simp[hdx])
     try simp only at h3
     rw[h3]at this;simp at this;omega
   have next:∀(ω':Ω) (a':Act) (G':Cfg),Ok ω' (Dx (λj=>listed.getD j false) i)→(∀j,listed.getD j false=true→vals ω' j=vals ω j)→Evo G0 G'→
     FR G' (Bp (pt ops (vals ω) (λj=>listed.getD j false) T ops.length) o.dst (vals ω' i)) a'→DF G' ρ a'→HR G' (HS ω' (Dx (λj=>listed.getD j false) i))→
     wpAnyIn (FW ρ.1) 0 P .any ops.toArray (Jw G0 ρ Q) d (listed.setIfInBounds i true) a' G'.w:=by
    intro ω' a' G' hok' hv hE' hF' hd' hH';refine ih _ a' G' ρ ω' (by simpa using hsz) ?_ ?_ (by rw[hlst'];exact hok') hE' ?_ hd' (by rw[hlst'];exact hH')
    ·rw[S0,List.countP_set (by simpa using his)]
     have hli : listed.toList[i]'(by simpa using his)=false:=by
      simp only[Rq,RX his]at h0
      simpa using h0
     rw[hli];simp only[Rp,SA,An];omega
    ·intro j oj hoj hlj e he hbe
     have hlj:Dx (λj=>listed.getD j false) i j=true:=(congrFun hlst' j).symm.trans hlj;refine(congrFun hlst' e.on).trans ?_;unfold Dx at hlj⊢
     split
     ·rfl
     ·by_cases hji:j=i
      ·subst hji
       rw[ho']at hoj;injection hoj with hoj;subst hoj;exact hmet e he hbe
      ·rw[if_neg hji]at hlj
       exact hcl j oj hoj hlj e he hbe
    ·rw[hlst',hadd ω' hv];exact hF'
   unfold wpOpIn;simp only[ho];cases b with
   | true=>
    rw[if_pos (CQ hF hb)];rcases hb1 rfl with⟨r,H',hop,ω',hok',hv,rfl,rfl⟩ | ⟨r,hop,ω',hok',hv,rfl,hH1⟩ | ⟨k,args,hcall,hgo,hc⟩
    ·rw[← Mw (Fu hget)]at hop
     obtain⟨G',u,hrun,hE',hx,hH'⟩:=Nh hH (λx=>hF.eval x) hop;refine⟨λ_ _=>trivial,?_⟩;rw[Oper.semAt_eq _ _ _ (HU hop)];rcases hrun with hrun | ⟨hrun,rfl⟩<;>rw[hrun]<;>exact next ω' _ G' hok' hv (hE.trans hE') ((FR.evo hE' hF).put o.dst hx) ((hd.evo hE' rfl).put _ _) hH'
    ·rw[← Jf (Fu hget)]at hop
     obtain⟨G',u,hrun,hE',hx,hH'⟩:=Ln hH (λx=>hF.eval x) hop;refine⟨λ_ _=>trivial,?_⟩;rw[Oper.semAt_eq _ _ _ (Ik hop),hrun];exact next ω' _ G' hok' hv (hE.trans hE') ((FR.evo hE' hF).put o.dst hx) ((hd.evo hE' rfl).put _ _) (by rw[hH1];exact hH')
    ·rw[← Kv (Fu hget)]at hcall
     obtain⟨vs,hvs,hrun⟩:=Kw (P:=P) (λx=>hF.eval x) hcall hgo G.w;refine⟨λ_ _=>trivial,?_⟩;rw[Oper.semAt_eq _ _ _ (Er hcall),hrun];refine⟨λhn=>(by simp[Fence.wide]at hn),CallsIn.mono (IB ρ.1 (hc G vs hH hvs)) ?_⟩;rintro e w' ⟨r,H',G',v,rfl,rfl,hE',hx,hH',ω',hok',hv,rfl,rfl⟩;exact next ω' _ G' hok' hv (hE.trans hE') ((FR.evo hE' hF).put o.dst hx) ((hd.evo hE' rfl).put _ _) hH'
   | false=>
    rw[if_neg (by rw[CQ hF hb];simp)];obtain⟨ω',hok',hv,hu,hH'⟩:=hb0 rfl;refine⟨λ_ _=>trivial,next ω' _ G hok' hv hE ?_ (hd.put _ _) (by rw[hH'];exact hH)⟩;rw[hu];exact hF.put o.dst (by simp only[Ad,VR])
theorem ACode.drawn {id:Nat}{ops:List Oper}{Q:AQ}{T:List AV}{H:AH}(hm:P.follows .mixedOrders=true)(hk:FA ops=true){Ω:Type}(Ok:Ω→(Nat→Bool)→Prop)(vals:Ω→Nat→AV)(HS:Ω→(Nat→Bool)→AH)
  (ω0:Ω) (h0:Ok ω0 (λ_=>false)) (hH0:HS ω0 (λ_=>false)=H) (hs:O0 P ops T Ok vals HS)
  (last:∀ω S,(∀j,j<ops.length→S j=true)→Ok ω S→Q .normal (pt ops (vals ω) (λ_=>true) T ops.length) (HS ω S)):ACode P (.region id ops.toArray true) Q T H:=by
 intro G0 G a ρ hE hF hd hH;refine wpIn_region_any hm ?_
 have hz0:(λj=>(Array.replicate ops.toArray.size false).getD j false)=λ_=>false:=by
  funext j
  simp only[Sf,Array.getElem?_replicate]
  split<;>simp
 have hF0:FR {G with w:=G.w.drew} (pt ops (vals ω0) (λj=>(Array.replicate ops.toArray.size false).getD j false) T ops.length) a:=by
  have hz:∀m,pt ops (vals ω0) (λ_=>false) T m=T:=by
   intro m
   induction m with
   | zero=>rfl
   | succ m ih=>simp only[pt];rw[if_neg (by simp),ih]
  rw[hz0,hz];exact FR.evo (Evo.drew G) hF
 refine MO (He hk) hs last ops.toArray.size (Array.replicate ops.toArray.size false) a {G with w:=G.w.drew} ρ ω0 (by simp) (by simp[List.countP_replicate]) ?_ ?_ (hE.trans (Evo.drew G)) hF0 (hd.evo (Evo.drew G) rfl) ?_
 ·intro j o _ hl
  rw[hz0]at hl;cases hl
 ·rw[hz0];exact h0
 ·rw[hz0,hH0];exact hH.drew
end
end
section
def Kc:Value→Value→Bool
 | .bool a,.bool b=>decide (a=b)
 | .int k a,.int l b=>decide (k=l)&&decide (a=b)
 | .string a,.string b=>decide (a=b)
 | .pointer none,.pointer none=>true
 | .slice none a b,.slice none c d=>decide (a=c)&&decide (b=d)
 | .map none,.map none=>true
 | .nilFunc,.nilFunc=>true
 | .nilIface,.nilIface=>true
 | _,_=>false
theorem L5:∀{a b:Value},Kc a b=true→a=b:=by
 intro a b h;unfold Kc at h;split at h<;>simp_all
def Lz:Fn→Fn→Bool
 | .func a,.func b=>decide (a=b)
 | _,_=>false
theorem M7 {a b:Fn}(h:Lz a b=true):a=b:=by
 unfold Lz at h;split at h<;>simp_all
mutual
def AV.same:AV→AV→Bool
 | .lit v,.lit u=>Kc v u
 | .ptr a b,.ptr c d=>decide (a=c)&&decide (b=d)
 | .ip a,.ip b=>Hj a b
 | .sl a b c d e,.sl a' b' c' d' e'=>decide (a=a')&&decide (b=b')&&decide (c=c')&&decide (d=d')&&decide (e=e')
 | .imm a l e,.imm b m f=>decide (l=m)&&decide (e=f)&&Hj a b
 | .mp a,.mp b=>decide (a=b)
 | .agg a,.agg b=>Hj a b
 | .tup a,.tup b=>Hj a b
 | .fn f a b,.fn g c d=>Lz f g&&Hj a c&&Hj b d
 | .emp,.emp=>true
 | .junk,.junk=>true
 | _,_=>false
def Hj:List AV→List AV→Bool
 | [],[]=>true
 | a::r,b::s=>AV.same a b&&Hj r s
 | _,_=>false
end
mutual
theorem AV.same_ok:∀{a b:AV},AV.same a b=true→a=b:=by
 intro a b h
 match a,b,h with
 | .lit v,.lit u,h=>simp only[AV.same]at h;rw[L5 h]
 | .ptr a b,.ptr c d,h=>simp[AV.same]at h;rw[h.1,h.2]
 | .ip a,.ip b,h=>simp only[AV.same]at h;rw[DV h]
 | .sl a b c d e,.sl a' b' c' d' e',h=>simp[AV.same]at h;obtain⟨⟨⟨⟨rfl,rfl⟩,rfl⟩,rfl⟩,rfl⟩:=h;rfl
 | .imm a l e,.imm b m f,h=>simp[AV.same]at h;obtain⟨⟨rfl,rfl⟩,h⟩:=h;rw[DV h]
 | .mp a,.mp b,h=>simp[AV.same]at h;rw[h]
 | .agg a,.agg b,h=>simp only[AV.same]at h;rw[DV h]
 | .tup a,.tup b,h=>simp only[AV.same]at h;rw[DV h]
 | .fn f a b,.fn g c d,h=>simp[AV.same]at h;obtain⟨⟨h1,h2⟩,h3⟩:=h;rw[M7 h1,DV h2,DV h3]
 | .emp,.emp,h=>rfl
 | .junk,.junk,h=>rfl
theorem DV:∀{a b:List AV},Hj a b=true→a=b:=by
 intro a b h
 match a,b,h with
 | [],[],h=>rfl
 | a::r,b::s,h=>simp only[Hj,R9]at h;rw[AV.same_ok h.1,DV h.2]
end
def AQ.is (r:Exit×List AV×AH):AQ:=λe T H=>(e,T,H)=r
section
variable {P : Program}
abbrev B9:=FuncId→List AV→AH→Option (AV×AH)
def Cn (P:Program)(call:B9):Prop:=∀f args H r H',call f args H=some (r,H')→ACalls P f args H λr' H''=>r'=r∧H''=H'
abbrev Eo:=FuncId→List AV→Option AV
def Ep (P:Program)(pure:Eo):Prop:=∀f args r,pure f args=some r→B0 P f=true∧∀H,ACalls P f args H λr' H'=>r'=r∧H'=H
def A6 (pl:FuncId→Bool):Op→Bool
 | .call {callee:=.value (.func k),..}=>pl k
 | _=>false
def BQ (pl:FuncId→Bool)(op:Op):Bool:=CG op||A6 pl op||match op with
 | .buildSlice ..=>true
 | _=>false
def Ef:Op→Bool
 | .move _ | .assign _ | .pick .. | .build .. | .nilCheck _ | .binOp .. | .unOp .. | .makeFunc .. | .fieldAddr .. | .field .. | .indexAddr .. | .index .. | .extract .. | .buildSlice ..=>true
 | _=>false
theorem Oi {x:Option AV}{H H1 H':AH}{r:AV}(h:x.map (·,H)=some (r,H1)):x.map (·,H')=some (r,H'):=by
 obtain⟨a,h1,h2⟩:=Option.map_eq_some_iff.1 h;injection h2 with h2 h3;subst h2;rw[h1];rfl
theorem Po {x r:AV}{H H1 H':AH}(h:some (x,H)=some (r,H1)):some (x,H')=some (r,H'):=by
 injection h with h;injection h with h1 h2;rw[h1]
theorem Hx {ρ:Operand→AV}{H H1 H':AH}{o:Oper}{r:AV}(hb:Ef o.op=true)(hq:CG o.op=true)(h:AT P ρ H o=some (r,H1)):AT P ρ H' o=some (r,H'):=by
 have hH:=Fa hq h;subst hH;obtain⟨dst,op,type,pos,after,guard⟩:=o;cases op<;>first
  | (simp[Ef]at hb;done)
  | (simp[CG]at hq;done)
  | exact Oi h
  | exact Po h
  | skip
 case pick c a b=>
  simp only[AT]at h⊢;split at h
  ·injection h with h;injection h with h1 h2;rw[h1]
  ·cases h
def DY (P:Program)(pl:FuncId→Bool)(pure:Eo)(call:B9)(T:List AV)(H:AH)(o:Oper):Option (AV×AH):=
 match o.op with
 | .buildSlice ..=>(Cd P (Au T) o).map (·,H)
 | _=>if A6 pl o.op then match BD (Au T) o with
   | some (f,args)=>(pure f args).map (·,H)
   | none=>none
  else match AT P (Au T) H o with
  | some x=>some x
  | none=>match BD (Au T) o with
   | some (f,args)=>if B0 P f then call f args H else none
   | none=>none
def Jc (P:Program)(pl:FuncId→Bool)(pure:Eo)(call:B9)(ops:Array Oper):List Oper→List AV→AH→Option (List (AV×AH))
 | [],_,_=>some []
 | o::l,T,H=>match A0 ops T o with
  | none=>none
  | some false=>(Jc P pl pure call ops l (Bp T o.dst Ad) H).map ((Ad,H)::·)
  | some true=>match DY P pl pure call T H o with
   | some (r,H')=>(Jc P pl pure call ops l (Bp T o.dst r) H').map ((r,H')::·)
   | none=>none
def Cy (pl:FuncId→Bool)(ops:List Oper)(i:Nat):Bool:=match ops[i]? with
 | some o=>!BQ pl o.op
 | none=>false
def Af (tr:List (AV×AH))(i:Nat):AV:=(tr[i]?.map Prod.fst).getD Ad
def Bn (tr:List (AV×AH))(i:Nat):AH:=(tr[i]?.map Prod.snd).getD []
def hs (pl:FuncId→Bool)(ops:List Oper)(tr:List (AV×AH))(H:AH)(S:Nat→Bool):Nat→AH
 | 0=>H
 | m+1=>if S m&&Cy pl ops m then Bn tr m else hs pl ops tr H S m
def D8 (pl:FuncId→Bool)(ops:List Oper)(b:List Nat)(i:Nat)(c:Option Nat):Bool:=
 (List.range ops.length).all (λj=>!(Cy pl ops j&&(b.getD i 0).testBit j)||(match c with
  | some c=>decide (j≤c)
  | none=>false))&&(match c with
  | some c=> !(b.getD c 0).testBit i&&decide (c≠i)
  | none=>true)
def E5 (ops:List Oper):List Oper→List (AV×AH)→List AV→List (List AV)
 | o::l,(r,_)::tr,T=>T::E5 ops l tr (Bp T o.dst r)
 | _,_,_=>[]
def Ns (P:Program)(pl:FuncId→Bool)(ops:List Oper)(tr:List (AV×AH))(H:AH)(T:List AV):Bool:=
 let b:=Bk ops []
 let fr:=E5 ops ops tr T
 let stages:=none::((List.range ops.length).filter (Cy pl ops)).map some
 ops.zipIdx.all λp=>!BQ pl p.1.op||Ef p.1.op||A6 pl p.1.op||match fr[p.2]? with
  | some Ti=>match A0 ops.toArray Ti p.1 with
   | some true=>stages.all λc=>!D8 pl ops b p.2 c||(match AT P (Au Ti) (match c with | some c=>Bn tr c | none=>H) p.1 with
    | some (r,_)=>AV.same r (Af tr p.2)
    | none=>false)
   | _=>true
  | none=>false
def GG (pl:FuncId→Bool)(ops:List Oper):Bool:=
 let b:=Bk ops []
 ops.zipIdx.all λp=>!(Cy pl ops p.2)||(List.range p.2).all λj=>!(Cy pl ops j)||(b.getD p.2 0).testBit j
def Ki (P:Program)(pl:FuncId→Bool)(pure:Eo)(call:B9)(ops:List Oper)(T:List AV)(H:AH):Option (List AV×AH):=
 if P.follows .mixedOrders&&FA ops&&GG pl ops then match Jc P pl pure call ops.toArray ops T H with
  | some tr=>if Ns P pl ops tr H T then some (pt ops (Af tr) (λ_=>true) T ops.length,hs pl ops tr H (λ_=>true) ops.length)else none
  | none=>none
 else none
def Kp (P:Program)(pl:FuncId→Bool)(ops:List Oper)(tr:List (AV×AH))(T:List AV)(H:AH)(i:Nat)(o:Oper):Prop:=
 ∃b,A0 ops.toArray (pt ops (Af tr) (λ_=>true) T i) o=some b∧
  (b=false→Af tr i=Ad∧Bn tr i=hs pl ops tr H (λ_=>true) i)∧
  (b=true→∃pure call,Ep P pure∧Cn P call∧DY P pl pure call (pt ops (Af tr) (λ_=>true) T i) (hs pl ops tr H (λ_=>true) i) o=some (Af tr i,Bn tr i))
theorem MV {ρ:Operand→AV}{o:Oper}{q:FuncId×List AV}(h:BD ρ o=some q):CG o.op=false:=by
 obtain⟨dst,op,type,pos,after,guard⟩:=o;unfold BD at h;split at h
 ·rename_i hop
  simp only at hop;subst hop;rfl
 ·cases h
theorem C4 {pl : FuncId→Bool} {pure : Eo} (hp : Ep P pure) {call : B9} {T : List AV} {H H' : AH} {o : Oper} {r : AV} (hq : BQ pl o.op=true) (h : DY P pl pure call T H o=some (r,H')) :
    H'=H∧(Cd P (Au T) o=some r∨(A6 pl o.op=true∧∃f args,BD (Au T) o=some (f,args)∧B0 P f=true∧∀H,ACalls P f args H λr' H'=>r'=r∧H'=H)∨(AT P (Au T) H o=some (r,H)∧CG o.op=true∧A6 pl o.op=false)):=by
  unfold DY at h;split at h
  · obtain⟨a,h1,h2⟩:=Option.map_eq_some_iff.1 h;injection h2 with h2 h3;subst h2;subst h3;exact⟨rfl,.inl h1⟩
  · rename_i hnb
    by_cases hpo:A6 pl o.op=true
    · rw[if_pos hpo]at h;split at h
      · rename_i f args hc;obtain⟨a,h1,h2⟩:=Option.map_eq_some_iff.1 h;injection h2 with h2 h3;subst h2;subst h3;exact⟨rfl,.inr (.inl ⟨hpo,f,args,hc,hp f args _ h1⟩)⟩
      · cases h
    · rw[if_neg hpo]at h;have hpf:A6 pl o.op=false:=by simpa using hpo
      have hst:CG o.op=true:=by
        unfold BQ at hq;simp only[SE]at hq;rcases hq with(h | h) | h
        · exact h
        · exact absurd h hpo
        · first
            | (split at h
               · rename_i h1;exact absurd h1 (hnb _ _ _)
               · cases h)
            | cases h
      split at h
      · rename_i x hx;injection h with h;subst h
        have:=Fa hst hx
        subst this;exact⟨rfl,.inr (.inr ⟨hx,hst,hpf⟩)⟩
      · exfalso
        split at h
        · rename_i f args hc;rw[MV hc]at hst;cases hst
        · cases h
abbrev Rl:=And.intro @Li.{0} @Nat.add_zero
theorem Jd {pl:FuncId→Bool}{pure:Eo}(hp:Ep P pure){call:B9}(hc:Cn P call){ops:List Oper}{T:List AV}{H:AH}{tr:List (AV×AH)}:∀(l:List Oper) (tl:List (AV×AH)) (k:Nat) (Tk:List AV) (Hk:AH),(∀(j:Nat) (o:Oper),l[j]?=some o→ops[k+j]?=some o)→(∀j,tl[j]?=tr[k+j]?)→
  pt ops (Af tr) (λ_=>true) T k=Tk→hs pl ops tr H (λ_=>true) k=Hk→Jc P pl pure call ops.toArray l Tk Hk=some tl→tl.length=l.length∧∀(j:Nat) (o:Oper),l[j]?=some o→Kp P pl ops tr T H (k+j) o
 | [],tl,k,Tk,Hk,hl,ht,hT,hH,h=>by
  simp only[Jc]at h;injection h with h;subst h;exact⟨rfl,λj o hj=>by simp at hj⟩
 | o::l,tl,k,Tk,Hk,hl,ht,hT,hH,h=>by
  have ho:ops[k]?=some o:=by simpa using hl 0 o rfl
  have step:∀(r:AV) (H':AH) (t2:List (AV×AH)),tl=(r,H')::t2→Jc P pl pure call ops.toArray l (Bp Tk o.dst r) H'=some t2→(BQ pl o.op=true→H'=Hk)→(Kp P pl ops tr T H k o)→
    tl.length=(o::l).length∧∀(j:Nat) (o1:Oper),(o::l)[j]?=some o1→Kp P pl ops tr T H (k+j) o1:=by
   intro r H' t2 htl h2 hq htold;subst htl;have h0:=ht 0;simp only[Rl]at h0;have hv:Af tr k=r:=by unfold Af;rw[← h0];rfl
   have hh:Bn tr k=H':=by unfold Bn;rw[← h0];rfl
   obtain⟨e1,e2⟩:=Jd hp hc (T:=T) (H:=H) (tr:=tr) l t2 (k+1) (Bp Tk o.dst r) H' (λj o' hj=>by
     rw[show k+1+j=k+(j+1) by omega];exact hl (j+1) o' (by simpa using hj)) (λj=>by
     have:=ht (j+1)
     rw[show k+1+j=k+(j+1) by omega,← this]
     simp) (by
     simp only[pt,if_true];rw[hT,hv];simp[CL,ho]) (by
     have hcn:Cy pl ops k=!BQ pl o.op:=by unfold Cy;rw[ho]
     simp only[hs,Sn,hcn]
     by_cases hqo:BQ pl o.op=true
     ·rw[if_neg (by simp[hqo]),hq hqo];exact hH
     ·rw[if_pos (by simpa using hqo)];exact hh) h2
   refine⟨by simp[e1],λj o1 hj=>?_⟩;cases j with
   | zero=>simp only[Li]at hj;injection hj with hj;subst hj;exact htold
   | succ j=>rw[show k+(j+1)=k+1+j by omega];exact e2 j o1 (by simpa using hj)
  have h00:∀(r:AV) (H':AH) (t2:List (AV×AH)),tl=(r,H')::t2→Af tr k=r∧Bn tr k=H':=by
   intro r H' t2 htl;have h0:=ht 0;rw[htl]at h0;simp only[Rl]at h0;exact⟨by unfold Af;rw[← h0];rfl,by unfold Bn;rw[← h0];rfl⟩
  unfold Jc at h;split at h
  ·cases h
  ·rename_i hw
   obtain⟨t2,h2,rfl⟩:=Option.map_eq_some_iff.1 h;obtain⟨a1,a2⟩:=h00 _ _ _ rfl;exact step _ _ t2 rfl h2 (λ_=>rfl) ⟨false,by rw[hT];exact hw,(λ_=>⟨a1,by rw[a2,hH]⟩),(λh=>by cases h)⟩
  ·rename_i hw
   split at h
   ·rename_i r H' hst
    obtain⟨t2,h2,rfl⟩:=Option.map_eq_some_iff.1 h;obtain⟨a1,a2⟩:=h00 _ _ _ rfl;exact step r H' t2 rfl h2 (λhq=>(C4 hp hq hst).1) ⟨true,by rw[hT];exact hw,(λh=>by cases h),(λ_=>⟨pure,call,hp,hc,by rw[hT,hH,a1,a2];exact hst⟩)⟩
   ·cases h
theorem IM {ops:List Oper}{tr:List (AV×AH)}{T:List AV}:∀(l:List Oper) (tl:List (AV×AH)) (k:Nat) (Tk:List AV),(∀(j:Nat) (o:Oper),l[j]?=some o→ops[k+j]?=some o)→(∀j,tl[j]?=tr[k+j]?)→
  pt ops (Af tr) (λ_=>true) T k=Tk→∀(j:Nat) (Tj:List AV),(E5 ops l tl Tk)[j]?=some Tj→Tj=pt ops (Af tr) (λ_=>true) T (k+j)
 | [],tl,k,Tk,hl,ht,hT,j,Tj,h=>by simp[E5]at h
 | o::l,[],k,Tk,hl,ht,hT,j,Tj,h=>by simp[E5]at h
 | o::l,(r,H')::tl,k,Tk,hl,ht,hT,j,Tj,h=>by
  simp only[E5]at h;cases j with
  | zero=>simp only[Li]at h;injection h with h;rw[← h,← hT];rfl
  | succ j=>
   have ho:ops[k]?=some o:=by simpa using hl 0 o rfl
   have h0:=ht 0;simp only[Rl]at h0;have hv:Af tr k=r:=by unfold Af;rw[← h0];rfl
   rw[show k+(j+1)=k+1+j by omega]
   refine IM l tl (k+1) (Bp Tk o.dst r) (λj o' hj=>by
     rw[show k+1+j=k+(j+1) by omega];exact hl (j+1) o' (by simpa using hj)) (λj=>by
     have:=ht (j+1)
     rw[show k+1+j=k+(j+1) by omega,← this]
     simp) (by
     simp only[pt,if_true];rw[hT,hv];simp[CL,ho]) j Tj (by simpa using h)
theorem JY {pl:FuncId→Bool}{ops:List Oper}{tr:List (AV×AH)}{H:AH}{S:Nat→Bool}:∀m,(hs pl ops tr H S m=H∧∀j,j<m→¬(S j=true∧Cy pl ops j=true))∨
  ∃c,c<m∧S c=true∧Cy pl ops c=true∧hs pl ops tr H S m=Bn tr c∧∀j,c<j→j<m→¬(S j=true∧Cy pl ops j=true)
 | 0=>.inl ⟨rfl,λj h=>by omega⟩
 | m+1=>by
  simp only[hs]
  by_cases h:S m=true∧Cy pl ops m=true
  ·rw[if_pos (by simp[h.1,h.2])]
   exact .inr ⟨m,by omega,h.1,h.2,rfl,λj h1 h2=>by omega⟩
  ·rw[if_neg (by simpa using h)]
   rcases JY m with⟨h1,h2⟩ | ⟨c,h1,h2,h3,h4,h5⟩
   ·refine .inl ⟨h1,λj hj=>?_⟩
    rcases Nat.lt_succ_iff_lt_or_eq.1 hj with hj | rfl
    ·exact h2 j hj
    ·exact h
   ·refine .inr ⟨c,by omega,h2,h3,h4,λj hj1 hj2=>?_⟩
    rcases Nat.lt_succ_iff_lt_or_eq.1 hj2 with hj | rfl
    ·exact h5 j hj1 hj
    ·exact h
theorem Bb {pl:FuncId→Bool}{ops:List Oper}{tr:List (AV×AH)}{H:AH}{S S':Nat→Bool}:∀m,(∀j,j<m→Cy pl ops j=true→S j=S' j)→hs pl ops tr H S m=hs pl ops tr H S' m
 | 0,_=>rfl
 | m+1,h=>by
  simp only[hs,Bb m (λj hj=>h j (by omega))];cases hc:Cy pl ops m with
  | false=>simp
  | true=>rw[h m (by omega) hc]
theorem C6 {pl:FuncId→Bool}{ops:List Oper}{tr:List (AV×AH)}{H:AH}{S:Nat→Bool}{i:Nat}:∀m,i≤m→(∀j,i≤j→j<m→¬(S j=true∧Cy pl ops j=true))→hs pl ops tr H S m=hs pl ops tr H S i
 | 0,hi,_=>by rw[show i=0 by omega]
 | m+1,hi,h=>by
  rcases Ry m i with hlt | hge
  ·rw[show i=m+1 by omega]
  ·simp only[hs]
   rw[if_neg (by simpa using h m hge (by omega))];exact C6 m hge (λj h1 h2=>h j h1 (by omega))
abbrev Rf:=And.intro @Bool.and_eq_false_iff @Bool.not_eq_true'
abbrev Ri:=And.intro @Bool.false_or @Bool.not_true
abbrev Rj:=And.intro @An @Bool.false_and
abbrev Sd:=@List.mem_range
abbrev SN:=@Bool.or_false
abbrev Sw:=@Nat.eq_or_lt_of_le
abbrev SG:=@Bool.or_eq_false_iff
theorem IZ {pl:FuncId→Bool}{pure:Eo}(hp:Ep P pure){call:B9}(hc:Cn P call){id:Nat}{ops:List Oper}{T T':List AV}{H H':AH}(h:Ki P pl pure call ops T H=some (T',H')){Q:AQ}(hq:Q .normal T' H'):ACode P (.region id ops.toArray true) Q T H:=by
 unfold Ki at h;split at h
 ·rename_i hb
  simp only[R9]at hb;obtain⟨⟨hm,hord⟩,hch⟩:=hb;split at h
  ·rename_i tr htr
   split at h
   ·rename_i hins
    injection h with h;injection h with h1 h2;obtain⟨hlen,htold⟩:=Jd (T:=T) (H:=H) (tr:=tr) hp hc ops tr 0 T H (λj o hj=>by simpa using hj) (λj=>by simp) rfl rfl htr;have hk:=He hord;refine ACode.drawn hm hord (Ω:=Unit) (λ_ _=>True) (λ_=>Af tr) (λ_ S=>hs pl ops tr H S ops.length) () trivial ?_ ?_ ?_
    ·rw[Bb (S':=λ_=>false) _ (λ_ _ _=>rfl)]
     have:∀m,hs pl ops tr H (λ_=>false) m=H:=by
      intro m
      induction m with
      | zero=>rfl
      | succ m ih=>simp only[hs,Rj];exact ih
     exact this _
    ·intro _ S i o ⟨ho,hcl,hSi,hmet⟩ _
     have hil:=(Et.1 ho).1;obtain⟨b,hw,hw0,hw1⟩:=by simpa using htold i o ho
     have before:∀j,(((Bk ops []).getD i 0).testBit j=true)→S j=true:=λj hj=>Dh hk.down hcl i o ho hmet j hj
     have behind:∀c,S c=true→c<ops.length→((Bk ops []).getD c 0).testBit i=true→False:=by
      intro c hc hcl' hbit
      have:=Dh hk.down hcl c _ (Cq hcl') (λe he hb'=>hcl c _ (Cq hcl') hc e he hb') i hbit
      rw[hSi]at this;cases this
     have chain:∀c d,c<d→d<ops.length→Cy pl ops c=true→Cy pl ops d=true→((Bk ops []).getD d 0).testBit c=true:=by
      intro c d hcd hd h1 h2
      have:=R5.1 hch _ (Ga (Cq hd))
      simp only[h2,Ri]at this
      have:=R5.1 this c (Sd.2 hcd)
      simpa[h1]using this
     have R0:∀(r:AV) (H1:AH),Af tr i=r→hs pl ops tr H (Dx S i) ops.length=H1→∃ω':Unit,True∧(∀j,S j=true→Af tr j=Af tr j)∧Af tr i=r∧hs pl ops tr H (Dx S i) ops.length=H1:=
      λr H1 a1 a2=>⟨(),trivial,λ_ _=>rfl,a1,a2⟩
     refine⟨b,hw,λhb=>?_,λhb=>?_⟩
     ·subst hb
      obtain⟨pu,cl,hpu,hcl1,hst⟩:=hw1 rfl;cases hqi:BQ pl o.op with
      | true=>
       have hci:Cy pl ops i=false:=by unfold Cy;rw[ho];simp[hqi]
       have hsame:hs pl ops tr H (Dx S i) ops.length=hs pl ops tr H S ops.length:=by
        refine Bb _ λj _ hj=>?_
        unfold Dx
        split
        ·rename_i he;rw[he,hci]at hj;cases hj
        ·rfl
       obtain⟨_,hz | ⟨hpo,f,args,hca,hgo,hal⟩ | ⟨hz,hstill,hnp⟩⟩:=C4 hpu hqi hst
       ·exact .inr (.inl ⟨_,hz,R0 _ _ rfl hsame⟩)
       ·refine .inr (.inr ⟨f,args,hca,hgo,(hal _).mono ?_⟩)
        rintro r' H'' ⟨rfl,rfl⟩;exact R0 _ _ rfl hsame
       ·left
        by_cases hbl:Ef o.op=true
        ·exact⟨_,_,Hx hbl hstill hz,R0 _ _ rfl hsame⟩
        ·have hi1:=R5.1 hins _ (Ga ho)
         simp only[hqi,hnp,SN,Ri,SE]at hi1;rcases hi1 with hi1 | hi1
         ·exact absurd hi1 hbl
         ·split at hi1
          ·rename_i Ti hTi
           have hTe:=IM (T:=T) (tr:=tr) ops tr 0 T (λj o hj=>by simpa using hj) (λj=>by simp) rfl i Ti hTi;rw[SD]at hTe;subst hTe;rw[hw]at hi1;simp only at hi1;have stage:∀(c:Option Nat),(c=none∨∃d,c=some d∧d<ops.length∧Cy pl ops d=true)→D8 pl ops (Bk ops []) i c=true→
             ∃H2,AT P (Au (pt ops (Af tr) (λ_=>true) T i)) (match c with | some c=>Bn tr c | none=>H) o=some (Af tr i,H2):=by
            intro c hcc hmm
            have:=R5.1 hi1 c (by
             rcases hcc with rfl | ⟨d,rfl,hd,hcd⟩
             ·simp
             ·simp[List.mem_filter,hd,hcd])
            rw[hmm]at this;simp only[Ri]at this;split at this
            ·rename_i r2 H2 hr2
             rw[← AV.same_ok this];exact⟨H2,hr2⟩
            ·cases this
           have fin:∃H2,AT P (Au (pt ops (Af tr) (λ_=>true) T i)) (hs pl ops tr H S ops.length) o=some (Af tr i,H2):=by
            rcases JY (ops:=ops) (tr:=tr) (H:=H) (S:=S) ops.length with⟨e1,e2⟩ | ⟨c,e1,e2,e3,e4,e5⟩
            ·rw[e1]
             refine stage none (.inl rfl) ?_;unfold D8;simp only[Bool.and_true];refine R5.2 λj hj=>?_
             have hj:=Sd.1 hj;simp only[SN,Rf];cases hcj:Cy pl ops j with
             | false=>exact .inl rfl
             | true=>
              right
              cases hbj:((Bk ops []).getD i 0).testBit j with
              | false=>rfl
              | true=>exact absurd ⟨before j hbj,hcj⟩ (e2 j hj)
            ·rw[e4]
             refine stage (some c) (.inr ⟨c,rfl,e1,e3⟩) ?_;unfold D8;simp only[R9];refine⟨R5.2 λj hj=>?_,?_,?_⟩
             ·have hj:=Sd.1 hj
              simp only[Rh,Rf];cases hcj:Cy pl ops j with
              | false=>exact .inl (.inl rfl)
              | true=>
               cases hbj:((Bk ops []).getD i 0).testBit j with
               | false=>exact .inl (.inr rfl)
               | true=>
                right
                rcases Ry c j with hlt | hge
                ·exact absurd ⟨before j hbj,hcj⟩ (e5 j hlt hj)
                ·exact hge
             ·cases hbc:((Bk ops []).getD c 0).testBit i with
              | false=>rfl
              | true=>exact(behind c e2 e1 hbc).elim
             ·refine decide_eq_true ?_
              rintro rfl;rw[hSi]at e2;cases e2
           obtain⟨H2,hH2⟩:=fin
           have:=Fa hstill hH2
           subst this;exact⟨_,_,hH2,R0 _ _ rfl hsame⟩
          ·cases hi1
      | false=>
       have hci:Cy pl ops i=true:=by unfold Cy;rw[ho];simp[hqi]
       have below:∀j,j<i→Cy pl ops j=true→S j=true:=λj hj hcj=>before j (chain j i hj hil hcj hci)
       have above:∀j,i≤j→j<ops.length→¬(S j=true∧Cy pl ops j=true):=by
        rintro j hj hjl ⟨h1,h2⟩;rcases Sw hj with rfl | hlt
        ·rw[hSi]at h1;cases h1
        ·exact behind j h1 hjl (chain i j hlt hjl hci h2)
       have e1:hs pl ops tr H S ops.length=hs pl ops tr H (λ_=>true) i:=by
        rw[C6 ops.length (by omega) above];exact Bb _ λj hj hcj=>below j hj hcj
       have e2:hs pl ops tr H (Dx S i) ops.length=Bn tr i:=by
        rw[C6 (i:=i+1) ops.length (by omega) (λj h1 h2 h3=>above j (by omega) h2 ⟨by have:=h3.1;unfold Dx at this;rwa[if_neg (by omega)]at this,h3.2⟩)];simp only[hs];rw[if_pos (by simp[Dx,hci])]
       show I1 P _ (hs pl ops tr H S ops.length) o _
       rw[e1];unfold DY at hst;split at hst
       ·rename_i hbs;unfold BQ at hqi;simp[hbs]at hqi
       ·have hnp:A6 pl o.op=false:=by
         unfold BQ at hqi;simp only[SG]at hqi;exact hqi.1.2
        rw[if_neg (by simp[hnp])]at hst;split at hst
        ·rename_i x hx
         injection hst with hst;subst hst;exact .inl ⟨_,_,hx,R0 _ _ rfl e2⟩
        ·split at hst
         ·rename_i f args hcall
          split at hst
          ·rename_i hgo
           refine .inr (.inr ⟨f,args,hcall,hgo,(hcl1 f args _ _ _ hst).mono ?_⟩);rintro r' H'' ⟨rfl,rfl⟩;exact R0 _ _ rfl e2
          ·cases hst
         ·cases hst
     ·subst hb
      obtain⟨a1,a2⟩:=hw0 rfl;refine R0 _ _ a1 ?_;cases hci:Cy pl ops i with
      | false=>
       refine Bb _ λj _ hj=>?_
       unfold Dx
       split
       ·rename_i he;rw[he,hci]at hj;cases hj
       ·rfl
      | true=>
       have below:∀j,j<i→Cy pl ops j=true→S j=true:=λj hj hcj=>before j (chain j i hj hil hcj hci)
       have above:∀j,i≤j→j<ops.length→¬(S j=true∧Cy pl ops j=true):=by
        rintro j hj hjl ⟨h1,h2⟩;rcases Sw hj with rfl | hlt
        ·rw[hSi]at h1;cases h1
        ·exact behind j h1 hjl (chain i j hlt hjl hci h2)
       have e1:hs pl ops tr H S ops.length=hs pl ops tr H (λ_=>true) i:=by
        rw[C6 ops.length (by omega) above];exact Bb _ λj hj hcj=>below j hj hcj
       rw[C6 (i:=i+1) ops.length (by omega) (λj h1 h2 h3=>above j (by omega) h2 ⟨by have:=h3.1;unfold Dx at this;rwa[if_neg (by omega)]at this,h3.2⟩)];simp only[hs];rw[if_pos (by simp[Dx,hci]),a2,e1]
    ·intro _ S hall _
     show Q .normal (pt ops (Af tr) (λ_=>true) T ops.length) (hs pl ops tr H S ops.length)
     rw[h1,Bb (S':=λ_=>true) _ (λj hj _=>hall j hj),h2];exact hq
   ·cases h
  ·cases h
 ·cases h
end
end
section
def J8:Exit→Bool
 | .normal | .ret=>true
 | _=>false
section
variable {P : Program}
def BJ (P:Program)(f:FuncId)(args:List AV)(H:AH)(r:AV)(H':AH):Prop:=ACalls P f args H λr' H''=>r'=r∧H''=H'
def BPure (P:Program)(f:FuncId)(args:List AV)(r:AV):Prop:=∀H,BJ P f args H r H
theorem BPure.of {f:FuncId}{args:List AV}{r0 r:AV}{X:AH}(h:BJ P f args [] r0 X)(hb:Ac args=true){n:Nat}(hf:Fg X n r0=some r):BPure P f args r:=
 λH=>ACalls.pure (R':=λr'=>r'=r) h (B4 hb) (λr1 X1 h1=>⟨n,r,by rw[h1.1,h1.2];exact hf,rfl⟩) H
inductive TraceR (P:Program) (ql:FuncId→Bool) (ops:Array Oper):List Oper→List AV→AH→List (AV×AH)→List AV→AH→Prop
 | nil (T:List AV) (H:AH):TraceR P ql ops [] T H [] T H
 | skip {o:Oper} {l:List Oper} {T T':List AV} {H H':AH} {tl:List (AV×AH)} (hw:A0 ops T o=some false) (hr:TraceR P ql ops l (Bp T o.dst Ad) H tl T' H'):TraceR P ql ops (o::l) T H ((Ad,H)::tl) T' H'
 | step {o:Oper} {l:List Oper} {T T':List AV} {H H1 H':AH} {r:AV} {tl:List (AV×AH)} (hw:A0 ops T o=some true) (hs:∃pure call,Ep P pure∧Cn P call∧DY P ql pure call T H o=some (r,H1))
   (hr:TraceR P ql ops l (Bp T o.dst r) H1 tl T' H'):TraceR P ql ops (o::l) T H ((r,H1)::tl) T' H'
theorem Lf {ql:FuncId→Bool}{ops:List Oper}{T:List AV}{H:AH}{tr:List (AV×AH)}:∀(l:List Oper) (tl:List (AV×AH)) (k:Nat) (Tk:List AV) (Hk:AH) (T':List AV) (H':AH),(∀(j:Nat) (o:Oper),l[j]?=some o→ops[k+j]?=some o)→(∀j,tl[j]?=tr[k+j]?)→
  pt ops (Af tr) (λ_=>true) T k=Tk→hs ql ops tr H (λ_=>true) k=Hk→TraceR P ql ops.toArray l Tk Hk tl T' H'→
  pt ops (Af tr) (λ_=>true) T (k+l.length)=T'∧hs ql ops tr H (λ_=>true) (k+l.length)=H'∧∀(j:Nat) (o:Oper),l[j]?=some o→Kp P ql ops tr T H (k+j) o:=by
 intro l
 induction l with
 | nil=>
  intro tl k Tk Hk T' H' hl ht hT hH h;cases h;exact⟨by simpa using hT,by simpa using hH,λj o hj=>by simp at hj⟩
 | cons o l ih=>
  intro tl k Tk Hk T' H' hl ht hT hH h;have ho:ops[k]?=some o:=by simpa using hl 0 o rfl
  have step:∀(r:AV) (H1:AH) (t2:List (AV×AH)),tl=(r,H1)::t2→TraceR P ql ops.toArray l (Bp Tk o.dst r) H1 t2 T' H'→(BQ ql o.op=true→H1=Hk)→(Kp P ql ops tr T H k o)→
    pt ops (Af tr) (λ_=>true) T (k+(o::l).length)=T'∧hs ql ops tr H (λ_=>true) (k+(o::l).length)=H'∧∀(j:Nat) (o1:Oper),(o::l)[j]?=some o1→Kp P ql ops tr T H (k+j) o1:=by
   intro r H1 t2 htl h2 hq htold;subst htl;have h0:=ht 0;simp only[Rl]at h0;have hv:Af tr k=r:=by unfold Af;rw[← h0];rfl
   have hh:Bn tr k=H1:=by unfold Bn;rw[← h0];rfl
   obtain⟨e1,e2,e3⟩:=ih t2 (k+1) (Bp Tk o.dst r) H1 T' H' (λj o' hj=>by
     rw[show k+1+j=k+(j+1) by omega];exact hl (j+1) o' (by simpa using hj)) (λj=>by
     have:=ht (j+1)
     rw[show k+1+j=k+(j+1) by omega,← this]
     simp) (by
     simp only[pt,if_true];rw[hT,hv];simp[CL,ho]) (by
     have hcn:Cy ql ops k=!BQ ql o.op:=by unfold Cy;rw[ho]
     simp only[hs,Sn,hcn]
     by_cases hqo:BQ ql o.op=true
     ·rw[if_neg (by simp[hqo]),hq hqo];exact hH
     ·rw[if_pos (by simpa using hqo)];exact hh) h2
   have hkl:k+(o::l).length=k+1+l.length:=by simp;omega
   rw[hkl];refine⟨e1,e2,λj o1 hj=>?_⟩;cases j with
   | zero=>simp only[Li]at hj;injection hj with hj;subst hj;exact htold
   | succ j=>rw[show k+(j+1)=k+1+j by omega];exact e3 j o1 (by simpa using hj)
  have h00:∀(r:AV) (H1:AH) (t2:List (AV×AH)),tl=(r,H1)::t2→Af tr k=r∧Bn tr k=H1:=by
   intro r H1 t2 htl;have h0:=ht 0;rw[htl]at h0;simp only[Rl]at h0;exact⟨by unfold Af;rw[← h0];rfl,by unfold Bn;rw[← h0];rfl⟩
  cases h with
  | skip hw hr=>
   obtain⟨a1,a2⟩:=h00 _ _ _ rfl;exact step _ _ _ rfl hr (λ_=>rfl) ⟨false,by rw[hT];exact hw,(λ_=>⟨a1,by rw[a2,hH]⟩),(λh=>by cases h)⟩
  | step hw hs hr=>
   obtain⟨pu,cl,hp,hc,hst⟩:=hs;obtain⟨a1,a2⟩:=h00 _ _ _ rfl;exact step _ _ _ rfl hr (λhq=>(C4 hp hq hst).1) ⟨true,by rw[hT];exact hw,(λh=>by cases h),(λ_=>⟨pu,cl,hp,hc,by rw[hT,hH,a1,a2];exact hst⟩)⟩
theorem K7 {ql:FuncId→Bool}{op:Op}(h:Ef op=true):BQ ql op=true:=by
 cases op<;>first
  | rfl
  | cases h
def Qc (ql:FuncId→Bool)(ops:List Oper):Bool:=
 let b:=Bk ops []
 ops.zipIdx.all λp=>Ef p.1.op||A6 ql p.1.op||(List.range ops.length).all λj=>!(Cy ql ops j)||decide (j=p.2)||(b.getD (max p.2 j) 0).testBit (min p.2 j)
theorem Pg {ql:FuncId→Bool}{id:Nat}{ops:List Oper}{T:List AV}{H:AH}{tr:List (AV×AH)}(hm:P.follows .mixedOrders=true)(hord:FA ops=true)(hfix:Qc ql ops=true)
  (htold:∀(i:Nat) (o:Oper),ops[i]?=some o→Kp P ql ops tr T H i o) {Q:AQ} (hq:Q .normal (pt ops (Af tr) (λ_=>true) T ops.length) (hs ql ops tr H (λ_=>true) ops.length)):ACode P (.region id ops.toArray true) Q T H:=by
 have hk:=He hord;refine ACode.drawn hm hord (Ω:=Unit) (λ_ _=>True) (λ_=>Af tr) (λ_ S=>hs ql ops tr H S ops.length) () trivial ?_ ?_ ?_
 ·rw[Bb (S':=λ_=>false) _ (λ_ _ _=>rfl)]
  have:∀m,hs ql ops tr H (λ_=>false) m=H:=by
   intro m
   induction m with
   | zero=>rfl
   | succ m ih=>simp only[hs,Rj];exact ih
  exact this _
 ·intro _ S i o ⟨ho,hcl,hSi,hmet⟩ _
  have hil:=(Et.1 ho).1;obtain⟨b,hw,hw0,hw1⟩:=htold i o ho;have before:∀j,(((Bk ops []).getD i 0).testBit j=true)→S j=true:=λj hj=>Dh hk.down hcl i o ho hmet j hj
  have behind:∀c,S c=true→c<ops.length→((Bk ops []).getD c 0).testBit i=true→False:=by
   intro c hc hcl' hbit
   have:=Dh hk.down hcl c _ (Cq hcl') (λe he hb'=>hcl c _ (Cq hcl') hc e he hb') i hbit
   rw[hSi]at this;cases this
  have R0:∀(r:AV) (H1:AH),Af tr i=r→hs ql ops tr H (Dx S i) ops.length=H1→∃ω':Unit,True∧(∀j,S j=true→Af tr j=Af tr j)∧Af tr i=r∧hs ql ops tr H (Dx S i) ops.length=H1:=
   λr H1 a1 a2=>⟨(),trivial,λ_ _=>rfl,a1,a2⟩
  have still:Cy ql ops i=false→hs ql ops tr H (Dx S i) ops.length=hs ql ops tr H S ops.length:=by
   intro hci;refine Bb _ λj _ hj=>?_
   unfold Dx
   split
   ·rename_i he;rw[he,hci]at hj;cases hj
   ·rfl
  have fixed:(∀j,j<ops.length→Cy ql ops j=true→j≠i→((Bk ops []).getD (max i j) 0).testBit (min i j)=true)→hs ql ops tr H S ops.length=hs ql ops tr H (λ_=>true) i∧
    (∀j,i≤j→j<ops.length→¬(S j=true∧Cy ql ops j=true)):=by
   intro hf
   have above:∀j,i≤j→j<ops.length→¬(S j=true∧Cy ql ops j=true):=by
    rintro j hj hjl ⟨h1,h2⟩;rcases Sw hj with rfl | hlt
    ·rw[hSi]at h1;cases h1
    ·have:=hf j hjl h2 (by omega)
     rw[Nat.max_eq_right (by omega),SF (by omega)]at this;exact behind j h1 hjl this
   refine⟨?_,above⟩;rw[C6 ops.length (by omega) above];refine Bb _ λj hj hcj=>?_
   have:=hf j (by omega) hcj (by omega)
   rw[Nat.max_eq_left (by omega),Nat.min_eq_right (by omega)]at this;exact before j this
  have hfx:=R5.1 hfix _ (Ga ho);simp only[SE]at hfx
  have unfix:(Ef o.op=false∧A6 ql o.op=false)→∀j,j<ops.length→Cy ql ops j=true→j≠i→((Bk ops []).getD (max i j) 0).testBit (min i j)=true:=by
   rintro⟨h1,h2⟩ j hj hcj hne;rcases hfx with(h | h) | h
   ·rw[h1]at h;cases h
   ·rw[h2]at h;cases h
   ·have:=R5.1 h j (Sd.2 hj)
    simpa[hcj,hne]using this
  have chNot:Cy ql ops i=true→Ef o.op=false∧A6 ql o.op=false∧BQ ql o.op=false:=by
   intro hci;have hq0:BQ ql o.op=false:=by unfold Cy at hci;rw[ho]at hci;simpa using hci
   refine⟨?_,?_,hq0⟩
   ·cases hb:Ef o.op with
    | false=>rfl
    | true=>
     exfalso
     rw[K7 hb]at hq0;cases hq0
   ·unfold BQ at hq0
    simp only[SG]at hq0;exact hq0.1.2
  have e2:Cy ql ops i=true→hs ql ops tr H (Dx S i) ops.length=Bn tr i:=by
   intro hci;obtain⟨c1,c2,-⟩:=chNot hci;obtain⟨-,above⟩:=fixed (unfix ⟨c1,c2⟩);rw[C6 (i:=i+1) ops.length (by omega) (λj h1 h2 h3=>above j (by omega) h2 ⟨by have:=h3.1;unfold Dx at this;rwa[if_neg (by omega)]at this,h3.2⟩)];simp only[hs];rw[if_pos (by simp[Dx,hci])]
  refine⟨b,hw,λhb=>?_,λhb=>?_⟩
  ·subst hb
   obtain⟨pu,cl,hpu,hcl1,hst⟩:=hw1 rfl;cases hqi:BQ ql o.op with
   | true=>
    have hci:Cy ql ops i=false:=by unfold Cy;rw[ho];simp[hqi]
    obtain⟨_,hz | ⟨hpo,f,args,hca,hgo,hal⟩ | ⟨hz,hstill,hnp⟩⟩:=C4 hpu hqi hst
    ·exact .inr (.inl ⟨_,hz,R0 _ _ rfl (still hci)⟩)
    ·refine .inr (.inr ⟨f,args,hca,hgo,(hal _).mono ?_⟩)
     rintro r' H'' ⟨rfl,rfl⟩;exact R0 _ _ rfl (still hci)
    ·left
     by_cases hbl:Ef o.op=true
     ·exact⟨_,_,Hx hbl hstill hz,R0 _ _ rfl (still hci)⟩
     ·have:=(fixed (unfix ⟨by simpa using hbl,hnp⟩)).1
      refine⟨_,_,?_,R0 _ _ rfl (still hci)⟩
      show AT P _ (hs ql ops tr H S ops.length) o=_
      rw[this];exact hz
   | false=>
    have hci:Cy ql ops i=true:=by unfold Cy;rw[ho];simp[hqi]
    obtain⟨c1,c2,-⟩:=chNot hci;have e1:=(fixed (unfix ⟨c1,c2⟩)).1
    show I1 P _ (hs ql ops tr H S ops.length) o _
    rw[e1];unfold DY at hst;split at hst
    ·rename_i hbs;unfold BQ at hqi;simp[hbs]at hqi
    ·rw[if_neg (by simp[c2])]at hst
     split at hst
     ·rename_i x hx
      injection hst with hst;subst hst;exact .inl ⟨_,_,hx,R0 _ _ rfl (e2 hci)⟩
     ·split at hst
      ·rename_i f args hcall
       split at hst
       ·rename_i hgo
        refine .inr (.inr ⟨f,args,hcall,hgo,(hcl1 f args _ _ _ hst).mono ?_⟩);rintro r' H'' ⟨rfl,rfl⟩;exact R0 _ _ rfl (e2 hci)
       ·cases hst
      ·cases hst
  ·subst hb
   obtain⟨a1,a2⟩:=hw0 rfl;refine R0 _ _ a1 ?_;cases hci:Cy ql ops i with
   | false=>exact still hci
   | true=>
    obtain⟨c1,c2,-⟩:=chNot hci;rw[e2 hci,a2];exact(fixed (unfix ⟨c1,c2⟩)).1.symm
 ·intro _ S hall _
  show Q .normal (pt ops (Af tr) (λ_=>true) T ops.length) (hs ql ops tr H S ops.length)
  rw[Bb (S':=λ_=>true) _ (λj hj _=>hall j hj)];exact hq
theorem M5 {pl : FuncId→Bool} {id : Nat} {ops : List Oper} {T : List AV} {H : AH} {tr : List (AV × AH)} (hm : P.follows .mixedOrders=true) (hord : FA ops=true) (hch : GG pl ops=true)
    (htold:∀(i:Nat) (o:Oper),ops[i]?=some o→Kp P pl ops tr T H i o)
    (hins:∀(i:Nat) (o:Oper),ops[i]?=some o→BQ pl o.op=true→Ef o.op=false→A6 pl o.op=false→A0 ops.toArray (pt ops (Af tr) (λ_=>true) T i) o=some true→
      ∀(c:Option Nat),(c=none∨∃d,c=some d∧d<ops.length∧Cy pl ops d=true)→D8 pl ops (Bk ops []) i c=true→
        ∃H2,AT P (Au (pt ops (Af tr) (λ_=>true) T i)) (match c with | some c=>Bn tr c | none=>H) o=some (Af tr i,H2))
    {Q:AQ} (hq:Q .normal (pt ops (Af tr) (λ_=>true) T ops.length) (hs pl ops tr H (λ_=>true) ops.length)):ACode P (.region id ops.toArray true) Q T H:=by
  have hk:=He hord;refine ACode.drawn hm hord (Ω:=Unit) (λ_ _=>True) (λ_=>Af tr) (λ_ S=>hs pl ops tr H S ops.length) () trivial ?_ ?_ ?_
  · rw[Bb (S':=λ_=>false) _ (λ_ _ _=>rfl)]
    have:∀m,hs pl ops tr H (λ_=>false) m=H:=by
      intro m
      induction m with
      | zero=>rfl
      | succ m ih=>simp only[hs,Rj];exact ih
    exact this _
  · intro _ S i o ⟨ho,hcl,hSi,hmet⟩ _;have hil:=(Et.1 ho).1;obtain⟨b,hw,hw0,hw1⟩:=htold i o ho;have before:∀j,(((Bk ops []).getD i 0).testBit j=true)→S j=true:=λj hj=>Dh hk.down hcl i o ho hmet j hj
    have behind:∀c,S c=true→c<ops.length→((Bk ops []).getD c 0).testBit i=true→False:=by
      intro c hc hcl' hbit
      have:=Dh hk.down hcl c _ (Cq hcl') (λe he hb'=>hcl c _ (Cq hcl') hc e he hb') i hbit
      rw[hSi]at this;cases this
    have chain:∀c d,c<d→d<ops.length→Cy pl ops c=true→Cy pl ops d=true→((Bk ops []).getD d 0).testBit c=true:=by
      intro c d hcd hd h1 h2
      have:=R5.1 hch _ (Ga (Cq hd))
      simp only[h2,Ri]at this
      have:=R5.1 this c (Sd.2 hcd)
      simpa[h1]using this
    have R0:∀(r:AV) (H1:AH),Af tr i=r→hs pl ops tr H (Dx S i) ops.length=H1→∃ω':Unit,True∧(∀j,S j=true→Af tr j=Af tr j)∧Af tr i=r∧hs pl ops tr H (Dx S i) ops.length=H1:=
      λr H1 a1 a2=>⟨(),trivial,λ_ _=>rfl,a1,a2⟩
    refine⟨b,hw,λhb=>?_,λhb=>?_⟩
    · subst hb;obtain⟨pu,cl,hpu,hcl1,hst⟩:=hw1 rfl;cases hqi:BQ pl o.op with
      | true=>
        have hci:Cy pl ops i=false:=by unfold Cy;rw[ho];simp[hqi]
        have hsame:hs pl ops tr H (Dx S i) ops.length=hs pl ops tr H S ops.length:=by
          refine Bb _ λj _ hj=>?_
          unfold Dx
          split
          · rename_i he;rw[he,hci]at hj;cases hj
          · rfl
        obtain⟨_,hz | ⟨hpo,f,args,hca,hgo,hal⟩ | ⟨hz,hstill,hnp⟩⟩:=C4 hpu hqi hst
        · exact .inr (.inl ⟨_,hz,R0 _ _ rfl hsame⟩)
        · refine .inr (.inr ⟨f,args,hca,hgo,(hal _).mono ?_⟩);rintro r' H'' ⟨rfl,rfl⟩;exact R0 _ _ rfl hsame
        · left
          by_cases hbl:Ef o.op=true
          · exact⟨_,_,Hx hbl hstill hz,R0 _ _ rfl hsame⟩
          · have stage : ∀ (c : Option Nat), (c = none ∨ ∃ d, c = some d ∧ d < ops.length ∧ Cy pl ops d = true) → D8 pl ops (Bk ops []) i c = true →
                ∃H2,AT P (Au (pt ops (Af tr) (λ_=>true) T i)) (match c with | some c=>Bn tr c | none=>H) o=some (Af tr i,H2):=hins i o ho hqi (by simpa using hbl) hnp hw
            have fin:∃H2,AT P (Au (pt ops (Af tr) (λ_=>true) T i)) (hs pl ops tr H S ops.length) o=some (Af tr i,H2):=by
              rcases JY (ops:=ops) (tr:=tr) (H:=H) (S:=S) ops.length with⟨e1,e2⟩ | ⟨c,e1,e2,e3,e4,e5⟩
              · rw[e1];refine stage none (.inl rfl) ?_;unfold D8;simp only[Bool.and_true];refine R5.2 λj hj=>?_
                have hj:=Sd.1 hj;simp only[SN,Rf];cases hcj:Cy pl ops j with
                | false=>exact .inl rfl
                | true=>
                  right
                  cases hbj:((Bk ops []).getD i 0).testBit j with
                  | false=>rfl
                  | true=>exact absurd ⟨before j hbj,hcj⟩ (e2 j hj)
              · rw[e4];refine stage (some c) (.inr ⟨c,rfl,e1,e3⟩) ?_;unfold D8;simp only[R9];refine⟨R5.2 λj hj=>?_,?_,?_⟩
                · have hj:=Sd.1 hj;simp only[Rh,Rf];cases hcj:Cy pl ops j with
                  | false=>exact .inl (.inl rfl)
                  | true=>
                    cases hbj:((Bk ops []).getD i 0).testBit j with
                    | false=>exact .inl (.inr rfl)
                    | true=>
                      right
                      rcases Ry c j with hlt | hge
                      · exact absurd ⟨before j hbj,hcj⟩ (e5 j hlt hj)
                      · exact hge
                · cases hbc:((Bk ops []).getD c 0).testBit i with
                  | false=>rfl
                  | true=>exact(behind c e2 e1 hbc).elim
                · refine decide_eq_true ?_;rintro rfl;rw[hSi]at e2;cases e2
            obtain⟨H2,hH2⟩:=fin
            have:=Fa hstill hH2
            subst this;exact⟨_,_,hH2,R0 _ _ rfl hsame⟩
      | false=>
        have hci:Cy pl ops i=true:=by unfold Cy;rw[ho];simp[hqi]
        have below:∀j,j<i→Cy pl ops j=true→S j=true:=λj hj hcj=>before j (chain j i hj hil hcj hci)
        have above:∀j,i≤j→j<ops.length→¬(S j=true∧Cy pl ops j=true):=by
          rintro j hj hjl ⟨h1,h2⟩;rcases Sw hj with rfl | hlt
          · rw[hSi]at h1;cases h1
          · exact behind j h1 hjl (chain i j hlt hjl hci h2)
        have e1:hs pl ops tr H S ops.length=hs pl ops tr H (λ_=>true) i:=by
          rw[C6 ops.length (by omega) above];exact Bb _ λj hj hcj=>below j hj hcj
        have e2:hs pl ops tr H (Dx S i) ops.length=Bn tr i:=by
          rw[C6 (i:=i+1) ops.length (by omega) (λj h1 h2 h3=>above j (by omega) h2 ⟨by have:=h3.1;unfold Dx at this;rwa[if_neg (by omega)]at this,h3.2⟩)];simp only[hs];rw[if_pos (by simp[Dx,hci])]
        show I1 P _ (hs pl ops tr H S ops.length) o _
        rw[e1];unfold DY at hst;split at hst
        · rename_i hbs;unfold BQ at hqi;simp[hbs]at hqi
        · have hnp : A6 pl o.op=false:=by
            unfold BQ at hqi;simp only[SG]at hqi;exact hqi.1.2
          rw[if_neg (by simp[hnp])]at hst;split at hst
          · rename_i x hx;injection hst with hst;subst hst;exact .inl ⟨_,_,hx,R0 _ _ rfl e2⟩
          · split at hst
            · rename_i f args hcall;split at hst
              · rename_i hgo;refine .inr (.inr ⟨f,args,hcall,hgo,(hcl1 f args _ _ _ hst).mono ?_⟩);rintro r' H'' ⟨rfl,rfl⟩;exact R0 _ _ rfl e2
              · cases hst
            · cases hst
    · subst hb;obtain⟨a1,a2⟩:=hw0 rfl;refine R0 _ _ a1 ?_;cases hci:Cy pl ops i with
      | false=>
        refine Bb _ λj _ hj=>?_
        unfold Dx
        split
        · rename_i he;rw[he,hci]at hj;cases hj
        · rfl
      | true=>
        have below:∀j,j<i→Cy pl ops j=true→S j=true:=λj hj hcj=>before j (chain j i hj hil hcj hci)
        have above:∀j,i≤j→j<ops.length→¬(S j=true∧Cy pl ops j=true):=by
          rintro j hj hjl ⟨h1,h2⟩;rcases Sw hj with rfl | hlt
          · rw[hSi]at h1;cases h1
          · exact behind j h1 hjl (chain i j hlt hjl hci h2)
        have e1:hs pl ops tr H S ops.length=hs pl ops tr H (λ_=>true) i:=by
          rw[C6 ops.length (by omega) above];exact Bb _ λj hj hcj=>below j hj hcj
        rw[C6 (i:=i+1) ops.length (by omega) (λj h1 h2 h3=>above j (by omega) h2 ⟨by have:=h3.1;unfold Dx at this;rwa[if_neg (by omega)]at this,h3.2⟩)];simp only[hs];rw[if_pos (by simp[Dx,hci]),a2,e1]
  · intro _ S hall _
    show Q .normal (pt ops (Af tr) (λ_=>true) T ops.length) (hs pl ops tr H S ops.length)
    rw[Bb (S':=λ_=>true) _ (λj hj _=>hall j hj)];exact hq
def FC (P:Program)(ql:FuncId→Bool)(dr:Bool)(ρ:Operand→AV)(o:Oper)(H:AH)(r:AV)(H':AH):Prop:=
 match BD ρ o with
 | some (k,args)=>B0 P k=true∧if dr&&A6 ql o.op then BPure P k args r∧H'=H else BJ P k args H r H'
 | none=>False
def Jr:Op→Bool
 | .buildSlice ..=>true
 | _=>false
def Ke (P:Program)(dr:Bool)(ρ:Operand→AV)(H:AH)(o:Oper):Option (AV×AH):=
 if dr&&Jr o.op then(Cd P ρ o).map (·,H)else AT P ρ H o
def FD (P:Program)(ql:FuncId→Bool)(dr:Bool)(ops:Array Oper):List Oper→List AV→AH→(List AV→AH→Prop)→Prop
 | [],T,H,K=>K T H
 | o::l,T,H,K=>match A0 ops T o with
  | none=>False
  | some false=>FD P ql dr ops l (Bp T o.dst Ad) H K
  | some true=>match Ke P dr (Au T) H o with
   | some (r,H')=>FD P ql dr ops l (Bp T o.dst r) H' K
   | none=>∃r H',FC P ql dr (Au T) o H r H'∧FD P ql dr ops l (Bp T o.dst r) H' K
theorem Fb {ql:FuncId→Bool}{ops:Array Oper}:∀(l:List Oper) (T:List AV) (H:AH) (K:List AV→AH→Prop),FD P ql false ops l T H K→∃T' H',K T' H'∧AOps P ops (AQ.is (.normal,T',H')) l T H
 | [],T,H,K,h=>⟨T,H,h,AOps.nil rfl⟩
 | o::l,T,H,K,h=>by
  unfold FD at h;split at h
  ·exact h.elim
  ·rename_i hw
   obtain⟨T',H',hk,ha⟩:=Fb l _ _ K h;exact⟨T',H',hk,AOps.unwanted hw ha⟩
  ·rename_i hw
   split at h
   ·rename_i r H1 ho
    obtain⟨T',H',hk,ha⟩:=Fb l _ _ K h;exact⟨T',H',hk,AOps.op hw (by simpa[Ke]using ho) ha⟩
   ·obtain⟨r,H1,hc,h⟩:=h
    obtain⟨T',H',hk,ha⟩:=Fb l _ _ K h;unfold FC at hc;split at hc
    ·rename_i k args hcall
     simp only[Rj]at hc;refine⟨T',H',hk,AOps.call hw hcall hc.1 (hc.2.mono ?_)⟩;rintro r' H'' ⟨rfl,rfl⟩;exact ha
    ·exact hc.elim
theorem KS {dr:Bool}{T:List AV}{H:AH}{o:Oper}{q:FuncId×List AV}(hc:BD (Au T) o=some q):AT P (Au T) H o=none∧Jr o.op=false:=by
 obtain⟨dst,op,type,pos,after,guard⟩:=o;unfold BD at hc;split at hc
 ·rename_i hop
  simp only at hop;subst hop;exact⟨rfl,rfl⟩
 ·cases hc
theorem FY {ql:FuncId→Bool}{ops:Array Oper}:∀(l:List Oper) (T:List AV) (H:AH) (K:List AV→AH→Prop),FD P ql true ops l T H K→∃tl T' H',K T' H'∧TraceR P ql ops l T H tl T' H'
 | [],T,H,K,h=>⟨[],T,H,h,.nil _ _⟩
 | o::l,T,H,K,h=>by
  have none_ok:Ep P (λ_ _=>none):=λ_ _ _ h=>by cases h
  have none_ok':Cn P (λ_ _ _=>none):=λ_ _ _ _ _ h=>by cases h
  unfold FD at h;split at h
  ·exact h.elim
  ·rename_i hw
   obtain⟨tl,T',H',hk,ha⟩:=FY l _ _ K h;exact⟨_,T',H',hk,.skip hw ha⟩
  ·rename_i hw
   split at h
   ·rename_i r H1 ho
    obtain⟨tl,T',H',hk,ha⟩:=FY l _ _ K h;refine⟨_,T',H',hk,.step hw ⟨λ_ _=>none,λ_ _ _=>none,none_ok,none_ok',?_⟩ ha⟩;unfold Ke at ho;simp only[Sn]at ho;unfold DY;split at ho
    ·rename_i hbs
     split
     ·exact ho
     ·rename_i hne
      exfalso
      revert hbs
      unfold Jr
      split
      ·rename_i h1;exact λ_=>hne _ _ _ h1
      ·simp
    ·rename_i hbs
     split
     ·rename_i h1;rw[h1]at hbs;simp[Jr]at hbs
     ·have hnp:A6 ql o.op=false:=by
       cases hpo:A6 ql o.op with
       | false=>rfl
       | true=>
        exfalso
        obtain⟨dst,op,type,pos,after,guard⟩:=o;unfold A6 at hpo;split at hpo
        ·rename_i hop;simp only at hop;subst hop;cases ho
        ·cases hpo
      rw[if_neg (by simp[hnp]),ho]
   ·obtain⟨r,H1,hc,h⟩:=h
    obtain⟨tl,T',H',hk,ha⟩:=FY l _ _ K h;unfold FC at hc;split at hc
    ·rename_i k args hcall
     obtain⟨hgo,hc⟩:=hc;obtain⟨n1,n2⟩:=KS (P:=P) (dr:=true) (H:=H) hcall;simp only[Sn]at hc;split at hc
     ·rename_i hpo
      obtain⟨hp,rfl⟩:=hc
      classical
      refine⟨_,T',H',hk,.step hw ⟨λf a=>if f=k∧a=args then some r else none,λ_ _ _=>none,?_,none_ok',?_⟩ ha⟩
      ·intro f a r1 h1
       dsimp only at h1
       split at h1
       ·rename_i he
        injection h1 with h1;obtain⟨rfl,rfl⟩:=he;subst h1;exact⟨hgo,hp⟩
       ·cases h1
      ·unfold DY
       split
       ·rename_i h1;rw[h1]at n2;cases n2
       ·rw[if_pos hpo,hcall]
        simp
     ·rename_i hpo
      classical
      refine⟨_,T',H',hk,.step hw ⟨λ_ _=>none,λf a H2=>if f=k∧a=args∧H2=H then some (r,H1)else none,none_ok,?_,?_⟩ ha⟩
      ·intro f a H2 r1 H3 h1
       dsimp only at h1
       split at h1
       ·rename_i he
        injection h1 with h1;injection h1 with h1 h2;obtain⟨rfl,rfl,rfl⟩:=he;subst h1;subst h2;exact hc
       ·cases h1
      ·unfold DY
       split
       ·rename_i h1;rw[h1]at n2;cases n2
       ·rw[if_neg hpo,n1,hcall]
        simp[hgo]
    ·exact hc.elim
def IW (ql:FuncId→Bool)(ops:List Oper):Nat→Option Nat
 | 0=>none
 | m+1=>if Cy ql ops m then some m else IW ql ops m
theorem J4 {ql:FuncId→Bool}{ops:List Oper}{tr:List (AV×AH)}{H:AH}:∀m,hs ql ops tr H (λ_=>true) m=match IW ql ops m with
  | some c=>Bn tr c
  | none=>H
 | 0=>rfl
 | m+1=>by
  simp only[hs,IW,Sn]
  by_cases h:Cy ql ops m=true
  ·rw[if_pos h,if_pos h]
  ·rw[if_neg h,if_neg h];exact J4 m
def IL (ql:FuncId→Bool)(ops:List Oper):List (Nat×Option Nat):=
 let b:=Bk ops []
 let stages:=none::((List.range ops.length).filter (Cy ql ops)).map some
 (List.range ops.length).flatMap λi=>match ops[i]? with
  | some o=>if BQ ql o.op&&!Ef o.op&&!A6 ql o.op then(stages.filter λc=>D8 ql ops b i c&&decide (c≠IW ql ops i)).map (i,·)else []
  | none=>[]
def FloatsOk (P:Program)(ops:Array Oper)(H:AH)(lg:List (List AV×AH×AV)):List (Nat×Option Nat)→Prop
 | []=>True
 | (i,c)::r=>(match ops[i]?,lg[i]? with
  | some o,some (Ti,_,v)=>A0 ops Ti o=some true→(AT P (Au Ti) (match c with
   | some c=>((lg[c]?).map (·.2.1)).getD []
   | none=>H) o).map Prod.fst=some v
  | _,_=>False)∧FloatsOk P ops H lg r
theorem FloatsOk.mem {ops:Array Oper}{H:AH}{lg:List (List AV×AH×AV)}:∀{fl:List (Nat×Option Nat)},FloatsOk P ops H lg fl→∀{i:Nat} {c:Option Nat},(i,c)∈fl→∃o Ti h v,ops[i]?=some o∧lg[i]?=some (Ti,h,v)∧
  (A0 ops Ti o=some true→(AT P (Au Ti) (match c with
   | some c=>((lg[c]?).map (·.2.1)).getD []
   | none=>H) o).map Prod.fst=some v)
 | (i,c)::r,h,j,d,hm=>by
  simp only[FloatsOk]at h;rcases SM.1 hm with he | hm
  ·injection he with h1 h2
   subst h1;subst h2;have h1:=h.1;split at h1
   ·rename_i o Ti hh v ho hl
    exact⟨o,Ti,hh,v,ho,hl,h1⟩
   ·exact h1.elim
  ·exact h.2.mem hm
def DM:List Oper→List (AV×AH)→List AV→List (List AV×AH×AV)
 | o::l,(r,h)::tr,T=>(T,h,r)::DM l tr (Bp T o.dst r)
 | _,_,_=>[]
theorem J9 {ops:List Oper}{tr:List (AV×AH)}{T:List AV}:∀(l:List Oper) (tl:List (AV×AH)) (k:Nat) (Tk:List AV),(∀(j:Nat) (o:Oper),l[j]?=some o→ops[k+j]?=some o)→(∀j,tl[j]?=tr[k+j]?)→
  pt ops (Af tr) (λ_=>true) T k=Tk→∀(j:Nat) (x:List AV×AH×AV),(DM l tl Tk)[j]?=some x→x=(pt ops (Af tr) (λ_=>true) T (k+j),Bn tr (k+j),Af tr (k+j))
 | [],tl,k,Tk,hl,ht,hT,j,x,h=>by simp[DM]at h
 | o::l,[],k,Tk,hl,ht,hT,j,x,h=>by simp[DM]at h
 | o::l,(r,H')::tl,k,Tk,hl,ht,hT,j,x,h=>by
  simp only[DM]at h;have h0:=ht 0;simp only[Rl]at h0;have hv:Af tr k=r:=by unfold Af;rw[← h0];rfl
  have hh:Bn tr k=H':=by unfold Bn;rw[← h0];rfl
  cases j with
  | zero=>simp only[Li]at h;injection h with h;rw[← h,Sx,hT,hv,hh]
  | succ j=>
   have ho:ops[k]?=some o:=by simpa using hl 0 o rfl
   rw[show k+(j+1)=k+1+j by omega]
   refine J9 l tl (k+1) (Bp Tk o.dst r) (λj o' hj=>by
     rw[show k+1+j=k+(j+1) by omega];exact hl (j+1) o' (by simpa using hj)) (λj=>by
     have:=ht (j+1)
     rw[show k+1+j=k+(j+1) by omega,← this]
     simp) (by
     simp only[pt,if_true];rw[hT,hv];simp[CL,ho]) j x (by simpa using h)
theorem M9 {ql:FuncId→Bool}{ops:Array Oper}{l:List Oper}{T T':List AV}{H H':AH}{tl:List (AV×AH)}(h:TraceR P ql ops l T H tl T' H'):(DM l tl T).length=l.length:=by
 induction h with
 | nil=>rfl
 | skip hw hr ih=>simp only[DM,Sz,ih]
 | step hw hs hr ih=>simp only[DM,Sz,ih]
def EL (P:Program)(ql:FuncId→Bool)(ops:Array Oper)(H0:AH)(fl:List (Nat×Option Nat)):List Oper→List AV→AH→List (List AV×AH×AV)→(List AV→AH→Prop)→Prop
 | [],T,H,lg,K=>FloatsOk P ops H0 lg.reverse fl∧K T H
 | o::l,T,H,lg,K=>match A0 ops T o with
  | none=>False
  | some false=>EL P ql ops H0 fl l (Bp T o.dst Ad) H ((T,H,Ad)::lg) K
  | some true=>match Ke P true (Au T) H o with
   | some (r,H')=>EL P ql ops H0 fl l (Bp T o.dst r) H' ((T,H',r)::lg) K
   | none=>∃r H',FC P ql true (Au T) o H r H'∧EL P ql ops H0 fl l (Bp T o.dst r) H' ((T,H',r)::lg) K
theorem Hl {ql:FuncId→Bool}{ops:Array Oper}{H0:AH}{fl:List (Nat×Option Nat)}:∀(l:List Oper) (T:List AV) (H:AH) (lg:List (List AV×AH×AV)) (K:List AV→AH→Prop),EL P ql ops H0 fl l T H lg K→
  ∃tl T' H',K T' H'∧TraceR P ql ops l T H tl T' H'∧FloatsOk P ops H0 (lg.reverse++DM l tl T) fl
 | [],T,H,lg,K,h=>⟨[],T,H,h.2,.nil _ _,by simpa[DM]using h.1⟩
 | o::l,T,H,lg,K,h=>by
  unfold EL at h;split at h
  ·exact h.elim
  ·rename_i hw
   obtain⟨tl,T',H',hk,ha,hf⟩:=Hl l _ _ _ K h;exact⟨_,T',H',hk,.skip hw ha,by simpa[DM]using hf⟩
  ·rename_i hw
   split at h
   ·rename_i r H1 ho
    obtain⟨tl,T',H',hk,ha,hf⟩:=Hl l _ _ _ K h;obtain⟨tl1,T1,H2,h1,h2⟩:=FY (P:=P) (ql:=ql) (ops:=ops) [o] T H (λT' H'=>T'=Bp T o.dst r∧H'=H1) (by unfold FD;rw[hw];simp only[ho];unfold FD;exact⟨rfl,rfl⟩);cases h2 with
    | skip hw' _=>rw[hw]at hw';cases hw'
    | step hw' hs hr=>
     cases hr;obtain⟨e1,rfl⟩:=h1;rename_i r'
     have hr:r'=r:=by
      obtain⟨pu,cl,hp,hc,hst⟩:=hs;unfold Ke at ho;unfold DY at hst;simp only[Sn]at ho;split at ho
      ·rename_i hbs
       split at hst
       ·rw[ho]at hst;injection hst with hst;injection hst with h1 _;exact h1.symm
       ·rename_i hne
        exfalso
        revert hbs
        unfold Jr
        split
        ·rename_i h1;exact λ_=>hne _ _ _ h1
        ·simp
      ·rename_i hbs
       split at hst
       ·rename_i h1;rw[h1]at hbs;simp[Jr]at hbs
       ·have hnp:A6 ql o.op=false:=by
         cases hpo:A6 ql o.op with
         | false=>rfl
         | true=>
          exfalso
          obtain⟨dst,op,type,pos,after,guard⟩:=o;unfold A6 at hpo;split at hpo
          ·rename_i hop;simp only at hop;subst hop;cases ho
          ·cases hpo
        rw[if_neg (by simp[hnp]),ho]at hst;injection hst with hst;injection hst with h1 _;exact h1.symm
     subst hr;exact⟨_,T',H',hk,.step hw hs ha,by simpa[DM]using hf⟩
   ·rename_i ho
    obtain⟨r,H1,hc,h⟩:=h;obtain⟨tl,T',H',hk,ha,hf⟩:=Hl l _ _ _ K h
    have hstep:∃pure call,Ep P pure∧Cn P call∧DY P ql pure call T H o=some (r,H1):=by
     have none_ok:Ep P (λ_ _=>none):=λ_ _ _ h=>by cases h
     have none_ok':Cn P (λ_ _ _=>none):=λ_ _ _ _ _ h=>by cases h
     unfold FC at hc;split at hc
     ·rename_i k args hcall
      obtain⟨hgo,hc⟩:=hc;obtain⟨n1,n2⟩:=KS (P:=P) (dr:=true) (H:=H) hcall;simp only[Sn]at hc;split at hc
      ·rename_i hpo
       obtain⟨hp,rfl⟩:=hc
       classical
       refine⟨λf a=>if f=k∧a=args then some r else none,λ_ _ _=>none,?_,none_ok',?_⟩
       ·intro f a r1 h1
        dsimp only at h1
        split at h1
        ·rename_i he
         injection h1 with h1;obtain⟨rfl,rfl⟩:=he;subst h1;exact⟨hgo,hp⟩
        ·cases h1
       ·unfold DY
        split
        ·rename_i h1;rw[h1]at n2;cases n2
        ·rw[if_pos hpo,hcall]
         simp
      ·rename_i hpo
       classical
       refine⟨λ_ _=>none,λf a H2=>if f=k∧a=args∧H2=H then some (r,H1)else none,none_ok,?_,?_⟩
       ·intro f a H2 r1 H3 h1
        dsimp only at h1
        split at h1
        ·rename_i he
         injection h1 with h1;injection h1 with h1 h2;obtain⟨rfl,rfl,rfl⟩:=he;subst h1;subst h2;exact hc
        ·cases h1
       ·unfold DY
        split
        ·rename_i h1;rw[h1]at n2;cases n2
        ·rw[if_neg hpo,n1,hcall]
         simp[hgo]
     ·exact hc.elim
    exact⟨_,T',H',hk,.step hw hstep ha,by simpa[DM]using hf⟩
def BCode (P:Program)(c:Code)(T:List AV)(H:AH)(e:Exit)(T':List AV)(H':AH):Prop:=ACode P c (AQ.is (e,T',H')) T H
theorem BCode.draw (ql:FuncId→Bool){id:Nat}{ops:List Oper}{T:List AV}{H:AH}{fl:List (Nat×Option Nat)}{K:List AV→AH→Prop}(hm:P.follows .mixedOrders=true)(hs:(FA ops&&GG ql ops&&decide (IL ql ops=fl))=true)(h:EL P ql ops.toArray H fl ops T H [] K):
  ∃T' H',K T' H'∧BCode P (.region id ops.toArray true) T H .normal T' H':=by
 simp only[R9,decide_eq_true_eq]at hs;obtain⟨⟨hs1,hs2⟩,rfl⟩:=hs;obtain⟨tl,T',H',hk,ha,hf⟩:=Hl _ _ _ _ _ h;have hlen:=M9 ha;obtain⟨e1,e2,e3⟩:=Lf (ops:=ops) (T:=T) (H:=H) (tr:=tl) ops tl 0 T H T' H' (λj o hj=>by simpa using hj) (λj=>by simp) rfl rfl ha;simp only[SD]at e1 e2 e3;refine⟨T',H',hk,M5 hm hs1 hs2 (λi o hi=>e3 i o hi) ?_ (by rw[e1,e2];rfl)⟩;intro i o ho hq hb hp hw c hcc hmm;have hil:=(Et.1 ho).1;have lget:=J9 (ops:=ops) (tr:=tl) (T:=T) ops tl 0 T (λj o hj=>by simpa using hj) (λj=>by simp) rfl;simp only[SD]at lget;simp only[List.reverse_nil,List.nil_append]at hf
 by_cases hl:c=IW ql ops i
 ·obtain⟨b,hw',-,h1⟩:=e3 i o ho
  rw[hw]at hw';injection hw' with hw';obtain⟨pu,cl,hpu,hcl,hst⟩:=h1 hw'.symm;rw[J4]at hst
  have:=hl
  subst this;obtain⟨_,hz | ⟨hpo,_⟩ | ⟨hz,_,_⟩⟩:=C4 hpu hq hst
  ·exfalso
   obtain⟨dst,op,type,pos,after,guard⟩:=o;unfold Cd at hz;split at hz
   ·rename_i hop;simp only at hop;subst hop;simp[Ef]at hb
   ·cases hz
  ·rw[hp]at hpo;cases hpo
  ·exact⟨_,hz⟩
 ·have hmem:(i,c)∈IL ql ops:=by
   unfold IL;simp only;refine List.mem_flatMap.2 ⟨i,Sd.2 hil,?_⟩;rw[ho];simp only[hq,hb,hp,Rp,Bool.and_self];refine List.mem_map.2 ⟨c,List.mem_filter.2 ⟨?_,by simp[hmm,hl]⟩,rfl⟩;rcases hcc with rfl | ⟨d,rfl,hd,hcd⟩
   ·simp
   ·simp[List.mem_filter,hd,hcd]
  obtain⟨o',Ti,hh,v,ho',hlg,hval⟩:=hf.mem hmem
  have hoo:o'=o:=by
   have:ops.toArray[i]?=some o:=by simpa using ho
   rw[this]at ho';injection ho' with h;exact h.symm
  subst hoo
  have:=lget i _ hlg
  simp only[RK]at this;obtain⟨rfl,-,rfl⟩:=this;have hv:=hval hw;obtain⟨⟨r2,H2⟩,h2,h3⟩:=Option.map_eq_some_iff.1 hv;simp only at h3;subst h3;cases c with
  | none=>exact⟨H2,h2⟩
  | some d=>
   rcases hcc with h | ⟨d',hd',hdl,-⟩
   ·cases h
   ·injection hd' with hd'
    subst hd';have hld:d<(DM ops tl T).length:=by rw[hlen];exact hdl
    have hg:=lget d _ (Cq hld)
    have:(((DM ops tl T)[d]?).map (·.2.1)).getD []=Bn tl d:=by
     rw[Cq hld,hg];rfl
    simp only[this]at h2;exact⟨H2,h2⟩
end
end
section
section
variable {P : Program}
def BRounds (P:Program)(b:Code)(e:Exit)(T':List AV)(H':AH):Nat→List AV→AH→Prop
 | 0,_,_=>False
 | n+1,T,H=>(∃T1 H1,BCode P b T H .normal T1 H1∧BRounds P b e T' H' n T1 H1)∨(e≠.normal∧BCode P b T H e T' H')
theorem BRounds.code {b:Code}{e:Exit}{T':List AV}{H':AH}{n:Nat}{T:List AV}{H:AH}(h:BRounds P b e T' H' n T H):BCode P (.loop b) T H e T' H':=by
 intro G0 G a ρ hE hF hd hH;refine wpIn_loop_rounds n ?_
 induction n generalizing T H G a with
 | zero=>exact h.elim
 | succ n ih=>
  rw[roundsIn_succ];rcases h with⟨T1,H1,hb,hr⟩ | ⟨hne,hb⟩
  ·refine Code.wpIn_mono ?_ (hb G0 G a ρ hE hF hd hH)
   rintro e' a' w' ⟨T2,H2,G',rfl,hE',hF',hd',hH',hq⟩;simp only[AQ.is,RK]at hq;obtain⟨rfl,rfl,rfl⟩:=hq;exact ih hr G' a' hE' hF' hd' hH'
  ·refine Code.wpIn_mono ?_ (hb G0 G a ρ hE hF hd hH)
   rintro e' a' w' ⟨T2,H2,G',rfl,hE',hF',hd',hH',hq⟩;have hq':=hq;simp only[AQ.is,RK]at hq';obtain⟨rfl,rfl,rfl⟩:=hq';cases e' with
   | normal=>exact absurd rfl hne
   | _=>exact⟨_,_,G',rfl,hE',hF',hd',hH',hq⟩
def PD (P:Program)(b:Code)(T:List AV)(H:AH)(K:Exit→List AV→AH→Prop):Prop:=∃e T' H' n,K e T' H'∧BRounds P b e T' H' n T H
abbrev BO:=Nat→List (Nat×Option Nat)
def BW (fl:BO)(ql:FuncId→Bool):Code→Bool
 | .region id ops true=>FA ops.toList&&GG ql ops.toList&&decide (IL ql ops.toList=fl id)
 | .seq a b=>BW fl ql a&&BW fl ql b
 | .cond _ a b=>BW fl ql a&&BW fl ql b
 | .block _ b=>BW fl ql b
 | .loop b=>BW fl ql b
 | _=>true
def Gy (P:Program)(fl:BO)(ql:FuncId→Bool):Code→List AV→AH→(Exit→List AV→AH→Prop)→Prop
 | .skip,T,H,K=>K .normal T H
 | .label _,T,H,K=>K .normal T H
 | .ret,T,H,K=>K .ret T H
 | .exit id,T,H,K=>K (.exit id) T H
 | .region _ ops false,T,H,K=>FD P ql false ops ops.toList T H (K .normal)
 | .region id ops true,T,H,K=>match fl id with
  | []=>FD P ql true ops ops.toList T H (K .normal)
  | f=>EL P ql ops H f ops.toList T H [] (K .normal)
 | .seq a b,T,H,K=>Gy P fl ql a T H λe T' H'=>match e with
  | .normal=>Gy P fl ql b T' H' K
  | e=>K e T' H'
 | .cond c a b,T,H,K=>match Au T c with
  | .lit (.bool t)=>if t then Gy P fl ql a T H K else Gy P fl ql b T H K
  | _=>False
 | .block id b,T,H,K=>Gy P fl ql b T H λe T' H'=>match e with
  | .exit j=>if j=id then K .normal T' H' else K (.exit j) T' H'
  | e=>K e T' H'
 | .loop b,T,H,K=>PD P b T H K
 | _,_,_,_=>False
theorem Hm {ql:FuncId→Bool}{ops:Array Oper}{H0:AH}:∀(l:List Oper) (T:List AV) (H:AH) (lg:List (List AV×AH×AV)) (K:List AV→AH→Prop),FD P ql true ops l T H K→EL P ql ops H0 [] l T H lg K
 | [],T,H,lg,K,h=>⟨trivial,h⟩
 | o::l,T,H,lg,K,h=>by
  unfold FD at h;unfold EL;split at h
  ·exact h.elim
  ·exact Hm l _ _ _ K h
  ·split at h
   ·exact Hm l _ _ _ K h
   ·obtain⟨r,H1,hc,h⟩:=h
    exact⟨r,H1,hc,Hm l _ _ _ K h⟩
theorem DZ {fl:BO}{ql:FuncId→Bool}(hm:P.follows .mixedOrders=true):∀(c:Code) (T:List AV) (H:AH) (K:Exit→List AV→AH→Prop),BW fl ql c=true→Gy P fl ql c T H K→∃e T' H',K e T' H'∧BCode P c T H e T' H'
 | .skip,T,H,K,_,h=>⟨_,_,_,h,ACode.skip rfl⟩
 | .label _,T,H,K,_,h=>⟨_,_,_,h,ACode.label rfl⟩
 | .ret,T,H,K,_,h=>⟨_,_,_,h,ACode.ret rfl⟩
 | .exit id,T,H,K,_,h=>⟨_,_,_,h,ACode.exit rfl⟩
 | .region id ops false,T,H,K,_,h=>by
  obtain⟨T',H',hk,ha⟩:=Fb _ _ _ _ h;exact⟨_,T',H',hk,ACode.region ha⟩
 | .region id ops true,T,H,K,hc,h=>by
  obtain⟨T',H',hk,ha⟩:=BCode.draw (P:=P) ql (id:=id) (ops:=ops.toList) (fl:=fl id) hm (by simpa only[BW]using hc) (by
   simp only[Gy]at h;split at h
   ·rename_i hfl;rw[hfl];exact Hm _ _ _ _ _ h
   ·exact h)
  exact⟨_,T',H',hk,by simpa using ha⟩
 | .seq a b,T,H,K,hc,h=>by
  simp only[BW,R9]at hc;obtain⟨e,T1,H1,hk,ha⟩:=DZ hm a T H _ hc.1 h;cases e with
  | normal=>
   obtain⟨e,T2,H2,hk,hb⟩:=DZ hm b T1 H1 K hc.2 hk;refine⟨e,T2,H2,hk,ACode.seq (ha.mono ?_)⟩;rintro e' T3 H3 hq;simp only[AQ.is,RK]at hq;obtain⟨rfl,rfl,rfl⟩:=hq;exact hb
  | _=>
   refine⟨_,T1,H1,hk,ACode.seq (ha.mono ?_)⟩;rintro e' T3 H3 hq;have hq':=hq;simp only[AQ.is,RK]at hq';obtain⟨rfl,rfl,rfl⟩:=hq';exact hq
 | .cond c a b,T,H,K,hc,h=>by
  simp only[BW,R9]at hc;unfold Gy at h;split at h
  ·rename_i t ht
   split at h
   ·rename_i htt
    obtain⟨e,T1,H1,hk,ha⟩:=DZ hm a T H K hc.1 h;refine⟨e,T1,H1,hk,ACode.cond ht ?_⟩;rw[if_pos htt];exact ha
   ·rename_i htt
    obtain⟨e,T1,H1,hk,ha⟩:=DZ hm b T H K hc.2 h;refine⟨e,T1,H1,hk,ACode.cond ht ?_⟩;rw[if_neg htt];exact ha
  ·exact h.elim
 | .block id b,T,H,K,hc,h=>by
  simp only[BW]at hc;obtain⟨e,T1,H1,hk,ha⟩:=DZ hm b T H _ hc h;cases e with
  | exit j=>
   simp only at hk;split at hk
   ·rename_i hj
    refine⟨_,T1,H1,hk,ACode.block (ha.mono ?_)⟩;rintro e' T3 H3 hq;simp only[AQ.is,RK]at hq;obtain⟨rfl,rfl,rfl⟩:=hq;simp only[AQ.inBlock,if_pos hj];rfl
   ·rename_i hj
    refine⟨_,T1,H1,hk,ACode.block (ha.mono ?_)⟩;rintro e' T3 H3 hq;simp only[AQ.is,RK]at hq;obtain⟨rfl,rfl,rfl⟩:=hq;simp only[AQ.inBlock,if_neg hj];rfl
  | _=>
   refine⟨_,T1,H1,hk,ACode.block (ha.mono ?_)⟩;rintro e' T3 H3 hq;simp only[AQ.is,RK]at hq;obtain⟨rfl,rfl,rfl⟩:=hq;rfl
 | .loop b,T,H,K,hc,h=>by
  obtain⟨e,T',H',n,hk,hr⟩:=h;exact⟨e,T',H',hk,hr.code⟩
 | .rangeFunc ..,_,_,_,_,h=>h.elim
 | .scope _,_,_,_,_,h=>h.elim
 | .goto _,_,_,_,_,h=>h.elim
 | .refuse _,_,_,_,_,h=>h.elim
def Ox (P:Program)(res:List ResultVar)(K:AV→AH→Prop)(e:Exit)(T:List AV)(H:AH):Prop:=
 J8 e=true∧match Ht P H T res with
  | some xs=>K (JD xs) H
  | none=>False
end
end
section
def bO (x:Option AV)(K:AV→Prop):Prop:=match x with
 | some v=>K v
 | none=>False
def bH (x:Option (AV×AH))(K:AV→AH→Prop):Prop:=match x with
 | some (v,H)=>K v H
 | none=>False
def bS (x:Option AH)(K:AH→Prop):Prop:=match x with
 | some H=>K H
 | none=>False
def bB (v:AV)(K:Bool→Prop):Prop:=match v with
 | .lit (.bool b)=>K b
 | _=>False
def bI (b:Bool)(A B:Prop):Prop:=match b with
 | true=>A
 | false=>B
def bC (R:AV→AH→Prop)(K:AV→AH→Prop):Prop:=∃r H',R r H'∧K r H'
def bP (R:AV→Prop)(K:AV→Prop):Prop:=∃r,R r∧K r
def bF (w:Bool)(f:AV)(K:FuncId→List AV→List AV→Prop):Prop:=match f with
 | .fn (.func k) a b=>K k a b
 | _=>match w with
  | true=>False
  | false=>K 0 [] []
def bG (v:AV)(want:Bool)(K:Bool→Prop):Prop:=match v with
 | .lit (.bool b)=>K (b==want)
 | .lit _=>K false
 | _=>False
def gO (w:Bool)(x:Option AV)(K:AV→Prop):Prop:=match w with
 | true=>bO x K
 | false=>K Ad
def gH (w:Bool)(x:Option (AV×AH))(H:AH)(K:AV→AH→Prop):Prop:=match w with
 | true=>bH x K
 | false=>K Ad H
def gS (w:Bool)(x:Option AH)(H:AH)(K:AH→Prop):Prop:=match w with
 | true=>bS x K
 | false=>K H
def gC (w:Bool)(R:AV→AH→Prop)(H:AH)(K:AV→AH→Prop):Prop:=match w with
 | true=>bC R K
 | false=>K Ad H
def gP (w:Bool)(R:AV→Prop)(K:AV→Prop):Prop:=match w with
 | true=>bP R K
 | false=>K Ad
def bA (C:(AV→AH→Prop)→Prop)(K:AV→AH→Prop):Prop:=∃R,C R∧∀r H',R r H'→K r H'
def gA (w:Bool)(C:(AV→AH→Prop)→Prop)(H:AH)(K:AV→AH→Prop):Prop:=match w with
 | true=>bA C K
 | false=>K Ad H
def QK (P:Program)(k:FuncId)(args:List AV)(H:AH)(r:AV):Prop:=∀(G:Cfg) (vs:List Value),HR G H→VRs G args vs→∃u,(callFunc k vs.toArray).run P G.w=.ok (.value u) G.w∧VR G r u
def Ai:Nat→Bool:=λ_=>false
def bT (b:Bool)(A:Prop):Prop:=match b with
 | true=>A
 | false=>False
def Aj (c a b:AV):Option AV:=match c with
 | .lit (.bool t)=>some (if t then a else b)
 | _=>none
def GP (cells:List AV):List (Nat×Nat×AV)→Option (List AV)
 | []=>some cells
 | (off,size,v)::rest=>match Be v with
  | some xs=>if xs.length=size∧off+size≤cells.length then GP (AM cells off xs) rest else none
  | none=>none
def HJ (place:Nat→Option (Nat×Nat))(ρ:Operand→AV):List (Nat×Operand)→Option (List (Nat×Nat×AV))
 | []=>some []
 | (i,x)::r=>match place i,HJ place ρ r with
  | some (o,s),some l=>some ((o,s,ρ x)::l)
  | _,_=>none
theorem FO {place:Nat→Option (Nat×Nat)}{ρ:Operand→AV}:∀(ps:List (Nat×Operand)) (l:List (Nat×Nat×AV)) (cells:List AV),HJ place ρ ps=some l→DD place cells (ps.map λp=>(p.1,ρ p.2))=GP cells l
 | [],l,cells,h=>by simp only[HJ]at h;injection h with h;subst h;rfl
 | (i,x)::r,l,cells,h=>by
  simp only[HJ]at h;split at h
  ·rename_i o s l' h1 h2
   injection h with h;subst h;simp only[Sg,DD,GP,h1];cases hc:Be (ρ x)with
   | none=>rfl
   | some xs=>
    simp only
    split
    ·exact FO r l' _ h2
    ·rfl
  ·cases h
def O1 (zc:List AV)(l:List (Nat×Nat×AV)):Option AV:=(GP zc l).map .agg
def Lu (P:Program)(t:TypeId):Option (List AV×(Nat→Option (Nat×Nat))):=
 match Gx P t,P.underlying t with
 | some z,some (.struct fields)=>match fields.toList.all λf=>(AC P f.type).isSome with
  | true=>some (z.cells.toList.map .lit,λi=>(fields[i]?).bind λf=>(AC P f.type).map λn=>(f.offset,n))
  | false=>none
 | some z,some (.array _ e)=>match AC P e with
  | some sz=>some (z.cells.toList.map .lit,λi=>some (i*sz,sz))
  | none=>none
 | _,_=>none
theorem M3 {P:Program}{t:TypeId}{zc:List AV}{pl:Nat→Option (Nat×Nat)}(h:Lu P t=some (zc,pl))(parts:List (Nat×AV)):I2 P t parts=(DD pl zc parts).map .agg:=by
 unfold Lu at h;unfold I2;split at h
 ·rename_i z fields hz hu
  rw[hz,hu];simp only;split at h
  ·rename_i ha
   injection h with h;injection h with h1 h2;subst h1;subst h2;rw[if_pos ha]
  ·cases h
 ·rename_i z n e hz hu
  rw[hz,hu];simp only;split at h
  ·rename_i sz hs
   injection h with h;injection h with h1 h2;subst h1;subst h2;rw[hs]
  ·cases h
 ·cases h
def IC (P:Program)(t:TypeId):Option (Nat×Nat×List AV):=
 match P.underlying t with
 | some (.slice e)=>match P.info? e with
  | some i=>match i.zero with
   | some z=>match !(Nat.beq i.size 0)&& !(Nat.beq i.bytes 0)&&Nat.beq z.cells.size i.size&&Fw z with
    | true=>some (i.size,i.bytes,z.cells.toList.map .lit)
    | false=>none
   | none=>none
  | none=>none
 | _=>none
theorem Fz {P:Program}{t:TypeId}{sz by':Nat}{zc:List AV}(h:IC P t=some (sz,by',zc)):
  ∃e i z,P.underlying t=some (.slice e)∧P.info? e=some i∧i.zero=some z∧i.size=sz∧i.bytes=by'∧z.cells.toList.map .lit=zc∧sz≠0∧by'≠0∧z.cells.size=sz∧Fw z=true:=by
 unfold IC at h;split at h
 ·rename_i e hu
  split at h
  ·rename_i i hi
   split at h
   ·rename_i z hz
    split at h
    ·rename_i hb
     injection h with h;injection h with h1 h2;injection h2 with h2 h3;simp only[Rm]at hb;obtain⟨⟨⟨b1,b2⟩,b3⟩,b4⟩:=hb;have b3:=RY b3;refine⟨e,i,z,hu,hi,hz,h1,h2,h3,?_,?_,by rw[← h1];exact b3,b4⟩
     ·rw[← h1];exact λh0=>by rw[h0]at b1;cases b1
     ·rw[← h2];exact λh0=>by rw[h0]at b2;cases b2
    ·cases h
   ·cases h
  ·cases h
 ·cases h
def MU (H:AH)(size len:Nat)(cells:List AV)(l:List (Nat×Nat×AV)):Option (AV×AH):=(GP cells l).map λcs=>(.sl H.length 0 len size (.ex len),H++[some (.cells cs)])
def ON (size len:Nat)(cells:List AV)(l:List (Nat×Nat×AV)):Option AV:=(GP cells l).map λcs=>.imm cs len size
def Ak (g:Bool)(n:Nat)(H:AH)(a:AV):Option AV:=match a with
 | .ptr o off=>match H[o]? with
  | some (some (.cells cs))=>Ae g n cs off
  | _=>none
 | .ip cs=>Ae g n cs 0
 | _=>none
def Ex (n:Nat)(H:AH)(a x:AV):Option AH:=match Be x,a with
 | some xs,.ptr o off=>match H[o]? with
  | some (some (.cells cs))=>if xs.length=n∧off+n≤cs.length then some (H.set o (some (.cells (AM cs off xs))))else none
  | _=>none
 | _,_=>none
def Aq (op:BinOp)(x y:AV):Option AV:=match x,y with
 | .lit (.int k a),.lit (.int k' b)=>match op with
  | .shl | .shr=>(Fy op k a b).map .lit
  | _=>if k=k' then(DG op k a b).map .lit else none
 | _,_=>none
def MT (op:BinOp)(x y:AV):Option AV:=match x,y with
 | .lit (.string a),.lit (.string b)=>(J0 op a b).map .lit
 | _,_=>none
def Q1 (op:BinOp)(e:Option Bool):Option AV:=match op with
 | .eql=>e.map λb=>.lit (.bool b)
 | .neq=>e.map λb=>.lit (.bool !b)
 | _=>none
def NE (op:BinOp)(x y:AV):Option AV:=match x,y with
 | .lit (.bool a),.lit (.bool b)=>Q1 op (some (a==b))
 | _,_=>none
def NP (op:BinOp)(f:AV→Option Bool)(x y:AV):Option AV:=match x,y with
 | .agg _,.agg _=>none
 | .lit .nilIface,_ | _,.lit .nilIface=>none
 | x,y=>Q1 op (CJ (f x) (f y))
inductive CK where
 | int (k:IntKind)
 | str
 | ofB
 | toB
 | same
def Mb (P:Program)(s d:TypeId):Option CK:=
 match P.underlying d,P.underlying s with
 | some (.int k),some _=>some (.int k)
 | some .string,some .string=>some .str
 | some .string,some (.slice e)=>match P.underlying e with
  | some (.int .u8)=>some .ofB
  | _=>none
 | some (.slice e),some .string=>match P.underlying e with
  | some (.int .u8)=>some .toB
  | _=>none
 | some (.slice e),some (.slice _)=>match Nat.beq s d,P.underlying e with
  | true,some (.int .u8)=>some .same
  | _,_=>none
 | _,_=>none
def NF (k:IntKind)(x:AV):Option AV:=match x with
 | .lit (.int _ n)=>some (.lit (.int k (k.wrap n)))
 | _=>none
def acS (x:AV):Option AV:=match x with
 | .lit (.string s)=>some (.lit (.string s))
 | _=>none
def Q6 (H:AH)(x:AV):Option AV:=match x with
 | .lit (.string _)=>none
 | x=>match Ab H 1 x with
  | some (cs,_)=>(Hv cs).map λns=>.lit (.string (Kg ns))
  | none=>none
def acT (x:AV):Option AV:=match x with
 | .lit (.string s)=>some (.imm (s.data.toList.map λb=>.lit (.int .u8 b.toNat)) s.size 1)
 | _=>none
def amk (sz bytes:Nat)(zc:List AV)(H:AH)(l c:AV):Option (AV×AH):=match l,c with
 | .lit (.int _ n),.lit (.int _ m)=>if 0≤n∧n≤m∧(bytes:Int)*m≤281474976710656∧m≤9223372036854775807 then
   some (.sl H.length 0 n.toNat sz (.ex m.toNat),H++[some (.cells (Ee zc m.toNat))])else none
 | _,_=>none
def Oa (x:AV)(lo hi:Option AV):Option AV:=match x with
 | .lit (.string s)=>match BH lo 0,BH hi s.size with
  | some l,some h=>if l≤h∧h≤s.size then some (.lit (.string (s.extract l h)))else none
  | _,_=>none
 | _=>none
def NZ (sz:Nat)(x:AV)(lo hi mx:Option AV):Option AV:=match x with
 | .sl o off len esz cap=>if sz≠esz then none else
   match BH lo 0,BH hi len,mx with
   | some l,some h,none=>if l≤h∧h≤max len cap.least then some (.sl o (off+l*esz) (h - l) esz (cap.cut len l))else none
   | some l,some h,some m=>match BH (some m) 0 with
    | some m=>if l≤h∧h≤m∧m≤max len cap.least∧hi.isSome then some (.sl o (off+l*esz) (h - l) esz (.ex (m - l)))else none
    | none=>none
   | _,_,_=>none
 | .imm cs len esz=>match BH lo 0,BH hi len,mx with
   | some l,some h,none=>if l≤h∧h≤len then some (.imm ((cs.drop (l*sz)).take ((h - l)*sz)) (h - l) esz)else none
   | some l,some h,some m=>match BH (some m) 0 with
    | some m=>if l≤h∧h≤m∧m≤len∧hi.isSome then some (if m=l then .emp else .imm ((cs.drop (l*sz)).take ((h - l)*sz)) (h - l) esz)else none
    | none=>none
   | _,_,_=>none
 | .emp=>match BH lo 0,BH hi 0,mx with
   | some 0,some 0,none=>some .emp
   | _,_,_=>none
 | .lit (.slice none 0 0)=>match BH lo 0,BH hi 0,mx with
   | some 0,some 0,none=>some (.lit (.slice none 0 0))
   | _,_,_=>none
 | _=>none
def NY (n sz:Nat)(H:AH)(x:AV)(lo hi:Option AV):Option AV:=match BH lo 0,BH hi n,x with
 | some l,some h,.ptr o off=>match H[o]? with
  | some (some (.cells cs))=>if l≤h∧h≤n∧off+n*sz≤cs.length then some (.sl o (off+l*sz) (h - l) sz (.ex (n - l)))else none
  | _=>none
 | some l,some h,.ip cs=>if l≤h∧h≤n then some (.imm ((cs.drop (l*sz)).take ((h - l)*sz)) (h - l) sz)else none
 | _,_,_=>none
def Mx (g:Bool)(n off:Nat)(x:AV):Option AV:=match x with
 | .agg cs=>Ae g n cs off
 | _=>none
def Ly (P:Program)(s:TypeId)(f:Nat):Option (Bool×Nat×Nat):=
 match P.underlying s with
 | some (.struct fields)=>match fields[f]? with
  | some fl=>match Is P fl.type,AC P fl.type with
   | some g,some n=>some (g,n,fl.offset)
   | _,_=>none
  | none=>none
 | _=>none
def Bz (sz:Nat)(x i:AV):Option AV:=match Ho i with
 | none=>none
 | some n=>match x with
  | .sl o off len _ _=>if 0≤n∧n<len then some (.ptr o (off+n.toNat*sz))else none
  | .imm cs len _=>if 0≤n∧n<len then some (.ip (cs.drop (n.toNat*sz)))else none
  | _=>none
def Nc (len sz:Nat)(x i:AV):Option AV:=match Ho i with
 | none=>none
 | some n=>if 0≤n∧n<len then Aa (n.toNat*sz) x else none
def Nb (g:Bool)(n' len sz:Nat)(x i:AV):Option AV:=match Ho i with
 | none=>none
 | some n=>if 0≤n∧n<len then Mx g n' (n.toNat*sz) x else none
def Lo (x i:AV):Option AV:=match Ho i with
 | none=>none
 | some n=>match x with
  | .lit (.string s)=>if 0≤n then(s[n.toNat]?).map λb=>.lit (.int .u8 b.toNat)else none
  | _=>none
def L6 (P:Program)(t:TypeId):Option (TypeDesc×Value):=
 match P.underlying t with
 | some (.map key elem)=>match P.underlying key,Gx P elem with
  | some d,some z=>some (d,z)
  | _,_=>none
 | _=>none
theorem Hb {P:Program}{t:TypeId}{d:TypeDesc}{z:Value}(h:L6 P t=some (d,z)):∃key elem,P.underlying t=some (.map key elem)∧P.underlying key=some d∧Gx P elem=some z:=by
 unfold L6 at h;split at h
 ·rename_i key elem hu
  split at h
  ·rename_i d' z' h1 h2
   injection h with h;injection h with e1 e2;subst e1;subst e2;exact⟨key,elem,hu,h1,h2⟩
  ·cases h
 ·cases h
def OU (H:AH)(l:Option AV):Option (AV×AH):=match l with
 | none=>some (.mp H.length,H++[some (.map [])])
 | some (.lit (.int _ _))=>some (.mp H.length,H++[some (.map [])])
 | _=>none
def NG (d:TypeDesc)(z:Value)(H:AH)(x k:AV)(co:Bool):Option AV:=match GK H x,k with
 | some es,.lit kv=>if Js d kv then match E2 d kv es 0 with
   | some (some (_,a))=>some (if co then .tup [a,.lit (.bool true)]else a)
   | some none=>some (if co then .tup [.ofV z,.lit (.bool false)]else .ofV z)
   | none=>none
  else none
 | _,_=>none
def Py (d:TypeDesc)(H:AH)(m k x:AV):Option AH:=match m,k with
 | .mp o,.lit kv=>match H[o]? with
  | some (some (.map es))=>if Js d kv then match E2 d kv es 0 with
    | some (some (j,_))=>some (H.set o (some (.map (es.set j (kv,x)))))
    | some none=>some (H.set o (some (.map (es++[(kv,x)]))))
    | none=>none
   else none
  | _=>none
 | _,_=>none
def ame (d:TypeDesc)(z:Value)(H:AH)(m k:AV):Option (AV×AH):=match m,k with
 | .mp o,.lit kv=>match H[o]? with
  | some (some (.map es))=>if Js d kv then match E2 d kv es 0 with
    | some (some (j,a))=>some (.tup [a,.lit (goInt j)],H)
    | some none=>some (.tup [.ofV z,.lit (goInt es.length)],H.set o (some (.map (es++[(kv,.ofV z)]))))
    | none=>none
   else none
  | _=>none
 | _,_=>none
inductive LK where
 | str
 | sl
 | arr (n:Nat)
 | mp
def M8 (P:Program)(t:TypeId):Option LK:=
 match P.underlying t with
 | some .string=>some .str
 | some (.slice _)=>some .sl
 | some (.array n _)=>some (.arr n)
 | some (.map _ _)=>some .mp
 | _=>none
def Hr (x:AV):Option AV:=match x with
 | .lit (.string s)=>some (.lit (.int .i64 s.size))
 | _=>none
def Bm (x:AV):Option AV:=match x with
 | .sl _ _ len _ _=>some (.lit (.int .i64 len))
 | .imm _ len _=>some (.lit (.int .i64 len))
 | .lit (.slice none n _)=>some (.lit (.int .i64 n))
 | .emp=>some (.lit (.int .i64 0))
 | _=>none
def Lq (H:AH)(x:AV):Option AV:=match x with
 | .lit (.map none)=>some (.lit (.int .i64 0))
 | .mp o=>match H[o]? with
  | some (some (.map es))=>some (.lit (goInt es.length))
  | _=>none
 | _=>none
def PF (x:AV):Option AV:=match x with
 | .sl _ _ _ _ (.ex k)=>some (.lit (goInt k))
 | .lit (.slice none _ c)=>some (.lit (goInt c))
 | .emp=>some (.lit (goInt 0))
 | _=>none
def OJ (size bytes:Nat)(H:AH)(s x:AV):Option (AV×AH):=match AP H size x with
 | none=>none
 | some (news,n)=>HP H size bytes s news n
def acl (zc:List AV)(H:AH)(x:AV):Option AH:=match x with
 | .lit (.slice none _ _)=>some H
 | .sl o off len esz _=>match H[o]? with
  | some (some (.cells cs))=>if zc.length=esz∧esz≠0∧off+len*esz≤cs.length then some (if len=0 then H else H.set o (some (.cells (AM cs off (Ee zc len)))))else none
  | _=>none
 | _=>none
inductive SK where
 | str
 | sl (sz:Nat)
 | arr (n sz:Nat)
def Ja (P:Program)(t:TypeId):Option SK:=
 match P.underlying t with
 | some .string=>some .str
 | some (.slice e)=>(AC P e).map .sl
 | some (.array n e)=>(AC P e).map (.arr n)
 | _=>none
inductive IK where
 | sl (sz:Nat)
 | arr (n sz:Nat)
def L4 (P:Program)(t:TypeId):Option IK:=
 match P.underlying t with
 | some (.slice e)=>(AC P e).map .sl
 | some (.array n e)=>(AC P e).map (.arr n)
 | _=>none
inductive VK where
 | str
 | arr (g:Bool) (n len sz:Nat)
def Rb (P:Program)(t:TypeId):Option VK:=
 match P.underlying t with
 | some .string=>some .str
 | some (.array len e)=>match Is P e,AC P e with
  | some g,some n=>some (.arr g n len n)
  | _,_=>none
 | _=>none
mutual
def E4:AV→Bool
 | .lit _=>true
 | .agg cs=>IJ cs
 | .tup cs=>IJ cs
 | .emp=>true
 | _=>false
def IJ:List AV→Bool
 | []=>true
 | a::r=>E4 a&&IJ r
end
mutual
theorem KC {G G':Cfg}:∀{a:AV} {v:Value},E4 a=true→VR G a v→VR G' a v
 | .lit _,_,_,hv=>by simpa only[VR]using hv
 | .agg cs,v,h,hv=>by
  simp only[E4]at h;simp only[VR]at hv⊢;obtain⟨vs,e,hr⟩:=hv;exact⟨vs,e,HA h hr⟩
 | .tup cs,v,h,hv=>by
  simp only[E4]at h;simp only[VR]at hv⊢;obtain⟨vs,e,hr⟩:=hv;exact⟨vs,e,HA h hr⟩
 | .emp,_,_,hv=>by simpa only[VR]using hv
 | .ptr ..,_,h,_=>by simp[E4]at h
 | .ip ..,_,h,_=>by simp[E4]at h
 | .sl ..,_,h,_=>by simp[E4]at h
 | .imm ..,_,h,_=>by simp[E4]at h
 | .mp ..,_,h,_=>by simp[E4]at h
 | .fn ..,_,h,_=>by simp[E4]at h
 | .junk,_,h,_=>by simp[E4]at h
theorem HA {G G':Cfg}:∀{as:List AV} {vs:List Value},IJ as=true→VRs G as vs→VRs G' as vs
 | [],_,_,hv=>by simpa only[VRs]using hv
 | a::as,vs,h,hv=>by
  simp only[IJ,R9]at h;simp only[VRs]at hv⊢;obtain⟨v,r,e,h1,h2⟩:=hv;exact⟨v,r,e,KC h.1 h1,HA h.2 h2⟩
end
section
variable {P : Program}
theorem BPure.lent {f:FuncId}{args args':List AV}{H:AH}{r:AV}{n:Nat}(hf:EV (Fg H n) args=some args')(hr:E4 r=true)(h:BPure P f args' r):BJ P f args H r H:=by
 intro G vs hH hv
 let G1:Cfg:={w:=G.w,n:=0,μ:=G.μ,L:=λ_=>False,K:=λb=>G.K b∧¬G.L b}
 have h0:HR G1 []:=⟨rfl,λo x h=>by simp at h,λo o' x x' h=>by simp at h,λo x h=>by simp at h,λb h=>by
  rcases h with h | h
  ·exact h.elim
  ·exact hH.lt b (.inr h.1),λb h=>h.elim⟩
 have hv':VRs G1 args' vs:=Da (λa v r hx he=>L1 (G':=G) (G'':=G1) rfl (λb hn hh=>hn (.inr (hh.elim False.elim And.left))) hH (λo x ho hh=>hh.elim False.elim λhk=>hk.2 (hH.live o x ho)) n a v r hx he) hv hf;refine((h []) G1 vs h0 hv').mono ?_;rintro e w' ⟨r',X,G',v,rfl,rfl,hE,hx,hX,rfl,rfl⟩;have keep:∀k,k<G.w.heap.size→G'.w.heap[k]?=G.w.heap[k]?:=λk hk=>(hE.keep k hk (λh=>h)).1
 let G2:Cfg:={w:=G'.w,n:=G.n,μ:=G.μ,L:=G.L,K:=G.K}
 have hE':Evo G G2:=⟨hE.os,hE.tape,hE.output,hE.size,λk hk hL=>⟨keep k hk,hL⟩,Rx _,λ_ _=>rfl,rfl⟩;exact⟨r',H,G2,v,rfl,rfl,hE',KC hr hx,⟨hH.n,λo x ho=>OR.evo hE' (hH.lt_n ho) (keep _ (hH.lt _ (.inl (hH.live _ _ ho)))) (hH.obj o x ho),hH.inj,hH.live,λb hb=>RZ (hH.lt b hb) hE.size,hH.dis⟩,rfl,rfl⟩
def PCall (P:Program)(f:FuncId)(args:List AV)(H:AH)(r:AV):Prop:=BPure P f args r∨∃n args',EV (Fg H n) args=some args'∧E4 r=true∧BPure P f args' r
theorem PCall.call {f:FuncId}{args:List AV}{H:AH}{r:AV}(h:PCall P f args H r):BJ P f args H r H:=by
 rcases h with h | ⟨n,args',h1,h2,h3⟩
 ·exact h H
 ·exact BPure.lent h1 h2 h3
end
end
section
section
variable {P : Program}
def Hh (P:Program)(H:AH)(w:Bool)(b:Builtin)(ts:List TypeId)(xs:List AV)(K:AV→AH→Prop):Prop:=
 match b,ts,xs with
 | .len,[t],[x]=>match M8 P t with
  | some .str=>gO w (Hr x) λv=>K v H
  | some .sl=>gO w (Bm x) λv=>K v H
  | some (.arr n)=>gO w (some (.lit (.int .i64 n))) λv=>K v H
  | some .mp=>gO w (Lq H x) λv=>K v H
  | none=>False
 | .cap,[t],[x]=>match M8 P t with
  | some .sl=>gO w (PF x) λv=>K v H
  | some (.arr n)=>gO w (some (.lit (goInt n))) λv=>K v H
  | _=>False
 | .clear,[t],[x]=>match IC P t with
  | some (_,_,zc)=>gS w (acl zc H x) H λH'=>K (if w then .lit (.tuple #[])else Ad) H'
  | none=>False
 | .append,[t,u],[s,x]=>match IC P t,M8 P u with
  | some (sz,by',_),some .sl | some (sz,by',_),some .str=>gH w (OJ sz by' H s x) H K
  | some (sz,by',zc),none=>match P.underlying u with
   | some (.int _)=>gH w (JI H sz by' zc s x) H K
   | _=>False
  | _,_=>False
 | .copy,[t,_],[d,s]=>match Ja P t with
  | some (.sl sz)=>gH w (QV sz H d s) H K
  | _=>False
 | .min,_,xs=>gO w (amm O7 xs) λv=>K v H
 | .max,_,xs=>gO w (amm O8 xs) λv=>K v H
 | _,_,_=>False
def FS (P:Program)(ql al:FuncId→Bool)(dr:Bool)(ρ:Operand→AV)(H:AH)(o:Oper)(w:Bool)(K:AV→AH→Prop):Prop:=
 match o.op with
 | .move x=>gO w (some (ρ x)) λv=>K v H
 | .assign x=>gO w (some (ρ x)) λv=>K v H
 | .pick c a b=>gO w (Aj (ρ c) (ρ a) (ρ b)) λv=>K v H
 | .alloc e=>match Gx P e with
  | some z=>gH w (AO H (.ofV z)) H K
  | none=>False
 | .box _ x=>gH w (AO H (ρ x)) H K
 | .build t parts=>match Lu P t with
  | some (zc,pl)=>match HJ pl ρ parts.toList with
   | some l=>gO w (O1 zc l) λv=>K v H
   | none=>False
  | none=>False
 | .buildSlice t len parts=>match IC P t with
  | some (sz,_,zc)=>match Nat.ble (len*sz) 16777216 with
   | true=>match HJ (λj=>some (j*sz,sz)) ρ parts.toList with
    | some l=>match dr with
     | true=>gO w (ON sz len (Ee zc len) l) λv=>K v H
     | false=>gH w (MU H sz len (Ee zc len) l) H K
    | none=>False
   | false=>False
  | none=>False
 | .load t a=>match Is P t,AC P t with
  | some g,some n=>gO w (Ak g n H (ρ a)) λv=>K v H
  | _,_=>False
 | .store t a x=>match AC P t with
  | some n=>gS w (Ex n H (ρ a) (ρ x)) H λH'=>K Ad H'
  | none=>False
 | .nilCheck x=>gO w (DC (ρ x)) λv=>K v H
 | .binOp op t x y _=>match P.underlying t with
  | some (.int _)=>gO w (Aq op (ρ x) (ρ y)) λv=>K v H
  | some .string=>gO w (MT op (ρ x) (ρ y)) λv=>K v H
  | some .bool=>gO w (NE op (ρ x) (ρ y)) λv=>K v H
  | some (.pointer _)=>gO w (NP op L9 (ρ x) (ρ y)) λv=>K v H
  | some (.slice _)=>gO w (NP op Jt (ρ x) (ρ y)) λv=>K v H
  | some (.func ..)=>gO w (NP op L7 (ρ x) (ρ y)) λv=>K v H
  | some (.map ..)=>gO w (NP op L8 (ρ x) (ρ y)) λv=>K v H
  | _=>gO w (Ey P op t (ρ x) (ρ y)) λv=>K v H
 | .unOp op _ x=>gO w (Iu op (ρ x)) λv=>K v H
 | .convert s d x=>match Mb P s d with
  | some (.int k)=>gO w (NF k (ρ x)) λv=>K v H
  | some .str=>gO w (acS (ρ x)) λv=>K v H
  | some .ofB=>gO w (Q6 H (ρ x)) λv=>K v H
  | some .toB=>gO w (acT (ρ x)) λv=>K v H
  | some .same=>gH w (OO H (ρ x)) H K
  | none=>False
 | .makeFunc fn f c=>gO w (some (.fn fn (f.toList.map ρ) (c.toList.map ρ))) λv=>K v H
 | .makeSlice t l c=>match IC P t with
  | some (sz,by',zc)=>gH w (amk sz by' zc H (ρ l) (ρ c)) H K
  | none=>False
 | .slice t x lo hi mx=>match Ja P t,mx with
  | some .str,none=>gO w (Oa (ρ x) (lo.map ρ) (hi.map ρ)) λv=>K v H
  | some (.sl sz),mx=>gO w (NZ sz (ρ x) (lo.map ρ) (hi.map ρ) (mx.map ρ)) λv=>K v H
  | some (.arr n sz),none=>gO w (NY n sz H (ρ x) (lo.map ρ) (hi.map ρ)) λv=>K v H
  | _,_=>False
 | .fieldAddr s x f=>match I7 P s f with
  | some k=>gO w (Aa k (ρ x)) λv=>K v H
  | none=>False
 | .field s x f=>match Ly P s f with
  | some (g,n,off)=>gO w (Mx g n off (ρ x)) λv=>K v H
  | none=>False
 | .indexAddr t x i=>match L4 P t with
  | some (.sl sz)=>gO w (Bz sz (ρ x) (ρ i)) λv=>K v H
  | some (.arr len sz)=>gO w (Nc len sz (ρ x) (ρ i)) λv=>K v H
  | none=>False
 | .index t x i=>match Rb P t with
  | some .str=>gO w (Lo (ρ x) (ρ i)) λv=>K v H
  | some (.arr g n len sz)=>gO w (Nb g n len sz (ρ x) (ρ i)) λv=>K v H
  | none=>False
 | .extract t i=>gO w (A5 (ρ t) i) λv=>K v H
 | .makeMap t l=>match L6 P t with
  | some _=>gH w (OU H (l.map ρ)) H K
  | none=>False
 | .lookup t x k co=>match L6 P t with
  | some (d,z)=>gO w (NG d z H (ρ x) (ρ k) co) λv=>K v H
  | none=>False
 | .mapUpdate t m k x=>match L6 P t with
  | some (d,_)=>gS w (Py d H (ρ m) (ρ k) (ρ x)) H λH'=>K Ad H'
  | none=>False
 | .mapEntry t m k=>match L6 P t with
  | some (d,z)=>gH w (ame d z H (ρ m) (ρ k)) H K
  | none=>False
 | .entryStore _ m s x=>gS w (Df H (ρ m) (ρ s) (ρ x)) H λH'=>K Ad H'
 | .call {callee:=.builtin b,args,argTypes}=>Hh P H w b argTypes.toList (args.toList.map ρ) K
 | .call {callee:=.value f,args,argTypes:=_}=>bF w (ρ f) λk first cap=>match A6 al o.op with
   | true=>match dr with
    | true=>False
    | false=>match B0 P k with
     | true=>gA w (ACalls P k (first++args.toList.map ρ++cap) H) H K
     | false=>gP w (QK P k (first++args.toList.map ρ++cap) H) λv=>K v H
   | false=>bT (B0 P k||!w) (match A6 ql o.op with
    | true=>match dr with
     | true=>gP w (BPure P k (first++args.toList.map ρ++cap)) λv=>K v H
     | false=>gP w (PCall P k (first++args.toList.map ρ++cap) H) λv=>K v H
    | false=>gC w (BJ P k (first++args.toList.map ρ++cap) H) H K)
 | _=>False
def StepR (P:Program)(ql:FuncId→Bool)(dr:Bool)(ρ:Operand→AV)(H:AH)(o:Oper)(w:Bool)(r:AV)(H':AH):Prop:=
 (w=true∧(Ke P dr ρ H o=some (r,H')∨(Ke P dr ρ H o=none∧FC P ql dr ρ o H r H')))∨(w=false∧r=Ad∧H'=H)
section
variable {ql : FuncId→Bool} {dr : Bool} {ρ : Operand→AV} {H : AH} {o : Oper} {w : Bool} {K : AV→AH→Prop}
theorem At {x:Option AV}(h:gO w x λv=>K v H)(hx:∀r,x=some r→Ke P dr ρ H o=some (r,H)):
  ∃r H',K r H'∧StepR P ql dr ρ H o w r H'∧∀K2:AV→AH→Prop,K2 r H'→gO w x λv=>K2 v H:=by
 cases w with
 | false=>exact⟨Ad,H,h,.inr ⟨rfl,rfl,rfl⟩,λ_ h=>h⟩
 | true=>cases x with
  | none=>exact h.elim
  | some r=>exact⟨r,H,h,.inl ⟨rfl,.inl (hx r rfl)⟩,λ_ h=>h⟩
theorem DJ {x:Option (AV×AH)}(h:gH w x H K)(hx:∀r,x=some r→Ke P dr ρ H o=some r):
  ∃r H',K r H'∧StepR P ql dr ρ H o w r H'∧∀K2:AV→AH→Prop,K2 r H'→gH w x H K2:=by
 cases w with
 | false=>exact⟨Ad,H,h,.inr ⟨rfl,rfl,rfl⟩,λ_ h=>h⟩
 | true=>cases x with
  | none=>exact h.elim
  | some r=>exact⟨r.1,r.2,h,.inl ⟨rfl,.inl (hx r rfl)⟩,λ_ h=>h⟩
theorem Nr {x:Option AH}{u:AV}(h:gS w x H λH'=>K (if w then u else Ad) H')(hx:∀r,x=some r→Ke P dr ρ H o=some (u,r)):
  ∃r H',K r H'∧StepR P ql dr ρ H o w r H'∧∀K2:AV→AH→Prop,K2 r H'→gS w x H λH'=>K2 (if w then u else Ad) H':=by
 cases w with
 | false=>exact⟨Ad,H,h,.inr ⟨rfl,rfl,rfl⟩,λ_ h=>h⟩
 | true=>cases x with
  | none=>exact h.elim
  | some r=>exact⟨u,r,h,.inl ⟨rfl,.inl (hx r rfl)⟩,λ_ h=>h⟩
theorem JX {x:Option AH}(h:gS w x H λH'=>K Ad H')(hx:∀r,x=some r→Ke P dr ρ H o=some (Ad,r)):
  ∃r H',K r H'∧StepR P ql dr ρ H o w r H'∧∀K2:AV→AH→Prop,K2 r H'→gS w x H λH'=>K2 Ad H':=by
 have:=Nr (u:=Ad) (ql:=ql) (by simpa using h) hx
 simpa using this
end
theorem Ah {dr:Bool}{ρ:Operand→AV}{H:AH}{o:Oper}(hb:Jr o.op=false):Ke P dr ρ H o=AT P ρ H o:=by
 unfold Ke;rw[hb];simp
theorem Lp {t:TypeId}{g:Bool}{n:Nat}{H:AH}{a:AV}(hg:Is P t=some g)(hn:AC P t=some n):HT P H t a=Ak g n H a:=by
 unfold HT Ak;rw[hg,hn];cases a<;>rfl
theorem OW {t:TypeId}{n:Nat}{H:AH}{a x:AV}(hn:AC P t=some n):Hu P H t a x=Ex n H a x:=by
 unfold Hu Ex;rw[hn];cases Be x<;>cases a<;>rfl
theorem OL {op:BinOp}{t:TypeId}{x y r:AV}(h:Aq op x y=some r):Ey P op t x y=some r:=by
 unfold Aq at h;split at h
 ·unfold Ey;exact h
 ·cases h
theorem OM {op:BinOp}{t:TypeId}{x y r:AV}(h:MT op x y=some r):Ey P op t x y=some r:=by
 unfold MT at h;split at h
 ·unfold Ey;exact h
 ·cases h
theorem OK {op:BinOp}{t:TypeId}{x y r:AV}(hu:P.underlying t=some .bool)(h:NE op x y=some r):Ey P op t x y=some r:=by
 unfold NE at h;split at h
 ·unfold Ey
  simp only[HQ,hu];exact h
 ·cases h
theorem JJ {op:BinOp}{f:AV→Option Bool}{t:TypeId}{x y r:AV}(hx:∀v,x=.lit v→(∃k n,v=.int k n)∨(∃s,v=.string s)→f x=none)(he:∀x y,HQ P 20 t x y=CJ (f x) (f y))(h:NP op f x y=some r):Ey P op t x y=some r:=by
 unfold NP at h;split at h
 ·cases h
 ·cases h
 ·cases h
 ·rename_i hagg hn1 hn2
  unfold Ey
  split
  ·rename_i k a k' b
   have:=hx _ rfl (.inl ⟨k,a,rfl⟩)
   rw[this]at h;unfold Q1 CJ at h;split at h<;>simp at h
  ·rename_i a b
   have:=hx _ rfl (.inr ⟨a,rfl⟩)
   rw[this]at h;unfold Q1 CJ at h;split at h<;>simp at h
  ·exact(hn2 _ _ rfl rfl).elim
  ·exact(hagg rfl).elim
  ·exact(hn1 rfl).elim
  ·rw[he]
   exact h
end
end
section
section
variable {P : Program}
theorem Cv {t:TypeId}{x:LK}(h:M8 P t=some x):match x with
  | .str=>P.underlying t=some .string
  | .sl=>∃e,P.underlying t=some (.slice e)
  | .arr n=>∃e,P.underlying t=some (.array n e)
  | .mp=>∃k e,P.underlying t=some (.map k e):=by
 unfold M8 at h;split at h
 ·rename_i hu;injection h with h;subst h;exact hu
 ·rename_i e hu;injection h with h;subst h;exact⟨e,hu⟩
 ·rename_i n e hu;injection h with h;subst h;exact⟨e,hu⟩
 ·rename_i k e hu;injection h with h;subst h;exact⟨k,e,hu⟩
 ·cases h
theorem CZ {t:TypeId}{x:SK}(h:Ja P t=some x):match x with
  | .str=>P.underlying t=some .string
  | .sl sz=>∃e,P.underlying t=some (.slice e)∧AC P e=some sz
  | .arr n sz=>∃e,P.underlying t=some (.array n e)∧AC P e=some sz:=by
 unfold Ja at h;split at h
 ·rename_i hu;injection h with h;subst h;exact hu
 ·rename_i e hu
  obtain⟨s,hs,rfl⟩:=Option.map_eq_some_iff.1 h;exact⟨e,hu,hs⟩
 ·rename_i n e hu
  obtain⟨s,hs,rfl⟩:=Option.map_eq_some_iff.1 h;exact⟨e,hu,hs⟩
 ·cases h
theorem J7 {t:TypeId}{x:IK}(h:L4 P t=some x):match x with
  | .sl sz=>∃e,P.underlying t=some (.slice e)∧AC P e=some sz
  | .arr n sz=>∃e,P.underlying t=some (.array n e)∧AC P e=some sz:=by
 unfold L4 at h;split at h
 ·rename_i e hu
  obtain⟨s,hs,rfl⟩:=Option.map_eq_some_iff.1 h;exact⟨e,hu,hs⟩
 ·rename_i n e hu
  obtain⟨s,hs,rfl⟩:=Option.map_eq_some_iff.1 h;exact⟨e,hu,hs⟩
 ·cases h
theorem Nt {t:TypeId}{x:VK}(h:Rb P t=some x):match x with
  | .str=>P.underlying t=some .string
  | .arr g n len sz=>∃e,P.underlying t=some (.array len e)∧Is P e=some g∧AC P e=some n∧sz=n:=by
 unfold Rb at h;split at h
 ·rename_i hu;injection h with h;subst h;exact hu
 ·rename_i len e hu
  split at h
  ·rename_i g n hg hn;injection h with h;subst h;exact⟨e,hu,hg,hn,rfl⟩
  ·cases h
 ·cases h
theorem E0 {s d:TypeId}{x:CK}(h:Mb P s d=some x):match x with
  | .int k=>P.underlying d=some (.int k)∧∃y,P.underlying s=some y
  | .str=>P.underlying d=some .string∧P.underlying s=some .string
  | .ofB=>P.underlying d=some .string∧∃e,P.underlying s=some (.slice e)∧P.underlying e=some (.int .u8)
  | .toB=>P.underlying s=some .string∧∃e,P.underlying d=some (.slice e)∧P.underlying e=some (.int .u8)
  | .same=>s=d∧∃e,P.underlying d=some (.slice e)∧P.underlying e=some (.int .u8):=by
 unfold Mb at h;split at h
 ·rename_i k y h1 h2;injection h with h;subst h;exact⟨h1,y,h2⟩
 ·rename_i h1 h2;injection h with h;subst h;exact⟨h1,h2⟩
 ·rename_i e h1 h2
  split at h
  ·rename_i h3;injection h with h;subst h;exact⟨h1,e,h2,h3⟩
  ·cases h
 ·rename_i e h1 h2
  split at h
  ·rename_i h3;injection h with h;subst h;exact⟨h2,e,h1,h3⟩
  ·cases h
 ·rename_i e e2 h1 h2
  split at h
  ·rename_i h3 h4;injection h with h;subst h;exact⟨RY h3,e,h1,h4⟩
  ·cases h
 ·cases h
theorem M6 {s:TypeId}{f:Nat}{g:Bool}{n off:Nat}(h:Ly P s f=some (g,n,off))(x:AV):I6 P s x f=Mx g n off x:=by
 unfold Ly at h;unfold I6;split at h
 ·rename_i fields hu
  rw[hu];simp only;split at h
  ·rename_i fl hfl
   rw[hfl];simp only;split at h
   ·rename_i g' n' hg hn
    injection h with h;injection h with h1 h2;injection h2 with h2 h3;subst h1;subst h2;subst h3;unfold Gh Mx;rw[hg,hn];cases x<;>rfl
   ·cases h
  ·cases h
 ·cases h
theorem MS {t u:TypeId}{sz by':Nat}{zc:List AV}{H:AH}{s x:AV}(ht:IC P t=some (sz,by',zc))(hu:(∃e,P.underlying u=some (.slice e))∨P.underlying u=some .string):EO P H t u s x=OJ sz by' H s x:=by
 obtain⟨e,i,z,h1,h2,h3,rfl,rfl,rfl,h4,h5,h6,h7⟩:=Fz ht;unfold EO OJ;rcases hu with⟨e',hu⟩ | hu<;>rw[h1,hu]<;>simp only[h2,h3]
 ·cases AP H i.size x with
  | none=>rfl
  | some q=>simp[h4,h5,h6]
 ·cases AP H i.size x with
  | none=>rfl
  | some q=>simp[h4,h5,h6]
theorem NS {d:Nat}{t e:TypeId}(hu:P.underlying t=some (.pointer e))(x y:AV):HQ P (d+1) t x y=CJ (L9 x) (L9 y):=by simp only[HQ,hu]
theorem OS {d:Nat}{t e:TypeId}(hu:P.underlying t=some (.slice e))(x y:AV):HQ P (d+1) t x y=CJ (Jt x) (Jt y):=by simp only[HQ,hu]
theorem OP {d:Nat}{t:TypeId}{ps rs:Array TypeId}{v:Bool}(hu:P.underlying t=some (.func ps rs v))(x y:AV):HQ P (d+1) t x y=CJ (L7 x) (L7 y):=by simp only[HQ,hu]
theorem OQ {d:Nat}{t k e:TypeId}(hu:P.underlying t=some (.map k e))(x y:AV):HQ P (d+1) t x y=CJ (L8 x) (L8 y):=by simp only[HQ,hu]
variable {ql : FuncId→Bool} {dr : Bool} {ρ : Operand→AV} {H : AH} {w : Bool} {K : AV→AH→Prop}
theorem Kj {dst:Option Tmp}{b:Builtin}{args:Array Operand}{ats:Array TypeId}{type:TypeId}{pos:String}{after:Array Edge}{guard:Option (Nat×Bool)}
  (h:Hh P H w b ats.toList (args.toList.map ρ) K):
  ∃r H',K r H'∧StepR P ql dr ρ H ⟨dst,.call {callee:=.builtin b,args,argTypes:=ats},type,pos,after,guard⟩ w r H'∧∀K2:AV→AH→Prop,K2 r H'→Hh P H w b ats.toList (args.toList.map ρ) K2:=by
 have hop:Ke P dr ρ H ⟨dst,.call {callee:=.builtin b,args,argTypes:=ats},type,pos,after,guard⟩=Ap P H b ats.toList (args.toList.map ρ):=(Ah rfl).trans rfl;generalize ats.toList=ts at*;generalize args.toList.map ρ=xs at*;unfold Hh at h⊢;split at h
 ·rename_i t x
  (try simp only)
  split at h
  ·rename_i hl
   have hl':=Cv hl
   (try simp only[hl])
   refine At h λr hr=>hop.trans ?_
   unfold Hr at hr;split at hr
   ·injection hr with hr;subst hr
    simp[Ap,Hq,hl']
   ·cases hr
  ·rename_i hl
   obtain⟨e,hl'⟩:=Cv hl
   (try simp only[hl])
   refine At h λr hr=>hop.trans ?_
   unfold Bm at hr;split at hr<;>first
    | (cases hr;done)
    | (injection hr with hr;subst hr;simp[Ap,Hq,hl'])
  ·rename_i n hl
   obtain⟨e,hl'⟩:=Cv hl
   (try simp only[hl])
   refine At h λr hr=>hop.trans ?_
   injection hr with hr;subst hr;simp[Ap,Hq,hl']
  ·rename_i hl
   obtain⟨k,e,hl'⟩:=Cv hl
   (try simp only[hl])
   refine At h λr hr=>hop.trans ?_
   unfold Lq at hr;split at hr
   ·injection hr with hr;subst hr
    simp[Ap,Hq,hl']
   ·simp only[Ap,Hq,hl',GE]
    first
     | (exact congrArg (Option.map λv=>(v,H)) hr)
     | ((try simp only[hr]);rfl)
   ·cases hr
  ·exact h.elim
 ·rename_i t x
  (try simp only)
  split at h
  ·rename_i hl
   obtain⟨e,hl'⟩:=Cv hl
   (try simp only[hl])
   refine At h λr hr=>hop.trans ?_
   unfold PF at hr;split at hr<;>first
    | (cases hr;done)
    | (injection hr with hr;subst hr;simp[Ap,MW,hl'])
  ·rename_i n hl
   obtain⟨e,hl'⟩:=Cv hl
   (try simp only[hl])
   refine At h λr hr=>hop.trans ?_
   injection hr with hr;subst hr;simp[Ap,MW,hl']
  ·exact h.elim
 ·rename_i t x
  (try simp only)
  split at h
  ·rename_i sz by' zc hl
   obtain⟨e,i,z,h1,h2,h3,rfl,rfl,rfl,h4,h5,h6,h7⟩:=Fz hl
   (try simp only[hl])
   refine Nr h λr hr=>hop.trans ?_
   unfold acl at hr;unfold Ap JL;simp only[h1,h2];split at hr
   ·injection hr with hr;subst hr;rfl
   ·rename_i o off len esz cap
    simp only;split at hr
    ·rename_i cs hcs
     simp only[hcs,h3];split at hr
     ·rename_i hc
      injection hr with hr;subst hr;simp only[h2,h3];rw[if_pos (show z.cells.size=esz∧esz≠0∧Fw z=true∧off+len*esz≤cs.length from⟨by simpa using hc.1,hc.2.1,h7,hc.2.2⟩)];rfl
     ·cases hr
    ·cases hr
   ·cases hr
  ·exact h.elim
 ·rename_i t u s x
  (try simp only)
  split at h
  ·rename_i sz by' zc h1 h2
   (try simp only[h1,h2])
   obtain⟨e,h2'⟩:=Cv h2;exact DJ h λr hr=>hop.trans (by simp only[Ap];rw[MS h1 (.inl ⟨e,h2'⟩),hr])
  ·rename_i sz by' zc h1 h2
   (try simp only[h1,h2])
   have h2':=Cv h2;exact DJ h λr hr=>hop.trans (by simp only[Ap];rw[MS h1 (.inr h2'),hr])
  ·rename_i sz by' zc h1 h2
   (try simp only[h1,h2])
   split at h
   ·rename_i k hu
    (try simp only[hu])
    refine DJ h λr hr=>hop.trans ?_
    obtain⟨e,i,z,q1,q2,q3,rfl,rfl,rfl,q4,q5,q6,q7⟩:=Fz h1;have e1:EO P H t u s x=none:=by unfold EO;rw[q1,hu]
    have e2:Ft P H t u s x=JI H i.size i.bytes (z.cells.toList.map .lit) s x:=by
     unfold Ft;simp only[q1,hu,q2,q3];rw[if_neg (by simp[q4,q5,q6,q7])]
    simp only[Ap,e1,e2,hr]
   ·exact h.elim
  ·exact h.elim
 ·rename_i t u d s
  (try simp only)
  split at h
  ·rename_i sz hl
   obtain⟨e,h1,h2⟩:=CZ hl
   (try simp only[hl])
   refine DJ h λr hr=>hop.trans ?_
   show Ky P H t d s=_
   unfold Ky;simp only[h1,h2];exact hr
  ·exact h.elim
 ·exact At h λr hr=>hop.trans (by simp[Ap,hr])
 ·exact At h λr hr=>hop.trans (by simp[Ap,hr])
 ·exact h.elim
theorem Ih (op:Op):A6 Ai op=false:=by
 unfold A6
 split<;>rfl
abbrev S3:=@Option.map_none
set_option maxHeartbeats 2000000 in
theorem FT {o:Oper}(h:FS P ql Ai dr ρ H o w K):∃r H',K r H'∧StepR P ql dr ρ H o w r H'∧∀K2:AV→AH→Prop,K2 r H'→FS P ql Ai dr ρ H o w K2:=by
 obtain⟨dst,op,type,pos,after,guard⟩:=o;cases op
 case move x=>exact At h λr hr=>by injection hr with hr;subst hr;exact(Ah rfl).trans rfl
 case assign x=>exact At h λr hr=>by injection hr with hr;subst hr;exact(Ah rfl).trans rfl
 case pick c a b=>
  refine At h λr hr=>(Ah rfl).trans ?_
  unfold Aj at hr;split at hr
  ·rename_i t ht
   injection hr with hr;subst hr;simp[AT,ht]
  ·cases hr
 case alloc e=>
  unfold FS at h⊢;simp only at h⊢;split at h
  ·rename_i z hz
   (try simp only[hz])
   exact DJ h λr hr=>(Ah rfl).trans (by simp[AT,hz,hr])
  ·exact h.elim
 case box e x=>exact DJ h λr hr=>(Ah rfl).trans (by simp[AT,hr])
 case build t parts=>
  unfold FS at h⊢;simp only at h⊢;split at h
  ·rename_i zc pl hz
   (try simp only[hz])
   split at h
   ·rename_i l hl
    (try simp only[hl])
    refine At h λr hr=>(Ah rfl).trans ?_
    unfold O1 at hr;simp[AT,M3 hz,FO _ _ zc hl,hr]
   ·exact h.elim
  ·exact h.elim
 case buildSlice t len parts=>
  unfold FS at h⊢;simp only at h⊢;split at h
  ·rename_i sz by' zc hz
   (try simp only[hz])
   obtain⟨e,i,z,h1,h2,h3,rfl,rfl,rfl,h4,h5,h6,h7⟩:=Fz hz;split at h
   ·rename_i hle
    (try simp only[hle])
    have hle:=Nat.le_of_ble_eq_true hle;split at h
    ·rename_i l hl
     (try simp only[hl])
     cases dr with
     | true=>
      simp only at h⊢;refine At h λr hr=>?_
      unfold ON at hr;obtain⟨cs,hcs,rfl⟩:=Option.map_eq_some_iff.1 hr;simp only[Ke,Jr,Bool.and_self,if_true,Cd,BC,h1,h2,h3];rw[if_pos ⟨hle,h6,h4,h7⟩,FO _ _ _ hl,hcs];rfl
     | false=>
      simp only at h⊢;refine DJ h λr hr=>?_
      unfold MU at hr;obtain⟨cs,hcs,rfl⟩:=Option.map_eq_some_iff.1 hr;simp only[Ke,Rj,AT,BC,h1,h2,h3];rw[if_pos ⟨hle,h6,h4,h7⟩,FO _ _ _ hl,hcs];rfl
    ·exact h.elim
   ·exact h.elim
  ·exact h.elim
 case load t a=>
  unfold FS at h⊢;simp only at h⊢;split at h
  ·rename_i g n hg hn
   (try simp only[hg,hn])
   exact At h λr hr=>(Ah rfl).trans (by simp[AT,Lp hg hn,hr])
  ·exact h.elim
 case store t a x=>
  unfold FS at h⊢;simp only at h⊢;split at h
  ·rename_i n hn
   (try simp only[hn])
   exact JX h λr hr=>(Ah rfl).trans (by simp[AT,OW hn,hr])
  ·exact h.elim
 case nilCheck x=>exact At h λr hr=>(Ah rfl).trans (by simp[AT,hr])
 case binOp op t x y yt=>
  unfold FS at h⊢;simp only at h⊢;split at h
  ·rename_i hu;(try simp only[hu])
   exact At h λr hr=>(Ah rfl).trans (by simp[AT,OL hr])
  ·rename_i hu;(try simp only[hu])
   exact At h λr hr=>(Ah rfl).trans (by simp[AT,OM hr])
  ·rename_i hu;(try simp only[hu])
   exact At h λr hr=>(Ah rfl).trans (by simp[AT,OK hu hr])
  ·rename_i hu;(try simp only[hu])
   exact At h λr hr=>(Ah rfl).trans (by simp[AT,JJ (by rintro v hv (⟨k,n,rfl⟩ | ⟨s,rfl⟩)<;>rw[hv]<;>rfl) (NS hu) hr])
  ·rename_i hu;(try simp only[hu])
   exact At h λr hr=>(Ah rfl).trans (by simp[AT,JJ (by rintro v hv (⟨k,n,rfl⟩ | ⟨s,rfl⟩)<;>rw[hv]<;>rfl) (OS hu) hr])
  ·rename_i hu;(try simp only[hu])
   exact At h λr hr=>(Ah rfl).trans (by simp[AT,JJ (by rintro v hv (⟨k,n,rfl⟩ | ⟨s,rfl⟩)<;>rw[hv]<;>rfl) (OP hu) hr])
  ·rename_i hu;(try simp only[hu])
   exact At h λr hr=>(Ah rfl).trans (by simp[AT,JJ (by rintro v hv (⟨k,n,rfl⟩ | ⟨s,rfl⟩)<;>rw[hv]<;>rfl) (OQ hu) hr])
  ·obtain⟨r,H',h1,h2,h3⟩:=At (P:=P) (ql:=ql) (dr:=dr) (ρ:=ρ) (o:=⟨dst,.binOp op t x y yt,type,pos,after,guard⟩) h λr hr=>(Ah rfl).trans (by simp[AT,hr])
   refine⟨r,H',h1,h2,λK2 hk=>?_⟩;exact h3 K2 hk
 case unOp op t x=>exact At h λr hr=>(Ah rfl).trans (by simp[AT,hr])
 case convert s d x=>
  unfold FS at h⊢;simp only at h⊢;split at h
  ·rename_i k hc
   obtain⟨h1,y,h2⟩:=E0 hc
   (try simp only[hc])
   refine At h λr hr=>(Ah rfl).trans ?_
   unfold NF at hr;split at hr
   ·rename_i hx
    injection hr with hr;subst hr;simp[AT,BV,h1,h2,hx]
   ·cases hr
  ·rename_i hc
   obtain⟨h1,h2⟩:=E0 hc
   (try simp only[hc])
   refine At h λr hr=>(Ah rfl).trans ?_
   unfold acS at hr;split at hr
   ·rename_i hx
    injection hr with hr;subst hr;simp[AT,BV,h1,h2,hx]
   ·cases hr
  ·rename_i hc
   obtain⟨h1,e,h2,h3⟩:=E0 hc
   (try simp only[hc])
   refine At h λr hr=>(Ah rfl).trans ?_
   unfold Q6 at hr;split at hr
   ·cases hr
   ·rename_i hx
    have:BV P H s d (ρ x)=some r:=by
     unfold BV;simp only[h1,h2];split at hr
     ·rename_i cs n hs
      simp only[h3,hs];exact hr
     ·cases hr
    simp[AT,this]
  ·rename_i hc
   obtain⟨h1,e,h2,h3⟩:=E0 hc
   (try simp only[hc])
   refine At h λr hr=>(Ah rfl).trans ?_
   unfold acT at hr;split at hr
   ·rename_i t hx
    injection hr with hr;subst hr;simp[AT,BV,h1,h2,h3,hx,I4]
   ·cases hr
  ·rename_i hc
   obtain⟨rfl,e,h2,h3⟩:=E0 hc
   (try simp only[hc])
   refine DJ h λr hr=>(Ah rfl).trans ?_
   have hb:Nat.beq s s=true:=Nat.beq_refl s;simp[AT,BV,I4,K6,hb,h2,h3,hr]
  ·exact h.elim
 case makeFunc fn f c=>exact At h λr hr=>by injection hr with hr;subst hr;exact(Ah rfl).trans rfl
 case makeSlice t l c=>
  unfold FS at h⊢;simp only at h⊢;split at h
  ·rename_i sz by' zc hz
   (try simp only[hz])
   obtain⟨e,i,z,h1,h2,h3,rfl,rfl,rfl,h4,h5,h6,h7⟩:=Fz hz;refine DJ h λr hr=>(Ah rfl).trans ?_
   unfold amk at hr;split at hr
   ·rename_i k n k' m hn hm
    split at hr
    ·rename_i hb
     injection hr with hr;subst hr;simp only[AT,LT,h1,hn,hm,h2,h3];rw[if_pos ⟨hb.1,hb.2.1,hb.2.2.1,hb.2.2.2,h6,h4,h7⟩]
    ·cases hr
   ·cases hr
  ·exact h.elim
 case slice t x lo hi mx=>
  unfold FS at h⊢;simp only at h⊢;split at h
  ·rename_i hl
   have h1:=CZ hl
   (try simp only[hl])
   refine At h λr hr=>(Ah rfl).trans ?_
   unfold Oa at hr;split at hr
   ·rename_i s hs
    simp only[AT,ER,h1,hs,S3];exact congrArg (Option.map λv=>(v,H)) hr
   ·cases hr
  ·rename_i sz hl
   obtain⟨e,h1,h2⟩:=CZ hl
   (try simp only[hl])
   refine At h λr hr=>(Ah rfl).trans ?_
   unfold NZ at hr;simp only[AT,ER,h1,h2];split at hr
   ·rename_i hx;rw[hx];exact congrArg (Option.map λv=>(v,H)) hr
   ·rename_i hx;rw[hx];exact congrArg (Option.map λv=>(v,H)) hr
   ·rename_i hx;rw[hx];exact congrArg (Option.map λv=>(v,H)) hr
   ·rename_i hx;rw[hx];exact congrArg (Option.map λv=>(v,H)) hr
   ·cases hr
  ·rename_i n sz hl
   obtain⟨e,h1,h2⟩:=CZ hl
   (try simp only[hl])
   refine At h λr hr=>(Ah rfl).trans ?_
   unfold NY at hr;simp only[AT,ER,h1,h2,S3];exact congrArg (Option.map λv=>(v,H)) hr
  ·exact h.elim
 case fieldAddr s x f=>
  unfold FS at h⊢;simp only at h⊢;split at h
  ·rename_i k hk
   (try simp only[hk])
   exact At h λr hr=>(Ah rfl).trans (by simp[AT,EP,hk,hr])
  ·exact h.elim
 case field s x f=>
  unfold FS at h⊢;simp only at h⊢;split at h
  ·rename_i g n off hk
   (try simp only[hk])
   exact At h λr hr=>(Ah rfl).trans (by simp[AT,M6 hk,hr])
  ·exact h.elim
 case indexAddr t x i=>
  unfold FS at h⊢;simp only at h⊢;split at h
  ·rename_i sz hl
   obtain⟨e,h1,h2⟩:=J7 hl
   (try simp only[hl])
   refine At h λr hr=>(Ah rfl).trans ?_
   unfold Bz at hr;simp only[AT,DE,h1,h2];exact congrArg (Option.map λv=>(v,H)) hr
  ·rename_i len sz hl
   obtain⟨e,h1,h2⟩:=J7 hl
   (try simp only[hl])
   refine At h λr hr=>(Ah rfl).trans ?_
   unfold Nc at hr;simp only[AT,DE,h1,h2];exact congrArg (Option.map λv=>(v,H)) hr
  ·exact h.elim
 case index t x i=>
  unfold FS at h⊢;simp only at h⊢;split at h
  ·rename_i hl
   have h1:=Nt hl
   (try simp only[hl])
   refine At h λr hr=>(Ah rfl).trans ?_
   unfold Lo at hr;simp only[AT,I8,h1];exact congrArg (Option.map λv=>(v,H)) hr
  ·rename_i g n len sz hl
   obtain⟨e,h1,h2,h3,rfl⟩:=Nt hl
   (try simp only[hl])
   refine At h λr hr=>(Ah rfl).trans ?_
   unfold Nb Mx at hr;simp only[AT,I8,h1,h2,h3,Gh];cases hi:Ho (ρ i)with
   | none=>rw[hi]at hr;cases hr
   | some m=>
    rw[hi]at hr;simp only at hr⊢;split at hr
    ·rename_i hb
     rw[if_pos hb];cases hx:ρ x<;>rw[hx]at hr<;>first
      | (simp only at hr⊢;exact congrArg (Option.map λv=>(v,H)) hr)
      | cases hr
    ·cases hr
  ·exact h.elim
 case extract t i=>exact At h λr hr=>(Ah rfl).trans (by simp[AT,hr])
 case makeMap t l=>
  unfold FS at h⊢;simp only at h⊢;split at h
  ·rename_i q hl
   obtain⟨d,z⟩:=q;obtain⟨key,elem,h1,h2,h3⟩:=Hb hl
   (try simp only[hl])
   refine DJ h λr hr=>(Ah rfl).trans ?_
   unfold OU at hr;simp only[AT,GD,h1];split at hr
   ·rename_i he;rw[he];exact hr
   ·rename_i he;rw[he];exact hr
   ·cases hr
  ·exact h.elim
 case lookup t x k co=>
  unfold FS at h⊢;simp only at h⊢;split at h
  ·rename_i d z hl
   obtain⟨key,elem,h1,h2,h3⟩:=Hb hl
   (try simp only[hl])
   refine At h λr hr=>(Ah rfl).trans ?_
   unfold NG at hr;simp only[AT,GC,h1];split at hr
   ·rename_i es kv he hk
    simp only[he,hk,h2,h3];exact congrArg (Option.map λv=>(v,H)) hr
   ·cases hr
  ·exact h.elim
 case mapUpdate t m k x=>
  unfold FS at h⊢;simp only at h⊢;split at h
  ·rename_i d z hl
   obtain⟨key,elem,h1,h2,h3⟩:=Hb hl
   (try simp only[hl])
   refine JX h λr hr=>(Ah rfl).trans ?_
   unfold Py at hr;simp only[AT,DH,h1];split at hr
   ·rename_i o kv he hk
    simp only[he,hk,h2];split at hr
    ·rename_i es hes
     simp only[hes];exact congrArg (Option.map λv=>(Ad,v)) hr
    ·cases hr
   ·cases hr
  ·exact h.elim
 case mapEntry t m k=>
  unfold FS at h⊢;simp only at h⊢;split at h
  ·rename_i d z hl
   obtain⟨key,elem,h1,h2,h3⟩:=Hb hl
   (try simp only[hl])
   refine DJ h λr hr=>(Ah rfl).trans ?_
   unfold ame at hr;simp only[AT,FF,h1];split at hr
   ·rename_i o kv he hk
    simp only[he,hk,h2];split at hr
    ·rename_i es hes
     simp only[hes,h3];exact hr
    ·cases hr
   ·cases hr
  ·exact h.elim
 case entryStore t m s x=>exact JX h λr hr=>(Ah rfl).trans (by simp[AT,hr])
 case call c=>
  obtain⟨callee,args,ats⟩:=c;cases callee with
  | builtin b=>exact Kj h
  | invoke r m=>exact h.elim
  | value f=>
   have hn:Ke P dr ρ H ⟨dst,.call {callee:=.value f,args,argTypes:=ats},type,pos,after,guard⟩=none:=(Ah rfl).trans rfl;have hal:A6 Ai (.call {callee:=.value f,args,argTypes:=ats})=false:=Ih _;cases w with
   | false=>
    have key:∀K2:AV→AH→Prop,FS P ql Ai dr ρ H ⟨dst,.call {callee:=.value f,args,argTypes:=ats},type,pos,after,guard⟩ false K2=K2 Ad H:=by
     intro K2;unfold FS bF;simp only[hal,Bool.not_false,Bool.or_true];unfold bT;simp only[];cases A6 ql (Op.call {callee:=.value f,args,argTypes:=ats})<;>cases dr<;>simp only[gC,gP]<;>split<;>rfl
    rw[key]at h;exact⟨Ad,H,h,.inr ⟨rfl,rfl,rfl⟩,λK2 h2=>by rw[key];exact h2⟩
   | true=>
   unfold FS bF at h⊢;simp only[hal,SA,SN]at h⊢;split at h
   ·rename_i k first cap hf
    (try simp only[hf])
    unfold bT at h⊢;split at h
    ·rename_i hg
     (try simp only[hg])
     split at h
     ·rename_i hp
      (try simp only[hp])
      cases dr with
      | true=>
       obtain⟨r,hr,hk⟩:=h;refine⟨r,H,hk,.inl ⟨rfl,.inr ⟨hn,?_⟩⟩,λK2 hk=>⟨r,hr,hk⟩⟩;unfold FC BD;simp only[hf];refine⟨hg,?_⟩;rw[if_pos (by simp[hp])];exact⟨hr,trivial⟩
      | false=>
       obtain⟨r,hr,hk⟩:=h;refine⟨r,H,hk,.inl ⟨rfl,.inr ⟨hn,?_⟩⟩,λK2 hk=>⟨r,hr,hk⟩⟩;unfold FC BD;simp only[hf];refine⟨hg,?_⟩;rw[if_neg (by simp)];exact hr.call
     ·rename_i hp
      (try simp only[hp])
      obtain⟨r,H',hr,hk⟩:=h;refine⟨r,H',hk,.inl ⟨rfl,.inr ⟨hn,?_⟩⟩,λK2 hk=>⟨r,H',hr,hk⟩⟩;unfold FC BD;simp only[hf];refine⟨hg,?_⟩;rw[if_neg (by simp only[hp,Bool.and_false];simp)];exact hr
    ·exact h.elim
   ·exact h.elim
 all_goals exact h.elim
theorem N5 {al:FuncId→Bool}{o:Oper}(ha:A6 al o.op=false):FS P ql al dr ρ H o w K=FS P ql Ai dr ρ H o w K:=by
 obtain⟨dst,op,type,pos,after,guard⟩:=o;simp only at ha;cases op
 case call c=>
  obtain⟨callee,args,ats⟩:=c;cases callee with
  | value f=>
   have hal:A6 Ai (.call {callee:=.value f,args,argTypes:=ats})=false:=Ih _;unfold FS;simp only[ha,hal]
  | builtin b=>rfl
  | invoke r m=>rfl
 all_goals rfl
theorem N6 {al:FuncId→Bool}{o:Oper}(h:FS P ql al true ρ H o w K):FS P ql Ai true ρ H o w K:=by
 cases ha:A6 al o.op with
 | false=>rwa[N5 ha]at h
 | true=>
  obtain⟨dst,op,type,pos,after,guard⟩:=o;simp only at ha;unfold A6 at ha;split at ha
  ·rename_i k args ats
   exfalso
   have ha':A6 al (.call {callee:=.value (.func k),args:=args,argTypes:=ats})=true:=ha;unfold FS bF at h;simp only[ha']at h;split at h
   ·exact h
   ·split at h<;>exact h
  ·cases ha
theorem Ow {al:FuncId→Bool}{ops:Array Oper}{Q:AQ}{T:List AV}{o:Oper}{l:List Oper}(hw:A0 ops T o=some w)(h:FS P ql al false (Au T) H o w K)(hk:∀r H',K r H'→AOps P ops Q l (Bp T o.dst r) H'):AOps P ops Q (o::l) T H:=by
 cases ha:A6 al o.op with
 | false=>
  rw[N5 ha]at h;obtain⟨r,H',hk1,hs,-⟩:=FT h;have hr:=hk r H' hk1;rcases hs with⟨rfl,ho | ⟨ho,hc⟩⟩ | ⟨rfl,rfl,rfl⟩
  ·exact AOps.op hw (by simpa[Ke]using ho) hr
  ·unfold FC at hc
   split at hc
   ·rename_i k args hcall
    simp only[Rj]at hc;refine AOps.call hw hcall hc.1 (hc.2.mono ?_);rintro r' H'' ⟨rfl,rfl⟩;exact hr
   ·exact hc.elim
  ·exact AOps.unwanted hw hr
 | true=>
  obtain⟨dst,op,type,pos,after,guard⟩:=o;simp only at ha;unfold A6 at ha;split at ha
  ·rename_i k args ats
   have ha':A6 al (.call {callee:=.value (.func k),args:=args,argTypes:=ats})=true:=ha;unfold FS bF at h;simp only[ha']at h;split at h
   ·rename_i k' first cap hf
    simp only[Au]at hf;injection hf with h1 h2 h3;injection h1 with h1;subst h1;subst h2;subst h3;split at h
    ·rename_i hg
     cases w with
     | true=>
      obtain⟨R,hR,hall⟩:=h;exact AOps.call (args:=[]++args.toList.map (Au T)++[]) hw rfl hg (hR.mono λr H' hr=>hk r H' (hall r H' hr))
     | false=>exact AOps.unwanted hw (hk _ _ h)
    ·cases w with
     | true=>
      obtain⟨r,hr,h⟩:=h;exact AOps.extern (args:=[]++args.toList.map (Au T)++[]) hw rfl (λG vs hH hv=>hr G vs hH hv) (hk _ _ h)
     | false=>exact AOps.unwanted hw (hk _ _ h)
   ·rename_i hne
    exact(hne k [] [] rfl).elim
  ·cases ha
end
end
end Go.Proofs.Ytijoffokpjbnjaa.Av
