/- Texts of this proof, one behind the other, packed into one file by a program of this session. No condition. -/
import Derived.Test.YtbppnhenlboefaaGreatMhA
import Derived.LoopN
import Derived.LoopNIn
import Derived.OrdersIn
set_option linter.unusedVariables false
set_option linter.unusedSimpArgs false
namespace Go.Proofs.YtbppnhenlboefaaGreat.Av
open Go Go.RowKit
section
section
variable {P : Program}
abbrev Al1:=@List.map_congr_left
theorem Hs {ρ ρ':Operand→AV}(l:List Operand)(h:∀x∈l,ρ x=ρ' x):l.map ρ=l.map ρ':=Al1 h
theorem eJ {ρ ρ':Operand→AV}{H:AH}{o:Oper}(h:∀x∈o.op.operands.toList,ρ x=ρ' x):CD P ρ H o=CD P ρ' H o:=by
 obtain⟨dst,op,type,pos,after,guard⟩:=o;have pairs:∀ps:Array (Nat×Operand),(∀x∈ps.toList.map (·.2),ρ x=ρ' x)→(ps.toList.map λp=>(p.1,ρ p.2))=(ps.toList.map λp=>(p.1,ρ' p.2)):=λps hp=>
  Al1 λp hm=>by rw[hp p.2 (Ae6.2 ⟨p,hm,rfl⟩)]
 cases op
 case move x=>simp only[CD];rw[h x (by simp[Op.operands])]
 case assign x=>simp only[CD];rw[h x (by simp[Op.operands])]
 case pick c a b=>simp only[CD];rw[h c (by simp[Op.operands]),h a (by simp[Op.operands]),h b (by simp[Op.operands])]
 case box e x=>simp only[CD];rw[h x (by simp[Op.operands])]
 case build t ps=>simp only[CD];rw[pairs ps (λx hx=>h x (by simpa[Op.operands]using hx))]
 case buildSlice t n ps=>simp only[CD];rw[pairs ps (λx hx=>h x (by simpa[Op.operands]using hx))]
 case load t a=>simp only[CD];rw[h a (by simp[Op.operands])]
 case store t a x=>simp only[CD];rw[h a (by simp[Op.operands]),h x (by simp[Op.operands])]
 case nilCheck x=>simp only[CD];rw[h x (by simp[Op.operands])]
 case binOp op t x y u=>simp only[CD];rw[h x (by simp[Op.operands]),h y (by simp[Op.operands])]
 case unOp op t x=>simp only[CD];rw[h x (by simp[Op.operands])]
 case convert s d x=>simp only[CD];rw[h x (by simp[Op.operands])]
 case makeFunc fn f c=>
  simp only[CD];rw[Hs f.toList (λx hx=>h x (by simp[Op.operands];exact .inl (Array.mem_toList_iff.1 hx))),Hs c.toList (λx hx=>h x (by simp[Op.operands];exact .inr (Array.mem_toList_iff.1 hx)))]
 case makeSlice t l c=>simp only[CD];rw[h l (by simp[Op.operands]),h c (by simp[Op.operands])]
 case slice t x lo hi mx=>
  simp only[CD]
  have e:∀q:Option Operand,(∀y,q=some y→ρ y=ρ' y)→q.map ρ=q.map ρ':=by
   intro q hq;cases q with
   | none=>rfl
   | some y=>simp[hq y rfl]
  rw[h x (by simp[Op.operands]),e lo (λy hy=>h y (by simp[Op.operands,hy])),e hi (λy hy=>h y (by simp[Op.operands,hy])),e mx (λy hy=>h y (by simp[Op.operands,hy]))]
 case fieldAddr s x f=>simp only[CD];rw[h x (by simp[Op.operands])]
 case field s x f=>simp only[CD];rw[h x (by simp[Op.operands])]
 case indexAddr t x i=>simp only[CD];rw[h x (by simp[Op.operands]),h i (by simp[Op.operands])]
 case index t x i=>simp only[CD];rw[h x (by simp[Op.operands]),h i (by simp[Op.operands])]
 case extract t i=>simp only[CD];rw[h t (by simp[Op.operands])]
 case makeMap t l=>
  simp only[CD]
  have e:l.map ρ=l.map ρ':=by
   cases l with
   | none=>rfl
   | some y=>simp[h y (by simp[Op.operands])]
  rw[e]
 case lookup t x k co=>simp only[CD];rw[h x (by simp[Op.operands]),h k (by simp[Op.operands])]
 case mapUpdate t m k x=>simp only[CD];rw[h m (by simp[Op.operands]),h k (by simp[Op.operands]),h x (by simp[Op.operands])]
 case mapEntry t m k=>simp only[CD];rw[h m (by simp[Op.operands]),h k (by simp[Op.operands])]
 case entryStore t m s x=>simp only[CD];rw[h m (by simp[Op.operands]),h s (by simp[Op.operands]),h x (by simp[Op.operands])]
 case call c=>
  obtain⟨callee,args,ats⟩:=c;cases callee
  case builtin b=>
   simp only[CD];rw[Hs args.toList (λx hx=>h x (by simp[Op.operands,Call.operands];exact Array.mem_toList_iff.1 hx))]
  all_goals rfl
 all_goals rfl
def GD:Op→Bool
 | .move _ | .assign _ | .pick .. | .build .. | .load .. | .nilCheck _ | .binOp .. | .unOp .. | .makeFunc .. | .slice .. | .fieldAddr .. | .field .. | .indexAddr .. | .index .. | .extract .. | .lookup ..=>true
 | .call {callee:=.builtin b,..}=>match b with
  | .len | .min | .max | .cap=>true
  | _=>false
 | .convert s d _=>!Nat.beq s d
 | _=>false
theorem P7 {ρ:Operand→AV}{H H':AH}{o:Oper}{r:AV}(hs:GD o.op=true)(h:CD P ρ H o=some (r,H')):H'=H:=by
 obtain⟨dst,op,type,pos,after,guard⟩:=o;cases op<;>first
  | (simp[GD]at hs;done)
  | exact(Ht h).2
  | exact(Cz h).2
  | skip
 case pick c a b=>
  unfold CD at h;simp only at h;split at h
  ·exact(Ht h).2
  ·cases h
 case convert s d x=>
  unfold CD at h;simp only at h;split at h
  ·exact(Ht h).2
  ·split at h
   ·exact(Ht h).2
   ·simp only[GD,Bool.not_eq_true']at hs
    unfold Yj at h;rw[hs]at h;cases h
 case call c=>
  obtain⟨callee,args,ats⟩:=c;cases callee
  case builtin b=>
   have h':Bt P H b ats.toList (args.toList.map ρ)=some (r,H'):=h;unfold Bt at h';split at h'<;>first
    | exact(Cz h').2
    | (simp[GD]at hs;done)
    | cases h'
  all_goals simp[GD]at hs
def Xz (o:Oper)(acc:List Nat):Nat:=o.after.toList.foldl (λs e=>if Region.binds .any e then s||| 2 ^ e.on||| acc.getD e.on 0 else s) 0
def Eh:List Oper→List Nat→List Nat
 | [],acc=>acc
 | o::r,acc=>Eh r (acc++[Xz o acc])
theorem Wz (l:List Oper):∀acc i,i<acc.length→(Eh l acc).getD i 0=acc.getD i 0:=by
 induction l with
 | nil=>intro acc i _;rfl
 | cons o l ih=>
  intro acc i hi;simp only[Eh];rw[ih _ _ (by simp;omega)];simp[Ac8,Ab9 hi]
abbrev Aj4:=@Nat.zero_add
theorem fZ (l:List Oper):∀acc j o,l[j]?=some o→∃acc',(∀i,i<acc.length+j→acc'.getD i 0=(Eh l acc).getD i 0)∧(Eh l acc).getD (acc.length+j) 0=Xz o acc':=by
 induction l with
 | nil=>intro acc j o h;simp at h
 | cons p l ih=>
  intro acc j o h;cases j with
  | zero=>
   simp at h;subst h;refine⟨acc,λi hi=>?_,?_⟩
   ·exact(Wz (p::l) acc i (by omega)).symm
   ·simp only[Eh]
    rw[Wz _ _ _ (by simp)];simp[Ac8]
  | succ j=>
   simp only[Eb]at h;obtain⟨acc',h1,h2⟩:=ih (acc++[Xz p acc]) j o h;simp only[Ab7,Aj4]at h1 h2;refine⟨acc',λi hi=>h1 i (by omega),?_⟩;simp only[Eh];rw[← h2]
   congr 1
   omega
abbrev Aa1:=And.intro @Bool.or_eq_true @decide_eq_true_eq
theorem XJ (acc:List Nat)(j:Nat):∀(l:List Edge) (s:Nat),(l.foldl (λs e=>if Region.binds .any e then s||| 2 ^ e.on||| acc.getD e.on 0 else s) s).testBit j=true→
  s.testBit j=true∨∃e∈l,Region.binds .any e=true∧(e.on=j∨(acc.getD e.on 0).testBit j=true):=by
 intro l
 induction l with
 | nil=>intro s h;exact .inl h
 | cons e l ih=>
  intro s h;simp only[List.foldl_cons]at h;rcases ih _ h with h | ⟨e',he',hb,hh⟩
  ·split at h
   ·rename_i hb
    simp only[Nat.testBit_or,Aa1,Nat.testBit_two_pow]at h;rcases h with(h | h) | h
    ·exact .inl h
    ·exact .inr ⟨e,by simp,hb,.inl h⟩
    ·exact .inr ⟨e,by simp,hb,.inr h⟩
   ·exact .inl h
  ·exact .inr ⟨e',by simp[he'],hb,hh⟩
def WK (ops:List Oper)(lst:Nat→Bool):Prop:=∀(i:Nat) (o:Oper),ops[i]?=some o→lst i=true→∀e∈o.after,Region.binds .any e=true→lst e.on=true
def KD (ops:List Oper):Bool:=ops.zipIdx.all λp=>p.1.after.toList.all λe=>!Region.binds .any e||decide (e.on<p.2)
theorem Qi {ops:List Oper}(h:KD ops=true){i:Nat}{o:Oper}(ho:ops[i]?=some o){e:Edge}(he:e∈o.after)(hb:Region.binds .any e=true):e.on<i:=by
 unfold KD at h;rw[Ae3]at h
 have hm:(o,i)∈ops.zipIdx:=by
  rw[Ad6];exact⟨i,by rw[List.getElem?_zipIdx,ho];simp⟩
 have:=h _ hm
 rw[Ae3]at this
 have:=this e (Array.mem_toList_iff.2 he)
 simpa[hb]using this
theorem KV {ops:List Oper}(hd:KD ops=true){lst:Nat→Bool}(hc:WK ops lst):∀(i:Nat) (o:Oper),ops[i]?=some o→(∀e∈o.after,Region.binds .any e=true→lst e.on=true)→
  ∀j,((Eh ops []).getD i 0).testBit j=true→lst j=true:=by
 intro i
 induction i using Nat.strongRecOn with
 | _ i ih=>
  intro o ho hall j hj;obtain⟨acc',h1,h2⟩:=fZ ops [] i o ho;simp only[Ai0,Aj4]at h1 h2;rw[h2]at hj;unfold Xz at hj;rcases XJ acc' j _ 0 hj with h0 | ⟨e,he,hb,hh⟩
  ·simp at h0
  ·have he':=Array.mem_toList_iff.1 he
   have hl:=hall e he' hb;have hlt:=Qi hd ho he' hb;rcases hh with rfl | hh
   ·exact hl
   ·rw[h1 _ hlt]at hh
    have hex:∃o',ops[e.on]?=some o':=by
     have:i<ops.length:=(BD.1 ho).1;exact⟨_,DR (by omega)⟩
    obtain⟨o',ho'⟩:=hex;exact ih _ hlt o' ho' (λe' he' hb'=>hc _ _ ho' hl e' he' hb') j hh
def Mi (ops:List Oper)(o:Oper):List Tmp:=
 o.dst.toList++(o.op.operands.toList.filterMap fun | .tmp t=>some t | _=>none)++(match o.guard with
  | some (g,_)=>((ops[g]?).bind (·.dst)).toList
  | none=>[])
theorem TY {ops:List Oper}{i:Nat}{o:Oper}(ho:ops[i]?=some o):(o,i)∈ops.zipIdx:=by
 rw[Ad6];exact⟨i,by rw[List.getElem?_zipIdx,ho];simp⟩
def Ip (ops:List Oper)(j:Nat):Option Tmp:=(ops[j]?).bind (·.dst)
def pt (ops:List Oper)(vals:Nat→AV)(lst:Nat→Bool)(T:List AV):Nat→List AV
 | 0=>T
 | n+1=>if lst n then Dj (pt ops vals lst T n) (Ip ops n) (vals n)else pt ops vals lst T n
theorem Yg (T:List AV)(d:Option Tmp)(v:AV):(Dj T d v).length=T.length:=by cases d<;>simp[Dj]
theorem Ss {ops:List Oper}{vals:Nat→AV}{lst:Nat→Bool}{T:List AV}:∀n,(pt ops vals lst T n).length=T.length
 | 0=>rfl
 | n+1=>by simp only[pt];split<;>simp[Yg,Ss n]
theorem S9 {T:List AV}{d:Option Tmp}{v:AV}{t:Nat}(h:d≠some t):(Dj T d v)[t]?=T[t]?:=by
 cases d with
 | none=>rfl
 | some d=>simp only[Dj];rw[C4 (λe=>h (by rw[e]))]
theorem lV {ops:List Oper}{vals:Nat→AV}{lst lst':Nat→Bool}{T:List AV}{t:Nat}:∀n,(∀j,j<n→Ip ops j=some t→lst j=lst' j)→(pt ops vals lst T n)[t]?=(pt ops vals lst' T n)[t]?
 | 0,_=>rfl
 | n+1,h=>by
  have ih:=lV (vals:=vals) (T:=T) n (λj hj hd=>h j (by omega) hd)
  by_cases hd:Ip ops n=some t
  ·have he:=h n (by omega) hd
   simp only[pt,he]
   split
   ·rw[hd]
    simp only[Dj,Ag6];simp[Ss]
   ·exact ih
  ·have side:∀l:Nat→Bool,(pt ops vals l T (n+1))[t]?=(pt ops vals l T n)[t]?:=λl=>by
    simp only[pt]
    split
    ·exact S9 hd
    ·rfl
   rw[side,side];exact ih
theorem Zk {ops:List Oper}{vals:Nat→AV}{lst lst':Nat→Bool}{T:List AV}:∀n,(∀j,j<n→lst j=lst' j)→pt ops vals lst T n=pt ops vals lst' T n
 | 0,_=>rfl
 | n+1,h=>by simp only[pt];rw[Zk n (λj hj=>h j (by omega))];simp only[h n (by omega)]
theorem eM {T:List AV}{d e:Option Tmp}{v u:AV}(h:∀x,d=some x→e≠some x):Dj (Dj T d v) e u=Dj (Dj T e u) d v:=by
 cases d with
 | none=>rfl
 | some d=>cases e with
  | none=>rfl
  | some e=>simp only[Dj];exact List.set_comm _ _ (λhe=>h d rfl (by rw[he]))
theorem gM {ops:List Oper}{vals:Nat→AV}{T:List AV}{i:Nat}:∀n,i≤n→pt ops vals (λj=>decide (j<i)) T n=pt ops vals (λ_=>true) T i:=by
  have low:∀m,m≤i→pt ops vals (λj=>decide (j<i)) T m=pt ops vals (λ_=>true) T m:=by
    intro m
    induction m with
    | zero=>intro _;rfl
    | succ m ih=>intro hm;simp only[pt];rw[ih (by omega)];simp[show m<i by omega]
  intro n hn
  induction n with
  | zero => have : i = 0 := by omega
            subst this;rfl
  | succ n ih=>
    rcases Ac5 n i with h | h
    · have:i=n+1:=by omega
      subst this;exact low _ (Ac2 _)
    · simp only[pt];rw[if_neg (by simp;omega)];exact ih h
def Ho (lst:Nat→Bool)(i:Nat):Nat→Bool:=λj=>if j=i then true else lst j
theorem lU {ops:List Oper}{vals:Nat→AV}{lst:Nat→Bool}{T:List AV}{i:Nat}(hl:lst i=false):∀n,(∀j,i<j→j<n→lst j=true→∀x,Ip ops i=some x→Ip ops j≠some x)→
  pt ops vals (Ho lst i) T n=if i<n then Dj (pt ops vals lst T n) (Ip ops i) (vals i)else pt ops vals lst T n
 | 0,_=>by simp[pt]
 | n+1,h=>by
  have ih:=lU (vals:=vals) (T:=T) hl n (λj h1 h2=>h j h1 (by omega));rcases Nat.lt_trichotomy n i with hlt | he | hgt
  ·rw[if_neg (by omega)]at ih
   rw[if_neg (by omega)];simp only[pt,ih,Ho];rw[if_neg (show ¬n=i by omega)]
  ·subst he
   rw[if_neg (by omega)]at ih;rw[if_pos (by omega)];simp only[pt,ih,Ho,if_true,hl,An]
  ·rw[if_pos hgt]at ih
   rw[if_pos (by omega)];simp only[pt,ih,Ho];rw[if_neg (show ¬n=i by omega)]
   split
   ·rename_i hn
    exact eM (h n hgt (by omega) hn)
   ·rfl
theorem VC {ops:List Oper}{T T':List AV}{o:Oper}(h:∀t∈Mi ops o,T[t]?=T'[t]?):B6 ops.toArray T o=B6 ops.toArray T' o:=by
 unfold B6;cases hg:o.guard with
 | none=>rfl
 | some gw=>
  obtain⟨g,want⟩:=gw;simp only
  congr 1
  unfold RF;cases hd:(ops.toArray[g]?).bind (·.dst)with
  | none=>rfl
  | some d=>
   have hm:d∈Mi ops o:=by
    unfold Mi;rw[hg];simp only[Af8]
    right
    have:(ops[g]?).bind (·.dst)=some d:=by simpa using hd
    simp[this]
   simp only[h d hm]
theorem M2 {ops:List Oper}{T T':List AV}{o:Oper}(h:∀t∈Mi ops o,T[t]?=T'[t]?):∀x∈o.op.operands.toList,Bu T x=Bu T' x:=by
 intro x hx;cases x with
 | tmp t=>
  simp only[Bu,Ac8];rw[h t];unfold Mi;simp only[Af8];exact .inl (.inr (List.mem_filterMap.2 ⟨.tmp t,hx,rfl⟩))
 | _=>rfl
theorem Ia {L:Array Bool}{j:Nat}(h:j<L.size):L.getD j true=L.getD j false:=by simp[Ai7,h]
end
end
section
def L7 (f:AV→Option AV):List AV→Option (List AV)
 | []=>some []
 | a::r=>match f a,L7 f r with
  | some x,some xs=>some (x::xs)
  | _,_=>none
def Kw (X:AH):Nat→AV→Option AV
 | 0,_=>none
 | n+1,a=>match a with
  | .lit v=>some (.lit v)
  | .ptr o off=>match X[o]? with
   | some (some (.cells cs))=>(L7 (Kw X n) (cs.drop off)).map .ip
   | _=>none
  | .ip cs=>(L7 (Kw X n) cs).map .ip
  | .sl o off len esz _=>match X[o]? with
   | some (some (.cells cs))=>(L7 (Kw X n) ((cs.drop off).take (len*esz))).map (.imm · len esz)
   | _=>none
  | .imm cs len esz=>(L7 (Kw X n) cs).map (.imm · len esz)
  | .mp _=>none
  | .agg cs=>(L7 (Kw X n) cs).map .agg
  | .tup cs=>(L7 (Kw X n) cs).map .tup
  | .fn f a b=>match L7 (Kw X n) a,L7 (Kw X n) b with
   | some a,some b=>some (.fn f a b)
   | _,_=>none
  | .emp=>some .emp
  | .junk=>some .junk
theorem Hr {G' G'':Cfg}{f:AV→Option AV}(hf:∀a v r,VR G' a v→f a=some r→VR G'' r v):∀{as rs:List AV} {vs:List Value},VRs G' as vs→L7 f as=some rs→VRs G'' rs vs
 | [],rs,vs,h,he=>by
  simp only[L7]at he;injection he with he;subst he
  simpa only[VRs]using h
 | a::as,rs,vs,h,he=>by
  simp only[L7]at he;split at he
  ·rename_i x xs hx hxs
   injection he with he;subst he;simp only[VRs]at h⊢;obtain⟨v,r,e,h1,h2⟩:=h;exact⟨v,r,e,hf _ _ _ h1 hx,Hr hf h2 hxs⟩
  ·cases he
theorem Has.move {G' G'':Cfg}(hw:G''.w=G'.w)(hp:∀b,¬(G'.L b∨G'.K b)→¬(G''.L b∨G''.K b)){ad:Addr}{vs:List Value}(h:Has G' ad vs):Has G'' ad vs:=by
 rcases h with h | ⟨h1,h2⟩
 ·exact .inl h
 ·refine .inr ⟨hp _ h1,?_⟩
  rw[hw];exact h2
theorem Has.of_obj {G' G'':Cfg}(hw:G''.w=G'.w){X:AH}(hr:HR G' X){o:Nat}{cs:List AV}(ho:X[o]?=some (some (.cells cs)))(hN:¬(G''.L (G'.μ o).1∨G''.K (G'.μ o).1))(off:Nat):
  ∃vs,VRs G' (cs.drop off) vs∧Has G'' ⟨(G'.μ o).1,(G'.μ o).2.1+off,none⟩ vs:=by
 obtain⟨c,e,vs,h1,h2,h3,h4,h5⟩:=hr.obj o _ ho;refine⟨vs.drop off,h4.drop off,.inr ⟨hN,λi v hv=>?_⟩⟩;rw[Ad1]at hv;obtain⟨a,b⟩:=h5 _ _ hv;refine⟨?_,b⟩;rw[Addr.add_lit,hw];unfold World.cell?;rw[h1]
 simpa[Ag5]using a
theorem Xp {G' G'':Cfg}(hw:G''.w=G'.w)(hp:∀b,¬(G'.L b∨G'.K b)→¬(G''.L b∨G''.K b)){X:AH}(hr:HR G' X)(hX:∀(o:Nat) (x:AObj),X[o]?=some (some x)→¬(G''.L (G'.μ o).1∨G''.K (G'.μ o).1)):
  ∀(n:Nat) (a:AV) (v:Value) (r:AV),VR G' a v→Kw X n a=some r→VR G'' r v
 | 0,a,v,r,h,he=>by cases he
 | n+1,a,v,r,h,he=>by
  have ih:=Xp hw hp hr hX n;cases a with
  | lit u=>simp only[Kw]at he;injection he with he;subst he;simpa only[VR]using h
  | ptr o off=>
   simp only[Kw]at he;split at he
   ·rename_i cs ho
    obtain⟨rs,hrs,rfl⟩:=Option.map_eq_some_iff.1 he;simp only[VR]at h⊢;obtain⟨vs,h1,h2⟩:=Has.of_obj hw hr ho (hX _ _ ho) off;exact⟨_,vs,h.2,h2,Hr ih h1 hrs⟩
   ·cases he
  | ip cs=>
   simp only[Kw]at he;obtain⟨rs,hrs,rfl⟩:=Option.map_eq_some_iff.1 he;simp only[VR]at h⊢;obtain⟨ad,vs,e,h1,h2⟩:=h;exact⟨ad,vs,e,h1.move hw hp,Hr ih h2 hrs⟩
  | sl o off len esz cap=>
   simp only[Kw]at he;split at he
   ·rename_i cs ho
    obtain⟨rs,hrs,rfl⟩:=Option.map_eq_some_iff.1 he;simp only[VR]at h⊢;obtain⟨ho',a,c,rfl,hlc,hs⟩:=h;obtain⟨vs,h1,h2⟩:=Has.of_obj hw hr ho (hX _ _ ho) off
    by_cases hz:len*esz=0
    ·rw[hz]at hrs
     simp only[Aj8,L7]at hrs;injection hrs with hrs;subst hrs;exact⟨a,c,[],rfl,hlc,.inl rfl,.nil⟩
    ·have ha:a=⟨(G'.μ o).1,(G'.μ o).2.1+off,none⟩:=by
      have hlen:len≠0:=λh0=>hz (by rw[h0,Al7])
      unfold SlAt at hs;split at hs
      ·obtain⟨rfl,h0 | h0⟩:=hs
       ·omega
       ·exact h0.1
      ·rcases hs with⟨_,h0 | h0⟩
       ·omega
       ·exact h0.1
     refine⟨a,c,vs.take (len*esz),rfl,hlc,?_,Hr ih (h1.take _) hrs⟩;rw[ha];exact h2.take _
   ·cases he
  | imm cs len esz=>
   simp only[Kw]at he;obtain⟨rs,hrs,rfl⟩:=Option.map_eq_some_iff.1 he;simp only[VR]at h⊢;obtain⟨ad,c,vs,e,hl,h1,h2⟩:=h;exact⟨ad,c,vs,e,hl,h1.move hw hp,Hr ih h2 hrs⟩
  | mp o=>cases he
  | agg cs=>
   simp only[Kw]at he;obtain⟨rs,hrs,rfl⟩:=Option.map_eq_some_iff.1 he;simp only[VR]at h⊢;obtain⟨vs,e,h2⟩:=h;exact⟨vs,e,Hr ih h2 hrs⟩
  | tup cs=>
   simp only[Kw]at he;obtain⟨rs,hrs,rfl⟩:=Option.map_eq_some_iff.1 he;simp only[VR]at h⊢;obtain⟨vs,e,h2⟩:=h;exact⟨vs,e,Hr ih h2 hrs⟩
  | fn f a b=>
   simp only[Kw]at he;split at he
   ·rename_i x y hx hy
    injection he with he;subst he;simp only[VR]at h⊢;obtain⟨va,vb,e,h1,h2⟩:=h;exact⟨va,vb,e,Hr ih h1 hx,Hr ih h2 hy⟩
   ·cases he
  | emp=>simp only[Kw]at he;injection he with he;subst he;simpa only[VR]using h
  | junk=>simp only[Kw]at he;injection he with he;subst he;simp only[VR]
mutual
def noIds:AV→Bool
 | .lit _=>true
 | .ptr ..=>false
 | .ip cs=>A6 cs
 | .sl ..=>false
 | .imm cs _ _=>A6 cs
 | .mp _=>false
 | .agg cs=>A6 cs
 | .tup cs=>A6 cs
 | .fn _ a b=>A6 a&&A6 b
 | .emp=>true
 | .junk=>true
def A6:List AV→Bool
 | []=>true
 | a::r=>noIds a&&A6 r
end
mutual
theorem gI:∀{a:AV},noIds a=true→EI 0 a
 | .lit _,_=>by simp only[EI]
 | .ptr ..,h=>by simp[noIds]at h
 | .ip cs,h=>by simp only[noIds]at h;simp only[EI];exact ES h
 | .sl ..,h=>by simp[noIds]at h
 | .imm cs _ _,h=>by simp only[noIds]at h;simp only[EI];exact ES h
 | .mp _,h=>by simp[noIds]at h
 | .agg cs,h=>by simp only[noIds]at h;simp only[EI];exact ES h
 | .tup cs,h=>by simp only[noIds]at h;simp only[EI];exact ES h
 | .fn _ a b,h=>by simp only[noIds,Ae0]at h;simp only[EI];exact⟨ES h.1,ES h.2⟩
 | .emp,_=>by simp only[EI]
 | .junk,_=>by simp only[EI]
theorem ES:∀{as:List AV},A6 as=true→CB 0 as
 | [],_=>by simp only[CB]
 | a::r,h=>by simp only[A6,Ae0]at h;simp only[CB];exact⟨gI h.1,ES h.2⟩
end
section
variable {P : Program}
theorem Wa {G:Cfg}{G':Cfg}(hw:G'.w=G.w)(hL:∀b,¬G'.L b)(hK:∀b,G'.K b→G.L b∨G.K b){ad:Addr}{vs:List Value}(h:Has G ad vs):Has G' ad vs:=
 Has.move hw (λb hn hh=>hn (hh.elim (λh=>(hL b h).elim) (hK b))) h
def Cfg.alien (G:Cfg):Cfg:={w:=G.w,n:=0,μ:=G.μ,L:=λ_=>False,K:=λb=>G.L b∨G.K b}
mutual
theorem VR.alien {G:Cfg}:∀{a:AV} {v:Value},VR G a v→EI 0 a→VR G.alien a v
 | .lit _,_,hv,_=>by simpa only[VR]using hv
 | .ptr o off,v,hv,hb=>by simp only[EI]at hb;omega
 | .ip cs,v,hv,hb=>by simp only[VR]at hv⊢;simp only[EI]at hb;obtain⟨x,y,z,t,h⟩:=hv;exact⟨x,y,z,Wa (G:=G) (G':=G.alien) rfl (λ_ h=>h) (λ_ h=>h) t,VRs.alien h hb⟩
 | .sl o off len esz cap,v,hv,hb=>by simp only[EI]at hb;omega
 | .imm cs len esz,v,hv,hb=>by simp only[VR]at hv⊢;simp only[EI]at hb;obtain⟨x,y,z,t,u,s,h⟩:=hv;exact⟨x,y,z,t,u,Wa (G:=G) (G':=G.alien) rfl (λ_ h=>h) (λ_ h=>h) s,VRs.alien h hb⟩
 | .mp o,v,hv,hb=>by simp only[EI]at hb;omega
 | .agg cs,v,hv,hb=>by simp only[VR]at hv⊢;simp only[EI]at hb;obtain⟨x,y,h⟩:=hv;exact⟨x,y,VRs.alien h hb⟩
 | .tup cs,v,hv,hb=>by simp only[VR]at hv⊢;simp only[EI]at hb;obtain⟨x,y,h⟩:=hv;exact⟨x,y,VRs.alien h hb⟩
 | .fn f a b,v,hv,hb=>by simp only[VR]at hv⊢;simp only[EI]at hb;obtain⟨x,y,z,h,k⟩:=hv;exact⟨x,y,z,VRs.alien h hb.1,VRs.alien k hb.2⟩
 | .emp,_,hv,_=>by simpa only[VR]using hv
 | .junk,_,_,_=>by simp only[VR]
theorem VRs.alien {G:Cfg}:∀{as:List AV} {vs:List Value},VRs G as vs→CB 0 as→VRs G.alien as vs
 | [],_,hv,_=>by simpa only[VRs]using hv
 | a::as,vs,hv,hb=>by simp only[VRs]at hv⊢;simp only[CB]at hb;obtain⟨x,y,z,h,k⟩:=hv;exact⟨x,y,z,VR.alien h hb.1,VRs.alien k hb.2⟩
end
theorem ACalls.pure {f:FuncId}{args:List AV}{R:AV→AH→Prop}{R':AV→Prop}(h:ACalls P f args [] R)(hb:CB 0 args)(hR:∀r X,R r X→∃n r',Kw X n r=some r'∧R' r')(H:AH):
  ACalls P f args H λr' H'=>R' r'∧H'=H:=by
 intro G vs hH hv
 have h0:HR G.alien []:=⟨rfl,λo x h=>by simp at h,λo o' x x' h=>by simp at h,λo x h=>by simp at h,λb h=>by
  rcases h with h | h
  ·exact h.elim
  ·exact hH.lt b h,λb h=>h.elim⟩
 refine(h G.alien vs h0 (hv.alien hb)).mono ?_;rintro e w' ⟨r,X,G',v,rfl,rfl,hE,hx,hX,hq⟩;obtain⟨n,r',hf,hr'⟩:=hR r X hq;have keep:∀k,k<G.w.heap.size→G'.w.heap[k]?=G.w.heap[k]?∧¬G'.L k:=λk hk=>hE.keep k hk (λh=>h)
 let G'':Cfg:={w:=G'.w,n:=G.n,μ:=G.μ,L:=G.L,K:=G.K}
 have hE':Evo G G'':=⟨hE.os,hE.tape,hE.output,hE.size,λk hk hL=>⟨(keep k hk).1,hL⟩,Ac2 _,λ_ _=>rfl,rfl⟩;refine⟨r',H,G'',v,rfl,rfl,hE',?_,?_,hr',rfl⟩
 ·refine Xp (G':=G') (G'':=G'') rfl ?_ hX ?_ n r v r' hx hf
  ·intro b hn hh
   refine hn (.inr ?_);rw[hE.K];exact hh
  ·intro o x ho hh
   have h1:=hX.live o x ho;have h2:(G'.μ o).1<G.w.heap.size:=hH.lt _ hh;exact(keep _ h2).2 h1
 ·exact⟨hH.n,λo x ho=>OR.evo hE' (hH.lt_n ho) (keep _ (hH.lt _ (.inl (hH.live _ _ ho)))).1 (hH.obj o x ho),hH.inj,hH.live,λb hb=>Af0 (hH.lt b hb) hE.size,hH.dis⟩
theorem eB {G:Cfg}{ρ:Operand→AV}{ρc:Operand→Value}(hf:∀x,VR G (ρ x) (ρc x)){o:Oper}{k:FuncId}{args:List AV}(h:Ee ρ o=some (k,args))(w:World):
  ∃vs:List Value,VRs G args vs∧(execOp ρc o).run P w=(callFunc k vs.toArray).run P w:=by
 obtain⟨dst,op,type,pos,after,guard⟩:=o;unfold Ee at h;split at h
 ·rename_i f args' ats hop
  simp only at hop;subst hop;split at h
  ·rename_i k' first cap hfn
   injection h with h;injection h with h1 h2;subst h1;subst h2;have hv:=hf f;rw[hfn]at hv;simp only[VR]at hv;obtain⟨va,vb,hv,ha,hb⟩:=hv;have hm:=VRs.map_ops hf args'.toList;refine⟨va.toList++args'.toList.map ρc++vb.toList,(ha.append hm).append hb,?_⟩
   have he:(va.toList++args'.toList.map ρc++vb.toList).toArray=va++args'.map ρc++vb:=by
    apply Array.ext';simp
   rw[he];simp[execOp,resolve,hv,Deferred.ofValue,invoke]
  ·cases h
 ·cases h
theorem AOps.extern {ops:Array Oper}{Q:AQ}{o:Oper}{rest:List Oper}{T:List AV}{H:AH}{k:FuncId}{args:List AV}{r:AV}(hw:B6 ops T o=some true)(h:Ee (Bu T) o=some (k,args))
  (hk:∀(G:Cfg) (vs:List Value),HR G H→VRs G args vs→∃u,(callFunc k vs.toArray).run P G.w=.ok (.value u) G.w∧VR G r u) (hr:AOps P ops Q rest (Dj T o.dst r) H):AOps P ops Q (o::rest) T H:=by
 intro G0 G a ρ hE hF hd hH;unfold wpListIn;rw[if_pos (GY hF hw)];obtain⟨vs,hvs,hrun⟩:=eB (P:=P) (λx=>hF.eval x) h G.w;obtain⟨u,hu,hx⟩:=hk G vs hH hvs;refine⟨λ_ _=>trivial,?_⟩;rw[Oper.semAt_eq _ _ _ (Kk h),hrun,hu];exact hr G0 G _ ρ hE (hF.put o.dst hx) (hd.put _ _) hH
end
end
section
section
variable {P : Program}
theorem XW {ρ ρ':Operand→AV}{o:Oper}(h:∀x∈o.op.operands.toList,ρ x=ρ' x):Ee ρ o=Ee ρ' o:=by
 obtain⟨dst,op,type,pos,after,guard⟩:=o;cases op
 case call c=>
  obtain⟨callee,args,ats⟩:=c;cases callee
  case value f=>
   simp only[Ee];rw[h f (by simp[Op.operands,Call.operands]),Hs args.toList (λx hx=>h x (by simp[Op.operands,Call.operands];exact .inr (Array.mem_toList_iff.1 hx)))]
  all_goals rfl
 all_goals rfl
def Fc (P:Program)(ρ:Operand→AV)(o:Oper):Option AV:=
 match o.op with
 | .buildSlice t len parts=>match Ed P [] t len (parts.toList.map λp=>(p.1,ρ p.2))with
  | some (.sl _ _ l esz _,[some (.cells cs)])=>some (.imm cs l esz)
  | _=>none
 | _=>none
theorem Tt {ρ:Operand→AV}{o:Oper}{r:AV}(h:Fc P ρ o=some r)(c:Call):o.op≠.defer c:=by
 intro hc;simp[Fc,hc]at h
abbrev Ag0:=@Prod.mk.injEq
abbrev Ai1:=@List.nil_append
theorem ZA {G:Cfg}{ρ:Operand→AV}{ρc:Operand→Value}{H:AH}(hr:HR G H)(hf:∀x,VR G (ρ x) (ρc x)){o:Oper}{r:AV}(h:Fc P ρ o=some r):
  ∃(G':Cfg) (u:Value),(execOp ρc o).run P G.w=.ok (.value u) G'.w∧Evo G G'∧VR G' r u∧HR G' H:=by
 obtain⟨dst,op,type,pos,after,guard⟩:=o;unfold Fc at h;split at h
 ·rename_i t len parts hop
  simp only at hop;subst hop;obtain⟨e1,e2⟩:=VRs.map_parts hf parts.toList;split at h
  ·rename_i l esz cs hb
   injection h with h;subst h;unfold Ed at hb;split at hb
   ·rename_i e hu
    split at hb
    ·rename_i i hi
     split at hb
     ·rename_i z hz
      split at hb
      ·rename_i hbb
       obtain⟨h0,h4,h5,h6⟩:=hbb;obtain⟨cs',hcs,he⟩:=Option.map_eq_some_iff.1 hb;simp only[Ag0,AV.sl.injEq,Ai1,List.cons.injEq,Ak7,AObj.cells.injEq,and_true]at he;obtain⟨⟨-,-,rfl,rfl,-⟩,rfl⟩:=he;have hz0:z.cells.size≠0:=by rw[h4];exact h5
       have hv:=Lr (G:=G) (z:=z.cells) len hz0;rw[h4]at hv;obtain⟨us,hus,hR⟩:=M3 (parts.toList.map λp=>(p.1,ρ p.2)) (parts.map fun (i,x)=>(i,ρc x)).toList _ (madeCells z.cells (len*i.size)) cs' (by rw[Ai5];exact e1) (by rw[Ai5];exact e2) hv hcs;have hone:=UF _ _ us (HX (by rw[Ai5];exact e2) hcs) (Ns _ (λu hu=>Ae3.1 h6 u hu) hz0) hus
       let G1:Cfg:={G with w:=G.w.alloc (.cells us e)}
       have hE:Evo G G1:=⟨rfl,rfl,rfl,by simp[G1],λk hk hL=>⟨Below.heap_alloc _ _ _ hk,hL⟩,Ac2 _,λ_ _=>rfl,rfl⟩;refine⟨G1,.slice (some ⟨G.w.heap.size,0,none⟩) len len,?_,hE,?_,?_⟩
       ·have hzi:(P.info? e).bind (·.zero)=some z:=by rw[hi];exact hz
        have hn:¬(16777216<len*i.size):=by omega
        by_cases hl:len*i.size=0
        ·have hm0:madeCells z.cells 0= #[]:=by simp[madeCells]
         rw[hl,hm0]at hus;have hr0:Array.range 0= #[]:=rfl;simp at hus;simp[execOp,hr0,Instr.buildSlice,run_underlying hu,sizeOf,typeInfo,hi,hl,hus,newRow,G1]
        ·have:=hus
         unfold madeCells at this;simp at this;simp[execOp,Instr.buildSlice,run_underlying hu,sizeOf,typeInfo,hi,hn,hl,C6 hzi,this,newRow,G1]
       ·simp only[VR]
        refine⟨_,_,us.toList,rfl,Ac2 _,.inr ⟨λhL=>?_,λi v hv=>?_⟩,hR.evo hE⟩
        ·have:=hr.lt _ hL;simp at this
        ·refine⟨?_,hone v (Ac3 hv)⟩
         rw[Addr.add_lit];unfold World.cell?;rw[show G1.w.heap[G.w.heap.size]?=some (.cells us e)from heap_alloc_new G.w _]
         simpa using hv
       ·exact⟨hr.n,λo x ho=>OR.evo hE (hr.lt_n ho) (Below.heap_alloc _ _ _ (hr.lt _ (.inl (hr.live _ _ ho)))) (hr.obj o x ho),hr.inj,hr.live,λb hb=>by have:=hr.lt b hb;simp[G1];omega,hr.dis⟩
      ·cases hb
     ·cases hb
    ·cases hb
   ·cases hb
  ·cases h
 ·cases h
theorem V8 {ρ ρ':Operand→AV}{o:Oper}(h:∀x∈o.op.operands.toList,ρ x=ρ' x):Fc P ρ o=Fc P ρ' o:=by
 obtain⟨dst,op,type,pos,after,guard⟩:=o;cases op
 case buildSlice t n ps=>
  have:(ps.toList.map λp=>(p.1,ρ p.2))=(ps.toList.map λp=>(p.1,ρ' p.2)):=
   Al1 λp hm=>by rw[h p.2 (by simp[Op.operands];exact⟨p.1,by simpa using hm⟩)]
  simp only[Fc];rw[this]
 all_goals rfl
def VY (P:Program)(T:List AV)(H:AH)(o:Oper)(R:AV→AH→Prop):Prop:=
 (∃r H',CD P (Bu T) H o=some (r,H')∧R r H')∨(∃r,Fc P (Bu T) o=some r∧R r H)∨∃k args,Ee (Bu T) o=some (k,args)∧B4 P k=true∧ACalls P k args H R
structure Ord (ops:List Oper):Prop where
 down:KD ops=true
 ord:∀i j oi oj d,ops[i]?=some oi→ops[j]?=some oj→i≠j→oj.dst=some d→d∈Mi ops oi→((Eh ops []).getD (max i j) 0).testBit (min i j)=true
def KX (ops:List Oper):Bool:=
 let b:=Eh ops []
 KD ops&&
 (ops.zipIdx.all λp=>ops.zipIdx.all λq=>(p.2==q.2)||(match q.1.dst with
  | some d=> !(Mi ops p.1).contains d||(b.getD (max p.2 q.2) 0).testBit (min p.2 q.2)
  | none=>true))
theorem Vf {ops:List Oper}(h:KX ops=true):Ord ops:=by
 unfold KX at h;simp only[Ae0]at h;obtain⟨h1,h3⟩:=h;refine⟨h1,λi j oi oj d hi hj hne hd hl=>?_⟩
 have:=Ae3.1 (Ae3.1 h3 _ (TY hi)) _ (TY hj)
 simp only[hd]at this;simp only[Bool.or_eq_true,beq_iff_eq,Bool.not_eq_true',List.contains_eq_mem,decide_eq_false_iff_not]at this;rcases this with h | h | h
 ·exact absurd h hne
 ·exact absurd hl h
 ·exact h
def uY (ops:List Oper)(S:Nat→Bool)(i:Nat)(o:Oper):Prop:=
 ops[i]?=some o∧WK ops S∧S i=false∧∀e∈o.after,Region.binds .any e=true→S e.on=true
def qB (P:Program)(ops:List Oper)(T:List AV){Ω:Type}(Ok:Ω→(Nat→Bool)→Prop)(vals:Ω→Nat→AV)(HS:Ω→(Nat→Bool)→AH):Prop:=
 ∀ω S i o,uY ops S i o→Ok ω S→
  ∃b,B6 ops.toArray (pt ops (vals ω) (λ_=>true) T i) o=some b∧
   (b=true→VY P (pt ops (vals ω) (λ_=>true) T i) (HS ω S) o λr H'=>∃ω',Ok ω' (Ho S i)∧(∀j,S j=true→vals ω' j=vals ω j)∧vals ω' i=r∧HS ω' (Ho S i)=H')∧
   (b=false→∃ω',Ok ω' (Ho S i)∧(∀j,S j=true→vals ω' j=vals ω j)∧vals ω' i=AG∧HS ω' (Ho S i)=HS ω S)
theorem dF {ops:List Oper}{vals vals':Nat→AV}{lst:Nat→Bool}{T:List AV}(h:∀j,lst j=true→vals' j=vals j):∀n,pt ops vals' lst T n=pt ops vals lst T n
 | 0=>rfl
 | n+1=>by
  simp only[pt,dF h n]
  split
  ·rename_i hn;rw[h n hn]
  ·rfl
abbrev Ab0:=And.intro @Array.getD_eq_getD_getElem?.{0} @Option.getD_some.{0}
abbrev Ab2:=And.intro @Bool.not_false @if_true.{1}
abbrev Ai2:=@Nat.min_eq_left
theorem hZ {ops:List Oper}(hk:Ord ops){T:List AV}{Ω:Type}{Ok:Ω→(Nat→Bool)→Prop}{vals:Ω→Nat→AV}{HS:Ω→(Nat→Bool)→AH}(hs:qB P ops T Ok vals HS){Q:AQ}{G0:Cfg}
  (last:∀ω S,(∀j,j<ops.length→S j=true)→Ok ω S→Q .normal (pt ops (vals ω) (λ_=>true) T ops.length) (HS ω S)):
  ∀(d:Nat) (listed:Array Bool) (a:Act) (G:Cfg) (ρ:nN) (ω:Ω),listed.size=ops.length→listed.toList.countP (λb=>!b)=d→
   WK ops (λj=>listed.getD j false)→Ok ω (λj=>listed.getD j false)→Evo G0 G→FR G (pt ops (vals ω) (λj=>listed.getD j false) T ops.length) a→DF G ρ a→HR G (HS ω λj=>listed.getD j false)→
   wpAnyIn (FW ρ.1) 0 P .any ops.toArray (VX G0 ρ Q) d listed a G.w:=by
 intro d
 induction d with
 | zero=>
  intro listed a G ρ ω hsz hcnt hcl hok hE hF hd hH
  have all:∀j,j<ops.length→listed.getD j false=true:=by
   intro j hj;have hs:j<listed.size:=by omega
   have:=List.countP_eq_zero.1 hcnt listed[j] (by simp)
   simp only[Ab0,Ah9 hs]
   simpa using this
  refine⟨?_,?_⟩
  ·rw[List.eq_nil_iff_forall_not_mem]
   intro i hi;obtain⟨h0,o,ho,_⟩:=mem_ready.1 hi;have hlt:i<ops.length:=by simpa using(Array.getElem?_eq_some_iff.1 ho).1
   rw[Ia (by omega),all i hlt]at h0;cases h0
  ·have e:pt ops (vals ω) (λj=>listed.getD j false) T ops.length=pt ops (vals ω) (λ_=>true) T ops.length:=
    Zk _ λm hm=>all m hm
   rw[e]at hF;exact KZ (last ω _ all hok) hE hF hd hH
 | succ d ih=>
  intro listed a G ρ ω hsz hcnt hcl hok hE hF hd hH
  have hex:∃j,j<ops.length∧listed.getD j false=false∧∀i,i<j→listed.getD i false=true:=by
   have:∃j,j<ops.length∧listed.getD j false=false:=by
    apply Af2;intro hn
    have:listed.toList.countP (λb=>!b)=0:=by
     refine List.countP_eq_zero.2 λb hb=>?_
     obtain⟨j,hj,rfl⟩:=List.mem_iff_getElem.1 hb;have hj':j<listed.size:=by simpa using hj
     cases h:listed[j]with
     | true=>simp[h]
     | false=>
      exfalso
      refine hn ⟨j,by omega,?_⟩;simp[Ai7,hj',h]
    omega
   obtain⟨j,hj⟩:=this
   induction j using Nat.strongRecOn with
   | _ j ihj=>
    by_cases h:∃i,i<j∧listed.getD i false=false
    ·obtain⟨i,h1,h2⟩:=h
     exact ihj i h1 ⟨by omega,h2⟩
    ·exact⟨j,hj.1,hj.2,λi hi=>by
      cases h':listed.getD i false with
      | true=>rfl
      | false=>exact absurd ⟨i,hi,h'⟩ h⟩
  obtain⟨j0,hlt,hj0,hbelow⟩:=hex;refine⟨λhnil=>?_,λi hi=>?_⟩
  ·exfalso
   have hin:j0∈Region.ready .any ops.toArray listed:=by
    refine mem_ready.2 ⟨by rw[Ia (by omega)];exact hj0,ops[j0],by simp[hlt],λe he hb=>?_⟩;exact hbelow _ (Qi hk.down (DR hlt) he hb)
   rw[hnil]at hin;cases hin
  ·obtain⟨h0,o,ho,hmet⟩:=mem_ready.1 hi
   have ho':ops[i]?=some o:=by simpa using ho
   have hil:i<ops.length:=(BD.1 ho').1;have his:i<listed.size:=by omega
   rw[Ia his]at h0
   have hord:∀(j:Nat) (t:Tmp),j<ops.length→Ip ops j=some t→t∈Mi ops o→listed.getD j false=decide (j<i):=by
    intro j t hj hdj ht;have hoj:ops[j]?=some ops[j]:=DR hj
    have hdst:ops[j].dst=some t:=by
     unfold Ip at hdj;rw[hoj]at hdj;exact hdj
    rcases Nat.lt_trichotomy j i with h | h | h
    ·have hb:=hk.ord i j o _ t ho' hoj (by omega) hdst ht
     rw[Nat.max_eq_left (by omega),Nat.min_eq_right (by omega)]at hb
     have:=KV hk.down hcl i o ho' hmet j hb
     try simp only at this
     rw[this];simp[h]
    ·subst h;rw[h0];simp
    ·have hb:=hk.ord i j o _ t ho' hoj (by omega) hdst ht
     rw[Nat.max_eq_right (by omega),Ai2 (by omega)]at hb;cases hlj:listed.getD j false with
     | false=>simp;omega
     | true=>
      exfalso
      have:=KV hk.down hcl j _ hoj (λe he hb'=>hcl j _ hoj hlj e he hb') i hb
      try simp only at this
      rw[h0]at this;cases this
   have hget:∀t∈Mi ops o,(pt ops (vals ω) (λj=>listed.getD j false) T ops.length)[t]?=(pt ops (vals ω) (λ_=>true) T i)[t]?:=by
    intro t ht;rw[← gM (i:=i) ops.length (by omega)];exact lV ops.length (λj hj hdj=>hord j t hj hdj ht)
   obtain⟨b,hb,hb1,hb0⟩:=hs ω (λj=>listed.getD j false) i o ⟨ho',hcl,h0,hmet⟩ hok;rw[← VC hget]at hb
   have hlst':(λj=>(listed.setIfInBounds i true).getD j false)=Ho (λj=>listed.getD j false) i:=by
    funext j
    unfold Ho
    by_cases hji:j=i
    ·subst hji;simp[Ai7,his]
    ·rw[if_neg hji,getD_set_ne false (Af4 hji)]
   have hadd:∀ω',(∀j,listed.getD j false=true→vals ω' j=vals ω j)→pt ops (vals ω') (Ho (λj=>listed.getD j false) i) T ops.length=Dj (pt ops (vals ω) (λj=>listed.getD j false) T ops.length) o.dst (vals ω' i):=by
    intro ω' hv;rw[lU (by simpa using h0) ops.length,if_pos hil,dF hv]
    ·simp[Ip,ho']
    ·intro j h1 h2 h3 x hx hxj
     have hdx:o.dst=some x:=by simpa[Ip,ho']using hx
     have:=hord j x h2 hxj (by unfold Mi;simp[hdx])
     try simp only at h3
     rw[h3]at this;simp at this;omega
   have next:∀(ω':Ω) (a':Act) (G':Cfg),Ok ω' (Ho (λj=>listed.getD j false) i)→(∀j,listed.getD j false=true→vals ω' j=vals ω j)→Evo G0 G'→
     FR G' (Dj (pt ops (vals ω) (λj=>listed.getD j false) T ops.length) o.dst (vals ω' i)) a'→DF G' ρ a'→HR G' (HS ω' (Ho (λj=>listed.getD j false) i))→
     wpAnyIn (FW ρ.1) 0 P .any ops.toArray (VX G0 ρ Q) d (listed.setIfInBounds i true) a' G'.w:=by
    intro ω' a' G' hok' hv hE' hF' hd' hH';refine ih _ a' G' ρ ω' (by simpa using hsz) ?_ ?_ (by rw[hlst'];exact hok') hE' ?_ hd' (by rw[hlst'];exact hH')
    ·rw[Ak5,List.countP_set (by simpa using his)]
     have hli : listed.toList[i]'(by simpa using his)=false:=by
      simp only[Ab0,Ah9 his]at h0
      simpa using h0
     rw[hli];simp only[Ab2,Ak6,An];omega
    ·intro j oj hoj hlj e he hbe
     have hlj:Ho (λj=>listed.getD j false) i j=true:=(congrFun hlst' j).symm.trans hlj;refine(congrFun hlst' e.on).trans ?_;unfold Ho at hlj⊢
     split
     ·rfl
     ·by_cases hji:j=i
      ·subst hji
       rw[ho']at hoj;injection hoj with hoj;subst hoj;exact hmet e he hbe
      ·rw[if_neg hji]at hlj
       exact hcl j oj hoj hlj e he hbe
    ·rw[hlst',hadd ω' hv];exact hF'
   unfold wpOpIn;simp only[ho];cases b with
   | true=>
    rw[if_pos (GY hF hb)];rcases hb1 rfl with⟨r,H',hop,ω',hok',hv,rfl,rfl⟩ | ⟨r,hop,ω',hok',hv,rfl,hH1⟩ | ⟨k,args,hcall,hgo,hc⟩
    ·rw[← eJ (M2 hget)]at hop
     obtain⟨G',u,hrun,hE',hx,hH'⟩:=jE hH (λx=>hF.eval x) hop;refine⟨λ_ _=>trivial,?_⟩;rw[Oper.semAt_eq _ _ _ (S8 hop)];rcases hrun with hrun | ⟨hrun,rfl⟩<;>rw[hrun]<;>exact next ω' _ G' hok' hv (hE.trans hE') ((FR.evo hE' hF).put o.dst hx) ((hd.evo hE' rfl).put _ _) hH'
    ·rw[← V8 (M2 hget)]at hop
     obtain⟨G',u,hrun,hE',hx,hH'⟩:=ZA hH (λx=>hF.eval x) hop;refine⟨λ_ _=>trivial,?_⟩;rw[Oper.semAt_eq _ _ _ (Tt hop),hrun];exact next ω' _ G' hok' hv (hE.trans hE') ((FR.evo hE' hF).put o.dst hx) ((hd.evo hE' rfl).put _ _) (by rw[hH1];exact hH')
    ·rw[← XW (M2 hget)]at hcall
     obtain⟨vs,hvs,hrun⟩:=XX (P:=P) (λx=>hF.eval x) hcall hgo G.w;refine⟨λ_ _=>trivial,?_⟩;rw[Oper.semAt_eq _ _ _ (Kk hcall),hrun];refine⟨λhn=>(by simp[Fence.wide]at hn),CallsIn.mono (Uo ρ.1 (hc G vs hH hvs)) ?_⟩;rintro e w' ⟨r,H',G',v,rfl,rfl,hE',hx,hH',ω',hok',hv,rfl,rfl⟩;exact next ω' _ G' hok' hv (hE.trans hE') ((FR.evo hE' hF).put o.dst hx) ((hd.evo hE' rfl).put _ _) hH'
   | false=>
    rw[if_neg (by rw[GY hF hb];simp)];obtain⟨ω',hok',hv,hu,hH'⟩:=hb0 rfl;refine⟨λ_ _=>trivial,next ω' _ G hok' hv hE ?_ (hd.put _ _) (by rw[hH'];exact hH)⟩;rw[hu];exact hF.put o.dst (by simp only[AG,VR])
theorem ACode.drawn {id:Nat}{ops:List Oper}{Q:AQ}{T:List AV}{H:AH}(hm:P.follows .mixedOrders=true)(hk:KX ops=true){Ω:Type}(Ok:Ω→(Nat→Bool)→Prop)(vals:Ω→Nat→AV)(HS:Ω→(Nat→Bool)→AH)
  (ω0:Ω) (h0:Ok ω0 (λ_=>false)) (hH0:HS ω0 (λ_=>false)=H) (hs:qB P ops T Ok vals HS)
  (last:∀ω S,(∀j,j<ops.length→S j=true)→Ok ω S→Q .normal (pt ops (vals ω) (λ_=>true) T ops.length) (HS ω S)):ACode P (.region id ops.toArray true) Q T H:=by
 intro G0 G a ρ hE hF hd hH;refine wpIn_region_any hm ?_
 have hz0:(λj=>(Array.replicate ops.toArray.size false).getD j false)=λ_=>false:=by
  funext j
  simp only[Ai7,Array.getElem?_replicate]
  split<;>simp
 have hF0:FR {G with w:=G.w.drew} (pt ops (vals ω0) (λj=>(Array.replicate ops.toArray.size false).getD j false) T ops.length) a:=by
  have hz:∀m,pt ops (vals ω0) (λ_=>false) T m=T:=by
   intro m
   induction m with
   | zero=>rfl
   | succ m ih=>simp only[pt];rw[if_neg (by simp),ih]
  rw[hz0,hz];exact FR.evo (Evo.drew G) hF
 refine hZ (Vf hk) hs last ops.toArray.size (Array.replicate ops.toArray.size false) a {G with w:=G.w.drew} ρ ω0 (by simp) (by simp[List.countP_replicate]) ?_ ?_ (hE.trans (Evo.drew G)) hF0 (hd.evo (Evo.drew G) rfl) ?_
 ·intro j o _ hl
  rw[hz0]at hl;cases hl
 ·rw[hz0];exact h0
 ·rw[hz0,hH0];exact hH.drew
end
end
section
def oW:Value→Value→Bool
 | .bool a,.bool b=>decide (a=b)
 | .int k a,.int l b=>decide (k=l)&&decide (a=b)
 | .string a,.string b=>decide (a=b)
 | .pointer none,.pointer none=>true
 | .slice none a b,.slice none c d=>decide (a=c)&&decide (b=d)
 | .map none,.map none=>true
 | .nilFunc,.nilFunc=>true
 | .nilIface,.nilIface=>true
 | _,_=>false
def sQ:Fn→Fn→Bool
 | .func a,.func b=>decide (a=b)
 | _,_=>false
mutual
def AV.same:AV→AV→Bool
 | .lit v,.lit u=>oW v u
 | .ptr a b,.ptr c d=>decide (a=c)&&decide (b=d)
 | .ip a,.ip b=>Vq a b
 | .sl a b c d e,.sl a' b' c' d' e'=>decide (a=a')&&decide (b=b')&&decide (c=c')&&decide (d=d')&&decide (e=e')
 | .imm a l e,.imm b m f=>decide (l=m)&&decide (e=f)&&Vq a b
 | .mp a,.mp b=>decide (a=b)
 | .agg a,.agg b=>Vq a b
 | .tup a,.tup b=>Vq a b
 | .fn f a b,.fn g c d=>sQ f g&&Vq a c&&Vq b d
 | .emp,.emp=>true
 | .junk,.junk=>true
 | _,_=>false
def Vq:List AV→List AV→Bool
 | [],[]=>true
 | a::r,b::s=>AV.same a b&&Vq r s
 | _,_=>false
end
def AQ.is (r:Exit×List AV×AH):AQ:=λe T H=>(e,T,H)=r
section
variable {P : Program}
abbrev IS:=FuncId→List AV→AH→Option (AV×AH)
def TZ (P:Program)(call:IS):Prop:=∀f args H r H',call f args H=some (r,H')→ACalls P f args H λr' H''=>r'=r∧H''=H'
abbrev Pg:=FuncId→List AV→Option AV
def Rp (P:Program)(pure:Pg):Prop:=∀f args r,pure f args=some r→B4 P f=true∧∀H,ACalls P f args H λr' H'=>r'=r∧H'=H
def BB (pl:FuncId→Bool):Op→Bool
 | .call {callee:=.value (.func k),..}=>pl k
 | _=>false
def GQ (pl:FuncId→Bool)(op:Op):Bool:=GD op||BB pl op||match op with
 | .buildSlice ..=>true
 | _=>false
def K4:Op→Bool
 | .move _ | .assign _ | .pick .. | .build .. | .nilCheck _ | .binOp .. | .unOp .. | .makeFunc .. | .fieldAddr .. | .field .. | .indexAddr .. | .index .. | .extract .. | .buildSlice ..=>true
 | _=>false
theorem oX {x:Option AV}{H H1 H':AH}{r:AV}(h:x.map (·,H)=some (r,H1)):x.map (·,H')=some (r,H'):=by
 obtain⟨a,h1,h2⟩:=Option.map_eq_some_iff.1 h;injection h2 with h2 h3;subst h2;rw[h1];rfl
theorem tG {x r:AV}{H H1 H':AH}(h:some (x,H)=some (r,H1)):some (x,H')=some (r,H'):=by
 injection h with h;injection h with h1 h2;rw[h1]
theorem Wh {ρ:Operand→AV}{H H1 H':AH}{o:Oper}{r:AV}(hb:K4 o.op=true)(hq:GD o.op=true)(h:CD P ρ H o=some (r,H1)):CD P ρ H' o=some (r,H'):=by
 have hH:=P7 hq h;subst hH;obtain⟨dst,op,type,pos,after,guard⟩:=o;cases op<;>first
  | (simp[K4]at hb;done)
  | (simp[GD]at hq;done)
  | exact oX h
  | exact tG h
  | skip
 case pick c a b=>
  simp only[CD]at h⊢;split at h
  ·injection h with h;injection h with h1 h2;rw[h1]
  ·cases h
def Ke (P:Program)(pl:FuncId→Bool)(pure:Pg)(call:IS)(T:List AV)(H:AH)(o:Oper):Option (AV×AH):=
 match o.op with
 | .buildSlice ..=>(Fc P (Bu T) o).map (·,H)
 | _=>if BB pl o.op then match Ee (Bu T) o with
   | some (f,args)=>(pure f args).map (·,H)
   | none=>none
  else match CD P (Bu T) H o with
  | some x=>some x
  | none=>match Ee (Bu T) o with
   | some (f,args)=>if B4 P f then call f args H else none
   | none=>none
def mU (P:Program)(pl:FuncId→Bool)(pure:Pg)(call:IS)(ops:Array Oper):List Oper→List AV→AH→Option (List (AV×AH))
 | [],_,_=>some []
 | o::l,T,H=>match B6 ops T o with
  | none=>none
  | some false=>(mU P pl pure call ops l (Dj T o.dst AG) H).map ((AG,H)::·)
  | some true=>match Ke P pl pure call T H o with
   | some (r,H')=>(mU P pl pure call ops l (Dj T o.dst r) H').map ((r,H')::·)
   | none=>none
def J7 (pl:FuncId→Bool)(ops:List Oper)(i:Nat):Bool:=match ops[i]? with
 | some o=>!GQ pl o.op
 | none=>false
def B1 (tr:List (AV×AH))(i:Nat):AV:=(tr[i]?.map Prod.fst).getD AG
def E6 (tr:List (AV×AH))(i:Nat):AH:=(tr[i]?.map Prod.snd).getD []
def hs (pl:FuncId→Bool)(ops:List Oper)(tr:List (AV×AH))(H:AH)(S:Nat→Bool):Nat→AH
 | 0=>H
 | m+1=>if S m&&J7 pl ops m then E6 tr m else hs pl ops tr H S m
def NP (pl:FuncId→Bool)(ops:List Oper)(b:List Nat)(i:Nat)(c:Option Nat):Bool:=
 (List.range ops.length).all (λj=>!(J7 pl ops j&&(b.getD i 0).testBit j)||(match c with
  | some c=>decide (j≤c)
  | none=>false))&&(match c with
  | some c=> !(b.getD c 0).testBit i&&decide (c≠i)
  | none=>true)
def YJ (ops:List Oper):List Oper→List (AV×AH)→List AV→List (List AV)
 | o::l,(r,_)::tr,T=>T::YJ ops l tr (Dj T o.dst r)
 | _,_,_=>[]
def kV (P:Program)(pl:FuncId→Bool)(ops:List Oper)(tr:List (AV×AH))(H:AH)(T:List AV):Bool:=
 let b:=Eh ops []
 let fr:=YJ ops ops tr T
 let stages:=none::((List.range ops.length).filter (J7 pl ops)).map some
 ops.zipIdx.all λp=>!GQ pl p.1.op||K4 p.1.op||BB pl p.1.op||match fr[p.2]? with
  | some Ti=>match B6 ops.toArray Ti p.1 with
   | some true=>stages.all λc=>!NP pl ops b p.2 c||(match CD P (Bu Ti) (match c with | some c=>E6 tr c | none=>H) p.1 with
    | some (r,_)=>AV.same r (B1 tr p.2)
    | none=>false)
   | _=>true
  | none=>false
def Qc (pl:FuncId→Bool)(ops:List Oper):Bool:=
 let b:=Eh ops []
 ops.zipIdx.all λp=>!(J7 pl ops p.2)||(List.range p.2).all λj=>!(J7 pl ops j)||(b.getD p.2 0).testBit j
def pK (P:Program)(pl:FuncId→Bool)(pure:Pg)(call:IS)(ops:List Oper)(T:List AV)(H:AH):Option (List AV×AH):=
 if P.follows .mixedOrders&&KX ops&&Qc pl ops then match mU P pl pure call ops.toArray ops T H with
  | some tr=>if kV P pl ops tr H T then some (pt ops (B1 tr) (λ_=>true) T ops.length,hs pl ops tr H (λ_=>true) ops.length)else none
  | none=>none
 else none
def iP (P:Program)(pl:FuncId→Bool)(ops:List Oper)(tr:List (AV×AH))(T:List AV)(H:AH)(i:Nat)(o:Oper):Prop:=
 ∃b,B6 ops.toArray (pt ops (B1 tr) (λ_=>true) T i) o=some b∧
  (b=false→B1 tr i=AG∧E6 tr i=hs pl ops tr H (λ_=>true) i)∧
  (b=true→∃pure call,Rp P pure∧TZ P call∧Ke P pl pure call (pt ops (B1 tr) (λ_=>true) T i) (hs pl ops tr H (λ_=>true) i) o=some (B1 tr i,E6 tr i))
theorem iT {ρ:Operand→AV}{o:Oper}{q:FuncId×List AV}(h:Ee ρ o=some q):GD o.op=false:=by
 obtain⟨dst,op,type,pos,after,guard⟩:=o;unfold Ee at h;split at h
 ·rename_i hop
  simp only at hop;subst hop;rfl
 ·cases h
theorem Kg {pl : FuncId→Bool} {pure : Pg} (hp : Rp P pure) {call : IS} {T : List AV} {H H' : AH} {o : Oper} {r : AV} (hq : GQ pl o.op=true) (h : Ke P pl pure call T H o=some (r,H')) :
    H'=H∧(Fc P (Bu T) o=some r∨(BB pl o.op=true∧∃f args,Ee (Bu T) o=some (f,args)∧B4 P f=true∧∀H,ACalls P f args H λr' H'=>r'=r∧H'=H)∨(CD P (Bu T) H o=some (r,H)∧GD o.op=true∧BB pl o.op=false)):=by
  unfold Ke at h;split at h
  · obtain⟨a,h1,h2⟩:=Option.map_eq_some_iff.1 h;injection h2 with h2 h3;subst h2;subst h3;exact⟨rfl,.inl h1⟩
  · rename_i hnb
    by_cases hpo:BB pl o.op=true
    · rw[if_pos hpo]at h;split at h
      · rename_i f args hc;obtain⟨a,h1,h2⟩:=Option.map_eq_some_iff.1 h;injection h2 with h2 h3;subst h2;subst h3;exact⟨rfl,.inr (.inl ⟨hpo,f,args,hc,hp f args _ h1⟩)⟩
      · cases h
    · rw[if_neg hpo]at h;have hpf:BB pl o.op=false:=by simpa using hpo
      have hst:GD o.op=true:=by
        unfold GQ at hq;simp only[Bool.or_eq_true]at hq;rcases hq with(h | h) | h
        · exact h
        · exact absurd h hpo
        · first
            | (split at h
               · rename_i h1;exact absurd h1 (hnb _ _ _)
               · cases h)
            | cases h
      split at h
      · rename_i x hx;injection h with h;subst h
        have:=P7 hst hx
        subst this;exact⟨rfl,.inr (.inr ⟨hx,hst,hpf⟩)⟩
      · exfalso
        split at h
        · rename_i f args hc;rw[iT hc]at hst;cases hst
        · cases h
theorem cO {pl:FuncId→Bool}{ops:List Oper}{tr:List (AV×AH)}{H:AH}{S:Nat→Bool}:∀m,(hs pl ops tr H S m=H∧∀j,j<m→¬(S j=true∧J7 pl ops j=true))∨
  ∃c,c<m∧S c=true∧J7 pl ops c=true∧hs pl ops tr H S m=E6 tr c∧∀j,c<j→j<m→¬(S j=true∧J7 pl ops j=true)
 | 0=>.inl ⟨rfl,λj h=>by omega⟩
 | m+1=>by
  simp only[hs]
  by_cases h:S m=true∧J7 pl ops m=true
  ·rw[if_pos (by simp[h.1,h.2])]
   exact .inr ⟨m,by omega,h.1,h.2,rfl,λj h1 h2=>by omega⟩
  ·rw[if_neg (by simpa using h)]
   rcases cO m with⟨h1,h2⟩ | ⟨c,h1,h2,h3,h4,h5⟩
   ·refine .inl ⟨h1,λj hj=>?_⟩
    rcases Nat.lt_succ_iff_lt_or_eq.1 hj with hj | rfl
    ·exact h2 j hj
    ·exact h
   ·refine .inr ⟨c,by omega,h2,h3,h4,λj hj1 hj2=>?_⟩
    rcases Nat.lt_succ_iff_lt_or_eq.1 hj2 with hj | rfl
    ·exact h5 j hj1 hj
    ·exact h
theorem ER {pl:FuncId→Bool}{ops:List Oper}{tr:List (AV×AH)}{H:AH}{S S':Nat→Bool}:∀m,(∀j,j<m→J7 pl ops j=true→S j=S' j)→hs pl ops tr H S m=hs pl ops tr H S' m
 | 0,_=>rfl
 | m+1,h=>by
  simp only[hs,ER m (λj hj=>h j (by omega))];cases hc:J7 pl ops m with
  | false=>simp
  | true=>rw[h m (by omega) hc]
theorem L4 {pl:FuncId→Bool}{ops:List Oper}{tr:List (AV×AH)}{H:AH}{S:Nat→Bool}{i:Nat}:∀m,i≤m→(∀j,i≤j→j<m→¬(S j=true∧J7 pl ops j=true))→hs pl ops tr H S m=hs pl ops tr H S i
 | 0,hi,_=>by rw[show i=0 by omega]
 | m+1,hi,h=>by
  rcases Ac5 m i with hlt | hge
  ·rw[show i=m+1 by omega]
  ·simp only[hs]
   rw[if_neg (by simpa using h m hge (by omega))];exact L4 m hge (λj h1 h2=>h j h1 (by omega))
end
end
section
def YL:Exit→Bool
 | .normal | .ret=>true
 | _=>false
section
variable {P : Program}
def BCall (P:Program)(f:FuncId)(args:List AV)(H:AH)(r:AV)(H':AH):Prop:=ACalls P f args H λr' H''=>r'=r∧H''=H'
def BPure (P:Program)(f:FuncId)(args:List AV)(r:AV):Prop:=∀H,BCall P f args H r H
theorem BPure.of {f:FuncId}{args:List AV}{r0 r:AV}{X:AH}(h:BCall P f args [] r0 X)(hb:A6 args=true){n:Nat}(hf:Kw X n r0=some r):BPure P f args r:=
 λH=>ACalls.pure (R':=λr'=>r'=r) h (ES hb) (λr1 X1 h1=>⟨n,r,by rw[h1.1,h1.2];exact hf,rfl⟩) H
inductive TraceR (P:Program) (ql:FuncId→Bool) (ops:Array Oper):List Oper→List AV→AH→List (AV×AH)→List AV→AH→Prop
 | nil (T:List AV) (H:AH):TraceR P ql ops [] T H [] T H
 | skip {o:Oper} {l:List Oper} {T T':List AV} {H H':AH} {tl:List (AV×AH)} (hw:B6 ops T o=some false) (hr:TraceR P ql ops l (Dj T o.dst AG) H tl T' H'):TraceR P ql ops (o::l) T H ((AG,H)::tl) T' H'
 | step {o:Oper} {l:List Oper} {T T':List AV} {H H1 H':AH} {r:AV} {tl:List (AV×AH)} (hw:B6 ops T o=some true) (hs:∃pure call,Rp P pure∧TZ P call∧Ke P ql pure call T H o=some (r,H1))
   (hr:TraceR P ql ops l (Dj T o.dst r) H1 tl T' H'):TraceR P ql ops (o::l) T H ((r,H1)::tl) T' H'
abbrev Aa6:=And.intro @CL.{0} @Nat.add_zero
theorem Zy {ql:FuncId→Bool}{ops:List Oper}{T:List AV}{H:AH}{tr:List (AV×AH)}:∀(l:List Oper) (tl:List (AV×AH)) (k:Nat) (Tk:List AV) (Hk:AH) (T':List AV) (H':AH),(∀(j:Nat) (o:Oper),l[j]?=some o→ops[k+j]?=some o)→(∀j,tl[j]?=tr[k+j]?)→
  pt ops (B1 tr) (λ_=>true) T k=Tk→hs ql ops tr H (λ_=>true) k=Hk→TraceR P ql ops.toArray l Tk Hk tl T' H'→
  pt ops (B1 tr) (λ_=>true) T (k+l.length)=T'∧hs ql ops tr H (λ_=>true) (k+l.length)=H'∧∀(j:Nat) (o:Oper),l[j]?=some o→iP P ql ops tr T H (k+j) o:=by
 intro l
 induction l with
 | nil=>
  intro tl k Tk Hk T' H' hl ht hT hH h;cases h;exact⟨by simpa using hT,by simpa using hH,λj o hj=>by simp at hj⟩
 | cons o l ih=>
  intro tl k Tk Hk T' H' hl ht hT hH h;have ho:ops[k]?=some o:=by simpa using hl 0 o rfl
  have step:∀(r:AV) (H1:AH) (t2:List (AV×AH)),tl=(r,H1)::t2→TraceR P ql ops.toArray l (Dj Tk o.dst r) H1 t2 T' H'→(GQ ql o.op=true→H1=Hk)→(iP P ql ops tr T H k o)→
    pt ops (B1 tr) (λ_=>true) T (k+(o::l).length)=T'∧hs ql ops tr H (λ_=>true) (k+(o::l).length)=H'∧∀(j:Nat) (o1:Oper),(o::l)[j]?=some o1→iP P ql ops tr T H (k+j) o1:=by
   intro r H1 t2 htl h2 hq htold;subst htl;have h0:=ht 0;simp only[Aa6]at h0;have hv:B1 tr k=r:=by unfold B1;rw[← h0];rfl
   have hh:E6 tr k=H1:=by unfold E6;rw[← h0];rfl
   obtain⟨e1,e2,e3⟩:=ih t2 (k+1) (Dj Tk o.dst r) H1 T' H' (λj o' hj=>by
     rw[show k+1+j=k+(j+1) by omega];exact hl (j+1) o' (by simpa using hj)) (λj=>by
     have:=ht (j+1)
     rw[show k+1+j=k+(j+1) by omega,← this]
     simp) (by
     simp only[pt,if_true];rw[hT,hv];simp[Ip,ho]) (by
     have hcn:J7 ql ops k=!GQ ql o.op:=by unfold J7;rw[ho]
     simp only[hs,Al3,hcn]
     by_cases hqo:GQ ql o.op=true
     ·rw[if_neg (by simp[hqo]),hq hqo];exact hH
     ·rw[if_pos (by simpa using hqo)];exact hh) h2
   have hkl:k+(o::l).length=k+1+l.length:=by simp;omega
   rw[hkl];refine⟨e1,e2,λj o1 hj=>?_⟩;cases j with
   | zero=>simp only[CL]at hj;injection hj with hj;subst hj;exact htold
   | succ j=>rw[show k+(j+1)=k+1+j by omega];exact e3 j o1 (by simpa using hj)
  have h00:∀(r:AV) (H1:AH) (t2:List (AV×AH)),tl=(r,H1)::t2→B1 tr k=r∧E6 tr k=H1:=by
   intro r H1 t2 htl;have h0:=ht 0;rw[htl]at h0;simp only[Aa6]at h0;exact⟨by unfold B1;rw[← h0];rfl,by unfold E6;rw[← h0];rfl⟩
  cases h with
  | skip hw hr=>
   obtain⟨a1,a2⟩:=h00 _ _ _ rfl;exact step _ _ _ rfl hr (λ_=>rfl) ⟨false,by rw[hT];exact hw,(λ_=>⟨a1,by rw[a2,hH]⟩),(λh=>by cases h)⟩
  | step hw hs hr=>
   obtain⟨pu,cl,hp,hc,hst⟩:=hs;obtain⟨a1,a2⟩:=h00 _ _ _ rfl;exact step _ _ _ rfl hr (λhq=>(Kg hp hq hst).1) ⟨true,by rw[hT];exact hw,(λh=>by cases h),(λ_=>⟨pu,cl,hp,hc,by rw[hT,hH,a1,a2];exact hst⟩)⟩
theorem Yr {ql:FuncId→Bool}{op:Op}(h:K4 op=true):GQ ql op=true:=by
 cases op<;>first
  | rfl
  | cases h
def wG (ql:FuncId→Bool)(ops:List Oper):Bool:=
 let b:=Eh ops []
 ops.zipIdx.all λp=>K4 p.1.op||BB ql p.1.op||(List.range ops.length).all λj=>!(J7 ql ops j)||decide (j=p.2)||(b.getD (max p.2 j) 0).testBit (min p.2 j)
abbrev Aa2:=And.intro @An @Bool.false_and
abbrev Ao5:=@Nat.eq_or_lt_of_le
abbrev Aj9:=@List.mem_range
theorem sL {ql:FuncId→Bool}{id:Nat}{ops:List Oper}{T:List AV}{H:AH}{tr:List (AV×AH)}(hm:P.follows .mixedOrders=true)(hord:KX ops=true)(hfix:wG ql ops=true)
  (htold:∀(i:Nat) (o:Oper),ops[i]?=some o→iP P ql ops tr T H i o) {Q:AQ} (hq:Q .normal (pt ops (B1 tr) (λ_=>true) T ops.length) (hs ql ops tr H (λ_=>true) ops.length)):ACode P (.region id ops.toArray true) Q T H:=by
 have hk:=Vf hord;refine ACode.drawn hm hord (Ω:=Unit) (λ_ _=>True) (λ_=>B1 tr) (λ_ S=>hs ql ops tr H S ops.length) () trivial ?_ ?_ ?_
 ·rw[ER (S':=λ_=>false) _ (λ_ _ _=>rfl)]
  have:∀m,hs ql ops tr H (λ_=>false) m=H:=by
   intro m
   induction m with
   | zero=>rfl
   | succ m ih=>simp only[hs,Aa2];exact ih
  exact this _
 ·intro _ S i o ⟨ho,hcl,hSi,hmet⟩ _
  have hil:=(BD.1 ho).1;obtain⟨b,hw,hw0,hw1⟩:=htold i o ho;have before:∀j,(((Eh ops []).getD i 0).testBit j=true)→S j=true:=λj hj=>KV hk.down hcl i o ho hmet j hj
  have behind:∀c,S c=true→c<ops.length→((Eh ops []).getD c 0).testBit i=true→False:=by
   intro c hc hcl' hbit
   have:=KV hk.down hcl c _ (DR hcl') (λe he hb'=>hcl c _ (DR hcl') hc e he hb') i hbit
   rw[hSi]at this;cases this
  have R0:∀(r:AV) (H1:AH),B1 tr i=r→hs ql ops tr H (Ho S i) ops.length=H1→∃ω':Unit,True∧(∀j,S j=true→B1 tr j=B1 tr j)∧B1 tr i=r∧hs ql ops tr H (Ho S i) ops.length=H1:=
   λr H1 a1 a2=>⟨(),trivial,λ_ _=>rfl,a1,a2⟩
  have still:J7 ql ops i=false→hs ql ops tr H (Ho S i) ops.length=hs ql ops tr H S ops.length:=by
   intro hci;refine ER _ λj _ hj=>?_
   unfold Ho
   split
   ·rename_i he;rw[he,hci]at hj;cases hj
   ·rfl
  have fixed:(∀j,j<ops.length→J7 ql ops j=true→j≠i→((Eh ops []).getD (max i j) 0).testBit (min i j)=true)→hs ql ops tr H S ops.length=hs ql ops tr H (λ_=>true) i∧
    (∀j,i≤j→j<ops.length→¬(S j=true∧J7 ql ops j=true)):=by
   intro hf
   have above:∀j,i≤j→j<ops.length→¬(S j=true∧J7 ql ops j=true):=by
    rintro j hj hjl ⟨h1,h2⟩;rcases Ao5 hj with rfl | hlt
    ·rw[hSi]at h1;cases h1
    ·have:=hf j hjl h2 (by omega)
     rw[Nat.max_eq_right (by omega),Ai2 (by omega)]at this;exact behind j h1 hjl this
   refine⟨?_,above⟩;rw[L4 ops.length (by omega) above];refine ER _ λj hj hcj=>?_
   have:=hf j (by omega) hcj (by omega)
   rw[Nat.max_eq_left (by omega),Nat.min_eq_right (by omega)]at this;exact before j this
  have hfx:=Ae3.1 hfix _ (TY ho);simp only[Bool.or_eq_true]at hfx
  have unfix:(K4 o.op=false∧BB ql o.op=false)→∀j,j<ops.length→J7 ql ops j=true→j≠i→((Eh ops []).getD (max i j) 0).testBit (min i j)=true:=by
   rintro⟨h1,h2⟩ j hj hcj hne;rcases hfx with(h | h) | h
   ·rw[h1]at h;cases h
   ·rw[h2]at h;cases h
   ·have:=Ae3.1 h j (Aj9.2 hj)
    simpa[hcj,hne]using this
  have chNot:J7 ql ops i=true→K4 o.op=false∧BB ql o.op=false∧GQ ql o.op=false:=by
   intro hci;have hq0:GQ ql o.op=false:=by unfold J7 at hci;rw[ho]at hci;simpa using hci
   refine⟨?_,?_,hq0⟩
   ·cases hb:K4 o.op with
    | false=>rfl
    | true=>
     exfalso
     rw[Yr hb]at hq0;cases hq0
   ·unfold GQ at hq0
    simp only[Bool.or_eq_false_iff]at hq0;exact hq0.1.2
  have e2:J7 ql ops i=true→hs ql ops tr H (Ho S i) ops.length=E6 tr i:=by
   intro hci;obtain⟨c1,c2,-⟩:=chNot hci;obtain⟨-,above⟩:=fixed (unfix ⟨c1,c2⟩);rw[L4 (i:=i+1) ops.length (by omega) (λj h1 h2 h3=>above j (by omega) h2 ⟨by have:=h3.1;unfold Ho at this;rwa[if_neg (by omega)]at this,h3.2⟩)];simp only[hs];rw[if_pos (by simp[Ho,hci])]
  refine⟨b,hw,λhb=>?_,λhb=>?_⟩
  ·subst hb
   obtain⟨pu,cl,hpu,hcl1,hst⟩:=hw1 rfl;cases hqi:GQ ql o.op with
   | true=>
    have hci:J7 ql ops i=false:=by unfold J7;rw[ho];simp[hqi]
    obtain⟨_,hz | ⟨hpo,f,args,hca,hgo,hal⟩ | ⟨hz,hstill,hnp⟩⟩:=Kg hpu hqi hst
    ·exact .inr (.inl ⟨_,hz,R0 _ _ rfl (still hci)⟩)
    ·refine .inr (.inr ⟨f,args,hca,hgo,(hal _).mono ?_⟩)
     rintro r' H'' ⟨rfl,rfl⟩;exact R0 _ _ rfl (still hci)
    ·left
     by_cases hbl:K4 o.op=true
     ·exact⟨_,_,Wh hbl hstill hz,R0 _ _ rfl (still hci)⟩
     ·have:=(fixed (unfix ⟨by simpa using hbl,hnp⟩)).1
      refine⟨_,_,?_,R0 _ _ rfl (still hci)⟩
      show CD P _ (hs ql ops tr H S ops.length) o=_
      rw[this];exact hz
   | false=>
    have hci:J7 ql ops i=true:=by unfold J7;rw[ho];simp[hqi]
    obtain⟨c1,c2,-⟩:=chNot hci;have e1:=(fixed (unfix ⟨c1,c2⟩)).1
    show VY P _ (hs ql ops tr H S ops.length) o _
    rw[e1];unfold Ke at hst;split at hst
    ·rename_i hbs;unfold GQ at hqi;simp[hbs]at hqi
    ·rw[if_neg (by simp[c2])]at hst
     split at hst
     ·rename_i x hx
      injection hst with hst;subst hst;exact .inl ⟨_,_,hx,R0 _ _ rfl (e2 hci)⟩
     ·split at hst
      ·rename_i f args hcall
       split at hst
       ·rename_i hgo
        refine .inr (.inr ⟨f,args,hcall,hgo,(hcl1 f args _ _ _ hst).mono ?_⟩);rintro r' H'' ⟨rfl,rfl⟩;exact R0 _ _ rfl (e2 hci)
       ·cases hst
      ·cases hst
  ·subst hb
   obtain⟨a1,a2⟩:=hw0 rfl;refine R0 _ _ a1 ?_;cases hci:J7 ql ops i with
   | false=>exact still hci
   | true=>
    obtain⟨c1,c2,-⟩:=chNot hci;rw[e2 hci,a2];exact(fixed (unfix ⟨c1,c2⟩)).1.symm
 ·intro _ S hall _
  show Q .normal (pt ops (B1 tr) (λ_=>true) T ops.length) (hs ql ops tr H S ops.length)
  rw[ER (S':=λ_=>true) _ (λj hj _=>hall j hj)];exact hq
abbrev Ab5:=And.intro @Bool.and_eq_false_iff @Bool.not_eq_true'
theorem fI {pl : FuncId→Bool} {id : Nat} {ops : List Oper} {T : List AV} {H : AH} {tr : List (AV × AH)} (hm : P.follows .mixedOrders=true) (hord : KX ops=true) (hch : Qc pl ops=true)
    (htold:∀(i:Nat) (o:Oper),ops[i]?=some o→iP P pl ops tr T H i o)
    (hins:∀(i:Nat) (o:Oper),ops[i]?=some o→GQ pl o.op=true→K4 o.op=false→BB pl o.op=false→B6 ops.toArray (pt ops (B1 tr) (λ_=>true) T i) o=some true→
      ∀(c:Option Nat),(c=none∨∃d,c=some d∧d<ops.length∧J7 pl ops d=true)→NP pl ops (Eh ops []) i c=true→
        ∃H2,CD P (Bu (pt ops (B1 tr) (λ_=>true) T i)) (match c with | some c=>E6 tr c | none=>H) o=some (B1 tr i,H2))
    {Q:AQ} (hq:Q .normal (pt ops (B1 tr) (λ_=>true) T ops.length) (hs pl ops tr H (λ_=>true) ops.length)):ACode P (.region id ops.toArray true) Q T H:=by
  have hk:=Vf hord;refine ACode.drawn hm hord (Ω:=Unit) (λ_ _=>True) (λ_=>B1 tr) (λ_ S=>hs pl ops tr H S ops.length) () trivial ?_ ?_ ?_
  · rw[ER (S':=λ_=>false) _ (λ_ _ _=>rfl)]
    have:∀m,hs pl ops tr H (λ_=>false) m=H:=by
      intro m
      induction m with
      | zero=>rfl
      | succ m ih=>simp only[hs,Aa2];exact ih
    exact this _
  · intro _ S i o ⟨ho,hcl,hSi,hmet⟩ _;have hil:=(BD.1 ho).1;obtain⟨b,hw,hw0,hw1⟩:=htold i o ho;have before:∀j,(((Eh ops []).getD i 0).testBit j=true)→S j=true:=λj hj=>KV hk.down hcl i o ho hmet j hj
    have behind:∀c,S c=true→c<ops.length→((Eh ops []).getD c 0).testBit i=true→False:=by
      intro c hc hcl' hbit
      have:=KV hk.down hcl c _ (DR hcl') (λe he hb'=>hcl c _ (DR hcl') hc e he hb') i hbit
      rw[hSi]at this;cases this
    have chain:∀c d,c<d→d<ops.length→J7 pl ops c=true→J7 pl ops d=true→((Eh ops []).getD d 0).testBit c=true:=by
      intro c d hcd hd h1 h2
      have:=Ae3.1 hch _ (TY (DR hd))
      simp only[h2,Ak6,Bool.false_or]at this
      have:=Ae3.1 this c (Aj9.2 hcd)
      simpa[h1]using this
    have R0:∀(r:AV) (H1:AH),B1 tr i=r→hs pl ops tr H (Ho S i) ops.length=H1→∃ω':Unit,True∧(∀j,S j=true→B1 tr j=B1 tr j)∧B1 tr i=r∧hs pl ops tr H (Ho S i) ops.length=H1:=
      λr H1 a1 a2=>⟨(),trivial,λ_ _=>rfl,a1,a2⟩
    refine⟨b,hw,λhb=>?_,λhb=>?_⟩
    · subst hb;obtain⟨pu,cl,hpu,hcl1,hst⟩:=hw1 rfl;cases hqi:GQ pl o.op with
      | true=>
        have hci:J7 pl ops i=false:=by unfold J7;rw[ho];simp[hqi]
        have hsame:hs pl ops tr H (Ho S i) ops.length=hs pl ops tr H S ops.length:=by
          refine ER _ λj _ hj=>?_
          unfold Ho
          split
          · rename_i he;rw[he,hci]at hj;cases hj
          · rfl
        obtain⟨_,hz | ⟨hpo,f,args,hca,hgo,hal⟩ | ⟨hz,hstill,hnp⟩⟩:=Kg hpu hqi hst
        · exact .inr (.inl ⟨_,hz,R0 _ _ rfl hsame⟩)
        · refine .inr (.inr ⟨f,args,hca,hgo,(hal _).mono ?_⟩);rintro r' H'' ⟨rfl,rfl⟩;exact R0 _ _ rfl hsame
        · left
          by_cases hbl:K4 o.op=true
          · exact⟨_,_,Wh hbl hstill hz,R0 _ _ rfl hsame⟩
          · have stage : ∀ (c : Option Nat), (c = none ∨ ∃ d, c = some d ∧ d < ops.length ∧ J7 pl ops d = true) → NP pl ops (Eh ops []) i c = true →
                ∃H2,CD P (Bu (pt ops (B1 tr) (λ_=>true) T i)) (match c with | some c=>E6 tr c | none=>H) o=some (B1 tr i,H2):=hins i o ho hqi (by simpa using hbl) hnp hw
            have fin:∃H2,CD P (Bu (pt ops (B1 tr) (λ_=>true) T i)) (hs pl ops tr H S ops.length) o=some (B1 tr i,H2):=by
              rcases cO (ops:=ops) (tr:=tr) (H:=H) (S:=S) ops.length with⟨e1,e2⟩ | ⟨c,e1,e2,e3,e4,e5⟩
              · rw[e1];refine stage none (.inl rfl) ?_;unfold NP;simp only[Bool.and_true];refine Ae3.2 λj hj=>?_
                have hj:=Aj9.1 hj;simp only[Bool.or_false,Ab5];cases hcj:J7 pl ops j with
                | false=>exact .inl rfl
                | true=>
                  right
                  cases hbj:((Eh ops []).getD i 0).testBit j with
                  | false=>rfl
                  | true=>exact absurd ⟨before j hbj,hcj⟩ (e2 j hj)
              · rw[e4];refine stage (some c) (.inr ⟨c,rfl,e1,e3⟩) ?_;unfold NP;simp only[Ae0];refine⟨Ae3.2 λj hj=>?_,?_,?_⟩
                · have hj:=Aj9.1 hj;simp only[Aa1,Ab5];cases hcj:J7 pl ops j with
                  | false=>exact .inl (.inl rfl)
                  | true=>
                    cases hbj:((Eh ops []).getD i 0).testBit j with
                    | false=>exact .inl (.inr rfl)
                    | true=>
                      right
                      rcases Ac5 c j with hlt | hge
                      · exact absurd ⟨before j hbj,hcj⟩ (e5 j hlt hj)
                      · exact hge
                · cases hbc:((Eh ops []).getD c 0).testBit i with
                  | false=>rfl
                  | true=>exact(behind c e2 e1 hbc).elim
                · refine decide_eq_true ?_;rintro rfl;rw[hSi]at e2;cases e2
            obtain⟨H2,hH2⟩:=fin
            have:=P7 hstill hH2
            subst this;exact⟨_,_,hH2,R0 _ _ rfl hsame⟩
      | false=>
        have hci:J7 pl ops i=true:=by unfold J7;rw[ho];simp[hqi]
        have below:∀j,j<i→J7 pl ops j=true→S j=true:=λj hj hcj=>before j (chain j i hj hil hcj hci)
        have above:∀j,i≤j→j<ops.length→¬(S j=true∧J7 pl ops j=true):=by
          rintro j hj hjl ⟨h1,h2⟩;rcases Ao5 hj with rfl | hlt
          · rw[hSi]at h1;cases h1
          · exact behind j h1 hjl (chain i j hlt hjl hci h2)
        have e1:hs pl ops tr H S ops.length=hs pl ops tr H (λ_=>true) i:=by
          rw[L4 ops.length (by omega) above];exact ER _ λj hj hcj=>below j hj hcj
        have e2:hs pl ops tr H (Ho S i) ops.length=E6 tr i:=by
          rw[L4 (i:=i+1) ops.length (by omega) (λj h1 h2 h3=>above j (by omega) h2 ⟨by have:=h3.1;unfold Ho at this;rwa[if_neg (by omega)]at this,h3.2⟩)];simp only[hs];rw[if_pos (by simp[Ho,hci])]
        show VY P _ (hs pl ops tr H S ops.length) o _
        rw[e1];unfold Ke at hst;split at hst
        · rename_i hbs;unfold GQ at hqi;simp[hbs]at hqi
        · have hnp : BB pl o.op=false:=by
            unfold GQ at hqi;simp only[Bool.or_eq_false_iff]at hqi;exact hqi.1.2
          rw[if_neg (by simp[hnp])]at hst;split at hst
          · rename_i x hx;injection hst with hst;subst hst;exact .inl ⟨_,_,hx,R0 _ _ rfl e2⟩
          · split at hst
            · rename_i f args hcall;split at hst
              · rename_i hgo;refine .inr (.inr ⟨f,args,hcall,hgo,(hcl1 f args _ _ _ hst).mono ?_⟩);rintro r' H'' ⟨rfl,rfl⟩;exact R0 _ _ rfl e2
              · cases hst
            · cases hst
    · subst hb;obtain⟨a1,a2⟩:=hw0 rfl;refine R0 _ _ a1 ?_;cases hci:J7 pl ops i with
      | false=>
        refine ER _ λj _ hj=>?_
        unfold Ho
        split
        · rename_i he;rw[he,hci]at hj;cases hj
        · rfl
      | true=>
        have below:∀j,j<i→J7 pl ops j=true→S j=true:=λj hj hcj=>before j (chain j i hj hil hcj hci)
        have above:∀j,i≤j→j<ops.length→¬(S j=true∧J7 pl ops j=true):=by
          rintro j hj hjl ⟨h1,h2⟩;rcases Ao5 hj with rfl | hlt
          · rw[hSi]at h1;cases h1
          · exact behind j h1 hjl (chain i j hlt hjl hci h2)
        have e1:hs pl ops tr H S ops.length=hs pl ops tr H (λ_=>true) i:=by
          rw[L4 ops.length (by omega) above];exact ER _ λj hj hcj=>below j hj hcj
        rw[L4 (i:=i+1) ops.length (by omega) (λj h1 h2 h3=>above j (by omega) h2 ⟨by have:=h3.1;unfold Ho at this;rwa[if_neg (by omega)]at this,h3.2⟩)];simp only[hs];rw[if_pos (by simp[Ho,hci]),a2,e1]
  · intro _ S hall _
    show Q .normal (pt ops (B1 tr) (λ_=>true) T ops.length) (hs pl ops tr H S ops.length)
    rw[ER (S':=λ_=>true) _ (λj hj _=>hall j hj)];exact hq
def N9 (P:Program)(ql:FuncId→Bool)(dr:Bool)(ρ:Operand→AV)(o:Oper)(H:AH)(r:AV)(H':AH):Prop:=
 match Ee ρ o with
 | some (k,args)=>B4 P k=true∧if dr&&BB ql o.op then BPure P k args r∧H'=H else BCall P k args H r H'
 | none=>False
def VQ:Op→Bool
 | .buildSlice ..=>true
 | _=>false
def X4 (P:Program)(dr:Bool)(ρ:Operand→AV)(H:AH)(o:Oper):Option (AV×AH):=
 if dr&&VQ o.op then(Fc P ρ o).map (·,H)else CD P ρ H o
def NA (P:Program)(ql:FuncId→Bool)(dr:Bool)(ops:Array Oper):List Oper→List AV→AH→(List AV→AH→Prop)→Prop
 | [],T,H,K=>K T H
 | o::l,T,H,K=>match B6 ops T o with
  | none=>False
  | some false=>NA P ql dr ops l (Dj T o.dst AG) H K
  | some true=>match X4 P dr (Bu T) H o with
   | some (r,H')=>NA P ql dr ops l (Dj T o.dst r) H' K
   | none=>∃r H',N9 P ql dr (Bu T) o H r H'∧NA P ql dr ops l (Dj T o.dst r) H' K
theorem LH {ql:FuncId→Bool}{ops:Array Oper}:∀(l:List Oper) (T:List AV) (H:AH) (K:List AV→AH→Prop),NA P ql false ops l T H K→∃T' H',K T' H'∧AOps P ops (AQ.is (.normal,T',H')) l T H
 | [],T,H,K,h=>⟨T,H,h,AOps.nil rfl⟩
 | o::l,T,H,K,h=>by
  unfold NA at h;split at h
  ·exact h.elim
  ·rename_i hw
   obtain⟨T',H',hk,ha⟩:=LH l _ _ K h;exact⟨T',H',hk,AOps.unwanted hw ha⟩
  ·rename_i hw
   split at h
   ·rename_i r H1 ho
    obtain⟨T',H',hk,ha⟩:=LH l _ _ K h;exact⟨T',H',hk,AOps.op hw (by simpa[X4]using ho) ha⟩
   ·obtain⟨r,H1,hc,h⟩:=h
    obtain⟨T',H',hk,ha⟩:=LH l _ _ K h;unfold N9 at hc;split at hc
    ·rename_i k args hcall
     simp only[Aa2]at hc;refine⟨T',H',hk,AOps.call hw hcall hc.1 (hc.2.mono ?_)⟩;rintro r' H'' ⟨rfl,rfl⟩;exact ha
    ·exact hc.elim
theorem Zd {dr:Bool}{T:List AV}{H:AH}{o:Oper}{q:FuncId×List AV}(hc:Ee (Bu T) o=some q):CD P (Bu T) H o=none∧VQ o.op=false:=by
 obtain⟨dst,op,type,pos,after,guard⟩:=o;unfold Ee at hc;split at hc
 ·rename_i hop
  simp only at hop;subst hop;exact⟨rfl,rfl⟩
 ·cases hc
theorem Oc {ql:FuncId→Bool}{ops:Array Oper}:∀(l:List Oper) (T:List AV) (H:AH) (K:List AV→AH→Prop),NA P ql true ops l T H K→∃tl T' H',K T' H'∧TraceR P ql ops l T H tl T' H'
 | [],T,H,K,h=>⟨[],T,H,h,.nil _ _⟩
 | o::l,T,H,K,h=>by
  have none_ok:Rp P (λ_ _=>none):=λ_ _ _ h=>by cases h
  have none_ok':TZ P (λ_ _ _=>none):=λ_ _ _ _ _ h=>by cases h
  unfold NA at h;split at h
  ·exact h.elim
  ·rename_i hw
   obtain⟨tl,T',H',hk,ha⟩:=Oc l _ _ K h;exact⟨_,T',H',hk,.skip hw ha⟩
  ·rename_i hw
   split at h
   ·rename_i r H1 ho
    obtain⟨tl,T',H',hk,ha⟩:=Oc l _ _ K h;refine⟨_,T',H',hk,.step hw ⟨λ_ _=>none,λ_ _ _=>none,none_ok,none_ok',?_⟩ ha⟩;unfold X4 at ho;simp only[Al3]at ho;unfold Ke;split at ho
    ·rename_i hbs
     split
     ·exact ho
     ·rename_i hne
      exfalso
      revert hbs
      unfold VQ
      split
      ·rename_i h1;exact λ_=>hne _ _ _ h1
      ·simp
    ·rename_i hbs
     split
     ·rename_i h1;rw[h1]at hbs;simp[VQ]at hbs
     ·have hnp:BB ql o.op=false:=by
       cases hpo:BB ql o.op with
       | false=>rfl
       | true=>
        exfalso
        obtain⟨dst,op,type,pos,after,guard⟩:=o;unfold BB at hpo;split at hpo
        ·rename_i hop;simp only at hop;subst hop;cases ho
        ·cases hpo
      rw[if_neg (by simp[hnp]),ho]
   ·obtain⟨r,H1,hc,h⟩:=h
    obtain⟨tl,T',H',hk,ha⟩:=Oc l _ _ K h;unfold N9 at hc;split at hc
    ·rename_i k args hcall
     obtain⟨hgo,hc⟩:=hc;obtain⟨n1,n2⟩:=Zd (P:=P) (dr:=true) (H:=H) hcall;simp only[Al3]at hc;split at hc
     ·rename_i hpo
      obtain⟨hp,rfl⟩:=hc
      classical
      refine⟨_,T',H',hk,.step hw ⟨λf a=>if f=k∧a=args then some r else none,λ_ _ _=>none,?_,none_ok',?_⟩ ha⟩
      ·intro f a r1 h1
       dsimp only at h1
       split at h1
       ·rename_i he
        injection h1 with h1;obtain⟨rfl,rfl⟩:=he;subst h1;exact⟨hgo,hp⟩
       ·cases h1
      ·unfold Ke
       split
       ·rename_i h1;rw[h1]at n2;cases n2
       ·rw[if_pos hpo,hcall]
        simp
     ·rename_i hpo
      classical
      refine⟨_,T',H',hk,.step hw ⟨λ_ _=>none,λf a H2=>if f=k∧a=args∧H2=H then some (r,H1)else none,none_ok,?_,?_⟩ ha⟩
      ·intro f a H2 r1 H3 h1
       dsimp only at h1
       split at h1
       ·rename_i he
        injection h1 with h1;injection h1 with h1 h2;obtain⟨rfl,rfl,rfl⟩:=he;subst h1;subst h2;exact hc
       ·cases h1
      ·unfold Ke
       split
       ·rename_i h1;rw[h1]at n2;cases n2
       ·rw[if_neg hpo,n1,hcall]
        simp[hgo]
    ·exact hc.elim
def UV (ql:FuncId→Bool)(ops:List Oper):Nat→Option Nat
 | 0=>none
 | m+1=>if J7 ql ops m then some m else UV ql ops m
theorem Wq {ql:FuncId→Bool}{ops:List Oper}{tr:List (AV×AH)}{H:AH}:∀m,hs ql ops tr H (λ_=>true) m=match UV ql ops m with
  | some c=>E6 tr c
  | none=>H
 | 0=>rfl
 | m+1=>by
  simp only[hs,UV,Al3]
  by_cases h:J7 ql ops m=true
  ·rw[if_pos h,if_pos h]
  ·rw[if_neg h,if_neg h];exact Wq m
def UJ (ql:FuncId→Bool)(ops:List Oper):List (Nat×Option Nat):=
 let b:=Eh ops []
 let stages:=none::((List.range ops.length).filter (J7 ql ops)).map some
 (List.range ops.length).flatMap λi=>match ops[i]? with
  | some o=>if GQ ql o.op&&!K4 o.op&&!BB ql o.op then(stages.filter λc=>NP ql ops b i c&&decide (c≠UV ql ops i)).map (i,·)else []
  | none=>[]
def FloatsOk (P:Program)(ops:Array Oper)(H:AH)(lg:List (List AV×AH×AV)):List (Nat×Option Nat)→Prop
 | []=>True
 | (i,c)::r=>(match ops[i]?,lg[i]? with
  | some o,some (Ti,_,v)=>B6 ops Ti o=some true→(CD P (Bu Ti) (match c with
   | some c=>((lg[c]?).map (·.2.1)).getD []
   | none=>H) o).map Prod.fst=some v
  | _,_=>False)∧FloatsOk P ops H lg r
theorem FloatsOk.mem {ops:Array Oper}{H:AH}{lg:List (List AV×AH×AV)}:∀{fl:List (Nat×Option Nat)},FloatsOk P ops H lg fl→∀{i:Nat} {c:Option Nat},(i,c)∈fl→∃o Ti h v,ops[i]?=some o∧lg[i]?=some (Ti,h,v)∧
  (B6 ops Ti o=some true→(CD P (Bu Ti) (match c with
   | some c=>((lg[c]?).map (·.2.1)).getD []
   | none=>H) o).map Prod.fst=some v)
 | (i,c)::r,h,j,d,hm=>by
  simp only[FloatsOk]at h;rcases Ad5.1 hm with he | hm
  ·injection he with h1 h2
   subst h1;subst h2;have h1:=h.1;split at h1
   ·rename_i o Ti hh v ho hl
    exact⟨o,Ti,hh,v,ho,hl,h1⟩
   ·exact h1.elim
  ·exact h.2.mem hm
def Js:List Oper→List (AV×AH)→List AV→List (List AV×AH×AV)
 | o::l,(r,h)::tr,T=>(T,h,r)::Js l tr (Dj T o.dst r)
 | _,_,_=>[]
theorem Wv {ops:List Oper}{tr:List (AV×AH)}{T:List AV}:∀(l:List Oper) (tl:List (AV×AH)) (k:Nat) (Tk:List AV),(∀(j:Nat) (o:Oper),l[j]?=some o→ops[k+j]?=some o)→(∀j,tl[j]?=tr[k+j]?)→
  pt ops (B1 tr) (λ_=>true) T k=Tk→∀(j:Nat) (x:List AV×AH×AV),(Js l tl Tk)[j]?=some x→x=(pt ops (B1 tr) (λ_=>true) T (k+j),E6 tr (k+j),B1 tr (k+j))
 | [],tl,k,Tk,hl,ht,hT,j,x,h=>by simp[Js]at h
 | o::l,[],k,Tk,hl,ht,hT,j,x,h=>by simp[Js]at h
 | o::l,(r,H')::tl,k,Tk,hl,ht,hT,j,x,h=>by
  simp only[Js]at h;have h0:=ht 0;simp only[Aa6]at h0;have hv:B1 tr k=r:=by unfold B1;rw[← h0];rfl
  have hh:E6 tr k=H':=by unfold E6;rw[← h0];rfl
  cases j with
  | zero=>simp only[CL]at h;injection h with h;rw[← h,Ah1,hT,hv,hh]
  | succ j=>
   have ho:ops[k]?=some o:=by simpa using hl 0 o rfl
   rw[show k+(j+1)=k+1+j by omega]
   refine Wv l tl (k+1) (Dj Tk o.dst r) (λj o' hj=>by
     rw[show k+1+j=k+(j+1) by omega];exact hl (j+1) o' (by simpa using hj)) (λj=>by
     have:=ht (j+1)
     rw[show k+1+j=k+(j+1) by omega,← this]
     simp) (by
     simp only[pt,if_true];rw[hT,hv];simp[Ip,ho]) j x (by simpa using h)
theorem fV {ql:FuncId→Bool}{ops:Array Oper}{l:List Oper}{T T':List AV}{H H':AH}{tl:List (AV×AH)}(h:TraceR P ql ops l T H tl T' H'):(Js l tl T).length=l.length:=by
 induction h with
 | nil=>rfl
 | skip hw hr ih=>simp only[Js,Ad7,ih]
 | step hw hs hr ih=>simp only[Js,Ad7,ih]
def Lq (P:Program)(ql:FuncId→Bool)(ops:Array Oper)(H0:AH)(fl:List (Nat×Option Nat)):List Oper→List AV→AH→List (List AV×AH×AV)→(List AV→AH→Prop)→Prop
 | [],T,H,lg,K=>FloatsOk P ops H0 lg.reverse fl∧K T H
 | o::l,T,H,lg,K=>match B6 ops T o with
  | none=>False
  | some false=>Lq P ql ops H0 fl l (Dj T o.dst AG) H ((T,H,AG)::lg) K
  | some true=>match X4 P true (Bu T) H o with
   | some (r,H')=>Lq P ql ops H0 fl l (Dj T o.dst r) H' ((T,H',r)::lg) K
   | none=>∃r H',N9 P ql true (Bu T) o H r H'∧Lq P ql ops H0 fl l (Dj T o.dst r) H' ((T,H',r)::lg) K
theorem Rk {ql:FuncId→Bool}{ops:Array Oper}{H0:AH}{fl:List (Nat×Option Nat)}:∀(l:List Oper) (T:List AV) (H:AH) (lg:List (List AV×AH×AV)) (K:List AV→AH→Prop),Lq P ql ops H0 fl l T H lg K→
  ∃tl T' H',K T' H'∧TraceR P ql ops l T H tl T' H'∧FloatsOk P ops H0 (lg.reverse++Js l tl T) fl
 | [],T,H,lg,K,h=>⟨[],T,H,h.2,.nil _ _,by simpa[Js]using h.1⟩
 | o::l,T,H,lg,K,h=>by
  unfold Lq at h;split at h
  ·exact h.elim
  ·rename_i hw
   obtain⟨tl,T',H',hk,ha,hf⟩:=Rk l _ _ _ K h;exact⟨_,T',H',hk,.skip hw ha,by simpa[Js]using hf⟩
  ·rename_i hw
   split at h
   ·rename_i r H1 ho
    obtain⟨tl,T',H',hk,ha,hf⟩:=Rk l _ _ _ K h;obtain⟨tl1,T1,H2,h1,h2⟩:=Oc (P:=P) (ql:=ql) (ops:=ops) [o] T H (λT' H'=>T'=Dj T o.dst r∧H'=H1) (by unfold NA;rw[hw];simp only[ho];unfold NA;exact⟨rfl,rfl⟩);cases h2 with
    | skip hw' _=>rw[hw]at hw';cases hw'
    | step hw' hs hr=>
     cases hr;obtain⟨e1,rfl⟩:=h1;rename_i r'
     have hr:r'=r:=by
      obtain⟨pu,cl,hp,hc,hst⟩:=hs;unfold X4 at ho;unfold Ke at hst;simp only[Al3]at ho;split at ho
      ·rename_i hbs
       split at hst
       ·rw[ho]at hst;injection hst with hst;injection hst with h1 _;exact h1.symm
       ·rename_i hne
        exfalso
        revert hbs
        unfold VQ
        split
        ·rename_i h1;exact λ_=>hne _ _ _ h1
        ·simp
      ·rename_i hbs
       split at hst
       ·rename_i h1;rw[h1]at hbs;simp[VQ]at hbs
       ·have hnp:BB ql o.op=false:=by
         cases hpo:BB ql o.op with
         | false=>rfl
         | true=>
          exfalso
          obtain⟨dst,op,type,pos,after,guard⟩:=o;unfold BB at hpo;split at hpo
          ·rename_i hop;simp only at hop;subst hop;cases ho
          ·cases hpo
        rw[if_neg (by simp[hnp]),ho]at hst;injection hst with hst;injection hst with h1 _;exact h1.symm
     subst hr;exact⟨_,T',H',hk,.step hw hs ha,by simpa[Js]using hf⟩
   ·rename_i ho
    obtain⟨r,H1,hc,h⟩:=h;obtain⟨tl,T',H',hk,ha,hf⟩:=Rk l _ _ _ K h
    have hstep:∃pure call,Rp P pure∧TZ P call∧Ke P ql pure call T H o=some (r,H1):=by
     have none_ok:Rp P (λ_ _=>none):=λ_ _ _ h=>by cases h
     have none_ok':TZ P (λ_ _ _=>none):=λ_ _ _ _ _ h=>by cases h
     unfold N9 at hc;split at hc
     ·rename_i k args hcall
      obtain⟨hgo,hc⟩:=hc;obtain⟨n1,n2⟩:=Zd (P:=P) (dr:=true) (H:=H) hcall;simp only[Al3]at hc;split at hc
      ·rename_i hpo
       obtain⟨hp,rfl⟩:=hc
       classical
       refine⟨λf a=>if f=k∧a=args then some r else none,λ_ _ _=>none,?_,none_ok',?_⟩
       ·intro f a r1 h1
        dsimp only at h1
        split at h1
        ·rename_i he
         injection h1 with h1;obtain⟨rfl,rfl⟩:=he;subst h1;exact⟨hgo,hp⟩
        ·cases h1
       ·unfold Ke
        split
        ·rename_i h1;rw[h1]at n2;cases n2
        ·rw[if_pos hpo,hcall]
         simp
      ·rename_i hpo
       classical
       refine⟨λ_ _=>none,λf a H2=>if f=k∧a=args∧H2=H then some (r,H1)else none,none_ok,?_,?_⟩
       ·intro f a H2 r1 H3 h1
        dsimp only at h1
        split at h1
        ·rename_i he
         injection h1 with h1;injection h1 with h1 h2;obtain⟨rfl,rfl,rfl⟩:=he;subst h1;subst h2;exact hc
        ·cases h1
       ·unfold Ke
        split
        ·rename_i h1;rw[h1]at n2;cases n2
        ·rw[if_neg hpo,n1,hcall]
         simp[hgo]
     ·exact hc.elim
    exact⟨_,T',H',hk,.step hw hstep ha,by simpa[Js]using hf⟩
def BCode (P:Program)(c:Code)(T:List AV)(H:AH)(e:Exit)(T':List AV)(H':AH):Prop:=ACode P c (AQ.is (e,T',H')) T H
abbrev Ak3:=@List.mem_filter
theorem BCode.draw (ql:FuncId→Bool){id:Nat}{ops:List Oper}{T:List AV}{H:AH}{fl:List (Nat×Option Nat)}{K:List AV→AH→Prop}(hm:P.follows .mixedOrders=true)(hs:(KX ops&&Qc ql ops&&decide (UJ ql ops=fl))=true)(h:Lq P ql ops.toArray H fl ops T H [] K):
  ∃T' H',K T' H'∧BCode P (.region id ops.toArray true) T H .normal T' H':=by
 simp only[Ae0,decide_eq_true_eq]at hs;obtain⟨⟨hs1,hs2⟩,rfl⟩:=hs;obtain⟨tl,T',H',hk,ha,hf⟩:=Rk _ _ _ _ _ h;have hlen:=fV ha;obtain⟨e1,e2,e3⟩:=Zy (ops:=ops) (T:=T) (H:=H) (tr:=tl) ops tl 0 T H T' H' (λj o hj=>by simpa using hj) (λj=>by simp) rfl rfl ha;simp only[Aj4]at e1 e2 e3;refine⟨T',H',hk,fI hm hs1 hs2 (λi o hi=>e3 i o hi) ?_ (by rw[e1,e2];rfl)⟩;intro i o ho hq hb hp hw c hcc hmm;have hil:=(BD.1 ho).1;have lget:=Wv (ops:=ops) (tr:=tl) (T:=T) ops tl 0 T (λj o hj=>by simpa using hj) (λj=>by simp) rfl;simp only[Aj4]at lget;simp only[List.reverse_nil,Ai1]at hf
 by_cases hl:c=UV ql ops i
 ·obtain⟨b,hw',-,h1⟩:=e3 i o ho
  rw[hw]at hw';injection hw' with hw';obtain⟨pu,cl,hpu,hcl,hst⟩:=h1 hw'.symm;rw[Wq]at hst
  have:=hl
  subst this;obtain⟨_,hz | ⟨hpo,_⟩ | ⟨hz,_,_⟩⟩:=Kg hpu hq hst
  ·exfalso
   obtain⟨dst,op,type,pos,after,guard⟩:=o;unfold Fc at hz;split at hz
   ·rename_i hop;simp only at hop;subst hop;simp[K4]at hb
   ·cases hz
  ·rw[hp]at hpo;cases hpo
  ·exact⟨_,hz⟩
 ·have hmem:(i,c)∈UJ ql ops:=by
   unfold UJ;simp only;refine List.mem_flatMap.2 ⟨i,Aj9.2 hil,?_⟩;rw[ho];simp only[hq,hb,hp,Ab2,Bool.and_self];refine Ae6.2 ⟨c,Ak3.2 ⟨?_,by simp[hmm,hl]⟩,rfl⟩;rcases hcc with rfl | ⟨d,rfl,hd,hcd⟩
   ·simp
   ·simp[Ak3,hd,hcd]
  obtain⟨o',Ti,hh,v,ho',hlg,hval⟩:=hf.mem hmem
  have hoo:o'=o:=by
   have:ops.toArray[i]?=some o:=by simpa using ho
   rw[this]at ho';injection ho' with h;exact h.symm
  subst hoo
  have:=lget i _ hlg
  simp only[Ag0]at this;obtain⟨rfl,-,rfl⟩:=this;have hv:=hval hw;obtain⟨⟨r2,H2⟩,h2,h3⟩:=Option.map_eq_some_iff.1 hv;simp only at h3;subst h3;cases c with
  | none=>exact⟨H2,h2⟩
  | some d=>
   rcases hcc with h | ⟨d',hd',hdl,-⟩
   ·cases h
   ·injection hd' with hd'
    subst hd';have hld:d<(Js ops tl T).length:=by rw[hlen];exact hdl
    have hg:=lget d _ (DR hld)
    have:(((Js ops tl T)[d]?).map (·.2.1)).getD []=E6 tl d:=by
     rw[DR hld,hg];rfl
    simp only[this]at h2;exact⟨H2,h2⟩
end
end
section
section
variable {P : Program}
def BRounds (P:Program)(b:Code)(e:Exit)(T':List AV)(H':AH):Nat→List AV→AH→Prop
 | 0,_,_=>False
 | n+1,T,H=>(∃T1 H1,BCode P b T H .normal T1 H1∧BRounds P b e T' H' n T1 H1)∨(e≠.normal∧BCode P b T H e T' H')
theorem BRounds.code {b:Code}{e:Exit}{T':List AV}{H':AH}{n:Nat}{T:List AV}{H:AH}(h:BRounds P b e T' H' n T H):BCode P (.loop b) T H e T' H':=by
 intro G0 G a ρ hE hF hd hH;refine wpIn_loop_rounds n ?_
 induction n generalizing T H G a with
 | zero=>exact h.elim
 | succ n ih=>
  rw[roundsIn_succ];rcases h with⟨T1,H1,hb,hr⟩ | ⟨hne,hb⟩
  ·refine Code.wpIn_mono ?_ (hb G0 G a ρ hE hF hd hH)
   rintro e' a' w' ⟨T2,H2,G',rfl,hE',hF',hd',hH',hq⟩;simp only[AQ.is,Ag0]at hq;obtain⟨rfl,rfl,rfl⟩:=hq;exact ih hr G' a' hE' hF' hd' hH'
  ·refine Code.wpIn_mono ?_ (hb G0 G a ρ hE hF hd hH)
   rintro e' a' w' ⟨T2,H2,G',rfl,hE',hF',hd',hH',hq⟩;have hq':=hq;simp only[AQ.is,Ag0]at hq';obtain⟨rfl,rfl,rfl⟩:=hq';cases e' with
   | normal=>exact absurd rfl hne
   | _=>exact⟨_,_,G',rfl,hE',hF',hd',hH',hq⟩
def uZ (P:Program)(b:Code)(T:List AV)(H:AH)(K:Exit→List AV→AH→Prop):Prop:=∃e T' H' n,K e T' H'∧BRounds P b e T' H' n T H
abbrev C1:=Nat→List (Nat×Option Nat)
def E5 (fl:C1)(ql:FuncId→Bool):Code→Bool
 | .region id ops true=>KX ops.toList&&Qc ql ops.toList&&decide (UJ ql ops.toList=fl id)
 | .seq a b=>E5 fl ql a&&E5 fl ql b
 | .cond _ a b=>E5 fl ql a&&E5 fl ql b
 | .block _ b=>E5 fl ql b
 | .loop b=>E5 fl ql b
 | _=>true
def Pd (P:Program)(fl:C1)(ql:FuncId→Bool):Code→List AV→AH→(Exit→List AV→AH→Prop)→Prop
 | .skip,T,H,K=>K .normal T H
 | .label _,T,H,K=>K .normal T H
 | .ret,T,H,K=>K .ret T H
 | .exit id,T,H,K=>K (.exit id) T H
 | .region _ ops false,T,H,K=>NA P ql false ops ops.toList T H (K .normal)
 | .region id ops true,T,H,K=>match fl id with
  | []=>NA P ql true ops ops.toList T H (K .normal)
  | f=>Lq P ql ops H f ops.toList T H [] (K .normal)
 | .seq a b,T,H,K=>Pd P fl ql a T H λe T' H'=>match e with
  | .normal=>Pd P fl ql b T' H' K
  | e=>K e T' H'
 | .cond c a b,T,H,K=>match Bu T c with
  | .lit (.bool t)=>if t then Pd P fl ql a T H K else Pd P fl ql b T H K
  | _=>False
 | .block id b,T,H,K=>Pd P fl ql b T H λe T' H'=>match e with
  | .exit j=>if j=id then K .normal T' H' else K (.exit j) T' H'
  | e=>K e T' H'
 | .loop b,T,H,K=>uZ P b T H K
 | _,_,_,_=>False
theorem Rl {ql:FuncId→Bool}{ops:Array Oper}{H0:AH}:∀(l:List Oper) (T:List AV) (H:AH) (lg:List (List AV×AH×AV)) (K:List AV→AH→Prop),NA P ql true ops l T H K→Lq P ql ops H0 [] l T H lg K
 | [],T,H,lg,K,h=>⟨trivial,h⟩
 | o::l,T,H,lg,K,h=>by
  unfold NA at h;unfold Lq;split at h
  ·exact h.elim
  ·exact Rl l _ _ _ K h
  ·split at h
   ·exact Rl l _ _ _ K h
   ·obtain⟨r,H1,hc,h⟩:=h
    exact⟨r,H1,hc,Rl l _ _ _ K h⟩
theorem J6 {fl:C1}{ql:FuncId→Bool}(hm:P.follows .mixedOrders=true):∀(c:Code) (T:List AV) (H:AH) (K:Exit→List AV→AH→Prop),E5 fl ql c=true→Pd P fl ql c T H K→∃e T' H',K e T' H'∧BCode P c T H e T' H'
 | .skip,T,H,K,_,h=>⟨_,_,_,h,ACode.skip rfl⟩
 | .label _,T,H,K,_,h=>⟨_,_,_,h,ACode.label rfl⟩
 | .ret,T,H,K,_,h=>⟨_,_,_,h,ACode.ret rfl⟩
 | .exit id,T,H,K,_,h=>⟨_,_,_,h,ACode.exit rfl⟩
 | .region id ops false,T,H,K,_,h=>by
  obtain⟨T',H',hk,ha⟩:=LH _ _ _ _ h;exact⟨_,T',H',hk,ACode.region ha⟩
 | .region id ops true,T,H,K,hc,h=>by
  obtain⟨T',H',hk,ha⟩:=BCode.draw (P:=P) ql (id:=id) (ops:=ops.toList) (fl:=fl id) hm (by simpa only[E5]using hc) (by
   simp only[Pd]at h;split at h
   ·rename_i hfl;rw[hfl];exact Rl _ _ _ _ _ h
   ·exact h)
  exact⟨_,T',H',hk,by simpa using ha⟩
 | .seq a b,T,H,K,hc,h=>by
  simp only[E5,Ae0]at hc;obtain⟨e,T1,H1,hk,ha⟩:=J6 hm a T H _ hc.1 h;cases e with
  | normal=>
   obtain⟨e,T2,H2,hk,hb⟩:=J6 hm b T1 H1 K hc.2 hk;refine⟨e,T2,H2,hk,ACode.seq (ha.mono ?_)⟩;rintro e' T3 H3 hq;simp only[AQ.is,Ag0]at hq;obtain⟨rfl,rfl,rfl⟩:=hq;exact hb
  | _=>
   refine⟨_,T1,H1,hk,ACode.seq (ha.mono ?_)⟩;rintro e' T3 H3 hq;have hq':=hq;simp only[AQ.is,Ag0]at hq';obtain⟨rfl,rfl,rfl⟩:=hq';exact hq
 | .cond c a b,T,H,K,hc,h=>by
  simp only[E5,Ae0]at hc;unfold Pd at h;split at h
  ·rename_i t ht
   split at h
   ·rename_i htt
    obtain⟨e,T1,H1,hk,ha⟩:=J6 hm a T H K hc.1 h;refine⟨e,T1,H1,hk,ACode.cond ht ?_⟩;rw[if_pos htt];exact ha
   ·rename_i htt
    obtain⟨e,T1,H1,hk,ha⟩:=J6 hm b T H K hc.2 h;refine⟨e,T1,H1,hk,ACode.cond ht ?_⟩;rw[if_neg htt];exact ha
  ·exact h.elim
 | .block id b,T,H,K,hc,h=>by
  simp only[E5]at hc;obtain⟨e,T1,H1,hk,ha⟩:=J6 hm b T H _ hc h;cases e with
  | exit j=>
   simp only at hk;split at hk
   ·rename_i hj
    refine⟨_,T1,H1,hk,ACode.block (ha.mono ?_)⟩;rintro e' T3 H3 hq;simp only[AQ.is,Ag0]at hq;obtain⟨rfl,rfl,rfl⟩:=hq;simp only[AQ.inBlock,if_pos hj];rfl
   ·rename_i hj
    refine⟨_,T1,H1,hk,ACode.block (ha.mono ?_)⟩;rintro e' T3 H3 hq;simp only[AQ.is,Ag0]at hq;obtain⟨rfl,rfl,rfl⟩:=hq;simp only[AQ.inBlock,if_neg hj];rfl
  | _=>
   refine⟨_,T1,H1,hk,ACode.block (ha.mono ?_)⟩;rintro e' T3 H3 hq;simp only[AQ.is,Ag0]at hq;obtain⟨rfl,rfl,rfl⟩:=hq;rfl
 | .loop b,T,H,K,hc,h=>by
  obtain⟨e,T',H',n,hk,hr⟩:=h;exact⟨e,T',H',hk,hr.code⟩
 | .rangeFunc ..,_,_,_,_,h=>h.elim
 | .scope _,_,_,_,_,h=>h.elim
 | .goto _,_,_,_,_,h=>h.elim
 | .refuse _,_,_,_,_,h=>h.elim
def pY (P:Program)(res:List ResultVar)(K:AV→AH→Prop)(e:Exit)(T:List AV)(H:AH):Prop:=
 YL e=true∧match Ry P H T res with
  | some xs=>K (W0 xs) H
  | none=>False
end
end
section
def bO (x:Option AV)(K:AV→Prop):Prop:=match x with
 | some v=>K v
 | none=>False
def bH (x:Option (AV×AH))(K:AV→AH→Prop):Prop:=match x with
 | some (v,H)=>K v H
 | none=>False
def bS (x:Option AH)(K:AH→Prop):Prop:=match x with
 | some H=>K H
 | none=>False
def bB (v:AV)(K:Bool→Prop):Prop:=match v with
 | .lit (.bool b)=>K b
 | _=>False
def bI (b:Bool)(A B:Prop):Prop:=match b with
 | true=>A
 | false=>B
def bC (R:AV→AH→Prop)(K:AV→AH→Prop):Prop:=∃r H',R r H'∧K r H'
def bP (R:AV→Prop)(K:AV→Prop):Prop:=∃r,R r∧K r
def bF (w:Bool)(f:AV)(K:FuncId→List AV→List AV→Prop):Prop:=match f with
 | .fn (.func k) a b=>K k a b
 | _=>match w with
  | true=>False
  | false=>K 0 [] []
def bG (v:AV)(want:Bool)(K:Bool→Prop):Prop:=match v with
 | .lit (.bool b)=>K (b==want)
 | .lit _=>K false
 | _=>False
def gO (w:Bool)(x:Option AV)(K:AV→Prop):Prop:=match w with
 | true=>bO x K
 | false=>K AG
def gH (w:Bool)(x:Option (AV×AH))(H:AH)(K:AV→AH→Prop):Prop:=match w with
 | true=>bH x K
 | false=>K AG H
def gS (w:Bool)(x:Option AH)(H:AH)(K:AH→Prop):Prop:=match w with
 | true=>bS x K
 | false=>K H
def gC (w:Bool)(R:AV→AH→Prop)(H:AH)(K:AV→AH→Prop):Prop:=match w with
 | true=>bC R K
 | false=>K AG H
def gP (w:Bool)(R:AV→Prop)(K:AV→Prop):Prop:=match w with
 | true=>bP R K
 | false=>K AG
def bA (C:(AV→AH→Prop)→Prop)(K:AV→AH→Prop):Prop:=∃R,C R∧∀r H',R r H'→K r H'
def gA (w:Bool)(C:(AV→AH→Prop)→Prop)(H:AH)(K:AV→AH→Prop):Prop:=match w with
 | true=>bA C K
 | false=>K AG H
def ExtR (P:Program)(k:FuncId)(args:List AV)(H:AH)(r:AV):Prop:=∀(G:Cfg) (vs:List Value),HR G H→VRs G args vs→∃u,(callFunc k vs.toArray).run P G.w=.ok (.value u) G.w∧VR G r u
def Aq:Nat→Bool:=λ_=>false
def bT (b:Bool)(A:Prop):Prop:=match b with
 | true=>A
 | false=>False
def A8 (c a b:AV):Option AV:=match c with
 | .lit (.bool t)=>some (if t then a else b)
 | _=>none
def OK (cells:List AV):List (Nat×Nat×AV)→Option (List AV)
 | []=>some cells
 | (off,size,v)::rest=>match BH v with
  | some xs=>if xs.length=size∧off+size≤cells.length then OK (AR cells off xs) rest else none
  | none=>none
def Sr (place:Nat→Option (Nat×Nat))(ρ:Operand→AV):List (Nat×Operand)→Option (List (Nat×Nat×AV))
 | []=>some []
 | (i,x)::r=>match place i,Sr place ρ r with
  | some (o,s),some l=>some ((o,s,ρ x)::l)
  | _,_=>none
theorem NY {place:Nat→Option (Nat×Nat)}{ρ:Operand→AV}:∀(ps:List (Nat×Operand)) (l:List (Nat×Nat×AV)) (cells:List AV),Sr place ρ ps=some l→IT place cells (ps.map λp=>(p.1,ρ p.2))=OK cells l
 | [],l,cells,h=>by simp only[Sr]at h;injection h with h;subst h;rfl
 | (i,x)::r,l,cells,h=>by
  simp only[Sr]at h;split at h
  ·rename_i o s l' h1 h2
   injection h with h;subst h;simp only[Aj7,IT,OK,h1];cases hc:BH (ρ x)with
   | none=>rfl
   | some xs=>
    simp only
    split
    ·exact NY r l' _ h2
    ·rfl
  ·cases h
def FK (zc:List AV)(l:List (Nat×Nat×AV)):Option AV:=(OK zc l).map .agg
def ZL (P:Program)(t:TypeId):Option (List AV×(Nat→Option (Nat×Nat))):=
 match Pc P t,P.underlying t with
 | some z,some (.struct fields)=>match fields.toList.all λf=>(BW P f.type).isSome with
  | true=>some (z.cells.toList.map .lit,λi=>(fields[i]?).bind λf=>(BW P f.type).map λn=>(f.offset,n))
  | false=>none
 | some z,some (.array _ e)=>match BW P e with
  | some sz=>some (z.cells.toList.map .lit,λi=>some (i*sz,sz))
  | none=>none
 | _,_=>none
theorem eU {P:Program}{t:TypeId}{zc:List AV}{pl:Nat→Option (Nat×Nat)}(h:ZL P t=some (zc,pl))(parts:List (Nat×AV)):Ub P t parts=(IT pl zc parts).map .agg:=by
 unfold ZL at h;unfold Ub;split at h
 ·rename_i z fields hz hu
  rw[hz,hu];simp only;split at h
  ·rename_i ha
   injection h with h;injection h with h1 h2;subst h1;subst h2;rw[if_pos ha]
  ·cases h
 ·rename_i z n e hz hu
  rw[hz,hu];simp only;split at h
  ·rename_i sz hs
   injection h with h;injection h with h1 h2;subst h1;subst h2;rw[hs]
  ·cases h
 ·cases h
def Uy (P:Program)(t:TypeId):Option (Nat×Nat×List AV):=
 match P.underlying t with
 | some (.slice e)=>match P.info? e with
  | some i=>match i.zero with
   | some z=>match !(Nat.beq i.size 0)&& !(Nat.beq i.bytes 0)&&Nat.beq z.cells.size i.size&&M4 z with
    | true=>some (i.size,i.bytes,z.cells.toList.map .lit)
    | false=>none
   | none=>none
  | none=>none
 | _=>none
theorem MP {P:Program}{t:TypeId}{sz by':Nat}{zc:List AV}(h:Uy P t=some (sz,by',zc)):
  ∃e i z,P.underlying t=some (.slice e)∧P.info? e=some i∧i.zero=some z∧i.size=sz∧i.bytes=by'∧z.cells.toList.map .lit=zc∧sz≠0∧by'≠0∧z.cells.size=sz∧M4 z=true:=by
 unfold Uy at h;split at h
 ·rename_i e hu
  split at h
  ·rename_i i hi
   split at h
   ·rename_i z hz
    split at h
    ·rename_i hb
     injection h with h;injection h with h1 h2;injection h2 with h2 h3;simp only[zQ]at hb;obtain⟨⟨⟨b1,b2⟩,b3⟩,b4⟩:=hb;have b3:=Ai4 b3;refine⟨e,i,z,hu,hi,hz,h1,h2,h3,?_,?_,by rw[← h1];exact b3,b4⟩
     ·rw[← h1];exact λh0=>by rw[h0]at b1;cases b1
     ·rw[← h2];exact λh0=>by rw[h0]at b2;cases b2
    ·cases h
   ·cases h
  ·cases h
 ·cases h
def Cr (H:AH)(size len:Nat)(cells:List AV)(l:List (Nat×Nat×AV)):Option (AV×AH):=(OK cells l).map λcs=>(.sl H.length 0 len size (.ex len),H++[some (.cells cs)])
def Tq (size len:Nat)(cells:List AV)(l:List (Nat×Nat×AV)):Option AV:=(OK cells l).map λcs=>.imm cs len size
def Au (g:Bool)(n:Nat)(H:AH)(a:AV):Option AV:=match a with
 | .ptr o off=>match H[o]? with
  | some (some (.cells cs))=>Ao g n cs off
  | _=>none
 | .ip cs=>Ao g n cs 0
 | _=>none
def AT (n:Nat)(H:AH)(a x:AV):Option AH:=match BH x,a with
 | some xs,.ptr o off=>match H[o]? with
  | some (some (.cells cs))=>if xs.length=n∧off+n≤cs.length then some (H.set o (some (.cells (AR cs off xs))))else none
  | _=>none
 | _,_=>none
def Ap (op:BinOp)(x y:AV):Option AV:=match x,y with
 | .lit (.int k a),.lit (.int k' b)=>match op with
  | .shl | .shr=>(MA op k a b).map .lit
  | _=>if k=k' then(GK op k a b).map .lit else none
 | _,_=>none
def Rq (op:BinOp)(x y:AV):Option AV:=match x,y with
 | .lit (.string a),.lit (.string b)=>(Ul op a b).map .lit
 | _,_=>none
def xN (op:BinOp)(e:Option Bool):Option AV:=match op with
 | .eql=>e.map λb=>.lit (.bool b)
 | .neq=>e.map λb=>.lit (.bool !b)
 | _=>none
def rG (op:BinOp)(x y:AV):Option AV:=match x,y with
 | .lit (.bool a),.lit (.bool b)=>xN op (some (a==b))
 | _,_=>none
def V5 (op:BinOp)(f:AV→Option Bool)(x y:AV):Option AV:=match x,y with
 | .agg _,.agg _=>none
 | .lit .nilIface,_ | _,.lit .nilIface=>none
 | x,y=>xN op (GL (f x) (f y))
inductive CK where
 | int (k:IntKind)
 | str
 | ofB
 | toB
 | same
def cH (P:Program)(s d:TypeId):Option CK:=
 match P.underlying d,P.underlying s with
 | some (.int k),some _=>some (.int k)
 | some .string,some .string=>some .str
 | some .string,some (.slice e)=>match P.underlying e with
  | some (.int .u8)=>some .ofB
  | _=>none
 | some (.slice e),some .string=>match P.underlying e with
  | some (.int .u8)=>some .toB
  | _=>none
 | some (.slice e),some (.slice _)=>match Nat.beq s d,P.underlying e with
  | true,some (.int .u8)=>some .same
  | _,_=>none
 | _,_=>none
def Ts (k:IntKind)(x:AV):Option AV:=match x with
 | .lit (.int _ n)=>some (.lit (.int k (k.wrap n)))
 | _=>none
def acS (x:AV):Option AV:=match x with
 | .lit (.string s)=>some (.lit (.string s))
 | _=>none
def nB (H:AH)(x:AV):Option AV:=match x with
 | .lit (.string _)=>none
 | x=>match Aa H 1 x with
  | some (cs,_)=>(MB cs).map λns=>.lit (.string (QS ns))
  | none=>none
def acT (x:AV):Option AV:=match x with
 | .lit (.string s)=>some (.imm (s.data.toList.map λb=>.lit (.int .u8 b.toNat)) s.size 1)
 | _=>none
def qC (sz bytes:Nat)(zc:List AV)(H:AH)(l c:AV):Option (AV×AH):=match l,c with
 | .lit (.int _ n),.lit (.int _ m)=>if 0≤n∧n≤m∧(bytes:Int)*m≤281474976710656∧m≤9223372036854775807 then
   some (.sl H.length 0 n.toNat sz (.ex m.toNat),H++[some (.cells (Be zc m.toNat))])else none
 | _,_=>none
def RD (x:AV)(lo hi:Option AV):Option AV:=match x with
 | .lit (.string s)=>match Bs lo 0,Bs hi s.size with
  | some l,some h=>if l≤h∧h≤s.size then some (.lit (.string (s.extract l h)))else none
  | _,_=>none
 | _=>none
def AX (sz:Nat)(x:AV)(lo hi mx:Option AV):Option AV:=match x with
 | .sl o off len esz cap=>if sz≠esz then none else
   match Bs lo 0,Bs hi len,mx with
   | some l,some h,none=>if l≤h∧h≤max len cap.least then some (.sl o (off+l*esz) (h - l) esz (cap.cut len l))else none
   | some l,some h,some m=>match Bs (some m) 0 with
    | some m=>if l≤h∧h≤m∧m≤max len cap.least∧hi.isSome then some (.sl o (off+l*esz) (h - l) esz (.ex (m - l)))else none
    | none=>none
   | _,_,_=>none
 | .imm cs len esz=>match Bs lo 0,Bs hi len,mx with
   | some l,some h,none=>if l≤h∧h≤len then some (.imm ((cs.drop (l*sz)).take ((h - l)*sz)) (h - l) esz)else none
   | some l,some h,some m=>match Bs (some m) 0 with
    | some m=>if l≤h∧h≤m∧m≤len∧hi.isSome then some (if m=l then .emp else .imm ((cs.drop (l*sz)).take ((h - l)*sz)) (h - l) esz)else none
    | none=>none
   | _,_,_=>none
 | .emp=>match Bs lo 0,Bs hi 0,mx with
   | some 0,some 0,none=>some .emp
   | _,_,_=>none
 | .lit (.slice none 0 0)=>match Bs lo 0,Bs hi 0,mx with
   | some 0,some 0,none=>some (.lit (.slice none 0 0))
   | _,_,_=>none
 | _=>none
def Lx (n sz:Nat)(H:AH)(x:AV)(lo hi:Option AV):Option AV:=match Bs lo 0,Bs hi n,x with
 | some l,some h,.ptr o off=>match H[o]? with
  | some (some (.cells cs))=>if l≤h∧h≤n∧off+n*sz≤cs.length then some (.sl o (off+l*sz) (h - l) sz (.ex (n - l)))else none
  | _=>none
 | some l,some h,.ip cs=>if l≤h∧h≤n then some (.imm ((cs.drop (l*sz)).take ((h - l)*sz)) (h - l) sz)else none
 | _,_,_=>none
def Yf (g:Bool)(n off:Nat)(x:AV):Option AV:=match x with
 | .agg cs=>Ao g n cs off
 | _=>none
def ZS (P:Program)(s:TypeId)(f:Nat):Option (Bool×Nat×Nat):=
 match P.underlying s with
 | some (.struct fields)=>match fields[f]? with
  | some fl=>match TI P fl.type,BW P fl.type with
   | some g,some n=>some (g,n,fl.offset)
   | _,_=>none
  | none=>none
 | _=>none
def Bj (sz:Nat)(x i:AV):Option AV:=match J8 i with
 | none=>none
 | some n=>match x with
  | .sl o off len _ _=>if 0≤n∧n<len then some (.ptr o (off+n.toNat*sz))else none
  | .imm cs len _=>if 0≤n∧n<len then some (.ip (cs.drop (n.toNat*sz)))else none
  | _=>none
def PK (len sz:Nat)(x i:AV):Option AV:=match J8 i with
 | none=>none
 | some n=>if 0≤n∧n<len then Ac (n.toNat*sz) x else none
def iZ (g:Bool)(n' len sz:Nat)(x i:AV):Option AV:=match J8 i with
 | none=>none
 | some n=>if 0≤n∧n<len then Yf g n' (n.toNat*sz) x else none
def Tu (x i:AV):Option AV:=match J8 i with
 | none=>none
 | some n=>match x with
  | .lit (.string s)=>if 0≤n then(s[n.toNat]?).map λb=>.lit (.int .u8 b.toNat)else none
  | _=>none
def aC (P:Program)(t:TypeId):Option (TypeDesc×Value):=
 match P.underlying t with
 | some (.map key elem)=>match P.underlying key,Pc P elem with
  | some d,some z=>some (d,z)
  | _,_=>none
 | _=>none
theorem QG {P:Program}{t:TypeId}{d:TypeDesc}{z:Value}(h:aC P t=some (d,z)):∃key elem,P.underlying t=some (.map key elem)∧P.underlying key=some d∧Pc P elem=some z:=by
 unfold aC at h;split at h
 ·rename_i key elem hu
  split at h
  ·rename_i d' z' h1 h2
   injection h with h;injection h with e1 e2;subst e1;subst e2;exact⟨key,elem,hu,h1,h2⟩
  ·cases h
 ·cases h
def rP (H:AH)(l:Option AV):Option (AV×AH):=match l with
 | none=>some (.mp H.length,H++[some (.map [])])
 | some (.lit (.int _ _))=>some (.mp H.length,H++[some (.map [])])
 | _=>none
def nD (d:TypeDesc)(z:Value)(H:AH)(x k:AV)(co:Bool):Option AV:=match Qk H x,k with
 | some es,.lit kv=>if VS d kv then match KK d kv es 0 with
   | some (some (_,a))=>some (if co then .tup [a,.lit (.bool true)]else a)
   | some none=>some (if co then .tup [.ofV z,.lit (.bool false)]else .ofV z)
   | none=>none
  else none
 | _,_=>none
def uK (d:TypeDesc)(H:AH)(m k x:AV):Option AH:=match m,k with
 | .mp o,.lit kv=>match H[o]? with
  | some (some (.map es))=>if VS d kv then match KK d kv es 0 with
    | some (some (j,_))=>some (H.set o (some (.map (es.set j (kv,x)))))
    | some none=>some (H.set o (some (.map (es++[(kv,x)]))))
    | none=>none
   else none
  | _=>none
 | _,_=>none
def ame (d:TypeDesc)(z:Value)(H:AH)(m k:AV):Option (AV×AH):=match m,k with
 | .mp o,.lit kv=>match H[o]? with
  | some (some (.map es))=>if VS d kv then match KK d kv es 0 with
    | some (some (j,a))=>some (.tup [a,.lit (goInt j)],H)
    | some none=>some (.tup [.ofV z,.lit (goInt es.length)],H.set o (some (.map (es++[(kv,.ofV z)]))))
    | none=>none
   else none
  | _=>none
 | _,_=>none
inductive LK where
 | str
 | sl
 | arr (n:Nat)
 | mp
def fU (P:Program)(t:TypeId):Option LK:=
 match P.underlying t with
 | some .string=>some .str
 | some (.slice _)=>some .sl
 | some (.array n _)=>some (.arr n)
 | some (.map _ _)=>some .mp
 | _=>none
def Gh (x:AV):Option AV:=match x with
 | .lit (.string s)=>some (.lit (.int .i64 s.size))
 | _=>none
def Ba (x:AV):Option AV:=match x with
 | .sl _ _ len _ _=>some (.lit (.int .i64 len))
 | .imm _ len _=>some (.lit (.int .i64 len))
 | .lit (.slice none n _)=>some (.lit (.int .i64 n))
 | .emp=>some (.lit (.int .i64 0))
 | _=>none
def ZD (H:AH)(x:AV):Option AV:=match x with
 | .lit (.map none)=>some (.lit (.int .i64 0))
 | .mp o=>match H[o]? with
  | some (some (.map es))=>some (.lit (goInt es.length))
  | _=>none
 | _=>none
def V6 (x:AV):Option AV:=match x with
 | .sl _ _ _ _ (.ex k)=>some (.lit (goInt k))
 | .lit (.slice none _ c)=>some (.lit (goInt c))
 | .emp=>some (.lit (goInt 0))
 | _=>none
def Mm (size bytes:Nat)(H:AH)(s x:AV):Option (AV×AH):=match Bf H size x with
 | none=>none
 | some (news,n)=>LI H size bytes s news n
def nC (zc:List AV)(H:AH)(x:AV):Option AH:=match x with
 | .lit (.slice none _ _)=>some H
 | .sl o off len esz _=>match H[o]? with
  | some (some (.cells cs))=>if zc.length=esz∧esz≠0∧off+len*esz≤cs.length then some (if len=0 then H else H.set o (some (.cells (AR cs off (Be zc len)))))else none
  | _=>none
 | _=>none
inductive SK where
 | str
 | sl (sz:Nat)
 | arr (n sz:Nat)
def Vr (P:Program)(t:TypeId):Option SK:=
 match P.underlying t with
 | some .string=>some .str
 | some (.slice e)=>(BW P e).map .sl
 | some (.array n e)=>(BW P e).map (.arr n)
 | _=>none
inductive IK where
 | sl (sz:Nat)
 | arr (n sz:Nat)
def ZY (P:Program)(t:TypeId):Option IK:=
 match P.underlying t with
 | some (.slice e)=>(BW P e).map .sl
 | some (.array n e)=>(BW P e).map (.arr n)
 | _=>none
inductive VK where
 | str
 | arr (g:Bool) (n len sz:Nat)
def yJ (P:Program)(t:TypeId):Option VK:=
 match P.underlying t with
 | some .string=>some .str
 | some (.array len e)=>match TI P e,BW P e with
  | some g,some n=>some (.arr g n len n)
  | _,_=>none
 | _=>none
mutual
def JU:AV→Bool
 | .lit _=>true
 | .agg cs=>UI cs
 | .tup cs=>UI cs
 | .emp=>true
 | _=>false
def UI:List AV→Bool
 | []=>true
 | a::r=>JU a&&UI r
end
mutual
theorem YI {G G':Cfg}:∀{a:AV} {v:Value},JU a=true→VR G a v→VR G' a v
 | .lit _,_,_,hv=>by simpa only[VR]using hv
 | .agg cs,v,h,hv=>by
  simp only[JU]at h;simp only[VR]at hv⊢;obtain⟨vs,e,hr⟩:=hv;exact⟨vs,e,RV h hr⟩
 | .tup cs,v,h,hv=>by
  simp only[JU]at h;simp only[VR]at hv⊢;obtain⟨vs,e,hr⟩:=hv;exact⟨vs,e,RV h hr⟩
 | .emp,_,_,hv=>by simpa only[VR]using hv
 | .ptr ..,_,h,_=>by simp[JU]at h
 | .ip ..,_,h,_=>by simp[JU]at h
 | .sl ..,_,h,_=>by simp[JU]at h
 | .imm ..,_,h,_=>by simp[JU]at h
 | .mp ..,_,h,_=>by simp[JU]at h
 | .fn ..,_,h,_=>by simp[JU]at h
 | .junk,_,h,_=>by simp[JU]at h
theorem RV {G G':Cfg}:∀{as:List AV} {vs:List Value},UI as=true→VRs G as vs→VRs G' as vs
 | [],_,_,hv=>by simpa only[VRs]using hv
 | a::as,vs,h,hv=>by
  simp only[UI,Ae0]at h;simp only[VRs]at hv⊢;obtain⟨v,r,e,h1,h2⟩:=hv;exact⟨v,r,e,YI h.1 h1,RV h.2 h2⟩
end
section
variable {P : Program}
theorem BPure.lent {f:FuncId}{args args':List AV}{H:AH}{r:AV}{n:Nat}(hf:L7 (Kw H n) args=some args')(hr:JU r=true)(h:BPure P f args' r):BCall P f args H r H:=by
 intro G vs hH hv
 let G1:Cfg:={w:=G.w,n:=0,μ:=G.μ,L:=λ_=>False,K:=λb=>G.K b∧¬G.L b}
 have h0:HR G1 []:=⟨rfl,λo x h=>by simp at h,λo o' x x' h=>by simp at h,λo x h=>by simp at h,λb h=>by
  rcases h with h | h
  ·exact h.elim
  ·exact hH.lt b (.inr h.1),λb h=>h.elim⟩
 have hv':VRs G1 args' vs:=Hr (λa v r hx he=>Xp (G':=G) (G'':=G1) rfl (λb hn hh=>hn (.inr (hh.elim False.elim And.left))) hH (λo x ho hh=>hh.elim False.elim λhk=>hk.2 (hH.live o x ho)) n a v r hx he) hv hf;refine((h []) G1 vs h0 hv').mono ?_;rintro e w' ⟨r',X,G',v,rfl,rfl,hE,hx,hX,rfl,rfl⟩;have keep:∀k,k<G.w.heap.size→G'.w.heap[k]?=G.w.heap[k]?:=λk hk=>(hE.keep k hk (λh=>h)).1
 let G2:Cfg:={w:=G'.w,n:=G.n,μ:=G.μ,L:=G.L,K:=G.K}
 have hE':Evo G G2:=⟨hE.os,hE.tape,hE.output,hE.size,λk hk hL=>⟨keep k hk,hL⟩,Ac2 _,λ_ _=>rfl,rfl⟩;exact⟨r',H,G2,v,rfl,rfl,hE',YI hr hx,⟨hH.n,λo x ho=>OR.evo hE' (hH.lt_n ho) (keep _ (hH.lt _ (.inl (hH.live _ _ ho)))) (hH.obj o x ho),hH.inj,hH.live,λb hb=>Af0 (hH.lt b hb) hE.size,hH.dis⟩,rfl,rfl⟩
def PCall (P:Program)(f:FuncId)(args:List AV)(H:AH)(r:AV):Prop:=BPure P f args r∨∃n args',L7 (Kw H n) args=some args'∧JU r=true∧BPure P f args' r
theorem PCall.call {f:FuncId}{args:List AV}{H:AH}{r:AV}(h:PCall P f args H r):BCall P f args H r H:=by
 rcases h with h | ⟨n,args',h1,h2,h3⟩
 ·exact h H
 ·exact BPure.lent h1 h2 h3
end
end
section
section
variable {P : Program}
def Re (P:Program)(H:AH)(w:Bool)(b:Builtin)(ts:List TypeId)(xs:List AV)(K:AV→AH→Prop):Prop:=
 match b,ts,xs with
 | .len,[t],[x]=>match fU P t with
  | some .str=>gO w (Gh x) λv=>K v H
  | some .sl=>gO w (Ba x) λv=>K v H
  | some (.arr n)=>gO w (some (.lit (.int .i64 n))) λv=>K v H
  | some .mp=>gO w (ZD H x) λv=>K v H
  | none=>False
 | .cap,[t],[x]=>match fU P t with
  | some .sl=>gO w (V6 x) λv=>K v H
  | some (.arr n)=>gO w (some (.lit (goInt n))) λv=>K v H
  | _=>False
 | .clear,[t],[x]=>match Uy P t with
  | some (_,_,zc)=>gS w (nC zc H x) H λH'=>K (if w then .lit (.tuple #[])else AG) H'
  | none=>False
 | .append,[t,u],[s,x]=>match Uy P t,fU P u with
  | some (sz,by',_),some .sl | some (sz,by',_),some .str=>gH w (Mm sz by' H s x) H K
  | some (sz,by',zc),none=>match P.underlying u with
   | some (.int _)=>gH w (Kj H sz by' zc s x) H K
   | _=>False
  | _,_=>False
 | .copy,[t,_],[d,s]=>match Vr P t with
  | some (.sl sz)=>gH w (Oe sz H d s) H K
  | _=>False
 | .min,_,xs=>gO w (amm VP xs) λv=>K v H
 | .max,_,xs=>gO w (amm ZX xs) λv=>K v H
 | _,_,_=>False
def Mt (P:Program)(ql al:FuncId→Bool)(dr:Bool)(ρ:Operand→AV)(H:AH)(o:Oper)(w:Bool)(K:AV→AH→Prop):Prop:=
 match o.op with
 | .move x=>gO w (some (ρ x)) λv=>K v H
 | .assign x=>gO w (some (ρ x)) λv=>K v H
 | .pick c a b=>gO w (A8 (ρ c) (ρ a) (ρ b)) λv=>K v H
 | .alloc e=>match Pc P e with
  | some z=>gH w (AD H (.ofV z)) H K
  | none=>False
 | .box _ x=>gH w (AD H (ρ x)) H K
 | .build t parts=>match ZL P t with
  | some (zc,pl)=>match Sr pl ρ parts.toList with
   | some l=>gO w (FK zc l) λv=>K v H
   | none=>False
  | none=>False
 | .buildSlice t len parts=>match Uy P t with
  | some (sz,_,zc)=>match Nat.ble (len*sz) 16777216 with
   | true=>match Sr (λj=>some (j*sz,sz)) ρ parts.toList with
    | some l=>match dr with
     | true=>gO w (Tq sz len (Be zc len) l) λv=>K v H
     | false=>gH w (Cr H sz len (Be zc len) l) H K
    | none=>False
   | false=>False
  | none=>False
 | .load t a=>match TI P t,BW P t with
  | some g,some n=>gO w (Au g n H (ρ a)) λv=>K v H
  | _,_=>False
 | .store t a x=>match BW P t with
  | some n=>gS w (AT n H (ρ a) (ρ x)) H λH'=>K AG H'
  | none=>False
 | .nilCheck x=>gO w (Ai (ρ x)) λv=>K v H
 | .binOp op t x y _=>match P.underlying t with
  | some (.int _)=>gO w (Ap op (ρ x) (ρ y)) λv=>K v H
  | some .string=>gO w (Rq op (ρ x) (ρ y)) λv=>K v H
  | some .bool=>gO w (rG op (ρ x) (ρ y)) λv=>K v H
  | some (.pointer _)=>gO w (V5 op So (ρ x) (ρ y)) λv=>K v H
  | some (.slice _)=>gO w (V5 op On (ρ x) (ρ y)) λv=>K v H
  | some (.func ..)=>gO w (V5 op aE (ρ x) (ρ y)) λv=>K v H
  | some (.map ..)=>gO w (V5 op aF (ρ x) (ρ y)) λv=>K v H
  | _=>gO w (Ph P op t (ρ x) (ρ y)) λv=>K v H
 | .unOp op _ x=>gO w (Fb op (ρ x)) λv=>K v H
 | .convert s d x=>match cH P s d with
  | some (.int k)=>gO w (Ts k (ρ x)) λv=>K v H
  | some .str=>gO w (acS (ρ x)) λv=>K v H
  | some .ofB=>gO w (nB H (ρ x)) λv=>K v H
  | some .toB=>gO w (acT (ρ x)) λv=>K v H
  | some .same=>gH w (rL H (ρ x)) H K
  | none=>False
 | .makeFunc fn f c=>gO w (some (.fn fn (f.toList.map ρ) (c.toList.map ρ))) λv=>K v H
 | .makeSlice t l c=>match Uy P t with
  | some (sz,by',zc)=>gH w (qC sz by' zc H (ρ l) (ρ c)) H K
  | none=>False
 | .slice t x lo hi mx=>match Vr P t,mx with
  | some .str,none=>gO w (RD (ρ x) (lo.map ρ) (hi.map ρ)) λv=>K v H
  | some (.sl sz),mx=>gO w (AX sz (ρ x) (lo.map ρ) (hi.map ρ) (mx.map ρ)) λv=>K v H
  | some (.arr n sz),none=>gO w (Lx n sz H (ρ x) (lo.map ρ) (hi.map ρ)) λv=>K v H
  | _,_=>False
 | .fieldAddr s x f=>match Ug P s f with
  | some k=>gO w (Ac k (ρ x)) λv=>K v H
  | none=>False
 | .field s x f=>match ZS P s f with
  | some (g,n,off)=>gO w (Yf g n off (ρ x)) λv=>K v H
  | none=>False
 | .indexAddr t x i=>match ZY P t with
  | some (.sl sz)=>gO w (Bj sz (ρ x) (ρ i)) λv=>K v H
  | some (.arr len sz)=>gO w (PK len sz (ρ x) (ρ i)) λv=>K v H
  | none=>False
 | .index t x i=>match yJ P t with
  | some .str=>gO w (Tu (ρ x) (ρ i)) λv=>K v H
  | some (.arr g n len sz)=>gO w (iZ g n len sz (ρ x) (ρ i)) λv=>K v H
  | none=>False
 | .extract t i=>gO w (Aj (ρ t) i) λv=>K v H
 | .makeMap t l=>match aC P t with
  | some _=>gH w (rP H (l.map ρ)) H K
  | none=>False
 | .lookup t x k co=>match aC P t with
  | some (d,z)=>gO w (nD d z H (ρ x) (ρ k) co) λv=>K v H
  | none=>False
 | .mapUpdate t m k x=>match aC P t with
  | some (d,_)=>gS w (uK d H (ρ m) (ρ k) (ρ x)) H λH'=>K AG H'
  | none=>False
 | .mapEntry t m k=>match aC P t with
  | some (d,z)=>gH w (ame d z H (ρ m) (ρ k)) H K
  | none=>False
 | .entryStore _ m s x=>gS w (Hw H (ρ m) (ρ s) (ρ x)) H λH'=>K AG H'
 | .call {callee:=.builtin b,args,argTypes}=>Re P H w b argTypes.toList (args.toList.map ρ) K
 | .call {callee:=.value f,args,argTypes:=_}=>bF w (ρ f) λk first cap=>match BB al o.op with
   | true=>match dr with
    | true=>False
    | false=>match B4 P k with
     | true=>gA w (ACalls P k (first++args.toList.map ρ++cap) H) H K
     | false=>gP w (ExtR P k (first++args.toList.map ρ++cap) H) λv=>K v H
   | false=>bT (B4 P k||!w) (match BB ql o.op with
    | true=>match dr with
     | true=>gP w (BPure P k (first++args.toList.map ρ++cap)) λv=>K v H
     | false=>gP w (PCall P k (first++args.toList.map ρ++cap) H) λv=>K v H
    | false=>gC w (BCall P k (first++args.toList.map ρ++cap) H) H K)
 | _=>False
def StepR (P:Program)(ql:FuncId→Bool)(dr:Bool)(ρ:Operand→AV)(H:AH)(o:Oper)(w:Bool)(r:AV)(H':AH):Prop:=
 (w=true∧(X4 P dr ρ H o=some (r,H')∨(X4 P dr ρ H o=none∧N9 P ql dr ρ o H r H')))∨(w=false∧r=AG∧H'=H)
section
variable {ql : FuncId→Bool} {dr : Bool} {ρ : Operand→AV} {H : AH} {o : Oper} {w : Bool} {K : AV→AH→Prop}
theorem Bx {x:Option AV}(h:gO w x λv=>K v H)(hx:∀r,x=some r→X4 P dr ρ H o=some (r,H)):
  ∃r H',K r H'∧StepR P ql dr ρ H o w r H'∧∀K2:AV→AH→Prop,K2 r H'→gO w x λv=>K2 v H:=by
 cases w with
 | false=>exact⟨AG,H,h,.inr ⟨rfl,rfl,rfl⟩,λ_ h=>h⟩
 | true=>cases x with
  | none=>exact h.elim
  | some r=>exact⟨r,H,h,.inl ⟨rfl,.inl (hx r rfl)⟩,λ_ h=>h⟩
theorem Jn {x:Option (AV×AH)}(h:gH w x H K)(hx:∀r,x=some r→X4 P dr ρ H o=some r):
  ∃r H',K r H'∧StepR P ql dr ρ H o w r H'∧∀K2:AV→AH→Prop,K2 r H'→gH w x H K2:=by
 cases w with
 | false=>exact⟨AG,H,h,.inr ⟨rfl,rfl,rfl⟩,λ_ h=>h⟩
 | true=>cases x with
  | none=>exact h.elim
  | some r=>exact⟨r.1,r.2,h,.inl ⟨rfl,.inl (hx r rfl)⟩,λ_ h=>h⟩
theorem kJ {x:Option AH}{u:AV}(h:gS w x H λH'=>K (if w then u else AG) H')(hx:∀r,x=some r→X4 P dr ρ H o=some (u,r)):
  ∃r H',K r H'∧StepR P ql dr ρ H o w r H'∧∀K2:AV→AH→Prop,K2 r H'→gS w x H λH'=>K2 (if w then u else AG) H':=by
 cases w with
 | false=>exact⟨AG,H,h,.inr ⟨rfl,rfl,rfl⟩,λ_ h=>h⟩
 | true=>cases x with
  | none=>exact h.elim
  | some r=>exact⟨u,r,h,.inl ⟨rfl,.inl (hx r rfl)⟩,λ_ h=>h⟩
theorem Xq {x:Option AH}(h:gS w x H λH'=>K AG H')(hx:∀r,x=some r→X4 P dr ρ H o=some (AG,r)):
  ∃r H',K r H'∧StepR P ql dr ρ H o w r H'∧∀K2:AV→AH→Prop,K2 r H'→gS w x H λH'=>K2 AG H':=by
 have:=kJ (u:=AG) (ql:=ql) (by simpa using h) hx
 simpa using this
end
theorem AY {dr:Bool}{ρ:Operand→AV}{H:AH}{o:Oper}(hb:VQ o.op=false):X4 P dr ρ H o=CD P ρ H o:=by
 unfold X4;rw[hb];simp
theorem ZB {t:TypeId}{g:Bool}{n:Nat}{H:AH}{a:AV}(hg:TI P t=some g)(hn:BW P t=some n):S7 P H t a=Au g n H a:=by
 unfold S7 Au;rw[hg,hn];cases a<;>rfl
theorem rQ {t:TypeId}{n:Nat}{H:AH}{a x:AV}(hn:BW P t=some n):RE P H t a x=AT n H a x:=by
 unfold RE AT;rw[hn];cases BH x<;>cases a<;>rfl
theorem rI {op:BinOp}{t:TypeId}{x y r:AV}(h:Ap op x y=some r):Ph P op t x y=some r:=by
 unfold Ap at h;split at h
 ·unfold Ph;exact h
 ·cases h
theorem rJ {op:BinOp}{t:TypeId}{x y r:AV}(h:Rq op x y=some r):Ph P op t x y=some r:=by
 unfold Rq at h;split at h
 ·unfold Ph;exact h
 ·cases h
theorem rH {op:BinOp}{t:TypeId}{x y r:AV}(hu:P.underlying t=some .bool)(h:rG op x y=some r):Ph P op t x y=some r:=by
 unfold rG at h;split at h
 ·unfold Ph
  simp only[S6,hu];exact h
 ·cases h
theorem WQ {op:BinOp}{f:AV→Option Bool}{t:TypeId}{x y r:AV}(hx:∀v,x=.lit v→(∃k n,v=.int k n)∨(∃s,v=.string s)→f x=none)(he:∀x y,S6 P 20 t x y=GL (f x) (f y))(h:V5 op f x y=some r):Ph P op t x y=some r:=by
 unfold V5 at h;split at h
 ·cases h
 ·cases h
 ·cases h
 ·rename_i hagg hn1 hn2
  unfold Ph
  split
  ·rename_i k a k' b
   have:=hx _ rfl (.inl ⟨k,a,rfl⟩)
   rw[this]at h;unfold xN GL at h;split at h<;>simp at h
  ·rename_i a b
   have:=hx _ rfl (.inr ⟨a,rfl⟩)
   rw[this]at h;unfold xN GL at h;split at h<;>simp at h
  ·exact(hn2 _ _ rfl rfl).elim
  ·exact(hagg rfl).elim
  ·exact(hn1 rfl).elim
  ·rw[he]
   exact h
end
end
section
section
variable {P : Program}
theorem FI {t:TypeId}{x:LK}(h:fU P t=some x):match x with
  | .str=>P.underlying t=some .string
  | .sl=>∃e,P.underlying t=some (.slice e)
  | .arr n=>∃e,P.underlying t=some (.array n e)
  | .mp=>∃k e,P.underlying t=some (.map k e):=by
 unfold fU at h;split at h
 ·rename_i hu;injection h with h;subst h;exact hu
 ·rename_i e hu;injection h with h;subst h;exact⟨e,hu⟩
 ·rename_i n e hu;injection h with h;subst h;exact⟨e,hu⟩
 ·rename_i k e hu;injection h with h;subst h;exact⟨k,e,hu⟩
 ·cases h
theorem Hm {t:TypeId}{x:SK}(h:Vr P t=some x):match x with
  | .str=>P.underlying t=some .string
  | .sl sz=>∃e,P.underlying t=some (.slice e)∧BW P e=some sz
  | .arr n sz=>∃e,P.underlying t=some (.array n e)∧BW P e=some sz:=by
 unfold Vr at h;split at h
 ·rename_i hu;injection h with h;subst h;exact hu
 ·rename_i e hu
  obtain⟨s,hs,rfl⟩:=Option.map_eq_some_iff.1 h;exact⟨e,hu,hs⟩
 ·rename_i n e hu
  obtain⟨s,hs,rfl⟩:=Option.map_eq_some_iff.1 h;exact⟨e,hu,hs⟩
 ·cases h
theorem Wt {t:TypeId}{x:IK}(h:ZY P t=some x):match x with
  | .sl sz=>∃e,P.underlying t=some (.slice e)∧BW P e=some sz
  | .arr n sz=>∃e,P.underlying t=some (.array n e)∧BW P e=some sz:=by
 unfold ZY at h;split at h
 ·rename_i e hu
  obtain⟨s,hs,rfl⟩:=Option.map_eq_some_iff.1 h;exact⟨e,hu,hs⟩
 ·rename_i n e hu
  obtain⟨s,hs,rfl⟩:=Option.map_eq_some_iff.1 h;exact⟨e,hu,hs⟩
 ·cases h
theorem kW {t:TypeId}{x:VK}(h:yJ P t=some x):match x with
  | .str=>P.underlying t=some .string
  | .arr g n len sz=>∃e,P.underlying t=some (.array len e)∧TI P e=some g∧BW P e=some n∧sz=n:=by
 unfold yJ at h;split at h
 ·rename_i hu;injection h with h;subst h;exact hu
 ·rename_i len e hu
  split at h
  ·rename_i g n hg hn;injection h with h;subst h;exact⟨e,hu,hg,hn,rfl⟩
  ·cases h
 ·cases h
theorem K5 {s d:TypeId}{x:CK}(h:cH P s d=some x):match x with
  | .int k=>P.underlying d=some (.int k)∧∃y,P.underlying s=some y
  | .str=>P.underlying d=some .string∧P.underlying s=some .string
  | .ofB=>P.underlying d=some .string∧∃e,P.underlying s=some (.slice e)∧P.underlying e=some (.int .u8)
  | .toB=>P.underlying s=some .string∧∃e,P.underlying d=some (.slice e)∧P.underlying e=some (.int .u8)
  | .same=>s=d∧∃e,P.underlying d=some (.slice e)∧P.underlying e=some (.int .u8):=by
 unfold cH at h;split at h
 ·rename_i k y h1 h2;injection h with h;subst h;exact⟨h1,y,h2⟩
 ·rename_i h1 h2;injection h with h;subst h;exact⟨h1,h2⟩
 ·rename_i e h1 h2
  split at h
  ·rename_i h3;injection h with h;subst h;exact⟨h1,e,h2,h3⟩
  ·cases h
 ·rename_i e h1 h2
  split at h
  ·rename_i h3;injection h with h;subst h;exact⟨h2,e,h1,h3⟩
  ·cases h
 ·rename_i e e2 h1 h2
  split at h
  ·rename_i h3 h4;injection h with h;subst h;exact⟨Ai4 h3,e,h1,h4⟩
  ·cases h
 ·cases h
theorem fK {s:TypeId}{f:Nat}{g:Bool}{n off:Nat}(h:ZS P s f=some (g,n,off))(x:AV):Uf P s x f=Yf g n off x:=by
 unfold ZS at h;unfold Uf;split at h
 ·rename_i fields hu
  rw[hu];simp only;split at h
  ·rename_i fl hfl
   rw[hfl];simp only;split at h
   ·rename_i g' n' hg hn
    injection h with h;injection h with h1 h2;injection h2 with h2 h3;subst h1;subst h2;subst h3;unfold apart Yf;rw[hg,hn];cases x<;>rfl
   ·cases h
  ·cases h
 ·cases h
theorem iR {t u:TypeId}{sz by':Nat}{zc:List AV}{H:AH}{s x:AV}(ht:Uy P t=some (sz,by',zc))(hu:(∃e,P.underlying u=some (.slice e))∨P.underlying u=some .string):Ls P H t u s x=Mm sz by' H s x:=by
 obtain⟨e,i,z,h1,h2,h3,rfl,rfl,rfl,h4,h5,h6,h7⟩:=MP ht;unfold Ls Mm;rcases hu with⟨e',hu⟩ | hu<;>rw[h1,hu]<;>simp only[h2,h3]
 ·cases Bf H i.size x with
  | none=>rfl
  | some q=>simp[h4,h5,h6]
 ·cases Bf H i.size x with
  | none=>rfl
  | some q=>simp[h4,h5,h6]
theorem nT {d:Nat}{t e:TypeId}(hu:P.underlying t=some (.pointer e))(x y:AV):S6 P (d+1) t x y=GL (So x) (So y):=by simp only[S6,hu]
theorem rO {d:Nat}{t e:TypeId}(hu:P.underlying t=some (.slice e))(x y:AV):S6 P (d+1) t x y=GL (On x) (On y):=by simp only[S6,hu]
theorem rM {d:Nat}{t:TypeId}{ps rs:Array TypeId}{v:Bool}(hu:P.underlying t=some (.func ps rs v))(x y:AV):S6 P (d+1) t x y=GL (aE x) (aE y):=by simp only[S6,hu]
theorem rN {d:Nat}{t k e:TypeId}(hu:P.underlying t=some (.map k e))(x y:AV):S6 P (d+1) t x y=GL (aF x) (aF y):=by simp only[S6,hu]
variable {ql : FuncId→Bool} {dr : Bool} {ρ : Operand→AV} {H : AH} {w : Bool} {K : AV→AH→Prop}
theorem XC {dst:Option Tmp}{b:Builtin}{args:Array Operand}{ats:Array TypeId}{type:TypeId}{pos:String}{after:Array Edge}{guard:Option (Nat×Bool)}
  (h:Re P H w b ats.toList (args.toList.map ρ) K):
  ∃r H',K r H'∧StepR P ql dr ρ H ⟨dst,.call {callee:=.builtin b,args,argTypes:=ats},type,pos,after,guard⟩ w r H'∧∀K2:AV→AH→Prop,K2 r H'→Re P H w b ats.toList (args.toList.map ρ) K2:=by
 have hop:X4 P dr ρ H ⟨dst,.call {callee:=.builtin b,args,argTypes:=ats},type,pos,after,guard⟩=Bt P H b ats.toList (args.toList.map ρ):=(AY rfl).trans rfl;generalize ats.toList=ts at*;generalize args.toList.map ρ=xs at*;unfold Re at h⊢;split at h
 ·rename_i t x
  (try simp only)
  split at h
  ·rename_i hl
   have hl':=FI hl
   (try simp only[hl])
   refine Bx h λr hr=>hop.trans ?_
   unfold Gh at hr;split at hr
   ·injection hr with hr;subst hr
    simp[Bt,Rx,hl']
   ·cases hr
  ·rename_i hl
   obtain⟨e,hl'⟩:=FI hl
   (try simp only[hl])
   refine Bx h λr hr=>hop.trans ?_
   unfold Ba at hr;split at hr<;>first
    | (cases hr;done)
    | (injection hr with hr;subst hr;simp[Bt,Rx,hl'])
  ·rename_i n hl
   obtain⟨e,hl'⟩:=FI hl
   (try simp only[hl])
   refine Bx h λr hr=>hop.trans ?_
   injection hr with hr;subst hr;simp[Bt,Rx,hl']
  ·rename_i hl
   obtain⟨k,e,hl'⟩:=FI hl
   (try simp only[hl])
   refine Bx h λr hr=>hop.trans ?_
   unfold ZD at hr;split at hr
   ·injection hr with hr;subst hr
    simp[Bt,Rx,hl']
   ·simp only[Bt,Rx,hl',PP]
    first
     | (exact congrArg (Option.map λv=>(v,H)) hr)
     | ((try simp only[hr]);rfl)
   ·cases hr
  ·exact h.elim
 ·rename_i t x
  (try simp only)
  split at h
  ·rename_i hl
   obtain⟨e,hl'⟩:=FI hl
   (try simp only[hl])
   refine Bx h λr hr=>hop.trans ?_
   unfold V6 at hr;split at hr<;>first
    | (cases hr;done)
    | (injection hr with hr;subst hr;simp[Bt,iU,hl'])
  ·rename_i n hl
   obtain⟨e,hl'⟩:=FI hl
   (try simp only[hl])
   refine Bx h λr hr=>hop.trans ?_
   injection hr with hr;subst hr;simp[Bt,iU,hl']
  ·exact h.elim
 ·rename_i t x
  (try simp only)
  split at h
  ·rename_i sz by' zc hl
   obtain⟨e,i,z,h1,h2,h3,rfl,rfl,rfl,h4,h5,h6,h7⟩:=MP hl
   (try simp only[hl])
   refine kJ h λr hr=>hop.trans ?_
   unfold nC at hr;unfold Bt WT;simp only[h1,h2];split at hr
   ·injection hr with hr;subst hr;rfl
   ·rename_i o off len esz cap
    simp only;split at hr
    ·rename_i cs hcs
     simp only[hcs,h3];split at hr
     ·rename_i hc
      injection hr with hr;subst hr;simp only[h2,h3];rw[if_pos (show z.cells.size=esz∧esz≠0∧M4 z=true∧off+len*esz≤cs.length from⟨by simpa using hc.1,hc.2.1,h7,hc.2.2⟩)];rfl
     ·cases hr
    ·cases hr
   ·cases hr
  ·exact h.elim
 ·rename_i t u s x
  (try simp only)
  split at h
  ·rename_i sz by' zc h1 h2
   (try simp only[h1,h2])
   obtain⟨e,h2'⟩:=FI h2;exact Jn h λr hr=>hop.trans (by simp only[Bt];rw[iR h1 (.inl ⟨e,h2'⟩),hr])
  ·rename_i sz by' zc h1 h2
   (try simp only[h1,h2])
   have h2':=FI h2;exact Jn h λr hr=>hop.trans (by simp only[Bt];rw[iR h1 (.inr h2'),hr])
  ·rename_i sz by' zc h1 h2
   (try simp only[h1,h2])
   split at h
   ·rename_i k hu
    (try simp only[hu])
    refine Jn h λr hr=>hop.trans ?_
    obtain⟨e,i,z,q1,q2,q3,rfl,rfl,rfl,q4,q5,q6,q7⟩:=MP h1;have e1:Ls P H t u s x=none:=by unfold Ls;rw[q1,hu]
    have e2:M1 P H t u s x=Kj H i.size i.bytes (z.cells.toList.map .lit) s x:=by
     unfold M1;simp only[q1,hu,q2,q3];rw[if_neg (by simp[q4,q5,q6,q7])]
    simp only[Bt,e1,e2,hr]
   ·exact h.elim
  ·exact h.elim
 ·rename_i t u d s
  (try simp only)
  split at h
  ·rename_i sz hl
   obtain⟨e,h1,h2⟩:=Hm hl
   (try simp only[hl])
   refine Jn h λr hr=>hop.trans ?_
   show XZ P H t d s=_
   unfold XZ;simp only[h1,h2];exact hr
  ·exact h.elim
 ·exact Bx h λr hr=>hop.trans (by simp[Bt,hr])
 ·exact Bx h λr hr=>hop.trans (by simp[Bt,hr])
 ·exact h.elim
theorem Td (op:Op):BB Aq op=false:=by
 unfold BB
 split<;>rfl
abbrev Am4:=@Option.map_none
set_option maxHeartbeats 2000000 in
theorem LF {o:Oper}(h:Mt P ql Aq dr ρ H o w K):∃r H',K r H'∧StepR P ql dr ρ H o w r H'∧∀K2:AV→AH→Prop,K2 r H'→Mt P ql Aq dr ρ H o w K2:=by
 obtain⟨dst,op,type,pos,after,guard⟩:=o;cases op
 case move x=>exact Bx h λr hr=>by injection hr with hr;subst hr;exact(AY rfl).trans rfl
 case assign x=>exact Bx h λr hr=>by injection hr with hr;subst hr;exact(AY rfl).trans rfl
 case pick c a b=>
  refine Bx h λr hr=>(AY rfl).trans ?_
  unfold A8 at hr;split at hr
  ·rename_i t ht
   injection hr with hr;subst hr;simp[CD,ht]
  ·cases hr
 case alloc e=>
  unfold Mt at h⊢;simp only at h⊢;split at h
  ·rename_i z hz
   (try simp only[hz])
   exact Jn h λr hr=>(AY rfl).trans (by simp[CD,hz,hr])
  ·exact h.elim
 case box e x=>exact Jn h λr hr=>(AY rfl).trans (by simp[CD,hr])
 case build t parts=>
  unfold Mt at h⊢;simp only at h⊢;split at h
  ·rename_i zc pl hz
   (try simp only[hz])
   split at h
   ·rename_i l hl
    (try simp only[hl])
    refine Bx h λr hr=>(AY rfl).trans ?_
    unfold FK at hr;simp[CD,eU hz,NY _ _ zc hl,hr]
   ·exact h.elim
  ·exact h.elim
 case buildSlice t len parts=>
  unfold Mt at h⊢;simp only at h⊢;split at h
  ·rename_i sz by' zc hz
   (try simp only[hz])
   obtain⟨e,i,z,h1,h2,h3,rfl,rfl,rfl,h4,h5,h6,h7⟩:=MP hz;split at h
   ·rename_i hle
    (try simp only[hle])
    have hle:=Nat.le_of_ble_eq_true hle;split at h
    ·rename_i l hl
     (try simp only[hl])
     cases dr with
     | true=>
      simp only at h⊢;refine Bx h λr hr=>?_
      unfold Tq at hr;obtain⟨cs,hcs,rfl⟩:=Option.map_eq_some_iff.1 hr;simp only[X4,VQ,Bool.and_self,if_true,Fc,Ed,h1,h2,h3];rw[if_pos ⟨hle,h6,h4,h7⟩,NY _ _ _ hl,hcs];rfl
     | false=>
      simp only at h⊢;refine Jn h λr hr=>?_
      unfold Cr at hr;obtain⟨cs,hcs,rfl⟩:=Option.map_eq_some_iff.1 hr;simp only[X4,Aa2,CD,Ed,h1,h2,h3];rw[if_pos ⟨hle,h6,h4,h7⟩,NY _ _ _ hl,hcs];rfl
    ·exact h.elim
   ·exact h.elim
  ·exact h.elim
 case load t a=>
  unfold Mt at h⊢;simp only at h⊢;split at h
  ·rename_i g n hg hn
   (try simp only[hg,hn])
   exact Bx h λr hr=>(AY rfl).trans (by simp[CD,ZB hg hn,hr])
  ·exact h.elim
 case store t a x=>
  unfold Mt at h⊢;simp only at h⊢;split at h
  ·rename_i n hn
   (try simp only[hn])
   exact Xq h λr hr=>(AY rfl).trans (by simp[CD,rQ hn,hr])
  ·exact h.elim
 case nilCheck x=>exact Bx h λr hr=>(AY rfl).trans (by simp[CD,hr])
 case binOp op t x y yt=>
  unfold Mt at h⊢;simp only at h⊢;split at h
  ·rename_i hu;(try simp only[hu])
   exact Bx h λr hr=>(AY rfl).trans (by simp[CD,rI hr])
  ·rename_i hu;(try simp only[hu])
   exact Bx h λr hr=>(AY rfl).trans (by simp[CD,rJ hr])
  ·rename_i hu;(try simp only[hu])
   exact Bx h λr hr=>(AY rfl).trans (by simp[CD,rH hu hr])
  ·rename_i hu;(try simp only[hu])
   exact Bx h λr hr=>(AY rfl).trans (by simp[CD,WQ (by rintro v hv (⟨k,n,rfl⟩ | ⟨s,rfl⟩)<;>rw[hv]<;>rfl) (nT hu) hr])
  ·rename_i hu;(try simp only[hu])
   exact Bx h λr hr=>(AY rfl).trans (by simp[CD,WQ (by rintro v hv (⟨k,n,rfl⟩ | ⟨s,rfl⟩)<;>rw[hv]<;>rfl) (rO hu) hr])
  ·rename_i hu;(try simp only[hu])
   exact Bx h λr hr=>(AY rfl).trans (by simp[CD,WQ (by rintro v hv (⟨k,n,rfl⟩ | ⟨s,rfl⟩)<;>rw[hv]<;>rfl) (rM hu) hr])
  ·rename_i hu;(try simp only[hu])
   exact Bx h λr hr=>(AY rfl).trans (by simp[CD,WQ (by rintro v hv (⟨k,n,rfl⟩ | ⟨s,rfl⟩)<;>rw[hv]<;>rfl) (rN hu) hr])
  ·obtain⟨r,H',h1,h2,h3⟩:=Bx (P:=P) (ql:=ql) (dr:=dr) (ρ:=ρ) (o:=⟨dst,.binOp op t x y yt,type,pos,after,guard⟩) h λr hr=>(AY rfl).trans (by simp[CD,hr])
   refine⟨r,H',h1,h2,λK2 hk=>?_⟩;exact h3 K2 hk
 case unOp op t x=>exact Bx h λr hr=>(AY rfl).trans (by simp[CD,hr])
 case convert s d x=>
  unfold Mt at h⊢;simp only at h⊢;split at h
  ·rename_i k hc
   obtain⟨h1,y,h2⟩:=K5 hc
   (try simp only[hc])
   refine Bx h λr hr=>(AY rfl).trans ?_
   unfold Ts at hr;split at hr
   ·rename_i hx
    injection hr with hr;subst hr;simp[CD,EJ,h1,h2,hx]
   ·cases hr
  ·rename_i hc
   obtain⟨h1,h2⟩:=K5 hc
   (try simp only[hc])
   refine Bx h λr hr=>(AY rfl).trans ?_
   unfold acS at hr;split at hr
   ·rename_i hx
    injection hr with hr;subst hr;simp[CD,EJ,h1,h2,hx]
   ·cases hr
  ·rename_i hc
   obtain⟨h1,e,h2,h3⟩:=K5 hc
   (try simp only[hc])
   refine Bx h λr hr=>(AY rfl).trans ?_
   unfold nB at hr;split at hr
   ·cases hr
   ·rename_i hx
    have:EJ P H s d (ρ x)=some r:=by
     unfold EJ;simp only[h1,h2];split at hr
     ·rename_i cs n hs
      simp only[h3,hs];exact hr
     ·cases hr
    simp[CD,this]
  ·rename_i hc
   obtain⟨h1,e,h2,h3⟩:=K5 hc
   (try simp only[hc])
   refine Bx h λr hr=>(AY rfl).trans ?_
   unfold acT at hr;split at hr
   ·rename_i t hx
    injection hr with hr;subst hr;simp[CD,EJ,h1,h2,h3,hx,Ud]
   ·cases hr
  ·rename_i hc
   obtain⟨rfl,e,h2,h3⟩:=K5 hc
   (try simp only[hc])
   refine Jn h λr hr=>(AY rfl).trans ?_
   have hb:Nat.beq s s=true:=Nat.beq_refl s;simp[CD,EJ,Ud,Yj,hb,h2,h3,hr]
  ·exact h.elim
 case makeFunc fn f c=>exact Bx h λr hr=>by injection hr with hr;subst hr;exact(AY rfl).trans rfl
 case makeSlice t l c=>
  unfold Mt at h⊢;simp only at h⊢;split at h
  ·rename_i sz by' zc hz
   (try simp only[hz])
   obtain⟨e,i,z,h1,h2,h3,rfl,rfl,rfl,h4,h5,h6,h7⟩:=MP hz;refine Jn h λr hr=>(AY rfl).trans ?_
   unfold qC at hr;split at hr
   ·rename_i k n k' m hn hm
    split at hr
    ·rename_i hb
     injection hr with hr;subst hr;simp only[CD,bW,h1,hn,hm,h2,h3];rw[if_pos ⟨hb.1,hb.2.1,hb.2.2.1,hb.2.2.2,h6,h4,h7⟩]
    ·cases hr
   ·cases hr
  ·exact h.elim
 case slice t x lo hi mx=>
  unfold Mt at h⊢;simp only at h⊢;split at h
  ·rename_i hl
   have h1:=Hm hl
   (try simp only[hl])
   refine Bx h λr hr=>(AY rfl).trans ?_
   unfold RD at hr;split at hr
   ·rename_i s hs
    simp only[CD,Ly,h1,hs,Am4];exact congrArg (Option.map λv=>(v,H)) hr
   ·cases hr
  ·rename_i sz hl
   obtain⟨e,h1,h2⟩:=Hm hl
   (try simp only[hl])
   refine Bx h λr hr=>(AY rfl).trans ?_
   unfold AX at hr;simp only[CD,Ly,h1,h2];split at hr
   ·rename_i hx;rw[hx];exact congrArg (Option.map λv=>(v,H)) hr
   ·rename_i hx;rw[hx];exact congrArg (Option.map λv=>(v,H)) hr
   ·rename_i hx;rw[hx];exact congrArg (Option.map λv=>(v,H)) hr
   ·rename_i hx;rw[hx];exact congrArg (Option.map λv=>(v,H)) hr
   ·cases hr
  ·rename_i n sz hl
   obtain⟨e,h1,h2⟩:=Hm hl
   (try simp only[hl])
   refine Bx h λr hr=>(AY rfl).trans ?_
   unfold Lx at hr;simp only[CD,Ly,h1,h2,Am4];exact congrArg (Option.map λv=>(v,H)) hr
  ·exact h.elim
 case fieldAddr s x f=>
  unfold Mt at h⊢;simp only at h⊢;split at h
  ·rename_i k hk
   (try simp only[hk])
   exact Bx h λr hr=>(AY rfl).trans (by simp[CD,Lu,hk,hr])
  ·exact h.elim
 case field s x f=>
  unfold Mt at h⊢;simp only at h⊢;split at h
  ·rename_i g n off hk
   (try simp only[hk])
   exact Bx h λr hr=>(AY rfl).trans (by simp[CD,fK hk,hr])
  ·exact h.elim
 case indexAddr t x i=>
  unfold Mt at h⊢;simp only at h⊢;split at h
  ·rename_i sz hl
   obtain⟨e,h1,h2⟩:=Wt hl
   (try simp only[hl])
   refine Bx h λr hr=>(AY rfl).trans ?_
   unfold Bj at hr;simp only[CD,IU,h1,h2];exact congrArg (Option.map λv=>(v,H)) hr
  ·rename_i len sz hl
   obtain⟨e,h1,h2⟩:=Wt hl
   (try simp only[hl])
   refine Bx h λr hr=>(AY rfl).trans ?_
   unfold PK at hr;simp only[CD,IU,h1,h2];exact congrArg (Option.map λv=>(v,H)) hr
  ·exact h.elim
 case index t x i=>
  unfold Mt at h⊢;simp only at h⊢;split at h
  ·rename_i hl
   have h1:=kW hl
   (try simp only[hl])
   refine Bx h λr hr=>(AY rfl).trans ?_
   unfold Tu at hr;simp only[CD,Uh,h1];exact congrArg (Option.map λv=>(v,H)) hr
  ·rename_i g n len sz hl
   obtain⟨e,h1,h2,h3,rfl⟩:=kW hl
   (try simp only[hl])
   refine Bx h λr hr=>(AY rfl).trans ?_
   unfold iZ Yf at hr;simp only[CD,Uh,h1,h2,h3,apart];cases hi:J8 (ρ i)with
   | none=>rw[hi]at hr;cases hr
   | some m=>
    rw[hi]at hr;simp only at hr⊢;split at hr
    ·rename_i hb
     rw[if_pos hb];cases hx:ρ x<;>rw[hx]at hr<;>first
      | (simp only at hr⊢;exact congrArg (Option.map λv=>(v,H)) hr)
      | cases hr
    ·cases hr
  ·exact h.elim
 case extract t i=>exact Bx h λr hr=>(AY rfl).trans (by simp[CD,hr])
 case makeMap t l=>
  unfold Mt at h⊢;simp only at h⊢;split at h
  ·rename_i q hl
   obtain⟨d,z⟩:=q;obtain⟨key,elem,h1,h2,h3⟩:=QG hl
   (try simp only[hl])
   refine Jn h λr hr=>(AY rfl).trans ?_
   unfold rP at hr;simp only[CD,PO,h1];split at hr
   ·rename_i he;rw[he];exact hr
   ·rename_i he;rw[he];exact hr
   ·cases hr
  ·exact h.elim
 case lookup t x k co=>
  unfold Mt at h⊢;simp only at h⊢;split at h
  ·rename_i d z hl
   obtain⟨key,elem,h1,h2,h3⟩:=QG hl
   (try simp only[hl])
   refine Bx h λr hr=>(AY rfl).trans ?_
   unfold nD at hr;simp only[CD,PM,h1];split at hr
   ·rename_i es kv he hk
    simp only[he,hk,h2,h3];exact congrArg (Option.map λv=>(v,H)) hr
   ·cases hr
  ·exact h.elim
 case mapUpdate t m k x=>
  unfold Mt at h⊢;simp only at h⊢;split at h
  ·rename_i d z hl
   obtain⟨key,elem,h1,h2,h3⟩:=QG hl
   (try simp only[hl])
   refine Xq h λr hr=>(AY rfl).trans ?_
   unfold uK at hr;simp only[CD,IW,h1];split at hr
   ·rename_i o kv he hk
    simp only[he,hk,h2];split at hr
    ·rename_i es hes
     simp only[hes];exact congrArg (Option.map λv=>(AG,v)) hr
    ·cases hr
   ·cases hr
  ·exact h.elim
 case mapEntry t m k=>
  unfold Mt at h⊢;simp only at h⊢;split at h
  ·rename_i d z hl
   obtain⟨key,elem,h1,h2,h3⟩:=QG hl
   (try simp only[hl])
   refine Jn h λr hr=>(AY rfl).trans ?_
   unfold ame at hr;simp only[CD,ND,h1];split at hr
   ·rename_i o kv he hk
    simp only[he,hk,h2];split at hr
    ·rename_i es hes
     simp only[hes,h3];exact hr
    ·cases hr
   ·cases hr
  ·exact h.elim
 case entryStore t m s x=>exact Xq h λr hr=>(AY rfl).trans (by simp[CD,hr])
 case call c=>
  obtain⟨callee,args,ats⟩:=c;cases callee with
  | builtin b=>exact XC h
  | invoke r m=>exact h.elim
  | value f=>
   have hn:X4 P dr ρ H ⟨dst,.call {callee:=.value f,args,argTypes:=ats},type,pos,after,guard⟩=none:=(AY rfl).trans rfl;have hal:BB Aq (.call {callee:=.value f,args,argTypes:=ats})=false:=Td _;cases w with
   | false=>
    have key:∀K2:AV→AH→Prop,Mt P ql Aq dr ρ H ⟨dst,.call {callee:=.value f,args,argTypes:=ats},type,pos,after,guard⟩ false K2=K2 AG H:=by
     intro K2;unfold Mt bF;simp only[hal,Bool.not_false,Bool.or_true];unfold bT;simp only[];cases BB ql (Op.call {callee:=.value f,args,argTypes:=ats})<;>cases dr<;>simp only[gC,gP]<;>split<;>rfl
    rw[key]at h;exact⟨AG,H,h,.inr ⟨rfl,rfl,rfl⟩,λK2 h2=>by rw[key];exact h2⟩
   | true=>
   unfold Mt bF at h⊢;simp only[hal,Ak6,Bool.or_false]at h⊢;split at h
   ·rename_i k first cap hf
    (try simp only[hf])
    unfold bT at h⊢;split at h
    ·rename_i hg
     (try simp only[hg])
     split at h
     ·rename_i hp
      (try simp only[hp])
      cases dr with
      | true=>
       obtain⟨r,hr,hk⟩:=h;refine⟨r,H,hk,.inl ⟨rfl,.inr ⟨hn,?_⟩⟩,λK2 hk=>⟨r,hr,hk⟩⟩;unfold N9 Ee;simp only[hf];refine⟨hg,?_⟩;rw[if_pos (by simp[hp])];exact⟨hr,trivial⟩
      | false=>
       obtain⟨r,hr,hk⟩:=h;refine⟨r,H,hk,.inl ⟨rfl,.inr ⟨hn,?_⟩⟩,λK2 hk=>⟨r,hr,hk⟩⟩;unfold N9 Ee;simp only[hf];refine⟨hg,?_⟩;rw[if_neg (by simp)];exact hr.call
     ·rename_i hp
      (try simp only[hp])
      obtain⟨r,H',hr,hk⟩:=h;refine⟨r,H',hk,.inl ⟨rfl,.inr ⟨hn,?_⟩⟩,λK2 hk=>⟨r,H',hr,hk⟩⟩;unfold N9 Ee;simp only[hf];refine⟨hg,?_⟩;rw[if_neg (by simp only[hp,Bool.and_false];simp)];exact hr
    ·exact h.elim
   ·exact h.elim
 all_goals exact h.elim
theorem aU {al:FuncId→Bool}{o:Oper}(ha:BB al o.op=false):Mt P ql al dr ρ H o w K=Mt P ql Aq dr ρ H o w K:=by
 obtain⟨dst,op,type,pos,after,guard⟩:=o;simp only at ha;cases op
 case call c=>
  obtain⟨callee,args,ats⟩:=c;cases callee with
  | value f=>
   have hal:BB Aq (.call {callee:=.value f,args,argTypes:=ats})=false:=Td _;unfold Mt;simp only[ha,hal]
  | builtin b=>rfl
  | invoke r m=>rfl
 all_goals rfl
theorem mM {al:FuncId→Bool}{o:Oper}(h:Mt P ql al true ρ H o w K):Mt P ql Aq true ρ H o w K:=by
 cases ha:BB al o.op with
 | false=>rwa[aU ha]at h
 | true=>
  obtain⟨dst,op,type,pos,after,guard⟩:=o;simp only at ha;unfold BB at ha;split at ha
  ·rename_i k args ats
   exfalso
   have ha':BB al (.call {callee:=.value (.func k),args:=args,argTypes:=ats})=true:=ha;unfold Mt bF at h;simp only[ha']at h;split at h
   ·exact h
   ·split at h<;>exact h
  ·cases ha
theorem pO {al:FuncId→Bool}{ops:Array Oper}{Q:AQ}{T:List AV}{o:Oper}{l:List Oper}(hw:B6 ops T o=some w)(h:Mt P ql al false (Bu T) H o w K)(hk:∀r H',K r H'→AOps P ops Q l (Dj T o.dst r) H'):AOps P ops Q (o::l) T H:=by
 cases ha:BB al o.op with
 | false=>
  rw[aU ha]at h;obtain⟨r,H',hk1,hs,-⟩:=LF h;have hr:=hk r H' hk1;rcases hs with⟨rfl,ho | ⟨ho,hc⟩⟩ | ⟨rfl,rfl,rfl⟩
  ·exact AOps.op hw (by simpa[X4]using ho) hr
  ·unfold N9 at hc
   split at hc
   ·rename_i k args hcall
    simp only[Aa2]at hc;refine AOps.call hw hcall hc.1 (hc.2.mono ?_);rintro r' H'' ⟨rfl,rfl⟩;exact hr
   ·exact hc.elim
  ·exact AOps.unwanted hw hr
 | true=>
  obtain⟨dst,op,type,pos,after,guard⟩:=o;simp only at ha;unfold BB at ha;split at ha
  ·rename_i k args ats
   have ha':BB al (.call {callee:=.value (.func k),args:=args,argTypes:=ats})=true:=ha;unfold Mt bF at h;simp only[ha']at h;split at h
   ·rename_i k' first cap hf
    simp only[Bu]at hf;injection hf with h1 h2 h3;injection h1 with h1;subst h1;subst h2;subst h3;split at h
    ·rename_i hg
     cases w with
     | true=>
      obtain⟨R,hR,hall⟩:=h;exact AOps.call (args:=[]++args.toList.map (Bu T)++[]) hw rfl hg (hR.mono λr H' hr=>hk r H' (hall r H' hr))
     | false=>exact AOps.unwanted hw (hk _ _ h)
    ·cases w with
     | true=>
      obtain⟨r,hr,h⟩:=h;exact AOps.extern (args:=[]++args.toList.map (Bu T)++[]) hw rfl (λG vs hH hv=>hr G vs hH hv) (hk _ _ h)
     | false=>exact AOps.unwanted hw (hk _ _ h)
   ·rename_i hne
    exact(hne k [] [] rfl).elim
  ·cases ha
end
end
end Go.Proofs.YtbppnhenlboefaaGreat.Av
