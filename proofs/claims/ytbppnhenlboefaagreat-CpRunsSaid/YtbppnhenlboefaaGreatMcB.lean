/- Texts of this proof, one behind the other, packed into one file by a program of this session. No condition. -/
import Derived.Test.YtbppnhenlboefaaGreatMcA
import Derived.LoopN
import Derived.LoopNIn
import Derived.OrdersIn
set_option linter.unusedVariables false
set_option linter.unusedSimpArgs false
namespace Go.Proofs.YtbppnhenlboefaaGreat.Av
open Go Go.RowKit
section
section
variable {P : Program}
abbrev xF:=@List.map_congr_left
theorem FU {ρ ρ':Operand→AV}(l:List Operand)(h:∀x∈l,ρ x=ρ' x):l.map ρ=l.map ρ':=xF h
theorem XY {ρ ρ':Operand→AV}{H:AH}{o:Oper}(h:∀x∈o.op.operands.toList,ρ x=ρ' x):Cl P ρ H o=Cl P ρ' H o:=by
 obtain⟨dst,op,type,pos,after,guard⟩:=o;have pairs:∀ps:Array (Nat×Operand),(∀x∈ps.toList.map (·.2),ρ x=ρ' x)→(ps.toList.map λp=>(p.1,ρ p.2))=(ps.toList.map λp=>(p.1,ρ' p.2)):=λps hp=>
  xF λp hm=>by rw[hp p.2 (tZ.2 ⟨p,hm,rfl⟩)]
 cases op
 case move x=>simp only[Cl];rw[h x (by simp[Op.operands])]
 case assign x=>simp only[Cl];rw[h x (by simp[Op.operands])]
 case pick c a b=>simp only[Cl];rw[h c (by simp[Op.operands]),h a (by simp[Op.operands]),h b (by simp[Op.operands])]
 case box e x=>simp only[Cl];rw[h x (by simp[Op.operands])]
 case build t ps=>simp only[Cl];rw[pairs ps (λx hx=>h x (by simpa[Op.operands]using hx))]
 case buildSlice t n ps=>simp only[Cl];rw[pairs ps (λx hx=>h x (by simpa[Op.operands]using hx))]
 case load t a=>simp only[Cl];rw[h a (by simp[Op.operands])]
 case store t a x=>simp only[Cl];rw[h a (by simp[Op.operands]),h x (by simp[Op.operands])]
 case nilCheck x=>simp only[Cl];rw[h x (by simp[Op.operands])]
 case binOp op t x y u=>simp only[Cl];rw[h x (by simp[Op.operands]),h y (by simp[Op.operands])]
 case unOp op t x=>simp only[Cl];rw[h x (by simp[Op.operands])]
 case convert s d x=>simp only[Cl];rw[h x (by simp[Op.operands])]
 case makeFunc fn f c=>
  simp only[Cl];rw[FU f.toList (λx hx=>h x (by simp[Op.operands];exact .inl (Array.mem_toList_iff.1 hx))),FU c.toList (λx hx=>h x (by simp[Op.operands];exact .inr (Array.mem_toList_iff.1 hx)))]
 case makeSlice t l c=>simp only[Cl];rw[h l (by simp[Op.operands]),h c (by simp[Op.operands])]
 case slice t x lo hi mx=>
  simp only[Cl]
  have e:∀q:Option Operand,(∀y,q=some y→ρ y=ρ' y)→q.map ρ=q.map ρ':=by
   intro q hq;cases q with
   | none=>rfl
   | some y=>simp[hq y rfl]
  rw[h x (by simp[Op.operands]),e lo (λy hy=>h y (by simp[Op.operands,hy])),e hi (λy hy=>h y (by simp[Op.operands,hy])),e mx (λy hy=>h y (by simp[Op.operands,hy]))]
 case fieldAddr s x f=>simp only[Cl];rw[h x (by simp[Op.operands])]
 case field s x f=>simp only[Cl];rw[h x (by simp[Op.operands])]
 case indexAddr t x i=>simp only[Cl];rw[h x (by simp[Op.operands]),h i (by simp[Op.operands])]
 case index t x i=>simp only[Cl];rw[h x (by simp[Op.operands]),h i (by simp[Op.operands])]
 case extract t i=>simp only[Cl];rw[h t (by simp[Op.operands])]
 case makeMap t l=>
  simp only[Cl]
  have e:l.map ρ=l.map ρ':=by
   cases l with
   | none=>rfl
   | some y=>simp[h y (by simp[Op.operands])]
  rw[e]
 case lookup t x k co=>simp only[Cl];rw[h x (by simp[Op.operands]),h k (by simp[Op.operands])]
 case mapUpdate t m k x=>simp only[Cl];rw[h m (by simp[Op.operands]),h k (by simp[Op.operands]),h x (by simp[Op.operands])]
 case mapEntry t m k=>simp only[Cl];rw[h m (by simp[Op.operands]),h k (by simp[Op.operands])]
 case entryStore t m s x=>simp only[Cl];rw[h m (by simp[Op.operands]),h s (by simp[Op.operands]),h x (by simp[Op.operands])]
 case call c=>
  obtain⟨callee,args,ats⟩:=c;cases callee
  case builtin b=>
   simp only[Cl];rw[FU args.toList (λx hx=>h x (by simp[Op.operands,Call.operands];exact Array.mem_toList_iff.1 hx))]
  all_goals rfl
 all_goals rfl
def F4:Op→Bool
 | .move _ | .assign _ | .pick .. | .build .. | .load .. | .nilCheck _ | .binOp .. | .unOp .. | .makeFunc .. | .slice .. | .fieldAddr .. | .field .. | .indexAddr .. | .index .. | .extract .. | .lookup ..=>true
 | .call {callee:=.builtin b,..}=>match b with
  | .len | .min | .max | .cap=>true
  | _=>false
 | .convert s d _=>!Nat.beq s d
 | _=>false
theorem MF {ρ:Operand→AV}{H H':AH}{o:Oper}{r:AV}(hs:F4 o.op=true)(h:Cl P ρ H o=some (r,H')):H'=H:=by
 obtain⟨dst,op,type,pos,after,guard⟩:=o;cases op<;>first
  | (simp[F4]at hs;done)
  | exact(FV h).2
  | exact(Cb h).2
  | skip
 case pick c a b=>
  unfold Cl at h;simp only at h;split at h
  ·exact(FV h).2
  ·cases h
 case convert s d x=>
  unfold Cl at h;simp only at h;split at h
  ·exact(FV h).2
  ·split at h
   ·exact(FV h).2
   ·simp only[F4,Bool.not_eq_true']at hs
    unfold UW at h;rw[hs]at h;cases h
 case call c=>
  obtain⟨callee,args,ats⟩:=c;cases callee
  case builtin b=>
   have h':Bg P H b ats.toList (args.toList.map ρ)=some (r,H'):=h;unfold Bg at h';split at h'<;>first
    | exact(Cb h').2
    | (simp[F4]at hs;done)
    | cases h'
  all_goals simp[F4]at hs
def Up (o:Oper)(acc:List Nat):Nat:=o.after.toList.foldl (λs e=>if Region.binds .any e then s||| 2 ^ e.on||| acc.getD e.on 0 else s) 0
def D8:List Oper→List Nat→List Nat
 | [],acc=>acc
 | o::r,acc=>D8 r (acc++[Up o acc])
theorem Tf (l:List Oper):∀acc i,i<acc.length→(D8 l acc).getD i 0=acc.getD i 0:=by
 induction l with
 | nil=>intro acc i _;rfl
 | cons o l ih=>
  intro acc i hi;simp only[D8];rw[ih _ _ (by simp;omega)];simp[tW,sW hi]
abbrev wH:=@Nat.zero_add
theorem Y1 (l:List Oper):∀acc j o,l[j]?=some o→∃acc',(∀i,i<acc.length+j→acc'.getD i 0=(D8 l acc).getD i 0)∧(D8 l acc).getD (acc.length+j) 0=Up o acc':=by
 induction l with
 | nil=>intro acc j o h;simp at h
 | cons p l ih=>
  intro acc j o h;cases j with
  | zero=>
   simp at h;subst h;refine⟨acc,λi hi=>?_,?_⟩
   ·exact(Tf (p::l) acc i (by omega)).symm
   ·simp only[D8]
    rw[Tf _ _ _ (by simp)];simp[tW]
  | succ j=>
   simp only[EN]at h;obtain⟨acc',h1,h2⟩:=ih (acc++[Up p acc]) j o h;simp only[sP,wH]at h1 h2;refine⟨acc',λi hi=>h1 i (by omega),?_⟩;simp only[D8];rw[← h2]
   congr 1
   omega
abbrev wM:=@Bool.or_eq_true
theorem U7 (acc:List Nat)(j:Nat):∀(l:List Edge) (s:Nat),(l.foldl (λs e=>if Region.binds .any e then s||| 2 ^ e.on||| acc.getD e.on 0 else s) s).testBit j=true→
  s.testBit j=true∨∃e∈l,Region.binds .any e=true∧(e.on=j∨(acc.getD e.on 0).testBit j=true):=by
 intro l
 induction l with
 | nil=>intro s h;exact .inl h
 | cons e l ih=>
  intro s h;simp only[List.foldl_cons]at h;rcases ih _ h with h | ⟨e',he',hb,hh⟩
  ·split at h
   ·rename_i hb
    simp only[Nat.testBit_or,wM,Nat.testBit_two_pow,decide_eq_true_eq]at h;rcases h with(h | h) | h
    ·exact .inl h
    ·exact .inr ⟨e,by simp,hb,.inl h⟩
    ·exact .inr ⟨e,by simp,hb,.inr h⟩
   ·exact .inl h
  ·exact .inr ⟨e',by simp[he'],hb,hh⟩
def TD (ops:List Oper)(lst:Nat→Bool):Prop:=∀(i:Nat) (o:Oper),ops[i]?=some o→lst i=true→∀e∈o.after,Region.binds .any e=true→lst e.on=true
def IA (ops:List Oper):Bool:=ops.zipIdx.all λp=>p.1.after.toList.all λe=>!Region.binds .any e||decide (e.on<p.2)
theorem Nq {ops:List Oper}(h:IA ops=true){i:Nat}{o:Oper}(ho:ops[i]?=some o){e:Edge}(he:e∈o.after)(hb:Region.binds .any e=true):e.on<i:=by
 unfold IA at h;rw[tV]at h
 have hm:(o,i)∈ops.zipIdx:=by
  rw[tK];exact⟨i,by rw[List.getElem?_zipIdx,ho];simp⟩
 have:=h _ hm
 rw[tV]at this
 have:=this e (Array.mem_toList_iff.2 he)
 simpa[hb]using this
theorem IR {ops:List Oper}(hd:IA ops=true){lst:Nat→Bool}(hc:TD ops lst):∀(i:Nat) (o:Oper),ops[i]?=some o→(∀e∈o.after,Region.binds .any e=true→lst e.on=true)→
  ∀j,((D8 ops []).getD i 0).testBit j=true→lst j=true:=by
 intro i
 induction i using Nat.strongRecOn with
 | _ i ih=>
  intro o ho hall j hj;obtain⟨acc',h1,h2⟩:=Y1 ops [] i o ho;simp only[vN,wH]at h1 h2;rw[h2]at hj;unfold Up at hj;rcases U7 acc' j _ 0 hj with h0 | ⟨e,he,hb,hh⟩
  ·simp at h0
  ·have he':=Array.mem_toList_iff.1 he
   have hl:=hall e he' hb;have hlt:=Nq hd ho he' hb;rcases hh with rfl | hh
   ·exact hl
   ·rw[h1 _ hlt]at hh
    have hex:∃o',ops[e.on]?=some o':=by
     have:i<ops.length:=(B5.1 ho).1;exact⟨_,E5 (by omega)⟩
    obtain⟨o',ho'⟩:=hex;exact ih _ hlt o' ho' (λe' he' hb'=>hc _ _ ho' hl e' he' hb') j hh
def JP (ops:List Oper)(o:Oper):List Tmp:=
 o.dst.toList++(o.op.operands.toList.filterMap fun | .tmp t=>some t | _=>none)++(match o.guard with
  | some (g,_)=>((ops[g]?).bind (·.dst)).toList
  | none=>[])
theorem Qr {ops:List Oper}{i:Nat}{o:Oper}(ho:ops[i]?=some o):(o,i)∈ops.zipIdx:=by
 rw[tK];exact⟨i,by rw[List.getElem?_zipIdx,ho];simp⟩
def J7 (ops:List Oper)(j:Nat):Option Tmp:=(ops[j]?).bind (·.dst)
def pt (ops:List Oper)(vals:Nat→AV)(lst:Nat→Bool)(T:List AV):Nat→List AV
 | 0=>T
 | n+1=>if lst n then CO (pt ops vals lst T n) (J7 ops n) (vals n)else pt ops vals lst T n
theorem UT (T:List AV)(d:Option Tmp)(v:AV):(CO T d v).length=T.length:=by cases d<;>simp[CO]
theorem Tt {ops:List Oper}{vals:Nat→AV}{lst:Nat→Bool}{T:List AV}:∀n,(pt ops vals lst T n).length=T.length
 | 0=>rfl
 | n+1=>by simp only[pt];split<;>simp[UT,Tt n]
theorem US {T:List AV}{d:Option Tmp}{v:AV}{t:Nat}(h:d≠some t):(CO T d v)[t]?=T[t]?:=by
 cases d with
 | none=>rfl
 | some d=>simp only[CO];rw[Co (λe=>h (by rw[e]))]
theorem aU {ops:List Oper}{vals:Nat→AV}{lst lst':Nat→Bool}{T:List AV}{t:Nat}:∀n,(∀j,j<n→J7 ops j=some t→lst j=lst' j)→(pt ops vals lst T n)[t]?=(pt ops vals lst' T n)[t]?
 | 0,_=>rfl
 | n+1,h=>by
  have ih:=aU (vals:=vals) (T:=T) n (λj hj hd=>h j (by omega) hd)
  by_cases hd:J7 ops n=some t
  ·have he:=h n (by omega) hd
   simp only[pt,he]
   split
   ·rw[hd]
    simp only[CO,uQ];simp[Tt]
   ·exact ih
  ·have side:∀l:Nat→Bool,(pt ops vals l T (n+1))[t]?=(pt ops vals l T n)[t]?:=λl=>by
    simp only[pt]
    split
    ·exact US hd
    ·rfl
   rw[side,side];exact ih
theorem VO {ops:List Oper}{vals:Nat→AV}{lst lst':Nat→Bool}{T:List AV}:∀n,(∀j,j<n→lst j=lst' j)→pt ops vals lst T n=pt ops vals lst' T n
 | 0,_=>rfl
 | n+1,h=>by simp only[pt];rw[VO n (λj hj=>h j (by omega))];simp only[h n (by omega)]
theorem XZ {T:List AV}{d e:Option Tmp}{v u:AV}(h:∀x,d=some x→e≠some x):CO (CO T d v) e u=CO (CO T e u) d v:=by
 cases d with
 | none=>rfl
 | some d=>cases e with
  | none=>rfl
  | some e=>simp only[CO];exact List.set_comm _ _ (λhe=>h d rfl (by rw[he]))
theorem YB {ops:List Oper}{vals:Nat→AV}{T:List AV}{i:Nat}:∀n,i≤n→pt ops vals (λj=>decide (j<i)) T n=pt ops vals (λ_=>true) T i:=by
  have low:∀m,m≤i→pt ops vals (λj=>decide (j<i)) T m=pt ops vals (λ_=>true) T m:=by
    intro m
    induction m with
    | zero=>intro _;rfl
    | succ m ih=>intro hm;simp only[pt];rw[ih (by omega)];simp[show m<i by omega]
  intro n hn
  induction n with
  | zero => have : i = 0 := by omega
            subst this;rfl
  | succ n ih=>
    rcases tD n i with h | h
    · have:i=n+1:=by omega
      subst this;exact low _ (sY _)
    · simp only[pt];rw[if_neg (by simp;omega)];exact ih h
def Gs (lst:Nat→Bool)(i:Nat):Nat→Bool:=λj=>if j=i then true else lst j
theorem aT {ops:List Oper}{vals:Nat→AV}{lst:Nat→Bool}{T:List AV}{i:Nat}(hl:lst i=false):∀n,(∀j,i<j→j<n→lst j=true→∀x,J7 ops i=some x→J7 ops j≠some x)→
  pt ops vals (Gs lst i) T n=if i<n then CO (pt ops vals lst T n) (J7 ops i) (vals i)else pt ops vals lst T n
 | 0,_=>by simp[pt]
 | n+1,h=>by
  have ih:=aT (vals:=vals) (T:=T) hl n (λj h1 h2=>h j h1 (by omega));rcases Nat.lt_trichotomy n i with hlt | he | hgt
  ·rw[if_neg (by omega)]at ih
   rw[if_neg (by omega)];simp only[pt,ih,Gs];rw[if_neg (show ¬n=i by omega)]
  ·subst he
   rw[if_neg (by omega)]at ih;rw[if_pos (by omega)];simp only[pt,ih,Gs,if_true,hl,At]
  ·rw[if_pos hgt]at ih
   rw[if_pos (by omega)];simp only[pt,ih,Gs];rw[if_neg (show ¬n=i by omega)]
   split
   ·rename_i hn
    exact XZ (h n hgt (by omega) hn)
   ·rfl
theorem Sq {ops:List Oper}{T T':List AV}{o:Oper}(h:∀t∈JP ops o,T[t]?=T'[t]?):BC ops.toArray T o=BC ops.toArray T' o:=by
 unfold BC;cases hg:o.guard with
 | none=>rfl
 | some gw=>
  obtain⟨g,want⟩:=gw;simp only
  congr 1
  unfold Q6;cases hd:(ops.toArray[g]?).bind (·.dst)with
  | none=>rfl
  | some d=>
   have hm:d∈JP ops o:=by
    unfold JP;rw[hg];simp only[uN]
    right
    have:(ops[g]?).bind (·.dst)=some d:=by simpa using hd
    simp[this]
   simp only[h d hm]
theorem Kg {ops:List Oper}{T T':List AV}{o:Oper}(h:∀t∈JP ops o,T[t]?=T'[t]?):∀x∈o.op.operands.toList,AF T x=AF T' x:=by
 intro x hx;cases x with
 | tmp t=>
  simp only[AF,tW];rw[h t];unfold JP;simp only[uN];exact .inl (.inr (List.mem_filterMap.2 ⟨.tmp t,hx,rfl⟩))
 | _=>rfl
theorem Gw {L:Array Bool}{j:Nat}(h:j<L.size):L.getD j true=L.getD j false:=by simp[vG,h]
end
end
section
def Ju (f:AV→Option AV):List AV→Option (List AV)
 | []=>some []
 | a::r=>match f a,Ju f r with
  | some x,some xs=>some (x::xs)
  | _,_=>none
def Iv (X:AH):Nat→AV→Option AV
 | 0,_=>none
 | n+1,a=>match a with
  | .lit v=>some (.lit v)
  | .ptr o off=>match X[o]? with
   | some (some (.cells cs))=>(Ju (Iv X n) (cs.drop off)).map .ip
   | _=>none
  | .ip cs=>(Ju (Iv X n) cs).map .ip
  | .sl o off len esz _=>match X[o]? with
   | some (some (.cells cs))=>(Ju (Iv X n) ((cs.drop off).take (len*esz))).map (.imm · len esz)
   | _=>none
  | .imm cs len esz=>(Ju (Iv X n) cs).map (.imm · len esz)
  | .mp _=>none
  | .agg cs=>(Ju (Iv X n) cs).map .agg
  | .tup cs=>(Ju (Iv X n) cs).map .tup
  | .fn f a b=>match Ju (Iv X n) a,Ju (Iv X n) b with
   | some a,some b=>some (.fn f a b)
   | _,_=>none
  | .emp=>some .emp
  | .junk=>some .junk
theorem FT {G' G'':Cfg}{f:AV→Option AV}(hf:∀a v r,VR G' a v→f a=some r→VR G'' r v):∀{as rs:List AV} {vs:List Value},VRs G' as vs→Ju f as=some rs→VRs G'' rs vs
 | [],rs,vs,h,he=>by
  simp only[Ju]at he;injection he with he;subst he
  simpa only[VRs]using h
 | a::as,rs,vs,h,he=>by
  simp only[Ju]at he;split at he
  ·rename_i x xs hx hxs
   injection he with he;subst he;simp only[VRs]at h⊢;obtain⟨v,r,e,h1,h2⟩:=h;exact⟨v,r,e,hf _ _ _ h1 hx,FT hf h2 hxs⟩
  ·cases he
theorem Has.move {G' G'':Cfg}(hw:G''.w=G'.w)(hp:∀b,¬(G'.L b∨G'.K b)→¬(G''.L b∨G''.K b)){ad:Addr}{vs:List Value}(h:Has G' ad vs):Has G'' ad vs:=by
 rcases h with h | ⟨h1,h2⟩
 ·exact .inl h
 ·refine .inr ⟨hp _ h1,?_⟩
  rw[hw];exact h2
theorem Has.of_obj {G' G'':Cfg}(hw:G''.w=G'.w){X:AH}(hr:HR G' X){o:Nat}{cs:List AV}(ho:X[o]?=some (some (.cells cs)))(hN:¬(G''.L (G'.μ o).1∨G''.K (G'.μ o).1))(off:Nat):
  ∃vs,VRs G' (cs.drop off) vs∧Has G'' ⟨(G'.μ o).1,(G'.μ o).2.1+off,none⟩ vs:=by
 obtain⟨c,e,vs,h1,h2,h3,h4,h5⟩:=hr.obj o _ ho;refine⟨vs.drop off,h4.drop off,.inr ⟨hN,λi v hv=>?_⟩⟩;rw[tG]at hv;obtain⟨a,b⟩:=h5 _ _ hv;refine⟨?_,b⟩;rw[Addr.add_lit,hw];unfold World.cell?;rw[h1]
 simpa[uO]using a
theorem Uf {G' G'':Cfg}(hw:G''.w=G'.w)(hp:∀b,¬(G'.L b∨G'.K b)→¬(G''.L b∨G''.K b)){X:AH}(hr:HR G' X)(hX:∀(o:Nat) (x:AObj),X[o]?=some (some x)→¬(G''.L (G'.μ o).1∨G''.K (G'.μ o).1)):
  ∀(n:Nat) (a:AV) (v:Value) (r:AV),VR G' a v→Iv X n a=some r→VR G'' r v
 | 0,a,v,r,h,he=>by cases he
 | n+1,a,v,r,h,he=>by
  have ih:=Uf hw hp hr hX n;cases a with
  | lit u=>simp only[Iv]at he;injection he with he;subst he;simpa only[VR]using h
  | ptr o off=>
   simp only[Iv]at he;split at he
   ·rename_i cs ho
    obtain⟨rs,hrs,rfl⟩:=Option.map_eq_some_iff.1 he;simp only[VR]at h⊢;obtain⟨vs,h1,h2⟩:=Has.of_obj hw hr ho (hX _ _ ho) off;exact⟨_,vs,h.2,h2,FT ih h1 hrs⟩
   ·cases he
  | ip cs=>
   simp only[Iv]at he;obtain⟨rs,hrs,rfl⟩:=Option.map_eq_some_iff.1 he;simp only[VR]at h⊢;obtain⟨ad,vs,e,h1,h2⟩:=h;exact⟨ad,vs,e,h1.move hw hp,FT ih h2 hrs⟩
  | sl o off len esz cap=>
   simp only[Iv]at he;split at he
   ·rename_i cs ho
    obtain⟨rs,hrs,rfl⟩:=Option.map_eq_some_iff.1 he;simp only[VR]at h⊢;obtain⟨ho',a,c,rfl,hlc,hs⟩:=h;obtain⟨vs,h1,h2⟩:=Has.of_obj hw hr ho (hX _ _ ho) off
    by_cases hz:len*esz=0
    ·rw[hz]at hrs
     simp only[vF,Ju]at hrs;injection hrs with hrs;subst hrs;exact⟨a,c,[],rfl,hlc,.inl rfl,.nil⟩
    ·have ha:a=⟨(G'.μ o).1,(G'.μ o).2.1+off,none⟩:=by
      have hlen:len≠0:=λh0=>hz (by rw[h0,Nat.zero_mul])
      unfold SlAt at hs;split at hs
      ·obtain⟨rfl,h0 | h0⟩:=hs
       ·omega
       ·exact h0.1
      ·rcases hs with⟨_,h0 | h0⟩
       ·omega
       ·exact h0.1
     refine⟨a,c,vs.take (len*esz),rfl,hlc,?_,FT ih (h1.take _) hrs⟩;rw[ha];exact h2.take _
   ·cases he
  | imm cs len esz=>
   simp only[Iv]at he;obtain⟨rs,hrs,rfl⟩:=Option.map_eq_some_iff.1 he;simp only[VR]at h⊢;obtain⟨ad,c,vs,e,hl,h1,h2⟩:=h;exact⟨ad,c,vs,e,hl,h1.move hw hp,FT ih h2 hrs⟩
  | mp o=>cases he
  | agg cs=>
   simp only[Iv]at he;obtain⟨rs,hrs,rfl⟩:=Option.map_eq_some_iff.1 he;simp only[VR]at h⊢;obtain⟨vs,e,h2⟩:=h;exact⟨vs,e,FT ih h2 hrs⟩
  | tup cs=>
   simp only[Iv]at he;obtain⟨rs,hrs,rfl⟩:=Option.map_eq_some_iff.1 he;simp only[VR]at h⊢;obtain⟨vs,e,h2⟩:=h;exact⟨vs,e,FT ih h2 hrs⟩
  | fn f a b=>
   simp only[Iv]at he;split at he
   ·rename_i x y hx hy
    injection he with he;subst he;simp only[VR]at h⊢;obtain⟨va,vb,e,h1,h2⟩:=h;exact⟨va,vb,e,FT ih h1 hx,FT ih h2 hy⟩
   ·cases he
  | emp=>simp only[Iv]at he;injection he with he;subst he;simpa only[VR]using h
  | junk=>simp only[Iv]at he;injection he with he;subst he;simp only[VR]
mutual
def noIds:AV→Bool
 | .lit _=>true
 | .ptr ..=>false
 | .ip cs=>Ay cs
 | .sl ..=>false
 | .imm cs _ _=>Ay cs
 | .mp _=>false
 | .agg cs=>Ay cs
 | .tup cs=>Ay cs
 | .fn _ a b=>Ay a&&Ay b
 | .emp=>true
 | .junk=>true
def Ay:List AV→Bool
 | []=>true
 | a::r=>noIds a&&Ay r
end
mutual
theorem Y6:∀{a:AV},noIds a=true→Ee 0 a
 | .lit _,_=>by simp only[Ee]
 | .ptr ..,h=>by simp[noIds]at h
 | .ip cs,h=>by simp only[noIds]at h;simp only[Ee];exact El h
 | .sl ..,h=>by simp[noIds]at h
 | .imm cs _ _,h=>by simp only[noIds]at h;simp only[Ee];exact El h
 | .mp _,h=>by simp[noIds]at h
 | .agg cs,h=>by simp only[noIds]at h;simp only[Ee];exact El h
 | .tup cs,h=>by simp only[noIds]at h;simp only[Ee];exact El h
 | .fn _ a b,h=>by simp only[noIds,tO]at h;simp only[Ee];exact⟨El h.1,El h.2⟩
 | .emp,_=>by simp only[Ee]
 | .junk,_=>by simp only[Ee]
theorem El:∀{as:List AV},Ay as=true→Ct 0 as
 | [],_=>by simp only[Ct]
 | a::r,h=>by simp only[Ay,tO]at h;simp only[Ct];exact⟨Y6 h.1,El h.2⟩
end
section
variable {P : Program}
theorem SC {G:Cfg}{G':Cfg}(hw:G'.w=G.w)(hL:∀b,¬G'.L b)(hK:∀b,G'.K b→G.L b∨G.K b){ad:Addr}{vs:List Value}(h:Has G ad vs):Has G' ad vs:=
 Has.move hw (λb hn hh=>hn (hh.elim (λh=>(hL b h).elim) (hK b))) h
def Cfg.alien (G:Cfg):Cfg:={w:=G.w,n:=0,μ:=G.μ,L:=λ_=>False,K:=λb=>G.L b∨G.K b}
mutual
theorem VR.alien {G:Cfg}:∀{a:AV} {v:Value},VR G a v→Ee 0 a→VR G.alien a v
 | .lit _,_,hv,_=>by simpa only[VR]using hv
 | .ptr o off,v,hv,hb=>by simp only[Ee]at hb;omega
 | .ip cs,v,hv,hb=>by simp only[VR]at hv⊢;simp only[Ee]at hb;obtain⟨x,y,z,t,h⟩:=hv;exact⟨x,y,z,SC (G:=G) (G':=G.alien) rfl (λ_ h=>h) (λ_ h=>h) t,VRs.alien h hb⟩
 | .sl o off len esz cap,v,hv,hb=>by simp only[Ee]at hb;omega
 | .imm cs len esz,v,hv,hb=>by simp only[VR]at hv⊢;simp only[Ee]at hb;obtain⟨x,y,z,t,u,s,h⟩:=hv;exact⟨x,y,z,t,u,SC (G:=G) (G':=G.alien) rfl (λ_ h=>h) (λ_ h=>h) s,VRs.alien h hb⟩
 | .mp o,v,hv,hb=>by simp only[Ee]at hb;omega
 | .agg cs,v,hv,hb=>by simp only[VR]at hv⊢;simp only[Ee]at hb;obtain⟨x,y,h⟩:=hv;exact⟨x,y,VRs.alien h hb⟩
 | .tup cs,v,hv,hb=>by simp only[VR]at hv⊢;simp only[Ee]at hb;obtain⟨x,y,h⟩:=hv;exact⟨x,y,VRs.alien h hb⟩
 | .fn f a b,v,hv,hb=>by simp only[VR]at hv⊢;simp only[Ee]at hb;obtain⟨x,y,z,h,k⟩:=hv;exact⟨x,y,z,VRs.alien h hb.1,VRs.alien k hb.2⟩
 | .emp,_,hv,_=>by simpa only[VR]using hv
 | .junk,_,_,_=>by simp only[VR]
theorem VRs.alien {G:Cfg}:∀{as:List AV} {vs:List Value},VRs G as vs→Ct 0 as→VRs G.alien as vs
 | [],_,hv,_=>by simpa only[VRs]using hv
 | a::as,vs,hv,hb=>by simp only[VRs]at hv⊢;simp only[Ct]at hb;obtain⟨x,y,z,h,k⟩:=hv;exact⟨x,y,z,VR.alien h hb.1,VRs.alien k hb.2⟩
end
theorem ACalls.pure {f:FuncId}{args:List AV}{R:AV→AH→Prop}{R':AV→Prop}(h:ACalls P f args [] R)(hb:Ct 0 args)(hR:∀r X,R r X→∃n r',Iv X n r=some r'∧R' r')(H:AH):
  ACalls P f args H λr' H'=>R' r'∧H'=H:=by
 intro G vs hH hv
 have h0:HR G.alien []:=⟨rfl,λo x h=>by simp at h,λo o' x x' h=>by simp at h,λo x h=>by simp at h,λb h=>by
  rcases h with h | h
  ·exact h.elim
  ·exact hH.lt b h,λb h=>h.elim⟩
 refine(h G.alien vs h0 (hv.alien hb)).mono ?_;rintro e w' ⟨r,X,G',v,rfl,rfl,hE,hx,hX,hq⟩;obtain⟨n,r',hf,hr'⟩:=hR r X hq;have keep:∀k,k<G.w.heap.size→G'.w.heap[k]?=G.w.heap[k]?∧¬G'.L k:=λk hk=>hE.keep k hk (λh=>h)
 let G'':Cfg:={w:=G'.w,n:=G.n,μ:=G.μ,L:=G.L,K:=G.K}
 have hE':Evo G G'':=⟨hE.os,hE.tape,hE.output,hE.size,λk hk hL=>⟨(keep k hk).1,hL⟩,sY _,λ_ _=>rfl,rfl⟩;refine⟨r',H,G'',v,rfl,rfl,hE',?_,?_,hr',rfl⟩
 ·refine Uf (G':=G') (G'':=G'') rfl ?_ hX ?_ n r v r' hx hf
  ·intro b hn hh
   refine hn (.inr ?_);rw[hE.K];exact hh
  ·intro o x ho hh
   have h1:=hX.live o x ho;have h2:(G'.μ o).1<G.w.heap.size:=hH.lt _ hh;exact(keep _ h2).2 h1
 ·exact⟨hH.n,λo x ho=>OR.evo hE' (hH.lt_n ho) (keep _ (hH.lt _ (.inl (hH.live _ _ ho)))).1 (hH.obj o x ho),hH.inj,hH.live,λb hb=>tX (hH.lt b hb) hE.size,hH.dis⟩
theorem XS {G:Cfg}{ρ:Operand→AV}{ρc:Operand→Value}(hf:∀x,VR G (ρ x) (ρc x)){o:Oper}{k:FuncId}{args:List AV}(h:D4 ρ o=some (k,args))(w:World):
  ∃vs:List Value,VRs G args vs∧(execOp ρc o).run P w=(callFunc k vs.toArray).run P w:=by
 obtain⟨dst,op,type,pos,after,guard⟩:=o;unfold D4 at h;split at h
 ·rename_i f args' ats hop
  simp only at hop;subst hop;split at h
  ·rename_i k' first cap hfn
   injection h with h;injection h with h1 h2;subst h1;subst h2;have hv:=hf f;rw[hfn]at hv;simp only[VR]at hv;obtain⟨va,vb,hv,ha,hb⟩:=hv;have hm:=VRs.map_ops hf args'.toList;refine⟨va.toList++args'.toList.map ρc++vb.toList,(ha.append hm).append hb,?_⟩
   have he:(va.toList++args'.toList.map ρc++vb.toList).toArray=va++args'.map ρc++vb:=by
    apply Array.ext';simp
   rw[he];simp[execOp,resolve,hv,Deferred.ofValue,invoke]
  ·cases h
 ·cases h
theorem AOps.extern {ops:Array Oper}{Q:AQ}{o:Oper}{rest:List Oper}{T:List AV}{H:AH}{k:FuncId}{args:List AV}{r:AV}(hw:BC ops T o=some true)(h:D4 (AF T) o=some (k,args))
  (hk:∀(G:Cfg) (vs:List Value),HR G H→VRs G args vs→∃u,(callFunc k vs.toArray).run P G.w=.ok (.value u) G.w∧VR G r u) (hr:AOps P ops Q rest (CO T o.dst r) H):AOps P ops Q (o::rest) T H:=by
 intro G0 G a ρ hE hF hd hH;unfold wpListIn;rw[if_pos (FG hF hw)];obtain⟨vs,hvs,hrun⟩:=XS (P:=P) (λx=>hF.eval x) h G.w;obtain⟨u,hu,hx⟩:=hk G vs hH hvs;refine⟨λ_ _=>trivial,?_⟩;rw[Oper.semAt_eq _ _ _ (Ij h),hrun,hu];exact hr G0 G _ ρ hE (hF.put o.dst hx) (hd.put _ _) hH
end
end
section
section
variable {P : Program}
theorem UJ {ρ ρ':Operand→AV}{o:Oper}(h:∀x∈o.op.operands.toList,ρ x=ρ' x):D4 ρ o=D4 ρ' o:=by
 obtain⟨dst,op,type,pos,after,guard⟩:=o;cases op
 case call c=>
  obtain⟨callee,args,ats⟩:=c;cases callee
  case value f=>
   simp only[D4];rw[h f (by simp[Op.operands,Call.operands]),FU args.toList (λx hx=>h x (by simp[Op.operands,Call.operands];exact .inr (Array.mem_toList_iff.1 hx)))]
  all_goals rfl
 all_goals rfl
def Et (P:Program)(ρ:Operand→AV)(o:Oper):Option AV:=
 match o.op with
 | .buildSlice t len parts=>match D3 P [] t len (parts.toList.map λp=>(p.1,ρ p.2))with
  | some (.sl _ _ l esz _,[some (.cells cs)])=>some (.imm cs l esz)
  | _=>none
 | _=>none
theorem PK {ρ:Operand→AV}{o:Oper}{r:AV}(h:Et P ρ o=some r)(c:Call):o.op≠.defer c:=by
 intro hc;simp[Et,hc]at h
abbrev uL:=@Prod.mk.injEq
abbrev uS:=@List.nil_append
theorem Wn {G:Cfg}{ρ:Operand→AV}{ρc:Operand→Value}{H:AH}(hr:HR G H)(hf:∀x,VR G (ρ x) (ρc x)){o:Oper}{r:AV}(h:Et P ρ o=some r):
  ∃(G':Cfg) (u:Value),(execOp ρc o).run P G.w=.ok (.value u) G'.w∧Evo G G'∧VR G' r u∧HR G' H:=by
 obtain⟨dst,op,type,pos,after,guard⟩:=o;unfold Et at h;split at h
 ·rename_i t len parts hop
  simp only at hop;subst hop;obtain⟨e1,e2⟩:=VRs.map_parts hf parts.toList;split at h
  ·rename_i l esz cs hb
   injection h with h;subst h;unfold D3 at hb;split at hb
   ·rename_i e hu
    split at hb
    ·rename_i i hi
     split at hb
     ·rename_i z hz
      split at hb
      ·rename_i hbb
       obtain⟨h0,h4,h5,h6⟩:=hbb;obtain⟨cs',hcs,he⟩:=Option.map_eq_some_iff.1 hb;simp only[uL,AV.sl.injEq,uS,List.cons.injEq,wE,AObj.cells.injEq,and_true]at he;obtain⟨⟨-,-,rfl,rfl,-⟩,rfl⟩:=he;have hz0:z.cells.size≠0:=by rw[h4];exact h5
       have hv:=Jh (G:=G) (z:=z.cells) len hz0;rw[h4]at hv;obtain⟨us,hus,hR⟩:=Kh (parts.toList.map λp=>(p.1,ρ p.2)) (parts.map fun (i,x)=>(i,ρc x)).toList _ (madeCells z.cells (len*i.size)) cs' (by rw[vD];exact e1) (by rw[vD];exact e2) hv hcs;have hone:=QZ _ _ us (Gt (by rw[vD];exact e2) hcs) (KV _ (λu hu=>tV.1 h6 u hu) hz0) hus
       let G1:Cfg:={G with w:=G.w.alloc (.cells us e)}
       have hE:Evo G G1:=⟨rfl,rfl,rfl,by simp[G1],λk hk hL=>⟨Below.heap_alloc _ _ _ hk,hL⟩,sY _,λ_ _=>rfl,rfl⟩;refine⟨G1,.slice (some ⟨G.w.heap.size,0,none⟩) len len,?_,hE,?_,?_⟩
       ·have hzi:(P.info? e).bind (·.zero)=some z:=by rw[hi];exact hz
        have hn:¬(16777216<len*i.size):=by omega
        by_cases hl:len*i.size=0
        ·have hm0:madeCells z.cells 0= #[]:=by simp[madeCells]
         rw[hl,hm0]at hus;have hr0:Array.range 0= #[]:=rfl;simp at hus;simp[execOp,hr0,Instr.buildSlice,run_underlying hu,sizeOf,typeInfo,hi,hl,hus,newRow,G1]
        ·have:=hus
         unfold madeCells at this;simp at this;simp[execOp,Instr.buildSlice,run_underlying hu,sizeOf,typeInfo,hi,hn,hl,Cj hzi,this,newRow,G1]
       ·simp only[VR]
        refine⟨_,_,us.toList,rfl,sY _,.inr ⟨λhL=>?_,λi v hv=>?_⟩,hR.evo hE⟩
        ·have:=hr.lt _ hL;simp at this
        ·refine⟨?_,hone v (tB hv)⟩
         rw[Addr.add_lit];unfold World.cell?;rw[show G1.w.heap[G.w.heap.size]?=some (.cells us e)from heap_alloc_new G.w _]
         simpa using hv
       ·exact⟨hr.n,λo x ho=>OR.evo hE (hr.lt_n ho) (Below.heap_alloc _ _ _ (hr.lt _ (.inl (hr.live _ _ ho)))) (hr.obj o x ho),hr.inj,hr.live,λb hb=>by have:=hr.lt b hb;simp[G1];omega,hr.dis⟩
      ·cases hb
     ·cases hb
    ·cases hb
   ·cases hb
  ·cases h
 ·cases h
theorem Si {ρ ρ':Operand→AV}{o:Oper}(h:∀x∈o.op.operands.toList,ρ x=ρ' x):Et P ρ o=Et P ρ' o:=by
 obtain⟨dst,op,type,pos,after,guard⟩:=o;cases op
 case buildSlice t n ps=>
  have:(ps.toList.map λp=>(p.1,ρ p.2))=(ps.toList.map λp=>(p.1,ρ' p.2)):=
   xF λp hm=>by rw[h p.2 (by simp[Op.operands];exact⟨p.1,by simpa using hm⟩)]
  simp only[Et];rw[this]
 all_goals rfl
def WY (P:Program)(T:List AV)(H:AH)(o:Oper)(R:AV→AH→Prop):Prop:=
 (∃r H',Cl P (AF T) H o=some (r,H')∧R r H')∨(∃r,Et P (AF T) o=some r∧R r H)∨∃k args,D4 (AF T) o=some (k,args)∧Bs P k=true∧ACalls P k args H R
structure Ord (ops:List Oper):Prop where
 down:IA ops=true
 ord:∀i j oi oj d,ops[i]?=some oi→ops[j]?=some oj→i≠j→oj.dst=some d→d∈JP ops oi→((D8 ops []).getD (max i j) 0).testBit (min i j)=true
def IT (ops:List Oper):Bool:=
 let b:=D8 ops []
 IA ops&&
 (ops.zipIdx.all λp=>ops.zipIdx.all λq=>(p.2==q.2)||(match q.1.dst with
  | some d=> !(JP ops p.1).contains d||(b.getD (max p.2 q.2) 0).testBit (min p.2 q.2)
  | none=>true))
theorem RH {ops:List Oper}(h:IT ops=true):Ord ops:=by
 unfold IT at h;simp only[tO]at h;obtain⟨h1,h3⟩:=h;refine⟨h1,λi j oi oj d hi hj hne hd hl=>?_⟩
 have:=tV.1 (tV.1 h3 _ (Qr hi)) _ (Qr hj)
 simp only[hd]at this;simp only[wM,beq_iff_eq,Bool.not_eq_true',List.contains_eq_mem,decide_eq_false_iff_not]at this;rcases this with h | h | h
 ·exact absurd h hne
 ·exact absurd hl h
 ·exact h
def mY (ops:List Oper)(S:Nat→Bool)(i:Nat)(o:Oper):Prop:=
 ops[i]?=some o∧TD ops S∧S i=false∧∀e∈o.after,Region.binds .any e=true→S e.on=true
def gN (P:Program)(ops:List Oper)(T:List AV){Ω:Type}(Ok:Ω→(Nat→Bool)→Prop)(vals:Ω→Nat→AV)(HS:Ω→(Nat→Bool)→AH):Prop:=
 ∀ω S i o,mY ops S i o→Ok ω S→
  ∃b,BC ops.toArray (pt ops (vals ω) (λ_=>true) T i) o=some b∧
   (b=true→WY P (pt ops (vals ω) (λ_=>true) T i) (HS ω S) o λr H'=>∃ω',Ok ω' (Gs S i)∧(∀j,S j=true→vals ω' j=vals ω j)∧vals ω' i=r∧HS ω' (Gs S i)=H')∧
   (b=false→∃ω',Ok ω' (Gs S i)∧(∀j,S j=true→vals ω' j=vals ω j)∧vals ω' i=A0∧HS ω' (Gs S i)=HS ω S)
theorem X9 {ops:List Oper}{vals vals':Nat→AV}{lst:Nat→Bool}{T:List AV}(h:∀j,lst j=true→vals' j=vals j):∀n,pt ops vals' lst T n=pt ops vals lst T n
 | 0=>rfl
 | n+1=>by
  simp only[pt,X9 h n]
  split
  ·rename_i hn;rw[h n hn]
  ·rfl
abbrev sJ:=And.intro @Array.getD_eq_getD_getElem?.{0} @Option.getD_some.{0}
abbrev sM:=And.intro @Bool.not_false @if_true.{1}
abbrev vH:=@Nat.min_eq_left
theorem YJ {ops:List Oper}(hk:Ord ops){T:List AV}{Ω:Type}{Ok:Ω→(Nat→Bool)→Prop}{vals:Ω→Nat→AV}{HS:Ω→(Nat→Bool)→AH}(hs:gN P ops T Ok vals HS){Q:AQ}{G0:Cfg}
  (last:∀ω S,(∀j,j<ops.length→S j=true)→Ok ω S→Q .normal (pt ops (vals ω) (λ_=>true) T ops.length) (HS ω S)):
  ∀(d:Nat) (listed:Array Bool) (a:Act) (G:Cfg) (ρ:cP) (ω:Ω),listed.size=ops.length→listed.toList.countP (λb=>!b)=d→
   TD ops (λj=>listed.getD j false)→Ok ω (λj=>listed.getD j false)→Evo G0 G→FR G (pt ops (vals ω) (λj=>listed.getD j false) T ops.length) a→DF G ρ a→HR G (HS ω λj=>listed.getD j false)→
   wpAnyIn (FW ρ.1) 0 P .any ops.toArray (SA G0 ρ Q) d listed a G.w:=by
 intro d
 induction d with
 | zero=>
  intro listed a G ρ ω hsz hcnt hcl hok hE hF hd hH
  have all:∀j,j<ops.length→listed.getD j false=true:=by
   intro j hj;have hs:j<listed.size:=by omega
   have:=List.countP_eq_zero.1 hcnt listed[j] (by simp)
   simp only[sJ,uZ hs]
   simpa using this
  refine⟨?_,?_⟩
  ·rw[List.eq_nil_iff_forall_not_mem]
   intro i hi;obtain⟨h0,o,ho,_⟩:=mem_ready.1 hi;have hlt:i<ops.length:=by simpa using(Array.getElem?_eq_some_iff.1 ho).1
   rw[Gw (by omega),all i hlt]at h0;cases h0
  ·have e:pt ops (vals ω) (λj=>listed.getD j false) T ops.length=pt ops (vals ω) (λ_=>true) T ops.length:=
    VO _ λm hm=>all m hm
   rw[e]at hF;exact IV (last ω _ all hok) hE hF hd hH
 | succ d ih=>
  intro listed a G ρ ω hsz hcnt hcl hok hE hF hd hH
  have hex:∃j,j<ops.length∧listed.getD j false=false∧∀i,i<j→listed.getD i false=true:=by
   have:∃j,j<ops.length∧listed.getD j false=false:=by
    apply uB;intro hn
    have:listed.toList.countP (λb=>!b)=0:=by
     refine List.countP_eq_zero.2 λb hb=>?_
     obtain⟨j,hj,rfl⟩:=List.mem_iff_getElem.1 hb;have hj':j<listed.size:=by simpa using hj
     cases h:listed[j]with
     | true=>simp[h]
     | false=>
      exfalso
      refine hn ⟨j,by omega,?_⟩;simp[vG,hj',h]
    omega
   obtain⟨j,hj⟩:=this
   induction j using Nat.strongRecOn with
   | _ j ihj=>
    by_cases h:∃i,i<j∧listed.getD i false=false
    ·obtain⟨i,h1,h2⟩:=h
     exact ihj i h1 ⟨by omega,h2⟩
    ·exact⟨j,hj.1,hj.2,λi hi=>by
      cases h':listed.getD i false with
      | true=>rfl
      | false=>exact absurd ⟨i,hi,h'⟩ h⟩
  obtain⟨j0,hlt,hj0,hbelow⟩:=hex;refine⟨λhnil=>?_,λi hi=>?_⟩
  ·exfalso
   have hin:j0∈Region.ready .any ops.toArray listed:=by
    refine mem_ready.2 ⟨by rw[Gw (by omega)];exact hj0,ops[j0],by simp[hlt],λe he hb=>?_⟩;exact hbelow _ (Nq hk.down (E5 hlt) he hb)
   rw[hnil]at hin;cases hin
  ·obtain⟨h0,o,ho,hmet⟩:=mem_ready.1 hi
   have ho':ops[i]?=some o:=by simpa using ho
   have hil:i<ops.length:=(B5.1 ho').1;have his:i<listed.size:=by omega
   rw[Gw his]at h0
   have hord:∀(j:Nat) (t:Tmp),j<ops.length→J7 ops j=some t→t∈JP ops o→listed.getD j false=decide (j<i):=by
    intro j t hj hdj ht;have hoj:ops[j]?=some ops[j]:=E5 hj
    have hdst:ops[j].dst=some t:=by
     unfold J7 at hdj;rw[hoj]at hdj;exact hdj
    rcases Nat.lt_trichotomy j i with h | h | h
    ·have hb:=hk.ord i j o _ t ho' hoj (by omega) hdst ht
     rw[Nat.max_eq_left (by omega),Nat.min_eq_right (by omega)]at hb
     have:=IR hk.down hcl i o ho' hmet j hb
     try simp only at this
     rw[this];simp[h]
    ·subst h;rw[h0];simp
    ·have hb:=hk.ord i j o _ t ho' hoj (by omega) hdst ht
     rw[Nat.max_eq_right (by omega),vH (by omega)]at hb;cases hlj:listed.getD j false with
     | false=>simp;omega
     | true=>
      exfalso
      have:=IR hk.down hcl j _ hoj (λe he hb'=>hcl j _ hoj hlj e he hb') i hb
      try simp only at this
      rw[h0]at this;cases this
   have hget:∀t∈JP ops o,(pt ops (vals ω) (λj=>listed.getD j false) T ops.length)[t]?=(pt ops (vals ω) (λ_=>true) T i)[t]?:=by
    intro t ht;rw[← YB (i:=i) ops.length (by omega)];exact aU ops.length (λj hj hdj=>hord j t hj hdj ht)
   obtain⟨b,hb,hb1,hb0⟩:=hs ω (λj=>listed.getD j false) i o ⟨ho',hcl,h0,hmet⟩ hok;rw[← Sq hget]at hb
   have hlst':(λj=>(listed.setIfInBounds i true).getD j false)=Gs (λj=>listed.getD j false) i:=by
    funext j
    unfold Gs
    by_cases hji:j=i
    ·subst hji;simp[vG,his]
    ·rw[if_neg hji,getD_set_ne false (uC hji)]
   have hadd:∀ω',(∀j,listed.getD j false=true→vals ω' j=vals ω j)→pt ops (vals ω') (Gs (λj=>listed.getD j false) i) T ops.length=CO (pt ops (vals ω) (λj=>listed.getD j false) T ops.length) o.dst (vals ω' i):=by
    intro ω' hv;rw[aT (by simpa using h0) ops.length,if_pos hil,X9 hv]
    ·simp[J7,ho']
    ·intro j h1 h2 h3 x hx hxj
     have hdx:o.dst=some x:=by simpa[J7,ho']using hx
     have:=hord j x h2 hxj (by unfold JP;simp[hdx])
     try simp only at h3
     rw[h3]at this;simp at this;omega
   have next:∀(ω':Ω) (a':Act) (G':Cfg),Ok ω' (Gs (λj=>listed.getD j false) i)→(∀j,listed.getD j false=true→vals ω' j=vals ω j)→Evo G0 G'→
     FR G' (CO (pt ops (vals ω) (λj=>listed.getD j false) T ops.length) o.dst (vals ω' i)) a'→DF G' ρ a'→HR G' (HS ω' (Gs (λj=>listed.getD j false) i))→
     wpAnyIn (FW ρ.1) 0 P .any ops.toArray (SA G0 ρ Q) d (listed.setIfInBounds i true) a' G'.w:=by
    intro ω' a' G' hok' hv hE' hF' hd' hH';refine ih _ a' G' ρ ω' (by simpa using hsz) ?_ ?_ (by rw[hlst'];exact hok') hE' ?_ hd' (by rw[hlst'];exact hH')
    ·rw[vU,List.countP_set (by simpa using his)]
     have hli : listed.toList[i]'(by simpa using his)=false:=by
      simp only[sJ,uZ his]at h0
      simpa using h0
     rw[hli];simp only[sM,wA,At];omega
    ·intro j oj hoj hlj e he hbe
     have hlj:Gs (λj=>listed.getD j false) i j=true:=(congrFun hlst' j).symm.trans hlj;refine(congrFun hlst' e.on).trans ?_;unfold Gs at hlj⊢
     split
     ·rfl
     ·by_cases hji:j=i
      ·subst hji
       rw[ho']at hoj;injection hoj with hoj;subst hoj;exact hmet e he hbe
      ·rw[if_neg hji]at hlj
       exact hcl j oj hoj hlj e he hbe
    ·rw[hlst',hadd ω' hv];exact hF'
   unfold wpOpIn;simp only[ho];cases b with
   | true=>
    rw[if_pos (FG hF hb)];rcases hb1 rfl with⟨r,H',hop,ω',hok',hv,rfl,rfl⟩ | ⟨r,hop,ω',hok',hv,rfl,hH1⟩ | ⟨k,args,hcall,hgo,hc⟩
    ·rw[← XY (Kg hget)]at hop
     obtain⟨G',u,hrun,hE',hx,hH'⟩:=Zm hH (λx=>hF.eval x) hop;refine⟨λ_ _=>trivial,?_⟩;rw[Oper.semAt_eq _ _ _ (Pj hop)];rcases hrun with hrun | ⟨hrun,rfl⟩<;>rw[hrun]<;>exact next ω' _ G' hok' hv (hE.trans hE') ((FR.evo hE' hF).put o.dst hx) ((hd.evo hE' rfl).put _ _) hH'
    ·rw[← Si (Kg hget)]at hop
     obtain⟨G',u,hrun,hE',hx,hH'⟩:=Wn hH (λx=>hF.eval x) hop;refine⟨λ_ _=>trivial,?_⟩;rw[Oper.semAt_eq _ _ _ (PK hop),hrun];exact next ω' _ G' hok' hv (hE.trans hE') ((FR.evo hE' hF).put o.dst hx) ((hd.evo hE' rfl).put _ _) (by rw[hH1];exact hH')
    ·rw[← UJ (Kg hget)]at hcall
     obtain⟨vs,hvs,hrun⟩:=UK (P:=P) (λx=>hF.eval x) hcall hgo G.w;refine⟨λ_ _=>trivial,?_⟩;rw[Oper.semAt_eq _ _ _ (Ij hcall),hrun];refine⟨λhn=>(by simp[Fence.wide]at hn),CallsIn.mono (Q9 ρ.1 (hc G vs hH hvs)) ?_⟩;rintro e w' ⟨r,H',G',v,rfl,rfl,hE',hx,hH',ω',hok',hv,rfl,rfl⟩;exact next ω' _ G' hok' hv (hE.trans hE') ((FR.evo hE' hF).put o.dst hx) ((hd.evo hE' rfl).put _ _) hH'
   | false=>
    rw[if_neg (by rw[FG hF hb];simp)];obtain⟨ω',hok',hv,hu,hH'⟩:=hb0 rfl;refine⟨λ_ _=>trivial,next ω' _ G hok' hv hE ?_ (hd.put _ _) (by rw[hH'];exact hH)⟩;rw[hu];exact hF.put o.dst (by simp only[A0,VR])
theorem ACode.drawn {id:Nat}{ops:List Oper}{Q:AQ}{T:List AV}{H:AH}(hm:P.follows .mixedOrders=true)(hk:IT ops=true){Ω:Type}(Ok:Ω→(Nat→Bool)→Prop)(vals:Ω→Nat→AV)(HS:Ω→(Nat→Bool)→AH)
  (ω0:Ω) (h0:Ok ω0 (λ_=>false)) (hH0:HS ω0 (λ_=>false)=H) (hs:gN P ops T Ok vals HS)
  (last:∀ω S,(∀j,j<ops.length→S j=true)→Ok ω S→Q .normal (pt ops (vals ω) (λ_=>true) T ops.length) (HS ω S)):ACode P (.region id ops.toArray true) Q T H:=by
 intro G0 G a ρ hE hF hd hH;refine wpIn_region_any hm ?_
 have hz0:(λj=>(Array.replicate ops.toArray.size false).getD j false)=λ_=>false:=by
  funext j
  simp only[vG,Array.getElem?_replicate]
  split<;>simp
 have hF0:FR {G with w:=G.w.drew} (pt ops (vals ω0) (λj=>(Array.replicate ops.toArray.size false).getD j false) T ops.length) a:=by
  have hz:∀m,pt ops (vals ω0) (λ_=>false) T m=T:=by
   intro m
   induction m with
   | zero=>rfl
   | succ m ih=>simp only[pt];rw[if_neg (by simp),ih]
  rw[hz0,hz];exact FR.evo (Evo.drew G) hF
 refine YJ (RH hk) hs last ops.toArray.size (Array.replicate ops.toArray.size false) a {G with w:=G.w.drew} ρ ω0 (by simp) (by simp[List.countP_replicate]) ?_ ?_ (hE.trans (Evo.drew G)) hF0 (hd.evo (Evo.drew G) rfl) ?_
 ·intro j o _ hl
  rw[hz0]at hl;cases hl
 ·rw[hz0];exact h0
 ·rw[hz0,hH0];exact hH.drew
end
end
section
def eY:Value→Value→Bool
 | .bool a,.bool b=>decide (a=b)
 | .int k a,.int l b=>decide (k=l)&&decide (a=b)
 | .string a,.string b=>decide (a=b)
 | .pointer none,.pointer none=>true
 | .slice none a b,.slice none c d=>decide (a=c)&&decide (b=d)
 | .map none,.map none=>true
 | .nilFunc,.nilFunc=>true
 | .nilIface,.nilIface=>true
 | _,_=>false
def kR:Fn→Fn→Bool
 | .func a,.func b=>decide (a=b)
 | _,_=>false
mutual
def AV.same:AV→AV→Bool
 | .lit v,.lit u=>eY v u
 | .ptr a b,.ptr c d=>decide (a=c)&&decide (b=d)
 | .ip a,.ip b=>RQ a b
 | .sl a b c d e,.sl a' b' c' d' e'=>decide (a=a')&&decide (b=b')&&decide (c=c')&&decide (d=d')&&decide (e=e')
 | .imm a l e,.imm b m f=>decide (l=m)&&decide (e=f)&&RQ a b
 | .mp a,.mp b=>decide (a=b)
 | .agg a,.agg b=>RQ a b
 | .tup a,.tup b=>RQ a b
 | .fn f a b,.fn g c d=>kR f g&&RQ a c&&RQ b d
 | .emp,.emp=>true
 | .junk,.junk=>true
 | _,_=>false
def RQ:List AV→List AV→Bool
 | [],[]=>true
 | a::r,b::s=>AV.same a b&&RQ r s
 | _,_=>false
end
def AQ.is (r:Exit×List AV×AH):AQ:=λe T H=>(e,T,H)=r
section
variable {P : Program}
abbrev GU:=FuncId→List AV→AH→Option (AV×AH)
def Qs (P:Program)(call:GU):Prop:=∀f args H r H',call f args H=some (r,H')→ACalls P f args H λr' H''=>r'=r∧H''=H'
abbrev Mr:=FuncId→List AV→Option AV
def Oq (P:Program)(pure:Mr):Prop:=∀f args r,pure f args=some r→Bs P f=true∧∀H,ACalls P f args H λr' H'=>r'=r∧H'=H
def Bt (pl:FuncId→Bool):Op→Bool
 | .call {callee:=.value (.func k),..}=>pl k
 | _=>false
def FD (pl:FuncId→Bool)(op:Op):Bool:=F4 op||Bt pl op||match op with
 | .buildSlice ..=>true
 | _=>false
def I1:Op→Bool
 | .move _ | .assign _ | .pick .. | .build .. | .nilCheck _ | .binOp .. | .unOp .. | .makeFunc .. | .fieldAddr .. | .field .. | .indexAddr .. | .index .. | .extract .. | .buildSlice ..=>true
 | _=>false
theorem fB {x:Option AV}{H H1 H':AH}{r:AV}(h:x.map (·,H)=some (r,H1)):x.map (·,H')=some (r,H'):=by
 obtain⟨a,h1,h2⟩:=Option.map_eq_some_iff.1 h;injection h2 with h2 h3;subst h2;rw[h1];rfl
theorem lG {x r:AV}{H H1 H':AH}(h:some (x,H)=some (r,H1)):some (x,H')=some (r,H'):=by
 injection h with h;injection h with h1 h2;rw[h1]
theorem SJ {ρ:Operand→AV}{H H1 H':AH}{o:Oper}{r:AV}(hb:I1 o.op=true)(hq:F4 o.op=true)(h:Cl P ρ H o=some (r,H1)):Cl P ρ H' o=some (r,H'):=by
 have hH:=MF hq h;subst hH;obtain⟨dst,op,type,pos,after,guard⟩:=o;cases op<;>first
  | (simp[I1]at hb;done)
  | (simp[F4]at hq;done)
  | exact fB h
  | exact lG h
  | skip
 case pick c a b=>
  simp only[Cl]at h⊢;split at h
  ·injection h with h;injection h with h1 h2;rw[h1]
  ·cases h
def Ie (P:Program)(pl:FuncId→Bool)(pure:Mr)(call:GU)(T:List AV)(H:AH)(o:Oper):Option (AV×AH):=
 match o.op with
 | .buildSlice ..=>(Et P (AF T) o).map (·,H)
 | _=>if Bt pl o.op then match D4 (AF T) o with
   | some (f,args)=>(pure f args).map (·,H)
   | none=>none
  else match Cl P (AF T) H o with
  | some x=>some x
  | none=>match D4 (AF T) o with
   | some (f,args)=>if Bs P f then call f args H else none
   | none=>none
def cA (P:Program)(pl:FuncId→Bool)(pure:Mr)(call:GU)(ops:Array Oper):List Oper→List AV→AH→Option (List (AV×AH))
 | [],_,_=>some []
 | o::l,T,H=>match BC ops T o with
  | none=>none
  | some false=>(cA P pl pure call ops l (CO T o.dst A0) H).map ((A0,H)::·)
  | some true=>match Ie P pl pure call T H o with
   | some (r,H')=>(cA P pl pure call ops l (CO T o.dst r) H').map ((r,H')::·)
   | none=>none
def HE (pl:FuncId→Bool)(ops:List Oper)(i:Nat):Bool:=match ops[i]? with
 | some o=>!FD pl o.op
 | none=>false
def Bn (tr:List (AV×AH))(i:Nat):AV:=(tr[i]?.map Prod.fst).getD A0
def DV (tr:List (AV×AH))(i:Nat):AH:=(tr[i]?.map Prod.snd).getD []
def hs (pl:FuncId→Bool)(ops:List Oper)(tr:List (AV×AH))(H:AH)(S:Nat→Bool):Nat→AH
 | 0=>H
 | m+1=>if S m&&HE pl ops m then DV tr m else hs pl ops tr H S m
def Lt (pl:FuncId→Bool)(ops:List Oper)(b:List Nat)(i:Nat)(c:Option Nat):Bool:=
 (List.range ops.length).all (λj=>!(HE pl ops j&&(b.getD i 0).testBit j)||(match c with
  | some c=>decide (j≤c)
  | none=>false))&&(match c with
  | some c=> !(b.getD c 0).testBit i&&decide (c≠i)
  | none=>true)
def Vz (ops:List Oper):List Oper→List (AV×AH)→List AV→List (List AV)
 | o::l,(r,_)::tr,T=>T::Vz ops l tr (CO T o.dst r)
 | _,_,_=>[]
def aA (P:Program)(pl:FuncId→Bool)(ops:List Oper)(tr:List (AV×AH))(H:AH)(T:List AV):Bool:=
 let b:=D8 ops []
 let fr:=Vz ops ops tr T
 let stages:=none::((List.range ops.length).filter (HE pl ops)).map some
 ops.zipIdx.all λp=>!FD pl p.1.op||I1 p.1.op||Bt pl p.1.op||match fr[p.2]? with
  | some Ti=>match BC ops.toArray Ti p.1 with
   | some true=>stages.all λc=>!Lt pl ops b p.2 c||(match Cl P (AF Ti) (match c with | some c=>DV tr c | none=>H) p.1 with
    | some (r,_)=>AV.same r (Bn tr p.2)
    | none=>false)
   | _=>true
  | none=>false
def Nk (pl:FuncId→Bool)(ops:List Oper):Bool:=
 let b:=D8 ops []
 ops.zipIdx.all λp=>!(HE pl ops p.2)||(List.range p.2).all λj=>!(HE pl ops j)||(b.getD p.2 0).testBit j
def fO (P:Program)(pl:FuncId→Bool)(pure:Mr)(call:GU)(ops:List Oper)(T:List AV)(H:AH):Option (List AV×AH):=
 if P.follows .mixedOrders&&IT ops&&Nk pl ops then match cA P pl pure call ops.toArray ops T H with
  | some tr=>if aA P pl ops tr H T then some (pt ops (Bn tr) (λ_=>true) T ops.length,hs pl ops tr H (λ_=>true) ops.length)else none
  | none=>none
 else none
def YX (P:Program)(pl:FuncId→Bool)(ops:List Oper)(tr:List (AV×AH))(T:List AV)(H:AH)(i:Nat)(o:Oper):Prop:=
 ∃b,BC ops.toArray (pt ops (Bn tr) (λ_=>true) T i) o=some b∧
  (b=false→Bn tr i=A0∧DV tr i=hs pl ops tr H (λ_=>true) i)∧
  (b=true→∃pure call,Oq P pure∧Qs P call∧Ie P pl pure call (pt ops (Bn tr) (λ_=>true) T i) (hs pl ops tr H (λ_=>true) i) o=some (Bn tr i,DV tr i))
theorem Zb {ρ:Operand→AV}{o:Oper}{q:FuncId×List AV}(h:D4 ρ o=some q):F4 o.op=false:=by
 obtain⟨dst,op,type,pos,after,guard⟩:=o;unfold D4 at h;split at h
 ·rename_i hop
  simp only at hop;subst hop;rfl
 ·cases h
theorem If {pl : FuncId→Bool} {pure : Mr} (hp : Oq P pure) {call : GU} {T : List AV} {H H' : AH} {o : Oper} {r : AV} (hq : FD pl o.op=true) (h : Ie P pl pure call T H o=some (r,H')) :
    H'=H∧(Et P (AF T) o=some r∨(Bt pl o.op=true∧∃f args,D4 (AF T) o=some (f,args)∧Bs P f=true∧∀H,ACalls P f args H λr' H'=>r'=r∧H'=H)∨(Cl P (AF T) H o=some (r,H)∧F4 o.op=true∧Bt pl o.op=false)):=by
  unfold Ie at h;split at h
  · obtain⟨a,h1,h2⟩:=Option.map_eq_some_iff.1 h;injection h2 with h2 h3;subst h2;subst h3;exact⟨rfl,.inl h1⟩
  · rename_i hnb
    by_cases hpo:Bt pl o.op=true
    · rw[if_pos hpo]at h;split at h
      · rename_i f args hc;obtain⟨a,h1,h2⟩:=Option.map_eq_some_iff.1 h;injection h2 with h2 h3;subst h2;subst h3;exact⟨rfl,.inr (.inl ⟨hpo,f,args,hc,hp f args _ h1⟩)⟩
      · cases h
    · rw[if_neg hpo]at h;have hpf:Bt pl o.op=false:=by simpa using hpo
      have hst:F4 o.op=true:=by
        unfold FD at hq;simp only[wM]at hq;rcases hq with(h | h) | h
        · exact h
        · exact absurd h hpo
        · first
            | (split at h
               · rename_i h1;exact absurd h1 (hnb _ _ _)
               · cases h)
            | cases h
      split at h
      · rename_i x hx;injection h with h;subst h
        have:=MF hst hx
        subst this;exact⟨rfl,.inr (.inr ⟨hx,hst,hpf⟩)⟩
      · exfalso
        split at h
        · rename_i f args hc;rw[Zb hc]at hst;cases hst
        · cases h
theorem Xv {pl:FuncId→Bool}{ops:List Oper}{tr:List (AV×AH)}{H:AH}{S:Nat→Bool}:∀m,(hs pl ops tr H S m=H∧∀j,j<m→¬(S j=true∧HE pl ops j=true))∨
  ∃c,c<m∧S c=true∧HE pl ops c=true∧hs pl ops tr H S m=DV tr c∧∀j,c<j→j<m→¬(S j=true∧HE pl ops j=true)
 | 0=>.inl ⟨rfl,λj h=>by omega⟩
 | m+1=>by
  simp only[hs]
  by_cases h:S m=true∧HE pl ops m=true
  ·rw[if_pos (by simp[h.1,h.2])]
   exact .inr ⟨m,by omega,h.1,h.2,rfl,λj h1 h2=>by omega⟩
  ·rw[if_neg (by simpa using h)]
   rcases Xv m with⟨h1,h2⟩ | ⟨c,h1,h2,h3,h4,h5⟩
   ·refine .inl ⟨h1,λj hj=>?_⟩
    rcases Nat.lt_succ_iff_lt_or_eq.1 hj with hj | rfl
    ·exact h2 j hj
    ·exact h
   ·refine .inr ⟨c,by omega,h2,h3,h4,λj hj1 hj2=>?_⟩
    rcases Nat.lt_succ_iff_lt_or_eq.1 hj2 with hj | rfl
    ·exact h5 j hj1 hj
    ·exact h
theorem Ek {pl:FuncId→Bool}{ops:List Oper}{tr:List (AV×AH)}{H:AH}{S S':Nat→Bool}:∀m,(∀j,j<m→HE pl ops j=true→S j=S' j)→hs pl ops tr H S m=hs pl ops tr H S' m
 | 0,_=>rfl
 | m+1,h=>by
  simp only[hs,Ek m (λj hj=>h j (by omega))];cases hc:HE pl ops m with
  | false=>simp
  | true=>rw[h m (by omega) hc]
theorem Jr {pl:FuncId→Bool}{ops:List Oper}{tr:List (AV×AH)}{H:AH}{S:Nat→Bool}{i:Nat}:∀m,i≤m→(∀j,i≤j→j<m→¬(S j=true∧HE pl ops j=true))→hs pl ops tr H S m=hs pl ops tr H S i
 | 0,hi,_=>by rw[show i=0 by omega]
 | m+1,hi,h=>by
  rcases tD m i with hlt | hge
  ·rw[show i=m+1 by omega]
  ·simp only[hs]
   rw[if_neg (by simpa using h m hge (by omega))];exact Jr m hge (λj h1 h2=>h j h1 (by omega))
end
end
section
def V2:Exit→Bool
 | .normal | .ret=>true
 | _=>false
section
variable {P : Program}
def BCall (P:Program)(f:FuncId)(args:List AV)(H:AH)(r:AV)(H':AH):Prop:=ACalls P f args H λr' H''=>r'=r∧H''=H'
def BPure (P:Program)(f:FuncId)(args:List AV)(r:AV):Prop:=∀H,BCall P f args H r H
theorem BPure.of {f:FuncId}{args:List AV}{r0 r:AV}{X:AH}(h:BCall P f args [] r0 X)(hb:Ay args=true){n:Nat}(hf:Iv X n r0=some r):BPure P f args r:=
 λH=>ACalls.pure (R':=λr'=>r'=r) h (El hb) (λr1 X1 h1=>⟨n,r,by rw[h1.1,h1.2];exact hf,rfl⟩) H
inductive TraceR (P:Program) (ql:FuncId→Bool) (ops:Array Oper):List Oper→List AV→AH→List (AV×AH)→List AV→AH→Prop
 | nil (T:List AV) (H:AH):TraceR P ql ops [] T H [] T H
 | skip {o:Oper} {l:List Oper} {T T':List AV} {H H':AH} {tl:List (AV×AH)} (hw:BC ops T o=some false) (hr:TraceR P ql ops l (CO T o.dst A0) H tl T' H'):TraceR P ql ops (o::l) T H ((A0,H)::tl) T' H'
 | step {o:Oper} {l:List Oper} {T T':List AV} {H H1 H':AH} {r:AV} {tl:List (AV×AH)} (hw:BC ops T o=some true) (hs:∃pure call,Oq P pure∧Qs P call∧Ie P ql pure call T H o=some (r,H1))
   (hr:TraceR P ql ops l (CO T o.dst r) H1 tl T' H'):TraceR P ql ops (o::l) T H ((r,H1)::tl) T' H'
abbrev sN:=And.intro @Dt.{0} @Nat.add_zero
theorem Wc {ql:FuncId→Bool}{ops:List Oper}{T:List AV}{H:AH}{tr:List (AV×AH)}:∀(l:List Oper) (tl:List (AV×AH)) (k:Nat) (Tk:List AV) (Hk:AH) (T':List AV) (H':AH),(∀(j:Nat) (o:Oper),l[j]?=some o→ops[k+j]?=some o)→(∀j,tl[j]?=tr[k+j]?)→
  pt ops (Bn tr) (λ_=>true) T k=Tk→hs ql ops tr H (λ_=>true) k=Hk→TraceR P ql ops.toArray l Tk Hk tl T' H'→
  pt ops (Bn tr) (λ_=>true) T (k+l.length)=T'∧hs ql ops tr H (λ_=>true) (k+l.length)=H'∧∀(j:Nat) (o:Oper),l[j]?=some o→YX P ql ops tr T H (k+j) o:=by
 intro l
 induction l with
 | nil=>
  intro tl k Tk Hk T' H' hl ht hT hH h;cases h;exact⟨by simpa using hT,by simpa using hH,λj o hj=>by simp at hj⟩
 | cons o l ih=>
  intro tl k Tk Hk T' H' hl ht hT hH h;have ho:ops[k]?=some o:=by simpa using hl 0 o rfl
  have step:∀(r:AV) (H1:AH) (t2:List (AV×AH)),tl=(r,H1)::t2→TraceR P ql ops.toArray l (CO Tk o.dst r) H1 t2 T' H'→(FD ql o.op=true→H1=Hk)→(YX P ql ops tr T H k o)→
    pt ops (Bn tr) (λ_=>true) T (k+(o::l).length)=T'∧hs ql ops tr H (λ_=>true) (k+(o::l).length)=H'∧∀(j:Nat) (o1:Oper),(o::l)[j]?=some o1→YX P ql ops tr T H (k+j) o1:=by
   intro r H1 t2 htl h2 hq htold;subst htl;have h0:=ht 0;simp only[sN]at h0;have hv:Bn tr k=r:=by unfold Bn;rw[← h0];rfl
   have hh:DV tr k=H1:=by unfold DV;rw[← h0];rfl
   obtain⟨e1,e2,e3⟩:=ih t2 (k+1) (CO Tk o.dst r) H1 T' H' (λj o' hj=>by
     rw[show k+1+j=k+(j+1) by omega];exact hl (j+1) o' (by simpa using hj)) (λj=>by
     have:=ht (j+1)
     rw[show k+1+j=k+(j+1) by omega,← this]
     simp) (by
     simp only[pt,if_true];rw[hT,hv];simp[J7,ho]) (by
     have hcn:HE ql ops k=!FD ql o.op:=by unfold HE;rw[ho]
     simp only[hs,wB,hcn]
     by_cases hqo:FD ql o.op=true
     ·rw[if_neg (by simp[hqo]),hq hqo];exact hH
     ·rw[if_pos (by simpa using hqo)];exact hh) h2
   have hkl:k+(o::l).length=k+1+l.length:=by simp;omega
   rw[hkl];refine⟨e1,e2,λj o1 hj=>?_⟩;cases j with
   | zero=>simp only[Dt]at hj;injection hj with hj;subst hj;exact htold
   | succ j=>rw[show k+(j+1)=k+1+j by omega];exact e3 j o1 (by simpa using hj)
  have h00:∀(r:AV) (H1:AH) (t2:List (AV×AH)),tl=(r,H1)::t2→Bn tr k=r∧DV tr k=H1:=by
   intro r H1 t2 htl;have h0:=ht 0;rw[htl]at h0;simp only[sN]at h0;exact⟨by unfold Bn;rw[← h0];rfl,by unfold DV;rw[← h0];rfl⟩
  cases h with
  | skip hw hr=>
   obtain⟨a1,a2⟩:=h00 _ _ _ rfl;exact step _ _ _ rfl hr (λ_=>rfl) ⟨false,by rw[hT];exact hw,(λ_=>⟨a1,by rw[a2,hH]⟩),(λh=>by cases h)⟩
  | step hw hs hr=>
   obtain⟨pu,cl,hp,hc,hst⟩:=hs;obtain⟨a1,a2⟩:=h00 _ _ _ rfl;exact step _ _ _ rfl hr (λhq=>(If hp hq hst).1) ⟨true,by rw[hT];exact hw,(λh=>by cases h),(λ_=>⟨pu,cl,hp,hc,by rw[hT,hH,a1,a2];exact hst⟩)⟩
theorem Vc {ql:FuncId→Bool}{op:Op}(h:I1 op=true):FD ql op=true:=by
 cases op<;>first
  | rfl
  | cases h
def oH (ql:FuncId→Bool)(ops:List Oper):Bool:=
 let b:=D8 ops []
 ops.zipIdx.all λp=>I1 p.1.op||Bt ql p.1.op||(List.range ops.length).all λj=>!(HE ql ops j)||decide (j=p.2)||(b.getD (max p.2 j) 0).testBit (min p.2 j)
abbrev sC:=And.intro @At @Bool.false_and
abbrev xK:=@Nat.eq_or_lt_of_le
theorem kL {ql:FuncId→Bool}{id:Nat}{ops:List Oper}{T:List AV}{H:AH}{tr:List (AV×AH)}(hm:P.follows .mixedOrders=true)(hord:IT ops=true)(hfix:oH ql ops=true)
  (htold:∀(i:Nat) (o:Oper),ops[i]?=some o→YX P ql ops tr T H i o) {Q:AQ} (hq:Q .normal (pt ops (Bn tr) (λ_=>true) T ops.length) (hs ql ops tr H (λ_=>true) ops.length)):ACode P (.region id ops.toArray true) Q T H:=by
 have hk:=RH hord;refine ACode.drawn hm hord (Ω:=Unit) (λ_ _=>True) (λ_=>Bn tr) (λ_ S=>hs ql ops tr H S ops.length) () trivial ?_ ?_ ?_
 ·rw[Ek (S':=λ_=>false) _ (λ_ _ _=>rfl)]
  have:∀m,hs ql ops tr H (λ_=>false) m=H:=by
   intro m
   induction m with
   | zero=>rfl
   | succ m ih=>simp only[hs,sC];exact ih
  exact this _
 ·intro _ S i o ⟨ho,hcl,hSi,hmet⟩ _
  have hil:=(B5.1 ho).1;obtain⟨b,hw,hw0,hw1⟩:=htold i o ho;have before:∀j,(((D8 ops []).getD i 0).testBit j=true)→S j=true:=λj hj=>IR hk.down hcl i o ho hmet j hj
  have behind:∀c,S c=true→c<ops.length→((D8 ops []).getD c 0).testBit i=true→False:=by
   intro c hc hcl' hbit
   have:=IR hk.down hcl c _ (E5 hcl') (λe he hb'=>hcl c _ (E5 hcl') hc e he hb') i hbit
   rw[hSi]at this;cases this
  have R0:∀(r:AV) (H1:AH),Bn tr i=r→hs ql ops tr H (Gs S i) ops.length=H1→∃ω':Unit,True∧(∀j,S j=true→Bn tr j=Bn tr j)∧Bn tr i=r∧hs ql ops tr H (Gs S i) ops.length=H1:=
   λr H1 a1 a2=>⟨(),trivial,λ_ _=>rfl,a1,a2⟩
  have still:HE ql ops i=false→hs ql ops tr H (Gs S i) ops.length=hs ql ops tr H S ops.length:=by
   intro hci;refine Ek _ λj _ hj=>?_
   unfold Gs
   split
   ·rename_i he;rw[he,hci]at hj;cases hj
   ·rfl
  have fixed:(∀j,j<ops.length→HE ql ops j=true→j≠i→((D8 ops []).getD (max i j) 0).testBit (min i j)=true)→hs ql ops tr H S ops.length=hs ql ops tr H (λ_=>true) i∧
    (∀j,i≤j→j<ops.length→¬(S j=true∧HE ql ops j=true)):=by
   intro hf
   have above:∀j,i≤j→j<ops.length→¬(S j=true∧HE ql ops j=true):=by
    rintro j hj hjl ⟨h1,h2⟩;rcases xK hj with rfl | hlt
    ·rw[hSi]at h1;cases h1
    ·have:=hf j hjl h2 (by omega)
     rw[Nat.max_eq_right (by omega),vH (by omega)]at this;exact behind j h1 hjl this
   refine⟨?_,above⟩;rw[Jr ops.length (by omega) above];refine Ek _ λj hj hcj=>?_
   have:=hf j (by omega) hcj (by omega)
   rw[Nat.max_eq_left (by omega),Nat.min_eq_right (by omega)]at this;exact before j this
  have hfx:=tV.1 hfix _ (Qr ho);simp only[wM]at hfx
  have unfix:(I1 o.op=false∧Bt ql o.op=false)→∀j,j<ops.length→HE ql ops j=true→j≠i→((D8 ops []).getD (max i j) 0).testBit (min i j)=true:=by
   rintro⟨h1,h2⟩ j hj hcj hne;rcases hfx with(h | h) | h
   ·rw[h1]at h;cases h
   ·rw[h2]at h;cases h
   ·have:=tV.1 h j (List.mem_range.2 hj)
    simpa[hcj,hne]using this
  have chNot:HE ql ops i=true→I1 o.op=false∧Bt ql o.op=false∧FD ql o.op=false:=by
   intro hci;have hq0:FD ql o.op=false:=by unfold HE at hci;rw[ho]at hci;simpa using hci
   refine⟨?_,?_,hq0⟩
   ·cases hb:I1 o.op with
    | false=>rfl
    | true=>
     exfalso
     rw[Vc hb]at hq0;cases hq0
   ·unfold FD at hq0
    simp only[Bool.or_eq_false_iff]at hq0;exact hq0.1.2
  have e2:HE ql ops i=true→hs ql ops tr H (Gs S i) ops.length=DV tr i:=by
   intro hci;obtain⟨c1,c2,-⟩:=chNot hci;obtain⟨-,above⟩:=fixed (unfix ⟨c1,c2⟩);rw[Jr (i:=i+1) ops.length (by omega) (λj h1 h2 h3=>above j (by omega) h2 ⟨by have:=h3.1;unfold Gs at this;rwa[if_neg (by omega)]at this,h3.2⟩)];simp only[hs];rw[if_pos (by simp[Gs,hci])]
  refine⟨b,hw,λhb=>?_,λhb=>?_⟩
  ·subst hb
   obtain⟨pu,cl,hpu,hcl1,hst⟩:=hw1 rfl;cases hqi:FD ql o.op with
   | true=>
    have hci:HE ql ops i=false:=by unfold HE;rw[ho];simp[hqi]
    obtain⟨_,hz | ⟨hpo,f,args,hca,hgo,hal⟩ | ⟨hz,hstill,hnp⟩⟩:=If hpu hqi hst
    ·exact .inr (.inl ⟨_,hz,R0 _ _ rfl (still hci)⟩)
    ·refine .inr (.inr ⟨f,args,hca,hgo,(hal _).mono ?_⟩)
     rintro r' H'' ⟨rfl,rfl⟩;exact R0 _ _ rfl (still hci)
    ·left
     by_cases hbl:I1 o.op=true
     ·exact⟨_,_,SJ hbl hstill hz,R0 _ _ rfl (still hci)⟩
     ·have:=(fixed (unfix ⟨by simpa using hbl,hnp⟩)).1
      refine⟨_,_,?_,R0 _ _ rfl (still hci)⟩
      show Cl P _ (hs ql ops tr H S ops.length) o=_
      rw[this];exact hz
   | false=>
    have hci:HE ql ops i=true:=by unfold HE;rw[ho];simp[hqi]
    obtain⟨c1,c2,-⟩:=chNot hci;have e1:=(fixed (unfix ⟨c1,c2⟩)).1
    show WY P _ (hs ql ops tr H S ops.length) o _
    rw[e1];unfold Ie at hst;split at hst
    ·rename_i hbs;unfold FD at hqi;simp[hbs]at hqi
    ·rw[if_neg (by simp[c2])]at hst
     split at hst
     ·rename_i x hx
      injection hst with hst;subst hst;exact .inl ⟨_,_,hx,R0 _ _ rfl (e2 hci)⟩
     ·split at hst
      ·rename_i f args hcall
       split at hst
       ·rename_i hgo
        refine .inr (.inr ⟨f,args,hcall,hgo,(hcl1 f args _ _ _ hst).mono ?_⟩);rintro r' H'' ⟨rfl,rfl⟩;exact R0 _ _ rfl (e2 hci)
       ·cases hst
      ·cases hst
  ·subst hb
   obtain⟨a1,a2⟩:=hw0 rfl;refine R0 _ _ a1 ?_;cases hci:HE ql ops i with
   | false=>exact still hci
   | true=>
    obtain⟨c1,c2,-⟩:=chNot hci;rw[e2 hci,a2];exact(fixed (unfix ⟨c1,c2⟩)).1.symm
 ·intro _ S hall _
  show Q .normal (pt ops (Bn tr) (λ_=>true) T ops.length) (hs ql ops tr H S ops.length)
  rw[Ek (S':=λ_=>true) _ (λj hj _=>hall j hj)];exact hq
abbrev sQ:=And.intro @Bool.and_eq_false_iff @Bool.not_eq_true'
theorem Yp {pl : FuncId→Bool} {id : Nat} {ops : List Oper} {T : List AV} {H : AH} {tr : List (AV × AH)} (hm : P.follows .mixedOrders=true) (hord : IT ops=true) (hch : Nk pl ops=true)
    (htold:∀(i:Nat) (o:Oper),ops[i]?=some o→YX P pl ops tr T H i o)
    (hins:∀(i:Nat) (o:Oper),ops[i]?=some o→FD pl o.op=true→I1 o.op=false→Bt pl o.op=false→BC ops.toArray (pt ops (Bn tr) (λ_=>true) T i) o=some true→
      ∀(c:Option Nat),(c=none∨∃d,c=some d∧d<ops.length∧HE pl ops d=true)→Lt pl ops (D8 ops []) i c=true→
        ∃H2,Cl P (AF (pt ops (Bn tr) (λ_=>true) T i)) (match c with | some c=>DV tr c | none=>H) o=some (Bn tr i,H2))
    {Q:AQ} (hq:Q .normal (pt ops (Bn tr) (λ_=>true) T ops.length) (hs pl ops tr H (λ_=>true) ops.length)):ACode P (.region id ops.toArray true) Q T H:=by
  have hk:=RH hord;refine ACode.drawn hm hord (Ω:=Unit) (λ_ _=>True) (λ_=>Bn tr) (λ_ S=>hs pl ops tr H S ops.length) () trivial ?_ ?_ ?_
  · rw[Ek (S':=λ_=>false) _ (λ_ _ _=>rfl)]
    have:∀m,hs pl ops tr H (λ_=>false) m=H:=by
      intro m
      induction m with
      | zero=>rfl
      | succ m ih=>simp only[hs,sC];exact ih
    exact this _
  · intro _ S i o ⟨ho,hcl,hSi,hmet⟩ _;have hil:=(B5.1 ho).1;obtain⟨b,hw,hw0,hw1⟩:=htold i o ho;have before:∀j,(((D8 ops []).getD i 0).testBit j=true)→S j=true:=λj hj=>IR hk.down hcl i o ho hmet j hj
    have behind:∀c,S c=true→c<ops.length→((D8 ops []).getD c 0).testBit i=true→False:=by
      intro c hc hcl' hbit
      have:=IR hk.down hcl c _ (E5 hcl') (λe he hb'=>hcl c _ (E5 hcl') hc e he hb') i hbit
      rw[hSi]at this;cases this
    have chain:∀c d,c<d→d<ops.length→HE pl ops c=true→HE pl ops d=true→((D8 ops []).getD d 0).testBit c=true:=by
      intro c d hcd hd h1 h2
      have:=tV.1 hch _ (Qr (E5 hd))
      simp only[h2,wA,Bool.false_or]at this
      have:=tV.1 this c (List.mem_range.2 hcd)
      simpa[h1]using this
    have R0:∀(r:AV) (H1:AH),Bn tr i=r→hs pl ops tr H (Gs S i) ops.length=H1→∃ω':Unit,True∧(∀j,S j=true→Bn tr j=Bn tr j)∧Bn tr i=r∧hs pl ops tr H (Gs S i) ops.length=H1:=
      λr H1 a1 a2=>⟨(),trivial,λ_ _=>rfl,a1,a2⟩
    refine⟨b,hw,λhb=>?_,λhb=>?_⟩
    · subst hb;obtain⟨pu,cl,hpu,hcl1,hst⟩:=hw1 rfl;cases hqi:FD pl o.op with
      | true=>
        have hci:HE pl ops i=false:=by unfold HE;rw[ho];simp[hqi]
        have hsame:hs pl ops tr H (Gs S i) ops.length=hs pl ops tr H S ops.length:=by
          refine Ek _ λj _ hj=>?_
          unfold Gs
          split
          · rename_i he;rw[he,hci]at hj;cases hj
          · rfl
        obtain⟨_,hz | ⟨hpo,f,args,hca,hgo,hal⟩ | ⟨hz,hstill,hnp⟩⟩:=If hpu hqi hst
        · exact .inr (.inl ⟨_,hz,R0 _ _ rfl hsame⟩)
        · refine .inr (.inr ⟨f,args,hca,hgo,(hal _).mono ?_⟩);rintro r' H'' ⟨rfl,rfl⟩;exact R0 _ _ rfl hsame
        · left
          by_cases hbl:I1 o.op=true
          · exact⟨_,_,SJ hbl hstill hz,R0 _ _ rfl hsame⟩
          · have stage : ∀ (c : Option Nat), (c = none ∨ ∃ d, c = some d ∧ d < ops.length ∧ HE pl ops d = true) → Lt pl ops (D8 ops []) i c = true →
                ∃H2,Cl P (AF (pt ops (Bn tr) (λ_=>true) T i)) (match c with | some c=>DV tr c | none=>H) o=some (Bn tr i,H2):=hins i o ho hqi (by simpa using hbl) hnp hw
            have fin:∃H2,Cl P (AF (pt ops (Bn tr) (λ_=>true) T i)) (hs pl ops tr H S ops.length) o=some (Bn tr i,H2):=by
              rcases Xv (ops:=ops) (tr:=tr) (H:=H) (S:=S) ops.length with⟨e1,e2⟩ | ⟨c,e1,e2,e3,e4,e5⟩
              · rw[e1];refine stage none (.inl rfl) ?_;unfold Lt;simp only[Bool.and_true];refine tV.2 λj hj=>?_
                have hj:=List.mem_range.1 hj;simp only[Bool.or_false,sQ];cases hcj:HE pl ops j with
                | false=>exact .inl rfl
                | true=>
                  right
                  cases hbj:((D8 ops []).getD i 0).testBit j with
                  | false=>rfl
                  | true=>exact absurd ⟨before j hbj,hcj⟩ (e2 j hj)
              · rw[e4];refine stage (some c) (.inr ⟨c,rfl,e1,e3⟩) ?_;unfold Lt;simp only[tO];refine⟨tV.2 λj hj=>?_,?_,?_⟩
                · have hj:=List.mem_range.1 hj;simp only[wM,sQ,decide_eq_true_eq];cases hcj:HE pl ops j with
                  | false=>exact .inl (.inl rfl)
                  | true=>
                    cases hbj:((D8 ops []).getD i 0).testBit j with
                    | false=>exact .inl (.inr rfl)
                    | true=>
                      right
                      rcases tD c j with hlt | hge
                      · exact absurd ⟨before j hbj,hcj⟩ (e5 j hlt hj)
                      · exact hge
                · cases hbc:((D8 ops []).getD c 0).testBit i with
                  | false=>rfl
                  | true=>exact(behind c e2 e1 hbc).elim
                · refine decide_eq_true ?_;rintro rfl;rw[hSi]at e2;cases e2
            obtain⟨H2,hH2⟩:=fin
            have:=MF hstill hH2
            subst this;exact⟨_,_,hH2,R0 _ _ rfl hsame⟩
      | false=>
        have hci:HE pl ops i=true:=by unfold HE;rw[ho];simp[hqi]
        have below:∀j,j<i→HE pl ops j=true→S j=true:=λj hj hcj=>before j (chain j i hj hil hcj hci)
        have above:∀j,i≤j→j<ops.length→¬(S j=true∧HE pl ops j=true):=by
          rintro j hj hjl ⟨h1,h2⟩;rcases xK hj with rfl | hlt
          · rw[hSi]at h1;cases h1
          · exact behind j h1 hjl (chain i j hlt hjl hci h2)
        have e1:hs pl ops tr H S ops.length=hs pl ops tr H (λ_=>true) i:=by
          rw[Jr ops.length (by omega) above];exact Ek _ λj hj hcj=>below j hj hcj
        have e2:hs pl ops tr H (Gs S i) ops.length=DV tr i:=by
          rw[Jr (i:=i+1) ops.length (by omega) (λj h1 h2 h3=>above j (by omega) h2 ⟨by have:=h3.1;unfold Gs at this;rwa[if_neg (by omega)]at this,h3.2⟩)];simp only[hs];rw[if_pos (by simp[Gs,hci])]
        show WY P _ (hs pl ops tr H S ops.length) o _
        rw[e1];unfold Ie at hst;split at hst
        · rename_i hbs;unfold FD at hqi;simp[hbs]at hqi
        · have hnp : Bt pl o.op=false:=by
            unfold FD at hqi;simp only[Bool.or_eq_false_iff]at hqi;exact hqi.1.2
          rw[if_neg (by simp[hnp])]at hst;split at hst
          · rename_i x hx;injection hst with hst;subst hst;exact .inl ⟨_,_,hx,R0 _ _ rfl e2⟩
          · split at hst
            · rename_i f args hcall;split at hst
              · rename_i hgo;refine .inr (.inr ⟨f,args,hcall,hgo,(hcl1 f args _ _ _ hst).mono ?_⟩);rintro r' H'' ⟨rfl,rfl⟩;exact R0 _ _ rfl e2
              · cases hst
            · cases hst
    · subst hb;obtain⟨a1,a2⟩:=hw0 rfl;refine R0 _ _ a1 ?_;cases hci:HE pl ops i with
      | false=>
        refine Ek _ λj _ hj=>?_
        unfold Gs
        split
        · rename_i he;rw[he,hci]at hj;cases hj
        · rfl
      | true=>
        have below:∀j,j<i→HE pl ops j=true→S j=true:=λj hj hcj=>before j (chain j i hj hil hcj hci)
        have above:∀j,i≤j→j<ops.length→¬(S j=true∧HE pl ops j=true):=by
          rintro j hj hjl ⟨h1,h2⟩;rcases xK hj with rfl | hlt
          · rw[hSi]at h1;cases h1
          · exact behind j h1 hjl (chain i j hlt hjl hci h2)
        have e1:hs pl ops tr H S ops.length=hs pl ops tr H (λ_=>true) i:=by
          rw[Jr ops.length (by omega) above];exact Ek _ λj hj hcj=>below j hj hcj
        rw[Jr (i:=i+1) ops.length (by omega) (λj h1 h2 h3=>above j (by omega) h2 ⟨by have:=h3.1;unfold Gs at this;rwa[if_neg (by omega)]at this,h3.2⟩)];simp only[hs];rw[if_pos (by simp[Gs,hci]),a2,e1]
  · intro _ S hall _
    show Q .normal (pt ops (Bn tr) (λ_=>true) T ops.length) (hs pl ops tr H S ops.length)
    rw[Ek (S':=λ_=>true) _ (λj hj _=>hall j hj)];exact hq
def Lj (P:Program)(ql:FuncId→Bool)(dr:Bool)(ρ:Operand→AV)(o:Oper)(H:AH)(r:AV)(H':AH):Prop:=
 match D4 ρ o with
 | some (k,args)=>Bs P k=true∧if dr&&Bt ql o.op then BPure P k args r∧H'=H else BCall P k args H r H'
 | none=>False
def V1:Op→Bool
 | .buildSlice ..=>true
 | _=>false
def To (P:Program)(dr:Bool)(ρ:Operand→AV)(H:AH)(o:Oper):Option (AV×AH):=
 if dr&&V1 o.op then(Et P ρ o).map (·,H)else Cl P ρ H o
def Lk (P:Program)(ql:FuncId→Bool)(dr:Bool)(ops:Array Oper):List Oper→List AV→AH→(List AV→AH→Prop)→Prop
 | [],T,H,K=>K T H
 | o::l,T,H,K=>match BC ops T o with
  | none=>False
  | some false=>Lk P ql dr ops l (CO T o.dst A0) H K
  | some true=>match To P dr (AF T) H o with
   | some (r,H')=>Lk P ql dr ops l (CO T o.dst r) H' K
   | none=>∃r H',Lj P ql dr (AF T) o H r H'∧Lk P ql dr ops l (CO T o.dst r) H' K
theorem Jz {ql:FuncId→Bool}{ops:Array Oper}:∀(l:List Oper) (T:List AV) (H:AH) (K:List AV→AH→Prop),Lk P ql false ops l T H K→∃T' H',K T' H'∧AOps P ops (AQ.is (.normal,T',H')) l T H
 | [],T,H,K,h=>⟨T,H,h,AOps.nil rfl⟩
 | o::l,T,H,K,h=>by
  unfold Lk at h;split at h
  ·exact h.elim
  ·rename_i hw
   obtain⟨T',H',hk,ha⟩:=Jz l _ _ K h;exact⟨T',H',hk,AOps.unwanted hw ha⟩
  ·rename_i hw
   split at h
   ·rename_i r H1 ho
    obtain⟨T',H',hk,ha⟩:=Jz l _ _ K h;exact⟨T',H',hk,AOps.op hw (by simpa[To]using ho) ha⟩
   ·obtain⟨r,H1,hc,h⟩:=h
    obtain⟨T',H',hk,ha⟩:=Jz l _ _ K h;unfold Lj at hc;split at hc
    ·rename_i k args hcall
     simp only[sC]at hc;refine⟨T',H',hk,AOps.call hw hcall hc.1 (hc.2.mono ?_)⟩;rintro r' H'' ⟨rfl,rfl⟩;exact ha
    ·exact hc.elim
theorem VH {dr:Bool}{T:List AV}{H:AH}{o:Oper}{q:FuncId×List AV}(hc:D4 (AF T) o=some q):Cl P (AF T) H o=none∧V1 o.op=false:=by
 obtain⟨dst,op,type,pos,after,guard⟩:=o;unfold D4 at hc;split at hc
 ·rename_i hop
  simp only at hop;subst hop;exact⟨rfl,rfl⟩
 ·cases hc
theorem L6 {ql:FuncId→Bool}{ops:Array Oper}:∀(l:List Oper) (T:List AV) (H:AH) (K:List AV→AH→Prop),Lk P ql true ops l T H K→∃tl T' H',K T' H'∧TraceR P ql ops l T H tl T' H'
 | [],T,H,K,h=>⟨[],T,H,h,.nil _ _⟩
 | o::l,T,H,K,h=>by
  have none_ok:Oq P (λ_ _=>none):=λ_ _ _ h=>by cases h
  have none_ok':Qs P (λ_ _ _=>none):=λ_ _ _ _ _ h=>by cases h
  unfold Lk at h;split at h
  ·exact h.elim
  ·rename_i hw
   obtain⟨tl,T',H',hk,ha⟩:=L6 l _ _ K h;exact⟨_,T',H',hk,.skip hw ha⟩
  ·rename_i hw
   split at h
   ·rename_i r H1 ho
    obtain⟨tl,T',H',hk,ha⟩:=L6 l _ _ K h;refine⟨_,T',H',hk,.step hw ⟨λ_ _=>none,λ_ _ _=>none,none_ok,none_ok',?_⟩ ha⟩;unfold To at ho;simp only[wB]at ho;unfold Ie;split at ho
    ·rename_i hbs
     split
     ·exact ho
     ·rename_i hne
      exfalso
      revert hbs
      unfold V1
      split
      ·rename_i h1;exact λ_=>hne _ _ _ h1
      ·simp
    ·rename_i hbs
     split
     ·rename_i h1;rw[h1]at hbs;simp[V1]at hbs
     ·have hnp:Bt ql o.op=false:=by
       cases hpo:Bt ql o.op with
       | false=>rfl
       | true=>
        exfalso
        obtain⟨dst,op,type,pos,after,guard⟩:=o;unfold Bt at hpo;split at hpo
        ·rename_i hop;simp only at hop;subst hop;cases ho
        ·cases hpo
      rw[if_neg (by simp[hnp]),ho]
   ·obtain⟨r,H1,hc,h⟩:=h
    obtain⟨tl,T',H',hk,ha⟩:=L6 l _ _ K h;unfold Lj at hc;split at hc
    ·rename_i k args hcall
     obtain⟨hgo,hc⟩:=hc;obtain⟨n1,n2⟩:=VH (P:=P) (dr:=true) (H:=H) hcall;simp only[wB]at hc;split at hc
     ·rename_i hpo
      obtain⟨hp,rfl⟩:=hc
      classical
      refine⟨_,T',H',hk,.step hw ⟨λf a=>if f=k∧a=args then some r else none,λ_ _ _=>none,?_,none_ok',?_⟩ ha⟩
      ·intro f a r1 h1
       dsimp only at h1
       split at h1
       ·rename_i he
        injection h1 with h1;obtain⟨rfl,rfl⟩:=he;subst h1;exact⟨hgo,hp⟩
       ·cases h1
      ·unfold Ie
       split
       ·rename_i h1;rw[h1]at n2;cases n2
       ·rw[if_pos hpo,hcall]
        simp
     ·rename_i hpo
      classical
      refine⟨_,T',H',hk,.step hw ⟨λ_ _=>none,λf a H2=>if f=k∧a=args∧H2=H then some (r,H1)else none,none_ok,?_,?_⟩ ha⟩
      ·intro f a H2 r1 H3 h1
       dsimp only at h1
       split at h1
       ·rename_i he
        injection h1 with h1;injection h1 with h1 h2;obtain⟨rfl,rfl,rfl⟩:=he;subst h1;subst h2;exact hc
       ·cases h1
      ·unfold Ie
       split
       ·rename_i h1;rw[h1]at n2;cases n2
       ·rw[if_neg hpo,n1,hcall]
        simp[hgo]
    ·exact hc.elim
def Rx (ql:FuncId→Bool)(ops:List Oper):Nat→Option Nat
 | 0=>none
 | m+1=>if HE ql ops m then some m else Rx ql ops m
theorem SU {ql:FuncId→Bool}{ops:List Oper}{tr:List (AV×AH)}{H:AH}:∀m,hs ql ops tr H (λ_=>true) m=match Rx ql ops m with
  | some c=>DV tr c
  | none=>H
 | 0=>rfl
 | m+1=>by
  simp only[hs,Rx,wB]
  by_cases h:HE ql ops m=true
  ·rw[if_pos h,if_pos h]
  ·rw[if_neg h,if_neg h];exact SU m
def Rg (ql:FuncId→Bool)(ops:List Oper):List (Nat×Option Nat):=
 let b:=D8 ops []
 let stages:=none::((List.range ops.length).filter (HE ql ops)).map some
 (List.range ops.length).flatMap λi=>match ops[i]? with
  | some o=>if FD ql o.op&&!I1 o.op&&!Bt ql o.op then(stages.filter λc=>Lt ql ops b i c&&decide (c≠Rx ql ops i)).map (i,·)else []
  | none=>[]
def FloatsOk (P:Program)(ops:Array Oper)(H:AH)(lg:List (List AV×AH×AV)):List (Nat×Option Nat)→Prop
 | []=>True
 | (i,c)::r=>(match ops[i]?,lg[i]? with
  | some o,some (Ti,_,v)=>BC ops Ti o=some true→(Cl P (AF Ti) (match c with
   | some c=>((lg[c]?).map (·.2.1)).getD []
   | none=>H) o).map Prod.fst=some v
  | _,_=>False)∧FloatsOk P ops H lg r
theorem FloatsOk.mem {ops:Array Oper}{H:AH}{lg:List (List AV×AH×AV)}:∀{fl:List (Nat×Option Nat)},FloatsOk P ops H lg fl→∀{i:Nat} {c:Option Nat},(i,c)∈fl→∃o Ti h v,ops[i]?=some o∧lg[i]?=some (Ti,h,v)∧
  (BC ops Ti o=some true→(Cl P (AF Ti) (match c with
   | some c=>((lg[c]?).map (·.2.1)).getD []
   | none=>H) o).map Prod.fst=some v)
 | (i,c)::r,h,j,d,hm=>by
  simp only[FloatsOk]at h;rcases tU.1 hm with he | hm
  ·injection he with h1 h2
   subst h1;subst h2;have h1:=h.1;split at h1
   ·rename_i o Ti hh v ho hl
    exact⟨o,Ti,hh,v,ho,hl,h1⟩
   ·exact h1.elim
  ·exact h.2.mem hm
def Hu:List Oper→List (AV×AH)→List AV→List (List AV×AH×AV)
 | o::l,(r,h)::tr,T=>(T,h,r)::Hu l tr (CO T o.dst r)
 | _,_,_=>[]
theorem Tb {ops:List Oper}{tr:List (AV×AH)}{T:List AV}:∀(l:List Oper) (tl:List (AV×AH)) (k:Nat) (Tk:List AV),(∀(j:Nat) (o:Oper),l[j]?=some o→ops[k+j]?=some o)→(∀j,tl[j]?=tr[k+j]?)→
  pt ops (Bn tr) (λ_=>true) T k=Tk→∀(j:Nat) (x:List AV×AH×AV),(Hu l tl Tk)[j]?=some x→x=(pt ops (Bn tr) (λ_=>true) T (k+j),DV tr (k+j),Bn tr (k+j))
 | [],tl,k,Tk,hl,ht,hT,j,x,h=>by simp[Hu]at h
 | o::l,[],k,Tk,hl,ht,hT,j,x,h=>by simp[Hu]at h
 | o::l,(r,H')::tl,k,Tk,hl,ht,hT,j,x,h=>by
  simp only[Hu]at h;have h0:=ht 0;simp only[sN]at h0;have hv:Bn tr k=r:=by unfold Bn;rw[← h0];rfl
  have hh:DV tr k=H':=by unfold DV;rw[← h0];rfl
  cases j with
  | zero=>simp only[Dt]at h;injection h with h;rw[← h,uU,hT,hv,hh]
  | succ j=>
   have ho:ops[k]?=some o:=by simpa using hl 0 o rfl
   rw[show k+(j+1)=k+1+j by omega]
   refine Tb l tl (k+1) (CO Tk o.dst r) (λj o' hj=>by
     rw[show k+1+j=k+(j+1) by omega];exact hl (j+1) o' (by simpa using hj)) (λj=>by
     have:=ht (j+1)
     rw[show k+1+j=k+(j+1) by omega,← this]
     simp) (by
     simp only[pt,if_true];rw[hT,hv];simp[J7,ho]) j x (by simpa using h)
theorem Yy {ql:FuncId→Bool}{ops:Array Oper}{l:List Oper}{T T':List AV}{H H':AH}{tl:List (AV×AH)}(h:TraceR P ql ops l T H tl T' H'):(Hu l tl T).length=l.length:=by
 induction h with
 | nil=>rfl
 | skip hw hr ih=>simp only[Hu,tP,ih]
 | step hw hs hr ih=>simp only[Hu,tP,ih]
def Jg (P:Program)(ql:FuncId→Bool)(ops:Array Oper)(H0:AH)(fl:List (Nat×Option Nat)):List Oper→List AV→AH→List (List AV×AH×AV)→(List AV→AH→Prop)→Prop
 | [],T,H,lg,K=>FloatsOk P ops H0 lg.reverse fl∧K T H
 | o::l,T,H,lg,K=>match BC ops T o with
  | none=>False
  | some false=>Jg P ql ops H0 fl l (CO T o.dst A0) H ((T,H,A0)::lg) K
  | some true=>match To P true (AF T) H o with
   | some (r,H')=>Jg P ql ops H0 fl l (CO T o.dst r) H' ((T,H',r)::lg) K
   | none=>∃r H',Lj P ql true (AF T) o H r H'∧Jg P ql ops H0 fl l (CO T o.dst r) H' ((T,H',r)::lg) K
theorem Oj {ql:FuncId→Bool}{ops:Array Oper}{H0:AH}{fl:List (Nat×Option Nat)}:∀(l:List Oper) (T:List AV) (H:AH) (lg:List (List AV×AH×AV)) (K:List AV→AH→Prop),Jg P ql ops H0 fl l T H lg K→
  ∃tl T' H',K T' H'∧TraceR P ql ops l T H tl T' H'∧FloatsOk P ops H0 (lg.reverse++Hu l tl T) fl
 | [],T,H,lg,K,h=>⟨[],T,H,h.2,.nil _ _,by simpa[Hu]using h.1⟩
 | o::l,T,H,lg,K,h=>by
  unfold Jg at h;split at h
  ·exact h.elim
  ·rename_i hw
   obtain⟨tl,T',H',hk,ha,hf⟩:=Oj l _ _ _ K h;exact⟨_,T',H',hk,.skip hw ha,by simpa[Hu]using hf⟩
  ·rename_i hw
   split at h
   ·rename_i r H1 ho
    obtain⟨tl,T',H',hk,ha,hf⟩:=Oj l _ _ _ K h;obtain⟨tl1,T1,H2,h1,h2⟩:=L6 (P:=P) (ql:=ql) (ops:=ops) [o] T H (λT' H'=>T'=CO T o.dst r∧H'=H1) (by unfold Lk;rw[hw];simp only[ho];unfold Lk;exact⟨rfl,rfl⟩);cases h2 with
    | skip hw' _=>rw[hw]at hw';cases hw'
    | step hw' hs hr=>
     cases hr;obtain⟨e1,rfl⟩:=h1;rename_i r'
     have hr:r'=r:=by
      obtain⟨pu,cl,hp,hc,hst⟩:=hs;unfold To at ho;unfold Ie at hst;simp only[wB]at ho;split at ho
      ·rename_i hbs
       split at hst
       ·rw[ho]at hst;injection hst with hst;injection hst with h1 _;exact h1.symm
       ·rename_i hne
        exfalso
        revert hbs
        unfold V1
        split
        ·rename_i h1;exact λ_=>hne _ _ _ h1
        ·simp
      ·rename_i hbs
       split at hst
       ·rename_i h1;rw[h1]at hbs;simp[V1]at hbs
       ·have hnp:Bt ql o.op=false:=by
         cases hpo:Bt ql o.op with
         | false=>rfl
         | true=>
          exfalso
          obtain⟨dst,op,type,pos,after,guard⟩:=o;unfold Bt at hpo;split at hpo
          ·rename_i hop;simp only at hop;subst hop;cases ho
          ·cases hpo
        rw[if_neg (by simp[hnp]),ho]at hst;injection hst with hst;injection hst with h1 _;exact h1.symm
     subst hr;exact⟨_,T',H',hk,.step hw hs ha,by simpa[Hu]using hf⟩
   ·rename_i ho
    obtain⟨r,H1,hc,h⟩:=h;obtain⟨tl,T',H',hk,ha,hf⟩:=Oj l _ _ _ K h
    have hstep:∃pure call,Oq P pure∧Qs P call∧Ie P ql pure call T H o=some (r,H1):=by
     have none_ok:Oq P (λ_ _=>none):=λ_ _ _ h=>by cases h
     have none_ok':Qs P (λ_ _ _=>none):=λ_ _ _ _ _ h=>by cases h
     unfold Lj at hc;split at hc
     ·rename_i k args hcall
      obtain⟨hgo,hc⟩:=hc;obtain⟨n1,n2⟩:=VH (P:=P) (dr:=true) (H:=H) hcall;simp only[wB]at hc;split at hc
      ·rename_i hpo
       obtain⟨hp,rfl⟩:=hc
       classical
       refine⟨λf a=>if f=k∧a=args then some r else none,λ_ _ _=>none,?_,none_ok',?_⟩
       ·intro f a r1 h1
        dsimp only at h1
        split at h1
        ·rename_i he
         injection h1 with h1;obtain⟨rfl,rfl⟩:=he;subst h1;exact⟨hgo,hp⟩
        ·cases h1
       ·unfold Ie
        split
        ·rename_i h1;rw[h1]at n2;cases n2
        ·rw[if_pos hpo,hcall]
         simp
      ·rename_i hpo
       classical
       refine⟨λ_ _=>none,λf a H2=>if f=k∧a=args∧H2=H then some (r,H1)else none,none_ok,?_,?_⟩
       ·intro f a H2 r1 H3 h1
        dsimp only at h1
        split at h1
        ·rename_i he
         injection h1 with h1;injection h1 with h1 h2;obtain⟨rfl,rfl,rfl⟩:=he;subst h1;subst h2;exact hc
        ·cases h1
       ·unfold Ie
        split
        ·rename_i h1;rw[h1]at n2;cases n2
        ·rw[if_neg hpo,n1,hcall]
         simp[hgo]
     ·exact hc.elim
    exact⟨_,T',H',hk,.step hw hstep ha,by simpa[Hu]using hf⟩
def BCode (P:Program)(c:Code)(T:List AV)(H:AH)(e:Exit)(T':List AV)(H':AH):Prop:=ACode P c (AQ.is (e,T',H')) T H
abbrev vT:=@List.mem_filter
theorem BCode.draw (ql:FuncId→Bool){id:Nat}{ops:List Oper}{T:List AV}{H:AH}{fl:List (Nat×Option Nat)}{K:List AV→AH→Prop}(hm:P.follows .mixedOrders=true)(hs:(IT ops&&Nk ql ops&&decide (Rg ql ops=fl))=true)(h:Jg P ql ops.toArray H fl ops T H [] K):
  ∃T' H',K T' H'∧BCode P (.region id ops.toArray true) T H .normal T' H':=by
 simp only[tO,decide_eq_true_eq]at hs;obtain⟨⟨hs1,hs2⟩,rfl⟩:=hs;obtain⟨tl,T',H',hk,ha,hf⟩:=Oj _ _ _ _ _ h;have hlen:=Yy ha;obtain⟨e1,e2,e3⟩:=Wc (ops:=ops) (T:=T) (H:=H) (tr:=tl) ops tl 0 T H T' H' (λj o hj=>by simpa using hj) (λj=>by simp) rfl rfl ha;simp only[wH]at e1 e2 e3;refine⟨T',H',hk,Yp hm hs1 hs2 (λi o hi=>e3 i o hi) ?_ (by rw[e1,e2];rfl)⟩;intro i o ho hq hb hp hw c hcc hmm;have hil:=(B5.1 ho).1;have lget:=Tb (ops:=ops) (tr:=tl) (T:=T) ops tl 0 T (λj o hj=>by simpa using hj) (λj=>by simp) rfl;simp only[wH]at lget;simp only[List.reverse_nil,uS]at hf
 by_cases hl:c=Rx ql ops i
 ·obtain⟨b,hw',-,h1⟩:=e3 i o ho
  rw[hw]at hw';injection hw' with hw';obtain⟨pu,cl,hpu,hcl,hst⟩:=h1 hw'.symm;rw[SU]at hst
  have:=hl
  subst this;obtain⟨_,hz | ⟨hpo,_⟩ | ⟨hz,_,_⟩⟩:=If hpu hq hst
  ·exfalso
   obtain⟨dst,op,type,pos,after,guard⟩:=o;unfold Et at hz;split at hz
   ·rename_i hop;simp only at hop;subst hop;simp[I1]at hb
   ·cases hz
  ·rw[hp]at hpo;cases hpo
  ·exact⟨_,hz⟩
 ·have hmem:(i,c)∈Rg ql ops:=by
   unfold Rg;simp only;refine List.mem_flatMap.2 ⟨i,List.mem_range.2 hil,?_⟩;rw[ho];simp only[hq,hb,hp,sM,Bool.and_self];refine tZ.2 ⟨c,vT.2 ⟨?_,by simp[hmm,hl]⟩,rfl⟩;rcases hcc with rfl | ⟨d,rfl,hd,hcd⟩
   ·simp
   ·simp[vT,hd,hcd]
  obtain⟨o',Ti,hh,v,ho',hlg,hval⟩:=hf.mem hmem
  have hoo:o'=o:=by
   have:ops.toArray[i]?=some o:=by simpa using ho
   rw[this]at ho';injection ho' with h;exact h.symm
  subst hoo
  have:=lget i _ hlg
  simp only[uL]at this;obtain⟨rfl,-,rfl⟩:=this;have hv:=hval hw;obtain⟨⟨r2,H2⟩,h2,h3⟩:=Option.map_eq_some_iff.1 hv;simp only at h3;subst h3;cases c with
  | none=>exact⟨H2,h2⟩
  | some d=>
   rcases hcc with h | ⟨d',hd',hdl,-⟩
   ·cases h
   ·injection hd' with hd'
    subst hd';have hld:d<(Hu ops tl T).length:=by rw[hlen];exact hdl
    have hg:=lget d _ (E5 hld)
    have:(((Hu ops tl T)[d]?).map (·.2.1)).getD []=DV tl d:=by
     rw[E5 hld,hg];rfl
    simp only[this]at h2;exact⟨H2,h2⟩
end
end
section
section
variable {P : Program}
def BRounds (P:Program)(b:Code)(e:Exit)(T':List AV)(H':AH):Nat→List AV→AH→Prop
 | 0,_,_=>False
 | n+1,T,H=>(∃T1 H1,BCode P b T H .normal T1 H1∧BRounds P b e T' H' n T1 H1)∨(e≠.normal∧BCode P b T H e T' H')
theorem BRounds.code {b:Code}{e:Exit}{T':List AV}{H':AH}{n:Nat}{T:List AV}{H:AH}(h:BRounds P b e T' H' n T H):BCode P (.loop b) T H e T' H':=by
 intro G0 G a ρ hE hF hd hH;refine wpIn_loop_rounds n ?_
 induction n generalizing T H G a with
 | zero=>exact h.elim
 | succ n ih=>
  rw[roundsIn_succ];rcases h with⟨T1,H1,hb,hr⟩ | ⟨hne,hb⟩
  ·refine Code.wpIn_mono ?_ (hb G0 G a ρ hE hF hd hH)
   rintro e' a' w' ⟨T2,H2,G',rfl,hE',hF',hd',hH',hq⟩;simp only[AQ.is,uL]at hq;obtain⟨rfl,rfl,rfl⟩:=hq;exact ih hr G' a' hE' hF' hd' hH'
  ·refine Code.wpIn_mono ?_ (hb G0 G a ρ hE hF hd hH)
   rintro e' a' w' ⟨T2,H2,G',rfl,hE',hF',hd',hH',hq⟩;have hq':=hq;simp only[AQ.is,uL]at hq';obtain⟨rfl,rfl,rfl⟩:=hq';cases e' with
   | normal=>exact absurd rfl hne
   | _=>exact⟨_,_,G',rfl,hE',hF',hd',hH',hq⟩
def mZ (P:Program)(b:Code)(T:List AV)(H:AH)(K:Exit→List AV→AH→Prop):Prop:=∃e T' H' n,K e T' H'∧BRounds P b e T' H' n T H
abbrev Cm:=Nat→List (Nat×Option Nat)
def DU (fl:Cm)(ql:FuncId→Bool):Code→Bool
 | .region id ops true=>IT ops.toList&&Nk ql ops.toList&&decide (Rg ql ops.toList=fl id)
 | .seq a b=>DU fl ql a&&DU fl ql b
 | .cond _ a b=>DU fl ql a&&DU fl ql b
 | .block _ b=>DU fl ql b
 | .loop b=>DU fl ql b
 | _=>true
def Mp (P:Program)(fl:Cm)(ql:FuncId→Bool):Code→List AV→AH→(Exit→List AV→AH→Prop)→Prop
 | .skip,T,H,K=>K .normal T H
 | .label _,T,H,K=>K .normal T H
 | .ret,T,H,K=>K .ret T H
 | .exit id,T,H,K=>K (.exit id) T H
 | .region _ ops false,T,H,K=>Lk P ql false ops ops.toList T H (K .normal)
 | .region id ops true,T,H,K=>match fl id with
  | []=>Lk P ql true ops ops.toList T H (K .normal)
  | f=>Jg P ql ops H f ops.toList T H [] (K .normal)
 | .seq a b,T,H,K=>Mp P fl ql a T H λe T' H'=>match e with
  | .normal=>Mp P fl ql b T' H' K
  | e=>K e T' H'
 | .cond c a b,T,H,K=>match AF T c with
  | .lit (.bool t)=>if t then Mp P fl ql a T H K else Mp P fl ql b T H K
  | _=>False
 | .block id b,T,H,K=>Mp P fl ql b T H λe T' H'=>match e with
  | .exit j=>if j=id then K .normal T' H' else K (.exit j) T' H'
  | e=>K e T' H'
 | .loop b,T,H,K=>mZ P b T H K
 | _,_,_,_=>False
theorem Ol {ql:FuncId→Bool}{ops:Array Oper}{H0:AH}:∀(l:List Oper) (T:List AV) (H:AH) (lg:List (List AV×AH×AV)) (K:List AV→AH→Prop),Lk P ql true ops l T H K→Jg P ql ops H0 [] l T H lg K
 | [],T,H,lg,K,h=>⟨trivial,h⟩
 | o::l,T,H,lg,K,h=>by
  unfold Lk at h;unfold Jg;split at h
  ·exact h.elim
  ·exact Ol l _ _ _ K h
  ·split at h
   ·exact Ol l _ _ _ K h
   ·obtain⟨r,H1,hc,h⟩:=h
    exact⟨r,H1,hc,Ol l _ _ _ K h⟩
theorem HD {fl:Cm}{ql:FuncId→Bool}(hm:P.follows .mixedOrders=true):∀(c:Code) (T:List AV) (H:AH) (K:Exit→List AV→AH→Prop),DU fl ql c=true→Mp P fl ql c T H K→∃e T' H',K e T' H'∧BCode P c T H e T' H'
 | .skip,T,H,K,_,h=>⟨_,_,_,h,ACode.skip rfl⟩
 | .label _,T,H,K,_,h=>⟨_,_,_,h,ACode.label rfl⟩
 | .ret,T,H,K,_,h=>⟨_,_,_,h,ACode.ret rfl⟩
 | .exit id,T,H,K,_,h=>⟨_,_,_,h,ACode.exit rfl⟩
 | .region id ops false,T,H,K,_,h=>by
  obtain⟨T',H',hk,ha⟩:=Jz _ _ _ _ h;exact⟨_,T',H',hk,ACode.region ha⟩
 | .region id ops true,T,H,K,hc,h=>by
  obtain⟨T',H',hk,ha⟩:=BCode.draw (P:=P) ql (id:=id) (ops:=ops.toList) (fl:=fl id) hm (by simpa only[DU]using hc) (by
   simp only[Mp]at h;split at h
   ·rename_i hfl;rw[hfl];exact Ol _ _ _ _ _ h
   ·exact h)
  exact⟨_,T',H',hk,by simpa using ha⟩
 | .seq a b,T,H,K,hc,h=>by
  simp only[DU,tO]at hc;obtain⟨e,T1,H1,hk,ha⟩:=HD hm a T H _ hc.1 h;cases e with
  | normal=>
   obtain⟨e,T2,H2,hk,hb⟩:=HD hm b T1 H1 K hc.2 hk;refine⟨e,T2,H2,hk,ACode.seq (ha.mono ?_)⟩;rintro e' T3 H3 hq;simp only[AQ.is,uL]at hq;obtain⟨rfl,rfl,rfl⟩:=hq;exact hb
  | _=>
   refine⟨_,T1,H1,hk,ACode.seq (ha.mono ?_)⟩;rintro e' T3 H3 hq;have hq':=hq;simp only[AQ.is,uL]at hq';obtain⟨rfl,rfl,rfl⟩:=hq';exact hq
 | .cond c a b,T,H,K,hc,h=>by
  simp only[DU,tO]at hc;unfold Mp at h;split at h
  ·rename_i t ht
   split at h
   ·rename_i htt
    obtain⟨e,T1,H1,hk,ha⟩:=HD hm a T H K hc.1 h;refine⟨e,T1,H1,hk,ACode.cond ht ?_⟩;rw[if_pos htt];exact ha
   ·rename_i htt
    obtain⟨e,T1,H1,hk,ha⟩:=HD hm b T H K hc.2 h;refine⟨e,T1,H1,hk,ACode.cond ht ?_⟩;rw[if_neg htt];exact ha
  ·exact h.elim
 | .block id b,T,H,K,hc,h=>by
  simp only[DU]at hc;obtain⟨e,T1,H1,hk,ha⟩:=HD hm b T H _ hc h;cases e with
  | exit j=>
   simp only at hk;split at hk
   ·rename_i hj
    refine⟨_,T1,H1,hk,ACode.block (ha.mono ?_)⟩;rintro e' T3 H3 hq;simp only[AQ.is,uL]at hq;obtain⟨rfl,rfl,rfl⟩:=hq;simp only[AQ.inBlock,if_pos hj];rfl
   ·rename_i hj
    refine⟨_,T1,H1,hk,ACode.block (ha.mono ?_)⟩;rintro e' T3 H3 hq;simp only[AQ.is,uL]at hq;obtain⟨rfl,rfl,rfl⟩:=hq;simp only[AQ.inBlock,if_neg hj];rfl
  | _=>
   refine⟨_,T1,H1,hk,ACode.block (ha.mono ?_)⟩;rintro e' T3 H3 hq;simp only[AQ.is,uL]at hq;obtain⟨rfl,rfl,rfl⟩:=hq;rfl
 | .loop b,T,H,K,hc,h=>by
  obtain⟨e,T',H',n,hk,hr⟩:=h;exact⟨e,T',H',hk,hr.code⟩
 | .rangeFunc ..,_,_,_,_,h=>h.elim
 | .scope _,_,_,_,_,h=>h.elim
 | .goto _,_,_,_,_,h=>h.elim
 | .refuse _,_,_,_,_,h=>h.elim
def gG (P:Program)(res:List ResultVar)(K:AV→AH→Prop)(e:Exit)(T:List AV)(H:AH):Prop:=
 V2 e=true∧match Ox P H T res with
  | some xs=>K (Tg xs) H
  | none=>False
end
end
section
def bO (x:Option AV)(K:AV→Prop):Prop:=match x with
 | some v=>K v
 | none=>False
def bH (x:Option (AV×AH))(K:AV→AH→Prop):Prop:=match x with
 | some (v,H)=>K v H
 | none=>False
def bS (x:Option AH)(K:AH→Prop):Prop:=match x with
 | some H=>K H
 | none=>False
def bB (v:AV)(K:Bool→Prop):Prop:=match v with
 | .lit (.bool b)=>K b
 | _=>False
def bI (b:Bool)(A B:Prop):Prop:=match b with
 | true=>A
 | false=>B
def bC (R:AV→AH→Prop)(K:AV→AH→Prop):Prop:=∃r H',R r H'∧K r H'
def bP (R:AV→Prop)(K:AV→Prop):Prop:=∃r,R r∧K r
def bF (w:Bool)(f:AV)(K:FuncId→List AV→List AV→Prop):Prop:=match f with
 | .fn (.func k) a b=>K k a b
 | _=>match w with
  | true=>False
  | false=>K 0 [] []
def bG (v:AV)(want:Bool)(K:Bool→Prop):Prop:=match v with
 | .lit (.bool b)=>K (b==want)
 | .lit _=>K false
 | _=>False
def gO (w:Bool)(x:Option AV)(K:AV→Prop):Prop:=match w with
 | true=>bO x K
 | false=>K A0
def gH (w:Bool)(x:Option (AV×AH))(H:AH)(K:AV→AH→Prop):Prop:=match w with
 | true=>bH x K
 | false=>K A0 H
def gS (w:Bool)(x:Option AH)(H:AH)(K:AH→Prop):Prop:=match w with
 | true=>bS x K
 | false=>K H
def gC (w:Bool)(R:AV→AH→Prop)(H:AH)(K:AV→AH→Prop):Prop:=match w with
 | true=>bC R K
 | false=>K A0 H
def gP (w:Bool)(R:AV→Prop)(K:AV→Prop):Prop:=match w with
 | true=>bP R K
 | false=>K A0
def bA (C:(AV→AH→Prop)→Prop)(K:AV→AH→Prop):Prop:=∃R,C R∧∀r H',R r H'→K r H'
def gA (w:Bool)(C:(AV→AH→Prop)→Prop)(H:AH)(K:AV→AH→Prop):Prop:=match w with
 | true=>bA C K
 | false=>K A0 H
def ExtR (P:Program)(k:FuncId)(args:List AV)(H:AH)(r:AV):Prop:=∀(G:Cfg) (vs:List Value),HR G H→VRs G args vs→∃u,(callFunc k vs.toArray).run P G.w=.ok (.value u) G.w∧VR G r u
def Ak:Nat→Bool:=λ_=>false
def bT (b:Bool)(A:Prop):Prop:=match b with
 | true=>A
 | false=>False
def AG (c a b:AV):Option AV:=match c with
 | .lit (.bool t)=>some (if t then a else b)
 | _=>none
def N2 (cells:List AV):List (Nat×Nat×AV)→Option (List AV)
 | []=>some cells
 | (off,size,v)::rest=>match B3 v with
  | some xs=>if xs.length=size∧off+size≤cells.length then N2 (AS cells off xs) rest else none
  | none=>none
def Pa (place:Nat→Option (Nat×Nat))(ρ:Operand→AV):List (Nat×Operand)→Option (List (Nat×Nat×AV))
 | []=>some []
 | (i,x)::r=>match place i,Pa place ρ r with
  | some (o,s),some l=>some ((o,s,ρ x)::l)
  | _,_=>none
theorem L1 {place:Nat→Option (Nat×Nat)}{ρ:Operand→AV}:∀(ps:List (Nat×Operand)) (l:List (Nat×Nat×AV)) (cells:List AV),Pa place ρ ps=some l→GV place cells (ps.map λp=>(p.1,ρ p.2))=N2 cells l
 | [],l,cells,h=>by simp only[Pa]at h;injection h with h;subst h;rfl
 | (i,x)::r,l,cells,h=>by
  simp only[Pa]at h;split at h
  ·rename_i o s l' h1 h2
   injection h with h;subst h;simp only[vV,GV,N2,h1];cases hc:B3 (ρ x)with
   | none=>rfl
   | some xs=>
    simp only
    split
    ·exact L1 r l' _ h2
    ·rfl
  ·cases h
def EW (zc:List AV)(l:List (Nat×Nat×AV)):Option AV:=(N2 zc l).map .agg
def Ww (P:Program)(t:TypeId):Option (List AV×(Nat→Option (Nat×Nat))):=
 match Mo P t,P.underlying t with
 | some z,some (.struct fields)=>match fields.toList.all λf=>(BG P f.type).isSome with
  | true=>some (z.cells.toList.map .lit,λi=>(fields[i]?).bind λf=>(BG P f.type).map λn=>(f.offset,n))
  | false=>none
 | some z,some (.array _ e)=>match BG P e with
  | some sz=>some (z.cells.toList.map .lit,λi=>some (i*sz,sz))
  | none=>none
 | _,_=>none
theorem Yf {P:Program}{t:TypeId}{zc:List AV}{pl:Nat→Option (Nat×Nat)}(h:Ww P t=some (zc,pl))(parts:List (Nat×AV)):Qu P t parts=(GV pl zc parts).map .agg:=by
 unfold Ww at h;unfold Qu;split at h
 ·rename_i z fields hz hu
  rw[hz,hu];simp only;split at h
  ·rename_i ha
   injection h with h;injection h with h1 h2;subst h1;subst h2;rw[if_pos ha]
  ·cases h
 ·rename_i z n e hz hu
  rw[hz,hu];simp only;split at h
  ·rename_i sz hs
   injection h with h;injection h with h1 h2;subst h1;subst h2;rw[hs]
  ·cases h
 ·cases h
def QK (P:Program)(t:TypeId):Option (Nat×Nat×List AV):=
 match P.underlying t with
 | some (.slice e)=>match P.info? e with
  | some i=>match i.zero with
   | some z=>match !(Nat.beq i.size 0)&& !(Nat.beq i.bytes 0)&&Nat.beq z.cells.size i.size&&Ki z with
    | true=>some (i.size,i.bytes,z.cells.toList.map .lit)
    | false=>none
   | none=>none
  | none=>none
 | _=>none
theorem K5 {P:Program}{t:TypeId}{sz by':Nat}{zc:List AV}(h:QK P t=some (sz,by',zc)):
  ∃e i z,P.underlying t=some (.slice e)∧P.info? e=some i∧i.zero=some z∧i.size=sz∧i.bytes=by'∧z.cells.toList.map .lit=zc∧sz≠0∧by'≠0∧z.cells.size=sz∧Ki z=true:=by
 unfold QK at h;split at h
 ·rename_i e hu
  split at h
  ·rename_i i hi
   split at h
   ·rename_i z hz
    split at h
    ·rename_i hb
     injection h with h;injection h with h1 h2;injection h2 with h2 h3;simp only[sA]at hb;obtain⟨⟨⟨b1,b2⟩,b3⟩,b4⟩:=hb;have b3:=vB b3;refine⟨e,i,z,hu,hi,hz,h1,h2,h3,?_,?_,by rw[← h1];exact b3,b4⟩
     ·rw[← h1];exact λh0=>by rw[h0]at b1;cases b1
     ·rw[← h2];exact λh0=>by rw[h0]at b2;cases b2
    ·cases h
   ·cases h
  ·cases h
 ·cases h
def Dh (H:AH)(size len:Nat)(cells:List AV)(l:List (Nat×Nat×AV)):Option (AV×AH):=(N2 cells l).map λcs=>(.sl H.length 0 len size (.ex len),H++[some (.cells cs)])
def PJ (size len:Nat)(cells:List AV)(l:List (Nat×Nat×AV)):Option AV:=(N2 cells l).map λcs=>.imm cs len size
def Ar (g:Bool)(n:Nat)(H:AH)(a:AV):Option AV:=match a with
 | .ptr o off=>match H[o]? with
  | some (some (.cells cs))=>Am g n cs off
  | _=>none
 | .ip cs=>Am g n cs 0
 | _=>none
def AU (n:Nat)(H:AH)(a x:AV):Option AH:=match B3 x,a with
 | some xs,.ptr o off=>match H[o]? with
  | some (some (.cells cs))=>if xs.length=n∧off+n≤cs.length then some (H.set o (some (.cells (AS cs off xs))))else none
  | _=>none
 | _,_=>none
def Ax (op:BinOp)(x y:AV):Option AV:=match x,y with
 | .lit (.int k a),.lit (.int k' b)=>match op with
  | .shl | .shr=>(Ko op k a b).map .lit
  | _=>if k=k' then(Ga op k a b).map .lit else none
 | _,_=>none
def PI (op:BinOp)(x y:AV):Option AV:=match x,y with
 | .lit (.string a),.lit (.string b)=>(Q5 op a b).map .lit
 | _,_=>none
def pQ (op:BinOp)(e:Option Bool):Option AV:=match op with
 | .eql=>e.map λb=>.lit (.bool b)
 | .neq=>e.map λb=>.lit (.bool !b)
 | _=>none
def nA (op:BinOp)(x y:AV):Option AV:=match x,y with
 | .lit (.bool a),.lit (.bool b)=>pQ op (some (a==b))
 | _,_=>none
def UH (op:BinOp)(f:AV→Option Bool)(x y:AV):Option AV:=match x,y with
 | .agg _,.agg _=>none
 | .lit .nilIface,_ | _,.lit .nilIface=>none
 | x,y=>pQ op (FA (f x) (f y))
inductive CK where
 | int (k:IntKind)
 | str
 | ofB
 | toB
 | same
def Xq (P:Program)(s d:TypeId):Option CK:=
 match P.underlying d,P.underlying s with
 | some (.int k),some _=>some (.int k)
 | some .string,some .string=>some .str
 | some .string,some (.slice e)=>match P.underlying e with
  | some (.int .u8)=>some .ofB
  | _=>none
 | some (.slice e),some .string=>match P.underlying e with
  | some (.int .u8)=>some .toB
  | _=>none
 | some (.slice e),some (.slice _)=>match Nat.beq s d,P.underlying e with
  | true,some (.int .u8)=>some .same
  | _,_=>none
 | _,_=>none
def YQ (k:IntKind)(x:AV):Option AV:=match x with
 | .lit (.int _ n)=>some (.lit (.int k (k.wrap n)))
 | _=>none
def acS (x:AV):Option AV:=match x with
 | .lit (.string s)=>some (.lit (.string s))
 | _=>none
def pT (H:AH)(x:AV):Option AV:=match x with
 | .lit (.string _)=>none
 | x=>match Aa H 1 x with
  | some (cs,_)=>(O2 cs).map λns=>.lit (.string (Uw ns))
  | none=>none
def acT (x:AV):Option AV:=match x with
 | .lit (.string s)=>some (.imm (s.data.toList.map λb=>.lit (.int .u8 b.toNat)) s.size 1)
 | _=>none
def pU (sz bytes:Nat)(zc:List AV)(H:AH)(l c:AV):Option (AV×AH):=match l,c with
 | .lit (.int _ n),.lit (.int _ m)=>if 0≤n∧n≤m∧(bytes:Int)*m≤281474976710656∧m≤9223372036854775807 then
   some (.sl H.length 0 n.toNat sz (.ex m.toNat),H++[some (.cells (Bo zc m.toNat))])else none
 | _,_=>none
def O0 (x:AV)(lo hi:Option AV):Option AV:=match x with
 | .lit (.string s)=>match Bk lo 0,Bk hi s.size with
  | some l,some h=>if l≤h∧h≤s.size then some (.lit (.string (s.extract l h)))else none
  | _,_=>none
 | _=>none
def AT (sz:Nat)(x:AV)(lo hi mx:Option AV):Option AV:=match x with
 | .sl o off len esz cap=>if sz≠esz then none else
   match Bk lo 0,Bk hi len,mx with
   | some l,some h,none=>if l≤h∧h≤max len cap.least then some (.sl o (off+l*esz) (h - l) esz (cap.cut len l))else none
   | some l,some h,some m=>match Bk (some m) 0 with
    | some m=>if l≤h∧h≤m∧m≤max len cap.least∧hi.isSome then some (.sl o (off+l*esz) (h - l) esz (.ex (m - l)))else none
    | none=>none
   | _,_,_=>none
 | .imm cs len esz=>match Bk lo 0,Bk hi len,mx with
   | some l,some h,none=>if l≤h∧h≤len then some (.imm ((cs.drop (l*sz)).take ((h - l)*sz)) (h - l) esz)else none
   | some l,some h,some m=>match Bk (some m) 0 with
    | some m=>if l≤h∧h≤m∧m≤len∧hi.isSome then some (if m=l then .emp else .imm ((cs.drop (l*sz)).take ((h - l)*sz)) (h - l) esz)else none
    | none=>none
   | _,_,_=>none
 | .emp=>match Bk lo 0,Bk hi 0,mx with
   | some 0,some 0,none=>some .emp
   | _,_,_=>none
 | .lit (.slice none 0 0)=>match Bk lo 0,Bk hi 0,mx with
   | some 0,some 0,none=>some (.lit (.slice none 0 0))
   | _,_,_=>none
 | _=>none
def Nj (n sz:Nat)(H:AH)(x:AV)(lo hi:Option AV):Option AV:=match Bk lo 0,Bk hi n,x with
 | some l,some h,.ptr o off=>match H[o]? with
  | some (some (.cells cs))=>if l≤h∧h≤n∧off+n*sz≤cs.length then some (.sl o (off+l*sz) (h - l) sz (.ex (n - l)))else none
  | _=>none
 | some l,some h,.ip cs=>if l≤h∧h≤n then some (.imm ((cs.drop (l*sz)).take ((h - l)*sz)) (h - l) sz)else none
 | _,_,_=>none
def UR (g:Bool)(n off:Nat)(x:AV):Option AV:=match x with
 | .agg cs=>Am g n cs off
 | _=>none
def W1 (P:Program)(s:TypeId)(f:Nat):Option (Bool×Nat×Nat):=
 match P.underlying s with
 | some (.struct fields)=>match fields[f]? with
  | some fl=>match Qd P fl.type,BG P fl.type with
   | some g,some n=>some (g,n,fl.offset)
   | _,_=>none
  | none=>none
 | _=>none
def Bv (sz:Nat)(x i:AV):Option AV:=match JT i with
 | none=>none
 | some n=>match x with
  | .sl o off len _ _=>if 0≤n∧n<len then some (.ptr o (off+n.toNat*sz))else none
  | .imm cs len _=>if 0≤n∧n<len then some (.ip (cs.drop (n.toNat*sz)))else none
  | _=>none
def Zj (len sz:Nat)(x i:AV):Option AV:=match JT i with
 | none=>none
 | some n=>if 0≤n∧n<len then Ac (n.toNat*sz) x else none
def Zi (g:Bool)(n' len sz:Nat)(x i:AV):Option AV:=match JT i with
 | none=>none
 | some n=>if 0≤n∧n<len then UR g n' (n.toNat*sz) x else none
def PL (x i:AV):Option AV:=match JT i with
 | none=>none
 | some n=>match x with
  | .lit (.string s)=>if 0≤n then(s[n.toNat]?).map λb=>.lit (.int .u8 b.toNat)else none
  | _=>none
def W9 (P:Program)(t:TypeId):Option (TypeDesc×Value):=
 match P.underlying t with
 | some (.map key elem)=>match P.underlying key,Mo P elem with
  | some d,some z=>some (d,z)
  | _,_=>none
 | _=>none
theorem NL {P:Program}{t:TypeId}{d:TypeDesc}{z:Value}(h:W9 P t=some (d,z)):∃key elem,P.underlying t=some (.map key elem)∧P.underlying key=some d∧Mo P elem=some z:=by
 unfold W9 at h;split at h
 ·rename_i key elem hu
  split at h
  ·rename_i d' z' h1 h2
   injection h with h;injection h with e1 e2;subst e1;subst e2;exact⟨key,elem,hu,h1,h2⟩
  ·cases h
 ·cases h
def iZ (H:AH)(l:Option AV):Option (AV×AH):=match l with
 | none=>some (.mp H.length,H++[some (.map [])])
 | some (.lit (.int _ _))=>some (.mp H.length,H++[some (.map [])])
 | _=>none
def cH (d:TypeDesc)(z:Value)(H:AH)(x k:AV)(co:Bool):Option AV:=match Nr H x,k with
 | some es,.lit kv=>if S6 d kv then match IG d kv es 0 with
   | some (some (_,a))=>some (if co then .tup [a,.lit (.bool true)]else a)
   | some none=>some (if co then .tup [.ofV z,.lit (.bool false)]else .ofV z)
   | none=>none
  else none
 | _,_=>none
def mG (d:TypeDesc)(H:AH)(m k x:AV):Option AH:=match m,k with
 | .mp o,.lit kv=>match H[o]? with
  | some (some (.map es))=>if S6 d kv then match IG d kv es 0 with
    | some (some (j,_))=>some (H.set o (some (.map (es.set j (kv,x)))))
    | some none=>some (H.set o (some (.map (es++[(kv,x)]))))
    | none=>none
   else none
  | _=>none
 | _,_=>none
def ame (d:TypeDesc)(z:Value)(H:AH)(m k:AV):Option (AV×AH):=match m,k with
 | .mp o,.lit kv=>match H[o]? with
  | some (some (.map es))=>if S6 d kv then match IG d kv es 0 with
    | some (some (j,a))=>some (.tup [a,.lit (goInt j)],H)
    | some none=>some (.tup [.ofV z,.lit (goInt es.length)],H.set o (some (.map (es++[(kv,.ofV z)]))))
    | none=>none
   else none
  | _=>none
 | _,_=>none
inductive LK where
 | str
 | sl
 | arr (n:Nat)
 | mp
def Yx (P:Program)(t:TypeId):Option LK:=
 match P.underlying t with
 | some .string=>some .str
 | some (.slice _)=>some .sl
 | some (.array n _)=>some (.arr n)
 | some (.map _ _)=>some .mp
 | _=>none
def Ff (x:AV):Option AV:=match x with
 | .lit (.string s)=>some (.lit (.int .i64 s.size))
 | _=>none
def Be (x:AV):Option AV:=match x with
 | .sl _ _ len _ _=>some (.lit (.int .i64 len))
 | .imm _ len _=>some (.lit (.int .i64 len))
 | .lit (.slice none n _)=>some (.lit (.int .i64 n))
 | .emp=>some (.lit (.int .i64 0))
 | _=>none
def Wq (H:AH)(x:AV):Option AV:=match x with
 | .lit (.map none)=>some (.lit (.int .i64 0))
 | .mp o=>match H[o]? with
  | some (some (.map es))=>some (.lit (goInt es.length))
  | _=>none
 | _=>none
def Sg (x:AV):Option AV:=match x with
 | .sl _ _ _ _ (.ex k)=>some (.lit (goInt k))
 | .lit (.slice none _ c)=>some (.lit (goInt c))
 | .emp=>some (.lit (goInt 0))
 | _=>none
def Oo (size bytes:Nat)(H:AH)(s x:AV):Option (AV×AH):=match AX H size x with
 | none=>none
 | some (news,n)=>J0 H size bytes s news n
def cG (zc:List AV)(H:AH)(x:AV):Option AH:=match x with
 | .lit (.slice none _ _)=>some H
 | .sl o off len esz _=>match H[o]? with
  | some (some (.cells cs))=>if zc.length=esz∧esz≠0∧off+len*esz≤cs.length then some (if len=0 then H else H.set o (some (.cells (AS cs off (Bo zc len)))))else none
  | _=>none
 | _=>none
inductive SK where
 | str
 | sl (sz:Nat)
 | arr (n sz:Nat)
def RR (P:Program)(t:TypeId):Option SK:=
 match P.underlying t with
 | some .string=>some .str
 | some (.slice e)=>(BG P e).map .sl
 | some (.array n e)=>(BG P e).map (.arr n)
 | _=>none
inductive IK where
 | sl (sz:Nat)
 | arr (n sz:Nat)
def W4 (P:Program)(t:TypeId):Option IK:=
 match P.underlying t with
 | some (.slice e)=>(BG P e).map .sl
 | some (.array n e)=>(BG P e).map (.arr n)
 | _=>none
inductive VK where
 | str
 | arr (g:Bool) (n len sz:Nat)
def qN (P:Program)(t:TypeId):Option VK:=
 match P.underlying t with
 | some .string=>some .str
 | some (.array len e)=>match Qd P e,BG P e with
  | some g,some n=>some (.arr g n len n)
  | _,_=>none
 | _=>none
mutual
def HW:AV→Bool
 | .lit _=>true
 | .agg cs=>Re cs
 | .tup cs=>Re cs
 | .emp=>true
 | _=>false
def Re:List AV→Bool
 | []=>true
 | a::r=>HW a&&Re r
end
mutual
theorem Vy {G G':Cfg}:∀{a:AV} {v:Value},HW a=true→VR G a v→VR G' a v
 | .lit _,_,_,hv=>by simpa only[VR]using hv
 | .agg cs,v,h,hv=>by
  simp only[HW]at h;simp only[VR]at hv⊢;obtain⟨vs,e,hr⟩:=hv;exact⟨vs,e,OH h hr⟩
 | .tup cs,v,h,hv=>by
  simp only[HW]at h;simp only[VR]at hv⊢;obtain⟨vs,e,hr⟩:=hv;exact⟨vs,e,OH h hr⟩
 | .emp,_,_,hv=>by simpa only[VR]using hv
 | .ptr ..,_,h,_=>by simp[HW]at h
 | .ip ..,_,h,_=>by simp[HW]at h
 | .sl ..,_,h,_=>by simp[HW]at h
 | .imm ..,_,h,_=>by simp[HW]at h
 | .mp ..,_,h,_=>by simp[HW]at h
 | .fn ..,_,h,_=>by simp[HW]at h
 | .junk,_,h,_=>by simp[HW]at h
theorem OH {G G':Cfg}:∀{as:List AV} {vs:List Value},Re as=true→VRs G as vs→VRs G' as vs
 | [],_,_,hv=>by simpa only[VRs]using hv
 | a::as,vs,h,hv=>by
  simp only[Re,tO]at h;simp only[VRs]at hv⊢;obtain⟨v,r,e,h1,h2⟩:=hv;exact⟨v,r,e,Vy h.1 h1,OH h.2 h2⟩
end
section
variable {P : Program}
theorem BPure.lent {f:FuncId}{args args':List AV}{H:AH}{r:AV}{n:Nat}(hf:Ju (Iv H n) args=some args')(hr:HW r=true)(h:BPure P f args' r):BCall P f args H r H:=by
 intro G vs hH hv
 let G1:Cfg:={w:=G.w,n:=0,μ:=G.μ,L:=λ_=>False,K:=λb=>G.K b∧¬G.L b}
 have h0:HR G1 []:=⟨rfl,λo x h=>by simp at h,λo o' x x' h=>by simp at h,λo x h=>by simp at h,λb h=>by
  rcases h with h | h
  ·exact h.elim
  ·exact hH.lt b (.inr h.1),λb h=>h.elim⟩
 have hv':VRs G1 args' vs:=FT (λa v r hx he=>Uf (G':=G) (G'':=G1) rfl (λb hn hh=>hn (.inr (hh.elim False.elim And.left))) hH (λo x ho hh=>hh.elim False.elim λhk=>hk.2 (hH.live o x ho)) n a v r hx he) hv hf;refine((h []) G1 vs h0 hv').mono ?_;rintro e w' ⟨r',X,G',v,rfl,rfl,hE,hx,hX,rfl,rfl⟩;have keep:∀k,k<G.w.heap.size→G'.w.heap[k]?=G.w.heap[k]?:=λk hk=>(hE.keep k hk (λh=>h)).1
 let G2:Cfg:={w:=G'.w,n:=G.n,μ:=G.μ,L:=G.L,K:=G.K}
 have hE':Evo G G2:=⟨hE.os,hE.tape,hE.output,hE.size,λk hk hL=>⟨keep k hk,hL⟩,sY _,λ_ _=>rfl,rfl⟩;exact⟨r',H,G2,v,rfl,rfl,hE',Vy hr hx,⟨hH.n,λo x ho=>OR.evo hE' (hH.lt_n ho) (keep _ (hH.lt _ (.inl (hH.live _ _ ho)))) (hH.obj o x ho),hH.inj,hH.live,λb hb=>tX (hH.lt b hb) hE.size,hH.dis⟩,rfl,rfl⟩
def PCall (P:Program)(f:FuncId)(args:List AV)(H:AH)(r:AV):Prop:=BPure P f args r∨∃n args',Ju (Iv H n) args=some args'∧HW r=true∧BPure P f args' r
theorem PCall.call {f:FuncId}{args:List AV}{H:AH}{r:AV}(h:PCall P f args H r):BCall P f args H r H:=by
 rcases h with h | ⟨n,args',h1,h2,h3⟩
 ·exact h H
 ·exact BPure.lent h1 h2 h3
end
end
section
section
variable {P : Program}
def Oe (P:Program)(H:AH)(w:Bool)(b:Builtin)(ts:List TypeId)(xs:List AV)(K:AV→AH→Prop):Prop:=
 match b,ts,xs with
 | .len,[t],[x]=>match Yx P t with
  | some .str=>gO w (Ff x) λv=>K v H
  | some .sl=>gO w (Be x) λv=>K v H
  | some (.arr n)=>gO w (some (.lit (.int .i64 n))) λv=>K v H
  | some .mp=>gO w (Wq H x) λv=>K v H
  | none=>False
 | .cap,[t],[x]=>match Yx P t with
  | some .sl=>gO w (Sg x) λv=>K v H
  | some (.arr n)=>gO w (some (.lit (goInt n))) λv=>K v H
  | _=>False
 | .clear,[t],[x]=>match QK P t with
  | some (_,_,zc)=>gS w (cG zc H x) H λH'=>K (if w then .lit (.tuple #[])else A0) H'
  | none=>False
 | .append,[t,u],[s,x]=>match QK P t,Yx P u with
  | some (sz,by',_),some .sl | some (sz,by',_),some .str=>gH w (Oo sz by' H s x) H K
  | some (sz,by',zc),none=>match P.underlying u with
   | some (.int _)=>gH w (Ii H sz by' zc s x) H K
   | _=>False
  | _,_=>False
 | .copy,[t,_],[d,s]=>match RR P t with
  | some (.sl sz)=>gH w (MK sz H d s) H K
  | _=>False
 | .min,_,xs=>gO w (amm U9 xs) λv=>K v H
 | .max,_,xs=>gO w (amm W3 xs) λv=>K v H
 | _,_,_=>False
def EQ (P:Program)(ql al:FuncId→Bool)(dr:Bool)(ρ:Operand→AV)(H:AH)(o:Oper)(w:Bool)(K:AV→AH→Prop):Prop:=
 match o.op with
 | .move x=>gO w (some (ρ x)) λv=>K v H
 | .assign x=>gO w (some (ρ x)) λv=>K v H
 | .pick c a b=>gO w (AG (ρ c) (ρ a) (ρ b)) λv=>K v H
 | .alloc e=>match Mo P e with
  | some z=>gH w (A8 H (.ofV z)) H K
  | none=>False
 | .box _ x=>gH w (A8 H (ρ x)) H K
 | .build t parts=>match Ww P t with
  | some (zc,pl)=>match Pa pl ρ parts.toList with
   | some l=>gO w (EW zc l) λv=>K v H
   | none=>False
  | none=>False
 | .buildSlice t len parts=>match QK P t with
  | some (sz,_,zc)=>match Nat.ble (len*sz) 16777216 with
   | true=>match Pa (λj=>some (j*sz,sz)) ρ parts.toList with
    | some l=>match dr with
     | true=>gO w (PJ sz len (Bo zc len) l) λv=>K v H
     | false=>gH w (Dh H sz len (Bo zc len) l) H K
    | none=>False
   | false=>False
  | none=>False
 | .load t a=>match Qd P t,BG P t with
  | some g,some n=>gO w (Ar g n H (ρ a)) λv=>K v H
  | _,_=>False
 | .store t a x=>match BG P t with
  | some n=>gS w (AU n H (ρ a) (ρ x)) H λH'=>K A0 H'
  | none=>False
 | .nilCheck x=>gO w (Af (ρ x)) λv=>K v H
 | .binOp op t x y _=>match P.underlying t with
  | some (.int _)=>gO w (Ax op (ρ x) (ρ y)) λv=>K v H
  | some .string=>gO w (PI op (ρ x) (ρ y)) λv=>K v H
  | some .bool=>gO w (nA op (ρ x) (ρ y)) λv=>K v H
  | some (.pointer _)=>gO w (UH op Uq (ρ x) (ρ y)) λv=>K v H
  | some (.slice _)=>gO w (UH op LC (ρ x) (ρ y)) λv=>K v H
  | some (.func ..)=>gO w (UH op WD (ρ x) (ρ y)) λv=>K v H
  | some (.map ..)=>gO w (UH op WE (ρ x) (ρ y)) λv=>K v H
  | _=>gO w (Ms P op t (ρ x) (ρ y)) λv=>K v H
 | .unOp op _ x=>gO w (E4 op (ρ x)) λv=>K v H
 | .convert s d x=>match Xq P s d with
  | some (.int k)=>gO w (YQ k (ρ x)) λv=>K v H
  | some .str=>gO w (acS (ρ x)) λv=>K v H
  | some .ofB=>gO w (pT H (ρ x)) λv=>K v H
  | some .toB=>gO w (acT (ρ x)) λv=>K v H
  | some .same=>gH w (iV H (ρ x)) H K
  | none=>False
 | .makeFunc fn f c=>gO w (some (.fn fn (f.toList.map ρ) (c.toList.map ρ))) λv=>K v H
 | .makeSlice t l c=>match QK P t with
  | some (sz,by',zc)=>gH w (pU sz by' zc H (ρ l) (ρ c)) H K
  | none=>False
 | .slice t x lo hi mx=>match RR P t,mx with
  | some .str,none=>gO w (O0 (ρ x) (lo.map ρ) (hi.map ρ)) λv=>K v H
  | some (.sl sz),mx=>gO w (AT sz (ρ x) (lo.map ρ) (hi.map ρ) (mx.map ρ)) λv=>K v H
  | some (.arr n sz),none=>gO w (Nj n sz H (ρ x) (lo.map ρ) (hi.map ρ)) λv=>K v H
  | _,_=>False
 | .fieldAddr s x f=>match Qz P s f with
  | some k=>gO w (Ac k (ρ x)) λv=>K v H
  | none=>False
 | .field s x f=>match W1 P s f with
  | some (g,n,off)=>gO w (UR g n off (ρ x)) λv=>K v H
  | none=>False
 | .indexAddr t x i=>match W4 P t with
  | some (.sl sz)=>gO w (Bv sz (ρ x) (ρ i)) λv=>K v H
  | some (.arr len sz)=>gO w (Zj len sz (ρ x) (ρ i)) λv=>K v H
  | none=>False
 | .index t x i=>match qN P t with
  | some .str=>gO w (PL (ρ x) (ρ i)) λv=>K v H
  | some (.arr g n len sz)=>gO w (Zi g n len sz (ρ x) (ρ i)) λv=>K v H
  | none=>False
 | .extract t i=>gO w (Aj (ρ t) i) λv=>K v H
 | .makeMap t l=>match W9 P t with
  | some _=>gH w (iZ H (l.map ρ)) H K
  | none=>False
 | .lookup t x k co=>match W9 P t with
  | some (d,z)=>gO w (cH d z H (ρ x) (ρ k) co) λv=>K v H
  | none=>False
 | .mapUpdate t m k x=>match W9 P t with
  | some (d,_)=>gS w (mG d H (ρ m) (ρ k) (ρ x)) H λH'=>K A0 H'
  | none=>False
 | .mapEntry t m k=>match W9 P t with
  | some (d,z)=>gH w (ame d z H (ρ m) (ρ k)) H K
  | none=>False
 | .entryStore _ m s x=>gS w (FY H (ρ m) (ρ s) (ρ x)) H λH'=>K A0 H'
 | .call {callee:=.builtin b,args,argTypes}=>Oe P H w b argTypes.toList (args.toList.map ρ) K
 | .call {callee:=.value f,args,argTypes:=_}=>bF w (ρ f) λk first cap=>match Bt al o.op with
   | true=>match dr with
    | true=>False
    | false=>match Bs P k with
     | true=>gA w (ACalls P k (first++args.toList.map ρ++cap) H) H K
     | false=>gP w (ExtR P k (first++args.toList.map ρ++cap) H) λv=>K v H
   | false=>bT (Bs P k||!w) (match Bt ql o.op with
    | true=>match dr with
     | true=>gP w (BPure P k (first++args.toList.map ρ++cap)) λv=>K v H
     | false=>gP w (PCall P k (first++args.toList.map ρ++cap) H) λv=>K v H
    | false=>gC w (BCall P k (first++args.toList.map ρ++cap) H) H K)
 | _=>False
def StepR (P:Program)(ql:FuncId→Bool)(dr:Bool)(ρ:Operand→AV)(H:AH)(o:Oper)(w:Bool)(r:AV)(H':AH):Prop:=
 (w=true∧(To P dr ρ H o=some (r,H')∨(To P dr ρ H o=none∧Lj P ql dr ρ o H r H')))∨(w=false∧r=A0∧H'=H)
section
variable {ql : FuncId→Bool} {dr : Bool} {ρ : Operand→AV} {H : AH} {o : Oper} {w : Bool} {K : AV→AH→Prop}
theorem Bj {x:Option AV}(h:gO w x λv=>K v H)(hx:∀r,x=some r→To P dr ρ H o=some (r,H)):
  ∃r H',K r H'∧StepR P ql dr ρ H o w r H'∧∀K2:AV→AH→Prop,K2 r H'→gO w x λv=>K2 v H:=by
 cases w with
 | false=>exact⟨A0,H,h,.inr ⟨rfl,rfl,rfl⟩,λ_ h=>h⟩
 | true=>cases x with
  | none=>exact h.elim
  | some r=>exact⟨r,H,h,.inl ⟨rfl,.inl (hx r rfl)⟩,λ_ h=>h⟩
theorem Hp {x:Option (AV×AH)}(h:gH w x H K)(hx:∀r,x=some r→To P dr ρ H o=some r):
  ∃r H',K r H'∧StepR P ql dr ρ H o w r H'∧∀K2:AV→AH→Prop,K2 r H'→gH w x H K2:=by
 cases w with
 | false=>exact⟨A0,H,h,.inr ⟨rfl,rfl,rfl⟩,λ_ h=>h⟩
 | true=>cases x with
  | none=>exact h.elim
  | some r=>exact⟨r.1,r.2,h,.inl ⟨rfl,.inl (hx r rfl)⟩,λ_ h=>h⟩
theorem ZN {x:Option AH}{u:AV}(h:gS w x H λH'=>K (if w then u else A0) H')(hx:∀r,x=some r→To P dr ρ H o=some (u,r)):
  ∃r H',K r H'∧StepR P ql dr ρ H o w r H'∧∀K2:AV→AH→Prop,K2 r H'→gS w x H λH'=>K2 (if w then u else A0) H':=by
 cases w with
 | false=>exact⟨A0,H,h,.inr ⟨rfl,rfl,rfl⟩,λ_ h=>h⟩
 | true=>cases x with
  | none=>exact h.elim
  | some r=>exact⟨u,r,h,.inl ⟨rfl,.inl (hx r rfl)⟩,λ_ h=>h⟩
theorem Uh {x:Option AH}(h:gS w x H λH'=>K A0 H')(hx:∀r,x=some r→To P dr ρ H o=some (A0,r)):
  ∃r H',K r H'∧StepR P ql dr ρ H o w r H'∧∀K2:AV→AH→Prop,K2 r H'→gS w x H λH'=>K2 A0 H':=by
 have:=ZN (u:=A0) (ql:=ql) (by simpa using h) hx
 simpa using this
end
theorem AN {dr:Bool}{ρ:Operand→AV}{H:AH}{o:Oper}(hb:V1 o.op=false):To P dr ρ H o=Cl P ρ H o:=by
 unfold To;rw[hb];simp
theorem Wo {t:TypeId}{g:Bool}{n:Nat}{H:AH}{a:AV}(hg:Qd P t=some g)(hn:BG P t=some n):Pi P H t a=Ar g n H a:=by
 unfold Pi Ar;rw[hg,hn];cases a<;>rfl
theorem jA {t:TypeId}{n:Nat}{H:AH}{a x:AV}(hn:BG P t=some n):O1 P H t a x=AU n H a x:=by
 unfold O1 AU;rw[hn];cases B3 x<;>cases a<;>rfl
theorem iT {op:BinOp}{t:TypeId}{x y r:AV}(h:Ax op x y=some r):Ms P op t x y=some r:=by
 unfold Ax at h;split at h
 ·unfold Ms;exact h
 ·cases h
theorem iU {op:BinOp}{t:TypeId}{x y r:AV}(h:PI op x y=some r):Ms P op t x y=some r:=by
 unfold PI at h;split at h
 ·unfold Ms;exact h
 ·cases h
theorem iS {op:BinOp}{t:TypeId}{x y r:AV}(hu:P.underlying t=some .bool)(h:nA op x y=some r):Ms P op t x y=some r:=by
 unfold nA at h;split at h
 ·unfold Ms
  simp only[Ph,hu];exact h
 ·cases h
theorem TG {op:BinOp}{f:AV→Option Bool}{t:TypeId}{x y r:AV}(hx:∀v,x=.lit v→(∃k n,v=.int k n)∨(∃s,v=.string s)→f x=none)(he:∀x y,Ph P 20 t x y=FA (f x) (f y))(h:UH op f x y=some r):Ms P op t x y=some r:=by
 unfold UH at h;split at h
 ·cases h
 ·cases h
 ·cases h
 ·rename_i hagg hn1 hn2
  unfold Ms
  split
  ·rename_i k a k' b
   have:=hx _ rfl (.inl ⟨k,a,rfl⟩)
   rw[this]at h;unfold pQ FA at h;split at h<;>simp at h
  ·rename_i a b
   have:=hx _ rfl (.inr ⟨a,rfl⟩)
   rw[this]at h;unfold pQ FA at h;split at h<;>simp at h
  ·exact(hn2 _ _ rfl rfl).elim
  ·exact(hagg rfl).elim
  ·exact(hn1 rfl).elim
  ·rw[he]
   exact h
end
end
section
section
variable {P : Program}
theorem EP {t:TypeId}{x:LK}(h:Yx P t=some x):match x with
  | .str=>P.underlying t=some .string
  | .sl=>∃e,P.underlying t=some (.slice e)
  | .arr n=>∃e,P.underlying t=some (.array n e)
  | .mp=>∃k e,P.underlying t=some (.map k e):=by
 unfold Yx at h;split at h
 ·rename_i hu;injection h with h;subst h;exact hu
 ·rename_i e hu;injection h with h;subst h;exact⟨e,hu⟩
 ·rename_i n e hu;injection h with h;subst h;exact⟨e,hu⟩
 ·rename_i k e hu;injection h with h;subst h;exact⟨k,e,hu⟩
 ·cases h
theorem FO {t:TypeId}{x:SK}(h:RR P t=some x):match x with
  | .str=>P.underlying t=some .string
  | .sl sz=>∃e,P.underlying t=some (.slice e)∧BG P e=some sz
  | .arr n sz=>∃e,P.underlying t=some (.array n e)∧BG P e=some sz:=by
 unfold RR at h;split at h
 ·rename_i hu;injection h with h;subst h;exact hu
 ·rename_i e hu
  obtain⟨s,hs,rfl⟩:=Option.map_eq_some_iff.1 h;exact⟨e,hu,hs⟩
 ·rename_i n e hu
  obtain⟨s,hs,rfl⟩:=Option.map_eq_some_iff.1 h;exact⟨e,hu,hs⟩
 ·cases h
theorem SZ {t:TypeId}{x:IK}(h:W4 P t=some x):match x with
  | .sl sz=>∃e,P.underlying t=some (.slice e)∧BG P e=some sz
  | .arr n sz=>∃e,P.underlying t=some (.array n e)∧BG P e=some sz:=by
 unfold W4 at h;split at h
 ·rename_i e hu
  obtain⟨s,hs,rfl⟩:=Option.map_eq_some_iff.1 h;exact⟨e,hu,hs⟩
 ·rename_i n e hu
  obtain⟨s,hs,rfl⟩:=Option.map_eq_some_iff.1 h;exact⟨e,hu,hs⟩
 ·cases h
theorem aB {t:TypeId}{x:VK}(h:qN P t=some x):match x with
  | .str=>P.underlying t=some .string
  | .arr g n len sz=>∃e,P.underlying t=some (.array len e)∧Qd P e=some g∧BG P e=some n∧sz=n:=by
 unfold qN at h;split at h
 ·rename_i hu;injection h with h;subst h;exact hu
 ·rename_i len e hu
  split at h
  ·rename_i g n hg hn;injection h with h;subst h;exact⟨e,hu,hg,hn,rfl⟩
  ·cases h
 ·cases h
theorem I2 {s d:TypeId}{x:CK}(h:Xq P s d=some x):match x with
  | .int k=>P.underlying d=some (.int k)∧∃y,P.underlying s=some y
  | .str=>P.underlying d=some .string∧P.underlying s=some .string
  | .ofB=>P.underlying d=some .string∧∃e,P.underlying s=some (.slice e)∧P.underlying e=some (.int .u8)
  | .toB=>P.underlying s=some .string∧∃e,P.underlying d=some (.slice e)∧P.underlying e=some (.int .u8)
  | .same=>s=d∧∃e,P.underlying d=some (.slice e)∧P.underlying e=some (.int .u8):=by
 unfold Xq at h;split at h
 ·rename_i k y h1 h2;injection h with h;subst h;exact⟨h1,y,h2⟩
 ·rename_i h1 h2;injection h with h;subst h;exact⟨h1,h2⟩
 ·rename_i e h1 h2
  split at h
  ·rename_i h3;injection h with h;subst h;exact⟨h1,e,h2,h3⟩
  ·cases h
 ·rename_i e h1 h2
  split at h
  ·rename_i h3;injection h with h;subst h;exact⟨h2,e,h1,h3⟩
  ·cases h
 ·rename_i e e2 h1 h2
  split at h
  ·rename_i h3 h4;injection h with h;subst h;exact⟨vB h3,e,h1,h4⟩
  ·cases h
 ·cases h
theorem Yr {s:TypeId}{f:Nat}{g:Bool}{n off:Nat}(h:W1 P s f=some (g,n,off))(x:AV):Qy P s x f=UR g n off x:=by
 unfold W1 at h;unfold Qy;split at h
 ·rename_i fields hu
  rw[hu];simp only;split at h
  ·rename_i fl hfl
   rw[hfl];simp only;split at h
   ·rename_i g' n' hg hn
    injection h with h;injection h with h1 h2;injection h2 with h2 h3;subst h1;subst h2;subst h3;unfold apart UR;rw[hg,hn];cases x<;>rfl
   ·cases h
  ·cases h
 ·cases h
theorem YZ {t u:TypeId}{sz by':Nat}{zc:List AV}{H:AH}{s x:AV}(ht:QK P t=some (sz,by',zc))(hu:(∃e,P.underlying u=some (.slice e))∨P.underlying u=some .string):Jj P H t u s x=Oo sz by' H s x:=by
 obtain⟨e,i,z,h1,h2,h3,rfl,rfl,rfl,h4,h5,h6,h7⟩:=K5 ht;unfold Jj Oo;rcases hu with⟨e',hu⟩ | hu<;>rw[h1,hu]<;>simp only[h2,h3]
 ·cases AX H i.size x with
  | none=>rfl
  | some q=>simp[h4,h5,h6]
 ·cases AX H i.size x with
  | none=>rfl
  | some q=>simp[h4,h5,h6]
theorem cV {d:Nat}{t e:TypeId}(hu:P.underlying t=some (.pointer e))(x y:AV):Ph P (d+1) t x y=FA (Uq x) (Uq y):=by simp only[Ph,hu]
theorem iY {d:Nat}{t e:TypeId}(hu:P.underlying t=some (.slice e))(x y:AV):Ph P (d+1) t x y=FA (LC x) (LC y):=by simp only[Ph,hu]
theorem iW {d:Nat}{t:TypeId}{ps rs:Array TypeId}{v:Bool}(hu:P.underlying t=some (.func ps rs v))(x y:AV):Ph P (d+1) t x y=FA (WD x) (WD y):=by simp only[Ph,hu]
theorem iX {d:Nat}{t k e:TypeId}(hu:P.underlying t=some (.map k e))(x y:AV):Ph P (d+1) t x y=FA (WE x) (WE y):=by simp only[Ph,hu]
variable {ql : FuncId→Bool} {dr : Bool} {ρ : Operand→AV} {H : AH} {w : Bool} {K : AV→AH→Prop}
theorem U0 {dst:Option Tmp}{b:Builtin}{args:Array Operand}{ats:Array TypeId}{type:TypeId}{pos:String}{after:Array Edge}{guard:Option (Nat×Bool)}
  (h:Oe P H w b ats.toList (args.toList.map ρ) K):
  ∃r H',K r H'∧StepR P ql dr ρ H ⟨dst,.call {callee:=.builtin b,args,argTypes:=ats},type,pos,after,guard⟩ w r H'∧∀K2:AV→AH→Prop,K2 r H'→Oe P H w b ats.toList (args.toList.map ρ) K2:=by
 have hop:To P dr ρ H ⟨dst,.call {callee:=.builtin b,args,argTypes:=ats},type,pos,after,guard⟩=Bg P H b ats.toList (args.toList.map ρ):=(AN rfl).trans rfl;generalize ats.toList=ts at*;generalize args.toList.map ρ=xs at*;unfold Oe at h⊢;split at h
 ·rename_i t x
  (try simp only)
  split at h
  ·rename_i hl
   have hl':=EP hl
   (try simp only[hl])
   refine Bj h λr hr=>hop.trans ?_
   unfold Ff at hr;split at hr
   ·injection hr with hr;subst hr
    simp[Bg,Ow,hl']
   ·cases hr
  ·rename_i hl
   obtain⟨e,hl'⟩:=EP hl
   (try simp only[hl])
   refine Bj h λr hr=>hop.trans ?_
   unfold Be at hr;split at hr<;>first
    | (cases hr;done)
    | (injection hr with hr;subst hr;simp[Bg,Ow,hl'])
  ·rename_i n hl
   obtain⟨e,hl'⟩:=EP hl
   (try simp only[hl])
   refine Bj h λr hr=>hop.trans ?_
   injection hr with hr;subst hr;simp[Bg,Ow,hl']
  ·rename_i hl
   obtain⟨k,e,hl'⟩:=EP hl
   (try simp only[hl])
   refine Bj h λr hr=>hop.trans ?_
   unfold Wq at hr;split at hr
   ·injection hr with hr;subst hr
    simp[Bg,Ow,hl']
   ·simp only[Bg,Ow,hl',MW]
    first
     | (exact congrArg (Option.map λv=>(v,H)) hr)
     | ((try simp only[hr]);rfl)
   ·cases hr
  ·exact h.elim
 ·rename_i t x
  (try simp only)
  split at h
  ·rename_i hl
   obtain⟨e,hl'⟩:=EP hl
   (try simp only[hl])
   refine Bj h λr hr=>hop.trans ?_
   unfold Sg at hr;split at hr<;>first
    | (cases hr;done)
    | (injection hr with hr;subst hr;simp[Bg,Zc,hl'])
  ·rename_i n hl
   obtain⟨e,hl'⟩:=EP hl
   (try simp only[hl])
   refine Bj h λr hr=>hop.trans ?_
   injection hr with hr;subst hr;simp[Bg,Zc,hl']
  ·exact h.elim
 ·rename_i t x
  (try simp only)
  split at h
  ·rename_i sz by' zc hl
   obtain⟨e,i,z,h1,h2,h3,rfl,rfl,rfl,h4,h5,h6,h7⟩:=K5 hl
   (try simp only[hl])
   refine ZN h λr hr=>hop.trans ?_
   unfold cG at hr;unfold Bg TK;simp only[h1,h2];split at hr
   ·injection hr with hr;subst hr;rfl
   ·rename_i o off len esz cap
    simp only;split at hr
    ·rename_i cs hcs
     simp only[hcs,h3];split at hr
     ·rename_i hc
      injection hr with hr;subst hr;simp only[h2,h3];rw[if_pos (show z.cells.size=esz∧esz≠0∧Ki z=true∧off+len*esz≤cs.length from⟨by simpa using hc.1,hc.2.1,h7,hc.2.2⟩)];rfl
     ·cases hr
    ·cases hr
   ·cases hr
  ·exact h.elim
 ·rename_i t u s x
  (try simp only)
  split at h
  ·rename_i sz by' zc h1 h2
   (try simp only[h1,h2])
   obtain⟨e,h2'⟩:=EP h2;exact Hp h λr hr=>hop.trans (by simp only[Bg];rw[YZ h1 (.inl ⟨e,h2'⟩),hr])
  ·rename_i sz by' zc h1 h2
   (try simp only[h1,h2])
   have h2':=EP h2;exact Hp h λr hr=>hop.trans (by simp only[Bg];rw[YZ h1 (.inr h2'),hr])
  ·rename_i sz by' zc h1 h2
   (try simp only[h1,h2])
   split at h
   ·rename_i k hu
    (try simp only[hu])
    refine Hp h λr hr=>hop.trans ?_
    obtain⟨e,i,z,q1,q2,q3,rfl,rfl,rfl,q4,q5,q6,q7⟩:=K5 h1;have e1:Jj P H t u s x=none:=by unfold Jj;rw[q1,hu]
    have e2:Ke P H t u s x=Ii H i.size i.bytes (z.cells.toList.map .lit) s x:=by
     unfold Ke;simp only[q1,hu,q2,q3];rw[if_neg (by simp[q4,q5,q6,q7])]
    simp only[Bg,e1,e2,hr]
   ·exact h.elim
  ·exact h.elim
 ·rename_i t u d s
  (try simp only)
  split at h
  ·rename_i sz hl
   obtain⟨e,h1,h2⟩:=FO hl
   (try simp only[hl])
   refine Hp h λr hr=>hop.trans ?_
   show UM P H t d s=_
   unfold UM;simp only[h1,h2];exact hr
  ·exact h.elim
 ·exact Bj h λr hr=>hop.trans (by simp[Bg,hr])
 ·exact Bj h λr hr=>hop.trans (by simp[Bg,hr])
 ·exact h.elim
theorem P8 (op:Op):Bt Ak op=false:=by
 unfold Bt
 split<;>rfl
abbrev wN:=@Option.map_none
set_option maxHeartbeats 2000000 in
theorem Jw {o:Oper}(h:EQ P ql Ak dr ρ H o w K):∃r H',K r H'∧StepR P ql dr ρ H o w r H'∧∀K2:AV→AH→Prop,K2 r H'→EQ P ql Ak dr ρ H o w K2:=by
 obtain⟨dst,op,type,pos,after,guard⟩:=o;cases op
 case move x=>exact Bj h λr hr=>by injection hr with hr;subst hr;exact(AN rfl).trans rfl
 case assign x=>exact Bj h λr hr=>by injection hr with hr;subst hr;exact(AN rfl).trans rfl
 case pick c a b=>
  refine Bj h λr hr=>(AN rfl).trans ?_
  unfold AG at hr;split at hr
  ·rename_i t ht
   injection hr with hr;subst hr;simp[Cl,ht]
  ·cases hr
 case alloc e=>
  unfold EQ at h⊢;simp only at h⊢;split at h
  ·rename_i z hz
   (try simp only[hz])
   exact Hp h λr hr=>(AN rfl).trans (by simp[Cl,hz,hr])
  ·exact h.elim
 case box e x=>exact Hp h λr hr=>(AN rfl).trans (by simp[Cl,hr])
 case build t parts=>
  unfold EQ at h⊢;simp only at h⊢;split at h
  ·rename_i zc pl hz
   (try simp only[hz])
   split at h
   ·rename_i l hl
    (try simp only[hl])
    refine Bj h λr hr=>(AN rfl).trans ?_
    unfold EW at hr;simp[Cl,Yf hz,L1 _ _ zc hl,hr]
   ·exact h.elim
  ·exact h.elim
 case buildSlice t len parts=>
  unfold EQ at h⊢;simp only at h⊢;split at h
  ·rename_i sz by' zc hz
   (try simp only[hz])
   obtain⟨e,i,z,h1,h2,h3,rfl,rfl,rfl,h4,h5,h6,h7⟩:=K5 hz;split at h
   ·rename_i hle
    (try simp only[hle])
    have hle:=Nat.le_of_ble_eq_true hle;split at h
    ·rename_i l hl
     (try simp only[hl])
     cases dr with
     | true=>
      simp only at h⊢;refine Bj h λr hr=>?_
      unfold PJ at hr;obtain⟨cs,hcs,rfl⟩:=Option.map_eq_some_iff.1 hr;simp only[To,V1,Bool.and_self,if_true,Et,D3,h1,h2,h3];rw[if_pos ⟨hle,h6,h4,h7⟩,L1 _ _ _ hl,hcs];rfl
     | false=>
      simp only at h⊢;refine Hp h λr hr=>?_
      unfold Dh at hr;obtain⟨cs,hcs,rfl⟩:=Option.map_eq_some_iff.1 hr;simp only[To,sC,Cl,D3,h1,h2,h3];rw[if_pos ⟨hle,h6,h4,h7⟩,L1 _ _ _ hl,hcs];rfl
    ·exact h.elim
   ·exact h.elim
  ·exact h.elim
 case load t a=>
  unfold EQ at h⊢;simp only at h⊢;split at h
  ·rename_i g n hg hn
   (try simp only[hg,hn])
   exact Bj h λr hr=>(AN rfl).trans (by simp[Cl,Wo hg hn,hr])
  ·exact h.elim
 case store t a x=>
  unfold EQ at h⊢;simp only at h⊢;split at h
  ·rename_i n hn
   (try simp only[hn])
   exact Uh h λr hr=>(AN rfl).trans (by simp[Cl,jA hn,hr])
  ·exact h.elim
 case nilCheck x=>exact Bj h λr hr=>(AN rfl).trans (by simp[Cl,hr])
 case binOp op t x y yt=>
  unfold EQ at h⊢;simp only at h⊢;split at h
  ·rename_i hu;(try simp only[hu])
   exact Bj h λr hr=>(AN rfl).trans (by simp[Cl,iT hr])
  ·rename_i hu;(try simp only[hu])
   exact Bj h λr hr=>(AN rfl).trans (by simp[Cl,iU hr])
  ·rename_i hu;(try simp only[hu])
   exact Bj h λr hr=>(AN rfl).trans (by simp[Cl,iS hu hr])
  ·rename_i hu;(try simp only[hu])
   exact Bj h λr hr=>(AN rfl).trans (by simp[Cl,TG (by rintro v hv (⟨k,n,rfl⟩ | ⟨s,rfl⟩)<;>rw[hv]<;>rfl) (cV hu) hr])
  ·rename_i hu;(try simp only[hu])
   exact Bj h λr hr=>(AN rfl).trans (by simp[Cl,TG (by rintro v hv (⟨k,n,rfl⟩ | ⟨s,rfl⟩)<;>rw[hv]<;>rfl) (iY hu) hr])
  ·rename_i hu;(try simp only[hu])
   exact Bj h λr hr=>(AN rfl).trans (by simp[Cl,TG (by rintro v hv (⟨k,n,rfl⟩ | ⟨s,rfl⟩)<;>rw[hv]<;>rfl) (iW hu) hr])
  ·rename_i hu;(try simp only[hu])
   exact Bj h λr hr=>(AN rfl).trans (by simp[Cl,TG (by rintro v hv (⟨k,n,rfl⟩ | ⟨s,rfl⟩)<;>rw[hv]<;>rfl) (iX hu) hr])
  ·obtain⟨r,H',h1,h2,h3⟩:=Bj (P:=P) (ql:=ql) (dr:=dr) (ρ:=ρ) (o:=⟨dst,.binOp op t x y yt,type,pos,after,guard⟩) h λr hr=>(AN rfl).trans (by simp[Cl,hr])
   refine⟨r,H',h1,h2,λK2 hk=>?_⟩;exact h3 K2 hk
 case unOp op t x=>exact Bj h λr hr=>(AN rfl).trans (by simp[Cl,hr])
 case convert s d x=>
  unfold EQ at h⊢;simp only at h⊢;split at h
  ·rename_i k hc
   obtain⟨h1,y,h2⟩:=I2 hc
   (try simp only[hc])
   refine Bj h λr hr=>(AN rfl).trans ?_
   unfold YQ at hr;split at hr
   ·rename_i hx
    injection hr with hr;subst hr;simp[Cl,Ef,h1,h2,hx]
   ·cases hr
  ·rename_i hc
   obtain⟨h1,h2⟩:=I2 hc
   (try simp only[hc])
   refine Bj h λr hr=>(AN rfl).trans ?_
   unfold acS at hr;split at hr
   ·rename_i hx
    injection hr with hr;subst hr;simp[Cl,Ef,h1,h2,hx]
   ·cases hr
  ·rename_i hc
   obtain⟨h1,e,h2,h3⟩:=I2 hc
   (try simp only[hc])
   refine Bj h λr hr=>(AN rfl).trans ?_
   unfold pT at hr;split at hr
   ·cases hr
   ·rename_i hx
    have:Ef P H s d (ρ x)=some r:=by
     unfold Ef;simp only[h1,h2];split at hr
     ·rename_i cs n hs
      simp only[h3,hs];exact hr
     ·cases hr
    simp[Cl,this]
  ·rename_i hc
   obtain⟨h1,e,h2,h3⟩:=I2 hc
   (try simp only[hc])
   refine Bj h λr hr=>(AN rfl).trans ?_
   unfold acT at hr;split at hr
   ·rename_i t hx
    injection hr with hr;subst hr;simp[Cl,Ef,h1,h2,h3,hx,Qw]
   ·cases hr
  ·rename_i hc
   obtain⟨rfl,e,h2,h3⟩:=I2 hc
   (try simp only[hc])
   refine Hp h λr hr=>(AN rfl).trans ?_
   have hb:Nat.beq s s=true:=Nat.beq_refl s;simp[Cl,Ef,Qw,UW,hb,h2,h3,hr]
  ·exact h.elim
 case makeFunc fn f c=>exact Bj h λr hr=>by injection hr with hr;subst hr;exact(AN rfl).trans rfl
 case makeSlice t l c=>
  unfold EQ at h⊢;simp only at h⊢;split at h
  ·rename_i sz by' zc hz
   (try simp only[hz])
   obtain⟨e,i,z,h1,h2,h3,rfl,rfl,rfl,h4,h5,h6,h7⟩:=K5 hz;refine Hp h λr hr=>(AN rfl).trans ?_
   unfold pU at hr;split at hr
   ·rename_i k n k' m hn hm
    split at hr
    ·rename_i hb
     injection hr with hr;subst hr;simp only[Cl,Xg,h1,hn,hm,h2,h3];rw[if_pos ⟨hb.1,hb.2.1,hb.2.2.1,hb.2.2.2,h6,h4,h7⟩]
    ·cases hr
   ·cases hr
  ·exact h.elim
 case slice t x lo hi mx=>
  unfold EQ at h⊢;simp only at h⊢;split at h
  ·rename_i hl
   have h1:=FO hl
   (try simp only[hl])
   refine Bj h λr hr=>(AN rfl).trans ?_
   unfold O0 at hr;split at hr
   ·rename_i s hs
    simp only[Cl,Jm,h1,hs,wN];exact congrArg (Option.map λv=>(v,H)) hr
   ·cases hr
  ·rename_i sz hl
   obtain⟨e,h1,h2⟩:=FO hl
   (try simp only[hl])
   refine Bj h λr hr=>(AN rfl).trans ?_
   unfold AT at hr;simp only[Cl,Jm,h1,h2];split at hr
   ·rename_i hx;rw[hx];exact congrArg (Option.map λv=>(v,H)) hr
   ·rename_i hx;rw[hx];exact congrArg (Option.map λv=>(v,H)) hr
   ·rename_i hx;rw[hx];exact congrArg (Option.map λv=>(v,H)) hr
   ·rename_i hx;rw[hx];exact congrArg (Option.map λv=>(v,H)) hr
   ·cases hr
  ·rename_i n sz hl
   obtain⟨e,h1,h2⟩:=FO hl
   (try simp only[hl])
   refine Bj h λr hr=>(AN rfl).trans ?_
   unfold Nj at hr;simp only[Cl,Jm,h1,h2,wN];exact congrArg (Option.map λv=>(v,H)) hr
  ·exact h.elim
 case fieldAddr s x f=>
  unfold EQ at h⊢;simp only at h⊢;split at h
  ·rename_i k hk
   (try simp only[hk])
   exact Bj h λr hr=>(AN rfl).trans (by simp[Cl,Jk,hk,hr])
  ·exact h.elim
 case field s x f=>
  unfold EQ at h⊢;simp only at h⊢;split at h
  ·rename_i g n off hk
   (try simp only[hk])
   exact Bj h λr hr=>(AN rfl).trans (by simp[Cl,Yr hk,hr])
  ·exact h.elim
 case indexAddr t x i=>
  unfold EQ at h⊢;simp only at h⊢;split at h
  ·rename_i sz hl
   obtain⟨e,h1,h2⟩:=SZ hl
   (try simp only[hl])
   refine Bj h λr hr=>(AN rfl).trans ?_
   unfold Bv at hr;simp only[Cl,GW,h1,h2];exact congrArg (Option.map λv=>(v,H)) hr
  ·rename_i len sz hl
   obtain⟨e,h1,h2⟩:=SZ hl
   (try simp only[hl])
   refine Bj h λr hr=>(AN rfl).trans ?_
   unfold Zj at hr;simp only[Cl,GW,h1,h2];exact congrArg (Option.map λv=>(v,H)) hr
  ·exact h.elim
 case index t x i=>
  unfold EQ at h⊢;simp only at h⊢;split at h
  ·rename_i hl
   have h1:=aB hl
   (try simp only[hl])
   refine Bj h λr hr=>(AN rfl).trans ?_
   unfold PL at hr;simp only[Cl,Q0,h1];exact congrArg (Option.map λv=>(v,H)) hr
  ·rename_i g n len sz hl
   obtain⟨e,h1,h2,h3,rfl⟩:=aB hl
   (try simp only[hl])
   refine Bj h λr hr=>(AN rfl).trans ?_
   unfold Zi UR at hr;simp only[Cl,Q0,h1,h2,h3,apart];cases hi:JT (ρ i)with
   | none=>rw[hi]at hr;cases hr
   | some m=>
    rw[hi]at hr;simp only at hr⊢;split at hr
    ·rename_i hb
     rw[if_pos hb];cases hx:ρ x<;>rw[hx]at hr<;>first
      | (simp only at hr⊢;exact congrArg (Option.map λv=>(v,H)) hr)
      | cases hr
    ·cases hr
  ·exact h.elim
 case extract t i=>exact Bj h λr hr=>(AN rfl).trans (by simp[Cl,hr])
 case makeMap t l=>
  unfold EQ at h⊢;simp only at h⊢;split at h
  ·rename_i q hl
   obtain⟨d,z⟩:=q;obtain⟨key,elem,h1,h2,h3⟩:=NL hl
   (try simp only[hl])
   refine Hp h λr hr=>(AN rfl).trans ?_
   unfold iZ at hr;simp only[Cl,MV,h1];split at hr
   ·rename_i he;rw[he];exact hr
   ·rename_i he;rw[he];exact hr
   ·cases hr
  ·exact h.elim
 case lookup t x k co=>
  unfold EQ at h⊢;simp only at h⊢;split at h
  ·rename_i d z hl
   obtain⟨key,elem,h1,h2,h3⟩:=NL hl
   (try simp only[hl])
   refine Bj h λr hr=>(AN rfl).trans ?_
   unfold cH at hr;simp only[Cl,MU,h1];split at hr
   ·rename_i es kv he hk
    simp only[he,hk,h2,h3];exact congrArg (Option.map λv=>(v,H)) hr
   ·cases hr
  ·exact h.elim
 case mapUpdate t m k x=>
  unfold EQ at h⊢;simp only at h⊢;split at h
  ·rename_i d z hl
   obtain⟨key,elem,h1,h2,h3⟩:=NL hl
   (try simp only[hl])
   refine Uh h λr hr=>(AN rfl).trans ?_
   unfold mG at hr;simp only[Cl,GX,h1];split at hr
   ·rename_i o kv he hk
    simp only[he,hk,h2];split at hr
    ·rename_i es hes
     simp only[hes];exact congrArg (Option.map λv=>(A0,v)) hr
    ·cases hr
   ·cases hr
  ·exact h.elim
 case mapEntry t m k=>
  unfold EQ at h⊢;simp only at h⊢;split at h
  ·rename_i d z hl
   obtain⟨key,elem,h1,h2,h3⟩:=NL hl
   (try simp only[hl])
   refine Hp h λr hr=>(AN rfl).trans ?_
   unfold ame at hr;simp only[Cl,Ln,h1];split at hr
   ·rename_i o kv he hk
    simp only[he,hk,h2];split at hr
    ·rename_i es hes
     simp only[hes,h3];exact hr
    ·cases hr
   ·cases hr
  ·exact h.elim
 case entryStore t m s x=>exact Uh h λr hr=>(AN rfl).trans (by simp[Cl,hr])
 case call c=>
  obtain⟨callee,args,ats⟩:=c;cases callee with
  | builtin b=>exact U0 h
  | invoke r m=>exact h.elim
  | value f=>
   have hn:To P dr ρ H ⟨dst,.call {callee:=.value f,args,argTypes:=ats},type,pos,after,guard⟩=none:=(AN rfl).trans rfl;have hal:Bt Ak (.call {callee:=.value f,args,argTypes:=ats})=false:=P8 _;cases w with
   | false=>
    have key:∀K2:AV→AH→Prop,EQ P ql Ak dr ρ H ⟨dst,.call {callee:=.value f,args,argTypes:=ats},type,pos,after,guard⟩ false K2=K2 A0 H:=by
     intro K2;unfold EQ bF;simp only[hal,Bool.not_false,Bool.or_true];unfold bT;simp only[];cases Bt ql (Op.call {callee:=.value f,args,argTypes:=ats})<;>cases dr<;>simp only[gC,gP]<;>split<;>rfl
    rw[key]at h;exact⟨A0,H,h,.inr ⟨rfl,rfl,rfl⟩,λK2 h2=>by rw[key];exact h2⟩
   | true=>
   unfold EQ bF at h⊢;simp only[hal,wA,Bool.or_false]at h⊢;split at h
   ·rename_i k first cap hf
    (try simp only[hf])
    unfold bT at h⊢;split at h
    ·rename_i hg
     (try simp only[hg])
     split at h
     ·rename_i hp
      (try simp only[hp])
      cases dr with
      | true=>
       obtain⟨r,hr,hk⟩:=h;refine⟨r,H,hk,.inl ⟨rfl,.inr ⟨hn,?_⟩⟩,λK2 hk=>⟨r,hr,hk⟩⟩;unfold Lj D4;simp only[hf];refine⟨hg,?_⟩;rw[if_pos (by simp[hp])];exact⟨hr,trivial⟩
      | false=>
       obtain⟨r,hr,hk⟩:=h;refine⟨r,H,hk,.inl ⟨rfl,.inr ⟨hn,?_⟩⟩,λK2 hk=>⟨r,hr,hk⟩⟩;unfold Lj D4;simp only[hf];refine⟨hg,?_⟩;rw[if_neg (by simp)];exact hr.call
     ·rename_i hp
      (try simp only[hp])
      obtain⟨r,H',hr,hk⟩:=h;refine⟨r,H',hk,.inl ⟨rfl,.inr ⟨hn,?_⟩⟩,λK2 hk=>⟨r,H',hr,hk⟩⟩;unfold Lj D4;simp only[hf];refine⟨hg,?_⟩;rw[if_neg (by simp only[hp,Bool.and_false];simp)];exact hr
    ·exact h.elim
   ·exact h.elim
 all_goals exact h.elim
theorem WS {al:FuncId→Bool}{o:Oper}(ha:Bt al o.op=false):EQ P ql al dr ρ H o w K=EQ P ql Ak dr ρ H o w K:=by
 obtain⟨dst,op,type,pos,after,guard⟩:=o;simp only at ha;cases op
 case call c=>
  obtain⟨callee,args,ats⟩:=c;cases callee with
  | value f=>
   have hal:Bt Ak (.call {callee:=.value f,args,argTypes:=ats})=false:=P8 _;unfold EQ;simp only[ha,hal]
  | builtin b=>rfl
  | invoke r m=>rfl
 all_goals rfl
theorem bR {al:FuncId→Bool}{o:Oper}(h:EQ P ql al true ρ H o w K):EQ P ql Ak true ρ H o w K:=by
 cases ha:Bt al o.op with
 | false=>rwa[WS ha]at h
 | true=>
  obtain⟨dst,op,type,pos,after,guard⟩:=o;simp only at ha;unfold Bt at ha;split at ha
  ·rename_i k args ats
   exfalso
   have ha':Bt al (.call {callee:=.value (.func k),args:=args,argTypes:=ats})=true:=ha;unfold EQ bF at h;simp only[ha']at h;split at h
   ·exact h
   ·split at h<;>exact h
  ·cases ha
theorem fT {al:FuncId→Bool}{ops:Array Oper}{Q:AQ}{T:List AV}{o:Oper}{l:List Oper}(hw:BC ops T o=some w)(h:EQ P ql al false (AF T) H o w K)(hk:∀r H',K r H'→AOps P ops Q l (CO T o.dst r) H'):AOps P ops Q (o::l) T H:=by
 cases ha:Bt al o.op with
 | false=>
  rw[WS ha]at h;obtain⟨r,H',hk1,hs,-⟩:=Jw h;have hr:=hk r H' hk1;rcases hs with⟨rfl,ho | ⟨ho,hc⟩⟩ | ⟨rfl,rfl,rfl⟩
  ·exact AOps.op hw (by simpa[To]using ho) hr
  ·unfold Lj at hc
   split at hc
   ·rename_i k args hcall
    simp only[sC]at hc;refine AOps.call hw hcall hc.1 (hc.2.mono ?_);rintro r' H'' ⟨rfl,rfl⟩;exact hr
   ·exact hc.elim
  ·exact AOps.unwanted hw hr
 | true=>
  obtain⟨dst,op,type,pos,after,guard⟩:=o;simp only at ha;unfold Bt at ha;split at ha
  ·rename_i k args ats
   have ha':Bt al (.call {callee:=.value (.func k),args:=args,argTypes:=ats})=true:=ha;unfold EQ bF at h;simp only[ha']at h;split at h
   ·rename_i k' first cap hf
    simp only[AF]at hf;injection hf with h1 h2 h3;injection h1 with h1;subst h1;subst h2;subst h3;split at h
    ·rename_i hg
     cases w with
     | true=>
      obtain⟨R,hR,hall⟩:=h;exact AOps.call (args:=[]++args.toList.map (AF T)++[]) hw rfl hg (hR.mono λr H' hr=>hk r H' (hall r H' hr))
     | false=>exact AOps.unwanted hw (hk _ _ h)
    ·cases w with
     | true=>
      obtain⟨r,hr,h⟩:=h;exact AOps.extern (args:=[]++args.toList.map (AF T)++[]) hw rfl (λG vs hH hv=>hr G vs hH hv) (hk _ _ h)
     | false=>exact AOps.unwanted hw (hk _ _ h)
   ·rename_i hne
    exact(hne k [] [] rfl).elim
  ·cases ha
end
end
end Go.Proofs.YtbppnhenlboefaaGreat.Av
