/- Texts of this proof, one behind the other, packed into one file by a program of this session. No condition. -/
import Derived.Test.YtlhiaihmkjlaaaaGreatMrA
import Derived.LoopN
import Derived.LoopNIn
import Derived.OrdersIn
set_option linter.unusedVariables false
set_option linter.unusedSimpArgs false
section
namespace Go.Proofs.YtlhiaihmkjlaaaaGreat.Av
open Go Go.RowKit
section
variable {P : Program}
theorem zudZ {ρ ρ' : Operand→AV} (l : List Operand) (h : ∀ x ∈ l,ρ x=ρ' x) : l.map ρ=l.map ρ':=List.map_congr_left h
theorem aop_congr {ρ ρ' : Operand→AV} {H : AH} {o : Oper} (h : ∀ x ∈ o.op.operands.toList,ρ x=ρ' x) : aop P ρ H o=aop P ρ' H o:=by
 obtain ⟨dst,op,type,pos,after,guard⟩:=o;have pairs : ∀ ps : Array (Nat × Operand),(∀ x ∈ ps.toList.map (·.2),ρ x=ρ' x)→(ps.toList.map λp=>(p.1,ρ p.2))=(ps.toList.map λp=>(p.1,ρ' p.2)):=λps hp=>
  List.map_congr_left λp hm=>by rw [hp p.2 (List.mem_map.2 ⟨p,hm,rfl⟩)]
 cases op
 case move x => simp only [aop]; rw [h x (by simp [Op.operands])]
 case assign x => simp only [aop]; rw [h x (by simp [Op.operands])]
 case pick c a b => simp only [aop]; rw [h c (by simp [Op.operands]),h a (by simp [Op.operands]),h b (by simp [Op.operands])]
 case box e x => simp only [aop]; rw [h x (by simp [Op.operands])]
 case build t ps => simp only [aop]; rw [pairs ps (λx hx=>h x (by simpa [Op.operands] using hx))]
 case buildSlice t n ps => simp only [aop]; rw [pairs ps (λx hx=>h x (by simpa [Op.operands] using hx))]
 case load t a => simp only [aop]; rw [h a (by simp [Op.operands])]
 case store t a x => simp only [aop]; rw [h a (by simp [Op.operands]),h x (by simp [Op.operands])]
 case nilCheck x => simp only [aop]; rw [h x (by simp [Op.operands])]
 case binOp op t x y u => simp only [aop]; rw [h x (by simp [Op.operands]),h y (by simp [Op.operands])]
 case unOp op t x => simp only [aop]; rw [h x (by simp [Op.operands])]
 case convert s d x => simp only [aop]; rw [h x (by simp [Op.operands])]
 case makeFunc fn f c =>
  simp only [aop];rw [zudZ f.toList (λx hx=>h x (by simp [Op.operands]; exact .inl (Array.mem_toList_iff.1 hx))),zudZ c.toList (λx hx=>h x (by simp [Op.operands]; exact .inr (Array.mem_toList_iff.1 hx)))]
 case makeSlice t l c => simp only [aop]; rw [h l (by simp [Op.operands]),h c (by simp [Op.operands])]
 case slice t x lo hi mx =>
  simp only [aop]
  have e : ∀ q : Option Operand,(∀ y,q=some y→ρ y=ρ' y)→q.map ρ=q.map ρ':=by
   intro q hq;cases q with
   | none => rfl
   | some y => simp [hq y rfl]
  rw [h x (by simp [Op.operands]),e lo (λy hy=>h y (by simp [Op.operands,hy])),e hi (λy hy=>h y (by simp [Op.operands,hy])),e mx (λy hy=>h y (by simp [Op.operands,hy]))]
 case fieldAddr s x f => simp only [aop]; rw [h x (by simp [Op.operands])]
 case field s x f => simp only [aop]; rw [h x (by simp [Op.operands])]
 case indexAddr t x i => simp only [aop]; rw [h x (by simp [Op.operands]),h i (by simp [Op.operands])]
 case index t x i => simp only [aop]; rw [h x (by simp [Op.operands]),h i (by simp [Op.operands])]
 case extract t i => simp only [aop]; rw [h t (by simp [Op.operands])]
 case makeMap t l =>
  simp only [aop]
  have e : l.map ρ=l.map ρ':=by
   cases l with
   | none => rfl
   | some y => simp [h y (by simp [Op.operands])]
  rw [e]
 case lookup t x k co => simp only [aop]; rw [h x (by simp [Op.operands]),h k (by simp [Op.operands])]
 case mapUpdate t m k x => simp only [aop]; rw [h m (by simp [Op.operands]),h k (by simp [Op.operands]),h x (by simp [Op.operands])]
 case mapEntry t m k => simp only [aop]; rw [h m (by simp [Op.operands]),h k (by simp [Op.operands])]
 case entryStore t m s x => simp only [aop]; rw [h m (by simp [Op.operands]),h s (by simp [Op.operands]),h x (by simp [Op.operands])]
 case call c =>
  obtain ⟨callee,args,ats⟩:=c;cases callee
  case builtin b =>
   simp only [aop];rw [zudZ args.toList (λx hx=>h x (by simp [Op.operands,Call.operands]; exact Array.mem_toList_iff.1 hx))]
  all_goals rfl
 all_goals rfl
def zbfrZ : Op→Bool
 | .move _ | .assign _ | .pick .. | .build .. | .load .. | .nilCheck _ | .binOp .. | .unOp .. | .makeFunc .. | .slice .. | .fieldAddr .. | .field .. | .indexAddr .. | .index .. | .extract .. | .lookup .. => true
 | .call { callee:=.builtin b,.. } => match b with
  | .len | .min | .max | .cap => true
  | _ => false
 | .convert s d _ => !Nat.beq s d
 | _ => false
theorem zbfjZ {ρ : Operand→AV} {H H' : AH} {o : Oper} {r : AV} (hs : zbfrZ o.op=true) (h : aop P ρ H o=some (r,H')) : H'=H:=by
 obtain ⟨dst,op,type,pos,after,guard⟩:=o;cases op <;> first
  | (simp [zbfrZ] at hs; done)
  | exact (zbgiZ h).2
  | exact (zltZ h).2
  | skip
 case pick c a b =>
  unfold aop at h;simp only at h;split at h
  ·exact (zbgiZ h).2
  ·cases h
 case convert s d x =>
  unfold aop at h;simp only at h;split at h
  ·exact (zbgiZ h).2
  ·split at h
   ·exact (zbgiZ h).2
   ·simp only [zbfrZ,Bool.not_eq_true'] at hs
    unfold asame at h;rw [hs] at h;cases h
 case call c =>
  obtain ⟨callee,args,ats⟩:=c;cases callee
  case builtin b =>
   have h' : zfmZ P H b ats.toList (args.toList.map ρ)=some (r,H'):=h;unfold zfmZ at h';split at h' <;> first
    | exact (zltZ h').2
    | (simp [zbfrZ] at hs; done)
    | cases h'
  all_goals simp [zbfrZ] at hs
def maskOf (o : Oper) (acc : List Nat) : Nat:=o.after.toList.foldl (λs e=>if Region.binds .any e then s ||| 2 ^ e.on ||| acc.getD e.on 0 else s) 0
def masks : List Oper→List Nat→List Nat
 | [],acc => acc
 | o :: r,acc => masks r (acc ++ [maskOf o acc])
theorem masks_old (l : List Oper) : ∀ acc i,i < acc.length→(masks l acc).getD i 0=acc.getD i 0:=by
 induction l with
 | nil => intro acc i _; rfl
 | cons o l ih =>
  intro acc i hi;simp only [masks];rw [ih _ _ (by simp; omega)];simp [List.getD_eq_getElem?_getD,List.getElem?_append_left hi]
theorem masks_get (l : List Oper) : ∀ acc j o,l[j]? = some o→∃ acc',(∀ i,i < acc.length + j→acc'.getD i 0=(masks l acc).getD i 0)∧(masks l acc).getD (acc.length + j) 0=maskOf o acc':=by
 induction l with
 | nil => intro acc j o h; simp at h
 | cons p l ih =>
  intro acc j o h;cases j with
  | zero =>
   simp at h;subst h;refine ⟨acc,λi hi=>?_, ?_⟩
   ·exact (masks_old (p :: l) acc i (by omega)).symm
   ·simp only [masks]
    rw [masks_old _ _ _ (by simp)];simp [List.getD_eq_getElem?_getD]
  | succ j =>
   simp only [gCS] at h;obtain ⟨acc',h1,h2⟩:=ih (acc ++ [maskOf p acc]) j o h;simp only [List.length_append,List.length_cons,List.length_nil,Nat.zero_add] at h1 h2;refine ⟨acc',λi hi=>h1 i (by omega), ?_⟩;simp only [masks];rw [← h2]
   congr 1
   omega
theorem testBit_fold (acc : List Nat) (j : Nat) : ∀ (l : List Edge) (s : Nat),(l.foldl (λs e=>if Region.binds .any e then s ||| 2 ^ e.on ||| acc.getD e.on 0 else s) s).testBit j=true →
  s.testBit j=true∨∃ e ∈ l,Region.binds .any e=true∧(e.on=j∨(acc.getD e.on 0).testBit j=true):=by
 intro l
 induction l with
 | nil => intro s h; exact .inl h
 | cons e l ih =>
  intro s h;simp only [List.foldl_cons] at h;rcases ih _ h with h | ⟨e',he',hb,hh⟩
  ·split at h
   ·rename_i hb
    simp only [Nat.testBit_or,Bool.or_eq_true,Nat.testBit_two_pow,decide_eq_true_eq] at h;rcases h with (h | h) | h
    ·exact .inl h
    ·exact .inr ⟨e,by simp,hb,.inl h⟩
    ·exact .inr ⟨e,by simp,hb,.inr h⟩
   ·exact .inl h
  ·exact .inr ⟨e',by simp [he'],hb,hh⟩
def ClosedL (ops : List Oper) (lst : Nat→Bool) : Prop:=∀ (i : Nat) (o : Oper),ops[i]? = some o→lst i=true→∀ e ∈ o.after,Region.binds .any e=true→lst e.on=true
def zbfqZ (ops : List Oper) : Bool:=ops.zipIdx.all λp=>p.1.after.toList.all λe=>!Region.binds .any e || decide (e.on < p.2)
theorem edgesDown_ok {ops : List Oper} (h : zbfqZ ops=true) {i : Nat} {o : Oper} (ho : ops[i]? = some o) {e : Edge} (he : e ∈ o.after) (hb : Region.binds .any e=true) : e.on < i:=by
 unfold zbfqZ at h;rw [List.all_eq_true] at h
 have hm : (o,i) ∈ ops.zipIdx:=by
  rw [List.mem_iff_getElem?];exact ⟨i,by rw [List.getElem?_zipIdx,ho]; simp⟩
 have:=h _ hm
 rw [List.all_eq_true] at this
 have:=this e (Array.mem_toList_iff.2 he)
 simpa [hb] using this
theorem zbeeZ {ops : List Oper} (hd : zbfqZ ops=true) {lst : Nat→Bool} (hc : ClosedL ops lst) : ∀ (i : Nat) (o : Oper),ops[i]? = some o→(∀ e ∈ o.after,Region.binds .any e=true→lst e.on=true) →
  ∀ j,((masks ops []).getD i 0).testBit j=true→lst j=true:=by
 intro i
 induction i using Nat.strongRecOn with
 | _ i ih =>
  intro o ho hall j hj;obtain ⟨acc',h1,h2⟩:=masks_get ops [] i o ho;simp only [List.length_nil,Nat.zero_add] at h1 h2;rw [h2] at hj;unfold maskOf at hj;rcases testBit_fold acc' j _ 0 hj with h0 | ⟨e,he,hb,hh⟩
  ·simp at h0
  ·have he':=Array.mem_toList_iff.1 he
   have hl:=hall e he' hb;have hlt:=edgesDown_ok hd ho he' hb;rcases hh with rfl | hh
   ·exact hl
   ·rw [h1 _ hlt] at hh
    have hex : ∃ o',ops[e.on]? = some o':=by
     have : i < ops.length:=(gSI.1 ho).1;exact ⟨_,gEG (by omega)⟩
    obtain ⟨o',ho'⟩:=hex;exact ih _ hlt o' ho' (λe' he' hb'=>hc _ _ ho' hl e' he' hb') j hh
def looks (ops : List Oper) (o : Oper) : List Tmp :=
 o.dst.toList ++ (o.op.operands.toList.filterMap fun | .tmp t => some t | _ => none) ++ (match o.guard with
  | some (g,_) => ((ops[g]?).bind (·.dst)).toList
  | none => [])
theorem zip_mem {ops : List Oper} {i : Nat} {o : Oper} (ho : ops[i]? = some o) : (o,i) ∈ ops.zipIdx:=by
 rw [List.mem_iff_getElem?];exact ⟨i,by rw [List.getElem?_zipIdx,ho]; simp⟩
def dstOf (ops : List Oper) (j : Nat) : Option Tmp:=(ops[j]?).bind (·.dst)
def pt (ops : List Oper) (vals : Nat→AV) (lst : Nat→Bool) (T : List AV) : Nat→List AV
 | 0 => T
 | n + 1 => if lst n then aput (pt ops vals lst T n) (dstOf ops n) (vals n) else pt ops vals lst T n
theorem aput_length (T : List AV) (d : Option Tmp) (v : AV) : (aput T d v).length=T.length:=by cases d <;> simp [aput]
theorem pt_length {ops : List Oper} {vals : Nat→AV} {lst : Nat→Bool} {T : List AV} : ∀ n,(pt ops vals lst T n).length=T.length
 | 0 => rfl
 | n + 1 => by simp only [pt]; split <;> simp [aput_length,pt_length n]
theorem aput_get_ne {T : List AV} {d : Option Tmp} {v : AV} {t : Nat} (h : d ≠ some t) : (aput T d v)[t]? = T[t]?:=by
 cases d with
 | none => rfl
 | some d => simp only [aput]; rw [gSN (λe=>h (by rw [e]))]
theorem pt_get {ops : List Oper} {vals : Nat→AV} {lst lst' : Nat→Bool} {T : List AV} {t : Nat} : ∀ n,(∀ j,j < n→dstOf ops j=some t→lst j=lst' j)→(pt ops vals lst T n)[t]? = (pt ops vals lst' T n)[t]?
 | 0,_ => rfl
 | n + 1,h => by
  have ih:=pt_get (vals:=vals) (T:=T) n (λj hj hd=>h j (by omega) hd)
  by_cases hd : dstOf ops n=some t
  ·have he:=h n (by omega) hd
   simp only [pt,he]
   split
   ·rw [hd]
    simp only [aput,List.getElem?_set];simp [pt_length]
   ·exact ih
  ·have side : ∀ l : Nat→Bool,(pt ops vals l T (n + 1))[t]? = (pt ops vals l T n)[t]?:=λl=>by
    simp only [pt]
    split
    ·exact aput_get_ne hd
    ·rfl
   rw [side,side];exact ih
theorem pt_congr {ops : List Oper} {vals : Nat→AV} {lst lst' : Nat→Bool} {T : List AV} : ∀ n,(∀ j,j < n→lst j=lst' j)→pt ops vals lst T n=pt ops vals lst' T n
 | 0,_ => rfl
 | n + 1,h => by simp only [pt]; rw [pt_congr n (λj hj=>h j (by omega))]; simp only [h n (by omega)]
theorem aput_comm {T : List AV} {d e : Option Tmp} {v u : AV} (h : ∀ x,d=some x→e ≠ some x) : aput (aput T d v) e u=aput (aput T e u) d v:=by
 cases d with
 | none => rfl
 | some d => cases e with
  | none => rfl
  | some e => simp only [aput]; exact List.set_comm _ _ (λhe=>h d rfl (by rw [he]))
theorem pt_prefix {ops : List Oper} {vals : Nat→AV} {T : List AV} {i : Nat} : ∀ n,i≤n→pt ops vals (λj=>decide (j < i)) T n=pt ops vals (λ_=>true) T i:=by
  have low : ∀ m,m≤i→pt ops vals (λj=>decide (j < i)) T m=pt ops vals (λ_=>true) T m:=by
    intro m
    induction m with
    | zero => intro _; rfl
    | succ m ih => intro hm; simp only [pt]; rw [ih (by omega)]; simp [show m < i by omega]
  intro n hn
  induction n with
  | zero => have : i = 0 := by omega
            subst this; rfl
  | succ n ih =>
    rcases Nat.lt_or_ge n i with h | h
    · have : i=n + 1:=by omega
      subst this; exact low _ (Nat.le_refl _)
    · simp only [pt];rw [if_neg (by simp; omega)];exact ih h
def upd (lst : Nat→Bool) (i : Nat) : Nat→Bool:=λj=>if j=i then true else lst j
theorem pt_add {ops : List Oper} {vals : Nat→AV} {lst : Nat→Bool} {T : List AV} {i : Nat} (hl : lst i=false) : ∀ n,(∀ j,i < j→j < n→lst j=true→∀ x,dstOf ops i=some x→dstOf ops j ≠ some x) →
  pt ops vals (upd lst i) T n=if i < n then aput (pt ops vals lst T n) (dstOf ops i) (vals i) else pt ops vals lst T n
 | 0,_ => by simp [pt]
 | n + 1,h => by
  have ih:=pt_add (vals:=vals) (T:=T) hl n (λj h1 h2=>h j h1 (by omega));rcases Nat.lt_trichotomy n i with hlt | he | hgt
  ·rw [if_neg (by omega)] at ih
   rw [if_neg (by omega)];simp only [pt,ih,upd];rw [if_neg (show ¬ n=i by omega)]
  ·subst he
   rw [if_neg (by omega)] at ih;rw [if_pos (by omega)];simp only [pt,ih,upd,if_true,hl,Bool.false_eq_true,if_false]
  ·rw [if_pos hgt] at ih
   rw [if_pos (by omega)];simp only [pt,ih,upd];rw [if_neg (show ¬ n=i by omega)]
   split
   ·rename_i hn
    exact aput_comm (h n hgt (by omega) hn)
   ·rfl
theorem awanted_congr {ops : List Oper} {T T' : List AV} {o : Oper} (h : ∀ t ∈ looks ops o,T[t]? = T'[t]?) : zmbZ ops.toArray T o=zmbZ ops.toArray T' o:=by
 unfold zmbZ;cases hg : o.guard with
 | none => rfl
 | some gw =>
  obtain ⟨g,want⟩:=gw;simp only
  congr 1
  unfold ayield;cases hd : (ops.toArray[g]?).bind (·.dst) with
  | none => rfl
  | some d =>
   have hm : d ∈ looks ops o:=by
    unfold looks;rw [hg];simp only [List.mem_append]
    right
    have : (ops[g]?).bind (·.dst)=some d:=by simpa using hd
    simp [this]
   simp only [h d hm]
theorem aeval_congr {ops : List Oper} {T T' : List AV} {o : Oper} (h : ∀ t ∈ looks ops o,T[t]? = T'[t]?) : ∀ x ∈ o.op.operands.toList,aeval T x=aeval T' x:=by
 intro x hx;cases x with
 | tmp t =>
  simp only [aeval,List.getD_eq_getElem?_getD];rw [h t];unfold looks;simp only [List.mem_append];exact .inl (.inr (List.mem_filterMap.2 ⟨.tmp t,hx,rfl⟩))
 | _ => rfl
theorem ztzZ {L : Array Bool} {j : Nat} (h : j < L.size) : L.getD j true=L.getD j false:=by simp [Array.getD_eq_getD_getElem?,h]
end
end Go.Proofs.YtlhiaihmkjlaaaaGreat.Av
end
section
namespace Go.Proofs.YtlhiaihmkjlaaaaGreat.Av
open Go Go.RowKit
def mapO (f : AV→Option AV) : List AV→Option (List AV)
 | [] => some []
 | a :: r => match f a,mapO f r with
  | some x,some xs => some (x :: xs)
  | _,_ => none
def frz (X : AH) : Nat→AV→Option AV
 | 0,_ => none
 | n + 1,a => match a with
  | .lit v => some (.lit v)
  | .ptr o off => match X[o]? with
   | some (some (.cells cs)) => (mapO (frz X n) (cs.drop off)).map .ip
   | _ => none
  | .ip cs => (mapO (frz X n) cs).map .ip
  | .sl o off len esz _ => match X[o]? with
   | some (some (.cells cs)) => (mapO (frz X n) ((cs.drop off).take (len * esz))).map (.imm · len esz)
   | _ => none
  | .imm cs len esz => (mapO (frz X n) cs).map (.imm · len esz)
  | .mp _ => none
  | .agg cs => (mapO (frz X n) cs).map .agg
  | .tup cs => (mapO (frz X n) cs).map .tup
  | .fn f a b => match mapO (frz X n) a,mapO (frz X n) b with
   | some a,some b => some (.fn f a b)
   | _,_ => none
  | .emp => some .emp
  | .junk => some .junk
theorem zbghZ {G' G'' : Cfg} {f : AV→Option AV} (hf : ∀ a v r,VR G' a v→f a=some r→VR G'' r v) : ∀ {as rs : List AV} {vs : List Value},VRs G' as vs→mapO f as=some rs→VRs G'' rs vs
 | [],rs,vs,h,he => by
  simp only [mapO] at he;injection he with he;subst he
  simpa only [VRs] using h
 | a :: as,rs,vs,h,he => by
  simp only [mapO] at he;split at he
  ·rename_i x xs hx hxs
   injection he with he;subst he;simp only [VRs] at h ⊢;obtain ⟨v,r,e,h1,h2⟩:=h;exact ⟨v,r,e,hf _ _ _ h1 hx,zbghZ hf h2 hxs⟩
  ·cases he
theorem Has.move {G' G'' : Cfg} (hw : G''.w=G'.w) (hp : ∀ b,¬ (G'.L b∨G'.K b)→¬ (G''.L b∨G''.K b)) {ad : Addr} {vs : List Value} (h : Has G' ad vs) : Has G'' ad vs:=by
 rcases h with h | ⟨h1,h2⟩
 ·exact .inl h
 ·refine .inr ⟨hp _ h1, ?_⟩
  rw [hw]; exact h2
theorem Has.of_obj {G' G'' : Cfg} (hw : G''.w=G'.w) {X : AH} (hr : HR G' X) {o : Nat} {cs : List AV} (ho : X[o]? = some (some (.cells cs))) (hN : ¬ (G''.L (G'.μ o).1∨G''.K (G'.μ o).1)) (off : Nat) :
  ∃ vs,VRs G' (cs.drop off) vs∧Has G'' ⟨(G'.μ o).1,(G'.μ o).2.1 + off,none⟩ vs:=by
 obtain ⟨c,e,vs,h1,h2,h3,h4,h5⟩:=hr.obj o _ ho;refine ⟨vs.drop off,h4.drop off,.inr ⟨hN,λi v hv=>?_⟩⟩;rw [List.getElem?_drop] at hv;obtain ⟨a,b⟩:=h5 _ _ hv;refine ⟨?_,b⟩;rw [Addr.add_lit,hw];unfold World.cell?;rw [h1]
 simpa [Nat.add_assoc] using a
theorem frz_ok {G' G'' : Cfg} (hw : G''.w=G'.w) (hp : ∀ b,¬ (G'.L b∨G'.K b)→¬ (G''.L b∨G''.K b)) {X : AH} (hr : HR G' X) (hX : ∀ (o : Nat) (x : AObj),X[o]? = some (some x)→¬ (G''.L (G'.μ o).1∨G''.K (G'.μ o).1)) :
  ∀ (n : Nat) (a : AV) (v : Value) (r : AV),VR G' a v→frz X n a=some r→VR G'' r v
 | 0,a,v,r,h,he => by cases he
 | n + 1,a,v,r,h,he => by
  have ih:=frz_ok hw hp hr hX n;cases a with
  | lit u => simp only [frz] at he; injection he with he; subst he; simpa only [VR] using h
  | ptr o off =>
   simp only [frz] at he;split at he
   ·rename_i cs ho
    obtain ⟨rs,hrs,rfl⟩:=Option.map_eq_some_iff.1 he;simp only [VR] at h ⊢;obtain ⟨vs,h1,h2⟩:=Has.of_obj hw hr ho (hX _ _ ho) off;exact ⟨_,vs,h.2,h2,zbghZ ih h1 hrs⟩
   ·cases he
  | ip cs =>
   simp only [frz] at he;obtain ⟨rs,hrs,rfl⟩:=Option.map_eq_some_iff.1 he;simp only [VR] at h ⊢;obtain ⟨ad,vs,e,h1,h2⟩:=h;exact ⟨ad,vs,e,h1.move hw hp,zbghZ ih h2 hrs⟩
  | sl o off len esz cap =>
   simp only [frz] at he;split at he
   ·rename_i cs ho
    obtain ⟨rs,hrs,rfl⟩:=Option.map_eq_some_iff.1 he;simp only [VR] at h ⊢;obtain ⟨ho',a,c,rfl,hlc,hs⟩:=h;obtain ⟨vs,h1,h2⟩:=Has.of_obj hw hr ho (hX _ _ ho) off
    by_cases hz : len * esz=0
    ·rw [hz] at hrs
     simp only [List.take_zero,mapO] at hrs;injection hrs with hrs;subst hrs;exact ⟨a,c,[],rfl,hlc,.inl rfl,.nil⟩
    ·have ha : a=⟨(G'.μ o).1,(G'.μ o).2.1 + off,none⟩:=by
      have hlen : len ≠ 0:=λh0=>hz (by rw [h0,Nat.zero_mul])
      unfold SlAt at hs;split at hs
      ·obtain ⟨rfl,h0 | h0⟩:=hs
       ·omega
       ·exact h0.1
      ·rcases hs with ⟨_,h0 | h0⟩
       ·omega
       ·exact h0.1
     refine ⟨a,c,vs.take (len * esz),rfl,hlc, ?_,zbghZ ih (h1.take _) hrs⟩;rw [ha];exact h2.take _
   ·cases he
  | imm cs len esz =>
   simp only [frz] at he;obtain ⟨rs,hrs,rfl⟩:=Option.map_eq_some_iff.1 he;simp only [VR] at h ⊢;obtain ⟨ad,c,vs,e,hl,h1,h2⟩:=h;exact ⟨ad,c,vs,e,hl,h1.move hw hp,zbghZ ih h2 hrs⟩
  | mp o => cases he
  | agg cs =>
   simp only [frz] at he;obtain ⟨rs,hrs,rfl⟩:=Option.map_eq_some_iff.1 he;simp only [VR] at h ⊢;obtain ⟨vs,e,h2⟩:=h;exact ⟨vs,e,zbghZ ih h2 hrs⟩
  | tup cs =>
   simp only [frz] at he;obtain ⟨rs,hrs,rfl⟩:=Option.map_eq_some_iff.1 he;simp only [VR] at h ⊢;obtain ⟨vs,e,h2⟩:=h;exact ⟨vs,e,zbghZ ih h2 hrs⟩
  | fn f a b =>
   simp only [frz] at he;split at he
   ·rename_i x y hx hy
    injection he with he;subst he;simp only [VR] at h ⊢;obtain ⟨va,vb,e,h1,h2⟩:=h;exact ⟨va,vb,e,zbghZ ih h1 hx,zbghZ ih h2 hy⟩
   ·cases he
  | emp => simp only [frz] at he; injection he with he; subst he; simpa only [VR] using h
  | junk => simp only [frz] at he; injection he with he; subst he; simp only [VR]
mutual
def noIds : AV→Bool
 | .lit _ => true
 | .ptr .. => false
 | .ip cs => zdcZ cs
 | .sl .. => false
 | .imm cs _ _ => zdcZ cs
 | .mp _ => false
 | .agg cs => zdcZ cs
 | .tup cs => zdcZ cs
 | .fn _ a b => zdcZ a && zdcZ b
 | .emp => true
 | .junk => true
def zdcZ : List AV→Bool
 | [] => true
 | a :: r => noIds a && zdcZ r
end
mutual
theorem noIds_bel : ∀ {a : AV},noIds a=true→Bel 0 a
 | .lit _,_ => by simp only [Bel]
 | .ptr ..,h => by simp [noIds] at h
 | .ip cs,h => by simp only [noIds] at h; simp only [Bel]; exact zmoZ h
 | .sl ..,h => by simp [noIds] at h
 | .imm cs _ _,h => by simp only [noIds] at h; simp only [Bel]; exact zmoZ h
 | .mp _,h => by simp [noIds] at h
 | .agg cs,h => by simp only [noIds] at h; simp only [Bel]; exact zmoZ h
 | .tup cs,h => by simp only [noIds] at h; simp only [Bel]; exact zmoZ h
 | .fn _ a b,h => by simp only [noIds,Bool.and_eq_true] at h; simp only [Bel]; exact ⟨zmoZ h.1,zmoZ h.2⟩
 | .emp,_ => by simp only [Bel]
 | .junk,_ => by simp only [Bel]
theorem zmoZ : ∀ {as : List AV},zdcZ as=true→Bels 0 as
 | [],_ => by simp only [Bels]
 | a :: r,h => by simp only [zdcZ,Bool.and_eq_true] at h; simp only [Bels]; exact ⟨noIds_bel h.1,zmoZ h.2⟩
end
section
variable {P : Program}
theorem alien_has {G : Cfg} {G' : Cfg} (hw : G'.w=G.w) (hL : ∀ b,¬ G'.L b) (hK : ∀ b,G'.K b→G.L b∨G.K b) {ad : Addr} {vs : List Value} (h : Has G ad vs) : Has G' ad vs :=
 Has.move hw (λb hn hh=>hn (hh.elim (λh=>(hL b h).elim) (hK b))) h
def Cfg.alien (G : Cfg) : Cfg:={ w:=G.w,n:=0,μ:=G.μ,L:=λ_=>False,K:=λb=>G.L b∨G.K b }
mutual
theorem VR.alien {G : Cfg} : ∀ {a : AV} {v : Value},VR G a v→Bel 0 a→VR G.alien a v
 | .lit _,_,hv,_ => by simpa only [VR] using hv
 | .ptr o off,v,hv,hb => by simp only [Bel] at hb; omega
 | .ip cs,v,hv,hb => by simp only [VR] at hv ⊢; simp only [Bel] at hb; obtain ⟨x,y,z,t,h⟩:=hv; exact ⟨x,y,z,alien_has (G:=G) (G':=G.alien) rfl (λ_ h=>h) (λ_ h=>h) t,VRs.alien h hb⟩
 | .sl o off len esz cap,v,hv,hb => by simp only [Bel] at hb; omega
 | .imm cs len esz,v,hv,hb => by simp only [VR] at hv ⊢; simp only [Bel] at hb; obtain ⟨x,y,z,t,u,s,h⟩:=hv; exact ⟨x,y,z,t,u,alien_has (G:=G) (G':=G.alien) rfl (λ_ h=>h) (λ_ h=>h) s,VRs.alien h hb⟩
 | .mp o,v,hv,hb => by simp only [Bel] at hb; omega
 | .agg cs,v,hv,hb => by simp only [VR] at hv ⊢; simp only [Bel] at hb; obtain ⟨x,y,h⟩:=hv; exact ⟨x,y,VRs.alien h hb⟩
 | .tup cs,v,hv,hb => by simp only [VR] at hv ⊢; simp only [Bel] at hb; obtain ⟨x,y,h⟩:=hv; exact ⟨x,y,VRs.alien h hb⟩
 | .fn f a b,v,hv,hb => by simp only [VR] at hv ⊢; simp only [Bel] at hb; obtain ⟨x,y,z,h,k⟩:=hv; exact ⟨x,y,z,VRs.alien h hb.1,VRs.alien k hb.2⟩
 | .emp,_,hv,_ => by simpa only [VR] using hv
 | .junk,_,_,_ => by simp only [VR]
theorem VRs.alien {G : Cfg} : ∀ {as : List AV} {vs : List Value},VRs G as vs→Bels 0 as→VRs G.alien as vs
 | [],_,hv,_ => by simpa only [VRs] using hv
 | a :: as,vs,hv,hb => by simp only [VRs] at hv ⊢; simp only [Bels] at hb; obtain ⟨x,y,z,h,k⟩:=hv; exact ⟨x,y,z,VR.alien h hb.1,VRs.alien k hb.2⟩
end
theorem ACalls.pure {f : FuncId} {args : List AV} {R : AV→AH→Prop} {R' : AV→Prop} (h : ACalls P f args [] R) (hb : Bels 0 args) (hR : ∀ r X,R r X→∃ n r',frz X n r=some r'∧R' r') (H : AH) :
  ACalls P f args H λr' H'=>R' r'∧H'=H:=by
 intro G vs hH hv
 have h0 : HR G.alien []:=⟨rfl,λo x h=>by simp at h,λo o' x x' h=>by simp at h,λo x h=>by simp at h,λb h=>by
  rcases h with h | h
  ·exact h.elim
  ·exact hH.lt b h,λb h=>h.elim⟩
 refine (h G.alien vs h0 (hv.alien hb)).mono ?_;rintro e w' ⟨r,X,G',v,rfl,rfl,hE,hx,hX,hq⟩;obtain ⟨n,r',hf,hr'⟩:=hR r X hq;have keep : ∀ k,k < G.w.heap.size→G'.w.heap[k]? = G.w.heap[k]?∧¬ G'.L k:=λk hk=>hE.keep k hk (λh=>h)
 let G'' : Cfg:={ w:=G'.w,n:=G.n,μ:=G.μ,L:=G.L,K:=G.K }
 have hE' : Evo G G'':=⟨hE.os,hE.tape,hE.output,hE.size,λk hk hL=>⟨(keep k hk).1,hL⟩,Nat.le_refl _,λ_ _=>rfl,rfl⟩;refine ⟨r',H,G'',v,rfl,rfl,hE', ?_, ?_,hr',rfl⟩
 ·refine frz_ok (G':=G') (G'':=G'') rfl ?_ hX ?_ n r v r' hx hf
  ·intro b hn hh
   refine hn (.inr ?_);rw [hE.K];exact hh
  ·intro o x ho hh
   have h1:=hX.live o x ho;have h2 : (G'.μ o).1 < G.w.heap.size:=hH.lt _ hh;exact (keep _ h2).2 h1
 ·exact ⟨hH.n,λo x ho=>OR.evo hE' (hH.lt_n ho) (keep _ (hH.lt _ (.inl (hH.live _ _ ho)))).1 (hH.obj o x ho),hH.inj,hH.live,λb hb=>Nat.lt_of_lt_of_le (hH.lt b hb) hE.size,hH.dis⟩
theorem acall_run {G : Cfg} {ρ : Operand→AV} {ρc : Operand→Value} (hf : ∀ x,VR G (ρ x) (ρc x)) {o : Oper} {k : FuncId} {args : List AV} (h : acall ρ o=some (k,args)) (w : World) :
  ∃ vs : List Value,VRs G args vs∧(execOp ρc o).run P w=(callFunc k vs.toArray).run P w:=by
 obtain ⟨dst,op,type,pos,after,guard⟩:=o;unfold acall at h;split at h
 ·rename_i f args' ats hop
  simp only at hop;subst hop;split at h
  ·rename_i k' first cap hfn
   injection h with h;injection h with h1 h2;subst h1; subst h2;have hv:=hf f;rw [hfn] at hv;simp only [VR] at hv;obtain ⟨va,vb,hv,ha,hb⟩:=hv;have hm:=VRs.map_ops hf args'.toList;refine ⟨va.toList ++ args'.toList.map ρc ++ vb.toList,(ha.append hm).append hb, ?_⟩
   have he : (va.toList ++ args'.toList.map ρc ++ vb.toList).toArray=va ++ args'.map ρc ++ vb:=by
    apply Array.ext';simp
   rw [he];simp [execOp,resolve,hv,Deferred.ofValue,invoke]
  ·cases h
 ·cases h
theorem AOps.extern {ops : Array Oper} {Q : AQ} {o : Oper} {rest : List Oper} {T : List AV} {H : AH} {k : FuncId} {args : List AV} {r : AV} (hw : zmbZ ops T o=some true) (h : acall (aeval T) o=some (k,args))
  (hk : ∀ (G : Cfg) (vs : List Value),HR G H→VRs G args vs→∃ u,(callFunc k vs.toArray).run P G.w = .ok (.value u) G.w∧VR G r u) (hr : AOps P ops Q rest (aput T o.dst r) H) : AOps P ops Q (o :: rest) T H:=by
 intro G0 G a ρ hE hF hd hH;unfold wpListIn;rw [if_pos (zyuZ hF hw)];obtain ⟨vs,hvs,hrun⟩:=acall_run (P:=P) (λx=>hF.eval x) h G.w;obtain ⟨u,hu,hx⟩:=hk G vs hH hvs;refine ⟨λ_ _=>trivial, ?_⟩;rw [Oper.semAt_eq _ _ _ (zbanZ h),hrun,hu];exact hr G0 G _ ρ hE (hF.put o.dst hx) (hd.put _ _) hH
end
end Go.Proofs.YtlhiaihmkjlaaaaGreat.Av
end
section
namespace Go.Proofs.YtlhiaihmkjlaaaaGreat.Av
open Go Go.RowKit
section
variable {P : Program}
theorem acall_congr {ρ ρ' : Operand→AV} {o : Oper} (h : ∀ x ∈ o.op.operands.toList,ρ x=ρ' x) : acall ρ o=acall ρ' o:=by
 obtain ⟨dst,op,type,pos,after,guard⟩:=o;cases op
 case call c =>
  obtain ⟨callee,args,ats⟩:=c;cases callee
  case value f =>
   simp only [acall];rw [h f (by simp [Op.operands,Call.operands]),zudZ args.toList (λx hx=>h x (by simp [Op.operands,Call.operands]; exact .inr (Array.mem_toList_iff.1 hx)))]
  all_goals rfl
 all_goals rfl
def zbdkZ (P : Program) (ρ : Operand→AV) (o : Oper) : Option AV :=
 match o.op with
 | .buildSlice t len parts => match znoZ P [] t len (parts.toList.map λp=>(p.1,ρ p.2)) with
  | some (.sl _ _ l esz _,[some (.cells cs)]) => some (.imm cs l esz)
  | _ => none
 | _ => none
theorem afrozen_nodefer {ρ : Operand→AV} {o : Oper} {r : AV} (h : zbdkZ P ρ o=some r) (c : Call) : o.op ≠ .defer c:=by
 intro hc;simp [zbdkZ,hc] at h
theorem afrozen_ok {G : Cfg} {ρ : Operand→AV} {ρc : Operand→Value} {H : AH} (hr : HR G H) (hf : ∀ x,VR G (ρ x) (ρc x)) {o : Oper} {r : AV} (h : zbdkZ P ρ o=some r) :
  ∃ (G' : Cfg) (u : Value),(execOp ρc o).run P G.w = .ok (.value u) G'.w∧Evo G G'∧VR G' r u∧HR G' H:=by
 obtain ⟨dst,op,type,pos,after,guard⟩:=o;unfold zbdkZ at h;split at h
 ·rename_i t len parts hop
  simp only at hop;subst hop;obtain ⟨e1,e2⟩:=VRs.map_parts hf parts.toList;split at h
  ·rename_i l esz cs hb
   injection h with h;subst h;unfold znoZ at hb;split at hb
   ·rename_i e hu
    split at hb
    ·rename_i i hi
     split at hb
     ·rename_i z hz
      split at hb
      ·rename_i hbb
       obtain ⟨h0,h4,h5,h6⟩:=hbb;obtain ⟨cs',hcs,he⟩:=Option.map_eq_some_iff.1 hb;simp only [Prod.mk.injEq,AV.sl.injEq,List.nil_append,List.cons.injEq,Option.some.injEq,AObj.cells.injEq,and_true] at he;obtain ⟨⟨-,-,rfl,rfl,-⟩,rfl⟩:=he;have hz0 : z.cells.size ≠ 0:=by rw [h4]; exact h5
       have hv:=zbgeZ (G:=G) (z:=z.cells) len hz0;rw [h4] at hv;obtain ⟨us,hus,hR⟩:=afill_ok (parts.toList.map λp=>(p.1,ρ p.2)) (parts.map fun (i,x) => (i,ρc x)).toList _ (madeCells z.cells (len * i.size)) cs' (by rw [Array.toList_map]; exact e1) (by rw [Array.toList_map]; exact e2) hv hcs;have hone:=fill_one _ _ us (zugZ (by rw [Array.toList_map]; exact e2) hcs) (made_one _ (λu hu=>List.all_eq_true.1 h6 u hu) hz0) hus
       let G1 : Cfg:={ G with w:=G.w.alloc (.cells us e) }
       have hE : Evo G G1:=⟨rfl,rfl,rfl,by simp [G1],λk hk hL=>⟨Below.heap_alloc _ _ _ hk,hL⟩,Nat.le_refl _,λ_ _=>rfl,rfl⟩;refine ⟨G1,.slice (some ⟨G.w.heap.size,0,none⟩) len len, ?_,hE, ?_, ?_⟩
       ·have hzi : (P.info? e).bind (·.zero)=some z:=by rw [hi]; exact hz
        have hn : ¬ (16777216 < len * i.size):=by omega
        by_cases hl : len * i.size=0
        ·have hm0 : madeCells z.cells 0 = #[]:=by simp [madeCells]
         rw [hl,hm0] at hus;have hr0 : Array.range 0 = #[]:=rfl;simp at hus;simp [execOp,hr0,Instr.buildSlice,run_underlying hu,sizeOf,typeInfo,hi,hl,hus,newRow,G1]
        ·have:=hus
         unfold madeCells at this;simp at this;simp [execOp,Instr.buildSlice,run_underlying hu,sizeOf,typeInfo,hi,hn,hl,zgbZ hzi,this,newRow,G1]
       ·simp only [VR]
        refine ⟨_,_,us.toList,rfl,Nat.le_refl _,.inr ⟨λhL=>?_,λi v hv=>?_⟩,hR.evo hE⟩
        ·have:=hr.lt _ hL; simp at this
        ·refine ⟨?_,hone v (List.mem_of_getElem? hv)⟩
         rw [Addr.add_lit];unfold World.cell?;rw [show G1.w.heap[G.w.heap.size]? = some (.cells us e) from heap_alloc_new G.w _]
         simpa using hv
       ·exact ⟨hr.n,λo x ho=>OR.evo hE (hr.lt_n ho) (Below.heap_alloc _ _ _ (hr.lt _ (.inl (hr.live _ _ ho)))) (hr.obj o x ho),hr.inj,hr.live,λb hb=>by have:=hr.lt b hb; simp [G1]; omega,hr.dis⟩
      ·cases hb
     ·cases hb
    ·cases hb
   ·cases hb
  ·cases h
 ·cases h
theorem afrozen_congr {ρ ρ' : Operand→AV} {o : Oper} (h : ∀ x ∈ o.op.operands.toList,ρ x=ρ' x) : zbdkZ P ρ o=zbdkZ P ρ' o:=by
 obtain ⟨dst,op,type,pos,after,guard⟩:=o;cases op
 case buildSlice t n ps =>
  have : (ps.toList.map λp=>(p.1,ρ p.2))=(ps.toList.map λp=>(p.1,ρ' p.2)) :=
   List.map_congr_left λp hm=>by rw [h p.2 (by simp [Op.operands]; exact ⟨p.1,by simpa using hm⟩)]
  simp only [zbdkZ];rw [this]
 all_goals rfl
def AStep (P : Program) (T : List AV) (H : AH) (o : Oper) (R : AV→AH→Prop) : Prop :=
 (∃ r H',aop P (aeval T) H o=some (r,H')∧R r H')∨(∃ r,zbdkZ P (aeval T) o=some r∧R r H)∨∃ k args,acall (aeval T) o=some (k,args)∧zbchZ P k=true∧ACalls P k args H R
structure Ord (ops : List Oper) : Prop where
 down : zbfqZ ops=true
 ord : ∀ i j oi oj d,ops[i]? = some oi→ops[j]? = some oj→i ≠ j→oj.dst=some d→d ∈ looks ops oi→((masks ops []).getD (max i j) 0).testBit (min i j)=true
def ordOk (ops : List Oper) : Bool :=
 let b:=masks ops []
 zbfqZ ops &&
 (ops.zipIdx.all λp=>ops.zipIdx.all λq=>(p.2 == q.2) || (match q.1.dst with
  | some d => !(looks ops p.1).contains d || (b.getD (max p.2 q.2) 0).testBit (min p.2 q.2)
  | none => true))
theorem ordOk_ok {ops : List Oper} (h : ordOk ops=true) : Ord ops:=by
 unfold ordOk at h;simp only [Bool.and_eq_true] at h;obtain ⟨h1,h3⟩:=h;refine ⟨h1,λi j oi oj d hi hj hne hd hl=>?_⟩
 have:=List.all_eq_true.1 (List.all_eq_true.1 h3 _ (zip_mem hi)) _ (zip_mem hj)
 simp only [hd] at this;simp only [Bool.or_eq_true,beq_iff_eq,Bool.not_eq_true',List.contains_eq_mem,decide_eq_false_iff_not] at this;rcases this with h | h | h
 ·exact absurd h hne
 ·exact absurd hl h
 ·exact h
def Ready (ops : List Oper) (S : Nat→Bool) (i : Nat) (o : Oper) : Prop :=
 ops[i]? = some o∧ClosedL ops S∧S i=false∧∀ e ∈ o.after,Region.binds .any e=true→S e.on=true
def Steps (P : Program) (ops : List Oper) (T : List AV) {Ω : Type} (Ok : Ω→(Nat→Bool)→Prop) (vals : Ω→Nat→AV) (HS : Ω→(Nat→Bool)→AH) : Prop :=
 ∀ ω S i o,Ready ops S i o→Ok ω S →
  ∃ b,zmbZ ops.toArray (pt ops (vals ω) (λ_=>true) T i) o=some b ∧
   (b=true→AStep P (pt ops (vals ω) (λ_=>true) T i) (HS ω S) o λr H'=>∃ ω',Ok ω' (upd S i)∧(∀ j,S j=true→vals ω' j=vals ω j)∧vals ω' i=r∧HS ω' (upd S i)=H') ∧
   (b=false→∃ ω',Ok ω' (upd S i)∧(∀ j,S j=true→vals ω' j=vals ω j)∧vals ω' i=zgmZ∧HS ω' (upd S i)=HS ω S)
theorem pt_vals {ops : List Oper} {vals vals' : Nat→AV} {lst : Nat→Bool} {T : List AV} (h : ∀ j,lst j=true→vals' j=vals j) : ∀ n,pt ops vals' lst T n=pt ops vals lst T n
 | 0 => rfl
 | n + 1 => by
  simp only [pt,pt_vals h n]
  split
  ·rename_i hn; rw [h n hn]
  ·rfl
theorem steps_any {ops : List Oper} (hk : Ord ops) {T : List AV} {Ω : Type} {Ok : Ω→(Nat→Bool)→Prop} {vals : Ω→Nat→AV} {HS : Ω→(Nat→Bool)→AH} (hs : Steps P ops T Ok vals HS) {Q : AQ} {G0 : Cfg}
  (last : ∀ ω S,(∀ j,j < ops.length→S j=true)→Ok ω S→Q .normal (pt ops (vals ω) (λ_=>true) T ops.length) (HS ω S)) :
  ∀ (d : Nat) (listed : Array Bool) (a : Act) (G : Cfg) (ρ : Rnd) (ω : Ω),listed.size=ops.length→listed.toList.countP (λb=>!b)=d →
   ClosedL ops (λj=>listed.getD j false)→Ok ω (λj=>listed.getD j false)→Evo G0 G→FR G (pt ops (vals ω) (λj=>listed.getD j false) T ops.length) a→DF G ρ a→HR G (HS ω λj=>listed.getD j false) →
   wpAnyIn (FW ρ.1) 0 P .any ops.toArray (APost G0 ρ Q) d listed a G.w:=by
 intro d
 induction d with
 | zero =>
  intro listed a G ρ ω hsz hcnt hcl hok hE hF hd hH
  have all : ∀ j,j < ops.length→listed.getD j false=true:=by
   intro j hj;have hs : j < listed.size:=by omega
   have:=List.countP_eq_zero.1 hcnt listed[j] (by simp)
   simp only [Array.getD_eq_getD_getElem?,Array.getElem?_eq_getElem hs,Option.getD_some]
   simpa using this
  refine ⟨?_, ?_⟩
  ·rw [List.eq_nil_iff_forall_not_mem]
   intro i hi;obtain ⟨h0,o,ho,_⟩:=mem_ready.1 hi;have hlt : i < ops.length:=by simpa using (Array.getElem?_eq_some_iff.1 ho).1
   rw [ztzZ (by omega),all i hlt] at h0;cases h0
  ·have e : pt ops (vals ω) (λj=>listed.getD j false) T ops.length=pt ops (vals ω) (λ_=>true) T ops.length :=
    pt_congr _ λm hm=>all m hm
   rw [e] at hF;exact post_now (last ω _ all hok) hE hF hd hH
 | succ d ih =>
  intro listed a G ρ ω hsz hcnt hcl hok hE hF hd hH
  have hex : ∃ j,j < ops.length∧listed.getD j false=false∧∀ i,i < j→listed.getD i false=true:=by
   have : ∃ j,j < ops.length∧listed.getD j false=false:=by
    apply Decidable.byContradiction;intro hn
    have : listed.toList.countP (λb=>!b)=0:=by
     refine List.countP_eq_zero.2 λb hb=>?_
     obtain ⟨j,hj,rfl⟩:=List.mem_iff_getElem.1 hb;have hj' : j < listed.size:=by simpa using hj
     cases h : listed[j] with
     | true => simp [h]
     | false =>
      exfalso
      refine hn ⟨j,by omega, ?_⟩;simp [Array.getD_eq_getD_getElem?,hj',h]
    omega
   obtain ⟨j,hj⟩:=this
   induction j using Nat.strongRecOn with
   | _ j ihj =>
    by_cases h : ∃ i,i < j∧listed.getD i false=false
    ·obtain ⟨i,h1,h2⟩:=h
     exact ihj i h1 ⟨by omega,h2⟩
    ·exact ⟨j,hj.1,hj.2,λi hi=>by
      cases h' : listed.getD i false with
      | true => rfl
      | false => exact absurd ⟨i,hi,h'⟩ h⟩
  obtain ⟨j0,hlt,hj0,hbelow⟩:=hex;refine ⟨λhnil=>?_,λi hi=>?_⟩
  ·exfalso
   have hin : j0 ∈ Region.ready .any ops.toArray listed:=by
    refine mem_ready.2 ⟨by rw [ztzZ (by omega)]; exact hj0,ops[j0],by simp [hlt],λe he hb=>?_⟩;exact hbelow _ (edgesDown_ok hk.down (gEG hlt) he hb)
   rw [hnil] at hin;cases hin
  ·obtain ⟨h0,o,ho,hmet⟩:=mem_ready.1 hi
   have ho' : ops[i]? = some o:=by simpa using ho
   have hil : i < ops.length:=(gSI.1 ho').1;have his : i < listed.size:=by omega
   rw [ztzZ his] at h0
   have hord : ∀ (j : Nat) (t : Tmp),j < ops.length→dstOf ops j=some t→t ∈ looks ops o→listed.getD j false=decide (j < i):=by
    intro j t hj hdj ht;have hoj : ops[j]? = some ops[j]:=gEG hj
    have hdst : ops[j].dst=some t:=by
     unfold dstOf at hdj;rw [hoj] at hdj;exact hdj
    rcases Nat.lt_trichotomy j i with h | h | h
    ·have hb:=hk.ord i j o _ t ho' hoj (by omega) hdst ht
     rw [Nat.max_eq_left (by omega),Nat.min_eq_right (by omega)] at hb
     have:=zbeeZ hk.down hcl i o ho' hmet j hb
     try simp only at this
     rw [this]; simp [h]
    ·subst h; rw [h0]; simp
    ·have hb:=hk.ord i j o _ t ho' hoj (by omega) hdst ht
     rw [Nat.max_eq_right (by omega),Nat.min_eq_left (by omega)] at hb;cases hlj : listed.getD j false with
     | false => simp; omega
     | true =>
      exfalso
      have:=zbeeZ hk.down hcl j _ hoj (λe he hb'=>hcl j _ hoj hlj e he hb') i hb
      try simp only at this
      rw [h0] at this; cases this
   have hget : ∀ t ∈ looks ops o,(pt ops (vals ω) (λj=>listed.getD j false) T ops.length)[t]? = (pt ops (vals ω) (λ_=>true) T i)[t]?:=by
    intro t ht;rw [← pt_prefix (i:=i) ops.length (by omega)];exact pt_get ops.length (λj hj hdj=>hord j t hj hdj ht)
   obtain ⟨b,hb,hb1,hb0⟩:=hs ω (λj=>listed.getD j false) i o ⟨ho',hcl,h0,hmet⟩ hok;rw [← awanted_congr hget] at hb
   have hlst' : (λj=>(listed.setIfInBounds i true).getD j false)=upd (λj=>listed.getD j false) i:=by
    funext j
    unfold upd
    by_cases hji : j=i
    ·subst hji; simp [Array.getD_eq_getD_getElem?,his]
    ·rw [if_neg hji,getD_set_ne false (Ne.symm hji)]
   have hadd : ∀ ω',(∀ j,listed.getD j false=true→vals ω' j=vals ω j)→pt ops (vals ω') (upd (λj=>listed.getD j false) i) T ops.length=aput (pt ops (vals ω) (λj=>listed.getD j false) T ops.length) o.dst (vals ω' i):=by
    intro ω' hv;rw [pt_add (by simpa using h0) ops.length,if_pos hil,pt_vals hv]
    ·simp [dstOf,ho']
    ·intro j h1 h2 h3 x hx hxj
     have hdx : o.dst=some x:=by simpa [dstOf,ho'] using hx
     have:=hord j x h2 hxj (by unfold looks; simp [hdx])
     try simp only at h3
     rw [h3] at this;simp at this; omega
   have next : ∀ (ω' : Ω) (a' : Act) (G' : Cfg),Ok ω' (upd (λj=>listed.getD j false) i)→(∀ j,listed.getD j false=true→vals ω' j=vals ω j)→Evo G0 G' →
     FR G' (aput (pt ops (vals ω) (λj=>listed.getD j false) T ops.length) o.dst (vals ω' i)) a'→DF G' ρ a'→HR G' (HS ω' (upd (λj=>listed.getD j false) i)) →
     wpAnyIn (FW ρ.1) 0 P .any ops.toArray (APost G0 ρ Q) d (listed.setIfInBounds i true) a' G'.w:=by
    intro ω' a' G' hok' hv hE' hF' hd' hH';refine ih _ a' G' ρ ω' (by simpa using hsz) ?_ ?_ (by rw [hlst']; exact hok') hE' ?_ hd' (by rw [hlst']; exact hH')
    ·rw [Array.toList_setIfInBounds,List.countP_set (by simpa using his)]
     have hli : listed.toList[i]'(by simpa using his)=false:=by
      simp only [Array.getD_eq_getD_getElem?,Array.getElem?_eq_getElem his,Option.getD_some] at h0
      simpa using h0
     rw [hli];simp only [Bool.not_false,if_true,Bool.not_true,Bool.false_eq_true,if_false];omega
    ·intro j oj hoj hlj e he hbe
     have hlj : upd (λj=>listed.getD j false) i j=true:=(congrFun hlst' j).symm.trans hlj;refine (congrFun hlst' e.on).trans ?_;unfold upd at hlj ⊢
     split
     ·rfl
     ·by_cases hji : j=i
      ·subst hji
       rw [ho'] at hoj;injection hoj with hoj;subst hoj;exact hmet e he hbe
      ·rw [if_neg hji] at hlj
       exact hcl j oj hoj hlj e he hbe
    ·rw [hlst',hadd ω' hv]; exact hF'
   unfold wpOpIn;simp only [ho];cases b with
   | true =>
    rw [if_pos (zyuZ hF hb)];rcases hb1 rfl with ⟨r,H',hop,ω',hok',hv,rfl,rfl⟩ | ⟨r,hop,ω',hok',hv,rfl,hH1⟩ | ⟨k,args,hcall,hgo,hc⟩
    ·rw [← aop_congr (aeval_congr hget)] at hop
     obtain ⟨G',u,hrun,hE',hx,hH'⟩:=aop_ok hH (λx=>hF.eval x) hop;refine ⟨λ_ _=>trivial, ?_⟩;rw [Oper.semAt_eq _ _ _ (aop_nodefer hop)];rcases hrun with hrun | ⟨hrun,rfl⟩ <;> rw [hrun] <;> exact next ω' _ G' hok' hv (hE.trans hE') ((FR.evo hE' hF).put o.dst hx) ((hd.evo hE' rfl).put _ _) hH'
    ·rw [← afrozen_congr (aeval_congr hget)] at hop
     obtain ⟨G',u,hrun,hE',hx,hH'⟩:=afrozen_ok hH (λx=>hF.eval x) hop;refine ⟨λ_ _=>trivial, ?_⟩;rw [Oper.semAt_eq _ _ _ (afrozen_nodefer hop),hrun];exact next ω' _ G' hok' hv (hE.trans hE') ((FR.evo hE' hF).put o.dst hx) ((hd.evo hE' rfl).put _ _) (by rw [hH1]; exact hH')
    ·rw [← acall_congr (aeval_congr hget)] at hcall
     obtain ⟨vs,hvs,hrun⟩:=acall_ok (P:=P) (λx=>hF.eval x) hcall hgo G.w;refine ⟨λ_ _=>trivial, ?_⟩;rw [Oper.semAt_eq _ _ _ (zbanZ hcall),hrun];refine ⟨λhn=>(by simp [Fence.wide] at hn),CallsIn.mono (callsIn_FW ρ.1 (hc G vs hH hvs)) ?_⟩;rintro e w' ⟨r,H',G',v,rfl,rfl,hE',hx,hH',ω',hok',hv,rfl,rfl⟩;exact next ω' _ G' hok' hv (hE.trans hE') ((FR.evo hE' hF).put o.dst hx) ((hd.evo hE' rfl).put _ _) hH'
   | false =>
    rw [if_neg (by rw [zyuZ hF hb]; simp)];obtain ⟨ω',hok',hv,hu,hH'⟩:=hb0 rfl;refine ⟨λ_ _=>trivial,next ω' _ G hok' hv hE ?_ (hd.put _ _) (by rw [hH']; exact hH)⟩;rw [hu];exact hF.put o.dst (by simp only [zgmZ,VR])
theorem ACode.drawn {id : Nat} {ops : List Oper} {Q : AQ} {T : List AV} {H : AH} (hm : P.follows .mixedOrders=true) (hk : ordOk ops=true) {Ω : Type} (Ok : Ω→(Nat→Bool)→Prop) (vals : Ω→Nat→AV) (HS : Ω→(Nat→Bool)→AH)
  (ω0 : Ω) (h0 : Ok ω0 (λ_=>false)) (hH0 : HS ω0 (λ_=>false)=H) (hs : Steps P ops T Ok vals HS)
  (last : ∀ ω S,(∀ j,j < ops.length→S j=true)→Ok ω S→Q .normal (pt ops (vals ω) (λ_=>true) T ops.length) (HS ω S)) : ACode P (.region id ops.toArray true) Q T H:=by
 intro G0 G a ρ hE hF hd hH;refine wpIn_region_any hm ?_
 have hz0 : (λj=>(Array.replicate ops.toArray.size false).getD j false)=λ_=>false:=by
  funext j
  simp only [Array.getD_eq_getD_getElem?,Array.getElem?_replicate]
  split <;> simp
 have hF0 : FR { G with w:=G.w.drew } (pt ops (vals ω0) (λj=>(Array.replicate ops.toArray.size false).getD j false) T ops.length) a:=by
  have hz : ∀ m,pt ops (vals ω0) (λ_=>false) T m=T:=by
   intro m
   induction m with
   | zero => rfl
   | succ m ih => simp only [pt]; rw [if_neg (by simp),ih]
  rw [hz0,hz];exact FR.evo (Evo.drew G) hF
 refine steps_any (ordOk_ok hk) hs last ops.toArray.size (Array.replicate ops.toArray.size false) a { G with w:=G.w.drew } ρ ω0 (by simp) (by simp [List.countP_replicate]) ?_ ?_ (hE.trans (Evo.drew G)) hF0 (hd.evo (Evo.drew G) rfl) ?_
 ·intro j o _ hl
  rw [hz0] at hl;cases hl
 ·rw [hz0]; exact h0
 ·rw [hz0,hH0]; exact hH.drew
end
end Go.Proofs.YtlhiaihmkjlaaaaGreat.Av
end
section
namespace Go.Proofs.YtlhiaihmkjlaaaaGreat.Av
open Go Go.RowKit
def litSame : Value→Value→Bool
 | .bool a,.bool b => decide (a=b)
 | .int k a,.int l b => decide (k=l) && decide (a=b)
 | .string a,.string b => decide (a=b)
 | .pointer none,.pointer none => true
 | .slice none a b,.slice none c d => decide (a=c) && decide (b=d)
 | .map none,.map none => true
 | .nilFunc,.nilFunc => true
 | .nilIface,.nilIface => true
 | _,_ => false
theorem litSame_ok : ∀ {a b : Value},litSame a b=true→a=b:=by
 intro a b h;unfold litSame at h;split at h <;> simp_all
def fnSame : Fn→Fn→Bool
 | .func a,.func b => decide (a=b)
 | _,_ => false
theorem fnSame_ok {a b : Fn} (h : fnSame a b=true) : a=b:=by
 unfold fnSame at h;split at h <;> simp_all
mutual
def AV.same : AV→AV→Bool
 | .lit v,.lit u => litSame v u
 | .ptr a b,.ptr c d => decide (a=c) && decide (b=d)
 | .ip a,.ip b => sames a b
 | .sl a b c d e,.sl a' b' c' d' e' => decide (a=a') && decide (b=b') && decide (c=c') && decide (d=d') && decide (e=e')
 | .imm a l e,.imm b m f => decide (l=m) && decide (e=f) && sames a b
 | .mp a,.mp b => decide (a=b)
 | .agg a,.agg b => sames a b
 | .tup a,.tup b => sames a b
 | .fn f a b,.fn g c d => fnSame f g && sames a c && sames b d
 | .emp,.emp => true
 | .junk,.junk => true
 | _,_ => false
def sames : List AV→List AV→Bool
 | [],[] => true
 | a :: r,b :: s => AV.same a b && sames r s
 | _,_ => false
end
mutual
theorem AV.same_ok : ∀ {a b : AV},AV.same a b=true→a=b:=by
 intro a b h
 match a,b,h with
 | .lit v,.lit u,h => simp only [AV.same] at h; rw [litSame_ok h]
 | .ptr a b,.ptr c d,h => simp [AV.same] at h; rw [h.1,h.2]
 | .ip a,.ip b,h => simp only [AV.same] at h; rw [zbfvZ h]
 | .sl a b c d e,.sl a' b' c' d' e',h => simp [AV.same] at h; obtain ⟨⟨⟨⟨rfl,rfl⟩,rfl⟩,rfl⟩,rfl⟩:=h; rfl
 | .imm a l e,.imm b m f,h => simp [AV.same] at h; obtain ⟨⟨rfl,rfl⟩,h⟩:=h; rw [zbfvZ h]
 | .mp a,.mp b,h => simp [AV.same] at h; rw [h]
 | .agg a,.agg b,h => simp only [AV.same] at h; rw [zbfvZ h]
 | .tup a,.tup b,h => simp only [AV.same] at h; rw [zbfvZ h]
 | .fn f a b,.fn g c d,h => simp [AV.same] at h; obtain ⟨⟨h1,h2⟩,h3⟩:=h; rw [fnSame_ok h1,zbfvZ h2,zbfvZ h3]
 | .emp,.emp,h => rfl
 | .junk,.junk,h => rfl
theorem zbfvZ : ∀ {a b : List AV},sames a b=true→a=b:=by
 intro a b h
 match a,b,h with
 | [],[],h => rfl
 | a :: r,b :: s,h => simp only [sames,Bool.and_eq_true] at h; rw [AV.same_ok h.1,zbfvZ h.2]
end
def AQ.is (r : Exit × List AV × AH) : AQ:=λe T H=>(e,T,H)=r
section
variable {P : Program}
abbrev zbgmZ:=FuncId→List AV→AH→Option (AV × AH)
def zbgsZ (P : Program) (call : zbgmZ) : Prop:=∀ f args H r H',call f args H=some (r,H')→ACalls P f args H λr' H''=>r'=r∧H''=H'
abbrev PureFn:=FuncId→List AV→Option AV
def PureOk (P : Program) (pure : PureFn) : Prop:=∀ f args r,pure f args=some r→zbchZ P f=true∧∀ H,ACalls P f args H λr' H'=>r'=r∧H'=H
def zyqZ (pl : FuncId→Bool) : Op→Bool
 | .call { callee:=.value (.func k),.. } => pl k
 | _ => false
def quiet (pl : FuncId→Bool) (op : Op) : Bool:=zbfrZ op || zyqZ pl op || match op with
 | .buildSlice .. => true
 | _ => false
def blind : Op→Bool
 | .move _ | .assign _ | .pick .. | .build .. | .nilCheck _ | .binOp .. | .unOp .. | .makeFunc .. | .fieldAddr .. | .field .. | .indexAddr .. | .index .. | .extract .. | .buildSlice .. => true
 | _ => false
theorem map_any {x : Option AV} {H H1 H' : AH} {r : AV} (h : x.map (·,H)=some (r,H1)) : x.map (·,H')=some (r,H'):=by
 obtain ⟨a,h1,h2⟩:=Option.map_eq_some_iff.1 h;injection h2 with h2 h3;subst h2;rw [h1]; rfl
theorem mk_any {x r : AV} {H H1 H' : AH} (h : some (x,H)=some (r,H1)) : some (x,H')=some (r,H'):=by
 injection h with h;injection h with h1 h2;rw [h1]
theorem blind_any {ρ : Operand→AV} {H H1 H' : AH} {o : Oper} {r : AV} (hb : blind o.op=true) (hq : zbfrZ o.op=true) (h : aop P ρ H o=some (r,H1)) : aop P ρ H' o=some (r,H'):=by
 have hH:=zbfjZ hq h;subst hH;obtain ⟨dst,op,type,pos,after,guard⟩:=o;cases op <;> first
  | (simp [blind] at hb; done)
  | (simp [zbfrZ] at hq; done)
  | exact map_any h
  | exact mk_any h
  | skip
 case pick c a b =>
  simp only [aop] at h ⊢;split at h
  ·injection h with h; injection h with h1 h2; rw [h1]
  ·cases h
def stepD (P : Program) (pl : FuncId→Bool) (pure : PureFn) (call : zbgmZ) (T : List AV) (H : AH) (o : Oper) : Option (AV × AH) :=
 match o.op with
 | .buildSlice .. => (zbdkZ P (aeval T) o).map (·,H)
 | _ => if zyqZ pl o.op then match acall (aeval T) o with
   | some (f,args) => (pure f args).map (·,H)
   | none => none
  else match aop P (aeval T) H o with
  | some x => some x
  | none => match acall (aeval T) o with
   | some (f,args) => if zbchZ P f then call f args H else none
   | none => none
def trace (P : Program) (pl : FuncId→Bool) (pure : PureFn) (call : zbgmZ) (ops : Array Oper) : List Oper→List AV→AH→Option (List (AV × AH))
 | [],_,_ => some []
 | o :: l,T,H => match zmbZ ops T o with
  | none => none
  | some false => (trace P pl pure call ops l (aput T o.dst zgmZ) H).map ((zgmZ,H) :: ·)
  | some true => match stepD P pl pure call T H o with
   | some (r,H') => (trace P pl pure call ops l (aput T o.dst r) H').map ((r,H') :: ·)
   | none => none
def chn (pl : FuncId→Bool) (ops : List Oper) (i : Nat) : Bool:=match ops[i]? with
 | some o => !quiet pl o.op
 | none => false
def zleZ (tr : List (AV × AH)) (i : Nat) : AV:=(tr[i]?.map Prod.fst).getD zgmZ
def zbfnZ (tr : List (AV × AH)) (i : Nat) : AH:=(tr[i]?.map Prod.snd).getD []
def hs (pl : FuncId→Bool) (ops : List Oper) (tr : List (AV × AH)) (H : AH) (S : Nat→Bool) : Nat→AH
 | 0 => H
 | m + 1 => if S m && chn pl ops m then zbfnZ tr m else hs pl ops tr H S m
def zbgpZ (pl : FuncId→Bool) (ops : List Oper) (b : List Nat) (i : Nat) (c : Option Nat) : Bool :=
 (List.range ops.length).all (λj=>!(chn pl ops j && (b.getD i 0).testBit j) || (match c with
  | some c => decide (j≤c)
  | none => false)) && (match c with
  | some c => !(b.getD c 0).testBit i && decide (c ≠ i)
  | none => true)
def framesOf (ops : List Oper) : List Oper→List (AV × AH)→List AV→List (List AV)
 | o :: l,(r,_) :: tr,T => T :: framesOf ops l tr (aput T o.dst r)
 | _,_,_ => []
def insensOk (P : Program) (pl : FuncId→Bool) (ops : List Oper) (tr : List (AV × AH)) (H : AH) (T : List AV) : Bool :=
 let b:=masks ops []
 let fr:=framesOf ops ops tr T
 let stages:=none :: ((List.range ops.length).filter (chn pl ops)).map some
 ops.zipIdx.all λp=>!quiet pl p.1.op || blind p.1.op || zyqZ pl p.1.op || match fr[p.2]? with
  | some Ti => match zmbZ ops.toArray Ti p.1 with
   | some true => stages.all λc=>!zbgpZ pl ops b p.2 c || (match aop P (aeval Ti) (match c with | some c => zbfnZ tr c | none => H) p.1 with
    | some (r,_) => AV.same r (zleZ tr p.2)
    | none => false)
   | _ => true
  | none => false
def chainOk (pl : FuncId→Bool) (ops : List Oper) : Bool :=
 let b:=masks ops []
 ops.zipIdx.all λp=>!(chn pl ops p.2) || (List.range p.2).all λj=>!(chn pl ops j) || (b.getD p.2 0).testBit j
def runDraw (P : Program) (pl : FuncId→Bool) (pure : PureFn) (call : zbgmZ) (ops : List Oper) (T : List AV) (H : AH) : Option (List AV × AH) :=
 if P.follows .mixedOrders && ordOk ops && chainOk pl ops then match trace P pl pure call ops.toArray ops T H with
  | some tr => if insensOk P pl ops tr H T then some (pt ops (zleZ tr) (λ_=>true) T ops.length,hs pl ops tr H (λ_=>true) ops.length) else none
  | none => none
 else none
def Told (P : Program) (pl : FuncId→Bool) (ops : List Oper) (tr : List (AV × AH)) (T : List AV) (H : AH) (i : Nat) (o : Oper) : Prop :=
 ∃ b,zmbZ ops.toArray (pt ops (zleZ tr) (λ_=>true) T i) o=some b ∧
  (b=false→zleZ tr i=zgmZ∧zbfnZ tr i=hs pl ops tr H (λ_=>true) i) ∧
  (b=true→∃ pure call,PureOk P pure∧zbgsZ P call∧stepD P pl pure call (pt ops (zleZ tr) (λ_=>true) T i) (hs pl ops tr H (λ_=>true) i) o=some (zleZ tr i,zbfnZ tr i))
theorem acall_op {ρ : Operand→AV} {o : Oper} {q : FuncId × List AV} (h : acall ρ o=some q) : zbfrZ o.op=false:=by
 obtain ⟨dst,op,type,pos,after,guard⟩:=o;unfold acall at h;split at h
 ·rename_i hop
  simp only at hop;subst hop;rfl
 ·cases h
theorem zstZ {pl : FuncId→Bool} {pure : PureFn} (hp : PureOk P pure) {call : zbgmZ} {T : List AV} {H H' : AH} {o : Oper} {r : AV} (hq : quiet pl o.op=true) (h : stepD P pl pure call T H o=some (r,H')) :
    H'=H∧(zbdkZ P (aeval T) o=some r∨(zyqZ pl o.op=true∧∃ f args,acall (aeval T) o=some (f,args)∧zbchZ P f=true∧∀ H,ACalls P f args H λr' H'=>r'=r∧H'=H)∨(aop P (aeval T) H o=some (r,H)∧zbfrZ o.op=true∧zyqZ pl o.op=false)):=by
  unfold stepD at h;split at h
  · obtain ⟨a,h1,h2⟩:=Option.map_eq_some_iff.1 h;injection h2 with h2 h3;subst h2; subst h3;exact ⟨rfl,.inl h1⟩
  · rename_i hnb
    by_cases hpo : zyqZ pl o.op=true
    · rw [if_pos hpo] at h;split at h
      · rename_i f args hc;obtain ⟨a,h1,h2⟩:=Option.map_eq_some_iff.1 h;injection h2 with h2 h3;subst h2; subst h3;exact ⟨rfl,.inr (.inl ⟨hpo,f,args,hc,hp f args _ h1⟩)⟩
      · cases h
    · rw [if_neg hpo] at h;have hpf : zyqZ pl o.op=false:=by simpa using hpo
      have hst : zbfrZ o.op=true:=by
        unfold quiet at hq;simp only [Bool.or_eq_true] at hq;rcases hq with (h | h) | h
        · exact h
        · exact absurd h hpo
        · first
            | (split at h
               · rename_i h1; exact absurd h1 (hnb _ _ _)
               · cases h)
            | cases h
      split at h
      · rename_i x hx;injection h with h;subst h
        have:=zbfjZ hst hx
        subst this;exact ⟨rfl,.inr (.inr ⟨hx,hst,hpf⟩)⟩
      · exfalso
        split at h
        · rename_i f args hc;rw [acall_op hc] at hst;cases hst
        · cases h
theorem trace_told {pl : FuncId→Bool} {pure : PureFn} (hp : PureOk P pure) {call : zbgmZ} (hc : zbgsZ P call) {ops : List Oper} {T : List AV} {H : AH} {tr : List (AV × AH)} : ∀ (l : List Oper) (tl : List (AV × AH)) (k : Nat) (Tk : List AV) (Hk : AH),(∀ (j : Nat) (o : Oper),l[j]? = some o→ops[k + j]? = some o)→(∀ j,tl[j]? = tr[k + j]?) →
  pt ops (zleZ tr) (λ_=>true) T k=Tk→hs pl ops tr H (λ_=>true) k=Hk→trace P pl pure call ops.toArray l Tk Hk=some tl→tl.length=l.length∧∀ (j : Nat) (o : Oper),l[j]? = some o→Told P pl ops tr T H (k + j) o
 | [],tl,k,Tk,Hk,hl,ht,hT,hH,h => by
  simp only [trace] at h;injection h with h;subst h;exact ⟨rfl,λj o hj=>by simp at hj⟩
 | o :: l,tl,k,Tk,Hk,hl,ht,hT,hH,h => by
  have ho : ops[k]? = some o:=by simpa using hl 0 o rfl
  have step : ∀ (r : AV) (H' : AH) (t2 : List (AV × AH)),tl=(r,H') :: t2→trace P pl pure call ops.toArray l (aput Tk o.dst r) H'=some t2→(quiet pl o.op=true→H'=Hk)→(Told P pl ops tr T H k o) →
    tl.length=(o :: l).length∧∀ (j : Nat) (o1 : Oper),(o :: l)[j]? = some o1→Told P pl ops tr T H (k + j) o1:=by
   intro r H' t2 htl h2 hq htold;subst htl;have h0:=ht 0;simp only [gCZ,Nat.add_zero] at h0;have hv : zleZ tr k=r:=by unfold zleZ; rw [← h0]; rfl
   have hh : zbfnZ tr k=H':=by unfold zbfnZ; rw [← h0]; rfl
   obtain ⟨e1,e2⟩:=trace_told hp hc (T:=T) (H:=H) (tr:=tr) l t2 (k + 1) (aput Tk o.dst r) H' (λj o' hj=>by
     rw [show k + 1 + j=k + (j + 1) by omega]; exact hl (j + 1) o' (by simpa using hj)) (λj=>by
     have:=ht (j + 1)
     rw [show k + 1 + j=k + (j + 1) by omega,← this]
     simp) (by
     simp only [pt,if_true];rw [hT,hv];simp [dstOf,ho]) (by
     have hcn : chn pl ops k = !quiet pl o.op:=by unfold chn; rw [ho]
     simp only [hs,Bool.true_and,hcn]
     by_cases hqo : quiet pl o.op=true
     ·rw [if_neg (by simp [hqo]),hq hqo]; exact hH
     ·rw [if_pos (by simpa using hqo)]; exact hh) h2
   refine ⟨by simp [e1],λj o1 hj=>?_⟩;cases j with
   | zero => simp only [gCZ] at hj; injection hj with hj; subst hj; exact htold
   | succ j => rw [show k + (j + 1)=k + 1 + j by omega]; exact e2 j o1 (by simpa using hj)
  have h00 : ∀ (r : AV) (H' : AH) (t2 : List (AV × AH)),tl=(r,H') :: t2→zleZ tr k=r∧zbfnZ tr k=H':=by
   intro r H' t2 htl;have h0:=ht 0;rw [htl] at h0;simp only [gCZ,Nat.add_zero] at h0;exact ⟨by unfold zleZ; rw [← h0]; rfl,by unfold zbfnZ; rw [← h0]; rfl⟩
  unfold trace at h;split at h
  ·cases h
  ·rename_i hw
   obtain ⟨t2,h2,rfl⟩:=Option.map_eq_some_iff.1 h;obtain ⟨a1,a2⟩:=h00 _ _ _ rfl;exact step _ _ t2 rfl h2 (λ_=>rfl) ⟨false,by rw [hT]; exact hw,(λ_=>⟨a1,by rw [a2,hH]⟩),(λh=>by cases h)⟩
  ·rename_i hw
   split at h
   ·rename_i r H' hst
    obtain ⟨t2,h2,rfl⟩:=Option.map_eq_some_iff.1 h;obtain ⟨a1,a2⟩:=h00 _ _ _ rfl;exact step r H' t2 rfl h2 (λhq=>(zstZ hp hq hst).1) ⟨true,by rw [hT]; exact hw,(λh=>by cases h),(λ_=>⟨pure,call,hp,hc,by rw [hT,hH,a1,a2]; exact hst⟩)⟩
   ·cases h
theorem frames_get {ops : List Oper} {tr : List (AV × AH)} {T : List AV} : ∀ (l : List Oper) (tl : List (AV × AH)) (k : Nat) (Tk : List AV),(∀ (j : Nat) (o : Oper),l[j]? = some o→ops[k + j]? = some o)→(∀ j,tl[j]? = tr[k + j]?) →
  pt ops (zleZ tr) (λ_=>true) T k=Tk→∀ (j : Nat) (Tj : List AV),(framesOf ops l tl Tk)[j]? = some Tj→Tj=pt ops (zleZ tr) (λ_=>true) T (k + j)
 | [],tl,k,Tk,hl,ht,hT,j,Tj,h => by simp [framesOf] at h
 | o :: l,[],k,Tk,hl,ht,hT,j,Tj,h => by simp [framesOf] at h
 | o :: l,(r,H') :: tl,k,Tk,hl,ht,hT,j,Tj,h => by
  simp only [framesOf] at h;cases j with
  | zero => simp only [gCZ] at h; injection h with h; rw [← h,← hT]; rfl
  | succ j =>
   have ho : ops[k]? = some o:=by simpa using hl 0 o rfl
   have h0:=ht 0;simp only [gCZ,Nat.add_zero] at h0;have hv : zleZ tr k=r:=by unfold zleZ; rw [← h0]; rfl
   rw [show k + (j + 1)=k + 1 + j by omega]
   refine frames_get l tl (k + 1) (aput Tk o.dst r) (λj o' hj=>by
     rw [show k + 1 + j=k + (j + 1) by omega]; exact hl (j + 1) o' (by simpa using hj)) (λj=>by
     have:=ht (j + 1)
     rw [show k + 1 + j=k + (j + 1) by omega,← this]
     simp) (by
     simp only [pt,if_true];rw [hT,hv];simp [dstOf,ho]) j Tj (by simpa using h)
theorem hs_last {pl : FuncId→Bool} {ops : List Oper} {tr : List (AV × AH)} {H : AH} {S : Nat→Bool} : ∀ m,(hs pl ops tr H S m=H∧∀ j,j < m→¬ (S j=true∧chn pl ops j=true)) ∨
  ∃ c,c < m∧S c=true∧chn pl ops c=true∧hs pl ops tr H S m=zbfnZ tr c∧∀ j,c < j→j < m→¬ (S j=true∧chn pl ops j=true)
 | 0 => .inl ⟨rfl,λj h=>by omega⟩
 | m + 1 => by
  simp only [hs]
  by_cases h : S m=true∧chn pl ops m=true
  ·rw [if_pos (by simp [h.1,h.2])]
   exact .inr ⟨m,by omega,h.1,h.2,rfl,λj h1 h2=>by omega⟩
  ·rw [if_neg (by simpa using h)]
   rcases hs_last m with ⟨h1,h2⟩ | ⟨c,h1,h2,h3,h4,h5⟩
   ·refine .inl ⟨h1,λj hj=>?_⟩
    rcases Nat.lt_succ_iff_lt_or_eq.1 hj with hj | rfl
    ·exact h2 j hj
    ·exact h
   ·refine .inr ⟨c,by omega,h2,h3,h4,λj hj1 hj2=>?_⟩
    rcases Nat.lt_succ_iff_lt_or_eq.1 hj2 with hj | rfl
    ·exact h5 j hj1 hj
    ·exact h
theorem zncZ {pl : FuncId→Bool} {ops : List Oper} {tr : List (AV × AH)} {H : AH} {S S' : Nat→Bool} : ∀ m,(∀ j,j < m→chn pl ops j=true→S j=S' j)→hs pl ops tr H S m=hs pl ops tr H S' m
 | 0,_ => rfl
 | m + 1,h => by
  simp only [hs,zncZ m (λj hj=>h j (by omega))];cases hc : chn pl ops m with
  | false => simp
  | true => rw [h m (by omega) hc]
theorem zbftZ {pl : FuncId→Bool} {ops : List Oper} {tr : List (AV × AH)} {H : AH} {S : Nat→Bool} {i : Nat} : ∀ m,i≤m→(∀ j,i≤j→j < m→¬ (S j=true∧chn pl ops j=true))→hs pl ops tr H S m=hs pl ops tr H S i
 | 0,hi,_ => by rw [show i=0 by omega]
 | m + 1,hi,h => by
  rcases Nat.lt_or_ge m i with hlt | hge
  ·rw [show i=m + 1 by omega]
  ·simp only [hs]
   rw [if_neg (by simpa using h m hge (by omega))];exact zbftZ m hge (λj h1 h2=>h j h1 (by omega))
theorem runDraw_ok {pl : FuncId→Bool} {pure : PureFn} (hp : PureOk P pure) {call : zbgmZ} (hc : zbgsZ P call) {id : Nat} {ops : List Oper} {T T' : List AV} {H H' : AH} (h : runDraw P pl pure call ops T H=some (T',H')) {Q : AQ} (hq : Q .normal T' H') : ACode P (.region id ops.toArray true) Q T H:=by
 unfold runDraw at h;split at h
 ·rename_i hb
  simp only [Bool.and_eq_true] at hb;obtain ⟨⟨hm,hord⟩,hch⟩:=hb;split at h
  ·rename_i tr htr
   split at h
   ·rename_i hins
    injection h with h;injection h with h1 h2;obtain ⟨hlen,htold⟩:=trace_told (T:=T) (H:=H) (tr:=tr) hp hc ops tr 0 T H (λj o hj=>by simpa using hj) (λj=>by simp) rfl rfl htr;have hk:=ordOk_ok hord;refine ACode.drawn hm hord (Ω:=Unit) (λ_ _=>True) (λ_=>zleZ tr) (λ_ S=>hs pl ops tr H S ops.length) () trivial ?_ ?_ ?_
    ·rw [zncZ (S':=λ_=>false) _ (λ_ _ _=>rfl)]
     have : ∀ m,hs pl ops tr H (λ_=>false) m=H:=by
      intro m
      induction m with
      | zero => rfl
      | succ m ih => simp only [hs,Bool.false_and,Bool.false_eq_true,if_false]; exact ih
     exact this _
    ·intro _ S i o ⟨ho,hcl,hSi,hmet⟩ _
     have hil:=(gSI.1 ho).1;obtain ⟨b,hw,hw0,hw1⟩:=by simpa using htold i o ho
     have before : ∀ j,(((masks ops []).getD i 0).testBit j=true)→S j=true:=λj hj=>zbeeZ hk.down hcl i o ho hmet j hj
     have behind : ∀ c,S c=true→c < ops.length→((masks ops []).getD c 0).testBit i=true→False:=by
      intro c hc hcl' hbit
      have:=zbeeZ hk.down hcl c _ (gEG hcl') (λe he hb'=>hcl c _ (gEG hcl') hc e he hb') i hbit
      rw [hSi] at this;cases this
     have chain : ∀ c d,c < d→d < ops.length→chn pl ops c=true→chn pl ops d=true→((masks ops []).getD d 0).testBit c=true:=by
      intro c d hcd hd h1 h2
      have:=List.all_eq_true.1 hch _ (zip_mem (gEG hd))
      simp only [h2,Bool.not_true,Bool.false_or] at this
      have:=List.all_eq_true.1 this c (List.mem_range.2 hcd)
      simpa [h1] using this
     have R0 : ∀ (r : AV) (H1 : AH),zleZ tr i=r→hs pl ops tr H (upd S i) ops.length=H1→∃ ω' : Unit,True∧(∀ j,S j=true→zleZ tr j=zleZ tr j)∧zleZ tr i=r∧hs pl ops tr H (upd S i) ops.length=H1 :=
      λr H1 a1 a2=>⟨(),trivial,λ_ _=>rfl,a1,a2⟩
     refine ⟨b,hw,λhb=>?_,λhb=>?_⟩
     ·subst hb
      obtain ⟨pu,cl,hpu,hcl1,hst⟩:=hw1 rfl;cases hqi : quiet pl o.op with
      | true =>
       have hci : chn pl ops i=false:=by unfold chn; rw [ho]; simp [hqi]
       have hsame : hs pl ops tr H (upd S i) ops.length=hs pl ops tr H S ops.length:=by
        refine zncZ _ λj _ hj=>?_
        unfold upd
        split
        ·rename_i he; rw [he,hci] at hj; cases hj
        ·rfl
       obtain ⟨_,hz | ⟨hpo,f,args,hca,hgo,hal⟩ | ⟨hz,hstill,hnp⟩⟩:=zstZ hpu hqi hst
       ·exact .inr (.inl ⟨_,hz,R0 _ _ rfl hsame⟩)
       ·refine .inr (.inr ⟨f,args,hca,hgo,(hal _).mono ?_⟩)
        rintro r' H'' ⟨rfl,rfl⟩;exact R0 _ _ rfl hsame
       ·left
        by_cases hbl : blind o.op=true
        ·exact ⟨_,_,blind_any hbl hstill hz,R0 _ _ rfl hsame⟩
        ·have hi1:=List.all_eq_true.1 hins _ (zip_mem ho)
         simp only [hqi,hnp,Bool.or_false,Bool.not_true,Bool.false_or,Bool.or_eq_true] at hi1;rcases hi1 with hi1 | hi1
         ·exact absurd hi1 hbl
         ·split at hi1
          ·rename_i Ti hTi
           have hTe:=frames_get (T:=T) (tr:=tr) ops tr 0 T (λj o hj=>by simpa using hj) (λj=>by simp) rfl i Ti hTi;rw [Nat.zero_add] at hTe;subst hTe;rw [hw] at hi1;simp only at hi1;have stage : ∀ (c : Option Nat),(c=none∨∃ d,c=some d∧d < ops.length∧chn pl ops d=true)→zbgpZ pl ops (masks ops []) i c=true →
             ∃ H2,aop P (aeval (pt ops (zleZ tr) (λ_=>true) T i)) (match c with | some c => zbfnZ tr c | none => H) o=some (zleZ tr i,H2):=by
            intro c hcc hmm
            have:=List.all_eq_true.1 hi1 c (by
             rcases hcc with rfl | ⟨d,rfl,hd,hcd⟩
             ·simp
             ·simp [List.mem_filter,hd,hcd])
            rw [hmm] at this;simp only [Bool.not_true,Bool.false_or] at this;split at this
            ·rename_i r2 H2 hr2
             rw [← AV.same_ok this];exact ⟨H2,hr2⟩
            ·cases this
           have fin : ∃ H2,aop P (aeval (pt ops (zleZ tr) (λ_=>true) T i)) (hs pl ops tr H S ops.length) o=some (zleZ tr i,H2):=by
            rcases hs_last (ops:=ops) (tr:=tr) (H:=H) (S:=S) ops.length with ⟨e1,e2⟩ | ⟨c,e1,e2,e3,e4,e5⟩
            ·rw [e1]
             refine stage none (.inl rfl) ?_;unfold zbgpZ;simp only [Bool.and_true];refine List.all_eq_true.2 λj hj=>?_
             have hj:=List.mem_range.1 hj;simp only [Bool.or_false,Bool.not_eq_true',Bool.and_eq_false_iff];cases hcj : chn pl ops j with
             | false => exact .inl rfl
             | true =>
              right
              cases hbj : ((masks ops []).getD i 0).testBit j with
              | false => rfl
              | true => exact absurd ⟨before j hbj,hcj⟩ (e2 j hj)
            ·rw [e4]
             refine stage (some c) (.inr ⟨c,rfl,e1,e3⟩) ?_;unfold zbgpZ;simp only [Bool.and_eq_true];refine ⟨List.all_eq_true.2 λj hj=>?_, ?_, ?_⟩
             ·have hj:=List.mem_range.1 hj
              simp only [Bool.or_eq_true,Bool.not_eq_true',Bool.and_eq_false_iff,decide_eq_true_eq];cases hcj : chn pl ops j with
              | false => exact .inl (.inl rfl)
              | true =>
               cases hbj : ((masks ops []).getD i 0).testBit j with
               | false => exact .inl (.inr rfl)
               | true =>
                right
                rcases Nat.lt_or_ge c j with hlt | hge
                ·exact absurd ⟨before j hbj,hcj⟩ (e5 j hlt hj)
                ·exact hge
             ·cases hbc : ((masks ops []).getD c 0).testBit i with
              | false => rfl
              | true => exact (behind c e2 e1 hbc).elim
             ·refine decide_eq_true ?_
              rintro rfl;rw [hSi] at e2;cases e2
           obtain ⟨H2,hH2⟩:=fin
           have:=zbfjZ hstill hH2
           subst this;exact ⟨_,_,hH2,R0 _ _ rfl hsame⟩
          ·cases hi1
      | false =>
       have hci : chn pl ops i=true:=by unfold chn; rw [ho]; simp [hqi]
       have below : ∀ j,j < i→chn pl ops j=true→S j=true:=λj hj hcj=>before j (chain j i hj hil hcj hci)
       have above : ∀ j,i≤j→j < ops.length→¬ (S j=true∧chn pl ops j=true):=by
        rintro j hj hjl ⟨h1,h2⟩;rcases Nat.eq_or_lt_of_le hj with rfl | hlt
        ·rw [hSi] at h1; cases h1
        ·exact behind j h1 hjl (chain i j hlt hjl hci h2)
       have e1 : hs pl ops tr H S ops.length=hs pl ops tr H (λ_=>true) i:=by
        rw [zbftZ ops.length (by omega) above];exact zncZ _ λj hj hcj=>below j hj hcj
       have e2 : hs pl ops tr H (upd S i) ops.length=zbfnZ tr i:=by
        rw [zbftZ (i:=i + 1) ops.length (by omega) (λj h1 h2 h3=>above j (by omega) h2 ⟨by have:=h3.1; unfold upd at this; rwa [if_neg (by omega)] at this,h3.2⟩)];simp only [hs];rw [if_pos (by simp [upd,hci])]
       show AStep P _ (hs pl ops tr H S ops.length) o _
       rw [e1];unfold stepD at hst;split at hst
       ·rename_i hbs; unfold quiet at hqi; simp [hbs] at hqi
       ·have hnp : zyqZ pl o.op=false:=by
         unfold quiet at hqi;simp only [Bool.or_eq_false_iff] at hqi;exact hqi.1.2
        rw [if_neg (by simp [hnp])] at hst;split at hst
        ·rename_i x hx
         injection hst with hst;subst hst;exact .inl ⟨_,_,hx,R0 _ _ rfl e2⟩
        ·split at hst
         ·rename_i f args hcall
          split at hst
          ·rename_i hgo
           refine .inr (.inr ⟨f,args,hcall,hgo,(hcl1 f args _ _ _ hst).mono ?_⟩);rintro r' H'' ⟨rfl,rfl⟩;exact R0 _ _ rfl e2
          ·cases hst
         ·cases hst
     ·subst hb
      obtain ⟨a1,a2⟩:=hw0 rfl;refine R0 _ _ a1 ?_;cases hci : chn pl ops i with
      | false =>
       refine zncZ _ λj _ hj=>?_
       unfold upd
       split
       ·rename_i he; rw [he,hci] at hj; cases hj
       ·rfl
      | true =>
       have below : ∀ j,j < i→chn pl ops j=true→S j=true:=λj hj hcj=>before j (chain j i hj hil hcj hci)
       have above : ∀ j,i≤j→j < ops.length→¬ (S j=true∧chn pl ops j=true):=by
        rintro j hj hjl ⟨h1,h2⟩;rcases Nat.eq_or_lt_of_le hj with rfl | hlt
        ·rw [hSi] at h1; cases h1
        ·exact behind j h1 hjl (chain i j hlt hjl hci h2)
       have e1 : hs pl ops tr H S ops.length=hs pl ops tr H (λ_=>true) i:=by
        rw [zbftZ ops.length (by omega) above];exact zncZ _ λj hj hcj=>below j hj hcj
       rw [zbftZ (i:=i + 1) ops.length (by omega) (λj h1 h2 h3=>above j (by omega) h2 ⟨by have:=h3.1; unfold upd at this; rwa [if_neg (by omega)] at this,h3.2⟩)];simp only [hs];rw [if_pos (by simp [upd,hci]),a2,e1]
    ·intro _ S hall _
     show Q .normal (pt ops (zleZ tr) (λ_=>true) T ops.length) (hs pl ops tr H S ops.length)
     rw [h1,zncZ (S':=λ_=>true) _ (λj hj _=>hall j hj),h2];exact hq
   ·cases h
  ·cases h
 ·cases h
end
end Go.Proofs.YtlhiaihmkjlaaaaGreat.Av
end
section
namespace Go.Proofs.YtlhiaihmkjlaaaaGreat.Av
open Go Go.RowKit
def isOut : Exit→Bool
 | .normal | .ret => true
 | _ => false
section
variable {P : Program}
def BCall (P : Program) (f : FuncId) (args : List AV) (H : AH) (r : AV) (H' : AH) : Prop:=ACalls P f args H λr' H''=>r'=r∧H''=H'
def BPure (P : Program) (f : FuncId) (args : List AV) (r : AV) : Prop:=∀ H,BCall P f args H r H
theorem BPure.of {f : FuncId} {args : List AV} {r0 r : AV} {X : AH} (h : BCall P f args [] r0 X) (hb : zdcZ args=true) {n : Nat} (hf : frz X n r0=some r) : BPure P f args r :=
 λH=>ACalls.pure (R':=λr'=>r'=r) h (zmoZ hb) (λr1 X1 h1=>⟨n,r,by rw [h1.1,h1.2]; exact hf,rfl⟩) H
inductive TraceR (P : Program) (ql : FuncId→Bool) (ops : Array Oper) : List Oper→List AV→AH→List (AV × AH)→List AV→AH→Prop
 | nil (T : List AV) (H : AH) : TraceR P ql ops [] T H [] T H
 | skip {o : Oper} {l : List Oper} {T T' : List AV} {H H' : AH} {tl : List (AV × AH)} (hw : zmbZ ops T o=some false) (hr : TraceR P ql ops l (aput T o.dst zgmZ) H tl T' H') : TraceR P ql ops (o :: l) T H ((zgmZ,H) :: tl) T' H'
 | step {o : Oper} {l : List Oper} {T T' : List AV} {H H1 H' : AH} {r : AV} {tl : List (AV × AH)} (hw : zmbZ ops T o=some true) (hs : ∃ pure call,PureOk P pure∧zbgsZ P call∧stepD P ql pure call T H o=some (r,H1))
   (hr : TraceR P ql ops l (aput T o.dst r) H1 tl T' H') : TraceR P ql ops (o :: l) T H ((r,H1) :: tl) T' H'
theorem traceR_told {ql : FuncId→Bool} {ops : List Oper} {T : List AV} {H : AH} {tr : List (AV × AH)} : ∀ (l : List Oper) (tl : List (AV × AH)) (k : Nat) (Tk : List AV) (Hk : AH) (T' : List AV) (H' : AH),(∀ (j : Nat) (o : Oper),l[j]? = some o→ops[k + j]? = some o)→(∀ j,tl[j]? = tr[k + j]?) →
  pt ops (zleZ tr) (λ_=>true) T k=Tk→hs ql ops tr H (λ_=>true) k=Hk→TraceR P ql ops.toArray l Tk Hk tl T' H' →
  pt ops (zleZ tr) (λ_=>true) T (k + l.length)=T'∧hs ql ops tr H (λ_=>true) (k + l.length)=H'∧∀ (j : Nat) (o : Oper),l[j]? = some o→Told P ql ops tr T H (k + j) o:=by
 intro l
 induction l with
 | nil =>
  intro tl k Tk Hk T' H' hl ht hT hH h;cases h;exact ⟨by simpa using hT,by simpa using hH,λj o hj=>by simp at hj⟩
 | cons o l ih =>
  intro tl k Tk Hk T' H' hl ht hT hH h;have ho : ops[k]? = some o:=by simpa using hl 0 o rfl
  have step : ∀ (r : AV) (H1 : AH) (t2 : List (AV × AH)),tl=(r,H1) :: t2→TraceR P ql ops.toArray l (aput Tk o.dst r) H1 t2 T' H'→(quiet ql o.op=true→H1=Hk)→(Told P ql ops tr T H k o) →
    pt ops (zleZ tr) (λ_=>true) T (k + (o :: l).length)=T'∧hs ql ops tr H (λ_=>true) (k + (o :: l).length)=H'∧∀ (j : Nat) (o1 : Oper),(o :: l)[j]? = some o1→Told P ql ops tr T H (k + j) o1:=by
   intro r H1 t2 htl h2 hq htold;subst htl;have h0:=ht 0;simp only [gCZ,Nat.add_zero] at h0;have hv : zleZ tr k=r:=by unfold zleZ; rw [← h0]; rfl
   have hh : zbfnZ tr k=H1:=by unfold zbfnZ; rw [← h0]; rfl
   obtain ⟨e1,e2,e3⟩:=ih t2 (k + 1) (aput Tk o.dst r) H1 T' H' (λj o' hj=>by
     rw [show k + 1 + j=k + (j + 1) by omega]; exact hl (j + 1) o' (by simpa using hj)) (λj=>by
     have:=ht (j + 1)
     rw [show k + 1 + j=k + (j + 1) by omega,← this]
     simp) (by
     simp only [pt,if_true];rw [hT,hv];simp [dstOf,ho]) (by
     have hcn : chn ql ops k = !quiet ql o.op:=by unfold chn; rw [ho]
     simp only [hs,Bool.true_and,hcn]
     by_cases hqo : quiet ql o.op=true
     ·rw [if_neg (by simp [hqo]),hq hqo]; exact hH
     ·rw [if_pos (by simpa using hqo)]; exact hh) h2
   have hkl : k + (o :: l).length=k + 1 + l.length:=by simp; omega
   rw [hkl];refine ⟨e1,e2,λj o1 hj=>?_⟩;cases j with
   | zero => simp only [gCZ] at hj; injection hj with hj; subst hj; exact htold
   | succ j => rw [show k + (j + 1)=k + 1 + j by omega]; exact e3 j o1 (by simpa using hj)
  have h00 : ∀ (r : AV) (H1 : AH) (t2 : List (AV × AH)),tl=(r,H1) :: t2→zleZ tr k=r∧zbfnZ tr k=H1:=by
   intro r H1 t2 htl;have h0:=ht 0;rw [htl] at h0;simp only [gCZ,Nat.add_zero] at h0;exact ⟨by unfold zleZ; rw [← h0]; rfl,by unfold zbfnZ; rw [← h0]; rfl⟩
  cases h with
  | skip hw hr =>
   obtain ⟨a1,a2⟩:=h00 _ _ _ rfl;exact step _ _ _ rfl hr (λ_=>rfl) ⟨false,by rw [hT]; exact hw,(λ_=>⟨a1,by rw [a2,hH]⟩),(λh=>by cases h)⟩
  | step hw hs hr =>
   obtain ⟨pu,cl,hp,hc,hst⟩:=hs;obtain ⟨a1,a2⟩:=h00 _ _ _ rfl;exact step _ _ _ rfl hr (λhq=>(zstZ hp hq hst).1) ⟨true,by rw [hT]; exact hw,(λh=>by cases h),(λ_=>⟨pu,cl,hp,hc,by rw [hT,hH,a1,a2]; exact hst⟩)⟩
theorem blind_quiet {ql : FuncId→Bool} {op : Op} (h : blind op=true) : quiet ql op=true:=by
 cases op <;> first
  | rfl
  | cases h
def fixOk (ql : FuncId→Bool) (ops : List Oper) : Bool :=
 let b:=masks ops []
 ops.zipIdx.all λp=>blind p.1.op || zyqZ ql p.1.op || (List.range ops.length).all λj=>!(chn ql ops j) || decide (j=p.2) || (b.getD (max p.2 j) 0).testBit (min p.2 j)
theorem drawn_told {ql : FuncId→Bool} {id : Nat} {ops : List Oper} {T : List AV} {H : AH} {tr : List (AV × AH)} (hm : P.follows .mixedOrders=true) (hord : ordOk ops=true) (hfix : fixOk ql ops=true)
  (htold : ∀ (i : Nat) (o : Oper),ops[i]? = some o→Told P ql ops tr T H i o) {Q : AQ} (hq : Q .normal (pt ops (zleZ tr) (λ_=>true) T ops.length) (hs ql ops tr H (λ_=>true) ops.length)) : ACode P (.region id ops.toArray true) Q T H:=by
 have hk:=ordOk_ok hord;refine ACode.drawn hm hord (Ω:=Unit) (λ_ _=>True) (λ_=>zleZ tr) (λ_ S=>hs ql ops tr H S ops.length) () trivial ?_ ?_ ?_
 ·rw [zncZ (S':=λ_=>false) _ (λ_ _ _=>rfl)]
  have : ∀ m,hs ql ops tr H (λ_=>false) m=H:=by
   intro m
   induction m with
   | zero => rfl
   | succ m ih => simp only [hs,Bool.false_and,Bool.false_eq_true,if_false]; exact ih
  exact this _
 ·intro _ S i o ⟨ho,hcl,hSi,hmet⟩ _
  have hil:=(gSI.1 ho).1;obtain ⟨b,hw,hw0,hw1⟩:=htold i o ho;have before : ∀ j,(((masks ops []).getD i 0).testBit j=true)→S j=true:=λj hj=>zbeeZ hk.down hcl i o ho hmet j hj
  have behind : ∀ c,S c=true→c < ops.length→((masks ops []).getD c 0).testBit i=true→False:=by
   intro c hc hcl' hbit
   have:=zbeeZ hk.down hcl c _ (gEG hcl') (λe he hb'=>hcl c _ (gEG hcl') hc e he hb') i hbit
   rw [hSi] at this;cases this
  have R0 : ∀ (r : AV) (H1 : AH),zleZ tr i=r→hs ql ops tr H (upd S i) ops.length=H1→∃ ω' : Unit,True∧(∀ j,S j=true→zleZ tr j=zleZ tr j)∧zleZ tr i=r∧hs ql ops tr H (upd S i) ops.length=H1 :=
   λr H1 a1 a2=>⟨(),trivial,λ_ _=>rfl,a1,a2⟩
  have still : chn ql ops i=false→hs ql ops tr H (upd S i) ops.length=hs ql ops tr H S ops.length:=by
   intro hci;refine zncZ _ λj _ hj=>?_
   unfold upd
   split
   ·rename_i he; rw [he,hci] at hj; cases hj
   ·rfl
  have fixed : (∀ j,j < ops.length→chn ql ops j=true→j ≠ i→((masks ops []).getD (max i j) 0).testBit (min i j)=true)→hs ql ops tr H S ops.length=hs ql ops tr H (λ_=>true) i ∧
    (∀ j,i≤j→j < ops.length→¬ (S j=true∧chn ql ops j=true)):=by
   intro hf
   have above : ∀ j,i≤j→j < ops.length→¬ (S j=true∧chn ql ops j=true):=by
    rintro j hj hjl ⟨h1,h2⟩;rcases Nat.eq_or_lt_of_le hj with rfl | hlt
    ·rw [hSi] at h1; cases h1
    ·have:=hf j hjl h2 (by omega)
     rw [Nat.max_eq_right (by omega),Nat.min_eq_left (by omega)] at this;exact behind j h1 hjl this
   refine ⟨?_,above⟩;rw [zbftZ ops.length (by omega) above];refine zncZ _ λj hj hcj=>?_
   have:=hf j (by omega) hcj (by omega)
   rw [Nat.max_eq_left (by omega),Nat.min_eq_right (by omega)] at this;exact before j this
  have hfx:=List.all_eq_true.1 hfix _ (zip_mem ho);simp only [Bool.or_eq_true] at hfx
  have unfix : (blind o.op=false∧zyqZ ql o.op=false)→∀ j,j < ops.length→chn ql ops j=true→j ≠ i→((masks ops []).getD (max i j) 0).testBit (min i j)=true:=by
   rintro ⟨h1,h2⟩ j hj hcj hne;rcases hfx with (h | h) | h
   ·rw [h1] at h; cases h
   ·rw [h2] at h; cases h
   ·have:=List.all_eq_true.1 h j (List.mem_range.2 hj)
    simpa [hcj,hne] using this
  have chNot : chn ql ops i=true→blind o.op=false∧zyqZ ql o.op=false∧quiet ql o.op=false:=by
   intro hci;have hq0 : quiet ql o.op=false:=by unfold chn at hci; rw [ho] at hci; simpa using hci
   refine ⟨?_, ?_,hq0⟩
   ·cases hb : blind o.op with
    | false => rfl
    | true =>
     exfalso
     rw [blind_quiet hb] at hq0;cases hq0
   ·unfold quiet at hq0
    simp only [Bool.or_eq_false_iff] at hq0;exact hq0.1.2
  have e2 : chn ql ops i=true→hs ql ops tr H (upd S i) ops.length=zbfnZ tr i:=by
   intro hci;obtain ⟨c1,c2,-⟩:=chNot hci;obtain ⟨-,above⟩:=fixed (unfix ⟨c1,c2⟩);rw [zbftZ (i:=i + 1) ops.length (by omega) (λj h1 h2 h3=>above j (by omega) h2 ⟨by have:=h3.1; unfold upd at this; rwa [if_neg (by omega)] at this,h3.2⟩)];simp only [hs];rw [if_pos (by simp [upd,hci])]
  refine ⟨b,hw,λhb=>?_,λhb=>?_⟩
  ·subst hb
   obtain ⟨pu,cl,hpu,hcl1,hst⟩:=hw1 rfl;cases hqi : quiet ql o.op with
   | true =>
    have hci : chn ql ops i=false:=by unfold chn; rw [ho]; simp [hqi]
    obtain ⟨_,hz | ⟨hpo,f,args,hca,hgo,hal⟩ | ⟨hz,hstill,hnp⟩⟩:=zstZ hpu hqi hst
    ·exact .inr (.inl ⟨_,hz,R0 _ _ rfl (still hci)⟩)
    ·refine .inr (.inr ⟨f,args,hca,hgo,(hal _).mono ?_⟩)
     rintro r' H'' ⟨rfl,rfl⟩;exact R0 _ _ rfl (still hci)
    ·left
     by_cases hbl : blind o.op=true
     ·exact ⟨_,_,blind_any hbl hstill hz,R0 _ _ rfl (still hci)⟩
     ·have:=(fixed (unfix ⟨by simpa using hbl,hnp⟩)).1
      refine ⟨_,_, ?_,R0 _ _ rfl (still hci)⟩
      show aop P _ (hs ql ops tr H S ops.length) o=_
      rw [this];exact hz
   | false =>
    have hci : chn ql ops i=true:=by unfold chn; rw [ho]; simp [hqi]
    obtain ⟨c1,c2,-⟩:=chNot hci;have e1:=(fixed (unfix ⟨c1,c2⟩)).1
    show AStep P _ (hs ql ops tr H S ops.length) o _
    rw [e1];unfold stepD at hst;split at hst
    ·rename_i hbs; unfold quiet at hqi; simp [hbs] at hqi
    ·rw [if_neg (by simp [c2])] at hst
     split at hst
     ·rename_i x hx
      injection hst with hst;subst hst;exact .inl ⟨_,_,hx,R0 _ _ rfl (e2 hci)⟩
     ·split at hst
      ·rename_i f args hcall
       split at hst
       ·rename_i hgo
        refine .inr (.inr ⟨f,args,hcall,hgo,(hcl1 f args _ _ _ hst).mono ?_⟩);rintro r' H'' ⟨rfl,rfl⟩;exact R0 _ _ rfl (e2 hci)
       ·cases hst
      ·cases hst
  ·subst hb
   obtain ⟨a1,a2⟩:=hw0 rfl;refine R0 _ _ a1 ?_;cases hci : chn ql ops i with
   | false => exact still hci
   | true =>
    obtain ⟨c1,c2,-⟩:=chNot hci;rw [e2 hci,a2];exact (fixed (unfix ⟨c1,c2⟩)).1.symm
 ·intro _ S hall _
  show Q .normal (pt ops (zleZ tr) (λ_=>true) T ops.length) (hs ql ops tr H S ops.length)
  rw [zncZ (S':=λ_=>true) _ (λj hj _=>hall j hj)];exact hq
theorem drawn_ins {pl : FuncId→Bool} {id : Nat} {ops : List Oper} {T : List AV} {H : AH} {tr : List (AV × AH)} (hm : P.follows .mixedOrders=true) (hord : ordOk ops=true) (hch : chainOk pl ops=true)
    (htold : ∀ (i : Nat) (o : Oper),ops[i]? = some o→Told P pl ops tr T H i o)
    (hins : ∀ (i : Nat) (o : Oper),ops[i]? = some o→quiet pl o.op=true→blind o.op=false→zyqZ pl o.op=false→zmbZ ops.toArray (pt ops (zleZ tr) (λ_=>true) T i) o=some true →
      ∀ (c : Option Nat),(c=none∨∃ d,c=some d∧d < ops.length∧chn pl ops d=true)→zbgpZ pl ops (masks ops []) i c=true →
        ∃ H2,aop P (aeval (pt ops (zleZ tr) (λ_=>true) T i)) (match c with | some c => zbfnZ tr c | none => H) o=some (zleZ tr i,H2))
    {Q : AQ} (hq : Q .normal (pt ops (zleZ tr) (λ_=>true) T ops.length) (hs pl ops tr H (λ_=>true) ops.length)) : ACode P (.region id ops.toArray true) Q T H:=by
  have hk:=ordOk_ok hord;refine ACode.drawn hm hord (Ω:=Unit) (λ_ _=>True) (λ_=>zleZ tr) (λ_ S=>hs pl ops tr H S ops.length) () trivial ?_ ?_ ?_
  · rw [zncZ (S':=λ_=>false) _ (λ_ _ _=>rfl)]
    have : ∀ m,hs pl ops tr H (λ_=>false) m=H:=by
      intro m
      induction m with
      | zero => rfl
      | succ m ih => simp only [hs,Bool.false_and,Bool.false_eq_true,if_false]; exact ih
    exact this _
  · intro _ S i o ⟨ho,hcl,hSi,hmet⟩ _;have hil:=(gSI.1 ho).1;obtain ⟨b,hw,hw0,hw1⟩:=htold i o ho;have before : ∀ j,(((masks ops []).getD i 0).testBit j=true)→S j=true:=λj hj=>zbeeZ hk.down hcl i o ho hmet j hj
    have behind : ∀ c,S c=true→c < ops.length→((masks ops []).getD c 0).testBit i=true→False:=by
      intro c hc hcl' hbit
      have:=zbeeZ hk.down hcl c _ (gEG hcl') (λe he hb'=>hcl c _ (gEG hcl') hc e he hb') i hbit
      rw [hSi] at this;cases this
    have chain : ∀ c d,c < d→d < ops.length→chn pl ops c=true→chn pl ops d=true→((masks ops []).getD d 0).testBit c=true:=by
      intro c d hcd hd h1 h2
      have:=List.all_eq_true.1 hch _ (zip_mem (gEG hd))
      simp only [h2,Bool.not_true,Bool.false_or] at this
      have:=List.all_eq_true.1 this c (List.mem_range.2 hcd)
      simpa [h1] using this
    have R0 : ∀ (r : AV) (H1 : AH),zleZ tr i=r→hs pl ops tr H (upd S i) ops.length=H1→∃ ω' : Unit,True∧(∀ j,S j=true→zleZ tr j=zleZ tr j)∧zleZ tr i=r∧hs pl ops tr H (upd S i) ops.length=H1 :=
      λr H1 a1 a2=>⟨(),trivial,λ_ _=>rfl,a1,a2⟩
    refine ⟨b,hw,λhb=>?_,λhb=>?_⟩
    · subst hb;obtain ⟨pu,cl,hpu,hcl1,hst⟩:=hw1 rfl;cases hqi : quiet pl o.op with
      | true =>
        have hci : chn pl ops i=false:=by unfold chn; rw [ho]; simp [hqi]
        have hsame : hs pl ops tr H (upd S i) ops.length=hs pl ops tr H S ops.length:=by
          refine zncZ _ λj _ hj=>?_
          unfold upd
          split
          · rename_i he; rw [he,hci] at hj; cases hj
          · rfl
        obtain ⟨_,hz | ⟨hpo,f,args,hca,hgo,hal⟩ | ⟨hz,hstill,hnp⟩⟩:=zstZ hpu hqi hst
        · exact .inr (.inl ⟨_,hz,R0 _ _ rfl hsame⟩)
        · refine .inr (.inr ⟨f,args,hca,hgo,(hal _).mono ?_⟩);rintro r' H'' ⟨rfl,rfl⟩;exact R0 _ _ rfl hsame
        · left
          by_cases hbl : blind o.op=true
          · exact ⟨_,_,blind_any hbl hstill hz,R0 _ _ rfl hsame⟩
          · have stage : ∀ (c : Option Nat), (c = none ∨ ∃ d, c = some d ∧ d < ops.length ∧ chn pl ops d = true) → zbgpZ pl ops (masks ops []) i c = true →
                ∃ H2,aop P (aeval (pt ops (zleZ tr) (λ_=>true) T i)) (match c with | some c => zbfnZ tr c | none => H) o=some (zleZ tr i,H2):=hins i o ho hqi (by simpa using hbl) hnp hw
            have fin : ∃ H2,aop P (aeval (pt ops (zleZ tr) (λ_=>true) T i)) (hs pl ops tr H S ops.length) o=some (zleZ tr i,H2):=by
              rcases hs_last (ops:=ops) (tr:=tr) (H:=H) (S:=S) ops.length with ⟨e1,e2⟩ | ⟨c,e1,e2,e3,e4,e5⟩
              · rw [e1];refine stage none (.inl rfl) ?_;unfold zbgpZ;simp only [Bool.and_true];refine List.all_eq_true.2 λj hj=>?_
                have hj:=List.mem_range.1 hj;simp only [Bool.or_false,Bool.not_eq_true',Bool.and_eq_false_iff];cases hcj : chn pl ops j with
                | false => exact .inl rfl
                | true =>
                  right
                  cases hbj : ((masks ops []).getD i 0).testBit j with
                  | false => rfl
                  | true => exact absurd ⟨before j hbj,hcj⟩ (e2 j hj)
              · rw [e4];refine stage (some c) (.inr ⟨c,rfl,e1,e3⟩) ?_;unfold zbgpZ;simp only [Bool.and_eq_true];refine ⟨List.all_eq_true.2 λj hj=>?_, ?_, ?_⟩
                · have hj:=List.mem_range.1 hj;simp only [Bool.or_eq_true,Bool.not_eq_true',Bool.and_eq_false_iff,decide_eq_true_eq];cases hcj : chn pl ops j with
                  | false => exact .inl (.inl rfl)
                  | true =>
                    cases hbj : ((masks ops []).getD i 0).testBit j with
                    | false => exact .inl (.inr rfl)
                    | true =>
                      right
                      rcases Nat.lt_or_ge c j with hlt | hge
                      · exact absurd ⟨before j hbj,hcj⟩ (e5 j hlt hj)
                      · exact hge
                · cases hbc : ((masks ops []).getD c 0).testBit i with
                  | false => rfl
                  | true => exact (behind c e2 e1 hbc).elim
                · refine decide_eq_true ?_;rintro rfl;rw [hSi] at e2;cases e2
            obtain ⟨H2,hH2⟩:=fin
            have:=zbfjZ hstill hH2
            subst this;exact ⟨_,_,hH2,R0 _ _ rfl hsame⟩
      | false =>
        have hci : chn pl ops i=true:=by unfold chn; rw [ho]; simp [hqi]
        have below : ∀ j,j < i→chn pl ops j=true→S j=true:=λj hj hcj=>before j (chain j i hj hil hcj hci)
        have above : ∀ j,i≤j→j < ops.length→¬ (S j=true∧chn pl ops j=true):=by
          rintro j hj hjl ⟨h1,h2⟩;rcases Nat.eq_or_lt_of_le hj with rfl | hlt
          · rw [hSi] at h1; cases h1
          · exact behind j h1 hjl (chain i j hlt hjl hci h2)
        have e1 : hs pl ops tr H S ops.length=hs pl ops tr H (λ_=>true) i:=by
          rw [zbftZ ops.length (by omega) above];exact zncZ _ λj hj hcj=>below j hj hcj
        have e2 : hs pl ops tr H (upd S i) ops.length=zbfnZ tr i:=by
          rw [zbftZ (i:=i + 1) ops.length (by omega) (λj h1 h2 h3=>above j (by omega) h2 ⟨by have:=h3.1; unfold upd at this; rwa [if_neg (by omega)] at this,h3.2⟩)];simp only [hs];rw [if_pos (by simp [upd,hci])]
        show AStep P _ (hs pl ops tr H S ops.length) o _
        rw [e1];unfold stepD at hst;split at hst
        · rename_i hbs; unfold quiet at hqi; simp [hbs] at hqi
        · have hnp : zyqZ pl o.op=false:=by
            unfold quiet at hqi;simp only [Bool.or_eq_false_iff] at hqi;exact hqi.1.2
          rw [if_neg (by simp [hnp])] at hst;split at hst
          · rename_i x hx;injection hst with hst;subst hst;exact .inl ⟨_,_,hx,R0 _ _ rfl e2⟩
          · split at hst
            · rename_i f args hcall;split at hst
              · rename_i hgo;refine .inr (.inr ⟨f,args,hcall,hgo,(hcl1 f args _ _ _ hst).mono ?_⟩);rintro r' H'' ⟨rfl,rfl⟩;exact R0 _ _ rfl e2
              · cases hst
            · cases hst
    · subst hb;obtain ⟨a1,a2⟩:=hw0 rfl;refine R0 _ _ a1 ?_;cases hci : chn pl ops i with
      | false =>
        refine zncZ _ λj _ hj=>?_
        unfold upd
        split
        · rename_i he; rw [he,hci] at hj; cases hj
        · rfl
      | true =>
        have below : ∀ j,j < i→chn pl ops j=true→S j=true:=λj hj hcj=>before j (chain j i hj hil hcj hci)
        have above : ∀ j,i≤j→j < ops.length→¬ (S j=true∧chn pl ops j=true):=by
          rintro j hj hjl ⟨h1,h2⟩;rcases Nat.eq_or_lt_of_le hj with rfl | hlt
          · rw [hSi] at h1; cases h1
          · exact behind j h1 hjl (chain i j hlt hjl hci h2)
        have e1 : hs pl ops tr H S ops.length=hs pl ops tr H (λ_=>true) i:=by
          rw [zbftZ ops.length (by omega) above];exact zncZ _ λj hj hcj=>below j hj hcj
        rw [zbftZ (i:=i + 1) ops.length (by omega) (λj h1 h2 h3=>above j (by omega) h2 ⟨by have:=h3.1; unfold upd at this; rwa [if_neg (by omega)] at this,h3.2⟩)];simp only [hs];rw [if_pos (by simp [upd,hci]),a2,e1]
  · intro _ S hall _
    show Q .normal (pt ops (zleZ tr) (λ_=>true) T ops.length) (hs pl ops tr H S ops.length)
    rw [zncZ (S':=λ_=>true) _ (λj hj _=>hall j hj)];exact hq
def wCall (P : Program) (ql : FuncId→Bool) (dr : Bool) (ρ : Operand→AV) (o : Oper) (H : AH) (r : AV) (H' : AH) : Prop :=
 match acall ρ o with
 | some (k,args) => zbchZ P k=true∧if dr && zyqZ ql o.op then BPure P k args r∧H'=H else BCall P k args H r H'
 | none => False
def isBS : Op→Bool
 | .buildSlice .. => true
 | _ => false
def opD (P : Program) (dr : Bool) (ρ : Operand→AV) (H : AH) (o : Oper) : Option (AV × AH) :=
 if dr && isBS o.op then (zbdkZ P ρ o).map (·,H) else aop P ρ H o
def wOps (P : Program) (ql : FuncId→Bool) (dr : Bool) (ops : Array Oper) : List Oper→List AV→AH→(List AV→AH→Prop)→Prop
 | [],T,H,K => K T H
 | o :: l,T,H,K => match zmbZ ops T o with
  | none => False
  | some false => wOps P ql dr ops l (aput T o.dst zgmZ) H K
  | some true => match opD P dr (aeval T) H o with
   | some (r,H') => wOps P ql dr ops l (aput T o.dst r) H' K
   | none => ∃ r H',wCall P ql dr (aeval T) o H r H'∧wOps P ql dr ops l (aput T o.dst r) H' K
theorem zbfoZ {ql : FuncId→Bool} {ops : Array Oper} : ∀ (l : List Oper) (T : List AV) (H : AH) (K : List AV→AH→Prop),wOps P ql false ops l T H K→∃ T' H',K T' H'∧AOps P ops (AQ.is (.normal,T',H')) l T H
 | [],T,H,K,h => ⟨T,H,h,AOps.nil rfl⟩
 | o :: l,T,H,K,h => by
  unfold wOps at h;split at h
  ·exact h.elim
  ·rename_i hw
   obtain ⟨T',H',hk,ha⟩:=zbfoZ l _ _ K h;exact ⟨T',H',hk,AOps.unwanted hw ha⟩
  ·rename_i hw
   split at h
   ·rename_i r H1 ho
    obtain ⟨T',H',hk,ha⟩:=zbfoZ l _ _ K h;exact ⟨T',H',hk,AOps.op hw (by simpa [opD] using ho) ha⟩
   ·obtain ⟨r,H1,hc,h⟩:=h
    obtain ⟨T',H',hk,ha⟩:=zbfoZ l _ _ K h;unfold wCall at hc;split at hc
    ·rename_i k args hcall
     simp only [Bool.false_and,Bool.false_eq_true,if_false] at hc;refine ⟨T',H',hk,AOps.call hw hcall hc.1 (hc.2.mono ?_)⟩;rintro r' H'' ⟨rfl,rfl⟩;exact ha
    ·exact hc.elim
theorem opD_none {dr : Bool} {T : List AV} {H : AH} {o : Oper} {q : FuncId × List AV} (hc : acall (aeval T) o=some q) : aop P (aeval T) H o=none∧isBS o.op=false:=by
 obtain ⟨dst,op,type,pos,after,guard⟩:=o;unfold acall at hc;split at hc
 ·rename_i hop
  simp only at hop;subst hop;exact ⟨rfl,rfl⟩
 ·cases hc
theorem wOps_draw {ql : FuncId→Bool} {ops : Array Oper} : ∀ (l : List Oper) (T : List AV) (H : AH) (K : List AV→AH→Prop),wOps P ql true ops l T H K→∃ tl T' H',K T' H'∧TraceR P ql ops l T H tl T' H'
 | [],T,H,K,h => ⟨[],T,H,h,.nil _ _⟩
 | o :: l,T,H,K,h => by
  have none_ok : PureOk P (λ_ _=>none):=λ_ _ _ h=>by cases h
  have none_ok' : zbgsZ P (λ_ _ _=>none):=λ_ _ _ _ _ h=>by cases h
  unfold wOps at h;split at h
  ·exact h.elim
  ·rename_i hw
   obtain ⟨tl,T',H',hk,ha⟩:=wOps_draw l _ _ K h;exact ⟨_,T',H',hk,.skip hw ha⟩
  ·rename_i hw
   split at h
   ·rename_i r H1 ho
    obtain ⟨tl,T',H',hk,ha⟩:=wOps_draw l _ _ K h;refine ⟨_,T',H',hk,.step hw ⟨λ_ _=>none,λ_ _ _=>none,none_ok,none_ok', ?_⟩ ha⟩;unfold opD at ho;simp only [Bool.true_and] at ho;unfold stepD;split at ho
    ·rename_i hbs
     split
     ·exact ho
     ·rename_i hne
      exfalso
      revert hbs
      unfold isBS
      split
      ·rename_i h1; exact λ_=>hne _ _ _ h1
      ·simp
    ·rename_i hbs
     split
     ·rename_i h1; rw [h1] at hbs; simp [isBS] at hbs
     ·have hnp : zyqZ ql o.op=false:=by
       cases hpo : zyqZ ql o.op with
       | false => rfl
       | true =>
        exfalso
        obtain ⟨dst,op,type,pos,after,guard⟩:=o;unfold zyqZ at hpo;split at hpo
        ·rename_i hop; simp only at hop; subst hop; cases ho
        ·cases hpo
      rw [if_neg (by simp [hnp]),ho]
   ·obtain ⟨r,H1,hc,h⟩:=h
    obtain ⟨tl,T',H',hk,ha⟩:=wOps_draw l _ _ K h;unfold wCall at hc;split at hc
    ·rename_i k args hcall
     obtain ⟨hgo,hc⟩:=hc;obtain ⟨n1,n2⟩:=opD_none (P:=P) (dr:=true) (H:=H) hcall;simp only [Bool.true_and] at hc;split at hc
     ·rename_i hpo
      obtain ⟨hp,rfl⟩:=hc
      classical
      refine ⟨_,T',H',hk,.step hw ⟨λf a=>if f=k∧a=args then some r else none,λ_ _ _=>none, ?_,none_ok', ?_⟩ ha⟩
      ·intro f a r1 h1
       dsimp only at h1
       split at h1
       ·rename_i he
        injection h1 with h1;obtain ⟨rfl,rfl⟩:=he;subst h1;exact ⟨hgo,hp⟩
       ·cases h1
      ·unfold stepD
       split
       ·rename_i h1; rw [h1] at n2; cases n2
       ·rw [if_pos hpo,hcall]
        simp
     ·rename_i hpo
      classical
      refine ⟨_,T',H',hk,.step hw ⟨λ_ _=>none,λf a H2=>if f=k∧a=args∧H2=H then some (r,H1) else none,none_ok, ?_, ?_⟩ ha⟩
      ·intro f a H2 r1 H3 h1
       dsimp only at h1
       split at h1
       ·rename_i he
        injection h1 with h1;injection h1 with h1 h2;obtain ⟨rfl,rfl,rfl⟩:=he;subst h1; subst h2;exact hc
       ·cases h1
      ·unfold stepD
       split
       ·rename_i h1; rw [h1] at n2; cases n2
       ·rw [if_neg hpo,n1,hcall]
        simp [hgo]
    ·exact hc.elim
def lastCh (ql : FuncId→Bool) (ops : List Oper) : Nat→Option Nat
 | 0 => none
 | m + 1 => if chn ql ops m then some m else lastCh ql ops m
theorem hs_lastCh {ql : FuncId→Bool} {ops : List Oper} {tr : List (AV × AH)} {H : AH} : ∀ m,hs ql ops tr H (λ_=>true) m=match lastCh ql ops m with
  | some c => zbfnZ tr c
  | none => H
 | 0 => rfl
 | m + 1 => by
  simp only [hs,lastCh,Bool.true_and]
  by_cases h : chn ql ops m=true
  ·rw [if_pos h,if_pos h]
  ·rw [if_neg h,if_neg h]; exact hs_lastCh m
def floats (ql : FuncId→Bool) (ops : List Oper) : List (Nat × Option Nat) :=
 let b:=masks ops []
 let stages:=none :: ((List.range ops.length).filter (chn ql ops)).map some
 (List.range ops.length).flatMap λi=>match ops[i]? with
  | some o => if quiet ql o.op && !blind o.op && !zyqZ ql o.op then (stages.filter λc=>zbgpZ ql ops b i c && decide (c ≠ lastCh ql ops i)).map (i,·) else []
  | none => []
def FloatsOk (P : Program) (ops : Array Oper) (H : AH) (lg : List (List AV × AH × AV)) : List (Nat × Option Nat)→Prop
 | [] => True
 | (i,c) :: r => (match ops[i]?,lg[i]? with
  | some o,some (Ti,_,v) => zmbZ ops Ti o=some true→(aop P (aeval Ti) (match c with
   | some c => ((lg[c]?).map (·.2.1)).getD []
   | none => H) o).map Prod.fst=some v
  | _,_ => False)∧FloatsOk P ops H lg r
theorem FloatsOk.mem {ops : Array Oper} {H : AH} {lg : List (List AV × AH × AV)} : ∀ {fl : List (Nat × Option Nat)},FloatsOk P ops H lg fl→∀ {i : Nat} {c : Option Nat},(i,c) ∈ fl→∃ o Ti h v,ops[i]? = some o∧lg[i]? = some (Ti,h,v) ∧
  (zmbZ ops Ti o=some true→(aop P (aeval Ti) (match c with
   | some c => ((lg[c]?).map (·.2.1)).getD []
   | none => H) o).map Prod.fst=some v)
 | (i,c) :: r,h,j,d,hm => by
  simp only [FloatsOk] at h;rcases List.mem_cons.1 hm with he | hm
  ·injection he with h1 h2
   subst h1; subst h2;have h1:=h.1;split at h1
   ·rename_i o Ti hh v ho hl
    exact ⟨o,Ti,hh,v,ho,hl,h1⟩
   ·exact h1.elim
  ·exact h.2.mem hm
def logOf : List Oper→List (AV × AH)→List AV→List (List AV × AH × AV)
 | o :: l,(r,h) :: tr,T => (T,h,r) :: logOf l tr (aput T o.dst r)
 | _,_,_ => []
theorem logOf_get {ops : List Oper} {tr : List (AV × AH)} {T : List AV} : ∀ (l : List Oper) (tl : List (AV × AH)) (k : Nat) (Tk : List AV),(∀ (j : Nat) (o : Oper),l[j]? = some o→ops[k + j]? = some o)→(∀ j,tl[j]? = tr[k + j]?) →
  pt ops (zleZ tr) (λ_=>true) T k=Tk→∀ (j : Nat) (x : List AV × AH × AV),(logOf l tl Tk)[j]? = some x→x=(pt ops (zleZ tr) (λ_=>true) T (k + j),zbfnZ tr (k + j),zleZ tr (k + j))
 | [],tl,k,Tk,hl,ht,hT,j,x,h => by simp [logOf] at h
 | o :: l,[],k,Tk,hl,ht,hT,j,x,h => by simp [logOf] at h
 | o :: l,(r,H') :: tl,k,Tk,hl,ht,hT,j,x,h => by
  simp only [logOf] at h;have h0:=ht 0;simp only [gCZ,Nat.add_zero] at h0;have hv : zleZ tr k=r:=by unfold zleZ; rw [← h0]; rfl
  have hh : zbfnZ tr k=H':=by unfold zbfnZ; rw [← h0]; rfl
  cases j with
  | zero => simp only [gCZ] at h; injection h with h; rw [← h,Nat.add_zero,hT,hv,hh]
  | succ j =>
   have ho : ops[k]? = some o:=by simpa using hl 0 o rfl
   rw [show k + (j + 1)=k + 1 + j by omega]
   refine logOf_get l tl (k + 1) (aput Tk o.dst r) (λj o' hj=>by
     rw [show k + 1 + j=k + (j + 1) by omega]; exact hl (j + 1) o' (by simpa using hj)) (λj=>by
     have:=ht (j + 1)
     rw [show k + 1 + j=k + (j + 1) by omega,← this]
     simp) (by
     simp only [pt,if_true];rw [hT,hv];simp [dstOf,ho]) j x (by simpa using h)
theorem logOf_len {ql : FuncId→Bool} {ops : Array Oper} {l : List Oper} {T T' : List AV} {H H' : AH} {tl : List (AV × AH)} (h : TraceR P ql ops l T H tl T' H') : (logOf l tl T).length=l.length:=by
 induction h with
 | nil => rfl
 | skip hw hr ih => simp only [logOf,List.length_cons,ih]
 | step hw hs hr ih => simp only [logOf,List.length_cons,ih]
def wOpsD (P : Program) (ql : FuncId→Bool) (ops : Array Oper) (H0 : AH) (fl : List (Nat × Option Nat)) : List Oper→List AV→AH→List (List AV × AH × AV)→(List AV→AH→Prop)→Prop
 | [],T,H,lg,K => FloatsOk P ops H0 lg.reverse fl∧K T H
 | o :: l,T,H,lg,K => match zmbZ ops T o with
  | none => False
  | some false => wOpsD P ql ops H0 fl l (aput T o.dst zgmZ) H ((T,H,zgmZ) :: lg) K
  | some true => match opD P true (aeval T) H o with
   | some (r,H') => wOpsD P ql ops H0 fl l (aput T o.dst r) H' ((T,H',r) :: lg) K
   | none => ∃ r H',wCall P ql true (aeval T) o H r H'∧wOpsD P ql ops H0 fl l (aput T o.dst r) H' ((T,H',r) :: lg) K
theorem wOpsD_ok {ql : FuncId→Bool} {ops : Array Oper} {H0 : AH} {fl : List (Nat × Option Nat)} : ∀ (l : List Oper) (T : List AV) (H : AH) (lg : List (List AV × AH × AV)) (K : List AV→AH→Prop),wOpsD P ql ops H0 fl l T H lg K →
  ∃ tl T' H',K T' H'∧TraceR P ql ops l T H tl T' H'∧FloatsOk P ops H0 (lg.reverse ++ logOf l tl T) fl
 | [],T,H,lg,K,h => ⟨[],T,H,h.2,.nil _ _,by simpa [logOf] using h.1⟩
 | o :: l,T,H,lg,K,h => by
  unfold wOpsD at h;split at h
  ·exact h.elim
  ·rename_i hw
   obtain ⟨tl,T',H',hk,ha,hf⟩:=wOpsD_ok l _ _ _ K h;exact ⟨_,T',H',hk,.skip hw ha,by simpa [logOf] using hf⟩
  ·rename_i hw
   split at h
   ·rename_i r H1 ho
    obtain ⟨tl,T',H',hk,ha,hf⟩:=wOpsD_ok l _ _ _ K h;obtain ⟨tl1,T1,H2,h1,h2⟩:=wOps_draw (P:=P) (ql:=ql) (ops:=ops) [o] T H (λT' H'=>T'=aput T o.dst r∧H'=H1) (by unfold wOps; rw [hw]; simp only [ho]; unfold wOps; exact ⟨rfl,rfl⟩);cases h2 with
    | skip hw' _ => rw [hw] at hw'; cases hw'
    | step hw' hs hr =>
     cases hr;obtain ⟨e1,rfl⟩:=h1;rename_i r'
     have hr : r'=r:=by
      obtain ⟨pu,cl,hp,hc,hst⟩:=hs;unfold opD at ho;unfold stepD at hst;simp only [Bool.true_and] at ho;split at ho
      ·rename_i hbs
       split at hst
       ·rw [ho] at hst; injection hst with hst; injection hst with h1 _; exact h1.symm
       ·rename_i hne
        exfalso
        revert hbs
        unfold isBS
        split
        ·rename_i h1; exact λ_=>hne _ _ _ h1
        ·simp
      ·rename_i hbs
       split at hst
       ·rename_i h1; rw [h1] at hbs; simp [isBS] at hbs
       ·have hnp : zyqZ ql o.op=false:=by
         cases hpo : zyqZ ql o.op with
         | false => rfl
         | true =>
          exfalso
          obtain ⟨dst,op,type,pos,after,guard⟩:=o;unfold zyqZ at hpo;split at hpo
          ·rename_i hop; simp only at hop; subst hop; cases ho
          ·cases hpo
        rw [if_neg (by simp [hnp]),ho] at hst;injection hst with hst; injection hst with h1 _; exact h1.symm
     subst hr;exact ⟨_,T',H',hk,.step hw hs ha,by simpa [logOf] using hf⟩
   ·rename_i ho
    obtain ⟨r,H1,hc,h⟩:=h;obtain ⟨tl,T',H',hk,ha,hf⟩:=wOpsD_ok l _ _ _ K h
    have hstep : ∃ pure call,PureOk P pure∧zbgsZ P call∧stepD P ql pure call T H o=some (r,H1):=by
     have none_ok : PureOk P (λ_ _=>none):=λ_ _ _ h=>by cases h
     have none_ok' : zbgsZ P (λ_ _ _=>none):=λ_ _ _ _ _ h=>by cases h
     unfold wCall at hc;split at hc
     ·rename_i k args hcall
      obtain ⟨hgo,hc⟩:=hc;obtain ⟨n1,n2⟩:=opD_none (P:=P) (dr:=true) (H:=H) hcall;simp only [Bool.true_and] at hc;split at hc
      ·rename_i hpo
       obtain ⟨hp,rfl⟩:=hc
       classical
       refine ⟨λf a=>if f=k∧a=args then some r else none,λ_ _ _=>none, ?_,none_ok', ?_⟩
       ·intro f a r1 h1
        dsimp only at h1
        split at h1
        ·rename_i he
         injection h1 with h1;obtain ⟨rfl,rfl⟩:=he;subst h1;exact ⟨hgo,hp⟩
        ·cases h1
       ·unfold stepD
        split
        ·rename_i h1; rw [h1] at n2; cases n2
        ·rw [if_pos hpo,hcall]
         simp
      ·rename_i hpo
       classical
       refine ⟨λ_ _=>none,λf a H2=>if f=k∧a=args∧H2=H then some (r,H1) else none,none_ok, ?_, ?_⟩
       ·intro f a H2 r1 H3 h1
        dsimp only at h1
        split at h1
        ·rename_i he
         injection h1 with h1;injection h1 with h1 h2;obtain ⟨rfl,rfl,rfl⟩:=he;subst h1; subst h2;exact hc
        ·cases h1
       ·unfold stepD
        split
        ·rename_i h1; rw [h1] at n2; cases n2
        ·rw [if_neg hpo,n1,hcall]
         simp [hgo]
     ·exact hc.elim
    exact ⟨_,T',H',hk,.step hw hstep ha,by simpa [logOf] using hf⟩
def BCode (P : Program) (c : Code) (T : List AV) (H : AH) (e : Exit) (T' : List AV) (H' : AH) : Prop:=ACode P c (AQ.is (e,T',H')) T H
theorem BCode.draw (ql : FuncId→Bool) {id : Nat} {ops : List Oper} {T : List AV} {H : AH} {fl : List (Nat × Option Nat)} {K : List AV→AH→Prop} (hm : P.follows .mixedOrders=true) (hs : (ordOk ops && chainOk ql ops && decide (floats ql ops=fl))=true) (h : wOpsD P ql ops.toArray H fl ops T H [] K) :
  ∃ T' H',K T' H'∧BCode P (.region id ops.toArray true) T H .normal T' H':=by
 simp only [Bool.and_eq_true,decide_eq_true_eq] at hs;obtain ⟨⟨hs1,hs2⟩,rfl⟩:=hs;obtain ⟨tl,T',H',hk,ha,hf⟩:=wOpsD_ok _ _ _ _ _ h;have hlen:=logOf_len ha;obtain ⟨e1,e2,e3⟩:=traceR_told (ops:=ops) (T:=T) (H:=H) (tr:=tl) ops tl 0 T H T' H' (λj o hj=>by simpa using hj) (λj=>by simp) rfl rfl ha;simp only [Nat.zero_add] at e1 e2 e3;refine ⟨T',H',hk,drawn_ins hm hs1 hs2 (λi o hi=>e3 i o hi) ?_ (by rw [e1,e2]; rfl)⟩;intro i o ho hq hb hp hw c hcc hmm;have hil:=(gSI.1 ho).1;have lget:=logOf_get (ops:=ops) (tr:=tl) (T:=T) ops tl 0 T (λj o hj=>by simpa using hj) (λj=>by simp) rfl;simp only [Nat.zero_add] at lget;simp only [List.reverse_nil,List.nil_append] at hf
 by_cases hl : c=lastCh ql ops i
 ·obtain ⟨b,hw',-,h1⟩:=e3 i o ho
  rw [hw] at hw';injection hw' with hw';obtain ⟨pu,cl,hpu,hcl,hst⟩:=h1 hw'.symm;rw [hs_lastCh] at hst
  have:=hl
  subst this;obtain ⟨_,hz | ⟨hpo,_⟩ | ⟨hz,_,_⟩⟩:=zstZ hpu hq hst
  ·exfalso
   obtain ⟨dst,op,type,pos,after,guard⟩:=o;unfold zbdkZ at hz;split at hz
   ·rename_i hop; simp only at hop; subst hop; simp [blind] at hb
   ·cases hz
  ·rw [hp] at hpo; cases hpo
  ·exact ⟨_,hz⟩
 ·have hmem : (i,c) ∈ floats ql ops:=by
   unfold floats;simp only;refine List.mem_flatMap.2 ⟨i,List.mem_range.2 hil, ?_⟩;rw [ho];simp only [hq,hb,hp,Bool.not_false,Bool.and_self,if_true];refine List.mem_map.2 ⟨c,List.mem_filter.2 ⟨?_,by simp [hmm,hl]⟩,rfl⟩;rcases hcc with rfl | ⟨d,rfl,hd,hcd⟩
   ·simp
   ·simp [List.mem_filter,hd,hcd]
  obtain ⟨o',Ti,hh,v,ho',hlg,hval⟩:=hf.mem hmem
  have hoo : o'=o:=by
   have : ops.toArray[i]? = some o:=by simpa using ho
   rw [this] at ho'; injection ho' with h; exact h.symm
  subst hoo
  have:=lget i _ hlg
  simp only [Prod.mk.injEq] at this;obtain ⟨rfl,-,rfl⟩:=this;have hv:=hval hw;obtain ⟨⟨r2,H2⟩,h2,h3⟩:=Option.map_eq_some_iff.1 hv;simp only at h3;subst h3;cases c with
  | none => exact ⟨H2,h2⟩
  | some d =>
   rcases hcc with h | ⟨d',hd',hdl,-⟩
   ·cases h
   ·injection hd' with hd'
    subst hd';have hld : d < (logOf ops tl T).length:=by rw [hlen]; exact hdl
    have hg:=lget d _ (gEG hld)
    have : (((logOf ops tl T)[d]?).map (·.2.1)).getD []=zbfnZ tl d:=by
     rw [gEG hld,hg]; rfl
    simp only [this] at h2;exact ⟨H2,h2⟩
end
end Go.Proofs.YtlhiaihmkjlaaaaGreat.Av
end
section
namespace Go.Proofs.YtlhiaihmkjlaaaaGreat.Av
open Go Go.RowKit
section
variable {P : Program}
def BRounds (P : Program) (b : Code) (e : Exit) (T' : List AV) (H' : AH) : Nat→List AV→AH→Prop
 | 0,_,_ => False
 | n + 1,T,H => (∃ T1 H1,BCode P b T H .normal T1 H1∧BRounds P b e T' H' n T1 H1)∨(e ≠ .normal∧BCode P b T H e T' H')
theorem BRounds.code {b : Code} {e : Exit} {T' : List AV} {H' : AH} {n : Nat} {T : List AV} {H : AH} (h : BRounds P b e T' H' n T H) : BCode P (.loop b) T H e T' H':=by
 intro G0 G a ρ hE hF hd hH;refine wpIn_loop_rounds n ?_
 induction n generalizing T H G a with
 | zero => exact h.elim
 | succ n ih =>
  rw [roundsIn_succ];rcases h with ⟨T1,H1,hb,hr⟩ | ⟨hne,hb⟩
  ·refine Code.wpIn_mono ?_ (hb G0 G a ρ hE hF hd hH)
   rintro e' a' w' ⟨T2,H2,G',rfl,hE',hF',hd',hH',hq⟩;simp only [AQ.is,Prod.mk.injEq] at hq;obtain ⟨rfl,rfl,rfl⟩:=hq;exact ih hr G' a' hE' hF' hd' hH'
  ·refine Code.wpIn_mono ?_ (hb G0 G a ρ hE hF hd hH)
   rintro e' a' w' ⟨T2,H2,G',rfl,hE',hF',hd',hH',hq⟩;have hq':=hq;simp only [AQ.is,Prod.mk.injEq] at hq';obtain ⟨rfl,rfl,rfl⟩:=hq';cases e' with
   | normal => exact absurd rfl hne
   | _ => exact ⟨_,_,G',rfl,hE',hF',hd',hH',hq⟩
def WLoop (P : Program) (b : Code) (T : List AV) (H : AH) (K : Exit→List AV→AH→Prop) : Prop:=∃ e T' H' n,K e T' H'∧BRounds P b e T' H' n T H
abbrev zbcqZ:=Nat→List (Nat × Option Nat)
def zbgrZ (fl : zbcqZ) (ql : FuncId→Bool) : Code→Bool
 | .region id ops true => ordOk ops.toList && chainOk ql ops.toList && decide (floats ql ops.toList=fl id)
 | .seq a b => zbgrZ fl ql a && zbgrZ fl ql b
 | .cond _ a b => zbgrZ fl ql a && zbgrZ fl ql b
 | .block _ b => zbgrZ fl ql b
 | .loop b => zbgrZ fl ql b
 | _ => true
def wCode (P : Program) (fl : zbcqZ) (ql : FuncId→Bool) : Code→List AV→AH→(Exit→List AV→AH→Prop)→Prop
 | .skip,T,H,K => K .normal T H
 | .label _,T,H,K => K .normal T H
 | .ret,T,H,K => K .ret T H
 | .exit id,T,H,K => K (.exit id) T H
 | .region _ ops false,T,H,K => wOps P ql false ops ops.toList T H (K .normal)
 | .region id ops true,T,H,K => match fl id with
  | [] => wOps P ql true ops ops.toList T H (K .normal)
  | f => wOpsD P ql ops H f ops.toList T H [] (K .normal)
 | .seq a b,T,H,K => wCode P fl ql a T H λe T' H'=>match e with
  | .normal => wCode P fl ql b T' H' K
  | e => K e T' H'
 | .cond c a b,T,H,K => match aeval T c with
  | .lit (.bool t) => if t then wCode P fl ql a T H K else wCode P fl ql b T H K
  | _ => False
 | .block id b,T,H,K => wCode P fl ql b T H λe T' H'=>match e with
  | .exit j => if j=id then K .normal T' H' else K (.exit j) T' H'
  | e => K e T' H'
 | .loop b,T,H,K => WLoop P b T H K
 | _,_,_,_ => False
theorem wOps_log {ql : FuncId→Bool} {ops : Array Oper} {H0 : AH} : ∀ (l : List Oper) (T : List AV) (H : AH) (lg : List (List AV × AH × AV)) (K : List AV→AH→Prop),wOps P ql true ops l T H K→wOpsD P ql ops H0 [] l T H lg K
 | [],T,H,lg,K,h => ⟨trivial,h⟩
 | o :: l,T,H,lg,K,h => by
  unfold wOps at h;unfold wOpsD;split at h
  ·exact h.elim
  ·exact wOps_log l _ _ _ K h
  ·split at h
   ·exact wOps_log l _ _ _ K h
   ·obtain ⟨r,H1,hc,h⟩:=h
    exact ⟨r,H1,hc,wOps_log l _ _ _ K h⟩
theorem zbfxZ {fl : zbcqZ} {ql : FuncId→Bool} (hm : P.follows .mixedOrders=true) : ∀ (c : Code) (T : List AV) (H : AH) (K : Exit→List AV→AH→Prop),zbgrZ fl ql c=true→wCode P fl ql c T H K→∃ e T' H',K e T' H'∧BCode P c T H e T' H'
 | .skip,T,H,K,_,h => ⟨_,_,_,h,ACode.skip rfl⟩
 | .label _,T,H,K,_,h => ⟨_,_,_,h,ACode.label rfl⟩
 | .ret,T,H,K,_,h => ⟨_,_,_,h,ACode.ret rfl⟩
 | .exit id,T,H,K,_,h => ⟨_,_,_,h,ACode.exit rfl⟩
 | .region id ops false,T,H,K,_,h => by
  obtain ⟨T',H',hk,ha⟩:=zbfoZ _ _ _ _ h;exact ⟨_,T',H',hk,ACode.region ha⟩
 | .region id ops true,T,H,K,hc,h => by
  obtain ⟨T',H',hk,ha⟩:=BCode.draw (P:=P) ql (id:=id) (ops:=ops.toList) (fl:=fl id) hm (by simpa only [zbgrZ] using hc) (by
   simp only [wCode] at h;split at h
   ·rename_i hfl; rw [hfl]; exact wOps_log _ _ _ _ _ h
   ·exact h)
  exact ⟨_,T',H',hk,by simpa using ha⟩
 | .seq a b,T,H,K,hc,h => by
  simp only [zbgrZ,Bool.and_eq_true] at hc;obtain ⟨e,T1,H1,hk,ha⟩:=zbfxZ hm a T H _ hc.1 h;cases e with
  | normal =>
   obtain ⟨e,T2,H2,hk,hb⟩:=zbfxZ hm b T1 H1 K hc.2 hk;refine ⟨e,T2,H2,hk,ACode.seq (ha.mono ?_)⟩;rintro e' T3 H3 hq;simp only [AQ.is,Prod.mk.injEq] at hq;obtain ⟨rfl,rfl,rfl⟩:=hq;exact hb
  | _ =>
   refine ⟨_,T1,H1,hk,ACode.seq (ha.mono ?_)⟩;rintro e' T3 H3 hq;have hq':=hq;simp only [AQ.is,Prod.mk.injEq] at hq';obtain ⟨rfl,rfl,rfl⟩:=hq';exact hq
 | .cond c a b,T,H,K,hc,h => by
  simp only [zbgrZ,Bool.and_eq_true] at hc;unfold wCode at h;split at h
  ·rename_i t ht
   split at h
   ·rename_i htt
    obtain ⟨e,T1,H1,hk,ha⟩:=zbfxZ hm a T H K hc.1 h;refine ⟨e,T1,H1,hk,ACode.cond ht ?_⟩;rw [if_pos htt]; exact ha
   ·rename_i htt
    obtain ⟨e,T1,H1,hk,ha⟩:=zbfxZ hm b T H K hc.2 h;refine ⟨e,T1,H1,hk,ACode.cond ht ?_⟩;rw [if_neg htt]; exact ha
  ·exact h.elim
 | .block id b,T,H,K,hc,h => by
  simp only [zbgrZ] at hc;obtain ⟨e,T1,H1,hk,ha⟩:=zbfxZ hm b T H _ hc h;cases e with
  | exit j =>
   simp only at hk;split at hk
   ·rename_i hj
    refine ⟨_,T1,H1,hk,ACode.block (ha.mono ?_)⟩;rintro e' T3 H3 hq;simp only [AQ.is,Prod.mk.injEq] at hq;obtain ⟨rfl,rfl,rfl⟩:=hq;simp only [AQ.inBlock,if_pos hj];rfl
   ·rename_i hj
    refine ⟨_,T1,H1,hk,ACode.block (ha.mono ?_)⟩;rintro e' T3 H3 hq;simp only [AQ.is,Prod.mk.injEq] at hq;obtain ⟨rfl,rfl,rfl⟩:=hq;simp only [AQ.inBlock,if_neg hj];rfl
  | _ =>
   refine ⟨_,T1,H1,hk,ACode.block (ha.mono ?_)⟩;rintro e' T3 H3 hq;simp only [AQ.is,Prod.mk.injEq] at hq;obtain ⟨rfl,rfl,rfl⟩:=hq;rfl
 | .loop b,T,H,K,hc,h => by
  obtain ⟨e,T',H',n,hk,hr⟩:=h;exact ⟨e,T',H',hk,hr.code⟩
 | .rangeFunc ..,_,_,_,_,h => h.elim
 | .scope _,_,_,_,_,h => h.elim
 | .goto _,_,_,_,_,h => h.elim
 | .refuse _,_,_,_,_,h => h.elim
def wRet (P : Program) (res : List ResultVar) (K : AV→AH→Prop) (e : Exit) (T : List AV) (H : AH) : Prop :=
 isOut e=true∧match ares P H T res with
  | some xs => K (mkres xs) H
  | none => False
end
end Go.Proofs.YtlhiaihmkjlaaaaGreat.Av
end
section
namespace Go.Proofs.YtlhiaihmkjlaaaaGreat.Av
open Go Go.RowKit
def bO (x : Option AV) (K : AV→Prop) : Prop:=match x with
 | some v => K v
 | none => False
def bH (x : Option (AV × AH)) (K : AV→AH→Prop) : Prop:=match x with
 | some (v,H) => K v H
 | none => False
def bS (x : Option AH) (K : AH→Prop) : Prop:=match x with
 | some H => K H
 | none => False
def bB (v : AV) (K : Bool→Prop) : Prop:=match v with
 | .lit (.bool b) => K b
 | _ => False
def bI (b : Bool) (A B : Prop) : Prop:=match b with
 | true => A
 | false => B
def bC (R : AV→AH→Prop) (K : AV→AH→Prop) : Prop:=∃ r H',R r H'∧K r H'
def bP (R : AV→Prop) (K : AV→Prop) : Prop:=∃ r,R r∧K r
def bF (w : Bool) (f : AV) (K : FuncId→List AV→List AV→Prop) : Prop:=match f with
 | .fn (.func k) a b => K k a b
 | _ => match w with
  | true => False
  | false => K 0 [] []
def bG (v : AV) (want : Bool) (K : Bool→Prop) : Prop:=match v with
 | .lit (.bool b) => K (b == want)
 | .lit _ => K false
 | _ => False
def gO (w : Bool) (x : Option AV) (K : AV→Prop) : Prop:=match w with
 | true => bO x K
 | false => K zgmZ
def gH (w : Bool) (x : Option (AV × AH)) (H : AH) (K : AV→AH→Prop) : Prop:=match w with
 | true => bH x K
 | false => K zgmZ H
def gS (w : Bool) (x : Option AH) (H : AH) (K : AH→Prop) : Prop:=match w with
 | true => bS x K
 | false => K H
def gC (w : Bool) (R : AV→AH→Prop) (H : AH) (K : AV→AH→Prop) : Prop:=match w with
 | true => bC R K
 | false => K zgmZ H
def gP (w : Bool) (R : AV→Prop) (K : AV→Prop) : Prop:=match w with
 | true => bP R K
 | false => K zgmZ
def bA (C : (AV→AH→Prop)→Prop) (K : AV→AH→Prop) : Prop:=∃ R,C R∧∀ r H',R r H'→K r H'
def gA (w : Bool) (C : (AV→AH→Prop)→Prop) (H : AH) (K : AV→AH→Prop) : Prop:=match w with
 | true => bA C K
 | false => K zgmZ H
def ExtR (P : Program) (k : FuncId) (args : List AV) (H : AH) (r : AV) : Prop:=∀ (G : Cfg) (vs : List Value),HR G H→VRs G args vs→∃ u,(callFunc k vs.toArray).run P G.w = .ok (.value u) G.w∧VR G r u
def none0 : Nat→Bool:=λ_=>false
def bT (b : Bool) (A : Prop) : Prop:=match b with
 | true => A
 | false => False
def apick (c a b : AV) : Option AV:=match c with
 | .lit (.bool t) => some (if t then a else b)
 | _ => none
def fillR (cells : List AV) : List (Nat × Nat × AV)→Option (List AV)
 | [] => some cells
 | (off,size,v) :: rest => match zbdpZ v with
  | some xs => if xs.length=size∧off + size≤cells.length then fillR (zlaZ cells off xs) rest else none
  | none => none
def places (place : Nat→Option (Nat × Nat)) (ρ : Operand→AV) : List (Nat × Operand)→Option (List (Nat × Nat × AV))
 | [] => some []
 | (i,x) :: r => match place i,places place ρ r with
  | some (o,s),some l => some ((o,s,ρ x) :: l)
  | _,_ => none
theorem places_ok {place : Nat→Option (Nat × Nat)} {ρ : Operand→AV} : ∀ (ps : List (Nat × Operand)) (l : List (Nat × Nat × AV)) (cells : List AV),places place ρ ps=some l→afill place cells (ps.map λp=>(p.1,ρ p.2))=fillR cells l
 | [],l,cells,h => by simp only [places] at h; injection h with h; subst h; rfl
 | (i,x) :: r,l,cells,h => by
  simp only [places] at h;split at h
  ·rename_i o s l' h1 h2
   injection h with h;subst h;simp only [List.map_cons,afill,fillR,h1];cases hc : zbdpZ (ρ x) with
   | none => rfl
   | some xs =>
    simp only
    split
    ·exact places_ok r l' _ h2
    ·rfl
  ·cases h
def abl (zc : List AV) (l : List (Nat × Nat × AV)) : Option AV:=(fillR zc l).map .agg
def buildZ (P : Program) (t : TypeId) : Option (List AV × (Nat→Option (Nat × Nat))) :=
 match tZero P t,P.underlying t with
 | some z,some (.struct fields) => match fields.toList.all λf=>(tSize P f.type).isSome with
  | true => some (z.cells.toList.map .lit,λi=>(fields[i]?).bind λf=>(tSize P f.type).map λn=>(f.offset,n))
  | false => none
 | some z,some (.array _ e) => match tSize P e with
  | some sz => some (z.cells.toList.map .lit,λi=>some (i * sz,sz))
  | none => none
 | _,_ => none
theorem buildZ_ok {P : Program} {t : TypeId} {zc : List AV} {pl : Nat→Option (Nat × Nat)} (h : buildZ P t=some (zc,pl)) (parts : List (Nat × AV)) : abuild P t parts=(afill pl zc parts).map .agg:=by
 unfold buildZ at h;unfold abuild;split at h
 ·rename_i z fields hz hu
  rw [hz,hu];simp only;split at h
  ·rename_i ha
   injection h with h; injection h with h1 h2;subst h1; subst h2;rw [if_pos ha]
  ·cases h
 ·rename_i z n e hz hu
  rw [hz,hu];simp only;split at h
  ·rename_i sz hs
   injection h with h; injection h with h1 h2;subst h1; subst h2;rw [hs]
  ·cases h
 ·cases h
def elemI (P : Program) (t : TypeId) : Option (Nat × Nat × List AV) :=
 match P.underlying t with
 | some (.slice e) => match P.info? e with
  | some i => match i.zero with
   | some z => match !(Nat.beq i.size 0) && !(Nat.beq i.bytes 0) && Nat.beq z.cells.size i.size && allOne z with
    | true => some (i.size,i.bytes,z.cells.toList.map .lit)
    | false => none
   | none => none
  | none => none
 | _ => none
theorem elemI_ok {P : Program} {t : TypeId} {sz by' : Nat} {zc : List AV} (h : elemI P t=some (sz,by',zc)) :
  ∃ e i z,P.underlying t=some (.slice e)∧P.info? e=some i∧i.zero=some z∧i.size=sz∧i.bytes=by'∧z.cells.toList.map .lit=zc∧sz ≠ 0∧by' ≠ 0∧z.cells.size=sz∧allOne z=true:=by
 unfold elemI at h;split at h
 ·rename_i e hu
  split at h
  ·rename_i i hi
   split at h
   ·rename_i z hz
    split at h
    ·rename_i hb
     injection h with h; injection h with h1 h2; injection h2 with h2 h3;simp only [Bool.and_eq_true,Bool.not_eq_true'] at hb;obtain ⟨⟨⟨b1,b2⟩,b3⟩,b4⟩:=hb;have b3:=Nat.eq_of_beq_eq_true b3;refine ⟨e,i,z,hu,hi,hz,h1,h2,h3, ?_, ?_,by rw [← h1]; exact b3,b4⟩
     ·rw [← h1]; exact λh0=>by rw [h0] at b1; cases b1
     ·rw [← h2]; exact λh0=>by rw [h0] at b2; cases b2
    ·cases h
   ·cases h
  ·cases h
 ·cases h
def absl (H : AH) (size len : Nat) (cells : List AV) (l : List (Nat × Nat × AV)) : Option (AV × AH):=(fillR cells l).map λcs=>(.sl H.length 0 len size (.ex len),H ++ [some (.cells cs)])
def absf (size len : Nat) (cells : List AV) (l : List (Nat × Nat × AV)) : Option AV:=(fillR cells l).map λcs=>.imm cs len size
def ald (g : Bool) (n : Nat) (H : AH) (a : AV) : Option AV:=match a with
 | .ptr o off => match H[o]? with
  | some (some (.cells cs)) => ztZ g n cs off
  | _ => none
 | .ip cs => ztZ g n cs 0
 | _ => none
def ast (n : Nat) (H : AH) (a x : AV) : Option AH:=match zbdpZ x,a with
 | some xs,.ptr o off => match H[o]? with
  | some (some (.cells cs)) => if xs.length=n∧off + n≤cs.length then some (H.set o (some (.cells (zlaZ cs off xs)))) else none
  | _ => none
 | _,_ => none
def abI (op : BinOp) (x y : AV) : Option AV:=match x,y with
 | .lit (.int k a),.lit (.int k' b) => match op with
  | .shl | .shr => (ashiftOp op k a b).map .lit
  | _ => if k=k' then (aint2 op k a b).map .lit else none
 | _,_ => none
def abT (op : BinOp) (x y : AV) : Option AV:=match x,y with
 | .lit (.string a),.lit (.string b) => (astr2 op a b).map .lit
 | _,_ => none
def aEq (op : BinOp) (e : Option Bool) : Option AV:=match op with
 | .eql => e.map λb=>.lit (.bool b)
 | .neq => e.map λb=>.lit (.bool !b)
 | _ => none
def abB (op : BinOp) (x y : AV) : Option AV:=match x,y with
 | .lit (.bool a),.lit (.bool b) => aEq op (some (a == b))
 | _,_ => none
def abN (op : BinOp) (f : AV→Option Bool) (x y : AV) : Option AV:=match x,y with
 | .agg _,.agg _ => none
 | .lit .nilIface,_ | _,.lit .nilIface => none
 | x,y => aEq op (anil2 (f x) (f y))
inductive CK where
 | int (k : IntKind)
 | str
 | ofB
 | toB
 | same
def convI (P : Program) (s d : TypeId) : Option CK :=
 match P.underlying d,P.underlying s with
 | some (.int k),some _ => some (.int k)
 | some .string,some .string => some .str
 | some .string,some (.slice e) => match P.underlying e with
  | some (.int .u8) => some .ofB
  | _ => none
 | some (.slice e),some .string => match P.underlying e with
  | some (.int .u8) => some .toB
  | _ => none
 | some (.slice e),some (.slice _) => match Nat.beq s d,P.underlying e with
  | true,some (.int .u8) => some .same
  | _,_ => none
 | _,_ => none
def acI (k : IntKind) (x : AV) : Option AV:=match x with
 | .lit (.int _ n) => some (.lit (.int k (k.wrap n)))
 | _ => none
def acS (x : AV) : Option AV:=match x with
 | .lit (.string s) => some (.lit (.string s))
 | _ => none
def acB (H : AH) (x : AV) : Option AV:=match x with
 | .lit (.string _) => none
 | x => match zaZ H 1 x with
  | some (cs,_) => (avInts cs).map λns=>.lit (.string (pushAll ns))
  | none => none
def acT (x : AV) : Option AV:=match x with
 | .lit (.string s) => some (.imm (s.data.toList.map λb=>.lit (.int .u8 b.toNat)) s.size 1)
 | _ => none
def amk (sz bytes : Nat) (zc : List AV) (H : AH) (l c : AV) : Option (AV × AH):=match l,c with
 | .lit (.int _ n),.lit (.int _ m) => if 0≤n∧n≤m∧(bytes : Int) * m≤281474976710656∧m≤9223372036854775807 then
   some (.sl H.length 0 n.toNat sz (.ex m.toNat),H ++ [some (.cells (zrow zc m.toNat))]) else none
 | _,_ => none
def aslT (x : AV) (lo hi : Option AV) : Option AV:=match x with
 | .lit (.string s) => match abnd lo 0,abnd hi s.size with
  | some l,some h => if l≤h∧h≤s.size then some (.lit (.string (s.extract l h))) else none
  | _,_ => none
 | _ => none
def aslS (sz : Nat) (x : AV) (lo hi mx : Option AV) : Option AV:=match x with
 | .sl o off len esz cap => if sz ≠ esz then none else
   match abnd lo 0,abnd hi len,mx with
   | some l,some h,none => if l≤h∧h≤max len cap.least then some (.sl o (off + l * esz) (h - l) esz (cap.cut len l)) else none
   | some l,some h,some m => match abnd (some m) 0 with
    | some m => if l≤h∧h≤m∧m≤max len cap.least∧hi.isSome then some (.sl o (off + l * esz) (h - l) esz (.ex (m - l))) else none
    | none => none
   | _,_,_ => none
 | .imm cs len esz => match abnd lo 0,abnd hi len,mx with
   | some l,some h,none => if l≤h∧h≤len then some (.imm ((cs.drop (l * sz)).take ((h - l) * sz)) (h - l) esz) else none
   | some l,some h,some m => match abnd (some m) 0 with
    | some m => if l≤h∧h≤m∧m≤len∧hi.isSome then some (if m=l then .emp else .imm ((cs.drop (l * sz)).take ((h - l) * sz)) (h - l) esz) else none
    | none => none
   | _,_,_ => none
 | .emp => match abnd lo 0,abnd hi 0,mx with
   | some 0,some 0,none => some .emp
   | _,_,_ => none
 | .lit (.slice none 0 0) => match abnd lo 0,abnd hi 0,mx with
   | some 0,some 0,none => some (.lit (.slice none 0 0))
   | _,_,_ => none
 | _ => none
def aslA (n sz : Nat) (H : AH) (x : AV) (lo hi : Option AV) : Option AV:=match abnd lo 0,abnd hi n,x with
 | some l,some h,.ptr o off => match H[o]? with
  | some (some (.cells cs)) => if l≤h∧h≤n∧off + n * sz≤cs.length then some (.sl o (off + l * sz) (h - l) sz (.ex (n - l))) else none
  | _ => none
 | some l,some h,.ip cs => if l≤h∧h≤n then some (.imm ((cs.drop (l * sz)).take ((h - l) * sz)) (h - l) sz) else none
 | _,_,_ => none
def aprt (g : Bool) (n off : Nat) (x : AV) : Option AV:=match x with
 | .agg cs => ztZ g n cs off
 | _ => none
def fieldI (P : Program) (s : TypeId) (f : Nat) : Option (Bool × Nat × Nat) :=
 match P.underlying s with
 | some (.struct fields) => match fields[f]? with
  | some fl => match tAgg P fl.type,tSize P fl.type with
   | some g,some n => some (g,n,fl.offset)
   | _,_ => none
  | none => none
 | _ => none
def aixS (sz : Nat) (x i : AV) : Option AV:=match aint i with
 | none => none
 | some n => match x with
  | .sl o off len _ _ => if 0≤n∧n < len then some (.ptr o (off + n.toNat * sz)) else none
  | .imm cs len _ => if 0≤n∧n < len then some (.ip (cs.drop (n.toNat * sz))) else none
  | _ => none
def aixA (len sz : Nat) (x i : AV) : Option AV:=match aint i with
 | none => none
 | some n => if 0≤n∧n < len then zhZ (n.toNat * sz) x else none
def aivA (g : Bool) (n' len sz : Nat) (x i : AV) : Option AV:=match aint i with
 | none => none
 | some n => if 0≤n∧n < len then aprt g n' (n.toNat * sz) x else none
def aivT (x i : AV) : Option AV:=match aint i with
 | none => none
 | some n => match x with
  | .lit (.string s) => if 0≤n then (s[n.toNat]?).map λb=>.lit (.int .u8 b.toNat) else none
  | _ => none
def mapI (P : Program) (t : TypeId) : Option (TypeDesc × Value) :=
 match P.underlying t with
 | some (.map key elem) => match P.underlying key,tZero P elem with
  | some d,some z => some (d,z)
  | _,_ => none
 | _ => none
theorem mapI_ok {P : Program} {t : TypeId} {d : TypeDesc} {z : Value} (h : mapI P t=some (d,z)) : ∃ key elem,P.underlying t=some (.map key elem)∧P.underlying key=some d∧tZero P elem=some z:=by
 unfold mapI at h;split at h
 ·rename_i key elem hu
  split at h
  ·rename_i d' z' h1 h2
   injection h with h; injection h with e1 e2;subst e1; subst e2;exact ⟨key,elem,hu,h1,h2⟩
  ·cases h
 ·cases h
def amkM (H : AH) (l : Option AV) : Option (AV × AH):=match l with
 | none => some (.mp H.length,H ++ [some (.map [])])
 | some (.lit (.int _ _)) => some (.mp H.length,H ++ [some (.map [])])
 | _ => none
def alk (d : TypeDesc) (z : Value) (H : AH) (x k : AV) (co : Bool) : Option AV:=match entriesA H x,k with
 | some es,.lit kv => if keyB d kv then match findA d kv es 0 with
   | some (some (_,a)) => some (if co then .tup [a,.lit (.bool true)] else a)
   | some none => some (if co then .tup [.ofV z,.lit (.bool false)] else .ofV z)
   | none => none
  else none
 | _,_ => none
def amu (d : TypeDesc) (H : AH) (m k x : AV) : Option AH:=match m,k with
 | .mp o,.lit kv => match H[o]? with
  | some (some (.map es)) => if keyB d kv then match findA d kv es 0 with
    | some (some (j,_)) => some (H.set o (some (.map (es.set j (kv,x)))))
    | some none => some (H.set o (some (.map (es ++ [(kv,x)]))))
    | none => none
   else none
  | _ => none
 | _,_ => none
def ame (d : TypeDesc) (z : Value) (H : AH) (m k : AV) : Option (AV × AH):=match m,k with
 | .mp o,.lit kv => match H[o]? with
  | some (some (.map es)) => if keyB d kv then match findA d kv es 0 with
    | some (some (j,a)) => some (.tup [a,.lit (goInt j)],H)
    | some none => some (.tup [.ofV z,.lit (goInt es.length)],H.set o (some (.map (es ++ [(kv,.ofV z)]))))
    | none => none
   else none
  | _ => none
 | _,_ => none
inductive LK where
 | str
 | sl
 | arr (n : Nat)
 | mp
def lenI (P : Program) (t : TypeId) : Option LK :=
 match P.underlying t with
 | some .string => some .str
 | some (.slice _) => some .sl
 | some (.array n _) => some (.arr n)
 | some (.map _ _) => some .mp
 | _ => none
def alnT (x : AV) : Option AV:=match x with
 | .lit (.string s) => some (.lit (.int .i64 s.size))
 | _ => none
def alnS (x : AV) : Option AV:=match x with
 | .sl _ _ len _ _ => some (.lit (.int .i64 len))
 | .imm _ len _ => some (.lit (.int .i64 len))
 | .lit (.slice none n _) => some (.lit (.int .i64 n))
 | .emp => some (.lit (.int .i64 0))
 | _ => none
def alnM (H : AH) (x : AV) : Option AV:=match x with
 | .lit (.map none) => some (.lit (.int .i64 0))
 | .mp o => match H[o]? with
  | some (some (.map es)) => some (.lit (goInt es.length))
  | _ => none
 | _ => none
def acpS (x : AV) : Option AV:=match x with
 | .sl _ _ _ _ (.ex k) => some (.lit (goInt k))
 | .lit (.slice none _ c) => some (.lit (goInt c))
 | .emp => some (.lit (goInt 0))
 | _ => none
def aap (size bytes : Nat) (H : AH) (s x : AV) : Option (AV × AH):=match zdeZ H size x with
 | none => none
 | some (news,n) => aapp1 H size bytes s news n
def acl (zc : List AV) (H : AH) (x : AV) : Option AH:=match x with
 | .lit (.slice none _ _) => some H
 | .sl o off len esz _ => match H[o]? with
  | some (some (.cells cs)) => if zc.length=esz∧esz ≠ 0∧off + len * esz≤cs.length then some (if len=0 then H else H.set o (some (.cells (zlaZ cs off (zrow zc len))))) else none
  | _ => none
 | _ => none
inductive SK where
 | str
 | sl (sz : Nat)
 | arr (n sz : Nat)
def sliceI (P : Program) (t : TypeId) : Option SK :=
 match P.underlying t with
 | some .string => some .str
 | some (.slice e) => (tSize P e).map .sl
 | some (.array n e) => (tSize P e).map (.arr n)
 | _ => none
inductive IK where
 | sl (sz : Nat)
 | arr (n sz : Nat)
def indexI (P : Program) (t : TypeId) : Option IK :=
 match P.underlying t with
 | some (.slice e) => (tSize P e).map .sl
 | some (.array n e) => (tSize P e).map (.arr n)
 | _ => none
inductive VK where
 | str
 | arr (g : Bool) (n len sz : Nat)
def ivI (P : Program) (t : TypeId) : Option VK :=
 match P.underlying t with
 | some .string => some .str
 | some (.array len e) => match tAgg P e,tSize P e with
  | some g,some n => some (.arr g n len n)
  | _,_ => none
 | _ => none
mutual
def flatA : AV→Bool
 | .lit _ => true
 | .agg cs => flatAs cs
 | .tup cs => flatAs cs
 | .emp => true
 | _ => false
def flatAs : List AV→Bool
 | [] => true
 | a :: r => flatA a && flatAs r
end
mutual
theorem flatA_vr {G G' : Cfg} : ∀ {a : AV} {v : Value},flatA a=true→VR G a v→VR G' a v
 | .lit _,_,_,hv => by simpa only [VR] using hv
 | .agg cs,v,h,hv => by
  simp only [flatA] at h;simp only [VR] at hv ⊢;obtain ⟨vs,e,hr⟩:=hv;exact ⟨vs,e,flatAs_vr h hr⟩
 | .tup cs,v,h,hv => by
  simp only [flatA] at h;simp only [VR] at hv ⊢;obtain ⟨vs,e,hr⟩:=hv;exact ⟨vs,e,flatAs_vr h hr⟩
 | .emp,_,_,hv => by simpa only [VR] using hv
 | .ptr ..,_,h,_ => by simp [flatA] at h
 | .ip ..,_,h,_ => by simp [flatA] at h
 | .sl ..,_,h,_ => by simp [flatA] at h
 | .imm ..,_,h,_ => by simp [flatA] at h
 | .mp ..,_,h,_ => by simp [flatA] at h
 | .fn ..,_,h,_ => by simp [flatA] at h
 | .junk,_,h,_ => by simp [flatA] at h
theorem flatAs_vr {G G' : Cfg} : ∀ {as : List AV} {vs : List Value},flatAs as=true→VRs G as vs→VRs G' as vs
 | [],_,_,hv => by simpa only [VRs] using hv
 | a :: as,vs,h,hv => by
  simp only [flatAs,Bool.and_eq_true] at h;simp only [VRs] at hv ⊢;obtain ⟨v,r,e,h1,h2⟩:=hv;exact ⟨v,r,e,flatA_vr h.1 h1,flatAs_vr h.2 h2⟩
end
section
variable {P : Program}
theorem BPure.lent {f : FuncId} {args args' : List AV} {H : AH} {r : AV} {n : Nat} (hf : mapO (frz H n) args=some args') (hr : flatA r=true) (h : BPure P f args' r) : BCall P f args H r H:=by
 intro G vs hH hv
 let G1 : Cfg:={ w:=G.w,n:=0,μ:=G.μ,L:=λ_=>False,K:=λb=>G.K b∧¬ G.L b }
 have h0 : HR G1 []:=⟨rfl,λo x h=>by simp at h,λo o' x x' h=>by simp at h,λo x h=>by simp at h,λb h=>by
  rcases h with h | h
  ·exact h.elim
  ·exact hH.lt b (.inr h.1),λb h=>h.elim⟩
 have hv' : VRs G1 args' vs:=zbghZ (λa v r hx he=>frz_ok (G':=G) (G'':=G1) rfl (λb hn hh=>hn (.inr (hh.elim False.elim And.left))) hH (λo x ho hh=>hh.elim False.elim λhk=>hk.2 (hH.live o x ho)) n a v r hx he) hv hf;refine ((h []) G1 vs h0 hv').mono ?_;rintro e w' ⟨r',X,G',v,rfl,rfl,hE,hx,hX,rfl,rfl⟩;have keep : ∀ k,k < G.w.heap.size→G'.w.heap[k]? = G.w.heap[k]?:=λk hk=>(hE.keep k hk (λh=>h)).1
 let G2 : Cfg:={ w:=G'.w,n:=G.n,μ:=G.μ,L:=G.L,K:=G.K }
 have hE' : Evo G G2:=⟨hE.os,hE.tape,hE.output,hE.size,λk hk hL=>⟨keep k hk,hL⟩,Nat.le_refl _,λ_ _=>rfl,rfl⟩;exact ⟨r',H,G2,v,rfl,rfl,hE',flatA_vr hr hx,⟨hH.n,λo x ho=>OR.evo hE' (hH.lt_n ho) (keep _ (hH.lt _ (.inl (hH.live _ _ ho)))) (hH.obj o x ho),hH.inj,hH.live,λb hb=>Nat.lt_of_lt_of_le (hH.lt b hb) hE.size,hH.dis⟩,rfl,rfl⟩
def PCall (P : Program) (f : FuncId) (args : List AV) (H : AH) (r : AV) : Prop:=BPure P f args r∨∃ n args',mapO (frz H n) args=some args'∧flatA r=true∧BPure P f args' r
theorem PCall.call {f : FuncId} {args : List AV} {H : AH} {r : AV} (h : PCall P f args H r) : BCall P f args H r H:=by
 rcases h with h | ⟨n,args',h1,h2,h3⟩
 ·exact h H
 ·exact BPure.lent h1 h2 h3
end
end Go.Proofs.YtlhiaihmkjlaaaaGreat.Av
end
section
namespace Go.Proofs.YtlhiaihmkjlaaaaGreat.Av
open Go Go.RowKit
section
variable {P : Program}
def sBuiltin (P : Program) (H : AH) (w : Bool) (b : Builtin) (ts : List TypeId) (xs : List AV) (K : AV→AH→Prop) : Prop :=
 match b,ts,xs with
 | .len,[t],[x] => match lenI P t with
  | some .str => gO w (alnT x) λv=>K v H
  | some .sl => gO w (alnS x) λv=>K v H
  | some (.arr n) => gO w (some (.lit (.int .i64 n))) λv=>K v H
  | some .mp => gO w (alnM H x) λv=>K v H
  | none => False
 | .cap,[t],[x] => match lenI P t with
  | some .sl => gO w (acpS x) λv=>K v H
  | some (.arr n) => gO w (some (.lit (goInt n))) λv=>K v H
  | _ => False
 | .clear,[t],[x] => match elemI P t with
  | some (_,_,zc) => gS w (acl zc H x) H λH'=>K (if w then .lit (.tuple #[]) else zgmZ) H'
  | none => False
 | .append,[t,u],[s,x] => match elemI P t,lenI P u with
  | some (sz,by',_),some .sl | some (sz,by',_),some .str => gH w (aap sz by' H s x) H K
  | some (sz,by',zc),none => match P.underlying u with
   | some (.int _) => gH w (aappZ1 H sz by' zc s x) H K
   | _ => False
  | _,_ => False
 | .copy,[t,_],[d,s] => match sliceI P t with
  | some (.sl sz) => gH w (acp sz H d s) H K
  | _ => False
 | .min,_,xs => gO w (amm imn xs) λv=>K v H
 | .max,_,xs => gO w (amm imx xs) λv=>K v H
 | _,_,_ => False
def sOp (P : Program) (ql al : FuncId→Bool) (dr : Bool) (ρ : Operand→AV) (H : AH) (o : Oper) (w : Bool) (K : AV→AH→Prop) : Prop :=
 match o.op with
 | .move x => gO w (some (ρ x)) λv=>K v H
 | .assign x => gO w (some (ρ x)) λv=>K v H
 | .pick c a b => gO w (apick (ρ c) (ρ a) (ρ b)) λv=>K v H
 | .alloc e => match tZero P e with
  | some z => gH w (anew H (.ofV z)) H K
  | none => False
 | .box _ x => gH w (anew H (ρ x)) H K
 | .build t parts => match buildZ P t with
  | some (zc,pl) => match places pl ρ parts.toList with
   | some l => gO w (abl zc l) λv=>K v H
   | none => False
  | none => False
 | .buildSlice t len parts => match elemI P t with
  | some (sz,_,zc) => match Nat.ble (len * sz) 16777216 with
   | true => match places (λj=>some (j * sz,sz)) ρ parts.toList with
    | some l => match dr with
     | true => gO w (absf sz len (zrow zc len) l) λv=>K v H
     | false => gH w (absl H sz len (zrow zc len) l) H K
    | none => False
   | false => False
  | none => False
 | .load t a => match tAgg P t,tSize P t with
  | some g,some n => gO w (ald g n H (ρ a)) λv=>K v H
  | _,_ => False
 | .store t a x => match tSize P t with
  | some n => gS w (ast n H (ρ a) (ρ x)) H λH'=>K zgmZ H'
  | none => False
 | .nilCheck x => gO w (zgZ (ρ x)) λv=>K v H
 | .binOp op t x y _ => match P.underlying t with
  | some (.int _) => gO w (abI op (ρ x) (ρ y)) λv=>K v H
  | some .string => gO w (abT op (ρ x) (ρ y)) λv=>K v H
  | some .bool => gO w (abB op (ρ x) (ρ y)) λv=>K v H
  | some (.pointer _) => gO w (abN op nilP (ρ x) (ρ y)) λv=>K v H
  | some (.slice _) => gO w (abN op nilS (ρ x) (ρ y)) λv=>K v H
  | some (.func ..) => gO w (abN op nilF (ρ x) (ρ y)) λv=>K v H
  | some (.map ..) => gO w (abN op nilM (ρ x) (ρ y)) λv=>K v H
  | _ => gO w (abin P op t (ρ x) (ρ y)) λv=>K v H
 | .unOp op _ x => gO w (aun op (ρ x)) λv=>K v H
 | .convert s d x => match convI P s d with
  | some (.int k) => gO w (acI k (ρ x)) λv=>K v H
  | some .str => gO w (acS (ρ x)) λv=>K v H
  | some .ofB => gO w (acB H (ρ x)) λv=>K v H
  | some .toB => gO w (acT (ρ x)) λv=>K v H
  | some .same => gH w (acvS H (ρ x)) H K
  | none => False
 | .makeFunc fn f c => gO w (some (.fn fn (f.toList.map ρ) (c.toList.map ρ))) λv=>K v H
 | .makeSlice t l c => match elemI P t with
  | some (sz,by',zc) => gH w (amk sz by' zc H (ρ l) (ρ c)) H K
  | none => False
 | .slice t x lo hi mx => match sliceI P t,mx with
  | some .str,none => gO w (aslT (ρ x) (lo.map ρ) (hi.map ρ)) λv=>K v H
  | some (.sl sz),mx => gO w (aslS sz (ρ x) (lo.map ρ) (hi.map ρ) (mx.map ρ)) λv=>K v H
  | some (.arr n sz),none => gO w (aslA n sz H (ρ x) (lo.map ρ) (hi.map ρ)) λv=>K v H
  | _,_ => False
 | .fieldAddr s x f => match afieldAt P s f with
  | some k => gO w (zhZ k (ρ x)) λv=>K v H
  | none => False
 | .field s x f => match fieldI P s f with
  | some (g,n,off) => gO w (aprt g n off (ρ x)) λv=>K v H
  | none => False
 | .indexAddr t x i => match indexI P t with
  | some (.sl sz) => gO w (aixS sz (ρ x) (ρ i)) λv=>K v H
  | some (.arr len sz) => gO w (aixA len sz (ρ x) (ρ i)) λv=>K v H
  | none => False
 | .index t x i => match ivI P t with
  | some .str => gO w (aivT (ρ x) (ρ i)) λv=>K v H
  | some (.arr g n len sz) => gO w (aivA g n len sz (ρ x) (ρ i)) λv=>K v H
  | none => False
 | .extract t i => gO w (zjZ (ρ t) i) λv=>K v H
 | .makeMap t l => match mapI P t with
  | some _ => gH w (amkM H (l.map ρ)) H K
  | none => False
 | .lookup t x k co => match mapI P t with
  | some (d,z) => gO w (alk d z H (ρ x) (ρ k) co) λv=>K v H
  | none => False
 | .mapUpdate t m k x => match mapI P t with
  | some (d,_) => gS w (amu d H (ρ m) (ρ k) (ρ x)) H λH'=>K zgmZ H'
  | none => False
 | .mapEntry t m k => match mapI P t with
  | some (d,z) => gH w (ame d z H (ρ m) (ρ k)) H K
  | none => False
 | .entryStore _ m s x => gS w (zxhZ H (ρ m) (ρ s) (ρ x)) H λH'=>K zgmZ H'
 | .call { callee:=.builtin b,args,argTypes } => sBuiltin P H w b argTypes.toList (args.toList.map ρ) K
 | .call { callee:=.value f,args,argTypes:=_ } => bF w (ρ f) λk first cap=>match zyqZ al o.op with
   | true => match dr with
    | true => False
    | false => match zbchZ P k with
     | true => gA w (ACalls P k (first ++ args.toList.map ρ ++ cap) H) H K
     | false => gP w (ExtR P k (first ++ args.toList.map ρ ++ cap) H) λv=>K v H
   | false => bT (zbchZ P k || !w) (match zyqZ ql o.op with
    | true => match dr with
     | true => gP w (BPure P k (first ++ args.toList.map ρ ++ cap)) λv=>K v H
     | false => gP w (PCall P k (first ++ args.toList.map ρ ++ cap) H) λv=>K v H
    | false => gC w (BCall P k (first ++ args.toList.map ρ ++ cap) H) H K)
 | _ => False
def StepR (P : Program) (ql : FuncId→Bool) (dr : Bool) (ρ : Operand→AV) (H : AH) (o : Oper) (w : Bool) (r : AV) (H' : AH) : Prop :=
 (w=true∧(opD P dr ρ H o=some (r,H')∨(opD P dr ρ H o=none∧wCall P ql dr ρ o H r H')))∨(w=false∧r=zgmZ∧H'=H)
section
variable {ql : FuncId→Bool} {dr : Bool} {ρ : Operand→AV} {H : AH} {o : Oper} {w : Bool} {K : AV→AH→Prop}
theorem ztrZ {x : Option AV} (h : gO w x λv=>K v H) (hx : ∀ r,x=some r→opD P dr ρ H o=some (r,H)) :
  ∃ r H',K r H'∧StepR P ql dr ρ H o w r H'∧∀ K2 : AV→AH→Prop,K2 r H'→gO w x λv=>K2 v H:=by
 cases w with
 | false => exact ⟨zgmZ,H,h,.inr ⟨rfl,rfl,rfl⟩,λ_ h=>h⟩
 | true => cases x with
  | none => exact h.elim
  | some r => exact ⟨r,H,h,.inl ⟨rfl,.inl (hx r rfl)⟩,λ_ h=>h⟩
theorem gH_one {x : Option (AV × AH)} (h : gH w x H K) (hx : ∀ r,x=some r→opD P dr ρ H o=some r) :
  ∃ r H',K r H'∧StepR P ql dr ρ H o w r H'∧∀ K2 : AV→AH→Prop,K2 r H'→gH w x H K2:=by
 cases w with
 | false => exact ⟨zgmZ,H,h,.inr ⟨rfl,rfl,rfl⟩,λ_ h=>h⟩
 | true => cases x with
  | none => exact h.elim
  | some r => exact ⟨r.1,r.2,h,.inl ⟨rfl,.inl (hx r rfl)⟩,λ_ h=>h⟩
theorem gS_one {x : Option AH} {u : AV} (h : gS w x H λH'=>K (if w then u else zgmZ) H') (hx : ∀ r,x=some r→opD P dr ρ H o=some (u,r)) :
  ∃ r H',K r H'∧StepR P ql dr ρ H o w r H'∧∀ K2 : AV→AH→Prop,K2 r H'→gS w x H λH'=>K2 (if w then u else zgmZ) H':=by
 cases w with
 | false => exact ⟨zgmZ,H,h,.inr ⟨rfl,rfl,rfl⟩,λ_ h=>h⟩
 | true => cases x with
  | none => exact h.elim
  | some r => exact ⟨u,r,h,.inl ⟨rfl,.inl (hx r rfl)⟩,λ_ h=>h⟩
theorem gS_one' {x : Option AH} (h : gS w x H λH'=>K zgmZ H') (hx : ∀ r,x=some r→opD P dr ρ H o=some (zgmZ,r)) :
  ∃ r H',K r H'∧StepR P ql dr ρ H o w r H'∧∀ K2 : AV→AH→Prop,K2 r H'→gS w x H λH'=>K2 zgmZ H':=by
 have:=gS_one (u:=zgmZ) (ql:=ql) (by simpa using h) hx
 simpa using this
end
theorem zfaZ {dr : Bool} {ρ : Operand→AV} {H : AH} {o : Oper} (hb : isBS o.op=false) : opD P dr ρ H o=aop P ρ H o:=by
 unfold opD; rw [hb]; simp
theorem ald_ok {t : TypeId} {g : Bool} {n : Nat} {H : AH} {a : AV} (hg : tAgg P t=some g) (hn : tSize P t=some n) : aload P H t a=ald g n H a:=by
 unfold aload ald; rw [hg,hn]; cases a <;> rfl
theorem ast_ok {t : TypeId} {n : Nat} {H : AH} {a x : AV} (hn : tSize P t=some n) : astore P H t a x=ast n H a x:=by
 unfold astore ast; rw [hn];cases zbdpZ x <;> cases a <;> rfl
theorem abI_ok {op : BinOp} {t : TypeId} {x y r : AV} (h : abI op x y=some r) : abin P op t x y=some r:=by
 unfold abI at h;split at h
 ·unfold abin; exact h
 ·cases h
theorem abT_ok {op : BinOp} {t : TypeId} {x y r : AV} (h : abT op x y=some r) : abin P op t x y=some r:=by
 unfold abT at h;split at h
 ·unfold abin; exact h
 ·cases h
theorem abB_ok {op : BinOp} {t : TypeId} {x y r : AV} (hu : P.underlying t=some .bool) (h : abB op x y=some r) : abin P op t x y=some r:=by
 unfold abB at h;split at h
 ·unfold abin
  simp only [aeq,hu];exact h
 ·cases h
theorem abN_ok {op : BinOp} {f : AV→Option Bool} {t : TypeId} {x y r : AV} (hx : ∀ v,x = .lit v→(∃ k n,v = .int k n)∨(∃ s,v = .string s)→f x=none) (he : ∀ x y,aeq P 20 t x y=anil2 (f x) (f y)) (h : abN op f x y=some r) : abin P op t x y=some r:=by
 unfold abN at h;split at h
 ·cases h
 ·cases h
 ·cases h
 ·rename_i hagg hn1 hn2
  unfold abin
  split
  ·rename_i k a k' b
   have:=hx _ rfl (.inl ⟨k,a,rfl⟩)
   rw [this] at h;unfold aEq anil2 at h;split at h <;> simp at h
  ·rename_i a b
   have:=hx _ rfl (.inr ⟨a,rfl⟩)
   rw [this] at h;unfold aEq anil2 at h;split at h <;> simp at h
  ·exact (hn2 _ _ rfl rfl).elim
  ·exact (hagg rfl).elim
  ·exact (hn1 rfl).elim
  ·rw [he]
   exact h
end
end Go.Proofs.YtlhiaihmkjlaaaaGreat.Av
end
section
namespace Go.Proofs.YtlhiaihmkjlaaaaGreat.Av
open Go Go.RowKit
section
variable {P : Program}
theorem zbffZ {t : TypeId} {x : LK} (h : lenI P t=some x) : match x with
  | .str => P.underlying t=some .string
  | .sl => ∃ e,P.underlying t=some (.slice e)
  | .arr n => ∃ e,P.underlying t=some (.array n e)
  | .mp => ∃ k e,P.underlying t=some (.map k e):=by
 unfold lenI at h;split at h
 ·rename_i hu; injection h with h; subst h; exact hu
 ·rename_i e hu; injection h with h; subst h; exact ⟨e,hu⟩
 ·rename_i n e hu; injection h with h; subst h; exact ⟨e,hu⟩
 ·rename_i k e hu; injection h with h; subst h; exact ⟨k,e,hu⟩
 ·cases h
theorem zbaxZ {t : TypeId} {x : SK} (h : sliceI P t=some x) : match x with
  | .str => P.underlying t=some .string
  | .sl sz => ∃ e,P.underlying t=some (.slice e)∧tSize P e=some sz
  | .arr n sz => ∃ e,P.underlying t=some (.array n e)∧tSize P e=some sz:=by
 unfold sliceI at h;split at h
 ·rename_i hu; injection h with h; subst h; exact hu
 ·rename_i e hu
  obtain ⟨s,hs,rfl⟩:=Option.map_eq_some_iff.1 h;exact ⟨e,hu,hs⟩
 ·rename_i n e hu
  obtain ⟨s,hs,rfl⟩:=Option.map_eq_some_iff.1 h;exact ⟨e,hu,hs⟩
 ·cases h
theorem indexI_ok {t : TypeId} {x : IK} (h : indexI P t=some x) : match x with
  | .sl sz => ∃ e,P.underlying t=some (.slice e)∧tSize P e=some sz
  | .arr n sz => ∃ e,P.underlying t=some (.array n e)∧tSize P e=some sz:=by
 unfold indexI at h;split at h
 ·rename_i e hu
  obtain ⟨s,hs,rfl⟩:=Option.map_eq_some_iff.1 h;exact ⟨e,hu,hs⟩
 ·rename_i n e hu
  obtain ⟨s,hs,rfl⟩:=Option.map_eq_some_iff.1 h;exact ⟨e,hu,hs⟩
 ·cases h
theorem ivI_ok {t : TypeId} {x : VK} (h : ivI P t=some x) : match x with
  | .str => P.underlying t=some .string
  | .arr g n len sz => ∃ e,P.underlying t=some (.array len e)∧tAgg P e=some g∧tSize P e=some n∧sz=n:=by
 unfold ivI at h;split at h
 ·rename_i hu; injection h with h; subst h; exact hu
 ·rename_i len e hu
  split at h
  ·rename_i g n hg hn; injection h with h; subst h; exact ⟨e,hu,hg,hn,rfl⟩
  ·cases h
 ·cases h
theorem convI_ok {s d : TypeId} {x : CK} (h : convI P s d=some x) : match x with
  | .int k => P.underlying d=some (.int k)∧∃ y,P.underlying s=some y
  | .str => P.underlying d=some .string∧P.underlying s=some .string
  | .ofB => P.underlying d=some .string∧∃ e,P.underlying s=some (.slice e)∧P.underlying e=some (.int .u8)
  | .toB => P.underlying s=some .string∧∃ e,P.underlying d=some (.slice e)∧P.underlying e=some (.int .u8)
  | .same => s=d∧∃ e,P.underlying d=some (.slice e)∧P.underlying e=some (.int .u8):=by
 unfold convI at h;split at h
 ·rename_i k y h1 h2; injection h with h; subst h; exact ⟨h1,y,h2⟩
 ·rename_i h1 h2; injection h with h; subst h; exact ⟨h1,h2⟩
 ·rename_i e h1 h2
  split at h
  ·rename_i h3; injection h with h; subst h; exact ⟨h1,e,h2,h3⟩
  ·cases h
 ·rename_i e h1 h2
  split at h
  ·rename_i h3; injection h with h; subst h; exact ⟨h2,e,h1,h3⟩
  ·cases h
 ·rename_i e e2 h1 h2
  split at h
  ·rename_i h3 h4; injection h with h; subst h; exact ⟨Nat.eq_of_beq_eq_true h3,e,h1,h4⟩
  ·cases h
 ·cases h
theorem fieldI_ok {s : TypeId} {f : Nat} {g : Bool} {n off : Nat} (h : fieldI P s f=some (g,n,off)) (x : AV) : afield P s x f=aprt g n off x:=by
 unfold fieldI at h;unfold afield;split at h
 ·rename_i fields hu
  rw [hu];simp only;split at h
  ·rename_i fl hfl
   rw [hfl];simp only;split at h
   ·rename_i g' n' hg hn
    injection h with h; injection h with h1 h2; injection h2 with h2 h3;subst h1; subst h2; subst h3;unfold apart aprt;rw [hg,hn];cases x <;> rfl
   ·cases h
  ·cases h
 ·cases h
theorem aap_ok {t u : TypeId} {sz by' : Nat} {zc : List AV} {H : AH} {s x : AV} (ht : elemI P t=some (sz,by',zc)) (hu : (∃ e,P.underlying u=some (.slice e))∨P.underlying u=some .string) : aappend P H t u s x=aap sz by' H s x:=by
 obtain ⟨e,i,z,h1,h2,h3,rfl,rfl,rfl,h4,h5,h6,h7⟩:=elemI_ok ht;unfold aappend aap;rcases hu with ⟨e',hu⟩ | hu <;> rw [h1,hu] <;> simp only [h2,h3]
 ·cases zdeZ H i.size x with
  | none => rfl
  | some q => simp [h4,h5,h6]
 ·cases zdeZ H i.size x with
  | none => rfl
  | some q => simp [h4,h5,h6]
theorem aeq_ptr {d : Nat} {t e : TypeId} (hu : P.underlying t=some (.pointer e)) (x y : AV) : aeq P (d + 1) t x y=anil2 (nilP x) (nilP y):=by simp only [aeq,hu]
theorem aeq_sl {d : Nat} {t e : TypeId} (hu : P.underlying t=some (.slice e)) (x y : AV) : aeq P (d + 1) t x y=anil2 (nilS x) (nilS y):=by simp only [aeq,hu]
theorem aeq_fn {d : Nat} {t : TypeId} {ps rs : Array TypeId} {v : Bool} (hu : P.underlying t=some (.func ps rs v)) (x y : AV) : aeq P (d + 1) t x y=anil2 (nilF x) (nilF y):=by simp only [aeq,hu]
theorem aeq_mp {d : Nat} {t k e : TypeId} (hu : P.underlying t=some (.map k e)) (x y : AV) : aeq P (d + 1) t x y=anil2 (nilM x) (nilM y):=by simp only [aeq,hu]
variable {ql : FuncId→Bool} {dr : Bool} {ρ : Operand→AV} {H : AH} {w : Bool} {K : AV→AH→Prop}
theorem sBuiltin_one {dst : Option Tmp} {b : Builtin} {args : Array Operand} {ats : Array TypeId} {type : TypeId} {pos : String} {after : Array Edge} {guard : Option (Nat × Bool)}
  (h : sBuiltin P H w b ats.toList (args.toList.map ρ) K) :
  ∃ r H',K r H'∧StepR P ql dr ρ H ⟨dst,.call { callee:=.builtin b,args,argTypes:=ats },type,pos,after,guard⟩ w r H'∧∀ K2 : AV→AH→Prop,K2 r H'→sBuiltin P H w b ats.toList (args.toList.map ρ) K2:=by
 have hop : opD P dr ρ H ⟨dst,.call { callee:=.builtin b,args,argTypes:=ats },type,pos,after,guard⟩=zfmZ P H b ats.toList (args.toList.map ρ):=(zfaZ rfl).trans rfl;generalize ats.toList=ts at *;generalize args.toList.map ρ=xs at *;unfold sBuiltin at h ⊢;split at h
 ·rename_i t x
  (try simp only)
  split at h
  ·rename_i hl
   have hl':=zbffZ hl
   (try simp only [hl])
   refine ztrZ h λr hr=>hop.trans ?_
   unfold alnT at hr;split at hr
   ·injection hr with hr; subst hr
    simp [zfmZ,alen,hl']
   ·cases hr
  ·rename_i hl
   obtain ⟨e,hl'⟩:=zbffZ hl
   (try simp only [hl])
   refine ztrZ h λr hr=>hop.trans ?_
   unfold alnS at hr;split at hr <;> first
    | (cases hr; done)
    | (injection hr with hr; subst hr; simp [zfmZ,alen,hl'])
  ·rename_i n hl
   obtain ⟨e,hl'⟩:=zbffZ hl
   (try simp only [hl])
   refine ztrZ h λr hr=>hop.trans ?_
   injection hr with hr; subst hr;simp [zfmZ,alen,hl']
  ·rename_i hl
   obtain ⟨k,e,hl'⟩:=zbffZ hl
   (try simp only [hl])
   refine ztrZ h λr hr=>hop.trans ?_
   unfold alnM at hr;split at hr
   ·injection hr with hr; subst hr
    simp [zfmZ,alen,hl']
   ·simp only [zfmZ,alen,hl',amapLen]
    first
     | (exact congrArg (Option.map λv=>(v,H)) hr)
     | ((try simp only [hr]); rfl)
   ·cases hr
  ·exact h.elim
 ·rename_i t x
  (try simp only)
  split at h
  ·rename_i hl
   obtain ⟨e,hl'⟩:=zbffZ hl
   (try simp only [hl])
   refine ztrZ h λr hr=>hop.trans ?_
   unfold acpS at hr;split at hr <;> first
    | (cases hr; done)
    | (injection hr with hr; subst hr; simp [zfmZ,acap,hl'])
  ·rename_i n hl
   obtain ⟨e,hl'⟩:=zbffZ hl
   (try simp only [hl])
   refine ztrZ h λr hr=>hop.trans ?_
   injection hr with hr; subst hr;simp [zfmZ,acap,hl']
  ·exact h.elim
 ·rename_i t x
  (try simp only)
  split at h
  ·rename_i sz by' zc hl
   obtain ⟨e,i,z,h1,h2,h3,rfl,rfl,rfl,h4,h5,h6,h7⟩:=elemI_ok hl
   (try simp only [hl])
   refine gS_one h λr hr=>hop.trans ?_
   unfold acl at hr;unfold zfmZ aclear;simp only [h1,h2];split at hr
   ·injection hr with hr; subst hr; rfl
   ·rename_i o off len esz cap
    simp only;split at hr
    ·rename_i cs hcs
     simp only [hcs,h3];split at hr
     ·rename_i hc
      injection hr with hr;subst hr;simp only [h2,h3];rw [if_pos (show z.cells.size=esz∧esz ≠ 0∧allOne z=true∧off + len * esz≤cs.length from ⟨by simpa using hc.1,hc.2.1,h7,hc.2.2⟩)];rfl
     ·cases hr
    ·cases hr
   ·cases hr
  ·exact h.elim
 ·rename_i t u s x
  (try simp only)
  split at h
  ·rename_i sz by' zc h1 h2
   (try simp only [h1,h2])
   obtain ⟨e,h2'⟩:=zbffZ h2;exact gH_one h λr hr=>hop.trans (by simp only [zfmZ]; rw [aap_ok h1 (.inl ⟨e,h2'⟩),hr])
  ·rename_i sz by' zc h1 h2
   (try simp only [h1,h2])
   have h2':=zbffZ h2;exact gH_one h λr hr=>hop.trans (by simp only [zfmZ]; rw [aap_ok h1 (.inr h2'),hr])
  ·rename_i sz by' zc h1 h2
   (try simp only [h1,h2])
   split at h
   ·rename_i k hu
    (try simp only [hu])
    refine gH_one h λr hr=>hop.trans ?_
    obtain ⟨e,i,z,q1,q2,q3,rfl,rfl,rfl,q4,q5,q6,q7⟩:=elemI_ok h1;have e1 : aappend P H t u s x=none:=by unfold aappend; rw [q1,hu]
    have e2 : aappendZ P H t u s x=aappZ1 H i.size i.bytes (z.cells.toList.map .lit) s x:=by
     unfold aappendZ;simp only [q1,hu,q2,q3];rw [if_neg (by simp [q4,q5,q6,q7])]
    simp only [zfmZ,e1,e2,hr]
   ·exact h.elim
  ·exact h.elim
 ·rename_i t u d s
  (try simp only)
  split at h
  ·rename_i sz hl
   obtain ⟨e,h1,h2⟩:=zbaxZ hl
   (try simp only [hl])
   refine gH_one h λr hr=>hop.trans ?_
   show acopy P H t d s=_
   unfold acopy;simp only [h1,h2];exact hr
  ·exact h.elim
 ·exact ztrZ h λr hr=>hop.trans (by simp [zfmZ,hr])
 ·exact ztrZ h λr hr=>hop.trans (by simp [zfmZ,hr])
 ·exact h.elim
theorem pureOp_none (op : Op) : zyqZ none0 op=false:=by
 unfold zyqZ
 split <;> rfl
set_option maxHeartbeats 2000000 in
theorem sOp_one {o : Oper} (h : sOp P ql none0 dr ρ H o w K) : ∃ r H',K r H'∧StepR P ql dr ρ H o w r H'∧∀ K2 : AV→AH→Prop,K2 r H'→sOp P ql none0 dr ρ H o w K2:=by
 obtain ⟨dst,op,type,pos,after,guard⟩:=o;cases op
 case move x => exact ztrZ h λr hr=>by injection hr with hr; subst hr; exact (zfaZ rfl).trans rfl
 case assign x => exact ztrZ h λr hr=>by injection hr with hr; subst hr; exact (zfaZ rfl).trans rfl
 case pick c a b =>
  refine ztrZ h λr hr=>(zfaZ rfl).trans ?_
  unfold apick at hr;split at hr
  ·rename_i t ht
   injection hr with hr; subst hr;simp [aop,ht]
  ·cases hr
 case alloc e =>
  unfold sOp at h ⊢;simp only at h ⊢;split at h
  ·rename_i z hz
   (try simp only [hz])
   exact gH_one h λr hr=>(zfaZ rfl).trans (by simp [aop,hz,hr])
  ·exact h.elim
 case box e x => exact gH_one h λr hr=>(zfaZ rfl).trans (by simp [aop,hr])
 case build t parts =>
  unfold sOp at h ⊢;simp only at h ⊢;split at h
  ·rename_i zc pl hz
   (try simp only [hz])
   split at h
   ·rename_i l hl
    (try simp only [hl])
    refine ztrZ h λr hr=>(zfaZ rfl).trans ?_
    unfold abl at hr;simp [aop,buildZ_ok hz,places_ok _ _ zc hl,hr]
   ·exact h.elim
  ·exact h.elim
 case buildSlice t len parts =>
  unfold sOp at h ⊢;simp only at h ⊢;split at h
  ·rename_i sz by' zc hz
   (try simp only [hz])
   obtain ⟨e,i,z,h1,h2,h3,rfl,rfl,rfl,h4,h5,h6,h7⟩:=elemI_ok hz;split at h
   ·rename_i hle
    (try simp only [hle])
    have hle:=Nat.le_of_ble_eq_true hle;split at h
    ·rename_i l hl
     (try simp only [hl])
     cases dr with
     | true =>
      simp only at h ⊢;refine ztrZ h λr hr=>?_
      unfold absf at hr;obtain ⟨cs,hcs,rfl⟩:=Option.map_eq_some_iff.1 hr;simp only [opD,isBS,Bool.and_self,if_true,zbdkZ,znoZ,h1,h2,h3];rw [if_pos ⟨hle,h6,h4,h7⟩,places_ok _ _ _ hl,hcs];rfl
     | false =>
      simp only at h ⊢;refine gH_one h λr hr=>?_
      unfold absl at hr;obtain ⟨cs,hcs,rfl⟩:=Option.map_eq_some_iff.1 hr;simp only [opD,Bool.false_and,Bool.false_eq_true,if_false,aop,znoZ,h1,h2,h3];rw [if_pos ⟨hle,h6,h4,h7⟩,places_ok _ _ _ hl,hcs];rfl
    ·exact h.elim
   ·exact h.elim
  ·exact h.elim
 case load t a =>
  unfold sOp at h ⊢;simp only at h ⊢;split at h
  ·rename_i g n hg hn
   (try simp only [hg,hn])
   exact ztrZ h λr hr=>(zfaZ rfl).trans (by simp [aop,ald_ok hg hn,hr])
  ·exact h.elim
 case store t a x =>
  unfold sOp at h ⊢;simp only at h ⊢;split at h
  ·rename_i n hn
   (try simp only [hn])
   exact gS_one' h λr hr=>(zfaZ rfl).trans (by simp [aop,ast_ok hn,hr])
  ·exact h.elim
 case nilCheck x => exact ztrZ h λr hr=>(zfaZ rfl).trans (by simp [aop,hr])
 case binOp op t x y yt =>
  unfold sOp at h ⊢;simp only at h ⊢;split at h
  ·rename_i hu; (try simp only [hu])
   exact ztrZ h λr hr=>(zfaZ rfl).trans (by simp [aop,abI_ok hr])
  ·rename_i hu; (try simp only [hu])
   exact ztrZ h λr hr=>(zfaZ rfl).trans (by simp [aop,abT_ok hr])
  ·rename_i hu; (try simp only [hu])
   exact ztrZ h λr hr=>(zfaZ rfl).trans (by simp [aop,abB_ok hu hr])
  ·rename_i hu; (try simp only [hu])
   exact ztrZ h λr hr=>(zfaZ rfl).trans (by simp [aop,abN_ok (by rintro v hv (⟨k,n,rfl⟩ | ⟨s,rfl⟩) <;> rw [hv] <;> rfl) (aeq_ptr hu) hr])
  ·rename_i hu; (try simp only [hu])
   exact ztrZ h λr hr=>(zfaZ rfl).trans (by simp [aop,abN_ok (by rintro v hv (⟨k,n,rfl⟩ | ⟨s,rfl⟩) <;> rw [hv] <;> rfl) (aeq_sl hu) hr])
  ·rename_i hu; (try simp only [hu])
   exact ztrZ h λr hr=>(zfaZ rfl).trans (by simp [aop,abN_ok (by rintro v hv (⟨k,n,rfl⟩ | ⟨s,rfl⟩) <;> rw [hv] <;> rfl) (aeq_fn hu) hr])
  ·rename_i hu; (try simp only [hu])
   exact ztrZ h λr hr=>(zfaZ rfl).trans (by simp [aop,abN_ok (by rintro v hv (⟨k,n,rfl⟩ | ⟨s,rfl⟩) <;> rw [hv] <;> rfl) (aeq_mp hu) hr])
  ·obtain ⟨r,H',h1,h2,h3⟩:=ztrZ (P:=P) (ql:=ql) (dr:=dr) (ρ:=ρ) (o:=⟨dst,.binOp op t x y yt,type,pos,after,guard⟩) h λr hr=>(zfaZ rfl).trans (by simp [aop,hr])
   refine ⟨r,H',h1,h2,λK2 hk=>?_⟩;exact h3 K2 hk
 case unOp op t x => exact ztrZ h λr hr=>(zfaZ rfl).trans (by simp [aop,hr])
 case convert s d x =>
  unfold sOp at h ⊢;simp only at h ⊢;split at h
  ·rename_i k hc
   obtain ⟨h1,y,h2⟩:=convI_ok hc
   (try simp only [hc])
   refine ztrZ h λr hr=>(zfaZ rfl).trans ?_
   unfold acI at hr;split at hr
   ·rename_i hx
    injection hr with hr; subst hr;simp [aop,zyiZ,h1,h2,hx]
   ·cases hr
  ·rename_i hc
   obtain ⟨h1,h2⟩:=convI_ok hc
   (try simp only [hc])
   refine ztrZ h λr hr=>(zfaZ rfl).trans ?_
   unfold acS at hr;split at hr
   ·rename_i hx
    injection hr with hr; subst hr;simp [aop,zyiZ,h1,h2,hx]
   ·cases hr
  ·rename_i hc
   obtain ⟨h1,e,h2,h3⟩:=convI_ok hc
   (try simp only [hc])
   refine ztrZ h λr hr=>(zfaZ rfl).trans ?_
   unfold acB at hr;split at hr
   ·cases hr
   ·rename_i hx
    have : zyiZ P H s d (ρ x)=some r:=by
     unfold zyiZ;simp only [h1,h2];split at hr
     ·rename_i cs n hs
      simp only [h3,hs];exact hr
     ·cases hr
    simp [aop,this]
  ·rename_i hc
   obtain ⟨h1,e,h2,h3⟩:=convI_ok hc
   (try simp only [hc])
   refine ztrZ h λr hr=>(zfaZ rfl).trans ?_
   unfold acT at hr;split at hr
   ·rename_i t hx
    injection hr with hr; subst hr;simp [aop,zyiZ,h1,h2,h3,hx,abytes]
   ·cases hr
  ·rename_i hc
   obtain ⟨rfl,e,h2,h3⟩:=convI_ok hc
   (try simp only [hc])
   refine gH_one h λr hr=>(zfaZ rfl).trans ?_
   have hb : Nat.beq s s=true:=Nat.beq_refl s;simp [aop,zyiZ,abytes,asame,hb,h2,h3,hr]
  ·exact h.elim
 case makeFunc fn f c => exact ztrZ h λr hr=>by injection hr with hr; subst hr; exact (zfaZ rfl).trans rfl
 case makeSlice t l c =>
  unfold sOp at h ⊢;simp only at h ⊢;split at h
  ·rename_i sz by' zc hz
   (try simp only [hz])
   obtain ⟨e,i,z,h1,h2,h3,rfl,rfl,rfl,h4,h5,h6,h7⟩:=elemI_ok hz;refine gH_one h λr hr=>(zfaZ rfl).trans ?_
   unfold amk at hr;split at hr
   ·rename_i k n k' m hn hm
    split at hr
    ·rename_i hb
     injection hr with hr; subst hr;simp only [aop,amake,h1,hn,hm,h2,h3];rw [if_pos ⟨hb.1,hb.2.1,hb.2.2.1,hb.2.2.2,h6,h4,h7⟩]
    ·cases hr
   ·cases hr
  ·exact h.elim
 case slice t x lo hi mx =>
  unfold sOp at h ⊢;simp only at h ⊢;split at h
  ·rename_i hl
   have h1:=zbaxZ hl
   (try simp only [hl])
   refine ztrZ h λr hr=>(zfaZ rfl).trans ?_
   unfold aslT at hr;split at hr
   ·rename_i s hs
    simp only [aop,aslice,h1,hs,Option.map_none];exact congrArg (Option.map λv=>(v,H)) hr
   ·cases hr
  ·rename_i sz hl
   obtain ⟨e,h1,h2⟩:=zbaxZ hl
   (try simp only [hl])
   refine ztrZ h λr hr=>(zfaZ rfl).trans ?_
   unfold aslS at hr;simp only [aop,aslice,h1,h2];split at hr
   ·rename_i hx; rw [hx]; exact congrArg (Option.map λv=>(v,H)) hr
   ·rename_i hx; rw [hx]; exact congrArg (Option.map λv=>(v,H)) hr
   ·rename_i hx; rw [hx]; exact congrArg (Option.map λv=>(v,H)) hr
   ·rename_i hx; rw [hx]; exact congrArg (Option.map λv=>(v,H)) hr
   ·cases hr
  ·rename_i n sz hl
   obtain ⟨e,h1,h2⟩:=zbaxZ hl
   (try simp only [hl])
   refine ztrZ h λr hr=>(zfaZ rfl).trans ?_
   unfold aslA at hr;simp only [aop,aslice,h1,h2,Option.map_none];exact congrArg (Option.map λv=>(v,H)) hr
  ·exact h.elim
 case fieldAddr s x f =>
  unfold sOp at h ⊢;simp only at h ⊢;split at h
  ·rename_i k hk
   (try simp only [hk])
   exact ztrZ h λr hr=>(zfaZ rfl).trans (by simp [aop,zbfmZ,hk,hr])
  ·exact h.elim
 case field s x f =>
  unfold sOp at h ⊢;simp only at h ⊢;split at h
  ·rename_i g n off hk
   (try simp only [hk])
   exact ztrZ h λr hr=>(zfaZ rfl).trans (by simp [aop,fieldI_ok hk,hr])
  ·exact h.elim
 case indexAddr t x i =>
  unfold sOp at h ⊢;simp only at h ⊢;split at h
  ·rename_i sz hl
   obtain ⟨e,h1,h2⟩:=indexI_ok hl
   (try simp only [hl])
   refine ztrZ h λr hr=>(zfaZ rfl).trans ?_
   unfold aixS at hr;simp only [aop,zbciZ,h1,h2];exact congrArg (Option.map λv=>(v,H)) hr
  ·rename_i len sz hl
   obtain ⟨e,h1,h2⟩:=indexI_ok hl
   (try simp only [hl])
   refine ztrZ h λr hr=>(zfaZ rfl).trans ?_
   unfold aixA at hr;simp only [aop,zbciZ,h1,h2];exact congrArg (Option.map λv=>(v,H)) hr
  ·exact h.elim
 case index t x i =>
  unfold sOp at h ⊢;simp only at h ⊢;split at h
  ·rename_i hl
   have h1:=ivI_ok hl
   (try simp only [hl])
   refine ztrZ h λr hr=>(zfaZ rfl).trans ?_
   unfold aivT at hr;simp only [aop,aindex,h1];exact congrArg (Option.map λv=>(v,H)) hr
  ·rename_i g n len sz hl
   obtain ⟨e,h1,h2,h3,rfl⟩:=ivI_ok hl
   (try simp only [hl])
   refine ztrZ h λr hr=>(zfaZ rfl).trans ?_
   unfold aivA aprt at hr;simp only [aop,aindex,h1,h2,h3,apart];cases hi : aint (ρ i) with
   | none => rw [hi] at hr; cases hr
   | some m =>
    rw [hi] at hr;simp only at hr ⊢;split at hr
    ·rename_i hb
     rw [if_pos hb];cases hx : ρ x <;> rw [hx] at hr <;> first
      | (simp only at hr ⊢; exact congrArg (Option.map λv=>(v,H)) hr)
      | cases hr
    ·cases hr
  ·exact h.elim
 case extract t i => exact ztrZ h λr hr=>(zfaZ rfl).trans (by simp [aop,hr])
 case makeMap t l =>
  unfold sOp at h ⊢;simp only at h ⊢;split at h
  ·rename_i q hl
   obtain ⟨d,z⟩:=q;obtain ⟨key,elem,h1,h2,h3⟩:=mapI_ok hl
   (try simp only [hl])
   refine gH_one h λr hr=>(zfaZ rfl).trans ?_
   unfold amkM at hr;simp only [aop,amakeMap,h1];split at hr
   ·rename_i he; rw [he]; exact hr
   ·rename_i he; rw [he]; exact hr
   ·cases hr
  ·exact h.elim
 case lookup t x k co =>
  unfold sOp at h ⊢;simp only at h ⊢;split at h
  ·rename_i d z hl
   obtain ⟨key,elem,h1,h2,h3⟩:=mapI_ok hl
   (try simp only [hl])
   refine ztrZ h λr hr=>(zfaZ rfl).trans ?_
   unfold alk at hr;simp only [aop,alookup,h1];split at hr
   ·rename_i es kv he hk
    simp only [he,hk,h2,h3];exact congrArg (Option.map λv=>(v,H)) hr
   ·cases hr
  ·exact h.elim
 case mapUpdate t m k x =>
  unfold sOp at h ⊢;simp only at h ⊢;split at h
  ·rename_i d z hl
   obtain ⟨key,elem,h1,h2,h3⟩:=mapI_ok hl
   (try simp only [hl])
   refine gS_one' h λr hr=>(zfaZ rfl).trans ?_
   unfold amu at hr;simp only [aop,zbcfZ,h1];split at hr
   ·rename_i o kv he hk
    simp only [he,hk,h2];split at hr
    ·rename_i es hes
     simp only [hes];exact congrArg (Option.map λv=>(zgmZ,v)) hr
    ·cases hr
   ·cases hr
  ·exact h.elim
 case mapEntry t m k =>
  unfold sOp at h ⊢;simp only at h ⊢;split at h
  ·rename_i d z hl
   obtain ⟨key,elem,h1,h2,h3⟩:=mapI_ok hl
   (try simp only [hl])
   refine gH_one h λr hr=>(zfaZ rfl).trans ?_
   unfold ame at hr;simp only [aop,amapEntry,h1];split at hr
   ·rename_i o kv he hk
    simp only [he,hk,h2];split at hr
    ·rename_i es hes
     simp only [hes,h3];exact hr
    ·cases hr
   ·cases hr
  ·exact h.elim
 case entryStore t m s x => exact gS_one' h λr hr=>(zfaZ rfl).trans (by simp [aop,hr])
 case call c =>
  obtain ⟨callee,args,ats⟩:=c;cases callee with
  | builtin b => exact sBuiltin_one h
  | invoke r m => exact h.elim
  | value f =>
   have hn : opD P dr ρ H ⟨dst,.call { callee:=.value f,args,argTypes:=ats },type,pos,after,guard⟩=none:=(zfaZ rfl).trans rfl;have hal : zyqZ none0 (.call { callee:=.value f,args,argTypes:=ats })=false:=pureOp_none _;cases w with
   | false =>
    have key : ∀ K2 : AV→AH→Prop,sOp P ql none0 dr ρ H ⟨dst,.call { callee:=.value f,args,argTypes:=ats },type,pos,after,guard⟩ false K2=K2 zgmZ H:=by
     intro K2;unfold sOp bF;simp only [hal,Bool.not_false,Bool.or_true];unfold bT;simp only [];cases zyqZ ql (Op.call { callee:=.value f,args,argTypes:=ats }) <;> cases dr <;> simp only [gC,gP] <;> split <;> rfl
    rw [key] at h;exact ⟨zgmZ,H,h,.inr ⟨rfl,rfl,rfl⟩,λK2 h2=>by rw [key]; exact h2⟩
   | true =>
   unfold sOp bF at h ⊢;simp only [hal,Bool.not_true,Bool.or_false] at h ⊢;split at h
   ·rename_i k first cap hf
    (try simp only [hf])
    unfold bT at h ⊢;split at h
    ·rename_i hg
     (try simp only [hg])
     split at h
     ·rename_i hp
      (try simp only [hp])
      cases dr with
      | true =>
       obtain ⟨r,hr,hk⟩:=h;refine ⟨r,H,hk,.inl ⟨rfl,.inr ⟨hn, ?_⟩⟩,λK2 hk=>⟨r,hr,hk⟩⟩;unfold wCall acall;simp only [hf];refine ⟨hg, ?_⟩;rw [if_pos (by simp [hp])];exact ⟨hr,trivial⟩
      | false =>
       obtain ⟨r,hr,hk⟩:=h;refine ⟨r,H,hk,.inl ⟨rfl,.inr ⟨hn, ?_⟩⟩,λK2 hk=>⟨r,hr,hk⟩⟩;unfold wCall acall;simp only [hf];refine ⟨hg, ?_⟩;rw [if_neg (by simp)];exact hr.call
     ·rename_i hp
      (try simp only [hp])
      obtain ⟨r,H',hr,hk⟩:=h;refine ⟨r,H',hk,.inl ⟨rfl,.inr ⟨hn, ?_⟩⟩,λK2 hk=>⟨r,H',hr,hk⟩⟩;unfold wCall acall;simp only [hf];refine ⟨hg, ?_⟩;rw [if_neg (by simp only [hp,Bool.and_false]; simp)];exact hr
    ·exact h.elim
   ·exact h.elim
 all_goals exact h.elim
theorem sOp_al {al : FuncId→Bool} {o : Oper} (ha : zyqZ al o.op=false) : sOp P ql al dr ρ H o w K=sOp P ql none0 dr ρ H o w K:=by
 obtain ⟨dst,op,type,pos,after,guard⟩:=o;simp only at ha;cases op
 case call c =>
  obtain ⟨callee,args,ats⟩:=c;cases callee with
  | value f =>
   have hal : zyqZ none0 (.call { callee:=.value f,args,argTypes:=ats })=false:=pureOp_none _;unfold sOp;simp only [ha,hal]
  | builtin b => rfl
  | invoke r m => rfl
 all_goals rfl
theorem sOp_dr {al : FuncId→Bool} {o : Oper} (h : sOp P ql al true ρ H o w K) : sOp P ql none0 true ρ H o w K:=by
 cases ha : zyqZ al o.op with
 | false => rwa [sOp_al ha] at h
 | true =>
  obtain ⟨dst,op,type,pos,after,guard⟩:=o;simp only at ha;unfold zyqZ at ha;split at ha
  ·rename_i k args ats
   exfalso
   have ha' : zyqZ al (.call { callee:=.value (.func k),args:=args,argTypes:=ats })=true:=ha;unfold sOp bF at h;simp only [ha'] at h;split at h
   ·exact h
   ·split at h <;> exact h
  ·cases ha
theorem sOp_ops {al : FuncId→Bool} {ops : Array Oper} {Q : AQ} {T : List AV} {o : Oper} {l : List Oper} (hw : zmbZ ops T o=some w) (h : sOp P ql al false (aeval T) H o w K) (hk : ∀ r H',K r H'→AOps P ops Q l (aput T o.dst r) H') : AOps P ops Q (o :: l) T H:=by
 cases ha : zyqZ al o.op with
 | false =>
  rw [sOp_al ha] at h;obtain ⟨r,H',hk1,hs,-⟩:=sOp_one h;have hr:=hk r H' hk1;rcases hs with ⟨rfl,ho | ⟨ho,hc⟩⟩ | ⟨rfl,rfl,rfl⟩
  ·exact AOps.op hw (by simpa [opD] using ho) hr
  ·unfold wCall at hc
   split at hc
   ·rename_i k args hcall
    simp only [Bool.false_and,Bool.false_eq_true,if_false] at hc;refine AOps.call hw hcall hc.1 (hc.2.mono ?_);rintro r' H'' ⟨rfl,rfl⟩;exact hr
   ·exact hc.elim
  ·exact AOps.unwanted hw hr
 | true =>
  obtain ⟨dst,op,type,pos,after,guard⟩:=o;simp only at ha;unfold zyqZ at ha;split at ha
  ·rename_i k args ats
   have ha' : zyqZ al (.call { callee:=.value (.func k),args:=args,argTypes:=ats })=true:=ha;unfold sOp bF at h;simp only [ha'] at h;split at h
   ·rename_i k' first cap hf
    simp only [aeval] at hf;injection hf with h1 h2 h3;injection h1 with h1;subst h1; subst h2; subst h3;split at h
    ·rename_i hg
     cases w with
     | true =>
      obtain ⟨R,hR,hall⟩:=h;exact AOps.call (args:=[] ++ args.toList.map (aeval T) ++ []) hw rfl hg (hR.mono λr H' hr=>hk r H' (hall r H' hr))
     | false => exact AOps.unwanted hw (hk _ _ h)
    ·cases w with
     | true =>
      obtain ⟨r,hr,h⟩:=h;exact AOps.extern (args:=[] ++ args.toList.map (aeval T) ++ []) hw rfl (λG vs hH hv=>hr G vs hH hv) (hk _ _ h)
     | false => exact AOps.unwanted hw (hk _ _ h)
   ·rename_i hne
    exact (hne k [] [] rfl).elim
  ·cases ha
end
end Go.Proofs.YtlhiaihmkjlaaaaGreat.Av
end
