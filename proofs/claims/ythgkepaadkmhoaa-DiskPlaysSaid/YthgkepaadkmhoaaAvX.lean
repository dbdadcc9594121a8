/- Regions whose order is drawn: operations that only read, in whatever order, then a tail whose order is forced. -/
import Derived.Test.YthgkepaadkmhoaaAvW
set_option linter.unusedVariables false
set_option linter.unusedSimpArgs false
namespace Go.Proofs.Ythgkepaadkmhoaa.Av
open Go Go.RowKit

section
variable {P : Program}

/-! ### an operation looks at its operands alone -/
theorem map_congr_ops {ρ ρ' : Operand → AV} (l : List Operand) (h : ∀ x ∈ l, ρ x = ρ' x) : l.map ρ = l.map ρ' := List.map_congr_left h
theorem aop_congr {ρ ρ' : Operand → AV} {H : AH} {o : Oper} (h : ∀ x ∈ o.op.operands.toList, ρ x = ρ' x) : aop P ρ H o = aop P ρ' H o := by
  obtain ⟨dst, op, type, pos, after, guard⟩ := o
  have pairs : ∀ ps : Array (Nat × Operand), (∀ x ∈ ps.toList.map (·.2), ρ x = ρ' x) → (ps.toList.map fun p => (p.1, ρ p.2)) = (ps.toList.map fun p => (p.1, ρ' p.2)) := fun ps hp =>
    List.map_congr_left fun p hm => by rw [hp p.2 (List.mem_map.2 ⟨p, hm, rfl⟩)]
  cases op
  case move x => simp only [aop]; rw [h x (by simp [Op.operands])]
  case assign x => simp only [aop]; rw [h x (by simp [Op.operands])]
  case pick c a b => simp only [aop]; rw [h c (by simp [Op.operands]), h a (by simp [Op.operands]), h b (by simp [Op.operands])]
  case box e x => simp only [aop]; rw [h x (by simp [Op.operands])]
  case build t ps => simp only [aop]; rw [pairs ps (fun x hx => h x (by simpa [Op.operands] using hx))]
  case buildSlice t n ps => simp only [aop]; rw [pairs ps (fun x hx => h x (by simpa [Op.operands] using hx))]
  case load t a => simp only [aop]; rw [h a (by simp [Op.operands])]
  case store t a x => simp only [aop]; rw [h a (by simp [Op.operands]), h x (by simp [Op.operands])]
  case nilCheck x => simp only [aop]; rw [h x (by simp [Op.operands])]
  case binOp op t x y u => simp only [aop]; rw [h x (by simp [Op.operands]), h y (by simp [Op.operands])]
  case unOp op t x => simp only [aop]; rw [h x (by simp [Op.operands])]
  case convert s d x => simp only [aop]; rw [h x (by simp [Op.operands])]
  case makeFunc fn f c =>
    simp only [aop]
    rw [map_congr_ops f.toList (fun x hx => h x (by simp [Op.operands]; exact .inl (Array.mem_toList_iff.1 hx))), map_congr_ops c.toList (fun x hx => h x (by simp [Op.operands]; exact .inr (Array.mem_toList_iff.1 hx)))]
  case makeSlice t l c => simp only [aop]; rw [h l (by simp [Op.operands]), h c (by simp [Op.operands])]
  case slice t x lo hi mx =>
    simp only [aop]
    have e : ∀ q : Option Operand, (∀ y, q = some y → ρ y = ρ' y) → q.map ρ = q.map ρ' := by
      intro q hq
      cases q with
      | none => rfl
      | some y => simp [hq y rfl]
    rw [h x (by simp [Op.operands]), e lo (fun y hy => h y (by simp [Op.operands, hy])), e hi (fun y hy => h y (by simp [Op.operands, hy])), e mx (fun y hy => h y (by simp [Op.operands, hy]))]
  case fieldAddr s x f => simp only [aop]; rw [h x (by simp [Op.operands])]
  case field s x f => simp only [aop]; rw [h x (by simp [Op.operands])]
  case indexAddr t x i => simp only [aop]; rw [h x (by simp [Op.operands]), h i (by simp [Op.operands])]
  case index t x i => simp only [aop]; rw [h x (by simp [Op.operands]), h i (by simp [Op.operands])]
  case extract t i => simp only [aop]; rw [h t (by simp [Op.operands])]
  case makeMap t l =>
    simp only [aop]
    have e : l.map ρ = l.map ρ' := by
      cases l with
      | none => rfl
      | some y => simp [h y (by simp [Op.operands])]
    rw [e]
  case lookup t x k co => simp only [aop]; rw [h x (by simp [Op.operands]), h k (by simp [Op.operands])]
  case mapUpdate t m k x => simp only [aop]; rw [h m (by simp [Op.operands]), h k (by simp [Op.operands]), h x (by simp [Op.operands])]
  case mapEntry t m k => simp only [aop]; rw [h m (by simp [Op.operands]), h k (by simp [Op.operands])]
  case entryStore t m s x => simp only [aop]; rw [h m (by simp [Op.operands]), h s (by simp [Op.operands]), h x (by simp [Op.operands])]
  case call c =>
    obtain ⟨callee, args, ats⟩ := c
    cases callee
    case builtin b =>
      simp only [aop]
      rw [map_congr_ops args.toList (fun x hx => h x (by simp [Op.operands, Call.operands]; exact Array.mem_toList_iff.1 hx))]
    all_goals rfl
  all_goals rfl

/-- Operations that leave the heap as it is. -/
def stillOp : Op → Bool
  | .move _ | .assign _ | .pick .. | .build .. | .load .. | .nilCheck _ | .binOp .. | .unOp .. | .makeFunc .. | .slice .. | .fieldAddr .. | .field .. | .indexAddr .. | .index .. | .extract .. | .lookup .. => true
  | .call { callee := .builtin b, .. } => match b with
    | .len | .min | .max | .cap => true
    | _ => false
  | .convert .. => true
  | _ => false
theorem still_heap {ρ : Operand → AV} {H H' : AH} {o : Oper} {r : AV} (hs : stillOp o.op = true) (h : aop P ρ H o = some (r, H')) : H' = H := by
  obtain ⟨dst, op, type, pos, after, guard⟩ := o
  cases op <;> first
    | (simp [stillOp] at hs; done)
    | exact (mk_pair h).2
    | exact (map_pair h).2
    | skip
  case pick c a b =>
    unfold aop at h
    simp only at h
    split at h
    · exact (mk_pair h).2
    · cases h
  case convert s d x =>
    unfold aop at h
    simp only at h
    split at h
    · exact (mk_pair h).2
    · exact (map_pair h).2
  case call c =>
    obtain ⟨callee, args, ats⟩ := c
    cases callee
    case builtin b =>
      have h' : abuiltin P H b ats.toList (args.toList.map ρ) = some (r, H') := h
      unfold abuiltin at h'
      split at h' <;> first
        | exact (map_pair h').2
        | (simp [stillOp] at hs; done)
        | cases h'
    all_goals simp [stillOp] at hs

/-! ### who must stand ahead of whom -/
def maskOf (o : Oper) (acc : List Nat) : Nat := o.after.toList.foldl (fun s e => if Region.binds .any e then s ||| 2 ^ e.on ||| acc.getD e.on 0 else s) 0
def masks : List Oper → List Nat → List Nat
  | [], acc => acc
  | o :: r, acc => masks r (acc ++ [maskOf o acc])
theorem masks_old (l : List Oper) : ∀ acc i, i < acc.length → (masks l acc).getD i 0 = acc.getD i 0 := by
  induction l with
  | nil => intro acc i _; rfl
  | cons o l ih =>
    intro acc i hi
    simp only [masks]
    rw [ih _ _ (by simp; omega)]
    simp [List.getD_eq_getElem?_getD, List.getElem?_append_left hi]
theorem masks_get (l : List Oper) : ∀ acc j o, l[j]? = some o → ∃ acc', (∀ i, i < acc.length + j → acc'.getD i 0 = (masks l acc).getD i 0) ∧ (masks l acc).getD (acc.length + j) 0 = maskOf o acc' := by
  induction l with
  | nil => intro acc j o h; simp at h
  | cons p l ih =>
    intro acc j o h
    cases j with
    | zero =>
      simp at h
      subst h
      refine ⟨acc, fun i hi => ?_, ?_⟩
      · exact (masks_old (p :: l) acc i (by omega)).symm
      · simp only [masks]
        rw [masks_old _ _ _ (by simp)]
        simp [List.getD_eq_getElem?_getD]
    | succ j =>
      simp only [List.getElem?_cons_succ] at h
      obtain ⟨acc', h1, h2⟩ := ih (acc ++ [maskOf p acc]) j o h
      simp only [List.length_append, List.length_cons, List.length_nil, Nat.zero_add] at h1 h2
      refine ⟨acc', fun i hi => h1 i (by omega), ?_⟩
      simp only [masks]
      rw [← h2]
      congr 1
      omega
theorem testBit_fold (acc : List Nat) (j : Nat) : ∀ (l : List Edge) (s : Nat), (l.foldl (fun s e => if Region.binds .any e then s ||| 2 ^ e.on ||| acc.getD e.on 0 else s) s).testBit j = true →
    s.testBit j = true ∨ ∃ e ∈ l, Region.binds .any e = true ∧ (e.on = j ∨ (acc.getD e.on 0).testBit j = true) := by
  intro l
  induction l with
  | nil => intro s h; exact .inl h
  | cons e l ih =>
    intro s h
    simp only [List.foldl_cons] at h
    rcases ih _ h with h | ⟨e', he', hb, hh⟩
    · split at h
      · rename_i hb
        simp only [Nat.testBit_or, Bool.or_eq_true, Nat.testBit_two_pow, decide_eq_true_eq] at h
        rcases h with (h | h) | h
        · exact .inl h
        · exact .inr ⟨e, by simp, hb, .inl h⟩
        · exact .inr ⟨e, by simp, hb, .inr h⟩
      · exact .inl h
    · exact .inr ⟨e', by simp [he'], hb, hh⟩

def ClosedL (ops : List Oper) (lst : Nat → Bool) : Prop := ∀ (i : Nat) (o : Oper), ops[i]? = some o → lst i = true → ∀ e ∈ o.after, Region.binds .any e = true → lst e.on = true
def edgesDown (ops : List Oper) : Bool := ops.zipIdx.all fun p => p.1.after.toList.all fun e => !Region.binds .any e || decide (e.on < p.2)
theorem edgesDown_ok {ops : List Oper} (h : edgesDown ops = true) {i : Nat} {o : Oper} (ho : ops[i]? = some o) {e : Edge} (he : e ∈ o.after) (hb : Region.binds .any e = true) : e.on < i := by
  unfold edgesDown at h
  rw [List.all_eq_true] at h
  have hm : (o, i) ∈ ops.zipIdx := by
    rw [List.mem_iff_getElem?]
    exact ⟨i, by rw [List.getElem?_zipIdx, ho]; simp⟩
  have := h _ hm
  rw [List.all_eq_true] at this
  have := this e (Array.mem_toList_iff.2 he)
  simpa [hb] using this
/-- What must stand ahead of an operation all of whose edges are met has been done. -/
theorem mask_met {ops : List Oper} (hd : edgesDown ops = true) {lst : Nat → Bool} (hc : ClosedL ops lst) : ∀ (i : Nat) (o : Oper), ops[i]? = some o → (∀ e ∈ o.after, Region.binds .any e = true → lst e.on = true) →
    ∀ j, ((masks ops []).getD i 0).testBit j = true → lst j = true := by
  intro i
  induction i using Nat.strongRecOn with
  | _ i ih =>
    intro o ho hall j hj
    obtain ⟨acc', h1, h2⟩ := masks_get ops [] i o ho
    simp only [List.length_nil, Nat.zero_add] at h1 h2
    rw [h2] at hj
    unfold maskOf at hj
    rcases testBit_fold acc' j _ 0 hj with h0 | ⟨e, he, hb, hh⟩
    · simp at h0
    · have he' := Array.mem_toList_iff.1 he
      have hl := hall e he' hb
      have hlt := edgesDown_ok hd ho he' hb
      rcases hh with rfl | hh
      · exact hl
      · rw [h1 _ hlt] at hh
        have hex : ∃ o', ops[e.on]? = some o' := by
          have : i < ops.length := (List.getElem?_eq_some_iff.1 ho).1
          exact ⟨_, List.getElem?_eq_getElem (by omega)⟩
        obtain ⟨o', ho'⟩ := hex
        exact ih _ hlt o' ho' (fun e' he' hb' => hc _ _ ho' hl e' he' hb') j hh

/-- Slots that an operation looks at. -/
def looks (ops : List Oper) (o : Oper) : List Tmp :=
  o.dst.toList ++ (o.op.operands.toList.filterMap fun | .tmp t => some t | _ => none) ++ (match o.guard with
    | some (g, _) => ((ops[g]?).bind (·.dst)).toList
    | none => [])
/-- The region's static side: edges go down; writers and readers of one slot are ordered; from k on each operation stands behind all ahead of it; those ahead only read. -/
def regOk (ops : List Oper) (k : Nat) : Bool :=
  let b := masks ops []
  edgesDown ops && decide (k ≤ ops.length) &&
  (ops.zipIdx.all fun p => ops.zipIdx.all fun q => (p.2 == q.2) || (match q.1.dst with
    | some d => !(looks ops p.1).contains d || (b.getD (max p.2 q.2) 0).testBit (min p.2 q.2)
    | none => true)) &&
  (ops.zipIdx.all fun p => decide (p.2 < k) || (List.range p.2).all fun i => (b.getD p.2 0).testBit i) &&
  (ops.zipIdx.all fun p => decide (k ≤ p.2) || stillOp p.1.op)
theorem zip_mem {ops : List Oper} {i : Nat} {o : Oper} (ho : ops[i]? = some o) : (o, i) ∈ ops.zipIdx := by
  rw [List.mem_iff_getElem?]
  exact ⟨i, by rw [List.getElem?_zipIdx, ho]; simp⟩
structure RegOk (ops : List Oper) (k : Nat) : Prop where
  down : edgesDown ops = true
  le : k ≤ ops.length
  ord : ∀ i j oi oj d, ops[i]? = some oi → ops[j]? = some oj → i ≠ j → oj.dst = some d → d ∈ looks ops oi → ((masks ops []).getD (max i j) 0).testBit (min i j) = true
  tail : ∀ i o, ops[i]? = some o → k ≤ i → ∀ j, j < i → ((masks ops []).getD i 0).testBit j = true
  still : ∀ i o, ops[i]? = some o → i < k → stillOp o.op = true
theorem regOk_ok {ops : List Oper} {k : Nat} (h : regOk ops k = true) : RegOk ops k := by
  unfold regOk at h
  simp only [Bool.and_eq_true, decide_eq_true_eq] at h
  obtain ⟨⟨⟨⟨h1, h2⟩, h3⟩, h4⟩, h5⟩ := h
  refine ⟨h1, h2, ?_, ?_, ?_⟩
  · intro i j oi oj d hi hj hne hd hl
    have := List.all_eq_true.1 (List.all_eq_true.1 h3 _ (zip_mem hi)) _ (zip_mem hj)
    simp only [hd] at this
    simp only [Bool.or_eq_true, beq_iff_eq, Bool.not_eq_true', List.contains_eq_mem, decide_eq_false_iff_not] at this
    rcases this with h | h | h
    · exact absurd h hne
    · exact absurd hl h
    · exact h
  · intro i o ho hk j hj
    have := List.all_eq_true.1 h4 _ (zip_mem ho)
    simp only [Bool.or_eq_true, decide_eq_true_eq] at this
    rcases this with h | h
    · omega
    · exact List.all_eq_true.1 h j (List.mem_range.2 hj)
  · intro i o ho hk
    have := List.all_eq_true.1 h5 _ (zip_mem ho)
    simp only [Bool.or_eq_true, decide_eq_true_eq] at this
    rcases this with h | h
    · omega
    · exact h

/-! ### the frame behind some of the operations -/
def dstOf (ops : List Oper) (j : Nat) : Option Tmp := (ops[j]?).bind (·.dst)
def pt (ops : List Oper) (vals : Nat → AV) (lst : Nat → Bool) (T : List AV) : Nat → List AV
  | 0 => T
  | n + 1 => if lst n then aput (pt ops vals lst T n) (dstOf ops n) (vals n) else pt ops vals lst T n
theorem aput_length (T : List AV) (d : Option Tmp) (v : AV) : (aput T d v).length = T.length := by cases d <;> simp [aput]
theorem pt_length {ops : List Oper} {vals : Nat → AV} {lst : Nat → Bool} {T : List AV} : ∀ n, (pt ops vals lst T n).length = T.length
  | 0 => rfl
  | n + 1 => by simp only [pt]; split <;> simp [aput_length, pt_length n]
theorem aput_get_ne {T : List AV} {d : Option Tmp} {v : AV} {t : Nat} (h : d ≠ some t) : (aput T d v)[t]? = T[t]? := by
  cases d with
  | none => rfl
  | some d => simp only [aput]; rw [List.getElem?_set_ne (fun e => h (by rw [e]))]
theorem pt_get {ops : List Oper} {vals : Nat → AV} {lst lst' : Nat → Bool} {T : List AV} {t : Nat} : ∀ n, (∀ j, j < n → dstOf ops j = some t → lst j = lst' j) → (pt ops vals lst T n)[t]? = (pt ops vals lst' T n)[t]?
  | 0, _ => rfl
  | n + 1, h => by
    have ih := pt_get (vals := vals) (T := T) n (fun j hj hd => h j (by omega) hd)
    by_cases hd : dstOf ops n = some t
    · have he := h n (by omega) hd
      simp only [pt, he]
      split
      · rw [hd]
        simp only [aput, List.getElem?_set]
        simp [pt_length]
      · exact ih
    · have side : ∀ l : Nat → Bool, (pt ops vals l T (n + 1))[t]? = (pt ops vals l T n)[t]? := fun l => by
        simp only [pt]
        split
        · exact aput_get_ne hd
        · rfl
      rw [side, side]
      exact ih
theorem pt_congr {ops : List Oper} {vals : Nat → AV} {lst lst' : Nat → Bool} {T : List AV} : ∀ n, (∀ j, j < n → lst j = lst' j) → pt ops vals lst T n = pt ops vals lst' T n
  | 0, _ => rfl
  | n + 1, h => by simp only [pt]; rw [pt_congr n (fun j hj => h j (by omega))]; simp only [h n (by omega)]
theorem aput_comm {T : List AV} {d e : Option Tmp} {v u : AV} (h : ∀ x, d = some x → e ≠ some x) : aput (aput T d v) e u = aput (aput T e u) d v := by
  cases d with
  | none => rfl
  | some d => cases e with
    | none => rfl
    | some e => simp only [aput]; exact List.set_comm _ _ (fun he => h d rfl (by rw [he]))
theorem pt_prefix {ops : List Oper} {vals : Nat → AV} {T : List AV} {i : Nat} : ∀ n, i ≤ n → pt ops vals (fun j => decide (j < i)) T n = pt ops vals (fun _ => true) T i := by
  have low : ∀ m, m ≤ i → pt ops vals (fun j => decide (j < i)) T m = pt ops vals (fun _ => true) T m := by
    intro m
    induction m with
    | zero => intro _; rfl
    | succ m ih => intro hm; simp only [pt]; rw [ih (by omega)]; simp [show m < i by omega]
  intro n hn
  induction n with
  | zero => have : i = 0 := by omega
            subst this; rfl
  | succ n ih =>
    rcases Nat.lt_or_ge n i with h | h
    · have : i = n + 1 := by omega
      subst this; exact low _ (Nat.le_refl _)
    · simp only [pt]
      rw [if_neg (by simp; omega)]
      exact ih h
def upd (lst : Nat → Bool) (i : Nat) : Nat → Bool := fun j => if j = i then true else lst j
theorem pt_add {ops : List Oper} {vals : Nat → AV} {lst : Nat → Bool} {T : List AV} {i : Nat} (hl : lst i = false) : ∀ n, (∀ j, i < j → j < n → lst j = true → ∀ x, dstOf ops i = some x → dstOf ops j ≠ some x) →
    pt ops vals (upd lst i) T n = if i < n then aput (pt ops vals lst T n) (dstOf ops i) (vals i) else pt ops vals lst T n
  | 0, _ => by simp [pt]
  | n + 1, h => by
    have ih := pt_add (vals := vals) (T := T) hl n (fun j h1 h2 => h j h1 (by omega))
    rcases Nat.lt_trichotomy n i with hlt | he | hgt
    · rw [if_neg (by omega)] at ih
      rw [if_neg (by omega)]
      simp only [pt, ih, upd]
      rw [if_neg (show ¬ n = i by omega)]
    · subst he
      rw [if_neg (by omega)] at ih
      rw [if_pos (by omega)]
      simp only [pt, ih, upd, if_true, hl, Bool.false_eq_true, if_false]
    · rw [if_pos hgt] at ih
      rw [if_pos (by omega)]
      simp only [pt, ih, upd]
      rw [if_neg (show ¬ n = i by omega)]
      split
      · rename_i hn
        exact aput_comm (h n hgt (by omega) hn)
      · rfl

/-- The operations in the text's order, none of which changes the heap. -/
inductive ARun (P : Program) (ops : Array Oper) (H : AH) : List Oper → List AV → List AV → Prop
  | nil (T : List AV) : ARun P ops H [] T T
  | op {o : Oper} {l : List Oper} {T T' : List AV} {r : AV} (hw : awanted ops T o = some true) (h : aop P (aeval T) H o = some (r, H)) (hr : ARun P ops H l (aput T o.dst r) T') : ARun P ops H (o :: l) T T'
  | unwanted {o : Oper} {l : List Oper} {T T' : List AV} (hw : awanted ops T o = some false) (hr : ARun P ops H l (aput T o.dst undefA) T') : ARun P ops H (o :: l) T T'
/-- What each of them gives. -/
structure Still (P : Program) (ops : List Oper) (k : Nat) (vals : Nat → AV) (T : List AV) (H : AH) : Prop where
  each : ∀ i o, i < k → ops[i]? = some o → ∃ b, awanted ops.toArray (pt ops vals (fun _ => true) T i) o = some b ∧ (b = true → aop P (aeval (pt ops vals (fun _ => true) T i)) H o = some (vals i, H)) ∧ (b = false → vals i = undefA)
theorem ARun.still {ops : List Oper} {H : AH} : ∀ (l : List Oper) (k : Nat) (T0 T T' : List AV) (vals0 : Nat → AV), ARun P ops.toArray H l T T' → (∀ j o, l[j]? = some o → ops[k + j]? = some o) → pt ops vals0 (fun _ => true) T0 k = T → Still P ops k vals0 T0 H →
    ∃ vals, Still P ops (k + l.length) vals T0 H ∧ pt ops vals (fun _ => true) T0 (k + l.length) = T'
  | [], k, T0, T, T', vals0, h, _, hp, hs => by
    cases h
    exact ⟨vals0, hs, hp⟩
  | o :: l, k, T0, T, T', vals0, h, hops, hp, hs => by
    have ho : ops[k]? = some o := by simpa using hops 0 o rfl
    have step : ∀ (r : AV) (b : Bool), awanted ops.toArray T o = some b → (b = true → aop P (aeval T) H o = some (r, H)) → (b = false → r = undefA) → ARun P ops.toArray H l (aput T o.dst r) T' →
        ∃ vals, Still P ops (k + (o :: l).length) vals T0 H ∧ pt ops vals (fun _ => true) T0 (k + (o :: l).length) = T' := by
      intro r b hb h1 h2 hrest
      let vals1 : Nat → AV := fun j => if j = k then r else vals0 j
      have same : ∀ m, m ≤ k → pt ops vals1 (fun _ => true) T0 m = pt ops vals0 (fun _ => true) T0 m := by
        intro m
        induction m with
        | zero => intro _; rfl
        | succ m ih => intro hm; simp only [pt, if_true]; rw [ih (by omega)]; simp [vals1, show m ≠ k by omega]
      have hk1 : pt ops vals1 (fun _ => true) T0 (k + 1) = aput T o.dst r := by
        simp only [pt, if_true]
        rw [same k (Nat.le_refl _), hp]
        simp [dstOf, ho, vals1]
      have hs1 : Still P ops (k + 1) vals1 T0 H := ⟨fun i p hi hpi => by
        rcases Nat.lt_or_ge i k with hlt | hge
        · obtain ⟨b', e1, e2, e3⟩ := hs.each i p hlt hpi
          have hv : vals1 i = vals0 i := by simp [vals1, show i ≠ k by omega]
          rw [same i (by omega), hv]
          exact ⟨b', e1, e2, e3⟩
        · have : i = k := by omega
          subst this
          rw [ho] at hpi
          injection hpi with hpi
          subst hpi
          rw [same i (Nat.le_refl _), hp]
          have hv : vals1 i = r := by simp [vals1]
          rw [hv]
          exact ⟨b, hb, h1, h2⟩⟩
      obtain ⟨vals, a1, a2⟩ := ARun.still l (k + 1) T0 _ T' vals1 hrest (fun j p hj => by have := hops (j + 1) p (by simpa using hj); rwa [show k + (j + 1) = k + 1 + j by omega] at this) hk1 hs1
      have e : k + 1 + l.length = k + (o :: l).length := by simp only [List.length_cons]; omega
      rw [e] at a1 a2
      exact ⟨vals, a1, a2⟩
    cases h with
    | op hw h hr => exact step _ true hw (fun _ => h) (fun e => by cases e) hr
    | unwanted hw hr => exact step _ false hw (fun e => by cases e) (fun _ => rfl) hr

/-! ### every order -/
theorem tail_any {ops : List Oper} {Q : Exit → Act → World → Prop} {k : Nat} (hk : RegOk ops k) : ∀ (d m : Nat) (listed : Array Bool) (a : Act) (w : World), ops.length = m + d → k ≤ m → listed.size = ops.length →
    (∀ j, j < ops.length → listed.getD j true = decide (j < m)) → wpList P ops.toArray Q (ops.drop m) a w → wpAny P .any ops.toArray Q d listed a w := by
  intro d
  induction d with
  | zero =>
    intro m listed a w hm hkm hsz hl h
    refine ⟨?_, ?_⟩
    · rw [List.eq_nil_iff_forall_not_mem]
      intro i hi
      obtain ⟨h0, o, ho, _⟩ := mem_ready.1 hi
      have hlt : i < ops.length := by simpa using (Array.getElem?_eq_some_iff.1 ho).1
      rw [hl i hlt] at h0
      simp at h0; omega
    · rw [List.drop_of_length_le (by omega)] at h
      exact h
  | succ d ih =>
    intro m listed a w hm hkm hsz hl h
    have hlt : m < ops.length := by omega
    have hready : ∀ i, i ∈ Region.ready .any ops.toArray listed → i = m := by
      intro i hi
      obtain ⟨h0, o, ho, hall⟩ := mem_ready.1 hi
      have hil : i < ops.length := by simpa using (Array.getElem?_eq_some_iff.1 ho).1
      rw [hl i hil] at h0
      have hge : m ≤ i := by simpa using h0
      rcases Nat.eq_or_lt_of_le hge with he | hgt
      · exact he.symm
      · exfalso
        have ho' : ops[i]? = some o := by simpa using ho
        have := mask_met hk.down (lst := fun j => listed.getD j false) (fun i' o' ho1 hl1 e he hb => by
          have hi'l := (List.getElem?_eq_some_iff.1 ho1).1
          have hlt' := edgesDown_ok hk.down ho1 he hb
          have h1 : listed.getD i' true = true := by
            have hs : i' < listed.size := by omega
            simp only [Array.getD_eq_getD_getElem?, Array.getElem?_eq_getElem hs, Option.getD_some] at hl1 ⊢
            exact hl1
          rw [hl i' hi'l] at h1
          have h2 := hl e.on (by omega)
          have : e.on < m := by simp at h1; omega
          have hs : e.on < listed.size := by omega
          simp only [Array.getD_eq_getD_getElem?, Array.getElem?_eq_getElem hs, Option.getD_some] at h2 ⊢
          rw [h2]; simpa using this) i o ho' hall m (hk.tail i o ho' (by omega) m hgt)
        have h2 := hl m hlt
        have hs : m < listed.size := by omega
        simp only [Array.getD_eq_getD_getElem?, Array.getElem?_eq_getElem hs, Option.getD_some] at h2 this
        rw [h2] at this
        simp at this
    refine ⟨fun hnil => ?_, fun i hi => ?_⟩
    · exfalso
      have hin : m ∈ Region.ready .any ops.toArray listed := by
        refine mem_ready.2 ⟨by rw [hl m hlt]; simp, ops[m], by simp [hlt], fun e he hb => ?_⟩
        have hlt' := edgesDown_ok hk.down (List.getElem?_eq_getElem hlt) he hb
        have h2 := hl e.on (by omega)
        have hs : e.on < listed.size := by omega
        simp only [Array.getD_eq_getD_getElem?, Array.getElem?_eq_getElem hs, Option.getD_some] at h2 ⊢
        rw [h2]; simpa using hlt'
      rw [hnil] at hin
      cases hin
    · have := hready i hi
      subst this
      rw [List.drop_eq_getElem_cons hlt] at h
      unfold wpList at h
      unfold wpOp
      have hoe : ops.toArray[i]? = some ops[i] := by simp [hlt]
      simp only [hoe]
      have key : ∀ a' w', wpList P ops.toArray Q (ops.drop (i + 1)) a' w' → wpAny P .any ops.toArray Q d (listed.setIfInBounds i true) a' w' := fun a' w' h' =>
        ih (i + 1) _ a' w' (by omega) (by omega) (by simpa using hsz) (fun j hj => by
          by_cases hji : j = i
          · subst hji
            have hs : j < listed.size := by omega
            simp [Array.getD_eq_getD_getElem?, hs]
          · rw [getD_set_ne true (Ne.symm hji), hl j hj]
            congr 1
            simp only [eq_iff_iff]
            omega) h'
      split at h
      · rename_i hw
        rw [if_pos hw]
        exact h.imp (Oper.wp_mono key) id
      · rename_i hw
        rw [if_neg hw]
        exact key _ _ h

theorem awanted_congr {ops : List Oper} {T T' : List AV} {o : Oper} (h : ∀ t ∈ looks ops o, T[t]? = T'[t]?) : awanted ops.toArray T o = awanted ops.toArray T' o := by
  unfold awanted
  cases hg : o.guard with
  | none => rfl
  | some gw =>
    obtain ⟨g, want⟩ := gw
    simp only
    congr 1
    unfold ayield
    cases hd : (ops.toArray[g]?).bind (·.dst) with
    | none => rfl
    | some d =>
      have hm : d ∈ looks ops o := by
        unfold looks
        rw [hg]
        simp only [List.mem_append]
        right
        have : (ops[g]?).bind (·.dst) = some d := by simpa using hd
        simp [this]
      simp only [h d hm]
theorem aeval_congr {ops : List Oper} {T T' : List AV} {o : Oper} (h : ∀ t ∈ looks ops o, T[t]? = T'[t]?) : ∀ x ∈ o.op.operands.toList, aeval T x = aeval T' x := by
  intro x hx
  cases x with
  | tmp t =>
    simp only [aeval, List.getD_eq_getElem?_getD]
    rw [h t]
    unfold looks
    simp only [List.mem_append]
    exact .inl (.inr (List.mem_filterMap.2 ⟨.tmp t, hx, rfl⟩))
  | _ => rfl
theorem getD_true_false {L : Array Bool} {j : Nat} (h : j < L.size) : L.getD j true = L.getD j false := by simp [Array.getD_eq_getD_getElem?, h]
theorem still_any {ops : List Oper} {k : Nat} (hk : RegOk ops k) {vals : Nat → AV} {T : List AV} {H : AH} (hs : Still P ops k vals T H) {Q : AQ} {G0 : Cfg}
    (tail : AOps P ops.toArray Q (ops.drop k) (pt ops vals (fun _ => true) T k) H) :
    ∀ (d : Nat) (listed : Array Bool) (a : Act) (G : Cfg), listed.size = ops.length → listed.toList.countP (fun b => !b) = d → (∀ j, k ≤ j → j < ops.length → listed.getD j false = false) →
      ClosedL ops (fun j => listed.getD j false) → Evo G0 G → FR G (pt ops vals (fun j => listed.getD j false) T ops.length) a → a.defers = [] → HR G H →
      wpAny P .any ops.toArray (APost G0 Q) d listed a G.w := by
  intro d
  induction d with
  | zero =>
    intro listed a G hsz hcnt hge hcl hE hF hd hH
    have all : ∀ j, j < ops.length → listed.getD j false = true := by
      intro j hj
      have hs : j < listed.size := by omega
      have := List.countP_eq_zero.1 hcnt listed[j] (by simp)
      simp only [Array.getD_eq_getD_getElem?, Array.getElem?_eq_getElem hs, Option.getD_some]
      simpa using this
    have hkn : k = ops.length := by
      rcases Nat.eq_or_lt_of_le hk.le with h | h
      · exact h
      · have h1 := all k h; rw [hge k (Nat.le_refl _) h] at h1; cases h1
    refine tail_any hk 0 ops.length listed a G.w rfl (by omega) hsz (fun j hj => by rw [getD_true_false (by omega), all j hj]; simp [hj]) ?_
    have e : pt ops vals (fun j => listed.getD j false) T ops.length = pt ops vals (fun _ => true) T k := by
      rw [← pt_prefix (i := k) ops.length hk.le]
      exact pt_congr _ fun m hm => by rw [all m hm]; simp; omega
    rw [e] at hF
    rw [← hkn]
    exact tail G0 G a hE hF hd hH
  | succ d ih =>
    intro listed a G hsz hcnt hge hcl hE hF hd hH
    by_cases hall : ∀ j, j < k → listed.getD j false = true
    · -- the tail
      have hkd : ops.length = k + (d + 1) := by
        have e : listed.toList = List.replicate k true ++ List.replicate (ops.length - k) false := by
          apply List.ext_getElem?
          intro j
          have hle := hk.le
          rcases Nat.lt_or_ge j ops.length with hj | hj
          · have hs : j < listed.size := by omega
            rw [Array.getElem?_toList, Array.getElem?_eq_getElem hs]
            rcases Nat.lt_or_ge j k with h | h
            · have := hall j h
              simp only [Array.getD_eq_getD_getElem?, Array.getElem?_eq_getElem hs, Option.getD_some] at this
              rw [List.getElem?_append_left (by simpa using h), this]
              simp [List.getElem?_replicate, h]
            · have := hge j h hj
              simp only [Array.getD_eq_getD_getElem?, Array.getElem?_eq_getElem hs, Option.getD_some] at this
              rw [List.getElem?_append_right (by simpa using h), this]
              simp [List.getElem?_replicate]; omega
          · rw [List.getElem?_eq_none (by simp; omega), List.getElem?_eq_none (by simp; omega)]
        rw [e] at hcnt
        simp [List.countP_append, List.countP_replicate] at hcnt
        have := hk.le
        omega
      have hlst : ∀ j, j < ops.length → listed.getD j false = decide (j < k) := by
        intro j hj
        rcases Nat.lt_or_ge j k with h | h
        · rw [hall j h]; simp [h]
        · rw [hge j h hj]; simp; omega
      refine tail_any hk (d + 1) k listed a G.w hkd (Nat.le_refl _) hsz (fun j hj => by rw [getD_true_false (by omega)]; exact hlst j hj) ?_
      have e : pt ops vals (fun j => listed.getD j false) T ops.length = pt ops vals (fun _ => true) T k := by
        rw [← pt_prefix (i := k) ops.length hk.le]
        exact pt_congr _ fun m hm => hlst m hm
      rw [e] at hF
      exact tail G0 G a hE hF hd hH
    · -- one that only reads
      have hex : ∃ j, j < k ∧ listed.getD j false = false ∧ ∀ i, i < j → listed.getD i false = true := by
        have : ∃ j, j < k ∧ listed.getD j false = false := by
          apply Decidable.byContradiction
          intro hn
          apply hall
          intro j hj
          cases h : listed.getD j false with
          | true => rfl
          | false => exact absurd ⟨j, hj, h⟩ hn
        obtain ⟨j, hj⟩ := this
        induction j using Nat.strongRecOn with
        | _ j ihj =>
          by_cases h : ∃ i, i < j ∧ listed.getD i false = false
          · obtain ⟨i, h1, h2⟩ := h
            exact ihj i h1 ⟨by omega, h2⟩
          · exact ⟨j, hj.1, hj.2, fun i hi => by
              cases h' : listed.getD i false with
              | true => rfl
              | false => exact absurd ⟨i, hi, h'⟩ h⟩
      obtain ⟨j0, hj0k, hj0, hbelow⟩ := hex
      have hkl := hk.le
      refine ⟨fun hnil => ?_, fun i hi => ?_⟩
      · exfalso
        have hlt : j0 < ops.length := by omega
        have hin : j0 ∈ Region.ready .any ops.toArray listed := by
          refine mem_ready.2 ⟨by rw [getD_true_false (by omega)]; exact hj0, ops[j0], by simp [hlt], fun e he hb => ?_⟩
          exact hbelow _ (edgesDown_ok hk.down (List.getElem?_eq_getElem hlt) he hb)
        rw [hnil] at hin
        cases hin
      · obtain ⟨h0, o, ho, hmet⟩ := mem_ready.1 hi
        have ho' : ops[i]? = some o := by simpa using ho
        have hil : i < ops.length := (List.getElem?_eq_some_iff.1 ho').1
        have his : i < listed.size := by omega
        rw [getD_true_false his] at h0
        have hik : i < k := by
          rcases Nat.lt_or_ge i k with h | h
          · exact h
          · exfalso
            have := mask_met hk.down hcl i o ho' hmet j0 (hk.tail i o ho' h j0 (by omega))
            try simp only at this
            rw [hj0] at this; cases this
        have hord : ∀ (j : Nat) (t : Tmp), j < ops.length → dstOf ops j = some t → t ∈ looks ops o → listed.getD j false = decide (j < i) := by
          intro j t hj hdj ht
          have hoj : ops[j]? = some ops[j] := List.getElem?_eq_getElem hj
          have hdst : ops[j].dst = some t := by
            unfold dstOf at hdj
            rw [hoj] at hdj
            exact hdj
          rcases Nat.lt_trichotomy j i with h | h | h
          · have hb := hk.ord i j o _ t ho' hoj (by omega) hdst ht
            rw [Nat.max_eq_left (by omega), Nat.min_eq_right (by omega)] at hb
            have := mask_met hk.down hcl i o ho' hmet j hb
            try simp only at this
            rw [this]; simp [h]
          · subst h; rw [h0]; simp
          · have hb := hk.ord i j o _ t ho' hoj (by omega) hdst ht
            rw [Nat.max_eq_right (by omega), Nat.min_eq_left (by omega)] at hb
            cases hlj : listed.getD j false with
            | false => simp; omega
            | true =>
              exfalso
              have := mask_met hk.down hcl j _ hoj (fun e he hb' => hcl j _ hoj hlj e he hb') i hb
              try simp only at this
              rw [h0] at this; cases this
        have hget : ∀ t ∈ looks ops o, (pt ops vals (fun j => listed.getD j false) T ops.length)[t]? = (pt ops vals (fun _ => true) T i)[t]? := by
          intro t ht
          rw [← pt_prefix (i := i) ops.length (by omega)]
          exact pt_get ops.length (fun j hj hdj => hord j t hj hdj ht)
        obtain ⟨b, hb, hb1, hb0⟩ := hs.each i o hik ho'
        rw [← awanted_congr hget] at hb
        have hadd : pt ops vals (upd (fun j => listed.getD j false) i) T ops.length = aput (pt ops vals (fun j => listed.getD j false) T ops.length) o.dst (vals i) := by
          rw [pt_add (by simpa using h0) ops.length, if_pos hil]
          · simp [dstOf, ho']
          · intro j h1 h2 h3 x hx hxj
            have hdx : o.dst = some x := by simpa [dstOf, ho'] using hx
            have := hord j x h2 hxj (by unfold looks; simp [hdx])
            try simp only at h3
            rw [h3] at this
            simp at this; omega
        have hlst' : (fun j => (listed.setIfInBounds i true).getD j false) = upd (fun j => listed.getD j false) i := by
          funext j
          unfold upd
          by_cases hji : j = i
          · subst hji; simp [Array.getD_eq_getD_getElem?, his]
          · rw [if_neg hji, getD_set_ne false (Ne.symm hji)]
        have next : ∀ (a' : Act) (G' : Cfg), Evo G0 G' → FR G' (aput (pt ops vals (fun j => listed.getD j false) T ops.length) o.dst (vals i)) a' → a'.defers = [] → HR G' H →
            wpAny P .any ops.toArray (APost G0 Q) d (listed.setIfInBounds i true) a' G'.w := by
          intro a' G' hE' hF' hd' hH'
          refine ih _ a' G' (by simpa using hsz) ?_ ?_ ?_ hE' ?_ hd' hH'
          · rw [Array.toList_setIfInBounds, List.countP_set (by simpa using his)]
            have hli : listed.toList[i]'(by simpa using his) = false := by
              simp only [Array.getD_eq_getD_getElem?, Array.getElem?_eq_getElem his, Option.getD_some] at h0
              simpa using h0
            rw [hli]
            simp only [Bool.not_false, if_true, Bool.not_true, Bool.false_eq_true, if_false]
            omega
          · intro j hj1 hj2
            rw [getD_set_ne false (by omega)]
            exact hge j hj1 hj2
          · intro j oj hoj hlj e he hbe
            have hlj : upd (fun j => listed.getD j false) i j = true := (congrFun hlst' j).symm.trans hlj
            refine (congrFun hlst' e.on).trans ?_
            unfold upd at hlj ⊢
            split
            · rfl
            · by_cases hji : j = i
              · subst hji
                rw [ho'] at hoj
                injection hoj with hoj
                subst hoj
                exact hmet e he hbe
              · rw [if_neg hji] at hlj
                exact hcl j oj hoj hlj e he hbe
          · rw [hlst', hadd]; exact hF'
        unfold wpOp
        simp only [ho]
        cases b with
        | true =>
          rw [if_pos (awanted_ok hF hb)]
          left
          have hop := hb1 rfl
          rw [← aop_congr (aeval_congr hget)] at hop
          obtain ⟨G', u, hrun, hE', hx, hH'⟩ := aop_ok hH (fun x => hF.eval x) hop
          unfold Oper.wp
          rcases hrun with hrun | ⟨hrun, rfl⟩ <;> rw [hrun] <;> exact next _ G' (hE.trans hE') ((FR.evo hE' hF).put o.dst hx) (by cases o.dst <;> exact hd) hH'
        | false =>
          rw [if_neg (by rw [awanted_ok hF hb]; simp)]
          rw [hb0 rfl] at next
          exact next _ G hE (hF.put o.dst (by simp only [undefA, VR])) (by cases o.dst <;> exact hd) hH
theorem ACode.draw {id : Nat} {ops : List Oper} {Q : AQ} {T T' : List AV} {H : AH} (k : Nat) (hm : P.follows .mixedOrders = true) (hok : regOk ops k = true) (hA : ARun P ops.toArray H (ops.take k) T T')
    (hB : AOps P ops.toArray Q (ops.drop k) T' H) : ACode P (.region id ops.toArray true) Q T H := by
  intro G0 G a hE hF hd hH
  have hk := regOk_ok hok
  have hkl := hk.le
  obtain ⟨vals, hs, hp⟩ := ARun.still (ops := ops) (ops.take k) 0 T T T' (fun _ => undefA) hA (fun j o hj => by
    rw [List.getElem?_take] at hj
    split at hj
    · simpa using hj
    · cases hj) rfl ⟨fun i o hi => by omega⟩
  simp only [List.length_take, Nat.zero_add, Nat.min_eq_left hkl] at hs hp
  rw [← hp] at hB
  refine wp_region_any hm ?_
  have e : (ops.toArray.size) = ops.length := by simp
  have hF0 : FR { G with w := G.w.drew } (pt ops vals (fun j => (Array.replicate ops.toArray.size false).getD j false) T ops.length) a := by
    have hz : ∀ m, pt ops vals (fun j => (Array.replicate ops.toArray.size false).getD j false) T m = T := by
      intro m
      induction m with
      | zero => rfl
      | succ m ih =>
        simp only [pt]
        rw [if_neg, ih]
        simp only [Array.getD_eq_getD_getElem?, Array.getElem?_replicate]
        split <;> simp
    rw [hz]
    exact FR.evo (Evo.drew G) hF
  refine still_any hk hs hB ops.toArray.size (Array.replicate ops.toArray.size false) a { G with w := G.w.drew } (by simp) (by simp [List.countP_replicate]) ?_ ?_ (hE.trans (Evo.drew G)) hF0 hd hH.drew
  · intro j _ _
    simp only [Array.getD_eq_getD_getElem?, Array.getElem?_replicate]
    split <;> simp
  · intro j o _ hl
    simp only [Array.getD_eq_getD_getElem?, Array.getElem?_replicate] at hl
    split at hl <;> simp at hl
end
end Go.Proofs.Ythgkepaadkmhoaa.Av
