/- Drawn regions, run: the text's order is run, and it is looked whether any other order gives the same. -/
import Derived.Test.YthgkepaadkmhoaaAvXa
set_option linter.unusedVariables false
set_option linter.unusedSimpArgs false
namespace Go.Proofs.Ythgkepaadkmhoaa.Av
open Go Go.RowKit

def litSame : Value → Value → Bool
  | .bool a, .bool b => decide (a = b)
  | .int k a, .int l b => decide (k = l) && decide (a = b)
  | .string a, .string b => decide (a = b)
  | .pointer none, .pointer none => true
  | .slice none a b, .slice none c d => decide (a = c) && decide (b = d)
  | .map none, .map none => true
  | .nilFunc, .nilFunc => true
  | .nilIface, .nilIface => true
  | _, _ => false
theorem litSame_ok : ∀ {a b : Value}, litSame a b = true → a = b := by
  intro a b h
  unfold litSame at h
  split at h <;> simp_all
def fnSame : Fn → Fn → Bool
  | .func a, .func b => decide (a = b)
  | _, _ => false
theorem fnSame_ok {a b : Fn} (h : fnSame a b = true) : a = b := by
  unfold fnSame at h
  split at h <;> simp_all
mutual
def AV.same : AV → AV → Bool
  | .lit v, .lit u => litSame v u
  | .ptr a b, .ptr c d => decide (a = c) && decide (b = d)
  | .ip a, .ip b => sames a b
  | .sl a b c d e, .sl a' b' c' d' e' => decide (a = a') && decide (b = b') && decide (c = c') && decide (d = d') && decide (e = e')
  | .imm a l e, .imm b m f => decide (l = m) && decide (e = f) && sames a b
  | .mp a, .mp b => decide (a = b)
  | .agg a, .agg b => sames a b
  | .tup a, .tup b => sames a b
  | .fn f a b, .fn g c d => fnSame f g && sames a c && sames b d
  | .emp, .emp => true
  | .junk, .junk => true
  | _, _ => false
def sames : List AV → List AV → Bool
  | [], [] => true
  | a :: r, b :: s => AV.same a b && sames r s
  | _, _ => false
end
mutual
theorem AV.same_ok : ∀ {a b : AV}, AV.same a b = true → a = b := by
  intro a b h
  match a, b, h with
  | .lit v, .lit u, h => simp only [AV.same] at h; rw [litSame_ok h]
  | .ptr a b, .ptr c d, h => simp [AV.same] at h; rw [h.1, h.2]
  | .ip a, .ip b, h => simp only [AV.same] at h; rw [sames_ok h]
  | .sl a b c d e, .sl a' b' c' d' e', h => simp [AV.same] at h; obtain ⟨⟨⟨⟨rfl, rfl⟩, rfl⟩, rfl⟩, rfl⟩ := h; rfl
  | .imm a l e, .imm b m f, h => simp [AV.same] at h; obtain ⟨⟨rfl, rfl⟩, h⟩ := h; rw [sames_ok h]
  | .mp a, .mp b, h => simp [AV.same] at h; rw [h]
  | .agg a, .agg b, h => simp only [AV.same] at h; rw [sames_ok h]
  | .tup a, .tup b, h => simp only [AV.same] at h; rw [sames_ok h]
  | .fn f a b, .fn g c d, h => simp [AV.same] at h; obtain ⟨⟨h1, h2⟩, h3⟩ := h; rw [fnSame_ok h1, sames_ok h2, sames_ok h3]
  | .emp, .emp, h => rfl
  | .junk, .junk, h => rfl
theorem sames_ok : ∀ {a b : List AV}, sames a b = true → a = b := by
  intro a b h
  match a, b, h with
  | [], [], h => rfl
  | a :: r, b :: s, h => simp only [sames, Bool.and_eq_true] at h; rw [AV.same_ok h.1, sames_ok h.2]
end

def AQ.is (r : Exit × List AV × AH) : AQ := fun e T H => (e, T, H) = r
section
variable {P : Program}

abbrev CallFn := FuncId → List AV → AH → Option (AV × AH)
def CallOk (P : Program) (call : CallFn) : Prop := ∀ f args H r H', call f args H = some (r, H') → ACalls P f args H fun r' H'' => r' = r ∧ H'' = H'
/-- Functions that are called as if they left nothing. -/
abbrev PureFn := FuncId → List AV → Option AV
def PureOk (P : Program) (pure : PureFn) : Prop := ∀ f args r, pure f args = some r → goFunc P f = true ∧ ∀ H, ACalls P f args H fun r' H' => r' = r ∧ H' = H
def pureOp (pl : FuncId → Bool) : Op → Bool
  | .call { callee := .value (.func k), .. } => pl k
  | _ => false
def quiet (pl : FuncId → Bool) (op : Op) : Bool := stillOp op || pureOp pl op || match op with
  | .buildSlice .. => true
  | _ => false
/-- Operations that do not look at the heap. -/
def blind : Op → Bool
  | .move _ | .assign _ | .pick .. | .build .. | .nilCheck _ | .binOp .. | .unOp .. | .makeFunc .. | .fieldAddr .. | .field .. | .indexAddr .. | .index .. | .extract .. | .buildSlice .. => true
  | _ => false
theorem map_any {x : Option AV} {H H1 H' : AH} {r : AV} (h : x.map (·, H) = some (r, H1)) : x.map (·, H') = some (r, H') := by
  obtain ⟨a, h1, h2⟩ := Option.map_eq_some_iff.1 h
  injection h2 with h2 h3
  subst h2
  rw [h1]; rfl
theorem mk_any {x r : AV} {H H1 H' : AH} (h : some (x, H) = some (r, H1)) : some (x, H') = some (r, H') := by
  injection h with h
  injection h with h1 h2
  rw [h1]
theorem blind_any {ρ : Operand → AV} {H H1 H' : AH} {o : Oper} {r : AV} (hb : blind o.op = true) (hq : stillOp o.op = true) (h : aop P ρ H o = some (r, H1)) : aop P ρ H' o = some (r, H') := by
  have hH := still_heap hq h
  subst hH
  obtain ⟨dst, op, type, pos, after, guard⟩ := o
  cases op <;> first
    | (simp [blind] at hb; done)
    | (simp [stillOp] at hq; done)
    | exact map_any h
    | exact mk_any h
    | skip
  case pick c a b =>
    simp only [aop] at h ⊢
    split at h
    · injection h with h; injection h with h1 h2; rw [h1]
    · cases h
def stepD (P : Program) (pl : FuncId → Bool) (pure : PureFn) (call : CallFn) (T : List AV) (H : AH) (o : Oper) : Option (AV × AH) :=
  match o.op with
  | .buildSlice .. => (afrozen P (aeval T) o).map (·, H)
  | _ => if pureOp pl o.op then match acall (aeval T) o with
      | some (f, args) => (pure f args).map (·, H)
      | none => none
    else match aop P (aeval T) H o with
    | some x => some x
    | none => match acall (aeval T) o with
      | some (f, args) => if goFunc P f then call f args H else none
      | none => none
def trace (P : Program) (pl : FuncId → Bool) (pure : PureFn) (call : CallFn) (ops : Array Oper) : List Oper → List AV → AH → Option (List (AV × AH))
  | [], _, _ => some []
  | o :: l, T, H => match awanted ops T o with
    | none => none
    | some false => (trace P pl pure call ops l (aput T o.dst undefA) H).map ((undefA, H) :: ·)
    | some true => match stepD P pl pure call T H o with
      | some (r, H') => (trace P pl pure call ops l (aput T o.dst r) H').map ((r, H') :: ·)
      | none => none
def chn (pl : FuncId → Bool) (ops : List Oper) (i : Nat) : Bool := match ops[i]? with
  | some o => !quiet pl o.op
  | none => false
def valsOf (tr : List (AV × AH)) (i : Nat) : AV := (tr[i]?.map Prod.fst).getD undefA
def heapOf (tr : List (AV × AH)) (i : Nat) : AH := (tr[i]?.map Prod.snd).getD []
def hs (pl : FuncId → Bool) (ops : List Oper) (tr : List (AV × AH)) (H : AH) (S : Nat → Bool) : Nat → AH
  | 0 => H
  | m + 1 => if S m && chn pl ops m then heapOf tr m else hs pl ops tr H S m
/-- May operation i find the heap that operation c left (or, 'none', the first one)? -/
def mayMeet (pl : FuncId → Bool) (ops : List Oper) (b : List Nat) (i : Nat) (c : Option Nat) : Bool :=
  (List.range ops.length).all (fun j => !(chn pl ops j && (b.getD i 0).testBit j) || (match c with
    | some c => decide (j ≤ c)
    | none => false)) && (match c with
    | some c => !(b.getD c 0).testBit i && decide (c ≠ i)
    | none => true)
/-- The frames ahead of each operation, in the text's order. -/
def framesOf (ops : List Oper) : List Oper → List (AV × AH) → List AV → List (List AV)
  | o :: l, (r, _) :: tr, T => T :: framesOf ops l tr (aput T o.dst r)
  | _, _, _ => []
def insensOk (P : Program) (pl : FuncId → Bool) (ops : List Oper) (tr : List (AV × AH)) (H : AH) (T : List AV) : Bool :=
  let b := masks ops []
  let fr := framesOf ops ops tr T
  let stages := none :: ((List.range ops.length).filter (chn pl ops)).map some
  ops.zipIdx.all fun p => !quiet pl p.1.op || blind p.1.op || pureOp pl p.1.op || match fr[p.2]? with
    | some Ti => match awanted ops.toArray Ti p.1 with
      | some true => stages.all fun c => !mayMeet pl ops b p.2 c || (match aop P (aeval Ti) (match c with | some c => heapOf tr c | none => H) p.1 with
        | some (r, _) => AV.same r (valsOf tr p.2)
        | none => false)
      | _ => true
    | none => false
def chainOk (pl : FuncId → Bool) (ops : List Oper) : Bool :=
  let b := masks ops []
  ops.zipIdx.all fun p => !(chn pl ops p.2) || (List.range p.2).all fun j => !(chn pl ops j) || (b.getD p.2 0).testBit j
def runDraw (P : Program) (pl : FuncId → Bool) (pure : PureFn) (call : CallFn) (ops : List Oper) (T : List AV) (H : AH) : Option (List AV × AH) :=
  if P.follows .mixedOrders && ordOk ops && chainOk pl ops then match trace P pl pure call ops.toArray ops T H with
    | some tr => if insensOk P pl ops tr H T then some (pt ops (valsOf tr) (fun _ => true) T ops.length, hs pl ops tr H (fun _ => true) ops.length) else none
    | none => none
  else none

/-- What the trace tells of the operation at place i. -/
def Told (P : Program) (pl : FuncId → Bool) (ops : List Oper) (tr : List (AV × AH)) (T : List AV) (H : AH) (i : Nat) (o : Oper) : Prop :=
  ∃ b, awanted ops.toArray (pt ops (valsOf tr) (fun _ => true) T i) o = some b ∧
    (b = false → valsOf tr i = undefA ∧ heapOf tr i = hs pl ops tr H (fun _ => true) i) ∧
    (b = true → ∃ pure call, PureOk P pure ∧ CallOk P call ∧ stepD P pl pure call (pt ops (valsOf tr) (fun _ => true) T i) (hs pl ops tr H (fun _ => true) i) o = some (valsOf tr i, heapOf tr i))
theorem acall_op {ρ : Operand → AV} {o : Oper} {q : FuncId × List AV} (h : acall ρ o = some q) : stillOp o.op = false := by
  obtain ⟨dst, op, type, pos, after, guard⟩ := o
  unfold acall at h
  split at h
  · rename_i hop
    simp only at hop
    subst hop
    rfl
  · cases h
theorem stepD_quiet {pl : FuncId → Bool} {pure : PureFn} (hp : PureOk P pure) {call : CallFn} {T : List AV} {H H' : AH} {o : Oper} {r : AV} (hq : quiet pl o.op = true) (h : stepD P pl pure call T H o = some (r, H')) :
    H' = H ∧ (afrozen P (aeval T) o = some r ∨ (pureOp pl o.op = true ∧ ∃ f args, acall (aeval T) o = some (f, args) ∧ goFunc P f = true ∧ ∀ H, ACalls P f args H fun r' H' => r' = r ∧ H' = H) ∨ (aop P (aeval T) H o = some (r, H) ∧ stillOp o.op = true ∧ pureOp pl o.op = false)) := by
  unfold stepD at h
  split at h
  · obtain ⟨a, h1, h2⟩ := Option.map_eq_some_iff.1 h
    injection h2 with h2 h3
    subst h2; subst h3
    exact ⟨rfl, .inl h1⟩
  · rename_i hnb
    by_cases hpo : pureOp pl o.op = true
    · rw [if_pos hpo] at h
      split at h
      · rename_i f args hc
        obtain ⟨a, h1, h2⟩ := Option.map_eq_some_iff.1 h
        injection h2 with h2 h3
        subst h2; subst h3
        exact ⟨rfl, .inr (.inl ⟨hpo, f, args, hc, hp f args _ h1⟩)⟩
      · cases h
    · rw [if_neg hpo] at h
      have hpf : pureOp pl o.op = false := by simpa using hpo
      have hst : stillOp o.op = true := by
        unfold quiet at hq
        simp only [Bool.or_eq_true] at hq
        rcases hq with (h | h) | h
        · exact h
        · exact absurd h hpo
        · first
            | (split at h
               · rename_i h1; exact absurd h1 (hnb _ _ _)
               · cases h)
            | cases h
      split at h
      · rename_i x hx
        injection h with h
        subst h
        have := still_heap hst hx
        subst this
        exact ⟨rfl, .inr (.inr ⟨hx, hst, hpf⟩)⟩
      · exfalso
        split at h
        · rename_i f args hc
          rw [acall_op hc] at hst
          cases hst
        · cases h
theorem trace_told {pl : FuncId → Bool} {pure : PureFn} (hp : PureOk P pure) {call : CallFn} (hc : CallOk P call) {ops : List Oper} {T : List AV} {H : AH} {tr : List (AV × AH)} : ∀ (l : List Oper) (tl : List (AV × AH)) (k : Nat) (Tk : List AV) (Hk : AH), (∀ (j : Nat) (o : Oper), l[j]? = some o → ops[k + j]? = some o) → (∀ j, tl[j]? = tr[k + j]?) →
    pt ops (valsOf tr) (fun _ => true) T k = Tk → hs pl ops tr H (fun _ => true) k = Hk → trace P pl pure call ops.toArray l Tk Hk = some tl → tl.length = l.length ∧ ∀ (j : Nat) (o : Oper), l[j]? = some o → Told P pl ops tr T H (k + j) o
  | [], tl, k, Tk, Hk, hl, ht, hT, hH, h => by
    simp only [trace] at h
    injection h with h
    subst h
    exact ⟨rfl, fun j o hj => by simp at hj⟩
  | o :: l, tl, k, Tk, Hk, hl, ht, hT, hH, h => by
    have ho : ops[k]? = some o := by simpa using hl 0 o rfl
    have step : ∀ (r : AV) (H' : AH) (t2 : List (AV × AH)), tl = (r, H') :: t2 → trace P pl pure call ops.toArray l (aput Tk o.dst r) H' = some t2 → (quiet pl o.op = true → H' = Hk) → (Told P pl ops tr T H k o) →
        tl.length = (o :: l).length ∧ ∀ (j : Nat) (o1 : Oper), (o :: l)[j]? = some o1 → Told P pl ops tr T H (k + j) o1 := by
      intro r H' t2 htl h2 hq htold
      subst htl
      have h0 := ht 0
      simp only [List.getElem?_cons_zero, Nat.add_zero] at h0
      have hv : valsOf tr k = r := by unfold valsOf; rw [← h0]; rfl
      have hh : heapOf tr k = H' := by unfold heapOf; rw [← h0]; rfl
      obtain ⟨e1, e2⟩ := trace_told hp hc (T := T) (H := H) (tr := tr) l t2 (k + 1) (aput Tk o.dst r) H' (fun j o' hj => by
          rw [show k + 1 + j = k + (j + 1) by omega]; exact hl (j + 1) o' (by simpa using hj)) (fun j => by
          have := ht (j + 1)
          rw [show k + 1 + j = k + (j + 1) by omega, ← this]
          simp) (by
          simp only [pt, if_true]
          rw [hT, hv]
          simp [dstOf, ho]) (by
          have hcn : chn pl ops k = !quiet pl o.op := by unfold chn; rw [ho]
          simp only [hs, Bool.true_and, hcn]
          by_cases hqo : quiet pl o.op = true
          · rw [if_neg (by simp [hqo]), hq hqo]; exact hH
          · rw [if_pos (by simpa using hqo)]; exact hh) h2
      refine ⟨by simp [e1], fun j o1 hj => ?_⟩
      cases j with
      | zero => simp only [List.getElem?_cons_zero] at hj; injection hj with hj; subst hj; exact htold
      | succ j => rw [show k + (j + 1) = k + 1 + j by omega]; exact e2 j o1 (by simpa using hj)
    have h00 : ∀ (r : AV) (H' : AH) (t2 : List (AV × AH)), tl = (r, H') :: t2 → valsOf tr k = r ∧ heapOf tr k = H' := by
      intro r H' t2 htl
      have h0 := ht 0
      rw [htl] at h0
      simp only [List.getElem?_cons_zero, Nat.add_zero] at h0
      exact ⟨by unfold valsOf; rw [← h0]; rfl, by unfold heapOf; rw [← h0]; rfl⟩
    unfold trace at h
    split at h
    · cases h
    · rename_i hw
      obtain ⟨t2, h2, rfl⟩ := Option.map_eq_some_iff.1 h
      obtain ⟨a1, a2⟩ := h00 _ _ _ rfl
      exact step _ _ t2 rfl h2 (fun _ => rfl) ⟨false, by rw [hT]; exact hw, (fun _ => ⟨a1, by rw [a2, hH]⟩), (fun h => by cases h)⟩
    · rename_i hw
      split at h
      · rename_i r H' hst
        obtain ⟨t2, h2, rfl⟩ := Option.map_eq_some_iff.1 h
        obtain ⟨a1, a2⟩ := h00 _ _ _ rfl
        exact step r H' t2 rfl h2 (fun hq => (stepD_quiet hp hq hst).1) ⟨true, by rw [hT]; exact hw, (fun h => by cases h), (fun _ => ⟨pure, call, hp, hc, by rw [hT, hH, a1, a2]; exact hst⟩)⟩
      · cases h
theorem frames_get {ops : List Oper} {tr : List (AV × AH)} {T : List AV} : ∀ (l : List Oper) (tl : List (AV × AH)) (k : Nat) (Tk : List AV), (∀ (j : Nat) (o : Oper), l[j]? = some o → ops[k + j]? = some o) → (∀ j, tl[j]? = tr[k + j]?) →
    pt ops (valsOf tr) (fun _ => true) T k = Tk → ∀ (j : Nat) (Tj : List AV), (framesOf ops l tl Tk)[j]? = some Tj → Tj = pt ops (valsOf tr) (fun _ => true) T (k + j)
  | [], tl, k, Tk, hl, ht, hT, j, Tj, h => by simp [framesOf] at h
  | o :: l, [], k, Tk, hl, ht, hT, j, Tj, h => by simp [framesOf] at h
  | o :: l, (r, H') :: tl, k, Tk, hl, ht, hT, j, Tj, h => by
    simp only [framesOf] at h
    cases j with
    | zero => simp only [List.getElem?_cons_zero] at h; injection h with h; rw [← h, ← hT]; rfl
    | succ j =>
      have ho : ops[k]? = some o := by simpa using hl 0 o rfl
      have h0 := ht 0
      simp only [List.getElem?_cons_zero, Nat.add_zero] at h0
      have hv : valsOf tr k = r := by unfold valsOf; rw [← h0]; rfl
      rw [show k + (j + 1) = k + 1 + j by omega]
      refine frames_get l tl (k + 1) (aput Tk o.dst r) (fun j o' hj => by
          rw [show k + 1 + j = k + (j + 1) by omega]; exact hl (j + 1) o' (by simpa using hj)) (fun j => by
          have := ht (j + 1)
          rw [show k + 1 + j = k + (j + 1) by omega, ← this]
          simp) (by
          simp only [pt, if_true]
          rw [hT, hv]
          simp [dstOf, ho]) j Tj (by simpa using h)
theorem hs_last {pl : FuncId → Bool} {ops : List Oper} {tr : List (AV × AH)} {H : AH} {S : Nat → Bool} : ∀ m, (hs pl ops tr H S m = H ∧ ∀ j, j < m → ¬ (S j = true ∧ chn pl ops j = true)) ∨
    ∃ c, c < m ∧ S c = true ∧ chn pl ops c = true ∧ hs pl ops tr H S m = heapOf tr c ∧ ∀ j, c < j → j < m → ¬ (S j = true ∧ chn pl ops j = true)
  | 0 => .inl ⟨rfl, fun j h => by omega⟩
  | m + 1 => by
    simp only [hs]
    by_cases h : S m = true ∧ chn pl ops m = true
    · rw [if_pos (by simp [h.1, h.2])]
      exact .inr ⟨m, by omega, h.1, h.2, rfl, fun j h1 h2 => by omega⟩
    · rw [if_neg (by simpa using h)]
      rcases hs_last m with ⟨h1, h2⟩ | ⟨c, h1, h2, h3, h4, h5⟩
      · refine .inl ⟨h1, fun j hj => ?_⟩
        rcases Nat.lt_succ_iff_lt_or_eq.1 hj with hj | rfl
        · exact h2 j hj
        · exact h
      · refine .inr ⟨c, by omega, h2, h3, h4, fun j hj1 hj2 => ?_⟩
        rcases Nat.lt_succ_iff_lt_or_eq.1 hj2 with hj | rfl
        · exact h5 j hj1 hj
        · exact h
theorem hs_congr {pl : FuncId → Bool} {ops : List Oper} {tr : List (AV × AH)} {H : AH} {S S' : Nat → Bool} : ∀ m, (∀ j, j < m → chn pl ops j = true → S j = S' j) → hs pl ops tr H S m = hs pl ops tr H S' m
  | 0, _ => rfl
  | m + 1, h => by
    simp only [hs, hs_congr m (fun j hj => h j (by omega))]
    cases hc : chn pl ops m with
    | false => simp
    | true => rw [h m (by omega) hc]
theorem hs_stop {pl : FuncId → Bool} {ops : List Oper} {tr : List (AV × AH)} {H : AH} {S : Nat → Bool} {i : Nat} : ∀ m, i ≤ m → (∀ j, i ≤ j → j < m → ¬ (S j = true ∧ chn pl ops j = true)) → hs pl ops tr H S m = hs pl ops tr H S i
  | 0, hi, _ => by rw [show i = 0 by omega]
  | m + 1, hi, h => by
    rcases Nat.lt_or_ge m i with hlt | hge
    · rw [show i = m + 1 by omega]
    · simp only [hs]
      rw [if_neg (by simpa using h m hge (by omega))]
      exact hs_stop m hge (fun j h1 h2 => h j h1 (by omega))
theorem runDraw_ok {pl : FuncId → Bool} {pure : PureFn} (hp : PureOk P pure) {call : CallFn} (hc : CallOk P call) {id : Nat} {ops : List Oper} {T T' : List AV} {H H' : AH} (h : runDraw P pl pure call ops T H = some (T', H')) {Q : AQ} (hq : Q .normal T' H') : ACode P (.region id ops.toArray true) Q T H := by
  unfold runDraw at h
  split at h
  · rename_i hb
    simp only [Bool.and_eq_true] at hb
    obtain ⟨⟨hm, hord⟩, hch⟩ := hb
    split at h
    · rename_i tr htr
      split at h
      · rename_i hins
        injection h with h
        injection h with h1 h2
        obtain ⟨hlen, htold⟩ := trace_told (T := T) (H := H) (tr := tr) hp hc ops tr 0 T H (fun j o hj => by simpa using hj) (fun j => by simp) rfl rfl htr
        have hk := ordOk_ok hord
        refine ACode.drawn hm hord (Ω := Unit) (fun _ _ => True) (fun _ => valsOf tr) (fun _ S => hs pl ops tr H S ops.length) () trivial ?_ ?_ ?_
        · rw [hs_congr (S' := fun _ => false) _ (fun _ _ _ => rfl)]
          have : ∀ m, hs pl ops tr H (fun _ => false) m = H := by
            intro m
            induction m with
            | zero => rfl
            | succ m ih => simp only [hs, Bool.false_and, Bool.false_eq_true, if_false]; exact ih
          exact this _
        · intro _ S i o ⟨ho, hcl, hSi, hmet⟩ _
          have hil := (List.getElem?_eq_some_iff.1 ho).1
          obtain ⟨b, hw, hw0, hw1⟩ := by simpa using htold i o ho
          have before : ∀ j, (((masks ops []).getD i 0).testBit j = true) → S j = true := fun j hj => mask_met hk.down hcl i o ho hmet j hj
          have behind : ∀ c, S c = true → c < ops.length → ((masks ops []).getD c 0).testBit i = true → False := by
            intro c hc hcl' hbit
            have := mask_met hk.down hcl c _ (List.getElem?_eq_getElem hcl') (fun e he hb' => hcl c _ (List.getElem?_eq_getElem hcl') hc e he hb') i hbit
            rw [hSi] at this
            cases this
          have chain : ∀ c d, c < d → d < ops.length → chn pl ops c = true → chn pl ops d = true → ((masks ops []).getD d 0).testBit c = true := by
            intro c d hcd hd h1 h2
            have := List.all_eq_true.1 hch _ (zip_mem (List.getElem?_eq_getElem hd))
            simp only [h2, Bool.not_true, Bool.false_or] at this
            have := List.all_eq_true.1 this c (List.mem_range.2 hcd)
            simpa [h1] using this
          have R0 : ∀ (r : AV) (H1 : AH), valsOf tr i = r → hs pl ops tr H (upd S i) ops.length = H1 → ∃ ω' : Unit, True ∧ (∀ j, S j = true → valsOf tr j = valsOf tr j) ∧ valsOf tr i = r ∧ hs pl ops tr H (upd S i) ops.length = H1 :=
            fun r H1 a1 a2 => ⟨(), trivial, fun _ _ => rfl, a1, a2⟩
          refine ⟨b, hw, fun hb => ?_, fun hb => ?_⟩
          · subst hb
            obtain ⟨pu, cl, hpu, hcl1, hst⟩ := hw1 rfl
            cases hqi : quiet pl o.op with
            | true =>
              have hci : chn pl ops i = false := by unfold chn; rw [ho]; simp [hqi]
              have hsame : hs pl ops tr H (upd S i) ops.length = hs pl ops tr H S ops.length := by
                refine hs_congr _ fun j _ hj => ?_
                unfold upd
                split
                · rename_i he; rw [he, hci] at hj; cases hj
                · rfl
              obtain ⟨_, hz | ⟨hpo, f, args, hca, hgo, hal⟩ | ⟨hz, hstill, hnp⟩⟩ := stepD_quiet hpu hqi hst
              · exact .inr (.inl ⟨_, hz, R0 _ _ rfl hsame⟩)
              · refine .inr (.inr ⟨f, args, hca, hgo, (hal _).mono ?_⟩)
                rintro r' H'' ⟨rfl, rfl⟩
                exact R0 _ _ rfl hsame
              · left
                by_cases hbl : blind o.op = true
                · exact ⟨_, _, blind_any hbl hstill hz, R0 _ _ rfl hsame⟩
                · have hi1 := List.all_eq_true.1 hins _ (zip_mem ho)
                  simp only [hqi, hnp, Bool.or_false, Bool.not_true, Bool.false_or, Bool.or_eq_true] at hi1
                  rcases hi1 with hi1 | hi1
                  · exact absurd hi1 hbl
                  · split at hi1
                    · rename_i Ti hTi
                      have hTe := frames_get (T := T) (tr := tr) ops tr 0 T (fun j o hj => by simpa using hj) (fun j => by simp) rfl i Ti hTi
                      rw [Nat.zero_add] at hTe
                      subst hTe
                      rw [hw] at hi1
                      simp only at hi1
                      have stage : ∀ (c : Option Nat), (c = none ∨ ∃ d, c = some d ∧ d < ops.length ∧ chn pl ops d = true) → mayMeet pl ops (masks ops []) i c = true →
                          ∃ H2, aop P (aeval (pt ops (valsOf tr) (fun _ => true) T i)) (match c with | some c => heapOf tr c | none => H) o = some (valsOf tr i, H2) := by
                        intro c hcc hmm
                        have := List.all_eq_true.1 hi1 c (by
                          rcases hcc with rfl | ⟨d, rfl, hd, hcd⟩
                          · simp
                          · simp [List.mem_filter, hd, hcd])
                        rw [hmm] at this
                        simp only [Bool.not_true, Bool.false_or] at this
                        split at this
                        · rename_i r2 H2 hr2
                          rw [← AV.same_ok this]
                          exact ⟨H2, hr2⟩
                        · cases this
                      have fin : ∃ H2, aop P (aeval (pt ops (valsOf tr) (fun _ => true) T i)) (hs pl ops tr H S ops.length) o = some (valsOf tr i, H2) := by
                        rcases hs_last (ops := ops) (tr := tr) (H := H) (S := S) ops.length with ⟨e1, e2⟩ | ⟨c, e1, e2, e3, e4, e5⟩
                        · rw [e1]
                          refine stage none (.inl rfl) ?_
                          unfold mayMeet
                          simp only [Bool.and_true]
                          refine List.all_eq_true.2 fun j hj => ?_
                          have hj := List.mem_range.1 hj
                          simp only [Bool.or_false, Bool.not_eq_true', Bool.and_eq_false_iff]
                          cases hcj : chn pl ops j with
                          | false => exact .inl rfl
                          | true =>
                            right
                            cases hbj : ((masks ops []).getD i 0).testBit j with
                            | false => rfl
                            | true => exact absurd ⟨before j hbj, hcj⟩ (e2 j hj)
                        · rw [e4]
                          refine stage (some c) (.inr ⟨c, rfl, e1, e3⟩) ?_
                          unfold mayMeet
                          simp only [Bool.and_eq_true]
                          refine ⟨List.all_eq_true.2 fun j hj => ?_, ?_, ?_⟩
                          · have hj := List.mem_range.1 hj
                            simp only [Bool.or_eq_true, Bool.not_eq_true', Bool.and_eq_false_iff, decide_eq_true_eq]
                            cases hcj : chn pl ops j with
                            | false => exact .inl (.inl rfl)
                            | true =>
                              cases hbj : ((masks ops []).getD i 0).testBit j with
                              | false => exact .inl (.inr rfl)
                              | true =>
                                right
                                rcases Nat.lt_or_ge c j with hlt | hge
                                · exact absurd ⟨before j hbj, hcj⟩ (e5 j hlt hj)
                                · exact hge
                          · cases hbc : ((masks ops []).getD c 0).testBit i with
                            | false => rfl
                            | true => exact (behind c e2 e1 hbc).elim
                          · refine decide_eq_true ?_
                            rintro rfl
                            rw [hSi] at e2
                            cases e2
                      obtain ⟨H2, hH2⟩ := fin
                      have := still_heap hstill hH2
                      subst this
                      exact ⟨_, _, hH2, R0 _ _ rfl hsame⟩
                    · cases hi1
            | false =>
              have hci : chn pl ops i = true := by unfold chn; rw [ho]; simp [hqi]
              have below : ∀ j, j < i → chn pl ops j = true → S j = true := fun j hj hcj => before j (chain j i hj hil hcj hci)
              have above : ∀ j, i ≤ j → j < ops.length → ¬ (S j = true ∧ chn pl ops j = true) := by
                rintro j hj hjl ⟨h1, h2⟩
                rcases Nat.eq_or_lt_of_le hj with rfl | hlt
                · rw [hSi] at h1; cases h1
                · exact behind j h1 hjl (chain i j hlt hjl hci h2)
              have e1 : hs pl ops tr H S ops.length = hs pl ops tr H (fun _ => true) i := by
                rw [hs_stop ops.length (by omega) above]
                exact hs_congr _ fun j hj hcj => below j hj hcj
              have e2 : hs pl ops tr H (upd S i) ops.length = heapOf tr i := by
                rw [hs_stop (i := i + 1) ops.length (by omega) (fun j h1 h2 h3 => above j (by omega) h2 ⟨by have := h3.1; unfold upd at this; rwa [if_neg (by omega)] at this, h3.2⟩)]
                simp only [hs]
                rw [if_pos (by simp [upd, hci])]
              show AStep P _ (hs pl ops tr H S ops.length) o _
              rw [e1]
              unfold stepD at hst
              split at hst
              · rename_i hbs; unfold quiet at hqi; simp [hbs] at hqi
              · have hnp : pureOp pl o.op = false := by
                  unfold quiet at hqi
                  simp only [Bool.or_eq_false_iff] at hqi
                  exact hqi.1.2
                rw [if_neg (by simp [hnp])] at hst
                split at hst
                · rename_i x hx
                  injection hst with hst
                  subst hst
                  exact .inl ⟨_, _, hx, R0 _ _ rfl e2⟩
                · split at hst
                  · rename_i f args hcall
                    split at hst
                    · rename_i hgo
                      refine .inr (.inr ⟨f, args, hcall, hgo, (hcl1 f args _ _ _ hst).mono ?_⟩)
                      rintro r' H'' ⟨rfl, rfl⟩
                      exact R0 _ _ rfl e2
                    · cases hst
                  · cases hst
          · subst hb
            obtain ⟨a1, a2⟩ := hw0 rfl
            refine R0 _ _ a1 ?_
            cases hci : chn pl ops i with
            | false =>
              refine hs_congr _ fun j _ hj => ?_
              unfold upd
              split
              · rename_i he; rw [he, hci] at hj; cases hj
              · rfl
            | true =>
              have below : ∀ j, j < i → chn pl ops j = true → S j = true := fun j hj hcj => before j (chain j i hj hil hcj hci)
              have above : ∀ j, i ≤ j → j < ops.length → ¬ (S j = true ∧ chn pl ops j = true) := by
                rintro j hj hjl ⟨h1, h2⟩
                rcases Nat.eq_or_lt_of_le hj with rfl | hlt
                · rw [hSi] at h1; cases h1
                · exact behind j h1 hjl (chain i j hlt hjl hci h2)
              have e1 : hs pl ops tr H S ops.length = hs pl ops tr H (fun _ => true) i := by
                rw [hs_stop ops.length (by omega) above]
                exact hs_congr _ fun j hj hcj => below j hj hcj
              rw [hs_stop (i := i + 1) ops.length (by omega) (fun j h1 h2 h3 => above j (by omega) h2 ⟨by have := h3.1; unfold upd at this; rwa [if_neg (by omega)] at this, h3.2⟩)]
              simp only [hs]
              rw [if_pos (by simp [upd, hci]), a2, e1]
        · intro _ S hall _
          show Q .normal (pt ops (valsOf tr) (fun _ => true) T ops.length) (hs pl ops tr H S ops.length)
          rw [h1, hs_congr (S' := fun _ => true) _ (fun j hj _ => hall j hj), h2]
          exact hq
      · cases h
    · cases h
  · cases h
end
end Go.Proofs.Ythgkepaadkmhoaa.Av
