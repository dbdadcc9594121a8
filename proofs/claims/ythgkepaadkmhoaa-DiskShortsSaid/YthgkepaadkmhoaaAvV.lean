/- One operation of the abstract machine, and its soundness. -/
import Derived.Test.YthgkepaadkmhoaaAvUa
import Derived.Test.YthgkepaadkmhoaaAvTz
import Derived.Laws.IdiomStrings
set_option linter.unusedVariables false
set_option linter.unusedSimpArgs false
namespace Go.Proofs.Ythgkepaadkmhoaa.Av
open Go Go.RowKit

section
variable {P : Program} {G : Cfg}

/-- A text's bytes, as a slice in memory that nobody writes. -/
def abytes (P : Program) (src dst : TypeId) (x : AV) : Option AV :=
  match P.underlying src, P.underlying dst, x with
  | some .string, some (.slice e), .lit (.string s) => match P.underlying e with
    | some (.int .u8) => some (.imm (s.data.toList.map fun b => .lit (.int .u8 b.toNat)) s.size 1)
    | _ => none
  | _, _, _ => none
theorem cell_marked {w : World} {c : Array Value} {e : TypeId} {fr : Nat × Nat} (j : Nat) : (w.alloc (.cells c e fr)).cell? ⟨w.heap.size, j, none⟩ = c[j]? := by
  unfold World.cell?
  rw [heap_alloc_new]
  rfl
theorem abytes_ok {H : AH} (hr : HR G H) {src dst : TypeId} {x r : AV} {v : Value} (hx : VR G x v) (h : abytes P src dst x = some r) :
    ∃ (G' : Cfg) (u : Value), (convert src dst v).run P G.w = .ok u G'.w ∧ Evo G G' ∧ VR G' r u ∧ HR G' H := by
  unfold abytes at h
  split at h
  · rename_i e s hs hd
    split at h
    · rename_i he
      injection h with h
      subst h
      simp only [VR] at hx
      subst hx
      have q := run_bytes_of_string (P := P) G.w src dst e s hs hd he
      generalize hcap : grownCap G.w s.size 0 e = cap at q
      have hge : s.size ≤ cap := by rw [← hcap]; exact grownCap_ge _ _ _ _
      generalize hfr : ((bytesRow s cap).size, (bytesRow s cap).size + 1) = fr at q
      let G1 : Cfg := { G with w := G.w.drew.alloc (.cells (bytesRow s cap) e fr) }
      have hE : Evo G G1 := ⟨rfl, rfl, rfl, by simp [G1], fun k hk hL => ⟨Below.heap_alloc _ _ _ hk, hL⟩, Nat.le_refl _, fun _ _ => rfl, rfl⟩
      refine ⟨G1, _, q, hE, ?_, ?_⟩
      · simp only [VR]
        refine ⟨_, _, byteCells s, rfl, hge, .inr ⟨fun hL => ?_, fun i v hv => ?_⟩, ?_⟩
        · have := hr.lt _ hL; simp at this
        · refine ⟨?_, ?_⟩
          · rw [Addr.add_lit]
            have := cell_marked (w := G.w.drew) (c := bytesRow s cap) (e := e) (fr := fr) i
            rw [show (0 : Nat) + i = i by omega]
            refine this.trans ?_
            unfold bytesRow
            unfold byteCells at hv
            rw [Array.getElem?_append_left (by have := (List.getElem?_eq_some_iff.1 hv).1; simpa using this)]
            simpa using hv
          · have := List.mem_of_getElem? hv
            unfold byteCells at this
            obtain ⟨_, _, rfl⟩ := List.mem_map.1 this
            rfl
        · unfold byteCells
          have := VRs.lits (G := G1) (s.data.toList.map fun b => Value.int .u8 b.toNat)
          simpa [List.map_map, Function.comp_def] using this
      · exact ⟨hr.n, fun o x ho => OR.evo hE (hr.lt_n ho) (Below.heap_alloc _ _ _ (hr.lt _ (.inl (hr.live _ _ ho)))) (hr.obj o x ho), hr.inj, hr.live, fun b hb => by have := hr.lt b hb; simp [G1]; omega⟩
    · cases h
  · cases h

def abuiltin (P : Program) (H : AH) (b : Builtin) (ts : List TypeId) (xs : List AV) : Option (AV × AH) :=
  match b, ts, xs with
  | .len, [t], [x] => (match alen P t x with
    | some r => some r
    | none => amapLen P H t x).map (·, H)
  | .cap, [t], [x] => (acap P t x).map (·, H)
  | .clear, [t], [x] => (aclear P H t x).map (.lit (.tuple #[]), ·)
  | .append, [t, u], [s, x] => match aappend P H t u s x with
    | some r => some r
    | none => aappendZ P H t u s x
  | .copy, [t, _], [d, s] => acopy P H t d s
  | .min, _, xs => (amm imn xs).map (·, H)
  | .max, _, xs => (amm imx xs).map (·, H)
  | _, _, _ => none
/-- One operation, but calls of Go functions. -/
def aop (P : Program) (ρ : Operand → AV) (H : AH) (o : Oper) : Option (AV × AH) :=
  match o.op with
  | .move x | .assign x => some (ρ x, H)
  | .pick c a b => match ρ c with
    | .lit (.bool t) => some (if t then ρ a else ρ b, H)
    | _ => none
  | .alloc e => match tZero P e with
    | some z => anew H (.ofV z)
    | none => none
  | .box _ x => anew H (ρ x)
  | .build t parts => (abuild P t (parts.toList.map fun p => (p.1, ρ p.2))).map (·, H)
  | .buildSlice t len parts => abuildSlice P H t len (parts.toList.map fun p => (p.1, ρ p.2))
  | .load t a => (aload P H t (ρ a)).map (·, H)
  | .store t a x => (astore P H t (ρ a) (ρ x)).map (undefA, ·)
  | .nilCheck x => (anilCheck (ρ x)).map (·, H)
  | .binOp op t x y _ => (abin P op t (ρ x) (ρ y)).map (·, H)
  | .unOp op _ x => (aun op (ρ x)).map (·, H)
  | .convert s d x => match aconvert P H s d (ρ x) with
    | some r => some (r, H)
    | none => (abytes P s d (ρ x)).map (·, H)
  | .makeFunc fn f c => some (.fn fn (f.toList.map ρ) (c.toList.map ρ), H)
  | .makeSlice t l c => amake P H t (ρ l) (ρ c)
  | .slice t x lo hi mx => (aslice P H t (ρ x) (lo.map ρ) (hi.map ρ) (mx.map ρ)).map (·, H)
  | .fieldAddr s x f => (afieldAddr P s (ρ x) f).map (·, H)
  | .field s x f => (afield P s (ρ x) f).map (·, H)
  | .indexAddr t x i => (aindexAddr P t (ρ x) (ρ i)).map (·, H)
  | .index t x i => (aindex P t (ρ x) (ρ i)).map (·, H)
  | .extract t i => (aextract (ρ t) i).map (·, H)
  | .makeMap t l => amakeMap P H t (l.map ρ)
  | .lookup t x k co => (alookup P H t (ρ x) (ρ k) co).map (·, H)
  | .mapUpdate t m k x => (amapUpdate P H t (ρ m) (ρ k) (ρ x)).map (undefA, ·)
  | .mapEntry t m k => amapEntry P H t (ρ m) (ρ k)
  | .entryStore _ m s x => (aentryStore H (ρ m) (ρ s) (ρ x)).map (undefA, ·)
  | .call { callee := .builtin b, args, argTypes } => abuiltin P H b argTypes.toList (args.toList.map ρ)
  | _ => none

def OpS (P : Program) (G : Cfg) (s : Sem Next) (r : AV) (H' : AH) : Prop :=
  ∃ (G' : Cfg) (u : Value), (s.run P G.w = .ok (.value u) G'.w ∨ (s.run P G.w = .ok .skip G'.w ∧ u = undef)) ∧ Evo G G' ∧ VR G' r u ∧ HR G' H'
theorem OpS.val {s : Sem Value} {r : AV} {H : AH} (hr : HR G H) (h : ∃ u, s.run P G.w = .ok u G.w ∧ VR G r u) : OpS P G (do pure (.value (← s))) r H := by
  obtain ⟨u, hu, hx⟩ := h
  exact ⟨G, u, .inl (by simp [hu]), Evo.refl G, hx, hr⟩
theorem OpS.heap {s : Sem Value} {r : AV} {H' : AH} (h : ∃ (G' : Cfg) (u : Value), s.run P G.w = .ok u G'.w ∧ Evo G G' ∧ VR G' r u ∧ HR G' H') : OpS P G (do pure (.value (← s))) r H' := by
  obtain ⟨G', u, hu, hE, hx, hr⟩ := h
  exact ⟨G', u, .inl (by simp [hu]), hE, hx, hr⟩
theorem VRs.map_ops {ρ : Operand → AV} {ρc : Operand → Value} (hf : ∀ x, VR G (ρ x) (ρc x)) (l : List Operand) : VRs G (l.map ρ) (l.map ρc) := by
  induction l with
  | nil => exact .nil
  | cons x l ih => exact .cons (hf x) ih
theorem VRo.map_ops {ρ : Operand → AV} {ρc : Operand → Value} (hf : ∀ x, VR G (ρ x) (ρc x)) (l : Option Operand) : VRo G (l.map ρ) (l.map ρc) := by
  cases l with
  | none => trivial
  | some x => exact hf x
theorem VRs.map_parts {ρ : Operand → AV} {ρc : Operand → Value} (hf : ∀ x, VR G (ρ x) (ρc x)) (l : List (Nat × Operand)) :
    (l.map fun p => (p.1, ρ p.2)).map Prod.fst = (l.map fun p => (p.1, ρc p.2)).map Prod.fst ∧ VRs G ((l.map fun p => (p.1, ρ p.2)).map Prod.snd) ((l.map fun p => (p.1, ρc p.2)).map Prod.snd) := by
  induction l with
  | nil => exact ⟨rfl, .nil⟩
  | cons x l ih => exact ⟨by simp, .cons (hf x.2) ih.2⟩
theorem map_pair {α : Type} {o : Option α} {H H' : AH} {r : α} (h : o.map (·, H) = some (r, H')) : o = some r ∧ H' = H := by
  obtain ⟨a, ha, he⟩ := Option.map_eq_some_iff.1 h
  injection he with h1 h2
  exact ⟨by rw [ha, h1], h2.symm⟩
theorem vrs1 {x : AV} {vs : List Value} (h : VRs G [x] vs) : ∃ v, vs = [v] ∧ VR G x v := by
  simp only [VRs] at h
  obtain ⟨v, r, e, hv, e2⟩ := h
  exact ⟨v, by rw [e, e2], hv⟩
theorem vrs2 {x y : AV} {vs : List Value} (h : VRs G [x, y] vs) : ∃ v u, vs = [v, u] ∧ VR G x v ∧ VR G y u := by
  simp only [VRs] at h
  obtain ⟨v, r, e, hv, u, r2, e2, hu, e3⟩ := h
  exact ⟨v, u, by rw [e, e2, e3], hv, hu⟩
theorem abuiltin_ok {H H' : AH} (hr : HR G H) {b : Builtin} {ts : Array TypeId} {ty : TypeId} {cs : Array Bool} {xs : List AV} {vs : List Value} {r : AV} (hx : VRs G xs vs) (h : abuiltin P H b ts.toList xs = some (r, H')) :
    OpS P G (builtin b ts ty cs vs.toArray) r H' := by
  obtain ⟨ts⟩ := ts
  simp only at h
  unfold abuiltin at h
  split at h
  · obtain ⟨h2, rfl⟩ := map_pair h
    obtain ⟨v, rfl, hv⟩ := vrs1 hx
    split at h2
    · rename_i h3
      injection h2 with h2
      subst h2
      exact OpS.val hr (alen_ok hv h3 _)
    · exact OpS.val hr (amapLen_ok hr hv h2)
  · obtain ⟨h2, rfl⟩ := map_pair h
    obtain ⟨v, rfl, hv⟩ := vrs1 hx
    exact OpS.val hr (acap_ok hv h2 _)
  · obtain ⟨v, rfl, hv⟩ := vrs1 hx
    obtain ⟨H1, h1, he⟩ := Option.map_eq_some_iff.1 h
    injection he with e1 e2
    subst e1; subst e2
    obtain ⟨G', q, hE, hH⟩ := aclear_ok (ty := ty) hr hv h1
    exact OpS.heap ⟨G', _, q, hE, by simp only [VR], hH⟩
  · obtain ⟨v, u, rfl, hv, hu⟩ := vrs2 hx
    split at h
    · rename_i r1 h1
      injection h with h
      subst h
      exact OpS.heap (aappend_ok hr hv hu h1)
    · exact OpS.heap (aappendZ_ok hr hv hu h)
  · obtain ⟨v, u, rfl, hv, hu⟩ := vrs2 hx
    exact OpS.heap (acopy_ok hr hv hu h)
  · obtain ⟨h2, rfl⟩ := map_pair h
    exact OpS.val hr (amm_min (vs := vs.toArray) hx h2 _)
  · obtain ⟨h2, rfl⟩ := map_pair h
    exact OpS.val hr (amm_max (vs := vs.toArray) hx h2 _)
  · cases h
theorem mk_pair {H H' : AH} {a r : AV} (h : some (a, H) = some (r, H')) : r = a ∧ H' = H := by
  injection h with h
  injection h with h1 h2
  exact ⟨h1.symm, h2.symm⟩
set_option maxHeartbeats 2000000 in
theorem aop_ok {ρ : Operand → AV} {ρc : Operand → Value} {H H' : AH} (hr : HR G H) (hf : ∀ x, VR G (ρ x) (ρc x)) {o : Oper} {r : AV} (h : aop P ρ H o = some (r, H')) : OpS P G (execOp ρc o) r H' := by
  obtain ⟨dst, op, type, pos, after, guard⟩ := o
  cases op
  case move x => obtain ⟨rfl, rfl⟩ := mk_pair h; exact ⟨G, _, .inl rfl, Evo.refl G, hf x, hr⟩
  case assign x => obtain ⟨rfl, rfl⟩ := mk_pair h; exact ⟨G, _, .inl rfl, Evo.refl G, hf x, hr⟩
  case pick c a b =>
    unfold aop at h
    simp only at h
    split at h
    · rename_i t ht
      obtain ⟨rfl, rfl⟩ := mk_pair h
      have := hf c
      rw [ht] at this
      simp only [VR] at this
      refine ⟨G, if t then ρc a else ρc b, .inl (by simp [execOp, this, asBool]), Evo.refl G, ?_, hr⟩
      cases t
      · exact hf b
      · exact hf a
    · cases h
  case alloc e =>
    unfold aop at h
    simp only at h
    split at h
    · rename_i z hz
      obtain ⟨G', u, h1, h2, h3, h4⟩ := anew_ok (P := P) (e := e) hr (VR.ofV G z) h
      exact OpS.heap ⟨G', _, by simp [Instr.alloc, run_zeroValue hz, h1], h2, h3, h4⟩
    · cases h
  case box e x =>
    obtain ⟨G', u, h1, h2, h3, h4⟩ := anew_ok (P := P) (e := e) hr (hf x) h
    exact OpS.heap ⟨G', _, by simp [Instr.box, h1], h2, h3, h4⟩
  case build t parts =>
    obtain ⟨h2, rfl⟩ := map_pair h
    obtain ⟨e1, e2⟩ := VRs.map_parts hf parts.toList
    have q := abuild_ok (vparts := parts.map fun (i, x) => (i, ρc x)) (by rw [Array.toList_map]; exact e1) (by rw [Array.toList_map]; exact e2) h2 G.w
    exact OpS.val hr q
  case buildSlice t len parts =>
    obtain ⟨e1, e2⟩ := VRs.map_parts hf parts.toList
    have h2 : abuildSlice P H t len (parts.toList.map fun p => (p.1, ρ p.2)) = some (r, H') := h
    have q := abuildSlice_ok hr (vparts := parts.map fun (i, x) => (i, ρc x)) (by rw [Array.toList_map]; exact e1) (by rw [Array.toList_map]; exact e2) h2
    exact OpS.heap q
  case load t a => obtain ⟨h2, rfl⟩ := map_pair h; exact OpS.val hr (aload_ok hr (hf a) h2)
  case store t a x =>
    obtain ⟨H1, h1, he⟩ := Option.map_eq_some_iff.1 (show (astore P H t (ρ a) (ρ x)).map (undefA, ·) = some (r, H') from h)
    injection he with e1 e2
    subst e1; subst e2
    obtain ⟨G', q, hE, hH⟩ := astore_ok hr (hf a) (hf x) h1
    exact ⟨G', undef, .inr ⟨by simp [execOp, q], rfl⟩, hE, by simp only [undefA, VR], hH⟩
  case nilCheck x =>
    obtain ⟨h2, rfl⟩ := map_pair h
    obtain ⟨rfl, h1⟩ := anilCheck_ok (hf x) h2
    refine ⟨G, ρc x, .inl ?_, Evo.refl G, hf x, hr⟩
    rcases h1 with ⟨a, h1⟩ | ⟨f, a, b, h1⟩ <;> simp [execOp, h1]
  case binOp op t x y u => obtain ⟨h2, rfl⟩ := map_pair h; exact OpS.val hr (abin_ok (hf x) (hf y) h2)
  case unOp op t x => obtain ⟨h2, rfl⟩ := map_pair h; exact OpS.val hr (aun_ok (hf x) h2)
  case convert s d x =>
    unfold aop at h
    simp only at h
    split at h
    · rename_i q hq
      obtain ⟨rfl, rfl⟩ := mk_pair h
      exact OpS.val hr (aconvert_ok hr (hf x) hq)
    · obtain ⟨h2, rfl⟩ := map_pair h
      exact OpS.heap (abytes_ok hr (hf x) h2)
  case makeFunc fn f c =>
    obtain ⟨rfl, rfl⟩ := mk_pair h
    refine OpS.val hr ⟨.func fn (f.map ρc) (c.map ρc), rfl, ?_⟩
    simp only [VR]
    exact ⟨_, _, rfl, by rw [Array.toList_map]; exact VRs.map_ops hf f.toList, by rw [Array.toList_map]; exact VRs.map_ops hf c.toList⟩
  case makeSlice t l c => exact OpS.heap (amake_ok hr (hf l) (hf c) h)
  case slice t x lo hi mx => obtain ⟨h2, rfl⟩ := map_pair h; exact OpS.val hr (aslice_ok hr (hf x) (VRo.map_ops hf lo) (VRo.map_ops hf hi) (VRo.map_ops hf mx) h2)
  case fieldAddr s x f => obtain ⟨h2, rfl⟩ := map_pair h; exact OpS.val hr (afieldAddr_ok (hf x) h2)
  case field s x f => obtain ⟨h2, rfl⟩ := map_pair h; exact OpS.val hr (afield_ok (hf x) h2)
  case indexAddr t x i => obtain ⟨h2, rfl⟩ := map_pair h; exact OpS.val hr (aindexAddr_ok (hf x) (hf i) h2)
  case index t x i => obtain ⟨h2, rfl⟩ := map_pair h; exact OpS.val hr (aindex_ok (hf x) (hf i) h2)
  case extract t i => obtain ⟨h2, rfl⟩ := map_pair h; exact OpS.val hr (aextract_ok (hf t) h2)
  case makeMap t l => exact OpS.heap (amakeMap_ok hr (VRo.map_ops hf l) h)
  case lookup t x k co => obtain ⟨h2, rfl⟩ := map_pair h; exact OpS.val hr (alookup_ok hr (hf x) (hf k) h2)
  case mapUpdate t m k x =>
    obtain ⟨H1, h1, he⟩ := Option.map_eq_some_iff.1 (show (amapUpdate P H t (ρ m) (ρ k) (ρ x)).map (undefA, ·) = some (r, H') from h)
    injection he with e1 e2
    subst e1; subst e2
    obtain ⟨G', q, hE, hH⟩ := amapUpdate_ok hr (hf m) (hf k) (hf x) h1
    exact ⟨G', undef, .inr ⟨by simp [execOp, q], rfl⟩, hE, by simp only [undefA, VR], hH⟩
  case mapEntry t m k => exact OpS.heap (amapEntry_ok hr (hf m) (hf k) h)
  case entryStore t m s x =>
    obtain ⟨H1, h1, he⟩ := Option.map_eq_some_iff.1 (show (aentryStore H (ρ m) (ρ s) (ρ x)).map (undefA, ·) = some (r, H') from h)
    injection he with e1 e2
    subst e1; subst e2
    obtain ⟨G', q, hE, hH⟩ := aentryStore_ok (P := P) (t := t) hr (hf m) (hf s) (hf x) h1
    exact ⟨G', undef, .inr ⟨by simp [execOp, q], rfl⟩, hE, by simp only [undefA, VR], hH⟩
  case call c =>
    obtain ⟨callee, args, argTypes⟩ := c
    cases callee
    case builtin b =>
      obtain ⟨args⟩ := args
      have h' : abuiltin P H b argTypes.toList (args.map ρ) = some (r, H') := h
      have q := fun cs => abuiltin_ok (ty := type) (cs := cs) hr (VRs.map_ops hf args) h'
      simp only [execOp, resolve, invoke, pure_bind, List.map_toArray]
      exact q _
    all_goals cases h
  all_goals cases h
end
end Go.Proofs.Ythgkepaadkmhoaa.Av
