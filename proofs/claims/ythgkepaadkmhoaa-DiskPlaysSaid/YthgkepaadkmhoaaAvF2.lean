/- One operation as a formula, and that it says enough. -/
import Derived.Test.YthgkepaadkmhoaaAvF
set_option linter.unusedVariables false
set_option linter.unusedSimpArgs false
namespace Go.Proofs.Ythgkepaadkmhoaa.Av
open Go Go.RowKit

section
variable {P : Program}
def sBuiltin (P : Program) (H : AH) (w : Bool) (b : Builtin) (ts : List TypeId) (xs : List AV) (K : AV → AH → Prop) : Prop :=
  match b, ts, xs with
  | .len, [t], [x] => match lenI P t with
    | some .str => gO w (alnT x) fun v => K v H
    | some .sl => gO w (alnS x) fun v => K v H
    | some (.arr n) => gO w (some (.lit (.int .i64 n))) fun v => K v H
    | some .mp => gO w (alnM H x) fun v => K v H
    | none => False
  | .cap, [t], [x] => match lenI P t with
    | some .sl => gO w (acpS x) fun v => K v H
    | some (.arr n) => gO w (some (.lit (goInt n))) fun v => K v H
    | _ => False
  | .clear, [t], [x] => match elemI P t with
    | some (_, _, zc) => gS w (acl zc H x) H fun H' => K (if w then .lit (.tuple #[]) else undefA) H'
    | none => False
  | .append, [t, u], [s, x] => match elemI P t, lenI P u with
    | some (sz, by', _), some .sl | some (sz, by', _), some .str => gH w (aap sz by' H s x) H K
    | some (sz, by', zc), none => match P.underlying u with
      | some (.int _) => gH w (aappZ1 H sz by' zc s x) H K
      | _ => False
    | _, _ => False
  | .copy, [t, _], [d, s] => match sliceI P t with
    | some (.sl sz) => gH w (acp sz H d s) H K
    | _ => False
  | .min, _, xs => gO w (amm imn xs) fun v => K v H
  | .max, _, xs => gO w (amm imx xs) fun v => K v H
  | _, _, _ => False
/-- One operation, that is wanted or not. -/
def sOp (P : Program) (ql al : FuncId → Bool) (dr : Bool) (ρ : Operand → AV) (H : AH) (o : Oper) (w : Bool) (K : AV → AH → Prop) : Prop :=
  match o.op with
  | .move x => gO w (some (ρ x)) fun v => K v H
  | .assign x => gO w (some (ρ x)) fun v => K v H
  | .pick c a b => gO w (apick (ρ c) (ρ a) (ρ b)) fun v => K v H
  | .alloc e => match tZero P e with
    | some z => gH w (anew H (.ofV z)) H K
    | none => False
  | .box _ x => gH w (anew H (ρ x)) H K
  | .build t parts => match buildZ P t with
    | some (zc, pl) => match places pl ρ parts.toList with
      | some l => gO w (abl zc l) fun v => K v H
      | none => False
    | none => False
  | .buildSlice t len parts => match elemI P t with
    | some (sz, _, zc) => match Nat.ble (len * sz) 16777216 with
      | true => match places (fun j => some (j * sz, sz)) ρ parts.toList with
        | some l => match dr with
          | true => gO w (absf sz len (zrow zc len) l) fun v => K v H
          | false => gH w (absl H sz len (zrow zc len) l) H K
        | none => False
      | false => False
    | none => False
  | .load t a => match tAgg P t, tSize P t with
    | some g, some n => gO w (ald g n H (ρ a)) fun v => K v H
    | _, _ => False
  | .store t a x => match tSize P t with
    | some n => gS w (ast n H (ρ a) (ρ x)) H fun H' => K undefA H'
    | none => False
  | .nilCheck x => gO w (anilCheck (ρ x)) fun v => K v H
  | .binOp op t x y _ => match P.underlying t with
    | some (.int _) => gO w (abI op (ρ x) (ρ y)) fun v => K v H
    | some .string => gO w (abT op (ρ x) (ρ y)) fun v => K v H
    | some .bool => gO w (abB op (ρ x) (ρ y)) fun v => K v H
    | some (.pointer _) => gO w (abN op nilP (ρ x) (ρ y)) fun v => K v H
    | some (.slice _) => gO w (abN op nilS (ρ x) (ρ y)) fun v => K v H
    | some (.func ..) => gO w (abN op nilF (ρ x) (ρ y)) fun v => K v H
    | some (.map ..) => gO w (abN op nilM (ρ x) (ρ y)) fun v => K v H
    | _ => gO w (abin P op t (ρ x) (ρ y)) fun v => K v H
  | .unOp op _ x => gO w (aun op (ρ x)) fun v => K v H
  | .convert s d x => match convI P s d with
    | some (.int k) => gO w (acI k (ρ x)) fun v => K v H
    | some .str => gO w (acS (ρ x)) fun v => K v H
    | some .ofB => gO w (acB H (ρ x)) fun v => K v H
    | some .toB => gO w (acT (ρ x)) fun v => K v H
    | none => False
  | .makeFunc fn f c => gO w (some (.fn fn (f.toList.map ρ) (c.toList.map ρ))) fun v => K v H
  | .makeSlice t l c => match elemI P t with
    | some (sz, by', zc) => gH w (amk sz by' zc H (ρ l) (ρ c)) H K
    | none => False
  | .slice t x lo hi mx => match sliceI P t, mx with
    | some .str, none => gO w (aslT (ρ x) (lo.map ρ) (hi.map ρ)) fun v => K v H
    | some (.sl sz), mx => gO w (aslS sz (ρ x) (lo.map ρ) (hi.map ρ) (mx.map ρ)) fun v => K v H
    | some (.arr n sz), none => gO w (aslA n sz H (ρ x) (lo.map ρ) (hi.map ρ)) fun v => K v H
    | _, _ => False
  | .fieldAddr s x f => match afieldAt P s f with
    | some k => gO w (ashift k (ρ x)) fun v => K v H
    | none => False
  | .field s x f => match fieldI P s f with
    | some (g, n, off) => gO w (aprt g n off (ρ x)) fun v => K v H
    | none => False
  | .indexAddr t x i => match indexI P t with
    | some (.sl sz) => gO w (aixS sz (ρ x) (ρ i)) fun v => K v H
    | some (.arr len sz) => gO w (aixA len sz (ρ x) (ρ i)) fun v => K v H
    | none => False
  | .index t x i => match ivI P t with
    | some .str => gO w (aivT (ρ x) (ρ i)) fun v => K v H
    | some (.arr g n len sz) => gO w (aivA g n len sz (ρ x) (ρ i)) fun v => K v H
    | none => False
  | .extract t i => gO w (aextract (ρ t) i) fun v => K v H
  | .makeMap t l => match mapI P t with
    | some _ => gH w (amkM H (l.map ρ)) H K
    | none => False
  | .lookup t x k co => match mapI P t with
    | some (d, z) => gO w (alk d z H (ρ x) (ρ k) co) fun v => K v H
    | none => False
  | .mapUpdate t m k x => match mapI P t with
    | some (d, _) => gS w (amu d H (ρ m) (ρ k) (ρ x)) H fun H' => K undefA H'
    | none => False
  | .mapEntry t m k => match mapI P t with
    | some (d, z) => gH w (ame d z H (ρ m) (ρ k)) H K
    | none => False
  | .entryStore _ m s x => gS w (aentryStore H (ρ m) (ρ s) (ρ x)) H fun H' => K undefA H'
  | .call { callee := .builtin b, args, argTypes } => sBuiltin P H w b argTypes.toList (args.toList.map ρ) K
  | .call { callee := .value f, args, argTypes := _ } => bF w (ρ f) fun k first cap => match pureOp al o.op with
      | true => match dr with
        | true => False
        | false => match goFunc P k with
          | true => gA w (ACalls P k (first ++ args.toList.map ρ ++ cap) H) H K
          | false => gP w (ExtR P k (first ++ args.toList.map ρ ++ cap) H) fun v => K v H
      | false => bT (goFunc P k || !w) (match pureOp ql o.op with
        | true => match dr with
          | true => gP w (BPure P k (first ++ args.toList.map ρ ++ cap)) fun v => K v H
          | false => gP w (PCall P k (first ++ args.toList.map ρ ++ cap) H) fun v => K v H
        | false => gC w (BCall P k (first ++ args.toList.map ρ ++ cap) H) H K)
  | _ => False

/-- What an operation comes to. -/
def StepR (P : Program) (ql : FuncId → Bool) (dr : Bool) (ρ : Operand → AV) (H : AH) (o : Oper) (w : Bool) (r : AV) (H' : AH) : Prop :=
  (w = true ∧ (opD P dr ρ H o = some (r, H') ∨ (opD P dr ρ H o = none ∧ wCall P ql dr ρ o H r H'))) ∨ (w = false ∧ r = undefA ∧ H' = H)
section
variable {ql : FuncId → Bool} {dr : Bool} {ρ : Operand → AV} {H : AH} {o : Oper} {w : Bool} {K : AV → AH → Prop}
theorem gO_one {x : Option AV} (h : gO w x fun v => K v H) (hx : ∀ r, x = some r → opD P dr ρ H o = some (r, H)) :
    ∃ r H', K r H' ∧ StepR P ql dr ρ H o w r H' ∧ ∀ K2 : AV → AH → Prop, K2 r H' → gO w x fun v => K2 v H := by
  cases w with
  | false => exact ⟨undefA, H, h, .inr ⟨rfl, rfl, rfl⟩, fun _ h => h⟩
  | true => cases x with
    | none => exact h.elim
    | some r => exact ⟨r, H, h, .inl ⟨rfl, .inl (hx r rfl)⟩, fun _ h => h⟩
theorem gH_one {x : Option (AV × AH)} (h : gH w x H K) (hx : ∀ r, x = some r → opD P dr ρ H o = some r) :
    ∃ r H', K r H' ∧ StepR P ql dr ρ H o w r H' ∧ ∀ K2 : AV → AH → Prop, K2 r H' → gH w x H K2 := by
  cases w with
  | false => exact ⟨undefA, H, h, .inr ⟨rfl, rfl, rfl⟩, fun _ h => h⟩
  | true => cases x with
    | none => exact h.elim
    | some r => exact ⟨r.1, r.2, h, .inl ⟨rfl, .inl (hx r rfl)⟩, fun _ h => h⟩
theorem gS_one {x : Option AH} {u : AV} (h : gS w x H fun H' => K (if w then u else undefA) H') (hx : ∀ r, x = some r → opD P dr ρ H o = some (u, r)) :
    ∃ r H', K r H' ∧ StepR P ql dr ρ H o w r H' ∧ ∀ K2 : AV → AH → Prop, K2 r H' → gS w x H fun H' => K2 (if w then u else undefA) H' := by
  cases w with
  | false => exact ⟨undefA, H, h, .inr ⟨rfl, rfl, rfl⟩, fun _ h => h⟩
  | true => cases x with
    | none => exact h.elim
    | some r => exact ⟨u, r, h, .inl ⟨rfl, .inl (hx r rfl)⟩, fun _ h => h⟩
theorem gS_one' {x : Option AH} (h : gS w x H fun H' => K undefA H') (hx : ∀ r, x = some r → opD P dr ρ H o = some (undefA, r)) :
    ∃ r H', K r H' ∧ StepR P ql dr ρ H o w r H' ∧ ∀ K2 : AV → AH → Prop, K2 r H' → gS w x H fun H' => K2 undefA H' := by
  have := gS_one (u := undefA) (ql := ql) (by simpa using h) hx
  simpa using this
end

theorem opD_aop {dr : Bool} {ρ : Operand → AV} {H : AH} {o : Oper} (hb : isBS o.op = false) : opD P dr ρ H o = aop P ρ H o := by
  unfold opD; rw [hb]; simp

/-! what the worked out operations come to is what the machine's come to -/
theorem ald_ok {t : TypeId} {g : Bool} {n : Nat} {H : AH} {a : AV} (hg : tAgg P t = some g) (hn : tSize P t = some n) : aload P H t a = ald g n H a := by
  unfold aload ald; rw [hg, hn]; cases a <;> rfl
theorem ast_ok {t : TypeId} {n : Nat} {H : AH} {a x : AV} (hn : tSize P t = some n) : astore P H t a x = ast n H a x := by
  unfold astore ast; rw [hn]
  cases cellsA x <;> cases a <;> rfl
theorem abI_ok {op : BinOp} {t : TypeId} {x y r : AV} (h : abI op x y = some r) : abin P op t x y = some r := by
  unfold abI at h
  split at h
  · unfold abin; exact h
  · cases h
theorem abT_ok {op : BinOp} {t : TypeId} {x y r : AV} (h : abT op x y = some r) : abin P op t x y = some r := by
  unfold abT at h
  split at h
  · unfold abin; exact h
  · cases h
theorem abB_ok {op : BinOp} {t : TypeId} {x y r : AV} (hu : P.underlying t = some .bool) (h : abB op x y = some r) : abin P op t x y = some r := by
  unfold abB at h
  split at h
  · unfold abin
    simp only [aeq, hu]
    exact h
  · cases h
theorem abN_ok {op : BinOp} {f : AV → Option Bool} {t : TypeId} {x y r : AV} (hx : ∀ v, x = .lit v → (∃ k n, v = .int k n) ∨ (∃ s, v = .string s) → f x = none) (he : ∀ x y, aeq P 20 t x y = anil2 (f x) (f y)) (h : abN op f x y = some r) : abin P op t x y = some r := by
  unfold abN at h
  split at h
  · cases h
  · cases h
  · cases h
  · rename_i hagg hn1 hn2
    unfold abin
    split
    · rename_i k a k' b
      have := hx _ rfl (.inl ⟨k, a, rfl⟩)
      rw [this] at h
      unfold aEq anil2 at h
      split at h <;> simp at h
    · rename_i a b
      have := hx _ rfl (.inr ⟨a, rfl⟩)
      rw [this] at h
      unfold aEq anil2 at h
      split at h <;> simp at h
    · exact (hn2 _ _ rfl rfl).elim
    · exact (hagg rfl).elim
    · exact (hn1 rfl).elim
    · rw [he]
      exact h
end
end Go.Proofs.Ythgkepaadkmhoaa.Av
