/- The abstract machine's operations, third part: operators, comparisons, conversions. -/
import Derived.Test.YthgkepaadkmhoaaAvP
set_option linter.unusedVariables false
set_option linter.unusedSimpArgs false
namespace Go.Proofs.Ythgkepaadkmhoaa.Av
open Go Go.RowKit

section
variable {P : Program} {G : Cfg} {w : World}

/-! ### whole numbers, texts -/
def aint2 (op : BinOp) (k : IntKind) (a b : Int) : Option Value :=
  match op with
  | .add => some (.int k (k.wrap (a + b)))
  | .sub => some (.int k (k.wrap (a - b)))
  | .mul => some (.int k (k.wrap (a * b)))
  | .quo => if b = 0 then none else some (.int k (k.wrap (a.tdiv b)))
  | .rem => if b = 0 then none else some (.int k (a.tmod b))
  | .and => some (.int k (k.wrap ((BitVec.ofInt k.bits a &&& BitVec.ofInt k.bits b).toNat)))
  | .or => some (.int k (k.wrap ((BitVec.ofInt k.bits a ||| BitVec.ofInt k.bits b).toNat)))
  | .xor => some (.int k (k.wrap ((BitVec.ofInt k.bits a ^^^ BitVec.ofInt k.bits b).toNat)))
  | .andNot => some (.int k (k.wrap ((BitVec.ofInt k.bits a &&& ~~~ BitVec.ofInt k.bits b).toNat)))
  | .eql => some (.bool (a == b))
  | .neq => some (.bool (a != b))
  | .lss => some (.bool (decide (a < b)))
  | .leq => some (.bool (decide (a ≤ b)))
  | .gtr => some (.bool (decide (a > b)))
  | .geq => some (.bool (decide (a ≥ b)))
  | _ => none
theorem aint2_ok {op : BinOp} {t : TypeId} {k : IntKind} {a b : Int} {v : Value} (h : aint2 op k a b = some v) : (binOp op t (.int k a) (.int k b)).run P w = .ok v w := by
  cases op <;> simp only [aint2] at h <;> first
    | (injection h with h; subst h; simp [binOp, Op.intArith, Op.intCmp, Op.intBits]; done)
    | (split at h
       · cases h
       · rename_i hb
         injection h with h
         subst h
         simp [binOp, Op.intDiv, hb])
    | cases h
def ashiftOp (op : BinOp) (k : IntKind) (a b : Int) : Option Value :=
  if b < 0 then none else match op with
  | .shl => some (.int k (k.wrap (a * 2 ^ min b.toNat k.bits)))
  | .shr => some (.int k (a.fdiv (2 ^ min b.toNat k.bits)))
  | _ => none
theorem ashiftOp_ok {op : BinOp} {t : TypeId} {k k' : IntKind} {a b : Int} {v : Value} (h : ashiftOp op k a b = some v) : (binOp op t (.int k a) (.int k' b)).run P w = .ok v w := by
  unfold ashiftOp at h
  split at h
  · cases h
  rename_i hb
  cases op <;> simp only [] at h <;> first
    | (injection h with h; subst h; simp [binOp, Op.shift, hb]; done)
    | cases h
def astr2 (op : BinOp) (a b : ByteArray) : Option Value :=
  match op with
  | .add => if ((a.size + b.size : Nat) : Int) > 9223372036854775807 then none else some (.string (a ++ b))
  | .eql => some (.bool (a.toList == b.toList))
  | .neq => some (.bool !(a.toList == b.toList))
  | .lss => some (.bool (Op.bytesLess a.toList b.toList))
  | .leq => some (.bool (Op.bytesLess a.toList b.toList || a.toList == b.toList))
  | .gtr => some (.bool !(Op.bytesLess a.toList b.toList || a.toList == b.toList))
  | .geq => some (.bool !(Op.bytesLess a.toList b.toList))
  | _ => none
theorem i64_max : IntKind.i64.max = 9223372036854775807 := by decide
theorem astr2_ok {op : BinOp} {t : TypeId} {a b : ByteArray} {v : Value} (h : astr2 op a b = some v) : (binOp op t (.string a) (.string b)).run P w = .ok v w := by
  cases op <;> simp only [astr2] at h <;> first
    | (injection h with h; subst h; simp [binOp, Op.stringOp]; done)
    | (split at h
       · cases h
       · rename_i hb
         injection h with h
         subst h
         simp only [binOp, Op.stringOp, i64_max, if_neg hb]
         simp)
    | cases h

/-! ### '==' -/
def nilP : AV → Option Bool
  | .lit (.pointer none) => some true
  | .ptr _ _ | .ip _ => some false
  | _ => none
def nilS : AV → Option Bool
  | .lit (.slice none _ _) => some true
  | .sl _ _ _ _ _ | .imm _ _ _ | .emp => some false
  | _ => none
def nilF : AV → Option Bool
  | .lit .nilFunc => some true
  | .fn _ _ _ => some false
  | _ => none
def nilM : AV → Option Bool
  | .lit (.map none) => some true
  | .mp _ => some false
  | _ => none
def anil2 (a b : Option Bool) : Option Bool :=
  match a, b with
  | some true, some b => some b
  | some false, some true => some false
  | _, _ => none
theorem nilP_ok {x : AV} {v : Value} {b : Bool} (hx : VR G x v) (h : nilP x = some b) : ∃ a, v = .pointer a ∧ b = a.isNone := by
  unfold nilP at h
  split at h <;> simp only [Option.some.injEq, reduceCtorEq] at h <;> subst h <;> simp only [VR] at hx
  · exact ⟨none, hx, rfl⟩
  · exact ⟨_, hx.2, rfl⟩
  · obtain ⟨ad, vs, e, _⟩ := hx; exact ⟨_, e, rfl⟩
theorem nilS_ok {x : AV} {v : Value} {b : Bool} (hx : VR G x v) (h : nilS x = some b) : ∃ a n c, v = .slice a n c ∧ b = a.isNone := by
  unfold nilS at h
  split at h <;> simp only [Option.some.injEq, reduceCtorEq] at h <;> subst h <;> simp only [VR] at hx
  · exact ⟨none, _, _, hx, rfl⟩
  · obtain ⟨_, a, c, e, _⟩ := hx; exact ⟨_, _, _, e, rfl⟩
  · obtain ⟨a, c, vs, e, _⟩ := hx; exact ⟨_, _, _, e, rfl⟩
  · obtain ⟨a, e⟩ := hx; exact ⟨_, _, _, e, rfl⟩
theorem nilF_ok {x : AV} {v : Value} {b : Bool} (hx : VR G x v) (h : nilF x = some b) : (v = .nilFunc ∧ b = true) ∨ (∃ f p c, v = .func f p c ∧ b = false) := by
  unfold nilF at h
  split at h <;> simp only [Option.some.injEq, reduceCtorEq] at h <;> subst h <;> simp only [VR] at hx
  · exact .inl ⟨hx, rfl⟩
  · obtain ⟨a, c, e, _⟩ := hx; exact .inr ⟨_, _, _, e, rfl⟩
theorem nilM_ok {x : AV} {v : Value} {b : Bool} (hx : VR G x v) (h : nilM x = some b) : ∃ a, v = .map a ∧ b = a.isNone := by
  unfold nilM at h
  split at h <;> simp only [Option.some.injEq, reduceCtorEq] at h <;> subst h <;> simp only [VR] at hx
  · exact ⟨none, hx, rfl⟩
  · exact ⟨_, hx.2, rfl⟩
def aeqF (f : TypeId → AV → AV → Option Bool) (P : Program) (x y : AV) : List Field → Option Bool
  | [] => some true
  | fl :: r => if fl.name = "_" then none else
    match apart P fl.type x fl.offset, apart P fl.type y fl.offset with
    | some a, some b => match f fl.type a b, aeqF f P x y r with
      | some e, some e' => some (e && e')
      | _, _ => none
    | _, _ => none
def aeqE (f : AV → AV → Option Bool) (P : Program) (t : TypeId) (x y : AV) (sz : Nat) : List Nat → Option Bool
  | [] => some true
  | i :: r => match apart P t x (i * sz), apart P t y (i * sz) with
    | some a, some b => match f a b, aeqE f P t x y sz r with
      | some e, some e' => some (e && e')
      | _, _ => none
    | _, _ => none
def aeq (P : Program) : Nat → TypeId → AV → AV → Option Bool
  | 0, _, _, _ => none
  | d + 1, t, x, y =>
    match P.underlying t with
    | some .bool => match x, y with
      | .lit (.bool a), .lit (.bool b) => some (a == b)
      | _, _ => none
    | some (.int _) => match x, y with
      | .lit (.int k a), .lit (.int k' b) => if k = k' then some (a == b) else none
      | _, _ => none
    | some .string => match x, y with
      | .lit (.string a), .lit (.string b) => some (a.toList == b.toList)
      | _, _ => none
    | some (.pointer _) => anil2 (nilP x) (nilP y)
    | some (.slice _) => anil2 (nilS x) (nilS y)
    | some (.func ..) => anil2 (nilF x) (nilF y)
    | some (.map ..) => anil2 (nilM x) (nilM y)
    | some (.struct fs) => match P.stoodInHeld t, x, y with
      | false, .agg xs, .agg ys => aeqF (aeq P d) P x y fs.toList
      | _, _, _ => none
    | some (.array n e) => match tSize P e, x, y with
      | some sz, .agg xs, .agg ys => aeqE (aeq P d e) P e x y sz (List.range n)
      | _, _, _ => none
    | _ => none

theorem run_forIn_idx (f : Nat → Sem Bool) (g : Nat → Bool) (l : List Nat) (hf : ∀ i, i ∈ l → (f i).run P w = .ok (g i) w) :
    ((do
      for i in l do
        if !(← f i) then return false
      pure true : Sem Bool)).run P w = .ok (l.all g) w := by
  induction l with
  | nil => simp
  | cons i l ih =>
    have h0 := hf i (by simp)
    have ih' := ih fun j hj => hf j (by simp [hj])
    simp only [List.forIn_cons, Sem.run_bind, h0, Result.andThen_ok]
    cases hg : g i with
    | false => simp [hg]
    | true =>
      simp only [Bool.not_true, Bool.false_eq_true, if_false, Sem.run_pure, Result.andThen_ok, List.all_cons, hg, Bool.true_and]
      simpa [Sem.run_bind] using ih'

theorem eqFields_ok {d : Nat} {x y : AV} {vx vy : Array Value} (hx : VR G x (.agg vx)) (hy : VR G y (.agg vy)) (f : TypeId → AV → AV → Option Bool)
    (hf : ∀ t a b va vb e, VR G a va → VR G b vb → f t a b = some e → (Op.equalIn d t va vb).run P w = .ok e w) :
    ∀ (fs : List Field) (e : Bool), aeqF f P x y fs = some e → (Op.eqFields d vx vy fs).run P w = .ok e w
  | [], e, h => by simp only [aeqF] at h; injection h with h; subst h; simp [Op.eqFields]
  | fl :: r, e, h => by
    simp only [aeqF] at h
    split at h
    · cases h
    rename_i hn
    split at h
    · rename_i a b ha hb
      split at h
      · rename_i e1 e2 h1 h2
        injection h with h
        subst h
        obtain ⟨_, ua, ea, pa, xa⟩ := run_part (w := w) hx ha
        obtain ⟨_, ub, eb, pb, xb⟩ := run_part (w := w) hy hb
        injection ea with ea
        injection eb with eb
        subst ea
        subst eb
        have q := hf _ _ _ _ _ _ xa xb h1
        have ih := eqFields_ok hx hy f hf r e2 h2
        simp only [Op.eqFields, if_pos (show fl.name ≠ "_" from hn), Sem.run_bind, pa, pb, q, Result.andThen_ok]
        cases e1 <;> simp [ih]
      · cases h
    · cases h
theorem aeqE_ok {d : Nat} {t : TypeId} {sz : Nat} {x y : AV} {vx vy : Array Value} (hx : VR G x (.agg vx)) (hy : VR G y (.agg vy)) (f : AV → AV → Option Bool)
    (hf : ∀ a b va vb e, VR G a va → VR G b vb → f a b = some e → (Op.equalIn d t va vb).run P w = .ok e w) :
    ∀ (l : List Nat) (e : Bool), aeqE f P t x y sz l = some e → ∃ g : Nat → Bool, l.all g = e ∧
      ∀ i, i ∈ l → ((do Op.equalIn d t (← part t vx (i * sz)) (← part t vy (i * sz))) : Sem Bool).run P w = .ok (g i) w
  | [], e, h => by simp only [aeqE] at h; injection h with h; subst h; exact ⟨fun _ => true, rfl, by simp⟩
  | i :: r, e, h => by
    simp only [aeqE] at h
    split at h
    · rename_i a b ha hb
      split at h
      · rename_i e1 e2 h1 h2
        injection h with h
        subst h
        obtain ⟨_, ua, ea, pa, xa⟩ := run_part (w := w) hx ha
        obtain ⟨_, ub, eb, pb, xb⟩ := run_part (w := w) hy hb
        injection ea with ea
        injection eb with eb
        subst ea
        subst eb
        have q := hf _ _ _ _ _ xa xb h1
        obtain ⟨g, hg, hall⟩ := aeqE_ok hx hy f hf r e2 h2
        have here : ((do Op.equalIn d t (← part t vx (i * sz)) (← part t vy (i * sz))) : Sem Bool).run P w = .ok e1 w := by
          simp only [Sem.run_bind, pa, pb, q, Result.andThen_ok]
        refine ⟨fun j => if j = i then e1 else g j, ?_, ?_⟩
        · by_cases hir : i ∈ r
          · have hgi : g i = e1 := by
              have := hall i hir
              rw [here] at this
              injection this with this
              exact this.symm
            have : (fun j => if j = i then e1 else g j) = g := by funext j; split <;> simp_all
            rw [this, List.all_cons, hgi, hg]
          · rw [List.all_cons]
            simp only [if_true]
            congr 1
            rw [← hg]
            rw [Bool.eq_iff_iff, List.all_eq_true, List.all_eq_true]
            constructor <;> intro hh j hj
            · have := hh j hj; rwa [if_neg (fun (he : j = i) => hir (he ▸ hj))] at this
            · rw [if_neg (fun (he : j = i) => hir (he ▸ hj))]; exact hh j hj
        · intro j hj
          by_cases hji : j = i
          · subst hji; simpa using here
          · simp only [if_neg hji]
            exact hall j (by simpa [hji] using hj)
      · cases h
    · cases h
theorem aeq_ok : ∀ (d : Nat) (t : TypeId) (x y : AV) (vx vy : Value) (e : Bool), VR G x vx → VR G y vy → aeq P d t x y = some e → ∀ k, (Op.equalIn (d + k) t vx vy).run P w = .ok e w
  | 0, t, x, y, vx, vy, e, hx, hy, h, k => by simp [aeq] at h
  | d + 1, t, x, y, vx, vy, e, hx, hy, h, k => by
    have hd : d + 1 + k = (d + k) + 1 := by omega
    rw [hd]
    unfold aeq at h
    split at h
    · rename_i hu
      split at h
      · injection h with h
        simp only [VR] at hx hy
        subst h; subst hx; subst hy
        simp [Op.equalIn, run_underlying hu]
      · cases h
    · rename_i hu
      split at h
      · split at h
        · rename_i hk
          injection h with h
          simp only [VR] at hx hy
          subst h; subst hx; subst hy; subst hk
          simp [Op.equalIn, run_underlying hu]
        · cases h
      · cases h
    · rename_i hu
      split at h
      · injection h with h
        simp only [VR] at hx hy
        subst h; subst hx; subst hy
        simp [Op.equalIn, run_underlying hu, beq_toListBytes]
      · cases h
    · rename_i hu
      unfold anil2 at h
      split at h
      · rename_i b h1 h2
        injection h with h
        obtain ⟨a, rfl, ha⟩ := nilP_ok hx h1
        obtain ⟨c, rfl, hc⟩ := nilP_ok hy h2
        cases a with
        | some _ => simp at ha
        | none => subst h; subst hc; simp [Op.equalIn, run_underlying hu]
      · rename_i h1 h2
        injection h with h
        obtain ⟨a, rfl, ha⟩ := nilP_ok hx h1
        obtain ⟨c, rfl, hc⟩ := nilP_ok hy h2
        cases c with
        | some _ => simp at hc
        | none => cases a with
          | none => simp at ha
          | some _ => subst h; simp [Op.equalIn, run_underlying hu]
      · cases h
    · rename_i hu
      unfold anil2 at h
      split at h
      · rename_i b h1 h2
        injection h with h
        obtain ⟨a, _, _, rfl, ha⟩ := nilS_ok hx h1
        obtain ⟨c, _, _, rfl, hc⟩ := nilS_ok hy h2
        cases a with
        | some _ => simp at ha
        | none => subst h; subst hc; simp [Op.equalIn, run_underlying hu]
      · rename_i h1 h2
        injection h with h
        obtain ⟨a, _, _, rfl, ha⟩ := nilS_ok hx h1
        obtain ⟨c, _, _, rfl, hc⟩ := nilS_ok hy h2
        cases c with
        | some _ => simp at hc
        | none => cases a with
          | none => simp at ha
          | some _ => subst h; simp [Op.equalIn, run_underlying hu]
      · cases h
    · rename_i hu
      unfold anil2 at h
      split at h
      · rename_i b h1 h2
        injection h with h
        subst h
        rcases nilF_ok hx h1 with ⟨rfl, ha⟩ | ⟨_, _, _, _, ha⟩
        · rcases nilF_ok hy h2 with ⟨rfl, hc⟩ | ⟨_, _, _, rfl, hc⟩ <;> subst hc <;> simp [Op.equalIn, run_underlying hu]
        · simp at ha
      · rename_i h1 h2
        injection h with h
        subst h
        rcases nilF_ok hx h1 with ⟨rfl, ha⟩ | ⟨_, _, _, rfl, ha⟩
        · simp at ha
        · rcases nilF_ok hy h2 with ⟨rfl, hc⟩ | ⟨_, _, _, rfl, hc⟩
          · simp [Op.equalIn, run_underlying hu]
          · simp at hc
      · cases h
    · rename_i hu
      unfold anil2 at h
      split at h
      · rename_i b h1 h2
        injection h with h
        obtain ⟨a, rfl, ha⟩ := nilM_ok hx h1
        obtain ⟨c, rfl, hc⟩ := nilM_ok hy h2
        cases a with
        | some _ => simp at ha
        | none => subst h; subst hc; simp [Op.equalIn, run_underlying hu]
      · rename_i h1 h2
        injection h with h
        obtain ⟨a, rfl, ha⟩ := nilM_ok hx h1
        obtain ⟨c, rfl, hc⟩ := nilM_ok hy h2
        cases c with
        | some _ => simp at hc
        | none => cases a with
          | none => simp at ha
          | some _ => subst h; simp [Op.equalIn, run_underlying hu]
      · cases h
    · rename_i fs hu
      split at h
      · rename_i xs ys hst
        have hx' := hx
        have hy' := hy
        simp only [VR] at hx' hy'
        obtain ⟨vx, rfl, _⟩ := hx'
        obtain ⟨vy, rfl, _⟩ := hy'
        have hfo : P.fieldsOf t = fs := by simp [Program.fieldsOf, hu]
        rw [run_equalIn_struct w (d + k) t vx vy (by rw [hfo]; exact hu) hst, hfo]
        exact eqFields_ok hx hy (aeq P d) (fun t a b va vb e ha hb he => aeq_ok d t a b va vb e ha hb he k) _ _ h
      · cases h
    · rename_i n e' hu
      split at h
      · rename_i sz xs ys hsz
        have hx' := hx
        have hy' := hy
        simp only [VR] at hx' hy'
        obtain ⟨vx, rfl, _⟩ := hx'
        obtain ⟨vy, rfl, _⟩ := hy'
        obtain ⟨g, hg, hall⟩ := aeqE_ok (d := d + k) hx hy (aeq P d e') (fun a b va vb e ha hb he => aeq_ok d e' a b va vb e ha hb he k) _ _ h
        have q := run_forIn_idx (P := P) (w := w) (fun i => do Op.equalIn (d + k) e' (← part e' vx (i * sz)) (← part e' vy (i * sz))) g (List.range n) hall
        rw [hg] at q
        simp only [Op.equalIn, Sem.run_bind, run_underlying hu, Result.andThen_ok, run_sizeOf hsz]
        rw [Std.Legacy.Range.forIn_eq_forIn_range']
        have er : List.range' (([:n] : Std.Legacy.Range)).start ([:n] : Std.Legacy.Range).size ([:n] : Std.Legacy.Range).step = List.range n := by
          rw [List.range_eq_range']; simp [Std.Legacy.Range.size]
        rw [er]
        simp only [bind_assoc, Sem.run_bind] at q
        exact q
      · cases h
    · cases h
end
end Go.Proofs.Ythgkepaadkmhoaa.Av
