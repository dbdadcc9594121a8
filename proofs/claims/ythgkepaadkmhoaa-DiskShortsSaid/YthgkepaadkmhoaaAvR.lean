/- The abstract machine's operations, fourth part: operators joined, unary, conversions, bytes and texts. -/
import Derived.Test.YthgkepaadkmhoaaAvQ
set_option linter.unusedVariables false
set_option linter.unusedSimpArgs false
namespace Go.Proofs.Ythgkepaadkmhoaa.Av
open Go Go.RowKit

section
variable {P : Program} {G : Cfg} {w : World}

def abin (P : Program) (op : BinOp) (t : TypeId) (x y : AV) : Option AV :=
  match x, y with
  | .lit (.int k a), .lit (.int k' b) =>
    match op with
    | .shl | .shr => (ashiftOp op k a b).map .lit
    | _ => if k = k' then (aint2 op k a b).map .lit else none
  | .lit (.string a), .lit (.string b) => (astr2 op a b).map .lit
  | .agg _, .agg _ => if P.eqGuardType P.depth t then none else
    match op with
    | .eql => (aeq P 20 t x y).map fun b => .lit (.bool b)
    | .neq => (aeq P 20 t x y).map fun b => .lit (.bool !b)
    | _ => none
  | .lit .nilIface, _ | _, .lit .nilIface => none
  | _, _ =>
    match op with
    | .eql => (aeq P 20 t x y).map fun b => .lit (.bool b)
    | .neq => (aeq P 20 t x y).map fun b => .lit (.bool !b)
    | _ => none

inductive EqShape : AV → AV → Value → Value → Prop
  | bool (x y a b) : EqShape x y (.bool a) (.bool b)
  | int (k k' a b) : EqShape (.lit (.int k a)) (.lit (.int k' b)) (.int k a) (.int k' b)
  | string (a b) : EqShape (.lit (.string a)) (.lit (.string b)) (.string a) (.string b)
  | pointer (x y a b) : EqShape x y (.pointer a) (.pointer b)
  | slice (x y a n c b m d) : EqShape x y (.slice a n c) (.slice b m d)
  | func (x y v u) (h : v = .nilFunc ∨ ∃ f p c, v = .func f p c) (h' : u = .nilFunc ∨ ∃ f p c, u = .func f p c) : EqShape x y v u
  | map (x y a b) : EqShape x y (.map a) (.map b)
  | agg (xs ys a b) : EqShape (.agg xs) (.agg ys) (.agg a) (.agg b)
theorem anil2_some {a b : Option Bool} {e : Bool} (h : anil2 a b = some e) : (∃ c, a = some c) ∧ ∃ c, b = some c := by
  unfold anil2 at h
  split at h
  · exact ⟨⟨_, rfl⟩, ⟨_, rfl⟩⟩
  · exact ⟨⟨_, rfl⟩, ⟨_, rfl⟩⟩
  · cases h
theorem aeq_shape {d : Nat} {t : TypeId} {x y : AV} {vx vy : Value} {e : Bool} (hx : VR G x vx) (hy : VR G y vy) (h : aeq P d t x y = some e) : EqShape x y vx vy := by
  cases d with
  | zero => simp [aeq] at h
  | succ d =>
    unfold aeq at h
    split at h
    · split at h
      · simp only [VR] at hx hy; subst hx; subst hy; exact .bool ..
      · cases h
    · split at h
      · simp only [VR] at hx hy; subst hx; subst hy; exact .int ..
      · cases h
    · split at h
      · simp only [VR] at hx hy; subst hx; subst hy; exact .string ..
      · cases h
    · obtain ⟨⟨a, h1⟩, ⟨b, h2⟩⟩ := anil2_some h
      obtain ⟨_, rfl, _⟩ := nilP_ok hx h1
      obtain ⟨_, rfl, _⟩ := nilP_ok hy h2
      exact .pointer ..
    · obtain ⟨⟨a, h1⟩, ⟨b, h2⟩⟩ := anil2_some h
      obtain ⟨_, _, _, rfl, _⟩ := nilS_ok hx h1
      obtain ⟨_, _, _, rfl, _⟩ := nilS_ok hy h2
      exact .slice ..
    · obtain ⟨⟨a, h1⟩, ⟨b, h2⟩⟩ := anil2_some h
      refine .func _ _ _ _ ?_ ?_
      · rcases nilF_ok hx h1 with ⟨rfl, _⟩ | ⟨_, _, _, rfl, _⟩
        · exact .inl rfl
        · exact .inr ⟨_, _, _, rfl⟩
      · rcases nilF_ok hy h2 with ⟨rfl, _⟩ | ⟨_, _, _, rfl, _⟩
        · exact .inl rfl
        · exact .inr ⟨_, _, _, rfl⟩
    · obtain ⟨⟨a, h1⟩, ⟨b, h2⟩⟩ := anil2_some h
      obtain ⟨_, rfl, _⟩ := nilM_ok hx h1
      obtain ⟨_, rfl, _⟩ := nilM_ok hy h2
      exact .map ..
    · split at h
      · simp only [VR] at hx hy; obtain ⟨_, rfl, _⟩ := hx; obtain ⟨_, rfl, _⟩ := hy; exact .agg ..
      · cases h
    · split at h
      · simp only [VR] at hx hy; obtain ⟨_, rfl, _⟩ := hx; obtain ⟨_, rfl, _⟩ := hy; exact .agg ..
      · cases h
    · cases h
theorem run_equal {t : TypeId} {x y : AV} {vx vy : Value} {e : Bool} (hx : VR G x vx) (hy : VR G y vy) (h : aeq P 20 t x y = some e) : (Op.equal t vx vy).run P w = .ok e w := by
  have := aeq_ok (w := w) 20 t x y vx vy e hx hy h 9980
  exact this
theorem run_eqop {op : BinOp} {t : TypeId} {ox oy : Operand} {x y : AV} {vx vy : Value} {e : Bool} (hx : VR G x vx) (hy : VR G y vy) (h : aeq P 20 t x y = some e) (hg : ∀ xs ys, x = .agg xs → y = .agg ys → P.eqGuardType P.depth t = false)
    (hni : ∀ k k' a b, x = .lit (.int k a) → y = .lit (.int k' b) → False) (hns : ∀ a b, x = .lit (.string a) → y = .lit (.string b) → False) (hop : op = .eql ∨ op = .neq) :
    ((do eqGuard op t ox oy vx vy; binOp op t vx vy) : Sem Value).run P w = .ok (.bool (if op = .eql then e else !e)) w := by
  have q := run_equal (w := w) hx hy h
  have sh := aeq_shape hx hy h
  cases sh with
  | int k k' a b => exact (hni _ _ _ _ rfl rfl).elim
  | string a b => exact (hns _ _ rfl rfl).elim
  | agg xs ys a b =>
    have hg' := hg _ _ rfl rfl
    rcases hop with rfl | rfl
    · simp [run_eqGuard_agg w _ _ _ _ _ _ hg', binOp, q]
    · simp [run_eqGuard_agg w _ _ _ _ _ _ hg', binOp, q]
  | bool _ _ a b => rcases hop with rfl | rfl <;> simp [eqGuard, binOp, q]
  | pointer _ _ a b => rcases hop with rfl | rfl <;> simp [eqGuard, binOp, q]
  | slice _ _ a n c b m d => rcases hop with rfl | rfl <;> simp [eqGuard, binOp, q]
  | func _ _ _ _ h1 h2 =>
    rcases h1 with rfl | ⟨_, _, _, rfl⟩ <;> rcases h2 with rfl | ⟨_, _, _, rfl⟩ <;> rcases hop with rfl | rfl <;> simp [eqGuard, binOp, q]
  | map _ _ a b => rcases hop with rfl | rfl <;> simp [eqGuard, binOp, q]
theorem abin_ok {op : BinOp} {t : TypeId} {ox oy : Operand} {x y r : AV} {vx vy : Value} (hx : VR G x vx) (hy : VR G y vy) (h : abin P op t x y = some r) :
    ∃ u, ((do eqGuard op t ox oy vx vy; binOp op t vx vy) : Sem Value).run P w = .ok u w ∧ VR G r u := by
  unfold abin at h
  split at h
  · rename_i k a k' b
    simp only [VR] at hx hy
    subst hx
    subst hy
    have g : (eqGuard op t ox oy (.int k a) (.int k' b)).run P w = .ok () w := by cases op <;> simp [eqGuard]
    split at h
    · obtain ⟨v, hv, rfl⟩ := Option.map_eq_some_iff.1 h
      exact ⟨v, by simp only [Sem.run_bind, g, Result.andThen_ok]; exact ashiftOp_ok hv, by simp only [VR]⟩
    · obtain ⟨v, hv, rfl⟩ := Option.map_eq_some_iff.1 h
      exact ⟨v, by simp only [Sem.run_bind, g, Result.andThen_ok]; exact ashiftOp_ok hv, by simp only [VR]⟩
    · split at h
      · rename_i hk
        subst hk
        obtain ⟨v, hv, rfl⟩ := Option.map_eq_some_iff.1 h
        exact ⟨v, by simp only [Sem.run_bind, g, Result.andThen_ok]; exact aint2_ok hv, by simp only [VR]⟩
      · cases h
  · rename_i a b
    simp only [VR] at hx hy
    subst hx
    subst hy
    obtain ⟨v, hv, rfl⟩ := Option.map_eq_some_iff.1 h
    have g : (eqGuard op t ox oy (.string a) (.string b)).run P w = .ok () w := by cases op <;> simp [eqGuard]
    exact ⟨v, by simp only [Sem.run_bind, g, Result.andThen_ok]; exact astr2_ok hv, by simp only [VR]⟩
  · rename_i xs ys
    split at h
    · cases h
    rename_i hg
    split at h
    · obtain ⟨e, he, rfl⟩ := Option.map_eq_some_iff.1 h
      exact ⟨_, run_eqop hx hy he (fun _ _ _ _ => by simpa using hg) (fun _ _ _ _ h => by cases h) (fun _ _ h => by cases h) (.inl rfl), by simp only [VR]; rfl⟩
    · obtain ⟨e, he, rfl⟩ := Option.map_eq_some_iff.1 h
      exact ⟨_, run_eqop hx hy he (fun _ _ _ _ => by simpa using hg) (fun _ _ _ _ h => by cases h) (fun _ _ h => by cases h) (.inr rfl), by simp only [VR]; rfl⟩
    · cases h
  · cases h
  · cases h
  · rename_i _ _ h1 h2 h3
    split at h
    · obtain ⟨e, he, rfl⟩ := Option.map_eq_some_iff.1 h
      exact ⟨_, run_eqop hx hy he (fun _ _ e1 e2 => (h3 _ _ e1 e2).elim) (fun _ _ _ _ e1 e2 => h1 _ _ _ _ e1 e2) (fun _ _ e1 e2 => h2 _ _ e1 e2) (.inl rfl), by simp only [VR]; rfl⟩
    · obtain ⟨e, he, rfl⟩ := Option.map_eq_some_iff.1 h
      exact ⟨_, run_eqop hx hy he (fun _ _ e1 e2 => (h3 _ _ e1 e2).elim) (fun _ _ _ _ e1 e2 => h1 _ _ _ _ e1 e2) (fun _ _ e1 e2 => h2 _ _ e1 e2) (.inr rfl), by simp only [VR]; rfl⟩
    · cases h

def aun (op : UnOp) (x : AV) : Option AV :=
  match op, x with
  | .neg, .lit (.int k n) => some (.lit (.int k (k.wrap (0 - n))))
  | .not, .lit (.bool b) => some (.lit (.bool !b))
  | .xor, .lit (.int k n) => (aint2 .xor k (if k.signed then -1 else k.max) n).map .lit
  | _, _ => none
theorem aun_ok {op : UnOp} {x r : AV} {v : Value} (hx : VR G x v) (h : aun op x = some r) : ∃ u, (Op.unary op v).run P w = .ok u w ∧ VR G r u := by
  unfold aun at h
  split at h
  · injection h with h; subst h; simp only [VR] at hx; subst hx
    exact ⟨_, by simp only [Op.unary, Op.intArith]; rfl, by simp only [VR]⟩
  · injection h with h; subst h; simp only [VR] at hx; subst hx
    exact ⟨_, by simp [Op.unary]; rfl, by simp only [VR]⟩
  · simp only [VR] at hx; subst hx
    obtain ⟨u, hu, rfl⟩ := Option.map_eq_some_iff.1 h
    simp only [aint2] at hu
    injection hu with hu
    exact ⟨u, by rw [← hu]; simp [Op.unary, Op.intBits], by simp only [VR]⟩
  · cases h

def anilCheck : AV → Option AV
  | .ptr o off => some (.ptr o off)
  | .ip cs => some (.ip cs)
  | .lit (.pointer (some a)) => some (.lit (.pointer (some a)))
  | .fn (.func f) a b => some (.fn (.func f) a b)
  | _ => none
theorem anilCheck_ok {x r : AV} {v : Value} (hx : VR G x v) (h : anilCheck x = some r) : r = x ∧ ((∃ a, v = .pointer (some a)) ∨ ∃ f a b, v = .func (.func f) a b) := by
  unfold anilCheck at h
  split at h <;> first
    | (injection h with h; subst h; refine ⟨rfl, ?_⟩; simp only [VR] at hx)
    | cases h
  · exact .inl ⟨_, hx.2⟩
  · obtain ⟨ad, vs, e, _⟩ := hx; exact .inl ⟨_, e⟩
  · exact .inl ⟨_, hx⟩
  · obtain ⟨a, b, e, _⟩ := hx; exact .inr ⟨_, _, _, e⟩

def aextract (x : AV) (i : Nat) : Option AV :=
  match x with
  | .tup vs => vs[i]?
  | _ => none
theorem aextract_ok {x r : AV} {i : Nat} {v : Value} (hx : VR G x v) (h : aextract x i = some r) : ∃ u, (Instr.extract v i).run P w = .ok u w ∧ VR G r u := by
  unfold aextract at h
  split at h
  · simp only [VR] at hx
    obtain ⟨vs, rfl, hs⟩ := hx
    obtain ⟨u, hu, hr⟩ := hs.get h
    exact ⟨u, by simp only [Instr.extract]; rw [Array.getElem?_toList] at hu; simp [hu], hr⟩
  · cases h

/-! ### bytes and texts -/
def avByte : AV → Option UInt8
  | .lit (.int .u8 n) => some (UInt8.ofNat n.toNat)
  | _ => none
def avInts : List AV → Option (List Int)
  | [] => some []
  | .lit (.int .u8 n) :: r => (avInts r).map (n :: ·)
  | _ => none
def pushAll (ns : List Int) : ByteArray := ns.foldl (fun r n => r.push (UInt8.ofNat n.toNat)) ByteArray.empty
theorem avInts_ok {cs : List AV} {vs : List Value} {ns : List Int} (h : VRs G cs vs) (hn : avInts cs = some ns) : vs = ns.map (Value.int .u8) := by
  induction cs generalizing vs ns with
  | nil => simp only [VRs] at h; simp only [avInts] at hn; injection hn with hn; subst hn; subst h; rfl
  | cons c cs ih =>
    simp only [VRs] at h
    obtain ⟨v, r, rfl, h1, h2⟩ := h
    unfold avInts at hn
    split at hn
    · rename_i he; cases he
    · rename_i n r' he
      injection he with he1 he2
      subst he1; subst he2
      obtain ⟨m, hm, rfl⟩ := Option.map_eq_some_iff.1 hn
      simp only [VR] at h1
      subst h1
      rw [ih h2 hm]
      rfl
    · cases hn
/-- What a slice holds, in cells (sz: an element's); with its length. -/
def sliceCells (H : AH) (sz : Nat) (x : AV) : Option (List AV × Nat) :=
  match x with
  | .imm cs len esz => if esz = sz ∧ cs.length = len * sz then some (cs, len) else none
  | .sl o off len esz _ => match H[o]? with
    | some (some (.cells cs)) => if esz = sz ∧ off + len * sz ≤ cs.length then some ((cs.drop off).take (len * sz), len) else none
    | _ => none
  | .lit (.slice none 0 0) => some ([], 0)
  | .emp => some ([], 0)
  | _ => none
theorem slat_exact {m : Nat × Nat × Nat} {off esz : Nat} {cap : Room} {a : Addr} {c : Nat} (h : SlAt m off esz cap a c) (hc : c ≠ 0) : a = ⟨m.1, m.2.1 + off, none⟩ ∧ off + c * esz ≤ m.2.2 := by
  unfold SlAt at h
  split at h
  · obtain ⟨rfl, h0 | h0⟩ := h
    · omega
    · exact h0
  · rcases h with ⟨_, h0 | h0⟩
    · omega
    · exact ⟨h0.1, Nat.le_of_eq h0.2⟩
/-- The memory behind a slice, in cells. -/
theorem slice_mem {H : AH} (hr : HR G H) {o off len esz : Nat} {cap : Room} {cs : List AV} (ho : H[o]? = some (some (.cells cs))) {a : Addr} {c : Nat} (hat : SlAt (G.μ o) off esz cap a c) (hlc : len ≤ c) (hk : off + len * esz ≤ cs.length) :
    ∃ vs, VRs G ((cs.drop off).take (len * esz)) vs ∧ ∀ (i : Nat) (v : Value), vs[i]? = some v → G.w.cell? (a.add i) = some v ∧ v.oneCell' = true := by
  obtain ⟨vs, h1, h2⟩ := hr.cells ho
  refine ⟨(vs.drop off).take (len * esz), (h1.drop _).take _, fun i v hv => ?_⟩
  have hlen : i < len * esz := by
    rw [List.getElem?_take] at hv
    split at hv
    · assumption
    · cases hv
  have hc : c ≠ 0 := by
    rintro rfl
    have : len = 0 := by omega
    subst this
    simp at hlen
  obtain ⟨ha, _⟩ := slat_exact hat hc
  rw [List.getElem?_take, if_pos hlen, List.getElem?_drop] at hv
  have := h2 _ _ hv
  rw [ha, Addr.add_lit]
  rw [Addr.add_lit] at this
  rw [Nat.add_assoc]
  exact this
theorem sliceCells_ok {H : AH} (hr : HR G H) {sz : Nat} {x : AV} {v : Value} {cs : List AV} {n : Nat} (hx : VR G x v) (h : sliceCells H sz x = some (cs, n)) :
    cs.length = n * sz ∧ ∃ a c vs, v = .slice a n c ∧ VRs G cs vs ∧ (a = none → vs = [] ∧ n = 0 ∧ c = 0) ∧ ∀ ad, a = some ad → ∀ (i : Nat) (u : Value), vs[i]? = some u → G.w.cell? (ad.add i) = some u ∧ u.oneCell' = true := by
  unfold sliceCells at h
  split at h
  · rename_i cs' len esz
    split at h
    · rename_i hl
      injection h with h
      injection h with h1 h2
      subst h1; subst h2
      simp only [VR] at hx
      obtain ⟨ad, c, vs, rfl, hlc, hh, hs⟩ := hx
      refine ⟨hl.2, some ad, c, vs, rfl, hs, by simp, fun ad' he i u hu => ?_⟩
      injection he with he
      subst he
      rcases hh with rfl | ⟨_, hc⟩
      · simp at hu
      · exact hc _ _ hu
    · cases h
  · rename_i o off len esz cap
    split at h
    · rename_i cs' ho
      split at h
      · rename_i hl
        obtain ⟨rfl, hl⟩ := hl
        injection h with h
        injection h with h1 h2
        subst h1; subst h2
        simp only [VR] at hx
        obtain ⟨hon, a, c, rfl, hlc, hat⟩ := hx
        obtain ⟨vs, h1, h2⟩ := slice_mem hr ho hat hlc hl
        refine ⟨by rw [List.length_take, List.length_drop]; omega, some a, c, vs, rfl, h1, by simp, fun ad' he i u hu => ?_⟩
        injection he with he
        subst he
        exact h2 _ _ hu
      · cases h
    · cases h
  · injection h with h
    injection h with h1 h2
    subst h1; subst h2
    simp only [VR] at hx
    subst hx
    exact ⟨by simp, none, 0, [], rfl, .nil, fun _ => ⟨rfl, rfl, rfl⟩, fun _ he => by cases he⟩
  · injection h with h
    injection h with h1 h2
    subst h1; subst h2
    simp only [VR] at hx
    obtain ⟨a, rfl⟩ := hx
    exact ⟨by simp, some a, 0, [], rfl, .nil, (fun he => by cases he), fun ad _ i u hu => by simp at hu⟩
  · cases h
def aconvert (P : Program) (H : AH) (src dst : TypeId) (x : AV) : Option AV :=
  match P.underlying dst with
  | some (.int k) => match P.underlying src, x with
    | some _, .lit (.int _ n) => some (.lit (.int k (k.wrap n)))
    | _, _ => none
  | some .string => match P.underlying src, x with
    | some _, .lit (.string s) => some (.lit (.string s))
    | some (.slice e), x => match P.underlying e, sliceCells H 1 x with
      | some (.int .u8), some (cs, _) => (avInts cs).map fun ns => .lit (.string (pushAll ns))
      | _, _ => none
    | _, _ => none
  | _ => none
theorem aconvert_ok {H : AH} (hr : HR G H) {src dst : TypeId} {x r : AV} {v : Value} (hx : VR G x v) (h : aconvert P H src dst x = some r) : ∃ u, (convert src dst v).run P G.w = .ok u G.w ∧ VR G r u := by
  unfold aconvert at h
  split at h
  · rename_i k hd
    split at h
    · rename_i d k' n hs
      injection h with h; subst h
      simp only [VR] at hx; subst hx
      refine ⟨.int k (k.wrap n), ?_, by simp only [VR]⟩
      simp [convert, run_underlying hd, run_underlying hs, Conv.intToInt]
    · cases h
  · rename_i hd
    split at h
    · rename_i d s hs
      injection h with h; subst h
      simp only [VR] at hx; subst hx
      refine ⟨.string s, ?_, by simp only [VR]⟩
      simp [convert, run_underlying hd, run_underlying hs]
    · rename_i y e hs _
      split at h
      · rename_i cs n he hcs
        obtain ⟨ns, hns, rfl⟩ := Option.map_eq_some_iff.1 h
        obtain ⟨hl, a, c, vs, rfl, hv, hnone, hsome⟩ := sliceCells_ok hr hx hcs
        have hvs := avInts_ok hv hns
        subst hvs
        have e1 : (convert src dst (.slice a n c)).run P G.w = (Conv.bytesToString (.slice a n c)).run P G.w := run_convert_bytes_string G.w src dst e a n c hs he hd
        refine ⟨.string (pushAll ns), ?_, by simp only [VR]⟩
        rw [e1]
        cases a with
        | none =>
          obtain ⟨h0, _, _⟩ := hnone rfl
          have : ns = [] := by simpa using h0
          subst this
          rfl
        | some ad =>
          have hlen : (ns.map (Value.int .u8)).length = n := by rw [← hv.length, hl, Nat.mul_one]
          have q := run_loadCells_list (P := P) G.w ad (ns.map (Value.int .u8)) (fun j v hj => (hsome ad rfl j v hj).1)
          rw [hlen] at q
          exact run_bytesToString G.w ad n c ns q
      · cases h
    · cases h
  · cases h
end
end Go.Proofs.Ythgkepaadkmhoaa.Av
