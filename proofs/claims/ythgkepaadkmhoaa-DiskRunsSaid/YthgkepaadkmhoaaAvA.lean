/- The abstract machine's values and heap, and what they stand for in a world of the model. No program in sight. -/
import Derived.Orders
import Derived.Tactics
import Derived.Below
set_option linter.unusedVariables false
set_option linter.unusedSimpArgs false
namespace Go.Proofs.Ythgkepaadkmhoaa.Av
open Go Go.RowKit

/-- A slice's capacity: just that, or that at least. -/
inductive Room where
  | ex (k : Nat)
  | ge (k : Nat)
  deriving DecidableEq, Inhabited
def Room.least : Room → Nat
  | .ex k => k
  | .ge k => k
/-- Abstract values: no addresses. 'lit': a value as it stands; 'ptr', 'sl', 'mp': into object o of the abstract heap; 'ip', 'imm': into memory that never changes (its cells are told); 'emp': an empty slice that is not nil and has no room; 'junk': anything. -/
inductive AV where
  | lit (v : Value)
  | ptr (o off : Nat)
  | ip (cs : List AV)
  | sl (o off len esz : Nat) (cap : Room)
  | imm (cs : List AV) (len esz : Nat)
  | mp (o : Nat)
  | agg (cs : List AV)
  | tup (vs : List AV)
  | fn (f : Fn) (first captured : List AV)
  | emp
  | junk
  deriving Inhabited

inductive AObj where
  | cells (cs : List AV)
  | map (es : List (Value × AV))

abbrev AH := List (Option AObj)

/-- A world, and where the objects lie in it: block, first cell, cells that may be used. L: the blocks that may change; K: blocks of others, which are not read and do not change. -/
structure Cfg where
  w : World
  n : Nat
  μ : Nat → Nat × Nat × Nat
  L : Nat → Prop
  K : Nat → Prop

def Has (G : Cfg) (ad : Addr) (vs : List Value) : Prop :=
  vs = [] ∨ (¬ (G.L ad.block ∨ G.K ad.block) ∧ ∀ i v, vs[i]? = some v → G.w.cell? (ad.add i) = some v ∧ v.oneCell' = true)

def SlAt (m : Nat × Nat × Nat) (off esz : Nat) (cap : Room) (a : Addr) (c : Nat) : Prop :=
  match cap with
  | .ex k => c = k ∧ (k = 0 ∨ (a = ⟨m.1, m.2.1 + off, none⟩ ∧ off + k * esz ≤ m.2.2))
  | .ge k => k ≤ c ∧ (c = 0 ∨ (a = ⟨m.1, m.2.1 + off, none⟩ ∧ off + c * esz = m.2.2))

mutual
def VR (G : Cfg) : AV → Value → Prop
  | .lit v, u => u = v
  | .ptr o off, u => o < G.n ∧ u = .pointer (some ⟨(G.μ o).1, (G.μ o).2.1 + off, none⟩)
  | .ip cs, u => ∃ ad vs, u = .pointer (some ad) ∧ Has G ad vs ∧ VRs G cs vs
  | .sl o off len esz cap, u => o < G.n ∧ ∃ a c, u = .slice (some a) len c ∧ len ≤ c ∧ SlAt (G.μ o) off esz cap a c
  | .imm cs len esz, u => ∃ ad c vs, u = .slice (some ad) len c ∧ len ≤ c ∧ Has G ad vs ∧ VRs G cs vs
  | .mp o, u => o < G.n ∧ u = .map (some (G.μ o).1)
  | .agg cs, u => ∃ vs, u = .agg vs ∧ VRs G cs vs.toList
  | .tup cs, u => ∃ vs, u = .tuple vs ∧ VRs G cs vs.toList
  | .fn f a b, u => ∃ va vb, u = .func f va vb ∧ VRs G a va.toList ∧ VRs G b vb.toList
  | .emp, u => ∃ a, u = .slice (some a) 0 0
  | .junk, _ => True
def VRs (G : Cfg) : List AV → List Value → Prop
  | [], vs => vs = []
  | a :: as, vs => ∃ v r, vs = v :: r ∧ VR G a v ∧ VRs G as r
end

/-- The object's cells, or entries, as they lie. -/
def OR (G : Cfg) (o : Nat) : AObj → Prop
  | .cells cs => ∃ c e vs, G.w.heap[(G.μ o).1]? = some (.cells c e (0, 0)) ∧ (G.μ o).2.1 + (G.μ o).2.2 ≤ c.size ∧
      cs.length ≤ (G.μ o).2.2 ∧ VRs G cs vs ∧ ∀ i v, vs[i]? = some v → c[(G.μ o).2.1 + i]? = some v ∧ v.oneCell' = true
  | .map es => ∃ ents, G.w.heap[(G.μ o).1]? = some (.map ents ents.size) ∧ VRs G (es.map Prod.snd) (ents.toList.map (·.val)) ∧ ents.toList.map (·.key) = es.map Prod.fst ∧
      ents.toList.map (·.born) = List.range es.length

structure HR (G : Cfg) (H : AH) : Prop where
  n : G.n = H.length
  obj : ∀ (o : Nat) (x : AObj), H[o]? = some (some x) → OR G o x
  inj : ∀ (o o' : Nat) (x x' : AObj), H[o]? = some (some x) → H[o']? = some (some x') → (G.μ o).1 = (G.μ o').1 → o = o'
  live : ∀ (o : Nat) (x : AObj), H[o]? = some (some x) → G.L (G.μ o).1
  lt : ∀ b, G.L b ∨ G.K b → b < G.w.heap.size

/-- The world goes on: what may not change has not; objects that were there are where they were. -/
structure Evo (G G' : Cfg) : Prop where
  os : G'.w.os = G.w.os
  tape : G'.w.tape = G.w.tape
  output : G'.w.output = G.w.output
  size : G.w.heap.size ≤ G'.w.heap.size
  keep : ∀ k, k < G.w.heap.size → ¬ G.L k → G'.w.heap[k]? = G.w.heap[k]? ∧ ¬ G'.L k
  n : G.n ≤ G'.n
  μ : ∀ o, o < G.n → G'.μ o = G.μ o
  K : G'.K = G.K

theorem Evo.refl (G : Cfg) : Evo G G := ⟨rfl, rfl, rfl, Nat.le_refl _, fun _ _ h => ⟨rfl, h⟩, Nat.le_refl _, fun _ _ => rfl, rfl⟩
theorem Evo.trans {A B C : Cfg} (h : Evo A B) (k : Evo B C) : Evo A C :=
  ⟨k.os.trans h.os, k.tape.trans h.tape, k.output.trans h.output, Nat.le_trans h.size k.size,
   fun i hi hL => by
     obtain ⟨e1, l1⟩ := h.keep i hi hL
     obtain ⟨e2, l2⟩ := k.keep i (Nat.lt_of_lt_of_le hi h.size) l1
     exact ⟨e2.trans e1, l2⟩,
   Nat.le_trans h.n k.n, fun o ho => (k.μ o (Nat.lt_of_lt_of_le ho h.n)).trans (h.μ o ho), k.K.trans h.K⟩

theorem add_block (a : Addr) (i : Nat) : (a.add i).block = a.block := by unfold Addr.add; split <;> rfl

theorem Has.evo {G G' : Cfg} (h : Evo G G') {ad : Addr} {vs : List Value} (hh : Has G ad vs) : Has G' ad vs := by
  rcases hh with rfl | ⟨hL, hc⟩
  · exact .inl rfl
  · cases vs with
    | nil => exact .inl rfl
    | cons v r =>
      have hlt : ad.block < G.w.heap.size := by
        have := World.block_lt_of_cell? _ _ (hc 0 v rfl).1
        rwa [add_block] at this
      obtain ⟨e, l⟩ := h.keep _ hlt fun h => hL (.inl h)
      refine .inr ⟨fun hh => hh.elim l fun hk => hL (.inr (by rw [← h.K]; exact hk)), fun i u hu => ?_⟩
      obtain ⟨this, h1⟩ := hc i u hu
      refine ⟨?_, h1⟩
      unfold World.cell? at this ⊢
      rw [add_block] at this ⊢
      rw [e]
      exact this

mutual
theorem VR.evo {G G' : Cfg} (h : Evo G G') : ∀ {a : AV} {v : Value}, VR G a v → VR G' a v
  | .lit _, _, hv => by simpa only [VR] using hv
  | .ptr o off, v, hv => by
    simp only [VR] at hv ⊢
    obtain ⟨ho, e⟩ := hv
    exact ⟨Nat.lt_of_lt_of_le ho h.n, by rw [h.μ o ho]; exact e⟩
  | .ip cs, v, hv => by
    simp only [VR] at hv ⊢
    obtain ⟨ad, vs, e, hh, hr⟩ := hv
    exact ⟨ad, vs, e, hh.evo h, VRs.evo h hr⟩
  | .sl o off len esz cap, v, hv => by
    simp only [VR] at hv ⊢
    obtain ⟨ho, e⟩ := hv
    exact ⟨Nat.lt_of_lt_of_le ho h.n, by rw [h.μ o ho]; exact e⟩
  | .imm cs len esz, v, hv => by
    simp only [VR] at hv ⊢
    obtain ⟨ad, c, vs, e, hl, hh, hr⟩ := hv
    exact ⟨ad, c, vs, e, hl, hh.evo h, VRs.evo h hr⟩
  | .mp o, v, hv => by
    simp only [VR] at hv ⊢
    obtain ⟨ho, e⟩ := hv
    exact ⟨Nat.lt_of_lt_of_le ho h.n, by rw [h.μ o ho]; exact e⟩
  | .agg cs, v, hv => by
    simp only [VR] at hv ⊢
    obtain ⟨vs, e, hr⟩ := hv
    exact ⟨vs, e, VRs.evo h hr⟩
  | .tup cs, v, hv => by
    simp only [VR] at hv ⊢
    obtain ⟨vs, e, hr⟩ := hv
    exact ⟨vs, e, VRs.evo h hr⟩
  | .fn f a b, v, hv => by
    simp only [VR] at hv ⊢
    obtain ⟨va, vb, e, hr, hs⟩ := hv
    exact ⟨va, vb, e, VRs.evo h hr, VRs.evo h hs⟩
  | .emp, _, hv => by simpa only [VR] using hv
  | .junk, _, _ => by simp only [VR]
theorem VRs.evo {G G' : Cfg} (h : Evo G G') : ∀ {as : List AV} {vs : List Value}, VRs G as vs → VRs G' as vs
  | [], _, hv => by simpa only [VRs] using hv
  | a :: as, vs, hv => by
    simp only [VRs] at hv ⊢
    obtain ⟨v, r, e, h1, h2⟩ := hv
    exact ⟨v, r, e, VR.evo h h1, VRs.evo h h2⟩
end

mutual
/-- All objects that it names are below m. -/
def Bel (m : Nat) : AV → Prop
  | .lit _ => True
  | .ptr o _ => o < m
  | .ip cs => Bels m cs
  | .sl o _ _ _ _ => o < m
  | .imm cs _ _ => Bels m cs
  | .mp o => o < m
  | .agg cs => Bels m cs
  | .tup cs => Bels m cs
  | .fn _ a b => Bels m a ∧ Bels m b
  | .emp => True
  | .junk => True
def Bels (m : Nat) : List AV → Prop
  | [] => True
  | a :: as => Bel m a ∧ Bels m as
end
mutual
theorem VR.bel {G : Cfg} : ∀ {a : AV} {v : Value}, VR G a v → Bel G.n a
  | .lit _, _, _ => by simp only [Bel]
  | .ptr o off, v, hv => by simp only [VR] at hv; simp only [Bel]; exact hv.1
  | .ip cs, v, hv => by simp only [VR] at hv; simp only [Bel]; obtain ⟨_, _, _, _, h⟩ := hv; exact VRs.bel h
  | .sl o off len esz cap, v, hv => by simp only [VR] at hv; simp only [Bel]; exact hv.1
  | .imm cs len esz, v, hv => by simp only [VR] at hv; simp only [Bel]; obtain ⟨_, _, _, _, _, _, h⟩ := hv; exact VRs.bel h
  | .mp o, v, hv => by simp only [VR] at hv; simp only [Bel]; exact hv.1
  | .agg cs, v, hv => by simp only [VR] at hv; simp only [Bel]; obtain ⟨_, _, h⟩ := hv; exact VRs.bel h
  | .tup cs, v, hv => by simp only [VR] at hv; simp only [Bel]; obtain ⟨_, _, h⟩ := hv; exact VRs.bel h
  | .fn f a b, v, hv => by simp only [VR] at hv; simp only [Bel]; obtain ⟨_, _, _, h, k⟩ := hv; exact ⟨VRs.bel h, VRs.bel k⟩
  | .emp, _, _ => by simp only [Bel]
  | .junk, _, _ => by simp only [Bel]
theorem VRs.bel {G : Cfg} : ∀ {as : List AV} {vs : List Value}, VRs G as vs → Bels G.n as
  | [], _, _ => by simp only [Bels]
  | a :: as, vs, hv => by simp only [VRs] at hv; simp only [Bels]; obtain ⟨_, _, _, h, k⟩ := hv; exact ⟨VR.bel h, VRs.bel k⟩
end
theorem Has.n {G : Cfg} {m : Nat} {ad : Addr} {vs : List Value} (h : Has G ad vs) : Has { G with n := m } ad vs := h
mutual
theorem VR.low {G : Cfg} {m : Nat} : ∀ {a : AV} {v : Value}, VR G a v → Bel m a → VR { G with n := m } a v
  | .lit _, _, hv, _ => by simpa only [VR] using hv
  | .ptr o off, v, hv, hb => by simp only [VR] at hv ⊢; simp only [Bel] at hb; exact ⟨hb, hv.2⟩
  | .ip cs, v, hv, hb => by simp only [VR] at hv ⊢; simp only [Bel] at hb; obtain ⟨x, y, z, t, h⟩ := hv; exact ⟨x, y, z, t, VRs.low h hb⟩
  | .sl o off len esz cap, v, hv, hb => by simp only [VR] at hv ⊢; simp only [Bel] at hb; exact ⟨hb, hv.2⟩
  | .imm cs len esz, v, hv, hb => by simp only [VR] at hv ⊢; simp only [Bel] at hb; obtain ⟨x, y, z, t, u, s, h⟩ := hv; exact ⟨x, y, z, t, u, s, VRs.low h hb⟩
  | .mp o, v, hv, hb => by simp only [VR] at hv ⊢; simp only [Bel] at hb; exact ⟨hb, hv.2⟩
  | .agg cs, v, hv, hb => by simp only [VR] at hv ⊢; simp only [Bel] at hb; obtain ⟨x, y, h⟩ := hv; exact ⟨x, y, VRs.low h hb⟩
  | .tup cs, v, hv, hb => by simp only [VR] at hv ⊢; simp only [Bel] at hb; obtain ⟨x, y, h⟩ := hv; exact ⟨x, y, VRs.low h hb⟩
  | .fn f a b, v, hv, hb => by simp only [VR] at hv ⊢; simp only [Bel] at hb; obtain ⟨x, y, z, h, k⟩ := hv; exact ⟨x, y, z, VRs.low h hb.1, VRs.low k hb.2⟩
  | .emp, _, hv, _ => by simpa only [VR] using hv
  | .junk, _, _, _ => by simp only [VR]
theorem VRs.low {G : Cfg} {m : Nat} : ∀ {as : List AV} {vs : List Value}, VRs G as vs → Bels m as → VRs { G with n := m } as vs
  | [], _, hv, _ => by simpa only [VRs] using hv
  | a :: as, vs, hv, hb => by simp only [VRs] at hv ⊢; simp only [Bels] at hb; obtain ⟨x, y, z, h, k⟩ := hv; exact ⟨x, y, z, VR.low h hb.1, VRs.low k hb.2⟩
end

section lists
variable {G : Cfg}
theorem VRs.length {as : List AV} {vs : List Value} (h : VRs G as vs) : as.length = vs.length := by
  induction as generalizing vs with
  | nil => simp only [VRs] at h; simp [h]
  | cons a as ih =>
    simp only [VRs] at h
    obtain ⟨v, r, rfl, _, h2⟩ := h
    simp [ih h2]
theorem VRs.nil : VRs G [] [] := by simp only [VRs]
theorem VRs.cons {a : AV} {v : Value} {as : List AV} {vs : List Value} (h : VR G a v) (hs : VRs G as vs) : VRs G (a :: as) (v :: vs) := by
  simp only [VRs]; exact ⟨v, vs, rfl, h, hs⟩
theorem VRs.get {as : List AV} {vs : List Value} (h : VRs G as vs) {i : Nat} {a : AV} (ha : as[i]? = some a) : ∃ v, vs[i]? = some v ∧ VR G a v := by
  induction as generalizing vs i with
  | nil => simp at ha
  | cons b as ih =>
    simp only [VRs] at h
    obtain ⟨v, r, rfl, h1, h2⟩ := h
    cases i with
    | zero => simp at ha; subst ha; exact ⟨v, rfl, h1⟩
    | succ i => simp at ha; simpa using ih h2 ha
theorem VRs.getD {as : List AV} {vs : List Value} (h : VRs G as vs) (i : Nat) {a : AV} {v : Value} (hd : VR G a v) : VR G (as.getD i a) (vs.getD i v) := by
  rw [List.getD_eq_getElem?_getD, List.getD_eq_getElem?_getD]
  cases ha : as[i]? with
  | none =>
    have : vs[i]? = none := by rw [List.getElem?_eq_none_iff] at ha ⊢; rw [← h.length]; exact ha
    rw [this]; exact hd
  | some x => obtain ⟨u, hu, hx⟩ := h.get ha; rw [hu]; exact hx
theorem VRs.of_get {as : List AV} {vs : List Value} (hl : as.length = vs.length) (h : ∀ (i : Nat) (a : AV) (v : Value), as[i]? = some a → vs[i]? = some v → VR G a v) : VRs G as vs := by
  induction as generalizing vs with
  | nil => cases vs with
    | nil => exact .nil
    | cons _ _ => simp at hl
  | cons a as ih => cases vs with
    | nil => simp at hl
    | cons v vs => exact .cons (h 0 a v rfl rfl) (ih (by simpa using hl) fun i b u (hb : as[i]? = some b) (hu : vs[i]? = some u) => h (i + 1) b u hb hu)
theorem VRs.set {as : List AV} {vs : List Value} (h : VRs G as vs) (i : Nat) {a : AV} {v : Value} (ha : VR G a v) : VRs G (as.set i a) (vs.set i v) := by
  induction as generalizing vs i with
  | nil => simp only [VRs] at h; subst h; exact .nil
  | cons b as ih =>
    simp only [VRs] at h
    obtain ⟨u, r, rfl, h1, h2⟩ := h
    cases i with
    | zero => exact .cons ha h2
    | succ i => exact .cons h1 (ih h2 i)
theorem VRs.append {as bs : List AV} {vs us : List Value} (h : VRs G as vs) (k : VRs G bs us) : VRs G (as ++ bs) (vs ++ us) := by
  induction as generalizing vs with
  | nil => simp only [VRs] at h; subst h; exact k
  | cons b as ih =>
    simp only [VRs] at h
    obtain ⟨u, r, rfl, h1, h2⟩ := h
    exact .cons h1 (ih h2)
theorem VRs.take {as : List AV} {vs : List Value} (h : VRs G as vs) (n : Nat) : VRs G (as.take n) (vs.take n) := by
  induction as generalizing vs n with
  | nil => simp only [VRs] at h; subst h; cases n <;> exact .nil
  | cons b as ih =>
    simp only [VRs] at h
    obtain ⟨u, r, rfl, h1, h2⟩ := h
    cases n with
    | zero => exact .nil
    | succ n => exact .cons h1 (ih h2 n)
theorem VRs.drop {as : List AV} {vs : List Value} (h : VRs G as vs) (n : Nat) : VRs G (as.drop n) (vs.drop n) := by
  induction as generalizing vs n with
  | nil => simp only [VRs] at h; subst h; cases n <;> exact .nil
  | cons b as ih =>
    simp only [VRs] at h
    obtain ⟨u, r, rfl, h1, h2⟩ := h
    cases n with
    | zero => exact .cons h1 h2
    | succ n => exact ih h2 n
theorem VRs.lits (vs : List Value) : VRs G (vs.map .lit) vs := by
  induction vs with
  | nil => exact .nil
  | cons v vs ih => exact .cons (by simp only [VR]) ih
theorem VRs.replicate {a : AV} {v : Value} (h : VR G a v) (n : Nat) : VRs G (List.replicate n a) (List.replicate n v) := by
  induction n with
  | zero => exact .nil
  | succ n ih => exact .cons h ih
end lists

end Go.Proofs.Ythgkepaadkmhoaa.Av
