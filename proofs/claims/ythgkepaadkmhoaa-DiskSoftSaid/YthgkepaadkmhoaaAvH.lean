/- The abstract heap over the world: what a load reads, what a store, a new block, an append leave. -/
import Derived.Test.YthgkepaadkmhoaaAvA
import Derived.Laws.CopyRow
import Derived.Deep.AppendSrc
set_option linter.unusedVariables false
set_option linter.unusedSimpArgs false
namespace Go.Proofs.Ythgkepaadkmhoaa.Av
open Go Go.RowKit

theorem OR.evo {G G' : Cfg} (h : Evo G G') {o : Nat} (ho : o < G.n) (hb : G'.w.heap[(G.μ o).1]? = G.w.heap[(G.μ o).1]?) {x : AObj} (hx : OR G o x) : OR G' o x := by
  cases x with
  | cells cs =>
    obtain ⟨c, e, vs, h1, h2, h3, h4, h5⟩ := hx
    refine ⟨c, e, vs, ?_, ?_, ?_, h4.evo h, ?_⟩ <;> rw [h.μ o ho]
    · rw [hb]; exact h1
    · exact h2
    · exact h3
    · exact h5
  | map es =>
    obtain ⟨ents, h1, h2, h3⟩ := hx
    refine ⟨ents, ?_, h2.evo h, h3⟩
    rw [h.μ o ho, hb]
    exact h1

theorem HR.lt_n {G : Cfg} {H : AH} (h : HR G H) {o : Nat} {x : Option AObj} (ho : H[o]? = some x) : o < G.n := by
  rw [h.n]; exact (List.getElem?_eq_some_iff.1 ho).1

/-- One object's block has changed. -/
theorem HR.update {G G' : Cfg} {H : AH} (hr : HR G H) (hE : Evo G G') (hn : G'.n = G.n) (hL : G'.L = G.L) {o : Nat} {x : AObj} (ho : H[o]? = some (some x)) (y : AObj)
    (hother : ∀ k, k ≠ (G.μ o).1 → G'.w.heap[k]? = G.w.heap[k]?) (hsz : G'.w.heap.size = G.w.heap.size) (hnew : OR G' o y) : HR G' (H.set o (some y)) := by
  have hlt := hr.lt_n ho
  have hμ : ∀ (i : Nat) (z : AObj), H[i]? = some (some z) → G'.μ i = G.μ i := fun i z hi => hE.μ i (hr.lt_n hi)
  have hget : ∀ (i : Nat) (z : AObj), (H.set o (some y))[i]? = some (some z) → (i = o ∧ z = y) ∨ (i ≠ o ∧ H[i]? = some (some z)) := by
    intro i z hi
    by_cases hio : i = o
    · subst hio
      rw [List.getElem?_set_self (by rw [← hr.n]; exact hlt)] at hi
      exact .inl ⟨rfl, by simpa using hi.symm⟩
    · rw [List.getElem?_set_ne (Ne.symm hio)] at hi
      exact .inr ⟨hio, hi⟩
  have old : ∀ (i : Nat) (z : AObj), (H.set o (some y))[i]? = some (some z) → ∃ z', H[i]? = some (some z') := by
    intro i z hi
    rcases hget i z hi with ⟨rfl, rfl⟩ | ⟨_, h⟩
    · exact ⟨_, ho⟩
    · exact ⟨_, h⟩
  refine ⟨by rw [hn, hr.n, List.length_set], ?_, ?_, ?_, ?_⟩
  · intro i z hi
    rcases hget i z hi with ⟨rfl, rfl⟩ | ⟨hio, h⟩
    · exact hnew
    · exact OR.evo hE (hr.lt_n h) (hother _ fun he => hio (hr.inj _ _ _ _ h ho he)) (hr.obj i z h)
  · intro i j z z' hi hj he
    obtain ⟨a, ha⟩ := old i z hi
    obtain ⟨b, hb⟩ := old j z' hj
    rw [hμ i a ha, hμ j b hb] at he
    exact hr.inj _ _ _ _ ha hb he
  · intro i z hi
    obtain ⟨a, ha⟩ := old i z hi
    rw [hμ i a ha, hL]
    exact hr.live _ _ ha
  · intro b hb
    rw [hL, hE.K] at hb
    rw [hsz]
    exact hr.lt b hb

theorem HR.kill {G : Cfg} {H : AH} (hr : HR G H) (o : Nat) : HR G (H.set o none) := by
  have old : ∀ (i : Nat) (z : AObj), (H.set o none)[i]? = some (some z) → H[i]? = some (some z) := by
    intro i z hi
    by_cases hio : i = o
    · subst hio
      rw [List.getElem?_set] at hi
      simp at hi
    · rwa [List.getElem?_set_ne (Ne.symm hio)] at hi
  exact ⟨by rw [List.length_set]; exact hr.n, fun i z hi => hr.obj i z (old i z hi), fun i j z z' hi hj he => hr.inj _ _ _ _ (old _ _ hi) (old _ _ hj) he,
    fun i z hi => hr.live _ _ (old _ _ hi), hr.lt⟩

/-- A drawn order, an answer of the tape. -/
theorem Evo.drew (G : Cfg) : Evo G { G with w := G.w.drew } := ⟨rfl, rfl, rfl, Nat.le_refl _, fun _ _ h => ⟨rfl, h⟩, Nat.le_refl _, fun _ _ => rfl, rfl⟩
theorem HR.drew {G : Cfg} {H : AH} (hr : HR G H) : HR { G with w := G.w.drew } H :=
  ⟨hr.n, fun o x ho => OR.evo (Evo.drew G) (hr.lt_n ho) rfl (hr.obj o x ho), hr.inj, hr.live, hr.lt⟩

/-- A new block. -/
def Cfg.new (G : Cfg) (ob : Obj) (lim : Nat) : Cfg :=
  { w := G.w.alloc ob, n := G.n + 1, μ := fun i => if i = G.n then (G.w.heap.size, 0, lim) else G.μ i, L := fun b => G.L b ∨ b = G.w.heap.size, K := G.K }
theorem Evo.new (G : Cfg) (ob : Obj) (lim : Nat) : Evo G (G.new ob lim) :=
  ⟨rfl, rfl, rfl, by simp [Cfg.new], fun k hk hL => ⟨Below.heap_alloc _ _ _ hk, by simp only [Cfg.new]; intro h; rcases h with h | h; exact hL h; omega⟩,
   by simp [Cfg.new], (fun o ho => by simp only [Cfg.new]; rw [if_neg (by omega)]), rfl⟩
theorem HR.new {G : Cfg} {H : AH} (hr : HR G H) (ob : Obj) (lim : Nat) (y : AObj) (hy : OR (G.new ob lim) H.length y) : HR (G.new ob lim) (H ++ [some y]) := by
  have hE := Evo.new G ob lim
  have hget : ∀ (i : Nat) (z : AObj), (H ++ [some y])[i]? = some (some z) → (i = H.length ∧ z = y) ∨ (i < H.length ∧ H[i]? = some (some z)) := by
    intro i z hi
    rcases Nat.lt_or_ge i H.length with h | h
    · rw [List.getElem?_append_left h] at hi; exact .inr ⟨h, hi⟩
    · rw [List.getElem?_append_right h] at hi
      have : i - H.length = 0 := by
        rcases Nat.eq_zero_or_pos (i - H.length) with h0 | h0
        · exact h0
        · rw [List.getElem?_eq_none (by simp; omega)] at hi; cases hi
      rw [this] at hi
      exact .inl ⟨by omega, by simpa using hi.symm⟩
  have hμo : ∀ i, i < H.length → (G.new ob lim).μ i = G.μ i := fun i hi => hE.μ i (by rw [hr.n]; exact hi)
  have hμn : (G.new ob lim).μ H.length = (G.w.heap.size, 0, lim) := by simp [Cfg.new, hr.n]
  refine ⟨by simp [Cfg.new, hr.n], ?_, ?_, ?_, ?_⟩
  · intro i z hi
    rcases hget i z hi with ⟨rfl, rfl⟩ | ⟨hl, h⟩
    · exact hy
    · exact OR.evo hE (hr.lt_n h) (Below.heap_alloc _ _ _ (hr.lt _ (.inl (hr.live _ _ h)))) (hr.obj i z h)
  · intro i j z z' hi hj he
    rcases hget i z hi with ⟨rfl, rfl⟩ | ⟨hl, h⟩ <;> rcases hget j z' hj with ⟨rfl, rfl⟩ | ⟨hl', h'⟩
    · rfl
    · rw [hμn, hμo j hl'] at he
      have := hr.lt _ (.inl (hr.live _ _ h'))
      simp only at he; omega
    · rw [hμn, hμo i hl] at he
      have := hr.lt _ (.inl (hr.live _ _ h))
      simp only at he; omega
    · rw [hμo i hl, hμo j hl'] at he
      exact hr.inj _ _ _ _ h h' he
  · intro i z hi
    rcases hget i z hi with ⟨rfl, rfl⟩ | ⟨hl, h⟩
    · rw [hμn]; exact .inr rfl
    · rw [hμo i hl]; exact .inl (hr.live _ _ h)
  · intro b hb
    rcases hb with (hb | hb) | hb
    · have := hr.lt b (.inl hb); simp [Cfg.new]; omega
    · simp [Cfg.new]; omega
    · have := hr.lt b (.inr hb); simp [Cfg.new]; omega
theorem HR.newCells {G : Cfg} {H : AH} (hr : HR G H) (c : Array Value) (e : TypeId) {as : List AV} {lim : Nat} (hl : lim ≤ c.size) (ha : as.length ≤ lim) {vs : List Value} (h : VRs G as vs)
    (hv : ∀ (i : Nat) (v : Value), vs[i]? = some v → c[i]? = some v ∧ v.oneCell' = true) : HR (G.new (.cells c e) lim) (H ++ [some (.cells as)]) := by
  refine hr.new _ _ _ ?_
  have hμn : (G.new (.cells c e) lim).μ H.length = (G.w.heap.size, 0, lim) := by simp [Cfg.new, hr.n]
  refine ⟨c, e, vs, ?_, ?_, ?_, h.evo (Evo.new _ _ _), ?_⟩ <;> rw [hμn]
  · simpa [Cfg.new] using heap_alloc_new G.w (.cells c e)
  · simpa using hl
  · exact ha
  · simpa using hv

def AObj.bel (m : Nat) : AObj → Prop
  | .cells cs => Bels m cs
  | .map es => Bels m (es.map Prod.snd)
theorem OR.bel {G : Cfg} {o : Nat} {x : AObj} (h : OR G o x) : x.bel G.n := by
  cases x with
  | cells cs => obtain ⟨c, e, vs, h1, h2, h3, h4, h5⟩ := h; exact h4.bel
  | map es => obtain ⟨ents, h1, h2, h3⟩ := h; exact h2.bel
/-- Objects behind H are forgotten. -/
theorem HR.forget {G : Cfg} {H H' : AH} (hr : HR G (H ++ H')) (hb : ∀ (o : Nat) (x : AObj), H[o]? = some (some x) → x.bel H.length) : HR { G with n := H.length } H := by
  have old : ∀ (i : Nat) (z : AObj), H[i]? = some (some z) → (H ++ H')[i]? = some (some z) := fun i z hi => by
    rw [List.getElem?_append_left (List.getElem?_eq_some_iff.1 hi).1]; exact hi
  refine ⟨rfl, fun i z hi => ?_, fun i j z z' hi hj he => hr.inj _ _ _ _ (old _ _ hi) (old _ _ hj) he, fun i z hi => hr.live _ _ (old _ _ hi), hr.lt⟩
  have h1 := hr.obj i z (old i z hi)
  have h2 := hb i z hi
  cases z with
  | cells cs => obtain ⟨c, e, vs, a, b, d, f, g⟩ := h1; exact ⟨c, e, vs, a, b, d, f.low h2, g⟩
  | map es => obtain ⟨ents, a, b, d⟩ := h1; exact ⟨ents, a, b.low h2, d⟩

end Go.Proofs.Ythgkepaadkmhoaa.Av
