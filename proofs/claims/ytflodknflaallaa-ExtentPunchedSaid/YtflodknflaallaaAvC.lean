/- What comes of a call, up to the names of objects: brought to one form. -/
import Derived.Test.YtflodknflaallaaAvN
set_option linter.unusedVariables false
set_option linter.unusedSimpArgs false
namespace Go.Proofs.Ytflodknflaallaa.Av
open Go Go.RowKit

mutual
/-- Objects, named otherwise: object o lies where object (σ o).1 lies, from cell (σ o).2 on. -/
def AV.ren (σ : Nat → Nat × Nat) : AV → AV
  | .lit v => .lit v
  | .ptr o off => .ptr (σ o).1 ((σ o).2 + off)
  | .ip cs => .ip (rens σ cs)
  | .sl o off len esz cap => .sl (σ o).1 ((σ o).2 + off) len esz cap
  | .imm cs len esz => .imm (rens σ cs) len esz
  | .mp o => .mp (σ o).1
  | .agg cs => .agg (rens σ cs)
  | .tup cs => .tup (rens σ cs)
  | .fn f a b => .fn f (rens σ a) (rens σ b)
  | .emp => .emp
  | .junk => .junk
def rens (σ : Nat → Nat × Nat) : List AV → List AV
  | [] => []
  | a :: r => a.ren σ :: rens σ r
end
theorem rens_length (σ : Nat → Nat × Nat) : ∀ (l : List AV), (rens σ l).length = l.length
  | [] => rfl
  | a :: r => by simp only [rens, List.length_cons, rens_length σ r]
mutual
theorem ren_noIds {σ : Nat → Nat × Nat} : ∀ {a : AV}, noIds a = true → a.ren σ = a
  | .lit v, _ => rfl
  | .ip cs, h => by simp only [noIds] at h; simp only [AV.ren, rens_noIds h]
  | .imm cs len esz, h => by simp only [noIds] at h; simp only [AV.ren, rens_noIds h]
  | .agg cs, h => by simp only [noIds] at h; simp only [AV.ren, rens_noIds h]
  | .tup cs, h => by simp only [noIds] at h; simp only [AV.ren, rens_noIds h]
  | .fn f a b, h => by simp only [noIds, Bool.and_eq_true] at h; simp only [AV.ren, rens_noIds h.1, rens_noIds h.2]
  | .emp, _ => rfl
  | .junk, _ => rfl
  | .ptr .., h => by simp [noIds] at h
  | .sl .., h => by simp [noIds] at h
  | .mp .., h => by simp [noIds] at h
theorem rens_noIds {σ : Nat → Nat × Nat} : ∀ {as : List AV}, noIdss as = true → rens σ as = as
  | [], _ => rfl
  | a :: r, h => by simp only [noIdss, Bool.and_eq_true] at h; simp only [rens, ren_noIds h.1, rens_noIds h.2]
end
mutual
theorem ren_same {σ : Nat → Nat × Nat} {m : Nat} (h : ∀ o, o < m → σ o = (o, 0)) : ∀ {a : AV}, Bel m a → a.ren σ = a
  | .lit v, _ => rfl
  | .ptr o off, hb => by simp only [Bel] at hb; simp only [AV.ren, h o hb, Nat.zero_add]
  | .ip cs, hb => by simp only [Bel] at hb; simp only [AV.ren, rens_same h hb]
  | .sl o off len esz cap, hb => by simp only [Bel] at hb; simp only [AV.ren, h o hb, Nat.zero_add]
  | .imm cs len esz, hb => by simp only [Bel] at hb; simp only [AV.ren, rens_same h hb]
  | .mp o, hb => by simp only [Bel] at hb; simp only [AV.ren, h o hb]
  | .agg cs, hb => by simp only [Bel] at hb; simp only [AV.ren, rens_same h hb]
  | .tup cs, hb => by simp only [Bel] at hb; simp only [AV.ren, rens_same h hb]
  | .fn f a b, hb => by simp only [Bel] at hb; simp only [AV.ren, rens_same h hb.1, rens_same h hb.2]
  | .emp, _ => rfl
  | .junk, _ => rfl
theorem rens_same {σ : Nat → Nat × Nat} {m : Nat} (h : ∀ o, o < m → σ o = (o, 0)) : ∀ {as : List AV}, Bels m as → rens σ as = as
  | [], _ => rfl
  | a :: r, hb => by simp only [Bels] at hb; simp only [rens, ren_same h hb.1, rens_same h hb.2]
end
/-- The new names' places. -/
def Cfg.ren (G : Cfg) (σ : Nat → Nat × Nat) (lim : Nat → Option Nat) (n2 : Nat) : Cfg :=
  { w := G.w, n := n2, μ := fun o => ((G.μ (σ o).1).1, (G.μ (σ o).1).2.1 + (σ o).2, (lim o).getD ((G.μ (σ o).1).2.2 - (σ o).2)), L := G.L, K := G.K }
def noLim : Nat → Option Nat := fun _ => none
theorem SlAt.ren {m : Nat × Nat × Nat} {sh off esz : Nat} {cap : Room} {a : Addr} {c : Nat} (h : SlAt m (sh + off) esz cap a c) : SlAt (m.1, m.2.1 + sh, m.2.2 - sh) off esz cap a c := by
  unfold SlAt at h ⊢
  cases cap with
  | ex k =>
    simp only at h ⊢
    refine ⟨h.1, h.2.imp id fun h2 => ⟨by rw [h2.1, Nat.add_assoc], by have := h2.2; omega⟩⟩
  | ge k =>
    simp only at h ⊢
    refine ⟨h.1, h.2.imp id fun h2 => ⟨by rw [h2.1, Nat.add_assoc], by have := h2.2; omega⟩⟩
mutual
theorem VR.ren {G : Cfg} {σ : Nat → Nat × Nat} {lim : Nat → Option Nat} {n2 m2 : Nat} (hl : ∀ o, o < m2 → lim o = none) (hm : m2 ≤ n2) : ∀ {a : AV} {v : Value}, VR G (a.ren σ) v → Bel m2 a → VR (G.ren σ lim n2) a v
  | .lit _, _, h, _ => by simpa only [AV.ren, VR] using h
  | .ptr o off, v, h, hb => by
    simp only [AV.ren, VR] at h ⊢
    simp only [Bel] at hb
    exact ⟨Nat.lt_of_lt_of_le hb hm, by rw [h.2]; simp only [Cfg.ren, Nat.add_assoc]⟩
  | .ip cs, v, h, hb => by
    simp only [AV.ren, VR] at h ⊢
    simp only [Bel] at hb
    obtain ⟨ad, vs, e, hh, hr⟩ := h
    exact ⟨ad, vs, e, hh, VRs.ren hl hm hr hb⟩
  | .sl o off len esz cap, v, h, hb => by
    simp only [AV.ren, VR] at h ⊢
    simp only [Bel] at hb
    obtain ⟨_, a, c, e, hlc, hs⟩ := h
    refine ⟨Nat.lt_of_lt_of_le hb hm, a, c, e, hlc, ?_⟩
    have := hs.ren
    simp only [Cfg.ren, hl o hb, Option.getD_none]
    exact this
  | .imm cs len esz, v, h, hb => by
    simp only [AV.ren, VR] at h ⊢
    simp only [Bel] at hb
    obtain ⟨ad, c, vs, e, hlc, hh, hr⟩ := h
    exact ⟨ad, c, vs, e, hlc, hh, VRs.ren hl hm hr hb⟩
  | .mp o, v, h, hb => by
    simp only [AV.ren, VR] at h ⊢
    simp only [Bel] at hb
    exact ⟨Nat.lt_of_lt_of_le hb hm, h.2⟩
  | .agg cs, v, h, hb => by
    simp only [AV.ren, VR] at h ⊢
    simp only [Bel] at hb
    obtain ⟨vs, e, hr⟩ := h
    exact ⟨vs, e, VRs.ren hl hm hr hb⟩
  | .tup cs, v, h, hb => by
    simp only [AV.ren, VR] at h ⊢
    simp only [Bel] at hb
    obtain ⟨vs, e, hr⟩ := h
    exact ⟨vs, e, VRs.ren hl hm hr hb⟩
  | .fn f a b, v, h, hb => by
    simp only [AV.ren, VR] at h ⊢
    simp only [Bel] at hb
    obtain ⟨va, vb, e, h1, h2⟩ := h
    exact ⟨va, vb, e, VRs.ren hl hm h1 hb.1, VRs.ren hl hm h2 hb.2⟩
  | .emp, _, h, _ => by simpa only [AV.ren, VR] using h
  | .junk, _, _, _ => by simp only [VR]
theorem VRs.ren {G : Cfg} {σ : Nat → Nat × Nat} {lim : Nat → Option Nat} {n2 m2 : Nat} (hl : ∀ o, o < m2 → lim o = none) (hm : m2 ≤ n2) : ∀ {as : List AV} {vs : List Value}, VRs G (rens σ as) vs → Bels m2 as → VRs (G.ren σ lim n2) as vs
  | [], _, h, _ => by simpa only [rens, VRs] using h
  | a :: r, vs, h, hb => by
    simp only [rens, VRs] at h ⊢
    simp only [Bels] at hb
    obtain ⟨v, q, e, h1, h2⟩ := h
    exact ⟨v, q, e, VR.ren hl hm h1 hb.1, VRs.ren hl hm h2 hb.2⟩
end
/-- H2 tells of H1 what is needed, by other names; the first n0 names are as they were; what lies in objects names such as are below m2. -/
structure Canon (n0 m2 : Nat) (σ : Nat → Nat × Nat) (lim : Nat → Option Nat) (H1 H2 : AH) : Prop where
  len : n0 ≤ H2.length
  top : m2 ≤ H2.length
  old : ∀ o, o < n0 → σ o = (o, 0) ∧ lim o = none
  low : ∀ o, o < m2 → lim o = none
  cells : ∀ (o : Nat) (cs : List AV), H2[o]? = some (some (.cells cs)) → ∃ cs1, H1[(σ o).1]? = some (some (.cells cs1)) ∧ (σ o).2 + cs.length ≤ cs1.length ∧ rens σ cs = (cs1.drop (σ o).2).take cs.length ∧ Bels m2 cs ∧ ∀ ℓ, lim o = some ℓ → cs.length ≤ ℓ
  maps : ∀ (o : Nat) (es : List (Value × AV)), H2[o]? = some (some (.map es)) → (σ o).2 = 0 ∧ ∃ es1, H1[(σ o).1]? = some (some (.map es1)) ∧ es1.map Prod.fst = es.map Prod.fst ∧ es1.map Prod.snd = rens σ (es.map Prod.snd) ∧ Bels m2 (es.map Prod.snd)
  inj : ∀ (o o' : Nat) (x x' : AObj), H2[o]? = some (some x) → H2[o']? = some (some x') → (σ o).1 = (σ o').1 → o = o'
theorem Canon.hr {n0 m2 : Nat} {σ : Nat → Nat × Nat} {lim : Nat → Option Nat} {H1 H2 : AH} (c : Canon n0 m2 σ lim H1 H2) {G : Cfg} (hr : HR G H1) (hlim : ∀ o ℓ, lim o = some ℓ → (σ o).2 + ℓ ≤ (G.μ (σ o).1).2.2) : HR (G.ren σ lim H2.length) H2 := by
  have src : ∀ (o : Nat) (x : AObj), H2[o]? = some (some x) → ∃ x1, H1[(σ o).1]? = some (some x1) := by
    intro o x hx
    cases x with
    | cells cs => obtain ⟨cs1, h1, _⟩ := c.cells o cs hx; exact ⟨_, h1⟩
    | map es => obtain ⟨_, es1, h1, _⟩ := c.maps o es hx; exact ⟨_, h1⟩
  refine ⟨rfl, ?_, ?_, ?_, hr.lt⟩
  · intro o x hx
    cases x with
    | cells cs =>
      obtain ⟨cs1, h1, h2, h3, h4, h5⟩ := c.cells o cs hx
      obtain ⟨cc, e, vs, q1, q2, q3, q4, q5⟩ := hr.obj _ _ h1
      have hl := q4.length
      have hlm : (lim o).getD ((G.μ (σ o).1).2.2 - (σ o).2) + (σ o).2 ≤ (G.μ (σ o).1).2.2 ∧ cs.length ≤ (lim o).getD ((G.μ (σ o).1).2.2 - (σ o).2) := by
        cases hlo : lim o with
        | none => simp only [Option.getD_none]; omega
        | some ℓ => have := hlim o ℓ hlo; have := h5 ℓ hlo; simp only [Option.getD_some]; omega
      refine ⟨cc, e, (vs.drop (σ o).2).take cs.length, q1, ?_, hlm.2, ?_, ?_⟩
      · show (G.μ (σ o).1).2.1 + (σ o).2 + (lim o).getD ((G.μ (σ o).1).2.2 - (σ o).2) ≤ cc.size
        omega
      · refine VRs.ren c.low c.top ?_ h4
        rw [h3]
        exact (q4.drop _).take _
      · intro i v hv
        rw [List.getElem?_take] at hv
        split at hv
        · rw [List.getElem?_drop] at hv
          have := q5 _ _ hv
          show cc[(G.μ (σ o).1).2.1 + (σ o).2 + i]? = some v ∧ _
          rw [Nat.add_assoc]
          exact this
        · cases hv
    | map es =>
      obtain ⟨h0, es1, h1, h2, h3, h4⟩ := c.maps o es hx
      obtain ⟨ents, q1, q2, q3, q4⟩ := hr.obj _ _ h1
      refine ⟨ents, q1, ?_, by rw [q3, h2], ?_⟩
      · refine VRs.ren c.low c.top ?_ h4
        rw [← h3]; exact q2
      · rw [q4]
        congr 1
        have := congrArg List.length h2
        simpa using this
  · intro o o' x x' hx hx' he
    obtain ⟨x1, h1⟩ := src o x hx
    obtain ⟨x2, h2⟩ := src o' x' hx'
    exact c.inj o o' x x' hx hx' (hr.inj _ _ _ _ h1 h2 he)
  · intro o x hx
    obtain ⟨x1, h1⟩ := src o x hx
    exact hr.live _ _ h1
theorem Canon.evo {n0 m2 : Nat} {σ : Nat → Nat × Nat} {lim : Nat → Option Nat} {H1 H2 : AH} (c : Canon n0 m2 σ lim H1 H2) {G0 G : Cfg} (h0 : G0.n = n0) (hE : Evo G0 G) : Evo G0 (G.ren σ lim H2.length) :=
  ⟨hE.os, hE.tape, hE.output, hE.size, hE.keep, by rw [h0]; exact c.len, fun o ho => by
    obtain ⟨hσ, hl⟩ := c.old o (by omega)
    have := hE.μ o ho
    simp only [Cfg.ren, hσ, hl, Nat.add_zero, Nat.sub_zero, Option.getD_none]
    exact this, hE.K⟩
section
variable {P : Program}
/-- What a heap names lies in it. -/
def belH (H : AH) : Prop := ∀ (o : Nat) (x : AObj), H[o]? = some (some x) → x.bel H.length
theorem HR.belH {G : Cfg} {H : AH} (hr : HR G H) : belH H := fun o x hx => by rw [← hr.n]; exact (hr.obj o x hx).bel
/-- Whatever comes of a call, brought to one form. -/
theorem ACalls.canon {f : FuncId} {args : List AV} {H H2 : AH} {R : AV → AH → Prop} {r2 : AV} (h : ACalls P f args H R)
    (hc : belH H → ∀ r1 H1, R r1 H1 → ∃ m2 σ lim, Canon H.length m2 σ lim H1 H2 ∧ ∀ G v, HR G H1 → VR G r1 v → VR (G.ren σ lim H2.length) r2 v ∧ ∀ o ℓ, lim o = some ℓ → (σ o).2 + ℓ ≤ (G.μ (σ o).1).2.2) : BCall P f args H r2 H2 := by
  intro G vs hH hv
  refine (h G vs hH hv).mono ?_
  rintro e w' ⟨r1, H1, G', v, rfl, rfl, hE, hx, hX, hq⟩
  obtain ⟨m2, σ, lim, c, hs⟩ := hc hH.belH r1 H1 hq
  obtain ⟨hs1, hs2⟩ := hs G' v hX hx
  exact ⟨r2, H2, G'.ren σ lim H2.length, v, rfl, rfl, c.evo hH.n hE, hs1, c.hr hX hs2, rfl, rfl⟩
/-- .. of code. -/
theorem ACode.canon {c : Code} {Q : AQ} {T : List AV} {H : AH} {e2 : Exit} {T2 : List AV} {H2 : AH} (h : ACode P c Q T H) (hc : ∀ e T1 H1, Q e T1 H1 → e = e2 ∧ ∃ σ, Canon H.length H2.length σ noLim H1 H2 ∧ (∀ G a, FR G T1 a → FR G (rens σ T2) a) ∧ Bels H2.length T2) : BCode P c T H e2 T2 H2 := by
  intro G0 G a hE hF hd hH
  have := h G G a (Evo.refl G) hF hd hH
  refine Code.wp_mono ?_ this
  rintro e a' w' ⟨T1, H1, G', rfl, hE', hF', hd', hH', hq⟩
  obtain ⟨rfl, σ, cc, hF2, hb⟩ := hc e T1 H1 hq
  exact ⟨T2, H2, G'.ren σ noLim H2.length, rfl, hE.trans (cc.evo hH.n hE'), VRs.ren (fun _ _ => rfl) (Nat.le_refl _) (hF2 G' a' hF') hb, hd', cc.hr hH' (fun o ℓ h => by cases h), rfl⟩
/-- A slice's room, told. -/
theorem ACalls.room {f : FuncId} {o off len esz k : Nat} {args : List AV} {H : AH} {R : AV → AH → Prop} (h : ∀ c, k ≤ c → len ≤ c → ACalls P f (.sl o off len esz (.ex c) :: args) H R) : ACalls P f (.sl o off len esz (.ge k) :: args) H R := by
  intro G vs hH hv
  simp only [VRs] at hv
  obtain ⟨v, r, rfl, h1, h2⟩ := hv
  simp only [VR] at h1
  obtain ⟨ho, a, c, rfl, hl, hs⟩ := h1
  simp only [SlAt] at hs
  refine h c hs.1 hl G _ hH (.cons ?_ h2)
  simp only [VR]
  refine ⟨ho, a, c, rfl, hl, rfl, hs.2.imp id fun h3 => ⟨h3.1, by have := h3.2; omega⟩⟩
end
/-! An object that is given up, and one that is new (grown), or one that is given up and lies on as a new one (in place): one form. -/
def idR : Nat → Nat × Nat := fun o => (o, 0)
def atR (n o off : Nat) : Nat → Nat × Nat := fun p => if p = n then (o, off) else (p, 0)
def atL' (n l : Nat) : Nat → Option Nat := fun p => if p = n then some l else none
theorem Canon.grown {H : AH} (hb : belH H) {o : Nat} {N : List AV} (hN : Bels H.length N) : Canon H.length H.length idR noLim (H ++ [some (.cells N)]) (H.set o none ++ [some (.cells N)]) := by
  have get : ∀ (p : Nat) (x : AObj), (H.set o none ++ [some (.cells N)])[p]? = some (some x) → (H ++ [some (.cells N)])[p]? = some (some x) ∧ x.bel H.length := by
    intro p x hx
    by_cases hp : p < H.length
    · rw [List.getElem?_append_left (by simpa using hp), List.getElem?_set] at hx
      rw [List.getElem?_append_left hp]
      split at hx
      · split at hx <;> simp at hx
      · exact ⟨hx, hb p x hx⟩
    · rw [List.getElem?_append_right (by simpa using hp)] at hx
      rw [List.getElem?_append_right (by omega)]
      simp only [List.length_set] at hx
      refine ⟨hx, ?_⟩
      have : p - H.length = 0 := by
        have := (List.getElem?_eq_some_iff.1 hx).1
        simp at this; omega
      rw [this] at hx
      simp at hx
      rw [← hx]; exact hN
  refine ⟨by simp, by simp, fun p hp => ⟨rfl, rfl⟩, fun p hp => rfl, ?_, ?_, ?_⟩
  · intro p cs hx
    obtain ⟨h1, h2⟩ := get p _ hx
    refine ⟨cs, h1, by simp [idR], ?_, h2, fun ℓ h => by cases h⟩
    rw [rens_same (σ := idR) (m := H.length) (fun _ _ => rfl) h2]
    simp [idR]
  · intro p es hx
    obtain ⟨h1, h2⟩ := get p _ hx
    exact ⟨rfl, es, h1, rfl, (rens_same (σ := idR) (m := H.length) (fun _ _ => rfl) h2).symm, h2⟩
  · intro p p' x x' _ _ h
    exact h
theorem Canon.placed {H : AH} (hb : belH H) {o off l : Nat} {N cs1 : List AV} (ho : o < H.length) (hN : Bels H.length N) (hl : off + N.length ≤ cs1.length) (he : (cs1.drop off).take N.length = N) (hll : N.length ≤ l) :
    Canon H.length H.length (atR H.length o off) (atL' H.length l) (H.set o (some (.cells cs1))) (H.set o none ++ [some (.cells N)]) := by
  have sm : ∀ p, p < H.length → atR H.length o off p = (p, 0) := fun p hp => by unfold atR; rw [if_neg (by omega)]
  have sl : ∀ p, p < H.length → atL' H.length l p = none := fun p hp => by unfold atL'; rw [if_neg (by omega)]
  have get : ∀ (p : Nat) (x : AObj), (H.set o none ++ [some (.cells N)])[p]? = some (some x) → (p < H.length ∧ p ≠ o ∧ (H.set o (some (.cells cs1)))[p]? = some (some x) ∧ x.bel H.length) ∨ (p = H.length ∧ x = .cells N) := by
    intro p x hx
    by_cases hp : p < H.length
    · left
      rw [List.getElem?_append_left (by simpa using hp), List.getElem?_set] at hx
      split at hx
      · simp at hx
      · rename_i hne
        exact ⟨hp, fun h => hne h.symm, by rw [List.getElem?_set_ne hne]; exact hx, hb p x hx⟩
    · right
      rw [List.getElem?_append_right (by simpa using hp)] at hx
      simp only [List.length_set] at hx
      have : p - H.length = 0 := by
        have := (List.getElem?_eq_some_iff.1 hx).1
        simp at this; omega
      rw [this] at hx
      simp at hx
      exact ⟨by omega, hx.symm⟩
  refine ⟨by simp, by simp, fun p hp => ⟨sm p hp, sl p hp⟩, sl, ?_, ?_, ?_⟩
  · intro p cs hx
    rcases get p _ hx with ⟨h0, _, h1, h2⟩ | ⟨rfl, h⟩
    · refine ⟨cs, by rw [sm p h0]; exact h1, by rw [sm p h0]; simp, ?_, h2, fun ℓ h => by rw [sl p h0] at h; cases h⟩
      rw [rens_same sm h2, sm p h0]
      simp
    · injection h with h
      subst h
      have e : atR H.length o off H.length = (o, off) := if_pos rfl
      refine ⟨cs1, by rw [e]; simp [ho], by rw [e]; exact hl, ?_, hN, fun ℓ h => ?_⟩
      · rw [rens_same sm hN, e]; exact he.symm
      · unfold atL' at h
        rw [if_pos rfl] at h
        injection h with h
        omega
  · intro p es hx
    rcases get p _ hx with ⟨h0, _, h1, h2⟩ | ⟨_, h⟩
    · exact ⟨by rw [sm p h0], es, by rw [sm p h0]; exact h1, rfl, (rens_same sm h2).symm, h2⟩
    · cases h
  · intro p p' x x' hx hx' h
    have e : atR H.length o off H.length = (o, off) := if_pos rfl
    rcases get p _ hx with ⟨h0, h0', _, _⟩ | ⟨rfl, _⟩ <;> rcases get p' _ hx' with ⟨k0, k0', _, _⟩ | ⟨rfl, _⟩
    · rw [sm p h0, sm p' k0] at h; exact h
    · rw [sm p h0, e] at h; exact (h0' h).elim
    · rw [sm p' k0, e] at h; exact (k0' h.symm).elim
    · rfl
end Go.Proofs.Ytflodknflaallaa.Av
