/- Texts of this proof, one behind the other, packed into one file by a program of this session. No condition. -/
import Derived.Test.YtpnfdibgfichmaaMgD
import Derived.KernelRfl
import Derived.Lib.Bytealg
import Derived.Lib.Overlaps
/-! YtpnfdibgfichmaaAvN2 -/
section
/- Freezing what is answered, part by part. -/
set_option linter.unusedVariables false
set_option linter.unusedSimpArgs false
namespace Go.Proofs.Ytpnfdibgfichmaa.Av
open Go Go.RowKit

/-- v, with what it names in X, is R as memory that nobody writes. -/
def FZ (X : AH) (v R : AV) : Prop := ∃ n0, ∀ n, n0 ≤ n → frz X n v = some R
def FZs (X : AH) (vs Rs : List AV) : Prop := ∃ n0, ∀ n, n0 ≤ n → mapO (frz X n) vs = some Rs
theorem FZs.nil {X : AH} : FZs X [] [] := ⟨0, fun _ _ => rfl⟩
theorem FZs.cons {X : AH} {v R : AV} {vs Rs : List AV} (h : FZ X v R) (hs : FZs X vs Rs) : FZs X (v :: vs) (R :: Rs) := by
  obtain ⟨a, ha⟩ := h
  obtain ⟨b, hb⟩ := hs
  exact ⟨a + b, fun n hn => by simp only [mapO, ha n (by omega), hb n (by omega)]⟩
theorem FZ.agg {X : AH} {vs Rs : List AV} (hs : FZs X vs Rs) : FZ X (.agg vs) (.agg Rs) := by
  obtain ⟨b, hb⟩ := hs
  refine ⟨b + 1, fun n hn => ?_⟩
  cases n with
  | zero => omega
  | succ n => simp only [frz, hb n (by omega)]; rfl
theorem FZ.tup {X : AH} {vs Rs : List AV} (hs : FZs X vs Rs) : FZ X (.tup vs) (.tup Rs) := by
  obtain ⟨b, hb⟩ := hs
  refine ⟨b + 1, fun n hn => ?_⟩
  cases n with
  | zero => omega
  | succ n => simp only [frz, hb n (by omega)]; rfl
theorem FZ.lit {X : AH} (v : Value) : FZ X (.lit v) (.lit v) := ⟨1, fun n hn => by cases n with
  | zero => omega
  | succ n => rfl⟩
theorem FZ.same {X : AH} {v : AV} (h : noIds v = true) : FZ X v v := frz_noIds X v h
theorem FZ.sv {α : Type} {enc : α → List AV} {X : AH} {sz : Nat} {l : List α} {v : AV} (h : sliceCells X sz v = some (l.flatMap enc, l.length)) (hc : noIdss (l.flatMap enc) = true) : ∃ R, SV enc sz l R ∧ FZ X v R := by
  obtain ⟨R, n0, h1, h2, h3⟩ := frz_slice h hc
  exact ⟨R, ⟨h1, h2⟩, n0, h3⟩
section
variable {P : Program} {f : FuncId} {args : List AV}
theorem BPure.FZ {Q : AV → Prop} (hb : noIdss args = true) (h : ∃ r X, (∃ R, Av.FZ X r R ∧ Q R) ∧ BCall P f args [] r X) : ∃ R, Q R ∧ BPure P f args R := by
  obtain ⟨r, X, ⟨R, ⟨n, hn⟩, hq⟩, h⟩ := h
  exact BPure.fz hb ⟨r, X, ⟨n, R, hn n (Nat.le_refl _), hq⟩, h⟩
/-- What is one's own may be lent, if the answer points nowhere. -/
theorem PCall.lend {H : AH} {args' : List AV} {x : AV} (hs : FZs H args args') (hx : flatA x = true) (h : BPure P f args' x) : PCall P f args H x := by
  obtain ⟨n, hn⟩ := hs
  exact .inr ⟨n, args', hn n (Nat.le_refl _), hx, h⟩
end
theorem noIdss_app : ∀ {a b : List AV}, noIdss a = true → noIdss b = true → noIdss (a ++ b) = true
  | [], b, _, h => h
  | x :: a, b, h1, h2 => by
    simp only [noIdss, Bool.and_eq_true, List.cons_append] at h1 ⊢
    exact ⟨h1.1, noIdss_app h1.2 h2⟩
theorem noIdss_flat {α : Type} {enc : α → List AV} : ∀ {l : List α}, (∀ x ∈ l, noIdss (enc x) = true) → noIdss (l.flatMap enc) = true
  | [], _ => rfl
  | a :: l, h => by
    rw [List.flatMap_cons]
    exact noIdss_app (h a (by simp)) (noIdss_flat fun x hx => h x (by simp [hx]))
/-- A slice of one's own that has elements lies in an object. -/
theorem owned_sl {H : AH} {sz n : Nat} {v : AV} {cs : List AV} (h : sliceCells H sz v = some (cs, n)) (ho : ownedS v = true) (hn : 0 < n) :
    ∃ o off cap cells, v = .sl o off n sz cap ∧ H[o]? = some (some (.cells cells)) ∧ off + n * sz ≤ cells.length ∧ cs = (cells.drop off).take (n * sz) := by
  unfold sliceCells at h
  split at h
  · simp [ownedS] at ho
  · rename_i o off len esz cap
    split at h
    · rename_i c hoc
      split at h
      · rename_i hb
        obtain ⟨rfl, hb⟩ := hb
        injection h with h; injection h with h1 h2
        subst h1; subst h2
        exact ⟨o, off, cap, c, rfl, hoc, hb, rfl⟩
      · cases h
    · cases h
  · injection h with h; injection h with h1 h2; omega
  · injection h with h; injection h with h1 h2; omega
  · cases h
theorem over_len {cs xs : List AV} {k : Nat} (h : k + xs.length ≤ cs.length) : (over cs k xs).length = cs.length := by
  unfold over
  simp only [List.length_append, List.length_take, List.length_drop]; omega
theorem over_get {cs xs : List AV} {k : Nat} (h : k + xs.length ≤ cs.length) (i : Nat) : (over cs k xs)[i]? = if k ≤ i ∧ i < k + xs.length then xs[i - k]? else cs[i]? := by
  have h1 : (cs.take k).length = k := by rw [List.length_take]; omega
  unfold over
  split
  · rename_i c
    rw [List.getElem?_append_left (by rw [List.length_append]; omega), List.getElem?_append_right (by omega), h1]
  · rename_i c
    by_cases c1 : i < k
    · rw [List.append_assoc, List.getElem?_append_left (by omega), List.getElem?_take, if_pos c1]
    · rw [List.getElem?_append_right (by rw [List.length_append]; omega), List.length_append, h1, List.getElem?_drop]
      congr 1; omega
/-- What a slice in an object holds, when its object was written. -/
theorem over_part {cs xs : List AV} {off m k : Nat} (h1 : off + m ≤ cs.length) (h2 : k + xs.length ≤ m) : ((over cs (off + k) xs).drop off).take m = over ((cs.drop off).take m) k xs := by
  refine List.ext_getElem? fun i => ?_
  rw [List.getElem?_take, List.getElem?_drop, over_get (by omega), over_get (by rw [List.length_take, List.length_drop]; omega), List.getElem?_take, List.getElem?_drop]
  by_cases c : i < m
  · rw [if_pos c]
    by_cases c2 : k ≤ i ∧ i < k + xs.length
    · rw [if_pos c2, if_pos (by omega)]; congr 1; omega
    · rw [if_neg c2, if_neg (by omega), if_pos c]
  · rw [if_neg c, if_neg (by omega), if_neg c]
/-- One element of a list of elements. -/
theorem over_flat {α : Type} {enc : α → List AV} {sz : Nat} (hsz : ∀ x, (enc x).length = sz) {l : List α} {k q : Nat} {x y : α} {xs : List AV} (hx : l[k]? = some x) (hy : enc y = over (enc x) q xs) (hq : q + xs.length ≤ sz) :
    over (l.flatMap enc) (k * sz + q) xs = (l.set k y).flatMap enc := by
  induction l generalizing k with
  | nil => simp at hx
  | cons a l ih =>
    cases k with
    | zero =>
      simp at hx
      subst hx
      rw [List.set_cons_zero, List.flatMap_cons, List.flatMap_cons, hy]
      have ha := hsz a
      unfold over
      rw [Nat.zero_mul, Nat.zero_add, List.take_append_of_le_length (by omega), List.drop_append_of_le_length (by omega)]
      simp [List.append_assoc]
    | succ k =>
      simp at hx
      rw [List.set_cons_succ, List.flatMap_cons, List.flatMap_cons, ← ih hx]
      have ha := hsz a
      unfold over
      have e : (k + 1) * sz + q = (enc a).length + (k * sz + q) := by rw [ha, Nat.succ_mul]; omega
      rw [e, List.take_length_add_append, show (enc a).length + (k * sz + q) + xs.length = (enc a).length + (k * sz + q + xs.length) by omega, List.drop_length_add_append]
      simp [List.append_assoc]
end Go.Proofs.Ytpnfdibgfichmaa.Av
end
/-! YtpnfdibgfichmaaAvEx -/
section
/- slices.overlaps: two slices in two objects do not. -/
set_option linter.unusedVariables false
set_option linter.unusedSimpArgs false
namespace Go.Proofs.Ytpnfdibgfichmaa.Av
open Go Go.RowKit
theorem ExtR.apart {P : Program} {k : FuncId} {fn : Func} {tS tR e : TypeId} {size : Nat} (hf : P.funcs[k]? = some fn) (hname : (fn.name == "runtime.NumGoroutine") = false) (hb : fn.body.isNone = true) (hn : Extern.findNext fn = none)
    (he : Extern.find fn = some (Extern.SlicesOverlaps.overlaps #[tS, tS] #[tR])) (ht : P.underlying tS = some (.slice e)) (hz : ∀ w, (Go.sizeOf e).run P w = .ok size w)
    {H : AH} {oa offa la ea ka ob offb lb eb kb : Nat} {ca cb : List AV} (ha : H[oa]? = some (some (.cells ca))) (hbo : H[ob]? = some (some (.cells cb))) (hne : oa ≠ ob) (hka : ka ≠ 0) (hkb : kb ≠ 0) (hcb : cb ≠ []) :
    ExtR P k [.sl oa offa la ea (.ex ka), .sl ob offb lb eb (.ex kb)] H (B false) := by
  intro G vs hr hv
  simp only [VRs] at hv
  obtain ⟨v, r, rfl, h1, v2, r2, rfl, h2, rfl⟩ := hv
  simp only [VR] at h1 h2
  obtain ⟨ho1, a, c, rfl, hl1, hs1⟩ := h1
  obtain ⟨ho2, a2, c2, rfl, hl2, hs2⟩ := h2
  have hc1 : c ≠ 0 := by simp only [SlAt] at hs1; omega
  have hc2 : c2 ≠ 0 := by simp only [SlAt] at hs2; omega
  obtain ⟨rfl, -⟩ := slat_exact hs1 hc1
  obtain ⟨rfl, -⟩ := slat_exact hs2 hc2
  obtain ⟨q1, e1, u1, p1, p2, p3, p4, p5⟩ := hr.obj _ _ ha
  obtain ⟨q2, e2, u2, w1, w2, w3, w4, w5⟩ := hr.obj _ _ hbo
  have hblk : (G.μ oa).1 ≠ (G.μ ob).1 := fun h => hne (hr.inj _ _ _ _ ha hbo h)
  have hlen : 0 < cb.length := by cases cb with
    | nil => exact absurd rfl hcb
    | cons a r => simp
  refine ⟨.bool false, ?_, by simp only [VR]⟩
  rw [run_callFunc_extern hf hname hb hn he]
  have := Go.Lib.run_overlaps_apart (P := P) G.w tS tR e ht size hz ⟨(G.μ oa).1, (G.μ oa).2.1 + offa, none⟩ ⟨(G.μ ob).1, (G.μ ob).2.1 + offb, none⟩ la c lb c2 hblk e1 e2 q1.size q2.size
    (by simp [World.shape?, p1]) (by simp [World.shape?, w1]) (by omega) (by simp [World.frozen?, p1]) (by simp [World.frozen?, p1])
  show (((Extern.SlicesOverlaps.overlaps #[tS, tS] #[tR]) _).run P G.w).andThen _ = _
  have e : (#[Value.slice (some ⟨(G.μ oa).1, (G.μ oa).2.1 + offa, none⟩) la c, Value.slice (some ⟨(G.μ ob).1, (G.μ ob).2.1 + offb, none⟩) lb c2] : Array Value) = [Value.slice (some ⟨(G.μ oa).1, (G.μ oa).2.1 + offa, none⟩) la c, Value.slice (some ⟨(G.μ ob).1, (G.μ ob).2.1 + offb, none⟩) lb c2].toArray := rfl
  rw [← e, this]
  rfl
end Go.Proofs.Ytpnfdibgfichmaa.Av
end
/-! YtpnfdibgfichmaaAvC -/
section
/- What comes of a call, up to the names of objects: brought to one form. -/
set_option linter.unusedVariables false
set_option linter.unusedSimpArgs false
namespace Go.Proofs.Ytpnfdibgfichmaa.Av
open Go Go.RowKit

mutual
/-- Objects, named otherwise: object o lies where object (σ o).1 lies, from cell (σ o).2 on. -/
def AV.ren (σ : Nat → Nat × Nat) : AV → AV
  | .lit v => .lit v
  | .ptr o off => .ptr (σ o).1 ((σ o).2 + off)
  | .ip cs => .ip (rens σ cs)
  | .sl o off len esz cap => .sl (σ o).1 ((σ o).2 + off) len esz cap
  | .imm cs len esz => .imm (rens σ cs) len esz
  | .mp o => .mp (σ o).1
  | .agg cs => .agg (rens σ cs)
  | .tup cs => .tup (rens σ cs)
  | .fn f a b => .fn f (rens σ a) (rens σ b)
  | .emp => .emp
  | .junk => .junk
def rens (σ : Nat → Nat × Nat) : List AV → List AV
  | [] => []
  | a :: r => a.ren σ :: rens σ r
end
theorem rens_length (σ : Nat → Nat × Nat) : ∀ (l : List AV), (rens σ l).length = l.length
  | [] => rfl
  | a :: r => by simp only [rens, List.length_cons, rens_length σ r]
mutual
theorem ren_noIds {σ : Nat → Nat × Nat} : ∀ {a : AV}, noIds a = true → a.ren σ = a
  | .lit v, _ => rfl
  | .ip cs, h => by simp only [noIds] at h; simp only [AV.ren, rens_noIds h]
  | .imm cs len esz, h => by simp only [noIds] at h; simp only [AV.ren, rens_noIds h]
  | .agg cs, h => by simp only [noIds] at h; simp only [AV.ren, rens_noIds h]
  | .tup cs, h => by simp only [noIds] at h; simp only [AV.ren, rens_noIds h]
  | .fn f a b, h => by simp only [noIds, Bool.and_eq_true] at h; simp only [AV.ren, rens_noIds h.1, rens_noIds h.2]
  | .emp, _ => rfl
  | .junk, _ => rfl
  | .ptr .., h => by simp [noIds] at h
  | .sl .., h => by simp [noIds] at h
  | .mp .., h => by simp [noIds] at h
theorem rens_noIds {σ : Nat → Nat × Nat} : ∀ {asx : List AV}, noIdss asx = true → rens σ asx = asx
  | [], _ => rfl
  | a :: r, h => by simp only [noIdss, Bool.and_eq_true] at h; simp only [rens, ren_noIds h.1, rens_noIds h.2]
end
mutual
theorem ren_same {σ : Nat → Nat × Nat} {m : Nat} (h : ∀ o, o < m → σ o = (o, 0)) : ∀ {a : AV}, Bel m a → a.ren σ = a
  | .lit v, _ => rfl
  | .ptr o off, hb => by simp only [Bel] at hb; simp only [AV.ren, h o hb, Nat.zero_add]
  | .ip cs, hb => by simp only [Bel] at hb; simp only [AV.ren, rens_same h hb]
  | .sl o off len esz cap, hb => by simp only [Bel] at hb; simp only [AV.ren, h o hb, Nat.zero_add]
  | .imm cs len esz, hb => by simp only [Bel] at hb; simp only [AV.ren, rens_same h hb]
  | .mp o, hb => by simp only [Bel] at hb; simp only [AV.ren, h o hb]
  | .agg cs, hb => by simp only [Bel] at hb; simp only [AV.ren, rens_same h hb]
  | .tup cs, hb => by simp only [Bel] at hb; simp only [AV.ren, rens_same h hb]
  | .fn f a b, hb => by simp only [Bel] at hb; simp only [AV.ren, rens_same h hb.1, rens_same h hb.2]
  | .emp, _ => rfl
  | .junk, _ => rfl
theorem rens_same {σ : Nat → Nat × Nat} {m : Nat} (h : ∀ o, o < m → σ o = (o, 0)) : ∀ {asx : List AV}, Bels m asx → rens σ asx = asx
  | [], _ => rfl
  | a :: r, hb => by simp only [Bels] at hb; simp only [rens, ren_same h hb.1, rens_same h hb.2]
end
/-- The new names' places. -/
def Cfg.ren (G : Cfg) (σ : Nat → Nat × Nat) (lim : Nat → Option Nat) (n2 : Nat) : Cfg :=
  { w := G.w, n := n2, μ := fun o => ((G.μ (σ o).1).1, (G.μ (σ o).1).2.1 + (σ o).2, (lim o).getD ((G.μ (σ o).1).2.2 - (σ o).2)), L := G.L, K := G.K }
def noLim : Nat → Option Nat := fun _ => none
theorem SlAt.ren {m : Nat × Nat × Nat} {sh off esz : Nat} {cap : Room} {a : Addr} {c : Nat} (h : SlAt m (sh + off) esz cap a c) : SlAt (m.1, m.2.1 + sh, m.2.2 - sh) off esz cap a c := by
  unfold SlAt at h ⊢
  cases cap with
  | ex k =>
    simp only at h ⊢
    refine ⟨h.1, h.2.imp id fun h2 => ⟨by rw [h2.1, Nat.add_assoc], by have := h2.2; omega⟩⟩
  | ge k =>
    simp only at h ⊢
    refine ⟨h.1, h.2.imp id fun h2 => ⟨by rw [h2.1, Nat.add_assoc], by have := h2.2; omega⟩⟩
mutual
theorem VR.ren {G : Cfg} {σ : Nat → Nat × Nat} {lim : Nat → Option Nat} {n2 m2 : Nat} (hl : ∀ o, o < m2 → lim o = none) (hm : m2 ≤ n2) : ∀ {a : AV} {v : Value}, VR G (a.ren σ) v → Bel m2 a → VR (G.ren σ lim n2) a v
  | .lit _, _, h, _ => by simpa only [AV.ren, VR] using h
  | .ptr o off, v, h, hb => by
    simp only [AV.ren, VR] at h ⊢
    simp only [Bel] at hb
    exact ⟨Nat.lt_of_lt_of_le hb hm, by rw [h.2]; simp only [Cfg.ren, Nat.add_assoc]⟩
  | .ip cs, v, h, hb => by
    simp only [AV.ren, VR] at h ⊢
    simp only [Bel] at hb
    obtain ⟨ad, vs, e, hh, hr⟩ := h
    exact ⟨ad, vs, e, hh, VRs.ren hl hm hr hb⟩
  | .sl o off len esz cap, v, h, hb => by
    simp only [AV.ren, VR] at h ⊢
    simp only [Bel] at hb
    obtain ⟨_, a, c, e, hlc, hs⟩ := h
    refine ⟨Nat.lt_of_lt_of_le hb hm, a, c, e, hlc, ?_⟩
    have := hs.ren
    simp only [Cfg.ren, hl o hb, Option.getD_none]
    exact this
  | .imm cs len esz, v, h, hb => by
    simp only [AV.ren, VR] at h ⊢
    simp only [Bel] at hb
    obtain ⟨ad, c, vs, e, hlc, hh, hr⟩ := h
    exact ⟨ad, c, vs, e, hlc, hh, VRs.ren hl hm hr hb⟩
  | .mp o, v, h, hb => by
    simp only [AV.ren, VR] at h ⊢
    simp only [Bel] at hb
    exact ⟨Nat.lt_of_lt_of_le hb hm, h.2⟩
  | .agg cs, v, h, hb => by
    simp only [AV.ren, VR] at h ⊢
    simp only [Bel] at hb
    obtain ⟨vs, e, hr⟩ := h
    exact ⟨vs, e, VRs.ren hl hm hr hb⟩
  | .tup cs, v, h, hb => by
    simp only [AV.ren, VR] at h ⊢
    simp only [Bel] at hb
    obtain ⟨vs, e, hr⟩ := h
    exact ⟨vs, e, VRs.ren hl hm hr hb⟩
  | .fn f a b, v, h, hb => by
    simp only [AV.ren, VR] at h ⊢
    simp only [Bel] at hb
    obtain ⟨va, vb, e, h1, h2⟩ := h
    exact ⟨va, vb, e, VRs.ren hl hm h1 hb.1, VRs.ren hl hm h2 hb.2⟩
  | .emp, _, h, _ => by simpa only [AV.ren, VR] using h
  | .junk, _, _, _ => by simp only [VR]
theorem VRs.ren {G : Cfg} {σ : Nat → Nat × Nat} {lim : Nat → Option Nat} {n2 m2 : Nat} (hl : ∀ o, o < m2 → lim o = none) (hm : m2 ≤ n2) : ∀ {asx : List AV} {vs : List Value}, VRs G (rens σ asx) vs → Bels m2 asx → VRs (G.ren σ lim n2) asx vs
  | [], _, h, _ => by simpa only [rens, VRs] using h
  | a :: r, vs, h, hb => by
    simp only [rens, VRs] at h ⊢
    simp only [Bels] at hb
    obtain ⟨v, q, e, h1, h2⟩ := h
    exact ⟨v, q, e, VR.ren hl hm h1 hb.1, VRs.ren hl hm h2 hb.2⟩
end
/-- H2 tells of H1 what is needed, by other names; the first n0 names are as they were; what lies in objects names such as are below m2. -/
structure Canon (n0 m2 : Nat) (σ : Nat → Nat × Nat) (lim : Nat → Option Nat) (H1 H2 : AH) : Prop where
  len : n0 ≤ H2.length
  top : m2 ≤ H2.length
  old : ∀ o, o < n0 → σ o = (o, 0) ∧ lim o = none
  low : ∀ o, o < m2 → lim o = none
  cells : ∀ (o : Nat) (cs : List AV), H2[o]? = some (some (.cells cs)) → ∃ cs1, H1[(σ o).1]? = some (some (.cells cs1)) ∧ (σ o).2 + cs.length ≤ cs1.length ∧ rens σ cs = (cs1.drop (σ o).2).take cs.length ∧ Bels m2 cs ∧ ∀ ℓ, lim o = some ℓ → cs.length ≤ ℓ
  maps : ∀ (o : Nat) (es : List (Value × AV)), H2[o]? = some (some (.map es)) → (σ o).2 = 0 ∧ ∃ es1, H1[(σ o).1]? = some (some (.map es1)) ∧ es1.map Prod.fst = es.map Prod.fst ∧ es1.map Prod.snd = rens σ (es.map Prod.snd) ∧ Bels m2 (es.map Prod.snd)
  inj : ∀ (o o' : Nat) (x x' : AObj), H2[o]? = some (some x) → H2[o']? = some (some x') → (σ o).1 = (σ o').1 → o = o'
theorem Canon.hr {n0 m2 : Nat} {σ : Nat → Nat × Nat} {lim : Nat → Option Nat} {H1 H2 : AH} (c : Canon n0 m2 σ lim H1 H2) {G : Cfg} (hr : HR G H1) (hlim : ∀ o ℓ, lim o = some ℓ → (σ o).2 + ℓ ≤ (G.μ (σ o).1).2.2) : HR (G.ren σ lim H2.length) H2 := by
  have src : ∀ (o : Nat) (x : AObj), H2[o]? = some (some x) → ∃ x1, H1[(σ o).1]? = some (some x1) := by
    intro o x hx
    cases x with
    | cells cs => obtain ⟨cs1, h1, _⟩ := c.cells o cs hx; exact ⟨_, h1⟩
    | map es => obtain ⟨_, es1, h1, _⟩ := c.maps o es hx; exact ⟨_, h1⟩
  refine ⟨rfl, ?_, ?_, ?_, hr.lt⟩
  · intro o x hx
    cases x with
    | cells cs =>
      obtain ⟨cs1, h1, h2, h3, h4, h5⟩ := c.cells o cs hx
      obtain ⟨cc, e, vs, q1, q2, q3, q4, q5⟩ := hr.obj _ _ h1
      have hl := q4.length
      have hlm : (lim o).getD ((G.μ (σ o).1).2.2 - (σ o).2) + (σ o).2 ≤ (G.μ (σ o).1).2.2 ∧ cs.length ≤ (lim o).getD ((G.μ (σ o).1).2.2 - (σ o).2) := by
        cases hlo : lim o with
        | none => simp only [Option.getD_none]; omega
        | some ℓ => have := hlim o ℓ hlo; have := h5 ℓ hlo; simp only [Option.getD_some]; omega
      refine ⟨cc, e, (vs.drop (σ o).2).take cs.length, q1, ?_, hlm.2, ?_, ?_⟩
      · show (G.μ (σ o).1).2.1 + (σ o).2 + (lim o).getD ((G.μ (σ o).1).2.2 - (σ o).2) ≤ cc.size
        omega
      · refine VRs.ren c.low c.top ?_ h4
        rw [h3]
        exact (q4.drop _).take _
      · intro i v hv
        rw [List.getElem?_take] at hv
        split at hv
        · rw [List.getElem?_drop] at hv
          have := q5 _ _ hv
          show cc[(G.μ (σ o).1).2.1 + (σ o).2 + i]? = some v ∧ _
          rw [Nat.add_assoc]
          exact this
        · cases hv
    | map es =>
      obtain ⟨h0, es1, h1, h2, h3, h4⟩ := c.maps o es hx
      obtain ⟨ents, q1, q2, q3, q4⟩ := hr.obj _ _ h1
      refine ⟨ents, q1, ?_, by rw [q3, h2], ?_⟩
      · refine VRs.ren c.low c.top ?_ h4
        rw [← h3]; exact q2
      · rw [q4]
        congr 1
        have := congrArg List.length h2
        simpa using this
  · intro o o' x x' hx hx' he
    obtain ⟨x1, h1⟩ := src o x hx
    obtain ⟨x2, h2⟩ := src o' x' hx'
    exact c.inj o o' x x' hx hx' (hr.inj _ _ _ _ h1 h2 he)
  · intro o x hx
    obtain ⟨x1, h1⟩ := src o x hx
    exact hr.live _ _ h1
theorem Canon.evo {n0 m2 : Nat} {σ : Nat → Nat × Nat} {lim : Nat → Option Nat} {H1 H2 : AH} (c : Canon n0 m2 σ lim H1 H2) {G0 G : Cfg} (h0 : G0.n = n0) (hE : Evo G0 G) : Evo G0 (G.ren σ lim H2.length) :=
  ⟨hE.os, hE.tape, hE.output, hE.size, hE.keep, by rw [h0]; exact c.len, fun o ho => by
    obtain ⟨hσ, hl⟩ := c.old o (by omega)
    have := hE.μ o ho
    simp only [Cfg.ren, hσ, hl, Nat.add_zero, Nat.sub_zero, Option.getD_none]
    exact this, hE.K⟩
section
variable {P : Program}
/-- What a heap names lies in it. -/
def belH (H : AH) : Prop := ∀ (o : Nat) (x : AObj), H[o]? = some (some x) → x.bel H.length
theorem HR.belH {G : Cfg} {H : AH} (hr : HR G H) : belH H := fun o x hx => by rw [← hr.n]; exact (hr.obj o x hx).bel
/-- Whatever comes of a call, brought to one form. -/
theorem ACalls.canon {f : FuncId} {args : List AV} {H H2 : AH} {R : AV → AH → Prop} {r2 : AV} (h : ACalls P f args H R)
    (hc : belH H → ∀ r1 H1, R r1 H1 → ∃ m2 σ lim, Canon H.length m2 σ lim H1 H2 ∧ ∀ G v, HR G H1 → VR G r1 v → VR (G.ren σ lim H2.length) r2 v ∧ ∀ o ℓ, lim o = some ℓ → (σ o).2 + ℓ ≤ (G.μ (σ o).1).2.2) : BCall P f args H r2 H2 := by
  intro G vs hH hv
  refine (h G vs hH hv).mono ?_
  rintro e w' ⟨r1, H1, G', v, rfl, rfl, hE, hx, hX, hq⟩
  obtain ⟨m2, σ, lim, c, hs⟩ := hc hH.belH r1 H1 hq
  obtain ⟨hs1, hs2⟩ := hs G' v hX hx
  exact ⟨r2, H2, G'.ren σ lim H2.length, v, rfl, rfl, c.evo hH.n hE, hs1, c.hr hX hs2, rfl, rfl⟩
/-- .. of code. -/
theorem ACode.canon {c : Code} {Q : AQ} {T : List AV} {H : AH} {e2 : Exit} {T2 : List AV} {H2 : AH} (h : ACode P c Q T H) (hc : ∀ e T1 H1, Q e T1 H1 → e = e2 ∧ ∃ σ, Canon H.length H2.length σ noLim H1 H2 ∧ (∀ G a, FR G T1 a → FR G (rens σ T2) a) ∧ Bels H2.length T2) : BCode P c T H e2 T2 H2 := by
  intro G0 G a hE hF hd hH
  have := h G G a (Evo.refl G) hF hd hH
  refine Code.wp_mono ?_ this
  rintro e a' w' ⟨T1, H1, G', rfl, hE', hF', hd', hH', hq⟩
  obtain ⟨rfl, σ, cc, hF2, hb⟩ := hc e T1 H1 hq
  exact ⟨T2, H2, G'.ren σ noLim H2.length, rfl, hE.trans (cc.evo hH.n hE'), VRs.ren (fun _ _ => rfl) (Nat.le_refl _) (hF2 G' a' hF') hb, hd', cc.hr hH' (fun o ℓ h => by cases h), rfl⟩
/-- A slice's room, told. -/
theorem ACalls.room {f : FuncId} {o off len esz k : Nat} {args : List AV} {H : AH} {R : AV → AH → Prop} (h : ∀ c, k ≤ c → len ≤ c → ACalls P f (.sl o off len esz (.ex c) :: args) H R) : ACalls P f (.sl o off len esz (.ge k) :: args) H R := by
  intro G vs hH hv
  simp only [VRs] at hv
  obtain ⟨v, r, rfl, h1, h2⟩ := hv
  simp only [VR] at h1
  obtain ⟨ho, a, c, rfl, hl, hs⟩ := h1
  simp only [SlAt] at hs
  refine h c hs.1 hl G _ hH (.cons ?_ h2)
  simp only [VR]
  refine ⟨ho, a, c, rfl, hl, rfl, hs.2.imp id fun h3 => ⟨h3.1, by have := h3.2; omega⟩⟩
end
/-! An object that is given up, and one that is new (grown), or one that is given up and lies on as a new one (in place): one form. -/
def idR : Nat → Nat × Nat := fun o => (o, 0)
def atR (n o off : Nat) : Nat → Nat × Nat := fun p => if p = n then (o, off) else (p, 0)
def atL' (n l : Nat) : Nat → Option Nat := fun p => if p = n then some l else none
theorem Canon.grown {H : AH} (hb : belH H) {o : Nat} {N : List AV} (hN : Bels H.length N) : Canon H.length H.length idR noLim (H ++ [some (.cells N)]) (H.set o none ++ [some (.cells N)]) := by
  have get : ∀ (p : Nat) (x : AObj), (H.set o none ++ [some (.cells N)])[p]? = some (some x) → (H ++ [some (.cells N)])[p]? = some (some x) ∧ x.bel H.length := by
    intro p x hx
    by_cases hp : p < H.length
    · rw [List.getElem?_append_left (by simpa using hp), List.getElem?_set] at hx
      rw [List.getElem?_append_left hp]
      split at hx
      · split at hx <;> simp at hx
      · exact ⟨hx, hb p x hx⟩
    · rw [List.getElem?_append_right (by simpa using hp)] at hx
      rw [List.getElem?_append_right (by omega)]
      simp only [List.length_set] at hx
      refine ⟨hx, ?_⟩
      have : p - H.length = 0 := by
        have := (List.getElem?_eq_some_iff.1 hx).1
        simp at this; omega
      rw [this] at hx
      simp at hx
      rw [← hx]; exact hN
  refine ⟨by simp, by simp, fun p hp => ⟨rfl, rfl⟩, fun p hp => rfl, ?_, ?_, ?_⟩
  · intro p cs hx
    obtain ⟨h1, h2⟩ := get p _ hx
    refine ⟨cs, h1, by simp [idR], ?_, h2, fun ℓ h => by cases h⟩
    rw [rens_same (σ := idR) (m := H.length) (fun _ _ => rfl) h2]
    simp [idR]
  · intro p es hx
    obtain ⟨h1, h2⟩ := get p _ hx
    exact ⟨rfl, es, h1, rfl, (rens_same (σ := idR) (m := H.length) (fun _ _ => rfl) h2).symm, h2⟩
  · intro p p' x x' _ _ h
    exact h
theorem Canon.placed {H : AH} (hb : belH H) {o off l : Nat} {N cs1 : List AV} (ho : o < H.length) (hN : Bels H.length N) (hl : off + N.length ≤ cs1.length) (he : (cs1.drop off).take N.length = N) (hll : N.length ≤ l) :
    Canon H.length H.length (atR H.length o off) (atL' H.length l) (H.set o (some (.cells cs1))) (H.set o none ++ [some (.cells N)]) := by
  have sm : ∀ p, p < H.length → atR H.length o off p = (p, 0) := fun p hp => by unfold atR; rw [if_neg (by omega)]
  have sl : ∀ p, p < H.length → atL' H.length l p = none := fun p hp => by unfold atL'; rw [if_neg (by omega)]
  have get : ∀ (p : Nat) (x : AObj), (H.set o none ++ [some (.cells N)])[p]? = some (some x) → (p < H.length ∧ p ≠ o ∧ (H.set o (some (.cells cs1)))[p]? = some (some x) ∧ x.bel H.length) ∨ (p = H.length ∧ x = .cells N) := by
    intro p x hx
    by_cases hp : p < H.length
    · left
      rw [List.getElem?_append_left (by simpa using hp), List.getElem?_set] at hx
      split at hx
      · simp at hx
      · rename_i hne
        exact ⟨hp, fun h => hne h.symm, by rw [List.getElem?_set_ne hne]; exact hx, hb p x hx⟩
    · right
      rw [List.getElem?_append_right (by simpa using hp)] at hx
      simp only [List.length_set] at hx
      have : p - H.length = 0 := by
        have := (List.getElem?_eq_some_iff.1 hx).1
        simp at this; omega
      rw [this] at hx
      simp at hx
      exact ⟨by omega, hx.symm⟩
  refine ⟨by simp, by simp, fun p hp => ⟨sm p hp, sl p hp⟩, sl, ?_, ?_, ?_⟩
  · intro p cs hx
    rcases get p _ hx with ⟨h0, _, h1, h2⟩ | ⟨rfl, h⟩
    · refine ⟨cs, by rw [sm p h0]; exact h1, by rw [sm p h0]; simp, ?_, h2, fun ℓ h => by rw [sl p h0] at h; cases h⟩
      rw [rens_same sm h2, sm p h0]
      simp
    · injection h with h
      subst h
      have e : atR H.length o off H.length = (o, off) := if_pos rfl
      refine ⟨cs1, by rw [e]; simp [ho], by rw [e]; exact hl, ?_, hN, fun ℓ h => ?_⟩
      · rw [rens_same sm hN, e]; exact he.symm
      · unfold atL' at h
        rw [if_pos rfl] at h
        injection h with h
        omega
  · intro p es hx
    rcases get p _ hx with ⟨h0, _, h1, h2⟩ | ⟨_, h⟩
    · exact ⟨by rw [sm p h0], es, by rw [sm p h0]; exact h1, rfl, (rens_same sm h2).symm, h2⟩
    · cases h
  · intro p p' x x' hx hx' h
    have e : atR H.length o off H.length = (o, off) := if_pos rfl
    rcases get p _ hx with ⟨h0, h0', _, _⟩ | ⟨rfl, _⟩ <;> rcases get p' _ hx' with ⟨k0, k0', _, _⟩ | ⟨rfl, _⟩
    · rw [sm p h0, sm p' k0] at h; exact h
    · rw [sm p h0, e] at h; exact (h0' h).elim
    · rw [sm p' k0, e] at h; exact (k0' h.symm).elim
    · rfl
end Go.Proofs.Ytpnfdibgfichmaa.Av
end
/-! YtpnfdibgfichmaaAvIns -/
section
/- slices.Insert of one element, and slices.Delete of one, whatever the elements are. -/
set_option linter.unusedVariables false
set_option linter.unusedSimpArgs false
set_option maxRecDepth 100000
namespace Go.Proofs.Ytpnfdibgfichmaa.Av
open Go Go.RowKit
section
variable {P : Program}
/-- slices.Insert's text, by an element's cells, bytes and noughts. -/
def insF (P : Program) (sz bytes : Nat) (zc : List AV) (ov rot : FuncId) (a0 a1 a2 : AV) (H : AH) (K : AV → AH → Prop) : Prop :=
 bO (aslS sz a0 (some a1) none none) fun v0 =>
 bO (alnS a2) fun v1 =>
 bO (abI .eql v1 (.lit (.int .i64 0))) fun v2 =>
 bB v2 fun t3 => bI t3 (
 K a0 H)
 (bO (alnS a0) fun v4 =>
 bO (abI .eql a1 v4) fun v5 =>
 bB v5 fun t6 => bI t6 (
 bH (aap sz bytes H a0 a2) fun v7 H8 =>
 K v7 H8)
 (bO (abI .add v4 v1) fun v9 =>
 bO (acpS a0) fun v10 =>
 bO (abI .gtr v9 v10) fun v11 =>
 bB v11 fun t12 => bI t12 (
 bO (aslS sz a0 none (some a1) none) fun v13 =>
 bO (abI .add v4 v1) fun v14 =>
 bO (abI .sub v14 a1) fun v15 =>
 bH (aappZ1 H sz bytes zc v13 v15) fun v16 H17 =>
 bO (aslS sz v16 (some a1) none none) fun v18 =>
 bH (acp sz H17 v18 a2) fun v19 H20 =>
 bO (abI .add a1 v1) fun v21 =>
 bO (aslS sz v16 (some v21) none none) fun v22 =>
 bO (aslS sz a0 (some a1) none none) fun v23 =>
 bH (acp sz H20 v22 v23) fun v24 H25 =>
 K v16 H25)
 (bO (abI .add v4 v1) fun v26 =>
 bO (aslS sz a0 none (some v26) none) fun v27 =>
 bO (abI .add a1 v1) fun v28 =>
 bO (aslS sz v27 (some v28) none none) fun v29 =>
 bP (ExtR P ov [a2, v29] H) fun v30 =>
 bO (aun .not v30) fun v31 =>
 bB v31 fun t32 => bI t32 (
 bO (abI .add a1 v1) fun v33 =>
 bO (aslS sz v27 (some v33) none none) fun v34 =>
 bO (aslS sz v27 (some a1) none none) fun v35 =>
 bH (acp sz H v34 v35) fun v36 H37 =>
 bO (aslS sz v27 (some a1) none none) fun v38 =>
 bH (acp sz H37 v38 a2) fun v39 H40 =>
 K v27 H40)
 (bO (aslS sz v27 (some v4) none none) fun v41 =>
 bH (acp sz H v41 a2) fun v42 H43 =>
 bO (aslS sz v27 (some a1) none none) fun v44 =>
 bC (BCall P rot [v44, v1] H43) fun v45 H46 =>
 K v27 H46))))
/-- Room for what a slice holds. -/
def capOk (s : AV) (n : Nat) : Prop := match s with
  | .sl _ _ _ _ cap => n ≤ cap.least
  | _ => True
theorem acp_slG {H : AH} {sz o off len o2 off2 m : Nat} {cap cap2 : Room} {cs cs2 : List AV} (ho : H[o]? = some (some (.cells cs))) (h2 : H[o2]? = some (some (.cells cs2))) (hoff : off ≤ cs.length) (ht : off2 + min m len * sz ≤ cs2.length) :
    acp sz H (.sl o off len sz cap) (.sl o2 off2 m sz cap2) = some (I ((min m len : Nat) : Int), H.set o (some (.cells (over cs off ((cs2.drop off2).take (min m len * sz)))))) := by
  unfold acp acp0
  by_cases h : off2 + m * sz ≤ cs2.length
  · have e : appended H sz (.sl o2 off2 m sz cap2) = some ((cs2.drop off2).take (m * sz), m) := appended_slice (by simp [sliceCells, h2, h])
    have hm : min (min m len * sz) (m * sz) = min m len * sz := Nat.min_eq_left (Nat.mul_le_mul_right _ (Nat.min_le_left _ _))
    rw [e]
    simp only [ho, hoff, and_self, if_true, List.take_take, hm]
  · have e : appended H sz (.sl o2 off2 m sz cap2) = none := by simp [appended, sliceCells, h2, h]
    rw [e]
    simp [acpT, ho, h2, hoff, ht]
theorem aap_cap {sz bytes : Nat} {H : AH} {s x r : AV} {H' : AH} {cs ds : List AV} {n m : Nat} (h1 : sliceCells H sz s = some (cs, n)) (ho : ownedS s = true) (h2 : appended H sz x = some (ds, m)) (hc : capOk s n) (h : aap sz bytes H s x = some (r, H')) : capOk r (n + m) := by
  unfold aap at h
  rw [h2] at h
  simp only at h
  unfold sliceCells at h1
  split at h1
  · simp [ownedS] at ho
  · rename_i o off len esz cap
    split at h1
    · rename_i c hoc
      split at h1
      · rename_i hb1
        obtain ⟨rfl, hfit⟩ := hb1
        injection h1 with h1
        injection h1 with h3 h4
        subst h3; subst h4
        unfold aapp1 at h
        simp only [hoc, ne_eq, not_true_eq_false, false_or, hfit, if_false] at h
        cases cap with
        | ex k =>
          simp only at h
          split at h
          · injection h with h; injection h with h h'; subst h; simpa [capOk, Room.least]
          · split at h
            · injection h with h; injection h with h h'; subst h; simp [capOk, Room.least]
            · cases h
        | ge k =>
          simp only at h
          split at h
          · rename_i hm
            injection h with h; injection h with h h'; subst h; subst hm; simpa using hc
          · split at h
            · injection h with h; injection h with h h'; subst h; simpa [capOk, Room.least]
            · split at h
              · injection h with h; injection h with h h'; subst h; simp [capOk, Room.least]
              · cases h
      · cases h1
    · cases h1
  · injection h1 with h1
    injection h1 with h3 h4
    subst h3; subst h4
    unfold aapp1 at h
    simp only at h
    split at h
    · injection h with h; injection h with h h'; subst h; simp [capOk]
    · split at h
      · injection h with h; injection h with h h'; subst h; simp [capOk, Room.least]
      · cases h
  · injection h1 with h1
    injection h1 with h3 h4
    subst h3; subst h4
    unfold aapp1 at h
    simp only at h
    split at h
    · injection h with h; injection h with h h'; subst h; simp [capOk]
    · split at h
      · injection h with h; injection h with h h'; subst h; simp [capOk, Room.least]
      · cases h
  · cases h1
/-- What Insert leaves. -/
def InsG (sz : Nat) (H : AH) (s : AV) (N : List AV) (n : Nat) (r : AV) (H' : AH) : Prop :=
  ownedS r = true ∧ sliceCells H' sz r = some (N, n + 1) ∧ H.length ≤ H'.length ∧ (∀ i, i < H.length → i ∉ idS s → H'[i]? = H[i]?) ∧ (∀ i ∈ idS r, i ∈ idS s ∨ H.length ≤ i) ∧ capOk r (n + 1)
theorem ins_end {sz bytes : Nat} {zc : List AV} {ov rot : FuncId} {H : AH} {s a2 : AV} {cs xs : List AV} {n : Nat} (hs : sliceCells H sz s = some (cs, n)) (ho : ownedS s = true) (hc : capOk s n) (ha : alnS a2 = some (I 1)) (hx : appended H sz a2 = some (xs, 1)) (hb : (n + 1) * bytes ≤ 140737488355328) :
    ∃ r H', InsG sz H s (cs ++ xs) n r H' ∧ insF P sz bytes zc ov rot s (I n) a2 H fun r' H'' => r' = r ∧ H'' = H' := by
  obtain ⟨r0, a0, -⟩ := aslS_spec hs (lo := some (I n)) (hi := none) (l := n) (k := n) (by simp [abnd]) rfl (Nat.le_refl _) (Nat.le_refl _)
  obtain ⟨r, H2, a1, a2', a3, a4, a5, a6⟩ := aap_spec (bytes := bytes) hs ho hx hb
  refine ⟨r, H2, ⟨a2', a3, a4, a5, a6, aap_cap hs ho hx hc a1⟩, ?_⟩
  unfold insF
  simp [a0, ha, alnS_spec hs, a1]
theorem ins_grow {sz bytes : Nat} {zc : List AV} {ov rot : FuncId} (hz : zc.length = sz) {H : AH} {o off n oj i : Nat} {cells xs : List AV} (hc : H[o]? = some (some (.cells cells))) (hl : off + n * sz ≤ cells.length) (hi : i < n) (hn : n ≤ 100000000) (hv : H[oj]? = some (some (.cells xs))) (hxl : xs.length = sz) (hby : (n + 1) * bytes ≤ 140737488355328) :
    insF P sz bytes zc ov rot (.sl o off n sz (.ex n)) (I i) (.sl oj 0 1 sz (.ex 1)) H fun r H' => r = .sl H.length 0 (n + 1) sz (.ge (n + 1)) ∧
      H' = H ++ [some (.cells ((cells.drop off).take (i * sz) ++ xs ++ (cells.drop (off + i * sz)).take ((n - i) * sz)))] := by
  unfold insF
  have h1 : ¬ (i : Int) = n := by omega
  have hmi : i * sz ≤ n * sz := Nat.mul_le_mul_right _ (by omega)
  have hmn : i * sz + (n - i) * sz = n * sz := by rw [← Nat.add_mul]; congr 1; omega
  have hms : (i + 1) * sz = i * sz + sz := Nat.succ_mul _ _
  have hmr : (n + 1 - i) * sz = (n - i) * sz + sz := by rw [show n + 1 - i = (n - i) + 1 by omega, Nat.succ_mul]
  simp [aslS, abnd, Room.least, Room.cut, acpS, goInt, h1, show i ≤ n by omega, abI_add (a := n) (b := 1) (by omega) (by omega), abI_sub (a := (n : Int) + 1) (b := i) (by omega) (by omega), aappZ1, hc, hl, abI_add (a := i) (b := 1) (by omega) (by omega), -zrow]
  have e1 : i + (n + 1 - i) = n + 1 := by omega
  have h2 : off + i * sz ≤ cells.length := by omega
  simp only [e1]
  simp [h2, show (i : Int) < n + 1 by omega, show (n : Int) < n + 1 by omega, hby, show i ≤ n + 1 by omega, show i + 1 ≤ n + 1 by omega, -zrow]
  have zl : (zrow zc (n + 1 - i)).length = (n + 1 - i) * sz := by rw [zrow_length, hz]
  generalize zrow zc (n + 1 - i) = Z at zl
  have hA : (List.take (i * sz) (List.drop off cells)).length = i * sz := by rw [List.length_take, List.length_drop]; omega
  generalize hAe : List.take (i * sz) (List.drop off cells) = A at hA
  have hov := (List.getElem?_eq_some_iff.1 hv).1
  have ho := (List.getElem?_eq_some_iff.1 hc).1
  have m1 : min 1 (n + 1 - i) = 1 := by omega
  rw [acp_slG (cs := A ++ Z) (cs2 := xs) (by simp) (by rw [List.getElem?_append_left hov]; exact hv) (by simp [hA]) (by rw [m1]; omega)]
  simp [show (0 : Int) ≤ (i : Int) + 1 by omega, show i + 1 ≤ n + 1 by omega]
  have o1 : over (A ++ Z) (i * sz) (List.take (min 1 (n + 1 - i) * sz) xs) = A ++ xs ++ Z.drop sz := by
    rw [m1, List.take_of_length_le (by rw [hxl]; omega)]
    unfold over
    rw [List.take_append_of_le_length (by omega), List.take_of_length_le (by omega), hxl, ← hA, List.drop_append, Nat.add_sub_cancel_left, List.drop_eq_nil_of_le (by omega), List.nil_append]
  rw [o1, acp_slG (cs := A ++ xs ++ Z.drop sz) (cs2 := cells) (by simp) (by rw [List.getElem?_append_left ho]; exact hc) (by simp [hA, hxl]; omega) (by rw [Nat.min_self]; omega)]
  have hB : (List.take ((n - i) * sz) (List.drop (off + i * sz) cells)).length = (n - i) * sz := by rw [List.length_take, List.length_drop]; omega
  simp
  generalize List.take ((n - i) * sz) (List.drop (off + i * sz) cells) = B' at hB
  unfold over
  have l1 : (A ++ xs).length = (i + 1) * sz := by rw [List.length_append, hA, hxl]; omega
  rw [← List.append_assoc, List.take_append_of_le_length (by omega), List.take_of_length_le (by omega), List.drop_eq_nil_of_le (by rw [List.length_append, l1, List.length_drop, hB]; omega), List.append_nil, List.append_assoc]
theorem ins_place {sz bytes : Nat} {zc : List AV} {ov rot : FuncId} (h0 : 0 < sz) {H : AH} {o off n oj i c : Nat} {cells xs : List AV} (hc : H[o]? = some (some (.cells cells))) (hl : off + n * sz ≤ cells.length) (hi : i < n) (hn : n ≤ 100000000) (hcn : n + 1 ≤ c) (hv : H[oj]? = some (some (.cells xs))) (hxl : xs.length = sz) (hne : oj ≠ o)
    (hov : ∀ q l k, k ≠ 0 → ExtR P ov [.sl oj 0 1 sz (.ex 1), .sl o q l sz (.ex k)] H (B false)) :
    insF P sz bytes zc ov rot (.sl o off n sz (.ex c)) (I i) (.sl oj 0 1 sz (.ex 1)) H fun r H' => r = .sl o off (n + 1) sz (.ex c) ∧
      ∃ rest, H' = H.set o (some (.cells (cells.take (off + i * sz) ++ xs ++ (cells.drop (off + i * sz)).take ((n - i) * sz) ++ rest))) := by
  unfold insF
  have h1 : ¬ (i : Int) = n := by omega
  have hmi : i * sz ≤ n * sz := Nat.mul_le_mul_right _ (by omega)
  have hmn : i * sz + (n - i) * sz = n * sz := by rw [← Nat.add_mul]; congr 1; omega
  have hms : (i + 1) * sz = i * sz + sz := Nat.succ_mul _ _
  have hms2 : (i + 1) * sz ≤ n * sz := Nat.mul_le_mul_right _ (by omega)
  simp [aslS, abnd, Room.least, Room.cut, acpS, goInt, h1, show i ≤ n by omega, abI_add (a := n) (b := 1) (by omega) (by omega), abI_sub (a := (n : Int) + 1) (b := i) (by omega) (by omega), hc, hl, abI_add (a := i) (b := 1) (by omega) (by omega), show i ≤ c by omega, show n ≤ c by omega, show ¬ (c : Int) < n + 1 by omega, hcn, show (0 : Int) ≤ (n : Int) + 1 by omega, show (0 : Int) ≤ (i : Int) + 1 by omega, show i + 1 ≤ n + 1 by omega, show i + 1 ≤ c by omega]
  refine bP_of (hov _ _ _ (by omega)) ?_
  simp
  have ho := (List.getElem?_eq_some_iff.1 hc).1
  have mm : min (n + 1 - i) (n - i) = n - i := by omega
  have m1 : min 1 (n + 1 - i) = 1 := by omega
  simp only [show i ≤ n + 1 by omega, if_true, bO_some]
  rw [acp_slG (cs := cells) (cs2 := cells) hc hc (by omega) (by rw [mm]; omega), mm]
  have hB : (List.take ((n - i) * sz) (List.drop (off + i * sz) cells)).length = (n - i) * sz := by rw [List.length_take, List.length_drop]; omega
  generalize List.take ((n - i) * sz) (List.drop (off + i * sz) cells) = B' at hB
  simp only [bH_some]
  have l1 : (cells.take (off + (i + 1) * sz)).length = off + (i + 1) * sz := by rw [List.length_take]; omega
  rw [acp_slG (cs := over cells (off + (i + 1) * sz) B') (cs2 := xs) (by simp [ho]) (by rw [List.getElem?_set_ne (Ne.symm hne)]; exact hv) (by unfold over; simp [l1]; omega) (by rw [m1]; omega), m1, List.take_of_length_le (l := xs.drop 0) (by simp [hxl])]
  simp only [bH_some, List.set_set, List.drop_zero]
  refine ⟨(cells.drop (off + (i + 1) * sz + B'.length)), ?_⟩
  congr 3
  unfold over
  rw [hxl]
  have t1 : List.take (off + i * sz) (cells.take (off + (i + 1) * sz) ++ B' ++ cells.drop (off + (i + 1) * sz + B'.length)) = cells.take (off + i * sz) := by
    rw [List.append_assoc, List.take_append_of_le_length (by omega), List.take_take, Nat.min_eq_left (by omega)]
  have t2 : List.drop (off + i * sz + sz) (cells.take (off + (i + 1) * sz) ++ B' ++ cells.drop (off + (i + 1) * sz + B'.length)) = B' ++ cells.drop (off + (i + 1) * sz + B'.length) := by
    rw [List.append_assoc, show off + i * sz + sz = (cells.take (off + (i + 1) * sz)).length by omega, List.drop_left]
  rw [t1, t2, List.append_assoc]
theorem belsG_app {m : Nat} : ∀ {a b : List AV}, Bels m a → Bels m b → Bels m (a ++ b)
  | [], b, _, h => h
  | x :: a, b, h1, h2 => by simp only [Bels, List.cons_append] at h1 ⊢; exact ⟨h1.1, belsG_app h1.2 h2⟩
theorem belsG_mem {m : Nat} : ∀ {a : List AV}, Bels m a ↔ ∀ x ∈ a, Bel m x
  | [] => by simp [Bels]
  | x :: a => by simp only [Bels, List.mem_cons, forall_eq_or_imp, belsG_mem (a := a)]
/-- One element, anywhere. -/
theorem ins_ok {sz bytes : Nat} {zc : List AV} {f ov rot : FuncId} (h0 : 0 < sz) (hz : zc.length = sz) (hF : ∀ a0 a1 a2 H K, insF P sz bytes zc ov rot a0 a1 a2 H K → ACalls P f [a0, a1, a2] H K) {H : AH} {s : AV} {cs xs : List AV} {n oj i : Nat} (hs : sliceCells H sz s = some (cs, n)) (ho : ownedS s = true) (hcap : capOk s n) (hi : i ≤ n) (hn : n ≤ 1000000) (hby : bytes ≤ 1000000) (hv : H[oj]? = some (some (.cells xs))) (hxl : xs.length = sz) (hne : oj ∉ idS s)
    (hxb : ∀ m, Bels m xs) (hov : ∀ {o q l k : Nat} {cells : List AV}, H[o]? = some (some (.cells cells)) → oj ≠ o → k ≠ 0 → cells ≠ [] → ExtR P ov [.sl oj 0 1 sz (.ex 1), .sl o q l sz (.ex k)] H (B false)) :
    ∃ r H', InsG sz H s (cs.take (i * sz) ++ xs ++ cs.drop (i * sz)) n r H' ∧ BCall P f [s, I i, .sl oj 0 1 sz (.ex 1)] H r H' := by
  have hcl := sliceCells_len hs
  have hbb : (n + 1) * bytes ≤ 140737488355328 := Nat.le_trans (Nat.mul_le_mul (show n + 1 ≤ 1000001 by omega) hby) (by omega)
  rcases Nat.lt_or_ge i n with h | h
  · obtain ⟨o, off, cap, cells, rfl, hc, hl, rfl⟩ := owned_sl hs ho (by omega)
    have hoj : oj ≠ o := by simpa [idS] using hne
    have hol := (List.getElem?_eq_some_iff.1 hc).1
    have hmi : i * sz ≤ n * sz := Nat.mul_le_mul_right _ (by omega)
    have hmn : i * sz + (n - i) * sz = n * sz := by rw [← Nat.add_mul]; congr 1; omega
    have hmn1 : (n + 1) * sz = n * sz + sz := Nat.succ_mul _ _
    have hsz1 : sz ≤ n * sz := by have := Nat.mul_le_mul_right sz (show 1 ≤ n by omega); omega
    have hcne : cells ≠ [] := fun hh => by rw [hh] at hl; simp at hl; omega
    have e1 : ((cells.drop off).take (n * sz)).take (i * sz) = (cells.drop off).take (i * sz) := by rw [List.take_take]; congr 1; omega
    have e2 : ((cells.drop off).take (n * sz)).drop (i * sz) = (cells.drop (off + i * sz)).take ((n - i) * sz) := by rw [List.drop_take, List.drop_drop]; congr 1; omega
    rw [e1, e2]
    generalize hN : (cells.drop off).take (i * sz) ++ xs ++ (cells.drop (off + i * sz)).take ((n - i) * sz) = N
    have hNl : N.length = (n + 1) * sz := by
      rw [← hN, List.length_append, List.length_append, hxl, List.length_take, List.length_take, List.length_drop, List.length_drop]; omega
    have hall : ∀ c, n ≤ c → ACalls P f [.sl o off n sz (.ex c), I i, .sl oj 0 1 sz (.ex 1)] H fun r H' =>
        (r = .sl H.length 0 (n + 1) sz (.ge (n + 1)) ∧ H' = H ++ [some (.cells N)]) ∨ ∃ c rest, n + 1 ≤ c ∧ r = .sl o off (n + 1) sz (.ex c) ∧ H' = H.set o (some (.cells (cells.take off ++ N ++ rest))) := by
      intro c hcn
      rcases Nat.lt_or_ge n c with h' | h'
      · refine (hF _ _ _ _ _ (ins_place h0 hc hl h (by omega) h' hv hxl hoj fun q l k hk => hov hc hoj hk hcne)).mono ?_
        rintro r H' ⟨rfl, rest, rfl⟩
        refine .inr ⟨c, rest, h', rfl, ?_⟩
        congr 3
        rw [← hN, Nat.add_comm off (i * sz), Nat.add_comm (i * sz) off]
        have : cells.take (off + i * sz) = cells.take off ++ (cells.drop off).take (i * sz) := by rw [List.take_add]
        rw [this]
        simp [List.append_assoc]
      · have : c = n := by omega
        subst this
        refine (hF _ _ _ _ _ (ins_grow hz hc hl h (by omega) hv hxl hbb)).mono ?_
        rintro r H' ⟨rfl, rfl⟩
        exact .inl ⟨rfl, by rw [hN]⟩
    have hany : ACalls P f [.sl o off n sz cap, I i, .sl oj 0 1 sz (.ex 1)] H fun r H' =>
        (r = .sl H.length 0 (n + 1) sz (.ge (n + 1)) ∧ H' = H ++ [some (.cells N)]) ∨ ∃ c rest, n + 1 ≤ c ∧ r = .sl o off (n + 1) sz (.ex c) ∧ H' = H.set o (some (.cells (cells.take off ++ N ++ rest))) := by
      cases cap with
      | ge k => exact ACalls.room fun c _ h => hall c h
      | ex c => exact hall c (by simpa [capOk, Room.least] using hcap)
    refine ⟨.sl H.length 0 (n + 1) sz (.ge (n + 1)), H.set o none ++ [some (.cells N)], ⟨rfl, ?_, by simp, fun j hj hn => ?_, fun j hj => .inr (by simp [idS] at hj; omega), by simp [capOk, Room.least]⟩, ?_⟩
    · rw [sliceCells_sl (c := N) (by rw [List.getElem?_append_right (by simp)]; simp) (by omega)]
      rw [List.drop_zero, List.take_of_length_le (by omega)]
    · rw [List.getElem?_append_left (by simpa using hj), List.getElem?_set_ne (by simp [idS] at hn; omega)]
    refine ACalls.canon hany ?_
    rintro hb r1 H1 h1
    have hbN : Bels H.length N := by
      have hbc : Bels H.length cells := hb o _ hc
      rw [belsG_mem] at hbc
      rw [← hN]
      refine belsG_app (belsG_app ?_ (hxb _)) ?_
      · rw [belsG_mem]; exact fun a ha => hbc a (List.mem_of_mem_drop (List.mem_of_mem_take ha))
      · rw [belsG_mem]; exact fun a ha => hbc a (List.mem_of_mem_drop (List.mem_of_mem_take ha))
    rcases h1 with ⟨rfl, rfl⟩ | ⟨c, rest, hcn, rfl, rfl⟩
    · refine ⟨_, _, _, Canon.grown hb hbN, ?_⟩
      intro G v hG hr
      refine ⟨?_, fun p ℓ h => by cases h⟩
      simp only [VR] at hr ⊢
      obtain ⟨q0, a, c, rfl, hlc, hs⟩ := hr
      refine ⟨by simp [Cfg.ren], a, c, rfl, hlc, ?_⟩
      simpa [Cfg.ren, idR, noLim] using hs
    · have hcs : (n + 1) * sz ≤ c * sz := Nat.mul_le_mul_right _ hcn
      refine ⟨_, _, _, Canon.placed (off := off) (l := c * sz) hb hol hbN (cs1 := cells.take off ++ N ++ rest) ?_ ?_ ?_, ?_⟩
      · simp; omega
      · have : (cells.take off).length = off := by rw [List.length_take]; omega
        rw [List.append_assoc]
        conv => lhs; arg 2; arg 1; rw [← this]
        rw [List.drop_left, List.take_left]
      · rw [hNl]; omega
      · intro G v hG hr
        simp only [VR] at hr
        obtain ⟨q0, a, c', rfl, hlc, hs⟩ := hr
        simp only [SlAt] at hs
        obtain ⟨rfl, hs⟩ := hs
        have hs := hs.resolve_left (by omega)
        obtain ⟨rfl, hs2⟩ := hs
        have e : atR H.length o off H.length = (o, off) := if_pos rfl
        have e2 : atL' H.length (c' * sz) H.length = some (c' * sz) := if_pos rfl
        refine ⟨?_, ?_⟩
        · simp only [VR]
          refine ⟨by simp [Cfg.ren], _, c', rfl, by omega, ?_⟩
          simp only [SlAt]
          refine ⟨hcn, .inr ⟨by simp [Cfg.ren, e], ?_⟩⟩
          simp [Cfg.ren, e2]
        · intro p ℓ h
          unfold atL' at h
          split at h
          · rename_i hp
            injection h with h
            subst hp; subst h
            rw [e]; omega
          · cases h
  · have : i = n := by omega
    subst this
    have hx : appended H sz (.sl oj 0 1 sz (.ex 1)) = some (xs, 1) := appended_slice (by
      rw [show sz = 1 * sz by omega] at hxl
      rw [sliceCells_sl hv (by omega), List.drop_zero, List.take_of_length_le (by omega)])
    obtain ⟨r, H', h1, h2⟩ := ins_end (P := P) (zc := zc) (ov := ov) (rot := rot) hs ho hcap rfl hx hbb
    refine ⟨r, H', ?_, (hF _ _ _ _ _ h2)⟩
    rw [List.take_of_length_le (by omega), List.drop_of_length_le (by omega), List.append_nil]
    exact h1
end
end Go.Proofs.Ytpnfdibgfichmaa.Av
end
/-! YtpnfdibgfichmaaAvDel -/
section
/- slices.Delete of one element. -/
set_option linter.unusedVariables false
set_option linter.unusedSimpArgs false
set_option maxRecDepth 100000
namespace Go.Proofs.Ytpnfdibgfichmaa.Av
open Go Go.RowKit
/- What names no object belongs to any heap. -/
mutual
theorem noIds_belG {m : Nat} : ∀ {a : AV}, noIds a = true → Bel m a
  | .lit _, _ => by simp only [Bel]
  | .ptr .., h => by simp [noIds] at h
  | .ip cs, h => by simp only [noIds] at h; simp only [Bel]; exact noIdss_belG h
  | .sl .., h => by simp [noIds] at h
  | .imm cs _ _, h => by simp only [noIds] at h; simp only [Bel]; exact noIdss_belG h
  | .mp _, h => by simp [noIds] at h
  | .agg cs, h => by simp only [noIds] at h; simp only [Bel]; exact noIdss_belG h
  | .tup cs, h => by simp only [noIds] at h; simp only [Bel]; exact noIdss_belG h
  | .fn _ a b, h => by simp only [noIds, Bool.and_eq_true] at h; simp only [Bel]; exact ⟨noIdss_belG h.1, noIdss_belG h.2⟩
  | .emp, _ => by simp only [Bel]
  | .junk, _ => by simp only [Bel]
theorem noIdss_belG {m : Nat} : ∀ {xs : List AV}, noIdss xs = true → Bels m xs
  | [], _ => by simp only [Bels]
  | a :: r, h => by simp only [noIdss, Bool.and_eq_true] at h; simp only [Bels]; exact ⟨noIds_belG h.1, noIdss_belG h.2⟩
end
section
variable {P : Program}
/-- slices.Delete's text. -/
def delF (sz bytes : Nat) (zc : List AV) (a0 a1 a2 : AV) (H : AH) (K : AV → AH → Prop) : Prop :=
 bO (alnS a0) fun v0 =>
 bO (aslS sz a0 (some a1) (some a2) (some v0)) fun v1 =>
 bO (abI .eql a1 a2) fun v2 =>
 bB v2 fun t3 => bI t3 (
 K a0 H)
 (bO (alnS a0) fun v4 =>
 bO (aslS sz a0 none (some a1) none) fun v5 =>
 bO (aslS sz a0 (some a2) none none) fun v6 =>
 bH (aap sz bytes H v5 v6) fun v7 H8 =>
 bO (alnS v7) fun v9 =>
 bO (aslS sz v7 (some v9) (some v4) none) fun v10 =>
 bS (acl zc H8 v10) fun H11 =>
 K v7 H11)
/-- What Delete leaves. -/
def DelG (sz : Nat) (H : AH) (s : AV) (N : List AV) (n : Nat) (r : AV) (H' : AH) : Prop :=
  ownedS r = true ∧ sliceCells H' sz r = some (N, n) ∧ H'.length = H.length ∧ (∀ i, i ∉ idS s → H'[i]? = H[i]?) ∧ idS r = idS s ∧ capOk r n
theorem del_ok {sz bytes : Nat} {zc : List AV} (h0 : 0 < sz) (hz : zc.length = sz) {H : AH} {s : AV} {cs : List AV} {n i : Nat} (hs : sliceCells H sz s = some (cs, n + 1)) (ho : ownedS s = true) (hcap : capOk s (n + 1)) (hi : i ≤ n) (hn : n ≤ 1000000) (hby : bytes ≤ 1000000) :
    ∃ r H', DelG sz H s (cs.take (i * sz) ++ cs.drop ((i + 1) * sz)) n r H' ∧ delF sz bytes zc s (I i) (I ((i : Int) + 1)) H fun r' H'' => r' = r ∧ H'' = H' := by
  obtain ⟨o, off, cap, cells, rfl, hc, hl, rfl⟩ := owned_sl hs ho (by omega)
  have hol := (List.getElem?_eq_some_iff.1 hc).1
  have hms : (i + 1) * sz = i * sz + sz := Nat.succ_mul _ _
  have hns : (n + 1) * sz = n * sz + sz := Nat.succ_mul _ _
  have hmi : i * sz ≤ n * sz := Nat.mul_le_mul_right _ (by omega)
  have hmn : (i + 1) * sz + (n - i) * sz = (n + 1) * sz := by rw [← Nat.add_mul]; congr 1; omega
  obtain ⟨cap', hcap1, hcap2⟩ : ∃ cap', Room.cut (n + 1) 0 cap = cap' ∧ n + 1 ≤ cap'.least := by
    refine ⟨_, rfl, ?_⟩
    cases cap <;> simp_all [Room.cut, Room.least, capOk] <;> omega
  have hap : ∃ H8, aap sz bytes H (.sl o off i sz cap') (.sl o (off + (i + 1) * sz) (n - i) sz (cap.cut (n + 1) (i + 1))) = some (.sl o off n sz cap', H8) ∧ H8.length = H.length ∧ (∀ j, j ≠ o → H8[j]? = H[j]?) ∧ H8[o]? = some (some (.cells (over cells (off + i * sz) ((cells.drop (off + (i + 1) * sz)).take ((n - i) * sz))))) := by
    have e : appended H sz (.sl o (off + (i + 1) * sz) (n - i) sz (cap.cut (n + 1) (i + 1))) = some ((cells.drop (off + (i + 1) * sz)).take ((n - i) * sz), n - i) := appended_slice (by rw [sliceCells_sl hc (by omega)])
    unfold aap
    rw [e]
    simp only [aapp1, hc]
    rw [if_neg (by simp; omega)]
    have hin : i + (n - i) = n := by omega
    cases cap' with
    | ex k =>
      simp only [Room.least] at hcap2
      simp only [hin, show n ≤ k by omega, if_true]
      exact ⟨_, rfl, by simp, fun j hj => by rw [List.getElem?_set_ne (Ne.symm hj)], by simp [hol]⟩
    | ge k =>
      simp only [Room.least] at hcap2
      by_cases h : n - i = 0
      · have : i = n := by omega
        subst this
        simp only [h, if_true]
        refine ⟨_, rfl, rfl, fun _ _ => rfl, ?_⟩
        rw [hc]; simp [over]
      · simp only [h, if_false, hin, show n ≤ k by omega, if_true]
        exact ⟨_, rfl, by simp, fun j hj => by rw [List.getElem?_set_ne (Ne.symm hj)], by simp [hol]⟩
  obtain ⟨H8, hA, hL, hO, hC⟩ := hap
  have hDl : ((cells.drop (off + (i + 1) * sz)).take ((n - i) * sz)).length = (n - i) * sz := by rw [List.length_take, List.length_drop]; omega
  have hcl : (over cells (off + i * sz) ((cells.drop (off + (i + 1) * sz)).take ((n - i) * sz))).length = cells.length := over_len (by rw [hDl]; omega)
  have hol8 : o < H8.length := by omega
  refine ⟨.sl o off n sz cap', H8.set o (some (.cells (over (over cells (off + i * sz) ((cells.drop (off + (i + 1) * sz)).take ((n - i) * sz))) (off + n * sz) (zrow zc 1)))), ⟨rfl, ?_, ?_, fun j hj => ?_, rfl, by simp only [capOk]; omega⟩, ?_⟩
  rotate_left 3
  · unfold delF
    have q1 : ((i : Int) + 1) = ((i + 1 : Nat) : Int) := by omega
    have w1 : alnS (.sl o off (n + 1) sz cap) = some (I ((n + 1 : Nat) : Int)) := rfl
    have hcl' : n + 1 ≤ cap.least := hcap
    have w2 : ∃ v, aslS sz (.sl o off (n + 1) sz cap) (some (I i)) (some (I ((i + 1 : Nat) : Int))) (some (I ((n + 1 : Nat) : Int))) = some v := by
      refine ⟨.sl o (off + i * sz) (i + 1 - i) sz (.ex (n + 1 - i)), ?_⟩
      simp [aslS, abnd, goInt, show (0 : Int) ≤ (i : Int) + 1 by omega, show (0 : Int) ≤ (n : Int) + 1 by omega]
      omega
    obtain ⟨v, w2⟩ := w2
    have w3 : aslS sz (.sl o off (n + 1) sz cap) none (some (I i)) none = some (.sl o off i sz cap') := by
      rw [← hcap1]
      simp [aslS, abnd, goInt]
      omega
    have w4 : aslS sz (.sl o off (n + 1) sz cap) (some (I ((i + 1 : Nat) : Int))) none none = some (.sl o (off + (i + 1) * sz) (n - i) sz (cap.cut (n + 1) (i + 1))) := by
      have : ((i : Int) + 1) = ((i + 1 : Nat) : Int) := by omega
      simp [aslS, abnd, goInt, this, -Int.natCast_add]
      omega
    have w5 : aslS sz (.sl o off n sz cap') (some (I n)) (some (I ((n + 1 : Nat) : Int))) none = some (.sl o (off + n * sz) 1 sz (cap'.cut n n)) := by
      simp [aslS, abnd, goInt, show (0 : Int) ≤ (n : Int) + 1 by omega]
      omega
    have w6 : abI .eql (I i) (I ((i + 1 : Nat) : Int)) = some (B false) := by simp; omega
    rw [q1, w1]
    simp only [bO_some, w2, w6, bB_bool, bI_false, w3, w4, hA, bH_some, alnS, w5]
    have zl : (zrow zc 1).length = sz := by rw [zrow_length, hz]; omega
    have w7 : acl zc H8 (.sl o (off + n * sz) 1 sz (cap'.cut n n)) = some (H8.set o (some (.cells (over (over cells (off + i * sz) ((cells.drop (off + (i + 1) * sz)).take ((n - i) * sz))) (off + n * sz) (zrow zc 1))))) := by
      unfold acl
      simp only [hC]
      rw [if_pos ⟨hz, by omega, by omega⟩, if_neg (by omega), splice_eq _ _ _ (by omega)]
      rfl
    rw [w7]
    simp only [bS_some]
    exact ⟨trivial, trivial⟩
  · rw [sliceCells_sl (c := over (over cells (off + i * sz) ((cells.drop (off + (i + 1) * sz)).take ((n - i) * sz))) (off + n * sz) (zrow zc 1)) (by simp [hol8]) (by rw [over_len (by rw [zrow_length, hz]; omega)]; omega)]
    congr 2
    have e1 : ((cells.drop off).take ((n + 1) * sz)).take (i * sz) = (cells.drop off).take (i * sz) := by rw [List.take_take]; congr 1; omega
    have e2 : ((cells.drop off).take ((n + 1) * sz)).drop ((i + 1) * sz) = (cells.drop (off + (i + 1) * sz)).take ((n - i) * sz) := by rw [List.drop_take, List.drop_drop]; congr 1; omega
    rw [e1, e2]
    have e3 : (n : Nat) * sz = i * sz + (n - i) * sz := by rw [← Nat.add_mul]; congr 1; omega
    generalize (cells.drop (off + (i + 1) * sz)).take ((n - i) * sz) = D at *
    have h1 : ((over (over cells (off + i * sz) D) (off + n * sz) (zrow zc 1)).drop off).take (n * sz) = ((over cells (off + i * sz) D).drop off).take (n * sz) := by
      refine List.ext_getElem? fun k => ?_
      rw [List.getElem?_take, List.getElem?_take]
      by_cases c : k < n * sz
      · rw [if_pos c, if_pos c, List.getElem?_drop, List.getElem?_drop, over_get (by rw [zrow_length, hz]; omega), if_neg (by omega)]
      · rw [if_neg c, if_neg c]
    rw [h1, e3]
    have := (over_read cells off (i * sz) D (by omega)).1
    rw [hDl] at this
    exact this
  · simp [hL]
  · rw [List.getElem?_set_ne (by simp [idS] at hj; omega)]; exact hO j (by simpa [idS] using hj)
end
end Go.Proofs.Ytpnfdibgfichmaa.Av
end
/-! YtpnfdibgfichmaaAvEc -/
section
/- strings.Compare's inner call: what two texts are to one another. -/
set_option linter.unusedVariables false
namespace Go.Proofs.Ytpnfdibgfichmaa.Av
open Go Go.RowKit
theorem compareString_calls (a b : ByteArray) (H : AH) : ACalls Try.prog 83 [.lit (.string a), .lit (.string b)] H fun r H' => r = .lit (.int .i64 (Lib.compareBytes a.data.toList b.data.toList)) ∧ H' = H := by
  refine ACalls.of_body Try.func83 rfl ?_
  refine ACode.seq (ACode.region (AOps.op rfl rfl (AOps.nil ?_)))
  refine ACode.seq (ACode.region (AOps.op rfl rfl (AOps.op rfl rfl (AOps.extern rfl rfl (r := .lit (.int .i64 (Lib.compareBytes a.data.toList b.data.toList))) ?_ (AOps.op rfl rfl (AOps.nil ?_))))))
  · intro G vs hH hv
    have hv' : VRs G [.lit (.string a), .lit (.string b)] vs := hv
    simp only [VRs, VR] at hv'
    obtain ⟨_, _, rfl, rfl, _, _, rfl, rfl, rfl⟩ := hv'
    refine ⟨.int .i64 (Lib.compareBytes a.data.toList b.data.toList), ?_, by simp only [VR]⟩
    rw [run_callFunc_extern Try.func101 (by kernel_rfl) (by kernel_rfl) (by kernel_rfl) (e := Extern.BytealgCompare.compare) (by kernel_rfl),
      Lib.run_compareString (P := Try.prog) a b G.w]
    rfl
  · exact ACode.ret ⟨.inr rfl, _, rfl, rfl, rfl⟩
def cmpExt : CallFn := fun f args H => if f = 83 then match args with
    | [.lit (.string a), .lit (.string b)] => some (.lit (.int .i64 (Lib.compareBytes a.data.toList b.data.toList)), H)
    | _ => none
  else none
theorem cmpExt_ok : CallOk Try.prog cmpExt := by
  intro f args H r H' h
  unfold cmpExt at h
  split at h
  · rename_i hf
    subst hf
    split at h
    · injection h with h
      injection h with h1 h2
      subst h1; subst h2
      exact compareString_calls _ _ _
    · cases h
  · cases h
end Go.Proofs.Ytpnfdibgfichmaa.Av
end
/-! YtpnfdibgfichmaaPb -/
section
/- Formulas of functions of the program: printed by a program of this session (wip/tools/Pr.lean.txt), each checked by the kernel. -/
set_option linter.unusedVariables false
set_option maxRecDepth 100000
namespace Go.Proofs.Ytpnfdibgfichmaa.Av
open Go
def pqb : FuncId → Bool := inL [71,52,77,29,56,24,73,72,74,78,79,80,67,55,36,68,11,12,13,14,17,18,19,22,25,26,27,28,30,31,37,43,44,47,57,58,59,62,64,65,83]
def pqba : FuncId → Bool := inL [85,87]
/-! salvor/image.copied -/
def image_copied_fl : Floats := flOf []
def image_copied_kp : Nat → Option (List Bool) := kpOf []
def image_copied_c (p : List Bool) (n : Nat) : List AV → AH → Kf → Prop := sCode Try.prog image_copied_fl pqb none0 none0 image_copied_kp (sub p (bodyOf Try.f36)) n
def image_copied (a0 : AV) (H : AH) (K : AV → AH → Prop) : Prop :=
 bH (anew H a0) fun v0 H1 =>
 bH (anew H1 (.agg [(.lit (.int .i64 0)), (.lit (.slice none 0 0))])) fun v2 H3 =>
 bO (ashift 0 v0) fun v4 =>
 bO (ald false 1 H3 v4) fun v5 =>
 bO (ashift 1 v0) fun v6 =>
 bO (ald false 1 H3 v6) fun v7 =>
 bP (BPure Try.prog 68 [v7]) fun v8 =>
 bO (abl [(.lit (.int .i64 0)), (.lit (.slice none 0 0))] [(0, 1, v5), (1, 1, v8)]) fun v9 =>
 bS (ast 2 H3 v2 v9) fun H10 =>
 bO (ald true 2 H10 v2) fun v11 =>
 K v11 H10
theorem image_copied_eq (a0 : AV) (H : AH) (K : AV → AH → Prop) : sFun Try.prog image_copied_fl pqb none0 none0 image_copied_kp Try.f36 [a0] H K = image_copied a0 H K := by kernel_rfl
theorem image_copied_ok {a0 : AV} {H : AH} {K : AV → AH → Prop} (h : image_copied a0 H K) : ∃ r H', K r H' ∧ BCall Try.prog 36 [a0] H r H' :=
  sFun_ok mixP Try.func36 (by kernel_rfl) (Eq.mpr (image_copied_eq a0 H K) h)
/-! salvor/image.Find -/
def image_Find_fl : Floats := flOf []
def image_Find_kp : Nat → Option (List Bool) := kpOf []
def image_Find_c (p : List Bool) (n : Nat) : List AV → AH → Kf → Prop := sCode Try.prog image_Find_fl pqb none0 none0 image_Find_kp (sub p (bodyOf Try.f11)) n
def image_Find (a0 a1 : AV) (H : AH) (K : AV → AH → Prop) : Prop :=
 bH (anew H a0) fun v0 H1 =>
 bO (ald true 2 H1 v0) fun v2 =>
 bP (PCall Try.prog 22 [v2] H1) fun v3 =>
 bO (aun .not v3) fun v4 =>
 bB v4 fun t5 => bI t5 (
 K (.tup [(.lit (.int .i64 0)), (.lit (.bool false))]) H1)
 (bO (ald true 2 H1 v0) fun v6 =>
 bC (BCall Try.prog 34 [v6, a1] H1) fun v7 H8 =>
 bO (aextract v7 0) fun v9 =>
 bO (aextract v7 1) fun v10 =>
 bO (aun .not v10) fun v11 =>
 bB v11 fun t12 => bI t12 (
 K (.tup [(.lit (.int .i64 0)), (.lit (.bool false))]) H8)
 (bO (ashift 0 v0) fun v13 =>
 bO (ald false 1 H8 v13) fun v14 =>
 bO (aixS 2 v14 v9) fun v15 =>
 bO (ashift 1 v15) fun v16 =>
 bO (ald false 1 H8 v16) fun v17 =>
 K (.tup [v17, (.lit (.bool true))]) H8))
theorem image_Find_eq (a0 a1 : AV) (H : AH) (K : AV → AH → Prop) : sFun Try.prog image_Find_fl pqb none0 none0 image_Find_kp Try.f11 [a0, a1] H K = image_Find a0 a1 H K := by kernel_rfl
theorem image_Find_ok {a0 a1 : AV} {H : AH} {K : AV → AH → Prop} (h : image_Find a0 a1 H K) : ∃ r H', K r H' ∧ BCall Try.prog 11 [a0, a1] H r H' :=
  sFun_ok mixP Try.func11 (by kernel_rfl) (Eq.mpr (image_Find_eq a0 a1 H K) h)
/-! salvor/image.Get -/
def image_Get_fl : Floats := flOf []
def image_Get_kp : Nat → Option (List Bool) := kpOf []
def image_Get_c (p : List Bool) (n : Nat) : List AV → AH → Kf → Prop := sCode Try.prog image_Get_fl pqb none0 none0 image_Get_kp (sub p (bodyOf Try.f12)) n
def image_Get (a0 a1 : AV) (H : AH) (K : AV → AH → Prop) : Prop :=
 bH (anew H a0) fun v0 H1 =>
 bH (anew H1 (.agg [(.lit (.int .i64 0)), (.lit (.slice none 0 0))])) fun v2 H3 =>
 bO (ald true 2 H3 v0) fun v4 =>
 bP (PCall Try.prog 22 [v4] H3) fun v5 =>
 bO (aun .not v5) fun v6 =>
 bB v6 fun t7 => bI t7 (
 bO (abl [(.lit (.int .i64 0)), (.lit (.slice none 0 0))] []) fun v8 =>
 bS (ast 2 H3 v2 v8) fun H9 =>
 bO (ald true 2 H9 v2) fun v10 =>
 K (.tup [v10, (.lit (.bool false))]) H9)
 (bO (ald true 2 H3 v0) fun v11 =>
 bC (BCall Try.prog 35 [v11, a1] H3) fun v12 H13 =>
 bO (aextract v12 0) fun v14 =>
 bO (aextract v12 1) fun v15 =>
 bO (aun .not v15) fun v16 =>
 bB v16 fun t17 => bI t17 (
 bO (abl [(.lit (.int .i64 0)), (.lit (.slice none 0 0))] []) fun v18 =>
 bS (ast 2 H13 v2 v18) fun H19 =>
 bO (ald true 2 H19 v2) fun v20 =>
 K (.tup [v20, (.lit (.bool false))]) H19)
 (bO (ashift 1 v0) fun v21 =>
 bO (ald false 1 H13 v21) fun v22 =>
 bO (aixS 3 v22 v14) fun v23 =>
 bO (ashift 1 v23) fun v24 =>
 bO (ald true 2 H13 v24) fun v25 =>
 bP (PCall Try.prog 36 [v25] H13) fun v26 =>
 bS (ast 2 H13 v2 v26) fun H27 =>
 bO (ald true 2 H27 v2) fun v28 =>
 K (.tup [v28, (.lit (.bool true))]) H27))
theorem image_Get_eq (a0 a1 : AV) (H : AH) (K : AV → AH → Prop) : sFun Try.prog image_Get_fl pqb none0 none0 image_Get_kp Try.f12 [a0, a1] H K = image_Get a0 a1 H K := by kernel_rfl
theorem image_Get_ok {a0 a1 : AV} {H : AH} {K : AV → AH → Prop} (h : image_Get a0 a1 H K) : ∃ r H', K r H' ∧ BCall Try.prog 12 [a0, a1] H r H' :=
  sFun_ok mixP Try.func12 (by kernel_rfl) (Eq.mpr (image_Get_eq a0 a1 H K) h)
/-! salvor/image.Used -/
def image_Used_fl : Floats := flOf []
def image_Used_kp : Nat → Option (List Bool) := kpOf [(7, mk 24 0 [3, 10, 11, 12])]
def image_Used_c (p : List Bool) (n : Nat) : List AV → AH → Kf → Prop := sCode Try.prog image_Used_fl pqb none0 none0 image_Used_kp (sub p (bodyOf Try.f13)) n
def image_Used_L7 (x3 x10 x11 x12 : AV) (H : AH) (K : AV → AH → Prop) : Prop := lp (mk 24 0 [3, 10, 11, 12]) (image_Used_c [true, true, true, false, true, false, false] 8) [x3, x10, x11, x12] H (kBlk 0 (kSeq (image_Used_c [true, true, true, true] 12) (kRet Try.prog Try.f13.results.toList K)))
def image_Used_L7_b (R7 : List AV → AH → Prop) (x3 x10 x11 x12 : AV) (H : AH) (K : AV → AH → Prop) : Prop :=
 bO (abI .lss x12 x11) fun v0 =>
 bB v0 fun t1 => bI t1 (
 bO (aixS 3 x10 x12) fun v2 =>
 bO (ald true 3 H v2) fun v3 =>
 bH (anew H (.agg [(.lit (.int .i64 0)), (.lit (.int .i64 0)), (.lit (.slice none 0 0))])) fun v4 H5 =>
 bS (ast 3 H5 v4 v3) fun H6 =>
 bO (ashift 1 v4) fun v7 =>
 bO (ashift 1 v7) fun v8 =>
 bO (ald false 1 H6 v8) fun v9 =>
 bO (alnS v9) fun v10 =>
 bO (abI .add x3 v10) fun v11 =>
 bO (abI .add x12 (.lit (.int .i64 1))) fun v12 =>
 R7 [v11, x10, x11, v12] H6)
 (K x3 H)
theorem image_Used_L7_eq (R7 : List AV → AH → Prop) (x3 x10 x11 x12 : AV) (H : AH) (K : AV → AH → Prop) : image_Used_c [true, true, true, false, true, false, false] 8 (expand (mk 24 0 [3, 10, 11, 12]) [x3, x10, x11, x12]) H (kLp (mk 24 0 [3, 10, 11, 12]) R7 (kBlk 0 (kSeq (image_Used_c [true, true, true, true] 12) (kRet Try.prog Try.f13.results.toList K)))) = image_Used_L7_b R7 x3 x10 x11 x12 H K := by kernel_rfl
theorem image_Used_L7_rule {K : AV → AH → Prop} (I : Nat → AV → AV → AV → AV → AH → Prop) (round : ∀ (n : Nat) (x3 x10 x11 x12 : AV) (H : AH) (R : List AV → AH → Prop), (∀ (m : Nat) (y3 y10 y11 y12 : AV) (H' : AH), m < n → I m y3 y10 y11 y12 H' → R [y3, y10, y11, y12] H') → I n x3 x10 x11 x12 H → image_Used_L7_b R x3 x10 x11 x12 H K) (n : Nat) {x3 x10 x11 x12 : AV} {H : AH} (h : I n x3 x10 x11 x12 H) : image_Used_L7 x3 x10 x11 x12 H K := by
  refine lp_upto (sCode_one _ _) (LI4 I) ?_ n h
  intro n X H h
  obtain ⟨x3, x10, x11, x12, rfl, h⟩ := h.elim
  exact Eq.mpr (image_Used_L7_eq _ x3 x10 x11 x12 H K) (round n x3 x10 x11 x12 H (fun X H' => ∃ m, m < n ∧ LI4 I m X H') (fun m y3 y10 y11 y12 H' hm hi => ⟨m, hm, hi⟩) h)
def image_Used (a0 : AV) (H : AH) (K : AV → AH → Prop) : Prop :=
 bH (anew H a0) fun v0 H1 =>
 bO (ald true 2 H1 v0) fun v2 =>
 bP (PCall Try.prog 22 [v2] H1) fun v3 =>
 bO (aun .not v3) fun v4 =>
 bB v4 fun t5 => bI t5 (
 K (.lit (.int .i64 0)) H1)
 (bO (ashift 1 v0) fun v6 =>
 bO (ald false 1 H1 v6) fun v7 =>
 bO (alnS v7) fun v8 =>
 image_Used_L7 (.lit (.int .i64 0)) v7 v8 (.lit (.int .i64 0)) H1 K)
theorem image_Used_eq (a0 : AV) (H : AH) (K : AV → AH → Prop) : sFun Try.prog image_Used_fl pqb none0 none0 image_Used_kp Try.f13 [a0] H K = image_Used a0 H K := by kernel_rfl
theorem image_Used_ok {a0 : AV} {H : AH} {K : AV → AH → Prop} (h : image_Used a0 H K) : ∃ r H', K r H' ∧ BCall Try.prog 13 [a0] H r H' :=
  sFun_ok mixP Try.func13 (by kernel_rfl) (Eq.mpr (image_Used_eq a0 H K) h)
/-! salvor/image.MayName -/
def image_MayName_fl : Floats := flOf []
def image_MayName_kp : Nat → Option (List Bool) := kpOf [(6, mk 27 0 [0, 17, 18])]
def image_MayName_c (p : List Bool) (n : Nat) : List AV → AH → Kf → Prop := sCode Try.prog image_MayName_fl pqb none0 none0 image_MayName_kp (sub p (bodyOf Try.f14)) n
def image_MayName_L6 (x0 x17 x18 : AV) (H : AH) (K : AV → AH → Prop) : Prop := lp (mk 27 0 [0, 17, 18]) (image_MayName_c [true, true, false, true, false, false] 7) [x0, x17, x18] H (kBlk 0 (kSeq (image_MayName_c [true, true, true] 13) (kRet Try.prog Try.f14.results.toList K)))
def image_MayName_L6_b (R6 : List AV → AH → Prop) (x0 x17 x18 : AV) (H : AH) (K : AV → AH → Prop) : Prop :=
 bO (abI .lss x18 x17) fun v0 =>
 bB v0 fun t1 => bI t1 (
 bO (aivT x0 x18) fun v2 =>
 bP (PCall Try.prog 37 [v2] H) fun v3 =>
 bO (aun .not v3) fun v4 =>
 bB v4 fun t5 => bI t5 (
 K (.lit (.bool false)) H)
 (bO (abI .add x18 (.lit (.int .i64 1))) fun v6 =>
 R6 [x0, x17, v6] H))
 (K (.lit (.bool true)) H)
theorem image_MayName_L6_eq (R6 : List AV → AH → Prop) (x0 x17 x18 : AV) (H : AH) (K : AV → AH → Prop) : image_MayName_c [true, true, false, true, false, false] 7 (expand (mk 27 0 [0, 17, 18]) [x0, x17, x18]) H (kLp (mk 27 0 [0, 17, 18]) R6 (kBlk 0 (kSeq (image_MayName_c [true, true, true] 13) (kRet Try.prog Try.f14.results.toList K)))) = image_MayName_L6_b R6 x0 x17 x18 H K := by kernel_rfl
theorem image_MayName_L6_rule {K : AV → AH → Prop} (I : Nat → AV → AV → AV → AH → Prop) (round : ∀ (n : Nat) (x0 x17 x18 : AV) (H : AH) (R : List AV → AH → Prop), (∀ (m : Nat) (y0 y17 y18 : AV) (H' : AH), m < n → I m y0 y17 y18 H' → R [y0, y17, y18] H') → I n x0 x17 x18 H → image_MayName_L6_b R x0 x17 x18 H K) (n : Nat) {x0 x17 x18 : AV} {H : AH} (h : I n x0 x17 x18 H) : image_MayName_L6 x0 x17 x18 H K := by
  refine lp_upto (sCode_one _ _) (LI3 I) ?_ n h
  intro n X H h
  obtain ⟨x0, x17, x18, rfl, h⟩ := h.elim
  exact Eq.mpr (image_MayName_L6_eq _ x0 x17 x18 H K) (round n x0 x17 x18 H (fun X H' => ∃ m, m < n ∧ LI3 I m X H') (fun m y0 y17 y18 H' hm hi => ⟨m, hm, hi⟩) h)
def image_MayName (a0 : AV) (H : AH) (K : AV → AH → Prop) : Prop :=
 bO (abT .eql a0 (.lit (.string ⟨#[]⟩))) fun v0 =>
 bG v0 false fun w1 =>
 gO w1 (some a0) fun v2 =>
 bG v0 false fun w3 =>
 gO w3 (alnT v2) fun v4 =>
 bG v0 false fun w5 =>
 gO w5 (abI .gtr v4 (.lit (.int .i64 20))) fun v6 =>
 bO (apick v0 (.lit (.bool true)) v6) fun v7 =>
 bG v7 false fun w8 =>
 gO w8 (some a0) fun v9 =>
 bG v7 false fun w10 =>
 gO w10 (aivT v9 (.lit (.int .i64 0))) fun v11 =>
 bG v7 false fun w12 =>
 gO w12 (abI .eql v11 (.lit (.int .u8 45))) fun v13 =>
 bO (apick v7 (.lit (.bool true)) v13) fun v14 =>
 bB v14 fun t15 => bI t15 (
 K (.lit (.bool false)) H)
 (bO (alnT a0) fun v16 =>
 image_MayName_L6 a0 v16 (.lit (.int .i64 0)) H K)
theorem image_MayName_eq (a0 : AV) (H : AH) (K : AV → AH → Prop) : sFun Try.prog image_MayName_fl pqb none0 none0 image_MayName_kp Try.f14 [a0] H K = image_MayName a0 H K := by kernel_rfl
theorem image_MayName_ok {a0 : AV} {H : AH} {K : AV → AH → Prop} (h : image_MayName a0 H K) : ∃ r H', K r H' ∧ BCall Try.prog 14 [a0] H r H' :=
  sFun_ok mixP Try.func14 (by kernel_rfl) (Eq.mpr (image_MayName_eq a0 H K) h)
/-! salvor/salvorref11.SameImage -/
def salvorref11_SameImage_fl : Floats := flOf []
def salvorref11_SameImage_kp : Nat → Option (List Bool) := kpOf [(14, mk 77 0 [2, 3, 6]), (6, mk 77 0 [2, 3, 5])]
def salvorref11_SameImage_c (p : List Bool) (n : Nat) : List AV → AH → Kf → Prop := sCode Try.prog salvorref11_SameImage_fl pqb none0 none0 salvorref11_SameImage_kp (sub p (bodyOf Try.f17)) n
def salvorref11_SameImage_L14 (x2 x3 x6 : AV) (H : AH) (K : AV → AH → Prop) : Prop := lp (mk 77 0 [2, 3, 6]) (salvorref11_SameImage_c [true, true, true, false, true, false, false] 15) [x2, x3, x6] H (kBlk 2 (kSeq (salvorref11_SameImage_c [true, true, true, true] 20) (kRet Try.prog Try.f17.results.toList K)))
def salvorref11_SameImage_L6 (x2 x3 x5 : AV) (H : AH) (K : AV → AH → Prop) : Prop := lp (mk 77 0 [2, 3, 5]) (salvorref11_SameImage_c [true, true, false, true, false, false] 7) [x2, x3, x5] H (kBlk 0 (kSeq (salvorref11_SameImage_c [true, true, true] 12) (kRet Try.prog Try.f17.results.toList K)))
def salvorref11_SameImage_L14_b (R14 : List AV → AH → Prop) (x2 x3 x6 : AV) (H : AH) (K : AV → AH → Prop) : Prop :=
 bO (ashift 1 x2) fun v0 =>
 bO (ald false 1 H v0) fun v1 =>
 bO (alnS v1) fun v2 =>
 bO (abI .lss x6 v2) fun v3 =>
 bB v3 fun t4 => bI t4 (
 bO (ashift 1 x2) fun v5 =>
 bO (ald false 1 H v5) fun v6 =>
 bO (aixS 3 v6 x6) fun v7 =>
 bO (ashift 0 v7) fun v8 =>
 bO (ald false 1 H v8) fun v9 =>
 bO (ashift 1 x3) fun v10 =>
 bO (ald false 1 H v10) fun v11 =>
 bO (aixS 3 v11 x6) fun v12 =>
 bO (ashift 0 v12) fun v13 =>
 bO (ald false 1 H v13) fun v14 =>
 bO (abI .neq v9 v14) fun v15 =>
 bG v15 false fun w16 =>
 gO w16 (ashift 1 x2) fun v17 =>
 bG v15 false fun w18 =>
 gO w18 (ald false 1 H v17) fun v19 =>
 bG v15 false fun w20 =>
 gO w20 (some x6) fun v21 =>
 bG v15 false fun w22 =>
 gO w22 (aixS 3 v19 v21) fun v23 =>
 bG v15 false fun w24 =>
 gO w24 (ashift 1 v23) fun v25 =>
 bG v15 false fun w26 =>
 gO w26 (ald true 2 H v25) fun v27 =>
 bG v15 false fun w28 =>
 gO w28 (ashift 1 x3) fun v29 =>
 bG v15 false fun w30 =>
 gO w30 (ald false 1 H v29) fun v31 =>
 bG v15 false fun w32 =>
 gO w32 (some x6) fun v33 =>
 bG v15 false fun w34 =>
 gO w34 (aixS 3 v31 v33) fun v35 =>
 bG v15 false fun w36 =>
 gO w36 (ashift 1 v35) fun v37 =>
 bG v15 false fun w38 =>
 gO w38 (ald true 2 H v37) fun v39 =>
 bG v15 false fun w40 =>
 gP w40 (BPure Try.prog 29 [v27, v39]) fun v41 =>
 bG v15 false fun w42 =>
 gO w42 (aun .not v41) fun v43 =>
 bO (apick v15 (.lit (.bool true)) v43) fun v44 =>
 bB v44 fun t45 => bI t45 (
 K (.lit (.bool false)) H)
 (bO (abI .add x6 (.lit (.int .i64 1))) fun v46 =>
 R14 [x2, x3, v46] H))
 (K (.lit (.bool true)) H)
theorem salvorref11_SameImage_L14_eq (R14 : List AV → AH → Prop) (x2 x3 x6 : AV) (H : AH) (K : AV → AH → Prop) : salvorref11_SameImage_c [true, true, true, false, true, false, false] 15 (expand (mk 77 0 [2, 3, 6]) [x2, x3, x6]) H (kLp (mk 77 0 [2, 3, 6]) R14 (kBlk 2 (kSeq (salvorref11_SameImage_c [true, true, true, true] 20) (kRet Try.prog Try.f17.results.toList K)))) = salvorref11_SameImage_L14_b R14 x2 x3 x6 H K := by kernel_rfl
theorem salvorref11_SameImage_L14_rule {K : AV → AH → Prop} (I : Nat → AV → AV → AV → AH → Prop) (round : ∀ (n : Nat) (x2 x3 x6 : AV) (H : AH) (R : List AV → AH → Prop), (∀ (m : Nat) (y2 y3 y6 : AV) (H' : AH), m < n → I m y2 y3 y6 H' → R [y2, y3, y6] H') → I n x2 x3 x6 H → salvorref11_SameImage_L14_b R x2 x3 x6 H K) (n : Nat) {x2 x3 x6 : AV} {H : AH} (h : I n x2 x3 x6 H) : salvorref11_SameImage_L14 x2 x3 x6 H K := by
  refine lp_upto (sCode_one _ _) (LI3 I) ?_ n h
  intro n X H h
  obtain ⟨x2, x3, x6, rfl, h⟩ := h.elim
  exact Eq.mpr (salvorref11_SameImage_L14_eq _ x2 x3 x6 H K) (round n x2 x3 x6 H (fun X H' => ∃ m, m < n ∧ LI3 I m X H') (fun m y2 y3 y6 H' hm hi => ⟨m, hm, hi⟩) h)
def salvorref11_SameImage_L6_b (R6 : List AV → AH → Prop) (x2 x3 x5 : AV) (H : AH) (K : AV → AH → Prop) : Prop :=
 bO (ashift 0 x2) fun v0 =>
 bO (ald false 1 H v0) fun v1 =>
 bO (alnS v1) fun v2 =>
 bO (abI .lss x5 v2) fun v3 =>
 bB v3 fun t4 => bI t4 (
 bO (ashift 0 x2) fun v5 =>
 bO (ald false 1 H v5) fun v6 =>
 bO (aixS 2 v6 x5) fun v7 =>
 bO (ald true 2 H v7) fun v8 =>
 bO (ashift 0 x3) fun v9 =>
 bO (ald false 1 H v9) fun v10 =>
 bO (aixS 2 v10 x5) fun v11 =>
 bO (ald true 2 H v11) fun v12 =>
 bO (abin Try.prog .neq 57 v8 v12) fun v13 =>
 bB v13 fun t14 => bI t14 (
 K (.lit (.bool false)) H)
 (bO (abI .add x5 (.lit (.int .i64 1))) fun v15 =>
 R6 [x2, x3, v15] H))
 (salvorref11_SameImage_L14 x2 x3 (.lit (.int .i64 0)) H K)
theorem salvorref11_SameImage_L6_eq (R6 : List AV → AH → Prop) (x2 x3 x5 : AV) (H : AH) (K : AV → AH → Prop) : salvorref11_SameImage_c [true, true, false, true, false, false] 7 (expand (mk 77 0 [2, 3, 5]) [x2, x3, x5]) H (kLp (mk 77 0 [2, 3, 5]) R6 (kBlk 0 (kSeq (salvorref11_SameImage_c [true, true, true] 12) (kRet Try.prog Try.f17.results.toList K)))) = salvorref11_SameImage_L6_b R6 x2 x3 x5 H K := by kernel_rfl
theorem salvorref11_SameImage_L6_rule {K : AV → AH → Prop} (I : Nat → AV → AV → AV → AH → Prop) (round : ∀ (n : Nat) (x2 x3 x5 : AV) (H : AH) (R : List AV → AH → Prop), (∀ (m : Nat) (y2 y3 y5 : AV) (H' : AH), m < n → I m y2 y3 y5 H' → R [y2, y3, y5] H') → I n x2 x3 x5 H → salvorref11_SameImage_L6_b R x2 x3 x5 H K) (n : Nat) {x2 x3 x5 : AV} {H : AH} (h : I n x2 x3 x5 H) : salvorref11_SameImage_L6 x2 x3 x5 H K := by
  refine lp_upto (sCode_one _ _) (LI3 I) ?_ n h
  intro n X H h
  obtain ⟨x2, x3, x5, rfl, h⟩ := h.elim
  exact Eq.mpr (salvorref11_SameImage_L6_eq _ x2 x3 x5 H K) (round n x2 x3 x5 H (fun X H' => ∃ m, m < n ∧ LI3 I m X H') (fun m y2 y3 y5 H' hm hi => ⟨m, hm, hi⟩) h)
def salvorref11_SameImage (a0 a1 : AV) (H : AH) (K : AV → AH → Prop) : Prop :=
 bH (anew H a0) fun v0 H1 =>
 bH (anew H1 a1) fun v2 H3 =>
 bO (ashift 0 v0) fun v4 =>
 bO (ald false 1 H3 v4) fun v5 =>
 bO (alnS v5) fun v6 =>
 bO (ashift 0 v2) fun v7 =>
 bO (ald false 1 H3 v7) fun v8 =>
 bO (alnS v8) fun v9 =>
 bO (abI .neq v6 v9) fun v10 =>
 bG v10 false fun w11 =>
 gO w11 (ashift 1 v0) fun v12 =>
 bG v10 false fun w13 =>
 gO w13 (ald false 1 H3 v12) fun v14 =>
 bG v10 false fun w15 =>
 gO w15 (alnS v14) fun v16 =>
 bG v10 false fun w17 =>
 gO w17 (ashift 1 v2) fun v18 =>
 bG v10 false fun w19 =>
 gO w19 (ald false 1 H3 v18) fun v20 =>
 bG v10 false fun w21 =>
 gO w21 (alnS v20) fun v22 =>
 bG v10 false fun w23 =>
 gO w23 (abI .neq v16 v22) fun v24 =>
 bO (apick v10 (.lit (.bool true)) v24) fun v25 =>
 bB v25 fun t26 => bI t26 (
 K (.lit (.bool false)) H3)
 (salvorref11_SameImage_L6 v0 v2 (.lit (.int .i64 0)) H3 K)
theorem salvorref11_SameImage_eq (a0 a1 : AV) (H : AH) (K : AV → AH → Prop) : sFun Try.prog salvorref11_SameImage_fl pqb none0 none0 salvorref11_SameImage_kp Try.f17 [a0, a1] H K = salvorref11_SameImage a0 a1 H K := by kernel_rfl
theorem salvorref11_SameImage_ok {a0 a1 : AV} {H : AH} {K : AV → AH → Prop} (h : salvorref11_SameImage a0 a1 H K) : ∃ r H', K r H' ∧ BCall Try.prog 17 [a0, a1] H r H' :=
  sFun_ok mixP Try.func17 (by kernel_rfl) (Eq.mpr (salvorref11_SameImage_eq a0 a1 H K) h)
/-! salvor/image.Apply -/
def image_Apply_fl : Floats := flOf []
def image_Apply_kp : Nat → Option (List Bool) := kpOf [(13, mk 37 0 [2, 3, 4, 31]), (12, mk 37 0 [2, 3, 4, 12, 24]), (8, mk 37 0 [2, 3, 4, 12, 17]), (5, mk 37 0 [2, 4])]
def image_Apply_c (p : List Bool) (n : Nat) : List AV → AH → Kf → Prop := sCode Try.prog image_Apply_fl pqb none0 none0 image_Apply_kp (sub p (bodyOf Try.f18)) n
def image_Apply_J5 (x2 x4 : AV) (H : AH) (K : AV → AH → Prop) : Prop := jn (mk 37 0 [2, 4]) (image_Apply_c [true, true, true, true] 14) [x2, x4] H (kRet Try.prog Try.f18.results.toList K)
def image_Apply_J13 (x2 x3 x4 x31 : AV) (H : AH) (K : AV → AH → Prop) : Prop := jn (mk 37 0 [2, 3, 4, 31]) (image_Apply_c [true, true, true, false, true, false, true, true, true, true, true, true, true] 14) [x2, x3, x4, x31] H (kBlk 0 (kSeq (cutC (mk 37 0 [2, 4]) (image_Apply_c [true, true, true, true] 14)) (kRet Try.prog Try.f18.results.toList K)))
def image_Apply_J12 (x2 x3 x4 x12 x24 : AV) (H : AH) (K : AV → AH → Prop) : Prop := jn (mk 37 0 [2, 3, 4, 12, 24]) (image_Apply_c [true, true, true, false, true, false, true, true, true, true, true] 13) [x2, x3, x4, x12, x24] H (kBlk 0 (kSeq (cutC (mk 37 0 [2, 4]) (image_Apply_c [true, true, true, true] 14)) (kRet Try.prog Try.f18.results.toList K)))
def image_Apply_J8 (x2 x3 x4 x12 x17 : AV) (H : AH) (K : AV → AH → Prop) : Prop := jn (mk 37 0 [2, 3, 4, 12, 17]) (image_Apply_c [true, true, true, false, true, false, true, true, true] 12) [x2, x3, x4, x12, x17] H (kBlk 0 (kSeq (cutC (mk 37 0 [2, 4]) (image_Apply_c [true, true, true, true] 14)) (kRet Try.prog Try.f18.results.toList K)))
def image_Apply_J5_b (x2 x4 : AV) (H : AH) (K : AV → AH → Prop) : Prop :=
 bO (ald true 2 H x2) fun v0 =>
 bS (ast 2 H x4 v0) fun H1 =>
 bO (ald true 2 H1 x4) fun v2 =>
 K v2 H1
theorem image_Apply_J5_eq0 (x2 x4 : AV) (H : AH) (K : AV → AH → Prop) : image_Apply_c [true, true, true, true] 14 (expand (mk 37 0 [2, 4]) [x2, x4]) H (kRet Try.prog Try.f18.results.toList K) = image_Apply_J5_b x2 x4 H K := by kernel_rfl
theorem image_Apply_J5_eq (x2 x4 : AV) (H : AH) (K : AV → AH → Prop) : image_Apply_J5 x2 x4 H K = image_Apply_J5_b x2 x4 H K := (jn_eq _ _ _ _ _).trans (image_Apply_J5_eq0 x2 x4 H K)
def image_Apply_J13_b (x2 x3 x4 x31 : AV) (H : AH) (K : AV → AH → Prop) : Prop :=
 bB x31 fun t0 => bI t0 (
 bO (ashift 5 x3) fun v1 =>
 bO (ald false 1 H v1) fun v2 =>
 bC (BCall Try.prog 41 [x2, v2] H) fun v3 H4 =>
 image_Apply_J5 x2 x4 H4 K)
 (image_Apply_J5 x2 x4 H K)
theorem image_Apply_J13_eq0 (x2 x3 x4 x31 : AV) (H : AH) (K : AV → AH → Prop) : image_Apply_c [true, true, true, false, true, false, true, true, true, true, true, true, true] 14 (expand (mk 37 0 [2, 3, 4, 31]) [x2, x3, x4, x31]) H (kBlk 0 (kSeq (cutC (mk 37 0 [2, 4]) (image_Apply_c [true, true, true, true] 14)) (kRet Try.prog Try.f18.results.toList K))) = image_Apply_J13_b x2 x3 x4 x31 H K := by kernel_rfl
theorem image_Apply_J13_eq (x2 x3 x4 x31 : AV) (H : AH) (K : AV → AH → Prop) : image_Apply_J13 x2 x3 x4 x31 H K = image_Apply_J13_b x2 x3 x4 x31 H K := (jn_eq _ _ _ _ _).trans (image_Apply_J13_eq0 x2 x3 x4 x31 H K)
def image_Apply_J12_b (x2 x3 x4 x12 x24 : AV) (H : AH) (K : AV → AH → Prop) : Prop :=
 bB x24 fun t0 => bI t0 (
 bO (ashift 5 x3) fun v1 =>
 bO (ald false 1 H v1) fun v2 =>
 bO (ashift 6 x3) fun v3 =>
 bO (ald false 1 H v3) fun v4 =>
 bC (BCall Try.prog 40 [x2, v2, v4] H) fun v5 H6 =>
 image_Apply_J5 x2 x4 H6 K)
 (bO (abI .eql x12 (.lit (.int .i64 7))) fun v7 =>
 image_Apply_J13 x2 x3 x4 v7 H K)
theorem image_Apply_J12_eq0 (x2 x3 x4 x12 x24 : AV) (H : AH) (K : AV → AH → Prop) : image_Apply_c [true, true, true, false, true, false, true, true, true, true, true] 13 (expand (mk 37 0 [2, 3, 4, 12, 24]) [x2, x3, x4, x12, x24]) H (kBlk 0 (kSeq (cutC (mk 37 0 [2, 4]) (image_Apply_c [true, true, true, true] 14)) (kRet Try.prog Try.f18.results.toList K))) = image_Apply_J12_b x2 x3 x4 x12 x24 H K := by kernel_rfl
theorem image_Apply_J12_eq (x2 x3 x4 x12 x24 : AV) (H : AH) (K : AV → AH → Prop) : image_Apply_J12 x2 x3 x4 x12 x24 H K = image_Apply_J12_b x2 x3 x4 x12 x24 H K := (jn_eq _ _ _ _ _).trans (image_Apply_J12_eq0 x2 x3 x4 x12 x24 H K)
def image_Apply_J8_b (x2 x3 x4 x12 x17 : AV) (H : AH) (K : AV → AH → Prop) : Prop :=
 bB x17 fun t0 => bI t0 (
 bO (ald true 8 H x3) fun v1 =>
 bC (BCall Try.prog 39 [x2, v1] H) fun v2 H3 =>
 image_Apply_J5 x2 x4 H3 K)
 (bO (abI .eql x12 (.lit (.int .i64 6))) fun v4 =>
 image_Apply_J12 x2 x3 x4 x12 v4 H K)
theorem image_Apply_J8_eq0 (x2 x3 x4 x12 x17 : AV) (H : AH) (K : AV → AH → Prop) : image_Apply_c [true, true, true, false, true, false, true, true, true] 12 (expand (mk 37 0 [2, 3, 4, 12, 17]) [x2, x3, x4, x12, x17]) H (kBlk 0 (kSeq (cutC (mk 37 0 [2, 4]) (image_Apply_c [true, true, true, true] 14)) (kRet Try.prog Try.f18.results.toList K))) = image_Apply_J8_b x2 x3 x4 x12 x17 H K := by kernel_rfl
theorem image_Apply_J8_eq (x2 x3 x4 x12 x17 : AV) (H : AH) (K : AV → AH → Prop) : image_Apply_J8 x2 x3 x4 x12 x17 H K = image_Apply_J8_b x2 x3 x4 x12 x17 H K := (jn_eq _ _ _ _ _).trans (image_Apply_J8_eq0 x2 x3 x4 x12 x17 H K)
def image_Apply (a0 a1 : AV) (H : AH) (K : AV → AH → Prop) : Prop :=
 bH (anew H a0) fun v0 H1 =>
 bH (anew H1 a1) fun v2 H3 =>
 bH (anew H3 (.agg [(.lit (.slice none 0 0)), (.lit (.slice none 0 0))])) fun v4 H5 =>
 bO (ald true 2 H5 v0) fun v6 =>
 bC (BCall Try.prog 33 [v6] H5) fun v7 H8 =>
 bS (ast 2 H8 v0 v7) fun H9 =>
 bO (ald true 2 H9 v0) fun v10 =>
 bP (PCall Try.prog 22 [v10] H9) fun v11 =>
 bO (aun .not v11) fun v12 =>
 bB v12 fun t13 => bI t13 (
 bO (ald true 2 H9 v0) fun v14 =>
 bS (ast 2 H9 v4 v14) fun H15 =>
 bO (ald true 2 H15 v4) fun v16 =>
 K v16 H15)
 (bO (ashift 0 v2) fun v17 =>
 bO (ald false 1 H9 v17) fun v18 =>
 bO (abI .eql v18 (.lit (.int .i64 1))) fun v19 =>
 bB v19 fun t20 => bI t20 (
 bO (ald true 8 H9 v2) fun v21 =>
 bC (BCall Try.prog 38 [v0, v21] H9) fun v22 H23 =>
 image_Apply_J5 v0 v4 H23 K)
 (bO (abI .eql v18 (.lit (.int .i64 2))) fun v24 =>
 bB v24 fun t25 => bI t25 (
 image_Apply_J8 v0 v2 v4 v18 v24 H9 K)
 (bO (abI .eql v18 (.lit (.int .i64 3))) fun v26 =>
 bB v26 fun t27 => bI t27 (
 image_Apply_J8 v0 v2 v4 v18 v26 H9 K)
 (bO (abI .eql v18 (.lit (.int .i64 4))) fun v28 =>
 bB v28 fun t29 => bI t29 (
 image_Apply_J8 v0 v2 v4 v18 v28 H9 K)
 (bO (abI .eql v18 (.lit (.int .i64 5))) fun v30 =>
 image_Apply_J8 v0 v2 v4 v18 v30 H9 K)))))
theorem image_Apply_eq (a0 a1 : AV) (H : AH) (K : AV → AH → Prop) : sFun Try.prog image_Apply_fl pqb none0 none0 image_Apply_kp Try.f18 [a0, a1] H K = image_Apply a0 a1 H K := by kernel_rfl
theorem image_Apply_ok {a0 a1 : AV} {H : AH} {K : AV → AH → Prop} (h : image_Apply a0 a1 H K) : ∃ r H', K r H' ∧ BCall Try.prog 18 [a0, a1] H r H' :=
  sFun_ok mixP Try.func18 (by kernel_rfl) (Eq.mpr (image_Apply_eq a0 a1 H K) h)
/-! salvor/salvorref11.Apply -/
def salvorref11_Apply_fl : Floats := flOf [(7, [(1, some 11), (5, some 11), (6, some 11)])]
def salvorref11_Apply_kp : Nat → Option (List Bool) := kpOf [(22, mk 171 0 [2, 3, 4, 5, 8]), (20, mk 171 0 [2, 3, 4, 5, 8]), (5, mk 171 0 [4, 5]), (12, mk 171 0 [3, 4, 5, 6])]
def salvorref11_Apply_c (p : List Bool) (n : Nat) : List AV → AH → Kf → Prop := sCode Try.prog salvorref11_Apply_fl pqb none0 none0 salvorref11_Apply_kp (sub p (bodyOf Try.f19)) n
def salvorref11_Apply_J5 (x4 x5 : AV) (H : AH) (K : AV → AH → Prop) : Prop := jn (mk 171 0 [4, 5]) (salvorref11_Apply_c [true, true, true, true] 29) [x4, x5] H (kRet Try.prog Try.f19.results.toList K)
def salvorref11_Apply_L12 (x3 x4 x5 x6 : AV) (H : AH) (K : AV → AH → Prop) : Prop := lp (mk 171 0 [3, 4, 5, 6]) (salvorref11_Apply_c [true, true, true, false, true, false, true, false, true, false, true, true, false, false, false] 13) [x3, x4, x5, x6] H (kBlk 1 (kSeq (salvorref11_Apply_c [true, true, true, false, true, false, true, false, true, false, true, true, true] 15) (kBlk 0 (kSeq (cutC (mk 171 0 [4, 5]) (salvorref11_Apply_c [true, true, true, true] 29)) (kRet Try.prog Try.f19.results.toList K)))))
def salvorref11_Apply_J22 (x2 x3 x4 x5 x8 : AV) (H : AH) (K : AV → AH → Prop) : Prop := jn (mk 171 0 [2, 3, 4, 5, 8]) (salvorref11_Apply_c [true, true, true, false, true, false, true, true, true, false, true, true, false, true, true] 23) [x2, x3, x4, x5, x8] H (kBlk 0 (kSeq (cutC (mk 171 0 [4, 5]) (salvorref11_Apply_c [true, true, true, true] 29)) (kRet Try.prog Try.f19.results.toList K)))
def salvorref11_Apply_J20 (x2 x3 x4 x5 x8 : AV) (H : AH) (K : AV → AH → Prop) : Prop := jn (mk 171 0 [2, 3, 4, 5, 8]) (salvorref11_Apply_c [true, true, true, false, true, false, true, true, true, false, true, true, false, true] 22) [x2, x3, x4, x5, x8] H (kBlk 0 (kSeq (cutC (mk 171 0 [4, 5]) (salvorref11_Apply_c [true, true, true, true] 29)) (kRet Try.prog Try.f19.results.toList K)))
def salvorref11_Apply_J5_b (x4 x5 : AV) (H : AH) (K : AV → AH → Prop) : Prop :=
 bO (ald true 2 H x5) fun v0 =>
 bS (ast 2 H x4 v0) fun H1 =>
 bO (ald true 2 H1 x4) fun v2 =>
 K v2 H1
theorem salvorref11_Apply_J5_eq0 (x4 x5 : AV) (H : AH) (K : AV → AH → Prop) : salvorref11_Apply_c [true, true, true, true] 29 (expand (mk 171 0 [4, 5]) [x4, x5]) H (kRet Try.prog Try.f19.results.toList K) = salvorref11_Apply_J5_b x4 x5 H K := by kernel_rfl
theorem salvorref11_Apply_J5_eq (x4 x5 : AV) (H : AH) (K : AV → AH → Prop) : salvorref11_Apply_J5 x4 x5 H K = salvorref11_Apply_J5_b x4 x5 H K := (jn_eq _ _ _ _ _).trans (salvorref11_Apply_J5_eq0 x4 x5 H K)
def salvorref11_Apply_L12_b (R12 : List AV → AH → Prop) (x3 x4 x5 x6 : AV) (H : AH) (K : AV → AH → Prop) : Prop :=
 bO (ashift 1 x5) fun v0 =>
 bO (ald false 1 H v0) fun v1 =>
 bO (alnS v1) fun v2 =>
 bO (abI .lss x6 v2) fun v3 =>
 bG v3 true fun w4 =>
 gO w4 (ashift 1 x5) fun v5 =>
 bG v3 true fun w6 =>
 gO w6 (ald false 1 H v5) fun v7 =>
 bG v3 true fun w8 =>
 gO w8 (some x6) fun v9 =>
 bG v3 true fun w10 =>
 gO w10 (aixS 3 v7 v9) fun v11 =>
 bG v3 true fun w12 =>
 gO w12 (ashift 0 v11) fun v13 =>
 bG v3 true fun w14 =>
 gO w14 (ald false 1 H v13) fun v15 =>
 bG v3 true fun w16 =>
 gO w16 (ashift 1 x3) fun v17 =>
 bG v3 true fun w18 =>
 gO w18 (ald false 1 H v17) fun v19 =>
 bG v3 true fun w20 =>
 gO w20 (abI .lss v15 v19) fun v21 =>
 bO (apick v3 v21 (.lit (.bool false))) fun v22 =>
 bB v22 fun t23 => bI t23 (
 bO (abI .add x6 (.lit (.int .i64 1))) fun v24 =>
 R12 [x3, x4, x5, v24] H)
 (bO (ashift 1 x5) fun v25 =>
 bO (ald false 1 H v25) fun v26 =>
 bO (aslS 3 v26 none (some x6) none) fun v27 =>
 bH (aap 3 40 H (.lit (.slice none 0 0)) v27) fun v28 H29 =>
 bO (ashift 1 x3) fun v30 =>
 bO (ald false 1 H29 v30) fun v31 =>
 bO (abl [(.lit (.int .i64 0)), (.lit (.int .i64 0)), (.lit (.slice none 0 0))] [(0, 1, v31)]) fun v32 =>
 bH (absl H29 3 1 (zrow [(.lit (.int .i64 0)), (.lit (.int .i64 0)), (.lit (.slice none 0 0))] 1) [(0, 3, v32)]) fun v33 H34 =>
 bH (aap 3 40 H34 v28 v33) fun v35 H36 =>
 bO (ashift 1 x5) fun v37 =>
 bO (ald false 1 H36 v37) fun v38 =>
 bO (aslS 3 v38 (some x6) none none) fun v39 =>
 bH (aap 3 40 H36 v35 v39) fun v40 H41 =>
 bO (ashift 1 x5) fun v42 =>
 bS (ast 1 H41 v42 v40) fun H43 =>
 salvorref11_Apply_J5 x4 x5 H43 K)
theorem salvorref11_Apply_L12_eq (R12 : List AV → AH → Prop) (x3 x4 x5 x6 : AV) (H : AH) (K : AV → AH → Prop) : salvorref11_Apply_c [true, true, true, false, true, false, true, false, true, false, true, true, false, false, false] 13 (expand (mk 171 0 [3, 4, 5, 6]) [x3, x4, x5, x6]) H (kLp (mk 171 0 [3, 4, 5, 6]) R12 (kBlk 1 (kSeq (salvorref11_Apply_c [true, true, true, false, true, false, true, false, true, false, true, true, true] 15) (kBlk 0 (kSeq (cutC (mk 171 0 [4, 5]) (salvorref11_Apply_c [true, true, true, true] 29)) (kRet Try.prog Try.f19.results.toList K)))))) = salvorref11_Apply_L12_b R12 x3 x4 x5 x6 H K := by kernel_rfl
theorem salvorref11_Apply_L12_rule {K : AV → AH → Prop} (I : Nat → AV → AV → AV → AV → AH → Prop) (round : ∀ (n : Nat) (x3 x4 x5 x6 : AV) (H : AH) (R : List AV → AH → Prop), (∀ (m : Nat) (y3 y4 y5 y6 : AV) (H' : AH), m < n → I m y3 y4 y5 y6 H' → R [y3, y4, y5, y6] H') → I n x3 x4 x5 x6 H → salvorref11_Apply_L12_b R x3 x4 x5 x6 H K) (n : Nat) {x3 x4 x5 x6 : AV} {H : AH} (h : I n x3 x4 x5 x6 H) : salvorref11_Apply_L12 x3 x4 x5 x6 H K := by
  refine lp_upto (sCode_one _ _) (LI4 I) ?_ n h
  intro n X H h
  obtain ⟨x3, x4, x5, x6, rfl, h⟩ := h.elim
  exact Eq.mpr (salvorref11_Apply_L12_eq _ x3 x4 x5 x6 H K) (round n x3 x4 x5 x6 H (fun X H' => ∃ m, m < n ∧ LI4 I m X H') (fun m y3 y4 y5 y6 H' hm hi => ⟨m, hm, hi⟩) h)
def salvorref11_Apply_J22_b (x2 x3 x4 x5 x8 : AV) (H : AH) (K : AV → AH → Prop) : Prop :=
 bO (ashift 6 x3) fun v0 =>
 bO (ald false 1 H v0) fun v1 =>
 bO (ashift 0 x2) fun v2 =>
 bO (ald false 1 H v2) fun v3 =>
 bO (aixS 2 v3 x8) fun v4 =>
 bO (ashift 1 v4) fun v5 =>
 bO (ald false 1 H v5) fun v6 =>
 bC (BCall Try.prog 45 [x5, v1, v6] H) fun v7 H8 =>
 salvorref11_Apply_J5 x4 x5 H8 K
theorem salvorref11_Apply_J22_eq0 (x2 x3 x4 x5 x8 : AV) (H : AH) (K : AV → AH → Prop) : salvorref11_Apply_c [true, true, true, false, true, false, true, true, true, false, true, true, false, true, true] 23 (expand (mk 171 0 [2, 3, 4, 5, 8]) [x2, x3, x4, x5, x8]) H (kBlk 0 (kSeq (cutC (mk 171 0 [4, 5]) (salvorref11_Apply_c [true, true, true, true] 29)) (kRet Try.prog Try.f19.results.toList K))) = salvorref11_Apply_J22_b x2 x3 x4 x5 x8 H K := by kernel_rfl
theorem salvorref11_Apply_J22_eq (x2 x3 x4 x5 x8 : AV) (H : AH) (K : AV → AH → Prop) : salvorref11_Apply_J22 x2 x3 x4 x5 x8 H K = salvorref11_Apply_J22_b x2 x3 x4 x5 x8 H K := (jn_eq _ _ _ _ _).trans (salvorref11_Apply_J22_eq0 x2 x3 x4 x5 x8 H K)
def salvorref11_Apply_J20_b (x2 x3 x4 x5 x8 : AV) (H : AH) (K : AV → AH → Prop) : Prop :=
 bO (ashift 5 x3) fun v0 =>
 bO (ald false 1 H v0) fun v1 =>
 bC (BCall Try.prog 46 [x5, v1, (.lit (.bool false))] H) fun v2 H3 =>
 salvorref11_Apply_J22 x2 x3 x4 x5 x8 H3 K
theorem salvorref11_Apply_J20_eq0 (x2 x3 x4 x5 x8 : AV) (H : AH) (K : AV → AH → Prop) : salvorref11_Apply_c [true, true, true, false, true, false, true, true, true, false, true, true, false, true] 22 (expand (mk 171 0 [2, 3, 4, 5, 8]) [x2, x3, x4, x5, x8]) H (kBlk 0 (kSeq (cutC (mk 171 0 [4, 5]) (salvorref11_Apply_c [true, true, true, true] 29)) (kRet Try.prog Try.f19.results.toList K))) = salvorref11_Apply_J20_b x2 x3 x4 x5 x8 H K := by kernel_rfl
theorem salvorref11_Apply_J20_eq (x2 x3 x4 x5 x8 : AV) (H : AH) (K : AV → AH → Prop) : salvorref11_Apply_J20 x2 x3 x4 x5 x8 H K = salvorref11_Apply_J20_b x2 x3 x4 x5 x8 H K := (jn_eq _ _ _ _ _).trans (salvorref11_Apply_J20_eq0 x2 x3 x4 x5 x8 H K)
def salvorref11_Apply (a0 a1 : AV) (H : AH) (K : AV → AH → Prop) : Prop :=
 bH (anew H a0) fun v0 H1 =>
 bH (anew H1 a1) fun v2 H3 =>
 bH (anew H3 (.agg [(.lit (.slice none 0 0)), (.lit (.slice none 0 0))])) fun v4 H5 =>
 bO (ald true 2 H5 v0) fun v6 =>
 bC (BCall Try.prog 42 [v6] H5) fun v7 H8 =>
 bH (anew H8 (.agg [(.lit (.slice none 0 0)), (.lit (.slice none 0 0))])) fun v9 H10 =>
 bS (ast 2 H10 v9 v7) fun H11 =>
 bO (ald true 2 H11 v0) fun v12 =>
 bP (PCall Try.prog 28 [v12] H11) fun v13 =>
 bO (aun .not v13) fun v14 =>
 bB v14 fun t15 => bI t15 (
 bO (ald true 2 H11 v9) fun v16 =>
 bS (ast 2 H11 v4 v16) fun H17 =>
 bO (ald true 2 H17 v4) fun v18 =>
 K v18 H17)
 (bO (ashift 0 v2) fun v19 =>
 bO (ald false 1 H11 v19) fun v20 =>
 bO (abI .eql v20 (.lit (.int .i64 1))) fun v21 =>
 bB v21 fun t22 => bI t22 (
 bO (ashift 5 v2) fun v23 =>
 bO (ald false 1 H11 v23) fun v24 =>
 bP (PCall Try.prog 27 [v24] H11) fun v25 =>
 bG v25 true fun w26 =>
 gO w26 (ald true 2 H11 v0) fun v27 =>
 bG v25 true fun w28 =>
 gO w28 (ashift 5 v2) fun v29 =>
 bG v25 true fun w30 =>
 gO w30 (ald false 1 H11 v29) fun v31 =>
 bG v25 true fun w32 =>
 gP w32 (PCall Try.prog 43 [v27, v31] H11) fun v33 =>
 bG v25 true fun w34 =>
 gO w34 (abI .lss v33 (.lit (.int .i64 0))) fun v35 =>
 bO (apick v25 v35 (.lit (.bool false))) fun v36 =>
 bG v36 true fun w37 =>
 gO w37 (ashift 1 v2) fun v38 =>
 bG v36 true fun w39 =>
 gO w39 (ald false 1 H11 v38) fun v40 =>
 bG v36 true fun w41 =>
 gO w41 (abI .geq v40 (.lit (.int .i64 1))) fun v42 =>
 bO (apick v36 v42 (.lit (.bool false))) fun v43 =>
 bG v43 true fun w44 =>
 gO w44 (ashift 1 v2) fun v45 =>
 bG v43 true fun w46 =>
 gO w46 (ald false 1 H11 v45) fun v47 =>
 bG v43 true fun w48 =>
 gO w48 (abI .leq v47 (.lit (.int .i64 4611686018427387904))) fun v49 =>
 bO (apick v43 v49 (.lit (.bool false))) fun v50 =>
 bG v50 true fun w51 =>
 gO w51 (ald true 2 H11 v0) fun v52 =>
 bG v50 true fun w53 =>
 gO w53 (ashift 1 v2) fun v54 =>
 bG v50 true fun w55 =>
 gO w55 (ald false 1 H11 v54) fun v56 =>
 bG v50 true fun w57 =>
 gP w57 (PCall Try.prog 44 [v52, v56] H11) fun v58 =>
 bG v50 true fun w59 =>
 gO w59 (abI .lss v58 (.lit (.int .i64 0))) fun v60 =>
 bO (apick v50 v60 (.lit (.bool false))) fun v61 =>
 bG v61 true fun w62 =>
 gO w62 (ashift 0 v0) fun v63 =>
 bG v61 true fun w64 =>
 gO w64 (ald false 1 H11 v63) fun v65 =>
 bG v61 true fun w66 =>
 gO w66 (alnS v65) fun v67 =>
 bG v61 true fun w68 =>
 gO w68 (abI .lss v67 (.lit (.int .i64 16))) fun v69 =>
 bO (apick v61 v69 (.lit (.bool false))) fun v70 =>
 bB v70 fun t71 => bI t71 (
 bO (ashift 5 v2) fun v72 =>
 bO (ald false 1 H11 v72) fun v73 =>
 bO (ashift 1 v2) fun v74 =>
 bO (ald false 1 H11 v74) fun v75 =>
 bC (BCall Try.prog 45 [v9, v73, v75] H11) fun v76 H77 =>
 salvorref11_Apply_L12 v2 v4 v9 (.lit (.int .i64 0)) H77 K)
 (salvorref11_Apply_J5 v4 v9 H11 K))
 (bO (abI .eql v20 (.lit (.int .i64 6))) fun v78 =>
 bB v78 fun t79 => bI t79 (
 bO (ald true 2 H11 v0) fun v80 =>
 bO (ashift 5 v2) fun v81 =>
 bO (ald false 1 H11 v81) fun v82 =>
 bP (PCall Try.prog 43 [v80, v82] H11) fun v83 =>
 bO (abI .geq v83 (.lit (.int .i64 0))) fun v84 =>
 bG v84 true fun w85 =>
 gO w85 (ashift 6 v2) fun v86 =>
 bG v84 true fun w87 =>
 gO w87 (ald false 1 H11 v86) fun v88 =>
 bG v84 true fun w89 =>
 gP w89 (PCall Try.prog 27 [v88] H11) fun v90 =>
 bO (apick v84 v90 (.lit (.bool false))) fun v91 =>
 bG v91 true fun w92 =>
 gO w92 (ashift 6 v2) fun v93 =>
 bG v91 true fun w94 =>
 gO w94 (ald false 1 H11 v93) fun v95 =>
 bG v91 true fun w96 =>
 gO w96 (ashift 5 v2) fun v97 =>
 bG v91 true fun w98 =>
 gO w98 (ald false 1 H11 v97) fun v99 =>
 bG v91 true fun w100 =>
 gO w100 (abT .neq v95 v99) fun v101 =>
 bO (apick v91 v101 (.lit (.bool false))) fun v102 =>
 bB v102 fun t103 => bI t103 (
 bO (ald true 2 H11 v9) fun v104 =>
 bO (ashift 6 v2) fun v105 =>
 bO (ald false 1 H11 v105) fun v106 =>
 bP (PCall Try.prog 43 [v104, v106] H11) fun v107 =>
 bO (abI .geq v107 (.lit (.int .i64 0))) fun v108 =>
 bB v108 fun t109 => bI t109 (
 bO (ashift 6 v2) fun v110 =>
 bO (ald false 1 H11 v110) fun v111 =>
 bC (BCall Try.prog 46 [v9, v111, (.lit (.bool true))] H11) fun v112 H113 =>
 salvorref11_Apply_J20 v0 v2 v4 v9 v83 H113 K)
 (salvorref11_Apply_J20 v0 v2 v4 v9 v83 H11 K))
 (salvorref11_Apply_J5 v4 v9 H11 K))
 (bO (abI .eql v20 (.lit (.int .i64 7))) fun v114 =>
 bB v114 fun t115 => bI t115 (
 bO (ald true 2 H11 v0) fun v116 =>
 bO (ashift 5 v2) fun v117 =>
 bO (ald false 1 H11 v117) fun v118 =>
 bP (PCall Try.prog 43 [v116, v118] H11) fun v119 =>
 bO (abI .geq v119 (.lit (.int .i64 0))) fun v120 =>
 bB v120 fun t121 => bI t121 (
 bO (ashift 5 v2) fun v122 =>
 bO (ald false 1 H11 v122) fun v123 =>
 bC (BCall Try.prog 46 [v9, v123, (.lit (.bool true))] H11) fun v124 H125 =>
 salvorref11_Apply_J5 v4 v9 H125 K)
 (salvorref11_Apply_J5 v4 v9 H11 K))
 (bO (ald true 2 H11 v0) fun v126 =>
 bO (ashift 1 v2) fun v127 =>
 bO (ald false 1 H11 v127) fun v128 =>
 bP (PCall Try.prog 44 [v126, v128] H11) fun v129 =>
 bO (abI .geq v129 (.lit (.int .i64 0))) fun v130 =>
 bB v130 fun t131 => bI t131 (
 bO (ashift 1 v0) fun v132 =>
 bO (ald false 1 H11 v132) fun v133 =>
 bO (aixS 3 v133 v129) fun v134 =>
 bO (ashift 1 v134) fun v135 =>
 bO (ald true 2 H11 v135) fun v136 =>
 bO (ald true 8 H11 v2) fun v137 =>
 bP (BPure Try.prog 47 [v136, v137]) fun v138 =>
 bO (aextract v138 0) fun v139 =>
 bO (aextract v138 1) fun v140 =>
 bH (anew H11 (.agg [(.lit (.int .i64 0)), (.lit (.slice none 0 0))])) fun v141 H142 =>
 bS (ast 2 H142 v141 v139) fun H143 =>
(ald false 1 H142 v132 = some v133) ∧
(ald true 2 H142 v135 = some v136) ∧
(ald true 8 H142 v2 = some v137) ∧
 bB v140 fun t144 => bI t144 (
 bO (ashift 1 v9) fun v145 =>
 bO (ald false 1 H143 v145) fun v146 =>
 bO (ald true 2 H143 v141) fun v147 =>
 bO (aixS 3 v146 v129) fun v148 =>
 bO (ashift 1 v148) fun v149 =>
 bS (ast 2 H143 v149 v147) fun H150 =>
 salvorref11_Apply_J5 v4 v9 H150 K)
 (salvorref11_Apply_J5 v4 v9 H143 K))
 (salvorref11_Apply_J5 v4 v9 H11 K)))))
theorem salvorref11_Apply_eq (a0 a1 : AV) (H : AH) (K : AV → AH → Prop) : sFun Try.prog salvorref11_Apply_fl pqb none0 none0 salvorref11_Apply_kp Try.f19 [a0, a1] H K = salvorref11_Apply a0 a1 H K := by kernel_rfl
theorem salvorref11_Apply_ok {a0 a1 : AV} {H : AH} {K : AV → AH → Prop} (h : salvorref11_Apply a0 a1 H K) : ∃ r H', K r H' ∧ BCall Try.prog 19 [a0, a1] H r H' :=
  sFun_ok mixP Try.func19 (by kernel_rfl) (Eq.mpr (salvorref11_Apply_eq a0 a1 H K) h)
/-! salvor/image.May -/
def image_May_fl : Floats := flOf []
def image_May_kp : Nat → Option (List Bool) := kpOf [(8, mk 51 0 [3, 5, 25, 26, 27])]
def image_May_c (p : List Bool) (n : Nat) : List AV → AH → Kf → Prop := sCode Try.prog image_May_fl pqb none0 none0 image_May_kp (sub p (bodyOf Try.f22)) n
def image_May_L8 (x3 x5 x25 x26 x27 : AV) (H : AH) (K : AV → AH → Prop) : Prop := lp (mk 51 0 [3, 5, 25, 26, 27]) (image_May_c [true, true, true, true, false, true, false, false] 9) [x3, x5, x25, x26, x27] H (kBlk 0 (kSeq (image_May_c [true, true, true, true, true] 16) (kRet Try.prog Try.f22.results.toList K)))
def image_May_L8_b (R8 : List AV → AH → Prop) (x3 x5 x25 x26 x27 : AV) (H : AH) (K : AV → AH → Prop) : Prop :=
 bO (abI .lss x27 x26) fun v0 =>
 bB v0 fun t1 => bI t1 (
 bO (aixS 3 x25 x27) fun v2 =>
 bO (ald true 3 H v2) fun v3 =>
 bH (anew H (.agg [(.lit (.int .i64 0)), (.lit (.int .i64 0)), (.lit (.slice none 0 0))])) fun v4 H5 =>
 bS (ast 3 H5 v4 v3) fun H6 =>
 bO (ashift 0 v4) fun v7 =>
 bO (ald false 1 H6 v7) fun v8 =>
 bO (abI .leq v8 x5) fun v9 =>
 bG v9 false fun w10 =>
 gO w10 (some x3) fun v11 =>
 bG v9 false fun w12 =>
 gO w12 (ashift 0 v4) fun v13 =>
 bG v9 false fun w14 =>
 gO w14 (ald false 1 H6 v13) fun v15 =>
 bG v9 false fun w16 =>
 gO w16 (alk (.int .i64) (.bool false) H6 v11 v15 false) fun v17 =>
 bG v9 false fun w18 =>
 gO w18 (aun .not v17) fun v19 =>
 bO (apick v9 (.lit (.bool true)) v19) fun v20 =>
 bG v20 false fun w21 =>
 gO w21 (ashift 1 v4) fun v22 =>
 bG v20 false fun w23 =>
 gO w23 (ald true 2 H6 v22) fun v24 =>
 bG v20 false fun w25 =>
 gP w25 (PCall Try.prog 52 [v24] H6) fun v26 =>
 bG v20 false fun w27 =>
 gO w27 (aun .not v26) fun v28 =>
 bO (apick v20 (.lit (.bool true)) v28) fun v29 =>
 bB v29 fun t30 => bI t30 (
 K (.lit (.bool false)) H6)
 (bO (ashift 0 v4) fun v31 =>
 bO (ald false 1 H6 v31) fun v32 =>
 bO (abI .add x27 (.lit (.int .i64 1))) fun v33 =>
 R8 [x3, v32, x25, x26, v33] H6))
 (K (.lit (.bool true)) H)
theorem image_May_L8_eq (R8 : List AV → AH → Prop) (x3 x5 x25 x26 x27 : AV) (H : AH) (K : AV → AH → Prop) : image_May_c [true, true, true, true, false, true, false, false] 9 (expand (mk 51 0 [3, 5, 25, 26, 27]) [x3, x5, x25, x26, x27]) H (kLp (mk 51 0 [3, 5, 25, 26, 27]) R8 (kBlk 0 (kSeq (image_May_c [true, true, true, true, true] 16) (kRet Try.prog Try.f22.results.toList K)))) = image_May_L8_b R8 x3 x5 x25 x26 x27 H K := by kernel_rfl
theorem image_May_L8_rule {K : AV → AH → Prop} (I : Nat → AV → AV → AV → AV → AV → AH → Prop) (round : ∀ (n : Nat) (x3 x5 x25 x26 x27 : AV) (H : AH) (R : List AV → AH → Prop), (∀ (m : Nat) (y3 y5 y25 y26 y27 : AV) (H' : AH), m < n → I m y3 y5 y25 y26 y27 H' → R [y3, y5, y25, y26, y27] H') → I n x3 x5 x25 x26 x27 H → image_May_L8_b R x3 x5 x25 x26 x27 H K) (n : Nat) {x3 x5 x25 x26 x27 : AV} {H : AH} (h : I n x3 x5 x25 x26 x27 H) : image_May_L8 x3 x5 x25 x26 x27 H K := by
  refine lp_upto (sCode_one _ _) (LI5 I) ?_ n h
  intro n X H h
  obtain ⟨x3, x5, x25, x26, x27, rfl, h⟩ := h.elim
  exact Eq.mpr (image_May_L8_eq _ x3 x5 x25 x26 x27 H K) (round n x3 x5 x25 x26 x27 H (fun X H' => ∃ m, m < n ∧ LI5 I m X H') (fun m y3 y5 y25 y26 y27 H' hm hi => ⟨m, hm, hi⟩) h)
def image_May (a0 : AV) (H : AH) (K : AV → AH → Prop) : Prop :=
 bH (anew H a0) fun v0 H1 =>
 bO (ashift 0 v0) fun v2 =>
 bO (ald false 1 H1 v2) fun v3 =>
 bC (BCall Try.prog 51 [v3] H1) fun v4 H5 =>
 bO (aextract v4 0) fun v6 =>
 bO (aextract v4 1) fun v7 =>
 bO (aun .not v7) fun v8 =>
 bG v8 false fun w9 =>
 gO w9 (ashift 1 v0) fun v10 =>
 bG v8 false fun w11 =>
 gO w11 (ald false 1 H5 v10) fun v12 =>
 bG v8 false fun w13 =>
 gO w13 (alnS v12) fun v14 =>
 bG v8 false fun w15 =>
 gO w15 (some v6) fun v16 =>
 bG v8 false fun w17 =>
 gO w17 (alnM H5 v16) fun v18 =>
 bG v8 false fun w19 =>
 gO w19 (abI .neq v14 v18) fun v20 =>
 bO (apick v8 (.lit (.bool true)) v20) fun v21 =>
 bB v21 fun t22 => bI t22 (
 K (.lit (.bool false)) H5)
 (bO (ashift 1 v0) fun v23 =>
 bO (ald false 1 H5 v23) fun v24 =>
 bO (alnS v24) fun v25 =>
 image_May_L8 v6 (.lit (.int .i64 0)) v24 v25 (.lit (.int .i64 0)) H5 K)
theorem image_May_eq (a0 : AV) (H : AH) (K : AV → AH → Prop) : sFun Try.prog image_May_fl pqb none0 none0 image_May_kp Try.f22 [a0] H K = image_May a0 H K := by kernel_rfl
theorem image_May_ok {a0 : AV} {H : AH} {K : AV → AH → Prop} (h : image_May a0 H K) : ∃ r H', K r H' ∧ BCall Try.prog 22 [a0] H r H' :=
  sFun_ok mixP Try.func22 (by kernel_rfl) (Eq.mpr (image_May_eq a0 H K) h)
/-! salvor/salvorref11.Find -/
def salvorref11_Find_fl : Floats := flOf []
def salvorref11_Find_kp : Nat → Option (List Bool) := kpOf []
def salvorref11_Find_c (p : List Bool) (n : Nat) : List AV → AH → Kf → Prop := sCode Try.prog salvorref11_Find_fl pqb none0 none0 salvorref11_Find_kp (sub p (bodyOf Try.f25)) n
def salvorref11_Find (a0 a1 : AV) (H : AH) (K : AV → AH → Prop) : Prop :=
 bH (anew H a0) fun v0 H1 =>
 bO (ald true 2 H1 v0) fun v2 =>
 bP (PCall Try.prog 43 [v2, a1] H1) fun v3 =>
 bO (ald true 2 H1 v0) fun v4 =>
 bP (PCall Try.prog 28 [v4] H1) fun v5 =>
 bO (aun .not v5) fun v6 =>
 bG v6 false fun w7 =>
 gO w7 (some v3) fun v8 =>
 bG v6 false fun w9 =>
 gO w9 (abI .lss v8 (.lit (.int .i64 0))) fun v10 =>
 bO (apick v6 (.lit (.bool true)) v10) fun v11 =>
 bB v11 fun t12 => bI t12 (
 K (.tup [(.lit (.int .i64 0)), (.lit (.bool false))]) H1)
 (bO (ashift 0 v0) fun v13 =>
 bO (ald false 1 H1 v13) fun v14 =>
 bO (aixS 2 v14 v3) fun v15 =>
 bO (ashift 1 v15) fun v16 =>
 bO (ald false 1 H1 v16) fun v17 =>
 K (.tup [v17, (.lit (.bool true))]) H1)
theorem salvorref11_Find_eq (a0 a1 : AV) (H : AH) (K : AV → AH → Prop) : sFun Try.prog salvorref11_Find_fl pqb none0 none0 salvorref11_Find_kp Try.f25 [a0, a1] H K = salvorref11_Find a0 a1 H K := by kernel_rfl
theorem salvorref11_Find_ok {a0 a1 : AV} {H : AH} {K : AV → AH → Prop} (h : salvorref11_Find a0 a1 H K) : ∃ r H', K r H' ∧ BCall Try.prog 25 [a0, a1] H r H' :=
  sFun_ok mixP Try.func25 (by kernel_rfl) (Eq.mpr (salvorref11_Find_eq a0 a1 H K) h)
/-! salvor/salvorref11.Get -/
def salvorref11_Get_fl : Floats := flOf []
def salvorref11_Get_kp : Nat → Option (List Bool) := kpOf []
def salvorref11_Get_c (p : List Bool) (n : Nat) : List AV → AH → Kf → Prop := sCode Try.prog salvorref11_Get_fl pqb none0 none0 salvorref11_Get_kp (sub p (bodyOf Try.f26)) n
def salvorref11_Get (a0 a1 : AV) (H : AH) (K : AV → AH → Prop) : Prop :=
 bH (anew H a0) fun v0 H1 =>
 bH (anew H1 (.agg [(.lit (.int .i64 0)), (.lit (.slice none 0 0))])) fun v2 H3 =>
 bO (ald true 2 H3 v0) fun v4 =>
 bP (PCall Try.prog 44 [v4, a1] H3) fun v5 =>
 bO (ald true 2 H3 v0) fun v6 =>
 bP (PCall Try.prog 28 [v6] H3) fun v7 =>
 bO (aun .not v7) fun v8 =>
 bG v8 false fun w9 =>
 gO w9 (some v5) fun v10 =>
 bG v8 false fun w11 =>
 gO w11 (abI .lss v10 (.lit (.int .i64 0))) fun v12 =>
 bO (apick v8 (.lit (.bool true)) v12) fun v13 =>
 bB v13 fun t14 => bI t14 (
 bO (abl [(.lit (.int .i64 0)), (.lit (.slice none 0 0))] []) fun v15 =>
 bS (ast 2 H3 v2 v15) fun H16 =>
 bO (ald true 2 H16 v2) fun v17 =>
 K (.tup [v17, (.lit (.bool false))]) H16)
 (bO (ashift 1 v0) fun v18 =>
 bO (ald false 1 H3 v18) fun v19 =>
 bO (aixS 3 v19 v5) fun v20 =>
 bO (ashift 1 v20) fun v21 =>
 bO (ald true 2 H3 v21) fun v22 =>
 bP (PCall Try.prog 55 [v22] H3) fun v23 =>
 bS (ast 2 H3 v2 v23) fun H24 =>
 bO (ald true 2 H24 v2) fun v25 =>
 K (.tup [v25, (.lit (.bool true))]) H24)
theorem salvorref11_Get_eq (a0 a1 : AV) (H : AH) (K : AV → AH → Prop) : sFun Try.prog salvorref11_Get_fl pqb none0 none0 salvorref11_Get_kp Try.f26 [a0, a1] H K = salvorref11_Get a0 a1 H K := by kernel_rfl
theorem salvorref11_Get_ok {a0 a1 : AV} {H : AH} {K : AV → AH → Prop} (h : salvorref11_Get a0 a1 H K) : ∃ r H', K r H' ∧ BCall Try.prog 26 [a0, a1] H r H' :=
  sFun_ok mixP Try.func26 (by kernel_rfl) (Eq.mpr (salvorref11_Get_eq a0 a1 H K) h)
/-! salvor/salvorref11.MayName -/
def salvorref11_MayName_fl : Floats := flOf []
def salvorref11_MayName_kp : Nat → Option (List Bool) := kpOf [(3, mk 52 0 [0, 3])]
def salvorref11_MayName_c (p : List Bool) (n : Nat) : List AV → AH → Kf → Prop := sCode Try.prog salvorref11_MayName_fl pqb none0 none0 salvorref11_MayName_kp (sub p (bodyOf Try.f27)) n
def salvorref11_MayName_L3 (x0 x3 : AV) (H : AH) (K : AV → AH → Prop) : Prop := lp (mk 52 0 [0, 3]) (salvorref11_MayName_c [true, false, true, false, false] 4) [x0, x3] H (kBlk 0 (kSeq (salvorref11_MayName_c [true, true] 10) (kRet Try.prog Try.f27.results.toList K)))
def salvorref11_MayName_L3_b (R3 : List AV → AH → Prop) (x0 x3 : AV) (H : AH) (K : AV → AH → Prop) : Prop :=
 bO (alnT x0) fun v0 =>
 bO (abI .lss x3 v0) fun v1 =>
 bB v1 fun t2 => bI t2 (
 bO (aivT x0 x3) fun v3 =>
 bO (abI .lss v3 (.lit (.int .u8 97))) fun v4 =>
 bG v4 false fun w5 =>
 gO w5 (some v3) fun v6 =>
 bG v4 false fun w7 =>
 gO w7 (abI .gtr v6 (.lit (.int .u8 122))) fun v8 =>
 bO (apick v4 (.lit (.bool true)) v8) fun v9 =>
 bG v9 true fun w10 =>
 gO w10 (some v3) fun v11 =>
 bG v9 true fun w12 =>
 gO w12 (abI .lss v11 (.lit (.int .u8 48))) fun v13 =>
 bG v9 true fun w14 =>
 gO w14 (some v13) fun v15 =>
 bG v15 false fun w16 =>
 gO w16 (some v3) fun v17 =>
 bG v15 false fun w18 =>
 gO w18 (abI .gtr v17 (.lit (.int .u8 57))) fun v19 =>
 bG v9 true fun w20 =>
 gO w20 (apick v15 (.lit (.bool true)) v19) fun v21 =>
 bO (apick v9 v21 (.lit (.bool false))) fun v22 =>
 bG v22 true fun w23 =>
 gO w23 (some v3) fun v24 =>
 bG v22 true fun w25 =>
 gO w25 (abI .neq v24 (.lit (.int .u8 46))) fun v26 =>
 bO (apick v22 v26 (.lit (.bool false))) fun v27 =>
 bG v27 true fun w28 =>
 gO w28 (some v3) fun v29 =>
 bG v27 true fun w30 =>
 gO w30 (abI .neq v29 (.lit (.int .u8 95))) fun v31 =>
 bO (apick v27 v31 (.lit (.bool false))) fun v32 =>
 bG v32 true fun w33 =>
 gO w33 (some v3) fun v34 =>
 bG v32 true fun w35 =>
 gO w35 (abI .neq v34 (.lit (.int .u8 45))) fun v36 =>
 bG v32 true fun w37 =>
 gO w37 (some v36) fun v38 =>
 bG v38 false fun w39 =>
 gO w39 (some x3) fun v40 =>
 bG v38 false fun w41 =>
 gO w41 (abI .eql v40 (.lit (.int .i64 0))) fun v42 =>
 bG v32 true fun w43 =>
 gO w43 (apick v38 (.lit (.bool true)) v42) fun v44 =>
 bO (apick v32 v44 (.lit (.bool false))) fun v45 =>
 bB v45 fun t46 => bI t46 (
 K (.lit (.bool false)) H)
 (bO (abI .add x3 (.lit (.int .i64 1))) fun v47 =>
 R3 [x0, v47] H))
 (bO (alnT x0) fun v48 =>
 bO (abI .geq v48 (.lit (.int .i64 1))) fun v49 =>
 bG v49 true fun w50 =>
 gO w50 (some x0) fun v51 =>
 bG v49 true fun w52 =>
 gO w52 (alnT v51) fun v53 =>
 bG v49 true fun w54 =>
 gO w54 (abI .leq v53 (.lit (.int .i64 20))) fun v55 =>
 bO (apick v49 v55 (.lit (.bool false))) fun v56 =>
 K v56 H)
theorem salvorref11_MayName_L3_eq (R3 : List AV → AH → Prop) (x0 x3 : AV) (H : AH) (K : AV → AH → Prop) : salvorref11_MayName_c [true, false, true, false, false] 4 (expand (mk 52 0 [0, 3]) [x0, x3]) H (kLp (mk 52 0 [0, 3]) R3 (kBlk 0 (kSeq (salvorref11_MayName_c [true, true] 10) (kRet Try.prog Try.f27.results.toList K)))) = salvorref11_MayName_L3_b R3 x0 x3 H K := by kernel_rfl
theorem salvorref11_MayName_L3_rule {K : AV → AH → Prop} (I : Nat → AV → AV → AH → Prop) (round : ∀ (n : Nat) (x0 x3 : AV) (H : AH) (R : List AV → AH → Prop), (∀ (m : Nat) (y0 y3 : AV) (H' : AH), m < n → I m y0 y3 H' → R [y0, y3] H') → I n x0 x3 H → salvorref11_MayName_L3_b R x0 x3 H K) (n : Nat) {x0 x3 : AV} {H : AH} (h : I n x0 x3 H) : salvorref11_MayName_L3 x0 x3 H K := by
  refine lp_upto (sCode_one _ _) (LI2 I) ?_ n h
  intro n X H h
  obtain ⟨x0, x3, rfl, h⟩ := h.elim
  exact Eq.mpr (salvorref11_MayName_L3_eq _ x0 x3 H K) (round n x0 x3 H (fun X H' => ∃ m, m < n ∧ LI2 I m X H') (fun m y0 y3 H' hm hi => ⟨m, hm, hi⟩) h)
def salvorref11_MayName (a0 : AV) (H : AH) (K : AV → AH → Prop) : Prop :=
 salvorref11_MayName_L3 a0 (.lit (.int .i64 0)) H K
theorem salvorref11_MayName_eq (a0 : AV) (H : AH) (K : AV → AH → Prop) : sFun Try.prog salvorref11_MayName_fl pqb none0 none0 salvorref11_MayName_kp Try.f27 [a0] H K = salvorref11_MayName a0 H K := by kernel_rfl
theorem salvorref11_MayName_ok {a0 : AV} {H : AH} {K : AV → AH → Prop} (h : salvorref11_MayName a0 H K) : ∃ r H', K r H' ∧ BCall Try.prog 27 [a0] H r H' :=
  sFun_ok mixP Try.func27 (by kernel_rfl) (Eq.mpr (salvorref11_MayName_eq a0 H K) h)
/-! salvor/salvorref11.MayImage -/
def salvorref11_MayImage_fl : Floats := flOf []
def salvorref11_MayImage_kp : Nat → Option (List Bool) := kpOf [(16, mk 110 0 [1, 3, 4, 5]), (6, mk 110 0 [1, 3])]
def salvorref11_MayImage_c (p : List Bool) (n : Nat) : List AV → AH → Kf → Prop := sCode Try.prog salvorref11_MayImage_fl pqb none0 none0 salvorref11_MayImage_kp (sub p (bodyOf Try.f28)) n
def salvorref11_MayImage_L16 (R6 : List AV → AH → Prop) (x1 x3 x4 x5 : AV) (H : AH) (K : AV → AH → Prop) : Prop := lp (mk 110 0 [1, 3, 4, 5]) (salvorref11_MayImage_c [true, true, false, true, false, false, true, false, false, true, true, false, true, false, false] 17) [x1, x3, x4, x5] H (kBlk 2 (kSeq (salvorref11_MayImage_c [true, true, false, true, false, false, true, false, false, true, true, true] 22) (kBlk 1 (kSeq (salvorref11_MayImage_c [true, true, false, true, false, false, true, true] 24) (kLp (mk 110 0 [1, 3]) R6 (kBlk 0 (kSeq (salvorref11_MayImage_c [true, true, true] 24) (kRet Try.prog Try.f28.results.toList K))))))))
def salvorref11_MayImage_L6 (x1 x3 : AV) (H : AH) (K : AV → AH → Prop) : Prop := lp (mk 110 0 [1, 3]) (salvorref11_MayImage_c [true, true, false, true, false, false] 7) [x1, x3] H (kBlk 0 (kSeq (salvorref11_MayImage_c [true, true, true] 24) (kRet Try.prog Try.f28.results.toList K)))
def salvorref11_MayImage_L16_b (R6 : List AV → AH → Prop) (R16 : List AV → AH → Prop) (x1 x3 x4 x5 : AV) (H : AH) (K : AV → AH → Prop) : Prop :=
 bO (abI .lss x5 x3) fun v0 =>
 bB v0 fun t1 => bI t1 (
 bO (ashift 0 x1) fun v2 =>
 bO (ald false 1 H v2) fun v3 =>
 bO (aixS 2 v3 x5) fun v4 =>
 bO (ashift 1 v4) fun v5 =>
 bO (ald false 1 H v5) fun v6 =>
 bO (ashift 1 x4) fun v7 =>
 bO (ald false 1 H v7) fun v8 =>
 bO (abI .eql v6 v8) fun v9 =>
 bB v9 fun t10 => bI t10 (
 K (.lit (.bool false)) H)
 (bO (abI .add x5 (.lit (.int .i64 1))) fun v11 =>
 R16 [x1, x3, x4, v11] H))
 (bO (abI .gtr x3 (.lit (.int .i64 0))) fun v12 =>
 bG v12 true fun w13 =>
 gO w13 (ashift 1 x1) fun v14 =>
 bG v12 true fun w15 =>
 gO w15 (ald false 1 H v14) fun v16 =>
 bG v12 true fun w17 =>
 gO w17 (some x3) fun v18 =>
 bG v12 true fun w19 =>
 gO w19 (abI .sub v18 (.lit (.int .i64 1))) fun v20 =>
 bG v12 true fun w21 =>
 gO w21 (aixS 3 v16 v20) fun v22 =>
 bG v12 true fun w23 =>
 gO w23 (ashift 0 v22) fun v24 =>
 bG v12 true fun w25 =>
 gO w25 (ald false 1 H v24) fun v26 =>
 bG v12 true fun w27 =>
 gO w27 (ashift 1 x1) fun v28 =>
 bG v12 true fun w29 =>
 gO w29 (ald false 1 H v28) fun v30 =>
 bG v12 true fun w31 =>
 gO w31 (some x3) fun v32 =>
 bG v12 true fun w33 =>
 gO w33 (aixS 3 v30 v32) fun v34 =>
 bG v12 true fun w35 =>
 gO w35 (ashift 0 v34) fun v36 =>
 bG v12 true fun w37 =>
 gO w37 (ald false 1 H v36) fun v38 =>
 bG v12 true fun w39 =>
 gO w39 (abI .geq v26 v38) fun v40 =>
 bO (apick v12 v40 (.lit (.bool false))) fun v41 =>
 bG v41 false fun w42 =>
 gO w42 (ashift 1 x1) fun v43 =>
 bG v41 false fun w44 =>
 gO w44 (ald false 1 H v43) fun v45 =>
 bG v41 false fun w46 =>
 gO w46 (some x3) fun v47 =>
 bG v41 false fun w48 =>
 gO w48 (aixS 3 v45 v47) fun v49 =>
 bG v41 false fun w50 =>
 gO w50 (ashift 1 v49) fun v51 =>
 bG v41 false fun w52 =>
 gO w52 (ald true 2 H v51) fun v53 =>
 bG v41 false fun w54 =>
 gP w54 (BPure Try.prog 56 [v53]) fun v55 =>
 bG v41 false fun w56 =>
 gO w56 (aun .not v55) fun v57 =>
 bO (apick v41 (.lit (.bool true)) v57) fun v58 =>
 bB v58 fun t59 => bI t59 (
 K (.lit (.bool false)) H)
 (bO (abI .add x3 (.lit (.int .i64 1))) fun v60 =>
 R6 [x1, v60] H))
theorem salvorref11_MayImage_L16_eq (R6 : List AV → AH → Prop) (R16 : List AV → AH → Prop) (x1 x3 x4 x5 : AV) (H : AH) (K : AV → AH → Prop) : salvorref11_MayImage_c [true, true, false, true, false, false, true, false, false, true, true, false, true, false, false] 17 (expand (mk 110 0 [1, 3, 4, 5]) [x1, x3, x4, x5]) H (kLp (mk 110 0 [1, 3, 4, 5]) R16 (kBlk 2 (kSeq (salvorref11_MayImage_c [true, true, false, true, false, false, true, false, false, true, true, true] 22) (kBlk 1 (kSeq (salvorref11_MayImage_c [true, true, false, true, false, false, true, true] 24) (kLp (mk 110 0 [1, 3]) R6 (kBlk 0 (kSeq (salvorref11_MayImage_c [true, true, true] 24) (kRet Try.prog Try.f28.results.toList K))))))))) = salvorref11_MayImage_L16_b R6 R16 x1 x3 x4 x5 H K := by kernel_rfl
theorem salvorref11_MayImage_L16_rule (R6 : List AV → AH → Prop) {K : AV → AH → Prop} (I : Nat → AV → AV → AV → AV → AH → Prop) (round : ∀ (n : Nat) (x1 x3 x4 x5 : AV) (H : AH) (R : List AV → AH → Prop), (∀ (m : Nat) (y1 y3 y4 y5 : AV) (H' : AH), m < n → I m y1 y3 y4 y5 H' → R [y1, y3, y4, y5] H') → I n x1 x3 x4 x5 H → salvorref11_MayImage_L16_b R6 R x1 x3 x4 x5 H K) (n : Nat) {x1 x3 x4 x5 : AV} {H : AH} (h : I n x1 x3 x4 x5 H) : salvorref11_MayImage_L16 R6 x1 x3 x4 x5 H K := by
  refine lp_upto (sCode_one _ _) (LI4 I) ?_ n h
  intro n X H h
  obtain ⟨x1, x3, x4, x5, rfl, h⟩ := h.elim
  exact Eq.mpr (salvorref11_MayImage_L16_eq R6 _ x1 x3 x4 x5 H K) (round n x1 x3 x4 x5 H (fun X H' => ∃ m, m < n ∧ LI4 I m X H') (fun m y1 y3 y4 y5 H' hm hi => ⟨m, hm, hi⟩) h)
def salvorref11_MayImage_L6_b (R6 : List AV → AH → Prop) (x1 x3 : AV) (H : AH) (K : AV → AH → Prop) : Prop :=
 bO (ashift 0 x1) fun v0 =>
 bO (ald false 1 H v0) fun v1 =>
 bO (alnS v1) fun v2 =>
 bO (abI .lss x3 v2) fun v3 =>
 bB v3 fun t4 => bI t4 (
 bO (ashift 0 x1) fun v5 =>
 bO (ald false 1 H v5) fun v6 =>
 bO (aixS 2 v6 x3) fun v7 =>
 bO (ald true 2 H v7) fun v8 =>
 bH (anew H (.agg [(.lit (.string ⟨#[]⟩)), (.lit (.int .i64 0))])) fun v9 H10 =>
 bS (ast 2 H10 v9 v8) fun H11 =>
 bO (ashift 0 v9) fun v12 =>
 bO (ald false 1 H11 v12) fun v13 =>
 bP (BPure Try.prog 27 [v13]) fun v14 =>
 bO (aun .not v14) fun v15 =>
 bG v15 false fun w16 =>
 gO w16 (ashift 1 v9) fun v17 =>
 bG v15 false fun w18 =>
 gO w18 (ald false 1 H11 v17) fun v19 =>
 bG v15 false fun w20 =>
 gO w20 (abI .lss v19 (.lit (.int .i64 1))) fun v21 =>
 bO (apick v15 (.lit (.bool true)) v21) fun v22 =>
 bG v22 false fun w23 =>
 gO w23 (ashift 1 v9) fun v24 =>
 bG v22 false fun w25 =>
 gO w25 (ald false 1 H11 v24) fun v26 =>
 bG v22 false fun w27 =>
 gO w27 (abI .gtr v26 (.lit (.int .i64 4611686018427387904))) fun v28 =>
 bO (apick v22 (.lit (.bool true)) v28) fun v29 =>
 bG v29 false fun w30 =>
 gO w30 (some x3) fun v31 =>
 bG v29 false fun w32 =>
 gO w32 (abI .gtr v31 (.lit (.int .i64 0))) fun v33 =>
 bG v29 false fun w34 =>
 gO w34 (some v33) fun v35 =>
 bG v35 true fun w36 =>
 gO w36 (ashift 0 x1) fun v37 =>
 bG v35 true fun w38 =>
 gO w38 (ald false 1 H11 v37) fun v39 =>
 bG v35 true fun w40 =>
 gO w40 (some x3) fun v41 =>
 bG v35 true fun w42 =>
 gO w42 (abI .sub v41 (.lit (.int .i64 1))) fun v43 =>
 bG v35 true fun w44 =>
 gO w44 (aixS 2 v39 v43) fun v45 =>
 bG v35 true fun w46 =>
 gO w46 (ashift 0 v45) fun v47 =>
 bG v35 true fun w48 =>
 gO w48 (ald false 1 H11 v47) fun v49 =>
 bG v35 true fun w50 =>
 gO w50 (ashift 0 v9) fun v51 =>
 bG v35 true fun w52 =>
 gO w52 (ald false 1 H11 v51) fun v53 =>
 bG v35 true fun w54 =>
 gO w54 (abT .geq v49 v53) fun v55 =>
 bG v29 false fun w56 =>
 gO w56 (apick v35 v55 (.lit (.bool false))) fun v57 =>
 bO (apick v29 (.lit (.bool true)) v57) fun v58 =>
 bG v58 false fun w59 =>
 gO w59 (ald true 2 H11 x1) fun v60 =>
 bG v58 false fun w61 =>
 gO w61 (ashift 1 v9) fun v62 =>
 bG v58 false fun w63 =>
 gO w63 (ald false 1 H11 v62) fun v64 =>
 bG v58 false fun w65 =>
 gP w65 (BPure Try.prog 44 [v60, v64]) fun v66 =>
 bG v58 false fun w67 =>
 gO w67 (abI .lss v66 (.lit (.int .i64 0))) fun v68 =>
 bO (apick v58 (.lit (.bool true)) v68) fun v69 =>
 bB v69 fun t70 => bI t70 (
 K (.lit (.bool false)) H11)
 (salvorref11_MayImage_L16 R6 x1 x3 v9 (.lit (.int .i64 0)) H11 K))
 (K (.lit (.bool true)) H)
theorem salvorref11_MayImage_L6_eq (R6 : List AV → AH → Prop) (x1 x3 : AV) (H : AH) (K : AV → AH → Prop) : salvorref11_MayImage_c [true, true, false, true, false, false] 7 (expand (mk 110 0 [1, 3]) [x1, x3]) H (kLp (mk 110 0 [1, 3]) R6 (kBlk 0 (kSeq (salvorref11_MayImage_c [true, true, true] 24) (kRet Try.prog Try.f28.results.toList K)))) = salvorref11_MayImage_L6_b R6 x1 x3 H K := by kernel_rfl
theorem salvorref11_MayImage_L6_rule {K : AV → AH → Prop} (I : Nat → AV → AV → AH → Prop) (round : ∀ (n : Nat) (x1 x3 : AV) (H : AH) (R : List AV → AH → Prop), (∀ (m : Nat) (y1 y3 : AV) (H' : AH), m < n → I m y1 y3 H' → R [y1, y3] H') → I n x1 x3 H → salvorref11_MayImage_L6_b R x1 x3 H K) (n : Nat) {x1 x3 : AV} {H : AH} (h : I n x1 x3 H) : salvorref11_MayImage_L6 x1 x3 H K := by
  refine lp_upto (sCode_one _ _) (LI2 I) ?_ n h
  intro n X H h
  obtain ⟨x1, x3, rfl, h⟩ := h.elim
  exact Eq.mpr (salvorref11_MayImage_L6_eq _ x1 x3 H K) (round n x1 x3 H (fun X H' => ∃ m, m < n ∧ LI2 I m X H') (fun m y1 y3 H' hm hi => ⟨m, hm, hi⟩) h)
def salvorref11_MayImage (a0 : AV) (H : AH) (K : AV → AH → Prop) : Prop :=
 bH (anew H a0) fun v0 H1 =>
 bO (ashift 0 v0) fun v2 =>
 bO (ald false 1 H1 v2) fun v3 =>
 bO (alnS v3) fun v4 =>
 bO (abI .gtr v4 (.lit (.int .i64 16))) fun v5 =>
 bG v5 false fun w6 =>
 gO w6 (ashift 0 v0) fun v7 =>
 bG v5 false fun w8 =>
 gO w8 (ald false 1 H1 v7) fun v9 =>
 bG v5 false fun w10 =>
 gO w10 (alnS v9) fun v11 =>
 bG v5 false fun w12 =>
 gO w12 (ashift 1 v0) fun v13 =>
 bG v5 false fun w14 =>
 gO w14 (ald false 1 H1 v13) fun v15 =>
 bG v5 false fun w16 =>
 gO w16 (alnS v15) fun v17 =>
 bG v5 false fun w18 =>
 gO w18 (abI .neq v11 v17) fun v19 =>
 bO (apick v5 (.lit (.bool true)) v19) fun v20 =>
 bB v20 fun t21 => bI t21 (
 K (.lit (.bool false)) H1)
 (salvorref11_MayImage_L6 v0 (.lit (.int .i64 0)) H1 K)
theorem salvorref11_MayImage_eq (a0 : AV) (H : AH) (K : AV → AH → Prop) : sFun Try.prog salvorref11_MayImage_fl pqb none0 none0 salvorref11_MayImage_kp Try.f28 [a0] H K = salvorref11_MayImage a0 H K := by kernel_rfl
theorem salvorref11_MayImage_ok {a0 : AV} {H : AH} {K : AV → AH → Prop} (h : salvorref11_MayImage a0 H K) : ∃ r H', K r H' ∧ BCall Try.prog 28 [a0] H r H' :=
  sFun_ok mixP Try.func28 (by kernel_rfl) (Eq.mpr (salvorref11_MayImage_eq a0 H K) h)
/-! salvor/salvorref11.Used -/
def salvorref11_Used_fl : Floats := flOf []
def salvorref11_Used_kp : Nat → Option (List Bool) := kpOf [(4, mk 27 0 [1, 3, 4])]
def salvorref11_Used_c (p : List Bool) (n : Nat) : List AV → AH → Kf → Prop := sCode Try.prog salvorref11_Used_fl pqb none0 none0 salvorref11_Used_kp (sub p (bodyOf Try.f30)) n
def salvorref11_Used_L4 (x1 x3 x4 : AV) (H : AH) (K : AV → AH → Prop) : Prop := lp (mk 27 0 [1, 3, 4]) (salvorref11_Used_c [true, true, false, true, false, false] 5) [x1, x3, x4] H (kBlk 0 (kSeq (salvorref11_Used_c [true, true, true] 8) (kRet Try.prog Try.f30.results.toList K)))
def salvorref11_Used_L4_b (R4 : List AV → AH → Prop) (x1 x3 x4 : AV) (H : AH) (K : AV → AH → Prop) : Prop :=
 bO (ashift 1 x1) fun v0 =>
 bO (ald false 1 H v0) fun v1 =>
 bO (alnS v1) fun v2 =>
 bO (abI .lss x4 v2) fun v3 =>
 bG v3 true fun w4 =>
 gO w4 (ald true 2 H x1) fun v5 =>
 bG v3 true fun w6 =>
 gP w6 (PCall Try.prog 28 [v5] H) fun v7 =>
 bO (apick v3 v7 (.lit (.bool false))) fun v8 =>
 bB v8 fun t9 => bI t9 (
 bO (ashift 1 x1) fun v10 =>
 bO (ald false 1 H v10) fun v11 =>
 bO (aixS 3 v11 x4) fun v12 =>
 bO (ashift 1 v12) fun v13 =>
 bO (ashift 1 v13) fun v14 =>
 bO (ald false 1 H v14) fun v15 =>
 bO (alnS v15) fun v16 =>
 bO (abI .add x3 v16) fun v17 =>
 bO (abI .add x4 (.lit (.int .i64 1))) fun v18 =>
 R4 [x1, v17, v18] H)
 (K x3 H)
theorem salvorref11_Used_L4_eq (R4 : List AV → AH → Prop) (x1 x3 x4 : AV) (H : AH) (K : AV → AH → Prop) : salvorref11_Used_c [true, true, false, true, false, false] 5 (expand (mk 27 0 [1, 3, 4]) [x1, x3, x4]) H (kLp (mk 27 0 [1, 3, 4]) R4 (kBlk 0 (kSeq (salvorref11_Used_c [true, true, true] 8) (kRet Try.prog Try.f30.results.toList K)))) = salvorref11_Used_L4_b R4 x1 x3 x4 H K := by kernel_rfl
theorem salvorref11_Used_L4_rule {K : AV → AH → Prop} (I : Nat → AV → AV → AV → AH → Prop) (round : ∀ (n : Nat) (x1 x3 x4 : AV) (H : AH) (R : List AV → AH → Prop), (∀ (m : Nat) (y1 y3 y4 : AV) (H' : AH), m < n → I m y1 y3 y4 H' → R [y1, y3, y4] H') → I n x1 x3 x4 H → salvorref11_Used_L4_b R x1 x3 x4 H K) (n : Nat) {x1 x3 x4 : AV} {H : AH} (h : I n x1 x3 x4 H) : salvorref11_Used_L4 x1 x3 x4 H K := by
  refine lp_upto (sCode_one _ _) (LI3 I) ?_ n h
  intro n X H h
  obtain ⟨x1, x3, x4, rfl, h⟩ := h.elim
  exact Eq.mpr (salvorref11_Used_L4_eq _ x1 x3 x4 H K) (round n x1 x3 x4 H (fun X H' => ∃ m, m < n ∧ LI3 I m X H') (fun m y1 y3 y4 H' hm hi => ⟨m, hm, hi⟩) h)
def salvorref11_Used (a0 : AV) (H : AH) (K : AV → AH → Prop) : Prop :=
 bH (anew H a0) fun v0 H1 =>
 salvorref11_Used_L4 v0 (.lit (.int .i64 0)) (.lit (.int .i64 0)) H1 K
theorem salvorref11_Used_eq (a0 : AV) (H : AH) (K : AV → AH → Prop) : sFun Try.prog salvorref11_Used_fl pqb none0 none0 salvorref11_Used_kp Try.f30 [a0] H K = salvorref11_Used a0 H K := by kernel_rfl
theorem salvorref11_Used_ok {a0 : AV} {H : AH} {K : AV → AH → Prop} (h : salvorref11_Used a0 H K) : ∃ r H', K r H' ∧ BCall Try.prog 30 [a0] H r H' :=
  sFun_ok mixP Try.func30 (by kernel_rfl) (Eq.mpr (salvorref11_Used_eq a0 H K) h)
/-! salvor/image.Same -/
def image_Same_fl : Floats := flOf []
def image_Same_kp : Nat → Option (List Bool) := kpOf []
def image_Same_c (p : List Bool) (n : Nat) : List AV → AH → Kf → Prop := sCode Try.prog image_Same_fl pqb none0 none0 image_Same_kp (sub p (bodyOf Try.f31)) n
def image_Same (a0 a1 : AV) (H : AH) (K : AV → AH → Prop) : Prop :=
 bH (anew H a0) fun v0 H1 =>
 bH (anew H1 a1) fun v2 H3 =>
 bO (ashift 0 v0) fun v4 =>
 bO (ald false 1 H3 v4) fun v5 =>
 bO (ashift 0 v2) fun v6 =>
 bO (ald false 1 H3 v6) fun v7 =>
 bP (PCall Try.prog 57 [v5, v7] H3) fun v8 =>
 bG v8 true fun w9 =>
 gO w9 (ashift 1 v0) fun v10 =>
 bG v8 true fun w11 =>
 gO w11 (ald false 1 H3 v10) fun v12 =>
 bG v8 true fun w13 =>
 gO w13 (ashift 1 v2) fun v14 =>
 bG v8 true fun w15 =>
 gO w15 (ald false 1 H3 v14) fun v16 =>
 bG v8 true fun w17 =>
 gP w17 (PCall Try.prog 58 [v12, v16, (.fn (.func 59) [] [])] H3) fun v18 =>
 bO (apick v8 v18 (.lit (.bool false))) fun v19 =>
 K v19 H3
theorem image_Same_eq (a0 a1 : AV) (H : AH) (K : AV → AH → Prop) : sFun Try.prog image_Same_fl pqb none0 none0 image_Same_kp Try.f31 [a0, a1] H K = image_Same a0 a1 H K := by kernel_rfl
theorem image_Same_ok {a0 a1 : AV} {H : AH} {K : AV → AH → Prop} (h : image_Same a0 a1 H K) : ∃ r H', K r H' ∧ BCall Try.prog 31 [a0, a1] H r H' :=
  sFun_ok mixP Try.func31 (by kernel_rfl) (Eq.mpr (image_Same_eq a0 a1 H K) h)
/-! salvor/image.Copy -/
def image_Copy_fl : Floats := flOf [(1, [(4, none)])]
def image_Copy_kp : Nat → Option (List Bool) := kpOf [(4, mk 31 0 [1, 2, 13, 14])]
def image_Copy_c (p : List Bool) (n : Nat) : List AV → AH → Kf → Prop := sCode Try.prog image_Copy_fl pqb none0 none0 image_Copy_kp (sub p (bodyOf Try.f33)) n
def image_Copy_L4 (x1 x2 x13 x14 : AV) (H : AH) (K : AV → AH → Prop) : Prop := lp (mk 31 0 [1, 2, 13, 14]) (image_Copy_c [true, true, false, true, false, false] 5) [x1, x2, x13, x14] H (kBlk 0 (kSeq (image_Copy_c [true, true, true] 9) (kRet Try.prog Try.f33.results.toList K)))
def image_Copy_L4_b (R4 : List AV → AH → Prop) (x1 x2 x13 x14 : AV) (H : AH) (K : AV → AH → Prop) : Prop :=
 bO (abI .lss x14 x13) fun v0 =>
 bB v0 fun t1 => bI t1 (
 bO (ashift 1 x1) fun v2 =>
 bO (ald false 1 H v2) fun v3 =>
 bO (ashift 1 x1) fun v4 =>
 bO (ald false 1 H v4) fun v5 =>
 bO (aixS 3 v5 x14) fun v6 =>
 bO (ashift 1 v6) fun v7 =>
 bO (ald true 2 H v7) fun v8 =>
 bP (BPure Try.prog 36 [v8]) fun v9 =>
 bO (aixS 3 v3 x14) fun v10 =>
 bO (ashift 1 v10) fun v11 =>
 bS (ast 2 H v11 v9) fun H12 =>
 bO (abI .add x14 (.lit (.int .i64 1))) fun v13 =>
 R4 [x1, x2, x13, v13] H12)
 (bO (ald true 2 H x1) fun v14 =>
 bS (ast 2 H x2 v14) fun H15 =>
 bO (ald true 2 H15 x2) fun v16 =>
 K v16 H15)
theorem image_Copy_L4_eq (R4 : List AV → AH → Prop) (x1 x2 x13 x14 : AV) (H : AH) (K : AV → AH → Prop) : image_Copy_c [true, true, false, true, false, false] 5 (expand (mk 31 0 [1, 2, 13, 14]) [x1, x2, x13, x14]) H (kLp (mk 31 0 [1, 2, 13, 14]) R4 (kBlk 0 (kSeq (image_Copy_c [true, true, true] 9) (kRet Try.prog Try.f33.results.toList K)))) = image_Copy_L4_b R4 x1 x2 x13 x14 H K := by kernel_rfl
theorem image_Copy_L4_rule {K : AV → AH → Prop} (I : Nat → AV → AV → AV → AV → AH → Prop) (round : ∀ (n : Nat) (x1 x2 x13 x14 : AV) (H : AH) (R : List AV → AH → Prop), (∀ (m : Nat) (y1 y2 y13 y14 : AV) (H' : AH), m < n → I m y1 y2 y13 y14 H' → R [y1, y2, y13, y14] H') → I n x1 x2 x13 x14 H → image_Copy_L4_b R x1 x2 x13 x14 H K) (n : Nat) {x1 x2 x13 x14 : AV} {H : AH} (h : I n x1 x2 x13 x14 H) : image_Copy_L4 x1 x2 x13 x14 H K := by
  refine lp_upto (sCode_one _ _) (LI4 I) ?_ n h
  intro n X H h
  obtain ⟨x1, x2, x13, x14, rfl, h⟩ := h.elim
  exact Eq.mpr (image_Copy_L4_eq _ x1 x2 x13 x14 H K) (round n x1 x2 x13 x14 H (fun X H' => ∃ m, m < n ∧ LI4 I m X H') (fun m y1 y2 y13 y14 H' hm hi => ⟨m, hm, hi⟩) h)
def image_Copy (a0 : AV) (H : AH) (K : AV → AH → Prop) : Prop :=
 bH (anew H a0) fun v0 H1 =>
 bH (anew H1 (.agg [(.lit (.slice none 0 0)), (.lit (.slice none 0 0))])) fun v2 H3 =>
 bO (ashift 0 v0) fun v4 =>
 bO (ald false 1 H3 v4) fun v5 =>
 bC (BCall Try.prog 60 [v5] H3) fun v6 H7 =>
 bO (ashift 1 v0) fun v8 =>
 bO (ald false 1 H7 v8) fun v9 =>
 bC (BCall Try.prog 61 [v9] H7) fun v10 H11 =>
 bO (abl [(.lit (.slice none 0 0)), (.lit (.slice none 0 0))] [(0, 1, v6), (1, 1, v10)]) fun v12 =>
 bS (ast 2 H11 v0 v12) fun H13 =>
(ald false 1 H3 v8 = some v9) ∧
 bO (ashift 1 v0) fun v14 =>
 bO (ald false 1 H13 v14) fun v15 =>
 bO (alnS v15) fun v16 =>
 image_Copy_L4 v0 v2 v16 (.lit (.int .i64 0)) H13 K
theorem image_Copy_eq (a0 : AV) (H : AH) (K : AV → AH → Prop) : sFun Try.prog image_Copy_fl pqb none0 none0 image_Copy_kp Try.f33 [a0] H K = image_Copy a0 H K := by kernel_rfl
theorem image_Copy_ok {a0 : AV} {H : AH} {K : AV → AH → Prop} (h : image_Copy a0 H K) : ∃ r H', K r H' ∧ BCall Try.prog 33 [a0] H r H' :=
  sFun_ok mixP Try.func33 (by kernel_rfl) (Eq.mpr (image_Copy_eq a0 H K) h)
/-! salvor/image.named -/
def image_named_fl : Floats := flOf []
def image_named_kp : Nat → Option (List Bool) := kpOf []
def image_named_c (p : List Bool) (n : Nat) : List AV → AH → Kf → Prop := sCode Try.prog image_named_fl pqb none0 none0 image_named_kp (sub p (bodyOf Try.f34)) n
def image_named (a0 a1 : AV) (H : AH) (K : AV → AH → Prop) : Prop :=
 bH (anew H a0) fun v0 H1 =>
 bO (ashift 0 v0) fun v2 =>
 bO (ald false 1 H1 v2) fun v3 =>
 bP (PCall Try.prog 62 [v3, a1, (.fn (.func 63) [] [])] H1) fun v4 =>
 bO (aextract v4 0) fun v5 =>
 bO (aextract v4 1) fun v6 =>
 K (.tup [v5, v6]) H1
theorem image_named_eq (a0 a1 : AV) (H : AH) (K : AV → AH → Prop) : sFun Try.prog image_named_fl pqb none0 none0 image_named_kp Try.f34 [a0, a1] H K = image_named a0 a1 H K := by kernel_rfl
theorem image_named_ok {a0 a1 : AV} {H : AH} {K : AV → AH → Prop} (h : image_named a0 a1 H K) : ∃ r H', K r H' ∧ BCall Try.prog 34 [a0, a1] H r H' :=
  sFun_ok mixP Try.func34 (by kernel_rfl) (Eq.mpr (image_named_eq a0 a1 H K) h)
/-! salvor/image.node -/
def image_node_fl : Floats := flOf []
def image_node_kp : Nat → Option (List Bool) := kpOf []
def image_node_c (p : List Bool) (n : Nat) : List AV → AH → Kf → Prop := sCode Try.prog image_node_fl pqb none0 none0 image_node_kp (sub p (bodyOf Try.f35)) n
def image_node (a0 a1 : AV) (H : AH) (K : AV → AH → Prop) : Prop :=
 bH (anew H a0) fun v0 H1 =>
 bO (ashift 1 v0) fun v2 =>
 bO (ald false 1 H1 v2) fun v3 =>
 bP (PCall Try.prog 65 [v3, a1, (.fn (.func 66) [] [])] H1) fun v4 =>
 bO (aextract v4 0) fun v5 =>
 bO (aextract v4 1) fun v6 =>
 K (.tup [v5, v6]) H1
theorem image_node_eq (a0 a1 : AV) (H : AH) (K : AV → AH → Prop) : sFun Try.prog image_node_fl pqb none0 none0 image_node_kp Try.f35 [a0, a1] H K = image_node a0 a1 H K := by kernel_rfl
theorem image_node_ok {a0 a1 : AV} {H : AH} {K : AV → AH → Prop} (h : image_node a0 a1 H K) : ∃ r H', K r H' ∧ BCall Try.prog 35 [a0, a1] H r H' :=
  sFun_ok mixP Try.func35 (by kernel_rfl) (Eq.mpr (image_node_eq a0 a1 H K) h)
/-! salvor/image.may -/
def image_may_fl : Floats := flOf []
def image_may_kp : Nat → Option (List Bool) := kpOf []
def image_may_c (p : List Bool) (n : Nat) : List AV → AH → Kf → Prop := sCode Try.prog image_may_fl pqb none0 none0 image_may_kp (sub p (bodyOf Try.f37)) n
def image_may (a0 : AV) (H : AH) (K : AV → AH → Prop) : Prop :=
 bO (abI .geq a0 (.lit (.int .u8 97))) fun v0 =>
 bG v0 true fun w1 =>
 gO w1 (some a0) fun v2 =>
 bG v0 true fun w3 =>
 gO w3 (abI .leq v2 (.lit (.int .u8 122))) fun v4 =>
 bO (apick v0 v4 (.lit (.bool false))) fun v5 =>
 bG v5 false fun w6 =>
 gO w6 (some a0) fun v7 =>
 bG v5 false fun w8 =>
 gO w8 (abI .geq v7 (.lit (.int .u8 48))) fun v9 =>
 bG v5 false fun w10 =>
 gO w10 (some v9) fun v11 =>
 bG v11 true fun w12 =>
 gO w12 (some a0) fun v13 =>
 bG v11 true fun w14 =>
 gO w14 (abI .leq v13 (.lit (.int .u8 57))) fun v15 =>
 bG v5 false fun w16 =>
 gO w16 (apick v11 v15 (.lit (.bool false))) fun v17 =>
 bO (apick v5 (.lit (.bool true)) v17) fun v18 =>
 bG v18 false fun w19 =>
 gO w19 (some a0) fun v20 =>
 bG v18 false fun w21 =>
 gO w21 (abI .eql v20 (.lit (.int .u8 46))) fun v22 =>
 bO (apick v18 (.lit (.bool true)) v22) fun v23 =>
 bG v23 false fun w24 =>
 gO w24 (some a0) fun v25 =>
 bG v23 false fun w26 =>
 gO w26 (abI .eql v25 (.lit (.int .u8 95))) fun v27 =>
 bO (apick v23 (.lit (.bool true)) v27) fun v28 =>
 bG v28 false fun w29 =>
 gO w29 (some a0) fun v30 =>
 bG v28 false fun w31 =>
 gO w31 (abI .eql v30 (.lit (.int .u8 45))) fun v32 =>
 bO (apick v28 (.lit (.bool true)) v32) fun v33 =>
 K v33 H
theorem image_may_eq (a0 : AV) (H : AH) (K : AV → AH → Prop) : sFun Try.prog image_may_fl pqb none0 none0 image_may_kp Try.f37 [a0] H K = image_may a0 H K := by kernel_rfl
theorem image_may_ok {a0 : AV} {H : AH} {K : AV → AH → Prop} (h : image_may a0 H K) : ∃ r H', K r H' ∧ BCall Try.prog 37 [a0] H r H' :=
  sFun_ok mixP Try.func37 (by kernel_rfl) (Eq.mpr (image_may_eq a0 H K) h)
/-! salvor/image.create -/
def image_create_fl : Floats := flOf []
def image_create_kp : Nat → Option (List Bool) := kpOf [(100004, mk 82 0 [0, 3, 4, 6]), (100005, mk 82 0 [0, 3, 6]), (5, mk 82 0 [0, 3, 6])]
def image_create_un : Nat → Bool := inL [4, 5]
def image_create_c (p : List Bool) (n : Nat) : List AV → AH → Kf → Prop := sCode Try.prog image_create_fl pqb pqba image_create_un image_create_kp (sub p (bodyOf Try.f38)) n
def image_create_U5 (x0 x3 x6 : AV) (H : AH) (K : AV → AH → Prop) : Prop := unR Try.prog 5 (opsOf (sub [true, true, true, true, true] (bodyOf Try.f38))) (expand (mk 82 0 [0, 3, 6]) [x0, x3, x6]) H (kRet Try.prog Try.f38.results.toList K)
def image_create_J5 (x0 x3 x6 : AV) (H : AH) (K : AV → AH → Prop) : Prop := jn (mk 82 0 [0, 3, 6]) (image_create_c [true, true, true, true, true] 6) [x0, x3, x6] H (kRet Try.prog Try.f38.results.toList K)
def image_create_U4 (x0 x3 x4 x6 : AV) (H : AH) (K : AV → AH → Prop) : Prop := unR Try.prog 4 (opsOf (sub [true, true, true, true, false] (bodyOf Try.f38))) (expand (mk 82 0 [0, 3, 4, 6]) [x0, x3, x4, x6]) H (kSeq (cutC (mk 82 0 [0, 3, 6]) (image_create_c [true, true, true, true, true] 6)) (kRet Try.prog Try.f38.results.toList K))
def image_create_J5_b (x0 x3 x6 : AV) (H : AH) (K : AV → AH → Prop) : Prop :=
 image_create_U5 x0 x3 x6 H K
theorem image_create_J5_eq0 (x0 x3 x6 : AV) (H : AH) (K : AV → AH → Prop) : image_create_c [true, true, true, true, true] 6 (expand (mk 82 0 [0, 3, 6]) [x0, x3, x6]) H (kRet Try.prog Try.f38.results.toList K) = image_create_J5_b x0 x3 x6 H K := by kernel_rfl
theorem image_create_J5_eq (x0 x3 x6 : AV) (H : AH) (K : AV → AH → Prop) : image_create_J5 x0 x3 x6 H K = image_create_J5_b x0 x3 x6 H K := (jn_eq _ _ _ _ _).trans (image_create_J5_eq0 x0 x3 x6 H K)
def image_create (a0 a1 : AV) (H : AH) (K : AV → AH → Prop) : Prop :=
 bH (anew H a1) fun v0 H1 =>
 bO (anilCheck a0) fun v2 =>
 bO (ald true 2 H1 v2) fun v3 =>
 bO (ashift 5 v0) fun v4 =>
 bO (ald false 1 H1 v4) fun v5 =>
 bC (BCall Try.prog 34 [v3, v5] H1) fun v6 H7 =>
 bO (aextract v6 0) fun v8 =>
 bO (aextract v6 1) fun v9 =>
 bO (anilCheck a0) fun v10 =>
 bO (ald true 2 H7 v10) fun v11 =>
 bO (ashift 1 v0) fun v12 =>
 bO (ald false 1 H7 v12) fun v13 =>
 bC (BCall Try.prog 35 [v11, v13] H7) fun v14 H15 =>
 bO (aextract v14 0) fun v16 =>
 bO (aextract v14 1) fun v17 =>
 bG v9 false fun w18 =>
 gO w18 (some v17) fun v19 =>
 bO (apick v9 (.lit (.bool true)) v19) fun v20 =>
 bG v20 false fun w21 =>
 gO w21 (ashift 5 v0) fun v22 =>
 bG v20 false fun w23 =>
 gO w23 (ald false 1 H15 v22) fun v24 =>
 bG v20 false fun w25 =>
 gP w25 (PCall Try.prog 14 [v24] H15) fun v26 =>
 bG v20 false fun w27 =>
 gO w27 (aun .not v26) fun v28 =>
 bO (apick v20 (.lit (.bool true)) v28) fun v29 =>
 bG v29 false fun w30 =>
 gO w30 (ashift 1 v0) fun v31 =>
 bG v29 false fun w32 =>
 gO w32 (ald false 1 H15 v31) fun v33 =>
 bG v29 false fun w34 =>
 gO w34 (abI .lss v33 (.lit (.int .i64 1))) fun v35 =>
 bO (apick v29 (.lit (.bool true)) v35) fun v36 =>
 bG v36 false fun w37 =>
 gO w37 (ashift 1 v0) fun v38 =>
 bG v36 false fun w39 =>
 gO w39 (ald false 1 H15 v38) fun v40 =>
 bG v36 false fun w41 =>
 gO w41 (abI .gtr v40 (.lit (.int .i64 4611686018427387904))) fun v42 =>
 bO (apick v36 (.lit (.bool true)) v42) fun v43 =>
 bG v43 false fun w44 =>
 gO w44 (some a0) fun v45 =>
 bG v43 false fun w46 =>
 gO w46 (anilCheck v45) fun v47 =>
 bG v43 false fun w48 =>
 gO w48 (ashift 0 v47) fun v49 =>
 bG v43 false fun w50 =>
 gO w50 (ald false 1 H15 v49) fun v51 =>
 bG v43 false fun w52 =>
 gO w52 (alnS v51) fun v53 =>
 bG v43 false fun w54 =>
 gO w54 (abI .geq v53 (.lit (.int .i64 16))) fun v55 =>
 bO (apick v43 (.lit (.bool true)) v55) fun v56 =>
 bB v56 fun t57 => bI t57 (
 K (.tup []) H15)
 (image_create_U4 a0 v0 v8 v16 H15 K)
theorem image_create_eq (a0 a1 : AV) (H : AH) (K : AV → AH → Prop) : sFun Try.prog image_create_fl pqb pqba image_create_un image_create_kp Try.f38 [a0, a1] H K = image_create a0 a1 H K := by kernel_rfl
theorem image_create_ok {a0 a1 : AV} {H : AH} {K : AV → AH → Prop} (h : image_create a0 a1 H K) : ACalls Try.prog 38 [a0, a1] H K :=
  sFun_wp mixP Try.func38 (by kernel_rfl) (Eq.mpr (image_create_eq a0 a1 H K) h)
/-! salvor/image.change -/
def image_change_fl : Floats := flOf []
def image_change_kp : Nat → Option (List Bool) := kpOf [(11, mk 81 0 [0, 4, 6, 72]), (5, mk 81 0 [0, 4, 5, 6])]
def image_change_c (p : List Bool) (n : Nat) : List AV → AH → Kf → Prop := sCode Try.prog image_change_fl pqb none0 none0 image_change_kp (sub p (bodyOf Try.f39)) n
def image_change_J11 (x0 x4 x6 x72 : AV) (H : AH) (K : AV → AH → Prop) : Prop := jn (mk 81 0 [0, 4, 6, 72]) (image_change_c [true, true, true, true, true, true] 12) [x0, x4, x6, x72] H (kRet Try.prog Try.f39.results.toList K)
def image_change_J5 (x0 x4 x5 x6 : AV) (H : AH) (K : AV → AH → Prop) : Prop := jn (mk 81 0 [0, 4, 5, 6]) (image_change_c [true, true, true, true, true] 11) [x0, x4, x5, x6] H (kRet Try.prog Try.f39.results.toList K)
def image_change_J11_b (x0 x4 x6 x72 : AV) (H : AH) (K : AV → AH → Prop) : Prop :=
 bB x72 fun t0 => bI t0 (
 bO (anilCheck x0) fun v1 =>
 bO (ashift 1 v1) fun v2 =>
 bO (ald false 1 H v2) fun v3 =>
 bO (ald true 2 H x6) fun v4 =>
 bO (aixS 3 v3 x4) fun v5 =>
 bO (ashift 1 v5) fun v6 =>
 bS (ast 2 H v6 v4) fun H7 =>
 K (.tup []) H7)
 (K (.tup []) H)
theorem image_change_J11_eq0 (x0 x4 x6 x72 : AV) (H : AH) (K : AV → AH → Prop) : image_change_c [true, true, true, true, true, true] 12 (expand (mk 81 0 [0, 4, 6, 72]) [x0, x4, x6, x72]) H (kRet Try.prog Try.f39.results.toList K) = image_change_J11_b x0 x4 x6 x72 H K := by kernel_rfl
theorem image_change_J11_eq (x0 x4 x6 x72 : AV) (H : AH) (K : AV → AH → Prop) : image_change_J11 x0 x4 x6 x72 H K = image_change_J11_b x0 x4 x6 x72 H K := (jn_eq _ _ _ _ _).trans (image_change_J11_eq0 x0 x4 x6 x72 H K)
def image_change_J5_b (x0 x4 x5 x6 : AV) (H : AH) (K : AV → AH → Prop) : Prop :=
 image_change_J11 x0 x4 x6 x5 H K
theorem image_change_J5_eq0 (x0 x4 x5 x6 : AV) (H : AH) (K : AV → AH → Prop) : image_change_c [true, true, true, true, true] 11 (expand (mk 81 0 [0, 4, 5, 6]) [x0, x4, x5, x6]) H (kRet Try.prog Try.f39.results.toList K) = image_change_J5_b x0 x4 x5 x6 H K := by kernel_rfl
theorem image_change_J5_eq (x0 x4 x5 x6 : AV) (H : AH) (K : AV → AH → Prop) : image_change_J5 x0 x4 x5 x6 H K = image_change_J5_b x0 x4 x5 x6 H K := (jn_eq _ _ _ _ _).trans (image_change_J5_eq0 x0 x4 x5 x6 H K)
def image_change (a0 a1 : AV) (H : AH) (K : AV → AH → Prop) : Prop :=
 bH (anew H a1) fun v0 H1 =>
 bO (anilCheck a0) fun v2 =>
 bO (ald true 2 H1 v2) fun v3 =>
 bO (ashift 1 v0) fun v4 =>
 bO (ald false 1 H1 v4) fun v5 =>
 bC (BCall Try.prog 35 [v3, v5] H1) fun v6 H7 =>
 bO (aextract v6 0) fun v8 =>
 bO (aextract v6 1) fun v9 =>
 bO (aun .not v9) fun v10 =>
 bB v10 fun t11 => bI t11 (
 K (.tup []) H7)
 (bO (anilCheck a0) fun v12 =>
 bO (ashift 1 v12) fun v13 =>
 bO (ald false 1 H7 v13) fun v14 =>
 bO (aixS 3 v14 v8) fun v15 =>
 bO (ashift 1 v15) fun v16 =>
 bO (ald true 2 H7 v16) fun v17 =>
 bH (anew H7 (.agg [(.lit (.int .i64 0)), (.lit (.slice none 0 0))])) fun v18 H19 =>
 bS (ast 2 H19 v18 v17) fun H20 =>
 bO (ashift 0 v0) fun v21 =>
 bO (ald false 1 H20 v21) fun v22 =>
 bO (abI .eql v22 (.lit (.int .i64 2))) fun v23 =>
 bB v23 fun t24 => bI t24 (
 bO (ald true 2 H20 v18) fun v25 =>
 bO (ashift 2 v0) fun v26 =>
 bO (ald false 1 H20 v26) fun v27 =>
 bO (ashift 7 v0) fun v28 =>
 bO (ald false 1 H20 v28) fun v29 =>
 bP (PCall Try.prog 71 [v25, v27, v29] H20) fun v30 =>
 bO (aextract v30 0) fun v31 =>
 bO (aextract v30 1) fun v32 =>
 bS (ast 2 H20 v18 v31) fun H33 =>
 image_change_J5 a0 v8 v32 v18 H33 K)
 (bO (abI .eql v22 (.lit (.int .i64 3))) fun v34 =>
 bB v34 fun t35 => bI t35 (
 bO (ald true 2 H20 v18) fun v36 =>
 bO (ashift 3 v0) fun v37 =>
 bO (ald false 1 H20 v37) fun v38 =>
 bP (PCall Try.prog 72 [v36, v38] H20) fun v39 =>
 bO (aextract v39 0) fun v40 =>
 bO (aextract v39 1) fun v41 =>
 bS (ast 2 H20 v18 v40) fun H42 =>
 image_change_J5 a0 v8 v41 v18 H42 K)
 (bO (abI .eql v22 (.lit (.int .i64 4))) fun v43 =>
 bB v43 fun t44 => bI t44 (
 bO (ald true 2 H20 v18) fun v45 =>
 bO (ashift 2 v0) fun v46 =>
 bO (ald false 1 H20 v46) fun v47 =>
 bO (ashift 3 v0) fun v48 =>
 bO (ald false 1 H20 v48) fun v49 =>
 bO (ashift 4 v0) fun v50 =>
 bO (ald false 1 H20 v50) fun v51 =>
 bP (PCall Try.prog 73 [v45, v47, v49, v51] H20) fun v52 =>
 bO (aextract v52 0) fun v53 =>
 bO (aextract v52 1) fun v54 =>
 bS (ast 2 H20 v18 v53) fun H55 =>
 image_change_J5 a0 v8 v54 v18 H55 K)
 (bO (abI .eql v22 (.lit (.int .i64 5))) fun v56 =>
 bB v56 fun t57 => bI t57 (
 bO (ald true 2 H20 v18) fun v58 =>
 bO (ashift 2 v0) fun v59 =>
 bO (ald false 1 H20 v59) fun v60 =>
 bO (ashift 3 v0) fun v61 =>
 bO (ald false 1 H20 v61) fun v62 =>
 bP (PCall Try.prog 74 [v58, v60, v62] H20) fun v63 =>
 bO (aextract v63 0) fun v64 =>
 bO (aextract v63 1) fun v65 =>
 bS (ast 2 H20 v18 v64) fun H66 =>
 image_change_J5 a0 v8 v65 v18 H66 K)
 (image_change_J5 a0 v8 v9 v18 H20 K)))))
theorem image_change_eq (a0 a1 : AV) (H : AH) (K : AV → AH → Prop) : sFun Try.prog image_change_fl pqb none0 none0 image_change_kp Try.f39 [a0, a1] H K = image_change a0 a1 H K := by kernel_rfl
theorem image_change_ok {a0 a1 : AV} {H : AH} {K : AV → AH → Prop} (h : image_change a0 a1 H K) : ∃ r H', K r H' ∧ BCall Try.prog 39 [a0, a1] H r H' :=
  sFun_ok mixP Try.func39 (by kernel_rfl) (Eq.mpr (image_change_eq a0 a1 H K) h)
/-! salvor/image.rename -/
def image_rename_fl : Floats := flOf []
def image_rename_kp : Nat → Option (List Bool) := kpOf []
def image_rename_c (p : List Bool) (n : Nat) : List AV → AH → Kf → Prop := sCode Try.prog image_rename_fl pqb none0 none0 image_rename_kp (sub p (bodyOf Try.f40)) n
def image_rename (a0 a1 a2 : AV) (H : AH) (K : AV → AH → Prop) : Prop :=
 bO (anilCheck a0) fun v0 =>
 bO (ald true 2 H v0) fun v1 =>
 bC (BCall Try.prog 34 [v1, a1] H) fun v2 H3 =>
 bO (aextract v2 0) fun v4 =>
 bO (aextract v2 1) fun v5 =>
 bO (aun .not v5) fun v6 =>
 bG v6 false fun w7 =>
 gO w7 (some a2) fun v8 =>
 bG v6 false fun w9 =>
 gP w9 (PCall Try.prog 14 [v8] H3) fun v10 =>
 bG v6 false fun w11 =>
 gO w11 (aun .not v10) fun v12 =>
 bO (apick v6 (.lit (.bool true)) v12) fun v13 =>
 bG v13 false fun w14 =>
 gO w14 (some a1) fun v15 =>
 bG v13 false fun w16 =>
 gO w16 (some a2) fun v17 =>
 bG v13 false fun w18 =>
 gO w18 (abT .eql v15 v17) fun v19 =>
 bO (apick v13 (.lit (.bool true)) v19) fun v20 =>
 bB v20 fun t21 => bI t21 (
 K (.tup []) H3)
 (bO (anilCheck a0) fun v22 =>
 bO (ashift 0 v22) fun v23 =>
 bO (ald false 1 H3 v23) fun v24 =>
 bO (aixS 2 v24 v4) fun v25 =>
 bO (ashift 1 v25) fun v26 =>
 bO (ald false 1 H3 v26) fun v27 =>
 bO (anilCheck a0) fun v28 =>
 bO (ashift 0 v28) fun v29 =>
 bO (ald false 1 H3 v29) fun v30 =>
 bO (abI .add v4 (.lit (.int .i64 1))) fun v31 =>
 bC (BCall Try.prog 75 [v30, v4, v31] H3) fun v32 H33 =>
 bO (anilCheck a0) fun v34 =>
 bO (ashift 0 v34) fun v35 =>
 bS (ast 1 H33 v35 v32) fun H36 =>
 bC (BCall Try.prog 41 [a0, a2] H36) fun v37 H38 =>
 bO (anilCheck a0) fun v39 =>
 bO (ald true 2 H38 v39) fun v40 =>
 bC (BCall Try.prog 34 [v40, a2] H38) fun v41 H42 =>
 bO (aextract v41 0) fun v43 =>
 bO (aextract v41 1) fun v44 =>
 bO (anilCheck a0) fun v45 =>
 bO (ashift 0 v45) fun v46 =>
 bO (ald false 1 H42 v46) fun v47 =>
 bO (abl [(.lit (.string ⟨#[]⟩)), (.lit (.int .i64 0))] [(0, 1, a2), (1, 1, v27)]) fun v48 =>
 bH (absl H42 2 1 (zrow [(.lit (.string ⟨#[]⟩)), (.lit (.int .i64 0))] 1) [(0, 2, v48)]) fun v49 H50 =>
 bC (BCall Try.prog 69 [v47, v43, v49] H50) fun v51 H52 =>
 bO (anilCheck a0) fun v53 =>
 bO (ashift 0 v53) fun v54 =>
 bS (ast 1 H52 v54 v51) fun H55 =>
 K (.tup []) H55)
theorem image_rename_eq (a0 a1 a2 : AV) (H : AH) (K : AV → AH → Prop) : sFun Try.prog image_rename_fl pqb none0 none0 image_rename_kp Try.f40 [a0, a1, a2] H K = image_rename a0 a1 a2 H K := by kernel_rfl
theorem image_rename_ok {a0 a1 a2 : AV} {H : AH} {K : AV → AH → Prop} (h : image_rename a0 a1 a2 H K) : ∃ r H', K r H' ∧ BCall Try.prog 40 [a0, a1, a2] H r H' :=
  sFun_ok mixP Try.func40 (by kernel_rfl) (Eq.mpr (image_rename_eq a0 a1 a2 H K) h)
/-! salvor/image.remove -/
def image_remove_fl : Floats := flOf []
def image_remove_kp : Nat → Option (List Bool) := kpOf []
def image_remove_c (p : List Bool) (n : Nat) : List AV → AH → Kf → Prop := sCode Try.prog image_remove_fl pqb none0 none0 image_remove_kp (sub p (bodyOf Try.f41)) n
def image_remove (a0 a1 : AV) (H : AH) (K : AV → AH → Prop) : Prop :=
 bO (anilCheck a0) fun v0 =>
 bO (ald true 2 H v0) fun v1 =>
 bC (BCall Try.prog 34 [v1, a1] H) fun v2 H3 =>
 bO (aextract v2 0) fun v4 =>
 bO (aextract v2 1) fun v5 =>
 bO (aun .not v5) fun v6 =>
 bB v6 fun t7 => bI t7 (
 K (.tup []) H3)
 (bO (anilCheck a0) fun v8 =>
 bO (ald true 2 H3 v8) fun v9 =>
 bO (anilCheck a0) fun v10 =>
 bO (ashift 0 v10) fun v11 =>
 bO (ald false 1 H3 v11) fun v12 =>
 bO (aixS 2 v12 v4) fun v13 =>
 bO (ashift 1 v13) fun v14 =>
 bO (ald false 1 H3 v14) fun v15 =>
 bC (BCall Try.prog 35 [v9, v15] H3) fun v16 H17 =>
 bO (aextract v16 0) fun v18 =>
 bO (aextract v16 1) fun v19 =>
 bO (anilCheck a0) fun v20 =>
 bO (ashift 0 v20) fun v21 =>
 bO (ald false 1 H17 v21) fun v22 =>
 bO (abI .add v4 (.lit (.int .i64 1))) fun v23 =>
 bC (BCall Try.prog 75 [v22, v4, v23] H17) fun v24 H25 =>
 bO (anilCheck a0) fun v26 =>
 bO (ashift 0 v26) fun v27 =>
 bS (ast 1 H25 v27 v24) fun H28 =>
 bO (anilCheck a0) fun v29 =>
 bO (ashift 1 v29) fun v30 =>
 bO (ald false 1 H28 v30) fun v31 =>
 bO (abI .add v18 (.lit (.int .i64 1))) fun v32 =>
 bC (BCall Try.prog 76 [v31, v18, v32] H28) fun v33 H34 =>
 bO (anilCheck a0) fun v35 =>
 bO (ashift 1 v35) fun v36 =>
 bS (ast 1 H34 v36 v33) fun H37 =>
 K (.tup []) H37)
theorem image_remove_eq (a0 a1 : AV) (H : AH) (K : AV → AH → Prop) : sFun Try.prog image_remove_fl pqb none0 none0 image_remove_kp Try.f41 [a0, a1] H K = image_remove a0 a1 H K := by kernel_rfl
theorem image_remove_ok {a0 a1 : AV} {H : AH} {K : AV → AH → Prop} (h : image_remove a0 a1 H K) : ∃ r H', K r H' ∧ BCall Try.prog 41 [a0, a1] H r H' :=
  sFun_ok mixP Try.func41 (by kernel_rfl) (Eq.mpr (image_remove_eq a0 a1 H K) h)
/-! salvor/salvorref11.CopyImage -/
def salvorref11_CopyImage_fl : Floats := flOf []
def salvorref11_CopyImage_kp : Nat → Option (List Bool) := kpOf [(4, mk 36 0 [1, 2, 3, 4])]
def salvorref11_CopyImage_c (p : List Bool) (n : Nat) : List AV → AH → Kf → Prop := sCode Try.prog salvorref11_CopyImage_fl pqb none0 none0 salvorref11_CopyImage_kp (sub p (bodyOf Try.f42)) n
def salvorref11_CopyImage_L4 (x1 x2 x3 x4 : AV) (H : AH) (K : AV → AH → Prop) : Prop := lp (mk 36 0 [1, 2, 3, 4]) (salvorref11_CopyImage_c [true, true, false, true, false, false] 5) [x1, x2, x3, x4] H (kBlk 0 (kSeq (salvorref11_CopyImage_c [true, true, true] 8) (kRet Try.prog Try.f42.results.toList K)))
def salvorref11_CopyImage_L4_b (R4 : List AV → AH → Prop) (x1 x2 x3 x4 : AV) (H : AH) (K : AV → AH → Prop) : Prop :=
 bO (ashift 1 x1) fun v0 =>
 bO (ald false 1 H v0) fun v1 =>
 bO (alnS v1) fun v2 =>
 bO (abI .lss x4 v2) fun v3 =>
 bB v3 fun t4 => bI t4 (
 bO (ashift 1 x3) fun v5 =>
 bO (ald false 1 H v5) fun v6 =>
 bO (ashift 1 x1) fun v7 =>
 bO (ald false 1 H v7) fun v8 =>
 bO (aixS 3 v8 x4) fun v9 =>
 bO (ashift 0 v9) fun v10 =>
 bO (ald false 1 H v10) fun v11 =>
 bO (ashift 1 x1) fun v12 =>
 bO (ald false 1 H v12) fun v13 =>
 bO (aixS 3 v13 x4) fun v14 =>
 bO (ashift 1 v14) fun v15 =>
 bO (ald true 2 H v15) fun v16 =>
 bP (BPure Try.prog 55 [v16]) fun v17 =>
 bO (abl [(.lit (.int .i64 0)), (.lit (.int .i64 0)), (.lit (.slice none 0 0))] [(0, 1, v11), (1, 2, v17)]) fun v18 =>
 bO (absf 3 1 (zrow [(.lit (.int .i64 0)), (.lit (.int .i64 0)), (.lit (.slice none 0 0))] 1) [(0, 3, v18)]) fun v19 =>
 bH (aap 3 40 H v6 v19) fun v20 H21 =>
 bO (ashift 1 x3) fun v22 =>
 bS (ast 1 H21 v22 v20) fun H23 =>
 bO (abI .add x4 (.lit (.int .i64 1))) fun v24 =>
 R4 [x1, x2, x3, v24] H23)
 (bO (ald true 2 H x3) fun v25 =>
 bS (ast 2 H x2 v25) fun H26 =>
 bO (ald true 2 H26 x2) fun v27 =>
 K v27 H26)
theorem salvorref11_CopyImage_L4_eq (R4 : List AV → AH → Prop) (x1 x2 x3 x4 : AV) (H : AH) (K : AV → AH → Prop) : salvorref11_CopyImage_c [true, true, false, true, false, false] 5 (expand (mk 36 0 [1, 2, 3, 4]) [x1, x2, x3, x4]) H (kLp (mk 36 0 [1, 2, 3, 4]) R4 (kBlk 0 (kSeq (salvorref11_CopyImage_c [true, true, true] 8) (kRet Try.prog Try.f42.results.toList K)))) = salvorref11_CopyImage_L4_b R4 x1 x2 x3 x4 H K := by kernel_rfl
theorem salvorref11_CopyImage_L4_rule {K : AV → AH → Prop} (I : Nat → AV → AV → AV → AV → AH → Prop) (round : ∀ (n : Nat) (x1 x2 x3 x4 : AV) (H : AH) (R : List AV → AH → Prop), (∀ (m : Nat) (y1 y2 y3 y4 : AV) (H' : AH), m < n → I m y1 y2 y3 y4 H' → R [y1, y2, y3, y4] H') → I n x1 x2 x3 x4 H → salvorref11_CopyImage_L4_b R x1 x2 x3 x4 H K) (n : Nat) {x1 x2 x3 x4 : AV} {H : AH} (h : I n x1 x2 x3 x4 H) : salvorref11_CopyImage_L4 x1 x2 x3 x4 H K := by
  refine lp_upto (sCode_one _ _) (LI4 I) ?_ n h
  intro n X H h
  obtain ⟨x1, x2, x3, x4, rfl, h⟩ := h.elim
  exact Eq.mpr (salvorref11_CopyImage_L4_eq _ x1 x2 x3 x4 H K) (round n x1 x2 x3 x4 H (fun X H' => ∃ m, m < n ∧ LI4 I m X H') (fun m y1 y2 y3 y4 H' hm hi => ⟨m, hm, hi⟩) h)
def salvorref11_CopyImage (a0 : AV) (H : AH) (K : AV → AH → Prop) : Prop :=
 bH (anew H a0) fun v0 H1 =>
 bH (anew H1 (.agg [(.lit (.slice none 0 0)), (.lit (.slice none 0 0))])) fun v2 H3 =>
 bO (ashift 0 v0) fun v4 =>
 bO (ald false 1 H3 v4) fun v5 =>
 bH (aap 2 24 H3 (.lit (.slice none 0 0)) v5) fun v6 H7 =>
 bO (abl [(.lit (.slice none 0 0)), (.lit (.slice none 0 0))] [(0, 1, v6)]) fun v8 =>
 bH (anew H7 (.agg [(.lit (.slice none 0 0)), (.lit (.slice none 0 0))])) fun v9 H10 =>
 bS (ast 2 H10 v9 v8) fun H11 =>
 salvorref11_CopyImage_L4 v0 v2 v9 (.lit (.int .i64 0)) H11 K
theorem salvorref11_CopyImage_eq (a0 : AV) (H : AH) (K : AV → AH → Prop) : sFun Try.prog salvorref11_CopyImage_fl pqb none0 none0 salvorref11_CopyImage_kp Try.f42 [a0] H K = salvorref11_CopyImage a0 H K := by kernel_rfl
theorem salvorref11_CopyImage_ok {a0 : AV} {H : AH} {K : AV → AH → Prop} (h : salvorref11_CopyImage a0 H K) : ∃ r H', K r H' ∧ BCall Try.prog 42 [a0] H r H' :=
  sFun_ok mixP Try.func42 (by kernel_rfl) (Eq.mpr (salvorref11_CopyImage_eq a0 H K) h)
/-! salvor/salvorref11.named -/
def salvorref11_named_fl : Floats := flOf []
def salvorref11_named_kp : Nat → Option (List Bool) := kpOf [(3, mk 22 0 [1, 2, 5])]
def salvorref11_named_c (p : List Bool) (n : Nat) : List AV → AH → Kf → Prop := sCode Try.prog salvorref11_named_fl pqb none0 none0 salvorref11_named_kp (sub p (bodyOf Try.f43)) n
def salvorref11_named_L3 (x1 x2 x5 : AV) (H : AH) (K : AV → AH → Prop) : Prop := lp (mk 22 0 [1, 2, 5]) (salvorref11_named_c [true, false, true, false, false] 4) [x1, x2, x5] H (kBlk 0 (kSeq (salvorref11_named_c [true, true] 9) (kRet Try.prog Try.f43.results.toList K)))
def salvorref11_named_L3_b (R3 : List AV → AH → Prop) (x1 x2 x5 : AV) (H : AH) (K : AV → AH → Prop) : Prop :=
 bO (ashift 0 x2) fun v0 =>
 bO (ald false 1 H v0) fun v1 =>
 bO (alnS v1) fun v2 =>
 bO (abI .lss x5 v2) fun v3 =>
 bB v3 fun t4 => bI t4 (
 bO (ashift 0 x2) fun v5 =>
 bO (ald false 1 H v5) fun v6 =>
 bO (aixS 2 v6 x5) fun v7 =>
 bO (ashift 0 v7) fun v8 =>
 bO (ald false 1 H v8) fun v9 =>
 bO (abT .eql v9 x1) fun v10 =>
 bB v10 fun t11 => bI t11 (
 K x5 H)
 (bO (abI .add x5 (.lit (.int .i64 1))) fun v12 =>
 R3 [x1, x2, v12] H))
 (K (.lit (.int .i64 (-1))) H)
theorem salvorref11_named_L3_eq (R3 : List AV → AH → Prop) (x1 x2 x5 : AV) (H : AH) (K : AV → AH → Prop) : salvorref11_named_c [true, false, true, false, false] 4 (expand (mk 22 0 [1, 2, 5]) [x1, x2, x5]) H (kLp (mk 22 0 [1, 2, 5]) R3 (kBlk 0 (kSeq (salvorref11_named_c [true, true] 9) (kRet Try.prog Try.f43.results.toList K)))) = salvorref11_named_L3_b R3 x1 x2 x5 H K := by kernel_rfl
theorem salvorref11_named_L3_rule {K : AV → AH → Prop} (I : Nat → AV → AV → AV → AH → Prop) (round : ∀ (n : Nat) (x1 x2 x5 : AV) (H : AH) (R : List AV → AH → Prop), (∀ (m : Nat) (y1 y2 y5 : AV) (H' : AH), m < n → I m y1 y2 y5 H' → R [y1, y2, y5] H') → I n x1 x2 x5 H → salvorref11_named_L3_b R x1 x2 x5 H K) (n : Nat) {x1 x2 x5 : AV} {H : AH} (h : I n x1 x2 x5 H) : salvorref11_named_L3 x1 x2 x5 H K := by
  refine lp_upto (sCode_one _ _) (LI3 I) ?_ n h
  intro n X H h
  obtain ⟨x1, x2, x5, rfl, h⟩ := h.elim
  exact Eq.mpr (salvorref11_named_L3_eq _ x1 x2 x5 H K) (round n x1 x2 x5 H (fun X H' => ∃ m, m < n ∧ LI3 I m X H') (fun m y1 y2 y5 H' hm hi => ⟨m, hm, hi⟩) h)
def salvorref11_named (a0 a1 : AV) (H : AH) (K : AV → AH → Prop) : Prop :=
 bH (anew H a0) fun v0 H1 =>
 salvorref11_named_L3 a1 v0 (.lit (.int .i64 0)) H1 K
theorem salvorref11_named_eq (a0 a1 : AV) (H : AH) (K : AV → AH → Prop) : sFun Try.prog salvorref11_named_fl pqb none0 none0 salvorref11_named_kp Try.f43 [a0, a1] H K = salvorref11_named a0 a1 H K := by kernel_rfl
theorem salvorref11_named_ok {a0 a1 : AV} {H : AH} {K : AV → AH → Prop} (h : salvorref11_named a0 a1 H K) : ∃ r H', K r H' ∧ BCall Try.prog 43 [a0, a1] H r H' :=
  sFun_ok mixP Try.func43 (by kernel_rfl) (Eq.mpr (salvorref11_named_eq a0 a1 H K) h)
/-! salvor/salvorref11.node -/
def salvorref11_node_fl : Floats := flOf []
def salvorref11_node_kp : Nat → Option (List Bool) := kpOf [(3, mk 22 0 [1, 2, 5])]
def salvorref11_node_c (p : List Bool) (n : Nat) : List AV → AH → Kf → Prop := sCode Try.prog salvorref11_node_fl pqb none0 none0 salvorref11_node_kp (sub p (bodyOf Try.f44)) n
def salvorref11_node_L3 (x1 x2 x5 : AV) (H : AH) (K : AV → AH → Prop) : Prop := lp (mk 22 0 [1, 2, 5]) (salvorref11_node_c [true, false, true, false, false] 4) [x1, x2, x5] H (kBlk 0 (kSeq (salvorref11_node_c [true, true] 9) (kRet Try.prog Try.f44.results.toList K)))
def salvorref11_node_L3_b (R3 : List AV → AH → Prop) (x1 x2 x5 : AV) (H : AH) (K : AV → AH → Prop) : Prop :=
 bO (ashift 1 x2) fun v0 =>
 bO (ald false 1 H v0) fun v1 =>
 bO (alnS v1) fun v2 =>
 bO (abI .lss x5 v2) fun v3 =>
 bB v3 fun t4 => bI t4 (
 bO (ashift 1 x2) fun v5 =>
 bO (ald false 1 H v5) fun v6 =>
 bO (aixS 3 v6 x5) fun v7 =>
 bO (ashift 0 v7) fun v8 =>
 bO (ald false 1 H v8) fun v9 =>
 bO (abI .eql v9 x1) fun v10 =>
 bB v10 fun t11 => bI t11 (
 K x5 H)
 (bO (abI .add x5 (.lit (.int .i64 1))) fun v12 =>
 R3 [x1, x2, v12] H))
 (K (.lit (.int .i64 (-1))) H)
theorem salvorref11_node_L3_eq (R3 : List AV → AH → Prop) (x1 x2 x5 : AV) (H : AH) (K : AV → AH → Prop) : salvorref11_node_c [true, false, true, false, false] 4 (expand (mk 22 0 [1, 2, 5]) [x1, x2, x5]) H (kLp (mk 22 0 [1, 2, 5]) R3 (kBlk 0 (kSeq (salvorref11_node_c [true, true] 9) (kRet Try.prog Try.f44.results.toList K)))) = salvorref11_node_L3_b R3 x1 x2 x5 H K := by kernel_rfl
theorem salvorref11_node_L3_rule {K : AV → AH → Prop} (I : Nat → AV → AV → AV → AH → Prop) (round : ∀ (n : Nat) (x1 x2 x5 : AV) (H : AH) (R : List AV → AH → Prop), (∀ (m : Nat) (y1 y2 y5 : AV) (H' : AH), m < n → I m y1 y2 y5 H' → R [y1, y2, y5] H') → I n x1 x2 x5 H → salvorref11_node_L3_b R x1 x2 x5 H K) (n : Nat) {x1 x2 x5 : AV} {H : AH} (h : I n x1 x2 x5 H) : salvorref11_node_L3 x1 x2 x5 H K := by
  refine lp_upto (sCode_one _ _) (LI3 I) ?_ n h
  intro n X H h
  obtain ⟨x1, x2, x5, rfl, h⟩ := h.elim
  exact Eq.mpr (salvorref11_node_L3_eq _ x1 x2 x5 H K) (round n x1 x2 x5 H (fun X H' => ∃ m, m < n ∧ LI3 I m X H') (fun m y1 y2 y5 H' hm hi => ⟨m, hm, hi⟩) h)
def salvorref11_node (a0 a1 : AV) (H : AH) (K : AV → AH → Prop) : Prop :=
 bH (anew H a0) fun v0 H1 =>
 salvorref11_node_L3 a1 v0 (.lit (.int .i64 0)) H1 K
theorem salvorref11_node_eq (a0 a1 : AV) (H : AH) (K : AV → AH → Prop) : sFun Try.prog salvorref11_node_fl pqb none0 none0 salvorref11_node_kp Try.f44 [a0, a1] H K = salvorref11_node a0 a1 H K := by kernel_rfl
theorem salvorref11_node_ok {a0 a1 : AV} {H : AH} {K : AV → AH → Prop} (h : salvorref11_node a0 a1 H K) : ∃ r H', K r H' ∧ BCall Try.prog 44 [a0, a1] H r H' :=
  sFun_ok mixP Try.func44 (by kernel_rfl) (Eq.mpr (salvorref11_node_eq a0 a1 H K) h)
/-! salvor/salvorref11.called -/
def salvorref11_called_fl : Floats := flOf []
def salvorref11_called_kp : Nat → Option (List Bool) := kpOf [(2, mk 53 0 [0, 1, 2, 6])]
def salvorref11_called_c (p : List Bool) (n : Nat) : List AV → AH → Kf → Prop := sCode Try.prog salvorref11_called_fl pqb none0 none0 salvorref11_called_kp (sub p (bodyOf Try.f45)) n
def salvorref11_called_L2 (x0 x1 x2 x6 : AV) (H : AH) (K : AV → AH → Prop) : Prop := lp (mk 53 0 [0, 1, 2, 6]) (salvorref11_called_c [true, false, false, false] 3) [x0, x1, x2, x6] H (kBlk 0 (kSeq (salvorref11_called_c [true, true] 5) (kRet Try.prog Try.f45.results.toList K)))
def salvorref11_called_L2_b (R2 : List AV → AH → Prop) (x0 x1 x2 x6 : AV) (H : AH) (K : AV → AH → Prop) : Prop :=
 bO (anilCheck x0) fun v0 =>
 bO (ashift 0 v0) fun v1 =>
 bO (ald false 1 H v1) fun v2 =>
 bO (alnS v2) fun v3 =>
 bO (abI .lss x6 v3) fun v4 =>
 bG v4 true fun w5 =>
 gO w5 (some x0) fun v6 =>
 bG v4 true fun w7 =>
 gO w7 (anilCheck v6) fun v8 =>
 bG v4 true fun w9 =>
 gO w9 (ashift 0 v8) fun v10 =>
 bG v4 true fun w11 =>
 gO w11 (ald false 1 H v10) fun v12 =>
 bG v4 true fun w13 =>
 gO w13 (some x6) fun v14 =>
 bG v4 true fun w15 =>
 gO w15 (aixS 2 v12 v14) fun v16 =>
 bG v4 true fun w17 =>
 gO w17 (ashift 0 v16) fun v18 =>
 bG v4 true fun w19 =>
 gO w19 (ald false 1 H v18) fun v20 =>
 bG v4 true fun w21 =>
 gO w21 (some x1) fun v22 =>
 bG v4 true fun w23 =>
 gO w23 (abT .lss v20 v22) fun v24 =>
 bO (apick v4 v24 (.lit (.bool false))) fun v25 =>
 bB v25 fun t26 => bI t26 (
 bO (abI .add x6 (.lit (.int .i64 1))) fun v27 =>
 R2 [x0, x1, x2, v27] H)
 (bO (anilCheck x0) fun v28 =>
 bO (ashift 0 v28) fun v29 =>
 bO (ald false 1 H v29) fun v30 =>
 bO (aslS 2 v30 none (some x6) none) fun v31 =>
 bH (aap 2 24 H (.lit (.slice none 0 0)) v31) fun v32 H33 =>
 bO (abl [(.lit (.string ⟨#[]⟩)), (.lit (.int .i64 0))] [(0, 1, x1), (1, 1, x2)]) fun v34 =>
 bH (absl H33 2 1 (zrow [(.lit (.string ⟨#[]⟩)), (.lit (.int .i64 0))] 1) [(0, 2, v34)]) fun v35 H36 =>
 bH (aap 2 24 H36 v32 v35) fun v37 H38 =>
 bO (anilCheck x0) fun v39 =>
 bO (ashift 0 v39) fun v40 =>
 bO (ald false 1 H38 v40) fun v41 =>
 bO (aslS 2 v41 (some x6) none none) fun v42 =>
 bH (aap 2 24 H38 v37 v42) fun v43 H44 =>
 bO (anilCheck x0) fun v45 =>
 bO (ashift 0 v45) fun v46 =>
 bS (ast 1 H44 v46 v43) fun H47 =>
 K (.tup []) H47)
theorem salvorref11_called_L2_eq (R2 : List AV → AH → Prop) (x0 x1 x2 x6 : AV) (H : AH) (K : AV → AH → Prop) : salvorref11_called_c [true, false, false, false] 3 (expand (mk 53 0 [0, 1, 2, 6]) [x0, x1, x2, x6]) H (kLp (mk 53 0 [0, 1, 2, 6]) R2 (kBlk 0 (kSeq (salvorref11_called_c [true, true] 5) (kRet Try.prog Try.f45.results.toList K)))) = salvorref11_called_L2_b R2 x0 x1 x2 x6 H K := by kernel_rfl
theorem salvorref11_called_L2_rule {K : AV → AH → Prop} (I : Nat → AV → AV → AV → AV → AH → Prop) (round : ∀ (n : Nat) (x0 x1 x2 x6 : AV) (H : AH) (R : List AV → AH → Prop), (∀ (m : Nat) (y0 y1 y2 y6 : AV) (H' : AH), m < n → I m y0 y1 y2 y6 H' → R [y0, y1, y2, y6] H') → I n x0 x1 x2 x6 H → salvorref11_called_L2_b R x0 x1 x2 x6 H K) (n : Nat) {x0 x1 x2 x6 : AV} {H : AH} (h : I n x0 x1 x2 x6 H) : salvorref11_called_L2 x0 x1 x2 x6 H K := by
  refine lp_upto (sCode_one _ _) (LI4 I) ?_ n h
  intro n X H h
  obtain ⟨x0, x1, x2, x6, rfl, h⟩ := h.elim
  exact Eq.mpr (salvorref11_called_L2_eq _ x0 x1 x2 x6 H K) (round n x0 x1 x2 x6 H (fun X H' => ∃ m, m < n ∧ LI4 I m X H') (fun m y0 y1 y2 y6 H' hm hi => ⟨m, hm, hi⟩) h)
def salvorref11_called (a0 a1 a2 : AV) (H : AH) (K : AV → AH → Prop) : Prop :=
 salvorref11_called_L2 a0 a1 a2 (.lit (.int .i64 0)) H K
theorem salvorref11_called_eq (a0 a1 a2 : AV) (H : AH) (K : AV → AH → Prop) : sFun Try.prog salvorref11_called_fl pqb none0 none0 salvorref11_called_kp Try.f45 [a0, a1, a2] H K = salvorref11_called a0 a1 a2 H K := by kernel_rfl
theorem salvorref11_called_ok {a0 a1 a2 : AV} {H : AH} {K : AV → AH → Prop} (h : salvorref11_called a0 a1 a2 H K) : ∃ r H', K r H' ∧ BCall Try.prog 45 [a0, a1, a2] H r H' :=
  sFun_ok mixP Try.func45 (by kernel_rfl) (Eq.mpr (salvorref11_called_eq a0 a1 a2 H K) h)
/-! salvor/salvorref11.gone -/
def salvorref11_gone_fl : Floats := flOf [(2, [(11, none), (14, none)]), (5, [(11, none), (14, none)])]
def salvorref11_gone_kp : Nat → Option (List Bool) := kpOf []
def salvorref11_gone_c (p : List Bool) (n : Nat) : List AV → AH → Kf → Prop := sCode Try.prog salvorref11_gone_fl pqb none0 none0 salvorref11_gone_kp (sub p (bodyOf Try.f46)) n
def salvorref11_gone (a0 a1 a2 : AV) (H : AH) (K : AV → AH → Prop) : Prop :=
 bO (anilCheck a0) fun v0 =>
 bO (ald true 2 H v0) fun v1 =>
 bP (PCall Try.prog 43 [v1, a1] H) fun v2 =>
 bO (anilCheck a0) fun v3 =>
 bO (ashift 0 v3) fun v4 =>
 bO (ald false 1 H v4) fun v5 =>
 bO (aixS 2 v5 v2) fun v6 =>
 bO (ashift 1 v6) fun v7 =>
 bO (ald false 1 H v7) fun v8 =>
 bO (anilCheck a0) fun v9 =>
 bO (ashift 0 v9) fun v10 =>
 bO (ald false 1 H v10) fun v11 =>
 bO (aslS 2 v11 none (some v2) none) fun v12 =>
 bH (aap 2 24 H (.lit (.slice none 0 0)) v12) fun v13 H14 =>
 bO (anilCheck a0) fun v15 =>
 bO (ashift 0 v15) fun v16 =>
 bO (ald false 1 H14 v16) fun v17 =>
 bO (abI .add v2 (.lit (.int .i64 1))) fun v18 =>
 bO (aslS 2 v17 (some v18) none none) fun v19 =>
 bH (aap 2 24 H14 v13 v19) fun v20 H21 =>
 bO (anilCheck a0) fun v22 =>
 bO (ashift 0 v22) fun v23 =>
 bS (ast 1 H21 v23 v20) fun H24 =>
(ald false 1 H v16 = some v17) ∧
(aslS 2 v17 (some v18) none none = some v19) ∧
 bO (anilCheck a0) fun v25 =>
 bO (ald true 2 H24 v25) fun v26 =>
 bP (PCall Try.prog 44 [v26, v8] H24) fun v27 =>
 bB a2 fun t28 => bI t28 (
 bO (anilCheck a0) fun v29 =>
 bO (ashift 1 v29) fun v30 =>
 bO (ald false 1 H24 v30) fun v31 =>
 bO (aslS 3 v31 none (some v27) none) fun v32 =>
 bH (aap 3 40 H24 (.lit (.slice none 0 0)) v32) fun v33 H34 =>
 bO (anilCheck a0) fun v35 =>
 bO (ashift 1 v35) fun v36 =>
 bO (ald false 1 H34 v36) fun v37 =>
 bO (abI .add v27 (.lit (.int .i64 1))) fun v38 =>
 bO (aslS 3 v37 (some v38) none none) fun v39 =>
 bH (aap 3 40 H34 v33 v39) fun v40 H41 =>
 bO (anilCheck a0) fun v42 =>
 bO (ashift 1 v42) fun v43 =>
 bS (ast 1 H41 v43 v40) fun H44 =>
(ald false 1 H24 v36 = some v37) ∧
(aslS 3 v37 (some v38) none none = some v39) ∧
 K (.tup []) H44)
 (K (.tup []) H24)
theorem salvorref11_gone_eq (a0 a1 a2 : AV) (H : AH) (K : AV → AH → Prop) : sFun Try.prog salvorref11_gone_fl pqb none0 none0 salvorref11_gone_kp Try.f46 [a0, a1, a2] H K = salvorref11_gone a0 a1 a2 H K := by kernel_rfl
theorem salvorref11_gone_ok {a0 a1 a2 : AV} {H : AH} {K : AV → AH → Prop} (h : salvorref11_gone a0 a1 a2 H K) : ∃ r H', K r H' ∧ BCall Try.prog 46 [a0, a1, a2] H r H' :=
  sFun_ok mixP Try.func46 (by kernel_rfl) (Eq.mpr (salvorref11_gone_eq a0 a1 a2 H K) h)
/-! salvor/salvorref11.change -/
def salvorref11_change_fl : Floats := flOf []
def salvorref11_change_kp : Nat → Option (List Bool) := kpOf []
def salvorref11_change_c (p : List Bool) (n : Nat) : List AV → AH → Kf → Prop := sCode Try.prog salvorref11_change_fl pqb none0 none0 salvorref11_change_kp (sub p (bodyOf Try.f47)) n
def salvorref11_change (a0 a1 : AV) (H : AH) (K : AV → AH → Prop) : Prop :=
 bH (anew H a0) fun v0 H1 =>
 bH (anew H1 a1) fun v2 H3 =>
 bH (anew H3 (.agg [(.lit (.int .i64 0)), (.lit (.slice none 0 0))])) fun v4 H5 =>
 bO (ashift 0 v2) fun v6 =>
 bO (ald false 1 H5 v6) fun v7 =>
 bO (abI .eql v7 (.lit (.int .i64 2))) fun v8 =>
 bB v8 fun t9 => bI t9 (
 bO (ald true 2 H5 v0) fun v10 =>
 bO (ashift 2 v2) fun v11 =>
 bO (ald false 1 H5 v11) fun v12 =>
 bO (ashift 7 v2) fun v13 =>
 bO (ald false 1 H5 v13) fun v14 =>
 bP (PCall Try.prog 77 [v10, v12, v14] H5) fun v15 =>
 bO (aextract v15 0) fun v16 =>
 bO (aextract v15 1) fun v17 =>
 bS (ast 2 H5 v4 v16) fun H18 =>
 bO (ald true 2 H18 v4) fun v19 =>
 K (.tup [v19, v17]) H18)
 (bO (abI .eql v7 (.lit (.int .i64 3))) fun v20 =>
 bB v20 fun t21 => bI t21 (
 bO (ald true 2 H5 v0) fun v22 =>
 bO (ashift 3 v2) fun v23 =>
 bO (ald false 1 H5 v23) fun v24 =>
 bP (PCall Try.prog 78 [v22, v24] H5) fun v25 =>
 bO (aextract v25 0) fun v26 =>
 bO (aextract v25 1) fun v27 =>
 bS (ast 2 H5 v4 v26) fun H28 =>
 bO (ald true 2 H28 v4) fun v29 =>
 K (.tup [v29, v27]) H28)
 (bO (abI .eql v7 (.lit (.int .i64 4))) fun v30 =>
 bB v30 fun t31 => bI t31 (
 bO (ald true 2 H5 v0) fun v32 =>
 bO (ashift 2 v2) fun v33 =>
 bO (ald false 1 H5 v33) fun v34 =>
 bO (ashift 3 v2) fun v35 =>
 bO (ald false 1 H5 v35) fun v36 =>
 bO (ashift 4 v2) fun v37 =>
 bO (ald false 1 H5 v37) fun v38 =>
 bP (PCall Try.prog 79 [v32, v34, v36, v38] H5) fun v39 =>
 bO (aextract v39 0) fun v40 =>
 bO (aextract v39 1) fun v41 =>
 bS (ast 2 H5 v4 v40) fun H42 =>
 bO (ald true 2 H42 v4) fun v43 =>
 K (.tup [v43, v41]) H42)
 (bO (abI .eql v7 (.lit (.int .i64 5))) fun v44 =>
 bB v44 fun t45 => bI t45 (
 bO (ald true 2 H5 v0) fun v46 =>
 bO (ashift 2 v2) fun v47 =>
 bO (ald false 1 H5 v47) fun v48 =>
 bO (ashift 3 v2) fun v49 =>
 bO (ald false 1 H5 v49) fun v50 =>
 bP (PCall Try.prog 80 [v46, v48, v50] H5) fun v51 =>
 bO (aextract v51 0) fun v52 =>
 bO (aextract v51 1) fun v53 =>
 bS (ast 2 H5 v4 v52) fun H54 =>
 bO (ald true 2 H54 v4) fun v55 =>
 K (.tup [v55, v53]) H54)
 (bO (abl [(.lit (.int .i64 0)), (.lit (.slice none 0 0))] []) fun v56 =>
 bS (ast 2 H5 v4 v56) fun H57 =>
 bO (ald true 2 H57 v4) fun v58 =>
 K (.tup [v58, (.lit (.bool false))]) H57))))
theorem salvorref11_change_eq (a0 a1 : AV) (H : AH) (K : AV → AH → Prop) : sFun Try.prog salvorref11_change_fl pqb none0 none0 salvorref11_change_kp Try.f47 [a0, a1] H K = salvorref11_change a0 a1 H K := by kernel_rfl
theorem salvorref11_change_ok {a0 a1 : AV} {H : AH} {K : AV → AH → Prop} (h : salvorref11_change a0 a1 H K) : ∃ r H', K r H' ∧ BCall Try.prog 47 [a0, a1] H r H' :=
  sFun_ok mixP Try.func47 (by kernel_rfl) (Eq.mpr (salvorref11_change_eq a0 a1 H K) h)
/-! salvor/image.names -/
def image_names_fl : Floats := flOf []
def image_names_kp : Nat → Option (List Bool) := kpOf [(7, mk 58 0 [0, 4, 11, 12, 13])]
def image_names_c (p : List Bool) (n : Nat) : List AV → AH → Kf → Prop := sCode Try.prog image_names_fl pqb none0 none0 image_names_kp (sub p (bodyOf Try.f51)) n
def image_names_L7 (x0 x4 x11 x12 x13 : AV) (H : AH) (K : AV → AH → Prop) : Prop := lp (mk 58 0 [0, 4, 11, 12, 13]) (image_names_c [true, true, true, false, true, false, false] 8) [x0, x4, x11, x12, x13] H (kBlk 0 (kSeq (image_names_c [true, true, true, true] 15) (kRet Try.prog Try.f51.results.toList K)))
def image_names_L7_b (R7 : List AV → AH → Prop) (x0 x4 x11 x12 x13 : AV) (H : AH) (K : AV → AH → Prop) : Prop :=
 bO (abI .lss x13 x12) fun v0 =>
 bB v0 fun t1 => bI t1 (
 bO (aixS 2 x11 x13) fun v2 =>
 bO (ald true 2 H v2) fun v3 =>
 bH (anew H (.agg [(.lit (.string ⟨#[]⟩)), (.lit (.int .i64 0))])) fun v4 H5 =>
 bS (ast 2 H5 v4 v3) fun H6 =>
 bO (ashift 0 v4) fun v7 =>
 bO (ald false 1 H6 v7) fun v8 =>
 bP (BPure Try.prog 14 [v8]) fun v9 =>
 bO (aun .not v9) fun v10 =>
 bG v10 false fun w11 =>
 gO w11 (some x13) fun v12 =>
 bG v10 false fun w13 =>
 gO w13 (abI .gtr v12 (.lit (.int .i64 0))) fun v14 =>
 bG v10 false fun w15 =>
 gO w15 (some v14) fun v16 =>
 bG v16 true fun w17 =>
 gO w17 (some x0) fun v18 =>
 bG v16 true fun w19 =>
 gO w19 (some x13) fun v20 =>
 bG v16 true fun w21 =>
 gO w21 (abI .sub v20 (.lit (.int .i64 1))) fun v22 =>
 bG v16 true fun w23 =>
 gO w23 (aixS 2 v18 v22) fun v24 =>
 bG v16 true fun w25 =>
 gO w25 (ashift 0 v24) fun v26 =>
 bG v16 true fun w27 =>
 gO w27 (ald false 1 H6 v26) fun v28 =>
 bG v16 true fun w29 =>
 gO w29 (ashift 0 v4) fun v30 =>
 bG v16 true fun w31 =>
 gO w31 (ald false 1 H6 v30) fun v32 =>
 bG v16 true fun w33 =>
 gO w33 (abT .geq v28 v32) fun v34 =>
 bG v10 false fun w35 =>
 gO w35 (apick v16 v34 (.lit (.bool false))) fun v36 =>
 bO (apick v10 (.lit (.bool true)) v36) fun v37 =>
 bG v37 false fun w38 =>
 gO w38 (ashift 1 v4) fun v39 =>
 bG v37 false fun w40 =>
 gO w40 (ald false 1 H6 v39) fun v41 =>
 bG v37 false fun w42 =>
 gO w42 (abI .lss v41 (.lit (.int .i64 1))) fun v43 =>
 bO (apick v37 (.lit (.bool true)) v43) fun v44 =>
 bG v44 false fun w45 =>
 gO w45 (ashift 1 v4) fun v46 =>
 bG v44 false fun w47 =>
 gO w47 (ald false 1 H6 v46) fun v48 =>
 bG v44 false fun w49 =>
 gO w49 (abI .gtr v48 (.lit (.int .i64 4611686018427387904))) fun v50 =>
 bO (apick v44 (.lit (.bool true)) v50) fun v51 =>
 bG v51 false fun w52 =>
 gO w52 (some x4) fun v53 =>
 bG v51 false fun w54 =>
 gO w54 (ashift 1 v4) fun v55 =>
 bG v51 false fun w56 =>
 gO w56 (ald false 1 H6 v55) fun v57 =>
 bG v51 false fun w58 =>
 gO w58 (alk (.int .i64) (.bool false) H6 v53 v57 false) fun v59 =>
 bO (apick v51 (.lit (.bool true)) v59) fun v60 =>
 bB v60 fun t61 => bI t61 (
 K (.tup [(.lit (.map none)), (.lit (.bool false))]) H6)
 (bO (ashift 1 v4) fun v62 =>
 bO (ald false 1 H6 v62) fun v63 =>
 bS (amu (.int .i64) H6 x4 v63 (.lit (.bool true))) fun H64 =>
 bO (abI .add x13 (.lit (.int .i64 1))) fun v65 =>
 R7 [x0, x4, x11, x12, v65] H64))
 (K (.tup [x4, (.lit (.bool true))]) H)
theorem image_names_L7_eq (R7 : List AV → AH → Prop) (x0 x4 x11 x12 x13 : AV) (H : AH) (K : AV → AH → Prop) : image_names_c [true, true, true, false, true, false, false] 8 (expand (mk 58 0 [0, 4, 11, 12, 13]) [x0, x4, x11, x12, x13]) H (kLp (mk 58 0 [0, 4, 11, 12, 13]) R7 (kBlk 0 (kSeq (image_names_c [true, true, true, true] 15) (kRet Try.prog Try.f51.results.toList K)))) = image_names_L7_b R7 x0 x4 x11 x12 x13 H K := by kernel_rfl
theorem image_names_L7_rule {K : AV → AH → Prop} (I : Nat → AV → AV → AV → AV → AV → AH → Prop) (round : ∀ (n : Nat) (x0 x4 x11 x12 x13 : AV) (H : AH) (R : List AV → AH → Prop), (∀ (m : Nat) (y0 y4 y11 y12 y13 : AV) (H' : AH), m < n → I m y0 y4 y11 y12 y13 H' → R [y0, y4, y11, y12, y13] H') → I n x0 x4 x11 x12 x13 H → image_names_L7_b R x0 x4 x11 x12 x13 H K) (n : Nat) {x0 x4 x11 x12 x13 : AV} {H : AH} (h : I n x0 x4 x11 x12 x13 H) : image_names_L7 x0 x4 x11 x12 x13 H K := by
  refine lp_upto (sCode_one _ _) (LI5 I) ?_ n h
  intro n X H h
  obtain ⟨x0, x4, x11, x12, x13, rfl, h⟩ := h.elim
  exact Eq.mpr (image_names_L7_eq _ x0 x4 x11 x12 x13 H K) (round n x0 x4 x11 x12 x13 H (fun X H' => ∃ m, m < n ∧ LI5 I m X H') (fun m y0 y4 y11 y12 y13 H' hm hi => ⟨m, hm, hi⟩) h)
def image_names (a0 : AV) (H : AH) (K : AV → AH → Prop) : Prop :=
 bO (alnS a0) fun v0 =>
 bO (abI .gtr v0 (.lit (.int .i64 16))) fun v1 =>
 bB v1 fun t2 => bI t2 (
 K (.tup [(.lit (.map none)), (.lit (.bool false))]) H)
 (bH (amkM H none) fun v3 H4 =>
 bO (alnS a0) fun v5 =>
 image_names_L7 a0 v3 a0 v5 (.lit (.int .i64 0)) H4 K)
theorem image_names_eq (a0 : AV) (H : AH) (K : AV → AH → Prop) : sFun Try.prog image_names_fl pqb none0 none0 image_names_kp Try.f51 [a0] H K = image_names a0 H K := by kernel_rfl
theorem image_names_ok {a0 : AV} {H : AH} {K : AV → AH → Prop} (h : image_names a0 H K) : ∃ r H', K r H' ∧ BCall Try.prog 51 [a0] H r H' :=
  sFun_ok mixP Try.func51 (by kernel_rfl) (Eq.mpr (image_names_eq a0 H K) h)
/-! slices.Equal[[]salvor/api.Name,salvor/api.Name] -/
def slices_Equal_Lapi_Name_api_Name_fl : Floats := flOf []
def slices_Equal_Lapi_Name_api_Name_kp : Nat → Option (List Bool) := kpOf [(6, mk 26 0 [0, 1, 12, 13])]
def slices_Equal_Lapi_Name_api_Name_c (p : List Bool) (n : Nat) : List AV → AH → Kf → Prop := sCode Try.prog slices_Equal_Lapi_Name_api_Name_fl pqb none0 none0 slices_Equal_Lapi_Name_api_Name_kp (sub p (bodyOf Try.f57)) n
def slices_Equal_Lapi_Name_api_Name_L6 (x0 x1 x12 x13 : AV) (H : AH) (K : AV → AH → Prop) : Prop := lp (mk 26 0 [0, 1, 12, 13]) (slices_Equal_Lapi_Name_api_Name_c [true, true, false, true, false, false] 7) [x0, x1, x12, x13] H (kBlk 0 (kSeq (slices_Equal_Lapi_Name_api_Name_c [true, true, true] 13) (kRet Try.prog Try.f57.results.toList K)))
def slices_Equal_Lapi_Name_api_Name_L6_b (R6 : List AV → AH → Prop) (x0 x1 x12 x13 : AV) (H : AH) (K : AV → AH → Prop) : Prop :=
 bO (abI .lss x13 x12) fun v0 =>
 bB v0 fun t1 => bI t1 (
 bO (aixS 2 x0 x13) fun v2 =>
 bO (ald true 2 H v2) fun v3 =>
 bO (aixS 2 x1 x13) fun v4 =>
 bO (ald true 2 H v4) fun v5 =>
 bO (abin Try.prog .neq 57 v3 v5) fun v6 =>
 bB v6 fun t7 => bI t7 (
 K (.lit (.bool false)) H)
 (bO (abI .add x13 (.lit (.int .i64 1))) fun v8 =>
 R6 [x0, x1, x12, v8] H))
 (K (.lit (.bool true)) H)
theorem slices_Equal_Lapi_Name_api_Name_L6_eq (R6 : List AV → AH → Prop) (x0 x1 x12 x13 : AV) (H : AH) (K : AV → AH → Prop) : slices_Equal_Lapi_Name_api_Name_c [true, true, false, true, false, false] 7 (expand (mk 26 0 [0, 1, 12, 13]) [x0, x1, x12, x13]) H (kLp (mk 26 0 [0, 1, 12, 13]) R6 (kBlk 0 (kSeq (slices_Equal_Lapi_Name_api_Name_c [true, true, true] 13) (kRet Try.prog Try.f57.results.toList K)))) = slices_Equal_Lapi_Name_api_Name_L6_b R6 x0 x1 x12 x13 H K := by kernel_rfl
theorem slices_Equal_Lapi_Name_api_Name_L6_rule {K : AV → AH → Prop} (I : Nat → AV → AV → AV → AV → AH → Prop) (round : ∀ (n : Nat) (x0 x1 x12 x13 : AV) (H : AH) (R : List AV → AH → Prop), (∀ (m : Nat) (y0 y1 y12 y13 : AV) (H' : AH), m < n → I m y0 y1 y12 y13 H' → R [y0, y1, y12, y13] H') → I n x0 x1 x12 x13 H → slices_Equal_Lapi_Name_api_Name_L6_b R x0 x1 x12 x13 H K) (n : Nat) {x0 x1 x12 x13 : AV} {H : AH} (h : I n x0 x1 x12 x13 H) : slices_Equal_Lapi_Name_api_Name_L6 x0 x1 x12 x13 H K := by
  refine lp_upto (sCode_one _ _) (LI4 I) ?_ n h
  intro n X H h
  obtain ⟨x0, x1, x12, x13, rfl, h⟩ := h.elim
  exact Eq.mpr (slices_Equal_Lapi_Name_api_Name_L6_eq _ x0 x1 x12 x13 H K) (round n x0 x1 x12 x13 H (fun X H' => ∃ m, m < n ∧ LI4 I m X H') (fun m y0 y1 y12 y13 H' hm hi => ⟨m, hm, hi⟩) h)
def slices_Equal_Lapi_Name_api_Name (a0 a1 : AV) (H : AH) (K : AV → AH → Prop) : Prop :=
 bO (alnS a0) fun v0 =>
 bO (alnS a1) fun v1 =>
 bO (abI .neq v0 v1) fun v2 =>
 bB v2 fun t3 => bI t3 (
 K (.lit (.bool false)) H)
 (bO (alnS a0) fun v4 =>
 slices_Equal_Lapi_Name_api_Name_L6 a0 a1 v4 (.lit (.int .i64 0)) H K)
theorem slices_Equal_Lapi_Name_api_Name_eq (a0 a1 : AV) (H : AH) (K : AV → AH → Prop) : sFun Try.prog slices_Equal_Lapi_Name_api_Name_fl pqb none0 none0 slices_Equal_Lapi_Name_api_Name_kp Try.f57 [a0, a1] H K = slices_Equal_Lapi_Name_api_Name a0 a1 H K := by kernel_rfl
theorem slices_Equal_Lapi_Name_api_Name_ok {a0 a1 : AV} {H : AH} {K : AV → AH → Prop} (h : slices_Equal_Lapi_Name_api_Name a0 a1 H K) : ∃ r H', K r H' ∧ BCall Try.prog 57 [a0, a1] H r H' :=
  sFun_ok mixP Try.func57 (by kernel_rfl) (Eq.mpr (slices_Equal_Lapi_Name_api_Name_eq a0 a1 H K) h)
/-! slices.EqualFunc[[]salvor/api.Node,[]salvor/api.Node,salvor/api.Node,salvor/api.Node] -/
def slices_EqualFunc_Lapi_Node_Lapi_Node_api_Node_api_Node_fl : Floats := flOf []
def slices_EqualFunc_Lapi_Node_Lapi_Node_api_Node_api_Node_kp : Nat → Option (List Bool) := kpOf [(6, mk 32 0 [1, 2, 15, 16, 17])]
def slices_EqualFunc_Lapi_Node_Lapi_Node_api_Node_api_Node_c (p : List Bool) (n : Nat) : List AV → AH → Kf → Prop := sCode Try.prog slices_EqualFunc_Lapi_Node_Lapi_Node_api_Node_api_Node_fl pqb none0 none0 slices_EqualFunc_Lapi_Node_Lapi_Node_api_Node_api_Node_kp (sub p (bodyOf Try.f58)) n
def slices_EqualFunc_Lapi_Node_Lapi_Node_api_Node_api_Node_L6 (x1 x2 x15 x16 x17 : AV) (H : AH) (K : AV → AH → Prop) : Prop := lp (mk 32 0 [1, 2, 15, 16, 17]) (slices_EqualFunc_Lapi_Node_Lapi_Node_api_Node_api_Node_c [true, true, false, true, false, false] 7) [x1, x2, x15, x16, x17] H (kBlk 0 (kSeq (slices_EqualFunc_Lapi_Node_Lapi_Node_api_Node_api_Node_c [true, true, true] 14) (kRet Try.prog Try.f58.results.toList K)))
def slices_EqualFunc_Lapi_Node_Lapi_Node_api_Node_api_Node_L6_b (R6 : List AV → AH → Prop) (x1 x2 x15 x16 x17 : AV) (H : AH) (K : AV → AH → Prop) : Prop :=
 bO (abI .lss x17 x16) fun v0 =>
 bB v0 fun t1 => bI t1 (
 bO (aixS 3 x15 x17) fun v2 =>
 bO (ald true 3 H v2) fun v3 =>
 bH (anew H (.agg [(.lit (.int .i64 0)), (.lit (.int .i64 0)), (.lit (.slice none 0 0))])) fun v4 H5 =>
 bS (ast 3 H5 v4 v3) fun H6 =>
 bO (aixS 3 x1 x17) fun v7 =>
 bO (ald true 3 H6 v7) fun v8 =>
 bH (anew H6 (.agg [(.lit (.int .i64 0)), (.lit (.int .i64 0)), (.lit (.slice none 0 0))])) fun v9 H10 =>
 bS (ast 3 H10 v9 v8) fun H11 =>
 bO (ald true 3 H11 v4) fun v12 =>
 bO (ald true 3 H11 v9) fun v13 =>
 bF true x2 fun k16 f16 c16 =>
 bT (goFunc Try.prog k16 || !true) <|
 bC (BCall Try.prog k16 (f16 ++ [v12, v13] ++ c16) H11) fun v14 H15 =>
 bO (aun .not v14) fun v17 =>
 bB v17 fun t18 => bI t18 (
 K (.lit (.bool false)) H15)
 (bO (abI .add x17 (.lit (.int .i64 1))) fun v19 =>
 R6 [x1, x2, x15, x16, v19] H15))
 (K (.lit (.bool true)) H)
theorem slices_EqualFunc_Lapi_Node_Lapi_Node_api_Node_api_Node_L6_eq (R6 : List AV → AH → Prop) (x1 x2 x15 x16 x17 : AV) (H : AH) (K : AV → AH → Prop) : slices_EqualFunc_Lapi_Node_Lapi_Node_api_Node_api_Node_c [true, true, false, true, false, false] 7 (expand (mk 32 0 [1, 2, 15, 16, 17]) [x1, x2, x15, x16, x17]) H (kLp (mk 32 0 [1, 2, 15, 16, 17]) R6 (kBlk 0 (kSeq (slices_EqualFunc_Lapi_Node_Lapi_Node_api_Node_api_Node_c [true, true, true] 14) (kRet Try.prog Try.f58.results.toList K)))) = slices_EqualFunc_Lapi_Node_Lapi_Node_api_Node_api_Node_L6_b R6 x1 x2 x15 x16 x17 H K := by kernel_rfl
theorem slices_EqualFunc_Lapi_Node_Lapi_Node_api_Node_api_Node_L6_rule {K : AV → AH → Prop} (I : Nat → AV → AV → AV → AV → AV → AH → Prop) (round : ∀ (n : Nat) (x1 x2 x15 x16 x17 : AV) (H : AH) (R : List AV → AH → Prop), (∀ (m : Nat) (y1 y2 y15 y16 y17 : AV) (H' : AH), m < n → I m y1 y2 y15 y16 y17 H' → R [y1, y2, y15, y16, y17] H') → I n x1 x2 x15 x16 x17 H → slices_EqualFunc_Lapi_Node_Lapi_Node_api_Node_api_Node_L6_b R x1 x2 x15 x16 x17 H K) (n : Nat) {x1 x2 x15 x16 x17 : AV} {H : AH} (h : I n x1 x2 x15 x16 x17 H) : slices_EqualFunc_Lapi_Node_Lapi_Node_api_Node_api_Node_L6 x1 x2 x15 x16 x17 H K := by
  refine lp_upto (sCode_one _ _) (LI5 I) ?_ n h
  intro n X H h
  obtain ⟨x1, x2, x15, x16, x17, rfl, h⟩ := h.elim
  exact Eq.mpr (slices_EqualFunc_Lapi_Node_Lapi_Node_api_Node_api_Node_L6_eq _ x1 x2 x15 x16 x17 H K) (round n x1 x2 x15 x16 x17 H (fun X H' => ∃ m, m < n ∧ LI5 I m X H') (fun m y1 y2 y15 y16 y17 H' hm hi => ⟨m, hm, hi⟩) h)
def slices_EqualFunc_Lapi_Node_Lapi_Node_api_Node_api_Node (a0 a1 a2 : AV) (H : AH) (K : AV → AH → Prop) : Prop :=
 bO (alnS a0) fun v0 =>
 bO (alnS a1) fun v1 =>
 bO (abI .neq v0 v1) fun v2 =>
 bB v2 fun t3 => bI t3 (
 K (.lit (.bool false)) H)
 (bO (alnS a0) fun v4 =>
 slices_EqualFunc_Lapi_Node_Lapi_Node_api_Node_api_Node_L6 a1 a2 a0 v4 (.lit (.int .i64 0)) H K)
theorem slices_EqualFunc_Lapi_Node_Lapi_Node_api_Node_api_Node_eq (a0 a1 a2 : AV) (H : AH) (K : AV → AH → Prop) : sFun Try.prog slices_EqualFunc_Lapi_Node_Lapi_Node_api_Node_api_Node_fl pqb none0 none0 slices_EqualFunc_Lapi_Node_Lapi_Node_api_Node_api_Node_kp Try.f58 [a0, a1, a2] H K = slices_EqualFunc_Lapi_Node_Lapi_Node_api_Node_api_Node a0 a1 a2 H K := by kernel_rfl
theorem slices_EqualFunc_Lapi_Node_Lapi_Node_api_Node_api_Node_ok {a0 a1 a2 : AV} {H : AH} {K : AV → AH → Prop} (h : slices_EqualFunc_Lapi_Node_Lapi_Node_api_Node_api_Node a0 a1 a2 H K) : ∃ r H', K r H' ∧ BCall Try.prog 58 [a0, a1, a2] H r H' :=
  sFun_ok mixP Try.func58 (by kernel_rfl) (Eq.mpr (slices_EqualFunc_Lapi_Node_Lapi_Node_api_Node_api_Node_eq a0 a1 a2 H K) h)
/-! salvor/image.Same$1 -/
def image_Same_1_fl : Floats := flOf []
def image_Same_1_kp : Nat → Option (List Bool) := kpOf []
def image_Same_1_c (p : List Bool) (n : Nat) : List AV → AH → Kf → Prop := sCode Try.prog image_Same_1_fl pqb none0 none0 image_Same_1_kp (sub p (bodyOf Try.f59)) n
def image_Same_1 (a0 a1 : AV) (H : AH) (K : AV → AH → Prop) : Prop :=
 bH (anew H a0) fun v0 H1 =>
 bH (anew H1 a1) fun v2 H3 =>
 bO (ashift 0 v0) fun v4 =>
 bO (ald false 1 H3 v4) fun v5 =>
 bO (ashift 0 v2) fun v6 =>
 bO (ald false 1 H3 v6) fun v7 =>
 bO (abI .eql v5 v7) fun v8 =>
 bG v8 true fun w9 =>
 gO w9 (ashift 1 v0) fun v10 =>
 bG v8 true fun w11 =>
 gO w11 (ald true 2 H3 v10) fun v12 =>
 bG v8 true fun w13 =>
 gO w13 (ashift 1 v2) fun v14 =>
 bG v8 true fun w15 =>
 gO w15 (ald true 2 H3 v14) fun v16 =>
 bG v8 true fun w17 =>
 gP w17 (PCall Try.prog 24 [v12, v16] H3) fun v18 =>
 bO (apick v8 v18 (.lit (.bool false))) fun v19 =>
 K v19 H3
theorem image_Same_1_eq (a0 a1 : AV) (H : AH) (K : AV → AH → Prop) : sFun Try.prog image_Same_1_fl pqb none0 none0 image_Same_1_kp Try.f59 [a0, a1] H K = image_Same_1 a0 a1 H K := by kernel_rfl
theorem image_Same_1_ok {a0 a1 : AV} {H : AH} {K : AV → AH → Prop} (h : image_Same_1 a0 a1 H K) : ∃ r H', K r H' ∧ BCall Try.prog 59 [a0, a1] H r H' :=
  sFun_ok mixP Try.func59 (by kernel_rfl) (Eq.mpr (image_Same_1_eq a0 a1 H K) h)
/-! slices.Clone[[]salvor/api.Name,salvor/api.Name] -/
def slices_Clone_Lapi_Name_api_Name_fl : Floats := flOf []
def slices_Clone_Lapi_Name_api_Name_kp : Nat → Option (List Bool) := kpOf []
def slices_Clone_Lapi_Name_api_Name_c (p : List Bool) (n : Nat) : List AV → AH → Kf → Prop := sCode Try.prog slices_Clone_Lapi_Name_api_Name_fl pqb none0 none0 slices_Clone_Lapi_Name_api_Name_kp (sub p (bodyOf Try.f60)) n
def slices_Clone_Lapi_Name_api_Name (a0 : AV) (H : AH) (K : AV → AH → Prop) : Prop :=
 bO (abN .eql nilS a0 (.lit (.slice none 0 0))) fun v0 =>
 bB v0 fun t1 => bI t1 (
 K (.lit (.slice none 0 0)) H)
 (bH (absl H 2 0 (zrow [(.lit (.string ⟨#[]⟩)), (.lit (.int .i64 0))] 0) []) fun v2 H3 =>
 bH (aap 2 24 H3 v2 a0) fun v4 H5 =>
 K v4 H5)
theorem slices_Clone_Lapi_Name_api_Name_eq (a0 : AV) (H : AH) (K : AV → AH → Prop) : sFun Try.prog slices_Clone_Lapi_Name_api_Name_fl pqb none0 none0 slices_Clone_Lapi_Name_api_Name_kp Try.f60 [a0] H K = slices_Clone_Lapi_Name_api_Name a0 H K := by kernel_rfl
theorem slices_Clone_Lapi_Name_api_Name_ok {a0 : AV} {H : AH} {K : AV → AH → Prop} (h : slices_Clone_Lapi_Name_api_Name a0 H K) : ∃ r H', K r H' ∧ BCall Try.prog 60 [a0] H r H' :=
  sFun_ok mixP Try.func60 (by kernel_rfl) (Eq.mpr (slices_Clone_Lapi_Name_api_Name_eq a0 H K) h)
/-! slices.Clone[[]salvor/api.Node,salvor/api.Node] -/
def slices_Clone_Lapi_Node_api_Node_fl : Floats := flOf []
def slices_Clone_Lapi_Node_api_Node_kp : Nat → Option (List Bool) := kpOf []
def slices_Clone_Lapi_Node_api_Node_c (p : List Bool) (n : Nat) : List AV → AH → Kf → Prop := sCode Try.prog slices_Clone_Lapi_Node_api_Node_fl pqb none0 none0 slices_Clone_Lapi_Node_api_Node_kp (sub p (bodyOf Try.f61)) n
def slices_Clone_Lapi_Node_api_Node (a0 : AV) (H : AH) (K : AV → AH → Prop) : Prop :=
 bO (abN .eql nilS a0 (.lit (.slice none 0 0))) fun v0 =>
 bB v0 fun t1 => bI t1 (
 K (.lit (.slice none 0 0)) H)
 (bH (absl H 3 0 (zrow [(.lit (.int .i64 0)), (.lit (.int .i64 0)), (.lit (.slice none 0 0))] 0) []) fun v2 H3 =>
 bH (aap 3 40 H3 v2 a0) fun v4 H5 =>
 K v4 H5)
theorem slices_Clone_Lapi_Node_api_Node_eq (a0 : AV) (H : AH) (K : AV → AH → Prop) : sFun Try.prog slices_Clone_Lapi_Node_api_Node_fl pqb none0 none0 slices_Clone_Lapi_Node_api_Node_kp Try.f61 [a0] H K = slices_Clone_Lapi_Node_api_Node a0 H K := by kernel_rfl
theorem slices_Clone_Lapi_Node_api_Node_ok {a0 : AV} {H : AH} {K : AV → AH → Prop} (h : slices_Clone_Lapi_Node_api_Node a0 H K) : ∃ r H', K r H' ∧ BCall Try.prog 61 [a0] H r H' :=
  sFun_ok mixP Try.func61 (by kernel_rfl) (Eq.mpr (slices_Clone_Lapi_Node_api_Node_eq a0 H K) h)
/-! slices.BinarySearchFunc[[]salvor/api.Name,salvor/api.Name,string] -/
def slices_BinarySearchFunc_Lapi_Name_api_Name_string_fl : Floats := flOf []
def slices_BinarySearchFunc_Lapi_Name_api_Name_string_kp : Nat → Option (List Bool) := kpOf [(4, mk 49 0 [0, 1, 2, 8, 9, 10])]
def slices_BinarySearchFunc_Lapi_Name_api_Name_string_c (p : List Bool) (n : Nat) : List AV → AH → Kf → Prop := sCode Try.prog slices_BinarySearchFunc_Lapi_Name_api_Name_string_fl pqb none0 none0 slices_BinarySearchFunc_Lapi_Name_api_Name_string_kp (sub p (bodyOf Try.f62)) n
def slices_BinarySearchFunc_Lapi_Name_api_Name_string_L4 (x0 x1 x2 x8 x9 x10 : AV) (H : AH) (K : AV → AH → Prop) : Prop := lp (mk 49 0 [0, 1, 2, 8, 9, 10]) (slices_BinarySearchFunc_Lapi_Name_api_Name_string_c [true, true, true, false, false, false] 5) [x0, x1, x2, x8, x9, x10] H (kBlk 0 (kSeq (slices_BinarySearchFunc_Lapi_Name_api_Name_string_c [true, true, true, true] 9) (kRet Try.prog Try.f62.results.toList K)))
def slices_BinarySearchFunc_Lapi_Name_api_Name_string_L4_b (R4 : List AV → AH → Prop) (x0 x1 x2 x8 x9 x10 : AV) (H : AH) (K : AV → AH → Prop) : Prop :=
 bO (abI .lss x9 x10) fun v0 =>
 bB v0 fun t1 => bI t1 (
 bO (abI .add x9 x10) fun v2 =>
 bO (acI .u64 v2) fun v3 =>
 bO (abI .shr v3 (.lit (.int .u64 1))) fun v4 =>
 bO (acI .i64 v4) fun v5 =>
 bO (aixS 2 x0 v5) fun v6 =>
 bO (ald true 2 H v6) fun v7 =>
 bF true x2 fun k10 f10 c10 =>
 bT (goFunc Try.prog k10 || !true) <|
 bC (BCall Try.prog k10 (f10 ++ [v7, x1] ++ c10) H) fun v8 H9 =>
 bO (abI .lss v8 (.lit (.int .i64 0))) fun v11 =>
 bB v11 fun t12 => bI t12 (
 bO (abI .add v5 (.lit (.int .i64 1))) fun v13 =>
 R4 [x0, x1, x2, x8, v13, x10] H9)
 (R4 [x0, x1, x2, x8, x9, v5] H9))
 (bO (abI .lss x9 x8) fun v14 =>
 bG v14 true fun w15 =>
 gO w15 (some x2) fun v16 =>
 bG v14 true fun w17 =>
 gO w17 (some x0) fun v18 =>
 bG v14 true fun w19 =>
 gO w19 (some x9) fun v20 =>
 bG v14 true fun w21 =>
 gO w21 (aixS 2 v18 v20) fun v22 =>
 bG v14 true fun w23 =>
 gO w23 (ald true 2 H v22) fun v24 =>
 bG v14 true fun w25 =>
 gO w25 (some x1) fun v26 =>
 bG v14 true fun w27 =>
 bF w27 v16 fun k30 f30 c30 =>
 bT (goFunc Try.prog k30 || !w27) <|
 gC w27 (BCall Try.prog k30 (f30 ++ [v24, v26] ++ c30) H) H fun v28 H29 =>
 bG v14 true fun w31 =>
 gO w31 (abI .eql v28 (.lit (.int .i64 0))) fun v32 =>
 bO (apick v14 v32 (.lit (.bool false))) fun v33 =>
 K (.tup [x9, v33]) H29)
theorem slices_BinarySearchFunc_Lapi_Name_api_Name_string_L4_eq (R4 : List AV → AH → Prop) (x0 x1 x2 x8 x9 x10 : AV) (H : AH) (K : AV → AH → Prop) : slices_BinarySearchFunc_Lapi_Name_api_Name_string_c [true, true, true, false, false, false] 5 (expand (mk 49 0 [0, 1, 2, 8, 9, 10]) [x0, x1, x2, x8, x9, x10]) H (kLp (mk 49 0 [0, 1, 2, 8, 9, 10]) R4 (kBlk 0 (kSeq (slices_BinarySearchFunc_Lapi_Name_api_Name_string_c [true, true, true, true] 9) (kRet Try.prog Try.f62.results.toList K)))) = slices_BinarySearchFunc_Lapi_Name_api_Name_string_L4_b R4 x0 x1 x2 x8 x9 x10 H K := by kernel_rfl
theorem slices_BinarySearchFunc_Lapi_Name_api_Name_string_L4_rule {K : AV → AH → Prop} (I : Nat → AV → AV → AV → AV → AV → AV → AH → Prop) (round : ∀ (n : Nat) (x0 x1 x2 x8 x9 x10 : AV) (H : AH) (R : List AV → AH → Prop), (∀ (m : Nat) (y0 y1 y2 y8 y9 y10 : AV) (H' : AH), m < n → I m y0 y1 y2 y8 y9 y10 H' → R [y0, y1, y2, y8, y9, y10] H') → I n x0 x1 x2 x8 x9 x10 H → slices_BinarySearchFunc_Lapi_Name_api_Name_string_L4_b R x0 x1 x2 x8 x9 x10 H K) (n : Nat) {x0 x1 x2 x8 x9 x10 : AV} {H : AH} (h : I n x0 x1 x2 x8 x9 x10 H) : slices_BinarySearchFunc_Lapi_Name_api_Name_string_L4 x0 x1 x2 x8 x9 x10 H K := by
  refine lp_upto (sCode_one _ _) (LI6 I) ?_ n h
  intro n X H h
  obtain ⟨x0, x1, x2, x8, x9, x10, rfl, h⟩ := h.elim
  exact Eq.mpr (slices_BinarySearchFunc_Lapi_Name_api_Name_string_L4_eq _ x0 x1 x2 x8 x9 x10 H K) (round n x0 x1 x2 x8 x9 x10 H (fun X H' => ∃ m, m < n ∧ LI6 I m X H') (fun m y0 y1 y2 y8 y9 y10 H' hm hi => ⟨m, hm, hi⟩) h)
def slices_BinarySearchFunc_Lapi_Name_api_Name_string (a0 a1 a2 : AV) (H : AH) (K : AV → AH → Prop) : Prop :=
 bO (alnS a0) fun v0 =>
 slices_BinarySearchFunc_Lapi_Name_api_Name_string_L4 a0 a1 a2 v0 (.lit (.int .i64 0)) v0 H K
theorem slices_BinarySearchFunc_Lapi_Name_api_Name_string_eq (a0 a1 a2 : AV) (H : AH) (K : AV → AH → Prop) : sFun Try.prog slices_BinarySearchFunc_Lapi_Name_api_Name_string_fl pqb none0 none0 slices_BinarySearchFunc_Lapi_Name_api_Name_string_kp Try.f62 [a0, a1, a2] H K = slices_BinarySearchFunc_Lapi_Name_api_Name_string a0 a1 a2 H K := by kernel_rfl
theorem slices_BinarySearchFunc_Lapi_Name_api_Name_string_ok {a0 a1 a2 : AV} {H : AH} {K : AV → AH → Prop} (h : slices_BinarySearchFunc_Lapi_Name_api_Name_string a0 a1 a2 H K) : ∃ r H', K r H' ∧ BCall Try.prog 62 [a0, a1, a2] H r H' :=
  sFun_ok mixP Try.func62 (by kernel_rfl) (Eq.mpr (slices_BinarySearchFunc_Lapi_Name_api_Name_string_eq a0 a1 a2 H K) h)
/-! salvor/image.named$1 -/
def image_named_1_fl : Floats := flOf []
def image_named_1_kp : Nat → Option (List Bool) := kpOf []
def image_named_1_c (p : List Bool) (n : Nat) : List AV → AH → Kf → Prop := sCode Try.prog image_named_1_fl pqb none0 none0 image_named_1_kp (sub p (bodyOf Try.f63)) n
def image_named_1 (a0 a1 : AV) (H : AH) (K : AV → AH → Prop) : Prop :=
 bH (anew H a0) fun v0 H1 =>
 bO (ashift 0 v0) fun v2 =>
 bO (ald false 1 H1 v2) fun v3 =>
 bP (PCall Try.prog 64 [v3, a1] H1) fun v4 =>
 K v4 H1
theorem image_named_1_eq (a0 a1 : AV) (H : AH) (K : AV → AH → Prop) : sFun Try.prog image_named_1_fl pqb none0 none0 image_named_1_kp Try.f63 [a0, a1] H K = image_named_1 a0 a1 H K := by kernel_rfl
theorem image_named_1_ok {a0 a1 : AV} {H : AH} {K : AV → AH → Prop} (h : image_named_1 a0 a1 H K) : ∃ r H', K r H' ∧ BCall Try.prog 63 [a0, a1] H r H' :=
  sFun_ok mixP Try.func63 (by kernel_rfl) (Eq.mpr (image_named_1_eq a0 a1 H K) h)
/-! strings.Compare -/
def strings_Compare_fl : Floats := flOf []
def strings_Compare_kp : Nat → Option (List Bool) := kpOf []
def strings_Compare_c (p : List Bool) (n : Nat) : List AV → AH → Kf → Prop := sCode Try.prog strings_Compare_fl pqb none0 none0 strings_Compare_kp (sub p (bodyOf Try.f64)) n
def strings_Compare (a0 a1 : AV) (H : AH) (K : AV → AH → Prop) : Prop :=
 bP (PCall Try.prog 83 [a0, a1] H) fun v0 =>
 K v0 H
theorem strings_Compare_eq (a0 a1 : AV) (H : AH) (K : AV → AH → Prop) : sFun Try.prog strings_Compare_fl pqb none0 none0 strings_Compare_kp Try.f64 [a0, a1] H K = strings_Compare a0 a1 H K := by kernel_rfl
theorem strings_Compare_ok {a0 a1 : AV} {H : AH} {K : AV → AH → Prop} (h : strings_Compare a0 a1 H K) : ∃ r H', K r H' ∧ BCall Try.prog 64 [a0, a1] H r H' :=
  sFun_ok mixP Try.func64 (by kernel_rfl) (Eq.mpr (strings_Compare_eq a0 a1 H K) h)
/-! slices.BinarySearchFunc[[]salvor/api.Node,salvor/api.Node,int] -/
def slices_BinarySearchFunc_Lapi_Node_api_Node_int_fl : Floats := flOf []
def slices_BinarySearchFunc_Lapi_Node_api_Node_int_kp : Nat → Option (List Bool) := kpOf [(4, mk 49 0 [0, 1, 2, 8, 9, 10])]
def slices_BinarySearchFunc_Lapi_Node_api_Node_int_c (p : List Bool) (n : Nat) : List AV → AH → Kf → Prop := sCode Try.prog slices_BinarySearchFunc_Lapi_Node_api_Node_int_fl pqb none0 none0 slices_BinarySearchFunc_Lapi_Node_api_Node_int_kp (sub p (bodyOf Try.f65)) n
def slices_BinarySearchFunc_Lapi_Node_api_Node_int_L4 (x0 x1 x2 x8 x9 x10 : AV) (H : AH) (K : AV → AH → Prop) : Prop := lp (mk 49 0 [0, 1, 2, 8, 9, 10]) (slices_BinarySearchFunc_Lapi_Node_api_Node_int_c [true, true, true, false, false, false] 5) [x0, x1, x2, x8, x9, x10] H (kBlk 0 (kSeq (slices_BinarySearchFunc_Lapi_Node_api_Node_int_c [true, true, true, true] 9) (kRet Try.prog Try.f65.results.toList K)))
def slices_BinarySearchFunc_Lapi_Node_api_Node_int_L4_b (R4 : List AV → AH → Prop) (x0 x1 x2 x8 x9 x10 : AV) (H : AH) (K : AV → AH → Prop) : Prop :=
 bO (abI .lss x9 x10) fun v0 =>
 bB v0 fun t1 => bI t1 (
 bO (abI .add x9 x10) fun v2 =>
 bO (acI .u64 v2) fun v3 =>
 bO (abI .shr v3 (.lit (.int .u64 1))) fun v4 =>
 bO (acI .i64 v4) fun v5 =>
 bO (aixS 3 x0 v5) fun v6 =>
 bO (ald true 3 H v6) fun v7 =>
 bF true x2 fun k10 f10 c10 =>
 bT (goFunc Try.prog k10 || !true) <|
 bC (BCall Try.prog k10 (f10 ++ [v7, x1] ++ c10) H) fun v8 H9 =>
 bO (abI .lss v8 (.lit (.int .i64 0))) fun v11 =>
 bB v11 fun t12 => bI t12 (
 bO (abI .add v5 (.lit (.int .i64 1))) fun v13 =>
 R4 [x0, x1, x2, x8, v13, x10] H9)
 (R4 [x0, x1, x2, x8, x9, v5] H9))
 (bO (abI .lss x9 x8) fun v14 =>
 bG v14 true fun w15 =>
 gO w15 (some x2) fun v16 =>
 bG v14 true fun w17 =>
 gO w17 (some x0) fun v18 =>
 bG v14 true fun w19 =>
 gO w19 (some x9) fun v20 =>
 bG v14 true fun w21 =>
 gO w21 (aixS 3 v18 v20) fun v22 =>
 bG v14 true fun w23 =>
 gO w23 (ald true 3 H v22) fun v24 =>
 bG v14 true fun w25 =>
 gO w25 (some x1) fun v26 =>
 bG v14 true fun w27 =>
 bF w27 v16 fun k30 f30 c30 =>
 bT (goFunc Try.prog k30 || !w27) <|
 gC w27 (BCall Try.prog k30 (f30 ++ [v24, v26] ++ c30) H) H fun v28 H29 =>
 bG v14 true fun w31 =>
 gO w31 (abI .eql v28 (.lit (.int .i64 0))) fun v32 =>
 bO (apick v14 v32 (.lit (.bool false))) fun v33 =>
 K (.tup [x9, v33]) H29)
theorem slices_BinarySearchFunc_Lapi_Node_api_Node_int_L4_eq (R4 : List AV → AH → Prop) (x0 x1 x2 x8 x9 x10 : AV) (H : AH) (K : AV → AH → Prop) : slices_BinarySearchFunc_Lapi_Node_api_Node_int_c [true, true, true, false, false, false] 5 (expand (mk 49 0 [0, 1, 2, 8, 9, 10]) [x0, x1, x2, x8, x9, x10]) H (kLp (mk 49 0 [0, 1, 2, 8, 9, 10]) R4 (kBlk 0 (kSeq (slices_BinarySearchFunc_Lapi_Node_api_Node_int_c [true, true, true, true] 9) (kRet Try.prog Try.f65.results.toList K)))) = slices_BinarySearchFunc_Lapi_Node_api_Node_int_L4_b R4 x0 x1 x2 x8 x9 x10 H K := by kernel_rfl
theorem slices_BinarySearchFunc_Lapi_Node_api_Node_int_L4_rule {K : AV → AH → Prop} (I : Nat → AV → AV → AV → AV → AV → AV → AH → Prop) (round : ∀ (n : Nat) (x0 x1 x2 x8 x9 x10 : AV) (H : AH) (R : List AV → AH → Prop), (∀ (m : Nat) (y0 y1 y2 y8 y9 y10 : AV) (H' : AH), m < n → I m y0 y1 y2 y8 y9 y10 H' → R [y0, y1, y2, y8, y9, y10] H') → I n x0 x1 x2 x8 x9 x10 H → slices_BinarySearchFunc_Lapi_Node_api_Node_int_L4_b R x0 x1 x2 x8 x9 x10 H K) (n : Nat) {x0 x1 x2 x8 x9 x10 : AV} {H : AH} (h : I n x0 x1 x2 x8 x9 x10 H) : slices_BinarySearchFunc_Lapi_Node_api_Node_int_L4 x0 x1 x2 x8 x9 x10 H K := by
  refine lp_upto (sCode_one _ _) (LI6 I) ?_ n h
  intro n X H h
  obtain ⟨x0, x1, x2, x8, x9, x10, rfl, h⟩ := h.elim
  exact Eq.mpr (slices_BinarySearchFunc_Lapi_Node_api_Node_int_L4_eq _ x0 x1 x2 x8 x9 x10 H K) (round n x0 x1 x2 x8 x9 x10 H (fun X H' => ∃ m, m < n ∧ LI6 I m X H') (fun m y0 y1 y2 y8 y9 y10 H' hm hi => ⟨m, hm, hi⟩) h)
def slices_BinarySearchFunc_Lapi_Node_api_Node_int (a0 a1 a2 : AV) (H : AH) (K : AV → AH → Prop) : Prop :=
 bO (alnS a0) fun v0 =>
 slices_BinarySearchFunc_Lapi_Node_api_Node_int_L4 a0 a1 a2 v0 (.lit (.int .i64 0)) v0 H K
theorem slices_BinarySearchFunc_Lapi_Node_api_Node_int_eq (a0 a1 a2 : AV) (H : AH) (K : AV → AH → Prop) : sFun Try.prog slices_BinarySearchFunc_Lapi_Node_api_Node_int_fl pqb none0 none0 slices_BinarySearchFunc_Lapi_Node_api_Node_int_kp Try.f65 [a0, a1, a2] H K = slices_BinarySearchFunc_Lapi_Node_api_Node_int a0 a1 a2 H K := by kernel_rfl
theorem slices_BinarySearchFunc_Lapi_Node_api_Node_int_ok {a0 a1 a2 : AV} {H : AH} {K : AV → AH → Prop} (h : slices_BinarySearchFunc_Lapi_Node_api_Node_int a0 a1 a2 H K) : ∃ r H', K r H' ∧ BCall Try.prog 65 [a0, a1, a2] H r H' :=
  sFun_ok mixP Try.func65 (by kernel_rfl) (Eq.mpr (slices_BinarySearchFunc_Lapi_Node_api_Node_int_eq a0 a1 a2 H K) h)
/-! salvor/image.node$1 -/
def image_node_1_fl : Floats := flOf []
def image_node_1_kp : Nat → Option (List Bool) := kpOf []
def image_node_1_c (p : List Bool) (n : Nat) : List AV → AH → Kf → Prop := sCode Try.prog image_node_1_fl pqb none0 none0 image_node_1_kp (sub p (bodyOf Try.f66)) n
def image_node_1 (a0 a1 : AV) (H : AH) (K : AV → AH → Prop) : Prop :=
 bH (anew H a0) fun v0 H1 =>
 bO (ashift 0 v0) fun v2 =>
 bO (ald false 1 H1 v2) fun v3 =>
 bP (PCall Try.prog 67 [v3, a1] H1) fun v4 =>
 K v4 H1
theorem image_node_1_eq (a0 a1 : AV) (H : AH) (K : AV → AH → Prop) : sFun Try.prog image_node_1_fl pqb none0 none0 image_node_1_kp Try.f66 [a0, a1] H K = image_node_1 a0 a1 H K := by kernel_rfl
theorem image_node_1_ok {a0 a1 : AV} {H : AH} {K : AV → AH → Prop} (h : image_node_1 a0 a1 H K) : ∃ r H', K r H' ∧ BCall Try.prog 66 [a0, a1] H r H' :=
  sFun_ok mixP Try.func66 (by kernel_rfl) (Eq.mpr (image_node_1_eq a0 a1 H K) h)
/-! slices.Insert[[]salvor/api.Name,salvor/api.Name] -/
def slices_Insert_Lapi_Name_api_Name_fl : Floats := flOf []
def slices_Insert_Lapi_Name_api_Name_kp : Nat → Option (List Bool) := kpOf []
def slices_Insert_Lapi_Name_api_Name_un : Nat → Bool := inL []
def slices_Insert_Lapi_Name_api_Name_c (p : List Bool) (n : Nat) : List AV → AH → Kf → Prop := sCode Try.prog slices_Insert_Lapi_Name_api_Name_fl pqb pqba slices_Insert_Lapi_Name_api_Name_un slices_Insert_Lapi_Name_api_Name_kp (sub p (bodyOf Try.f69)) n
def slices_Insert_Lapi_Name_api_Name (a0 a1 a2 : AV) (H : AH) (K : AV → AH → Prop) : Prop :=
 bO (aslS 2 a0 (some a1) none none) fun v0 =>
 bO (alnS a2) fun v1 =>
 bO (abI .eql v1 (.lit (.int .i64 0))) fun v2 =>
 bB v2 fun t3 => bI t3 (
 K a0 H)
 (bO (alnS a0) fun v4 =>
 bO (abI .eql a1 v4) fun v5 =>
 bB v5 fun t6 => bI t6 (
 bH (aap 2 24 H a0 a2) fun v7 H8 =>
 K v7 H8)
 (bO (abI .add v4 v1) fun v9 =>
 bO (acpS a0) fun v10 =>
 bO (abI .gtr v9 v10) fun v11 =>
 bB v11 fun t12 => bI t12 (
 bO (aslS 2 a0 none (some a1) none) fun v13 =>
 bO (abI .add v4 v1) fun v14 =>
 bO (abI .sub v14 a1) fun v15 =>
 bH (aappZ1 H 2 24 [(.lit (.string ⟨#[]⟩)), (.lit (.int .i64 0))] v13 v15) fun v16 H17 =>
 bO (aslS 2 v16 (some a1) none none) fun v18 =>
 bH (acp 2 H17 v18 a2) fun v19 H20 =>
 bO (abI .add a1 v1) fun v21 =>
 bO (aslS 2 v16 (some v21) none none) fun v22 =>
 bO (aslS 2 a0 (some a1) none none) fun v23 =>
 bH (acp 2 H20 v22 v23) fun v24 H25 =>
 K v16 H25)
 (bO (abI .add v4 v1) fun v26 =>
 bO (aslS 2 a0 none (some v26) none) fun v27 =>
 bO (abI .add a1 v1) fun v28 =>
 bO (aslS 2 v27 (some v28) none none) fun v29 =>
 bP (ExtR Try.prog 85 [a2, v29] H) fun v30 =>
 bO (aun .not v30) fun v31 =>
 bB v31 fun t32 => bI t32 (
 bO (abI .add a1 v1) fun v33 =>
 bO (aslS 2 v27 (some v33) none none) fun v34 =>
 bO (aslS 2 v27 (some a1) none none) fun v35 =>
 bH (acp 2 H v34 v35) fun v36 H37 =>
 bO (aslS 2 v27 (some a1) none none) fun v38 =>
 bH (acp 2 H37 v38 a2) fun v39 H40 =>
 K v27 H40)
 (bO (aslS 2 v27 (some v4) none none) fun v41 =>
 bH (acp 2 H v41 a2) fun v42 H43 =>
 bO (aslS 2 v27 (some a1) none none) fun v44 =>
 bC (BCall Try.prog 86 [v44, v1] H43) fun v45 H46 =>
 K v27 H46))))
theorem slices_Insert_Lapi_Name_api_Name_eq (a0 a1 a2 : AV) (H : AH) (K : AV → AH → Prop) : sFun Try.prog slices_Insert_Lapi_Name_api_Name_fl pqb pqba slices_Insert_Lapi_Name_api_Name_un slices_Insert_Lapi_Name_api_Name_kp Try.f69 [a0, a1, a2] H K = slices_Insert_Lapi_Name_api_Name a0 a1 a2 H K := by kernel_rfl
theorem slices_Insert_Lapi_Name_api_Name_ok {a0 a1 a2 : AV} {H : AH} {K : AV → AH → Prop} (h : slices_Insert_Lapi_Name_api_Name a0 a1 a2 H K) : ACalls Try.prog 69 [a0, a1, a2] H K :=
  sFun_wp mixP Try.func69 (by kernel_rfl) (Eq.mpr (slices_Insert_Lapi_Name_api_Name_eq a0 a1 a2 H K) h)
/-! slices.Insert[[]salvor/api.Node,salvor/api.Node] -/
def slices_Insert_Lapi_Node_api_Node_fl : Floats := flOf []
def slices_Insert_Lapi_Node_api_Node_kp : Nat → Option (List Bool) := kpOf []
def slices_Insert_Lapi_Node_api_Node_un : Nat → Bool := inL []
def slices_Insert_Lapi_Node_api_Node_c (p : List Bool) (n : Nat) : List AV → AH → Kf → Prop := sCode Try.prog slices_Insert_Lapi_Node_api_Node_fl pqb pqba slices_Insert_Lapi_Node_api_Node_un slices_Insert_Lapi_Node_api_Node_kp (sub p (bodyOf Try.f70)) n
def slices_Insert_Lapi_Node_api_Node (a0 a1 a2 : AV) (H : AH) (K : AV → AH → Prop) : Prop :=
 bO (aslS 3 a0 (some a1) none none) fun v0 =>
 bO (alnS a2) fun v1 =>
 bO (abI .eql v1 (.lit (.int .i64 0))) fun v2 =>
 bB v2 fun t3 => bI t3 (
 K a0 H)
 (bO (alnS a0) fun v4 =>
 bO (abI .eql a1 v4) fun v5 =>
 bB v5 fun t6 => bI t6 (
 bH (aap 3 40 H a0 a2) fun v7 H8 =>
 K v7 H8)
 (bO (abI .add v4 v1) fun v9 =>
 bO (acpS a0) fun v10 =>
 bO (abI .gtr v9 v10) fun v11 =>
 bB v11 fun t12 => bI t12 (
 bO (aslS 3 a0 none (some a1) none) fun v13 =>
 bO (abI .add v4 v1) fun v14 =>
 bO (abI .sub v14 a1) fun v15 =>
 bH (aappZ1 H 3 40 [(.lit (.int .i64 0)), (.lit (.int .i64 0)), (.lit (.slice none 0 0))] v13 v15) fun v16 H17 =>
 bO (aslS 3 v16 (some a1) none none) fun v18 =>
 bH (acp 3 H17 v18 a2) fun v19 H20 =>
 bO (abI .add a1 v1) fun v21 =>
 bO (aslS 3 v16 (some v21) none none) fun v22 =>
 bO (aslS 3 a0 (some a1) none none) fun v23 =>
 bH (acp 3 H20 v22 v23) fun v24 H25 =>
 K v16 H25)
 (bO (abI .add v4 v1) fun v26 =>
 bO (aslS 3 a0 none (some v26) none) fun v27 =>
 bO (abI .add a1 v1) fun v28 =>
 bO (aslS 3 v27 (some v28) none none) fun v29 =>
 bP (ExtR Try.prog 87 [a2, v29] H) fun v30 =>
 bO (aun .not v30) fun v31 =>
 bB v31 fun t32 => bI t32 (
 bO (abI .add a1 v1) fun v33 =>
 bO (aslS 3 v27 (some v33) none none) fun v34 =>
 bO (aslS 3 v27 (some a1) none none) fun v35 =>
 bH (acp 3 H v34 v35) fun v36 H37 =>
 bO (aslS 3 v27 (some a1) none none) fun v38 =>
 bH (acp 3 H37 v38 a2) fun v39 H40 =>
 K v27 H40)
 (bO (aslS 3 v27 (some v4) none none) fun v41 =>
 bH (acp 3 H v41 a2) fun v42 H43 =>
 bO (aslS 3 v27 (some a1) none none) fun v44 =>
 bC (BCall Try.prog 88 [v44, v1] H43) fun v45 H46 =>
 K v27 H46))))
theorem slices_Insert_Lapi_Node_api_Node_eq (a0 a1 a2 : AV) (H : AH) (K : AV → AH → Prop) : sFun Try.prog slices_Insert_Lapi_Node_api_Node_fl pqb pqba slices_Insert_Lapi_Node_api_Node_un slices_Insert_Lapi_Node_api_Node_kp Try.f70 [a0, a1, a2] H K = slices_Insert_Lapi_Node_api_Node a0 a1 a2 H K := by kernel_rfl
theorem slices_Insert_Lapi_Node_api_Node_ok {a0 a1 a2 : AV} {H : AH} {K : AV → AH → Prop} (h : slices_Insert_Lapi_Node_api_Node a0 a1 a2 H K) : ACalls Try.prog 70 [a0, a1, a2] H K :=
  sFun_wp mixP Try.func70 (by kernel_rfl) (Eq.mpr (slices_Insert_Lapi_Node_api_Node_eq a0 a1 a2 H K) h)
/-! slices.Delete[[]salvor/api.Name,salvor/api.Name] -/
def slices_Delete_Lapi_Name_api_Name_fl : Floats := flOf []
def slices_Delete_Lapi_Name_api_Name_kp : Nat → Option (List Bool) := kpOf []
def slices_Delete_Lapi_Name_api_Name_c (p : List Bool) (n : Nat) : List AV → AH → Kf → Prop := sCode Try.prog slices_Delete_Lapi_Name_api_Name_fl pqb none0 none0 slices_Delete_Lapi_Name_api_Name_kp (sub p (bodyOf Try.f75)) n
def slices_Delete_Lapi_Name_api_Name (a0 a1 a2 : AV) (H : AH) (K : AV → AH → Prop) : Prop :=
 bO (alnS a0) fun v0 =>
 bO (aslS 2 a0 (some a1) (some a2) (some v0)) fun v1 =>
 bO (abI .eql a1 a2) fun v2 =>
 bB v2 fun t3 => bI t3 (
 K a0 H)
 (bO (alnS a0) fun v4 =>
 bO (aslS 2 a0 none (some a1) none) fun v5 =>
 bO (aslS 2 a0 (some a2) none none) fun v6 =>
 bH (aap 2 24 H v5 v6) fun v7 H8 =>
 bO (alnS v7) fun v9 =>
 bO (aslS 2 v7 (some v9) (some v4) none) fun v10 =>
 bS (acl [(.lit (.string ⟨#[]⟩)), (.lit (.int .i64 0))] H8 v10) fun H11 =>
 K v7 H11)
theorem slices_Delete_Lapi_Name_api_Name_eq (a0 a1 a2 : AV) (H : AH) (K : AV → AH → Prop) : sFun Try.prog slices_Delete_Lapi_Name_api_Name_fl pqb none0 none0 slices_Delete_Lapi_Name_api_Name_kp Try.f75 [a0, a1, a2] H K = slices_Delete_Lapi_Name_api_Name a0 a1 a2 H K := by kernel_rfl
theorem slices_Delete_Lapi_Name_api_Name_ok {a0 a1 a2 : AV} {H : AH} {K : AV → AH → Prop} (h : slices_Delete_Lapi_Name_api_Name a0 a1 a2 H K) : ∃ r H', K r H' ∧ BCall Try.prog 75 [a0, a1, a2] H r H' :=
  sFun_ok mixP Try.func75 (by kernel_rfl) (Eq.mpr (slices_Delete_Lapi_Name_api_Name_eq a0 a1 a2 H K) h)
/-! slices.Delete[[]salvor/api.Node,salvor/api.Node] -/
def slices_Delete_Lapi_Node_api_Node_fl : Floats := flOf []
def slices_Delete_Lapi_Node_api_Node_kp : Nat → Option (List Bool) := kpOf []
def slices_Delete_Lapi_Node_api_Node_c (p : List Bool) (n : Nat) : List AV → AH → Kf → Prop := sCode Try.prog slices_Delete_Lapi_Node_api_Node_fl pqb none0 none0 slices_Delete_Lapi_Node_api_Node_kp (sub p (bodyOf Try.f76)) n
def slices_Delete_Lapi_Node_api_Node (a0 a1 a2 : AV) (H : AH) (K : AV → AH → Prop) : Prop :=
 bO (alnS a0) fun v0 =>
 bO (aslS 3 a0 (some a1) (some a2) (some v0)) fun v1 =>
 bO (abI .eql a1 a2) fun v2 =>
 bB v2 fun t3 => bI t3 (
 K a0 H)
 (bO (alnS a0) fun v4 =>
 bO (aslS 3 a0 none (some a1) none) fun v5 =>
 bO (aslS 3 a0 (some a2) none none) fun v6 =>
 bH (aap 3 40 H v5 v6) fun v7 H8 =>
 bO (alnS v7) fun v9 =>
 bO (aslS 3 v7 (some v9) (some v4) none) fun v10 =>
 bS (acl [(.lit (.int .i64 0)), (.lit (.int .i64 0)), (.lit (.slice none 0 0))] H8 v10) fun H11 =>
 K v7 H11)
theorem slices_Delete_Lapi_Node_api_Node_eq (a0 a1 a2 : AV) (H : AH) (K : AV → AH → Prop) : sFun Try.prog slices_Delete_Lapi_Node_api_Node_fl pqb none0 none0 slices_Delete_Lapi_Node_api_Node_kp Try.f76 [a0, a1, a2] H K = slices_Delete_Lapi_Node_api_Node a0 a1 a2 H K := by kernel_rfl
theorem slices_Delete_Lapi_Node_api_Node_ok {a0 a1 a2 : AV} {H : AH} {K : AV → AH → Prop} (h : slices_Delete_Lapi_Node_api_Node a0 a1 a2 H K) : ∃ r H', K r H' ∧ BCall Try.prog 76 [a0, a1, a2] H r H' :=
  sFun_ok mixP Try.func76 (by kernel_rfl) (Eq.mpr (slices_Delete_Lapi_Node_api_Node_eq a0 a1 a2 H K) h)
end Go.Proofs.Ytpnfdibgfichmaa.Av
end
/-! YtpnfdibgfichmaaAvIm -/
section
/- Chapter 12: names and files, which names may be, where a name and a file lie. -/
set_option linter.unusedVariables false
set_option linter.unusedSimpArgs false
set_option maxRecDepth 100000
namespace Go.Proofs.Ytpnfdibgfichmaa.Av
open Go Go.RowKit

structure Nm where
  name : List UInt8
  ino : Int
  deriving DecidableEq
def encN (x : Nm) : List AV := [S (bstr x.name), I x.ino]
theorem encN_len (x : Nm) : (encN x).length = 2 := rfl
theorem noIdss_encN (x : Nm) : noIdss (encN x) = true := rfl
/-- A file: its number, its content; its list as memory that nobody writes. -/
structure Nd where
  ino : Int
  size : Int
  l : List Ext
  deriving DecidableEq
structure NdV where
  nd : Nd
  R : AV
  h : SV encE 9 nd.l R
abbrev NdV.ino (x : NdV) : Int := x.nd.ino
def encD (x : NdV) : List AV := [I x.nd.ino, I x.nd.size, x.R]
theorem encD_len (x : NdV) : (encD x).length = 3 := rfl
theorem noIdss_encD (x : NdV) : noIdss (encD x) = true := by simp [encD, noIdss, noIds, x.h.1]
theorem encN_0 (x : Nm) (t : List AV) : (encN x ++ t)[0]? = some (S (bstr x.name)) := rfl
theorem encN_1 (x : Nm) (t : List AV) : (encN x ++ t)[1]? = some (I x.ino) := rfl
theorem encD_0 (x : NdV) (t : List AV) : (encD x ++ t)[0]? = some (I x.nd.ino) := rfl
theorem encD_1 (x : NdV) (t : List AV) : (encD x ++ t)[1]? = some (I x.nd.size) := rfl
theorem encD_2 (x : NdV) (t : List AV) : (encD x ++ t)[2]? = some x.R := rfl
theorem encD_c (x : NdV) (t : List AV) : rdCells true 2 (encD x ++ t) 1 = some (.agg [I x.nd.size, x.R]) := by simp [rdCells, encD]
theorem koI : KO cmpI where
  eq a b := by unfold cmpI; split <;> (try split) <;> omega
  anti a b := by unfold cmpI; split <;> (try split) <;> (try split) <;> omega
  trans a b d := by unfold cmpI; intro h1 h2; split at h1 <;> split at h2 <;> (try split at h1) <;> (try split at h2) <;> split <;> omega
theorem cmpI_lt {a b : Int} : cmpI a b < 0 ↔ a < b := by unfold cmpI; split <;> (try split) <;> omega
theorem SV.oneA {α : Type} {enc : α → List AV} {sz : Nat} {l : List α} {v : AV} (h : SV enc sz l v) : oneA v = true := by
  have h2 := h.2 []
  unfold sliceCells at h2
  split at h2
  all_goals first | rfl | cases h2
/-! what may be a name -/
def mayB (y : UInt8) : Prop := (97 ≤ (y.toNat : Int) ∧ (y.toNat : Int) ≤ 122) ∨ (48 ≤ (y.toNat : Int) ∧ (y.toNat : Int) ≤ 57) ∨ (y.toNat : Int) = 46 ∨ (y.toNat : Int) = 95 ∨ (y.toNat : Int) = 45
instance (y : UInt8) : Decidable (mayB y) := by unfold mayB; infer_instance
def mayN (s : List UInt8) : Prop := s ≠ [] ∧ s.length ≤ 20 ∧ s[0]? ≠ some 45 ∧ ∀ b ∈ s, mayB b
instance (s : List UInt8) : Decidable (mayN s) := by unfold mayN; infer_instance
theorem may_p (y : UInt8) : BPure Try.prog 37 [.lit (.int .u8 y.toNat)] (B (decide (mayB y))) := BPure.flat fun H => image_may_ok (by
  unfold image_may
  unfold mayB
  by_cases c1 : (97 : Int) ≤ y.toNat
  · by_cases c2 : (y.toNat : Int) ≤ 122
    · simp [c1, c2]
    · have e1 : ¬ (y.toNat : Int) ≤ 57 := by omega
      have e2 : ¬ (y.toNat : Int) = 46 := by omega
      have e3 : ¬ (y.toNat : Int) = 95 := by omega
      have e4 : ¬ (y.toNat : Int) = 45 := by omega
      simp [c1, c2, e1, e2, e3, e4, show (48 : Int) ≤ y.toNat by omega]
  · by_cases c2 : (48 : Int) ≤ y.toNat
    · by_cases c3 : (y.toNat : Int) ≤ 57
      · simp [c1, c2, c3]
      · by_cases c4 : (y.toNat : Int) = 95
        · simp [c1, c2, c3, c4]
        · have e2 : ¬ (y.toNat : Int) = 46 := by omega
          have e4 : ¬ (y.toNat : Int) = 45 := by omega
          simp [c1, c2, c3, c4, e2, e4]
    · by_cases c4 : (y.toNat : Int) = 46
      · simp [c1, c2, c4]
      · by_cases c5 : (y.toNat : Int) = 95
        · simp [c1, c2, c4, c5]
        · by_cases c6 : (y.toNat : Int) = 45
          · simp [c1, c2, c4, c5, c6]
          · simp [c1, c2, c4, c5, c6])
theorem u8c {y : UInt8} {k : UInt8} {n : Int} (h : (k.toNat : Int) = n) : ((y.toNat : Int) = n) = (y = k) := by
  refine propext ⟨fun e => UInt8.toNat_inj.1 (by omega), fun e => by rw [e]; exact h⟩
theorem MayName_p {s : List UInt8} (hs : s.length ≤ 9223372036854775807) : BPure Try.prog 14 [S (bstr s)] (B (decide (mayN s))) := BPure.flat fun H => image_MayName_ok (by
  unfold image_MayName
  rw [bstr_nil, abT_eql, alnT_spec hs]
  have hl : ∀ t : List UInt8, t = s → 0 < t.length → t.length ≤ 20 → t[0]? ≠ some 45 → image_MayName_L6 (S (bstr t)) (I t.length) (I 0) H fun r H' => r = B (decide (mayN t)) ∧ H' = H := by
    intro t _ h0 h20 h45
    refine image_MayName_L6_rule (fun n x0 x17 x18 H' => ∃ k : Nat, k + n = t.length ∧ x0 = S (bstr t) ∧ x17 = I t.length ∧ x18 = I k ∧ H' = H ∧ ∀ m y, m < k → t[m]? = some y → mayB y) ?_ t.length ⟨0, by omega, rfl, rfl, rfl, rfl, by omega⟩
    rintro n x0 x17 x18 H' R hR ⟨k, hk, rfl, rfl, rfl, rfl, hb⟩
    unfold image_MayName_L6_b
    rcases Nat.lt_or_ge k t.length with h | h
    · have hx := List.getElem?_eq_getElem h
      generalize t[k] = y at hx
      simp [h, aivT_spec rfl hx]
      refine bP_pure (may_p y) ?_
      by_cases hy : mayB y
      · simp [hy, abI_add (a := k) (b := 1) (by omega) (by omega)]
        refine hR (n - 1) _ _ _ _ (by omega) ⟨k + 1, by omega, rfl, rfl, by simp, rfl, ?_⟩
        intro m z hm hz
        by_cases c : m = k
        · rw [c, hx] at hz; injection hz with hz; rw [← hz]; exact hy
        · exact hb m z (by omega) hz
      · have : ¬ mayN t := fun hm => hy (hm.2.2.2 y (List.mem_of_getElem? hx))
        simp [hy, this]
    · have : mayN t := ⟨fun e => by rw [e] at h0; simp at h0, h20, h45, fun b hb' => by
        obtain ⟨m, hm⟩ := List.mem_iff_getElem?.1 hb'
        have := (List.getElem?_eq_some_iff.1 hm).1
        exact hb m b (by omega) hm⟩
      simp [show ¬ k < t.length by omega, this]
  by_cases h0 : s = []
  · subst h0
    simp [mayN]
  · have hlen : 0 < s.length := List.length_pos_iff.2 h0
    by_cases h1 : s.length ≤ 20
    · have hx := List.getElem?_eq_getElem hlen
      have e20 : ¬ (20 : Int) < s.length := by omega
      generalize s[0] = y at hx
      simp [h0, bstr_size, e20, aivT_spec (k := 0) (i := 0) rfl hx]
      have e45 : ((y.toNat : Int) = 45) = (y = 45) := u8c rfl
      by_cases h2 : (y.toNat : Int) = 45
      · have : ¬ mayN s := fun hm => hm.2.2.1 (by rw [hx, e45.mp h2])
        simp [h2, this]
      · simp [h2]
        exact hl s rfl hlen h1 (by rw [hx]; intro e; injection e with e; exact h2 (e45.mpr e))
    · have e20 : (20 : Int) < s.length := by omega
      have : ¬ mayN s := fun hm => h1 hm.2.1
      simp [h0, bstr_size, e20, this])
theorem Compare_p (a b : List UInt8) : BPure Try.prog 64 [S (bstr a), S (bstr b)] (I (cmpN a b)) := BPure.flat fun H => strings_Compare_ok (by
  unfold strings_Compare
  exact bP_pure (fun H => by have := compareString_calls (bstr a) (bstr b) H; exact this) ⟨rfl, rfl⟩)
theorem named1_p (x : Nm) (s : List UInt8) : BPure Try.prog 63 [.agg (encN x), S (bstr s)] (I (cmpN x.name s)) := BPure.val (by simp [noIdss, noIds, noIdss_encN]) rfl (image_named_1_ok (by
  unfold image_named_1
  unfold encN
  simp
  refine bP_pure (Compare_p x.name s) ?_
  rfl))
theorem node1_p (x : NdV) (no : Int) : BPure Try.prog 66 [.agg (encD x), I no] (I (cmpI x.nd.ino no)) := BPure.val (by simp [noIdss, noIds, noIdss_encD]) rfl (image_node_1_ok (by
  unfold image_node_1
  unfold encD
  have h1 := SV.oneA x.h
  simp [h1]
  refine bP_pure (cmp_Compare_p x.nd.ino no) ?_
  rfl))
theorem rdh_N (x : Nm) (t : List AV) : rdCells true 2 (encN x ++ t) 0 = some (.agg (encN x)) := by
  simp [rdCells, encN]
theorem rdh_D (x : NdV) (t : List AV) : rdCells true 3 (encD x ++ t) 0 = some (.agg (encD x)) := by
  simp [rdCells, encD]
theorem goF_N : goFunc Try.prog 63 = true := by kernel_rfl
theorem srch_N {l : List Nm} {v : AV} (hv : SV encN 2 l v) (hs : srtK cmpN Nm.name l) (hl : l.length ≤ 281474976710656) (no : List UInt8) :
    BPure Try.prog 62 [v, S (bstr no), .fn (.func 63) [] []] (.tup [I (posK cmpN Nm.name l no), B (decide (hasK Nm.name l no))]) := BPure.val (by simp [noIdss, noIds, hv.1]) rfl (slices_BinarySearchFunc_Lapi_Name_api_Name_string_ok (by
  unfold slices_BinarySearchFunc_Lapi_Name_api_Name_string
  simp [hv.len]
  refine slices_BinarySearchFunc_Lapi_Name_api_Name_string_L4_rule (fun n x0 x1 x2 x8 x9 x10 H' => ∃ i j : Nat, i + n = j ∧ j ≤ l.length ∧ x0 = v ∧ x1 = S (bstr no) ∧ x2 = .fn (.func 63) [] [] ∧ x8 = I l.length ∧ x9 = I i ∧ x10 = I j ∧ H' = [] ∧ (∀ m x, m < i → l[m]? = some x → cmpN (Nm.name x) no < 0) ∧ (∀ m x, j ≤ m → l[m]? = some x → ¬ cmpN (Nm.name x) no < 0)) ?_ l.length ⟨0, l.length, by simp, by omega, rfl, rfl, rfl, rfl, rfl, rfl, rfl, by simp, fun m x hm hx => by have := (List.getElem?_eq_some_iff.1 hx).1; omega⟩
  rintro n x0 x1 x2 x8 x9 x10 H' R hR ⟨i, j, hij, hj, rfl, rfl, rfl, rfl, rfl, rfl, rfl, h1, h2⟩
  unfold slices_BinarySearchFunc_Lapi_Name_api_Name_string_L4_b
  rcases Nat.lt_or_ge i j with hlt | hge
  · have hx := List.getElem?_eq_getElem (l := l) (i := (i + j) / 2) (by omega)
    generalize l[(i + j) / 2]'(by omega) = y at hx
    simp [hlt, abI_add (a := i) (b := j) (by omega) (by omega), acI_u64 (n := (i : Int) + j) (by omega) (by omega), abI_shr1, acI_i64 (a := ((i : Int) + j) / 2) (by omega) (by omega), hv.idx encN_len hx (i := ((i : Int) + j) / 2) (by omega), goF_N, rdh_N]
    refine bC_of (named1_p y no []) ?_
    by_cases c1 : cmpN (Nm.name y) no < 0
    · simp [c1, abI_add (a := ((i : Int) + j) / 2) (b := 1) (by omega) (by omega)]
      refine hR (j - ((i + j) / 2 + 1)) _ _ _ _ _ _ _ (by omega) ⟨(i + j) / 2 + 1, j, by omega, hj, rfl, rfl, rfl, rfl, by simp, rfl, rfl, ?_, h2⟩
      intro m x hm hmx
      by_cases hm2 : m = (i + j) / 2
      · rw [hm2, hx] at hmx; injection hmx with e; rw [← e]; exact c1
      · exact koN.trans _ _ _ (srtK_get hs hmx hx (by omega)) c1
    · simp [c1]
      refine hR ((i + j) / 2 - i) _ _ _ _ _ _ _ (by omega) ⟨i, (i + j) / 2, by omega, by omega, rfl, rfl, rfl, rfl, rfl, by simp, rfl, h1, ?_⟩
      intro m x hm hmx
      by_cases hm2 : m = (i + j) / 2
      · rw [hm2, hx] at hmx; injection hmx with e; rw [← e]; exact c1
      · intro c2
        exact c1 (koN.trans _ _ _ (srtK_get hs hx hmx (by omega)) c2)
  · have hi : i = j := by omega
    subst hi
    have hp : posK cmpN Nm.name l no = i := posK_eq (by omega) h1 (fun x hx => h2 i x (by omega) hx)
    rcases Nat.lt_or_ge i l.length with hil | hil
    · have hx := List.getElem?_eq_getElem (l := l) (i := i) hil
      generalize l[i] = y at hx
      have hh : hasK Nm.name l no ↔ cmpN (Nm.name y) no = 0 := by
        rw [hasK_iff koN hs, hp, koN.eq]
        constructor
        · rintro ⟨z, hz, e⟩
          rw [hx] at hz; injection hz with hz; rw [hz, e]
        · intro e
          exact ⟨y, hx, e⟩
      simp [hil, hv.idx encN_len hx rfl, goF_N, rdh_N]
      refine bC_of (named1_p y no []) ?_
      simp [hp, hh]
    · have hn : ¬ hasK Nm.name l no := by
        rw [hasK_iff koN hs, hp]
        rintro ⟨z, hz, e⟩
        have := (List.getElem?_eq_some_iff.1 hz).1
        omega
      simp [show ¬ i < l.length by omega, hp, hn]))
theorem goF_D : goFunc Try.prog 66 = true := by kernel_rfl
theorem srch_D {l : List NdV} {v : AV} (hv : SV encD 3 l v) (hs : srtK cmpI NdV.ino l) (hl : l.length ≤ 281474976710656) (no : Int) :
    BPure Try.prog 65 [v, I no, .fn (.func 66) [] []] (.tup [I (posK cmpI NdV.ino l no), B (decide (hasK NdV.ino l no))]) := BPure.val (by simp [noIdss, noIds, hv.1]) rfl (slices_BinarySearchFunc_Lapi_Node_api_Node_int_ok (by
  unfold slices_BinarySearchFunc_Lapi_Node_api_Node_int
  simp [hv.len]
  refine slices_BinarySearchFunc_Lapi_Node_api_Node_int_L4_rule (fun n x0 x1 x2 x8 x9 x10 H' => ∃ i j : Nat, i + n = j ∧ j ≤ l.length ∧ x0 = v ∧ x1 = I no ∧ x2 = .fn (.func 66) [] [] ∧ x8 = I l.length ∧ x9 = I i ∧ x10 = I j ∧ H' = [] ∧ (∀ m x, m < i → l[m]? = some x → cmpI (NdV.ino x) no < 0) ∧ (∀ m x, j ≤ m → l[m]? = some x → ¬ cmpI (NdV.ino x) no < 0)) ?_ l.length ⟨0, l.length, by simp, by omega, rfl, rfl, rfl, rfl, rfl, rfl, rfl, by simp, fun m x hm hx => by have := (List.getElem?_eq_some_iff.1 hx).1; omega⟩
  rintro n x0 x1 x2 x8 x9 x10 H' R hR ⟨i, j, hij, hj, rfl, rfl, rfl, rfl, rfl, rfl, rfl, h1, h2⟩
  unfold slices_BinarySearchFunc_Lapi_Node_api_Node_int_L4_b
  rcases Nat.lt_or_ge i j with hlt | hge
  · have hx := List.getElem?_eq_getElem (l := l) (i := (i + j) / 2) (by omega)
    generalize l[(i + j) / 2]'(by omega) = y at hx
    simp [hlt, abI_add (a := i) (b := j) (by omega) (by omega), acI_u64 (n := (i : Int) + j) (by omega) (by omega), abI_shr1, acI_i64 (a := ((i : Int) + j) / 2) (by omega) (by omega), hv.idx encD_len hx (i := ((i : Int) + j) / 2) (by omega), goF_D, rdh_D]
    refine bC_of (node1_p y no []) ?_
    by_cases c1 : cmpI (NdV.ino y) no < 0
    · simp [c1, abI_add (a := ((i : Int) + j) / 2) (b := 1) (by omega) (by omega)]
      refine hR (j - ((i + j) / 2 + 1)) _ _ _ _ _ _ _ (by omega) ⟨(i + j) / 2 + 1, j, by omega, hj, rfl, rfl, rfl, rfl, by simp, rfl, rfl, ?_, h2⟩
      intro m x hm hmx
      by_cases hm2 : m = (i + j) / 2
      · rw [hm2, hx] at hmx; injection hmx with e; rw [← e]; exact c1
      · exact koI.trans _ _ _ (srtK_get hs hmx hx (by omega)) c1
    · simp [c1]
      refine hR ((i + j) / 2 - i) _ _ _ _ _ _ _ (by omega) ⟨i, (i + j) / 2, by omega, by omega, rfl, rfl, rfl, rfl, rfl, by simp, rfl, h1, ?_⟩
      intro m x hm hmx
      by_cases hm2 : m = (i + j) / 2
      · rw [hm2, hx] at hmx; injection hmx with e; rw [← e]; exact c1
      · intro c2
        exact c1 (koI.trans _ _ _ (srtK_get hs hx hmx (by omega)) c2)
  · have hi : i = j := by omega
    subst hi
    have hp : posK cmpI NdV.ino l no = i := posK_eq (by omega) h1 (fun x hx => h2 i x (by omega) hx)
    rcases Nat.lt_or_ge i l.length with hil | hil
    · have hx := List.getElem?_eq_getElem (l := l) (i := i) hil
      generalize l[i] = y at hx
      have hh : hasK NdV.ino l no ↔ cmpI (NdV.ino y) no = 0 := by
        rw [hasK_iff koI hs, hp, koI.eq]
        constructor
        · rintro ⟨z, hz, e⟩
          rw [hx] at hz; injection hz with hz; rw [hz, e]
        · intro e
          exact ⟨y, hx, e⟩
      simp [hil, hv.idx encD_len hx rfl, goF_D, rdh_D]
      refine bC_of (node1_p y no []) ?_
      simp [hp, hh]
    · have hn : ¬ hasK NdV.ino l no := by
        rw [hasK_iff koI hs, hp]
        rintro ⟨z, hz, e⟩
        have := (List.getElem?_eq_some_iff.1 hz).1
        omega
      simp [show ¬ i < l.length by omega, hp, hn]))
end Go.Proofs.Ytpnfdibgfichmaa.Av
end
/-! YtpnfdibgfichmaaAvMp -/
section
/- Maps whose keys are integers. -/
set_option linter.unusedVariables false
set_option linter.unusedSimpArgs false
namespace Go.Proofs.Ytpnfdibgfichmaa.Av
open Go Go.RowKit
/-- Entries, by integers. -/
def encM (ps : List (Int × AV)) : List (Value × AV) := ps.map fun p => (.int .i64 p.1, p.2)
def look (z : AV) (ps : List (Int × AV)) (k : Int) : AV := match ps.find? (fun p => p.1 == k) with
  | some p => p.2
  | none => z
theorem same_int (a b : Int) : Instr.sameNow (.int .i64) (.int .i64 a) (.int .i64 b) = some (a == b) := rfl
theorem findA_int (k : Int) : ∀ (ps : List (Int × AV)) (i : Nat), findA (.int .i64) (.int .i64 k) (encM ps) i = some ((ps.findIdx? (fun p => p.1 == k)).bind fun j => (ps[j]?).map fun p => (i + j, p.2))
  | [], i => rfl
  | p :: ps, i => by
    show (match Instr.sameNow (.int .i64) (.int .i64 k) (.int .i64 p.1) with
      | some true => some (some (i, p.2))
      | some false => findA (.int .i64) (.int .i64 k) (encM ps) (i + 1)
      | none => none) = _
    rw [same_int, List.findIdx?_cons]
    by_cases h : p.1 = k
    · have h' : (k == p.1) = true := by simp [h]
      have h2 : (p.1 == k) = true := by simp [h]
      simp [h', h2]
    · have h' : (k == p.1) = false := by simp; omega
      have h2 : (p.1 == k) = false := by simp [h]
      simp only [h', h2]
      rw [findA_int k ps (i + 1)]
      cases ps.findIdx? (fun p => p.1 == k) with
      | none => rfl
      | some j =>
        simp
        cases ps[j]? with
        | none => rfl
        | some q => simp; omega
theorem look_none {z : AV} {ps : List (Int × AV)} {k : Int} (h : ps.findIdx? (fun p => p.1 == k) = none) : look z ps k = z := by
  have : ps.find? (fun p => p.1 == k) = none := by
    rw [List.find?_eq_none]
    intro x hx
    rw [List.findIdx?_eq_none_iff] at h
    simpa using h x hx
  unfold look; rw [this]
theorem look_some {z : AV} {ps : List (Int × AV)} {k : Int} {j : Nat} (h : ps.findIdx? (fun p => p.1 == k) = some j) : ∃ p, ps[j]? = some p ∧ p.1 = k ∧ look z ps k = p.2 := by
  obtain ⟨h1, h2, h3⟩ := List.findIdx?_eq_some_iff_getElem.1 h
  refine ⟨ps[j], List.getElem?_eq_getElem h1, by simpa using h2, ?_⟩
  have : ps.find? (fun p => p.1 == k) = some ps[j] := by
    rw [List.find?_eq_some_iff_getElem]
    exact ⟨h2, j, h1, rfl, fun i hi => by simpa using h3 i hi⟩
  unfold look; rw [this]
theorem alk_int {H : AH} {o : Nat} {zv : Value} {ps : List (Int × AV)} {k : Int} (h : H[o]? = some (some (.map (encM ps)))) : alk (.int .i64) zv H (.mp o) (.lit (.int .i64 k)) false = some (look (.ofV zv) ps k) := by
  have hk : keyB (.int .i64) (.int .i64 k) = true := rfl
  unfold alk entriesA
  simp only [h, hk, if_true, findA_int]
  cases hf : ps.findIdx? (fun p => p.1 == k) with
  | none => rw [look_none hf]; rfl
  | some j =>
    obtain ⟨p, h1, h2, h3⟩ := look_some (z := .ofV zv) hf
    simp [h1, h3]
/-- An entry is set. -/
def putM (ps : List (Int × AV)) (k : Int) (v : AV) : List (Int × AV) := match ps.findIdx? (fun p => p.1 == k) with
  | some j => ps.set j (k, v)
  | none => ps ++ [(k, v)]
theorem amu_int {H : AH} {o : Nat} {ps : List (Int × AV)} {k : Int} {v : AV} (h : H[o]? = some (some (.map (encM ps)))) : amu (.int .i64) H (.mp o) (.lit (.int .i64 k)) v = some (H.set o (some (.map (encM (putM ps k v))))) := by
  have hk : keyB (.int .i64) (.int .i64 k) = true := rfl
  unfold amu putM
  simp only [h, hk, if_true, findA_int]
  cases hf : ps.findIdx? (fun p => p.1 == k) with
  | none => simp [encM]
  | some j =>
    obtain ⟨p, h1, h2, h3⟩ := look_some (z := .junk) hf
    simp [h1, encM, List.map_set]
theorem putM_look {z : AV} {ps : List (Int × AV)} {k : Int} {v : AV} (k2 : Int) : look z (putM ps k v) k2 = if k2 = k then v else look z ps k2 := by
  unfold putM
  cases hf : ps.findIdx? (fun p => p.1 == k) with
  | none =>
    rw [List.findIdx?_eq_none_iff] at hf
    unfold look
    simp only [List.find?_append]
    by_cases h : k2 = k
    · subst h
      rw [if_pos rfl]
      have : ps.find? (fun p => p.1 == k2) = none := by
        rw [List.find?_eq_none]; intro x hx; simpa using hf x hx
      rw [this]; simp
    · rw [if_neg h]
      cases ps.find? (fun p => p.1 == k2) with
      | none => simp [show ¬ k = k2 by omega]
      | some q => rfl
  | some j =>
    obtain ⟨h1, h2, h3⟩ := List.findIdx?_eq_some_iff_getElem.1 hf
    have hkj : ps[j].1 = k := by simpa using h2
    clear hf
    induction ps generalizing j with
    | nil => simp at h1
    | cons p ps ih =>
      cases j with
      | zero =>
        simp at hkj
        simp only [List.set_cons_zero]
        unfold look
        by_cases h : k2 = k
        · subst h; simp
        · rw [if_neg h, List.find?_cons_of_neg (by simp; omega), List.find?_cons_of_neg (by simp; omega)]
      | succ j =>
        simp only [List.set_cons_succ]
        have hp : p.1 ≠ k := by have := h3 0 (by omega); simpa using this
        have ih := ih j (by simpa using h1) (by simpa using h2) (fun i hi => by have := h3 (i + 1) (by omega); simpa using this) (by simpa using hkj)
        unfold look at ih ⊢
        by_cases h : p.1 = k2
        · have : k2 ≠ k := by omega
          rw [if_neg this, List.find?_cons_of_pos (by simp [h]), List.find?_cons_of_pos (by simp [h])]
        · rw [List.find?_cons_of_neg (by simp [h]), List.find?_cons_of_neg (by simp [h])]
          exact ih
end Go.Proofs.Ytpnfdibgfichmaa.Av
end
/-! YtpnfdibgfichmaaAvExtS -/
section
/- Chapter 11: where data and holes are. -/
set_option linter.unusedVariables false
set_option linter.unusedSimpArgs false
set_option maxRecDepth 100000
namespace Go.Proofs.Ytpnfdibgfichmaa.Av
open Go Go.RowKit

/-- The first place from one on that lies in a block. -/
def dataL (size pos : Int) : List Ext → Option Int
  | [] => none
  | x :: r => if max pos (x.no * 8) < min size ((x.no + 1) * 8) then some (max pos (x.no * 8)) else dataL size pos r
def dataC (size : Int) (l : List Ext) (pos : Int) : Option Int := if mayC size l ∧ 0 ≤ pos then dataL size pos l else none
theorem dataL_cons {size pos : Int} {x : Ext} {r : List Ext} : dataL size pos (x :: r) = if max pos (x.no * 8) < min size ((x.no + 1) * 8) then some (max pos (x.no * 8)) else dataL size pos r := rfl

/-- The first place from one on that lies in no block. -/
def holeR (size : Int) (l : List Ext) (pos h : Int) : Prop := pos ≤ h ∧ h ≤ size ∧ (∀ p, pos ≤ p → p < h → hasL l (p / 8)) ∧ (h = size ∨ ¬ hasL l (h / 8))
theorem holeR.uniq {size : Int} {l : List Ext} {pos h1 h2 : Int} (a : holeR size l pos h1) (b : holeR size l pos h2) : h1 = h2 := by
  rcases Int.lt_trichotomy h1 h2 with h | h | h
  · rcases a.2.2.2 with e | e
    · have := b.2.1; omega
    · exact (e (b.2.2.1 h1 a.1 h)).elim
  · exact h
  · rcases b.2.2.2 with e | e
    · have := a.2.1; omega
    · exact (e (a.2.2.1 h2 b.1 h)).elim
theorem hole_ex {size : Int} {l : List Ext} : ∀ (n : Nat) (pos : Int), size - pos = n → ∃ h, holeR size l pos h := by
  intro n
  induction n using Nat.strongRecOn with
  | ind n ih =>
    intro pos hn
    by_cases h0 : pos = size
    · exact ⟨size, by omega, by omega, fun p h1 h2 => by omega, .inl rfl⟩
    · by_cases h1 : hasL l (pos / 8)
      · obtain ⟨h, a1, a2, a3, a4⟩ := ih (size - min size ((pos / 8 + 1) * 8)).toNat (by omega) (min size ((pos / 8 + 1) * 8)) (by omega)
        refine ⟨h, by omega, a2, fun p h2 h3 => ?_, a4⟩
        by_cases h4 : p < min size ((pos / 8 + 1) * 8)
        · rw [show p / 8 = pos / 8 by omega]; exact h1
        · exact a3 p (by omega) h3
      · exact ⟨pos, by omega, by omega, fun p h2 h3 => by omega, .inr h1⟩
open Classical in
noncomputable def holeC (size : Int) (l : List Ext) (pos : Int) : Option Int := if h : mayC size l ∧ 0 ≤ pos ∧ pos < size then some (hole_ex (size := size) (l := l) (size - pos).toNat pos (by omega)).choose else none
theorem holeC_none {size : Int} {l : List Ext} {pos : Int} (h : ¬ (mayC size l ∧ 0 ≤ pos ∧ pos < size)) : holeC size l pos = none := dif_neg h
theorem holeC_some {size : Int} {l : List Ext} {pos : Int} (h : mayC size l ∧ 0 ≤ pos ∧ pos < size) : ∃ p, holeC size l pos = some p ∧ holeR size l pos p :=
  ⟨_, dif_pos h, (hole_ex (size := size) (l := l) (size - pos).toNat pos (by omega)).choose_spec⟩
end Go.Proofs.Ytpnfdibgfichmaa.Av
end
/-! YtpnfdibgfichmaaAvExtT -/
section
/- Chapter 11: what is read. -/
set_option linter.unusedVariables false
set_option linter.unusedSimpArgs false
set_option maxRecDepth 100000
namespace Go.Proofs.Ytpnfdibgfichmaa.Av
open Go Go.RowKit

/-- The byte at a place. -/
def atL (l : List Ext) (p : Int) : UInt8 := match l.find? fun x => decide (x.no = p / 8) with
  | some x => x.b.getD (p % 8).toNat 0
  | none => 0
theorem atL_none {l : List Ext} {p : Int} (h : ¬ hasL l (p / 8)) : atL l p = 0 := by
  have : l.find? (fun x => decide (x.no = p / 8)) = none := by
    rw [List.find?_eq_none]
    intro x hx he
    exact h ⟨x, hx, by simpa using he⟩
  unfold atL; rw [this]
theorem atL_some {l : List Ext} (hs : srt l) {p : Int} {k : Nat} {x : Ext} (hx : l[k]? = some x) (he : x.no = p / 8) : atL l p = x.b.getD (p % 8).toNat 0 := by
  have : l.find? (fun x => decide (x.no = p / 8)) = some x := by
    rw [List.find?_eq_some_iff_getElem]
    obtain ⟨h1, h2⟩ := List.getElem?_eq_some_iff.1 hx
    refine ⟨by simp [he], k, h1, h2, ?_⟩
    intro j hj
    have := srt_get hs (List.getElem?_eq_getElem (Nat.lt_trans hj h1)) hx hj
    simp; omega
  unfold atL; rw [this]
def inC (size : Int) (l : List Ext) (pos n : Int) : Prop := mayC size l ∧ 0 ≤ pos ∧ 0 ≤ n ∧ n ≤ 4096 ∧ pos < size
instance (size : Int) (l : List Ext) (pos n : Int) : Decidable (inC size l pos n) := by unfold inC; infer_instance
def bytesL (l : List Ext) (pos : Int) (k : Nat) : List UInt8 := (List.range k).map fun (i : Nat) => atL l (pos + (i : Int))
theorem bytesL_len (l : List Ext) (pos : Int) (k : Nat) : (bytesL l pos k).length = k := by simp [bytesL]
theorem bytesL_succ (l : List Ext) (pos : Int) (k : Nat) : bytesL l pos (k + 1) = bytesL l pos k ++ [atL l (pos + k)] := by simp [bytesL, List.range_succ]
/-- What is read. -/
def readC (size : Int) (l : List Ext) (pos n : Int) : List UInt8 := if inC size l pos n then bytesL l pos (min n (size - pos)).toNat else []

theorem srt_take {l : List Ext} (h : srt l) (k : Nat) : srt (l.take k) := List.Pairwise.sublist (List.take_sublist k l) h
theorem atL_succ {l : List Ext} (hs : srt l) {k : Nat} {y : Ext} (hx : l[k]? = some y) (p : Int) : atL (l.take (k + 1)) p = if y.no = p / 8 then y.b.getD (p % 8).toNat 0 else atL (l.take k) p := by
  split
  · rename_i h
    exact atL_some (srt_take hs (k + 1)) (k := k) (by rw [List.getElem?_take, if_pos (by omega)]; exact hx) h
  · rename_i h
    unfold atL
    rw [List.take_add_one, hx, List.find?_append]
    simp [h]
theorem bytesL_get {l : List Ext} {pos : Int} {m i : Nat} : (bytesL l pos m)[i]? = if i < m then some (atL l (pos + i)) else none := by
  unfold bytesL
  rw [List.getElem?_map]
  by_cases h : i < m
  · simp [h]
  · simp [h]
theorem read_skip {l : List Ext} (hs : srt l) {k m : Nat} {y : Ext} (hx : l[k]? = some y) {pos : Int} (h : ¬ max (y.no * 8) pos < min (y.no * 8 + 8) (pos + m)) : bytesL (l.take (k + 1)) pos m = bytesL (l.take k) pos m := by
  refine List.ext_getElem? fun i => ?_
  rw [bytesL_get, bytesL_get]
  split
  · rw [atL_succ hs hx, if_neg (by omega)]
  · rfl
theorem read_step {l : List Ext} (hs : srt l) {k m : Nat} {y : Ext} (hx : l[k]? = some y) {pos : Int} {off from' mlen : Nat} (h : max (y.no * 8) pos < min (y.no * 8 + 8) (pos + m))
    (h1 : (off : Int) = max (y.no * 8) pos - pos) (h2 : (from' : Int) = max (y.no * 8) pos - y.no * 8) (h3 : (mlen : Int) = min (y.no * 8 + 8) (pos + m) - max (y.no * 8) pos) :
    (bytesL (l.take k) pos m).take off ++ ((y.b.drop from').take mlen) ++ (bytesL (l.take k) pos m).drop (off + mlen) = bytesL (l.take (k + 1)) pos m := by
  have hb := y.hb
  refine List.ext_getElem? fun i => ?_
  have hl1 : ((bytesL (l.take k) pos m).take off).length = off := by rw [List.length_take, bytesL_len]; omega
  have hl2 : ((y.b.drop from').take mlen).length = mlen := by rw [List.length_take, List.length_drop]; omega
  by_cases c1 : i < off
  · rw [List.append_assoc, List.getElem?_append_left (by omega), List.getElem?_take, if_pos c1, bytesL_get, bytesL_get]
    split
    · rw [atL_succ hs hx, if_neg (by omega)]
    · rfl
  · by_cases c2 : i < off + mlen
    · rw [List.getElem?_append_left (by rw [List.length_append]; omega), List.getElem?_append_right (by omega), hl1, List.getElem?_take, if_pos (by omega), List.getElem?_drop, bytesL_get, if_pos (by omega), atL_succ hs hx, if_pos (by omega)]
      rw [show ((pos + (i : Int)) % 8).toNat = from' + (i - off) by omega]
      rw [List.getD_eq_getElem?_getD, List.getElem?_eq_getElem (by omega)]
      simp
    · rw [List.getElem?_append_right (by rw [List.length_append]; omega), List.length_append, hl1, hl2, List.getElem?_drop, bytesL_get, bytesL_get, show off + mlen + (i - (off + mlen)) = i by omega]
      split
      · rw [atL_succ hs hx, if_neg (by omega)]
      · rfl
theorem over_encB (a b : List UInt8) (off : Nat) : over (encB a) off (encB b) = encB (a.take off ++ b ++ a.drop (off + b.length)) := by
  unfold over
  rw [encB_len, encB_take, encB_drop, encB_app, encB_app]
theorem zrow_bytes (l : List Ext) (pos : Int) (m : Nat) : List.replicate m (AV.lit (.int .u8 0)) = encB (bytesL (l.take 0) pos m) := by
  refine List.ext_getElem? fun i => ?_
  rw [encB_get, bytesL_get, List.getElem?_replicate]
  by_cases h : i < m
  · rw [if_pos h, if_pos h]
    simp [atL]
  · rw [if_neg h, if_neg h]
    rfl
end Go.Proofs.Ytpnfdibgfichmaa.Av
end
/-! YtpnfdibgfichmaaAvExtI -/
section
/- Chapter 11: slices.Insert. -/
set_option linter.unusedVariables false
set_option linter.unusedSimpArgs false
set_option maxRecDepth 100000
namespace Go.Proofs.Ytpnfdibgfichmaa.Av
open Go Go.RowKit
/-- Copy between two slices, both told as far as it needs. -/
theorem acp_sl {H : AH} {sz o off len o2 off2 m : Nat} {cap cap2 : Room} {cs cs2 : List AV} (ho : H[o]? = some (some (.cells cs))) (h2 : H[o2]? = some (some (.cells cs2))) (hoff : off ≤ cs.length) (ht : off2 + min m len * sz ≤ cs2.length) :
    acp sz H (.sl o off len sz cap) (.sl o2 off2 m sz cap2) = some (I ((min m len : Nat) : Int), H.set o (some (.cells (over cs off ((cs2.drop off2).take (min m len * sz)))))) := by
  unfold acp acp0
  by_cases h : off2 + m * sz ≤ cs2.length
  · have e : appended H sz (.sl o2 off2 m sz cap2) = some ((cs2.drop off2).take (m * sz), m) := appended_slice (by simp [sliceCells, h2, h])
    have hm : min (min m len * sz) (m * sz) = min m len * sz := Nat.min_eq_left (Nat.mul_le_mul_right _ (Nat.min_le_left _ _))
    rw [e]
    simp only [ho, hoff, and_self, if_true, List.take_take, hm]
  · have e : appended H sz (.sl o2 off2 m sz cap2) = none := by simp [appended, sliceCells, h2, h]
    rw [e]
    simp [acpT, ho, h2, hoff, ht]
theorem size_ext (w : World) : (Go.sizeOf 90).run Try.prog w = .ok 9 w := run_sizeOf (by kernel_rfl)
theorem overlaps_no {H : AH} {oa offa la ea ka ob offb lb eb kb : Nat} {ca cb : List AV} (ha : H[oa]? = some (some (.cells ca))) (hbo : H[ob]? = some (some (.cells cb))) (hne : oa ≠ ob) (hka : ka ≠ 0) (hkb : kb ≠ 0) (hcb : cb ≠ []) :
    ExtR Try.prog 114 [.sl oa offa la ea (.ex ka), .sl ob offb lb eb (.ex kb)] H (B false) :=
  ExtR.apart (tS := 32) (tR := 4) (fn := Try.f114) (by kernel_rfl) (by kernel_rfl) (by kernel_rfl) (by kernel_rfl) (by kernel_rfl) (by kernel_rfl) size_ext ha hbo hne hka hkb hcb

/-- What Insert leaves: a slice of one's own with one block more; all other objects as they were. -/
def InsP (H : AH) (s : AV) (N : List AV) (n : Nat) (r : AV) (H' : AH) : Prop :=
  ownedS r = true ∧ sliceCells H' 9 r = some (N, n + 1) ∧ H.length ≤ H'.length ∧ (∀ i, i < H.length → i ∉ idS s → H'[i]? = H[i]?) ∧ ∀ i ∈ idS r, i ∈ idS s ∨ H.length ≤ i
theorem insE_end {H : AH} {s : AV} {cs : List AV} {n ov : Nat} {x : Ext} (hs : sliceCells H 9 s = some (cs, n)) (ho : ownedS s = true) (hn : n ≤ 100000000) (hv : H[ov]? = some (some (.cells (encE x)))) :
    ∃ r H', InsP H s (cs ++ encE x) n r H' ∧ BCall Try.prog 106 [s, I n, .sl ov 0 1 9 (.ex 1)] H r H' := by
  obtain ⟨r0, a0, -⟩ := aslS_spec hs (lo := some (I n)) (hi := none) (l := n) (k := n) (by simp [abnd]) rfl (Nat.le_refl _) (Nat.le_refl _)
  have hl := encE_len x
  obtain ⟨r, H2, a1, a2, a3, a4, a5, a6⟩ := aap_spec (bytes := 16) hs ho (appended_slice (v := .sl ov 0 1 9 (.ex 1)) (q := (encE x, 1)) (by simp [sliceCells, hv, hl, List.take_of_length_le])) (by omega)
  refine ⟨r, H2, ⟨a2, a3, a4, a5, a6⟩, slices_Insert_Lapi_Ext_api_Ext_ok ?_⟩
  unfold slices_Insert_Lapi_Ext_api_Ext
  simp [a0, alnS_spec hs, a1]
/-- Into the middle of a slice whose room is used up. -/
theorem insE_grow {H : AH} {o off n ov i : Nat} {cells : List AV} {x : Ext} (hc : H[o]? = some (some (.cells cells))) (hl : off + n * 9 ≤ cells.length) (hi : i < n) (hn : n ≤ 100000000) (hv : H[ov]? = some (some (.cells (encE x)))) :
    ACalls Try.prog 106 [.sl o off n 9 (.ex n), I i, .sl ov 0 1 9 (.ex 1)] H fun r H' => r = .sl H.length 0 (n + 1) 9 (.ge (n + 1)) ∧
      H' = H ++ [some (.cells ((cells.drop off).take (i * 9) ++ encE x ++ (cells.drop (off + i * 9)).take ((n - i) * 9)))] := by
  refine slices_Insert_Lapi_Ext_api_Ext_ok ?_
  unfold slices_Insert_Lapi_Ext_api_Ext
  have h1 : ¬ (i : Int) = n := by omega
  have hxl := encE_len x
  simp [aslS, abnd, Room.least, Room.cut, acpS, goInt, h1, show i ≤ n by omega, abI_add (a := n) (b := 1) (by omega) (by omega), abI_sub (a := (n : Int) + 1) (b := i) (by omega) (by omega), aappZ1, hc, hl, abI_add (a := i) (b := 1) (by omega) (by omega)]
  have e1 : i + (n + 1 - i) = n + 1 := by omega
  have h2 : off + i * 9 ≤ cells.length := by omega
  simp only [e1]
  simp [h2, show (i : Int) < n + 1 by omega, show (n : Int) < n + 1 by omega, show (n + 1) * 16 ≤ 140737488355328 by omega, show i ≤ n + 1 by omega, show i + 1 ≤ n + 1 by omega]
  have zl : ((List.replicate (n + 1 - i) [AV.lit (Value.int IntKind.i64 0), AV.lit (Value.int IntKind.u8 0), AV.lit (Value.int IntKind.u8 0), AV.lit (Value.int IntKind.u8 0), AV.lit (Value.int IntKind.u8 0), AV.lit (Value.int IntKind.u8 0), AV.lit (Value.int IntKind.u8 0), AV.lit (Value.int IntKind.u8 0), AV.lit (Value.int IntKind.u8 0)]).flatten).length = (n + 1 - i) * 9 := zrow_length _ _
  generalize (List.replicate (n + 1 - i) [AV.lit (Value.int IntKind.i64 0), AV.lit (Value.int IntKind.u8 0), AV.lit (Value.int IntKind.u8 0), AV.lit (Value.int IntKind.u8 0), AV.lit (Value.int IntKind.u8 0), AV.lit (Value.int IntKind.u8 0), AV.lit (Value.int IntKind.u8 0), AV.lit (Value.int IntKind.u8 0), AV.lit (Value.int IntKind.u8 0)]).flatten = Z at zl
  have hA : (List.take (i * 9) (List.drop off cells)).length = i * 9 := by rw [List.length_take, List.length_drop]; omega
  generalize hAe : List.take (i * 9) (List.drop off cells) = A at hA
  have hov := (List.getElem?_eq_some_iff.1 hv).1
  have ho := (List.getElem?_eq_some_iff.1 hc).1
  rw [acp_sl (cs := A ++ Z) (cs2 := encE x) (by simp) (by rw [List.getElem?_append_left hov]; exact hv) (by simp [hA]) (by omega)]
  simp [show (0 : Int) ≤ (i : Int) + 1 by omega, show i + 1 ≤ n + 1 by omega]
  have m1 : min 1 (n + 1 - i) = 1 := by omega
  have o1 : over (A ++ Z) (i * 9) (List.take (min 1 (n + 1 - i) * 9) (encE x)) = A ++ encE x ++ Z.drop 9 := by
    rw [m1, List.take_of_length_le (by rw [hxl]; omega)]
    unfold over
    rw [List.take_append_of_le_length (by omega), List.take_of_length_le (by omega), hxl, ← hA, List.drop_append, Nat.add_sub_cancel_left, List.drop_eq_nil_of_le (by omega), List.nil_append]
  rw [o1, acp_sl (cs := A ++ encE x ++ Z.drop 9) (cs2 := cells) (by simp) (by rw [List.getElem?_append_left ho]; exact hc) (by simp [hA, hxl]; omega) (by rw [Nat.min_self]; omega)]
  have hB : (List.take ((n - i) * 9) (List.drop (off + i * 9) cells)).length = (n - i) * 9 := by rw [List.length_take, List.length_drop]; omega
  simp
  generalize List.take ((n - i) * 9) (List.drop (off + i * 9) cells) = B' at hB
  unfold over
  have l1 : (A ++ encE x).length = (i + 1) * 9 := by rw [List.length_append, hA, hxl]; omega
  rw [← List.append_assoc, List.take_append_of_le_length (by omega), List.take_of_length_le (by omega), List.drop_eq_nil_of_le (by rw [List.length_append, l1, List.length_drop, hB]; omega), List.append_nil, List.append_assoc]

/-- .. of a slice that has room. -/
theorem insE_place {H : AH} {o off n ov i c : Nat} {cells : List AV} {x : Ext} (hc : H[o]? = some (some (.cells cells))) (hl : off + n * 9 ≤ cells.length) (hi : i < n) (hn : n ≤ 100000000) (hcn : n + 1 ≤ c) (hv : H[ov]? = some (some (.cells (encE x)))) (hne : ov ≠ o) :
    ACalls Try.prog 106 [.sl o off n 9 (.ex c), I i, .sl ov 0 1 9 (.ex 1)] H fun r H' => r = .sl o off (n + 1) 9 (.ex c) ∧
      ∃ rest, H' = H.set o (some (.cells (cells.take (off + i * 9) ++ encE x ++ (cells.drop (off + i * 9)).take ((n - i) * 9) ++ rest))) := by
  refine slices_Insert_Lapi_Ext_api_Ext_ok ?_
  unfold slices_Insert_Lapi_Ext_api_Ext
  have h1 : ¬ (i : Int) = n := by omega
  have hxl := encE_len x
  simp [aslS, abnd, Room.least, Room.cut, acpS, goInt, h1, show i ≤ n by omega, abI_add (a := n) (b := 1) (by omega) (by omega), abI_sub (a := (n : Int) + 1) (b := i) (by omega) (by omega), hc, hl, abI_add (a := i) (b := 1) (by omega) (by omega), show i ≤ c by omega, show n ≤ c by omega, show ¬ (c : Int) < n + 1 by omega, hcn, show (0 : Int) ≤ (n : Int) + 1 by omega, show (0 : Int) ≤ (i : Int) + 1 by omega, show i + 1 ≤ n + 1 by omega, show i + 1 ≤ c by omega]
  refine bP_of (overlaps_no hv hc hne (by omega) (by omega) (by intro h; rw [h] at hl; simp at hl; omega)) ?_
  simp
  have ho := (List.getElem?_eq_some_iff.1 hc).1
  have mm : min (n + 1 - i) (n - i) = n - i := by omega
  have m1 : min 1 (n + 1 - i) = 1 := by omega
  simp only [show i ≤ n + 1 by omega, if_true, bO_some]
  rw [acp_sl (cs := cells) (cs2 := cells) hc hc (by omega) (by rw [mm]; omega), mm]
  have hB : (List.take ((n - i) * 9) (List.drop (off + i * 9) cells)).length = (n - i) * 9 := by rw [List.length_take, List.length_drop]; omega
  generalize List.take ((n - i) * 9) (List.drop (off + i * 9) cells) = B' at hB
  simp only [bH_some]
  have l1 : (cells.take (off + (i + 1) * 9)).length = off + (i + 1) * 9 := by rw [List.length_take]; omega
  rw [acp_sl (cs := over cells (off + (i + 1) * 9) B') (cs2 := encE x) (by simp [ho]) (by rw [List.getElem?_set_ne (Ne.symm hne)]; exact hv) (by unfold over; simp [l1]; omega) (by omega), m1, List.take_of_length_le (l := (encE x).drop 0) (by simp [hxl])]
  simp only [bH_some, List.set_set, List.drop_zero]
  refine ⟨(cells.drop (off + (i + 1) * 9 + B'.length)), ?_⟩
  congr 3
  unfold over
  rw [hxl]
  have t1 : List.take (off + i * 9) (cells.take (off + (i + 1) * 9) ++ B' ++ cells.drop (off + (i + 1) * 9 + B'.length)) = cells.take (off + i * 9) := by
    rw [List.append_assoc, List.take_append_of_le_length (by omega), List.take_take, Nat.min_eq_left (by omega)]
  have t2 : List.drop (off + i * 9 + 9) (cells.take (off + (i + 1) * 9) ++ B' ++ cells.drop (off + (i + 1) * 9 + B'.length)) = B' ++ cells.drop (off + (i + 1) * 9 + B'.length) := by
    rw [List.append_assoc, show off + i * 9 + 9 = (cells.take (off + (i + 1) * 9)).length by omega, List.drop_left]
  rw [t1, t2, List.append_assoc]

theorem bels_app {m : Nat} : ∀ {a b : List AV}, Bels m a → Bels m b → Bels m (a ++ b)
  | [], b, _, h => h
  | x :: a, b, h1, h2 => by simp only [Bels, List.cons_append] at h1 ⊢; exact ⟨h1.1, bels_app h1.2 h2⟩
theorem bels_mem {m : Nat} : ∀ {a : List AV}, Bels m a ↔ ∀ x ∈ a, Bel m x
  | [] => by simp [Bels]
  | x :: a => by simp only [Bels, List.mem_cons, forall_eq_or_imp, bels_mem (a := a)]
theorem bels_enc (x : Ext) (m : Nat) : Bels m (encE x) := by
  rw [bels_mem]
  intro a ha
  simp only [encE, encB, List.mem_cons, List.mem_map] at ha
  rcases ha with rfl | ⟨b, _, rfl⟩ <;> simp only [Bel]
/-- Into the middle: one form, whatever room there is. -/
theorem insE_mid {H : AH} {o off n ov i : Nat} {cap : Room} {cells : List AV} {x : Ext} (hc : H[o]? = some (some (.cells cells))) (hl : off + n * 9 ≤ cells.length) (hi : i < n) (hn : n ≤ 100000000) (hv : H[ov]? = some (some (.cells (encE x)))) (hne : ov ≠ o) :
    BCall Try.prog 106 [.sl o off n 9 cap, I i, .sl ov 0 1 9 (.ex 1)] H (.sl H.length 0 (n + 1) 9 (.ge (n + 1)))
      (H.set o none ++ [some (.cells ((cells.drop off).take (i * 9) ++ encE x ++ (cells.drop (off + i * 9)).take ((n - i) * 9)))]) := by
  have ho := (List.getElem?_eq_some_iff.1 hc).1
  have hxl := encE_len x
  generalize hN : (cells.drop off).take (i * 9) ++ encE x ++ (cells.drop (off + i * 9)).take ((n - i) * 9) = N
  have hNl : N.length = (n + 1) * 9 := by
    rw [← hN, List.length_append, List.length_append, hxl, List.length_take, List.length_take, List.length_drop, List.length_drop]; omega
  have hall : ∀ c, n ≤ c → ACalls Try.prog 106 [.sl o off n 9 (.ex c), I i, .sl ov 0 1 9 (.ex 1)] H fun r H' =>
      (r = .sl H.length 0 (n + 1) 9 (.ge (n + 1)) ∧ H' = H ++ [some (.cells N)]) ∨ ∃ c rest, n + 1 ≤ c ∧ r = .sl o off (n + 1) 9 (.ex c) ∧ H' = H.set o (some (.cells (cells.take off ++ N ++ rest))) := by
    intro c hcn
    rcases Nat.lt_or_ge n c with h | h
    · refine (insE_place hc hl hi hn h hv hne).mono ?_
      rintro r H' ⟨rfl, rest, rfl⟩
      refine .inr ⟨c, rest, h, rfl, ?_⟩
      congr 3
      rw [← hN, Nat.add_comm off (i * 9), Nat.add_comm (i * 9) off]
      have : cells.take (off + i * 9) = cells.take off ++ (cells.drop off).take (i * 9) := by rw [List.take_add]
      rw [this]
      simp [List.append_assoc]
    · have : c = n := by omega
      subst this
      refine (insE_grow hc hl hi hn hv).mono ?_
      rintro r H' ⟨rfl, rfl⟩
      exact .inl ⟨rfl, by rw [hN]⟩
  have hany : ACalls Try.prog 106 [.sl o off n 9 cap, I i, .sl ov 0 1 9 (.ex 1)] H fun r H' =>
      (r = .sl H.length 0 (n + 1) 9 (.ge (n + 1)) ∧ H' = H ++ [some (.cells N)]) ∨ ∃ c rest, n + 1 ≤ c ∧ r = .sl o off (n + 1) 9 (.ex c) ∧ H' = H.set o (some (.cells (cells.take off ++ N ++ rest))) := by
    cases cap with
    | ge k => exact ACalls.room fun c _ h => hall c h
    | ex c =>
      rcases Nat.lt_or_ge c n with h | h
      · intro G vs hH hv
        exfalso
        simp only [VRs] at hv
        obtain ⟨v, r, rfl, h1, h2⟩ := hv
        simp only [VR] at h1
        obtain ⟨_, a, c', rfl, hlc, hs⟩ := h1
        simp only [SlAt] at hs
        omega
      · exact hall c h
  refine ACalls.canon hany ?_
  rintro hb r1 H1 h1
  have hbN : Bels H.length N := by
    have hbc : Bels H.length cells := hb o _ hc
    rw [bels_mem] at hbc
    rw [← hN]
    refine bels_app (bels_app ?_ (bels_enc x _)) ?_
    · rw [bels_mem]; exact fun a ha => hbc a (List.mem_of_mem_drop (List.mem_of_mem_take ha))
    · rw [bels_mem]; exact fun a ha => hbc a (List.mem_of_mem_drop (List.mem_of_mem_take ha))
  rcases h1 with ⟨rfl, rfl⟩ | ⟨c, rest, hcn, rfl, rfl⟩
  · refine ⟨_, _, _, Canon.grown hb hbN, ?_⟩
    intro G v hG hr
    refine ⟨?_, fun p ℓ h => by cases h⟩
    simp only [VR] at hr ⊢
    obtain ⟨q0, a, c, rfl, hlc, hs⟩ := hr
    refine ⟨by simp [Cfg.ren], a, c, rfl, hlc, ?_⟩
    simpa [Cfg.ren, idR, noLim] using hs
  · refine ⟨_, _, _, Canon.placed (off := off) (l := c * 9) hb ho hbN (cs1 := cells.take off ++ N ++ rest) ?_ ?_ ?_, ?_⟩
    · simp; omega
    · have : (cells.take off).length = off := by rw [List.length_take]; omega
      rw [List.append_assoc]
      conv => lhs; arg 2; arg 1; rw [← this]
      rw [List.drop_left, List.take_left]
    · rw [hNl]; omega
    · intro G v hG hr
      simp only [VR] at hr
      obtain ⟨q0, a, c', rfl, hlc, hs⟩ := hr
      simp only [SlAt] at hs
      obtain ⟨rfl, hs⟩ := hs
      have hs := hs.resolve_left (by omega)
      obtain ⟨rfl, hs2⟩ := hs
      have e : atR H.length o off H.length = (o, off) := if_pos rfl
      have e2 : atL' H.length (c' * 9) H.length = some (c' * 9) := if_pos rfl
      refine ⟨?_, ?_⟩
      · simp only [VR]
        refine ⟨by simp [Cfg.ren], _, c', rfl, by omega, ?_⟩
        simp only [SlAt]
        refine ⟨hcn, .inr ⟨by simp [Cfg.ren, e], ?_⟩⟩
        simp [Cfg.ren, e2]
      · intro p ℓ h
        unfold atL' at h
        split at h
        · rename_i hp
          injection h with h
          subst hp; subst h
          rw [e]; omega
        · cases h
end Go.Proofs.Ytpnfdibgfichmaa.Av
end
