/- What a law is handed, as abstract values: readers, one for each shape of type. -/
import Derived.Test.YthgkepaadkmhoaaAvY
import Derived.DataReads
import Derived.ChangeArms
import Derived.OpenShut
import Derived.DataElems
set_option linter.unusedVariables false
set_option linter.unusedSimpArgs false
namespace Go.Proofs.Ythgkepaadkmhoaa.Av
open Go Go.RowKit

/-- A slice that is handed: what it holds, and whether it is nil. -/
structure Sl (α : Type) where
  l : List α
  nil : Bool

/-- How values of a type are read: each one that may be handed is some x of α, written in cells. -/
structure Rd (P : Program) (t : TypeId) (α : Type) where
  size : Nat
  enc : α → List AV
  ok : α → Prop
  cells : P.cellsOf t = size
  read : ∀ {H : Type} {e : TypeId × Value → H} {W : World} {fuel : Nat} {cs : List Value} {d : DataW H × List MemPlace}, DataW.trod e P W 0 (fun _ => true) true fuel t cs = some d →
    ∃ x, ok x ∧ cs.length = size ∧ VRs (Cfg.start W) (enc x) cs ∧ ∀ u ∈ cs, u.oneCell' = true

section
variable {P : Program}
def Rd.int {t : TypeId} (k : IntKind) (hu : P.underlying t = some (.int k)) (hc : P.cellsOf t = 1) : Rd P t Int where
  size := 1
  enc n := [.lit (.int k n)]
  ok n := k.min ≤ n ∧ n ≤ k.max
  cells := hc
  read {H e W fuel cs d} h := by
    obtain ⟨n, rfl, -, hw⟩ := DataW.trod_int hu h
    refine ⟨n, by simpa [Lit.wf] using hw, rfl, .cons (by simp only [VR]) .nil, by simp [Value.oneCell']⟩
def Rd.bool {t : TypeId} (hu : P.underlying t = some .bool) (hc : P.cellsOf t = 1) : Rd P t Bool where
  size := 1
  enc b := [.lit (.bool b)]
  ok _ := True
  cells := hc
  read {H e W fuel cs d} h := by
    obtain ⟨b, rfl, -⟩ := DataW.trod_bool hu h
    exact ⟨b, trivial, rfl, .cons (by simp only [VR]) .nil, by simp [Value.oneCell']⟩
def Rd.string {t : TypeId} (hu : P.underlying t = some .string) (hc : P.cellsOf t = 1) : Rd P t ByteArray where
  size := 1
  enc s := [.lit (.string s)]
  ok s := s.size ≤ maxLen
  cells := hc
  read {H e W fuel cs d} h := by
    obtain ⟨s, rfl, -, hs⟩ := DataW.trod_string hu h
    exact ⟨s, hs, rfl, .cons (by simp only [VR]) .nil, by simp [Value.oneCell']⟩
/-- Elements that lie one behind the other. -/
theorem read_row {t : TypeId} {α : Type} (E : Rd P t α) {W : World} {a : Addr} {H : Type} {e : TypeId × Value → H} {fuel : Nat} : ∀ (n : Nat) (ds : List (DataW H × List MemPlace)), ds.length = n →
    (∀ i, i < n → (W.cells? 0 (a.add (i * P.cellsOf t)) (P.cellsOf t)).bind (DataW.trod e P W 0 (fun _ => true) true fuel t) = ds[i]?) →
    ∃ (xs : List α) (vs : List Value), xs.length = n ∧ (∀ x ∈ xs, E.ok x) ∧ vs.length = n * E.size ∧ VRs (Cfg.start W) (xs.flatMap E.enc) vs ∧ ∀ (i : Nat) (v : Value), vs[i]? = some v → W.cell? (a.add i) = some v ∧ v.oneCell' = true
  | 0, ds, hl, h => ⟨[], [], rfl, by simp, by simp, .nil, by simp⟩
  | n + 1, ds, hl, h => by
    obtain ⟨xs, vs, h1, h2, h3, h4, h5⟩ := read_row E n (ds.take n) (by rw [List.length_take]; omega) (fun i hi => by
      rw [h i (by omega), List.getElem?_take, if_pos hi])
    have hn := h n (by omega)
    rw [List.getElem?_eq_getElem (by omega)] at hn
    obtain ⟨cs, hcs, htr⟩ := Option.bind_eq_some_iff.1 hn
    obtain ⟨x, hx, hxl, hxv, hx1⟩ := E.read htr
    obtain ⟨-, hcl, hcell⟩ := World.cells?_some hcs
    refine ⟨xs ++ [x], vs ++ cs, by simp [h1], ?_, ?_, ?_, ?_⟩
    · intro y hy
      simp only [List.mem_append, List.mem_singleton] at hy
      rcases hy with hy | rfl
      · exact h2 y hy
      · exact hx
    · rw [List.length_append, h3, hxl, Nat.succ_mul]
    · rw [List.flatMap_append]
      simpa using h4.append hxv
    · intro i v hv
      rcases Nat.lt_or_ge i vs.length with hlt | hge
      · rw [List.getElem?_append_left hlt] at hv
        exact h5 i v hv
      · rw [List.getElem?_append_right hge, h3] at hv
        have hlt := (List.getElem?_eq_some_iff.1 hv).1
        have := hcell (i - n * E.size) (by rw [← hcl]; exact hlt)
        rw [hv, E.cells, Addr.add_add] at this
        rw [show n * E.size + (i - n * E.size) = i by omega] at this
        exact ⟨this, hx1 v (List.mem_of_getElem? hv)⟩
def Rd.slice {t e : TypeId} {α : Type} (E : Rd P e α) (hu : P.underlying t = some (.slice e)) (hc : P.cellsOf t = 1) : Rd P t (Sl α) where
  size := 1
  enc s := [if s.nil then .lit (.slice none 0 0) else .imm (s.l.flatMap E.enc) s.l.length E.size]
  ok s := (s.nil = true → s.l = []) ∧ s.l.length ≤ maxLen ∧ ∀ x ∈ s.l, E.ok x
  cells := hc
  read {H e' W fuel cs d} h := by
    rcases DataW.trod_slice hu h with ⟨rfl, -⟩ | ⟨a, len, cap, elems, rest, n, -, rfl, -, -, h1, h2, h3, h4, -, -⟩
    · exact ⟨⟨[], true⟩, ⟨fun _ => rfl, by simp, by simp⟩, rfl, .cons (by simp only [if_true, VR]) .nil, by simp [Value.oneCell']⟩
    · obtain ⟨xs, vs, g1, g2, g3, g4, g5⟩ := read_row E len elems h3 h4
      refine ⟨⟨xs, false⟩, ⟨by simp, by simp only; omega, g2⟩, rfl, .cons ?_ .nil, by simp [Value.oneCell']⟩
      simp only [Bool.false_eq_true, if_false, VR]
      refine ⟨a, cap, vs, by rw [g1], by omega, .inr ⟨fun hh => hh.elim id id, g5⟩, g4⟩
/-- The fields of a struct from one on. -/
structure Rds (P : Program) (fs : List Field) (off total : Nat) (α : Type) where
  enc : α → List AV
  ok : α → Prop
  le : off ≤ total
  read : ∀ {H : Type} {e : TypeId × Value → H} {W : World} {fuel : Nat} {cs : List Value} {ds : List (DataW H × List MemPlace)}, cs.length = total → ds.length = fs.length →
    (∀ (i : Nat) (f : Field), fs[i]? = some f → DataW.trod e P W 0 (fun _ => true) true fuel f.type ((cs.drop f.offset).take (P.cellsOf f.type)) = ds[i]?) →
    ∃ x, ok x ∧ VRs (Cfg.start W) (enc x) (cs.drop off) ∧ ∀ u ∈ cs.drop off, u.oneCell' = true
def Rds.nil (P : Program) (total : Nat) : Rds P [] total total Unit where
  enc _ := []
  ok _ := True
  le := Nat.le_refl _
  read {H e W fuel cs ds} hl _ _ := ⟨(), trivial, by rw [List.drop_of_length_le (by omega)]; exact .nil, by rw [List.drop_of_length_le (by omega)]; simp⟩
def Rds.cons {f : Field} {fs : List Field} {t : TypeId} {off total : Nat} {α β : Type} (E : Rd P t α) (R : Rds P fs (off + E.size) total β) (ht : f.type = t) (ho : f.offset = off) : Rds P (f :: fs) off total (α × β) where
  enc x := E.enc x.1 ++ R.enc x.2
  ok x := E.ok x.1 ∧ R.ok x.2
  le := Nat.le_trans (Nat.le_add_right _ _) R.le
  read {H e W fuel cs ds} hl hd h := by
    subst ht
    cases ds with
    | nil => simp at hd
    | cons d ds =>
      have h0 := h 0 f rfl
      simp only [List.getElem?_cons_zero] at h0
      obtain ⟨x, hx, hxl, hxv, hx1⟩ := E.read h0
      obtain ⟨y, hy, hyv, hy1⟩ := R.read hl (by simpa using hd) (fun i g hg => by simpa using h (i + 1) g (by simpa using hg))
      have e1 : cs.drop off = (cs.drop f.offset).take (P.cellsOf f.type) ++ cs.drop (off + E.size) := by
        rw [ho, E.cells]
        rw [← List.drop_drop, List.take_append_drop]
      rw [e1]
      refine ⟨(x, y), ⟨hx, hy⟩, hxv.append hyv, ?_⟩
      intro u hu
      rcases List.mem_append.1 hu with hu | hu
      · exact hx1 u hu
      · exact hy1 u hu
def Rd.struct {t : TypeId} {fs : Array Field} {total : Nat} {α : Type} (R : Rds P fs.toList 0 total α) (hu : P.underlying t = some (.struct fs)) (hc : P.cellsOf t = total) : Rd P t α where
  size := total
  enc := R.enc
  ok := R.ok
  cells := hc
  read {H e W fuel cs d} h := by
    obtain ⟨xs, n, -, -, hl, hxl, hx⟩ := DataW.trod_struct hu h
    rw [hc] at hl
    obtain ⟨x, h1, h2, h3⟩ := R.read (ds := xs) hl (by simpa using hxl) (fun i f hf => hx i f (by simpa using hf))
    exact ⟨x, h1, hl, by simpa using h2, by simpa using h3⟩
/-- An array's elements. -/
theorem read_arr {t : TypeId} {α : Type} (E : Rd P t α) {W : World} {H : Type} {e : TypeId × Value → H} {fuel : Nat} : ∀ (n : Nat) (cs : List Value) (ds : List (DataW H × List MemPlace)), ds.length = n → cs.length = n * E.size →
    (∀ i, i < n → DataW.trod e P W 0 (fun _ => true) true fuel t ((cs.drop (i * P.cellsOf t)).take (P.cellsOf t)) = ds[i]?) →
    ∃ (xs : List α), xs.length = n ∧ (∀ x ∈ xs, E.ok x) ∧ VRs (Cfg.start W) (xs.flatMap E.enc) cs ∧ ∀ u ∈ cs, u.oneCell' = true
  | 0, cs, ds, hl, hc, h => by
    have : cs = [] := List.eq_nil_of_length_eq_zero (by simpa using hc)
    subst this
    exact ⟨[], rfl, by simp, .nil, by simp⟩
  | n + 1, cs, d :: ds, hl, hc, h => by
    have h0 := h 0 (by omega)
    simp only [Nat.zero_mul, List.drop_zero, List.getElem?_cons_zero] at h0
    obtain ⟨x, hx, hxl, hxv, hx1⟩ := E.read h0
    obtain ⟨xs, h1, h2, h3, h4⟩ := read_arr E n (cs.drop E.size) ds (by simpa using hl) (by rw [List.length_drop, hc, Nat.succ_mul]; omega) (fun i hi => by
      have := h (i + 1) (by omega)
      rw [List.getElem?_cons_succ] at this
      rw [← this, List.drop_drop, E.cells]
      congr 3
      rw [Nat.succ_mul]; omega)
    refine ⟨x :: xs, by simp [h1], ?_, ?_, ?_⟩
    · intro y hy
      rcases List.mem_cons.1 hy with rfl | hy
      · exact hx
      · exact h2 y hy
    · rw [List.flatMap_cons, ← List.take_append_drop E.size cs]
      rw [E.cells] at hxv
      exact hxv.append h3
    · intro u hu
      rw [← List.take_append_drop E.size cs] at hu
      rcases List.mem_append.1 hu with hu | hu
      · exact hx1 u (by rw [E.cells]; exact hu)
      · exact h4 u hu
def Rd.array {t e : TypeId} {α : Type} (n : Nat) (E : Rd P e α) (hu : P.underlying t = some (.array n e)) (hc : P.cellsOf t = n * E.size) : Rd P t (List α) where
  size := n * E.size
  enc xs := xs.flatMap E.enc
  ok xs := xs.length = n ∧ ∀ x ∈ xs, E.ok x
  cells := hc
  read {H e' W fuel cs d} h := by
    obtain ⟨xs, m, -, -, hl, hxl, hx⟩ := DataW.trod_array hu h
    rw [hc] at hl
    obtain ⟨ys, h1, h2, h3, h4⟩ := read_arr E n cs xs hxl hl hx
    exact ⟨ys, ⟨h1, h2⟩, hl, h3, h4⟩
/-- A whole argument: one cell, or a struct's (an array's) cells. -/
theorem Rd.arg1 {t : TypeId} {α : Type} (E : Rd P t α) {H : Type} {e : TypeId × Value → H} {W : World} {v : Value} {d : DataW H} {ps : List MemPlace} (hv : v.cells = #[v])
    (h : DataW.Trod e P W 0 (fun _ => true) true t v d ps) : ∃ x, E.ok x ∧ VRs (Cfg.start W) (E.enc x) [v] := by
  obtain ⟨fuel, h⟩ := h
  obtain ⟨x, h1, -, h2, -⟩ := E.read h
  rw [hv] at h2
  exact ⟨x, h1, h2⟩
theorem Rd.argN {t : TypeId} {α : Type} (E : Rd P t α) {H : Type} {e : TypeId × Value → H} {W : World} {cs : Array Value} {d : DataW H} {ps : List MemPlace}
    (h : DataW.Trod e P W 0 (fun _ => true) true t (.agg cs) d ps) : ∃ x, E.ok x ∧ VRs (Cfg.start W) [.agg (E.enc x)] [.agg cs] := by
  obtain ⟨fuel, h⟩ := h
  obtain ⟨x, h1, -, h2, -⟩ := E.read h
  exact ⟨x, h1, .cons (by simp only [VR]; exact ⟨cs, rfl, h2⟩) .nil⟩
end
end Go.Proofs.Ythgkepaadkmhoaa.Av
