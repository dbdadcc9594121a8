/- Chapter 11: where data and holes are. -/
import Derived.Test.YtflodknflaallaaAvExtR
set_option linter.unusedVariables false
set_option linter.unusedSimpArgs false
set_option maxRecDepth 100000
namespace Go.Proofs.Ytflodknflaallaa.Av
open Go Go.RowKit

/-- The first place from one on that lies in a block. -/
def dataL (size pos : Int) : List Ext → Option Int
  | [] => none
  | x :: r => if max pos (x.no * 8) < min size ((x.no + 1) * 8) then some (max pos (x.no * 8)) else dataL size pos r
def dataC (size : Int) (l : List Ext) (pos : Int) : Option Int := if mayC size l ∧ 0 ≤ pos then dataL size pos l else none
theorem dataL_cons {size pos : Int} {x : Ext} {r : List Ext} : dataL size pos (x :: r) = if max pos (x.no * 8) < min size ((x.no + 1) * 8) then some (max pos (x.no * 8)) else dataL size pos r := rfl
theorem extent_Data_p {size : Int} {l : List Ext} {v : AV} (hv : SV encE 9 l v) (hl : l.length ≤ 281474976710656) (pos : Int) :
    BPure Try.prog 13 [.agg [I size, v], I pos] (oI (dataC size l pos)) := BPure.val (by simp [noIdss, noIds, hv.1]) (by cases dataC size l pos <;> rfl) (extent_Data_ok (by
  unfold extent_Data
  simp [oneA_sv hv, rdCells]
  refine bP_pure (extent_May_p hv hl) ?_
  by_cases h1 : mayC size l
  · by_cases h2 : pos < 0
    · have : ¬ (mayC size l ∧ 0 ≤ pos) := fun h => by omega
      simp [h1, h2, dataC, oI, show ¬ (0 : Int) ≤ pos by omega]
    · have e : dataC size l pos = dataL size pos l := if_pos ⟨h1, by omega⟩
      simp [h1, h2, hv.len, e]
      refine extent_Data_L6_rule (fun n x1 x2 x17 x18 x19 H' => ∃ (k : Nat), k + n = l.length ∧ x1 = I pos ∧ x2 = .ptr 0 0 ∧ x17 = v ∧ x18 = I l.length ∧ x19 = I k ∧ (∃ X, H' = some (.cells [I size, v]) :: X) ∧ dataL size pos l = dataL size pos (l.drop k)) ?_ l.length ⟨0, by simp, rfl, rfl, rfl, rfl, rfl, ⟨[], rfl⟩, by simp⟩
      rintro n x1 x2 x17 x18 x19 H' R hR ⟨k, hk, rfl, rfl, rfl, rfl, rfl, ⟨X, rfl⟩, hm⟩
      unfold extent_Data_L6_b
      rcases Nat.lt_or_ge k l.length with hlt | hge
      · have hx := List.getElem?_eq_getElem hlt
        generalize l[k] = y at hx
        rw [drop_cons hx, dataL_cons] at hm
        have hy := okL_all h1.2.2 y (List.mem_of_getElem? hx)
        simp [hlt, hv.idx encE_len hx rfl, -ald_ptr']
        rw [← List.cons_append, ast_e (by simp) (by rfl)]
        simp [abI_mul (a := y.no) (b := 8) (by omega) (by omega), abI_add (a := y.no) (b := 1) (by omega) (by omega), abI_mul (a := y.no + 1) (b := 8) (by omega) (by omega)]
        have c : (max pos (y.no * 8) < min size ((y.no + 1) * 8)) ↔ (max (y.no * 8) pos < min ((y.no + 1) * 8) size) := by omega
        by_cases c1 : max (y.no * 8) pos < min ((y.no + 1) * 8) size
        · rw [if_pos (c.2 c1)] at hm
          simp [hm, c1, oI]
          omega
        · rw [if_neg (fun h => c1 (c.1 h))] at hm
          simp [c1, abI_add (a := k) (b := 1) (by omega) (by omega)]
          exact hR (n - 1) _ _ _ _ _ _ (by omega) ⟨k + 1, by omega, rfl, rfl, rfl, rfl, rfl, ⟨X ++ [some (.cells (encE y))], rfl⟩, hm⟩
      · have : k = l.length := by omega
        subst this
        rw [List.drop_length] at hm
        simp [hm, dataL, oI]
  · simp [h1, dataC, oI]))
theorem ref_DataContent_p {size : Int} {l : List Ext} {v : AV} (hv : SV encE 9 l v) (hl : l.length ≤ 281474976710656) (pos : Int) :
    BPure Try.prog 21 [.agg [I size, v], I pos] (oI (dataC size l pos)) := BPure.val (by simp [noIdss, noIds, hv.1]) (by cases dataC size l pos <;> rfl) (salvorref11_DataContent_ok (by
  unfold salvorref11_DataContent
  simp [oneA_sv hv, rdCells]
  refine bP_pure (ref_MayContent_p hv hl) ?_
  by_cases h1 : mayC size l
  · by_cases h2 : pos < 0
    · simp [h1, h2, dataC, oI, show ¬ (0 : Int) ≤ pos by omega]
    · have e : dataC size l pos = dataL size pos l := if_pos ⟨h1, by omega⟩
      simp [h1, h2, hv.len, e]
      refine salvorref11_DataContent_L6_rule (fun n x1 x2 x6 H' => ∃ (k : Nat), k + n = l.length ∧ x1 = I pos ∧ x2 = .ptr 0 0 ∧ x6 = I k ∧ H' = [some (.cells [I size, v])] ∧ dataL size pos l = dataL size pos (l.drop k)) ?_ l.length ⟨0, by simp, rfl, rfl, rfl, rfl, by simp⟩
      rintro n x1 x2 x6 H' R hR ⟨k, hk, rfl, rfl, rfl, rfl, hm⟩
      unfold salvorref11_DataContent_L6_b
      rcases Nat.lt_or_ge k l.length with hlt | hge
      · have hx := List.getElem?_eq_getElem hlt
        generalize l[k] = y at hx
        rw [drop_cons hx, dataL_cons] at hm
        have hy := okL_all h1.2.2 y (List.mem_of_getElem? hx)
        simp [hlt, hv.len, hv.idx encE_len hx rfl, abI_mul (a := y.no) (b := 8) (by omega) (by omega), abI_add (a := y.no) (b := 1) (by omega) (by omega), abI_mul (a := y.no + 1) (b := 8) (by omega) (by omega)]
        have nxt : ¬ max pos (y.no * 8) < min size ((y.no + 1) * 8) → (bO (abI .add (I k) (I 1)) fun v30 => R [I pos, .ptr 0 0, v30] [some (.cells [I size, v])]) := by
          intro hc
          rw [if_neg hc] at hm
          simp [abI_add (a := k) (b := 1) (by omega) (by omega)]
          exact hR (n - 1) _ _ _ _ (by omega) ⟨k + 1, by omega, rfl, rfl, rfl, rfl, hm⟩
        by_cases c1 : max pos (y.no * 8) < (y.no + 1) * 8
        · by_cases c2 : max pos (y.no * 8) < size
          · rw [if_pos (by omega)] at hm
            simp [c1, c2, hm, oI]
          · simp [c1, c2]
            exact nxt (by omega)
        · simp [c1]
          exact nxt (by omega)
      · have : k = l.length := by omega
        subst this
        rw [List.drop_length] at hm
        simp [hm, hv.len, dataL, oI]
  · simp [h1, dataC, oI]))

/-- The first place from one on that lies in no block. -/
def holeR (size : Int) (l : List Ext) (pos h : Int) : Prop := pos ≤ h ∧ h ≤ size ∧ (∀ p, pos ≤ p → p < h → hasL l (p / 8)) ∧ (h = size ∨ ¬ hasL l (h / 8))
theorem holeR.uniq {size : Int} {l : List Ext} {pos h1 h2 : Int} (a : holeR size l pos h1) (b : holeR size l pos h2) : h1 = h2 := by
  rcases Int.lt_trichotomy h1 h2 with h | h | h
  · rcases a.2.2.2 with e | e
    · have := b.2.1; omega
    · exact (e (b.2.2.1 h1 a.1 h)).elim
  · exact h
  · rcases b.2.2.2 with e | e
    · have := a.2.1; omega
    · exact (e (a.2.2.1 h2 b.1 h)).elim
theorem hole_ex {size : Int} {l : List Ext} : ∀ (n : Nat) (pos : Int), size - pos = n → ∃ h, holeR size l pos h := by
  intro n
  induction n using Nat.strongRecOn with
  | ind n ih =>
    intro pos hn
    by_cases h0 : pos = size
    · exact ⟨size, by omega, by omega, fun p h1 h2 => by omega, .inl rfl⟩
    · by_cases h1 : hasL l (pos / 8)
      · obtain ⟨h, a1, a2, a3, a4⟩ := ih (size - min size ((pos / 8 + 1) * 8)).toNat (by omega) (min size ((pos / 8 + 1) * 8)) (by omega)
        refine ⟨h, by omega, a2, fun p h2 h3 => ?_, a4⟩
        by_cases h4 : p < min size ((pos / 8 + 1) * 8)
        · rw [show p / 8 = pos / 8 by omega]; exact h1
        · exact a3 p (by omega) h3
      · exact ⟨pos, by omega, by omega, fun p h2 h3 => by omega, .inr h1⟩
open Classical in
noncomputable def holeC (size : Int) (l : List Ext) (pos : Int) : Option Int := if h : mayC size l ∧ 0 ≤ pos ∧ pos < size then some (hole_ex (size := size) (l := l) (size - pos).toNat pos (by omega)).choose else none
theorem holeC_none {size : Int} {l : List Ext} {pos : Int} (h : ¬ (mayC size l ∧ 0 ≤ pos ∧ pos < size)) : holeC size l pos = none := dif_neg h
theorem holeC_some {size : Int} {l : List Ext} {pos : Int} (h : mayC size l ∧ 0 ≤ pos ∧ pos < size) : ∃ p, holeC size l pos = some p ∧ holeR size l pos p :=
  ⟨_, dif_pos h, (hole_ex (size := size) (l := l) (size - pos).toNat pos (by omega)).choose_spec⟩
theorem extent_Hole_p {size : Int} {l : List Ext} {v : AV} (hv : SV encE 9 l v) (hl : l.length ≤ 281474976710656) (pos : Int) :
    BPure Try.prog 14 [.agg [I size, v], I pos] (oI (holeC size l pos)) := BPure.val (by simp [noIdss, noIds, hv.1]) (by cases holeC size l pos <;> rfl) (extent_Hole_ok (by
  unfold extent_Hole
  simp [oneA_sv hv, rdCells]
  refine bP_pure (extent_May_p hv hl) ?_
  by_cases h0 : mayC size l ∧ 0 ≤ pos ∧ pos < size
  · obtain ⟨q, e, hq⟩ := holeC_some h0
    obtain ⟨h1, h2, h3⟩ := h0
    have hs := okL_srt h1.2.2
    have hsz := h1.2.1
    simp [h1, show ¬ pos < 0 by omega, show ¬ size ≤ pos by omega, e, oI]
    refine extent_Hole_L6_rule (fun n x2 x6 H' => ∃ p : Int, (size + 8 - p).toNat = n ∧ x2 = .ptr 0 0 ∧ x6 = I p ∧ H' = [some (.cells [I size, v])] ∧ pos ≤ p ∧ p ≤ size + 7 ∧ ∀ r, pos ≤ r → r < p → r < size → hasL l (r / 8)) ?_ (size + 8 - pos).toNat ⟨pos, rfl, rfl, rfl, rfl, by omega, by omega, fun r a b c => by omega⟩
    rintro n x2 x6 H' R hR ⟨p, hn, rfl, rfl, rfl, hp1, hp2, hp⟩
    unfold extent_Hole_L6_b
    by_cases c1 : p < size
    · simp [c1, abI_quo (a := p) (b := 8) (by omega) (by omega)]
      refine bP_pure (extent_place_p hv hs hl (p / 8)) ?_
      by_cases c2 : hasL l (p / 8)
      · simp [c2, abI_add (a := p / 8) (b := 1) (by omega) (by omega), abI_mul (a := p / 8 + 1) (b := 8) (by omega) (by omega)]
        refine hR (size + 8 - (p / 8 + 1) * 8).toNat _ _ _ (by omega) ⟨(p / 8 + 1) * 8, rfl, rfl, rfl, rfl, by omega, by omega, fun r a b c => ?_⟩
        by_cases c3 : r < p
        · exact hp r a c3 c
        · rw [show r / 8 = p / 8 by omega]; exact c2
      · simp [c2]
        exact holeR.uniq ⟨hp1, by omega, fun r a b => hp r a b (by omega), .inr c2⟩ hq
    · simp [c1]
      exact holeR.uniq ⟨by omega, by omega, fun r a b => hp r a (by omega) b, .inl rfl⟩ hq
  · rw [holeC_none h0]
    by_cases h1 : mayC size l
    · by_cases h2 : pos < 0
      · simp [h1, h2, oI]
      · have h3 : size ≤ pos := by
          rcases Int.lt_or_le pos size with h | h
          · exact (h0 ⟨h1, by omega, h⟩).elim
          · exact h
        simp [h1, h2, h3, oI]
    · simp [h1, oI]))
theorem ref_HoleContent_p {size : Int} {l : List Ext} {v : AV} (hv : SV encE 9 l v) (hl : l.length ≤ 281474976710656) (pos : Int) :
    BPure Try.prog 22 [.agg [I size, v], I pos] (oI (holeC size l pos)) := BPure.val (by simp [noIdss, noIds, hv.1]) (by cases holeC size l pos <;> rfl) (salvorref11_HoleContent_ok (by
  unfold salvorref11_HoleContent
  simp [oneA_sv hv, rdCells]
  refine bP_pure (ref_MayContent_p hv hl) ?_
  by_cases h0 : mayC size l ∧ 0 ≤ pos ∧ pos < size
  · obtain ⟨q, e, hq⟩ := holeC_some h0
    obtain ⟨h1, h2, h3⟩ := h0
    have hs := okL_srt h1.2.2
    have hsz := h1.2.1
    simp [h1, show ¬ pos < 0 by omega, show ¬ size ≤ pos by omega, e, oI]
    refine salvorref11_HoleContent_L5_rule (fun n x1 x2 H' => ∃ p : Int, (1099511627784 - p).toNat = n ∧ x2 = .ptr 0 0 ∧ x1 = I p ∧ H' = [some (.cells [I size, v])] ∧ pos ≤ p ∧ p ≤ 1099511627776 ∧ ∀ r, pos ≤ r → r < p → hasL l (r / 8)) ?_ (1099511627784 - pos).toNat ⟨pos, rfl, rfl, rfl, rfl, by omega, by omega, fun r a b => by omega⟩
    rintro n x1 x2 H' R hR ⟨p, hn, rfl, rfl, rfl, hp1, hp2, hp⟩
    unfold salvorref11_HoleContent_L5_b
    simp [rdCells, abI_quo (a := p) (b := 8) (by omega) (by omega)]
    refine bP_pure (ref_find_p hv hs hl (p / 8)) ?_
    by_cases c2 : hasL l (p / 8)
    · obtain ⟨x, hx, hxe⟩ := c2
      have hxb := okL_all h1.2.2 x hx
      have c2 : hasL l (p / 8) := ⟨x, hx, hxe⟩
      simp [c2, abI_add (a := p / 8) (b := 1) (by omega) (by omega), abI_mul (a := p / 8 + 1) (b := 8) (by omega) (by omega)]
      refine hR (1099511627784 - (p / 8 + 1) * 8).toNat _ _ _ (by omega) ⟨(p / 8 + 1) * 8, rfl, rfl, rfl, rfl, by omega, by omega, fun r a b => ?_⟩
      by_cases c3 : r < p
      · exact hp r a c3
      · rw [show r / 8 = p / 8 by omega]; exact c2
    · simp [c2]
      by_cases c4 : p < size
      · rw [show min size p = p by omega]
        exact holeR.uniq ⟨hp1, by omega, fun r a b => hp r a b, .inr c2⟩ hq
      · rw [show min size p = size by omega]
        exact holeR.uniq ⟨by omega, by omega, fun r a b => hp r a (by omega), .inl rfl⟩ hq
  · rw [holeC_none h0]
    by_cases h1 : mayC size l
    · by_cases h2 : pos < 0
      · simp [h1, h2, oI]
      · have h3 : size ≤ pos := by
          rcases Int.lt_or_le pos size with h | h
          · exact (h0 ⟨h1, by omega, h⟩).elim
          · exact h
        simp [h1, h2, h3, oI]
    · simp [h1, oI]))
end Go.Proofs.Ytflodknflaallaa.Av
