/- Maps whose keys are integers. -/
import Derived.Test.YthgkepaadkmhoaaAvN2
set_option linter.unusedVariables false
set_option linter.unusedSimpArgs false
namespace Go.Proofs.Ythgkepaadkmhoaa.Av
open Go Go.RowKit
/-- Entries, by integers. -/
def encM (ps : List (Int × AV)) : List (Value × AV) := ps.map fun p => (.int .i64 p.1, p.2)
def look (z : AV) (ps : List (Int × AV)) (k : Int) : AV := match ps.find? (fun p => p.1 == k) with
  | some p => p.2
  | none => z
theorem same_int (a b : Int) : Instr.sameNow (.int .i64) (.int .i64 a) (.int .i64 b) = some (a == b) := rfl
theorem findA_int (k : Int) : ∀ (ps : List (Int × AV)) (i : Nat), findA (.int .i64) (.int .i64 k) (encM ps) i = some ((ps.findIdx? (fun p => p.1 == k)).bind fun j => (ps[j]?).map fun p => (i + j, p.2))
  | [], i => rfl
  | p :: ps, i => by
    show (match Instr.sameNow (.int .i64) (.int .i64 k) (.int .i64 p.1) with
      | some true => some (some (i, p.2))
      | some false => findA (.int .i64) (.int .i64 k) (encM ps) (i + 1)
      | none => none) = _
    rw [same_int, List.findIdx?_cons]
    by_cases h : p.1 = k
    · have h' : (k == p.1) = true := by simp [h]
      have h2 : (p.1 == k) = true := by simp [h]
      simp [h', h2]
    · have h' : (k == p.1) = false := by simp; omega
      have h2 : (p.1 == k) = false := by simp [h]
      simp only [h', h2]
      rw [findA_int k ps (i + 1)]
      cases ps.findIdx? (fun p => p.1 == k) with
      | none => rfl
      | some j =>
        simp
        cases ps[j]? with
        | none => rfl
        | some q => simp; omega
theorem look_none {z : AV} {ps : List (Int × AV)} {k : Int} (h : ps.findIdx? (fun p => p.1 == k) = none) : look z ps k = z := by
  have : ps.find? (fun p => p.1 == k) = none := by
    rw [List.find?_eq_none]
    intro x hx
    rw [List.findIdx?_eq_none_iff] at h
    simpa using h x hx
  unfold look; rw [this]
theorem look_some {z : AV} {ps : List (Int × AV)} {k : Int} {j : Nat} (h : ps.findIdx? (fun p => p.1 == k) = some j) : ∃ p, ps[j]? = some p ∧ p.1 = k ∧ look z ps k = p.2 := by
  obtain ⟨h1, h2, h3⟩ := List.findIdx?_eq_some_iff_getElem.1 h
  refine ⟨ps[j], List.getElem?_eq_getElem h1, by simpa using h2, ?_⟩
  have : ps.find? (fun p => p.1 == k) = some ps[j] := by
    rw [List.find?_eq_some_iff_getElem]
    exact ⟨h2, j, h1, rfl, fun i hi => by simpa using h3 i hi⟩
  unfold look; rw [this]
theorem alk_int {H : AH} {o : Nat} {zv : Value} {ps : List (Int × AV)} {k : Int} (h : H[o]? = some (some (.map (encM ps)))) : alk (.int .i64) zv H (.mp o) (.lit (.int .i64 k)) false = some (look (.ofV zv) ps k) := by
  have hk : keyB (.int .i64) (.int .i64 k) = true := rfl
  unfold alk entriesA
  simp only [h, hk, if_true, findA_int]
  cases hf : ps.findIdx? (fun p => p.1 == k) with
  | none => rw [look_none hf]; rfl
  | some j =>
    obtain ⟨p, h1, h2, h3⟩ := look_some (z := .ofV zv) hf
    simp [h1, h3]
/-- An entry is set. -/
def putM (ps : List (Int × AV)) (k : Int) (v : AV) : List (Int × AV) := match ps.findIdx? (fun p => p.1 == k) with
  | some j => ps.set j (k, v)
  | none => ps ++ [(k, v)]
theorem amu_int {H : AH} {o : Nat} {ps : List (Int × AV)} {k : Int} {v : AV} (h : H[o]? = some (some (.map (encM ps)))) : amu (.int .i64) H (.mp o) (.lit (.int .i64 k)) v = some (H.set o (some (.map (encM (putM ps k v))))) := by
  have hk : keyB (.int .i64) (.int .i64 k) = true := rfl
  unfold amu putM
  simp only [h, hk, if_true, findA_int]
  cases hf : ps.findIdx? (fun p => p.1 == k) with
  | none => simp [encM]
  | some j =>
    obtain ⟨p, h1, h2, h3⟩ := look_some (z := .junk) hf
    simp [h1, encM, List.map_set]
theorem putM_look {z : AV} {ps : List (Int × AV)} {k : Int} {v : AV} (k2 : Int) : look z (putM ps k v) k2 = if k2 = k then v else look z ps k2 := by
  unfold putM
  cases hf : ps.findIdx? (fun p => p.1 == k) with
  | none =>
    rw [List.findIdx?_eq_none_iff] at hf
    unfold look
    simp only [List.find?_append]
    by_cases h : k2 = k
    · subst h
      rw [if_pos rfl]
      have : ps.find? (fun p => p.1 == k2) = none := by
        rw [List.find?_eq_none]; intro x hx; simpa using hf x hx
      rw [this]; simp
    · rw [if_neg h]
      cases ps.find? (fun p => p.1 == k2) with
      | none => simp [show ¬ k = k2 by omega]
      | some q => rfl
  | some j =>
    obtain ⟨h1, h2, h3⟩ := List.findIdx?_eq_some_iff_getElem.1 hf
    have hkj : ps[j].1 = k := by simpa using h2
    clear hf
    induction ps generalizing j with
    | nil => simp at h1
    | cons p ps ih =>
      cases j with
      | zero =>
        simp at hkj
        simp only [List.set_cons_zero]
        unfold look
        by_cases h : k2 = k
        · subst h; simp
        · rw [if_neg h, List.find?_cons_of_neg (by simp; omega), List.find?_cons_of_neg (by simp; omega)]
      | succ j =>
        simp only [List.set_cons_succ]
        have hp : p.1 ≠ k := by have := h3 0 (by omega); simpa using this
        have ih := ih j (by simpa using h1) (by simpa using h2) (fun i hi => by have := h3 (i + 1) (by omega); simpa using this) (by simpa using hkj)
        unfold look at ih ⊢
        by_cases h : p.1 = k2
        · have : k2 ≠ k := by omega
          rw [if_neg this, List.find?_cons_of_pos (by simp [h]), List.find?_cons_of_pos (by simp [h])]
        · rw [List.find?_cons_of_neg (by simp [h]), List.find?_cons_of_neg (by simp [h])]
          exact ih
end Go.Proofs.Ythgkepaadkmhoaa.Av
