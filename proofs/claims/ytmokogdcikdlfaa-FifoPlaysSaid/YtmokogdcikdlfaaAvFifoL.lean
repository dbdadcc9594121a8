/- Chapter 4's laws: what they are handed; few; the closed sentence. -/
import Derived.Test.YtmokogdcikdlfaaAvFifo
import Derived.Test.YtmokogdcikdlfaaAvK3
import Derived.Test.YtmokogdcikdlfaaPa
import Derived.KernelRfl
set_option linter.unusedVariables false
set_option linter.unusedSimpArgs false
set_option maxRecDepth 100000
namespace Go.Proofs.Ytmokogdcikdlfaa.Av
open Go Go.RowKit
theorem fifoRuns_ran : isTrue (run Try.prog noCall (inL []) (inL []) 100000 100 3 [] []) = true := by kernel_rfl
theorem fifoRuns_p : BPure Try.prog 3 [] (B true) := .of_true (run_true noCall_ok fifoRuns_ran)
/-- Bytes that are handed: nil, or not. -/
def slU (s : Sl UInt8) : AV := if s.nil then .lit (.slice none 0 0) else .imm (encB s.l) s.l.length 1
abbrev Stp := UInt8 × Sl UInt8 × Sl UInt8 × Unit
def encStp (x : Stp) : List AV := [.lit (.int .u8 x.1.toNat), slU x.2.1, slU x.2.2.1]
theorem encStp_len (x : Stp) : (encStp x).length = 3 := rfl
def okS (s : Sl UInt8) : Prop := s.nil = true → s.l = []
def okStp (x : Stp) : Prop := okS x.2.1 ∧ okS x.2.2.1
theorem slU_cells {s : Sl UInt8} (h : okS s) (H : AH) : sliceCells H 1 (slU s) = some (encB s.l, s.l.length) := by
  unfold slU
  split
  · rename_i hn; rw [h hn]; rfl
  · simp [sliceCells, encB_len]
theorem slU_ids (s : Sl UInt8) : idS (slU s) = [] := by unfold slU; split <;> rfl
theorem slU_noIds (s : Sl UInt8) : noIds (slU s) = true := by
  unfold slU
  split
  · rfl
  · simp only [noIds]; exact noIdss_encB _
theorem slU_len {s : Sl UInt8} (h : okS s) : alnS (slU s) = some (I s.l.length) := alnS_spec (slU_cells h [])
theorem slU_one (s : Sl UInt8) : oneA (slU s) = true := by unfold slU; split <;> rfl
theorem slU_cellsA (s : Sl UInt8) : cellsA (slU s) = some [slU s] := cellsA_one (slU_one s)
def sizes (l : List Stp) : Nat := (l.map fun x => x.2.1.l.length + x.2.2.1.l.length).sum
theorem sizes_take {l : List Stp} {k : Nat} {x : Stp} (h : l[k]? = some x) : sizes (l.take (k + 1)) = sizes (l.take k) + (x.2.1.l.length + x.2.2.1.l.length) := by
  unfold sizes; rw [List.take_add_one, h]; simp
theorem sizes_le (l : List Stp) (k : Nat) : sizes (l.take k) ≤ sizes l := by
  have : sizes l = sizes (l.take k) + sizes (l.drop k) := by unfold sizes; rw [← List.sum_append, ← List.map_append, List.take_append_drop]
  omega
/-- few: whatever it answers; true only if there is not much. -/
theorem few_p {l : List Stp} {v : AV} (hv : SV encStp 3 l v) (hok : ∀ x ∈ l, okStp x) : ∃ b, (b = true → l.length ≤ 60 ∧ sizes l ≤ 12000) ∧ BPure Try.prog 12 [v] (B b) := by
  suffices h : ∀ H, ∃ r H', (∃ b, (b = true → l.length ≤ 60 ∧ sizes l ≤ 12000) ∧ r = B b ∧ H' = H) ∧ BCall Try.prog 12 [v] H r H' by
    obtain ⟨r, X, ⟨b, hb, rfl, rfl⟩, h⟩ := h []
    exact ⟨b, hb, BPure.of h (by simp only [noIdss, hv.1]; rfl) (n := 1) rfl⟩
  intro H
  refine salvorlaw4_few_ok ?_
  unfold salvorlaw4_few
  refine salvorlaw4_few_L4_rule (fun n x0 x3 x4 H' => ∃ k : Nat, k + n = l.length ∧ x0 = v ∧ x3 = I (sizes (l.take k) : Nat) ∧ x4 = I k ∧ H' = H ∧ sizes (l.take k) ≤ 4000 * k ∧ k ≤ 100) ?_ l.length ⟨0, by simp, rfl, by simp [sizes], rfl, rfl, by simp [sizes], by omega⟩
  rintro n x0 x3 x4 H' R hR ⟨k, hk, rfl, rfl, rfl, rfl, hs, hk100⟩
  unfold salvorlaw4_few_L4_b
  have fin : (¬ k < l.length ∨ ¬ k < 100) → (l.length ≤ 60 ∧ sizes (l.take k) ≤ 12000) → l.length ≤ 60 ∧ sizes l ≤ 12000 := by
    rintro h ⟨h1, h2⟩
    refine ⟨h1, ?_⟩
    rw [List.take_of_length_le (by omega)] at h2
    exact h2
  by_cases h1 : k < l.length
  · by_cases h2 : k < 100
    · have hx := List.getElem?_eq_getElem h1
      generalize l[k] = y at hx
      obtain ⟨o1, o2⟩ := hok y (List.mem_of_getElem? hx)
      have hst := sizes_take hx
      have c2 : (k : Int) < 100 := by omega
      have ix := hv.idx encStp_len hx rfl
      simp only [encStp] at ix
      simp [hv.len, h1, c2, ix, slU_len o1, slU_len o2]
      by_cases h3 : (2000 : Int) < y.2.1.l.length
      · simp [h3]
      · by_cases h4 : (2000 : Int) < y.2.2.1.l.length
        · simp [h3, h4, ix, slU_len o1, slU_len o2]
        · simp [h3, h4, ix, slU_len o1, slU_len o2, abI_add (a := (sizes (l.take k) : Nat)) (b := y.2.1.l.length) (by omega) (by omega), abI_add (a := (sizes (l.take k) : Nat) + y.2.1.l.length) (b := y.2.2.1.l.length) (by omega) (by omega), abI_add (a := k) (b := 1) (by omega) (by omega)]
          exact hR (n - 1) _ _ _ _ (by omega) ⟨k + 1, by omega, rfl, by rw [hst]; congr 3; omega, rfl, rfl, by omega, by omega⟩
    · have c2 : ¬ (k : Int) < 100 := by omega
      simp [hv.len, h1, c2]
      by_cases h3 : (l.length : Int) ≤ 60
      · by_cases h5 : (sizes (l.take k) : Int) ≤ 12000
        · simp [h3, h5]
          exact fin (.inr h2) ⟨by omega, by omega⟩
        · simp [h3, h5]
      · simp [h3]
  · simp [hv.len, h1]
    by_cases h3 : (l.length : Int) ≤ 60
    · by_cases h5 : (sizes (l.take k) : Int) ≤ 12000
      · simp [h3, h5]
        exact fin (.inl h1) ⟨by omega, by omega⟩
      · simp [h3, h5]
    · simp [h3]
/-- Two fifos, apart, with the same bytes. -/
def Both (H : AH) (o o' size : Nat) (l : List UInt8) : Prop := ∃ F F', FifoAt H o size l F ∧ FifoAt H o' size l F' ∧ ∀ i ∈ F, i ∉ F'
theorem frame2 {H H' : AH} {o size : Nat} {l : List UInt8} {F F2 F' : List Nat} (h : FifoAt H o size l F') (hf : Fr H H' F F2) (hd : ∀ i ∈ F, i ∉ F') : FifoAt H' o size l F' ∧ ∀ i ∈ F2, i ∉ F' := by
  refine ⟨h.frame fun i hi => hf.keep i (h.lt i hi) (fun hh => hd i hh hi), fun i hi hh => ?_⟩
  rcases hf.new i hi with h1 | h1
  · exact hd i h1 hh
  · have := h.lt i hh; omega
end Go.Proofs.Ytmokogdcikdlfaa.Av
