/- Laws: what they are handed as lists; that they come to true. -/
import Derived.Test.YthgkepaadkmhoaaAvN
import Derived.Test.YthgkepaadkmhoaaAvK2
import Derived.Test.YthgkepaadkmhoaaAvZ
set_option linter.unusedVariables false
set_option linter.unusedSimpArgs false
namespace Go.Proofs.Ythgkepaadkmhoaa.Av
open Go Go.RowKit
section
variable {P : Program} {f : FuncId} {args : List AV}
theorem BPure.of_true (h : ACalls P f [] [] fun r _ => r = B true) : BPure P f [] (B true) := fun H =>
  ACalls.pure (R' := fun r => r = B true) h (by simp only [Bels]) (fun r X hr => ⟨1, r, by rw [hr]; rfl, hr⟩) H
theorem law_of {H : AH} (h : ∃ r H', r = B true ∧ BCall P f args H r H') : ACalls P f args H fun r _ => r = .lit (.bool true) := by
  obtain ⟨r, H', rfl, h⟩ := h
  exact h.mono fun r1 H1 h1 => h1.1
/-- A slice that is handed, as a value that names no object. -/
theorem sl_sv {α : Type} {t : TypeId} (E : Rd P t α) (s : Sl α) (hn : s.nil = true → s.l = []) (hsz : ∀ x, (E.enc x).length = E.size) (hi : ∀ x ∈ s.l, noIdss (E.enc x) = true) :
    SV E.enc E.size s.l (if s.nil then .lit (.slice none 0 0) else .imm (s.l.flatMap E.enc) s.l.length E.size) := by
  obtain ⟨l, nil⟩ := s
  cases nil with
  | true =>
    have := hn rfl
    simp only at this
    subst this
    exact SV.nil
  | false => exact SV.imm hsz hi
end
end Go.Proofs.Ythgkepaadkmhoaa.Av
