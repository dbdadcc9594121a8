/- The law and its row. No condition. -/
import Derived.Test.YtofgloiebnppbaaMvH
/-! YtofgloiebnppbaaAvCursorRuns -/
section
/- The law CursorRuns (a closed sentence) holds of the program: the call returns true, and nothing that was there has changed. No condition. -/
set_option linter.unusedVariables false
namespace Go.Proofs.Ytofgloiebnppbaa
open Go.ChangeShapes Go.WideShapes Go.ChangeAt Go.RowKit
namespace cursorRuns
set_option maxRecDepth 100000 in
theorem lifted (os : Os) (started : os.Started) (H : Type) (enc : TypeId × Value → H) :
  ReturnsInHanded {} Try.checked os 5 .any (Rows.cursorRunsSpec.pre6 enc Try.prog Try.f5 Rows.cursorRunsRow.domain false) (Rows.cursorRunsSpec.post enc Try.prog Try.f5 false true false false) := by
 refine returnsInHanded_of_change_sized (C := Try.checked) Av.own started (by kernel_rfl) Try.func5
  (ChangeSpec.witness6 (enc := enc) (C := Try.checked) false ⟨#[], #[], []⟩ 8 (by kernel_rfl) (by kernel_rfl) (by kernel_rfl) (by kernel_rfl)) ?_
 intro W base args ds gs before hval0 hW hcnd hsz0 _
 have hW' := hW
 obtain ⟨p, q, hA0, hV, rfl, hfz, hnd⟩ := hW
 have hA : DataW.TrodAll enc Try.prog W 0 (fun _ => true) true Try.f5.params.toList args.toList ds p := hA0
 rw [Try.params5] at hA
 obtain ⟨hargs, rfl, rfl⟩ := trodAll_none hA
 obtain rfl : args = #[] := by cases args; simp_all
 obtain ⟨rfl, rfl⟩ := trodVars_none hV
 refine (Av.law_calls Av.cursorRuns_a W (vs := []) .nil).mono fun e W' ⟨he, bel⟩ => ?_
 subst he
 exact ⟨_, rfl, _, _, _, [], _, [], hW', trodAll_mk1 (shut_bool Try.underlying4 _), trodAll_mk0, rfl, bel.frame _, fun h => by cases h⟩
theorem over : Rows.cursorRunsRow.holds Try.pinned (OpenSpec.ofChange Rows.cursorRunsSpec) :=
 OpenClaim.holds_of_wide 5 Try.f5 rfl rfl rfl rfl rfl rfl rfl ⟨rfl, rfl, rfl, rfl, rfl⟩ rfl rfl rfl rfl rfl (by kernel_rfl) Try.func5 (by kernel_rfl)
  (of_decide_eq_true (by kernel_rfl)) (by unfold Func.isWrapper; first | (rw [if_pos (by decide +kernel)]; kernel_rfl) | (rw [if_neg (by decide +kernel)]; exact ⟨rfl, rfl⟩))
  (fun os started H enc _ => lifted os started H enc)
end cursorRuns
theorem cursorRuns_holds : Rows.CursorRunsSaid := cursorRuns.over
#print axioms cursorRuns_holds
end Go.Proofs.Ytofgloiebnppbaa
end
