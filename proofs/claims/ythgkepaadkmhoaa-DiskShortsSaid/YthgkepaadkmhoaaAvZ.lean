/- The seat's closed facts, and laws without arguments by a run of the abstract machine. -/
import Derived.Test.YthgkepaadkmhoaaAvY
import Derived.Test.YthgkepaadkmhoaaRows
import Derived.WalkKit
import Derived.ProofKit
import Derived.OpenShut
import Derived.SizedLaws
import Derived.KernelRfl
set_option linter.unusedVariables false
namespace Go.Proofs.Ythgkepaadkmhoaa.Av
open Go
theorem own : ownKnob Try.prog.godebug = none := by kernel_rfl
theorem laidOut : laidOutB Try.prog = true := by kernel_rfl
def isTrue : Option (AV × AH) → Bool
  | some (.lit (.bool b), _) => b
  | _ => false
theorem run_true {P : Program} {ext : CallFn} (hx : CallOk P ext) {pl ql : FuncId → Bool} {fuel n : Nat} {f : FuncId} {args : List AV} (h : isTrue (run P ext pl ql fuel n f args []) = true) : ACalls P f args [] fun r _ => r = .lit (.bool true) := by
  cases hr : run P ext pl ql fuel n f args [] with
  | none => rw [hr] at h; cases h
  | some q =>
    obtain ⟨r, H⟩ := q
    rw [hr] at h
    refine (run_ok hx n f args [] r H hr).mono ?_
    rintro r' H' ⟨rfl, rfl⟩
    unfold isTrue at h
    split at h
    · rename_i he
      injection he with he
      injection he with h1 h2
      rw [h1, h]
    · cases h
end Go.Proofs.Ythgkepaadkmhoaa.Av
