/- Chapter 1's closed sentence comes to true, whatever heap there is. -/
import Derived.Test.YtobdiaalmhcimaaAvK3
import Derived.KernelRfl
set_option linter.unusedVariables false
namespace Go.Proofs.Ytobdiaalmhcimaa.Av
open Go Go.RowKit
theorem offRuns_ran : isTrue (run Try.prog noCall (inL [11, 12, 13, 14, 20, 30]) (inL []) 100000 100 3 [] []) = true := by kernel_rfl
theorem offRuns_p : BPure Try.prog 3 [] (B true) := .of_true (run_true noCall_ok offRuns_ran)
end Go.Proofs.Ytobdiaalmhcimaa.Av
