/-
  No cell of these rows narrows 'for every input' (looked for: loops, veiled, ifaces, maps, wideKeys, modest, calm, conditions, laid).
  DERIVED. THE GIVEN ROWS OF THIS SEAT. 8 by the template 'for every input the law returns true; each argument reads behind the call as it read before'; 0 by the template 'total and deterministic' (their statements: YtobdiaalmhcimaaTotals.lean).
  GIVEN WITH THE SEED: the statements are not yours to turn. If you find one false, say at which input.
  Laid BY PROGRAM, IN A SANDBOX (cutbox-rows.mjs): the forced cells as the released guide's own fill.sh prints them over the translation a90318d638c889d0… (all of the seat's roots in one cut). By AI agents, Wed Nov 11 2026. No macro, syntax, notation, axiom, sorry.
-/
import Derived.Test.YtobdiaalmhcimaaChecked
import GoSem.Claim
import GoSem.ClaimJoined
import GoSem.ClaimMapViews
import Derived.JoinedTies
import Derived.KernelRfl
namespace Go.Proofs.Ytobdiaalmhcimaa
/- THE CELL 'sum', in the pinned program and in every row, IS THE sha256 OF THE DUMP (.gsa) THAT YtobdiaalmhcimaaProg.lean LOADS. Nothing in Lean hashes anything: it is a label: what it is worth is what the hold of that sum in a sandbox is worth. -/
noncomputable def Try.pinned : Pinned := { name := "ytobdiaalmhcimaa", sum := "a90318d638c889d0a4f3a7384a389d472f63c6c8691086593e3df95e1b7f88aa", checked := Try.checked }
namespace Rows
def none {H : Type} : Left H := { results := [], args := [] }

/-- 'salvorlaw1.OffRuns': WHATEVER THE INPUT: true; the input reads as it did. -/
def offRunsSpec : ChangeSpec := { name := "offRuns", fn := fun _ => fun
  | [] => { results := [.lit (.bool true)], args := [] }
  | _ => none }
def offRunsRow : OpenClaim := { program := "ytobdiaalmhcimaa", sum := "a90318d638c889d0a4f3a7384a389d472f63c6c8691086593e3df95e1b7f88aa", func := "salvor/salvorlaw1.OffRuns", spec := "offRuns", apart := false }
def OffRunsSaid : Prop := offRunsRow.holds Try.pinned (OpenSpec.ofChange offRunsSpec)

/-- ITS FALSE NEIGHBOUR: 'it returns false'. Refute it at one input. -/
def offRunsWrong : ChangeSpec := { name := "offRuns", fn := fun _ => fun
  | [] => { results := [.lit (.bool false)], args := [] }
  | _ => none }
def OffRunsWrongFalsely : Prop := offRunsRow.holds Try.pinned (OpenSpec.ofChange offRunsWrong)

/-- 'salvorlaw1.OffSums': WHATEVER THE INPUT: true; the input reads as it did. -/
def offSumsSpec : ChangeSpec := { name := "offSums", fn := fun _ => fun
  | [d] => { results := [.lit (.bool true)], args := [d] }
  | _ => none }
def offSumsRow : OpenClaim := { program := "ytobdiaalmhcimaa", sum := "a90318d638c889d0a4f3a7384a389d472f63c6c8691086593e3df95e1b7f88aa", func := "salvor/salvorlaw1.OffSums", spec := "offSums", apart := false }
def OffSumsSaid : Prop := offSumsRow.holds Try.pinned (OpenSpec.ofChange offSumsSpec)

/-- ITS FALSE NEIGHBOUR: 'it returns false'. Refute it at one input. -/
def offSumsWrong : ChangeSpec := { name := "offSums", fn := fun _ => fun
  | [d] => { results := [.lit (.bool false)], args := [d] }
  | _ => none }
def OffSumsWrongFalsely : Prop := offSumsRow.holds Try.pinned (OpenSpec.ofChange offSumsWrong)

/-- 'salvorlaw1.OffParts': WHATEVER THE INPUT: true; the input reads as it did. -/
def offPartsSpec : ChangeSpec := { name := "offParts", fn := fun _ => fun
  | [d1, d2] => { results := [.lit (.bool true)], args := [d1, d2] }
  | _ => none }
def offPartsRow : OpenClaim := { program := "ytobdiaalmhcimaa", sum := "a90318d638c889d0a4f3a7384a389d472f63c6c8691086593e3df95e1b7f88aa", func := "salvor/salvorlaw1.OffParts", spec := "offParts", apart := false }
def OffPartsSaid : Prop := offPartsRow.holds Try.pinned (OpenSpec.ofChange offPartsSpec)

/-- ITS FALSE NEIGHBOUR: 'it returns false'. Refute it at one input. -/
def offPartsWrong : ChangeSpec := { name := "offParts", fn := fun _ => fun
  | [d1, d2] => { results := [.lit (.bool false)], args := [d1, d2] }
  | _ => none }
def OffPartsWrongFalsely : Prop := offPartsRow.holds Try.pinned (OpenSpec.ofChange offPartsWrong)

/-- 'salvorlaw1.OffJoins': WHATEVER THE INPUT: true; the input reads as it did. -/
def offJoinsSpec : ChangeSpec := { name := "offJoins", fn := fun _ => fun
  | [d1, d2] => { results := [.lit (.bool true)], args := [d1, d2] }
  | _ => none }
def offJoinsRow : OpenClaim := { program := "ytobdiaalmhcimaa", sum := "a90318d638c889d0a4f3a7384a389d472f63c6c8691086593e3df95e1b7f88aa", func := "salvor/salvorlaw1.OffJoins", spec := "offJoins", apart := false }
def OffJoinsSaid : Prop := offJoinsRow.holds Try.pinned (OpenSpec.ofChange offJoinsSpec)

/-- ITS FALSE NEIGHBOUR: 'it returns false'. Refute it at one input. -/
def offJoinsWrong : ChangeSpec := { name := "offJoins", fn := fun _ => fun
  | [d1, d2] => { results := [.lit (.bool false)], args := [d1, d2] }
  | _ => none }
def OffJoinsWrongFalsely : Prop := offJoinsRow.holds Try.pinned (OpenSpec.ofChange offJoinsWrong)

/-- 'salvorlaw1.OffCover': WHATEVER THE INPUT: true; the input reads as it did. -/
def offCoverSpec : ChangeSpec := { name := "offCover", fn := fun _ => fun
  | [d1, d2] => { results := [.lit (.bool true)], args := [d1, d2] }
  | _ => none }
def offCoverRow : OpenClaim := { program := "ytobdiaalmhcimaa", sum := "a90318d638c889d0a4f3a7384a389d472f63c6c8691086593e3df95e1b7f88aa", func := "salvor/salvorlaw1.OffCover", spec := "offCover", apart := false }
def OffCoverSaid : Prop := offCoverRow.holds Try.pinned (OpenSpec.ofChange offCoverSpec)

/-- ITS FALSE NEIGHBOUR: 'it returns false'. Refute it at one input. -/
def offCoverWrong : ChangeSpec := { name := "offCover", fn := fun _ => fun
  | [d1, d2] => { results := [.lit (.bool false)], args := [d1, d2] }
  | _ => none }
def OffCoverWrongFalsely : Prop := offCoverRow.holds Try.pinned (OpenSpec.ofChange offCoverWrong)

/-- 'salvorlaw1.OffMeets': WHATEVER THE INPUT: true; the input reads as it did. -/
def offMeetsSpec : ChangeSpec := { name := "offMeets", fn := fun _ => fun
  | [d1, d2, d3] => { results := [.lit (.bool true)], args := [d1, d2, d3] }
  | _ => none }
def offMeetsRow : OpenClaim := { program := "ytobdiaalmhcimaa", sum := "a90318d638c889d0a4f3a7384a389d472f63c6c8691086593e3df95e1b7f88aa", func := "salvor/salvorlaw1.OffMeets", spec := "offMeets", apart := false }
def OffMeetsSaid : Prop := offMeetsRow.holds Try.pinned (OpenSpec.ofChange offMeetsSpec)

/-- ITS FALSE NEIGHBOUR: 'it returns false'. Refute it at one input. -/
def offMeetsWrong : ChangeSpec := { name := "offMeets", fn := fun _ => fun
  | [d1, d2, d3] => { results := [.lit (.bool false)], args := [d1, d2, d3] }
  | _ => none }
def OffMeetsWrongFalsely : Prop := offMeetsRow.holds Try.pinned (OpenSpec.ofChange offMeetsWrong)

/-- 'salvorlaw1.OffNear': WHATEVER THE INPUT: true; the input reads as it did. -/
def offNearSpec : ChangeSpec := { name := "offNear", fn := fun _ => fun
  | [d1, d2] => { results := [.lit (.bool true)], args := [d1, d2] }
  | _ => none }
def offNearRow : OpenClaim := { program := "ytobdiaalmhcimaa", sum := "a90318d638c889d0a4f3a7384a389d472f63c6c8691086593e3df95e1b7f88aa", func := "salvor/salvorlaw1.OffNear", spec := "offNear", apart := false }
def OffNearSaid : Prop := offNearRow.holds Try.pinned (OpenSpec.ofChange offNearSpec)

/-- ITS FALSE NEIGHBOUR: 'it returns false'. Refute it at one input. -/
def offNearWrong : ChangeSpec := { name := "offNear", fn := fun _ => fun
  | [d1, d2] => { results := [.lit (.bool false)], args := [d1, d2] }
  | _ => none }
def OffNearWrongFalsely : Prop := offNearRow.holds Try.pinned (OpenSpec.ofChange offNearWrong)

/-- 'salvorlaw1.OffCuts': WHATEVER THE INPUT: true; the input reads as it did. -/
def offCutsSpec : ChangeSpec := { name := "offCuts", fn := fun _ => fun
  | [d1, d2, d3, d4] => { results := [.lit (.bool true)], args := [d1, d2, d3, d4] }
  | _ => none }
def offCutsRow : OpenClaim := { program := "ytobdiaalmhcimaa", sum := "a90318d638c889d0a4f3a7384a389d472f63c6c8691086593e3df95e1b7f88aa", func := "salvor/salvorlaw1.OffCuts", spec := "offCuts", apart := false }
def OffCutsSaid : Prop := offCutsRow.holds Try.pinned (OpenSpec.ofChange offCutsSpec)

/-- ITS FALSE NEIGHBOUR: 'it returns false'. Refute it at one input. -/
def offCutsWrong : ChangeSpec := { name := "offCuts", fn := fun _ => fun
  | [d1, d2, d3, d4] => { results := [.lit (.bool false)], args := [d1, d2, d3, d4] }
  | _ => none }
def OffCutsWrongFalsely : Prop := offCutsRow.holds Try.pinned (OpenSpec.ofChange offCutsWrong)

/- THE SECOND FORM. 'bulk': how many values and letters a reading holds, each counted each time it is reached (what is shared counts as often as it is met; a slice's spare places count too). A statement '..UptoSaid' is the law's where the arguments, and the package variables that the reading takes, are together of bulk at most 1048576: NARROWER than '..Said'. Prove '..Said' where nothing that the law and all that it calls make is longer than what came in: it says more and counts as full. Else prove '..UptoSaid'. A law counts once. -/
mutual
def uptoBulk {H : Type} : DataW H → Nat
  | .lit (.string bytes) => bytes.length + 1
  | .lit _ => 1
  | .nil => 1
  | .ptr d => uptoBulk d + 1
  | .slice elems spare => uptoBulkAll elems + uptoBulkAll spare + 1
  | .agg parts => uptoBulkAll parts + 1
  | .iface _ d => uptoBulk d + 1
  | .map entries => uptoBulkEntries entries + 1
  | .held _ => 1
def uptoBulkAll {H : Type} : List (DataW H) → Nat
  | [] => 0
  | d :: r => uptoBulk d + uptoBulkAll r
def uptoBulkEntries {H : Type} : List (Lit × DataW H) → Nat
  | [] => 0
  | x :: r => uptoBulkEntry x + uptoBulkEntries r
def uptoBulkEntry {H : Type} : Lit × DataW H → Nat
  | (.string bytes, d) => bytes.length + uptoBulk d + 1
  | (_, d) => uptoBulk d + 1
 end
def uptoSmall : (H : Type) → List (DataW H) → Bool := fun _ ds => decide (uptoBulkAll ds ≤ 1048576)
def OpenSpec.upto (s : _root_.Go.ChangeSpec) : _root_.Go.OpenSpec := { _root_.Go.OpenSpec.ofChange s with cond := some uptoSmall }

/-- 'salvorlaw1.OffRuns', WHERE WHAT IT READS IS OF BULK AT MOST 1048576: true; the input reads as it did. -/
def offRunsUptoRow : OpenClaim := { program := "ytobdiaalmhcimaa", sum := "a90318d638c889d0a4f3a7384a389d472f63c6c8691086593e3df95e1b7f88aa", func := "salvor/salvorlaw1.OffRuns", spec := "offRuns", apart := false, narrowed := true }
def OffRunsUptoSaid : Prop := offRunsUptoRow.holds Try.pinned (OpenSpec.upto offRunsSpec)

/-- 'salvorlaw1.OffSums', WHERE WHAT IT READS IS OF BULK AT MOST 1048576: true; the input reads as it did. -/
def offSumsUptoRow : OpenClaim := { program := "ytobdiaalmhcimaa", sum := "a90318d638c889d0a4f3a7384a389d472f63c6c8691086593e3df95e1b7f88aa", func := "salvor/salvorlaw1.OffSums", spec := "offSums", apart := false, narrowed := true }
def OffSumsUptoSaid : Prop := offSumsUptoRow.holds Try.pinned (OpenSpec.upto offSumsSpec)

/-- 'salvorlaw1.OffParts', WHERE WHAT IT READS IS OF BULK AT MOST 1048576: true; the input reads as it did. -/
def offPartsUptoRow : OpenClaim := { program := "ytobdiaalmhcimaa", sum := "a90318d638c889d0a4f3a7384a389d472f63c6c8691086593e3df95e1b7f88aa", func := "salvor/salvorlaw1.OffParts", spec := "offParts", apart := false, narrowed := true }
def OffPartsUptoSaid : Prop := offPartsUptoRow.holds Try.pinned (OpenSpec.upto offPartsSpec)

/-- 'salvorlaw1.OffJoins', WHERE WHAT IT READS IS OF BULK AT MOST 1048576: true; the input reads as it did. -/
def offJoinsUptoRow : OpenClaim := { program := "ytobdiaalmhcimaa", sum := "a90318d638c889d0a4f3a7384a389d472f63c6c8691086593e3df95e1b7f88aa", func := "salvor/salvorlaw1.OffJoins", spec := "offJoins", apart := false, narrowed := true }
def OffJoinsUptoSaid : Prop := offJoinsUptoRow.holds Try.pinned (OpenSpec.upto offJoinsSpec)

/-- 'salvorlaw1.OffCover', WHERE WHAT IT READS IS OF BULK AT MOST 1048576: true; the input reads as it did. -/
def offCoverUptoRow : OpenClaim := { program := "ytobdiaalmhcimaa", sum := "a90318d638c889d0a4f3a7384a389d472f63c6c8691086593e3df95e1b7f88aa", func := "salvor/salvorlaw1.OffCover", spec := "offCover", apart := false, narrowed := true }
def OffCoverUptoSaid : Prop := offCoverUptoRow.holds Try.pinned (OpenSpec.upto offCoverSpec)

/-- 'salvorlaw1.OffMeets', WHERE WHAT IT READS IS OF BULK AT MOST 1048576: true; the input reads as it did. -/
def offMeetsUptoRow : OpenClaim := { program := "ytobdiaalmhcimaa", sum := "a90318d638c889d0a4f3a7384a389d472f63c6c8691086593e3df95e1b7f88aa", func := "salvor/salvorlaw1.OffMeets", spec := "offMeets", apart := false, narrowed := true }
def OffMeetsUptoSaid : Prop := offMeetsUptoRow.holds Try.pinned (OpenSpec.upto offMeetsSpec)

/-- 'salvorlaw1.OffNear', WHERE WHAT IT READS IS OF BULK AT MOST 1048576: true; the input reads as it did. -/
def offNearUptoRow : OpenClaim := { program := "ytobdiaalmhcimaa", sum := "a90318d638c889d0a4f3a7384a389d472f63c6c8691086593e3df95e1b7f88aa", func := "salvor/salvorlaw1.OffNear", spec := "offNear", apart := false, narrowed := true }
def OffNearUptoSaid : Prop := offNearUptoRow.holds Try.pinned (OpenSpec.upto offNearSpec)

/-- 'salvorlaw1.OffCuts', WHERE WHAT IT READS IS OF BULK AT MOST 1048576: true; the input reads as it did. -/
def offCutsUptoRow : OpenClaim := { program := "ytobdiaalmhcimaa", sum := "a90318d638c889d0a4f3a7384a389d472f63c6c8691086593e3df95e1b7f88aa", func := "salvor/salvorlaw1.OffCuts", spec := "offCuts", apart := false, narrowed := true }
def OffCutsUptoSaid : Prop := offCutsUptoRow.holds Try.pinned (OpenSpec.upto offCutsSpec)

end Rows
end Go.Proofs.Ytobdiaalmhcimaa
