/-
  No cell of these rows narrows 'for every input' (looked for: loops, veiled, ifaces, maps, wideKeys, modest, calm, conditions, laid).
  DERIVED. THE GIVEN ROWS OF THIS SEAT. 6 by the template 'for every input the law returns true; each argument reads behind the call as it read before'; 0 by the template 'total and deterministic' (their statements: YthgkepaadkmhoaaTotals.lean).
  GIVEN WITH THE SEED: the statements are not yours to turn. If you find one false, say at which input.
  Laid BY PROGRAM, IN A SANDBOX (cutbox-rows.mjs): the forced cells as the released guide's own fill.sh prints them over the translation a7ef5899255d33d6… (all of the seat's roots in one cut). By AI agents, Wed Nov 11 2026. No macro, syntax, notation, axiom, sorry.
-/
import Derived.Test.YthgkepaadkmhoaaChecked
import GoSem.Claim
import GoSem.ClaimJoined
import GoSem.ClaimMapViews
import Derived.JoinedTies
import Derived.KernelRfl
namespace Go.Proofs.Ythgkepaadkmhoaa
/- THE CELL 'sum', in the pinned program and in every row, IS THE sha256 OF THE DUMP (.gsa) THAT YthgkepaadkmhoaaProg.lean LOADS. Nothing in Lean hashes anything: it is a label: what it is worth is what the hold of that sum in a sandbox is worth. -/
noncomputable def Try.pinned : Pinned := { name := "ythgkepaadkmhoaa", sum := "a7ef5899255d33d6ba0e6bd949b35b1f7fbe27af3229aa1da5296cb5dafc396b", checked := Try.checked }
namespace Rows
def none {H : Type} : Left H := { results := [], args := [] }

/-- 'salvorlaw10.DiskRuns': WHATEVER THE INPUT: true; the input reads as it did. -/
def diskRunsSpec : ChangeSpec := { name := "diskRuns", fn := fun _ => fun
  | [] => { results := [.lit (.bool true)], args := [] }
  | _ => none }
def diskRunsRow : OpenClaim := { program := "ythgkepaadkmhoaa", sum := "a7ef5899255d33d6ba0e6bd949b35b1f7fbe27af3229aa1da5296cb5dafc396b", func := "salvor/salvorlaw10.DiskRuns", spec := "diskRuns", unfollowed := true, recurses := true, apart := false }
def DiskRunsSaid : Prop := diskRunsRow.holds Try.pinned (OpenSpec.ofChange diskRunsSpec)

/-- ITS FALSE NEIGHBOUR: 'it returns false'. Refute it at one input. -/
def diskRunsWrong : ChangeSpec := { name := "diskRuns", fn := fun _ => fun
  | [] => { results := [.lit (.bool false)], args := [] }
  | _ => none }
def DiskRunsWrongFalsely : Prop := diskRunsRow.holds Try.pinned (OpenSpec.ofChange diskRunsWrong)

/-- 'salvorlaw10.DiskShorts': WHATEVER THE INPUT: true; the input reads as it did. -/
def diskShortsSpec : ChangeSpec := { name := "diskShorts", fn := fun _ => fun
  | [d1, d2] => { results := [.lit (.bool true)], args := [d1, d2] }
  | _ => none }
def diskShortsRow : OpenClaim := { program := "ythgkepaadkmhoaa", sum := "a7ef5899255d33d6ba0e6bd949b35b1f7fbe27af3229aa1da5296cb5dafc396b", func := "salvor/salvorlaw10.DiskShorts", spec := "diskShorts", unfollowed := true, recurses := true, apart := false }
def DiskShortsSaid : Prop := diskShortsRow.holds Try.pinned (OpenSpec.ofChange diskShortsSpec)

/-- ITS FALSE NEIGHBOUR: 'it returns false'. Refute it at one input. -/
def diskShortsWrong : ChangeSpec := { name := "diskShorts", fn := fun _ => fun
  | [d1, d2] => { results := [.lit (.bool false)], args := [d1, d2] }
  | _ => none }
def DiskShortsWrongFalsely : Prop := diskShortsRow.holds Try.pinned (OpenSpec.ofChange diskShortsWrong)

/-- 'salvorlaw10.DiskMay': WHATEVER THE INPUT: true; the input reads as it did. -/
def diskMaySpec : ChangeSpec := { name := "diskMay", fn := fun _ => fun
  | [d] => { results := [.lit (.bool true)], args := [d] }
  | _ => none }
def diskMayRow : OpenClaim := { program := "ythgkepaadkmhoaa", sum := "a7ef5899255d33d6ba0e6bd949b35b1f7fbe27af3229aa1da5296cb5dafc396b", func := "salvor/salvorlaw10.DiskMay", spec := "diskMay", unfollowed := true, recurses := true, apart := false }
def DiskMaySaid : Prop := diskMayRow.holds Try.pinned (OpenSpec.ofChange diskMaySpec)

/-- ITS FALSE NEIGHBOUR: 'it returns false'. Refute it at one input. -/
def diskMayWrong : ChangeSpec := { name := "diskMay", fn := fun _ => fun
  | [d] => { results := [.lit (.bool false)], args := [d] }
  | _ => none }
def DiskMayWrongFalsely : Prop := diskMayRow.holds Try.pinned (OpenSpec.ofChange diskMayWrong)

/-- 'salvorlaw10.DiskPlays': WHATEVER THE INPUT: true; the input reads as it did. -/
def diskPlaysSpec : ChangeSpec := { name := "diskPlays", fn := fun _ => fun
  | [d1, d2, d3] => { results := [.lit (.bool true)], args := [d1, d2, d3] }
  | _ => none }
def diskPlaysRow : OpenClaim := { program := "ythgkepaadkmhoaa", sum := "a7ef5899255d33d6ba0e6bd949b35b1f7fbe27af3229aa1da5296cb5dafc396b", func := "salvor/salvorlaw10.DiskPlays", spec := "diskPlays", unfollowed := true, recurses := true, apart := false }
def DiskPlaysSaid : Prop := diskPlaysRow.holds Try.pinned (OpenSpec.ofChange diskPlaysSpec)

/-- ITS FALSE NEIGHBOUR: 'it returns false'. Refute it at one input. -/
def diskPlaysWrong : ChangeSpec := { name := "diskPlays", fn := fun _ => fun
  | [d1, d2, d3] => { results := [.lit (.bool false)], args := [d1, d2, d3] }
  | _ => none }
def DiskPlaysWrongFalsely : Prop := diskPlaysRow.holds Try.pinned (OpenSpec.ofChange diskPlaysWrong)

/-- 'salvorlaw10.DiskTrue': WHATEVER THE INPUT: true; the input reads as it did. -/
def diskTrueSpec : ChangeSpec := { name := "diskTrue", fn := fun _ => fun
  | [d1, d2] => { results := [.lit (.bool true)], args := [d1, d2] }
  | _ => none }
def diskTrueRow : OpenClaim := { program := "ythgkepaadkmhoaa", sum := "a7ef5899255d33d6ba0e6bd949b35b1f7fbe27af3229aa1da5296cb5dafc396b", func := "salvor/salvorlaw10.DiskTrue", spec := "diskTrue", unfollowed := true, recurses := true, apart := false }
def DiskTrueSaid : Prop := diskTrueRow.holds Try.pinned (OpenSpec.ofChange diskTrueSpec)

/-- ITS FALSE NEIGHBOUR: 'it returns false'. Refute it at one input. -/
def diskTrueWrong : ChangeSpec := { name := "diskTrue", fn := fun _ => fun
  | [d1, d2] => { results := [.lit (.bool false)], args := [d1, d2] }
  | _ => none }
def DiskTrueWrongFalsely : Prop := diskTrueRow.holds Try.pinned (OpenSpec.ofChange diskTrueWrong)

/-- 'salvorlaw10.DiskSoft': WHATEVER THE INPUT: true; the input reads as it did. -/
def diskSoftSpec : ChangeSpec := { name := "diskSoft", fn := fun _ => fun
  | [d1, d2, d3] => { results := [.lit (.bool true)], args := [d1, d2, d3] }
  | _ => none }
def diskSoftRow : OpenClaim := { program := "ythgkepaadkmhoaa", sum := "a7ef5899255d33d6ba0e6bd949b35b1f7fbe27af3229aa1da5296cb5dafc396b", func := "salvor/salvorlaw10.DiskSoft", spec := "diskSoft", unfollowed := true, recurses := true, apart := false }
def DiskSoftSaid : Prop := diskSoftRow.holds Try.pinned (OpenSpec.ofChange diskSoftSpec)

/-- ITS FALSE NEIGHBOUR: 'it returns false'. Refute it at one input. -/
def diskSoftWrong : ChangeSpec := { name := "diskSoft", fn := fun _ => fun
  | [d1, d2, d3] => { results := [.lit (.bool false)], args := [d1, d2, d3] }
  | _ => none }
def DiskSoftWrongFalsely : Prop := diskSoftRow.holds Try.pinned (OpenSpec.ofChange diskSoftWrong)

/- THE SECOND FORM. 'bulk': how many values and letters a reading holds, each counted each time it is reached (what is shared counts as often as it is met; a slice's spare places count too). A statement '..UptoSaid' is the law's where the arguments, and the package variables that the reading takes, are together of bulk at most 1048576: NARROWER than '..Said'. Prove '..Said' where nothing that the law and all that it calls make is longer than what came in: it says more and counts as full. Else prove '..UptoSaid'. A law counts once. -/
mutual
def uptoBulk {H : Type} : DataW H → Nat
  | .lit (.string bytes) => bytes.length + 1
  | .lit _ => 1
  | .nil => 1
  | .ptr d => uptoBulk d + 1
  | .slice elems spare => uptoBulkAll elems + uptoBulkAll spare + 1
  | .agg parts => uptoBulkAll parts + 1
  | .iface _ d => uptoBulk d + 1
  | .map entries => uptoBulkEntries entries + 1
  | .held _ => 1
def uptoBulkAll {H : Type} : List (DataW H) → Nat
  | [] => 0
  | d :: r => uptoBulk d + uptoBulkAll r
def uptoBulkEntries {H : Type} : List (Lit × DataW H) → Nat
  | [] => 0
  | x :: r => uptoBulkEntry x + uptoBulkEntries r
def uptoBulkEntry {H : Type} : Lit × DataW H → Nat
  | (.string bytes, d) => bytes.length + uptoBulk d + 1
  | (_, d) => uptoBulk d + 1
 end
def uptoSmall : (H : Type) → List (DataW H) → Bool := fun _ ds => decide (uptoBulkAll ds ≤ 1048576)
def OpenSpec.upto (s : _root_.Go.ChangeSpec) : _root_.Go.OpenSpec := { _root_.Go.OpenSpec.ofChange s with cond := some uptoSmall }

/-- 'salvorlaw10.DiskRuns', WHERE WHAT IT READS IS OF BULK AT MOST 1048576: true; the input reads as it did. -/
def diskRunsUptoRow : OpenClaim := { program := "ythgkepaadkmhoaa", sum := "a7ef5899255d33d6ba0e6bd949b35b1f7fbe27af3229aa1da5296cb5dafc396b", func := "salvor/salvorlaw10.DiskRuns", spec := "diskRuns", unfollowed := true, recurses := true, apart := false, narrowed := true }
def DiskRunsUptoSaid : Prop := diskRunsUptoRow.holds Try.pinned (OpenSpec.upto diskRunsSpec)

/-- 'salvorlaw10.DiskShorts', WHERE WHAT IT READS IS OF BULK AT MOST 1048576: true; the input reads as it did. -/
def diskShortsUptoRow : OpenClaim := { program := "ythgkepaadkmhoaa", sum := "a7ef5899255d33d6ba0e6bd949b35b1f7fbe27af3229aa1da5296cb5dafc396b", func := "salvor/salvorlaw10.DiskShorts", spec := "diskShorts", unfollowed := true, recurses := true, apart := false, narrowed := true }
def DiskShortsUptoSaid : Prop := diskShortsUptoRow.holds Try.pinned (OpenSpec.upto diskShortsSpec)

/-- 'salvorlaw10.DiskMay', WHERE WHAT IT READS IS OF BULK AT MOST 1048576: true; the input reads as it did. -/
def diskMayUptoRow : OpenClaim := { program := "ythgkepaadkmhoaa", sum := "a7ef5899255d33d6ba0e6bd949b35b1f7fbe27af3229aa1da5296cb5dafc396b", func := "salvor/salvorlaw10.DiskMay", spec := "diskMay", unfollowed := true, recurses := true, apart := false, narrowed := true }
def DiskMayUptoSaid : Prop := diskMayUptoRow.holds Try.pinned (OpenSpec.upto diskMaySpec)

/-- 'salvorlaw10.DiskPlays', WHERE WHAT IT READS IS OF BULK AT MOST 1048576: true; the input reads as it did. -/
def diskPlaysUptoRow : OpenClaim := { program := "ythgkepaadkmhoaa", sum := "a7ef5899255d33d6ba0e6bd949b35b1f7fbe27af3229aa1da5296cb5dafc396b", func := "salvor/salvorlaw10.DiskPlays", spec := "diskPlays", unfollowed := true, recurses := true, apart := false, narrowed := true }
def DiskPlaysUptoSaid : Prop := diskPlaysUptoRow.holds Try.pinned (OpenSpec.upto diskPlaysSpec)

/-- 'salvorlaw10.DiskTrue', WHERE WHAT IT READS IS OF BULK AT MOST 1048576: true; the input reads as it did. -/
def diskTrueUptoRow : OpenClaim := { program := "ythgkepaadkmhoaa", sum := "a7ef5899255d33d6ba0e6bd949b35b1f7fbe27af3229aa1da5296cb5dafc396b", func := "salvor/salvorlaw10.DiskTrue", spec := "diskTrue", unfollowed := true, recurses := true, apart := false, narrowed := true }
def DiskTrueUptoSaid : Prop := diskTrueUptoRow.holds Try.pinned (OpenSpec.upto diskTrueSpec)

/-- 'salvorlaw10.DiskSoft', WHERE WHAT IT READS IS OF BULK AT MOST 1048576: true; the input reads as it did. -/
def diskSoftUptoRow : OpenClaim := { program := "ythgkepaadkmhoaa", sum := "a7ef5899255d33d6ba0e6bd949b35b1f7fbe27af3229aa1da5296cb5dafc396b", func := "salvor/salvorlaw10.DiskSoft", spec := "diskSoft", unfollowed := true, recurses := true, apart := false, narrowed := true }
def DiskSoftUptoSaid : Prop := diskSoftUptoRow.holds Try.pinned (OpenSpec.upto diskSoftSpec)

end Rows
end Go.Proofs.Ythgkepaadkmhoaa
