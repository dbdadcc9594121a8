/-
  No cell of these rows narrows 'for every input' (looked for: loops, veiled, ifaces, maps, wideKeys, modest, calm, conditions, laid).
  DERIVED. THE GIVEN ROWS OF THIS SEAT. 9 by the template 'for every input the law returns true; each argument reads behind the call as it read before'; 0 by the template 'total and deterministic' (their statements: YtflodknflaallaaTotals.lean).
  GIVEN WITH THE SEED: the statements are not yours to turn. If you find one false, say at which input.
  Laid BY PROGRAM, IN A SANDBOX (cutbox-rows.mjs): the forced cells as the released guide's own fill.sh prints them over the translation f39882d5c55599ce… (all of the seat's roots in one cut). By AI agents, Wed Nov 11 2026. No macro, syntax, notation, axiom, sorry.
-/
import Derived.Test.YtflodknflaallaaChecked
import GoSem.Claim
import GoSem.ClaimJoined
import GoSem.ClaimMapViews
import Derived.JoinedTies
import Derived.KernelRfl
namespace Go.Proofs.Ytflodknflaallaa
/- THE CELL 'sum', in the pinned program and in every row, IS THE sha256 OF THE DUMP (.gsa) THAT YtflodknflaallaaProg.lean LOADS. Nothing in Lean hashes anything: it is a label: what it is worth is what the hold of that sum in a sandbox is worth. -/
noncomputable def Try.pinned : Pinned := { name := "ytflodknflaallaa", sum := "f39882d5c55599ce7e2747de9f1f5035d4caae20e75446c4134ec64e1493df01", checked := Try.checked }
namespace Rows
def none {H : Type} : Left H := { results := [], args := [] }

/-- 'salvorlaw11.ExtentRuns': WHATEVER THE INPUT: true; the input reads as it did. -/
def extentRunsSpec : ChangeSpec := { name := "extentRuns", fn := fun _ => fun
  | [] => { results := [.lit (.bool true)], args := [] }
  | _ => none }
def extentRunsRow : OpenClaim := { program := "ytflodknflaallaa", sum := "f39882d5c55599ce7e2747de9f1f5035d4caae20e75446c4134ec64e1493df01", func := "salvor/salvorlaw11.ExtentRuns", spec := "extentRuns", inPlace := ["slices.overlaps[salvor/api.Ext]"], unfollowed := true, recurses := true, apart := false }
def ExtentRunsSaid : Prop := extentRunsRow.holds Try.pinned (OpenSpec.ofChange extentRunsSpec)

/-- ITS FALSE NEIGHBOUR: 'it returns false'. Refute it at one input. -/
def extentRunsWrong : ChangeSpec := { name := "extentRuns", fn := fun _ => fun
  | [] => { results := [.lit (.bool false)], args := [] }
  | _ => none }
def ExtentRunsWrongFalsely : Prop := extentRunsRow.holds Try.pinned (OpenSpec.ofChange extentRunsWrong)

/-- 'salvorlaw11.ExtentWrites': WHATEVER THE INPUT: true; the input reads as it did. -/
def extentWritesSpec : ChangeSpec := { name := "extentWrites", fn := fun _ => fun
  | [d1, d2, d3] => { results := [.lit (.bool true)], args := [d1, d2, d3] }
  | _ => none }
def extentWritesRow : OpenClaim := { program := "ytflodknflaallaa", sum := "f39882d5c55599ce7e2747de9f1f5035d4caae20e75446c4134ec64e1493df01", func := "salvor/salvorlaw11.ExtentWrites", spec := "extentWrites", inPlace := ["slices.overlaps[salvor/api.Ext]"], unfollowed := true, recurses := true, apart := false }
def ExtentWritesSaid : Prop := extentWritesRow.holds Try.pinned (OpenSpec.ofChange extentWritesSpec)

/-- ITS FALSE NEIGHBOUR: 'it returns false'. Refute it at one input. -/
def extentWritesWrong : ChangeSpec := { name := "extentWrites", fn := fun _ => fun
  | [d1, d2, d3] => { results := [.lit (.bool false)], args := [d1, d2, d3] }
  | _ => none }
def ExtentWritesWrongFalsely : Prop := extentWritesRow.holds Try.pinned (OpenSpec.ofChange extentWritesWrong)

/-- 'salvorlaw11.ExtentSeeks': WHATEVER THE INPUT: true; the input reads as it did. -/
def extentSeeksSpec : ChangeSpec := { name := "extentSeeks", fn := fun _ => fun
  | [d1, d2] => { results := [.lit (.bool true)], args := [d1, d2] }
  | _ => none }
def extentSeeksRow : OpenClaim := { program := "ytflodknflaallaa", sum := "f39882d5c55599ce7e2747de9f1f5035d4caae20e75446c4134ec64e1493df01", func := "salvor/salvorlaw11.ExtentSeeks", spec := "extentSeeks", inPlace := ["slices.overlaps[salvor/api.Ext]"], unfollowed := true, recurses := true, apart := false }
def ExtentSeeksSaid : Prop := extentSeeksRow.holds Try.pinned (OpenSpec.ofChange extentSeeksSpec)

/-- ITS FALSE NEIGHBOUR: 'it returns false'. Refute it at one input. -/
def extentSeeksWrong : ChangeSpec := { name := "extentSeeks", fn := fun _ => fun
  | [d1, d2] => { results := [.lit (.bool false)], args := [d1, d2] }
  | _ => none }
def ExtentSeeksWrongFalsely : Prop := extentSeeksRow.holds Try.pinned (OpenSpec.ofChange extentSeeksWrong)

/-- 'salvorlaw11.ExtentReads': WHATEVER THE INPUT: true; the input reads as it did. -/
def extentReadsSpec : ChangeSpec := { name := "extentReads", fn := fun _ => fun
  | [d1, d2, d3, d4] => { results := [.lit (.bool true)], args := [d1, d2, d3, d4] }
  | _ => none }
def extentReadsRow : OpenClaim := { program := "ytflodknflaallaa", sum := "f39882d5c55599ce7e2747de9f1f5035d4caae20e75446c4134ec64e1493df01", func := "salvor/salvorlaw11.ExtentReads", spec := "extentReads", inPlace := ["slices.overlaps[salvor/api.Ext]"], unfollowed := true, recurses := true, apart := false }
def ExtentReadsSaid : Prop := extentReadsRow.holds Try.pinned (OpenSpec.ofChange extentReadsSpec)

/-- ITS FALSE NEIGHBOUR: 'it returns false'. Refute it at one input. -/
def extentReadsWrong : ChangeSpec := { name := "extentReads", fn := fun _ => fun
  | [d1, d2, d3, d4] => { results := [.lit (.bool false)], args := [d1, d2, d3, d4] }
  | _ => none }
def ExtentReadsWrongFalsely : Prop := extentReadsRow.holds Try.pinned (OpenSpec.ofChange extentReadsWrong)

/-- 'salvorlaw11.ExtentBack': WHATEVER THE INPUT: true; the input reads as it did. -/
def extentBackSpec : ChangeSpec := { name := "extentBack", fn := fun _ => fun
  | [d1, d2, d3, d4] => { results := [.lit (.bool true)], args := [d1, d2, d3, d4] }
  | _ => none }
def extentBackRow : OpenClaim := { program := "ytflodknflaallaa", sum := "f39882d5c55599ce7e2747de9f1f5035d4caae20e75446c4134ec64e1493df01", func := "salvor/salvorlaw11.ExtentBack", spec := "extentBack", inPlace := ["slices.overlaps[salvor/api.Ext]"], unfollowed := true, recurses := true, apart := false }
def ExtentBackSaid : Prop := extentBackRow.holds Try.pinned (OpenSpec.ofChange extentBackSpec)

/-- ITS FALSE NEIGHBOUR: 'it returns false'. Refute it at one input. -/
def extentBackWrong : ChangeSpec := { name := "extentBack", fn := fun _ => fun
  | [d1, d2, d3, d4] => { results := [.lit (.bool false)], args := [d1, d2, d3, d4] }
  | _ => none }
def ExtentBackWrongFalsely : Prop := extentBackRow.holds Try.pinned (OpenSpec.ofChange extentBackWrong)

/-- 'salvorlaw11.ExtentRoom': WHATEVER THE INPUT: true; the input reads as it did. -/
def extentRoomSpec : ChangeSpec := { name := "extentRoom", fn := fun _ => fun
  | [d1, d2, d3, d4, d5] => { results := [.lit (.bool true)], args := [d1, d2, d3, d4, d5] }
  | _ => none }
def extentRoomRow : OpenClaim := { program := "ytflodknflaallaa", sum := "f39882d5c55599ce7e2747de9f1f5035d4caae20e75446c4134ec64e1493df01", func := "salvor/salvorlaw11.ExtentRoom", spec := "extentRoom", inPlace := ["slices.overlaps[salvor/api.Ext]"], unfollowed := true, recurses := true, apart := false }
def ExtentRoomSaid : Prop := extentRoomRow.holds Try.pinned (OpenSpec.ofChange extentRoomSpec)

/-- ITS FALSE NEIGHBOUR: 'it returns false'. Refute it at one input. -/
def extentRoomWrong : ChangeSpec := { name := "extentRoom", fn := fun _ => fun
  | [d1, d2, d3, d4, d5] => { results := [.lit (.bool false)], args := [d1, d2, d3, d4, d5] }
  | _ => none }
def ExtentRoomWrongFalsely : Prop := extentRoomRow.holds Try.pinned (OpenSpec.ofChange extentRoomWrong)

/-- 'salvorlaw11.ExtentSized': WHATEVER THE INPUT: true; the input reads as it did. -/
def extentSizedSpec : ChangeSpec := { name := "extentSized", fn := fun _ => fun
  | [d1, d2, d3, d4] => { results := [.lit (.bool true)], args := [d1, d2, d3, d4] }
  | _ => none }
def extentSizedRow : OpenClaim := { program := "ytflodknflaallaa", sum := "f39882d5c55599ce7e2747de9f1f5035d4caae20e75446c4134ec64e1493df01", func := "salvor/salvorlaw11.ExtentSized", spec := "extentSized", inPlace := ["slices.overlaps[salvor/api.Ext]"], unfollowed := true, recurses := true, apart := false }
def ExtentSizedSaid : Prop := extentSizedRow.holds Try.pinned (OpenSpec.ofChange extentSizedSpec)

/-- ITS FALSE NEIGHBOUR: 'it returns false'. Refute it at one input. -/
def extentSizedWrong : ChangeSpec := { name := "extentSized", fn := fun _ => fun
  | [d1, d2, d3, d4] => { results := [.lit (.bool false)], args := [d1, d2, d3, d4] }
  | _ => none }
def ExtentSizedWrongFalsely : Prop := extentSizedRow.holds Try.pinned (OpenSpec.ofChange extentSizedWrong)

/-- 'salvorlaw11.ExtentPunched': WHATEVER THE INPUT: true; the input reads as it did. -/
def extentPunchedSpec : ChangeSpec := { name := "extentPunched", fn := fun _ => fun
  | [d1, d2, d3, d4] => { results := [.lit (.bool true)], args := [d1, d2, d3, d4] }
  | _ => none }
def extentPunchedRow : OpenClaim := { program := "ytflodknflaallaa", sum := "f39882d5c55599ce7e2747de9f1f5035d4caae20e75446c4134ec64e1493df01", func := "salvor/salvorlaw11.ExtentPunched", spec := "extentPunched", inPlace := ["slices.overlaps[salvor/api.Ext]"], unfollowed := true, recurses := true, apart := false }
def ExtentPunchedSaid : Prop := extentPunchedRow.holds Try.pinned (OpenSpec.ofChange extentPunchedSpec)

/-- ITS FALSE NEIGHBOUR: 'it returns false'. Refute it at one input. -/
def extentPunchedWrong : ChangeSpec := { name := "extentPunched", fn := fun _ => fun
  | [d1, d2, d3, d4] => { results := [.lit (.bool false)], args := [d1, d2, d3, d4] }
  | _ => none }
def ExtentPunchedWrongFalsely : Prop := extentPunchedRow.holds Try.pinned (OpenSpec.ofChange extentPunchedWrong)

/-- 'salvorlaw11.ExtentChanges': WHATEVER THE INPUT: true; the input reads as it did. -/
def extentChangesSpec : ChangeSpec := { name := "extentChanges", fn := fun _ => fun
  | [d1, d2, d3, d4, d5] => { results := [.lit (.bool true)], args := [d1, d2, d3, d4, d5] }
  | _ => none }
def extentChangesRow : OpenClaim := { program := "ytflodknflaallaa", sum := "f39882d5c55599ce7e2747de9f1f5035d4caae20e75446c4134ec64e1493df01", func := "salvor/salvorlaw11.ExtentChanges", spec := "extentChanges", inPlace := ["slices.overlaps[salvor/api.Ext]"], unfollowed := true, recurses := true, apart := false }
def ExtentChangesSaid : Prop := extentChangesRow.holds Try.pinned (OpenSpec.ofChange extentChangesSpec)

/-- ITS FALSE NEIGHBOUR: 'it returns false'. Refute it at one input. -/
def extentChangesWrong : ChangeSpec := { name := "extentChanges", fn := fun _ => fun
  | [d1, d2, d3, d4, d5] => { results := [.lit (.bool false)], args := [d1, d2, d3, d4, d5] }
  | _ => none }
def ExtentChangesWrongFalsely : Prop := extentChangesRow.holds Try.pinned (OpenSpec.ofChange extentChangesWrong)

/- THE SECOND FORM. 'bulk': how many values and letters a reading holds, each counted each time it is reached (what is shared counts as often as it is met; a slice's spare places count too). A statement '..UptoSaid' is the law's where the arguments, and the package variables that the reading takes, are together of bulk at most 1048576: NARROWER than '..Said'. Prove '..Said' where nothing that the law and all that it calls make is longer than what came in: it says more and counts as full. Else prove '..UptoSaid'. A law counts once. -/
mutual
def uptoBulk {H : Type} : DataW H → Nat
  | .lit (.string bytes) => bytes.length + 1
  | .lit _ => 1
  | .nil => 1
  | .ptr d => uptoBulk d + 1
  | .slice elems spare => uptoBulkAll elems + uptoBulkAll spare + 1
  | .agg parts => uptoBulkAll parts + 1
  | .iface _ d => uptoBulk d + 1
  | .map entries => uptoBulkEntries entries + 1
  | .held _ => 1
def uptoBulkAll {H : Type} : List (DataW H) → Nat
  | [] => 0
  | d :: r => uptoBulk d + uptoBulkAll r
def uptoBulkEntries {H : Type} : List (Lit × DataW H) → Nat
  | [] => 0
  | x :: r => uptoBulkEntry x + uptoBulkEntries r
def uptoBulkEntry {H : Type} : Lit × DataW H → Nat
  | (.string bytes, d) => bytes.length + uptoBulk d + 1
  | (_, d) => uptoBulk d + 1
 end
def uptoSmall : (H : Type) → List (DataW H) → Bool := fun _ ds => decide (uptoBulkAll ds ≤ 1048576)
def OpenSpec.upto (s : _root_.Go.ChangeSpec) : _root_.Go.OpenSpec := { _root_.Go.OpenSpec.ofChange s with cond := some uptoSmall }

/-- 'salvorlaw11.ExtentRuns', WHERE WHAT IT READS IS OF BULK AT MOST 1048576: true; the input reads as it did. -/
def extentRunsUptoRow : OpenClaim := { program := "ytflodknflaallaa", sum := "f39882d5c55599ce7e2747de9f1f5035d4caae20e75446c4134ec64e1493df01", func := "salvor/salvorlaw11.ExtentRuns", spec := "extentRuns", inPlace := ["slices.overlaps[salvor/api.Ext]"], unfollowed := true, recurses := true, apart := false, narrowed := true }
def ExtentRunsUptoSaid : Prop := extentRunsUptoRow.holds Try.pinned (OpenSpec.upto extentRunsSpec)

/-- 'salvorlaw11.ExtentWrites', WHERE WHAT IT READS IS OF BULK AT MOST 1048576: true; the input reads as it did. -/
def extentWritesUptoRow : OpenClaim := { program := "ytflodknflaallaa", sum := "f39882d5c55599ce7e2747de9f1f5035d4caae20e75446c4134ec64e1493df01", func := "salvor/salvorlaw11.ExtentWrites", spec := "extentWrites", inPlace := ["slices.overlaps[salvor/api.Ext]"], unfollowed := true, recurses := true, apart := false, narrowed := true }
def ExtentWritesUptoSaid : Prop := extentWritesUptoRow.holds Try.pinned (OpenSpec.upto extentWritesSpec)

/-- 'salvorlaw11.ExtentSeeks', WHERE WHAT IT READS IS OF BULK AT MOST 1048576: true; the input reads as it did. -/
def extentSeeksUptoRow : OpenClaim := { program := "ytflodknflaallaa", sum := "f39882d5c55599ce7e2747de9f1f5035d4caae20e75446c4134ec64e1493df01", func := "salvor/salvorlaw11.ExtentSeeks", spec := "extentSeeks", inPlace := ["slices.overlaps[salvor/api.Ext]"], unfollowed := true, recurses := true, apart := false, narrowed := true }
def ExtentSeeksUptoSaid : Prop := extentSeeksUptoRow.holds Try.pinned (OpenSpec.upto extentSeeksSpec)

/-- 'salvorlaw11.ExtentReads', WHERE WHAT IT READS IS OF BULK AT MOST 1048576: true; the input reads as it did. -/
def extentReadsUptoRow : OpenClaim := { program := "ytflodknflaallaa", sum := "f39882d5c55599ce7e2747de9f1f5035d4caae20e75446c4134ec64e1493df01", func := "salvor/salvorlaw11.ExtentReads", spec := "extentReads", inPlace := ["slices.overlaps[salvor/api.Ext]"], unfollowed := true, recurses := true, apart := false, narrowed := true }
def ExtentReadsUptoSaid : Prop := extentReadsUptoRow.holds Try.pinned (OpenSpec.upto extentReadsSpec)

/-- 'salvorlaw11.ExtentBack', WHERE WHAT IT READS IS OF BULK AT MOST 1048576: true; the input reads as it did. -/
def extentBackUptoRow : OpenClaim := { program := "ytflodknflaallaa", sum := "f39882d5c55599ce7e2747de9f1f5035d4caae20e75446c4134ec64e1493df01", func := "salvor/salvorlaw11.ExtentBack", spec := "extentBack", inPlace := ["slices.overlaps[salvor/api.Ext]"], unfollowed := true, recurses := true, apart := false, narrowed := true }
def ExtentBackUptoSaid : Prop := extentBackUptoRow.holds Try.pinned (OpenSpec.upto extentBackSpec)

/-- 'salvorlaw11.ExtentRoom', WHERE WHAT IT READS IS OF BULK AT MOST 1048576: true; the input reads as it did. -/
def extentRoomUptoRow : OpenClaim := { program := "ytflodknflaallaa", sum := "f39882d5c55599ce7e2747de9f1f5035d4caae20e75446c4134ec64e1493df01", func := "salvor/salvorlaw11.ExtentRoom", spec := "extentRoom", inPlace := ["slices.overlaps[salvor/api.Ext]"], unfollowed := true, recurses := true, apart := false, narrowed := true }
def ExtentRoomUptoSaid : Prop := extentRoomUptoRow.holds Try.pinned (OpenSpec.upto extentRoomSpec)

/-- 'salvorlaw11.ExtentSized', WHERE WHAT IT READS IS OF BULK AT MOST 1048576: true; the input reads as it did. -/
def extentSizedUptoRow : OpenClaim := { program := "ytflodknflaallaa", sum := "f39882d5c55599ce7e2747de9f1f5035d4caae20e75446c4134ec64e1493df01", func := "salvor/salvorlaw11.ExtentSized", spec := "extentSized", inPlace := ["slices.overlaps[salvor/api.Ext]"], unfollowed := true, recurses := true, apart := false, narrowed := true }
def ExtentSizedUptoSaid : Prop := extentSizedUptoRow.holds Try.pinned (OpenSpec.upto extentSizedSpec)

/-- 'salvorlaw11.ExtentPunched', WHERE WHAT IT READS IS OF BULK AT MOST 1048576: true; the input reads as it did. -/
def extentPunchedUptoRow : OpenClaim := { program := "ytflodknflaallaa", sum := "f39882d5c55599ce7e2747de9f1f5035d4caae20e75446c4134ec64e1493df01", func := "salvor/salvorlaw11.ExtentPunched", spec := "extentPunched", inPlace := ["slices.overlaps[salvor/api.Ext]"], unfollowed := true, recurses := true, apart := false, narrowed := true }
def ExtentPunchedUptoSaid : Prop := extentPunchedUptoRow.holds Try.pinned (OpenSpec.upto extentPunchedSpec)

/-- 'salvorlaw11.ExtentChanges', WHERE WHAT IT READS IS OF BULK AT MOST 1048576: true; the input reads as it did. -/
def extentChangesUptoRow : OpenClaim := { program := "ytflodknflaallaa", sum := "f39882d5c55599ce7e2747de9f1f5035d4caae20e75446c4134ec64e1493df01", func := "salvor/salvorlaw11.ExtentChanges", spec := "extentChanges", inPlace := ["slices.overlaps[salvor/api.Ext]"], unfollowed := true, recurses := true, apart := false, narrowed := true }
def ExtentChangesUptoSaid : Prop := extentChangesUptoRow.holds Try.pinned (OpenSpec.upto extentChangesSpec)

end Rows
end Go.Proofs.Ytflodknflaallaa
