/-
  No cell of these rows narrows 'for every input' (looked for: loops, veiled, ifaces, maps, wideKeys, modest, calm, conditions, laid).
  DERIVED. THE GIVEN ROWS OF THIS SEAT. 7 by the template 'for every input the law returns true; each argument reads behind the call as it read before'; 0 by the template 'total and deterministic' (their statements: YtbppnhenlboefaaGreatTotals.lean).
  GIVEN WITH THE SEED: the statements are not yours to turn. If you find one false, say at which input.
  Laid BY PROGRAM, IN A SANDBOX (cutbox-rows.mjs): the forced cells as the released guide's own fill.sh prints them over the translation 343b6d6e13304c39… (all of the seat's roots in one cut). By AI agents, Wed Nov 11 2026. No macro, syntax, notation, axiom, sorry.
-/
import Derived.Test.YtbppnhenlboefaaGreatChecked
import GoSem.Claim
import GoSem.ClaimJoined
import GoSem.ClaimMapViews
import Derived.JoinedTies
import Derived.KernelRfl
namespace Go.Proofs.YtbppnhenlboefaaGreat
/- THE CELL 'sum', in the pinned program and in every row, IS THE sha256 OF THE DUMP (.gsa) THAT YtbppnhenlboefaaGreatProg.lean LOADS. Nothing in Lean hashes anything: it is a label: what it is worth is what the hold of that sum in a sandbox is worth. -/
noncomputable def Tryz.pinned : Pinned := { name := "ytbppnhenlboefaagreat", sum := "343b6d6e13304c391fa71bb62229f53423c06180a8d736c86141aae46e206471", checked := Tryz.checked }
namespace Rows
def none {H : Type} : Left H := { results := [], args := [] }

/-- 'salvorlaw30.CpRuns': WHATEVER THE INPUT: true; the input reads as it did. -/
def cpRunsSpec : ChangeSpec := { name := "cpRuns", fn := fun _ => fun
  | [] => { results := [.lit (.bool true)], args := [] }
  | _ => none }
def cpRunsRow : OpenClaim := { program := "ytbppnhenlboefaagreat", sum := "343b6d6e13304c391fa71bb62229f53423c06180a8d736c86141aae46e206471", func := "salvor/salvorlaw30.CpRuns", spec := "cpRuns", inPlace := ["internal/bytealg.abigen_runtime_cmpstring", "slices.overlaps[salvor/api.Name]", "slices.overlaps[salvor/api.Node]", "slices.overlaps[salvor/api.Ext]", "internal/bytealg.IndexByteString", "internal/bytealg.IndexString"], unfollowed := true, recurses := true, named := ["internal/bytealg.MaxLen"], apart := false }
def CpRunsSaid : Prop := cpRunsRow.holds Tryz.pinned (OpenSpec.ofChange cpRunsSpec)

/-- ITS FALSE NEIGHBOUR: 'it returns false'. Refute it at one input. -/
def cpRunsWrong : ChangeSpec := { name := "cpRuns", fn := fun _ => fun
  | [] => { results := [.lit (.bool false)], args := [] }
  | _ => none }
def CpRunsWrongFalsely : Prop := cpRunsRow.holds Tryz.pinned (OpenSpec.ofChange cpRunsWrong)

/-- 'salvorlaw30.CpHoles': WHATEVER THE INPUT: true; the input reads as it did. -/
def cpHolesSpec : ChangeSpec := { name := "cpHoles", fn := fun _ => fun
  | [d1, d2, d3] => { results := [.lit (.bool true)], args := [d1, d2, d3] }
  | _ => none }
def cpHolesRow : OpenClaim := { program := "ytbppnhenlboefaagreat", sum := "343b6d6e13304c391fa71bb62229f53423c06180a8d736c86141aae46e206471", func := "salvor/salvorlaw30.CpHoles", spec := "cpHoles", inPlace := ["internal/bytealg.abigen_runtime_cmpstring", "slices.overlaps[salvor/api.Name]", "slices.overlaps[salvor/api.Node]", "slices.overlaps[salvor/api.Ext]", "internal/bytealg.IndexByteString", "internal/bytealg.IndexString"], unfollowed := true, recurses := true, named := ["internal/bytealg.MaxLen"], apart := false }
def CpHolesSaid : Prop := cpHolesRow.holds Tryz.pinned (OpenSpec.ofChange cpHolesSpec)

/-- ITS FALSE NEIGHBOUR: 'it returns false'. Refute it at one input. -/
def cpHolesWrong : ChangeSpec := { name := "cpHoles", fn := fun _ => fun
  | [d1, d2, d3] => { results := [.lit (.bool false)], args := [d1, d2, d3] }
  | _ => none }
def CpHolesWrongFalsely : Prop := cpHolesRow.holds Tryz.pinned (OpenSpec.ofChange cpHolesWrong)

/-- 'salvorlaw30.CpFar': WHATEVER THE INPUT: true; the input reads as it did. -/
def cpFarSpec : ChangeSpec := { name := "cpFar", fn := fun _ => fun
  | [d1, d2, d3] => { results := [.lit (.bool true)], args := [d1, d2, d3] }
  | _ => none }
def cpFarRow : OpenClaim := { program := "ytbppnhenlboefaagreat", sum := "343b6d6e13304c391fa71bb62229f53423c06180a8d736c86141aae46e206471", func := "salvor/salvorlaw30.CpFar", spec := "cpFar", inPlace := ["internal/bytealg.abigen_runtime_cmpstring", "slices.overlaps[salvor/api.Name]", "slices.overlaps[salvor/api.Node]", "slices.overlaps[salvor/api.Ext]", "internal/bytealg.IndexByteString", "internal/bytealg.IndexString"], unfollowed := true, recurses := true, named := ["internal/bytealg.MaxLen"], apart := false }
def CpFarSaid : Prop := cpFarRow.holds Tryz.pinned (OpenSpec.ofChange cpFarSpec)

/-- ITS FALSE NEIGHBOUR: 'it returns false'. Refute it at one input. -/
def cpFarWrong : ChangeSpec := { name := "cpFar", fn := fun _ => fun
  | [d1, d2, d3] => { results := [.lit (.bool false)], args := [d1, d2, d3] }
  | _ => none }
def CpFarWrongFalsely : Prop := cpFarRow.holds Tryz.pinned (OpenSpec.ofChange cpFarWrong)

/-- 'salvorlaw30.CpReads': WHATEVER THE INPUT: true; the input reads as it did. -/
def cpReadsSpec : ChangeSpec := { name := "cpReads", fn := fun _ => fun
  | [d1, d2, d3, d4] => { results := [.lit (.bool true)], args := [d1, d2, d3, d4] }
  | _ => none }
def cpReadsRow : OpenClaim := { program := "ytbppnhenlboefaagreat", sum := "343b6d6e13304c391fa71bb62229f53423c06180a8d736c86141aae46e206471", func := "salvor/salvorlaw30.CpReads", spec := "cpReads", inPlace := ["internal/bytealg.abigen_runtime_cmpstring", "slices.overlaps[salvor/api.Name]", "slices.overlaps[salvor/api.Node]", "slices.overlaps[salvor/api.Ext]", "internal/bytealg.IndexByteString", "internal/bytealg.IndexString"], unfollowed := true, recurses := true, named := ["internal/bytealg.MaxLen"], apart := false }
def CpReadsSaid : Prop := cpReadsRow.holds Tryz.pinned (OpenSpec.ofChange cpReadsSpec)

/-- ITS FALSE NEIGHBOUR: 'it returns false'. Refute it at one input. -/
def cpReadsWrong : ChangeSpec := { name := "cpReads", fn := fun _ => fun
  | [d1, d2, d3, d4] => { results := [.lit (.bool false)], args := [d1, d2, d3, d4] }
  | _ => none }
def CpReadsWrongFalsely : Prop := cpReadsRow.holds Tryz.pinned (OpenSpec.ofChange cpReadsWrong)

/-- 'salvorlaw30.CpWrong': WHATEVER THE INPUT: true; the input reads as it did. -/
def cpWrongSpec : ChangeSpec := { name := "cpWrong", fn := fun _ => fun
  | [d1, d2] => { results := [.lit (.bool true)], args := [d1, d2] }
  | _ => none }
def cpWrongRow : OpenClaim := { program := "ytbppnhenlboefaagreat", sum := "343b6d6e13304c391fa71bb62229f53423c06180a8d736c86141aae46e206471", func := "salvor/salvorlaw30.CpWrong", spec := "cpWrong", inPlace := ["internal/bytealg.abigen_runtime_cmpstring", "slices.overlaps[salvor/api.Name]", "slices.overlaps[salvor/api.Node]", "slices.overlaps[salvor/api.Ext]", "internal/bytealg.IndexByteString", "internal/bytealg.IndexString"], unfollowed := true, recurses := true, named := ["internal/bytealg.MaxLen"], apart := false }
def CpWrongSaid : Prop := cpWrongRow.holds Tryz.pinned (OpenSpec.ofChange cpWrongSpec)

/-- ITS FALSE NEIGHBOUR: 'it returns false'. Refute it at one input. -/
def cpWrongWrong : ChangeSpec := { name := "cpWrong", fn := fun _ => fun
  | [d1, d2] => { results := [.lit (.bool false)], args := [d1, d2] }
  | _ => none }
def CpWrongWrongFalsely : Prop := cpWrongRow.holds Tryz.pinned (OpenSpec.ofChange cpWrongWrong)

/-- 'salvorlaw30.CpFull': WHATEVER THE INPUT: true; the input reads as it did. -/
def cpFullSpec : ChangeSpec := { name := "cpFull", fn := fun _ => fun
  | [d1, d2] => { results := [.lit (.bool true)], args := [d1, d2] }
  | _ => none }
def cpFullRow : OpenClaim := { program := "ytbppnhenlboefaagreat", sum := "343b6d6e13304c391fa71bb62229f53423c06180a8d736c86141aae46e206471", func := "salvor/salvorlaw30.CpFull", spec := "cpFull", inPlace := ["internal/bytealg.abigen_runtime_cmpstring", "slices.overlaps[salvor/api.Name]", "slices.overlaps[salvor/api.Node]", "slices.overlaps[salvor/api.Ext]", "internal/bytealg.IndexByteString", "internal/bytealg.IndexString"], unfollowed := true, recurses := true, named := ["internal/bytealg.MaxLen"], apart := false }
def CpFullSaid : Prop := cpFullRow.holds Tryz.pinned (OpenSpec.ofChange cpFullSpec)

/-- ITS FALSE NEIGHBOUR: 'it returns false'. Refute it at one input. -/
def cpFullWrong : ChangeSpec := { name := "cpFull", fn := fun _ => fun
  | [d1, d2] => { results := [.lit (.bool false)], args := [d1, d2] }
  | _ => none }
def CpFullWrongFalsely : Prop := cpFullRow.holds Tryz.pinned (OpenSpec.ofChange cpFullWrong)

/-- 'salvorlaw30.CpPlays': WHATEVER THE INPUT: true; the input reads as it did. -/
def cpPlaysSpec : ChangeSpec := { name := "cpPlays", fn := fun _ => fun
  | [d1, d2, d3, d4, d5, d6, d7, d8] => { results := [.lit (.bool true)], args := [d1, d2, d3, d4, d5, d6, d7, d8] }
  | _ => none }
def cpPlaysRow : OpenClaim := { program := "ytbppnhenlboefaagreat", sum := "343b6d6e13304c391fa71bb62229f53423c06180a8d736c86141aae46e206471", func := "salvor/salvorlaw30.CpPlays", spec := "cpPlays", inPlace := ["internal/bytealg.abigen_runtime_cmpstring", "slices.overlaps[salvor/api.Name]", "slices.overlaps[salvor/api.Node]", "slices.overlaps[salvor/api.Ext]", "internal/bytealg.IndexByteString", "internal/bytealg.IndexString"], unfollowed := true, recurses := true, named := ["internal/bytealg.MaxLen"], apart := false }
def CpPlaysSaid : Prop := cpPlaysRow.holds Tryz.pinned (OpenSpec.ofChange cpPlaysSpec)

/-- ITS FALSE NEIGHBOUR: 'it returns false'. Refute it at one input. -/
def cpPlaysWrong : ChangeSpec := { name := "cpPlays", fn := fun _ => fun
  | [d1, d2, d3, d4, d5, d6, d7, d8] => { results := [.lit (.bool false)], args := [d1, d2, d3, d4, d5, d6, d7, d8] }
  | _ => none }
def CpPlaysWrongFalsely : Prop := cpPlaysRow.holds Tryz.pinned (OpenSpec.ofChange cpPlaysWrong)

/- THE SECOND FORM. 'bulk': how many values and letters a reading holds, each counted each time it is reached (what is shared counts as often as it is met; a slice's spare places count too). A statement '..UptoSaid' is the law's where the arguments, and the package variables that the reading takes, are together of bulk at most 1048576: NARROWER than '..Said'. Prove '..Said' where nothing that the law and all that it calls make is longer than what came in: it says more and counts as full. Else prove '..UptoSaid'. A law counts once. -/
mutual
def uptoBulk {H : Type} : DataW H → Nat
  | .lit (.string bytes) => bytes.length + 1
  | .lit _ => 1
  | .nil => 1
  | .ptr d => uptoBulk d + 1
  | .slice elems spare => uptoBulkAll elems + uptoBulkAll spare + 1
  | .agg parts => uptoBulkAll parts + 1
  | .iface _ d => uptoBulk d + 1
  | .map entries => uptoBulkEntries entries + 1
  | .held _ => 1
def uptoBulkAll {H : Type} : List (DataW H) → Nat
  | [] => 0
  | d :: r => uptoBulk d + uptoBulkAll r
def uptoBulkEntries {H : Type} : List (Lit × DataW H) → Nat
  | [] => 0
  | x :: r => uptoBulkEntry x + uptoBulkEntries r
def uptoBulkEntry {H : Type} : Lit × DataW H → Nat
  | (.string bytes, d) => bytes.length + uptoBulk d + 1
  | (_, d) => uptoBulk d + 1
 end
def uptoSmall : (H : Type) → List (DataW H) → Bool := fun _ ds => decide (uptoBulkAll ds ≤ 1048576)
def OpenSpec.upto (s : _root_.Go.ChangeSpec) : _root_.Go.OpenSpec := { _root_.Go.OpenSpec.ofChange s with cond := some uptoSmall }

/-- 'salvorlaw30.CpRuns', WHERE WHAT IT READS IS OF BULK AT MOST 1048576: true; the input reads as it did. -/
def cpRunsUptoRow : OpenClaim := { program := "ytbppnhenlboefaagreat", sum := "343b6d6e13304c391fa71bb62229f53423c06180a8d736c86141aae46e206471", func := "salvor/salvorlaw30.CpRuns", spec := "cpRuns", inPlace := ["internal/bytealg.abigen_runtime_cmpstring", "slices.overlaps[salvor/api.Name]", "slices.overlaps[salvor/api.Node]", "slices.overlaps[salvor/api.Ext]", "internal/bytealg.IndexByteString", "internal/bytealg.IndexString"], unfollowed := true, recurses := true, named := ["internal/bytealg.MaxLen"], apart := false, narrowed := true }
def CpRunsUptoSaid : Prop := cpRunsUptoRow.holds Tryz.pinned (OpenSpec.upto cpRunsSpec)

/-- 'salvorlaw30.CpHoles', WHERE WHAT IT READS IS OF BULK AT MOST 1048576: true; the input reads as it did. -/
def cpHolesUptoRow : OpenClaim := { program := "ytbppnhenlboefaagreat", sum := "343b6d6e13304c391fa71bb62229f53423c06180a8d736c86141aae46e206471", func := "salvor/salvorlaw30.CpHoles", spec := "cpHoles", inPlace := ["internal/bytealg.abigen_runtime_cmpstring", "slices.overlaps[salvor/api.Name]", "slices.overlaps[salvor/api.Node]", "slices.overlaps[salvor/api.Ext]", "internal/bytealg.IndexByteString", "internal/bytealg.IndexString"], unfollowed := true, recurses := true, named := ["internal/bytealg.MaxLen"], apart := false, narrowed := true }
def CpHolesUptoSaid : Prop := cpHolesUptoRow.holds Tryz.pinned (OpenSpec.upto cpHolesSpec)

/-- 'salvorlaw30.CpFar', WHERE WHAT IT READS IS OF BULK AT MOST 1048576: true; the input reads as it did. -/
def cpFarUptoRow : OpenClaim := { program := "ytbppnhenlboefaagreat", sum := "343b6d6e13304c391fa71bb62229f53423c06180a8d736c86141aae46e206471", func := "salvor/salvorlaw30.CpFar", spec := "cpFar", inPlace := ["internal/bytealg.abigen_runtime_cmpstring", "slices.overlaps[salvor/api.Name]", "slices.overlaps[salvor/api.Node]", "slices.overlaps[salvor/api.Ext]", "internal/bytealg.IndexByteString", "internal/bytealg.IndexString"], unfollowed := true, recurses := true, named := ["internal/bytealg.MaxLen"], apart := false, narrowed := true }
def CpFarUptoSaid : Prop := cpFarUptoRow.holds Tryz.pinned (OpenSpec.upto cpFarSpec)

/-- 'salvorlaw30.CpReads', WHERE WHAT IT READS IS OF BULK AT MOST 1048576: true; the input reads as it did. -/
def cpReadsUptoRow : OpenClaim := { program := "ytbppnhenlboefaagreat", sum := "343b6d6e13304c391fa71bb62229f53423c06180a8d736c86141aae46e206471", func := "salvor/salvorlaw30.CpReads", spec := "cpReads", inPlace := ["internal/bytealg.abigen_runtime_cmpstring", "slices.overlaps[salvor/api.Name]", "slices.overlaps[salvor/api.Node]", "slices.overlaps[salvor/api.Ext]", "internal/bytealg.IndexByteString", "internal/bytealg.IndexString"], unfollowed := true, recurses := true, named := ["internal/bytealg.MaxLen"], apart := false, narrowed := true }
def CpReadsUptoSaid : Prop := cpReadsUptoRow.holds Tryz.pinned (OpenSpec.upto cpReadsSpec)

/-- 'salvorlaw30.CpWrong', WHERE WHAT IT READS IS OF BULK AT MOST 1048576: true; the input reads as it did. -/
def cpWrongUptoRow : OpenClaim := { program := "ytbppnhenlboefaagreat", sum := "343b6d6e13304c391fa71bb62229f53423c06180a8d736c86141aae46e206471", func := "salvor/salvorlaw30.CpWrong", spec := "cpWrong", inPlace := ["internal/bytealg.abigen_runtime_cmpstring", "slices.overlaps[salvor/api.Name]", "slices.overlaps[salvor/api.Node]", "slices.overlaps[salvor/api.Ext]", "internal/bytealg.IndexByteString", "internal/bytealg.IndexString"], unfollowed := true, recurses := true, named := ["internal/bytealg.MaxLen"], apart := false, narrowed := true }
def CpWrongUptoSaid : Prop := cpWrongUptoRow.holds Tryz.pinned (OpenSpec.upto cpWrongSpec)

/-- 'salvorlaw30.CpFull', WHERE WHAT IT READS IS OF BULK AT MOST 1048576: true; the input reads as it did. -/
def cpFullUptoRow : OpenClaim := { program := "ytbppnhenlboefaagreat", sum := "343b6d6e13304c391fa71bb62229f53423c06180a8d736c86141aae46e206471", func := "salvor/salvorlaw30.CpFull", spec := "cpFull", inPlace := ["internal/bytealg.abigen_runtime_cmpstring", "slices.overlaps[salvor/api.Name]", "slices.overlaps[salvor/api.Node]", "slices.overlaps[salvor/api.Ext]", "internal/bytealg.IndexByteString", "internal/bytealg.IndexString"], unfollowed := true, recurses := true, named := ["internal/bytealg.MaxLen"], apart := false, narrowed := true }
def CpFullUptoSaid : Prop := cpFullUptoRow.holds Tryz.pinned (OpenSpec.upto cpFullSpec)

/-- 'salvorlaw30.CpPlays', WHERE WHAT IT READS IS OF BULK AT MOST 1048576: true; the input reads as it did. -/
def cpPlaysUptoRow : OpenClaim := { program := "ytbppnhenlboefaagreat", sum := "343b6d6e13304c391fa71bb62229f53423c06180a8d736c86141aae46e206471", func := "salvor/salvorlaw30.CpPlays", spec := "cpPlays", inPlace := ["internal/bytealg.abigen_runtime_cmpstring", "slices.overlaps[salvor/api.Name]", "slices.overlaps[salvor/api.Node]", "slices.overlaps[salvor/api.Ext]", "internal/bytealg.IndexByteString", "internal/bytealg.IndexString"], unfollowed := true, recurses := true, named := ["internal/bytealg.MaxLen"], apart := false, narrowed := true }
def CpPlaysUptoSaid : Prop := cpPlaysUptoRow.holds Tryz.pinned (OpenSpec.upto cpPlaysSpec)

end Rows
end Go.Proofs.YtbppnhenlboefaaGreat
