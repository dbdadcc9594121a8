/-
  No cell of these rows narrows 'for every input' (looked for: loops, veiled, ifaces, maps, wideKeys, modest, calm, conditions, laid).
  DERIVED. THE GIVEN ROWS OF THIS SEAT. 5 by the template 'for every input the law returns true; each argument reads behind the call as it read before'; 0 by the template 'total and deterministic' (their statements: YtlbilcpnjgkpjaaGreatTotals.lean).
  GIVEN WITH THE SEED: the statements are not yours to turn. If you find one false, say at which input.
  Laid BY PROGRAM, IN A SANDBOX (cutbox-rows.mjs): the forced cells as the released guide's own fill.sh prints them over the translation 8ae198222c21d040… (all of the seat's roots in one cut). By AI agents, Wed Nov 11 2026. No macro, syntax, notation, axiom, sorry.
-/
import Derived.Test.YtlbilcpnjgkpjaaGreatChecked
import GoSem.Claim
import GoSem.ClaimJoined
import GoSem.ClaimMapViews
import Derived.JoinedTies
import Derived.KernelRfl
namespace Go.Proofs.YtlbilcpnjgkpjaaGreat
/- THE CELL 'sum', in the pinned program and in every row, IS THE sha256 OF THE DUMP (.gsa) THAT YtlbilcpnjgkpjaaGreatProg.lean LOADS. Nothing in Lean hashes anything: it is a label: what it is worth is what the hold of that sum in a sandbox is worth. -/
noncomputable def Tryz.pinned : Pinned := { name := "ytlbilcpnjgkpjaagreat", sum := "8ae198222c21d0409a70197ccf9ec5b3190fb662d96f23f6f8ce037652ac0f5a", checked := Tryz.checked }
namespace Rows
def none {H : Type} : Left H := { results := [], args := [] }

/-- 'salvorlaw15.LoopRuns': WHATEVER THE INPUT: true; the input reads as it did. -/
def loopRunsSpec : ChangeSpec := { name := "loopRuns", fn := fun _ => fun
  | [] => { results := [.lit (.bool true)], args := [] }
  | _ => none }
def loopRunsRow : OpenClaim := { program := "ytlbilcpnjgkpjaagreat", sum := "8ae198222c21d0409a70197ccf9ec5b3190fb662d96f23f6f8ce037652ac0f5a", func := "salvor/salvorlaw15.LoopRuns", spec := "loopRuns", inPlace := ["internal/bytealg.abigen_runtime_cmpstring", "slices.overlaps[salvor/api.Name]", "slices.overlaps[salvor/api.Node]", "slices.overlaps[salvor/api.Ext]"], unfollowed := true, recurses := true, apart := false }
def LoopRunsSaid : Prop := loopRunsRow.holds Tryz.pinned (OpenSpec.ofChange loopRunsSpec)

/-- ITS FALSE NEIGHBOUR: 'it returns false'. Refute it at one input. -/
def loopRunsWrong : ChangeSpec := { name := "loopRuns", fn := fun _ => fun
  | [] => { results := [.lit (.bool false)], args := [] }
  | _ => none }
def LoopRunsWrongFalsely : Prop := loopRunsRow.holds Tryz.pinned (OpenSpec.ofChange loopRunsWrong)

/-- 'salvorlaw15.LoopWhole': WHATEVER THE INPUT: true; the input reads as it did. -/
def loopWholeSpec : ChangeSpec := { name := "loopWhole", fn := fun _ => fun
  | [d1, d2, d3] => { results := [.lit (.bool true)], args := [d1, d2, d3] }
  | _ => none }
def loopWholeRow : OpenClaim := { program := "ytlbilcpnjgkpjaagreat", sum := "8ae198222c21d0409a70197ccf9ec5b3190fb662d96f23f6f8ce037652ac0f5a", func := "salvor/salvorlaw15.LoopWhole", spec := "loopWhole", inPlace := ["internal/bytealg.abigen_runtime_cmpstring", "slices.overlaps[salvor/api.Name]", "slices.overlaps[salvor/api.Node]", "slices.overlaps[salvor/api.Ext]"], unfollowed := true, recurses := true, apart := false }
def LoopWholeSaid : Prop := loopWholeRow.holds Tryz.pinned (OpenSpec.ofChange loopWholeSpec)

/-- ITS FALSE NEIGHBOUR: 'it returns false'. Refute it at one input. -/
def loopWholeWrong : ChangeSpec := { name := "loopWhole", fn := fun _ => fun
  | [d1, d2, d3] => { results := [.lit (.bool false)], args := [d1, d2, d3] }
  | _ => none }
def LoopWholeWrongFalsely : Prop := loopWholeRow.holds Tryz.pinned (OpenSpec.ofChange loopWholeWrong)

/-- 'salvorlaw15.LoopLong': WHATEVER THE INPUT: true; the input reads as it did. -/
def loopLongSpec : ChangeSpec := { name := "loopLong", fn := fun _ => fun
  | [d1, d2] => { results := [.lit (.bool true)], args := [d1, d2] }
  | _ => none }
def loopLongRow : OpenClaim := { program := "ytlbilcpnjgkpjaagreat", sum := "8ae198222c21d0409a70197ccf9ec5b3190fb662d96f23f6f8ce037652ac0f5a", func := "salvor/salvorlaw15.LoopLong", spec := "loopLong", inPlace := ["internal/bytealg.abigen_runtime_cmpstring", "slices.overlaps[salvor/api.Name]", "slices.overlaps[salvor/api.Node]", "slices.overlaps[salvor/api.Ext]"], unfollowed := true, recurses := true, apart := false }
def LoopLongSaid : Prop := loopLongRow.holds Tryz.pinned (OpenSpec.ofChange loopLongSpec)

/-- ITS FALSE NEIGHBOUR: 'it returns false'. Refute it at one input. -/
def loopLongWrong : ChangeSpec := { name := "loopLong", fn := fun _ => fun
  | [d1, d2] => { results := [.lit (.bool false)], args := [d1, d2] }
  | _ => none }
def LoopLongWrongFalsely : Prop := loopLongRow.holds Tryz.pinned (OpenSpec.ofChange loopLongWrong)

/-- 'salvorlaw15.LoopFills': WHATEVER THE INPUT: true; the input reads as it did. -/
def loopFillsSpec : ChangeSpec := { name := "loopFills", fn := fun _ => fun
  | [d1, d2, d3] => { results := [.lit (.bool true)], args := [d1, d2, d3] }
  | _ => none }
def loopFillsRow : OpenClaim := { program := "ytlbilcpnjgkpjaagreat", sum := "8ae198222c21d0409a70197ccf9ec5b3190fb662d96f23f6f8ce037652ac0f5a", func := "salvor/salvorlaw15.LoopFills", spec := "loopFills", inPlace := ["internal/bytealg.abigen_runtime_cmpstring", "slices.overlaps[salvor/api.Name]", "slices.overlaps[salvor/api.Node]", "slices.overlaps[salvor/api.Ext]"], unfollowed := true, recurses := true, apart := false }
def LoopFillsSaid : Prop := loopFillsRow.holds Tryz.pinned (OpenSpec.ofChange loopFillsSpec)

/-- ITS FALSE NEIGHBOUR: 'it returns false'. Refute it at one input. -/
def loopFillsWrong : ChangeSpec := { name := "loopFills", fn := fun _ => fun
  | [d1, d2, d3] => { results := [.lit (.bool false)], args := [d1, d2, d3] }
  | _ => none }
def LoopFillsWrongFalsely : Prop := loopFillsRow.holds Tryz.pinned (OpenSpec.ofChange loopFillsWrong)

/-- 'salvorlaw15.LoopLasts': WHATEVER THE INPUT: true; the input reads as it did. -/
def loopLastsSpec : ChangeSpec := { name := "loopLasts", fn := fun _ => fun
  | [d1, d2, d3, d4] => { results := [.lit (.bool true)], args := [d1, d2, d3, d4] }
  | _ => none }
def loopLastsRow : OpenClaim := { program := "ytlbilcpnjgkpjaagreat", sum := "8ae198222c21d0409a70197ccf9ec5b3190fb662d96f23f6f8ce037652ac0f5a", func := "salvor/salvorlaw15.LoopLasts", spec := "loopLasts", inPlace := ["internal/bytealg.abigen_runtime_cmpstring", "slices.overlaps[salvor/api.Name]", "slices.overlaps[salvor/api.Node]", "slices.overlaps[salvor/api.Ext]"], unfollowed := true, recurses := true, apart := false }
def LoopLastsSaid : Prop := loopLastsRow.holds Tryz.pinned (OpenSpec.ofChange loopLastsSpec)

/-- ITS FALSE NEIGHBOUR: 'it returns false'. Refute it at one input. -/
def loopLastsWrong : ChangeSpec := { name := "loopLasts", fn := fun _ => fun
  | [d1, d2, d3, d4] => { results := [.lit (.bool false)], args := [d1, d2, d3, d4] }
  | _ => none }
def LoopLastsWrongFalsely : Prop := loopLastsRow.holds Tryz.pinned (OpenSpec.ofChange loopLastsWrong)

/- THE SECOND FORM. 'bulk': how many values and letters a reading holds, each counted each time it is reached (what is shared counts as often as it is met; a slice's spare places count too). A statement '..UptoSaid' is the law's where the arguments, and the package variables that the reading takes, are together of bulk at most 1048576: NARROWER than '..Said'. Prove '..Said' where nothing that the law and all that it calls make is longer than what came in: it says more and counts as full. Else prove '..UptoSaid'. A law counts once. -/
mutual
def uptoBulk {H : Type} : DataW H → Nat
  | .lit (.string bytes) => bytes.length + 1
  | .lit _ => 1
  | .nil => 1
  | .ptr d => uptoBulk d + 1
  | .slice elems spare => uptoBulkAll elems + uptoBulkAll spare + 1
  | .agg parts => uptoBulkAll parts + 1
  | .iface _ d => uptoBulk d + 1
  | .map entries => uptoBulkEntries entries + 1
  | .held _ => 1
def uptoBulkAll {H : Type} : List (DataW H) → Nat
  | [] => 0
  | d :: r => uptoBulk d + uptoBulkAll r
def uptoBulkEntries {H : Type} : List (Lit × DataW H) → Nat
  | [] => 0
  | x :: r => uptoBulkEntry x + uptoBulkEntries r
def uptoBulkEntry {H : Type} : Lit × DataW H → Nat
  | (.string bytes, d) => bytes.length + uptoBulk d + 1
  | (_, d) => uptoBulk d + 1
 end
def uptoSmall : (H : Type) → List (DataW H) → Bool := fun _ ds => decide (uptoBulkAll ds ≤ 1048576)
def OpenSpec.upto (s : _root_.Go.ChangeSpec) : _root_.Go.OpenSpec := { _root_.Go.OpenSpec.ofChange s with cond := some uptoSmall }

/-- 'salvorlaw15.LoopRuns', WHERE WHAT IT READS IS OF BULK AT MOST 1048576: true; the input reads as it did. -/
def loopRunsUptoRow : OpenClaim := { program := "ytlbilcpnjgkpjaagreat", sum := "8ae198222c21d0409a70197ccf9ec5b3190fb662d96f23f6f8ce037652ac0f5a", func := "salvor/salvorlaw15.LoopRuns", spec := "loopRuns", inPlace := ["internal/bytealg.abigen_runtime_cmpstring", "slices.overlaps[salvor/api.Name]", "slices.overlaps[salvor/api.Node]", "slices.overlaps[salvor/api.Ext]"], unfollowed := true, recurses := true, apart := false, narrowed := true }
def LoopRunsUptoSaid : Prop := loopRunsUptoRow.holds Tryz.pinned (OpenSpec.upto loopRunsSpec)

/-- 'salvorlaw15.LoopWhole', WHERE WHAT IT READS IS OF BULK AT MOST 1048576: true; the input reads as it did. -/
def loopWholeUptoRow : OpenClaim := { program := "ytlbilcpnjgkpjaagreat", sum := "8ae198222c21d0409a70197ccf9ec5b3190fb662d96f23f6f8ce037652ac0f5a", func := "salvor/salvorlaw15.LoopWhole", spec := "loopWhole", inPlace := ["internal/bytealg.abigen_runtime_cmpstring", "slices.overlaps[salvor/api.Name]", "slices.overlaps[salvor/api.Node]", "slices.overlaps[salvor/api.Ext]"], unfollowed := true, recurses := true, apart := false, narrowed := true }
def LoopWholeUptoSaid : Prop := loopWholeUptoRow.holds Tryz.pinned (OpenSpec.upto loopWholeSpec)

/-- 'salvorlaw15.LoopLong', WHERE WHAT IT READS IS OF BULK AT MOST 1048576: true; the input reads as it did. -/
def loopLongUptoRow : OpenClaim := { program := "ytlbilcpnjgkpjaagreat", sum := "8ae198222c21d0409a70197ccf9ec5b3190fb662d96f23f6f8ce037652ac0f5a", func := "salvor/salvorlaw15.LoopLong", spec := "loopLong", inPlace := ["internal/bytealg.abigen_runtime_cmpstring", "slices.overlaps[salvor/api.Name]", "slices.overlaps[salvor/api.Node]", "slices.overlaps[salvor/api.Ext]"], unfollowed := true, recurses := true, apart := false, narrowed := true }
def LoopLongUptoSaid : Prop := loopLongUptoRow.holds Tryz.pinned (OpenSpec.upto loopLongSpec)

/-- 'salvorlaw15.LoopFills', WHERE WHAT IT READS IS OF BULK AT MOST 1048576: true; the input reads as it did. -/
def loopFillsUptoRow : OpenClaim := { program := "ytlbilcpnjgkpjaagreat", sum := "8ae198222c21d0409a70197ccf9ec5b3190fb662d96f23f6f8ce037652ac0f5a", func := "salvor/salvorlaw15.LoopFills", spec := "loopFills", inPlace := ["internal/bytealg.abigen_runtime_cmpstring", "slices.overlaps[salvor/api.Name]", "slices.overlaps[salvor/api.Node]", "slices.overlaps[salvor/api.Ext]"], unfollowed := true, recurses := true, apart := false, narrowed := true }
def LoopFillsUptoSaid : Prop := loopFillsUptoRow.holds Tryz.pinned (OpenSpec.upto loopFillsSpec)

/-- 'salvorlaw15.LoopLasts', WHERE WHAT IT READS IS OF BULK AT MOST 1048576: true; the input reads as it did. -/
def loopLastsUptoRow : OpenClaim := { program := "ytlbilcpnjgkpjaagreat", sum := "8ae198222c21d0409a70197ccf9ec5b3190fb662d96f23f6f8ce037652ac0f5a", func := "salvor/salvorlaw15.LoopLasts", spec := "loopLasts", inPlace := ["internal/bytealg.abigen_runtime_cmpstring", "slices.overlaps[salvor/api.Name]", "slices.overlaps[salvor/api.Node]", "slices.overlaps[salvor/api.Ext]"], unfollowed := true, recurses := true, apart := false, narrowed := true }
def LoopLastsUptoSaid : Prop := loopLastsUptoRow.holds Tryz.pinned (OpenSpec.upto loopLastsSpec)

end Rows
end Go.Proofs.YtlbilcpnjgkpjaaGreat
