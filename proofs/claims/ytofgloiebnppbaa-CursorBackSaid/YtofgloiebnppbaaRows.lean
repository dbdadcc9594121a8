/-
  No cell of these rows narrows 'for every input' (looked for: loops, veiled, ifaces, maps, wideKeys, modest, calm, conditions, laid).
  DERIVED. THE GIVEN ROWS OF THIS SEAT. 6 by the template 'for every input the law returns true; each argument reads behind the call as it read before'; 0 by the template 'total and deterministic' (their statements: YtofgloiebnppbaaTotals.lean).
  GIVEN WITH THE SEED: the statements are not yours to turn. If you find one false, say at which input.
  Laid BY PROGRAM, IN A SANDBOX (cutbox-rows.mjs): the forced cells as the released guide's own fill.sh prints them over the translation 69db7dbbc8c04610… (all of the seat's roots in one cut). By AI agents, Wed Nov 11 2026. No macro, syntax, notation, axiom, sorry.
-/
import Derived.Test.YtofgloiebnppbaaChecked
import GoSem.Claim
import GoSem.ClaimJoined
import GoSem.ClaimMapViews
import Derived.JoinedTies
import Derived.KernelRfl
namespace Go.Proofs.Ytofgloiebnppbaa
/- THE CELL 'sum', in the pinned program and in every row, IS THE sha256 OF THE DUMP (.gsa) THAT YtofgloiebnppbaaProg.lean LOADS. Nothing in Lean hashes anything: it is a label: what it is worth is what the hold of that sum in a sandbox is worth. -/
noncomputable def Try.pinned : Pinned := { name := "ytofgloiebnppbaa", sum := "69db7dbbc8c046105afa3575384a9ab9fd141cf10a558142874fa7fa6a4aa6d1", checked := Try.checked }
namespace Rows
def none {H : Type} : Left H := { results := [], args := [] }

/-- 'salvorlaw13.StoreRuns': WHATEVER THE INPUT: true; the input reads as it did. -/
def storeRunsSpec : ChangeSpec := { name := "storeRuns", fn := fun _ => fun
  | [] => { results := [.lit (.bool true)], args := [] }
  | _ => none }
def storeRunsRow : OpenClaim := { program := "ytofgloiebnppbaa", sum := "69db7dbbc8c046105afa3575384a9ab9fd141cf10a558142874fa7fa6a4aa6d1", func := "salvor/salvorlaw13.StoreRuns", spec := "storeRuns", inPlace := ["internal/bytealg.abigen_runtime_cmpstring", "slices.overlaps[salvor/api.Name]", "slices.overlaps[salvor/api.Node]", "slices.overlaps[salvor/api.Ext]"], unfollowed := true, recurses := true, apart := false }
def StoreRunsSaid : Prop := storeRunsRow.holds Try.pinned (OpenSpec.ofChange storeRunsSpec)

/-- ITS FALSE NEIGHBOUR: 'it returns false'. Refute it at one input. -/
def storeRunsWrong : ChangeSpec := { name := "storeRuns", fn := fun _ => fun
  | [] => { results := [.lit (.bool false)], args := [] }
  | _ => none }
def StoreRunsWrongFalsely : Prop := storeRunsRow.holds Try.pinned (OpenSpec.ofChange storeRunsWrong)

/-- 'salvorlaw13.StoreNumbers': WHATEVER THE INPUT: true; the input reads as it did. -/
def storeNumbersSpec : ChangeSpec := { name := "storeNumbers", fn := fun _ => fun
  | [d] => { results := [.lit (.bool true)], args := [d] }
  | _ => none }
def storeNumbersRow : OpenClaim := { program := "ytofgloiebnppbaa", sum := "69db7dbbc8c046105afa3575384a9ab9fd141cf10a558142874fa7fa6a4aa6d1", func := "salvor/salvorlaw13.StoreNumbers", spec := "storeNumbers", inPlace := ["internal/bytealg.abigen_runtime_cmpstring", "slices.overlaps[salvor/api.Name]", "slices.overlaps[salvor/api.Node]", "slices.overlaps[salvor/api.Ext]"], unfollowed := true, recurses := true, apart := false }
def StoreNumbersSaid : Prop := storeNumbersRow.holds Try.pinned (OpenSpec.ofChange storeNumbersSpec)

/-- ITS FALSE NEIGHBOUR: 'it returns false'. Refute it at one input. -/
def storeNumbersWrong : ChangeSpec := { name := "storeNumbers", fn := fun _ => fun
  | [d] => { results := [.lit (.bool false)], args := [d] }
  | _ => none }
def StoreNumbersWrongFalsely : Prop := storeNumbersRow.holds Try.pinned (OpenSpec.ofChange storeNumbersWrong)

/-- 'salvorlaw14.CursorRuns': WHATEVER THE INPUT: true; the input reads as it did. -/
def cursorRunsSpec : ChangeSpec := { name := "cursorRuns", fn := fun _ => fun
  | [] => { results := [.lit (.bool true)], args := [] }
  | _ => none }
def cursorRunsRow : OpenClaim := { program := "ytofgloiebnppbaa", sum := "69db7dbbc8c046105afa3575384a9ab9fd141cf10a558142874fa7fa6a4aa6d1", func := "salvor/salvorlaw14.CursorRuns", spec := "cursorRuns", inPlace := ["internal/bytealg.abigen_runtime_cmpstring", "slices.overlaps[salvor/api.Name]", "slices.overlaps[salvor/api.Node]", "slices.overlaps[salvor/api.Ext]"], unfollowed := true, recurses := true, apart := false }
def CursorRunsSaid : Prop := cursorRunsRow.holds Try.pinned (OpenSpec.ofChange cursorRunsSpec)

/-- ITS FALSE NEIGHBOUR: 'it returns false'. Refute it at one input. -/
def cursorRunsWrong : ChangeSpec := { name := "cursorRuns", fn := fun _ => fun
  | [] => { results := [.lit (.bool false)], args := [] }
  | _ => none }
def CursorRunsWrongFalsely : Prop := cursorRunsRow.holds Try.pinned (OpenSpec.ofChange cursorRunsWrong)

/-- 'salvorlaw14.CursorBack': WHATEVER THE INPUT: true; the input reads as it did. -/
def cursorBackSpec : ChangeSpec := { name := "cursorBack", fn := fun _ => fun
  | [d1, d2] => { results := [.lit (.bool true)], args := [d1, d2] }
  | _ => none }
def cursorBackRow : OpenClaim := { program := "ytofgloiebnppbaa", sum := "69db7dbbc8c046105afa3575384a9ab9fd141cf10a558142874fa7fa6a4aa6d1", func := "salvor/salvorlaw14.CursorBack", spec := "cursorBack", inPlace := ["internal/bytealg.abigen_runtime_cmpstring", "slices.overlaps[salvor/api.Name]", "slices.overlaps[salvor/api.Node]", "slices.overlaps[salvor/api.Ext]"], unfollowed := true, recurses := true, apart := false }
def CursorBackSaid : Prop := cursorBackRow.holds Try.pinned (OpenSpec.ofChange cursorBackSpec)

/-- ITS FALSE NEIGHBOUR: 'it returns false'. Refute it at one input. -/
def cursorBackWrong : ChangeSpec := { name := "cursorBack", fn := fun _ => fun
  | [d1, d2] => { results := [.lit (.bool false)], args := [d1, d2] }
  | _ => none }
def CursorBackWrongFalsely : Prop := cursorBackRow.holds Try.pinned (OpenSpec.ofChange cursorBackWrong)

/-- 'salvorlaw14.CursorTwo': WHATEVER THE INPUT: true; the input reads as it did. -/
def cursorTwoSpec : ChangeSpec := { name := "cursorTwo", fn := fun _ => fun
  | [d1, d2, d3] => { results := [.lit (.bool true)], args := [d1, d2, d3] }
  | _ => none }
def cursorTwoRow : OpenClaim := { program := "ytofgloiebnppbaa", sum := "69db7dbbc8c046105afa3575384a9ab9fd141cf10a558142874fa7fa6a4aa6d1", func := "salvor/salvorlaw14.CursorTwo", spec := "cursorTwo", inPlace := ["internal/bytealg.abigen_runtime_cmpstring", "slices.overlaps[salvor/api.Name]", "slices.overlaps[salvor/api.Node]", "slices.overlaps[salvor/api.Ext]"], unfollowed := true, recurses := true, apart := false }
def CursorTwoSaid : Prop := cursorTwoRow.holds Try.pinned (OpenSpec.ofChange cursorTwoSpec)

/-- ITS FALSE NEIGHBOUR: 'it returns false'. Refute it at one input. -/
def cursorTwoWrong : ChangeSpec := { name := "cursorTwo", fn := fun _ => fun
  | [d1, d2, d3] => { results := [.lit (.bool false)], args := [d1, d2, d3] }
  | _ => none }
def CursorTwoWrongFalsely : Prop := cursorTwoRow.holds Try.pinned (OpenSpec.ofChange cursorTwoWrong)

/-- 'salvorlaw13.StoreDeeds': WHATEVER THE INPUT: true; the input reads as it did. -/
def storeDeedsSpec : ChangeSpec := { name := "storeDeeds", fn := fun _ => fun
  | [d1, d2] => { results := [.lit (.bool true)], args := [d1, d2] }
  | _ => none }
def storeDeedsRow : OpenClaim := { program := "ytofgloiebnppbaa", sum := "69db7dbbc8c046105afa3575384a9ab9fd141cf10a558142874fa7fa6a4aa6d1", func := "salvor/salvorlaw13.StoreDeeds", spec := "storeDeeds", inPlace := ["internal/bytealg.abigen_runtime_cmpstring", "slices.overlaps[salvor/api.Name]", "slices.overlaps[salvor/api.Node]", "slices.overlaps[salvor/api.Ext]"], unfollowed := true, recurses := true, apart := false }
def StoreDeedsSaid : Prop := storeDeedsRow.holds Try.pinned (OpenSpec.ofChange storeDeedsSpec)

/-- ITS FALSE NEIGHBOUR: 'it returns false'. Refute it at one input. -/
def storeDeedsWrong : ChangeSpec := { name := "storeDeeds", fn := fun _ => fun
  | [d1, d2] => { results := [.lit (.bool false)], args := [d1, d2] }
  | _ => none }
def StoreDeedsWrongFalsely : Prop := storeDeedsRow.holds Try.pinned (OpenSpec.ofChange storeDeedsWrong)

/- THE SECOND FORM. 'bulk': how many values and letters a reading holds, each counted each time it is reached (what is shared counts as often as it is met; a slice's spare places count too). A statement '..UptoSaid' is the law's where the arguments, and the package variables that the reading takes, are together of bulk at most 1048576: NARROWER than '..Said'. Prove '..Said' where nothing that the law and all that it calls make is longer than what came in: it says more and counts as full. Else prove '..UptoSaid'. A law counts once. -/
mutual
def uptoBulk {H : Type} : DataW H → Nat
  | .lit (.string bytes) => bytes.length + 1
  | .lit _ => 1
  | .nil => 1
  | .ptr d => uptoBulk d + 1
  | .slice elems spare => uptoBulkAll elems + uptoBulkAll spare + 1
  | .agg parts => uptoBulkAll parts + 1
  | .iface _ d => uptoBulk d + 1
  | .map entries => uptoBulkEntries entries + 1
  | .held _ => 1
def uptoBulkAll {H : Type} : List (DataW H) → Nat
  | [] => 0
  | d :: r => uptoBulk d + uptoBulkAll r
def uptoBulkEntries {H : Type} : List (Lit × DataW H) → Nat
  | [] => 0
  | x :: r => uptoBulkEntry x + uptoBulkEntries r
def uptoBulkEntry {H : Type} : Lit × DataW H → Nat
  | (.string bytes, d) => bytes.length + uptoBulk d + 1
  | (_, d) => uptoBulk d + 1
 end
def uptoSmall : (H : Type) → List (DataW H) → Bool := fun _ ds => decide (uptoBulkAll ds ≤ 1048576)
def OpenSpec.upto (s : _root_.Go.ChangeSpec) : _root_.Go.OpenSpec := { _root_.Go.OpenSpec.ofChange s with cond := some uptoSmall }

/-- 'salvorlaw13.StoreRuns', WHERE WHAT IT READS IS OF BULK AT MOST 1048576: true; the input reads as it did. -/
def storeRunsUptoRow : OpenClaim := { program := "ytofgloiebnppbaa", sum := "69db7dbbc8c046105afa3575384a9ab9fd141cf10a558142874fa7fa6a4aa6d1", func := "salvor/salvorlaw13.StoreRuns", spec := "storeRuns", inPlace := ["internal/bytealg.abigen_runtime_cmpstring", "slices.overlaps[salvor/api.Name]", "slices.overlaps[salvor/api.Node]", "slices.overlaps[salvor/api.Ext]"], unfollowed := true, recurses := true, apart := false, narrowed := true }
def StoreRunsUptoSaid : Prop := storeRunsUptoRow.holds Try.pinned (OpenSpec.upto storeRunsSpec)

/-- 'salvorlaw13.StoreNumbers', WHERE WHAT IT READS IS OF BULK AT MOST 1048576: true; the input reads as it did. -/
def storeNumbersUptoRow : OpenClaim := { program := "ytofgloiebnppbaa", sum := "69db7dbbc8c046105afa3575384a9ab9fd141cf10a558142874fa7fa6a4aa6d1", func := "salvor/salvorlaw13.StoreNumbers", spec := "storeNumbers", inPlace := ["internal/bytealg.abigen_runtime_cmpstring", "slices.overlaps[salvor/api.Name]", "slices.overlaps[salvor/api.Node]", "slices.overlaps[salvor/api.Ext]"], unfollowed := true, recurses := true, apart := false, narrowed := true }
def StoreNumbersUptoSaid : Prop := storeNumbersUptoRow.holds Try.pinned (OpenSpec.upto storeNumbersSpec)

/-- 'salvorlaw14.CursorRuns', WHERE WHAT IT READS IS OF BULK AT MOST 1048576: true; the input reads as it did. -/
def cursorRunsUptoRow : OpenClaim := { program := "ytofgloiebnppbaa", sum := "69db7dbbc8c046105afa3575384a9ab9fd141cf10a558142874fa7fa6a4aa6d1", func := "salvor/salvorlaw14.CursorRuns", spec := "cursorRuns", inPlace := ["internal/bytealg.abigen_runtime_cmpstring", "slices.overlaps[salvor/api.Name]", "slices.overlaps[salvor/api.Node]", "slices.overlaps[salvor/api.Ext]"], unfollowed := true, recurses := true, apart := false, narrowed := true }
def CursorRunsUptoSaid : Prop := cursorRunsUptoRow.holds Try.pinned (OpenSpec.upto cursorRunsSpec)

/-- 'salvorlaw14.CursorBack', WHERE WHAT IT READS IS OF BULK AT MOST 1048576: true; the input reads as it did. -/
def cursorBackUptoRow : OpenClaim := { program := "ytofgloiebnppbaa", sum := "69db7dbbc8c046105afa3575384a9ab9fd141cf10a558142874fa7fa6a4aa6d1", func := "salvor/salvorlaw14.CursorBack", spec := "cursorBack", inPlace := ["internal/bytealg.abigen_runtime_cmpstring", "slices.overlaps[salvor/api.Name]", "slices.overlaps[salvor/api.Node]", "slices.overlaps[salvor/api.Ext]"], unfollowed := true, recurses := true, apart := false, narrowed := true }
def CursorBackUptoSaid : Prop := cursorBackUptoRow.holds Try.pinned (OpenSpec.upto cursorBackSpec)

/-- 'salvorlaw14.CursorTwo', WHERE WHAT IT READS IS OF BULK AT MOST 1048576: true; the input reads as it did. -/
def cursorTwoUptoRow : OpenClaim := { program := "ytofgloiebnppbaa", sum := "69db7dbbc8c046105afa3575384a9ab9fd141cf10a558142874fa7fa6a4aa6d1", func := "salvor/salvorlaw14.CursorTwo", spec := "cursorTwo", inPlace := ["internal/bytealg.abigen_runtime_cmpstring", "slices.overlaps[salvor/api.Name]", "slices.overlaps[salvor/api.Node]", "slices.overlaps[salvor/api.Ext]"], unfollowed := true, recurses := true, apart := false, narrowed := true }
def CursorTwoUptoSaid : Prop := cursorTwoUptoRow.holds Try.pinned (OpenSpec.upto cursorTwoSpec)

/-- 'salvorlaw13.StoreDeeds', WHERE WHAT IT READS IS OF BULK AT MOST 1048576: true; the input reads as it did. -/
def storeDeedsUptoRow : OpenClaim := { program := "ytofgloiebnppbaa", sum := "69db7dbbc8c046105afa3575384a9ab9fd141cf10a558142874fa7fa6a4aa6d1", func := "salvor/salvorlaw13.StoreDeeds", spec := "storeDeeds", inPlace := ["internal/bytealg.abigen_runtime_cmpstring", "slices.overlaps[salvor/api.Name]", "slices.overlaps[salvor/api.Node]", "slices.overlaps[salvor/api.Ext]"], unfollowed := true, recurses := true, apart := false, narrowed := true }
def StoreDeedsUptoSaid : Prop := storeDeedsUptoRow.holds Try.pinned (OpenSpec.upto storeDeedsSpec)

end Rows
end Go.Proofs.Ytofgloiebnppbaa
