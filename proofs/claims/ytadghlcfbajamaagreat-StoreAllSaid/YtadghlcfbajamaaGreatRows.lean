/-
  No cell of these rows narrows 'for every input' (looked for: loops, veiled, ifaces, maps, wideKeys, modest, calm, conditions, laid).
  DERIVED. THE GIVEN ROWS OF THIS SEAT. 7 by the template 'for every input the law returns true; each argument reads behind the call as it read before'; 0 by the template 'total and deterministic' (their statements: YtadghlcfbajamaaGreatTotals.lean).
  GIVEN WITH THE SEED: the statements are not yours to turn. If you find one false, say at which input.
  Laid BY PROGRAM, IN A SANDBOX (cutbox-rows.mjs): the forced cells as the released guide's own fill.sh prints them over the translation 7e180a3ce91bc621… (all of the seat's roots in one cut). By AI agents, Wed Nov 11 2026. No macro, syntax, notation, axiom, sorry.
-/
import Derived.Test.YtadghlcfbajamaaGreatChecked
import GoSem.Claim
import GoSem.ClaimJoined
import GoSem.ClaimMapViews
import Derived.JoinedTies
import Derived.KernelRfl
namespace Go.Proofs.YtadghlcfbajamaaGreat
/- THE CELL 'sum', in the pinned program and in every row, IS THE sha256 OF THE DUMP (.gsa) THAT YtadghlcfbajamaaGreatProg.lean LOADS. Nothing in Lean hashes anything: it is a label: what it is worth is what the hold of that sum in a sandbox is worth. -/
noncomputable def Tryz.pinned : Pinned := { name := "ytadghlcfbajamaagreat", sum := "7e180a3ce91bc62121e09543be93afc8e136d11576827c41bdf4db3572d566e4", checked := Tryz.checked }
namespace Rows
def none {H : Type} : Left H := { results := [], args := [] }

/-- 'salvorlaw14.CursorOpens': WHATEVER THE INPUT: true; the input reads as it did. -/
def cursorOpensSpec : ChangeSpec := { name := "cursorOpens", fn := fun _ => fun
  | [d1, d2, d3] => { results := [.lit (.bool true)], args := [d1, d2, d3] }
  | _ => none }
def cursorOpensRow : OpenClaim := { program := "ytadghlcfbajamaagreat", sum := "7e180a3ce91bc62121e09543be93afc8e136d11576827c41bdf4db3572d566e4", func := "salvor/salvorlaw14.CursorOpens", spec := "cursorOpens", inPlace := ["internal/bytealg.abigen_runtime_cmpstring", "slices.overlaps[salvor/api.Name]", "slices.overlaps[salvor/api.Node]", "slices.overlaps[salvor/api.Ext]"], unfollowed := true, recurses := true, apart := false }
def CursorOpensSaid : Prop := cursorOpensRow.holds Tryz.pinned (OpenSpec.ofChange cursorOpensSpec)

/-- ITS FALSE NEIGHBOUR: 'it returns false'. Refute it at one input. -/
def cursorOpensWrong : ChangeSpec := { name := "cursorOpens", fn := fun _ => fun
  | [d1, d2, d3] => { results := [.lit (.bool false)], args := [d1, d2, d3] }
  | _ => none }
def CursorOpensWrongFalsely : Prop := cursorOpensRow.holds Tryz.pinned (OpenSpec.ofChange cursorOpensWrong)

/-- 'salvorlaw14.CursorPlays': WHATEVER THE INPUT: true; the input reads as it did. -/
def cursorPlaysSpec : ChangeSpec := { name := "cursorPlays", fn := fun _ => fun
  | [d1, d2, d3] => { results := [.lit (.bool true)], args := [d1, d2, d3] }
  | _ => none }
def cursorPlaysRow : OpenClaim := { program := "ytadghlcfbajamaagreat", sum := "7e180a3ce91bc62121e09543be93afc8e136d11576827c41bdf4db3572d566e4", func := "salvor/salvorlaw14.CursorPlays", spec := "cursorPlays", inPlace := ["internal/bytealg.abigen_runtime_cmpstring", "slices.overlaps[salvor/api.Name]", "slices.overlaps[salvor/api.Node]", "slices.overlaps[salvor/api.Ext]"], unfollowed := true, recurses := true, apart := false }
def CursorPlaysSaid : Prop := cursorPlaysRow.holds Tryz.pinned (OpenSpec.ofChange cursorPlaysSpec)

/-- ITS FALSE NEIGHBOUR: 'it returns false'. Refute it at one input. -/
def cursorPlaysWrong : ChangeSpec := { name := "cursorPlays", fn := fun _ => fun
  | [d1, d2, d3] => { results := [.lit (.bool false)], args := [d1, d2, d3] }
  | _ => none }
def CursorPlaysWrongFalsely : Prop := cursorPlaysRow.holds Tryz.pinned (OpenSpec.ofChange cursorPlaysWrong)

/-- 'salvorlaw13.StoreRoom': WHATEVER THE INPUT: true; the input reads as it did. -/
def storeRoomSpec : ChangeSpec := { name := "storeRoom", fn := fun _ => fun
  | [d1, d2, d3, d4] => { results := [.lit (.bool true)], args := [d1, d2, d3, d4] }
  | _ => none }
def storeRoomRow : OpenClaim := { program := "ytadghlcfbajamaagreat", sum := "7e180a3ce91bc62121e09543be93afc8e136d11576827c41bdf4db3572d566e4", func := "salvor/salvorlaw13.StoreRoom", spec := "storeRoom", inPlace := ["internal/bytealg.abigen_runtime_cmpstring", "slices.overlaps[salvor/api.Name]", "slices.overlaps[salvor/api.Node]", "slices.overlaps[salvor/api.Ext]"], unfollowed := true, recurses := true, apart := false }
def StoreRoomSaid : Prop := storeRoomRow.holds Tryz.pinned (OpenSpec.ofChange storeRoomSpec)

/-- ITS FALSE NEIGHBOUR: 'it returns false'. Refute it at one input. -/
def storeRoomWrong : ChangeSpec := { name := "storeRoom", fn := fun _ => fun
  | [d1, d2, d3, d4] => { results := [.lit (.bool false)], args := [d1, d2, d3, d4] }
  | _ => none }
def StoreRoomWrongFalsely : Prop := storeRoomRow.holds Tryz.pinned (OpenSpec.ofChange storeRoomWrong)

/-- 'salvorlaw13.StoreSynced': WHATEVER THE INPUT: true; the input reads as it did. -/
def storeSyncedSpec : ChangeSpec := { name := "storeSynced", fn := fun _ => fun
  | [d1, d2, d3, d4] => { results := [.lit (.bool true)], args := [d1, d2, d3, d4] }
  | _ => none }
def storeSyncedRow : OpenClaim := { program := "ytadghlcfbajamaagreat", sum := "7e180a3ce91bc62121e09543be93afc8e136d11576827c41bdf4db3572d566e4", func := "salvor/salvorlaw13.StoreSynced", spec := "storeSynced", inPlace := ["internal/bytealg.abigen_runtime_cmpstring", "slices.overlaps[salvor/api.Name]", "slices.overlaps[salvor/api.Node]", "slices.overlaps[salvor/api.Ext]"], unfollowed := true, recurses := true, apart := false }
def StoreSyncedSaid : Prop := storeSyncedRow.holds Tryz.pinned (OpenSpec.ofChange storeSyncedSpec)

/-- ITS FALSE NEIGHBOUR: 'it returns false'. Refute it at one input. -/
def storeSyncedWrong : ChangeSpec := { name := "storeSynced", fn := fun _ => fun
  | [d1, d2, d3, d4] => { results := [.lit (.bool false)], args := [d1, d2, d3, d4] }
  | _ => none }
def StoreSyncedWrongFalsely : Prop := storeSyncedRow.holds Tryz.pinned (OpenSpec.ofChange storeSyncedWrong)

/-- 'salvorlaw13.StoreAll': WHATEVER THE INPUT: true; the input reads as it did. -/
def storeAllSpec : ChangeSpec := { name := "storeAll", fn := fun _ => fun
  | [d1, d2] => { results := [.lit (.bool true)], args := [d1, d2] }
  | _ => none }
def storeAllRow : OpenClaim := { program := "ytadghlcfbajamaagreat", sum := "7e180a3ce91bc62121e09543be93afc8e136d11576827c41bdf4db3572d566e4", func := "salvor/salvorlaw13.StoreAll", spec := "storeAll", inPlace := ["internal/bytealg.abigen_runtime_cmpstring", "slices.overlaps[salvor/api.Name]", "slices.overlaps[salvor/api.Node]", "slices.overlaps[salvor/api.Ext]"], unfollowed := true, recurses := true, apart := false }
def StoreAllSaid : Prop := storeAllRow.holds Tryz.pinned (OpenSpec.ofChange storeAllSpec)

/-- ITS FALSE NEIGHBOUR: 'it returns false'. Refute it at one input. -/
def storeAllWrong : ChangeSpec := { name := "storeAll", fn := fun _ => fun
  | [d1, d2] => { results := [.lit (.bool false)], args := [d1, d2] }
  | _ => none }
def StoreAllWrongFalsely : Prop := storeAllRow.holds Tryz.pinned (OpenSpec.ofChange storeAllWrong)

/-- 'salvorlaw13.StoreOff': WHATEVER THE INPUT: true; the input reads as it did. -/
def storeOffSpec : ChangeSpec := { name := "storeOff", fn := fun _ => fun
  | [d1, d2, d3] => { results := [.lit (.bool true)], args := [d1, d2, d3] }
  | _ => none }
def storeOffRow : OpenClaim := { program := "ytadghlcfbajamaagreat", sum := "7e180a3ce91bc62121e09543be93afc8e136d11576827c41bdf4db3572d566e4", func := "salvor/salvorlaw13.StoreOff", spec := "storeOff", inPlace := ["internal/bytealg.abigen_runtime_cmpstring", "slices.overlaps[salvor/api.Name]", "slices.overlaps[salvor/api.Node]", "slices.overlaps[salvor/api.Ext]"], unfollowed := true, recurses := true, apart := false }
def StoreOffSaid : Prop := storeOffRow.holds Tryz.pinned (OpenSpec.ofChange storeOffSpec)

/-- ITS FALSE NEIGHBOUR: 'it returns false'. Refute it at one input. -/
def storeOffWrong : ChangeSpec := { name := "storeOff", fn := fun _ => fun
  | [d1, d2, d3] => { results := [.lit (.bool false)], args := [d1, d2, d3] }
  | _ => none }
def StoreOffWrongFalsely : Prop := storeOffRow.holds Tryz.pinned (OpenSpec.ofChange storeOffWrong)

/-- 'salvorlaw15.LoopFiles': WHATEVER THE INPUT: true; the input reads as it did. -/
def loopFilesSpec : ChangeSpec := { name := "loopFiles", fn := fun _ => fun
  | [d1, d2, d3, d4, d5] => { results := [.lit (.bool true)], args := [d1, d2, d3, d4, d5] }
  | _ => none }
def loopFilesRow : OpenClaim := { program := "ytadghlcfbajamaagreat", sum := "7e180a3ce91bc62121e09543be93afc8e136d11576827c41bdf4db3572d566e4", func := "salvor/salvorlaw15.LoopFiles", spec := "loopFiles", inPlace := ["internal/bytealg.abigen_runtime_cmpstring", "slices.overlaps[salvor/api.Name]", "slices.overlaps[salvor/api.Node]", "slices.overlaps[salvor/api.Ext]"], unfollowed := true, recurses := true, apart := false }
def LoopFilesSaid : Prop := loopFilesRow.holds Tryz.pinned (OpenSpec.ofChange loopFilesSpec)

/-- ITS FALSE NEIGHBOUR: 'it returns false'. Refute it at one input. -/
def loopFilesWrong : ChangeSpec := { name := "loopFiles", fn := fun _ => fun
  | [d1, d2, d3, d4, d5] => { results := [.lit (.bool false)], args := [d1, d2, d3, d4, d5] }
  | _ => none }
def LoopFilesWrongFalsely : Prop := loopFilesRow.holds Tryz.pinned (OpenSpec.ofChange loopFilesWrong)

/- THE SECOND FORM. 'bulk': how many values and letters a reading holds, each counted each time it is reached (what is shared counts as often as it is met; a slice's spare places count too). A statement '..UptoSaid' is the law's where the arguments, and the package variables that the reading takes, are together of bulk at most 1048576: NARROWER than '..Said'. Prove '..Said' where nothing that the law and all that it calls make is longer than what came in: it says more and counts as full. Else prove '..UptoSaid'. A law counts once. -/
mutual
def uptoBulk {H : Type} : DataW H → Nat
  | .lit (.string bytes) => bytes.length + 1
  | .lit _ => 1
  | .nil => 1
  | .ptr d => uptoBulk d + 1
  | .slice elems spare => uptoBulkAll elems + uptoBulkAll spare + 1
  | .agg parts => uptoBulkAll parts + 1
  | .iface _ d => uptoBulk d + 1
  | .map entries => uptoBulkEntries entries + 1
  | .held _ => 1
def uptoBulkAll {H : Type} : List (DataW H) → Nat
  | [] => 0
  | d :: r => uptoBulk d + uptoBulkAll r
def uptoBulkEntries {H : Type} : List (Lit × DataW H) → Nat
  | [] => 0
  | x :: r => uptoBulkEntry x + uptoBulkEntries r
def uptoBulkEntry {H : Type} : Lit × DataW H → Nat
  | (.string bytes, d) => bytes.length + uptoBulk d + 1
  | (_, d) => uptoBulk d + 1
 end
def uptoSmall : (H : Type) → List (DataW H) → Bool := fun _ ds => decide (uptoBulkAll ds ≤ 1048576)
def OpenSpec.upto (s : _root_.Go.ChangeSpec) : _root_.Go.OpenSpec := { _root_.Go.OpenSpec.ofChange s with cond := some uptoSmall }

/-- 'salvorlaw14.CursorOpens', WHERE WHAT IT READS IS OF BULK AT MOST 1048576: true; the input reads as it did. -/
def cursorOpensUptoRow : OpenClaim := { program := "ytadghlcfbajamaagreat", sum := "7e180a3ce91bc62121e09543be93afc8e136d11576827c41bdf4db3572d566e4", func := "salvor/salvorlaw14.CursorOpens", spec := "cursorOpens", inPlace := ["internal/bytealg.abigen_runtime_cmpstring", "slices.overlaps[salvor/api.Name]", "slices.overlaps[salvor/api.Node]", "slices.overlaps[salvor/api.Ext]"], unfollowed := true, recurses := true, apart := false, narrowed := true }
def CursorOpensUptoSaid : Prop := cursorOpensUptoRow.holds Tryz.pinned (OpenSpec.upto cursorOpensSpec)

/-- 'salvorlaw14.CursorPlays', WHERE WHAT IT READS IS OF BULK AT MOST 1048576: true; the input reads as it did. -/
def cursorPlaysUptoRow : OpenClaim := { program := "ytadghlcfbajamaagreat", sum := "7e180a3ce91bc62121e09543be93afc8e136d11576827c41bdf4db3572d566e4", func := "salvor/salvorlaw14.CursorPlays", spec := "cursorPlays", inPlace := ["internal/bytealg.abigen_runtime_cmpstring", "slices.overlaps[salvor/api.Name]", "slices.overlaps[salvor/api.Node]", "slices.overlaps[salvor/api.Ext]"], unfollowed := true, recurses := true, apart := false, narrowed := true }
def CursorPlaysUptoSaid : Prop := cursorPlaysUptoRow.holds Tryz.pinned (OpenSpec.upto cursorPlaysSpec)

/-- 'salvorlaw13.StoreRoom', WHERE WHAT IT READS IS OF BULK AT MOST 1048576: true; the input reads as it did. -/
def storeRoomUptoRow : OpenClaim := { program := "ytadghlcfbajamaagreat", sum := "7e180a3ce91bc62121e09543be93afc8e136d11576827c41bdf4db3572d566e4", func := "salvor/salvorlaw13.StoreRoom", spec := "storeRoom", inPlace := ["internal/bytealg.abigen_runtime_cmpstring", "slices.overlaps[salvor/api.Name]", "slices.overlaps[salvor/api.Node]", "slices.overlaps[salvor/api.Ext]"], unfollowed := true, recurses := true, apart := false, narrowed := true }
def StoreRoomUptoSaid : Prop := storeRoomUptoRow.holds Tryz.pinned (OpenSpec.upto storeRoomSpec)

/-- 'salvorlaw13.StoreSynced', WHERE WHAT IT READS IS OF BULK AT MOST 1048576: true; the input reads as it did. -/
def storeSyncedUptoRow : OpenClaim := { program := "ytadghlcfbajamaagreat", sum := "7e180a3ce91bc62121e09543be93afc8e136d11576827c41bdf4db3572d566e4", func := "salvor/salvorlaw13.StoreSynced", spec := "storeSynced", inPlace := ["internal/bytealg.abigen_runtime_cmpstring", "slices.overlaps[salvor/api.Name]", "slices.overlaps[salvor/api.Node]", "slices.overlaps[salvor/api.Ext]"], unfollowed := true, recurses := true, apart := false, narrowed := true }
def StoreSyncedUptoSaid : Prop := storeSyncedUptoRow.holds Tryz.pinned (OpenSpec.upto storeSyncedSpec)

/-- 'salvorlaw13.StoreAll', WHERE WHAT IT READS IS OF BULK AT MOST 1048576: true; the input reads as it did. -/
def storeAllUptoRow : OpenClaim := { program := "ytadghlcfbajamaagreat", sum := "7e180a3ce91bc62121e09543be93afc8e136d11576827c41bdf4db3572d566e4", func := "salvor/salvorlaw13.StoreAll", spec := "storeAll", inPlace := ["internal/bytealg.abigen_runtime_cmpstring", "slices.overlaps[salvor/api.Name]", "slices.overlaps[salvor/api.Node]", "slices.overlaps[salvor/api.Ext]"], unfollowed := true, recurses := true, apart := false, narrowed := true }
def StoreAllUptoSaid : Prop := storeAllUptoRow.holds Tryz.pinned (OpenSpec.upto storeAllSpec)

/-- 'salvorlaw13.StoreOff', WHERE WHAT IT READS IS OF BULK AT MOST 1048576: true; the input reads as it did. -/
def storeOffUptoRow : OpenClaim := { program := "ytadghlcfbajamaagreat", sum := "7e180a3ce91bc62121e09543be93afc8e136d11576827c41bdf4db3572d566e4", func := "salvor/salvorlaw13.StoreOff", spec := "storeOff", inPlace := ["internal/bytealg.abigen_runtime_cmpstring", "slices.overlaps[salvor/api.Name]", "slices.overlaps[salvor/api.Node]", "slices.overlaps[salvor/api.Ext]"], unfollowed := true, recurses := true, apart := false, narrowed := true }
def StoreOffUptoSaid : Prop := storeOffUptoRow.holds Tryz.pinned (OpenSpec.upto storeOffSpec)

/-- 'salvorlaw15.LoopFiles', WHERE WHAT IT READS IS OF BULK AT MOST 1048576: true; the input reads as it did. -/
def loopFilesUptoRow : OpenClaim := { program := "ytadghlcfbajamaagreat", sum := "7e180a3ce91bc62121e09543be93afc8e136d11576827c41bdf4db3572d566e4", func := "salvor/salvorlaw15.LoopFiles", spec := "loopFiles", inPlace := ["internal/bytealg.abigen_runtime_cmpstring", "slices.overlaps[salvor/api.Name]", "slices.overlaps[salvor/api.Node]", "slices.overlaps[salvor/api.Ext]"], unfollowed := true, recurses := true, apart := false, narrowed := true }
def LoopFilesUptoSaid : Prop := loopFilesUptoRow.holds Tryz.pinned (OpenSpec.upto loopFilesSpec)

end Rows
end Go.Proofs.YtadghlcfbajamaaGreat
