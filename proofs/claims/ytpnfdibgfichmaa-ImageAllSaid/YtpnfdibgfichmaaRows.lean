/-
  No cell of these rows narrows 'for every input' (looked for: loops, veiled, ifaces, maps, wideKeys, modest, calm, conditions, laid).
  DERIVED. THE GIVEN ROWS OF THIS SEAT. 7 by the template 'for every input the law returns true; each argument reads behind the call as it read before'; 0 by the template 'total and deterministic' (their statements: YtpnfdibgfichmaaTotals.lean).
  GIVEN WITH THE SEED: the statements are not yours to turn. If you find one false, say at which input.
  Laid BY PROGRAM, IN A SANDBOX (cutbox-rows.mjs): the forced cells as the released guide's own fill.sh prints them over the translation 6bcc27db7061fd66… (all of the seat's roots in one cut). By AI agents, Wed Nov 11 2026. No macro, syntax, notation, axiom, sorry.
-/
import Derived.Test.YtpnfdibgfichmaaChecked
import GoSem.Claim
import GoSem.ClaimJoined
import GoSem.ClaimMapViews
import Derived.JoinedTies
import Derived.KernelRfl
namespace Go.Proofs.Ytpnfdibgfichmaa
/- THE CELL 'sum', in the pinned program and in every row, IS THE sha256 OF THE DUMP (.gsa) THAT YtpnfdibgfichmaaProg.lean LOADS. Nothing in Lean hashes anything: it is a label: what it is worth is what the hold of that sum in a sandbox is worth. -/
noncomputable def Try.pinned : Pinned := { name := "ytpnfdibgfichmaa", sum := "6bcc27db7061fd66321e9ff3328a550f614fdf8f0a6256079e011434b664b8ba", checked := Try.checked }
namespace Rows
def none {H : Type} : Left H := { results := [], args := [] }

/-- 'salvorlaw12.ImageRuns': WHATEVER THE INPUT: true; the input reads as it did. -/
def imageRunsSpec : ChangeSpec := { name := "imageRuns", fn := fun _ => fun
  | [] => { results := [.lit (.bool true)], args := [] }
  | _ => none }
def imageRunsRow : OpenClaim := { program := "ytpnfdibgfichmaa", sum := "6bcc27db7061fd66321e9ff3328a550f614fdf8f0a6256079e011434b664b8ba", func := "salvor/salvorlaw12.ImageRuns", spec := "imageRuns", inPlace := ["internal/bytealg.abigen_runtime_cmpstring", "slices.overlaps[salvor/api.Name]", "slices.overlaps[salvor/api.Node]", "slices.overlaps[salvor/api.Ext]"], unfollowed := true, recurses := true, apart := false }
def ImageRunsSaid : Prop := imageRunsRow.holds Try.pinned (OpenSpec.ofChange imageRunsSpec)

/-- ITS FALSE NEIGHBOUR: 'it returns false'. Refute it at one input. -/
def imageRunsWrong : ChangeSpec := { name := "imageRuns", fn := fun _ => fun
  | [] => { results := [.lit (.bool false)], args := [] }
  | _ => none }
def ImageRunsWrongFalsely : Prop := imageRunsRow.holds Try.pinned (OpenSpec.ofChange imageRunsWrong)

/-- 'salvorlaw12.ImageApplies': WHATEVER THE INPUT: true; the input reads as it did. -/
def imageAppliesSpec : ChangeSpec := { name := "imageApplies", fn := fun _ => fun
  | [d1, d2] => { results := [.lit (.bool true)], args := [d1, d2] }
  | _ => none }
def imageAppliesRow : OpenClaim := { program := "ytpnfdibgfichmaa", sum := "6bcc27db7061fd66321e9ff3328a550f614fdf8f0a6256079e011434b664b8ba", func := "salvor/salvorlaw12.ImageApplies", spec := "imageApplies", inPlace := ["internal/bytealg.abigen_runtime_cmpstring", "slices.overlaps[salvor/api.Name]", "slices.overlaps[salvor/api.Node]", "slices.overlaps[salvor/api.Ext]"], unfollowed := true, recurses := true, apart := false }
def ImageAppliesSaid : Prop := imageAppliesRow.holds Try.pinned (OpenSpec.ofChange imageAppliesSpec)

/-- ITS FALSE NEIGHBOUR: 'it returns false'. Refute it at one input. -/
def imageAppliesWrong : ChangeSpec := { name := "imageApplies", fn := fun _ => fun
  | [d1, d2] => { results := [.lit (.bool false)], args := [d1, d2] }
  | _ => none }
def ImageAppliesWrongFalsely : Prop := imageAppliesRow.holds Try.pinned (OpenSpec.ofChange imageAppliesWrong)

/-- 'salvorlaw12.ImageAll': WHATEVER THE INPUT: true; the input reads as it did. -/
def imageAllSpec : ChangeSpec := { name := "imageAll", fn := fun _ => fun
  | [d1, d2] => { results := [.lit (.bool true)], args := [d1, d2] }
  | _ => none }
def imageAllRow : OpenClaim := { program := "ytpnfdibgfichmaa", sum := "6bcc27db7061fd66321e9ff3328a550f614fdf8f0a6256079e011434b664b8ba", func := "salvor/salvorlaw12.ImageAll", spec := "imageAll", inPlace := ["internal/bytealg.abigen_runtime_cmpstring", "slices.overlaps[salvor/api.Name]", "slices.overlaps[salvor/api.Node]", "slices.overlaps[salvor/api.Ext]"], unfollowed := true, recurses := true, apart := false }
def ImageAllSaid : Prop := imageAllRow.holds Try.pinned (OpenSpec.ofChange imageAllSpec)

/-- ITS FALSE NEIGHBOUR: 'it returns false'. Refute it at one input. -/
def imageAllWrong : ChangeSpec := { name := "imageAll", fn := fun _ => fun
  | [d1, d2] => { results := [.lit (.bool false)], args := [d1, d2] }
  | _ => none }
def ImageAllWrongFalsely : Prop := imageAllRow.holds Try.pinned (OpenSpec.ofChange imageAllWrong)

/-- 'salvorlaw12.ImageCount': WHATEVER THE INPUT: true; the input reads as it did. -/
def imageCountSpec : ChangeSpec := { name := "imageCount", fn := fun _ => fun
  | [d] => { results := [.lit (.bool true)], args := [d] }
  | _ => none }
def imageCountRow : OpenClaim := { program := "ytpnfdibgfichmaa", sum := "6bcc27db7061fd66321e9ff3328a550f614fdf8f0a6256079e011434b664b8ba", func := "salvor/salvorlaw12.ImageCount", spec := "imageCount", inPlace := ["internal/bytealg.abigen_runtime_cmpstring", "slices.overlaps[salvor/api.Name]", "slices.overlaps[salvor/api.Node]", "slices.overlaps[salvor/api.Ext]"], unfollowed := true, recurses := true, apart := false }
def ImageCountSaid : Prop := imageCountRow.holds Try.pinned (OpenSpec.ofChange imageCountSpec)

/-- ITS FALSE NEIGHBOUR: 'it returns false'. Refute it at one input. -/
def imageCountWrong : ChangeSpec := { name := "imageCount", fn := fun _ => fun
  | [d] => { results := [.lit (.bool false)], args := [d] }
  | _ => none }
def ImageCountWrongFalsely : Prop := imageCountRow.holds Try.pinned (OpenSpec.ofChange imageCountWrong)

/-- 'salvorlaw12.ImageFrame': WHATEVER THE INPUT: true; the input reads as it did. -/
def imageFrameSpec : ChangeSpec := { name := "imageFrame", fn := fun _ => fun
  | [d1, d2] => { results := [.lit (.bool true)], args := [d1, d2] }
  | _ => none }
def imageFrameRow : OpenClaim := { program := "ytpnfdibgfichmaa", sum := "6bcc27db7061fd66321e9ff3328a550f614fdf8f0a6256079e011434b664b8ba", func := "salvor/salvorlaw12.ImageFrame", spec := "imageFrame", inPlace := ["internal/bytealg.abigen_runtime_cmpstring", "slices.overlaps[salvor/api.Name]", "slices.overlaps[salvor/api.Node]", "slices.overlaps[salvor/api.Ext]"], unfollowed := true, recurses := true, apart := false }
def ImageFrameSaid : Prop := imageFrameRow.holds Try.pinned (OpenSpec.ofChange imageFrameSpec)

/-- ITS FALSE NEIGHBOUR: 'it returns false'. Refute it at one input. -/
def imageFrameWrong : ChangeSpec := { name := "imageFrame", fn := fun _ => fun
  | [d1, d2] => { results := [.lit (.bool false)], args := [d1, d2] }
  | _ => none }
def ImageFrameWrongFalsely : Prop := imageFrameRow.holds Try.pinned (OpenSpec.ofChange imageFrameWrong)

/-- 'salvorlaw12.ImageTells': WHATEVER THE INPUT: true; the input reads as it did. -/
def imageTellsSpec : ChangeSpec := { name := "imageTells", fn := fun _ => fun
  | [d1, d2, d3, d4] => { results := [.lit (.bool true)], args := [d1, d2, d3, d4] }
  | _ => none }
def imageTellsRow : OpenClaim := { program := "ytpnfdibgfichmaa", sum := "6bcc27db7061fd66321e9ff3328a550f614fdf8f0a6256079e011434b664b8ba", func := "salvor/salvorlaw12.ImageTells", spec := "imageTells", inPlace := ["internal/bytealg.abigen_runtime_cmpstring", "slices.overlaps[salvor/api.Name]", "slices.overlaps[salvor/api.Node]", "slices.overlaps[salvor/api.Ext]"], unfollowed := true, recurses := true, apart := false }
def ImageTellsSaid : Prop := imageTellsRow.holds Try.pinned (OpenSpec.ofChange imageTellsSpec)

/-- ITS FALSE NEIGHBOUR: 'it returns false'. Refute it at one input. -/
def imageTellsWrong : ChangeSpec := { name := "imageTells", fn := fun _ => fun
  | [d1, d2, d3, d4] => { results := [.lit (.bool false)], args := [d1, d2, d3, d4] }
  | _ => none }
def ImageTellsWrongFalsely : Prop := imageTellsRow.holds Try.pinned (OpenSpec.ofChange imageTellsWrong)

/-- 'salvorlaw12.ImageNames': WHATEVER THE INPUT: true; the input reads as it did. -/
def imageNamesSpec : ChangeSpec := { name := "imageNames", fn := fun _ => fun
  | [d1, d2, d3] => { results := [.lit (.bool true)], args := [d1, d2, d3] }
  | _ => none }
def imageNamesRow : OpenClaim := { program := "ytpnfdibgfichmaa", sum := "6bcc27db7061fd66321e9ff3328a550f614fdf8f0a6256079e011434b664b8ba", func := "salvor/salvorlaw12.ImageNames", spec := "imageNames", inPlace := ["internal/bytealg.abigen_runtime_cmpstring", "slices.overlaps[salvor/api.Name]", "slices.overlaps[salvor/api.Node]", "slices.overlaps[salvor/api.Ext]"], unfollowed := true, recurses := true, apart := false }
def ImageNamesSaid : Prop := imageNamesRow.holds Try.pinned (OpenSpec.ofChange imageNamesSpec)

/-- ITS FALSE NEIGHBOUR: 'it returns false'. Refute it at one input. -/
def imageNamesWrong : ChangeSpec := { name := "imageNames", fn := fun _ => fun
  | [d1, d2, d3] => { results := [.lit (.bool false)], args := [d1, d2, d3] }
  | _ => none }
def ImageNamesWrongFalsely : Prop := imageNamesRow.holds Try.pinned (OpenSpec.ofChange imageNamesWrong)

/- THE SECOND FORM. 'bulk': how many values and letters a reading holds, each counted each time it is reached (what is shared counts as often as it is met; a slice's spare places count too). A statement '..UptoSaid' is the law's where the arguments, and the package variables that the reading takes, are together of bulk at most 1048576: NARROWER than '..Said'. Prove '..Said' where nothing that the law and all that it calls make is longer than what came in: it says more and counts as full. Else prove '..UptoSaid'. A law counts once. -/
mutual
def uptoBulk {H : Type} : DataW H → Nat
  | .lit (.string bytes) => bytes.length + 1
  | .lit _ => 1
  | .nil => 1
  | .ptr d => uptoBulk d + 1
  | .slice elems spare => uptoBulkAll elems + uptoBulkAll spare + 1
  | .agg parts => uptoBulkAll parts + 1
  | .iface _ d => uptoBulk d + 1
  | .map entries => uptoBulkEntries entries + 1
  | .held _ => 1
def uptoBulkAll {H : Type} : List (DataW H) → Nat
  | [] => 0
  | d :: r => uptoBulk d + uptoBulkAll r
def uptoBulkEntries {H : Type} : List (Lit × DataW H) → Nat
  | [] => 0
  | x :: r => uptoBulkEntry x + uptoBulkEntries r
def uptoBulkEntry {H : Type} : Lit × DataW H → Nat
  | (.string bytes, d) => bytes.length + uptoBulk d + 1
  | (_, d) => uptoBulk d + 1
 end
def uptoSmall : (H : Type) → List (DataW H) → Bool := fun _ ds => decide (uptoBulkAll ds ≤ 1048576)
def OpenSpec.upto (s : _root_.Go.ChangeSpec) : _root_.Go.OpenSpec := { _root_.Go.OpenSpec.ofChange s with cond := some uptoSmall }

/-- 'salvorlaw12.ImageRuns', WHERE WHAT IT READS IS OF BULK AT MOST 1048576: true; the input reads as it did. -/
def imageRunsUptoRow : OpenClaim := { program := "ytpnfdibgfichmaa", sum := "6bcc27db7061fd66321e9ff3328a550f614fdf8f0a6256079e011434b664b8ba", func := "salvor/salvorlaw12.ImageRuns", spec := "imageRuns", inPlace := ["internal/bytealg.abigen_runtime_cmpstring", "slices.overlaps[salvor/api.Name]", "slices.overlaps[salvor/api.Node]", "slices.overlaps[salvor/api.Ext]"], unfollowed := true, recurses := true, apart := false, narrowed := true }
def ImageRunsUptoSaid : Prop := imageRunsUptoRow.holds Try.pinned (OpenSpec.upto imageRunsSpec)

/-- 'salvorlaw12.ImageApplies', WHERE WHAT IT READS IS OF BULK AT MOST 1048576: true; the input reads as it did. -/
def imageAppliesUptoRow : OpenClaim := { program := "ytpnfdibgfichmaa", sum := "6bcc27db7061fd66321e9ff3328a550f614fdf8f0a6256079e011434b664b8ba", func := "salvor/salvorlaw12.ImageApplies", spec := "imageApplies", inPlace := ["internal/bytealg.abigen_runtime_cmpstring", "slices.overlaps[salvor/api.Name]", "slices.overlaps[salvor/api.Node]", "slices.overlaps[salvor/api.Ext]"], unfollowed := true, recurses := true, apart := false, narrowed := true }
def ImageAppliesUptoSaid : Prop := imageAppliesUptoRow.holds Try.pinned (OpenSpec.upto imageAppliesSpec)

/-- 'salvorlaw12.ImageAll', WHERE WHAT IT READS IS OF BULK AT MOST 1048576: true; the input reads as it did. -/
def imageAllUptoRow : OpenClaim := { program := "ytpnfdibgfichmaa", sum := "6bcc27db7061fd66321e9ff3328a550f614fdf8f0a6256079e011434b664b8ba", func := "salvor/salvorlaw12.ImageAll", spec := "imageAll", inPlace := ["internal/bytealg.abigen_runtime_cmpstring", "slices.overlaps[salvor/api.Name]", "slices.overlaps[salvor/api.Node]", "slices.overlaps[salvor/api.Ext]"], unfollowed := true, recurses := true, apart := false, narrowed := true }
def ImageAllUptoSaid : Prop := imageAllUptoRow.holds Try.pinned (OpenSpec.upto imageAllSpec)

/-- 'salvorlaw12.ImageCount', WHERE WHAT IT READS IS OF BULK AT MOST 1048576: true; the input reads as it did. -/
def imageCountUptoRow : OpenClaim := { program := "ytpnfdibgfichmaa", sum := "6bcc27db7061fd66321e9ff3328a550f614fdf8f0a6256079e011434b664b8ba", func := "salvor/salvorlaw12.ImageCount", spec := "imageCount", inPlace := ["internal/bytealg.abigen_runtime_cmpstring", "slices.overlaps[salvor/api.Name]", "slices.overlaps[salvor/api.Node]", "slices.overlaps[salvor/api.Ext]"], unfollowed := true, recurses := true, apart := false, narrowed := true }
def ImageCountUptoSaid : Prop := imageCountUptoRow.holds Try.pinned (OpenSpec.upto imageCountSpec)

/-- 'salvorlaw12.ImageFrame', WHERE WHAT IT READS IS OF BULK AT MOST 1048576: true; the input reads as it did. -/
def imageFrameUptoRow : OpenClaim := { program := "ytpnfdibgfichmaa", sum := "6bcc27db7061fd66321e9ff3328a550f614fdf8f0a6256079e011434b664b8ba", func := "salvor/salvorlaw12.ImageFrame", spec := "imageFrame", inPlace := ["internal/bytealg.abigen_runtime_cmpstring", "slices.overlaps[salvor/api.Name]", "slices.overlaps[salvor/api.Node]", "slices.overlaps[salvor/api.Ext]"], unfollowed := true, recurses := true, apart := false, narrowed := true }
def ImageFrameUptoSaid : Prop := imageFrameUptoRow.holds Try.pinned (OpenSpec.upto imageFrameSpec)

/-- 'salvorlaw12.ImageTells', WHERE WHAT IT READS IS OF BULK AT MOST 1048576: true; the input reads as it did. -/
def imageTellsUptoRow : OpenClaim := { program := "ytpnfdibgfichmaa", sum := "6bcc27db7061fd66321e9ff3328a550f614fdf8f0a6256079e011434b664b8ba", func := "salvor/salvorlaw12.ImageTells", spec := "imageTells", inPlace := ["internal/bytealg.abigen_runtime_cmpstring", "slices.overlaps[salvor/api.Name]", "slices.overlaps[salvor/api.Node]", "slices.overlaps[salvor/api.Ext]"], unfollowed := true, recurses := true, apart := false, narrowed := true }
def ImageTellsUptoSaid : Prop := imageTellsUptoRow.holds Try.pinned (OpenSpec.upto imageTellsSpec)

/-- 'salvorlaw12.ImageNames', WHERE WHAT IT READS IS OF BULK AT MOST 1048576: true; the input reads as it did. -/
def imageNamesUptoRow : OpenClaim := { program := "ytpnfdibgfichmaa", sum := "6bcc27db7061fd66321e9ff3328a550f614fdf8f0a6256079e011434b664b8ba", func := "salvor/salvorlaw12.ImageNames", spec := "imageNames", inPlace := ["internal/bytealg.abigen_runtime_cmpstring", "slices.overlaps[salvor/api.Name]", "slices.overlaps[salvor/api.Node]", "slices.overlaps[salvor/api.Ext]"], unfollowed := true, recurses := true, apart := false, narrowed := true }
def ImageNamesUptoSaid : Prop := imageNamesUptoRow.holds Try.pinned (OpenSpec.upto imageNamesSpec)

end Rows
end Go.Proofs.Ytpnfdibgfichmaa
