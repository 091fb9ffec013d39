/-
  NARROWER THAN 'FOR EVERY INPUT', by the rows' own cells (each row's printed sentence says how): BtreeFull: laid · CatalogEmpties: laid · BtreeSwaps: laid · CatalogSaves: laid · CatalogLoads: laid · CatalogLeaves: laid · CatalogPlays: laid.
  DERIVED. THE GIVEN ROWS OF THIS SEAT. 7 by the template 'for every input the law returns true; each argument reads behind the call as it read before'; 0 by the template 'total and deterministic' (their statements: YtemenmmekddjaaaGreatDoorTotals.lean).
  GIVEN WITH THE SEED: the statements are not yours to turn. If you find one false, say at which input.
  Laid BY PROGRAM, IN A SANDBOX (cutbox-rows.mjs): the forced cells as the released guide's own fill.sh prints them over the translation c2c5ded76747acdc… (all of the seat's roots in one cut). By AI agents, Wed Nov 11 2026. No macro, syntax, notation, axiom, sorry.
-/
import Derived.Test.YtemenmmekddjaaaGreatDoorChecked
import GoSem.Claim
import GoSem.ClaimJoined
import GoSem.ClaimMapViews
import Derived.JoinedTies
import Derived.KernelRfl
namespace Go.Proofs.YtemenmmekddjaaaGreatDoor
/- THE CELL 'sum', in the pinned program and in every row, IS THE sha256 OF THE DUMP (.gsa) THAT YtemenmmekddjaaaGreatDoorProg.lean LOADS. Nothing in Lean hashes anything: it is a label: what it is worth is what the hold of that sum in a sandbox is worth. -/
noncomputable def Tryz.pinned : Pinned := { name := "ytemenmmekddjaaagreatdoor", sum := "c2c5ded76747acdc9307fde94918821e7bd30c4e312c430a31657de5c9610b8b", checked := Tryz.checked }
namespace Rows
def none {H : Type} : Left H := { results := [], args := [] }

/- WHAT THE LISTED PACKAGE-LEVEL VARIABLES READ AS WHEN THE CALL BEGINS. Each datum BY PROGRAM (the guide's laid-datum.mjs) off the statement by which the dump's own 'gosem.cut.vars' lays the variable. In a bare row this is a premise. The card (YtemenmmekddjaaaGreatDoorCards.lean) ties it to the program's text. -/
def laid_math_bits_deBruijn64tab {H : Type} : DataW H := .agg [.lit (.int .u8 0), .lit (.int .u8 1), .lit (.int .u8 56), .lit (.int .u8 2), .lit (.int .u8 57), .lit (.int .u8 49), .lit (.int .u8 28), .lit (.int .u8 3), .lit (.int .u8 61), .lit (.int .u8 58), .lit (.int .u8 42), .lit (.int .u8 50), .lit (.int .u8 38), .lit (.int .u8 29), .lit (.int .u8 17), .lit (.int .u8 4), .lit (.int .u8 62), .lit (.int .u8 47), .lit (.int .u8 59), .lit (.int .u8 36), .lit (.int .u8 45), .lit (.int .u8 43), .lit (.int .u8 51), .lit (.int .u8 22), .lit (.int .u8 53), .lit (.int .u8 39), .lit (.int .u8 33), .lit (.int .u8 30), .lit (.int .u8 24), .lit (.int .u8 18), .lit (.int .u8 12), .lit (.int .u8 5), .lit (.int .u8 63), .lit (.int .u8 55), .lit (.int .u8 48), .lit (.int .u8 27), .lit (.int .u8 60), .lit (.int .u8 41), .lit (.int .u8 37), .lit (.int .u8 16), .lit (.int .u8 46), .lit (.int .u8 35), .lit (.int .u8 44), .lit (.int .u8 21), .lit (.int .u8 52), .lit (.int .u8 32), .lit (.int .u8 23), .lit (.int .u8 11), .lit (.int .u8 54), .lit (.int .u8 26), .lit (.int .u8 40), .lit (.int .u8 15), .lit (.int .u8 34), .lit (.int .u8 20), .lit (.int .u8 31), .lit (.int .u8 10), .lit (.int .u8 25), .lit (.int .u8 14), .lit (.int .u8 19), .lit (.int .u8 9), .lit (.int .u8 13), .lit (.int .u8 8), .lit (.int .u8 7), .lit (.int .u8 6)]

/-- 'portagelaw12.BtreeFull': WHATEVER THE INPUT: true; the input reads as it did. -/
def btreeFullSpec : ChangeSpec := { name := "btreeFull", fn := fun _ => fun
  | [d1, d2] => { results := [.lit (.bool true)], args := [d1, d2] }
  | _ => none }
def btreeFullRow : OpenClaim := { program := "ytemenmmekddjaaagreatdoor", sum := "c2c5ded76747acdc9307fde94918821e7bd30c4e312c430a31657de5c9610b8b", func := "portage/portagelaw12.BtreeFull", spec := "btreeFull", inPlace := ["slices.overlaps[portage/node.Pair]", "internal/reflectlite.TypeOf"], unfollowed := true, recurses := true, named := ["math/bits.deBruijn64tab"], apart := false, laid := [("math/bits.deBruijn64tab", laid_math_bits_deBruijn64tab)] }
def BtreeFullSaid : Prop := btreeFullRow.holds Tryz.pinned (OpenSpec.ofChange btreeFullSpec)

/-- ITS FALSE NEIGHBOUR: 'it returns false'. Refute it at one input. -/
def btreeFullWrong : ChangeSpec := { name := "btreeFull", fn := fun _ => fun
  | [d1, d2] => { results := [.lit (.bool false)], args := [d1, d2] }
  | _ => none }
def BtreeFullWrongFalsely : Prop := btreeFullRow.holds Tryz.pinned (OpenSpec.ofChange btreeFullWrong)

/-- 'portagelaw13.CatalogEmpties': WHATEVER THE INPUT: true; the input reads as it did. -/
def catalogEmptiesSpec : ChangeSpec := { name := "catalogEmpties", fn := fun _ => fun
  | [d1, d2] => { results := [.lit (.bool true)], args := [d1, d2] }
  | _ => none }
def catalogEmptiesRow : OpenClaim := { program := "ytemenmmekddjaaagreatdoor", sum := "c2c5ded76747acdc9307fde94918821e7bd30c4e312c430a31657de5c9610b8b", func := "portage/portagelaw13.CatalogEmpties", spec := "catalogEmpties", inPlace := ["slices.overlaps[portage/node.Pair]", "internal/reflectlite.TypeOf"], unfollowed := true, recurses := true, named := ["math/bits.deBruijn64tab"], apart := false, laid := [("math/bits.deBruijn64tab", laid_math_bits_deBruijn64tab)] }
def CatalogEmptiesSaid : Prop := catalogEmptiesRow.holds Tryz.pinned (OpenSpec.ofChange catalogEmptiesSpec)

/-- ITS FALSE NEIGHBOUR: 'it returns false'. Refute it at one input. -/
def catalogEmptiesWrong : ChangeSpec := { name := "catalogEmpties", fn := fun _ => fun
  | [d1, d2] => { results := [.lit (.bool false)], args := [d1, d2] }
  | _ => none }
def CatalogEmptiesWrongFalsely : Prop := catalogEmptiesRow.holds Tryz.pinned (OpenSpec.ofChange catalogEmptiesWrong)

/-- 'portagelaw12.BtreeSwaps': WHATEVER THE INPUT: true; the input reads as it did. -/
def btreeSwapsSpec : ChangeSpec := { name := "btreeSwaps", fn := fun _ => fun
  | [d] => { results := [.lit (.bool true)], args := [d] }
  | _ => none }
def btreeSwapsRow : OpenClaim := { program := "ytemenmmekddjaaagreatdoor", sum := "c2c5ded76747acdc9307fde94918821e7bd30c4e312c430a31657de5c9610b8b", func := "portage/portagelaw12.BtreeSwaps", spec := "btreeSwaps", inPlace := ["slices.overlaps[portage/node.Pair]", "internal/reflectlite.TypeOf"], unfollowed := true, recurses := true, named := ["math/bits.deBruijn64tab"], apart := false, laid := [("math/bits.deBruijn64tab", laid_math_bits_deBruijn64tab)] }
def BtreeSwapsSaid : Prop := btreeSwapsRow.holds Tryz.pinned (OpenSpec.ofChange btreeSwapsSpec)

/-- ITS FALSE NEIGHBOUR: 'it returns false'. Refute it at one input. -/
def btreeSwapsWrong : ChangeSpec := { name := "btreeSwaps", fn := fun _ => fun
  | [d] => { results := [.lit (.bool false)], args := [d] }
  | _ => none }
def BtreeSwapsWrongFalsely : Prop := btreeSwapsRow.holds Tryz.pinned (OpenSpec.ofChange btreeSwapsWrong)

/-- 'portagelaw13.CatalogSaves': WHATEVER THE INPUT: true; the input reads as it did. -/
def catalogSavesSpec : ChangeSpec := { name := "catalogSaves", fn := fun _ => fun
  | [d] => { results := [.lit (.bool true)], args := [d] }
  | _ => none }
def catalogSavesRow : OpenClaim := { program := "ytemenmmekddjaaagreatdoor", sum := "c2c5ded76747acdc9307fde94918821e7bd30c4e312c430a31657de5c9610b8b", func := "portage/portagelaw13.CatalogSaves", spec := "catalogSaves", inPlace := ["slices.overlaps[portage/node.Pair]", "maps.clone"], unfollowed := true, recurses := true, named := ["math/bits.deBruijn64tab"], apart := false, laid := [("math/bits.deBruijn64tab", laid_math_bits_deBruijn64tab)] }
def CatalogSavesSaid : Prop := catalogSavesRow.holds Tryz.pinned (OpenSpec.ofChange catalogSavesSpec)

/-- ITS FALSE NEIGHBOUR: 'it returns false'. Refute it at one input. -/
def catalogSavesWrong : ChangeSpec := { name := "catalogSaves", fn := fun _ => fun
  | [d] => { results := [.lit (.bool false)], args := [d] }
  | _ => none }
def CatalogSavesWrongFalsely : Prop := catalogSavesRow.holds Tryz.pinned (OpenSpec.ofChange catalogSavesWrong)

/-- 'portagelaw13.CatalogLoads': WHATEVER THE INPUT: true; the input reads as it did. -/
def catalogLoadsSpec : ChangeSpec := { name := "catalogLoads", fn := fun _ => fun
  | [d] => { results := [.lit (.bool true)], args := [d] }
  | _ => none }
def catalogLoadsRow : OpenClaim := { program := "ytemenmmekddjaaagreatdoor", sum := "c2c5ded76747acdc9307fde94918821e7bd30c4e312c430a31657de5c9610b8b", func := "portage/portagelaw13.CatalogLoads", spec := "catalogLoads", inPlace := ["slices.overlaps[portage/node.Pair]", "maps.clone", "internal/reflectlite.TypeOf"], unfollowed := true, recurses := true, named := ["math/bits.deBruijn64tab"], apart := false, laid := [("math/bits.deBruijn64tab", laid_math_bits_deBruijn64tab)] }
def CatalogLoadsSaid : Prop := catalogLoadsRow.holds Tryz.pinned (OpenSpec.ofChange catalogLoadsSpec)

/-- ITS FALSE NEIGHBOUR: 'it returns false'. Refute it at one input. -/
def catalogLoadsWrong : ChangeSpec := { name := "catalogLoads", fn := fun _ => fun
  | [d] => { results := [.lit (.bool false)], args := [d] }
  | _ => none }
def CatalogLoadsWrongFalsely : Prop := catalogLoadsRow.holds Tryz.pinned (OpenSpec.ofChange catalogLoadsWrong)

/-- 'portagelaw13.CatalogLeaves': WHATEVER THE INPUT: true; the input reads as it did. -/
def catalogLeavesSpec : ChangeSpec := { name := "catalogLeaves", fn := fun _ => fun
  | [d1, d2] => { results := [.lit (.bool true)], args := [d1, d2] }
  | _ => none }
def catalogLeavesRow : OpenClaim := { program := "ytemenmmekddjaaagreatdoor", sum := "c2c5ded76747acdc9307fde94918821e7bd30c4e312c430a31657de5c9610b8b", func := "portage/portagelaw13.CatalogLeaves", spec := "catalogLeaves", inPlace := ["slices.overlaps[portage/node.Pair]", "maps.clone"], unfollowed := true, recurses := true, named := ["math/bits.deBruijn64tab"], apart := false, laid := [("math/bits.deBruijn64tab", laid_math_bits_deBruijn64tab)] }
def CatalogLeavesSaid : Prop := catalogLeavesRow.holds Tryz.pinned (OpenSpec.ofChange catalogLeavesSpec)

/-- ITS FALSE NEIGHBOUR: 'it returns false'. Refute it at one input. -/
def catalogLeavesWrong : ChangeSpec := { name := "catalogLeaves", fn := fun _ => fun
  | [d1, d2] => { results := [.lit (.bool false)], args := [d1, d2] }
  | _ => none }
def CatalogLeavesWrongFalsely : Prop := catalogLeavesRow.holds Tryz.pinned (OpenSpec.ofChange catalogLeavesWrong)

/-- 'portagelaw13.CatalogPlays': WHATEVER THE INPUT: true; the input reads as it did. -/
def catalogPlaysSpec : ChangeSpec := { name := "catalogPlays", fn := fun _ => fun
  | [d] => { results := [.lit (.bool true)], args := [d] }
  | _ => none }
def catalogPlaysRow : OpenClaim := { program := "ytemenmmekddjaaagreatdoor", sum := "c2c5ded76747acdc9307fde94918821e7bd30c4e312c430a31657de5c9610b8b", func := "portage/portagelaw13.CatalogPlays", spec := "catalogPlays", inPlace := ["slices.overlaps[portage/node.Pair]", "internal/reflectlite.TypeOf", "maps.clone"], unfollowed := true, recurses := true, named := ["math/bits.deBruijn64tab"], apart := false, laid := [("math/bits.deBruijn64tab", laid_math_bits_deBruijn64tab)] }
def CatalogPlaysSaid : Prop := catalogPlaysRow.holds Tryz.pinned (OpenSpec.ofChange catalogPlaysSpec)

/-- ITS FALSE NEIGHBOUR: 'it returns false'. Refute it at one input. -/
def catalogPlaysWrong : ChangeSpec := { name := "catalogPlays", fn := fun _ => fun
  | [d] => { results := [.lit (.bool false)], args := [d] }
  | _ => none }
def CatalogPlaysWrongFalsely : Prop := catalogPlaysRow.holds Tryz.pinned (OpenSpec.ofChange catalogPlaysWrong)

/- THE SECOND FORM. 'bulk': how many values and letters a reading holds, each counted each time it is reached (what is shared counts as often as it is met; a slice's spare places count too). A statement '..UptoSaid' is the law's where the arguments, and the package variables that the reading takes, are together of bulk at most 1048576: NARROWER than '..Said'. Prove '..Said' where nothing that the law and all that it calls make is longer than what came in: it says more and counts as full. Else prove '..UptoSaid'. A law counts once. -/
mutual
def uptoBulk {H : Type} : DataW H → Nat
  | .lit (.string bytes) => bytes.length + 1
  | .lit _ => 1
  | .nil => 1
  | .ptr d => uptoBulk d + 1
  | .slice elems spare => uptoBulkAll elems + uptoBulkAll spare + 1
  | .agg parts => uptoBulkAll parts + 1
  | .iface _ d => uptoBulk d + 1
  | .map entries => uptoBulkEntries entries + 1
  | .held _ => 1
def uptoBulkAll {H : Type} : List (DataW H) → Nat
  | [] => 0
  | d :: r => uptoBulk d + uptoBulkAll r
def uptoBulkEntries {H : Type} : List (Lit × DataW H) → Nat
  | [] => 0
  | x :: r => uptoBulkEntry x + uptoBulkEntries r
def uptoBulkEntry {H : Type} : Lit × DataW H → Nat
  | (.string bytes, d) => bytes.length + uptoBulk d + 1
  | (_, d) => uptoBulk d + 1
 end
def uptoSmall : (H : Type) → List (DataW H) → Bool := fun _ ds => decide (uptoBulkAll ds ≤ 1048576)
def OpenSpec.upto (s : _root_.Go.ChangeSpec) : _root_.Go.OpenSpec := { _root_.Go.OpenSpec.ofChange s with cond := some uptoSmall }

/-- 'portagelaw12.BtreeFull', WHERE WHAT IT READS IS OF BULK AT MOST 1048576: true; the input reads as it did. -/
def btreeFullUptoRow : OpenClaim := { program := "ytemenmmekddjaaagreatdoor", sum := "c2c5ded76747acdc9307fde94918821e7bd30c4e312c430a31657de5c9610b8b", func := "portage/portagelaw12.BtreeFull", spec := "btreeFull", inPlace := ["slices.overlaps[portage/node.Pair]", "internal/reflectlite.TypeOf"], unfollowed := true, recurses := true, named := ["math/bits.deBruijn64tab"], apart := false, laid := [("math/bits.deBruijn64tab", laid_math_bits_deBruijn64tab)], narrowed := true }
def BtreeFullUptoSaid : Prop := btreeFullUptoRow.holds Tryz.pinned (OpenSpec.upto btreeFullSpec)

/-- 'portagelaw13.CatalogEmpties', WHERE WHAT IT READS IS OF BULK AT MOST 1048576: true; the input reads as it did. -/
def catalogEmptiesUptoRow : OpenClaim := { program := "ytemenmmekddjaaagreatdoor", sum := "c2c5ded76747acdc9307fde94918821e7bd30c4e312c430a31657de5c9610b8b", func := "portage/portagelaw13.CatalogEmpties", spec := "catalogEmpties", inPlace := ["slices.overlaps[portage/node.Pair]", "internal/reflectlite.TypeOf"], unfollowed := true, recurses := true, named := ["math/bits.deBruijn64tab"], apart := false, laid := [("math/bits.deBruijn64tab", laid_math_bits_deBruijn64tab)], narrowed := true }
def CatalogEmptiesUptoSaid : Prop := catalogEmptiesUptoRow.holds Tryz.pinned (OpenSpec.upto catalogEmptiesSpec)

/-- 'portagelaw12.BtreeSwaps', WHERE WHAT IT READS IS OF BULK AT MOST 1048576: true; the input reads as it did. -/
def btreeSwapsUptoRow : OpenClaim := { program := "ytemenmmekddjaaagreatdoor", sum := "c2c5ded76747acdc9307fde94918821e7bd30c4e312c430a31657de5c9610b8b", func := "portage/portagelaw12.BtreeSwaps", spec := "btreeSwaps", inPlace := ["slices.overlaps[portage/node.Pair]", "internal/reflectlite.TypeOf"], unfollowed := true, recurses := true, named := ["math/bits.deBruijn64tab"], apart := false, laid := [("math/bits.deBruijn64tab", laid_math_bits_deBruijn64tab)], narrowed := true }
def BtreeSwapsUptoSaid : Prop := btreeSwapsUptoRow.holds Tryz.pinned (OpenSpec.upto btreeSwapsSpec)

/-- 'portagelaw13.CatalogSaves', WHERE WHAT IT READS IS OF BULK AT MOST 1048576: true; the input reads as it did. -/
def catalogSavesUptoRow : OpenClaim := { program := "ytemenmmekddjaaagreatdoor", sum := "c2c5ded76747acdc9307fde94918821e7bd30c4e312c430a31657de5c9610b8b", func := "portage/portagelaw13.CatalogSaves", spec := "catalogSaves", inPlace := ["slices.overlaps[portage/node.Pair]", "maps.clone"], unfollowed := true, recurses := true, named := ["math/bits.deBruijn64tab"], apart := false, laid := [("math/bits.deBruijn64tab", laid_math_bits_deBruijn64tab)], narrowed := true }
def CatalogSavesUptoSaid : Prop := catalogSavesUptoRow.holds Tryz.pinned (OpenSpec.upto catalogSavesSpec)

/-- 'portagelaw13.CatalogLoads', WHERE WHAT IT READS IS OF BULK AT MOST 1048576: true; the input reads as it did. -/
def catalogLoadsUptoRow : OpenClaim := { program := "ytemenmmekddjaaagreatdoor", sum := "c2c5ded76747acdc9307fde94918821e7bd30c4e312c430a31657de5c9610b8b", func := "portage/portagelaw13.CatalogLoads", spec := "catalogLoads", inPlace := ["slices.overlaps[portage/node.Pair]", "maps.clone", "internal/reflectlite.TypeOf"], unfollowed := true, recurses := true, named := ["math/bits.deBruijn64tab"], apart := false, laid := [("math/bits.deBruijn64tab", laid_math_bits_deBruijn64tab)], narrowed := true }
def CatalogLoadsUptoSaid : Prop := catalogLoadsUptoRow.holds Tryz.pinned (OpenSpec.upto catalogLoadsSpec)

/-- 'portagelaw13.CatalogLeaves', WHERE WHAT IT READS IS OF BULK AT MOST 1048576: true; the input reads as it did. -/
def catalogLeavesUptoRow : OpenClaim := { program := "ytemenmmekddjaaagreatdoor", sum := "c2c5ded76747acdc9307fde94918821e7bd30c4e312c430a31657de5c9610b8b", func := "portage/portagelaw13.CatalogLeaves", spec := "catalogLeaves", inPlace := ["slices.overlaps[portage/node.Pair]", "maps.clone"], unfollowed := true, recurses := true, named := ["math/bits.deBruijn64tab"], apart := false, laid := [("math/bits.deBruijn64tab", laid_math_bits_deBruijn64tab)], narrowed := true }
def CatalogLeavesUptoSaid : Prop := catalogLeavesUptoRow.holds Tryz.pinned (OpenSpec.upto catalogLeavesSpec)

/-- 'portagelaw13.CatalogPlays', WHERE WHAT IT READS IS OF BULK AT MOST 1048576: true; the input reads as it did. -/
def catalogPlaysUptoRow : OpenClaim := { program := "ytemenmmekddjaaagreatdoor", sum := "c2c5ded76747acdc9307fde94918821e7bd30c4e312c430a31657de5c9610b8b", func := "portage/portagelaw13.CatalogPlays", spec := "catalogPlays", inPlace := ["slices.overlaps[portage/node.Pair]", "internal/reflectlite.TypeOf", "maps.clone"], unfollowed := true, recurses := true, named := ["math/bits.deBruijn64tab"], apart := false, laid := [("math/bits.deBruijn64tab", laid_math_bits_deBruijn64tab)], narrowed := true }
def CatalogPlaysUptoSaid : Prop := catalogPlaysUptoRow.holds Tryz.pinned (OpenSpec.upto catalogPlaysSpec)

end Rows
end Go.Proofs.YtemenmmekddjaaaGreatDoor
