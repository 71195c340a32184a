/-
  NARROWER THAN 'FOR EVERY INPUT', by the rows' own cells (each row's printed sentence says how): BlockLess: laid · BlockCounts: laid · BlockFinds: laid · BoundWeights: laid · BoundFinds: laid · BoundRights: laid · BoundTrue: laid.
  DERIVED. THE GIVEN ROWS OF THIS SEAT. 7 by the template 'for every input the law returns true; each argument reads behind the call as it read before'; 0 by the template 'total and deterministic' (their statements: YtoimffkejoeadaaGreatDoorTotals.lean).
  GIVEN WITH THE SEED: the statements are not yours to turn. If you find one false, say at which input.
  Laid BY PROGRAM, IN A SANDBOX (cutbox-rows.mjs): the forced cells as the released guide's own fill.sh prints them over the translation 216fa5f5e989bd52… (all of the seat's roots in one cut). By AI agents, Wed Nov 11 2026. No macro, syntax, notation, axiom, sorry.
-/
import Derived.Test.YtoimffkejoeadaaGreatDoorChecked
import GoSem.Claim
import GoSem.ClaimJoined
import GoSem.ClaimMapViews
import Derived.JoinedTies
import Derived.KernelRfl
namespace Go.Proofs.YtoimffkejoeadaaGreatDoor
/- THE CELL 'sum', in the pinned program and in every row, IS THE sha256 OF THE DUMP (.gsa) THAT YtoimffkejoeadaaGreatDoorProg.lean LOADS. Nothing in Lean hashes anything: it is a label: what it is worth is what the hold of that sum in a sandbox is worth. -/
noncomputable def Tryz.pinned : Pinned := { name := "ytoimffkejoeadaagreatdoor", sum := "216fa5f5e989bd529dbdff8d7fe00ab7605ecd470359eef2dbef78d4f6ac463d", checked := Tryz.checked }
namespace Rows
def none {H : Type} : Left H := { results := [], args := [] }

/- WHAT THE LISTED PACKAGE-LEVEL VARIABLES READ AS WHEN THE CALL BEGINS. Each datum BY PROGRAM (the guide's laid-datum.mjs) off the statement by which the dump's own 'gosem.cut.vars' lays the variable. In a bare row this is a premise. The card (YtoimffkejoeadaaGreatDoorCards.lean) ties it to the program's text. -/
def laid_math_bits_deBruijn64tab {H : Type} : DataW H := .agg [.lit (.int .u8 0), .lit (.int .u8 1), .lit (.int .u8 56), .lit (.int .u8 2), .lit (.int .u8 57), .lit (.int .u8 49), .lit (.int .u8 28), .lit (.int .u8 3), .lit (.int .u8 61), .lit (.int .u8 58), .lit (.int .u8 42), .lit (.int .u8 50), .lit (.int .u8 38), .lit (.int .u8 29), .lit (.int .u8 17), .lit (.int .u8 4), .lit (.int .u8 62), .lit (.int .u8 47), .lit (.int .u8 59), .lit (.int .u8 36), .lit (.int .u8 45), .lit (.int .u8 43), .lit (.int .u8 51), .lit (.int .u8 22), .lit (.int .u8 53), .lit (.int .u8 39), .lit (.int .u8 33), .lit (.int .u8 30), .lit (.int .u8 24), .lit (.int .u8 18), .lit (.int .u8 12), .lit (.int .u8 5), .lit (.int .u8 63), .lit (.int .u8 55), .lit (.int .u8 48), .lit (.int .u8 27), .lit (.int .u8 60), .lit (.int .u8 41), .lit (.int .u8 37), .lit (.int .u8 16), .lit (.int .u8 46), .lit (.int .u8 35), .lit (.int .u8 44), .lit (.int .u8 21), .lit (.int .u8 52), .lit (.int .u8 32), .lit (.int .u8 23), .lit (.int .u8 11), .lit (.int .u8 54), .lit (.int .u8 26), .lit (.int .u8 40), .lit (.int .u8 15), .lit (.int .u8 34), .lit (.int .u8 20), .lit (.int .u8 31), .lit (.int .u8 10), .lit (.int .u8 25), .lit (.int .u8 14), .lit (.int .u8 19), .lit (.int .u8 9), .lit (.int .u8 13), .lit (.int .u8 8), .lit (.int .u8 7), .lit (.int .u8 6)]

/-- 'wharfagelaw15.BlockLess': WHATEVER THE INPUT: true; the input reads as it did. -/
def blockLessSpec : ChangeSpec := { name := "blockLess", fn := fun _ => fun
  | [d1, d2] => { results := [.lit (.bool true)], args := [d1, d2] }
  | _ => none }
def blockLessRow : OpenClaim := { program := "ytoimffkejoeadaagreatdoor", sum := "216fa5f5e989bd529dbdff8d7fe00ab7605ecd470359eef2dbef78d4f6ac463d", func := "wharfage/wharfagelaw15.BlockLess", spec := "blockLess", unfollowed := true, recurses := true, named := ["math/bits.deBruijn64tab"], apart := false, laid := [("math/bits.deBruijn64tab", laid_math_bits_deBruijn64tab)] }
def BlockLessSaid : Prop := blockLessRow.holds Tryz.pinned (OpenSpec.ofChange blockLessSpec)

/-- ITS FALSE NEIGHBOUR: 'it returns false'. Refute it at one input. -/
def blockLessWrong : ChangeSpec := { name := "blockLess", fn := fun _ => fun
  | [d1, d2] => { results := [.lit (.bool false)], args := [d1, d2] }
  | _ => none }
def BlockLessWrongFalsely : Prop := blockLessRow.holds Tryz.pinned (OpenSpec.ofChange blockLessWrong)

/-- 'wharfagelaw15.BlockCounts': WHATEVER THE INPUT: true; the input reads as it did. -/
def blockCountsSpec : ChangeSpec := { name := "blockCounts", fn := fun _ => fun
  | [d] => { results := [.lit (.bool true)], args := [d] }
  | _ => none }
def blockCountsRow : OpenClaim := { program := "ytoimffkejoeadaagreatdoor", sum := "216fa5f5e989bd529dbdff8d7fe00ab7605ecd470359eef2dbef78d4f6ac463d", func := "wharfage/wharfagelaw15.BlockCounts", spec := "blockCounts", unfollowed := true, recurses := true, named := ["math/bits.deBruijn64tab"], apart := false, laid := [("math/bits.deBruijn64tab", laid_math_bits_deBruijn64tab)] }
def BlockCountsSaid : Prop := blockCountsRow.holds Tryz.pinned (OpenSpec.ofChange blockCountsSpec)

/-- ITS FALSE NEIGHBOUR: 'it returns false'. Refute it at one input. -/
def blockCountsWrong : ChangeSpec := { name := "blockCounts", fn := fun _ => fun
  | [d] => { results := [.lit (.bool false)], args := [d] }
  | _ => none }
def BlockCountsWrongFalsely : Prop := blockCountsRow.holds Tryz.pinned (OpenSpec.ofChange blockCountsWrong)

/-- 'wharfagelaw15.BlockFinds': WHATEVER THE INPUT: true; the input reads as it did. -/
def blockFindsSpec : ChangeSpec := { name := "blockFinds", fn := fun _ => fun
  | [d] => { results := [.lit (.bool true)], args := [d] }
  | _ => none }
def blockFindsRow : OpenClaim := { program := "ytoimffkejoeadaagreatdoor", sum := "216fa5f5e989bd529dbdff8d7fe00ab7605ecd470359eef2dbef78d4f6ac463d", func := "wharfage/wharfagelaw15.BlockFinds", spec := "blockFinds", unfollowed := true, recurses := true, named := ["math/bits.deBruijn64tab"], apart := false, laid := [("math/bits.deBruijn64tab", laid_math_bits_deBruijn64tab)] }
def BlockFindsSaid : Prop := blockFindsRow.holds Tryz.pinned (OpenSpec.ofChange blockFindsSpec)

/-- ITS FALSE NEIGHBOUR: 'it returns false'. Refute it at one input. -/
def blockFindsWrong : ChangeSpec := { name := "blockFinds", fn := fun _ => fun
  | [d] => { results := [.lit (.bool false)], args := [d] }
  | _ => none }
def BlockFindsWrongFalsely : Prop := blockFindsRow.holds Tryz.pinned (OpenSpec.ofChange blockFindsWrong)

/-- 'wharfagelaw16.BoundWeights': WHATEVER THE INPUT: true; the input reads as it did. -/
def boundWeightsSpec : ChangeSpec := { name := "boundWeights", fn := fun _ => fun
  | [d1, d2, d3, d4] => { results := [.lit (.bool true)], args := [d1, d2, d3, d4] }
  | _ => none }
def boundWeightsRow : OpenClaim := { program := "ytoimffkejoeadaagreatdoor", sum := "216fa5f5e989bd529dbdff8d7fe00ab7605ecd470359eef2dbef78d4f6ac463d", func := "wharfage/wharfagelaw16.BoundWeights", spec := "boundWeights", unfollowed := true, recurses := true, named := ["math/bits.deBruijn64tab"], apart := false, laid := [("math/bits.deBruijn64tab", laid_math_bits_deBruijn64tab)] }
def BoundWeightsSaid : Prop := boundWeightsRow.holds Tryz.pinned (OpenSpec.ofChange boundWeightsSpec)

/-- ITS FALSE NEIGHBOUR: 'it returns false'. Refute it at one input. -/
def boundWeightsWrong : ChangeSpec := { name := "boundWeights", fn := fun _ => fun
  | [d1, d2, d3, d4] => { results := [.lit (.bool false)], args := [d1, d2, d3, d4] }
  | _ => none }
def BoundWeightsWrongFalsely : Prop := boundWeightsRow.holds Tryz.pinned (OpenSpec.ofChange boundWeightsWrong)

/-- 'wharfagelaw16.BoundFinds': WHATEVER THE INPUT: true; the input reads as it did. -/
def boundFindsSpec : ChangeSpec := { name := "boundFinds", fn := fun _ => fun
  | [d] => { results := [.lit (.bool true)], args := [d] }
  | _ => none }
def boundFindsRow : OpenClaim := { program := "ytoimffkejoeadaagreatdoor", sum := "216fa5f5e989bd529dbdff8d7fe00ab7605ecd470359eef2dbef78d4f6ac463d", func := "wharfage/wharfagelaw16.BoundFinds", spec := "boundFinds", unfollowed := true, recurses := true, named := ["math/bits.deBruijn64tab"], apart := false, laid := [("math/bits.deBruijn64tab", laid_math_bits_deBruijn64tab)] }
def BoundFindsSaid : Prop := boundFindsRow.holds Tryz.pinned (OpenSpec.ofChange boundFindsSpec)

/-- ITS FALSE NEIGHBOUR: 'it returns false'. Refute it at one input. -/
def boundFindsWrong : ChangeSpec := { name := "boundFinds", fn := fun _ => fun
  | [d] => { results := [.lit (.bool false)], args := [d] }
  | _ => none }
def BoundFindsWrongFalsely : Prop := boundFindsRow.holds Tryz.pinned (OpenSpec.ofChange boundFindsWrong)

/-- 'wharfagelaw16.BoundRights': WHATEVER THE INPUT: true; the input reads as it did. -/
def boundRightsSpec : ChangeSpec := { name := "boundRights", fn := fun _ => fun
  | [d1, d2, d3, d4, d5] => { results := [.lit (.bool true)], args := [d1, d2, d3, d4, d5] }
  | _ => none }
def boundRightsRow : OpenClaim := { program := "ytoimffkejoeadaagreatdoor", sum := "216fa5f5e989bd529dbdff8d7fe00ab7605ecd470359eef2dbef78d4f6ac463d", func := "wharfage/wharfagelaw16.BoundRights", spec := "boundRights", unfollowed := true, recurses := true, named := ["math/bits.deBruijn64tab"], apart := false, laid := [("math/bits.deBruijn64tab", laid_math_bits_deBruijn64tab)] }
def BoundRightsSaid : Prop := boundRightsRow.holds Tryz.pinned (OpenSpec.ofChange boundRightsSpec)

/-- ITS FALSE NEIGHBOUR: 'it returns false'. Refute it at one input. -/
def boundRightsWrong : ChangeSpec := { name := "boundRights", fn := fun _ => fun
  | [d1, d2, d3, d4, d5] => { results := [.lit (.bool false)], args := [d1, d2, d3, d4, d5] }
  | _ => none }
def BoundRightsWrongFalsely : Prop := boundRightsRow.holds Tryz.pinned (OpenSpec.ofChange boundRightsWrong)

/-- 'wharfagelaw16.BoundTrue': WHATEVER THE INPUT: true; the input reads as it did. -/
def boundTrueSpec : ChangeSpec := { name := "boundTrue", fn := fun _ => fun
  | [d1, d2, d3, d4, d5] => { results := [.lit (.bool true)], args := [d1, d2, d3, d4, d5] }
  | _ => none }
def boundTrueRow : OpenClaim := { program := "ytoimffkejoeadaagreatdoor", sum := "216fa5f5e989bd529dbdff8d7fe00ab7605ecd470359eef2dbef78d4f6ac463d", func := "wharfage/wharfagelaw16.BoundTrue", spec := "boundTrue", unfollowed := true, recurses := true, named := ["math/bits.deBruijn64tab"], apart := false, laid := [("math/bits.deBruijn64tab", laid_math_bits_deBruijn64tab)] }
def BoundTrueSaid : Prop := boundTrueRow.holds Tryz.pinned (OpenSpec.ofChange boundTrueSpec)

/-- ITS FALSE NEIGHBOUR: 'it returns false'. Refute it at one input. -/
def boundTrueWrong : ChangeSpec := { name := "boundTrue", fn := fun _ => fun
  | [d1, d2, d3, d4, d5] => { results := [.lit (.bool false)], args := [d1, d2, d3, d4, d5] }
  | _ => none }
def BoundTrueWrongFalsely : Prop := boundTrueRow.holds Tryz.pinned (OpenSpec.ofChange boundTrueWrong)

/- THE SECOND FORM. 'bulk': how many values and letters a reading holds, each counted each time it is reached (what is shared counts as often as it is met; a slice's spare places count too). A statement '..UptoSaid' is the law's where the arguments, and the package variables that the reading takes, are together of bulk at most 1048576: NARROWER than '..Said'. Prove '..Said' where nothing that the law and all that it calls make is longer than what came in: it says more and counts as full. Else prove '..UptoSaid'. A law counts once. -/
mutual
def uptoBulk {H : Type} : DataW H → Nat
  | .lit (.string bytes) => bytes.length + 1
  | .lit _ => 1
  | .nil => 1
  | .ptr d => uptoBulk d + 1
  | .slice elems spare => uptoBulkAll elems + uptoBulkAll spare + 1
  | .agg parts => uptoBulkAll parts + 1
  | .iface _ d => uptoBulk d + 1
  | .map entries => uptoBulkEntries entries + 1
  | .held _ => 1
def uptoBulkAll {H : Type} : List (DataW H) → Nat
  | [] => 0
  | d :: r => uptoBulk d + uptoBulkAll r
def uptoBulkEntries {H : Type} : List (Lit × DataW H) → Nat
  | [] => 0
  | x :: r => uptoBulkEntry x + uptoBulkEntries r
def uptoBulkEntry {H : Type} : Lit × DataW H → Nat
  | (.string bytes, d) => bytes.length + uptoBulk d + 1
  | (_, d) => uptoBulk d + 1
 end
def uptoSmall : (H : Type) → List (DataW H) → Bool := fun _ ds => decide (uptoBulkAll ds ≤ 1048576)
def OpenSpec.upto (s : _root_.Go.ChangeSpec) : _root_.Go.OpenSpec := { _root_.Go.OpenSpec.ofChange s with cond := some uptoSmall }

/-- 'wharfagelaw15.BlockLess', WHERE WHAT IT READS IS OF BULK AT MOST 1048576: true; the input reads as it did. -/
def blockLessUptoRow : OpenClaim := { program := "ytoimffkejoeadaagreatdoor", sum := "216fa5f5e989bd529dbdff8d7fe00ab7605ecd470359eef2dbef78d4f6ac463d", func := "wharfage/wharfagelaw15.BlockLess", spec := "blockLess", unfollowed := true, recurses := true, named := ["math/bits.deBruijn64tab"], apart := false, laid := [("math/bits.deBruijn64tab", laid_math_bits_deBruijn64tab)], narrowed := true }
def BlockLessUptoSaid : Prop := blockLessUptoRow.holds Tryz.pinned (OpenSpec.upto blockLessSpec)

/-- 'wharfagelaw15.BlockCounts', WHERE WHAT IT READS IS OF BULK AT MOST 1048576: true; the input reads as it did. -/
def blockCountsUptoRow : OpenClaim := { program := "ytoimffkejoeadaagreatdoor", sum := "216fa5f5e989bd529dbdff8d7fe00ab7605ecd470359eef2dbef78d4f6ac463d", func := "wharfage/wharfagelaw15.BlockCounts", spec := "blockCounts", unfollowed := true, recurses := true, named := ["math/bits.deBruijn64tab"], apart := false, laid := [("math/bits.deBruijn64tab", laid_math_bits_deBruijn64tab)], narrowed := true }
def BlockCountsUptoSaid : Prop := blockCountsUptoRow.holds Tryz.pinned (OpenSpec.upto blockCountsSpec)

/-- 'wharfagelaw15.BlockFinds', WHERE WHAT IT READS IS OF BULK AT MOST 1048576: true; the input reads as it did. -/
def blockFindsUptoRow : OpenClaim := { program := "ytoimffkejoeadaagreatdoor", sum := "216fa5f5e989bd529dbdff8d7fe00ab7605ecd470359eef2dbef78d4f6ac463d", func := "wharfage/wharfagelaw15.BlockFinds", spec := "blockFinds", unfollowed := true, recurses := true, named := ["math/bits.deBruijn64tab"], apart := false, laid := [("math/bits.deBruijn64tab", laid_math_bits_deBruijn64tab)], narrowed := true }
def BlockFindsUptoSaid : Prop := blockFindsUptoRow.holds Tryz.pinned (OpenSpec.upto blockFindsSpec)

/-- 'wharfagelaw16.BoundWeights', WHERE WHAT IT READS IS OF BULK AT MOST 1048576: true; the input reads as it did. -/
def boundWeightsUptoRow : OpenClaim := { program := "ytoimffkejoeadaagreatdoor", sum := "216fa5f5e989bd529dbdff8d7fe00ab7605ecd470359eef2dbef78d4f6ac463d", func := "wharfage/wharfagelaw16.BoundWeights", spec := "boundWeights", unfollowed := true, recurses := true, named := ["math/bits.deBruijn64tab"], apart := false, laid := [("math/bits.deBruijn64tab", laid_math_bits_deBruijn64tab)], narrowed := true }
def BoundWeightsUptoSaid : Prop := boundWeightsUptoRow.holds Tryz.pinned (OpenSpec.upto boundWeightsSpec)

/-- 'wharfagelaw16.BoundFinds', WHERE WHAT IT READS IS OF BULK AT MOST 1048576: true; the input reads as it did. -/
def boundFindsUptoRow : OpenClaim := { program := "ytoimffkejoeadaagreatdoor", sum := "216fa5f5e989bd529dbdff8d7fe00ab7605ecd470359eef2dbef78d4f6ac463d", func := "wharfage/wharfagelaw16.BoundFinds", spec := "boundFinds", unfollowed := true, recurses := true, named := ["math/bits.deBruijn64tab"], apart := false, laid := [("math/bits.deBruijn64tab", laid_math_bits_deBruijn64tab)], narrowed := true }
def BoundFindsUptoSaid : Prop := boundFindsUptoRow.holds Tryz.pinned (OpenSpec.upto boundFindsSpec)

/-- 'wharfagelaw16.BoundRights', WHERE WHAT IT READS IS OF BULK AT MOST 1048576: true; the input reads as it did. -/
def boundRightsUptoRow : OpenClaim := { program := "ytoimffkejoeadaagreatdoor", sum := "216fa5f5e989bd529dbdff8d7fe00ab7605ecd470359eef2dbef78d4f6ac463d", func := "wharfage/wharfagelaw16.BoundRights", spec := "boundRights", unfollowed := true, recurses := true, named := ["math/bits.deBruijn64tab"], apart := false, laid := [("math/bits.deBruijn64tab", laid_math_bits_deBruijn64tab)], narrowed := true }
def BoundRightsUptoSaid : Prop := boundRightsUptoRow.holds Tryz.pinned (OpenSpec.upto boundRightsSpec)

/-- 'wharfagelaw16.BoundTrue', WHERE WHAT IT READS IS OF BULK AT MOST 1048576: true; the input reads as it did. -/
def boundTrueUptoRow : OpenClaim := { program := "ytoimffkejoeadaagreatdoor", sum := "216fa5f5e989bd529dbdff8d7fe00ab7605ecd470359eef2dbef78d4f6ac463d", func := "wharfage/wharfagelaw16.BoundTrue", spec := "boundTrue", unfollowed := true, recurses := true, named := ["math/bits.deBruijn64tab"], apart := false, laid := [("math/bits.deBruijn64tab", laid_math_bits_deBruijn64tab)], narrowed := true }
def BoundTrueUptoSaid : Prop := boundTrueUptoRow.holds Tryz.pinned (OpenSpec.upto boundTrueSpec)

end Rows
end Go.Proofs.YtoimffkejoeadaaGreatDoor
