/-
  DERIVED. GIVEN WITH THE SEED: THE CARDS: each row of YtoimffkejoeadaaGreatDoorRows.lean that lists a variable, with what it lists TIED to the program's text (the seventh form; the later family's looks); each row that meets fmt, with fmt's text TOLD by the authors' own Lean function (tested against real Go, not proved from fmt's source: count such statements apart). THE CARD IS WHAT COUNTS. Prove the row's statement (the work); the ties are given (YtoimffkejoeadaaGreatDoorTie.lean); close each card by the builder's one call (the guide's Derived/Test/ToyasCard.lean, 'card_holds'). Laid BY PROGRAM, IN A SANDBOX (cutbox-door.mjs). By AI agents, Wed Nov 11 2026. No macro, syntax, notation, axiom, sorry.
-/
import Derived.Test.YtoimffkejoeadaaGreatDoorRows
import GoSem.ClaimSeven
namespace Go.Proofs.YtoimffkejoeadaaGreatDoor
namespace Rows

/-- THE TIED CARD OF 'wharfagelaw15.BlockLess'. -/
def blockLessCard : Claim7 := { stood := { row := blockLessRow, standIns := [], harness := (true, "bc4e6b348a737c0816a3c270bca21d8e2f5f834eef64be21a6a86caae89a9f28"), looks := true }, kinds := [], alts := [], laidByText := true, laidKinds := [.data], laidTests := true, laidLooks := .later }
def BlockLessCardSaid : Prop := Claim7.holds Tryz.pinned (.plain (OpenSpec.ofChange blockLessSpec)) blockLessCard

/-- THE TIED CARD OF 'wharfagelaw15.BlockCounts'. -/
def blockCountsCard : Claim7 := { stood := { row := blockCountsRow, standIns := [], harness := (true, "bc4e6b348a737c0816a3c270bca21d8e2f5f834eef64be21a6a86caae89a9f28"), looks := true }, kinds := [], alts := [], laidByText := true, laidKinds := [.data], laidTests := true, laidLooks := .later }
def BlockCountsCardSaid : Prop := Claim7.holds Tryz.pinned (.plain (OpenSpec.ofChange blockCountsSpec)) blockCountsCard

/-- THE TIED CARD OF 'wharfagelaw15.BlockFinds'. -/
def blockFindsCard : Claim7 := { stood := { row := blockFindsRow, standIns := [], harness := (true, "bc4e6b348a737c0816a3c270bca21d8e2f5f834eef64be21a6a86caae89a9f28"), looks := true }, kinds := [], alts := [], laidByText := true, laidKinds := [.data], laidTests := true, laidLooks := .later }
def BlockFindsCardSaid : Prop := Claim7.holds Tryz.pinned (.plain (OpenSpec.ofChange blockFindsSpec)) blockFindsCard

/-- THE TIED CARD OF 'wharfagelaw16.BoundWeights'. -/
def boundWeightsCard : Claim7 := { stood := { row := boundWeightsRow, standIns := [], harness := (true, "bc4e6b348a737c0816a3c270bca21d8e2f5f834eef64be21a6a86caae89a9f28"), looks := true }, kinds := [], alts := [], laidByText := true, laidKinds := [.data], laidTests := true, laidLooks := .later }
def BoundWeightsCardSaid : Prop := Claim7.holds Tryz.pinned (.plain (OpenSpec.ofChange boundWeightsSpec)) boundWeightsCard

/-- THE TIED CARD OF 'wharfagelaw16.BoundFinds'. -/
def boundFindsCard : Claim7 := { stood := { row := boundFindsRow, standIns := [], harness := (true, "bc4e6b348a737c0816a3c270bca21d8e2f5f834eef64be21a6a86caae89a9f28"), looks := true }, kinds := [], alts := [], laidByText := true, laidKinds := [.data], laidTests := true, laidLooks := .later }
def BoundFindsCardSaid : Prop := Claim7.holds Tryz.pinned (.plain (OpenSpec.ofChange boundFindsSpec)) boundFindsCard

/-- THE TIED CARD OF 'wharfagelaw16.BoundRights'. -/
def boundRightsCard : Claim7 := { stood := { row := boundRightsRow, standIns := [], harness := (true, "bc4e6b348a737c0816a3c270bca21d8e2f5f834eef64be21a6a86caae89a9f28"), looks := true }, kinds := [], alts := [], laidByText := true, laidKinds := [.data], laidTests := true, laidLooks := .later }
def BoundRightsCardSaid : Prop := Claim7.holds Tryz.pinned (.plain (OpenSpec.ofChange boundRightsSpec)) boundRightsCard

/-- THE TIED CARD OF 'wharfagelaw16.BoundTrue'. -/
def boundTrueCard : Claim7 := { stood := { row := boundTrueRow, standIns := [], harness := (true, "bc4e6b348a737c0816a3c270bca21d8e2f5f834eef64be21a6a86caae89a9f28"), looks := true }, kinds := [], alts := [], laidByText := true, laidKinds := [.data], laidTests := true, laidLooks := .later }
def BoundTrueCardSaid : Prop := Claim7.holds Tryz.pinned (.plain (OpenSpec.ofChange boundTrueSpec)) boundTrueCard

/-- THE SECOND FORM's CARD OF 'wharfagelaw15.BlockLess'. -/
def blockLessUptoCard : Claim7 := { stood := { row := blockLessUptoRow, standIns := [], harness := (true, "bc4e6b348a737c0816a3c270bca21d8e2f5f834eef64be21a6a86caae89a9f28"), looks := true }, kinds := [], alts := [], laidByText := true, laidKinds := [.data], laidTests := true, laidLooks := .later }
def BlockLessUptoCardSaid : Prop := Claim7.holds Tryz.pinned (.plain (OpenSpec.upto blockLessSpec)) blockLessUptoCard

/-- THE SECOND FORM's CARD OF 'wharfagelaw15.BlockCounts'. -/
def blockCountsUptoCard : Claim7 := { stood := { row := blockCountsUptoRow, standIns := [], harness := (true, "bc4e6b348a737c0816a3c270bca21d8e2f5f834eef64be21a6a86caae89a9f28"), looks := true }, kinds := [], alts := [], laidByText := true, laidKinds := [.data], laidTests := true, laidLooks := .later }
def BlockCountsUptoCardSaid : Prop := Claim7.holds Tryz.pinned (.plain (OpenSpec.upto blockCountsSpec)) blockCountsUptoCard

/-- THE SECOND FORM's CARD OF 'wharfagelaw15.BlockFinds'. -/
def blockFindsUptoCard : Claim7 := { stood := { row := blockFindsUptoRow, standIns := [], harness := (true, "bc4e6b348a737c0816a3c270bca21d8e2f5f834eef64be21a6a86caae89a9f28"), looks := true }, kinds := [], alts := [], laidByText := true, laidKinds := [.data], laidTests := true, laidLooks := .later }
def BlockFindsUptoCardSaid : Prop := Claim7.holds Tryz.pinned (.plain (OpenSpec.upto blockFindsSpec)) blockFindsUptoCard

/-- THE SECOND FORM's CARD OF 'wharfagelaw16.BoundWeights'. -/
def boundWeightsUptoCard : Claim7 := { stood := { row := boundWeightsUptoRow, standIns := [], harness := (true, "bc4e6b348a737c0816a3c270bca21d8e2f5f834eef64be21a6a86caae89a9f28"), looks := true }, kinds := [], alts := [], laidByText := true, laidKinds := [.data], laidTests := true, laidLooks := .later }
def BoundWeightsUptoCardSaid : Prop := Claim7.holds Tryz.pinned (.plain (OpenSpec.upto boundWeightsSpec)) boundWeightsUptoCard

/-- THE SECOND FORM's CARD OF 'wharfagelaw16.BoundFinds'. -/
def boundFindsUptoCard : Claim7 := { stood := { row := boundFindsUptoRow, standIns := [], harness := (true, "bc4e6b348a737c0816a3c270bca21d8e2f5f834eef64be21a6a86caae89a9f28"), looks := true }, kinds := [], alts := [], laidByText := true, laidKinds := [.data], laidTests := true, laidLooks := .later }
def BoundFindsUptoCardSaid : Prop := Claim7.holds Tryz.pinned (.plain (OpenSpec.upto boundFindsSpec)) boundFindsUptoCard

/-- THE SECOND FORM's CARD OF 'wharfagelaw16.BoundRights'. -/
def boundRightsUptoCard : Claim7 := { stood := { row := boundRightsUptoRow, standIns := [], harness := (true, "bc4e6b348a737c0816a3c270bca21d8e2f5f834eef64be21a6a86caae89a9f28"), looks := true }, kinds := [], alts := [], laidByText := true, laidKinds := [.data], laidTests := true, laidLooks := .later }
def BoundRightsUptoCardSaid : Prop := Claim7.holds Tryz.pinned (.plain (OpenSpec.upto boundRightsSpec)) boundRightsUptoCard

/-- THE SECOND FORM's CARD OF 'wharfagelaw16.BoundTrue'. -/
def boundTrueUptoCard : Claim7 := { stood := { row := boundTrueUptoRow, standIns := [], harness := (true, "bc4e6b348a737c0816a3c270bca21d8e2f5f834eef64be21a6a86caae89a9f28"), looks := true }, kinds := [], alts := [], laidByText := true, laidKinds := [.data], laidTests := true, laidLooks := .later }
def BoundTrueUptoCardSaid : Prop := Claim7.holds Tryz.pinned (.plain (OpenSpec.upto boundTrueSpec)) boundTrueUptoCard
end Rows
end Go.Proofs.YtoimffkejoeadaaGreatDoor
