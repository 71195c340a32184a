/- The machine's outer reads, method table and closed facts for this program. -/
import Derived.Test.YtoimffkejoeadaaGreatDoorProg
import Derived.Test.YtoimffkejoeadaaGreatDoorVm19
namespace Go.Proofs.YtoimffkejoeadaaGreatDoor.Vm
open Go
set_option maxRecDepth 100000
set_option linter.unusedVariables false
noncomputable section
/-- The table of math/bits, which lies outside. -/
def tab : List Nat := [0, 1, 56, 2, 57, 49, 28, 3, 61, 58, 42, 50, 38, 29, 17, 4, 62, 47, 59, 36, 45, 43, 51, 22, 53, 39, 33, 30, 24, 18, 12, 5, 63, 55, 48, 27, 60, 41, 37, 16, 46, 35, 44, 21, 52, 32, 23, 11, 54, 26, 40, 15, 34, 20, 31, 10, 25, 14, 19, 9, 13, 8, 7, 6]
def E0 : Addr → Option Value := fun a => match a with
  | ⟨0, k, none⟩ => match tab[k]? with
    | some v => some (.int .u8 v)
    | none => none
  | _ => none
def mt : List Meth := [⟨207, "Len", 161, some 203⟩, ⟨207, "Less", 162, some 203⟩, ⟨207, "Swap", 163, some 203⟩, ⟨207, "Pop", 164, none⟩, ⟨207, "Push", 165, none⟩]
def yes : CR → Bool
  | .ok (.bool true) _ => true
  | _ => false
/-- Closed facts that have been run already. -/
def orcs (l : List FuncId) : FuncId → List Value → Option Value := fun f args => match args with
  | [] => bif l.any (Nat.beq f) then some (.bool true) else none
  | _ => none
end
end Go.Proofs.YtoimffkejoeadaaGreatDoor.Vm
