/- The closed first part of chapter 11's statements, run by the machine. -/
import Derived.Test.YtoimffkejoeadaaGreatDoorAwk0
namespace Go.Proofs.YtoimffkejoeadaaGreatDoor.Vm
open Go
set_option maxRecDepth 100000
theorem awake11_runs : yes (runCall Tryz.prog E0 mt (orcs []) 1000 53 [] start) = true := by kernel_rfl
end Go.Proofs.YtoimffkejoeadaaGreatDoor.Vm
/- The closed first part of chapter 14's statements, run by the machine. -/
namespace Go.Proofs.YtoimffkejoeadaaGreatDoor.Vm
open Go
set_option maxRecDepth 100000
theorem awake14_runs : yes (runCall Tryz.prog E0 mt (orcs [53]) 1000 28 [] start) = true := by kernel_rfl
end Go.Proofs.YtoimffkejoeadaaGreatDoor.Vm
