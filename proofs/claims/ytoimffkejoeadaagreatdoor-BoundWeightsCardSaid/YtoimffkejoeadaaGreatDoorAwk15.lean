/- The closed first part of chapter 15's statements, run by the machine. -/
import Derived.Test.YtoimffkejoeadaaGreatDoorAwk0
namespace Go.Proofs.YtoimffkejoeadaaGreatDoor.Vm
open Go
set_option maxRecDepth 100000
theorem awake15_runs : yes (runCall Tryz.prog E0 mt (orcs [28]) 1000 10 [] start) = true := by kernel_rfl
end Go.Proofs.YtoimffkejoeadaaGreatDoor.Vm
