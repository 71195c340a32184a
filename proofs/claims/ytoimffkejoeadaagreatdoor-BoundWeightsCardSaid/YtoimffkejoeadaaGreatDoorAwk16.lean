/- The closed first part of chapter 16's statements, run by the machine. -/
import Derived.Test.YtoimffkejoeadaaGreatDoorAwk0
namespace Go.Proofs.YtoimffkejoeadaaGreatDoor.Vm
open Go
set_option maxRecDepth 100000
theorem awake16_runs : yes (runCall Tryz.prog E0 mt (orcs [10]) 1000 17 [] start) = true := by kernel_rfl
end Go.Proofs.YtoimffkejoeadaaGreatDoor.Vm
