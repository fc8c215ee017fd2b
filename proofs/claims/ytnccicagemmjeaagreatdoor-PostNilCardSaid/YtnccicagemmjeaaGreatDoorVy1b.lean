/- The document's example, run by the kernel. -/
import Derived.Test.YtnccicagemmjeaaGreatDoorVy1
namespace Go.Proofs.YtnccicagemmjeaaGreatDoor
open Go Go.Vx
set_option maxRecDepth 1000000
theorem awake_run : isT (callX E0 200 4 [] s00) = true := by kernel_rfl
end Go.Proofs.YtnccicagemmjeaaGreatDoor
