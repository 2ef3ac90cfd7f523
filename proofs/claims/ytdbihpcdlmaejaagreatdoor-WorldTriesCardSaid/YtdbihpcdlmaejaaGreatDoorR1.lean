/- The runs. -/
import Derived.Test.YtdbihpcdlmaejaaGreatDoorR
set_option maxRecDepth 1000000
set_option maxHeartbeats 4000000
namespace Go.Proofs.Tryz
open Go Go.Ai Go.Proofs
theorem run_0_t (n : Int) : isB true (goR n 0 true) = true := by kernel_rfl
theorem run_1_f (n : Int) : isB true (goR n 1 false) = true := by kernel_rfl
theorem run_1_t (n : Int) : isB true (goR n 1 true) = true := by kernel_rfl
theorem run_2_f (n : Int) : isB true (goR n 2 false) = true := by kernel_rfl
end Go.Proofs.Tryz
