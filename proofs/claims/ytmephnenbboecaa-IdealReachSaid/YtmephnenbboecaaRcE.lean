/- Runs of IdealReach, reckoned by the kernel. No condition. -/
import Derived.Test.YtmephnenbboecaaRcS
namespace Go.Am.Try
set_option maxRecDepth 1000000
theorem reach_run4 (n : Int) : reachRun n 4 = true := by kernel_rfl
theorem reach_run15 (n : Int) : reachRun n 15 = true := by kernel_rfl
theorem reach_run24 (n : Int) : reachRun n 24 = true := by kernel_rfl
end Go.Am.Try
