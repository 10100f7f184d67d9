/- Runs of IdealReach, reckoned by the kernel. No condition. -/
import Derived.Test.YtmephnenbboecaaRcS
namespace Go.Am.Try
set_option maxRecDepth 1000000
theorem reach_run5 (n : Int) : reachRun n 5 = true := by kernel_rfl
theorem reach_run14 (n : Int) : reachRun n 14 = true := by kernel_rfl
theorem reach_run25 (n : Int) : reachRun n 25 = true := by kernel_rfl
end Go.Am.Try
