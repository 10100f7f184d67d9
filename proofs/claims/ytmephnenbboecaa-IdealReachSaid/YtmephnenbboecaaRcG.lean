/- Runs of IdealReach, reckoned by the kernel. No condition. -/
import Derived.Test.YtmephnenbboecaaRcS
namespace Go.Am.Try
set_option maxRecDepth 1000000
theorem reach_run6 (n : Int) : reachRun n 6 = true := by kernel_rfl
theorem reach_run13 (n : Int) : reachRun n 13 = true := by kernel_rfl
theorem reach_run26 (n : Int) : reachRun n 26 = true := by kernel_rfl
end Go.Am.Try
