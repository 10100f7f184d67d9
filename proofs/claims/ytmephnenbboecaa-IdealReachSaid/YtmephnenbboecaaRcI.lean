/- Runs of IdealReach, reckoned by the kernel. No condition. -/
import Derived.Test.YtmephnenbboecaaRcS
namespace Go.Am.Try
set_option maxRecDepth 1000000
theorem reach_run8 (n : Int) : reachRun n 8 = true := by kernel_rfl
theorem reach_run11 (n : Int) : reachRun n 11 = true := by kernel_rfl
theorem reach_run28 (n : Int) : reachRun n 28 = true := by kernel_rfl
end Go.Am.Try
