/- Runs of IdealReach, reckoned by the kernel. No condition. -/
import Derived.Test.YtmephnenbboecaaRcS
namespace Go.Am.Try
set_option maxRecDepth 1000000
theorem reach_run2 (n : Int) : reachRun n 2 = true := by kernel_rfl
theorem reach_run17 (n : Int) : reachRun n 17 = true := by kernel_rfl
theorem reach_run22 (n : Int) : reachRun n 22 = true := by kernel_rfl
end Go.Am.Try
