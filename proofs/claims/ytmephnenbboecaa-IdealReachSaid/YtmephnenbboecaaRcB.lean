/- Runs of IdealReach, reckoned by the kernel. No condition. -/
import Derived.Test.YtmephnenbboecaaRcS
namespace Go.Am.Try
set_option maxRecDepth 1000000
theorem reach_run1 (n : Int) : reachRun n 1 = true := by kernel_rfl
theorem reach_run18 (n : Int) : reachRun n 18 = true := by kernel_rfl
theorem reach_run21 (n : Int) : reachRun n 21 = true := by kernel_rfl
end Go.Am.Try
