/- Runs of IdealReach, reckoned by the kernel. No condition. -/
import Derived.Test.YtmephnenbboecaaRcS
namespace Go.Am.Try
set_option maxRecDepth 1000000
theorem reach_run0 (n : Int) : reachRun n 0 = true := by kernel_rfl
theorem reach_run19 (n : Int) : reachRun n 19 = true := by kernel_rfl
theorem reach_run20 (n : Int) : reachRun n 20 = true := by kernel_rfl
end Go.Am.Try
