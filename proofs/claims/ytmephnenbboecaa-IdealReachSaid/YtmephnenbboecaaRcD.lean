/- Runs of IdealReach, reckoned by the kernel. No condition. -/
import Derived.Test.YtmephnenbboecaaRcS
namespace Go.Am.Try
set_option maxRecDepth 1000000
theorem reach_run3 (n : Int) : reachRun n 3 = true := by kernel_rfl
theorem reach_run16 (n : Int) : reachRun n 16 = true := by kernel_rfl
theorem reach_run23 (n : Int) : reachRun n 23 = true := by kernel_rfl
end Go.Am.Try
