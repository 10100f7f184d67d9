/- Runs of IdealReach, reckoned by the kernel. No condition. -/
import Derived.Test.YtmephnenbboecaaRcS
namespace Go.Am.Try
set_option maxRecDepth 1000000
theorem reach_run9 (n : Int) : reachRun n 9 = true := by kernel_rfl
theorem reach_run10 (n : Int) : reachRun n 10 = true := by kernel_rfl
theorem reach_run29 (n : Int) : reachRun n 29 = true := by kernel_rfl
end Go.Am.Try
