/- Runs of IdealReach, reckoned by the kernel. No condition. -/
import Derived.Test.YtmephnenbboecaaRcS
namespace Go.Am.Try
set_option maxRecDepth 1000000
theorem reach_run7 (n : Int) : reachRun n 7 = true := by kernel_rfl
theorem reach_run12 (n : Int) : reachRun n 12 = true := by kernel_rfl
theorem reach_run27 (n : Int) : reachRun n 27 = true := by kernel_rfl
end Go.Am.Try
