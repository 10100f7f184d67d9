/- What the runs of IdealReach start with. No condition. -/
import Derived.Test.YtmephnenbboecaaRcT
namespace Go.Am.Try
open Go.Proofs Go.Am
def reachL (n k : Int) : List (Nat × Value) := [(2, .bool false), (11, .int .u8 n), (12, .int .u8 k), (13, .int .i64 k), (3, .int .i64 k)]
noncomputable def reachC : ACode := sndSeq (sndSeq a6.code)
noncomputable def reachRun (n k : Int) : Bool := okR a6.res (obind (fillF [.int .u8 n] 0 (Tr.full 10)) fun ρ => obind (setsF (reachL n k) ρ) fun ρ => execF (runF noX tbl 100000 50) 100000 reachC ρ St.empty)
end Go.Am.Try
