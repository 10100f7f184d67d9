/-
  No cell of these rows narrows 'for every input' (looked for: loops, veiled, ifaces, maps, wideKeys, modest, calm, conditions, laid).
  DERIVED. THE GIVEN ROWS OF THIS SEAT. 4 by the template 'for every input the law returns true; each argument reads behind the call as it read before'; 0 by the template 'total and deterministic' (their statements: YtmephnenbboecaaTotals.lean).
  GIVEN WITH THE SEED: the statements are not yours to turn. If you find one false, say at which input.
  Laid BY PROGRAM, IN A SANDBOX (cutbox-rows.mjs): the forced cells as the released guide's own fill.sh prints them over the translation 3bbba5b52e0cf7b9… (all of the seat's roots in one cut). By AI agents, Wed Nov 11 2026. No macro, syntax, notation, axiom, sorry.
-/
import Derived.Test.YtmephnenbboecaaChecked
import GoSem.Claim
import GoSem.ClaimJoined
import GoSem.ClaimMapViews
import Derived.JoinedTies
import Derived.KernelRfl
namespace Go.Proofs.Ytmephnenbboecaa
/- THE CELL 'sum', in the pinned program and in every row, IS THE sha256 OF THE DUMP (.gsa) THAT YtmephnenbboecaaProg.lean LOADS. Nothing in Lean hashes anything: it is a label: what it is worth is what the hold of that sum in a sandbox is worth. -/
noncomputable def Try.pinned : Pinned := { name := "ytmephnenbboecaa", sum := "3bbba5b52e0cf7b97329db29f2a8288d11ad2398747364bc98a9cc68cb6f5814", checked := Try.checked }
namespace Rows
def none {H : Type} : Left H := { results := [], args := [] }

/-- 'treadlelaw18.IdealSleeps': WHATEVER THE INPUT: true; the input reads as it did. -/
def idealSleepsSpec : ChangeSpec := { name := "idealSleeps", fn := fun _ => fun
  | [d1, d2] => { results := [.lit (.bool true)], args := [d1, d2] }
  | _ => none }
def idealSleepsRow : OpenClaim := { program := "ytmephnenbboecaa", sum := "3bbba5b52e0cf7b97329db29f2a8288d11ad2398747364bc98a9cc68cb6f5814", func := "treadle/treadlelaw18.IdealSleeps", spec := "idealSleeps", inPlace := ["math.Float64frombits", "math.Float64bits"], unfollowed := true, recurses := true, apart := false }
def IdealSleepsSaid : Prop := idealSleepsRow.holds Try.pinned (OpenSpec.ofChange idealSleepsSpec)

/-- ITS FALSE NEIGHBOUR: 'it returns false'. Refute it at one input. -/
def idealSleepsWrong : ChangeSpec := { name := "idealSleeps", fn := fun _ => fun
  | [d1, d2] => { results := [.lit (.bool false)], args := [d1, d2] }
  | _ => none }
def IdealSleepsWrongFalsely : Prop := idealSleepsRow.holds Try.pinned (OpenSpec.ofChange idealSleepsWrong)

/-- 'treadlelaw18.IdealFloats': WHATEVER THE INPUT: true; the input reads as it did. -/
def idealFloatsSpec : ChangeSpec := { name := "idealFloats", fn := fun _ => fun
  | [d1, d2, d3] => { results := [.lit (.bool true)], args := [d1, d2, d3] }
  | _ => none }
def idealFloatsRow : OpenClaim := { program := "ytmephnenbboecaa", sum := "3bbba5b52e0cf7b97329db29f2a8288d11ad2398747364bc98a9cc68cb6f5814", func := "treadle/treadlelaw18.IdealFloats", spec := "idealFloats", inPlace := ["math.Float64frombits", "math.Float64bits"], unfollowed := true, recurses := true, apart := false }
def IdealFloatsSaid : Prop := idealFloatsRow.holds Try.pinned (OpenSpec.ofChange idealFloatsSpec)

/-- ITS FALSE NEIGHBOUR: 'it returns false'. Refute it at one input. -/
def idealFloatsWrong : ChangeSpec := { name := "idealFloats", fn := fun _ => fun
  | [d1, d2, d3] => { results := [.lit (.bool false)], args := [d1, d2, d3] }
  | _ => none }
def IdealFloatsWrongFalsely : Prop := idealFloatsRow.holds Try.pinned (OpenSpec.ofChange idealFloatsWrong)

/-- 'treadlelaw18.IdealNext': WHATEVER THE INPUT: true; the input reads as it did. -/
def idealNextSpec : ChangeSpec := { name := "idealNext", fn := fun _ => fun
  | [d1, d2] => { results := [.lit (.bool true)], args := [d1, d2] }
  | _ => none }
def idealNextRow : OpenClaim := { program := "ytmephnenbboecaa", sum := "3bbba5b52e0cf7b97329db29f2a8288d11ad2398747364bc98a9cc68cb6f5814", func := "treadle/treadlelaw18.IdealNext", spec := "idealNext", inPlace := ["math.Float64frombits", "math.Float64bits"], unfollowed := true, recurses := true, apart := false }
def IdealNextSaid : Prop := idealNextRow.holds Try.pinned (OpenSpec.ofChange idealNextSpec)

/-- ITS FALSE NEIGHBOUR: 'it returns false'. Refute it at one input. -/
def idealNextWrong : ChangeSpec := { name := "idealNext", fn := fun _ => fun
  | [d1, d2] => { results := [.lit (.bool false)], args := [d1, d2] }
  | _ => none }
def IdealNextWrongFalsely : Prop := idealNextRow.holds Try.pinned (OpenSpec.ofChange idealNextWrong)

/-- 'treadlelaw18.IdealReach': WHATEVER THE INPUT: true; the input reads as it did. -/
def idealReachSpec : ChangeSpec := { name := "idealReach", fn := fun _ => fun
  | [d] => { results := [.lit (.bool true)], args := [d] }
  | _ => none }
def idealReachRow : OpenClaim := { program := "ytmephnenbboecaa", sum := "3bbba5b52e0cf7b97329db29f2a8288d11ad2398747364bc98a9cc68cb6f5814", func := "treadle/treadlelaw18.IdealReach", spec := "idealReach", inPlace := ["math.Float64frombits", "math.Float64bits"], unfollowed := true, recurses := true, apart := false }
def IdealReachSaid : Prop := idealReachRow.holds Try.pinned (OpenSpec.ofChange idealReachSpec)

/-- ITS FALSE NEIGHBOUR: 'it returns false'. Refute it at one input. -/
def idealReachWrong : ChangeSpec := { name := "idealReach", fn := fun _ => fun
  | [d] => { results := [.lit (.bool false)], args := [d] }
  | _ => none }
def IdealReachWrongFalsely : Prop := idealReachRow.holds Try.pinned (OpenSpec.ofChange idealReachWrong)

/- THE SECOND FORM. 'bulk': how many values and letters a reading holds, each counted each time it is reached (what is shared counts as often as it is met; a slice's spare places count too). A statement '..UptoSaid' is the law's where the arguments, and the package variables that the reading takes, are together of bulk at most 1048576: NARROWER than '..Said'. Prove '..Said' where nothing that the law and all that it calls make is longer than what came in: it says more and counts as full. Else prove '..UptoSaid'. A law counts once. -/
mutual
def uptoBulk {H : Type} : DataW H → Nat
  | .lit (.string bytes) => bytes.length + 1
  | .lit _ => 1
  | .nil => 1
  | .ptr d => uptoBulk d + 1
  | .slice elems spare => uptoBulkAll elems + uptoBulkAll spare + 1
  | .agg parts => uptoBulkAll parts + 1
  | .iface _ d => uptoBulk d + 1
  | .map entries => uptoBulkEntries entries + 1
  | .held _ => 1
def uptoBulkAll {H : Type} : List (DataW H) → Nat
  | [] => 0
  | d :: r => uptoBulk d + uptoBulkAll r
def uptoBulkEntries {H : Type} : List (Lit × DataW H) → Nat
  | [] => 0
  | x :: r => uptoBulkEntry x + uptoBulkEntries r
def uptoBulkEntry {H : Type} : Lit × DataW H → Nat
  | (.string bytes, d) => bytes.length + uptoBulk d + 1
  | (_, d) => uptoBulk d + 1
 end
def uptoSmall : (H : Type) → List (DataW H) → Bool := fun _ ds => decide (uptoBulkAll ds ≤ 1048576)
def OpenSpec.upto (s : _root_.Go.ChangeSpec) : _root_.Go.OpenSpec := { _root_.Go.OpenSpec.ofChange s with cond := some uptoSmall }

/-- 'treadlelaw18.IdealSleeps', WHERE WHAT IT READS IS OF BULK AT MOST 1048576: true; the input reads as it did. -/
def idealSleepsUptoRow : OpenClaim := { program := "ytmephnenbboecaa", sum := "3bbba5b52e0cf7b97329db29f2a8288d11ad2398747364bc98a9cc68cb6f5814", func := "treadle/treadlelaw18.IdealSleeps", spec := "idealSleeps", inPlace := ["math.Float64frombits", "math.Float64bits"], unfollowed := true, recurses := true, apart := false, narrowed := true }
def IdealSleepsUptoSaid : Prop := idealSleepsUptoRow.holds Try.pinned (OpenSpec.upto idealSleepsSpec)

/-- 'treadlelaw18.IdealFloats', WHERE WHAT IT READS IS OF BULK AT MOST 1048576: true; the input reads as it did. -/
def idealFloatsUptoRow : OpenClaim := { program := "ytmephnenbboecaa", sum := "3bbba5b52e0cf7b97329db29f2a8288d11ad2398747364bc98a9cc68cb6f5814", func := "treadle/treadlelaw18.IdealFloats", spec := "idealFloats", inPlace := ["math.Float64frombits", "math.Float64bits"], unfollowed := true, recurses := true, apart := false, narrowed := true }
def IdealFloatsUptoSaid : Prop := idealFloatsUptoRow.holds Try.pinned (OpenSpec.upto idealFloatsSpec)

/-- 'treadlelaw18.IdealNext', WHERE WHAT IT READS IS OF BULK AT MOST 1048576: true; the input reads as it did. -/
def idealNextUptoRow : OpenClaim := { program := "ytmephnenbboecaa", sum := "3bbba5b52e0cf7b97329db29f2a8288d11ad2398747364bc98a9cc68cb6f5814", func := "treadle/treadlelaw18.IdealNext", spec := "idealNext", inPlace := ["math.Float64frombits", "math.Float64bits"], unfollowed := true, recurses := true, apart := false, narrowed := true }
def IdealNextUptoSaid : Prop := idealNextUptoRow.holds Try.pinned (OpenSpec.upto idealNextSpec)

/-- 'treadlelaw18.IdealReach', WHERE WHAT IT READS IS OF BULK AT MOST 1048576: true; the input reads as it did. -/
def idealReachUptoRow : OpenClaim := { program := "ytmephnenbboecaa", sum := "3bbba5b52e0cf7b97329db29f2a8288d11ad2398747364bc98a9cc68cb6f5814", func := "treadle/treadlelaw18.IdealReach", spec := "idealReach", inPlace := ["math.Float64frombits", "math.Float64bits"], unfollowed := true, recurses := true, apart := false, narrowed := true }
def IdealReachUptoSaid : Prop := idealReachUptoRow.holds Try.pinned (OpenSpec.upto idealReachSpec)

end Rows
end Go.Proofs.Ytmephnenbboecaa
