/- IdealSleeps: what stands in memory once a goroutine sleeps, and the runs that begin and end there. No condition. -/
import Derived.Test.YtmephnenbboecaaRcT
import Derived.Test.YtmephnenbboecaaAmT
set_option maxRecDepth 1000000
namespace Go.Am.Try
open Go.Proofs Go.Am

theorem wpA_assoc {P : Program} (a b c : ACode) (Q : AExit → Env → Heap → Prop) : wpA P (.seq (.seq a b) c) Q = wpA P (.seq a (.seq b c)) Q := by
  show wpA P a (thenA (wpA P b (thenA (wpA P c Q) Q)) (thenA (wpA P c Q) Q)) = wpA P a (thenA (wpA P b (thenA (wpA P c Q) Q)) Q)
  congr 1
  funext e
  cases e <;> rfl

/-- The run's blocks: the code has the ticks x; the clock stands at c; the goroutine is in the state st; it sleeps (sl) until u. -/
def slL (B0 : Option B2) (x st u : Int) (sl : Bool) (c : Int) : List (Nat × Option B2) := [
(0, B0),
(71, some (1, .row true 59 [.int .i64 0, .int .i64 1])),
(75, some (1, .row true 59 [.int .i64 0])),
(77, some (2, .row true 61 [.bool false, .slice (some ⟨71, 0, none⟩) 2 2, .bool true, .slice (some ⟨75, 0, none⟩) 1 1])),
(79, some (1, .row true 59 [.int .i64 0, .int .i64 0, .int .i64 0, .int .i64 0, .int .i64 1, .int .i64 1, .int .i64 1, .int .i64 16, .int .i64 17, .int .i64 64])),
(80, some (6, .row true 38 [.int .i64 1, .int .i64 1, .int .i64 0, .int .i64 0, .int .u64 x, .slice none 0 0, .int .i64 46, .int .i64 1, .int .i64 0, .int .i64 0, .int .u64 0, .slice none 0 0, .int .i64 36, .int .i64 0, .int .i64 0, .int .i64 0, .int .u64 0, .slice none 0 0])),
(84, some (1, .row true 59 [.int .i64 0])),
(85, some (6, .row true 38 [.int .i64 48, .int .i64 0, .int .i64 0, .int .i64 0, .int .u64 0, .slice none 0 0, .int .i64 36, .int .i64 0, .int .i64 0, .int .i64 0, .int .u64 0, .slice none 0 0])),
(89, some (1, .row true 59 [.int .i64 0, .int .i64 0, .int .i64 0])),
(90, some (6, .row true 38 [.int .i64 40, .int .i64 1, .int .i64 2, .int .i64 0, .int .u64 0, .slice none 0 0, .int .i64 48, .int .i64 1, .int .i64 0, .int .i64 0, .int .u64 0, .slice none 0 0, .int .i64 48, .int .i64 2, .int .i64 0, .int .i64 0, .int .u64 0, .slice none 0 0, .int .i64 36, .int .i64 0, .int .i64 0, .int .i64 0, .int .u64 0, .slice none 0 0])),
(92, some (4, .row true 64 [.int .i64 0, .slice (some ⟨79, 0, none⟩) 10 10, .slice none 0 0, .slice (some ⟨80, 0, none⟩) 3 3, .int .i64 1, .slice (some ⟨84, 0, none⟩) 1 1, .slice none 0 0, .slice (some ⟨85, 0, none⟩) 2 2, .int .i64 1, .slice (some ⟨89, 0, none⟩) 3 3, .slice none 0 0, .slice (some ⟨90, 0, none⟩) 4 4])),
(93, some (0, .row true 35 [])),
(94, some (0, .row true 99 [.int .i64 0, .slice none 0 0, .pointer none])),
(95, some (0, .row true 74 [.slice (some ⟨77, 0, none⟩) 2 2, .slice none 0 0, .slice (some ⟨92, 0, none⟩) 3 3, .slice (some ⟨93, 0, none⟩) 0 0, .slice (some ⟨94, 0, none⟩) 1 1, .slice (some ⟨102, 0, none⟩) 1 1, .int .u64 c, .slice none 0 0, .bool false, .int .i64 0])),
(96, some (0, .row true 78 [.int .i64 st, .int .u64 u, .bool sl, .slice (some ⟨100, 0, none⟩) 1 1, .int .u64 1, .bool false, .int .i64 0, .bool false])),
(97, some (0, .row true 35 [.int .u64 0, .int .u64 x, .int .u64 0, .int .u64 0, .int .u64 0, .int .u64 0, .int .u64 0, .int .u64 0, .int .u64 0, .int .u64 0])),
(98, some (0, .row true 85 [.int .i64 0, .int .i64 2, .int .u64 1, .slice (some ⟨97, 0, none⟩) 10 10, .slice none 0 0, .slice none 0 0, .int .i64 0, .bool false, .slice none 0 0])),
(100, some (1, .row true 81 [.pointer (some ⟨98, 0, none⟩)])),
(102, some (1, .row true 79 [.pointer (some ⟨96, 0, none⟩)]))]
def slIds : List Nat := [0, 71, 75, 77, 79, 80, 84, 85, 89, 90, 92, 93, 94, 95, 96, 97, 98, 100, 102]

noncomputable def slPre : ACode := .seq (fstSeq a3.code) (.seq (fstSeq (sndSeq a3.code)) (fstSeq (sndSeq (sndSeq a3.code))))
noncomputable def slPost : ACode := sndSeq (sndSeq (sndSeq a3.code))

def mnI (a b : Int) : Int := if b < a then b else a
noncomputable def slX (ticks : Int) : Int := wrapF .u64 ticks
noncomputable def slT (ticks : Int) : Int := wrapF .i64 (slX ticks)
noncomputable def slU (ticks : Int) : Int := mnI (wrapF .u64 (Int.add 0 (mnI (wrapF .u64 (slT ticks)) 1099511627776))) 1099511627776

noncomputable def slIns (ticks : Int) : Value := .agg #[.int .i64 1, .int .i64 1, .int .i64 0, .int .i64 0, .int .u64 (slX ticks), .slice none 0 0]
noncomputable def slOb (ticks : Int) (b : Bool) : List (Value × Bool) := [(.bool (intLe (slT ticks) 0), b), (.bool (sameV (slIns ticks) (slIns ticks) && true), true)]

noncomputable def slRun (B0 : Option B2) (v1 : Value) (ticks : Int) (b : Bool) : Option (AExit × List (Nat × Value) × List (Nat × Option B2) × Nat × List (Value × Bool)) :=
  obind (fillF [.int .i64 ticks, v1] 0 (Tr.full 10)) fun ρ => obind2 (execF (runF noX tbl 100000 50) 100000 slPre ρ ⟨.node B0 .nil .nil, 1, 0, [(836, true), (6115, b)], []⟩) fun e p => some (e, seeT p.1 [0, 1, 5], seeF p.2 slIds, p.2.next, p.2.obl)

theorem sl_awake (B0 : Option B2) (v1 : Value) (ticks : Int) : slRun B0 v1 ticks true = some (.normal, [(0, .int .i64 ticks), (1, v1), (5, .pointer (some ⟨95, 0, none⟩))], slL B0 (slX ticks) 1 0 false 0, 164, slOb ticks true) := by kernel_rfl
theorem sl_asleep (B0 : Option B2) (v1 : Value) (ticks : Int) : slRun B0 v1 ticks false = some (.normal, [(0, .int .i64 ticks), (1, v1), (5, .pointer (some ⟨95, 0, none⟩))], slL B0 (slX ticks) 2 (slU ticks) true 0, 164, slOb ticks false) := by kernel_rfl
end Go.Am.Try
