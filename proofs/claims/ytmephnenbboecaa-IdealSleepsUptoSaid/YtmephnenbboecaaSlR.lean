/- IdealSleeps: what State, Tick, Step and Ended answer once a goroutine sleeps. No condition. -/
import Derived.Test.YtmephnenbboecaaSlS
set_option maxRecDepth 1000000
set_option linter.unusedVariables false
namespace Go.Am
/-- A call from an explicit state: some blocks behind it, under more names. -/
theorem calls_see {P : Program} {ext : FuncId → List Value → Option Value} {tbl : Tr AFunc} (ht : TblOk P ext tbl) {fuel m n : Nat} {f : FuncId} {args : List Value} {s : St} {ids : List Nat} {l : List (Nat × Option B2)} {v : Value} {ob : List (Value × Bool)}
    (h : obind2 (runF ext tbl fuel m f args s) (fun v s' => some (v, seeF s' ids, s'.next, s'.obl)) = some (v, l, n, ob)) (hob : ∀ p ∈ ob, p.1 = .bool p.2) (hcut : ∀ p ∈ l, cutP n p = true)
    {σ : Ren} {H : Heap} {args' : List Value} (ha : VRs σ args args') (hi : Img σ s H) (orc : List (Nat × Bool)) : ACalls P f args' H fun v' H' => ∃ σ', RExt σ σ' ∧ VR σ' v v' ∧ Img σ' (stOf l n orc) H' := by
  obtain ⟨v1, s', h1, h2⟩ := obind2_some h
  injection h2 with h2
  injection h2 with e1 h2
  injection h2 with e2 h2
  injection h2 with e3 e4
  subst e1
  have e3 : s'.next = n := e3
  refine (calls_of_run ht h1 (fun p hp => hob p (by rw [← e4]; exact hp)) ha hi).mono ?_
  rintro v' H' ⟨σ', hx, hv, hi'⟩
  refine ⟨σ', hx, hv, ?_⟩
  have := hi'.cut (t := stOf l n orc) (n := n) rfl (by omega) (fun b B hb => by
    have hm := stOf_get hb
    have hc := hcut _ hm
    simp only [cutP, Bool.and_eq_true] at hc
    exact ⟨seeF_mem e2 hm, blt_lt hc.1, hc.2⟩)
  rw [List.take_of_length_le (by rw [← hi'.next]; omega)] at this
  exact this
end Go.Am

namespace Go.Am.Try
open Go.Proofs Go.Am

def slD : Value := .pointer (some ⟨95, 0, none⟩)
/-- The heap holds the sleeper. -/
def Sl (σ : Ren) (B0 : Option B2) (x st u : Int) (sl : Bool) (c : Int) (H : Heap) : Prop := Img σ (stOf (slL B0 x st u sl c) 164 []) H

theorem sl_cut {B0 : Option B2} (h0 : cutB 164 B0 = true) (x st u : Int) (sl : Bool) (c : Int) : ∀ p ∈ slL B0 x st u sl c, cutP 164 p = true := by
  intro p hp
  unfold slL at hp
  simp only [List.mem_cons, List.not_mem_nil, or_false] at hp
  rcases hp with rfl | hp
  · simpa [cutP, Nat.blt] using h0
  · rcases hp with rfl | rfl | rfl | rfl | rfl | rfl | rfl | rfl | rfl | rfl | rfl | rfl | rfl | rfl | rfl | rfl | rfl | rfl <;> rfl

theorem sl_next (l : List (Nat × Option B2)) (n : Nat) (o : List (Nat × Bool)) : (stOf l n o).next = n := rfl

theorem st_run (B0 : Option B2) (x st u : Int) (sl : Bool) (c : Int) : obind2 (runF noX tbl 100000 50 11 [slD, .int .i64 0] (stOf (slL B0 x st u sl c) 164 [])) (fun v s' => some (v, seeF s' slIds, s'.obl)) = some (.int .i64 st, slL B0 x st u sl c, []) := by kernel_rfl

theorem state_ok {σ : Ren} {B0 : Option B2} (h0 : cutB 164 B0 = true) {x st u : Int} {sl : Bool} {c : Int} {H : Heap} {d : Value} (hi : Sl σ B0 x st u sl c H) (hd : VR σ slD d) :
    ACalls Try.prog 11 [d, .int .i64 0] H fun v H' => v = .int .i64 st ∧ Sl σ B0 x st u sl c H' :=
  (calls_keep tbl_ok (st_run B0 x st u sl c) (fun p hp => by cases hp) (sl_cut h0 x st u sl c) rfl (.cons _ _ _ _ hd (.cons _ _ _ _ (.int _ _) .nil)) hi []).mono fun v H' ⟨σ', _, hv, hi'⟩ => by
    cases hv; exact ⟨rfl, hi'⟩

noncomputable def slC (c n : Int) : Int := mnI (wrapF .u64 (Int.add c (mnI n 1099511627776))) 1099511627776

noncomputable def tickRun (B0 : Option B2) (x st u : Int) (sl : Bool) (c n : Int) (orc : List (Nat × Bool)) : Option (Value × List (Nat × Option B2) × List (Value × Bool)) :=
  obind2 (runF noX tbl 100000 50 12 [slD, .int .u64 n] (stOf (slL B0 x st u sl c) 164 orc)) (fun v s' => some (v, seeF s' slIds, s'.obl))
theorem tick_run0 (B0 : Option B2) (x st u c n : Int) : tickRun B0 x st u false c n [] = some (.int .i64 0, slL B0 x st u false (slC c n), []) := by kernel_rfl
theorem tick_run1 (B0 : Option B2) (x st u c n : Int) : tickRun B0 x st u true c n [(38, true)] = some (.int .i64 0, slL B0 x 1 u false (slC c n), [(.bool (intLe u (slC c n)), true)]) := by kernel_rfl
theorem tick_run2 (B0 : Option B2) (x st u c n : Int) : tickRun B0 x st u true c n [(38, false)] = some (.int .i64 0, slL B0 x st u true (slC c n), [(.bool (intLe u (slC c n)), false)]) := by kernel_rfl

theorem img_orc {σ : Ren} {l : List (Nat × Option B2)} {n : Nat} {o o' : List (Nat × Bool)} {H : Heap} (h : Img σ (stOf l n o) H) : Img σ (stOf l n o') H := ⟨h.next, h.has, h.inj⟩

/-- The clock goes on. -/
theorem tick_ok {σ : Ren} {B0 : Option B2} (h0 : cutB 164 B0 = true) {x st u : Int} {sl : Bool} {c : Int} {H : Heap} {d : Value} (hi : Sl σ B0 x st u sl c H) (hd : VR σ slD d) (n : Int) :
    ACalls Try.prog 12 [d, .int .u64 n] H fun v H' => v = .int .i64 0 ∧ (if sl = true ∧ u ≤ slC c n then Sl σ B0 x 1 u false (slC c n) H' else Sl σ B0 x st u sl (slC c n) H') := by
  have ha : VRs σ [slD, .int .u64 n] [d, .int .u64 n] := .cons _ _ _ _ hd (.cons _ _ _ _ (.int _ _) .nil)
  cases sl with
  | false =>
    refine (calls_keep tbl_ok (tick_run0 B0 x st u c n) (fun p hp => by cases hp) (sl_cut h0 x st u false _) rfl ha (img_orc hi) []).mono fun v H' ⟨σ', _, hv, hi'⟩ => ?_
    cases hv
    exact ⟨rfl, by rw [if_neg (fun hh => by cases hh.1)]; exact hi'⟩
  | true =>
    by_cases hu : u ≤ slC c n
    · have hob : intLe u (slC c n) = true := by rw [intLe_eq]; simpa using hu
      refine (calls_keep tbl_ok (tick_run1 B0 x st u c n) (fun p hp => by simp only [List.mem_singleton] at hp; subst hp; rw [hob]) (sl_cut h0 x 1 u false _) rfl ha (img_orc hi) []).mono fun v H' ⟨σ', _, hv, hi'⟩ => ?_
      cases hv
      exact ⟨rfl, by rw [if_pos ⟨rfl, hu⟩]; exact hi'⟩
    · have hob : intLe u (slC c n) = false := by rw [intLe_eq]; simpa using hu
      refine (calls_keep tbl_ok (tick_run2 B0 x st u c n) (fun p hp => by simp only [List.mem_singleton] at hp; subst hp; rw [hob]) (sl_cut h0 x st u true _) rfl ha (img_orc hi) []).mono fun v H' ⟨σ', _, hv, hi'⟩ => ?_
      cases hv
      exact ⟨rfl, by rw [if_neg (fun hh => hu hh.2)]; exact hi'⟩

-- the last step

def slEnd (c : Int) (e : Bool) (tr : Value) : List (Nat × Option B2) := [(95, some (0, .row true 74 [.slice (some ⟨77, 0, none⟩) 2 2, .slice none 0 0, .slice (some ⟨92, 0, none⟩) 3 3, .slice (some ⟨93, 0, none⟩) 0 0, .slice (some ⟨94, 0, none⟩) 1 1, .slice (some ⟨102, 0, none⟩) 1 1, .int .u64 c, tr, .bool e, .int .i64 0]))]

noncomputable def stepRun (B0 : Option B2) (x st u : Int) (sl : Bool) (c : Int) : Option (Value × List (Nat × Option B2) × Nat × List (Value × Bool)) :=
  obind2 (runF noX tbl 100000 50 10 [slD, .int .i64 0, .int .u64 0] (stOf (slL B0 x st u sl c) 164 [])) (fun v s' => some (v, seeF s' [95], s'.next, s'.obl))
theorem step_run1 (B0 : Option B2) (x u c : Int) : stepRun B0 x 1 u false c = some (.int .i64 0, slEnd c true (.slice (some ⟨168, 0, none⟩) 1 1), 169, []) := by kernel_rfl
theorem step_run2 (B0 : Option B2) (x u c : Int) : stepRun B0 x 2 u true c = some (.int .i64 5, slEnd c false (.slice none 0 0), 164, []) := by kernel_rfl
theorem ended_run (c : Int) (e : Bool) (tr : Value) (n : Nat) : obind2 (runF noX tbl 100000 50 13 [slD] (stOf (slEnd c e tr) n [])) (fun v s' => some (v, seeF s' [], s'.next, s'.obl)) = some (.bool e, [], n, []) := by kernel_rfl

theorem step_ok {σ : Ren} {B0 : Option B2} {x st u : Int} {sl : Bool} {c : Int} {H : Heap} {d : Value} (hi : Sl σ B0 x st u sl c H) (hd : VR σ slD d) (hs : (st = 1 ∧ sl = false) ∨ (st = 2 ∧ sl = true)) :
    ACalls Try.prog 10 [d, .int .i64 0, .int .u64 0] H fun v H' => v = .int .i64 (if st = 1 then 0 else 5) ∧ ∃ σ' tr n, Img σ' (stOf (slEnd c (decide (st = 1)) tr) n []) H' ∧ VR σ' slD d := by
  have ha : VRs σ [slD, .int .i64 0, .int .u64 0] [d, .int .i64 0, .int .u64 0] := .cons _ _ _ _ hd (.cons _ _ _ _ (.int _ _) (.cons _ _ _ _ (.int _ _) .nil))
  rcases hs with ⟨rfl, rfl⟩ | ⟨rfl, rfl⟩
  · refine (calls_see tbl_ok (step_run1 B0 x u c) (fun p hp => by cases hp) (fun p hp => ?_) ha hi []).mono fun v H' ⟨σ', hx, hv, hi'⟩ => ?_
    · unfold slEnd at hp; simp only [List.mem_singleton] at hp; subst hp; rfl
    · cases hv
      exact ⟨rfl, σ', _, _, hi', hd.ext hx⟩
  · refine (calls_see tbl_ok (step_run2 B0 x u c) (fun p hp => by cases hp) (fun p hp => ?_) ha hi []).mono fun v H' ⟨σ', hx, hv, hi'⟩ => ?_
    · unfold slEnd at hp; simp only [List.mem_singleton] at hp; subst hp; rfl
    · cases hv
      exact ⟨rfl, σ', _, _, hi', hd.ext hx⟩

theorem ended_ok {σ : Ren} {c : Int} {e : Bool} {tr : Value} {n : Nat} {H : Heap} {d : Value} (hi : Img σ (stOf (slEnd c e tr) n []) H) (hd : VR σ slD d) :
    ACalls Try.prog 13 [d] H fun v H' => v = .bool e := by
  refine (calls_see tbl_ok (ended_run c e tr n) (fun p hp => by cases hp) (fun p hp => by cases hp) (.cons _ _ _ _ hd .nil) hi []).mono fun v H' ⟨σ', hx, hv, hi'⟩ => ?_
  cases hv; rfl
end Go.Am.Try
