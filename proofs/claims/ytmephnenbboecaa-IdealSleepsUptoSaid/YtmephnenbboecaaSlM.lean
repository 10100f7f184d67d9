/- IdealSleeps: the loop: the law returns true. No condition. -/
import Derived.Test.YtmephnenbboecaaSlR
import Derived.Test.YtmephnenbboecaaAmQ
set_option maxRecDepth 100000
set_option linter.unusedVariables false
set_option linter.unusedSimpArgs false
namespace Go.Am.Try
open Go.Proofs Go.Am

def slPostX : ACode := (.seq
     (.region [⟨(some 7), none, .p (.mv (.const (.int .i64 0)))⟩])
     (.seq
      (.seq
       (.region [⟨(some 42), none, .p (.mv (.tmp 1))⟩,
          ⟨(some 43), none, .p (.len false (.tmp 42))⟩,
          ⟨(some 44), none, .p (.mv (.const (.int .i64 0)))⟩])
       (.block 0
        (.loop
         (.seq
          (.region [⟨(some 45), none, .p (.ibin .lss (.tmp 44) (.tmp 43))⟩])
          (.seq
           (.cond (.tmp 45)
            .skip
            (.exit 0))
           (.seq
            (.block 1
             (.seq
              (.region [⟨(some 46), none, .p (.idxSl 1 (.tmp 42) (.tmp 44))⟩,
                 ⟨(some 47), none, .r1 (.tmp 46)⟩,
                 ⟨(some 9), none, .p (.mv (.tmp 47))⟩])
              (.seq
               (.seq
                (.region [⟨(some 48), none, .p (.mv (.tmp 5))⟩,
                   ⟨(some 49), none, .w (.call 11 [(.tmp 48), (.const (.int .i64 0))])⟩,
                   ⟨(some 50), none, .p (.ibin .eql (.tmp 49) (.const (.int .i64 1)))⟩,
                   ⟨(some 51), none, .p (.mv (.tmp 0))⟩,
                   ⟨(some 52), none, .p (.mv (.tmp 7))⟩,
                   ⟨(some 53), none, .p (.ibin .leq (.tmp 51) (.tmp 52))⟩,
                   ⟨(some 54), none, .p (.eqb true (.tmp 50) (.tmp 53))⟩,
                   ⟨(some 55), none, .p (.mv (.tmp 54))⟩,
                   ⟨(some 56), (some (55, false)), .p (.mv (.tmp 5))⟩,
                   ⟨(some 57), (some (55, false)), .w (.call 11 [(.tmp 56), (.const (.int .i64 0))])⟩,
                   ⟨(some 58), (some (55, false)), .p (.ibin .eql (.tmp 57) (.const (.int .i64 2)))⟩,
                   ⟨(some 59), (some (55, false)), .p (.mv (.tmp 0))⟩,
                   ⟨(some 60), (some (55, false)), .p (.mv (.tmp 7))⟩,
                   ⟨(some 61), (some (55, false)), .p (.ibin .gtr (.tmp 59) (.tmp 60))⟩,
                   ⟨(some 62), (some (55, false)), .p (.eqb true (.tmp 58) (.tmp 61))⟩,
                   ⟨(some 63), none, .p (.pick (.tmp 55) (.const (.bool true)) (.tmp 62))⟩])
                (.cond (.tmp 63)
                 (.seq
                  (.region [⟨(some 4), none, .p (.mv (.const (.bool false)))⟩])
                  .ret)
                 .skip))
               (.seq
                (.seq
                 (.region [⟨(some 64), none, .p (.mv (.tmp 5))⟩,
                    ⟨(some 65), none, .p (.mv (.tmp 9))⟩,
                    ⟨(some 66), none, .p (.conv .u64 (.tmp 65))⟩,
                    ⟨(some 67), none, .w (.call 12 [(.tmp 64), (.tmp 66)])⟩,
                    ⟨(some 68), none, .p (.ibin .neq (.tmp 67) (.const (.int .i64 0)))⟩])
                 (.cond (.tmp 68)
                  (.seq
                   (.region [⟨(some 4), none, .p (.mv (.const (.bool false)))⟩])
                   .ret)
                  .skip))
                (.region [⟨(some 69), none, .p (.mv (.tmp 7))⟩,
                   ⟨(some 70), none, .p (.mv (.tmp 9))⟩,
                   ⟨(some 71), none, .p (.conv .i64 (.tmp 70))⟩,
                   ⟨(some 72), none, .p (.ibin .add (.tmp 69) (.tmp 71))⟩,
                   ⟨(some 7), none, .p (.mv (.tmp 72))⟩])))))
            (.region [⟨(some 73), none, .p (.ibin .add (.tmp 44) (.const (.int .i64 1)))⟩,
               ⟨(some 44), none, .p (.mv (.tmp 73))⟩])))))))
      (.seq
       (.region [⟨(some 74), none, .p (.mv (.tmp 5))⟩,
          ⟨(some 75), none, .w (.call 11 [(.tmp 74), (.const (.int .i64 0))])⟩,
          ⟨(some 76), none, .p (.ibin .eql (.tmp 75) (.const (.int .i64 1)))⟩,
          ⟨(some 77), none, .p (.mv (.tmp 0))⟩,
          ⟨(some 78), none, .p (.mv (.tmp 7))⟩,
          ⟨(some 79), none, .p (.ibin .leq (.tmp 77) (.tmp 78))⟩,
          ⟨(some 80), none, .p (.eqb false (.tmp 76) (.tmp 79))⟩,
          ⟨(some 81), none, .p (.mv (.tmp 80))⟩,
          ⟨(some 82), (some (81, true)), .p (.mv (.tmp 5))⟩,
          ⟨(some 83), (some (81, true)), .w (.call 10 [(.tmp 82), (.const (.int .i64 0)), (.const (.int .u64 0))])⟩,
          ⟨(some 84), (some (81, true)), .p (.ibin .eql (.tmp 83) (.const (.int .i64 0)))⟩,
          ⟨(some 85), (some (81, true)), .p (.mv (.tmp 0))⟩,
          ⟨(some 86), (some (81, true)), .p (.mv (.tmp 7))⟩,
          ⟨(some 87), (some (81, true)), .p (.ibin .leq (.tmp 85) (.tmp 86))⟩,
          ⟨(some 88), (some (81, true)), .p (.eqb false (.tmp 84) (.tmp 87))⟩,
          ⟨(some 89), none, .p (.pick (.tmp 81) (.tmp 88) (.const (.bool false)))⟩,
          ⟨(some 90), none, .p (.mv (.tmp 89))⟩,
          ⟨(some 91), (some (90, true)), .p (.mv (.tmp 5))⟩,
          ⟨(some 92), (some (90, true)), .w (.call 13 [(.tmp 91)])⟩,
          ⟨(some 93), (some (90, true)), .p (.mv (.tmp 0))⟩,
          ⟨(some 94), (some (90, true)), .p (.mv (.tmp 7))⟩,
          ⟨(some 95), (some (90, true)), .p (.ibin .leq (.tmp 93) (.tmp 94))⟩,
          ⟨(some 96), (some (90, true)), .p (.eqb false (.tmp 92) (.tmp 95))⟩,
          ⟨(some 97), none, .p (.pick (.tmp 90) (.tmp 96) (.const (.bool false)))⟩,
          ⟨(some 4), none, .p (.mv (.tmp 97))⟩])
       .ret)))
theorem slPost_eq : slPost = slPostX := by kernel_rfl
theorem slOk : okC slPre = true := by kernel_rfl

theorem sl_code : a3.code = .seq (fstSeq a3.code) (.seq (fstSeq (sndSeq a3.code)) (.seq (fstSeq (sndSeq (sndSeq a3.code))) slPost)) := by kernel_rfl

theorem sl_split (P : Program) (Q : AExit → Env → Heap → Prop) : wpA P a3.code Q = wpA P (.seq slPre slPostX) Q := by
  rw [sl_code, ← slPost_eq]
  unfold slPre
  rw [wpA_assoc]
  generalize fstSeq a3.code = a
  show wpA P a (thenA (wpA P (.seq _ (.seq _ slPost)) Q) Q) = wpA P a (thenA (wpA P (.seq (.seq _ _) slPost) Q) Q)
  rw [wpA_assoc]

-- numbers

theorem slX_i64 (ticks : Int) (h0 : -9223372036854775808 ≤ ticks) (h1 : ticks ≤ 9223372036854775807) : slT ticks = ticks := by
  unfold slT slX
  rw [wrapF_eq, wrapF_eq]
  simp only [IntKind.wrap, IntKind.bits, IntKind.signed]
  simp
  omega

theorem slU_pos (ticks : Int) (h0 : 0 < ticks) (h1 : ticks ≤ 9223372036854775807) : slU ticks = if ticks ≤ 1099511627776 then ticks else 1099511627776 := by
  unfold slU
  rw [slX_i64 ticks (by omega) h1, wrapF_eq, wrapF_eq, wrap_u64 ticks (by omega) (by omega)]
  have e : Int.add 0 (mnI ticks 1099511627776) = mnI ticks 1099511627776 := Int.zero_add _
  rw [e]
  unfold mnI
  split
  · rw [wrap_u64 _ (by omega) (by omega)]; split <;> split <;> omega
  · rw [wrap_u64 _ (by omega) (by omega)]; split <;> split <;> omega

theorem slC_add (c n : Int) (h0 : 0 ≤ c) (h1 : 0 ≤ n) (h2 : n ≤ 255) (h3 : c + n ≤ 1099511627776) : slC c n = c + n := by
  unfold slC mnI
  rw [wrapF_eq]
  have e : Int.add c (if 1099511627776 < n then 1099511627776 else n) = c + n := by rw [if_neg (by omega)]; rfl
  rw [e, wrap_u64 _ (by omega) (by omega), if_neg (by omega)]

theorem img0 (H : Heap) (b : Nat) (o : List (Nat × Bool)) : Img [(b, 0)] ⟨.node none .nil .nil, 1, 0, o, []⟩ H where
  next := rfl
  has := fun i w B h => by
    have : (Tr.node none Tr.nil Tr.nil : Tr B2).get i = none := by
      rw [Tr.get_node, Tr.get_nil, Tr.get_nil]; cases Nat.beq i 0 <;> cases Nat.beq (i % 2) 1 <;> rfl
    rw [this] at h; cases h
  inj := fun i j B C r k l h => by
    have : (Tr.node none Tr.nil Tr.nil : Tr B2).get i = none := by
      rw [Tr.get_node, Tr.get_nil, Tr.get_nil]; cases Nat.beq i 0 <;> cases Nat.beq (i % 2) 1 <;> rfl
    rw [this] at h; cases h

/-- Up to the loop. -/
theorem sl_pre {ticks : Int} (h0 : -9223372036854775808 ≤ ticks) (h1 : ticks ≤ 9223372036854775807) {v1 v1' : Value} {b : Nat} (hv : VR [(b, 0)] v1 v1') (H : Heap) {Q : AExit → Env → Heap → Prop}
    (hQ : ∀ σ ρ H' st u sl, Ro H H' → ρ 0 = .int .i64 ticks → ρ 1 = v1' → VR σ slD (ρ 5) → Sl σ none (slX ticks) st u sl 0 H' → ((st = 1 ∧ sl = false ∧ ticks ≤ 0) ∨ (st = 2 ∧ sl = true ∧ 0 < ticks ∧ u = slU ticks)) → Q .normal ρ H') :
    wpA Try.prog slPre Q (envOf [.int .i64 ticks, v1']) H := by
  have hs : sameV (slIns ticks) (slIns ticks) = true := by simp [slIns, sameV, sameLs, sameL]
  have fin : ∀ (bb : Bool) (st u : Int) (sl : Bool), slRun none v1 ticks bb = some (.normal, [(0, .int .i64 ticks), (1, v1), (5, .pointer (some ⟨95, 0, none⟩))], slL none (slX ticks) st u sl 0, 164, slOb ticks bb) → intLe (slT ticks) 0 = bb →
      ((st = 1 ∧ sl = false ∧ ticks ≤ 0) ∨ (st = 2 ∧ sl = true ∧ 0 < ticks ∧ u = slU ticks)) → wpA Try.prog slPre Q (envOf [.int .i64 ticks, v1']) H := by
    intro bb st u sl hrun hbb hcase
    obtain ⟨ρ, g1, g2⟩ := obind_some hrun
    have ha : VRs [(b, 0)] [.int .i64 ticks, v1] [.int .i64 ticks, v1'] := .cons _ _ _ _ (.int _ _) (.cons _ _ _ _ hv .nil)
    refine wpA_mono slPre _ _ _ _ ?_ (wpA_ro slPre _ _ _ (Ro.refl H) (code_keep tbl_ok slOk g2 ?_ (sl_cut rfl _ _ _ _ _) (fill_env (fillF_some g1) ha) (img0 H b _) [] (Q := fun e ρ H' => e = .normal ∧ ∃ σ, ρ 0 = .int .i64 ticks ∧ ρ 1 = v1' ∧ VR σ slD (ρ 5) ∧ Sl σ none (slX ticks) st u sl 0 H') ?_))
    · rintro e ρ2 H2 ⟨hro, rfl, σ, q1, q2, q3, q4⟩
      exact hQ σ ρ2 H2 st u sl hro q1 q2 q3 q4 hcase
    · intro p hp
      simp only [slOb, List.mem_cons, List.not_mem_nil, or_false] at hp
      rcases hp with rfl | rfl
      · rw [hbb]
      · rw [hs]; rfl
    · intro σ' ρ2 H2 hx ht hi
      have t0 := ht 0 _ (List.mem_cons_self ..)
      have t1 := ht 1 v1 (List.mem_cons_of_mem _ (List.mem_cons_self ..))
      have t5 := ht 5 _ (List.mem_cons_of_mem _ (List.mem_cons_of_mem _ (List.mem_cons_self ..)))
      exact ⟨rfl, σ', VR.det t0 (.int _ _), VR.det t1 (hv.ext hx), t5, hi⟩
  have e1 := sl_awake none v1 ticks
  have e2 := sl_asleep none v1 ticks
  by_cases ht : ticks ≤ 0
  · have e3 : intLe (slT ticks) 0 = true := by rw [intLe_eq, slX_i64 ticks h0 h1]; exact decide_eq_true ht
    exact fin true 1 0 false e1 e3 (.inl ⟨rfl, rfl, ht⟩)
  · have e3 : intLe (slT ticks) 0 = false := by rw [intLe_eq, slX_i64 ticks h0 h1]; exact decide_eq_false ht
    exact fin false 2 (slU ticks) true e2 e3 (.inr ⟨rfl, rfl, Int.not_le.1 ht, rfl⟩)
end Go.Am.Try
