/- IdealReach: from the runs to the statement: 'treadlelaw18.IdealReach' returns true for every input, and what it was given reads behind the call as before. No condition. -/
import Derived.Test.YtmephnenbboecaaRows
import Derived.Test.YtmephnenbboecaaRcA
import Derived.Test.YtmephnenbboecaaRcB
import Derived.Test.YtmephnenbboecaaRcC
import Derived.Test.YtmephnenbboecaaRcD
import Derived.Test.YtmephnenbboecaaRcE
import Derived.Test.YtmephnenbboecaaRcF
import Derived.Test.YtmephnenbboecaaRcG
import Derived.Test.YtmephnenbboecaaRcH
import Derived.Test.YtmephnenbboecaaRcI
import Derived.Test.YtmephnenbboecaaRcJ
import Derived.WalkKit
import Derived.ProofKit
import Derived.OpenShut
import Derived.Below
set_option linter.unusedVariables false
set_option linter.unusedSimpArgs false
namespace Go.Am.Try
open Go.Proofs Go.Am

theorem ab_rem (k : IntKind) (a b : Int) (h : b ≠ 0) : abin .rem (.int k a) (.int k b) = some (.int k (a.tmod b)) := by simp [abin, h]

theorem reach_all (n : Int) (k : Int) (h0 : 0 ≤ k) (h1 : k < 30) : reachRun n k = true := by
  obtain ⟨m, rfl⟩ := Int.eq_ofNat_of_zero_le h0
  have h2 : m < 30 := by omega
  match m, h2 with
  | 0, _ => exact reach_run0 n
  | 1, _ => exact reach_run1 n
  | 2, _ => exact reach_run2 n
  | 3, _ => exact reach_run3 n
  | 4, _ => exact reach_run4 n
  | 5, _ => exact reach_run5 n
  | 6, _ => exact reach_run6 n
  | 7, _ => exact reach_run7 n
  | 8, _ => exact reach_run8 n
  | 9, _ => exact reach_run9 n
  | 10, _ => exact reach_run10 n
  | 11, _ => exact reach_run11 n
  | 12, _ => exact reach_run12 n
  | 13, _ => exact reach_run13 n
  | 14, _ => exact reach_run14 n
  | 15, _ => exact reach_run15 n
  | 16, _ => exact reach_run16 n
  | 17, _ => exact reach_run17 n
  | 18, _ => exact reach_run18 n
  | 19, _ => exact reach_run19 n
  | 20, _ => exact reach_run20 n
  | 21, _ => exact reach_run21 n
  | 22, _ => exact reach_run22 n
  | 23, _ => exact reach_run23 n
  | 24, _ => exact reach_run24 n
  | 25, _ => exact reach_run25 n
  | 26, _ => exact reach_run26 n
  | 27, _ => exact reach_run27 n
  | 28, _ => exact reach_run28 n
  | 29, _ => exact reach_run29 n
  | m + 30, h => omega

theorem reach_code : a6.code = .seq (.region [⟨(some 2), none, .p (.mv (.const (.bool false)))⟩]) (.seq (.region [⟨(some 11), none, .p (.mv (.tmp 0))⟩, ⟨(some 12), none, .p (.ibin .rem (.tmp 11) (.const (.int .u8 30)))⟩, ⟨(some 13), none, .p (.conv .i64 (.tmp 12))⟩, ⟨(some 3), none, .p (.mv (.tmp 13))⟩]) reachC) := rfl

theorem reach_calls (n : Int) (h0 : 0 ≤ n) (h1 : n ≤ 255) (H : Heap) : ACalls Try.prog 6 [.int .u8 n] H fun v _ => v = .bool true := by
  refine acalls_of_wp mixT callable6 comp6 (by simp [a6]) ?_
  have hk0 : 0 ≤ n.tmod 30 := by rw [Int.tmod_eq_emod_of_nonneg h0]; omega
  have hk1 : n.tmod 30 < 30 := by rw [Int.tmod_eq_emod_of_nonneg h0]; omega
  have hw : IntKind.i64.wrap (n.tmod 30) = n.tmod 30 := wrap_i64 _ (by omega) (by omega)
  have hr : abin .rem (.int .u8 n) (.int .u8 30) = some (.int .u8 (n.tmod 30)) := ab_rem _ _ _ (by decide)
  rw [reach_code]
  generalize hk : n.tmod 30 = k at *
  simp -implicitDefEqProofs (disch := first | omega | (simp only [List.length_cons, List.length_nil]; omega) | rfl | assumption) only [wp_skip', wp_ret', wp_exit', wp_seq', wp_block', wp_region', wp_draw', wp_cond', wp_loop', kSeq_n, kSeq_r, kSeq_e, kBlk_n, kBlk_r, kBlk_e, kN_app, condK_t, condK_f, kOps_app, kDr_app, kDw_nil, kDw_cons, lookP_nil, lookP_cons, isLoad1, isLoadN, ops_nil, ops_cons, ops_g, guardA_t, guardA_f, guardD_t, guardD_f, wantV_b, wantV_u, dr_nil, dr_p, dr_r1, dr_rN, dr_w, dr_g, kDr1_app, kDrN_app, act_p, act_r1, act_rN, act_alloc, act_box, act_st1, act_call, act_app, act_cpy, pv_mv, pv_pick, pv_nilck, pv_ibin, pv_eqb, pv_eqp, pv_eqsl, pv_eqfn, pv_eqi, pv_not, pv_conv, pv_fieldA, pv_idxArr, pv_idxSl, pv_part, pv_extract, pv_build, pv_slc, pv_len, pv_min, pv_max, pv_mkfn, evp_nil, evp_cons, fillL_nil, fillL_one, fillL_agg, aggOf_some, bslK_some, act_bslK, act_mkslK, mksl_ok, act_callvK, callvK_fn, act_stNK, stN_ptr, stNK_agg, st1_ptr, st1K_some, ld1_ptr, ld1K_some, ldN_ptr, ldNK_some, row_same, row_ne, getRow_same, getRow_ne, repl_0, repl_s, one_int, one_bool, one_ptr, one_sl, all_nil, all_cons, Bool.and_self, Bool.true_and, Bool.and_true, true_and, and_true, List.set_cons_zero, List.set_cons_succ, spliceL, List.take_succ_cons, List.take_zero, List.drop_succ_cons, List.drop_zero, List.nil_append, valK_some, ev_t, ev_c, put_s, put_n, envSet_app, envOf_0, envOf_s, nilck_ptr, fieldA_ok, len_sl, pick_t, pick_f, not_b, conv_i, ext_0, ext_1, ext_2, eqp_n, eqp_s, eqb_b, min_i, max_i, part_1, part_n, ab_add, ab_sub, ab_mul, ab_eql, ab_neq, ab_lss, ab_leq, ab_gtr, ab_geq, wrap_i64, wrap_u64, kLoop_n, kLoop_r, kLoop_e, retK, resV, resVals, ARes.val, ↓reduceIte, Nat.reduceEqDiff, Nat.reduceAdd, Nat.reduceMul, Nat.reduceLT, Nat.zero_add, Nat.add_zero, Nat.mul_one, Int.toNat_natCast, List.getElem?_cons_zero, List.getElem?_cons_succ, List.map_cons, List.map_nil, List.cons_append, List.nil_append, Bool.not_true, Bool.not_false, reduceCtorEq, decide_true, decide_false, Option.map_some, Option.map_none, List.size_toArray, List.length_cons, List.length_nil, bne_self_eq_false, BEq.rfl, Bool.true_bne, Bool.false_bne, Bool.true_beq, Bool.false_beq, Bool.false_eq_true, Int.reduceBEq, Int.reduceBNe, Int.reduceLT, Int.reduceLE, Nat.reduceBEq, Int.reduceAdd, Int.reduceSub, Int.reduceMul, Int.reduceNeg, hr, hw]
  exact wp_of_run tbl_ok (c := reachC) (by kernel_rfl) (args := [.int .u8 n]) (l := reachL n k) rfl rfl (reach_all n k hk0 hk1)
end Go.Am.Try

namespace Go.Proofs.Ytmephnenbboecaa
open Go.ChangeShapes Go.WideShapes Go.ChangeAt Go.RowKit Go.Am
set_option linter.unusedVariables false
theorem ownR : ownKnob Try.prog.godebug = none := by kernel_rfl

theorem reach_walk (a0 : Int) (w0 : (Lit.int .u8 a0).wf = true) (w : World) : Calls Try.prog 6 #[.int .u8 a0] w fun e w' => e = .returned (.bool true) ∧ Below w.heap.size w w' := by
  have hb : 0 ≤ a0 ∧ a0 ≤ 255 := by
    simp [Lit.wf, IntKind.min, IntKind.max, IntKind.bits, IntKind.signed] at w0
    omega
  refine ((Go.Am.Try.reach_calls a0 hb.1 hb.2 (fun _ => none)).2 w (fits_none w)).mono ?_
  rintro e w' ⟨v, H', rfl, rfl, _, ht⟩
  exact ⟨rfl, ht.below⟩

set_option maxRecDepth 100000 in
theorem reach_lifted (os : Os) (started : os.Started) (H : Type) (enc : TypeId × Value → H) :
    ReturnsInHanded {} Try.checked os 6 .any (Rows.idealReachSpec.pre6 enc Try.prog Try.f6 Rows.idealReachRow.domain false) (Rows.idealReachSpec.post enc Try.prog Try.f6 false true false false) := by
  refine returnsInHanded_of_change (C := Try.checked) ownR started (by kernel_rfl) Try.func6
    (ChangeSpec.witness6 (enc := enc) (C := Try.checked) false ⟨#[], #[.int .u8 0], []⟩ 8 (by kernel_rfl) (by kernel_rfl) (by kernel_rfl) (by kernel_rfl)) ?_
  intro W base args ds gs before hval0 hW hcnd _
  have hval : ∀ (j : Nat) t v, Try.f6.params[j]? = some t → args[j]? = some v → Value.okWide Try.prog W .any base t v := hval0
  have hW' := hW
  obtain ⟨p, q, hA0, hV, rfl, hfz, hnd⟩ := hW
  have hA : DataW.TrodAll enc Try.prog W 0 (fun _ => true) true Try.f6.params.toList args.toList ds p := hA0
  rw [Try.params6] at hA hval
  obtain ⟨v0, vs0, d0, ds0, p0, q0, hargs, rfl, rfl, h0, r0⟩ := trodAll_cons hA
  obtain ⟨rfl, rfl, rfl⟩ := trodAll_nil r0
  obtain rfl : args = #[v0] := by cases args; simp_all
  obtain ⟨rfl, rfl⟩ := trodVars_none hV
  obtain ⟨a0, rfl, rfl, rfl, w0⟩ := open_int Try.underlying5 (hval 0 5 v0 rfl rfl) h0
  clear hA0 hval0
  refine (reach_walk a0 w0 W).mono fun e W' ⟨he, bel⟩ => ?_
  subst he
  exact ⟨_, rfl, _, _, _, [], _, [], hW', trodAll_mk1 (shut_bool Try.underlying4 _), (trodAll_cons_mk (shut_int Try.underlying5 w0) trodAll_mk0), rfl, bel.frame _, fun h => by cases h⟩

theorem idealReach_proved : Rows.IdealReachSaid :=
  OpenClaim.holds_of_wide 6 Try.f6 rfl rfl rfl rfl rfl rfl rfl ⟨rfl, rfl, rfl, rfl, rfl⟩ rfl rfl rfl rfl rfl (by kernel_rfl) Try.func6 (by kernel_rfl)
    (of_decide_eq_true (by kernel_rfl)) (by unfold Func.isWrapper; first | (rw [if_pos (by decide +kernel)]; kernel_rfl) | (rw [if_neg (by decide +kernel)]; exact ⟨rfl, rfl⟩))
    (fun os started H enc _ => reach_lifted os started H enc)
end Go.Proofs.Ytmephnenbboecaa
