/- IdealFloats: from the runs to the statement: 'treadlelaw18.IdealFloats' returns true for every input, and what it was given reads behind the call as before. No condition. -/
import Derived.Test.YtmephnenbboecaaRows
import Derived.Test.YtmephnenbboecaaFlS
import Derived.Test.YtmephnenbboecaaAmR
set_option maxRecDepth 100000
set_option linter.unusedVariables false
set_option linter.unusedSimpArgs false
namespace Go.Am.Try
open Go.Proofs Go.Am Go.Am.Fl

theorem flOb_ok (op : BinOp) (x y : Int) (b : Bool) (hb : isN (fAr op x y).toNat = b) : ∀ p ∈ flOb op x y b, p.1 = .bool p.2 := by
  have hs : ∀ a x : Int, sameV (flIns a x) (flIns a x) = true := fun a x => by simp [flIns, sameV, sameLs, sameL]
  have hev : ∀ a : Int, flEv a a = .bool false := fun a => by simp [flEv, intEq_eq, bsel]
  have hr := fAr_range op x y
  intro p hp
  simp only [flOb, List.mem_cons, List.not_mem_nil, or_false] at hp
  rcases hp with rfl | rfl | rfl | rfl | rfl | rfl | rfl
  · simp only [fToI_can, hev]
  · simp only [fAr_can, hev]
  · simp only [fAr_can, hev]
  · simp only [fAr_can, fEq_self, hb]
  · simp only [hs, Bool.and_self]
  · simp only [hs, Bool.and_self]
  · simp only [intEq_eq, clsG_eq _ hr.1 hr.2]
    congr 1
    cases b with
    | true => simpa using (cls_nan _ hr.1 hr.2).2 hb
    | false =>
      have : ¬ fCls (fAr op x y) = 4 := fun h => by rw [(cls_nan _ hr.1 hr.2).1 h] at hb; cases hb
      simpa using this

theorem ab_rem4 (k : IntKind) (a : Int) : abin .rem (.int k a) (.int k 4) = some (.int k (a.tmod 4)) := by simp [abin]

theorem fl_code : a4.code = .seq (.region [⟨(some 6), none, .p (.mv (.const (.bool false)))⟩]) (.seq (.region [⟨(some 11), none, .p (.mv (.tmp 0))⟩, ⟨(some 12), none, .p (.ibin .rem (.tmp 11) (.const (.int .u8 4)))⟩, ⟨(some 13), none, .p (.conv .i64 (.tmp 12))⟩, ⟨(some 14), none, .p (.ibin .add (.const (.int .i64 15)) (.tmp 13))⟩, ⟨(some 7), none, .p (.mv (.tmp 14))⟩]) flC) := rfl

theorem okFl : okC flC = true := by kernel_rfl

/-- (The code is a variable here, so that nothing unfolds it.) -/
theorem flRun_use {c : ACode} (hc : c = flC) {op j x y : Int} {orc : List (Nat × Bool)} {ob : List (Value × Bool)} (hob : ∀ p ∈ ob, p.1 = .bool p.2) (h : flRun op j x y orc = some (.bool true, ob)) (H : Heap) :
    wpA Try.prog c (retK a4.res fun v _ => v = .bool true) ((flL op j).foldl (fun e p => e.set p.1 p.2) (envOf [.int .u8 op, .int .u64 x, .int .u64 y])) H := by
  unfold flRun at h
  rw [← hc] at h
  have okc : okC c = true := by rw [hc]; exact okFl
  have hh : ([Value.int .u8 op, .int .u64 x, .int .u64 y] : List Value).all leafB = true := rfl
  have hl : ((flL op j).all fun p => leafB p.2) = true := rfl
  exact @wp_of_runO Try.prog extF tbl tblF_ok 100000 50 c okc a4.res [.int .u8 op, .int .u64 x, .int .u64 y] (flL op j) hh hl orc ob hob h H

theorem fl_key {c : ACode} (hc : c = flC) {bop : BinOp} {op j x y : Int} {o1 o2 : List (Nat × Bool)} (e1 : flRun op j x y o1 = some (.bool true, flOb bop x y false)) (e2 : flRun op j x y o2 = some (.bool true, flOb bop x y true)) (H : Heap) :
    wpA Try.prog c (retK a4.res fun v _ => v = .bool true) ((flL op j).foldl (fun e p => e.set p.1 p.2) (envOf [.int .u8 op, .int .u64 x, .int .u64 y])) H := by
  by_cases hb : isN (fAr bop x y).toNat = true
  · exact flRun_use hc (flOb_ok bop x y true hb) e2 H
  · exact flRun_use hc (flOb_ok bop x y false (by simpa using hb)) e1 H

theorem fl_post {c : ACode} (hc : c = flC) (op j x y : Int) (hj0 : 0 ≤ j) (hj1 : j < 4) (H : Heap) :
    wpA Try.prog c (retK a4.res fun v _ => v = .bool true) ((flL op j).foldl (fun e p => e.set p.1 p.2) (envOf [.int .u8 op, .int .u64 x, .int .u64 y])) H := by
  have hj : j = 0 ∨ j = 1 ∨ j = 2 ∨ j = 3 := by omega
  rcases hj with rfl | rfl | rfl | rfl
  · exact fl_key hc (fl_run00 op x y) (fl_run01 op x y) H
  · exact fl_key hc (fl_run10 op x y) (fl_run11 op x y) H
  · exact fl_key hc (fl_run20 op x y) (fl_run21 op x y) H
  · exact fl_key hc (fl_run30 op x y) (fl_run31 op x y) H

theorem floats_calls (op x y : Int) (h0 : 0 ≤ op) (h1 : op ≤ 255) (H : Heap) : ACalls Try.prog 4 [.int .u8 op, .int .u64 x, .int .u64 y] H fun v _ => v = .bool true := by
  refine acalls_of_wp mixT callable4 comp4 (by simp [a4]) ?_
  have hk0 : 0 ≤ op.tmod 4 := by rw [Int.tmod_eq_emod_of_nonneg h0]; omega
  have hk1 : op.tmod 4 < 4 := by rw [Int.tmod_eq_emod_of_nonneg h0]; omega
  have hw : IntKind.i64.wrap (op.tmod 4) = op.tmod 4 := wrap_i64 _ (by omega) (by omega)
  have hr : abin .rem (.int .u8 op) (.int .u8 4) = some (.int .u8 (op.tmod 4)) := ab_rem4 _ _
  rw [fl_code]
  generalize hc : flC = c
  have hp := fl_post hc.symm op (op.tmod 4) x y hk0 hk1 H
  generalize hk : op.tmod 4 = k at *
  simp -implicitDefEqProofs (disch := first | omega | (simp only [List.length_cons, List.length_nil]; omega) | rfl | assumption) only [wp_skip', wp_ret', wp_exit', wp_seq', wp_block', wp_region', wp_draw', wp_cond', wp_loop', kSeq_n, kSeq_r, kSeq_e, kBlk_n, kBlk_r, kBlk_e, kN_app, condK_t, condK_f, kOps_app, kDr_app, kDw_nil, kDw_cons, lookP_nil, lookP_cons, isLoad1, isLoadN, ops_nil, ops_cons, ops_g, guardA_t, guardA_f, guardD_t, guardD_f, wantV_b, wantV_u, dr_nil, dr_p, dr_r1, dr_rN, dr_w, dr_g, kDr1_app, kDrN_app, act_p, act_r1, act_rN, act_alloc, act_box, act_st1, act_call, act_app, act_cpy, pv_mv, pv_pick, pv_nilck, pv_ibin, pv_eqb, pv_eqp, pv_eqsl, pv_eqfn, pv_eqi, pv_not, pv_conv, pv_fieldA, pv_idxArr, pv_idxSl, pv_part, pv_extract, pv_build, pv_slc, pv_len, pv_min, pv_max, pv_mkfn, evp_nil, evp_cons, fillL_nil, fillL_one, fillL_agg, aggOf_some, bslK_some, act_bslK, act_mkslK, mksl_ok, act_callvK, callvK_fn, act_stNK, stN_ptr, stNK_agg, st1_ptr, st1K_some, ld1_ptr, ld1K_some, ldN_ptr, ldNK_some, row_same, row_ne, getRow_same, getRow_ne, repl_0, repl_s, one_int, one_bool, one_ptr, one_sl, all_nil, all_cons, Bool.and_self, Bool.true_and, Bool.and_true, true_and, and_true, List.set_cons_zero, List.set_cons_succ, spliceL, List.take_succ_cons, List.take_zero, List.drop_succ_cons, List.drop_zero, List.nil_append, valK_some, ev_t, ev_c, put_s, put_n, envSet_app, envOf_0, envOf_s, nilck_ptr, fieldA_ok, len_sl, pick_t, pick_f, not_b, conv_i, ext_0, ext_1, ext_2, eqp_n, eqp_s, eqb_b, min_i, max_i, part_1, part_n, ab_add, ab_sub, ab_mul, ab_eql, ab_neq, ab_lss, ab_leq, ab_gtr, ab_geq, wrap_i64, wrap_u64, kLoop_n, kLoop_r, kLoop_e, retK, resV, resVals, ARes.val, ↓reduceIte, Nat.reduceEqDiff, Nat.reduceAdd, Nat.reduceMul, Nat.reduceLT, Nat.zero_add, Nat.add_zero, Nat.mul_one, Int.toNat_natCast, List.getElem?_cons_zero, List.getElem?_cons_succ, List.map_cons, List.map_nil, List.cons_append, List.nil_append, Bool.not_true, Bool.not_false, reduceCtorEq, decide_true, decide_false, Option.map_some, Option.map_none, List.size_toArray, List.length_cons, List.length_nil, bne_self_eq_false, BEq.rfl, Bool.true_bne, Bool.false_bne, Bool.true_beq, Bool.false_beq, Bool.false_eq_true, Int.reduceBEq, Int.reduceBNe, Int.reduceLT, Int.reduceLE, Nat.reduceBEq, Int.reduceAdd, Int.reduceSub, Int.reduceMul, Int.reduceNeg, hr, hw]
  exact hp
end Go.Am.Try

namespace Go.Proofs.Ytmephnenbboecaa
open Go.ChangeShapes Go.WideShapes Go.ChangeAt Go.RowKit Go.Am
theorem ownF : ownKnob Try.prog.godebug = none := by kernel_rfl

theorem fl_pos (t : TypeId) (h : t ∈ Try.f4.params.toList) : ∀ n, posT Try.prog n t = true := by
  rw [Try.params4] at h
  simp only [List.mem_cons, List.not_mem_nil, or_false] at h
  intro n
  cases n with
  | zero => rfl
  | succ n => rcases h with rfl | rfl | rfl <;> simp [posT, Try.underlying5, Try.underlying35]

set_option maxRecDepth 100000 in
theorem floats_lifted (os : Os) (started : os.Started) (H : Type) (enc : TypeId × Value → H) :
    ReturnsInHanded {} Try.checked os 4 .any (Rows.idealFloatsSpec.pre6 enc Try.prog Try.f4 Rows.idealFloatsRow.domain false) (Rows.idealFloatsSpec.post enc Try.prog Try.f4 false true false false) := by
  refine returnsInHanded_of_change (C := Try.checked) ownF started (by kernel_rfl) Try.func4
    (ChangeSpec.witness6 (enc := enc) (C := Try.checked) false ⟨#[], #[.int .u8 0, .int .u64 0, .int .u64 0], []⟩ 8 (by kernel_rfl) (by kernel_rfl) (by kernel_rfl) (by kernel_rfl)) ?_
  intro W base args ds gs before hval hW hcnd _
  have hW' := hW
  obtain ⟨p, q, hA0, hV, rfl, hfz, hnd⟩ := hW
  have hA : DataW.TrodAll enc Try.prog W 0 (fun _ => true) true Try.f4.params.toList args.toList ds p := hA0
  rw [Try.params4] at hA hval
  obtain ⟨v0, vs0, d0, ds0, p0, q0, hargs, rfl, rfl, h0, r0⟩ := trodAll_cons hA
  obtain ⟨v1, vs1, d1, ds1, p1, q1, rfl, rfl, rfl, h1, r1⟩ := trodAll_cons r0
  obtain ⟨v2, vs2, d2, ds2, p2, q2, rfl, rfl, rfl, h2, r2⟩ := trodAll_cons r1
  obtain ⟨rfl, rfl, rfl⟩ := trodAll_nil r2
  obtain rfl : args = #[v0, v1, v2] := by cases args; simp_all
  obtain ⟨rfl, rfl⟩ := trodVars_none hV
  obtain ⟨a0, rfl, rfl, rfl, w0⟩ := open_int Try.underlying5 (hval 0 5 v0 rfl rfl) h0
  obtain ⟨a1, rfl, rfl, rfl, w1⟩ := open_int Try.underlying35 (hval 1 35 v1 rfl rfl) h1
  obtain ⟨a2, rfl, rfl, rfl, w2⟩ := open_int Try.underlying35 (hval 2 35 v2 rfl rfl) h2
  have hb : 0 ≤ a0 ∧ a0 ≤ 255 := by
    simpa [Lit.wf, IntKind.min, IntKind.max, IntKind.bits, IntKind.signed] using w0
  refine ((Go.Am.Try.floats_calls a0 a1 a2 hb.1 hb.2 (inH W)).2 W (fits_inH W)).mono ?_
  rintro e W' ⟨u, H', rfl, rfl, _, ht⟩
  exact ⟨_, rfl, post_true Try.underlying4 rfl rfl fl_pos hW' rfl ht.inH⟩

theorem idealFloats_proved : Rows.IdealFloatsSaid :=
  OpenClaim.holds_of_wide 4 Try.f4 rfl rfl rfl rfl rfl rfl rfl ⟨rfl, rfl, rfl, rfl, rfl⟩ rfl rfl rfl rfl rfl (by kernel_rfl) Try.func4 (by kernel_rfl)
    (of_decide_eq_true (by kernel_rfl)) (by unfold Func.isWrapper; first | (rw [if_pos (by decide +kernel)]; kernel_rfl) | (rw [if_neg (by decide +kernel)]; exact ⟨rfl, rfl⟩))
    (fun os started H enc _ => floats_lifted os started H enc)
end Go.Proofs.Ytmephnenbboecaa
