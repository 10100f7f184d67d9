/- IdealSleeps: 'treadlelaw18.IdealSleeps' returns true for every input, and what it was given reads behind the call as before: where the arguments hold together at most 1048576 values and letters. -/
import Derived.Test.YtmephnenbboecaaRows
import Derived.Test.YtmephnenbboecaaSlN
import Derived.Test.YtmephnenbboecaaAmR
import Derived.JoinedCond
set_option linter.unusedVariables false
namespace Go.Proofs.Ytmephnenbboecaa
open Go.ChangeShapes Go.WideShapes Go.ChangeAt Go.RowKit Go.Am

theorem ownS : ownKnob Try.prog.godebug = none := by kernel_rfl

theorem bulk_one {H : Type} (d : DataW H) : 1 ≤ Rows.uptoBulk d := by
  cases d with
  | lit l => cases l <;> simp [Rows.uptoBulk]
  | nil => simp [Rows.uptoBulk]
  | ptr d => simp [Rows.uptoBulk]
  | slice elems spare => simp [Rows.uptoBulk]
  | agg parts => simp [Rows.uptoBulk]
  | iface t d => simp [Rows.uptoBulk]
  | map entries => simp [Rows.uptoBulk]
  | held h => simp [Rows.uptoBulk]

theorem bulk_len {H : Type} : ∀ l : List (DataW H), l.length ≤ Rows.uptoBulkAll l
  | [] => by simp [Rows.uptoBulkAll]
  | d :: l => by
    have h1 := bulk_one d
    have h2 := bulk_len l
    simp only [Rows.uptoBulkAll, List.length_cons]; omega

theorem bulk_slice {H : Type} {d0 : DataW H} {elems spare : List (DataW H)} (hk : Rows.uptoSmall H [d0, .slice elems spare] = true) : elems.length ≤ 1048576 := by
  have h : Rows.uptoBulkAll [d0, DataW.slice elems spare] ≤ 1048576 := of_decide_eq_true hk
  have h1 := bulk_len elems
  simp only [Rows.uptoBulkAll, Rows.uptoBulk] at h
  omega

theorem cells5 : Try.prog.cellsOf 5 = 1 := by kernel_rfl
theorem sl_params : Try.f3.params = #[3, 22] := Try.params3
theorem sl_pos (t : TypeId) (h : t ∈ Try.f3.params.toList) : ∀ n, posT Try.prog n t = true := by
  rw [sl_params] at h
  simp only [List.mem_cons, List.not_mem_nil, or_false] at h
  rcases h with rfl | rfl
  · intro n; cases n with
    | zero => rfl
    | succ n => simp only [posT, Try.underlying3]
  · intro n; cases n with
    | zero => rfl
    | succ n =>
      simp only [posT, Try.underlying22, cells5]
      cases n with
      | zero => rfl
      | succ n => simp [posT, Try.underlying5]

set_option maxRecDepth 100000 in
theorem sleeps_contract (H : Type) (enc : TypeId × Value → H) (W : World) (base : Nat) (args : Array Value) (ds gs : List (DataW H)) (before : List MemPlace)
    (hval : ∀ (j : Nat) t v, Try.f3.params[j]? = some t → args[j]? = some v → Value.okWide Try.prog W .any base t v)
    (hW : DataW.Whole enc Try.prog Try.f3.params.toList Rows.idealSleepsSpec.vars false W args.toList ds gs before) (hk : Rows.uptoSmall H (ds ++ gs) = true) :
    Calls Try.prog 3 args W fun e W' => ∃ v, e = .returned v ∧ Rows.idealSleepsSpec.post enc Try.prog Try.f3 false true false false W args v W' := by
  have hW' := hW
  obtain ⟨p, q, hA0, hV, rfl, hfz, hnd⟩ := hW
  have hA : DataW.TrodAll enc Try.prog W 0 (fun _ => true) true Try.f3.params.toList args.toList ds p := hA0
  rw [sl_params] at hA hval
  obtain ⟨v0, vs0, d0, ds0, p0, q0, hargs, rfl, rfl, h0, r0⟩ := trodAll_cons hA
  obtain ⟨v1, vs1, d1, ds1, p1, q1, rfl, rfl, rfl, h1, r1⟩ := trodAll_cons r0
  obtain ⟨rfl, rfl, rfl⟩ := trodAll_nil r1
  obtain rfl : args = #[v0, v1] := by cases args; simp_all
  obtain ⟨rfl, rfl⟩ := trodVars_none hV
  obtain ⟨a0, rfl, rfl, rfl, w0⟩ := open_int Try.underlying3 (hval 0 3 v0 rfl rfl) h0
  simp only [List.append_nil] at hk
  obtain ⟨zs, hrd, hz, hsh, elems, spare, hel, hds⟩ := rdR_ints Try.underlying22 Try.underlying5 cells5 (hval 1 22 v1 rfl rfl) h1 (fun elems spare hd => by
    subst hd; have := bulk_slice hk; omega)
  have hlen : zs.length ≤ 1048576 := by
    rcases hds with rfl | rfl
    · have := bulk_slice hk; omega
    · simp
  have hb : -9223372036854775808 ≤ a0 ∧ a0 ≤ 9223372036854775807 := by
    simpa [Lit.wf, IntKind.min, IntKind.max, IntKind.bits, IntKind.signed] using w0
  have hz' : ∀ z ∈ zs, 0 ≤ z ∧ z ≤ 255 := fun z hzz => by
    simpa [Lit.wf, IntKind.min, IntKind.max, IntKind.bits, IntKind.signed] using hz z hzz
  have hv : ∃ (b : Nat) (v : Value), VR [(b, 0)] v v1 := by
    rcases hsh with ⟨rfl, _⟩ | ⟨b, o, n, c, rfl⟩
    · exact ⟨0, _, .nils 0 0⟩
    · exact ⟨b, _, .sl 0 o n c b 0 rfl⟩
  obtain ⟨b, v, hv⟩ := hv
  refine ((Go.Am.Try.sleeps_calls hb.1 hb.2 hz' hlen hrd hv).2 W (fits_inH W)).mono ?_
  rintro e W' ⟨u, H', rfl, rfl, _, ht⟩
  exact ⟨_, rfl, post_true Try.underlying4 rfl rfl sl_pos hW' rfl ht.inH⟩

set_option maxRecDepth 100000 in
theorem sleeps_lifted (os : Os) (started : os.Started) (H : Type) (enc : TypeId × Value → H) (F : Stop.Interp) :
    ReturnsInHanded {} Try.checked os 3 .any ((Rows.OpenSpec.upto Rows.idealSleepsSpec).pre6 enc Try.prog Try.f3 Rows.idealSleepsUptoRow.domain false) (((Rows.OpenSpec.upto Rows.idealSleepsSpec).at F).post enc Try.prog Try.f3 false true false false) := by
  refine returnsInHanded_of_cond (C := Try.checked) (s := Rows.OpenSpec.upto Rows.idealSleepsSpec) (k := Rows.uptoSmall) rfl ownS started (by kernel_rfl) Try.func3
    (OpenSpec.witness (enc := enc) (C := Try.checked) (s := Rows.OpenSpec.upto Rows.idealSleepsSpec) (k := Rows.uptoSmall) rfl false ⟨#[], #[.int .i64 0, .slice none 0 0], []⟩ 8 (by kernel_rfl) (by kernel_rfl) (by kernel_rfl)
      (x := ([.lit (.int .i64 0), .nil], [], [])) (by kernel_rfl) rfl (by kernel_rfl)) ?_
  intro W base args ds gs before hval hW _ hk _
  exact sleeps_contract H enc W base args ds gs before hval hW hk

theorem idealSleeps_proved : Rows.IdealSleepsUptoSaid :=
  OpenClaim.holds_of_cond 3 Try.f3 rfl rfl rfl rfl rfl rfl rfl ⟨rfl, rfl, rfl, rfl, rfl⟩ rfl rfl rfl rfl rfl (by kernel_rfl) Try.func3 (by kernel_rfl)
    (of_decide_eq_true (by kernel_rfl)) (by unfold Func.isWrapper; first | (rw [if_pos (by decide +kernel)]; kernel_rfl) | (rw [if_neg (by decide +kernel)]; exact ⟨rfl, rfl⟩))
    (fun os started H enc _ F => sleeps_lifted os started H enc F)
end Go.Proofs.Ytmephnenbboecaa
