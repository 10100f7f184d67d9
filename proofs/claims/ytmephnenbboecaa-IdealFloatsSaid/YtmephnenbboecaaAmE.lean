/- makes, stores, appends, copies and calls: the proofs that the model's operations do what the preconditions say. No condition. -/
import Derived.Test.YtmephnenbboecaaAmD
namespace Go.Am
section
variable {P : Program} {o : Oper} {ρ : Env} {H : Heap} {Q : Value → Heap → Prop}

theorem mk_mksl {t e : TypeId} {l c : Operand} {i : TypeInfo} {z : Value} (ho : o.op = .makeSlice t l c) (ht : P.underlying t = some (.slice e)) (hi : P.info? e = some i) (hz : i.zero = some z) (hs : z.cells.size = i.size)
    (h1 : allOne z.cells.toList = true) (h : (WExp.mksl e i.bytes z.cells.toList l c).wp P ρ H Q) : Mk P o ρ H Q := by
  simp only [WExp.wp] at h
  split at h
  · rename_i k1 l' k2 c' hl hc
    obtain ⟨h0, hlc, hb, hc47, h⟩ := h
    have wl : IntKind.i64.wrap l' = l' := by rw [IntKind.wrap_i64]; omega
    have wc : IntKind.i64.wrap c' = c' := by rw [IntKind.wrap_i64]; omega
    have hlb : l' * (i.bytes : Int) ≤ c' * (i.bytes : Int) := Int.mul_le_mul_of_nonneg_right hlc (by omega)
    have t1 : ¬ ((i.bytes : Int) * c' > 2 ^ 48) := by rw [Int.mul_comm]; omega
    have t2 : ¬ ((i.bytes : Int) * l' > 2 ^ 48) := by rw [Int.mul_comm]; omega
    refine mk_new (mk := fun b => .slice (some ⟨b, 0, none⟩) l'.toNat c'.toNat) (fun v hv => allOne_mem h1 v (mem_repl hv)) (fun w => ?_) h
    have hr := range_repl z.cells c'.toNat i.size hs
    have g1 : ¬ c' < 0 := by omega
    have g2 : ¬ l' < 0 := by omega
    have g3 : ¬ c' < l' := by omega
    have t1' : ¬ (281474976710656 < (i.bytes : Int) * c') := by omega
    by_cases hn : c'.toNat * i.size = 0
    · have hr0 : repl c'.toNat z.cells.toList = [] := by
        apply List.eq_nil_of_length_eq_zero
        rw [length_repl]; simpa [hs] using hn
      have e0 : Array.map (fun (_ : Nat) => (default : Value)) (Array.range 0) = #[] := by apply Array.ext'; simp
      simp [execOp, ho, hl, hc, Instr.makeSlice, run_underlying ht, asInt, asIntOf, typeInfo, hi, wl, wc, g1, g2, g3, t1', sizeOf, hn, newRow, e0, hr0]
    · simp [execOp, ho, hl, hc, Instr.makeSlice, run_underlying ht, asInt, asIntOf, typeInfo, hi, wl, wc, g1, g2, g3, t1', sizeOf, hn, zeroValue, hz, newRow]
      rw [hr]
  · exact h.elim

theorem setRow_put {w : World} {b : Nat} {cur : Array Value} {e : TypeId} {fz : Nat × Nat} (hb : w.heap[b]? = some (.cells cur e fz)) (cs : Array Value) : (w.setRow b cs).heap = w.heap.setIfInBounds b (.cells cs e fz) := by
  have hlt : b < w.heap.size := (Array.getElem?_eq_some_iff.1 hb).1
  have hv : w.heap[b] = .cells cur e fz := (Array.getElem?_eq_some_iff.1 hb).2
  unfold World.setRow
  apply Array.ext
  · simp
  · intro k h1 h2
    simp only [Array.getElem_modify]
    split
    · rename_i hk; subst hk; simp [hv]
    · rename_i hk
      rw [Array.getElem_setIfInBounds_ne (by simpa using h1) hk]

/-- A row's cells written anew. -/
theorem Fits.setRow {w : World} (hw : Fits H w) {b : Nat} {e : TypeId} {cs cs' : List Value} (hb : H b = some (.row true e cs)) (h1 : ∀ v ∈ cs', v.oneCell' = true) :
    Fits (H.set b (.row true e cs')) (w.setRow b cs'.toArray) ∧ Trans H w (H.set b (.row true e cs')) (w.setRow b cs'.toArray) := by
  obtain ⟨ob, h2, rfl, _⟩ := hw b _ hb
  have hp := setRow_put h2 cs'.toArray
  refine ⟨?_, Trans.put hb rfl hp rfl rfl rfl⟩
  rcases hw.put (B' := .row true e cs') hp ⟨rfl, h1⟩ with h | h
  · exact h
  · exact absurd (hw.lt hb) h

theorem run_storeCells_row {w : World} (hw : Fits H w) {b off : Nat} {e : TypeId} {cs vs : List Value} (hb : H b = some (.row true e cs)) (hl : off + vs.length ≤ cs.length) (h1 : ∀ v ∈ vs, v.oneCell' = true) :
    (storeCells ⟨b, off, none⟩ vs).run P w = .ok () (w.setRow b (spliceL cs off vs).toArray) := by
  obtain ⟨ob, h2, rfl, _⟩ := hw b _ hb
  have := run_storeCells_at P b off e vs 0 cs.toArray w h2 (by simpa using hl) h1
  simpa [spliceL] using this

theorem mem_splice {cs vs : List Value} {off : Nat} (h : ∀ v ∈ cs, v.oneCell' = true) (h' : ∀ v ∈ vs, v.oneCell' = true) : ∀ v ∈ spliceL cs off vs, v.oneCell' = true := by
  intro v hv
  simp only [spliceL, List.mem_append] at hv
  rcases hv with (hv | hv) | hv
  · exact h v (List.mem_of_mem_take hv)
  · exact h' v hv
  · exact h v (List.mem_of_mem_drop hv)

theorem splice_one (cs : List Value) (off : Nat) (v : Value) (h : off < cs.length) : spliceL cs off [v] = cs.set off v := by
  rw [List.set_eq_take_append_cons_drop, if_pos h]
  simp [spliceL]

theorem tri_stN {t : TypeId} {x v : Operand} {i : TypeInfo} (ho : o.op = .store t x v) (hi : P.info? t = some i) (h : (WExp.stN i.size x v).wp P ρ H Q) : Tri P o ρ H Q := by
  intro w hw
  simp only [WExp.wp] at h
  split at h <;> first | exact h.elim | skip
  rename_i b off hx
  split at h <;> first | exact h.elim | skip
  rename_i e cs hb
  obtain ⟨hn, hl, h1, h⟩ := h
  have hrun := run_storeCells_row (P := P) hw (vs := (ev ρ v).cells.toList) hb (by simpa [hn] using hl) (allOne_mem h1)
  have hset := hw.setRow (cs' := spliceL cs off (ev ρ v).cells.toList) hb (mem_splice (hw.oneCell hb) (allOne_mem h1))
  unfold opRun
  simp only [execOp, ho, hx, Instr.storeAt, Instr.sureAddr, storeVar, sizeOf, typeInfo, Sem.run_bind, run_program, Result.andThen_ok, hi, Sem.run_pure, hn, ne_eq, not_true_eq_false, if_false, hrun]
  exact ⟨_, h, hset.1, hset.2⟩

theorem tri_st1 {t : TypeId} {x v : Operand} {i : TypeInfo} (ho : o.op = .store t x v) (hi : P.info? t = some i) (hsz : i.size = 1) (h : (WExp.st1 x v).wp P ρ H Q) : Tri P o ρ H Q := by
  refine tri_stN ho hi ?_
  rw [hsz]
  simp only [WExp.wp] at h ⊢
  split at h <;> first | exact h.elim | skip
  split at h <;> first | exact h.elim | skip
  obtain ⟨hl, h1, h⟩ := h
  have hc : (ev ρ v).cells = #[ev ρ v] := by
    generalize ev ρ v = u at h1
    cases u <;> simp [Value.oneCell'] at h1 <;> rfl
  rw [hc]
  refine ⟨rfl, by omega, by simpa [allOne] using h1, ?_⟩
  rw [show (#[ev ρ v] : Array Value).toList = [ev ρ v] from rfl, splice_one _ _ _ hl]
  exact h

theorem run_callFunc {f : FuncId} (hc : callable P f = true) (args : Array Value) (w : World) : (callFunc f args).run P w = .ok (.enter f args) w := by
  unfold callable at hc
  split at hc
  · rename_i fn hf
    simp only [Bool.and_eq_true, Bool.not_eq_true'] at hc
    obtain ⟨hn, hb⟩ := hc
    have hn' : fn.name ≠ "runtime.NumGoroutine" := by simpa using hn
    have hb' : fn.body ≠ none := by intro e; simp [e] at hb
    simp [callFunc, hf, hn', hb']
  · cases hc

theorem tri_call {f : FuncId} {args : Array Operand} {ts : Array TypeId} (ho : o.op = .call { callee := .value (.func f), args := args, argTypes := ts }) (h : (WExp.call f args.toList).wp P ρ H Q) : Tri P o ρ H Q := by
  intro w hw
  obtain ⟨hc, h⟩ := h
  have ea : (args.toList.map (ev ρ)).toArray = args.map (ev ρ) := by apply Array.ext'; simp
  rw [ea] at h
  unfold opRun
  have hrun : (execOp (ev ρ) o).run P w = .ok (.enter f (args.map (ev ρ))) w := by
    simp [execOp, ho, resolve, Deferred.ofValue, ev, invoke, run_callFunc hc]
  rw [hrun]
  exact (h w hw).mono fun e w' ⟨v, H', he, hq, hf', ht⟩ => ⟨v, he, H', hq, hf', ht⟩

theorem tri_callv {x : Operand} {args : Array Operand} {ts : Array TypeId} (ho : o.op = .call { callee := .value x, args := args, argTypes := ts }) (h : (WExp.callv x args.toList).wp P ρ H Q) : Tri P o ρ H Q := by
  intro w hw
  simp only [WExp.wp] at h
  split at h <;> first | exact h.elim | skip
  rename_i f first captured hx
  obtain ⟨hc, h⟩ := h
  have ea : (first.toList ++ args.toList.map (ev ρ) ++ captured.toList).toArray = first ++ args.map (ev ρ) ++ captured := by apply Array.ext'; simp
  rw [ea] at h
  unfold opRun
  have hrun : (execOp (ev ρ) o).run P w = .ok (.enter f (first ++ args.map (ev ρ) ++ captured)) w := by
    simp [execOp, ho, resolve, hx, Deferred.ofValue, invoke, run_callFunc hc]
  rw [hrun]
  exact (h w hw).mono fun e w' ⟨v, H', he, hq, hf', ht⟩ => ⟨v, he, H', hq, hf', ht⟩

-- floats

theorem nan_cut (x y t : Nat) : nanW ((Question.nanBits .f64 x y).cut t) := by
  have h1 : t % 2 < 2 := Nat.mod_lt _ (by decide)
  have h2 : (t / 2) % (2 ^ 52 - 1) < 2 ^ 52 - 1 := Nat.mod_lt _ (by decide)
  simp only [Question.cut, nanW]
  generalize t % 2 = a at *
  generalize (t / 2) % (2 ^ 52 - 1) = b at *
  have e1 : (a * 2 ^ 63 + 9218868437227405312 + 1 + b) % Ieee.double.signWeight = 9218868437227405312 + 1 + b := by
    show (a * 2 ^ 63 + 9218868437227405312 + 1 + b) % 9223372036854775808 = _
    omega
  unfold Ieee.Format.read
  simp only [e1]
  have e2 : Ieee.double.binade = 4503599627370496 := by decide
  have e3 : Ieee.double.infRung = 9218868437227405312 := by decide
  rw [e2, e3, if_neg (by omega), if_neg (by omega), if_neg (by omega)]
  rfl

theorem tri_same {v : Value} (hrun : ∀ w, (execOp (ev ρ) o).run P w = .ok (.value v) w) (h : Q v H) : Tri P o ρ H Q := by
  intro w hw
  unfold opRun
  rw [hrun w]
  exact ⟨H, h, hw, Trans.refl H w⟩

theorem eqGuard_float (op : BinOp) (t : TypeId) (x y : Operand) (k k' : FloatKind) (a b : Nat) : eqGuard op t x y (.float k a) (.float k' b) = pure () := by
  unfold eqGuard
  split <;> rfl

theorem tri_fbin {op : BinOp} {t t' : TypeId} {x y : Operand} (ho : o.op = .binOp op t x y t') (h : (WExp.ext (.fbin op) [x, y]).wp P ρ H Q) : Tri P o ρ H Q := by
  simp only [WExp.wp, List.map_cons, List.map_nil] at h
  unfold XOp.wp at h
  split at h <;> first | exact h.elim | skip
  all_goals (rename_i heq hl; first | (cases heq; done) | skip)
  rename_i a b
  injection heq with heq; subst heq
  injection hl with hx hl; injection hl with hy _
  obtain ⟨har, hsome, hnone⟩ := h
  cases hf : floatBits op .f64 a b with
  | some r =>
    refine tri_same (v := .float .f64 r) (fun w => ?_) (hsome r hf)
    simp [execOp, ho, hx, hy, eqGuard_float, run_float_arith w op t .f64 a b r hf]
  | none =>
    intro w hw
    have hrun : (execOp (ev ρ) o).run P w = .ok (.value (.float .f64 ((Question.nanBits .f64 a b).cut (w.tape w.drawn (.nanBits .f64 a b))))) w.drew := by
      unfold floatBits at hf
      cases op <;> simp only [isArith, Bool.false_eq_true] at har <;> simp only at hf
      all_goals simp [execOp, ho, hx, hy, eqGuard_float, binOp, Op.floatArith, hf, Question.forced]
    unfold opRun
    rw [hrun]
    exact ⟨H, hnone hf _ (nan_cut a b _), hw, Trans.drew H w (w.drawn + 1)⟩

theorem tri_fcmp {op : BinOp} {t t' : TypeId} {x y : Operand} (ho : o.op = .binOp op t x y t') (h : (WExp.ext (.fcmp op) [x, y]).wp P ρ H Q) : Tri P o ρ H Q := by
  simp only [WExp.wp, List.map_cons, List.map_nil] at h
  unfold XOp.wp at h
  split at h <;> first | exact h.elim | skip
  all_goals (rename_i heq hl; first | (cases heq; done) | skip)
  rename_i a b
  injection heq with heq; subst heq
  injection hl with hx hl; injection hl with hy _
  split at h <;> first | exact h.elim | skip
  rename_i r hr
  refine tri_same (v := .bool r) (fun w => ?_) h
  unfold fcmpV at hr
  cases op <;> simp only at hr <;> first | (cases hr; done) | (injection hr with hr; subst hr)
  all_goals simp [execOp, ho, hx, hy, eqGuard_float, binOp, Op.floatCmp, FloatKind.format]

theorem tri_ftoi {src dst : TypeId} {s k : _} {x : Operand} (ho : o.op = .convert src dst x) (hs : P.underlying src = some (.float s)) (hd : P.underlying dst = some (.int k)) (h : (WExp.ext (.ftoi k) [x]).wp P ρ H Q) : Tri P o ρ H Q := by
  simp only [WExp.wp, List.map_cons, List.map_nil] at h
  unfold XOp.wp at h
  split at h <;> first | exact h.elim | skip
  all_goals (rename_i heq hl; first | (cases heq; done) | skip)
  injection heq with heq; subst heq
  injection hl with hx _
  split at h <;> first | exact h.elim | skip
  rename_i r hr
  refine tri_same (v := .int _ r) (fun w => ?_) h
  have := run_convert_float_int (P := P) w src dst _ _ _ r (by rw [hs]; rfl) hd hr
  simp [execOp, ho, hx, this]

theorem tri_itof {src dst : TypeId} {s : _} {x : Operand} (ho : o.op = .convert src dst x) (hs : P.underlying src = some (.int s)) (hd : P.underlying dst = some (.float .f64)) (h : (WExp.ext .itof [x]).wp P ρ H Q) : Tri P o ρ H Q := by
  simp only [WExp.wp, List.map_cons, List.map_nil] at h
  unfold XOp.wp at h
  split at h <;> first | exact h.elim | skip
  all_goals (rename_i heq hl; first | (cases heq; done) | skip)
  injection hl with hx _
  refine tri_same (v := .float .f64 _) (fun w => ?_) h
  have := fun q n => run_convert_int_float (P := P) w src dst q .f64 n (by rw [hs]; rfl) hd
  simp [execOp, ho, hx, this]

theorem find_fbits {fn : Func} (hn : fn.name = "math.Float64bits") : Extern.find fn = some Extern.MathFloatBits.float64bits := by
  unfold Extern.find; rw [hn]; rfl
theorem find_fof {fn : Func} (hn : fn.name = "math.Float64frombits") : Extern.find fn = some Extern.MathFloatBits.float64frombits := by
  unfold Extern.find; rw [hn]; rfl
theorem next_fbits {fn : Func} (hn : fn.name = "math.Float64bits") (ho : fn.origin = "") : Extern.findNext fn = none := by
  unfold Extern.findNext; rw [hn, ho]; rfl
theorem next_fof {fn : Func} (hn : fn.name = "math.Float64frombits") (ho : fn.origin = "") : Extern.findNext fn = none := by
  unfold Extern.findNext; rw [hn, ho]; rfl

/-- A function without a body that is known. -/
def xname (P : Program) (f : FuncId) : Option XOp :=
  match P.funcs[f]? with
  | some fn => if fn.body.isNone && fn.origin == "" then (if fn.name == "math.Float64bits" then some .fbits else if fn.name == "math.Float64frombits" then some .fof else none) else none
  | none => none

theorem tri_xname {f : FuncId} {k : XOp} {args : Array Operand} {ts : Array TypeId} (ho : o.op = .call { callee := .value (.func f), args := args, argTypes := ts }) (hx : xname P f = some k) (h : (WExp.ext k args.toList).wp P ρ H Q) : Tri P o ρ H Q := by
  unfold xname at hx
  split at hx <;> first | (cases hx; done) | skip
  rename_i fn hf
  split at hx <;> first | (cases hx; done) | skip
  rename_i hb
  simp only [Bool.and_eq_true, beq_iff_eq] at hb
  obtain ⟨hb, hor⟩ := hb
  have ea : (args.toList.map (ev ρ)).toArray = args.map (ev ρ) := by apply Array.ext'; simp
  have run : ∀ (e : Array Value → Sem Value) (v : Value) (w : World), fn.name ≠ "runtime.NumGoroutine" → Extern.findNext fn = none → Extern.find fn = some e → (e (args.map (ev ρ))).run P w = .ok v w →
      (execOp (ev ρ) o).run P w = .ok (.value v) w := by
    intro e v w h1 h2 h3 h4
    have := run_callFunc_extern (P := P) (f := f) hf (by simpa using h1) hb h2 h3 (args.map (ev ρ)) w
    simp [execOp, ho, resolve, Deferred.ofValue, ev, invoke, this, h4]
  simp only [WExp.wp] at h
  split at hx
  · rename_i hn
    have hn : fn.name = "math.Float64bits" := by simpa using hn
    injection hx with hx; subst hx
    unfold XOp.wp at h
    split at h <;> first | exact h.elim | skip
    all_goals (rename_i heq hl; first | (cases heq; done) | skip)
    refine tri_same (fun w => run _ _ w (by rw [hn]; decide) (next_fbits hn hor) (find_fbits hn) ?_) h
    rw [← ea, hl]; rfl
  · split at hx <;> first | (cases hx; done) | skip
    rename_i hn
    have hn : fn.name = "math.Float64frombits" := by simpa using hn
    injection hx with hx; subst hx
    unfold XOp.wp at h
    split at h <;> first | exact h.elim | skip
    all_goals (rename_i heq hl; first | (cases heq; done) | skip)
    refine tri_same (fun w => run _ _ w (by rw [hn]; decide) (next_fof hn hor) (find_fof hn) ?_) h
    rw [← ea, hl]; rfl
end
end Go.Am
