/- makes, stores, appends, copies and calls: the proofs that the model's operations do what the preconditions say. No condition. -/
import Derived.Test.YtmephnenbboecaaAmD
namespace Go.Am
section
variable {P : Program} {o : Oper} {ρ : Env} {H : Heap} {Q : Value → Heap → Prop}

theorem mk_mksl {t e : TypeId} {l c : Operand} {i : TypeInfo} {z : Value} (ho : o.op = .makeSlice t l c) (ht : P.underlying t = some (.slice e)) (hi : P.info? e = some i) (hz : i.zero = some z) (hs : z.cells.size = i.size)
    (h1 : allOne z.cells.toList = true) (h : (WExp.mksl e i.bytes z.cells.toList l c).wp P ρ H Q) : Mk P o ρ H Q := by
  simp only [WExp.wp] at h
  split at h
  · rename_i k1 l' k2 c' hl hc
    obtain ⟨h0, hlc, hb, hc47, h⟩ := h
    have wl : IntKind.i64.wrap l' = l' := by rw [IntKind.wrap_i64]; omega
    have wc : IntKind.i64.wrap c' = c' := by rw [IntKind.wrap_i64]; omega
    have hlb : l' * (i.bytes : Int) ≤ c' * (i.bytes : Int) := Int.mul_le_mul_of_nonneg_right hlc (by omega)
    have t1 : ¬ ((i.bytes : Int) * c' > 2 ^ 48) := by rw [Int.mul_comm]; omega
    have t2 : ¬ ((i.bytes : Int) * l' > 2 ^ 48) := by rw [Int.mul_comm]; omega
    refine mk_new (mk := fun b => .slice (some ⟨b, 0, none⟩) l'.toNat c'.toNat) (fun v hv => allOne_mem h1 v (mem_repl hv)) (fun w => ?_) h
    have hr := range_repl z.cells c'.toNat i.size hs
    have g1 : ¬ c' < 0 := by omega
    have g2 : ¬ l' < 0 := by omega
    have g3 : ¬ c' < l' := by omega
    have t1' : ¬ (281474976710656 < (i.bytes : Int) * c') := by omega
    by_cases hn : c'.toNat * i.size = 0
    · have hr0 : repl c'.toNat z.cells.toList = [] := by
        apply List.eq_nil_of_length_eq_zero
        rw [length_repl]; simpa [hs] using hn
      have e0 : Array.map (fun (_ : Nat) => (default : Value)) (Array.range 0) = #[] := by apply Array.ext'; simp
      simp [execOp, ho, hl, hc, Instr.makeSlice, run_underlying ht, asInt, asIntOf, typeInfo, hi, wl, wc, g1, g2, g3, t1', sizeOf, hn, newRow, e0, hr0]
    · simp [execOp, ho, hl, hc, Instr.makeSlice, run_underlying ht, asInt, asIntOf, typeInfo, hi, wl, wc, g1, g2, g3, t1', sizeOf, hn, zeroValue, hz, newRow]
      rw [hr]
  · exact h.elim

theorem setRow_put {w : World} {b : Nat} {cur : Array Value} {e : TypeId} {fz : Nat × Nat} (hb : w.heap[b]? = some (.cells cur e fz)) (cs : Array Value) : (w.setRow b cs).heap = w.heap.setIfInBounds b (.cells cs e fz) := by
  have hlt : b < w.heap.size := (Array.getElem?_eq_some_iff.1 hb).1
  have hv : w.heap[b] = .cells cur e fz := (Array.getElem?_eq_some_iff.1 hb).2
  unfold World.setRow
  apply Array.ext
  · simp
  · intro k h1 h2
    simp only [Array.getElem_modify]
    split
    · rename_i hk; subst hk; simp [hv]
    · rename_i hk
      rw [Array.getElem_setIfInBounds_ne (by simpa using h1) hk]

/-- A row's cells written anew. -/
theorem Fits.setRow {w : World} (hw : Fits H w) {b : Nat} {e : TypeId} {cs cs' : List Value} (hb : H b = some (.row true e cs)) (h1 : ∀ v ∈ cs', v.oneCell' = true) :
    Fits (H.set b (.row true e cs')) (w.setRow b cs'.toArray) ∧ Trans H w (H.set b (.row true e cs')) (w.setRow b cs'.toArray) := by
  obtain ⟨ob, h2, rfl, _⟩ := hw b _ hb
  have hp := setRow_put h2 cs'.toArray
  refine ⟨?_, Trans.put hb rfl hp rfl rfl rfl⟩
  rcases hw.put (B' := .row true e cs') hp ⟨rfl, h1⟩ with h | h
  · exact h
  · exact absurd (hw.lt hb) h

theorem run_storeCells_row {w : World} (hw : Fits H w) {b off : Nat} {e : TypeId} {cs vs : List Value} (hb : H b = some (.row true e cs)) (hl : off + vs.length ≤ cs.length) (h1 : ∀ v ∈ vs, v.oneCell' = true) :
    (storeCells ⟨b, off, none⟩ vs).run P w = .ok () (w.setRow b (spliceL cs off vs).toArray) := by
  obtain ⟨ob, h2, rfl, _⟩ := hw b _ hb
  have := run_storeCells_at P b off e vs 0 cs.toArray w h2 (by simpa using hl) h1
  simpa [spliceL] using this

theorem mem_splice {cs vs : List Value} {off : Nat} (h : ∀ v ∈ cs, v.oneCell' = true) (h' : ∀ v ∈ vs, v.oneCell' = true) : ∀ v ∈ spliceL cs off vs, v.oneCell' = true := by
  intro v hv
  simp only [spliceL, List.mem_append] at hv
  rcases hv with (hv | hv) | hv
  · exact h v (List.mem_of_mem_take hv)
  · exact h' v hv
  · exact h v (List.mem_of_mem_drop hv)

theorem splice_one (cs : List Value) (off : Nat) (v : Value) (h : off < cs.length) : spliceL cs off [v] = cs.set off v := by
  rw [List.set_eq_take_append_cons_drop, if_pos h]
  simp [spliceL]

theorem tri_stN {t : TypeId} {x v : Operand} {i : TypeInfo} (ho : o.op = .store t x v) (hi : P.info? t = some i) (h : (WExp.stN i.size x v).wp P ρ H Q) : Tri P o ρ H Q := by
  intro w hw
  simp only [WExp.wp] at h
  split at h <;> first | exact h.elim | skip
  rename_i b off hx
  split at h <;> first | exact h.elim | skip
  rename_i e cs hb
  obtain ⟨hn, hl, h1, h⟩ := h
  have hrun := run_storeCells_row (P := P) hw (vs := (ev ρ v).cells.toList) hb (by simpa [hn] using hl) (allOne_mem h1)
  have hset := hw.setRow (cs' := spliceL cs off (ev ρ v).cells.toList) hb (mem_splice (hw.oneCell hb) (allOne_mem h1))
  unfold opRun
  simp only [execOp, ho, hx, Instr.storeAt, Instr.sureAddr, storeVar, sizeOf, typeInfo, Sem.run_bind, run_program, Result.andThen_ok, hi, Sem.run_pure, hn, ne_eq, not_true_eq_false, if_false, hrun]
  exact ⟨_, h, hset.1, hset.2⟩

theorem tri_st1 {t : TypeId} {x v : Operand} {i : TypeInfo} (ho : o.op = .store t x v) (hi : P.info? t = some i) (hsz : i.size = 1) (h : (WExp.st1 x v).wp P ρ H Q) : Tri P o ρ H Q := by
  refine tri_stN ho hi ?_
  rw [hsz]
  simp only [WExp.wp] at h ⊢
  split at h <;> first | exact h.elim | skip
  split at h <;> first | exact h.elim | skip
  obtain ⟨hl, h1, h⟩ := h
  have hc : (ev ρ v).cells = #[ev ρ v] := by
    generalize ev ρ v = u at h1
    cases u <;> simp [Value.oneCell'] at h1 <;> rfl
  rw [hc]
  refine ⟨rfl, by omega, by simpa [allOne] using h1, ?_⟩
  rw [show (#[ev ρ v] : Array Value).toList = [ev ρ v] from rfl, splice_one _ _ _ hl]
  exact h

theorem run_callFunc {f : FuncId} (hc : callable P f = true) (args : Array Value) (w : World) : (callFunc f args).run P w = .ok (.enter f args) w := by
  unfold callable at hc
  split at hc
  · rename_i fn hf
    simp only [Bool.and_eq_true, Bool.not_eq_true'] at hc
    obtain ⟨hn, hb⟩ := hc
    have hn' : fn.name ≠ "runtime.NumGoroutine" := by simpa using hn
    have hb' : fn.body ≠ none := by intro e; simp [e] at hb
    simp [callFunc, hf, hn', hb']
  · cases hc

theorem tri_call {f : FuncId} {args : Array Operand} {ts : Array TypeId} (ho : o.op = .call { callee := .value (.func f), args := args, argTypes := ts }) (h : (WExp.call f args.toList).wp P ρ H Q) : Tri P o ρ H Q := by
  intro w hw
  obtain ⟨hc, h⟩ := h
  have ea : (args.toList.map (ev ρ)).toArray = args.map (ev ρ) := by apply Array.ext'; simp
  rw [ea] at h
  unfold opRun
  have hrun : (execOp (ev ρ) o).run P w = .ok (.enter f (args.map (ev ρ))) w := by
    simp [execOp, ho, resolve, Deferred.ofValue, ev, invoke, run_callFunc hc]
  rw [hrun]
  exact (h w hw).mono fun e w' ⟨v, H', he, hq, hf', ht⟩ => ⟨v, he, H', hq, hf', ht⟩

theorem tri_callv {x : Operand} {args : Array Operand} {ts : Array TypeId} (ho : o.op = .call { callee := .value x, args := args, argTypes := ts }) (h : (WExp.callv x args.toList).wp P ρ H Q) : Tri P o ρ H Q := by
  intro w hw
  simp only [WExp.wp] at h
  split at h <;> first | exact h.elim | skip
  rename_i f first captured hx
  obtain ⟨hc, h⟩ := h
  have ea : (first.toList ++ args.toList.map (ev ρ) ++ captured.toList).toArray = first ++ args.map (ev ρ) ++ captured := by apply Array.ext'; simp
  rw [ea] at h
  unfold opRun
  have hrun : (execOp (ev ρ) o).run P w = .ok (.enter f (first ++ args.map (ev ρ) ++ captured)) w := by
    simp [execOp, ho, resolve, hx, Deferred.ofValue, invoke, run_callFunc hc]
  rw [hrun]
  exact (h w hw).mono fun e w' ⟨v, H', he, hq, hf', ht⟩ => ⟨v, he, H', hq, hf', ht⟩
end
end Go.Am
