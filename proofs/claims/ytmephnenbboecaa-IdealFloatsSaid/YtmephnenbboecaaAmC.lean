/- Equality of pointers, slices, functions, bools and structs of whole numbers; composites; reads of known blocks. No condition. -/
import Derived.Test.YtmephnenbboecaaAmB
namespace Go.Am
section
variable {P : Program} {o : Oper} {ρ : Env} {v : Value}


theorem run_equalIn_ptr1 (d : Nat) (t e : TypeId) (b : Option Addr) (h : P.underlying t = some (.pointer e)) (w : World) : (Op.equalIn (d + 1) t (.pointer none) (.pointer b)).run P w = .ok b.isNone w := by
  simp [Op.equalIn, run_underlying h]
theorem run_equalIn_ptr2 (d : Nat) (t e : TypeId) (a : Addr) (h : P.underlying t = some (.pointer e)) (w : World) : (Op.equalIn (d + 1) t (.pointer (some a)) (.pointer none)).run P w = .ok false w := by
  simp [Op.equalIn, run_underlying h]
theorem run_equalIn_sl1 (d : Nat) (t e : TypeId) (n c n' c' : Nat) (b : Option Addr) (h : P.underlying t = some (.slice e)) (w : World) : (Op.equalIn (d + 1) t (.slice none n c) (.slice b n' c')).run P w = .ok b.isNone w := by
  simp [Op.equalIn, run_underlying h]
theorem run_equalIn_sl2 (d : Nat) (t e : TypeId) (n c n' c' : Nat) (a : Addr) (h : P.underlying t = some (.slice e)) (w : World) : (Op.equalIn (d + 1) t (.slice (some a) n c) (.slice none n' c')).run P w = .ok false w := by
  simp [Op.equalIn, run_underlying h]
theorem run_equalIn_fn1 (d : Nat) (t : TypeId) (ps rs : Array TypeId) (va : Bool) (h : P.underlying t = some (.func ps rs va)) (w : World) : (Op.equalIn (d + 1) t .nilFunc .nilFunc).run P w = .ok true w := by
  simp [Op.equalIn, run_underlying h]
theorem run_equalIn_fn2 (d : Nat) (t : TypeId) (ps rs : Array TypeId) (va : Bool) (fn : Fn) (x y : Array Value) (h : P.underlying t = some (.func ps rs va)) (w : World) : (Op.equalIn (d + 1) t .nilFunc (.func fn x y)).run P w = .ok false w := by
  simp [Op.equalIn, run_underlying h]
theorem run_equalIn_fn3 (d : Nat) (t : TypeId) (ps rs : Array TypeId) (va : Bool) (fn : Fn) (x y : Array Value) (h : P.underlying t = some (.func ps rs va)) (w : World) : (Op.equalIn (d + 1) t (.func fn x y) .nilFunc).run P w = .ok false w := by
  simp [Op.equalIn, run_underlying h]

def plainV : Value → Bool
  | .agg _ | .nilIface | .int _ _ | .float _ _ | .complex _ _ _ | .string _ => false
  | _ => true

/-- The test of two values that are neither numbers, strings, interfaces nor aggregates. -/
theorem pure_eq {neg : Bool} {t t' : TypeId} {x y : Operand} {b : Bool} (ho : o.op = .binOp (if neg then .neq else .eql) t x y t') (hx : plainV (ev ρ x) = true) (hy : plainV (ev ρ y) = true)
    (h : ∀ w, (Op.equalIn (9999 + 1) t (ev ρ x) (ev ρ y)).run P w = .ok b w) : Pure P o ρ (.bool (neg != b)) := by
  intro w
  have h1 : ∀ w, (Op.equal t (ev ρ x) (ev ρ y)).run P w = .ok b w := h
  have hg : ∀ op, eqGuard op t x y (ev ρ x) (ev ρ y) = pure () := by
    intro op
    generalize ev ρ x = vx at *
    generalize ev ρ y = vy at *
    unfold eqGuard
    cases vx <;> cases vy <;> simp [plainV] at hx hy <;> (split <;> rfl)
  have hb : ∀ w, (binOp .eql t (ev ρ x) (ev ρ y)).run P w = .ok (.bool b) w ∧ (binOp .neq t (ev ρ x) (ev ρ y)).run P w = .ok (.bool (!b)) w := by
    intro w
    generalize ev ρ x = vx at *
    generalize ev ρ y = vy at *
    cases vx <;> cases vy <;> simp [plainV] at hx hy <;> simp [binOp, h1]
  cases neg <;> simp [execOp, ho, hg, hb]

theorem pure_eqb {neg : Bool} {t t' : TypeId} {x y : Operand} (ho : o.op = .binOp (if neg then .neq else .eql) t x y t') (ht : P.underlying t = some .bool) (h : eqbV neg (ev ρ x) (ev ρ y) = some v) : Pure P o ρ v := by
  unfold eqbV at h
  split at h
  · rename_i a b hx hy
    injection h with h; subst h
    exact pure_eq ho (by rw [hx]; rfl) (by rw [hy]; rfl) (fun w => by rw [hx, hy]; exact run_equalIn_bool' w 9999 t a b ht)
  · cases h

theorem pure_eqp {neg : Bool} {t t' e : TypeId} {x y : Operand} (ho : o.op = .binOp (if neg then .neq else .eql) t x y t') (ht : P.underlying t = some (.pointer e)) (h : eqpV neg (ev ρ x) (ev ρ y) = some v) : Pure P o ρ v := by
  unfold eqpV at h
  split at h
  · rename_i b hx hy
    injection h with h; subst h
    exact pure_eq ho (by rw [hx]; rfl) (by rw [hy]; rfl) (fun w => by rw [hx, hy]; exact run_equalIn_ptr1 9999 t e b ht w)
  · rename_i b hx hy
    injection h with h; subst h
    have := pure_eq (b := false) ho (by rw [hx]; rfl) (by rw [hy]; rfl) (fun w => by rw [hx, hy]; exact run_equalIn_ptr2 9999 t e _ ht w)
    simpa using this
  · cases h

theorem pure_eqsl {neg : Bool} {t t' e : TypeId} {x y : Operand} (ho : o.op = .binOp (if neg then .neq else .eql) t x y t') (ht : P.underlying t = some (.slice e)) (h : eqslV neg (ev ρ x) (ev ρ y) = some v) : Pure P o ρ v := by
  unfold eqslV at h
  split at h
  · rename_i _ _ b _ _ hx hy
    injection h with h; subst h
    exact pure_eq ho (by rw [hx]; rfl) (by rw [hy]; rfl) (fun w => by rw [hx, hy]; exact run_equalIn_sl1 9999 t e _ _ _ _ b ht w)
  · rename_i hx hy
    injection h with h; subst h
    have := pure_eq (b := false) ho (by rw [hx]; rfl) (by rw [hy]; rfl) (fun w => by rw [hx, hy]; exact run_equalIn_sl2 9999 t e _ _ _ _ _ ht w)
    simpa using this
  · cases h

theorem pure_eqfn {neg : Bool} {t t' : TypeId} {ps rs : Array TypeId} {va : Bool} {x y : Operand} (ho : o.op = .binOp (if neg then .neq else .eql) t x y t') (ht : P.underlying t = some (.func ps rs va)) (h : eqfnV neg (ev ρ x) (ev ρ y) = some v) : Pure P o ρ v := by
  unfold eqfnV at h
  split at h
  · rename_i hx hy
    injection h with h; subst h
    exact pure_eq ho (by rw [hx]; rfl) (by rw [hy]; rfl) (fun w => by rw [hx, hy]; exact run_equalIn_fn1 9999 t ps rs va ht w)
  · rename_i hx hy
    injection h with h; subst h
    have := pure_eq (b := false) ho (by rw [hx]; rfl) (by rw [hy]; rfl) (fun w => by rw [hx, hy]; exact run_equalIn_fn2 9999 t ps rs va _ _ _ ht w)
    simpa using this
  · rename_i hx hy
    injection h with h; subst h
    have := pure_eq (b := false) ho (by rw [hx]; rfl) (by rw [hy]; rfl) (fun w => by rw [hx, hy]; exact run_equalIn_fn3 9999 t ps rs va _ _ _ ht w)
    simpa using this
  · cases h

/-- The fields of a struct are all whole numbers (of one cell each), none of them called _. -/
def intFields (P : Program) : List Field → Bool
  | [] => true
  | f :: fs => (f.name != "_") && (match P.underlying f.type with | some (.int _) => true | _ => false) && intFields P fs

theorem isAgg_int {t : TypeId} {k : IntKind} (h : P.underlying t = some (.int k)) (w : World) : (isAgg t).run P w = .ok false w := by
  simp [isAgg, run_underlying h]

theorem run_eqFields_int (d : Nat) (xs ys : Array Value) (w : World) : ∀ (fs : List Field) (b : Bool), intFields P fs = true → eqiV (fs.map (·.offset)) xs ys = some b → (Op.eqFields (d + 1) xs ys fs).run P w = .ok b w
  | [], b, _, h => by simp [eqiV] at h; subst h; simp [Op.eqFields]
  | f :: fs, b, hi, h => by
    simp only [intFields, Bool.and_eq_true] at hi
    obtain ⟨⟨hn, ht⟩, hrest⟩ := hi
    have hname : f.name ≠ "_" := by simpa using hn
    obtain ⟨k0, ht⟩ : ∃ k, P.underlying f.type = some (.int k) := by
      split at ht
      · rename_i k hk; exact ⟨k, hk⟩
      · cases ht
    simp only [List.map_cons, eqiV] at h
    split at h
    · rename_i k a k' c hx hy
      split at h
      · rename_i hk
        subst hk
        have ha := isAgg_int (P := P) ht
        have hp : (part f.type xs f.offset).run P w = .ok (.int k a) w := by simp [part, ha, hx]
        have hp2 : (part f.type ys f.offset).run P w = .ok (.int k c) w := by simp [part, ha, hy]
        have he := run_equalIn_int (P := P) w d f.type k k0 a c ht
        simp only [Op.eqFields, hname, ne_eq, not_false_eq_true, if_true, Sem.run_bind, hp, hp2, he, Result.andThen_ok, Sem.run_ite, Sem.run_pure]
        split at h
        · rename_i hac
          subst hac
          simpa using run_eqFields_int d xs ys w fs b hrest h
        · rename_i hac
          injection h with h; subst h
          simp [hac]
      · cases h
    · cases h

theorem pure_eqi {neg : Bool} {t t' : TypeId} {fs : Array Field} {x y : Operand} (ho : o.op = .binOp (if neg then .neq else .eql) t x y t') (ht : P.underlying t = some (.struct fs)) (hs : P.stoodInHeld t = false) (hg : P.eqGuardType P.depth t = false) (hf : intFields P fs.toList = true)
    (h : (match ev ρ x, ev ρ y with | .agg xs, .agg ys => (eqiV (fs.toList.map (·.offset)) xs ys).map fun b => Value.bool (neg != b) | _, _ => none) = some v) : Pure P o ρ v := by
  intro w
  split at h
  · rename_i xs ys hx hy
    cases hb : eqiV (fs.toList.map (·.offset)) xs ys with
    | none => rw [hb] at h; cases h
    | some b =>
      rw [hb] at h
      injection h with h; subst h
      have hfo : P.fieldsOf t = fs := by simp [Program.fieldsOf, ht]
      have h1 := run_equalIn_struct (P := P) w 9999 t xs ys (by rw [hfo]; exact ht) hs
      rw [hfo, run_eqFields_int 9998 xs ys w fs.toList b hf hb] at h1
      have h2 : (Op.equal t (.agg xs) (.agg ys)).run P w = .ok b w := h1
      cases neg <;> cases b <;> simp [execOp, ho, hx, hy, eqGuard, hg, binOp, h2]
  · cases h

-- composites

theorem foldl_splice (vs : List Value) : ∀ (off i : Nat) (cs : Array Value), off + i + vs.length ≤ cs.size →
    ((vs.zipIdx i).foldl (fun cs (c, j) => cs.setIfInBounds (off + j) c) cs).toList = cs.toList.take (off + i) ++ vs ++ cs.toList.drop (off + i + vs.length) := by
  induction vs with
  | nil => intro off i cs _; simp
  | cons u vs ih =>
    intro off i cs hl
    simp only [List.length_cons] at hl
    simp only [List.zipIdx_cons, List.foldl_cons]
    rw [ih off (i + 1) (cs.setIfInBounds (off + i) u) (by simp; omega)]
    have := list_seg_step cs.toList (off + i) u vs (by simp; omega)
    simp only [Array.toList_setIfInBounds, List.length_cons]
    rw [← this]
    simp only [Nat.add_assoc, Nat.add_comm 1]

theorem fill_of_fillL (place : Nat → Option (Nat × Nat)) : ∀ (parts : List (Nat × Value)) (offs : List (Nat × Nat)) (cs out : List Value),
    parts.length = offs.length → (∀ (j i : Nat) (u : Value), parts[j]? = some (i, u) → place i = offs[j]?) → fillL cs ((offs.zip parts).map fun (p, q) => (p.1, p.2, q.2)) = some out →
    Instr.fill place cs.toArray parts = some out.toArray
  | [], [], cs, out, _, _, h => by simp [fillL] at h; simp [Instr.fill, h]
  | [], _ :: _, _, _, hl, _, _ => by simp at hl
  | _ :: _, [], _, _, hl, _, _ => by simp at hl
  | (i, u) :: parts, (off, size) :: offs, cs, out, hl, hp, h => by
    have h0 := hp 0 i u rfl
    simp only [List.getElem?_cons_zero] at h0
    simp only [List.zip_cons_cons, List.map_cons, fillL] at h
    split at h
    · rename_i hc
      obtain ⟨hc1, hc2⟩ := hc
      unfold Instr.fill
      simp only [h0]
      have hn : ¬ ((u.cells.size ≠ size || decide (off + u.cells.size > cs.toArray.size)) = true) := by simp [hc1]; omega
      rw [if_neg hn]
      have hf := foldl_splice u.cells.toList off 0 cs.toArray (by simp; omega)
      have e : (u.cells.zipIdx.foldl (fun cs (c, j) => cs.setIfInBounds (off + j) c) cs.toArray) = (spliceL cs off u.cells.toList).toArray := by
        apply Array.ext'
        rw [← Array.foldl_toList]
        simp only [Array.toList_zipIdx]
        rw [hf]
        simp [spliceL]
      rw [e]
      exact fill_of_fillL place parts offs _ out (by simpa using hl) (fun j i' u' hj => by simpa using hp (j + 1) i' u' (by simpa using hj)) h
    · cases h

theorem pure_build {t : TypeId} {parts : Array (Nat × Operand)} {fs : Array Field} {z : Value} {i : TypeInfo} {offs : List (Nat × Nat)} {places : Array (Nat × Nat)} (ho : o.op = .build t parts) (hi : P.info? t = some i) (hz : i.zero = some z) (ht : P.underlying t = some (.struct fs))
    (hpl : ∀ w, (fs.mapM (fun (f : Field) => (do pure (f.offset, ← sizeOf f.type) : Sem (Nat × Nat)))).run P w = .ok places w)
    (hlen : parts.size = offs.length) (hoff : ∀ (j i : Nat) (x : Operand), parts.toList[j]? = some (i, x) → places[i]? = offs[j]?)
    (h : ((fillL z.cells.toList ((offs.zip (parts.toList.map (·.2))).map fun (p, x) => (p.1, p.2, ev ρ x))).map fun cs => Value.agg cs.toArray) = some v) : Pure P o ρ v := by
  intro w
  cases hf : fillL z.cells.toList ((offs.zip (parts.toList.map (·.2))).map fun (p, x) => (p.1, p.2, ev ρ x)) with
  | none => rw [hf] at h; cases h
  | some out =>
    rw [hf] at h
    injection h with h; subst h
    have hfill := fill_of_fillL (places[·]?) ((parts.map fun (i, x) => (i, ev ρ x)).toList) offs z.cells.toList out (by simpa using hlen)
      (by
        intro j i' u hj
        simp only [Array.toList_map, List.getElem?_map] at hj
        cases hq : parts.toList[j]? with
        | none => rw [hq] at hj; cases hj
        | some q =>
          rw [hq] at hj
          obtain ⟨q1, q2⟩ := q
          simp only [Option.map_some, Option.some.injEq, Prod.mk.injEq] at hj
          obtain ⟨rfl, _⟩ := hj
          exact hoff j q1 q2 hq)
      (by
        rw [← hf]
        congr 1
        simp only [Array.toList_map]
        rw [List.zip_map_right, List.zip_map_right]
        simp [List.map_map, Function.comp_def])
    have hfill' : Instr.fill (places[·]?) z.cells (parts.map fun (i, x) => (i, ev ρ x)).toList = some out.toArray := by simpa using hfill
    simp only [execOp, ho, Instr.build, zeroValue, typeInfo, Sem.run_bind, run_program, Result.andThen_ok, hi, hz, Sem.run_pure, run_underlying ht, hpl, hfill']

-- reads

/-- 'The read gives v in every world that fits, and leaves the world alone.' -/
def Reads (P : Program) (o : Oper) (ρ : Env) (H : Heap) (v : Value) : Prop := ∀ w, Fits H w → (execOp (ev ρ) o).run P w = .ok (.value v) w

theorem Fits.cell {H : Heap} {w : World} (h : Fits H w) {b : Nat} {r : Bool} {e : TypeId} {cs : List Value} (hb : H b = some (.row r e cs)) (j : Nat) : w.cell? ⟨b, j, none⟩ = cs[j]? := by
  obtain ⟨ob, h1, h2⟩ := h b _ hb
  cases r with
  | true => obtain ⟨rfl, _⟩ := h2; rw [cell_of_row w b j _ e _ h1]; simp
  | false => obtain ⟨fz, rfl⟩ := h2; rw [cell_of_row w b j _ e _ h1]; simp

theorem Fits.oneCell {H : Heap} {w : World} (h : Fits H w) {b : Nat} {e : TypeId} {cs : List Value} (hb : H b = some (.row true e cs)) : ∀ v ∈ cs, v.oneCell' = true := by
  obtain ⟨ob, h1, h2⟩ := h b _ hb
  exact h2.2

/-- It may be written. -/
def Heap.rwB (H : Heap) (b : Nat) : Bool :=
  match H b with
  | some B => B.rw
  | none => false

/-- The cells of a row. -/
def Heap.row (H : Heap) (b : Nat) : Option (List Value) :=
  match H b with
  | some (.row _ _ cs) => some cs
  | _ => none

def load1V (H : Heap) : Value → Option Value
  | .pointer (some ⟨b, o, none⟩) => match H.row b with
    | some cs => cs[o]?
    | none => none
  | _ => none

def loadNV (n : Nat) (H : Heap) : Value → Option Value
  | .pointer (some ⟨b, o, none⟩) => match H.row b with
    | some cs => if o + n ≤ cs.length then some (.agg ((cs.drop o).take n).toArray) else none
    | none => none
  | _ => none

theorem row_some {H : Heap} {b : Nat} {cs : List Value} (h : H.row b = some cs) : ∃ r e, H b = some (.row r e cs) := by
  unfold Heap.row at h
  split at h
  · rename_i r e cs' hb; injection h with h; subst h; exact ⟨r, e, hb⟩
  · cases h

theorem reads_load1 {t : TypeId} {x : Operand} {H : Heap} (ho : o.op = .load t x) (ha : ∀ w, (isAgg t).run P w = .ok false w) (h : load1V H (ev ρ x) = some v) : Reads P o ρ H v := by
  intro w hw
  unfold load1V at h
  split at h <;> first | (cases h; done) | skip
  rename_i b off hx
  split at h <;> first | (cases h; done) | skip
  rename_i cs hb
  obtain ⟨r, e, hb⟩ := row_some hb
  have hc := hw.cell hb off
  rw [h] at hc
  simp [execOp, ho, hx, Instr.loadAt, Instr.sureAddr, loadVar, ha, hc]

theorem reads_loadN {t : TypeId} {x : Operand} {H : Heap} {i : TypeInfo} (ho : o.op = .load t x) (ha : ∀ w, (isAgg t).run P w = .ok true w) (hi : P.info? t = some i) (h : loadNV i.size H (ev ρ x) = some v) : Reads P o ρ H v := by
  intro w hw
  unfold loadNV at h
  split at h <;> first | (cases h; done) | skip
  rename_i b off hx
  split at h <;> first | (cases h; done) | skip
  rename_i cs hb
  split at h <;> first | (cases h; done) | skip
  rename_i hl
  injection h with h; subst h
  obtain ⟨r, e, hb⟩ := row_some hb
  have hlen : ((cs.drop off).take i.size).length = i.size := by simp; omega
  have hl2 := run_loadCells_list (P := P) w ⟨b, off, none⟩ ((cs.drop off).take i.size) (fun j u hj => by
    rw [Addr.add_lit, hw.cell hb]
    rw [List.getElem?_take, List.getElem?_drop] at hj
    split at hj
    · exact hj
    · cases hj)
  rw [hlen] at hl2
  simp [execOp, ho, hx, Instr.loadAt, Instr.sureAddr, loadVar, ha, sizeOf, typeInfo, hi, hl2]

theorem isAgg_of {t : TypeId} {d : TypeDesc} (h : P.underlying t = some d) (w : World) : (isAgg t).run P w = .ok (match d with | .struct _ => true | .array _ _ => true | _ => false) w := by
  simp only [isAgg, Sem.run_bind, run_underlying h, Result.andThen_ok]
  cases d <;> rfl
end
end Go.Am
