/- The model's operations, resolved by the program's tables: what each becomes, and the proof that it does so. No condition. -/
import Derived.Test.YtmephnenbboecaaAmI
namespace Go.Am

inductive AAct where
  | p (e : PExp)
  | r1 (x : Operand)
  | rN (n : Nat) (x : Operand)
  | w (e : WExp)

def isNeq : BinOp → Bool
  | .neq => true
  | _ => false

def isEq : BinOp → Bool
  | .neq => true
  | .eql => true
  | _ => false

def compEq (P : Program) (op : BinOp) (t : TypeId) (x y : Operand) : Option AAct :=
  match P.underlying t with
  | some (.int _) => some (.p (.ibin op x y))
  | some .bool => some (.p (.eqb (isNeq op) x y))
  | some (.pointer _) => some (.p (.eqp (isNeq op) x y))
  | some (.slice _) => some (.p (.eqsl (isNeq op) x y))
  | some (.func ..) => some (.p (.eqfn (isNeq op) x y))
  | some (.struct fs) => if !P.stoodInHeld t && !P.eqGuardType P.depth t && intFields P fs.toList then some (.p (.eqi (isNeq op) (fs.toList.map (·.offset)) x y)) else none
  | some (.float .f64) => some (.w (.ext (.fcmp op) [x, y]))
  | _ => none

def compBin (P : Program) (op : BinOp) (t : TypeId) (x y : Operand) : Option AAct :=
  if isEq op then compEq P op t x y else
  match P.underlying t with
  | some (.int _) => some (.p (.ibin op x y))
  | some (.float .f64) => some (.w (.ext (if isArith op then .fbin op else .fcmp op) [x, y]))
  | _ => none

def structParts (P : Program) (fs : Array Field) : List (Nat × Operand) → Option (List (Nat × Nat × Operand))
  | [] => some []
  | (j, x) :: rest =>
    match fs[j]? with
    | some f => match P.info? f.type, structParts P fs rest with
      | some i, some l => some ((f.offset, i.size, x) :: l)
      | _, _ => none
    | none => none

def compAct (P : Program) (o : Oper) : Option AAct :=
  match o.op with
  | .move x => some (.p (.mv x))
  | .assign x => some (.p (.mv x))
  | .pick c a b => some (.p (.pick c a b))
  | .nilCheck x => some (.p (.nilck x))
  | .binOp op t x y _ => compBin P op t x y
  | .unOp .not _ x => some (.p (.not x))
  | .convert src dst x =>
    match P.underlying src, P.underlying dst with
    | some (.int _), some (.int k) => some (.p (.conv k x))
    | some (.float _), some (.int k) => some (.w (.ext (.ftoi k) [x]))
    | some (.int _), some (.float .f64) => some (.w (.ext .itof [x]))
    | _, _ => none
  | .fieldAddr s x f =>
    match P.underlying s with
    | some (.struct fs) => match fs[f]? with
      | some fl => match P.info? fl.type with
        | some i => if i.size = 0 then none else some (.p (.fieldA fl.offset x))
        | none => none
      | none => none
    | _ => none
  | .indexAddr t x ix =>
    match P.underlying t with
    | some (.slice e) => (P.info? e).map fun i => .p (.idxSl i.size x ix)
    | some (.array n e) => (P.info? e).map fun i => .p (.idxArr n i.size x ix)
    | _ => none
  | .field t x f =>
    match P.underlying t with
    | some (.struct fs) => match fs[f]? with
      | some fl => match P.underlying fl.type, P.info? fl.type with
        | some (.struct _), some i => some (.p (.part fl.offset (some i.size) x))
        | some (.array _ _), some i => some (.p (.part fl.offset (some i.size) x))
        | some _, some _ => some (.p (.part fl.offset none x))
        | _, _ => none
      | none => none
    | _ => none
  | .extract x i => some (.p (.extract i x))
  | .build t parts =>
    match P.info? t, P.underlying t with
    | some i, some (.struct fs) => match i.zero, structParts P fs parts.toList with
      | some z, some ps => if fs.toList.all (fun f => (P.info? f.type).isSome) then some (.p (.build z.cells.toList ps)) else none
      | _, _ => none
    | _, _ => none
  | .slice t x lo hi none =>
    match P.underlying t with
    | some (.slice e) => (P.info? e).map fun i => .p (.slc i.size x lo hi)
    | _ => none
  | .makeFunc (.func f) first captured => some (.p (.mkfn f first.toList captured.toList))
  | .load t x =>
    match P.underlying t, P.info? t with
    | some (.struct _), some i => some (.rN i.size x)
    | some (.array _ _), some i => some (.rN i.size x)
    | some _, some _ => some (.r1 x)
    | _, _ => none
  | .alloc t =>
    match P.info? t with
    | some i => match i.zero with
      | some z => if allOne z.cells.toList then some (.w (.alloc t z.cells.toList)) else none
      | none => none
    | none => none
  | .box t x => some (.w (.box t x))
  | .buildSlice t n parts =>
    match P.underlying t with
    | some (.slice e) => match P.info? e with
      | some i => match i.zero with
        | some z => if z.cells.size = i.size ∧ n * i.size ≤ 16777216 then some (.w (.bslice e n z.cells.toList (parts.toList.map fun (j, x) => (j * i.size, i.size, x)))) else none
        | none => none
      | none => none
    | _ => none
  | .makeSlice t l c =>
    match P.underlying t with
    | some (.slice e) => match P.info? e with
      | some i => match i.zero with
        | some z => if z.cells.size = i.size ∧ allOne z.cells.toList = true then some (.w (.mksl e i.bytes z.cells.toList l c)) else none
        | none => none
      | none => none
    | _ => none
  | .store t x v => (P.info? t).map fun i => if i.size = 1 then .w (.st1 x v) else .w (.stN i.size x v)
  | .call { callee := .builtin .len, args, argTypes } =>
    match args.toList, argTypes.toList with
    | [x], [t] => match P.underlying t with
      | some (.slice _) => some (.p (.len false x))
      | some .string => some (.p (.len true x))
      | _ => none
    | _, _ => none
  | .call { callee := .builtin .min, args, .. } =>
    match args.toList with
    | [x, y] => some (.p (.min2 x y))
    | _ => none
  | .call { callee := .builtin .max, args, .. } =>
    match args.toList with
    | [x, y] => some (.p (.max2 x y))
    | _ => none
  | .call { callee := .builtin .append, args, argTypes } =>
    match args.toList, argTypes.toList with
    | [s, x], [t, t'] => if t = t' then match P.underlying t with
        | some (.slice e) => match P.info? e with
          | some i => match i.zero with
            | some z => if z.cells.size = i.size ∧ allOne z.cells.toList = true then some (.w (.app e i.bytes z.cells.toList s x)) else none
            | none => none
          | none => none
        | _ => none
      else none
    | _, _ => none
  | .call { callee := .builtin .copy, args, argTypes } =>
    match args.toList, argTypes[0]? with
    | [d, s], some t => match P.underlying t with
      | some (.slice e) => (P.info? e).map fun i => .w (.cpy i.size d s)
      | _ => none
    | _, _ => none
  | .call { callee := .value (.func f), args, .. } => match xname P f with
    | some k => some (.w (.ext k args.toList))
    | none => some (.w (.call f args.toList))
  | .call { callee := .value x, args, .. } => some (.w (.callv x args.toList))
  | _ => none

/-- Where an action stands among those that write, read or do neither. -/
def AAct.kd : AAct → Kd
  | .p _ => .p
  | .r1 _ => .r
  | .rN _ _ => .r
  | .w (.alloc ..) => .a
  | .w (.box ..) => .a
  | .w (.bslice ..) => .a
  | .w (.mksl ..) => .a
  | .w _ => .w

theorem arr1 {α : Type} {l : Array α} {x : α} (h : l.toList = [x]) : l = #[x] := by
  apply Array.ext'; simpa using h
theorem arr2 {α : Type} {l : Array α} {x y : α} (h : l.toList = [x, y]) : l = #[x, y] := by
  apply Array.ext'; simpa using h

/-- What an action answers for. -/
def AAct.Does (P : Program) (o : Oper) (ρ : Env) : AAct → Prop
  | .p e => ∀ v, e.val ρ = some v → Pure P o ρ v
  | .r1 x => ∀ H v, load1V H (ev ρ x) = some v → Reads P o ρ H v
  | .rN n x => ∀ H v, loadNV n H (ev ρ x) = some v → Reads P o ρ H v
  | .w e => ∀ H Q, e.wp P ρ H Q → if (AAct.w e).kd = .a then Mk P o ρ H Q else Tri P o ρ H Q

theorem eqOp (op : BinOp) (h : isEq op = true) : (if isNeq op = true then BinOp.neq else BinOp.eql) = op := by
  cases op <;> first | rfl | simp [isEq] at h

theorem compBin_does {P : Program} {op : BinOp} {t t' : TypeId} {x y : Operand} {o : Oper} {act : AAct} {ρ : Env} (ho : o.op = .binOp op t x y t') (h : compBin P op t x y = some act) : act.Does P o ρ := by
  unfold compBin at h
  split at h
  · rename_i hop
    have ho' : o.op = .binOp (if isNeq op = true then .neq else .eql) t x y t' := by rw [eqOp op hop]; exact ho
    unfold compEq at h
    split at h <;> first | (cases h; done) | skip
    · injection h with h; subst h; exact fun v hv => pure_ibin ho hv
    · rename_i ht; injection h with h; subst h; exact fun v hv => pure_eqb ho' ht hv
    · rename_i ht; injection h with h; subst h; exact fun v hv => pure_eqp ho' ht hv
    · rename_i ht; injection h with h; subst h; exact fun v hv => pure_eqsl ho' ht hv
    · rename_i ht; injection h with h; subst h; exact fun v hv => pure_eqfn ho' ht hv
    · rename_i fs ht
      split at h
      · rename_i hc
        simp only [Bool.and_eq_true, Bool.not_eq_true'] at hc
        injection h with h; subst h
        exact fun v hv => pure_eqi ho' ht hc.1.1 hc.1.2 hc.2 hv
      · cases h
    · injection h with h; subst h; exact fun H Q hq => by simpa [AAct.kd] using tri_fcmp ho hq
  · split at h <;> first | (cases h; done) | skip
    · injection h with h; subst h; exact fun v hv => pure_ibin ho hv
    · injection h with h; subst h
      by_cases hop2 : isArith op = true
      · rw [if_pos hop2]; exact fun H Q hq => by simpa [AAct.kd] using tri_fbin ho hq
      · rw [if_neg hop2]; exact fun H Q hq => by simpa [AAct.kd] using tri_fcmp ho hq

theorem structParts_spec {P : Program} {fs : Array Field} : ∀ (parts : List (Nat × Operand)) (ps : List (Nat × Nat × Operand)), structParts P fs parts = some ps →
    ∃ offs : List (Nat × Nat), parts.length = offs.length ∧ ps = (offs.zip (parts.map (·.2))).map (fun (p, x) => (p.1, p.2, x)) ∧
      ∀ (j i : Nat) (x : Operand), parts[j]? = some (i, x) → ∃ f inf, fs[i]? = some f ∧ P.info? f.type = some inf ∧ offs[j]? = some (f.offset, inf.size)
  | [], ps, h => by simp [structParts] at h; subst h; exact ⟨[], rfl, rfl, by simp⟩
  | (j, x) :: rest, ps, h => by
    unfold structParts at h
    split at h <;> first | (cases h; done) | skip
    rename_i f hf
    split at h <;> first | (cases h; done) | skip
    rename_i i l hi hl
    injection h with h; subst h
    obtain ⟨offs, h1, h2, h3⟩ := structParts_spec rest l hl
    refine ⟨(f.offset, i.size) :: offs, by simp [h1], by simp [h2], fun k m y hk => ?_⟩
    cases k with
    | zero =>
      simp only [List.getElem?_cons_zero, Option.some.injEq, Prod.mk.injEq] at hk
      obtain ⟨rfl, rfl⟩ := hk
      exact ⟨f, i, hf, hi, rfl⟩
    | succ k => exact h3 k m y (by simpa using hk)

theorem run_places {P : Program} (fs : Array Field) (hall : fs.toList.all (fun f => (P.info? f.type).isSome) = true) (w : World) :
    (fs.mapM (fun (f : Field) => (do pure (f.offset, ← sizeOf f.type) : Sem (Nat × Nat)))).run P w = .ok (fs.map fun f => (f.offset, ((P.info? f.type).map (·.size)).getD 0)) w := by
  rw [Array.mapM_eq_mapM_toList]
  have key : ∀ l : List Field, l.all (fun f => (P.info? f.type).isSome) = true → (l.mapM (fun (f : Field) => (do pure (f.offset, ← sizeOf f.type) : Sem (Nat × Nat)))).run P w = .ok (l.map fun f => (f.offset, ((P.info? f.type).map (·.size)).getD 0)) w := by
    intro l
    induction l with
    | nil => intro _; rfl
    | cons f l ih =>
      intro h
      simp only [List.all_cons, Bool.and_eq_true] at h
      obtain ⟨i, hi⟩ := Option.isSome_iff_exists.1 h.1
      simp only [List.mapM_cons, Sem.run_bind, sizeOf, typeInfo, run_program, Result.andThen_ok, hi, Sem.run_pure, Option.map_some, Option.getD_some, List.map_cons]
      have := ih h.2
      simp only [sizeOf, typeInfo] at this
      rw [this]
      rfl
  simp only [Sem.run_map, key fs.toList hall, Result.andThen_ok]
  congr 1
  apply Array.ext'
  simp

theorem compAct_does {P : Program} {o : Oper} {act : AAct} {ρ : Env} (h : compAct P o = some act) : act.Does P o ρ := by
  unfold compAct at h
  split at h <;> first | (cases h; done) | skip
  case h_1 x ho => injection h with h; subst h; intro v hv; injection hv with hv; subst hv; exact pure_mv (.inl ho)
  case h_2 x ho => injection h with h; subst h; intro v hv; injection hv with hv; subst hv; exact pure_mv (.inr ho)
  case h_3 c a b ho => injection h with h; subst h; exact fun v hv => pure_pick ho hv
  case h_4 x ho => injection h with h; subst h; exact fun v hv => pure_nilck ho hv
  case h_5 op t x y t' ho => exact compBin_does ho h
  case h_6 t x ho => injection h with h; subst h; exact fun v hv => pure_not ho hv
  case h_7 src dst x ho =>
    split at h <;> first | (cases h; done) | skip
    · rename_i hs hd
      injection h with h; subst h; exact fun v hv => pure_conv ho hs hd hv
    · rename_i hs hd
      injection h with h; subst h; exact fun H Q hq => by simpa [AAct.kd] using tri_ftoi ho hs hd hq
    · rename_i hs hd
      injection h with h; subst h; exact fun H Q hq => by simpa [AAct.kd] using tri_itof ho hs hd hq
  case h_8 s x f ho =>
    split at h <;> first | (cases h; done) | skip
    rename_i fs hs
    split at h <;> first | (cases h; done) | skip
    rename_i fl hf
    split at h <;> first | (cases h; done) | skip
    rename_i i hi
    split at h <;> first | (cases h; done) | skip
    rename_i hn
    injection h with h; subst h; exact fun v hv => pure_fieldA ho hs hf hi hn hv
  case h_9 t x ix ho =>
    split at h <;> first | (cases h; done) | skip
    · rename_i e ht
      cases hi : P.info? e with
      | none => rw [hi] at h; cases h
      | some i => rw [hi] at h; injection h with h; subst h; exact fun v hv => pure_idxSl ho ht hi hv
    · rename_i n e ht
      cases hi : P.info? e with
      | none => rw [hi] at h; cases h
      | some i => rw [hi] at h; injection h with h; subst h; exact fun v hv => pure_idxArr ho ht hi hv
  case h_10 t x f ho =>
    split at h <;> first | (cases h; done) | skip
    rename_i fs ht
    split at h <;> first | (cases h; done) | skip
    rename_i fl hf
    split at h <;> first | (cases h; done) | skip
    · rename_i i hu hi
      injection h with h; subst h; exact fun v hv => pure_partAgg ho ht hf hi (fun w => by rw [isAgg_of hu]) hv
    · rename_i i hu hi
      injection h with h; subst h; exact fun v hv => pure_partAgg ho ht hf hi (fun w => by rw [isAgg_of hu]) hv
    · rename_i d i h1 h2 hu hi
      injection h with h; subst h
      refine fun v hv => pure_partOne ho ht hf (fun w => ?_) hv
      rw [isAgg_of hu]
      cases d <;> first | rfl | (exfalso; first | exact h1 _ rfl | exact h2 _ _ rfl)
  case h_11 x i ho => injection h with h; subst h; exact fun v hv => pure_extract ho hv
  case h_12 t parts ho =>
    split at h <;> first | (cases h; done) | skip
    rename_i i fs hi ht
    split at h <;> first | (cases h; done) | skip
    rename_i z ps hz hps
    split at h <;> first | (cases h; done) | skip
    rename_i hall
    injection h with h; subst h
    obtain ⟨offs, h1, h2, h3⟩ := structParts_spec _ _ hps
    intro v hv
    simp only [PExp.val] at hv
    refine pure_build ho hi hz ht (run_places fs hall) (offs := offs) (by simpa using h1) ?_ ?_
    · intro j k x hj
      obtain ⟨f, inf, hf, hinf, ho'⟩ := h3 j k x hj
      rw [ho']
      simp [hf, hinf]
    · rw [← hv, h2]
      simp [List.map_map, Function.comp_def]
  case h_13 t x lo hi ho =>
    split at h <;> first | (cases h; done) | skip
    rename_i e ht
    cases hi' : P.info? e with
    | none => rw [hi'] at h; cases h
    | some i => rw [hi'] at h; injection h with h; subst h; exact fun v hv => pure_slc ho ht hi' hv
  case h_14 f first captured ho =>
    injection h with h; subst h
    intro v hv
    injection hv with hv; subst hv
    exact pure_mkfn ho
  case h_15 t x ho =>
    split at h <;> first | (cases h; done) | skip
    · rename_i i hu hi
      injection h with h; subst h; exact fun H v hv => reads_loadN ho (fun w => by rw [isAgg_of hu]) hi hv
    · rename_i i hu hi
      injection h with h; subst h; exact fun H v hv => reads_loadN ho (fun w => by rw [isAgg_of hu]) hi hv
    · rename_i d i h1 h2 hu hi
      injection h with h; subst h
      refine fun H v hv => reads_load1 ho (fun w => ?_) hv
      rw [isAgg_of hu]
      cases d <;> first | rfl | (exfalso; first | exact h1 _ rfl | exact h2 _ _ rfl)
  case h_16 t ho =>
    split at h <;> first | (cases h; done) | skip
    rename_i i hi
    split at h <;> first | (cases h; done) | skip
    rename_i z hz
    split at h <;> first | (cases h; done) | skip
    rename_i h1
    injection h with h; subst h
    exact fun H Q hq => by simpa [AAct.kd] using mk_alloc ho hi hz h1 hq
  case h_17 t x ho =>
    injection h with h; subst h
    exact fun H Q hq => by simpa [AAct.kd] using mk_box ho hq
  case h_18 t n parts ho =>
    split at h <;> first | (cases h; done) | skip
    rename_i e ht
    split at h <;> first | (cases h; done) | skip
    rename_i i hi
    split at h <;> first | (cases h; done) | skip
    rename_i z hz
    split at h <;> first | (cases h; done) | skip
    rename_i hc
    injection h with h; subst h
    exact fun H Q hq => by simpa [AAct.kd] using mk_bslice ho ht hi hz hc.1 hc.2 rfl hq
  case h_19 t l c ho =>
    split at h <;> first | (cases h; done) | skip
    rename_i e ht
    split at h <;> first | (cases h; done) | skip
    rename_i i hi
    split at h <;> first | (cases h; done) | skip
    rename_i z hz
    split at h <;> first | (cases h; done) | skip
    rename_i hc
    injection h with h; subst h
    exact fun H Q hq => by simpa [AAct.kd] using mk_mksl ho ht hi hz hc.1 hc.2 hq
  case h_20 t x v ho =>
    cases hi : P.info? t with
    | none => rw [hi] at h; cases h
    | some i =>
      rw [hi] at h
      simp only [Option.map_some, Option.some.injEq] at h
      split at h
      · rename_i h1
        subst h
        exact fun H Q hq => by simpa [AAct.kd] using tri_st1 ho hi h1 hq
      · subst h
        exact fun H Q hq => by simpa [AAct.kd] using tri_stN ho hi hq
  case h_21 args ts ho =>
    split at h <;> first | (cases h; done) | skip
    rename_i x t ha hts
    split at h <;> first | (cases h; done) | skip
    · rename_i e ht
      injection h with h; subst h
      exact fun v hv => pure_lenSl ho (arr1 ha) (arr1 hts) ht hv
    · rename_i ht
      injection h with h; subst h
      exact fun v hv => pure_lenStr ho (arr1 ha) (arr1 hts) ht hv
  case h_22 args ts ho =>
    split at h <;> first | (cases h; done) | skip
    rename_i x y ha
    injection h with h; subst h
    exact fun v hv => pure_min ho (arr2 ha) hv
  case h_23 args ts ho =>
    split at h <;> first | (cases h; done) | skip
    rename_i x y ha
    injection h with h; subst h
    exact fun v hv => pure_max ho (arr2 ha) hv
  case h_24 args ts ho =>
    split at h <;> first | (cases h; done) | skip
    rename_i s x t t' ha hts
    split at h <;> first | (cases h; done) | skip
    rename_i htt
    subst htt
    split at h <;> first | (cases h; done) | skip
    rename_i e ht
    split at h <;> first | (cases h; done) | skip
    rename_i i hi
    split at h <;> first | (cases h; done) | skip
    rename_i z hz
    split at h <;> first | (cases h; done) | skip
    rename_i hc
    injection h with h; subst h
    rw [arr2 ha, arr2 hts] at ho
    exact fun H Q hq => by simpa [AAct.kd] using tri_app ho ht hi hz hc.1 hc.2 hq
  case h_25 args ts ho =>
    split at h <;> first | (cases h; done) | skip
    rename_i d s t ha hts
    split at h <;> first | (cases h; done) | skip
    rename_i e ht
    cases hi : P.info? e with
    | none => rw [hi] at h; cases h
    | some i =>
      rw [hi] at h
      injection h with h; subst h
      rw [arr2 ha] at ho
      exact fun H Q hq => by simpa [AAct.kd] using tri_cpy ho hts ht hi hq
  case h_26 f args ts ho =>
    split at h
    · rename_i k hk
      injection h with h; subst h
      exact fun H Q hq => by simpa [AAct.kd] using tri_xname ho hk hq
    · injection h with h; subst h
      exact fun H Q hq => by simpa [AAct.kd] using tri_call ho hq
  case h_27 x args ts _ ho =>
    injection h with h; subst h
    exact fun H Q hq => by simpa [AAct.kd] using tri_callv ho hq
end Go.Am
