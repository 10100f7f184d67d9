/- The proof that resolved code speaks for the model's code: whole bodies; calls; what a loop leaves alone. No condition. -/
import Derived.Test.YtmephnenbboecaaAmL
namespace Go.Am
variable {P : Program}

theorem wp_loop_ix {c : Code} {Q : Exit → Act → World → Prop} {a : Act} {w : World} (I : Nat → Act → World → Prop) (n0 : Nat) (h0 : I n0 a w)
    (round : ∀ n a w, I n a w → c.wp P (Exit.then (fun a' w' => ∃ m, m < n ∧ I m a' w') Q) a w) : (Code.loop c).wp P Q a w := by
  intro b k cs
  have key : ∀ n a w, I n a w → ∃ e a' w', Q e a' w' ∧ Arrives P (lone (b.at a (.code c :: .inLoop c :: k)) cs w) b k cs e a' w' := by
    intro n
    induction n using Nat.strongRecOn with
    | _ n ih =>
      intro a w hI
      obtain ⟨e, a₁, w₁, hq, harr⟩ := round n a w hI b (.inLoop c :: k) cs
      cases e with
      | normal =>
        obtain ⟨m, hlt, hI₁⟩ := hq
        obtain ⟨e₂, a₂, w₂, hq₂, harr₂⟩ := ih m hlt a₁ w₁ hI₁
        exact ⟨e₂, a₂, w₂, hq₂, .of_steps (Steps.trans harr (.one step_inLoop)) harr₂⟩
      | exit id => exact ⟨_, a₁, w₁, hq, .pass (x := .inLoop c) rfl (fun _ _ => .inl (by simp)) harr⟩
      | goto l => exact ⟨_, a₁, w₁, hq, .pass (x := .inLoop c) rfl (fun _ _ => .inl (by simp)) harr⟩
      | ret => exact ⟨_, a₁, w₁, hq, .pass (x := .inLoop c) rfl (fun _ _ => .inl (by simp)) harr⟩
      | panic ch => exact ⟨_, a₁, w₁, hq, .pass (x := .inLoop c) rfl (fun _ _ => .inl (by simp)) harr⟩
      | outgrown => exact ⟨_, a₁, w₁, hq, .pass (x := .inLoop c) rfl (fun _ _ => .inl (by simp)) harr⟩
  obtain ⟨e, a', w', hq, harr⟩ := key n0 a w h0
  exact ⟨e, a', w', hq, .of_steps (.one step_loop) harr⟩

theorem code_sound {N : Nat} {D : List Deferred} (hm : P.follows .mixedOrders = true) : ∀ (c : Code) (ac : ACode), comp P N c = some ac →
    ∀ (Q : AExit → Env → Heap → Prop) (QC : Exit → Act → World → Prop) (a : Act) (ρ : Env) (H : Heap) (w : World), wpA P ac Q ρ H → Agree N D a ρ → Fits H w →
      (∀ e ρ' H' a' w', Q e ρ' H' → Agree N D a' ρ' → Fits H' w' → Trans H w H' w' → QC e.toExit a' w') → c.wp P QC a w := by
  intro c
  induction c with
  | skip =>
    intro ac hc Q QC a ρ H w h hag hf hQ
    simp [comp] at hc; subst hc
    exact wp_skip (hQ .normal ρ H a w h hag hf (Trans.refl H w))
  | ret =>
    intro ac hc Q QC a ρ H w h hag hf hQ
    simp [comp] at hc; subst hc
    exact wp_ret (hQ .ret ρ H a w h hag hf (Trans.refl H w))
  | exit id =>
    intro ac hc Q QC a ρ H w h hag hf hQ
    simp [comp] at hc; subst hc
    exact wp_exit (hQ (.exit id) ρ H a w h hag hf (Trans.refl H w))
  | region id ops draw =>
    intro ac hc Q QC a ρ H w h hag hf hQ
    simp only [comp] at hc
    split at hc
    · rename_i hd
      subst hd
      cases hds : compDraw P N ops with
      | none => rw [hds] at hc; cases hc
      | some ds =>
        rw [hds] at hc
        injection hc with hc; subst hc
        exact draw_region hm hds hag hf h fun ρ' H' a' w' hk hag' hf' ht' => hQ .normal ρ' H' a' w' hk hag' hf' ht'
    · rename_i hd
      have hd' : draw = false := by simpa using hd
      subst hd'
      cases hxs : compOps P N ops ops.toList with
      | none => rw [hxs] at hc; cases hc
      | some xs =>
        rw [hxs] at hc
        injection hc with hc; subst hc
        refine wp_region_list (ops_sound (N := N) (D := D) (K := Q .normal) (H0 := H) (w0 := w) ?_ _ xs a ρ H w hxs hag hf (Trans.refl H w) h)
        exact fun ρ' H' a' w' hk hag' hf' ht' => hQ .normal ρ' H' a' w' hk hag' hf' ht'
  | seq x y ihx ihy =>
    intro ac hc Q QC a ρ H w h hag hf hQ
    simp only [comp] at hc
    split at hc
    · rename_i ax ay hx hy
      injection hc with hc; subst hc
      refine wp_seq (ihx ax hx _ _ a ρ H w h hag hf ?_)
      intro e ρ' H' a' w' hq hag' hf' ht'
      cases e with
      | normal =>
        refine ihy ay hy Q QC a' ρ' H' w' hq hag' hf' ?_
        exact fun e ρ2 H2 a2 w2 hq2 hag2 hf2 ht2 => hQ e ρ2 H2 a2 w2 hq2 hag2 hf2 (ht'.trans ht2)
      | ret => exact hQ .ret ρ' H' a' w' hq hag' hf' ht'
      | exit id => exact hQ (.exit id) ρ' H' a' w' hq hag' hf' ht'
    · cases hc
  | cond c x y ihx ihy =>
    intro ac hc Q QC a ρ H w h hag hf hQ
    simp only [comp] at hc
    split at hc
    · rename_i hcc
      split at hc
      · rename_i ax ay hx hy
        injection hc with hc; subst hc
        simp only [wpA] at h
        have hev : a.eval c = ev ρ c := by
          cases c with
          | tmp t => exact hag.val t (by simpa [condOk] using hcc)
          | _ => rfl
        split at h
        · rename_i hb
          exact wp_cond_true (hev.trans hb) (ihx ax hx Q QC a ρ H w h hag hf hQ)
        · rename_i hb
          exact wp_cond_false (hev.trans hb) (ihy ay hy Q QC a ρ H w h hag hf hQ)
        · exact h.elim
      · cases hc
    · cases hc
  | block id x ih =>
    intro ac hc Q QC a ρ H w h hag hf hQ
    simp only [comp] at hc
    cases hx : comp P N x with
    | none => rw [hx] at hc; cases hc
    | some ax =>
      rw [hx] at hc
      injection hc with hc; subst hc
      refine wp_block (ih ax hx _ _ a ρ H w h hag hf ?_)
      intro e ρ' H' a' w' hq hag' hf' ht'
      cases e with
      | normal => exact hQ .normal ρ' H' a' w' hq hag' hf' ht'
      | ret => exact hQ .ret ρ' H' a' w' hq hag' hf' ht'
      | exit i =>
        simp only [AExit.toExit, Exit.inBlock]
        simp only [inBlockA] at hq
        split at hq
        · rename_i hi
          rw [if_pos hi]
          exact hQ .normal ρ' H' a' w' hq hag' hf' ht'
        · rename_i hi
          rw [if_neg hi]
          exact hQ (.exit i) ρ' H' a' w' hq hag' hf' ht'
  | loop x ih =>
    intro ac hc Q QC a ρ H w h hag hf hQ
    simp only [comp] at hc
    cases hx : comp P N x with
    | none => rw [hx] at hc; cases hc
    | some ax =>
      rw [hx] at hc
      injection hc with hc; subst hc
      obtain ⟨I, μ, h0, hround⟩ := h
      refine wp_loop_ix (fun n a' w' => ∃ ρ' H', μ ρ' H' = n ∧ I ρ' H' ∧ Agree N D a' ρ' ∧ Fits H' w' ∧ Trans H w H' w') (μ ρ H) ⟨ρ, H, rfl, h0, hag, hf, Trans.refl H w⟩ ?_
      rintro n a' w' ⟨ρ', H', rfl, hI, hag', hf', ht'⟩
      refine ih ax hx _ _ a' ρ' H' w' (hround ρ' H' hI) hag' hf' ?_
      intro e ρ2 H2 a2 w2 hq2 hag2 hf2 ht2
      cases e with
      | normal => exact ⟨μ ρ2 H2, hq2.2, ρ2, H2, rfl, hq2.1, hag2, hf2, ht'.trans ht2⟩
      | ret => exact hQ .ret ρ2 H2 a2 w2 hq2 hag2 hf2 (ht'.trans ht2)
      | exit i => exact hQ (.exit i) ρ2 H2 a2 w2 hq2 hag2 hf2 (ht'.trans ht2)
  | _ => intro ac hc; simp [comp] at hc

-- what a function hands back

inductive ARes where
  | tmp (t : Nat)
  | c1 (t : Nat)
  | cN (n t : Nat)

def ARes.val (ρ : Env) (H : Heap) : ARes → Option Value
  | .tmp t => some (ρ t)
  | .c1 t => load1V H (ρ t)
  | .cN n t => loadNV n H (ρ t)

def resVals (ρ : Env) (H : Heap) : List ARes → Option (List Value)
  | [] => some []
  | r :: rs => match r.val ρ H, resVals ρ H rs with
    | some v, some vs => some (v :: vs)
    | _, _ => none

def resV (ρ : Env) (H : Heap) : List ARes → Option Value
  | [r] => r.val ρ H
  | rs => (resVals ρ H rs).map fun vs => .tuple vs.toArray

def compRes (P : Program) (N : Nat) : List ResultVar → Option (List ARes)
  | [] => some []
  | .tmp t :: rs => if t < N then (compRes P N rs).map (.tmp t :: ·) else none
  | .cell a t :: rs => if a < N then
      match P.underlying t, P.info? t, compRes P N rs with
      | some (.struct _), some i, some l => some (.cN i.size a :: l)
      | some (.array _ _), some i, some l => some (.cN i.size a :: l)
      | some _, some _, some l => some (.c1 a :: l)
      | _, _, _ => none
    else none

theorem run_loadVar1 {t : TypeId} {H : Heap} {w : World} {x v : Value} (ha : ∀ w, (isAgg t).run P w = .ok false w) (hf : Fits H w) (h : load1V H x = some v) : (do loadVar t (← asAddr x) : Sem Value).run P w = .ok v w := by
  unfold load1V at h
  split at h <;> first | (cases h; done) | skip
  rename_i b off
  split at h <;> first | (cases h; done) | skip
  rename_i cs hb
  obtain ⟨r, e, hb⟩ := row_some hb
  have hc := hf.cell hb off
  rw [h] at hc
  simp [asAddr, loadVar, ha, hc]

theorem run_loadVarN {t : TypeId} {H : Heap} {w : World} {x v : Value} {i : TypeInfo} (ha : ∀ w, (isAgg t).run P w = .ok true w) (hi : P.info? t = some i) (hf : Fits H w) (h : loadNV i.size H x = some v) : (do loadVar t (← asAddr x) : Sem Value).run P w = .ok v w := by
  unfold loadNV at h
  split at h <;> first | (cases h; done) | skip
  rename_i b off
  split at h <;> first | (cases h; done) | skip
  rename_i cs hb
  split at h <;> first | (cases h; done) | skip
  rename_i hl
  injection h with h; subst h
  obtain ⟨r, e, hb⟩ := row_some hb
  have hlen : ((cs.drop off).take i.size).length = i.size := by simp; omega
  have hl2 := run_loadCells_list (P := P) w ⟨b, off, none⟩ ((cs.drop off).take i.size) (fun j u hj => by
    rw [Addr.add_lit, hf.cell hb]
    rw [List.getElem?_take, List.getElem?_drop] at hj
    split at hj
    · exact hj
    · cases hj)
  rw [hlen] at hl2
  simp [asAddr, loadVar, ha, sizeOf, typeInfo, hi, hl2]

def resOne (tmps : Array Value) : ResultVar → Sem Value
  | .tmp t => pure (tmps.getD t undef)
  | .cell a t => do loadVar t (← asAddr (tmps.getD a undef))

theorem run_results_list {N : Nat} {D : List Deferred} {a : Act} {ρ : Env} {H : Heap} {w : World} (hag : Agree N D a ρ) (hf : Fits H w) : ∀ (l : List ResultVar) (rs : List ARes) (vs : List Value), compRes P N l = some rs → resVals ρ H rs = some vs →
    (l.mapM (resOne a.tmps)).run P w = .ok vs w
  | [], rs, vs, hc, hv => by
    simp [compRes] at hc; subst hc
    simp [resVals] at hv; subst hv
    rfl
  | .tmp t :: l, rs, vs, hc, hv => by
    simp only [compRes] at hc
    split at hc
    · rename_i ht
      cases hl : compRes P N l with
      | none => rw [hl] at hc; cases hc
      | some rs' =>
        rw [hl] at hc
        injection hc with hc; subst hc
        simp only [resVals, ARes.val] at hv
        split at hv
        · rename_i v vs' hv1 hv2
          injection hv1 with hv1
          injection hv with hv; subst hv; subst hv1
          have := run_results_list hag hf l rs' vs' hl hv2
          rw [List.mapM_cons]
          simp only [Sem.run_bind, resOne, Sem.run_pure, Result.andThen_ok, this, hag.val t ht]
        · cases hv
    · cases hc
  | .cell b t :: l, rs, vs, hc, hv => by
    simp only [compRes] at hc
    split at hc
    · rename_i hb
      have step : ∀ (r : ARes) (rs' : List ARes), compRes P N l = some rs' → resVals ρ H (r :: rs') = some vs → (∀ v, r.val ρ H = some v → (do loadVar t (← asAddr (ρ b)) : Sem Value).run P w = .ok v w) → ((ResultVar.cell b t :: l).mapM (resOne a.tmps)).run P w = .ok vs w := by
        intro r rs' hl hv hrun
        simp only [resVals] at hv
        split at hv
        · rename_i v vs' hv1 hv2
          injection hv with hv; subst hv
          have := run_results_list hag hf l rs' vs' hl hv2
          have h1 := hrun v hv1
          rw [List.mapM_cons]
          simp only [Sem.run_bind] at h1
          simp only [Sem.run_bind, resOne, hag.val b hb, h1, Result.andThen_ok, this, Sem.run_pure]
        · cases hv
      split at hc
      · rename_i i l' hu hi hl
        injection hc with hc; subst hc
        exact step _ _ hl hv fun v hv1 => run_loadVarN (fun w => by rw [isAgg_of hu]) hi hf hv1
      · rename_i i l' hu hi hl
        injection hc with hc; subst hc
        exact step _ _ hl hv fun v hv1 => run_loadVarN (fun w => by rw [isAgg_of hu]) hi hf hv1
      · rename_i d i l' h1 h2 hu hi hl
        injection hc with hc; subst hc
        refine step _ _ hl hv fun v hv1 => run_loadVar1 (fun w => ?_) hf hv1
        rw [isAgg_of hu]
        cases d <;> first | rfl | (exfalso; first | exact h1 _ _ _ rfl rfl rfl | exact h2 _ _ _ _ rfl rfl rfl | exact h1 _ rfl | exact h2 _ _ rfl)
      · cases hc
    · cases hc

theorem run_results {N : Nat} {D : List Deferred} {a : Act} {ρ : Env} {H : Heap} {w : World} {fn : Func} {rs : List ARes} {v : Value} (hag : Agree N D a ρ) (hf : Fits H w) (hc : compRes P N fn.results.toList = some rs) (hv : resV ρ H rs = some v) :
    (results fn a.tmps).run P w = .ok v w := by
  have key : ∀ vs, resVals ρ H rs = some vs → (fn.results.mapM (resOne a.tmps)).run P w = .ok vs.toArray w := by
    intro vs hvs
    rw [Array.mapM_eq_mapM_toList]
    simp only [Sem.run_map, run_results_list hag hf _ rs vs hc hvs, Result.andThen_ok]
  have hres : results fn a.tmps = (do let vs ← fn.results.mapM (resOne a.tmps); pure (if h : vs.size = 1 then vs[0] else .tuple vs)) := by
    unfold results
    congr 1
  rw [hres]
  unfold resV at hv
  split at hv
  · rename_i r
    have := key [v] (by simp [resVals, hv])
    simp only [Sem.run_bind, this, Result.andThen_ok, Sem.run_pure]
    rfl
  · rename_i hne
    cases hvs : resVals ρ H rs with
    | none => rw [hvs] at hv; cases hv
    | some vs =>
      rw [hvs] at hv
      injection hv with hv; subst hv
      have hl : ∀ (rs : List ARes) (vs : List Value), resVals ρ H rs = some vs → vs.length = rs.length := by
        intro rs
        induction rs with
        | nil => intro vs h; simp [resVals] at h; subst h; rfl
        | cons r rs ih =>
          intro vs h
          simp only [resVals] at h
          split at h
          · rename_i v vs' h1 h2; injection h with h; subst h; simp [ih vs' h2]
          · cases h
      have hlen := hl rs vs hvs
      have hn1 : ¬ vs.length = 1 := by
        rw [hlen]
        intro h1
        match rs, h1, hne with
        | [r], _, hne => exact hne r rfl
      simp only [Sem.run_bind, key vs hvs, Result.andThen_ok, Sem.run_pure]
      simp [hn1]

-- a call

def envOf (args : List Value) : Env := fun t => args.getD t undef

def retK (rs : List ARes) (Q : Value → Heap → Prop) : AExit → Env → Heap → Prop
  | .normal => fun ρ H => match resV ρ H rs with | some v => Q v H | none => False
  | .ret => fun ρ H => match resV ρ H rs with | some v => Q v H | none => False
  | .exit _ => fun _ _ => False

/-- A function, resolved: its number, its frame, its code, its results. -/
structure AFunc where
  nargs : Nat
  code : ACode
  res : List ARes

def compFunc (P : Program) (f : FuncId) : Option AFunc :=
  match P.funcs[f]? with
  | some fn => match fn.body with
    | some c => match comp P fn.ntmps c, compRes P fn.ntmps fn.results.toList with
      | some ac, some rs => if fn.params.size + fn.nfree ≤ fn.ntmps then some ⟨fn.params.size + fn.nfree, ac, rs⟩ else none
      | _, _ => none
    | none => none
  | none => none

theorem acalls_of_wp {f : FuncId} {F : AFunc} (hm : P.follows .mixedOrders = true) (hcall : callable P f = true) (hF : compFunc P f = some F) {args : List Value} {H : Heap} {Q : Value → Heap → Prop} (hargs : args.length ≤ F.nargs)
    (h : wpA P F.code (retK F.res Q) (envOf args) H) : ACalls P f args H Q := by
  refine ⟨hcall, fun w hw => ?_⟩
  unfold compFunc at hF
  split at hF <;> first | (cases hF; done) | skip
  rename_i fn hfn
  split at hF <;> first | (cases hF; done) | skip
  rename_i c hbody
  split at hF <;> first | (cases hF; done) | skip
  rename_i ac rs hac hrs
  split at hF <;> first | (cases hF; done) | skip
  rename_i hsz
  injection hF with hF; subst hF
  simp only at hargs h
  refine calls_of_wp hfn hbody ?_
  have hag : Agree fn.ntmps [] { tmps := args.toArray ++ Array.replicate (fn.ntmps - args.toArray.size) undef, defers := [] } (envOf args) := by
    refine ⟨by simp; omega, fun t ht => ?_, rfl⟩
    simp only [envOf]
    by_cases hlt : t < args.length
    · simp [Array.getElem?_append, hlt]
    · have h1 : args.length ≤ t := by omega
      have h2 : t - args.length < fn.ntmps - args.length := by omega
      simp [Array.getElem?_append, hlt, h2]
  refine code_sound (N := fn.ntmps) (D := []) hm c ac hac _ _ _ (envOf args) H w h hag hw ?_
  intro e ρ' H' a' w' hq hag' hf' ht'
  cases e with
  | normal =>
    simp only [retK] at hq
    split at hq
    · rename_i v hv
      exact ⟨hag'.defers, v, run_results hag' hf' hrs hv, v, H', rfl, hq, hf', ht'⟩
    · exact hq.elim
  | ret =>
    simp only [retK] at hq
    split at hq
    · rename_i v hv
      exact ⟨hag'.defers, v, run_results hag' hf' hrs hv, v, H', rfl, hq, hf', ht'⟩
    · exact hq.elim
  | exit i => exact hq.elim
end Go.Am
