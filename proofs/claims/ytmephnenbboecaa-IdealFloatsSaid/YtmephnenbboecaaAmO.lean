/- Loops: what a loop's body does not write stays; calls: what may not be written stays, and blocks may be closed for writing. No condition. -/
import Derived.Test.YtmephnenbboecaaAmN
namespace Go.Am
variable {P : Program}

-- monotone

theorem appWp_mono {e : TypeId} {bytes : Nat} {zero : List Value} {s x : Value} {H : Heap} {Q Q' : Value → Heap → Prop} (hq : ∀ v H', Q v H' → Q' v H') (h : appWp e bytes zero s x H Q) : appWp e bytes zero s x H Q' := by
  revert h
  unfold appWp
  split <;> try exact id
  split <;> try exact id
  split <;> try exact id
  · split <;> try exact id
    split
    · exact hq _ _
    · exact fun h => ⟨h.1, h.2.1, fun b cap hb hc => hq _ _ (h.2.2 b cap hb hc)⟩
  · split
    · exact fun h => ⟨h.1, hq _ _ h.2⟩
    · intro h
      refine ⟨fun hc => ?_, fun hc => ?_⟩
      · have := h.1 hc
        revert this
        split <;> try exact id
        exact fun h => ⟨h.1, hq _ _ h.2⟩
      · obtain ⟨g1, g2, g3⟩ := h.2 hc
        refine ⟨g1, g2, ?_⟩
        revert g3
        split <;> try exact id
        exact fun g3 b' cap hb hc => hq _ _ (g3 b' cap hb hc)

theorem cpyWp_mono {n : Nat} {d s : Value} {H : Heap} {Q Q' : Value → Heap → Prop} (hq : ∀ v H', Q v H' → Q' v H') (h : cpyWp n d s H Q) : cpyWp n d s H Q' := by
  revert h
  unfold cpyWp
  split <;> try exact id
  simp only
  split
  · exact hq _ _
  · split <;> try exact id
    split <;> try exact id
    exact fun h => ⟨h.1, hq _ _ h.2⟩

theorem WExp.wp_mono {ρ : Env} {H : Heap} {Q Q' : Value → Heap → Prop} (hq : ∀ v H', Q v H' → Q' v H') (e : WExp) (h : e.wp P ρ H Q) : e.wp P ρ H Q' := by
  cases e with
  | alloc e z => exact fun b hb => hq _ _ (h b hb)
  | box e x => exact ⟨h.1, fun b hb => hq _ _ (h.2 b hb)⟩
  | bslice e n z ps =>
    simp only [WExp.wp] at h ⊢
    split at h
    · exact ⟨h.1, fun b hb => hq _ _ (h.2 b hb)⟩
    · exact h.elim
  | mksl e bytes z l c =>
    simp only [WExp.wp] at h ⊢
    split at h
    · exact ⟨h.1, h.2.1, h.2.2.1, h.2.2.2.1, fun b hb => hq _ _ (h.2.2.2.2 b hb)⟩
    · exact h.elim
  | st1 x v =>
    simp only [WExp.wp] at h ⊢
    split at h <;> first | exact h.elim | skip
    split at h <;> first | exact h.elim | skip
    exact ⟨h.1, h.2.1, hq _ _ h.2.2⟩
  | stN n x v =>
    simp only [WExp.wp] at h ⊢
    split at h <;> first | exact h.elim | skip
    split at h <;> first | exact h.elim | skip
    exact ⟨h.1, h.2.1, h.2.2.1, hq _ _ h.2.2.2⟩
  | app e bytes z s x => exact appWp_mono hq h
  | cpy n d s => exact cpyWp_mono hq h
  | call f xs => exact ACalls.mono h hq
  | callv x xs =>
    simp only [WExp.wp] at h ⊢
    split at h
    · exact ACalls.mono h hq
    · exact h.elim
  | ext k xs => exact XOp.wp_mono hq k _ h

theorem AAct.wp_mono {ρ : Env} {H : Heap} {Q Q' : Value → Heap → Prop} (hq : ∀ v H', Q v H' → Q' v H') (a : AAct) (h : a.wp P ρ H Q) : a.wp P ρ H Q' := by
  cases a with
  | p e => simp only [AAct.wp] at h ⊢; split at h <;> first | exact hq _ _ h | exact h.elim
  | r1 x => simp only [AAct.wp] at h ⊢; split at h <;> first | exact hq _ _ h | exact h.elim
  | rN n x => simp only [AAct.wp] at h ⊢; split at h <;> first | exact hq _ _ h | exact h.elim
  | w e => exact WExp.wp_mono hq e h

-- what is not written

def modOps : List AOper → Nat → Bool
  | [], _ => false
  | o :: os, t => o.dst == some t || modOps os t

def modDraw : List DOper → Nat → Bool
  | [], _ => false
  | o :: os, t => o.op.dst == some t || modDraw os t

def modB : ACode → Nat → Bool
  | .region os, t => modOps os t
  | .draw os, t => modDraw os t
  | .seq a b, t => modB a t || modB b t
  | .cond _ a b, t => modB a t || modB b t
  | .block _ a, t => modB a t
  | .loop a, t => modB a t
  | _, _ => false

def Same (M : Nat → Bool) (ρ0 ρ : Env) : Prop := ∀ t, M t = false → ρ t = ρ0 t

theorem Same.put {M : Nat → Bool} {ρ0 ρ : Env} (h : Same M ρ0 ρ) {d : Option Nat} (hd : ∀ k, d = some k → M k = true) (v : Value) : Same M ρ0 (put ρ d v) := by
  intro t ht
  cases d with
  | none => exact h t ht
  | some k =>
    have hne : t ≠ k := by rintro rfl; rw [hd t rfl] at ht; cases ht
    simp [Am.put, Env.set, hne, h t ht]

theorem wpOpsA_same {M : Nat → Bool} {ρ0 : Env} {K : Env → Heap → Prop} : ∀ (os : List AOper) (ρ : Env) (H : Heap), (∀ t, modOps os t = true → M t = true) → Same M ρ0 ρ → wpOpsA P K os ρ H → wpOpsA P (fun ρ' H' => Same M ρ0 ρ' ∧ K ρ' H') os ρ H
  | [], _, _, _, hs, h => ⟨hs, h⟩
  | o :: os, ρ, H, hm, hs, h => by
    have hd : ∀ k, o.dst = some k → M k = true := fun k hk => hm k (by simp [modOps, hk])
    have hm' : ∀ t, modOps os t = true → M t = true := fun t ht => hm t (by simp [modOps, ht])
    unfold wpOpsA at h ⊢
    split
    · rename_i hw
      rw [if_pos hw] at h
      exact AAct.wp_mono (fun v H' hh => wpOpsA_same os _ H' hm' (hs.put hd v) hh) _ h
    · rename_i hw
      rw [if_neg hw] at h
      exact wpOpsA_same os _ H hm' (hs.put hd _) h

theorem wpDrawA_same {M : Nat → Bool} {ρ0 : Env} {K : Env → Heap → Prop} : ∀ (os : List DOper) (pend : List (Nat × (Heap → Prop))) (ρ : Env) (H : Heap), (∀ t, modDraw os t = true → M t = true) → Same M ρ0 ρ → wpDrawA P K pend os ρ H → wpDrawA P (fun ρ' H' => Same M ρ0 ρ' ∧ K ρ' H') pend os ρ H
  | [], _, _, _, _, hs, h => ⟨hs, h⟩
  | o :: os, pend, ρ, H, hm, hs, h => by
    have hd : ∀ k, o.op.dst = some k → M k = true := fun k hk => hm k (by simp [modDraw, hk])
    have hm' : ∀ t, modDraw os t = true → M t = true := fun t ht => hm t (by simp [modDraw, ht])
    unfold wpDrawA at h ⊢
    split
    · rename_i hw
      rw [if_pos hw] at h
      cases hact : o.op.act with
      | p e => rw [hact] at h; simp only at h ⊢; split at h <;> first | exact wpDrawA_same os _ _ H hm' (hs.put hd _) h | exact h.elim
      | r1 x => rw [hact] at h; simp only at h ⊢; split at h <;> first | exact wpDrawA_same os _ _ H hm' (hs.put hd _) h | exact h.elim
      | rN n x => rw [hact] at h; simp only at h ⊢; split at h <;> first | exact wpDrawA_same os _ _ H hm' (hs.put hd _) h | exact h.elim
      | w e => rw [hact] at h; simp only at h ⊢; exact WExp.wp_mono (fun v H' hh => ⟨hh.1, wpDrawA_same os _ _ H' hm' (hs.put hd v) hh.2⟩) e h
    · rename_i hw
      rw [if_neg hw] at h
      exact wpDrawA_same os _ _ H hm' (hs.put hd _) h

theorem wpOpsA_mono {K K' : Env → Heap → Prop} (hk : ∀ ρ H, K ρ H → K' ρ H) : ∀ (os : List AOper) (ρ : Env) (H : Heap), wpOpsA P K os ρ H → wpOpsA P K' os ρ H
  | [], _, _, h => hk _ _ h
  | o :: os, ρ, H, h => by
    unfold wpOpsA at h ⊢
    split
    · rename_i hw
      rw [if_pos hw] at h
      exact AAct.wp_mono (fun v H' hh => wpOpsA_mono hk os _ H' hh) _ h
    · rename_i hw
      rw [if_neg hw] at h
      exact wpOpsA_mono hk os _ H h

theorem wpDrawA_mono {K K' : Env → Heap → Prop} (hk : ∀ ρ H, K ρ H → K' ρ H) : ∀ (os : List DOper) (pend : List (Nat × (Heap → Prop))) (ρ : Env) (H : Heap), wpDrawA P K pend os ρ H → wpDrawA P K' pend os ρ H
  | [], _, _, _, h => hk _ _ h
  | o :: os, pend, ρ, H, h => by
    unfold wpDrawA at h ⊢
    split
    · rename_i hw
      rw [if_pos hw] at h
      cases hact : o.op.act with
      | p e => rw [hact] at h; simp only at h ⊢; split at h <;> first | exact wpDrawA_mono hk os _ _ H h | exact h.elim
      | r1 x => rw [hact] at h; simp only at h ⊢; split at h <;> first | exact wpDrawA_mono hk os _ _ H h | exact h.elim
      | rN n x => rw [hact] at h; simp only at h ⊢; split at h <;> first | exact wpDrawA_mono hk os _ _ H h | exact h.elim
      | w e => rw [hact] at h; simp only at h ⊢; exact WExp.wp_mono (fun v H' hh => ⟨hh.1, wpDrawA_mono hk os _ _ H' hh.2⟩) e h
    · rename_i hw
      rw [if_neg hw] at h
      exact wpDrawA_mono hk os _ _ H h

theorem wpA_mono : ∀ (c : ACode) (Q Q' : AExit → Env → Heap → Prop) (ρ : Env) (H : Heap), (∀ e ρ H, Q e ρ H → Q' e ρ H) → wpA P c Q ρ H → wpA P c Q' ρ H
  | .skip, _, _, _, _, hq, h => hq _ _ _ h
  | .ret, _, _, _, _, hq, h => hq _ _ _ h
  | .exit _, _, _, _, _, hq, h => hq _ _ _ h
  | .region os, _, _, ρ, H, hq, h => wpOpsA_mono (fun ρ H => hq .normal ρ H) os ρ H h
  | .draw os, _, _, ρ, H, hq, h => wpDrawA_mono (fun ρ H => hq .normal ρ H) os [] ρ H h
  | .seq a b, Q, Q', ρ, H, hq, h => wpA_mono a _ _ ρ H (fun e ρ H hh => by
      cases e with
      | normal => exact wpA_mono b Q Q' ρ H hq hh
      | ret => exact hq _ _ _ hh
      | exit i => exact hq _ _ _ hh) h
  | .cond c a b, Q, Q', ρ, H, hq, h => by
    simp only [wpA] at h ⊢
    split at h
    · exact wpA_mono a Q Q' ρ H hq h
    · exact wpA_mono b Q Q' ρ H hq h
    · exact h.elim
  | .block id a, Q, Q', ρ, H, hq, h => wpA_mono a _ _ ρ H (fun e ρ H hh => by
      cases e with
      | normal => exact hq _ _ _ hh
      | ret => exact hq _ _ _ hh
      | exit i =>
        simp only [inBlockA] at hh ⊢
        split at hh
        · rename_i hi; rw [if_pos hi]; exact hq _ _ _ hh
        · rename_i hi; rw [if_neg hi]; exact hq _ _ _ hh) h
  | .loop a, Q, Q', ρ, H, hq, h => by
    obtain ⟨I, μ, h0, hr⟩ := h
    refine ⟨I, μ, h0, fun ρ' H' hI => wpA_mono a _ _ ρ' H' (fun e ρ H hh => ?_) (hr ρ' H' hI)⟩
    cases e with
    | normal => exact hh
    | ret => exact hq _ _ _ hh
    | exit i => exact hq _ _ _ hh

theorem wpA_same {M : Nat → Bool} {ρ0 : Env} : ∀ (c : ACode) (Q : AExit → Env → Heap → Prop) (ρ : Env) (H : Heap), (∀ t, modB c t = true → M t = true) → Same M ρ0 ρ → wpA P c Q ρ H → wpA P c (fun e ρ' H' => Same M ρ0 ρ' ∧ Q e ρ' H') ρ H
  | .skip, _, _, _, _, hs, h => ⟨hs, h⟩
  | .ret, _, _, _, _, hs, h => ⟨hs, h⟩
  | .exit _, _, _, _, _, hs, h => ⟨hs, h⟩
  | .region os, _, ρ, H, hm, hs, h => wpOpsA_same os ρ H hm hs h
  | .draw os, _, ρ, H, hm, hs, h => wpDrawA_same os [] ρ H hm hs h
  | .seq a b, Q, ρ, H, hm, hs, h => by
    have h1 := wpA_same a _ ρ H (fun t ht => hm t (by simp [modB, ht])) hs h
    refine wpA_mono a _ _ ρ H (fun e ρ' H' hh => ?_) h1
    cases e with
    | normal => exact wpA_same b Q ρ' H' (fun t ht => hm t (by simp [modB, ht])) hh.1 hh.2
    | ret => exact hh
    | exit i => exact hh
  | .cond c a b, Q, ρ, H, hm, hs, h => by
    simp only [wpA] at h ⊢
    split at h
    · exact wpA_same a Q ρ H (fun t ht => hm t (by simp [modB, ht])) hs h
    · exact wpA_same b Q ρ H (fun t ht => hm t (by simp [modB, ht])) hs h
    · exact h.elim
  | .block id a, Q, ρ, H, hm, hs, h => by
    have h1 := wpA_same a _ ρ H hm hs h
    refine wpA_mono a _ _ ρ H (fun e ρ' H' hh => ?_) h1
    cases e with
    | normal => exact hh
    | ret => exact hh
    | exit i =>
      have h2 := hh.2
      simp only [inBlockA] at h2 ⊢
      split at h2
      · rename_i hi; rw [if_pos hi]; exact ⟨hh.1, h2⟩
      · rename_i hi; rw [if_neg hi]; exact ⟨hh.1, h2⟩
  | .loop a, Q, ρ, H, hm, hs, h => by
    obtain ⟨I, μ, h0, hr⟩ := h
    refine ⟨fun ρ' H' => Same M ρ0 ρ' ∧ I ρ' H', μ, ⟨hs, h0⟩, fun ρ' H' hI => ?_⟩
    have h1 := wpA_same a _ ρ' H' hm hI.1 (hr ρ' H' hI.2)
    refine wpA_mono a _ _ ρ' H' (fun e ρ2 H2 hh => ?_) h1
    cases e with
    | normal => exact ⟨⟨hh.1, hh.2.1⟩, hh.2.2⟩
    | ret => exact hh
    | exit i => exact hh

def kLoop (I : Env → Heap → Prop) (μ : Env → Heap → Nat) (n : Nat) (Q : AExit → Env → Heap → Prop) : AExit → Env → Heap → Prop := thenA (fun ρ H => I ρ H ∧ μ ρ H < n) Q

theorem kLoop_n {I : Env → Heap → Prop} {μ : Env → Heap → Nat} {n : Nat} {Q : AExit → Env → Heap → Prop} {ρ : Env} {H : Heap} : kLoop I μ n Q .normal ρ H = (I ρ H ∧ μ ρ H < n) := rfl
theorem kLoop_r {I : Env → Heap → Prop} {μ : Env → Heap → Nat} {n : Nat} {Q : AExit → Env → Heap → Prop} {ρ : Env} {H : Heap} : kLoop I μ n Q .ret ρ H = Q .ret ρ H := rfl
theorem kLoop_e {I : Env → Heap → Prop} {μ : Env → Heap → Nat} {n i : Nat} {Q : AExit → Env → Heap → Prop} {ρ : Env} {H : Heap} : kLoop I μ n Q (.exit i) ρ H = Q (.exit i) ρ H := rfl

/-- A loop, by what holds at each round's head and a measure. -/
theorem loop_rule {a : ACode} {Q : AExit → Env → Heap → Prop} {ρ : Env} {H : Heap} (I : Env → Heap → Prop) (μ : Env → Heap → Nat) (h0 : I ρ H)
    (hround : ∀ ρ' H', (∀ t, modB a t = false → ρ' t = ρ t) → I ρ' H' → wpA P a (kLoop I μ (μ ρ' H') Q) ρ' H') : LoopA P a Q ρ H := by
  refine ⟨fun ρ' H' => Same (modB a) ρ ρ' ∧ I ρ' H', μ, ⟨fun t _ => rfl, h0⟩, fun ρ' H' hI => ?_⟩
  have h1 := wpA_same (M := modB a) (ρ0 := ρ) a _ ρ' H' (fun t ht => ht) hI.1 (hround ρ' H' hI.1 hI.2)
  refine wpA_mono a _ _ ρ' H' (fun e ρ2 H2 hh => ?_) h1
  cases e with
  | normal => exact ⟨⟨hh.1, hh.2.1⟩, hh.2.2⟩
  | ret => exact hh.2
  | exit i => exact hh.2

-- what may not be written stays

theorem fits_ro {H H' : Heap} {w w' : World} (hf : Fits H w) (hf' : Fits H' w') (ht : Trans H w H' w') {b : Nat} {B : Blk} (hb : H b = some B) (hr : B.rw = false) : H' b = some B := by
  obtain ⟨B', h1, h2⟩ := ht.grows b B hb
  have hr' : B'.rw = false := by
    cases hh : B'.rw with
    | false => rfl
    | true => rw [h2 hh] at hr; cases hr
  have hno : ¬ Owned H b := by rintro ⟨C, h3, h4⟩; rw [hb] at h3; injection h3 with h3; subst h3; rw [hr] at h4; cases h4
  obtain ⟨o, ho, hfo⟩ := hf b B hb
  obtain ⟨o', ho', hfo'⟩ := hf' b B' h1
  rw [ht.frame b (hf.lt hb) hno, ho] at ho'
  injection ho' with ho'; subst ho'
  cases B with
  | mp es c => simp [Blk.rw] at hr
  | row r e cs =>
    simp only [Blk.rw] at hr; subst hr
    cases B' with
    | mp es c => simp [Blk.rw] at hr'
    | row r' e' cs' =>
      simp only [Blk.rw] at hr'; subst hr'
      obtain ⟨fz, h3⟩ := hfo
      obtain ⟨fz', h4⟩ := hfo'
      rw [h3] at h4
      injection h4 with h4 h5 h6
      have h7 : cs = cs' := by simpa using h4
      subst h7; subst h5
      exact h1

def Ro (H H' : Heap) : Prop := ∀ b B, H b = some B → B.rw = false → H' b = some B

theorem Ro.refl (H : Heap) : Ro H H := fun _ _ h _ => h
theorem Ro.trans {H H' H'' : Heap} (h : Ro H H') (h' : Ro H' H'') : Ro H H'' := fun b B hb hr => h' b B (h b B hb hr) hr
theorem Ro.set {H : Heap} {b : Nat} {B : Blk} (h : H b = none ∨ ∃ C, H b = some C ∧ C.rw = true) : Ro H (H.set b B) := by
  intro c C hc hr
  have hne : c ≠ b := by
    rintro rfl
    rcases h with h | ⟨D, h, hd⟩
    · rw [h] at hc; cases hc
    · rw [h] at hc; injection hc with hc; subst hc; rw [hd] at hr; cases hr
  rw [Heap.set_ne _ _ _ _ hne]; exact hc

theorem ACalls.keep {f : FuncId} {args : List Value} {H : Heap} {Q : Value → Heap → Prop} (h : ACalls P f args H Q) : ACalls P f args H fun v H' => Q v H' ∧ Ro H H' :=
  ⟨h.1, fun w hw => (h.2 w hw).mono fun _ _ ⟨v, H', he, hq, hf, ht⟩ => ⟨v, H', he, ⟨hq, fun _ _ hb hr => fits_ro hw hf ht hb hr⟩, hf, ht⟩⟩

/-- Blocks closed for writing. -/
def Sealed (H H' : Heap) : Prop := ∀ b, H' b = H b ∨ ∃ e cs, H b = some (.row true e cs) ∧ H' b = some (.row false e cs)

theorem Sealed.fits {H H' : Heap} (hs : Sealed H H') {w : World} (h : Fits H w) : Fits H' w := by
  intro b B hB
  rcases hs b with h1 | ⟨e, cs, h1, h2⟩
  · exact h b B (h1 ▸ hB)
  · rw [h2] at hB; injection hB with hB; subst hB
    obtain ⟨o, h3, h4, h5⟩ := h b _ h1
    exact ⟨o, h3, (0, 0), h4⟩

theorem Sealed.trans {H H' : Heap} (hs : Sealed H H') (w : World) : Trans H w H' w where
  size := Nat.le_refl _
  frame := fun _ _ _ => rfl
  own := fun b hb => by
    rcases hs b with h1 | ⟨e, cs, h1, _⟩
    · rw [h1] at hb; exact .inl hb
    · exact .inl (by simp [h1])
  grows := fun b B hB => by
    rcases hs b with h1 | ⟨e, cs, h1, h2⟩
    · exact ⟨B, h1 ▸ hB, id⟩
    · rw [h1] at hB; injection hB with hB; subst hB
      exact ⟨_, h2, by simp [Blk.rw]⟩
  tape := rfl
  os := rfl
  output := rfl

theorem ACalls.closing {f : FuncId} {args : List Value} {H : Heap} {Q Q' : Value → Heap → Prop} (h : ACalls P f args H Q) (hs : ∀ v H', Q v H' → ∃ H'', Sealed H' H'' ∧ Q' v H'') : ACalls P f args H Q' :=
  ⟨h.1, fun w hw => (h.2 w hw).mono fun _ w' ⟨v, H', he, hq, hf, ht⟩ =>
    let ⟨H'', h1, h2⟩ := hs v H' hq
    ⟨v, H'', he, h2, h1.fits hf, ht.trans (h1.trans w')⟩⟩
end Go.Am
