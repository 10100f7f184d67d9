/- Code: what may not be written stays. No condition. -/
import Derived.Test.YtmephnenbboecaaAmP
namespace Go.Am
variable {P : Program}

theorem XOp.wp_ro {H : Heap} {Q : Value → Heap → Prop} (x : XOp) (l : List Value) (h : x.wp H Q l) : x.wp H (fun v H' => Ro H H' ∧ Q v H') l := by
  unfold XOp.wp at h ⊢
  split at h
  · exact ⟨Ro.refl H, h⟩
  · exact ⟨Ro.refl H, h⟩
  · exact ⟨h.1, fun r hr => ⟨Ro.refl H, h.2.1 r hr⟩, fun hn r hr => ⟨Ro.refl H, h.2.2 hn r hr⟩⟩
  · revert h
    split
    · exact fun h => ⟨Ro.refl H, h⟩
    · exact id
  · revert h
    split
    · exact fun h => ⟨Ro.refl H, h⟩
    · exact id
  · exact ⟨Ro.refl H, h⟩
  · exact h.elim

theorem appWp_ro {e : TypeId} {bytes : Nat} {zero : List Value} {s x : Value} {H : Heap} {Q : Value → Heap → Prop} (h : appWp e bytes zero s x H Q) : appWp e bytes zero s x H (fun v H' => Ro H H' ∧ Q v H') := by
  revert h
  unfold appWp
  split <;> try exact id
  split <;> try exact id
  split <;> try exact id
  · split <;> try exact id
    split
    · exact fun h => ⟨Ro.refl H, h⟩
    · exact fun h => ⟨h.1, h.2.1, fun b cap hb hc => ⟨Ro.set (.inl hb), h.2.2 b cap hb hc⟩⟩
  · split
    · exact fun h => ⟨h.1, Ro.refl H, h.2⟩
    · intro h
      refine ⟨fun hc => ?_, fun hc => ?_⟩
      · have := h.1 hc
        revert this
        split <;> try exact id
        rename_i hb
        exact fun h => ⟨h.1, Ro.set (.inr ⟨_, hb, rfl⟩), h.2⟩
      · obtain ⟨g1, g2, g3⟩ := h.2 hc
        refine ⟨g1, g2, ?_⟩
        revert g3
        split <;> try exact id
        exact fun g3 b' cap hb hc => ⟨Ro.set (.inl hb), g3 b' cap hb hc⟩

theorem cpyWp_ro {n : Nat} {d s : Value} {H : Heap} {Q : Value → Heap → Prop} (h : cpyWp n d s H Q) : cpyWp n d s H (fun v H' => Ro H H' ∧ Q v H') := by
  revert h
  unfold cpyWp
  split <;> try exact id
  simp only
  split
  · exact fun h => ⟨Ro.refl H, h⟩
  · split <;> try exact id
    split <;> try exact id
    rename_i hb
    exact fun h => ⟨h.1, Ro.set (.inr ⟨_, hb, rfl⟩), h.2⟩

theorem WExp.wp_ro {ρ : Env} {H : Heap} {Q : Value → Heap → Prop} (e : WExp) (h : e.wp P ρ H Q) : e.wp P ρ H (fun v H' => Ro H H' ∧ Q v H') := by
  cases e with
  | alloc e z => exact fun b hb => ⟨Ro.set (.inl hb), h b hb⟩
  | box e x => exact ⟨h.1, fun b hb => ⟨Ro.set (.inl hb), h.2 b hb⟩⟩
  | bslice e n z ps =>
    simp only [WExp.wp] at h ⊢
    split at h
    · exact ⟨h.1, fun b hb => ⟨Ro.set (.inl hb), h.2 b hb⟩⟩
    · exact h.elim
  | mksl e bytes z l c =>
    simp only [WExp.wp] at h ⊢
    split at h
    · exact ⟨h.1, h.2.1, h.2.2.1, h.2.2.2.1, fun b hb => ⟨Ro.set (.inl hb), h.2.2.2.2 b hb⟩⟩
    · exact h.elim
  | st1 x v =>
    simp only [WExp.wp] at h ⊢
    split at h <;> first | exact h.elim | skip
    split at h <;> first | exact h.elim | skip
    rename_i hb
    exact ⟨h.1, h.2.1, Ro.set (.inr ⟨_, hb, rfl⟩), h.2.2⟩
  | stN n x v =>
    simp only [WExp.wp] at h ⊢
    split at h <;> first | exact h.elim | skip
    split at h <;> first | exact h.elim | skip
    rename_i hb
    exact ⟨h.1, h.2.1, h.2.2.1, Ro.set (.inr ⟨_, hb, rfl⟩), h.2.2.2⟩
  | app e bytes z s x => exact appWp_ro h
  | cpy n d s => exact cpyWp_ro h
  | call f xs => exact (ACalls.keep h).mono fun _ _ hh => ⟨hh.2, hh.1⟩
  | callv x xs =>
    simp only [WExp.wp] at h ⊢
    split at h
    · exact (ACalls.keep h).mono fun _ _ hh => ⟨hh.2, hh.1⟩
    · exact h.elim
  | ext k xs => exact XOp.wp_ro k _ h

theorem wpOpsA_ro {H0 : Heap} {K : Env → Heap → Prop} : ∀ (os : List AOper) (ρ : Env) (H : Heap), Ro H0 H → wpOpsA P K os ρ H → wpOpsA P (fun ρ' H' => Ro H0 H' ∧ K ρ' H') os ρ H
  | [], _, _, hs, h => ⟨hs, h⟩
  | o :: os, ρ, H, hs, h => by
    unfold wpOpsA at h ⊢
    split
    · rename_i hw
      rw [if_pos hw] at h
      cases hact : o.act with
      | p e => rw [hact] at h; simp only [AAct.wp] at h ⊢; split at h <;> first | exact wpOpsA_ro os _ H hs h | exact h.elim
      | r1 x => rw [hact] at h; simp only [AAct.wp] at h ⊢; split at h <;> first | exact wpOpsA_ro os _ H hs h | exact h.elim
      | rN n x => rw [hact] at h; simp only [AAct.wp] at h ⊢; split at h <;> first | exact wpOpsA_ro os _ H hs h | exact h.elim
      | w e =>
        rw [hact] at h
        have h : e.wp P ρ H (fun v H' => wpOpsA P K os (put ρ o.dst v) H') := h
        exact WExp.wp_mono (fun v H' hh => wpOpsA_ro os _ H' (hs.trans hh.1) hh.2) e (WExp.wp_ro e h)
    · rename_i hw
      rw [if_neg hw] at h
      exact wpOpsA_ro os _ H hs h

theorem wpDrawA_ro {H0 : Heap} {K : Env → Heap → Prop} : ∀ (os : List DOper) (pend : List (Nat × (Heap → Prop))) (ρ : Env) (H : Heap), Ro H0 H → wpDrawA P K pend os ρ H → wpDrawA P (fun ρ' H' => Ro H0 H' ∧ K ρ' H') pend os ρ H
  | [], _, _, _, hs, h => ⟨hs, h⟩
  | o :: os, pend, ρ, H, hs, h => by
    unfold wpDrawA at h ⊢
    split
    · rename_i hw
      rw [if_pos hw] at h
      cases hact : o.op.act with
      | p e => rw [hact] at h; simp only at h ⊢; split at h <;> first | exact wpDrawA_ro os _ _ H hs h | exact h.elim
      | r1 x => rw [hact] at h; simp only at h ⊢; split at h <;> first | exact wpDrawA_ro os _ _ H hs h | exact h.elim
      | rN n x => rw [hact] at h; simp only at h ⊢; split at h <;> first | exact wpDrawA_ro os _ _ H hs h | exact h.elim
      | w e => rw [hact] at h; simp only at h ⊢; exact WExp.wp_mono (fun v H' hh => ⟨hh.2.1, wpDrawA_ro os _ _ H' (hs.trans hh.1) hh.2.2⟩) e (WExp.wp_ro e h)
    · rename_i hw
      rw [if_neg hw] at h
      exact wpDrawA_ro os _ _ H hs h

theorem wpA_ro {H0 : Heap} : ∀ (c : ACode) (Q : AExit → Env → Heap → Prop) (ρ : Env) (H : Heap), Ro H0 H → wpA P c Q ρ H → wpA P c (fun e ρ' H' => Ro H0 H' ∧ Q e ρ' H') ρ H
  | .skip, _, _, _, hs, h => ⟨hs, h⟩
  | .ret, _, _, _, hs, h => ⟨hs, h⟩
  | .exit _, _, _, _, hs, h => ⟨hs, h⟩
  | .region os, _, ρ, H, hs, h => wpOpsA_ro os ρ H hs h
  | .draw os, _, ρ, H, hs, h => wpDrawA_ro os [] ρ H hs h
  | .seq a b, Q, ρ, H, hs, h => by
    have h1 := wpA_ro a _ ρ H hs h
    refine wpA_mono a _ _ ρ H (fun e ρ' H' hh => ?_) h1
    cases e with
    | normal => exact wpA_ro b Q ρ' H' hh.1 hh.2
    | ret => exact hh
    | exit i => exact hh
  | .cond c a b, Q, ρ, H, hs, h => by
    simp only [wpA] at h ⊢
    split at h
    · exact wpA_ro a Q ρ H hs h
    · exact wpA_ro b Q ρ H hs h
    · exact h.elim
  | .block id a, Q, ρ, H, hs, h => by
    have h1 := wpA_ro a _ ρ H hs h
    refine wpA_mono a _ _ ρ H (fun e ρ' H' hh => ?_) h1
    cases e with
    | normal => exact hh
    | ret => exact hh
    | exit i =>
      have h2 := hh.2
      simp only [inBlockA] at h2 ⊢
      split at h2
      · rename_i hi; rw [if_pos hi]; exact ⟨hh.1, h2⟩
      · rename_i hi; rw [if_neg hi]; exact ⟨hh.1, h2⟩
  | .loop a, Q, ρ, H, hs, h => by
    obtain ⟨I, μ, h0, hr⟩ := h
    refine ⟨fun ρ' H' => Ro H0 H' ∧ I ρ' H', μ, ⟨hs, h0⟩, fun ρ' H' hI => ?_⟩
    have h1 := wpA_ro a _ ρ' H' hI.1 (hr ρ' H' hI.2)
    refine wpA_mono a _ _ ρ' H' (fun e ρ2 H2 hh => ?_) h1
    cases e with
    | normal => exact ⟨⟨hh.1, hh.2.1⟩, hh.2.2⟩
    | ret => exact hh
    | exit i => exact hh

/-- v is a slice of n elements, st cells each, in memory that may not be written: the cells cs. -/
def RdR (H : Heap) (st n : Nat) (v : Value) (cs : List Value) : Prop :=
  cs.length = n * st ∧ n ≤ 140737488355328 ∧ ∃ a c, v = .slice a n c ∧ n ≤ c ∧ (∀ ad, a = some ad → ad.spot = none) ∧
    (n * st ≠ 0 → ∃ b o e row, a = some ⟨b, o, none⟩ ∧ H b = some (.row false e row) ∧ ∀ j, j < n * st → row[o + j]? = cs[j]?)

theorem RdR.rd {H : Heap} {st n : Nat} {v : Value} {cs : List Value} (h : RdR H st n v cs) : Rd H st n v cs := by
  obtain ⟨h1, h2, a, c, h3, h4, h5, h6⟩ := h
  exact ⟨h1, h2, a, c, h3, h4, h5, fun hn => let ⟨b, o, e, row, g1, g2, g3⟩ := h6 hn; ⟨b, o, false, e, row, g1, g2, g3⟩⟩

theorem RdR.ro {H H' : Heap} (hr : Ro H H') {st n : Nat} {v : Value} {cs : List Value} (h : RdR H st n v cs) : RdR H' st n v cs := by
  obtain ⟨h1, h2, a, c, h3, h4, h5, h6⟩ := h
  exact ⟨h1, h2, a, c, h3, h4, h5, fun hn => let ⟨b, o, e, row, g1, g2, g3⟩ := h6 hn; ⟨b, o, e, row, g1, hr b _ g2 rfl, g3⟩⟩
end Go.Am
