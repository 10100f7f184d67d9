/- A step of a region whose order is open may be taken ahead of its turn. No condition. -/
import Derived.Test.YtmephnenbboecaaAmG
namespace Go.Am
variable {P : Program} {K : Env → Heap → Prop}

theorem wpS_weak : ∀ (L : List SOp) (pend pend' : List (Nat × (Heap → Prop))) (ρ : Env) (H : Heap), (∀ un H, chk un H pend' → chk un H pend) → wpS P K pend' L ρ H → wpS P K pend L ρ H
  | [], _, _, _, _, _, h => h
  | d :: L, pend, pend', ρ, H, hc, h => by
    unfold wpS at h ⊢
    split
    · rename_i hw
      rw [if_pos hw] at h
      cases hk : d.kind <;> rw [hk] at h <;> simp only at h ⊢
      · obtain ⟨v, h1, h2⟩ := h
        exact ⟨v, h1, wpS_weak L _ _ _ _ hc h2⟩
      · obtain ⟨v, h1, h2⟩ := h
        exact ⟨v, h1, wpS_weak L (_ :: pend) (_ :: pend') _ _ (fun un H hh => ⟨hh.1, hc un H hh.2⟩) h2⟩
      · obtain ⟨mk, e, cs, h1, h2⟩ := h
        exact ⟨mk, e, cs, h1, fun b hb => wpS_weak L _ _ _ _ hc (h2 b hb)⟩
      · exact h.mono fun v H' hh => ⟨hc _ _ hh.1, wpS_weak L _ _ _ _ hc hh.2⟩
    · rename_i hw
      rw [if_neg hw] at h
      exact wpS_weak L _ _ _ _ hc h

def PendOk (P : Program) (pend : List (Nat × (Heap → Prop))) : Prop := ∀ p ∈ pend, ∃ s v, p.2 = fun H' => ReadsS P s H' v

theorem exists_fits_set {H : Heap} {b : Nat} {B : Blk} {o : Obj} (hex : ∃ w, Fits H w) (ho : B.fits o) : ∃ w, Fits (H.set b B) w := by
  obtain ⟨w, hw⟩ := hex
  let heap' : Array Obj := (Array.range (max w.heap.size (b + 1))).map fun i => if i = b then o else (w.heap[i]?).getD o
  refine ⟨{ w with heap := heap' }, fun c C hC => ?_⟩
  by_cases hc : c = b
  · subst hc
    rw [Heap.set_same] at hC
    injection hC with hC; subst hC
    refine ⟨o, ?_, ho⟩
    have hlt : c < max w.heap.size (c + 1) := by omega
    simp [heap', hlt]
  · rw [Heap.set_ne _ _ _ _ hc] at hC
    obtain ⟨o', h1, h2⟩ := hw c C hC
    have hlt : c < max w.heap.size (b + 1) := by have := hw.lt hC; omega
    exact ⟨o', by simp [heap', hlt, hc, h1], h2⟩

theorem hoist (d : SOp) (L2 : List SOp) : ∀ (L1 : List SOp) (pend : List (Nat × (Heap → Prop))) (ρ : Env) (H : Heap), PendOk P pend → (∃ w, Fits H w) → (∀ x ∈ L1, x.allow d = true ∧ x.apart d = true) →
    wpS P K pend (L1 ++ d :: L2) ρ H → After P K pend (L1 ++ L2) d ρ H
  | [], pend, ρ, H, _, _, _, h => by
    simp only [List.nil_append] at h ⊢
    unfold wpS at h
    unfold After
    split
    · rename_i hw
      rw [if_pos hw] at h
      cases hk : d.kind <;> rw [hk] at h <;> simp only at h ⊢
      · exact h
      · obtain ⟨v, h1, h2⟩ := h
        exact ⟨v, h1, wpS_weak _ pend (_ :: pend) _ _ (fun un H hh => hh.2) h2⟩
      · exact h
      · exact h
    · rename_i hw
      rw [if_neg hw] at h
      exact h
  | x :: L1, pend, ρ, H, hpend, hex, hall, h => by
    obtain ⟨hallow, hapart⟩ := hall x (by simp)
    have hall' : ∀ y ∈ L1, y.allow d = true ∧ y.apart d = true := fun y hy => hall y (by simp [hy])
    obtain ⟨a1, a2, a3, a4, a5⟩ := SOp.apart_spec hapart
    -- d looks at none of x's, x at none of d's
    have ed : ∀ u, execOp (ev (put ρ x.o.dst u)) d.o = execOp (ev ρ) d.o := fun u => execOp_same d a5 a1
    have ex : ∀ v, execOp (ev (put ρ d.o.dst v)) x.o = execOp (ev ρ) x.o := fun v => execOp_same x a4 a3
    have wd : ∀ u, d.wanted (put ρ x.o.dst u) = d.wanted ρ := fun u => wanted_same d a1
    have wx : ∀ v, x.wanted (put ρ d.o.dst v) = x.wanted ρ := fun v => wanted_same x a3
    have pc : ∀ u v, put (put ρ x.o.dst u) d.o.dst v = put (put ρ d.o.dst v) x.o.dst u := fun u v => put_comm ρ u v a2
    simp only [List.cons_append] at h ⊢
    unfold wpS at h
    by_cases hwx : x.wanted ρ = true
    · rw [if_pos hwx] at h
      cases hkx : x.kind <;> rw [hkx] at h <;> simp only at h
      · -- x is pure
        obtain ⟨u, h1, h2⟩ := h
        have ih := hoist d L2 L1 pend _ H hpend hex hall' h2
        unfold After at ih ⊢
        rw [wd u, ed u] at ih
        have back : ∀ v H', wpS P K pend (L1 ++ L2) (put (put ρ x.o.dst u) d.o.dst v) H' → wpS P K pend (x :: (L1 ++ L2)) (put ρ d.o.dst v) H' := by
          intro v H' hh
          unfold wpS
          rw [wx, if_pos hwx, hkx]
          simp only
          exact ⟨u, by rw [ex]; exact h1, by rw [← pc]; exact hh⟩
        split
        · rename_i hwd
          rw [if_pos hwd] at ih
          cases hkd : d.kind <;> rw [hkd] at ih <;> simp only at ih ⊢
          · obtain ⟨v, h3, h4⟩ := ih; exact ⟨v, h3, back _ _ h4⟩
          · obtain ⟨v, h3, h4⟩ := ih; exact ⟨v, h3, back _ _ h4⟩
          · obtain ⟨mk, e, cs, h3, h4⟩ := ih; exact ⟨mk, e, cs, h3, fun b hb => back _ _ (h4 b hb)⟩
          · exact ih.mono fun v H' hh => ⟨hh.1, back _ _ hh.2⟩
        · rename_i hwd
          rw [if_neg hwd] at ih
          exact back _ _ ih
      · -- x reads
        obtain ⟨u, h1, h2⟩ := h
        have hpend' : PendOk P ((x.idx, fun H' => ReadsS P (execOp (ev ρ) x.o) H' u) :: pend) := by
          intro p hp
          rcases List.mem_cons.1 hp with rfl | hp
          · exact ⟨_, _, rfl⟩
          · exact hpend p hp
        have ih := hoist d L2 L1 _ _ H hpend' hex hall' h2
        unfold After at ih ⊢
        rw [wd u, ed u] at ih
        have back : ∀ v H', ReadsS P (execOp (ev ρ) x.o) H' u → wpS P K ((x.idx, fun H' => ReadsS P (execOp (ev ρ) x.o) H' u) :: pend) (L1 ++ L2) (put (put ρ x.o.dst u) d.o.dst v) H' → wpS P K pend (x :: (L1 ++ L2)) (put ρ d.o.dst v) H' := by
          intro v H' hr hh
          unfold wpS
          rw [wx, if_pos hwx, hkx]
          simp only
          rw [ex]
          exact ⟨u, hr, by rw [← pc]; exact hh⟩
        split
        · rename_i hwd
          rw [if_pos hwd] at ih
          cases hkd : d.kind <;> rw [hkd] at ih <;> simp only at ih ⊢
          · obtain ⟨v, h3, h4⟩ := ih; exact ⟨v, h3, back _ _ h1 h4⟩
          · obtain ⟨v, h3, h4⟩ := ih; exact ⟨v, h3, back _ _ h1 h4⟩
          · obtain ⟨mk, e, cs, h3, h4⟩ := ih; exact ⟨mk, e, cs, h3, fun b hb => back _ _ (h1.set hb) (h4 b hb)⟩
          · have hun : d.un.contains x.idx = true := by simpa [SOp.allow, hkx, hkd] using hallow
            exact ih.mono fun v H' hh => ⟨hh.1.2, back _ _ (hh.1.1 hun) hh.2⟩
        · rename_i hwd
          rw [if_neg hwd] at ih
          exact back _ _ h1 ih
      · -- x allocates: so does d
        have hkd : d.kind = .a := by
          cases hk : d.kind <;> simp [SOp.allow, hkx, hk] at hallow ⊢
        obtain ⟨mkx, e0, cs0, h1, h2⟩ := h
        have ih : ∀ bx, H bx = none → After P K pend (L1 ++ L2) d (put ρ x.o.dst (mkx bx)) (H.set bx (.row true e0 cs0)) := fun bx hbx =>
          hoist d L2 L1 pend _ _ hpend (exists_fits_set (o := .cells cs0.toArray e0) hex ⟨rfl, h1.1⟩) hall' (h2 bx hbx)
        unfold After at ih ⊢
        simp only [wd, ed] at ih
        have fold : ∀ v H', (∀ bx, H' bx = none → wpS P K pend (L1 ++ L2) (put (put ρ x.o.dst (mkx bx)) d.o.dst v) (H'.set bx (.row true e0 cs0))) → wpS P K pend (x :: (L1 ++ L2)) (put ρ d.o.dst v) H' := by
          intro v H' hh
          unfold wpS
          rw [wx, if_pos hwx, hkx]
          simp only
          exact ⟨mkx, e0, cs0, by rw [ex]; exact h1, fun bx hbx => by rw [← pc]; exact hh bx hbx⟩
        split
        · rename_i hwd
          simp only [if_pos hwd, hkd] at ih ⊢
          obtain ⟨w, hw⟩ := hex
          obtain ⟨mk, e, cs, h3, _⟩ := ih _ hw.fresh
          refine ⟨mk, e, cs, h3, fun b hb => fold _ _ fun bx hbx => ?_⟩
          have hne : bx ≠ b := by rintro rfl; simp [Heap.set_same] at hbx
          rw [Heap.set_ne _ _ _ _ hne] at hbx
          obtain ⟨mk', e', cs', h5, h6⟩ := ih bx hbx
          obtain ⟨rfl, rfl, rfl⟩ := h3.unique h5
          rw [Heap.set_comm H _ _ (Ne.symm hne)]
          exact h6 b (by rw [Heap.set_ne _ _ _ _ (Ne.symm hne)]; exact hb)
        · rename_i hwd
          simp only [if_neg hwd] at ih
          exact fold _ _ ih
      · -- x writes: d allocates
        have hkd : d.kind = .a := by
          cases hk : d.kind <;> simp [SOp.allow, hkx, hk] at hallow ⊢
        obtain ⟨w, hw⟩ := hex
        have ih : ∀ vx Hx, (∃ w, Fits Hx w) → wpS P K pend (L1 ++ d :: L2) (put ρ x.o.dst vx) Hx → After P K pend (L1 ++ L2) d (put ρ x.o.dst vx) Hx := fun vx Hx hx hh =>
          hoist d L2 L1 pend _ _ hpend hx hall' hh
        unfold After at ih ⊢
        simp only [wd, ed] at ih
        split
        · rename_i hwd
          simp only [if_pos hwd, hkd] at ih ⊢
          obtain ⟨vx, w', Hx, ⟨_, h4⟩, h5, _⟩ := runS_ex (h w hw)
          obtain ⟨mk, e, cs, h3, _⟩ := ih vx Hx ⟨w', h5⟩ h4
          refine ⟨mk, e, cs, h3, fun b hb => ?_⟩
          unfold wpS
          rw [wx, if_pos hwx, hkx]
          simp only
          rw [ex]
          intro w1 hw1
          refine runS_mono ((TriS.frame h hb) w1 hw1) fun v w2 ⟨H1, ⟨H', hn, ⟨hc, hq⟩, he⟩, hf, ht⟩ => ⟨H1, ⟨?_, ?_⟩, hf, ht⟩
          · rw [he]; exact chk_set hn _ _ hpend hc
          · subst he
            obtain ⟨mk', e', cs', h6, h7⟩ := ih v H' ⟨w2, fits_unset hn hf⟩ hq
            obtain ⟨rfl, rfl, rfl⟩ := h3.unique h6
            rw [← pc]
            exact h7 b hn
        · rename_i hwd
          simp only [if_neg hwd] at ih
          unfold wpS
          rw [wx, if_pos hwx, hkx]
          simp only
          rw [ex]
          intro w1 hw1
          exact runS_mono (h w1 hw1) fun v w2 ⟨H', ⟨hc, hq⟩, hf, ht⟩ => ⟨H', ⟨hc, by rw [← pc]; exact ih v H' ⟨w2, hf⟩ hq⟩, hf, ht⟩
    · rw [if_neg hwx] at h
      have ih := hoist d L2 L1 pend _ H hpend hex hall' h
      unfold After at ih ⊢
      rw [wd undef, ed undef] at ih
      have back : ∀ v H', wpS P K pend (L1 ++ L2) (put (put ρ x.o.dst undef) d.o.dst v) H' → wpS P K pend (x :: (L1 ++ L2)) (put ρ d.o.dst v) H' := by
        intro v H' hh
        unfold wpS
        rw [wx, if_neg hwx, ← pc]
        exact hh
      split
      · rename_i hwd
        rw [if_pos hwd] at ih
        cases hkd : d.kind <;> rw [hkd] at ih <;> simp only at ih ⊢
        · obtain ⟨v, h3, h4⟩ := ih; exact ⟨v, h3, back _ _ h4⟩
        · obtain ⟨v, h3, h4⟩ := ih; exact ⟨v, h3, back _ _ h4⟩
        · obtain ⟨mk, e, cs, h3, h4⟩ := ih; exact ⟨mk, e, cs, h3, fun b hb => back _ _ (h4 b hb)⟩
        · exact ih.mono fun v H' hh => ⟨hh.1, back _ _ hh.2⟩
      · rename_i hwd
        rw [if_neg hwd] at ih
        exact back _ _ ih
end Go.Am
