/- The interpreter's answers hold of every run, II: blocks, code, calls. No condition. -/
import Derived.Test.YtmephnenbboecaaAmZ
set_option linter.unusedVariables false
set_option linter.unusedSimpArgs false
namespace Go.Am

/-- How a block stands in memory: its cells, and room behind them. -/
def BR (σ : Ren) (k w : Nat) (B : Blk) (o : Option Blk) : Prop :=
  ∃ rw e cs cs' pad, B = .row rw e cs ∧ o = some (.row rw e (cs' ++ pad)) ∧ VRs σ cs cs' ∧ pad.length = k * w ∧ (w = 0 → k = 0)

structure Img (σ : Ren) (s : St) (H : Heap) : Prop where
  next : s.next = σ.length
  has : ∀ b w B, s.h.get b = some (w, B) → ∃ r k, σ[b]? = some (r, k) ∧ BR σ k w B (H r)
  inj : ∀ b c B C r k l, s.h.get b = some B → s.h.get c = some C → σ[b]? = some (r, k) → σ[c]? = some (r, l) → b = c

theorem Img.row {σ : Ren} {s : St} {H : Heap} (h : Img σ s H) {b : Nat} {cs : List Value} (hb : rowX s b = some cs) {r k : Nat} (hr : σ[b]? = some (r, k)) : ∃ cs' pad, H.row r = some (cs' ++ pad) ∧ VRs σ cs cs' := by
  unfold rowX at hb
  split at hb <;> first | (cases hb; done) | skip
  rename_i w rw e cs0 hg
  injection hb with hb; subst hb
  obtain ⟨r', k', h1, rw', e', cs1, cs', pad, h2, h3, h4, _⟩ := h.has b w _ hg
  rw [hr] at h1; injection h1 with h1; injection h1 with h1 h1'; subst h1; subst h1'
  injection h2 with h2 h2' h2''; subst h2; subst h2'; subst h2''
  exact ⟨cs', pad, by simp [Heap.row, h3], h4⟩

theorem Img.ld {σ : Ren} {s : St} {H : Heap} (h : Img σ s H) {x x' v : Value} (hx : VR σ x x') (hv : ldX s x = some v) : ∃ v', load1V H x' = some v' ∧ VR σ v v' := by
  cases hx <;> first | (cases hv; done) | skip
  rename_i b o r k hb
  simp only [ldX] at hv
  cases hr : rowX s b with
  | none => rw [hr] at hv; cases hv
  | some cs =>
    rw [hr] at hv
    obtain ⟨cs', pad, h1, h2⟩ := h.row hr hb
    obtain ⟨y, h3, h4⟩ := h2.get hv
    refine ⟨y, ?_, h4⟩
    simp only [load1V, h1]
    rw [List.getElem?_append_left (List.getElem?_eq_some_iff.1 h3).1]; exact h3

theorem Img.ldN {σ : Ren} {s : St} {H : Heap} (h : Img σ s H) {n : Nat} {x x' v : Value} (hx : VR σ x x') (hv : ldNX n s x = some v) : ∃ v', loadNV n H x' = some v' ∧ VR σ v v' := by
  cases hx <;> first | (cases hv; done) | skip
  rename_i b o r k hb
  simp only [ldNX] at hv
  cases hr : rowX s b with
  | none => rw [hr] at hv; cases hv
  | some cs =>
    rw [hr] at hv
    simp only at hv
    split at hv <;> first | (cases hv; done) | skip
    rename_i hl
    injection hv with hv; subst hv
    obtain ⟨cs', pad, h1, h2⟩ := h.row hr hb
    have hl' := h2.length
    refine ⟨_, ?_, .agg _ _ ((h2.drop o).take n)⟩
    simp only [loadNV, h1]
    rw [if_pos (by rw [List.length_append]; omega)]
    congr 3
    rw [List.drop_append, List.take_append]
    rw [show n - (cs'.drop o).length = 0 by rw [List.length_drop]; omega]
    simp

theorem Img.cells {σ : Ren} {s : St} {H : Heap} (h : Img σ s H) {n : Nat} {x x' : Value} {l : List Value} (hx : VR σ x x') (hv : cellsX s n x = some l) : ∃ l', cellsOf H n x' = some l' ∧ VRs σ l l' := by
  cases hx <;> first | (cases hv; done) | skip
  case nils m c =>
    simp only [cellsX] at hv
    split at hv <;> first | (cases hv; done) | skip
    rename_i hm
    injection hv with hv; subst hv
    exact ⟨[], by simp [cellsOf, hm], .nil⟩
  case sl b o m c r k hb =>
    simp only [cellsX] at hv
    split at hv
    · rename_i hm
      injection hv with hv; subst hv
      exact ⟨[], by simp only [cellsOf]; rw [if_pos hm], .nil⟩
    · rename_i hm
      split at hv <;> first | (cases hv; done) | skip
      · rename_i w0 e0 cs hg
        split at hv <;> first | (cases hv; done) | skip
        rename_i hl
        injection hv with hv; subst hv
        obtain ⟨r', k', h1, rw', e', cs1, cs', pad, h2, h3, h4, _⟩ := h.has b w0 _ hg
        rw [hb] at h1; injection h1 with h1; injection h1 with h1 h1'; subst h1; subst h1'
        injection h2 with h2 h2' h2''; subst h2; subst h2'; subst h2''
        have h2 := h4
        have hl' := h2.length
        refine ⟨_, ?_, (h2.drop o).take _⟩
        simp only [cellsOf, Heap.row, h3]
        rw [if_neg hm, if_pos ⟨by rw [List.length_append]; omega, by simp [Heap.rwB, h3, Blk.rw]⟩]
        congr 1
        rw [List.drop_append, List.take_append]
        rw [show m * n - (cs'.drop o).length = 0 by rw [List.length_drop]; omega]
        simp

theorem RExt.snoc (σ : Ren) (x : Nat × Nat) : RExt σ (σ ++ [x]) := ⟨[x], rfl⟩
theorem snoc_get (σ : Ren) (x : Nat × Nat) : (σ ++ [x])[σ.length]? = some x := by simp

theorem BR.ext {σ σ' : Ren} (h : RExt σ σ') {k w : Nat} {B : Blk} {o : Option Blk} (hb : BR σ k w B o) : BR σ' k w B o := by
  obtain ⟨rw, e, cs, cs', pad, h1, h2, h3, h4⟩ := hb
  exact ⟨rw, e, cs, cs', pad, h1, h2, h3.ext h, h4⟩

/-- A new name, of a block that is new or whose elder name is dead. -/
theorem Img.name {σ : Ren} {s s' : St} {H : Heap} (h : Img σ s H) {w : Nat} {e : TypeId} {cs cs' pad : List Value} {r k : Nat} (hh : s.h.set s.next (some (w, .row true e cs)) = some s'.h) (hn : s'.next = s.next + 1)
    (hr : ∀ b B l, s.h.get b = some B → σ[b]? ≠ some (r, l)) (hc : VRs σ cs cs') (hp : pad.length = k * w) (hw : w = 0 → k = 0) : Img (σ ++ [(r, k)]) s' (H.set r (.row true e (cs' ++ pad))) := by
  have hx : RExt σ (σ ++ [(r, k)]) := ⟨_, rfl⟩
  have hlt : ∀ b B, s.h.get b = some B → b < σ.length := by
    intro b B hb
    obtain ⟨w', B'⟩ := B
    obtain ⟨r', k', h1, _⟩ := h.has b w' B' hb
    exact (List.getElem?_eq_some_iff.1 h1).1
  refine ⟨by rw [hn, h.next]; simp, ?_, ?_⟩
  · intro b w' B hb
    rw [Tr.get_set _ _ _ _ hh b] at hb
    split at hb
    · rename_i hbn
      injection hb with hb; injection hb with hb1 hb2; subst hb1; subst hb2
      refine ⟨r, k, by rw [hbn, h.next]; exact snoc_get _ _, true, e, cs, cs', pad, rfl, Heap.set_same _ _ _, hc.ext hx, hp, hw⟩
    · obtain ⟨r', k', h1, h2⟩ := h.has b w' B hb
      have hne : r' ≠ r := by rintro rfl; exact hr b _ _ hb h1
      refine ⟨r', k', hx.get h1, ?_⟩
      rw [Heap.set_ne _ _ _ _ hne]
      exact h2.ext hx
  · intro b c B C r' k' l' hb hc hbσ hcσ
    rw [Tr.get_set _ _ _ _ hh b] at hb
    rw [Tr.get_set _ _ _ _ hh c] at hc
    have hold : ∀ d D, s.h.get d = some D → d ≠ s.next := fun d D hd => by have := hlt d D hd; rw [h.next]; omega
    split at hb
    · rename_i hbn
      split at hc
      · rename_i hcn; rw [hbn, hcn]
      · have h1 := hlt c C hc
        rw [List.getElem?_append_left h1] at hcσ
        rw [hbn, h.next, snoc_get] at hbσ
        injection hbσ with hbσ; injection hbσ with e1 e2; subst e1
        exact absurd hcσ (hr c C _ hc)
    · split at hc
      · rename_i hcn
        have h1 := hlt b B hb
        rw [List.getElem?_append_left h1] at hbσ
        rw [hcn, h.next, snoc_get] at hcσ
        injection hcσ with hcσ; injection hcσ with e1 e2; subst e1
        exact absurd hbσ (hr b B _ hb)
      · rw [List.getElem?_append_left (hlt b B hb)] at hbσ
        rw [List.getElem?_append_left (hlt c C hc)] at hcσ
        exact h.inj b c B C _ _ _ hb hc hbσ hcσ

theorem Img.fresh {σ : Ren} {s : St} {H : Heap} (h : Img σ s H) {r : Nat} (hr : H r = none) : ∀ b B l, s.h.get b = some B → σ[b]? ≠ some (r, l) := by
  intro b B l hb hh
  obtain ⟨w, B⟩ := B
  obtain ⟨r', k, h1, rw, e, cs, cs', pad, _, h3, _⟩ := h.has b w B hb
  rw [hh] at h1; injection h1 with h1; injection h1 with h1 _; subst h1
  rw [hr] at h3; cases h3

/-- New contents of a block. -/
theorem Img.put {σ : Ren} {s s' : St} {H : Heap} (h : Img σ s H) {b w : Nat} {e : TypeId} {cs0 cs cs' pad : List Value} {r k : Nat} (hb : s.h.get b = some (w, .row true e cs0)) (hr : σ[b]? = some (r, k)) (hh : s.h.set b (some (w, .row true e cs)) = some s'.h) (hn : s'.next = s.next)
    (hc : VRs σ cs cs') (hp : pad.length = k * w) : Img σ s' (H.set r (.row true e (cs' ++ pad))) := by
  obtain ⟨r0, k0, h1, _, _, _, _, _, _, _, _, _, hw⟩ := h.has b w _ hb
  rw [hr] at h1; injection h1 with h1; injection h1 with e1 e2; subst e1; subst e2
  have hold : ∀ d D, s'.h.get d = some D → ∃ D', s.h.get d = some D' := by
    intro d D hd
    rw [Tr.get_set _ _ _ _ hh d] at hd
    split at hd
    · rename_i hdb; subst hdb; exact ⟨_, hb⟩
    · exact ⟨_, hd⟩
  refine ⟨by rw [hn, h.next], ?_, ?_⟩
  · intro c w' B hc'
    rw [Tr.get_set _ _ _ _ hh c] at hc'
    split at hc'
    · rename_i hcb
      subst hcb
      injection hc' with hc'; injection hc' with e1 e2; subst e1; subst e2
      exact ⟨r, k, hr, true, e, cs, cs', pad, rfl, Heap.set_same _ _ _, hc, hp, hw⟩
    · rename_i hcb
      obtain ⟨r', k', h1, h2⟩ := h.has c w' B hc'
      have hne : r' ≠ r := by rintro rfl; exact hcb (h.inj c b _ _ _ _ _ hc' hb h1 hr)
      exact ⟨r', k', h1, by rw [Heap.set_ne _ _ _ _ hne]; exact h2⟩
  · intro c d C D r' k' l' hc' hd' h1 h2
    obtain ⟨C', hc2⟩ := hold c C hc'
    obtain ⟨D', hd2⟩ := hold d D hd'
    exact h.inj c d _ _ _ _ _ hc2 hd2 h1 h2

/-- A name that dies. -/
theorem Img.del {σ : Ren} {s s' : St} {H : Heap} (h : Img σ s H) {b : Nat} (hh : s.h.set b none = some s'.h) (hn : s'.next = s.next) : Img σ s' H := by
  have hold : ∀ d D, s'.h.get d = some D → s.h.get d = some D := by
    intro d D hd
    rw [Tr.get_set _ _ _ _ hh d] at hd
    split at hd
    · cases hd
    · exact hd
  exact ⟨by rw [hn, h.next], fun c w B hc => h.has c w B (hold c _ hc), fun c d C D r k l hc hd => h.inj c d C D r k l (hold c _ hc) (hold d _ hd)⟩

def Holds (s : St) : Prop := ∀ p ∈ s.obl, p.1 = .bool p.2
def ObSub (s s' : St) : Prop := ∀ p ∈ s.obl, p ∈ s'.obl
theorem Holds.of {s s' : St} (h : Holds s') (hs : ObSub s s') : Holds s := fun p hp => h p (hs p hp)
theorem ObSub.rfl {s : St} : ObSub s s := fun _ h => h
theorem ObSub.trans {a b c : St} (h : ObSub a b) (h' : ObSub b c) : ObSub a c := fun p hp => h' p (h p hp)

abbrev AfterX (σ : Ren) (v : Value) (s' : St) (Q : Value → Heap → Prop) : Prop := ∀ σ' v' H', RExt σ σ' → VR σ' v v' → Img σ' s' H' → Q v' H'

theorem new_ok {σ : Ren} {s s' : St} {H : Heap} {e : TypeId} {cs cs' : List Value} {v v0 : Value} {mk : Nat → Value} {Q : Value → Heap → Prop} (h : newX s 0 e cs v0 = some (v, s')) (hi : Img σ s H) (hc : VRs σ cs cs') (hv : ∀ r, VR (σ ++ [(r, 0)]) v0 (mk r)) (hQ : AfterX σ v s' Q) : ObSub s s' ∧ NewB H e cs' mk Q := by
  unfold newX at h
  split at h <;> first | (cases h; done) | skip
  rename_i h' hh
  injection h with h; injection h with h1 h2; subst h1; subst h2
  refine ⟨fun p hp => hp, fun b hb => hQ (σ ++ [(b, 0)]) _ _ ⟨_, rfl⟩ (hv b) ?_⟩
  have := hi.name (w := 0) (e := e) (cs := cs) (cs' := cs') (pad := []) (k := 0) (r := b) (s' := { s with h := h', next := s.next + 1 }) hh rfl (hi.fresh hb) hc (by simp) (fun _ => rfl)
  simpa using this

theorem blk_row {σ : Ren} {s : St} {H : Heap} (hi : Img σ s H) {b w : Nat} {rw : Bool} {e : TypeId} {cs : List Value} {r k : Nat} (hg : s.h.get b = some (w, .row rw e cs)) (hr : σ[b]? = some (r, k)) :
    ∃ cs' pad, H r = some (.row rw e (cs' ++ pad)) ∧ VRs σ cs cs' ∧ pad.length = k * w ∧ (w = 0 → k = 0) := by
  obtain ⟨r', k', h1, rw', e', cs1, cs', pad, h2, h3, h4, h5, h6⟩ := hi.has b w _ hg
  rw [hr] at h1; injection h1 with h1; injection h1 with e1 e2; subst e1; subst e2
  injection h2 with e1 e2 e3; subst e1; subst e2; subst e3
  exact ⟨cs', pad, h3, h4, h5, h6⟩

theorem splice_pad (cs vs pad : List Value) (o : Nat) (h : o + vs.length ≤ cs.length) : spliceL (cs ++ pad) o vs = spliceL cs o vs ++ pad := by
  unfold spliceL
  rw [List.take_append, List.drop_append, show o - cs.length = 0 by omega, show o + vs.length - cs.length = 0 by omega]
  simp

theorem stN_ok {σ : Ren} {s s' : St} {H : Heap} {n : Nat} {x x' v v' r : Value} {Q : Value → Heap → Prop} (h : stX n x v.cells.toList s = some (r, s')) (hi : Img σ s H) (hx : VR σ x x') (hv : VR σ v v') (hQ : AfterX σ r s' Q) :
    ObSub s s' ∧ stN n H x' v' Q := by
  cases hx <;> first | (cases h; done) | skip
  rename_i b o rr k hb
  simp only [stX] at h
  split at h <;> first | (cases h; done) | skip
  rename_i w e cs hg
  split at h <;> first | (cases h; done) | skip
  rename_i hc
  obtain ⟨hc1, hc2, hc3⟩ := hc
  unfold putX at h
  split at h <;> first | (cases h; done) | skip
  rename_i h' hh
  injection h with h; injection h with e1 e2; subst e1; subst e2
  obtain ⟨cs', pad, h1, h2, h3, h4⟩ := blk_row hi hg hb
  have hcells := hv.cells
  have hl := hcells.length
  have hl2 := h2.length
  refine ⟨fun p hp => hp, ?_⟩
  rw [stN_ptr]
  simp only [stNK, getRow_ok h1]
  refine ⟨by simp only [Array.length_toList] at hl hc1; omega, by rw [List.length_append]; omega, by rw [hcells.allOne]; exact hc3, ?_⟩
  refine hQ σ _ _ (RExt.refl σ) undef_ok ?_
  rw [splice_pad _ _ _ _ (by omega)]
  exact hi.put hg hb hh rfl (h2.splice hcells o) h3

theorem st1_ok {σ : Ren} {s s' : St} {H : Heap} {x x' v v' r : Value} {Q : Value → Heap → Prop} (h : st1X x v s = some (r, s')) (hi : Img σ s H) (hx : VR σ x x') (hv : VR σ v v') (hQ : AfterX σ r s' Q) :
    ObSub s s' ∧ Store1 H x' v' Q := by
  cases hx <;> first | (cases h; done) | skip
  rename_i b o rr k hb
  simp only [st1X] at h
  split at h <;> first | (cases h; done) | skip
  rename_i w e cs hg
  split at h <;> first | (cases h; done) | skip
  rename_i hc
  obtain ⟨hc1, hc2⟩ := hc
  unfold putX at h
  split at h <;> first | (cases h; done) | skip
  rename_i h' hh
  injection h with h; injection h with e1 e2; subst e1; subst e2
  obtain ⟨cs', pad, h1, h2, h3, h4⟩ := blk_row hi hg hb
  have hl2 := h2.length
  refine ⟨fun p hp => hp, ?_⟩
  rw [st1_ptr, getRow_ok h1, st1K_some]
  refine ⟨by rw [List.length_append]; omega, by rw [hv.one]; exact hc2, ?_⟩
  refine hQ σ _ _ (RExt.refl σ) undef_ok ?_
  rw [List.set_append_left _ _ (by omega)]
  exact hi.put hg hb hh rfl (h2.set hv o) h3

theorem cpy_ok {σ : Ren} {s s' : St} {H : Heap} {n : Nat} {d d' y y' r : Value} {Q : Value → Heap → Prop} (h : cpyX n d y s = some (r, s')) (hi : Img σ s H) (hd : VR σ d d') (hy : VR σ y y') (hQ : AfterX σ r s' Q) :
    ObSub s s' ∧ cpyWp n d' y' H Q := by
  have sl : ∀ {v v' : Value}, VR σ v v' → ∀ a n c, v = .slice a n c → ∃ a' c', v' = .slice a' n c' ∧ (∀ m, VR σ (.slice a m c) (.slice a' m c')) ∧ (∀ b o, a = some ⟨b, o, none⟩ → ∃ rr k, a' = some ⟨rr, o, none⟩ ∧ σ[b]? = some (rr, k)) := by
    intro v v' hv a n c he
    subst he
    cases hv with
    | nils => exact ⟨_, _, rfl, fun m => .nils _ _, fun _ _ hh => by cases hh⟩
    | sl b o n c r k hb => exact ⟨_, _, rfl, fun m => .sl _ _ _ _ _ _ hb, fun b' o' hh => by injection hh with hh; injection hh with e1 e2; subst e1; subst e2; exact ⟨_, _, rfl, hb⟩⟩
  unfold cpyX at h
  split at h <;> first | (cases h; done) | skip
  rename_i da dn dc sa sn sc
  obtain ⟨da', dc', rfl, _, hda⟩ := sl hd _ _ _ rfl
  obtain ⟨sa', sc', rfl, hsa, _⟩ := sl hy _ _ _ rfl
  simp only [cpyWp]
  split at h
  · rename_i hz
    injection h with h; injection h with e1 e2; subst e1; subst e2
    rw [if_pos hz]
    exact ⟨fun p hp => hp, hQ σ _ _ (RExt.refl σ) (.int _ _) hi⟩
  · rename_i hz
    rw [if_neg hz]
    split at h <;> first | (cases h; done) | skip
    rename_i news b o hn hda'
    obtain ⟨rr, k, rfl, hb⟩ := hda b o (by first | rfl | exact hda')
    split at h <;> first | (cases h; done) | skip
    rename_i w e cs hg
    split at h <;> first | (cases h; done) | skip
    rename_i hl
    unfold putX at h
    split at h <;> first | (cases h; done) | skip
    rename_i h' hh
    injection h with h; injection h with e1 e2; subst e1; subst e2
    obtain ⟨cs', pad, h1, h2, h3, h4⟩ := blk_row hi hg hb
    obtain ⟨news', h5, h6⟩ := hi.cells (hsa _) hn
    have hl2 := h2.length
    have hnl := (cellsOf_spec h5).1
    refine ⟨fun p hp => hp, ?_⟩
    rw [h5]
    simp only [h1]
    refine ⟨by rw [List.length_append]; omega, ?_⟩
    refine hQ σ _ _ (RExt.refl σ) (.int _ _) ?_
    rw [splice_pad _ _ _ _ (by omega)]
    exact hi.put hg hb hh rfl (h2.splice h6 o) h3

theorem grow_ok {σ : Ren} {s s' : St} {H : Heap} {e : TypeId} {bytes : Nat} {z : List Value} {b n m c rr k : Nat} {news news' : List Value} {r : Value} {xa : Option Addr} {xc : Nat} {Q : Value → Heap → Prop}
    (h : growX s e bytes z.length b n m c news = some (r, s')) (hi : Img σ s H) (hb : σ[b]? = some (rr, k)) (hx : cellsOf H z.length (.slice xa m xc) = some news') (hnews : VRs σ news news') (hm : m ≠ 0) (hQ : AfterX σ r s' Q) :
    ObSub s s' ∧ appWp e bytes z (.slice (some ⟨rr, 0, none⟩) n (c + k)) (.slice xa m xc) H Q := by
  unfold growX at h
  split at h <;> first | (cases h; done) | skip
  rename_i w e' cs hg
  split at h <;> first | (cases h; done) | skip
  rename_i hc
  obtain ⟨rfl, hst, hw, hnm, hbytes, hnc, hcs⟩ := hc
  obtain ⟨cs', pad, h1, h2, h3, h4⟩ := blk_row hi hg hb
  have hl2 := h2.length
  have hnl := (cellsOf_spec hx).1
  have hnl2 := hnews.length
  have hml : n + m ≤ maxLen := by unfold maxLen; omega
  simp only [appWp, hx]
  rw [if_neg hm]
  have hnst : n * z.length ≤ c * z.length := Nat.mul_le_mul_right _ hnc
  split at h
  · rename_i hfit
    unfold putX at h
    split at h <;> first | (cases h; done) | skip
    rename_i h' hh
    injection h with h; injection h with e1 e2; subst e1; subst e2
    have hfit2 : (n + m) * z.length ≤ c * z.length := Nat.mul_le_mul_right _ hfit
    rw [Nat.add_mul] at hfit2
    refine ⟨fun p hp => hp, fun _ => ?_, fun hh => by omega⟩
    simp only [h1]
    refine ⟨by rw [List.length_append, Nat.add_mul]; omega, ?_⟩
    refine hQ σ _ _ (RExt.refl σ) (.sl _ _ _ _ _ _ hb) ?_
    rw [Nat.zero_add, splice_pad _ _ _ _ (by omega)]
    exact hi.put hg hb hh rfl (h2.splice hnews _) h3
  · rename_i hfit
    split at h <;> first | (cases h; done) | skip
    rename_i hd hdel
    unfold newX at h
    split at h <;> first | (cases h; done) | skip
    rename_i h' hh
    injection h with h; injection h with e1 e2; subst e1; subst e2
    have hi2 : Img σ { s with h := hd } H := hi.del (b := b) hdel rfl
    have hgb : hd.get b = none := by rw [Tr.get_set _ _ _ _ hdel b, if_pos rfl]
    refine ⟨fun p hp => hp, fun hin => ?_, fun _ => ⟨hbytes, hml, ?_⟩⟩
    · -- in place
      have hw0 : w = z.length := by
        rcases hw with hw | hw
        · have := h4 hw; omega
        · exact hw
      subst hw0
      simp only [h1]
      have hin2 : (n + m) * z.length ≤ (c + k) * z.length := Nat.mul_le_mul_right _ hin
      rw [Nat.add_mul, Nat.add_mul] at hin2
      refine ⟨by rw [List.length_append, Nat.add_mul]; omega, ?_⟩
      have hQ' := hQ (σ ++ [(rr, c + k - (n + m))]) (.slice (some ⟨rr, 0, none⟩) (n + m) (c + k)) (H.set rr (.row true e (spliceL (cs' ++ pad) (0 + n * z.length) news'))) ⟨_, rfl⟩
      refine hQ' ?_ ?_
      · have e3 : c + k = (n + m) + (c + k - (n + m)) := by omega
        have hnx : s.next = σ.length := hi.next
        rw [e3, hnx]
        have := VR.sl (σ := σ ++ [(rr, n + m + (c + k - (n + m)) - (n + m))]) σ.length 0 (n + m) (n + m) rr (n + m + (c + k - (n + m)) - (n + m)) (snoc_get _ _)
        rw [show n + m + (c + k - (n + m)) - (n + m) = c + k - (n + m) by omega] at this
        rw [show n + m + (c + k - (n + m)) - (n + m) = c + k - (n + m) by omega]
        exact this
      · have e4 : spliceL (cs' ++ pad) (0 + n * z.length) news' = (cs'.take (n * z.length) ++ news') ++ (cs' ++ pad).drop (n * z.length + news'.length) := by
          unfold spliceL
          rw [Nat.zero_add, List.take_append, show n * z.length - cs'.length = 0 by omega]
          simp
        rw [e4]
        refine hi2.name (w := z.length) hh rfl ?_ ((h2.take _).append hnews) ?_ ?_
        · intro c' C l hc' hσ
          have hc2 : s.h.get c' = some C := by
            have := Tr.get_set _ _ _ _ hdel c'
            rw [this] at hc'
            split at hc' <;> first | (cases hc'; done) | exact hc'
          have := hi.inj c' b C _ _ _ _ hc2 hg hσ hb
          subst this
          rw [hgb] at hc'; cases hc'
        · rw [List.length_drop, List.length_append, Nat.sub_mul, Nat.add_mul, Nat.add_mul]; omega
        · intro hz; rw [hz] at h3; rcases hw with hw | hw <;> (have := h4 (by omega); omega)
    · -- a new array
      have holds : cellsOf H z.length (.slice (some ⟨rr, 0, none⟩) n (c + k)) = some (cs'.take (n * z.length)) := by
        simp only [cellsOf, Heap.row, h1]
        split
        · rename_i hz; rw [hz]; simp
        · rw [if_pos ⟨by rw [List.length_append]; omega, by simp [Heap.rwB, h1, Blk.rw]⟩]
          simp [List.take_append, show n * z.length - cs'.length = 0 by omega]
      rw [holds]
      intro b' cap hb' hcap
      have hQ' := hQ (σ ++ [(b', cap - (n + m))]) (.slice (some ⟨b', 0, none⟩) (n + m) cap) (H.set b' (.row true e (cs'.take (n * z.length) ++ news' ++ repl (cap - (n + m)) z))) ⟨_, rfl⟩
      refine hQ' ?_ ?_
      · have hnx : s.next = σ.length := hi.next
        rw [hnx]
        have := VR.sl (σ := σ ++ [(b', cap - (n + m))]) σ.length 0 (n + m) (n + m) b' (cap - (n + m)) (snoc_get _ _)
        rw [show n + m + (cap - (n + m)) = cap by omega] at this
        exact this
      · exact hi2.name (w := z.length) hh rfl (hi2.fresh hb') ((h2.take _).append hnews) (by rw [length_repl]) (fun h0 => absurd h0 hst)

theorem app_ok {σ : Ren} {s s' : St} {H : Heap} {e : TypeId} {bytes : Nat} {z : List Value} {x x' y y' : Value} {r : Value} {Q : Value → Heap → Prop}
    (h : appX e bytes z.length x y s = some (r, s')) (hi : Img σ s H) (hx : VR σ x x') (hy : VR σ y y') (hQ : AfterX σ r s' Q) :
    ObSub s s' ∧ appWp e bytes z x' y' H Q := by
  unfold appX at h
  split at h <;> first | (cases h; done) | skip
  rename_i ya m yc
  split at h <;> first | (cases h; done) | skip
  rename_i news hn
  have hy2 : ∃ ya' yc', y' = .slice ya' m yc' := by cases hy <;> exact ⟨_, _, rfl⟩
  obtain ⟨ya', yc', rfl⟩ := hy2
  obtain ⟨news', h5, h6⟩ := hi.cells hy hn
  have hnl := (cellsOf_spec h5).1
  have hnl2 := h6.length
  split at h <;> first | (cases h; done) | skip
  · cases hx
    simp only [appWp, h5, and_self, if_true]
    split at h
    · rename_i hm
      injection h with h; injection h with e1 e2; subst e1; subst e2
      rw [if_pos hm]
      exact ⟨fun p hp => hp, hQ σ _ _ (RExt.refl σ) (.nils _ _) hi⟩
    · rename_i hm
      rw [if_neg hm]
      split at h <;> first | (cases h; done) | skip
      rename_i hc
      obtain ⟨hst, hbytes, hml⟩ := hc
      unfold newX at h
      split at h <;> first | (cases h; done) | skip
      rename_i h' hh
      injection h with h; injection h with e1 e2; subst e1; subst e2
      refine ⟨fun p hp => hp, hbytes, by unfold maxLen; omega, fun b' cap hb' hcap => ?_⟩
      have hQ' := hQ (σ ++ [(b', cap - m)]) (.slice (some ⟨b', 0, none⟩) m cap) (H.set b' (.row true e (news' ++ repl (cap - m) z))) ⟨_, rfl⟩
      refine hQ' ?_ ?_
      · have hnx : s.next = σ.length := hi.next
        rw [hnx]
        have := VR.sl (σ := σ ++ [(b', cap - m)]) σ.length 0 m m b' (cap - m) (snoc_get _ _)
        rw [show m + (cap - m) = cap by omega] at this
        exact this
      · exact hi.name (w := z.length) hh rfl (hi.fresh hb') h6 (by rw [length_repl]) (fun h0 => absurd h0 hst)
  · cases hx
    rename_i b o n c r k hb
    split at h
    · rename_i hm
      split at h <;> first | (cases h; done) | skip
      rename_i hnc
      injection h with h; injection h with e1 e2; subst e1; subst e2
      simp only [appWp, h5]
      rw [if_pos hm]
      exact ⟨fun p hp => hp, by omega, hQ σ _ _ (RExt.refl σ) (.sl _ _ _ _ _ _ hb) hi⟩
    · rename_i hm
      split at h <;> first | (cases h; done) | skip
      rename_i ho
      subst ho
      exact grow_ok h hi hb h5 h6 hm hQ

def CallOk (P : Program) (cx : CallX) : Prop := ∀ f args s v s', cx f args s = some (v, s') → ObSub s s' ∧ (Holds s' → ∀ σ H args', VRs σ args args' → Img σ s H → ACalls P f args' H fun v' H' => ∃ σ', RExt σ σ' ∧ VR σ' v v' ∧ Img σ' s' H')

theorem fn_list (f : Fn) {σ : Ren} {a c : Array Value} {v' : Value} (h : VR σ (.func f a c) v') : ∃ a' c', v' = .func f ⟨a'⟩ ⟨c'⟩ ∧ VRs σ a.toList a' ∧ VRs σ c.toList c' := by
  cases h with | fn _ a c a' c' h1 h2 => exact ⟨a', c', rfl, h1, h2⟩

theorem w_ok {P : Program} {cx : CallX} (hcx : CallOk P cx) {σ : Ren} {s s' : St} {H : Heap} {ρ : Tr Value} {ρ' : Env} {e : WExp} {r : Value} {Q : Value → Heap → Prop} (he : okW e = true)
    (h : wX cx e ρ s = some (r, s')) (hρ : ER σ ρ ρ') (hi : Img σ s H) : ObSub s s' ∧ (Holds s' → AfterX σ r s' Q → (AAct.w e).wp P ρ' H Q) := by
  have fromNew : ∀ {e0 : TypeId} {cs cs' : List Value} {v0 : Value} {mk : Nat → Value}, newX s 0 e0 cs v0 = some (r, s') → VRs σ cs cs' → (∀ r, VR (σ ++ [(r, 0)]) v0 (mk r)) → ObSub s s' ∧ (AfterX σ r s' Q → NewB H e0 cs' mk Q) := by
    intro e0 cs cs' v0 mk hn hc hv
    exact ⟨(new_ok (Q := fun _ _ => True) hn hi hc hv (fun _ _ _ _ _ _ => trivial)).1, fun hQ => (new_ok hn hi hc hv hQ).2⟩
  have hnx := hi.next
  cases e with
  | alloc e z =>
    simp only [wX, hnx] at h
    obtain ⟨h1, h2⟩ := fromNew (mk := mkPtr) h (leafs_ok he) (fun r => .ptr _ _ _ _ (snoc_get _ _))
    exact ⟨h1, fun _ hQ => by rw [act_alloc]; exact h2 hQ⟩
  | box e x =>
    simp only [wX, hnx] at h
    split at h <;> first | (cases h; done) | skip
    rename_i ha
    have hc := (hρ.ev (x := x) he).cells
    obtain ⟨h1, h2⟩ := fromNew (mk := mkPtr) h hc (fun r => .ptr _ _ _ _ (snoc_get _ _))
    exact ⟨h1, fun _ hQ => by rw [act_box]; exact ⟨by rw [hc.allOne]; exact ha, h2 hQ⟩⟩
  | bslice e n z ps =>
    simp only [wX, hnx] at h
    simp only [okW, Bool.and_eq_true] at he
    split at h <;> first | (cases h; done) | skip
    rename_i cs hf
    split at h <;> first | (cases h; done) | skip
    rename_i ha
    obtain ⟨cs', h3, h4⟩ := fill_ok hρ he.2 ((leafs_ok he.1).repl n) hf
    obtain ⟨h1, h2⟩ := fromNew (mk := mkSl n n) h h4 (fun r => .sl _ _ _ _ _ _ (snoc_get _ _))
    exact ⟨h1, fun _ hQ => by rw [act_bslK, h3, bslK_some]; exact ⟨by rw [h4.allOne]; exact ha, h2 hQ⟩⟩
  | mksl e bytes z l c =>
    simp only [wX, hnx] at h
    simp only [okW, Bool.and_eq_true] at he
    have hl := hρ.ev he.1.2
    have hc := hρ.ev he.2
    split at h <;> first | (cases h; done) | skip
    rename_i k1 l0 k2 c0 hl0 hc0
    rw [hl0] at hl; rw [hc0] at hc
    cases hl' : ev ρ' l <;> rw [hl'] at hl <;> cases hl
    cases hc' : ev ρ' c <;> rw [hc'] at hc <;> cases hc
    split at h <;> first | (cases h; done) | skip
    rename_i hh
    obtain ⟨g1, g2, g3, g4⟩ := hh
    obtain ⟨h1, h2⟩ := fromNew (mk := mkSl l0.toNat c0.toNat) h ((leafs_ok he.1.1).repl _) (fun r => .sl _ _ _ _ _ _ (snoc_get _ _))
    exact ⟨h1, fun _ hQ => by rw [act_mkslK, hl', hc', mksl_ok _ _ _ _ _ _ _ g1 g2 g3 g4]; exact h2 hQ⟩
  | st1 x v =>
    simp only [okW, Bool.and_eq_true] at he
    simp only [wX] at h
    exact ⟨(st1_ok (Q := fun _ _ => True) h hi (hρ.ev he.1) (hρ.ev he.2) (fun _ _ _ _ _ _ => trivial)).1, fun _ hQ => by rw [act_st1]; exact (st1_ok h hi (hρ.ev he.1) (hρ.ev he.2) hQ).2⟩
  | stN n x v =>
    simp only [okW, Bool.and_eq_true] at he
    simp only [wX] at h
    exact ⟨(stN_ok (Q := fun _ _ => True) h hi (hρ.ev he.1) (hρ.ev he.2) (fun _ _ _ _ _ _ => trivial)).1, fun _ hQ => by rw [act_stNK]; exact (stN_ok h hi (hρ.ev he.1) (hρ.ev he.2) hQ).2⟩
  | app e bytes z x y =>
    simp only [okW, Bool.and_eq_true] at he
    simp only [wX] at h
    exact ⟨(app_ok (Q := fun _ _ => True) h hi (hρ.ev he.1.2) (hρ.ev he.2) (fun _ _ _ _ _ _ => trivial)).1, fun _ hQ => by rw [act_app]; exact (app_ok h hi (hρ.ev he.1.2) (hρ.ev he.2) hQ).2⟩
  | cpy n d y =>
    simp only [okW, Bool.and_eq_true] at he
    simp only [wX] at h
    exact ⟨(cpy_ok (Q := fun _ _ => True) h hi (hρ.ev he.1) (hρ.ev he.2) (fun _ _ _ _ _ _ => trivial)).1, fun _ hQ => by rw [act_cpy]; exact (cpy_ok h hi (hρ.ev he.1) (hρ.ev he.2) hQ).2⟩
  | call f args =>
    simp only [wX] at h
    obtain ⟨h1, h2⟩ := hcx _ _ _ _ _ h
    refine ⟨h1, fun hH hQ => ?_⟩
    rw [act_call]
    exact (h2 hH σ H _ (hρ.evs he) hi).mono fun v' H' ⟨σ', h3, h4, h5⟩ => hQ σ' v' H' h3 h4 h5
  | callv x args =>
    simp only [okW, Bool.and_eq_true] at he
    simp only [wX] at h
    split at h <;> first | (cases h; done) | skip
    rename_i f a c hf
    obtain ⟨h1, h2⟩ := hcx _ _ _ _ _ h
    refine ⟨h1, fun hH hQ => ?_⟩
    have hx := hρ.ev he.1
    rw [hf] at hx
    obtain ⟨a', c', g1, g2, g3⟩ := fn_list _ hx
    rw [act_callvK, g1, callvK_fn]
    exact (h2 hH σ H _ ((g2.append (hρ.evs he.2)).append g3) hi).mono fun v' H' ⟨σ', h3, h4, h5⟩ => hQ σ' v' H' h3 h4 h5
  | ext k args => cases h

theorem orc_mono (v : Value) (s : St) : ObSub s (orcV v s).2 := by
  unfold orcV
  split
  · exact ObSub.rfl
  · cases Nat.beq _ s.cnt
    · exact fun _ h => h
    · exact fun p hp => List.mem_cons_of_mem _ hp

theorem orc_ok {σ : Ren} {s : St} {H : Heap} {v v' : Value} (hv : VR σ v v') (hi : Img σ s H) (hH : Holds (orcV v s).2) : VR σ (orcV v s).1 v' ∧ Img σ (orcV v s).2 H := by
  unfold orcV at *
  split
  · exact ⟨hv, hi⟩
  · rename_i k b r ho
    rw [ho] at hH
    simp only at hH
    cases hk : Nat.beq k s.cnt with
    | false => exact ⟨hv, ⟨hi.next, hi.has, hi.inj⟩⟩
    | true =>
      rw [hk] at hH
      have h1 : v = .bool b := hH (v, b) (List.mem_cons_self ..)
      refine ⟨?_, ⟨hi.next, hi.has, hi.inj⟩⟩
      rw [h1] at hv; exact hv

theorem pass_mono {c : Bool} {s s' : St} (h : passX c s = some s') : ObSub s s' := by
  unfold passX at h
  split at h
  · cases c <;> simp at h
    subst h; exact ObSub.rfl
  · cases hk : Nat.beq _ s.cnt with
    | true => rw [hk] at h; simp only [cond_true, Option.some.injEq] at h; subst h; exact fun p hp => List.mem_cons_of_mem _ hp
    | false =>
      rw [hk] at h
      cases c <;> simp at h
      subst h; exact fun _ h => h

theorem pass_ok {c : Bool} {s s' : St} (h : passX c s = some s') (hH : Holds s') : c = true ∧ ∀ {σ : Ren} {H : Heap}, Img σ s H → Img σ s' H := by
  unfold passX at h
  split at h
  · cases c <;> simp at h
    subst h; exact ⟨rfl, id⟩
  · cases hk : Nat.beq _ s.cnt with
    | true =>
      rw [hk] at h; simp only [cond_true, Option.some.injEq] at h; subst h
      have h1 := hH (.bool c, true) (List.mem_cons_self ..)
      simp only [Value.bool.injEq] at h1
      exact ⟨h1, fun hi => ⟨hi.next, hi.has, hi.inj⟩⟩
    | false =>
      rw [hk] at h
      cases c <;> simp at h
      subst h; exact ⟨rfl, fun hi => ⟨hi.next, hi.has, hi.inj⟩⟩

theorem act_ok {P : Program} {cx : CallX} (hcx : CallOk P cx) {σ : Ren} {s s' : St} {H : Heap} {ρ : Tr Value} {ρ' : Env} {a : AAct} {r : Value} {Q : Value → Heap → Prop} (ha : okA a = true)
    (h : actX cx a ρ s = some (r, s')) (hρ : ER σ ρ ρ') (hi : Img σ s H) : ObSub s s' ∧ (Holds s' → AfterX σ r s' Q → a.wp P ρ' H Q) := by
  cases a with
  | p e =>
    simp only [actX] at h
    split at h <;> first | (cases h; done) | skip
    rename_i v hv
    injection h with h
    have e1 : r = (orcV v s).1 := by rw [h]
    have e2 : s' = (orcV v s).2 := by rw [h]
    subst e1; subst e2
    obtain ⟨v', h1, h2⟩ := val_ok hρ ha hv
    exact ⟨orc_mono v s, fun hH hQ => by rw [act_p, h1]; exact hQ σ _ _ (RExt.refl σ) (orc_ok h2 hi hH).1 (orc_ok h2 hi hH).2⟩
  | r1 x =>
    simp only [actX] at h
    split at h <;> first | (cases h; done) | skip
    rename_i v hv
    injection h with h; injection h with e1 e2; subst e1; subst e2
    obtain ⟨v', h1, h2⟩ := hi.ld (hρ.ev (x := x) ha) hv
    exact ⟨ObSub.rfl, fun _ hQ => by rw [act_r1, h1]; exact hQ σ _ _ (RExt.refl σ) h2 hi⟩
  | rN n x =>
    simp only [actX] at h
    split at h <;> first | (cases h; done) | skip
    rename_i v hv
    injection h with h; injection h with e1 e2; subst e1; subst e2
    obtain ⟨v', h1, h2⟩ := hi.ldN (hρ.ev (x := x) ha) hv
    exact ⟨ObSub.rfl, fun _ hQ => by rw [act_rN, h1]; exact hQ σ _ _ (RExt.refl σ) h2 hi⟩
  | w e => exact w_ok hcx ha h hρ hi

theorem newX_mono {s s' : St} {w : Nat} {e : TypeId} {cs : List Value} {v v0 : Value} (h : newX s w e cs v0 = some (v, s')) : ObSub s s' := by
  unfold newX at h
  split at h <;> first | (cases h; done) | (injection h with h; injection h with e1 e2; subst e2; exact fun _ h => h)
theorem putX_mono {s s' : St} {b w : Nat} {e : TypeId} {cs : List Value} {v v0 : Value} (h : putX s b w e cs v0 = some (v, s')) : ObSub s s' := by
  unfold putX at h
  split at h <;> first | (cases h; done) | (injection h with h; injection h with e1 e2; subst e2; exact fun _ h => h)
theorem growX_mono {s s' : St} {e : TypeId} {bytes st b n m c : Nat} {news : List Value} {v : Value} (h : growX s e bytes st b n m c news = some (v, s')) : ObSub s s' := by
  unfold growX at h
  split at h <;> first | (cases h; done) | skip
  split at h <;> first | (cases h; done) | skip
  split at h
  · exact putX_mono h
  · split at h <;> first | (cases h; done) | skip
    rename_i hd _
    exact newX_mono (s := { s with h := hd }) h
theorem same_mono {s s' : St} {v v' : Value} (h : some (v, s) = some (v', s')) : ObSub s s' := by
  injection h with h; injection h with _ h; subst h; exact fun _ h => h
theorem appX_mono {s s' : St} {e : TypeId} {bytes st : Nat} {x y v : Value} (h : appX e bytes st x y s = some (v, s')) : ObSub s s' := by
  unfold appX at h
  split at h <;> first | (cases h; done) | skip
  split at h <;> first | (cases h; done) | skip
  split at h <;> first | (cases h; done) | skip
  · split at h
    · exact same_mono h
    · split at h <;> first | (cases h; done) | skip
      exact newX_mono h
  · split at h
    · split at h <;> first | (cases h; done) | skip
      exact same_mono h
    · split at h <;> first | (cases h; done) | skip
      exact growX_mono h
theorem cpyX_mono {s s' : St} {n : Nat} {x y v : Value} (h : cpyX n x y s = some (v, s')) : ObSub s s' := by
  unfold cpyX at h
  split at h <;> first | (cases h; done) | skip
  split at h
  · exact same_mono h
  · split at h <;> first | (cases h; done) | skip
    split at h <;> first | (cases h; done) | skip
    split at h <;> first | (cases h; done) | skip
    exact putX_mono h
theorem stX_mono {s s' : St} {n : Nat} {x v : Value} {vs : List Value} (h : stX n x vs s = some (v, s')) : ObSub s s' := by
  unfold stX at h
  split at h <;> first | (cases h; done) | skip
  split at h <;> first | (cases h; done) | skip
  split at h <;> first | (cases h; done) | skip
  exact putX_mono h
theorem st1X_mono {s s' : St} {x u v : Value} (h : st1X x u s = some (v, s')) : ObSub s s' := by
  unfold st1X at h
  split at h <;> first | (cases h; done) | skip
  split at h <;> first | (cases h; done) | skip
  split at h <;> first | (cases h; done) | skip
  exact putX_mono h

def CallMono (cx : CallX) : Prop := ∀ f args s v s', cx f args s = some (v, s') → ObSub s s'
theorem CallOk.mono {P : Program} {cx : CallX} (h : CallOk P cx) : CallMono cx := fun f args s v s' hh => (h f args s v s' hh).1

theorem wX_mono {cx : CallX} (hcx : CallMono cx) {e : WExp} {ρ : Tr Value} {s s' : St} {v : Value} (h : wX cx e ρ s = some (v, s')) : ObSub s s' := by
  cases e <;> simp only [wX] at h
  case alloc => exact newX_mono h
  case box => split at h <;> first | (cases h; done) | exact newX_mono h
  case bslice =>
    split at h <;> first | (cases h; done) | skip
    split at h <;> first | (cases h; done) | exact newX_mono h
  case mksl =>
    split at h <;> first | (cases h; done) | skip
    split at h <;> first | (cases h; done) | exact newX_mono h
  case st1 => exact st1X_mono h
  case stN => exact stX_mono h
  case app => exact appX_mono h
  case cpy => exact cpyX_mono h
  case call => exact hcx _ _ _ _ _ h
  case callv => split at h <;> first | (cases h; done) | exact hcx _ _ _ _ _ h
  case ext => cases h

theorem actX_mono {cx : CallX} (hcx : CallMono cx) {a : AAct} {ρ : Tr Value} {s s' : St} {v : Value} (h : actX cx a ρ s = some (v, s')) : ObSub s s' := by
  cases a <;> simp only [actX] at h
  case w => exact wX_mono hcx h
  case p =>
    split at h <;> first | (cases h; done) | skip
    rename_i v0 _
    injection h with h
    have e2 : s' = (orcV v0 s).2 := by rw [h]
    subst e2
    exact orc_mono v0 s
  all_goals (split at h <;> first | (cases h; done) | exact same_mono h)

theorem opsX_mono {cx : CallX} (hcx : CallMono cx) : ∀ {os : List AOper} {ρ ρ' : Tr Value} {s s' : St}, opsX cx os ρ s = some (ρ', s') → ObSub s s'
  | [], ρ, ρ', s, s', h => by
    simp only [opsX, Option.some.injEq, Prod.mk.injEq] at h
    obtain ⟨rfl, rfl⟩ := h; exact ObSub.rfl
  | o :: os, ρ, ρ', s, s', h => by
    simp only [opsX] at h
    cases hw : wantedG o.g (evT ρ) with
    | true =>
      rw [hw] at h; simp only [cond_true] at h
      split at h <;> first | (cases h; done) | skip
      rename_i v s1 ha
      split at h <;> first | (cases h; done) | skip
      exact (actX_mono hcx ha).trans (opsX_mono hcx h)
    | false =>
      rw [hw] at h; simp only [cond_false] at h
      split at h <;> first | (cases h; done) | skip
      exact opsX_mono hcx h

theorem drawX_mono {cx : CallX} (hcx : CallMono cx) : ∀ {os : List DOper} {pend : List PX} {ρ ρ' : Tr Value} {s s' : St}, drawX cx pend os ρ s = some (ρ', s') → ObSub s s'
  | [], _, ρ, ρ', s, s', h => by
    simp only [drawX, Option.some.injEq, Prod.mk.injEq] at h
    obtain ⟨rfl, rfl⟩ := h; exact ObSub.rfl
  | o :: os, pend, ρ, ρ', s, s', h => by
    simp only [drawX] at h
    cases hw : wantedG o.op.g (evT ρ) with
    | true =>
      rw [hw] at h; simp only [cond_true] at h
      split at h <;> first | (cases h; done) | skip
      rename_i v s1 ha
      split at h <;> first | (cases h; done) | skip
      refine (actX_mono hcx ha).trans ?_
      split at h
      · exact drawX_mono hcx h
      · exact drawX_mono hcx h
      · exact drawX_mono hcx h
      · split at h <;> first | (cases h; done) | skip
        rename_i s2 hp2
        exact (pass_mono hp2).trans (drawX_mono hcx h)
    | false =>
      rw [hw] at h; simp only [cond_false] at h
      split at h <;> first | (cases h; done) | skip
      exact drawX_mono hcx h

theorem branch_mono {s s' : St} {v : Value} {b : Bool} (h : branch s v = some (b, s')) : ObSub s s' := by
  unfold branch at h
  split at h
  · split at h <;> first | (cases h; done) | (injection h with h; injection h with e1 e2; subst e2; exact fun _ h => h)
  · rename_i k b0 r ho
    cases hk : Nat.beq k s.cnt with
    | true => rw [hk] at h; simp only [cond_true] at h; injection h with h; injection h with e1 e2; subst e2; exact fun p hp => List.mem_cons_of_mem _ hp
    | false =>
      rw [hk] at h; simp only [cond_false] at h
      split at h <;> first | (cases h; done) | (injection h with h; injection h with e1 e2; subst e2; exact fun _ h => h)

theorem iterX_mono {f : Tr Value → St → Option (AExit × Tr Value × St)} (hf : ∀ ρ s e ρ' s', f ρ s = some (e, ρ', s') → ObSub s s') : ∀ {n : Nat} {ρ ρ' : Tr Value} {s s' : St} {e : AExit}, iterX f n ρ s = some (e, ρ', s') → ObSub s s'
  | 0, _, _, _, _, _, h => by cases h
  | n + 1, ρ, ρ', s, s', e, h => by
    simp only [iterX] at h
    split at h
    · rename_i ρ1 s1 h1
      exact (hf _ _ _ _ _ h1).trans (iterX_mono hf h)
    · exact hf _ _ _ _ _ h

theorem execX_mono {cx : CallX} (hcx : CallMono cx) (fuel : Nat) : ∀ {c : ACode} {ρ ρ' : Tr Value} {s s' : St} {e : AExit}, execX cx fuel c ρ s = some (e, ρ', s') → ObSub s s'
  | .skip, _, _, _, _, _, h => by simp only [execX] at h; injection h with h; injection h with _ h; injection h with _ h; subst h; exact ObSub.rfl
  | .ret, _, _, _, _, _, h => by simp only [execX] at h; injection h with h; injection h with _ h; injection h with _ h; subst h; exact ObSub.rfl
  | .exit _, _, _, _, _, _, h => by simp only [execX] at h; injection h with h; injection h with _ h; injection h with _ h; subst h; exact ObSub.rfl
  | .region os, _, _, _, _, _, h => by
    simp only [execX] at h
    split at h <;> first | (cases h; done) | skip
    rename_i h1
    injection h with h; injection h with _ h; injection h with _ h; subst h
    exact opsX_mono hcx h1
  | .draw os, _, _, _, _, _, h => by
    simp only [execX] at h
    split at h <;> first | (cases h; done) | skip
    rename_i h1
    injection h with h; injection h with _ h; injection h with _ h; subst h
    exact drawX_mono hcx h1
  | .seq a b, _, _, _, _, _, h => by
    simp only [execX] at h
    split at h
    · rename_i h1; exact (execX_mono hcx fuel h1).trans (execX_mono hcx fuel h)
    · exact execX_mono hcx fuel h
  | .cond c a b, _, _, _, _, _, h => by
    simp only [execX] at h
    split at h <;> first | (cases h; done) | skip
    · rename_i h1; exact (branch_mono h1).trans (execX_mono hcx fuel h)
    · rename_i h1; exact (branch_mono h1).trans (execX_mono hcx fuel h)
  | .block id a, _, _, _, _, _, h => by
    simp only [execX] at h
    split at h
    · rename_i i ρ1 s1 h1
      refine (execX_mono hcx fuel h1).trans ?_
      cases hi : Nat.beq i id with
      | true => rw [hi] at h; injection h with h; injection h with _ h; injection h with _ h; subst h; exact ObSub.rfl
      | false => rw [hi] at h; injection h with h; injection h with _ h; injection h with _ h; subst h; exact ObSub.rfl
    · exact execX_mono hcx fuel h
  | .loop a, _, _, _, _, _, h => by
    simp only [execX] at h
    exact iterX_mono (fun ρ s e ρ' s' h => execX_mono hcx fuel h) h

abbrev AfterE (σ : Ren) (ρ2 : Tr Value) (s' : St) (K : Env → Heap → Prop) : Prop := ∀ σ' ρ' H', RExt σ σ' → ER σ' ρ2 ρ' → Img σ' s' H' → K ρ' H'

theorem ops_ok {P : Program} {cx : CallX} (hcx : CallOk P cx) {K : Env → Heap → Prop} : ∀ {os : List AOper} {σ : Ren} {s s' : St} {H : Heap} {ρ ρ2 : Tr Value} {ρ' : Env}, (os.all fun o => okA o.act) = true →
    opsX cx os ρ s = some (ρ2, s') → ER σ ρ ρ' → Img σ s H → Holds s' → AfterE σ ρ2 s' K → wpOpsA P K os ρ' H
  | [], σ, s, s', H, ρ, ρ2, ρ', _, h, hρ, hi, hH, hQ => by
    simp only [opsX, Option.some.injEq, Prod.mk.injEq] at h
    obtain ⟨rfl, rfl⟩ := h
    exact hQ σ _ _ (RExt.refl σ) hρ hi
  | o :: os, σ, s, s', H, ρ, ρ2, ρ', hok, h, hρ, hi, hH, hQ => by
    simp only [List.all_cons, Bool.and_eq_true] at hok
    simp only [opsX] at h
    unfold wpOpsA
    rw [hρ.want]
    cases hw : wantedG o.g (evT ρ) with
    | true =>
      rw [hw] at h
      simp only [cond_true] at h
      split at h <;> first | (cases h; done) | skip
      rename_i v s1 ha
      split at h <;> first | (cases h; done) | skip
      rename_i ρ1 hp
      rw [if_pos rfl]
      refine (act_ok hcx hok.1 ha hρ hi).2 (hH.of (opsX_mono hcx.mono h)) ?_
      intro σ1 v1 H1 hx hv hi1
      exact ops_ok hcx hok.2 h ((hρ.ext hx).put hv hp) hi1 hH fun σ2 ρ3 H2 hx2 => hQ σ2 ρ3 H2 (hx.trans hx2)
    | false =>
      rw [hw] at h
      simp only [cond_false] at h
      split at h <;> first | (cases h; done) | skip
      rename_i ρ1 hp
      rw [if_neg (by decide)]
      exact ops_ok hcx hok.2 h (hρ.put undef_ok hp) hi hH hQ

theorem sameL_eq : ∀ {x y : Value}, sameL x y = true → x = y
  | .int k n, .int k' n', h => by simp [sameL] at h; rw [h.1, h.2]
  | .bool a, .bool b, h => by simp [sameL] at h; rw [h]
  | .pointer a, .pointer b, h => by simp [sameL] at h; rw [h]
  | .slice a n c, .slice b n' c', h => by simp [sameL] at h; rw [h.1.1, h.1.2, h.2]
  | .nilFunc, .nilFunc, _ => rfl
  | .nilIface, .nilIface, _ => rfl
theorem sameLs_eq : ∀ {xs ys : List Value}, sameLs xs ys = true → xs = ys
  | [], [], _ => rfl
  | x :: xs, y :: ys, h => by
    simp only [sameLs, Bool.and_eq_true] at h
    rw [sameL_eq h.1, sameLs_eq h.2]
theorem sameV_eq {x y : Value} (h : sameV x y = true) : x = y := by
  unfold sameV at h
  split at h
  · rename_i xs ys; rw [Array.toList_inj.1 (sameLs_eq h)]
  · exact sameL_eq h

mutual
theorem VR.det {σ : Ren} : ∀ {x y z : Value}, VR σ x y → VR σ x z → y = z
  | _, _, _, .bool _, .bool _ => rfl
  | _, _, _, .int _ _, .int _ _ => rfl
  | _, _, _, .str _, .str _ => rfl
  | _, _, _, .nilp, .nilp => rfl
  | _, _, _, .ptr b o r k h, .ptr _ _ r' k' h' => by
    rw [h] at h'; injection h' with h'; injection h' with e1 e2; rw [e1]
  | _, _, _, .nils _ _, .nils _ _ => rfl
  | _, _, _, .sl b o n c r k h, .sl _ _ _ _ r' k' h' => by
    rw [h] at h'; injection h' with h'; injection h' with e1 e2; rw [e1, e2]
  | _, _, _, .fn f a c a' c' h1 h2, .fn _ _ _ a2 c2 h3 h4 => by rw [VRs.det h1 h3, VRs.det h2 h4]
  | _, _, _, .nilf, .nilf => rfl
  | _, _, _, .nili, .nili => rfl
  | _, _, _, .agg xs ys h, .agg _ zs h' => by rw [VRs.det h h']
  | _, _, _, .tup xs ys h, .tup _ zs h' => by rw [VRs.det h h']
theorem VRs.det {σ : Ren} : ∀ {xs ys zs : List Value}, VRs σ xs ys → VRs σ xs zs → ys = zs
  | _, _, _, .nil, .nil => rfl
  | _, _, _, .cons x y xs ys h hs, .cons _ z _ zs h' hs' => by rw [VR.det h h', VRs.det hs hs']
end

inductive PR (σ : Ren) : List PX → List (Nat × (Heap → Prop)) → Prop where
  | nil : PR σ [] []
  | r1 (i : Nat) (a v a' v' : Value) (ps : List PX) (qs : List (Nat × (Heap → Prop))) (ha : VR σ a a') (hv : VR σ v v') (h : PR σ ps qs) : PR σ (⟨i, none, a, v⟩ :: ps) ((i, fun H' => load1V H' a' = some v') :: qs)
  | rN (i n : Nat) (a v a' v' : Value) (ps : List PX) (qs : List (Nat × (Heap → Prop))) (ha : VR σ a a') (hv : VR σ v v') (h : PR σ ps qs) : PR σ (⟨i, some n, a, v⟩ :: ps) ((i, fun H' => loadNV n H' a' = some v') :: qs)

theorem PR.ext {σ σ' : Ren} (hx : RExt σ σ') {ps : List PX} {qs : List (Nat × (Heap → Prop))} (h : PR σ ps qs) : PR σ' ps qs := by
  induction h with
  | nil => exact .nil
  | r1 i a v a' v' ps qs ha hv _ ih => exact .r1 i a v a' v' ps qs (ha.ext hx) (hv.ext hx) ih
  | rN i n a v a' v' ps qs ha hv _ ih => exact .rN i n a v a' v' ps qs (ha.ext hx) (hv.ext hx) ih

theorem chk1 {σ : Ren} {s : St} {H : Heap} (hi : Img σ s H) {un : List Nat} {ps : List PX} {qs : List (Nat × (Heap → Prop))} (h : PR σ ps qs) (hc : chkX s un ps = true) {i : Nat} (hiu : i ∈ un) : lookP i H qs := by
  induction h with
  | nil => trivial
  | r1 j a v a' v' ps qs ha hv _ ih =>
    simp only [chkX, Bool.and_eq_true] at hc
    have h2 := ih hc.2
    rw [lookP_cons]
    split
    · rename_i hij
      subst hij
      have h1 := hc.1
      rw [List.contains_iff_mem.2 hiu] at h1
      simp only [rdX, cond_true] at h1
      split at h1 <;> first | (cases h1; done) | skip
      rename_i v2 hv2
      have e := sameV_eq h1
      subst e
      obtain ⟨v3, h3, h4⟩ := hi.ld ha hv2
      rw [← hv.det h4] at h3
      exact ⟨h3, h2⟩
    · exact h2
  | rN j n a v a' v' ps qs ha hv _ ih =>
    simp only [chkX, Bool.and_eq_true] at hc
    have h2 := ih hc.2
    rw [lookP_cons]
    split
    · rename_i hij
      subst hij
      have h1 := hc.1
      rw [List.contains_iff_mem.2 hiu] at h1
      simp only [rdX, cond_true] at h1
      split at h1 <;> first | (cases h1; done) | skip
      rename_i v2 hv2
      have e := sameV_eq h1
      subst e
      obtain ⟨v3, h3, h4⟩ := hi.ldN ha hv2
      rw [← hv.det h4] at h3
      exact ⟨h3, h2⟩
    · exact h2

theorem chk_ok {σ : Ren} {s : St} {H : Heap} (hi : Img σ s H) {ps : List PX} {qs : List (Nat × (Heap → Prop))} (h : PR σ ps qs) {un : List Nat} (hc : chkX s un ps = true) : chkA un H qs := by
  have : ∀ l : List Nat, (∀ i ∈ l, i ∈ un) → chkA l H qs := by
    intro l
    induction l with
    | nil => intro _; trivial
    | cons i l ih => intro hl; exact ⟨chk1 hi h hc (hl i (by simp)), ih fun j hj => hl j (by simp [hj])⟩
  exact this un fun _ h => h

theorem draw_ok {P : Program} {cx : CallX} (hcx : CallOk P cx) {K : Env → Heap → Prop} : ∀ {os : List DOper} {σ : Ren} {s s' : St} {H : Heap} {ρ ρ2 : Tr Value} {ρ' : Env} {ps : List PX} {qs : List (Nat × (Heap → Prop))}, (os.all fun o => okA o.op.act) = true →
    drawX cx ps os ρ s = some (ρ2, s') → ER σ ρ ρ' → Img σ s H → PR σ ps qs → Holds s' → AfterE σ ρ2 s' K → wpDrawA P K qs os ρ' H
  | [], σ, s, s', H, ρ, ρ2, ρ', ps, qs, _, h, hρ, hi, _, hH, hQ => by
    simp only [drawX, Option.some.injEq, Prod.mk.injEq] at h
    obtain ⟨rfl, rfl⟩ := h
    exact hQ σ _ _ (RExt.refl σ) hρ hi
  | o :: os, σ, s, s', H, ρ, ρ2, ρ', ps, qs, hok, h, hρ, hi, hp, hH, hQ => by
    simp only [List.all_cons, Bool.and_eq_true] at hok
    simp only [drawX] at h
    unfold wpDrawA
    rw [hρ.want]
    cases hw : wantedG o.op.g (evT ρ) with
    | true =>
      rw [hw] at h
      simp only [cond_true] at h
      split at h <;> first | (cases h; done) | skip
      rename_i v s1 ha
      split at h <;> first | (cases h; done) | skip
      rename_i ρ1 hput
      rw [if_pos rfl]
      have hok1 := hok.1
      cases hact : o.op.act with
      | p e =>
        rw [hact] at h ha hok1
        simp only at h ⊢
        simp only [actX] at ha
        split at ha <;> first | (cases ha; done) | skip
        rename_i v0 hv0
        injection ha with ha
        have e1 : v = (orcV v0 s).1 := by rw [ha]
        have e2 : s1 = (orcV v0 s).2 := by rw [ha]
        subst e1; subst e2
        obtain ⟨v', h1, h2⟩ := val_ok hρ hok1 hv0
        rw [h1]
        have h3 := orc_ok h2 hi (hH.of (drawX_mono hcx.mono h))
        exact draw_ok hcx hok.2 h (hρ.put h3.1 hput) h3.2 hp hH hQ
      | r1 x =>
        rw [hact] at h ha hok1
        simp only at h ⊢
        simp only [actX] at ha
        split at ha <;> first | (cases ha; done) | skip
        rename_i v0 hv0
        injection ha with ha; injection ha with e1 e2; subst e1; subst e2
        have hx := hρ.ev (x := x) hok1
        obtain ⟨v', h1, h2⟩ := hi.ld hx hv0
        rw [h1]
        exact draw_ok hcx hok.2 h (hρ.put h2 hput) hi (.r1 _ _ _ _ _ _ _ hx h2 hp) hH hQ
      | rN n x =>
        rw [hact] at h ha hok1
        simp only at h ⊢
        simp only [actX] at ha
        split at ha <;> first | (cases ha; done) | skip
        rename_i v0 hv0
        injection ha with ha; injection ha with e1 e2; subst e1; subst e2
        have hx := hρ.ev (x := x) hok1
        obtain ⟨v', h1, h2⟩ := hi.ldN hx hv0
        rw [h1]
        exact draw_ok hcx hok.2 h (hρ.put h2 hput) hi (.rN _ _ _ _ _ _ _ _ hx h2 hp) hH hQ
      | w e =>
        rw [hact] at h ha hok1
        simp only at h ⊢
        split at h <;> first | (cases h; done) | skip
        rename_i s2 hp2
        have hH2 := hH.of (drawX_mono hcx.mono h)
        obtain ⟨hc, hi2⟩ := pass_ok hp2 hH2
        show (AAct.w e).wp P ρ' H (fun v H' => chkA o.un H' qs ∧ wpDrawA P K qs os (put ρ' o.op.dst v) H')
        refine (act_ok hcx (a := .w e) hok1 ha hρ hi).2 (hH2.of (pass_mono hp2)) ?_
        intro σ1 v1 H1 hx hv hi1
        exact ⟨chk_ok hi1 (hp.ext hx) hc, draw_ok hcx hok.2 h ((hρ.ext hx).put hv hput) (hi2 hi1) (hp.ext hx) hH fun σ2 ρ3 H2 hx2 => hQ σ2 ρ3 H2 (hx.trans hx2)⟩
    | false =>
      rw [hw] at h
      simp only [cond_false] at h
      split at h <;> first | (cases h; done) | skip
      rename_i ρ1 hput
      rw [if_neg (by decide)]
      exact draw_ok hcx hok.2 h (hρ.put undef_ok hput) hi hp hH hQ

/-- Which way: what the value is. -/
theorem branch_ok {σ : Ren} {s s' : St} {H : Heap} {v v' : Value} {b : Bool} (h : branch s v = some (b, s')) (hi : Img σ s H) (hv : VR σ v v') (hH : Holds s') : v' = .bool b ∧ Img σ s' H := by
  unfold branch at h
  have key : ∀ {b : Bool}, v = .bool b → v' = .bool b := by intro b hb; subst hb; cases hv; rfl
  split at h
  · split at h <;> first | (cases h; done) | skip
    injection h with h; injection h with e1 e2; subst e1; subst e2
    exact ⟨key rfl, hi⟩
  · rename_i k b0 r ho
    cases hk : Nat.beq k s.cnt with
    | true =>
      rw [hk] at h; simp only [cond_true] at h
      injection h with h; injection h with e1 e2; subst e1; subst e2
      exact ⟨key (hH (v, b0) (by simp)), ⟨hi.next, hi.has, hi.inj⟩⟩
    | false =>
      rw [hk] at h; simp only [cond_false] at h
      split at h <;> first | (cases h; done) | skip
      injection h with h; injection h with e1 e2; subst e1; subst e2
      exact ⟨key rfl, ⟨hi.next, hi.has, hi.inj⟩⟩

abbrev AfterC (σ : Ren) (e : AExit) (ρ2 : Tr Value) (s' : St) (Q : AExit → Env → Heap → Prop) : Prop := ∀ σ' ρ' H', RExt σ σ' → ER σ' ρ2 ρ' → Img σ' s' H' → Q e ρ' H'

/-- The rounds of a loop that are run. -/
def rounds (P : Program) (a : ACode) (Q : AExit → Env → Heap → Prop) : Nat → Env → Heap → Prop
  | 0 => fun _ _ => False
  | n + 1 => wpA P a (thenA (rounds P a Q n) Q)

theorem least {p : Nat → Prop} (h : ∃ n, p n) : ∃ m, p m ∧ ∀ k, p k → m ≤ k := by
  obtain ⟨n, hn⟩ := h
  induction n using Nat.strongRecOn with
  | ind n ih =>
    by_cases hh : ∃ k, k < n ∧ p k
    · obtain ⟨k, h1, h2⟩ := hh; exact ih k h1 h2
    · exact ⟨n, hn, fun k hk => Nat.le_of_not_lt fun hlt => hh ⟨k, hlt, hk⟩⟩

open Classical in
noncomputable def leastN (p : Nat → Prop) : Nat := if h : ∃ n, p n then (least h).choose else 0
theorem leastN_spec {p : Nat → Prop} (h : ∃ n, p n) : p (leastN p) ∧ ∀ k, p k → leastN p ≤ k := by
  unfold leastN; rw [dif_pos h]; exact (least h).choose_spec

theorem loop_of_rounds {P : Program} {a : ACode} {Q : AExit → Env → Heap → Prop} {n : Nat} {ρ : Env} {H : Heap} (h : rounds P a Q n ρ H) : wpA P (.loop a) Q ρ H := by
  refine ⟨fun ρ H => ∃ n, rounds P a Q n ρ H, fun ρ H => leastN fun n => rounds P a Q n ρ H, ⟨n, h⟩, ?_⟩
  intro ρ' H' hI
  have hs := (leastN_spec hI).1
  cases hm : leastN (fun n => rounds P a Q n ρ' H') with
  | zero => rw [hm] at hs; exact hs.elim
  | succ m =>
    rw [hm] at hs
    refine wpA_mono a _ _ ρ' H' (fun e ρ2 H2 hh => ?_) hs
    cases e with
    | normal =>
      refine ⟨⟨m, hh⟩, ?_⟩
      show leastN (fun n => rounds P a Q n ρ2 H2) < leastN fun n => rounds P a Q n ρ' H'
      rw [hm]
      exact Nat.lt_succ_of_le ((leastN_spec (p := fun n => rounds P a Q n ρ2 H2) ⟨m, hh⟩).2 m hh)
    | ret => exact hh
    | exit i => exact hh

def CodeOk (P : Program) (a : ACode) (f : Tr Value → St → Option (AExit × Tr Value × St)) : Prop :=
  ∀ {Q : AExit → Env → Heap → Prop} {σ : Ren} {s s' : St} {H : Heap} {ρ ρ2 : Tr Value} {ρ' : Env} {e : AExit}, f ρ s = some (e, ρ2, s') → ER σ ρ ρ' → Img σ s H → Holds s' → AfterC σ e ρ2 s' Q → wpA P a Q ρ' H

theorem iter_ok {P : Program} {a : ACode} {f : Tr Value → St → Option (AExit × Tr Value × St)} (hf : CodeOk P a f) (hm : ∀ ρ s e ρ' s', f ρ s = some (e, ρ', s') → ObSub s s') : ∀ (n : Nat) {Q : AExit → Env → Heap → Prop} {σ : Ren} {s s' : St} {H : Heap} {ρ ρ2 : Tr Value} {ρ' : Env} {e : AExit},
    iterX f n ρ s = some (e, ρ2, s') → ER σ ρ ρ' → Img σ s H → Holds s' → AfterC σ e ρ2 s' Q → rounds P a Q n ρ' H
  | 0, _, _, _, _, _, _, _, _, _, h, _, _, _, _ => by cases h
  | n + 1, Q, σ, s, s', H, ρ, ρ2, ρ', e, h, hρ, hi, hH, hQ => by
    simp only [iterX] at h
    unfold rounds
    split at h
    · rename_i ρ1 s1 h1
      refine hf h1 hρ hi (hH.of (iterX_mono hm h)) ?_
      intro σ1 ρ3 H1 hx hρ1 hi1
      exact iter_ok hf hm n h hρ1 hi1 hH fun σ2 ρ4 H2 hx2 => hQ σ2 ρ4 H2 (hx.trans hx2)
    · rename_i hne
      refine hf h hρ hi hH ?_
      intro σ1 ρ3 H1 hx hρ1 hi1
      have hq := hQ σ1 ρ3 H1 hx hρ1 hi1
      cases e with
      | normal => exact (hne _ _ h).elim
      | ret => exact hq
      | exit i => exact hq

theorem exec_ok {P : Program} {cx : CallX} (hcx : CallOk P cx) (fuel : Nat) : ∀ {c : ACode}, okC c = true → CodeOk P c (execX cx fuel c)
  | .skip, _, Q, σ, s, s', H, ρ, ρ2, ρ', e, h, hρ, hi, hH, hQ => by
    simp only [execX, Option.some.injEq, Prod.mk.injEq] at h
    obtain ⟨rfl, rfl, rfl⟩ := h
    exact hQ σ _ _ (RExt.refl σ) hρ hi
  | .ret, _, Q, σ, s, s', H, ρ, ρ2, ρ', e, h, hρ, hi, hH, hQ => by
    simp only [execX, Option.some.injEq, Prod.mk.injEq] at h
    obtain ⟨rfl, rfl, rfl⟩ := h
    exact hQ σ _ _ (RExt.refl σ) hρ hi
  | .exit i, _, Q, σ, s, s', H, ρ, ρ2, ρ', e, h, hρ, hi, hH, hQ => by
    simp only [execX, Option.some.injEq, Prod.mk.injEq] at h
    obtain ⟨rfl, rfl, rfl⟩ := h
    exact hQ σ _ _ (RExt.refl σ) hρ hi
  | .region os, hok, Q, σ, s, s', H, ρ, ρ2, ρ', e, h, hρ, hi, hH, hQ => by
    simp only [execX] at h
    split at h <;> first | (cases h; done) | skip
    rename_i h1
    injection h with h; injection h with e1 h; injection h with e2 e3; subst e1; subst e2; subst e3
    exact ops_ok hcx hok h1 hρ hi hH hQ
  | .draw os, hok, Q, σ, s, s', H, ρ, ρ2, ρ', e, h, hρ, hi, hH, hQ => by
    simp only [execX] at h
    split at h <;> first | (cases h; done) | skip
    rename_i h1
    injection h with h; injection h with e1 h; injection h with e2 e3; subst e1; subst e2; subst e3
    exact draw_ok hcx hok h1 hρ hi .nil hH hQ
  | .seq a b, hok, Q, σ, s, s', H, ρ, ρ2, ρ', e, h, hρ, hi, hH, hQ => by
    simp only [okC, Bool.and_eq_true] at hok
    simp only [execX] at h
    unfold wpA
    split at h
    · rename_i ρ1 s1 h1
      refine exec_ok hcx fuel hok.1 h1 hρ hi (hH.of (execX_mono hcx.mono fuel h)) ?_
      intro σ1 ρ3 H1 hx hρ1 hi1
      exact exec_ok hcx fuel hok.2 h hρ1 hi1 hH fun σ2 ρ4 H2 hx2 => hQ σ2 ρ4 H2 (hx.trans hx2)
    · rename_i hne
      refine exec_ok hcx fuel hok.1 h hρ hi hH ?_
      intro σ1 ρ3 H1 hx hρ1 hi1
      have hq := hQ σ1 ρ3 H1 hx hρ1 hi1
      cases e with
      | normal => exact (hne _ _ h).elim
      | ret => exact hq
      | exit i => exact hq
  | .cond c a b, hok, Q, σ, s, s', H, ρ, ρ2, ρ', e, h, hρ, hi, hH, hQ => by
    simp only [okC, Bool.and_eq_true] at hok
    simp only [execX] at h
    unfold wpA
    split at h <;> first | (cases h; done) | skip
    · rename_i s1 hb
      obtain ⟨h1, h2⟩ := branch_ok hb hi (hρ.ev hok.1.1) (hH.of (execX_mono hcx.mono fuel h))
      rw [h1]
      exact exec_ok hcx fuel hok.1.2 h hρ h2 hH hQ
    · rename_i s1 hb
      obtain ⟨h1, h2⟩ := branch_ok hb hi (hρ.ev hok.1.1) (hH.of (execX_mono hcx.mono fuel h))
      rw [h1]
      exact exec_ok hcx fuel hok.2 h hρ h2 hH hQ
  | .block id a, hok, Q, σ, s, s', H, ρ, ρ2, ρ', e, h, hρ, hi, hH, hQ => by
    simp only [execX] at h
    have hok : okC a = true := by simpa [okC] using hok
    unfold wpA
    split at h
    · rename_i i ρ1 s1 h1
      cases hb : Nat.beq i id with
      | true =>
        rw [hb] at h
        injection h with h; injection h with e1 h; injection h with e2 e3; subst e1; subst e2; subst e3
        have hid := Nat.eq_of_beq_eq_true hb
        refine exec_ok hcx fuel hok h1 hρ hi hH ?_
        intro σ1 ρ3 H1 hx hρ1 hi1
        simp only [inBlockA, hid, if_true]
        exact hQ σ1 ρ3 H1 hx hρ1 hi1
      | false =>
        rw [hb] at h
        injection h with h; injection h with e1 h; injection h with e2 e3; subst e1; subst e2; subst e3
        have hid : i ≠ id := Nat.ne_of_beq_eq_false hb
        refine exec_ok hcx fuel hok h1 hρ hi hH ?_
        intro σ1 ρ3 H1 hx hρ1 hi1
        simp only [inBlockA, hid, if_false]
        exact hQ σ1 ρ3 H1 hx hρ1 hi1
    · rename_i hne
      refine exec_ok hcx fuel hok h hρ hi hH ?_
      intro σ1 ρ3 H1 hx hρ1 hi1
      have hq := hQ σ1 ρ3 H1 hx hρ1 hi1
      cases e with
      | normal => exact hq
      | ret => exact hq
      | exit i => exact (hne _ _ _ h).elim
  | .loop a, hok, Q, σ, s, s', H, ρ, ρ2, ρ', e, h, hρ, hi, hH, hQ => by
    simp only [execX] at h
    have hok : okC a = true := by simpa [okC] using hok
    exact loop_of_rounds (iter_ok (a := a) (f := fun ρ s => execX cx fuel a ρ s) (fun {_ _ _ _ _ _ _ _ _} h => exec_ok hcx fuel hok h) (fun _ _ _ _ _ h => execX_mono hcx.mono fuel h) _ h hρ hi hH hQ)

theorem res1_ok {σ : Ren} {s : St} {H : Heap} {ρ : Tr Value} {ρ' : Env} (hρ : ER σ ρ ρ') (hi : Img σ s H) {r : ARes} {v : Value} (h : resX1 ρ s r = some v) : ∃ v', r.val ρ' H = some v' ∧ VR σ v v' := by
  cases r with
  | tmp t => simp only [resX1, Option.some.injEq] at h; subst h; exact ⟨_, rfl, hρ t⟩
  | c1 t => exact hi.ld (hρ t) h
  | cN n t => exact hi.ldN (hρ t) h

theorem ress_ok {σ : Ren} {s : St} {H : Heap} {ρ : Tr Value} {ρ' : Env} (hρ : ER σ ρ ρ') (hi : Img σ s H) : ∀ {rs : List ARes} {vs : List Value}, resXs ρ s rs = some vs → ∃ vs', resVals ρ' H rs = some vs' ∧ VRs σ vs vs'
  | [], vs, h => by simp only [resXs, Option.some.injEq] at h; subst h; exact ⟨[], rfl, .nil⟩
  | r :: rs, vs, h => by
    simp only [resXs] at h
    split at h <;> first | (cases h; done) | skip
    rename_i v vs0 h1 h2
    injection h with h; subst h
    obtain ⟨v', g1, g2⟩ := res1_ok hρ hi h1
    obtain ⟨vs', g3, g4⟩ := ress_ok hρ hi h2
    exact ⟨v' :: vs', by simp only [resVals, g1, g3], .cons _ _ _ _ g2 g4⟩

theorem res_ok {σ : Ren} {s : St} {H : Heap} {ρ : Tr Value} {ρ' : Env} (hρ : ER σ ρ ρ') (hi : Img σ s H) {rs : List ARes} {v : Value} (h : resX ρ s rs = some v) : ∃ v', resV ρ' H rs = some v' ∧ VR σ v v' := by
  have many : ∀ rs, (match resXs ρ s rs with | some vs => some (Value.tuple vs.toArray) | none => none) = some v → ∃ v', (resVals ρ' H rs).map (fun vs => Value.tuple vs.toArray) = some v' ∧ VR σ v v' := by
    intro rs h
    split at h <;> first | (cases h; done) | skip
    rename_i vs hvs
    injection h with h; subst h
    obtain ⟨vs', h1, h2⟩ := ress_ok hρ hi hvs
    exact ⟨_, by rw [h1]; rfl, .tup _ _ h2⟩
  match rs, h with
  | [], h => exact many [] h
  | [r], h => exact res1_ok hρ hi h
  | r :: r2 :: rs, h => exact many (r :: r2 :: rs) h

theorem fillX_get : ∀ {l : List Value} {i : Nat} {ρ ρ' : Tr Value}, fillX l i ρ = some ρ' → ∀ t, ρ'.get t = if i ≤ t ∧ t < i + l.length then l[t - i]? else ρ.get t
  | [], i, ρ, ρ', h, t => by
    simp only [fillX, Option.some.injEq] at h; subst h
    rw [if_neg (by rw [List.length_nil]; omega)]
  | v :: l, i, ρ, ρ', h, t => by
    simp only [fillX] at h
    split at h <;> first | (cases h; done) | skip
    rename_i ρ1 h1
    rw [fillX_get h t, Tr.get_set _ _ _ _ h1 t]
    by_cases ht : t = i
    · subst ht
      rw [if_neg (by omega), if_pos rfl, if_pos (by rw [List.length_cons]; omega), Nat.sub_self]
      rfl
    · by_cases h2 : i + 1 ≤ t ∧ t < i + 1 + l.length
      · have h3 : i ≤ t ∧ t < i + (v :: l).length := by simp; omega
        rw [if_pos h2, if_pos h3]
        rw [show t - i = (t - (i + 1)) + 1 by omega, List.getElem?_cons_succ]
      · have h3 : ¬ (i ≤ t ∧ t < i + (v :: l).length) := by simp; omega
        rw [if_neg h2, if_neg h3, if_neg ht]

theorem fill_env {σ : Ren} {l l' : List Value} {d : Nat} {ρ : Tr Value} (h : fillX l 0 (Tr.full d) = some ρ) (hl : VRs σ l l') : ER σ ρ (envOf l') := by
  intro t
  simp only [evT, fillX_get h t, Nat.zero_le, true_and, Nat.zero_add, Nat.sub_zero, Tr.get_full, envOf]
  by_cases ht : t < l.length
  · rw [if_pos ht]
    obtain ⟨x, hx⟩ : ∃ x, l[t]? = some x := ⟨_, List.getElem?_eq_getElem ht⟩
    obtain ⟨y, hy, hxy⟩ := hl.get hx
    rw [hx, List.getD_eq_getElem?_getD, hy]
    exact hxy
  · rw [if_neg ht, List.getD_eq_getElem?_getD, List.getElem?_eq_none (by have := hl.length; omega)]
    exact undef_ok

/-- What a table of functions has to keep. -/
structure TblOk (P : Program) (ext : FuncId → List Value → Option Value) (tbl : Tr AFunc) : Prop where
  mixed : P.follows .mixedOrders = true
  run : ∀ f F, tbl.get f = some F → callable P f = true ∧ compFunc P f = some F ∧ okC F.code = true
  ext : ∀ f args v, ext f args = some v → ∀ σ args' H, VRs σ args args' → ACalls P f args' H fun v' H' => VR σ v v' ∧ H' = H

theorem runX_ok {P : Program} {ext : FuncId → List Value → Option Value} {tbl : Tr AFunc} (ht : TblOk P ext tbl) (fuel : Nat) : ∀ n, CallOk P (runX ext tbl fuel n)
  | 0 => fun _ _ _ _ _ h => by cases h
  | n + 1 => by
    intro f args s v s' h
    have ih := runX_ok ht fuel n
    simp only [runX] at h
    split at h
    · rename_i v0 he
      injection h with h; injection h with e1 e2; subst e1; subst e2
      refine ⟨ObSub.rfl, fun _ σ H args' ha hi => (ht.ext f args _ he σ args' H ha).mono ?_⟩
      rintro v' H' ⟨h1, rfl⟩
      exact ⟨σ, RExt.refl σ, h1, hi⟩
    · split at h <;> first | (cases h; done) | skip
      rename_i F hF
      obtain ⟨hcall, hcomp, hok⟩ := ht.run f F hF
      split at h <;> first | (cases h; done) | skip
      rename_i hargs
      split at h <;> first | (cases h; done) | skip
      rename_i ρ hfill
      have fin : ∀ {e : AExit} {ρ1 : Tr Value} {s1 : St}, execX (runX ext tbl fuel n) fuel F.code ρ s = some (e, ρ1, s1) → (e = .normal ∨ e = .ret) → (match resX ρ1 s1 F.res with | some v => some (v, s1) | none => none) = some (v, s') →
          ObSub s s' ∧ (Holds s' → ∀ σ H args', VRs σ args args' → Img σ s H → ACalls P f args' H fun v' H' => ∃ σ', RExt σ σ' ∧ VR σ' v v' ∧ Img σ' s' H') := by
        intro e ρ1 s1 hx he hr
        split at hr <;> first | (cases hr; done) | skip
        rename_i v0 hv0
        injection hr with hr; injection hr with e1 e2; subst e1; subst e2
        refine ⟨execX_mono ih.mono fuel hx, fun hH σ H args' ha hi => ?_⟩
        refine acalls_of_wp ht.mixed hcall hcomp (by rw [← ha.length]; exact hargs) ?_
        refine exec_ok ih fuel hok hx (fill_env hfill ha) hi hH ?_
        intro σ1 ρ3 H1 hx1 hρ1 hi1
        obtain ⟨v', h1, h2⟩ := res_ok hρ1 hi1 hv0
        rcases he with rfl | rfl <;> simp only [retK, h1] <;> exact ⟨σ1, hx1, h2, hi1⟩
      split at h
      · rename_i ρ1 s1 hx; exact fin hx (.inl rfl) h
      · rename_i ρ1 s1 hx; exact fin hx (.inr rfl) h
      · cases h
end Go.Am
