/- A run that goes on from known blocks: fewer names, an explicit state. No condition. -/
import Derived.Test.YtmephnenbboecaaAmU
set_option linter.unusedVariables false
set_option linter.unusedSimpArgs false
namespace Go.Am

/-- A value that names blocks ahead of n alone. -/
def cutV (n : Nat) : Value → Bool
  | .bool _ => true
  | .int _ _ => true
  | .string _ => true
  | .pointer none => true
  | .pointer (some ⟨b, _, none⟩) => Nat.blt b n
  | .slice none _ _ => true
  | .slice (some ⟨b, _, none⟩) _ _ => Nat.blt b n
  | .nilFunc => true
  | .nilIface => true
  | _ => false

def cutL (n : Nat) : List Value → Bool
  | [] => true
  | v :: vs => cutV n v && cutL n vs

def cutB (n : Nat) : Option B2 → Bool
  | none => true
  | some (_, .row _ _ cs) => cutL n cs
  | some (_, .mp _ _) => false

def cutP (n : Nat) (p : Nat × Option B2) : Bool := Nat.blt p.1 n && cutB n p.2

theorem blt_lt {a b : Nat} (h : Nat.blt a b = true) : a < b := Nat.le_of_ble_eq_true h

theorem take_get {σ : Ren} {n b : Nat} {x : Nat × Nat} (h : σ[b]? = some x) (hb : b < n) : (σ.take n)[b]? = some x := by
  rw [List.getElem?_take, if_pos hb]; exact h

theorem VR.cut {σ : Ren} {n : Nat} {x y : Value} (h : VR σ x y) (hc : cutV n x = true) : VR (σ.take n) x y := by
  cases h <;> first | (simp [cutV] at hc; done) | skip
  · exact .bool _
  · exact .int _ _
  · exact .str _
  · exact .nilp
  · rename_i b o r k hb; exact .ptr b o r k (take_get hb (blt_lt hc))
  · exact .nils _ _
  · rename_i b o m c r k hb; exact .sl b o m c r k (take_get hb (blt_lt hc))
  · exact .nilf
  · exact .nili

theorem VRs.cut {σ : Ren} {n : Nat} {xs ys : List Value} (h : VRs σ xs ys) (hc : cutL n xs = true) : VRs (σ.take n) xs ys := by
  induction xs generalizing ys with
  | nil => cases h; exact .nil
  | cons x xs ih =>
    cases h with
    | cons _ y _ ys h hs =>
      simp only [cutL, Bool.and_eq_true] at hc
      exact .cons _ _ _ _ (h.cut hc.1) (ih hs hc.2)

/-- Of the blocks some are kept, of the names the first n. -/
theorem Img.cut {σ : Ren} {s t : St} {H : Heap} {n : Nat} (h : Img σ s H) (hn : t.next = n) (hle : n ≤ s.next)
    (hs : ∀ b B, t.h.get b = some B → s.h.get b = some B ∧ b < n ∧ cutB n (some B) = true) : Img (σ.take n) t H := by
  have hl := h.next
  refine ⟨by rw [hn, List.length_take]; omega, ?_, ?_⟩
  · intro b w B hb
    obtain ⟨h1, h2, h3⟩ := hs b _ hb
    obtain ⟨r, k, h4, rw', e, cs, cs', pad, rfl, h5, h6, h7, h8⟩ := h.has b w B h1
    exact ⟨r, k, take_get h4 h2, rw', e, cs, cs', pad, rfl, h5, h6.cut h3, h7, h8⟩
  · intro b c B C r k l hb hc hbσ hcσ
    obtain ⟨h1, h2, _⟩ := hs b _ hb
    obtain ⟨h3, h4, _⟩ := hs c _ hc
    rw [List.getElem?_take, if_pos h2] at hbσ
    rw [List.getElem?_take, if_pos h4] at hcσ
    exact h.inj b c B C r k l h1 h3 hbσ hcσ

/-- A tree of these blocks. -/
noncomputable def treeOf : List (Nat × Option B2) → Tr B2 → Tr B2
  | [], t => t
  | (i, B) :: l, t => match t.set i B with
    | some t' => treeOf l t'
    | none => .nil

theorem treeOf_get : ∀ {l : List (Nat × Option B2)} {t : Tr B2}, (∀ b B, t.get b = some B → False) → ∀ b B, (treeOf l t).get b = some B → (b, some B) ∈ l := by
  have key : ∀ {l : List (Nat × Option B2)} {t : Tr B2}, ∀ b B, (treeOf l t).get b = some B → (b, some B) ∈ l ∨ t.get b = some B := by
    intro l
    induction l with
    | nil => intro t b B h; exact .inr h
    | cons p l ih =>
      obtain ⟨i, C⟩ := p
      intro t b B hb
      simp only [treeOf] at hb
      split at hb
      · rename_i t1 h1
        rcases ih b B hb with h2 | h2
        · exact .inl (List.mem_cons_of_mem _ h2)
        · rw [Tr.get_set _ _ _ _ h1 b] at h2
          split at h2
          · rename_i hbi; subst h2; subst hbi; exact .inl (List.mem_cons_self ..)
          · exact .inr h2
      · rw [Tr.get_nil] at hb; cases hb
  intro l t ht b B hb
  rcases key b B hb with h | h
  · exact h
  · exact (ht b B h).elim

noncomputable def stOf (l : List (Nat × Option B2)) (n : Nat) (orc : List (Nat × Bool)) : St := ⟨treeOf l (Tr.full 8), n, 0, orc, []⟩

theorem stOf_get {l : List (Nat × Option B2)} {n : Nat} {orc : List (Nat × Bool)} {b : Nat} {B : B2} (h : (stOf l n orc).h.get b = some B) : (b, some B) ∈ l :=
  treeOf_get (fun b B h => by rw [Tr.get_full] at h; cases h) b B h

/-- The blocks that are asked for, as they stand. -/
noncomputable def seeF (s : St) (ids : List Nat) : List (Nat × Option B2) := ids.map fun i => (i, getH s.h i)
noncomputable def seeT (ρ : Tr Value) (ts : List Nat) : List (Nat × Value) := ts.map fun i => (i, unO (getV ρ i))

theorem seeF_mem {s : St} {ids : List Nat} {l : List (Nat × Option B2)} (h : seeF s ids = l) {b : Nat} {B : B2} (hb : (b, some B) ∈ l) : s.h.get b = some B := by
  subst h
  simp only [seeF, List.mem_map, Prod.mk.injEq] at hb
  obtain ⟨i, _, rfl, h⟩ := hb
  rw [getH_eq] at h; exact h

theorem seeT_mem {ρ : Tr Value} {ts : List Nat} {l : List (Nat × Value)} (h : seeT ρ ts = l) {t : Nat} {v : Value} (hb : (t, v) ∈ l) : evT ρ t = v := by
  subst h
  simp only [seeT, List.mem_map, Prod.mk.injEq] at hb
  obtain ⟨i, _, rfl, h⟩ := hb
  rw [unO_eq] at h; exact h

theorem Img.orc {σ : Ren} {s t : St} {H : Heap} (h : Img σ s H) (h1 : t.h = s.h) (h2 : t.next = s.next) : Img σ t H :=
  ⟨by rw [h2]; exact h.next, fun b w B hb => h.has b w B (by rw [← h1]; exact hb), fun b c B C r k l hb hc => h.inj b c B C r k l (by rw [← h1]; exact hb) (by rw [← h1]; exact hc)⟩

/-- A call from an explicit state; an explicit state is left, under the same names. -/
theorem calls_keep {P : Program} {ext : FuncId → List Value → Option Value} {tbl : Tr AFunc} (ht : TblOk P ext tbl) {fuel m n : Nat} {f : FuncId} {args : List Value} {s : St} {ids : List Nat} {l : List (Nat × Option B2)} {v : Value} {ob : List (Value × Bool)}
    (h : obind2 (runF ext tbl fuel m f args s) (fun v s' => some (v, seeF s' ids, s'.obl)) = some (v, l, ob)) (hob : ∀ p ∈ ob, p.1 = .bool p.2) (hcut : ∀ p ∈ l, cutP n p = true) (hn : s.next = n)
    {σ : Ren} {H : Heap} {args' : List Value} (ha : VRs σ args args') (hi : Img σ s H) (orc : List (Nat × Bool)) : ACalls P f args' H fun v' H' => ∃ σ', RExt σ σ' ∧ VR σ' v v' ∧ Img σ (stOf l n orc) H' := by
  obtain ⟨v1, s', h1, h2⟩ := obind2_some h
  injection h2 with h2
  injection h2 with e1 h2
  injection h2 with e2 e3
  subst e1
  refine (calls_of_run ht h1 (fun p hp => hob p (by rw [← e3]; exact hp)) ha hi).mono ?_
  rintro v' H' ⟨σ', hx, hv, hi'⟩
  refine ⟨σ', hx, hv, ?_⟩
  obtain ⟨t, rfl⟩ := hx
  have hlen : σ.length = n := by rw [← hn]; exact hi.next.symm
  have hnx : s'.next = σ.length + t.length := by rw [hi'.next]; simp
  have := hi'.cut (t := stOf l n orc) (n := n) rfl (by omega) (fun b B hb => by
    have hm := stOf_get hb
    have hc := hcut _ hm
    simp only [cutP, Bool.and_eq_true] at hc
    exact ⟨seeF_mem e2 hm, blt_lt hc.1, hc.2⟩)
  rw [show (σ ++ t).take n = σ from by rw [← hlen]; exact List.take_left] at this
  exact this

/-- Code from an explicit state: what is asked for of temporaries and blocks behind it. -/
theorem code_keep {P : Program} {ext : FuncId → List Value → Option Value} {tbl : Tr AFunc} (ht : TblOk P ext tbl) {fuel m n : Nat} {c : ACode} (hc : okC c = true) {ρ : Tr Value} {s : St} {ids ts : List Nat} {l : List (Nat × Option B2)} {tl : List (Nat × Value)} {e : AExit} {ob : List (Value × Bool)}
    (h : obind2 (execF (runF ext tbl fuel m) fuel c ρ s) (fun e p => some (e, seeT p.1 ts, seeF p.2 ids, p.2.next, p.2.obl)) = some (e, tl, l, n, ob)) (hob : ∀ p ∈ ob, p.1 = .bool p.2) (hcut : ∀ p ∈ l, cutP n p = true)
    {σ : Ren} {H : Heap} {ρ' : Env} (hρ : ER σ ρ ρ') (hi : Img σ s H) {Q : AExit → Env → Heap → Prop} (orc : List (Nat × Bool))
    (hQ : ∀ σ' ρ2 H', RExt σ σ' → (∀ t v, (t, v) ∈ tl → VR σ' v (ρ2 t)) → Img σ' (stOf l n orc) H' → Q e ρ2 H') : wpA P c Q ρ' H := by
  obtain ⟨e1, p, h1, h2⟩ := obind2_some h
  obtain ⟨ρ2, s'⟩ := p
  injection h2 with h2
  injection h2 with e2 h2
  injection h2 with e3 h2
  injection h2 with e4 h2
  injection h2 with e5 e6
  have e5 : s'.next = n := e5
  subst e2
  refine code_of_run ht hc h1 (fun p hp => hob p (by rw [← e6]; exact hp)) hρ hi ?_
  intro σ' ρ3 H' hx hρ2 hi'
  refine hQ σ' ρ3 H' hx (fun t v hm => by rw [← seeT_mem e3 hm]; exact hρ2 t) ?_
  have := hi'.cut (t := stOf l n orc) (n := n) rfl (by omega) (fun b B hb => by
    have hm := stOf_get hb
    have hc := hcut _ hm
    simp only [cutP, Bool.and_eq_true] at hc
    exact ⟨seeF_mem e4 hm, blt_lt hc.1, hc.2⟩)
  rw [List.take_of_length_le (by rw [← hi'.next]; omega)] at this
  exact this
end Go.Am
