/- From the one order to every schedule that Go allows; and the operations of a region in the order of the text. No condition. -/
import Derived.Test.YtmephnenbboecaaAmH
import Derived.Tactics
namespace Go.Am
variable {P : Program}

structure Agree (N : Nat) (D : List Deferred) (a : Act) (ρ : Env) : Prop where
  size : a.tmps.size = N
  val : ∀ t, t < N → a.tmps.getD t undef = ρ t
  defers : a.defers = D

theorem Agree.put {N : Nat} {D : List Deferred} {a : Act} {ρ : Env} (h : Agree N D a ρ) {d : Option Nat} (hd : ∀ k, d = some k → k < N) (v : Value) : Agree N D (a.put d v) (put ρ d v) := by
  cases d with
  | none => exact h
  | some k =>
    have hk := hd k rfl
    refine ⟨by simp [Act.put, h.size], fun t ht => ?_, h.defers⟩
    simp only [Act.put, Am.put, Env.set]
    by_cases e : t = k
    · subst e; simp [h.size, ht]
    · have := h.val t ht
      simp [Array.getElem?_setIfInBounds_ne (Ne.symm e), e] at this ⊢
      exact this

/-- All slots that are named lie in the frame. -/
def inFrame (N : Nat) (o : Oper) : Bool :=
  (match o.dst with | some d => decide (d < N) | none => true) && o.op.operands.all (fun | .tmp t => decide (t < N) | _ => true) && (match o.op with | .select .. => false | _ => true)

theorem execOp_agree {N : Nat} {D : List Deferred} {a : Act} {ρ : Env} (h : Agree N D a ρ) {o : Oper} (ho : inFrame N o = true) : execOp a.eval o = execOp (ev ρ) o := by
  unfold inFrame at ho
  simp only [Bool.and_eq_true] at ho
  obtain ⟨⟨_, h2⟩, h3⟩ := ho
  refine execOp_congr o (fun cs b e => by simp [e] at h3) fun x hx => ?_
  cases x with
  | tmp t =>
    have ht : t < N := by
      have := Array.all_eq_true'.1 h2 (.tmp t) hx
      simpa using this
    exact h.val t ht
  | _ => rfl

theorem inFrame_dst {N : Nat} {o : Oper} (ho : inFrame N o = true) : ∀ k, o.dst = some k → k < N := by
  intro k hk
  unfold inFrame at ho
  simp only [Bool.and_eq_true] at ho
  simpa [hk] using ho.1.1

/-- The slot of a guard. -/
def guardOf (N : Nat) (ops : Array Oper) (o : Oper) : Option (Option (Nat × Bool)) :=
  match o.guard with
  | none => some none
  | some (j, want) => match (ops[j]?).bind (·.dst) with
    | some t => if t < N then some (some (t, want)) else none
    | none => none

def wantedG (g : Option (Nat × Bool)) (ρ : Env) : Bool :=
  match g with
  | none => true
  | some (t, want) => match ρ t with
    | .bool b => b == want
    | _ => false

theorem wanted_agree {N : Nat} {D : List Deferred} {a : Act} {ρ : Env} (h : Agree N D a ρ) {ops : Array Oper} {o : Oper} {g : Option (Nat × Bool)} (hg : guardOf N ops o = some g) : Region.wanted o (yielded ops a.tmps) = wantedG g ρ := by
  unfold guardOf at hg
  unfold Region.wanted
  cases hgd : o.guard with
  | none => rw [hgd] at hg; simp at hg; subst hg; rfl
  | some p =>
    obtain ⟨j, want⟩ := p
    rw [hgd] at hg
    simp only at hg ⊢
    cases hd : (ops[j]?).bind (·.dst) with
    | none => rw [hd] at hg; cases hg
    | some t =>
      rw [hd] at hg
      simp only at hg
      split at hg
      · rename_i ht
        injection hg with hg; subst hg
        have hv := h.val t ht
        have hget : a.tmps[t]? = some (ρ t) := by
          have hlt : t < a.tmps.size := by rw [h.size]; exact ht
          simp [hlt] at hv ⊢
          exact hv
        simp only [yielded, hd, Option.bind_some, hget, wantedG]
        cases ρ t <;> simp
      · cases hg

theorem SOp.wanted_eq (d : SOp) (ρ : Env) : d.wanted ρ = wantedG d.gslot ρ := rfl

theorem wp_of_runS {o : Oper} {a : Act} {w : World} {post : Value → World → Prop} {next : Act → World → Prop} {Q : Exit → Act → World → Prop} (h : runS P (execOp a.eval o) w post) (hn : ∀ v w', post v w' → next (a.put o.dst v) w') : o.wp P a w next Q := by
  unfold runS at h
  unfold Oper.wp
  cases hr : (execOp a.eval o).run P w with
  | ok n w' =>
    rw [hr] at h
    cases n <;> simp only at h <;> first | exact h.elim | exact hn _ _ h | skip
    simp only [Oper.upon]
    exact h.mono fun e w'' ⟨v, he, hq⟩ => by subst he; exact hn v w'' hq
  | halt x w' => rw [hr] at h; exact h.elim

-- the schedules

inductive Bf (ops : Array Oper) : Nat → Nat → Prop where
  | edge {i : Nat} {o : Oper} {e : Edge} : ops[i]? = some o → e ∈ o.after → Region.binds .any e = true → Bf ops e.on i
  | step {i j : Nat} {o : Oper} {e : Edge} : ops[i]? = some o → e ∈ o.after → Region.binds .any e = true → Bf ops j e.on → Bf ops j i

def Closed (ops : Array Oper) (listed : Array Bool) : Prop :=
  ∀ (i : Nat) (o : Oper), ops[i]? = some o → listed[i]? = some true → ∀ e ∈ o.after, Region.binds .any e = true → listed[e.on]? = some true

theorem Bf.listed {ops : Array Oper} {listed : Array Bool} (hc : Closed ops listed) {j i : Nat} (h : Bf ops j i) : (∀ o, ops[i]? = some o → ∀ e ∈ o.after, Region.binds .any e = true → listed[e.on]? = some true) → listed[j]? = some true := by
  induction h with
  | edge ho he hb => intro hr; exact hr _ ho _ he hb
  | step ho he hb _ ih => intro hr; exact ih (fun o' ho' e' he' hb' => hc _ o' ho' (hr _ ho _ he hb) e' he' hb')

structure Linked (N : Nat) (ops : Array Oper) (d : SOp) : Prop where
  op : ops[d.idx]? = some d.o
  frame : inFrame N d.o = true
  guard : guardOf N ops d.o = some d.gslot

theorem mem_ready {ops : Array Oper} {listed : Array Bool} {i : Nat} (h : i ∈ Region.ready .any ops listed) : i < ops.size ∧ listed.getD i true = false ∧ ∀ o, ops[i]? = some o → ∀ e ∈ o.after, Region.binds .any e = true → listed.getD e.on false = true := by
  unfold Region.ready at h
  simp only [List.mem_filter, List.mem_range, Bool.and_eq_true, Bool.not_eq_true'] at h
  obtain ⟨h1, h2, h3⟩ := h
  refine ⟨h1, h2, fun o ho e he hb => ?_⟩
  rw [ho] at h3
  simp only [Option.map_some, Option.getD_some] at h3
  have := Array.all_eq_true'.1 h3 e he
  simpa [hb] using this

theorem getD_true {l : Array Bool} {i : Nat} (h : l.getD i false = true) : l[i]? = some true := by
  cases hh : l[i]? with
  | none => simp [hh] at h
  | some b => simp [hh] at h; rw [h]

theorem getD_false {l : Array Bool} {i : Nat} (h : l.getD i true = false) : l[i]? = some false := by
  cases hh : l[i]? with
  | none => simp [hh] at h
  | some b => simp [hh] at h; rw [h]

theorem draw_sound {N : Nat} {D : List Deferred} {ops : Array Oper} {K : Env → Heap → Prop} {Q : Exit → Act → World → Prop} {H0 : Heap} {w0 : World}
    (hK : ∀ ρ H a w, K ρ H → Agree N D a ρ → Fits H w → Trans H0 w0 H w → Q .normal a w) :
    ∀ (fuel : Nat) (L : List SOp) (listed : Array Bool) (pend : List (Nat × (Heap → Prop))) (a : Act) (ρ : Env) (H : Heap) (w : World),
      L.length ≤ fuel → (∀ d ∈ L, Linked N ops d) → (∀ i, i < ops.size → (listed[i]? = some false ↔ ∃ d ∈ L, d.idx = i)) → listed.size = ops.size → (L.map (·.idx)).Nodup →
      L.Pairwise (fun x y => Bf ops x.idx y.idx ∨ (x.allow y = true ∧ x.apart y = true)) → Closed ops listed → (∀ d ∈ L, ∀ e ∈ d.o.after, Region.binds .any e = true → e.on < ops.size) →
      L.Pairwise (fun x y => ∀ e ∈ x.o.after, Region.binds .any e = true → e.on ≠ y.idx) → (∀ d ∈ L, ∀ e ∈ d.o.after, Region.binds .any e = true → e.on ≠ d.idx) →
      PendOk P pend → Agree N D a ρ → Fits H w → Trans H0 w0 H w → wpS P K pend L ρ H → wpAny P .any ops Q fuel listed a w := by
  intro fuel
  induction fuel with
  | zero =>
    intro L listed pend a ρ H w hlen _ hL hsz _ _ _ _ _ _ _ hag hf ht h
    have hnil : L = [] := List.eq_nil_of_length_eq_zero (by omega)
    subst hnil
    refine ⟨?_, hK ρ H a w h hag hf ht⟩
    apply List.eq_nil_iff_forall_not_mem.2
    intro i hi
    obtain ⟨h1, h2, _⟩ := mem_ready hi
    obtain ⟨d, hd, _⟩ := (hL i h1).1 (getD_false h2)
    cases hd
  | succ fuel ih =>
    intro L listed pend a ρ H w hlen hlink hL hsz hnd hpair hcl hin hord hself hpend hag hf ht h
    refine ⟨fun hr => ?_, fun i hi => ?_⟩
    · -- nothing is ready: nothing is left
      cases L with
      | nil => exact hK ρ H a w h hag hf ht
      | cons d L =>
        exfalso
        have hd := hlink d (by simp)
        have hlt : d.idx < ops.size := (Array.getElem?_eq_some_iff.1 hd.op).1
        have hun : listed[d.idx]? = some false := (hL _ hlt).2 ⟨d, by simp, rfl⟩
        have : d.idx ∈ Region.ready .any ops listed := by
          unfold Region.ready
          simp only [List.mem_filter, List.mem_range, Bool.and_eq_true, Bool.not_eq_true']
          refine ⟨hlt, by simp [hun], ?_⟩
          rw [hd.op]
          simp only [Option.map_some, Option.getD_some]
          apply Array.all_eq_true'.2
          intro e he
          by_cases hb : Region.binds .any e = true
          · have hon := hin d (by simp) e he hb
            have hne : ¬ listed[e.on]? = some false := by
              intro hc
              obtain ⟨y, hy, hyi⟩ := (hL _ hon).1 hc
              rcases List.mem_cons.1 hy with rfl | hy
              · exact hself y (by simp) e he hb hyi.symm
              · exact (List.pairwise_cons.1 hord).1 y hy e he hb hyi.symm
            have hlt2 : e.on < listed.size := by rw [hsz]; exact hon
            cases hv : listed[e.on] with
            | true => simp [hlt2, hv]
            | false => exact absurd (by simp [hlt2, hv]) hne
          · simp [hb]
        rw [hr] at this
        cases this
    · obtain ⟨hlt, hfalse, hpre⟩ := mem_ready hi
      obtain ⟨d, hdL, hdi⟩ := (hL i hlt).1 (getD_false hfalse)
      obtain ⟨L1, L2, rfl⟩ := List.append_of_mem hdL
      have hd := hlink d hdL
      subst hdi
      have hpre' : ∀ o, ops[d.idx]? = some o → ∀ e ∈ o.after, Region.binds .any e = true → listed[e.on]? = some true := fun o ho e he hb => getD_true (hpre o ho e he hb)
      have hfree : ∀ x ∈ L1, x.allow d = true ∧ x.apart d = true := by
        intro x hx
        have hxd := (List.pairwise_append.1 hpair).2.2 x hx d (by simp)
        rcases hxd with hb | hb
        · exfalso
          have h1 := hb.listed hcl hpre'
          have hx1 := hlink x (by simp [hx])
          have h2 := (hL x.idx (Array.getElem?_eq_some_iff.1 hx1.op).1).2 ⟨x, by simp [hx], rfl⟩
          rw [h1] at h2
          cases h2
        · exact hb
      have haf := hoist d L2 L1 pend ρ H hpend ⟨w, hf⟩ hfree h
      -- what is left
      have hnd' : ((L1 ++ L2).map (·.idx)).Nodup := by
        simp only [List.map_append, List.map_cons] at hnd ⊢
        exact (List.nodup_cons.1 ((List.perm_middle.nodup_iff).1 hnd)).2
      have hnotin : ∀ y ∈ L1 ++ L2, y.idx ≠ d.idx := by
        intro y hy he
        simp only [List.map_append, List.map_cons] at hnd
        have := (List.nodup_cons.1 ((List.perm_middle.nodup_iff).1 hnd)).1
        exact this (by rw [← List.map_append, ← he]; exact List.mem_map_of_mem hy)
      have hsubset : ∀ y ∈ L1 ++ L2, y ∈ L1 ++ d :: L2 := fun y hy => by
        rcases List.mem_append.1 hy with h1 | h1
        · exact List.mem_append.2 (.inl h1)
        · exact List.mem_append.2 (.inr (List.mem_cons_of_mem _ h1))
      have hsub : (L1 ++ L2).Sublist (L1 ++ d :: L2) := List.Sublist.append (List.Sublist.refl _) (List.sublist_cons_self _ _)
      have go : ∀ (a' : Act) (ρ' : Env) (H' : Heap) (w' : World), Agree N D a' ρ' → Fits H' w' → Trans H0 w0 H' w' → wpS P K pend (L1 ++ L2) ρ' H' → wpAny P .any ops Q fuel (listed.setIfInBounds d.idx true) a' w' := by
        intro a' ρ' H' w' hag' hf' ht' hh
        refine ih (L1 ++ L2) _ pend a' ρ' H' w' (by simp at hlen ⊢; omega) (fun y hy => hlink y (hsubset y hy)) ?_ (by simpa using hsz) hnd' (hpair.sublist hsub) ?_ (fun y hy => hin y (hsubset y hy)) (hord.sublist hsub) (fun y hy => hself y (hsubset y hy)) hpend hag' hf' ht' hh
        · intro j hj
          by_cases hjd : j = d.idx
          · subst hjd
            have hlt2 : d.idx < listed.size := by rw [hsz]; exact hlt
            simp only [Array.getElem?_setIfInBounds_self, hlt2, if_true]
            constructor
            · intro hc; simp at hc
            · rintro ⟨y, hy, he⟩; exact absurd he (hnotin y hy)
          · rw [Array.getElem?_setIfInBounds_ne (Ne.symm hjd), hL j hj]
            constructor
            · rintro ⟨y, hy, he⟩
              refine ⟨y, ?_, he⟩
              rcases List.mem_append.1 hy with h1 | h1
              · exact List.mem_append.2 (.inl h1)
              · rcases List.mem_cons.1 h1 with rfl | h1
                · exact absurd he.symm hjd
                · exact List.mem_append.2 (.inr h1)
            · rintro ⟨y, hy, he⟩; exact ⟨y, hsubset y hy, he⟩
        · intro j o ho hl e he hb
          by_cases hon : e.on = d.idx
          · rw [hon]
            have hlt2 : d.idx < listed.size := by rw [hsz]; exact hlt
            simp [hlt2]
          · rw [Array.getElem?_setIfInBounds_ne (Ne.symm hon)]
            by_cases hjd : j = d.idx
            · subst hjd; exact hpre' o ho e he hb
            · rw [Array.getElem?_setIfInBounds_ne (Ne.symm hjd)] at hl
              exact hcl j o ho hl e he hb
      -- the step itself
      unfold wpOp
      rw [hd.op]
      simp only
      rw [wanted_agree hag hd.guard, ← SOp.wanted_eq]
      unfold After at haf
      have hdst := inFrame_dst hd.frame
      split
      · rename_i hw
        rw [if_pos hw] at haf
        left
        rw [show (execOp (ev ρ) d.o) = execOp a.eval d.o from (execOp_agree hag hd.frame).symm] at haf
        cases hk : d.kind <;> rw [hk] at haf <;> simp only at haf
        · obtain ⟨v, h1, h2⟩ := haf
          refine wp_of_runS (post := fun v' w' => v' = v ∧ w' = w) ?_ ?_
          · unfold runS; rw [h1 w]; exact ⟨rfl, rfl⟩
          · rintro v' w' ⟨rfl, rfl⟩; exact go _ _ _ _ (hag.put hdst _) hf ht h2
        · obtain ⟨v, h1, h2⟩ := haf
          refine wp_of_runS (post := fun v' w' => v' = v ∧ w' = w) ?_ ?_
          · unfold runS; rw [h1 w hf]; exact ⟨rfl, rfl⟩
          · rintro v' w' ⟨rfl, rfl⟩; exact go _ _ _ _ (hag.put hdst _) hf ht h2
        · obtain ⟨mk, e, cs, h1, h2⟩ := haf
          refine wp_of_runS (post := fun v' w' => v' = mk w.heap.size ∧ w' = w.alloc (.cells cs.toArray e)) ?_ ?_
          · unfold runS; rw [h1.2 w]; exact ⟨rfl, rfl⟩
          · rintro v' w' ⟨rfl, rfl⟩
            exact go _ _ _ _ (hag.put hdst _) (hf.alloc (B := .row true e cs) ⟨rfl, h1.1⟩) (ht.trans (Trans.alloc hf (.row true e cs) _)) (h2 _ hf.fresh)
        · refine wp_of_runS (haf w hf) ?_
          rintro v w' ⟨H', ⟨_, h2⟩, h3, h4⟩
          exact go _ _ _ _ (hag.put hdst _) h3 (ht.trans h4) h2
      · rename_i hw
        rw [if_neg hw] at haf
        exact go _ _ _ _ (hag.put hdst _) hf ht haf
end Go.Am
