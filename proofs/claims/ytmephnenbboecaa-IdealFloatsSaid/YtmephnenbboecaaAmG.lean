/- Regions whose order Go leaves open: if the operations that no edge orders do not disturb one another, one order speaks for all. No condition. -/
import Derived.Test.YtmephnenbboecaaAmF
import Derived.Orders
namespace Go.Am

def put (ρ : Env) (d : Option Nat) (v : Value) : Env :=
  match d with
  | none => ρ
  | some d => ρ.set d v

theorem put_comm (ρ : Env) {x y : Option Nat} (u v : Value) (h : ∀ d, x = some d → y ≠ some d) : put (put ρ x u) y v = put (put ρ y v) x u := by
  cases x with
  | none => rfl
  | some d =>
    cases y with
    | none => rfl
    | some e =>
      have hne : d ≠ e := fun he => h d rfl (he ▸ rfl)
      funext t
      simp only [put, Env.set]
      by_cases h1 : t = d
      · subst h1; simp [hne]
      · simp [h1]

section
variable (P : Program)

def PureS (s : Sem Next) (v : Value) : Prop := ∀ w, s.run P w = .ok (.value v) w
def ReadsS (s : Sem Next) (H : Heap) (v : Value) : Prop := ∀ w, Fits H w → s.run P w = .ok (.value v) w
def AllocS (s : Sem Next) (mk : Nat → Value) (e : TypeId) (cs : List Value) : Prop := (∀ v ∈ cs, v.oneCell' = true) ∧ ∀ w, s.run P w = .ok (.value (mk w.heap.size)) (w.alloc (.cells cs.toArray e))

def runS (s : Sem Next) (w : World) (post : Value → World → Prop) : Prop :=
  match s.run P w with
  | .ok (.value v) w' => post v w'
  | .ok .skip w' => post undef w'
  | .ok (.enter f args) w' => Calls P f args w' fun e w'' => ∃ v, e = .returned v ∧ post v w''
  | _ => False

def TriS (s : Sem Next) (H : Heap) (Q : Value → Heap → Prop) : Prop :=
  ∀ w, Fits H w → runS P s w fun v w' => ∃ H', Q v H' ∧ Fits H' w' ∧ Trans H w H' w'
end

section
variable {P : Program} {s : Sem Next} {H : Heap} {Q : Value → Heap → Prop}

theorem runS_mono {w : World} {post post' : Value → World → Prop} (h : runS P s w post) (hp : ∀ v w', post v w' → post' v w') : runS P s w post' := by
  unfold runS at *
  cases hr : s.run P w with
  | ok n w' =>
    rw [hr] at h
    cases n <;> simp only at h ⊢ <;> first | exact h.elim | exact hp _ _ h | exact h.mono fun e w'' ⟨v, he, hq⟩ => ⟨v, he, hp _ _ hq⟩
  | halt x w' => rw [hr] at h; exact h.elim

theorem TriS.mono {Q' : Value → Heap → Prop} (h : TriS P s H Q) (hq : ∀ v H', Q v H' → Q' v H') : TriS P s H Q' :=
  fun w hw => runS_mono (h w hw) fun v _ ⟨H', h1, h2, h3⟩ => ⟨H', hq v H' h1, h2, h3⟩

theorem runS_ex {w : World} {post : Value → World → Prop} (h : runS P s w post) : ∃ v w', post v w' := by
  unfold runS at h
  cases hr : s.run P w with
  | ok n w' =>
    rw [hr] at h
    cases n <;> simp only at h <;> first | exact h.elim | exact ⟨_, _, h⟩ | (obtain ⟨e, w'', fr, ⟨v, _, hq⟩, _⟩ := h []; exact ⟨v, w'', hq⟩)
  | halt x w' => rw [hr] at h; exact h.elim

theorem fits_unset {b : Nat} {B : Blk} {w : World} (hb : H b = none) (h : Fits (H.set b B) w) : Fits H w := by
  intro c C hC
  have hne : c ≠ b := by intro e; subst e; rw [hb] at hC; cases hC
  exact h c C (by rw [Heap.set_ne _ _ _ _ hne]; exact hC)

/-- The frame of a triple: a block beside stays. -/
theorem TriS.frame (h : TriS P s H Q) {b : Nat} {B : Blk} (hb : H b = none) : TriS P s (H.set b B) fun v H1 => ∃ H', H' b = none ∧ Q v H' ∧ H1 = H'.set b B := by
  intro w hw
  have hw0 := fits_unset hb hw
  have hlt : b < w.heap.size := hw.lt (Heap.set_same H b B)
  refine runS_mono (h w hw0) fun v w' ⟨H', hq, hf, ht⟩ => ?_
  have hn : H' b = none := by
    cases hh : H' b with
    | none => rfl
    | some B' =>
      rcases ht.own b (by simp [hh]) with h1 | h1
      · exact absurd hb h1
      · omega
  have hno : ¬ Owned H b := by rintro ⟨B', h1, _⟩; rw [hb] at h1; cases h1
  refine ⟨H'.set b B, ⟨H', hn, hq, rfl⟩, ?_, ?_⟩
  · intro c C hC
    by_cases hc : c = b
    · subst hc
      rw [Heap.set_same] at hC
      injection hC with hC; subst hC
      obtain ⟨ob, h1, h2⟩ := hw c B (Heap.set_same H c B)
      exact ⟨ob, by rw [ht.frame c hlt hno]; exact h1, h2⟩
    · rw [Heap.set_ne _ _ _ _ hc] at hC
      exact hf c C hC
  · exact {
      size := ht.size
      frame := fun c hc ho => ht.frame c hc (fun ⟨C, h1, h2⟩ => ho ⟨C, by rw [Heap.set_ne _ _ _ _ (by intro e; subst e; rw [hb] at h1; cases h1)]; exact h1, h2⟩)
      own := fun c hc => by
        by_cases h1 : c = b
        · subst h1; exact .inl (by simp [Heap.set_same])
        · rw [Heap.set_ne _ _ _ _ h1] at hc
          rcases ht.own c hc with h2 | h2
          · exact .inl (by rw [Heap.set_ne _ _ _ _ h1]; exact h2)
          · exact .inr h2
      grows := fun c C hC => by
        by_cases h1 : c = b
        · subst h1
          rw [Heap.set_same] at hC
          injection hC with hC; subst hC
          exact ⟨B, Heap.set_same _ _ _, id⟩
        · rw [Heap.set_ne _ _ _ _ h1] at hC
          obtain ⟨C', h2, h3⟩ := ht.grows c C hC
          exact ⟨C', by rw [Heap.set_ne _ _ _ _ h1]; exact h2, h3⟩
      tape := ht.tape
      os := ht.os
      output := ht.output }

theorem PureS.reads {v : Value} (h : PureS P s v) : ReadsS P s H v := fun w _ => h w

theorem ReadsS.set {v : Value} {b : Nat} {B : Blk} (h : ReadsS P s H v) (hb : H b = none) : ReadsS P s (H.set b B) v := fun w hw => h w (fits_unset hb hw)

theorem AllocS.unique {mk mk' : Nat → Value} {e e' : TypeId} {cs cs' : List Value} (h : AllocS P s mk e cs) (h' : AllocS P s mk' e' cs') : mk = mk' ∧ e = e' ∧ cs = cs' := by
  have key : ∀ n, mk n = mk' n ∧ e = e' ∧ cs = cs' := by
    intro n
    let w : World := { (default : World) with heap := Array.replicate n (.cells #[] 0) }
    have h1 := h.2 w
    rw [h'.2 w] at h1
    injection h1 with h1 h2
    injection h1 with h1
    have hs : w.heap.size = n := by simp [w]
    rw [hs] at h1
    have h3 := congrArg (fun (w : World) => w.heap[n]?) h2
    simp only [World.alloc] at h3
    rw [← hs] at h3
    simp at h3
    exact ⟨h1.symm, h3.2.symm, h3.1.symm⟩
  exact ⟨funext fun n => (key n).1, (key 0).2.1, (key 0).2.2⟩

theorem Heap.set_comm (H : Heap) {b c : Nat} (B C : Blk) (h : b ≠ c) : (H.set b B).set c C = (H.set c C).set b B := by
  funext d
  simp only [Heap.set]
  by_cases h1 : d = b
  · subst h1; simp [h]
  · simp [h1]
end

inductive Kd where
  | p | r | a | w
  deriving DecidableEq

/-- An operation among those of a region, as a step of the one order. un: the reads ahead of it that no edge orders against it. -/
structure SOp where
  idx : Nat
  o : Oper
  gslot : Option (Nat × Bool)
  kind : Kd
  un : List Nat

def SOp.wanted (d : SOp) (ρ : Env) : Bool :=
  match d.gslot with
  | none => true
  | some (t, want) => match ρ t with
    | .bool b => b == want
    | _ => false

def chk (un : List Nat) (H : Heap) : List (Nat × (Heap → Prop)) → Prop
  | [] => True
  | (i, φ) :: ps => (un.contains i = true → φ H) ∧ chk un H ps

def wpS (P : Program) (K : Env → Heap → Prop) : List (Nat × (Heap → Prop)) → List SOp → Env → Heap → Prop
  | _, [], ρ, H => K ρ H
  | pend, d :: L, ρ, H =>
    if d.wanted ρ then
      match d.kind with
      | .p => ∃ v, PureS P (execOp (ev ρ) d.o) v ∧ wpS P K pend L (put ρ d.o.dst v) H
      | .r => ∃ v, ReadsS P (execOp (ev ρ) d.o) H v ∧ wpS P K ((d.idx, fun H' => ReadsS P (execOp (ev ρ) d.o) H' v) :: pend) L (put ρ d.o.dst v) H
      | .a => ∃ mk e cs, AllocS P (execOp (ev ρ) d.o) mk e cs ∧ ∀ b, H b = none → wpS P K pend L (put ρ d.o.dst (mk b)) (H.set b (.row true e cs))
      | .w => TriS P (execOp (ev ρ) d.o) H fun v H' => chk d.un H' pend ∧ wpS P K pend L (put ρ d.o.dst v) H'
    else wpS P K pend L (put ρ d.o.dst undef) H

/-- What is asked of two operations that no edge orders: x stands ahead of y in the one order. -/
def SOp.allow (x y : SOp) : Bool :=
  match x.kind, y.kind with
  | .p, _ => true
  | .r, .w => y.un.contains x.idx
  | .r, _ => true
  | .a, .a => true
  | .w, .a => true
  | _, _ => false

/-- The slots that an operation looks at. -/
def SOp.looks (d : SOp) : List Nat :=
  (d.o.op.operands.toList.filterMap fun | .tmp t => some t | _ => none) ++ (match d.gslot with | some (t, _) => [t] | none => [])

def SOp.apart (x y : SOp) : Bool :=
  (match x.o.dst with
   | some d => !(y.looks).contains d && y.o.dst != some d
   | none => true) &&
  (match y.o.dst with
   | some d => !(x.looks).contains d
   | none => true) &&
  (match x.o.op with | .select .. => false | _ => true) && (match y.o.op with | .select .. => false | _ => true)

theorem SOp.apart_spec {x y : SOp} (h : x.apart y = true) :
    (∀ d, x.o.dst = some d → d ∉ y.looks) ∧ (∀ d, x.o.dst = some d → y.o.dst ≠ some d) ∧ (∀ d, y.o.dst = some d → d ∉ x.looks) ∧ (∀ cs b, x.o.op ≠ .select cs b) ∧ (∀ cs b, y.o.op ≠ .select cs b) := by
  unfold SOp.apart at h
  simp only [Bool.and_eq_true] at h
  obtain ⟨⟨⟨h1, h2⟩, h3⟩, h4⟩ := h
  refine ⟨fun d hd => ?_, fun d hd => ?_, fun d hd => ?_, fun cs b e => ?_, fun cs b e => ?_⟩
  · simp [hd] at h1; exact h1.1
  · simp [hd] at h1; exact h1.2
  · simp [hd] at h2; exact h2
  · simp [e] at h3
  · simp [e] at h4

theorem execOp_same (d : SOp) {ρ : Env} {t : Option Nat} {v : Value} (hs : ∀ cs b, d.o.op ≠ .select cs b) (h : ∀ k, t = some k → k ∉ d.looks) : execOp (ev (put ρ t v)) d.o = execOp (ev ρ) d.o := by
  refine execOp_congr d.o hs fun x hx => ?_
  cases t with
  | none => rfl
  | some k =>
    cases x with
    | tmp u =>
      have hk := h k rfl
      have hne : u ≠ k := by
        rintro rfl
        apply hk
        unfold SOp.looks
        exact List.mem_append.2 (.inl (List.mem_filterMap.2 ⟨.tmp u, by simpa using hx, rfl⟩))
      simp [ev, put, Env.set, hne]
    | _ => rfl

theorem wanted_same (d : SOp) {ρ : Env} {t : Option Nat} {v : Value} (h : ∀ k, t = some k → k ∉ d.looks) : d.wanted (put ρ t v) = d.wanted ρ := by
  cases t with
  | none => rfl
  | some k =>
    unfold SOp.wanted
    cases hg : d.gslot with
    | none => rfl
    | some p =>
      obtain ⟨u, want⟩ := p
      have hne : u ≠ k := by
        rintro rfl
        exact h u rfl (by simp [SOp.looks, hg])
      simp [put, Env.set, hne]

theorem chk_set {P : Program} {H : Heap} {b : Nat} {B : Blk} (hb : H b = none) (un : List Nat) : ∀ pend : List (Nat × (Heap → Prop)), (∀ p ∈ pend, ∃ s v, p.2 = fun H' => ReadsS P s H' v) → chk un H pend → chk un (H.set b B) pend
  | [], _, _ => trivial
  | (i, φ) :: ps, hp, h => by
    obtain ⟨s, v, hφ⟩ := hp (i, φ) (by simp)
    simp only at hφ
    subst hφ
    exact ⟨fun hc => (h.1 hc).set hb, chk_set hb un ps (fun p hp' => hp p (by simp [hp'])) h.2⟩

/-- What becomes of a step that is taken ahead of its turn. -/
def After (P : Program) (K : Env → Heap → Prop) (pend : List (Nat × (Heap → Prop))) (L : List SOp) (d : SOp) (ρ : Env) (H : Heap) : Prop :=
  if d.wanted ρ then
    match d.kind with
    | .p => ∃ v, PureS P (execOp (ev ρ) d.o) v ∧ wpS P K pend L (put ρ d.o.dst v) H
    | .r => ∃ v, ReadsS P (execOp (ev ρ) d.o) H v ∧ wpS P K pend L (put ρ d.o.dst v) H
    | .a => ∃ mk e cs, AllocS P (execOp (ev ρ) d.o) mk e cs ∧ ∀ b, H b = none → wpS P K pend L (put ρ d.o.dst (mk b)) (H.set b (.row true e cs))
    | .w => TriS P (execOp (ev ρ) d.o) H fun v H' => chk d.un H' pend ∧ wpS P K pend L (put ρ d.o.dst v) H'
  else wpS P K pend L (put ρ d.o.dst undef) H
end Go.Am
