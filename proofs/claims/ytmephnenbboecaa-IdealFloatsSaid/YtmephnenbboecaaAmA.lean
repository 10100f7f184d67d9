/- A program logic of our own over the model: an abstract heap of known blocks, triples with the frame built in. No condition. -/
import Derived.Orders
import Derived.Laws.Sem
import Derived.Laws.World
namespace Go.Am

/-- A block that is known: a row of cells (rw: it may be written), with its element type's number. -/
inductive Blk where
  | row (rw : Bool) (elem : TypeId) (cells : List Value)
  | mp (entries : List MapEntry) (clock : Nat)

def Blk.fits : Blk → Obj → Prop
  | .row true e cs, o => o = .cells cs.toArray e (0, 0) ∧ ∀ v ∈ cs, v.oneCell' = true
  | .row false e cs, o => ∃ fz, o = .cells cs.toArray e fz
  | .mp es c, o => o = .map es.toArray c

def Blk.rw : Blk → Bool
  | .row r _ _ => r
  | .mp _ _ => true

abbrev Heap := Nat → Option Blk

def Heap.set (H : Heap) (b : Nat) (o : Blk) : Heap := fun c => if c = b then some o else H c

theorem Heap.set_same (H : Heap) (b : Nat) (o : Blk) : H.set b o b = some o := by simp [Heap.set]
theorem Heap.set_ne (H : Heap) (b c : Nat) (o : Blk) (h : c ≠ b) : H.set b o c = H c := by simp [Heap.set, h]

def Fits (H : Heap) (w : World) : Prop := ∀ b B, H b = some B → ∃ o, w.heap[b]? = some o ∧ B.fits o

def Owned (H : Heap) (b : Nat) : Prop := ∃ B, H b = some B ∧ B.rw = true

structure Trans (H : Heap) (w : World) (H' : Heap) (w' : World) : Prop where
  size : w.heap.size ≤ w'.heap.size
  frame : ∀ b, b < w.heap.size → ¬ Owned H b → w'.heap[b]? = w.heap[b]?
  own : ∀ b, H' b ≠ none → H b ≠ none ∨ w.heap.size ≤ b
  grows : ∀ b B, H b = some B → ∃ B', H' b = some B' ∧ (B'.rw = true → B.rw = true)
  tape : w'.tape = w.tape
  os : w'.os = w.os
  output : w'.output = w.output

theorem Fits.lt {H : Heap} {w : World} (h : Fits H w) {b : Nat} {B : Blk} (hb : H b = some B) : b < w.heap.size := by
  obtain ⟨o, ho, _⟩ := h b B hb
  exact (Array.getElem?_eq_some_iff.1 ho).1

theorem Trans.refl (H : Heap) (w : World) : Trans H w H w :=
  ⟨Nat.le_refl _, fun _ _ _ => rfl, fun _ h => .inl h, fun _ B h => ⟨B, h, id⟩, rfl, rfl, rfl⟩

theorem Trans.owned {H : Heap} {w : World} {H' : Heap} {w' : World} (h : Trans H w H' w') (b : Nat) (hlt : b < w.heap.size) (ho : Owned H' b) : Owned H b := by
  obtain ⟨B, hB, hrw⟩ := ho
  rcases h.own b (by simp [hB]) with h1 | h1
  · cases h2 : H b with
    | none => exact absurd h2 h1
    | some B0 =>
      obtain ⟨B1, h3, h4⟩ := h.grows b B0 h2
      rw [hB] at h3
      injection h3 with h3
      subst h3
      exact ⟨B0, h2, h4 hrw⟩
  · omega

theorem Trans.trans {H : Heap} {w : World} {H' : Heap} {w' : World} {H'' : Heap} {w'' : World} (h : Trans H w H' w') (h' : Trans H' w' H'' w'') : Trans H w H'' w'' where
  size := Nat.le_trans h.size h'.size
  frame := fun b hb ho => (h'.frame b (Nat.lt_of_lt_of_le hb h.size) (fun h1 => ho (h.owned b hb h1))).trans (h.frame b hb ho)
  own := fun b hb => by
    rcases h'.own b hb with h1 | h1
    · exact h.own b h1
    · have := h.size; exact .inr (by omega)
  grows := fun b B hB => by
    obtain ⟨B1, h1, h2⟩ := h.grows b B hB
    obtain ⟨B2, h3, h4⟩ := h'.grows b B1 h1
    exact ⟨B2, h3, fun h => h2 (h4 h)⟩
  tape := h'.tape.trans h.tape
  os := h'.os.trans h.os
  output := h'.output.trans h.output

theorem Trans.drew (H : Heap) (w : World) (n : Nat) : Trans H w H { w with drawn := n } :=
  ⟨Nat.le_refl _, fun _ _ _ => rfl, fun _ h => .inl h, fun _ B h => ⟨B, h, id⟩, rfl, rfl, rfl⟩

theorem Fits.drew {H : Heap} {w : World} (h : Fits H w) (n : Nat) : Fits H { w with drawn := n } := h

/-- A new block. -/
theorem Fits.alloc {H : Heap} {w : World} (h : Fits H w) {B : Blk} {o : Obj} (ho : B.fits o) : Fits (H.set w.heap.size B) (w.alloc o) := by
  intro b B' hB
  by_cases hb : b = w.heap.size
  · subst hb
    rw [Heap.set_same] at hB
    injection hB with hB
    subst hB
    exact ⟨o, by simp [World.alloc, -World.alloc_eq], ho⟩
  · rw [Heap.set_ne _ _ _ _ hb] at hB
    have hlt := h.lt hB
    obtain ⟨o', h1, h2⟩ := h b B' hB
    exact ⟨o', by simp only [World.alloc]; rw [Array.getElem?_push_lt hlt]; rw [← h1]; simp [hlt], h2⟩

theorem Fits.fresh {H : Heap} {w : World} (h : Fits H w) : H w.heap.size = none := by
  cases hb : H w.heap.size with
  | none => rfl
  | some B => exact absurd (h.lt hb) (Nat.lt_irrefl _)

theorem Trans.alloc {H : Heap} {w : World} (hf : Fits H w) (B : Blk) (o : Obj) : Trans H w (H.set w.heap.size B) (w.alloc o) where
  size := by simp
  frame := fun b hb _ => by simp only [World.alloc]; rw [Array.getElem?_push_lt hb]; simp [hb]
  own := fun b hb => by
    by_cases h : b = w.heap.size
    · exact .inr (by omega)
    · rw [Heap.set_ne _ _ _ _ h] at hb; exact .inl hb
  grows := fun b B' hB => by
    have := hf.lt hB
    exact ⟨B', by rw [Heap.set_ne _ _ _ _ (by omega)]; exact hB, id⟩
  tape := rfl
  os := rfl
  output := rfl

/-- A known block that may be written gets new contents. -/
theorem Fits.put {H : Heap} {w w' : World} (h : Fits H w) {b : Nat} {B' : Blk} {o' : Obj} (hw : w'.heap = w.heap.setIfInBounds b o') (ho : B'.fits o') : Fits (H.set b B') w' ∨ ¬ b < w.heap.size := by
  by_cases hlt : b < w.heap.size
  · left
    intro c C hC
    by_cases hc : c = b
    · subst hc
      rw [Heap.set_same] at hC
      injection hC with hC
      subst hC
      exact ⟨o', by rw [hw]; simp [hlt], ho⟩
    · rw [Heap.set_ne _ _ _ _ hc] at hC
      obtain ⟨o, h1, h2⟩ := h c C hC
      exact ⟨o, by rw [hw, Array.getElem?_setIfInBounds_ne (by omega)]; exact h1, h2⟩
  · exact .inr hlt

theorem Trans.put {H : Heap} {w w' : World} {b : Nat} {B B' : Blk} {o' : Obj} (hB : H b = some B) (hrw : B.rw = true) (hw : w'.heap = w.heap.setIfInBounds b o') (ht : w'.tape = w.tape) (hos : w'.os = w.os) (hout : w'.output = w.output) :
    Trans H w (H.set b B') w' where
  size := by rw [hw]; simp
  frame := fun c _ ho => by
    have : c ≠ b := fun e => ho ⟨B, e ▸ hB, hrw⟩
    rw [hw, Array.getElem?_setIfInBounds_ne (by omega)]
  own := fun c hc => by
    by_cases h : c = b
    · subst h; exact .inl (by simp [hB])
    · rw [Heap.set_ne _ _ _ _ h] at hc; exact .inl hc
  grows := fun c C hC => by
    by_cases h : c = b
    · subst h
      rw [hB] at hC
      injection hC with hC
      subst hC
      exact ⟨B', Heap.set_same _ _ _, fun _ => hrw⟩
    · exact ⟨C, by rw [Heap.set_ne _ _ _ _ h]; exact hC, id⟩
  tape := ht
  os := hos
  output := hout

/-- A function that can be entered. -/
def callable (P : Program) (f : FuncId) : Bool :=
  match P.funcs[f]? with
  | some fn => !(fn.name == "runtime.NumGoroutine") && fn.body.isSome
  | none => false

/-- The call of a function, with its frame. -/
def ACalls (P : Program) (f : FuncId) (args : List Value) (H : Heap) (Q : Value → Heap → Prop) : Prop :=
  callable P f = true ∧ ∀ w, Fits H w → Calls P f args.toArray w fun e w' => ∃ v H', e = .returned v ∧ Q v H' ∧ Fits H' w' ∧ Trans H w H' w'

theorem ACalls.mono {P : Program} {f : FuncId} {args : List Value} {H : Heap} {Q Q' : Value → Heap → Prop} (h : ACalls P f args H Q) (hq : ∀ v H', Q v H' → Q' v H') : ACalls P f args H Q' :=
  ⟨h.1, fun w hw => (h.2 w hw).mono fun _ _ ⟨v, H', he, hQ, hf, ht⟩ => ⟨v, H', he, hq _ _ hQ, hf, ht⟩⟩

/-- The union with blocks beside. -/
def Heap.add (H F : Heap) : Heap := fun b => match H b with | some B => some B | none => F b

def Heap.sub (H G : Heap) : Prop := ∀ b B, H b = some B → G b = some B

/-- All rows of a world, for reading. -/
def inH (w : World) : Heap := fun b => match w.heap[b]? with
  | some (.cells cs e _) => some (.row false e cs.toList)
  | _ => none

theorem fits_inH (w : World) : Fits (inH w) w := by
  intro b B hB
  unfold inH at hB
  split at hB
  · rename_i cs e fz ho
    injection hB with hB; subst hB
    exact ⟨_, ho, fz, by simp⟩
  · cases hB

theorem inH_ro (w : World) (b : Nat) : ¬ Owned (inH w) b := by
  rintro ⟨B, hB, hr⟩
  unfold inH at hB
  split at hB
  · injection hB with hB; subst hB; simp [Blk.rw] at hr
  · cases hB

theorem inH_cell {w : World} {b o : Nat} {v : Value} (h : w.cell? ⟨b, o, none⟩ = some v) : ∃ e cs, inH w b = some (.row false e cs) ∧ cs[o]? = some v := by
  unfold World.cell? at h
  split at h <;> first | (cases h; done) | skip
  rename_i c e fz ho
  refine ⟨e, c.toList, by simp [inH, show w.heap[b]? = _ from ho], ?_⟩
  simpa using h

theorem Fits.of_sub {H G : Heap} {w : World} (h : Fits G w) (hs : H.sub G) : Fits H w := fun b B hB => h b B (hs b B hB)

end Go.Am
