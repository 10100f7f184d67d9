/- An interpreter of resolved code over blocks with names of their own: it is evaluated, and what it answers is shown elsewhere to hold of every run. No condition. -/
import Derived.Test.YtmephnenbboecaaAmP
set_option linter.unusedVariables false
set_option linter.unusedSimpArgs false
namespace Go.Am
noncomputable section

/-- A tree by numbers. -/
inductive Tr (α : Type) where
  | nil
  | node (v : Option α) (l r : Tr α)

/-- (Spelt by recursors: so Lean's kernel reckons it fast.) -/
def Tr.get {α : Type} (t : Tr α) : Nat → Option α :=
  Tr.rec (motive := fun _ => Nat → Option α) (fun _ => none)
    (fun v _ _ ihl ihr i => Bool.rec (Bool.rec (ihr (Nat.sub (Nat.div i 2) 1)) (ihl (Nat.div i 2)) (Nat.beq (Nat.mod i 2) 1)) v (Nat.beq i 0)) t

def Tr.set {α : Type} (t : Tr α) : Nat → Option α → Option (Tr α) :=
  Tr.rec (motive := fun _ => Nat → Option α → Option (Tr α))
    (fun i v => Bool.rec none (some (.node v .nil .nil)) (Nat.beq i 0))
    (fun u l r ihl ihr i v => Bool.rec (Bool.rec (Option.rec none (fun r' => some (.node u l r')) (ihr (Nat.sub (Nat.div i 2) 1) v)) (Option.rec none (fun l' => some (.node u l' r)) (ihl (Nat.div i 2) v)) (Nat.beq (Nat.mod i 2) 1)) (some (.node v l r)) (Nat.beq i 0)) t

theorem Tr.get_nil {α : Type} (i : Nat) : (Tr.nil : Tr α).get i = none := rfl
theorem Tr.get_node {α : Type} (v : Option α) (l r : Tr α) (i : Nat) : (Tr.node v l r).get i = bif Nat.beq i 0 then v else bif Nat.beq (i % 2) 1 then l.get (i / 2) else r.get (i / 2 - 1) := by
  show (Bool.rec (Bool.rec (r.get (i / 2 - 1)) (l.get (i / 2)) (Nat.beq (i % 2) 1)) v (Nat.beq i 0) : Option α) = _
  cases Nat.beq i 0 <;> cases Nat.beq (i % 2) 1 <;> rfl
theorem Tr.set_nil {α : Type} (i : Nat) (v : Option α) : (Tr.nil : Tr α).set i v = bif Nat.beq i 0 then some (.node v .nil .nil) else none := by
  show (Bool.rec none (some (.node v .nil .nil)) (Nat.beq i 0) : Option (Tr α)) = _
  cases Nat.beq i 0 <;> rfl
theorem Tr.set_node {α : Type} (u : Option α) (l r : Tr α) (i : Nat) (v : Option α) : (Tr.node u l r).set i v = bif Nat.beq i 0 then some (.node v l r) else
    bif Nat.beq (i % 2) 1 then
      match l.set (i / 2) v with
      | some l' => some (.node u l' r)
      | none => none
    else
      match r.set (i / 2 - 1) v with
      | some r' => some (.node u l r')
      | none => none := by
  show (Bool.rec (Bool.rec (Option.rec none (fun r' => some (.node u l r')) (r.set (i / 2 - 1) v)) (Option.rec none (fun l' => some (.node u l' r)) (l.set (i / 2) v)) (Nat.beq (i % 2) 1)) (some (.node v l r)) (Nat.beq i 0) : Option (Tr α)) = _
  cases Nat.beq i 0 <;> cases Nat.beq (i % 2) 1
  · simp only [cond_false]; cases r.set (i / 2 - 1) v <;> rfl
  · simp only [cond_false, cond_true]; cases l.set (i / 2) v <;> rfl
  · rfl
  · rfl

def Tr.full {α : Type} : Nat → Tr α
  | 0 => .nil
  | d + 1 => .node none (Tr.full d) (Tr.full d)

theorem Tr.get_full {α : Type} : ∀ (d i : Nat), (Tr.full d : Tr α).get i = none
  | 0, _ => rfl
  | d + 1, i => by
    simp only [Tr.full, Tr.get_node, Tr.get_full d]
    cases Nat.beq i 0 <;> cases Nat.beq (i % 2) 1 <;> rfl

theorem Tr.get_set {α : Type} : ∀ (t : Tr α) (i : Nat) (v : Option α) (t' : Tr α), t.set i v = some t' → ∀ j, t'.get j = if j = i then v else t.get j
  | .nil, i, v, t', h, j => by
    simp only [Tr.set_nil] at h
    cases hi : Nat.beq i 0 with
    | false => rw [hi] at h; cases h
    | true =>
      rw [hi] at h; injection h with h; subst h
      have hi0 : i = 0 := Nat.eq_of_beq_eq_true hi
      subst hi0
      simp only [Tr.get_node, Tr.get_nil]
      by_cases hj : j = 0
      · subst hj; rfl
      · have : Nat.beq j 0 = false := by cases hb : Nat.beq j 0 with | false => rfl | true => exact absurd (Nat.eq_of_beq_eq_true hb) hj
        rw [this, if_neg hj]
        cases Nat.beq (j % 2) 1 <;> rfl
  | .node u l r, i, v, t', h, j => by
    simp only [Tr.set_node] at h
    have hbj : ∀ a b : Nat, Nat.beq a b = decide (a = b) := fun a b => by
      cases hb : Nat.beq a b with
      | true => simp [Nat.eq_of_beq_eq_true hb]
      | false => simp [Nat.ne_of_beq_eq_false hb]
    by_cases hi : i = 0
    · subst hi
      simp only [Nat.beq, cond_true] at h
      injection h with h; subst h
      simp only [Tr.get_node, hbj]
      by_cases hj : j = 0
      · subst hj; rfl
      · simp [hj]
    · simp only [hbj, hi, decide_false, cond_false] at h
      by_cases hp : i % 2 = 1
      · simp only [hp, decide_true, cond_true] at h
        cases hl : l.set (i / 2) v with
        | none => rw [hl] at h; cases h
        | some l' =>
          rw [hl] at h; injection h with h; subst h
          have ih := Tr.get_set l (i / 2) v l' hl
          simp only [Tr.get_node, hbj]
          by_cases hj : j = 0
          · subst hj; simp [Ne.symm hi]
          · by_cases hq : j % 2 = 1
            · simp only [hj, hq, decide_false, decide_true, cond_false, cond_true, ih]
              by_cases he : j = i
              · subst he; simp
              · have : j / 2 ≠ i / 2 := by omega
                simp [he, this]
            · have he : j ≠ i := by rintro rfl; exact hq hp
              simp [hj, hq, he]
      · simp only [hp, decide_false, cond_false] at h
        cases hr : r.set (i / 2 - 1) v with
        | none => rw [hr] at h; cases h
        | some r' =>
          rw [hr] at h; injection h with h; subst h
          have ih := Tr.get_set r (i / 2 - 1) v r' hr
          simp only [Tr.get_node, hbj]
          by_cases hj : j = 0
          · subst hj; simp [Ne.symm hi]
          · by_cases hq : j % 2 = 1
            · have he : j ≠ i := by rintro rfl; exact hp hq
              simp [hj, hq, he]
            · simp only [hj, hq, decide_false, cond_false, ih]
              by_cases he : j = i
              · subst he; simp
              · have : j / 2 - 1 ≠ i / 2 - 1 := by omega
                simp [he, this]

structure St where
  h : Tr (Nat × Blk)
  next : Nat
  cnt : Nat
  orc : List (Nat × Bool)
  obl : List (Value × Bool)

abbrev CallX := FuncId → List Value → St → Option (Value × St)

def evT (ρ : Tr Value) : Env := fun t => match ρ.get t with | some v => v | none => undef

def putT (ρ : Tr Value) (d : Option Nat) (v : Value) : Option (Tr Value) :=
  match d with
  | none => some ρ
  | some d => ρ.set d (some v)

def rowX (s : St) (b : Nat) : Option (List Value) :=
  match s.h.get b with
  | some (_, .row _ _ cs) => some cs
  | _ => none

def ldX (s : St) : Value → Option Value
  | .pointer (some ⟨b, o, none⟩) => match rowX s b with
    | some cs => cs[o]?
    | none => none
  | _ => none

def ldNX (n : Nat) (s : St) : Value → Option Value
  | .pointer (some ⟨b, o, none⟩) => match rowX s b with
    | some cs => if o + n ≤ cs.length then some (.agg ((cs.drop o).take n).toArray) else none
    | none => none
  | _ => none

/-- A new block. -/
def newX (s : St) (w : Nat) (e : TypeId) (cs : List Value) (v : Value) : Option (Value × St) :=
  match s.h.set s.next (some (w, .row true e cs)) with
  | some h => some (v, { s with h := h, next := s.next + 1 })
  | none => none

/-- New contents. -/
def putX (s : St) (b w : Nat) (e : TypeId) (cs : List Value) (v : Value) : Option (Value × St) :=
  match s.h.set b (some (w, .row true e cs)) with
  | some h => some (v, { s with h := h })
  | none => none

def cellsX (s : St) (size : Nat) : Value → Option (List Value)
  | .slice none n _ => if n = 0 then some [] else none
  | .slice (some ⟨b, o, none⟩) n _ =>
    if n * size = 0 then some [] else
    match s.h.get b with
    | some (_, .row true _ cs) => if o + n * size ≤ cs.length then some ((cs.drop o).take (n * size)) else none
    | _ => none
  | _ => none

/-- A slice that grows: it goes on under a new name, the old one is dead. -/
def growX (s : St) (e : TypeId) (bytes st : Nat) (b n m c : Nat) (news : List Value) : Option (Value × St) :=
  match s.h.get b with
  | some (w, .row true e' cs) =>
    if e = e' ∧ st ≠ 0 ∧ (w = 0 ∨ w = st) ∧ n + m ≤ 1048576 ∧ (n + m) * bytes ≤ 140737488355328 ∧ n ≤ c ∧ c * st = cs.length then
      if n + m ≤ c then putX s b w e (spliceL cs (n * st) news) (.slice (some ⟨b, 0, none⟩) (n + m) c)
      else match s.h.set b none with
        | some h => newX { s with h := h } st e (cs.take (n * st) ++ news) (.slice (some ⟨s.next, 0, none⟩) (n + m) (n + m))
        | none => none
    else none
  | _ => none

def appX (e : TypeId) (bytes st : Nat) (x y : Value) (s : St) : Option (Value × St) :=
  match y with
  | .slice ya m yc =>
    match cellsX s st (.slice ya m yc) with
    | none => none
    | some news =>
      match x with
      | .slice none 0 0 =>
        if m = 0 then some (.slice none 0 0, s)
        else if st ≠ 0 ∧ m * bytes ≤ 140737488355328 ∧ m ≤ 1048576 then newX s st e news (.slice (some ⟨s.next, 0, none⟩) m m) else none
      | .slice (some ⟨b, o, none⟩) n c =>
        if m = 0 then (if n ≤ c then some (.slice (some ⟨b, o, none⟩) n c, s) else none)
        else if o = 0 then growX s e bytes st b n m c news
        else none
      | _ => none
  | _ => none

def cpyX (size : Nat) (d y : Value) (s : St) : Option (Value × St) :=
  match d, y with
  | .slice da dn _, .slice sa sn sc =>
    if Nat.min sn dn * size = 0 then some (.int .i64 (Nat.min sn dn), s) else
    match cellsX s size (.slice sa (Nat.min sn dn) sc), da with
    | some news, some ⟨b, o, none⟩ => match s.h.get b with
      | some (w, .row true e cs) => if o + Nat.min sn dn * size ≤ cs.length then putX s b w e (spliceL cs o news) (.int .i64 (Nat.min sn dn)) else none
      | _ => none
    | _, _ => none
  | _, _ => none

def stX (n : Nat) (x : Value) (vs : List Value) (s : St) : Option (Value × St) :=
  match x with
  | .pointer (some ⟨b, o, none⟩) => match s.h.get b with
    | some (w, .row true e cs) => if vs.length = n ∧ o + n ≤ cs.length ∧ allOne vs = true then putX s b w e (spliceL cs o vs) undef else none
    | _ => none
  | _ => none

def st1X (x v : Value) (s : St) : Option (Value × St) :=
  match x with
  | .pointer (some ⟨b, o, none⟩) => match s.h.get b with
    | some (w, .row true e cs) => if o < cs.length ∧ v.oneCell' = true then putX s b w e (cs.set o v) undef else none
    | _ => none
  | _ => none

def wX (call : CallX) (e : WExp) (ρ : Tr Value) (s : St) : Option (Value × St) :=
  match e with
  | .alloc e z => newX s 0 e z (.pointer (some ⟨s.next, 0, none⟩))
  | .box e x => if allOne (ev (evT ρ) x).cells.toList = true then newX s 0 e (ev (evT ρ) x).cells.toList (.pointer (some ⟨s.next, 0, none⟩)) else none
  | .bslice e n z parts =>
    match fillL (repl n z) (evParts (evT ρ) parts) with
    | some cs => if allOne cs = true then newX s 0 e cs (.slice (some ⟨s.next, 0, none⟩) n n) else none
    | none => none
  | .mksl e bytes z l c =>
    match ev (evT ρ) l, ev (evT ρ) c with
    | .int _ l, .int _ c => if 0 ≤ l ∧ l ≤ c ∧ c * bytes ≤ 140737488355328 ∧ c ≤ 140737488355328 then newX s 0 e (repl c.toNat z) (.slice (some ⟨s.next, 0, none⟩) l.toNat c.toNat) else none
    | _, _ => none
  | .st1 x v => st1X (ev (evT ρ) x) (ev (evT ρ) v) s
  | .stN n x v => stX n (ev (evT ρ) x) (ev (evT ρ) v).cells.toList s
  | .app e bytes z x y => appX e bytes z.length (ev (evT ρ) x) (ev (evT ρ) y) s
  | .cpy size d y => cpyX size (ev (evT ρ) d) (ev (evT ρ) y) s
  | .call f args => call f (args.map (ev (evT ρ))) s
  | .callv x args =>
    match ev (evT ρ) x with
    | .func (.func f) first captured => call f (first.toList ++ args.map (ev (evT ρ)) ++ captured.toList) s
    | _ => none
  | .ext _ _ => none

def slcX (stride : Nat) (x : Value) (lo hi : Option Value) : Option Value :=
  match x with
  | .slice a len cap =>
    match boundV 0 lo, boundV len hi with
    | some l, some h => if l ≤ h ∧ h ≤ cap ∧ (l = 0 ∨ cap ≠ l) then some (.slice (a.map (·.add (l * stride))) (h - l) (cap - l)) else none
    | _, _ => none
  | _ => none

def valX (ρ : Tr Value) : PExp → Option Value
  | .slc st x lo hi => slcX st (ev (evT ρ) x) (lo.map (ev (evT ρ))) (hi.map (ev (evT ρ)))
  | e => e.val (evT ρ)

/-- What a pure operation gave; or what is taken for granted of it. -/
def orcV (v : Value) (s : St) : Value × St :=
  match s.orc with
  | [] => (v, s)
  | (k, b) :: r => bif Nat.beq k s.cnt then (.bool b, { s with cnt := s.cnt + 1, orc := r, obl := (v, b) :: s.obl }) else (v, { s with cnt := s.cnt + 1 })

def actX (call : CallX) (a : AAct) (ρ : Tr Value) (s : St) : Option (Value × St) :=
  match a with
  | .p e => match valX ρ e with | some v => some (orcV v s) | none => none
  | .r1 x => match ldX s (ev (evT ρ) x) with | some v => some (v, s) | none => none
  | .rN n x => match ldNX n s (ev (evT ρ) x) with | some v => some (v, s) | none => none
  | .w e => wX call e ρ s

def opsX (call : CallX) : List AOper → Tr Value → St → Option (Tr Value × St)
  | [], ρ, s => some (ρ, s)
  | o :: os, ρ, s =>
    bif wantedG o.g (evT ρ) then
      match actX call o.act ρ s with
      | some (v, s') => match putT ρ o.dst v with
        | some ρ' => opsX call os ρ' s'
        | none => none
      | none => none
    else match putT ρ o.dst undef with
      | some ρ' => opsX call os ρ' s
      | none => none

def sameL : Value → Value → Bool
  | .int k n, .int k' n' => decide (k = k') && decide (n = n')
  | .bool a, .bool b => a == b
  | .pointer a, .pointer b => decide (a = b)
  | .slice a n c, .slice b n' c' => decide (a = b) && decide (n = n') && decide (c = c')
  | .nilFunc, .nilFunc => true
  | .nilIface, .nilIface => true
  | _, _ => false

def sameLs : List Value → List Value → Bool
  | [], [] => true
  | x :: xs, y :: ys => sameL x y && sameLs xs ys
  | _, _ => false

def sameV : Value → Value → Bool
  | .agg xs, .agg ys => sameLs xs.toList ys.toList
  | x, y => sameL x y

/-- A read that is pending: its number, its width, its place, what it gave. -/
structure PX where
  i : Nat
  n : Option Nat
  a : Value
  v : Value

def rdX (s : St) (n : Option Nat) (a : Value) : Option Value :=
  match n with
  | none => ldX s a
  | some n => ldNX n s a

def chkX (s : St) (un : List Nat) : List PX → Bool
  | [] => true
  | p :: ps => (bif un.contains p.i then (match rdX s p.n p.a with | some v => sameV v p.v | none => false) else true) && chkX s un ps

/-- A check that holds, or is taken for granted. -/
def passX (c : Bool) (s : St) : Option St :=
  match s.orc with
  | [] => bif c then some s else none
  | (k, _) :: r => bif Nat.beq k s.cnt then some { s with cnt := s.cnt + 1, orc := r, obl := (.bool c, true) :: s.obl } else bif c then some { s with cnt := s.cnt + 1 } else none

def drawX (call : CallX) : List PX → List DOper → Tr Value → St → Option (Tr Value × St)
  | _, [], ρ, s => some (ρ, s)
  | pend, o :: os, ρ, s =>
    bif wantedG o.op.g (evT ρ) then
      match actX call o.op.act ρ s with
      | some (v, s') => match putT ρ o.op.dst v with
        | some ρ' => match o.op.act with
          | .p _ => drawX call pend os ρ' s'
          | .r1 x => drawX call (⟨o.idx, none, ev (evT ρ) x, v⟩ :: pend) os ρ' s'
          | .rN n x => drawX call (⟨o.idx, some n, ev (evT ρ) x, v⟩ :: pend) os ρ' s'
          | .w _ => match passX (chkX s' o.un pend) s' with
            | some s'' => drawX call pend os ρ' s''
            | none => none
        | none => none
      | none => none
    else match putT ρ o.op.dst undef with
      | some ρ' => drawX call pend os ρ' s
      | none => none

/-- Which way. -/
def branch (s : St) (v : Value) : Option (Bool × St) :=
  match s.orc with
  | [] => match v with
    | .bool b => some (b, s)
    | _ => none
  | (k, b) :: r =>
    bif Nat.beq k s.cnt then some (b, { s with cnt := s.cnt + 1, orc := r, obl := (v, b) :: s.obl })
    else match v with
      | .bool b => some (b, { s with cnt := s.cnt + 1 })
      | _ => none

def iterX (f : Tr Value → St → Option (AExit × Tr Value × St)) : Nat → Tr Value → St → Option (AExit × Tr Value × St)
  | 0, _, _ => none
  | n + 1, ρ, s => match f ρ s with
    | some (.normal, ρ', s') => iterX f n ρ' s'
    | r => r

def execX (call : CallX) (fuel : Nat) : ACode → Tr Value → St → Option (AExit × Tr Value × St)
  | .skip, ρ, s => some (.normal, ρ, s)
  | .ret, ρ, s => some (.ret, ρ, s)
  | .exit i, ρ, s => some (.exit i, ρ, s)
  | .region os, ρ, s => match opsX call os ρ s with
    | some (ρ', s') => some (.normal, ρ', s')
    | none => none
  | .draw os, ρ, s => match drawX call [] os ρ s with
    | some (ρ', s') => some (.normal, ρ', s')
    | none => none
  | .seq a b, ρ, s => match execX call fuel a ρ s with
    | some (.normal, ρ', s') => execX call fuel b ρ' s'
    | r => r
  | .cond c a b, ρ, s => match branch s (ev (evT ρ) c) with
    | some (true, s') => execX call fuel a ρ s'
    | some (false, s') => execX call fuel b ρ s'
    | none => none
  | .block id a, ρ, s => match execX call fuel a ρ s with
    | some (.exit i, ρ', s') => bif Nat.beq i id then some (.normal, ρ', s') else some (.exit i, ρ', s')
    | r => r
  | .loop a, ρ, s => iterX (fun ρ s => execX call fuel a ρ s) fuel ρ s

def resX1 (ρ : Tr Value) (s : St) : ARes → Option Value
  | .tmp t => some (evT ρ t)
  | .c1 t => ldX s (evT ρ t)
  | .cN n t => ldNX n s (evT ρ t)

def resXs (ρ : Tr Value) (s : St) : List ARes → Option (List Value)
  | [] => some []
  | r :: rs => match resX1 ρ s r, resXs ρ s rs with
    | some v, some vs => some (v :: vs)
    | _, _ => none

def resX (ρ : Tr Value) (s : St) : List ARes → Option Value
  | [r] => resX1 ρ s r
  | rs => match resXs ρ s rs with
    | some vs => some (.tuple vs.toArray)
    | none => none

def fillX : List Value → Nat → Tr Value → Option (Tr Value)
  | [], _, ρ => some ρ
  | v :: vs, i, ρ => match ρ.set i (some v) with
    | some ρ' => fillX vs (i + 1) ρ'
    | none => none

/-- The functions: those that are known by what they answer, and those that are run. -/
def runX (ext : FuncId → List Value → Option Value) (tbl : Tr AFunc) (fuel : Nat) : Nat → CallX
  | 0 => fun _ _ _ => none
  | n + 1 => fun f args s =>
    match ext f args with
    | some v => some (v, s)
    | none => match tbl.get f with
      | none => none
      | some F => if args.length ≤ F.nargs then
          match fillX args 0 (Tr.full 10) with
          | none => none
          | some ρ => match execX (runX ext tbl fuel n) fuel F.code ρ s with
            | some (.normal, ρ', s') => match resX ρ' s' F.res with | some v => some (v, s') | none => none
            | some (.ret, ρ', s') => match resX ρ' s' F.res with | some v => some (v, s') | none => none
            | _ => none
        else none

def tblOf : List (Nat × AFunc) → Tr AFunc → Tr AFunc
  | [], t => t
  | (i, F) :: l, t => match t.set i (some F) with
    | some t' => tblOf l t'
    | none => tblOf l t

def St.empty : St := ⟨.nil, 0, 0, [], []⟩
end
end Go.Am
