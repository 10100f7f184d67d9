/- Operations that make or write blocks, and calls: their weakest preconditions over known blocks, each with the proof that the model's operation does so. No condition. -/
import Derived.Test.YtmephnenbboecaaAmC
import Derived.Laws.Append
import Derived.Laws.AppendOwn
import Derived.Laws.FloatArith
import Derived.Laws.Externs
namespace Go.Am

/-- n times the same cells. -/
def repl (n : Nat) (zero : List Value) : List Value := (List.replicate n zero).flatten

theorem length_repl (n : Nat) (zero : List Value) : (repl n zero).length = n * zero.length := by
  simp [repl]

theorem repl_getElem? (zero : List Value) : ∀ (n i : Nat), (repl n zero)[i]? = if i < n * zero.length then zero[i % zero.length]? else none
  | 0, i => by simp [repl]
  | n + 1, i => by
    have hs : repl (n + 1) zero = zero ++ repl n zero := by simp [repl, List.replicate_succ]
    rw [hs, List.getElem?_append]
    by_cases h : i < zero.length
    · have hlt : i < (n + 1) * zero.length := by rw [Nat.succ_mul]; omega
      rw [if_pos h, if_pos hlt, Nat.mod_eq_of_lt h]
    · rw [if_neg h, repl_getElem? zero n (i - zero.length)]
      have hz : i - zero.length < n * zero.length ↔ i < (n + 1) * zero.length := by rw [Nat.succ_mul]; omega
      by_cases h2 : i < (n + 1) * zero.length
      · rw [if_pos (hz.2 h2), if_pos h2]
        congr 1
        have : i = (i - zero.length) + zero.length := by omega
        rw [this, Nat.add_mod_right]
        simp
      · rw [if_neg (fun h3 => h2 (hz.1 h3)), if_neg h2]

theorem zeroCells_repl (zero : Array Value) (n : Nat) : Builtin.zeroCells zero n = (repl n zero.toList).toArray := by
  apply Array.ext'
  apply List.ext_getElem?
  intro i
  rw [repl_getElem?]
  simp only [Builtin.zeroCells, Array.toList_map, Array.toList_range, List.getElem?_map, Array.length_toList]
  by_cases h : i < n * zero.size
  · have hz : 0 < zero.size := Nat.pos_of_ne_zero (fun e => by simp [e] at h)
    have hm : i % zero.size < zero.size := Nat.mod_lt _ hz
    rw [if_pos h, List.getElem?_range h]
    simp [hm]
  · rw [if_neg h, List.getElem?_eq_none (by simpa using Nat.le_of_not_lt h)]
    rfl

theorem mem_repl {n : Nat} {zero : List Value} {v : Value} (h : v ∈ repl n zero) : v ∈ zero := by
  simp only [repl, List.mem_flatten, List.mem_replicate] at h
  obtain ⟨l, ⟨_, rfl⟩, hv⟩ := h
  exact hv

def allOne (cs : List Value) : Bool := cs.all Value.oneCell'

theorem allOne_mem {cs : List Value} (h : allOne cs = true) : ∀ v ∈ cs, v.oneCell' = true := by
  simpa [allOne, List.all_eq_true] using h

/-- The cells that a slice shows (size cells an element). -/
def cellsOf (H : Heap) (size : Nat) : Value → Option (List Value)
  | .slice none n _ => if n = 0 then some [] else none
  | .slice (some ⟨b, o, none⟩) n _ =>
    if n * size = 0 then some [] else
    match H.row b with
    | some cs => if o + n * size ≤ cs.length ∧ (H.rwB b || allOne ((cs.drop o).take (n * size))) = true then some ((cs.drop o).take (n * size)) else none
    | none => none
  | _ => none

/-- Operations beyond whole numbers. -/
inductive XOp where
  | fbits
  | fof
  | fbin (op : BinOp)
  | fcmp (op : BinOp)
  | ftoi (dst : IntKind)
  | itof

/-- The word is a NaN's. -/
def nanW (r : Nat) : Prop := (Ieee.double.read r).isNaN = true

def fcmpV (op : BinOp) (c : Option Ordering) : Option Bool :=
  match op with
  | .eql => some (c == some .eq)
  | .neq => some (c != some .eq)
  | .lss => some (c == some .lt)
  | .leq => some (c == some .lt || c == some .eq)
  | .gtr => some (c == some .gt)
  | .geq => some (c == some .gt || c == some .eq)
  | _ => none

def isArith : BinOp → Bool
  | .add | .sub | .mul | .quo => true
  | _ => false

def XOp.wp (H : Heap) (Q : Value → Heap → Prop) : XOp → List Value → Prop
  | .fbits, [.float .f64 b] => Q (.int .u64 b) H
  | .fof, [.int .u64 n] => Q (.float .f64 n.toNat) H
  | .fbin op, [.float .f64 a, .float .f64 b] => isArith op = true ∧ (∀ r, floatBits op .f64 a b = some r → Q (.float .f64 r) H) ∧ (floatBits op .f64 a b = none → ∀ r, nanW r → Q (.float .f64 r) H)
  | .fcmp op, [.float .f64 a, .float .f64 b] => match fcmpV op (Ieee.double.order a b) with
    | some b => Q (.bool b) H
    | none => False
  | .ftoi dst, [.float .f64 b] => match floatToIntVal .f64 b dst with
    | some n => Q (.int dst n) H
    | none => False
  | .itof, [.int _ n] => Q (.float .f64 (floatOfInt .f64 n)) H
  | _, _ => False

theorem XOp.wp_mono {H : Heap} {Q Q' : Value → Heap → Prop} (hq : ∀ v H', Q v H' → Q' v H') (x : XOp) (l : List Value) (h : x.wp H Q l) : x.wp H Q' l := by
  unfold XOp.wp at h ⊢
  split at h
  · exact hq _ _ h
  · exact hq _ _ h
  · exact ⟨h.1, fun r hr => hq _ _ (h.2.1 r hr), fun hn r hr => hq _ _ (h.2.2 hn r hr)⟩
  · revert h
    split
    · exact hq _ _
    · exact id
  · revert h
    split
    · exact hq _ _
    · exact id
  · exact hq _ _ h
  · exact h.elim

inductive WExp where
  | alloc (e : TypeId) (zero : List Value)
  | box (e : TypeId) (x : Operand)
  | bslice (e : TypeId) (n : Nat) (zero : List Value) (parts : List (Nat × Nat × Operand))
  | mksl (e : TypeId) (bytes : Nat) (zero : List Value) (l c : Operand)
  | st1 (x v : Operand)
  | stN (n : Nat) (x v : Operand)
  | app (e : TypeId) (bytes : Nat) (zero : List Value) (s x : Operand)
  | cpy (size : Nat) (d s : Operand)
  | call (f : FuncId) (args : List Operand)
  | callv (x : Operand) (args : List Operand)
  | ext (k : XOp) (args : List Operand)

/-- append: what it gives, for every capacity that a new array may have. -/
def appWp (e : TypeId) (bytes : Nat) (zero : List Value) (s x : Value) (H : Heap) (Q : Value → Heap → Prop) : Prop :=
  match x with
  | .slice xa m xc =>
    match cellsOf H zero.length (.slice xa m xc) with
    | none => False
    | some news =>
      match s with
      | .slice none n c =>
        if n = 0 ∧ c = 0 then
          if m = 0 then Q (.slice none 0 0) H
          else m * bytes ≤ 140737488355328 ∧ m ≤ maxLen ∧ ∀ b cap, H b = none → m ≤ cap → Q (.slice (some ⟨b, 0, none⟩) m cap) (H.set b (.row true e (news ++ repl (cap - m) zero)))
        else False
      | .slice (some ⟨b, o, none⟩) n c =>
        if m = 0 then n ≤ c ∧ Q (.slice (some ⟨b, o, none⟩) n c) H
        else
          (n + m ≤ c → match H b with
            | some (.row true e' cs) => o + (n + m) * zero.length ≤ cs.length ∧ Q (.slice (some ⟨b, o, none⟩) (n + m) c) (H.set b (.row true e' (spliceL cs (o + n * zero.length) news)))
            | _ => False) ∧
          (c < n + m → (n + m) * bytes ≤ 140737488355328 ∧ n + m ≤ maxLen ∧ match cellsOf H zero.length (.slice (some ⟨b, o, none⟩) n c) with
            | none => False
            | some olds => ∀ b' cap, H b' = none → n + m ≤ cap → Q (.slice (some ⟨b', 0, none⟩) (n + m) cap) (H.set b' (.row true e (olds ++ news ++ repl (cap - (n + m)) zero))))
      | _ => False
  | _ => False

def cpyWp (size : Nat) (d s : Value) (H : Heap) (Q : Value → Heap → Prop) : Prop :=
  match d, s with
  | .slice da dn _, .slice sa sn sc =>
    let n := Nat.min sn dn
    if n * size = 0 then Q (.int .i64 n) H else
    match cellsOf H size (.slice sa n sc), da with
    | some news, some ⟨b, o, none⟩ => match H b with
      | some (.row true e cs) => o + n * size ≤ cs.length ∧ Q (.int .i64 n) (H.set b (.row true e (spliceL cs o news)))
      | _ => False
    | _, _ => False
  | _, _ => False

def WExp.wp (P : Program) (ρ : Env) (H : Heap) (Q : Value → Heap → Prop) : WExp → Prop
  | .alloc e zero => ∀ b, H b = none → Q (.pointer (some ⟨b, 0, none⟩)) (H.set b (.row true e zero))
  | .box e x => allOne (ev ρ x).cells.toList = true ∧ ∀ b, H b = none → Q (.pointer (some ⟨b, 0, none⟩)) (H.set b (.row true e (ev ρ x).cells.toList))
  | .bslice e n zero parts =>
    match fillL (repl n zero) (parts.map fun (o, s, x) => (o, s, ev ρ x)) with
    | some cs => allOne cs = true ∧ ∀ b, H b = none → Q (.slice (some ⟨b, 0, none⟩) n n) (H.set b (.row true e cs))
    | none => False
  | .mksl e bytes zero l c =>
    match ev ρ l, ev ρ c with
    | .int _ l, .int _ c => 0 ≤ l ∧ l ≤ c ∧ c * bytes ≤ 140737488355328 ∧ c ≤ 140737488355328 ∧ ∀ b, H b = none → Q (.slice (some ⟨b, 0, none⟩) l.toNat c.toNat) (H.set b (.row true e (repl c.toNat zero)))
    | _, _ => False
  | .st1 x v =>
    match ev ρ x with
    | .pointer (some ⟨b, o, none⟩) => match H b with
      | some (.row true e cs) => o < cs.length ∧ (ev ρ v).oneCell' = true ∧ Q undef (H.set b (.row true e (cs.set o (ev ρ v))))
      | _ => False
    | _ => False
  | .stN n x v =>
    match ev ρ x with
    | .pointer (some ⟨b, o, none⟩) => match H b with
      | some (.row true e cs) => (ev ρ v).cells.size = n ∧ o + n ≤ cs.length ∧ allOne (ev ρ v).cells.toList = true ∧ Q undef (H.set b (.row true e (spliceL cs o (ev ρ v).cells.toList)))
      | _ => False
    | _ => False
  | .app e bytes zero s x => appWp e bytes zero (ev ρ s) (ev ρ x) H Q
  | .cpy size d s => cpyWp size (ev ρ d) (ev ρ s) H Q
  | .call f args => ACalls P f (args.map (ev ρ)) H Q
  | .callv x args =>
    match ev ρ x with
    | .func (.func f) first captured => ACalls P f (first.toList ++ args.map (ev ρ) ++ captured.toList) H Q
    | _ => False
  | .ext k args => k.wp H Q (args.map (ev ρ))

/-- What an operation comes to: a value and a world. -/
def opRun (P : Program) (o : Oper) (ρ : Env) (w : World) (post : Value → World → Prop) : Prop :=
  match (execOp (ev ρ) o).run P w with
  | .ok (.value v) w' => post v w'
  | .ok .skip w' => post undef w'
  | .ok (.enter f args) w' => Calls P f args w' fun e w'' => ∃ v, e = .returned v ∧ post v w''
  | _ => False

def Tri (P : Program) (o : Oper) (ρ : Env) (H : Heap) (Q : Value → Heap → Prop) : Prop :=
  ∀ w, Fits H w → opRun P o ρ w fun v w' => ∃ H', Q v H' ∧ Fits H' w' ∧ Trans H w H' w'

section
variable {P : Program} {o : Oper} {ρ : Env} {H : Heap} {Q : Value → Heap → Prop}

theorem tri_new {e : TypeId} {cs : List Value} {mk : Nat → Value} (h1 : ∀ v ∈ cs, v.oneCell' = true) (hrun : ∀ w, (execOp (ev ρ) o).run P w = .ok (.value (mk w.heap.size)) (w.alloc (.cells cs.toArray e)))
    (h : ∀ b, H b = none → Q (mk b) (H.set b (.row true e cs))) : Tri P o ρ H Q := by
  intro w hw
  unfold opRun
  rw [hrun w]
  exact ⟨_, h _ hw.fresh, hw.alloc ⟨rfl, h1⟩, Trans.alloc hw _ _⟩

/-- 'This operation makes one new block, whatever the world.' -/
def Mk (P : Program) (o : Oper) (ρ : Env) (H : Heap) (Q : Value → Heap → Prop) : Prop :=
  ∃ (mk : Nat → Value) (e : TypeId) (cs : List Value), ((∀ v ∈ cs, v.oneCell' = true) ∧ ∀ w, (execOp (ev ρ) o).run P w = .ok (.value (mk w.heap.size)) (w.alloc (.cells cs.toArray e))) ∧ ∀ b, H b = none → Q (mk b) (H.set b (.row true e cs))

theorem mk_new {e : TypeId} {cs : List Value} {mk : Nat → Value} (h1 : ∀ v ∈ cs, v.oneCell' = true) (hrun : ∀ w, (execOp (ev ρ) o).run P w = .ok (.value (mk w.heap.size)) (w.alloc (.cells cs.toArray e)))
    (h : ∀ b, H b = none → Q (mk b) (H.set b (.row true e cs))) : Mk P o ρ H Q := ⟨mk, e, cs, ⟨h1, hrun⟩, h⟩

theorem Mk.tri (h : Mk P o ρ H Q) : Tri P o ρ H Q := by
  obtain ⟨mk, e, cs, ⟨h1, h2⟩, h3⟩ := h
  exact tri_new h1 h2 h3

theorem mk_alloc {t : TypeId} {i : TypeInfo} {z : Value} (ho : o.op = .alloc t) (hi : P.info? t = some i) (hz : i.zero = some z) (h1 : allOne z.cells.toList = true)
    (h : (WExp.alloc t z.cells.toList).wp P ρ H Q) : Mk P o ρ H Q := by
  refine mk_new (mk := fun b => .pointer (some ⟨b, 0, none⟩)) (allOne_mem h1) (fun w => ?_) h
  simp [execOp, ho, Instr.alloc, zeroValue, typeInfo, hi, hz, newVar, newRow]

theorem mk_box {t : TypeId} {x : Operand} (ho : o.op = .box t x) (h : (WExp.box t x).wp P ρ H Q) : Mk P o ρ H Q := by
  refine mk_new (mk := fun b => .pointer (some ⟨b, 0, none⟩)) (allOne_mem h.1) (fun w => ?_) h.2
  simp [execOp, ho, Instr.box, newVar, newRow]

theorem range_repl (zero : Array Value) (n size : Nat) (hs : zero.size = size) : (Array.range (n * size)).map (zero[· % zero.size]!) = (repl n zero.toList).toArray := by
  subst hs
  rw [← zeroCells_repl]
  rfl

theorem mk_bslice {t e : TypeId} {n : Nat} {parts : Array (Nat × Operand)} {i : TypeInfo} {z : Value} {ps : List (Nat × Nat × Operand)} (ho : o.op = .buildSlice t n parts) (ht : P.underlying t = some (.slice e)) (hi : P.info? e = some i) (hz : i.zero = some z)
    (hs : z.cells.size = i.size) (hn : n * i.size ≤ 16777216) (hps : ps = parts.toList.map fun (j, x) => (j * i.size, i.size, x))
    (h : (WExp.bslice e n z.cells.toList ps).wp P ρ H Q) : Mk P o ρ H Q := by
  subst hps
  simp only [WExp.wp] at h
  split at h
  · rename_i cs hcs
    refine mk_new (mk := fun b => .slice (some ⟨b, 0, none⟩) n n) (allOne_mem h.1) (fun w => ?_) h.2
    have hfill := fill_of_fillL (fun j => some (j * i.size, i.size)) ((parts.map fun (j, x) => (j, ev ρ x)).toList) (parts.toList.map fun (j, _) => (j * i.size, i.size)) (repl n z.cells.toList) cs (by simp)
      (by
        intro j k u hj
        simp only [Array.toList_map, List.getElem?_map] at hj ⊢
        cases hq : parts.toList[j]? with
        | none => rw [hq] at hj; cases hj
        | some q =>
          rw [hq] at hj
          simp only [Option.map_some, Option.some.injEq, Prod.mk.injEq] at hj
          obtain ⟨rfl, _⟩ := hj
          rfl)
      (by
        rw [← hcs]
        congr 1
        have e1 : (parts.map fun (j, x) => (j, ev ρ x)).toList = parts.toList.map fun (j, x) => (j, ev ρ x) := by simp
        rw [e1, List.zip_map']
        simp [List.map_map, Function.comp_def])
    by_cases h0 : n * i.size = 0
    · have hr : repl n z.cells.toList = [] := by
        apply List.eq_nil_of_length_eq_zero
        rw [length_repl]; simpa [hs] using h0
      rw [hr] at hfill
      simp only [Array.toList_map] at hfill
      have e0 : Array.map (fun (_ : Nat) => (default : Value)) (Array.range 0) = #[] := by apply Array.ext'; simp
      simp [execOp, ho, Instr.buildSlice, run_underlying ht, sizeOf, typeInfo, hi, h0, newRow, e0, hfill]
    · have hr := range_repl z.cells n i.size hs
      simp only [Array.toList_map] at hfill
      have hlim' : ¬ (16777216 < n * i.size) := by omega
      simp [execOp, ho, Instr.buildSlice, run_underlying ht, sizeOf, typeInfo, hi, hlim', h0, zeroValue, hz, newRow]
      rw [hr, hfill]
      simp
  · exact h.elim
end
end Go.Am
