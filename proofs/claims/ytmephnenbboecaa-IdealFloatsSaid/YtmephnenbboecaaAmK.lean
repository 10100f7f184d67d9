/- Code, resolved: its weakest precondition over known blocks, and the proof that the model's code meets it. No condition. -/
import Derived.Test.YtmephnenbboecaaAmJ
namespace Go.Am

structure AOper where
  dst : Option Nat
  g : Option (Nat × Bool)
  act : AAct

structure DOper where
  idx : Nat
  op : AOper
  un : List Nat

inductive ACode where
  | skip
  | ret
  | exit (id : Nat)
  | region (ops : List AOper)
  | draw (ops : List DOper)
  | seq (a b : ACode)
  | cond (c : Operand) (a b : ACode)
  | block (id : Nat) (a : ACode)
  | loop (a : ACode)

inductive AExit where
  | normal
  | ret
  | exit (id : Nat)

def AExit.toExit : AExit → Exit
  | .normal => .normal
  | .ret => .ret
  | .exit id => .exit id

def AAct.wp (P : Program) (ρ : Env) (H : Heap) (Q : Value → Heap → Prop) : AAct → Prop
  | .p e => match e.val ρ with
    | some v => Q v H
    | none => False
  | .r1 x => match load1V H (ev ρ x) with
    | some v => Q v H
    | none => False
  | .rN n x => match loadNV n H (ev ρ x) with
    | some v => Q v H
    | none => False
  | .w e => e.wp P ρ H Q

def wpOpsA (P : Program) (K : Env → Heap → Prop) : List AOper → Env → Heap → Prop
  | [], ρ, H => K ρ H
  | o :: os, ρ, H =>
    if wantedG o.g ρ = true then o.act.wp P ρ H (fun v H' => wpOpsA P K os (put ρ o.dst v) H')
    else wpOpsA P K os (put ρ o.dst undef) H

/-- The pending reads of a region, by their numbers. -/
def lookP (i : Nat) (H : Heap) : List (Nat × (Heap → Prop)) → Prop
  | [] => True
  | (j, φ) :: ps => if i = j then φ H ∧ lookP i H ps else lookP i H ps

def chkA : List Nat → Heap → List (Nat × (Heap → Prop)) → Prop
  | [], _, _ => True
  | i :: un, H, pend => lookP i H pend ∧ chkA un H pend

def wpDrawA (P : Program) (K : Env → Heap → Prop) : List (Nat × (Heap → Prop)) → List DOper → Env → Heap → Prop
  | _, [], ρ, H => K ρ H
  | pend, d :: ds, ρ, H =>
    if wantedG d.op.g ρ = true then
      match d.op.act with
      | .p e => match e.val ρ with
        | some v => wpDrawA P K pend ds (put ρ d.op.dst v) H
        | none => False
      | .r1 x => match load1V H (ev ρ x) with
        | some v => wpDrawA P K ((d.idx, fun H' => load1V H' (ev ρ x) = some v) :: pend) ds (put ρ d.op.dst v) H
        | none => False
      | .rN n x => match loadNV n H (ev ρ x) with
        | some v => wpDrawA P K ((d.idx, fun H' => loadNV n H' (ev ρ x) = some v) :: pend) ds (put ρ d.op.dst v) H
        | none => False
      | .w e => e.wp P ρ H (fun v H' => chkA d.un H' pend ∧ wpDrawA P K pend ds (put ρ d.op.dst v) H')
    else wpDrawA P K pend ds (put ρ d.op.dst undef) H

def thenA (next : Env → Heap → Prop) (Q : AExit → Env → Heap → Prop) : AExit → Env → Heap → Prop
  | .normal => next
  | e => Q e

def inBlockA (id : Nat) (Q : AExit → Env → Heap → Prop) : AExit → Env → Heap → Prop
  | .exit i => if i = id then Q .normal else Q (.exit i)
  | e => Q e

def wpA (P : Program) : ACode → (AExit → Env → Heap → Prop) → Env → Heap → Prop
  | .skip, Q => Q .normal
  | .ret, Q => Q .ret
  | .exit id, Q => Q (.exit id)
  | .region ops, Q => wpOpsA P (Q .normal) ops
  | .draw ops, Q => wpDrawA P (Q .normal) [] ops
  | .seq a b, Q => wpA P a (thenA (wpA P b Q) Q)
  | .cond c a b, Q => fun ρ H => match ev ρ c with
    | .bool true => wpA P a Q ρ H
    | .bool false => wpA P b Q ρ H
    | _ => False
  | .block id a, Q => wpA P a (inBlockA id Q)
  | .loop a, Q => fun ρ H => ∃ (I : Env → Heap → Prop) (μ : Env → Heap → Nat), I ρ H ∧ ∀ ρ' H', I ρ' H' → wpA P a (thenA (fun ρ'' H'' => I ρ'' H'' ∧ μ ρ'' H'' < μ ρ' H') Q) ρ' H'

-- compiling

def compOper (P : Program) (N : Nat) (ops : Array Oper) (o : Oper) : Option AOper :=
  if inFrame N o then
    match guardOf N ops o, compAct P o with
    | some g, some act => some ⟨o.dst, g, act⟩
    | _, _ => none
  else none

def compOps (P : Program) (N : Nat) (ops : Array Oper) : List Oper → Option (List AOper)
  | [] => some []
  | o :: os => match compOper P N ops o, compOps P N ops os with
    | some x, some xs => some (x :: xs)
    | _, _ => none

def preds (o : Oper) : List Nat := (o.after.toList.filter (Region.binds .any)).map (·.on)

/-- Of each operation all that stands ahead of it by the edges. -/
def befGo : List Oper → List (List Nat) → List (List Nat)
  | [], acc => acc
  | o :: os, acc => befGo os (acc ++ [(preds o ++ (preds o).flatMap fun k => acc.getD k []).eraseDups])

def toS (o : Oper) (i : Nat) (x : AOper) (un : List Nat) : SOp := ⟨i, o, x.g, x.act.kd, un⟩

/-- The one order: pure operations and reads as early as they may, then what writes, then what makes blocks. -/
def orderGo (ps : List (List Nat)) (ks : List Kd) : Nat → List Nat → List Nat
  | 0, done => done.reverse
  | fuel + 1, done =>
    let ready := (List.range ks.length).filter fun i => !done.contains i && (ps.getD i []).all done.contains
    match ready.find? (fun i => ks.getD i .p == .p || ks.getD i .p == .r) with
    | some i => orderGo ps ks fuel (i :: done)
    | none => match ready.find? (fun i => ks.getD i .p == .w) with
      | some i => orderGo ps ks fuel (i :: done)
      | none => match ready with
        | i :: _ => orderGo ps ks fuel (i :: done)
        | [] => done.reverse

def unOf (bs : List (List Nat)) (ks : List Kd) (ahead : List Nat) (i : Nat) : List Nat :=
  if ks.getD i .p == .w then ahead.filter fun j => ks.getD j .p == .r && !((bs.getD i []).contains j) else []

def drawGo (bs : List (List Nat)) (ks : List Kd) (xs : List AOper) : List Nat → List Nat → Option (List DOper)
  | _, [] => some []
  | ahead, i :: is => match xs[i]?, drawGo bs ks xs (ahead ++ [i]) is with
    | some x, some ds => some (⟨i, x, unOf bs ks ahead i⟩ :: ds)
    | _, _ => none

def pairOk (ops : Array Oper) (bs : List (List Nat)) (x y : DOper) : Bool :=
  ((bs.getD y.idx []).contains x.idx) ||
    (match ops[x.idx]?, ops[y.idx]? with
     | some ox, some oy => (toS ox x.idx x.op x.un).allow (toS oy y.idx y.op y.un) && (toS ox x.idx x.op x.un).apart (toS oy y.idx y.op y.un)
     | _, _ => false)

def pairsOk (ops : Array Oper) (bs : List (List Nat)) : List DOper → Bool
  | [] => true
  | x :: xs => xs.all (pairOk ops bs x) && pairsOk ops bs xs

/-- No operation stands ahead of one on which it hangs. -/
def laterOk (ops : Array Oper) : List DOper → Bool
  | [] => true
  | x :: xs => (match ops[x.idx]? with
      | some o => (preds o).all (fun k => decide (k < ops.size) && k != x.idx && xs.all (fun y => k != y.idx))
      | none => false) && laterOk ops xs

def compDraw (P : Program) (N : Nat) (ops : Array Oper) : Option (List DOper) :=
  match compOps P N ops ops.toList with
  | none => none
  | some xs =>
    let bs := befGo ops.toList []
    let ks := xs.map (·.act.kd)
    let order := orderGo (ops.toList.map preds) ks ops.size []
    match drawGo bs ks xs [] order with
    | none => none
    | some ds => if order.Nodup ∧ order.length ≤ ops.size ∧ (∀ i, i < ops.size → i ∈ order) ∧ pairsOk ops bs ds = true ∧ laterOk ops ds = true then some ds else none

def condOk (N : Nat) : Operand → Bool
  | .tmp t => decide (t < N)
  | _ => true

def comp (P : Program) (N : Nat) : Code → Option ACode
  | .skip => some .skip
  | .ret => some .ret
  | .exit id => some (.exit id)
  | .region _ ops draw =>
    if draw then (compDraw P N ops).map .draw else (compOps P N ops ops.toList).map .region
  | .seq a b => match comp P N a, comp P N b with
    | some x, some y => some (.seq x y)
    | _, _ => none
  | .cond c a b =>
    if condOk N c then
      match comp P N a, comp P N b with
      | some x, some y => some (.cond c x y)
      | _, _ => none
    else none
  | .block id a => (comp P N a).map (.block id)
  | .loop a => (comp P N a).map .loop
  | _ => none
end Go.Am
