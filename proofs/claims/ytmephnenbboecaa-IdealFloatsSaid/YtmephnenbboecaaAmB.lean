/- Operations of the model, resolved: pure ones (their value hangs on the operands alone) and reads (on the known blocks too), each with the proof that the model's operation answers so. No condition. -/
import Derived.Test.YtmephnenbboecaaAmA
import Derived.WalkKit
import Derived.Laws.StructEq
import Derived.Laws.CopyRow
import Derived.Laws.Rows
namespace Go.Am

abbrev Env := Nat → Value

def Env.set (ρ : Env) (d : Nat) (v : Value) : Env := fun t => if t = d then v else ρ t

theorem Env.set_same (ρ : Env) (d : Nat) (v : Value) : ρ.set d v d = v := by simp [Env.set]
theorem Env.set_ne (ρ : Env) (d t : Nat) (v : Value) (h : t ≠ d) : ρ.set d v t = ρ t := by simp [Env.set, h]

def ev (ρ : Env) : Operand → Value
  | .tmp t => ρ t
  | .const v => v
  | .global g => .pointer (some ⟨g, 0, none⟩)
  | .func f => .func (.func f) #[] #[]

/-- Whole numbers: what an operator gives. -/
def abin (op : BinOp) (x y : Value) : Option Value :=
  match x, y with
  | .int k a, .int k' b =>
    match op with
    | .shl => if b < 0 then none else some (.int k (k.wrap (a * 2 ^ (min b.toNat k.bits))))
    | .shr => if b < 0 then none else some (.int k (a.fdiv (2 ^ (min b.toNat k.bits))))
    | op => if k ≠ k' then none else
      match op with
      | .add => some (.int k (k.wrap (a + b)))
      | .sub => some (.int k (k.wrap (a - b)))
      | .mul => some (.int k (k.wrap (a * b)))
      | .quo => if b = 0 then none else some (.int k (k.wrap (a.tdiv b)))
      | .rem => if b = 0 then none else some (.int k (a.tmod b))
      | .and => some (.int k (k.wrap (BitVec.ofInt k.bits a &&& BitVec.ofInt k.bits b).toNat))
      | .or => some (.int k (k.wrap (BitVec.ofInt k.bits a ||| BitVec.ofInt k.bits b).toNat))
      | .xor => some (.int k (k.wrap (BitVec.ofInt k.bits a ^^^ BitVec.ofInt k.bits b).toNat))
      | .andNot => some (.int k (k.wrap (BitVec.ofInt k.bits a &&& ~~~BitVec.ofInt k.bits b).toNat))
      | .eql => some (.bool (a == b))
      | .neq => some (.bool (a != b))
      | .lss => some (.bool (decide (a < b)))
      | .leq => some (.bool (decide (a ≤ b)))
      | .gtr => some (.bool (decide (b < a)))
      | .geq => some (.bool (decide (b ≤ a)))
      | _ => none
  | _, _ => none

theorem run_abin {P : Program} {op : BinOp} {x y v : Value} (h : abin op x y = some v) (w : World) : (binOp op 0 x y).run P w = .ok v w ∧ ∀ t, binOp op t x y = binOp op 0 x y := by
  unfold abin at h
  split at h
  · rename_i k a k' b
    cases op <;> simp only at h
    all_goals (try (split at h <;> first | (cases h; done) | skip))
    all_goals (try (split at h <;> first | (cases h; done) | skip))
    all_goals (first | (cases h; done) | (injection h with h; subst h))
    all_goals (refine ⟨?_, fun t => ?_⟩)
    all_goals (simp_all [binOp, Op.intArith, Op.intDiv, Op.intBits, Op.intCmp, Op.shift])
    all_goals (intro _; omega)
  · cases h

def pickV (c a b : Value) : Option Value :=
  match c with
  | .bool true => some a
  | .bool false => some b
  | _ => none

def nilckV : Value → Option Value
  | .pointer (some a) => some (.pointer (some a))
  | .func (.func f) x y => some (.func (.func f) x y)
  | _ => none

def addrPlus (a : Addr) (n : Nat) : Value := .pointer (some (a.add n))

def fieldAV (off : Nat) : Value → Option Value
  | .pointer (some ⟨b, o, none⟩) => some (.pointer (some ⟨b, o + off, none⟩))
  | _ => none

def idxSlV (stride : Nat) (x i : Value) : Option Value :=
  match x, i with
  | .slice (some ⟨b, o, none⟩) len _, .int _ n => if 0 ≤ n ∧ n < (len : Int) then some (.pointer (some ⟨b, o + n.toNat * stride, none⟩)) else none
  | _, _ => none

def idxArrV (len stride : Nat) (x i : Value) : Option Value :=
  match x, i with
  | .pointer (some ⟨b, o, none⟩), .int _ n => if 0 ≤ n ∧ n < (len : Int) then some (.pointer (some ⟨b, o + n.toNat * stride, none⟩)) else none
  | _, _ => none

def partV (off : Nat) (n : Option Nat) : Value → Option Value
  | .agg cs => match n with
    | some m => some (.agg (cs.extract off (off + m)))
    | none => cs[off]?
  | _ => none

def extractV (i : Nat) : Value → Option Value
  | .tuple vs => vs[i]?
  | _ => none

def lenV (str : Bool) : Value → Option Value
  | .slice _ n _ => if str then none else some (.int .i64 n)
  | .string s => if str then some (.int .i64 s.size) else none
  | _ => none

def notV : Value → Option Value
  | .bool b => some (.bool !b)
  | _ => none

def convV (k : IntKind) : Value → Option Value
  | .int _ n => some (.int k (k.wrap n))
  | _ => none

def eqpV (neg : Bool) (x y : Value) : Option Value :=
  match x, y with
  | .pointer none, .pointer b => some (.bool (neg != b.isNone))
  | .pointer (some _), .pointer none => some (.bool neg)
  | _, _ => none

def eqslV (neg : Bool) (x y : Value) : Option Value :=
  match x, y with
  | .slice none _ _, .slice b _ _ => some (.bool (neg != b.isNone))
  | .slice (some _) _ _, .slice none _ _ => some (.bool neg)
  | _, _ => none

def eqfnV (neg : Bool) (x y : Value) : Option Value :=
  match x, y with
  | .nilFunc, .nilFunc => some (.bool (neg != true))
  | .nilFunc, .func .. => some (.bool neg)
  | .func .., .nilFunc => some (.bool neg)
  | _, _ => none

def eqbV (neg : Bool) (x y : Value) : Option Value :=
  match x, y with
  | .bool a, .bool b => some (.bool (neg != (a == b)))
  | _, _ => none

def boundV (d : Nat) : Option Value → Option Nat
  | none => some d
  | some (.int _ n) => if 0 ≤ n then some n.toNat else none
  | _ => none

/-- x[lo:hi] of a slice. -/
def slcV (stride : Nat) (x : Value) (lo hi : Option Value) : Option Value :=
  match x with
  | .slice a len cap =>
    match boundV 0 lo, boundV len hi with
    | some l, some h => if l ≤ h ∧ h ≤ cap then some (.slice (if cap = l then a else a.map (·.add (l * stride))) (h - l) (cap - l)) else none
    | _, _ => none
  | _ => none

def minV (x y : Value) : Option Value :=
  match x, y with
  | .int k a, .int _ b => some (.int k (if b < a then b else a))
  | _, _ => none

def maxV (x y : Value) : Option Value :=
  match x, y with
  | .int k a, .int _ b => some (.int k (if a < b then b else a))
  | _, _ => none

def spliceL (cs : List Value) (off : Nat) (vs : List Value) : List Value := cs.take off ++ vs ++ cs.drop (off + vs.length)

def fillL : List Value → List (Nat × Nat × Value) → Option (List Value)
  | cs, [] => some cs
  | cs, (off, size, v) :: rest =>
    if v.cells.size = size ∧ off + size ≤ cs.length then fillL (spliceL cs off v.cells.toList) rest else none

/-- The pure operations. -/
inductive PExp where
  | mv (x : Operand)
  | pick (c a b : Operand)
  | nilck (x : Operand)
  | ibin (op : BinOp) (x y : Operand)
  | eqb (neg : Bool) (x y : Operand)
  | eqp (neg : Bool) (x y : Operand)
  | eqsl (neg : Bool) (x y : Operand)
  | eqfn (neg : Bool) (x y : Operand)
  | eqi (neg : Bool) (offs : List Nat) (x y : Operand)
  | not (x : Operand)
  | conv (k : IntKind) (x : Operand)
  | fieldA (off : Nat) (x : Operand)
  | idxArr (len stride : Nat) (x i : Operand)
  | idxSl (stride : Nat) (x i : Operand)
  | part (off : Nat) (n : Option Nat) (x : Operand)
  | extract (i : Nat) (x : Operand)
  | build (zero : List Value) (parts : List (Nat × Nat × Operand))
  | slc (stride : Nat) (x : Operand) (lo hi : Option Operand)
  | len (str : Bool) (x : Operand)
  | min2 (x y : Operand)
  | max2 (x y : Operand)
  | mkfn (f : FuncId) (first captured : List Operand)

/-- Structs of whole numbers: the cells at these places are alike. -/
def eqiV (offs : List Nat) (xs ys : Array Value) : Option Bool :=
  match offs with
  | [] => some true
  | o :: rest =>
    match xs[o]?, ys[o]? with
    | some (.int k a), some (.int k' b) => if k = k' then (if a = b then eqiV rest xs ys else some false) else none
    | _, _ => none

def PExp.val (ρ : Env) : PExp → Option Value
  | .mv x => some (ev ρ x)
  | .pick c a b => pickV (ev ρ c) (ev ρ a) (ev ρ b)
  | .nilck x => nilckV (ev ρ x)
  | .ibin op x y => abin op (ev ρ x) (ev ρ y)
  | .eqb neg x y => eqbV neg (ev ρ x) (ev ρ y)
  | .eqp neg x y => eqpV neg (ev ρ x) (ev ρ y)
  | .eqsl neg x y => eqslV neg (ev ρ x) (ev ρ y)
  | .eqfn neg x y => eqfnV neg (ev ρ x) (ev ρ y)
  | .eqi neg offs x y =>
    match ev ρ x, ev ρ y with
    | .agg xs, .agg ys => (eqiV offs xs ys).map fun b => .bool (neg != b)
    | _, _ => none
  | .not x => notV (ev ρ x)
  | .conv k x => convV k (ev ρ x)
  | .fieldA off x => fieldAV off (ev ρ x)
  | .idxArr n stride x i => idxArrV n stride (ev ρ x) (ev ρ i)
  | .idxSl stride x i => idxSlV stride (ev ρ x) (ev ρ i)
  | .part off n x => partV off n (ev ρ x)
  | .extract i x => extractV i (ev ρ x)
  | .build zero parts => (fillL zero (parts.map fun (o, s, x) => (o, s, ev ρ x))).map fun cs => .agg cs.toArray
  | .slc stride x lo hi => slcV stride (ev ρ x) (lo.map (ev ρ)) (hi.map (ev ρ))
  | .len str x => lenV str (ev ρ x)
  | .min2 x y => minV (ev ρ x) (ev ρ y)
  | .max2 x y => maxV (ev ρ x) (ev ρ y)
  | .mkfn f first captured => some (.func (.func f) (first.map (ev ρ)).toArray (captured.map (ev ρ)).toArray)

/-- 'This operation gives v, in every world, and leaves the world alone.' -/
def Pure (P : Program) (o : Oper) (ρ : Env) (v : Value) : Prop := ∀ w, (execOp (ev ρ) o).run P w = .ok (.value v) w

section
variable {P : Program} {o : Oper} {ρ : Env} {v : Value}

theorem pure_mv {x : Operand} (ho : o.op = .move x ∨ o.op = .assign x) : Pure P o ρ (ev ρ x) := by
  intro w; rcases ho with ho | ho <;> simp [execOp, ho]

theorem pure_pick {c a b : Operand} (ho : o.op = .pick c a b) (h : pickV (ev ρ c) (ev ρ a) (ev ρ b) = some v) : Pure P o ρ v := by
  intro w
  unfold pickV at h
  split at h <;> first | (cases h; done) | (injection h with h; subst h; rename_i hc; simp [execOp, ho, hc, asBool])

theorem pure_nilck {x : Operand} (ho : o.op = .nilCheck x) (h : nilckV (ev ρ x) = some v) : Pure P o ρ v := by
  intro w
  unfold nilckV at h
  split at h <;> first | (cases h; done) | (injection h with h; subst h; rename_i hc; simp [execOp, ho, hc])

theorem pure_ibin {op : BinOp} {t t' : TypeId} {x y : Operand} (ho : o.op = .binOp op t x y t') (h : abin op (ev ρ x) (ev ρ y) = some v) : Pure P o ρ v := by
  intro w
  have h1 := (run_abin (P := P) h w).1
  have h2 := (run_abin (P := P) h w).2 t
  have h3 : eqGuard op t x y (ev ρ x) (ev ρ y) = pure () := by
    unfold abin at h
    split at h
    · rename_i hx hy
      rw [hx, hy]
      unfold eqGuard
      split <;> rfl
    · cases h
  simp [execOp, ho, h3, h2, h1]

theorem pure_not {t : TypeId} {x : Operand} (ho : o.op = .unOp .not t x) (h : notV (ev ρ x) = some v) : Pure P o ρ v := by
  intro w
  unfold notV at h
  split at h <;> first | (cases h; done) | (injection h with h; subst h; rename_i hc; simp [execOp, ho, hc, Op.unary])

theorem pure_conv {src dst : TypeId} {d : TypeDesc} {k : IntKind} {x : Operand} (ho : o.op = .convert src dst x) (hs : P.underlying src = some d) (hd : P.underlying dst = some (.int k)) (h : convV k (ev ρ x) = some v) : Pure P o ρ v := by
  intro w
  unfold convV at h
  split at h <;> first | (cases h; done) | (injection h with h; subst h; rename_i hc; simp [execOp, ho, hc, convert, run_underlying hd, run_underlying hs, Conv.intToInt])

theorem pure_fieldA {s : TypeId} {x : Operand} {f : Nat} {fs : Array Field} {fl : Field} {i : TypeInfo} (ho : o.op = .fieldAddr s x f) (hs : P.underlying s = some (.struct fs)) (hf : fs[f]? = some fl) (hi : P.info? fl.type = some i) (hn : i.size ≠ 0)
    (h : fieldAV fl.offset (ev ρ x) = some v) : Pure P o ρ v := by
  intro w
  unfold fieldAV at h
  split at h <;> first | (cases h; done) | skip
  injection h with h; subst h; rename_i hc
  simp [execOp, ho, hc, Instr.fieldAt, run_underlying hs, hf, Instr.sureAddr, fieldPlace, sizeOf, typeInfo, hi, hn, Addr.add]

theorem pure_idxSl {t e : TypeId} {x i : Operand} {inf : TypeInfo} (ho : o.op = .indexAddr t x i) (ht : P.underlying t = some (.slice e)) (hi : P.info? e = some inf)
    (h : idxSlV inf.size (ev ρ x) (ev ρ i) = some v) : Pure P o ρ v := by
  intro w
  unfold idxSlV at h
  split at h
  · rename_i b off len cap k n hx hn
    split at h
    · rename_i hb
      injection h with h; subst h
      simp [execOp, ho, hx, hn, Instr.indexAt, asIntOf, run_underlying ht, sizeOf, typeInfo, hi, hb, Addr.add]
    · cases h
  · cases h

theorem pure_idxArr {t e : TypeId} {len : Nat} {x i : Operand} {inf : TypeInfo} (ho : o.op = .indexAddr t x i) (ht : P.underlying t = some (.array len e)) (hi : P.info? e = some inf)
    (h : idxArrV len inf.size (ev ρ x) (ev ρ i) = some v) : Pure P o ρ v := by
  intro w
  unfold idxArrV at h
  split at h
  · rename_i b off k n hx hn
    split at h
    · rename_i hb
      injection h with h; subst h
      simp [execOp, ho, hx, hn, Instr.indexAt, asIntOf, run_underlying ht, sizeOf, typeInfo, hi, hb, Addr.add, Instr.sureAddr]
    · cases h
  · cases h

theorem pure_extract {i : Nat} {x : Operand} (ho : o.op = .extract x i) (h : extractV i (ev ρ x) = some v) : Pure P o ρ v := by
  intro w
  unfold extractV at h
  split at h
  · rename_i vs hc
    simp [execOp, ho, hc, Instr.extract, h]
  · cases h

theorem pure_partAgg {t : TypeId} {x : Operand} {f : Nat} {fs : Array Field} {fl : Field} {i : TypeInfo} (ho : o.op = .field t x f) (ht : P.underlying t = some (.struct fs)) (hf : fs[f]? = some fl)
    (hi : P.info? fl.type = some i) (ha : ∀ w, (isAgg fl.type).run P w = .ok true w) (h : partV fl.offset (some i.size) (ev ρ x) = some v) : Pure P o ρ v := by
  intro w
  unfold partV at h
  split at h
  · rename_i cs hc
    injection h with h; subst h
    simp [execOp, ho, hc, Instr.field, run_underlying ht, hf, asAgg, part, ha, sizeOf, typeInfo, hi]
  · cases h

theorem pure_partOne {t : TypeId} {x : Operand} {f : Nat} {fs : Array Field} {fl : Field} (ho : o.op = .field t x f) (ht : P.underlying t = some (.struct fs)) (hf : fs[f]? = some fl)
    (ha : ∀ w, (isAgg fl.type).run P w = .ok false w) (h : partV fl.offset none (ev ρ x) = some v) : Pure P o ρ v := by
  intro w
  unfold partV at h
  split at h
  · rename_i cs hc
    simp only at h
    simp [execOp, ho, hc, Instr.field, run_underlying ht, hf, asAgg, part, ha, h]
  · cases h

theorem pure_lenSl {t e : TypeId} {x : Operand} {args : Array Operand} {ts : Array TypeId} (ho : o.op = .call { callee := .builtin .len, args := args, argTypes := ts }) (ha : args = #[x]) (hts : ts = #[t]) (ht : P.underlying t = some (.slice e)) (h : lenV false (ev ρ x) = some v) : Pure P o ρ v := by
  intro w
  subst ha; subst hts
  unfold lenV at h
  split at h <;> first | (cases h; done) | skip
  rename_i a n c hx
  simp only [Bool.false_eq_true, if_false] at h
  injection h with h; subst h
  simp [execOp, ho, resolve, invoke, builtin, Builtin.len_, run_underlying ht, hx, goInt]

theorem pure_lenStr {t : TypeId} {x : Operand} {args : Array Operand} {ts : Array TypeId} (ho : o.op = .call { callee := .builtin .len, args := args, argTypes := ts }) (ha : args = #[x]) (hts : ts = #[t]) (ht : P.underlying t = some .string) (h : lenV true (ev ρ x) = some v) : Pure P o ρ v := by
  intro w
  subst ha; subst hts
  unfold lenV at h
  split at h <;> (try simp only [if_true] at h) <;> first | (cases h; done) | skip
  rename_i s hx
  injection h with h; subst h
  simp [execOp, ho, resolve, invoke, builtin, Builtin.len_, run_underlying ht, hx, goInt]

theorem pure_slc {t e : TypeId} {x : Operand} {lo hi : Option Operand} {inf : TypeInfo} (ho : o.op = .slice t x lo hi none) (ht : P.underlying t = some (.slice e)) (hi' : P.info? e = some inf)
    (h : slcV inf.size (ev ρ x) (lo.map (ev ρ)) (hi.map (ev ρ)) = some v) : Pure P o ρ v := by
  intro w
  unfold slcV at h
  split at h <;> first | (cases h; done) | skip
  rename_i a len cap hx
  split at h <;> first | (cases h; done) | skip
  rename_i l hh hl hh'
  split at h <;> first | (cases h; done) | skip
  rename_i hb
  injection h with h; subst h
  have bound : ∀ (ov : Option Value) (d n : Nat), boundV d ov = some n → (ov = none ∧ n = d) ∨ ∃ (k : IntKind) (z : Int), ov = some (.int k z) ∧ 0 ≤ z ∧ z.toNat = n := by
    intro ov d n hov
    unfold boundV at hov
    split at hov
    · injection hov with hov; exact .inl ⟨rfl, hov.symm⟩
    · split at hov
      · rename_i k z hz; injection hov with hov; exact .inr ⟨_, _, rfl, hz, hov⟩
      · cases hov
    · cases hov
  have hcap : ∀ (n : Nat) (z : Int), 0 ≤ z → z.toNat = n → n ≤ cap → z ≤ (cap : Int) := fun n z h0 h1 h2 => by omega
  rcases bound _ _ _ hl with ⟨h1, rfl⟩ | ⟨k1, z1, h1, hz1, rfl⟩ <;> rcases bound _ _ _ hh' with ⟨h2, rfl⟩ | ⟨k2, z2, h2, hz2, rfl⟩
  · simp [execOp, ho, hx, h1, h2, Instr.sliceAt, Instr.slice, run_underlying ht, Instr.sliceBounds, sizeOf, typeInfo, hi']
  · have hb2 : z2 ≤ (cap : Int) := by omega
    simp [execOp, ho, hx, h1, h2, Instr.sliceAt, Instr.slice, run_underlying ht, Instr.sliceBounds, Instr.sliceBound, asIntOf, sizeOf, typeInfo, hi', hz2, hb2]
  · have hb1 : z1 ≤ (hh : Int) := by omega
    simp [execOp, ho, hx, h1, h2, Instr.sliceAt, Instr.slice, run_underlying ht, Instr.sliceBounds, Instr.sliceBound, asIntOf, sizeOf, typeInfo, hi', hz1, hb1]
  · have hb2 : z2 ≤ (cap : Int) := by omega
    have hb1 : z1 ≤ max z2 0 := by omega
    have hb3 : z1 ≤ ((z2.toNat : Nat) : Int) := by omega
    simp [execOp, ho, hx, h1, h2, Instr.sliceAt, Instr.slice, run_underlying ht, Instr.sliceBounds, Instr.sliceBound, asIntOf, sizeOf, typeInfo, hi', hz1, hb1, hz2, hb2]

theorem pure_mkfn {f : FuncId} {first captured : Array Operand} (ho : o.op = .makeFunc (.func f) first captured) : Pure P o ρ (.func (.func f) (first.toList.map (ev ρ)).toArray (captured.toList.map (ev ρ)).toArray) := by
  intro w
  have e : ∀ a : Array Operand, (a.toList.map (ev ρ)).toArray = a.map (ev ρ) := fun a => by apply Array.ext'; simp
  simp only [execOp, ho, Instr.makeFunc, e]; simp

theorem pure_min {args : Array Operand} {ts : Array TypeId} {x y : Operand} (ho : o.op = .call { callee := .builtin .min, args := args, argTypes := ts }) (ha : args = #[x, y]) (h : minV (ev ρ x) (ev ρ y) = some v) : Pure P o ρ v := by
  intro w
  unfold minV at h
  split at h
  · rename_i k a k' b hx hy
    injection h with h; subst h; subst ha
    simp [execOp, ho, resolve, invoke, builtin, Builtin.min_, Builtin.min2, hx, hy]
  · cases h

theorem pure_max {args : Array Operand} {ts : Array TypeId} {x y : Operand} (ho : o.op = .call { callee := .builtin .max, args := args, argTypes := ts }) (ha : args = #[x, y]) (h : maxV (ev ρ x) (ev ρ y) = some v) : Pure P o ρ v := by
  intro w
  unfold maxV at h
  split at h
  · rename_i k a k' b hx hy
    injection h with h; subst h; subst ha
    simp [execOp, ho, resolve, invoke, builtin, Builtin.max_, Builtin.max2, hx, hy]
  · cases h
end
end Go.Am
