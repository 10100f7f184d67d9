/- The interpreter once more, spelt by recursors with closed branches, so that Lean's kernel reckons it fast. No condition. -/
import Derived.Test.YtmephnenbboecaaAmX
set_option linter.unusedVariables false
set_option linter.unusedSimpArgs false
namespace Go.Am
noncomputable section

def obind {α β : Type} (o : Option α) (f : α → Option β) : Option β := Option.rec none f o
def obind2 {α β γ : Type} (o : Option (α × β)) (f : α → β → Option γ) : Option γ := Option.rec none (fun p => Prod.rec f p) o
def bsel {α : Type} (b : Bool) (x y : α) : α := Bool.rec y x b

abbrev B2 := Nat × Blk
def getVN (v : Option Value) (_ _ : Tr Value) (ihl ihr : Nat → Option Value) (i : Nat) : Option Value :=
  Bool.rec (Bool.rec (ihr (Nat.sub (Nat.div i 2) 1)) (ihl (Nat.div i 2)) (Nat.beq (Nat.mod i 2) 1)) v (Nat.beq i 0)
def getV : Tr Value → Nat → Option Value := @Tr.rec Value (fun _ => Nat → Option Value) (fun _ => none) getVN
def setVN (u : Option Value) (l r : Tr Value) (ihl ihr : Nat → Option Value → Option (Tr Value)) (i : Nat) (v : Option Value) : Option (Tr Value) :=
  Bool.rec (Bool.rec (Option.rec none (fun r' => some (.node u l r')) (ihr (Nat.sub (Nat.div i 2) 1) v)) (Option.rec none (fun l' => some (.node u l' r)) (ihl (Nat.div i 2) v)) (Nat.beq (Nat.mod i 2) 1)) (some (.node v l r)) (Nat.beq i 0)
def setV : Tr Value → Nat → Option Value → Option (Tr Value) :=
  @Tr.rec Value (fun _ => Nat → Option Value → Option (Tr Value)) (fun i v => Bool.rec none (some (.node v .nil .nil)) (Nat.beq i 0)) setVN
def getHN (v : Option B2) (_ _ : Tr B2) (ihl ihr : Nat → Option B2) (i : Nat) : Option B2 :=
  Bool.rec (Bool.rec (ihr (Nat.sub (Nat.div i 2) 1)) (ihl (Nat.div i 2)) (Nat.beq (Nat.mod i 2) 1)) v (Nat.beq i 0)
def getH : Tr B2 → Nat → Option B2 := @Tr.rec B2 (fun _ => Nat → Option B2) (fun _ => none) getHN
def setHN (u : Option B2) (l r : Tr B2) (ihl ihr : Nat → Option B2 → Option (Tr B2)) (i : Nat) (v : Option B2) : Option (Tr B2) :=
  Bool.rec (Bool.rec (Option.rec none (fun r' => some (.node u l r')) (ihr (Nat.sub (Nat.div i 2) 1) v)) (Option.rec none (fun l' => some (.node u l' r)) (ihl (Nat.div i 2) v)) (Nat.beq (Nat.mod i 2) 1)) (some (.node v l r)) (Nat.beq i 0)
def setH : Tr B2 → Nat → Option B2 → Option (Tr B2) :=
  @Tr.rec B2 (fun _ => Nat → Option B2 → Option (Tr B2)) (fun i v => Bool.rec none (some (.node v .nil .nil)) (Nat.beq i 0)) setHN
def getFN (v : Option AFunc) (_ _ : Tr AFunc) (ihl ihr : Nat → Option AFunc) (i : Nat) : Option AFunc :=
  Bool.rec (Bool.rec (ihr (Nat.sub (Nat.div i 2) 1)) (ihl (Nat.div i 2)) (Nat.beq (Nat.mod i 2) 1)) v (Nat.beq i 0)
def getF : Tr AFunc → Nat → Option AFunc := @Tr.rec AFunc (fun _ => Nat → Option AFunc) (fun _ => none) getFN
def setFN (u : Option AFunc) (l r : Tr AFunc) (ihl ihr : Nat → Option AFunc → Option (Tr AFunc)) (i : Nat) (v : Option AFunc) : Option (Tr AFunc) :=
  Bool.rec (Bool.rec (Option.rec none (fun r' => some (.node u l r')) (ihr (Nat.sub (Nat.div i 2) 1) v)) (Option.rec none (fun l' => some (.node u l' r)) (ihl (Nat.div i 2) v)) (Nat.beq (Nat.mod i 2) 1)) (some (.node v l r)) (Nat.beq i 0)
def setF : Tr AFunc → Nat → Option AFunc → Option (Tr AFunc) :=
  @Tr.rec AFunc (fun _ => Nat → Option AFunc → Option (Tr AFunc)) (fun i v => Bool.rec none (some (.node v .nil .nil)) (Nat.beq i 0)) setFN

-- taking values apart
def atO (a : Option Addr) : Option (Nat × Nat) := Option.rec none (fun a => Option.rec (some (a.block, a.off)) (fun _ => none) a.spot) a
def slO (a : Option Addr) (n c : Nat) : Option (Nat × Nat × Nat) := Option.rec none (fun a => Option.rec (some (a.block, a.off, n)) (fun _ => none) a.spot) a
def asInt : Value → Option (IntKind × Int) :=
  @Value.rec (fun _ => Option (IntKind × Int)) (fun _ => Unit) (fun _ => Unit) (fun _ => none) (fun k n => some (k, n)) (fun _ _ => none) (fun _ _ _ => none) (fun _ => none) (fun _ => none) (fun _ _ _ => none) (fun _ => none) (fun _ => none) (fun _ _ _ _ _ => none) none (fun _ _ _ => none) none (fun _ _ => none) (fun _ _ => none) (fun _ _ => ()) () (fun _ _ _ _ => ())
def asBool : Value → Option Bool :=
  @Value.rec (fun _ => Option Bool) (fun _ => Unit) (fun _ => Unit) some (fun _ _ => none) (fun _ _ => none) (fun _ _ _ => none) (fun _ => none) (fun _ => none) (fun _ _ _ => none) (fun _ => none) (fun _ => none) (fun _ _ _ _ _ => none) none (fun _ _ _ => none) none (fun _ _ => none) (fun _ _ => none) (fun _ _ => ()) () (fun _ _ _ _ => ())
def asAt : Value → Option (Nat × Nat) :=
  @Value.rec (fun _ => Option (Nat × Nat)) (fun _ => Unit) (fun _ => Unit) (fun _ => none) (fun _ _ => none) (fun _ _ => none) (fun _ _ _ => none) (fun _ => none) atO (fun _ _ _ => none) (fun _ => none) (fun _ => none) (fun _ _ _ _ _ => none) none (fun _ _ _ => none) none (fun _ _ => none) (fun _ _ => none) (fun _ _ => ()) () (fun _ _ _ _ => ())
def asSl : Value → Option (Nat × Nat × Nat) :=
  @Value.rec (fun _ => Option (Nat × Nat × Nat)) (fun _ => Unit) (fun _ => Unit) (fun _ => none) (fun _ _ => none) (fun _ _ => none) (fun _ _ _ => none) (fun _ => none) (fun _ => none) slO (fun _ => none) (fun _ => none) (fun _ _ _ _ _ => none) none (fun _ _ _ => none) none (fun _ _ => none) (fun _ _ => none) (fun _ _ => ()) () (fun _ _ _ _ => ())
def asAgg : Value → Option (List Value) :=
  @Value.rec (fun _ => Option (List Value)) (fun _ => Unit) (fun _ => Unit) (fun _ => none) (fun _ _ => none) (fun _ _ => none) (fun _ _ _ => none) (fun _ => none) (fun _ => none) (fun _ _ _ => none) (fun _ => none) (fun _ => none) (fun _ _ _ _ _ => none) none (fun _ _ _ => none) none (fun a _ => some a.toList) (fun _ _ => none) (fun _ _ => ()) () (fun _ _ _ _ => ())
def asTup : Value → Option (List Value) :=
  @Value.rec (fun _ => Option (List Value)) (fun _ => Unit) (fun _ => Unit) (fun _ => none) (fun _ _ => none) (fun _ _ => none) (fun _ _ _ => none) (fun _ => none) (fun _ => none) (fun _ _ _ => none) (fun _ => none) (fun _ => none) (fun _ _ _ _ _ => none) none (fun _ _ _ => none) none (fun _ _ => none) (fun a _ => some a.toList) (fun _ _ => ()) () (fun _ _ _ _ => ())
def oneF : Value → Bool :=
  @Value.rec (fun _ => Bool) (fun _ => Unit) (fun _ => Unit) (fun _ => true) (fun _ _ => true) (fun _ _ => true) (fun _ _ _ => true) (fun _ => true) (fun _ => true) (fun _ _ _ => true) (fun _ => true) (fun _ => true) (fun _ _ _ _ _ => true) true (fun _ _ _ => true) true (fun _ _ => false) (fun _ _ => false) (fun _ _ => ()) () (fun _ _ _ _ => ())


-- numbers
def kIdx : IntKind → Nat := @IntKind.rec (fun _ => Nat) 0 1 2 3 4 5 6 7
def eqK (k k' : IntKind) : Bool := Nat.beq (kIdx k) (kIdx k')
def leP (m : Nat) : Int → Bool := @Int.rec (fun _ => Bool) (fun n => Nat.ble m n) (fun _ => false)
def leN (m : Nat) : Int → Bool := @Int.rec (fun _ => Bool) (fun _ => true) (fun n => Nat.ble n m)
def intLe : Int → Int → Bool := @Int.rec (fun _ => Int → Bool) leP leN
def ltP (m : Nat) : Int → Bool := @Int.rec (fun _ => Bool) (fun n => Nat.ble (Nat.succ m) n) (fun _ => false)
def ltN (m : Nat) : Int → Bool := @Int.rec (fun _ => Bool) (fun _ => true) (fun n => Nat.ble (Nat.succ n) m)
def intLt : Int → Int → Bool := @Int.rec (fun _ => Int → Bool) ltP ltN
def eqP (m : Nat) : Int → Bool := @Int.rec (fun _ => Bool) (fun n => Nat.beq m n) (fun _ => false)
def eqN (m : Nat) : Int → Bool := @Int.rec (fun _ => Bool) (fun _ => false) (fun n => Nat.beq n m)
def intEq : Int → Int → Bool := @Int.rec (fun _ => Int → Bool) eqP eqN
def natI : Int → Option Nat := @Int.rec (fun _ => Option Nat) some (fun _ => none)
/-- How great a number of a kind may be, at least. -/
def topK : IntKind → Nat := @IntKind.rec (fun _ => Nat) 127 32767 2147483647 9223372036854775807 255 65535 4294967295 18446744073709551615
def wrapP (k : IntKind) (m : Nat) : Int := bsel (Nat.ble m (topK k)) (Int.ofNat m) (k.wrap (Int.ofNat m))
def wrapF (k : IntKind) (n : Int) : Int := @Int.rec (fun _ => Int) (wrapP k) (fun m => k.wrap (Int.negSucc m)) n

abbrev Bin := IntKind → Int → IntKind → Int → Option Value
def same (k k' : IntKind) (r : Value) : Option Value := bsel (eqK k k') (some r) none
def binAdd : Bin := fun k a k' b => same k k' (.int k (wrapF k (Int.add a b)))
def binSub : Bin := fun k a k' b => same k k' (.int k (wrapF k (Int.sub a b)))
def binMul : Bin := fun k a k' b => same k k' (.int k (wrapF k (Int.mul a b)))
def binEq : Bin := fun k a k' b => same k k' (.bool (intEq a b))
def binNe : Bin := fun k a k' b => same k k' (.bool (not (intEq a b)))
def binLt : Bin := fun k a k' b => same k k' (.bool (intLt a b))
def binLe : Bin := fun k a k' b => same k k' (.bool (intLe a b))
def binGt : Bin := fun k a k' b => same k k' (.bool (intLt b a))
def binGe : Bin := fun k a k' b => same k k' (.bool (intLe b a))
def binX (op : BinOp) : Bin := fun k a k' b => abin op (.int k a) (.int k' b)
def binF : BinOp → Bin := @BinOp.rec (fun _ => Bin) binAdd binSub binMul (binX .quo) (binX .rem) (binX .and) (binX .or) (binX .xor) (binX .shl) (binX .shr) (binX .andNot) binEq binNe binLt binLe binGt binGe

-- lists
def nthC (a : Value) (_ : List Value) (ih : Nat → Option Value) (i : Nat) : Option Value := Nat.rec (some a) (fun j _ => ih j) i
def nth : List Value → Nat → Option Value := @List.rec Value (fun _ => Nat → Option Value) (fun _ => none) nthC
def takeC (a : Value) (_ : List Value) (ih : Nat → Option (List Value)) (i : Nat) : Option (List Value) := Nat.rec (some []) (fun j _ => obind (ih j) fun r => some (a :: r)) i
def takeL : List Value → Nat → Option (List Value) := @List.rec Value (fun _ => Nat → Option (List Value)) (fun i => Nat.rec (some []) (fun _ _ => none) i) takeC
def dropC (a : Value) (t : List Value) (ih : Nat → List Value) (i : Nat) : List Value := Nat.rec (a :: t) (fun j _ => ih j) i
def dropL : List Value → Nat → List Value := @List.rec Value (fun _ => Nat → List Value) (fun _ => []) dropC
/-- vs over the head of l. -/
def overC (v : Value) (_ : List Value) (ih : List Value → Option (List Value)) (l : List Value) : Option (List Value) := List.rec none (fun _ t _ => obind (ih t) fun r => some (v :: r)) l
def overL : List Value → List Value → Option (List Value) := @List.rec Value (fun _ => List Value → Option (List Value)) some overC
def splC (a : Value) (t : List Value) (ih : List Value → Nat → Option (List Value)) (vs : List Value) (i : Nat) : Option (List Value) := Nat.rec (overL vs (a :: t)) (fun j _ => obind (ih vs j) fun r => some (a :: r)) i
def splL : List Value → List Value → Nat → Option (List Value) := @List.rec Value (fun _ => List Value → Nat → Option (List Value)) (fun vs i => Nat.rec (overL vs []) (fun _ _ => none) i) splC
def allF : List Value → Bool := @List.rec Value (fun _ => Bool) true (fun v _ ih => bsel (oneF v) ih false)
def lenF : List Value → Nat := @List.rec Value (fun _ => Nat) 0 (fun _ _ ih => Nat.succ ih)

-- places
def unO : Option Value → Value := @Option.rec Value (fun _ => Value) undef (fun v => v)
def evF : Operand → Tr Value → Value := @Operand.rec (fun _ => Tr Value → Value) (fun t ρ => unO (getV ρ t)) (fun v _ => v) (fun g _ => .pointer (some ⟨g, 0, none⟩)) (fun f _ => .func (.func f) #[] #[])
def rowB : Blk → Option (Bool × TypeId × List Value) := @Blk.rec (fun _ => Option (Bool × TypeId × List Value)) (fun r e cs => some (r, e, cs)) (fun _ _ => none)
def rowF (s : St) (b : Nat) : Option (List Value) := obind (getH s.h b) fun B => obind (rowB B.2) fun p => some p.2.2
def ldF (s : St) (v : Value) : Option Value := obind2 (asAt v) fun b o => obind (rowF s b) fun cs => nth cs o
def ldNF (n : Nat) (s : St) (v : Value) : Option Value := obind2 (asAt v) fun b o => obind (rowF s b) fun cs => bsel (Nat.ble 1 n) (obind (takeL (dropL cs o) n) fun r => some (.agg ⟨r⟩)) none
def putF (s : St) (b w : Nat) (e : TypeId) (cs : List Value) (v : Value) : Option (Value × St) := obind (setH s.h b (some (w, .row true e cs))) fun h => some (v, ⟨h, s.next, s.cnt, s.orc, s.obl⟩)
def newF (s : St) (w : Nat) (e : TypeId) (cs : List Value) (v : Value) : Option (Value × St) := obind (setH s.h s.next (some (w, .row true e cs))) fun h => some (v, ⟨h, Nat.succ s.next, s.cnt, s.orc, s.obl⟩)
/-- A block that may be written: its width, its type, its cells. -/
def rwF (s : St) (b : Nat) : Option (Nat × TypeId × List Value) := obind (getH s.h b) fun B => obind (rowB B.2) fun p => bsel p.1 (some (B.1, p.2.1, p.2.2)) none
def spF (s : St) (b o : Nat) (vs : List Value) : Option (Value × St) := obind (rwF s b) fun p => obind (splL p.2.2 vs o) fun cs => putF s b p.1 p.2.1 cs undef
def st1F (x v : Value) (s : St) : Option (Value × St) := bsel (oneF v) (obind2 (asAt x) fun b o => spF s b o [v]) none
def cellsF (v : Value) : List Value := Option.rec [v] (fun l => l) (asAgg v)
def stF (n : Nat) (x : Value) (vs : List Value) (s : St) : Option (Value × St) := bsel (allF vs) (bsel (Nat.beq (lenF vs) n) (obind2 (asAt x) fun b o => spF s b o vs) none) none

abbrev PV1 := Tr Value → Option Value
def fMv (x : Operand) : PV1 := fun ρ => some (evF x ρ)
def fPick (c a b : Operand) : PV1 := fun ρ => obind (asBool (evF c ρ)) fun t => bsel t (some (evF a ρ)) (some (evF b ρ))
def fNilck (x : Operand) : PV1 := fun ρ => nilckV (evF x ρ)
def fIbin (op : BinOp) (x y : Operand) : PV1 := fun ρ => obind2 (asInt (evF x ρ)) fun k a => obind2 (asInt (evF y ρ)) fun k' b => binF op k a k' b
def fEqb (n : Bool) (x y : Operand) : PV1 := fun ρ => eqbV n (evF x ρ) (evF y ρ)
def fEqp (n : Bool) (x y : Operand) : PV1 := fun ρ => eqpV n (evF x ρ) (evF y ρ)
def fEqsl (n : Bool) (x y : Operand) : PV1 := fun ρ => eqslV n (evF x ρ) (evF y ρ)
def fEqfn (n : Bool) (x y : Operand) : PV1 := fun ρ => eqfnV n (evF x ρ) (evF y ρ)
def eqiC (o : Nat) (_ : List Nat) (ih : List Value → List Value → Option Bool) (xs ys : List Value) : Option Bool := obind2 (obind (nth xs o) asInt) fun k a => obind2 (obind (nth ys o) asInt) fun k' b => bsel (eqK k k') (obind (ih xs ys) fun t => some (bsel (intEq a b) t false)) none
def eqiF : List Nat → List Value → List Value → Option Bool := @List.rec Nat (fun _ => List Value → List Value → Option Bool) (fun _ _ => some true) eqiC
def fEqi (n : Bool) (o : List Nat) (x y : Operand) : PV1 := fun ρ => obind (asAgg (evF x ρ)) fun xs => obind (asAgg (evF y ρ)) fun ys => obind (eqiF o xs ys) fun b => some (.bool (bsel n (not b) b))
def fNot (x : Operand) : PV1 := fun ρ => obind (asBool (evF x ρ)) fun b => some (.bool (not b))
def fConv (k : IntKind) (x : Operand) : PV1 := fun ρ => obind2 (asInt (evF x ρ)) fun _ n => some (.int k (wrapF k n))
def fField (off : Nat) (x : Operand) : PV1 := fun ρ => obind2 (asAt (evF x ρ)) fun b o => some (.pointer (some ⟨b, Nat.add o off, none⟩))
def at3 (b o st len : Nat) (v : Value) : Option Value := obind2 (asInt v) fun _ n => obind (natI n) fun m => bsel (Nat.ble (Nat.succ m) len) (some (.pointer (some ⟨b, Nat.add o (Nat.mul m st), none⟩))) none
def fIdxA (len st : Nat) (x i : Operand) : PV1 := fun ρ => obind2 (asAt (evF x ρ)) fun b o => at3 b o st len (evF i ρ)
def fIdxS (st : Nat) (x i : Operand) : PV1 := fun ρ => obind (asSl (evF x ρ)) fun p => at3 p.1 p.2.1 st p.2.2 (evF i ρ)
def part1 (off : Nat) (l : List Value) : Option Nat → Option Value := fun n => Option.rec (nth l off) (fun m => obind (takeL (dropL l off) m) fun r => some (.agg ⟨r⟩)) n
def fPart (off : Nat) (n : Option Nat) (x : Operand) : PV1 := fun ρ => obind (asAgg (evF x ρ)) fun l => part1 off l n
def fExt (i : Nat) (x : Operand) : PV1 := fun ρ => obind (asTup (evF x ρ)) fun l => nth l i
/-- Filling in. -/
def fillC (p : Nat × Nat × Operand) (_ : List (Nat × Nat × Operand)) (ih : List Value → Tr Value → Option (List Value)) (cs : List Value) (ρ : Tr Value) : Option (List Value) :=
  obind (bsel (Nat.beq (lenF (cellsF (evF p.2.2 ρ))) p.2.1) (splL cs (cellsF (evF p.2.2 ρ)) p.1) none) fun cs' => ih cs' ρ
def fillP : List (Nat × Nat × Operand) → List Value → Tr Value → Option (List Value) := @List.rec (Nat × Nat × Operand) (fun _ => List Value → Tr Value → Option (List Value)) (fun cs _ => some cs) fillC
def fBuild (z : List Value) (ps : List (Nat × Nat × Operand)) : PV1 := fun ρ => obind (fillP ps z ρ) fun r => some (.agg ⟨r⟩)
def fSlc (st : Nat) (x : Operand) (lo hi : Option Operand) : PV1 := fun ρ => slcX st (evF x ρ) (lo.map fun x => evF x ρ) (hi.map fun x => evF x ρ)
def fLen (b : Bool) (x : Operand) : PV1 := fun ρ => lenV b (evF x ρ)
def fMin (x y : Operand) : PV1 := fun ρ => minV (evF x ρ) (evF y ρ)
def fMax (x y : Operand) : PV1 := fun ρ => maxV (evF x ρ) (evF y ρ)
def fFn (f : FuncId) (a c : List Operand) : PV1 := fun ρ => some (.func (.func f) (a.map fun x => evF x ρ).toArray (c.map fun x => evF x ρ).toArray)
def valF : PExp → PV1 := @PExp.rec (fun _ => PV1) fMv fPick fNilck fIbin fEqb fEqp fEqsl fEqfn fEqi fNot fConv fField fIdxA fIdxS fPart fExt fBuild fSlc fLen fMin fMax fFn

abbrev VS := Tr Value → St → Option (Value × St)
def evsC (x : Operand) (_ : List Operand) (ih : Tr Value → List Value) (ρ : Tr Value) : List Value := evF x ρ :: ih ρ
def evsF : List Operand → Tr Value → List Value := @List.rec Operand (fun _ => Tr Value → List Value) (fun _ => []) evsC
def wAlloc (e : TypeId) (z : List Value) : VS := fun _ s => newF s 0 e z (.pointer (some ⟨s.next, 0, none⟩))
def wBox (e : TypeId) (x : Operand) : VS := fun ρ s => wX (fun _ _ _ => none) (.box e x) ρ s
def wBsl (e : TypeId) (n : Nat) (z : List Value) (ps : List (Nat × Nat × Operand)) : VS := fun ρ s => obind (fillP ps (repl n z) ρ) fun cs => bsel (allF cs) (newF s 0 e cs (.slice (some ⟨s.next, 0, none⟩) n n)) none
def wMksl (e : TypeId) (b : Nat) (z : List Value) (l c : Operand) : VS := fun ρ s => wX (fun _ _ _ => none) (.mksl e b z l c) ρ s
def wSt1 (x v : Operand) : VS := fun ρ s => st1F (evF x ρ) (evF v ρ) s
def wStN (n : Nat) (x v : Operand) : VS := fun ρ s => stF n (evF x ρ) (cellsF (evF v ρ)) s
def wApp (e : TypeId) (b : Nat) (z : List Value) (x y : Operand) : VS := fun ρ s => appX e b z.length (evF x ρ) (evF y ρ) s
def wCpy (n : Nat) (d y : Operand) : VS := fun ρ s => cpyX n (evF d ρ) (evF y ρ) s
def wCall (call : CallX) (f : FuncId) (args : List Operand) : VS := fun ρ s => call f (evsF args ρ) s
def wCallv (call : CallX) (x : Operand) (args : List Operand) : VS := fun ρ s => wX call (.callv x args) ρ s
def wF (call : CallX) : WExp → VS := @WExp.rec (fun _ => VS) wAlloc wBox wBsl wMksl wSt1 wStN wApp wCpy (wCall call) (wCallv call) (fun _ _ _ _ => none)

def orcC (v : Value) (s : St) (p : Nat × Bool) (r : List (Nat × Bool)) : Option (Value × St) := bsel (Nat.beq p.1 s.cnt) (some (.bool p.2, ⟨s.h, s.next, Nat.succ s.cnt, r, (v, p.2) :: s.obl⟩)) (some (v, ⟨s.h, s.next, Nat.succ s.cnt, s.orc, s.obl⟩))
def orcF (v : Value) (s : St) : Option (Value × St) := List.rec (some (v, s)) (fun p r _ => orcC v s p r) s.orc
def actP (e : PExp) : VS := fun ρ s => obind (valF e ρ) fun v => orcF v s
def act1 (x : Operand) : VS := fun ρ s => obind (ldF s (evF x ρ)) fun v => some (v, s)
def actN (n : Nat) (x : Operand) : VS := fun ρ s => obind (ldNF n s (evF x ρ)) fun v => some (v, s)
def actF (call : CallX) : AAct → VS := @AAct.rec (fun _ => VS) actP act1 actN (wF call)

def wantV1 (w : Bool) (v : Value) : Bool := Option.rec false (fun b => bsel w b (not b)) (asBool v)
def wantF (g : Option (Nat × Bool)) (ρ : Tr Value) : Bool := Option.rec true (fun p => wantV1 p.2 (unO (getV ρ p.1))) g
def putTF (d : Option Nat) (ρ : Tr Value) (v : Value) : Option (Tr Value) := Option.rec (some ρ) (fun d => setV ρ d (some v)) d

abbrev OS := Tr Value → St → Option (Tr Value × St)
def opsC (call : CallX) (o : AOper) (_ : List AOper) (ih : OS) : OS := fun ρ s =>
  bsel (wantF o.g ρ) (obind2 (actF call o.act ρ s) fun v s' => obind (putTF o.dst ρ v) fun ρ' => ih ρ' s') (obind (putTF o.dst ρ undef) fun ρ' => ih ρ' s)
def opsF (call : CallX) : List AOper → OS := @List.rec AOper (fun _ => OS) (fun ρ s => some (ρ, s)) (opsC call)

-- regions that are drawn
def rdF (s : St) (n : Option Nat) (a : Value) : Option Value := Option.rec (ldF s a) (fun n => ldNF n s a) n
def chkF (s : St) (un : List Nat) : List PX → Bool := fun ps => chkX s un ps
def passC (c : Bool) (s : St) (p : Nat × Bool) (r : List (Nat × Bool)) : Option St := bsel (Nat.beq p.1 s.cnt) (some ⟨s.h, s.next, Nat.succ s.cnt, r, (.bool c, true) :: s.obl⟩) (bsel c (some ⟨s.h, s.next, Nat.succ s.cnt, s.orc, s.obl⟩) none)
def passF (c : Bool) (s : St) : Option St := List.rec (bsel c (some s) none) (fun p r _ => passC c s p r) s.orc
def pendF (p : List PX) (i : Nat) (un : List Nat) (v : Value) (ρ : Tr Value) (s' : St) : AAct → Option (List PX × St) := fun a =>
  AAct.rec (fun _ => some (p, s')) (fun x => some (⟨i, none, evF x ρ, v⟩ :: p, s')) (fun n x => some (⟨i, some n, evF x ρ, v⟩ :: p, s')) (fun _ => obind (List.rec (passF true s') (fun _ _ _ => passF (chkF s' un p) s') un) fun s'' => some (p, s'')) a
abbrev DS := List PX → OS
def drawC (call : CallX) (o : DOper) (_ : List DOper) (ih : DS) : DS := fun p ρ s =>
  bsel (wantF o.op.g ρ) (obind2 (actF call o.op.act ρ s) fun v s' => obind (putTF o.op.dst ρ v) fun ρ' => obind2 (pendF p o.idx o.un v ρ s' o.op.act) fun p' s'' => ih p' ρ' s'') (obind (putTF o.op.dst ρ undef) fun ρ' => ih p ρ' s)
def drawF (call : CallX) : List DOper → DS := @List.rec DOper (fun _ => DS) (fun _ ρ s => some (ρ, s)) (drawC call)

abbrev XR := Option (AExit × Tr Value × St)
abbrev XS := Tr Value → St → XR
def brN (s : St) (v : Value) (k : Bool → St → XR) : XR := obind (asBool v) fun b => k b s
def brC (s : St) (v : Value) (k : Bool → St → XR) (p : Nat × Bool) (r : List (Nat × Bool)) : XR :=
  bsel (Nat.beq p.1 s.cnt) (k p.2 ⟨s.h, s.next, Nat.succ s.cnt, r, (v, p.2) :: s.obl⟩) (obind (asBool v) fun b => k b ⟨s.h, s.next, Nat.succ s.cnt, s.orc, s.obl⟩)
def branchF (s : St) (v : Value) (k : Bool → St → XR) : XR := List.rec (brN s v k) (fun p r _ => brC s v k p r) s.orc

def norm (k : XS) (e : AExit) (ρ : Tr Value) (s : St) : XR := AExit.rec (k ρ s) (some (e, ρ, s)) (fun _ => some (e, ρ, s)) e
def then1 (r : XR) (k : XS) : XR := obind2 r fun e p => Prod.rec (norm k e) p
def blk1 (id : Nat) (e : AExit) (p : Tr Value × St) : XR := AExit.rec (some (e, p)) (some (e, p)) (fun i => bsel (Nat.beq i id) (some (.normal, p)) (some (e, p))) e
def iterC (f : XS) (_ : Nat) (ih : XS) : XS := fun ρ s => then1 (f ρ s) ih
def iterF (f : XS) : Nat → XS := @Nat.rec (fun _ => XS) (fun _ _ => none) (iterC f)
def xRegion (call : CallX) (os : List AOper) : XS := fun ρ s => obind (opsF call os ρ s) fun p => some (.normal, p)
def xDraw (call : CallX) (os : List DOper) : XS := fun ρ s => obind (drawF call os [] ρ s) fun p => some (.normal, p)
def xSeq (_ _ : ACode) (iha ihb : XS) : XS := fun ρ s => then1 (iha ρ s) ihb
def xCond (c : Operand) (_ _ : ACode) (iha ihb : XS) : XS := fun ρ s => branchF s (evF c ρ) fun b s' => bsel b (iha ρ s') (ihb ρ s')
def xBlock (id : Nat) (_ : ACode) (ih : XS) : XS := fun ρ s => obind2 (ih ρ s) (blk1 id)
def xLoop (fuel : Nat) (_ : ACode) (ih : XS) : XS := iterF ih fuel
def execF (call : CallX) (fuel : Nat) : ACode → XS := @ACode.rec (fun _ => XS) (fun ρ s => some (.normal, ρ, s)) (fun ρ s => some (.ret, ρ, s)) (fun i ρ s => some (.exit i, ρ, s)) (xRegion call) (xDraw call) xSeq xCond xBlock (xLoop fuel)

def resF1 : ARes → Tr Value → St → Option Value := @ARes.rec (fun _ => Tr Value → St → Option Value) (fun t ρ _ => some (evF (.tmp t) ρ)) (fun t ρ s => ldF s (evF (.tmp t) ρ)) (fun n t ρ s => ldNF n s (evF (.tmp t) ρ))
def resFC (r : ARes) (_ : List ARes) (ih : Tr Value → St → Option (List Value)) (ρ : Tr Value) (s : St) : Option (List Value) := obind (resF1 r ρ s) fun v => obind (ih ρ s) fun vs => some (v :: vs)
def resFs : List ARes → Tr Value → St → Option (List Value) := @List.rec ARes (fun _ => Tr Value → St → Option (List Value)) (fun _ _ => some []) resFC
def resF (ρ : Tr Value) (s : St) (l : List ARes) : Option Value := obind (resFs l ρ s) fun vs => List.rec (some (.tuple #[])) (fun v t _ => List.rec (some v) (fun _ _ _ => some (.tuple ⟨vs⟩)) t) vs

def fillC1 (v : Value) (_ : List Value) (ih : Nat → Tr Value → Option (Tr Value)) (i : Nat) (ρ : Tr Value) : Option (Tr Value) := obind (setV ρ i (some v)) fun ρ' => ih (Nat.succ i) ρ'
def fillF : List Value → Nat → Tr Value → Option (Tr Value) := @List.rec Value (fun _ => Nat → Tr Value → Option (Tr Value)) (fun _ ρ => some ρ) fillC1

def endF (res : List ARes) (e : AExit) (ρ : Tr Value) (s : St) : Option (Value × St) :=
  AExit.rec (obind (resF ρ s res) fun v => some (v, s)) (obind (resF ρ s res) fun v => some (v, s)) (fun _ => none) e
def callF (ih : CallX) (fuel : Nat) (args : List Value) (s : St) (F : AFunc) : Option (Value × St) :=
  bsel (Nat.ble (lenF args) F.nargs) (obind (fillF args 0 (Tr.full 10)) fun ρ => obind2 (execF ih fuel F.code ρ s) fun e p => Prod.rec (endF F.res e) p) none
def runC (ext : FuncId → List Value → Option Value) (tbl : Tr AFunc) (fuel : Nat) (_ : Nat) (ih : CallX) : CallX := fun f args s =>
  Option.rec (obind (getF tbl f) (callF ih fuel args s)) (fun v => some (v, s)) (ext f args)
def runF (ext : FuncId → List Value → Option Value) (tbl : Tr AFunc) (fuel : Nat) : Nat → CallX := @Nat.rec (fun _ => CallX) (fun _ _ _ => none) (runC ext tbl fuel)
end
end Go.Am
