/- How the precondition of resolved code is reckoned: rules that only fire where a step is due. No condition. -/
import Derived.Test.YtmephnenbboecaaAmM
namespace Go.Am

def valK (o : Option Value) (K : Value → Heap → Prop) (H : Heap) : Prop :=
  match o with
  | some v => K v H
  | none => False

theorem valK_some (v : Value) (K : Value → Heap → Prop) (H : Heap) : valK (some v) K H = K v H := rfl

def kSeq (P : Program) (b : ACode) (Q : AExit → Env → Heap → Prop) : AExit → Env → Heap → Prop := thenA (wpA P b Q) Q
def kBlk (id : Nat) (Q : AExit → Env → Heap → Prop) : AExit → Env → Heap → Prop := inBlockA id Q
def kN (Q : AExit → Env → Heap → Prop) : Env → Heap → Prop := Q .normal
def kOps (P : Program) (K : Env → Heap → Prop) (os : List AOper) (ρ : Env) (d : Option Nat) : Value → Heap → Prop := fun v H => wpOpsA P K os (put ρ d v) H
def kDr (P : Program) (K : Env → Heap → Prop) (pend : List (Nat × (Heap → Prop))) (ds : List DOper) (ρ : Env) (d : Option Nat) : Value → Heap → Prop := fun v H => wpDrawA P K pend ds (put ρ d v) H
def kDw (P : Program) (K : Env → Heap → Prop) (pend : List (Nat × (Heap → Prop))) (ds : List DOper) (un : List Nat) (ρ : Env) (d : Option Nat) : Value → Heap → Prop := fun v H => chkA un H pend ∧ wpDrawA P K pend ds (put ρ d v) H
def isLoad1 (a v : Value) : Heap → Prop := fun H' => load1V H' a = some v
def isLoadN (n : Nat) (a v : Value) : Heap → Prop := fun H' => loadNV n H' a = some v
def kDr1 (P : Program) (K : Env → Heap → Prop) (pend : List (Nat × (Heap → Prop))) (i : Nat) (a : Value) (os : List DOper) (ρ : Env) (d : Option Nat) : Value → Heap → Prop := fun v H => wpDrawA P K ((i, isLoad1 a v) :: pend) os (put ρ d v) H
def kDrN (P : Program) (K : Env → Heap → Prop) (pend : List (Nat × (Heap → Prop))) (i n : Nat) (a : Value) (os : List DOper) (ρ : Env) (d : Option Nat) : Value → Heap → Prop := fun v H => wpDrawA P K ((i, isLoadN n a v) :: pend) os (put ρ d v) H
def condK (P : Program) (c : Value) (a b : ACode) (Q : AExit → Env → Heap → Prop) (ρ : Env) (H : Heap) : Prop :=
  match c with
  | .bool true => wpA P a Q ρ H
  | .bool false => wpA P b Q ρ H
  | _ => False
def LoopA (P : Program) (a : ACode) (Q : AExit → Env → Heap → Prop) (ρ : Env) (H : Heap) : Prop := wpA P (.loop a) Q ρ H

/-- 'whatever new block': what goes on with it. -/
def NewB (H : Heap) (e : TypeId) (cs : List Value) (mk : Nat → Value) (K : Value → Heap → Prop) : Prop := ∀ b, H b = none → K (mk b) (H.set b (.row true e cs))

def mkPtr (b : Nat) : Value := .pointer (some ⟨b, 0, none⟩)
def mkSl (n c b : Nat) : Value := .slice (some ⟨b, 0, none⟩) n c

/-- A store of n cells into a row. -/
def StoreK (H : Heap) (x : Value) (vs : List Value) (K : Value → Heap → Prop) : Prop :=
  match x with
  | .pointer (some ⟨b, o, none⟩) => match H b with
    | some (.row true e cs) => o + vs.length ≤ cs.length ∧ allOne vs = true ∧ K undef (H.set b (.row true e (spliceL cs o vs)))
    | _ => False
  | _ => False

def Store1 (H : Heap) (x v : Value) (K : Value → Heap → Prop) : Prop :=
  match x with
  | .pointer (some ⟨b, o, none⟩) => match H b with
    | some (.row true e cs) => o < cs.length ∧ v.oneCell' = true ∧ K undef (H.set b (.row true e (cs.set o v)))
    | _ => False
  | _ => False

def wantV (w : Bool) : Value → Bool
  | .bool b => b == w
  | _ => false
theorem wantedG_app (t : Nat) (w : Bool) (ρ : Env) : wantedG (some (t, w)) ρ = wantV w (ρ t) := by
  simp only [wantedG, wantV]
  split <;> simp_all

def guardA (b : Bool) (P : Program) (K : Env → Heap → Prop) (d : Option Nat) (act : AAct) (os : List AOper) (ρ : Env) (H : Heap) : Prop :=
  if b = true then act.wp P ρ H (kOps P K os ρ d) else wpOpsA P K os (put ρ d undef) H
def guardD (b : Bool) (P : Program) (K : Env → Heap → Prop) (pend : List (Nat × (Heap → Prop))) (i : Nat) (d : Option Nat) (act : AAct) (un : List Nat) (os : List DOper) (ρ : Env) (H : Heap) : Prop :=
  if b = true then wpDrawA P K pend (⟨i, ⟨d, none, act⟩, un⟩ :: os) ρ H else wpDrawA P K pend os (put ρ d undef) H

section
variable {P : Program} {Q : AExit → Env → Heap → Prop} {K : Env → Heap → Prop} {ρ : Env} {H : Heap}

theorem wp_skip' : wpA P .skip Q ρ H = Q .normal ρ H := rfl
theorem wp_ret' : wpA P .ret Q ρ H = Q .ret ρ H := rfl
theorem wp_exit' (id : Nat) : wpA P (.exit id) Q ρ H = Q (.exit id) ρ H := rfl
theorem wp_seq' (a b : ACode) : wpA P (.seq a b) Q ρ H = wpA P a (kSeq P b Q) ρ H := rfl
theorem wp_block' (id : Nat) (a : ACode) : wpA P (.block id a) Q ρ H = wpA P a (kBlk id Q) ρ H := rfl
theorem wp_region' (os : List AOper) : wpA P (.region os) Q ρ H = wpOpsA P (kN Q) os ρ H := rfl
theorem wp_draw' (os : List DOper) : wpA P (.draw os) Q ρ H = wpDrawA P (kN Q) [] os ρ H := rfl
theorem wp_cond' (c : Operand) (a b : ACode) : wpA P (.cond c a b) Q ρ H = condK P (ev ρ c) a b Q ρ H := by
  unfold wpA condK; rfl
theorem wp_loop' (a : ACode) : wpA P (.loop a) Q ρ H = LoopA P a Q ρ H := rfl
theorem kSeq_n (b : ACode) : kSeq P b Q .normal ρ H = wpA P b Q ρ H := rfl
theorem kSeq_r (b : ACode) : kSeq P b Q .ret ρ H = Q .ret ρ H := rfl
theorem kSeq_e (b : ACode) (i : Nat) : kSeq P b Q (.exit i) ρ H = Q (.exit i) ρ H := rfl
theorem kBlk_n (i : Nat) : kBlk i Q .normal ρ H = Q .normal ρ H := rfl
theorem kBlk_r (i : Nat) : kBlk i Q .ret ρ H = Q .ret ρ H := rfl
theorem kBlk_e (i j : Nat) : kBlk i Q (.exit j) ρ H = if j = i then Q .normal ρ H else Q (.exit j) ρ H := by
  by_cases h : j = i <;> simp [kBlk, inBlockA, h]
theorem kN_app : kN Q ρ H = Q .normal ρ H := rfl
theorem condK_t (a b : ACode) : condK P (.bool true) a b Q ρ H = wpA P a Q ρ H := rfl
theorem condK_f (a b : ACode) : condK P (.bool false) a b Q ρ H = wpA P b Q ρ H := rfl
theorem kOps_app (os : List AOper) (d : Option Nat) (v : Value) : kOps P K os ρ d v H = wpOpsA P K os (put ρ d v) H := rfl
theorem kDr_app (pend : List (Nat × (Heap → Prop))) (os : List DOper) (d : Option Nat) (v : Value) : kDr P K pend os ρ d v H = wpDrawA P K pend os (put ρ d v) H := rfl
theorem kDw_nil (pend : List (Nat × (Heap → Prop))) (os : List DOper) (d : Option Nat) (v : Value) : kDw P K pend os [] ρ d v H = wpDrawA P K pend os (put ρ d v) H := by
  simp [kDw, chkA]
theorem kDw_cons (pend : List (Nat × (Heap → Prop))) (os : List DOper) (i : Nat) (un : List Nat) (d : Option Nat) (v : Value) : kDw P K pend os (i :: un) ρ d v H = (lookP i H pend ∧ kDw P K pend os un ρ d v H) := by
  simp [kDw, chkA, and_assoc]
theorem ops_nil : wpOpsA P K [] ρ H = K ρ H := rfl
theorem ops_cons (d : Option Nat) (act : AAct) (os : List AOper) : wpOpsA P K (⟨d, none, act⟩ :: os) ρ H = act.wp P ρ H (kOps P K os ρ d) := by
  simp only [wpOpsA, wantedG, if_true]; rfl
theorem ops_g (d : Option Nat) (t : Nat) (w : Bool) (act : AAct) (os : List AOper) : wpOpsA P K (⟨d, some (t, w), act⟩ :: os) ρ H = guardA (wantV w (ρ t)) P K d act os ρ H := by
  simp only [wpOpsA, guardA, wantedG_app]; rfl
theorem guardA_t (d : Option Nat) (act : AAct) (os : List AOper) : guardA true P K d act os ρ H = act.wp P ρ H (kOps P K os ρ d) := rfl
theorem guardA_f (d : Option Nat) (act : AAct) (os : List AOper) : guardA false P K d act os ρ H = wpOpsA P K os (put ρ d undef) H := rfl
theorem dr_g (pend : List (Nat × (Heap → Prop))) (i : Nat) (d : Option Nat) (t : Nat) (w : Bool) (act : AAct) (un : List Nat) (os : List DOper) : wpDrawA P K pend (⟨i, ⟨d, some (t, w), act⟩, un⟩ :: os) ρ H = guardD (wantV w (ρ t)) P K pend i d act un os ρ H := by
  rw [← wantedG_app]
  by_cases h : wantedG (some (t, w)) ρ = true
  · simp only [wpDrawA, h, guardD, if_true]; rfl
  · simp only [wpDrawA, h, guardD]; rfl
theorem guardD_t (pend : List (Nat × (Heap → Prop))) (i : Nat) (d : Option Nat) (act : AAct) (un : List Nat) (os : List DOper) : guardD true P K pend i d act un os ρ H = wpDrawA P K pend (⟨i, ⟨d, none, act⟩, un⟩ :: os) ρ H := rfl
theorem guardD_f (pend : List (Nat × (Heap → Prop))) (i : Nat) (d : Option Nat) (act : AAct) (un : List Nat) (os : List DOper) : guardD false P K pend i d act un os ρ H = wpDrawA P K pend os (put ρ d undef) H := rfl
theorem dr_nil (pend : List (Nat × (Heap → Prop))) : wpDrawA P K pend [] ρ H = K ρ H := rfl
theorem dr_p (pend : List (Nat × (Heap → Prop))) (i : Nat) (d : Option Nat) (e : PExp) (un : List Nat) (os : List DOper) : wpDrawA P K pend (⟨i, ⟨d, none, .p e⟩, un⟩ :: os) ρ H = valK (e.val ρ) (kDr P K pend os ρ d) H := by
  simp only [wpDrawA, wantedG, if_true]; cases e.val ρ <;> rfl
theorem dr_r1 (pend : List (Nat × (Heap → Prop))) (i : Nat) (d : Option Nat) (x : Operand) (un : List Nat) (os : List DOper) :
    wpDrawA P K pend (⟨i, ⟨d, none, .r1 x⟩, un⟩ :: os) ρ H = valK (load1V H (ev ρ x)) (kDr1 P K pend i (ev ρ x) os ρ d) H := by
  simp only [wpDrawA, wantedG, if_true]; cases load1V H (ev ρ x) <;> rfl
theorem dr_rN (pend : List (Nat × (Heap → Prop))) (i : Nat) (d : Option Nat) (n : Nat) (x : Operand) (un : List Nat) (os : List DOper) :
    wpDrawA P K pend (⟨i, ⟨d, none, .rN n x⟩, un⟩ :: os) ρ H = valK (loadNV n H (ev ρ x)) (kDrN P K pend i n (ev ρ x) os ρ d) H := by
  simp only [wpDrawA, wantedG, if_true]; cases loadNV n H (ev ρ x) <;> rfl
theorem kDr1_app (pend : List (Nat × (Heap → Prop))) (i : Nat) (a : Value) (os : List DOper) (d : Option Nat) (v : Value) : kDr1 P K pend i a os ρ d v H = wpDrawA P K ((i, isLoad1 a v) :: pend) os (put ρ d v) H := rfl
theorem kDrN_app (pend : List (Nat × (Heap → Prop))) (i n : Nat) (a : Value) (os : List DOper) (d : Option Nat) (v : Value) : kDrN P K pend i n a os ρ d v H = wpDrawA P K ((i, isLoadN n a v) :: pend) os (put ρ d v) H := rfl
theorem lookP_nil (i : Nat) : lookP i H [] = True := rfl
theorem lookP_cons (i j : Nat) (φ : Heap → Prop) (ps : List (Nat × (Heap → Prop))) : lookP i H ((j, φ) :: ps) = if i = j then φ H ∧ lookP i H ps else lookP i H ps := rfl
theorem dr_w (pend : List (Nat × (Heap → Prop))) (i : Nat) (d : Option Nat) (e : WExp) (un : List Nat) (os : List DOper) : wpDrawA P K pend (⟨i, ⟨d, none, .w e⟩, un⟩ :: os) ρ H = (AAct.w e).wp P ρ H (kDw P K pend os un ρ d) := by
  simp only [wpDrawA, wantedG, if_true]; rfl
theorem dr_gt (pend : List (Nat × (Heap → Prop))) (i : Nat) (d : Option Nat) (t : Nat) (w : Bool) (act : AAct) (un : List Nat) (os : List DOper) (h : ρ t = .bool w) : wpDrawA P K pend (⟨i, ⟨d, some (t, w), act⟩, un⟩ :: os) ρ H = wpDrawA P K pend (⟨i, ⟨d, none, act⟩, un⟩ :: os) ρ H := by
  simp [wpDrawA, wantedG, h]
theorem dr_gf (pend : List (Nat × (Heap → Prop))) (i : Nat) (d : Option Nat) (t : Nat) (w : Bool) (act : AAct) (un : List Nat) (os : List DOper) (h : ρ t = .bool (!w)) : wpDrawA P K pend (⟨i, ⟨d, some (t, w), act⟩, un⟩ :: os) ρ H = wpDrawA P K pend os (put ρ d undef) H := by
  simp [wpDrawA, wantedG, h]

variable {V : Value → Heap → Prop}
theorem act_p (e : PExp) : (AAct.p e).wp P ρ H V = valK (e.val ρ) V H := by
  simp only [AAct.wp]; cases e.val ρ <;> rfl
theorem act_r1 (x : Operand) : (AAct.r1 x).wp P ρ H V = valK (load1V H (ev ρ x)) V H := by
  simp only [AAct.wp]; cases load1V H (ev ρ x) <;> rfl
theorem act_rN (n : Nat) (x : Operand) : (AAct.rN n x).wp P ρ H V = valK (loadNV n H (ev ρ x)) V H := by
  simp only [AAct.wp]; cases loadNV n H (ev ρ x) <;> rfl
theorem act_alloc (e : TypeId) (z : List Value) : (AAct.w (.alloc e z)).wp P ρ H V = NewB H e z mkPtr V := rfl
theorem act_box (e : TypeId) (x : Operand) : (AAct.w (.box e x)).wp P ρ H V = (allOne (ev ρ x).cells.toList = true ∧ NewB H e (ev ρ x).cells.toList mkPtr V) := rfl
theorem act_st1 (x v : Operand) : (AAct.w (.st1 x v)).wp P ρ H V = Store1 H (ev ρ x) (ev ρ v) V := rfl
theorem act_call (f : FuncId) (xs : List Operand) : (AAct.w (.call f xs)).wp P ρ H V = ACalls P f (xs.map (ev ρ)) H V := rfl
theorem act_app (e : TypeId) (bytes : Nat) (z : List Value) (s x : Operand) : (AAct.w (.app e bytes z s x)).wp P ρ H V = appWp e bytes z (ev ρ s) (ev ρ x) H V := rfl
theorem act_cpy (n : Nat) (d s : Operand) : (AAct.w (.cpy n d s)).wp P ρ H V = cpyWp n (ev ρ d) (ev ρ s) H V := rfl
theorem act_callv (x : Operand) (xs : List Operand) (f : FuncId) (first captured : Array Value) (h : ev ρ x = .func (.func f) first captured) : (AAct.w (.callv x xs)).wp P ρ H V = ACalls P f (first.toList ++ xs.map (ev ρ) ++ captured.toList) H V := by
  simp only [AAct.wp, WExp.wp, h]
theorem act_stN (n : Nat) (x v : Operand) (cs : Array Value) (hv : ev ρ v = .agg cs) (hn : cs.size = n) : (AAct.w (.stN n x v)).wp P ρ H V = StoreK H (ev ρ x) cs.toList V := by
  simp only [AAct.wp, WExp.wp, StoreK, hv, Value.cells, hn, Array.length_toList, true_and]
  cases ev ρ x with
  | pointer a =>
    cases a with
    | none => rfl
    | some a =>
      obtain ⟨b, o, sp⟩ := a
      cases sp with
      | none =>
        simp only
        cases H b with
        | none => rfl
        | some B => cases B with
          | row r e cs => cases r <;> rfl
          | mp _ _ => rfl
      | some _ => rfl
  | _ => rfl
theorem act_bslice (e : TypeId) (n : Nat) (z : List Value) (parts : List (Nat × Nat × Operand)) (cs : List Value) (h : fillL (repl n z) (parts.map fun (o, s, x) => (o, s, ev ρ x)) = some cs) : (AAct.w (.bslice e n z parts)).wp P ρ H V = (allOne cs = true ∧ NewB H e cs (mkSl n n) V) := by
  simp only [AAct.wp, WExp.wp, h]; rfl
theorem act_mksl (e : TypeId) (bytes : Nat) (z : List Value) (l c : Operand) (k1 k2 : IntKind) (a b : Nat) (hl : ev ρ l = .int k1 a) (hc : ev ρ c = .int k2 b) (hab : a ≤ b) (hb : b * bytes ≤ 140737488355328) (hb2 : b ≤ 140737488355328) :
    (AAct.w (.mksl e bytes z l c)).wp P ρ H V = NewB H e (repl b z) (mkSl a b) V := by
  simp only [AAct.wp, WExp.wp, hl, hc, Int.toNat_natCast, NewB, mkSl]
  have h1 : (0 : Int) ≤ a := by omega
  have h2 : (a : Int) ≤ b := by omega
  have h3 : (b : Int) * (bytes : Int) ≤ 140737488355328 := by rw [← Int.natCast_mul]; omega
  have h4 : (b : Int) ≤ 140737488355328 := by omega
  exact propext ⟨fun h => h.2.2.2.2, fun h => ⟨h1, h2, h3, h4, h⟩⟩

-- values
theorem ab_add (k : IntKind) (a b : Int) : abin .add (.int k a) (.int k b) = some (.int k (k.wrap (a + b))) := by simp [abin]
theorem ab_sub (k : IntKind) (a b : Int) : abin .sub (.int k a) (.int k b) = some (.int k (k.wrap (a - b))) := by simp [abin]
theorem ab_mul (k : IntKind) (a b : Int) : abin .mul (.int k a) (.int k b) = some (.int k (k.wrap (a * b))) := by simp [abin]
theorem ab_eql (k : IntKind) (a b : Int) : abin .eql (.int k a) (.int k b) = some (.bool (a == b)) := by simp [abin]
theorem ab_neq (k : IntKind) (a b : Int) : abin .neq (.int k a) (.int k b) = some (.bool (a != b)) := by simp [abin]
theorem ab_lss (k : IntKind) (a b : Int) : abin .lss (.int k a) (.int k b) = some (.bool (decide (a < b))) := by simp [abin]
theorem ab_leq (k : IntKind) (a b : Int) : abin .leq (.int k a) (.int k b) = some (.bool (decide (a ≤ b))) := by simp [abin]
theorem ab_gtr (k : IntKind) (a b : Int) : abin .gtr (.int k a) (.int k b) = some (.bool (decide (b < a))) := by simp [abin]
theorem ab_geq (k : IntKind) (a b : Int) : abin .geq (.int k a) (.int k b) = some (.bool (decide (b ≤ a))) := by simp [abin]
theorem wrap_i64 (x : Int) (h : -9223372036854775808 ≤ x) (h' : x ≤ 9223372036854775807) : IntKind.i64.wrap x = x := by rw [IntKind.wrap_i64]; omega
theorem wrap_u64 (x : Int) (h : 0 ≤ x) (h' : x ≤ 18446744073709551615) : IntKind.u64.wrap x = x := by
  simp [IntKind.wrap, IntKind.bits, IntKind.signed]; omega
theorem idxSl_ok (stride b o len cap : Nat) (k : IntKind) (n : Int) (h0 : 0 ≤ n) (h1 : n < (len : Int)) : idxSlV stride (.slice (some ⟨b, o, none⟩) len cap) (.int k n) = some (.pointer (some ⟨b, o + n.toNat * stride, none⟩)) := by
  simp [idxSlV, h0, h1]
theorem load1_ok {b o : Nat} {r : Bool} {e : TypeId} {cs : List Value} (h : H b = some (.row r e cs)) : load1V H (.pointer (some ⟨b, o, none⟩)) = cs[o]? := by
  simp [load1V, Heap.row, h]
theorem store1_ok {b o : Nat} {e : TypeId} {cs : List Value} {v : Value} (h : H b = some (.row true e cs)) (hl : o < cs.length) (h1 : v.oneCell' = true) : Store1 H (.pointer (some ⟨b, o, none⟩)) v V = V undef (H.set b (.row true e (cs.set o v))) := by
  simp [Store1, h, hl, h1]
end

theorem wantV_b (w b : Bool) : wantV w (.bool b) = (b == w) := rfl
theorem wantV_u (w : Bool) : wantV w undef = false := rfl
theorem nilck_ptr (a : Addr) : nilckV (.pointer (some a)) = some (.pointer (some a)) := rfl
theorem fieldA_ok (off b o : Nat) : fieldAV off (.pointer (some ⟨b, o, none⟩)) = some (.pointer (some ⟨b, o + off, none⟩)) := rfl
theorem len_sl (a : Option Addr) (n c : Nat) : lenV false (.slice a n c) = some (.int .i64 n) := rfl
theorem len_str (s : ByteArray) : lenV true (.string s) = some (.int .i64 s.size) := rfl
theorem pick_t (a b : Value) : pickV (.bool true) a b = some a := rfl
theorem pick_f (a b : Value) : pickV (.bool false) a b = some b := rfl
theorem not_b (b : Bool) : notV (.bool b) = some (.bool !b) := rfl
theorem conv_i (k k' : IntKind) (n : Int) : convV k (.int k' n) = some (.int k (k.wrap n)) := rfl
theorem extract_t (i : Nat) (vs : Array Value) : extractV i (.tuple vs) = vs[i]? := rfl
theorem ext_0 (a : Value) (l : List Value) : extractV 0 (.tuple (a :: l).toArray) = some a := by simp [extractV]
theorem ext_1 (a b : Value) (l : List Value) : extractV 1 (.tuple (a :: b :: l).toArray) = some b := by simp [extractV]
theorem ext_2 (a b c : Value) (l : List Value) : extractV 2 (.tuple (a :: b :: c :: l).toArray) = some c := by simp [extractV]
theorem eqp_n (neg : Bool) (b : Option Addr) : eqpV neg (.pointer none) (.pointer b) = some (.bool (neg != b.isNone)) := rfl
theorem eqp_s (neg : Bool) (a : Addr) : eqpV neg (.pointer (some a)) (.pointer none) = some (.bool neg) := rfl
theorem eqb_b (neg a b : Bool) : eqbV neg (.bool a) (.bool b) = some (.bool (neg != (a == b))) := rfl
theorem min_i (k k' : IntKind) (a b : Int) : minV (.int k a) (.int k' b) = some (.int k (if b < a then b else a)) := rfl
theorem max_i (k k' : IntKind) (a b : Int) : maxV (.int k a) (.int k' b) = some (.int k (if a < b then b else a)) := rfl
theorem part_1 (off : Nat) (cs : Array Value) : partV off none (.agg cs) = cs[off]? := rfl
theorem part_n (off n : Nat) (cs : Array Value) : partV off (some n) (.agg cs) = some (.agg (cs.extract off (off + n))) := rfl
theorem envOf_0 (v : Value) (l : List Value) : envOf (v :: l) 0 = v := rfl
theorem envOf_s (v : Value) (l : List Value) (n : Nat) : envOf (v :: l) (n + 1) = envOf l n := rfl
theorem ev_t (ρ : Env) (t : Nat) : ev ρ (.tmp t) = ρ t := rfl
theorem ev_c (ρ : Env) (v : Value) : ev ρ (.const v) = v := rfl
theorem put_s (ρ : Env) (d : Nat) (v : Value) : put ρ (some d) v = ρ.set d v := rfl
theorem put_n (ρ : Env) (v : Value) : put ρ none v = ρ := rfl

-- further rules: everything in terms of what stands in a row

def getRow (H : Heap) (b : Nat) : Option (TypeId × List Value) :=
  match H b with
  | some (.row true e cs) => some (e, cs)
  | _ => none

def ld1K (r : Option (List Value)) (o : Nat) : Option Value :=
  match r with
  | some cs => cs[o]?
  | none => none

def ldNK (r : Option (List Value)) (o n : Nat) : Option Value :=
  match r with
  | some cs => if o + n ≤ cs.length then some (.agg ((cs.drop o).take n).toArray) else none
  | none => none

def st1K (r : Option (TypeId × List Value)) (b o : Nat) (v : Value) (H : Heap) (V : Value → Heap → Prop) : Prop :=
  match r with
  | some (e, cs) => o < cs.length ∧ v.oneCell' = true ∧ V undef (H.set b (.row true e (cs.set o v)))
  | none => False

def stNK (r : Option (TypeId × List Value)) (n b o : Nat) (v : Value) (H : Heap) (V : Value → Heap → Prop) : Prop :=
  match r with
  | some (e, cs) => v.cells.size = n ∧ o + n ≤ cs.length ∧ allOne v.cells.toList = true ∧ V undef (H.set b (.row true e (spliceL cs o v.cells.toList)))
  | none => False

def stN (n : Nat) (H : Heap) (x v : Value) (V : Value → Heap → Prop) : Prop :=
  match x with
  | .pointer (some ⟨b, o, none⟩) => stNK (getRow H b) n b o v H V
  | _ => False

def evParts (ρ : Env) : List (Nat × Nat × Operand) → List (Nat × Nat × Value)
  | [] => []
  | (o, s, x) :: ps => (o, s, ev ρ x) :: evParts ρ ps

def aggOf : Option (List Value) → Option Value
  | some cs => some (.agg cs.toArray)
  | none => none

def bslK (r : Option (List Value)) (e : TypeId) (n : Nat) (H : Heap) (V : Value → Heap → Prop) : Prop :=
  match r with
  | some cs => allOne cs = true ∧ NewB H e cs (mkSl n n) V
  | none => False

def mkslK (e : TypeId) (bytes : Nat) (z : List Value) (l c : Value) (H : Heap) (V : Value → Heap → Prop) : Prop :=
  match l, c with
  | .int _ l, .int _ c => 0 ≤ l ∧ l ≤ c ∧ c * bytes ≤ 140737488355328 ∧ c ≤ 140737488355328 ∧ NewB H e (repl c.toNat z) (mkSl l.toNat c.toNat) V
  | _, _ => False

def callvK (P : Program) (x : Value) (args : List Value) (H : Heap) (V : Value → Heap → Prop) : Prop :=
  match x with
  | .func (.func f) first captured => ACalls P f (first.toList ++ args ++ captured.toList) H V
  | _ => False

section
variable {P : Program} {ρ : Env} {H : Heap} {V : Value → Heap → Prop}
theorem pv_mv (x : Operand) : PExp.val ρ (.mv x) = some (ev ρ x) := rfl
theorem pv_pick (c a b : Operand) : PExp.val ρ (.pick c a b) = pickV (ev ρ c) (ev ρ a) (ev ρ b) := rfl
theorem pv_nilck (x : Operand) : PExp.val ρ (.nilck x) = nilckV (ev ρ x) := rfl
theorem pv_ibin (op : BinOp) (x y : Operand) : PExp.val ρ (.ibin op x y) = abin op (ev ρ x) (ev ρ y) := rfl
theorem pv_eqb (n : Bool) (x y : Operand) : PExp.val ρ (.eqb n x y) = eqbV n (ev ρ x) (ev ρ y) := rfl
theorem pv_eqp (n : Bool) (x y : Operand) : PExp.val ρ (.eqp n x y) = eqpV n (ev ρ x) (ev ρ y) := rfl
theorem pv_eqsl (n : Bool) (x y : Operand) : PExp.val ρ (.eqsl n x y) = eqslV n (ev ρ x) (ev ρ y) := rfl
theorem pv_eqfn (n : Bool) (x y : Operand) : PExp.val ρ (.eqfn n x y) = eqfnV n (ev ρ x) (ev ρ y) := rfl
def eqiK (n : Bool) (offs : List Nat) (x y : Value) : Option Value :=
  match x, y with
  | .agg xs, .agg ys => (eqiV offs xs ys).map fun b => .bool (n != b)
  | _, _ => none
theorem pv_eqi (n : Bool) (offs : List Nat) (x y : Operand) : PExp.val ρ (.eqi n offs x y) = eqiK n offs (ev ρ x) (ev ρ y) := by
  simp only [PExp.val, eqiK]
  generalize ev ρ x = u; generalize ev ρ y = v
  cases u <;> cases v <;> rfl
theorem pv_not (x : Operand) : PExp.val ρ (.not x) = notV (ev ρ x) := rfl
theorem pv_conv (k : IntKind) (x : Operand) : PExp.val ρ (.conv k x) = convV k (ev ρ x) := rfl
theorem pv_fieldA (o : Nat) (x : Operand) : PExp.val ρ (.fieldA o x) = fieldAV o (ev ρ x) := rfl
theorem pv_idxArr (n s : Nat) (x i : Operand) : PExp.val ρ (.idxArr n s x i) = idxArrV n s (ev ρ x) (ev ρ i) := rfl
theorem pv_idxSl (s : Nat) (x i : Operand) : PExp.val ρ (.idxSl s x i) = idxSlV s (ev ρ x) (ev ρ i) := rfl
theorem pv_part (o : Nat) (n : Option Nat) (x : Operand) : PExp.val ρ (.part o n x) = partV o n (ev ρ x) := rfl
theorem pv_extract (i : Nat) (x : Operand) : PExp.val ρ (.extract i x) = extractV i (ev ρ x) := rfl
theorem evParts_eq (ps : List (Nat × Nat × Operand)) : (ps.map fun (o, s, x) => (o, s, ev ρ x)) = evParts ρ ps := by
  induction ps with
  | nil => rfl
  | cons p ps ih => simp [evParts, ih]
theorem pv_build (z : List Value) (ps : List (Nat × Nat × Operand)) : PExp.val ρ (.build z ps) = aggOf (fillL z (evParts ρ ps)) := by
  simp only [PExp.val, evParts_eq]
  cases fillL z (evParts ρ ps) <;> rfl
theorem pv_slc (s : Nat) (x : Operand) (lo hi : Option Operand) : PExp.val ρ (.slc s x lo hi) = slcV s (ev ρ x) (lo.map (ev ρ)) (hi.map (ev ρ)) := rfl
theorem pv_len (b : Bool) (x : Operand) : PExp.val ρ (.len b x) = lenV b (ev ρ x) := rfl
theorem pv_min (x y : Operand) : PExp.val ρ (.min2 x y) = minV (ev ρ x) (ev ρ y) := rfl
theorem pv_max (x y : Operand) : PExp.val ρ (.max2 x y) = maxV (ev ρ x) (ev ρ y) := rfl
theorem pv_mkfn (f : FuncId) (a c : List Operand) : PExp.val ρ (.mkfn f a c) = some (.func (.func f) (a.map (ev ρ)).toArray (c.map (ev ρ)).toArray) := rfl
theorem evp_nil : evParts ρ [] = [] := rfl
theorem evp_cons (o s : Nat) (x : Operand) (ps : List (Nat × Nat × Operand)) : evParts ρ ((o, s, x) :: ps) = (o, s, ev ρ x) :: evParts ρ ps := rfl
theorem fillL_nil (cs : List Value) : fillL cs [] = some cs := rfl
theorem fillL_one (cs : List Value) (o : Nat) (v : Value) (ps : List (Nat × Nat × Value)) (h1 : v.oneCell' = true) (h2 : o < cs.length) : fillL cs ((o, 1, v) :: ps) = fillL (cs.set o v) ps := by
  have hc : v.cells = #[v] := by cases v <;> simp [Value.oneCell'] at h1 <;> rfl
  simp only [fillL, hc]
  rw [if_pos ⟨rfl, by omega⟩]
  show fillL (spliceL cs o [v]) ps = _
  congr 1; simp only [spliceL, List.length_singleton]; exact (splice_one _ _ _ h2)
theorem fillL_agg (cs : List Value) (o n : Nat) (vs : List Value) (ps : List (Nat × Nat × Value)) (h1 : vs.length = n) (h2 : o + n ≤ cs.length) : fillL cs ((o, n, .agg vs.toArray) :: ps) = fillL (spliceL cs o vs) ps := by
  have hc : (Value.agg vs.toArray).cells = vs.toArray := rfl
  simp only [fillL, hc]
  rw [if_pos ⟨by simpa using h1, h2⟩]
theorem aggOf_some (cs : List Value) : aggOf (some cs) = some (.agg cs.toArray) := rfl
theorem bslK_some (cs : List Value) (e : TypeId) (n : Nat) : bslK (some cs) e n H V = (allOne cs = true ∧ NewB H e cs (mkSl n n) V) := rfl
theorem act_bslK (e : TypeId) (n : Nat) (z : List Value) (ps : List (Nat × Nat × Operand)) : (AAct.w (.bslice e n z ps)).wp P ρ H V = bslK (fillL (repl n z) (evParts ρ ps)) e n H V := by
  simp only [AAct.wp, WExp.wp, evParts_eq]
  cases fillL (repl n z) (evParts ρ ps) <;> rfl
theorem act_mkslK (e : TypeId) (bytes : Nat) (z : List Value) (l c : Operand) : (AAct.w (.mksl e bytes z l c)).wp P ρ H V = mkslK e bytes z (ev ρ l) (ev ρ c) H V := by
  simp only [AAct.wp, WExp.wp, mkslK, NewB, mkSl]
  generalize ev ρ l = u; generalize ev ρ c = v
  cases u <;> cases v <;> rfl
theorem mksl_ok (e : TypeId) (bytes : Nat) (z : List Value) (k1 k2 : IntKind) (l c : Int) (h0 : 0 ≤ l) (h1 : l ≤ c) (h2 : c * bytes ≤ 140737488355328) (h3 : c ≤ 140737488355328) : mkslK e bytes z (.int k1 l) (.int k2 c) H V = NewB H e (repl c.toNat z) (mkSl l.toNat c.toNat) V := by
  exact propext ⟨fun h => h.2.2.2.2, fun h => ⟨h0, h1, h2, h3, h⟩⟩
theorem act_callvK (x : Operand) (xs : List Operand) : (AAct.w (.callv x xs)).wp P ρ H V = callvK P (ev ρ x) (xs.map (ev ρ)) H V := by
  simp only [AAct.wp, WExp.wp, callvK]
  generalize ev ρ x = u
  cases u with
  | func f a c => cases f <;> rfl
  | _ => rfl
theorem act_ext (k : XOp) (xs : List Operand) : (AAct.w (.ext k xs)).wp P ρ H V = k.wp H V (xs.map (ev ρ)) := rfl
theorem x_fbits (b : Nat) : XOp.fbits.wp H V [.float .f64 b] = V (.int .u64 b) H := rfl
theorem x_fof (n : Int) : XOp.fof.wp H V [.int .u64 n] = V (.float .f64 n.toNat) H := rfl
theorem callvK_fn (f : FuncId) (first captured : Array Value) (args : List Value) : callvK P (.func (.func f) first captured) args H V = ACalls P f (first.toList ++ args ++ captured.toList) H V := rfl
theorem act_stNK (n : Nat) (x v : Operand) : (AAct.w (.stN n x v)).wp P ρ H V = stN n H (ev ρ x) (ev ρ v) V := by
  simp only [AAct.wp, WExp.wp, stN, stNK, getRow]
  generalize ev ρ x = u
  cases u with
  | pointer a =>
    cases a with
    | none => rfl
    | some a =>
      obtain ⟨b, o, sp⟩ := a
      cases sp with
      | none =>
        simp only
        cases H b with
        | none => rfl
        | some B => cases B with
          | row r e cs => cases r <;> rfl
          | mp _ _ => rfl
      | some _ => rfl
  | _ => rfl
theorem stN_ptr (n b o : Nat) (v : Value) : stN n H (.pointer (some ⟨b, o, none⟩)) v V = stNK (getRow H b) n b o v H V := rfl
theorem stNK_agg (e : TypeId) (cs : List Value) (n b o : Nat) (vs : List Value) : stNK (some (e, cs)) n b o (.agg vs.toArray) H V = (vs.length = n ∧ o + n ≤ cs.length ∧ allOne vs = true ∧ V undef (H.set b (.row true e (spliceL cs o vs)))) := rfl
theorem st1_ptr (b o : Nat) (v : Value) : Store1 H (.pointer (some ⟨b, o, none⟩)) v V = st1K (getRow H b) b o v H V := by
  simp only [Store1, st1K, getRow]
  cases H b with
  | none => rfl
  | some B => cases B with
    | row r e cs => cases r <;> rfl
    | mp _ _ => rfl
theorem st1K_some (e : TypeId) (cs : List Value) (b o : Nat) (v : Value) : st1K (some (e, cs)) b o v H V = (o < cs.length ∧ v.oneCell' = true ∧ V undef (H.set b (.row true e (cs.set o v)))) := rfl
theorem ld1_ptr (b o : Nat) : load1V H (.pointer (some ⟨b, o, none⟩)) = ld1K (H.row b) o := rfl
theorem ld1K_some (cs : List Value) (o : Nat) : ld1K (some cs) o = cs[o]? := rfl
theorem ldN_ptr (n b o : Nat) : loadNV n H (.pointer (some ⟨b, o, none⟩)) = ldNK (H.row b) o n := rfl
theorem ldNK_some (cs : List Value) (o n : Nat) (h : o + n ≤ cs.length) : ldNK (some cs) o n = some (.agg ((cs.drop o).take n).toArray) := by simp [ldNK, h]
theorem row_ok {b : Nat} {r : Bool} {e : TypeId} {cs : List Value} (h : H b = some (.row r e cs)) : H.row b = some cs := by simp [Heap.row, h]
theorem getRow_ok {b : Nat} {e : TypeId} {cs : List Value} (h : H b = some (.row true e cs)) : getRow H b = some (e, cs) := by simp [getRow, h]
theorem row_same (b : Nat) (r : Bool) (e : TypeId) (cs : List Value) : (H.set b (.row r e cs)).row b = some cs := by simp [Heap.row, Heap.set]
theorem row_ne (b c : Nat) (B : Blk) (h : c ≠ b) : (H.set b B).row c = H.row c := by simp [Heap.row, Heap.set, h]
theorem getRow_same (b : Nat) (e : TypeId) (cs : List Value) : getRow (H.set b (.row true e cs)) b = some (e, cs) := by simp [getRow, Heap.set]
theorem getRow_ne (b c : Nat) (B : Blk) (h : c ≠ b) : getRow (H.set b B) c = getRow H c := by simp [getRow, Heap.set, h]
end
theorem repl_0 (z : List Value) : repl 0 z = [] := rfl
theorem repl_s (n : Nat) (z : List Value) : repl (n + 1) z = z ++ repl n z := by simp [repl, List.replicate_succ]
theorem one_int (k : IntKind) (n : Int) : (Value.int k n).oneCell' = true := rfl
theorem one_bool (b : Bool) : (Value.bool b).oneCell' = true := rfl
theorem one_ptr (a : Option Addr) : (Value.pointer a).oneCell' = true := rfl
theorem one_sl (a : Option Addr) (n c : Nat) : (Value.slice a n c).oneCell' = true := rfl
theorem all_nil : allOne [] = true := rfl
theorem all_cons (v : Value) (l : List Value) : allOne (v :: l) = (v.oneCell' && allOne l) := rfl

theorem envSet_app (ρ : Env) (d : Nat) (v : Value) (t : Nat) : Env.set ρ d v t = if t = d then v else ρ t := rfl
theorem heapSet_app (H : Heap) (b : Nat) (o : Blk) (c : Nat) : Heap.set H b o c = if c = b then some o else H c := rfl
end Go.Am
