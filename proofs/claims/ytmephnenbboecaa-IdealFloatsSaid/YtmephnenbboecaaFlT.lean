/- Floats: the table for the interpreter. No condition. -/
import Derived.Test.YtmephnenbboecaaFlC
import Derived.Test.YtmephnenbboecaaRcT
import Derived.Test.YtmephnenbboecaaAmT
set_option maxRecDepth 100000
set_option linter.unusedVariables false
namespace Go.Am
noncomputable section
/-- A function's end: its answer, and what was taken for granted. -/
def outR (res : List ARes) (r : XR) : Option (Value × List (Value × Bool)) :=
  obind2 r fun e p => AExit.rec (obind (resF p.1 p.2 res) fun v => some (v, p.2.obl)) (obind (resF p.1 p.2 res) fun v => some (v, p.2.obl)) (fun _ => none) e
end

theorem outR_use {res : List ARes} {r : XR} {v : Value} {ob : List (Value × Bool)} (h : outR res r = some (v, ob)) : ∃ e ρ s, r = some (e, ρ, s) ∧ (e = .normal ∨ e = .ret) ∧ resX ρ s res = some v ∧ s.obl = ob := by
  obtain ⟨e, p, h1, h2⟩ := obind2_some h
  obtain ⟨ρ, s⟩ := p
  have fin : (obind (resF ρ s res) fun v => some (v, s.obl)) = some (v, ob) → resX ρ s res = some v ∧ s.obl = ob := by
    intro h3
    obtain ⟨u, h4, h5⟩ := obind_some h3
    injection h5 with h5; injection h5 with e1 e2; subst e1; subst e2
    exact ⟨resF_some h4, rfl⟩
  cases e with
  | normal => exact ⟨_, ρ, s, h1, .inl rfl, (fin h2).1, (fin h2).2⟩
  | ret => exact ⟨_, ρ, s, h1, .inr rfl, (fin h2).1, (fin h2).2⟩
  | exit i => cases h2

/-- The rest of a law, behind some temporaries, with what was taken for granted. -/
theorem wp_of_runO {P : Program} {ext : FuncId → List Value → Option Value} {tbl : Tr AFunc} (ht : TblOk P ext tbl) {fuel n : Nat} {c : ACode} (hc : okC c = true) {res : List ARes} {args : List Value} {l : List (Nat × Value)} (ha : args.all leafB = true) (hl : (l.all fun p => leafB p.2) = true)
    {orc : List (Nat × Bool)} {ob : List (Value × Bool)} (hob : ∀ p ∈ ob, p.1 = .bool p.2)
    (h : outR res (obind (fillF args 0 (Tr.full 10)) fun ρ => obind (setsF l ρ) fun ρ => execF (runF ext tbl fuel n) fuel c ρ ⟨.nil, 0, 0, orc, []⟩) = some (.bool true, ob)) {H : Heap} :
    wpA P c (retK res fun v _ => v = .bool true) (l.foldl (fun e p => e.set p.1 p.2) (envOf args)) H := by
  obtain ⟨e, ρ2, s, h1, h2, h3, h4⟩ := outR_use h
  obtain ⟨ρ, h5, h6⟩ := obind_some h1
  obtain ⟨ρ1, h7, h8⟩ := obind_some h6
  refine code_of_run ht hc h8 (fun p hp => hob p (by rw [← h4]; exact hp)) (sets_ok h7 (fill_env (fillF_some h5) (leafs_ok ha)) hl) (Img.orc (img_empty H) rfl rfl) ?_
  intro σ' ρ' H' _ hρ hi
  obtain ⟨v', h9, h10⟩ := res_ok hρ hi h3
  cases h10
  rcases h2 with rfl | rfl <;> simp only [retK, h9]
end Go.Am

namespace Go.Am.Try
open Go.Proofs Go.Am Go.Am.Fl

def ar2 (args : List Value) (k : Int → Int → Value) : Option Value :=
  match args with
  | [.int .u64 a, .int .u64 b] => some (k a b)
  | _ => none
def ar1 (args : List Value) (k : Int → Value) : Option Value :=
  match args with
  | [.int .u64 a] => some (k a)
  | _ => none

def extF (f : FuncId) (args : List Value) : Option Value :=
  bif Nat.blt 72 f then none else
  bif Nat.beq f 14 then ar2 args fun a b => .int .u64 (fAr .add a b) else
  bif Nat.beq f 15 then ar2 args fun a b => .int .u64 (fAr .sub a b) else
  bif Nat.beq f 16 then ar2 args fun a b => .int .u64 (fAr .mul a b) else
  bif Nat.beq f 17 then ar2 args fun a b => .int .u64 (fAr .quo a b) else
  bif Nat.beq f 18 then ar1 args fun a => .int .i64 (fClsG a) else
  bif Nat.beq f 21 then ar1 args fun a => .int .i64 (fToI a) else
  bif Nat.beq f 47 then ar1 args fun a => .int .u64 (fCan a) else
  bif Nat.beq f 72 then ar2 args fun a b => .bool (fEq a b) else none

theorem ar2_some {args : List Value} {k : Int → Int → Value} {v : Value} (h : ar2 args k = some v) : ∃ a b, args = [.int .u64 a, .int .u64 b] ∧ v = k a b := by
  unfold ar2 at h
  split at h <;> first | (cases h; done) | skip
  injection h with h; exact ⟨_, _, rfl, h.symm⟩
theorem ar1_some {args : List Value} {k : Int → Value} {v : Value} (h : ar1 args k = some v) : ∃ a, args = [.int .u64 a] ∧ v = k a := by
  unfold ar1 at h
  split at h <;> first | (cases h; done) | skip
  injection h with h; exact ⟨_, rfl, h.symm⟩

theorem vrs_2 {σ : Ren} {a b : Int} {l : List Value} (h : VRs σ [.int .u64 a, .int .u64 b] l) : l = [.int .u64 a, .int .u64 b] := by
  cases h with
  | cons _ y _ ys h hs =>
    cases h
    cases hs with
    | cons _ y _ ys h hs => cases h; cases hs; rfl
theorem vrs_1 {σ : Ren} {a : Int} {l : List Value} (h : VRs σ [.int .u64 a] l) : l = [.int .u64 a] := by
  cases h with
  | cons _ y _ ys h hs => cases h; cases hs; rfl

theorem ext2 {f : FuncId} {args : List Value} {k : Int → Int → Value} {v : Value} (hk : ∀ σ a b, VR σ (k a b) (k a b)) (hc : ∀ a b H, ACalls Try.prog f [.int .u64 a, .int .u64 b] H fun v H' => v = k a b ∧ H' = H) (h : ar2 args k = some v) (σ : Ren) (args' : List Value) (H : Heap) (ha : VRs σ args args') :
    ACalls Try.prog f args' H fun v' H' => VR σ v v' ∧ H' = H := by
  obtain ⟨a, b, rfl, rfl⟩ := ar2_some h
  rw [vrs_2 ha]
  exact (hc a b H).mono fun v' H' ⟨h1, h2⟩ => ⟨by rw [h1]; exact hk σ a b, h2⟩
theorem ext1 {f : FuncId} {args : List Value} {k : Int → Value} {v : Value} (hk : ∀ σ a, VR σ (k a) (k a)) (hc : ∀ a H, ACalls Try.prog f [.int .u64 a] H fun v H' => v = k a ∧ H' = H) (h : ar1 args k = some v) (σ : Ren) (args' : List Value) (H : Heap) (ha : VRs σ args args') :
    ACalls Try.prog f args' H fun v' H' => VR σ v v' ∧ H' = H := by
  obtain ⟨a, rfl, rfl⟩ := ar1_some h
  rw [vrs_1 ha]
  exact (hc a H).mono fun v' H' ⟨h1, h2⟩ => ⟨by rw [h1]; exact hk σ a, h2⟩

theorem tblF_ok : TblOk Try.prog extF tbl where
  mixed := mixT
  run := tbl_ok.run
  ext := fun f args v h => by
    unfold extF at h
    simp only [cond_eq_ite] at h
    split at h <;> first | (cases h; done) | skip
    split at h
    · rename_i hf; have hf := Nat.eq_of_beq_eq_true hf; subst hf; exact ext2 (fun σ a b => .int _ _) add_ok h
    split at h
    · rename_i hf; have hf := Nat.eq_of_beq_eq_true hf; subst hf; exact ext2 (fun σ a b => .int _ _) sub_ok h
    split at h
    · rename_i hf; have hf := Nat.eq_of_beq_eq_true hf; subst hf; exact ext2 (fun σ a b => .int _ _) mul_ok h
    split at h
    · rename_i hf; have hf := Nat.eq_of_beq_eq_true hf; subst hf; exact ext2 (fun σ a b => .int _ _) div_ok h
    split at h
    · rename_i hf; have hf := Nat.eq_of_beq_eq_true hf; subst hf; exact ext1 (fun σ a => .int _ _) class_ok h
    split at h
    · rename_i hf; have hf := Nat.eq_of_beq_eq_true hf; subst hf; exact ext1 (fun σ a => .int _ _) toInt_ok h
    split at h
    · rename_i hf; have hf := Nat.eq_of_beq_eq_true hf; subst hf; exact ext1 (fun σ a => .int _ _) canon_ok h
    split at h
    · rename_i hf; have hf := Nat.eq_of_beq_eq_true hf; subst hf; exact ext2 (fun σ a b => .bool _) equal_ok h
    · cases h
end Go.Am.Try
