/- A law by a run that was reckoned. No condition. -/
import Derived.Test.YtmephnenbboecaaAmV
import Derived.Below
set_option linter.unusedVariables false
set_option linter.unusedSimpArgs false
namespace Go.Am
open Go.RowKit (Below)
noncomputable section

def setsC (p : Nat × Value) (_ : List (Nat × Value)) (ih : Tr Value → Option (Tr Value)) (ρ : Tr Value) : Option (Tr Value) := obind (setV ρ p.1 (some p.2)) ih
def setsF : List (Nat × Value) → Tr Value → Option (Tr Value) := @List.rec (Nat × Value) (fun _ => Tr Value → Option (Tr Value)) some setsC

/-- A function's end: it returned true, and nothing was taken for granted. -/
def okR (res : List ARes) (r : XR) : Bool :=
  Option.rec false (fun v => Option.rec false (fun b => b) (asBool v))
    (obind2 r fun e p => AExit.rec (obind (resF p.1 p.2 res) fun v => List.rec (some v) (fun _ _ _ => none) p.2.obl) (obind (resF p.1 p.2 res) fun v => List.rec (some v) (fun _ _ _ => none) p.2.obl) (fun _ => none) e)

def fstSeq : ACode → ACode := @ACode.rec (fun _ => ACode) .skip .ret .exit .region .draw (fun a _ _ _ => a) (fun c a b _ _ => .cond c a b) (fun i a _ => .block i a) (fun a _ => .loop a)
def sndSeq : ACode → ACode := @ACode.rec (fun _ => ACode) .skip .ret .exit .region .draw (fun _ b _ _ => b) (fun c a b _ _ => .cond c a b) (fun i a _ => .block i a) (fun a _ => .loop a)
end

theorem okR_use {res : List ARes} {r : XR} (h : okR res r = true) : ∃ e ρ s, r = some (e, ρ, s) ∧ (e = .normal ∨ e = .ret) ∧ resX ρ s res = some (.bool true) ∧ s.obl = [] := by
  unfold okR at h
  cases hr : (obind2 r fun e p => AExit.rec (obind (resF p.1 p.2 res) fun v => List.rec (some v) (fun _ _ _ => none) p.2.obl) (obind (resF p.1 p.2 res) fun v => List.rec (some v) (fun _ _ _ => none) p.2.obl) (fun _ => none) e : Option Value) with
  | none => rw [hr] at h; cases h
  | some v =>
    rw [hr] at h
    have hv : v = .bool true := by
      cases hb : asBool v with
      | none => simp only [hb] at h; cases h
      | some b => simp only [hb] at h; have h : b = true := h; rw [h] at hb; exact asBool_some hb
    subst hv
    obtain ⟨e, p, h1, h2⟩ := obind2_some hr
    obtain ⟨ρ, s⟩ := p
    have fin : (obind (resF ρ s res) fun v => List.rec (some v) (fun _ _ _ => none) s.obl) = some (.bool true) → resX ρ s res = some (.bool true) ∧ s.obl = [] := by
      intro h3
      obtain ⟨v, h4, h5⟩ := obind_some h3
      cases ho : s.obl with
      | nil => rw [ho] at h5; injection h5 with h5; subst h5; exact ⟨resF_some h4, rfl⟩
      | cons _ _ => rw [ho] at h5; cases h5
    cases e with
    | normal => exact ⟨_, ρ, s, h1, .inl rfl, (fin h2).1, (fin h2).2⟩
    | ret => exact ⟨_, ρ, s, h1, .inr rfl, (fin h2).1, (fin h2).2⟩
    | exit i => cases h2

theorem sets_ok {σ : Ren} : ∀ {l : List (Nat × Value)} {ρ ρ2 : Tr Value} {ρ' : Env}, setsF l ρ = some ρ2 → ER σ ρ ρ' → (l.all fun p => leafB p.2) = true → ER σ ρ2 (l.foldl (fun e p => e.set p.1 p.2) ρ')
  | [], ρ, ρ2, ρ', h, hρ, _ => by injection h with h; subst h; exact hρ
  | (d, v) :: l, ρ, ρ2, ρ', h, hρ, hl => by
    simp only [List.all_cons, Bool.and_eq_true] at hl
    obtain ⟨ρ1, h1, h2⟩ := obind_some (show obind (setV ρ d (some v)) (setsF l) = some ρ2 from h)
    rw [setV_eq] at h1
    exact sets_ok (l := l) h2 (hρ.put (d := some d) (leaf_ok hl.1) (by simpa [putT] using h1)) hl.2

theorem img_empty (H : Heap) : Img [] St.empty H where
  next := rfl
  has := fun b w B h => by have h : (none : Option (Nat × Blk)) = some (w, B) := h; cases h
  inj := fun b c B C r k l h => by have h : (none : Option (Nat × Blk)) = some B := h; cases h

/-- The rest of a law, behind some temporaries. -/
theorem wp_of_run {P : Program} {ext : FuncId → List Value → Option Value} {tbl : Tr AFunc} (ht : TblOk P ext tbl) {fuel n : Nat} {c : ACode} (hc : okC c = true) {res : List ARes} {args : List Value} {l : List (Nat × Value)} (ha : args.all leafB = true) (hl : (l.all fun p => leafB p.2) = true)
    (h : okR res (obind (fillF args 0 (Tr.full 10)) fun ρ => obind (setsF l ρ) fun ρ => execF (runF ext tbl fuel n) fuel c ρ St.empty) = true) {H : Heap} :
    wpA P c (retK res fun v _ => v = .bool true) (l.foldl (fun e p => e.set p.1 p.2) (envOf args)) H := by
  obtain ⟨e, ρ2, s, h1, h2, h3, h4⟩ := okR_use h
  obtain ⟨ρ, h5, h6⟩ := obind_some h1
  obtain ⟨ρ1, h7, h8⟩ := obind_some h6
  refine code_of_run ht hc h8 (fun p hp => by rw [h4] at hp; cases hp) (sets_ok h7 (fill_env (fillF_some h5) (leafs_ok ha)) hl) (img_empty H) ?_
  intro σ' ρ' H' _ hρ hi
  obtain ⟨v', h9, h10⟩ := res_ok hρ hi h3
  cases h10
  rcases h2 with rfl | rfl <;> simp only [retK, h9]

theorem Trans.below {w w' : World} {H' : Heap} (h : Trans (fun _ => none) w H' w') : Below w.heap.size w w' :=
  ⟨h.os, h.tape, h.output, h.size, fun k hk => h.frame k hk (by rintro ⟨B, hB, _⟩; cases hB)⟩

theorem fits_none (w : World) : Fits (fun _ => none) w := fun _ _ h => by cases h
end Go.Am
