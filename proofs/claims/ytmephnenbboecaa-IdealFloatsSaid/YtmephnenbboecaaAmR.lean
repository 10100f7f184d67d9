/- A law over what comes in: rows for reading; a reading holds behind a call that only makes memory. No condition. -/
import Derived.Test.YtmephnenbboecaaAmQ
import Derived.WalkKit
import Derived.ProofKit
import Derived.OpenShut
import Derived.Below
import Derived.ChangeReads
import Derived.ChangeSlices
set_option linter.unusedVariables false
namespace Go.Am
open Go.ChangeShapes Go.WideShapes Go.ChangeAt Go.RowKit

/-- Types whose reading counts places: slices of no cells are shut out. -/
def posT (P : Program) : Nat → TypeId → Bool
  | 0, _ => true
  | n + 1, t =>
    match P.underlying t with
    | some (.pointer e) => posT P n e
    | some (.slice e) => decide (P.cellsOf e ≠ 0) && posT P n e
    | some (.struct fs) => fs.toList.all fun f => posT P n f.type
    | some (.array _ e) => posT P n e
    | some (.map _ _) => false
    | _ => true

theorem mapM_imp {α β : Type} {f g : α → Option β} : ∀ {l : List α} {ys : List β}, l.mapM f = some ys → (∀ x ∈ l, ∀ y ∈ ys, f x = some y → g x = some y) → l.mapM g = some ys
  | [], ys, h, _ => by simpa using h
  | x :: l, ys, h, hfg => by
    simp only [List.mapM_cons, Option.pure_def, Option.bind_eq_bind, Option.bind_eq_some_iff] at h
    obtain ⟨y, h1, zs, h2, h3⟩ := h
    injection h3 with h3; subst h3
    have e1 := hfg x (List.mem_cons_self ..) y (List.mem_cons_self ..) h1
    have e2 := mapM_imp h2 fun x' hx' y' hy' => hfg x' (List.mem_cons_of_mem _ hx') y' (List.mem_cons_of_mem _ hy')
    simp only [List.mapM_cons, e1, e2]
    rfl

theorem cells_grown {W W' : World} (hg : ∀ k, k < W.heap.size → W'.heap[k]? = W.heap[k]?) {base : Nat} {a : Addr} {n : Nat} {cs : List Value} (h : W.cells? base a n = some cs) : W'.cells? base a n = some cs := by
  unfold World.cells? at h ⊢
  split at h
  · rename_i hb
    rw [if_pos hb]
    refine mapM_imp h fun i _ y _ hy => ?_
    have hadd : (a.add i).block = a.block := block_add a i
    unfold World.cell? at hy ⊢
    have hlt : (a.add i).block < W.heap.size := by
      cases hh : W.heap[(a.add i).block]? with
      | none => rw [hh] at hy; cases hy
      | some o => exact (Array.getElem?_eq_some_iff.1 hh).1
    rw [hg _ hlt]; exact hy
  · cases h

theorem mem_row {a : Addr} {n : Nat} (hn : 0 < n) : ∃ p ∈ MemPlace.row a n, p.block = a.block := by
  refine ⟨.cell a.block (a.off + 0), ?_, rfl⟩
  unfold MemPlace.row
  exact List.mem_map.2 ⟨0, List.mem_range.2 hn, rfl⟩

section
variable {H : Type} {enc : TypeId × Value → H} {P : Program}

theorem trod_grown {W W' : World} (hg : ∀ k, k < W.heap.size → W'.heap[k]? = W.heap[k]?) : ∀ (n : Nat) (t : TypeId) (cs : List Value) (x : DataW H × List MemPlace), posT P n t = true →
    DataW.trod enc P W 0 (fun _ => true) true n t cs = some x → ∀ sp : Nat → Bool, (∀ p ∈ x.2, sp p.block = true) → DataW.trod enc P W' 0 sp true n t cs = some x
  | 0, _, _, _, _, h, _, _ => by cases h
  | n + 1, t, cs, x, ht, h, sp, hsp => by
    rw [DataW.trod_step] at h ⊢
    unfold posT at ht
    unfold DataW.trodStep at h ⊢
    split at h <;> first | exact h | (cases h; done) | skip
    · -- pointer
      rename_i e a hu
      rw [hu] at ht
      simp only [Option.map_eq_some_iff, Option.bind_eq_some_iff] at h ⊢
      obtain ⟨y, ⟨cs', h1, h2⟩, rfl⟩ := h
      exact ⟨y, ⟨cs', cells_grown hg h1, trod_grown hg n e cs' y ht h2 sp fun p hp => hsp p (List.mem_append_right _ hp)⟩, rfl⟩
    · -- slice
      rename_i e a len cap hu
      rw [hu] at ht
      simp only [Bool.and_eq_true, decide_eq_true_eq] at ht
      simp only at h ⊢
      split at h <;> first | (cases h; done) | skip
      rename_i hb
      rw [if_pos hb]
      simp only [Option.bind_eq_some_iff, Option.map_eq_some_iff, if_true] at h ⊢
      obtain ⟨elems, h1, rest, h2, rfl⟩ := h
      have hl1 : elems.length = len := by simpa using mapM_some_length h1
      have hl2 : rest.length = cap - len := by simpa using mapM_some_length h2
      have each : ∀ i y, y ∈ elems ++ rest → (W.cells? 0 (a.add (i * P.cellsOf e)) (P.cellsOf e)).bind (DataW.trod enc P W 0 (fun _ => true) true n e) = some y →
          (W'.cells? 0 (a.add (i * P.cellsOf e)) (P.cellsOf e)).bind (DataW.trod enc P W' 0 sp true n e) = some y := by
        intro i y hy hh
        simp only [Option.bind_eq_some_iff] at hh ⊢
        obtain ⟨cs', g1, g2⟩ := hh
        exact ⟨cs', cells_grown hg g1, trod_grown hg n e cs' y ht.2 g2 sp fun p hp => hsp p (List.mem_append_right _ (List.mem_flatMap.2 ⟨y, hy, hp⟩))⟩
      refine ⟨elems, mapM_imp h1 fun i _ y hy hh => each i y (List.mem_append_left _ hy) hh, rest, ?_, rfl⟩
      by_cases hc : cap - len = 0
      · rw [hc] at h2 ⊢
        simp only [List.range_zero, List.mapM_nil, Option.pure_def, Option.some.injEq] at h2 ⊢
        subst h2
        split <;> rfl
      · have hpos : 0 < (elems.length + rest.length) * P.cellsOf e := Nat.mul_pos (by omega) (by omega)
        obtain ⟨p, hp, hpb⟩ := mem_row (a := a) hpos
        have := hsp p (List.mem_append_left _ hp)
        rw [hpb] at this
        rw [if_pos this]
        exact mapM_imp h2 fun i _ y hy hh => each (len + i) y (List.mem_append_right _ hy) hh
    · -- struct
      rename_i fs hu
      rw [hu] at ht
      simp only [List.all_eq_true] at ht
      split at h <;> first | (cases h; done) | skip
      rename_i hl
      rw [if_pos hl]
      simp only [Option.map_eq_some_iff] at h ⊢
      obtain ⟨xs, h1, rfl⟩ := h
      refine ⟨xs, mapM_imp h1 fun f hf y hy hh => trod_grown hg n f.type _ y (ht f hf) hh sp fun p hp => hsp p (List.mem_flatMap.2 ⟨y, hy, hp⟩), rfl⟩
    · -- array
      rename_i m e hu
      rw [hu] at ht
      split at h <;> first | (cases h; done) | skip
      rename_i hl
      rw [if_pos hl]
      simp only [Option.map_eq_some_iff] at h ⊢
      obtain ⟨xs, h1, rfl⟩ := h
      refine ⟨xs, mapM_imp h1 fun i hi y hy hh => trod_grown hg n e _ y ht hh sp fun p hp => hsp p (List.mem_flatMap.2 ⟨y, hy, hp⟩), rfl⟩
    · -- map
      rename_i hu
      rw [hu] at ht; cases ht

theorem trodAll_grown {W W' : World} (hg : ∀ k, k < W.heap.size → W'.heap[k]? = W.heap[k]?) : ∀ {ts : List TypeId} {vs : List Value} {ds : List (DataW H)} {ps : List MemPlace}, (∀ t ∈ ts, ∀ n, posT P n t = true) →
    DataW.TrodAll enc P W 0 (fun _ => true) true ts vs ds ps → ∀ sp : Nat → Bool, (∀ p ∈ ps, sp p.block = true) → DataW.TrodAll enc P W' 0 sp true ts vs ds ps
  | [], [], [], _, _, h, _, _ => h
  | t :: ts, v :: vs, d :: ds, ps, ht, h, sp, hsp => by
    obtain ⟨p, q, ⟨n, h1⟩, h2, rfl⟩ := h
    exact ⟨p, q, ⟨n, trod_grown hg n t _ _ (ht t (List.mem_cons_self ..) n) h1 sp fun r hr => hsp r (List.mem_append_left _ hr)⟩, trodAll_grown hg (fun t' ht' => ht t' (List.mem_cons_of_mem _ ht')) h2 sp fun r hr => hsp r (List.mem_append_right _ hr), rfl⟩
  | [], _ :: _, _, _, _, h, _, _ => by cases h
  | [], [], _ :: _, _, _, h, _, _ => by cases h
  | _ :: _, [], _, _, _, h, _, _ => by cases h
  | _ :: _, _ :: _, [], _, _, h, _, _ => by cases h

/-- A law's answer: true, and the arguments read as they did. -/
theorem post_true {f : Func} {s : ChangeSpec} {handsOn : Bool} {bt : TypeId} (hbt : P.underlying bt = some .bool) (hrt : f.resultTypes = #[bt]) (hvars : s.vars = []) (hpos : ∀ t ∈ f.params.toList, ∀ n, posT P n t = true) {W W' : World} {args : Array Value} {ds gs : List (DataW H)} {before : List MemPlace}
    (hW : DataW.Whole enc P f.params.toList s.vars false W args.toList ds gs before) (hfn : s.fn H (ds ++ gs) = { results := [.lit (.bool true)], args := ds }) (bel : Below W.heap.size W W') :
    s.post enc P f false true handsOn false W args (.bool true) W' := by
  have hW' := hW
  obtain ⟨p, q, hA, hV, hps, hfz, hnd⟩ := hW
  rw [hvars] at hV
  obtain ⟨rfl, rfl⟩ := trodVars_none hV
  simp only [List.append_nil] at hps
  subst hps
  refine ⟨_, _, _, [], before, [], hW', ?_, ?_, ?_, bel.frame _, fun h => by cases h⟩
  · rw [hfn, hrt]
    exact trodAll_mk1 (shut_bool hbt _)
  · rw [hfn]
    exact trodAll_grown (fun k hk => bel.block k hk) hpos hA _ fun p hp => by simpa using hW'.lt p hp
  · rw [hvars, hfn]; rfl
end

theorem Trans.inH {w w' : World} {H' : Heap} (h : Trans (inH w) w H' w') : Below w.heap.size w w' :=
  ⟨h.os, h.tape, h.output, h.size, fun k hk => h.frame k hk (inH_ro w k)⟩

/-- A slice of whole numbers that came in. -/
theorem rdR_ints {H : Type} {enc : TypeId × Value → H} {P : Program} {W : World} {base : Nat} {t e : TypeId} {k : IntKind} {v : Value} {d : DataW H} {ps : List MemPlace} (ht : P.underlying t = some (.slice e)) (he : P.underlying e = some (.int k)) (hc : P.cellsOf e = 1)
    (hval : Value.okWide P W .any base t v) (h : DataW.Trod enc P W 0 (fun _ => true) true t v d ps) (hmax : ∀ elems spare, d = .slice elems spare → elems.length ≤ 140737488355328) :
    ∃ zs : List Int, RdR (inH W) 1 zs.length v (zs.map (Value.int k)) ∧ (∀ z ∈ zs, (Lit.int k z).wf = true) ∧ ((v = .slice none 0 0 ∧ zs = []) ∨ ∃ b o n c, v = .slice (some ⟨b, o, none⟩) n c) ∧ (∃ elems spare, elems.length = zs.length ∧ (d = .slice elems spare ∨ zs = [])) := by
  obtain ⟨fuel, h⟩ := h
  have hcells : v.cells.toList = [v] := by
    simp only [Value.okWide, ht] at hval
    unfold Cell.okWide at hval
    rw [ht] at hval
    cases v <;> first | rfl | (simp [Cell.ok, ht] at hval)
  rw [hcells] at h
  rcases open_ints ht he hc h with ⟨h1, h2⟩ | ⟨a, len, cap, zs, h1, _, hl, hm, hz, hx, hcell, hw⟩
  · injection h1 with h1; subst h1
    exact ⟨[], ⟨by simp, by simp, none, 0, rfl, by simp, (fun _ h => by cases h), fun h => absurd (by simp) h⟩, by simp, .inl ⟨rfl, rfl⟩, [], [], rfl, .inr rfl⟩
  · injection h1 with h1; subst h1
    simp only [Value.okWide, ht] at hval
    unfold Cell.okWide at hval
    rw [ht] at hval
    simp only [Cell.ok, ht] at hval
    obtain ⟨_, _, hh⟩ := hval
    have hspot : a.spot = none := hh.2.1
    obtain ⟨b, o, sp⟩ := a
    simp only at hspot
    subst hspot
    simp only [if_true] at hz
    have htl : (zs.take len).length = len := by rw [List.length_take]; omega
    have hx' := congrArg Prod.fst hx
    simp only at hx'
    have hlm : len ≤ 140737488355328 := by
      have h3 := hmax _ _ hx'
      rw [lits, List.length_map, htl] at h3
      exact h3
    refine ⟨zs.take len, ⟨by simp, by rw [htl]; exact hlm, some ⟨b, o, none⟩, cap, by rw [htl], by rw [htl]; exact hl, fun _ h => by injection h with h; subst h; rfl, fun hne => ?_⟩, fun z hzz => hw z (List.mem_of_mem_take hzz), .inr ⟨b, o, len, cap, rfl⟩, _, _, ?_, .inl hx'⟩
    · rw [htl] at hne ⊢
      have h0 := hcell 0 (by omega)
      rw [Addr.add_lit] at h0
      obtain ⟨e0, cs0, g1, g2⟩ := inH_cell h0
      refine ⟨b, o, e0, cs0, rfl, g1, fun j hj => ?_⟩
      have hj' := hcell j (by omega)
      rw [Addr.add_lit] at hj'
      obtain ⟨e1, cs1, g3, g4⟩ := inH_cell hj'
      rw [g1] at g3
      injection g3 with g3; injection g3 with _ _ g3; subst g3
      rw [g4, List.getElem?_map, List.getElem?_take, if_pos (by omega)]
      rw [List.getD, List.getElem?_eq_getElem (show j < zs.length by omega)]
      rfl
    · simp [lits]
end Go.Am
