/- Slices that are read, and slices that are one's own. No condition. -/
import Derived.Test.YtmephnenbboecaaAmO
namespace Go.Am

/-- The number of a value. -/
def iOf : Value → Int
  | .int _ n => n
  | _ => 0
theorem iOf_int (k : IntKind) (n : Int) : iOf (.int k n) = n := rfl

/-- v is a slice of n elements, st cells each, that can be read: the cells cs. -/
def Rd (H : Heap) (st n : Nat) (v : Value) (cs : List Value) : Prop :=
  cs.length = n * st ∧ n ≤ 140737488355328 ∧ ∃ a c, v = .slice a n c ∧ n ≤ c ∧ (∀ ad, a = some ad → ad.spot = none) ∧
    (n * st ≠ 0 → ∃ b o r e row, a = some ⟨b, o, none⟩ ∧ H b = some (.row r e row) ∧ ∀ j, j < n * st → row[o + j]? = cs[j]?)

theorem Rd.mono {H H' : Heap} {st n : Nat} {v : Value} {cs : List Value} (h : Rd H st n v cs) (hh : ∀ b B, H b = some B → H' b = some B) : Rd H' st n v cs := by
  obtain ⟨h1, h2, a, c, h3, h4, h7, h6⟩ := h
  exact ⟨h1, h2, a, c, h3, h4, h7, fun hn => let ⟨b, o, r, e, row, g1, g2, g3⟩ := h6 hn; ⟨b, o, r, e, row, g1, hh _ _ g2, g3⟩⟩

theorem Rd.len {H : Heap} {st n : Nat} {v : Value} {cs : List Value} (h : Rd H st n v cs) : lenV false v = some (.int .i64 n) := by
  obtain ⟨_, _, a, c, rfl, _⟩ := h; rfl

/-- The place of a cell of an element. -/
def cellAt (v : Value) (st i j : Nat) : Value :=
  match v with
  | .slice (some ⟨b, o, none⟩) _ _ => .pointer (some ⟨b, o + i * st + j, none⟩)
  | _ => .pointer none

theorem Rd.idx {H : Heap} {st n : Nat} {v : Value} {cs : List Value} (h : Rd H st n v cs) {k : IntKind} {i : Int} (h0 : 0 ≤ i) (h1 : i < (n : Int)) (hst : st ≠ 0) : idxSlV st v (.int k i) = some (cellAt v st i.toNat 0) := by
  obtain ⟨_, _, a, c, rfl, _, _, h6⟩ := h
  have hn : n * st ≠ 0 := Nat.mul_ne_zero (by omega) hst
  obtain ⟨b, o, r, e, row, rfl, _⟩ := h6 hn
  simp [idxSlV, h0, h1, cellAt]

theorem Rd.field {H : Heap} {st n : Nat} {v : Value} {cs : List Value} (h : Rd H st n v cs) {i : Nat} (h1 : i < n) (hst : st ≠ 0) (j k : Nat) : fieldAV k (cellAt v st i j) = some (cellAt v st i (j + k)) := by
  obtain ⟨_, _, a, c, rfl, _, _, h6⟩ := h
  have hn : n * st ≠ 0 := Nat.mul_ne_zero (by omega) hst
  obtain ⟨b, o, r, e, row, rfl, _⟩ := h6 hn
  simp [fieldAV, cellAt, Nat.add_assoc]

theorem Rd.nilck {H : Heap} {st n : Nat} {v : Value} {cs : List Value} (h : Rd H st n v cs) {i : Nat} (h1 : i < n) (hst : st ≠ 0) (j : Nat) : nilckV (cellAt v st i j) = some (cellAt v st i j) := by
  obtain ⟨_, _, a, c, rfl, _, _, h6⟩ := h
  have hn : n * st ≠ 0 := Nat.mul_ne_zero (by omega) hst
  obtain ⟨b, o, r, e, row, rfl, _⟩ := h6 hn
  simp [nilckV, cellAt]

theorem Rd.load {H : Heap} {st n : Nat} {v : Value} {cs : List Value} (h : Rd H st n v cs) {i j : Nat} (h1 : i < n) (hj : j < st) : load1V H (cellAt v st i j) = cs[i * st + j]? := by
  obtain ⟨_, _, a, c, rfl, _, _, h6⟩ := h
  have hlt : i * st + j < n * st := by
    have : (i + 1) * st ≤ n * st := Nat.mul_le_mul_right _ h1
    rw [Nat.succ_mul] at this
    omega
  obtain ⟨b, o, r, e, row, rfl, hb, hrow⟩ := h6 (by omega)
  simp only [cellAt, load1_ok hb]
  rw [← hrow _ hlt, Nat.add_assoc]

theorem Rd.loadN {H : Heap} {st n : Nat} {v : Value} {cs : List Value} (h : Rd H st n v cs) {i j m : Nat} (h1 : i < n) (hj : j + m ≤ st) (hm : 0 < m) : loadNV m H (cellAt v st i j) = some (.agg ((cs.drop (i * st + j)).take m).toArray) := by
  obtain ⟨hlen, _, a, c, rfl, _, hsp, h6⟩ := h
  have hlt : i * st + st ≤ n * st := by
    have : (i + 1) * st ≤ n * st := Nat.mul_le_mul_right _ h1
    rw [Nat.succ_mul] at this
    omega
  obtain ⟨b, o, r, e, row, rfl, hb, hrow⟩ := h6 (by omega)
  have hl : o + (i * st + j) + m ≤ row.length := by
    have := hrow (i * st + j + m - 1) (by omega)
    rw [List.getElem?_eq_getElem (l := cs) (by omega)] at this
    have := (List.getElem?_eq_some_iff.1 this).1
    omega
  simp only [cellAt, loadNV, Heap.row, hb]
  rw [if_pos (by omega)]
  congr 3
  apply List.ext_getElem?
  intro k
  simp only [List.getElem?_take, List.getElem?_drop]
  split
  · rw [← hrow (i * st + j + k) (by omega)]
    congr 1; omega
  · rfl

theorem Rd.nil (H : Heap) (st : Nat) : Rd H st 0 (.slice none 0 0) [] := ⟨by simp, by omega, none, 0, rfl, by omega, fun _ h => (by cases h), fun h => absurd (by simp) h⟩

theorem Rd.cells {H : Heap} {st n : Nat} {v : Value} {cs : List Value} (h : Rd H st n v cs) (hst : st ≠ 0) (h1 : allOne cs = true) : cellsOf H st v = some cs := by
  obtain ⟨hlen, _, a, c, rfl, _, hsp, h6⟩ := h
  by_cases hn : n = 0
  · subst hn
    have : cs = [] := List.eq_nil_of_length_eq_zero (by simpa using hlen)
    subst this
    cases a with
    | none => simp [cellsOf]
    | some a =>
      obtain ⟨b, o, sp⟩ := a
      cases sp with
      | none => simp [cellsOf]
      | some s => exact absurd (hsp _ rfl) (by simp)
  · obtain ⟨b, o, r, e, row, rfl, hb, hrow⟩ := h6 (Nat.mul_ne_zero hn hst)
    have hpos : 0 < n * st := Nat.pos_of_ne_zero (Nat.mul_ne_zero hn hst)
    have hl : o + n * st ≤ row.length := by
      have := hrow (n * st - 1) (by omega)
      rw [List.getElem?_eq_getElem (l := cs) (by omega)] at this
      have := (List.getElem?_eq_some_iff.1 this).1
      omega
    have hcs : (row.drop o).take (n * st) = cs := by
      apply List.ext_getElem?
      intro k
      simp only [List.getElem?_take, List.getElem?_drop]
      split
      · rename_i hk; exact hrow k hk
      · rename_i hk; rw [List.getElem?_eq_none (by omega)]
    simp only [cellsOf, Heap.row, hb]
    rw [if_neg (by omega), hcs, h1, if_pos ⟨hl, by simp⟩]

/-- v is a slice of n elements in block b, which is one's own. -/
def Own (H : Heap) (st n b : Nat) (v : Value) (xs : List Value) : Prop :=
  xs.length = n * st ∧ n ≤ 140737488355328 ∧ ((v = .slice none 0 0 ∧ n = 0) ∨
    ∃ o c e pre post, v = .slice (some ⟨b, o, none⟩) n c ∧ n ≤ c ∧ H b = some (.row true e (pre ++ xs ++ post)) ∧ (c ≠ 0 → pre.length = o) ∧ (c - n) * st ≤ post.length)

theorem Own.mono {H H' : Heap} {st n b : Nat} {v : Value} {xs : List Value} (h : Own H st n b v xs) (hh : ∀ B, H b = some B → H' b = some B) : Own H' st n b v xs := by
  obtain ⟨h1, h2, h3⟩ := h
  refine ⟨h1, h2, ?_⟩
  rcases h3 with h3 | ⟨o, c, e, pre, post, h4, h5, h7, h8, h9⟩
  · exact .inl h3
  · exact .inr ⟨o, c, e, pre, post, h4, h5, hh _ h7, h8, h9⟩

theorem Own.nil (H : Heap) (st b : Nat) : Own H st 0 b (.slice none 0 0) [] := ⟨by simp, by omega, .inl ⟨rfl, rfl⟩⟩

theorem Own.made {H : Heap} {st n b : Nat} {e : TypeId} {xs : List Value} (hb : H b = some (.row true e xs)) (hl : xs.length = n * st) (hn : n ≤ 140737488355328) : Own H st n b (.slice (some ⟨b, 0, none⟩) n n) xs :=
  ⟨hl, hn, .inr ⟨0, n, e, [], [], rfl, Nat.le_refl _, by simpa using hb, fun _ => rfl, by simp⟩⟩

theorem Own.rd {H : Heap} {st n b : Nat} {v : Value} {xs : List Value} (h : Own H st n b v xs) : Rd H st n v xs := by
  obtain ⟨h1, h2, h3⟩ := h
  rcases h3 with ⟨rfl, rfl⟩ | ⟨o, c, e, pre, post, rfl, h5, h7, h8, h9⟩
  · have : xs = [] := List.eq_nil_of_length_eq_zero (by simpa using h1)
    subst this
    exact Rd.nil H st
  · refine ⟨h1, h2, _, c, rfl, h5, fun ad ha => by injection ha with ha; subst ha; rfl, fun hn => ⟨b, o, true, e, _, rfl, h7, fun j hj => ?_⟩⟩
    have hn0 : n ≠ 0 := fun e0 => hn (by simp [e0])
    have ho := h8 (by omega)
    subst ho
    rw [List.append_assoc, List.getElem?_append_right (by omega), Nat.add_sub_cancel_left, List.getElem?_append_left (by omega)]

theorem app_own {e : TypeId} {bytes : Nat} {zero : List Value} {H : Heap} {st n m b : Nat} {v : Value} {xs news : List Value} {xa : Option Addr} {xc : Nat} {K : Value → Heap → Prop} (hz : zero.length = st)
    (h : Own H st n b v xs) (hx : cellsOf H st (.slice xa m xc) = some news) (hb : (n + m) * bytes ≤ 140737488355328) (hm : n + m ≤ 140737488355328)
    (hK : ∀ v' b' H', (b' = b ∨ H b' = none) → Own H' st (n + m) b' v' (xs ++ news) → (∀ c, c ≠ b' → H' c = H c) → (m ≠ 0 → ∃ e' cs, H' b' = some (.row true e' cs)) → K v' H') : appWp e bytes zero v (.slice xa m xc) H K := by
  obtain ⟨hlen, _⟩ := cellsOf_spec hx
  obtain ⟨h1, h2, h3⟩ := h
  unfold appWp
  rw [hz]
  simp only [hx]
  have hml : n + m ≤ maxLen := by unfold maxLen; omega
  rcases h3 with ⟨rfl, rfl⟩ | ⟨o, c, e', pre, post, rfl, h5, h7, h8, h9⟩
  · have : xs = [] := List.eq_nil_of_length_eq_zero (by simpa using h1)
    subst this
    simp only [and_self, if_true, Nat.zero_add] at *
    split
    · rename_i hm0
      subst hm0
      have hn0 : news = [] := List.eq_nil_of_length_eq_zero (by simpa using hlen)
      subst hn0
      exact hK _ b H (.inl rfl) (Own.nil H st b) (fun _ _ => rfl) (fun hh => absurd rfl hh)
    · rename_i hm0
      refine ⟨hb, hml, fun b' cap hb' hcap => hK _ b' _ (.inr hb') ?_ (fun c hc => Heap.set_ne _ _ _ _ hc) (fun _ => ⟨e, _, Heap.set_same _ _ _⟩)⟩
      exact ⟨hlen, hm, .inr ⟨0, cap, e, [], _, rfl, hcap, Heap.set_same _ _ _, fun _ => rfl, by rw [length_repl, hz]; omega⟩⟩
  · dsimp only
    split
    · rename_i hm0
      subst hm0
      have hn0 : news = [] := List.eq_nil_of_length_eq_zero (by simpa using hlen)
      subst hn0
      refine ⟨h5, hK _ b H (.inl rfl) ?_ (fun _ _ => rfl) (fun hh => absurd rfl hh)⟩
      have hown : Own H st n b (.slice (some ⟨b, o, none⟩) n c) xs := ⟨h1, h2, .inr ⟨o, c, e', pre, post, rfl, h5, h7, h8, h9⟩⟩
      rw [List.append_nil]
      exact hown
    · rename_i hm0
      refine ⟨fun hc => ?_, fun hc => ?_⟩
      · have ho := h8 (by omega)
        subst ho
        simp only [h7]
        have hmul : (c - n) * st = m * st + (c - (n + m)) * st := by rw [← Nat.add_mul]; congr 1; omega
        refine ⟨by simp only [List.length_append, h1, Nat.add_mul]; omega, hK _ b _ (.inl rfl) ?_ (fun c hc => Heap.set_ne _ _ _ _ hc) (fun _ => ⟨e', _, Heap.set_same _ _ _⟩)⟩
        refine ⟨by simp [h1, hlen, Nat.add_mul], hm, .inr ⟨pre.length, c, e', pre, post.drop (m * st), rfl, hc, ?_, fun _ => rfl, by simp; omega⟩⟩
        rw [Heap.set_same]
        congr 2
        unfold spliceL
        have e1 : (pre ++ xs ++ post).take (pre.length + n * st) = pre ++ xs := by
          rw [← h1, ← List.length_append]; exact List.take_left
        have e2 : (pre ++ xs ++ post).drop (pre.length + n * st + news.length) = post.drop (m * st) := by
          rw [hlen, ← h1, ← List.length_append, List.drop_append, List.drop_eq_nil_of_le (by omega)]
          simp
        rw [e1, e2]
        simp
      · refine ⟨hb, hml, ?_⟩
        have hrd : Rd H st n (.slice (some ⟨b, o, none⟩) n c) xs := Own.rd (b := b) ⟨h1, h2, .inr ⟨o, c, e', pre, post, rfl, h5, h7, h8, h9⟩⟩
        have hcells : cellsOf H st (.slice (some ⟨b, o, none⟩) n c) = some xs := by
          by_cases hst : st = 0
          · subst hst
            have : xs = [] := List.eq_nil_of_length_eq_zero (by simpa using h1)
            subst this
            simp [cellsOf]
          · by_cases hn : n = 0
            · subst hn
              have : xs = [] := List.eq_nil_of_length_eq_zero (by simpa using h1)
              subst this
              simp [cellsOf]
            · have ho := h8 (by omega)
              subst ho
              have hpos : n * st ≠ 0 := Nat.mul_ne_zero hn hst
              simp only [cellsOf, Heap.row, h7]
              rw [if_neg hpos, if_pos ⟨by simp only [List.length_append, h1]; omega, by simp [Heap.rwB, h7, Blk.rw]⟩]
              congr 1
              rw [List.append_assoc, List.drop_left, ← h1, List.take_left]
        simp only [hcells]
        intro b' cap hb' hcap
        refine hK _ b' _ (.inr hb') ?_ (fun c hc => Heap.set_ne _ _ _ _ hc) (fun _ => ⟨e, _, Heap.set_same _ _ _⟩)
        exact ⟨by simp [h1, hlen, Nat.add_mul], hm, .inr ⟨0, cap, e, [], _, rfl, hcap, Heap.set_same _ _ _, fun _ => rfl, by rw [length_repl, hz]; omega⟩⟩
end Go.Am
