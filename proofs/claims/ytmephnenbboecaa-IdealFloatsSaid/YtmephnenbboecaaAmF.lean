/- append and copy: the proofs that the model's operations do what the preconditions say. No condition. -/
import Derived.Test.YtmephnenbboecaaAmE
namespace Go.Am
section
variable {P : Program} {o : Oper} {ρ : Env} {H : Heap} {Q : Value → Heap → Prop}

/-- What is known of a slice's cells. -/
theorem cellsOf_spec {size : Nat} {xa : Option Addr} {m xc : Nat} {news : List Value} (h : cellsOf H size (.slice xa m xc) = some news) :
    news.length = m * size ∧ ∀ w, Fits H w → (∀ u ∈ news, u.oneCell' = true) ∧ (∀ a, xa = some a → ∀ j u, news[j]? = some u → w.cell? (a.add j) = some u) := by
  unfold cellsOf at h
  split at h <;> first | (cases h; done) | skip
  · rename_i n c heq
    injection heq with e1 e2 e3
    subst e1; subst e2
    split at h
    · rename_i h0; injection h with h; subst h; subst h0
      exact ⟨by simp, fun w _ => ⟨by simp, by intro a ha; cases ha⟩⟩
    · cases h
  · rename_i b off n c heq
    injection heq with e1 e2 e3
    subst e1; subst e2
    split at h
    · rename_i h0; injection h with h; subst h
      exact ⟨by simpa using h0.symm, fun w _ => ⟨by simp, by intro a _ j u hj; simp at hj⟩⟩
    · split at h
      · rename_i cs hb
        split at h
        · rename_i hl
          obtain ⟨hl, h1⟩ := hl
          injection h with h; subst h
          obtain ⟨r, e, hb⟩ := row_some hb
          refine ⟨by simp; omega, fun w hw => ⟨fun u hu => ?_, ?_⟩⟩
          · cases r with
            | true => exact hw.oneCell hb u (List.mem_of_mem_drop (List.mem_of_mem_take hu))
            | false => exact allOne_mem (by simpa [Heap.rwB, hb, Blk.rw] using h1) u hu
          intro a ha j u hj
          injection ha with ha; subst ha
          rw [Addr.add_lit, hw.cell hb]
          rw [List.getElem?_take, List.getElem?_drop] at hj
          split at hj
          · exact hj
          · cases hj
        · cases h
      · cases h

theorem run_firstCells_of {size : Nat} {xa : Option Addr} {m xc : Nat} {news : List Value} (h : cellsOf H size (.slice xa m xc) = some news) {w : World} (hw : Fits H w) :
    (Builtin.firstCells size m (.slice xa m xc)).run P w = .ok news.toArray w := by
  obtain ⟨hl, hs⟩ := cellsOf_spec h
  obtain ⟨_, hc⟩ := hs w hw
  cases xa with
  | none =>
    have hn : news = [] := by
      unfold cellsOf at h
      simp only at h
      split at h
      · injection h with h; exact h.symm
      · cases h
    subst hn
    simp [Builtin.firstCells]
  | some a =>
    simp only [Builtin.firstCells]
    rw [← hl]
    exact run_loadCells_list w a news (hc a rfl)

theorem tri_app {t e : TypeId} {s x : Operand} {i : TypeInfo} {z : Value} (ho : o.op = .call { callee := .builtin .append, args := #[s, x], argTypes := #[t, t] }) (ht : P.underlying t = some (.slice e)) (hi : P.info? e = some i) (hz : i.zero = some z)
    (hs : z.cells.size = i.size) (h1 : allOne z.cells.toList = true) (h : (WExp.app e i.bytes z.cells.toList s x).wp P ρ H Q) : Tri P o ρ H Q := by
  intro w hw
  have hsz : z.cells.toList.length = i.size := by simpa using hs
  simp only [WExp.wp] at h
  unfold appWp at h
  rw [hsz] at h
  split at h <;> first | exact h.elim | skip
  rename_i xa m xc hx
  split at h <;> first | exact h.elim | skip
  rename_i news hnews
  obtain ⟨hlen, hspec⟩ := cellsOf_spec hnews
  have hone := (hspec w hw).1
  have hfirst : ∀ w, Fits H w → (Builtin.firstCells i.size m (.slice xa m xc)).run P w = .ok news.toArray w := fun w hw => run_firstCells_of hnews hw
  have hexec : ∀ r, (Builtin.append_ #[t, t] o.type #[ev ρ s, ev ρ x]).run P w = r → (execOp (ev ρ) o).run P w = r.andThen fun v w' => .ok (.value v) w' := by
    intro r hr
    simp only [execOp, ho, resolve, invoke, builtin, Sem.run_bind, Sem.run_pure, Result.andThen_ok, List.map_toArray, List.map_cons, List.map_nil, hr]
  split at h <;> first | exact h.elim | skip
  · -- onto nil
    rename_i n c hsv
    split at h <;> first | exact h.elim | skip
    rename_i hnc
    obtain ⟨rfl, rfl⟩ := hnc
    split at h
    · rename_i hm
      subst hm
      have hn0 : news = [] := List.eq_nil_of_length_eq_zero (by simpa using hlen)
      subst hn0
      have hr : (Builtin.append_ #[t, t] o.type #[ev ρ s, ev ρ x]).run P w = .ok (.slice none 0 0) w := by
        rw [hsv, hx]
        simp [Builtin.append_, run_underlying ht, sizeOf, typeInfo, hi, Builtin.lenOf, hfirst w hw]
      unfold opRun
      rw [hexec _ hr]
      exact ⟨H, h, hw, Trans.refl H w⟩
    · rename_i hm
      obtain ⟨hb, hmax, h⟩ := h
      cases xa with
      | none =>
        exfalso
        unfold cellsOf at hnews
        simp [hm] at hnews
      | some a =>
        have hmax' : m ≤ 9223372036854775807 := by simpa only [maxLen] using hmax
        have hr := run_append_nil (P := P) w t o.type e i z ht hi hz a m xc news hlen ((hspec w hw).2 a rfl) (by omega) (by omega) (by omega)
        have hge := grownCap_ge w m 0 e
        unfold opRun
        rw [← hsv, ← hx] at hr
        rw [hexec _ hr]
        simp only [Result.andThen_ok]
        have hcs : news.toArray ++ Builtin.zeroCells z.cells (grownCap w m 0 e - m) = (news ++ repl (grownCap w m 0 e - m) z.cells.toList).toArray := by
          rw [zeroCells_repl]; simp
        rw [hcs]
        have hw' : Fits H w.drew := hw
        refine ⟨_, h w.heap.size (grownCap w m 0 e) hw.fresh hge, hw'.alloc ⟨rfl, ?_⟩, (Trans.drew H w (w.drawn + 1)).trans (Trans.alloc hw' _ _)⟩
        intro v hv
        rcases List.mem_append.1 hv with hv | hv
        · exact hone v hv
        · exact allOne_mem h1 v (mem_repl hv)
  · -- onto a slice that is none
    rename_i b off n c hsv
    split at h
    · rename_i hm
      subst hm
      obtain ⟨hnc, h⟩ := h
      have hn0 : news = [] := List.eq_nil_of_length_eq_zero (by simpa using hlen)
      subst hn0
      have hr : (Builtin.append_ #[t, t] o.type #[ev ρ s, ev ρ x]).run P w = .ok (.slice (some ⟨b, off, none⟩) n c) w := by
        rw [hsv, hx]
        simp [Builtin.append_, run_underlying ht, sizeOf, typeInfo, hi, Builtin.lenOf, hfirst w hw, hnc, storeCells]
      unfold opRun
      rw [hexec _ hr]
      exact ⟨H, h, hw, Trans.refl H w⟩
    · rename_i hm
      obtain ⟨hroom, hgrow⟩ := h
      by_cases hnc : n + m ≤ c
      · have h := hroom hnc
        split at h <;> first | exact h.elim | skip
        rename_i e' cs hb
        obtain ⟨hl, h⟩ := h
        have hst := run_storeCells_row (P := P) (w := w) hw (off := off + n * i.size) (vs := news) hb (by rw [hlen]; rw [Nat.add_mul] at hl; omega) hone
        have hr : (Builtin.append_ #[t, t] o.type #[ev ρ s, ev ρ x]).run P w = .ok (.slice (some ⟨b, off, none⟩) (n + m) c) (w.setRow b (spliceL cs (off + n * i.size) news).toArray) := by
          rw [hsv, hx]
          simp [Builtin.append_, run_underlying ht, sizeOf, typeInfo, hi, Builtin.lenOf, hfirst w hw, hnc, Addr.add_lit, hst]
        have hset := hw.setRow (cs' := spliceL cs (off + n * i.size) news) hb (mem_splice (hw.oneCell hb) hone)
        unfold opRun
        rw [hexec _ hr]
        exact ⟨_, h, hset.1, hset.2⟩
      · obtain ⟨hb, hmax, h⟩ := hgrow (by omega)
        have hmax' : n + m ≤ 9223372036854775807 := by simpa only [maxLen] using hmax
        split at h <;> first | exact h.elim | skip
        rename_i olds holds
        obtain ⟨hlo, hso⟩ := cellsOf_spec holds
        cases xa with
        | none =>
          exfalso
          unfold cellsOf at hnews
          simp [hm] at hnews
        | some a =>
          have hr := run_append_grow (P := P) w t o.type e i z ht hi hz ⟨b, off, none⟩ n c olds hlo ((hso w hw).2 _ rfl) a m xc news hlen ((hspec w hw).2 a rfl) (by omega) (by omega) (growslice_fits (by omega) hb)
          have hge := grownCap_ge w (n + m) c e
          unfold opRun
          rw [← hsv, ← hx] at hr
          rw [hexec _ hr]
          simp only [Result.andThen_ok]
          have hcs : olds.toArray ++ news.toArray ++ Builtin.zeroCells z.cells (grownCap w (n + m) c e - (n + m)) = (olds ++ news ++ repl (grownCap w (n + m) c e - (n + m)) z.cells.toList).toArray := by
            rw [zeroCells_repl]; simp
          rw [hcs]
          have hw' : Fits H w.drew := hw
          refine ⟨_, h w.heap.size (grownCap w (n + m) c e) hw.fresh hge, hw'.alloc ⟨rfl, ?_⟩, (Trans.drew H w (w.drawn + 1)).trans (Trans.alloc hw' _ _)⟩
          intro v hv
          rcases List.mem_append.1 hv with hv | hv
          · rcases List.mem_append.1 hv with hv | hv
            · exact (hso w hw).1 v hv
            · exact hone v hv
          · exact allOne_mem h1 v (mem_repl hv)

theorem tri_cpy {t e : TypeId} {ts : Array TypeId} {d s : Operand} {i : TypeInfo} (ho : o.op = .call { callee := .builtin .copy, args := #[d, s], argTypes := ts }) (hts : ts[0]? = some t) (ht : P.underlying t = some (.slice e)) (hi : P.info? e = some i)
    (h : (WExp.cpy i.size d s).wp P ρ H Q) : Tri P o ρ H Q := by
  intro w hw
  simp only [WExp.wp] at h
  unfold cpyWp at h
  split at h <;> first | exact h.elim | skip
  rename_i da dn dc sa sn sc hd hsv
  have hexec : ∀ r, (Builtin.copy_ ts o.type #[ev ρ d, ev ρ s]).run P w = r → (execOp (ev ρ) o).run P w = r.andThen fun v w' => .ok (.value v) w' := by
    intro r hr
    simp only [execOp, ho, resolve, invoke, builtin, Sem.run_bind, Sem.run_pure, Result.andThen_ok, List.map_toArray, List.map_cons, List.map_nil, hr]
  simp only at h
  split at h
  · rename_i h0
    have hf0 : ∀ (xa : Option Addr) (c : Nat), (Builtin.firstCells i.size (Nat.min sn dn) (.slice xa sn c)).run P w = .ok #[] w := by
      intro xa c
      cases xa with
      | none => simp [Builtin.firstCells]
      | some a => simp only [Builtin.firstCells, h0]; rfl
    have hr : (Builtin.copy_ ts o.type #[ev ρ d, ev ρ s]).run P w = .ok (.int .i64 (Nat.min sn dn)) w := by
      rw [hd, hsv]
      cases da with
      | none => simp [Builtin.copy_, hts, run_underlying ht, Builtin.lenOf, sizeOf, typeInfo, hi, hf0, goInt]
      | some a => simp [Builtin.copy_, hts, run_underlying ht, Builtin.lenOf, sizeOf, typeInfo, hi, hf0, goInt, storeCells]
    unfold opRun
    rw [hexec _ hr]
    exact ⟨H, h, hw, Trans.refl H w⟩
  · rename_i h0
    split at h <;> first | exact h.elim | skip
    rename_i news b off hnews
    split at h <;> first | exact h.elim | skip
    rename_i e' cs hb
    obtain ⟨hl, h⟩ := h
    obtain ⟨hlen, hspec⟩ := cellsOf_spec hnews
    have hone := (hspec w hw).1
    have hf : (Builtin.firstCells i.size (Nat.min sn dn) (.slice sa sn sc)).run P w = .ok news.toArray w := by
      have := run_firstCells_of (P := P) hnews hw
      cases sa with
      | none => simpa [Builtin.firstCells] using this
      | some a => simpa [Builtin.firstCells] using this
    have hst := run_storeCells_row (P := P) (w := w) hw (off := off) (vs := news) hb (by rw [hlen]; exact hl) hone
    have hr : (Builtin.copy_ ts o.type #[ev ρ d, ev ρ s]).run P w = .ok (.int .i64 (Nat.min sn dn)) (w.setRow b (spliceL cs off news).toArray) := by
      rw [hd, hsv]
      simp [Builtin.copy_, hts, run_underlying ht, Builtin.lenOf, sizeOf, typeInfo, hi, hf, goInt, hst]
    have hset := hw.setRow (cs' := spliceL cs off news) hb (mem_splice (hw.oneCell hb) hone)
    unfold opRun
    rw [hexec _ hr]
    exact ⟨_, h, hset.1, hset.2⟩
end
end Go.Am
