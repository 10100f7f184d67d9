/- The proof that resolved code speaks for the model's code. No condition. -/
import Derived.Test.YtmephnenbboecaaAmK
namespace Go.Am
variable {P : Program}

theorem compOper_spec {N : Nat} {ops : Array Oper} {o : Oper} {x : AOper} (h : compOper P N ops o = some x) : inFrame N o = true ∧ guardOf N ops o = some x.g ∧ compAct P o = some x.act ∧ x.dst = o.dst := by
  unfold compOper at h
  split at h
  · rename_i hf
    split at h
    · rename_i g act hg ha
      injection h with h; subst h
      exact ⟨hf, hg, ha, rfl⟩
    · cases h
  · cases h

theorem compOps_spec {N : Nat} {ops : Array Oper} : ∀ (l : List Oper) (xs : List AOper), compOps P N ops l = some xs → xs.length = l.length ∧ ∀ (i : Nat) (x : AOper), xs[i]? = some x → ∃ o, l[i]? = some o ∧ compOper P N ops o = some x
  | [], xs, h => by simp [compOps] at h; subst h; simp
  | o :: l, xs, h => by
    unfold compOps at h
    split at h
    · rename_i x xs' hx hxs
      injection h with h; subst h
      obtain ⟨h1, h2⟩ := compOps_spec l xs' hxs
      refine ⟨by simp [h1], fun i y hy => ?_⟩
      cases i with
      | zero => simp at hy; subst hy; exact ⟨o, rfl, hx⟩
      | succ i => exact h2 i y (by simpa using hy)
    · cases h

theorem act_tri {o : Oper} {act : AAct} {ρ : Env} {H : Heap} {Q : Value → Heap → Prop} (hc : compAct P o = some act) (h : act.wp P ρ H Q) : TriS P (execOp (ev ρ) o) H Q := by
  have hd := compAct_does (ρ := ρ) hc
  cases act with
  | p e =>
    simp only [AAct.wp] at h
    split at h
    · rename_i v hv
      intro w hw
      unfold runS
      rw [hd v hv w]
      exact ⟨H, h, hw, Trans.refl H w⟩
    · exact h.elim
  | r1 x =>
    simp only [AAct.wp] at h
    split at h
    · rename_i v hv
      intro w hw
      unfold runS
      rw [hd H v hv w hw]
      exact ⟨H, h, hw, Trans.refl H w⟩
    · exact h.elim
  | rN n x =>
    simp only [AAct.wp] at h
    split at h
    · rename_i v hv
      intro w hw
      unfold runS
      rw [hd H v hv w hw]
      exact ⟨H, h, hw, Trans.refl H w⟩
    · exact h.elim
  | w e =>
    have := hd H Q h
    split at this
    · exact this.tri
    · exact this

theorem ops_sound {N : Nat} {D : List Deferred} {ops : Array Oper} {K : Env → Heap → Prop} {Q : Exit → Act → World → Prop} {H0 : Heap} {w0 : World}
    (hK : ∀ ρ H a w, K ρ H → Agree N D a ρ → Fits H w → Trans H0 w0 H w → Q .normal a w) :
    ∀ (l : List Oper) (xs : List AOper) (a : Act) (ρ : Env) (H : Heap) (w : World), compOps P N ops l = some xs → Agree N D a ρ → Fits H w → Trans H0 w0 H w → wpOpsA P K xs ρ H → wpList P ops Q l a w
  | [], xs, a, ρ, H, w, hc, hag, hf, ht, h => by
    simp [compOps] at hc; subst hc
    exact hK ρ H a w h hag hf ht
  | o :: l, xs, a, ρ, H, w, hc, hag, hf, ht, h => by
    unfold compOps at hc
    split at hc
    · rename_i x xs' hx hxs
      injection hc with hc; subst hc
      obtain ⟨h1, h2, h3, h4⟩ := compOper_spec hx
      unfold wpOpsA at h
      unfold wpList
      rw [wanted_agree hag h2]
      split
      · rename_i hw
        rw [if_pos hw] at h
        left
        have htri := act_tri h3 h
        rw [show (execOp (ev ρ) o) = execOp a.eval o from (execOp_agree hag h1).symm] at htri
        refine wp_of_runS (htri w hf) ?_
        rintro v w' ⟨H', hq, hf', ht'⟩
        rw [h4] at hq
        exact ops_sound hK l xs' _ _ H' w' hxs (hag.put (inFrame_dst h1) v) hf' (ht.trans ht') hq
      · rename_i hw
        rw [if_neg hw, h4] at h
        exact ops_sound hK l xs' _ _ H w hxs (hag.put (inFrame_dst h1) _) hf ht h
    · cases hc

-- drawn regions

def Aligned : List (Nat × (Heap → Prop)) → List (Nat × (Heap → Prop)) → Prop
  | [], [] => True
  | (i, φ) :: as, (j, ψ) :: bs => i = j ∧ (∀ H, φ H → ψ H) ∧ Aligned as bs
  | _, _ => False

theorem chk_of_chkA {un : List Nat} {H : Heap} : ∀ (as bs : List (Nat × (Heap → Prop))), Aligned as bs → (∀ i ∈ un, lookP i H as) → chk un H bs
  | [], [], _, _ => trivial
  | (i, φ) :: as, (j, ψ) :: bs, hal, h => by
    obtain ⟨rfl, himp, hal⟩ := hal
    refine ⟨fun hc => ?_, chk_of_chkA as bs hal fun k hk => ?_⟩
    · have := h i (by simpa using hc)
      simp only [lookP, if_true] at this
      exact himp H this.1
    · have := h k hk
      simp only [lookP] at this
      split at this
      · exact this.2
      · exact this
  | [], _ :: _, hal, _ => hal.elim
  | _ :: _, [], hal, _ => hal.elim

theorem chkA_mem : ∀ (un : List Nat) (H : Heap) (pend : List (Nat × (Heap → Prop))), chkA un H pend → ∀ i ∈ un, lookP i H pend
  | [], _, _, _, _, hi => by cases hi
  | j :: un, H, pend, h, i, hi => by
    rcases List.mem_cons.1 hi with rfl | hi
    · exact h.1
    · exact chkA_mem un H pend h.2 i hi

def toSD (ops : Array Oper) (d : DOper) : SOp := toS (ops.getD d.idx default) d.idx d.op d.un

theorem draw_wpS {ops : Array Oper} {K : Env → Heap → Prop} : ∀ (ds : List DOper) (pa ps : List (Nat × (Heap → Prop))) (ρ : Env) (H : Heap), Aligned pa ps →
    (∀ d ∈ ds, ∃ o, ops[d.idx]? = some o ∧ compAct P o = some d.op.act ∧ d.op.dst = o.dst) → wpDrawA P K pa ds ρ H → wpS P K ps (ds.map (toSD ops)) ρ H
  | [], _, _, _, _, _, _, h => h
  | d :: ds, pa, ps, ρ, H, hal, hops, h => by
    obtain ⟨o, ho, hc, hdst⟩ := hops d (by simp)
    have hops' := fun x hx => hops x (List.mem_cons_of_mem _ hx)
    have hoo : (toSD ops d).o = o := by simp [toSD, toS, ho]
    have hkd : (toSD ops d).kind = d.op.act.kd := rfl
    have hun : (toSD ops d).un = d.un := rfl
    have hix : (toSD ops d).idx = d.idx := rfl
    have hwd : (toSD ops d).wanted ρ = wantedG d.op.g ρ := rfl
    have hd := compAct_does (ρ := ρ) hc
    simp only [List.map_cons]
    unfold wpS
    unfold wpDrawA at h
    rw [hwd, hoo, hkd, hun, hix]
    split
    · rename_i hw
      rw [if_pos hw] at h
      cases hact : d.op.act with
      | p e =>
        rw [hact] at h hd
        simp only at h
        split at h
        · rename_i v hv
          simp only [AAct.kd]
          exact ⟨v, hd v hv, draw_wpS ds pa ps _ _ hal hops' (by rw [← hdst]; exact h)⟩
        · exact h.elim
      | r1 x =>
        rw [hact] at h hd
        simp only at h
        split at h
        · rename_i v hv
          simp only [AAct.kd]
          exact ⟨v, hd H v hv, draw_wpS ds (_ :: pa) (_ :: ps) _ _ ⟨rfl, fun H' hh => hd H' v hh, hal⟩ hops' (by rw [← hdst]; exact h)⟩
        · exact h.elim
      | rN n x =>
        rw [hact] at h hd
        simp only at h
        split at h
        · rename_i v hv
          simp only [AAct.kd]
          exact ⟨v, hd H v hv, draw_wpS ds (_ :: pa) (_ :: ps) _ _ ⟨rfl, fun H' hh => hd H' v hh, hal⟩ hops' (by rw [← hdst]; exact h)⟩
        · exact h.elim
      | w e =>
        rw [hact] at h hd
        simp only at h
        have hq := hd H _ h
        split at hq
        · rename_i hka
          rw [hka]
          simp only
          obtain ⟨mk, e', cs, h1, h2⟩ := hq
          exact ⟨mk, e', cs, h1, fun b hb => draw_wpS ds pa ps _ _ hal hops' (by rw [← hdst]; exact (h2 b hb).2)⟩
        · rename_i hka
          have hkw : (AAct.w e).kd = .w := by cases e <;> first | rfl | exact absurd rfl hka
          rw [hkw]
          simp only
          exact (show TriS P (execOp (ev ρ) o) H _ from hq).mono fun v H' hh => ⟨chk_of_chkA pa ps hal (chkA_mem _ _ _ hh.1), draw_wpS ds pa ps _ _ hal hops' (by rw [← hdst]; exact hh.2)⟩
    · rename_i hw
      rw [if_neg hw] at h
      exact draw_wpS ds pa ps _ _ hal hops' (by rw [← hdst]; exact h)

theorem befGo_spec {ops : Array Oper} : ∀ (os : List Oper) (acc : List (List Nat)), (∀ j, os[j]? = ops.toList[acc.length + j]?) → (∀ i j, j ∈ acc.getD i [] → Bf ops j i) → ∀ i j, j ∈ (befGo os acc).getD i [] → Bf ops j i
  | [], _, _, h, i, j, hj => h i j hj
  | o :: os, acc, ho, h, i, j, hj => by
    unfold befGo at hj
    refine befGo_spec os _ (fun k => ?_) ?_ i j hj
    · have := ho (k + 1)
      simp only [List.getElem?_cons_succ] at this
      rw [this]
      simp only [List.length_append, List.length_cons, List.length_nil]
      congr 1
      omega
    · intro i j hj
      by_cases hi : i < acc.length
      · rw [List.getD_eq_getElem?_getD, List.getElem?_append_left hi, ← List.getD_eq_getElem?_getD] at hj
        exact h i j hj
      · by_cases hi2 : i = acc.length
        · subst hi2
          have h0 : ops[acc.length]? = some o := by
            have := ho 0
            simp only [List.getElem?_cons_zero, Nat.add_zero] at this
            rw [← Array.getElem?_toList]; exact this.symm
          rw [List.getD_eq_getElem?_getD] at hj
          simp only [List.getElem?_concat_length, Option.getD_some, List.mem_eraseDups, List.mem_append, List.mem_flatMap] at hj
          have hpred : ∀ k, k ∈ preds o → ∃ e ∈ o.after, Region.binds .any e = true ∧ e.on = k := by
            intro k hk
            unfold preds at hk
            obtain ⟨e, he, rfl⟩ := List.mem_map.1 hk
            obtain ⟨h1, h2⟩ := List.mem_filter.1 he
            exact ⟨e, Array.mem_toList_iff.1 h1, h2, rfl⟩
          rcases hj with hj | ⟨k, hk, hj⟩
          · obtain ⟨e, he, hb, rfl⟩ := hpred j hj
            exact .edge h0 he hb
          · obtain ⟨e, he, hb, rfl⟩ := hpred k hk
            exact .step h0 he hb (h _ _ hj)
        · have : (acc ++ [(preds o ++ (preds o).flatMap fun k => acc.getD k []).eraseDups])[i]? = none := by
            apply List.getElem?_eq_none
            simp; omega
          rw [List.getD_eq_getElem?_getD, this] at hj
          cases hj

theorem drawGo_spec (bs : List (List Nat)) (ks : List Kd) (xs : List AOper) : ∀ (order ahead : List Nat) (ds : List DOper), drawGo bs ks xs ahead order = some ds → ds.map (·.idx) = order ∧ ∀ d ∈ ds, xs[d.idx]? = some d.op
  | [], _, ds, h => by simp [drawGo] at h; subst h; simp
  | i :: is, ahead, ds, h => by
    unfold drawGo at h
    split at h
    · rename_i x ds' hx hds
      injection h with h; subst h
      obtain ⟨h1, h2⟩ := drawGo_spec bs ks xs is _ ds' hds
      refine ⟨by simp [h1], fun d hd => ?_⟩
      rcases List.mem_cons.1 hd with rfl | hd
      · exact hx
      · exact h2 d hd
    · cases h

theorem pairsOk_spec {ops : Array Oper} {bs : List (List Nat)} (hbs : ∀ i j, j ∈ bs.getD i [] → Bf ops j i) : ∀ ds : List DOper, pairsOk ops bs ds = true →
    (ds.map (toSD ops)).Pairwise (fun x y => Bf ops x.idx y.idx ∨ (x.allow y = true ∧ x.apart y = true))
  | [], _ => by simp
  | x :: xs, h => by
    unfold pairsOk at h
    simp only [Bool.and_eq_true, List.all_eq_true] at h
    simp only [List.map_cons, List.pairwise_cons]
    refine ⟨fun y hy => ?_, pairsOk_spec hbs xs h.2⟩
    obtain ⟨d, hd, rfl⟩ := List.mem_map.1 hy
    have := h.1 d hd
    unfold pairOk at this
    simp only [Bool.or_eq_true] at this
    rcases this with h1 | h1
    · exact .inl (hbs d.idx x.idx (by simpa using h1))
    · split at h1
      · rename_i ox oy hx hy'
        simp only [Bool.and_eq_true] at h1
        refine .inr ?_
        have e1 : toSD ops x = toS ox x.idx x.op x.un := by simp [toSD, hx]
        have e2 : toSD ops d = toS oy d.idx d.op d.un := by simp [toSD, hy']
        rw [e1, e2]
        exact h1
      · cases h1

theorem laterOk_spec {ops : Array Oper} : ∀ ds : List DOper, laterOk ops ds = true →
    (∀ d ∈ ds.map (toSD ops), ∀ e ∈ d.o.after, Region.binds .any e = true → e.on < ops.size) ∧ (ds.map (toSD ops)).Pairwise (fun x y => ∀ e ∈ x.o.after, Region.binds .any e = true → e.on ≠ y.idx) ∧
    (∀ d ∈ ds.map (toSD ops), ∀ e ∈ d.o.after, Region.binds .any e = true → e.on ≠ d.idx)
  | [], _ => by simp
  | x :: xs, h => by
    unfold laterOk at h
    simp only [Bool.and_eq_true] at h
    obtain ⟨h0, hrest⟩ := h
    obtain ⟨r1, r2, r3⟩ := laterOk_spec xs hrest
    split at h0
    · rename_i o ho
      have e1 : (toSD ops x).o = o := by simp [toSD, toS, ho]
      have key : ∀ e ∈ o.after, Region.binds .any e = true → e.on < ops.size ∧ e.on ≠ x.idx ∧ ∀ y ∈ xs, e.on ≠ y.idx := by
        intro e he hb
        have hm : e.on ∈ preds o := List.mem_map.2 ⟨e, List.mem_filter.2 ⟨Array.mem_toList_iff.2 he, hb⟩, rfl⟩
        have := List.all_eq_true.1 h0 e.on hm
        simp only [Bool.and_eq_true, decide_eq_true_eq, bne_iff_ne, ne_eq, List.all_eq_true] at this
        exact ⟨this.1.1, this.1.2, this.2⟩
      refine ⟨?_, ?_, ?_⟩
      · intro d hd e he hb
        rcases List.mem_cons.1 (by simpa using hd : d ∈ toSD ops x :: xs.map (toSD ops)) with rfl | hd
        · rw [e1] at he; exact (key e he hb).1
        · exact r1 d hd e he hb
      · simp only [List.map_cons, List.pairwise_cons]
        refine ⟨fun y hy e he hb => ?_, r2⟩
        obtain ⟨d, hd, rfl⟩ := List.mem_map.1 hy
        rw [e1] at he
        exact (key e he hb).2.2 d hd
      · intro d hd e he hb
        rcases List.mem_cons.1 (by simpa using hd : d ∈ toSD ops x :: xs.map (toSD ops)) with rfl | hd
        · rw [e1] at he; exact (key e he hb).2.1
        · exact r3 d hd e he hb
    · cases h0

theorem draw_region {N : Nat} {D : List Deferred} {ops : Array Oper} {ds : List DOper} {K : Env → Heap → Prop} {Q : Exit → Act → World → Prop} {id : Nat} {a : Act} {ρ : Env} {H : Heap} {w : World} (hm : P.follows .mixedOrders = true)
    (hc : compDraw P N ops = some ds) (hag : Agree N D a ρ) (hf : Fits H w) (h : wpDrawA P K [] ds ρ H)
    (hK : ∀ ρ' H' a' w', K ρ' H' → Agree N D a' ρ' → Fits H' w' → Trans H w H' w' → Q .normal a' w') : (Code.region id ops true).wp P Q a w := by
  unfold compDraw at hc
  split at hc <;> first | (cases hc; done) | skip
  rename_i xs hxs
  simp only at hc
  split at hc <;> first | (cases hc; done) | skip
  rename_i ds' hds
  split at hc <;> first | (cases hc; done) | skip
  rename_i hok
  injection hc with hc; subst hc
  obtain ⟨hnd, hlen0, hall, hp, hl⟩ := hok
  obtain ⟨hord, hxd⟩ := drawGo_spec _ _ _ _ _ _ hds
  obtain ⟨hlen, hsp⟩ := compOps_spec _ _ hxs
  have hlink : ∀ d ∈ ds', ∃ o, ops[d.idx]? = some o ∧ compOper P N ops o = some d.op := by
    intro d hd
    obtain ⟨o, ho, hco⟩ := hsp d.idx d.op (hxd d hd)
    exact ⟨o, by rw [← Array.getElem?_toList]; exact ho, hco⟩
  have hbs := befGo_spec (ops := ops) ops.toList [] (by simp) (by simp)
  have hidx : (ds'.map (toSD ops)).map (·.idx) = ds'.map (·.idx) := by
    rw [List.map_map]; rfl
  refine wp_region_any hm ?_
  obtain ⟨l1, l2, l3⟩ := laterOk_spec ds' hl
  have hin : ∀ d ∈ ds', d.idx < ops.size := fun d hd => by obtain ⟨o, ho, _⟩ := hlink d hd; exact (Array.getElem?_eq_some_iff.1 ho).1
  refine draw_sound (P := P) (N := N) (D := D) (K := K) (H0 := H) (w0 := w) hK ops.size (ds'.map (toSD ops)) _ [] a ρ H _ ?_ ?_ ?_ (by simp) ?_ (pairsOk_spec hbs ds' hp) ?_ l1 l2 l3 (by intro p hp; cases hp) hag hf (Trans.drew H w (w.drawn + 1)) ?_
  · -- no more of them than operations
    have h1 : (ds'.map (·.idx)).length = _ := congrArg List.length hord
    simp only [List.length_map] at h1 ⊢
    omega
  · intro s hs
    obtain ⟨d, hd, rfl⟩ := List.mem_map.1 hs
    obtain ⟨o, ho, hco⟩ := hlink d hd
    obtain ⟨h1, h2, h3, h4⟩ := compOper_spec hco
    have e1 : (toSD ops d).o = o := by simp [toSD, toS, ho]
    exact ⟨by rw [e1]; exact ho, by rw [e1]; exact h1, by rw [e1]; exact h2⟩
  · intro i hi
    have : (Array.replicate ops.size false)[i]? = some false := by simp [hi]
    rw [this]
    simp only [true_iff]
    have hi2 := hall i hi
    rw [← hord] at hi2
    obtain ⟨d, hd, he⟩ := List.mem_map.1 hi2
    exact ⟨toSD ops d, List.mem_map_of_mem hd, he⟩
  · rw [hidx, hord]; exact hnd
  · intro i o ho hl
    exfalso
    by_cases hi : i < ops.size
    · simp [hi] at hl
    · simp [hi] at hl
  · refine draw_wpS ds' [] [] ρ H trivial ?_ h
    intro d hd
    obtain ⟨o, ho, hco⟩ := hlink d hd
    obtain ⟨h1, h2, h3, h4⟩ := compOper_spec hco
    exact ⟨o, ho, h3, h4⟩
end Go.Am
