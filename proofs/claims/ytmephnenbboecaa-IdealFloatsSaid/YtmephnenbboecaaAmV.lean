/- What the fast spelling of the interpreter answers, the interpreter answers. No condition. -/
import Derived.Test.YtmephnenbboecaaAmY
import Derived.Test.YtmephnenbboecaaAmW
set_option linter.unusedVariables false
set_option linter.unusedSimpArgs false
namespace Go.Am

theorem obind_some {α β : Type} {o : Option α} {f : α → Option β} {r : β} (h : obind o f = some r) : ∃ a, o = some a ∧ f a = some r := by
  cases o with
  | none => cases h
  | some a => exact ⟨a, rfl, h⟩
theorem obind2_some {α β γ : Type} {o : Option (α × β)} {f : α → β → Option γ} {r : γ} (h : obind2 o f = some r) : ∃ a b, o = some (a, b) ∧ f a b = some r := by
  cases o with
  | none => cases h
  | some p => obtain ⟨a, b⟩ := p; exact ⟨a, b, rfl, h⟩
theorem bsel_eq {α : Type} (b : Bool) (x y : α) : bsel b x y = bif b then x else y := by cases b <;> rfl
theorem bsel_some {α : Type} {b : Bool} {x : Option α} {r : α} (h : bsel b x none = some r) : b = true ∧ x = some r := by
  cases b with
  | true => exact ⟨rfl, h⟩
  | false => cases h

theorem getV_eq (t : Tr Value) (i : Nat) : getV t i = t.get i := rfl
theorem getH_eq (t : Tr B2) (i : Nat) : getH t i = t.get i := rfl
theorem getF_eq (t : Tr AFunc) (i : Nat) : getF t i = t.get i := rfl
theorem setV_eq (t : Tr Value) (i : Nat) (v : Option Value) : setV t i v = t.set i v := rfl
theorem setH_eq (t : Tr B2) (i : Nat) (v : Option B2) : setH t i v = t.set i v := rfl

theorem asInt_some {v : Value} {k : IntKind} {n : Int} (h : asInt v = some (k, n)) : v = .int k n := by
  cases v <;> first | (cases h; done) | skip
  injection h with h; injection h with e1 e2; rw [e1, e2]
theorem asBool_some {v : Value} {b : Bool} (h : asBool v = some b) : v = .bool b := by
  cases v <;> first | (cases h; done) | skip
  injection h with h; rw [h]
theorem asAt_some {v : Value} {b o : Nat} (h : asAt v = some (b, o)) : v = .pointer (some ⟨b, o, none⟩) := by
  cases v <;> first | (cases h; done) | skip
  rename_i a
  cases a with
  | none => cases h
  | some a =>
    obtain ⟨b', o', sp⟩ := a
    cases sp with
    | none => injection h with h; injection h with e1 e2; subst e1; subst e2; rfl
    | some _ => cases h
theorem asSl_some {v : Value} {b o n : Nat} (h : asSl v = some (b, o, n)) : ∃ c, v = .slice (some ⟨b, o, none⟩) n c := by
  cases v <;> first | (cases h; done) | skip
  rename_i a m c
  cases a with
  | none => cases h
  | some a =>
    obtain ⟨b', o', sp⟩ := a
    cases sp with
    | none => injection h with h; injection h with e1 h; injection h with e2 e3; subst e1; subst e2; subst e3; exact ⟨c, rfl⟩
    | some _ => cases h
theorem asAgg_some {v : Value} {l : List Value} (h : asAgg v = some l) : v = .agg ⟨l⟩ := by
  cases v <;> first | (cases h; done) | skip
  injection h with h; subst h; rfl
theorem asTup_some {v : Value} {l : List Value} (h : asTup v = some l) : v = .tuple ⟨l⟩ := by
  cases v <;> first | (cases h; done) | skip
  injection h with h; subst h; rfl
theorem oneF_eq (v : Value) : oneF v = v.oneCell' := by cases v <;> rfl
theorem cellsF_eq (v : Value) : cellsF v = v.cells.toList := by cases v <;> rfl
theorem allF_eq : ∀ l : List Value, allF l = allOne l
  | [] => rfl
  | v :: l => by
    show bsel (oneF v) (allF l) false = _
    rw [all_cons, oneF_eq, allF_eq l]
    cases v.oneCell' <;> rfl
theorem lenF_eq : ∀ l : List Value, lenF l = l.length
  | [] => rfl
  | v :: l => by show Nat.succ (lenF l) = _; rw [lenF_eq l]; rfl
theorem nth_eq : ∀ (l : List Value) (i : Nat), nth l i = l[i]?
  | [], i => rfl
  | v :: l, 0 => rfl
  | v :: l, i + 1 => by show nth l i = _; rw [nth_eq l i]; rfl
theorem takeL_some : ∀ {l : List Value} {n : Nat} {r : List Value}, takeL l n = some r → n ≤ l.length ∧ r = l.take n
  | [], 0, r, h => by injection h with h; subst h; exact ⟨Nat.le_refl _, rfl⟩
  | [], n + 1, r, h => by cases h
  | v :: l, 0, r, h => by injection h with h; subst h; exact ⟨Nat.zero_le _, rfl⟩
  | v :: l, n + 1, r, h => by
    obtain ⟨a, h1, h2⟩ := obind_some (o := takeL l n) h
    injection h2 with h2; subst h2
    obtain ⟨h3, h4⟩ := takeL_some h1
    exact ⟨Nat.succ_le_succ h3, by rw [h4]; rfl⟩
theorem dropL_eq : ∀ (l : List Value) (n : Nat), dropL l n = l.drop n
  | [], n => by cases n <;> rfl
  | v :: l, 0 => rfl
  | v :: l, n + 1 => by show dropL l n = _; rw [dropL_eq l n]; rfl
theorem overL_some : ∀ {vs l r : List Value}, overL vs l = some r → vs.length ≤ l.length ∧ r = vs ++ l.drop vs.length
  | [], l, r, h => by injection h with h; subst h; exact ⟨Nat.zero_le _, rfl⟩
  | v :: vs, [], r, h => by cases h
  | v :: vs, a :: l, r, h => by
    obtain ⟨x, h1, h2⟩ := obind_some (o := overL vs l) h
    injection h2 with h2; subst h2
    obtain ⟨h3, h4⟩ := overL_some h1
    exact ⟨Nat.succ_le_succ h3, by rw [h4]; rfl⟩
theorem splL_some : ∀ {l vs : List Value} {o : Nat} {r : List Value}, splL l vs o = some r → o + vs.length ≤ l.length ∧ r = spliceL l o vs
  | [], vs, 0, r, h => by
    obtain ⟨h1, h2⟩ := overL_some (l := []) h
    refine ⟨by omega, ?_⟩
    rw [h2]; simp [spliceL]
  | [], vs, o + 1, r, h => by cases h
  | a :: l, vs, 0, r, h => by
    obtain ⟨h1, h2⟩ := overL_some (l := a :: l) h
    refine ⟨by omega, ?_⟩
    rw [h2]; simp [spliceL]
  | a :: l, vs, o + 1, r, h => by
    obtain ⟨x, h1, h2⟩ := obind_some (o := splL l vs o) h
    injection h2 with h2; subst h2
    obtain ⟨h3, h4⟩ := splL_some h1
    refine ⟨by rw [List.length_cons]; omega, ?_⟩
    rw [h4]
    simp only [spliceL, List.take_succ_cons, List.cons_append]
    rw [show o + 1 + vs.length = (o + vs.length) + 1 by omega, List.drop_succ_cons]

theorem ble_dec (a b : Nat) : Nat.ble a b = decide (a ≤ b) := by
  cases h : Nat.ble a b with
  | true => simp [Nat.le_of_ble_eq_true h]
  | false => simp; exact Nat.lt_of_not_le fun hh => by rw [Nat.ble_eq_true_of_le hh] at h; cases h
theorem beq_dec (a b : Nat) : Nat.beq a b = decide (a = b) := by
  cases h : Nat.beq a b with
  | true => simp [Nat.eq_of_beq_eq_true h]
  | false => simp [Nat.ne_of_beq_eq_false h]
theorem intLe_eq (a b : Int) : intLe a b = decide (a ≤ b) := by
  cases a <;> cases b
  · show Nat.ble _ _ = _; rw [ble_dec]; simp
  · show false = _; symm; rw [decide_eq_false_iff_not]; (try simp only [Int.ofNat_eq_natCast]); omega
  · show true = _; symm; rw [decide_eq_true_iff]; (try simp only [Int.ofNat_eq_natCast]); omega
  · show Nat.ble _ _ = _; rw [ble_dec]; apply decide_eq_decide.2; (try simp only [Int.ofNat_eq_natCast]); omega
theorem intLt_eq (a b : Int) : intLt a b = decide (a < b) := by
  cases a <;> cases b
  · show Nat.ble _ _ = _; rw [ble_dec]; apply decide_eq_decide.2; (try simp only [Int.ofNat_eq_natCast]); omega
  · show false = _; symm; rw [decide_eq_false_iff_not]; (try simp only [Int.ofNat_eq_natCast]); omega
  · show true = _; symm; rw [decide_eq_true_iff]; (try simp only [Int.ofNat_eq_natCast]); omega
  · show Nat.ble _ _ = _; rw [ble_dec]; apply decide_eq_decide.2; (try simp only [Int.ofNat_eq_natCast]); omega
theorem intEq_eq (a b : Int) : intEq a b = (a == b) := by
  have : (a == b) = decide (a = b) := by by_cases h : a = b <;> simp [h]
  rw [this]
  cases a <;> cases b
  · show Nat.beq _ _ = _; rw [beq_dec]; apply decide_eq_decide.2; (try simp only [Int.ofNat_eq_natCast]); omega
  · show false = _; symm; rw [decide_eq_false_iff_not]; (try simp only [Int.ofNat_eq_natCast]); omega
  · show false = _; symm; rw [decide_eq_false_iff_not]; (try simp only [Int.ofNat_eq_natCast]); omega
  · show Nat.beq _ _ = _; rw [beq_dec]; apply decide_eq_decide.2; (try simp only [Int.ofNat_eq_natCast]); omega
theorem natI_some {a : Int} {m : Nat} (h : natI a = some m) : a = m := by
  cases a with
  | ofNat n => injection h with h; subst h; rfl
  | negSucc n => cases h
theorem wrapF_eq (k : IntKind) (n : Int) : wrapF k n = k.wrap n := by
  cases n with
  | negSucc m => rfl
  | ofNat m =>
    show bsel (Nat.ble m (topK k)) (Int.ofNat m) (k.wrap (Int.ofNat m)) = _
    rw [ble_dec, bsel_eq]
    by_cases h : m ≤ topK k
    · rw [decide_eq_true h]
      show Int.ofNat m = _
      cases k <;> simp only [topK] at h <;> simp [IntKind.wrap, IntKind.bits, IntKind.signed] <;> omega
    · rw [decide_eq_false h]; rfl
theorem eqK_true {k k' : IntKind} (h : eqK k k' = true) : k = k' := by
  cases k <;> cases k' <;> first | rfl | (cases h)

theorem eqiF_some : ∀ {o : List Nat} {xs ys : List Value} {b : Bool}, eqiF o xs ys = some b → eqiV o ⟨xs⟩ ⟨ys⟩ = some b
  | [], _, _, _, h => h
  | o :: os, xs, ys, b, h => by
    obtain ⟨k, a, h1, h2⟩ := obind2_some (show obind2 (obind (nth xs o) asInt) (fun k a => obind2 (obind (nth ys o) asInt) fun k' b => bsel (eqK k k') (obind (eqiF os xs ys) fun t => some (bsel (intEq a b) t false)) none) = some b from h)
    obtain ⟨k', c, h3, h4⟩ := obind2_some h2
    obtain ⟨h5, h6⟩ := bsel_some h4
    obtain ⟨t, h7, h8⟩ := obind_some h6
    obtain ⟨u, g1, g2⟩ := obind_some h1
    obtain ⟨w, g3, g4⟩ := obind_some h3
    rw [nth_eq] at g1 g3
    have e := eqK_true h5
    subst e
    have ih := eqiF_some h7
    unfold eqiV
    rw [show (⟨xs⟩ : Array Value)[o]? = some u by simpa using g1, show (⟨ys⟩ : Array Value)[o]? = some w by simpa using g3, asInt_some g2, asInt_some g4]
    injection h8 with h8
    rw [bsel_eq, intEq_eq] at h8
    simp only [if_true, ih]
    by_cases hac : a = c
    · subst hac; simp at h8; simp [h8]
    · have : (a == c) = false := by simpa using hac
      rw [this] at h8; simp at h8; simp [hac, h8]

theorem eqK_some {k k' : IntKind} {r v : Value} (h : same k k' r = some v) : k = k' ∧ r = v := by
  obtain ⟨h1, h2⟩ := bsel_some h
  injection h2 with h2
  refine ⟨?_, h2⟩
  cases k <;> cases k' <;> first | rfl | cases h1
theorem binF_some {op : BinOp} {k k' : IntKind} {a b : Int} {v : Value} (h : binF op k a k' b = some v) : abin op (.int k a) (.int k' b) = some v := by
  cases op
  case add => obtain ⟨rfl, rfl⟩ := eqK_some (show same k k' (.int k (wrapF k (Int.add a b))) = some v from h); rw [ab_add, wrapF_eq]; rfl
  case sub => obtain ⟨rfl, rfl⟩ := eqK_some (show same k k' (.int k (wrapF k (Int.sub a b))) = some v from h); rw [ab_sub, wrapF_eq]; rfl
  case mul => obtain ⟨rfl, rfl⟩ := eqK_some (show same k k' (.int k (wrapF k (Int.mul a b))) = some v from h); rw [ab_mul, wrapF_eq]; rfl
  case eql => obtain ⟨rfl, rfl⟩ := eqK_some (show same k k' (.bool (intEq a b)) = some v from h); rw [ab_eql, intEq_eq]
  case neq => obtain ⟨rfl, rfl⟩ := eqK_some (show same k k' (.bool (not (intEq a b))) = some v from h); rw [ab_neq, intEq_eq]; rfl
  case lss => obtain ⟨rfl, rfl⟩ := eqK_some (show same k k' (.bool (intLt a b)) = some v from h); rw [ab_lss, intLt_eq]
  case leq => obtain ⟨rfl, rfl⟩ := eqK_some (show same k k' (.bool (intLe a b)) = some v from h); rw [ab_leq, intLe_eq]
  case gtr => obtain ⟨rfl, rfl⟩ := eqK_some (show same k k' (.bool (intLt b a)) = some v from h); rw [ab_gtr, intLt_eq]
  case geq => obtain ⟨rfl, rfl⟩ := eqK_some (show same k k' (.bool (intLe b a)) = some v from h); rw [ab_geq, intLe_eq]
  all_goals exact h

theorem unO_eq (ρ : Tr Value) (t : Nat) : unO (getV ρ t) = evT ρ t := by
  rw [getV_eq]; unfold evT; cases ρ.get t <;> rfl
theorem evF_eq (x : Operand) (ρ : Tr Value) : evF x ρ = ev (evT ρ) x := by
  cases x with
  | tmp t => exact unO_eq ρ t
  | const v => rfl
  | global g => rfl
  | func f => rfl
theorem evF_fun (ρ : Tr Value) : (fun x => evF x ρ) = ev (evT ρ) := by funext x; exact evF_eq x ρ

theorem fillP_some : ∀ {ps : List (Nat × Nat × Operand)} {cs r : List Value} {ρ : Tr Value}, fillP ps cs ρ = some r → fillL cs (evParts (evT ρ) ps) = some r
  | [], cs, r, ρ, h => by injection h with h; subst h; rfl
  | (o, n, x) :: ps, cs, r, ρ, h => by
    obtain ⟨cs', h1, h2⟩ := obind_some (f := fun cs' => fillP ps cs' ρ) h
    obtain ⟨h3, h4⟩ := bsel_some h1
    simp only [evF_eq, cellsF_eq, lenF_eq] at h3 h4
    obtain ⟨h5, h6⟩ := splL_some h4
    have h7 := Nat.eq_of_beq_eq_true h3
    have h8 := fillP_some h2
    simp only [evParts, fillL]
    rw [Array.length_toList] at h7 h5
    rw [if_pos ⟨h7, by omega⟩, ← h6]
    exact h8

theorem at3_some {b o st len : Nat} {i v : Value} (h : at3 b o st len i = some v) : ∃ k n, i = .int k n ∧ 0 ≤ n ∧ n < (len : Int) ∧ v = .pointer (some ⟨b, o + n.toNat * st, none⟩) := by
  obtain ⟨k, n, h1, h2⟩ := obind2_some h
  obtain ⟨m, h3, h4⟩ := obind_some h2
  obtain ⟨h5, h6⟩ := bsel_some h4
  have hn := natI_some h3
  subst hn
  injection h6 with h6
  have := Nat.le_of_ble_eq_true h5
  exact ⟨k, m, asInt_some h1, by omega, by omega, by rw [← h6]; rfl⟩

theorem valF_some {e : PExp} {ρ : Tr Value} {v : Value} (h : valF e ρ = some v) : valX ρ e = some v := by
  cases e
  case mv x => simpa only [valX, PExp.val, evF_eq] using (show some (evF x ρ) = some v from h)
  case pick c a b =>
    obtain ⟨t, h1, h2⟩ := obind_some (show obind (asBool (evF c ρ)) (fun t => bsel t (some (evF a ρ)) (some (evF b ρ))) = some v from h)
    simp only [evF_eq] at h1 h2
    simp only [valX, PExp.val, asBool_some h1]
    cases t <;> exact h2
  case nilck x => simpa only [valX, PExp.val, evF_eq] using (show nilckV (evF x ρ) = some v from h)
  case ibin op x y =>
    obtain ⟨k, a, h1, h2⟩ := obind2_some (show obind2 (asInt (evF x ρ)) (fun k a => obind2 (asInt (evF y ρ)) fun k' b => binF op k a k' b) = some v from h)
    obtain ⟨k', b, h3, h4⟩ := obind2_some h2
    simp only [evF_eq] at h1 h3
    simp only [valX, PExp.val, asInt_some h1, asInt_some h3]
    exact binF_some h4
  case eqb n x y => simpa only [valX, PExp.val, evF_eq] using (show eqbV n (evF x ρ) (evF y ρ) = some v from h)
  case eqp n x y => simpa only [valX, PExp.val, evF_eq] using (show eqpV n (evF x ρ) (evF y ρ) = some v from h)
  case eqsl n x y => simpa only [valX, PExp.val, evF_eq] using (show eqslV n (evF x ρ) (evF y ρ) = some v from h)
  case eqfn n x y => simpa only [valX, PExp.val, evF_eq] using (show eqfnV n (evF x ρ) (evF y ρ) = some v from h)
  case eqi n o x y =>
    obtain ⟨xs, h1, h2⟩ := obind_some (show obind (asAgg (evF x ρ)) (fun xs => obind (asAgg (evF y ρ)) fun ys => obind (eqiF o xs ys) fun b => some (.bool (bsel n (not b) b))) = some v from h)
    obtain ⟨ys, h3, h4⟩ := obind_some h2
    obtain ⟨b, h5, h6⟩ := obind_some h4
    injection h6 with h6; subst h6
    simp only [evF_eq] at h1 h3
    simp only [valX]
    rw [pv_eqi, asAgg_some h1, asAgg_some h3]
    simp only [eqiK, eqiF_some h5, Option.map_some]
    cases n <;> cases b <;> rfl
  case not x =>
    obtain ⟨t, h1, h2⟩ := obind_some (show obind (asBool (evF x ρ)) (fun b => some (.bool (not b))) = some v from h)
    simp only [evF_eq] at h1
    simp only [valX, PExp.val, asBool_some h1]; exact h2
  case conv k x =>
    obtain ⟨k', n, h1, h2⟩ := obind2_some (show obind2 (asInt (evF x ρ)) (fun _ n => some (.int k (wrapF k n))) = some v from h)
    simp only [evF_eq] at h1
    rw [wrapF_eq] at h2
    simp only [valX, PExp.val, asInt_some h1]; exact h2
  case fieldA off x =>
    obtain ⟨b, o, h1, h2⟩ := obind2_some (show obind2 (asAt (evF x ρ)) (fun b o => some (.pointer (some ⟨b, Nat.add o off, none⟩))) = some v from h)
    simp only [evF_eq] at h1
    simp only [valX, PExp.val, asAt_some h1]; exact h2
  case idxArr len st x i =>
    obtain ⟨b, o, h1, h2⟩ := obind2_some (show obind2 (asAt (evF x ρ)) (fun b o => at3 b o st len (evF i ρ)) = some v from h)
    simp only [evF_eq] at h1 h2
    obtain ⟨k, n, h3, h4, h5, rfl⟩ := at3_some h2
    simp only [valX, PExp.val, asAt_some h1, h3, idxArrV, h4, h5, and_self, if_true]
  case idxSl st x i =>
    obtain ⟨p, h1, h2⟩ := obind_some (show obind (asSl (evF x ρ)) (fun p => at3 p.1 p.2.1 st p.2.2 (evF i ρ)) = some v from h)
    obtain ⟨b, o, len⟩ := p
    simp only [evF_eq] at h1 h2
    obtain ⟨c, hc⟩ := asSl_some h1
    obtain ⟨k, n, h3, h4, h5, rfl⟩ := at3_some h2
    simp only [valX, PExp.val, hc, h3, idxSlV, h4, h5, and_self, if_true]
  case part off n x =>
    obtain ⟨l, h1, h2⟩ := obind_some (show obind (asAgg (evF x ρ)) (fun l => part1 off l n) = some v from h)
    simp only [evF_eq] at h1
    simp only [valX, PExp.val, asAgg_some h1, partV]
    cases n with
    | none => have : nth l off = some v := h2; rw [nth_eq] at this; simpa using this
    | some m =>
      obtain ⟨r, h3, h4⟩ := obind_some (show obind (takeL (dropL l off) m) (fun r => some (.agg ⟨r⟩)) = some v from h2)
      rw [dropL_eq] at h3
      obtain ⟨_, h5⟩ := takeL_some h3
      subst h5
      rw [← h4]
      have e : (⟨l⟩ : Array Value).extract off (off + m) = ⟨(l.drop off).take m⟩ := by apply Array.ext'; simp
      simp only [e]
  case extract i x =>
    obtain ⟨l, h1, h2⟩ := obind_some (show obind (asTup (evF x ρ)) (fun l => nth l i) = some v from h)
    simp only [evF_eq] at h1
    rw [nth_eq] at h2
    simp only [valX, PExp.val, asTup_some h1, extractV]; simpa using h2
  case build z ps =>
    obtain ⟨r, h1, h2⟩ := obind_some (show obind (fillP ps z ρ) (fun r => some (.agg ⟨r⟩)) = some v from h)
    simp only [valX, pv_build, fillP_some h1]; exact h2
  case slc st x lo hi =>
    have := (show slcX st (evF x ρ) (lo.map fun x => evF x ρ) (hi.map fun x => evF x ρ) = some v from h)
    simp only [evF_eq, evF_fun] at this
    exact this
  case len b x => simpa only [valX, PExp.val, evF_eq] using (show lenV b (evF x ρ) = some v from h)
  case min2 x y => simpa only [valX, PExp.val, evF_eq] using (show minV (evF x ρ) (evF y ρ) = some v from h)
  case max2 x y => simpa only [valX, PExp.val, evF_eq] using (show maxV (evF x ρ) (evF y ρ) = some v from h)
  case mkfn f a c =>
    have := (show some (Value.func (.func f) (a.map fun x => evF x ρ).toArray (c.map fun x => evF x ρ).toArray) = some v from h)
    simp only [evF_fun] at this
    exact this

theorem rowB_some {B : Blk} {r : Bool} {e : TypeId} {cs : List Value} (h : rowB B = some (r, e, cs)) : B = .row r e cs := by
  cases B with
  | row r e cs => injection h with h; injection h with e1 h; injection h with e2 e3; subst e1; subst e2; subst e3; rfl
  | mp _ _ => cases h
theorem rowF_some {s : St} {b : Nat} {cs : List Value} (h : rowF s b = some cs) : rowX s b = some cs := by
  obtain ⟨B, h1, h2⟩ := obind_some h
  obtain ⟨p, h3, h4⟩ := obind_some h2
  obtain ⟨w, B⟩ := B
  obtain ⟨r, e, cs'⟩ := p
  have hB := rowB_some h3
  simp only at hB
  subst hB
  injection h4 with h4
  rw [getH_eq] at h1
  simp only [rowX, h1, ← h4]
theorem ldF_some {s : St} {x v : Value} (h : ldF s x = some v) : ldX s x = some v := by
  obtain ⟨b, o, h1, h2⟩ := obind2_some h
  obtain ⟨cs, h3, h4⟩ := obind_some h2
  rw [nth_eq] at h4
  rw [asAt_some h1]
  simp only [ldX, rowF_some h3]; exact h4
theorem ldNF_some {n : Nat} {s : St} {x v : Value} (h : ldNF n s x = some v) : ldNX n s x = some v := by
  obtain ⟨b, o, h1, h2⟩ := obind2_some h
  obtain ⟨cs, h3, h4⟩ := obind_some h2
  obtain ⟨hn, h4⟩ := bsel_some h4
  have hn := Nat.le_of_ble_eq_true hn
  obtain ⟨r, h5, h6⟩ := obind_some h4
  rw [dropL_eq] at h5
  obtain ⟨h7, h8⟩ := takeL_some h5
  subst h8
  rw [asAt_some h1]
  simp only [ldNX, rowF_some h3]
  rw [List.length_drop] at h7
  rw [if_pos (by omega)]; exact h6
theorem putF_some {s s' : St} {b w : Nat} {e : TypeId} {cs : List Value} {v v' : Value} (h : putF s b w e cs v = some (v', s')) : putX s b w e cs v = some (v', s') := by
  obtain ⟨h', h1, h2⟩ := obind_some h
  rw [setH_eq] at h1
  simp only [putX, h1]; exact h2
theorem newF_some {s s' : St} {w : Nat} {e : TypeId} {cs : List Value} {v v' : Value} (h : newF s w e cs v = some (v', s')) : newX s w e cs v = some (v', s') := by
  obtain ⟨h', h1, h2⟩ := obind_some h
  rw [setH_eq] at h1
  simp only [newX, h1]; exact h2
theorem spF_some {s s' : St} {b o : Nat} {vs : List Value} {v : Value} (h : spF s b o vs = some (v, s')) : ∃ w e cs, s.h.get b = some (w, .row true e cs) ∧ o + vs.length ≤ cs.length ∧ putX s b w e (spliceL cs o vs) undef = some (v, s') := by
  obtain ⟨p, h1, h2⟩ := obind_some h
  obtain ⟨cs', h3, h4⟩ := obind_some h2
  obtain ⟨B, h5, h6⟩ := obind_some h1
  obtain ⟨q, h7, h8⟩ := obind_some h6
  obtain ⟨h9, h10⟩ := bsel_some h8
  obtain ⟨w, B⟩ := B
  obtain ⟨r, e, cs⟩ := q
  have hB := rowB_some h7
  simp only at hB h9
  subst hB; subst h9
  injection h10 with h10; subst h10
  obtain ⟨h11, h12⟩ := splL_some h3
  subst h12
  exact ⟨w, e, cs, h5, h11, putF_some h4⟩
theorem st1F_some {x v r : Value} {s s' : St} (h : st1F x v s = some (r, s')) : st1X x v s = some (r, s') := by
  obtain ⟨h1, h2⟩ := bsel_some h
  obtain ⟨b, o, h3, h4⟩ := obind2_some h2
  obtain ⟨w, e, cs, h5, h6, h7⟩ := spF_some h4
  rw [asAt_some h3]
  have ho : o < cs.length := by have := h6; simp only [List.length_singleton] at this; omega
  simp only [st1X, h5]
  rw [if_pos ⟨ho, by rw [← oneF_eq]; exact h1⟩, ← splice_one _ _ _ ho]
  exact h7
theorem stF_some {n : Nat} {x r : Value} {vs : List Value} {s s' : St} (h : stF n x vs s = some (r, s')) : stX n x vs s = some (r, s') := by
  obtain ⟨h1, h2⟩ := bsel_some h
  obtain ⟨h2, h2'⟩ := bsel_some h2
  obtain ⟨b, o, h3, h4⟩ := obind2_some h2'
  obtain ⟨w, e, cs, h5, h6, h7⟩ := spF_some h4
  have hn := Nat.eq_of_beq_eq_true h2
  rw [lenF_eq] at hn
  rw [allF_eq] at h1
  rw [asAt_some h3]
  simp only [stX, h5]
  rw [if_pos ⟨hn, by omega, h1⟩]
  exact h7
theorem evsF_eq : ∀ (l : List Operand) (ρ : Tr Value), evsF l ρ = l.map (ev (evT ρ))
  | [], _ => rfl
  | x :: l, ρ => by show evF x ρ :: evsF l ρ = _; rw [evF_eq, evsF_eq l ρ]; rfl

def CallSub (cf cx : CallX) : Prop := ∀ f args s r, cf f args s = some r → cx f args s = some r

theorem wF_some {cf cx : CallX} (hc : CallSub cf cx) {e : WExp} {ρ : Tr Value} {s s' : St} {r : Value} (h : wF cf e ρ s = some (r, s')) : wX cx e ρ s = some (r, s') := by
  cases e
  case alloc e z => exact newF_some h
  case box e x => exact h
  case bslice e n z ps =>
    obtain ⟨cs, h1, h2⟩ := obind_some (show obind (fillP ps (repl n z) ρ) (fun cs => bsel (allF cs) (newF s 0 e cs (.slice (some ⟨s.next, 0, none⟩) n n)) none) = some (r, s') from h)
    obtain ⟨h3, h4⟩ := bsel_some h2
    rw [allF_eq] at h3
    simp only [wX, fillP_some h1]
    rw [if_pos h3]; exact newF_some h4
  case mksl e b z l c => exact h
  case st1 x v =>
    have := st1F_some (show st1F (evF x ρ) (evF v ρ) s = some (r, s') from h)
    simp only [evF_eq] at this
    exact this
  case stN n x v =>
    have := stF_some (show stF n (evF x ρ) (cellsF (evF v ρ)) s = some (r, s') from h)
    simp only [evF_eq, cellsF_eq] at this
    exact this
  case app e b z x y =>
    have := (show appX e b z.length (evF x ρ) (evF y ρ) s = some (r, s') from h)
    simp only [evF_eq] at this
    exact this
  case cpy n d y =>
    have := (show cpyX n (evF d ρ) (evF y ρ) s = some (r, s') from h)
    simp only [evF_eq] at this
    exact this
  case call f args =>
    have := (show cf f (evsF args ρ) s = some (r, s') from h)
    rw [evsF_eq] at this
    exact hc _ _ _ _ this
  case callv x args =>
    have := (show wX cf (.callv x args) ρ s = some (r, s') from h)
    simp only [wX] at this ⊢
    split at this <;> first | (cases this; done) | skip
    rename_i f a c hf
    exact hc _ _ _ _ this
  case ext k args => cases h

theorem orcF_eq (v : Value) (s : St) : orcF v s = some (orcV v s) := by
  obtain ⟨h, n, c, o, b⟩ := s
  cases o with
  | nil => rfl
  | cons p r =>
    obtain ⟨k, q⟩ := p
    show bsel (Nat.beq k c) _ _ = _
    rw [bsel_eq]
    simp only [orcV]
    cases Nat.beq k c <;> rfl

theorem actF_some {cf cx : CallX} (hc : CallSub cf cx) {a : AAct} {ρ : Tr Value} {s s' : St} {r : Value} (h : actF cf a ρ s = some (r, s')) : actX cx a ρ s = some (r, s') := by
  cases a
  case p e =>
    obtain ⟨v, h1, h2⟩ := obind_some (show obind (valF e ρ) (fun v => orcF v s) = some (r, s') from h)
    rw [orcF_eq] at h2
    simp only [actX, valF_some h1]; exact h2
  case r1 x =>
    obtain ⟨v, h1, h2⟩ := obind_some (show obind (ldF s (evF x ρ)) (fun v => some (v, s)) = some (r, s') from h)
    rw [evF_eq] at h1
    simp only [actX, ldF_some h1]; exact h2
  case rN n x =>
    obtain ⟨v, h1, h2⟩ := obind_some (show obind (ldNF n s (evF x ρ)) (fun v => some (v, s)) = some (r, s') from h)
    rw [evF_eq] at h1
    simp only [actX, ldNF_some h1]; exact h2
  case w e => exact wF_some hc h

theorem wantF_eq (g : Option (Nat × Bool)) (ρ : Tr Value) : wantF g ρ = wantedG g (evT ρ) := by
  cases g with
  | none => rfl
  | some p =>
    obtain ⟨t, w⟩ := p
    show wantV1 w (unO (getV ρ t)) = _
    rw [unO_eq, wantedG_app]
    generalize evT ρ t = v
    cases v <;> first | rfl | skip
    rename_i b
    cases b <;> cases w <;> rfl
theorem putTF_eq (d : Option Nat) (ρ : Tr Value) (v : Value) : putTF d ρ v = putT ρ d v := by cases d <;> rfl

theorem opsF_some {cf cx : CallX} (hc : CallSub cf cx) : ∀ {os : List AOper} {ρ : Tr Value} {s : St} {r : Tr Value × St}, opsF cf os ρ s = some r → opsX cx os ρ s = some r
  | [], _, _, _, h => h
  | o :: os, ρ, s, r, h => by
    have h : bsel (wantF o.g ρ) (obind2 (actF cf o.act ρ s) fun v s' => obind (putTF o.dst ρ v) fun ρ' => opsF cf os ρ' s') (obind (putTF o.dst ρ undef) fun ρ' => opsF cf os ρ' s) = some r := h
    rw [bsel_eq, wantF_eq] at h
    simp only [opsX]
    cases hw : wantedG o.g (evT ρ) with
    | true =>
      rw [hw] at h
      simp only [cond_true] at h ⊢
      obtain ⟨v, s1, h1, h2⟩ := obind2_some h
      obtain ⟨ρ1, h3, h4⟩ := obind_some h2
      rw [putTF_eq] at h3
      rw [actF_some hc h1]; simp only [h3]; exact opsF_some hc h4
    | false =>
      rw [hw] at h
      simp only [cond_false] at h ⊢
      obtain ⟨ρ1, h3, h4⟩ := obind_some h
      rw [putTF_eq] at h3
      simp only [h3]; exact opsF_some hc h4

theorem passF_eq (c : Bool) (s : St) : passF c s = passX c s := by
  obtain ⟨h, n, t, o, b⟩ := s
  cases o with
  | nil => cases c <;> rfl
  | cons p r =>
    obtain ⟨k, q⟩ := p
    show bsel (Nat.beq k t) _ (bsel c _ none) = _
    rw [bsel_eq, bsel_eq]
    cases hk : Nat.beq k t <;> cases c <;> simp [passX, hk]

theorem drawF_some {cf cx : CallX} (hc : CallSub cf cx) : ∀ {os : List DOper} {ps : List PX} {ρ : Tr Value} {s : St} {r : Tr Value × St}, drawF cf os ps ρ s = some r → drawX cx ps os ρ s = some r
  | [], _, _, _, _, h => h
  | o :: os, ps, ρ, s, r, h => by
    have h : bsel (wantF o.op.g ρ) (obind2 (actF cf o.op.act ρ s) fun v s' => obind (putTF o.op.dst ρ v) fun ρ' => obind2 (pendF ps o.idx o.un v ρ s' o.op.act) fun p' s'' => drawF cf os p' ρ' s'') (obind (putTF o.op.dst ρ undef) fun ρ' => drawF cf os ps ρ' s) = some r := h
    rw [bsel_eq, wantF_eq] at h
    simp only [drawX]
    cases hw : wantedG o.op.g (evT ρ) with
    | true =>
      rw [hw] at h
      simp only [cond_true] at h ⊢
      obtain ⟨v, s1, h1, h2⟩ := obind2_some h
      obtain ⟨ρ1, h3, h4⟩ := obind_some h2
      obtain ⟨p', s2, h5, h6⟩ := obind2_some h4
      rw [putTF_eq] at h3
      rw [actF_some hc h1]; simp only [h3]
      have h7 := drawF_some hc h6
      cases hact : o.op.act with
      | p e => rw [hact] at h5; injection h5 with h5; injection h5 with h5 h5'; subst h5; subst h5'; exact h7
      | r1 x => rw [hact] at h5; injection h5 with h5; injection h5 with h5 h5'; subst h5; subst h5'; rw [evF_eq] at h7; exact h7
      | rN n x => rw [hact] at h5; injection h5 with h5; injection h5 with h5 h5'; subst h5; subst h5'; rw [evF_eq] at h7; exact h7
      | w e =>
        rw [hact] at h5
        simp only
        obtain ⟨s3, h8, h9⟩ := obind_some (show obind (List.rec (passF true s1) (fun _ _ _ => passF (chkF s1 o.un ps) s1) o.un) (fun s'' => some (ps, s'')) = some (p', s2) from h5)
        injection h9 with h9; injection h9 with e1 e2; subst e1; subst e2
        have hchk : passX (chkX s1 o.un ps) s1 = some s3 := by
          rw [← passF_eq]
          cases hun : o.un with
          | nil =>
            rw [hun] at h8
            have : ∀ ps : List PX, chkX s1 [] ps = true := by
              intro ps
              induction ps with
              | nil => rfl
              | cons p ps ih => simp [chkX, ih]
            rw [this ps]; exact h8
          | cons i un => rw [hun] at h8; exact h8
        rw [hchk]
        exact h7
    | false =>
      rw [hw] at h
      simp only [cond_false] at h ⊢
      obtain ⟨ρ1, h3, h4⟩ := obind_some h
      rw [putTF_eq] at h3
      simp only [h3]; exact drawF_some hc h4

theorem branchF_some {s : St} {v : Value} {k : Bool → St → XR} {r : AExit × Tr Value × St} (h : branchF s v k = some r) : ∃ b s', branch s v = some (b, s') ∧ k b s' = some r := by
  unfold branch
  cases ho : s.orc with
  | nil =>
    have h : brN s v k = some r := by unfold branchF at h; rw [ho] at h; exact h
    obtain ⟨b, h1, h2⟩ := obind_some h
    rw [asBool_some h1]
    exact ⟨b, s, rfl, h2⟩
  | cons p l =>
    obtain ⟨i, b0⟩ := p
    have h : brC s v k (i, b0) l = some r := by unfold branchF at h; rw [ho] at h; exact h
    unfold brC at h
    rw [bsel_eq] at h
    simp only at h ⊢
    cases hi : Nat.beq i s.cnt with
    | true => rw [hi] at h; exact ⟨b0, _, rfl, h⟩
    | false =>
      rw [hi] at h
      simp only [cond_false] at h ⊢
      obtain ⟨b, h1, h2⟩ := obind_some h
      rw [asBool_some h1]
      rw [ho] at h2
      exact ⟨b, _, rfl, h2⟩

theorem then1_some {r : XR} {k : XS} {q : AExit × Tr Value × St} (h : then1 r k = some q) : (∃ ρ s, r = some (.normal, ρ, s) ∧ k ρ s = some q) ∨ (∃ e ρ s, r = some (e, ρ, s) ∧ e ≠ .normal ∧ q = (e, ρ, s)) := by
  obtain ⟨e, p, h1, h2⟩ := obind2_some h
  obtain ⟨ρ, s⟩ := p
  have h2 : norm k e ρ s = some q := h2
  cases e with
  | normal => exact .inl ⟨ρ, s, h1, h2⟩
  | ret => injection h2 with h2; exact .inr ⟨_, ρ, s, h1, by simp, h2.symm⟩
  | exit i => injection h2 with h2; exact .inr ⟨_, ρ, s, h1, by simp, h2.symm⟩

theorem iterF_some {f g : XS} (hfg : ∀ ρ s r, f ρ s = some r → g ρ s = some r) : ∀ {n : Nat} {ρ : Tr Value} {s : St} {r : AExit × Tr Value × St}, iterF f n ρ s = some r → iterX g n ρ s = some r
  | 0, _, _, _, h => by cases h
  | n + 1, ρ, s, r, h => by
    have h : then1 (f ρ s) (iterF f n) = some r := h
    simp only [iterX]
    rcases then1_some h with ⟨ρ1, s1, h1, h2⟩ | ⟨e, ρ1, s1, h1, h2, h3⟩
    · rw [hfg _ _ _ h1]; exact iterF_some hfg h2
    · rw [hfg _ _ _ h1, h3]
      cases e with
      | normal => exact absurd rfl h2
      | ret => rfl
      | exit i => rfl

theorem execF_some {cf cx : CallX} (hc : CallSub cf cx) (fuel : Nat) : ∀ {c : ACode} {ρ : Tr Value} {s : St} {r : AExit × Tr Value × St}, execF cf fuel c ρ s = some r → execX cx fuel c ρ s = some r
  | .skip, _, _, _, h => h
  | .ret, _, _, _, h => h
  | .exit _, _, _, _, h => h
  | .region os, ρ, s, r, h => by
    obtain ⟨p, h1, h2⟩ := obind_some (show obind (opsF cf os ρ s) (fun p => some (.normal, p)) = some r from h)
    obtain ⟨ρ1, s1⟩ := p
    simp only [execX, opsF_some hc h1]; exact h2
  | .draw os, ρ, s, r, h => by
    obtain ⟨p, h1, h2⟩ := obind_some (show obind (drawF cf os [] ρ s) (fun p => some (.normal, p)) = some r from h)
    obtain ⟨ρ1, s1⟩ := p
    simp only [execX, drawF_some hc h1]; exact h2
  | .seq a b, ρ, s, r, h => by
    have h : then1 (execF cf fuel a ρ s) (execF cf fuel b) = some r := h
    simp only [execX]
    rcases then1_some h with ⟨ρ1, s1, h1, h2⟩ | ⟨e, ρ1, s1, h1, h2, h3⟩
    · rw [execF_some hc fuel h1]; exact execF_some hc fuel h2
    · rw [execF_some hc fuel h1, h3]
      cases e with
      | normal => exact absurd rfl h2
      | ret => rfl
      | exit i => rfl
  | .cond c a b, ρ, s, r, h => by
    obtain ⟨t, s1, h1, h2⟩ := branchF_some (show branchF s (evF c ρ) (fun t s' => bsel t (execF cf fuel a ρ s') (execF cf fuel b ρ s')) = some r from h)
    rw [evF_eq] at h1
    simp only [execX, h1]
    cases t with
    | true => exact execF_some hc fuel h2
    | false => exact execF_some hc fuel h2
  | .block id a, ρ, s, r, h => by
    obtain ⟨e, p, h1, h2⟩ := obind2_some (show obind2 (execF cf fuel a ρ s) (blk1 id) = some r from h)
    obtain ⟨ρ1, s1⟩ := p
    simp only [execX, execF_some hc fuel h1]
    cases e with
    | normal => exact h2
    | ret => exact h2
    | exit i =>
      have h2 : bsel (Nat.beq i id) (some (.normal, ρ1, s1)) (some (.exit i, ρ1, s1)) = some r := h2
      rw [bsel_eq] at h2
      exact h2
  | .loop a, ρ, s, r, h => iterF_some (fun _ _ _ hh => execF_some hc fuel hh) h

theorem resF1_some {r : ARes} {ρ : Tr Value} {s : St} {v : Value} (h : resF1 r ρ s = some v) : resX1 ρ s r = some v := by
  cases r with
  | tmp t =>
    have h : some (evF (.tmp t) ρ) = some v := h
    rw [evF_eq] at h; exact h
  | c1 t =>
    have h : ldF s (evF (.tmp t) ρ) = some v := h
    rw [evF_eq] at h; exact ldF_some h
  | cN n t =>
    have h : ldNF n s (evF (.tmp t) ρ) = some v := h
    rw [evF_eq] at h; exact ldNF_some h
theorem resFs_some : ∀ {l : List ARes} {ρ : Tr Value} {s : St} {vs : List Value}, resFs l ρ s = some vs → resXs ρ s l = some vs
  | [], _, _, _, h => h
  | r :: l, ρ, s, vs, h => by
    obtain ⟨v, h1, h2⟩ := obind_some (show obind (resF1 r ρ s) (fun v => obind (resFs l ρ s) fun vs => some (v :: vs)) = some vs from h)
    obtain ⟨vs', h3, h4⟩ := obind_some h2
    simp only [resXs, resF1_some h1, resFs_some h3]; exact h4
theorem resXs_len : ∀ {l : List ARes} {ρ : Tr Value} {s : St} {vs : List Value}, resXs ρ s l = some vs → vs.length = l.length
  | [], _, _, _, h => by injection h with h; subst h; rfl
  | r :: l, ρ, s, vs, h => by
    simp only [resXs] at h
    split at h <;> first | (cases h; done) | skip
    rename_i v vs0 h1 h2
    injection h with h; subst h
    simp [resXs_len h2]
theorem resF_some {ρ : Tr Value} {s : St} {l : List ARes} {v : Value} (h : resF ρ s l = some v) : resX ρ s l = some v := by
  obtain ⟨vs, h1, h2⟩ := obind_some h
  have h3 := resFs_some h1
  have h4 := resXs_len h3
  match l, h3, h4 with
  | [], h3, h4 =>
    have : vs = [] := List.eq_nil_of_length_eq_zero h4
    subst this
    simp only [resX, h3]; exact h2
  | [r], h3, h4 =>
    match vs, h4 with
    | [x], _ =>
      simp only [resXs] at h3
      split at h3 <;> first | (cases h3; done) | skip
      rename_i v0 vs0 g1 g2
      injection h3 with h3; injection h3 with e1 e2; subst e1
      simp only [resX, g1]; exact h2
  | r :: r2 :: l, h3, h4 =>
    match vs, h4 with
    | x :: y :: vs, _ => simp only [resX, h3]; exact h2

theorem fillF_some : ∀ {l : List Value} {i : Nat} {ρ ρ' : Tr Value}, fillF l i ρ = some ρ' → fillX l i ρ = some ρ'
  | [], _, _, _, h => h
  | v :: l, i, ρ, ρ', h => by
    obtain ⟨ρ1, h1, h2⟩ := obind_some (show obind (setV ρ i (some v)) (fun ρ' => fillF l (Nat.succ i) ρ') = some ρ' from h)
    rw [setV_eq] at h1
    simp only [fillX, h1]; exact fillF_some h2

theorem runF_some {ext : FuncId → List Value → Option Value} {tbl : Tr AFunc} {fuel : Nat} : ∀ n, CallSub (runF ext tbl fuel n) (runX ext tbl fuel n)
  | 0 => fun _ _ _ _ h => by cases h
  | n + 1 => by
    intro f args s r h
    have ih := runF_some (ext := ext) (tbl := tbl) (fuel := fuel) n
    have h : runC ext tbl fuel n (runF ext tbl fuel n) f args s = some r := h
    unfold runC at h
    simp only [runX]
    cases he : ext f args with
    | some v => rw [he] at h; exact h
    | none =>
      rw [he] at h
      obtain ⟨F, h1, h2⟩ := obind_some (show obind (getF tbl f) (callF (runF ext tbl fuel n) fuel args s) = some r from h)
      rw [getF_eq] at h1
      obtain ⟨h3, h4⟩ := bsel_some h2
      obtain ⟨ρ, h5, h6⟩ := obind_some h4
      obtain ⟨e, p, h7, h8⟩ := obind2_some h6
      obtain ⟨ρ1, s1⟩ := p
      have h8 : endF F.res e ρ1 s1 = some r := h8
      have h3 := Nat.le_of_ble_eq_true h3
      rw [lenF_eq] at h3
      simp only [h1]
      rw [if_pos h3]
      simp only [fillF_some h5, execF_some ih fuel h7]
      cases e with
      | normal =>
        obtain ⟨v, h9, h10⟩ := obind_some (show obind (resF ρ1 s1 F.res) (fun v => some (v, s1)) = some r from h8)
        simp only [resF_some h9]; exact h10
      | ret =>
        obtain ⟨v, h9, h10⟩ := obind_some (show obind (resF ρ1 s1 F.res) (fun v => some (v, s1)) = some r from h8)
        simp only [resF_some h9]; exact h10
      | exit i => cases h8

/-- A run that was reckoned, of a whole call. -/
theorem calls_of_run {P : Program} {ext : FuncId → List Value → Option Value} {tbl : Tr AFunc} (ht : TblOk P ext tbl) {fuel n : Nat} {f : FuncId} {args : List Value} {s s' : St} {v : Value} (h : runF ext tbl fuel n f args s = some (v, s')) (hH : Holds s')
    {σ : Ren} {H : Heap} {args' : List Value} (ha : VRs σ args args') (hi : Img σ s H) : ACalls P f args' H fun v' H' => ∃ σ', RExt σ σ' ∧ VR σ' v v' ∧ Img σ' s' H' :=
  (runX_ok ht fuel n f args s v s' (runF_some n _ _ _ _ h)).2 hH σ H args' ha hi

/-- A run that was reckoned, of a piece of code. -/
theorem code_of_run {P : Program} {ext : FuncId → List Value → Option Value} {tbl : Tr AFunc} (ht : TblOk P ext tbl) {fuel n : Nat} {c : ACode} (hc : okC c = true) {ρ ρ2 : Tr Value} {s s' : St} {e : AExit} (h : execF (runF ext tbl fuel n) fuel c ρ s = some (e, ρ2, s')) (hH : Holds s')
    {σ : Ren} {H : Heap} {ρ' : Env} (hρ : ER σ ρ ρ') (hi : Img σ s H) {Q : AExit → Env → Heap → Prop} (hQ : AfterC σ e ρ2 s' Q) : wpA P c Q ρ' H :=
  exec_ok (runX_ok ht fuel n) fuel hc (execF_some (runF_some n) fuel h) hρ hi hH hQ
end Go.Am
