/- The interpreter's answers hold of every run: names stand for blocks, and a grown slice may have more room than it shows. No condition. -/
import Derived.Test.YtmephnenbboecaaAmX
set_option linter.unusedVariables false
set_option linter.unusedSimpArgs false
namespace Go.Am

abbrev Ren := List (Nat × Nat)

mutual
inductive VR (σ : Ren) : Value → Value → Prop where
  | bool (b : Bool) : VR σ (.bool b) (.bool b)
  | int (k : IntKind) (n : Int) : VR σ (.int k n) (.int k n)
  | str (s : ByteArray) : VR σ (.string s) (.string s)
  | nilp : VR σ (.pointer none) (.pointer none)
  | ptr (b o r k : Nat) (h : σ[b]? = some (r, k)) : VR σ (.pointer (some ⟨b, o, none⟩)) (.pointer (some ⟨r, o, none⟩))
  | nils (n c : Nat) : VR σ (.slice none n c) (.slice none n c)
  | sl (b o n c r k : Nat) (h : σ[b]? = some (r, k)) : VR σ (.slice (some ⟨b, o, none⟩) n c) (.slice (some ⟨r, o, none⟩) n (c + k))
  | fn (f : Fn) (a c a' c' : List Value) (h1 : VRs σ a a') (h2 : VRs σ c c') : VR σ (.func f ⟨a⟩ ⟨c⟩) (.func f ⟨a'⟩ ⟨c'⟩)
  | nilf : VR σ .nilFunc .nilFunc
  | nili : VR σ .nilIface .nilIface
  | agg (xs ys : List Value) (h : VRs σ xs ys) : VR σ (.agg ⟨xs⟩) (.agg ⟨ys⟩)
  | tup (xs ys : List Value) (h : VRs σ xs ys) : VR σ (.tuple ⟨xs⟩) (.tuple ⟨ys⟩)
inductive VRs (σ : Ren) : List Value → List Value → Prop where
  | nil : VRs σ [] []
  | cons (x y : Value) (xs ys : List Value) (h : VR σ x y) (hs : VRs σ xs ys) : VRs σ (x :: xs) (y :: ys)
end

def RExt (σ σ' : Ren) : Prop := ∃ t, σ' = σ ++ t

theorem RExt.refl (σ : Ren) : RExt σ σ := ⟨[], by simp⟩
theorem RExt.trans {a b c : Ren} (h : RExt a b) (h' : RExt b c) : RExt a c := by
  obtain ⟨t, rfl⟩ := h; obtain ⟨t', rfl⟩ := h'; exact ⟨t ++ t', by simp⟩
theorem RExt.get {σ σ' : Ren} (h : RExt σ σ') {b : Nat} {x : Nat × Nat} (hx : σ[b]? = some x) : σ'[b]? = some x := by
  obtain ⟨t, rfl⟩ := h
  rw [List.getElem?_append_left (List.getElem?_eq_some_iff.1 hx).1]; exact hx

mutual
theorem VR.ext {σ σ' : Ren} (h : RExt σ σ') : ∀ {x y : Value}, VR σ x y → VR σ' x y
  | _, _, .bool b => .bool b
  | _, _, .int k n => .int k n
  | _, _, .str s => .str s
  | _, _, .nilp => .nilp
  | _, _, .ptr b o r k hb => .ptr b o r k (h.get hb)
  | _, _, .nils n c => .nils n c
  | _, _, .sl b o n c r k hb => .sl b o n c r k (h.get hb)
  | _, _, .fn f a c a' c' h1 h2 => .fn f a c a' c' (VRs.ext h h1) (VRs.ext h h2)
  | _, _, .nilf => .nilf
  | _, _, .nili => .nili
  | _, _, .agg xs ys hh => .agg xs ys (VRs.ext h hh)
  | _, _, .tup xs ys hh => .tup xs ys (VRs.ext h hh)
theorem VRs.ext {σ σ' : Ren} (h : RExt σ σ') : ∀ {xs ys : List Value}, VRs σ xs ys → VRs σ' xs ys
  | _, _, .nil => .nil
  | _, _, .cons x y xs ys h1 h2 => .cons x y xs ys (VR.ext h h1) (VRs.ext h h2)
end

theorem VRs.length {σ : Ren} {xs ys : List Value} (h : VRs σ xs ys) : xs.length = ys.length := by
  induction xs generalizing ys with
  | nil => cases h; rfl
  | cons x xs ih => cases h with | cons _ y _ ys h hs => simp [ih hs]

theorem VRs.get {σ : Ren} {xs ys : List Value} (h : VRs σ xs ys) {i : Nat} {x : Value} (hx : xs[i]? = some x) : ∃ y, ys[i]? = some y ∧ VR σ x y := by
  induction xs generalizing ys i with
  | nil => simp at hx
  | cons x' xs ih =>
    cases h with
    | cons _ y _ ys h hs =>
      cases i with
      | zero => simp at hx; subst hx; exact ⟨y, by simp, h⟩
      | succ i => simp at hx; obtain ⟨y', h1, h2⟩ := ih hs hx; exact ⟨y', by simpa using h1, h2⟩

theorem VRs.append {σ : Ren} {xs ys xs' ys' : List Value} (h : VRs σ xs ys) (h' : VRs σ xs' ys') : VRs σ (xs ++ xs') (ys ++ ys') := by
  induction xs generalizing ys with
  | nil => cases h; exact h'
  | cons x xs ih => cases h with | cons _ y _ ys h hs => exact .cons _ _ _ _ h (ih hs)
theorem VRs.take {σ : Ren} {xs ys : List Value} (h : VRs σ xs ys) (n : Nat) : VRs σ (xs.take n) (ys.take n) := by
  induction xs generalizing ys n with
  | nil => cases h; simp; exact .nil
  | cons x xs ih =>
    cases h with
    | cons _ y _ ys h hs =>
      cases n with
      | zero => exact .nil
      | succ n => exact .cons _ _ _ _ h (ih hs n)
theorem VRs.drop {σ : Ren} {xs ys : List Value} (h : VRs σ xs ys) (n : Nat) : VRs σ (xs.drop n) (ys.drop n) := by
  induction xs generalizing ys n with
  | nil => cases h; simp; exact .nil
  | cons x xs ih =>
    cases h with
    | cons _ y _ ys h hs =>
      cases n with
      | zero => exact .cons _ _ _ _ h hs
      | succ n => exact ih hs n
theorem VRs.splice {σ : Ren} {xs ys vs us : List Value} (h : VRs σ xs ys) (h' : VRs σ vs us) (o : Nat) : VRs σ (spliceL xs o vs) (spliceL ys o us) := by
  unfold spliceL
  rw [← h'.length]
  exact ((h.take o).append h').append (h.drop _)
theorem VRs.set {σ : Ren} {xs ys : List Value} (h : VRs σ xs ys) {v u : Value} (hv : VR σ v u) (o : Nat) : VRs σ (xs.set o v) (ys.set o u) := by
  induction xs generalizing ys o with
  | nil => cases h; exact .nil
  | cons x xs ih =>
    cases h with
    | cons _ y _ ys h hs =>
      cases o with
      | zero => exact .cons _ _ _ _ hv hs
      | succ o => exact .cons _ _ _ _ h (ih hs o)
theorem VRs.repl {σ : Ren} {z z' : List Value} (h : VRs σ z z') (n : Nat) : VRs σ (Am.repl n z) (Am.repl n z') := by
  induction n with
  | zero => exact .nil
  | succ n ih => rw [repl_s, repl_s]; exact h.append ih

theorem VR.one {σ : Ren} {x y : Value} (h : VR σ x y) : y.oneCell' = x.oneCell' := by cases h <;> rfl
theorem VRs.allOne {σ : Ren} {xs ys : List Value} (h : VRs σ xs ys) : Am.allOne ys = Am.allOne xs := by
  induction xs generalizing ys with
  | nil => cases h; rfl
  | cons x xs ih => cases h with | cons _ y _ ys h hs => rw [all_cons, all_cons, h.one, ih hs]
theorem VR.cells {σ : Ren} {x y : Value} (h : VR σ x y) : VRs σ x.cells.toList y.cells.toList := by
  cases h <;> first | (rename_i hh; exact hh) | skip
  all_goals (refine .cons _ _ _ _ ?_ .nil)
  case bool => exact .bool _
  case int => exact .int _ _
  case str => exact .str _
  case nilp => exact .nilp
  case ptr h => exact .ptr _ _ _ _ h
  case nils => exact .nils _ _
  case sl h => exact .sl _ _ _ _ _ _ h
  case fn h1 h2 => exact .fn _ _ _ _ _ h1 h2
  case nilf => exact .nilf
  case nili => exact .nili
  case tup h => exact .tup _ _ h

-- what is written in the code
def leafB : Value → Bool
  | .bool _ | .int _ _ | .string _ | .pointer none | .slice none _ _ | .nilFunc | .nilIface => true
  | _ => false
def cleanB : Value → Bool
  | .agg xs => xs.toList.all leafB
  | .tuple xs => xs.toList.all leafB
  | .func _ a c => a.toList.all leafB && c.toList.all leafB
  | v => leafB v
theorem leaf_ok {σ : Ren} : ∀ {v : Value}, leafB v = true → VR σ v v
  | .bool b, _ => .bool b
  | .int k n, _ => .int k n
  | .string s, _ => .str s
  | .pointer none, _ => .nilp
  | .slice none n c, _ => .nils n c
  | .nilFunc, _ => .nilf
  | .nilIface, _ => .nili
theorem leafs_ok {σ : Ren} : ∀ {l : List Value}, l.all leafB = true → VRs σ l l
  | [], _ => .nil
  | v :: l, h => by
    simp only [List.all_cons, Bool.and_eq_true] at h
    exact .cons _ _ _ _ (leaf_ok h.1) (leafs_ok h.2)
theorem clean_ok {σ : Ren} : ∀ {v : Value}, cleanB v = true → VR σ v v
  | .agg ⟨xs⟩, h => .agg xs xs (leafs_ok h)
  | .tuple ⟨xs⟩, h => .tup xs xs (leafs_ok h)
  | .func f ⟨a⟩ ⟨c⟩, h => by
    simp only [cleanB, Bool.and_eq_true] at h
    exact .fn f a c a c (leafs_ok h.1) (leafs_ok h.2)
  | .bool b, _ => .bool b
  | .int k n, _ => .int k n
  | .string s, _ => .str s
  | .pointer none, _ => .nilp
  | .slice none n c, _ => .nils n c
  | .nilFunc, _ => .nilf
  | .nilIface, _ => .nili
theorem undef_ok {σ : Ren} : VR σ undef undef := .tup [] [] .nil

def okO : Operand → Bool
  | .tmp _ => true
  | .const v => cleanB v
  | .global _ => false
  | .func _ => true
def okL (z : List Value) : Bool := z.all leafB
def okPs : List (Nat × Nat × Operand) → Bool
  | [] => true
  | p :: ps => okO p.2.2 && okPs ps
def okE : PExp → Bool
  | .mv x | .nilck x | .not x | .conv _ x | .fieldA _ x | .part _ _ x | .extract _ x | .len _ x => okO x
  | .pick c a b => okO c && okO a && okO b
  | .ibin _ x y | .eqb _ x y | .eqp _ x y | .eqsl _ x y | .eqfn _ x y | .eqi _ _ x y | .idxArr _ _ x y | .idxSl _ x y | .min2 x y | .max2 x y => okO x && okO y
  | .build z ps => okL z && okPs ps
  | .slc _ x lo hi => okO x && (match lo with | some a => okO a | none => true) && (match hi with | some a => okO a | none => true)
  | .mkfn _ a c => a.all okO && c.all okO
def okW : WExp → Bool
  | .alloc _ z => okL z
  | .box _ x => okO x
  | .bslice _ _ z ps => okL z && okPs ps
  | .mksl _ _ z l c => okL z && okO l && okO c
  | .st1 x v | .stN _ x v => okO x && okO v
  | .app _ _ z x y => okL z && okO x && okO y
  | .cpy _ d y => okO d && okO y
  | .call _ args => args.all okO
  | .callv x args => okO x && args.all okO
  | .ext _ args => args.all okO
def okA : AAct → Bool
  | .p e => okE e
  | .r1 x | .rN _ x => okO x
  | .w e => okW e
def okC : ACode → Bool
  | .skip | .ret | .exit _ => true
  | .region os => os.all fun o => okA o.act
  | .draw os => os.all fun o => okA o.op.act
  | .seq a b => okC a && okC b
  | .cond c a b => okO c && okC a && okC b
  | .block _ a => okC a
  | .loop a => okC a

def ER (σ : Ren) (ρ : Tr Value) (ρ' : Env) : Prop := ∀ t, VR σ (evT ρ t) (ρ' t)

theorem ER.ext {σ σ' : Ren} {ρ : Tr Value} {ρ' : Env} (h : ER σ ρ ρ') (hh : RExt σ σ') : ER σ' ρ ρ' := fun t => (h t).ext hh
theorem ER.ev {σ : Ren} {ρ : Tr Value} {ρ' : Env} (h : ER σ ρ ρ') {x : Operand} (hx : okO x = true) : VR σ (ev (evT ρ) x) (ev ρ' x) := by
  cases x with
  | tmp t => exact h t
  | const v => exact clean_ok hx
  | global g => cases hx
  | func f => exact .fn _ [] [] [] [] .nil .nil
theorem ER.evs {σ : Ren} {ρ : Tr Value} {ρ' : Env} (h : ER σ ρ ρ') : ∀ {l : List Operand}, l.all okO = true → VRs σ (l.map (Am.ev (evT ρ))) (l.map (Am.ev ρ'))
  | [], _ => .nil
  | x :: l, hl => by
    simp only [List.all_cons, Bool.and_eq_true] at hl
    exact .cons _ _ _ _ (h.ev hl.1) (h.evs hl.2)
theorem ER.put {σ : Ren} {ρ ρ2 : Tr Value} {ρ' : Env} (h : ER σ ρ ρ') {d : Option Nat} {v v' : Value} (hv : VR σ v v') (hp : putT ρ d v = some ρ2) : ER σ ρ2 (Am.put ρ' d v') := by
  cases d with
  | none => simp only [putT, Option.some.injEq] at hp; subst hp; exact h
  | some d =>
    simp only [putT] at hp
    intro t
    simp only [evT, Tr.get_set _ _ _ _ hp t, Am.put, Env.set]
    by_cases ht : t = d
    · rw [if_pos ht, if_pos ht]; exact hv
    · rw [if_neg ht, if_neg ht]; exact h t
theorem ER.want {σ : Ren} {ρ : Tr Value} {ρ' : Env} (h : ER σ ρ ρ') (g : Option (Nat × Bool)) : wantedG g ρ' = wantedG g (evT ρ) := by
  cases g with
  | none => rfl
  | some p =>
    obtain ⟨t, w⟩ := p
    simp only [wantedG]
    have := h t
    generalize evT ρ t = x at this
    generalize ρ' t = y at this
    cases this <;> rfl

-- the pure operations
theorem bin_ok {σ : Ren} {op : BinOp} {x y x' y' v : Value} (hx : VR σ x x') (hy : VR σ y y') (h : abin op x y = some v) : abin op x' y' = some v ∧ VR σ v v := by
  unfold abin at h
  split at h
  · cases hx; cases hy
    refine ⟨h, ?_⟩
    have : ∃ k n, v = .int k n ∨ ∃ b, v = .bool b := by
      cases op <;> simp only at h
      all_goals (split at h <;> first | (cases h; done) | skip)
      all_goals (try (split at h <;> first | (cases h; done) | skip))
      all_goals (injection h with h; subst h; first | exact ⟨_, _, .inl rfl⟩ | exact ⟨.i64, 0, .inr ⟨_, rfl⟩⟩)
    obtain ⟨k, n, rfl | ⟨b, rfl⟩⟩ := this
    · exact .int _ _
    · exact .bool _
  · cases h

theorem fill_ok {σ : Ren} {ρ : Tr Value} {ρ' : Env} (h : ER σ ρ ρ') : ∀ {ps : List (Nat × Nat × Operand)} {cs cs' : List Value} {r : List Value}, okPs ps = true → VRs σ cs cs' → fillL cs (evParts (evT ρ) ps) = some r → ∃ r', fillL cs' (evParts ρ' ps) = some r' ∧ VRs σ r r'
  | [], cs, cs', r, _, hc, hf => by
    simp only [evParts, fillL, Option.some.injEq] at hf; subst hf
    exact ⟨cs', rfl, hc⟩
  | (o, n, x) :: ps, cs, cs', r, hp, hc, hf => by
    simp only [okPs, Bool.and_eq_true] at hp
    have hx := (h.ev hp.1).cells
    simp only [evParts, fillL] at hf ⊢
    split at hf
    · rename_i hh
      have h1 : (ev ρ' x).cells.size = n := by have := hx.length; simp only [Array.length_toList] at this; omega
      have h2 : o + n ≤ cs'.length := by rw [← hc.length]; exact hh.2
      obtain ⟨r', h3, h4⟩ := fill_ok h hp.2 (hc.splice hx o) hf
      exact ⟨r', by rw [if_pos ⟨h1, h2⟩]; exact h3, h4⟩
    · cases hf

theorem bound_ok {σ : Ren} {ρ : Tr Value} {ρ' : Env} (h : ER σ ρ ρ') {d : Nat} {o : Option Operand} {n : Nat} (ho : (match o with | some a => okO a | none => true) = true) (hb : boundV d (o.map (ev (evT ρ))) = some n) : boundV d (o.map (ev ρ')) = some n := by
  cases o with
  | none => exact hb
  | some a =>
    simp only [Option.map_some] at hb ⊢
    have := h.ev (x := a) ho
    generalize ev (evT ρ) a = x at *
    generalize ev ρ' a = y at *
    cases this <;> first | exact hb | (cases hb; done)

theorem eqi_ok {σ : Ren} : ∀ {offs : List Nat} {xs ys xs' ys' : List Value} {b : Bool}, VRs σ xs xs' → VRs σ ys ys' → eqiV offs ⟨xs⟩ ⟨ys⟩ = some b → eqiV offs ⟨xs'⟩ ⟨ys'⟩ = some b
  | [], _, _, _, _, _, _, _, h => h
  | o :: offs, xs, ys, xs', ys', b, hx, hy, h => by
    simp only [eqiV] at h ⊢
    split at h
    · rename_i k a k' b' h1 h2
      have h1' : xs[o]? = some (.int k a) := by simpa using h1
      have h2' : ys[o]? = some (.int k' b') := by simpa using h2
      obtain ⟨x2, g1, g2⟩ := hx.get h1'
      obtain ⟨y2, g3, g4⟩ := hy.get h2'
      cases g2; cases g4
      have e1 : (⟨xs'⟩ : Array Value)[o]? = some (.int k a) := by simpa using g1
      have e2 : (⟨ys'⟩ : Array Value)[o]? = some (.int k' b') := by simpa using g3
      rw [e1, e2]
      simp only
      split at h
      · rename_i hk
        rw [if_pos hk]
        split at h
        · rename_i ha; rw [if_pos ha]; exact eqi_ok hx hy h
        · rename_i ha; rw [if_neg ha]; exact h
      · cases h
    · cases h

theorem val_ok {σ : Ren} {ρ : Tr Value} {ρ' : Env} (h : ER σ ρ ρ') {e : PExp} (he : okE e = true) {v : Value} (hv : valX ρ e = some v) : ∃ v', e.val ρ' = some v' ∧ VR σ v v' := by
  cases e with
  | mv x => simp only [valX, PExp.val, Option.some.injEq] at hv; subst hv; exact ⟨_, rfl, h.ev he⟩
  | pick c a b =>
    simp only [okE, Bool.and_eq_true] at he
    have hc := h.ev he.1.1
    have ha := h.ev he.1.2
    have hb := h.ev he.2
    simp only [valX, PExp.val] at hv ⊢
    generalize ev (evT ρ) c = x at *
    generalize ev ρ' c = y at *
    cases hc with
    | bool t => cases t <;> simp only [pickV, Option.some.injEq] at hv ⊢ <;> subst hv <;> exact ⟨_, rfl, by assumption⟩
    | _ => cases hv
  | nilck x =>
    have hx := h.ev (x := x) he
    simp only [valX, PExp.val] at hv ⊢
    generalize ev (evT ρ) x = a at *
    generalize ev ρ' x = b at *
    cases hx with
    | ptr b o r k hb => simp only [nilckV, Option.some.injEq] at hv ⊢; subst hv; exact ⟨_, rfl, .ptr _ _ _ _ hb⟩
    | fn f a c a' c' h1 h2 => cases f <;> simp only [nilckV, Option.some.injEq, reduceCtorEq] at hv ⊢ <;> subst hv <;> exact ⟨_, rfl, .fn _ _ _ _ _ h1 h2⟩
    | _ => cases hv
  | ibin op x y =>
    simp only [okE, Bool.and_eq_true] at he
    simp only [valX, PExp.val] at hv ⊢
    exact ⟨v, (bin_ok (h.ev he.1) (h.ev he.2) hv).1, (bin_ok (h.ev he.1) (h.ev he.2) hv).2⟩
  | eqb n x y =>
    simp only [okE, Bool.and_eq_true] at he
    have hx := h.ev he.1
    have hy := h.ev he.2
    simp only [valX, PExp.val] at hv ⊢
    generalize ev (evT ρ) x = a at *
    generalize ev ρ' x = a' at *
    generalize ev (evT ρ) y = b at *
    generalize ev ρ' y = b' at *
    cases hx <;> cases hy <;> first | (cases hv; done) | (simp only [eqbV, Option.some.injEq] at hv ⊢; subst hv; exact ⟨_, rfl, .bool _⟩)
  | eqp n x y =>
    simp only [okE, Bool.and_eq_true] at he
    have hx := h.ev he.1
    have hy := h.ev he.2
    simp only [valX, PExp.val] at hv ⊢
    generalize ev (evT ρ) x = a at *
    generalize ev ρ' x = a' at *
    generalize ev (evT ρ) y = b at *
    generalize ev ρ' y = b' at *
    cases hx <;> cases hy <;> first | (cases hv; done) | (simp only [eqpV, Option.some.injEq] at hv ⊢; subst hv; exact ⟨_, rfl, .bool _⟩)
  | eqsl n x y =>
    simp only [okE, Bool.and_eq_true] at he
    have hx := h.ev he.1
    have hy := h.ev he.2
    simp only [valX, PExp.val] at hv ⊢
    generalize ev (evT ρ) x = a at *
    generalize ev ρ' x = a' at *
    generalize ev (evT ρ) y = b at *
    generalize ev ρ' y = b' at *
    cases hx <;> cases hy <;> first | (cases hv; done) | (simp only [eqslV, Option.some.injEq] at hv ⊢; subst hv; exact ⟨_, rfl, .bool _⟩)
  | eqfn n x y =>
    simp only [okE, Bool.and_eq_true] at he
    have hx := h.ev he.1
    have hy := h.ev he.2
    simp only [valX, PExp.val] at hv ⊢
    generalize ev (evT ρ) x = a at *
    generalize ev ρ' x = a' at *
    generalize ev (evT ρ) y = b at *
    generalize ev ρ' y = b' at *
    cases hx <;> cases hy <;> first | (cases hv; done) | (simp only [eqfnV, Option.some.injEq] at hv ⊢; subst hv; exact ⟨_, rfl, .bool _⟩)
  | eqi n offs x y =>
    simp only [okE, Bool.and_eq_true] at he
    have hx := h.ev he.1
    have hy := h.ev he.2
    simp only [valX, PExp.val] at hv ⊢
    generalize ev (evT ρ) x = a at *
    generalize ev ρ' x = a' at *
    generalize ev (evT ρ) y = b at *
    generalize ev ρ' y = b' at *
    cases hx <;> cases hy <;> first | (cases hv; done) | skip
    rename_i h1 _ _ h2
    simp only [Option.map_eq_some_iff] at hv ⊢
    obtain ⟨t, h3, h4⟩ := hv
    subst h4
    exact ⟨_, ⟨t, eqi_ok h1 h2 h3, rfl⟩, .bool _⟩
  | not x =>
    have hx := h.ev (x := x) he
    simp only [valX, PExp.val] at hv ⊢
    generalize ev (evT ρ) x = a at *
    generalize ev ρ' x = a' at *
    cases hx <;> first | (cases hv; done) | (simp only [notV, Option.some.injEq] at hv ⊢; subst hv; exact ⟨_, rfl, .bool _⟩)
  | conv k x =>
    have hx := h.ev (x := x) he
    simp only [valX, PExp.val] at hv ⊢
    generalize ev (evT ρ) x = a at *
    generalize ev ρ' x = a' at *
    cases hx <;> first | (cases hv; done) | (simp only [convV, Option.some.injEq] at hv ⊢; subst hv; exact ⟨_, rfl, .int _ _⟩)
  | fieldA off x =>
    have hx := h.ev (x := x) he
    simp only [valX, PExp.val] at hv ⊢
    generalize ev (evT ρ) x = a at *
    generalize ev ρ' x = a' at *
    cases hx with
    | ptr b o r k hb => simp only [fieldAV, Option.some.injEq] at hv ⊢; subst hv; exact ⟨_, rfl, .ptr _ _ _ _ hb⟩
    | _ => cases hv
  | idxArr n st x i =>
    simp only [okE, Bool.and_eq_true] at he
    have hx := h.ev he.1
    have hy := h.ev he.2
    simp only [valX, PExp.val] at hv ⊢
    generalize ev (evT ρ) x = a at *
    generalize ev ρ' x = a' at *
    generalize ev (evT ρ) i = b at *
    generalize ev ρ' i = b' at *
    cases hx <;> first | (cases hv; done) | skip
    rename_i hb
    cases hy <;> first | (cases hv; done) | skip
    simp only [idxArrV] at hv ⊢
    split at hv
    · rename_i hh; rw [if_pos hh]; injection hv with hv; subst hv; exact ⟨_, rfl, .ptr _ _ _ _ hb⟩
    · cases hv
  | idxSl st x i =>
    simp only [okE, Bool.and_eq_true] at he
    have hx := h.ev he.1
    have hy := h.ev he.2
    simp only [valX, PExp.val] at hv ⊢
    generalize ev (evT ρ) x = a at *
    generalize ev ρ' x = a' at *
    generalize ev (evT ρ) i = b at *
    generalize ev ρ' i = b' at *
    cases hx <;> first | (cases hv; done) | skip
    rename_i hb
    cases hy <;> first | (cases hv; done) | skip
    simp only [idxSlV] at hv ⊢
    split at hv
    · rename_i hh; rw [if_pos hh]; injection hv with hv; subst hv; exact ⟨_, rfl, .ptr _ _ _ _ hb⟩
    · cases hv
  | part off n x =>
    have hx := h.ev (x := x) he
    simp only [valX, PExp.val] at hv ⊢
    generalize ev (evT ρ) x = a at *
    generalize ev ρ' x = a' at *
    cases hx <;> first | (cases hv; done) | skip
    rename_i hh
    cases n with
    | none =>
      simp only [partV] at hv ⊢
      obtain ⟨y, h1, h2⟩ := hh.get (i := off) (x := v) (by simpa using hv)
      exact ⟨y, by simpa using h1, h2⟩
    | some m =>
      simp only [partV, Option.some.injEq] at hv ⊢
      subst hv
      refine ⟨_, rfl, ?_⟩
      have e : ∀ l : List Value, (⟨l⟩ : Array Value).extract off (off + m) = ⟨(l.drop off).take m⟩ := fun l => by apply Array.ext'; simp
      rw [e, e]
      exact .agg _ _ ((hh.drop _).take _)
  | extract i x =>
    have hx := h.ev (x := x) he
    simp only [valX, PExp.val] at hv ⊢
    generalize ev (evT ρ) x = a at *
    generalize ev ρ' x = a' at *
    cases hx <;> first | (cases hv; done) | skip
    rename_i hh
    simp only [extractV] at hv ⊢
    obtain ⟨y, h1, h2⟩ := hh.get (i := i) (x := v) (by simpa using hv)
    exact ⟨y, by simpa using h1, h2⟩
  | build z ps =>
    simp only [okE, Bool.and_eq_true] at he
    simp only [valX, pv_build] at hv ⊢
    cases hf : fillL z (evParts (evT ρ) ps) with
    | none => rw [hf] at hv; cases hv
    | some r =>
      rw [hf] at hv
      simp only [aggOf, Option.some.injEq] at hv; subst hv
      obtain ⟨r', h1, h2⟩ := fill_ok h he.2 (leafs_ok he.1) hf
      exact ⟨_, by rw [h1]; rfl, .agg _ _ h2⟩
  | slc st x lo hi =>
    simp only [okE, Bool.and_eq_true] at he
    have hx := h.ev he.1.1
    simp only [valX, PExp.val] at hv ⊢
    generalize ev (evT ρ) x = a at *
    generalize ev ρ' x = a' at *
    have key : ∀ (ad ad' : Option Addr) (n c k : Nat), slcX st (.slice ad n c) (lo.map (ev (evT ρ))) (hi.map (ev (evT ρ))) = some v → (∀ m n c : Nat, VR σ (.slice (ad.map (·.add m)) n c) (.slice (ad'.map (·.add m)) n (c + k))) → ∃ v', slcV st (.slice ad' n (c + k)) (lo.map (ev ρ')) (hi.map (ev ρ')) = some v' ∧ VR σ v v' := by
      intro ad ad' n c k hv hr
      simp only [slcX] at hv
      split at hv <;> first | (cases hv; done) | skip
      rename_i l hh hl hh'
      split at hv <;> first | (cases hv; done) | skip
      rename_i hc
      injection hv with hv; subst hv
      simp only [slcV, bound_ok h he.1.2 hl, bound_ok h he.2 hh']
      rw [if_pos ⟨hc.1, by omega⟩]
      refine ⟨_, rfl, ?_⟩
      have e1 : c + k - l = (c - l) + k := by omega
      have e2 : (if c + k = l then ad' else ad'.map (·.add (l * st))) = ad'.map (·.add (l * st)) := by
        split
        · rename_i hck
          have : l = 0 := by omega
          subst this
          cases ad' <;> simp [Addr.add]
        · rfl
      rw [e1, e2]
      exact hr _ _ _
    have hadd : ∀ b o m, (⟨b, o, none⟩ : Addr).add m = ⟨b, o + m, none⟩ := fun b o m => by unfold Addr.add; split <;> simp_all
    cases hx with
    | nils n c => exact key none none n c 0 hv (fun m n c => .nils n c)
    | sl b o n c r k hb => exact key _ _ n c k hv (fun m n c => by simp only [Option.map_some, hadd]; exact .sl _ _ _ _ _ _ hb)
    | _ => cases hv
  | len b x =>
    have hx := h.ev (x := x) he
    simp only [valX, PExp.val] at hv ⊢
    generalize ev (evT ρ) x = a at *
    generalize ev ρ' x = a' at *
    cases hx <;> cases b <;> first | (cases hv; done) | (simp [lenV] at hv ⊢; done) | (simp only [lenV, Bool.false_eq_true, if_true, if_false, Option.some.injEq] at hv ⊢; subst hv; exact ⟨_, rfl, .int _ _⟩)
  | min2 x y =>
    simp only [okE, Bool.and_eq_true] at he
    have hx := h.ev he.1
    have hy := h.ev he.2
    simp only [valX, PExp.val] at hv ⊢
    generalize ev (evT ρ) x = a at *
    generalize ev ρ' x = a' at *
    generalize ev (evT ρ) y = b at *
    generalize ev ρ' y = b' at *
    cases hx <;> first | (cases hv; done) | skip
    cases hy <;> first | (cases hv; done) | (simp only [minV, Option.some.injEq] at hv ⊢; subst hv; exact ⟨_, rfl, .int _ _⟩)
  | max2 x y =>
    simp only [okE, Bool.and_eq_true] at he
    have hx := h.ev he.1
    have hy := h.ev he.2
    simp only [valX, PExp.val] at hv ⊢
    generalize ev (evT ρ) x = a at *
    generalize ev ρ' x = a' at *
    generalize ev (evT ρ) y = b at *
    generalize ev ρ' y = b' at *
    cases hx <;> first | (cases hv; done) | skip
    cases hy <;> first | (cases hv; done) | (simp only [maxV, Option.some.injEq] at hv ⊢; subst hv; exact ⟨_, rfl, .int _ _⟩)
  | mkfn f a c =>
    simp only [okE, Bool.and_eq_true] at he
    simp only [valX, PExp.val, Option.some.injEq] at hv ⊢
    subst hv
    exact ⟨_, rfl, .fn _ _ _ _ _ (h.evs he.1) (h.evs he.2)⟩
end Go.Am
