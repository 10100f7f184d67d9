/- Floats: what the program's functions of layer 2 give, as plain functions of the bits. No condition. -/
import Derived.Test.YtmephnenbboecaaAmQ
set_option linter.unusedVariables false
namespace Go.Am.Fl
open Go Go.Am

def isN (r : Nat) : Bool := (Ieee.double.read r).isNaN
def nanI : Int := 9221120237041090561

theorem order_self (r : Nat) : Ieee.double.order r r = if isN r = true then none else some .eq := by
  unfold Ieee.Format.order isN
  generalize Ieee.double.read r = d
  cases d with
  | nan s f => rfl
  | infinity s => cases s <;> rfl
  | number s m i =>
    simp [Ieee.Datum.order, Ieee.Datum.isNaN]

theorem word_not_nan (neg : Bool) (rung : Nat) (h : rung ≤ Ieee.double.infRung) : isN (Ieee.double.word neg rung) = false := by
  have e1 : Ieee.double.infRung = 9218868437227405312 := by decide
  have e2 : Ieee.double.signWeight = 9223372036854775808 := by decide
  have hm : Ieee.double.word neg rung % Ieee.double.signWeight = rung := by
    unfold Ieee.Format.word
    rw [e2]; rw [e1] at h
    split <;> omega
  unfold isN Ieee.Format.read
  simp only [hm]
  split
  · rfl
  · split
    · rfl
    · split
      · rfl
      · rename_i h1 h2 h3
        omega

theorem write_not_nan (d : Ieee.Datum) (h : d.isNaN = false) : isN (Ieee.double.write d) = false := by
  cases d with
  | nan s f => simp [Ieee.Datum.isNaN] at h
  | infinity s => exact word_not_nan s _ (Nat.le_refl _)
  | number s m i =>
    show isN (Ieee.double.nearest s m i) = false
    unfold Ieee.Format.nearest
    split
    · exact word_not_nan s 0 (Nat.zero_le _)
    · exact word_not_nan s _ (Nat.min_le_right _ _)

theorem sum_not_nan {a b d : Ieee.Datum} (h : a.sum b = some d) : d.isNaN = false := by
  unfold Ieee.Datum.sum at h
  split at h <;> first | (cases h; done) | skip
  · split at h <;> first | (cases h; done) | (injection h with h; subst h; rfl)
  · injection h with h; subst h; rfl
  · injection h with h; subst h; rfl
  · injection h with h; subst h; rfl
theorem product_not_nan {a b d : Ieee.Datum} (h : a.product b = some d) : d.isNaN = false := by
  unfold Ieee.Datum.product at h
  split at h <;> first | (cases h; done) | skip
  · injection h with h; subst h; rfl
  · split at h <;> first | (cases h; done) | (injection h with h; subst h; rfl)
  · split at h <;> first | (cases h; done) | (injection h with h; subst h; rfl)
  · injection h with h; subst h; rfl
theorem quotient_not_nan {n : Nat} {a b d : Ieee.Datum} (h : a.quotient n b = some d) : d.isNaN = false := by
  unfold Ieee.Datum.quotient at h
  split at h <;> first | (cases h; done) | skip
  · injection h with h; subst h; rfl
  · injection h with h; subst h; rfl
  · split at h
    · split at h <;> first | (cases h; done) | (injection h with h; subst h; rfl)
    · injection h with h; subst h; rfl

theorem map_write_not_nan {o : Option Ieee.Datum} {r : Nat} (ho : ∀ d, o = some d → d.isNaN = false) (h : o.map Ieee.double.write = some r) : isN r = false := by
  cases o with
  | none => cases h
  | some d => injection h with h; subst h; exact write_not_nan d (ho d rfl)

theorem floatBits_not_nan {op : BinOp} {a b r : Nat} (h : floatBits op .f64 a b = some r) : isN r = false := by
  unfold floatBits at h
  split at h
  · exact map_write_not_nan (fun d hd => sum_not_nan hd) h
  · exact map_write_not_nan (fun d hd => sum_not_nan hd) h
  · exact map_write_not_nan (fun d hd => product_not_nan hd) h
  · exact map_write_not_nan (fun d hd => quotient_not_nan hd) h
  · cases h

theorem read_nan {a : Nat} (h : isN a = true) : ∃ s f, Ieee.double.read a = .nan s f := by
  unfold isN at h
  cases hd : Ieee.double.read a with
  | nan s f => exact ⟨s, f, rfl⟩
  | infinity s => rw [hd] at h; cases h
  | number s m i => rw [hd] at h; cases h

theorem floatBits_nan1 {op : BinOp} {a b : Nat} (h : isN a = true) : floatBits op .f64 a b = none := by
  obtain ⟨s, f, hr⟩ := read_nan h
  unfold floatBits
  split <;> try rfl
  · simp [FloatKind.format, Ieee.Format.add, hr, Ieee.Datum.sum]
  · simp [FloatKind.format, Ieee.Format.sub, hr, Ieee.Datum.sum]
  · simp [FloatKind.format, Ieee.Format.mul, hr, Ieee.Datum.product]
  · simp [FloatKind.format, Ieee.Format.div, hr, Ieee.Datum.quotient]

theorem floatBits_nan2 {op : BinOp} {a b : Nat} (h : isN b = true) : floatBits op .f64 a b = none := by
  obtain ⟨s, f, hr⟩ := read_nan h
  unfold floatBits
  split <;> try rfl
  · simp only [FloatKind.format, Ieee.Format.add, hr]
    cases Ieee.double.read a <;> rfl
  · simp only [FloatKind.format, Ieee.Format.sub, hr, Ieee.Datum.opposite]
    cases Ieee.double.read a <;> rfl
  · simp only [FloatKind.format, Ieee.Format.mul, hr]
    cases Ieee.double.read a <;> rfl
  · simp only [FloatKind.format, Ieee.Format.div, hr]
    cases Ieee.double.read a <;> rfl

-- what the functions give

def fCan (a : Int) : Int := if isN a.toNat then nanI else (a.toNat : Int)
def fAr (op : BinOp) (a b : Int) : Int := match floatBits op .f64 a.toNat b.toNat with
  | some r => (r : Int)
  | none => nanI
def fEq (a b : Int) : Bool := Ieee.double.order a.toNat b.toNat == some .eq
def big : Nat := 4890909195324358656
def low : Nat := 14114281232179134464
def fToI (a : Int) : Int :=
  if isN a.toNat then 0
  else if (Ieee.double.order a.toNat big == some .gt || Ieee.double.order a.toNat big == some .eq) then 9223372036854775807
  else if (Ieee.double.order a.toNat low == some .lt) then -9223372036854775808
  else match floatToIntVal .f64 a.toNat .i64 with
    | some n => n
    | none => 0
def fCls (a : Int) : Int :=
  if a / 4503599627370496 % 2048 = 2047 ∧ a % 4503599627370496 ≠ 0 then 4
  else if a / 4503599627370496 % 2048 = 2047 then 3
  else if a / 4503599627370496 % 2048 ≠ 0 then 2
  else if a % 4503599627370496 ≠ 0 then 1 else 0

theorem isN_nanI : isN nanI.toNat = true := by decide

theorem isN_can (a : Int) : isN (fCan a).toNat = isN a.toNat := by
  unfold fCan
  split
  · rename_i h; rw [h]; exact isN_nanI
  · rw [Int.toNat_natCast]

theorem can_toNat (a : Int) (h : isN a.toNat = false) : (fCan a).toNat = a.toNat := by
  unfold fCan; rw [h, if_neg (by decide), Int.toNat_natCast]

theorem fAr_can (op : BinOp) (a b : Int) : fAr op (fCan a) (fCan b) = fAr op a b := by
  unfold fAr
  by_cases ha : isN a.toNat = true
  · rw [floatBits_nan1 (by rw [isN_can]; exact ha), floatBits_nan1 ha]
  · by_cases hb : isN b.toNat = true
    · rw [floatBits_nan2 (by rw [isN_can]; exact hb), floatBits_nan2 hb]
    · rw [can_toNat a (by simpa using ha), can_toNat b (by simpa using hb)]

theorem fToI_can (a : Int) : fToI (fCan a) = fToI a := by
  unfold fToI
  rw [isN_can]
  by_cases ha : isN a.toNat = true
  · rw [if_pos ha, if_pos ha]
  · rw [can_toNat a (by simpa using ha)]

theorem fEq_self (a : Int) : fEq a a = !isN a.toNat := by
  unfold fEq
  rw [order_self]
  cases isN a.toNat <;> rfl

theorem cls_nan (a : Int) (h0 : 0 ≤ a) (h1 : a < 18446744073709551616) : (fCls a = 4) ↔ isN a.toNat = true := by
  have e1 : Ieee.double.infRung = 9218868437227405312 := by decide
  have e2 : Ieee.double.signWeight = 9223372036854775808 := by decide
  have e3 : Ieee.double.binade = 4503599627370496 := by decide
  obtain ⟨n, rfl⟩ := Int.eq_ofNat_of_zero_le h0
  have hn : n < 18446744073709551616 := by omega
  have hN : isN n = true ↔ 9218868437227405312 < n % 9223372036854775808 := by
    unfold isN Ieee.Format.read
    simp only [e1, e2, e3]
    split
    · simp [Ieee.Datum.isNaN]; omega
    · split
      · simp [Ieee.Datum.isNaN]; omega
      · split
        · simp [Ieee.Datum.isNaN]; omega
        · simp [Ieee.Datum.isNaN]; omega
  rw [Int.toNat_natCast, hN]
  unfold fCls
  constructor
  · intro h
    split at h
    · rename_i hh; omega
    · exfalso
      split at h
      · omega
      · split at h
        · omega
        · split at h <;> omega
  · intro h
    rw [if_pos (by omega)]

theorem fAr_range (op : BinOp) (a b : Int) : 0 ≤ fAr op a b ∧ fAr op a b < 18446744073709551616 := by
  unfold fAr
  split
  · rename_i r hr
    have := floatBits_wf hr
    simp [Lit.wf] at this
    omega
  · decide

-- int(x) where it is asked for

theorem pow_lt_of {m k n : Nat} (h : m * 2 ^ k < 2 ^ (n + k)) : m < 2 ^ n := by
  rw [Nat.pow_add] at h
  exact Nat.lt_of_mul_lt_mul_right h

theorem toI_some (a : Nat) (h1 : isN a = false) (h2 : (Ieee.double.order a big == some .gt || Ieee.double.order a big == some .eq) = false) (h3 : (Ieee.double.order a low == some .lt) = false) : ∃ n, floatToIntVal .f64 a .i64 = some n := by
  have rb : Ieee.double.read big = .number false 4503599627370496 11 := by decide
  have rl : Ieee.double.read low = .number true 4503599627370496 11 := by decide
  unfold Ieee.Format.order at h2 h3
  rw [rb] at h2
  rw [rl] at h3
  unfold isN at h1
  unfold floatToIntVal FloatKind.decode
  rw [show FloatKind.f64.format = Ieee.double from rfl]
  cases hd : Ieee.double.read a with
  | nan s f => rw [hd] at h1; cases h1
  | infinity s =>
    rw [hd] at h2 h3
    cases s
    · simp [Ieee.Datum.order] at h2
    · simp [Ieee.Datum.order] at h3
  | number s m i =>
    rw [hd] at h2 h3
    simp only [Ieee.Datum.toInt, Ieee.Datum.integral]
    have hgap : ∀ d : Nat, 0 < 1 <<< min d ((m <<< i.toNat).log2 + 2) := fun d => by rw [Nat.one_shiftLeft]; exact Nat.two_pow_pos _
    -- the magnitude
    have hmag : ∃ q : Nat, Ieee.Toward.zero.cut s (m <<< i.toNat) (-i).toNat = q ∧ ((s = false → q < 9223372036854775808) ∧ (s = true → q ≤ 9223372036854775808)) := by
      refine ⟨_, rfl, ?_⟩
      simp only [Ieee.Toward.cut, Bool.toNat_false, Nat.add_zero]
      simp only [Ieee.Datum.order, Ieee.signed, Bool.false_eq_true, if_false, if_true] at h2 h3
      by_cases hi : 0 ≤ i
      · have hd0 : (-i).toNat = 0 := by omega
        rw [hd0, Nat.zero_min, Nat.one_shiftLeft, Nat.pow_zero, Nat.div_one, Nat.shiftLeft_eq]
        obtain ⟨k, rfl⟩ := Int.eq_ofNat_of_zero_le hi
        rw [Int.toNat_natCast]
        by_cases hk : k ≤ 11
        · have e1 : min (k : Int) 11 = k := by omega
          rw [e1] at h2 h3
          have e2 : ((k : Int) - k).toNat = 0 := by omega
          have e3 : ((11 : Int) - k).toNat = 11 - k := by omega
          rw [e2, e3, Nat.shiftLeft_eq, Nat.shiftLeft_eq] at h2 h3
          have hp : 4503599627370496 * 2 ^ (11 - k) * 2 ^ k = 9223372036854775808 := by
            rw [Nat.mul_assoc, ← Nat.pow_add, show 11 - k + k = 11 by omega]
          constructor
          · rintro rfl
            simp only [Bool.false_eq_true, if_false] at h2
            have hlt : m * 2 ^ 0 < 4503599627370496 * 2 ^ (11 - k) := by
              simp only [Bool.or_eq_false_iff, beq_eq_false_iff_ne, ne_eq, Option.some.injEq] at h2
              have h4 : ¬ (compare ((m * 2 ^ 0 : Nat) : Int) ((4503599627370496 * 2 ^ (11 - k) : Nat) : Int) = .gt) := h2.1
              have h5 : ¬ (compare ((m * 2 ^ 0 : Nat) : Int) ((4503599627370496 * 2 ^ (11 - k) : Nat) : Int) = .eq) := h2.2
              simp only [Int.compare_eq_gt, Int.compare_eq_eq] at h4 h5
              omega
            calc m * 2 ^ k < 4503599627370496 * 2 ^ (11 - k) * 2 ^ k := Nat.mul_lt_mul_of_pos_right (by omega) (Nat.two_pow_pos _)
              _ = _ := hp
          · rintro rfl
            simp only [if_true] at h3
            have hle : m * 2 ^ 0 ≤ 4503599627370496 * 2 ^ (11 - k) := by
              simp only [beq_eq_false_iff_ne, ne_eq, Option.some.injEq] at h3
              have h4 : ¬ (compare (-((m * 2 ^ 0 : Nat) : Int)) (-((4503599627370496 * 2 ^ (11 - k) : Nat) : Int)) = .lt) := h3
              simp only [Int.compare_eq_lt] at h4
              omega
            calc m * 2 ^ k ≤ 4503599627370496 * 2 ^ (11 - k) * 2 ^ k := Nat.mul_le_mul_right _ (by omega)
              _ = _ := hp
        · have e1 : min (k : Int) 11 = 11 := by omega
          rw [e1] at h2 h3
          have e2 : ((k : Int) - 11).toNat = k - 11 := by omega
          have e3 : ((11 : Int) - 11).toNat = 0 := by omega
          rw [e2, e3, Nat.shiftLeft_eq, Nat.shiftLeft_eq] at h2 h3
          have hp : m * 2 ^ k = m * 2 ^ (k - 11) * 2048 := by
            rw [Nat.mul_assoc, show (2048 : Nat) = 2 ^ 11 from rfl, ← Nat.pow_add, show k - 11 + 11 = k by omega]
          constructor
          · rintro rfl
            simp only [Bool.false_eq_true, if_false] at h2
            simp only [Bool.or_eq_false_iff, beq_eq_false_iff_ne, ne_eq, Option.some.injEq] at h2
            have h4 : ¬ (compare ((m * 2 ^ (k - 11) : Nat) : Int) ((4503599627370496 * 2 ^ 0 : Nat) : Int) = .gt) := h2.1
            have h5 : ¬ (compare ((m * 2 ^ (k - 11) : Nat) : Int) ((4503599627370496 * 2 ^ 0 : Nat) : Int) = .eq) := h2.2
            simp only [Int.compare_eq_gt, Int.compare_eq_eq] at h4 h5
            omega
          · rintro rfl
            simp only [if_true] at h3
            simp only [beq_eq_false_iff_ne, ne_eq, Option.some.injEq] at h3
            have h4 : ¬ (compare (-((m * 2 ^ (k - 11) : Nat) : Int)) (-((4503599627370496 * 2 ^ 0 : Nat) : Int)) = .lt) := h3
            simp only [Int.compare_eq_lt] at h4
            omega
      · obtain ⟨k, hk⟩ : ∃ k : Nat, i = -(k : Int) := ⟨(-i).toNat, by omega⟩
        subst hk
        have e0 : (-(k : Int)).toNat = 0 := by omega
        have ed : (-(-(k : Int))).toNat = k := by omega
        have e1 : min (-(k : Int)) 11 = -(k : Int) := by omega
        have e2 : (-(k : Int) - -(k : Int)).toNat = 0 := by omega
        have e3 : ((11 : Int) - -(k : Int)).toNat = 11 + k := by omega
        rw [e1, e2, e3, Nat.shiftLeft_eq, Nat.shiftLeft_eq] at h2 h3
        rw [e0, ed, Nat.shiftLeft_eq, Nat.pow_zero, Nat.mul_one, Nat.one_shiftLeft]
        have hp : 4503599627370496 * 2 ^ (11 + k) = 9223372036854775808 * 2 ^ k := by
          rw [Nat.pow_add, ← Nat.mul_assoc]
        rw [hp] at h2 h3
        by_cases hkl : k ≤ m.log2 + 2
        · rw [Nat.min_eq_left hkl]
          constructor
          · rintro rfl
            simp only [Bool.false_eq_true, if_false] at h2
            simp only [Bool.or_eq_false_iff, beq_eq_false_iff_ne, ne_eq, Option.some.injEq] at h2
            have h4 : ¬ (compare ((m * 2 ^ 0 : Nat) : Int) ((9223372036854775808 * 2 ^ k : Nat) : Int) = .gt) := h2.1
            have h5 : ¬ (compare ((m * 2 ^ 0 : Nat) : Int) ((9223372036854775808 * 2 ^ k : Nat) : Int) = .eq) := h2.2
            simp only [Int.compare_eq_gt, Int.compare_eq_eq] at h4 h5
            rw [Nat.div_lt_iff_lt_mul (Nat.two_pow_pos _)]
            omega
          · rintro rfl
            simp only [if_true] at h3
            simp only [beq_eq_false_iff_ne, ne_eq, Option.some.injEq] at h3
            have h4 : ¬ (compare (-((m * 2 ^ 0 : Nat) : Int)) (-((9223372036854775808 * 2 ^ k : Nat) : Int)) = .lt) := h3
            simp only [Int.compare_eq_lt] at h4
            exact Nat.div_le_of_le_mul (by rw [Nat.mul_comm]; omega)
        · rw [Nat.min_eq_right (by omega)]
          have hlt : m < 2 ^ (m.log2 + 2) := Nat.lt_of_lt_of_le Nat.lt_log2_self (Nat.pow_le_pow_right (by omega) (by omega))
          rw [Nat.div_eq_of_lt hlt]
          exact ⟨fun _ => by omega, fun _ => by omega⟩
    obtain ⟨q, hq, hq1, hq2⟩ := hmag
    rw [hq]
    have hmm : IntKind.i64.min = -9223372036854775808 ∧ IntKind.i64.max = 9223372036854775807 := by decide
    simp only [Ieee.signed, hmm.1, hmm.2, Nat.shiftLeft_zero]
    cases s
    · have := hq1 rfl
      simp only [Bool.false_eq_true, if_false]
      exact ⟨(q : Int), if_pos (by omega)⟩
    · have := hq2 rfl
      simp only [if_true]
      exact ⟨-(q : Int), if_pos (by omega)⟩
end Go.Am.Fl
