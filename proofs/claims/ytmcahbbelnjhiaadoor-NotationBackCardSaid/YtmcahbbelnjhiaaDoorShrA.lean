/-
  Plain laws of floats: their order, and what is done exactly. No program.
-/
import Derived.Test.YtmcahbbelnjhiaaDoorLibV
set_option linter.unusedVariables false
namespace Go.V3
open Go

/-- The magnitude of a rung, in units of the least one. -/
def vv (r : Nat) : Nat := if r < 4503599627370496 then r else (4503599627370496 + r % 4503599627370496) * 2 ^ (r / 4503599627370496 - 1)
theorem vv_succ (r : Nat) : vv r < vv (r + 1) := by
  unfold vv
  by_cases h : r < 4503599627370496
  · rw [if_pos h]
    by_cases h2 : r + 1 < 4503599627370496
    · rw [if_pos h2]; omega
    · have : r + 1 = 4503599627370496 := by omega
      rw [if_neg h2, this]; show r < (4503599627370496 + 4503599627370496 % 4503599627370496) * 2 ^ (4503599627370496 / 4503599627370496 - 1)
      rw [show (4503599627370496 + 4503599627370496 % 4503599627370496) * 2 ^ (4503599627370496 / 4503599627370496 - 1) = 4503599627370496 from by decide]; exact h
  · rw [if_neg h, if_neg (by omega)]
    by_cases h2 : r % 4503599627370496 + 1 < 4503599627370496
    · have e1 : (r + 1) / 4503599627370496 = r / 4503599627370496 := by omega
      have e2 : (r + 1) % 4503599627370496 = r % 4503599627370496 + 1 := by omega
      rw [e1, e2]
      exact Nat.mul_lt_mul_of_pos_right (by omega) (Nat.two_pow_pos _)
    · have e1 : (r + 1) / 4503599627370496 = r / 4503599627370496 + 1 := by omega
      have e2 : (r + 1) % 4503599627370496 = 0 := by omega
      have e3 : r / 4503599627370496 + 1 - 1 = (r / 4503599627370496 - 1) + 1 := by omega
      rw [e1, e2, e3, Nat.pow_succ]
      have hp := Nat.two_pow_pos (r / 4503599627370496 - 1)
      have : (4503599627370496 + 0) * (2 ^ (r / 4503599627370496 - 1) * 2) = (2 * 4503599627370496) * 2 ^ (r / 4503599627370496 - 1) := by rw [Nat.add_zero, Nat.mul_comm 2 4503599627370496, Nat.mul_assoc, Nat.mul_comm 2]
      rw [this]
      exact Nat.mul_lt_mul_of_pos_right (by omega) hp
theorem vv_lt {a b : Nat} (h : a < b) : vv a < vv b := by
  induction b with
  | zero => omega
  | succ b ih =>
    have := vv_succ b
    rcases Nat.lt_or_ge a b with h1 | h1
    · have := ih h1; omega
    · have : a = b := by omega
      subst this; assumption
theorem vv_lt_iff {a b : Nat} : vv a < vv b ↔ a < b := by
  constructor
  · intro h
    rcases Nat.lt_or_ge a b with h1 | h1
    · exact h1
    · rcases Nat.eq_or_lt_of_le h1 with rfl | h2
      · omega
      · have := vv_lt h2; omega
  · exact vv_lt
theorem vv_zero : vv 0 = 0 := by decide
/-- A float's value; a part that is none has no meaning. -/
def rung (w : Nat) : Nat := w % 9223372036854775808
def sneg (w : Nat) : Bool := w / 9223372036854775808 % 2 == 1
def fval (w : Nat) : Int := if sneg w = true then -(vv (rung w) : Int) else (vv (rung w) : Int)
def isNum (w : Nat) : Prop := rung w ≤ 9218868437227405312
instance (w : Nat) : Decidable (isNum w) := by unfold isNum; infer_instance

theorem read_fin {w : Nat} (h : rung w < 9218868437227405312) : ∃ m : Nat, ∃ e : Nat, FloatKind.f64.format.read w = .number (sneg w) m (-1074 + (e : Int)) ∧ m * 2 ^ e = vv (rung w) := by
  unfold Ieee.Format.read
  have hb : FloatKind.f64.format.binade = 4503599627370496 := by decide
  have hs : FloatKind.f64.format.signWeight = 9223372036854775808 := by decide
  have hi : FloatKind.f64.format.infRung = 9218868437227405312 := by decide
  have hl : FloatKind.f64.format.leastPlace = -1074 := by decide
  simp only [hb, hs, hi, hl]
  unfold vv
  by_cases h1 : w % 9223372036854775808 < 4503599627370496
  · rw [if_pos h1, if_pos (show rung w < 4503599627370496 from h1)]
    exact ⟨_, 0, rfl, by simp [rung]⟩
  · rw [if_neg h1, if_pos (show w % 9223372036854775808 < 9218868437227405312 from h), if_neg (show ¬ rung w < 4503599627370496 from h1)]
    exact ⟨_, w % 9223372036854775808 / 4503599627370496 - 1, rfl, rfl⟩
theorem read_inf {w : Nat} (h : rung w = 9218868437227405312) : FloatKind.f64.format.read w = .infinity (sneg w) := by
  unfold Ieee.Format.read
  have hb : FloatKind.f64.format.binade = 4503599627370496 := by decide
  have hs : FloatKind.f64.format.signWeight = 9223372036854775808 := by decide
  have hi : FloatKind.f64.format.infRung = 9218868437227405312 := by decide
  simp only [hb, hs, hi]
  have h' : w % 9223372036854775808 = 9218868437227405312 := h
  rw [h', if_neg (by decide), if_neg (by decide), if_pos rfl]
  rfl
theorem read_nan {w : Nat} (h : ¬ isNum w) : ∃ f, FloatKind.f64.format.read w = .nan (sneg w) f := by
  unfold Ieee.Format.read
  have hb : FloatKind.f64.format.binade = 4503599627370496 := by decide
  have hs : FloatKind.f64.format.signWeight = 9223372036854775808 := by decide
  have hi : FloatKind.f64.format.infRung = 9218868437227405312 := by decide
  simp only [hb, hs, hi]
  have h' : 9218868437227405312 < w % 9223372036854775808 := by unfold isNum rung at h; omega
  rw [if_neg (by omega), if_neg (by omega), if_neg (by omega)]
  exact ⟨_, rfl⟩

theorem cmp_scale {a b c : Int} (hc : 0 < c) : compare (a * c) (b * c) = compare a b := by
  rcases Int.lt_trichotomy a b with h | h | h
  · rw [Int.compare_eq_lt.2 h, Int.compare_eq_lt.2 (Int.mul_lt_mul_of_pos_right h hc)]
  · subst h; rw [Int.compare_eq_eq.2 rfl, Int.compare_eq_eq.2 rfl]
  · rw [Int.compare_eq_gt.2 h, Int.compare_eq_gt.2 (Int.mul_lt_mul_of_pos_right h hc)]
theorem signed_scale (s : Bool) (m : Nat) (e b : Nat) (h : b ≤ e) : Ieee.signed s m (e - b) * (2 : Int) ^ b = if s = true then -((m * 2 ^ e : Nat) : Int) else ((m * 2 ^ e : Nat) : Int) := by
  have he : 2 ^ e = 2 ^ (e - b) * 2 ^ b := by rw [← Nat.pow_add]; congr 1; omega
  have : ((m * 2 ^ e : Nat) : Int) = ((m <<< (e - b) : Nat) : Int) * (2 : Int) ^ b := by
    rw [Nat.shiftLeft_eq, he, ← Nat.mul_assoc]
    simp
  unfold Ieee.signed
  cases s
  · simp only [Bool.false_eq_true, if_false]; exact this.symm
  · simp only [if_true]
    rw [this, Int.neg_mul]

theorem vv_inf_lt {r : Nat} (h : r < 9218868437227405312) : vv r < vv 9218868437227405312 := vv_lt h
theorem vv_inf_pos : 0 < vv 9218868437227405312 := by have := vv_lt (a := 0) (b := 9218868437227405312) (by decide); rw [vv_zero] at this; exact this

theorem ord_num {a b : Nat} (ha : isNum a) (hb : isNum b) : fOrd a b = some (compare (fval a) (fval b)) := by
  unfold fOrd Ieee.Format.order
  have hpos := vv_inf_pos
  have la : rung a < 9218868437227405312 ∨ rung a = 9218868437227405312 := by unfold isNum at ha; omega
  have lb : rung b < 9218868437227405312 ∨ rung b = 9218868437227405312 := by unfold isNum at hb; omega
  rcases la with la | la
  · obtain ⟨m, e, r1, v1⟩ := read_fin la
    have p1 := vv_inf_lt la
    rcases lb with lb | lb
    · obtain ⟨n, f, r2, v2⟩ := read_fin lb
      rw [r1, r2]
      unfold Ieee.Datum.order
      simp only
      congr 1
      have k1 : (-1074 + (e : Int) - min (-1074 + (e : Int)) (-1074 + (f : Int))).toNat = e - min e f := by omega
      have k2 : (-1074 + (f : Int) - min (-1074 + (e : Int)) (-1074 + (f : Int))).toNat = f - min e f := by omega
      rw [k1, k2, ← cmp_scale (c := (2 : Int) ^ (min e f)) (Int.pow_pos (by decide)), signed_scale _ _ _ _ (by omega), signed_scale _ _ _ _ (by omega), v1, v2]
      rfl
    · rw [r1, read_inf lb]
      unfold Ieee.Datum.order
      simp only
      congr 1
      unfold fval
      rw [lb]
      cases sneg a <;> cases sneg b <;> simp only [Bool.false_eq_true, if_false, if_true]
      · exact (Int.compare_eq_lt.2 (by omega)).symm
      · exact (Int.compare_eq_gt.2 (by omega)).symm
      · exact (Int.compare_eq_lt.2 (by omega)).symm
      · exact (Int.compare_eq_gt.2 (by omega)).symm
  · rcases lb with lb | lb
    · obtain ⟨n, f, r2, v2⟩ := read_fin lb
      have p2 := vv_inf_lt lb
      rw [read_inf la, r2]
      unfold Ieee.Datum.order
      simp only
      congr 1
      unfold fval
      rw [la]
      cases sneg a <;> cases sneg b <;> simp only [Bool.false_eq_true, if_false, if_true]
      · exact (Int.compare_eq_gt.2 (by omega)).symm
      · exact (Int.compare_eq_gt.2 (by omega)).symm
      · exact (Int.compare_eq_lt.2 (by omega)).symm
      · exact (Int.compare_eq_lt.2 (by omega)).symm
    · rw [read_inf la, read_inf lb]
      unfold Ieee.Datum.order
      simp only
      congr 1
      unfold fval
      rw [la, lb]
      cases sneg a <;> cases sneg b <;> simp only [Bool.false_eq_true, if_false, if_true, Bool.toNat_true, Bool.toNat_false]
      · exact (Int.compare_eq_eq.2 rfl).symm
      · exact (Int.compare_eq_gt.2 (by omega)).symm
      · exact (Int.compare_eq_lt.2 (by omega)).symm
      · exact (Int.compare_eq_eq.2 rfl).symm
theorem ord_nan {a b : Nat} (h : ¬ (isNum a ∧ isNum b)) : fOrd a b = none := by
  unfold fOrd Ieee.Format.order
  by_cases ha : isNum a
  · have hb : ¬ isNum b := fun hb => h ⟨ha, hb⟩
    obtain ⟨f, r2⟩ := read_nan hb
    rw [r2]
    unfold Ieee.Datum.order
    cases FloatKind.f64.format.read a <;> rfl
  · obtain ⟨f, r1⟩ := read_nan ha
    rw [r1]
    unfold Ieee.Datum.order
    rfl
theorem ord_lt {a b : Nat} : fOrd a b = some .lt ↔ isNum a ∧ isNum b ∧ fval a < fval b := by
  by_cases h : isNum a ∧ isNum b
  · rw [ord_num h.1 h.2]
    simp only [Option.some.injEq, Int.compare_eq_lt, h, true_and]
  · rw [ord_nan h]
    simp only [reduceCtorEq, false_iff]
    exact fun k => h ⟨k.1, k.2.1⟩
theorem ord_gt {a b : Nat} : fOrd a b = some .gt ↔ isNum a ∧ isNum b ∧ fval b < fval a := by
  by_cases h : isNum a ∧ isNum b
  · rw [ord_num h.1 h.2]
    simp only [Option.some.injEq, Int.compare_eq_gt, h, true_and]
  · rw [ord_nan h]
    simp only [reduceCtorEq, false_iff]
    exact fun k => h ⟨k.1, k.2.1⟩
theorem ord_eq {a b : Nat} : fOrd a b = some .eq ↔ isNum a ∧ isNum b ∧ fval a = fval b := by
  by_cases h : isNum a ∧ isNum b
  · rw [ord_num h.1 h.2]
    simp only [Option.some.injEq, Int.compare_eq_eq, h, true_and]
  · rw [ord_nan h]
    simp only [reduceCtorEq, false_iff]
    exact fun k => h ⟨k.1, k.2.1⟩

/-! What is exact. -/
theorem log2_of {m d : Nat} (h0 : 4503599627370496 ≤ m) (h1 : m < 2 * 4503599627370496) : (m * 2 ^ d).log2 = 52 + d := by
  have hp := Nat.two_pow_pos d
  rw [Nat.log2_eq_iff (by have := Nat.mul_pos (show 0 < m by omega) hp; omega)]
  rw [Nat.pow_add, show (2 : Nat) ^ 52 = 4503599627370496 from by decide, show 52 + d + 1 = 53 + d from by omega, Nat.pow_add, show (2 : Nat) ^ 53 = 2 * 4503599627370496 from by decide]
  exact ⟨Nat.mul_le_mul_right _ h0, Nat.mul_lt_mul_of_pos_right h1 hp⟩
theorem rung_le {q m : Nat} (h : m < 2 * 4503599627370496) (hq : q ≤ 2045) : q * 4503599627370496 + m ≤ 9218868437227405312 := by omega
theorem nearest_exact {m d : Nat} {place : Int} (h0 : 4503599627370496 ≤ m) (h1 : m < 2 * 4503599627370496) (hp : -1074 ≤ place + d) (hq : place + d + 1074 < 2046) :
    FloatKind.f64.format.nearest false (m * 2 ^ d) place = (place + d + 1074).toNat * 4503599627370496 + m := by
  have hpos := Nat.two_pow_pos d
  have hm : m * 2 ^ d ≠ 0 := by have := Nat.mul_pos (show 0 < m by omega) hpos; omega
  have hb : FloatKind.f64.format.binade = 4503599627370496 := by decide
  have hi : FloatKind.f64.format.infRung = 9218868437227405312 := by decide
  have hl : FloatKind.f64.format.leastPlace = -1074 := by decide
  have hf : FloatKind.f64.format.fractionBits = 52 := by decide
  unfold Ieee.Format.nearest
  rw [if_neg hm]
  simp only [hb, hi, hl, hf, log2_of h0 h1]
  have e1 : max (place + ((52 + d : Nat) : Int) - ((52 : Nat) : Int)) (-1074) = place + d := by omega
  rw [e1]
  have e2 : (place - (place + (d : Int))).toNat = 0 := by omega
  have e3 : (place + (d : Int) - place).toNat = d := by omega
  rw [e2, e3, Nat.shiftLeft_zero]
  have e4 : Ieee.Toward.even.cut false (m * 2 ^ d) d = m := by
    unfold Ieee.Toward.cut
    have g : (1 : Nat) <<< min d ((m * 2 ^ d).log2 + 2) = 2 ^ d := by
      rw [log2_of h0 h1, show min d (52 + d + 2) = d from by omega, Nat.shiftLeft_eq, Nat.one_mul]
    simp only [g]
    rw [Nat.mul_mod_left, Nat.mul_div_cancel _ hpos]
    have c1 : decide (2 ^ d < 2 * 0) = false := by simp
    have c2 : (2 ^ d == 2 * 0) = false := by simp
    rw [c1, c2]
    simp
  rw [e4]
  have e5 : (place + (d : Int) - -1074).toNat = (place + d + 1074).toNat := by congr 1
  rw [e5]
  have h2046 : (place + (d : Int) + 1074).toNat ≤ 2045 := by omega
  have e6 : (place + (d : Int) + 1074).toNat * 4503599627370496 ≤ 2045 * 4503599627370496 := Nat.mul_le_mul_right _ h2046
  generalize (place + (d : Int) + 1074).toNat = q at h2046 e6 ⊢
  rw [Nat.min_eq_left (rung_le h1 h2046)]
  rfl
theorem read_norm {e f : Nat} (he : 1 ≤ e) (he2 : e < 2047) (hf : f < 4503599627370496) : FloatKind.f64.format.read (e * 4503599627370496 + f) = .number false (4503599627370496 + f) (-1074 + ((e - 1 : Nat) : Int)) := by
  unfold Ieee.Format.read
  have hb : FloatKind.f64.format.binade = 4503599627370496 := by decide
  have hs : FloatKind.f64.format.signWeight = 9223372036854775808 := by decide
  have hi : FloatKind.f64.format.infRung = 9218868437227405312 := by decide
  have hl : FloatKind.f64.format.leastPlace = -1074 := by decide
  simp only [hb, hs, hi, hl]
  have e1 : (e * 4503599627370496 + f) % 9223372036854775808 = e * 4503599627370496 + f := Nat.mod_eq_of_lt (by omega)
  have e2 : (e * 4503599627370496 + f) / 9223372036854775808 = 0 := Nat.div_eq_of_lt (by omega)
  have e3 : (e * 4503599627370496 + f) % 4503599627370496 = f := by omega
  have e4 : (e * 4503599627370496 + f) / 4503599627370496 = e := by omega
  rw [e1, e2, if_neg (by omega), if_pos (by omega), e3, e4]
  rfl
theorem read_sub {a : Nat} (ha : a < 4503599627370496) : FloatKind.f64.format.read a = .number false a (-1074) := by
  unfold Ieee.Format.read
  have hb : FloatKind.f64.format.binade = 4503599627370496 := by decide
  have hs : FloatKind.f64.format.signWeight = 9223372036854775808 := by decide
  have hi : FloatKind.f64.format.infRung = 9218868437227405312 := by decide
  have hl : FloatKind.f64.format.leastPlace = -1074 := by decide
  simp only [hb, hs, hi, hl]
  have e1 : a % 9223372036854775808 = a := Nat.mod_eq_of_lt (by omega)
  have e2 : a / 9223372036854775808 = 0 := Nat.div_eq_of_lt (by omega)
  rw [e1, e2, if_pos ha]
  rfl
/-- The fraction, made whole. -/
theorem mul_norm {f : Nat} (hf : f < 4503599627370496) : fArith .mul (1022 * 4503599627370496 + f) (1076 * 4503599627370496) = some (1075 * 4503599627370496 + f) := by
  have h2 := read_norm (e := 1076) (f := 0) (by omega) (by omega) (by omega)
  rw [Nat.add_zero] at h2
  show Ieee.Format.mul _ _ _ = _
  unfold Ieee.Format.mul
  rw [read_norm (by omega) (by omega) hf, h2]
  simp only [Ieee.Datum.product, Option.map_some, Ieee.Format.write]
  have := nearest_exact (m := 4503599627370496 + f) (d := 52) (place := -52) (by omega) (by omega) (by omega) (by omega)
  rw [show (2 : Nat) ^ 52 = 4503599627370496 + 0 from by decide] at this
  rw [show (-1074 + ((1022 - 1 : Nat) : Int) + (-1074 + ((1076 - 1 : Nat) : Int))) = -52 from by decide]
  rw [show (false ^^ false) = false from rfl, this]
  congr 1
  show (1074 : Nat) * 4503599627370496 + (4503599627370496 + f) = _
  omega
theorem log2_lt {a : Nat} (h0 : 0 < a) (h1 : a < 4503599627370496) : a.log2 ≤ 51 ∧ 4503599627370496 ≤ a * 2 ^ (52 - a.log2) ∧ a * 2 ^ (52 - a.log2) < 2 * 4503599627370496 := by
  have hl : a.log2 < 52 := (Nat.log2_lt (by omega)).2 (by rw [show (2 : Nat) ^ 52 = 4503599627370496 from by decide]; exact h1)
  have q0 := Nat.log2_self_le (n := a) (by omega)
  have q1 := Nat.lt_log2_self (n := a)
  have e : (2 : Nat) ^ a.log2 * 2 ^ (52 - a.log2) = 4503599627370496 := by rw [← Nat.pow_add, show a.log2 + (52 - a.log2) = 52 from by omega]
  have e2 : (2 : Nat) ^ (a.log2 + 1) * 2 ^ (52 - a.log2) = 2 * 4503599627370496 := by rw [Nat.pow_succ, Nat.mul_comm (2 ^ a.log2) 2, Nat.mul_assoc, e]
  refine ⟨by omega, ?_, ?_⟩
  · calc 4503599627370496 = 2 ^ a.log2 * 2 ^ (52 - a.log2) := e.symm
      _ ≤ a * 2 ^ (52 - a.log2) := Nat.mul_le_mul_right _ q0
  · calc a * 2 ^ (52 - a.log2) < 2 ^ (a.log2 + 1) * 2 ^ (52 - a.log2) := Nat.mul_lt_mul_of_pos_right q1 (Nat.two_pow_pos _)
      _ = 2 * 4503599627370496 := e2
/-- A number that is not normal, made so. -/
theorem mul_sub {a : Nat} (h0 : 0 < a) (h1 : a < 4503599627370496) : fArith .mul a (1075 * 4503599627370496) = some (a.log2 * 4503599627370496 + a * 2 ^ (52 - a.log2)) := by
  obtain ⟨l0, l1, l2⟩ := log2_lt h0 h1
  have h2 := read_norm (e := 1075) (f := 0) (by omega) (by omega) (by omega)
  rw [Nat.add_zero] at h2
  show Ieee.Format.mul _ _ _ = _
  unfold Ieee.Format.mul
  rw [read_sub h1, h2]
  simp only [Ieee.Datum.product, Option.map_some, Ieee.Format.write]
  have := nearest_exact (m := a * 2 ^ (52 - a.log2)) (d := a.log2) (place := -1074) l1 l2 (by omega) (by omega)
  rw [Nat.mul_assoc, ← Nat.pow_add, show 52 - a.log2 + a.log2 = 52 from by omega, show (2 : Nat) ^ 52 = 4503599627370496 + 0 from by decide] at this
  rw [show (-1074 + (-1074 + ((1075 - 1 : Nat) : Int))) = -1074 from by decide]
  rw [show (false ^^ false) = false from rfl, this]
  rw [show (-1074 + (a.log2 : Int) + 1074).toNat = a.log2 from by omega]
theorem toInt_norm {f : Nat} (hf : f < 4503599627370496) : fToInt (1075 * 4503599627370496 + f) = some ((4503599627370496 + f : Nat) : Int) := by
  unfold fToInt
  show ((FloatKind.f64.format.read (1075 * 4503599627370496 + f)).toInt .zero) = _
  rw [read_norm (by omega) (by omega) hf]
  unfold Ieee.Datum.toInt Ieee.Datum.integral
  simp only
  rw [show (-1074 + ((1075 - 1 : Nat) : Int)) = 0 from by decide, show (0 : Int).toNat = 0 from rfl, show (-(0 : Int)).toNat = 0 from rfl, Nat.shiftLeft_zero]
  unfold Ieee.Toward.cut Ieee.signed
  simp

/-! Shares. -/
theorem lt_sg {w : Nat} (h : w < 9223372036854775808) : sneg w = false ∧ rung w = w := by
  unfold sneg rung
  rw [Nat.div_eq_of_lt h, Nat.mod_eq_of_lt h]
  exact ⟨rfl, rfl⟩
theorem fval_pos {w : Nat} (h : w < 9223372036854775808) : fval w = (vv w : Int) := by
  obtain ⟨h1, h2⟩ := lt_sg h
  unfold fval
  rw [h1, h2]; simp
theorem sneg_of {w : Nat} (h : w < 18446744073709551616) : sneg w = decide (9223372036854775808 ≤ w) := by
  unfold sneg
  by_cases h1 : 9223372036854775808 ≤ w
  · have : w / 9223372036854775808 = 1 := by omega
    rw [this]; simp [h1]
  · have : w / 9223372036854775808 = 0 := by omega
    rw [this]; simp [h1]
theorem gt_zero {w : Nat} (h : w < 18446744073709551616) : fOrd w 0 = some .gt ↔ 0 < w ∧ w ≤ 9218868437227405312 := by
  rw [ord_gt, fval_pos (w := 0) (by omega), vv_zero]
  have hz : isNum 0 := by decide
  unfold fval isNum
  rw [sneg_of h]
  by_cases h1 : 9223372036854775808 ≤ w
  · simp only [h1, decide_true, if_true]
    constructor
    · rintro ⟨_, _, h2⟩; omega
    · rintro ⟨_, h2⟩; omega
  · obtain ⟨_, h2⟩ := lt_sg (w := w) (by omega)
    simp only [h1, decide_false, Bool.false_eq_true, if_false, h2]
    constructor
    · rintro ⟨h3, _, h4⟩
      refine ⟨?_, h3⟩
      rcases Nat.eq_zero_or_pos w with rfl | h5
      · rw [vv_zero] at h4; omega
      · exact h5
    · rintro ⟨h3, h4⟩
      have := vv_lt h3
      rw [vv_zero] at this
      exact ⟨h4, hz, by omega⟩
theorem le_one {w : Nat} (h : w ≤ 9218868437227405312) : (fOrd w 4607182418800017408 = some .lt ∨ fOrd w 4607182418800017408 = some .eq) ↔ w ≤ 4607182418800017408 := by
  have h1 : isNum w := by unfold isNum; rw [(lt_sg (w := w) (by omega)).2]; exact h
  have h2 : isNum 4607182418800017408 := by decide
  rw [ord_lt, ord_eq, fval_pos (by omega), fval_pos (by omega)]
  constructor
  · rintro (⟨_, _, h3⟩ | ⟨_, _, h3⟩)
    · have := vv_lt_iff.1 (show vv w < vv 4607182418800017408 by omega); omega
    · rcases Nat.lt_or_ge 4607182418800017408 w with h4 | h4
      · have := vv_lt h4; omega
      · exact h4
  · intro h3
    rcases Nat.eq_or_lt_of_le h3 with h4 | h4
    · exact .inr ⟨h1, h2, by rw [h4]⟩
    · have := vv_lt h4
      exact .inl ⟨h1, h2, by omega⟩
def P74 : Nat := 1074
theorem P74_eq : P74 = 1074 := rfl
/-- Frames of a share. -/
def FR (x : Nat) (n : Nat) : Nat := max 1 (vv x * n / 2 ^ P74)
theorem FR_mono {x y a b : Nat} (h : x ≤ y) (h2 : a ≤ b) : FR x a ≤ FR y b := by
  have hv : vv x ≤ vv y := by
    rcases Nat.eq_or_lt_of_le h with rfl | h3
    · exact Nat.le_refl _
    · exact Nat.le_of_lt (vv_lt h3)
  have := Nat.div_le_div_right (c := 2 ^ P74) (Nat.mul_le_mul hv h2)
  unfold FR
  omega
theorem vv_one : vv 4607182418800017408 = 2 ^ P74 := by decide +kernel
theorem FR_one {n : Nat} (h : 1 ≤ n) : FR 4607182418800017408 n = n := by
  unfold FR
  rw [vv_one, Nat.mul_comm, Nat.mul_div_cancel _ (Nat.two_pow_pos _)]
  omega
theorem FR_le {x n : Nat} (h : x ≤ 4607182418800017408) (hn : 1 ≤ n) : 1 ≤ FR x n ∧ FR x n ≤ n := by
  have := FR_mono h (Nat.le_refl n)
  rw [FR_one hn] at this
  exact ⟨by unfold FR; omega, this⟩
theorem FR_norm {x n : Nat} (h0 : 4503599627370496 ≤ x) (h1 : x ≤ 4607182418800017408) : vv x * n / 2 ^ P74 = (4503599627370496 + x % 4503599627370496) * n / 2 ^ (1075 - x / 4503599627370496) := by
  have he : x / 4503599627370496 ≤ 1023 := by omega
  have he1 : 1 ≤ x / 4503599627370496 := by omega
  unfold vv
  rw [if_neg (by omega)]
  have e : (2 : Nat) ^ P74 = 2 ^ (x / 4503599627370496 - 1) * 2 ^ (1075 - x / 4503599627370496) := by rw [← Nat.pow_add, P74_eq]; congr 1; omega
  rw [e, ← Nat.div_div_eq_div_mul]
  rw [Nat.mul_assoc, Nat.mul_comm (2 ^ _) n, ← Nat.mul_assoc, Nat.mul_div_cancel _ (Nat.two_pow_pos _)]
theorem pow_big {k d : Nat} (hk : k < 2 ^ 64) (hd : 64 ≤ d) : k / 2 ^ d = 0 :=
  Nat.div_eq_of_lt (Nat.lt_of_lt_of_le hk (Nat.pow_le_pow_right (by omega) hd))
theorem FR_sub {x n : Nat} (h1 : x < 4503599627370496) (hn : n ≤ 64) : FR x n = 1 := by
  unfold FR vv
  rw [if_pos h1]
  have : x * n ≤ 4503599627370496 * 64 := Nat.mul_le_mul (by omega) hn
  rw [pow_big (by omega) (by rw [P74_eq]; omega)]
  rfl
theorem FR_far {x n : Nat} (h0 : 4503599627370496 ≤ x) (h1 : x ≤ 4607182418800017408) (hn : n ≤ 64) (hd : 64 ≤ 1075 - x / 4503599627370496) : FR x n = 1 := by
  unfold FR
  rw [FR_norm h0 h1]
  have : (4503599627370496 + x % 4503599627370496) * n ≤ (2 * 4503599627370496) * 64 := Nat.mul_le_mul (by omega) hn
  rw [pow_big (by omega) hd]
  rfl
end Go.V3
