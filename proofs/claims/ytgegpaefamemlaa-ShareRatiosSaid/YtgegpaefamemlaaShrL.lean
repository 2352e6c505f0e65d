/-
  Plain laws of package share.
-/
import Derived.Test.YtgegpaefamemlaaRows
import Derived.Test.YtgegpaefamemlaaShrW
import Derived.Test.YtgegpaefamemlaaShrA
set_option linter.unusedVariables false
namespace Go.Proofs.Ytgegpaefamemlaa
open Go Go.V3

theorem loopO_run {β : Type} {f : Int → Option (Int ⊕ β)} (n : Nat) (hs : ∀ k : Nat, k < n → f k = some (.inl ((k : Int) + 1))) {r : β} (he : f n = some (.inr r)) : loopO f 0 = some r := by
  refine loopO_to (fun m (i : Int) => i = (n : Int) - m ∧ m ≤ n) (n := n) ?_ ⟨by omega, by omega⟩
  rintro m i ⟨rfl, hm⟩
  by_cases h0 : m = 0
  · subst h0
    left
    rw [show (n : Int) - ((0 : Nat) : Int) = n from by omega]; exact he
  · right
    have := hs (n - m) (by omega)
    rw [show (((n - m : Nat)) : Int) = (n : Int) - m from by omega] at this
    exact ⟨m - 1, _, by omega, this, by omega, by omega⟩
theorem Mod_ok (a : Int) {m : Int} (h0 : 0 < m) (h1 : m ≤ 4611686018427387904) : ∃ r, Fbeltwaymake_Mod a m = some r ∧ 0 ≤ r ∧ r < m := by
  have u := Int.tmod_lt_of_pos a h0
  have l := Int.lt_tmod_of_pos a h0
  unfold Fbeltwaymake_Mod
  rw [if_pos (by omega)]
  split
  · exact ⟨_, rfl, by rw [w64_id (by omega) (by omega)]; omega, by rw [w64_id (by omega) (by omega)]; omega⟩
  · exact ⟨_, rfl, by omega, u⟩
theorem gl_mem {α : Type} {d : α} {xs : List α} {k : Nat} (h : k < xs.length) : gl d xs k ∈ xs := by
  unfold gl
  rw [List.getD_eq_getElem?_getD, List.getElem?_eq_getElem h]
  exact List.getElem_mem h
theorem w64_nat {q : Nat} (h : q < 9223372036854775808) : w64 (q : Int) = q := w64_id (by omega) (by omega)

/-! Words. -/
theorem bn {w : Nat} (h : w < 18446744073709551616) : (BitVec.ofNat 64 w).toNat = w := by rw [BitVec.toNat_ofNat]; omega
theorem expo {w : Nat} (h : w < 9223372036854775808) : (((BitVec.ofNat 64 w) >>> (52#64).toNat) &&& (2047#64)).toNat = w / 4503599627370496 := by
  rw [BitVec.toNat_and, BitVec.toNat_ushiftRight, bn (by omega), Nat.shiftRight_eq_div_pow]
  show w / 2 ^ 52 &&& 2047 = _
  rw [show (2047 : Nat) = 2 ^ 11 - 1 from rfl, Nat.and_two_pow_sub_one_eq_mod, show (2 : Nat) ^ 52 = 4503599627370496 from by decide, show (2 : Nat) ^ 11 = 2048 from by decide]
  omega
theorem mant {w : Nat} (h : w < 18446744073709551616) : ((BitVec.ofNat 64 w) &&& (4503599627370495#64)).toNat = w % 4503599627370496 := by
  rw [BitVec.toNat_and, bn h]
  show w &&& 4503599627370495 = _
  rw [show (4503599627370495 : Nat) = 2 ^ 52 - 1 from by decide, Nat.and_two_pow_sub_one_eq_mod]
theorem or_B {f : Nat} (h : f < 4503599627370496) : f ||| 4503599627370496 = 4503599627370496 + f := by
  have := Nat.two_pow_add_eq_or_of_lt (i := 52) (b := f) (by rw [show (2 : Nat) ^ 52 = 4503599627370496 from by decide]; exact h) 1
  rw [Nat.mul_one, show (2 : Nat) ^ 52 = 4503599627370496 from by decide] at this
  rw [Nat.or_comm, ← this]
theorem mant1 {w : Nat} (h : w < 18446744073709551616) : (((BitVec.ofNat 64 w) &&& (4503599627370495#64)) ||| (4503599627370496#64)).toNat = 4503599627370496 + w % 4503599627370496 := by
  rw [BitVec.toNat_or, mant h]
  exact or_B (Nat.mod_lt _ (by omega))
theorem abs_w {w : Nat} (h : w < 9223372036854775808) : ((BitVec.ofNat 64 w) &&& ~~~(9223372036854775808#64)).toNat = w := by
  rw [show ~~~(9223372036854775808#64) = 9223372036854775807#64 from by decide, BitVec.toNat_and, bn (by omega)]
  show w &&& 9223372036854775807 = _
  rw [show (9223372036854775807 : Nat) = 2 ^ 63 - 1 from by decide, Nat.and_two_pow_sub_one_eq_mod, show (2 : Nat) ^ 63 = 9223372036854775808 from by decide]
  omega
theorem and63 {w : Nat} (h : w < 9223372036854775808) : w &&& 2 ^ 63 = 0 := by
  apply Nat.eq_of_testBit_eq
  intro i
  rw [Nat.testBit_and, Nat.testBit_two_pow]
  by_cases e : 63 = i
  · subst e; rw [Nat.testBit_lt_two_pow (by rw [show (2 : Nat) ^ 63 = 9223372036854775808 from by decide]; exact h)]; simp
  · simp [e]
theorem frac_w {w : Nat} (h : w < 9223372036854775808) : (((BitVec.ofNat 64 w) &&& ~~~(9218868437227405312#64)) ||| (4602678819172646912#64)).toNat = 1022 * 4503599627370496 + w % 4503599627370496 := by
  rw [show ~~~(9218868437227405312#64) = 9227875636482146303#64 from by decide, BitVec.toNat_or, BitVec.toNat_and, bn (by omega)]
  show (w &&& 9227875636482146303) ||| 4602678819172646912 = _
  have e : w &&& 9227875636482146303 = w % 4503599627370496 := by
    rw [show (9227875636482146303 : Nat) = 2 ^ 63 ||| (2 ^ 52 - 1) from by decide, Nat.and_or_distrib_left, and63 h, Nat.and_two_pow_sub_one_eq_mod, Nat.zero_or]
  rw [e]
  have hf : w % 4503599627370496 < 2 ^ 52 := by rw [show (2 : Nat) ^ 52 = 4503599627370496 from by decide]; exact Nat.mod_lt _ (by omega)
  rw [show (4602678819172646912 : Nat) = 2 ^ 52 * 1022 from by decide, Nat.or_comm, ← Nat.two_pow_add_eq_or_of_lt hf, show (2 : Nat) ^ 52 = 4503599627370496 from by decide, Nat.mul_comm]
theorem prod_w {k n : Nat} {s : Int} (h : k * n < 9223372036854775808) (hk : k < 9223372036854775808) (hn : n < 9223372036854775808) (s0 : 0 ≤ s) (s1 : s ≤ 100000) :
    (((BitVec.ofInt 64 (k : Int)) * (BitVec.ofInt 64 (n : Int))) >>> (BitVec.ofInt 64 s).toNat).toNat = k * n / 2 ^ s.toNat := by
  have es : (BitVec.ofInt 64 s).toNat = s.toNat := by rw [BitVec.toNat_ofInt]; omega
  rw [BitVec.toNat_ushiftRight, Nat.shiftRight_eq_div_pow, es, BitVec.toNat_mul, BitVec.ofInt_natCast, BitVec.ofInt_natCast, bn (by omega), bn (by omega), show (2 : Nat) ^ 64 = 18446744073709551616 from by decide, Nat.mod_eq_of_lt (by omega)]
theorem maxi {q : Nat} (h : q < 9223372036854775808) : (if w64 (q : Int) > 1 then w64 (q : Int) else 1) = ((max 1 q : Nat) : Int) := by
  rw [w64_nat h]
  split <;> omega

/-! Shares. -/
def VV (x : Nat) : Prop := x = 0 ∨ (0 < x ∧ x ≤ 4607182418800017408)
instance (x : Nat) : Decidable (VV x) := by unfold VV; infer_instance
theorem sValid_ok {x : Nat} (h : x < 18446744073709551616) : Fshare_Valid x = some (decide (VV x)) := by
  unfold Fshare_Valid
  rw [if_pos h]
  by_cases h0 : x = 0
  · subst h0; decide
  have hb : ¬ BitVec.ofNat 64 x = 0#64 := fun e => h0 (by have := congrArg BitVec.toNat e; rw [bn h] at this; exact this)
  rw [if_neg hb]
  by_cases h1 : fOrd x 0 = some .gt
  · rw [if_pos h1]
    obtain ⟨h2, h3⟩ := (gt_zero h).1 h1
    congr 1
    rw [decide_eq_decide, le_one h3]
    unfold VV
    constructor
    · intro h4; exact .inr ⟨h2, h4⟩
    · rintro (h4 | h4)
      · exact absurd h4 h0
      · exact h4.2
  · rw [if_neg h1]
    congr 1
    symm
    rw [decide_eq_false_iff_not]
    rintro (h4 | h4)
    · exact h0 h4
    · exact h1 ((gt_zero h).2 ⟨h4.1, by omega⟩)
theorem rValid_eq (x : Nat) : Fbeltwayref06_Valid x = Fshare_Valid x := rfl
theorem not_zero {x : Nat} (h0 : 0 < x) (h1 : x ≤ 4607182418800017408) : ¬ fOrd x 0 = some .eq := by
  rw [ord_eq, fval_pos (by omega), fval_pos (by omega), vv_zero]
  rintro ⟨_, _, h⟩
  have := vv_lt h0
  rw [vv_zero] at this
  omega
theorem num_of {x : Nat} (h1 : x ≤ 4607182418800017408) : isNum x := by unfold isNum; rw [(lt_sg (w := x) (by omega)).2]; omega
theorem frexp_ok {x : Nat} (h0 : 0 < x) (h1 : x ≤ 4607182418800017408) : ∃ f e, f < 4503599627370496 ∧ Fmath_Frexp x = some (1022 * 4503599627370496 + f, e) ∧ (4503599627370496 ≤ x → f = x % 4503599627370496 ∧ e = (x / 4503599627370496 : Nat) - 1022) ∧ (x < 4503599627370496 → -1073 ≤ e ∧ e ≤ -1022) := by
  have hx : x < 9223372036854775808 := by omega
  have habs : Fmath_Abs x = some x := by unfold Fmath_Abs; rw [if_pos (by omega), abs_w hx]
  unfold Fmath_Frexp Fmath_frexp Fmath_IsInf Fmath_IsNaN Fmath_normalize
  rw [if_neg (not_zero h0 h1), if_pos rfl, habs]
  simp only [Option.bind_some]
  have c1 : ¬ fOrd x 9218868437227405311 = some .gt := by
    rw [ord_gt, fval_pos (w := x) hx, fval_pos (w := 9218868437227405311) (by omega)]
    rintro ⟨_, _, h⟩
    have := vv_lt_iff.1 (show vv 9218868437227405311 < vv x by omega)
    omega
  have c2 : fOrd x x = some .eq := ord_eq.2 ⟨num_of h1, num_of h1, rfl⟩
  have c3 : fOrd x 4503599627370496 = some .lt ↔ x < 4503599627370496 := by
    rw [ord_lt, fval_pos (w := x) hx, fval_pos (w := 4503599627370496) (by omega)]
    constructor
    · rintro ⟨_, _, h⟩; exact vv_lt_iff.1 (by omega)
    · intro h; exact ⟨num_of h1, by decide, by have := vv_lt h; omega⟩
  rw [if_neg (by simp [c1]), if_neg (by simp [c2])]
  by_cases hb : x < 4503599627370496
  · rw [if_pos (c3.2 hb), show (4841369599423283200 : Nat) = 1075 * 4503599627370496 from by decide, mul_sub h0 hb]
    obtain ⟨l0, l1, l2⟩ := log2_lt h0 hb
    rw [if_pos Option.isSome_some, Option.getD_some, Option.bind_some]
    have hw : x.log2 * 4503599627370496 + x * 2 ^ (52 - x.log2) < 9223372036854775808 := by
      have : x.log2 * 4503599627370496 ≤ 51 * 4503599627370496 := Nat.mul_le_mul_right _ l0
      omega
    have hd : (x.log2 * 4503599627370496 + x * 2 ^ (52 - x.log2)) / 4503599627370496 = x.log2 + 1 := by omega
    rw [if_pos (by omega), if_pos trivial, frac_w hw, expo hw, hd, w64_nat (q := x.log2 + 1) (by omega), w64_id (e := ((x.log2 + 1 : Nat) : Int) - 1023) (by omega) (by omega), w64_id (e := ((x.log2 + 1 : Nat) : Int) - 1023 + 1) (by omega) (by omega), w64_id (by omega) (by omega), Option.bind_some]
    have hwb := Nat.mod_lt (x.log2 * 4503599627370496 + x * 2 ^ (52 - x.log2)) (show 0 < 4503599627370496 by omega)
    generalize (x.log2 * 4503599627370496 + x * 2 ^ (52 - x.log2)) % 4503599627370496 = w at hwb ⊢
    generalize hE : -52 + (((x.log2 + 1 : Nat) : Int) - 1023 + 1) = E
    clear hw hd l1 l2 c3 c2 c1 habs
    refine ⟨w, E, hwb, ?_, fun h => ?_, fun _ => ?_⟩
    · dsimp only
    · omega
    · omega
  · rw [if_neg (fun h => hb (c3.1 h)), Option.bind_some]
    rw [if_pos (by omega), if_pos trivial, frac_w hx, expo hx, w64_nat (q := x / 4503599627370496) (by omega), w64_id (e := ((x / 4503599627370496 : Nat) : Int) - 1023) (by omega) (by omega), w64_id (e := ((x / 4503599627370496 : Nat) : Int) - 1023 + 1) (by omega) (by omega), w64_id (by omega) (by omega), Option.bind_some]
    exact ⟨x % 4503599627370496, 0 + (((x / 4503599627370496 : Nat) : Int) - 1023 + 1), Nat.mod_lt _ (by omega), by dsimp only, fun _ => ⟨rfl, by omega⟩, fun h => absurd h hb⟩
theorem sFrames_ok {x : Nat} (h0 : 0 < x) (h1 : x ≤ 4607182418800017408) {n : Int} (n0 : 1 ≤ n) (n1 : n ≤ 64) : Fshare_Frames x n = some (((FR x n.toNat : Nat) : Int), 0) := by
  obtain ⟨f, e, hf, hx, e1, e2⟩ := frexp_ok h0 h1
  obtain ⟨m, rfl⟩ : ∃ m : Nat, n = (m : Int) := ⟨n.toNat, by omega⟩
  unfold Fshare_Frames
  rw [sValid_ok (by omega)]
  simp only [Option.bind_some]
  rw [if_neg (by simp only [Bool.not_eq_true', decide_eq_false_iff_not]; exact not_not_intro (.inr ⟨h0, h1⟩)), if_neg (by omega), if_neg (by omega), if_neg (not_zero h0 h1), hx]
  simp only [Option.bind_some]
  rw [show (4845873199050653696 : Nat) = 1076 * 4503599627370496 from by decide, mul_norm hf]
  simp only [Option.isSome_some, Option.getD_some]
  have hin : fIn .u64 (1075 * 4503599627370496 + f) = true := by
    unfold fIn
    rw [toInt_norm hf]
    simp only [decide_eq_true_eq]
    show 0 ≤ _ ∧ _ ≤ (18446744073709551615 : Int)
    omega
  have hkn : (4503599627370496 + f) * m ≤ (2 * 4503599627370496) * 64 := Nat.mul_le_mul (by omega) (by omega)
  rw [if_pos trivial, if_pos hin, if_pos trivial, toInt_norm hf]
  simp only [Option.getD_some]
  have he : -1073 ≤ e ∧ e ≤ 1 := by
    rcases Nat.lt_or_ge x 4503599627370496 with h | h
    · have := e2 h; omega
    · have := e1 h; omega
  rw [w64_id (e := 53 - e) (by omega) (by omega), prod_w (by omega) (by omega) (by omega) (by omega) (by omega)]
  have hq : (4503599627370496 + f) * m / 2 ^ (53 - e).toNat < 9223372036854775808 := Nat.lt_of_le_of_lt (Nat.div_le_self _ _) (by omega)
  rw [maxi hq]
  congr 2
  rw [Int.toNat_natCast]
  rcases Nat.lt_or_ge x 4503599627370496 with h | h
  · rw [FR_sub h (by omega), pow_big (by omega) (by have := e2 h; omega)]
    rfl
  · obtain ⟨rfl, rfl⟩ := e1 h
    unfold FR
    rw [FR_norm h h1]
    congr 4
    omega
theorem rFrames_ok {x : Nat} (h0 : 0 < x) (h1 : x ≤ 4607182418800017408) {n : Int} (n0 : 1 ≤ n) (n1 : n ≤ 64) : Fbeltwayref06_Frames x n = some (((FR x n.toNat : Nat) : Int), 0) := by
  have hx : x < 9223372036854775808 := by omega
  obtain ⟨m, rfl⟩ : ∃ m : Nat, n = (m : Int) := ⟨n.toNat, by omega⟩
  have hkn : (4503599627370496 + x % 4503599627370496) * m ≤ (2 * 4503599627370496) * 64 := Nat.mul_le_mul (by omega) (by omega)
  unfold Fbeltwayref06_Frames
  rw [rValid_eq, sValid_ok (by omega)]
  simp only [Option.bind_some]
  rw [if_neg (by simp only [Bool.not_eq_true', decide_eq_false_iff_not]; exact not_not_intro (.inr ⟨h0, h1⟩)), if_neg (by omega), if_neg (by omega), if_neg (not_zero h0 h1), if_pos (by omega), if_pos trivial, expo hx, w64_nat (q := x / 4503599627370496) (by omega), Int.toNat_natCast]
  have z0 : (if w64 (((0#64).toNat : Nat) : Int) > 1 then w64 (((0#64).toNat : Nat) : Int) else 1) = 1 := by decide
  by_cases hb : 4503599627370496 ≤ x
  · rw [if_pos (by omega), w64_id (e := 1075 - ((x / 4503599627370496 : Nat) : Int)) (by omega) (by omega)]
    by_cases hd : 1075 - ((x / 4503599627370496 : Nat) : Int) < 64
    · rw [if_pos hd, if_pos trivial]
      have hp := prod_w (k := 4503599627370496 + x % 4503599627370496) (n := m) (s := 1075 - ((x / 4503599627370496 : Nat) : Int)) (by omega) (by omega) (by omega) (by omega) (by omega)
      have hv : ((BitVec.ofNat 64 x) &&& (4503599627370495#64)) ||| (4503599627370496#64) = BitVec.ofInt 64 ((4503599627370496 + x % 4503599627370496 : Nat) : Int) := by
        apply BitVec.eq_of_toNat_eq
        rw [mant1 (by omega), BitVec.ofInt_natCast, bn (by omega)]
      have hq : (4503599627370496 + x % 4503599627370496) * m / 2 ^ (1075 - ((x / 4503599627370496 : Nat) : Int)).toNat < 9223372036854775808 := Nat.lt_of_le_of_lt (Nat.div_le_self _ _) (by omega)
      rw [hv, hp, maxi hq]
      congr 2
      unfold FR
      rw [FR_norm hb h1]
      congr 4
      omega
    · rw [if_neg hd, z0, FR_far hb h1 (by omega) (by omega)]
      rfl
  · rw [if_neg (by omega), if_neg (by decide), z0, FR_sub (by omega) (by omega)]
    rfl
theorem frames_eq {x : Nat} (h : x < 18446744073709551616) (n : Int) : ∃ v, Fshare_Frames x n = some v ∧ Fbeltwayref06_Frames x n = some v := by
  by_cases hv : VV x
  · by_cases n0 : n < 1
    · refine ⟨(0, 1), ?_, ?_⟩
      · unfold Fshare_Frames
        rw [sValid_ok h]
        simp only [Option.bind_some]
        rw [if_neg (by simp [hv]), if_pos n0]
      · unfold Fbeltwayref06_Frames
        rw [rValid_eq, sValid_ok h]
        simp only [Option.bind_some]
        rw [if_neg (by simp [hv]), if_pos n0]
    by_cases n1 : n > 64
    · refine ⟨(0, 1), ?_, ?_⟩
      · unfold Fshare_Frames
        rw [sValid_ok h]
        simp only [Option.bind_some]
        rw [if_neg (by simp [hv]), if_neg n0, if_pos n1]
      · unfold Fbeltwayref06_Frames
        rw [rValid_eq, sValid_ok h]
        simp only [Option.bind_some]
        rw [if_neg (by simp [hv]), if_neg n0, if_pos n1]
    rcases hv with rfl | ⟨h0, h1⟩
    · refine ⟨(0, 0), ?_, ?_⟩
      · unfold Fshare_Frames
        rw [sValid_ok h]
        simp only [Option.bind_some]
        rw [if_neg (by decide), if_neg n0, if_neg n1, if_pos (by decide)]
      · unfold Fbeltwayref06_Frames
        rw [rValid_eq, sValid_ok h]
        simp only [Option.bind_some]
        rw [if_neg (by decide), if_neg n0, if_neg n1, if_pos (by decide)]
    · exact ⟨_, sFrames_ok h0 h1 (by omega) (by omega), rFrames_ok h0 h1 (by omega) (by omega)⟩
  · refine ⟨(0, 6), ?_, ?_⟩
    · unfold Fshare_Frames
      rw [sValid_ok h]
      simp only [Option.bind_some]
      rw [if_pos (by simp [hv])]
    · unfold Fbeltwayref06_Frames
      rw [rValid_eq, sValid_ok h]
      simp only [Option.bind_some]
      rw [if_pos (by simp [hv])]

/-! Order. -/
theorem isEq {x : Nat} : fOrd x x = some .eq ↔ isNum x := by rw [ord_eq]; exact ⟨fun h => h.1, fun h => ⟨h, h, rfl⟩⟩
def sg (x : Nat) : Int := if 9223372036854775808 ≤ x then 1 else 0
def ordR (a b : Nat) : Int := if isNum a then (if isNum b then (if fval a < fval b then -1 else if fval b < fval a then 1 else sg b - sg a) else -1) else (if isNum b then 1 else 0)
theorem sign_ok {x : Nat} (h : x < 18446744073709551616) : Fshare_sign x = some (sg x) := by
  unfold Fshare_sign sg
  rw [if_pos h, if_pos trivial]
  have e : (((BitVec.ofNat 64 x) >>> (63#64).toNat).toNat : Nat) = x / 9223372036854775808 := by
    rw [BitVec.toNat_ushiftRight, bn h, Nat.shiftRight_eq_div_pow]
    show x / 2 ^ 63 = _
    rw [show (2 : Nat) ^ 63 = 9223372036854775808 from by decide]
  rw [e, w64_nat (q := x / 9223372036854775808) (by omega)]
  congr 1
  split <;> omega
theorem sg_cases (x : Nat) : sg x = 0 ∨ sg x = 1 := by unfold sg; split <;> simp
theorem sOrder_ok {a b : Nat} (ha : a < 18446744073709551616) (hb : b < 18446744073709551616) : Fshare_Order a b = some (ordR a b) := by
  unfold Fshare_Order ordR
  rw [sign_ok ha, sign_ok hb]
  simp only [isEq, Option.bind_some]
  have h1 := sg_cases a
  have h2 := sg_cases b
  by_cases na : isNum a
  · by_cases nb : isNum b
    · simp only [na, nb, not_true_eq_false, if_false, if_true, ord_lt, ord_gt, true_and]
      split
      · rfl
      · split
        · rfl
        · rw [w64_id (by omega) (by omega)]
    · simp [na, nb]
  · by_cases nb : isNum b
    · simp [na, nb]
    · simp [na, nb]
theorem rank_ok (x : Nat) : Fbeltwayref06_rank x = some (if isNum x then 0 else 1) := by
  unfold Fbeltwayref06_rank
  by_cases h : isNum x
  · rw [if_neg (not_not_intro (isEq.2 h)), if_pos h]
  · rw [if_pos (fun e => h (isEq.1 e)), if_neg h]
theorem w64_high {x : Nat} (h0 : 9223372036854775808 ≤ x) (h1 : x < 18446744073709551616) : w64 (x : Int) < 0 := by
  unfold w64
  rw [IntKind.wrap_i64]
  omega
theorem signbit_ok {x : Nat} (h : x < 18446744073709551616) : Fmath_Signbit x = some (decide (sg x = 1)) := by
  unfold Fmath_Signbit
  rw [if_pos h, bn h]
  congr 1
  rw [decide_eq_decide]
  unfold sg
  by_cases h1 : 9223372036854775808 ≤ x
  · exact iff_of_true (w64_high h1 h) (by rw [if_pos h1])
  · rw [w64_nat (by omega), if_neg h1]
    omega
theorem rOrder_ok {a b : Nat} (ha : a < 18446744073709551616) (hb : b < 18446744073709551616) : Fbeltwayref06_Order a b = some (ordR a b) := by
  unfold Fbeltwayref06_Order ordR
  rw [rank_ok, rank_ok, signbit_ok ha, signbit_ok hb]
  simp only [Option.bind_some]
  have h1 := sg_cases a
  have h2 := sg_cases b
  by_cases na : isNum a
  · by_cases nb : isNum b
    · simp only [na, nb, if_true, not_true_eq_false, if_false, ord_lt, ord_gt, true_and]
      rw [if_neg (by decide)]
      split
      · rfl
      · split
        · rfl
        · rcases h1 with h1 | h1 <;> rcases h2 with h2 | h2 <;> simp [h1, h2]
    · simp only [na, nb, if_true, if_false]
      rw [if_pos (by decide), w64_id (by omega) (by omega)]
      rfl
  · by_cases nb : isNum b
    · simp only [na, nb, if_true, if_false]
      rw [if_pos (by decide), w64_id (by omega) (by omega)]
      rfl
    · simp only [na, nb, if_false]
      rw [if_neg (by decide), if_pos trivial]
theorem ordR_neg (a b : Nat) : ordR a b = -ordR b a ∧ -1 ≤ ordR a b ∧ ordR a b ≤ 1 := by
  have h1 := sg_cases a
  have h2 := sg_cases b
  unfold ordR
  by_cases na : isNum a <;> by_cases nb : isNum b <;> simp only [na, nb, if_true, if_false]
  · by_cases c1 : fval a < fval b
    · rw [if_pos c1, if_neg (by omega), if_pos c1]; omega
    · rw [if_neg c1]
      by_cases c2 : fval b < fval a
      · rw [if_pos c2, if_pos c2]; omega
      · rw [if_neg c2, if_neg c2, if_neg c1]; omega
  · decide
  · decide
  · decide
theorem ordR_num {a b : Nat} (ha : isNum a) (hb : isNum b) : ordR a b ≤ 0 ↔ fval a < fval b ∨ (fval a = fval b ∧ sg b ≤ sg a) := by
  unfold ordR
  rw [if_pos ha, if_pos hb]
  by_cases c1 : fval a < fval b
  · rw [if_pos c1]; exact iff_of_true (by decide) (.inl c1)
  · rw [if_neg c1]
    by_cases c2 : fval b < fval a
    · rw [if_pos c2]; exact iff_of_false (by decide) (by omega)
    · rw [if_neg c2]
      constructor
      · intro h; exact .inr ⟨by omega, by omega⟩
      · intro h; omega
theorem ordR_trans {a b c : Nat} (h1 : ordR a b ≤ 0) (h2 : ordR b c ≤ 0) : ordR a c ≤ 0 := by
  by_cases nc : isNum c
  · by_cases nb : isNum b
    · by_cases na : isNum a
      · rw [ordR_num na nb] at h1
        rw [ordR_num nb nc] at h2
        rw [ordR_num na nc]
        omega
      · unfold ordR at h1; rw [if_neg na, if_pos nb] at h1; exact absurd h1 (by decide)
    · unfold ordR at h2; rw [if_neg nb, if_pos nc] at h2; exact absurd h2 (by decide)
  · unfold ordR
    by_cases na : isNum a
    · rw [if_pos na, if_neg nc]; decide
    · rw [if_neg na, if_neg nc]; decide

/-! Numbers of any kind. -/
theorem pct_ok : ∀ p : Fin 101, (match fArith .quo (fOfInt (p.1 : Int)) 4636737291354636288 with | some w => decide (w < 18446744073709551616) | none => false) = true := by decide +kernel
theorem pct {p : Int} (h0 : 0 ≤ p) (h1 : p ≤ 100) : ∃ w, fArith .quo (fOfInt p) 4636737291354636288 = some w ∧ w < 18446744073709551616 := by
  have := pct_ok ⟨p.toNat, by omega⟩
  rw [show (((⟨p.toNat, by omega⟩ : Fin 101).1 : Nat) : Int) = p from Int.toNat_of_nonneg h0] at this
  cases h : fArith .quo (fOfInt p) 4636737291354636288 with
  | none => rw [h] at this; cases this
  | some w => rw [h] at this; exact ⟨w, rfl, by simpa using this⟩
theorem number_ok (v : BitVec 64) (k : Int) : ∃ x, Fbeltwaylaw06_number v k = some x ∧ x < 18446744073709551616 := by
  have e1 : Fmath_NaN = some 9221120237041090561 := by decide
  have e2 : Fmath_Inf 1 = some 9218868437227405312 := by decide
  have e3 : Fmath_Inf (-1) = some 18442240474082181120 := by decide
  have e4 : Fmath_Copysign 0 13830554455654793216 = some 9223372036854775808 := by decide
  unfold Fbeltwaylaw06_number
  rw [e1, e2, e3, e4]
  simp only [Option.bind_some]
  obtain ⟨r, m1, m2, m3⟩ := Mod_ok (w64 (((v >>> (1#64).toNat).toNat : Int))) (m := 101) (by omega) (by omega)
  rw [if_pos trivial, if_pos trivial, if_pos trivial, m1]
  simp only [Option.bind_some]
  obtain ⟨w, w1, w2⟩ := pct m2 (by omega)
  rw [w1, if_pos Option.isSome_some]
  simp only [Option.getD_some]
  obtain ⟨q, n1, n2, n3⟩ := Mod_ok k (m := 16) (by omega) (by omega)
  have e5 : (([9221120237041090561, 9218868437227405312, 18442240474082181120, 9223372036854775808, 0, 4607182418800017408, 4602678819172646912, 4607182418800017407, 4607182418800017409, 1, 4336966441157787648, 4599676419421066581, v.toNat, ((v >>> (12#64).toNat) ||| (4602678819172646912#64)).toNat, ((v >>> (12#64).toNat) ||| (4580160821035794432#64)).toNat, w] : List Nat).length : Int) = 16 := rfl
  rw [e5, n1]
  simp only [Option.bind_some]
  rw [if_pos ⟨n2, n3⟩]
  refine ⟨_, rfl, ?_⟩
  have hm := gl_mem (d := (0 : Nat)) (xs := [9221120237041090561, 9218868437227405312, 18442240474082181120, 9223372036854775808, 0, 4607182418800017408, 4602678819172646912, 4607182418800017407, 4607182418800017409, 1, 4336966441157787648, 4599676419421066581, v.toNat, ((v >>> (12#64).toNat) ||| (4602678819172646912#64)).toNat, ((v >>> (12#64).toNat) ||| (4580160821035794432#64)).toNat, w]) (k := q.toNat) (by simp; omega)
  generalize gl (0 : Nat) _ q.toNat = x at hm ⊢
  have t1 := v.isLt
  have t2 := ((v >>> (12#64).toNat) ||| (4602678819172646912#64)).isLt
  have t3 := ((v >>> (12#64).toNat) ||| (4580160821035794432#64)).isLt
  simp only [List.mem_cons, List.not_mem_nil, or_false] at hm
  omega
theorem awake_ok : Fbeltwaylaw06_awake = some true := by
  unfold Fbeltwaylaw06_awake
  rw [sFrames_ok (x := 4598175219545276416) (by omega) (by omega) (by omega) (by omega), sFrames_ok (x := 4576918229304087675) (by omega) (by omega) (by omega) (by omega)]
  have e1 : FR 4598175219545276416 (10 : Int).toNat = 2 := by decide +kernel
  have e2 : FR 4576918229304087675 (10 : Int).toNat = 1 := by decide +kernel
  have e4 : Fmath_Copysign 0 13830554455654793216 = some 9223372036854775808 := by decide
  rw [e1, e2, e4]
  simp only [Option.bind_some]
  rw [if_pos trivial, if_pos trivial, if_pos (by decide), if_pos (by decide), sOrder_ok (by omega) (by omega)]
  decide +kernel

theorem law_ShareFrames (y0 : BitVec 64) (y1 : Int) (w1 : I64 y1) (y2 : Int) (w2 : I64 y2) : Fbeltwaylaw06_ShareFrames y0 y1 y2 = some true := by
  unfold Fbeltwaylaw06_ShareFrames
  obtain ⟨a, a1, a2⟩ := number_ok y0 y1
  obtain ⟨b, b1, b2⟩ := number_ok y0 (w64 (Int.tdiv y1 16))
  rw [a1]
  simp only [Option.bind_some]
  rw [if_pos (by decide), b1]
  simp only [Option.bind_some]
  refine loopO_run 3 (fun k hk => ?_) (by rw [if_neg (by simp), awake_ok]; rfl)
  rw [if_pos (by simp; omega), if_pos ⟨by omega, by simp; omega⟩]
  have hx : gl (0 : Nat) [a, y0.toNat, b] (k : Int).toNat < 18446744073709551616 := by
    have hm := gl_mem (d := (0 : Nat)) (xs := [a, y0.toNat, b]) (k := (k : Int).toNat) (by simp; omega)
    have := y0.isLt
    generalize gl (0 : Nat) [a, y0.toNat, b] (k : Int).toNat = x at hm ⊢
    simp only [List.mem_cons, List.not_mem_nil, or_false] at hm
    omega
  generalize gl (0 : Nat) [a, y0.toNat, b] (k : Int).toNat = x at hx ⊢
  rw [rValid_eq, sValid_ok hx]
  simp only [Option.bind_some]
  obtain ⟨r, m1, m2, m3⟩ := Mod_ok y2 (m := 66) (by omega) (by omega)
  rw [if_neg (by simp), m1]
  simp only [Option.bind_some]
  rw [w64_id (e := (k : Int) + 1) (by omega) (by omega)]
  refine loopO_run 4 (fun m hm => ?_) (by rw [if_neg (by simp)])
  rw [if_pos (by simp; omega), if_pos ⟨by omega, by simp; omega⟩]
  generalize gl (0 : Int) [y2, r, 64, 63] (m : Int).toNat = q
  obtain ⟨v, v1, v2⟩ := frames_eq hx q
  rw [v1]
  simp only [Option.bind_some]
  rw [v2]
  simp only [Option.bind_some]
  rw [if_neg (by simp), if_neg (by simp), w64_id (by omega) (by omega)]

theorem law_ShareOrder (y0 : BitVec 64) (y1 : BitVec 64) (y2 : BitVec 64) (y3 : Int) (w3 : I64 y3) (y4 : Int) (w4 : I64 y4) (y5 : Int) (w5 : I64 y5) : Fbeltwaylaw06_ShareOrder y0 y1 y2 y3 y4 y5 = some true := by
  unfold Fbeltwaylaw06_ShareOrder
  obtain ⟨a, a1, a2⟩ := number_ok y0 y3
  obtain ⟨b, b1, b2⟩ := number_ok y1 y4
  obtain ⟨c, c1, c2⟩ := number_ok y2 y5
  have e1 : Fmath_NaN = some 9221120237041090561 := by decide
  rw [a1, Option.bind_some, b1, Option.bind_some, c1, Option.bind_some, e1, Option.bind_some]
  have hall0 : ∀ x ∈ [a, b, c, y0.toNat, 9221120237041090561], x < 18446744073709551616 := by
    intro x hm
    have := y0.isLt
    simp only [List.mem_cons, List.not_mem_nil, or_false] at hm
    omega
  have hlen : [a, b, c, y0.toNat, 9221120237041090561].length = 5 := rfl
  generalize [a, b, c, y0.toNat, 9221120237041090561] = L at hall0 hlen ⊢
  have hall : ∀ m : Nat, m < 5 → gl (0 : Nat) L (m : Int).toNat < 18446744073709551616 := fun m hm => hall0 _ (gl_mem (by rw [hlen]; omega))
  rw [hlen]
  refine loopO_run 5 (fun k hk => ?_) (by rw [if_neg (by omega), awake_ok]; rfl)
  have hx := hall k hk
  rw [if_pos (by omega), if_pos ⟨by omega, by omega⟩, w64_id (e := (k : Int) + 1) (by omega) (by omega)]
  generalize gl (0 : Nat) L (k : Int).toNat = x at hx ⊢
  refine loopO_run 5 (fun m hm => ?_) (by rw [if_neg (by omega)])
  have hy := hall m hm
  rw [if_pos (by omega), if_pos ⟨by omega, by omega⟩]
  generalize gl (0 : Nat) L (m : Int).toNat = y at hy ⊢
  obtain ⟨n1, n2, n3⟩ := ordR_neg x y
  rw [sOrder_ok hx hy, rOrder_ok hx hy, sOrder_ok hy hx, Option.bind_some, Option.bind_some]
  rw [if_neg (by simp), Option.bind_some, Option.bind_some, w64_id (e := 0 - ordR _ _) (by omega) (by omega), if_neg (by omega), w64_id (e := (m : Int) + 1) (by omega) (by omega)]
  refine loopO_run 5 (fun n hn => ?_) (by rw [if_neg (by omega)])
  have hz := hall n hn
  rw [if_pos (by omega), if_pos ⟨by omega, by omega⟩]
  generalize gl (0 : Nat) L (n : Int).toNat = z at hz ⊢
  rw [sOrder_ok hy hz, sOrder_ok hx hz, Option.bind_some, Option.bind_some, Option.bind_some]
  rw [w64_id (e := (n : Int) + 1) (by omega) (by omega)]
  split
  · split
    · rename_i q1 q2
      have := ordR_trans q1 q2
      rw [if_neg (by omega)]
    · rfl
  · rfl

theorem perc_eq (p : Int) : Fbeltwayref06_Percent p = Fshare_Percent p := rfl
theorem toPerc_eq (x : Nat) : Fbeltwayref06_ToPercent x = Fshare_ToPercent x := rfl
theorem perc_ok (p : Int) : ∃ w e, Fshare_Percent p = some (w, e) ∧ w < 18446744073709551616 := by
  unfold Fshare_Percent
  by_cases h0 : p < 0
  · rw [if_pos h0]; exact ⟨_, _, rfl, by omega⟩
  rw [if_neg h0]
  by_cases h1 : p > 100
  · rw [if_pos h1]; exact ⟨_, _, rfl, by omega⟩
  rw [if_neg h1]
  obtain ⟨w, w1, w2⟩ := pct (p := p) (by omega) (by omega)
  rw [w1, if_pos Option.isSome_some]
  exact ⟨_, _, rfl, w2⟩
theorem toPerc_ok {x : Nat} (h : x < 18446744073709551616) : ∃ v, Fshare_ToPercent x = some v := by
  unfold Fshare_ToPercent
  suffices hs : ∃ b, _ ∧ True by
    obtain ⟨b, hb, _⟩ := hs
    exact ⟨b, hb⟩
  refine loopO_ind (fun n (i : Int) => i = 101 - (n : Int) ∧ n ≤ 101) (fun _ => True) ?_ 101 0 ⟨by omega, by omega⟩
  rintro n i ⟨h1, h2⟩
  by_cases h3 : n = 0
  · rw [if_neg (by omega)]; exact .inl ⟨_, rfl, trivial⟩
  · rw [if_pos (by omega)]
    obtain ⟨w, e, e1, e2⟩ := perc_ok i
    rw [e1]
    simp only [Option.bind_some]
    rw [if_pos h, if_pos e2]
    split
    · exact .inl ⟨_, rfl, trivial⟩
    · rw [w64_id (by omega) (by omega)]
      exact .inr ⟨n - 1, _, by omega, rfl, by omega, by omega⟩
theorem law_SharePercents (y0 : Int) (w0 : I64 y0) (y1 : BitVec 64) (y2 : Int) (w2 : I64 y2) : Fbeltwaylaw06_SharePercents y0 y1 y2 = some true := by
  unfold Fbeltwaylaw06_SharePercents
  obtain ⟨r, m1, m2, m3⟩ := Mod_ok y0 (m := 103) (by omega) (by omega)
  rw [m1]
  simp only [Option.bind_some]
  refine loopO_run 2 (fun k hk => ?_) ?_
  · rw [if_pos (by simp; omega), if_pos ⟨by omega, by simp; omega⟩]
    generalize gl (0 : Int) [y0, w64 (r - 1)] (k : Int).toNat = p
    obtain ⟨w, e, e1, e2⟩ := perc_ok p
    obtain ⟨v, v1⟩ := toPerc_ok e2
    rw [perc_eq, e1]
    simp only [Option.bind_some]
    rw [if_pos e2, if_pos e2, if_neg (by simp), if_neg (by simp), toPerc_eq, v1]
    simp only [Option.bind_some]
    rw [if_neg (by simp), if_neg (by simp), w64_id (by omega) (by omega)]
  · obtain ⟨a, a1, a2⟩ := number_ok y1 y2
    obtain ⟨v, v1⟩ := toPerc_ok a2
    rw [if_neg (by simp), a1]
    simp only [Option.bind_some]
    rw [toPerc_eq, v1]
    simp only [Option.bind_some]
    rw [if_pos trivial, if_pos trivial, awake_ok]
    rfl

theorem law_ShareGrows (y0 : BitVec 64) (y1 : BitVec 64) (y2 : Int) (w2 : I64 y2) (y3 : Int) (w3 : I64 y3) (y4 : Int) (w4 : I64 y4) (y5 : Int) (w5 : I64 y5) : Fbeltwaylaw06_ShareGrows y0 y1 y2 y3 y4 y5 = some true := by
  unfold Fbeltwaylaw06_ShareGrows
  obtain ⟨a, a1, a2⟩ := number_ok y0 y2
  obtain ⟨b, b1, b2⟩ := number_ok y1 y3
  rw [a1]
  simp only [Option.bind_some]
  rw [b1]
  simp only [Option.bind_some]
  rw [sValid_ok a2, awake_ok]
  simp only [Option.bind_some]
  by_cases va : VV a
  rotate_left
  · rw [if_pos (by simp [va])]
  rw [if_neg (by simp [va]), sValid_ok b2]
  simp only [Option.bind_some]
  by_cases vb : VV b
  rotate_left
  · rw [if_pos (by simp [vb])]
  rw [if_neg (by simp [vb])]
  rcases va with rfl | ⟨x0, x1⟩
  · rw [if_pos (by decide)]
  rw [if_neg (not_zero x0 x1)]
  rcases vb with rfl | ⟨z0, z1⟩
  · rw [if_pos (by decide)]
  rw [if_neg (not_zero z0 z1)]
  obtain ⟨p, p1, p2, p3⟩ := Mod_ok y4 (m := 64) (by omega) (by omega)
  obtain ⟨q, q1, q2, q3⟩ := Mod_ok y5 (m := 64) (by omega) (by omega)
  rw [p1]
  simp only [Option.bind_some]
  rw [q1]
  simp only [Option.bind_some]
  rw [w64_id (e := 1 + p) (by omega) (by omega), w64_id (e := 1 + q) (by omega) (by omega)]
  have ho := ord_num (num_of x1) (num_of z1)
  rw [fval_pos (by omega), fval_pos (by omega)] at ho
  have hmm : fMin a b = min a b ∧ fMax a b = max a b := by
    unfold fMin fMax
    rcases Nat.lt_trichotomy a b with h | h | h
    · have := vv_lt h
      rw [Int.compare_eq_lt.2 (by omega)] at ho
      rw [ho]; simp only; omega
    · subst h
      rw [Int.compare_eq_eq.2 rfl] at ho
      rw [ho]
      simp
    · have := vv_lt h
      rw [Int.compare_eq_gt.2 (by omega)] at ho
      rw [ho]; simp only; omega
  have hs : (fOrd a b).isSome = true := by rw [ho]; rfl
  rw [if_pos hs, hmm.1, hmm.2]
  have k1 : 1 ≤ (if 1 + q < 1 + p then 1 + q else 1 + p) ∧ (if 1 + q < 1 + p then 1 + q else 1 + p) ≤ 64 ∧ (if 1 + q < 1 + p then 1 + q else 1 + p) ≤ (if 1 + q > 1 + p then 1 + q else 1 + p) ∧ (if 1 + q > 1 + p then 1 + q else 1 + p) ≤ 64 := by
    repeat' split
    all_goals omega
  obtain ⟨k1, k2, k3, k4⟩ := k1
  rw [sFrames_ok (x := min a b) (by omega) (by omega) k1 k2]
  simp only [Option.bind_some]
  rw [if_pos hs, sFrames_ok (x := max a b) (by omega) (by omega) (by omega) k4]
  simp only [Option.bind_some]
  rw [sFrames_ok (x := 4607182418800017408) (by omega) (by omega) (by omega) (by omega)]
  simp only [Option.bind_some]
  have f1 := FR_mono (x := min a b) (y := max a b) (by omega) (show (if 1 + q < 1 + p then 1 + q else 1 + p).toNat ≤ (if 1 + q > 1 + p then 1 + q else 1 + p).toNat by omega)
  have f2 := (FR_le (x := min a b) (by omega) (show 1 ≤ (if 1 + q < 1 + p then 1 + q else 1 + p).toNat by omega)).1
  rw [FR_one (by omega), if_pos trivial, if_pos trivial, if_pos trivial, if_pos (by omega), if_pos (by omega), if_pos (by omega)]

theorem law_ShareExact (y0 : BitVec 64) (y1 : Int) (w1 : I64 y1) : Fbeltwaylaw06_ShareExact y0 y1 = some true := by
  unfold Fbeltwaylaw06_ShareExact
  obtain ⟨p, p1, p2, p3⟩ := Mod_ok (w64 (((y0 &&& (15#64)).toNat : Int))) (m := 15) (by omega) (by omega)
  obtain ⟨q, q1, q2, q3⟩ := Mod_ok y1 (m := 64) (by omega) (by omega)
  rw [if_pos trivial, p1, Option.bind_some, if_pos trivial, q1, Option.bind_some]
  rw [w64_id (e := 1008 + p) (by omega) (by omega), w64_id (e := 1 + q) (by omega) (by omega)]
  obtain ⟨e, he⟩ : ∃ e : Nat, 1008 + p = (e : Int) := ⟨(1008 + p).toNat, by omega⟩
  obtain ⟨m, hm⟩ : ∃ m : Nat, 1 + q = (m : Int) := ⟨(1 + q).toNat, by omega⟩
  rw [he, hm]
  have hf : (y0 >>> (12#64).toNat).toNat < 4503599627370496 := by
    rw [BitVec.toNat_ushiftRight, Nat.shiftRight_eq_div_pow]
    show y0.toNat / 2 ^ 12 < _
    have := y0.isLt
    rw [show (2 : Nat) ^ 12 = 4096 from by decide]
    omega
  generalize hg : (y0 >>> (12#64).toNat) = g at hf ⊢
  have hx : ((g ||| ((BitVec.ofInt 64 (e : Int)) <<< (52#64).toNat)).toNat) = e * 4503599627370496 + g.toNat := by
    rw [BitVec.toNat_or, BitVec.toNat_shiftLeft, BitVec.ofInt_natCast, bn (by omega)]
    show g.toNat ||| (e <<< 52 % 2 ^ 64) = _
    rw [Nat.shiftLeft_eq, show (2 : Nat) ^ 64 = 18446744073709551616 from by decide, Nat.mod_eq_of_lt (by rw [show (2 : Nat) ^ 52 = 4503599627370496 from by decide]; omega), Nat.or_comm, Nat.mul_comm e, ← Nat.two_pow_add_eq_or_of_lt (by rw [show (2 : Nat) ^ 52 = 4503599627370496 from by decide]; exact hf), show (2 : Nat) ^ 52 = 4503599627370496 from by decide, Nat.mul_comm]
  rw [hx]
  generalize hxx : e * 4503599627370496 + g.toNat = x
  have x0 : 4503599627370496 ≤ x := by omega
  have x1 : x ≤ 4607182418800017408 := by omega
  have xe : x / 4503599627370496 = e := by omega
  rw [sFrames_ok (by omega) x1 (by omega) (by omega), Option.bind_some, Int.toNat_natCast]
  obtain ⟨f1, f2⟩ := FR_le x1 (show 1 ≤ m by omega)
  rw [if_neg (by simp), if_neg (by omega), if_neg (by omega), if_pos (by omega), if_pos trivial]
  have hexp : (((BitVec.ofNat 64 x) >>> (52#64).toNat).toNat : Int) = (e : Int) := by
    rw [BitVec.toNat_ushiftRight, bn (by omega), Nat.shiftRight_eq_div_pow]
    show ((x / 2 ^ 52 : Nat) : Int) = _
    rw [show (2 : Nat) ^ 52 = 4503599627370496 from by decide, xe]
  have hv : ((BitVec.ofNat 64 x) &&& (4503599627370495#64)) ||| (4503599627370496#64) = BitVec.ofInt 64 ((4503599627370496 + x % 4503599627370496 : Nat) : Int) := by
    apply BitVec.eq_of_toNat_eq
    rw [mant1 (by omega), BitVec.ofInt_natCast, bn (by omega)]
  have hkn : (4503599627370496 + x % 4503599627370496) * m ≤ (2 * 4503599627370496) * 64 := Nat.mul_le_mul (by omega) (by omega)
  have hp := prod_w (k := 4503599627370496 + x % 4503599627370496) (n := m) (s := 1075 - (e : Int)) (by omega) (by omega) (by omega) (by omega) (by omega)
  rw [hexp, w64_id (e := (e : Int)) (by omega) (by omega), w64_id (e := (e : Int) - 1075) (by omega) (by omega), w64_id (e := 0 - ((e : Int) - 1075)) (by omega) (by omega), show 0 - ((e : Int) - 1075) = 1075 - (e : Int) from by omega, hv]
  have hFR : FR x m = max 1 ((4503599627370496 + x % 4503599627370496) * m / 2 ^ (1075 - (e : Int)).toNat) := by
    unfold FR
    rw [FR_norm x0 x1, xe, show (1075 - (e : Int)).toNat = 1075 - e from by omega]
  have hq : (4503599627370496 + x % 4503599627370496) * m / 2 ^ (1075 - (e : Int)).toNat < 9223372036854775808 := Nat.lt_of_le_of_lt (Nat.div_le_self _ _) (by omega)
  by_cases h1 : ((FR x m : Nat) : Int) = 1
  · rw [if_pos h1, if_pos trivial, hp, if_pos (by show _ ≤ 1; omega)]
  · rw [if_neg h1, if_pos trivial]
    congr 1
    rw [decide_eq_true_iff]
    apply BitVec.eq_of_toNat_eq
    rw [hp, BitVec.ofInt_natCast, bn (by omega)]
    omega
namespace shareExact
open Go.ChangeShapes Go.WideShapes Go.ChangeAt Go.RowKit Go.V3
set_option linter.unusedVariables false
theorem own : ownKnob Try.prog.godebug = none := by kernel_rfl
theorem laidOut : laidOutB Try.prog = true := by kernel_rfl
set_option maxRecDepth 100000 in
theorem lifted (os : Os) (started : os.Started) (H : Type) (enc : TypeId × Value → H) :
    ReturnsInHanded {} Try.checked os 3 .any (Rows.shareExactSpec.pre6 enc Try.prog Try.f3 Rows.shareExactRow.domain false) (Rows.shareExactSpec.post enc Try.prog Try.f3 false true false false) := by
  refine returnsInHanded_of_change (C := Try.checked) own started (by kernel_rfl) Try.func3
    (ChangeSpec.witness6 (enc := enc) (C := Try.checked) false ⟨#[], #[.int .u64 0, .int .i64 0], []⟩ 8 (by kernel_rfl) (by kernel_rfl) (by kernel_rfl) (by kernel_rfl)) ?_
  intro W base args ds gs before hval0 hW hcnd _
  have hT : TabW tabs W := TabW.nil W
  have hval : ∀ (j : Nat) t v, Try.f3.params[j]? = some t → args[j]? = some v → Value.okWide Try.prog W .any base t v := hval0
  have hW' := hW
  obtain ⟨p, q, hA0, hV, rfl, hfz, hnd⟩ := hW
  have hA : DataW.TrodAll enc Try.prog W 0 (fun _ => true) true Try.f3.params.toList args.toList ds p := hA0
  rw [Try.params3] at hA hval
  obtain ⟨v0, vs0, d0, ds0, p0, q0, hargs, rfl, rfl, h0, r0⟩ := trodAll_cons hA
  obtain ⟨v1, vs1, d1, ds1, p1, q1, rfl, rfl, rfl, h1, r1⟩ := trodAll_cons r0
  obtain ⟨rfl, rfl, rfl⟩ := trodAll_nil r1
  obtain rfl : args = #[v0, v1] := by cases args; simp_all
  obtain ⟨rfl, rfl⟩ := trodVars_none hV
  have k0 := h0
  have lt0 : ∀ x ∈ p0, x.block < W.heap.size := by obtain ⟨m, hm⟩ := k0; exact DataW.trod_lt m _ _ _ hm
  obtain ⟨a0, rfl, _, _, w0⟩ := open_int Try.underlying22 (hval 0 22 v0 rfl rfl) h0
  obtain ⟨x0, rfl⟩ := u64_of_wf w0
  have k1 := h1
  have lt1 : ∀ x ∈ p1, x.block < W.heap.size := by obtain ⟨m, hm⟩ := k1; exact DataW.trod_lt m _ _ _ hm
  obtain ⟨a1, rfl, _, _, w1⟩ := open_int Try.underlying3 (hval 1 3 v1 rfl rfl) h1
  have b1 := i64_of_wf w1
  refine (law_bare okFbeltwaylaw06_ShareExact rfl hT (x := ((x0, a1) : HT iFbeltwaylaw06_ShareExact.ps)) (r := (true : Bool)) (vals := #[_, _]) (w := W) ?_ (law_ShareExact x0 a1 b1) (fun _ => rfl)).mono fun e W' ⟨he, bel⟩ => ?_
  · rfl
  subst he
  simp only [List.append_nil] at hW'
  exact ⟨_, rfl, _, _, _, [], _, [], hW', trodAll_mk1 (shut_bool Try.underlying4 _), (trodAll_cons_mk (Below.trod laidOut (by kernel_rfl) (of_decide_eq_true (by kernel_rfl)) k0 bel lt0) (trodAll_cons_mk (Below.trod laidOut (by kernel_rfl) (of_decide_eq_true (by kernel_rfl)) k1 bel lt1) trodAll_mk0)), rfl, bel.frame _, fun h => by cases h⟩
theorem proved : Rows.ShareExactSaid :=
  OpenClaim.holds_of_wide 3 Try.f3 rfl rfl rfl rfl rfl rfl rfl ⟨rfl, rfl, rfl, rfl, rfl⟩ rfl rfl rfl rfl rfl (by kernel_rfl) Try.func3 (by kernel_rfl)
    (of_decide_eq_true (by kernel_rfl)) (by unfold Func.isWrapper; first | (rw [if_pos (by decide +kernel)]; kernel_rfl) | (rw [if_neg (by decide +kernel)]; exact ⟨rfl, rfl⟩))
    (fun os started H enc _ => lifted os started H enc)
end shareExact
namespace shareFrames
open Go.ChangeShapes Go.WideShapes Go.ChangeAt Go.RowKit Go.V3
set_option linter.unusedVariables false
theorem own : ownKnob Try.prog.godebug = none := by kernel_rfl
theorem laidOut : laidOutB Try.prog = true := by kernel_rfl
set_option maxRecDepth 100000 in
theorem lifted (os : Os) (started : os.Started) (H : Type) (enc : TypeId × Value → H) :
    ReturnsInHanded {} Try.checked os 5 .any (Rows.shareFramesSpec.pre6 enc Try.prog Try.f5 Rows.shareFramesRow.domain false) (Rows.shareFramesSpec.post enc Try.prog Try.f5 false true false false) := by
  refine returnsInHanded_of_change (C := Try.checked) own started (by kernel_rfl) Try.func5
    (ChangeSpec.witness6 (enc := enc) (C := Try.checked) false ⟨#[], #[.int .u64 0, .int .i64 0, .int .i64 0], []⟩ 8 (by kernel_rfl) (by kernel_rfl) (by kernel_rfl) (by kernel_rfl)) ?_
  intro W base args ds gs before hval0 hW hcnd _
  have hT : TabW tabs W := TabW.nil W
  have hval : ∀ (j : Nat) t v, Try.f5.params[j]? = some t → args[j]? = some v → Value.okWide Try.prog W .any base t v := hval0
  have hW' := hW
  obtain ⟨p, q, hA0, hV, rfl, hfz, hnd⟩ := hW
  have hA : DataW.TrodAll enc Try.prog W 0 (fun _ => true) true Try.f5.params.toList args.toList ds p := hA0
  rw [Try.params5] at hA hval
  obtain ⟨v0, vs0, d0, ds0, p0, q0, hargs, rfl, rfl, h0, r0⟩ := trodAll_cons hA
  obtain ⟨v1, vs1, d1, ds1, p1, q1, rfl, rfl, rfl, h1, r1⟩ := trodAll_cons r0
  obtain ⟨v2, vs2, d2, ds2, p2, q2, rfl, rfl, rfl, h2, r2⟩ := trodAll_cons r1
  obtain ⟨rfl, rfl, rfl⟩ := trodAll_nil r2
  obtain rfl : args = #[v0, v1, v2] := by cases args; simp_all
  obtain ⟨rfl, rfl⟩ := trodVars_none hV
  have k0 := h0
  have lt0 : ∀ x ∈ p0, x.block < W.heap.size := by obtain ⟨m, hm⟩ := k0; exact DataW.trod_lt m _ _ _ hm
  obtain ⟨a0, rfl, _, _, w0⟩ := open_int Try.underlying22 (hval 0 22 v0 rfl rfl) h0
  obtain ⟨x0, rfl⟩ := u64_of_wf w0
  have k1 := h1
  have lt1 : ∀ x ∈ p1, x.block < W.heap.size := by obtain ⟨m, hm⟩ := k1; exact DataW.trod_lt m _ _ _ hm
  obtain ⟨a1, rfl, _, _, w1⟩ := open_int Try.underlying3 (hval 1 3 v1 rfl rfl) h1
  have b1 := i64_of_wf w1
  have k2 := h2
  have lt2 : ∀ x ∈ p2, x.block < W.heap.size := by obtain ⟨m, hm⟩ := k2; exact DataW.trod_lt m _ _ _ hm
  obtain ⟨a2, rfl, _, _, w2⟩ := open_int Try.underlying3 (hval 2 3 v2 rfl rfl) h2
  have b2 := i64_of_wf w2
  refine (law_bare okFbeltwaylaw06_ShareFrames rfl hT (x := ((x0, a1, a2) : HT iFbeltwaylaw06_ShareFrames.ps)) (r := (true : Bool)) (vals := #[_, _, _]) (w := W) ?_ (law_ShareFrames x0 a1 b1 a2 b2) (fun _ => rfl)).mono fun e W' ⟨he, bel⟩ => ?_
  · rfl
  subst he
  simp only [List.append_nil] at hW'
  exact ⟨_, rfl, _, _, _, [], _, [], hW', trodAll_mk1 (shut_bool Try.underlying4 _), (trodAll_cons_mk (Below.trod laidOut (by kernel_rfl) (of_decide_eq_true (by kernel_rfl)) k0 bel lt0) (trodAll_cons_mk (Below.trod laidOut (by kernel_rfl) (of_decide_eq_true (by kernel_rfl)) k1 bel lt1) (trodAll_cons_mk (Below.trod laidOut (by kernel_rfl) (of_decide_eq_true (by kernel_rfl)) k2 bel lt2) trodAll_mk0))), rfl, bel.frame _, fun h => by cases h⟩
theorem proved : Rows.ShareFramesSaid :=
  OpenClaim.holds_of_wide 5 Try.f5 rfl rfl rfl rfl rfl rfl rfl ⟨rfl, rfl, rfl, rfl, rfl⟩ rfl rfl rfl rfl rfl (by kernel_rfl) Try.func5 (by kernel_rfl)
    (of_decide_eq_true (by kernel_rfl)) (by unfold Func.isWrapper; first | (rw [if_pos (by decide +kernel)]; kernel_rfl) | (rw [if_neg (by decide +kernel)]; exact ⟨rfl, rfl⟩))
    (fun os started H enc _ => lifted os started H enc)
end shareFrames
namespace shareGrows
open Go.ChangeShapes Go.WideShapes Go.ChangeAt Go.RowKit Go.V3
set_option linter.unusedVariables false
theorem own : ownKnob Try.prog.godebug = none := by kernel_rfl
theorem laidOut : laidOutB Try.prog = true := by kernel_rfl
set_option maxRecDepth 100000 in
theorem lifted (os : Os) (started : os.Started) (H : Type) (enc : TypeId × Value → H) :
    ReturnsInHanded {} Try.checked os 6 .any (Rows.shareGrowsSpec.pre6 enc Try.prog Try.f6 Rows.shareGrowsRow.domain false) (Rows.shareGrowsSpec.post enc Try.prog Try.f6 false true false false) := by
  refine returnsInHanded_of_change (C := Try.checked) own started (by kernel_rfl) Try.func6
    (ChangeSpec.witness6 (enc := enc) (C := Try.checked) false ⟨#[], #[.int .u64 0, .int .u64 0, .int .i64 0, .int .i64 0, .int .i64 0, .int .i64 0], []⟩ 8 (by kernel_rfl) (by kernel_rfl) (by kernel_rfl) (by kernel_rfl)) ?_
  intro W base args ds gs before hval0 hW hcnd _
  have hT : TabW tabs W := TabW.nil W
  have hval : ∀ (j : Nat) t v, Try.f6.params[j]? = some t → args[j]? = some v → Value.okWide Try.prog W .any base t v := hval0
  have hW' := hW
  obtain ⟨p, q, hA0, hV, rfl, hfz, hnd⟩ := hW
  have hA : DataW.TrodAll enc Try.prog W 0 (fun _ => true) true Try.f6.params.toList args.toList ds p := hA0
  rw [Try.params6] at hA hval
  obtain ⟨v0, vs0, d0, ds0, p0, q0, hargs, rfl, rfl, h0, r0⟩ := trodAll_cons hA
  obtain ⟨v1, vs1, d1, ds1, p1, q1, rfl, rfl, rfl, h1, r1⟩ := trodAll_cons r0
  obtain ⟨v2, vs2, d2, ds2, p2, q2, rfl, rfl, rfl, h2, r2⟩ := trodAll_cons r1
  obtain ⟨v3, vs3, d3, ds3, p3, q3, rfl, rfl, rfl, h3, r3⟩ := trodAll_cons r2
  obtain ⟨v4, vs4, d4, ds4, p4, q4, rfl, rfl, rfl, h4, r4⟩ := trodAll_cons r3
  obtain ⟨v5, vs5, d5, ds5, p5, q5, rfl, rfl, rfl, h5, r5⟩ := trodAll_cons r4
  obtain ⟨rfl, rfl, rfl⟩ := trodAll_nil r5
  obtain rfl : args = #[v0, v1, v2, v3, v4, v5] := by cases args; simp_all
  obtain ⟨rfl, rfl⟩ := trodVars_none hV
  have k0 := h0
  have lt0 : ∀ x ∈ p0, x.block < W.heap.size := by obtain ⟨m, hm⟩ := k0; exact DataW.trod_lt m _ _ _ hm
  obtain ⟨a0, rfl, _, _, w0⟩ := open_int Try.underlying22 (hval 0 22 v0 rfl rfl) h0
  obtain ⟨x0, rfl⟩ := u64_of_wf w0
  have k1 := h1
  have lt1 : ∀ x ∈ p1, x.block < W.heap.size := by obtain ⟨m, hm⟩ := k1; exact DataW.trod_lt m _ _ _ hm
  obtain ⟨a1, rfl, _, _, w1⟩ := open_int Try.underlying22 (hval 1 22 v1 rfl rfl) h1
  obtain ⟨x1, rfl⟩ := u64_of_wf w1
  have k2 := h2
  have lt2 : ∀ x ∈ p2, x.block < W.heap.size := by obtain ⟨m, hm⟩ := k2; exact DataW.trod_lt m _ _ _ hm
  obtain ⟨a2, rfl, _, _, w2⟩ := open_int Try.underlying3 (hval 2 3 v2 rfl rfl) h2
  have b2 := i64_of_wf w2
  have k3 := h3
  have lt3 : ∀ x ∈ p3, x.block < W.heap.size := by obtain ⟨m, hm⟩ := k3; exact DataW.trod_lt m _ _ _ hm
  obtain ⟨a3, rfl, _, _, w3⟩ := open_int Try.underlying3 (hval 3 3 v3 rfl rfl) h3
  have b3 := i64_of_wf w3
  have k4 := h4
  have lt4 : ∀ x ∈ p4, x.block < W.heap.size := by obtain ⟨m, hm⟩ := k4; exact DataW.trod_lt m _ _ _ hm
  obtain ⟨a4, rfl, _, _, w4⟩ := open_int Try.underlying3 (hval 4 3 v4 rfl rfl) h4
  have b4 := i64_of_wf w4
  have k5 := h5
  have lt5 : ∀ x ∈ p5, x.block < W.heap.size := by obtain ⟨m, hm⟩ := k5; exact DataW.trod_lt m _ _ _ hm
  obtain ⟨a5, rfl, _, _, w5⟩ := open_int Try.underlying3 (hval 5 3 v5 rfl rfl) h5
  have b5 := i64_of_wf w5
  refine (law_bare okFbeltwaylaw06_ShareGrows rfl hT (x := ((x0, x1, a2, a3, a4, a5) : HT iFbeltwaylaw06_ShareGrows.ps)) (r := (true : Bool)) (vals := #[_, _, _, _, _, _]) (w := W) ?_ (law_ShareGrows x0 x1 a2 b2 a3 b3 a4 b4 a5 b5) (fun _ => rfl)).mono fun e W' ⟨he, bel⟩ => ?_
  · rfl
  subst he
  simp only [List.append_nil] at hW'
  exact ⟨_, rfl, _, _, _, [], _, [], hW', trodAll_mk1 (shut_bool Try.underlying4 _), (trodAll_cons_mk (Below.trod laidOut (by kernel_rfl) (of_decide_eq_true (by kernel_rfl)) k0 bel lt0) (trodAll_cons_mk (Below.trod laidOut (by kernel_rfl) (of_decide_eq_true (by kernel_rfl)) k1 bel lt1) (trodAll_cons_mk (Below.trod laidOut (by kernel_rfl) (of_decide_eq_true (by kernel_rfl)) k2 bel lt2) (trodAll_cons_mk (Below.trod laidOut (by kernel_rfl) (of_decide_eq_true (by kernel_rfl)) k3 bel lt3) (trodAll_cons_mk (Below.trod laidOut (by kernel_rfl) (of_decide_eq_true (by kernel_rfl)) k4 bel lt4) (trodAll_cons_mk (Below.trod laidOut (by kernel_rfl) (of_decide_eq_true (by kernel_rfl)) k5 bel lt5) trodAll_mk0)))))), rfl, bel.frame _, fun h => by cases h⟩
theorem proved : Rows.ShareGrowsSaid :=
  OpenClaim.holds_of_wide 6 Try.f6 rfl rfl rfl rfl rfl rfl rfl ⟨rfl, rfl, rfl, rfl, rfl⟩ rfl rfl rfl rfl rfl (by kernel_rfl) Try.func6 (by kernel_rfl)
    (of_decide_eq_true (by kernel_rfl)) (by unfold Func.isWrapper; first | (rw [if_pos (by decide +kernel)]; kernel_rfl) | (rw [if_neg (by decide +kernel)]; exact ⟨rfl, rfl⟩))
    (fun os started H enc _ => lifted os started H enc)
end shareGrows
namespace shareOrder
open Go.ChangeShapes Go.WideShapes Go.ChangeAt Go.RowKit Go.V3
set_option linter.unusedVariables false
theorem own : ownKnob Try.prog.godebug = none := by kernel_rfl
theorem laidOut : laidOutB Try.prog = true := by kernel_rfl
set_option maxRecDepth 100000 in
theorem lifted (os : Os) (started : os.Started) (H : Type) (enc : TypeId × Value → H) :
    ReturnsInHanded {} Try.checked os 7 .any (Rows.shareOrderSpec.pre6 enc Try.prog Try.f7 Rows.shareOrderRow.domain false) (Rows.shareOrderSpec.post enc Try.prog Try.f7 false true false false) := by
  refine returnsInHanded_of_change (C := Try.checked) own started (by kernel_rfl) Try.func7
    (ChangeSpec.witness6 (enc := enc) (C := Try.checked) false ⟨#[], #[.int .u64 0, .int .u64 0, .int .u64 0, .int .i64 0, .int .i64 0, .int .i64 0], []⟩ 8 (by kernel_rfl) (by kernel_rfl) (by kernel_rfl) (by kernel_rfl)) ?_
  intro W base args ds gs before hval0 hW hcnd _
  have hT : TabW tabs W := TabW.nil W
  have hval : ∀ (j : Nat) t v, Try.f7.params[j]? = some t → args[j]? = some v → Value.okWide Try.prog W .any base t v := hval0
  have hW' := hW
  obtain ⟨p, q, hA0, hV, rfl, hfz, hnd⟩ := hW
  have hA : DataW.TrodAll enc Try.prog W 0 (fun _ => true) true Try.f7.params.toList args.toList ds p := hA0
  rw [Try.params7] at hA hval
  obtain ⟨v0, vs0, d0, ds0, p0, q0, hargs, rfl, rfl, h0, r0⟩ := trodAll_cons hA
  obtain ⟨v1, vs1, d1, ds1, p1, q1, rfl, rfl, rfl, h1, r1⟩ := trodAll_cons r0
  obtain ⟨v2, vs2, d2, ds2, p2, q2, rfl, rfl, rfl, h2, r2⟩ := trodAll_cons r1
  obtain ⟨v3, vs3, d3, ds3, p3, q3, rfl, rfl, rfl, h3, r3⟩ := trodAll_cons r2
  obtain ⟨v4, vs4, d4, ds4, p4, q4, rfl, rfl, rfl, h4, r4⟩ := trodAll_cons r3
  obtain ⟨v5, vs5, d5, ds5, p5, q5, rfl, rfl, rfl, h5, r5⟩ := trodAll_cons r4
  obtain ⟨rfl, rfl, rfl⟩ := trodAll_nil r5
  obtain rfl : args = #[v0, v1, v2, v3, v4, v5] := by cases args; simp_all
  obtain ⟨rfl, rfl⟩ := trodVars_none hV
  have k0 := h0
  have lt0 : ∀ x ∈ p0, x.block < W.heap.size := by obtain ⟨m, hm⟩ := k0; exact DataW.trod_lt m _ _ _ hm
  obtain ⟨a0, rfl, _, _, w0⟩ := open_int Try.underlying22 (hval 0 22 v0 rfl rfl) h0
  obtain ⟨x0, rfl⟩ := u64_of_wf w0
  have k1 := h1
  have lt1 : ∀ x ∈ p1, x.block < W.heap.size := by obtain ⟨m, hm⟩ := k1; exact DataW.trod_lt m _ _ _ hm
  obtain ⟨a1, rfl, _, _, w1⟩ := open_int Try.underlying22 (hval 1 22 v1 rfl rfl) h1
  obtain ⟨x1, rfl⟩ := u64_of_wf w1
  have k2 := h2
  have lt2 : ∀ x ∈ p2, x.block < W.heap.size := by obtain ⟨m, hm⟩ := k2; exact DataW.trod_lt m _ _ _ hm
  obtain ⟨a2, rfl, _, _, w2⟩ := open_int Try.underlying22 (hval 2 22 v2 rfl rfl) h2
  obtain ⟨x2, rfl⟩ := u64_of_wf w2
  have k3 := h3
  have lt3 : ∀ x ∈ p3, x.block < W.heap.size := by obtain ⟨m, hm⟩ := k3; exact DataW.trod_lt m _ _ _ hm
  obtain ⟨a3, rfl, _, _, w3⟩ := open_int Try.underlying3 (hval 3 3 v3 rfl rfl) h3
  have b3 := i64_of_wf w3
  have k4 := h4
  have lt4 : ∀ x ∈ p4, x.block < W.heap.size := by obtain ⟨m, hm⟩ := k4; exact DataW.trod_lt m _ _ _ hm
  obtain ⟨a4, rfl, _, _, w4⟩ := open_int Try.underlying3 (hval 4 3 v4 rfl rfl) h4
  have b4 := i64_of_wf w4
  have k5 := h5
  have lt5 : ∀ x ∈ p5, x.block < W.heap.size := by obtain ⟨m, hm⟩ := k5; exact DataW.trod_lt m _ _ _ hm
  obtain ⟨a5, rfl, _, _, w5⟩ := open_int Try.underlying3 (hval 5 3 v5 rfl rfl) h5
  have b5 := i64_of_wf w5
  refine (law_bare okFbeltwaylaw06_ShareOrder rfl hT (x := ((x0, x1, x2, a3, a4, a5) : HT iFbeltwaylaw06_ShareOrder.ps)) (r := (true : Bool)) (vals := #[_, _, _, _, _, _]) (w := W) ?_ (law_ShareOrder x0 x1 x2 a3 b3 a4 b4 a5 b5) (fun _ => rfl)).mono fun e W' ⟨he, bel⟩ => ?_
  · rfl
  subst he
  simp only [List.append_nil] at hW'
  exact ⟨_, rfl, _, _, _, [], _, [], hW', trodAll_mk1 (shut_bool Try.underlying4 _), (trodAll_cons_mk (Below.trod laidOut (by kernel_rfl) (of_decide_eq_true (by kernel_rfl)) k0 bel lt0) (trodAll_cons_mk (Below.trod laidOut (by kernel_rfl) (of_decide_eq_true (by kernel_rfl)) k1 bel lt1) (trodAll_cons_mk (Below.trod laidOut (by kernel_rfl) (of_decide_eq_true (by kernel_rfl)) k2 bel lt2) (trodAll_cons_mk (Below.trod laidOut (by kernel_rfl) (of_decide_eq_true (by kernel_rfl)) k3 bel lt3) (trodAll_cons_mk (Below.trod laidOut (by kernel_rfl) (of_decide_eq_true (by kernel_rfl)) k4 bel lt4) (trodAll_cons_mk (Below.trod laidOut (by kernel_rfl) (of_decide_eq_true (by kernel_rfl)) k5 bel lt5) trodAll_mk0)))))), rfl, bel.frame _, fun h => by cases h⟩
theorem proved : Rows.ShareOrderSaid :=
  OpenClaim.holds_of_wide 7 Try.f7 rfl rfl rfl rfl rfl rfl rfl ⟨rfl, rfl, rfl, rfl, rfl⟩ rfl rfl rfl rfl rfl (by kernel_rfl) Try.func7 (by kernel_rfl)
    (of_decide_eq_true (by kernel_rfl)) (by unfold Func.isWrapper; first | (rw [if_pos (by decide +kernel)]; kernel_rfl) | (rw [if_neg (by decide +kernel)]; exact ⟨rfl, rfl⟩))
    (fun os started H enc _ => lifted os started H enc)
end shareOrder
namespace sharePercents
open Go.ChangeShapes Go.WideShapes Go.ChangeAt Go.RowKit Go.V3
set_option linter.unusedVariables false
theorem own : ownKnob Try.prog.godebug = none := by kernel_rfl
theorem laidOut : laidOutB Try.prog = true := by kernel_rfl
set_option maxRecDepth 100000 in
theorem lifted (os : Os) (started : os.Started) (H : Type) (enc : TypeId × Value → H) :
    ReturnsInHanded {} Try.checked os 8 .any (Rows.sharePercentsSpec.pre6 enc Try.prog Try.f8 Rows.sharePercentsRow.domain false) (Rows.sharePercentsSpec.post enc Try.prog Try.f8 false true false false) := by
  refine returnsInHanded_of_change (C := Try.checked) own started (by kernel_rfl) Try.func8
    (ChangeSpec.witness6 (enc := enc) (C := Try.checked) false ⟨#[], #[.int .i64 0, .int .u64 0, .int .i64 0], []⟩ 8 (by kernel_rfl) (by kernel_rfl) (by kernel_rfl) (by kernel_rfl)) ?_
  intro W base args ds gs before hval0 hW hcnd _
  have hT : TabW tabs W := TabW.nil W
  have hval : ∀ (j : Nat) t v, Try.f8.params[j]? = some t → args[j]? = some v → Value.okWide Try.prog W .any base t v := hval0
  have hW' := hW
  obtain ⟨p, q, hA0, hV, rfl, hfz, hnd⟩ := hW
  have hA : DataW.TrodAll enc Try.prog W 0 (fun _ => true) true Try.f8.params.toList args.toList ds p := hA0
  rw [Try.params8] at hA hval
  obtain ⟨v0, vs0, d0, ds0, p0, q0, hargs, rfl, rfl, h0, r0⟩ := trodAll_cons hA
  obtain ⟨v1, vs1, d1, ds1, p1, q1, rfl, rfl, rfl, h1, r1⟩ := trodAll_cons r0
  obtain ⟨v2, vs2, d2, ds2, p2, q2, rfl, rfl, rfl, h2, r2⟩ := trodAll_cons r1
  obtain ⟨rfl, rfl, rfl⟩ := trodAll_nil r2
  obtain rfl : args = #[v0, v1, v2] := by cases args; simp_all
  obtain ⟨rfl, rfl⟩ := trodVars_none hV
  have k0 := h0
  have lt0 : ∀ x ∈ p0, x.block < W.heap.size := by obtain ⟨m, hm⟩ := k0; exact DataW.trod_lt m _ _ _ hm
  obtain ⟨a0, rfl, _, _, w0⟩ := open_int Try.underlying3 (hval 0 3 v0 rfl rfl) h0
  have b0 := i64_of_wf w0
  have k1 := h1
  have lt1 : ∀ x ∈ p1, x.block < W.heap.size := by obtain ⟨m, hm⟩ := k1; exact DataW.trod_lt m _ _ _ hm
  obtain ⟨a1, rfl, _, _, w1⟩ := open_int Try.underlying22 (hval 1 22 v1 rfl rfl) h1
  obtain ⟨x1, rfl⟩ := u64_of_wf w1
  have k2 := h2
  have lt2 : ∀ x ∈ p2, x.block < W.heap.size := by obtain ⟨m, hm⟩ := k2; exact DataW.trod_lt m _ _ _ hm
  obtain ⟨a2, rfl, _, _, w2⟩ := open_int Try.underlying3 (hval 2 3 v2 rfl rfl) h2
  have b2 := i64_of_wf w2
  refine (law_bare okFbeltwaylaw06_SharePercents rfl hT (x := ((a0, x1, a2) : HT iFbeltwaylaw06_SharePercents.ps)) (r := (true : Bool)) (vals := #[_, _, _]) (w := W) ?_ (law_SharePercents a0 b0 x1 a2 b2) (fun _ => rfl)).mono fun e W' ⟨he, bel⟩ => ?_
  · rfl
  subst he
  simp only [List.append_nil] at hW'
  exact ⟨_, rfl, _, _, _, [], _, [], hW', trodAll_mk1 (shut_bool Try.underlying4 _), (trodAll_cons_mk (Below.trod laidOut (by kernel_rfl) (of_decide_eq_true (by kernel_rfl)) k0 bel lt0) (trodAll_cons_mk (Below.trod laidOut (by kernel_rfl) (of_decide_eq_true (by kernel_rfl)) k1 bel lt1) (trodAll_cons_mk (Below.trod laidOut (by kernel_rfl) (of_decide_eq_true (by kernel_rfl)) k2 bel lt2) trodAll_mk0))), rfl, bel.frame _, fun h => by cases h⟩
theorem proved : Rows.SharePercentsSaid :=
  OpenClaim.holds_of_wide 8 Try.f8 rfl rfl rfl rfl rfl rfl rfl ⟨rfl, rfl, rfl, rfl, rfl⟩ rfl rfl rfl rfl rfl (by kernel_rfl) Try.func8 (by kernel_rfl)
    (of_decide_eq_true (by kernel_rfl)) (by unfold Func.isWrapper; first | (rw [if_pos (by decide +kernel)]; kernel_rfl) | (rw [if_neg (by decide +kernel)]; exact ⟨rfl, rfl⟩))
    (fun os started H enc _ => lifted os started H enc)
end sharePercents
end Go.Proofs.Ytgegpaefamemlaa
