/-
  Plain laws of package share that other seats use: shares and their frames.
-/
import Derived.Test.YtmcahbbelnjhiaaDoorSeatW
import Derived.Test.YtmcahbbelnjhiaaDoorShrA
set_option linter.unusedVariables false
namespace Go.Proofs.YtmcahbbelnjhiaaDoor
open Go Go.V3

theorem loopO_run {β : Type} {f : Int → Option (Int ⊕ β)} (n : Nat) (hs : ∀ k : Nat, k < n → f k = some (.inl ((k : Int) + 1))) {r : β} (he : f n = some (.inr r)) : loopO f 0 = some r := by
  refine loopO_to (fun m (i : Int) => i = (n : Int) - m ∧ m ≤ n) (n := n) ?_ ⟨by omega, by omega⟩
  rintro m i ⟨rfl, hm⟩
  by_cases h0 : m = 0
  · subst h0
    left
    rw [show (n : Int) - ((0 : Nat) : Int) = n from by omega]; exact he
  · right
    have := hs (n - m) (by omega)
    rw [show (((n - m : Nat)) : Int) = (n : Int) - m from by omega] at this
    exact ⟨m - 1, _, by omega, this, by omega, by omega⟩
theorem Mod_ok (a : Int) {m : Int} (h0 : 0 < m) (h1 : m ≤ 4611686018427387904) : ∃ r, Fbeltwaymake_Mod a m = some r ∧ 0 ≤ r ∧ r < m := by
  have u := Int.tmod_lt_of_pos a h0
  have l := Int.lt_tmod_of_pos a h0
  unfold Fbeltwaymake_Mod
  rw [if_pos (by omega)]
  split
  · exact ⟨_, rfl, by rw [w64_id (by omega) (by omega)]; omega, by rw [w64_id (by omega) (by omega)]; omega⟩
  · exact ⟨_, rfl, by omega, u⟩
theorem gl_mem {α : Type} {d : α} {xs : List α} {k : Nat} (h : k < xs.length) : gl d xs k ∈ xs := by
  unfold gl
  rw [List.getD_eq_getElem?_getD, List.getElem?_eq_getElem h]
  exact List.getElem_mem h
theorem w64_nat {q : Nat} (h : q < 9223372036854775808) : w64 (q : Int) = q := w64_id (by omega) (by omega)

/-! Words. -/
theorem bn {w : Nat} (h : w < 18446744073709551616) : (BitVec.ofNat 64 w).toNat = w := by rw [BitVec.toNat_ofNat]; omega
theorem expo {w : Nat} (h : w < 9223372036854775808) : (((BitVec.ofNat 64 w) >>> (52#64).toNat) &&& (2047#64)).toNat = w / 4503599627370496 := by
  rw [BitVec.toNat_and, BitVec.toNat_ushiftRight, bn (by omega), Nat.shiftRight_eq_div_pow]
  show w / 2 ^ 52 &&& 2047 = _
  rw [show (2047 : Nat) = 2 ^ 11 - 1 from rfl, Nat.and_two_pow_sub_one_eq_mod, show (2 : Nat) ^ 52 = 4503599627370496 from by decide, show (2 : Nat) ^ 11 = 2048 from by decide]
  omega
theorem mant {w : Nat} (h : w < 18446744073709551616) : ((BitVec.ofNat 64 w) &&& (4503599627370495#64)).toNat = w % 4503599627370496 := by
  rw [BitVec.toNat_and, bn h]
  show w &&& 4503599627370495 = _
  rw [show (4503599627370495 : Nat) = 2 ^ 52 - 1 from by decide, Nat.and_two_pow_sub_one_eq_mod]
theorem or_B {f : Nat} (h : f < 4503599627370496) : f ||| 4503599627370496 = 4503599627370496 + f := by
  have := Nat.two_pow_add_eq_or_of_lt (i := 52) (b := f) (by rw [show (2 : Nat) ^ 52 = 4503599627370496 from by decide]; exact h) 1
  rw [Nat.mul_one, show (2 : Nat) ^ 52 = 4503599627370496 from by decide] at this
  rw [Nat.or_comm, ← this]
theorem mant1 {w : Nat} (h : w < 18446744073709551616) : (((BitVec.ofNat 64 w) &&& (4503599627370495#64)) ||| (4503599627370496#64)).toNat = 4503599627370496 + w % 4503599627370496 := by
  rw [BitVec.toNat_or, mant h]
  exact or_B (Nat.mod_lt _ (by omega))
theorem abs_w {w : Nat} (h : w < 9223372036854775808) : ((BitVec.ofNat 64 w) &&& ~~~(9223372036854775808#64)).toNat = w := by
  rw [show ~~~(9223372036854775808#64) = 9223372036854775807#64 from by decide, BitVec.toNat_and, bn (by omega)]
  show w &&& 9223372036854775807 = _
  rw [show (9223372036854775807 : Nat) = 2 ^ 63 - 1 from by decide, Nat.and_two_pow_sub_one_eq_mod, show (2 : Nat) ^ 63 = 9223372036854775808 from by decide]
  omega
theorem and63 {w : Nat} (h : w < 9223372036854775808) : w &&& 2 ^ 63 = 0 := by
  apply Nat.eq_of_testBit_eq
  intro i
  rw [Nat.testBit_and, Nat.testBit_two_pow]
  by_cases e : 63 = i
  · subst e; rw [Nat.testBit_lt_two_pow (by rw [show (2 : Nat) ^ 63 = 9223372036854775808 from by decide]; exact h)]; simp
  · simp [e]
theorem frac_w {w : Nat} (h : w < 9223372036854775808) : (((BitVec.ofNat 64 w) &&& ~~~(9218868437227405312#64)) ||| (4602678819172646912#64)).toNat = 1022 * 4503599627370496 + w % 4503599627370496 := by
  rw [show ~~~(9218868437227405312#64) = 9227875636482146303#64 from by decide, BitVec.toNat_or, BitVec.toNat_and, bn (by omega)]
  show (w &&& 9227875636482146303) ||| 4602678819172646912 = _
  have e : w &&& 9227875636482146303 = w % 4503599627370496 := by
    rw [show (9227875636482146303 : Nat) = 2 ^ 63 ||| (2 ^ 52 - 1) from by decide, Nat.and_or_distrib_left, and63 h, Nat.and_two_pow_sub_one_eq_mod, Nat.zero_or]
  rw [e]
  have hf : w % 4503599627370496 < 2 ^ 52 := by rw [show (2 : Nat) ^ 52 = 4503599627370496 from by decide]; exact Nat.mod_lt _ (by omega)
  rw [show (4602678819172646912 : Nat) = 2 ^ 52 * 1022 from by decide, Nat.or_comm, ← Nat.two_pow_add_eq_or_of_lt hf, show (2 : Nat) ^ 52 = 4503599627370496 from by decide, Nat.mul_comm]
theorem prod_w {k n : Nat} {s : Int} (h : k * n < 9223372036854775808) (hk : k < 9223372036854775808) (hn : n < 9223372036854775808) (s0 : 0 ≤ s) (s1 : s ≤ 100000) :
    (((BitVec.ofInt 64 (k : Int)) * (BitVec.ofInt 64 (n : Int))) >>> (BitVec.ofInt 64 s).toNat).toNat = k * n / 2 ^ s.toNat := by
  have es : (BitVec.ofInt 64 s).toNat = s.toNat := by rw [BitVec.toNat_ofInt]; omega
  rw [BitVec.toNat_ushiftRight, Nat.shiftRight_eq_div_pow, es, BitVec.toNat_mul, BitVec.ofInt_natCast, BitVec.ofInt_natCast, bn (by omega), bn (by omega), show (2 : Nat) ^ 64 = 18446744073709551616 from by decide, Nat.mod_eq_of_lt (by omega)]
theorem maxi {q : Nat} (h : q < 9223372036854775808) : (if w64 (q : Int) > 1 then w64 (q : Int) else 1) = ((max 1 q : Nat) : Int) := by
  rw [w64_nat h]
  split <;> omega

/-! Shares. -/
def VV (x : Nat) : Prop := x = 0 ∨ (0 < x ∧ x ≤ 4607182418800017408)
instance (x : Nat) : Decidable (VV x) := by unfold VV; infer_instance
theorem sValid_ok {x : Nat} (h : x < 18446744073709551616) : Fshare_Valid x = some (decide (VV x)) := by
  unfold Fshare_Valid
  rw [if_pos h]
  by_cases h0 : x = 0
  · subst h0; decide
  have hb : ¬ BitVec.ofNat 64 x = 0#64 := fun e => h0 (by have := congrArg BitVec.toNat e; rw [bn h] at this; exact this)
  rw [if_neg hb]
  by_cases h1 : fOrd x 0 = some .gt
  · rw [if_pos h1]
    obtain ⟨h2, h3⟩ := (gt_zero h).1 h1
    congr 1
    rw [decide_eq_decide, le_one h3]
    unfold VV
    constructor
    · intro h4; exact .inr ⟨h2, h4⟩
    · rintro (h4 | h4)
      · exact absurd h4 h0
      · exact h4.2
  · rw [if_neg h1]
    congr 1
    symm
    rw [decide_eq_false_iff_not]
    rintro (h4 | h4)
    · exact h0 h4
    · exact h1 ((gt_zero h).2 ⟨h4.1, by omega⟩)
theorem rValid_eq (x : Nat) : Fbeltwayref06_Valid x = Fshare_Valid x := rfl
theorem not_zero {x : Nat} (h0 : 0 < x) (h1 : x ≤ 4607182418800017408) : ¬ fOrd x 0 = some .eq := by
  rw [ord_eq, fval_pos (by omega), fval_pos (by omega), vv_zero]
  rintro ⟨_, _, h⟩
  have := vv_lt h0
  rw [vv_zero] at this
  omega
theorem num_of {x : Nat} (h1 : x ≤ 4607182418800017408) : isNum x := by unfold isNum; rw [(lt_sg (w := x) (by omega)).2]; omega
theorem pct_ok : ∀ p : Fin 101, (match fArith .quo (fOfInt (p.1 : Int)) 4636737291354636288 with | some w => decide (w < 18446744073709551616) | none => false) = true := by decide +kernel
theorem pct {p : Int} (h0 : 0 ≤ p) (h1 : p ≤ 100) : ∃ w, fArith .quo (fOfInt p) 4636737291354636288 = some w ∧ w < 18446744073709551616 := by
  have := pct_ok ⟨p.toNat, by omega⟩
  rw [show (((⟨p.toNat, by omega⟩ : Fin 101).1 : Nat) : Int) = p from Int.toNat_of_nonneg h0] at this
  cases h : fArith .quo (fOfInt p) 4636737291354636288 with
  | none => rw [h] at this; cases this
  | some w => rw [h] at this; exact ⟨w, rfl, by simpa using this⟩
end Go.Proofs.YtmcahbbelnjhiaaDoor
