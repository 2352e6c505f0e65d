/-
  Plain facts on masks and fields of words. No program in sight.
-/
import Derived.Test.YtdkigndboblimaaVmC
namespace Go.Vm
open Go

/-- The word with the lowest n bits. -/
def mask (n : Int) : BitVec 64 := if n < 0 then 0#64 else ~~~(18446744073709551615#64 <<< n.toNat)

theorem ones_bit (i : Nat) : (18446744073709551615#64).getLsbD i = decide (i < 64) := by
  have : (18446744073709551615#64) = BitVec.allOnes 64 := by decide
  rw [this, BitVec.getLsbD_allOnes]

theorem mask_bit (n : Int) (i : Nat) : (mask n).getLsbD i = decide (i < 64 ∧ (i : Int) < n) := by
  unfold mask
  split
  · rename_i h
    rw [BitVec.getLsbD_zero]
    symm
    rw [decide_eq_false_iff_not]
    omega
  · rename_i h
    rw [BitVec.getLsbD_not, BitVec.getLsbD_shiftLeft, ones_bit]
    rw [Bool.eq_iff_iff]
    simp
    omega

theorem word_ext {a b : BitVec 64} (h : ∀ i, i < 64 → a.getLsbD i = b.getLsbD i) : a = b :=
  BitVec.eq_of_getLsbD_eq h

/-- The other way to make masks. -/
theorem mask_ref (n : Int) (h1 : 0 < n) (h2 : n < 64) : (1#64 <<< n.toNat) - 1#64 = mask n := by
  have hk : n.toNat < 64 := by omega
  have hm : mask n = ~~~(18446744073709551615#64 <<< n.toNat) := by unfold mask; rw [if_neg (by omega)]
  rw [hm]
  generalize n.toNat = k at *
  apply BitVec.eq_of_toNat_eq
  have hp : (2 : Nat) ^ k < 2 ^ 64 := Nat.pow_lt_pow_right (by decide) hk
  have hp1 : 1 ≤ (2 : Nat) ^ k := Nat.one_le_two_pow
  have hd : (2 : Nat) ^ 64 = 2 ^ (64 - k) * 2 ^ k := by rw [← Nat.pow_add]; congr 1; omega
  have e1 : ((1#64 <<< k) - 1#64).toNat = 2 ^ k - 1 := by
    rw [BitVec.toNat_sub, BitVec.toNat_shiftLeft, Nat.shiftLeft_eq]
    have : (1#64).toNat = 1 := rfl
    rw [this, Nat.one_mul, Nat.mod_eq_of_lt hp]
    omega
  have e2 : (18446744073709551615#64 <<< k).toNat = 2 ^ 64 - 2 ^ k := by
    rw [BitVec.toNat_shiftLeft, Nat.shiftLeft_eq]
    have : (18446744073709551615#64).toNat = 2 ^ 64 - 1 := rfl
    rw [this, Nat.sub_mul, Nat.one_mul]
    have h3 : 2 ^ 64 * 2 ^ k - 2 ^ k = (2 ^ 64 - 2 ^ k) + 2 ^ 64 * (2 ^ k - 1) := by
      rw [Nat.mul_sub, Nat.mul_one]
      have : 2 ^ 64 ≤ 2 ^ 64 * 2 ^ k := Nat.le_mul_of_pos_right _ (by omega)
      omega
    rw [h3, Nat.add_mul_mod_self_left, Nat.mod_eq_of_lt (by omega)]
  rw [e1, BitVec.toNat_not, e2]
  omega

theorem mask_all (n : Int) (h : 64 ≤ n) : mask n = 18446744073709551615#64 := by
  apply word_ext
  intro i hi
  rw [mask_bit, ones_bit]
  simp; omega

theorem mask_none (n : Int) (h : n ≤ 0) : mask n = 0#64 := by
  apply word_ext
  intro i hi
  rw [mask_bit]
  simp; omega

/-- Whether a number has no bit beyond a width. -/
def fits (v : BitVec 64) (n : Int) : Bool := decide ((v &&& ~~~ mask n) = 0#64)

theorem fits_iff (v : BitVec 64) (n : Int) : fits v n = true ↔ ∀ i : Nat, i < 64 → n ≤ (i : Int) → v.getLsbD i = false := by
  unfold fits
  rw [decide_eq_true_iff]
  constructor
  · intro h i hi hn
    have := congrArg (fun x => x.getLsbD i) h
    simp only [BitVec.getLsbD_and, BitVec.getLsbD_not, mask_bit, BitVec.getLsbD_zero] at this
    simpa [hi, show ¬ (i : Int) < n by omega] using this
  · intro h
    apply word_ext
    intro i hi
    simp only [BitVec.getLsbD_and, BitVec.getLsbD_not, mask_bit, BitVec.getLsbD_zero]
    by_cases hn : (i : Int) < n
    · simp [hi, hn]
    · simp [h i hi (by omega)]

/-- Whether a field is valid. -/
def okf (p n : Int) : Bool := decide (0 ≤ p ∧ 0 ≤ n ∧ p ≤ 64 ∧ n ≤ 64 - p)

def bget (w : BitVec 64) (p n : Int) : BitVec 64 := if okf p n = true then (w >>> p.toNat) &&& mask n else 0#64
def bgetE (p n : Int) : Int := if okf p n = true then 0 else 1
def bput (w : BitVec 64) (p n : Int) (v : BitVec 64) : BitVec 64 :=
  if okf p n = true then (if fits v n = true then (w &&& ~~~(mask n <<< p.toNat)) ||| (v <<< p.toNat) else 0#64) else 0#64
def bputE (p n : Int) (v : BitVec 64) : Int := if okf p n = true then (if fits v n = true then 0 else 3) else 1

/-- A quotient, rounded up. -/
def ceilQ (n s : Int) : Int := if n < 0 ∨ n > 1099511627776 ∨ s < 0 ∨ s > 20 then 0 else (n + 2 ^ s.toNat - 1) / 2 ^ s.toNat

theorem pow_bounds {k : Nat} {m : Nat} (h : k ≤ m) : (1 : Int) ≤ 2 ^ k ∧ (2 : Int) ^ k ≤ 2 ^ m := by
  have h1 : (1 : Nat) ≤ 2 ^ k := Nat.one_le_two_pow
  have h2 : (2 : Nat) ^ k ≤ 2 ^ m := Nat.pow_le_pow_right (by decide) h
  have e : ∀ j : Nat, (2 : Int) ^ j = ((2 ^ j : Nat) : Int) := fun j => by simp
  rw [e, e]
  omega

theorem mod_tmod (v n : Int) (hn : 0 < n) : v % n = if v.tmod n < 0 then v.tmod n + n else v.tmod n := by
  have h1 := Int.tmod_eq_emod (a := v) (b := n)
  have h2 := Int.emod_nonneg v (Int.ne_of_gt hn)
  have h3 := Int.emod_lt_of_pos v hn
  have h4 : ((n.natAbs : Nat) : Int) = n := by omega
  split at h1
  · rw [if_neg (by omega)]; omega
  · rw [h4] at h1
    by_cases h5 : v.tmod n < 0
    · rw [if_pos h5]; omega
    · omega

end Go.Vm
