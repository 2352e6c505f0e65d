/-
  Forwarding headers; words that are copied.
-/
import Derived.Test.YtokeceeccmgcmaaDoorEvcA
set_option linter.unusedVariables false
namespace Go.Proofs.YtokeceeccmgcmaaDoor
open Go Go.V3

/-- The header of a copied object. -/
def fwd (b : Int) : BitVec 64 := BitVec.ofInt 64 (b * 2 + 1)
theorem fwd_nat {b : Int} (h0 : 0 ≤ b) (h1 : b ≤ 16383) : (fwd b).toNat = b.toNat * 2 + 1 := by
  unfold fwd
  rw [BitVec.toNat_ofInt]
  omega
theorem fwd_hd {b : Int} (h0 : 0 ≤ b) (h1 : b ≤ 16383) : hd (fwd b) = none := by
  unfold hd
  rw [if_pos (by rw [fwd_nat h0 h1]; omega)]
theorem fwd_dec {b : Int} (h0 : 0 ≤ b) (h1 : b ≤ 16383) : Fheader_Decode (fwd b) = some (0, 0, b, true, 0) := by
  have e1 : (fwd b &&& 1#64 = 1#64) := by
    rw [← BitVec.toNat_inj, BitVec.toNat_and]
    show (fwd b).toNat &&& 1 = 1
    rw [Nat.and_one_is_mod, fwd_nat h0 h1]
    omega
  obtain ⟨v, g1, v1⟩ := bGet_ok (fwd b) (k := 1) (n := 63) (by omega) (by omega)
  have hv : v.toNat = b.toNat := by rw [v1, fwd_nat h0 h1]; omega
  unfold Fheader_Decode
  rw [if_pos e1, show Fbits_Get (fwd b) 1 63 = some (v, 0) from g1, Option.bind_some]
  simp only
  rw [if_neg (by rw [hv]; show ¬ b.toNat > 16383; omega), hv, w64_id (by omega) (by omega), Int.toNat_of_nonneg h0]
theorem fForward_ok {b : Int} (h0 : 0 ≤ b) (h1 : b ≤ 16383) : Fheader_Forward b = some (fwd b, 0) := by
  unfold Fheader_Forward
  rw [if_neg (by omega), if_neg (by omega)]
  obtain ⟨k, rfl⟩ := Int.eq_ofNat_of_zero_le h0
  have hk : k < 16384 := by omega
  have hv : Fbits_valid 1 32 = some true := by decide
  have hm : Fbits_Mask 32 = some 4294967295#64 := by decide
  have hf : Fbits_Fits (BitVec.ofInt 64 (k : Int)) 32 = some true := by
    unfold Fbits_Fits
    rw [hm, Option.bind_some]
    congr 1
    apply decide_eq_true
    have : (BitVec.ofInt 64 (k : Int)) = BitVec.ofNat 64 k := rfl
    rw [this]
    apply BitVec.eq_of_toNat_eq
    rw [BitVec.toNat_and, BitVec.toNat_ofNat]
    show k % 2 ^ 64 &&& (~~~4294967295#64).toNat = 0
    apply Nat.eq_of_testBit_eq
    intro i
    rw [Nat.testBit_and, Nat.zero_testBit, Nat.mod_eq_of_lt (by omega)]
    by_cases hi : i < 14
    · have : ∀ j : Fin 14, (~~~4294967295#64).toNat.testBit j.1 = false := by decide
      rw [this ⟨i, hi⟩, Bool.and_false]
    · rw [Nat.testBit_lt_two_pow (Nat.lt_of_lt_of_le hk (by
        have : 2 ^ 14 ≤ 2 ^ i := Nat.pow_le_pow_right (by omega) (by omega)
        exact this)), Bool.false_and]
  unfold Fbits_Put
  rw [hv, Option.bind_some, if_neg (by simp), hf, Option.bind_some, if_neg (by simp), hm, Option.bind_some, if_pos trivial, if_pos trivial, Option.bind_some]
  congr 2
  apply BitVec.eq_of_toNat_eq
  rw [fwd_nat h0 h1]
  have e1 : (1#64 &&& ~~~(4294967295#64 <<< (BitVec.ofInt 64 1).toNat)) = 1#64 := by decide
  have e2 : (BitVec.ofInt 64 1).toNat = 1 := rfl
  simp only
  rw [e1, e2, BitVec.toNat_or, BitVec.toNat_shiftLeft]
  have e3 : (BitVec.ofInt 64 (k : Int)).toNat = k := by
    show (BitVec.ofNat 64 k).toNat = k
    rw [BitVec.toNat_ofNat]; omega
  rw [e3, Nat.shiftLeft_eq]
  show 1 ||| k * 2 ^ 1 % 2 ^ 64 = _
  rw [Nat.mod_eq_of_lt (by omega), Nat.or_comm, show k * 2 ^ 1 = 2 ^ 1 * k from Nat.mul_comm _ _, ← Nat.two_pow_add_eq_or_of_lt (by omega)]
  simp only [Int.toNat_natCast]
  omega
end Go.Proofs.YtokeceeccmgcmaaDoor
