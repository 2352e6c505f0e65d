/-
  Plain facts on headers: words as numbers.
-/
import Derived.Test.YtdkigndboblimaaLibBits
namespace Go.Vm
open Go

theorem mask_toNat (n : Int) (h0 : 0 ≤ n) (h1 : n ≤ 64) : (mask n).toNat = 2 ^ n.toNat - 1 := by
  by_cases h2 : n = 64
  · subst h2; rw [mask_all 64 (by omega)]; rfl
  · by_cases h3 : n = 0
    · subst h3; rw [mask_none 0 (by omega)]; rfl
    · rw [← mask_ref n (by omega) (by omega)]
      have hk : n.toNat < 64 := by omega
      generalize n.toNat = k at *
      have hp : (2 : Nat) ^ k < 2 ^ 64 := Nat.pow_lt_pow_right (by decide) hk
      have hp1 : 1 ≤ (2 : Nat) ^ k := Nat.one_le_two_pow
      rw [BitVec.toNat_sub, BitVec.toNat_shiftLeft, Nat.shiftLeft_eq]
      have : (1#64).toNat = 1 := rfl
      rw [this, Nat.one_mul, Nat.mod_eq_of_lt hp]
      omega

theorem okf_out {p n : Int} (h : okf p n = true) : 0 ≤ p ∧ 0 ≤ n ∧ p + n ≤ 64 := by
  unfold okf at h; rw [decide_eq_true_iff] at h; omega

theorem bget_nat {p n : Int} (w : BitVec 64) (h : okf p n = true) : (bget w p n).toNat = w.toNat / 2 ^ p.toNat % 2 ^ n.toNat := by
  obtain ⟨h1, h2, h3⟩ := okf_out h
  unfold bget
  rw [if_pos h, BitVec.toNat_and, BitVec.toNat_ushiftRight, Nat.shiftRight_eq_div_pow, mask_toNat n h2 (by omega), Nat.and_two_pow_sub_one_eq_mod]

theorem fits_of_lt {v : BitVec 64} {n : Int} (h : v.toNat < 2 ^ n.toNat) : fits v n = true := by
  rw [fits_iff]
  intro i _ hi
  have : v.toNat < 2 ^ i := Nat.lt_of_lt_of_le h (Nat.pow_le_pow_right (by decide) (by omega))
  exact Nat.testBit_lt_two_pow this

theorem bput_low {p n : Int} {w v : BitVec 64} (h : okf p n = true) (hv : v.toNat < 2 ^ n.toNat) (hw : w.toNat < 2 ^ p.toNat) : (bput w p n v).toNat = 2 ^ p.toNat * v.toNat + w.toNat := by
  obtain ⟨h1, h2, h3⟩ := okf_out h
  unfold bput
  rw [if_pos h, if_pos (fits_of_lt hv)]
  have e : w &&& ~~~(mask n <<< p.toNat) = w := by
    apply word_ext
    intro i hi
    rw [BitVec.getLsbD_and, BitVec.getLsbD_not, BitVec.getLsbD_shiftLeft]
    by_cases hp : i < p.toNat
    · simp [hp, hi]
    · have : w.getLsbD i = false := Nat.testBit_lt_two_pow (Nat.lt_of_lt_of_le hw (Nat.pow_le_pow_right (by decide) (by omega)))
      simp [this]
  have hlt : v.toNat * 2 ^ p.toNat < 2 ^ 64 := by
    have a : v.toNat * 2 ^ p.toNat < 2 ^ n.toNat * 2 ^ p.toNat := Nat.mul_lt_mul_of_pos_right hv (Nat.two_pow_pos _)
    have b : 2 ^ n.toNat * 2 ^ p.toNat ≤ 2 ^ 64 := by rw [← Nat.pow_add]; exact Nat.pow_le_pow_right (by decide) (by omega)
    omega
  rw [e, BitVec.toNat_or, BitVec.toNat_shiftLeft, Nat.shiftLeft_eq, Nat.mod_eq_of_lt hlt, Nat.or_comm, Nat.mul_comm]
  exact (Nat.two_pow_add_eq_or_of_lt hw _).symm

theorem ofInt_toNat {a : Int} (h0 : 0 ≤ a) (h1 : a < 18446744073709551616) : ((BitVec.ofInt 64 a).toNat : Int) = a := by
  rw [BitVec.toNat_ofInt]
  have : (0:Int) ≤ a % 18446744073709551616 := by omega
  simp; omega

/-- The header of an object, and of one that was copied. -/
def hLive (r d : Int) : BitVec 64 := if r < 0 ∨ r > 15 ∨ d < 0 ∨ d > 32 then 0#64 else BitVec.ofInt 64 ((1 + r + d) * 256 + r * 2)
def hLiveE (r d : Int) : Int := if r < 0 ∨ r > 15 ∨ d < 0 ∨ d > 32 then 13 else 0
def hFwd (a : Int) : BitVec 64 := if a < 0 ∨ a ≥ 16384 then 0#64 else BitVec.ofInt 64 (2 * a + 1)
def hFwdE (a : Int) : Int := if a < 0 ∨ a ≥ 16384 then 2 else 0

/-- What a word says: whether it is a header of an object (1), of one that was copied (2), or none (0). -/
def hKind (w : BitVec 64) : Nat :=
  let n := w.toNat
  if n % 2 = 1 then (if n / 2 ≥ 16384 then 0 else 2)
  else if n / 2 % 128 > 15 ∨ n / 256 < 1 + n / 2 % 128 ∨ n / 256 > 1 + n / 2 % 128 + 32 then 0 else 1
def hR (w : BitVec 64) : Int := if hKind w = 1 then ((w.toNat / 2 % 128 : Nat) : Int) else 0
def hD (w : BitVec 64) : Int := if hKind w = 1 then ((w.toNat / 256 : Nat) : Int) - 1 - ((w.toNat / 2 % 128 : Nat) : Int) else 0
def hA (w : BitVec 64) : Int := if hKind w = 2 then ((w.toNat / 2 : Nat) : Int) else 0
def hM (w : BitVec 64) : Bool := decide (hKind w = 2)
def hE (w : BitVec 64) : Int := if hKind w = 0 then 12 else 0

theorem hLive_nat {r d : Int} (h1 : 0 ≤ r) (h2 : r ≤ 15) (h3 : 0 ≤ d) (h4 : d ≤ 32) : ((hLive r d).toNat : Int) = (1 + r + d) * 256 + r * 2 := by
  unfold hLive
  rw [if_neg (by omega), ofInt_toNat (by omega) (by omega)]
theorem hFwd_nat {a : Int} (h1 : 0 ≤ a) (h2 : a < 16384) : ((hFwd a).toNat : Int) = 2 * a + 1 := by
  unfold hFwd
  rw [if_neg (by omega), ofInt_toNat (by omega) (by omega)]

theorem hLive_put {r d : Int} (h1 : 0 ≤ r) (h2 : r ≤ 15) (h3 : 0 ≤ d) (h4 : d ≤ 32) :
    bput (bput 0#64 1 7 (BitVec.ofInt 64 r)) 8 8 (BitVec.ofInt 64 (1 + r + d)) = hLive r d := by
  apply BitVec.eq_of_toNat_eq
  have e1 := ofInt_toNat h1 (by omega)
  have e2 := ofInt_toNat (a := 1 + r + d) (by omega) (by omega)
  have p1 : (2 : Nat) ^ ((7 : Int).toNat) = 128 := rfl
  have p2 : (2 : Nat) ^ ((8 : Int).toNat) = 256 := rfl
  have p3 : (2 : Nat) ^ ((1 : Int).toNat) = 2 := rfl
  have z : (0#64).toNat = 0 := rfl
  have f1 : (bput 0#64 1 7 (BitVec.ofInt 64 r)).toNat = _ := bput_low (by decide) (by rw [p1]; omega) (by rw [p3, z]; omega)
  rw [p3, z] at f1
  have f2 : (bput (bput 0#64 1 7 (BitVec.ofInt 64 r)) 8 8 (BitVec.ofInt 64 (1 + r + d))).toNat = _ := bput_low (by decide) (by rw [p2]; omega) (by rw [p2, f1]; omega)
  rw [p2] at f2
  have := hLive_nat h1 h2 h3 h4
  omega

theorem hFwd_put {a : Int} (h1 : 0 ≤ a) (h2 : a < 16384) : bput 1#64 1 32 (BitVec.ofInt 64 a) = hFwd a := by
  apply BitVec.eq_of_toNat_eq
  have e1 := ofInt_toNat h1 (by omega)
  have p1 : (2 : Nat) ^ ((32 : Int).toNat) = 4294967296 := rfl
  have p3 : (2 : Nat) ^ ((1 : Int).toNat) = 2 := rfl
  have z : (1#64).toNat = 1 := rfl
  have f1 : (bput 1#64 1 32 (BitVec.ofInt 64 a)).toNat = _ := bput_low (by decide) (by rw [p1]; omega) (by rw [p3, z]; omega)
  rw [p3, z] at f1
  have := hFwd_nat h1 h2
  omega

theorem get_1_63 (w : BitVec 64) : (bget w 1 63).toNat = w.toNat / 2 := by
  rw [bget_nat w (by decide)]
  have p1 : (2 : Nat) ^ ((63 : Int).toNat) = 9223372036854775808 := by decide
  have p3 : (2 : Nat) ^ ((1 : Int).toNat) = 2 := rfl
  rw [p1, p3]; have := w.isLt; omega
theorem get_1_7 (w : BitVec 64) : (bget w 1 7).toNat = w.toNat / 2 % 128 := by
  rw [bget_nat w (by decide)]
  have p1 : (2 : Nat) ^ ((7 : Int).toNat) = 128 := rfl
  have p3 : (2 : Nat) ^ ((1 : Int).toNat) = 2 := rfl
  rw [p1, p3]
theorem get_8_56 (w : BitVec 64) : (bget w 8 56).toNat = w.toNat / 256 := by
  rw [bget_nat w (by decide)]
  have p1 : (2 : Nat) ^ ((56 : Int).toNat) = 72057594037927936 := by decide
  have p3 : (2 : Nat) ^ ((8 : Int).toNat) = 256 := rfl
  rw [p1, p3]; have := w.isLt; omega

theorem and_one (w : BitVec 64) : (w &&& 1#64 = 1#64) ↔ w.toNat % 2 = 1 := by
  rw [← BitVec.toNat_inj, BitVec.toNat_and]
  have e : (1#64).toNat = 2 ^ 1 - 1 := rfl
  rw [e, Nat.and_two_pow_sub_one_eq_mod]
theorem rem_two (w : BitVec 64) : (w % 2#64 = 1#64) ↔ w.toNat % 2 = 1 := by
  rw [← BitVec.toNat_inj, BitVec.toNat_umod]; exact Iff.rfl

/-- A word that is read says one thing, and is the one header for it. -/
theorem hBack (w : BitVec 64) (h : hE w = 0) : (if hM w = true then hFwd (hA w) else hLive (hR w) (hD w)) = w ∧ (if hM w = true then hFwdE (hA w) else hLiveE (hR w) (hD w)) = 0 := by
  have hw := w.isLt
  have h0 : hKind w ≠ 0 := by
    intro h0; unfold hE at h; rw [if_pos h0] at h; cases h
  unfold hM hA hR hD
  by_cases h2 : hKind w = 2
  · have hk := h2
    unfold hKind at hk
    simp only at hk
    rw [if_pos (decide_eq_true h2), if_pos (decide_eq_true h2), if_pos h2]
    have hb : w.toNat % 2 = 1 ∧ w.toNat / 2 < 16384 := by
      split at hk
      · rename_i h1; split at hk
        · cases hk
        · exact ⟨h1, by omega⟩
      · split at hk <;> cases hk
    constructor
    · apply BitVec.eq_of_toNat_eq
      have := hFwd_nat (a := ((w.toNat / 2 : Nat) : Int)) (by omega) (by omega)
      omega
    · unfold hFwdE; rw [if_neg (by omega)]
  · have h1 : hKind w = 1 := by
      have : hKind w = 0 ∨ hKind w = 1 ∨ hKind w = 2 := by
        unfold hKind; simp only; split
        · split <;> simp
        · split <;> simp
      omega
    have hk := h1
    unfold hKind at hk
    simp only at hk
    have hd : ¬ (decide (hKind w = 2) = true) := by simpa using h2
    rw [if_neg hd, if_neg hd, if_pos h1, if_pos h1]
    have hb : w.toNat % 2 = 0 ∧ w.toNat / 2 % 128 ≤ 15 ∧ w.toNat / 256 ≥ 1 + w.toNat / 2 % 128 ∧ w.toNat / 256 ≤ 1 + w.toNat / 2 % 128 + 32 := by
      split at hk
      · split at hk <;> cases hk
      · split at hk
        · cases hk
        · omega
    constructor
    · apply BitVec.eq_of_toNat_eq
      have := hLive_nat (r := ((w.toNat / 2 % 128 : Nat) : Int)) (d := ((w.toNat / 256 : Nat) : Int) - 1 - ((w.toNat / 2 % 128 : Nat) : Int)) (by omega) (by omega) (by omega) (by omega)
      omega
    · unfold hLiveE; rw [if_neg (by omega)]

/-- What is read of a header. -/
theorem hRead_live {r d : Int} (h1 : 0 ≤ r) (h2 : r ≤ 15) (h3 : 0 ≤ d) (h4 : d ≤ 32) : hKind (hLive r d) = 1 ∧ hR (hLive r d) = r ∧ hD (hLive r d) = d := by
  have e := hLive_nat h1 h2 h3 h4
  obtain ⟨r, rfl⟩ := Int.eq_ofNat_of_zero_le h1
  obtain ⟨d, rfl⟩ := Int.eq_ofNat_of_zero_le h3
  have e1 : (hLive r d).toNat = (1 + r + d) * 256 + r * 2 := by omega
  have e2 : (hLive r d).toNat % 2 = 0 := by omega
  have e3 : (hLive r d).toNat / 2 % 128 = r := by omega
  have e4 : (hLive r d).toNat / 256 = 1 + r + d := by omega
  have hk : hKind (hLive r d) = 1 := by
    unfold hKind; simp only
    rw [if_neg (by omega), e3, e4, if_neg (by omega)]
  refine ⟨hk, ?_, ?_⟩
  · unfold hR; rw [if_pos hk, e3]
  · unfold hD; rw [if_pos hk, e3, e4]; omega
theorem hRead_fwd {a : Int} (h1 : 0 ≤ a) (h2 : a < 16384) : hKind (hFwd a) = 2 ∧ hA (hFwd a) = a := by
  have e := hFwd_nat h1 h2
  have hk : hKind (hFwd a) = 2 := by
    unfold hKind; simp only
    rw [if_pos (by omega), if_neg (by omega)]
  refine ⟨hk, ?_⟩
  unfold hA; rw [if_pos hk]; omega

end Go.Vm
