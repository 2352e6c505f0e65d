/-
  The plain laws of chapter 1.
-/
import Derived.Test.YtlbciinlnccnaaaLibBits
namespace Go.Vm
open Go

theorem fits_and_mask (v : BitVec 64) (n : Int) : fits (v &&& mask n) n = true := by
  rw [fits_iff]
  intro i hi hn
  rw [BitVec.getLsbD_and, mask_bit]
  simp; intro _; omega

theorem okf_true {p n : Int} (h1 : 0 ≤ p) (h2 : 0 ≤ n) (h3 : p + n ≤ 64) : okf p n = true := by
  unfold okf; rw [decide_eq_true_iff]; omega

theorem shr_bit (w : BitVec 64) (k i : Nat) : (w >>> k).getLsbD i = w.getLsbD (k + i) := BitVec.getLsbD_ushiftRight ..

theorem get_bit {p n : Int} (w : BitVec 64) (h : okf p n = true) (i : Nat) : (bget w p n).getLsbD i = (decide (i < 64 ∧ (i : Int) < n) && w.getLsbD (p.toNat + i)) := by
  unfold bget
  rw [if_pos h, BitVec.getLsbD_and, shr_bit, mask_bit, Bool.and_comm]

theorem put_bit {p n : Int} (w v : BitVec 64) (h : okf p n = true) (hf : fits v n = true) (i : Nat) (hi : i < 64) :
    (bput w p n v).getLsbD i = if p ≤ (i : Int) ∧ (i : Int) < p + n then v.getLsbD (i - p.toNat) else w.getLsbD i := by
  have hb : 0 ≤ p ∧ 0 ≤ n ∧ p ≤ 64 ∧ n ≤ 64 - p := by unfold okf at h; simpa using h
  have hv := (fits_iff v n).1 hf
  unfold bput
  rw [if_pos h, if_pos hf, BitVec.getLsbD_or, BitVec.getLsbD_and, BitVec.getLsbD_not, BitVec.getLsbD_shiftLeft, BitVec.getLsbD_shiftLeft, mask_bit]
  by_cases h1 : i < p.toNat
  · rw [if_neg (by omega)]; simp [h1, hi]
  · by_cases h2 : (i : Int) < p + n
    · rw [if_pos (by omega)]
      have : ((i - p.toNat : Nat) : Int) < n := by omega
      have h3 : i - p.toNat < 64 := by omega
      simp [h1, hi, this, h3]
    · rw [if_neg (by omega)]
      have h4 : ¬ ((i - p.toNat : Nat) : Int) < n := by omega
      have h5 : v.getLsbD (i - p.toNat) = false := hv _ (by omega) (by omega)
      simp [h1, hi, h4, h5]

theorem get_put {p n : Int} (w v : BitVec 64) (h : okf p n = true) (hf : fits v n = true) : bget (bput w p n v) p n = v := by
  have hb : 0 ≤ p ∧ 0 ≤ n ∧ p ≤ 64 ∧ n ≤ 64 - p := by unfold okf at h; simpa using h
  have hv := (fits_iff v n).1 hf
  apply word_ext
  intro i hi
  rw [get_bit _ h]
  by_cases hn : (i : Int) < n
  · rw [put_bit w v h hf _ (by omega), if_pos (by omega)]
    simp [hi, hn]
  · rw [hv i hi (by omega)]
    simp [hn]

theorem bit_eq (a b : BitVec 64) (k : Nat) (h : a.getLsbD k = b.getLsbD k) : (a >>> k) &&& 1#64 = (b >>> k) &&& 1#64 := by
  apply word_ext
  intro i hi
  rw [BitVec.getLsbD_and, BitVec.getLsbD_and, shr_bit, shr_bit]
  by_cases h0 : i = 0
  · subst h0; rw [Nat.add_zero, h]
  · have : (1#64).getLsbD i = false := by
      rw [BitVec.getLsbD_one]; simp [h0]
    rw [this]; simp

theorem get_parts {p m n : Int} (w : BitVec 64) (h1 : 0 ≤ p) (h2 : 0 ≤ m) (h3 : 0 ≤ n) (h4 : p + m + n ≤ 64) :
    bget w p (m + n) = bget w p m ||| (bget w (p + m) n <<< m.toNat) := by
  apply word_ext
  intro i hi
  rw [BitVec.getLsbD_or, BitVec.getLsbD_shiftLeft, get_bit w (okf_true h1 (by omega) (by omega)), get_bit w (okf_true h1 h2 (by omega)), get_bit w (okf_true (by omega) h3 (by omega))]
  by_cases a : (i : Int) < m
  · have c : (i : Int) < m + n := by omega
    have d : i < m.toNat := by omega
    simp [a, c, d, hi]
  · by_cases b : (i : Int) < m + n
    · have c : ((i - m.toNat : Nat) : Int) < n := by omega
      have d : ¬ i < m.toNat := by omega
      have f : i - m.toNat < 64 := by omega
      have e : (p + m).toNat + (i - m.toNat) = p.toNat + i := by omega
      simp [a, b, c, d, hi, f, e]
    · have c : ¬ ((i - m.toNat : Nat) : Int) < n := by omega
      simp [a, b, c]

theorem fits_get {p n : Int} (w : BitVec 64) (h : okf p n = true) : fits (bget w p n) n = true := by
  unfold bget; rw [if_pos h]; exact fits_and_mask _ _

theorem mask_parts {m n : Int} (h2 : 0 ≤ m) (h3 : 0 ≤ n) : mask m ||| (mask n <<< m.toNat) = mask (m + n) := by
  apply word_ext
  intro i hi
  rw [BitVec.getLsbD_or, BitVec.getLsbD_shiftLeft, mask_bit, mask_bit, mask_bit, Bool.eq_iff_iff]
  simp
  omega

/-- A logarithm, from a place on. -/
def lgGo (n : Int) : Nat → Nat → Int × Bool
  | _, 0 => (0, false)
  | k, f + 1 => if n = 2 ^ k then ((k : Int), true) else lgGo n (k + 1) f
def lg (n : Int) : Int × Bool := lgGo n 0 63

/-- The quotient, rounded up: between. -/
theorem ceil_bounds (n d q : Int) (hd : 1 ≤ d) (hq : q = (n + d - 1) / d) : q * d ≥ n ∧ (q - 1) * d < n := by
  subst hq
  have h1 := Int.emod_nonneg (n + d - 1) (show d ≠ 0 by omega)
  have h2 := Int.emod_lt_of_pos (n + d - 1) (show 0 < d by omega)
  have h3 := Int.mul_ediv_add_emod (n + d - 1) d
  have h4 : (n + d - 1) / d * d = d * ((n + d - 1) / d) := Int.mul_comm _ _
  rw [Int.sub_mul, Int.one_mul]
  omega

theorem ceil_range (n s : Int) (h0 : 0 ≤ n) (h1 : n ≤ 2097152) (h2 : 0 ≤ s) (h3 : s ≤ 20) :
    ceilQ n s = (n + 2 ^ s.toNat - 1) / 2 ^ s.toNat ∧ 0 ≤ ceilQ n s ∧ ceilQ n s ≤ n := by
  have e : ceilQ n s = (n + 2 ^ s.toNat - 1) / 2 ^ s.toNat := by unfold ceilQ; rw [if_neg (by omega)]
  obtain ⟨b1, _⟩ := pow_bounds (k := s.toNat) (m := 20) (by omega)
  obtain ⟨c1, c2⟩ := ceil_bounds n (2 ^ s.toNat) _ b1 rfl
  rw [← e] at c1 c2
  refine ⟨e, ?_, ?_⟩
  · rw [e]; exact Int.ediv_nonneg (by omega) (by omega)
  · rcases Int.lt_or_le n (ceilQ n s) with h | h
    · have : n * 2 ^ s.toNat ≤ (ceilQ n s - 1) * 2 ^ s.toNat := Int.mul_le_mul_of_nonneg_right (by omega) (by omega)
      have h5 : n * 1 ≤ n * 2 ^ s.toNat := Int.mul_le_mul_of_nonneg_left b1 h0
      omega
    · exact h

theorem ceil_sum (a b s : Int) (ha : 0 ≤ a) (ha1 : a < 1048576) (hb : 0 ≤ b) (hb1 : b < 1048576) (h2 : 0 ≤ s) (h3 : s ≤ 20) :
    ceilQ (a + b) s ≤ ceilQ a s + ceilQ b s ∧ ceilQ (a + b) s ≥ ceilQ a s + ceilQ b s - 1 := by
  obtain ⟨b1, _⟩ := pow_bounds (k := s.toNat) (m := 20) (by omega)
  obtain ⟨e1, _⟩ := ceil_range a s ha (by omega) h2 h3
  obtain ⟨e2, _⟩ := ceil_range b s hb (by omega) h2 h3
  obtain ⟨e3, _⟩ := ceil_range (a + b) s (by omega) (by omega) h2 h3
  obtain ⟨p1, p2⟩ := ceil_bounds a _ _ b1 e1
  obtain ⟨q1, q2⟩ := ceil_bounds b _ _ b1 e2
  obtain ⟨r1, r2⟩ := ceil_bounds (a + b) _ _ b1 e3
  generalize (2 : Int) ^ s.toNat = d at *
  generalize ceilQ a s = x at *
  generalize ceilQ b s = y at *
  generalize ceilQ (a + b) s = z at *
  constructor
  · rcases Int.lt_or_le (x + y) z with h | h
    · have : (x + y) * d ≤ (z - 1) * d := Int.mul_le_mul_of_nonneg_right (by omega) (by omega)
      rw [Int.add_mul] at this; omega
    · exact h
  · rcases Int.lt_or_le z (x + y - 1) with h | h
    · have : z * d ≤ (x + y - 2) * d := Int.mul_le_mul_of_nonneg_right (by omega) (by omega)
      have e : (x + y - 2) * d = (x - 1) * d + (y - 1) * d := by rw [← Int.add_mul]; congr 1; omega
      omega
    · exact h

end Go.Vm
