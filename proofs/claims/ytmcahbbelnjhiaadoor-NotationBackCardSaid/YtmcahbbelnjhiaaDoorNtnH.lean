/-
  Texts of configurations: what both prints print.
-/
import Derived.Test.YtmcahbbelnjhiaaDoorNtnG
set_option linter.unusedVariables false
set_option linter.unusedSimpArgs false
namespace Go.Proofs.YtmcahbbelnjhiaaDoor
open Go Go.V3

/-! Numerals. -/
def it (n : Int) : By := Lib.itoa n
theorem it_len {n : Int} (h0 : 0 ≤ n) (h1 : n ≤ 1000) : (it n).length ≤ 21 := Lib.itoa_length_le n (by omega) (by omega)
theorem Fitoa_ok {n : Int} (h0 : 0 ≤ n) (h1 : n ≤ 1000) : Fitoa n = some ⟨(it n).toArray⟩ := by
  unfold Fitoa
  rw [if_pos ⟨h0, h1⟩]; rfl
theorem it_nat (u : Nat) : it (u : Int) = Lib.decDigits u := by
  unfold it Lib.itoa
  rw [if_neg (by omega), Int.toNat_natCast]
theorem digs_ok : ∀ (k u : Nat), u < 10 ^ (k + 1) → k < 10 → NFbeltwayref13_Digits (k + 1) (u : Int) = some ⟨(Lib.decDigits u).toArray⟩
  | 0, u, h, _ => by
    have h' : u < 10 := by simpa using h
    rw [Lib.decDigits, dif_pos h', NFbeltwayref13_Digits, SFbeltwayref13_Digits, if_pos (by omega), w64_id (by omega) (by omega), InK.wrap (k := .u8) ⟨by omega, by omega⟩]
    rfl
  | k + 1, u, h, hk => by
    rw [NFbeltwayref13_Digits, SFbeltwayref13_Digits]
    by_cases h' : u < 10
    · rw [Lib.decDigits, dif_pos h', if_pos (by omega), w64_id (by omega) (by omega), InK.wrap (k := .u8) ⟨by omega, by omega⟩]
      rfl
    · have e1 : Int.tdiv (u : Int) 10 = ((u / 10 : Nat) : Int) := rfl
      have e2 : Int.tmod (u : Int) 10 = ((u % 10 : Nat) : Int) := rfl
      have hb : u < 10 ^ 11 := Nat.lt_of_lt_of_le h (Nat.pow_le_pow_right (by omega) (by omega))
      have hq : u / 10 < 10 ^ (k + 1) := by
        rw [Nat.pow_succ] at h
        exact (Nat.div_lt_iff_lt_mul (by omega)).mpr h
      have hr : u % 10 < 10 ^ (k + 1) := Nat.lt_of_lt_of_le (Nat.mod_lt _ (by omega)) (by rw [Nat.pow_succ]; have := Nat.one_le_pow k 10 (by omega); omega)
      have hsz : ∀ n : Nat, n < 10 ^ 11 → (⟨(Lib.decDigits n).toArray⟩ : ByteArray).size ≤ 21 := by
        intro n hn
        rw [size_mk, ← it_nat]
        exact Lib.itoa_length_le n (by omega) (by omega)
      have s1 := hsz (u / 10) (by omega)
      have s2 := hsz (u % 10) (by omega)
      rw [if_neg (by omega), if_pos (by decide), e1, w64_id (by omega) (by omega), digs_ok k _ hq (by omega), Option.bind_some, if_pos (by decide), e2, digs_ok k _ hr (by omega), Option.bind_some, if_pos (by omega)]
      congr 1
      apply bl_inj
      rw [bl_app, bl_mk, bl_mk, bl_mk]
      conv => rhs; rw [Lib.decDigits, dif_neg h']
      conv => lhs; rhs; rw [Lib.decDigits, dif_pos (Nat.mod_lt _ (by omega))]
theorem Fdig_ok {n : Int} (h0 : 0 ≤ n) (h1 : n ≤ 1000) : Fbeltwayref13_Digits n = some ⟨(it n).toArray⟩ := by
  obtain ⟨u, rfl⟩ := Int.eq_ofNat_of_zero_le h0
  unfold Fbeltwayref13_Digits
  rw [it_nat]
  exact digs_ok 4 u (by omega) (by omega)

/-! Percentages. -/
def tp (x : Nat) : Option Int := ((List.range 101).find? fun p : Nat => decide (pc (p : Int) = x)).map fun p : Nat => (p : Int)
theorem pc_lt {p : Int} (h0 : 0 ≤ p) (h1 : p ≤ 100) : pc p < 18446744073709551616 := by
  obtain ⟨w, h, h2⟩ := pct h0 h1
  unfold pc
  rw [h]; exact h2
theorem bv_eq {a b : Nat} (ha : a < 18446744073709551616) (hb : b < 18446744073709551616) : (BitVec.ofNat 64 a = BitVec.ofNat 64 b) ↔ a = b := by
  constructor
  · intro h
    have := congrArg BitVec.toNat h
    rwa [bn ha, bn hb] at this
  · rintro rfl; rfl
theorem toP_ok {x : Nat} (hx : x < 18446744073709551616) : Fshare_ToPercent x = some (match tp x with | some p => (p, true) | none => (0, false)) := by
  unfold Fshare_ToPercent
  have step : ∀ k : Nat, k ≤ 100 → (if (k : Int) ≤ 100 then
Option.bind (Fshare_Percent (k : Int)) (fun r1 =>
if x < 18446744073709551616 then
if r1.1 < 18446744073709551616 then
if (BitVec.ofNat 64 x) = (BitVec.ofNat 64 r1.1) then
some (Sum.inr (((k : Int), true)))
else some (Sum.inl (w64 ((k : Int) + 1)))
else none
else none)
else some (Sum.inr ((0, false)))) = if pc (k : Int) = x then some (Sum.inr ((k : Int), true)) else some (Sum.inl ((k : Int) + 1)) := by
    intro k hk
    rw [if_pos (by omega), sPerc_ok (by omega) (by omega), Option.bind_some, if_pos hx, if_pos (pc_lt (by omega) (by omega))]
    by_cases e : pc (k : Int) = x
    · rw [if_pos e, if_pos ((bv_eq hx (pc_lt (by omega) (by omega))).mpr e.symm)]
    · rw [if_neg e, if_neg (fun h => e ((bv_eq hx (pc_lt (by omega) (by omega))).mp h).symm), w64_id (by omega) (by omega)]
  unfold tp
  cases hf : (List.range 101).find? fun p : Nat => decide (pc (p : Int) = x) with
  | some p =>
    obtain ⟨h1, h2, h3⟩ := List.find?_range_eq_some.mp hf
    rw [decide_eq_true_eq] at h1
    rw [List.mem_range] at h2
    refine loopO_run p ?_ ?_
    · intro k hk
      have := h3 k hk
      simp only [Bool.not_eq_true', decide_eq_false_iff_not] at this
      rw [step k (by omega), if_neg this]
    · rw [step p (by omega), if_pos h1]; rfl
  | none =>
    have h1 := List.find?_range_eq_none.mp hf
    refine loopO_run 101 ?_ ?_
    · intro k hk
      have := h1 k hk
      simp only [Bool.not_eq_true', decide_eq_false_iff_not] at this
      rw [step k (by omega), if_neg this]
    · rw [if_neg (by omega)]; rfl
theorem rToP_eq (x : Nat) : Fbeltwayref06_ToPercent x = Fshare_ToPercent x := rfl
theorem tp_some {x : Nat} {p : Int} (h : tp x = some p) : 0 ≤ p ∧ p ≤ 100 ∧ pc p = x := by
  unfold tp at h
  obtain ⟨q, h1, rfl⟩ := Option.map_eq_some_iff.mp h
  obtain ⟨h1, h2, h3⟩ := List.find?_range_eq_some.mp h1
  rw [decide_eq_true_eq] at h1
  rw [List.mem_range] at h2
  exact ⟨by omega, by omega, h1⟩
theorem pc_zero : pc 0 = 0 := by decide
theorem tp_zero : tp 0 = some 0 := by
  unfold tp
  have : (List.range 101).find? (fun p : Nat => decide (pc (p : Int) = 0)) = some 0 := List.find?_range_eq_some.mpr ⟨by rw [decide_eq_true_eq]; exact pc_zero, by simp, fun j hj => by omega⟩
  rw [this]; rfl
theorem tp_pos {x : Nat} {p : Int} (h : tp x = some p) : p = 0 ↔ x = 0 := by
  constructor
  · rintro rfl
    rw [← (tp_some h).2.2, pc_zero]
  · rintro rfl
    rw [tp_zero] at h
    exact (Option.some.inj h).symm

/-! Texts. -/
def rtx (p : Int) (r : Ru) : By := (if p = 0 then tAll else it p ++ [37]) ++ ([47] ++ (it r.2.1 ++ ([47] ++ (it r.2.2.1 ++ ([62] ++ it r.2.2.2)))))
/-- What is printed of a rule. -/
def RuP (r : Ru) : Prop := VV r.1 ∧ (0 ≤ r.2.1 ∧ r.2.1 ≤ 64) ∧ (0 ≤ r.2.2.1 ∧ r.2.2.1 ≤ 64) ∧ (0 ≤ r.2.2.2 ∧ r.2.2.2 ≤ 64)
theorem rtx_len {p : Int} {r : Ru} (h0 : 0 ≤ p) (h1 : p ≤ 100) (hr : RuP r) : (rtx p r).length ≤ 200 := by
  obtain ⟨_, h2, h3, h4⟩ := hr
  have a := it_len (n := p) (by omega) (by omega)
  have b := it_len (n := r.2.1) (by omega) (by omega)
  have c := it_len (n := r.2.2.1) (by omega) (by omega)
  have d := it_len (n := r.2.2.2) (by omega) (by omega)
  unfold rtx
  simp only [List.length_append, List.length_cons, List.length_nil]
  split
  · rw [show tAll.length = 3 from rfl]; omega
  · simp only [List.length_append, List.length_cons, List.length_nil]; omega
theorem z37 : (⟨#[37]⟩ : ByteArray).size = 1 := rfl
theorem z47 : (⟨#[47]⟩ : ByteArray).size = 1 := rfl
theorem z62 : (⟨#[62]⟩ : ByteArray).size = 1 := rfl
theorem zall : (⟨#[97, 108, 108]⟩ : ByteArray).size = 3 := rfl
theorem zful : (⟨#[32, 102, 117, 108, 108, 32]⟩ : ByteArray).size = 6 := rfl
theorem zcol : (⟨#[58, 32]⟩ : ByteArray).size = 2 := rfl
theorem zcom : (⟨#[44, 32]⟩ : ByteArray).size = 2 := rfl
theorem it_size {n : Int} (h0 : 0 ≤ n) (h1 : n ≤ 1000) : (⟨(it n).toArray⟩ : ByteArray).size ≤ 21 := by rw [size_mk]; exact it_len h0 h1
theorem b37 : bl (⟨#[37]⟩ : ByteArray) = [37] := rfl
theorem b47 : bl (⟨#[47]⟩ : ByteArray) = [47] := rfl
theorem b62 : bl (⟨#[62]⟩ : ByteArray) = [62] := rfl
theorem ball : bl (⟨#[97, 108, 108]⟩ : ByteArray) = tAll := rfl
theorem bful : bl (⟨#[32, 102, 117, 108, 108, 32]⟩ : ByteArray) = tFull := rfl
theorem bcol : bl (⟨#[58, 32]⟩ : ByteArray) = [58, 32] := rfl
theorem bcom : bl (⟨#[44, 32]⟩ : ByteArray) = [44, 32] := rfl
theorem rRul_ok {S : ByteArray} {p : Int} {r : Ru} {k : Int} (hS : S.size ≤ 100000) (h0 : 0 ≤ p) (h1 : p ≤ 100) (hr : RuP r) : rRule S p r k = some (.inl (⟨(bl S ++ rtx p r).toArray⟩, w64 (k + 1))) := by
  obtain ⟨_, h2, h3, h4⟩ := hr
  have a := it_size (n := p) (by omega) (by omega)
  have b := it_size (n := r.2.1) (by omega) (by omega)
  have c := it_size (n := r.2.2.1) (by omega) (by omega)
  have d := it_size (n := r.2.2.2) (by omega) (by omega)
  unfold rRule rtx
  rw [Fdig_ok (n := r.2.1) (by omega) (by omega), Fdig_ok (n := r.2.2.1) (by omega) (by omega), Fdig_ok (n := r.2.2.2) (by omega) (by omega), Fdig_ok (n := p) (by omega) (by omega)]
  by_cases hp : p = 0
  · rw [if_pos hp, if_pos hp]
    simp only [ByteArray.size_append, zall, z47, z62, Option.bind_some]
    rw [if_pos (by omega), if_pos (by omega), if_pos (by omega), if_pos (by omega), if_pos (by omega), if_pos (by omega), if_pos (by omega)]
    congr 3
    apply bl_inj
    simp only [bl_app, bl_mk, b47, b62, ball, List.append_assoc]; rfl
  · rw [if_neg hp, if_neg hp]
    simp only [ByteArray.size_append, z37, z47, z62, Option.bind_some]
    rw [if_pos (by omega), if_pos (by omega), if_pos (by omega), if_pos (by omega), if_pos (by omega), if_pos (by omega), if_pos (by omega), if_pos (by omega)]
    congr 3
    apply bl_inj
    simp only [bl_app, bl_mk, b37, b47, b62, List.append_assoc]
theorem pPct_ok {S : List ByteArray} {p : Int} {r : Ru} {k : Int} (hS : S.length ≤ 1000) (h0 : 1 ≤ p) (h1 : p ≤ 100) (hr : RuP r) : pPct S p r k = some (.inl (S ++ [⟨(rtx p r).toArray⟩], w64 (k + 1))) := by
  obtain ⟨_, h2, h3, h4⟩ := hr
  have a := it_size (n := p) (by omega) (by omega)
  have b := it_size (n := r.2.1) (by omega) (by omega)
  have c := it_size (n := r.2.2.1) (by omega) (by omega)
  have d := it_size (n := r.2.2.2) (by omega) (by omega)
  unfold pPct rtx
  rw [Fitoa_ok (n := r.2.1) (by omega) (by omega), Fitoa_ok (n := r.2.2.1) (by omega) (by omega), Fitoa_ok (n := r.2.2.2) (by omega) (by omega), Fitoa_ok (n := p) (by omega) (by omega)]
  simp only [ByteArray.size_append, z37, z47, z62, Option.bind_some]
  rw [if_pos (by omega), if_pos (by omega), if_pos (by omega), if_pos (by omega), if_pos (by omega), if_pos (by omega), if_pos (by omega), if_pos (by rw [List.length_singleton]; omega), if_neg (show ¬ p = 0 by omega)]
  congr 4
  congr 1
  apply bl_inj
  simp only [bl_app, bl_mk, b37, b47, b62, List.append_assoc]
theorem pAll_ok {S : List ByteArray} {r : Ru} {k : Int} (hS : S.length ≤ 1000) (hr : RuP r) : pAll S r k = some (.inl (S ++ [⟨(rtx 0 r).toArray⟩], w64 (k + 1))) := by
  obtain ⟨_, h2, h3, h4⟩ := hr
  have b := it_size (n := r.2.1) (by omega) (by omega)
  have c := it_size (n := r.2.2.1) (by omega) (by omega)
  have d := it_size (n := r.2.2.2) (by omega) (by omega)
  unfold pAll rtx
  rw [Fitoa_ok (n := r.2.1) (by omega) (by omega), Fitoa_ok (n := r.2.2.1) (by omega) (by omega), Fitoa_ok (n := r.2.2.2) (by omega) (by omega)]
  simp only [ByteArray.size_append, zall, z47, z62, Option.bind_some]
  rw [if_pos (by omega), if_pos (by omega), if_pos (by omega), if_pos (by omega), if_pos (by omega), if_pos (by omega), if_pos (by rw [List.length_singleton]; omega), if_pos trivial]
  congr 4
  congr 1
  apply bl_inj
  simp only [bl_app, bl_mk, b47, b62, ball, List.append_assoc]; rfl
end Go.Proofs.YtmcahbbelnjhiaaDoor
