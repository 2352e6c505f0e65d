/-
  Plain laws of package config: names, rules, valid configurations.
-/
import Derived.Test.YtmcahbbelnjhiaaDoorRows
import Derived.Test.YtmcahbbelnjhiaaDoorTie
import Derived.Test.YtmcahbbelnjhiaaDoorCards
import Derived.SevenTiedAt
import Derived.LaidSub
import Derived.Test.YtmcahbbelnjhiaaDoorShrB
set_option linter.unusedVariables false
namespace Go.Proofs.YtmcahbbelnjhiaaDoor
open Go Go.V3

/-! Names. -/
theorem dec_hi (s : ByteArray) (p : Nat) (h : 128 ≤ (s.get! p).toNat) : 128 ≤ (Utf8.decode s p).1 := by
  unfold Utf8.decode
  simp only [Nat.add_zero]
  rw [if_neg (by omega)]
  repeat' split
  all_goals (first | (simp only [Utf8.runeError]; omega) | (simp_all; omega) | skip)
theorem dec_lo (s : ByteArray) (p : Nat) (h : (s.get! p).toNat < 128) : Utf8.decode s p = ((s.get! p).toNat, 1) := by
  unfold Utf8.decode
  simp only [Nat.add_zero]
  rw [if_pos h]
theorem sget_eq (s : ByteArray) {p : Nat} (h : p < s.size) : sget s p = ((s.get! p).toNat : Int) := by
  unfold sget
  have h' : p < s.data.size := h
  rw [Array.getElem?_eq_getElem h', Option.getD_some]
  show _ = (((s.data)[p]!).toNat : Int)
  rw [getElem!_pos s.data p h']
def okb (s : ByteArray) (i : Nat) : Prop := (97 ≤ sget s i ∧ sget s i ≤ 122) ∨ (i ≠ 0 ∧ (sget s i = 45 ∨ (48 ≤ sget s i ∧ sget s i ≤ 57)))
def nmOk (s : ByteArray) : Prop := 1 ≤ s.size ∧ s.size ≤ 16 ∧ ∀ i, i < s.size → okb s i
theorem named_ok (s : ByteArray) : ∃ b, Fconfig_named s = some b ∧ (b = true ↔ nmOk s) := by
  unfold Fconfig_named
  by_cases c1 : (s.size : Int) < 1
  · rw [if_pos c1]; exact ⟨_, rfl, iff_of_false (by decide) fun h => by have := h.1; omega⟩
  rw [if_neg c1]
  by_cases c2 : (s.size : Int) > 16
  · rw [if_pos c2]; exact ⟨_, rfl, iff_of_false (by decide) fun h => by have := h.2.1; omega⟩
  rw [if_neg c2, if_pos (by omega), show (0 : Int).toNat = 0 from rfl]
  by_cases c3 : sget s 0 < 97
  · rw [if_pos c3]; exact ⟨_, rfl, iff_of_false (by decide) fun h => by rcases h.2.2 0 (by omega) with h | h; omega; exact h.1 rfl⟩
  rw [if_neg c3, if_pos (by omega)]
  by_cases c4 : sget s 0 > 122
  · rw [if_pos c4]; exact ⟨_, rfl, iff_of_false (by decide) fun h => by rcases h.2.2 0 (by omega) with h | h; omega; exact h.1 rfl⟩
  rw [if_neg c4]
  refine loopO_ind (fun n (p : Nat) => n = s.size - p ∧ p ≤ s.size ∧ ∀ i, i < p → okb s i) (fun b => b = true ↔ nmOk s) ?_ s.size 0 ⟨by omega, by omega, fun i h => by omega⟩
  rintro n p ⟨h1, h2, h3⟩
  by_cases hp : p < s.size
  rotate_left
  · left
    rw [decide_eq_false hp]
    exact ⟨true, rfl, iff_of_true rfl ⟨by omega, by omega, fun i hi => h3 i (by omega)⟩⟩
  rw [decide_eq_true hp]
  have hg := sget_eq s hp
  have bad : ¬ okb s p → ∃ b, (some (Sum.inr false) : Option (Nat ⊕ Bool)) = some (.inr b) ∧ (b = true ↔ nmOk s) := fun hb => ⟨false, rfl, iff_of_false (by decide) fun h => hb (h.2.2 p hp)⟩
  by_cases hb : (s.get! p).toNat < 128
  · rw [dec_lo s p hb]
    simp only [cond_true]
    rw [← hg]
    have good : okb s p → ∃ m s', m < n ∧ (some (Sum.inl (p + 1)) : Option (Nat ⊕ Bool)) = some (.inl s') ∧ m = s.size - s' ∧ s' ≤ s.size ∧ ∀ i, i < s' → okb s i := fun hk => ⟨n - 1, p + 1, by omega, rfl, by omega, by omega, fun i hi => by
      by_cases e : i = p
      · rw [e]; exact hk
      · exact h3 i (by omega)⟩
    have hz : p = 0 → 97 ≤ sget s p ∧ sget s p ≤ 122 := by rintro rfl; omega
    by_cases hk : okb s p
    · right
      have : (97 ≤ sget s p ∧ sget s p ≤ 122) ∨ (sget s p = 45 ∨ (48 ≤ sget s p ∧ sget s p ≤ 57)) := hk.imp id fun h => h.2
      repeat' split
      all_goals first | exact good hk | (exfalso; omega)
    · left
      have : ¬ ((97 ≤ sget s p ∧ sget s p ≤ 122) ∨ (sget s p = 45 ∨ (48 ≤ sget s p ∧ sget s p ≤ 57))) := by
        intro h
        rcases h with h | h
        · exact hk (.inl h)
        · by_cases e : p = 0
          · exact hk (.inl (hz e))
          · exact hk (.inr ⟨e, h⟩)
      repeat' split
      all_goals first | exact bad hk | (exfalso; omega)
  · have hd := dec_hi s p (by omega)
    simp only [cond_true]
    left
    have hk : ¬ okb s p := by unfold okb; omega
    rw [if_neg (by omega), if_pos (by omega), if_neg (by omega), if_pos (by omega), if_pos (by omega)]
    exact bad hk
theorem rNamed_ok (s : ByteArray) (hs : s.size ≤ 1000000) : ∃ b, Fbeltwayref12_Named s = some b ∧ (b = true ↔ nmOk s) := by
  unfold Fbeltwayref12_Named
  refine loopO_ind (fun n (i : Int) => ∃ p : Nat, i = (p : Int) ∧ n = s.size - p ∧ p ≤ s.size ∧ ∀ j, j < p → okb s j) (fun b => b = true ↔ nmOk s) ?_ s.size 0 ⟨0, rfl, by omega, by omega, fun i h => by omega⟩
  rintro n i ⟨p, rfl, h1, h2, h3⟩
  by_cases hp : p < s.size
  rotate_left
  · left
    rw [if_neg (by omega)]
    by_cases c1 : (s.size : Int) ≥ 1
    · rw [if_pos c1]
      refine ⟨_, rfl, ?_⟩
      rw [decide_eq_true_iff]
      exact ⟨fun h => ⟨by omega, by omega, fun j hj => h3 j (by omega)⟩, fun h => by have := h.2.1; omega⟩
    · rw [if_neg c1]
      exact ⟨_, rfl, iff_of_false (by decide) fun h => by have := h.1; omega⟩
  rw [if_pos (by omega), if_pos (by omega), Int.toNat_natCast, w64_id (by omega) (by omega)]
  have bad : ¬ okb s p → ∃ b, (some (Sum.inr false) : Option (Int ⊕ Bool)) = some (.inr b) ∧ (b = true ↔ nmOk s) := fun hb => ⟨false, rfl, iff_of_false (by decide) fun h => hb (h.2.2 p hp)⟩
  have good : okb s p → ∃ m s', m < n ∧ (some (Sum.inl ((p : Int) + 1)) : Option (Int ⊕ Bool)) = some (.inl s') ∧ ∃ q : Nat, s' = (q : Int) ∧ m = s.size - q ∧ q ≤ s.size ∧ ∀ j, j < q → okb s j := fun hk => ⟨n - 1, _, by omega, rfl, p + 1, rfl, by omega, by omega, fun i hi => by
    by_cases e : i = p
    · rw [e]; exact hk
    · exact h3 i (by omega)⟩
  by_cases hk : okb s p
  · right
    have hk' := hk
    unfold okb at hk'
    repeat' split
    all_goals first | exact good hk | (exfalso; omega)
  · left
    have hk' := hk
    unfold okb at hk'
    repeat' split
    all_goals first | exact bad hk | (exfalso; omega)

/-! Rules. -/
abbrev Ru : Type := Nat × Int × Int × Int
abbrev Cf : Type := ByteArray × List Ru × Int
def ru (c : Cf) (b : Int) : Ru := gl (0, 0, 0, 0) c.2.1 b.toNat
def LimBad (r : Ru) (b last : Int) : Prop := r.2.1 < 0 ∨ 64 < r.2.1 ∨ r.2.2.1 < 0 ∨ 64 < r.2.2.1 ∨ (b = last ∧ r.2.1 ≠ 0)
def TgtBad (r : Ru) (b last : Int) : Prop := (b = last ∧ r.2.2.2 ≠ b) ∨ (b < last ∧ (r.2.2.2 ≤ b ∨ last < r.2.2.2))
instance (r : Ru) (b last : Int) : Decidable (LimBad r b last) := by unfold LimBad; infer_instance
instance (r : Ru) (b last : Int) : Decidable (TgtBad r b last) := by unfold TgtBad; infer_instance
def rErr (r : Ru) (b last : Int) : Int := if ¬ VV r.1 then 6 else if LimBad r b last then 9 else if TgtBad r b last then 10 else 0
def Sh (c : Cf) : Prop := ∀ b : Int, 0 ≤ b → b < c.2.1.length → (ru c b).1 < 18446744073709551616
theorem count_ok (a : Int) : Fconfig_count a = some (decide (0 ≤ a ∧ a ≤ 64)) := by
  unfold Fconfig_count
  by_cases h : a ≥ 0
  · rw [if_pos h]; simp [h]
  · rw [if_neg h]; congr 1; symm; rw [decide_eq_false_iff_not]; omega
theorem rule_ok {c : Cf} (hn : c.2.1.length ≤ 1000) (hs : Sh c) {b : Int} (b0 : 0 ≤ b) (b1 : b < c.2.1.length) : Fconfig_rule c b = some (rErr (ru c b) b ((c.2.1.length : Int) - 1)) := by
  have hr : gl (0, 0, 0, 0) c.2.1 b.toNat = ru c b := rfl
  unfold Fconfig_rule
  rw [if_pos ⟨b0, b1⟩, hr, sValid_ok (hs b b0 b1)]
  simp only [Option.bind_some]
  unfold rErr
  by_cases hv : VV (ru c b).1
  rotate_left
  · rw [if_pos (by simp [hv]), if_pos hv]
  rw [if_neg (by simp [hv]), if_neg (not_not_intro hv), count_ok, count_ok, w64_id (by omega) (by omega)]
  simp only [Option.bind_some]
  generalize ru c b = r
  obtain ⟨x, l, q, t⟩ := r
  have hL : LimBad (x, l, q, t) b ((c.2.1.length : Int) - 1) ↔ ¬ (0 ≤ l ∧ l ≤ 64) ∨ ¬ (0 ≤ q ∧ q ≤ 64) ∨ (b = (c.2.1.length : Int) - 1 ∧ l ≠ 0) := by
    unfold LimBad
    simp only
    omega
  have hT : TgtBad (x, l, q, t) b ((c.2.1.length : Int) - 1) ↔ (b = (c.2.1.length : Int) - 1 ∧ t ≠ b) ∨ (b < (c.2.1.length : Int) - 1 ∧ (t ≤ b ∨ (c.2.1.length : Int) - 1 < t)) := Iff.rfl
  simp only
  by_cases c1 : 0 ≤ l ∧ l ≤ 64
  rotate_left
  · rw [if_pos (by simp only [Bool.not_eq_true', decide_eq_false_iff_not]; exact c1), if_pos (hL.2 (.inl c1))]
  rw [if_neg (by simp only [Bool.not_eq_true', decide_eq_false_iff_not]; exact not_not_intro c1)]
  by_cases c2 : 0 ≤ q ∧ q ≤ 64
  rotate_left
  · rw [if_pos (by simp only [Bool.not_eq_true', decide_eq_false_iff_not]; exact c2), if_pos (hL.2 (.inr (.inl c2)))]
  rw [if_neg (by simp only [Bool.not_eq_true', decide_eq_false_iff_not]; exact not_not_intro c2)]
  by_cases c3 : b = (c.2.1.length : Int) - 1
  · rw [if_pos c3]
    by_cases c4 : l = 0
    · have nl : ¬ LimBad (x, l, q, t) b ((c.2.1.length : Int) - 1) := fun h => by have := hL.1 h; omega
      rw [if_neg (not_not_intro c4), if_pos c3, if_neg nl]
      by_cases c5 : t = b
      · have nt : ¬ TgtBad (x, l, q, t) b ((c.2.1.length : Int) - 1) := fun h => by have := hT.1 h; omega
        rw [if_neg (not_not_intro c5), if_neg (by omega), if_neg nt]
      · rw [if_pos c5, if_pos (hT.2 (.inl ⟨c3, c5⟩))]
    · rw [if_pos c4, if_pos (hL.2 (.inr (.inr ⟨c3, c4⟩)))]
  · have nl : ¬ LimBad (x, l, q, t) b ((c.2.1.length : Int) - 1) := fun h => by have := hL.1 h; omega
    rw [if_neg c3, if_neg c3, if_pos (by omega), if_neg nl]
    by_cases c5 : t ≤ b
    · rw [if_pos c5, if_pos (hT.2 (.inr ⟨by omega, .inl c5⟩))]
    · rw [if_neg c5]
      by_cases c6 : t > (c.2.1.length : Int) - 1
      · rw [if_pos c6, if_pos (hT.2 (.inr ⟨by omega, .inr c6⟩))]
      · have nt : ¬ TgtBad (x, l, q, t) b ((c.2.1.length : Int) - 1) := fun h => by have := hT.1 h; omega
        rw [if_neg c6, if_neg nt]
/-- The first error of the rules from b on. -/
def fe (c : Cf) : Nat → Int → Int
  | 0, _ => 0
  | m + 1, b => if rErr (ru c b) b ((c.2.1.length : Int) - 1) ≠ 0 then rErr (ru c b) b ((c.2.1.length : Int) - 1) else fe c m (b + 1)
theorem fe_zero (c : Cf) : ∀ (m : Nat) (b : Int), fe c m b = 0 → ∀ k : Int, b ≤ k → k < b + m → rErr (ru c k) k ((c.2.1.length : Int) - 1) = 0
  | 0, b, _, k, h1, h2 => by omega
  | m + 1, b, h, k, h1, h2 => by
    rw [fe] at h
    by_cases e : rErr (ru c b) b ((c.2.1.length : Int) - 1) = 0
    · rw [if_neg (not_not_intro e)] at h
      by_cases hk : k = b
      · rw [hk]; exact e
      · exact fe_zero c m (b + 1) h k (by omega) (by omega)
    · rw [if_pos e] at h; exact absurd h e
theorem fe_of (c : Cf) : ∀ (m : Nat) (b : Int), (∀ k : Int, b ≤ k → k < b + m → rErr (ru c k) k ((c.2.1.length : Int) - 1) = 0) → fe c m b = 0
  | 0, b, _ => rfl
  | m + 1, b, h => by
    rw [fe, if_neg (not_not_intro (h b (by omega) (by omega)))]
    exact fe_of c m (b + 1) fun k h1 h2 => h k (by omega) (by omega)
def Aim (c : Cf) (b : Int) : Prop := ∃ k : Int, (0 ≤ k ∧ k < c.2.1.length) ∧ k ≠ b ∧ (ru c k).2.2.2 = b
def FinBad (c : Cf) : Prop := ((ru c ((c.2.1.length : Int) - 1)).1 = 0 ∧ (c.2.2 < 1 ∨ 64 < c.2.2)) ∨ ((ru c ((c.2.1.length : Int) - 1)).1 ≠ 0 ∧ c.2.2 ≠ 0)
open Classical in
/-- The error of a configuration. -/
noncomputable def chk (c : Cf) : Int :=
  if ¬ nmOk c.1 then 7 else if ¬ (1 ≤ c.2.1.length ∧ c.2.1.length ≤ 4) then 8 else if fe c c.2.1.length 0 ≠ 0 then fe c c.2.1.length 0 else if ¬ (∀ b : Int, 1 ≤ b → b < c.2.1.length → Aim c b) then 10 else if FinBad c then 9 else 0
theorem targeted_ok {c : Cf} (hn : c.2.1.length ≤ 1000) (b : Int) : ∃ r, Fconfig_targeted c b = some r ∧ (r = true ↔ Aim c b) := by
  unfold Fconfig_targeted
  refine loopO_ind (fun n (i : Int) => ∃ p : Nat, i = (p : Int) ∧ n = c.2.1.length - p ∧ p ≤ c.2.1.length ∧ ∀ k : Int, 0 ≤ k → k < p → ¬ (k ≠ b ∧ (ru c k).2.2.2 = b)) (fun r => r = true ↔ Aim c b) ?_ c.2.1.length 0 ⟨0, rfl, by omega, by omega, fun i _ h => by omega⟩
  rintro n i ⟨p, rfl, h1, h2, h3⟩
  by_cases hp : p < c.2.1.length
  rotate_left
  · left
    rw [if_neg (by omega)]
    refine ⟨_, rfl, iff_of_false (by decide) ?_⟩
    rintro ⟨k, ⟨k0, k1⟩, k2⟩
    exact h3 k k0 (by omega) k2
  have hr : gl (0, 0, 0, 0) c.2.1 (p : Int).toNat = ru c p := rfl
  rw [if_pos (by omega), if_pos (by omega), hr, w64_id (by omega) (by omega)]
  have good : ¬ ((p : Int) ≠ b ∧ (ru c p).2.2.2 = b) → ∃ m s', m < n ∧ (some (Sum.inl ((p : Int) + 1)) : Option (Int ⊕ Bool)) = some (.inl s') ∧ ∃ q : Nat, s' = (q : Int) ∧ m = c.2.1.length - q ∧ q ≤ c.2.1.length ∧ ∀ k : Int, 0 ≤ k → k < q → ¬ (k ≠ b ∧ (ru c k).2.2.2 = b) := fun hk => ⟨n - 1, _, by omega, rfl, p + 1, rfl, by omega, by omega, fun k k0 k1 => by
    by_cases e : k = p
    · rw [e]; exact hk
    · exact h3 k k0 (by omega)⟩
  by_cases c1 : (p : Int) = b
  · rw [if_neg (not_not_intro c1)]
    exact .inr (good fun h => h.1 c1)
  · rw [if_pos c1]
    by_cases c2 : (ru c p).2.2.2 = b
    · rw [if_pos c2]
      exact .inl ⟨_, rfl, iff_of_true rfl ⟨p, ⟨by omega, by omega⟩, c1, c2⟩⟩
    · rw [if_neg c2]
      exact .inr (good fun h => c2 h.2)
theorem zeroEq {x : Nat} (h : VV x) : fOrd x 0 = some .eq ↔ x = 0 := by
  rcases h with rfl | ⟨h0, h1⟩
  · exact iff_of_true (by decide) rfl
  · exact iff_of_false (not_zero h0 h1) (by omega)
theorem lastVV {c : Cf} (h1 : 1 ≤ c.2.1.length) (hfe : fe c c.2.1.length 0 = 0) {b : Int} (b0 : 0 ≤ b) (b1 : b < c.2.1.length) : VV (ru c b).1 := by
  have := fe_zero c _ _ hfe b b0 (by omega)
  unfold rErr at this
  exact Classical.byContradiction fun h => by rw [if_pos h] at this; exact absurd this (by decide)
open Classical in
theorem check_ok {c : Cf} (hn : c.2.1.length ≤ 1000) (hs : Sh c) : Fconfig_Check c = some (chk c) := by
  unfold Fconfig_Check chk
  obtain ⟨nb, n1, n2⟩ := named_ok c.1
  rw [n1]
  simp only [Option.bind_some]
  by_cases hnm : nmOk c.1
  rotate_left
  · rw [if_pos (by simp only [Bool.not_eq_true']; cases nb with | false => rfl | true => exact absurd (n2.1 rfl) hnm), if_pos hnm]
  rw [if_neg (by simp [n2.2 hnm]), if_neg (not_not_intro hnm)]
  by_cases c1 : (c.2.1.length : Int) < 1
  · rw [if_pos c1, if_pos (by omega)]
  rw [if_neg c1]
  by_cases c2 : (c.2.1.length : Int) > 4
  · rw [if_pos c2, if_pos (by omega)]
  rw [if_neg c2, if_neg (show ¬ ¬ (1 ≤ c.2.1.length ∧ c.2.1.length ≤ 4) from by omega)]
  refine loopO_to (fun m (i : Int) => ∃ p : Nat, i = (p : Int) ∧ m = c.2.1.length - p ∧ p ≤ c.2.1.length ∧ fe c (c.2.1.length - p) p = fe c c.2.1.length 0) (n := c.2.1.length) ?_ ⟨0, rfl, by omega, by omega, by simp⟩
  rintro m i ⟨p, rfl, h1, h2, h3⟩
  by_cases hp : p < c.2.1.length
  · rw [if_pos (by omega), rule_ok hn hs (by omega) (by omega)]
    simp only [Option.bind_some]
    obtain ⟨d, hd⟩ : ∃ d, c.2.1.length - p = d + 1 := ⟨c.2.1.length - p - 1, by omega⟩
    rw [hd, fe] at h3
    by_cases he : rErr (ru c p) p ((c.2.1.length : Int) - 1) = 0
    · rw [if_neg (not_not_intro he)] at h3
      rw [if_neg (not_not_intro he), w64_id (by omega) (by omega)]
      refine .inr ⟨m - 1, _, by omega, rfl, p + 1, rfl, by omega, by omega, ?_⟩
      rw [show c.2.1.length - (p + 1) = d from by omega]
      exact h3
    · rw [if_pos he] at h3
      rw [if_pos he, if_pos (by rw [← h3]; exact he), h3]
      exact .inl rfl
  · have hp' : p = c.2.1.length := by omega
    subst hp'
    rw [Nat.sub_self, fe] at h3
    rw [if_neg (by omega), if_neg (not_not_intro h3.symm)]
    left
    suffices hx : loopO (σ := Int) (β := Int) _ 1 = some (if ¬ (∀ b : Int, 1 ≤ b → b < c.2.1.length → Aim c b) then 10 else if FinBad c then 9 else 0) by
      rw [hx]; rfl
    refine loopO_to (fun m (i : Int) => ∃ p : Nat, i = (p : Int) ∧ 1 ≤ p ∧ m = c.2.1.length - p ∧ p ≤ c.2.1.length ∧ ∀ b : Int, 1 ≤ b → b < p → Aim c b) (n := c.2.1.length - 1) ?_ ⟨1, rfl, by omega, by omega, by omega, fun b b0 b1 => by omega⟩
    rintro m i ⟨p, rfl, q1, q2, q3, q4⟩
    by_cases hp : p < c.2.1.length
    · rw [if_pos (by omega)]
      obtain ⟨r, r1, r2⟩ := targeted_ok hn (p : Int)
      rw [r1]
      simp only [Option.bind_some]
      by_cases ha : Aim c p
      · rw [if_neg (by simp [r2.2 ha]), w64_id (by omega) (by omega)]
        exact .inr ⟨m - 1, _, by omega, rfl, p + 1, rfl, by omega, by omega, by omega, fun b b0 b1 => by
          by_cases e : b = p
          · rw [e]; exact ha
          · exact q4 b b0 (by omega)⟩
      · rw [if_pos (by simp only [Bool.not_eq_true']; cases r with | false => rfl | true => exact absurd (r2.1 rfl) ha), if_pos (fun h => ha (h p (by omega) (by omega)))]
        exact .inl rfl
    · rw [if_neg (by omega), if_neg (not_not_intro fun b b0 b1 => q4 b b0 (by omega)), w64_id (e := (c.2.1.length : Int) - 1) (by omega) (by omega), if_pos (by omega)]
      left
      have hr : gl (0, 0, 0, 0) c.2.1 ((c.2.1.length : Int) - 1).toNat = ru c ((c.2.1.length : Int) - 1) := rfl
      have hz := zeroEq (lastVV (by omega) h3.symm (b := (c.2.1.length : Int) - 1) (by omega) (by omega))
      rw [hr]
      unfold FinBad
      simp only [hz]
      by_cases z : (ru c ((c.2.1.length : Int) - 1)).1 = 0
      · rw [if_pos z]
        by_cases f1 : c.2.2 < 1
        · rw [if_pos f1, if_pos (.inl ⟨z, .inl f1⟩)]; rfl
        · rw [if_neg f1]
          by_cases f2 : c.2.2 > 64
          · rw [if_pos f2, if_pos f2, if_pos (.inl ⟨z, .inr f2⟩)]; rfl
          · rw [if_neg f2, if_neg (not_not_intro z), if_neg (by rintro (⟨_, h⟩ | ⟨h, _⟩); omega; exact h z)]; rfl
      · rw [if_neg z, if_pos z]
        by_cases f1 : c.2.2 = 0
        · rw [if_neg (not_not_intro f1), if_neg (by rintro (⟨h, _⟩ | ⟨_, h⟩); exact z h; exact h f1)]; rfl
        · rw [if_pos f1, if_pos (.inr ⟨z, f1⟩)]; rfl
end Go.Proofs.YtmcahbbelnjhiaaDoor
