/-
  What the references compute on valid spaces.
-/
import Derived.Test.YtokeceeccmgcmaaDoorSpB
import Derived.Test.YtokeceeccmgcmaaDoorSpC
set_option linter.unusedVariables false
namespace Go.Proofs.YtokeceeccmgcmaaDoor
open Go Go.V3

theorem Mod_ok (a : Int) {m : Int} (h0 : 0 < m) (h1 : m ≤ 4611686018427387904) : ∃ r, Fbeltwaymake_Mod a m = some r ∧ 0 ≤ r ∧ r < m ∧ r = a % m := by
  have u := Int.tmod_lt_of_pos a h0
  have l := Int.lt_tmod_of_pos a h0
  have e : Int.tmod a m = if 0 ≤ a ∨ m ∣ a then a % m else a % m - m := by
    rw [Int.tmod_eq_emod]
    split <;> omega
  have p0 := Int.emod_nonneg a (show m ≠ 0 by omega)
  have p1 := Int.emod_lt_of_pos a h0
  unfold Fbeltwaymake_Mod
  rw [if_pos (by omega)]
  by_cases hn : a.tmod m < 0
  · rw [if_pos hn]
    rw [w64_id (by omega) (by omega)]
    exact ⟨_, rfl, by omega, by omega, by split at e <;> omega⟩
  · rw [if_neg hn]
    exact ⟨_, rfl, by omega, u, by split at e <;> omega⟩

/-- A deck of no more numbers than a slice can have. -/
def DkOk (d : List Int × Int) : Prop := 0 ≤ d.2 ∧ (d.1.length : Int) ≤ 9223372036854775807

theorem Clone_ok {ws : List (BitVec 64)} (h : ws.length ≤ 1000000) : Fbeltwayref02_Clone ws = some ws := by
  unfold Fbeltwayref02_Clone
  rw [if_pos (by simp; omega)]; rfl
theorem Copy_ok {s : Sp} (h : s.2.1.length ≤ 1000000) (h2 : s.2.2.length ≤ 1000000) : Fbeltwayref03_Copy s = some s := by
  unfold Fbeltwayref03_Copy
  rw [Clone_ok h]
  simp only [Option.bind_some]
  rw [if_pos (by simp; omega)]; rfl
theorem VS.wlen {s : Sp} (h : VS s) : s.2.1.length ≤ 16384 := by
  have := (mul_sz_le h.sh (by omega : 0 ≤ (s.2.2.length : Int)) (show (s.2.2.length : Int) ≤ 64 by have := h.n.2; omega)).2
  have := h.w
  omega
theorem VS.copy {s : Sp} (h : VS s) : Fbeltwayref03_Copy s = some s := Copy_ok (by have := VS.wlen h; omega) (by have := h.n.2; omega)
theorem VS.valid {s : Sp} (h : VS s) : Fbeltwayref03_Valid s = some true := by
  obtain ⟨b, h1, h2⟩ := rValid_ok s
  rw [h1, h2.2 h]

theorem rNew_ok {s n : Int} (hs : 3 ≤ s ∧ s ≤ 8) (hn : 2 ≤ n ∧ n ≤ 64) :
    Fbeltwayref03_New s n = some ((s, List.replicate (n * sz s).toNat 0#64, List.replicate n.toNat (-1, -1, -1)), 0) := by
  obtain ⟨q1, q2⟩ := mul_sz_le hs (by omega : 0 ≤ n) hn.2
  unfold Fbeltwayref03_New
  rw [rshift_ok]
  simp only [Option.bind_some]
  rw [if_neg (by simp [hs]), if_neg (by omega), if_neg (by omega), if_pos trivial, pow_sz hs, w64_id (by omega) (by omega), if_pos (by omega), if_pos (by omega)]
  refine loopO_to (fun k st => st.1 = n - k ∧ (k : Int) ≤ n ∧ st.2.length = n.toNat ∧ ∀ j, j < st.1.toNat → st.2[j]? = some (-1, -1, -1)) (n := n.toNat) ?_ ⟨by omega, by omega, by simp, fun j hj => by simp at hj⟩
  rintro k ⟨i, xs⟩ ⟨h1, h2, h3, h4⟩
  simp only at h1 h2 h3 h4 ⊢
  rw [List.length_replicate]
  by_cases hk : k = 0
  · left
    rw [if_neg (by omega)]
    have : i.toNat = n.toNat := by omega
    rw [this] at h4
    rw [ext_replicate h3 h4]
  · right
    refine ⟨k - 1, _, by omega, by rw [if_pos (by omega), if_pos (by omega)], ?_, by omega, ?_, ?_⟩
    · simp only; rw [w64_id (by omega) (by omega)]; omega
    · simp [h3]
    · simp only
      rw [w64_id (by omega) (by omega)]
      intro j hj
      rw [List.getElem?_set]
      split
      · rw [if_pos (by omega)]
      · exact h4 j (by omega)

theorem Free_ok {s : Sp} (hn : s.2.2.length ≤ 64) : Fbeltwayref04_Free s = some (frees s.2.2) := by
  unfold Fbeltwayref04_Free
  refine (loopO_up (fun k (st : List Int × Int) => st.2 = (k : Int) ∧ k ≤ s.2.2.length ∧ st.1 = (rangeI k).filter fun i => decide ((fr s.2.2 i).1 = -1)) (fun b => b = frees s.2.2) s.2.2.length ?_ ?_ ⟨rfl, by omega, rfl⟩).elim fun b h => by rw [h.1, h.2]
  · rintro k ⟨acc, i⟩ hk ⟨h1, _, h2⟩
    simp only at h1 h2 ⊢
    subst h1
    have hl : acc.length ≤ k := by
      have := List.length_filter_le (fun i => decide ((fr s.2.2 i).1 = -1)) (rangeI k)
      rw [rangeI_length] at this; rw [h2]; exact this
    have hfr : gl (0, 0, 0) s.2.2 (k : Int).toNat = fr s.2.2 k := rfl
    rw [if_pos (by omega), if_pos (by omega), hfr, w64_id (by omega) (by omega), rangeI_succ, List.filter_append]
    by_cases hf : (fr s.2.2 k).1 = -1
    · rw [if_pos hf, if_pos (by simp; omega)]
      exact .inl ⟨_, rfl, by simp only; omega, by omega, by simp [h2, hf]⟩
    · rw [if_neg hf]
      exact .inl ⟨_, rfl, by simp only; omega, by omega, by simp [h2, hf]⟩
  · rintro ⟨acc, i⟩ ⟨h1, _, h2⟩
    simp only at h1 h2 ⊢
    rw [if_neg (by omega)]
    exact ⟨_, rfl, h2⟩

theorem Lift_ok {s : Sp} (hn : s.2.2.length ≤ 64) {f : Int} {r : List Int} (hf : frees s.2.2 = f :: r) {o b : Int} (o0 : 0 ≤ o) (o1 : o ≤ 4294967295) (b0 : 0 ≤ b) (b1 : b < 4) :
    Fbeltwayref04_Lift s o b = some (f, s.2.1, s.2.2.set f.toNat (o, b * 4294967296 + o, -1)) := by
  obtain ⟨⟨h0, h1⟩, h2, h3⟩ := frees_cons hf
  unfold Fbeltwayref04_Lift
  refine loopO_to (fun k (i : Int) => i = f - k ∧ (k : Int) ≤ f) (n := f.toNat) ?_ ⟨by omega, by omega⟩
  rintro k i ⟨hi, hk⟩
  have hfr : gl (0, 0, 0) s.2.2 i.toNat = fr s.2.2 i := rfl
  rw [if_pos (by omega), if_pos (by omega), hfr]
  by_cases h0 : k = 0
  · left
    have : i = f := by omega
    subst this
    rw [if_pos h2, if_pos (by omega), w64_id (e := b * 4294967296) (by omega) (by omega), w64_id (by omega) (by omega)]
  · right
    rw [if_neg (h3 i (by omega) (by omega)), w64_id (by omega) (by omega)]
    exact ⟨k - 1, _, by omega, rfl, by omega, by omega⟩
theorem Lift_none {s : Sp} (hn : s.2.2.length ≤ 64) (hf : frees s.2.2 = []) (o b : Int) : Fbeltwayref04_Lift s o b = some (-1, s.2.1, s.2.2) := by
  unfold Fbeltwayref04_Lift
  refine loopO_to (fun k (i : Int) => i = (s.2.2.length : Int) - k ∧ k ≤ s.2.2.length) (n := s.2.2.length) ?_ ⟨by omega, by omega⟩
  rintro k i ⟨hi, hk⟩
  have hfr : gl (0, 0, 0) s.2.2 i.toNat = fr s.2.2 i := rfl
  by_cases h0 : k = 0
  · left
    rw [if_neg (by omega)]
  · right
    have hne : (fr s.2.2 i).1 ≠ -1 := by
      intro e
      have : i ∈ frees s.2.2 := mem_owned.2 ⟨⟨by omega, by omega⟩, e⟩
      rw [hf] at this; cases this
    rw [if_pos (by omega), if_pos (by omega), hfr, if_neg hne, w64_id (by omega) (by omega)]
    exact ⟨k - 1, _, by omega, rfl, by omega, by omega⟩

theorem Chain_ok {s : Sp} (hn : s.2.2.length ≤ 64) {i : Int} {l : List Int} (hp : Pa s.2.2 i l) : Fbeltwayref05_Chain s i = some l := by
  unfold Fbeltwayref05_Chain
  have hl := hp.length
  refine loopO_to (fun k (st : List Int × Int) => ∃ l2, l = st.1 ++ l2 ∧ Pa s.2.2 st.2 l2 ∧ l2.length = k) (n := l.length) ?_ ⟨l, rfl, hp, rfl⟩
  rintro k ⟨acc, f⟩ ⟨l2, h1, h2, h3⟩
  simp only at h1 h2 ⊢
  cases l2 with
  | nil =>
    left
    rw [Pa] at h2
    rw [if_neg (by simp [h2]), h1, List.append_nil]
  | cons a r =>
    right
    obtain ⟨rfl, g0, g1, g2⟩ := h2
    have := congrArg List.length h1
    simp at this h3
    have hfr : (gl (0, 0, 0) s.2.2 f.toNat).2.2 = nx s.2.2 f := (nx_in g0 g1).symm
    rw [if_pos (by omega), if_pos (by simp; omega), if_pos ⟨g0, g1⟩, hfr]
    exact ⟨k - 1, _, by omega, rfl, r, by simp [h1], g2, by omega⟩

/-- A quotient rounded up. -/
def cl (z n : Int) : Int := (n + z - 1) / z
theorem Ceil_ok {n s : Int} (hs : 3 ≤ s ∧ s ≤ 8) (h0 : 0 ≤ n) (h1 : n ≤ 1000000) : Fbeltwayref01_Ceil n s = some (cl (sz s) n) := by
  obtain ⟨z1, z2⟩ := sz_le hs
  unfold Fbeltwayref01_Ceil
  rw [if_neg (by omega), if_neg (by omega), if_neg (by omega), if_neg (by omega), if_pos trivial, if_pos trivial, pow_sz hs, Int.one_mul, w64_id (e := sz s) (by omega) (by omega), w64_id (e := n + sz s) (by omega) (by omega), w64_id (by omega) (by omega)]
  rfl
theorem cl_le {z n m : Int} (hz : 0 < z) (h : n ≤ m) : cl z n ≤ cl z m := Int.ediv_le_ediv hz (by omega)
theorem cl_zero {z : Int} (hz : 0 < z) : cl z 0 = 0 := Int.ediv_eq_zero_of_lt (by omega) (by omega)
theorem cl_spec {z n : Int} (hz : 0 < z) : n ≤ cl z n * z ∧ cl z n * z < n + z := by
  have h1 := Int.mul_ediv_add_emod (n + z - 1) z
  have h2 := Int.emod_nonneg (n + z - 1) (show z ≠ 0 by omega)
  have h3 := Int.emod_lt_of_pos (n + z - 1) hz
  unfold cl
  rw [Int.mul_comm] at h1
  omega
theorem cl_pos {z n : Int} (hz : 0 < z) (h : 0 < n) : 0 < cl z n := by
  obtain ⟨h1, h2⟩ := cl_spec (n := n) hz
  apply Classical.byContradiction
  intro hc
  have : cl z n * z ≤ 0 * z := Int.mul_le_mul_of_nonneg_right (by omega) (by omega)
  omega
theorem cl_nonneg {z n : Int} (hz : 0 < z) (h : 0 ≤ n) : 0 ≤ cl z n := Int.ediv_nonneg (by omega) (by omega)

/-- An increment that fits a space. -/
def FitS (s : Sp) (i : Inc) : Prop :=
  (0 ≤ i.1 ∧ i.1 ≤ 4294967295 ∧ 0 ≤ i.2.1 ∧ i.2.1 < 4 ∧ 0 ≤ i.2.2.2.2 ∧ i.2.2.2.2 ≤ s.2.1.length) ∧
  ((i.2.2.2.2 = 0 ∧ i.2.2.1 = -1 ∧ i.2.2.2.1 = -1) ∨
   (i.2.2.2.2 ≠ 0 ∧ (0 ≤ i.2.2.1 ∧ i.2.2.1 < s.2.2.length) ∧ (fr s.2.2 i.2.2.1).1 = i.1 ∧ (fr s.2.2 i.2.2.1).2.1 = i.2.1 * 4294967296 + i.1 ∧
    ∃ l, Pa s.2.2 i.2.2.1 l ∧ (l.length : Int) = cl (sz s.1) i.2.2.2.2 ∧ l.length = (owned s.2.2 i.1).length ∧ l.getLast? = some i.2.2.2.1))
theorem Frames_ok {s : Sp} (h : VS s) {i : Inc} (h0 : 0 ≤ i.2.2.2.2) (h1 : i.2.2.2.2 ≤ 1000000) : Fbeltwayref09_Frames s i = some (cl (sz s.1) i.2.2.2.2) := by
  unfold Fbeltwayref09_Frames
  rw [Ceil_ok h.sh h0 h1]; rfl
theorem gl_last {l : List Int} (h : 0 < l.length) : some (gl 0 l (l.length - 1)) = l.getLast? := by
  rw [List.getLast?_eq_getElem?, gl_get? (d := 0) (by omega)]
theorem Fits_ok {s : Sp} (h : VS s) (i : Inc) : ∃ b, Fbeltwayref09_Fits s i = some b ∧ (b = true ↔ FitS s i) := by
  have hwl := VS.wlen h
  have hn := h.n.2
  unfold Fbeltwayref09_Fits
  by_cases c1 : i.1 < 0
  · rw [if_pos c1]; exact ⟨_, rfl, no_iff fun h => by have := h.1.1; omega⟩
  rw [if_neg c1]
  by_cases c2 : i.1 > 4294967295
  · rw [if_pos c2]; exact ⟨_, rfl, no_iff fun h => by have := h.1.2.1; omega⟩
  rw [if_neg c2]
  by_cases c3 : i.2.1 < 0
  · rw [if_pos c3]; exact ⟨_, rfl, no_iff fun h => by have := h.1.2.2.1; omega⟩
  rw [if_neg c3]
  by_cases c4 : i.2.1 ≥ 4
  · rw [if_pos c4]; exact ⟨_, rfl, no_iff fun h => by have := h.1.2.2.2.1; omega⟩
  rw [if_neg c4]
  by_cases c5 : i.2.2.2.2 < 0
  · rw [if_pos c5]; exact ⟨_, rfl, no_iff fun h => by have := h.1.2.2.2.2.1; omega⟩
  rw [if_neg c5]
  by_cases c6 : i.2.2.2.2 > s.2.1.length
  · rw [if_pos c6]; exact ⟨_, rfl, no_iff fun h => by have := h.1.2.2.2.2.2; omega⟩
  rw [if_neg c6]
  have hr : 0 ≤ i.1 ∧ i.1 ≤ 4294967295 ∧ 0 ≤ i.2.1 ∧ i.2.1 < 4 ∧ 0 ≤ i.2.2.2.2 ∧ i.2.2.2.2 ≤ s.2.1.length := ⟨by omega, by omega, by omega, by omega, by omega, by omega⟩
  by_cases c7 : i.2.2.2.2 = 0
  · rw [if_pos c7]
    by_cases c8 : i.2.2.1 = -1
    · rw [if_pos c8]
      refine ⟨_, rfl, ?_⟩
      rw [decide_eq_true_iff]
      exact ⟨fun hh => ⟨hr, .inl ⟨c7, c8, hh⟩⟩, fun hh => by rcases hh.2 with h1 | h1; exact h1.2.2; exact absurd c7 h1.1⟩
    · rw [if_neg c8]
      exact ⟨_, rfl, no_iff fun hh => by rcases hh.2 with h1 | h1; exact c8 h1.2.1; exact h1.1 c7⟩
  rw [if_neg c7]
  have only : FitS s i → (0 ≤ i.2.2.1 ∧ i.2.2.1 < s.2.2.length) ∧ (fr s.2.2 i.2.2.1).1 = i.1 ∧ (fr s.2.2 i.2.2.1).2.1 = i.2.1 * 4294967296 + i.1 ∧
      ∃ l, Pa s.2.2 i.2.2.1 l ∧ (l.length : Int) = cl (sz s.1) i.2.2.2.2 ∧ l.length = (owned s.2.2 i.1).length ∧ l.getLast? = some i.2.2.2.1 := fun hh => by
    rcases hh.2 with h1 | h1
    · exact absurd h1.1 c7
    · exact h1.2
  by_cases c8 : i.2.2.1 < 0
  · rw [if_pos c8]; exact ⟨_, rfl, no_iff fun hh => by have := (only hh).1.1; omega⟩
  rw [if_neg c8]
  by_cases c9 : i.2.2.1 ≥ s.2.2.length
  · rw [if_pos c9]; exact ⟨_, rfl, no_iff fun hh => by have := (only hh).1.2; omega⟩
  have hfr : gl (0, 0, 0) s.2.2 i.2.2.1.toNat = fr s.2.2 i.2.2.1 := rfl
  rw [if_neg c9, if_pos (by omega), hfr, w64_id (e := i.2.1 * 4294967296) (by omega) (by omega), w64_id (e := i.2.1 * 4294967296 + i.1) (by omega) (by omega)]
  by_cases d1 : (fr s.2.2 i.2.2.1).1 = i.1
  rotate_left
  · rw [if_pos d1]; exact ⟨_, rfl, no_iff fun hh => d1 (only hh).2.1⟩
  rw [if_neg (by simp [d1])]
  by_cases d2 : (fr s.2.2 i.2.2.1).2.1 = i.2.1 * 4294967296 + i.1
  rotate_left
  · rw [if_pos d2]; exact ⟨_, rfl, no_iff fun hh => d2 (only hh).2.2.1⟩
  rw [if_neg (by simp [d2])]
  obtain ⟨l, hl⟩ := h.acy i.2.2.1 (by omega) (by omega)
  have hll := hl.length
  rw [Chain_ok hn hl, Frames_ok h (by omega) (by omega)]
  simp only [Option.bind_some]
  refine loopO_up (fun k (st : Int × Int) => st.2 = (k : Int) ∧ k ≤ s.2.2.length ∧ 0 ≤ st.1 ∧ st.1 ≤ k ∧ st.1 = (((rangeI k).filter fun j => decide ((fr s.2.2 j).1 = i.1)).length : Nat)) _ s.2.2.length ?_ ?_ ⟨rfl, by omega, by simp, by simp, rfl⟩
  · rintro k ⟨c, j⟩ hk ⟨h1, _, h2, h3, h4⟩
    simp only at h1 h2 h3 h4 ⊢
    subst h1
    have hfk : gl (0, 0, 0) s.2.2 (k : Int).toNat = fr s.2.2 k := rfl
    rw [if_pos (by omega), if_pos (by omega), hfk, w64_id (e := (k : Int) + 1) (by omega) (by omega), w64_id (e := c + 1) (by omega) (by omega), rangeI_succ, List.filter_append]
    by_cases hf : (fr s.2.2 k).1 = i.1
    · rw [if_pos hf]
      exact .inl ⟨_, rfl, by simp only; omega, by omega, by simp only; omega, by simp only; omega, by simp [h4, hf]⟩
    · rw [if_neg hf]
      exact .inl ⟨_, rfl, by simp only; omega, by omega, by simp only; omega, by simp only; omega, by simp [h4, hf]⟩
  · rintro ⟨c, j⟩ ⟨h1, _, h2, h3, h4⟩
    simp only at h1 h2 h3 h4 ⊢
    have h5 : c = ((owned s.2.2 i.1).length : Int) := h4
    rw [if_neg (by omega)]
    refine map_inr ?_
    by_cases e1 : (l.length : Int) = cl (sz s.1) i.2.2.2.2
    rotate_left
    · rw [if_neg e1]
      exact ⟨_, rfl, no_iff fun hh => by obtain ⟨l', p1, p2, _⟩ := (only hh).2.2.2; rw [hl.fn p1] at e1; exact e1 p2⟩
    rw [if_pos e1]
    by_cases e2 : (l.length : Int) = c
    rotate_left
    · rw [if_neg e2]
      exact ⟨_, rfl, no_iff fun hh => by obtain ⟨l', p1, _, p2, _⟩ := (only hh).2.2.2; rw [hl.fn p1] at e2; exact e2 (by omega)⟩
    have hp := cl_pos (sz_pos' s.1) (show 0 < i.2.2.2.2 by omega)
    rw [if_pos e2, w64_id (by omega) (by omega), if_pos (by omega)]
    refine ⟨_, rfl, ?_⟩
    rw [decide_eq_true_iff, show ((l.length : Int) - 1).toNat = l.length - 1 from by omega]
    have hg := gl_last (l := l) (by omega)
    constructor
    · intro he
      exact ⟨hr, .inr ⟨c7, by omega, d1, d2, l, hl, e1, by omega, by rw [← hg, he]⟩⟩
    · intro hh
      obtain ⟨l', p1, _, _, p2⟩ := (only hh).2.2.2
      rw [← hl.fn p1, ← hg] at p2
      simpa using p2
theorem rIncValid_ok (s : Sp) (i : Inc) : ∃ b, Fbeltwayref09_Valid s i = some b ∧ (b = true ↔ VS s ∧ FitS s i) := by
  unfold Fbeltwayref09_Valid
  obtain ⟨b, h1, h2⟩ := rValid_ok s
  rw [h1]
  simp only [Option.bind_some]
  by_cases hb : b = true
  · rw [if_pos hb]
    obtain ⟨c, h3, h4⟩ := Fits_ok (h2.1 hb) i
    rw [h3]
    exact ⟨c, rfl, h4.trans ⟨fun h => ⟨h2.1 hb, h⟩, fun h => h.2⟩⟩
  · rw [if_neg hb]
    exact ⟨_, rfl, no_iff fun h => hb (h2.2 h.1)⟩
theorem Owns_ok {s : Sp} (hn : s.2.2.length ≤ 64) (q : Int) : ∃ b, Fbeltwayref09_Owns s q = some b ∧ (b = true ↔ owned s.2.2 q ≠ []) := by
  unfold Fbeltwayref09_Owns
  refine loopO_up (fun k (i : Int) => i = (k : Int) ∧ k ≤ s.2.2.length ∧ ∀ j : Int, 0 ≤ j → j < k → (fr s.2.2 j).1 ≠ q) _ s.2.2.length ?_ ?_ ⟨rfl, by omega, fun j h0 h1 => by omega⟩
  · rintro k i hk ⟨rfl, _, hj⟩
    have hfk : gl (0, 0, 0) s.2.2 (k : Int).toNat = fr s.2.2 k := rfl
    rw [if_pos (by omega), if_pos (by omega), hfk, w64_id (by omega) (by omega)]
    by_cases hf : (fr s.2.2 k).1 = q
    · rw [if_pos hf]
      refine .inr ⟨_, rfl, iff_of_true rfl fun he => ?_⟩
      have : (k : Int) ∈ owned s.2.2 q := mem_owned.2 ⟨⟨by omega, by omega⟩, hf⟩
      rw [he] at this; cases this
    · rw [if_neg hf]
      refine .inl ⟨_, rfl, by omega, by omega, fun j j0 j1 => ?_⟩
      by_cases hjk : j = k
      · rw [hjk]; exact hf
      · exact hj j j0 (by omega)
  · rintro i ⟨rfl, _, hj⟩
    rw [if_neg (by omega)]
    refine ⟨_, rfl, no_iff fun he => ?_⟩
    obtain ⟨x, hx⟩ := List.exists_mem_of_ne_nil _ he
    obtain ⟨⟨x0, x1⟩, x2⟩ := mem_owned.1 hx
    exact hj x x0 x1 x2

theorem frame_of {s : Sp} (h : VS s) {a : Int} (h0 : 0 ≤ a) (h1 : a < s.2.1.length) : 0 ≤ a / sz s.1 ∧ a / sz s.1 < s.2.2.length :=
  ⟨Int.ediv_nonneg h0 (by have := sz_pos' s.1; omega), (Int.ediv_lt_iff_lt_mul (sz_pos' s.1)).2 (by rw [← h.w]; exact h1)⟩
theorem and_sz {s a : Int} (hs : 3 ≤ s ∧ s ≤ 8) (h0 : 0 ≤ a) (h1 : a ≤ 9223372036854775807) : iBits .and a (sz s - 1) = a % sz s := iBits_mask s.toNat (by omega) h0 h1

/-- What comes of a place: its address, or an error. -/
def adlR : Option Int → Int × Int
  | some a => (a, 0)
  | none => (0, 2)
theorem Go_ok {s : Sp} (h : VS s) {a k : Int} (h0 : 0 ≤ a) (h1 : a < s.2.1.length) (hu : (fr s.2.2 (a / sz s.1)).1 ≠ -1) (k0 : 0 ≤ k) (k1 : k ≤ 9223372036854775807) {l : List Int} (hl : Pa s.2.2 (a / sz s.1) l) :
    Fbeltwayref05_Go s a k = some (adlR (adl (sz s.1) l (a % sz s.1 + k))) := by
  have hwl := VS.wlen h
  have hn := h.n.2
  obtain ⟨z1, z2⟩ := sz_le h.sh
  obtain ⟨f0, f1⟩ := frame_of h h0 h1
  have m0 := Int.emod_nonneg a (show sz s.1 ≠ 0 by omega)
  have m1 := Int.emod_lt_of_pos a (show 0 < sz s.1 by omega)
  have hfr : gl (0, 0, 0) s.2.2 (a / sz s.1).toNat = fr s.2.2 (a / sz s.1) := rfl
  unfold Fbeltwayref05_Go
  rw [if_neg (by omega), if_neg (by omega), if_neg (by omega), if_pos trivial, if_pos trivial, pow_sz h.sh, if_pos ⟨f0, f1⟩, hfr, if_neg hu, Int.one_mul, w64_id (e := sz s.1) (by omega) (by omega), w64_id (e := sz s.1 - 1) (by omega) (by omega), and_sz h.sh h0 (by omega)]
  refine loopO_to (fun m (st : Int × Int × Int) => (0 ≤ st.1 ∧ st.1 ≤ k) ∧ 0 ≤ st.2.2 ∧ st.2.2 < sz s.1 ∧ ∃ l2, l2.length = m ∧ l2 ≠ [] ∧ Pa s.2.2 st.2.1 l2 ∧ adl (sz s.1) l2 (st.2.2 + st.1) = adl (sz s.1) l (a % sz s.1 + k)) (n := l.length) ?_ ⟨⟨k0, Int.le_refl _⟩, m0, m1, l, rfl, ?_, hl, rfl⟩
  · rintro m ⟨k', f, at'⟩ ⟨⟨g0, g7⟩, g1, g2, l2, g3, g6, g4, g5⟩
    simp only at g0 g7 g1 g2 g4 g5 ⊢
    rw [w64_id (e := sz s.1 - at') (by omega) (by omega), if_true]
    cases l2 with
    | nil => exact absurd rfl g6
    | cons b r =>
      obtain ⟨rfl, i0, i1, i2⟩ := g4
      have hnx : (gl (0, 0, 0) s.2.2 f.toNat).2.2 = nx s.2.2 f := (nx_in i0 i1).symm
      have fm := mul_sz_le h.sh i0 (show f ≤ 64 by omega)
      rw [adl] at g5
      by_cases hk : k' ≥ sz s.1 - at'
      · rw [if_pos hk, if_pos trivial, if_pos ⟨i0, i1⟩, hnx, w64_id (by omega) (by omega)]
        rw [if_neg (by omega)] at g5
        by_cases hx : nx s.2.2 f = -1
        · rw [if_pos hx]
          left
          rw [hx] at i2
          have : r = [] := i2.fn (show Pa s.2.2 (-1) [] from rfl)
          subst this
          rw [← g5]
          rfl
        · rw [if_neg hx]
          right
          refine ⟨m - 1, _, by simp at g3; omega, rfl, ⟨by simp only; omega, by simp only; omega⟩, by simp only; omega, by simp only; omega, r, by simp at g3; omega, ?_, i2, ?_⟩
          · rintro rfl; rw [Pa] at i2; exact hx i2
          · simp only; rw [← g5]; congr 1; omega
      · rw [if_neg hk, if_pos trivial, w64_id (e := f * sz s.1) (by omega) (by omega), w64_id (e := f * sz s.1 + at') (by omega) (by omega), w64_id (by omega) (by omega)]
        rw [if_pos (by omega)] at g5
        left
        rw [← g5]
        show some _ = some _
        congr 2
        show _ = (_, _)
        congr 1; omega
  · rintro rfl; rw [Pa] at hl; omega
theorem Go_free {s : Sp} (h : VS s) {a k : Int} (h0 : 0 ≤ a) (h1 : a < s.2.1.length) (hu : (fr s.2.2 (a / sz s.1)).1 = -1) (k0 : 0 ≤ k) : Fbeltwayref05_Go s a k = some (0, 5) := by
  obtain ⟨f0, f1⟩ := frame_of h h0 h1
  have hfr : gl (0, 0, 0) s.2.2 (a / sz s.1).toNat = fr s.2.2 (a / sz s.1) := rfl
  unfold Fbeltwayref05_Go
  rw [if_neg (by omega), if_neg (by omega), if_neg (by omega), if_pos trivial, if_pos trivial, pow_sz h.sh, if_pos ⟨f0, f1⟩, hfr, if_pos hu]
theorem Go_out (s : Sp) {a k : Int} (h : a < 0 ∨ a ≥ s.2.1.length ∨ k < 0) : Fbeltwayref05_Go s a k = some (0, 2) := by
  unfold Fbeltwayref05_Go
  by_cases h1 : a < 0
  · rw [if_pos h1]
  rw [if_neg h1]
  by_cases h2 : a ≥ s.2.1.length
  · rw [if_pos h2]
  rw [if_neg h2, if_pos (by omega)]
end Go.Proofs.YtokeceeccmgcmaaDoor
