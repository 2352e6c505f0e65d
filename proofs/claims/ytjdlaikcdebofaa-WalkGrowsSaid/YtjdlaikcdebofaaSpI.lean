/-
  Plain laws that the seats share: valid spaces, copies, equal spaces and lists.
-/
import Derived.Test.YtjdlaikcdebofaaSpG
import Derived.Test.YtjdlaikcdebofaaSeatW
set_option linter.unusedVariables false
namespace Go.Proofs.Ytjdlaikcdebofaa
open Go Go.V3

theorem fSize_ok {s : Sp} (h : 3 ≤ s.1 ∧ s.1 ≤ 8) : Fframe_Size s = some (sz s.1) := by
  obtain ⟨z1, z2⟩ := sz_le h
  unfold Fframe_Size
  rw [fshift_ok]
  simp only [Option.bind_some]
  rw [if_neg (by simp [h]), if_pos trivial, pow_sz h, Int.one_mul, w64_id (by omega) (by omega)]
theorem VS.fvalid {s : Sp} (h : VS s) : Fframe_Valid s = some true := by
  obtain ⟨b, h1, h2⟩ := fValid_ok s h.stI
  rw [h1, h2.2 h]
theorem bad_valid {s : Sp} (h : ¬ VS s) (hI : StI s) : Fframe_Valid s = some false ∧ Fbeltwayref03_Valid s = some false := by
  obtain ⟨b, h1, h2⟩ := fValid_ok s hI
  obtain ⟨c, h3, h4⟩ := rValid_ok s
  have hb : b = false := by cases b with | false => rfl | true => exact absurd (h2.1 rfl) h
  have hc : c = false := by cases c with | false => rfl | true => exact absurd (h4.1 rfl) h
  rw [h1, h3, hb, hc]; exact ⟨rfl, rfl⟩
theorem SameInts_ok (a b : List Int) (ha : (a.length : Int) ≤ 1000000) : ∃ c, Fbeltwayref18_SameInts a b = some c ∧ (c = true ↔ a = b) := by
  unfold Fbeltwayref18_SameInts
  by_cases hl : (a.length : Int) = b.length
  rotate_left
  · rw [if_pos hl]; exact ⟨_, rfl, no_iff fun h => hl (by rw [h])⟩
  rw [if_neg (by simp [hl])]
  refine loopO_up (fun k (i : Int) => i = (k : Int) ∧ k ≤ a.length ∧ ∀ j, j < k → gl 0 a j = gl 0 b j) _ a.length ?_ ?_ ⟨rfl, by omega, fun j h => by omega⟩
  · rintro k i hk ⟨rfl, _, hj⟩
    rw [if_pos (by omega), if_pos (by omega), if_pos (by omega), w64_id (by omega) (by omega), show (k : Int).toNat = k from rfl]
    by_cases h : gl 0 a k = gl 0 b k
    · rw [if_neg (by simp [h])]
      refine .inl ⟨_, rfl, by omega, by omega, fun j hj1 => ?_⟩
      by_cases hjk : j = k
      · rw [hjk]; exact h
      · exact hj j (by omega)
    · rw [if_pos h]
      exact .inr ⟨_, rfl, no_iff fun he => h (by rw [he])⟩
  · rintro i ⟨rfl, _, hj⟩
    rw [if_neg (by omega)]
    refine ⟨_, rfl, iff_of_true rfl (List.ext_getElem (by omega) fun j h1 h2 => ?_)⟩
    have := hj j h1
    rw [gl_lt h1, gl_lt h2] at this
    exact this

theorem SameInts_refl (a : List Int) (ha : a.length ≤ 1000000) : Fbeltwayref18_SameInts a a = some true := by
  obtain ⟨c, h1, h2⟩ := SameInts_ok a a (by omega)
  rw [h1, h2.2 rfl]

end Go.Proofs.Ytjdlaikcdebofaa
