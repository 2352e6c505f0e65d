/-
  What laws over spaces share: spoilt spaces, lists of spaces.
-/
import Derived.Test.YtjdlaikcdebofaaSpF
set_option linter.unusedVariables false
namespace Go.Proofs.Ytjdlaikcdebofaa
open Go Go.V3

/-- A loop over places of a list in which nothing is amiss. -/
theorem loopO_run {β : Type} {f : Int → Option (Int ⊕ β)} (n : Nat) (hs : ∀ k : Nat, k < n → f k = some (.inl ((k : Int) + 1))) {r : β} (he : f n = some (.inr r)) : loopO f 0 = some r := by
  refine loopO_to (fun m i => i = (n : Int) - m ∧ m ≤ n) (n := n) ?_ ⟨by omega, by omega⟩
  rintro m i ⟨rfl, hm⟩
  by_cases h0 : m = 0
  · subst h0
    left; simpa using he
  · right
    refine ⟨m - 1, (n : Int) - m + 1, by omega, ?_, ?_, by omega⟩
    · have := hs (n - m) (by omega)
      rw [show ((n - m : Nat) : Int) = (n : Int) - m from by omega] at this
      exact this
    · omega
theorem gl_mem {α : Type} {d : α} {xs : List α} {k : Nat} (h : k < xs.length) : gl d xs k ∈ xs := by
  rw [gl_lt h]; exact List.getElem_mem h

/-- Stamps of moderate size. -/
def StB (s : Sp) (b : Int) : Prop := ∀ i : Int, 0 ≤ i → i < s.2.2.length → -b ≤ (fr s.2.2 i).2.1 ∧ (fr s.2.2 i).2.1 ≤ b
theorem StB.stI {s : Sp} {b : Int} (h : StB s b) (hb : b ≤ 9223372036854775807) : StI s := fun i h0 h1 => by have := (h i h0 h1).2; omega
theorem VS.stB {s : Sp} (h : VS s) : StB s 17179869184 := by
  intro i h0 h1
  rcases h.fr i h0 h1 with ⟨hf, _⟩ | hu
  · rw [show fr s.2.2 i = _ from hf]; decide
  · obtain ⟨_, _, b, _, _, hb⟩ := hu.1; have := hu.1.1; have := hu.1.2.1; omega
theorem StB.set {s : Sp} {b : Int} (h : StB s b) {j : Int} (j0 : 0 ≤ j) (j1 : j < s.2.2.length) {x : Fr} {b' : Int} (hb : b ≤ b') (hx : -b' ≤ x.2.1 ∧ x.2.1 ≤ b') {ws : List (BitVec 64)} {k : Int} : StB (k, ws, s.2.2.set j.toNat x) b' := by
  intro i i0 i1
  simp only [List.length_set] at i1
  simp only
  rw [fr_set j0 j1 i0]
  split
  · exact hx
  · have := h i i0 i1; omega

theorem Spoilt_ok {s : Sp} {b : Int} (hb0 : 0 ≤ b) (hb : b ≤ 1152921504606846976) (h : StB s b) (n0 : 1 ≤ s.2.2.length) (n1 : s.2.2.length ≤ 1000) (w0 : 1 ≤ s.2.1.length) (w1 : s.2.1.length ≤ 100000) (hsh : -1000 ≤ s.1 ∧ s.1 ≤ 1000) (what at' by' : Int) :
    ∃ u, Fbeltwaymake_Spoilt s what at' by' = some u ∧ StB u (b + 17179869184) ∧ u.2.2.length = s.2.2.length ∧ s.2.1.length ≤ u.2.1.length ∧ u.2.1.length ≤ s.2.1.length + 1 ∧ (s.1 - 1 ≤ u.1 ∧ u.1 ≤ s.1 + 1) := by
  unfold Fbeltwaymake_Spoilt
  rw [Copy_ok (by omega) (by omega)]
  simp only [Option.bind_some]
  obtain ⟨f, e1, f0, f1, _⟩ := Mod_ok at' (m := s.2.2.length) (by omega) (by omega)
  rw [e1]
  simp only [Option.bind_some]
  obtain ⟨c, e2, c0, c1, _⟩ := Mod_ok what (m := 8) (by omega) (by omega)
  rw [e2]
  simp only [Option.bind_some]
  have hfr : gl ((0, 0, 0) : Int × Int × Int) s.2.2 f.toNat = fr s.2.2 f := rfl
  have hf := h f f0 f1
  have same : StB s (b + 17179869184) := fun i i0 i1 => by have := h i i0 i1; omega
  by_cases h0 : c = 0
  · rw [if_pos h0]
    obtain ⟨x, e3, x0, x1, _⟩ := Mod_ok by' (m := 6) (by omega) (by omega)
    rw [e3]
    simp only [Option.bind_some]
    rw [if_pos ⟨f0, f1⟩, hfr]
    exact ⟨_, rfl, h.set f0 f1 (by omega) (by simp only; omega), by simp, by simp, by simp, by simp only; omega⟩
  rw [if_neg h0]
  by_cases h1 : c = 1
  · rw [if_pos h1, if_pos ⟨f0, f1⟩]
    obtain ⟨x, e3, x0, x1, _⟩ := Mod_ok by' (m := 4) (by omega) (by omega)
    rw [e3]
    simp only [Option.bind_some]
    rw [if_pos ⟨x0, by simpa using x1⟩, if_pos ⟨f0, f1⟩, hfr]
    have hx : -1 ≤ gl (0 : Int) [1, (-1), 4294967296, 17179869184] x.toNat ∧ gl (0 : Int) [1, (-1), 4294967296, 17179869184] x.toNat ≤ 17179869184 := by
      have : x = 0 ∨ x = 1 ∨ x = 2 ∨ x = 3 := by omega
      rcases this with rfl | rfl | rfl | rfl <;> simp [gl]
    rw [w64_id (by omega) (by omega)]
    exact ⟨_, rfl, h.set f0 f1 (by omega) (by simp only; omega), by simp, by simp, by simp, by simp only; omega⟩
  rw [if_neg h1]
  by_cases h2 : c = 2
  · rw [if_pos h2, w64_id (e := (s.2.2.length : Int) + 2) (by omega) (by omega)]
    obtain ⟨x, e3, x0, x1, _⟩ := Mod_ok by' (m := (s.2.2.length : Int) + 2) (by omega) (by omega)
    rw [e3]
    simp only [Option.bind_some]
    rw [if_pos ⟨f0, f1⟩, hfr]
    exact ⟨_, rfl, h.set f0 f1 (by omega) (by simp only; omega), by simp, by simp, by simp, by simp only; omega⟩
  rw [if_neg h2]
  by_cases h3 : c = 3
  · rw [if_pos h3]
    obtain ⟨x, e3, x0, x1, _⟩ := Mod_ok at' (m := s.2.1.length) (by omega) (by omega)
    rw [e3]
    simp only [Option.bind_some]
    rw [if_pos ⟨x0, x1⟩]
    exact ⟨_, rfl, same, by simp, by simp, by simp, by simp only; omega⟩
  rw [if_neg h3]
  by_cases h4 : c = 4
  · rw [if_pos h4, if_pos (by simp; omega)]
    exact ⟨_, rfl, same, by simp, by simp, by simp, by simp only; omega⟩
  rw [if_neg h4]
  by_cases h5 : c = 5
  · rw [if_pos h5]
    obtain ⟨x, e3, x0, x1, _⟩ := Mod_ok by' (m := 3) (by omega) (by omega)
    rw [e3]
    simp only [Option.bind_some]
    rw [w64_id (e := x - 1) (by omega) (by omega), w64_id (by omega) (by omega)]
    exact ⟨_, rfl, same, by simp, by simp, by simp, by simp only; omega⟩
  rw [if_neg h5]
  by_cases h6 : c = 6
  · rw [if_pos h6, if_pos ⟨f0, f1⟩]
    exact ⟨_, rfl, h.set f0 f1 (by omega) (by simp only; omega), by simp, by simp, by simp, by simp only; omega⟩
  rw [if_neg h6]
  exact ⟨_, rfl, same, rfl, by simp, by simp, by omega⟩

theorem VS.spoilt {s : Sp} (h : VS s) (what at' by' : Int) : ∃ u, Fbeltwaymake_Spoilt s what at' by' = some u ∧ StB u 34359738368 ∧ u.2.2.length = s.2.2.length ∧ s.2.1.length ≤ u.2.1.length ∧ u.2.1.length ≤ 16385 ∧ (2 ≤ u.1 ∧ u.1 ≤ 9) := by
  have hn := h.n
  have hw := h.w
  have hwl := VS.wlen h
  have z := sz_le h.sh
  have hm : (s.2.2.length : Int) * 8 ≤ s.2.2.length * sz s.1 := Int.mul_le_mul_of_nonneg_left (by omega) (by omega)
  have hsh := h.sh
  obtain ⟨u, h1, h2, h3, h4, h5, h6⟩ := Spoilt_ok (by omega) (by omega) (VS.stB h) (by omega) (by omega) (by omega) (by omega) ⟨by omega, by omega⟩ what at' by'
  exact ⟨u, h1, h2, h3, h4, by omega, by omega⟩

theorem Small_ok (s : Sp) : Fbeltwaymake_Small s = some (decide (s.2.1.length ≤ 3000 ∧ s.2.2.length ≤ 80)) := by
  unfold Fbeltwaymake_Small
  by_cases h : (s.2.1.length : Int) ≤ 3000
  · rw [if_pos h]; congr 1; rw [Bool.eq_iff_iff, decide_eq_true_iff, decide_eq_true_iff]; omega
  · rw [if_neg h]; congr 1; rw [Bool.eq_iff_iff, decide_eq_true_iff]; simp; omega
theorem New0_ok (l : List Int) (h : l.length ≤ maxLen) : ∃ d, Fbeltwaymake_New l = some d ∧ DkOk d := by
  unfold Fbeltwaymake_New
  exact ⟨_, rfl, by simp, by unfold maxLen at h; simp only; omega⟩
/-- A law argument that is a space. -/
abbrev spT : Ty := .pair (.int .i64) (.pair (.slice .u64) (.slice frT))
theorem i64_wf {x : Int} (h : Wf (.int .i64) x) : I64 x := i64_of_wf h
theorem raw_stI {s : Sp} (h : Wf spT s) : StI s := by
  intro i h0 h1
  have := h.2.2.2 (fr s.2.2 i) (by unfold fr; exact gl_mem (by omega))
  exact (i64_wf this.2.1).2

theorem subl_rest {α : Type} (xs : List α) (k : Nat) : subl xs k (xs.length - k) = xs.drop k := by
  unfold subl
  rw [List.take_of_length_le (by simp)]
end Go.Proofs.Ytjdlaikcdebofaa
