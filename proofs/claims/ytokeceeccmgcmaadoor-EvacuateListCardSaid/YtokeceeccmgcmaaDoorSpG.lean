/-
  What laws over spaces share: spoilt spaces, lists of spaces.
-/
import Derived.Test.YtokeceeccmgcmaaDoorSpF
set_option linter.unusedVariables false
namespace Go.Proofs.YtokeceeccmgcmaaDoor
open Go Go.V3

/-- A loop over places of a list in which nothing is amiss. -/
theorem loopO_run {β : Type} {f : Int → Option (Int ⊕ β)} (n : Nat) (hs : ∀ k : Nat, k < n → f k = some (.inl ((k : Int) + 1))) {r : β} (he : f n = some (.inr r)) : loopO f 0 = some r := by
  refine loopO_to (fun m i => i = (n : Int) - m ∧ m ≤ n) (n := n) ?_ ⟨by omega, by omega⟩
  rintro m i ⟨rfl, hm⟩
  by_cases h0 : m = 0
  · subst h0
    left; simpa using he
  · right
    refine ⟨m - 1, (n : Int) - m + 1, by omega, ?_, ?_, by omega⟩
    · have := hs (n - m) (by omega)
      rw [show ((n - m : Nat) : Int) = (n : Int) - m from by omega] at this
      exact this
    · omega
theorem gl_mem {α : Type} {d : α} {xs : List α} {k : Nat} (h : k < xs.length) : gl d xs k ∈ xs := by
  rw [gl_lt h]; exact List.getElem_mem h

/-- Stamps of moderate size. -/
def StB (s : Sp) (b : Int) : Prop := ∀ i : Int, 0 ≤ i → i < s.2.2.length → -b ≤ (fr s.2.2 i).2.1 ∧ (fr s.2.2 i).2.1 ≤ b
theorem StB.stI {s : Sp} {b : Int} (h : StB s b) (hb : b ≤ 9223372036854775807) : StI s := fun i h0 h1 => by have := (h i h0 h1).2; omega
theorem VS.stB {s : Sp} (h : VS s) : StB s 17179869184 := by
  intro i h0 h1
  rcases h.fr i h0 h1 with ⟨hf, _⟩ | hu
  · rw [show fr s.2.2 i = _ from hf]; decide
  · obtain ⟨_, _, b, _, _, hb⟩ := hu.1; have := hu.1.1; have := hu.1.2.1; omega
theorem StB.set {s : Sp} {b : Int} (h : StB s b) {j : Int} (j0 : 0 ≤ j) (j1 : j < s.2.2.length) {x : Fr} {b' : Int} (hb : b ≤ b') (hx : -b' ≤ x.2.1 ∧ x.2.1 ≤ b') {ws : List (BitVec 64)} {k : Int} : StB (k, ws, s.2.2.set j.toNat x) b' := by
  intro i i0 i1
  simp only [List.length_set] at i1
  simp only
  rw [fr_set j0 j1 i0]
  split
  · exact hx
  · have := h i i0 i1; omega

/-- A law argument that is a space. -/
abbrev spT : Ty := .pair (.int .i64) (.pair (.slice .u64) (.slice frT))
theorem i64_wf {x : Int} (h : Wf (.int .i64) x) : I64 x := i64_of_wf h
theorem raw_stI {s : Sp} (h : Wf spT s) : StI s := by
  intro i h0 h1
  have := h.2.2.2 (fr s.2.2 i) (by unfold fr; exact gl_mem (by omega))
  exact (i64_wf this.2.1).2

theorem subl_rest {α : Type} (xs : List α) (k : Nat) : subl xs k (xs.length - k) = xs.drop k := by
  unfold subl
  rw [List.take_of_length_le (by simp)]
end Go.Proofs.YtokeceeccmgcmaaDoor
