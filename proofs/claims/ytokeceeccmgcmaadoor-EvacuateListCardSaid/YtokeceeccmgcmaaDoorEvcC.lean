/-
  The frames of condemned increments.
-/
import Derived.Test.YtokeceeccmgcmaaDoorEvcB
set_option linter.unusedVariables false
namespace Go.Proofs.YtokeceeccmgcmaaDoor
open Go Go.V3

/-- The owners of some increments. -/
def seqs (l : List Inc) : List Int := l.map (·.1)
/-- A word with a bit for each of their frames. -/
def MaskC (C : List Int) (fs : List Fr) (w : BitVec 64) : Prop := ∀ j, j < 64 → w.getLsbD j = decide (j < fs.length ∧ (fr fs j).1 ∈ C)
theorem sSet_ok {s : Sp} (hn : s.2.2.length ≤ 64) {l : List Inc} (hl : (l.length : Int) ≤ 9223372036854775806) : ∃ w, Fscan_set s l = some w ∧ MaskC (seqs l) s.2.2 w := by
  unfold Fscan_set
  refine loopO_up (fun k (st : BitVec 64 × Int) => st.2 = (k : Int) ∧ k ≤ s.2.2.length ∧ ∀ j, j < 64 → st.1.getLsbD j = decide (j < k ∧ (fr s.2.2 j).1 ∈ seqs l)) (fun b => MaskC (seqs l) s.2.2 b) s.2.2.length ?_ ?_ (s := (0#64, (0 : Int))) ⟨rfl, by omega, fun j hj => by simp⟩
  · rintro k ⟨w, i⟩ hk ⟨h1, _, h2⟩
    simp only at h1 h2 ⊢
    subst h1
    have hfr : gl (0, 0, 0) s.2.2 (k : Int).toNat = fr s.2.2 k := rfl
    rw [if_pos (by omega), if_pos (by omega), hfr]
    refine .inl ?_
    have inner : ∀ st : BitVec 64 × Int, st.2 = 0 → (∀ j, j < 64 → st.1.getLsbD j = decide (j < k ∧ (fr s.2.2 j).1 ∈ seqs l)) →
        ∃ b, loopO (σ := BitVec 64 × Int) (β := (BitVec 64 × Int) ⊕ BitVec 64) (fun s2 =>
          if s2.2 < (l.length : Int) then
          if 0 ≤ s2.2 ∧ s2.2 < (l.length : Int) then
          if (fr s.2.2 k).1 = ((gl ((0, 0, 0, 0, 0) : Inc) l s2.2.toNat).1) then
          if (k : Int) < 64 then
          if True then
          some (Sum.inl ((s2.1 ||| ((1#64) <<< (BitVec.ofInt 64 (k : Int)).toNat), w64 (s2.2 + 1))))
          else none
          else some (Sum.inl ((s2.1, w64 (s2.2 + 1))))
          else some (Sum.inl ((s2.1, w64 (s2.2 + 1))))
          else none
          else some (Sum.inr (Sum.inl ((s2.1, w64 ((k : Int) + 1)))))) st = some b ∧ ∃ w' : BitVec 64, b = Sum.inl (w', (k : Int) + 1) ∧ ∀ j, j < 64 → w'.getLsbD j = decide (j < k + 1 ∧ (fr s.2.2 j).1 ∈ seqs l) := by
      rintro ⟨w1, c1⟩ hc hw
      simp only at hc hw
      subst hc
      refine loopO_up (fun c (st : BitVec 64 × Int) => st.2 = (c : Int) ∧ ∀ j, j < 64 → st.1.getLsbD j = decide ((j < k ∧ (fr s.2.2 j).1 ∈ seqs l) ∨ (j = k ∧ (fr s.2.2 j).1 ∈ seqs (l.take c))))
        (fun b => ∃ w' : BitVec 64, b = Sum.inl (w', (k : Int) + 1) ∧ ∀ j, j < 64 → w'.getLsbD j = decide (j < k + 1 ∧ (fr s.2.2 j).1 ∈ seqs l)) l.length ?_ ?_ (s := (w1, (0 : Int))) ⟨rfl, fun j hj => by rw [hw j hj, decide_eq_decide, List.take_zero]; exact ⟨.inl, fun h => h.elim id fun h => absurd h.2 List.not_mem_nil⟩⟩
      · rintro c ⟨v, i⟩ hc ⟨g1, g2⟩
        simp only at g1 g2 ⊢
        subst g1
        have hm : ∀ x : Int, x ∈ seqs (l.take (c + 1)) ↔ x ∈ seqs (l.take c) ∨ x = (gl ((0, 0, 0, 0, 0) : Inc) l c).1 := by
          intro x
          unfold seqs
          rw [List.take_add_one, gl_get? (d := ((0, 0, 0, 0, 0) : Inc)) hc]
          simp
        rw [if_pos (by omega), if_pos (by omega), Int.toNat_natCast, w64_id (e := (c : Int) + 1) (by omega) (by omega)]
        by_cases he : (fr s.2.2 k).1 = (gl ((0, 0, 0, 0, 0) : Inc) l c).1
        · rw [if_pos he, if_pos (by omega), if_pos trivial]
          refine .inl ⟨_, rfl, by simp only; omega, fun j hj => ?_⟩
          simp only
          rw [idx_toNat (by omega) (by omega), Int.toNat_natCast, bit_set _ _ (by omega), g2 j hj, ← Bool.decide_or, decide_eq_decide, hm]
          constructor
          · rintro ((h | ⟨h, h'⟩) | h)
            · exact .inl h
            · exact .inr ⟨h, .inl h'⟩
            · subst h; exact .inr ⟨rfl, .inr he⟩
          · rintro (h | ⟨h, _⟩)
            · exact .inl (.inl h)
            · exact .inr h.symm
        · rw [if_neg he]
          refine .inl ⟨_, rfl, by simp only; omega, fun j hj => ?_⟩
          simp only
          rw [g2 j hj, decide_eq_decide, hm]
          constructor
          · rintro (h | ⟨h, h'⟩)
            · exact .inl h
            · exact .inr ⟨h, .inl h'⟩
          · rintro (h | ⟨h, h' | h'⟩)
            · exact .inl h
            · exact .inr ⟨h, h'⟩
            · subst h; exact absurd h' he
      · rintro ⟨v, i⟩ ⟨g1, g2⟩
        simp only at g1 g2 ⊢
        rw [if_neg (by omega), w64_id (e := (k : Int) + 1) (by omega) (by omega)]
        refine ⟨_, rfl, v, rfl, fun j hj => ?_⟩
        rw [g2 j hj, List.take_length, decide_eq_decide]
        constructor
        · rintro (⟨h, h'⟩ | ⟨h, h'⟩)
          · exact ⟨by omega, h'⟩
          · exact ⟨by omega, h'⟩
        · rintro ⟨h, h'⟩
          by_cases hjk : j = k
          · exact .inr ⟨hjk, h'⟩
          · exact .inl ⟨by omega, h'⟩
    obtain ⟨b, hb, w', rfl, hw'⟩ := inner (w, 0) rfl h2
    exact ⟨_, hb, by simp only; omega, by omega, hw'⟩
  · rintro ⟨w, i⟩ ⟨h1, _, h2⟩
    simp only at h1 h2 ⊢
    rw [if_neg (by omega)]
    exact ⟨_, rfl, fun j hj => h2 j hj⟩
theorem sFrames_ok {s : Sp} (hn : s.2.2.length ≤ 64) {l : List Inc} (hl : (l.length : Int) ≤ 9223372036854775806) : ∃ w, Fscan_Frames s l = some ((bitsL w).map fun k : Nat => (k : Int)) ∧ MaskC (seqs l) s.2.2 w := by
  obtain ⟨w, h1, h2⟩ := sSet_ok hn hl
  refine ⟨w, ?_, h2⟩
  unfold Fscan_Frames
  rw [h1, Option.bind_some]
  refine loopO_to (fun n (st : List Int × BitVec 64) => st.1 ++ ((bitsL st.2).map fun k : Nat => (k : Int)) = ((bitsL w).map fun k : Nat => (k : Int)) ∧ n = (bitsL st.2).length) (n := (bitsL w).length) ?_ ⟨by simp, rfl⟩
  rintro n ⟨acc, v⟩ ⟨g1, g2⟩
  simp only at g1 g2 ⊢
  by_cases hv : v = 0#64
  · left
    have : bitsL 0#64 = [] := bits_nil.2 rfl
    rw [if_neg (not_not_intro hv)]
    rw [hv, this] at g1
    rw [← g1]; simp
  · right
    rw [if_pos hv]
    obtain ⟨k, k1, k2, k3⟩ := tz_ok hv
    have hlen : acc.length ≤ 64 := by
      have := congrArg List.length g1
      rw [List.length_append, List.length_map, List.length_map] at this
      have := bitsL_len w
      omega
    rw [k2, Option.bind_some, if_pos (by simp only [List.length_singleton]; omega)]
    refine ⟨(bitsL (v &&& (v - 1#64))).length, _, ?_, rfl, ?_, rfl⟩
    · rw [g2, k3]; simp
    · rw [← g1, k3]; simp
theorem bits_mem {w : BitVec 64} {k : Nat} : k ∈ bitsL w ↔ k < 64 ∧ w.getLsbD k = true := by
  unfold bitsL
  rw [List.mem_filter, List.mem_range]
end Go.Proofs.YtokeceeccmgcmaaDoor
