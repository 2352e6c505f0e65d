/-
  Plain laws of package belt: what is found, added and removed; belts of a space that mk.Space made.
-/
import Derived.Test.YtnfleglhbgknmaaBltB
set_option linter.unusedVariables false
namespace Go.Proofs.Ytnfleglhbgknmaa
open Go Go.V3

/-- A search through all rows. -/
theorem loopF {γ σ τ β : Type} {q : List (List γ)} {d : γ} {p : γ → Prop} [DecidablePred p] {so : Nat → σ} {si : Nat → Nat → τ} {out : σ → Option (σ ⊕ β)} {inn : Nat → τ → Option (τ ⊕ (σ ⊕ β))} {res : Nat → Nat → β} {no : β} {s0 : σ} (h0 : s0 = so 0)
    (h1 : ∀ k, k < q.length → out (so k) = loopO (inn k) (si k 0))
    (h2 : ∀ k j, k < q.length → j < (gl [] q k).length → inn k (si k j) = if p (gl d (gl [] q k) j) then some (.inr (.inr (res k j))) else some (.inl (si k (j + 1))))
    (h3 : ∀ k, k < q.length → inn k (si k (gl [] q k).length) = some (.inr (.inl (so (k + 1)))))
    (h4 : out (so q.length) = some (.inr no)) :
    ((∀ x ∈ q.flatten, ¬ p x) ∧ loopO out s0 = some no) ∨ ∃ k j, k < q.length ∧ j < (gl [] q k).length ∧ p (gl d (gl [] q k) j) ∧ (∀ x ∈ (q.take k).flatten ++ (gl [] q k).take j, ¬ p x) ∧ loopO out s0 = some (res k j) := by
  subst h0
  have key := loopO_up (f := out) (fun k (st : σ) => k ≤ q.length ∧ st = so k ∧ ∀ x ∈ (q.take k).flatten, ¬ p x)
    (fun b => ((∀ x ∈ q.flatten, ¬ p x) ∧ b = no) ∨ ∃ k j, k < q.length ∧ j < (gl [] q k).length ∧ p (gl d (gl [] q k) j) ∧ (∀ x ∈ (q.take k).flatten ++ (gl [] q k).take j, ¬ p x) ∧ b = res k j) q.length ?_ ?_ (s := so 0) ⟨by omega, rfl, by simp⟩
  · obtain ⟨b, e, h⟩ := key
    rw [e]
    rcases h with ⟨h, rfl⟩ | ⟨k, j, hk, hj, hp, hb, rfl⟩
    · exact .inl ⟨h, rfl⟩
    · exact .inr ⟨k, j, hk, hj, hp, hb, rfl⟩
  · rintro k st hk ⟨_, rfl, hq⟩
    rw [h1 k hk]
    have inner := loopO_up (f := inn k) (fun j (st : τ) => j ≤ (gl [] q k).length ∧ st = si k j ∧ ∀ x ∈ (q.take k).flatten ++ (gl [] q k).take j, ¬ p x)
      (fun b => (b = Sum.inl (so (k + 1)) ∧ ∀ x ∈ (q.take k).flatten ++ gl [] q k, ¬ p x) ∨ (∃ j, j < (gl [] q k).length ∧ p (gl d (gl [] q k) j) ∧ (∀ x ∈ (q.take k).flatten ++ (gl [] q k).take j, ¬ p x) ∧ b = Sum.inr (res k j))) (gl [] q k).length ?_ ?_ (s := si k 0) ⟨by omega, rfl, by simpa using hq⟩
    · obtain ⟨b, e, h⟩ := inner
      rw [e]
      rcases h with ⟨rfl, hx⟩ | ⟨j, hj, hp, hb, rfl⟩
      · refine .inl ⟨_, rfl, by omega, rfl, ?_⟩
        rw [take_gl (d := []) q k hk]
        simpa using hx
      · exact .inr ⟨_, rfl, .inr ⟨k, j, hk, hj, hp, hb, rfl⟩⟩
    · rintro j st hj ⟨_, rfl, hq'⟩
      rw [h2 k j hk hj]
      by_cases hp : p (gl d (gl [] q k) j)
      · rw [if_pos hp]; exact .inr ⟨_, rfl, .inr ⟨j, hj, hp, hq', rfl⟩⟩
      · rw [if_neg hp]
        refine .inl ⟨_, rfl, by omega, rfl, fun x hx => ?_⟩
        rw [take_gl (d := d) _ j hj, ← List.append_assoc] at hx
        rcases List.mem_append.1 hx with hx | hx
        · exact hq' x hx
        · rw [List.mem_singleton.1 hx]; exact hp
    · rintro st ⟨_, rfl, hq'⟩
      rw [h3 k hk]
      rw [List.take_length] at hq'
      exact ⟨_, rfl, .inl ⟨rfl, hq'⟩⟩
  · rintro st ⟨_, rfl, hq⟩
    rw [List.take_length] at hq
    rw [h4]
    exact ⟨_, rfl, .inl ⟨hq, rfl⟩⟩

/-- Where an increment of a number is found first. -/
def Found (q : Rows) (n : Int) (k j : Nat) : Prop := k < q.length ∧ j < (gl [] q k).length ∧ (gl ((0, 0, 0, 0, 0) : Inc) (gl [] q k) j).1 = n ∧ ∀ x ∈ (q.take k).flatten ++ (gl [] q k).take j, x.1 ≠ n
theorem set_same {α : Type} {d : α} (q : List α) (k : Nat) : q.set k (q.getD k d) = q := by
  apply List.ext_getElem?
  intro i
  rw [List.getElem?_set]
  by_cases h : k = i
  · subst h
    rw [if_pos rfl]
    by_cases hk : k < q.length
    · rw [if_pos hk, List.getD_eq_getElem?_getD, List.getElem?_eq_getElem hk]; rfl
    · rw [if_neg hk, List.getElem?_eq_none (by omega)]
  · rw [if_neg h]
theorem cut_out {α : Type} (x : List α) (k : Nat) (hk : k < x.length) : subl x 0 (k - 0) ++ subl x (k + 1) (x.length - (k + 1)) = x.eraseIdx k := by
  rw [List.eraseIdx_eq_take_drop_succ]
  unfold subl
  rw [List.drop_zero, Nat.sub_zero, List.take_of_length_le (l := x.drop (k + 1)) (by rw [List.length_drop]; omega)]
theorem place_ok {q : Rows} (hq : q.length ≤ 1000000) (hx : ∀ x ∈ q, x.length ≤ 1000000) (n : Int) : ((∀ x ∈ q.flatten, x.1 ≠ n) ∧ Fbelt_place q n = some (-1, -1)) ∨ ∃ k j, Found q n k j ∧ Fbelt_place q n = some ((k : Int), (j : Int)) := by
  unfold Fbelt_place
  have key := loopF (q := q) (d := ((0, 0, 0, 0, 0) : Inc)) (p := fun i => i.1 = n) (so := fun k => (k : Int)) (si := fun _ j => (j : Int)) (res := fun k j => ((k : Int), (j : Int))) (no := ((-1 : Int), (-1 : Int))) (s0 := (0 : Int)) rfl
    (out := fun s1 => if s1 < (q.length : Int) then
      if 0 ≤ s1 ∧ s1 < (q.length : Int) then
      loopO (σ := Int) (β := (Int ⊕ (Int × Int))) (fun s2 =>
      if s2 < ((gl ([] : List Inc) q s1.toNat).length : Int) then
      if 0 ≤ s2 ∧ s2 < ((gl ([] : List Inc) q s1.toNat).length : Int) then
      if (gl ((0, 0, 0, 0, 0) : Inc) (gl ([] : List Inc) q s1.toNat) s2.toNat).1 = n then
      some (Sum.inr (Sum.inr (s1, s2)))
      else some (Sum.inl (w64 (s2 + 1)))
      else none
      else some (Sum.inr (Sum.inl (w64 (s1 + 1))))) 0
      else none
      else some (Sum.inr (-1, -1)))
    (inn := fun (k : Nat) s2 => if s2 < ((gl ([] : List Inc) q k).length : Int) then
      if 0 ≤ s2 ∧ s2 < ((gl ([] : List Inc) q k).length : Int) then
      if (gl ((0, 0, 0, 0, 0) : Inc) (gl ([] : List Inc) q k) s2.toNat).1 = n then
      some (Sum.inr (Sum.inr ((k : Int), s2)))
      else some (Sum.inl (w64 (s2 + 1)))
      else none
      else some (Sum.inr (Sum.inl (w64 ((k : Int) + 1)))))
    (fun k hk => by simp only [Int.toNat_natCast]; rw [if_pos (by omega), if_pos (by omega)]; rfl)
    (fun k j hk hj => by
      have hl := hx (gl [] q k) (gl_mem hk)
      simp only [Int.toNat_natCast]
      rw [if_pos (by omega), if_pos (by omega), w64_id (by omega) (by omega)]; rfl)
    (fun k hk => by rw [if_neg (by omega), w64_id (by omega) (by omega)]; rfl)
    (by rw [if_neg (by omega)])
  rcases key with ⟨h, e⟩ | ⟨k, j, hk, hj, hp, hb, e⟩
  · exact .inl ⟨h, e⟩
  · exact .inr ⟨k, j, ⟨hk, hj, hp, hb⟩, e⟩
theorem cBelts_ok {q : Rows} (hq : q.length ≤ 1000000) (hx : ∀ x ∈ q, x.length ≤ 1000000) : Fclone_Belts q = some q := by
  unfold Fclone_Belts
  rw [if_pos (by omega)]
  refine (loopO_up (fun k (st : Int × Rows) => k ≤ q.length ∧ st = ((k : Int), q.take k ++ List.replicate (q.length - k) [])) (fun b => b = q) q.length ?_ ?_ (s := (0, List.replicate (q.length : Int).toNat [])) ⟨by omega, by simp⟩).elim fun b hb => by rw [hb.1, hb.2]
  · rintro k st hk ⟨_, rfl⟩
    have hl := hx (gl [] q k) (gl_mem hk)
    left
    refine ⟨_, ?_, by omega, rfl⟩
    simp only [Int.toNat_natCast]
    rw [if_pos (by omega), if_pos (by omega), if_pos (by simp; omega), if_pos (by simp; omega), List.nil_append, w64_id (by omega) (by omega), take_gl (d := []) q k hk, show q.length - k = (q.length - (k + 1)) + 1 from by omega, List.replicate_succ, List.set_append_right _ _ (by simp; omega)]
    rw [show k - (q.take k).length = 0 from by rw [List.length_take]; omega, List.set_cons_zero, List.append_assoc]
    rfl
  · rintro st ⟨_, rfl⟩
    simp only
    rw [if_neg (by omega), List.take_length, Nat.sub_self]
    exact ⟨_, rfl, by simp⟩
theorem bIn_ok (q : Rows) (b : Int) : Fbelt_in q b = some (decide (0 ≤ b ∧ b < q.length)) := by
  unfold Fbelt_in
  by_cases h : b ≥ 0
  · rw [if_pos h]; congr 1; rw [Bool.eq_iff_iff, decide_eq_true_iff, decide_eq_true_iff]; omega
  · rw [if_neg h]; congr 1; rw [Bool.eq_iff_iff, decide_eq_true_iff]; simp; omega
theorem bRemove_ok {q : Rows} (hq : q.length ≤ 1000000) (hx : ∀ x ∈ q, x.length ≤ 1000000) (n : Int) : ((∀ x ∈ q.flatten, x.1 ≠ n) ∧ Fbelt_Remove q n = some ([], 5)) ∨ ∃ k j, Found q n k j ∧ Fbelt_Remove q n = some (q.set k ((gl [] q k).eraseIdx j), 0) := by
  unfold Fbelt_Remove
  rcases place_ok hq hx n with ⟨h, e⟩ | ⟨k, j, hf, e⟩
  · rw [e, Option.bind_some, if_pos (by omega)]; exact .inl ⟨h, rfl⟩
  · obtain ⟨hk, hj, _, _⟩ := id hf
    have hl := hx (gl [] q k) (gl_mem hk)
    have hg : q.getD k [] = gl [] q k := rfl
    rw [e, Option.bind_some, if_neg (by simp only; omega), cBelts_ok hq hx, Option.bind_some]
    simp only [Int.toNat_natCast, hg]
    have hs1 : (subl (gl [] q k) 0 (j - 0)).length ≤ 1000000 := by unfold subl; simp; omega
    have hs2 : (subl (gl [] q k) (j + 1) ((gl [] q k).length - (j + 1))).length ≤ 1000000 := by unfold subl; simp; omega
    rw [w64_id (e := (j : Int) + 1) (by omega) (by omega), show ((j : Int) + 1).toNat = j + 1 from by omega]
    rw [if_pos (by omega), if_pos (by omega), if_pos trivial, if_pos ⟨by omega, trivial⟩, if_pos (by omega), if_pos trivial, if_pos ⟨trivial, by omega⟩, if_pos (by omega), if_pos (by omega), if_pos trivial, cut_out _ _ hj]
    exact .inr ⟨k, j, hf, rfl⟩
theorem rRemove_ok {q : Rows} (hq : q.length ≤ 1000000) (hx : ∀ x ∈ q, x.length ≤ 1000000) (n : Int) : ((∀ x ∈ q.flatten, x.1 ≠ n) ∧ Fbeltwayref11_Remove q n = some ([], 5)) ∨ ∃ k j, Found q n k j ∧ Fbeltwayref11_Remove q n = some (q.set k ((gl [] q k).eraseIdx j), 0) := by
  unfold Fbeltwayref11_Remove
  rw [rCopy_ok hq hx, Option.bind_some]
  have key := loopF (q := q) (d := ((0, 0, 0, 0, 0) : Inc)) (p := fun i => i.1 = n) (so := fun k => ((k : Int), q)) (si := fun _ j => (j : Int)) (res := fun k j => (q.set k ((gl [] q k).eraseIdx j), (0 : Int))) (no := (([] : Rows), (5 : Int))) (s0 := ((0 : Int), q)) rfl
    (out := fun s1 => if s1.1 < (q.length : Int) then
      if 0 ≤ s1.1 ∧ s1.1 < (s1.2.length : Int) then
      loopO (σ := Int) (β := ((Int × Rows) ⊕ (Rows × Int))) (fun s2 =>
      if s2 < ((s1.2.getD s1.1.toNat []).length : Int) then
      if 0 ≤ s2 ∧ s2 < ((s1.2.getD s1.1.toNat []).length : Int) then
      if (gl ((0, 0, 0, 0, 0) : Inc) (s1.2.getD s1.1.toNat []) s2.toNat).1 = n then
      if Bd none (some s2) s2.toNat ((s1.2.getD s1.1.toNat []).length) then
      if Bd (some (w64 (s2 + 1))) none ((s1.2.getD s1.1.toNat []).length) ((s1.2.getD s1.1.toNat []).length) then
      if ((subl (s1.2.getD s1.1.toNat []) 0 (s2.toNat - 0)).length + (subl (s1.2.getD s1.1.toNat []) ((w64 (s2 + 1)).toNat) (((s1.2.getD s1.1.toNat []).length) - ((w64 (s2 + 1)).toNat))).length) * 40 ≤ 140737488355328 then
      if 0 ≤ s1.1 ∧ s1.1 < (s1.2.length : Int) then
      if s1.1.toNat = s1.1.toNat then
      some (Sum.inr (Sum.inr (s1.2.set s1.1.toNat ((subl (s1.2.getD s1.1.toNat []) 0 (s2.toNat - 0)) ++ (subl (s1.2.getD s1.1.toNat []) ((w64 (s2 + 1)).toNat) (((s1.2.getD s1.1.toNat []).length) - ((w64 (s2 + 1)).toNat)))), 0)))
      else none
      else none
      else none
      else none
      else none
      else some (Sum.inl (w64 (s2 + 1)))
      else none
      else some (Sum.inr (Sum.inl (w64 (s1.1 + 1), s1.2.set s1.1.toNat (s1.2.getD s1.1.toNat []))))) 0
      else none
      else some (Sum.inr ([], 5)))
    (inn := fun (k : Nat) s2 => if s2 < ((gl [] q k).length : Int) then
      if 0 ≤ s2 ∧ s2 < ((gl [] q k).length : Int) then
      if (gl ((0, 0, 0, 0, 0) : Inc) (gl [] q k) s2.toNat).1 = n then
      if Bd none (some s2) s2.toNat ((gl [] q k).length) then
      if Bd (some (w64 (s2 + 1))) none ((gl [] q k).length) ((gl [] q k).length) then
      if ((subl (gl [] q k) 0 (s2.toNat - 0)).length + (subl (gl [] q k) ((w64 (s2 + 1)).toNat) (((gl [] q k).length) - ((w64 (s2 + 1)).toNat))).length) * 40 ≤ 140737488355328 then
      if 0 ≤ (k : Int) ∧ (k : Int) < (q.length : Int) then
      if k = k then
      some (Sum.inr (Sum.inr (q.set k ((subl (gl [] q k) 0 (s2.toNat - 0)) ++ (subl (gl [] q k) ((w64 (s2 + 1)).toNat) (((gl [] q k).length) - ((w64 (s2 + 1)).toNat)))), 0)))
      else none
      else none
      else none
      else none
      else none
      else some (Sum.inl (w64 (s2 + 1)))
      else none
      else some (Sum.inr (Sum.inl (w64 ((k : Int) + 1), q.set k (q.getD k [])))))
    (fun k hk => by simp only [Int.toNat_natCast]; rw [if_pos (by omega), if_pos (by omega)]; rfl)
    (fun k j hk hj => by
      have hl := hx (gl [] q k) (gl_mem hk)
      have hs1 : (subl (gl [] q k) 0 (j - 0)).length ≤ 1000000 := by unfold subl; simp; omega
      have hs2 : (subl (gl [] q k) (j + 1) ((gl [] q k).length - (j + 1))).length ≤ 1000000 := by unfold subl; simp; omega
      simp only [Int.toNat_natCast]
      rw [if_pos (by omega), if_pos (by omega), w64_id (e := (j : Int) + 1) (by omega) (by omega), show ((j : Int) + 1).toNat = j + 1 from by omega, if_pos (show Bd none (some (j : Int)) j (gl [] q k).length from ⟨by omega, trivial⟩), if_pos (show Bd (some ((j : Int) + 1)) none (gl [] q k).length (gl [] q k).length from ⟨trivial, by omega⟩), if_pos (show ((subl (gl [] q k) 0 (j - 0)).length + (subl (gl [] q k) (j + 1) ((gl [] q k).length - (j + 1))).length) * 40 ≤ 140737488355328 from by omega), if_pos (show 0 ≤ (k : Int) ∧ (k : Int) < (q.length : Int) from by omega), if_pos trivial, cut_out _ _ hj]
      rfl)
    (fun k hk => by rw [if_neg (by omega), w64_id (by omega) (by omega), set_same]; rfl)
    (by simp only; rw [if_neg (by omega)])
  rcases key with ⟨h, e⟩ | ⟨k, j, hk, hj, hp, hb, e⟩
  · exact .inl ⟨h, e⟩
  · exact .inr ⟨k, j, ⟨hk, hj, hp, hb⟩, e⟩
theorem bYoungest_ok {q : Rows} (hx : ∀ x ∈ q, x.length ≤ 1000000) {b : Nat} (hb : b < q.length) : Fbelt_Youngest q (b : Int) = some (if gl [] q b = [] then (((0, 0, 0, 0, 0) : Inc), false) else (gl ((0, 0, 0, 0, 0) : Inc) (gl [] q b) ((gl [] q b).length - 1), true)) := by
  have hl := hx (gl [] q b) (gl_mem hb)
  unfold Fbelt_Youngest
  rw [bIn_ok, Option.bind_some, if_neg (by simp; omega), if_pos (by omega)]
  simp only [Int.toNat_natCast]
  by_cases h : gl [] q b = []
  · rw [if_pos (by rw [h]; rfl), if_pos h]
  · have hp := List.length_pos_iff.2 h
    rw [if_neg (by omega), if_neg h, if_pos (by omega), if_pos (by omega), w64_id (e := ((gl [] q b).length : Int) - 1) (by omega) (by omega), if_pos (by omega), show (((gl [] q b).length : Int) - 1).toNat = (gl [] q b).length - 1 from by omega]
theorem bOldest_ok {q : Rows} {b : Nat} (hb : b < q.length) : Fbelt_Oldest q (b : Int) = some (if gl [] q b = [] then (((0, 0, 0, 0, 0) : Inc), false) else (gl ((0, 0, 0, 0, 0) : Inc) (gl [] q b) 0, true)) := by
  unfold Fbelt_Oldest
  rw [bIn_ok, Option.bind_some, if_neg (by simp; omega), if_pos (by omega)]
  simp only [Int.toNat_natCast]
  by_cases h : gl [] q b = []
  · rw [if_pos (by rw [h]; rfl), if_pos h]
  · have hp := List.length_pos_iff.2 h
    rw [if_neg (by omega), if_neg h, if_pos (by omega), if_pos (by omega)]
    rfl
theorem bAdd_ok {q : Rows} (hq : q.length ≤ 1000000) (hx : ∀ x ∈ q, x.length ≤ 1000000) {j : Inc} {b : Nat} (hjb : j.2.1 = (b : Int)) (hb : b < q.length) (hj : ∀ i ∈ gl [] q b, i.1 < j.1) :
    Fbelt_Add q j = some (q.set b (gl [] q b ++ [j]), 0) := by
  have hl := hx (gl [] q b) (gl_mem hb)
  have hg : q.getD b [] = gl [] q b := rfl
  unfold Fbelt_Add
  rw [bIn_ok, Option.bind_some, hjb, if_neg (by simp; omega), bYoungest_ok hx hb, Option.bind_some]
  simp only [Int.toNat_natCast]
  by_cases h : gl [] q b = []
  · rw [if_pos h, if_neg (by simp), cBelts_ok hq hx, Option.bind_some, if_pos (by omega), hg, if_pos (by simp; omega), if_pos (by omega), if_pos trivial]
  · have hp := List.length_pos_iff.2 h
    have := hj _ (gl_mem (d := ((0, 0, 0, 0, 0) : Inc)) (k := (gl [] q b).length - 1) (by omega))
    rw [if_neg h, if_pos rfl, if_neg (by simp only; omega), cBelts_ok hq hx, Option.bind_some, if_pos (by omega), hg, if_pos (by simp; omega), if_pos (by omega), if_pos trivial]
theorem bWords_ok {q : Rows} (hq : q.length ≤ 1000000) (hx : ∀ x ∈ q, x.length ≤ 1000000) (hw : ∀ i ∈ q.flatten, 0 ≤ i.2.2.2.2) (hs : wsum q.flatten ≤ 1000000) : Fbelt_Words q = some (wsum q.flatten) := by
  unfold Fbelt_Words
  apply loop2 (q := q) (d := ((0, 0, 0, 0, 0) : Inc)) (F := fun n i => n + i.2.2.2.2) (r := id)
  · intro k a hk
    simp only
    rw [if_pos (by omega), if_pos (by omega)]
  · intro k j a hk hj ha
    obtain ⟨pre, suf, e, rfl⟩ := ha
    have h0 : 0 ≤ wsum pre := wsum_nonneg fun i hi => hw i (by rw [e]; exact List.mem_append_left _ hi)
    have h1 := hw (gl ((0, 0, 0, 0, 0) : Inc) (gl [] q k) j) (by rw [e]; simp)
    have h2 : 0 ≤ wsum suf := wsum_nonneg fun i hi => hw i (by rw [e]; exact List.mem_append_right _ (List.mem_cons_of_mem _ hi))
    rw [e, wsum_app, wsum_cons] at hs
    have hl := hx (gl [] q k) (gl_mem hk)
    simp only [Int.toNat_natCast]
    rw [if_pos (by omega), if_pos (by omega), wsum_from, w64_id (by omega) (by omega), w64_id (by omega) (by omega)]
  · intro k a hk
    simp only [Int.toNat_natCast]
    rw [if_neg (by omega), w64_id (by omega) (by omega)]
  · intro a
    simp only
    rw [if_neg (by omega)]; rfl
theorem bOpen_ok {s : Sp} (h : 3 ≤ s.1 ∧ s.1 ≤ 8) (i : Inc) {k : Int} (k0 : 0 ≤ k) (k1 : k ≤ 1000000) : Fbelt_Open s i k = some (decide (k = 0 ∨ i.2.2.2.2 < k * sz s.1)) := by
  have z := sz_le h
  have h1 := mul_sz_le h k0 k1
  unfold Fbelt_Open
  by_cases hk : k = 0
  · rw [if_pos hk]; simp [hk]
  · rw [if_neg hk, fSize_ok h, Option.bind_some, w64_id (by omega) (by omega)]
    simp [hk]
theorem rSize_ok {s : Sp} (h : 3 ≤ s.1 ∧ s.1 ≤ 8) : Fbeltwayref03_Size s = some (sz s.1) := by
  have z := sz_le h
  unfold Fbeltwayref03_Size
  rw [rshift_ok, Option.bind_some, if_neg (by simp [h]), if_pos trivial, pow_sz h, Int.one_mul, w64_id (by omega) (by omega)]
theorem rOpen_ok {s : Sp} (h : 3 ≤ s.1 ∧ s.1 ≤ 8) (i : Inc) {k : Int} (k0 : 0 ≤ k) (k1 : k ≤ 1000000) : Fbeltwayref11_Open s i k = some (decide (k = 0 ∨ i.2.2.2.2 < k * sz s.1)) := by
  have z := sz_le h
  have h1 := mul_sz_le h k0 k1
  unfold Fbeltwayref11_Open
  by_cases hk : k = 0
  · rw [if_pos hk]; simp [hk]
  · rw [if_neg hk, rSize_ok h, Option.bind_some, w64_id (by omega) (by omega)]
    simp [hk]
/-- The belts of a space that mk.Space made. -/
theorem queue_flat (l : List Inc) (hb : ∀ i ∈ l, 0 ≤ i.2.1 ∧ i.2.1 < 3) : ((List.range 3).map (onB l)).flatten = onB l 0 ++ (onB l 1 ++ onB l 2) := by
  simp [show List.range 3 = [0, 1, 2] from rfl]
theorem queue_sum {α : Type} (f : Inc → Int) (g : List Inc → Int) (g0 : g [] = 0) (gc : ∀ x xs, g (x :: xs) = f x + g xs) (ga : ∀ xs ys, g (xs ++ ys) = g xs + g ys) (l : List Inc) (hb : ∀ i ∈ l, 0 ≤ i.2.1 ∧ i.2.1 < 3) : g (onB l 0 ++ (onB l 1 ++ onB l 2)) = g l := by
  rw [ga, ga]
  induction l with
  | nil => simp [onB, g0]
  | cons i l ih =>
    have hi := hb i (List.mem_cons_self ..)
    have := ih fun i hi => hb i (List.mem_cons_of_mem _ hi)
    rw [gc, ← this]
    unfold onB
    simp only [List.filter_cons, decide_eq_true_eq]
    have : i.2.1 = 0 ∨ i.2.1 = 1 ∨ i.2.1 = 2 := by omega
    rcases this with e | e | e <;> simp [e, gc] <;> omega
theorem made_bv {s : Sp} {l : List Inc} (h : Made s l) : BV s ((List.range 3).map (onB l)) := by
  have hb : ∀ i ∈ l, 0 ≤ i.2.1 ∧ i.2.1 < 3 := fun i hi => ⟨(h.fits i hi).1.1.2.2.1, (h.fits i hi).2.2.1⟩
  have hg : ∀ k, k < 3 → gl [] ((List.range 3).map (onB l)) k = onB l k := by
    intro k hk
    rw [gl_lt (by simpa using hk)]; simp
  have hmem : ∀ {k : Nat} {i : Inc}, i ∈ onB l k → i ∈ l ∧ i.2.1 = (k : Int) := by
    intro k i hi
    unfold onB at hi
    rw [List.mem_filter, decide_eq_true_iff] at hi
    exact hi
  have hinj : ∀ i ∈ l, ∀ j ∈ l, i.1 = j.1 → i = j := by
    intro i hi j hj e
    obtain ⟨a, ha, rfl⟩ := List.getElem_of_mem hi
    obtain ⟨b, hb, rfl⟩ := List.getElem_of_mem hj
    have hp := List.pairwise_iff_getElem.1 h.asc
    rcases Nat.lt_trichotomy a b with hab | hab | hab
    · have := hp a b ha hb hab; omega
    · subst hab; rfl
    · have := hp b a hb ha hab; omega
  have hpw : ∀ k, (onB l k).Pairwise fun a b => a.1 < b.1 := fun k => List.Pairwise.filter _ h.asc
  refine ⟨h.vs, by simp, fun k j hk hj => ?_, fun x x0 x1 hu => ?_⟩
  · have hk3 : k < 3 := by simpa using hk
    unfold okS
    rw [hg k hk3] at hj ⊢
    obtain ⟨m1, m2⟩ := hmem (gl_mem (d := ((0, 0, 0, 0, 0) : Inc)) hj)
    obtain ⟨f1, f2, f3, f4, _⟩ := h.fits _ m1
    refine ⟨m2, by omega, fun hj0 => ?_, fun hx => ?_, f1⟩
    · rw [gl_lt hj, gl_lt (by omega)]
      exact List.pairwise_iff_getElem.1 (hpw k) _ _ (by omega) hj (by omega)
    · obtain ⟨y, hy, e⟩ := List.mem_map.1 hx
      rcases List.mem_append.1 hy with hy | hy
      · obtain ⟨r, hr, hyr⟩ := List.mem_flatten.1 hy
        obtain ⟨m, hm, rfl⟩ := List.getElem_of_mem hr
        rw [List.length_take] at hm
        simp only [List.getElem_take, List.getElem_map, List.getElem_range] at hyr
        obtain ⟨n1, n2⟩ := hmem hyr
        have := hinj _ n1 _ m1 e
        rw [this, m2] at n2
        omega
      · obtain ⟨m, hm, rfl⟩ := List.getElem_of_mem hy
        rw [List.length_take] at hm
        rw [List.getElem_take, gl_lt hj] at e
        have := List.pairwise_iff_getElem.1 (hpw k) m j (by omega) hj (by omega)
        omega
  · obtain ⟨p, hp, e⟩ := h.all x x0 x1 hu
    refine List.mem_map.2 ⟨p, ?_, e⟩
    rw [queue_flat l hb]
    have := hb p hp
    have hc : p.2.1 = 0 ∨ p.2.1 = 1 ∨ p.2.1 = 2 := by omega
    unfold onB
    simp only [List.mem_append, List.mem_filter, decide_eq_true_iff]
    rcases hc with e | e | e
    · exact .inl ⟨hp, e⟩
    · exact .inr (.inl ⟨hp, e⟩)
    · exact .inr (.inr ⟨hp, e⟩)
end Go.Proofs.Ytnfleglhbgknmaa
