/-
  Which spaces the program and the references hold for valid.
-/
import Derived.Test.YtokeceeccmgcmaaDoorSpA
import Derived.Test.YtokeceeccmgcmaaDoorSpW
set_option linter.unusedVariables false
namespace Go.Proofs.YtokeceeccmgcmaaDoor
open Go Go.V3

theorem no_iff {P : Prop} (h : ¬ P) : (false = true ↔ P) := ⟨fun e => absurd e (by decide), fun p => absurd p h⟩
theorem map_inr {α β : Type} {x : Option β} {Q : β → Prop} (h : ∃ b, x = some b ∧ Q b) : ∃ b, Option.map (Sum.inr (α := α)) x = some (Sum.inr b) ∧ Q b := by
  obtain ⟨b, rfl, h⟩ := h; exact ⟨b, rfl, h⟩
theorem if3 {α : Type} {a b c : Prop} [Decidable a] [Decidable b] [Decidable c] {x y : α} : (if a then (if b then (if c then x else y) else y) else y) = if a ∧ b ∧ c then x else y := by
  by_cases ha : a <;> by_cases hb : b <;> by_cases hc : c <;> simp [ha, hb, hc]

theorem rshift_ok (s : Int) : Fbeltwayref03_shift s = some (decide (3 ≤ s ∧ s ≤ 8)) := by
  unfold Fbeltwayref03_shift
  by_cases h : s ≥ 3
  · rw [if_pos h]; congr 1; rw [Bool.eq_iff_iff, decide_eq_true_iff, decide_eq_true_iff]; omega
  · rw [if_neg h]; congr 1; rw [Bool.eq_iff_iff, decide_eq_true_iff]; simp; omega
theorem fshift_ok (s : Int) : Fframe_shift s = some (decide (3 ≤ s ∧ s ≤ 8)) := by
  unfold Fframe_shift
  by_cases h : s ≥ 3
  · rw [if_pos h]; congr 1; rw [Bool.eq_iff_iff, decide_eq_true_iff, decide_eq_true_iff]; omega
  · rw [if_neg h]; congr 1; rw [Bool.eq_iff_iff, decide_eq_true_iff]; simp; omega

theorem stamped_ok (f : Fr) : ∃ b, Fbeltwayref03_stamped f = some b ∧ (b = true ↔ Stamped f) := by
  unfold Fbeltwayref03_stamped
  by_cases h0 : f.1 < 0
  · rw [if_pos h0]; exact ⟨_, rfl, no_iff fun h => by have := h.1; omega⟩
  rw [if_neg h0]
  by_cases h1 : f.1 > 4294967295
  · rw [if_pos h1]; exact ⟨_, rfl, no_iff fun h => by have := h.2.1; omega⟩
  rw [if_neg h1]
  refine loopO_up (fun k s => s = (k : Int) ∧ k ≤ 4 ∧ ∀ b : Int, 0 ≤ b → b < k → f.2.1 ≠ f.1 + b * 4294967296) _ 4 ?_ ?_ ⟨rfl, by omega, fun b h1 h2 => by omega⟩
  · rintro k s hk ⟨rfl, _, hb⟩
    rw [if_pos (by omega), w64_id (e := (k : Int) * 4294967296) (by omega) (by omega), w64_id (e := f.1 + _) (by omega) (by omega)]
    by_cases he : f.2.1 = f.1 + k * 4294967296
    · rw [if_pos he]
      exact .inr ⟨_, rfl, iff_of_true rfl ⟨by omega, by omega, k, by omega, by omega, he⟩⟩
    · rw [if_neg he, w64_id (by omega) (by omega)]
      refine .inl ⟨_, rfl, by omega, by omega, fun b h2 h3 => ?_⟩
      by_cases hbk : b = k
      · subst hbk; exact he
      · exact hb b h2 (by omega)
  · rintro s ⟨rfl, _, hb⟩
    rw [if_neg (by omega)]
    refine ⟨_, rfl, no_iff ?_⟩
    rintro ⟨_, _, b, h2, h3, h4⟩
    exact hb b h2 h3 h4

/-- The words of a frame, one after the other. -/
theorem zero_loop {s : Sp} (hs : 3 ≤ s.1 ∧ s.1 ≤ 8) (hn : s.2.2.length ≤ 64) (hw : (s.2.1.length : Int) = s.2.2.length * sz s.1) {i : Int} (h0 : 0 ≤ i) (h1 : i < s.2.2.length) {a b : Int} (ha : a = i * sz s.1) (hb : b = i * sz s.1 + sz s.1)
    {β : Type} {x y : β} {f : Int → Option (Int ⊕ β)} (hf : ∀ p : Int, a ≤ p → p < s.2.1.length → f p = if p < b then (if ¬ gl 0#64 s.2.1 p.toNat = 0#64 then some (.inr x) else some (.inl (p + 1))) else some (.inr y)) (hf2 : f b = some (.inr y)) :
    ∃ r, loopO f a = some r ∧ ((r = x ∧ ¬ Zero s i) ∨ (r = y ∧ Zero s i)) := by
  have hz := sz_le hs
  have m3 := (mul_sz hs (show 0 ≤ i + 1 by omega) (show i + 1 ≤ s.2.2.length by omega)).2
  rw [add_mul_sz] at m3
  have m0 := (mul_sz hs h0 (Int.le_refl i)).1
  refine loopO_up (fun k p => p = a + k ∧ ∀ j : Nat, a ≤ j → (j : Int) < p → gl 0#64 s.2.1 j = 0#64) _ (sz s.1).toNat ?_ ?_ ⟨by omega, fun j h2 h3 => by omega⟩
  · rintro k p hk ⟨rfl, hj⟩
    rw [hf _ (by omega) (by omega), if_pos (by omega)]
    by_cases hg : gl 0#64 s.2.1 (a + k).toNat = 0#64
    · rw [if_neg (by simp [hg])]
      refine .inl ⟨_, rfl, by omega, fun j h2 h3 => ?_⟩
      by_cases hjk : (j : Int) = a + k
      · rw [← hg]; congr 1; omega
      · exact hj j h2 (by omega)
    · rw [if_pos hg]
      refine .inr ⟨_, rfl, .inl ⟨rfl, fun hz => hg ?_⟩⟩
      exact hz (a + k).toNat (by omega) (by rw [add_mul_sz]; omega)
  · rintro p ⟨rfl, hj⟩
    have e : a + ((sz s.1).toNat : Int) = b := by omega
    rw [e] at hj ⊢
    rw [hf2]
    refine ⟨_, rfl, .inr ⟨rfl, fun j h2 h3 => hj j (by omega) ?_⟩⟩
    rw [add_mul_sz] at h3; omega

theorem cnt_set {xs : List Int} {j : Nat} {v : Int} (hj : j < xs.length) (k : Nat) : gl 0 (xs.set j v) k = if k = j then v else gl 0 xs k := gl_set hj

/-- What is known after some frames. -/
structure Some1 (s : Sp) (k : Nat) : Prop where
  fr : ∀ i : Int, 0 ≤ i → i < k → FrOk s i
  inj : ∀ i j : Int, 0 ≤ i → i < k → 0 ≤ j → j < k → nx s.2.2 i = nx s.2.2 j → nx s.2.2 i ≠ -1 → i = j
theorem Some1.free {s : Sp} {k : Nat} (h : Some1 s k) (hk : k < s.2.2.length) (hf : FrOk s k) (hn : nx s.2.2 k = -1) : Some1 s (k + 1) := by
  refine ⟨fun i h0 h1 => ?_, fun i j h0 h1 h2 h3 he hne => ?_⟩
  · by_cases hi : i = k
    · subst hi; exact hf
    · exact h.fr i h0 (by omega)
  · by_cases hi : i = k
    · subst hi; exact absurd hn hne
    · by_cases hj : j = k
      · subst hj; rw [he] at hne; exact absurd hn hne
      · exact h.inj i j h0 (by omega) h2 (by omega) he hne
theorem Some1.used {s : Sp} {k : Nat} (h : Some1 s k) (hk : k < s.2.2.length) (hf : FrOk s k) (hn : ∀ i : Int, 0 ≤ i → i < k → nx s.2.2 i ≠ nx s.2.2 k) : Some1 s (k + 1) := by
  refine ⟨fun i h0 h1 => ?_, fun i j h0 h1 h2 h3 he hne => ?_⟩
  · by_cases hi : i = k
    · subst hi; exact hf
    · exact h.fr i h0 (by omega)
  · by_cases hi : i = k
    · subst hi
      by_cases hj : j = k
      · omega
      · exact absurd he.symm (hn j h2 (by omega))
    · by_cases hj : j = k
      · subst hj; exact absurd he (hn i h0 (by omega))
      · exact h.inj i j h0 (by omega) h2 (by omega) he hne
theorem Some1.rng {s : Sp} (h : Some1 s s.2.2.length) : Rng s.2.2 := by
  intro i h0 h1
  rw [nx_in h0 h1]
  rcases h.fr i h0 h1 with ⟨hf, _⟩ | hu
  · rw [show (Go.V3.fr s.2.2 i).2.2 = -1 from by rw [hf]]; omega
  · exact ⟨hu.2.1, hu.2.2.1⟩

theorem rValid_ok (s : Sp) : ∃ b, Fbeltwayref03_Valid s = some b ∧ (b = true ↔ VS s) := by
  unfold Fbeltwayref03_Valid
  rw [rshift_ok]
  simp only [Option.bind_some]
  by_cases hs : 3 ≤ s.1 ∧ s.1 ≤ 8
  rotate_left
  · rw [if_pos (by simp [hs])]; exact ⟨_, rfl, no_iff fun h => hs h.sh⟩
  rw [if_neg (by simp [hs])]
  by_cases hn : (s.2.2.length : Int) < 2
  · rw [if_pos hn]; exact ⟨_, rfl, no_iff fun h => by have := h.n.1; omega⟩
  rw [if_neg hn]
  by_cases hn2 : (s.2.2.length : Int) > 64
  · rw [if_pos hn2]; exact ⟨_, rfl, no_iff fun h => by have := h.n.2; omega⟩
  have z := sz_le hs
  obtain ⟨q1, q2⟩ := mul_sz_le hs (by omega : 0 ≤ (s.2.2.length : Int)) (show (s.2.2.length : Int) ≤ 64 by omega)
  rw [if_neg hn2, if_pos trivial, pow_sz hs, w64_id (by omega) (by omega)]
  by_cases hw : (s.2.1.length : Int) = s.2.2.length * sz s.1
  rotate_left
  · rw [if_pos hw]; exact ⟨_, rfl, no_iff fun h => hw h.w⟩
  rw [if_neg (by simp [hw])]
  refine loopO_up (fun k st => st.1 = (k : Int) ∧ k ≤ s.2.2.length ∧ st.2.length = 64 ∧ Some1 s k ∧ ∀ j : Int, 0 ≤ j → j < 64 → (gl 0 st.2 j.toNat = 0 ∧ ∀ i : Int, 0 ≤ i → i < k → nx s.2.2 i ≠ j) ∨ (gl 0 st.2 j.toNat = 1 ∧ ∃ i : Int, 0 ≤ i ∧ i < k ∧ nx s.2.2 i = j)) _ s.2.2.length ?_ ?_
    ⟨rfl, by omega, by simp, ⟨fun i h0 h1 => by omega, fun i j h0 h1 => by omega⟩, fun j h0 h1 => .inl ⟨gl_rep (by omega), fun i h2 h3 => by omega⟩⟩
  · rintro k ⟨i, cs⟩ hk ⟨h1, h2, h3, h4, h5⟩
    simp only at h1 h2 h3 h4 h5 ⊢
    subst h1
    have ki : 0 ≤ (k : Int) ∧ (k : Int) < s.2.2.length := ⟨by omega, by omega⟩
    have i1 := (mul_sz hs ki.1 (show (k : Int) ≤ s.2.2.length by omega)).1
    have i2 := (mul_sz hs (show 0 ≤ (k : Int) + 1 by omega) (show (k : Int) + 1 ≤ s.2.2.length by omega)).2
    rw [add_mul_sz] at i2
    rw [if_pos ki.2, if_pos ki, if3, w64_id (e := (k : Int) + 1) (by omega) (by omega), add_mul_sz, w64_id (e := (k : Int) * sz s.1) (by omega) (by omega), w64_id (e := (k : Int) * sz s.1 + sz s.1) (by omega) (by omega)]
    have hfr : gl (0, 0, 0) s.2.2 (k : Int).toNat = fr s.2.2 k := rfl
    simp only [hfr]
    have hnx := nx_in ki.1 ki.2
    by_cases hf : (fr s.2.2 k).1 = -1 ∧ (fr s.2.2 k).2.1 = -1 ∧ (fr s.2.2 k).2.2 = -1
    · rw [if_pos hf, if_pos trivial]
      have hfree : Free (fr s.2.2 k) := by
        obtain ⟨a, b, c⟩ := hf
        unfold Free
        rw [← Prod.eta (fr s.2.2 k), ← Prod.eta (fr s.2.2 k).2, a, b, c]
      obtain ⟨r, hr, hc⟩ := zero_loop hs (by omega) hw ki.1 ki.2 rfl rfl (x := Sum.inr false) (y := Sum.inl ((k : Int) + 1, cs)) (f := fun s2 => if True then
          if s2 < (k : Int) * sz s.1 + sz s.1 then
          if 0 ≤ s2 ∧ s2 < (s.2.1.length : Int) then
          if ¬ (gl 0#64 s.2.1 s2.toNat) = (0#64) then
          some (Sum.inr (Sum.inr (false)))
          else some (Sum.inl (w64 (s2 + 1)))
          else none
          else some (Sum.inr (Sum.inl (((k : Int) + 1, cs))))
          else none) (fun p p0 p1 => by
            simp only [if_true]
            by_cases hp : p < (k : Int) * sz s.1 + sz s.1
            · rw [if_pos hp, if_pos ⟨by omega, p1⟩, if_pos hp, w64_id (by omega) (by omega)]
            · rw [if_neg hp, if_neg hp]) (by simp only [if_true]; rw [if_neg (by omega)])
      rw [hr]
      rcases hc with ⟨rfl, hc⟩ | ⟨rfl, hc⟩
      · refine .inr ⟨_, rfl, no_iff fun h => ?_⟩
        rcases h.fr k ki.1 ki.2 with h6 | h6
        · exact hc h6.2
        · have := h6.1.1; omega
      · refine .inl ⟨_, rfl, rfl, by omega, h3, h4.free hk (.inl ⟨hfree, hc⟩) (by rw [hnx, hf.2.2]), fun j j0 j1 => ?_⟩
        rcases h5 j j0 j1 with ⟨h6, h7⟩ | ⟨h6, i, h7, h8, h9⟩
        · refine .inl ⟨h6, fun i h8 h9 => ?_⟩
          by_cases hik : i = k
          · rw [hik, hnx, hf.2.2]; omega
          · exact h7 i h8 (by omega)
        · exact .inr ⟨h6, i, h7, by omega, h9⟩
    · rw [if_neg hf]
      obtain ⟨b, hb, hbs⟩ := stamped_ok (fr s.2.2 k)
      have nofree : ∀ h : VS s, UsedOk s.2.2 k := fun h => by
        rcases h.fr k ki.1 ki.2 with h6 | h6
        · exfalso; apply hf; rw [h6.1]; decide
        · exact h6
      have he : Fbeltwayref03_stamped ((fr s.2.2 k).1, (fr s.2.2 k).2) = some b := hb
      rw [he]
      simp only [Option.bind_some]
      by_cases hb' : b = true
      rotate_left
      · rw [if_pos (by simpa using hb')]; exact .inr ⟨_, rfl, no_iff fun h => hb' (hbs.2 (nofree h).1)⟩
      rw [if_neg (by simp [hb'])]
      have hst := hbs.1 hb'
      by_cases c1 : (fr s.2.2 k).2.2 < -1
      · rw [if_pos c1]; exact .inr ⟨_, rfl, no_iff fun h => by have := (nofree h).2.1; omega⟩
      rw [if_neg c1]
      by_cases c2 : (fr s.2.2 k).2.2 ≥ s.2.2.length
      · rw [if_pos c2]; exact .inr ⟨_, rfl, no_iff fun h => by have := (nofree h).2.2.1; omega⟩
      rw [if_neg c2]
      by_cases c3 : (fr s.2.2 k).2.2 = k
      · rw [if_pos c3]; exact .inr ⟨_, rfl, no_iff fun h => (nofree h).2.2.2.1 c3⟩
      rw [if_neg c3]
      by_cases c4 : (fr s.2.2 k).2.2 = -1
      · rw [if_pos c4]
        refine .inl ⟨_, rfl, rfl, by omega, h3, h4.free hk (.inr ⟨hst, by omega, by omega, c3, fun h => absurd c4 h⟩) (by rw [hnx, c4]), fun j j0 j1 => ?_⟩
        rcases h5 j j0 j1 with ⟨h6, h7⟩ | ⟨h6, i, h7, h8, h9⟩
        · refine .inl ⟨h6, fun i h8 h9 => ?_⟩
          by_cases hik : i = k
          · rw [hik, hnx, c4]; omega
          · exact h7 i h8 (by omega)
        · exact .inr ⟨h6, i, h7, by omega, h9⟩
      rw [if_neg c4]
      have hn0 : gl (0, 0, 0) s.2.2 ((fr s.2.2 k).2.2).toNat = fr s.2.2 (fr s.2.2 k).2.2 := rfl
      rw [hn0]
      generalize hnn : (fr s.2.2 k).2.2 = nn at *
      rw [if_pos ⟨by omega, by omega⟩, if_pos ⟨⟨by omega, by omega⟩, by omega⟩, if_pos ⟨⟨by omega, by omega⟩, by omega⟩]
      by_cases c5 : (fr s.2.2 nn).1 = (fr s.2.2 k).1
      rotate_left
      · rw [if_pos c5]; exact .inr ⟨_, rfl, no_iff fun h => c5 (by have := ((nofree h).2.2.2.2 (by omega)).1; rw [hnn] at this; exact this)⟩
      rw [if_neg (by simp [c5])]
      by_cases c6 : (fr s.2.2 nn).2.1 = (fr s.2.2 k).2.1
      rotate_left
      · rw [if_pos c6]; exact .inr ⟨_, rfl, no_iff fun h => c6 (by have := ((nofree h).2.2.2.2 (by omega)).2; rw [hnn] at this; exact this)⟩
      rw [if_neg (by simp [c6]), List.length_set, if_pos ⟨⟨by omega, by omega⟩, by omega⟩, cnt_set (by omega), if_pos rfl]
      rcases h5 nn (by omega) (by omega) with ⟨h6, h7⟩ | ⟨h6, i, h7, h8, h9⟩
      · rw [h6, w64_id (by omega) (by omega), if_neg (by omega)]
        refine .inl ⟨_, rfl, rfl, by omega, by simp [h3], h4.used hk (.inr ⟨hst, by omega, by omega, by omega, fun _ => by rw [hnn]; exact ⟨c5, c6⟩⟩) (fun i h8 h9 => by rw [hnx]; exact h7 i h8 h9), fun j j0 j1 => ?_⟩
        rw [cnt_set (by omega)]
        by_cases hj : j = nn
        · subst hj
          rw [if_pos rfl]
          exact .inr ⟨by omega, k, by omega, by omega, by rw [hnx]⟩
        · rw [if_neg (by omega)]
          rcases h5 j j0 j1 with ⟨h10, h11⟩ | ⟨h10, i, h11, h12, h13⟩
          · refine .inl ⟨h10, fun i h8 h9 => ?_⟩
            by_cases hik : i = k
            · rw [hik, hnx]; omega
            · exact h11 i h8 (by omega)
          · exact .inr ⟨h10, i, h11, by omega, h13⟩
      · rw [h6, w64_id (by omega) (by omega), if_pos (by omega)]
        refine .inr ⟨_, rfl, no_iff fun h => ?_⟩
        have := h.inj i k h7 (by omega) ki.1 ki.2 (by rw [h9, hnx]) (by rw [h9]; omega)
        omega
  · rintro ⟨i, cs⟩ ⟨h1, h2, h3, h4, h5⟩
    simp only at h1 h2 h3 h4 h5 ⊢
    subst h1
    rw [if_neg (by omega)]
    have hr := h4.rng
    refine map_inr ?_
    refine loopO_up (fun k i => i = (k : Int) ∧ k ≤ s.2.2.length ∧ ∀ j : Int, 0 ≤ j → j < k → ∃ l, Pa s.2.2 j l) _ s.2.2.length ?_ ?_ ⟨rfl, by omega, fun j h0 h1 => by omega⟩
    · rintro k i hk ⟨rfl, _, hp⟩
      rw [if_pos (by omega)]
      have hx : ∃ b, loopO (σ := Int × Int) (β := Int ⊕ Bool) (fun s4 : Int × Int =>
          if s4.2 ≤ (s.2.2.length : Int) then
          if ¬ s4.1 = (-1) then
          if 0 ≤ s4.1 ∧ s4.1 < (s.2.2.length : Int) then
          some (Sum.inl ((((gl (0, 0, 0) s.2.2 s4.1.toNat).2).2, w64 (s4.2 + 1))))
          else none
          else Option.map Sum.inr (if ¬ s4.1 = (-1) then
          some (Sum.inr (false))
          else some (Sum.inl (w64 ((k : Int) + 1))))
          else Option.map Sum.inr (if ¬ s4.1 = (-1) then
          some (Sum.inr (false))
          else some (Sum.inl (w64 ((k : Int) + 1))))) ((k : Int), 0) = some b ∧ ((b = Sum.inr false ∧ ¬ ∃ l, Pa s.2.2 k l) ∨ (b = Sum.inl ((k : Int) + 1) ∧ ∃ l, Pa s.2.2 k l)) := by
        refine loopO_up (fun m (st : Int × Int) => st.2 = (m : Int) ∧ st.1 = itn s.2.2 m k ∧ -1 ≤ st.1 ∧ st.1 < s.2.2.length) _ (s.2.2.length + 1) ?_ ?_ ⟨rfl, rfl, by simp only; omega, by simp only; omega⟩
        · rintro m ⟨f, q⟩ hm ⟨e1, e2, e3, e4⟩
          simp only at e1 e2 e3 e4 ⊢
          subst e1
          rw [if_pos (by omega)]
          by_cases hf : f = -1
          · rw [if_neg (by simp [hf]), if_neg (by simp [hf]), w64_id (by omega) (by omega)]
            exact .inr ⟨_, rfl, .inr ⟨rfl, Pa.of_itn hr m k (by omega) (by omega) (by rw [← e2, hf])⟩⟩
          · rw [if_pos hf, if_pos ⟨by omega, e4⟩, w64_id (by omega) (by omega)]
            have := hr f (by omega) e4
            have h0 : (gl (0, 0, 0) s.2.2 f.toNat).2.2 = nx s.2.2 f := (nx_in (by omega) e4).symm
            rw [h0]
            exact .inl ⟨_, rfl, by simp only; omega, by rw [itn, ← e2], this.1, this.2⟩
        · rintro ⟨f, q⟩ ⟨e1, e2, e3, e4⟩
          simp only at e1 e2 e3 e4 ⊢
          rw [if_neg (by omega)]
          by_cases hf : f = -1
          · rw [if_neg (by simp [hf]), w64_id (by omega) (by omega)]
            exact ⟨_, rfl, .inr ⟨rfl, Pa.of_itn hr _ k (by omega) (by omega) (by rw [← e2, hf])⟩⟩
          · rw [if_pos hf]
            refine ⟨_, rfl, .inl ⟨rfl, ?_⟩⟩
            rintro ⟨l, hl⟩
            exact hf (by rw [e2]; exact hl.ends _ (by have := hl.length; omega))
      obtain ⟨b, hb, hc⟩ := hx
      rw [hb]
      rcases hc with ⟨rfl, hc⟩ | ⟨rfl, hc⟩
      · exact .inr ⟨_, rfl, no_iff fun h => hc (h.acy k (by omega) (by omega))⟩
      · refine .inl ⟨_, rfl, by omega, by omega, fun j j0 j1 => ?_⟩
        by_cases hjk : j = k
        · subst hjk; exact hc
        · exact hp j j0 (by omega)
    · rintro i ⟨rfl, _, hp⟩
      rw [if_neg (by omega)]
      exact ⟨_, rfl, iff_of_true rfl ⟨hs, ⟨by omega, by omega⟩, hw, h4.fr, h4.inj, hp⟩⟩

theorem fzero_ok (xs : List (BitVec 64)) (h : xs.length ≤ 1000000) : ∃ b, Fframe_zero xs = some b ∧ (b = true ↔ ∀ j, j < xs.length → gl 0#64 xs j = 0#64) := by
  unfold Fframe_zero
  refine loopO_up (fun k s => s = (k : Int) ∧ k ≤ xs.length ∧ ∀ j, j < k → gl 0#64 xs j = 0#64) _ xs.length ?_ ?_ ⟨rfl, by omega, fun j h1 => by omega⟩
  · rintro k s hk ⟨rfl, _, hj⟩
    rw [if_pos (by omega), if_pos (by omega), show (k : Int).toNat = k from rfl]
    by_cases h0 : gl 0#64 xs k = 0#64
    · rw [if_neg (by simp [h0]), w64_id (by omega) (by omega)]
      refine .inl ⟨_, rfl, by omega, by omega, fun j hj1 => ?_⟩
      by_cases hjk : j = k
      · subst hjk; exact h0
      · exact hj j (by omega)
    · rw [if_pos h0]
      exact .inr ⟨_, rfl, no_iff fun hh => h0 (hh k hk)⟩
  · rintro s ⟨rfl, _, hj⟩
    rw [if_neg (by omega)]
    exact ⟨_, rfl, iff_of_true rfl hj⟩

theorem straight_ok (s : Sp) (hr : Rng s.2.2) (hn : s.2.2.length ≤ 64) : ∃ b, Fframe_straight s = some b ∧ (b = true ↔ ∀ i : Int, 0 ≤ i → i < s.2.2.length → ∃ l, Pa s.2.2 i l) := by
  unfold Fframe_straight
  refine loopO_up (fun k i => i = (k : Int) ∧ k ≤ s.2.2.length ∧ ∀ i : Int, 0 ≤ i → i < k → ∀ q : Nat, 1 ≤ q → q ≤ s.2.2.length → itn s.2.2 q i ≠ i) _ s.2.2.length ?_ ?_ ⟨rfl, by omega, fun j h0 h1 => by omega⟩
  · rintro k i hk ⟨rfl, _, hp⟩
    rw [if_pos (by omega), if_pos (by omega)]
    have hx : ∃ b, loopO (σ := (Int × Int)) (β := (Int ⊕ Bool)) (fun s2 =>
        if s2.1 ≥ 0 then
        if s2.2 < (s.2.2.length : Int) then
        if s2.1 = (k : Int) then
        some (Sum.inr (Sum.inr (false)))
        else if 0 ≤ s2.1 ∧ s2.1 < (s.2.2.length : Int) then
        some (Sum.inl ((((gl ((0, 0, 0) : (Int × Int × Int)) s.2.2 s2.1.toNat).2).2, w64 (s2.2 + 1))))
        else none
        else some (Sum.inr (Sum.inl (w64 ((k : Int) + 1))))
        else some (Sum.inr (Sum.inl (w64 ((k : Int) + 1))))) ((((gl ((0, 0, 0) : (Int × Int × Int)) s.2.2 (k : Int).toNat).2).2, 0)) = some b ∧
          ((b = Sum.inr false ∧ ∃ q : Nat, 1 ≤ q ∧ itn s.2.2 q k = k) ∨ (b = Sum.inl ((k : Int) + 1) ∧ ∀ q : Nat, 1 ≤ q → q ≤ s.2.2.length → itn s.2.2 q k ≠ k)) := by
      have h1 := hr k (by omega) (by omega)
      have h2 : (gl ((0, 0, 0) : (Int × Int × Int)) s.2.2 (k : Int).toNat).2.2 = nx s.2.2 k := (nx_in (by omega) (by omega)).symm
      rw [h2, w64_id (by omega) (by omega)]
      refine loopO_up (fun m (st : Int × Int) => st.2 = (m : Int) ∧ m ≤ s.2.2.length ∧ st.1 = itn s.2.2 (m + 1) k ∧ -1 ≤ st.1 ∧ st.1 < s.2.2.length ∧ ∀ q : Nat, 1 ≤ q → q ≤ m → itn s.2.2 q k ≠ k) _ s.2.2.length ?_ ?_ ⟨rfl, by omega, rfl, h1.1, h1.2, fun q h1 h2 => by omega⟩
      · rintro m ⟨f, q⟩ hm ⟨e1, e0, e2, e3, e4, e5⟩
        simp only at e1 e2 e3 e4 ⊢
        subst e1
        by_cases hf : f ≥ 0
        · rw [if_pos hf, if_pos (by omega)]
          by_cases hfk : f = k
          · rw [if_pos hfk]
            exact .inr ⟨_, rfl, .inl ⟨rfl, m + 1, by omega, by rw [← e2, hfk]⟩⟩
          · rw [if_neg hfk, if_pos ⟨hf, e4⟩, w64_id (by omega) (by omega)]
            have := hr f hf e4
            have h0 : (gl ((0, 0, 0) : (Int × Int × Int)) s.2.2 f.toNat).2.2 = nx s.2.2 f := (nx_in hf e4).symm
            rw [h0]
            refine .inl ⟨_, rfl, by simp only; omega, by omega, by simp only; rw [e2]; rfl, this.1, this.2, fun q q1 q2 => ?_⟩
            by_cases hq : q = m + 1
            · subst hq; rw [← e2]; exact hfk
            · exact e5 q q1 (by omega)
        · rw [if_neg hf]
          refine .inr ⟨_, rfl, .inr ⟨rfl, fun q q1 q2 => ?_⟩⟩
          by_cases hq : q ≤ m
          · exact e5 q q1 hq
          · obtain ⟨d, rfl⟩ := Nat.exists_eq_add_of_le (show m + 1 ≤ q by omega)
            rw [itn_add, ← e2, show f = -1 from by omega, itn_neg]
            omega
      · rintro ⟨f, q⟩ ⟨e1, e0, e2, e3, e4, e5⟩
        simp only at e1 e2 e3 e4 ⊢
        subst e1
        rw [if_neg (by omega : ¬ ((s.2.2.length : Int) < s.2.2.length))]
        have h6 : (if f ≥ 0 then some (Sum.inr (Sum.inl ((k : Int) + 1))) else some (Sum.inr (Sum.inl ((k : Int) + 1)))) = some (Sum.inr (α := Int × Int) (Sum.inl (β := Bool) ((k : Int) + 1))) := by split <;> rfl
        rw [h6]
        exact ⟨_, rfl, .inr ⟨rfl, fun q q1 q2 => e5 q q1 q2⟩⟩
    obtain ⟨b, hb, hc⟩ := hx
    rw [hb]
    rcases hc with ⟨rfl, q, q1, q2⟩ | ⟨rfl, hc⟩
    · refine .inr ⟨_, rfl, no_iff fun h => ?_⟩
      obtain ⟨l, hl⟩ := h k (by omega) (by omega)
      exact hl.straight (by omega) q q1 q2
    · refine .inl ⟨_, rfl, by omega, by omega, fun i i0 i1 => ?_⟩
      by_cases hik : i = k
      · subst hik; exact hc
      · exact hp i i0 (by omega)
  · rintro i ⟨rfl, _, hp⟩
    rw [if_neg (by omega)]
    exact ⟨_, rfl, iff_of_true rfl fun i i0 i1 => Pa.of_straight hr hp i i0 i1⟩

theorem ofInt_bit {i : Int} {m : Int} (h0 : 0 ≤ i) (h1 : i < 64) (h2 : 0 ≤ m) (h3 : m < 64) : (i.toNat = m.toNat) ↔ i = m := by omega

/-- Stamps are Go ints. -/
def StI (s : Sp) : Prop := ∀ i : Int, 0 ≤ i → i < s.2.2.length → (fr s.2.2 i).2.1 ≤ 9223372036854775807
theorem fValid_ok (s : Sp) (hI : StI s) : ∃ b, Fframe_Valid s = some b ∧ (b = true ↔ VS s) := by
  unfold Fframe_Valid
  rw [fshift_ok]
  simp only [Option.bind_some]
  by_cases hs : 3 ≤ s.1 ∧ s.1 ≤ 8
  rotate_left
  · rw [if_pos (by simp [hs])]; exact ⟨_, rfl, no_iff fun h => hs h.sh⟩
  rw [if_neg (by simp [hs])]
  by_cases hn : (s.2.2.length : Int) < 2
  · rw [if_pos hn]; exact ⟨_, rfl, no_iff fun h => by have := h.n.1; omega⟩
  rw [if_neg hn]
  by_cases hn2 : (s.2.2.length : Int) > 64
  · rw [if_pos hn2]; exact ⟨_, rfl, no_iff fun h => by have := h.n.2; omega⟩
  have z := sz_le hs
  obtain ⟨q1, q2⟩ := mul_sz_le hs (by omega : 0 ≤ (s.2.2.length : Int)) (show (s.2.2.length : Int) ≤ 64 by omega)
  rw [if_neg hn2, if_pos trivial, pow_sz hs, w64_id (by omega) (by omega)]
  by_cases hw : (s.2.1.length : Int) = s.2.2.length * sz s.1
  rotate_left
  · rw [if_pos hw]; exact ⟨_, rfl, no_iff fun h => hw h.w⟩
  rw [if_neg (by simp [hw])]
  refine loopO_up (fun k (st : BitVec 64 × Int) => st.2 = (k : Int) ∧ k ≤ s.2.2.length ∧ Some1 s k ∧ ∀ j : Int, 0 ≤ j → j < 64 → (st.1.getLsbD j.toNat = true ↔ ∃ i : Int, 0 ≤ i ∧ i < k ∧ nx s.2.2 i = j)) _ s.2.2.length ?_ ?_
    ⟨rfl, by omega, ⟨fun i h0 h1 => by omega, fun i j h0 h1 => by omega⟩, fun j h0 h1 => ⟨fun h => by simp at h, fun ⟨i, h2, h3, _⟩ => by omega⟩⟩
  · rintro k ⟨bs, i⟩ hk ⟨h1, h2, h4, h5⟩
    simp only at h1 h2 h4 h5 ⊢
    subst h1
    have ki : 0 ≤ (k : Int) ∧ (k : Int) < s.2.2.length := ⟨by omega, by omega⟩
    have i1 := (mul_sz hs ki.1 (show (k : Int) ≤ s.2.2.length by omega)).1
    have i2 := (mul_sz hs (show 0 ≤ (k : Int) + 1 by omega) (show (k : Int) + 1 ≤ s.2.2.length by omega)).2
    rw [add_mul_sz] at i2
    rw [if_pos ki.2, if_pos ki, w64_id (e := (k : Int) + 1) (by omega) (by omega), add_mul_sz, w64_id (e := (k : Int) * sz s.1) (by omega) (by omega), w64_id (e := (k : Int) * sz s.1 + sz s.1) (by omega) (by omega)]
    have hfr : gl (0, 0, 0) s.2.2 (k : Int).toNat = fr s.2.2 k := rfl
    simp only [hfr, if_true]
    have hnx := nx_in ki.1 ki.2
    have keep : ∀ k' : Nat, k' = k + 1 → nx s.2.2 k = -1 → ∀ j : Int, 0 ≤ j → j < 64 → (bs.getLsbD j.toNat = true ↔ ∃ i : Int, 0 ≤ i ∧ i < k' ∧ nx s.2.2 i = j) := by
      rintro k' rfl hm j j0 j1
      rw [h5 j j0 j1]
      constructor
      · rintro ⟨i, i0, i1, i2⟩; exact ⟨i, i0, by omega, i2⟩
      · rintro ⟨i, i0, i1, i2⟩
        refine ⟨i, i0, ?_, i2⟩
        by_cases hik : i = k
        · rw [hik, hm] at i2; omega
        · omega
    by_cases hf : (fr s.2.2 k).1 = -1
    · rw [if_pos hf]
      by_cases hf2 : (fr s.2.2 k).2.1 = -1
      rotate_left
      · rw [if_pos hf2]
        refine .inr ⟨_, rfl, no_iff fun h => ?_⟩
        rcases h.fr k ki.1 ki.2 with h6 | h6
        · rw [h6.1] at hf2; simp at hf2
        · have := h6.1.1; omega
      rw [if_neg (by simp [hf2])]
      by_cases hf3 : (fr s.2.2 k).2.2 = -1
      rotate_left
      · rw [if_pos hf3]
        refine .inr ⟨_, rfl, no_iff fun h => ?_⟩
        rcases h.fr k ki.1 ki.2 with h6 | h6
        · rw [h6.1] at hf3; simp at hf3
        · have := h6.1.1; omega
      rw [if_neg (by simp [hf3])]
      have hfree : Free (fr s.2.2 k) := by
        unfold Free
        rw [← Prod.eta (fr s.2.2 k), ← Prod.eta (fr s.2.2 k).2, hf, hf2, hf3]
      rw [if_pos ⟨⟨by omega, by omega⟩, by omega, by omega⟩]
      have hl : (subl s.2.1 ((k : Int) * sz s.1).toNat (((k : Int) * sz s.1 + sz s.1).toNat - ((k : Int) * sz s.1).toNat)).length = ((k : Int) * sz s.1 + sz s.1).toNat - ((k : Int) * sz s.1).toNat := subl_length (by omega)
      obtain ⟨b, hb, hc⟩ := fzero_ok (subl s.2.1 ((k : Int) * sz s.1).toNat (((k : Int) * sz s.1 + sz s.1).toNat - ((k : Int) * sz s.1).toNat)) (by omega)
      rw [hl] at hc
      have hz : (b = true ↔ Zero s k) := by
        rw [hc]
        constructor
        · intro h a a0 a1
          rw [add_mul_sz] at a1
          have := h (a - ((k : Int) * sz s.1).toNat) (by omega)
          rw [gl_subl (by omega)] at this
          rw [← this]; congr 1; omega
        · intro h j hj
          rw [gl_subl hj]
          exact h _ (by omega) (by rw [add_mul_sz]; omega)
      rw [hb]
      simp only [Option.bind_some]
      by_cases hb' : b = true
      · rw [if_neg (by simp [hb'])]
        exact .inl ⟨_, rfl, rfl, by omega, h4.free hk (.inl ⟨hfree, hz.1 hb'⟩) (by rw [hnx, hf3]), keep _ rfl (by rw [hnx, hf3])⟩
      · rw [if_pos (by simpa using hb')]
        refine .inr ⟨_, rfl, no_iff fun h => ?_⟩
        rcases h.fr k ki.1 ki.2 with h6 | h6
        · exact hb' (hz.2 h6.2)
        · have := h6.1.1; omega
    · rw [if_neg hf]
      have nofree : ∀ h : VS s, UsedOk s.2.2 k := fun h => by
        rcases h.fr k ki.1 ki.2 with h6 | h6
        · exfalso; apply hf; rw [h6.1]
        · exact h6
      by_cases d1 : (fr s.2.2 k).1 < 0
      · rw [if_pos d1]; exact .inr ⟨_, rfl, no_iff fun h => by have := (nofree h).1.1; omega⟩
      rw [if_neg d1]
      by_cases d2 : (fr s.2.2 k).1 > 4294967295
      · rw [if_pos d2]; exact .inr ⟨_, rfl, no_iff fun h => by have := (nofree h).1.2.1; omega⟩
      rw [if_neg d2]
      by_cases d3 : (fr s.2.2 k).2.1 < 0
      · rw [if_pos d3]; exact .inr ⟨_, rfl, no_iff fun h => by obtain ⟨_, _, b, _, _, hb⟩ := (nofree h).1; omega⟩
      rw [if_neg d3, if_pos (by omega), Int.tmod_eq_emod_of_nonneg (by omega), Int.tdiv_eq_ediv_of_nonneg (by omega)]
      by_cases d4 : (fr s.2.2 k).2.1 % 4294967296 = (fr s.2.2 k).1
      rotate_left
      · rw [if_pos d4]; exact .inr ⟨_, rfl, no_iff fun h => by obtain ⟨_, _, b, _, _, hb⟩ := (nofree h).1; omega⟩
      rw [if_neg (by simp [d4]), if_pos (by decide : ¬ (4294967296 : Int) = 0)]
      by_cases d5 : w64 ((fr s.2.2 k).2.1 / 4294967296) ≥ 4
      · rw [if_pos d5]
        refine .inr ⟨_, rfl, no_iff fun h => ?_⟩
        obtain ⟨_, _, b, _, _, hb⟩ := (nofree h).1
        rw [w64_id (by omega) (by omega)] at d5
        omega
      rw [if_neg d5]
      by_cases c1 : (fr s.2.2 k).2.2 < -1
      · rw [if_pos c1]; exact .inr ⟨_, rfl, no_iff fun h => by have := (nofree h).2.1; omega⟩
      rw [if_neg c1]
      by_cases c2 : (fr s.2.2 k).2.2 ≥ s.2.2.length
      · rw [if_pos c2]; exact .inr ⟨_, rfl, no_iff fun h => by have := (nofree h).2.2.1; omega⟩
      rw [if_neg c2]
      by_cases c3 : (fr s.2.2 k).2.2 = k
      · rw [if_pos c3]; exact .inr ⟨_, rfl, no_iff fun h => (nofree h).2.2.2.1 c3⟩
      rw [if_neg c3]
      have hI' := hI k ki.1 ki.2
      rw [w64_id (by omega) (by omega)] at d5
      have hst : Stamped (fr s.2.2 k) := ⟨by omega, by omega, (fr s.2.2 k).2.1 / 4294967296, by omega, by omega, by omega⟩
      by_cases c4 : (fr s.2.2 k).2.2 < 0
      · rw [if_pos c4]
        have c4' : (fr s.2.2 k).2.2 = -1 := by omega
        exact .inl ⟨_, rfl, rfl, by omega, h4.free hk (.inr ⟨hst, by omega, by omega, c3, fun h => absurd c4' h⟩) (by rw [hnx, c4']), keep _ rfl (by rw [hnx, c4'])⟩
      rw [if_neg c4]
      have hn0 : gl (0, 0, 0) s.2.2 ((fr s.2.2 k).2.2).toNat = fr s.2.2 (fr s.2.2 k).2.2 := rfl
      rw [hn0]
      generalize hnn : (fr s.2.2 k).2.2 = nn at *
      rw [if_pos ⟨by omega, by omega⟩, idx_toNat (by omega) (by omega)]
      by_cases c7 : (bs >>> nn.toNat) &&& 1#64 = 1#64
      · rw [if_pos c7]
        refine .inr ⟨_, rfl, no_iff fun h => ?_⟩
        obtain ⟨i, i0, i1, i2⟩ := (h5 nn (by omega) (by omega)).1 ((bit_test _ _).1 c7)
        have := h.inj i k i0 (by omega) ki.1 ki.2 (by rw [i2, hnx]) (by rw [i2]; omega)
        omega
      rw [if_neg c7]
      rw [bit_test, h5 nn (by omega) (by omega)] at c7
      by_cases c5 : (fr s.2.2 nn).1 = (fr s.2.2 k).1
      rotate_left
      · rw [if_pos c5]; exact .inr ⟨_, rfl, no_iff fun h => c5 (by have := ((nofree h).2.2.2.2 (by omega)).1; rw [hnn] at this; exact this)⟩
      rw [if_neg (by simp [c5])]
      by_cases c6 : (fr s.2.2 nn).2.1 = (fr s.2.2 k).2.1
      rotate_left
      · rw [if_pos c6]; exact .inr ⟨_, rfl, no_iff fun h => c6 (by have := ((nofree h).2.2.2.2 (by omega)).2; rw [hnn] at this; exact this)⟩
      rw [if_neg (by simp [c6])]
      refine .inl ⟨_, rfl, rfl, by omega, h4.used hk (.inr ⟨hst, by omega, by omega, by omega, fun _ => by rw [hnn]; exact ⟨c5, c6⟩⟩) (fun i h8 h9 he => c7 ⟨i, h8, h9, by rw [he, hnx]⟩), fun j j0 j1 => ?_⟩
      simp only
      rw [bit_set _ _ (by omega), Bool.or_eq_true, h5 j j0 j1, decide_eq_true_iff]
      constructor
      · rintro (⟨i, i0, i1, i2⟩ | h6)
        · exact ⟨i, i0, by omega, i2⟩
        · exact ⟨k, by omega, by omega, by rw [hnx]; omega⟩
      · rintro ⟨i, i0, i1, i2⟩
        by_cases hik : i = k
        · right; rw [hik, hnx] at i2; omega
        · left; exact ⟨i, i0, by omega, i2⟩
  · rintro ⟨bs, i⟩ ⟨h1, h2, h4, h5⟩
    simp only at h1 h2 h4 h5 ⊢
    subst h1
    rw [if_neg (by omega)]
    refine map_inr ?_
    obtain ⟨b, hb, hc⟩ := straight_ok s h4.rng (by omega)
    rw [hb]
    exact ⟨b, rfl, hc.trans ⟨fun h => ⟨hs, ⟨by omega, by omega⟩, hw, h4.fr, h4.inj, h⟩, fun h => h.acy⟩⟩
end Go.Proofs.YtokeceeccmgcmaaDoor
