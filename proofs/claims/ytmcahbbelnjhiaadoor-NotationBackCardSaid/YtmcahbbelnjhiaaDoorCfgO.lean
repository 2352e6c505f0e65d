/-
  Laws of package config: which configurations are valid, which are complete, and caps.
-/
import Derived.Test.YtmcahbbelnjhiaaDoorCfgM
set_option linter.unusedVariables false
namespace Go.Proofs.YtmcahbbelnjhiaaDoor
open Go Go.V3

/-- One rule, as the reference looks at it. -/
theorem rRule_ok {x : Nat} {l q t b last : Int} {n : Nat} (hx : x < 18446744073709551616) (hn : (n : Int) = last + 1) (b1 : b ≤ last) {α : Type} (ok mark : Option (α ⊕ Int)) (hno : mark = mark) :
    (if (!(decide (VV x))) = true then
      some (Sum.inr (6))
      else if l < 0 then
      some (Sum.inr (9))
      else if l > 64 then
      some (Sum.inr (9))
      else if q < 0 then
      some (Sum.inr (9))
      else if q > 64 then
      some (Sum.inr (9))
      else if b = last then
      if ¬ l = 0 then
      some (Sum.inr (9))
      else if b = last then
      if ¬ t = b then
      some (Sum.inr (10))
      else if ¬ (b = last) then
      if t ≤ b then
      some (Sum.inr (10))
      else if t ≥ (n : Int) then
      some (Sum.inr (10))
      else if ¬ (b = last) then
      mark
      else ok
      else if ¬ (b = last) then
      mark
      else ok
      else if ¬ (b = last) then
      if t ≤ b then
      some (Sum.inr (10))
      else if t ≥ (n : Int) then
      some (Sum.inr (10))
      else if ¬ (b = last) then
      mark
      else ok
      else if ¬ (b = last) then
      mark
      else ok
      else if b = last then
      if ¬ t = b then
      some (Sum.inr (10))
      else if ¬ (b = last) then
      if t ≤ b then
      some (Sum.inr (10))
      else if t ≥ (n : Int) then
      some (Sum.inr (10))
      else if ¬ (b = last) then
      mark
      else ok
      else if ¬ (b = last) then
      mark
      else ok
      else if ¬ (b = last) then
      if t ≤ b then
      some (Sum.inr (10))
      else if t ≥ (n : Int) then
      some (Sum.inr (10))
      else if ¬ (b = last) then
      mark
      else ok
      else if ¬ (b = last) then
      mark
      else ok : Option (α ⊕ Int)) = if rErr (x, l, q, t) b last ≠ 0 then some (Sum.inr (rErr (x, l, q, t) b last)) else if b = last then ok else mark := by
  have hL : LimBad (x, l, q, t) b last ↔ l < 0 ∨ 64 < l ∨ q < 0 ∨ 64 < q ∨ (b = last ∧ l ≠ 0) := Iff.rfl
  have hT : TgtBad (x, l, q, t) b last ↔ (b = last ∧ t ≠ b) ∨ (b < last ∧ (t ≤ b ∨ last < t)) := Iff.rfl
  unfold rErr
  simp only
  by_cases hv : VV x
  rotate_left
  · rw [if_pos (by simp [hv]), if_pos hv, if_pos (by decide)]
  rw [if_neg (by simp [hv]), if_neg (not_not_intro hv)]
  by_cases c1 : LimBad (x, l, q, t) b last
  · rw [if_pos c1, if_pos (show (9 : Int) ≠ 0 from by decide)]
    have c1' := hL.1 c1
    by_cases d1 : l < 0
    · rw [if_pos d1]
    rw [if_neg d1]
    by_cases d2 : l > 64
    · rw [if_pos d2]
    rw [if_neg d2]
    by_cases d3 : q < 0
    · rw [if_pos d3]
    rw [if_neg d3]
    by_cases d4 : q > 64
    · rw [if_pos d4]
    rw [if_neg d4, if_pos (by omega), if_pos (by omega)]
  · have c1' : ¬ (l < 0 ∨ 64 < l ∨ q < 0 ∨ 64 < q ∨ (b = last ∧ l ≠ 0)) := fun h => c1 (hL.2 h)
    rw [if_neg c1, if_neg (show ¬ l < 0 by omega), if_neg (show ¬ l > 64 by omega), if_neg (show ¬ q < 0 by omega), if_neg (show ¬ q > 64 by omega)]
    by_cases e : b = last
    · rw [if_pos e, if_neg (show ¬ ¬ l = 0 by omega), if_pos e, if_pos e]
      by_cases d5 : t = b
      · have nt : ¬ TgtBad (x, l, q, t) b last := fun h => by have := hT.1 h; omega
        rw [if_neg (not_not_intro d5), if_neg (not_not_intro e), if_neg (not_not_intro e), if_neg nt, if_neg (by decide)]
      · rw [if_pos d5, if_pos (hT.2 (.inl ⟨e, d5⟩)), if_pos (by decide)]
    · rw [if_neg e, if_neg e, if_neg e, if_pos e]
      by_cases d5 : t ≤ b
      · rw [if_pos d5, if_pos (hT.2 (.inr ⟨by omega, .inl d5⟩)), if_pos (by decide)]
      · rw [if_neg d5]
        by_cases d6 : t ≥ (n : Int)
        · rw [if_pos d6, if_pos (hT.2 (.inr ⟨by omega, .inr (by omega)⟩)), if_pos (by decide)]
        · have nt : ¬ TgtBad (x, l, q, t) b last := fun h => by have := hT.1 h; omega
          rw [if_neg d6, if_pos e, if_neg nt, if_neg (by decide)]
theorem fe_range (c : Cf) {k : Int} (h : rErr (ru c k) k ((c.2.1.length : Int) - 1) = 0) : ¬ TgtBad (ru c k) k ((c.2.1.length : Int) - 1) := by
  unfold rErr at h
  intro ht
  by_cases hv : VV (ru c k).1
  · rw [if_neg (not_not_intro hv)] at h
    by_cases hl : LimBad (ru c k) k ((c.2.1.length : Int) - 1)
    · rw [if_pos hl] at h; exact absurd h (by decide)
    · rw [if_neg hl, if_pos ht] at h; exact absurd h (by decide)
  · rw [if_pos hv] at h; exact absurd h (by decide)
open Classical in
theorem rCheck_ok {c : Cf} (hn : c.2.1.length ≤ 1000) (hsz : c.1.size ≤ 1000000) (hs : Sh c) : Fbeltwayref12_Check c = some (chk c) := by
  unfold Fbeltwayref12_Check chk
  obtain ⟨nb, n1, n2⟩ := rNamed_ok c.1 hsz
  rw [n1, Option.bind_some]
  by_cases hnm : nmOk c.1
  rotate_left
  · rw [if_pos (by simp only [Bool.not_eq_true']; cases nb with | false => rfl | true => exact absurd (n2.1 rfl) hnm), if_pos hnm]
  rw [if_neg (by simp [n2.2 hnm]), if_neg (not_not_intro hnm)]
  by_cases c1 : (c.2.1.length : Int) < 1
  · rw [if_pos c1, if_pos (by omega)]
  rw [if_neg c1]
  by_cases c2 : (c.2.1.length : Int) > 4
  · rw [if_pos c2, if_pos (by omega)]
  rw [if_neg c2, if_neg (show ¬ ¬ (1 ≤ c.2.1.length ∧ c.2.1.length ≤ 4) from by omega), if_pos (by simp), w64_id (e := (c.2.1.length : Int) - 1) (by omega) (by omega)]
  have hr : ∀ i : Int, gl (0, 0, 0, 0) c.2.1 i.toNat = ru c i := fun _ => rfl
  refine loopO_to (fun m (st : Int × List Bool) => ∃ p : Nat, st.1 = (p : Int) ∧ m = c.2.1.length - p ∧ p ≤ c.2.1.length ∧ fe c (c.2.1.length - p) p = fe c c.2.1.length 0 ∧ st.2.length = 4 ∧ (∀ k : Int, 0 ≤ k → k < p → rErr (ru c k) k ((c.2.1.length : Int) - 1) = 0) ∧
    ∀ j : Nat, j < 4 → (gl false st.2 j = true ↔ (j = 0 ∨ ∃ k : Int, (0 ≤ k ∧ k < p ∧ k < (c.2.1.length : Int) - 1) ∧ (ru c k).2.2.2 = (j : Int)))) (n := c.2.1.length) ?_ ⟨0, rfl, by omega, by omega, by simp, rfl, fun k k0 k1 => by omega, ?_⟩
  · rintro m ⟨i, am⟩ ⟨p, rfl, h1, h2, h3, h4, h5, h6⟩
    simp only at h4 h6 ⊢
    by_cases hp : p < c.2.1.length
    · have f1 : m - 1 < m ∧ m - 1 = c.2.1.length - (p + 1) ∧ p + 1 ≤ c.2.1.length := by clear h6 h5; omega
      rw [if_pos (by clear h6 h5; omega), if_pos (by clear h6 h5; omega), hr, rValid_eq, sValid_ok (hs p (by clear h6 h5; omega) (by clear h6 h5; omega)), Option.bind_some, w64_id (e := (p : Int) + 1) (by clear h6 h5; omega) (by clear h6 h5; omega)]
      have hbody := rRule_ok (x := (ru c p).1) (l := (ru c p).2.1) (q := (ru c p).2.2.1) (t := (ru c p).2.2.2) (b := (p : Int)) (last := (c.2.1.length : Int) - 1) (n := c.2.1.length) (hs p (by clear h6 h5; omega) (by clear h6 h5; omega)) (by clear h6 h5; omega) (by clear h6 h5; omega)
        (α := Int × List Bool) (some (Sum.inl ((p : Int) + 1, am))) (if (0 ≤ (ru c p).2.2.2 ∧ (ru c p).2.2.2 < ((4 : Nat) : Int)) ∧ (ru c p).2.2.2 < (am.length : Int) then some (Sum.inl ((p : Int) + 1, am.set (ru c p).2.2.2.toNat true)) else none) rfl
      rw [hbody, show ((ru c p).1, (ru c p).2.1, (ru c p).2.2.1, (ru c p).2.2.2) = ru c p from rfl]
      obtain ⟨d, hd⟩ : ∃ d, c.2.1.length - p = d + 1 := ⟨c.2.1.length - p - 1, by clear h6 h5; omega⟩
      rw [hd, fe] at h3
      by_cases he : rErr (ru c p) p ((c.2.1.length : Int) - 1) = 0
      · rw [if_neg (not_not_intro he)] at h3
        rw [if_neg (not_not_intro he)]
        have hd' : c.2.1.length - (p + 1) = d := by clear h6 h5; omega
        have h5' : ∀ k : Int, 0 ≤ k → k < ((p + 1 : Nat) : Int) → rErr (ru c k) k ((c.2.1.length : Int) - 1) = 0 := fun k k0 k1 => by
          by_cases e : k = p
          · rw [e]; exact he
          · exact h5 k k0 (by clear h6 h5; omega)
        right
        by_cases hl : (p : Int) = (c.2.1.length : Int) - 1
        · rw [if_pos hl]
          refine ⟨m - 1, _, f1.1, rfl, p + 1, rfl, f1.2.1, f1.2.2, by rw [hd']; exact h3, h4, h5', fun j hj => ?_⟩
          rw [h6 j hj]
          constructor
          · rintro (h | ⟨k, k1, k2⟩)
            · exact .inl h
            · exact .inr ⟨k, ⟨k1.1, by clear h6 h5; omega, k1.2.2⟩, k2⟩
          · rintro (h | ⟨k, k1, k2⟩)
            · exact .inl h
            · exact .inr ⟨k, ⟨k1.1, by clear h6 h5; omega, k1.2.2⟩, k2⟩
        · have ht := fe_range c he
          have hT : ¬ (((p : Int) = (c.2.1.length : Int) - 1 ∧ (ru c p).2.2.2 ≠ p) ∨ ((p : Int) < (c.2.1.length : Int) - 1 ∧ ((ru c p).2.2.2 ≤ p ∨ (c.2.1.length : Int) - 1 < (ru c p).2.2.2))) := ht
          have hrng : (p : Int) < (ru c p).2.2.2 ∧ (ru c p).2.2.2 < 4 := by clear h6 h5; omega
          rw [if_neg hl, if_pos (by rw [h4]; clear h6 h5; omega)]
          refine ⟨m - 1, _, f1.1, rfl, p + 1, rfl, f1.2.1, f1.2.2, by rw [hd']; exact h3, by simpa using h4, h5', fun j hj => ?_⟩
          simp only
          have hset : gl false (am.set (ru c p).2.2.2.toNat true) j = if j = (ru c p).2.2.2.toNat then true else gl false am j := by
            unfold gl
            simp only [List.getD_eq_getElem?_getD, List.getElem?_set]
            by_cases e : (ru c p).2.2.2.toNat = j
            · rw [if_pos e, if_pos (by rw [h4]; exact e ▸ hj), if_pos e.symm]; rfl
            · rw [if_neg e, if_neg (fun h => e h.symm)]
          rw [hset]
          by_cases e : j = (ru c p).2.2.2.toNat
          · rw [if_pos e]
            exact iff_of_true rfl (.inr ⟨p, ⟨by clear h6 h5; omega, by clear h6 h5; omega, by clear h6 h5; omega⟩, by clear h6 h5; omega⟩)
          · rw [if_neg e, h6 j hj]
            constructor
            · rintro (h | ⟨k, k1, k2⟩)
              · exact .inl h
              · exact .inr ⟨k, ⟨k1.1, by clear h6 h5; omega, k1.2.2⟩, k2⟩
            · rintro (h | ⟨k, k1, k2⟩)
              · exact .inl h
              · by_cases ek : k = p
                · rw [ek] at k2; exact absurd k2 (by clear h6 h5; omega)
                · exact .inr ⟨k, ⟨k1.1, by clear h6 h5; omega, k1.2.2⟩, k2⟩
      · rw [if_pos he] at h3
        rw [if_pos he, if_pos (by rw [← h3]; exact he), h3]
        exact .inl rfl
    · have hp' : p = c.2.1.length := by clear h6 h5; omega
      subst hp'
      rw [Nat.sub_self, fe] at h3
      rw [if_neg (by clear h6 h5; omega), if_neg (not_not_intro h3.symm)]
      left
      have haim : ∀ b : Nat, 1 ≤ b → b < c.2.1.length → (gl false am b = true ↔ Aim c b) := by
        intro b b0 b1
        rw [h6 b (by clear h6 h5; omega)]
        constructor
        · rintro (h | ⟨k, ⟨k0, k1, k2⟩, k3⟩)
          · exact absurd h (by clear h6 h5; omega)
          · have hT : ¬ ((k = (c.2.1.length : Int) - 1 ∧ (ru c k).2.2.2 ≠ k) ∨ (k < (c.2.1.length : Int) - 1 ∧ ((ru c k).2.2.2 ≤ k ∨ (c.2.1.length : Int) - 1 < (ru c k).2.2.2))) := fe_range c (h5 k k0 k1)
            exact ⟨k, ⟨k0, k1⟩, by clear h6 h5; omega, k3⟩
        · rintro ⟨k, ⟨k0, k1⟩, k2, k3⟩
          have hT : ¬ ((k = (c.2.1.length : Int) - 1 ∧ (ru c k).2.2.2 ≠ k) ∨ (k < (c.2.1.length : Int) - 1 ∧ ((ru c k).2.2.2 ≤ k ∨ (c.2.1.length : Int) - 1 < (ru c k).2.2.2))) := fe_range c (h5 k k0 k1)
          exact .inr ⟨k, ⟨k0, k1, by clear h6 h5; omega⟩, k3⟩
      have h60 : gl false am 0 = true := (h6 0 (by omega)).2 (.inl rfl)
      clear h6
      suffices hx : loopO (σ := Int) (β := Int) _ 0 = some (if ¬ (∀ b : Int, 1 ≤ b → b < c.2.1.length → Aim c b) then 10 else if FinBad c then 9 else 0) by
        rw [hx]; rfl
      refine loopO_to (fun m (i : Int) => ∃ p : Nat, i = (p : Int) ∧ m = c.2.1.length - p ∧ p ≤ c.2.1.length ∧ ∀ b : Int, 1 ≤ b → b < p → Aim c b) (n := c.2.1.length) ?_ ⟨0, rfl, by omega, by omega, fun b b0 b1 => by omega⟩
      rintro m i ⟨p, rfl, q2, q3, q4⟩
      by_cases hp : p < c.2.1.length
      · rw [if_pos (by omega), if_pos (by rw [h4]; omega), Int.toNat_natCast]
        by_cases ha : gl false am p = true
        · rw [if_neg (by simp [ha]), w64_id (by omega) (by omega)]
          refine .inr ⟨m - 1, _, by omega, rfl, p + 1, rfl, by omega, by omega, fun b b0 b1 => ?_⟩
          by_cases e : b = p
          · rw [e]; exact (haim p (by omega) hp).1 ha
          · exact q4 b b0 (by omega)
        · have hp0 : p ≠ 0 := by rintro rfl; exact ha h60
          rw [if_pos (by simpa using ha), if_pos (fun h => ha ((haim p (by omega) hp).2 (h p (by omega) (by omega))))]
          exact .inl rfl
      · rw [if_neg (by omega), if_neg (not_not_intro fun b b0 b1 => q4 b b0 (by omega)), if_pos (by omega)]
        left
        have hz := zeroEq (lastVV (by omega) h3.symm (b := (c.2.1.length : Int) - 1) (by omega) (by omega))
        rw [hr]
        unfold FinBad
        simp only [hz]
        by_cases z : (ru c ((c.2.1.length : Int) - 1)).1 = 0
        · rw [if_pos z]
          by_cases f1 : c.2.2 < 1
          · rw [if_pos f1, if_pos (.inl ⟨z, .inl f1⟩)]; rfl
          · rw [if_neg f1]
            by_cases f2 : c.2.2 > 64
            · rw [if_pos f2, if_pos (.inl ⟨z, .inr f2⟩)]; rfl
            · rw [if_neg f2, if_neg (not_not_intro z), if_neg (by rintro (⟨_, h⟩ | ⟨h, _⟩); omega; exact h z)]; rfl
        · rw [if_neg z, if_pos z]
          by_cases f1 : c.2.2 = 0
          · rw [if_neg (not_not_intro f1), if_neg (by rintro (⟨h, _⟩ | ⟨_, h⟩); exact z h; exact h f1)]; rfl
          · rw [if_pos f1, if_pos (.inr ⟨z, f1⟩)]; rfl
  · intro j hj
    have : j = 0 ∨ j = 1 ∨ j = 2 ∨ j = 3 := by omega
    rcases this with rfl | rfl | rfl | rfl
    · exact iff_of_true rfl (.inl rfl)
    all_goals exact iff_of_false (by decide) (by rintro (h | ⟨k, k1, _⟩); omega; omega)
theorem chk_len {c : Cf} (h : chk c = 0) : 1 ≤ c.2.1.length ∧ c.2.1.length ≤ 4 := by
  unfold chk at h
  by_cases h1 : nmOk c.1
  · rw [if_neg (not_not_intro h1)] at h
    exact Classical.byContradiction fun hn => by rw [if_pos hn] at h; exact absurd h (by decide)
  · rw [if_pos h1] at h; exact absurd h (by decide)
end Go.Proofs.YtmcahbbelnjhiaaDoor
