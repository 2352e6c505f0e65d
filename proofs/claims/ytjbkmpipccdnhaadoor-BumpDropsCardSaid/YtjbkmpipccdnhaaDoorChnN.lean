/-
  Plain laws of package chain that other seats use: steps, places, lists, links.
-/
import Derived.Test.YtjbkmpipccdnhaaDoorSpI
set_option linter.unusedVariables false
namespace Go.Proofs.YtjbkmpipccdnhaaDoor
open Go Go.V3

theorem cFree_ok {s : Sp} {f : Int} (h0 : 0 ≤ f) (h1 : f < s.2.2.length) : Fchain_free s f = some (decide ((fr s.2.2 f).1 = -1)) := by
  unfold Fchain_free
  rw [if_pos ⟨h0, h1⟩]; rfl
theorem cIn_ok (s : Sp) (f : Int) : Fchain_in s f = some (decide (0 ≤ f ∧ f < s.2.2.length)) := by
  unfold Fchain_in
  by_cases h : f ≥ 0
  · rw [if_pos h]; congr 1; rw [Bool.eq_iff_iff, decide_eq_true_iff, decide_eq_true_iff]; omega
  · rw [if_neg h]; congr 1; rw [Bool.eq_iff_iff, decide_eq_true_iff]; simp; omega
theorem rOut_ok (s : Sp) (f : Int) : Fbeltwayref05_outside s f = some (decide (¬ (0 ≤ f ∧ f < s.2.2.length))) := by
  unfold Fbeltwayref05_outside
  by_cases h : f < 0
  · rw [if_pos h]; congr 1; symm; rw [decide_eq_true_iff]; omega
  · rw [if_neg h]; congr 1; rw [Bool.eq_iff_iff, decide_eq_true_iff, decide_eq_true_iff]; omega

theorem fStep_ok {s : Sp} (h : VS s) {a k : Int} (h0 : 0 ≤ a) (h1 : a < s.2.1.length) (hu : (fr s.2.2 (a / sz s.1)).1 ≠ -1) (k0 : 0 ≤ k) (k1 : k ≤ 9223372036854775807) {l : List Int} (hl : Pa s.2.2 (a / sz s.1) l) :
    Fchain_Step s a k = some (adlR (adl (sz s.1) l (a % sz s.1 + k))) := by
  have hwl := VS.wlen h
  have hn := h.n.2
  have z := sz_pos' s.1
  obtain ⟨z1, z2⟩ := sz_le h.sh
  obtain ⟨f0, f1⟩ := frame_of h h0 h1
  have m0 := Int.emod_nonneg a (show sz s.1 ≠ 0 by omega)
  have m1 := Int.emod_lt_of_pos a z
  unfold Fchain_Step
  rw [VS.fvalid h]
  simp only [Option.bind_some]
  rw [if_neg (by simp), if_neg (by omega), if_neg (by omega), if_neg (by omega), if_pos trivial, fSize_ok h.sh, pow_sz h.sh]
  simp only [Option.bind_some]
  rw [cFree_ok f0 f1]
  simp only [Option.bind_some]
  rw [if_neg (by simpa using hu), w64_id (e := sz s.1 - 1) (by omega) (by omega), and_sz h.sh h0 (by omega)]
  by_cases hk : k > s.2.1.length
  · rw [if_pos hk, adl_none z (by omega)]
    · rfl
    · have hl2 := hl.length
      have : (l.length : Int) * sz s.1 ≤ s.2.2.length * sz s.1 := Int.mul_le_mul_of_nonneg_right (by omega) (by omega)
      rw [← h.w] at this
      omega
  rw [if_neg hk, w64_id (e := a % sz s.1 + k) (by omega) (by omega)]
  refine loopO_to (fun m (st : Int × Int) => (0 ≤ st.2 ∧ st.2 ≤ a % sz s.1 + k) ∧ ∃ l2, l2.length = m ∧ Pa s.2.2 st.1 l2 ∧ adl (sz s.1) l2 st.2 = adl (sz s.1) l (a % sz s.1 + k)) (n := l.length) ?_ ⟨⟨by simp only; omega, Int.le_refl _⟩, l, rfl, hl, rfl⟩
  rintro m ⟨g, q⟩ ⟨⟨g0, g1⟩, l2, g2, g3, g4⟩
  simp only at g0 g1 g3 g4 ⊢
  cases l2 with
  | nil =>
    left
    rw [Pa] at g3
    rw [if_neg (by omega), ← g4]; rfl
  | cons b r =>
    obtain ⟨rfl, i0, i1, i2⟩ := g3
    have hnx : (gl (0, 0, 0) s.2.2 g.toNat).2.2 = nx s.2.2 g := (nx_in i0 i1).symm
    have fm := mul_sz_le h.sh i0 (show g ≤ 64 by omega)
    rw [adl] at g4
    rw [if_pos i0]
    by_cases hq : q < sz s.1
    · left
      rw [if_pos hq] at g4
      rw [if_pos hq, if_pos trivial, w64_id (e := g * sz s.1) (by omega) (by omega), w64_id (by omega) (by omega), ← g4]; rfl
    · right
      rw [if_neg hq] at g4
      rw [if_neg hq, if_pos ⟨i0, i1⟩, hnx, w64_id (by omega) (by omega)]
      exact ⟨m - 1, _, by simp at g2; omega, rfl, ⟨by simp only; omega, by simp only; omega⟩, r, by simp at g2; omega, i2, g4⟩

def ixl (z : Int) : List Int → Int → Int → Option Int
  | [], _, _ => none
  | g :: r, f, n => if g = f then some n else ixl z r f (n + z)
theorem ixl_adl {z : Int} (hz : 0 < z) : ∀ {l : List Int} {off x n : Int}, l.Nodup → 0 ≤ off → adl z l off = some x → ixl z l (x / z) n = some (n + (off - x % z))
  | [], _, _, _, _, _, h => by cases h
  | g :: r, off, x, n, hd, h0, h => by
    obtain ⟨n1, n2⟩ := List.nodup_cons.1 hd
    rw [adl] at h
    rw [ixl]
    by_cases h1 : off < z
    · rw [if_pos h1] at h
      simp only [Option.some.injEq] at h
      subst h
      obtain ⟨e1, e2⟩ := addr_frame hz (g := g) h0 h1
      rw [e1, e2, if_pos rfl]
      congr 1; omega
    · rw [if_neg h1] at h
      have hm := adl_mem hz (by omega) h
      rw [if_neg (show ¬ g = x / z from fun e => n1 (by rw [e]; exact hm)), ixl_adl hz n2 (by omega) h]
      congr 1; omega

def ixR (z a : Int) : Option Int → Int × Int
  | some n => (n + a % z, 0)
  | none => (0, 2)
theorem rIndex_ok {s : Sp} (h : VS s) {f a : Int} (f0 : 0 ≤ f) (f1 : f < s.2.2.length) (a0 : 0 ≤ a) (a1 : a < s.2.1.length) (hu : (fr s.2.2 f).1 ≠ -1) {l : List Int} (hl : Pa s.2.2 f l) :
    Fbeltwayref05_Index s f a = some (ixR (sz s.1) a (ixl (sz s.1) l (a / sz s.1) 0)) := by
  have hwl := VS.wlen h
  have hn := h.n.2
  have z := sz_pos' s.1
  obtain ⟨z1, z2⟩ := sz_le h.sh
  have m0 := Int.emod_nonneg a (show sz s.1 ≠ 0 by omega)
  have m1 := Int.emod_lt_of_pos a z
  have hll := hl.length
  have hfr : gl (0, 0, 0) s.2.2 f.toNat = fr s.2.2 f := rfl
  unfold Fbeltwayref05_Index
  rw [VS.valid h, rOut_ok, Chain_ok hn hl]
  simp only [Option.bind_some]
  rw [if_neg (by simp), if_neg (by simp [f0, f1]), if_neg (by omega), if_neg (by omega), if_pos ⟨f0, f1⟩, hfr, if_neg hu, pow_sz h.sh, Int.one_mul, w64_id (e := sz s.1) (by omega) (by omega), w64_id (e := sz s.1 - 1) (by omega) (by omega), and_sz h.sh a0 (by omega)]
  refine loopO_to (fun m (st : Int × Int) => (0 ≤ st.1 ∧ st.1 + m * sz s.1 ≤ 20000) ∧ (0 ≤ st.2 ∧ st.2 = (l.length : Int) - m ∧ m ≤ l.length) ∧ ixl (sz s.1) (l.drop (l.length - m)) (a / sz s.1) st.1 = ixl (sz s.1) l (a / sz s.1) 0) (n := l.length) ?_ ⟨⟨by simp, ?_⟩, ⟨by simp, by simp, Nat.le_refl _⟩, by simp⟩
  · rintro m ⟨q, i⟩ ⟨⟨g0, g1⟩, ⟨g2, g3, g5⟩, g4⟩
    simp only at g0 g1 g2 g3 g4 ⊢
    by_cases hm : m = 0
    · left
      subst hm
      rw [if_neg (by omega), ← g4, Nat.sub_zero, List.drop_length]; rfl
    · have hi : i.toNat = l.length - m := by omega
      rw [List.drop_eq_getElem_cons (by omega), ixl] at g4
      have hg : gl 0 l i.toNat = l[l.length - m] := by rw [gl_lt (by omega)]; congr 1
      rw [if_pos (by omega), if_pos (by omega), if_pos trivial, if_pos trivial, if_pos trivial, hg]
      have hm2 : (m : Int) = ((m - 1 : Nat) : Int) + 1 := by omega
      rw [hm2, Int.add_mul, Int.one_mul] at g1
      have hmz : 0 ≤ ((m - 1 : Nat) : Int) * sz s.1 := Int.mul_nonneg (by omega) (by omega)
      by_cases hq : l[l.length - m] = a / sz s.1
      · left
        rw [if_pos hq] at g4
        rw [if_pos hq, ← g4, w64_id (by omega) (by omega)]; rfl
      · right
        rw [if_neg hq] at g4
        rw [if_neg hq, w64_id (by omega) (by omega), w64_id (by omega) (by omega)]
        refine ⟨m - 1, _, by omega, rfl, ⟨by simp only; omega, by simp only; omega⟩, ⟨by simp only; omega, by simp only; omega, by omega⟩, ?_⟩
        simp only
        rw [show l.length - (m - 1) = l.length - m + 1 from by omega]
        exact g4
  · have := (mul_sz_le h.sh (show 0 ≤ (l.length : Int) by omega) (show (l.length : Int) ≤ 64 by omega)).2
    simp only; omega

theorem cList_ok {s : Sp} (h : VS s) {f : Int} (f0 : 0 ≤ f) (f1 : f < s.2.2.length) (hu : (fr s.2.2 f).1 ≠ -1) {l : List Int} (hl : Pa s.2.2 f l) : Fchain_List s f = some (l, 0) := by
  have hn := h.n.2
  have hll := hl.length
  unfold Fchain_List
  rw [VS.fvalid h, cIn_ok, cFree_ok f0 f1]
  simp only [Option.bind_some]
  rw [if_neg (by simp), if_neg (by simp [f0, f1]), if_neg (by simpa using hu)]
  refine loopO_to (fun k (st : List Int × Int) => ∃ l2, l = st.1 ++ l2 ∧ Pa s.2.2 st.2 l2 ∧ l2.length = k) (n := l.length) ?_ ⟨l, rfl, hl, rfl⟩
  rintro k ⟨acc, f⟩ ⟨l2, h1, h2, h3⟩
  simp only at h1 h2 ⊢
  cases l2 with
  | nil =>
    left
    rw [Pa] at h2
    rw [if_neg (by omega), h1, List.append_nil]
  | cons a r =>
    right
    obtain ⟨rfl, g0, g1, g2⟩ := h2
    have := congrArg List.length h1
    simp at this h3
    have hfr : (gl (0, 0, 0) s.2.2 f.toNat).2.2 = nx s.2.2 f := (nx_in g0 g1).symm
    rw [if_pos g0, if_pos (by simp; omega), if_pos ⟨g0, g1⟩, hfr]
    exact ⟨k - 1, _, by omega, rfl, r, by simp [h1], g2, by omega⟩

def BadLink (s : Sp) (a f : Int) (l : List Int) : Prop := (fr s.2.2 a).1 = -1 ∨ (fr s.2.2 f).1 = -1 ∨ (fr s.2.2 a).2.1 ≠ (fr s.2.2 f).2.1 ∨ nx s.2.2 a ≠ -1 ∨ (∃ x : Int, (0 ≤ x ∧ x < s.2.2.length) ∧ nx s.2.2 x = f) ∨ a ∈ l
theorem fLink_ok {s : Sp} (h : VS s) {a f : Int} (a0 : 0 ≤ a) (a1 : a < s.2.2.length) (f0 : 0 ≤ f) (f1 : f < s.2.2.length) {l : List Int} (hl : Pa s.2.2 f l) :
    (BadLink s a f l ∧ Fchain_Link s a f = some ((0, [], []), 5)) ∨ (¬ BadLink s a f l ∧ Fchain_Link s a f = some ((s.1, s.2.1, s.2.2.set a.toNat ((fr s.2.2 a).1, (fr s.2.2 a).2.1, f)), 0)) := by
  have hwl := VS.wlen h
  have hn := h.n.2
  have ha : gl (0, 0, 0) s.2.2 a.toNat = fr s.2.2 a := rfl
  have hf : gl (0, 0, 0) s.2.2 f.toNat = fr s.2.2 f := rfl
  unfold Fchain_Link
  rw [VS.fvalid h, cIn_ok, cIn_ok, cFree_ok a0 a1, cFree_ok f0 f1]
  simp only [Option.bind_some, ha, hf]
  rw [if_neg (by simp), if_neg (by simp [a0, a1]), if_neg (by simp [f0, f1])]
  by_cases b1 : (fr s.2.2 a).1 = -1
  · rw [if_pos (by simpa using b1)]; exact .inl ⟨.inl b1, rfl⟩
  rw [if_neg (by simpa using b1)]
  by_cases b2 : (fr s.2.2 f).1 = -1
  · rw [if_pos (by simpa using b2)]; exact .inl ⟨.inr (.inl b2), rfl⟩
  rw [if_neg (by simpa using b2), if_pos ⟨a0, a1⟩, if_pos ⟨f0, f1⟩]
  by_cases b3 : (fr s.2.2 a).2.1 = (fr s.2.2 f).2.1
  rotate_left
  · rw [if_pos b3]; exact .inl ⟨.inr (.inr (.inl b3)), rfl⟩
  rw [if_neg (by simp [b3]), if_pos ⟨a0, a1⟩]
  have hna := nx_in a0 a1
  by_cases b4 : (fr s.2.2 a).2.2 = -1
  rotate_left
  · rw [if_pos b4]; exact .inl ⟨.inr (.inr (.inr (.inl (by rw [hna]; exact b4)))), rfl⟩
  rw [if_neg (by simp [b4])]
  have key : ∃ b, (if b.2 = 0 then ¬ BadLink s a f l ∧ b = ((s.1, s.2.1, s.2.2.set a.toNat ((fr s.2.2 a).1, (fr s.2.2 a).2.1, f)), 0) else BadLink s a f l ∧ b = ((0, [], []), 5)) ∧ loopO (σ := Int) (β := ((Int × (List (BitVec 64)) × (List (Int × Int × Int))) × Int)) (fun s1 =>
      if s1 < (s.2.2.length : Int) then
      if 0 ≤ s1 ∧ s1 < (s.2.2.length : Int) then
      if (((gl (0, 0, 0) s.2.2 s1.toNat).2).2) = f then
      some (Sum.inr (((0, [], []), 5)))
      else some (Sum.inl (w64 (s1 + 1)))
      else none
      else Option.map Sum.inr (loopO (σ := Int) (β := ((Int × (List (BitVec 64)) × (List (Int × Int × Int))) × Int)) (fun s2 =>
      if s2 ≥ 0 then
      if s2 = a then
      some (Sum.inr (((0, [], []), 5)))
      else if 0 ≤ s2 ∧ s2 < (s.2.2.length : Int) then
      some (Sum.inl (((gl (0, 0, 0) s.2.2 s2.toNat).2).2))
      else none
      else Option.map Sum.inr (Option.bind (Fclone_Space s) (fun r6 =>
      if 0 ≤ a ∧ a < (r6.2.2.length : Int) then
      some (((r6.1, r6.2.1, r6.2.2.set a.toNat ((gl (0, 0, 0) r6.2.2 a.toNat).1, ((gl (0, 0, 0) r6.2.2 a.toNat).2).1, f)), 0))
      else none))) (f))) 0 = some b := by
    refine (loopO_up (fun k (i : Int) => i = (k : Int) ∧ k ≤ s.2.2.length ∧ ∀ x : Int, 0 ≤ x → x < k → nx s.2.2 x ≠ f) (fun b => if b.2 = 0 then ¬ BadLink s a f l ∧ b = ((s.1, s.2.1, s.2.2.set a.toNat ((fr s.2.2 a).1, (fr s.2.2 a).2.1, f)), 0) else BadLink s a f l ∧ b = ((0, [], []), 5)) s.2.2.length ?_ ?_ ⟨rfl, by omega, fun x x0 x1 => by omega⟩).elim fun b hb => ⟨b, hb.2, hb.1⟩
    · rintro k i hk ⟨rfl, _, hx⟩
      have hfk : (gl (0, 0, 0) s.2.2 (k : Int).toNat).2.2 = nx s.2.2 k := (nx_in (by omega) (by omega)).symm
      rw [if_pos (by omega), if_pos (by omega), hfk, w64_id (by omega) (by omega)]
      by_cases hk2 : nx s.2.2 k = f
      · rw [if_pos hk2]
        exact .inr ⟨_, rfl, by rw [if_neg (by decide)]; exact ⟨.inr (.inr (.inr (.inr (.inl ⟨k, ⟨by omega, by omega⟩, hk2⟩)))), rfl⟩⟩
      · rw [if_neg hk2]
        refine .inl ⟨_, rfl, by omega, by omega, fun x x0 x1 => ?_⟩
        by_cases hxk : x = k
        · rw [hxk]; exact hk2
        · exact hx x x0 (by omega)
    · rintro i ⟨rfl, _, hx⟩
      rw [if_neg (by omega)]
      refine map_inr ?_
      refine loopO_ind (fun m (g : Int) => ∃ l1 l2, l = l1 ++ l2 ∧ l2.length = m ∧ Pa s.2.2 g l2 ∧ a ∉ l1) _ ?_ l.length f ⟨[], l, rfl, rfl, hl, by simp⟩
      rintro m g ⟨l1, l2, c1, c2, c3, c4⟩
      cases l2 with
      | nil =>
        left
        rw [Pa] at c3
        rw [if_neg (by omega), cCopy_ok (by omega) (by omega)]
        simp only [Option.bind_some, ha]
        rw [if_pos ⟨a0, a1⟩]
        refine ⟨_, rfl, ?_⟩
        rw [if_pos rfl]
        refine ⟨?_, rfl⟩
        rw [List.append_nil] at c1
        rintro (d | d | d | d | ⟨x, ⟨x0, x1⟩, d⟩ | d)
        · exact b1 d
        · exact b2 d
        · exact d b3
        · exact d (by rw [hna]; exact b4)
        · exact hx x x0 x1 d
        · exact c4 (c1 ▸ d)
      | cons b r =>
        obtain ⟨rfl, g0, g1, g2⟩ := c3
        rw [if_pos g0]
        by_cases hg : g = a
        · left
          rw [if_pos hg]
          exact ⟨_, rfl, by rw [if_neg (by decide)]; exact ⟨.inr (.inr (.inr (.inr (.inr (by rw [c1, hg]; simp))))), rfl⟩⟩
        · right
          have hgn : (gl (0, 0, 0) s.2.2 g.toNat).2.2 = nx s.2.2 g := (nx_in g0 g1).symm
          rw [if_neg hg, if_pos ⟨g0, g1⟩, hgn]
          exact ⟨m - 1, _, by simp at c2; omega, rfl, l1 ++ [g], r, by simp [c1], by simp at c2; omega, g2, by simp [c4]; exact fun e => hg e.symm⟩
  obtain ⟨b, hb1, hb2⟩ := key
  rw [hb2]
  by_cases hb : b.2 = 0
  · rw [if_pos hb] at hb1; exact .inr ⟨hb1.1, by rw [← hb1.2]⟩
  · rw [if_neg hb] at hb1; exact .inl ⟨hb1.1, by rw [← hb1.2]⟩

end Go.Proofs.YtjbkmpipccdnhaaDoor
