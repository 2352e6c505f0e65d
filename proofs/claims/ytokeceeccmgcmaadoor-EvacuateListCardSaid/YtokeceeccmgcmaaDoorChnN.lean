/-
  Plain laws of package chain that other seats use: steps, places, lists, links.
-/
import Derived.Test.YtokeceeccmgcmaaDoorSpI
set_option linter.unusedVariables false
namespace Go.Proofs.YtokeceeccmgcmaaDoor
open Go Go.V3

theorem cFree_ok {s : Sp} {f : Int} (h0 : 0 ≤ f) (h1 : f < s.2.2.length) : Fchain_free s f = some (decide ((fr s.2.2 f).1 = -1)) := by
  unfold Fchain_free
  rw [if_pos ⟨h0, h1⟩]; rfl
theorem cIn_ok (s : Sp) (f : Int) : Fchain_in s f = some (decide (0 ≤ f ∧ f < s.2.2.length)) := by
  unfold Fchain_in
  by_cases h : f ≥ 0
  · rw [if_pos h]; congr 1; rw [Bool.eq_iff_iff, decide_eq_true_iff, decide_eq_true_iff]; omega
  · rw [if_neg h]; congr 1; rw [Bool.eq_iff_iff, decide_eq_true_iff]; simp; omega
theorem fStep_ok {s : Sp} (h : VS s) {a k : Int} (h0 : 0 ≤ a) (h1 : a < s.2.1.length) (hu : (fr s.2.2 (a / sz s.1)).1 ≠ -1) (k0 : 0 ≤ k) (k1 : k ≤ 9223372036854775807) {l : List Int} (hl : Pa s.2.2 (a / sz s.1) l) :
    Fchain_Step s a k = some (adlR (adl (sz s.1) l (a % sz s.1 + k))) := by
  have hwl := VS.wlen h
  have hn := h.n.2
  have z := sz_pos' s.1
  obtain ⟨z1, z2⟩ := sz_le h.sh
  obtain ⟨f0, f1⟩ := frame_of h h0 h1
  have m0 := Int.emod_nonneg a (show sz s.1 ≠ 0 by omega)
  have m1 := Int.emod_lt_of_pos a z
  unfold Fchain_Step
  rw [VS.fvalid h]
  simp only [Option.bind_some]
  rw [if_neg (by simp), if_neg (by omega), if_neg (by omega), if_neg (by omega), if_pos trivial, fSize_ok h.sh, pow_sz h.sh]
  simp only [Option.bind_some]
  rw [cFree_ok f0 f1]
  simp only [Option.bind_some]
  rw [if_neg (by simpa using hu), w64_id (e := sz s.1 - 1) (by omega) (by omega), and_sz h.sh h0 (by omega)]
  by_cases hk : k > s.2.1.length
  · rw [if_pos hk, adl_none z (by omega)]
    · rfl
    · have hl2 := hl.length
      have : (l.length : Int) * sz s.1 ≤ s.2.2.length * sz s.1 := Int.mul_le_mul_of_nonneg_right (by omega) (by omega)
      rw [← h.w] at this
      omega
  rw [if_neg hk, w64_id (e := a % sz s.1 + k) (by omega) (by omega)]
  refine loopO_to (fun m (st : Int × Int) => (0 ≤ st.2 ∧ st.2 ≤ a % sz s.1 + k) ∧ ∃ l2, l2.length = m ∧ Pa s.2.2 st.1 l2 ∧ adl (sz s.1) l2 st.2 = adl (sz s.1) l (a % sz s.1 + k)) (n := l.length) ?_ ⟨⟨by simp only; omega, Int.le_refl _⟩, l, rfl, hl, rfl⟩
  rintro m ⟨g, q⟩ ⟨⟨g0, g1⟩, l2, g2, g3, g4⟩
  simp only at g0 g1 g3 g4 ⊢
  cases l2 with
  | nil =>
    left
    rw [Pa] at g3
    rw [if_neg (by omega), ← g4]; rfl
  | cons b r =>
    obtain ⟨rfl, i0, i1, i2⟩ := g3
    have hnx : (gl (0, 0, 0) s.2.2 g.toNat).2.2 = nx s.2.2 g := (nx_in i0 i1).symm
    have fm := mul_sz_le h.sh i0 (show g ≤ 64 by omega)
    rw [adl] at g4
    rw [if_pos i0]
    by_cases hq : q < sz s.1
    · left
      rw [if_pos hq] at g4
      rw [if_pos hq, if_pos trivial, w64_id (e := g * sz s.1) (by omega) (by omega), w64_id (by omega) (by omega), ← g4]; rfl
    · right
      rw [if_neg hq] at g4
      rw [if_neg hq, if_pos ⟨i0, i1⟩, hnx, w64_id (by omega) (by omega)]
      exact ⟨m - 1, _, by simp at g2; omega, rfl, ⟨by simp only; omega, by simp only; omega⟩, r, by simp at g2; omega, i2, g4⟩

def ixl (z : Int) : List Int → Int → Int → Option Int
  | [], _, _ => none
  | g :: r, f, n => if g = f then some n else ixl z r f (n + z)
theorem ixl_adl {z : Int} (hz : 0 < z) : ∀ {l : List Int} {off x n : Int}, l.Nodup → 0 ≤ off → adl z l off = some x → ixl z l (x / z) n = some (n + (off - x % z))
  | [], _, _, _, _, _, h => by cases h
  | g :: r, off, x, n, hd, h0, h => by
    obtain ⟨n1, n2⟩ := List.nodup_cons.1 hd
    rw [adl] at h
    rw [ixl]
    by_cases h1 : off < z
    · rw [if_pos h1] at h
      simp only [Option.some.injEq] at h
      subst h
      obtain ⟨e1, e2⟩ := addr_frame hz (g := g) h0 h1
      rw [e1, e2, if_pos rfl]
      congr 1; omega
    · rw [if_neg h1] at h
      have hm := adl_mem hz (by omega) h
      rw [if_neg (show ¬ g = x / z from fun e => n1 (by rw [e]; exact hm)), ixl_adl hz n2 (by omega) h]
      congr 1; omega

def ixR (z a : Int) : Option Int → Int × Int
  | some n => (n + a % z, 0)
  | none => (0, 2)
theorem cList_ok {s : Sp} (h : VS s) {f : Int} (f0 : 0 ≤ f) (f1 : f < s.2.2.length) (hu : (fr s.2.2 f).1 ≠ -1) {l : List Int} (hl : Pa s.2.2 f l) : Fchain_List s f = some (l, 0) := by
  have hn := h.n.2
  have hll := hl.length
  unfold Fchain_List
  rw [VS.fvalid h, cIn_ok, cFree_ok f0 f1]
  simp only [Option.bind_some]
  rw [if_neg (by simp), if_neg (by simp [f0, f1]), if_neg (by simpa using hu)]
  refine loopO_to (fun k (st : List Int × Int) => ∃ l2, l = st.1 ++ l2 ∧ Pa s.2.2 st.2 l2 ∧ l2.length = k) (n := l.length) ?_ ⟨l, rfl, hl, rfl⟩
  rintro k ⟨acc, f⟩ ⟨l2, h1, h2, h3⟩
  simp only at h1 h2 ⊢
  cases l2 with
  | nil =>
    left
    rw [Pa] at h2
    rw [if_neg (by omega), h1, List.append_nil]
  | cons a r =>
    right
    obtain ⟨rfl, g0, g1, g2⟩ := h2
    have := congrArg List.length h1
    simp at this h3
    have hfr : (gl (0, 0, 0) s.2.2 f.toNat).2.2 = nx s.2.2 f := (nx_in g0 g1).symm
    rw [if_pos g0, if_pos (by simp; omega), if_pos ⟨g0, g1⟩, hfr]
    exact ⟨k - 1, _, by omega, rfl, r, by simp [h1], g2, by omega⟩

def BadLink (s : Sp) (a f : Int) (l : List Int) : Prop := (fr s.2.2 a).1 = -1 ∨ (fr s.2.2 f).1 = -1 ∨ (fr s.2.2 a).2.1 ≠ (fr s.2.2 f).2.1 ∨ nx s.2.2 a ≠ -1 ∨ (∃ x : Int, (0 ≤ x ∧ x < s.2.2.length) ∧ nx s.2.2 x = f) ∨ a ∈ l
end Go.Proofs.YtokeceeccmgcmaaDoor
