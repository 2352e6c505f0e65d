/-
  Plain laws of package chain that other seats use: steps, places, lists, links.
-/
import Derived.Test.YtnfleglhbgknmaaSpI
set_option linter.unusedVariables false
namespace Go.Proofs.Ytnfleglhbgknmaa
open Go Go.V3

theorem cFree_ok {s : Sp} {f : Int} (h0 : 0 ≤ f) (h1 : f < s.2.2.length) : Fchain_free s f = some (decide ((fr s.2.2 f).1 = -1)) := by
  unfold Fchain_free
  rw [if_pos ⟨h0, h1⟩]; rfl
theorem cIn_ok (s : Sp) (f : Int) : Fchain_in s f = some (decide (0 ≤ f ∧ f < s.2.2.length)) := by
  unfold Fchain_in
  by_cases h : f ≥ 0
  · rw [if_pos h]; congr 1; rw [Bool.eq_iff_iff, decide_eq_true_iff, decide_eq_true_iff]; omega
  · rw [if_neg h]; congr 1; rw [Bool.eq_iff_iff, decide_eq_true_iff]; simp; omega
def ixl (z : Int) : List Int → Int → Int → Option Int
  | [], _, _ => none
  | g :: r, f, n => if g = f then some n else ixl z r f (n + z)
theorem ixl_adl {z : Int} (hz : 0 < z) : ∀ {l : List Int} {off x n : Int}, l.Nodup → 0 ≤ off → adl z l off = some x → ixl z l (x / z) n = some (n + (off - x % z))
  | [], _, _, _, _, _, h => by cases h
  | g :: r, off, x, n, hd, h0, h => by
    obtain ⟨n1, n2⟩ := List.nodup_cons.1 hd
    rw [adl] at h
    rw [ixl]
    by_cases h1 : off < z
    · rw [if_pos h1] at h
      simp only [Option.some.injEq] at h
      subst h
      obtain ⟨e1, e2⟩ := addr_frame hz (g := g) h0 h1
      rw [e1, e2, if_pos rfl]
      congr 1; omega
    · rw [if_neg h1] at h
      have hm := adl_mem hz (by omega) h
      rw [if_neg (show ¬ g = x / z from fun e => n1 (by rw [e]; exact hm)), ixl_adl hz n2 (by omega) h]
      congr 1; omega

def ixR (z a : Int) : Option Int → Int × Int
  | some n => (n + a % z, 0)
  | none => (0, 2)
theorem cList_ok {s : Sp} (h : VS s) {f : Int} (f0 : 0 ≤ f) (f1 : f < s.2.2.length) (hu : (fr s.2.2 f).1 ≠ -1) {l : List Int} (hl : Pa s.2.2 f l) : Fchain_List s f = some (l, 0) := by
  have hn := h.n.2
  have hll := hl.length
  unfold Fchain_List
  rw [VS.fvalid h, cIn_ok, cFree_ok f0 f1]
  simp only [Option.bind_some]
  rw [if_neg (by simp), if_neg (by simp [f0, f1]), if_neg (by simpa using hu)]
  refine loopO_to (fun k (st : List Int × Int) => ∃ l2, l = st.1 ++ l2 ∧ Pa s.2.2 st.2 l2 ∧ l2.length = k) (n := l.length) ?_ ⟨l, rfl, hl, rfl⟩
  rintro k ⟨acc, f⟩ ⟨l2, h1, h2, h3⟩
  simp only at h1 h2 ⊢
  cases l2 with
  | nil =>
    left
    rw [Pa] at h2
    rw [if_neg (by omega), h1, List.append_nil]
  | cons a r =>
    right
    obtain ⟨rfl, g0, g1, g2⟩ := h2
    have := congrArg List.length h1
    simp at this h3
    have hfr : (gl (0, 0, 0) s.2.2 f.toNat).2.2 = nx s.2.2 f := (nx_in g0 g1).symm
    rw [if_pos g0, if_pos (by simp; omega), if_pos ⟨g0, g1⟩, hfr]
    exact ⟨k - 1, _, by omega, rfl, r, by simp [h1], g2, by omega⟩

def BadLink (s : Sp) (a f : Int) (l : List Int) : Prop := (fr s.2.2 a).1 = -1 ∨ (fr s.2.2 f).1 = -1 ∨ (fr s.2.2 a).2.1 ≠ (fr s.2.2 f).2.1 ∨ nx s.2.2 a ≠ -1 ∨ (∃ x : Int, (0 ≤ x ∧ x < s.2.2.length) ∧ nx s.2.2 x = f) ∨ a ∈ l
end Go.Proofs.Ytnfleglhbgknmaa
