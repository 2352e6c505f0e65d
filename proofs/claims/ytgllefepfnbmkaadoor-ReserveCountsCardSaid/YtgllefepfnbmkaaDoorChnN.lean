/-
  Plain laws of package chain that other seats use: steps, places, lists, links.
-/
import Derived.Test.YtgllefepfnbmkaaDoorSpI
set_option linter.unusedVariables false
namespace Go.Proofs.YtgllefepfnbmkaaDoor
open Go Go.V3

def ixl (z : Int) : List Int → Int → Int → Option Int
  | [], _, _ => none
  | g :: r, f, n => if g = f then some n else ixl z r f (n + z)
theorem ixl_adl {z : Int} (hz : 0 < z) : ∀ {l : List Int} {off x n : Int}, l.Nodup → 0 ≤ off → adl z l off = some x → ixl z l (x / z) n = some (n + (off - x % z))
  | [], _, _, _, _, _, h => by cases h
  | g :: r, off, x, n, hd, h0, h => by
    obtain ⟨n1, n2⟩ := List.nodup_cons.1 hd
    rw [adl] at h
    rw [ixl]
    by_cases h1 : off < z
    · rw [if_pos h1] at h
      simp only [Option.some.injEq] at h
      subst h
      obtain ⟨e1, e2⟩ := addr_frame hz (g := g) h0 h1
      rw [e1, e2, if_pos rfl]
      congr 1; omega
    · rw [if_neg h1] at h
      have hm := adl_mem hz (by omega) h
      rw [if_neg (show ¬ g = x / z from fun e => n1 (by rw [e]; exact hm)), ixl_adl hz n2 (by omega) h]
      congr 1; omega

def ixR (z a : Int) : Option Int → Int × Int
  | some n => (n + a % z, 0)
  | none => (0, 2)
def BadLink (s : Sp) (a f : Int) (l : List Int) : Prop := (fr s.2.2 a).1 = -1 ∨ (fr s.2.2 f).1 = -1 ∨ (fr s.2.2 a).2.1 ≠ (fr s.2.2 f).2.1 ∨ nx s.2.2 a ≠ -1 ∨ (∃ x : Int, (0 ≤ x ∧ x < s.2.2.length) ∧ nx s.2.2 x = f) ∨ a ∈ l
end Go.Proofs.YtgllefepfnbmkaaDoor
