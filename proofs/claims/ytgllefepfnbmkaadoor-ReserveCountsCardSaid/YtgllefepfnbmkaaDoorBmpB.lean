/-
  Plain laws of package bump: valid increments, growing, dropping.
-/
import Derived.Test.YtgllefepfnbmkaaDoorPolB
import Derived.Test.YtgllefepfnbmkaaDoorChnN
set_option linter.unusedVariables false
namespace Go.Proofs.YtgllefepfnbmkaaDoor
open Go Go.V3

theorem bCeil_ok {n s : Int} (hs : 3 ≤ s ∧ s ≤ 8) (h0 : 0 ≤ n) (h1 : n ≤ 1000000) : Fbits_Ceil n s = some (cl (sz s) n) := by
  obtain ⟨z1, z2⟩ := sz_le hs
  unfold Fbits_Ceil
  rw [if_neg (by omega), if_neg (by omega), if_neg (by omega), if_neg (by omega), if_pos trivial, if_pos trivial, pow_sz hs, Int.one_mul, w64_id (e := sz s) (by omega) (by omega), w64_id (e := n + sz s) (by omega) (by omega), w64_id (by omega) (by omega)]
  rfl
theorem bFrames_ok {s : Sp} (h : VS s) {i : Inc} (h0 : 0 ≤ i.2.2.2.2) (h1 : i.2.2.2.2 ≤ 1000000) : Fbump_Frames s i = some (cl (sz s.1) i.2.2.2.2) := by
  unfold Fbump_Frames
  rw [bCeil_ok h.sh h0 h1]; rfl
theorem cl_small {z w : Int} (z1 : 8 ≤ z) (h : 0 ≤ w) : 0 ≤ cl z w ∧ cl z w ≤ w + z := by
  have c2 := cl_nonneg (show 0 < z by omega) h
  have c1 := cl_spec (n := w) (show 0 < z by omega)
  have b1 : cl z w * 1 ≤ cl z w * z := Int.mul_le_mul_of_nonneg_left (by omega) c2
  omega
theorem bExtra_ok {s : Sp} (h : VS s) {i : Inc} (h0 : 0 ≤ i.2.2.2.2) (h1 : i.2.2.2.2 ≤ 16384) {n : Int} (n0 : 0 ≤ n) (n1 : n ≤ 1000) : Fbump_Extra s i n = some (cl (sz s.1) (i.2.2.2.2 + n) - cl (sz s.1) i.2.2.2.2) := by
  obtain ⟨z1, z2⟩ := sz_le h.sh
  have c1 := cl_small z1 (show 0 ≤ i.2.2.2.2 + n by omega)
  have c2 := cl_small z1 h0
  unfold Fbump_Extra
  rw [w64_id (e := i.2.2.2.2 + n) (by omega) (by omega), bCeil_ok h.sh (by omega) (by omega), bFrames_ok h h0 (by omega)]
  simp only [Option.bind_some]
  rw [w64_id (by omega) (by omega)]
end Go.Proofs.YtgllefepfnbmkaaDoor
