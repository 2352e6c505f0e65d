/-
  Plain laws that the seats share: valid spaces, copies, equal spaces and lists.
-/
import Derived.Test.YtokeceeccmgcmaaDoorSpG
import Derived.Test.YtokeceeccmgcmaaDoorSeatW
set_option linter.unusedVariables false
namespace Go.Proofs.YtokeceeccmgcmaaDoor
open Go Go.V3

theorem fSize_ok {s : Sp} (h : 3 ≤ s.1 ∧ s.1 ≤ 8) : Fframe_Size s = some (sz s.1) := by
  obtain ⟨z1, z2⟩ := sz_le h
  unfold Fframe_Size
  rw [fshift_ok]
  simp only [Option.bind_some]
  rw [if_neg (by simp [h]), if_pos trivial, pow_sz h, Int.one_mul, w64_id (by omega) (by omega)]
theorem VS.fvalid {s : Sp} (h : VS s) : Fframe_Valid s = some true := by
  obtain ⟨b, h1, h2⟩ := fValid_ok s h.stI
  rw [h1, h2.2 h]
theorem bad_valid {s : Sp} (h : ¬ VS s) (hI : StI s) : Fframe_Valid s = some false ∧ Fbeltwayref03_Valid s = some false := by
  obtain ⟨b, h1, h2⟩ := fValid_ok s hI
  obtain ⟨c, h3, h4⟩ := rValid_ok s
  have hb : b = false := by cases b with | false => rfl | true => exact absurd (h2.1 rfl) h
  have hc : c = false := by cases c with | false => rfl | true => exact absurd (h4.1 rfl) h
  rw [h1, h3, hb, hc]; exact ⟨rfl, rfl⟩
theorem cCopy_ok {s : Sp} (h : s.2.1.length ≤ 1000000) (h2 : s.2.2.length ≤ 1000000) : Fclone_Space s = some s := by
  unfold Fclone_Space Fclone_Words
  rw [if_pos (by simp; omega)]
  simp only [Option.bind_some]
  rw [if_pos (by simp; omega)]; rfl
end Go.Proofs.YtokeceeccmgcmaaDoor
