/-
  Plain laws of package chain.
-/
import Derived.Test.YtpihmdpbfochkaaRows
import Derived.Test.YtpihmdpbfochkaaSpG
import Derived.Test.YtpihmdpbfochkaaChnW
set_option linter.unusedVariables false
namespace Go.Proofs.Ytpihmdpbfochkaa
open Go Go.V3

theorem fSize_ok {s : Sp} (h : 3 ≤ s.1 ∧ s.1 ≤ 8) : Fframe_Size s = some (sz s.1) := by
  obtain ⟨z1, z2⟩ := sz_le h
  unfold Fframe_Size
  rw [fshift_ok]
  simp only [Option.bind_some]
  rw [if_neg (by simp [h]), if_pos trivial, pow_sz h, Int.one_mul, w64_id (by omega) (by omega)]
theorem VS.fvalid {s : Sp} (h : VS s) : Fframe_Valid s = some true := by
  obtain ⟨b, h1, h2⟩ := fValid_ok s h.stI
  rw [h1, h2.2 h]
theorem bad_valid {s : Sp} (h : ¬ VS s) (hI : StI s) : Fframe_Valid s = some false ∧ Fbeltwayref03_Valid s = some false := by
  obtain ⟨b, h1, h2⟩ := fValid_ok s hI
  obtain ⟨c, h3, h4⟩ := rValid_ok s
  have hb : b = false := by cases b with | false => rfl | true => exact absurd (h2.1 rfl) h
  have hc : c = false := by cases c with | false => rfl | true => exact absurd (h4.1 rfl) h
  rw [h1, h3, hb, hc]; exact ⟨rfl, rfl⟩
theorem cFree_ok {s : Sp} {f : Int} (h0 : 0 ≤ f) (h1 : f < s.2.2.length) : Fchain_free s f = some (decide ((fr s.2.2 f).1 = -1)) := by
  unfold Fchain_free
  rw [if_pos ⟨h0, h1⟩]; rfl
theorem cIn_ok (s : Sp) (f : Int) : Fchain_in s f = some (decide (0 ≤ f ∧ f < s.2.2.length)) := by
  unfold Fchain_in
  by_cases h : f ≥ 0
  · rw [if_pos h]; congr 1; rw [Bool.eq_iff_iff, decide_eq_true_iff, decide_eq_true_iff]; omega
  · rw [if_neg h]; congr 1; rw [Bool.eq_iff_iff, decide_eq_true_iff]; simp; omega
theorem rOut_ok (s : Sp) (f : Int) : Fbeltwayref05_outside s f = some (decide (¬ (0 ≤ f ∧ f < s.2.2.length))) := by
  unfold Fbeltwayref05_outside
  by_cases h : f < 0
  · rw [if_pos h]; congr 1; symm; rw [decide_eq_true_iff]; omega
  · rw [if_neg h]; congr 1; rw [Bool.eq_iff_iff, decide_eq_true_iff, decide_eq_true_iff]; omega

theorem fStep_ok {s : Sp} (h : VS s) {a k : Int} (h0 : 0 ≤ a) (h1 : a < s.2.1.length) (hu : (fr s.2.2 (a / sz s.1)).1 ≠ -1) (k0 : 0 ≤ k) (k1 : k ≤ 9223372036854775807) {l : List Int} (hl : Pa s.2.2 (a / sz s.1) l) :
    Fchain_Step s a k = some (adlR (adl (sz s.1) l (a % sz s.1 + k))) := by
  have hwl := VS.wlen h
  have hn := h.n.2
  have z := sz_pos' s.1
  obtain ⟨z1, z2⟩ := sz_le h.sh
  obtain ⟨f0, f1⟩ := frame_of h h0 h1
  have m0 := Int.emod_nonneg a (show sz s.1 ≠ 0 by omega)
  have m1 := Int.emod_lt_of_pos a z
  unfold Fchain_Step
  rw [VS.fvalid h]
  simp only [Option.bind_some]
  rw [if_neg (by simp), if_neg (by omega), if_neg (by omega), if_neg (by omega), if_pos trivial, fSize_ok h.sh, pow_sz h.sh]
  simp only [Option.bind_some]
  rw [cFree_ok f0 f1]
  simp only [Option.bind_some]
  rw [if_neg (by simpa using hu), w64_id (e := sz s.1 - 1) (by omega) (by omega), and_sz h.sh h0 (by omega)]
  by_cases hk : k > s.2.1.length
  · rw [if_pos hk, adl_none z (by omega)]
    · rfl
    · have hl2 := hl.length
      have : (l.length : Int) * sz s.1 ≤ s.2.2.length * sz s.1 := Int.mul_le_mul_of_nonneg_right (by omega) (by omega)
      rw [← h.w] at this
      omega
  rw [if_neg hk, w64_id (e := a % sz s.1 + k) (by omega) (by omega)]
  refine loopO_to (fun m (st : Int × Int) => (0 ≤ st.2 ∧ st.2 ≤ a % sz s.1 + k) ∧ ∃ l2, l2.length = m ∧ Pa s.2.2 st.1 l2 ∧ adl (sz s.1) l2 st.2 = adl (sz s.1) l (a % sz s.1 + k)) (n := l.length) ?_ ⟨⟨by simp only; omega, Int.le_refl _⟩, l, rfl, hl, rfl⟩
  rintro m ⟨g, q⟩ ⟨⟨g0, g1⟩, l2, g2, g3, g4⟩
  simp only at g0 g1 g3 g4 ⊢
  cases l2 with
  | nil =>
    left
    rw [Pa] at g3
    rw [if_neg (by omega), ← g4]; rfl
  | cons b r =>
    obtain ⟨rfl, i0, i1, i2⟩ := g3
    have hnx : (gl (0, 0, 0) s.2.2 g.toNat).2.2 = nx s.2.2 g := (nx_in i0 i1).symm
    have fm := mul_sz_le h.sh i0 (show g ≤ 64 by omega)
    rw [adl] at g4
    rw [if_pos i0]
    by_cases hq : q < sz s.1
    · left
      rw [if_pos hq] at g4
      rw [if_pos hq, if_pos trivial, w64_id (e := g * sz s.1) (by omega) (by omega), w64_id (by omega) (by omega), ← g4]; rfl
    · right
      rw [if_neg hq] at g4
      rw [if_neg hq, if_pos ⟨i0, i1⟩, hnx, w64_id (by omega) (by omega)]
      exact ⟨m - 1, _, by simp at g2; omega, rfl, ⟨by simp only; omega, by simp only; omega⟩, r, by simp at g2; omega, i2, g4⟩

/-- Step, of the program and of the reference, are one. -/
theorem step_eq {s : Sp} (hI : StI s) {a k : Int} (ha : I64 a) (hk : I64 k) : ∃ v, Fchain_Step s a k = some v ∧ Fbeltwayref05_Step s a k = some v := by
  by_cases h : VS s
  rotate_left
  · obtain ⟨h1, h2⟩ := bad_valid h hI
    refine ⟨(0, 1), ?_, ?_⟩
    · unfold Fchain_Step; rw [h1]; rfl
    · unfold Fbeltwayref05_Step; rw [h2]; rfl
  have hstep : ∀ v, Fbeltwayref05_Go s a k = some v → Fbeltwayref05_Step s a k = some v := by
    intro v hv
    unfold Fbeltwayref05_Step
    rw [VS.valid h]
    simp only [Option.bind_some]
    rw [if_neg (by simp), hv]; rfl
  by_cases hr : a < 0 ∨ a ≥ s.2.1.length ∨ k < 0
  · refine ⟨(0, 2), ?_, hstep _ (Go_out s hr)⟩
    unfold Fchain_Step
    rw [VS.fvalid h]
    simp only [Option.bind_some]
    rw [if_neg (by simp)]
    by_cases h1 : a < 0
    · rw [if_pos h1]
    rw [if_neg h1]
    by_cases h2 : a ≥ s.2.1.length
    · rw [if_pos h2]
    rw [if_neg h2, if_pos (by omega)]
  have a0 : 0 ≤ a := by omega
  have a1 : a < s.2.1.length := by omega
  have k0 : 0 ≤ k := by omega
  obtain ⟨f0, f1⟩ := frame_of h a0 a1
  by_cases hf : (fr s.2.2 (a / sz s.1)).1 = -1
  · refine ⟨(0, 5), ?_, hstep _ (Go_free h a0 a1 hf k0)⟩
    unfold Fchain_Step
    rw [VS.fvalid h]
    simp only [Option.bind_some]
    rw [if_neg (by simp), if_neg (by omega), if_neg (by omega), if_neg (by omega), if_pos trivial, fSize_ok h.sh, pow_sz h.sh]
    simp only [Option.bind_some]
    rw [cFree_ok f0 f1]
    simp only [Option.bind_some]
    rw [if_pos (by simpa using hf)]
  · obtain ⟨l, hl⟩ := h.acy _ f0 f1
    exact ⟨_, fStep_ok h a0 a1 hf k0 hk.2 hl, hstep _ (Go_ok h a0 a1 hf k0 hk.2 hl)⟩

/-- How many words stand before a frame of a chain. -/
def ixl (z : Int) : List Int → Int → Int → Option Int
  | [], _, _ => none
  | g :: r, f, n => if g = f then some n else ixl z r f (n + z)
theorem ixl_adl {z : Int} (hz : 0 < z) : ∀ {l : List Int} {off x n : Int}, l.Nodup → 0 ≤ off → adl z l off = some x → ixl z l (x / z) n = some (n + (off - x % z))
  | [], _, _, _, _, _, h => by cases h
  | g :: r, off, x, n, hd, h0, h => by
    obtain ⟨n1, n2⟩ := List.nodup_cons.1 hd
    rw [adl] at h
    rw [ixl]
    by_cases h1 : off < z
    · rw [if_pos h1] at h
      simp only [Option.some.injEq] at h
      subst h
      obtain ⟨e1, e2⟩ := addr_frame hz (g := g) h0 h1
      rw [e1, e2, if_pos rfl]
      congr 1; omega
    · rw [if_neg h1] at h
      have hm := adl_mem hz (by omega) h
      rw [if_neg (show ¬ g = x / z from fun e => n1 (by rw [e]; exact hm)), ixl_adl hz n2 (by omega) h]
      congr 1; omega

/-- Index on a valid space, of a frame in use. -/
def ixR (z a : Int) : Option Int → Int × Int
  | some n => (n + a % z, 0)
  | none => (0, 2)
theorem fIndex_ok {s : Sp} (h : VS s) {f a : Int} (f0 : 0 ≤ f) (f1 : f < s.2.2.length) (a0 : 0 ≤ a) (a1 : a < s.2.1.length) (hu : (fr s.2.2 f).1 ≠ -1) {l : List Int} (hl : Pa s.2.2 f l) :
    Fchain_Index s f a = some (ixR (sz s.1) a (ixl (sz s.1) l (a / sz s.1) 0)) := by
  have hwl := VS.wlen h
  have hn := h.n.2
  have z := sz_pos' s.1
  obtain ⟨z1, z2⟩ := sz_le h.sh
  have m0 := Int.emod_nonneg a (show sz s.1 ≠ 0 by omega)
  have m1 := Int.emod_lt_of_pos a z
  have hll := hl.length
  unfold Fchain_Index
  rw [VS.fvalid h, cIn_ok, cFree_ok f0 f1, fSize_ok h.sh]
  simp only [Option.bind_some]
  rw [if_neg (by simp), if_neg (by simp [f0, f1]), if_neg (by omega), if_neg (by omega), if_neg (by simpa using hu), pow_sz h.sh, w64_id (e := sz s.1 - 1) (by omega) (by omega), and_sz h.sh a0 (by omega)]
  refine loopO_to (fun m (st : Int × Int) => (0 ≤ st.2 ∧ st.2 + m * sz s.1 ≤ 20000) ∧ ∃ l2, l2.length = m ∧ Pa s.2.2 st.1 l2 ∧ ixl (sz s.1) l2 (a / sz s.1) st.2 = ixl (sz s.1) l (a / sz s.1) 0) (n := l.length) ?_ ⟨⟨by simp, ?_⟩, l, rfl, hl, rfl⟩
  · rintro m ⟨g, q⟩ ⟨⟨g0, g1⟩, l2, g2, g3, g4⟩
    simp only at g0 g1 g3 g4 ⊢
    cases l2 with
    | nil =>
      left
      rw [Pa] at g3
      rw [if_neg (by omega), ← g4]; rfl
    | cons b r =>
      obtain ⟨rfl, i0, i1, i2⟩ := g3
      have hnx : (gl (0, 0, 0) s.2.2 g.toNat).2.2 = nx s.2.2 g := (nx_in i0 i1).symm
      rw [ixl] at g4
      rw [if_pos i0, if_pos trivial]
      have hm : (m : Int) = ((m - 1 : Nat) : Int) + 1 := by simp at g2; omega
      rw [hm, Int.add_mul, Int.one_mul] at g1
      have hmz : 0 ≤ ((m - 1 : Nat) : Int) * sz s.1 := Int.mul_nonneg (by omega) (by omega)
      by_cases hq : g = a / sz s.1
      · left
        rw [if_pos hq] at g4
        rw [if_pos hq, ← g4, w64_id (by omega) (by omega)]; rfl
      · right
        rw [if_neg hq] at g4
        rw [if_neg hq, if_pos ⟨i0, i1⟩, hnx, w64_id (by omega) (by omega)]
        exact ⟨m - 1, _, by simp at g2; omega, rfl, ⟨by simp only; omega, by simp only; omega⟩, r, by simp at g2; omega, i2, g4⟩
  · have := (mul_sz_le h.sh (show 0 ≤ (l.length : Int) by omega) (show (l.length : Int) ≤ 64 by omega)).2
    simp only; omega
theorem rIndex_ok {s : Sp} (h : VS s) {f a : Int} (f0 : 0 ≤ f) (f1 : f < s.2.2.length) (a0 : 0 ≤ a) (a1 : a < s.2.1.length) (hu : (fr s.2.2 f).1 ≠ -1) {l : List Int} (hl : Pa s.2.2 f l) :
    Fbeltwayref05_Index s f a = some (ixR (sz s.1) a (ixl (sz s.1) l (a / sz s.1) 0)) := by
  have hwl := VS.wlen h
  have hn := h.n.2
  have z := sz_pos' s.1
  obtain ⟨z1, z2⟩ := sz_le h.sh
  have m0 := Int.emod_nonneg a (show sz s.1 ≠ 0 by omega)
  have m1 := Int.emod_lt_of_pos a z
  have hll := hl.length
  have hfr : gl (0, 0, 0) s.2.2 f.toNat = fr s.2.2 f := rfl
  unfold Fbeltwayref05_Index
  rw [VS.valid h, rOut_ok, Chain_ok hn hl]
  simp only [Option.bind_some]
  rw [if_neg (by simp), if_neg (by simp [f0, f1]), if_neg (by omega), if_neg (by omega), if_pos ⟨f0, f1⟩, hfr, if_neg hu, pow_sz h.sh, Int.one_mul, w64_id (e := sz s.1) (by omega) (by omega), w64_id (e := sz s.1 - 1) (by omega) (by omega), and_sz h.sh a0 (by omega)]
  refine loopO_to (fun m (st : Int × Int) => (0 ≤ st.1 ∧ st.1 + m * sz s.1 ≤ 20000) ∧ (0 ≤ st.2 ∧ st.2 = (l.length : Int) - m ∧ m ≤ l.length) ∧ ixl (sz s.1) (l.drop (l.length - m)) (a / sz s.1) st.1 = ixl (sz s.1) l (a / sz s.1) 0) (n := l.length) ?_ ⟨⟨by simp, ?_⟩, ⟨by simp, by simp, Nat.le_refl _⟩, by simp⟩
  · rintro m ⟨q, i⟩ ⟨⟨g0, g1⟩, ⟨g2, g3, g5⟩, g4⟩
    simp only at g0 g1 g2 g3 g4 ⊢
    by_cases hm : m = 0
    · left
      subst hm
      rw [if_neg (by omega), ← g4, Nat.sub_zero, List.drop_length]; rfl
    · have hi : i.toNat = l.length - m := by omega
      rw [List.drop_eq_getElem_cons (by omega), ixl] at g4
      have hg : gl 0 l i.toNat = l[l.length - m] := by rw [gl_lt (by omega)]; congr 1
      rw [if_pos (by omega), if_pos (by omega), if_pos trivial, if_pos trivial, if_pos trivial, hg]
      have hm2 : (m : Int) = ((m - 1 : Nat) : Int) + 1 := by omega
      rw [hm2, Int.add_mul, Int.one_mul] at g1
      have hmz : 0 ≤ ((m - 1 : Nat) : Int) * sz s.1 := Int.mul_nonneg (by omega) (by omega)
      by_cases hq : l[l.length - m] = a / sz s.1
      · left
        rw [if_pos hq] at g4
        rw [if_pos hq, ← g4, w64_id (by omega) (by omega)]; rfl
      · right
        rw [if_neg hq] at g4
        rw [if_neg hq, w64_id (by omega) (by omega), w64_id (by omega) (by omega)]
        refine ⟨m - 1, _, by omega, rfl, ⟨by simp only; omega, by simp only; omega⟩, ⟨by simp only; omega, by simp only; omega, by omega⟩, ?_⟩
        simp only
        rw [show l.length - (m - 1) = l.length - m + 1 from by omega]
        exact g4
  · have := (mul_sz_le h.sh (show 0 ≤ (l.length : Int) by omega) (show (l.length : Int) ≤ 64 by omega)).2
    simp only; omega

theorem index_eq {s : Sp} (hI : StI s) (f a : Int) : ∃ v, Fchain_Index s f a = some v ∧ Fbeltwayref05_Index s f a = some v := by
  by_cases h : VS s
  rotate_left
  · obtain ⟨h1, h2⟩ := bad_valid h hI
    refine ⟨(0, 1), ?_, ?_⟩
    · unfold Fchain_Index; rw [h1]; rfl
    · unfold Fbeltwayref05_Index; rw [h2]; rfl
  by_cases hf : 0 ≤ f ∧ f < s.2.2.length
  rotate_left
  · refine ⟨(0, 2), ?_, ?_⟩
    · unfold Fchain_Index; rw [VS.fvalid h, cIn_ok]; simp [hf]
    · unfold Fbeltwayref05_Index; rw [VS.valid h, rOut_ok]; simp [hf]
  by_cases ha : 0 ≤ a ∧ a < s.2.1.length
  rotate_left
  · refine ⟨(0, 2), ?_, ?_⟩
    · unfold Fchain_Index
      rw [VS.fvalid h, cIn_ok]
      simp only [Option.bind_some]
      rw [if_neg (by simp), if_neg (by simp [hf])]
      by_cases h1 : a < 0
      · rw [if_pos h1]
      · rw [if_neg h1, if_pos (by omega)]
    · unfold Fbeltwayref05_Index
      rw [VS.valid h, rOut_ok]
      simp only [Option.bind_some]
      rw [if_neg (by simp), if_neg (by simp [hf])]
      by_cases h1 : a < 0
      · rw [if_pos h1]
      · rw [if_neg h1, if_pos (by omega)]
  by_cases hu : (fr s.2.2 f).1 = -1
  · have hfr : gl (0, 0, 0) s.2.2 f.toNat = fr s.2.2 f := rfl
    refine ⟨(0, 5), ?_, ?_⟩
    · unfold Fchain_Index
      rw [VS.fvalid h, cIn_ok, cFree_ok hf.1 hf.2]
      simp only [Option.bind_some]
      rw [if_neg (by simp), if_neg (by simp [hf]), if_neg (by omega), if_neg (by omega), if_pos (by simpa using hu)]
    · unfold Fbeltwayref05_Index
      rw [VS.valid h, rOut_ok]
      simp only [Option.bind_some]
      rw [if_neg (by simp), if_neg (by simp [hf]), if_neg (by omega), if_neg (by omega), if_pos hf, hfr, if_pos hu]
  · obtain ⟨l, hl⟩ := h.acy f hf.1 hf.2
    exact ⟨_, fIndex_ok h hf.1 hf.2 ha.1 ha.2 hu hl, rIndex_ok h hf.1 hf.2 ha.1 ha.2 hu hl⟩

/-- The example of chapter 5. -/
theorem pair_ok : ∃ s, Fbeltwaylaw05_pair = some s ∧ VS s ∧ s.1 = 3 ∧ s.2.1.length = 32 ∧ s.2.2.length = 4 ∧ (fr s.2.2 2).1 = 1 ∧ Pa s.2.2 2 [2, 0] := by
  have h0 := VS.new (s := 3) (n := 4) (by omega) (by omega)
  obtain ⟨h1, _⟩ := h0.take (f := 0) (o := 1) (b := 0) (by omega) (by decide) (by decide) (by omega) (by omega) (by omega) (by omega)
  simp only at h1
  obtain ⟨h2, _⟩ := h1.take (f := 2) (o := 1) (b := 0) (by omega) (by decide) (by decide) (by omega) (by omega) (by omega) (by omega)
  simp only at h2
  obtain ⟨h3, hp⟩ := h2.link (a := 2) (f := 0) (lf := [0]) (by omega) (by decide) (by omega) (by decide) (by decide) (by decide) (by decide) (by decide) (by
    intro i i0 i1
    simp only [List.length_set, List.length_replicate] at i1
    have : i = 0 ∨ i = 1 ∨ i = 2 ∨ i = 3 := by omega
    rcases this with rfl | rfl | rfl | rfl <;> decide) ⟨rfl, by omega, by decide, by rw [Pa]; decide⟩ (by decide)
  have hn : Fbeltwayref03_New 3 4 = _ := rNew_ok (s := 3) (n := 4) (by omega) (by omega)
  unfold Fbeltwaylaw05_pair
  rw [hn]
  simp only [Option.bind_some]
  rw [if_pos (by decide), if_pos (by decide)]
  exact ⟨_, rfl, h3, rfl, by decide, by decide, by decide, hp [2] 2 ⟨rfl, by omega, by decide, by rw [Pa]; decide⟩⟩
theorem awake_ok : Fbeltwaylaw05_awake = some true := by
  obtain ⟨s, h1, h2, h3, h4, h5, h6, h7⟩ := pair_ok
  have hz : sz s.1 = 8 := by rw [h3]; rfl
  unfold Fbeltwaylaw05_awake
  rw [h1]
  simp only [Option.bind_some]
  rw [fStep_ok h2 (by omega) (by omega) (by rw [hz]; show (fr s.2.2 2).1 ≠ -1; omega) (by omega) (by omega) (by rw [hz]; exact h7)]
  simp only [Option.bind_some]
  rw [fIndex_ok h2 (by omega) (by omega) (by omega) (by omega) (by omega) h7, hz]
  simp only [Option.bind_some]
  decide

theorem law_ChainSteps (y0 : Sp) (w0 : Wf spT y0) (y1 : List Int) (w1 : Wf (.slice (.int .i64)) y1) (y2 : Int) (w2 : I64 y2) (y3 : Int) (w3 : I64 y3) (y4 : Int) (w4 : I64 y4) (y5 : Int) (w5 : I64 y5) (y6 : Int) (w6 : I64 y6) (y7 : Int) (w7 : I64 y7) :
    Fbeltwaylaw05_ChainSteps y0 y1 y2 y3 y4 y5 y6 y7 = some true := by
  unfold Fbeltwaylaw05_ChainSteps
  rw [Small_ok]
  simp only [Option.bind_some]
  by_cases hs : y0.2.1.length ≤ 3000 ∧ y0.2.2.length ≤ 80
  rotate_left
  · rw [if_pos (by simp [hs]), awake_ok]; rfl
  rw [if_neg (by simp [hs])]
  obtain ⟨d, e1, hd⟩ := New0_ok y1 w1.1
  rw [e1]
  simp only [Option.bind_some]
  obtain ⟨s, l, d', e2, _, hm⟩ := Space_ok hd
  rw [e2]
  simp only [Option.bind_some]
  obtain ⟨u, e3, k1, k2, k3, k4, k5⟩ := VS.spoilt hm.vs y5 y6 y7
  rw [e3]
  simp only [Option.bind_some]
  have hall : ∀ x ∈ [s, y0, u], StI x ∧ x.2.1.length ≤ 100000 ∧ x.2.2.length ≤ 1000 := by
    intro x hx
    simp only [List.mem_cons, List.not_mem_nil, or_false] at hx
    have := VS.wlen hm.vs
    have := hm.n
    rcases hx with rfl | rfl | rfl
    · exact ⟨hm.vs.stI, by omega, by omega⟩
    · exact ⟨raw_stI w0, by omega, by omega⟩
    · exact ⟨k1.stI (by omega), by omega, by omega⟩
  refine loopO_run 3 (fun k hk => ?_) (by rw [if_neg (by simp), awake_ok]; rfl)
  rw [if_pos (by simp; omega), if_pos ⟨by omega, by simp; omega⟩]
  have hx := hall _ (gl_mem (d := ((0, [], []) : Sp)) (xs := [s, y0, u]) (k := (k : Int).toNat) (by simp; omega))
  generalize gl ((0, [], []) : Sp) [s, y0, u] (k : Int).toNat = x at hx ⊢
  obtain ⟨x1, x2, x3⟩ := hx
  rw [w64_id (e := (x.2.1.length : Int) + 2) (by omega) (by omega), w64_id (e := (x.2.2.length : Int) + 2) (by omega) (by omega)]
  obtain ⟨a, e4, a0, a1, _⟩ := Mod_ok y2 (m := (x.2.1.length : Int) + 2) (by omega) (by omega)
  rw [e4]
  simp only [Option.bind_some]
  obtain ⟨b, e5, b0, b1, _⟩ := Mod_ok y3 (m := 60) (by omega) (by omega)
  rw [e5]
  simp only [Option.bind_some]
  obtain ⟨c, e6, c0, c1, _⟩ := Mod_ok y4 (m := (x.2.2.length : Int) + 2) (by omega) (by omega)
  rw [e6]
  simp only [Option.bind_some]
  rw [w64_id (e := a - 1) (by omega) (by omega), w64_id (e := b - 1) (by omega) (by omega), w64_id (e := c - 1) (by omega) (by omega), w64_id (e := (k : Int) + 1) (by omega) (by omega)]
  refine loopO_run 2 (fun m hm => ?_) (by rw [if_neg (by simp)])
  rw [if_pos (by simp; omega), if_pos ⟨by omega, by simp; omega⟩]
  have hp : ∀ p ∈ [[y2, y3, y4], [a - 1, b - 1, c - 1]], p.length = 3 ∧ I64 (gl 0 p 0) ∧ I64 (gl 0 p 1) := by
    intro p hp
    simp only [List.mem_cons, List.not_mem_nil, or_false] at hp
    rcases hp with rfl | rfl
    · exact ⟨rfl, w2, w3⟩
    · exact ⟨rfl, ⟨by simp [gl]; omega, by simp [gl]; omega⟩, ⟨by simp [gl]; omega, by simp [gl]; omega⟩⟩
  have hq := hp _ (gl_mem (d := ([] : List Int)) (xs := [[y2, y3, y4], [a - 1, b - 1, c - 1]]) (k := (m : Int).toNat) (by simp; omega))
  generalize gl ([] : List Int) [[y2, y3, y4], [a - 1, b - 1, c - 1]] (m : Int).toNat = p at hq ⊢
  obtain ⟨p1, p2, p3⟩ := hq
  rw [p1]
  obtain ⟨v, v1, v2⟩ := step_eq x1 p2 p3
  obtain ⟨v', v3, v4⟩ := index_eq x1 (gl 0 p 2) (gl 0 p 0)
  simp only [show (0 : Int).toNat = 0 from rfl, show (1 : Int).toNat = 1 from rfl, show (2 : Int).toNat = 2 from rfl]
  rw [if_pos (by decide), if_pos (by decide), v1]
  simp only [Option.bind_some]
  rw [if_pos (by decide), if_pos (by decide), v2]
  simp only [Option.bind_some]
  rw [if_pos (by decide), if_pos (by decide), v3]
  simp only [Option.bind_some]
  rw [if_pos (by decide), if_pos (by decide), v4]
  simp only [Option.bind_some]
  rw [if_neg (by simp), if_neg (by simp), if_neg (by simp), if_neg (by simp), w64_id (by omega) (by omega)]

namespace chainSteps
open Go.ChangeShapes Go.WideShapes Go.ChangeAt Go.RowKit Go.V3
set_option linter.unusedVariables false
theorem own : ownKnob Try.prog.godebug = none := by kernel_rfl
theorem laidOut : laidOutB Try.prog = true := by kernel_rfl
set_option maxRecDepth 100000 in
theorem lifted (os : Os) (started : os.Started) (H : Type) (enc : TypeId × Value → H) :
    ReturnsInHanded {} Try.checked os 3 .any (Rows.chainStepsSpec.pre6 enc Try.prog Try.f3 Rows.chainStepsRow.domain false) (Rows.chainStepsSpec.post enc Try.prog Try.f3 false true false false) := by
  refine returnsInHanded_of_change (C := Try.checked) own started (by kernel_rfl) Try.func3
    (ChangeSpec.witness6 (enc := enc) (C := Try.checked) false ⟨#[], #[.agg #[.int .i64 0, .slice none 0 0, .slice none 0 0], .slice none 0 0, .int .i64 0, .int .i64 0, .int .i64 0, .int .i64 0, .int .i64 0, .int .i64 0], []⟩ 8 (by kernel_rfl) (by kernel_rfl) (by kernel_rfl) (by kernel_rfl)) ?_
  intro W base args ds gs before hval0 hW hcnd _
  have hval : ∀ (j : Nat) t v, Try.f3.params[j]? = some t → args[j]? = some v → Value.okWide Try.prog W .any base t v := hval0
  have hW' := hW
  obtain ⟨p, q, hA0, hV, rfl, hfz, hnd⟩ := hW
  have hA : DataW.TrodAll enc Try.prog W 0 (fun _ => true) true Try.f3.params.toList args.toList ds p := hA0
  rw [Try.params3] at hA hval
  obtain ⟨v0, vs0, d0, ds0, p0, q0, hargs, rfl, rfl, h0, r0⟩ := trodAll_cons hA
  obtain ⟨v1, vs1, d1, ds1, p1, q1, rfl, rfl, rfl, h1, r1⟩ := trodAll_cons r0
  obtain ⟨v2, vs2, d2, ds2, p2, q2, rfl, rfl, rfl, h2, r2⟩ := trodAll_cons r1
  obtain ⟨v3, vs3, d3, ds3, p3, q3, rfl, rfl, rfl, h3, r3⟩ := trodAll_cons r2
  obtain ⟨v4, vs4, d4, ds4, p4, q4, rfl, rfl, rfl, h4, r4⟩ := trodAll_cons r3
  obtain ⟨v5, vs5, d5, ds5, p5, q5, rfl, rfl, rfl, h5, r5⟩ := trodAll_cons r4
  obtain ⟨v6, vs6, d6, ds6, p6, q6, rfl, rfl, rfl, h6, r6⟩ := trodAll_cons r5
  obtain ⟨v7, vs7, d7, ds7, p7, q7, rfl, rfl, rfl, h7, r7⟩ := trodAll_cons r6
  obtain ⟨rfl, rfl, rfl⟩ := trodAll_nil r7
  obtain rfl : args = #[v0, v1, v2, v3, v4, v5, v6, v7] := by cases args; simp_all
  obtain ⟨rfl, rfl⟩ := trodVars_none hV
  have k0 := h0
  have lt0 : ∀ x ∈ p0, x.block < W.heap.size := by obtain ⟨m, hm⟩ := k0; exact DataW.trod_lt m _ _ _ hm
  obtain ⟨y0, R0, w0⟩ := handed 40 (.pair (.int .i64) (.pair (.slice .u64) (.slice (.pair (.int .i64) (.pair (.int .i64) (.int .i64)))))) (by kernel_rfl) (hval 0 25 v0 rfl rfl) k0
  have k1 := h1
  have lt1 : ∀ x ∈ p1, x.block < W.heap.size := by obtain ⟨m, hm⟩ := k1; exact DataW.trod_lt m _ _ _ hm
  obtain ⟨y1, R1, w1⟩ := handed 40 (.slice (.int .i64)) (by kernel_rfl) (hval 1 26 v1 rfl rfl) k1
  have k2 := h2
  have lt2 : ∀ x ∈ p2, x.block < W.heap.size := by obtain ⟨m, hm⟩ := k2; exact DataW.trod_lt m _ _ _ hm
  obtain ⟨y2, R2, w2⟩ := handed 40 (.int .i64) (by kernel_rfl) (hval 2 3 v2 rfl rfl) k2
  have k3 := h3
  have lt3 : ∀ x ∈ p3, x.block < W.heap.size := by obtain ⟨m, hm⟩ := k3; exact DataW.trod_lt m _ _ _ hm
  obtain ⟨y3, R3, w3⟩ := handed 40 (.int .i64) (by kernel_rfl) (hval 3 3 v3 rfl rfl) k3
  have k4 := h4
  have lt4 : ∀ x ∈ p4, x.block < W.heap.size := by obtain ⟨m, hm⟩ := k4; exact DataW.trod_lt m _ _ _ hm
  obtain ⟨y4, R4, w4⟩ := handed 40 (.int .i64) (by kernel_rfl) (hval 4 3 v4 rfl rfl) k4
  have k5 := h5
  have lt5 : ∀ x ∈ p5, x.block < W.heap.size := by obtain ⟨m, hm⟩ := k5; exact DataW.trod_lt m _ _ _ hm
  obtain ⟨y5, R5, w5⟩ := handed 40 (.int .i64) (by kernel_rfl) (hval 5 3 v5 rfl rfl) k5
  have k6 := h6
  have lt6 : ∀ x ∈ p6, x.block < W.heap.size := by obtain ⟨m, hm⟩ := k6; exact DataW.trod_lt m _ _ _ hm
  obtain ⟨y6, R6, w6⟩ := handed 40 (.int .i64) (by kernel_rfl) (hval 6 3 v6 rfl rfl) k6
  have k7 := h7
  have lt7 : ∀ x ∈ p7, x.block < W.heap.size := by obtain ⟨m, hm⟩ := k7; exact DataW.trod_lt m _ _ _ hm
  obtain ⟨y7, R7, w7⟩ := handed 40 (.int .i64) (by kernel_rfl) (hval 7 3 v7 rfl rfl) k7
  have A8 := Args.nil W
  obtain ⟨m7, A7⟩ := A8.cons (t := (.int .i64)) (.inr ⟨rfl, plainForm (t := 3) rfl (hval 7 3 v7 rfl rfl)⟩) y7 R7
  obtain ⟨m6, A6⟩ := A7.cons (t := (.int .i64)) (.inr ⟨rfl, plainForm (t := 3) rfl (hval 6 3 v6 rfl rfl)⟩) y6 R6
  obtain ⟨m5, A5⟩ := A6.cons (t := (.int .i64)) (.inr ⟨rfl, plainForm (t := 3) rfl (hval 5 3 v5 rfl rfl)⟩) y5 R5
  obtain ⟨m4, A4⟩ := A5.cons (t := (.int .i64)) (.inr ⟨rfl, plainForm (t := 3) rfl (hval 4 3 v4 rfl rfl)⟩) y4 R4
  obtain ⟨m3, A3⟩ := A4.cons (t := (.int .i64)) (.inr ⟨rfl, plainForm (t := 3) rfl (hval 3 3 v3 rfl rfl)⟩) y3 R3
  obtain ⟨m2, A2⟩ := A3.cons (t := (.int .i64)) (.inr ⟨rfl, plainForm (t := 3) rfl (hval 2 3 v2 rfl rfl)⟩) y2 R2
  obtain ⟨m1, A1⟩ := A2.cons (t := (.slice (.int .i64))) (.inr ⟨rfl, plainForm (t := 26) rfl (hval 1 26 v1 rfl rfl)⟩) y1 R1
  obtain ⟨m0, A0⟩ := A1.cons (t := (.pair (.int .i64) (.pair (.slice .u64) (.slice (.pair (.int .i64) (.pair (.int .i64) (.int .i64))))))) (.inl ⟨rfl, aggForm (t := 25) rfl (hval 0 25 v0 rfl rfl)⟩) y0 R0
  refine (law_args (fi := iFbeltwaylaw05_ChainSteps) okFbeltwaylaw05_ChainSteps (r := (true : Bool)) (vals := #[v0, v1, v2, v3, v4, v5, v6, v7]) (w := W) A0 (law_ChainSteps y0 w0 y1 w1 y2 (i64_of_wf w2) y3 (i64_of_wf w3) y4 (i64_of_wf w4) y5 (i64_of_wf w5) y6 (i64_of_wf w6) y7 (i64_of_wf w7)) (fun _ => rfl)).mono fun e W' ⟨he, bel⟩ => ?_
  subst he
  simp only [List.append_nil] at hW'
  exact ⟨_, rfl, _, _, _, [], _, [], hW', trodAll_mk1 (shut_bool Try.underlying4 _), (trodAll_cons_mk (Below.trod laidOut (by kernel_rfl) (of_decide_eq_true (by kernel_rfl)) k0 bel lt0) (trodAll_cons_mk (Below.trod laidOut (by kernel_rfl) (of_decide_eq_true (by kernel_rfl)) k1 bel lt1) (trodAll_cons_mk (Below.trod laidOut (by kernel_rfl) (of_decide_eq_true (by kernel_rfl)) k2 bel lt2) (trodAll_cons_mk (Below.trod laidOut (by kernel_rfl) (of_decide_eq_true (by kernel_rfl)) k3 bel lt3) (trodAll_cons_mk (Below.trod laidOut (by kernel_rfl) (of_decide_eq_true (by kernel_rfl)) k4 bel lt4) (trodAll_cons_mk (Below.trod laidOut (by kernel_rfl) (of_decide_eq_true (by kernel_rfl)) k5 bel lt5) (trodAll_cons_mk (Below.trod laidOut (by kernel_rfl) (of_decide_eq_true (by kernel_rfl)) k6 bel lt6) (trodAll_cons_mk (Below.trod laidOut (by kernel_rfl) (of_decide_eq_true (by kernel_rfl)) k7 bel lt7) trodAll_mk0)))))))), rfl, bel.frame _, fun h => by cases h⟩
theorem proved : Rows.ChainStepsSaid :=
  OpenClaim.holds_of_wide 3 Try.f3 rfl rfl rfl rfl rfl rfl rfl ⟨rfl, rfl, rfl, rfl, rfl⟩ rfl rfl rfl rfl rfl (by kernel_rfl) Try.func3 (by kernel_rfl)
    (of_decide_eq_true (by kernel_rfl)) (by unfold Func.isWrapper; first | (rw [if_pos (by decide +kernel)]; kernel_rfl) | (rw [if_neg (by decide +kernel)]; exact ⟨rfl, rfl⟩))
    (fun os started H enc _ => lifted os started H enc)
end chainSteps

theorem cList_ok {s : Sp} (h : VS s) {f : Int} (f0 : 0 ≤ f) (f1 : f < s.2.2.length) (hu : (fr s.2.2 f).1 ≠ -1) {l : List Int} (hl : Pa s.2.2 f l) : Fchain_List s f = some (l, 0) := by
  have hn := h.n.2
  have hll := hl.length
  unfold Fchain_List
  rw [VS.fvalid h, cIn_ok, cFree_ok f0 f1]
  simp only [Option.bind_some]
  rw [if_neg (by simp), if_neg (by simp [f0, f1]), if_neg (by simpa using hu)]
  refine loopO_to (fun k (st : List Int × Int) => ∃ l2, l = st.1 ++ l2 ∧ Pa s.2.2 st.2 l2 ∧ l2.length = k) (n := l.length) ?_ ⟨l, rfl, hl, rfl⟩
  rintro k ⟨acc, f⟩ ⟨l2, h1, h2, h3⟩
  simp only at h1 h2 ⊢
  cases l2 with
  | nil =>
    left
    rw [Pa] at h2
    rw [if_neg (by omega), h1, List.append_nil]
  | cons a r =>
    right
    obtain ⟨rfl, g0, g1, g2⟩ := h2
    have := congrArg List.length h1
    simp at this h3
    have hfr : (gl (0, 0, 0) s.2.2 f.toNat).2.2 = nx s.2.2 f := (nx_in g0 g1).symm
    rw [if_pos g0, if_pos (by simp; omega), if_pos ⟨g0, g1⟩, hfr]
    exact ⟨k - 1, _, by omega, rfl, r, by simp [h1], g2, by omega⟩

theorem law_ChainOrder (y0 : List Int) (w0 : Wf (.slice (.int .i64)) y0) (y1 : Int) (w1 : I64 y1) (y2 : Int) (w2 : I64 y2) (y3 : Int) (w3 : I64 y3) : Fbeltwaylaw05_ChainOrder y0 y1 y2 y3 = some true := by
  unfold Fbeltwaylaw05_ChainOrder
  obtain ⟨d, e1, hd⟩ := New0_ok y0 w0.1
  rw [e1]
  simp only [Option.bind_some]
  obtain ⟨s, l, d', e2, _, hm⟩ := Space_ok hd
  rw [e2]
  simp only [Option.bind_some]
  by_cases hl0 : (l.length : Int) = 0
  · rw [if_pos hl0, awake_ok]; rfl
  have hcnt := hm.cnt
  rw [if_neg hl0]
  obtain ⟨k, e3, k0, k1, _⟩ := Mod_ok y1 (m := l.length) (by omega) (by omega)
  rw [e3]
  simp only [Option.bind_some]
  rw [if_pos ⟨k0, k1⟩]
  have hi := hm.fits _ (gl_mem (d := ((0, 0, 0, 0, 0) : Inc)) (xs := l) (k := k.toNat) (by omega))
  generalize gl ((0, 0, 0, 0, 0) : Inc) l k.toNat = i at hi ⊢
  obtain ⟨hf, hw, _⟩ := hi
  have h := hm.vs
  have hwl := VS.wlen h
  have hn := h.n.2
  have z := sz_pos' s.1
  obtain ⟨z1, z2⟩ := sz_le h.sh
  rcases hf.2 with ⟨q1, _⟩ | ⟨_, ⟨f0, f1⟩, f2, f3, c, hc, hc2, hc3, hc4⟩
  · omega
  have hcl := hc.length
  have hs0 := hf.1.1
  have hcpos : 0 < c.length := by
    rcases Nat.eq_zero_or_pos c.length with h0 | h0
    · rw [List.length_eq_zero_iff] at h0; subst h0; simp at hc4
    · exact h0
  have hu : (fr s.2.2 i.2.2.1).1 ≠ -1 := by omega
  rw [cList_ok h f0 f1 hu hc]
  simp only [Option.bind_some]
  have hnz := mul_sz_le h.sh (show 0 ≤ (c.length : Int) by omega) (show (c.length : Int) ≤ 64 by omega)
  have hnz2 : 1 * sz s.1 ≤ c.length * sz s.1 := Int.mul_le_mul_of_nonneg_right (by omega) (by omega)
  rw [if_neg (by simp), if_neg (by omega), if_pos trivial, pow_sz h.sh, w64_id (e := (c.length : Int) * sz s.1) (by omega) (by omega)]
  obtain ⟨p, e4, p0, p1, _⟩ := Mod_ok y2 (m := (c.length : Int) * sz s.1) (by omega) (by omega)
  rw [e4]
  simp only [Option.bind_some]
  obtain ⟨q, e5, q0, q1, _⟩ := Mod_ok y3 (m := (c.length : Int) * sz s.1) (by omega) (by omega)
  rw [e5]
  simp only [Option.bind_some]
  have fz := mul_sz_le h.sh f0 (show i.2.2.1 ≤ 64 by omega)
  have fw : i.2.2.1 * sz s.1 < s.2.1.length := by rw [h.w]; exact Int.mul_lt_mul_of_pos_right f1 z
  have ha := addr_frame z (g := i.2.2.1) (o := 0) (by omega) z
  rw [Int.add_zero] at ha
  obtain ⟨g, _, hg⟩ := adl_some z (l := c) (off := p) p0 p1
  generalize g * sz s.1 + p % sz s.1 = x at hg
  have st0 : ∀ k, 0 ≤ k → k ≤ 100000 → Fchain_Step s (i.2.2.1 * sz s.1) k = some (adlR (adl (sz s.1) c k)) := fun k k0 k1 => by
    have := fStep_ok h fz.1 fw (by rw [ha.1]; exact hu) k0 (by omega) (l := c) (by rw [ha.1]; exact hc)
    rw [ha.2, Int.zero_add] at this
    exact this
  obtain ⟨l', m1, ⟨m2, m3, m4⟩, m5⟩ := adl_step z hc p0 hg q0
  have hx0 : 0 ≤ x := by have := (Int.le_ediv_iff_mul_le z).1 m2; omega
  have hx1 : x < s.2.1.length := by rw [h.w]; exact (Int.ediv_lt_iff_lt_mul z).1 m3
  have hux : (fr s.2.2 (x / sz s.1)).1 ≠ -1 := by rw [(h.owner hc _ m4).1]; exact hu
  rw [if_pos trivial, w64_id (e := i.2.2.1 * sz s.1) (by omega) (by omega), st0 p p0 (by omega), hg]
  simp only [Option.bind_some, adlR]
  rw [fIndex_ok h f0 f1 hx0 hx1 hu hc, ixl_adl z hc.nodup p0 hg, fStep_ok h hx0 hx1 hux q0 (by omega) m1, m5]
  simp only [Option.bind_some]
  rw [if_pos trivial, w64_id (e := p + q) (by omega) (by omega), st0 (p + q) (by omega) (by omega)]
  simp only [Option.bind_some, ixR]
  rw [if_neg (by simp), if_neg (by simp), if_neg (by omega), if_neg (by simp)]
  by_cases hpq : p + q < c.length * sz s.1
  · obtain ⟨g2, _, hg2⟩ := adl_some z (l := c) (off := p + q) (by omega) hpq
    rw [hg2]
    simp only [adlR]
    rw [if_pos trivial, if_pos trivial, if_pos hpq]
  · rw [adl_none z (by omega) (by omega)]
    simp only [adlR]
    rw [if_neg (by decide), if_pos trivial, decide_eq_true (by omega)]

namespace chainOrder
open Go.ChangeShapes Go.WideShapes Go.ChangeAt Go.RowKit Go.V3
set_option linter.unusedVariables false
theorem own : ownKnob Try.prog.godebug = none := by kernel_rfl
theorem laidOut : laidOutB Try.prog = true := by kernel_rfl
set_option maxRecDepth 100000 in
theorem lifted (os : Os) (started : os.Started) (H : Type) (enc : TypeId × Value → H) :
    ReturnsInHanded {} Try.checked os 4 .any (Rows.chainOrderSpec.pre6 enc Try.prog Try.f4 Rows.chainOrderRow.domain false) (Rows.chainOrderSpec.post enc Try.prog Try.f4 false true false false) := by
  refine returnsInHanded_of_change (C := Try.checked) own started (by kernel_rfl) Try.func4
    (ChangeSpec.witness6 (enc := enc) (C := Try.checked) false ⟨#[], #[.slice none 0 0, .int .i64 0, .int .i64 0, .int .i64 0], []⟩ 8 (by kernel_rfl) (by kernel_rfl) (by kernel_rfl) (by kernel_rfl)) ?_
  intro W base args ds gs before hval0 hW hcnd _
  have hval : ∀ (j : Nat) t v, Try.f4.params[j]? = some t → args[j]? = some v → Value.okWide Try.prog W .any base t v := hval0
  have hW' := hW
  obtain ⟨p, q, hA0, hV, rfl, hfz, hnd⟩ := hW
  have hA : DataW.TrodAll enc Try.prog W 0 (fun _ => true) true Try.f4.params.toList args.toList ds p := hA0
  rw [Try.params4] at hA hval
  obtain ⟨v0, vs0, d0, ds0, p0, q0, hargs, rfl, rfl, h0, r0⟩ := trodAll_cons hA
  obtain ⟨v1, vs1, d1, ds1, p1, q1, rfl, rfl, rfl, h1, r1⟩ := trodAll_cons r0
  obtain ⟨v2, vs2, d2, ds2, p2, q2, rfl, rfl, rfl, h2, r2⟩ := trodAll_cons r1
  obtain ⟨v3, vs3, d3, ds3, p3, q3, rfl, rfl, rfl, h3, r3⟩ := trodAll_cons r2
  obtain ⟨rfl, rfl, rfl⟩ := trodAll_nil r3
  obtain rfl : args = #[v0, v1, v2, v3] := by cases args; simp_all
  obtain ⟨rfl, rfl⟩ := trodVars_none hV
  have k0 := h0
  have lt0 : ∀ x ∈ p0, x.block < W.heap.size := by obtain ⟨m, hm⟩ := k0; exact DataW.trod_lt m _ _ _ hm
  obtain ⟨y0, R0, w0⟩ := handed 40 (.slice (.int .i64)) (by kernel_rfl) (hval 0 26 v0 rfl rfl) k0
  have k1 := h1
  have lt1 : ∀ x ∈ p1, x.block < W.heap.size := by obtain ⟨m, hm⟩ := k1; exact DataW.trod_lt m _ _ _ hm
  obtain ⟨y1, R1, w1⟩ := handed 40 (.int .i64) (by kernel_rfl) (hval 1 3 v1 rfl rfl) k1
  have k2 := h2
  have lt2 : ∀ x ∈ p2, x.block < W.heap.size := by obtain ⟨m, hm⟩ := k2; exact DataW.trod_lt m _ _ _ hm
  obtain ⟨y2, R2, w2⟩ := handed 40 (.int .i64) (by kernel_rfl) (hval 2 3 v2 rfl rfl) k2
  have k3 := h3
  have lt3 : ∀ x ∈ p3, x.block < W.heap.size := by obtain ⟨m, hm⟩ := k3; exact DataW.trod_lt m _ _ _ hm
  obtain ⟨y3, R3, w3⟩ := handed 40 (.int .i64) (by kernel_rfl) (hval 3 3 v3 rfl rfl) k3
  have A4 := Args.nil W
  obtain ⟨m3, A3⟩ := A4.cons (t := (.int .i64)) (.inr ⟨rfl, plainForm (t := 3) rfl (hval 3 3 v3 rfl rfl)⟩) y3 R3
  obtain ⟨m2, A2⟩ := A3.cons (t := (.int .i64)) (.inr ⟨rfl, plainForm (t := 3) rfl (hval 2 3 v2 rfl rfl)⟩) y2 R2
  obtain ⟨m1, A1⟩ := A2.cons (t := (.int .i64)) (.inr ⟨rfl, plainForm (t := 3) rfl (hval 1 3 v1 rfl rfl)⟩) y1 R1
  obtain ⟨m0, A0⟩ := A1.cons (t := (.slice (.int .i64))) (.inr ⟨rfl, plainForm (t := 26) rfl (hval 0 26 v0 rfl rfl)⟩) y0 R0
  refine (law_args (fi := iFbeltwaylaw05_ChainOrder) okFbeltwaylaw05_ChainOrder (r := (true : Bool)) (vals := #[v0, v1, v2, v3]) (w := W) A0 (law_ChainOrder y0 w0 y1 (i64_of_wf w1) y2 (i64_of_wf w2) y3 (i64_of_wf w3)) (fun _ => rfl)).mono fun e W' ⟨he, bel⟩ => ?_
  subst he
  simp only [List.append_nil] at hW'
  exact ⟨_, rfl, _, _, _, [], _, [], hW', trodAll_mk1 (shut_bool Try.underlying4 _), (trodAll_cons_mk (Below.trod laidOut (by kernel_rfl) (of_decide_eq_true (by kernel_rfl)) k0 bel lt0) (trodAll_cons_mk (Below.trod laidOut (by kernel_rfl) (of_decide_eq_true (by kernel_rfl)) k1 bel lt1) (trodAll_cons_mk (Below.trod laidOut (by kernel_rfl) (of_decide_eq_true (by kernel_rfl)) k2 bel lt2) (trodAll_cons_mk (Below.trod laidOut (by kernel_rfl) (of_decide_eq_true (by kernel_rfl)) k3 bel lt3) trodAll_mk0)))), rfl, bel.frame _, fun h => by cases h⟩
theorem proved : Rows.ChainOrderSaid :=
  OpenClaim.holds_of_wide 4 Try.f4 rfl rfl rfl rfl rfl rfl rfl ⟨rfl, rfl, rfl, rfl, rfl⟩ rfl rfl rfl rfl rfl (by kernel_rfl) Try.func4 (by kernel_rfl)
    (of_decide_eq_true (by kernel_rfl)) (by unfold Func.isWrapper; first | (rw [if_pos (by decide +kernel)]; kernel_rfl) | (rw [if_neg (by decide +kernel)]; exact ⟨rfl, rfl⟩))
    (fun os started H enc _ => lifted os started H enc)
end chainOrder

/-- A chain is bad to be led on. -/
def BadLink (s : Sp) (a f : Int) (l : List Int) : Prop := (fr s.2.2 a).1 = -1 ∨ (fr s.2.2 f).1 = -1 ∨ (fr s.2.2 a).2.1 ≠ (fr s.2.2 f).2.1 ∨ nx s.2.2 a ≠ -1 ∨ (∃ x : Int, (0 ≤ x ∧ x < s.2.2.length) ∧ nx s.2.2 x = f) ∨ a ∈ l
theorem cCopy_ok {s : Sp} (h : s.2.1.length ≤ 1000000) (h2 : s.2.2.length ≤ 1000000) : Fclone_Space s = some s := by
  unfold Fclone_Space Fclone_Words
  rw [if_pos (by simp; omega)]
  simp only [Option.bind_some]
  rw [if_pos (by simp; omega)]; rfl
theorem fLink_ok {s : Sp} (h : VS s) {a f : Int} (a0 : 0 ≤ a) (a1 : a < s.2.2.length) (f0 : 0 ≤ f) (f1 : f < s.2.2.length) {l : List Int} (hl : Pa s.2.2 f l) :
    (BadLink s a f l ∧ Fchain_Link s a f = some ((0, [], []), 5)) ∨ (¬ BadLink s a f l ∧ Fchain_Link s a f = some ((s.1, s.2.1, s.2.2.set a.toNat ((fr s.2.2 a).1, (fr s.2.2 a).2.1, f)), 0)) := by
  have hwl := VS.wlen h
  have hn := h.n.2
  have ha : gl (0, 0, 0) s.2.2 a.toNat = fr s.2.2 a := rfl
  have hf : gl (0, 0, 0) s.2.2 f.toNat = fr s.2.2 f := rfl
  unfold Fchain_Link
  rw [VS.fvalid h, cIn_ok, cIn_ok, cFree_ok a0 a1, cFree_ok f0 f1]
  simp only [Option.bind_some, ha, hf]
  rw [if_neg (by simp), if_neg (by simp [a0, a1]), if_neg (by simp [f0, f1])]
  by_cases b1 : (fr s.2.2 a).1 = -1
  · rw [if_pos (by simpa using b1)]; exact .inl ⟨.inl b1, rfl⟩
  rw [if_neg (by simpa using b1)]
  by_cases b2 : (fr s.2.2 f).1 = -1
  · rw [if_pos (by simpa using b2)]; exact .inl ⟨.inr (.inl b2), rfl⟩
  rw [if_neg (by simpa using b2), if_pos ⟨a0, a1⟩, if_pos ⟨f0, f1⟩]
  by_cases b3 : (fr s.2.2 a).2.1 = (fr s.2.2 f).2.1
  rotate_left
  · rw [if_pos b3]; exact .inl ⟨.inr (.inr (.inl b3)), rfl⟩
  rw [if_neg (by simp [b3]), if_pos ⟨a0, a1⟩]
  have hna := nx_in a0 a1
  by_cases b4 : (fr s.2.2 a).2.2 = -1
  rotate_left
  · rw [if_pos b4]; exact .inl ⟨.inr (.inr (.inr (.inl (by rw [hna]; exact b4)))), rfl⟩
  rw [if_neg (by simp [b4])]
  have key : ∃ b, (if b.2 = 0 then ¬ BadLink s a f l ∧ b = ((s.1, s.2.1, s.2.2.set a.toNat ((fr s.2.2 a).1, (fr s.2.2 a).2.1, f)), 0) else BadLink s a f l ∧ b = ((0, [], []), 5)) ∧ loopO (σ := Int) (β := ((Int × (List (BitVec 64)) × (List (Int × Int × Int))) × Int)) (fun s1 =>
      if s1 < (s.2.2.length : Int) then
      if 0 ≤ s1 ∧ s1 < (s.2.2.length : Int) then
      if (((gl (0, 0, 0) s.2.2 s1.toNat).2).2) = f then
      some (Sum.inr (((0, [], []), 5)))
      else some (Sum.inl (w64 (s1 + 1)))
      else none
      else Option.map Sum.inr (loopO (σ := Int) (β := ((Int × (List (BitVec 64)) × (List (Int × Int × Int))) × Int)) (fun s2 =>
      if s2 ≥ 0 then
      if s2 = a then
      some (Sum.inr (((0, [], []), 5)))
      else if 0 ≤ s2 ∧ s2 < (s.2.2.length : Int) then
      some (Sum.inl (((gl (0, 0, 0) s.2.2 s2.toNat).2).2))
      else none
      else Option.map Sum.inr (Option.bind (Fclone_Space s) (fun r6 =>
      if 0 ≤ a ∧ a < (r6.2.2.length : Int) then
      some (((r6.1, r6.2.1, r6.2.2.set a.toNat ((gl (0, 0, 0) r6.2.2 a.toNat).1, ((gl (0, 0, 0) r6.2.2 a.toNat).2).1, f)), 0))
      else none))) (f))) 0 = some b := by
    refine (loopO_up (fun k (i : Int) => i = (k : Int) ∧ k ≤ s.2.2.length ∧ ∀ x : Int, 0 ≤ x → x < k → nx s.2.2 x ≠ f) (fun b => if b.2 = 0 then ¬ BadLink s a f l ∧ b = ((s.1, s.2.1, s.2.2.set a.toNat ((fr s.2.2 a).1, (fr s.2.2 a).2.1, f)), 0) else BadLink s a f l ∧ b = ((0, [], []), 5)) s.2.2.length ?_ ?_ ⟨rfl, by omega, fun x x0 x1 => by omega⟩).elim fun b hb => ⟨b, hb.2, hb.1⟩
    · rintro k i hk ⟨rfl, _, hx⟩
      have hfk : (gl (0, 0, 0) s.2.2 (k : Int).toNat).2.2 = nx s.2.2 k := (nx_in (by omega) (by omega)).symm
      rw [if_pos (by omega), if_pos (by omega), hfk, w64_id (by omega) (by omega)]
      by_cases hk2 : nx s.2.2 k = f
      · rw [if_pos hk2]
        exact .inr ⟨_, rfl, by rw [if_neg (by decide)]; exact ⟨.inr (.inr (.inr (.inr (.inl ⟨k, ⟨by omega, by omega⟩, hk2⟩)))), rfl⟩⟩
      · rw [if_neg hk2]
        refine .inl ⟨_, rfl, by omega, by omega, fun x x0 x1 => ?_⟩
        by_cases hxk : x = k
        · rw [hxk]; exact hk2
        · exact hx x x0 (by omega)
    · rintro i ⟨rfl, _, hx⟩
      rw [if_neg (by omega)]
      refine map_inr ?_
      refine loopO_ind (fun m (g : Int) => ∃ l1 l2, l = l1 ++ l2 ∧ l2.length = m ∧ Pa s.2.2 g l2 ∧ a ∉ l1) _ ?_ l.length f ⟨[], l, rfl, rfl, hl, by simp⟩
      rintro m g ⟨l1, l2, c1, c2, c3, c4⟩
      cases l2 with
      | nil =>
        left
        rw [Pa] at c3
        rw [if_neg (by omega), cCopy_ok (by omega) (by omega)]
        simp only [Option.bind_some, ha]
        rw [if_pos ⟨a0, a1⟩]
        refine ⟨_, rfl, ?_⟩
        rw [if_pos rfl]
        refine ⟨?_, rfl⟩
        rw [List.append_nil] at c1
        rintro (d | d | d | d | ⟨x, ⟨x0, x1⟩, d⟩ | d)
        · exact b1 d
        · exact b2 d
        · exact d b3
        · exact d (by rw [hna]; exact b4)
        · exact hx x x0 x1 d
        · exact c4 (c1 ▸ d)
      | cons b r =>
        obtain ⟨rfl, g0, g1, g2⟩ := c3
        rw [if_pos g0]
        by_cases hg : g = a
        · left
          rw [if_pos hg]
          exact ⟨_, rfl, by rw [if_neg (by decide)]; exact ⟨.inr (.inr (.inr (.inr (.inr (by rw [c1, hg]; simp))))), rfl⟩⟩
        · right
          have hgn : (gl (0, 0, 0) s.2.2 g.toNat).2.2 = nx s.2.2 g := (nx_in g0 g1).symm
          rw [if_neg hg, if_pos ⟨g0, g1⟩, hgn]
          exact ⟨m - 1, _, by simp at c2; omega, rfl, l1 ++ [g], r, by simp [c1], by simp at c2; omega, g2, by simp [c4]; exact fun e => hg e.symm⟩
  obtain ⟨b, hb1, hb2⟩ := key
  rw [hb2]
  by_cases hb : b.2 = 0
  · rw [if_pos hb] at hb1; exact .inr ⟨hb1.1, by rw [← hb1.2]⟩
  · rw [if_neg hb] at hb1; exact .inl ⟨hb1.1, by rw [← hb1.2]⟩

theorem rTake_ok {s : Sp} (h : VS s) {o b : Int} (o0 : 0 ≤ o) (o1 : o ≤ 4294967295) (b0 : 0 ≤ b) (b1 : b < 4) (hst : ∀ x : Int, 0 ≤ x → x < s.2.2.length → (fr s.2.2 x).1 = o → (fr s.2.2 x).2.1 = b * 4294967296 + o) {f : Int} {r : List Int} (hf : frees s.2.2 = f :: r) :
    Fbeltwayref04_Take s o b = some ((s.1, s.2.1, s.2.2.set f.toNat (o, b * 4294967296 + o, -1)), f, 0) := by
  have hn := h.n.2
  unfold Fbeltwayref04_Take
  rw [VS.valid h]
  simp only [Option.bind_some]
  rw [if_neg (by simp), if_neg (by omega), if_neg (by omega), if_neg (by omega), if_neg (by omega), w64_id (e := b * 4294967296) (by omega) (by omega), w64_id (e := b * 4294967296 + o) (by omega) (by omega)]
  refine loopO_run s.2.2.length (fun k hk => ?_) ?_
  · have hfr : gl (0, 0, 0) s.2.2 (k : Int).toNat = fr s.2.2 k := rfl
    rw [if_pos (by omega), if_pos (by omega), hfr, w64_id (by omega) (by omega)]
    by_cases ho : (fr s.2.2 k).1 = o
    · rw [if_pos ho, if_neg (by simp [hst k (by omega) (by omega) ho])]
    · rw [if_neg ho]
  · rw [if_neg (by omega), VS.copy h]
    simp only [Option.bind_some]
    rw [Lift_ok hn hf o0 o1 b0 b1]
    simp only [Option.bind_some]
    have := (frees_cons hf).1.1
    rw [if_neg (by omega)]
    rfl

theorem SameInts_ok (a b : List Int) (ha : (a.length : Int) ≤ 1000000) : ∃ c, Fbeltwayref18_SameInts a b = some c ∧ (c = true ↔ a = b) := by
  unfold Fbeltwayref18_SameInts
  by_cases hl : (a.length : Int) = b.length
  rotate_left
  · rw [if_pos hl]; exact ⟨_, rfl, no_iff fun h => hl (by rw [h])⟩
  rw [if_neg (by simp [hl])]
  refine loopO_up (fun k (i : Int) => i = (k : Int) ∧ k ≤ a.length ∧ ∀ j, j < k → gl 0 a j = gl 0 b j) _ a.length ?_ ?_ ⟨rfl, by omega, fun j h => by omega⟩
  · rintro k i hk ⟨rfl, _, hj⟩
    rw [if_pos (by omega), if_pos (by omega), if_pos (by omega), w64_id (by omega) (by omega), show (k : Int).toNat = k from rfl]
    by_cases h : gl 0 a k = gl 0 b k
    · rw [if_neg (by simp [h])]
      refine .inl ⟨_, rfl, by omega, by omega, fun j hj1 => ?_⟩
      by_cases hjk : j = k
      · rw [hjk]; exact h
      · exact hj j (by omega)
    · rw [if_pos h]
      exact .inr ⟨_, rfl, no_iff fun he => h (by rw [he])⟩
  · rintro i ⟨rfl, _, hj⟩
    rw [if_neg (by omega)]
    refine ⟨_, rfl, iff_of_true rfl (List.ext_getElem (by omega) fun j h1 h2 => ?_)⟩
    have := hj j h1
    rw [gl_lt h1, gl_lt h2] at this
    exact this

theorem law_ChainGrows (y0 : Int) (w0 : I64 y0) (y1 : Int) (w1 : I64 y1) : Fbeltwaylaw05_ChainGrows y0 y1 = some true := by
  have hnew : Fbeltwayref03_New 3 20 = _ := rNew_ok (s := 3) (n := 20) (by omega) (by omega)
  have vnew := VS.new (s := 3) (n := 20) (by omega) (by omega)
  unfold Fbeltwaylaw05_ChainGrows
  rw [hnew]
  simp only [Option.bind_some]
  obtain ⟨c, e1, c0, c1, _⟩ := Mod_ok y0 (m := 12) (by omega) (by omega)
  rw [e1]
  simp only [Option.bind_some]
  rw [w64_id (e := 1 + c) (by omega) (by omega)]
  have hfr0 : ∀ x : Int, 0 ≤ x → x < 20 → (fr (List.replicate (20 : Int).toNat (-1, -1, -1)) x).1 = -1 := fun x x0 x1 => by
    unfold fr; rw [gl_rep (by omega)]
  refine (loopO_up (fun k (st : List Int × Int × Sp) => st.2.1 = (k : Int) ∧ k ≤ 12 ∧ st.1 = rangeI k ∧ VS st.2.2 ∧ st.2.2.2.2.length = 20 ∧ (∀ x : Int, 0 ≤ x → x < k → (fr st.2.2.2.2 x).1 = 7 ∧ (fr st.2.2.2.2 x).2.1 = 2 * 4294967296 + 7) ∧ (∀ x : Int, k ≤ x → x < 20 → (fr st.2.2.2.2 x).1 = -1) ∧ (0 < k → Pa st.2.2.2.2 0 (rangeI k)))
    (fun b => b = true) (1 + c).toNat ?_ ?_ ⟨rfl, by omega, rfl, vnew, List.length_replicate, fun x x0 x1 => by omega, fun x x0 x1 => hfr0 x (by omega) x1, fun h => by omega⟩).elim fun b hb => by rw [hb.1, hb.2]
  · rintro k ⟨fl, i, s⟩ hk ⟨h1, h2, h3, h4, h5, h6, h7, h8⟩
    simp only at h1 h3 h4 h5 h6 h7 h8 ⊢
    subst h1 h3
    obtain ⟨r, hr⟩ := frees_head (fs := s.2.2) (k := k) (by omega) (by omega) (h7 k (by omega) (by omega)) (fun j j0 j1 => by rw [(h6 j j0 j1).1]; decide)
    have hst : ∀ x : Int, 0 ≤ x → x < s.2.2.length → (fr s.2.2 x).1 = 7 → (fr s.2.2 x).2.1 = 2 * 4294967296 + 7 := fun x x0 x1 hx => by
      by_cases hxk : x < k
      · exact (h6 x x0 hxk).2
      · rw [h7 x (by omega) (by omega)] at hx; exact absurd hx (by decide)
    have hk1 : (k : Int) < s.2.2.length := by omega
    rw [if_pos (by omega), rTake_ok h4 (o := 7) (b := 2) (by omega) (by omega) (by omega) (by omega) hst hr]
    simp only [Option.bind_some]
    obtain ⟨v1, n1⟩ := h4.take (f := k) (o := 7) (b := 2) (by omega) (by omega) (h7 k (by omega) (by omega)) (by omega) (by omega) (by omega) (by omega)
    have hset : ∀ x : Int, 0 ≤ x → fr (s.2.2.set (k : Int).toNat (7, 2 * 4294967296 + 7, -1)) x = if x = k then (7, 2 * 4294967296 + 7, -1) else fr s.2.2 x := fun x x0 => fr_set (by omega) (by omega) x0
    have hlen : (s.2.2.set (k : Int).toNat (7, 2 * 4294967296 + 7, -1)).length = s.2.2.length := by simp
    generalize s.2.2.set (k : Int).toNat (7, 2 * 4294967296 + 7, -1) = fs at v1 n1 hset hlen ⊢
    have hnk : nx fs k = -1 := by
      rw [nx_in (by omega) (by omega), hset k (by omega), if_pos rfl]
    have hpk : Pa fs k [(k : Int)] := ⟨rfl, by omega, by omega, hnk⟩
    have hlr := rangeI_length k
    rw [if_neg (by simp), if_pos (by simp [hlr]; omega)]
    have r1 : rangeI k ++ [(k : Int)] = rangeI (k + 1) := (rangeI_succ k).symm
    by_cases hk0 : k = 0
    · subst hk0
      rw [if_neg (by simp), w64_id (by simp) (by simp)]
      refine .inl ⟨_, rfl, by simp, by omega, r1, v1, by simp only; omega, fun x x0 x1 => ?_, fun x x0 x1 => ?_, fun _ => hpk⟩
      · simp only; rw [hset x x0, if_pos (by omega)]; exact ⟨rfl, rfl⟩
      · simp only; rw [hset x (by omega), if_neg (by omega)]; exact h7 x (by omega) x1
    · rw [if_pos (by omega), w64_id (e := (k : Int) - 1) (by omega) (by omega), r1, rangeI_length, if_pos (by omega), w64_id (by omega) (by omega)]
      have hg : gl 0 (rangeI (k + 1)) ((k : Int) - 1).toNat = (k : Int) - 1 := by
        rw [gl_lt (by rw [rangeI_length]; omega)]
        simp [rangeI]; omega
      have hp0 := h8 (by omega)
      have hp1 : Pa fs 0 (rangeI k) := hp0.congr (by omega) n1
      have hlast : (rangeI k).getLast? = some ((k : Int) - 1) := by
        obtain ⟨m, rfl⟩ : ∃ m, k = m + 1 := ⟨k - 1, by omega⟩
        rw [rangeI_succ]; simp
      have hin : ∀ i : Int, 0 ≤ i → i < fs.length → nx fs i ≠ k := fun i i0 i1 => by
        rw [n1 i i0 (by omega)]
        exact h4.no_in (by omega) (h7 k (by omega) (by omega)) i i0 (by omega)
      have e7 : (fr fs ((k : Int) - 1)).1 = 7 ∧ (fr fs ((k : Int) - 1)).2.1 = 2 * 4294967296 + 7 := by
        rw [hset _ (by omega), if_neg (by omega)]; exact h6 _ (by omega) (by omega)
      have ek : fr fs k = (7, 2 * 4294967296 + 7, -1) := by rw [hset k (by omega), if_pos rfl]
      obtain ⟨v2, p2⟩ := v1.link (a := (k : Int) - 1) (f := k) (lf := [(k : Int)]) (by omega) (by simp only; omega) (by omega) (by simp only; omega) (by simp only; omega) (hp1.last hlast).1 (by simp only; rw [ek, e7.1]) (by simp only; rw [ek, e7.2]) hin hpk (by simp; omega)
      rw [hg]
      rcases fLink_ok v1 (a := (k : Int) - 1) (f := k) (by omega) (by simp only; omega) (by omega) (by simp only; omega) hpk with ⟨hb, _⟩ | ⟨_, hb⟩
      · exfalso
        rcases hb with d | d | d | d | ⟨x, ⟨x0, x1⟩, d⟩ | d
        · simp only at d; omega
        · simp only at d; rw [ek] at d; simp at d
        · simp only at d; rw [ek, e7.2] at d; exact d rfl
        · exact d (hp1.last hlast).1
        · exact hin x x0 x1 d
        · simp at d; omega
      · simp only at hb v2 p2
        rw [hb]
        simp only [Option.bind_some]
        rw [if_neg (by simp)]
        have hset2 : ∀ x : Int, 0 ≤ x → fr (fs.set ((k : Int) - 1).toNat ((fr fs ((k : Int) - 1)).1, (fr fs ((k : Int) - 1)).2.1, (k : Int))) x = if x = (k : Int) - 1 then ((fr fs ((k : Int) - 1)).1, (fr fs ((k : Int) - 1)).2.1, (k : Int)) else fr fs x := fun x x0 => fr_set (by omega) (by omega) x0
        refine .inl ⟨_, rfl, by simp only; omega, by omega, rfl, v2, by simp only; rw [List.length_set]; omega, fun x x0 x1 => ?_, fun x x0 x1 => ?_, fun _ => ?_⟩
        · simp only
          rw [hset2 x x0]
          by_cases hxk : x = (k : Int) - 1
          · rw [if_pos hxk]; exact e7
          · rw [if_neg hxk, hset x x0]
            by_cases hxk2 : x = k
            · rw [if_pos hxk2]; exact ⟨rfl, rfl⟩
            · rw [if_neg hxk2]; exact h6 x x0 (by omega)
        · simp only
          rw [hset2 x (by omega), if_neg (by omega), hset x (by omega), if_neg (by omega)]
          exact h7 x (by omega) x1
        · have := p2 (rangeI k) 0 hp1
          rw [if_pos (mem_rangeI.2 ⟨by omega, by omega⟩), r1] at this
          exact this
  · rintro ⟨fl, i, s⟩ ⟨h1, h2, h3, h4, h5, h6, h7, h8⟩
    simp only at h1 h3 h4 h5 h6 h7 h8 ⊢
    rw [show (((1 + c).toNat : Nat) : Int) = 1 + c from by omega] at h1 h6 h7
    generalize hK : (1 + c).toNat = K at h2 h3 h8
    subst h1 h3
    have hKc : (K : Int) = 1 + c := by omega
    rw [if_neg (by omega)]
    refine map_inr ?_
    obtain ⟨a, e2, a0, a1, _⟩ := Mod_ok y1 (m := 1 + c) (by omega) (by omega)
    rw [e2]
    simp only [Option.bind_some]
    have hp := h8 (by omega)
    have gli : ∀ j : Int, 0 ≤ j → j < K → gl 0 (rangeI K) j.toNat = j := fun j j0 j1 => by
      rw [gl_lt (by rw [rangeI_length]; omega)]
      simp [rangeI]; omega
    have hpa : Pa s.2.2 a ((rangeI K).drop a.toNat) := by
      have := hp.drop a.toNat (by rw [rangeI_length]; omega)
      rw [← gl_lt (d := 0), gli a a0 (by omega)] at this
      exact this
    rw [rangeI_length, if_pos ⟨a0, by omega⟩, gli a a0 (by omega), cList_ok h4 a0 (by omega) (by rw [(h6 a a0 (by omega)).1]; decide) hpa]
    simp only [Option.bind_some]
    rw [show 1 + c - 1 = c from by omega, w64_id (e := c) (by omega) (by omega), if_pos ⟨c0, by omega⟩, if_pos (by omega), gli c c0 (by omega), show gl 0 (rangeI K) (0 : Int).toNat = 0 from gli 0 (by omega) (by omega)]
    rcases fLink_ok h4 (a := c) (f := 0) c0 (by omega) (by omega) (by omega) hp with ⟨_, hb⟩ | ⟨hb, _⟩
    · rw [hb]
      simp only [Option.bind_some]
      rw [if_pos trivial, if_pos ⟨trivial, by omega, by omega⟩]
      have hsub := subl_rest (rangeI K) a.toNat
      rw [rangeI_length] at hsub
      rw [hsub]
      obtain ⟨t, t1, t2⟩ := SameInts_ok ((rangeI K).drop a.toNat) ((rangeI K).drop a.toNat) (by rw [List.length_drop, rangeI_length]; omega)
      rw [t1, t2.2 rfl]
      simp only [Option.bind_some]
      rw [if_pos trivial, if_pos trivial, awake_ok]
      exact ⟨_, rfl, rfl⟩
    · exact absurd (.inr (.inr (.inr (.inr (.inr (mem_rangeI.2 ⟨c0, by omega⟩)))))) hb

namespace chainGrows
open Go.ChangeShapes Go.WideShapes Go.ChangeAt Go.RowKit Go.V3
set_option linter.unusedVariables false
theorem own : ownKnob Try.prog.godebug = none := by kernel_rfl
theorem laidOut : laidOutB Try.prog = true := by kernel_rfl
set_option maxRecDepth 100000 in
theorem lifted (os : Os) (started : os.Started) (H : Type) (enc : TypeId × Value → H) :
    ReturnsInHanded {} Try.checked os 6 .any (Rows.chainGrowsSpec.pre6 enc Try.prog Try.f6 Rows.chainGrowsRow.domain false) (Rows.chainGrowsSpec.post enc Try.prog Try.f6 false true false false) := by
  refine returnsInHanded_of_change (C := Try.checked) own started (by kernel_rfl) Try.func6
    (ChangeSpec.witness6 (enc := enc) (C := Try.checked) false ⟨#[], #[.int .i64 0, .int .i64 0], []⟩ 8 (by kernel_rfl) (by kernel_rfl) (by kernel_rfl) (by kernel_rfl)) ?_
  intro W base args ds gs before hval0 hW hcnd _
  have hval : ∀ (j : Nat) t v, Try.f6.params[j]? = some t → args[j]? = some v → Value.okWide Try.prog W .any base t v := hval0
  have hW' := hW
  obtain ⟨p, q, hA0, hV, rfl, hfz, hnd⟩ := hW
  have hA : DataW.TrodAll enc Try.prog W 0 (fun _ => true) true Try.f6.params.toList args.toList ds p := hA0
  rw [Try.params6] at hA hval
  obtain ⟨v0, vs0, d0, ds0, p0, q0, hargs, rfl, rfl, h0, r0⟩ := trodAll_cons hA
  obtain ⟨v1, vs1, d1, ds1, p1, q1, rfl, rfl, rfl, h1, r1⟩ := trodAll_cons r0
  obtain ⟨rfl, rfl, rfl⟩ := trodAll_nil r1
  obtain rfl : args = #[v0, v1] := by cases args; simp_all
  obtain ⟨rfl, rfl⟩ := trodVars_none hV
  have k0 := h0
  have lt0 : ∀ x ∈ p0, x.block < W.heap.size := by obtain ⟨m, hm⟩ := k0; exact DataW.trod_lt m _ _ _ hm
  obtain ⟨a0, rfl, _, _, w0⟩ := open_int Try.underlying3 (hval 0 3 v0 rfl rfl) h0
  have b0 := i64_of_wf w0
  have k1 := h1
  have lt1 : ∀ x ∈ p1, x.block < W.heap.size := by obtain ⟨m, hm⟩ := k1; exact DataW.trod_lt m _ _ _ hm
  obtain ⟨a1, rfl, _, _, w1⟩ := open_int Try.underlying3 (hval 1 3 v1 rfl rfl) h1
  have b1 := i64_of_wf w1
  refine (law_bare okFbeltwaylaw05_ChainGrows rfl (x := ((a0, a1) : HT iFbeltwaylaw05_ChainGrows.ps)) (r := (true : Bool)) (vals := #[_, _]) (w := W) ?_ (law_ChainGrows a0 b0 a1 b1) (fun _ => rfl)).mono fun e W' ⟨he, bel⟩ => ?_
  · rfl
  subst he
  simp only [List.append_nil] at hW'
  exact ⟨_, rfl, _, _, _, [], _, [], hW', trodAll_mk1 (shut_bool Try.underlying4 _), (trodAll_cons_mk (Below.trod laidOut (by kernel_rfl) (of_decide_eq_true (by kernel_rfl)) k0 bel lt0) (trodAll_cons_mk (Below.trod laidOut (by kernel_rfl) (of_decide_eq_true (by kernel_rfl)) k1 bel lt1) trodAll_mk0)), rfl, bel.frame _, fun h => by cases h⟩
theorem proved : Rows.ChainGrowsSaid :=
  OpenClaim.holds_of_wide 6 Try.f6 rfl rfl rfl rfl rfl rfl rfl ⟨rfl, rfl, rfl, rfl, rfl⟩ rfl rfl rfl rfl rfl (by kernel_rfl) Try.func6 (by kernel_rfl)
    (of_decide_eq_true (by kernel_rfl)) (by unfold Func.isWrapper; first | (rw [if_pos (by decide +kernel)]; kernel_rfl) | (rw [if_neg (by decide +kernel)]; exact ⟨rfl, rfl⟩))
    (fun os started H enc _ => lifted os started H enc)
end chainGrows
end Go.Proofs.Ytpihmdpbfochkaa
