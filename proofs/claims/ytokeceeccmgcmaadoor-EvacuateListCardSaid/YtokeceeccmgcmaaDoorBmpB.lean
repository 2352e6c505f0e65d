/-
  Plain laws of package bump: valid increments, growing, dropping.
-/
import Derived.Test.YtokeceeccmgcmaaDoorPolB
import Derived.Test.YtokeceeccmgcmaaDoorChnN
set_option linter.unusedVariables false
namespace Go.Proofs.YtokeceeccmgcmaaDoor
open Go Go.V3

theorem bCeil_ok {n s : Int} (hs : 3 ≤ s ∧ s ≤ 8) (h0 : 0 ≤ n) (h1 : n ≤ 1000000) : Fbits_Ceil n s = some (cl (sz s) n) := by
  obtain ⟨z1, z2⟩ := sz_le hs
  unfold Fbits_Ceil
  rw [if_neg (by omega), if_neg (by omega), if_neg (by omega), if_neg (by omega), if_pos trivial, if_pos trivial, pow_sz hs, Int.one_mul, w64_id (e := sz s) (by omega) (by omega), w64_id (e := n + sz s) (by omega) (by omega), w64_id (by omega) (by omega)]
  rfl
theorem bFrames_ok {s : Sp} (h : VS s) {i : Inc} (h0 : 0 ≤ i.2.2.2.2) (h1 : i.2.2.2.2 ≤ 1000000) : Fbump_Frames s i = some (cl (sz s.1) i.2.2.2.2) := by
  unfold Fbump_Frames
  rw [bCeil_ok h.sh h0 h1]; rfl
theorem cl_small {z w : Int} (z1 : 8 ≤ z) (h : 0 ≤ w) : 0 ≤ cl z w ∧ cl z w ≤ w + z := by
  have c2 := cl_nonneg (show 0 < z by omega) h
  have c1 := cl_spec (n := w) (show 0 < z by omega)
  have b1 : cl z w * 1 ≤ cl z w * z := Int.mul_le_mul_of_nonneg_left (by omega) c2
  omega
theorem bowns_ok {s : Sp} (hn : s.2.2.length ≤ 64) (q : Int) : Fbump_owns s q = some ((owned s.2.2 q).length : Int) := by
  unfold Fbump_owns
  refine (loopO_up (fun k (st : Int × Int) => st.2 = (k : Int) ∧ k ≤ s.2.2.length ∧ st.1 = gvN s.2.2 q k) (fun b => b = ((owned s.2.2 q).length : Int)) s.2.2.length ?_ ?_ (s := ((0 : Int), (0 : Int))) ⟨rfl, by omega, rfl⟩).elim fun b h => by rw [h.1, h.2]
  · rintro k ⟨c, i⟩ hk ⟨h1, _, h2⟩
    simp only at h1 h2 ⊢
    subst h1
    have hfr : gl (0, 0, 0) s.2.2 (k : Int).toNat = fr s.2.2 k := rfl
    have hc := gvN_le s.2.2 q k
    rw [if_pos (by omega), if_pos (by omega), hfr, w64_id (e := (k : Int) + 1) (by omega) (by omega), w64_id (e := c + 1) (by omega) (by omega)]
    by_cases hf : (fr s.2.2 k).1 = q
    · rw [if_pos hf]
      exact .inl ⟨_, rfl, by simp only; omega, by omega, by simp only [gvN, if_pos hf]; omega⟩
    · rw [if_neg hf]
      exact .inl ⟨_, rfl, by simp only; omega, by omega, by simp only [gvN, if_neg hf]; omega⟩
  · rintro ⟨c, i⟩ ⟨h1, _, h2⟩
    simp only at h1 h2 ⊢
    rw [if_neg (by omega)]
    exact ⟨_, rfl, by rw [h2, gvN_eq]; rfl⟩
theorem fBase_ok {s : Sp} (h : VS s) {f : Int} (f0 : 0 ≤ f) (f1 : f < s.2.2.length) : Fframe_Base s f = some (f * sz s.1, 0) := by
  have hn := h.n.2
  have hm := mul_sz_le h.sh f0 (show f ≤ 64 by omega)
  unfold Fframe_Base Fframe_bounded
  rw [fshift_ok]
  simp only [Option.bind_some]
  rw [if_pos (by simp [h.sh])]
  simp only [Option.bind_some]
  rw [if_neg (by simp; omega), if_neg (by omega), if_neg (by omega), if_pos trivial, pow_sz h.sh, w64_id (by omega) (by omega)]
/-- Valid increments: the program's answer. -/
theorem bValid_ok {s : Sp} (hI : StI s) (i : Inc) : ∃ b, Fbump_Valid s i = some b ∧ (b = true ↔ VS s ∧ FitS s i) := by
  by_cases h : VS s
  rotate_left
  · unfold Fbump_Valid
    rw [(bad_valid h hI).1]
    exact ⟨_, rfl, no_iff fun hh => h hh.1⟩
  suffices hs : ∃ b, Fbump_Valid s i = some b ∧ (b = true ↔ FitS s i) by
    obtain ⟨b, h1, h2⟩ := hs
    exact ⟨b, h1, h2.trans ⟨fun x => ⟨h, x⟩, fun x => x.2⟩⟩
  have hwl := VS.wlen h
  have hn := h.n.2
  unfold Fbump_Valid
  rw [VS.fvalid h]
  simp only [Option.bind_some]
  rw [if_neg (by simp)]
  by_cases c1 : i.1 < 0
  · rw [if_pos c1]; exact ⟨_, rfl, no_iff fun h => by have := h.1.1; omega⟩
  rw [if_neg c1]
  by_cases c2 : i.1 > 4294967295
  · rw [if_pos c2]; exact ⟨_, rfl, no_iff fun h => by have := h.1.2.1; omega⟩
  rw [if_neg c2]
  by_cases c3 : i.2.1 < 0
  · rw [if_pos c3]; exact ⟨_, rfl, no_iff fun h => by have := h.1.2.2.1; omega⟩
  rw [if_neg c3]
  by_cases c4 : i.2.1 ≥ 4
  · rw [if_pos c4]; exact ⟨_, rfl, no_iff fun h => by have := h.1.2.2.2.1; omega⟩
  rw [if_neg c4]
  by_cases c5 : i.2.2.2.2 < 0
  · rw [if_pos c5]; exact ⟨_, rfl, no_iff fun h => by have := h.1.2.2.2.2.1; omega⟩
  rw [if_neg c5]
  by_cases c7 : i.2.2.2.2 = 0
  · have hr : 0 ≤ i.1 ∧ i.1 ≤ 4294967295 ∧ 0 ≤ i.2.1 ∧ i.2.1 < 4 ∧ 0 ≤ i.2.2.2.2 ∧ i.2.2.2.2 ≤ s.2.1.length := ⟨by omega, by omega, by omega, by omega, by omega, by omega⟩
    rw [if_pos c7]
    by_cases c8 : i.2.2.1 = -1
    · rw [if_pos c8]
      refine ⟨_, rfl, ?_⟩
      rw [decide_eq_true_iff]
      exact ⟨fun hh => ⟨hr, .inl ⟨c7, c8, hh⟩⟩, fun hh => by rcases hh.2 with h1 | h1; exact h1.2.2; exact absurd c7 h1.1⟩
    · rw [if_neg c8]
      exact ⟨_, rfl, no_iff fun hh => by rcases hh.2 with h1 | h1; exact c8 h1.2.1; exact h1.1 c7⟩
  rw [if_neg c7]
  have only : FitS s i → (0 ≤ i.2.2.1 ∧ i.2.2.1 < s.2.2.length) ∧ (fr s.2.2 i.2.2.1).1 = i.1 ∧ (fr s.2.2 i.2.2.1).2.1 = i.2.1 * 4294967296 + i.1 ∧
      ∃ l, Pa s.2.2 i.2.2.1 l ∧ (l.length : Int) = cl (sz s.1) i.2.2.2.2 ∧ l.length = (owned s.2.2 i.1).length ∧ l.getLast? = some i.2.2.2.1 := fun hh => by
    rcases hh.2 with h1 | h1
    · exact absurd h1.1 c7
    · exact h1.2
  have lbad : ¬ ((0 ≤ i.2.2.1 ∧ i.2.2.1 < s.2.2.length) ∧ (fr s.2.2 i.2.2.1).1 ≠ -1) → ∃ e, e ≠ 0 ∧ Fchain_List s i.2.2.1 = some ([], e) := by
    intro hb
    unfold Fchain_List
    rw [VS.fvalid h, cIn_ok]
    simp only [Option.bind_some]
    rw [if_neg (by simp)]
    by_cases q : 0 ≤ i.2.2.1 ∧ i.2.2.1 < s.2.2.length
    · rw [if_neg (by simp [q]), cFree_ok q.1 q.2]
      simp only [Option.bind_some]
      have hf : (fr s.2.2 i.2.2.1).1 = -1 := Classical.byContradiction fun hf => hb ⟨q, hf⟩
      rw [if_pos (by simp [hf])]
      exact ⟨_, by decide, rfl⟩
    · rw [if_pos (by simp only [Bool.not_eq_true', decide_eq_false_iff_not]; exact q)]
      exact ⟨_, by decide, rfl⟩
  by_cases c8 : (0 ≤ i.2.2.1 ∧ i.2.2.1 < s.2.2.length) ∧ (fr s.2.2 i.2.2.1).1 ≠ -1
  rotate_left
  · obtain ⟨e, e1, e2⟩ := lbad c8
    rw [e2]
    simp only [Option.bind_some]
    rw [if_pos e1]
    refine ⟨_, rfl, no_iff fun hh => ?_⟩
    obtain ⟨o1, o2, _⟩ := only hh
    have := hh.1.1
    exact c8 ⟨o1, by omega⟩
  obtain ⟨⟨q0, q1⟩, q2⟩ := c8
  obtain ⟨l, hl⟩ := h.acy i.2.2.1 q0 q1
  have hll := hl.length
  have hlp : 0 < l.length := by
    cases l with
    | nil => rw [Pa] at hl; omega
    | cons => simp
  rw [cList_ok h q0 q1 q2 hl]
  simp only [Option.bind_some]
  rw [if_neg (by simp)]
  by_cases c6 : i.2.2.2.2 > s.2.1.length
  · rw [if_pos c6]; exact ⟨_, rfl, no_iff fun h => by have := h.1.2.2.2.2.2; omega⟩
  rw [if_neg c6]
  have hr : 0 ≤ i.1 ∧ i.1 ≤ 4294967295 ∧ 0 ≤ i.2.1 ∧ i.2.1 < 4 ∧ 0 ≤ i.2.2.2.2 ∧ i.2.2.2.2 ≤ s.2.1.length := ⟨by omega, by omega, by omega, by omega, by omega, by omega⟩
  have hg := gl_last (l := l) hlp
  rw [w64_id (e := (l.length : Int) - 1) (by omega) (by omega), if_pos (by omega), show ((l.length : Int) - 1).toNat = l.length - 1 from by omega]
  by_cases d1 : gl 0 l (l.length - 1) = i.2.2.2.1
  rotate_left
  · rw [if_pos d1]
    exact ⟨_, rfl, no_iff fun hh => by obtain ⟨l', p1, _, _, p2⟩ := (only hh).2.2.2; rw [← hl.fn p1, ← hg] at p2; exact d1 (by simpa using p2)⟩
  rw [if_neg (not_not_intro d1), bFrames_ok h (by omega) (by omega)]
  simp only [Option.bind_some]
  by_cases d2 : (l.length : Int) = cl (sz s.1) i.2.2.2.2
  rotate_left
  · rw [if_pos d2]
    exact ⟨_, rfl, no_iff fun hh => by obtain ⟨l', p1, p2, _⟩ := (only hh).2.2.2; rw [hl.fn p1] at d2; exact d2 p2⟩
  rw [if_neg (not_not_intro d2), bowns_ok hn]
  simp only [Option.bind_some]
  by_cases d3 : (l.length : Int) = ((owned s.2.2 i.1).length : Int)
  rotate_left
  · rw [if_pos d3]
    exact ⟨_, rfl, no_iff fun hh => by obtain ⟨l', p1, _, p2, _⟩ := (only hh).2.2.2; rw [hl.fn p1] at d3; exact d3 (by omega)⟩
  have hfr : gl (0, 0, 0) s.2.2 i.2.2.1.toNat = fr s.2.2 i.2.2.1 := rfl
  rw [if_neg (not_not_intro d3), if_pos ⟨q0, q1⟩, hfr, w64_id (e := i.2.1 * 4294967296) (by omega) (by omega), w64_id (e := i.2.1 * 4294967296 + i.1) (by omega) (by omega)]
  by_cases d4 : (fr s.2.2 i.2.2.1).1 = i.1
  rotate_left
  · rw [if_neg d4]; exact ⟨_, rfl, no_iff fun hh => d4 (only hh).2.1⟩
  rw [if_pos d4]
  refine ⟨_, rfl, ?_⟩
  rw [decide_eq_true_iff]
  constructor
  · intro d5
    exact ⟨hr, .inr ⟨c7, ⟨q0, q1⟩, d4, d5, l, hl, d2, by omega, by rw [← hg, d1]⟩⟩
  · intro hh; exact (only hh).2.2.1

/-- All frames of the owner are among those of the chain. -/
theorem Grows.st {s : Sp} {i : Inc} {l d r0 : List Int} {fs : List Fr} {F L : Int} (h : Grows s i l d r0 fs F L) : StOk (s.1, s.2.1, fs) i.1 (i.2.1 * 4294967296 + i.1) := by
  intro x x0 x1 hx
  simp only at x1 hx ⊢
  have hm : x ∈ owned fs i.1 := mem_owned.2 ⟨⟨x0, x1⟩, hx⟩
  have hpos : 0 < (owned fs i.1).length := List.length_pos_of_mem hm
  have hown := h.own
  rcases h.path with h1 | ⟨h1, h2, h3, h4, h5⟩
  · rw [h1.1] at hown; simp at hown; rw [hown] at hm; cases hm
  · have hin : x ∈ l ++ d := by
      apply Classical.byContradiction
      intro hn
      have hsub : ∀ y ∈ l ++ d, y ∈ (owned fs i.1).erase x := by
        intro y hy
        rw [(owned_nodup _ _).mem_erase_iff]
        refine ⟨fun e => hn (e ▸ hy), mem_owned.2 ⟨h2.mem hy, ?_⟩⟩
        have := (h.vs.owner h2 y hy).1
        simp only at this
        rw [this]; exact h4
      have hle := nodup_sub h2.nodup hsub
      rw [List.length_erase_of_mem hm] at hle
      omega
    have := (h.vs.owner h2 x hin).2
    simp only at this
    rw [this]; exact h5
theorem Grows.start {s : Sp} {i : Inc} {l : List Int} (h : VS s) (hf : FitS s i) (hown : i.2.2.2.2 = 0 → owned s.2.2 i.1 = []) (hl1 : Has s i l) (hl3 : i.2.2.2.2 ≠ 0 → l.length = (owned s.2.2 i.1).length ∧ l.getLast? = some i.2.2.2.1 ∧ l ≠ []) : Grows s i l [] (frees s.2.2) s.2.2 i.2.2.1 i.2.2.2.1 := by
  refine ⟨h, rfl, rfl, rfl, ?_, ?_, fun q _ _ => rfl, fun x _ _ _ _ => rfl⟩
  · rcases hl1 with ⟨g1, rfl⟩ | ⟨g1, g2⟩
    · rcases hf.2 with ⟨_, g3, g4⟩ | ⟨g3, _⟩
      · exact .inl ⟨rfl, g3, g4⟩
      · exact absurd g1 g3
    · rcases hf.2 with ⟨g3, _⟩ | ⟨_, g3, g4, g5, _⟩
      · exact absurd g3 g1
      · rw [List.append_nil]
        exact .inr ⟨(hl3 g1).2.2, g2, (hl3 g1).2.1, g4, g5⟩
  · rw [List.append_nil]
    by_cases hw : i.2.2.2.2 = 0
    · rw [hown hw]
      rcases hl1 with ⟨g1, rfl⟩ | ⟨g1, _⟩
      · rfl
      · exact absurd hw g1
    · exact (hl3 hw).1.symm
/-- What is known when all frames are taken. -/
theorem Grows.done {s : Sp} {i : Inc} {n : Int} {l d r0 : List Int} {fs : List Fr} {F L : Int} (h : VS s) (hf : FitS s i) (n0 : 1 ≤ n) (n1 : n ≤ 48) (hl1 : Has s i l) (hl2 : (l.length : Int) = cl (sz s.1) i.2.2.2.2)
    (hg : Grows s i l d r0 fs F L) (hd : (d.length : Int) = cl (sz s.1) (i.2.2.2.2 + n) - cl (sz s.1) i.2.2.2.2) (hfirst : i.2.2.2.2 ≠ 0 → F = i.2.2.1) (hgw : (fs, F, L) = gw i.1 (i.2.1 * 4294967296 + i.1) d.length (s.2.2, i.2.2.1, i.2.2.2.1)) :
    (0 ≤ F ∧ F < fs.length) ∧ (fr fs F).1 = i.1 ∧ ∃ a, Grown s i n (s.1, s.2.1, fs) (i.1, i.2.1, F, L, i.2.2.2.2 + n) a l (l ++ d) := by
  have hwl := VS.wlen h
  have hn := h.n.2
  have z := sz_pos' s.1
  obtain ⟨⟨q0, q1, b0, b1, w0, w1⟩, hf2⟩ := id hf
  have hld : ((l ++ d).length : Int) = cl (sz s.1) (i.2.2.2.2 + n) := by simp; omega
  have hpos : 0 < cl (sz s.1) (i.2.2.2.2 + n) := cl_pos z (by omega)
  rcases hg.path with h1 | ⟨g1, g2, g3, g4, g5⟩
  · rw [h1.1] at hld; simp at hld; omega
  obtain ⟨F0, F1, _⟩ := Pa.head g2 g1
  have hcs := cl_spec (n := i.2.2.2.2 + n) z
  obtain ⟨g, hg1, hg2⟩ := adl_some z (l := l ++ d) (off := i.2.2.2.2) w0 (by rw [hld]; omega)
  have hll := Pa.length g2
  have hlw : i.2.2.2.2 + n ≤ s.2.1.length := by
    have : cl (sz s.1) (i.2.2.2.2 + n) * sz s.1 ≤ s.2.2.length * sz s.1 := Int.mul_le_mul_of_nonneg_right (by have := hg.len; omega) (by omega)
    rw [h.w]; omega
  have hdl : (l ++ d).length - l.length = d.length := by simp
  refine ⟨⟨F0, F1⟩, g4, _, hg.vs, ⟨⟨q0, q1, b0, b1, by simp only; omega, hlw⟩, .inr ⟨by simp only; omega, ⟨F0, by simp only; omega⟩, g4, g5, l ++ d, g2, hld, hg.own.symm, g3⟩⟩, rfl, rfl, hg.len, rfl, rfl, rfl, hfirst, hl1, g2, ?_, ?_, hl2, hld, hg.own, hg.oth, hg.frs, hg2, ?_⟩
  · rw [hdl, hg.split, List.take_left]
  · rw [hdl, hg.split, List.drop_left]; exact hg.fre
  · have e : (cl (sz s.1) (i.2.2.2.2 + n) - cl (sz s.1) i.2.2.2.2).toNat = d.length := by omega
    rw [e]; exact hgw
end Go.Proofs.YtokeceeccmgcmaaDoor
