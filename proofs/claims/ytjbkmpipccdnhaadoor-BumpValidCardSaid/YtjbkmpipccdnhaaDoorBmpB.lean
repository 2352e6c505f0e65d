/-
  Plain laws of package bump: valid increments, growing, dropping.
-/
import Derived.Test.YtjbkmpipccdnhaaDoorPolB
import Derived.Test.YtjbkmpipccdnhaaDoorChnN
set_option linter.unusedVariables false
namespace Go.Proofs.YtjbkmpipccdnhaaDoor
open Go Go.V3

theorem bCeil_ok {n s : Int} (hs : 3 ≤ s ∧ s ≤ 8) (h0 : 0 ≤ n) (h1 : n ≤ 1000000) : Fbits_Ceil n s = some (cl (sz s) n) := by
  obtain ⟨z1, z2⟩ := sz_le hs
  unfold Fbits_Ceil
  rw [if_neg (by omega), if_neg (by omega), if_neg (by omega), if_neg (by omega), if_pos trivial, if_pos trivial, pow_sz hs, Int.one_mul, w64_id (e := sz s) (by omega) (by omega), w64_id (e := n + sz s) (by omega) (by omega), w64_id (by omega) (by omega)]
  rfl
theorem bFrames_ok {s : Sp} (h : VS s) {i : Inc} (h0 : 0 ≤ i.2.2.2.2) (h1 : i.2.2.2.2 ≤ 1000000) : Fbump_Frames s i = some (cl (sz s.1) i.2.2.2.2) := by
  unfold Fbump_Frames
  rw [bCeil_ok h.sh h0 h1]; rfl
theorem cl_small {z w : Int} (z1 : 8 ≤ z) (h : 0 ≤ w) : 0 ≤ cl z w ∧ cl z w ≤ w + z := by
  have c2 := cl_nonneg (show 0 < z by omega) h
  have c1 := cl_spec (n := w) (show 0 < z by omega)
  have b1 : cl z w * 1 ≤ cl z w * z := Int.mul_le_mul_of_nonneg_left (by omega) c2
  omega
theorem bExtra_ok {s : Sp} (h : VS s) {i : Inc} (h0 : 0 ≤ i.2.2.2.2) (h1 : i.2.2.2.2 ≤ 16384) {n : Int} (n0 : 0 ≤ n) (n1 : n ≤ 1000) : Fbump_Extra s i n = some (cl (sz s.1) (i.2.2.2.2 + n) - cl (sz s.1) i.2.2.2.2) := by
  obtain ⟨z1, z2⟩ := sz_le h.sh
  have c1 := cl_small z1 (show 0 ≤ i.2.2.2.2 + n by omega)
  have c2 := cl_small z1 h0
  unfold Fbump_Extra
  rw [w64_id (e := i.2.2.2.2 + n) (by omega) (by omega), bCeil_ok h.sh (by omega) (by omega), bFrames_ok h h0 (by omega)]
  simp only [Option.bind_some]
  rw [w64_id (by omega) (by omega)]
theorem bowns_ok {s : Sp} (hn : s.2.2.length ≤ 64) (q : Int) : Fbump_owns s q = some ((owned s.2.2 q).length : Int) := by
  unfold Fbump_owns
  refine (loopO_up (fun k (st : Int × Int) => st.2 = (k : Int) ∧ k ≤ s.2.2.length ∧ st.1 = gvN s.2.2 q k) (fun b => b = ((owned s.2.2 q).length : Int)) s.2.2.length ?_ ?_ (s := ((0 : Int), (0 : Int))) ⟨rfl, by omega, rfl⟩).elim fun b h => by rw [h.1, h.2]
  · rintro k ⟨c, i⟩ hk ⟨h1, _, h2⟩
    simp only at h1 h2 ⊢
    subst h1
    have hfr : gl (0, 0, 0) s.2.2 (k : Int).toNat = fr s.2.2 k := rfl
    have hc := gvN_le s.2.2 q k
    rw [if_pos (by omega), if_pos (by omega), hfr, w64_id (e := (k : Int) + 1) (by omega) (by omega), w64_id (e := c + 1) (by omega) (by omega)]
    by_cases hf : (fr s.2.2 k).1 = q
    · rw [if_pos hf]
      exact .inl ⟨_, rfl, by simp only; omega, by omega, by simp only [gvN, if_pos hf]; omega⟩
    · rw [if_neg hf]
      exact .inl ⟨_, rfl, by simp only; omega, by omega, by simp only [gvN, if_neg hf]; omega⟩
  · rintro ⟨c, i⟩ ⟨h1, _, h2⟩
    simp only at h1 h2 ⊢
    rw [if_neg (by omega)]
    exact ⟨_, rfl, by rw [h2, gvN_eq]; rfl⟩
theorem fBase_ok {s : Sp} (h : VS s) {f : Int} (f0 : 0 ≤ f) (f1 : f < s.2.2.length) : Fframe_Base s f = some (f * sz s.1, 0) := by
  have hn := h.n.2
  have hm := mul_sz_le h.sh f0 (show f ≤ 64 by omega)
  unfold Fframe_Base Fframe_bounded
  rw [fshift_ok]
  simp only [Option.bind_some]
  rw [if_pos (by simp [h.sh])]
  simp only [Option.bind_some]
  rw [if_neg (by simp; omega), if_neg (by omega), if_neg (by omega), if_pos trivial, pow_sz h.sh, w64_id (by omega) (by omega)]
theorem bCopied_ok {s : Sp} (h : s.2.1.length ≤ 1000000) (h2 : s.2.2.length ≤ 1000000) : Fbump_copied s = some s := by
  unfold Fbump_copied
  rw [if_pos (by simp; omega), if_pos (by simp; omega)]; rfl

/-- Valid increments: the program's answer. -/
theorem bValid_ok {s : Sp} (hI : StI s) (i : Inc) : ∃ b, Fbump_Valid s i = some b ∧ (b = true ↔ VS s ∧ FitS s i) := by
  by_cases h : VS s
  rotate_left
  · unfold Fbump_Valid
    rw [(bad_valid h hI).1]
    exact ⟨_, rfl, no_iff fun hh => h hh.1⟩
  suffices hs : ∃ b, Fbump_Valid s i = some b ∧ (b = true ↔ FitS s i) by
    obtain ⟨b, h1, h2⟩ := hs
    exact ⟨b, h1, h2.trans ⟨fun x => ⟨h, x⟩, fun x => x.2⟩⟩
  have hwl := VS.wlen h
  have hn := h.n.2
  unfold Fbump_Valid
  rw [VS.fvalid h]
  simp only [Option.bind_some]
  rw [if_neg (by simp)]
  by_cases c1 : i.1 < 0
  · rw [if_pos c1]; exact ⟨_, rfl, no_iff fun h => by have := h.1.1; omega⟩
  rw [if_neg c1]
  by_cases c2 : i.1 > 4294967295
  · rw [if_pos c2]; exact ⟨_, rfl, no_iff fun h => by have := h.1.2.1; omega⟩
  rw [if_neg c2]
  by_cases c3 : i.2.1 < 0
  · rw [if_pos c3]; exact ⟨_, rfl, no_iff fun h => by have := h.1.2.2.1; omega⟩
  rw [if_neg c3]
  by_cases c4 : i.2.1 ≥ 4
  · rw [if_pos c4]; exact ⟨_, rfl, no_iff fun h => by have := h.1.2.2.2.1; omega⟩
  rw [if_neg c4]
  by_cases c5 : i.2.2.2.2 < 0
  · rw [if_pos c5]; exact ⟨_, rfl, no_iff fun h => by have := h.1.2.2.2.2.1; omega⟩
  rw [if_neg c5]
  by_cases c7 : i.2.2.2.2 = 0
  · have hr : 0 ≤ i.1 ∧ i.1 ≤ 4294967295 ∧ 0 ≤ i.2.1 ∧ i.2.1 < 4 ∧ 0 ≤ i.2.2.2.2 ∧ i.2.2.2.2 ≤ s.2.1.length := ⟨by omega, by omega, by omega, by omega, by omega, by omega⟩
    rw [if_pos c7]
    by_cases c8 : i.2.2.1 = -1
    · rw [if_pos c8]
      refine ⟨_, rfl, ?_⟩
      rw [decide_eq_true_iff]
      exact ⟨fun hh => ⟨hr, .inl ⟨c7, c8, hh⟩⟩, fun hh => by rcases hh.2 with h1 | h1; exact h1.2.2; exact absurd c7 h1.1⟩
    · rw [if_neg c8]
      exact ⟨_, rfl, no_iff fun hh => by rcases hh.2 with h1 | h1; exact c8 h1.2.1; exact h1.1 c7⟩
  rw [if_neg c7]
  have only : FitS s i → (0 ≤ i.2.2.1 ∧ i.2.2.1 < s.2.2.length) ∧ (fr s.2.2 i.2.2.1).1 = i.1 ∧ (fr s.2.2 i.2.2.1).2.1 = i.2.1 * 4294967296 + i.1 ∧
      ∃ l, Pa s.2.2 i.2.2.1 l ∧ (l.length : Int) = cl (sz s.1) i.2.2.2.2 ∧ l.length = (owned s.2.2 i.1).length ∧ l.getLast? = some i.2.2.2.1 := fun hh => by
    rcases hh.2 with h1 | h1
    · exact absurd h1.1 c7
    · exact h1.2
  have lbad : ¬ ((0 ≤ i.2.2.1 ∧ i.2.2.1 < s.2.2.length) ∧ (fr s.2.2 i.2.2.1).1 ≠ -1) → ∃ e, e ≠ 0 ∧ Fchain_List s i.2.2.1 = some ([], e) := by
    intro hb
    unfold Fchain_List
    rw [VS.fvalid h, cIn_ok]
    simp only [Option.bind_some]
    rw [if_neg (by simp)]
    by_cases q : 0 ≤ i.2.2.1 ∧ i.2.2.1 < s.2.2.length
    · rw [if_neg (by simp [q]), cFree_ok q.1 q.2]
      simp only [Option.bind_some]
      have hf : (fr s.2.2 i.2.2.1).1 = -1 := Classical.byContradiction fun hf => hb ⟨q, hf⟩
      rw [if_pos (by simp [hf])]
      exact ⟨_, by decide, rfl⟩
    · rw [if_pos (by simp only [Bool.not_eq_true', decide_eq_false_iff_not]; exact q)]
      exact ⟨_, by decide, rfl⟩
  by_cases c8 : (0 ≤ i.2.2.1 ∧ i.2.2.1 < s.2.2.length) ∧ (fr s.2.2 i.2.2.1).1 ≠ -1
  rotate_left
  · obtain ⟨e, e1, e2⟩ := lbad c8
    rw [e2]
    simp only [Option.bind_some]
    rw [if_pos e1]
    refine ⟨_, rfl, no_iff fun hh => ?_⟩
    obtain ⟨o1, o2, _⟩ := only hh
    have := hh.1.1
    exact c8 ⟨o1, by omega⟩
  obtain ⟨⟨q0, q1⟩, q2⟩ := c8
  obtain ⟨l, hl⟩ := h.acy i.2.2.1 q0 q1
  have hll := hl.length
  have hlp : 0 < l.length := by
    cases l with
    | nil => rw [Pa] at hl; omega
    | cons => simp
  rw [cList_ok h q0 q1 q2 hl]
  simp only [Option.bind_some]
  rw [if_neg (by simp)]
  by_cases c6 : i.2.2.2.2 > s.2.1.length
  · rw [if_pos c6]; exact ⟨_, rfl, no_iff fun h => by have := h.1.2.2.2.2.2; omega⟩
  rw [if_neg c6]
  have hr : 0 ≤ i.1 ∧ i.1 ≤ 4294967295 ∧ 0 ≤ i.2.1 ∧ i.2.1 < 4 ∧ 0 ≤ i.2.2.2.2 ∧ i.2.2.2.2 ≤ s.2.1.length := ⟨by omega, by omega, by omega, by omega, by omega, by omega⟩
  have hg := gl_last (l := l) hlp
  rw [w64_id (e := (l.length : Int) - 1) (by omega) (by omega), if_pos (by omega), show ((l.length : Int) - 1).toNat = l.length - 1 from by omega]
  by_cases d1 : gl 0 l (l.length - 1) = i.2.2.2.1
  rotate_left
  · rw [if_pos d1]
    exact ⟨_, rfl, no_iff fun hh => by obtain ⟨l', p1, _, _, p2⟩ := (only hh).2.2.2; rw [← hl.fn p1, ← hg] at p2; exact d1 (by simpa using p2)⟩
  rw [if_neg (not_not_intro d1), bFrames_ok h (by omega) (by omega)]
  simp only [Option.bind_some]
  by_cases d2 : (l.length : Int) = cl (sz s.1) i.2.2.2.2
  rotate_left
  · rw [if_pos d2]
    exact ⟨_, rfl, no_iff fun hh => by obtain ⟨l', p1, p2, _⟩ := (only hh).2.2.2; rw [hl.fn p1] at d2; exact d2 p2⟩
  rw [if_neg (not_not_intro d2), bowns_ok hn]
  simp only [Option.bind_some]
  by_cases d3 : (l.length : Int) = ((owned s.2.2 i.1).length : Int)
  rotate_left
  · rw [if_pos d3]
    exact ⟨_, rfl, no_iff fun hh => by obtain ⟨l', p1, _, p2, _⟩ := (only hh).2.2.2; rw [hl.fn p1] at d3; exact d3 (by omega)⟩
  have hfr : gl (0, 0, 0) s.2.2 i.2.2.1.toNat = fr s.2.2 i.2.2.1 := rfl
  rw [if_neg (not_not_intro d3), if_pos ⟨q0, q1⟩, hfr, w64_id (e := i.2.1 * 4294967296) (by omega) (by omega), w64_id (e := i.2.1 * 4294967296 + i.1) (by omega) (by omega)]
  by_cases d4 : (fr s.2.2 i.2.2.1).1 = i.1
  rotate_left
  · rw [if_neg d4]; exact ⟨_, rfl, no_iff fun hh => d4 (only hh).2.1⟩
  rw [if_pos d4]
  refine ⟨_, rfl, ?_⟩
  rw [decide_eq_true_iff]
  constructor
  · intro d5
    exact ⟨hr, .inr ⟨c7, ⟨q0, q1⟩, d4, d5, l, hl, d2, by omega, by rw [← hg, d1]⟩⟩
  · intro hh; exact (only hh).2.2.1

/-- All frames of the owner are among those of the chain. -/
theorem Grows.st {s : Sp} {i : Inc} {l d r0 : List Int} {fs : List Fr} {F L : Int} (h : Grows s i l d r0 fs F L) : StOk (s.1, s.2.1, fs) i.1 (i.2.1 * 4294967296 + i.1) := by
  intro x x0 x1 hx
  simp only at x1 hx ⊢
  have hm : x ∈ owned fs i.1 := mem_owned.2 ⟨⟨x0, x1⟩, hx⟩
  have hpos : 0 < (owned fs i.1).length := List.length_pos_of_mem hm
  have hown := h.own
  rcases h.path with h1 | ⟨h1, h2, h3, h4, h5⟩
  · rw [h1.1] at hown; simp at hown; rw [hown] at hm; cases hm
  · have hin : x ∈ l ++ d := by
      apply Classical.byContradiction
      intro hn
      have hsub : ∀ y ∈ l ++ d, y ∈ (owned fs i.1).erase x := by
        intro y hy
        rw [(owned_nodup _ _).mem_erase_iff]
        refine ⟨fun e => hn (e ▸ hy), mem_owned.2 ⟨h2.mem hy, ?_⟩⟩
        have := (h.vs.owner h2 y hy).1
        simp only at this
        rw [this]; exact h4
      have hle := nodup_sub h2.nodup hsub
      rw [List.length_erase_of_mem hm] at hle
      omega
    have := (h.vs.owner h2 x hin).2
    simp only at this
    rw [this]; exact h5
theorem Grows.start {s : Sp} {i : Inc} {l : List Int} (h : VS s) (hf : FitS s i) (hown : i.2.2.2.2 = 0 → owned s.2.2 i.1 = []) (hl1 : Has s i l) (hl3 : i.2.2.2.2 ≠ 0 → l.length = (owned s.2.2 i.1).length ∧ l.getLast? = some i.2.2.2.1 ∧ l ≠ []) : Grows s i l [] (frees s.2.2) s.2.2 i.2.2.1 i.2.2.2.1 := by
  refine ⟨h, rfl, rfl, rfl, ?_, ?_, fun q _ _ => rfl, fun x _ _ _ _ => rfl⟩
  · rcases hl1 with ⟨g1, rfl⟩ | ⟨g1, g2⟩
    · rcases hf.2 with ⟨_, g3, g4⟩ | ⟨g3, _⟩
      · exact .inl ⟨rfl, g3, g4⟩
      · exact absurd g1 g3
    · rcases hf.2 with ⟨g3, _⟩ | ⟨_, g3, g4, g5, _⟩
      · exact absurd g3 g1
      · rw [List.append_nil]
        exact .inr ⟨(hl3 g1).2.2, g2, (hl3 g1).2.1, g4, g5⟩
  · rw [List.append_nil]
    by_cases hw : i.2.2.2.2 = 0
    · rw [hown hw]
      rcases hl1 with ⟨g1, rfl⟩ | ⟨g1, _⟩
      · rfl
      · exact absurd hw g1
    · exact (hl3 hw).1.symm
/-- What is known when all frames are taken. -/
theorem Grows.done {s : Sp} {i : Inc} {n : Int} {l d r0 : List Int} {fs : List Fr} {F L : Int} (h : VS s) (hf : FitS s i) (n0 : 1 ≤ n) (n1 : n ≤ 48) (hl1 : Has s i l) (hl2 : (l.length : Int) = cl (sz s.1) i.2.2.2.2)
    (hg : Grows s i l d r0 fs F L) (hd : (d.length : Int) = cl (sz s.1) (i.2.2.2.2 + n) - cl (sz s.1) i.2.2.2.2) (hfirst : i.2.2.2.2 ≠ 0 → F = i.2.2.1) (hgw : (fs, F, L) = gw i.1 (i.2.1 * 4294967296 + i.1) d.length (s.2.2, i.2.2.1, i.2.2.2.1)) :
    (0 ≤ F ∧ F < fs.length) ∧ (fr fs F).1 = i.1 ∧ ∃ a, Grown s i n (s.1, s.2.1, fs) (i.1, i.2.1, F, L, i.2.2.2.2 + n) a l (l ++ d) := by
  have hwl := VS.wlen h
  have hn := h.n.2
  have z := sz_pos' s.1
  obtain ⟨⟨q0, q1, b0, b1, w0, w1⟩, hf2⟩ := id hf
  have hld : ((l ++ d).length : Int) = cl (sz s.1) (i.2.2.2.2 + n) := by simp; omega
  have hpos : 0 < cl (sz s.1) (i.2.2.2.2 + n) := cl_pos z (by omega)
  rcases hg.path with h1 | ⟨g1, g2, g3, g4, g5⟩
  · rw [h1.1] at hld; simp at hld; omega
  obtain ⟨F0, F1, _⟩ := Pa.head g2 g1
  have hcs := cl_spec (n := i.2.2.2.2 + n) z
  obtain ⟨g, hg1, hg2⟩ := adl_some z (l := l ++ d) (off := i.2.2.2.2) w0 (by rw [hld]; omega)
  have hll := Pa.length g2
  have hlw : i.2.2.2.2 + n ≤ s.2.1.length := by
    have : cl (sz s.1) (i.2.2.2.2 + n) * sz s.1 ≤ s.2.2.length * sz s.1 := Int.mul_le_mul_of_nonneg_right (by have := hg.len; omega) (by omega)
    rw [h.w]; omega
  have hdl : (l ++ d).length - l.length = d.length := by simp
  refine ⟨⟨F0, F1⟩, g4, _, hg.vs, ⟨⟨q0, q1, b0, b1, by simp only; omega, hlw⟩, .inr ⟨by simp only; omega, ⟨F0, by simp only; omega⟩, g4, g5, l ++ d, g2, hld, hg.own.symm, g3⟩⟩, rfl, rfl, hg.len, rfl, rfl, rfl, hfirst, hl1, g2, ?_, ?_, hl2, hld, hg.own, hg.oth, hg.frs, hg2, ?_⟩
  · rw [hdl, hg.split, List.take_left]
  · rw [hdl, hg.split, List.drop_left]; exact hg.fre
  · have e : (cl (sz s.1) (i.2.2.2.2 + n) - cl (sz s.1) i.2.2.2.2).toNat = d.length := by omega
    rw [e]; exact hgw
/-- One step of the program: a frame is taken, and linked. -/
theorem Grows.prog {s : Sp} {i : Inc} {l d r : List Int} {f : Int} {fs : List Fr} {F L : Int} (h : Grows s i l d (f :: r) fs F L) (q0 : 0 ≤ i.1) (q1 : i.1 ≤ 4294967295) (b0 : 0 ≤ i.2.1) (b1 : i.2.1 < 4) :
    Fpool_Take (s.1, s.2.1, fs) i.1 i.2.1 = some ((s.1, s.2.1, fs.set f.toNat (i.1, i.2.1 * 4294967296 + i.1, -1)), f, 0) ∧
    (F = -1 ↔ L = -1) ∧ (F ≠ -1 → 0 ≤ L ∧ Fchain_Link (s.1, s.2.1, fs.set f.toNat (i.1, i.2.1 * 4294967296 + i.1, -1)) L f = some ((s.1, s.2.1, (fs.set f.toNat (i.1, i.2.1 * 4294967296 + i.1, -1)).set L.toNat
      ((fr (fs.set f.toNat (i.1, i.2.1 * 4294967296 + i.1, -1)) L).1, (fr (fs.set f.toNat (i.1, i.2.1 * 4294967296 + i.1, -1)) L).2.1, f)), 0)) := by
  obtain ⟨⟨f0, f1⟩, f2, f3⟩ := frees_cons h.fre
  obtain ⟨v1, nx1⟩ := h.vs.take (f := f) (o := i.1) (b := i.2.1) f0 f1 f2 q0 q1 b0 b1
  simp only at v1 nx1
  have hfr : ∀ x : Int, 0 ≤ x → fr (fs.set f.toNat (i.1, i.2.1 * 4294967296 + i.1, -1)) x = if x = f then (i.1, i.2.1 * 4294967296 + i.1, -1) else fr fs x := fun x hx => fr_set f0 f1 hx
  have hfree := (h.vs.free (i := f) f0 f1 f2).1
  refine ⟨by rw [pTake_vs h.vs q0 q1 b0 b1, takeR_some h.st (show frees (s.1, s.2.1, fs).2.2 = f :: r from h.fre)], ?_, fun hF => ?_⟩
  · rcases h.path with h1 | ⟨h1, h2, h3, h4, h5⟩
    · exact iff_of_true h1.2.1 h1.2.2
    · obtain ⟨l1, l2⟩ := Pa.last h2 h3
      obtain ⟨L0, L1⟩ := Pa.mem h2 l2
      obtain ⟨F0, F1, F2⟩ := Pa.head h2 h1
      exact iff_of_false (by omega) (by omega)
  · rcases h.path with h1 | ⟨h1, h2, h3, h4, h5⟩
    · exact absurd h1.2.1 hF
    obtain ⟨l1, l2⟩ := Pa.last h2 h3
    obtain ⟨L0, L1⟩ := Pa.mem h2 l2
    obtain ⟨F0, F1, F2⟩ := Pa.head h2 h1
    have hown := h.vs.owner h2 L l2
    simp only at hown
    rw [h4, h5] at hown
    have hLf : L ≠ f := by rintro rfl; rw [hown.1] at f2; omega
    have e1 : fr (fs.set f.toNat (i.1, i.2.1 * 4294967296 + i.1, -1)) L = fr fs L := by rw [hfr L L0, if_neg hLf]
    have e2 : fr (fs.set f.toNat (i.1, i.2.1 * 4294967296 + i.1, -1)) f = (i.1, i.2.1 * 4294967296 + i.1, -1) := by rw [hfr f f0, if_pos rfl]
    have nxf : nx (fs.set f.toNat (i.1, i.2.1 * 4294967296 + i.1, -1)) f = -1 := by
      rw [nx1 f f0 f1, nx_in f0 f1]; rw [show fr fs f = _ from hfree]
    have pf : Pa (fs.set f.toNat (i.1, i.2.1 * 4294967296 + i.1, -1)) f [f] := ⟨rfl, f0, by simpa using f1, nxf⟩
    refine ⟨L0, ?_⟩
    have hlen : (fs.set f.toNat (i.1, i.2.1 * 4294967296 + i.1, -1)).length = fs.length := by simp
    rcases fLink_ok v1 (a := L) (f := f) L0 (by simp only; omega) f0 (by simp only; omega) (l := [f]) pf with ⟨hb, _⟩ | ⟨_, hk⟩
    · exfalso
      unfold BadLink at hb
      simp only at hb
      rw [e1, e2, hown.1, hown.2] at hb
      rcases hb with hb | hb | hb | hb | ⟨x, ⟨x0, x1⟩, hb⟩ | hb
      · omega
      · simp only at hb; omega
      · exact hb rfl
      · rw [nx1 L L0 L1] at hb; exact hb l1
      · rw [hlen] at x1
        rw [nx1 x x0 x1] at hb
        exact (VS.no_in h.vs f0 f2 x x0 x1) hb
      · simp at hb; exact hLf hb
    · exact hk
theorem inc_eta (i : Inc) : (i.1, i.2.1, i.2.2.1, i.2.2.2.1, i.2.2.2.2) = i := rfl
/-- What the program's Alloc does on a valid increment. -/
theorem bLoop_ok {s : Sp} (h : VS s) {i : Inc} (hf : FitS s i) (hown : i.2.2.2.2 = 0 → owned s.2.2 i.1 = []) {n need : Int} (n0 : 1 ≤ n) (n1 : n ≤ 48) (hneed : need = cl (sz s.1) (i.2.2.2.2 + n) - cl (sz s.1) i.2.2.2.2) (hc : need ≤ (frees s.2.2).length) :
    ∃ b, loopO (σ := (Int × Sp × Inc)) (β := (Sp × Inc × Int × Int)) (fun s1 =>
if s1.1 = need then
Option.map Sum.inr (Option.bind (Fframe_Base s1.2.1 s1.2.2.2.2.1) (fun r5 =>
Option.bind (Fchain_Step s1.2.1 r5.1 i.2.2.2.2) (fun r6 =>
if ¬ r6.2 = 0 then
some (((0, [], []), (0, 0, 0, 0, 0), 0, r6.2))
else if need = 0 then
Option.bind (Fbump_copied s) (fun r7 =>
some ((r7, (s1.2.2.1, s1.2.2.2.1, s1.2.2.2.2.1, s1.2.2.2.2.2.1, w64 (s1.2.2.2.2.2.2 + n)), r6.1, 0)))
else some ((s1.2.1, (s1.2.2.1, s1.2.2.2.1, s1.2.2.2.2.1, s1.2.2.2.2.2.1, w64 (s1.2.2.2.2.2.2 + n)), r6.1, 0)))))
else Option.bind (Fpool_Take s1.2.1 i.1 i.2.1) (fun r8 =>
if ¬ r8.2.2 = 0 then
some (Sum.inr (((0, [], []), (0, 0, 0, 0, 0), 0, r8.2.2)))
else if s1.2.2.2.2.2.1 ≥ 0 then
Option.bind (Fchain_Link r8.1 s1.2.2.2.2.2.1 r8.2.1) (fun r9 =>
if ¬ r9.2 = 0 then
some (Sum.inr (((0, [], []), (0, 0, 0, 0, 0), 0, r9.2)))
else some (Sum.inl ((w64 (s1.1 + 1), r9.1, (s1.2.2.1, s1.2.2.2.1, s1.2.2.2.2.1, r8.2.1, s1.2.2.2.2.2.2)))))
else some (Sum.inl ((w64 (s1.1 + 1), r8.1, (s1.2.2.1, s1.2.2.2.1, r8.2.1, r8.2.1, s1.2.2.2.2.2.2)))))) ((0, s, i)) = some b ∧ ∃ t j a l l', b = (t, j, a, 0) ∧ Grown s i n t j a l l' := by
  have hwl := VS.wlen h
  have hn := h.n.2
  have z := sz_pos' s.1
  obtain ⟨⟨q0, q1, b0, b1, w0, w1⟩, hf2⟩ := id hf
  obtain ⟨l, hl1, hl2, hl3⟩ := hf.has h
  have hmono := cl_le z (show i.2.2.2.2 ≤ i.2.2.2.2 + n by omega)
  have hflen : (frees s.2.2).length ≤ s.2.2.length := owned_len s.2.2 (-1)
  have hstart := Grows.start h hf hown hl1 hl3
  refine loopO_up (fun k (st : Int × Sp × Inc) => st.1 = (k : Int) ∧ (k : Int) ≤ need ∧ ∃ d r0 fs F L, d.length = k ∧ st.2 = ((s.1, s.2.1, fs), (i.1, i.2.1, F, L, i.2.2.2.2)) ∧ Grows s i l d r0 fs F L ∧ (i.2.2.2.2 ≠ 0 → F = i.2.2.1) ∧ (fs, F, L) = gw i.1 (i.2.1 * 4294967296 + i.1) d.length (s.2.2, i.2.2.1, i.2.2.2.1))
    (fun b => ∃ t j a l l', b = (t, j, a, 0) ∧ Grown s i n t j a l l') need.toNat ?_ ?_ (s := ((0 : Int), s, i)) ⟨rfl, by omega, [], frees s.2.2, s.2.2, i.2.2.1, i.2.2.2.1, rfl, rfl, hstart, fun _ => rfl, rfl⟩
  · rintro k ⟨c, sp, ⟨sq, bt, F, L, wd⟩⟩ hk ⟨e1, e2, d, r0, fs, F', L', e3, e4, hg, hfirst, hgw⟩
    simp only [Prod.mk.injEq] at e1 e4 ⊢
    obtain ⟨rfl, rfl, rfl, rfl, rfl, rfl⟩ := e4
    subst e1
    rw [if_neg (by omega)]
    have hr0 : 0 < r0.length := by
      have := congrArg List.length hg.split
      simp at this
      omega
    cases r0 with
    | nil => simp at hr0
    | cons f r =>
      obtain ⟨p1, p2, p3⟩ := hg.prog q0 q1 b0 b1
      obtain ⟨s1, s2⟩ := hg.step q0 q1 b0 b1
      have hstep : gw i.1 (i.2.1 * 4294967296 + i.1) (d ++ [f]).length (s.2.2, i.2.2.1, i.2.2.2.1) = gstep i.1 (i.2.1 * 4294967296 + i.1) (fs, F, L) := by
        rw [List.length_append]
        show gstep _ _ (gw _ _ _ _) = _
        rw [hgw]
      have hfre : frees fs = f :: r := hg.fre
      rw [p1]
      simp only [Option.bind_some]
      rw [if_neg (by simp), w64_id (e := (k : Int) + 1) (by omega) (by omega)]
      left
      by_cases hF : F = -1
      · have hL := p2.1 hF
        rw [if_neg (by omega)]
        refine ⟨_, rfl, by simp only; omega, by omega, d ++ [f], r, _, _, _, by simp; omega, rfl, s1 hF, fun hw => ?_, by rw [hstep]; simp only [gstep, hfre, if_pos hF]⟩
        have := hfirst hw
        rcases hf2 with ⟨g1, _⟩ | ⟨_, g1, _⟩
        · exact absurd g1 hw
        · omega
      · obtain ⟨p4, p5⟩ := p3 hF
        rw [if_pos (by omega), p5]
        simp only [Option.bind_some]
        rw [if_neg (by simp)]
        exact ⟨_, rfl, by simp only; omega, by omega, d ++ [f], r, _, _, _, by simp; omega, rfl, (s2 hF).2, hfirst, by rw [hstep]; simp only [gstep, hfre, if_neg hF]⟩
  · rintro ⟨c, sp, ⟨sq, bt, F, L, wd⟩⟩ ⟨e1, e2, d, r0, fs, F', L', e3, e4, hg, hfirst, hgw⟩
    simp only [Prod.mk.injEq] at e1 e4 ⊢
    obtain ⟨rfl, rfl, rfl, rfl, rfl, rfl⟩ := e4
    subst e1
    rw [if_pos (by omega)]
    refine map_inr ?_
    obtain ⟨⟨F0, F1⟩, g4, a, hgr⟩ := hg.done h hf n0 n1 hl1 hl2 (by omega) hfirst hgw
    have hFz := mul_sz_le h.sh F0 (show F ≤ 64 by have := hg.len; omega)
    have hFw : F * sz s.1 < s.2.1.length := by
      rw [h.w]
      exact Int.mul_lt_mul_of_pos_right (by have := hg.len; omega) z
    have ha := addr_frame z (g := F) (o := 0) (by omega) z
    rw [Int.add_zero] at ha
    have hst := fStep_ok hg.vs (a := F * sz s.1) (k := i.2.2.2.2) hFz.1 hFw (by simp only; rw [ha.1, g4]; omega) w0 (by omega) (l := l ++ d) (by simp only; rw [ha.1]; exact hgr.path)
    simp only at hst
    rw [ha.2, Int.zero_add, hgr.adr] at hst
    rw [fBase_ok hg.vs F0 F1]
    simp only [Option.bind_some]
    rw [hst, w64_id (e := i.2.2.2.2 + n) (by omega) (by omega)]
    simp only [Option.bind_some]
    rw [if_neg (by simp [adlR])]
    by_cases hz : need = 0
    · rw [if_pos hz, bCopied_ok (by omega) (by omega)]
      have hd0 : d = [] := List.length_eq_zero_iff.1 (by omega)
      subst hd0
      simp only [List.length_nil, gw, Prod.mk.injEq] at hgw
      obtain ⟨rfl, rfl, rfl⟩ := hgw
      exact ⟨_, rfl, _, _, _, _, _, rfl, hgr⟩
    · rw [if_neg hz]
      exact ⟨_, rfl, _, _, _, _, _, rfl, hgr⟩
theorem bAlloc_ok {s : Sp} (hI : StI s) (i : Inc) (n : Int) :
    (¬ (VS s ∧ FitS s i ∧ 1 ≤ n ∧ n ≤ 48) ∧ Fbump_Alloc s i n = some ((0, [], []), (0, 0, 0, 0, 0), 0, 1)) ∨
    ((VS s ∧ FitS s i ∧ 1 ≤ n ∧ n ≤ 48) ∧ (
      (i.2.2.2.2 = 0 ∧ owned s.2.2 i.1 ≠ [] ∧ Fbump_Alloc s i n = some ((0, [], []), (0, 0, 0, 0, 0), 0, 5)) ∨
      ((i.2.2.2.2 = 0 → owned s.2.2 i.1 = []) ∧ (
        (((frees s.2.2).length : Int) < cl (sz s.1) (i.2.2.2.2 + n) - cl (sz s.1) i.2.2.2.2 ∧ Fbump_Alloc s i n = some ((0, [], []), (0, 0, 0, 0, 0), 0, 4)) ∨
        (cl (sz s.1) (i.2.2.2.2 + n) - cl (sz s.1) i.2.2.2.2 ≤ (frees s.2.2).length ∧ ∃ t j a l l', Fbump_Alloc s i n = some (t, j, a, 0) ∧ Grown s i n t j a l l'))))) := by
  unfold Fbump_Alloc
  obtain ⟨b, h1, h2⟩ := bValid_ok hI i
  rw [h1]
  simp only [Option.bind_some]
  by_cases hb : b = true
  rotate_left
  · rw [if_pos (by simpa using hb)]
    exact .inl ⟨fun h => hb (h2.2 ⟨h.1, h.2.1⟩), rfl⟩
  obtain ⟨hv, hf⟩ := h2.1 hb
  rw [if_neg (by simp [hb])]
  by_cases c1 : n < 1
  · rw [if_pos c1]; exact .inl ⟨fun h => by omega, rfl⟩
  rw [if_neg c1]
  by_cases c2 : n > 48
  · rw [if_pos c2]; exact .inl ⟨fun h => by omega, rfl⟩
  rw [if_neg c2]
  refine .inr ⟨⟨hv, hf, by omega, by omega⟩, ?_⟩
  have hwl := VS.wlen hv
  have hn := hv.n.2
  have w0 := hf.1.2.2.2.2.1
  have w1 := hf.1.2.2.2.2.2
  rw [bExtra_ok hv w0 (by omega) (by omega) (by omega), pFree_ok hn]
  simp only [Option.bind_some]
  by_cases hw : i.2.2.2.2 = 0
  · rw [if_pos hw, bowns_ok hn]
    simp only [Option.bind_some]
    by_cases ho : owned s.2.2 i.1 = []
    · rw [if_neg (by simp [ho])]
      refine .inr ⟨fun _ => ho, ?_⟩
      by_cases hc : ((frees s.2.2).length : Int) < cl (sz s.1) (i.2.2.2.2 + n) - cl (sz s.1) i.2.2.2.2
      · rw [if_pos hc]; exact .inl ⟨hc, rfl⟩
      · rw [if_neg hc]
        obtain ⟨b, hb, t, j, a, l, l', rfl, hg⟩ := bLoop_ok hv hf (fun _ => ho) (n := n) (by omega) (by omega) rfl (by omega)
        exact .inr ⟨by omega, t, j, a, l, l', hb, hg⟩
    · have : 0 < (owned s.2.2 i.1).length := List.length_pos_iff.2 ho
      rw [if_pos (by omega)]
      exact .inl ⟨hw, ho, rfl⟩
  · rw [if_neg hw]
    refine .inr ⟨fun h => absurd h hw, ?_⟩
    by_cases hc : ((frees s.2.2).length : Int) < cl (sz s.1) (i.2.2.2.2 + n) - cl (sz s.1) i.2.2.2.2
    · rw [if_pos hc]; exact .inl ⟨hc, rfl⟩
    · rw [if_neg hc]
      obtain ⟨b, hb, t, j, a, l, l', rfl, hg⟩ := bLoop_ok hv hf (fun h => absurd h hw) (n := n) (by omega) (by omega) rfl (by omega)
      exact .inr ⟨by omega, t, j, a, l, l', hb, hg⟩
theorem alloc_eq {s : Sp} (hI : StI s) (i : Inc) (n : Int) : ∃ v, Fbump_Alloc s i n = some v ∧ Fbeltwayref09_Alloc s i n = some v ∧ v.1.2.1.length ≤ 16384 ∧ v.1.2.2.length ≤ 64 := by
  rcases bAlloc_ok hI i n with ⟨h1, h2⟩ | ⟨h1, h2⟩
  · rcases Alloc_ok s i n with ⟨_, k2⟩ | ⟨k1, _⟩
    · exact ⟨_, h2, k2, by simp, by simp⟩
    · exact absurd k1 h1
  · rcases Alloc_ok s i n with ⟨k1, _⟩ | ⟨_, k2⟩
    · exact absurd h1 k1
    · rcases h2 with ⟨a1, a2, a3⟩ | ⟨a1, h2⟩
      · rcases k2 with ⟨_, _, b3⟩ | ⟨b1, _⟩
        · exact ⟨_, a3, b3, by simp, by simp⟩
        · exact absurd (b1 a1) a2
      · rcases k2 with ⟨b1, b2, _⟩ | ⟨_, k2⟩
        · exact absurd (a1 b1) b2
        · rcases h2 with ⟨a2, a3⟩ | ⟨a2, t, j, a, l, l', a3, a4⟩
          · rcases k2 with ⟨_, b3⟩ | ⟨b2, _⟩
            · exact ⟨_, a3, b3, by simp, by simp⟩
            · omega
          · rcases k2 with ⟨b2, _⟩ | ⟨_, t', j', a', m, m', b3, b4⟩
            · omega
            · obtain ⟨rfl, rfl, rfl⟩ := a4.unique b4
              have := VS.wlen a4.vs
              have := a4.vs.n.2
              exact ⟨_, a3, b3, by simp only; omega, by simp only; omega⟩
theorem rDrop_vs {s : Sp} (i : Inc) : ∃ b : Bool, (b = true ↔ VS s ∧ FitS s i) ∧ Fbeltwayref09_Drop s i = if b = true then (if i.2.2.2.2 = 0 then some ((0, [], []), 5) else some ((giveR s i.1).1, (giveR s i.1).2.2)) else some ((0, [], []), 1) := by
  obtain ⟨b, h1, h2⟩ := rIncValid_ok s i
  refine ⟨b, h2, ?_⟩
  unfold Fbeltwayref09_Drop
  rw [h1]
  simp only [Option.bind_some]
  by_cases hb : b = true
  · obtain ⟨hv, hf⟩ := h2.1 hb
    rw [if_neg (by simp [hb]), if_pos hb]
    by_cases hw : i.2.2.2.2 = 0
    · rw [if_pos hw, if_pos hw]
    · rw [if_neg hw, if_neg hw, rGive_vs hv hf.1.1 hf.1.2.1]
      rfl
  · rw [if_pos (by simpa using hb), if_neg hb]
theorem bDrop_vs {s : Sp} (hI : StI s) (i : Inc) : ∃ b : Bool, (b = true ↔ VS s ∧ FitS s i) ∧ Fbump_Drop s i = if b = true then (if i.2.2.2.2 = 0 then some ((0, [], []), 5) else some ((giveR s i.1).1, (giveR s i.1).2.2)) else some ((0, [], []), 1) := by
  obtain ⟨b, h1, h2⟩ := bValid_ok hI i
  refine ⟨b, h2, ?_⟩
  unfold Fbump_Drop
  rw [h1]
  simp only [Option.bind_some]
  by_cases hb : b = true
  · obtain ⟨hv, hf⟩ := h2.1 hb
    rw [if_neg (by simp [hb]), if_pos hb]
    by_cases hw : i.2.2.2.2 = 0
    · rcases hf.2 with ⟨_, g1, _⟩ | ⟨g1, _⟩
      · rw [if_pos hw, if_pos (by omega)]
      · exact absurd hw g1
    · rcases hf.2 with ⟨g1, _⟩ | ⟨_, g1, _⟩
      · exact absurd g1 hw
      · rw [if_neg hw, if_neg (by omega), pGive_vs hv hf.1.1 hf.1.2.1]
        rfl
  · rw [if_pos (by simpa using hb), if_neg hb]
theorem drop_eq {s : Sp} (hI : StI s) (i : Inc) : ∃ v, Fbump_Drop s i = some v ∧ Fbeltwayref09_Drop s i = some v ∧ v.1.2.1.length ≤ 16384 ∧ v.1.2.2.length ≤ 64 := by
  obtain ⟨b, h1, h2⟩ := bDrop_vs hI i
  obtain ⟨c, k1, k2⟩ := rDrop_vs (s := s) i
  have e : b = c := by
    have := h1.trans k1.symm
    cases b <;> cases c <;> simp_all
  subst e
  rw [h2, k2]
  by_cases hb : b = true
  · have hv := (h1.1 hb).1
    rw [if_pos hb]
    split
    · exact ⟨_, rfl, rfl, by simp, by simp⟩
    · obtain ⟨g1, g2⟩ := giveR_len hv i.1
      exact ⟨_, rfl, rfl, g1, g2⟩
  · rw [if_neg hb]
    exact ⟨_, rfl, rfl, by simp, by simp⟩
end Go.Proofs.YtjbkmpipccdnhaaDoor
