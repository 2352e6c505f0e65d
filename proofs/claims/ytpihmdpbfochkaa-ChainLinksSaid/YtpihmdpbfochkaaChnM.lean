/-
  The law ChainLinks: how frames are linked and listed.
-/
import Derived.Test.YtpihmdpbfochkaaChnL
import Derived.Test.YtpihmdpbfochkaaChnX
set_option linter.unusedVariables false
namespace Go.Proofs.Ytpihmdpbfochkaa
open Go Go.V3

theorem rTail_ok {s : Sp} (h : VS s) {a f : Int} (a0 : 0 ≤ a) (a1 : a < s.2.2.length) {l : List Int} (hl : Pa s.2.2 f l) (b : Bool) :
    ∃ r, loopO (σ := (Bool × Int)) (β := ((Int × (List (BitVec 64)) × (List (Int × Int × Int))) × Int)) (fun s1 =>
      if s1.2 < (s.2.2.length : Int) then
      if 0 ≤ s1.2 ∧ s1.2 < (s.2.2.length : Int) then
      if s1.1 = true then
      some (Sum.inl ((true, w64 (s1.2 + 1))))
      else some (Sum.inl ((decide ((((gl ((0, 0, 0) : (Int × Int × Int)) s.2.2 s1.2.toNat).2).2) = f), w64 (s1.2 + 1))))
      else none
      else Option.map Sum.inr (loopO (σ := (Bool × Int)) (β := ((Int × (List (BitVec 64)) × (List (Int × Int × Int))) × Int)) (fun s2 =>
      if ¬ s2.2 = (-1) then
      if s2.1 = true then
      if 0 ≤ s2.2 ∧ s2.2 < (s.2.2.length : Int) then
      some (Sum.inl ((true, ((gl ((0, 0, 0) : (Int × Int × Int)) s.2.2 s2.2.toNat).2).2)))
      else none
      else if 0 ≤ s2.2 ∧ s2.2 < (s.2.2.length : Int) then
      some (Sum.inl ((decide (s2.2 = a), ((gl ((0, 0, 0) : (Int × Int × Int)) s.2.2 s2.2.toNat).2).2)))
      else none
      else Option.map Sum.inr (if s2.1 = true then
      some (((0, [], []), 5))
      else Option.bind (Fbeltwayref03_Copy s) (fun r4 =>
      if 0 ≤ a ∧ a < (r4.2.2.length : Int) then
      some (((r4.1, r4.2.1, r4.2.2.set a.toNat ((gl ((0, 0, 0) : (Int × Int × Int)) r4.2.2 a.toNat).1, ((gl ((0, 0, 0) : (Int × Int × Int)) r4.2.2 a.toNat).2).1, f)), 0))
      else none))) ((s1.1, f)))) ((b, 0)) = some r ∧
      (((b = true ∨ (∃ x : Int, (0 ≤ x ∧ x < s.2.2.length) ∧ nx s.2.2 x = f) ∨ a ∈ l) ∧ r = ((0, [], []), 5)) ∨
       (¬ (b = true ∨ (∃ x : Int, (0 ≤ x ∧ x < s.2.2.length) ∧ nx s.2.2 x = f) ∨ a ∈ l) ∧ r = ((s.1, s.2.1, s.2.2.set a.toNat ((fr s.2.2 a).1, (fr s.2.2 a).2.1, f)), 0))) := by
  have hwl := VS.wlen h
  have hn := h.n.2
  have ha : gl (0, 0, 0) s.2.2 a.toNat = fr s.2.2 a := rfl
  refine loopO_up (fun k (st : Bool × Int) => st.2 = (k : Int) ∧ k ≤ s.2.2.length ∧ (st.1 = true ↔ b = true ∨ ∃ x : Int, (0 ≤ x ∧ x < k) ∧ nx s.2.2 x = f)) _ s.2.2.length ?_ ?_ ⟨rfl, by omega, by simp; intro x x0 x1; omega⟩
  · rintro k ⟨c, i⟩ hk ⟨h1, _, h2⟩
    simp only at h1 h2 ⊢
    subst h1
    have hfk : (gl (0, 0, 0) s.2.2 (k : Int).toNat).2.2 = nx s.2.2 k := (nx_in (by omega) (by omega)).symm
    rw [if_pos (by omega), if_pos (by omega), hfk, w64_id (by omega) (by omega)]
    have next : ((k : Int) + 1) = ((k + 1 : Nat) : Int) := by omega
    by_cases hc : c = true
    · rw [if_pos hc]
      refine .inl ⟨_, rfl, next, by omega, ?_⟩
      simp only [true_iff]
      rcases h2.1 hc with h3 | ⟨x, ⟨x0, x1⟩, x2⟩
      · exact .inl h3
      · exact .inr ⟨x, ⟨x0, by omega⟩, x2⟩
    · rw [if_neg hc]
      have h3 : ¬ (b = true ∨ ∃ x : Int, (0 ≤ x ∧ x < k) ∧ nx s.2.2 x = f) := fun h3 => hc (h2.2 h3)
      refine .inl ⟨_, rfl, next, by omega, ?_⟩
      simp only [decide_eq_true_iff]
      constructor
      · intro h4; exact .inr ⟨k, ⟨by omega, by omega⟩, h4⟩
      · rintro (h4 | ⟨x, ⟨x0, x1⟩, x2⟩)
        · exact absurd (.inl h4) h3
        · by_cases hxk : x = k
          · rw [← hxk]; exact x2
          · exact absurd (.inr ⟨x, ⟨x0, by omega⟩, x2⟩) h3
  · rintro ⟨c, i⟩ ⟨h1, _, h2⟩
    simp only at h1 h2 ⊢
    subst h1
    rw [if_neg (by omega)]
    refine map_inr ?_
    refine loopO_ind (fun m (st : Bool × Int) => ∃ l1 l2, l = l1 ++ l2 ∧ l2.length = m ∧ Pa s.2.2 st.2 l2 ∧ (st.1 = true ↔ c = true ∨ a ∈ l1)) _ ?_ l.length (c, f) ⟨[], l, rfl, rfl, hl, by simp⟩
    rintro m ⟨e, g⟩ ⟨l1, l2, c1, c2, c3, c4⟩
    simp only at c3 c4 ⊢
    cases l2 with
    | nil =>
      left
      rw [Pa] at c3
      rw [List.append_nil] at c1
      subst c1
      rw [if_neg (by simp [c3])]
      refine map_inr ?_
      by_cases he : e = true
      · rw [if_pos he]
        refine ⟨_, rfl, .inl ⟨?_, rfl⟩⟩
        rcases c4.1 he with h3 | h3
        · rcases h2.1 h3 with h4 | h4
          · exact .inl h4
          · exact .inr (.inl h4)
        · exact .inr (.inr h3)
      · rw [if_neg he, VS.copy h]
        simp only [Option.bind_some, ha]
        rw [if_pos ⟨a0, a1⟩]
        refine ⟨_, rfl, .inr ⟨?_, rfl⟩⟩
        rintro (h4 | h4 | h4)
        · exact he (c4.2 (.inl (h2.2 (.inl h4))))
        · exact he (c4.2 (.inl (h2.2 (.inr h4))))
        · exact he (c4.2 (.inr h4))
    | cons q r =>
      right
      obtain ⟨rfl, g0, g1, g2⟩ := c3
      have hgn : (gl (0, 0, 0) s.2.2 g.toNat).2.2 = nx s.2.2 g := (nx_in g0 g1).symm
      rw [if_pos (by omega)]
      by_cases he : e = true
      · rw [if_pos he, if_pos ⟨g0, g1⟩, hgn]
        refine ⟨m - 1, _, by simp at c2; omega, rfl, l1 ++ [g], r, by simp [c1], by simp at c2; omega, g2, ?_⟩
        simp only [true_iff]
        rcases c4.1 he with h3 | h3
        · exact .inl h3
        · exact .inr (by simp [h3])
      · rw [if_neg he, if_pos ⟨g0, g1⟩, hgn]
        refine ⟨m - 1, _, by simp at c2; omega, rfl, l1 ++ [g], r, by simp [c1], by simp at c2; omega, g2, ?_⟩
        simp only [decide_eq_true_iff]
        have h3 : ¬ (c = true ∨ a ∈ l1) := fun h3 => he (c4.2 h3)
        constructor
        · intro h4; exact .inr (by simp [h4])
        · rintro (h4 | h4)
          · exact absurd (.inl h4) h3
          · rcases List.mem_append.1 h4 with h4 | h4
            · exact absurd (.inr h4) h3
            · simpa using (by simpa using h4 : a = g).symm

theorem rLink_ok {s : Sp} (h : VS s) {a f : Int} (a0 : 0 ≤ a) (a1 : a < s.2.2.length) (f0 : 0 ≤ f) (f1 : f < s.2.2.length) {l : List Int} (hl : Pa s.2.2 f l) :
    (BadLink s a f l ∧ Fbeltwayref05_Link s a f = some ((0, [], []), 5)) ∨ (¬ BadLink s a f l ∧ Fbeltwayref05_Link s a f = some ((s.1, s.2.1, s.2.2.set a.toNat ((fr s.2.2 a).1, (fr s.2.2 a).2.1, f)), 0)) := by
  have ha : gl (0, 0, 0) s.2.2 a.toNat = fr s.2.2 a := rfl
  have hf : gl (0, 0, 0) s.2.2 f.toNat = fr s.2.2 f := rfl
  have hna := nx_in a0 a1
  have fin : ∀ (b : Bool), (b = true → BadLink s a f l) → (BadLink s a f l → b = true ∨ (∃ x : Int, (0 ≤ x ∧ x < s.2.2.length) ∧ nx s.2.2 x = f) ∨ a ∈ l) → ∀ y, (∃ r, y = some r ∧
      (((b = true ∨ (∃ x : Int, (0 ≤ x ∧ x < s.2.2.length) ∧ nx s.2.2 x = f) ∨ a ∈ l) ∧ r = (((0, [], []) : Sp), (5 : Int))) ∨
       (¬ (b = true ∨ (∃ x : Int, (0 ≤ x ∧ x < s.2.2.length) ∧ nx s.2.2 x = f) ∨ a ∈ l) ∧ r = ((s.1, s.2.1, s.2.2.set a.toNat ((fr s.2.2 a).1, (fr s.2.2 a).2.1, f)), 0)))) →
      (BadLink s a f l ∧ y = some ((0, [], []), 5)) ∨ (¬ BadLink s a f l ∧ y = some ((s.1, s.2.1, s.2.2.set a.toNat ((fr s.2.2 a).1, (fr s.2.2 a).2.1, f)), 0)) := by
    rintro b hb1 hb2 y ⟨r, rfl, ⟨h1, rfl⟩ | ⟨h1, rfl⟩⟩
    · refine .inl ⟨?_, rfl⟩
      rcases h1 with h1 | h1 | h1
      · exact hb1 h1
      · exact .inr (.inr (.inr (.inr (.inl h1))))
      · exact .inr (.inr (.inr (.inr (.inr h1))))
    · exact .inr ⟨fun hb => h1 (hb2 hb), rfl⟩
  unfold Fbeltwayref05_Link
  rw [VS.valid h, rOut_ok, rOut_ok]
  simp only [Option.bind_some, ha, hf]
  rw [if_neg (by simp), if_neg (by simp [a0, a1]), if_neg (by simp [f0, f1]), if_pos ⟨a0, a1⟩, if_pos ⟨f0, f1⟩]
  by_cases b1 : (fr s.2.2 a).1 = -1
  · rw [if_pos b1]
    exact fin true (fun _ => .inl b1) (fun _ => .inl rfl) _ (rTail_ok h a0 a1 hl true)
  rw [if_neg (by simpa using b1)]
  by_cases b2 : (fr s.2.2 f).1 = -1
  · rw [if_pos b2]
    exact fin true (fun _ => .inr (.inl b2)) (fun _ => .inl rfl) _ (rTail_ok h a0 a1 hl true)
  rw [if_neg (by simpa using b2)]
  by_cases b3 : (fr s.2.2 a).2.1 = (fr s.2.2 f).2.1
  rotate_left
  · rw [if_pos b3]
    exact fin true (fun _ => .inr (.inr (.inl b3))) (fun _ => .inl rfl) _ (rTail_ok h a0 a1 hl true)
  rw [if_neg (not_not_intro b3)]
  by_cases b4 : (fr s.2.2 a).2.2 = -1
  rotate_left
  · rw [if_pos b4]
    exact fin true (fun _ => .inr (.inr (.inr (.inl (by rw [hna]; exact b4))))) (fun _ => .inl rfl) _ (rTail_ok h a0 a1 hl true)
  rw [if_neg (not_not_intro b4)]
  refine fin (decide (f = a)) (fun hb => ?_) (fun hb => ?_) _ (rTail_ok h a0 a1 hl _)
  · refine .inr (.inr (.inr (.inr (.inr ?_))))
    have : f = a := by simpa using hb
    rw [← this]
    cases l with
    | nil => rw [Pa] at hl; omega
    | cons q r => obtain ⟨rfl, _⟩ := hl; simp
  · rcases hb with d | d | d | d | d | d
    · exact absurd d b1
    · exact absurd d b2
    · exact absurd b3 d
    · exact absurd (by rw [hna]; exact b4) d
    · exact .inr (.inl d)
    · exact .inr (.inr d)

theorem link_eq {s : Sp} (hI : StI s) (hb : s.2.1.length ≤ 100000 ∧ s.2.2.length ≤ 1000) (a f : Int) : ∃ v, Fchain_Link s a f = some v ∧ Fbeltwayref05_Link s a f = some v ∧ v.1.2.1.length ≤ 100000 ∧ v.1.2.2.length ≤ 1000 := by
  by_cases h : VS s
  rotate_left
  · obtain ⟨h1, h2⟩ := bad_valid h hI
    refine ⟨((0, [], []), 1), ?_, ?_, by simp, by simp⟩
    · unfold Fchain_Link; rw [h1]; rfl
    · unfold Fbeltwayref05_Link; rw [h2]; rfl
  by_cases ha : 0 ≤ a ∧ a < s.2.2.length
  rotate_left
  · refine ⟨((0, [], []), 2), ?_, ?_, by simp, by simp⟩
    · unfold Fchain_Link; rw [VS.fvalid h, cIn_ok]; simp [ha]
    · unfold Fbeltwayref05_Link; rw [VS.valid h, rOut_ok]; simp [ha]
  by_cases hf : 0 ≤ f ∧ f < s.2.2.length
  rotate_left
  · refine ⟨((0, [], []), 2), ?_, ?_, by simp, by simp⟩
    · unfold Fchain_Link; rw [VS.fvalid h, cIn_ok, cIn_ok]; simp [ha, hf]
    · unfold Fbeltwayref05_Link; rw [VS.valid h, rOut_ok, rOut_ok]; simp [ha, hf]
  obtain ⟨l, hl⟩ := h.acy f hf.1 hf.2
  rcases fLink_ok h ha.1 ha.2 hf.1 hf.2 hl with ⟨h1, h2⟩ | ⟨h1, h2⟩
  · rcases rLink_ok h ha.1 ha.2 hf.1 hf.2 hl with ⟨h3, h4⟩ | ⟨h3, h4⟩
    · exact ⟨_, h2, h4, by simp, by simp⟩
    · exact absurd h1 h3
  · rcases rLink_ok h ha.1 ha.2 hf.1 hf.2 hl with ⟨h3, h4⟩ | ⟨h3, h4⟩
    · exact absurd h3 h1
    · exact ⟨_, h2, h4, by simpa using hb.1, by simpa using hb.2⟩

theorem list_eq {s : Sp} (hI : StI s) (f : Int) : ∃ v, Fchain_List s f = some v ∧ Fbeltwayref05_List s f = some v ∧ v.1.length ≤ 64 := by
  by_cases h : VS s
  rotate_left
  · obtain ⟨h1, h2⟩ := bad_valid h hI
    refine ⟨([], 1), ?_, ?_, by simp⟩
    · unfold Fchain_List; rw [h1]; rfl
    · unfold Fbeltwayref05_List; rw [h2]; rfl
  by_cases hf : 0 ≤ f ∧ f < s.2.2.length
  rotate_left
  · refine ⟨([], 2), ?_, ?_, by simp⟩
    · unfold Fchain_List; rw [VS.fvalid h, cIn_ok]; simp [hf]
    · unfold Fbeltwayref05_List; rw [VS.valid h, rOut_ok]; simp [hf]
  have hfr : gl (0, 0, 0) s.2.2 f.toNat = fr s.2.2 f := rfl
  by_cases hu : (fr s.2.2 f).1 = -1
  · refine ⟨([], 5), ?_, ?_, by simp⟩
    · unfold Fchain_List
      rw [VS.fvalid h, cIn_ok, cFree_ok hf.1 hf.2]
      simp only [Option.bind_some]
      rw [if_neg (by simp), if_neg (by simp [hf]), if_pos (by simpa using hu)]
    · unfold Fbeltwayref05_List
      rw [VS.valid h, rOut_ok]
      simp only [Option.bind_some]
      rw [if_neg (by simp), if_neg (by simp [hf]), if_pos hf, hfr, if_pos hu]
  · obtain ⟨l, hl⟩ := h.acy f hf.1 hf.2
    have hn := h.n.2
    have hll := hl.length
    refine ⟨(l, 0), cList_ok h hf.1 hf.2 hu hl, ?_, by simp only; omega⟩
    unfold Fbeltwayref05_List
    rw [VS.valid h, rOut_ok, Chain_ok hn hl]
    simp only [Option.bind_some]
    rw [if_neg (by simp), if_neg (by simp [hf]), if_pos hf, hfr, if_neg hu]

theorem Same2_refl (a : List (BitVec 64)) (ha : a.length ≤ 1000000) : Fbeltwayref02_Same a a = some true := by
  unfold Fbeltwayref02_Same
  rw [if_neg (by simp)]
  refine loopO_run a.length (fun k hk => ?_) (by rw [if_neg (by omega)])
  rw [if_pos (by omega), if_pos (by omega), if_pos (by omega), if_neg (by simp), w64_id (by omega) (by omega)]
theorem Same_refl (s : Sp) (h1 : s.2.1.length ≤ 1000000) (h2 : s.2.2.length ≤ 1000000) : Fbeltwayref03_Same s s = some true := by
  unfold Fbeltwayref03_Same
  rw [if_neg (by simp), if_neg (by simp), Same2_refl _ h1]
  simp only [Option.bind_some]
  rw [if_neg (by simp)]
  refine loopO_run s.2.2.length (fun k hk => ?_) (by rw [if_neg (by omega)])
  rw [if_pos (by omega), if_pos (by omega), if_pos (by omega), if_neg (by simp [allB]), w64_id (by omega) (by omega)]
theorem SameInts_refl (a : List Int) (ha : a.length ≤ 1000000) : Fbeltwayref18_SameInts a a = some true := by
  obtain ⟨c, h1, h2⟩ := SameInts_ok a a (by omega)
  rw [h1, h2.2 rfl]

/-- Take on any valid space. -/
theorem rTake_any {s : Sp} (h : VS s) {o b : Int} (o0 : 0 ≤ o) (o1 : o ≤ 4294967295) (b0 : 0 ≤ b) (b1 : b < 4) : ∃ u f e, Fbeltwayref04_Take s o b = some (u, f, e) ∧ (e = 0 → VS u) := by
  have hn := h.n.2
  by_cases hst : ∀ x : Int, 0 ≤ x → x < s.2.2.length → (fr s.2.2 x).1 = o → (fr s.2.2 x).2.1 = b * 4294967296 + o
  · cases hf : frees s.2.2 with
    | nil =>
      refine ⟨(0, [], []), 0, 4, ?_, fun h => absurd h (by decide)⟩
      unfold Fbeltwayref04_Take
      rw [VS.valid h]
      simp only [Option.bind_some]
      rw [if_neg (by simp), if_neg (by omega), if_neg (by omega), if_neg (by omega), if_neg (by omega), w64_id (e := b * 4294967296) (by omega) (by omega), w64_id (e := b * 4294967296 + o) (by omega) (by omega)]
      refine loopO_run s.2.2.length (fun k hk => ?_) ?_
      · have hfr : gl (0, 0, 0) s.2.2 (k : Int).toNat = fr s.2.2 k := rfl
        rw [if_pos (by omega), if_pos (by omega), hfr, w64_id (by omega) (by omega)]
        by_cases ho : (fr s.2.2 k).1 = o
        · rw [if_pos ho, if_neg (by simp [hst k (by omega) (by omega) ho])]
        · rw [if_neg ho]
      · rw [if_neg (by omega), VS.copy h]
        simp only [Option.bind_some]
        rw [Lift_none hn hf]
        rfl
    | cons f r =>
      obtain ⟨⟨f0, f1⟩, f2, _⟩ := frees_cons hf
      exact ⟨_, _, _, rTake_ok h o0 o1 b0 b1 hst hf, fun _ => (h.take f0 f1 f2 o0 o1 b0 b1).1⟩
  · refine ⟨(0, [], []), 0, 5, ?_, fun h => absurd h (by decide)⟩
    unfold Fbeltwayref04_Take
    rw [VS.valid h]
    simp only [Option.bind_some]
    rw [if_neg (by simp), if_neg (by omega), if_neg (by omega), if_neg (by omega), if_neg (by omega), w64_id (e := b * 4294967296) (by omega) (by omega), w64_id (e := b * 4294967296 + o) (by omega) (by omega)]
    refine (loopO_up (fun k (i : Int) => i = (k : Int) ∧ k ≤ s.2.2.length ∧ ∀ x : Int, 0 ≤ x → x < k → (fr s.2.2 x).1 = o → (fr s.2.2 x).2.1 = b * 4294967296 + o) (fun r => r = (((0, [], []) : Sp), (0 : Int), (5 : Int))) s.2.2.length ?_ ?_ (s := (0 : Int)) ⟨rfl, by omega, fun x x0 x1 => by omega⟩).elim fun r hr => by rw [hr.1, hr.2]
    · rintro k i hk ⟨rfl, _, hx⟩
      have hfr : gl (0, 0, 0) s.2.2 (k : Int).toNat = fr s.2.2 k := rfl
      rw [if_pos (by omega), if_pos (by omega), hfr, w64_id (by omega) (by omega)]
      by_cases ho : (fr s.2.2 k).1 = o
      · rw [if_pos ho]
        by_cases hs : (fr s.2.2 k).2.1 = b * 4294967296 + o
        · rw [if_neg (not_not_intro hs)]
          refine .inl ⟨_, rfl, by omega, by omega, fun x x0 x1 hxo => ?_⟩
          by_cases hxk : x = k
          · rw [hxk]; exact hs
          · exact hx x x0 (by omega) hxo
        · rw [if_pos hs]
          exact .inr ⟨_, rfl, rfl⟩
      · rw [if_neg ho]
        refine .inl ⟨_, rfl, by omega, by omega, fun x x0 x1 hxo => ?_⟩
        by_cases hxk : x = k
        · rw [hxk] at hxo; exact absurd hxo ho
        · exact hx x x0 (by omega) hxo
    · rintro i ⟨rfl, _, hx⟩
      exact absurd hx hst

theorem law_ChainLinks (y0 : Sp) (w0 : Wf spT y0) (y1 : List Int) (w1 : Wf (.slice (.int .i64)) y1) (y2 : Int) (w2 : I64 y2) (y3 : Int) (w3 : I64 y3) (y4 : Int) (w4 : I64 y4) (y5 : Int) (w5 : I64 y5) (y6 : Int) (w6 : I64 y6) :
    Fbeltwaylaw05_ChainLinks y0 y1 y2 y3 y4 y5 y6 = some true := by
  unfold Fbeltwaylaw05_ChainLinks
  rw [Small_ok]
  simp only [Option.bind_some]
  by_cases hs : y0.2.1.length ≤ 3000 ∧ y0.2.2.length ≤ 80
  rotate_left
  · rw [if_pos (by simp [hs]), awake_ok]; rfl
  rw [if_neg (by simp [hs])]
  obtain ⟨d, e1, hd⟩ := New0_ok y1 w1.1
  rw [e1]
  simp only [Option.bind_some]
  obtain ⟨s, l, d', e2, _, hm⟩ := Space_ok hd
  rw [e2]
  simp only [Option.bind_some]
  refine (loopO_up (fun k (st : Int × Sp) => st.1 = (k : Int) ∧ VS st.2) (fun b => b = true) 3 ?_ ?_ ⟨rfl, hm.vs⟩).elim fun b hb => by rw [hb.1, hb.2]
  · rintro k ⟨i, t⟩ hk ⟨h1, h2⟩
    simp only at h1 h2 ⊢
    subst h1
    obtain ⟨u, f, e, h3, h4⟩ := rTake_any h2 (o := 50) (b := 1) (by omega) (by omega) (by omega) (by omega)
    rw [if_pos (by omega), h3, w64_id (by omega) (by omega)]
    simp only [Option.bind_some]
    by_cases he : e = 0
    · rw [if_pos he]; exact .inl ⟨_, rfl, by simp only; omega, h4 he⟩
    · rw [if_neg he]; exact .inl ⟨_, rfl, by simp only; omega, h2⟩
  · rintro ⟨i, t⟩ ⟨h1, h2⟩
    simp only at h1 h2 ⊢
    rw [if_neg (by omega)]
    refine map_inr ?_
    obtain ⟨u, e3, k1, k2, k3, k4, k5⟩ := VS.spoilt h2 y4 y5 y6
    obtain ⟨p, e4, p1, _⟩ := pair_ok
    rw [e3]
    simp only [Option.bind_some]
    rw [e4]
    simp only [Option.bind_some]
    have hall : ∀ x ∈ [t, y0, u, p], StI x ∧ x.2.1.length ≤ 100000 ∧ x.2.2.length ≤ 1000 := by
      intro x hx
      simp only [List.mem_cons, List.not_mem_nil, or_false] at hx
      have := VS.wlen h2
      have := h2.n.2
      have := VS.wlen p1
      have := p1.n.2
      rcases hx with rfl | rfl | rfl | rfl
      · exact ⟨h2.stI, by omega, by omega⟩
      · exact ⟨raw_stI w0, by omega, by omega⟩
      · exact ⟨k1.stI (by omega), by omega, by omega⟩
      · exact ⟨p1.stI, by omega, by omega⟩
    refine ⟨true, loopO_run 4 (fun k hk => ?_) (by rw [if_neg (by simp), awake_ok]; rfl), rfl⟩
    rw [if_pos (by simp; omega), if_pos ⟨by omega, by simp; omega⟩]
    have hx := hall _ (gl_mem (d := ((0, [], []) : Sp)) (xs := [t, y0, u, p]) (k := (k : Int).toNat) (by simp; omega))
    generalize gl ((0, [], []) : Sp) [t, y0, u, p] (k : Int).toNat = x at hx ⊢
    obtain ⟨x1, x2, x3⟩ := hx
    rw [w64_id (e := (x.2.2.length : Int) + 2) (by omega) (by omega)]
    obtain ⟨a, e5, a0, a1, _⟩ := Mod_ok y2 (m := (x.2.2.length : Int) + 2) (by omega) (by omega)
    rw [e5]
    simp only [Option.bind_some]
    obtain ⟨b, e6, b0, b1, _⟩ := Mod_ok y3 (m := (x.2.2.length : Int) + 2) (by omega) (by omega)
    rw [e6]
    simp only [Option.bind_some]
    rw [w64_id (e := a - 1) (by omega) (by omega), w64_id (e := b - 1) (by omega) (by omega), w64_id (e := (k : Int) + 1) (by omega) (by omega)]
    refine loopO_run 2 (fun m hm => ?_) (by rw [if_neg (by simp)])
    rw [if_pos (by simp; omega), if_pos ⟨by omega, by simp; omega⟩]
    have hp : ∀ p ∈ [[y2, y3], [a - 1, b - 1]], p.length = 2 := by
      intro p hp
      simp only [List.mem_cons, List.not_mem_nil, or_false] at hp
      rcases hp with rfl | rfl <;> rfl
    have hq := hp _ (gl_mem (d := ([] : List Int)) (xs := [[y2, y3], [a - 1, b - 1]]) (k := (m : Int).toNat) (by simp; omega))
    generalize gl ([] : List Int) [[y2, y3], [a - 1, b - 1]] (m : Int).toNat = p at hq ⊢
    rw [hq]
    obtain ⟨v, v1, v2, v3, v4⟩ := link_eq x1 ⟨x2, x3⟩ (gl 0 p 0) (gl 0 p 1)
    obtain ⟨v', v5, v6, v7⟩ := list_eq x1 (gl 0 p 0)
    simp only [show (0 : Int).toNat = 0 from rfl, show (1 : Int).toNat = 1 from rfl]
    rw [if_pos (by decide), if_pos (by decide), v1]
    simp only [Option.bind_some]
    rw [if_pos (by decide), if_pos (by decide), v2]
    simp only [Option.bind_some]
    rw [if_pos (by decide), v5]
    simp only [Option.bind_some]
    rw [if_pos (by decide), v6]
    simp only [Option.bind_some]
    rw [if_neg (by simp), if_neg (by simp), Same_refl _ (by omega) (by omega), SameInts_refl _ (by omega)]
    simp only [Option.bind_some]
    rw [if_neg (by simp), if_neg (by simp), w64_id (by omega) (by omega)]

namespace chainLinks
open Go.ChangeShapes Go.WideShapes Go.ChangeAt Go.RowKit Go.V3
set_option linter.unusedVariables false
theorem own : ownKnob Try.prog.godebug = none := by kernel_rfl
theorem laidOut : laidOutB Try.prog = true := by kernel_rfl
set_option maxRecDepth 100000 in
theorem lifted (os : Os) (started : os.Started) (H : Type) (enc : TypeId × Value → H) :
    ReturnsInHanded {} Try.checked os 5 .any (Rows.chainLinksSpec.pre6 enc Try.prog Try.f5 Rows.chainLinksRow.domain false) (Rows.chainLinksSpec.post enc Try.prog Try.f5 false true false false) := by
  refine returnsInHanded_of_change (C := Try.checked) own started (by kernel_rfl) Try.func5
    (ChangeSpec.witness6 (enc := enc) (C := Try.checked) false ⟨#[], #[.agg #[.int .i64 0, .slice none 0 0, .slice none 0 0], .slice none 0 0, .int .i64 0, .int .i64 0, .int .i64 0, .int .i64 0, .int .i64 0], []⟩ 8 (by kernel_rfl) (by kernel_rfl) (by kernel_rfl) (by kernel_rfl)) ?_
  intro W base args ds gs before hval0 hW hcnd _
  have hval : ∀ (j : Nat) t v, Try.f5.params[j]? = some t → args[j]? = some v → Value.okWide Try.prog W .any base t v := hval0
  have hW' := hW
  obtain ⟨p, q, hA0, hV, rfl, hfz, hnd⟩ := hW
  have hA : DataW.TrodAll enc Try.prog W 0 (fun _ => true) true Try.f5.params.toList args.toList ds p := hA0
  rw [Try.params5] at hA hval
  obtain ⟨v0, vs0, d0, ds0, p0, q0, hargs, rfl, rfl, h0, r0⟩ := trodAll_cons hA
  obtain ⟨v1, vs1, d1, ds1, p1, q1, rfl, rfl, rfl, h1, r1⟩ := trodAll_cons r0
  obtain ⟨v2, vs2, d2, ds2, p2, q2, rfl, rfl, rfl, h2, r2⟩ := trodAll_cons r1
  obtain ⟨v3, vs3, d3, ds3, p3, q3, rfl, rfl, rfl, h3, r3⟩ := trodAll_cons r2
  obtain ⟨v4, vs4, d4, ds4, p4, q4, rfl, rfl, rfl, h4, r4⟩ := trodAll_cons r3
  obtain ⟨v5, vs5, d5, ds5, p5, q5, rfl, rfl, rfl, h5, r5⟩ := trodAll_cons r4
  obtain ⟨v6, vs6, d6, ds6, p6, q6, rfl, rfl, rfl, h6, r6⟩ := trodAll_cons r5
  obtain ⟨rfl, rfl, rfl⟩ := trodAll_nil r6
  obtain rfl : args = #[v0, v1, v2, v3, v4, v5, v6] := by cases args; simp_all
  obtain ⟨rfl, rfl⟩ := trodVars_none hV
  have k0 := h0
  have lt0 : ∀ x ∈ p0, x.block < W.heap.size := by obtain ⟨m, hm⟩ := k0; exact DataW.trod_lt m _ _ _ hm
  obtain ⟨y0, R0, w0⟩ := handed 40 (.pair (.int .i64) (.pair (.slice .u64) (.slice (.pair (.int .i64) (.pair (.int .i64) (.int .i64)))))) (by kernel_rfl) (hval 0 25 v0 rfl rfl) k0
  have k1 := h1
  have lt1 : ∀ x ∈ p1, x.block < W.heap.size := by obtain ⟨m, hm⟩ := k1; exact DataW.trod_lt m _ _ _ hm
  obtain ⟨y1, R1, w1⟩ := handed 40 (.slice (.int .i64)) (by kernel_rfl) (hval 1 26 v1 rfl rfl) k1
  have k2 := h2
  have lt2 : ∀ x ∈ p2, x.block < W.heap.size := by obtain ⟨m, hm⟩ := k2; exact DataW.trod_lt m _ _ _ hm
  obtain ⟨y2, R2, w2⟩ := handed 40 (.int .i64) (by kernel_rfl) (hval 2 3 v2 rfl rfl) k2
  have k3 := h3
  have lt3 : ∀ x ∈ p3, x.block < W.heap.size := by obtain ⟨m, hm⟩ := k3; exact DataW.trod_lt m _ _ _ hm
  obtain ⟨y3, R3, w3⟩ := handed 40 (.int .i64) (by kernel_rfl) (hval 3 3 v3 rfl rfl) k3
  have k4 := h4
  have lt4 : ∀ x ∈ p4, x.block < W.heap.size := by obtain ⟨m, hm⟩ := k4; exact DataW.trod_lt m _ _ _ hm
  obtain ⟨y4, R4, w4⟩ := handed 40 (.int .i64) (by kernel_rfl) (hval 4 3 v4 rfl rfl) k4
  have k5 := h5
  have lt5 : ∀ x ∈ p5, x.block < W.heap.size := by obtain ⟨m, hm⟩ := k5; exact DataW.trod_lt m _ _ _ hm
  obtain ⟨y5, R5, w5⟩ := handed 40 (.int .i64) (by kernel_rfl) (hval 5 3 v5 rfl rfl) k5
  have k6 := h6
  have lt6 : ∀ x ∈ p6, x.block < W.heap.size := by obtain ⟨m, hm⟩ := k6; exact DataW.trod_lt m _ _ _ hm
  obtain ⟨y6, R6, w6⟩ := handed 40 (.int .i64) (by kernel_rfl) (hval 6 3 v6 rfl rfl) k6
  have A7 := Args.nil W
  obtain ⟨m6, A6⟩ := A7.cons (t := (.int .i64)) (.inr ⟨rfl, plainForm (t := 3) rfl (hval 6 3 v6 rfl rfl)⟩) y6 R6
  obtain ⟨m5, A5⟩ := A6.cons (t := (.int .i64)) (.inr ⟨rfl, plainForm (t := 3) rfl (hval 5 3 v5 rfl rfl)⟩) y5 R5
  obtain ⟨m4, A4⟩ := A5.cons (t := (.int .i64)) (.inr ⟨rfl, plainForm (t := 3) rfl (hval 4 3 v4 rfl rfl)⟩) y4 R4
  obtain ⟨m3, A3⟩ := A4.cons (t := (.int .i64)) (.inr ⟨rfl, plainForm (t := 3) rfl (hval 3 3 v3 rfl rfl)⟩) y3 R3
  obtain ⟨m2, A2⟩ := A3.cons (t := (.int .i64)) (.inr ⟨rfl, plainForm (t := 3) rfl (hval 2 3 v2 rfl rfl)⟩) y2 R2
  obtain ⟨m1, A1⟩ := A2.cons (t := (.slice (.int .i64))) (.inr ⟨rfl, plainForm (t := 26) rfl (hval 1 26 v1 rfl rfl)⟩) y1 R1
  obtain ⟨m0, A0⟩ := A1.cons (t := (.pair (.int .i64) (.pair (.slice .u64) (.slice (.pair (.int .i64) (.pair (.int .i64) (.int .i64))))))) (.inl ⟨rfl, aggForm (t := 25) rfl (hval 0 25 v0 rfl rfl)⟩) y0 R0
  refine (law_args (fi := iFbeltwaylaw05_ChainLinks) okFbeltwaylaw05_ChainLinks (r := (true : Bool)) (vals := #[v0, v1, v2, v3, v4, v5, v6]) (w := W) A0 (law_ChainLinks y0 w0 y1 w1 y2 (i64_of_wf w2) y3 (i64_of_wf w3) y4 (i64_of_wf w4) y5 (i64_of_wf w5) y6 (i64_of_wf w6)) (fun _ => rfl)).mono fun e W' ⟨he, bel⟩ => ?_
  subst he
  simp only [List.append_nil] at hW'
  exact ⟨_, rfl, _, _, _, [], _, [], hW', trodAll_mk1 (shut_bool Try.underlying4 _), (trodAll_cons_mk (Below.trod laidOut (by kernel_rfl) (of_decide_eq_true (by kernel_rfl)) k0 bel lt0) (trodAll_cons_mk (Below.trod laidOut (by kernel_rfl) (of_decide_eq_true (by kernel_rfl)) k1 bel lt1) (trodAll_cons_mk (Below.trod laidOut (by kernel_rfl) (of_decide_eq_true (by kernel_rfl)) k2 bel lt2) (trodAll_cons_mk (Below.trod laidOut (by kernel_rfl) (of_decide_eq_true (by kernel_rfl)) k3 bel lt3) (trodAll_cons_mk (Below.trod laidOut (by kernel_rfl) (of_decide_eq_true (by kernel_rfl)) k4 bel lt4) (trodAll_cons_mk (Below.trod laidOut (by kernel_rfl) (of_decide_eq_true (by kernel_rfl)) k5 bel lt5) (trodAll_cons_mk (Below.trod laidOut (by kernel_rfl) (of_decide_eq_true (by kernel_rfl)) k6 bel lt6) trodAll_mk0))))))), rfl, bel.frame _, fun h => by cases h⟩
theorem proved : Rows.ChainLinksSaid :=
  OpenClaim.holds_of_wide 5 Try.f5 rfl rfl rfl rfl rfl rfl rfl ⟨rfl, rfl, rfl, rfl, rfl⟩ rfl rfl rfl rfl rfl (by kernel_rfl) Try.func5 (by kernel_rfl)
    (of_decide_eq_true (by kernel_rfl)) (by unfold Func.isWrapper; first | (rw [if_pos (by decide +kernel)]; kernel_rfl) | (rw [if_neg (by decide +kernel)]; exact ⟨rfl, rfl⟩))
    (fun os started H enc _ => lifted os started H enc)
end chainLinks
end Go.Proofs.Ytpihmdpbfochkaa
