/-
  The check of the arguments of a copy, and how a copy begins.
-/
import Derived.Test.YtokeceeccmgcmaaDoorEvcD
set_option linter.unusedVariables false
namespace Go.Proofs.YtokeceeccmgcmaaDoor
open Go Go.V3

theorem mg_set (m : List (Int × Bool)) (k : Int) (v : Bool) (n : Int) : mget (mset m k v) n = if n = k then some v else mget m n := by
  induction m with
  | nil => by_cases h : n = k <;> simp [mset, mget, h]
  | cons p r ih =>
    obtain ⟨a, b⟩ := p
    by_cases h : k = a
    · subst h
      by_cases hn : n = k <;> simp [mset, mget, hn]
    · by_cases hn : n = a
      · subst hn
        simp [mset, mget, h]
        intro he; exact absurd he.symm h
      · simp only [mset, if_neg h, mget, if_neg hn, ih]
/-- The objects of an increment can be listed. -/
def ObOk (s : Sp) (i : Inc) : Prop := FitS s i ∧ ∃ l os, Has s i l ∧ obs s i l = some os
theorem wObj_ok {s : Sp} (hI : StI s) (i : Inc) : ∃ v, Fwalk_Objects s i = some v ∧ (v.2 = 0 ↔ VS s ∧ ObOk s i) := by
  obtain ⟨b, b1, b2⟩ := bValid_ok hI i
  cases b with
  | false =>
    refine ⟨([], 1), ?_, fun h => absurd h (show ¬ (1 : Int) = 0 by decide), fun h => absurd (b2.2 ⟨h.1, h.2.1⟩) Bool.false_ne_true⟩
    unfold Fwalk_Objects Fwalk_each_walk_Objects_1
    rw [b1]; rfl
  | true =>
    obtain ⟨hv, hf⟩ := b2.1 rfl
    obtain ⟨l, hl, _⟩ := hf.has hv
    refine ⟨_, pObjects_ok hv hf hl, ?_⟩
    cases ho : obs s i l with
    | none =>
      refine ⟨fun h => absurd h (show ¬ (12 : Int) = 0 by decide), ?_⟩
      rintro ⟨_, _, l', os, h1, h2⟩
      rcases hl with ⟨g1, rfl⟩ | ⟨g1, g2⟩ <;> rcases h1 with ⟨g3, rfl⟩ | ⟨g3, g4⟩
      · rw [ho] at h2; cases h2
      · exact absurd g1 g3
      · exact absurd g3 g1
      · rw [g2.fn g4] at ho; rw [ho] at h2; cases h2
    | some os => exact ⟨fun _ => ⟨hv, hf, l, os, hl, ho⟩, fun _ => rfl⟩
/-- Arguments of a copy that are permitted. -/
structure Chk (s : Sp) (l : List Inc) (to : Inc) : Prop where
  vs : VS s
  ob : ∀ i ∈ l, ObOk s i ∧ i.2.2.2.2 ≠ 0
  nd : (seqs l).Nodup
  fit : FitS s to
  out : to.1 ∉ seqs l
  own : to.2.2.2.2 = 0 → owned s.2.2 to.1 = []
theorem check_ok {s : Sp} (hI : StI s) {l : List Inc} (hl : l.length ≤ 1000000) (to : Inc) : (Chk s l to ∧ Fevacuate_check s l to = some 0) ∨ (¬ Chk s l to ∧ Fevacuate_check s l to = some 1) := by
  suffices h : ∃ b, Fevacuate_check s l to = some b ∧ ((Chk s l to ∧ b = 0) ∨ (¬ Chk s l to ∧ b = 1)) by
    obtain ⟨b, h1, ⟨h2, rfl⟩ | ⟨h2, rfl⟩⟩ := h
    · exact .inl ⟨h2, h1⟩
    · exact .inr ⟨h2, h1⟩
  unfold Fevacuate_check
  obtain ⟨b, b1, b2⟩ := fValid_ok s hI
  rw [b1, Option.bind_some]
  cases b with
  | false => exact ⟨1, rfl, .inr ⟨fun h => absurd (b2.2 h.vs) Bool.false_ne_true, rfl⟩⟩
  | true =>
    have hv := b2.1 rfl
    rw [if_neg (show ¬ (!true) = true by decide)]
    refine loopO_up (fun k (st : Int × List (Int × Bool)) => st.1 = (k : Int) ∧ (∀ q, (mget st.2 q).getD false = true ↔ q ∈ seqs (l.take k)) ∧ (∀ i ∈ l.take k, ObOk s i ∧ i.2.2.2.2 ≠ 0) ∧ (seqs (l.take k)).Nodup)
      (fun b => (Chk s l to ∧ b = 0) ∨ (¬ Chk s l to ∧ b = 1)) l.length ?_ ?_ (s := ((0 : Int), ([] : List (Int × Bool)))) ⟨rfl, fun q => by simp [mget, seqs], fun i hi => absurd hi (by simp), List.nodup_nil⟩
    · rintro k ⟨i, mp⟩ hk ⟨h1, h2, h3, h4⟩
      simp only at h1 h2 ⊢
      subst h1
      have ht : l.take (k + 1) = l.take k ++ [gl ((0, 0, 0, 0, 0) : Inc) l k] := by
        rw [List.take_add_one, gl_get? (d := ((0, 0, 0, 0, 0) : Inc)) hk]; rfl
      have hmem : gl ((0, 0, 0, 0, 0) : Inc) l k ∈ l := gl_mem hk
      rw [if_pos (by omega), if_pos (by omega), Int.toNat_natCast]
      generalize hx : gl ((0, 0, 0, 0, 0) : Inc) l k = x at *
      obtain ⟨v, v1, v2⟩ := wObj_ok hI x
      rw [show (x.1, x.2.1, x.2.2.1, x.2.2.2) = x from rfl, v1, Option.bind_some]
      by_cases hv0 : v.2 = 0
      rotate_left
      · rw [if_pos hv0]
        exact .inr ⟨_, rfl, .inr ⟨fun h => hv0 (v2.2 ⟨hv, (h.ob x hmem).1⟩), rfl⟩⟩
      rw [if_neg (not_not_intro hv0)]
      by_cases hw : x.2.2.2.2 = 0
      · rw [if_pos hw]
        exact .inr ⟨_, rfl, .inr ⟨fun h => (h.ob x hmem).2 hw, rfl⟩⟩
      rw [if_neg hw]
      by_cases hs : (mget mp x.1).getD false = true
      · rw [if_pos hs]
        refine .inr ⟨_, rfl, .inr ⟨fun h => ?_, rfl⟩⟩
        have hn := h.nd
        have h5 : (seqs (l.take (k + 1))).Nodup := by
          have : (seqs (l.take (k + 1))).Sublist (seqs l) := (List.take_sublist (k + 1) l).map _
          exact this.nodup hn
        rw [ht] at h5
        unfold seqs at h5
        rw [List.map_append, List.nodup_append] at h5
        exact h5.2.2 x.1 ((h2 _).1 hs) x.1 (by simp) rfl
      rw [if_neg hs, w64_id (e := (k : Int) + 1) (by omega) (by omega)]
      have hns : x.1 ∉ seqs (l.take k) := fun h => hs ((h2 _).2 h)
      have he : seqs (l.take k ++ [x]) = seqs (l.take k) ++ [x.1] := by simp [seqs]
      refine .inl ⟨_, rfl, by simp only; omega, fun q => ?_, ?_, ?_⟩
      · simp only
        rw [mg_set, ht, he, List.mem_append, List.mem_singleton]
        by_cases hq : q = x.1
        · rw [if_pos hq]; simp [hq]
        · rw [if_neg hq, h2 q]; simp [hq]
      · intro i hi
        rw [ht] at hi
        rcases List.mem_append.1 hi with hi | hi
        · exact h3 i hi
        · rw [List.mem_singleton.1 hi]; exact ⟨(v2.1 hv0).2, hw⟩
      · rw [ht, he, List.nodup_append]
        exact ⟨h4, by simp, fun a ha b hb hab => by rw [List.mem_singleton.1 hb] at hab; exact hns (hab ▸ ha)⟩
    · rintro ⟨i, mp⟩ ⟨h1, h2, h3, h4⟩
      simp only at h1 h2 ⊢
      rw [List.take_length] at h2 h3 h4
      rw [if_neg (by omega)]
      refine map_inr ?_
      obtain ⟨b, b1, b3⟩ := bValid_ok hI to
      rw [b1, Option.bind_some]
      cases b with
      | false => exact ⟨1, rfl, .inr ⟨fun h => absurd (b3.2 ⟨hv, h.fit⟩) Bool.false_ne_true, rfl⟩⟩
      | true =>
        rw [if_neg (show ¬ (!true) = true by decide)]
        have hf := (b3.1 rfl).2
        by_cases hs : (mget mp to.1).getD false = true
        · rw [if_pos hs]
          exact ⟨1, rfl, .inr ⟨fun h => h.out ((h2 _).1 hs), rfl⟩⟩
        rw [if_neg hs]
        have hn := hv.n.2
        refine loopO_up (fun k (st : Int) => st = (k : Int) ∧ ∀ j : Int, 0 ≤ j → j < k → to.2.2.2.2 = 0 → (fr s.2.2 j).1 ≠ to.1) _ s.2.2.length ?_ ?_ (s := (0 : Int)) ⟨rfl, fun j j0 j1 => by omega⟩
        · rintro k st hk ⟨rfl, g2⟩
          have hfr : gl (0, 0, 0) s.2.2 (k : Int).toNat = fr s.2.2 k := rfl
          rw [if_pos (by omega), if_pos (by omega), hfr, w64_id (e := (k : Int) + 1) (by omega) (by omega)]
          have hstep : ¬ (to.2.2.2.2 = 0 ∧ (fr s.2.2 k).1 = to.1) → ∀ j : Int, 0 ≤ j → j < (k + 1 : Nat) → to.2.2.2.2 = 0 → (fr s.2.2 j).1 ≠ to.1 := by
            intro hh j j0 j1 hw he
            by_cases hj : j = k
            · subst hj; exact hh ⟨hw, he⟩
            · exact g2 j j0 (by omega) hw he
          by_cases hw : to.2.2.2.2 = 0
          · rw [if_pos hw]
            by_cases ho : (fr s.2.2 k).1 = to.1
            · rw [if_pos ho]
              refine .inr ⟨_, rfl, .inr ⟨fun h => ?_, rfl⟩⟩
              have := h.own hw
              have hm : (k : Int) ∈ owned s.2.2 to.1 := mem_owned.2 ⟨⟨by omega, by omega⟩, ho⟩
              rw [this] at hm; cases hm
            · rw [if_neg ho]
              exact .inl ⟨_, rfl, by omega, hstep fun h => ho h.2⟩
          · rw [if_neg hw]
            exact .inl ⟨_, rfl, by omega, hstep fun h => hw h.1⟩
        · rintro st ⟨rfl, g2⟩
          rw [if_neg (by omega)]
          refine ⟨_, rfl, .inl ⟨⟨hv, h3, h4, hf, fun h => hs ((h2 _).2 h), fun hw => ?_⟩, rfl⟩⟩
          apply List.eq_nil_iff_forall_not_mem.2
          intro x hx
          obtain ⟨⟨x0, x1⟩, x2⟩ := mem_owned.1 hx
          exact g2 x x0 x1 hw x2
/-- The fields of one copy. -/
noncomputable def L4 (i3 dst refs : Int) (s4 : Int × Cp) : Option ((Int × Cp) ⊕ ((Int × Cp) ⊕ (Sp × Inc × List (Int × Int) × List (BitVec 64) × Int))) :=
  if s4.1 ≤ refs then
  Option.bind (Fcells_At s4.2.1 dst s4.1) (fun r9 =>
  if 0 ≤ r9 ∧ r9 < (s4.2.1.2.1.length : Int) then
  Option.bind (Fevacuate_copier_move s4.2 (gl (0#64 : (BitVec 64)) s4.2.1.2.1 r9.toNat)) (fun r10 =>
  if ¬ r10.2.1 = 0 then
  Option.bind (Fevacuate_Copy_1 r10.2.1) (fun r11 =>
  some (Sum.inr (Sum.inr ((r11.1, r11.2.1, r11.2.2.1, r11.2.2.2.1, r11.2.2.2.2)))))
  else if 0 ≤ r9 ∧ r9 < (r10.2.2.1.2.1.length : Int) then
  some (Sum.inl ((w64 (s4.1 + 1), ((r10.2.2.1.1, r10.2.2.1.2.1.set r9.toNat r10.1, r10.2.2.1.2.2), r10.2.2.2))))
  else none)
  else none)
  else some (Sum.inr (Sum.inl ((w64 (i3 + 1), s4.2))))
/-- The copies, one after the other. -/
noncomputable def L3 (moved : List (BitVec 64)) (s3 : Int × Cp) : Option ((Int × Cp) ⊕ (Sp × Inc × List (Int × Int) × List (BitVec 64) × Int)) :=
  if s3.1 < (s3.2.2.2.2.length : Int) then
  if 0 ≤ s3.1 ∧ s3.1 < (s3.2.2.2.2.length : Int) then
  if 0 ≤ ((gl ((0, 0) : (Int × Int)) s3.2.2.2.2 s3.1.toNat).2) ∧ ((gl ((0, 0) : (Int × Int)) s3.2.2.2.2 s3.1.toNat).2) < (s3.2.1.2.1.length : Int) then
  Option.bind (Fheader_Decode (gl (0#64 : (BitVec 64)) s3.2.1.2.1 (((gl ((0, 0) : (Int × Int)) s3.2.2.2.2 s3.1.toNat).2).toNat))) (fun r8 =>
  loopO (L4 s3.1 ((gl ((0, 0) : (Int × Int)) s3.2.2.2.2 s3.1.toNat).2) r8.1) ((1, s3.2)))
  else none
  else none
  else some (Sum.inr ((s3.2.1, s3.2.2.2.1, s3.2.2.2.2, moved, 0)))
/-- The words, one after the other. -/
noncomputable def L2 (ws : List (BitVec 64)) (s2 : Int × Cp × List (BitVec 64)) : Option ((Int × Cp × List (BitVec 64)) ⊕ (Sp × Inc × List (Int × Int) × List (BitVec 64) × Int)) :=
  if s2.1 < (ws.length : Int) then
  if 0 ≤ s2.1 ∧ s2.1 < (ws.length : Int) then
  Option.bind (Fevacuate_copier_move s2.2.1 (gl (0#64 : (BitVec 64)) ws s2.1.toNat)) (fun r6 =>
  if ¬ r6.2.1 = 0 then
  Option.bind (Fevacuate_Copy_1 r6.2.1) (fun r7 =>
  some (Sum.inr ((r7.1, r7.2.1, r7.2.2.1, r7.2.2.2.1, r7.2.2.2.2))))
  else if 0 ≤ s2.1 ∧ s2.1 < (s2.2.2.length : Int) then
  some (Sum.inl ((w64 (s2.1 + 1), r6.2.2, s2.2.2.set s2.1.toNat r6.1)))
  else none)
  else none
  else Option.map Sum.inr (loopO (L3 s2.2.2) ((0, s2.2.1)))
theorem copy_fail {s : Sp} (hI : StI s) {l : List Inc} (hl : l.length ≤ 1000000) (to : Inc) (ws : List (BitVec 64)) (h : ¬ Chk s l to) : Fevacuate_Copy s l to ws = some ((0, [], []), (0, 0, 0, 0, 0), [], [], 1) := by
  unfold Fevacuate_Copy
  rcases check_ok hI hl to with ⟨h1, _⟩ | ⟨_, h1⟩
  · exact absurd h1 h
  rw [h1]; rfl
theorem copy_start {s : Sp} (hI : StI s) {l : List Inc} (hl : l.length ≤ 1000000) {to : Inc} {ws : List (BitVec 64)} (hw : ws.length ≤ 1000000) (h : Chk s l to) {Q : (Sp × Inc × List (Int × Int) × List (BitVec 64) × Int) → Prop}
    (hq : ∀ m, MaskC (seqs l) s.2.2 m → ∃ b, loopO (L2 ws) (0, (s, m, to, []), ws) = some b ∧ Q b) : ∃ b, Fevacuate_Copy s l to ws = some b ∧ Q b := by
  have hwl := VS.wlen h.vs
  have hn := h.vs.n.2
  unfold Fevacuate_Copy
  rcases check_ok hI hl to with ⟨_, h1⟩ | ⟨h1, _⟩
  rotate_left
  · exact absurd h h1
  obtain ⟨w, w1, w2⟩ := sFrames_ok hn (l := l) (by omega)
  rw [h1, Option.bind_some, if_neg (not_not_intro rfl), cCopy_ok (by omega) (by omega), Option.bind_some, w1, Option.bind_some]
  have hb : ∀ k, k < (bitsL w).length → ∃ j, j < 64 ∧ (bitsL w)[k]? = some j ∧ gl (0 : Int) ((bitsL w).map fun k : Nat => (k : Int)) k = (j : Int) := by
    intro k hk
    have h2 : (bitsL w)[k] ∈ bitsL w := List.getElem_mem hk
    refine ⟨(bitsL w)[k], (bits_mem.1 h2).1, List.getElem?_eq_getElem hk, ?_⟩
    rw [gl_lt (by rw [List.length_map]; exact hk), List.getElem_map]
  refine loopO_up (fun k (st : Int × Cp) => st.1 = (k : Int) ∧ ∃ acc, st.2 = (s, acc, to, []) ∧ ∀ j, j < 64 → acc.getLsbD j = decide (j ∈ (bitsL w).take k)) Q (bitsL w).length ?_ ?_ ⟨rfl, _, rfl, fun j hj => by simp⟩
  · rintro k ⟨i, st⟩ hk ⟨g1, acc, rfl, g2⟩
    simp only at g1 ⊢
    subst g1
    obtain ⟨j, j1, j2, j3⟩ := hb k hk
    have hbl := bitsL_len w
    rw [List.length_map, if_pos (by omega), if_pos (by omega), if_pos trivial, Int.toNat_natCast, j3, idx_toNat (by omega) (by omega), Int.toNat_natCast, w64_id (e := (k : Int) + 1) (by omega) (by omega)]
    refine .inl ⟨_, rfl, by simp only; omega, _, rfl, fun q hq => ?_⟩
    rw [bit_set _ _ j1, g2 q hq, List.take_add_one, j2, ← Bool.decide_or, decide_eq_decide, List.mem_append]
    simp [eq_comm]
  · rintro ⟨i, st⟩ ⟨g1, acc, rfl, g2⟩
    simp only at g1 ⊢
    subst g1
    rw [List.length_map, if_neg (by omega)]
    refine map_inr ?_
    have hcw : Fclone_Words ws = some ws := by
      unfold Fclone_Words
      rw [if_pos (by simp only [List.length_nil]; omega)]; rfl
    rw [hcw, Option.bind_some]
    refine hq acc fun j hj => ?_
    have hbj : decide (j ∈ bitsL w) = w.getLsbD j := by
      rw [Bool.eq_iff_iff, decide_eq_true_iff, bits_mem]
      exact ⟨fun h => h.2, fun h => ⟨hj, h⟩⟩
    rw [g2 j hj, ← w2 j hj, List.take_length, hbj]

theorem gl_ne {α : Type} {d x : α} {xs : List α} {j k : Nat} (h : k ≠ j) : gl d (xs.set j x) k = gl d xs k := by
  by_cases hj : j < xs.length
  · rw [gl_set hj, if_neg h]
  · rw [List.set_eq_of_length_le (by omega)]
theorem cpy_other {z : Int} {la : List Int} {oa : Int} {lb : List Int} {ob j : Int} (j0 : 0 ≤ j) : ∀ {k : Nat} {ws : List (BitVec 64)}, (∀ i : Nat, i < k → ∃ y, adl z lb (ob + i) = some y ∧ 0 ≤ y ∧ y ≠ j) → gl 0#64 (cpy z la oa lb ob k ws) j.toNat = gl 0#64 ws j.toNat
  | 0, _, _ => rfl
  | k + 1, ws, h => by
    obtain ⟨y, h1, h2, h3⟩ := h k (by omega)
    simp only [cpy]
    rw [h1, gl_ne (by show j.toNat ≠ y.toNat; omega), cpy_other j0 fun i hi => h i (by omega)]
theorem cpy_in {z : Int} (hz : 0 < z) {la : List Int} {oa : Int} {lb : List Int} {ob : Int} (hnd : lb.Nodup) (ob0 : 0 ≤ ob) : ∀ {k : Nat} {ws : List (BitVec 64)}, (∀ i : Nat, i < k → ∃ y x, adl z lb (ob + i) = some y ∧ (0 ≤ y ∧ y < ws.length) ∧ adl z la (oa + i) = some x ∧ 0 ≤ x ∧ ∀ i' : Nat, i' < k → adl z lb (ob + i') ≠ some x) →
    ∀ i : Nat, i < k → ∀ y x, adl z lb (ob + i) = some y → adl z la (oa + i) = some x → gl 0#64 (cpy z la oa lb ob k ws) y.toNat = gl 0#64 ws x.toNat
  | 0, _, _, i, hi, _, _, _, _ => by omega
  | k + 1, ws, h, i, hi, y, x, hy, hx => by
    obtain ⟨y', x', h1, ⟨h2, h3⟩, h4, h5, h6⟩ := h k (by omega)
    simp only [cpy]
    rw [h1, h4, show adlN (some y') = y' from rfl, show adlN (some x') = x' from rfl]
    by_cases hik : i = k
    · subst hik
      rw [h1] at hy; rw [h4] at hx
      obtain rfl := Option.some.inj hy
      obtain rfl := Option.some.inj hx
      rw [gl_set (by rw [cpy_len]; omega), if_pos rfl]
      refine cpy_other h5 fun i' hi' => ?_
      obtain ⟨y2, x2, g1, ⟨g2, g3⟩, g4, g5, g6⟩ := h i' (by omega)
      exact ⟨y2, g1, g2, fun he => h6 i' (by omega) (he ▸ g1)⟩
    · obtain ⟨y2, x2, g1, ⟨g2, g3⟩, g4, g5, g6⟩ := h i hi
      rw [hy] at g1
      obtain rfl := Option.some.inj g1
      have hne : y ≠ y' := by
        intro he
        subst he
        have := adl_inj hz hnd (by omega) (by omega) hy h1
        omega
      rw [gl_ne (by omega)]
      refine cpy_in hz hnd ob0 (fun i' hi' => ?_) i (by omega) y x hy hx
      obtain ⟨y3, x3, k1, k2, k3, k4, k5⟩ := h i' (by omega)
      exact ⟨y3, x3, k1, k2, k3, k4, fun i'' hi'' => k5 i'' (by omega)⟩
/-- The words after an object has been moved. -/
theorem moved_words {C : List Int} {s : Sp} {to : Inc} (hc : Cy C s to) {x : BitVec 64} (hw : Wn C s x) {r d : Int} (hh : hd (hwd s x) = some (r, d)) {la : List Int} (hl : Pa s.2.2 (((x.toNat : Int) - 1) / sz s.1) la) {e : Int} (ha : adl (sz s.1) la (((x.toNat : Int) - 1) % sz s.1 + (r + d)) = some e)
    {u : Sp} {to' : Inc} {b : Int} {l l' : List Int} (hg : Grown s to (1 + r + d) u to' b l l') {ws : List (BitVec 64)} (hws : ws = (cpy (sz s.1) la (((x.toNat : Int) - 1) % sz s.1) l' to.2.2.2.2 (1 + r + d).toNat s.2.1).set ((x.toNat : Int) - 1).toNat (fwd b)) :
    (∀ j : Int, 0 ≤ j → j ≠ (x.toNat : Int) - 1 → (∀ i, 0 ≤ i → i < 1 + r + d → adl (sz s.1) l' (to.2.2.2.2 + i) ≠ some j) → gl 0#64 ws j.toNat = gl 0#64 s.2.1 j.toNat) ∧
    (∀ i, 0 ≤ i → i < 1 + r + d → ∀ y q, adl (sz s.1) l' (to.2.2.2.2 + i) = some y → adl (sz s.1) la (((x.toNat : Int) - 1) % sz s.1 + i) = some q → gl 0#64 ws y.toNat = gl 0#64 s.2.1 q.toNat) ∧
    gl 0#64 ws ((x.toNat : Int) - 1).toNat = fwd b ∧
    (∀ y i, adl (sz s.1) l' i = some y → 0 ≤ i → (fr s.2.2 (y / sz s.1)).1 ∉ C) := by
  have z := sz_pos' s.1
  have hto := hc.fit.1
  obtain ⟨x0, x1, x2⟩ := id hw
  have e2 := (sub1_nat x0).2
  obtain ⟨⟨r0, r1⟩, d0, d1⟩ := hd_rng hh
  simp only at r0 r1 d0 d1
  generalize hA : (x.toNat : Int) - 1 = A at *
  have hq := hc.nn _ x2
  have hne : (fr s.2.2 (A / sz s.1)).1 ≠ to.1 := fun he => hc.out (he ▸ x2)
  obtain ⟨pu, pfr⟩ := hg.keepC hc.vs hl hq hne
  have hin := hg.in_l hto.2.2.2.2.1 (by omega)
  have hvu : VS (s.1, s.2.1, u.2.2) := by have := hg.vs; rw [← hg.sh, ← hg.ws]; exact this
  have m0 := Int.emod_nonneg A (show sz s.1 ≠ 0 by omega)
  -- a place of the new chain is no condemned one
  have hout : ∀ y i, adl (sz s.1) l' i = some y → 0 ≤ i → (fr s.2.2 (y / sz s.1)).1 ∉ C := by
    intro y i hy i0 hC
    obtain ⟨_, hm⟩ := adl_rng hvu hg.path i0 hy
    simp only at hm
    have h1 := hin _ hm
    obtain ⟨f0, f1⟩ := hg.path.mem hm
    rw [hg.len] at f1
    have h3 := hc.nn _ hC
    by_cases h4 : (fr s.2.2 (y / sz s.1)).1 = to.1
    · exact hc.out (h4 ▸ hC)
    · have := hg.frs _ f0 f1 (by omega) h4
      rw [this] at h1; exact h4 h1
  have hla : ∀ q i, adl (sz s.1) la i = some q → 0 ≤ i → (fr s.2.2 (q / sz s.1)).1 ∈ C ∧ 0 ≤ q := by
    intro q i hy i0
    obtain ⟨hr, hm⟩ := adl_rng hc.vs hl i0 hy
    rw [(hc.vs.owner hl _ hm).1]; exact ⟨x2, hr.1⟩
  have hplace : ∀ i : Nat, (i : Int) < 1 + r + d → ∃ y, adl (sz s.1) l' (to.2.2.2.2 + i) = some y ∧ 0 ≤ y ∧ y < s.2.1.length := by
    intro i hi
    obtain ⟨y, hy⟩ := hg.all_in hto.2.2.2.2.1 (by omega) (k := (i : Int)) (by omega) hi
    obtain ⟨⟨y0, y1⟩, _⟩ := adl_rng hvu hg.path (by omega) hy
    exact ⟨y, hy, y0, y1⟩
  have hnd := hg.path.nodup
  have hAC : ∀ i, 0 ≤ i → adl (sz s.1) l' i ≠ some A := fun i i0 hi => hout _ _ hi i0 x2
  subst hws
  refine ⟨fun j j0 j1 j2 => ?_, fun i i0 i1 y q hy hq' => ?_, ?_, hout⟩
  · rw [gl_ne (by omega)]
    refine cpy_other j0 fun i hi => ?_
    obtain ⟨y, g1, g2, g3⟩ := hplace i (by omega)
    exact ⟨y, g1, g2, fun he => j2 i (by omega) (by omega) (he ▸ g1)⟩
  · have hyA : y ≠ A := fun he => hAC _ (by omega) (he ▸ hy)
    obtain ⟨⟨y0, y1⟩, _⟩ := adl_rng hvu hg.path (by omega) hy
    rw [gl_ne (by omega)]
    have hi : ((i.toNat : Nat) : Int) = i := by omega
    refine cpy_in z hnd hto.2.2.2.2.1 (fun i' hi' => ?_) i.toNat (by omega) y q (by rw [hi]; exact hy) (by rw [hi]; exact hq')
    obtain ⟨y', g1, g2, g3⟩ := hplace i' (by omega)
    obtain ⟨q', k1⟩ := adl_less z ha (p := A % sz s.1 + i') (by omega) (by omega)
    obtain ⟨k2, k3⟩ := hla _ _ k1 (by omega)
    exact ⟨y', q', g1, ⟨g2, g3⟩, k1, k3, fun i'' _ he => hout _ _ he (by omega) k2⟩
  · rw [gl_set (by rw [cpy_len]; omega), if_pos rfl]
end Go.Proofs.YtokeceeccmgcmaaDoor
