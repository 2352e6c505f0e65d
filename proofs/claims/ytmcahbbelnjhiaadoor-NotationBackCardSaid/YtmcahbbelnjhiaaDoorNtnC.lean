/-
  What the program reads from a text.
-/
import Derived.Test.YtmcahbbelnjhiaaDoorNtnB
import Derived.Test.YtmcahbbelnjhiaaDoorCfgO
set_option linter.unusedVariables false
set_option linter.unusedSimpArgs false
namespace Go.Proofs.YtmcahbbelnjhiaaDoor
open Go Go.V3

theorem pc_ok {p : Int} (h0 : 0 ≤ p) (h1 : p ≤ 100) : fArith .quo (fOfInt p) 4636737291354636288 = some (pc p) := by
  obtain ⟨w, h, _⟩ := pct h0 h1
  unfold pc
  rw [h]; rfl
theorem sPerc_ok {p : Int} (h0 : 0 ≤ p) (h1 : p ≤ 100) : Fshare_Percent p = some (pc p, 0) := by
  unfold Fshare_Percent
  rw [if_neg (by omega), if_neg (by omega), pc_ok h0 h1, if_pos (show (some (pc p)).isSome = true from rfl)]; rfl
theorem rPerc_ok {p : Int} (h0 : 0 ≤ p) (h1 : p ≤ 100) : Fbeltwayref06_Percent p = some (pc p, 0) := by
  unfold Fbeltwayref06_Percent
  rw [if_neg (by omega), if_neg (by omega), pc_ok h0 h1, if_pos (show (some (pc p)).isSome = true from rfl)]; rfl
theorem pc_vv {p : Int} (h0 : 1 ≤ p) (h1 : p ≤ 100) : VV (pc p) := by
  obtain ⟨w, h, h2, h3⟩ := perc_ok h0 h1
  rw [rPerc_ok (by omega) h1] at h
  cases h
  exact .inr ⟨h2, h3⟩

theorem pPart {a : ByteArray × Int} {s : ByteArray} {l : By} (h : Pos a s l) (hs : s.size ≤ 1024) :
    (∃ x r a', gpt l = some (x, r) ∧ Fnotation_reader_part a 0 = some (true, a', x) ∧ Pos a' s r) ∨ (gpt l = none ∧ ∃ a' y, Fnotation_reader_part a 0 = some (false, a', y)) := by
  unfold Fnotation_reader_part gpt
  rcases pWord (t := ⟨#[97, 108, 108]⟩) h hs (by decide) with ⟨r, a', e, hw, hp⟩ | ⟨e, hw⟩
  · have e' : tok tAll l = some r := e
    left
    rw [e', hw]
    exact ⟨0, r, a', rfl, rfl, hp⟩
  · have e' : tok tAll l = none := e
    rw [e', hw]
    simp only [Option.bind_some, Bool.false_eq_true, if_false]
    rcases pNum (x := 0) h hs with ⟨v, r, a', e2, hn, hp⟩ | ⟨e2, a', hn⟩
    · rw [e2, hn]
      simp only [Option.bind_some, Bool.not_true, Bool.false_eq_true, if_false]
      rcases pWord (t := ⟨#[37]⟩) hp hs (by decide) with ⟨r3, a3, e3, hw3, hp3⟩ | ⟨e3, hw3⟩
      · have e3' : tok [37] r = some r3 := e3
        rw [e3', hw3]
        simp only [Option.bind_some, Bool.not_true, Bool.false_eq_true, if_false]
        by_cases c1 : v < 1
        · right
          rw [if_pos c1, if_neg (by omega)]
          exact ⟨rfl, _, _, rfl⟩
        rw [if_neg c1]
        by_cases c2 : v > 100
        · right
          rw [if_pos c2, if_neg (by omega)]
          exact ⟨rfl, _, _, rfl⟩
        left
        rw [if_neg c2, if_pos (by omega), sPerc_ok (by omega) (by omega), Option.bind_some]
        exact ⟨_, _, _, rfl, rfl, hp3⟩
      · have e3' : tok [37] r = none := e3
        right
        rw [e3', hw3]
        simp only [Option.bind_some, Bool.not_false, if_true]
        exact ⟨rfl, _, _, rfl⟩
    · right
      rw [e2, hn]
      simp only [Option.bind_some, Bool.not_false, if_true]
      exact ⟨rfl, _, _, rfl⟩

theorem pRule {a : ByteArray × Int} {s : ByteArray} {l : By} (h : Pos a s l) (hs : s.size ≤ 1024) :
    (∃ x r a', rule l = some (x, r) ∧ Fnotation_reader_rule a (0, 0, 0, 0) = some (true, a', x) ∧ Pos a' s r) ∨ (rule l = none ∧ ∃ a' y, Fnotation_reader_rule a (0, 0, 0, 0) = some (false, a', y)) := by
  unfold Fnotation_reader_rule rule
  rcases pPart h hs with ⟨x1, r1, a1, e1, f1, h1⟩ | ⟨e1, a1, y1, f1⟩
  rotate_left
  · right; rw [e1, f1]; exact ⟨rfl, _, _, rfl⟩
  rw [e1, f1]
  simp only [Option.bind_some, if_true]
  rcases pWord (t := ⟨#[47]⟩) h1 hs (by decide) with ⟨r2, a2, e2, f2, h2⟩ | ⟨e2, f2⟩
  rotate_left
  · right; rw [show tok [47] r1 = none from e2, f2]; exact ⟨rfl, _, _, rfl⟩
  rw [show tok [47] r1 = some r2 from e2, f2]
  simp only [Option.bind_some, if_true]
  rcases pNum (x := 0) h2 hs with ⟨x3, r3, a3, e3, f3, h3⟩ | ⟨e3, a3, f3⟩
  rotate_left
  · right; rw [e3, f3]; exact ⟨rfl, _, _, rfl⟩
  rw [e3, f3]
  simp only [Option.bind_some, if_true]
  rcases pWord (t := ⟨#[47]⟩) h3 hs (by decide) with ⟨r4, a4, e4, f4, h4⟩ | ⟨e4, f4⟩
  rotate_left
  · right; rw [show tok [47] r3 = none from e4, f4]; exact ⟨rfl, _, _, rfl⟩
  rw [show tok [47] r3 = some r4 from e4, f4]
  simp only [Option.bind_some, if_true]
  rcases pNum (x := 0) h4 hs with ⟨x5, r5, a5, e5, f5, h5⟩ | ⟨e5, a5, f5⟩
  rotate_left
  · right; rw [e5, f5]; exact ⟨rfl, _, _, rfl⟩
  rw [e5, f5]
  simp only [Option.bind_some, if_true]
  rcases pWord (t := ⟨#[62]⟩) h5 hs (by decide) with ⟨r6, a6, e6, f6, h6⟩ | ⟨e6, f6⟩
  rotate_left
  · right; rw [show tok [62] r5 = none from e6, f6]; exact ⟨rfl, _, _, rfl⟩
  rw [show tok [62] r5 = some r6 from e6, f6]
  simp only [Option.bind_some, if_true]
  rcases pNum (x := 0) h6 hs with ⟨x7, r7, a7, e7, f7, h7⟩ | ⟨e7, a7, f7⟩
  rotate_left
  · right; rw [e7, f7]; exact ⟨rfl, _, _, rfl⟩
  rw [e7, f7]
  left
  exact ⟨_, _, _, rfl, rfl, h7⟩

theorem pName {a : ByteArray × Int} {s : ByteArray} {l : By} {x : ByteArray} (h : Pos a s l) (hs : s.size ≤ 1024) :
    ∃ a', Fnotation_reader_name a x = some (decide (¬ ((l.takeWhile nmc).length < 1 ∨ 16 < (l.takeWhile nmc).length)), a', ⟨(l.takeWhile nmc).toArray⟩) ∧ Pos a' s (l.dropWhile nmc) := by
  have hl := h.len
  have hn := tw_le nmc l
  have hg := h.go hn
  have hc := h.cut hn
  rw [← tw_take] at hc
  have hget := h.get
  obtain ⟨rfl, h0, h1, h2⟩ := h
  obtain ⟨s, a⟩ := a
  dsimp only at *
  have hsz : (s.extract a.toNat (a + ((l.takeWhile nmc).length : Int)).toNat).size = (l.takeWhile nmc).length := by rw [← bl_len, hc]
  have hx : s.extract a.toNat (a + ((l.takeWhile nmc).length : Int)).toNat = ⟨(l.takeWhile nmc).toArray⟩ := bl_inj (by rw [hc, bl_mk])
  refine ⟨(s, a + ((l.takeWhile nmc).length : Int)), ?_, by rw [dw_drop]; exact hg⟩
  have key : (if Bd (some a) (some (a + ((l.takeWhile nmc).length : Int))) (a + ((l.takeWhile nmc).length : Int)).toNat s.size then
if ((s.extract a.toNat (a + ((l.takeWhile nmc).length : Int)).toNat).size : Int) ≥ 1 then
some ((decide (((s.extract a.toNat (a + ((l.takeWhile nmc).length : Int)).toNat).size : Int) ≤ 16), (s, a + ((l.takeWhile nmc).length : Int)), s.extract a.toNat (a + ((l.takeWhile nmc).length : Int)).toNat))
else some ((false, (s, a + ((l.takeWhile nmc).length : Int)), s.extract a.toNat (a + ((l.takeWhile nmc).length : Int)).toNat))
else none) = some (decide (¬ ((l.takeWhile nmc).length < 1 ∨ 16 < (l.takeWhile nmc).length)), (s, a + ((l.takeWhile nmc).length : Int)), ⟨(l.takeWhile nmc).toArray⟩) := by
    rw [if_pos (show Bd (some a) (some (a + ((l.takeWhile nmc).length : Int))) _ _ from ⟨⟨by omega, by omega⟩, by omega, by omega⟩)]
    rw [hsz, hx]
    by_cases c1 : (l.takeWhile nmc).length < 1
    · rw [if_neg (by omega)]
      congr 2
      symm
      rw [decide_eq_false_iff_not]
      exact not_not_intro (.inl c1)
    · rw [if_pos (by omega)]
      congr 2
      rw [decide_eq_decide]
      omega
  unfold Fnotation_reader_name
  refine scan_ok (l.takeWhile nmc).length ?_ ?_
  · intro k hk
    have hd := tw_in nmc l hk
    simp only [nmc, decide_eq_true_eq] at hd
    have hgk := hget k
    dsimp only
    rw [hgk, if_pos (by omega), if_pos (by omega)]
    have fin : some (Sum.inl ((s, w64 (a + (k : Int) + 1)) : ByteArray × Int)) = (some (Sum.inl (s, a + (k : Int) + 1)) : Option ((ByteArray × Int) ⊕ (Bool × (ByteArray × Int) × ByteArray))) := by rw [w64_id (by omega) (by omega)]
    rcases hd with hd | hd | hd
    · rw [if_neg (by omega), if_neg (by omega)]; exact fin
    · rw [if_pos (by omega), if_neg (by omega), if_neg (by omega)]; exact fin
    · rw [if_pos (by omega), if_pos (by omega), if_neg (by omega)]; exact fin
  · dsimp only
    by_cases c : (l.takeWhile nmc).length < l.length
    · have hd := tw_out nmc l c
      have hgk := hget (l.takeWhile nmc).length
      rw [if_pos (by omega), if_pos (by omega)]
      simp only [nmc, decide_eq_false_iff_not] at hd
      rw [key]
      by_cases c1 : sget s (a + ((l.takeWhile nmc).length : Int)).toNat < 97
      · rw [if_pos c1]
        by_cases c2 : sget s (a + ((l.takeWhile nmc).length : Int)).toNat < 48
        · rw [if_pos c2, if_pos (by omega)]; rfl
        · rw [if_neg c2, if_pos (by omega), if_pos (by omega)]; rfl
      · rw [if_neg c1, if_pos (by omega), if_neg (by omega), if_pos (by omega), if_pos (by omega)]; rfl
    · rw [if_neg (by omega), key]; rfl

/-! Rules. -/
theorem gpt_vv {l r : By} {x : Nat} (h : gpt l = some (x, r)) : VV x := by
  unfold gpt at h
  split at h
  · cases h; exact .inl rfl
  · obtain ⟨⟨v, r1⟩, e1, h⟩ := Option.bind_eq_some_iff.mp h
    obtain ⟨r2, e2, h⟩ := Option.bind_eq_some_iff.mp h
    split at h
    · rename_i hv
      cases h
      exact pc_vv hv.1 hv.2
    · cases h
/-- What is known of a rule that was read. -/
def RuOk (x : Ru) : Prop := VV x.1 ∧ (0 ≤ x.2.1 ∧ x.2.1 < 10000) ∧ (0 ≤ x.2.2.1 ∧ x.2.2.1 < 10000) ∧ (0 ≤ x.2.2.2 ∧ x.2.2.2 < 10000)
theorem rule_vv {l r : By} {x : Ru} (h : rule l = some (x, r)) : RuOk x := by
  unfold rule at h
  obtain ⟨⟨a, r0⟩, e0, h⟩ := Option.bind_eq_some_iff.mp h
  obtain ⟨r1, e1, h⟩ := Option.bind_eq_some_iff.mp h
  obtain ⟨⟨b, r2⟩, e2, h⟩ := Option.bind_eq_some_iff.mp h
  obtain ⟨r3, e3, h⟩ := Option.bind_eq_some_iff.mp h
  obtain ⟨⟨c, r4⟩, e4, h⟩ := Option.bind_eq_some_iff.mp h
  obtain ⟨r5, e5, h⟩ := Option.bind_eq_some_iff.mp h
  obtain ⟨⟨d, r6⟩, e6, h⟩ := Option.bind_eq_some_iff.mp h
  cases h
  exact ⟨gpt_vv e0, num_val e2, num_val e4, num_val e6⟩
theorem rules_ok : ∀ (n : Nat) {l : By} {rs : List Ru}, rules n l = some rs → rs.length * 2 ≤ l.length ∧ ∀ x ∈ rs, RuOk x
  | 0, l, rs, h => by cases h
  | n + 1, l, rs, h => by
    rw [rules] at h
    obtain ⟨⟨x, r⟩, e, h⟩ := Option.bind_eq_some_iff.mp h
    have h1 := rule_len e
    have h2 := rule_vv e
    by_cases c : r = []
    · rw [if_pos c] at h
      cases h
      refine ⟨by rw [List.length_singleton]; omega, fun y hy => ?_⟩
      rw [List.mem_singleton] at hy
      rw [hy]; exact h2
    · rw [if_neg c] at h
      obtain ⟨r', e', h⟩ := Option.bind_eq_some_iff.mp h
      obtain ⟨rs', e2, h⟩ := Option.map_eq_some_iff.mp h
      subst h
      obtain ⟨h3, h4⟩ := rules_ok n e2
      have h5 := tok_len e'
      simp only [List.length_cons, List.length_nil] at h5
      refine ⟨by rw [List.length_cons]; omega, fun y hy => ?_⟩
      rcases List.mem_cons.mp hy with rfl | hy
      · exact h2
      · exact h4 y hy
theorem rules_map {n : Nat} {r : By} {x : Ru} {acc : List Ru} : ((rules n r).map (x :: ·)).map (acc ++ ·) = (rules n r).map ((acc ++ [x]) ++ ·) := by
  rw [Option.map_map]
  congr 1
  funext ys
  simp
theorem pRules {s : ByteArray} {nm : ByteArray} {full : Int} (hs : s.size ≤ 1024) {a : ByteArray × Int} {l : By} (h : Pos a s l) :
    ∃ b, loopO (σ := ((ByteArray × Int) × (ByteArray × (List (Nat × Int × Int × Int)) × Int))) (β := (Bool × (ByteArray × Int) × (ByteArray × (List (Nat × Int × Int × Int)) × Int))) (fun s1 =>
Option.bind (Fnotation_reader_rule s1.1 (0, 0, 0, 0)) (fun r5 =>
if (!r5.1) = true then
some (Sum.inr ((false, r5.2.1, s1.2)))
else if (s1.2.2.1.length + ([r5.2.2] : List (Nat × Int × Int × Int)).length) * 32 ≤ 140737488355328 then
Option.bind (Fnotation_reader_word r5.2.1 (⟨#[44, 32]⟩ : ByteArray)) (fun r6 =>
if (!r6.1) = true then
some (Sum.inr ((decide (r6.2.2 = (r6.2.1.size : Int)), r6.2, (s1.2.1, s1.2.2.1 ++ ([r5.2.2] : List (Nat × Int × Int × Int)), s1.2.2.2))))
else some (Sum.inl ((r6.2, (s1.2.1, s1.2.2.1 ++ ([r5.2.2] : List (Nat × Int × Int × Int)), s1.2.2.2)))))
else none)) (a, (nm, [], full)) = some b ∧ ((b.1 = true ∧ ∃ rs, rules 1025 l = some rs ∧ b.2.2 = (nm, rs, full)) ∨ (b.1 = false ∧ rules 1025 l = none)) := by
  refine loopO_ind (fun m st => ∃ l' acc n, Pos st.1 s l' ∧ st.2 = (nm, acc, full) ∧ l'.length < n ∧ (rules n l').map (acc ++ ·) = rules 1025 l ∧ acc.length + l'.length ≤ 1024 ∧ m = l'.length) _ ?_ l.length _ ⟨l, [], 1025, h, rfl, ?_, ?_, ?_, rfl⟩
  · rintro m ⟨a, c⟩ ⟨l', acc, n, hp, hc, hn, hE, hb, rfl⟩
    dsimp only at hp hc
    subst hc
    obtain ⟨n, rfl⟩ : ∃ k, n = k + 1 := ⟨n - 1, by omega⟩
    rw [rules] at hE
    rcases pRule hp hs with ⟨x, r, a', e, f, hp'⟩ | ⟨e, a', y, f⟩
    · have hlen := rule_len e
      rw [e, Option.bind_some] at hE
      dsimp only at hE
      dsimp only
      rw [f, Option.bind_some]
      dsimp only
      rw [if_neg (by decide), if_pos (by rw [List.length_singleton]; omega)]
      rcases pWord (t := ⟨#[44, 32]⟩) hp' hs (by decide) with ⟨r2, a2, e2, f2, hp2⟩ | ⟨e2, f2⟩
      · have e2' : tok [44, 32] r = some r2 := e2
        have hl2 := tok_len e2'
        simp only [List.length_cons, List.length_nil] at hl2
        have hr : r ≠ [] := by rintro rfl; simp at hl2
        rw [if_neg hr, e2', Option.bind_some, rules_map] at hE
        right
        rw [f2, Option.bind_some]
        exact ⟨r2.length, _, by omega, rfl, r2, acc ++ [x], n, hp2, rfl, by omega, hE, by rw [List.length_append, List.length_singleton]; omega, rfl⟩
      · have e2' : tok [44, 32] r = none := e2
        left
        rw [f2, Option.bind_some]
        refine ⟨_, rfl, ?_⟩
        have hlr := hp'.len
        have ha1 : a'.1 = s := hp'.1
        have ha2 := hp'.2.1
        by_cases hr : r = []
        · left
          rw [if_pos hr] at hE
          subst hr
          refine ⟨?_, acc ++ [x], ?_, rfl⟩
          · rw [decide_eq_true_eq]
            dsimp only
            rw [ha1]
            simp only [List.length_nil] at hlr
            omega
          · rw [← hE]; rfl
        · right
          rw [if_neg hr, e2'] at hE
          refine ⟨?_, by rw [← hE]; rfl⟩
          rw [decide_eq_false_iff_not]
          dsimp only
          rw [ha1]
          have : 0 < r.length := List.length_pos_iff.mpr hr
          omega
    · left
      rw [e] at hE
      dsimp only
      rw [f, Option.bind_some]
      exact ⟨_, rfl, .inr ⟨rfl, by rw [← hE]; rfl⟩⟩
  · have := h.len
    have := h.2.1
    omega
  · simp
  · have := h.len
    have := h.2.1
    simp only [List.length_nil]
    omega
theorem pConfig (s : ByteArray) (hs : s.size ≤ 1024) : ∃ b a' c, Fnotation_reader_config (s, 0) ((⟨#[]⟩ : ByteArray), [], 0) = some (b, a', c) ∧ ((b = true ∧ says (bl s) = some c) ∨ (b = false ∧ says (bl s) = none)) := by
  have h0 : Pos (s, 0) s (bl s) := ⟨rfl, Int.le_refl 0, by dsimp only; omega, rfl⟩
  obtain ⟨a1, f1, h1⟩ := pName (x := (⟨#[]⟩ : ByteArray)) h0 hs
  unfold Fnotation_reader_config says
  rw [f1, Option.bind_some]
  dsimp only
  by_cases c : (((bl s).takeWhile nmc).length < 1 ∨ 16 < ((bl s).takeWhile nmc).length)
  · rw [decide_eq_false (not_not_intro c), if_pos (show (!false) = true from rfl), if_pos c]
    exact ⟨_, _, _, rfl, .inr ⟨rfl, rfl⟩⟩
  rw [decide_eq_true c, if_neg (show ¬ (!true) = true by decide), if_neg c]
  rcases pWord (t := ⟨#[32, 102, 117, 108, 108, 32]⟩) h1 hs (by decide) with ⟨r2, a2, e2, f2, h2⟩ | ⟨e2, f2⟩
  rotate_left
  · rw [show tok tFull _ = none from e2, f2]
    exact ⟨_, _, _, rfl, .inr ⟨rfl, rfl⟩⟩
  rw [show tok tFull _ = some r2 from e2, f2]
  simp only [Option.bind_some, Bool.not_true, Bool.false_eq_true, if_false]
  rcases pNum (x := 0) h2 hs with ⟨x3, r3, a3, e3, f3, h3⟩ | ⟨e3, a3, f3⟩
  rotate_left
  · rw [e3, f3]; exact ⟨_, _, _, rfl, .inr ⟨rfl, rfl⟩⟩
  rw [e3, f3]
  simp only [Option.bind_some, Bool.not_true, Bool.false_eq_true, if_false]
  rcases pWord (t := ⟨#[58, 32]⟩) h3 hs (by decide) with ⟨r4, a4, e4, f4, h4⟩ | ⟨e4, f4⟩
  rotate_left
  · rw [show tok [58, 32] r3 = none from e4, f4]; exact ⟨_, _, _, rfl, .inr ⟨rfl, rfl⟩⟩
  rw [show tok [58, 32] r3 = some r4 from e4, f4]
  simp only [Option.bind_some, Bool.not_true, Bool.false_eq_true, if_false]
  obtain ⟨⟨b, a5, c5⟩, f5, h5⟩ := pRules (nm := ⟨((bl s).takeWhile nmc).toArray⟩) (full := x3) hs h4
  refine ⟨b, a5, c5, f5, ?_⟩
  rcases h5 with ⟨hb, rs, e5, hc⟩ | ⟨hb, e5⟩
  · left
    refine ⟨hb, ?_⟩
    rw [e5]
    exact congrArg some hc.symm
  · right
    exact ⟨hb, by rw [e5]; rfl⟩
theorem says_ok {l : By} {c : Cf} (hl : l.length ≤ 1024) (h : says l = some c) : c.1 = ⟨(l.takeWhile nmc).toArray⟩ ∧ 1 ≤ (l.takeWhile nmc).length ∧ (l.takeWhile nmc).length ≤ 16 ∧ c.2.1.length ≤ 1000 ∧ (∀ x ∈ c.2.1, RuOk x) ∧ 0 ≤ c.2.2 ∧ c.2.2 < 10000 := by
  unfold says at h
  split at h
  · cases h
  rename_i hc
  obtain ⟨l1, e1, h⟩ := Option.bind_eq_some_iff.mp h
  obtain ⟨⟨v, l2⟩, e2, h⟩ := Option.bind_eq_some_iff.mp h
  obtain ⟨l3, e3, h⟩ := Option.bind_eq_some_iff.mp h
  obtain ⟨rs, e4, h⟩ := Option.map_eq_some_iff.mp h
  subst h
  have h1 := tok_len e1
  have h2 := num_len e2
  have h3 := tok_len e3
  obtain ⟨h4, h5⟩ := rules_ok _ e4
  rw [dw_drop, List.length_drop] at h1
  dsimp only at h3
  exact ⟨rfl, by omega, by omega, by dsimp only; omega, h5, num_val e2⟩
theorem sh_of {c : Cf} (h : ∀ x ∈ c.2.1, VV x.1) : Sh c := by
  intro b h0 h1
  have hv := h (ru c b) (by unfold ru; exact gl_mem (by omega))
  rcases hv with hv | ⟨_, hv⟩
  · rw [hv]; decide
  · omega
def zc : Cf := ((⟨#[]⟩ : ByteArray), [], 0)
/-- What becomes of a text. -/
noncomputable def parse (s : ByteArray) : Cf × Int :=
  if 1024 < s.size then (zc, 9) else match says (bl s) with
    | none => (zc, 11)
    | some c => if chk c = 0 then (c, 0) else (zc, chk c)
theorem Parse_ok (s : ByteArray) : Fnotation_Parse s = some (parse s) := by
  unfold Fnotation_Parse parse
  by_cases h : 1024 < s.size
  · rw [if_pos (by omega), if_pos h]; rfl
  rw [if_neg (by omega), if_neg h]
  obtain ⟨b, a', c, f, hb⟩ := pConfig s (by omega)
  rw [f, Option.bind_some]
  rcases hb with ⟨rfl, e⟩ | ⟨rfl, e⟩
  · rw [e]
    obtain ⟨_, _, _, h1, h2, _⟩ := says_ok (by rw [bl_len]; omega) e
    dsimp only
    rw [if_neg (by decide), check_ok h1 (sh_of fun x hx => (h2 x hx).1), Option.bind_some]
    by_cases hc : chk c = 0
    · rw [if_neg (not_not_intro hc), if_pos hc]
    · rw [if_pos hc, if_neg hc]; rfl
  · rw [e]; rfl
end Go.Proofs.YtmcahbbelnjhiaaDoor
