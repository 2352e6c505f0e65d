/-
  Laws of package config: the configurations that are made are valid.
-/
import Derived.Test.YtmcahbbelnjhiaaDoorCfgL
set_option linter.unusedVariables false
namespace Go.Proofs.YtmcahbbelnjhiaaDoor
open Go Go.V3

def DkOk (d : List Int × Int) : Prop := 0 ≤ d.2 ∧ (d.1.length : Int) ≤ 9223372036854775807
theorem Next_ok {d : List Int × Int} (h : DkOk d) {n : Int} (h0 : 0 < n) (h1 : n ≤ 4611686018427387904) : ∃ r d', Fbeltwaymake_Deck_Next d n = some (r, d') ∧ 0 ≤ r ∧ r < n ∧ DkOk d' := by
  unfold Fbeltwaymake_Deck_Next
  obtain ⟨h2, h3⟩ := h
  by_cases hc : d.2 ≥ d.1.length
  · rw [if_pos hc]; exact ⟨_, _, rfl, by omega, h0, h2, h3⟩
  · rw [if_neg hc, w64_id (e := d.2 + 1) (by omega) (by omega), show d.2 + 1 - 1 = d.2 from by omega, w64_id (by omega) (by omega), if_pos (by omega)]
    obtain ⟨r, h4, h5, h6⟩ := Mod_ok (gl (0 : Int) d.1 d.2.toNat) h0 h1
    rw [h4]
    exact ⟨_, _, rfl, h5, h6, by show (0:Int) ≤ d.2 + 1; omega, h3⟩
theorem New0_ok (l : List Int) (h : l.length ≤ maxLen) : ∃ d, Fbeltwaymake_New l = some d ∧ DkOk d := by
  unfold Fbeltwaymake_New
  exact ⟨_, rfl, by simp, by unfold maxLen at h; simp only; omega⟩
theorem pct2_ok : ∀ p : Fin 101, (match fArith .quo (fOfInt (p.1 : Int)) 4636737291354636288 with | some w => decide (p.1 = 0 ∨ (0 < w ∧ w ≤ 4607182418800017408)) | none => false) = true := by decide +kernel
theorem perc_ok {p : Int} (h0 : 1 ≤ p) (h1 : p ≤ 100) : ∃ w, Fbeltwayref06_Percent p = some (w, 0) ∧ 0 < w ∧ w ≤ 4607182418800017408 := by
  have := pct2_ok ⟨p.toNat, by omega⟩
  rw [show (((⟨p.toNat, by omega⟩ : Fin 101).1 : Nat) : Int) = p from Int.toNat_of_nonneg (by omega)] at this
  unfold Fbeltwayref06_Percent
  rw [if_neg (by omega), if_neg (by omega)]
  cases h : fArith .quo (fOfInt p) 4636737291354636288 with
  | none => rw [h] at this; cases this
  | some w =>
    rw [h] at this
    simp only [decide_eq_true_eq] at this
    rw [if_pos Option.isSome_some]
    refine ⟨w, rfl, ?_⟩
    rcases this with h2 | h2
    · omega
    · exact h2
theorem Share_ok {d : List Int × Int} (hd : DkOk d) : ∃ x d', Fbeltwaymake_Share d = some (x, d') ∧ (0 < x ∧ x ≤ 4607182418800017408) ∧ DkOk d' := by
  unfold Fbeltwaymake_Share
  obtain ⟨r1, d1, e1, a0, a1, hd1⟩ := Next_ok hd (n := 4) (by omega) (by omega)
  rw [e1]
  simp only [Option.bind_some]
  by_cases c : r1 = 0
  · rw [if_pos c]
    obtain ⟨r2, d2, e2, b0, b1, hd2⟩ := Next_ok hd1 (n := 5) (by omega) (by omega)
    rw [e2]
    simp only [Option.bind_some]
    rw [if_pos ⟨b0, by simp; omega⟩]
    refine ⟨_, _, rfl, ?_, hd2⟩
    have hm := gl_mem (d := (0 : Nat)) (xs := [4602678819172646912, 4593671619917905920, 4607182418800017408, 4599676419421066581, 4562254508917369340]) (k := r2.toNat) (by simp; omega)
    generalize gl (0 : Nat) [4602678819172646912, 4593671619917905920, 4607182418800017408, 4599676419421066581, 4562254508917369340] r2.toNat = x at hm ⊢
    simp only [List.mem_cons, List.not_mem_nil, or_false] at hm
    omega
  · rw [if_neg c]
    obtain ⟨r2, d2, e2, b0, b1, hd2⟩ := Next_ok hd1 (n := 100) (by omega) (by omega)
    rw [e2]
    simp only [Option.bind_some]
    rw [w64_id (by omega) (by omega)]
    obtain ⟨w, w1, w2⟩ := perc_ok (p := 1 + r2) (by omega) (by omega)
    rw [w1]
    exact ⟨_, _, rfl, w2, hd2⟩

/-- A valid configuration. -/
structure Good (c : Cf) : Prop where
  nm : nmOk c.1
  n : 1 ≤ c.2.1.length ∧ c.2.1.length ≤ 4
  ru : ∀ b : Int, 0 ≤ b → b < c.2.1.length → VV (ru c b).1 ∧ ¬ LimBad (ru c b) b ((c.2.1.length : Int) - 1) ∧ ¬ TgtBad (ru c b) b ((c.2.1.length : Int) - 1)
  aim : ∀ b : Int, 1 ≤ b → b < c.2.1.length → Aim c b
  fin : ¬ FinBad c
theorem Good.sh {c : Cf} (h : Good c) : Sh c := fun b b0 b1 => by
  rcases (h.ru b b0 b1).1 with e | ⟨_, e⟩ <;> omega
theorem Good.chk {c : Cf} (h : Good c) : chk c = 0 := by
  unfold Go.Proofs.YtmcahbbelnjhiaaDoor.chk
  rw [if_neg (not_not_intro h.nm), if_neg (not_not_intro h.n)]
  have hfe : fe c c.2.1.length 0 = 0 := fe_of c _ _ fun k k0 k1 => by
    obtain ⟨a, b, d⟩ := h.ru k k0 (by omega)
    unfold rErr
    rw [if_neg (not_not_intro a), if_neg b, if_neg d]
  rw [if_neg (not_not_intro hfe), if_neg (not_not_intro h.aim), if_neg h.fin]
theorem Good.check {c : Cf} (h : Good c) : Fconfig_Check c = some 0 := by
  rw [check_ok (by have := h.n.2; omega) h.sh, h.chk]
theorem Good.full {c : Cf} (h : Good c) (hf : c.2.2 > 0) {f : Int} (f0 : 1 ≤ f) (f1 : f ≤ 5) : Good (c.1, c.2.1, f) := by
  refine ⟨h.nm, h.n, h.ru, h.aim, ?_⟩
  have := h.fin
  rintro (⟨_, h2⟩ | ⟨h1, h2⟩)
  · simp only at h2; omega
  · exact this (.inr ⟨h1, by omega⟩)
theorem nm_of {s : ByteArray} (h : decide (1 ≤ s.size ∧ s.size ≤ 16 ∧ ∀ i : Fin s.size, (97 ≤ sget s i.1 ∧ sget s i.1 ≤ 122) ∨ (i.1 ≠ 0 ∧ (sget s i.1 = 45 ∨ (48 ≤ sget s i.1 ∧ sget s i.1 ≤ 57)))) = true) : nmOk s := by
  rw [decide_eq_true_iff] at h
  exact ⟨h.1, h.2.1, fun i hi => h.2.2 ⟨i, hi⟩⟩
theorem good1 {s : ByteArray} {x : Nat} {q f : Int} (hs : nmOk s) (hx : VV x) (hq : 0 ≤ q ∧ q ≤ 64) (hf : ¬ ((x = 0 ∧ (f < 1 ∨ 64 < f)) ∨ (x ≠ 0 ∧ f ≠ 0))) : Good (s, [(x, 0, q, 0)], f) := by
  refine ⟨hs, ⟨by simp, by simp⟩, ?_, ?_, hf⟩
  · intro b b0 b1
    simp only [List.length_cons, List.length_nil] at b1 ⊢
    obtain rfl : b = 0 := by omega
    refine ⟨hx, ?_, ?_⟩
    · show ¬ LimBad (x, 0, q, 0) _ _
      unfold LimBad; simp only; omega
    · show ¬ TgtBad (x, 0, q, 0) _ _
      unfold TgtBad; simp only; omega
  · intro b b0 b1
    simp only [List.length_cons, List.length_nil] at b1
    omega
theorem good2 {s : ByteArray} {x y : Nat} {l q k f : Int} (hs : nmOk s) (hx : VV x) (hy : VV y) (hl : 0 ≤ l ∧ l ≤ 64) (hq : 0 ≤ q ∧ q ≤ 64) (hk : 0 ≤ k ∧ k ≤ 64) (hf : ¬ ((y = 0 ∧ (f < 1 ∨ 64 < f)) ∨ (y ≠ 0 ∧ f ≠ 0))) : Good (s, [(x, l, q, 1), (y, 0, k, 1)], f) := by
  refine ⟨hs, ⟨by simp, by simp⟩, ?_, ?_, hf⟩
  · intro b b0 b1
    simp only [List.length_cons, List.length_nil] at b1 ⊢
    have : b = 0 ∨ b = 1 := by omega
    rcases this with rfl | rfl
    · refine ⟨hx, ?_, ?_⟩
      · show ¬ LimBad (x, l, q, 1) _ _
        unfold LimBad; simp only; omega
      · show ¬ TgtBad (x, l, q, 1) _ _
        unfold TgtBad; simp only; omega
    · refine ⟨hy, ?_, ?_⟩
      · show ¬ LimBad (y, 0, k, 1) _ _
        unfold LimBad; simp only; omega
      · show ¬ TgtBad (y, 0, k, 1) _ _
        unfold TgtBad; simp only; omega
  · intro b b0 b1
    simp only [List.length_cons, List.length_nil] at b1
    obtain rfl : b = 1 := by omega
    exact ⟨0, ⟨by omega, by simp⟩, by omega, rfl⟩
theorem good3 {s : ByteArray} {x y z : Nat} {q k f : Int} (hs : nmOk s) (hx : VV x) (hy : VV y) (hz : VV z) (hq : 0 ≤ q ∧ q ≤ 64) (hk : 0 ≤ k ∧ k ≤ 64) (hf : ¬ ((z = 0 ∧ (f < 1 ∨ 64 < f)) ∨ (z ≠ 0 ∧ f ≠ 0))) : Good (s, [(x, 0, q, 1), (y, 0, k, 2), (z, 0, 0, 2)], f) := by
  refine ⟨hs, ⟨by simp, by simp⟩, ?_, ?_, hf⟩
  · intro b b0 b1
    simp only [List.length_cons, List.length_nil] at b1 ⊢
    have : b = 0 ∨ b = 1 ∨ b = 2 := by omega
    rcases this with rfl | rfl | rfl
    · refine ⟨hx, ?_, ?_⟩
      · show ¬ LimBad (x, 0, q, 1) _ _
        unfold LimBad; simp only; omega
      · show ¬ TgtBad (x, 0, q, 1) _ _
        unfold TgtBad; simp only; omega
    · refine ⟨hy, ?_, ?_⟩
      · show ¬ LimBad (y, 0, k, 2) _ _
        unfold LimBad; simp only; omega
      · show ¬ TgtBad (y, 0, k, 2) _ _
        unfold TgtBad; simp only; omega
    · refine ⟨hz, ?_, ?_⟩
      · show ¬ LimBad (z, 0, 0, 2) _ _
        unfold LimBad; simp only; omega
      · show ¬ TgtBad (z, 0, 0, 2) _ _
        unfold TgtBad; simp only; omega
  · intro b b0 b1
    simp only [List.length_cons, List.length_nil] at b1
    have : b = 1 ∨ b = 2 := by omega
    rcases this with rfl | rfl
    · exact ⟨0, ⟨by omega, by simp⟩, by omega, rfl⟩
    · exact ⟨1, ⟨by omega, by simp⟩, by omega, rfl⟩
theorem Get_ok {j : Nat} (hj : j < 6) {p : Int} (p0 : 1 ≤ p) (p1 : p ≤ 100) : ∃ c, Fbeltwayref14_Get (gl (⟨#[]⟩ : ByteArray) [⟨#[115, 101, 109, 105, 115, 112, 97, 99, 101]⟩, ⟨#[97, 112, 112, 101, 108]⟩, ⟨#[102, 105, 120, 101, 100]⟩, ⟨#[111, 108, 100, 101, 114, 45, 102, 105, 114, 115, 116]⟩, ⟨#[120, 120]⟩, ⟨#[120, 120, 49, 48, 48]⟩] j) p = some (c, 0) ∧ Good c := by
  obtain ⟨w, w1, w2, w3⟩ := perc_ok p0 p1
  have hw : VV w := .inr ⟨w2, w3⟩
  have h0 : VV 0 := .inl rfl
  unfold Fbeltwayref14_Get
  rw [w1]
  simp only [Option.bind_some]
  rw [if_neg (by simp)]
  have : j = 0 ∨ j = 1 ∨ j = 2 ∨ j = 3 ∨ j = 4 ∨ j = 5 := by omega
  rcases this with rfl | rfl | rfl | rfl | rfl | rfl
  · rw [if_pos (by decide), if_neg (by omega)]
    exact ⟨_, rfl, good1 (nm_of (by decide)) h0 (by omega) (by omega)⟩
  · rw [if_neg (by decide), if_pos (by decide), if_neg (by omega)]
    exact ⟨_, rfl, good2 (nm_of (by decide)) h0 h0 (by omega) (by omega) (by omega) (by omega)⟩
  · rw [if_neg (by decide), if_neg (by decide), if_pos (by decide), if_neg (by omega)]
    exact ⟨_, rfl, good2 (nm_of (by decide)) hw h0 (by omega) (by omega) (by omega) (by omega)⟩
  · rw [if_neg (by decide), if_neg (by decide), if_neg (by decide), if_pos (by decide), if_neg (by omega)]
    exact ⟨_, rfl, good1 (nm_of (by decide)) hw (by omega) (by omega)⟩
  · rw [if_neg (by decide), if_neg (by decide), if_neg (by decide), if_neg (by decide), if_pos (by decide), if_neg (by omega)]
    exact ⟨_, rfl, good2 (nm_of (by decide)) hw hw (by omega) (by omega) (by omega) (by omega)⟩
  · rw [if_neg (by decide), if_neg (by decide), if_neg (by decide), if_neg (by decide), if_neg (by decide), if_pos (by decide), if_neg (by omega)]
    exact ⟨_, rfl, good3 (nm_of (by decide)) hw hw h0 (by omega) (by omega) (by omega)⟩
/-- What is known of the rules made so far, of n. -/
def Part (n b : Int) (c : Cf) : Prop :=
  c.1 = ⟨#[111, 119, 110]⟩ ∧ (c.2.1.length : Int) = b ∧ (b < n → c.2.2 = 0) ∧
  (∀ k : Int, 0 ≤ k → k < b → VV (ru c k).1 ∧ (0 ≤ (ru c k).2.1 ∧ (ru c k).2.1 ≤ 64) ∧ (0 ≤ (ru c k).2.2.1 ∧ (ru c k).2.2.1 ≤ 64) ∧ (k < n - 1 → (ru c k).2.2.2 = k + 1) ∧ (k = n - 1 → (ru c k).2.1 = 0 ∧ (ru c k).2.2.2 = k)) ∧
  (b = n → ¬ (((ru c (n - 1)).1 = 0 ∧ (c.2.2 < 1 ∨ 64 < c.2.2)) ∨ ((ru c (n - 1)).1 ≠ 0 ∧ c.2.2 ≠ 0)))
theorem Part.good {n : Int} {c : Cf} (n0 : 1 ≤ n) (n1 : n ≤ 4) (h : Part n n c) : Good c := by
  obtain ⟨h1, h2, h3, h4, h5⟩ := h
  refine ⟨by rw [h1]; exact nm_of (by decide), ⟨by omega, by omega⟩, ?_, ?_, ?_⟩
  · intro b b0 b1
    obtain ⟨a1, a2, a3, a4, a5⟩ := h4 b b0 (by omega)
    rw [h2]
    refine ⟨a1, ?_, ?_⟩
    · unfold LimBad; omega
    · unfold TgtBad; omega
  · intro b b0 b1
    exact ⟨b - 1, ⟨by omega, by omega⟩, by omega, by have := (h4 (b - 1) (by omega) (by omega)).2.2.2.1 (by omega); omega⟩
  · unfold FinBad
    rw [h2]
    exact h5 rfl
theorem ru_app {s : ByteArray} {l : List Ru} {r : Ru} {f f' : Int} {k : Int} (k0 : 0 ≤ k) (k1 : k < l.length) : ru (s, l ++ [r], f) k = ru (s, l, f') k := by
  unfold ru gl
  simp only [List.getD_eq_getElem?_getD]
  rw [List.getElem?_append_left (by omega)]
theorem ru_new {s : ByteArray} {l : List Ru} {r : Ru} {f : Int} : ru (s, l ++ [r], f) l.length = r := by
  unfold ru gl
  simp
theorem Part.more {n b : Int} {c : Cf} (h : Part n b c) (hb : b < n) {x : Nat} {l q t f : Int} (hx : VV x) (hl : 0 ≤ l ∧ l ≤ 64) (hq : 0 ≤ q ∧ q ≤ 64) (ht : b < n - 1 → t = b + 1) (ht2 : b = n - 1 → l = 0 ∧ t = b) (hf : b < n - 1 → f = 0) (hf2 : b = n - 1 → ¬ ((x = 0 ∧ (f < 1 ∨ 64 < f)) ∨ (x ≠ 0 ∧ f ≠ 0))) :
    Part n (b + 1) (c.1, c.2.1 ++ [(x, l, q, t)], f) := by
  obtain ⟨h1, h2, h3, h4, h5⟩ := h
  have hnew : ru (c.1, c.2.1 ++ [(x, l, q, t)], f) b = (x, l, q, t) := by rw [← h2]; exact ru_new
  refine ⟨h1, by simp; omega, fun h => hf (by omega), ?_, ?_⟩
  · intro k k0 k1
    by_cases e : k = b
    · rw [e, hnew]
      exact ⟨hx, hl, hq, ht, ht2⟩
    · rw [ru_app (f' := c.2.2) k0 (by omega)]
      exact h4 k k0 (by omega)
  · intro e
    rw [show n - 1 = b from by omega, hnew]
    exact hf2 (by omega)
theorem ex_pair {α β : Type} {x : Option (α × β)} {Q : α → Prop} {R : β → Prop} (h : ∃ b, x = some b ∧ Q b.1 ∧ R b.2) : ∃ c d', x = some (c, d') ∧ Q c ∧ R d' := by
  obtain ⟨⟨c, d'⟩, h1, h2⟩ := h
  exact ⟨c, d', h1, h2⟩
theorem Config_ok {d : List Int × Int} (hd : DkOk d) : ∃ c d', Fbeltwaymake_Config d = some (c, d') ∧ Good c ∧ DkOk d' := by
  unfold Fbeltwaymake_Config
  obtain ⟨r1, d1, e1, a0, a1, hd1⟩ := Next_ok hd (n := 3) (by omega) (by omega)
  rw [e1, Option.bind_some]
  by_cases c1 : r1 > 0
  · rw [if_pos c1]
    unfold Fbeltwayref14_Names
    obtain ⟨r3, d3, e3, b0, b1, hd3⟩ := Next_ok hd1 (n := 6) (by omega) (by omega)
    rw [Option.bind_some, e3, Option.bind_some, if_pos ⟨b0, by simp; omega⟩]
    obtain ⟨r4, d4, e4, f0, f1, hd4⟩ := Next_ok hd3 (n := 100) (by omega) (by omega)
    rw [e4, Option.bind_some]
    obtain ⟨r5, d5, e5, g0, g1, hd5⟩ := Next_ok hd4 (n := 6) (by omega) (by omega)
    rw [e5, Option.bind_some, if_pos ⟨g0, by simp; omega⟩, w64_id (e := 1 + r4) (by omega) (by omega)]
    have hp : 1 ≤ gl (0 : Int) [10, 15, 25, 30, 50, 1 + r4] r5.toNat ∧ gl (0 : Int) [10, 15, 25, 30, 50, 1 + r4] r5.toNat ≤ 100 := by
      have hm := gl_mem (d := (0 : Int)) (xs := [10, 15, 25, 30, 50, 1 + r4]) (k := r5.toNat) (by simp; omega)
      generalize gl (0 : Int) [10, 15, 25, 30, 50, 1 + r4] r5.toNat = x at hm ⊢
      simp only [List.mem_cons, List.not_mem_nil, or_false] at hm
      omega
    obtain ⟨c, k1, k2⟩ := Get_ok (j := r3.toNat) (by omega) hp.1 hp.2
    rw [k1, Option.bind_some]
    by_cases c2 : c.2.2 > 0
    · rw [if_pos c2]
      obtain ⟨r6, d6, e6, m0, m1, hd6⟩ := Next_ok hd5 (n := 5) (by omega) (by omega)
      rw [e6, Option.bind_some, Option.bind_some, w64_id (e := 1 + r6) (by omega) (by omega)]
      exact ⟨_, _, rfl, k2.full c2 (by omega) (by omega), hd6⟩
    · rw [if_neg c2, Option.bind_some]
      exact ⟨_, _, rfl, k2, hd5⟩
  · rw [if_neg c1]
    obtain ⟨r8, d8, e8, b0, b1, hd8⟩ := Next_ok hd1 (n := 4) (by omega) (by omega)
    rw [e8, Option.bind_some, w64_id (e := 1 + r8) (by omega) (by omega), w64_id (e := 1 + r8 - 1) (by omega) (by omega)]
    generalize hn : 1 + r8 = n
    have n0 : 1 ≤ n := by omega
    have n1 : n ≤ 4 := by omega
    refine ex_pair (Q := Good) (R := DkOk) ?_
    refine loopO_ind (β := Cf × (List Int × Int)) (fun m (st : Int × (List Int × Int) × Cf) => 0 ≤ st.1 ∧ st.1 ≤ n ∧ (m : Int) = n - st.1 ∧ DkOk st.2.1 ∧ Part n st.1 st.2.2) (fun b => Good b.1 ∧ DkOk b.2) ?_ n.toNat ((0 : Int), d8, ((⟨#[111, 119, 110]⟩, [], 0) : Cf)) ⟨by simp, by simp only; omega, by simp only; omega, hd8, rfl, rfl, fun _ => rfl, fun k k0 k1 => by simp only at k1; omega, fun h => by simp only at h; omega⟩
    rintro m ⟨b, dk, c⟩ ⟨b0, b1, hm, hdk, hpart⟩
    simp only at b0 b1 hm hdk hpart ⊢
    have hlen := hpart.2.1
    by_cases hb : b < n
    rotate_left
    · rw [if_neg hb]
      have : b = n := by omega
      rw [this] at hpart
      exact .inl ⟨_, rfl, hpart.good n0 n1, hdk⟩
    rw [if_pos hb]
    right
    obtain ⟨r9, d9, e9, p0, p1, hd9⟩ := Next_ok hdk (n := 3) (by omega) (by omega)
    rw [e9, Option.bind_some, w64_id (e := b + 1) (by omega) (by omega)]
    obtain ⟨r10, d10, e10, q0, q1, hd10⟩ := Next_ok hd9 (n := 3) (by omega) (by omega)
    rw [e10, Option.bind_some]
    have hsz : ∀ r : Ru, (c.2.1.length + ([r] : List Ru).length) * 32 ≤ 140737488355328 := fun r => by
      simp only [List.length_cons, List.length_nil]; omega
    -- behind the share
    have tl : ∀ (x : Nat) (dk2 : List Int × Int), VV x → DkOk dk2 → ∃ (dk3 : List Int × Int) (c' : Cf), (if b < n - 1 then
        Option.bind (Fbeltwaymake_Deck_Next dk2 3) (fun r12 =>
        if r12.1 = 0 then
        Option.bind (Fbeltwaymake_Deck_Next r12.2 2) (fun r13 =>
        if b = n - 1 then
        if fOrd x 0 = some .eq then
        Option.bind (Fbeltwaymake_Deck_Next r13.2 6) (fun r14 =>
        if (c.2.1.length + ([(x, w64 ((1 : Int) + r13.1), r9, b)] : List Ru).length) * 32 ≤ 140737488355328 then
        some (Sum.inl ((b + 1, r14.2, (c.1, c.2.1 ++ ([(x, w64 ((1 : Int) + r13.1), r9, b)] : List Ru), w64 ((1 : Int) + r14.1)))))
        else none)
        else if (c.2.1.length + ([(x, w64 ((1 : Int) + r13.1), r9, b)] : List Ru).length) * 32 ≤ 140737488355328 then
        some (Sum.inl ((b + 1, r13.2, (c.1, c.2.1 ++ ([(x, w64 ((1 : Int) + r13.1), r9, b)] : List Ru), c.2.2))))
        else none
        else if (c.2.1.length + ([(x, w64 ((1 : Int) + r13.1), r9, b + 1)] : List Ru).length) * 32 ≤ 140737488355328 then
        some (Sum.inl ((b + 1, r13.2, (c.1, c.2.1 ++ ([(x, w64 ((1 : Int) + r13.1), r9, b + 1)] : List Ru), c.2.2))))
        else none)
        else if b = n - 1 then
        if fOrd x 0 = some .eq then
        Option.bind (Fbeltwaymake_Deck_Next r12.2 6) (fun r15 =>
        if (c.2.1.length + ([(x, 0, r9, b)] : List Ru).length) * 32 ≤ 140737488355328 then
        some (Sum.inl ((b + 1, r15.2, (c.1, c.2.1 ++ ([(x, 0, r9, b)] : List Ru), w64 ((1 : Int) + r15.1)))))
        else none)
        else if (c.2.1.length + ([(x, 0, r9, b)] : List Ru).length) * 32 ≤ 140737488355328 then
        some (Sum.inl ((b + 1, r12.2, (c.1, c.2.1 ++ ([(x, 0, r9, b)] : List Ru), c.2.2))))
        else none
        else if (c.2.1.length + ([(x, 0, r9, b + 1)] : List Ru).length) * 32 ≤ 140737488355328 then
        some (Sum.inl ((b + 1, r12.2, (c.1, c.2.1 ++ ([(x, 0, r9, b + 1)] : List Ru), c.2.2))))
        else none)
        else if b = n - 1 then
        if fOrd x 0 = some .eq then
        Option.bind (Fbeltwaymake_Deck_Next dk2 6) (fun r16 =>
        if (c.2.1.length + ([(x, 0, r9, b)] : List Ru).length) * 32 ≤ 140737488355328 then
        some (Sum.inl ((b + 1, r16.2, (c.1, c.2.1 ++ ([(x, 0, r9, b)] : List Ru), w64 ((1 : Int) + r16.1)))))
        else none)
        else if (c.2.1.length + ([(x, 0, r9, b)] : List Ru).length) * 32 ≤ 140737488355328 then
        some (Sum.inl ((b + 1, dk2, (c.1, c.2.1 ++ ([(x, 0, r9, b)] : List Ru), c.2.2))))
        else none
        else if (c.2.1.length + ([(x, 0, r9, b + 1)] : List Ru).length) * 32 ≤ 140737488355328 then
        some (Sum.inl ((b + 1, dk2, (c.1, c.2.1 ++ ([(x, 0, r9, b + 1)] : List Ru), c.2.2))))
        else none : Option ((Int × (List Int × Int) × Cf) ⊕ (Cf × (List Int × Int)))) = some (Sum.inl (b + 1, dk3, c')) ∧ DkOk dk3 ∧ Part n (b + 1) c' := by
      intro x dk2 hx hdk2
      by_cases c2 : b < n - 1
      · have c3 : ¬ b = n - 1 := by omega
        have hc0 : c.2.2 = 0 := hpart.2.2.1 hb
        rw [if_pos c2]
        obtain ⟨r12, d12, e12, s0, s1, hd12⟩ := Next_ok hdk2 (n := 3) (by omega) (by omega)
        rw [e12, Option.bind_some]
        by_cases c4 : r12 = 0
        · rw [if_pos c4]
          obtain ⟨r13, d13, e13, t0, t1, hd13⟩ := Next_ok hd12 (n := 2) (by omega) (by omega)
          rw [e13, Option.bind_some, if_neg c3, if_pos (hsz _), w64_id (e := 1 + r13) (by omega) (by omega)]
          exact ⟨_, _, rfl, hd13, hpart.more hb hx (by omega) (by omega) (fun _ => rfl) (fun h => absurd h c3) (fun _ => hc0) (fun h => absurd h c3)⟩
        · rw [if_neg c4, if_neg c3, if_pos (hsz _)]
          exact ⟨_, _, rfl, hd12, hpart.more hb hx (by omega) (by omega) (fun _ => rfl) (fun h => absurd h c3) (fun _ => hc0) (fun h => absurd h c3)⟩
      · have c3 : b = n - 1 := by omega
        have hc0 : c.2.2 = 0 := hpart.2.2.1 hb
        rw [if_neg c2, if_pos c3]
        by_cases c4 : fOrd x 0 = some .eq
        · rw [if_pos c4]
          have hx0 := (zeroEq hx).1 c4
          obtain ⟨r16, d16, e16, t0, t1, hd16⟩ := Next_ok hdk2 (n := 6) (by omega) (by omega)
          rw [e16, Option.bind_some, if_pos (hsz _), w64_id (e := 1 + r16) (by omega) (by omega)]
          exact ⟨_, _, rfl, hd16, hpart.more hb hx (by omega) (by omega) (fun h => by omega) (fun _ => ⟨rfl, rfl⟩) (fun h => by omega) (fun _ => by omega)⟩
        · rw [if_neg c4, if_pos (hsz _)]
          have hx0 : x ≠ 0 := fun h => c4 ((zeroEq hx).2 h)
          exact ⟨_, _, rfl, hdk2, hpart.more hb hx (by omega) (by omega) (fun h => by omega) (fun _ => ⟨rfl, rfl⟩) (fun h => by omega) (fun _ => by omega)⟩
    by_cases c5 : r10 > 0
    · rw [if_pos c5]
      obtain ⟨x, d11, e11, hx, hd11⟩ := Share_ok hd10
      rw [e11, Option.bind_some, Option.bind_some]
      obtain ⟨dk3, c', t1, t2, t3⟩ := tl x d11 (.inr hx) hd11
      exact ⟨m - 1, _, by omega, t1, by simp only; omega, by simp only; omega, by simp only; omega, t2, t3⟩
    · rw [if_neg c5, Option.bind_some]
      obtain ⟨dk3, c', t1, t2, t3⟩ := tl 0 d10 (.inl rfl) hd10
      exact ⟨m - 1, _, by omega, t1, by simp only; omega, by simp only; omega, by simp only; omega, t2, t3⟩
end Go.Proofs.YtmcahbbelnjhiaaDoor
