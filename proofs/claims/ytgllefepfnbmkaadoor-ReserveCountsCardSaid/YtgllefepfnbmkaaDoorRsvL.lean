/-
  The laws of package reserve.
-/
import Derived.Test.YtgllefepfnbmkaaDoorBltA
import Derived.Test.YtgllefepfnbmkaaDoorCfgO
set_option linter.unusedVariables false
namespace Go.Proofs.YtgllefepfnbmkaaDoor
open Go Go.V3

/-- The frames in use. -/
def used (s : Sp) : Int := (s.2.2.length : Int) - (frees s.2.2).length
theorem used_ge (s : Sp) : 0 ≤ used s := by
  have : (frees s.2.2).length ≤ s.2.2.length := owned_len s.2.2 (-1)
  unfold used; omega
/-- Belts in a space that are small enough for all sums. -/
structure Qs (s : Sp) (q : Rows) : Prop where
  vs : VS s
  n : s.2.2.length ≤ 10
  len : q.length ≤ 1000
  xlen : ∀ x ∈ q, x.length ≤ 1000
  w : ∀ i ∈ q.flatten, 0 ≤ i.2.2.2.2 ∧ i.2.2.2.2 ≤ 16384
def need (v : Bool) (s : Sp) (q : Rows) : Int := if v = true then used s else lrg (sz s.1) q.flatten
theorem Qs.big {s : Sp} {q : Rows} (h : Qs s q) : Fbelt_Largest s q = some (lrg (sz s.1) q.flatten) ∧ Fbeltwayref11_Largest s q = some (lrg (sz s.1) q.flatten) := by
  have h1 : q.length ≤ 1000000 := by have := h.len; omega
  have h2 : ∀ x ∈ q, x.length ≤ 1000000 := fun x hx => by have := h.xlen x hx; omega
  have h3 : ∀ i ∈ q.flatten, 0 ≤ i.2.2.2.2 ∧ i.2.2.2.2 ≤ 1000000 := fun i hi => by have := h.w i hi; omega
  exact ⟨bLargest_ok h.vs h1 h2 h3, rLargest_ok h.vs h1 h2 h3⟩
theorem Qs.lrg {s : Sp} {q : Rows} (h : Qs s q) : 0 ≤ lrg (sz s.1) q.flatten ∧ Go.Proofs.YtgllefepfnbmkaaDoor.lrg (sz s.1) q.flatten ≤ 20000 := by
  refine ⟨(lrg_ge _).1, (lrg_le _).2 ⟨by omega, fun i hi => ?_⟩⟩
  obtain ⟨w0, w1⟩ := h.w i hi
  obtain ⟨z1, z2⟩ := sz_le h.vs.sh
  have := cl_small z1 w0
  omega
theorem Needed_ok {c : Cf} {v : Bool} (hc : Fconfig_Complete c = some v) (hr : Fbeltwayref12_Complete c = some v) {s : Sp} {q : Rows} (h : Qs s q) : Freserve_Needed c s q = some (need v s q) ∧ Fbeltwayref16_Needed c s q = some (need v s q) := by
  unfold Freserve_Needed Fbeltwayref16_Needed need
  have hn := h.vs.n.2
  rw [hc, hr, Option.bind_some, Option.bind_some, pUsed_ok h.n, rUsed_ok hn, h.big.1, h.big.2]
  cases v with
  | true => exact ⟨rfl, rfl⟩
  | false => exact ⟨rfl, rfl⟩
theorem Holds_ok {c : Cf} {v : Bool} (hc : Fconfig_Complete c = some v) (hr : Fbeltwayref12_Complete c = some v) {s : Sp} {q : Rows} (h : Qs s q) :
    Freserve_Holds c s q = some (decide (((frees s.2.2).length : Int) ≥ need v s q)) ∧ Fbeltwayref16_Holds c s q = some (decide (((frees s.2.2).length : Int) ≥ need v s q)) := by
  have hn := h.vs.n.2
  unfold Freserve_Holds Fbeltwayref16_Holds
  rw [pFree_ok hn, Free_ok hn, Option.bind_some, Option.bind_some, (Needed_ok hc hr h).1, (Needed_ok hc hr h).2]
  exact ⟨rfl, rfl⟩
/-- How many frames more. -/
def more (s : Sp) (i : Inc) (n : Int) : Int := cl (sz s.1) (i.2.2.2.2 + n) - cl (sz s.1) i.2.2.2.2
/-- Growth that is granted. -/
def Gr (v : Bool) (F u L k f : Int) : Prop := k = 0 ∨ (v = true ∧ u + k ≤ F - (u + k)) ∨ (v = false ∧ L ≤ F - (u + k) ∧ f + k ≤ F - (u + k))
def GrS (v : Bool) (s : Sp) (q : Rows) (i : Inc) (n : Int) : Prop := Gr v s.2.2.length (used s) (lrg (sz s.1) q.flatten) (more s i n) (cl (sz s.1) i.2.2.2.2)
theorem Grants_ok {c : Cf} {v : Bool} (hc : Fconfig_Complete c = some v) (hr : Fbeltwayref12_Complete c = some v) {s : Sp} {q : Rows} (h : Qs s q) {i : Inc} {n : Int} (w0 : 0 ≤ i.2.2.2.2) (w1 : i.2.2.2.2 ≤ 16384) (n0 : 1 ≤ n) (n1 : n ≤ 48) :
    ∃ b, Freserve_Grants c s q i n = some b ∧ Fbeltwayref16_Grants c s q i n = some b ∧ (b = true ↔ GrS v s q i n) := by
  have hn := h.vs.n.2
  have h10 := h.n
  obtain ⟨z1, z2⟩ := sz_le h.vs.sh
  have c1 := cl_small z1 (show 0 ≤ i.2.2.2.2 + n by omega)
  have c2 := cl_small z1 w0
  have c3 := cl_le (z := sz s.1) (by omega) (show i.2.2.2.2 ≤ i.2.2.2.2 + n by omega)
  obtain ⟨l0, l1⟩ := h.lrg
  have u0 := used_ge s
  have hfl : (frees s.2.2).length ≤ s.2.2.length := owned_len s.2.2 (-1)
  have hu : (s.2.2.length : Int) - (frees s.2.2).length = used s := rfl
  unfold Freserve_Grants Fbeltwayref16_Grants GrS
  rw [bExtra_ok h.vs w0 w1 (by omega) (by omega), Extra_ok h.vs w0 w1 (by omega) (by omega), Option.bind_some, Option.bind_some]
  have hk : cl (sz s.1) (i.2.2.2.2 + n) - cl (sz s.1) i.2.2.2.2 = more s i n := rfl
  rw [hk]
  have hk0 : 0 ≤ more s i n := by omega
  have hk1 : more s i n ≤ 20000 := by omega
  generalize more s i n = k at hk hk0 hk1 ⊢
  by_cases e : k = 0
  · rw [if_pos e, if_pos e]
    exact ⟨_, rfl, rfl, iff_of_true rfl (.inl e)⟩
  rw [if_neg e, if_neg e, pUsed_ok h.n, rUsed_ok hn, hc, hr, h.big.1, h.big.2, bFrames_ok h.vs w0 (by omega), Frames_ok h.vs w0 (by omega)]
  simp only [Option.bind_some]
  rw [hu]
  have hub : used s ≤ 10 := by omega
  generalize used s = u at hu u0 hub ⊢
  generalize lrg (sz s.1) q.flatten = L at l0 l1 ⊢
  generalize hF : cl (sz s.1) i.2.2.2.2 = f at c2 ⊢
  rw [w64_id (e := u + k) (by omega) (by omega), w64_id (e := (s.2.2.length : Int) - (u + k)) (by omega) (by omega), w64_id (e := 2 * (u + k)) (by omega) (by omega), w64_id (e := f + k) (by omega) (by omega)]
  unfold Gr
  generalize (s.2.2.length : Int) = F at hu h10 hn ⊢
  cases v with
  | true =>
    rw [if_pos rfl, if_pos rfl]
    by_cases g : u + k ≤ F - (u + k)
    · rw [if_neg (by omega), decide_eq_true g, decide_eq_true (show 2 * (u + k) ≤ F by omega)]
      exact ⟨_, rfl, rfl, iff_of_true rfl (.inr (.inl ⟨rfl, g⟩))⟩
    · rw [decide_eq_false (show ¬ F - (u + k) ≥ u + k by omega), decide_eq_false (show ¬ 2 * (u + k) ≤ F by omega), ite_self]
      exact ⟨_, rfl, rfl, iff_of_false (by decide) (by rintro (h | h | h); exact e h; exact g h.2; exact absurd h.1 (by decide))⟩
  | false =>
    rw [if_neg (show ¬ false = true by decide), if_neg (show ¬ false = true by decide)]
    by_cases g0 : u + k > F
    · rw [if_neg (show ¬ F - (u + k) ≥ 0 by omega), if_pos g0]
      exact ⟨_, rfl, rfl, iff_of_false (by decide) (by rintro (h | h | h); exact e h; exact absurd h.1 (by decide); have := h.2.1; omega)⟩
    · rw [if_pos (show F - (u + k) ≥ 0 by omega), if_neg g0]
      refine ⟨_, rfl, rfl, ?_⟩
      rw [decide_eq_true_iff]
      constructor
      · intro h; refine .inr (.inr ⟨rfl, ?_, ?_⟩) <;> split at h <;> omega
      · rintro (h | h | h)
        · exact absurd h e
        · exact absurd h.1 (by decide)
        · split <;> omega

/-! How the belts of the laws are made. -/
theorem fit0 (s : Sp) {q b : Int} (q0 : 0 ≤ q) (q1 : q ≤ 4294967295) (b0 : 0 ≤ b) (b1 : b < 4) : FitS s (q, b, -1, -1, 0) := ⟨by simp only; omega, .inl (by simp)⟩
structure Bd (c : Cf) (s : Sp) (l : List Inc) (q : Rows) : Prop where
  good : Good c
  made : Made s l
  n : 3 ≤ q.length ∧ q.length ≤ 4
  cn : c.2.1.length = q.length
  eq : q = (List.range q.length).map (onB l)
theorem belts_ok {d : List Int × Int} (hd : DkOk d) : ∃ c s l q d', Fbeltwaylaw16_belts d = some (c, s, q, d') ∧ Bd c s l q := by
  have mk : ∀ {c : Cf} {s : Sp} {l : List Inc} {n : Nat}, Good c → Made s l → c.2.1.length = n → 3 ≤ n → n ≤ 4 → Fbeltwaymake_Queue l (c.2.1.length : Int) = some ((List.range n).map (onB l)) ∧ Bd c s l ((List.range n).map (onB l)) := by
    intro c s l n g m hn n0 n1
    have hq := Queue_ok (l := l) (n := n) (by have := m.cnt; omega) (by omega) fun i hi => (m.fits i hi).1.1.2.2.1
    refine ⟨by rw [hn]; exact hq, g, m, by simp; omega, by simp; omega, by simp⟩
  unfold Fbeltwaylaw16_belts
  obtain ⟨c, d1, e1, g, hd1⟩ := Config_ok hd
  rw [e1, Option.bind_some]
  by_cases hc : (c.2.1.length : Int) < 3
  · rw [if_pos hc]
    obtain ⟨r2, d2, e2, a0, a1, hd2⟩ := Next_ok hd1 (n := 2) (by omega) (by omega)
    obtain ⟨s, l, d3, e3, _, hm⟩ := Space_ok hd2
    rw [e2, Option.bind_some]
    by_cases hr : r2 = 0
    · have g2 : Good (⟨#[116]⟩, [(4598175219545276416, 0, 0, 1), (4602678819172646912, 0, 1, 2), (4598175219545276416, 0, 0, 2)], 0) := good3 (nm_of (by decide)) (.inr (by omega)) (.inr (by omega)) (.inr (by omega)) (by omega) (by omega) (by omega)
      obtain ⟨k1, k2⟩ := mk (n := 3) g2 hm rfl (by omega) (by omega)
      rw [if_pos hr, if_pos (by decide), e3, Option.bind_some]
      exact ⟨_, _, _, _, _, (congrArg (fun x => Option.bind x _) k1).trans rfl, k2⟩
    · have g2 : Good (⟨#[116]⟩, [(4598175219545276416, 0, 0, 1), (4602678819172646912, 0, 1, 2), (0, 0, 0, 2)], 2) := good3 (nm_of (by decide)) (.inr (by omega)) (.inr (by omega)) (.inl rfl) (by omega) (by omega) (by omega)
      obtain ⟨k1, k2⟩ := mk (n := 3) g2 hm rfl (by omega) (by omega)
      rw [if_neg hr, e3, Option.bind_some]
      exact ⟨_, _, _, _, _, (congrArg (fun x => Option.bind x _) k1).trans rfl, k2⟩
  · obtain ⟨s, l, d3, e3, _, hm⟩ := Space_ok hd1
    have := g.n
    obtain ⟨k1, k2⟩ := mk g hm rfl (by omega) (by omega)
    rw [if_neg hc, e3, Option.bind_some, k1]
    exact ⟨_, _, _, _, _, rfl, k2⟩
theorem Bd.row {c : Cf} {s : Sp} {l : List Inc} {q : Rows} (h : Bd c s l q) {b : Nat} (hb : b < q.length) : gl [] q b = onB l b := by
  have e := h.eq
  generalize q.length = n at e hb
  subst e
  rw [gl_lt (by simpa using hb)]; simp
theorem Bd.flat {c : Cf} {s : Sp} {l : List Inc} {q : Rows} (h : Bd c s l q) : q.flatten = onB l 0 ++ (onB l 1 ++ onB l 2) := by
  have e := h.eq
  have h3 : onB l 3 = [] := by
    unfold onB
    rw [List.filter_eq_nil_iff]
    intro i hi
    have := (h.made.fits i hi).2.2.1
    simp; omega
  have hn : q.length = 3 ∨ q.length = 4 := by have := h.n; omega
  rcases hn with hn | hn
  · rw [e, hn, show List.range 3 = [0, 1, 2] from rfl]; simp
  · rw [e, hn, show List.range 4 = [0, 1, 2, 3] from rfl]; simp [h3]
theorem Bd.mem {c : Cf} {s : Sp} {l : List Inc} {q : Rows} (h : Bd c s l q) {i : Inc} (hi : i ∈ q.flatten) : i ∈ l := by
  rw [h.flat] at hi
  simp only [List.mem_append, onB, List.mem_filter] at hi
  rcases hi with h | h | h <;> exact h.1
theorem Bd.qs {c : Cf} {s : Sp} {l : List Inc} {q : Rows} (h : Bd c s l q) : Qs s q := by
  refine ⟨h.made.vs, h.made.n, by have := h.n; omega, fun x hx => ?_, fun i hi => ?_⟩
  · rw [h.eq] at hx
    obtain ⟨b, _, rfl⟩ := List.mem_map.1 hx
    have := List.length_filter_le (fun i : Inc => decide (i.2.1 = (b : Int))) l
    have := h.made.cnt
    unfold onB; omega
  · obtain ⟨f, w, _⟩ := h.made.fits i (h.mem hi)
    have := VS.wlen h.made.vs
    have := f.1.2.2.2.2.2
    omega
theorem Bd.comp {c : Cf} {s : Sp} {l : List Inc} {q : Rows} (h : Bd c s l q) : ∃ v, Fconfig_Complete c = some v ∧ Fbeltwayref12_Complete c = some v :=
  comp_eq (by have := h.good.n; omega) (by have := h.good.nm.2.1; omega) h.good.sh
theorem Bd.words {c : Cf} {s : Sp} {l : List Inc} {q : Rows} (h : Bd c s l q) : wsum q.flatten = wsum l := by
  rw [h.flat]
  have hb : ∀ i ∈ l, 0 ≤ i.2.1 ∧ i.2.1 < 3 := fun i hi => ⟨(h.made.fits i hi).1.1.2.2.1, (h.made.fits i hi).2.2.1⟩
  clear h
  rw [wsum_app, wsum_app]
  induction l with
  | nil => rfl
  | cons i l ih =>
    have hi := hb i (List.mem_cons_self ..)
    have := ih fun i hi => hb i (List.mem_cons_of_mem _ hi)
    rw [wsum_cons, ← this]
    unfold onB
    simp only [List.filter_cons, decide_eq_true_eq]
    have : i.2.1 = 0 ∨ i.2.1 = 1 ∨ i.2.1 = 2 := by omega
    rcases this with e | e | e
    · rw [if_pos (by omega), if_neg (by omega), if_neg (by omega), wsum_cons]; omega
    · rw [if_neg (by omega), if_pos (by omega), if_neg (by omega), wsum_cons]; omega
    · rw [if_neg (by omega), if_neg (by omega), if_pos (by omega), wsum_cons]; omega
/-- The words of increments fit their frames. -/
theorem sum_owned {s : Sp} {l : List Inc} (h : ∀ p ∈ l, FitS s p ∧ 0 < p.2.2.2.2) : wsum l ≤ ((l.flatMap fun p => owned s.2.2 p.1).length : Int) * sz s.1 := by
  have z := sz_pos' s.1
  induction l with
  | nil => simp [wsum]
  | cons p l ih =>
    obtain ⟨hf, hw⟩ := h p (List.mem_cons_self ..)
    have i1 := ih fun p hp => h p (List.mem_cons_of_mem _ hp)
    rcases hf.2 with ⟨g1, _⟩ | ⟨_, _, _, _, m, _, m2, m3, _⟩
    · omega
    have hc := cl_spec (n := p.2.2.2.2) z
    rw [wsum_cons, List.flatMap_cons, List.length_append, Int.natCast_add, Int.add_mul, show ((owned s.2.2 p.1).length : Int) = cl (sz s.1) p.2.2.2.2 from by omega]
    omega
theorem words_le {s : Sp} {l : List Inc} (h : Made s l) : wsum l ≤ used s * sz s.1 := by
  have h1 := sum_owned fun p hp => ⟨(h.fits p hp).1, (h.fits p hp).2.1⟩
  have hnd : (frees s.2.2 ++ l.flatMap fun p => owned s.2.2 p.1).Nodup := by
    rw [List.nodup_append]
    refine ⟨owned_nodup _ _, ?_, ?_⟩
    · unfold List.Nodup
      rw [List.pairwise_flatMap]
      refine ⟨fun p _ => owned_nodup _ _, h.asc.imp fun {a b} hab x hx y hy e => ?_⟩
      have e1 := (mem_owned.1 hx).2
      have e2 := (mem_owned.1 hy).2
      rw [e] at e1; omega
    · intro x hx y hy e
      obtain ⟨p, hp, hy⟩ := List.mem_flatMap.1 hy
      have e1 := (mem_owned.1 hx).2
      have e2 := (mem_owned.1 hy).2
      have := (h.fits p hp).1.1.1
      rw [e] at e1; omega
  have hle := nodup_sub (m := rangeI s.2.2.length) hnd fun x hx => by
    rw [mem_rangeI]
    rcases List.mem_append.1 hx with h | h
    · exact (mem_owned.1 h).1
    · obtain ⟨p, _, h⟩ := List.mem_flatMap.1 h
      exact (mem_owned.1 h).1
  rw [List.length_append, show (rangeI s.2.2.length).length = s.2.2.length from by simp [rangeI]] at hle
  have : ((l.flatMap fun p => owned s.2.2 p.1).length : Int) ≤ used s := by unfold used; omega
  exact Int.le_trans h1 (Int.mul_le_mul_of_nonneg_right this (by have := sz_pos' s.1; omega))
end Go.Proofs.YtgllefepfnbmkaaDoor
