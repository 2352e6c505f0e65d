/-
  The laws of package reserve: the statements.
-/
import Derived.Test.YtgllefepfnbmkaaDoorRsvL
set_option linter.unusedVariables false
namespace Go.Proofs.YtgllefepfnbmkaaDoor
open Go Go.V3

theorem awake_ok : Fbeltwaylaw16_awake = some true := by
  have h0 := VS.new (s := 3) (n := 8) (by omega) (by omega)
  have hn : Fbeltwayref03_New 3 8 = _ := rNew_ok (s := 3) (n := 8) (by omega) (by omega)
  have g : Good (⟨#[115]⟩, [(0, 0, 0, 0)], 1) := good1 (nm_of (by decide)) (.inl rfl) (by omega) (by omega)
  have hc : Fconfig_Complete (⟨#[115]⟩, [(0, 0, 0, 0)], 1) = some true := by
    unfold Fconfig_Complete
    rw [g.check, Option.bind_some, if_pos (show (0 : Int) = 0 from rfl)]
    decide
  obtain ⟨v, c1, c2⟩ := comp_eq (c := (⟨#[115]⟩, [(0, 0, 0, 0)], 1)) (by decide) (by decide) g.sh
  rw [hc] at c1
  obtain rfl := Option.some.inj c1
  unfold Fbeltwaylaw16_awake Fbeltwaylaw16_semispace
  rw [hn, Option.bind_some]
  simp only
  rcases Alloc_ok (3, List.replicate (8 * sz 3).toNat 0#64, List.replicate (8 : Int).toNat (-1, -1, -1)) (0, 0, -1, -1, 0) 20 with ⟨h, _⟩ | ⟨_, ⟨_, h, _⟩ | ⟨_, ⟨h, _⟩ | ⟨_, t, j, a, l, l', e1, g1⟩⟩⟩
  · exact absurd ⟨h0, fit0 _ (by omega) (by omega) (by omega) (by omega), by omega, by omega⟩ h
  · exact absurd (by decide) h
  · exact absurd h (by decide)
  rw [e1, Option.bind_some, Option.bind_some]
  obtain ⟨t0, t1, fs⟩ := t
  obtain ⟨q, b, F, L, w⟩ := j
  have e2 : (fs, F, L) = ([(0, 0, 1), (0, 0, 2), (0, 0, -1), (-1, -1, -1), (-1, -1, -1), (-1, -1, -1), (-1, -1, -1), (-1, -1, -1)], 0, 2) := g1.gw.trans (by decide)
  simp only [Prod.mk.injEq] at e2
  obtain ⟨rfl, rfl, rfl⟩ := e2
  obtain rfl : q = 0 := g1.seq
  obtain rfl : b = 0 := g1.belt
  obtain rfl : w = 20 := g1.words
  obtain rfl : t0 = 3 := g1.sh
  obtain rfl : t1 = List.replicate (8 * sz 3).toNat 0#64 := g1.ws
  have hq : Qs (3, List.replicate (8 * sz 3).toNat 0#64, [(0, 0, 1), (0, 0, 2), (0, 0, -1), (-1, -1, -1), (-1, -1, -1), (-1, -1, -1), (-1, -1, -1), (-1, -1, -1)]) [[(0, 0, 0, 2, 20)]] := ⟨g1.vs, by decide, by decide, by decide, by decide⟩
  obtain ⟨b1, p1, _, p2⟩ := Grants_ok hc c2 hq (i := (0, 0, 0, 2, 20)) (n := 8) (by decide) (by decide) (by decide) (by decide)
  obtain ⟨b2, q1, _, q2⟩ := Grants_ok hc c2 hq (i := (0, 0, 0, 2, 20)) (n := 16) (by decide) (by decide) (by decide) (by decide)
  have hb1 : b1 = true := p2.2 (.inr (.inl ⟨rfl, by decide⟩))
  have hb2 : b2 = false := by
    rw [← Bool.not_eq_true, q2]
    rintro (h | ⟨_, h⟩ | ⟨h, _⟩)
    · exact absurd h (by decide)
    · exact absurd h (by decide)
    · exact absurd h (by decide)
  simp only
  rw [(Needed_ok hc c2 hq).1, Option.bind_some, if_pos (by decide), Option.bind_some, p1, hb1, Option.bind_some, if_pos rfl, Option.bind_some, q1, hb2, Option.bind_some, if_pos (by decide), Option.bind_some, (Holds_ok hc c2 hq).1]
  decide

theorem law_ReserveCounts (y0 : List Int) (w0 : Wf (.slice (.int .i64)) y0) (y1 : Int) (w1 : I64 y1) (y2 : Int) (w2 : I64 y2) : Fbeltwaylaw16_ReserveCounts y0 y1 y2 = some true := by
  unfold Fbeltwaylaw16_ReserveCounts
  obtain ⟨d, e1, hd⟩ := New0_ok y0 w0.1
  obtain ⟨c, s, l, q, d', e2, h⟩ := belts_ok hd
  obtain ⟨v, c1, c2⟩ := h.comp
  have hq := h.qs
  rw [e1, Option.bind_some, e2, Option.bind_some]
  simp only
  rw [(Needed_ok c1 c2 hq).1, (Needed_ok c1 c2 hq).2, Option.bind_some, Option.bind_some, if_neg (not_not_intro rfl), (Holds_ok c1 c2 hq).1, (Holds_ok c1 c2 hq).2, Option.bind_some, Option.bind_some, if_neg (not_not_intro rfl)]
  have hlen := h.n
  refine (loopO_up (fun k (st : List Inc × Int) => k ≤ q.length ∧ st.2 = (k : Int) ∧ st.1.length ≤ 1 + 1000 * k ∧ ∀ i ∈ st.1, 0 ≤ i.2.2.2.2 ∧ i.2.2.2.2 ≤ 16384) (fun b => b = true) q.length ?_ ?_ (s := ([(99, 0, -1, -1, 0)], 0)) ⟨by omega, rfl, by decide, by decide⟩).elim fun b hb => by rw [hb.1, hb.2]
  · rintro k ⟨acc, x⟩ hk ⟨_, rfl, h1, h2⟩
    simp only at h1 h2 ⊢
    have hl := hq.xlen (gl [] q k) (gl_mem hk)
    rw [if_pos (by omega), if_pos (by omega), Int.toNat_natCast, if_pos (by omega), w64_id (by omega) (by omega)]
    refine .inl ⟨_, rfl, by omega, rfl, by simp only [List.length_append]; omega, fun i hi => ?_⟩
    rcases List.mem_append.1 hi with hi | hi
    · exact h2 i hi
    · exact hq.w i (List.mem_flatten.2 ⟨_, gl_mem hk, hi⟩)
  · rintro ⟨acc, x⟩ ⟨_, rfl, h1, h2⟩
    simp only at h1 h2 ⊢
    rw [if_neg (by omega)]
    refine map_inr ⟨true, ?_, rfl⟩
    refine loopO_run acc.length (fun k hk => ?_) (by rw [if_neg (by omega), awake_ok]; rfl)
    obtain ⟨m, e3, a0, a1, _⟩ := Mod_ok y2 (m := 48) (by omega) (by omega)
    obtain ⟨j0, j1⟩ := h2 (gl ((0, 0, 0, 0, 0) : Inc) acc k) (gl_mem hk)
    rw [if_pos (by omega), if_pos (by omega), e3, Option.bind_some, Int.toNat_natCast, w64_id (e := 1 + m) (by omega) (by omega), w64_id (e := (k : Int) + 1) (by omega) (by omega)]
    generalize gl ((0, 0, 0, 0, 0) : Inc) acc k = i at j0 j1 ⊢
    rw [show (i.1, i.2.1, i.2.2.1, i.2.2.2) = i from rfl]
    refine loopO_run 3 (fun z hz => ?_) (by rw [if_neg (by simp)])
    rw [if_pos (by simp; omega), if_pos ⟨by omega, by simp; omega⟩]
    have hn := gl_mem (d := (0 : Int)) (xs := [1, 1 + m, 48]) (k := (z : Int).toNat) (by simp; omega)
    generalize gl (0 : Int) [1, 1 + m, 48] (z : Int).toNat = n at hn ⊢
    simp only [List.mem_cons, List.not_mem_nil, or_false] at hn
    obtain ⟨b, b1, b2, _⟩ := Grants_ok c1 c2 hq (i := i) (n := n) j0 j1 (by omega) (by omega)
    rw [b1, b2, Option.bind_some, Option.bind_some, if_neg (not_not_intro rfl), w64_id (by omega) (by omega)]

theorem Gr.less {v : Bool} {F u L k k' f : Int} (h : Gr v F u L k f) (h0 : 0 ≤ k') (h1 : k' ≤ k) : Gr v F u L k' f := by
  unfold Gr at *
  rcases h with h | h | h
  · exact .inl (by omega)
  · exact .inr (.inl ⟨h.1, by omega⟩)
  · exact .inr (.inr ⟨h.1, by omega, by omega⟩)
theorem ite_max (a b : Int) : (if b > a then b else a) = max a b := by rw [Int.max_def]; split <;> split <;> omega
theorem law_ReserveMore (y0 : List Int) (w0 : Wf (.slice (.int .i64)) y0) (y1 : Int) (w1 : I64 y1) (y2 : Int) (w2 : I64 y2) (y3 : Int) (w3 : I64 y3) : Fbeltwaylaw16_ReserveMore y0 y1 y2 y3 = some true := by
  unfold Fbeltwaylaw16_ReserveMore
  obtain ⟨d, e1, hd⟩ := New0_ok y0 w0.1
  obtain ⟨c, s, l, q, d', e2, h⟩ := belts_ok hd
  obtain ⟨v, c1, c2⟩ := h.comp
  have hq := h.qs
  have hlen := h.n
  rw [e1, Option.bind_some, e2, Option.bind_some]
  simp only
  have pick : ∃ i : Inc, Option.bind (Fbeltwayref11_Youngest q 0) (fun r3 =>
      if r3.2 = true then
      Option.bind (Fbeltwaymake_Mod y1 2) (fun r4 =>
      if r4 = 0 then
      some (Sum.inl (r3.1))
      else some (Sum.inl ((99, 0, (-1), (-1), 0))))
      else some (Sum.inl ((99, 0, (-1), (-1), 0)))) = (some (Sum.inl i) : Option (Inc ⊕ Bool)) ∧ 0 ≤ i.2.2.2.2 ∧ i.2.2.2.2 ≤ 16384 := by
    rcases rYoungest_ok (q := q) (fun x hx => by have := hq.xlen x hx; omega) (b := 0) (by omega) (by omega) with ⟨_, e⟩ | ⟨y, hy, e⟩
    · rw [e, Option.bind_some, if_neg (by simp)]
      exact ⟨_, rfl, by decide, by decide⟩
    · obtain ⟨m, e3, _⟩ := Mod_ok y1 (m := 2) (by omega) (by omega)
      rw [e, Option.bind_some, if_pos rfl, e3, Option.bind_some]
      by_cases hm : m = 0
      · rw [if_pos hm]
        exact ⟨_, rfl, hq.w y (List.mem_flatten.2 ⟨_, gl_mem (by omega), hy⟩)⟩
      · rw [if_neg hm]
        exact ⟨_, rfl, by decide, by decide⟩
  obtain ⟨i, e3, j0, j1⟩ := pick
  rw [e3, Option.bind_some]
  simp only
  obtain ⟨m, e4, a0, a1, _⟩ := Mod_ok y2 (m := 48) (by omega) (by omega)
  obtain ⟨n, e5, b0, b1, _⟩ := Mod_ok y3 (m := 48) (by omega) (by omega)
  rw [e4, Option.bind_some, e5, Option.bind_some, w64_id (e := 1 + m) (by omega) (by omega), w64_id (e := 1 + n) (by omega) (by omega)]
  have hab : (if 1 + n < 1 + m then 1 + n else 1 + m) ≤ (if 1 + n > 1 + m then 1 + n else 1 + m) ∧ 1 ≤ (if 1 + n < 1 + m then 1 + n else 1 + m) ∧ (if 1 + n > 1 + m then 1 + n else 1 + m) ≤ 48 := by
    split <;> split <;> omega
  generalize (if 1 + n < 1 + m then 1 + n else 1 + m) = lo at hab ⊢
  generalize (if 1 + n > 1 + m then 1 + n else 1 + m) = hi at hab ⊢
  obtain ⟨g1, p1, _, p2⟩ := Grants_ok c1 c2 hq (i := i) (n := hi) j0 j1 (by omega) (by omega)
  obtain ⟨g2, q1, _, q2⟩ := Grants_ok c1 c2 hq (i := i) (n := lo) j0 j1 (by omega) (by omega)
  have hz := sz_pos' s.1
  have hmono : g1 = true → g2 = true := fun hg => q2.2 ((p2.1 hg).less (by have := cl_le hz (show i.2.2.2.2 ≤ i.2.2.2.2 + lo by omega); unfold more; omega) (by have := cl_le hz (show i.2.2.2.2 + lo ≤ i.2.2.2.2 + hi by omega); unfold more; omega))
  have hn := h.made.vs.n.2
  have hh := (Holds_ok c1 c2 hq).1
  have hw := words_le h.made
  have hflat := h.words
  have hfl : (frees s.2.2).length ≤ s.2.2.length := owned_len s.2.2 (-1)
  obtain ⟨z1, z2⟩ := sz_le h.made.vs.sh
  have u0 := used_ge s
  have u1 : used s * sz s.1 ≤ 10 * 256 := Int.mul_le_mul (by have := h.made.n; unfold used; omega) (by omega) (by omega) (by omega)
  have f1 : ((frees s.2.2).length : Int) * sz s.1 ≤ 10 * 256 := Int.mul_le_mul (by have := h.made.n; omega) (by omega) (by omega) (by omega)
  have f0 : 0 ≤ ((frees s.2.2).length : Int) * sz s.1 := Int.mul_nonneg (by omega) (by omega)
  have hW := rWords_ok (q := q) (by omega) (fun x hx => by have := hq.xlen x hx; omega) (fun i hi => (hq.w i hi).1) (by omega)
  have hfin : v = true → ((frees s.2.2).length : Int) ≥ need v s q → w64 (((frees s.2.2).length : Int) * sz s.1) ≥ wsum q.flatten := by
    rintro rfl h2
    have : need true s q = used s := rfl
    have h3 : used s * sz s.1 ≤ ((frees s.2.2).length : Int) * sz s.1 := Int.mul_le_mul_of_nonneg_right (by omega) (by omega)
    rw [w64_id (by omega) (by omega)]; omega
  rw [p1, Option.bind_some]
  have tail : Option.bind (Fbeltwayref12_Complete c) (fun r9 =>
      if r9 = true then
      Option.bind (Freserve_Holds c s q) (fun r10 =>
      if r10 = true then
      Option.bind (Fbeltwayref04_Free s) (fun r11 =>
      if True then
      Option.bind (Fbeltwayref11_Words q) (fun r12 =>
      some (decide ((w64 ((r11.length : Int) * 2 ^ min (BitVec.ofInt 64 s.1).toNat 64)) ≥ r12)))
      else none)
      else Option.bind (Fbeltwaylaw16_awake) (fun r13 =>
      some (r13)))
      else Option.bind (Fbeltwaylaw16_awake) (fun r14 =>
      some (r14))) = some true := by
    rw [c2, Option.bind_some, hh, Option.bind_some, awake_ok, Free_ok hn, Option.bind_some, hW, pow_sz h.made.vs.sh]
    by_cases hv : v = true
    · rw [if_pos hv]
      by_cases h2 : ((frees s.2.2).length : Int) ≥ need v s q
      · rw [if_pos (decide_eq_true h2), if_pos trivial, Option.bind_some, decide_eq_true (hfin hv h2)]
      · rw [if_neg (by simpa using h2)]; rfl
    · rw [if_neg hv]; rfl
  cases g1 with
  | true =>
    rw [if_pos rfl, q1, hmono rfl, Option.bind_some, if_neg (by decide)]
    exact tail
  | false =>
    rw [if_neg (by decide)]
    exact tail
namespace reserveCounts
open Go.ChangeShapes Go.WideShapes Go.ChangeAt Go.RowKit Go.V3
set_option linter.unusedVariables false
theorem own : ownKnob Tryd.prog.godebug = none := by kernel_rfl
theorem laidOut : laidOutB Tryd.prog = true := by kernel_rfl
theorem door_met (os : Os) (args : Array Value) : laidMetH Tryd.prog [("math/bits.deBruijn64tab", Rows.laid_math_bits_deBruijn64tab)] ((World.doorLaid Tryd.prog 4000 os).forCall (fun _ _ => 0) ⟨#[], args, []⟩).memory :=
  laidMetH_of_parts3 (fuel := 8) (laidMet_of_run' 8 (by kernel_rfl) (by kernel_rfl)) (by kernel_rfl) (by kernel_rfl)
set_option maxRecDepth 100000 in
theorem lifted (os : Os) (started : os.Started) (H : Type) (enc : TypeId × Value → H) :
    ReturnsInHanded {} Tryd.checked os 3 .any (fun w args => (Rows.reserveCountsSpec.pre enc Tryd.prog Tryd.f3 [] false w args ∧ laidMetH Tryd.prog [("math/bits.deBruijn64tab", Rows.laid_math_bits_deBruijn64tab)] w) ∧ sizedMet enc Tryd.prog Tryd.f3 (OpenSpec.ofChange Rows.reserveCountsSpec) false w args) (Rows.reserveCountsSpec.post enc Tryd.prog Tryd.f3 false true false false) := by
  refine returnsInHanded_of_change_and (C := Tryd.checked) (X := fun w _ => laidMetH Tryd.prog [("math/bits.deBruijn64tab", Rows.laid_math_bits_deBruijn64tab)] w) (fun _ _ _ hh h => h.of_heap hh) own started (by kernel_rfl) Tryd.func3
    (ChangeSpec.witness_shaped (enc := enc) (C := Tryd.checked) (os := os) (X := fun w _ => laidMetH Tryd.prog [("math/bits.deBruijn64tab", Rows.laid_math_bits_deBruijn64tab)] w) false (World.doorLaid Tryd.prog 4000 os) #[.slice none 0 0, .int .i64 0, .int .i64 0] 8 rfl (World.shaped_of_RefB (by kernel_rfl) (by kernel_rfl)) (by kernel_rfl) (by kernel_rfl) (by kernel_rfl) (door_met os _)) ?_
  intro W base args ds gs before hval0 hW _ _ hL _
  have hT : TabW tabs W := by
    intro q hq
    simp only [tabs, List.mem_cons, List.not_mem_nil, or_false] at hq
    subst hq
    exact tab_of_laid (t := 107) hL (by kernel_rfl) (e := 5) (k := .u8) (len := 64) (by kernel_rfl) (by kernel_rfl) (by kernel_rfl) (by kernel_rfl) (by kernel_rfl) (by kernel_rfl) [0, 1, 56, 2, 57, 49, 28, 3, 61, 58, 42, 50, 38, 29, 17, 4, 62, 47, 59, 36, 45, 43, 51, 22, 53, 39, 33, 30, 24, 18, 12, 5, 63, 55, 48, 27, 60, 41, 37, 16, 46, 35, 44, 21, 52, 32, 23, 11, 54, 26, 40, 15, 34, 20, 31, 10, 25, 14, 19, 9, 13, 8, 7, 6] rfl
  have hval : ∀ (j : Nat) t v, Tryd.f3.params[j]? = some t → args[j]? = some v → Value.okWide Tryd.prog W .any base t v := hval0
  have hW' := hW
  obtain ⟨p, q, hA0, hV, rfl, hfz, hnd⟩ := hW
  have hA : DataW.TrodAll enc Tryd.prog W 0 (fun _ => true) true Tryd.f3.params.toList args.toList ds p := hA0
  rw [Tryd.params3] at hA hval
  obtain ⟨v0, vs0, d0, ds0, p0, q0, hargs, rfl, rfl, h0, r0⟩ := trodAll_cons hA
  obtain ⟨v1, vs1, d1, ds1, p1, q1, rfl, rfl, rfl, h1, r1⟩ := trodAll_cons r0
  obtain ⟨v2, vs2, d2, ds2, p2, q2, rfl, rfl, rfl, h2, r2⟩ := trodAll_cons r1
  obtain ⟨rfl, rfl, rfl⟩ := trodAll_nil r2
  obtain rfl : args = #[v0, v1, v2] := by cases args; simp_all
  obtain ⟨rfl, rfl⟩ := trodVars_none hV
  have k0 := h0
  have lt0 : ∀ x ∈ p0, x.block < W.heap.size := by obtain ⟨m, hm⟩ := k0; exact DataW.trod_lt m _ _ _ hm
  obtain ⟨y0, R0, w0⟩ := handed 40 (.slice (.int .i64)) (by kernel_rfl) (hval 0 22 v0 rfl rfl) k0
  have k1 := h1
  have lt1 : ∀ x ∈ p1, x.block < W.heap.size := by obtain ⟨m, hm⟩ := k1; exact DataW.trod_lt m _ _ _ hm
  obtain ⟨y1, R1, w1⟩ := handed 40 (.int .i64) (by kernel_rfl) (hval 1 3 v1 rfl rfl) k1
  have k2 := h2
  have lt2 : ∀ x ∈ p2, x.block < W.heap.size := by obtain ⟨m, hm⟩ := k2; exact DataW.trod_lt m _ _ _ hm
  obtain ⟨y2, R2, w2⟩ := handed 40 (.int .i64) (by kernel_rfl) (hval 2 3 v2 rfl rfl) k2
  have A3 := Args.nil W
  obtain ⟨m2, A2⟩ := A3.cons (t := (.int .i64)) (.inr ⟨rfl, plainForm (t := 3) rfl (hval 2 3 v2 rfl rfl)⟩) y2 R2
  obtain ⟨m1, A1⟩ := A2.cons (t := (.int .i64)) (.inr ⟨rfl, plainForm (t := 3) rfl (hval 1 3 v1 rfl rfl)⟩) y1 R1
  obtain ⟨m0, A0⟩ := A1.cons (t := (.slice (.int .i64))) (.inr ⟨rfl, plainForm (t := 22) rfl (hval 0 22 v0 rfl rfl)⟩) y0 R0
  refine (law_args (fi := iFbeltwaylaw16_ReserveCounts) okFbeltwaylaw16_ReserveCounts hT (r := (true : Bool)) (vals := #[v0, v1, v2]) (w := W) A0 (law_ReserveCounts y0 w0 y1 (i64_of_wf w1) y2 (i64_of_wf w2)) (fun _ => rfl)).mono fun e W' ⟨he, bel⟩ => ?_
  subst he
  simp only [List.append_nil] at hW'
  exact ⟨_, rfl, _, _, _, [], _, [], hW', trodAll_mk1 (shut_bool Tryd.underlying4 _), (trodAll_cons_mk (Below.trod laidOut (by kernel_rfl) (of_decide_eq_true (by kernel_rfl)) k0 bel lt0) (trodAll_cons_mk (Below.trod laidOut (by kernel_rfl) (of_decide_eq_true (by kernel_rfl)) k1 bel lt1) (trodAll_cons_mk (Below.trod laidOut (by kernel_rfl) (of_decide_eq_true (by kernel_rfl)) k2 bel lt2) trodAll_mk0))), rfl, bel.frame _, fun h => by cases h⟩
theorem proved : Rows.ReserveCountsSaid :=
  OpenClaim.holds_of_wide 3 Tryd.f3 rfl rfl rfl rfl rfl rfl rfl ⟨rfl, rfl, rfl, rfl, rfl⟩ rfl rfl rfl rfl rfl (by kernel_rfl) Tryd.func3 (by kernel_rfl)
    (of_decide_eq_true (by kernel_rfl)) (by unfold Func.isWrapper; first | (rw [if_pos (by decide +kernel)]; kernel_rfl) | (rw [if_neg (by decide +kernel)]; exact ⟨rfl, rfl⟩))
    (fun os started H enc _ => lifted os started H enc)
theorem card : Rows.ReserveCountsCardSaid :=
  Claim7.holds_tied_plain_at .later [] [.data] true (true, "49a39cfe857223c3ce89ae55973487ac8814b4c217cec6e9da22c8fe57a5dc39") false proved (fun _ h => by cases h) (by kernel_rfl) (fun _ h => by cases h) reserveCounts_row_tie rfl ⟨rfl, rfl⟩ (by kernel_rfl) rfl
    (fun f fn hf hfn => by
      obtain rfl : f = 3 := Option.some.inj ((show Tryd.prog.funcNamed "beltway/beltwaylaw16.ReserveCounts" = some 3 by kernel_rfl).symm.trans hf) |>.symm
      obtain rfl : fn = Tryd.f3 := (Option.some.inj (Tryd.func3.symm.trans hfn)).symm
      exact ⟨by kernel_rfl, fun j t ht => by
        rw [Tryd.params3] at ht
        have hm : t ∈ [22, 3, 3] := by simpa using Array.mem_of_getElem? ht
        have hall : ([22, 3, 3].all fun u => !Tryd.prog.wantsStandIn u) = true := by kernel_rfl
        exact (show Tryd.prog.wantsStandIn t = false by simpa using List.all_eq_true.1 hall t hm)⟩)
    (by kernel_rfl)
end reserveCounts
namespace reserveMore
open Go.ChangeShapes Go.WideShapes Go.ChangeAt Go.RowKit Go.V3
set_option linter.unusedVariables false
theorem own : ownKnob Tryd.prog.godebug = none := by kernel_rfl
theorem laidOut : laidOutB Tryd.prog = true := by kernel_rfl
theorem door_met (os : Os) (args : Array Value) : laidMetH Tryd.prog [("math/bits.deBruijn64tab", Rows.laid_math_bits_deBruijn64tab)] ((World.doorLaid Tryd.prog 4000 os).forCall (fun _ _ => 0) ⟨#[], args, []⟩).memory :=
  laidMetH_of_parts3 (fuel := 8) (laidMet_of_run' 8 (by kernel_rfl) (by kernel_rfl)) (by kernel_rfl) (by kernel_rfl)
set_option maxRecDepth 100000 in
theorem lifted (os : Os) (started : os.Started) (H : Type) (enc : TypeId × Value → H) :
    ReturnsInHanded {} Tryd.checked os 5 .any (fun w args => (Rows.reserveMoreSpec.pre enc Tryd.prog Tryd.f5 [] false w args ∧ laidMetH Tryd.prog [("math/bits.deBruijn64tab", Rows.laid_math_bits_deBruijn64tab)] w) ∧ sizedMet enc Tryd.prog Tryd.f5 (OpenSpec.ofChange Rows.reserveMoreSpec) false w args) (Rows.reserveMoreSpec.post enc Tryd.prog Tryd.f5 false true false false) := by
  refine returnsInHanded_of_change_and (C := Tryd.checked) (X := fun w _ => laidMetH Tryd.prog [("math/bits.deBruijn64tab", Rows.laid_math_bits_deBruijn64tab)] w) (fun _ _ _ hh h => h.of_heap hh) own started (by kernel_rfl) Tryd.func5
    (ChangeSpec.witness_shaped (enc := enc) (C := Tryd.checked) (os := os) (X := fun w _ => laidMetH Tryd.prog [("math/bits.deBruijn64tab", Rows.laid_math_bits_deBruijn64tab)] w) false (World.doorLaid Tryd.prog 4000 os) #[.slice none 0 0, .int .i64 0, .int .i64 0, .int .i64 0] 8 rfl (World.shaped_of_RefB (by kernel_rfl) (by kernel_rfl)) (by kernel_rfl) (by kernel_rfl) (by kernel_rfl) (door_met os _)) ?_
  intro W base args ds gs before hval0 hW _ _ hL _
  have hT : TabW tabs W := by
    intro q hq
    simp only [tabs, List.mem_cons, List.not_mem_nil, or_false] at hq
    subst hq
    exact tab_of_laid (t := 107) hL (by kernel_rfl) (e := 5) (k := .u8) (len := 64) (by kernel_rfl) (by kernel_rfl) (by kernel_rfl) (by kernel_rfl) (by kernel_rfl) (by kernel_rfl) [0, 1, 56, 2, 57, 49, 28, 3, 61, 58, 42, 50, 38, 29, 17, 4, 62, 47, 59, 36, 45, 43, 51, 22, 53, 39, 33, 30, 24, 18, 12, 5, 63, 55, 48, 27, 60, 41, 37, 16, 46, 35, 44, 21, 52, 32, 23, 11, 54, 26, 40, 15, 34, 20, 31, 10, 25, 14, 19, 9, 13, 8, 7, 6] rfl
  have hval : ∀ (j : Nat) t v, Tryd.f5.params[j]? = some t → args[j]? = some v → Value.okWide Tryd.prog W .any base t v := hval0
  have hW' := hW
  obtain ⟨p, q, hA0, hV, rfl, hfz, hnd⟩ := hW
  have hA : DataW.TrodAll enc Tryd.prog W 0 (fun _ => true) true Tryd.f5.params.toList args.toList ds p := hA0
  rw [Tryd.params5] at hA hval
  obtain ⟨v0, vs0, d0, ds0, p0, q0, hargs, rfl, rfl, h0, r0⟩ := trodAll_cons hA
  obtain ⟨v1, vs1, d1, ds1, p1, q1, rfl, rfl, rfl, h1, r1⟩ := trodAll_cons r0
  obtain ⟨v2, vs2, d2, ds2, p2, q2, rfl, rfl, rfl, h2, r2⟩ := trodAll_cons r1
  obtain ⟨v3, vs3, d3, ds3, p3, q3, rfl, rfl, rfl, h3, r3⟩ := trodAll_cons r2
  obtain ⟨rfl, rfl, rfl⟩ := trodAll_nil r3
  obtain rfl : args = #[v0, v1, v2, v3] := by cases args; simp_all
  obtain ⟨rfl, rfl⟩ := trodVars_none hV
  have k0 := h0
  have lt0 : ∀ x ∈ p0, x.block < W.heap.size := by obtain ⟨m, hm⟩ := k0; exact DataW.trod_lt m _ _ _ hm
  obtain ⟨y0, R0, w0⟩ := handed 40 (.slice (.int .i64)) (by kernel_rfl) (hval 0 22 v0 rfl rfl) k0
  have k1 := h1
  have lt1 : ∀ x ∈ p1, x.block < W.heap.size := by obtain ⟨m, hm⟩ := k1; exact DataW.trod_lt m _ _ _ hm
  obtain ⟨y1, R1, w1⟩ := handed 40 (.int .i64) (by kernel_rfl) (hval 1 3 v1 rfl rfl) k1
  have k2 := h2
  have lt2 : ∀ x ∈ p2, x.block < W.heap.size := by obtain ⟨m, hm⟩ := k2; exact DataW.trod_lt m _ _ _ hm
  obtain ⟨y2, R2, w2⟩ := handed 40 (.int .i64) (by kernel_rfl) (hval 2 3 v2 rfl rfl) k2
  have k3 := h3
  have lt3 : ∀ x ∈ p3, x.block < W.heap.size := by obtain ⟨m, hm⟩ := k3; exact DataW.trod_lt m _ _ _ hm
  obtain ⟨y3, R3, w3⟩ := handed 40 (.int .i64) (by kernel_rfl) (hval 3 3 v3 rfl rfl) k3
  have A4 := Args.nil W
  obtain ⟨m3, A3⟩ := A4.cons (t := (.int .i64)) (.inr ⟨rfl, plainForm (t := 3) rfl (hval 3 3 v3 rfl rfl)⟩) y3 R3
  obtain ⟨m2, A2⟩ := A3.cons (t := (.int .i64)) (.inr ⟨rfl, plainForm (t := 3) rfl (hval 2 3 v2 rfl rfl)⟩) y2 R2
  obtain ⟨m1, A1⟩ := A2.cons (t := (.int .i64)) (.inr ⟨rfl, plainForm (t := 3) rfl (hval 1 3 v1 rfl rfl)⟩) y1 R1
  obtain ⟨m0, A0⟩ := A1.cons (t := (.slice (.int .i64))) (.inr ⟨rfl, plainForm (t := 22) rfl (hval 0 22 v0 rfl rfl)⟩) y0 R0
  refine (law_args (fi := iFbeltwaylaw16_ReserveMore) okFbeltwaylaw16_ReserveMore hT (r := (true : Bool)) (vals := #[v0, v1, v2, v3]) (w := W) A0 (law_ReserveMore y0 w0 y1 (i64_of_wf w1) y2 (i64_of_wf w2) y3 (i64_of_wf w3)) (fun _ => rfl)).mono fun e W' ⟨he, bel⟩ => ?_
  subst he
  simp only [List.append_nil] at hW'
  exact ⟨_, rfl, _, _, _, [], _, [], hW', trodAll_mk1 (shut_bool Tryd.underlying4 _), (trodAll_cons_mk (Below.trod laidOut (by kernel_rfl) (of_decide_eq_true (by kernel_rfl)) k0 bel lt0) (trodAll_cons_mk (Below.trod laidOut (by kernel_rfl) (of_decide_eq_true (by kernel_rfl)) k1 bel lt1) (trodAll_cons_mk (Below.trod laidOut (by kernel_rfl) (of_decide_eq_true (by kernel_rfl)) k2 bel lt2) (trodAll_cons_mk (Below.trod laidOut (by kernel_rfl) (of_decide_eq_true (by kernel_rfl)) k3 bel lt3) trodAll_mk0)))), rfl, bel.frame _, fun h => by cases h⟩
theorem proved : Rows.ReserveMoreSaid :=
  OpenClaim.holds_of_wide 5 Tryd.f5 rfl rfl rfl rfl rfl rfl rfl ⟨rfl, rfl, rfl, rfl, rfl⟩ rfl rfl rfl rfl rfl (by kernel_rfl) Tryd.func5 (by kernel_rfl)
    (of_decide_eq_true (by kernel_rfl)) (by unfold Func.isWrapper; first | (rw [if_pos (by decide +kernel)]; kernel_rfl) | (rw [if_neg (by decide +kernel)]; exact ⟨rfl, rfl⟩))
    (fun os started H enc _ => lifted os started H enc)
theorem card : Rows.ReserveMoreCardSaid :=
  Claim7.holds_tied_plain_at .later [] [.data] true (true, "49a39cfe857223c3ce89ae55973487ac8814b4c217cec6e9da22c8fe57a5dc39") false proved (fun _ h => by cases h) (by kernel_rfl) (fun _ h => by cases h) reserveMore_row_tie rfl ⟨rfl, rfl⟩ (by kernel_rfl) rfl
    (fun f fn hf hfn => by
      obtain rfl : f = 5 := Option.some.inj ((show Tryd.prog.funcNamed "beltway/beltwaylaw16.ReserveMore" = some 5 by kernel_rfl).symm.trans hf) |>.symm
      obtain rfl : fn = Tryd.f5 := (Option.some.inj (Tryd.func5.symm.trans hfn)).symm
      exact ⟨by kernel_rfl, fun j t ht => by
        rw [Tryd.params5] at ht
        have hm : t ∈ [22, 3, 3, 3] := by simpa using Array.mem_of_getElem? ht
        have hall : ([22, 3, 3, 3].all fun u => !Tryd.prog.wantsStandIn u) = true := by kernel_rfl
        exact (show Tryd.prog.wantsStandIn t = false by simpa using List.all_eq_true.1 hall t hm)⟩)
    (by kernel_rfl)
end reserveMore
end Go.Proofs.YtgllefepfnbmkaaDoor
