/-
  The law ConfigChecks.
-/
import Derived.Test.YtpdajijinipgdaaCfgO
set_option linter.unusedVariables false
namespace Go.Proofs.Ytpdajijinipgdaa
open Go Go.V3

theorem chk_len {c : Cf} (h : chk c = 0) : 1 ≤ c.2.1.length ∧ c.2.1.length ≤ 4 := by
  unfold chk at h
  by_cases h1 : nmOk c.1
  · rw [if_neg (not_not_intro h1)] at h
    exact Classical.byContradiction fun hn => by rw [if_pos hn] at h; exact absurd h (by decide)
  · rw [if_pos h1] at h; exact absurd h (by decide)
theorem comp_eq {c : Cf} (hn : c.2.1.length ≤ 1000) (hsz : c.1.size ≤ 1000000) (hs : Sh c) : ∃ v, Fconfig_Complete c = some v ∧ Fbeltwayref12_Complete c = some v := by
  unfold Fconfig_Complete Fbeltwayref12_Complete
  rw [check_ok hn hs, rCheck_ok hn hsz hs, Option.bind_some]
  by_cases h : chk c = 0
  · obtain ⟨n0, n1⟩ := chk_len h
    rw [if_pos h, w64_id (by omega) (by omega), if_pos (by omega)]
    exact ⟨_, rfl, rfl⟩
  · rw [if_neg h]
    exact ⟨_, rfl, rfl⟩
theorem cap_eq {c : Cf} (hn : c.2.1.length ≤ 1000) (hsz : c.1.size ≤ 1000000) (hs : Sh c) (b n : Int) : ∃ v, Fconfig_Cap c b n = some v ∧ Fbeltwayref12_Cap c b n = some v := by
  unfold Fconfig_Cap Fbeltwayref12_Cap
  rw [check_ok hn hs, rCheck_ok hn hsz hs, Option.bind_some, Option.bind_some]
  by_cases h : chk c = 0
  rotate_left
  · rw [if_pos h, if_pos h]; exact ⟨_, rfl, rfl⟩
  rw [if_neg (not_not_intro h), if_neg (not_not_intro h)]
  by_cases c1 : b < 0
  · rw [if_pos c1, if_pos c1]; exact ⟨_, rfl, rfl⟩
  rw [if_neg c1, if_neg c1]
  by_cases c2 : b ≥ (c.2.1.length : Int)
  · rw [if_pos c2, if_pos c2]; exact ⟨_, rfl, rfl⟩
  rw [if_neg c2, if_neg c2]
  by_cases c3 : n < 1
  · rw [if_pos c3, if_pos c3]; exact ⟨_, rfl, rfl⟩
  rw [if_neg c3, if_neg c3]
  by_cases c4 : n > 64
  · rw [if_pos c4, if_pos c4]; exact ⟨_, rfl, rfl⟩
  obtain ⟨v, v1, v2⟩ := frames_eq (hs b (by omega) (by omega)) n
  have hr : gl (0, 0, 0, 0) c.2.1 b.toNat = ru c b := rfl
  rw [if_neg c4, if_neg c4, if_pos (by omega), if_pos (by omega), hr, v1, v2]
  exact ⟨_, rfl, rfl⟩
def Shm (c : Cf) : Prop := ∀ r ∈ c.2.1, r.1 < 18446744073709551616
theorem Shm.sh {c : Cf} (h : Shm c) : Sh c := fun b b0 b1 => h _ (gl_mem (by omega))
theorem shm_set {s : ByteArray} {l : List Ru} {f : Int} {k : Nat} {r : Ru} (h : ∀ r ∈ l, r.1 < 18446744073709551616) (hr : r.1 < 18446744073709551616) : Shm (s, l.set k r, f) := by
  intro x hx
  rcases List.mem_or_eq_of_mem_set hx with h1 | h1
  · exact h x h1
  · rw [h1]; exact hr
theorem Sp_size : ∀ x ∈ ([⟨#[]⟩, ⟨#[65]⟩, ⟨#[97, 32, 98]⟩, ⟨#[45, 97]⟩, ⟨#[97, 98, 99, 100, 101, 102, 103, 104, 105, 106, 107, 108, 109, 110, 111, 112, 113]⟩, ⟨#[97, 49, 45]⟩, ⟨#[97, 98, 99, 100, 101, 102, 103, 104, 105, 106, 107, 108, 109, 110, 111, 112]⟩] : List ByteArray), x.size ≤ 1000 := by decide
theorem spoilt_ok {c : Cf} (hn : c.2.1.length ≤ 200) (hz : c.1.size ≤ 1000) (hm : Shm c) (what at' by' : Int) : ∃ u, Fbeltwaylaw12_spoilt c what at' by' = some u ∧ u.2.1.length ≤ 4 * c.2.1.length ∧ u.1.size ≤ 1000 ∧ Shm u := by
  obtain ⟨s, l, f⟩ := c
  simp only at hn hz
  have hm' : ∀ r ∈ l, r.1 < 18446744073709551616 := hm
  unfold Fbeltwaylaw12_spoilt
  simp only [List.nil_append]
  rw [if_pos (by simp only [List.length_nil]; omega)]
  by_cases h0 : (l.length : Int) = 0
  · rw [if_pos h0]
    exact ⟨_, rfl, by simp only; omega, hz, hm'⟩
  rw [if_neg h0]
  obtain ⟨k, e1, k0, k1⟩ := Mod_ok at' (m := (l.length : Int)) (by omega) (by omega)
  rw [e1, Option.bind_some, if_pos ⟨k0, k1⟩]
  obtain ⟨w, e2, w0, w1⟩ := Mod_ok what (m := 11) (by omega) (by omega)
  rw [e2, Option.bind_some]
  have hold : (gl ((0, 0, 0, 0) : Ru) l k.toNat).1 < 18446744073709551616 := hm' _ (gl_mem (by omega))
  by_cases c0 : w = 0
  · rw [if_pos c0]
    obtain ⟨y, e3, y0, y1⟩ := Mod_ok by' (m := 7) (by omega) (by omega)
    rw [e3, Option.bind_some, if_pos ⟨y0, by simp; omega⟩]
    exact ⟨_, rfl, by simp only; omega, Sp_size _ (gl_mem (by simp; omega)), hm'⟩
  rw [if_neg c0]
  by_cases c1 : w = 1
  · rw [if_pos c1]
    exact ⟨_, rfl, by simp, hz, fun r hr => by cases hr⟩
  rw [if_neg c1]
  by_cases c2 : w = 2
  · rw [if_pos c2, if_pos (by omega), if_pos (by simp; omega)]
    refine ⟨_, rfl, by simp; omega, hz, fun r hr => ?_⟩
    simp only [List.mem_append] at hr
    rcases hr with (h | h) | (h | h) <;> exact hm' r h
  rw [if_neg c2]
  by_cases c3 : w = 3
  · rw [if_pos c3]
    have e1 : Fmath_NaN = some 9221120237041090561 := by decide
    have e2 : Fmath_Inf 1 = some 9218868437227405312 := by decide
    have e4 : Fmath_Copysign 0 13830554455654793216 = some 9223372036854775808 := by decide
    rw [e1, Option.bind_some, e2, Option.bind_some, e4, Option.bind_some]
    obtain ⟨y, e3, y0, y1⟩ := Mod_ok by' (m := 8) (by omega) (by omega)
    rw [e3, Option.bind_some, if_pos ⟨y0, by simp; omega⟩]
    refine ⟨_, rfl, by simp only [List.length_set]; omega, hz, shm_set hm' ?_⟩
    simp only
    have hx := gl_mem (d := (0 : Nat)) (xs := [9221120237041090561, 9218868437227405312, 13826050856027422720, 9223372036854775808, 4609434218613702656, 4607182418800017408, 0, 1]) (k := y.toNat) (by simp; omega)
    generalize gl (0 : Nat) [9221120237041090561, 9218868437227405312, 13826050856027422720, 9223372036854775808, 4609434218613702656, 4607182418800017408, 0, 1] y.toNat = x at hx ⊢
    simp only [List.mem_cons, List.not_mem_nil, or_false] at hx
    omega
  rw [if_neg c3]
  obtain ⟨y, e3, y0, y1⟩ := Mod_ok by' (m := 68) (by omega) (by omega)
  obtain ⟨z, e4, z0, z1⟩ := Mod_ok by' (m := 6) (by omega) (by omega)
  by_cases c4 : w = 4
  · rw [if_pos c4, e3, Option.bind_some]
    exact ⟨_, rfl, by simp only [List.length_set]; omega, hz, shm_set hm' hold⟩
  rw [if_neg c4]
  by_cases c5 : w = 5
  · rw [if_pos c5, e3, Option.bind_some]
    exact ⟨_, rfl, by simp only [List.length_set]; omega, hz, shm_set hm' hold⟩
  rw [if_neg c5]
  by_cases c6 : w = 6
  · rw [if_pos c6, e4, Option.bind_some]
    exact ⟨_, rfl, by simp only [List.length_set]; omega, hz, shm_set hm' hold⟩
  rw [if_neg c6]
  by_cases c7 : w = 7
  · rw [if_pos c7, e3, Option.bind_some]
    exact ⟨_, rfl, by simp only; omega, hz, hm'⟩
  rw [if_neg c7]
  by_cases c8 : w = 8
  · rw [if_pos c8]
    exact ⟨_, rfl, by simp only; omega, hz, hm'⟩
  rw [if_neg c8]
  exact ⟨_, rfl, by simp only; omega, hz, hm'⟩
theorem law_ConfigChecks (y0 : Cf) (w0 : Wf (.pair .str (.pair (.slice (.pair .flt (.pair (.int .i64) (.pair (.int .i64) (.int .i64))))) (.int .i64))) y0) (y1 : List Int) (w1 : Wf (.slice (.int .i64)) y1) (y2 : Int) (w2 : I64 y2) (y3 : Int) (w3 : I64 y3) (y4 : Int) (w4 : I64 y4) (y5 : Int) (w5 : I64 y5) (y6 : Int) (w6 : I64 y6) :
    Fbeltwaylaw12_ConfigChecks y0 y1 y2 y3 y4 y5 y6 = some true := by
  unfold Fbeltwaylaw12_ConfigChecks
  rw [awake_ok, Option.bind_some]
  by_cases c1 : (y0.2.1.length : Int) > 20
  · rw [if_pos c1]
  rw [if_neg c1]
  by_cases c2 : (y0.1.size : Int) > 300
  · rw [if_pos c2]
  rw [if_neg c2]
  obtain ⟨d, e1, hd⟩ := New0_ok y1 w1.1
  rw [e1, Option.bind_some]
  obtain ⟨c, d', e2, g⟩ := Config_ok hd
  obtain ⟨n0, n1⟩ := g.n
  have hnm := g.nm.2.1
  have hgm : Shm c := by
    intro r hr
    obtain ⟨i, hi, rfl⟩ := List.getElem_of_mem hr
    have := g.sh i (by omega) (by omega)
    unfold ru gl at this
    simpa [List.getD_eq_getElem?_getD, List.getElem?_eq_getElem hi] using this
  rw [e2, Option.bind_some]
  obtain ⟨u, e3, u1, u2, u3⟩ := spoilt_ok (c := c) (by omega) (by omega) hgm y2 y3 y4
  obtain ⟨v, e4, v1, v2, v3⟩ := spoilt_ok (c := u) (by omega) u2 u3 y4 y3 y2
  rw [e3, Option.bind_some, Option.bind_some, e4, Option.bind_some]
  have hraw : Shm y0 := fun r hr => (w0.2.1.2 r hr).1
  have hall : ∀ x ∈ [y0, c, u, v], x.2.1.length ≤ 1000 ∧ x.1.size ≤ 1000000 ∧ Sh x := by
    intro x hx
    simp only [List.mem_cons, List.not_mem_nil, or_false] at hx
    rcases hx with rfl | rfl | rfl | rfl
    · exact ⟨by omega, by omega, hraw.sh⟩
    · exact ⟨by omega, by omega, hgm.sh⟩
    · exact ⟨by omega, by omega, u3.sh⟩
    · exact ⟨by omega, by omega, v3.sh⟩
  have hlen : ([y0, c, u, v] : List Cf).length = 4 := rfl
  generalize ([y0, c, u, v] : List Cf) = XS at hall hlen ⊢
  refine loopO_run 4 (fun k hk => ?_) (by rw [if_neg (by omega)]; rfl)
  rw [if_pos (by omega), if_pos ⟨by omega, by omega⟩]
  have hx := hall _ (gl_mem (d := ((⟨#[]⟩, [], 0) : Cf)) (xs := XS) (k := (k : Int).toNat) (by omega))
  generalize gl ((⟨#[]⟩, [], 0) : Cf) XS (k : Int).toNat = x at hx ⊢
  obtain ⟨x1, x2, x3⟩ := hx
  rw [show (x.1, x.2) = x from rfl, check_ok x1 x3, Option.bind_some, rCheck_ok x1 x2 x3, Option.bind_some, if_neg (by simp)]
  obtain ⟨p, p1, p2⟩ := comp_eq x1 x2 x3
  rw [p1, Option.bind_some, p2, Option.bind_some, if_neg (by simp)]
  obtain ⟨a, f1, a0, a1⟩ := Mod_ok y5 (m := 6) (by omega) (by omega)
  obtain ⟨b, f2, b0, b1⟩ := Mod_ok y6 (m := 67) (by omega) (by omega)
  rw [f1, Option.bind_some, f2, Option.bind_some, w64_id (e := (k : Int) + 1) (by omega) (by omega)]
  have hp : ∀ p ∈ ([[y5, y6], [w64 (a - 1), w64 (b - 1)]] : List (List Int)), p.length = 2 := by
    intro p hp
    simp only [List.mem_cons, List.not_mem_nil, or_false] at hp
    rcases hp with rfl | rfl <;> rfl
  have hl2 : ([[y5, y6], [w64 (a - 1), w64 (b - 1)]] : List (List Int)).length = 2 := rfl
  generalize ([[y5, y6], [w64 (a - 1), w64 (b - 1)]] : List (List Int)) = PS at hp hl2 ⊢
  refine loopO_run 2 (fun m hm => ?_) (by rw [if_neg (by omega)])
  rw [if_pos (by omega), if_pos ⟨by omega, by omega⟩]
  have hq := hp _ (gl_mem (d := ([] : List Int)) (xs := PS) (k := (m : Int).toNat) (by omega))
  generalize gl ([] : List Int) PS (m : Int).toNat = q at hq ⊢
  obtain ⟨r, r1, r2⟩ := cap_eq x1 x2 x3 (gl 0 q (0 : Int).toNat) (gl 0 q (1 : Int).toNat)
  rw [hq, if_pos (by decide), if_pos (by decide), r1, Option.bind_some, if_pos (by decide), if_pos (by decide), r2, Option.bind_some, if_neg (by simp), if_neg (by simp), w64_id (by omega) (by omega)]
namespace configChecks
open Go.ChangeShapes Go.WideShapes Go.ChangeAt Go.RowKit Go.V3
set_option linter.unusedVariables false
theorem own : ownKnob Try.prog.godebug = none := by kernel_rfl
theorem laidOut : laidOutB Try.prog = true := by kernel_rfl
set_option maxRecDepth 100000 in
theorem lifted (os : Os) (started : os.Started) (H : Type) (enc : TypeId × Value → H) :
    ReturnsInHanded {} Try.checked os 5 .any (Rows.configChecksSpec.pre6 enc Try.prog Try.f5 Rows.configChecksRow.domain false) (Rows.configChecksSpec.post enc Try.prog Try.f5 false true false false) := by
  refine returnsInHanded_of_change (C := Try.checked) own started (by kernel_rfl) Try.func5
    (ChangeSpec.witness6 (enc := enc) (C := Try.checked) false ⟨#[], #[.agg #[.string ⟨#[]⟩, .slice none 0 0, .int .i64 0], .slice none 0 0, .int .i64 0, .int .i64 0, .int .i64 0, .int .i64 0, .int .i64 0], []⟩ 8 (by kernel_rfl) (by kernel_rfl) (by kernel_rfl) (by kernel_rfl)) ?_
  intro W base args ds gs before hval0 hW hcnd _
  have hT : TabW tabs W := TabW.nil W
  have hval : ∀ (j : Nat) t v, Try.f5.params[j]? = some t → args[j]? = some v → Value.okWide Try.prog W .any base t v := hval0
  have hW' := hW
  obtain ⟨p, q, hA0, hV, rfl, hfz, hnd⟩ := hW
  have hA : DataW.TrodAll enc Try.prog W 0 (fun _ => true) true Try.f5.params.toList args.toList ds p := hA0
  rw [Try.params5] at hA hval
  obtain ⟨v0, vs0, d0, ds0, p0, q0, hargs, rfl, rfl, h0, r0⟩ := trodAll_cons hA
  obtain ⟨v1, vs1, d1, ds1, p1, q1, rfl, rfl, rfl, h1, r1⟩ := trodAll_cons r0
  obtain ⟨v2, vs2, d2, ds2, p2, q2, rfl, rfl, rfl, h2, r2⟩ := trodAll_cons r1
  obtain ⟨v3, vs3, d3, ds3, p3, q3, rfl, rfl, rfl, h3, r3⟩ := trodAll_cons r2
  obtain ⟨v4, vs4, d4, ds4, p4, q4, rfl, rfl, rfl, h4, r4⟩ := trodAll_cons r3
  obtain ⟨v5, vs5, d5, ds5, p5, q5, rfl, rfl, rfl, h5, r5⟩ := trodAll_cons r4
  obtain ⟨v6, vs6, d6, ds6, p6, q6, rfl, rfl, rfl, h6, r6⟩ := trodAll_cons r5
  obtain ⟨rfl, rfl, rfl⟩ := trodAll_nil r6
  obtain rfl : args = #[v0, v1, v2, v3, v4, v5, v6] := by cases args; simp_all
  obtain ⟨rfl, rfl⟩ := trodVars_none hV
  have k0 := h0
  have lt0 : ∀ x ∈ p0, x.block < W.heap.size := by obtain ⟨m, hm⟩ := k0; exact DataW.trod_lt m _ _ _ hm
  obtain ⟨y0, R0, w0⟩ := handed 40 (.pair .str (.pair (.slice (.pair .flt (.pair (.int .i64) (.pair (.int .i64) (.int .i64))))) (.int .i64))) (by kernel_rfl) (hval 0 25 v0 rfl rfl) k0
  have k1 := h1
  have lt1 : ∀ x ∈ p1, x.block < W.heap.size := by obtain ⟨m, hm⟩ := k1; exact DataW.trod_lt m _ _ _ hm
  obtain ⟨y1, R1, w1⟩ := handed 40 (.slice (.int .i64)) (by kernel_rfl) (hval 1 22 v1 rfl rfl) k1
  have k2 := h2
  have lt2 : ∀ x ∈ p2, x.block < W.heap.size := by obtain ⟨m, hm⟩ := k2; exact DataW.trod_lt m _ _ _ hm
  obtain ⟨y2, R2, w2⟩ := handed 40 (.int .i64) (by kernel_rfl) (hval 2 3 v2 rfl rfl) k2
  have k3 := h3
  have lt3 : ∀ x ∈ p3, x.block < W.heap.size := by obtain ⟨m, hm⟩ := k3; exact DataW.trod_lt m _ _ _ hm
  obtain ⟨y3, R3, w3⟩ := handed 40 (.int .i64) (by kernel_rfl) (hval 3 3 v3 rfl rfl) k3
  have k4 := h4
  have lt4 : ∀ x ∈ p4, x.block < W.heap.size := by obtain ⟨m, hm⟩ := k4; exact DataW.trod_lt m _ _ _ hm
  obtain ⟨y4, R4, w4⟩ := handed 40 (.int .i64) (by kernel_rfl) (hval 4 3 v4 rfl rfl) k4
  have k5 := h5
  have lt5 : ∀ x ∈ p5, x.block < W.heap.size := by obtain ⟨m, hm⟩ := k5; exact DataW.trod_lt m _ _ _ hm
  obtain ⟨y5, R5, w5⟩ := handed 40 (.int .i64) (by kernel_rfl) (hval 5 3 v5 rfl rfl) k5
  have k6 := h6
  have lt6 : ∀ x ∈ p6, x.block < W.heap.size := by obtain ⟨m, hm⟩ := k6; exact DataW.trod_lt m _ _ _ hm
  obtain ⟨y6, R6, w6⟩ := handed 40 (.int .i64) (by kernel_rfl) (hval 6 3 v6 rfl rfl) k6
  have A7 := Args.nil W
  obtain ⟨m6, A6⟩ := A7.cons (t := (.int .i64)) (.inr ⟨rfl, plainForm (t := 3) rfl (hval 6 3 v6 rfl rfl)⟩) y6 R6
  obtain ⟨m5, A5⟩ := A6.cons (t := (.int .i64)) (.inr ⟨rfl, plainForm (t := 3) rfl (hval 5 3 v5 rfl rfl)⟩) y5 R5
  obtain ⟨m4, A4⟩ := A5.cons (t := (.int .i64)) (.inr ⟨rfl, plainForm (t := 3) rfl (hval 4 3 v4 rfl rfl)⟩) y4 R4
  obtain ⟨m3, A3⟩ := A4.cons (t := (.int .i64)) (.inr ⟨rfl, plainForm (t := 3) rfl (hval 3 3 v3 rfl rfl)⟩) y3 R3
  obtain ⟨m2, A2⟩ := A3.cons (t := (.int .i64)) (.inr ⟨rfl, plainForm (t := 3) rfl (hval 2 3 v2 rfl rfl)⟩) y2 R2
  obtain ⟨m1, A1⟩ := A2.cons (t := (.slice (.int .i64))) (.inr ⟨rfl, plainForm (t := 22) rfl (hval 1 22 v1 rfl rfl)⟩) y1 R1
  obtain ⟨m0, A0⟩ := A1.cons (t := (.pair .str (.pair (.slice (.pair .flt (.pair (.int .i64) (.pair (.int .i64) (.int .i64))))) (.int .i64)))) (.inl ⟨rfl, aggForm (t := 25) rfl (hval 0 25 v0 rfl rfl)⟩) y0 R0
  refine (law_args (fi := iFbeltwaylaw12_ConfigChecks) okFbeltwaylaw12_ConfigChecks hT (r := (true : Bool)) (vals := #[v0, v1, v2, v3, v4, v5, v6]) (w := W) A0 (law_ConfigChecks y0 w0 y1 w1 y2 (i64_of_wf w2) y3 (i64_of_wf w3) y4 (i64_of_wf w4) y5 (i64_of_wf w5) y6 (i64_of_wf w6)) (fun _ => rfl)).mono fun e W' ⟨he, bel⟩ => ?_
  subst he
  simp only [List.append_nil] at hW'
  exact ⟨_, rfl, _, _, _, [], _, [], hW', trodAll_mk1 (shut_bool Try.underlying4 _), (trodAll_cons_mk (Below.trod laidOut (by kernel_rfl) (of_decide_eq_true (by kernel_rfl)) k0 bel lt0) (trodAll_cons_mk (Below.trod laidOut (by kernel_rfl) (of_decide_eq_true (by kernel_rfl)) k1 bel lt1) (trodAll_cons_mk (Below.trod laidOut (by kernel_rfl) (of_decide_eq_true (by kernel_rfl)) k2 bel lt2) (trodAll_cons_mk (Below.trod laidOut (by kernel_rfl) (of_decide_eq_true (by kernel_rfl)) k3 bel lt3) (trodAll_cons_mk (Below.trod laidOut (by kernel_rfl) (of_decide_eq_true (by kernel_rfl)) k4 bel lt4) (trodAll_cons_mk (Below.trod laidOut (by kernel_rfl) (of_decide_eq_true (by kernel_rfl)) k5 bel lt5) (trodAll_cons_mk (Below.trod laidOut (by kernel_rfl) (of_decide_eq_true (by kernel_rfl)) k6 bel lt6) trodAll_mk0))))))), rfl, bel.frame _, fun h => by cases h⟩
theorem proved : Rows.ConfigChecksSaid :=
  OpenClaim.holds_of_wide 5 Try.f5 rfl rfl rfl rfl rfl rfl rfl ⟨rfl, rfl, rfl, rfl, rfl⟩ rfl rfl rfl rfl rfl (by kernel_rfl) Try.func5 (by kernel_rfl)
    (of_decide_eq_true (by kernel_rfl)) (by unfold Func.isWrapper; first | (rw [if_pos (by decide +kernel)]; kernel_rfl) | (rw [if_neg (by decide +kernel)]; exact ⟨rfl, rfl⟩))
    (fun os started H enc _ => lifted os started H enc)
end configChecks
end Go.Proofs.Ytpdajijinipgdaa
