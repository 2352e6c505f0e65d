/-
  The laws FrameMakes and FrameParts.
-/
import Derived.Test.YtlcaliggdpiobaaRows
import Derived.Test.YtlcaliggdpiobaaSpG
import Derived.Test.YtlcaliggdpiobaaFrmY
set_option linter.unusedVariables false
namespace Go.Proofs.Ytlcaliggdpiobaa
open Go Go.V3

theorem fSize_ok {s : Sp} (h : 3 ≤ s.1 ∧ s.1 ≤ 8) : Fframe_Size s = some (sz s.1) := by
  obtain ⟨z1, z2⟩ := sz_le h
  unfold Fframe_Size
  rw [fshift_ok]
  simp only [Option.bind_some]
  rw [if_neg (by simp [h]), if_pos trivial, pow_sz h, Int.one_mul, w64_id (by omega) (by omega)]
theorem size_eq (s : Sp) : ∃ v, Fframe_Size s = some v ∧ Fbeltwayref03_Size s = some v := by
  unfold Fframe_Size Fbeltwayref03_Size
  rw [fshift_ok, rshift_ok]
  simp only [Option.bind_some, if_true]
  split <;> exact ⟨_, rfl, rfl⟩
theorem valid_eq {s : Sp} (hI : StI s) : ∃ v, Fframe_Valid s = some v ∧ Fbeltwayref03_Valid s = some v := by
  obtain ⟨b, h1, h2⟩ := fValid_ok s hI
  obtain ⟨c, h3, h4⟩ := rValid_ok s
  have : b = c := by rw [Bool.eq_iff_iff, h2, h4]
  exact ⟨b, h1, this ▸ h3⟩
theorem fNew_ok {s n : Int} (hs : 3 ≤ s ∧ s ≤ 8) (hn : 2 ≤ n ∧ n ≤ 64) :
    Fframe_New s n = some ((s, List.replicate (n * sz s).toNat 0#64, List.replicate n.toNat (-1, -1, -1)), 0) := by
  obtain ⟨q1, q2⟩ := mul_sz_le hs (by omega : 0 ≤ n) hn.2
  unfold Fframe_New
  rw [fshift_ok]
  simp only [Option.bind_some]
  rw [if_neg (by simp [hs]), if_neg (by omega), if_neg (by omega), if_pos trivial, pow_sz hs, w64_id (by omega) (by omega)]
  unfold Farena_Make
  rw [if_neg (by omega), if_neg (by omega), if_pos (by omega)]
  simp only [Option.bind_some]
  rw [if_neg (by simp), if_pos (by omega)]
  refine loopO_to (fun k st => st.1 = n - k ∧ (k : Int) ≤ n ∧ st.2.length = n.toNat ∧ ∀ j, j < st.1.toNat → st.2[j]? = some (-1, -1, -1)) (n := n.toNat) ?_ ⟨by omega, by omega, by simp, fun j hj => by simp at hj⟩
  rintro k ⟨i, xs⟩ ⟨h1, h2, h3, h4⟩
  simp only at h1 h2 h3 h4 ⊢
  rw [List.length_replicate]
  by_cases hk : k = 0
  · left
    rw [if_neg (by omega)]
    have : i.toNat = n.toNat := by omega
    rw [this] at h4
    rw [ext_replicate h3 h4]
  · right
    refine ⟨k - 1, _, by omega, by rw [if_pos (by omega), if_pos (by omega)], ?_, by omega, ?_, ?_⟩
    · simp only; rw [w64_id (by omega) (by omega)]; omega
    · simp [h3]
    · simp only
      rw [w64_id (by omega) (by omega)]
      intro j hj
      rw [List.getElem?_set]
      split
      · rw [if_pos (by omega)]
      · exact h4 j (by omega)
theorem new_eq (s n : Int) : ∃ v, Fframe_New s n = some v ∧ Fbeltwayref03_New s n = some v ∧ v.1.2.1.length ≤ 1000000 ∧ v.1.2.2.length ≤ 1000000 := by
  by_cases hs : 3 ≤ s ∧ s ≤ 8
  · by_cases hn : 2 ≤ n ∧ n ≤ 64
    · obtain ⟨q1, q2⟩ := mul_sz_le hs (by omega : 0 ≤ n) hn.2
      exact ⟨_, fNew_ok hs hn, rNew_ok hs hn, by simp; omega, by simp; omega⟩
    · refine ⟨((0, [], []), 1), ?_, ?_, by simp, by simp⟩
      · unfold Fframe_New
        rw [fshift_ok]
        simp only [Option.bind_some]
        rw [if_neg (by simp [hs])]
        by_cases h : n < 2
        · rw [if_pos h]
        · rw [if_neg h, if_pos (by omega)]
      · unfold Fbeltwayref03_New
        rw [rshift_ok]
        simp only [Option.bind_some]
        rw [if_neg (by simp [hs])]
        by_cases h : n < 2
        · rw [if_pos h]
        · rw [if_neg h, if_pos (by omega)]
  · refine ⟨((0, [], []), 1), ?_, ?_, by simp, by simp⟩
    · unfold Fframe_New; rw [fshift_ok]; simp only [Option.bind_some]; rw [if_pos (by simp [hs])]
    · unfold Fbeltwayref03_New; rw [rshift_ok]; simp only [Option.bind_some]; rw [if_pos (by simp [hs])]

theorem bounded_ok (s : Sp) : Fframe_bounded s = some (decide ((3 ≤ s.1 ∧ s.1 ≤ 8) ∧ s.2.2.length ≤ 64)) ∧ Fbeltwayref03_odd s = some (decide (¬ ((3 ≤ s.1 ∧ s.1 ≤ 8) ∧ s.2.2.length ≤ 64))) := by
  unfold Fframe_bounded Fbeltwayref03_odd
  rw [fshift_ok, rshift_ok]
  simp only [Option.bind_some]
  by_cases h : 3 ≤ s.1 ∧ s.1 ≤ 8
  · rw [if_pos (by simp [h]), if_neg (by simp [h])]
    refine ⟨?_, ?_⟩
    · congr 1; rw [Bool.eq_iff_iff, decide_eq_true_iff, decide_eq_true_iff]; omega
    · congr 1; rw [Bool.eq_iff_iff, decide_eq_true_iff, decide_eq_true_iff]; omega
  · rw [if_neg (by simp [h]), if_pos (by simp [h])]
    refine ⟨?_, ?_⟩
    · congr 1; symm; rw [decide_eq_false_iff_not]; omega
    · congr 1; symm; rw [decide_eq_true_iff]; omega
theorem parts_eq (s : Sp) (a f g : Int) : (∃ v, Fframe_Of s a = some v ∧ Fbeltwayref03_Of s a = some v) ∧ (∃ v, Fframe_Base s f = some v ∧ Fbeltwayref03_Base s f = some v) ∧ (∃ v, Fframe_Pair s f g = some v ∧ Fbeltwayref03_Pair s f g = some v) ∧ (∃ v, Fframe_Unpair s a = some v ∧ Fbeltwayref03_Unpair s a = some v) := by
  obtain ⟨b1, b2⟩ := bounded_ok s
  by_cases hb : (3 ≤ s.1 ∧ s.1 ≤ 8) ∧ s.2.2.length ≤ 64
  rotate_left
  · unfold Fframe_Of Fbeltwayref03_Of Fframe_Base Fbeltwayref03_Base Fframe_Pair Fbeltwayref03_Pair Fframe_Unpair Fbeltwayref03_Unpair
    rw [b1, b2]
    simp only [Option.bind_some, decide_eq_false hb, decide_eq_true hb, Bool.not_false, if_true]
    exact ⟨⟨_, rfl, rfl⟩, ⟨_, rfl, rfl⟩, ⟨_, rfl, rfl⟩, ⟨_, rfl, rfl⟩⟩
  · obtain ⟨z1, z2⟩ := sz_le hb.1
    have hl2 : (0 : Int) ≤ (s.2.2.length : Int) * s.2.2.length ∧ (s.2.2.length : Int) * s.2.2.length ≤ 64 * 64 := ⟨Int.mul_nonneg (by omega) (by omega), Int.mul_le_mul (by omega) (by omega) (by omega) (by omega)⟩
    have hnb : ¬ ¬ ((3 ≤ s.1 ∧ s.1 ≤ 8) ∧ s.2.2.length ≤ 64) := not_not_intro hb
    refine ⟨?_, ?_, ?_, ?_⟩
    · unfold Fframe_Of Fbeltwayref03_Of
      rw [b1, b2, fSize_ok hb.1]
      simp only [Option.bind_some, decide_eq_true hb, decide_eq_false hnb, Bool.not_true, if_true, Bool.false_eq_true, if_false]
      rw [pow_sz hb.1, Int.one_mul, w64_id (e := sz s.1) (by omega) (by omega)]
      by_cases c1 : a < 0
      · rw [if_pos c1]; exact ⟨_, rfl, rfl⟩
      rw [if_neg c1]
      split <;> exact ⟨_, rfl, rfl⟩
    · unfold Fframe_Base Fbeltwayref03_Base
      rw [b1, b2]
      simp only [Option.bind_some, decide_eq_true hb, decide_eq_false hnb, Bool.not_true, if_true, Bool.false_eq_true, if_false]
      by_cases c1 : f < 0
      · rw [if_pos c1]; exact ⟨_, rfl, rfl⟩
      rw [if_neg c1]
      split <;> exact ⟨_, rfl, rfl⟩
    · unfold Fframe_Pair Fbeltwayref03_Pair
      rw [b1, b2]
      simp only [Option.bind_some, decide_eq_true hb, decide_eq_false hnb, Bool.not_true, Bool.false_eq_true, if_false]
      by_cases c1 : f < 0
      · rw [if_pos c1]; exact ⟨_, rfl, rfl⟩
      rw [if_neg c1]
      by_cases c2 : f ≥ s.2.2.length
      · rw [if_pos c2]; exact ⟨_, rfl, rfl⟩
      rw [if_neg c2]
      by_cases c3 : g < 0
      · rw [if_pos c3]; exact ⟨_, rfl, rfl⟩
      rw [if_neg c3]
      split <;> exact ⟨_, rfl, rfl⟩
    · unfold Fframe_Unpair Fbeltwayref03_Unpair
      rw [b1, b2]
      simp only [Option.bind_some, decide_eq_true hb, decide_eq_false hnb, Bool.not_true, Bool.false_eq_true, if_false]
      rw [w64_id (e := (s.2.2.length : Int) * s.2.2.length) (by omega) (by omega)]
      by_cases c1 : a < 0
      · rw [if_pos c1]; exact ⟨_, rfl, rfl⟩
      rw [if_neg c1]
      by_cases c2 : a ≥ (s.2.2.length : Int) * s.2.2.length
      · rw [if_pos c2]; exact ⟨_, rfl, rfl⟩
      rw [if_neg c2]
      have hl0 : ¬ (s.2.2.length : Int) = 0 := by
        intro h0; rw [h0] at c2; omega
      rw [if_pos hl0, if_pos hl0]
      exact ⟨_, rfl, rfl⟩

theorem awake_ok : Fbeltwaylaw03_awake = some true := by
  have h : Fframe_New 4 3 = _ := fNew_ok (s := 4) (n := 3) (by omega) (by omega)
  have hv := VS.new (s := 4) (n := 3) (by omega) (by omega)
  unfold Fbeltwaylaw03_awake
  rw [h]
  simp only [Option.bind_some]
  obtain ⟨b1, _⟩ := bounded_ok (4, List.replicate (3 * sz 4).toNat 0#64, List.replicate (3 : Int).toNat (-1, -1, -1))
  obtain ⟨b, h1, h2⟩ := fValid_ok _ hv.stI
  unfold Fframe_Of
  rw [b1, fSize_ok (s := (4, List.replicate (3 * sz 4).toNat 0#64, List.replicate (3 : Int).toNat (-1, -1, -1))) (by simp only; omega), h1, h2.2 hv]
  decide

theorem Same2_refl (a : List (BitVec 64)) (ha : a.length ≤ 1000000) : Fbeltwayref02_Same a a = some true := by
  unfold Fbeltwayref02_Same
  rw [if_neg (by simp)]
  refine loopO_run a.length (fun k hk => ?_) (by rw [if_neg (by omega)])
  rw [if_pos (by omega), if_pos (by omega), if_pos (by omega), if_neg (by simp), w64_id (by omega) (by omega)]
theorem Same_refl (s : Sp) (h1 : s.2.1.length ≤ 1000000) (h2 : s.2.2.length ≤ 1000000) : Fbeltwayref03_Same s s = some true := by
  unfold Fbeltwayref03_Same
  rw [if_neg (by simp), if_neg (by simp), Same2_refl _ h1]
  simp only [Option.bind_some]
  rw [if_neg (by simp)]
  refine loopO_run s.2.2.length (fun k hk => ?_) (by rw [if_neg (by omega)])
  rw [if_pos (by omega), if_pos (by omega), if_pos (by omega), if_neg (by simp [allB]), w64_id (by omega) (by omega)]

theorem law_FrameMakes (y0 : Sp) (w0 : Wf spT y0) (y1 : List Int) (w1 : Wf (.slice (.int .i64)) y1) (y2 : Int) (w2 : I64 y2) (y3 : Int) (w3 : I64 y3) (y4 : Int) (w4 : I64 y4) (y5 : Int) (w5 : I64 y5) (y6 : Int) (w6 : I64 y6) :
    Fbeltwaylaw03_FrameMakes y0 y1 y2 y3 y4 y5 y6 = some true := by
  unfold Fbeltwaylaw03_FrameMakes
  rw [Small_ok]
  simp only [Option.bind_some]
  by_cases hs : y0.2.1.length ≤ 3000 ∧ y0.2.2.length ≤ 80
  rotate_left
  · rw [if_pos (by simp [hs]), awake_ok]; rfl
  rw [if_neg (by simp [hs])]
  obtain ⟨d, e1, hd⟩ := New0_ok y1 w1.1
  rw [e1]
  simp only [Option.bind_some]
  obtain ⟨s, l, d', e2, _, hm⟩ := Space_ok hd
  rw [e2]
  simp only [Option.bind_some]
  obtain ⟨u, e3, k1, k2, k3, k4, k5⟩ := VS.spoilt hm.vs y4 y5 y6
  obtain ⟨v, e4, m1, m2, m3, m4, m5⟩ := VS.spoilt hm.vs 2 y5 y6
  have hn := hm.vs.n
  have hw := hm.vs.w
  have hz := sz_le hm.vs.sh
  have hmz : (s.2.2.length : Int) * 8 ≤ s.2.2.length * sz s.1 := Int.mul_le_mul_of_nonneg_left (by omega) (by omega)
  obtain ⟨t, e5, t1, t2, t3, t4, t5⟩ := Spoilt_ok (by omega) (by omega) m1 (by omega) (by omega) (by omega) (by omega) ⟨by omega, by omega⟩ 2 y6 y5
  rw [e3]
  simp only [Option.bind_some]
  rw [e4]
  simp only [Option.bind_some]
  rw [e5]
  simp only [Option.bind_some]
  have hall : ∀ x ∈ [y0, s, u, t], StI x := by
    intro x hx
    simp only [List.mem_cons, List.not_mem_nil, or_false] at hx
    rcases hx with rfl | rfl | rfl | rfl
    · exact raw_stI w0
    · exact hm.vs.stI
    · exact k1.stI (by omega)
    · exact t1.stI (by omega)
  refine loopO_run 4 (fun k hk => ?_) ?_
  · rw [if_pos (by simp; omega), if_pos ⟨by omega, by simp; omega⟩]
    have hx := hall _ (gl_mem (d := ((0, [], []) : Sp)) (xs := [y0, s, u, t]) (k := (k : Int).toNat) (by simp; omega))
    generalize gl ((0, [], []) : Sp) [y0, s, u, t] (k : Int).toNat = x at hx ⊢
    obtain ⟨a, a1, a2⟩ := valid_eq hx
    obtain ⟨b, b1, b2⟩ := size_eq x
    rw [show Fframe_Valid (x.1, x.2) = some a from a1, show Fbeltwayref03_Valid (x.1, x.2) = some a from a2, show Fframe_Size (x.1, x.2) = some b from b1, show Fbeltwayref03_Size (x.1, x.2) = some b from b2]
    simp only [Option.bind_some]
    rw [if_neg (by simp), if_neg (by simp), w64_id (by omega) (by omega)]
  · rw [if_neg (by simp)]
    obtain ⟨a, e6, a0, a1, _⟩ := Mod_ok y2 (m := 5) (by omega) (by omega)
    obtain ⟨b, e7, b0, b1, _⟩ := Mod_ok y3 (m := 9) (by omega) (by omega)
    obtain ⟨c, e8, c0, c1, _⟩ := Mod_ok y2 (m := 11) (by omega) (by omega)
    obtain ⟨f, e9, f0, f1, _⟩ := Mod_ok y3 (m := 67) (by omega) (by omega)
    rw [e6, e7, e8, e9]
    simp only [Option.bind_some]
    rw [loopO_run (r := true) 3 (fun m hm => ?_) (by rw [if_neg (by simp), awake_ok]; rfl)]
    · rfl
    rw [if_pos (by simp; omega), if_pos ⟨by omega, by simp; omega⟩]
    have hp : ∀ p ∈ [[y2, y3], [w64 (2 + a), b], [c, f]], p.length = 2 := by
      intro p hp
      simp only [List.mem_cons, List.not_mem_nil, or_false] at hp
      rcases hp with rfl | rfl | rfl <;> rfl
    have hq := hp _ (gl_mem (d := ([] : List Int)) (xs := [[y2, y3], [w64 (2 + a), b], [c, f]]) (k := (m : Int).toNat) (by simp; omega))
    generalize gl ([] : List Int) [[y2, y3], [w64 (2 + a), b], [c, f]] (m : Int).toNat = p at hq ⊢
    rw [hq]
    obtain ⟨v, v1, v2, v3, v4⟩ := new_eq (gl 0 p 0) (gl 0 p 1)
    simp only [show (0 : Int).toNat = 0 from rfl, show (1 : Int).toNat = 1 from rfl]
    rw [if_pos (by decide), if_pos (by decide), v1]
    simp only [Option.bind_some]
    rw [if_pos (by decide), if_pos (by decide), v2]
    simp only [Option.bind_some]
    rw [if_neg (by simp), Same_refl _ v3 v4]
    simp only [Option.bind_some]
    rw [if_neg (by simp), w64_id (by omega) (by omega)]

namespace frameMakes
open Go.ChangeShapes Go.WideShapes Go.ChangeAt Go.RowKit Go.V3
set_option linter.unusedVariables false
theorem own : ownKnob Try.prog.godebug = none := by kernel_rfl
theorem laidOut : laidOutB Try.prog = true := by kernel_rfl
set_option maxRecDepth 100000 in
theorem lifted (os : Os) (started : os.Started) (H : Type) (enc : TypeId × Value → H) :
    ReturnsInHanded {} Try.checked os 4 .any (Rows.frameMakesSpec.pre6 enc Try.prog Try.f4 Rows.frameMakesRow.domain false) (Rows.frameMakesSpec.post enc Try.prog Try.f4 false true false false) := by
  refine returnsInHanded_of_change (C := Try.checked) own started (by kernel_rfl) Try.func4
    (ChangeSpec.witness6 (enc := enc) (C := Try.checked) false ⟨#[], #[.agg #[.int .i64 0, .slice none 0 0, .slice none 0 0], .slice none 0 0, .int .i64 0, .int .i64 0, .int .i64 0, .int .i64 0, .int .i64 0], []⟩ 8 (by kernel_rfl) (by kernel_rfl) (by kernel_rfl) (by kernel_rfl)) ?_
  intro W base args ds gs before hval0 hW hcnd _
  have hval : ∀ (j : Nat) t v, Try.f4.params[j]? = some t → args[j]? = some v → Value.okWide Try.prog W .any base t v := hval0
  have hW' := hW
  obtain ⟨p, q, hA0, hV, rfl, hfz, hnd⟩ := hW
  have hA : DataW.TrodAll enc Try.prog W 0 (fun _ => true) true Try.f4.params.toList args.toList ds p := hA0
  rw [Try.params4] at hA hval
  obtain ⟨v0, vs0, d0, ds0, p0, q0, hargs, rfl, rfl, h0, r0⟩ := trodAll_cons hA
  obtain ⟨v1, vs1, d1, ds1, p1, q1, rfl, rfl, rfl, h1, r1⟩ := trodAll_cons r0
  obtain ⟨v2, vs2, d2, ds2, p2, q2, rfl, rfl, rfl, h2, r2⟩ := trodAll_cons r1
  obtain ⟨v3, vs3, d3, ds3, p3, q3, rfl, rfl, rfl, h3, r3⟩ := trodAll_cons r2
  obtain ⟨v4, vs4, d4, ds4, p4, q4, rfl, rfl, rfl, h4, r4⟩ := trodAll_cons r3
  obtain ⟨v5, vs5, d5, ds5, p5, q5, rfl, rfl, rfl, h5, r5⟩ := trodAll_cons r4
  obtain ⟨v6, vs6, d6, ds6, p6, q6, rfl, rfl, rfl, h6, r6⟩ := trodAll_cons r5
  obtain ⟨rfl, rfl, rfl⟩ := trodAll_nil r6
  obtain rfl : args = #[v0, v1, v2, v3, v4, v5, v6] := by cases args; simp_all
  obtain ⟨rfl, rfl⟩ := trodVars_none hV
  have k0 := h0
  have lt0 : ∀ x ∈ p0, x.block < W.heap.size := by obtain ⟨m, hm⟩ := k0; exact DataW.trod_lt m _ _ _ hm
  obtain ⟨y0, R0, w0⟩ := handed 40 (.pair (.int .i64) (.pair (.slice .u64) (.slice (.pair (.int .i64) (.pair (.int .i64) (.int .i64)))))) (by kernel_rfl) (hval 0 25 v0 rfl rfl) k0
  have k1 := h1
  have lt1 : ∀ x ∈ p1, x.block < W.heap.size := by obtain ⟨m, hm⟩ := k1; exact DataW.trod_lt m _ _ _ hm
  obtain ⟨y1, R1, w1⟩ := handed 40 (.slice (.int .i64)) (by kernel_rfl) (hval 1 37 v1 rfl rfl) k1
  have k2 := h2
  have lt2 : ∀ x ∈ p2, x.block < W.heap.size := by obtain ⟨m, hm⟩ := k2; exact DataW.trod_lt m _ _ _ hm
  obtain ⟨y2, R2, w2⟩ := handed 40 (.int .i64) (by kernel_rfl) (hval 2 3 v2 rfl rfl) k2
  have k3 := h3
  have lt3 : ∀ x ∈ p3, x.block < W.heap.size := by obtain ⟨m, hm⟩ := k3; exact DataW.trod_lt m _ _ _ hm
  obtain ⟨y3, R3, w3⟩ := handed 40 (.int .i64) (by kernel_rfl) (hval 3 3 v3 rfl rfl) k3
  have k4 := h4
  have lt4 : ∀ x ∈ p4, x.block < W.heap.size := by obtain ⟨m, hm⟩ := k4; exact DataW.trod_lt m _ _ _ hm
  obtain ⟨y4, R4, w4⟩ := handed 40 (.int .i64) (by kernel_rfl) (hval 4 3 v4 rfl rfl) k4
  have k5 := h5
  have lt5 : ∀ x ∈ p5, x.block < W.heap.size := by obtain ⟨m, hm⟩ := k5; exact DataW.trod_lt m _ _ _ hm
  obtain ⟨y5, R5, w5⟩ := handed 40 (.int .i64) (by kernel_rfl) (hval 5 3 v5 rfl rfl) k5
  have k6 := h6
  have lt6 : ∀ x ∈ p6, x.block < W.heap.size := by obtain ⟨m, hm⟩ := k6; exact DataW.trod_lt m _ _ _ hm
  obtain ⟨y6, R6, w6⟩ := handed 40 (.int .i64) (by kernel_rfl) (hval 6 3 v6 rfl rfl) k6
  have A7 := Args.nil W
  obtain ⟨m6, A6⟩ := A7.cons (t := (.int .i64)) (.inr ⟨rfl, plainForm (t := 3) rfl (hval 6 3 v6 rfl rfl)⟩) y6 R6
  obtain ⟨m5, A5⟩ := A6.cons (t := (.int .i64)) (.inr ⟨rfl, plainForm (t := 3) rfl (hval 5 3 v5 rfl rfl)⟩) y5 R5
  obtain ⟨m4, A4⟩ := A5.cons (t := (.int .i64)) (.inr ⟨rfl, plainForm (t := 3) rfl (hval 4 3 v4 rfl rfl)⟩) y4 R4
  obtain ⟨m3, A3⟩ := A4.cons (t := (.int .i64)) (.inr ⟨rfl, plainForm (t := 3) rfl (hval 3 3 v3 rfl rfl)⟩) y3 R3
  obtain ⟨m2, A2⟩ := A3.cons (t := (.int .i64)) (.inr ⟨rfl, plainForm (t := 3) rfl (hval 2 3 v2 rfl rfl)⟩) y2 R2
  obtain ⟨m1, A1⟩ := A2.cons (t := (.slice (.int .i64))) (.inr ⟨rfl, plainForm (t := 37) rfl (hval 1 37 v1 rfl rfl)⟩) y1 R1
  obtain ⟨m0, A0⟩ := A1.cons (t := (.pair (.int .i64) (.pair (.slice .u64) (.slice (.pair (.int .i64) (.pair (.int .i64) (.int .i64))))))) (.inl ⟨rfl, aggForm (t := 25) rfl (hval 0 25 v0 rfl rfl)⟩) y0 R0
  refine (law_args (fi := iFbeltwaylaw03_FrameMakes) okFbeltwaylaw03_FrameMakes (r := (true : Bool)) (vals := #[v0, v1, v2, v3, v4, v5, v6]) (w := W) A0 (law_FrameMakes y0 w0 y1 w1 y2 (i64_of_wf w2) y3 (i64_of_wf w3) y4 (i64_of_wf w4) y5 (i64_of_wf w5) y6 (i64_of_wf w6)) (fun _ => rfl)).mono fun e W' ⟨he, bel⟩ => ?_
  subst he
  simp only [List.append_nil] at hW'
  exact ⟨_, rfl, _, _, _, [], _, [], hW', trodAll_mk1 (shut_bool Try.underlying4 _), (trodAll_cons_mk (Below.trod laidOut (by kernel_rfl) (of_decide_eq_true (by kernel_rfl)) k0 bel lt0) (trodAll_cons_mk (Below.trod laidOut (by kernel_rfl) (of_decide_eq_true (by kernel_rfl)) k1 bel lt1) (trodAll_cons_mk (Below.trod laidOut (by kernel_rfl) (of_decide_eq_true (by kernel_rfl)) k2 bel lt2) (trodAll_cons_mk (Below.trod laidOut (by kernel_rfl) (of_decide_eq_true (by kernel_rfl)) k3 bel lt3) (trodAll_cons_mk (Below.trod laidOut (by kernel_rfl) (of_decide_eq_true (by kernel_rfl)) k4 bel lt4) (trodAll_cons_mk (Below.trod laidOut (by kernel_rfl) (of_decide_eq_true (by kernel_rfl)) k5 bel lt5) (trodAll_cons_mk (Below.trod laidOut (by kernel_rfl) (of_decide_eq_true (by kernel_rfl)) k6 bel lt6) trodAll_mk0))))))), rfl, bel.frame _, fun h => by cases h⟩
theorem proved : Rows.FrameMakesSaid :=
  OpenClaim.holds_of_wide 4 Try.f4 rfl rfl rfl rfl rfl rfl rfl ⟨rfl, rfl, rfl, rfl, rfl⟩ rfl rfl rfl rfl rfl (by kernel_rfl) Try.func4 (by kernel_rfl)
    (of_decide_eq_true (by kernel_rfl)) (by unfold Func.isWrapper; first | (rw [if_pos (by decide +kernel)]; kernel_rfl) | (rw [if_neg (by decide +kernel)]; exact ⟨rfl, rfl⟩))
    (fun os started H enc _ => lifted os started H enc)
end frameMakes

theorem law_FrameParts (y0 : Sp) (w0 : Wf spT y0) (y1 : List Int) (w1 : Wf (.slice (.int .i64)) y1) (y2 : Int) (w2 : I64 y2) (y3 : Int) (w3 : I64 y3) (y4 : Int) (w4 : I64 y4) : Fbeltwaylaw03_FrameParts y0 y1 y2 y3 y4 = some true := by
  unfold Fbeltwaylaw03_FrameParts
  rw [Small_ok]
  simp only [Option.bind_some]
  by_cases hs : y0.2.1.length ≤ 3000 ∧ y0.2.2.length ≤ 80
  rotate_left
  · rw [if_pos (by simp [hs]), awake_ok]; rfl
  rw [if_neg (by simp [hs])]
  obtain ⟨d, e1, hd⟩ := New0_ok y1 w1.1
  rw [e1]
  simp only [Option.bind_some]
  obtain ⟨s, l, d', e2, _, hm⟩ := Space_ok hd
  rw [e2]
  simp only [Option.bind_some]
  obtain ⟨c, e3, c0, c1, _⟩ := Mod_ok y3 (m := 70) (by omega) (by omega)
  rw [e3]
  simp only [Option.bind_some]
  rw [if_pos (by omega)]
  have hn := hm.n
  have hall : ∀ x ∈ [y0, s, (s.1, [], List.replicate c.toNat (0, 0, 0))], x.2.2.length ≤ 80 := by
    intro x hx
    simp only [List.mem_cons, List.not_mem_nil, or_false] at hx
    rcases hx with rfl | rfl | rfl
    · omega
    · omega
    · simp; omega
  refine loopO_run 3 (fun k hk => ?_) (by rw [if_neg (by simp), awake_ok]; rfl)
  rw [if_pos (by simp; omega), if_pos ⟨by omega, by simp; omega⟩]
  have hx := hall _ (gl_mem (d := ((0, [], []) : Sp)) (xs := [y0, s, (s.1, [], List.replicate c.toNat (0, 0, 0))]) (k := (k : Int).toNat) (by simp; omega))
  generalize gl ((0, [], []) : Sp) [y0, s, (s.1, [], List.replicate c.toNat (0, 0, 0))] (k : Int).toNat = x at hx ⊢
  rw [if_pos trivial, show (2 : Int) ^ min (4#64).toNat 64 = 16 from by decide, w64_id (e := (x.2.2.length : Int) * 16) (by omega) (by omega), w64_id (e := (x.2.2.length : Int) * 16 + 3) (by omega) (by omega), w64_id (e := (x.2.2.length : Int) + 2) (by omega) (by omega)]
  obtain ⟨a, e4, a0, a1, _⟩ := Mod_ok y2 (m := (x.2.2.length : Int) * 16 + 3) (by omega) (by omega)
  rw [e4]
  simp only [Option.bind_some]
  obtain ⟨b, e5, b0, b1, _⟩ := Mod_ok y3 (m := (x.2.2.length : Int) + 2) (by omega) (by omega)
  rw [e5]
  simp only [Option.bind_some]
  obtain ⟨g, e6, g0, g1, _⟩ := Mod_ok y4 (m := (x.2.2.length : Int) + 2) (by omega) (by omega)
  rw [e6]
  simp only [Option.bind_some]
  rw [w64_id (e := (k : Int) + 1) (by omega) (by omega)]
  refine loopO_run 2 (fun m hm => ?_) (by rw [if_neg (by simp)])
  rw [if_pos (by simp; omega), if_pos ⟨by omega, by simp; omega⟩]
  have hp : ∀ p ∈ [[y2, y3, y4], [w64 (a - 1), w64 (b - 1), w64 (g - 1)]], p.length = 3 := by
    intro p hp
    simp only [List.mem_cons, List.not_mem_nil, or_false] at hp
    rcases hp with rfl | rfl <;> rfl
  have hq := hp _ (gl_mem (d := ([] : List Int)) (xs := [[y2, y3, y4], [w64 (a - 1), w64 (b - 1), w64 (g - 1)]]) (k := (m : Int).toNat) (by simp; omega))
  generalize gl ([] : List Int) [[y2, y3, y4], [w64 (a - 1), w64 (b - 1), w64 (g - 1)]] (m : Int).toNat = p at hq ⊢
  rw [hq]
  obtain ⟨⟨p1, p2, p3⟩, ⟨q1, q2, q3⟩, ⟨r1, r2, r3⟩, t1, t2, t3⟩ := parts_eq x (gl 0 p 0) (gl 0 p 1) (gl 0 p 2)
  simp only [show (0 : Int).toNat = 0 from rfl, show (1 : Int).toNat = 1 from rfl, show (2 : Int).toNat = 2 from rfl]
  simp only [Prod.eta, show (0 : Int) ≤ 0 ∧ (0 : Int) < ((3 : Nat) : Int) from by decide, show (0 : Int) ≤ 1 ∧ (1 : Int) < ((3 : Nat) : Int) from by decide, show (0 : Int) ≤ 2 ∧ (2 : Int) < ((3 : Nat) : Int) from by decide, and_self, if_true, p2, p3, q2, q3, r2, r3, t2, t3, Option.bind_some, not_true, if_false]
  rw [w64_id (by omega) (by omega)]

namespace frameParts
open Go.ChangeShapes Go.WideShapes Go.ChangeAt Go.RowKit Go.V3
set_option linter.unusedVariables false
theorem own : ownKnob Try.prog.godebug = none := by kernel_rfl
theorem laidOut : laidOutB Try.prog = true := by kernel_rfl
set_option maxRecDepth 100000 in
theorem lifted (os : Os) (started : os.Started) (H : Type) (enc : TypeId × Value → H) :
    ReturnsInHanded {} Try.checked os 6 .any (Rows.framePartsSpec.pre6 enc Try.prog Try.f6 Rows.framePartsRow.domain false) (Rows.framePartsSpec.post enc Try.prog Try.f6 false true false false) := by
  refine returnsInHanded_of_change (C := Try.checked) own started (by kernel_rfl) Try.func6
    (ChangeSpec.witness6 (enc := enc) (C := Try.checked) false ⟨#[], #[.agg #[.int .i64 0, .slice none 0 0, .slice none 0 0], .slice none 0 0, .int .i64 0, .int .i64 0, .int .i64 0], []⟩ 8 (by kernel_rfl) (by kernel_rfl) (by kernel_rfl) (by kernel_rfl)) ?_
  intro W base args ds gs before hval0 hW hcnd _
  have hval : ∀ (j : Nat) t v, Try.f6.params[j]? = some t → args[j]? = some v → Value.okWide Try.prog W .any base t v := hval0
  have hW' := hW
  obtain ⟨p, q, hA0, hV, rfl, hfz, hnd⟩ := hW
  have hA : DataW.TrodAll enc Try.prog W 0 (fun _ => true) true Try.f6.params.toList args.toList ds p := hA0
  rw [Try.params6] at hA hval
  obtain ⟨v0, vs0, d0, ds0, p0, q0, hargs, rfl, rfl, h0, r0⟩ := trodAll_cons hA
  obtain ⟨v1, vs1, d1, ds1, p1, q1, rfl, rfl, rfl, h1, r1⟩ := trodAll_cons r0
  obtain ⟨v2, vs2, d2, ds2, p2, q2, rfl, rfl, rfl, h2, r2⟩ := trodAll_cons r1
  obtain ⟨v3, vs3, d3, ds3, p3, q3, rfl, rfl, rfl, h3, r3⟩ := trodAll_cons r2
  obtain ⟨v4, vs4, d4, ds4, p4, q4, rfl, rfl, rfl, h4, r4⟩ := trodAll_cons r3
  obtain ⟨rfl, rfl, rfl⟩ := trodAll_nil r4
  obtain rfl : args = #[v0, v1, v2, v3, v4] := by cases args; simp_all
  obtain ⟨rfl, rfl⟩ := trodVars_none hV
  have k0 := h0
  have lt0 : ∀ x ∈ p0, x.block < W.heap.size := by obtain ⟨m, hm⟩ := k0; exact DataW.trod_lt m _ _ _ hm
  obtain ⟨y0, R0, w0⟩ := handed 40 (.pair (.int .i64) (.pair (.slice .u64) (.slice (.pair (.int .i64) (.pair (.int .i64) (.int .i64)))))) (by kernel_rfl) (hval 0 25 v0 rfl rfl) k0
  have k1 := h1
  have lt1 : ∀ x ∈ p1, x.block < W.heap.size := by obtain ⟨m, hm⟩ := k1; exact DataW.trod_lt m _ _ _ hm
  obtain ⟨y1, R1, w1⟩ := handed 40 (.slice (.int .i64)) (by kernel_rfl) (hval 1 37 v1 rfl rfl) k1
  have k2 := h2
  have lt2 : ∀ x ∈ p2, x.block < W.heap.size := by obtain ⟨m, hm⟩ := k2; exact DataW.trod_lt m _ _ _ hm
  obtain ⟨y2, R2, w2⟩ := handed 40 (.int .i64) (by kernel_rfl) (hval 2 3 v2 rfl rfl) k2
  have k3 := h3
  have lt3 : ∀ x ∈ p3, x.block < W.heap.size := by obtain ⟨m, hm⟩ := k3; exact DataW.trod_lt m _ _ _ hm
  obtain ⟨y3, R3, w3⟩ := handed 40 (.int .i64) (by kernel_rfl) (hval 3 3 v3 rfl rfl) k3
  have k4 := h4
  have lt4 : ∀ x ∈ p4, x.block < W.heap.size := by obtain ⟨m, hm⟩ := k4; exact DataW.trod_lt m _ _ _ hm
  obtain ⟨y4, R4, w4⟩ := handed 40 (.int .i64) (by kernel_rfl) (hval 4 3 v4 rfl rfl) k4
  have A5 := Args.nil W
  obtain ⟨m4, A4⟩ := A5.cons (t := (.int .i64)) (.inr ⟨rfl, plainForm (t := 3) rfl (hval 4 3 v4 rfl rfl)⟩) y4 R4
  obtain ⟨m3, A3⟩ := A4.cons (t := (.int .i64)) (.inr ⟨rfl, plainForm (t := 3) rfl (hval 3 3 v3 rfl rfl)⟩) y3 R3
  obtain ⟨m2, A2⟩ := A3.cons (t := (.int .i64)) (.inr ⟨rfl, plainForm (t := 3) rfl (hval 2 3 v2 rfl rfl)⟩) y2 R2
  obtain ⟨m1, A1⟩ := A2.cons (t := (.slice (.int .i64))) (.inr ⟨rfl, plainForm (t := 37) rfl (hval 1 37 v1 rfl rfl)⟩) y1 R1
  obtain ⟨m0, A0⟩ := A1.cons (t := (.pair (.int .i64) (.pair (.slice .u64) (.slice (.pair (.int .i64) (.pair (.int .i64) (.int .i64))))))) (.inl ⟨rfl, aggForm (t := 25) rfl (hval 0 25 v0 rfl rfl)⟩) y0 R0
  refine (law_args (fi := iFbeltwaylaw03_FrameParts) okFbeltwaylaw03_FrameParts (r := (true : Bool)) (vals := #[v0, v1, v2, v3, v4]) (w := W) A0 (law_FrameParts y0 w0 y1 w1 y2 (i64_of_wf w2) y3 (i64_of_wf w3) y4 (i64_of_wf w4)) (fun _ => rfl)).mono fun e W' ⟨he, bel⟩ => ?_
  subst he
  simp only [List.append_nil] at hW'
  exact ⟨_, rfl, _, _, _, [], _, [], hW', trodAll_mk1 (shut_bool Try.underlying4 _), (trodAll_cons_mk (Below.trod laidOut (by kernel_rfl) (of_decide_eq_true (by kernel_rfl)) k0 bel lt0) (trodAll_cons_mk (Below.trod laidOut (by kernel_rfl) (of_decide_eq_true (by kernel_rfl)) k1 bel lt1) (trodAll_cons_mk (Below.trod laidOut (by kernel_rfl) (of_decide_eq_true (by kernel_rfl)) k2 bel lt2) (trodAll_cons_mk (Below.trod laidOut (by kernel_rfl) (of_decide_eq_true (by kernel_rfl)) k3 bel lt3) (trodAll_cons_mk (Below.trod laidOut (by kernel_rfl) (of_decide_eq_true (by kernel_rfl)) k4 bel lt4) trodAll_mk0))))), rfl, bel.frame _, fun h => by cases h⟩
theorem proved : Rows.FramePartsSaid :=
  OpenClaim.holds_of_wide 6 Try.f6 rfl rfl rfl rfl rfl rfl rfl ⟨rfl, rfl, rfl, rfl, rfl⟩ rfl rfl rfl rfl rfl (by kernel_rfl) Try.func6 (by kernel_rfl)
    (of_decide_eq_true (by kernel_rfl)) (by unfold Func.isWrapper; first | (rw [if_pos (by decide +kernel)]; kernel_rfl) | (rw [if_neg (by decide +kernel)]; exact ⟨rfl, rfl⟩))
    (fun os started H enc _ => lifted os started H enc)
end frameParts
end Go.Proofs.Ytlcaliggdpiobaa
