/-
  Laws of package config: targets and caps.
-/
import Derived.Test.YtpdajijinipgdaaCfgM
set_option linter.unusedVariables false
namespace Go.Proofs.Ytpdajijinipgdaa
open Go Go.V3

theorem awake_ok : Fbeltwaylaw12_awake = some true := by
  have g : Good (⟨#[97]⟩, [(4598175219545276416, 0, 0, 1), (0, 0, 0, 1)], 8) := good2 (nm_of (by decide)) (.inr (by omega)) (.inl rfl) (by omega) (by omega) (by omega) (by omega)
  have hs : Sh (⟨#[97]⟩, [(0, 0, 0, 0), (0, 0, 0, 1)], 8) := by
    intro b b0 b1
    simp only [List.length_cons, List.length_nil] at b1
    have : b = 0 ∨ b = 1 := by omega
    rcases this with rfl | rfl <;> decide
  have e : chk (⟨#[97]⟩, [(0, 0, 0, 0), (0, 0, 0, 1)], 8) = 10 := by
    unfold chk
    rw [if_neg (not_not_intro (nm_of (by decide))), if_neg (by simp), if_pos (by decide)]
    decide
  unfold Fbeltwaylaw12_awake
  rw [g.check, Option.bind_some, if_pos (show (0 : Int) = 0 from rfl)]
  unfold Fconfig_Complete
  rw [g.check, Option.bind_some, if_pos (show (0 : Int) = 0 from rfl), check_ok (by simp) hs, e]
  decide
theorem law_ConfigUpward (y0 : List Int) (w0 : Wf (.slice (.int .i64)) y0) : Fbeltwaylaw12_ConfigUpward y0 = some true := by
  unfold Fbeltwaylaw12_ConfigUpward
  obtain ⟨d, e1, hd⟩ := New0_ok y0 w0.1
  rw [e1, Option.bind_some]
  obtain ⟨c, d', e2, g⟩ := Config_ok hd
  rw [e2, Option.bind_some, g.check, Option.bind_some, if_neg (by simp)]
  obtain ⟨n0, n1⟩ := g.n
  have hru : ∀ i : Int, gl (0, 0, 0, 0) c.2.1 i.toNat = ru c i := fun _ => rfl
  simp only [hru]
  rw [w64_id (e := (c.2.1.length : Int) - 1) (by omega) (by omega)]
  have htgt : ∀ b : Int, 0 ≤ b → b < c.2.1.length → (b = (c.2.1.length : Int) - 1 → (ru c b).2.2.2 = b) ∧ (b < (c.2.1.length : Int) - 1 → b < (ru c b).2.2.2 ∧ (ru c b).2.2.2 ≤ (c.2.1.length : Int) - 1) := by
    intro b b0 b1
    have := (g.ru b b0 b1).2.2
    unfold TgtBad at this
    omega
  refine loopO_run c.2.1.length (fun b hb => ?_) ?_
  · rw [if_pos (by omega), w64_id (e := (b : Int) + 1) (by omega) (by omega)]
    -- the targets of what stands before
    have aimed : loopO (σ := Bool × Int) (β := Int ⊕ Bool) (fun s3 =>
        if s3.2 < (b : Int) then
        if s3.1 = true then
        some (Sum.inl ((true, w64 (s3.2 + 1))))
        else if 0 ≤ s3.2 ∧ s3.2 < (c.2.1.length : Int) then
        some (Sum.inl ((decide ((ru c s3.2).2.2.2 = (b : Int)), w64 (s3.2 + 1))))
        else none
        else Option.map Sum.inr (if ¬ ((c.2.1.length : Int) - 1) = ((c.2.1.length : Int) - 1) then
        some (Sum.inr (false))
        else if (!s3.1) = true then
        some (Sum.inr (false))
        else some (Sum.inl ((b : Int) + 1)))) ((decide ((b : Int) = 0), 0)) = some (Sum.inl ((b : Int) + 1)) := by
      refine loopO_to (fun m (st : Bool × Int) => ∃ p : Nat, st.2 = (p : Int) ∧ m = b - p ∧ p ≤ b ∧ (st.1 = true ↔ ((b : Int) = 0 ∨ ∃ k : Int, (0 ≤ k ∧ k < p) ∧ (ru c k).2.2.2 = (b : Int)))) (n := b) ?_ ⟨0, rfl, by omega, by omega, ?_⟩
      · rintro m ⟨a, i⟩ ⟨p, rfl, q1, q2, q3⟩
        simp only at q3 ⊢
        by_cases hp : p < b
        · have f1 : m - 1 < m ∧ m - 1 = b - (p + 1) ∧ p + 1 ≤ b := by clear q3; omega
          rw [if_pos (by clear q3; omega), w64_id (by clear q3; omega) (by clear q3; omega)]
          right
          by_cases ha : a = true
          · rw [if_pos ha]
            refine ⟨m - 1, _, f1.1, rfl, p + 1, rfl, f1.2.1, f1.2.2, iff_of_true rfl ?_⟩
            rcases q3.1 ha with h | ⟨k, k1, k2⟩
            · exact .inl h
            · exact .inr ⟨k, ⟨k1.1, by omega⟩, k2⟩
          · rw [if_neg ha, if_pos (by clear q3; omega)]
            refine ⟨m - 1, _, f1.1, rfl, p + 1, rfl, f1.2.1, f1.2.2, ?_⟩
            simp only [decide_eq_true_eq]
            constructor
            · intro h; exact .inr ⟨p, ⟨by omega, by omega⟩, h⟩
            · rintro (h | ⟨k, k1, k2⟩)
              · exact absurd (q3.2 (.inl h)) ha
              · by_cases e : k = p
                · rw [← e]; exact k2
                · exact absurd (q3.2 (.inr ⟨k, ⟨k1.1, by omega⟩, k2⟩)) ha
        · left
          have hpb : p = b := by omega
          subst hpb
          have ha : a = true := by
            refine q3.2 ?_
            by_cases hb0 : (p : Int) = 0
            · exact .inl hb0
            · obtain ⟨k, ⟨k0, k1⟩, k2, k3⟩ := g.aim p (by omega) (by omega)
              have := htgt k k0 k1
              exact .inr ⟨k, ⟨k0, by omega⟩, k3⟩
          rw [if_neg (by omega), if_neg (by simp), if_neg (by simp [ha])]
          rfl
      · simp only [decide_eq_true_eq]
        constructor
        · intro h; exact .inl h
        · rintro (h | ⟨k, k1, _⟩)
          · exact h
          · omega
    refine loopO_to (fun m (st : Int × Int) => (m : Int) = (c.2.1.length : Int) - 1 - st.1 ∧ (b : Int) ≤ st.1 ∧ st.1 ≤ (c.2.1.length : Int) - 1 ∧ 0 ≤ st.2 ∧ st.2 ≤ st.1 - b) (n := c.2.1.length - 1 - b) ?_ ⟨by simp only; omega, by simp, by simp only; omega, by simp, by simp⟩
    rintro m ⟨at', st⟩ ⟨q1, q2, q3, q4, q5⟩
    simp only at q1 q2 q3 q4 q5 ⊢
    by_cases hl : at' = (c.2.1.length : Int) - 1
    · left
      rw [if_neg (not_not_intro hl), hl, aimed]
      rfl
    · right
      have ht := (htgt at' (by omega) (by omega)).2 (by omega)
      rw [if_pos hl, if_pos (by omega), if_pos ⟨by omega, by omega⟩, if_neg (by omega), if_pos ⟨by omega, by omega⟩, w64_id (by omega) (by omega)]
      exact ⟨((c.2.1.length : Int) - 1 - (ru c at').2.2.2).toNat, _, by omega, rfl, by simp only; omega, by simp only; omega, by simp only; omega, by simp only; omega, by simp only; omega⟩
  · have ht := (htgt ((c.2.1.length : Int) - 1) (by omega) (by omega)).1 rfl
    rw [if_neg (by omega), if_pos (by omega), if_pos ht, awake_ok]
    rfl
theorem fr_vv {x : Nat} (h : VV x) {n : Int} (n0 : 1 ≤ n) (n1 : n ≤ 64) : Fshare_Frames x n = some (((if x = 0 then 0 else FR x n.toNat : Nat) : Int), 0) := by
  rcases h with rfl | ⟨h0, h1⟩
  · unfold Fshare_Frames
    rw [sValid_ok (by omega), Option.bind_some, if_neg (by decide), if_neg (by omega), if_neg (by omega), if_pos (by decide)]
    rfl
  · rw [sFrames_ok h0 h1 n0 n1, if_neg (by omega)]
theorem law_ConfigCaps (y0 : List Int) (w0 : Wf (.slice (.int .i64)) y0) (y1 : Int) (w1 : I64 y1) (y2 : Int) (w2 : I64 y2) : Fbeltwaylaw12_ConfigCaps y0 y1 y2 = some true := by
  unfold Fbeltwaylaw12_ConfigCaps
  obtain ⟨d, e1, hd⟩ := New0_ok y0 w0.1
  rw [e1, Option.bind_some]
  obtain ⟨c, d', e2, g⟩ := Config_ok hd
  obtain ⟨n0, n1⟩ := g.n
  rw [e2, Option.bind_some]
  obtain ⟨k, e3, k0, k1⟩ := Mod_ok y1 (m := (c.2.1.length : Int)) (by omega) (by omega)
  rw [e3, Option.bind_some]
  obtain ⟨m, e4, m0, m1⟩ := Mod_ok y2 (m := 63) (by omega) (by omega)
  rw [e4, Option.bind_some, w64_id (e := 1 + m) (by omega) (by omega), w64_id (e := 1 + m + 1) (by omega) (by omega)]
  have hv := (g.ru k k0 k1).1
  have hru : gl (0, 0, 0, 0) c.2.1 k.toNat = ru c k := rfl
  have cap : ∀ q : Int, 1 ≤ q → q ≤ 64 → Fconfig_Cap c k q = some (((if (ru c k).1 = 0 then 0 else FR (ru c k).1 q.toNat : Nat) : Int), 0) := by
    intro q q0 q1
    unfold Fconfig_Cap
    rw [g.check, Option.bind_some, if_neg (by simp), if_neg (by omega), if_neg (by omega), if_neg (by omega), if_neg (by omega), if_pos ⟨k0, k1⟩, hru, fr_vv hv q0 q1]
    rfl
  rw [cap _ (by omega) (by omega), Option.bind_some, cap _ (by omega) (by omega), Option.bind_some, if_neg (by simp), if_neg (by simp), hru]
  have hmono := FR_mono (Nat.le_refl (ru c k).1) (show (1 + m).toNat ≤ (1 + m + 1).toNat by omega)
  by_cases hz : (ru c k).1 = 0
  · rw [if_pos hz, if_pos hz, if_neg (by simp), if_pos ⟨k0, k1⟩, if_neg (by rw [hz]; decide), if_neg (by simp), if_pos (by simp), if_pos (by simp; omega), awake_ok]
    rfl
  · have hone : (ru c k).1 ≤ 4607182418800017408 := by
      rcases hv with h | h
      · exact absurd h hz
      · exact h.2
    obtain ⟨f1, f2⟩ := FR_le hone (show 1 ≤ (1 + m).toNat by omega)
    obtain ⟨f3, f4⟩ := FR_le hone (show 1 ≤ (1 + m + 1).toNat by omega)
    have z1 : ¬ (((FR (ru c k).1 (1 + m).toNat : Nat) : Int) = 0) := by omega
    have z2 : ¬ (((FR (ru c k).1 (1 + m + 1).toNat : Nat) : Int) = 0) := by omega
    rw [if_neg hz, if_neg hz, if_neg (by omega), if_pos ⟨k0, k1⟩, if_neg (by simp only [zeroEq hv, hz, z1, decide_false, not_true_eq_false, not_false_eq_true]), if_neg (by simp only [z1, z2, decide_false, not_true_eq_false, not_false_eq_true]), if_pos (by omega), if_pos (by omega), awake_ok]
    rfl
namespace configUpward
open Go.ChangeShapes Go.WideShapes Go.ChangeAt Go.RowKit Go.V3
set_option linter.unusedVariables false
theorem own : ownKnob Try.prog.godebug = none := by kernel_rfl
theorem laidOut : laidOutB Try.prog = true := by kernel_rfl
set_option maxRecDepth 100000 in
theorem lifted (os : Os) (started : os.Started) (H : Type) (enc : TypeId × Value → H) :
    ReturnsInHanded {} Try.checked os 3 .any (Rows.configUpwardSpec.pre6 enc Try.prog Try.f3 Rows.configUpwardRow.domain false) (Rows.configUpwardSpec.post enc Try.prog Try.f3 false true false false) := by
  refine returnsInHanded_of_change (C := Try.checked) own started (by kernel_rfl) Try.func3
    (ChangeSpec.witness6 (enc := enc) (C := Try.checked) false ⟨#[], #[.slice none 0 0], []⟩ 8 (by kernel_rfl) (by kernel_rfl) (by kernel_rfl) (by kernel_rfl)) ?_
  intro W base args ds gs before hval0 hW hcnd _
  have hT : TabW tabs W := TabW.nil W
  have hval : ∀ (j : Nat) t v, Try.f3.params[j]? = some t → args[j]? = some v → Value.okWide Try.prog W .any base t v := hval0
  have hW' := hW
  obtain ⟨p, q, hA0, hV, rfl, hfz, hnd⟩ := hW
  have hA : DataW.TrodAll enc Try.prog W 0 (fun _ => true) true Try.f3.params.toList args.toList ds p := hA0
  rw [Try.params3] at hA hval
  obtain ⟨v0, vs0, d0, ds0, p0, q0, hargs, rfl, rfl, h0, r0⟩ := trodAll_cons hA
  obtain ⟨rfl, rfl, rfl⟩ := trodAll_nil r0
  obtain rfl : args = #[v0] := by cases args; simp_all
  obtain ⟨rfl, rfl⟩ := trodVars_none hV
  have k0 := h0
  have lt0 : ∀ x ∈ p0, x.block < W.heap.size := by obtain ⟨m, hm⟩ := k0; exact DataW.trod_lt m _ _ _ hm
  obtain ⟨y0, R0, w0⟩ := handed 40 (.slice (.int .i64)) (by kernel_rfl) (hval 0 22 v0 rfl rfl) k0
  have A1 := Args.nil W
  obtain ⟨m0, A0⟩ := A1.cons (t := (.slice (.int .i64))) (.inr ⟨rfl, plainForm (t := 22) rfl (hval 0 22 v0 rfl rfl)⟩) y0 R0
  refine (law_args (fi := iFbeltwaylaw12_ConfigUpward) okFbeltwaylaw12_ConfigUpward hT (r := (true : Bool)) (vals := #[v0]) (w := W) A0 (law_ConfigUpward y0 w0) (fun _ => rfl)).mono fun e W' ⟨he, bel⟩ => ?_
  subst he
  simp only [List.append_nil] at hW'
  exact ⟨_, rfl, _, _, _, [], _, [], hW', trodAll_mk1 (shut_bool Try.underlying4 _), (trodAll_cons_mk (Below.trod laidOut (by kernel_rfl) (of_decide_eq_true (by kernel_rfl)) k0 bel lt0) trodAll_mk0), rfl, bel.frame _, fun h => by cases h⟩
theorem proved : Rows.ConfigUpwardSaid :=
  OpenClaim.holds_of_wide 3 Try.f3 rfl rfl rfl rfl rfl rfl rfl ⟨rfl, rfl, rfl, rfl, rfl⟩ rfl rfl rfl rfl rfl (by kernel_rfl) Try.func3 (by kernel_rfl)
    (of_decide_eq_true (by kernel_rfl)) (by unfold Func.isWrapper; first | (rw [if_pos (by decide +kernel)]; kernel_rfl) | (rw [if_neg (by decide +kernel)]; exact ⟨rfl, rfl⟩))
    (fun os started H enc _ => lifted os started H enc)
end configUpward
namespace configCaps
open Go.ChangeShapes Go.WideShapes Go.ChangeAt Go.RowKit Go.V3
set_option linter.unusedVariables false
theorem own : ownKnob Try.prog.godebug = none := by kernel_rfl
theorem laidOut : laidOutB Try.prog = true := by kernel_rfl
set_option maxRecDepth 100000 in
theorem lifted (os : Os) (started : os.Started) (H : Type) (enc : TypeId × Value → H) :
    ReturnsInHanded {} Try.checked os 4 .any (Rows.configCapsSpec.pre6 enc Try.prog Try.f4 Rows.configCapsRow.domain false) (Rows.configCapsSpec.post enc Try.prog Try.f4 false true false false) := by
  refine returnsInHanded_of_change (C := Try.checked) own started (by kernel_rfl) Try.func4
    (ChangeSpec.witness6 (enc := enc) (C := Try.checked) false ⟨#[], #[.slice none 0 0, .int .i64 0, .int .i64 0], []⟩ 8 (by kernel_rfl) (by kernel_rfl) (by kernel_rfl) (by kernel_rfl)) ?_
  intro W base args ds gs before hval0 hW hcnd _
  have hT : TabW tabs W := TabW.nil W
  have hval : ∀ (j : Nat) t v, Try.f4.params[j]? = some t → args[j]? = some v → Value.okWide Try.prog W .any base t v := hval0
  have hW' := hW
  obtain ⟨p, q, hA0, hV, rfl, hfz, hnd⟩ := hW
  have hA : DataW.TrodAll enc Try.prog W 0 (fun _ => true) true Try.f4.params.toList args.toList ds p := hA0
  rw [Try.params4] at hA hval
  obtain ⟨v0, vs0, d0, ds0, p0, q0, hargs, rfl, rfl, h0, r0⟩ := trodAll_cons hA
  obtain ⟨v1, vs1, d1, ds1, p1, q1, rfl, rfl, rfl, h1, r1⟩ := trodAll_cons r0
  obtain ⟨v2, vs2, d2, ds2, p2, q2, rfl, rfl, rfl, h2, r2⟩ := trodAll_cons r1
  obtain ⟨rfl, rfl, rfl⟩ := trodAll_nil r2
  obtain rfl : args = #[v0, v1, v2] := by cases args; simp_all
  obtain ⟨rfl, rfl⟩ := trodVars_none hV
  have k0 := h0
  have lt0 : ∀ x ∈ p0, x.block < W.heap.size := by obtain ⟨m, hm⟩ := k0; exact DataW.trod_lt m _ _ _ hm
  obtain ⟨y0, R0, w0⟩ := handed 40 (.slice (.int .i64)) (by kernel_rfl) (hval 0 22 v0 rfl rfl) k0
  have k1 := h1
  have lt1 : ∀ x ∈ p1, x.block < W.heap.size := by obtain ⟨m, hm⟩ := k1; exact DataW.trod_lt m _ _ _ hm
  obtain ⟨y1, R1, w1⟩ := handed 40 (.int .i64) (by kernel_rfl) (hval 1 3 v1 rfl rfl) k1
  have k2 := h2
  have lt2 : ∀ x ∈ p2, x.block < W.heap.size := by obtain ⟨m, hm⟩ := k2; exact DataW.trod_lt m _ _ _ hm
  obtain ⟨y2, R2, w2⟩ := handed 40 (.int .i64) (by kernel_rfl) (hval 2 3 v2 rfl rfl) k2
  have A3 := Args.nil W
  obtain ⟨m2, A2⟩ := A3.cons (t := (.int .i64)) (.inr ⟨rfl, plainForm (t := 3) rfl (hval 2 3 v2 rfl rfl)⟩) y2 R2
  obtain ⟨m1, A1⟩ := A2.cons (t := (.int .i64)) (.inr ⟨rfl, plainForm (t := 3) rfl (hval 1 3 v1 rfl rfl)⟩) y1 R1
  obtain ⟨m0, A0⟩ := A1.cons (t := (.slice (.int .i64))) (.inr ⟨rfl, plainForm (t := 22) rfl (hval 0 22 v0 rfl rfl)⟩) y0 R0
  refine (law_args (fi := iFbeltwaylaw12_ConfigCaps) okFbeltwaylaw12_ConfigCaps hT (r := (true : Bool)) (vals := #[v0, v1, v2]) (w := W) A0 (law_ConfigCaps y0 w0 y1 (i64_of_wf w1) y2 (i64_of_wf w2)) (fun _ => rfl)).mono fun e W' ⟨he, bel⟩ => ?_
  subst he
  simp only [List.append_nil] at hW'
  exact ⟨_, rfl, _, _, _, [], _, [], hW', trodAll_mk1 (shut_bool Try.underlying4 _), (trodAll_cons_mk (Below.trod laidOut (by kernel_rfl) (of_decide_eq_true (by kernel_rfl)) k0 bel lt0) (trodAll_cons_mk (Below.trod laidOut (by kernel_rfl) (of_decide_eq_true (by kernel_rfl)) k1 bel lt1) (trodAll_cons_mk (Below.trod laidOut (by kernel_rfl) (of_decide_eq_true (by kernel_rfl)) k2 bel lt2) trodAll_mk0))), rfl, bel.frame _, fun h => by cases h⟩
theorem proved : Rows.ConfigCapsSaid :=
  OpenClaim.holds_of_wide 4 Try.f4 rfl rfl rfl rfl rfl rfl rfl ⟨rfl, rfl, rfl, rfl, rfl⟩ rfl rfl rfl rfl rfl (by kernel_rfl) Try.func4 (by kernel_rfl)
    (of_decide_eq_true (by kernel_rfl)) (by unfold Func.isWrapper; first | (rw [if_pos (by decide +kernel)]; kernel_rfl) | (rw [if_neg (by decide +kernel)]; exact ⟨rfl, rfl⟩))
    (fun os started H enc _ => lifted os started H enc)
end configCaps
end Go.Proofs.Ytpdajijinipgdaa
