/-
  The law ReserveKeeps.
-/
import Derived.Test.YtgllefepfnbmkaaDoorRsvM
set_option linter.unusedVariables false
namespace Go.Proofs.YtgllefepfnbmkaaDoor
open Go Go.V3

/-- What is asked after growth. -/
theorem keep_tail {c : Cf} {v : Bool} (c1 : Fconfig_Complete c = some v) (c2 : Fbeltwayref12_Complete c = some v) {s t : Sp} {q r : Rows} (hs : Qs s q) (ht : Qs t r) {k f : Int} (k0 : 0 ≤ k) (hl : t.2.2.length = s.2.2.length) (hu : used t = used s + k) (hz : t.1 = s.1)
    (hg : Gr v s.2.2.length (used s) (lrg (sz s.1) q.flatten) k f) (hr : ∀ i ∈ r.flatten, i ∈ q.flatten ∨ cl (sz s.1) i.2.2.2.2 = f + k) (hk : k = 0 → f ≤ lrg (sz s.1) q.flatten) :
    Option.bind (Fbeltwayref12_Complete c) (fun r13 =>
      if r13 = true then
      Option.bind (Fbeltwayref04_Used t) (fun r14 =>
      Option.bind (Fbeltwayref04_Used s) (fun r15 =>
      if r14 > r15 then
      Option.bind (Fbeltwayref04_Used t) (fun r16 =>
      if (w64 ((2 : Int) * r16)) > (t.2.2.length : Int) then
      some (false)
      else Option.bind (Freserve_Holds c s q) (fun r17 =>
      if (!r17) = true then
      some (true)
      else Option.bind (Freserve_Holds c t r) (fun r18 =>
      some (r18))))
      else Option.bind (Freserve_Holds c s q) (fun r19 =>
      if (!r19) = true then
      some (true)
      else Option.bind (Freserve_Holds c t r) (fun r20 =>
      some (r20)))))
      else Option.bind (Freserve_Holds c s q) (fun r21 =>
      if (!r21) = true then
      some (true)
      else Option.bind (Freserve_Holds c t r) (fun r22 =>
      some (r22)))) = some true := by
  have l0 := (lrg_ge (z := sz s.1) q.flatten)
  have hlt : lrg (sz t.1) r.flatten ≤ max (lrg (sz s.1) q.flatten) (f + k) := by
    rw [hz, lrg_le]
    refine ⟨by omega, fun i hi => ?_⟩
    rcases hr i hi with h | h
    · have := l0.2 i h; omega
    · omega
  have us := rUsed_ok hs.vs.n.2
  have ut := rUsed_ok ht.vs.n.2
  rw [show (s.2.2.length : Int) - (frees s.2.2).length = used s from rfl] at us
  rw [show (t.2.2.length : Int) - (frees t.2.2).length = used t from rfl] at ut
  have fs : ((frees s.2.2).length : Int) = s.2.2.length - used s := by unfold used; omega
  have ft : ((frees t.2.2).length : Int) = s.2.2.length - used t := by unfold used; omega
  have u0 := used_ge s
  have hn := ht.n
  have hu2 : used t ≤ 10 := by omega
  rw [c2, us, ut, (Holds_ok c1 c2 hs).1, (Holds_ok c1 c2 ht).1]
  simp only [Option.bind_some]
  have key : ((frees s.2.2).length : Int) ≥ need v s q → ((frees t.2.2).length : Int) ≥ need v t r := by
    intro h
    unfold need at *
    unfold Gr at hg
    cases v with
    | true =>
      rw [if_pos rfl] at *
      rcases hg with h1 | ⟨_, h1⟩ | ⟨h1, _⟩
      · omega
      · omega
      · exact absurd h1 (by decide)
    | false =>
      rw [if_neg (by decide)] at *
      rcases hg with h1 | ⟨h1, _⟩ | ⟨_, h1⟩
      · have := hk h1; omega
      · exact absurd h1 (by decide)
      · omega
  have fin : (if (!decide (((frees s.2.2).length : Int) ≥ need v s q)) = true then some true else some (decide (((frees t.2.2).length : Int) ≥ need v t r))) = some true := by
    by_cases h : ((frees s.2.2).length : Int) ≥ need v s q
    · rw [if_neg (by simpa using h), decide_eq_true (key h)]
    · rw [if_pos (by simpa using h)]
  rw [fin]
  by_cases hv : v = true
  · rw [if_pos hv]
    by_cases h : used t > used s
    · have : ¬ w64 (2 * used t) > t.2.2.length := by
        rw [w64_id (by omega) (by omega)]
        unfold Gr at hg
        rcases hg with h1 | ⟨_, h1⟩ | ⟨h1, _⟩
        · omega
        · omega
        · rw [hv] at h1; exact absurd h1 (by decide)
      rw [if_pos h, if_neg this]
    · rw [if_neg h]
  · rw [if_neg hv]
theorem flat_set {q : Rows} {b : Nat} (hb : b < q.length) {x : List Inc} {i : Inc} (hi : i ∈ (q.set b x).flatten) : i ∈ q.flatten ∨ i ∈ x := by
  obtain ⟨y, hy, hiy⟩ := List.mem_flatten.1 hi
  rcases List.mem_or_eq_of_mem_set hy with h | h
  · exact .inl (List.mem_flatten.2 ⟨y, h, hiy⟩)
  · exact .inr (h ▸ hiy)
theorem row_flat {q : Rows} {b : Nat} (hb : b < q.length) {i : Inc} (hi : i ∈ gl [] q b) : i ∈ q.flatten := List.mem_flatten.2 ⟨_, gl_mem hb, hi⟩
theorem law_ReserveKeeps (y0 : List Int) (w0 : Wf (.slice (.int .i64)) y0) (y1 : Int) (w1 : I64 y1) (y2 : Int) (w2 : I64 y2) : Fbeltwaylaw16_ReserveKeeps y0 y1 y2 = some true := by
  unfold Fbeltwaylaw16_ReserveKeeps
  obtain ⟨d, e1, hd⟩ := New0_ok y0 w0.1
  obtain ⟨c, s, l, q, d', e2, h⟩ := belts_ok hd
  obtain ⟨v, c1, c2⟩ := h.comp
  have hq := h.qs
  have hlen := h.n
  have hx6 : ∀ x ∈ q, x.length ≤ 1000000 := fun x hx => by have := hq.xlen x hx; omega
  have vs := h.made.vs
  obtain ⟨b, e3, b0, b1, _⟩ := Mod_ok y1 (m := (c.2.1.length : Int)) (by have := h.cn; omega) (by have := h.cn; omega)
  rw [h.cn] at b1
  rw [e1, Option.bind_some, e2, Option.bind_some]
  simp only
  rw [e3, Option.bind_some]
  have hrow := h.row (b := b.toNat) (by omega)
  have onb : ∀ i ∈ gl [] q b.toNat, i ∈ l ∧ i.2.1 = b := by
    intro i hi
    rw [hrow] at hi
    unfold onB at hi
    simp only [List.mem_filter, decide_eq_true_eq] at hi
    exact ⟨hi.1, by omega⟩
  have pick : ∃ i : Inc, Option.bind (Fbeltwayref11_Youngest q b) (fun r4 =>
      if r4.2 = true then
      if ¬ (8 : Int) = 0 then
      Option.bind (Fbeltwaymake_Mod (w64 (Int.tdiv y1 8)) 3) (fun r5 =>
      if r5 > 0 then
      some (Sum.inl (r4.1))
      else some (Sum.inl ((99, b, (-1), (-1), 0))))
      else none
      else some (Sum.inl ((99, b, (-1), (-1), 0)))) = (some (Sum.inl i) : Option (Inc ⊕ Bool)) ∧ (i = (99, b, -1, -1, 0) ∨ i ∈ gl [] q b.toNat) := by
    rcases rYoungest_ok hx6 b0 b1 with ⟨_, e⟩ | ⟨y, hy, e⟩
    · rw [e, Option.bind_some, if_neg (by simp)]
      exact ⟨_, rfl, .inl rfl⟩
    · obtain ⟨m, e4, _⟩ := Mod_ok (w64 (Int.tdiv y1 8)) (m := 3) (by omega) (by omega)
      rw [e, Option.bind_some, if_pos rfl, if_pos (by decide), e4, Option.bind_some]
      by_cases hm : m > 0
      · rw [if_pos hm]; exact ⟨_, rfl, .inr hy⟩
      · rw [if_neg hm]; exact ⟨_, rfl, .inl rfl⟩
  obtain ⟨i, e4, hi⟩ := pick
  rw [e4, Option.bind_some]
  simp only
  obtain ⟨m, e5, a0, a1, _⟩ := Mod_ok y2 (m := 48) (by omega) (by omega)
  rw [e5, Option.bind_some, w64_id (e := 1 + m) (by omega) (by omega)]
  -- the increment
  have hfit : FitS s i := by
    rcases hi with rfl | hi
    · exact fit0 s (by omega) (by omega) b0 (by omega)
    · exact (h.made.fits i (onb i hi).1).1
  have hib : i.2.1 = b := by
    rcases hi with rfl | hi
    · rfl
    · exact (onb i hi).2
  have hown : i.2.2.2.2 = 0 → i = (99, b, -1, -1, 0) ∧ owned s.2.2 i.1 = [] := by
    intro hw
    rcases hi with rfl | hi
    · refine ⟨rfl, ?_⟩
      apply List.eq_nil_iff_forall_not_mem.2
      intro x hx
      obtain ⟨⟨x0, x1⟩, x2⟩ := mem_owned.1 hx
      simp only at x2
      obtain ⟨p, p1, p2⟩ := h.made.all x x0 x1 (by omega)
      have := (h.made.fits p p1).2.2.2.1
      omega
    · have := (h.made.fits i (onb i hi).1).2.1; omega
  have hwl := VS.wlen vs
  have j0 := hfit.1.2.2.2.2.1
  have j1 := hfit.1.2.2.2.2.2
  have z := sz_pos' s.1
  have hk0 : 0 ≤ more s i (1 + m) := by have := cl_le z (show i.2.2.2.2 ≤ i.2.2.2.2 + (1 + m) by omega); unfold more; omega
  obtain ⟨g, p1, _, p2⟩ := Grants_ok c1 c2 hq (i := i) (n := 1 + m) j0 (by omega) (by omega) (by omega)
  rw [p1, Option.bind_some, Extra_ok vs j0 (by omega) (by omega) (by omega), Option.bind_some]
  rw [show cl (sz s.1) (i.2.2.2.2 + (1 + m)) - cl (sz s.1) i.2.2.2.2 = more s i (1 + m) from rfl]
  cases g with
  | false =>
    have : ¬ more s i (1 + m) = 0 := fun e => by
      have := p2.2 (.inl e)
      exact absurd this (by decide)
    rw [if_neg this, if_pos (by decide), awake_ok]; rfl
  | true =>
    have hg := p2.1 rfl
    rw [if_neg (show ¬ (!true) = true by decide), if_neg (show ¬ (!true) = true by decide), ite_self]
    have hcap : more s i (1 + m) ≤ (frees s.2.2).length := by
      have : (frees s.2.2).length ≤ s.2.2.length := owned_len s.2.2 (-1)
      have u0 := used_ge s
      unfold GrS Gr at hg
      unfold used at hg u0
      have l0 := (lrg_ge (z := sz s.1) q.flatten).1
      rcases hg with h1 | ⟨_, h1⟩ | ⟨_, h1, h2⟩ <;> omega
    rcases Alloc_ok s i (1 + m) with ⟨k1, _⟩ | ⟨_, ⟨k1, k2, _⟩ | ⟨_, ⟨k1, _⟩ | ⟨_, t, j, a, p, p', k1, gr⟩⟩⟩
    · exact absurd ⟨vs, hfit, by omega, by omega⟩ k1
    · exact absurd (hown k1).2 k2
    · unfold more at hcap; omega
    rw [k1, Option.bind_some]
    simp only
    rw [if_neg (by simp)]
    have hjb : j.2.1 = b := gr.belt.trans hib
    have hjw := gr.words
    have hjf := gr.fit.1.2.2.2.2.2
    have hws := congrArg List.length gr.ws
    have hkk : more s i (1 + m) = ((p'.length - p.length : Nat) : Int) := by
      have := gr.llen
      have := gr.len'
      unfold more at hk0 ⊢; omega
    have hut : used t = used s + more s i (1 + m) := by
      have h1 := congrArg List.length gr.fre
      rw [List.length_drop] at h1
      have h2 := gr.len
      unfold used; omega
    -- the tail for any rows
    have tail : ∀ r : Rows, r.length = q.length → (∀ x ∈ r, x.length ≤ 1000) → (∀ y ∈ r.flatten, y ∈ q.flatten ∨ y = j) → _ := fun r h1 h2 h3 =>
      keep_tail c1 c2 hq (t := t) (r := r) ⟨gr.vs, by have := gr.len; have := hq.n; omega, by omega, h2, fun y hy => by
        rcases h3 y hy with h | rfl
        · exact hq.w y h
        · omega⟩ hk0 gr.len hut gr.sh hg (fun y hy => by
        rcases h3 y hy with h | rfl
        · exact .inl h
        · right; rw [hjw]; unfold more; omega) (fun hk => by
        by_cases hw : i.2.2.2.2 = 0
        · have := cl_pos z (show 0 < i.2.2.2.2 + (1 + m) by omega)
          have := cl_zero z
          unfold more at hk
          rw [hw] at hk
          have h2 : 0 < cl (sz s.1) (0 + (1 + m)) := cl_pos z (by omega)
          omega
        · rcases hi with rfl | hi
          · exact absurd rfl hw
          · exact (lrg_ge (z := sz s.1) q.flatten).2 i (row_flat (by omega) hi))
    by_cases hw : i.2.2.2.2 = 0
    · obtain ⟨hie, _⟩ := hown hw
      have hA := rAdd_ok (q := q) (by omega) hx6 (j := j) (by omega) (by omega) (fun y hy => by
        rw [hjb] at hy
        have := (h.made.fits y (onb y hy).1).2.2.2.1
        have := gr.seq
        rw [hie] at this
        simp only at this; omega)
      have hl := hq.xlen (gl [] q b.toNat) (gl_mem (by omega))
      have hc4 := h.made.cnt
      have hR : ∃ r, Fbeltwayref11_Replace q j = some r := by
        rcases rReplace_ok (q := q) (by omega) hx6 (j := j) (by omega) (by omega) with ⟨_, e⟩ | ⟨_, _, _, e⟩
        · exact ⟨_, e⟩
        · exact ⟨_, e⟩
      obtain ⟨rr, hR⟩ := hR
      rw [hR, Option.bind_some, if_pos hw, hA, Option.bind_some]
      simp only
      rw [if_neg (by simp)]
      refine tail _ (by simp) (fun x hx => ?_) (fun y hy => ?_)
      · rcases List.mem_or_eq_of_mem_set hx with h1 | rfl
        · exact hq.xlen x h1
        · rw [hjb, hrow]
          have := List.length_filter_le (fun i : Inc => decide (i.2.1 = (b.toNat : Int))) l
          simp only [List.length_append, List.length_cons, List.length_nil, onB]
          omega
      · rcases flat_set (by omega) hy with h1 | h1
        · exact .inl h1
        · rcases List.mem_append.1 h1 with h1 | h1
          · exact .inl (row_flat (by omega) h1)
          · exact .inr (List.mem_singleton.1 h1)
    · have hi2 : i ∈ gl [] q b.toNat := by
        rcases hi with rfl | hi
        · exact absurd rfl hw
        · exact hi
      rcases rReplace_ok (q := q) (by omega) hx6 (j := j) (by omega) (by omega) with ⟨e, _⟩ | ⟨k, k2, k3, e⟩
      · rw [hjb] at e
        exact absurd gr.seq.symm (e i hi2)
      rw [e, Option.bind_some, if_neg hw]
      simp only
      rw [if_neg (by simp)]
      refine tail _ (by simp) (fun x hx => ?_) (fun y hy => ?_)
      · rcases List.mem_or_eq_of_mem_set hx with h1 | rfl
        · exact hq.xlen x h1
        · rw [List.length_set]; exact hq.xlen _ (gl_mem (by omega))
      · rcases flat_set (by omega) hy with h1 | h1
        · exact .inl h1
        · rcases List.mem_or_eq_of_mem_set h1 with h1 | h1
          · exact .inl (row_flat (by omega) h1)
          · exact .inr h1
namespace reserveKeeps
open Go.ChangeShapes Go.WideShapes Go.ChangeAt Go.RowKit Go.V3
set_option linter.unusedVariables false
theorem own : ownKnob Tryd.prog.godebug = none := by kernel_rfl
theorem laidOut : laidOutB Tryd.prog = true := by kernel_rfl
theorem door_met (os : Os) (args : Array Value) : laidMetH Tryd.prog [("math/bits.deBruijn64tab", Rows.laid_math_bits_deBruijn64tab)] ((World.doorLaid Tryd.prog 4000 os).forCall (fun _ _ => 0) ⟨#[], args, []⟩).memory :=
  laidMetH_of_parts3 (fuel := 8) (laidMet_of_run' 8 (by kernel_rfl) (by kernel_rfl)) (by kernel_rfl) (by kernel_rfl)
set_option maxRecDepth 100000 in
theorem lifted (os : Os) (started : os.Started) (H : Type) (enc : TypeId × Value → H) :
    ReturnsInHanded {} Tryd.checked os 4 .any (fun w args => (Rows.reserveKeepsSpec.pre enc Tryd.prog Tryd.f4 [] false w args ∧ laidMetH Tryd.prog [("math/bits.deBruijn64tab", Rows.laid_math_bits_deBruijn64tab)] w) ∧ sizedMet enc Tryd.prog Tryd.f4 (OpenSpec.ofChange Rows.reserveKeepsSpec) false w args) (Rows.reserveKeepsSpec.post enc Tryd.prog Tryd.f4 false true false false) := by
  refine returnsInHanded_of_change_and (C := Tryd.checked) (X := fun w _ => laidMetH Tryd.prog [("math/bits.deBruijn64tab", Rows.laid_math_bits_deBruijn64tab)] w) (fun _ _ _ hh h => h.of_heap hh) own started (by kernel_rfl) Tryd.func4
    (ChangeSpec.witness_shaped (enc := enc) (C := Tryd.checked) (os := os) (X := fun w _ => laidMetH Tryd.prog [("math/bits.deBruijn64tab", Rows.laid_math_bits_deBruijn64tab)] w) false (World.doorLaid Tryd.prog 4000 os) #[.slice none 0 0, .int .i64 0, .int .i64 0] 8 rfl (World.shaped_of_RefB (by kernel_rfl) (by kernel_rfl)) (by kernel_rfl) (by kernel_rfl) (by kernel_rfl) (door_met os _)) ?_
  intro W base args ds gs before hval0 hW _ _ hL _
  have hT : TabW tabs W := by
    intro q hq
    simp only [tabs, List.mem_cons, List.not_mem_nil, or_false] at hq
    subst hq
    exact tab_of_laid (t := 107) hL (by kernel_rfl) (e := 5) (k := .u8) (len := 64) (by kernel_rfl) (by kernel_rfl) (by kernel_rfl) (by kernel_rfl) (by kernel_rfl) (by kernel_rfl) [0, 1, 56, 2, 57, 49, 28, 3, 61, 58, 42, 50, 38, 29, 17, 4, 62, 47, 59, 36, 45, 43, 51, 22, 53, 39, 33, 30, 24, 18, 12, 5, 63, 55, 48, 27, 60, 41, 37, 16, 46, 35, 44, 21, 52, 32, 23, 11, 54, 26, 40, 15, 34, 20, 31, 10, 25, 14, 19, 9, 13, 8, 7, 6] rfl
  have hval : ∀ (j : Nat) t v, Tryd.f4.params[j]? = some t → args[j]? = some v → Value.okWide Tryd.prog W .any base t v := hval0
  have hW' := hW
  obtain ⟨p, q, hA0, hV, rfl, hfz, hnd⟩ := hW
  have hA : DataW.TrodAll enc Tryd.prog W 0 (fun _ => true) true Tryd.f4.params.toList args.toList ds p := hA0
  rw [Tryd.params4] at hA hval
  obtain ⟨v0, vs0, d0, ds0, p0, q0, hargs, rfl, rfl, h0, r0⟩ := trodAll_cons hA
  obtain ⟨v1, vs1, d1, ds1, p1, q1, rfl, rfl, rfl, h1, r1⟩ := trodAll_cons r0
  obtain ⟨v2, vs2, d2, ds2, p2, q2, rfl, rfl, rfl, h2, r2⟩ := trodAll_cons r1
  obtain ⟨rfl, rfl, rfl⟩ := trodAll_nil r2
  obtain rfl : args = #[v0, v1, v2] := by cases args; simp_all
  obtain ⟨rfl, rfl⟩ := trodVars_none hV
  have k0 := h0
  have lt0 : ∀ x ∈ p0, x.block < W.heap.size := by obtain ⟨m, hm⟩ := k0; exact DataW.trod_lt m _ _ _ hm
  obtain ⟨y0, R0, w0⟩ := handed 40 (.slice (.int .i64)) (by kernel_rfl) (hval 0 22 v0 rfl rfl) k0
  have k1 := h1
  have lt1 : ∀ x ∈ p1, x.block < W.heap.size := by obtain ⟨m, hm⟩ := k1; exact DataW.trod_lt m _ _ _ hm
  obtain ⟨y1, R1, w1⟩ := handed 40 (.int .i64) (by kernel_rfl) (hval 1 3 v1 rfl rfl) k1
  have k2 := h2
  have lt2 : ∀ x ∈ p2, x.block < W.heap.size := by obtain ⟨m, hm⟩ := k2; exact DataW.trod_lt m _ _ _ hm
  obtain ⟨y2, R2, w2⟩ := handed 40 (.int .i64) (by kernel_rfl) (hval 2 3 v2 rfl rfl) k2
  have A3 := Args.nil W
  obtain ⟨m2, A2⟩ := A3.cons (t := (.int .i64)) (.inr ⟨rfl, plainForm (t := 3) rfl (hval 2 3 v2 rfl rfl)⟩) y2 R2
  obtain ⟨m1, A1⟩ := A2.cons (t := (.int .i64)) (.inr ⟨rfl, plainForm (t := 3) rfl (hval 1 3 v1 rfl rfl)⟩) y1 R1
  obtain ⟨m0, A0⟩ := A1.cons (t := (.slice (.int .i64))) (.inr ⟨rfl, plainForm (t := 22) rfl (hval 0 22 v0 rfl rfl)⟩) y0 R0
  refine (law_args (fi := iFbeltwaylaw16_ReserveKeeps) okFbeltwaylaw16_ReserveKeeps hT (r := (true : Bool)) (vals := #[v0, v1, v2]) (w := W) A0 (law_ReserveKeeps y0 w0 y1 (i64_of_wf w1) y2 (i64_of_wf w2)) (fun _ => rfl)).mono fun e W' ⟨he, bel⟩ => ?_
  subst he
  simp only [List.append_nil] at hW'
  exact ⟨_, rfl, _, _, _, [], _, [], hW', trodAll_mk1 (shut_bool Tryd.underlying4 _), (trodAll_cons_mk (Below.trod laidOut (by kernel_rfl) (of_decide_eq_true (by kernel_rfl)) k0 bel lt0) (trodAll_cons_mk (Below.trod laidOut (by kernel_rfl) (of_decide_eq_true (by kernel_rfl)) k1 bel lt1) (trodAll_cons_mk (Below.trod laidOut (by kernel_rfl) (of_decide_eq_true (by kernel_rfl)) k2 bel lt2) trodAll_mk0))), rfl, bel.frame _, fun h => by cases h⟩
theorem proved : Rows.ReserveKeepsSaid :=
  OpenClaim.holds_of_wide 4 Tryd.f4 rfl rfl rfl rfl rfl rfl rfl ⟨rfl, rfl, rfl, rfl, rfl⟩ rfl rfl rfl rfl rfl (by kernel_rfl) Tryd.func4 (by kernel_rfl)
    (of_decide_eq_true (by kernel_rfl)) (by unfold Func.isWrapper; first | (rw [if_pos (by decide +kernel)]; kernel_rfl) | (rw [if_neg (by decide +kernel)]; exact ⟨rfl, rfl⟩))
    (fun os started H enc _ => lifted os started H enc)
theorem card : Rows.ReserveKeepsCardSaid :=
  Claim7.holds_tied_plain_at .later [] [.data] true (true, "49a39cfe857223c3ce89ae55973487ac8814b4c217cec6e9da22c8fe57a5dc39") false proved (fun _ h => by cases h) (by kernel_rfl) (fun _ h => by cases h) reserveKeeps_row_tie rfl ⟨rfl, rfl⟩ (by kernel_rfl) rfl
    (fun f fn hf hfn => by
      obtain rfl : f = 4 := Option.some.inj ((show Tryd.prog.funcNamed "beltway/beltwaylaw16.ReserveKeeps" = some 4 by kernel_rfl).symm.trans hf) |>.symm
      obtain rfl : fn = Tryd.f4 := (Option.some.inj (Tryd.func4.symm.trans hfn)).symm
      exact ⟨by kernel_rfl, fun j t ht => by
        rw [Tryd.params4] at ht
        have hm : t ∈ [22, 3, 3] := by simpa using Array.mem_of_getElem? ht
        have hall : ([22, 3, 3].all fun u => !Tryd.prog.wantsStandIn u) = true := by kernel_rfl
        exact (show Tryd.prog.wantsStandIn t = false by simpa using List.all_eq_true.1 hall t hm)⟩)
    (by kernel_rfl)
end reserveKeeps
end Go.Proofs.YtgllefepfnbmkaaDoor
