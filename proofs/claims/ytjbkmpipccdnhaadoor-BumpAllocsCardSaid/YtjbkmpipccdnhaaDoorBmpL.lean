/-
  Laws of package bump.
-/
import Derived.Test.YtjbkmpipccdnhaaDoorRows
import Derived.Test.YtjbkmpipccdnhaaDoorTie
import Derived.Test.YtjbkmpipccdnhaaDoorCards
import Derived.SevenTiedAt
import Derived.Test.YtjbkmpipccdnhaaDoorBmpB
set_option linter.unusedVariables false
namespace Go.Proofs.YtjbkmpipccdnhaaDoor
open Go Go.V3

theorem awake_ok : Fbeltwaylaw09_awake = some true := by
  have h0 := VS.new (s := 3) (n := 4) (by omega) (by omega)
  have hn : Fbeltwayref03_New 3 4 = _ := rNew_ok (s := 3) (n := 4) (by omega) (by omega)
  unfold Fbeltwaylaw09_awake
  rw [hn]
  simp only [Option.bind_some]
  have f0 : FitS (3, List.replicate (4 * sz 3).toNat 0#64, List.replicate (4 : Int).toNat (-1, -1, -1)) (0, 0, -1, -1, 0) := ⟨by decide, .inl (by decide)⟩
  rcases bAlloc_ok h0.stI (0, 0, -1, -1, 0) 5 with ⟨h, _⟩ | ⟨_, ⟨_, h, _⟩ | ⟨_, ⟨h, _⟩ | ⟨_, t, j, a, l, l', e1, g1⟩⟩⟩
  · exact absurd ⟨h0, f0, by omega, by omega⟩ h
  · exact absurd (by decide) h
  · exact absurd h (by decide)
  rw [e1]
  simp only [Option.bind_some]
  obtain ⟨t0, t1, fs⟩ := t
  obtain ⟨q, b, F, L, w⟩ := j
  have e2 : (fs, F, L) = ([(0, 0, -1), (-1, -1, -1), (-1, -1, -1), (-1, -1, -1)], 0, 0) := g1.gw.trans (by decide)
  simp only [Prod.mk.injEq] at e2
  obtain ⟨rfl, rfl, rfl⟩ := e2
  obtain rfl : q = 0 := g1.seq
  obtain rfl : b = 0 := g1.belt
  obtain rfl : w = 5 := g1.words
  obtain rfl : t0 = 3 := g1.sh
  rcases bAlloc_ok g1.vs.stI (0, 0, 0, 0, 5) 6 with ⟨h, _⟩ | ⟨_, ⟨h, _⟩ | ⟨_, ⟨h, _⟩ | ⟨_, t, j, a2, m, m', e3, g2⟩⟩⟩
  · exact absurd ⟨g1.vs, g1.fit, by omega, by omega⟩ h
  · exact absurd h (by decide)
  · exact absurd h (by simp only; decide)
  rw [e3]
  simp only [Option.bind_some]
  obtain ⟨u0, u1, fs⟩ := t
  obtain ⟨q, b, F, L, w⟩ := j
  have e4 : (fs, F, L) = ([(0, 0, 1), (0, 0, -1), (-1, -1, -1), (-1, -1, -1)], 0, 1) := g2.gw.trans (by simp only; decide)
  simp only [Prod.mk.injEq] at e4
  obtain ⟨rfl, rfl, rfl⟩ := e4
  obtain rfl : w = 11 := g2.words
  have hp : m' = [0, 1] := g2.path.fn ⟨rfl, by decide, by simp only; decide, rfl, by decide, by simp only; decide, by simp only [Pa]; decide⟩
  subst hp
  have ha : some a2 = some 5 := g2.adr.symm.trans (by simp only; decide)
  obtain rfl := Option.some.inj ha
  rfl

theorem pick_ok {s : Sp} {l : List Inc} (hm : Made s l) (y : Int) : ∃ j, Fbeltwaylaw09_pick l y = some j ∧ FitS s j := by
  unfold Fbeltwaylaw09_pick
  have := hm.cnt
  rw [w64_id (by omega) (by omega)]
  obtain ⟨m1, e4, a0, a1, _⟩ := Mod_ok y (m := (l.length : Int) + 1) (by omega) (by omega)
  rw [e4]
  simp only [Option.bind_some]
  by_cases h : m1 < (l.length : Int)
  · rw [if_pos h, if_pos ⟨a0, h⟩]
    exact ⟨_, rfl, (hm.fits _ (gl_mem (by omega))).1⟩
  · rw [if_neg h]
    exact ⟨_, rfl, ⟨by simp only; omega, .inl (by decide)⟩⟩
theorem twisted_ok (i : Inc) (a b : Int) : ∃ v, Fbeltwaylaw09_twisted i a b = some v := by
  unfold Fbeltwaylaw09_twisted
  obtain ⟨m1, e1, _⟩ := Mod_ok a (m := 6) (by omega) (by omega)
  obtain ⟨m2, e2, _⟩ := Mod_ok b (m := 3) (by omega) (by omega)
  obtain ⟨m3, e3, _⟩ := Mod_ok b (m := 6) (by omega) (by omega)
  obtain ⟨m4, e4, _⟩ := Mod_ok b (m := 12) (by omega) (by omega)
  obtain ⟨m5, e5, _⟩ := Mod_ok b (m := 20) (by omega) (by omega)
  rw [e1, e2, e3, e4, e5]
  simp only [Option.bind_some]
  repeat' split
  all_goals exact ⟨_, rfl⟩

theorem law_BumpValid (y0 : Sp) (w0 : Wf spT y0) (y1 : Inc) (w1 : Wf (.pair (.int .i64) (.pair (.int .i64) (.pair (.int .i64) (.pair (.int .i64) (.int .i64))))) y1) (y2 : List Int) (w2 : Wf (.slice (.int .i64)) y2) (y3 : Int) (w3 : I64 y3) (y4 : Int) (w4 : I64 y4) (y5 : Int) (w5 : I64 y5) (y6 : Int) (w6 : I64 y6) :
    Fbeltwaylaw09_BumpValid y0 y1 y2 y3 y4 y5 y6 = some true := by
  unfold Fbeltwaylaw09_BumpValid
  rw [Small_ok]
  simp only [Option.bind_some]
  by_cases hs : y0.2.1.length ≤ 3000 ∧ y0.2.2.length ≤ 80
  rotate_left
  · rw [if_pos (by simp [hs]), awake_ok]; rfl
  rw [if_neg (by simp [hs])]
  obtain ⟨d, e1, hd⟩ := New0_ok y2 w2.1
  rw [e1]
  simp only [Option.bind_some]
  obtain ⟨s, l, d', e2, _, hm⟩ := Space_ok hd
  rw [e2]
  simp only [Option.bind_some]
  obtain ⟨j, e3, hj⟩ := pick_ok hm y3
  rw [e3]
  simp only [Option.bind_some]
  obtain ⟨u, e4, k1, k2, k3, k4, k5⟩ := VS.spoilt hm.vs y4 y3 y5
  rw [e4]
  simp only [Option.bind_some]
  have hall : ∀ x ∈ [s, y0, u], StI x := by
    intro x hx
    simp only [List.mem_cons, List.not_mem_nil, or_false] at hx
    rcases hx with rfl | rfl | rfl
    · exact hm.vs.stI
    · exact raw_stI w0
    · exact k1.stI (by omega)
  refine loopO_run 3 (fun k hk => ?_) ?_
  · rw [if_pos (by simp; omega), if_pos ⟨by omega, by simp; omega⟩]
    have hx := hall _ (gl_mem (d := ((0, [], []) : Sp)) (xs := [s, y0, u]) (k := (k : Int).toNat) (by simp; omega))
    generalize gl ((0, [], []) : Sp) [s, y0, u] (k : Int).toNat = x at hx ⊢
    obtain ⟨v, e5⟩ := twisted_ok j y4 y5
    rw [e5]
    simp only [Option.bind_some]
    rw [w64_id (e := (k : Int) + 1) (by omega) (by omega)]
    refine loopO_run 3 (fun m hm => ?_) (by rw [if_neg (by simp)])
    rw [if_pos (by simp; omega), if_pos ⟨by omega, by simp; omega⟩]
    generalize gl ((0, 0, 0, 0, 0) : Inc) [y1, j, v] (m : Int).toNat = p
    obtain ⟨b, b1, b2⟩ := bValid_ok hx p
    obtain ⟨c, c1, c2⟩ := rIncValid_ok x p
    have e : b = c := by
      have := b2.trans c2.symm
      cases b <;> cases c <;> simp_all
    subst e
    rw [show (p.1, p.2.1, p.2.2.1, p.2.2.2) = p from rfl, b1]
    simp only [Option.bind_some]
    rw [c1]
    simp only [Option.bind_some]
    rw [if_neg (by simp), w64_id (by omega) (by omega)]
  · rw [if_neg (by simp)]
    obtain ⟨m1, e5, a0, a1, _⟩ := Mod_ok y6 (m := 200) (by omega) (by omega)
    rw [e5]
    simp only [Option.bind_some]
    have hwl := VS.wlen hm.vs
    have j0 := hj.1.2.2.2.2.1
    have j1 := hj.1.2.2.2.2.2
    rw [bFrames_ok hm.vs j0 (by omega), Frames_ok hm.vs j0 (by omega)]
    simp only [Option.bind_some]
    rw [if_pos trivial, bExtra_ok hm.vs j0 (by omega) a0 (by omega), Extra_ok hm.vs j0 (by omega) a0 (by omega)]
    simp only [Option.bind_some]
    rw [if_pos trivial, awake_ok]
    rfl

theorem law_BumpAllocs (y0 : Sp) (w0 : Wf spT y0) (y1 : Inc) (w1 : Wf (.pair (.int .i64) (.pair (.int .i64) (.pair (.int .i64) (.pair (.int .i64) (.int .i64))))) y1) (y2 : List Int) (w2 : Wf (.slice (.int .i64)) y2) (y3 : Int) (w3 : I64 y3) (y4 : Int) (w4 : I64 y4) (y5 : Int) (w5 : I64 y5) (y6 : Int) (w6 : I64 y6) :
    Fbeltwaylaw09_BumpAllocs y0 y1 y2 y3 y4 y5 y6 = some true := by
  unfold Fbeltwaylaw09_BumpAllocs
  rw [Small_ok]
  simp only [Option.bind_some]
  by_cases hs : y0.2.1.length ≤ 3000 ∧ y0.2.2.length ≤ 80
  rotate_left
  · rw [if_pos (by simp [hs]), awake_ok]; rfl
  rw [if_neg (by simp [hs])]
  obtain ⟨d, e1, hd⟩ := New0_ok y2 w2.1
  rw [e1]
  simp only [Option.bind_some]
  obtain ⟨s, l, d', e2, _, hm⟩ := Space_ok hd
  rw [e2]
  simp only [Option.bind_some]
  obtain ⟨j, e3, hj⟩ := pick_ok hm y3
  rw [e3]
  simp only [Option.bind_some]
  rw [rTake_vs hm.vs (by omega) (by omega) (by omega) (by omega)]
  simp only [Option.bind_some]
  have ht : StI (takeR s 90 2).1 := by
    unfold takeR
    split
    · split
      · intro x x0 x1; simp at x1; omega
      · rename_i f r hf
        obtain ⟨⟨f0, f1⟩, f2, _⟩ := frees_cons hf
        exact (hm.vs.take f0 f1 f2 (o := 90) (b := 2) (by omega) (by omega) (by omega) (by omega)).1.stI
    · intro x x0 x1; simp at x1; omega
  obtain ⟨u, e4, k1, k2, k3, k4, k5⟩ := VS.spoilt hm.vs y4 y3 y5
  rw [e4]
  simp only [Option.bind_some]
  have hall : ∀ x ∈ [s, y0, (takeR s 90 2).1, u], StI x := by
    intro x hx
    simp only [List.mem_cons, List.not_mem_nil, or_false] at hx
    rcases hx with rfl | rfl | rfl | rfl
    · exact hm.vs.stI
    · exact raw_stI w0
    · exact ht
    · exact k1.stI (by omega)
  refine loopO_run 4 (fun k hk => ?_) (by rw [if_neg (by simp), awake_ok]; rfl)
  rw [if_pos (by simp; omega), if_pos ⟨by omega, by simp; omega⟩]
  have hx := hall _ (gl_mem (d := ((0, [], []) : Sp)) (xs := [s, y0, (takeR s 90 2).1, u]) (k := (k : Int).toNat) (by simp; omega))
  generalize gl ((0, [], []) : Sp) [s, y0, (takeR s 90 2).1, u] (k : Int).toNat = x at hx ⊢
  obtain ⟨v, e5⟩ := twisted_ok j y4 y5
  rw [e5]
  simp only [Option.bind_some]
  rw [w64_id (e := (k : Int) + 1) (by omega) (by omega)]
  refine loopO_run 3 (fun m hm => ?_) (by rw [if_neg (by simp)])
  rw [if_pos (by simp; omega), if_pos ⟨by omega, by simp; omega⟩]
  generalize gl ((0, 0, 0, 0, 0) : Inc) [y1, j, v] (m : Int).toNat = p
  obtain ⟨m1, e6, a0, a1, _⟩ := Mod_ok y6 (m := 51) (by omega) (by omega)
  rw [e6]
  simp only [Option.bind_some]
  rw [w64_id (e := (m : Int) + 1) (by omega) (by omega), show (p.1, p.2.1, p.2.2.1, p.2.2.2) = p from rfl, show (x.1, x.2) = x from rfl]
  refine loopO_run 2 (fun n hn => ?_) ?_
  · rw [if_pos (by simp; omega), if_pos ⟨by omega, by simp; omega⟩]
    generalize gl (0 : Int) [y6, w64 (m1 - 1)] (n : Int).toNat = q
    obtain ⟨r, r1, r2, r3, r4⟩ := alloc_eq hx p q
    rw [r1]
    simp only [Option.bind_some]
    rw [r2]
    simp only [Option.bind_some]
    rw [if_neg (by simp), if_neg (by simp [allB]), if_neg (by simp), Same_refl _ (by omega) (by omega)]
    simp only [Option.bind_some]
    rw [if_neg (by simp), w64_id (by omega) (by omega)]
  · rw [if_neg (by simp)]
    obtain ⟨r, r1, r2, r3, r4⟩ := drop_eq hx p
    rw [r1]
    simp only [Option.bind_some]
    rw [r2]
    simp only [Option.bind_some]
    rw [if_neg (by simp), Same_refl _ (by omega) (by omega)]
    simp only [Option.bind_some]
    rw [if_neg (by simp)]
    rfl
namespace bumpValid
open Go.ChangeShapes Go.WideShapes Go.ChangeAt Go.RowKit Go.V3
set_option linter.unusedVariables false
theorem own : ownKnob Tryd.prog.godebug = none := by kernel_rfl
theorem laidOut : laidOutB Tryd.prog = true := by kernel_rfl
theorem door_met (os : Os) (args : Array Value) : laidMetH Tryd.prog [("math/bits.deBruijn64tab", Rows.laid_math_bits_deBruijn64tab)] ((World.doorLaid Tryd.prog 4000 os).forCall (fun _ _ => 0) ⟨#[], args, []⟩).memory :=
  laidMetH_of_parts3 (fuel := 8) (laidMet_of_run' 8 (by kernel_rfl) (by kernel_rfl)) (by kernel_rfl) (by kernel_rfl)
set_option maxRecDepth 100000 in
theorem lifted (os : Os) (started : os.Started) (H : Type) (enc : TypeId × Value → H) :
    ReturnsInHanded {} Tryd.checked os 3 .any (fun w args => (Rows.bumpValidSpec.pre enc Tryd.prog Tryd.f3 [] false w args ∧ laidMetH Tryd.prog [("math/bits.deBruijn64tab", Rows.laid_math_bits_deBruijn64tab)] w) ∧ sizedMet enc Tryd.prog Tryd.f3 (OpenSpec.ofChange Rows.bumpValidSpec) false w args) (Rows.bumpValidSpec.post enc Tryd.prog Tryd.f3 false true false false) := by
  refine returnsInHanded_of_change_and (C := Tryd.checked) (X := fun w _ => laidMetH Tryd.prog [("math/bits.deBruijn64tab", Rows.laid_math_bits_deBruijn64tab)] w) (fun _ _ _ hh h => h.of_heap hh) own started (by kernel_rfl) Tryd.func3
    (ChangeSpec.witness_shaped (enc := enc) (C := Tryd.checked) (os := os) (X := fun w _ => laidMetH Tryd.prog [("math/bits.deBruijn64tab", Rows.laid_math_bits_deBruijn64tab)] w) false (World.doorLaid Tryd.prog 4000 os) #[.agg #[.int .i64 0, .slice none 0 0, .slice none 0 0], .agg #[.int .i64 0, .int .i64 0, .int .i64 0, .int .i64 0, .int .i64 0], .slice none 0 0, .int .i64 0, .int .i64 0, .int .i64 0, .int .i64 0] 8 rfl (World.shaped_of_RefB (by kernel_rfl) (by kernel_rfl)) (by kernel_rfl) (by kernel_rfl) (by kernel_rfl) (door_met os _)) ?_
  intro W base args ds gs before hval0 hW _ _ hL _
  have hT : TabW tabs W := by
    intro q hq
    simp only [tabs, List.mem_cons, List.not_mem_nil, or_false] at hq
    subst hq
    exact tab_of_laid (t := 92) hL (by kernel_rfl) (e := 5) (k := .u8) (len := 64) (by kernel_rfl) (by kernel_rfl) (by kernel_rfl) (by kernel_rfl) (by kernel_rfl) (by kernel_rfl) [0, 1, 56, 2, 57, 49, 28, 3, 61, 58, 42, 50, 38, 29, 17, 4, 62, 47, 59, 36, 45, 43, 51, 22, 53, 39, 33, 30, 24, 18, 12, 5, 63, 55, 48, 27, 60, 41, 37, 16, 46, 35, 44, 21, 52, 32, 23, 11, 54, 26, 40, 15, 34, 20, 31, 10, 25, 14, 19, 9, 13, 8, 7, 6] rfl
  have hval : ∀ (j : Nat) t v, Tryd.f3.params[j]? = some t → args[j]? = some v → Value.okWide Tryd.prog W .any base t v := hval0
  have hW' := hW
  obtain ⟨p, q, hA0, hV, rfl, hfz, hnd⟩ := hW
  have hA : DataW.TrodAll enc Tryd.prog W 0 (fun _ => true) true Tryd.f3.params.toList args.toList ds p := hA0
  rw [Tryd.params3] at hA hval
  obtain ⟨v0, vs0, d0, ds0, p0, q0, hargs, rfl, rfl, h0, r0⟩ := trodAll_cons hA
  obtain ⟨v1, vs1, d1, ds1, p1, q1, rfl, rfl, rfl, h1, r1⟩ := trodAll_cons r0
  obtain ⟨v2, vs2, d2, ds2, p2, q2, rfl, rfl, rfl, h2, r2⟩ := trodAll_cons r1
  obtain ⟨v3, vs3, d3, ds3, p3, q3, rfl, rfl, rfl, h3, r3⟩ := trodAll_cons r2
  obtain ⟨v4, vs4, d4, ds4, p4, q4, rfl, rfl, rfl, h4, r4⟩ := trodAll_cons r3
  obtain ⟨v5, vs5, d5, ds5, p5, q5, rfl, rfl, rfl, h5, r5⟩ := trodAll_cons r4
  obtain ⟨v6, vs6, d6, ds6, p6, q6, rfl, rfl, rfl, h6, r6⟩ := trodAll_cons r5
  obtain ⟨rfl, rfl, rfl⟩ := trodAll_nil r6
  obtain rfl : args = #[v0, v1, v2, v3, v4, v5, v6] := by cases args; simp_all
  obtain ⟨rfl, rfl⟩ := trodVars_none hV
  have k0 := h0
  have lt0 : ∀ x ∈ p0, x.block < W.heap.size := by obtain ⟨m, hm⟩ := k0; exact DataW.trod_lt m _ _ _ hm
  obtain ⟨y0, R0, w0⟩ := handed 40 (.pair (.int .i64) (.pair (.slice .u64) (.slice (.pair (.int .i64) (.pair (.int .i64) (.int .i64)))))) (by kernel_rfl) (hval 0 25 v0 rfl rfl) k0
  have k1 := h1
  have lt1 : ∀ x ∈ p1, x.block < W.heap.size := by obtain ⟨m, hm⟩ := k1; exact DataW.trod_lt m _ _ _ hm
  obtain ⟨y1, R1, w1⟩ := handed 40 (.pair (.int .i64) (.pair (.int .i64) (.pair (.int .i64) (.pair (.int .i64) (.int .i64))))) (by kernel_rfl) (hval 1 27 v1 rfl rfl) k1
  have k2 := h2
  have lt2 : ∀ x ∈ p2, x.block < W.heap.size := by obtain ⟨m, hm⟩ := k2; exact DataW.trod_lt m _ _ _ hm
  obtain ⟨y2, R2, w2⟩ := handed 40 (.slice (.int .i64)) (by kernel_rfl) (hval 2 28 v2 rfl rfl) k2
  have k3 := h3
  have lt3 : ∀ x ∈ p3, x.block < W.heap.size := by obtain ⟨m, hm⟩ := k3; exact DataW.trod_lt m _ _ _ hm
  obtain ⟨y3, R3, w3⟩ := handed 40 (.int .i64) (by kernel_rfl) (hval 3 3 v3 rfl rfl) k3
  have k4 := h4
  have lt4 : ∀ x ∈ p4, x.block < W.heap.size := by obtain ⟨m, hm⟩ := k4; exact DataW.trod_lt m _ _ _ hm
  obtain ⟨y4, R4, w4⟩ := handed 40 (.int .i64) (by kernel_rfl) (hval 4 3 v4 rfl rfl) k4
  have k5 := h5
  have lt5 : ∀ x ∈ p5, x.block < W.heap.size := by obtain ⟨m, hm⟩ := k5; exact DataW.trod_lt m _ _ _ hm
  obtain ⟨y5, R5, w5⟩ := handed 40 (.int .i64) (by kernel_rfl) (hval 5 3 v5 rfl rfl) k5
  have k6 := h6
  have lt6 : ∀ x ∈ p6, x.block < W.heap.size := by obtain ⟨m, hm⟩ := k6; exact DataW.trod_lt m _ _ _ hm
  obtain ⟨y6, R6, w6⟩ := handed 40 (.int .i64) (by kernel_rfl) (hval 6 3 v6 rfl rfl) k6
  have A7 := Args.nil W
  obtain ⟨m6, A6⟩ := A7.cons (t := (.int .i64)) (.inr ⟨rfl, plainForm (t := 3) rfl (hval 6 3 v6 rfl rfl)⟩) y6 R6
  obtain ⟨m5, A5⟩ := A6.cons (t := (.int .i64)) (.inr ⟨rfl, plainForm (t := 3) rfl (hval 5 3 v5 rfl rfl)⟩) y5 R5
  obtain ⟨m4, A4⟩ := A5.cons (t := (.int .i64)) (.inr ⟨rfl, plainForm (t := 3) rfl (hval 4 3 v4 rfl rfl)⟩) y4 R4
  obtain ⟨m3, A3⟩ := A4.cons (t := (.int .i64)) (.inr ⟨rfl, plainForm (t := 3) rfl (hval 3 3 v3 rfl rfl)⟩) y3 R3
  obtain ⟨m2, A2⟩ := A3.cons (t := (.slice (.int .i64))) (.inr ⟨rfl, plainForm (t := 28) rfl (hval 2 28 v2 rfl rfl)⟩) y2 R2
  obtain ⟨m1, A1⟩ := A2.cons (t := (.pair (.int .i64) (.pair (.int .i64) (.pair (.int .i64) (.pair (.int .i64) (.int .i64)))))) (.inl ⟨rfl, aggForm (t := 27) rfl (hval 1 27 v1 rfl rfl)⟩) y1 R1
  obtain ⟨m0, A0⟩ := A1.cons (t := (.pair (.int .i64) (.pair (.slice .u64) (.slice (.pair (.int .i64) (.pair (.int .i64) (.int .i64))))))) (.inl ⟨rfl, aggForm (t := 25) rfl (hval 0 25 v0 rfl rfl)⟩) y0 R0
  refine (law_args (fi := iFbeltwaylaw09_BumpValid) okFbeltwaylaw09_BumpValid hT (r := (true : Bool)) (vals := #[v0, v1, v2, v3, v4, v5, v6]) (w := W) A0 (law_BumpValid y0 w0 y1 w1 y2 w2 y3 (i64_of_wf w3) y4 (i64_of_wf w4) y5 (i64_of_wf w5) y6 (i64_of_wf w6)) (fun _ => rfl)).mono fun e W' ⟨he, bel⟩ => ?_
  subst he
  simp only [List.append_nil] at hW'
  exact ⟨_, rfl, _, _, _, [], _, [], hW', trodAll_mk1 (shut_bool Tryd.underlying4 _), (trodAll_cons_mk (Below.trod laidOut (by kernel_rfl) (of_decide_eq_true (by kernel_rfl)) k0 bel lt0) (trodAll_cons_mk (Below.trod laidOut (by kernel_rfl) (of_decide_eq_true (by kernel_rfl)) k1 bel lt1) (trodAll_cons_mk (Below.trod laidOut (by kernel_rfl) (of_decide_eq_true (by kernel_rfl)) k2 bel lt2) (trodAll_cons_mk (Below.trod laidOut (by kernel_rfl) (of_decide_eq_true (by kernel_rfl)) k3 bel lt3) (trodAll_cons_mk (Below.trod laidOut (by kernel_rfl) (of_decide_eq_true (by kernel_rfl)) k4 bel lt4) (trodAll_cons_mk (Below.trod laidOut (by kernel_rfl) (of_decide_eq_true (by kernel_rfl)) k5 bel lt5) (trodAll_cons_mk (Below.trod laidOut (by kernel_rfl) (of_decide_eq_true (by kernel_rfl)) k6 bel lt6) trodAll_mk0))))))), rfl, bel.frame _, fun h => by cases h⟩
theorem proved : Rows.BumpValidSaid :=
  OpenClaim.holds_of_wide 3 Tryd.f3 rfl rfl rfl rfl rfl rfl rfl ⟨rfl, rfl, rfl, rfl, rfl⟩ rfl rfl rfl rfl rfl (by kernel_rfl) Tryd.func3 (by kernel_rfl)
    (of_decide_eq_true (by kernel_rfl)) (by unfold Func.isWrapper; first | (rw [if_pos (by decide +kernel)]; kernel_rfl) | (rw [if_neg (by decide +kernel)]; exact ⟨rfl, rfl⟩))
    (fun os started H enc _ => lifted os started H enc)
theorem card : Rows.BumpValidCardSaid :=
  Claim7.holds_tied_plain_at .later [] [.data] true (true, "3127a7bbc4ffdb061a7b6f3081f927355dd740ad841135f426207b3137d35892") false proved (fun _ h => by cases h) (by kernel_rfl) (fun _ h => by cases h) bumpValid_row_tie rfl ⟨rfl, rfl⟩ (by kernel_rfl) rfl
    (fun f fn hf hfn => by
      obtain rfl : f = 3 := Option.some.inj ((show Tryd.prog.funcNamed "beltway/beltwaylaw09.BumpValid" = some 3 by kernel_rfl).symm.trans hf) |>.symm
      obtain rfl : fn = Tryd.f3 := (Option.some.inj (Tryd.func3.symm.trans hfn)).symm
      exact ⟨by kernel_rfl, fun j t ht => by
        rw [Tryd.params3] at ht
        have hm : t ∈ [25, 27, 28, 3, 3, 3, 3] := by simpa using Array.mem_of_getElem? ht
        have hall : ([25, 27, 28, 3, 3, 3, 3].all fun u => !Tryd.prog.wantsStandIn u) = true := by kernel_rfl
        exact (show Tryd.prog.wantsStandIn t = false by simpa using List.all_eq_true.1 hall t hm)⟩)
    (by kernel_rfl)
end bumpValid
namespace bumpAllocs
open Go.ChangeShapes Go.WideShapes Go.ChangeAt Go.RowKit Go.V3
set_option linter.unusedVariables false
theorem own : ownKnob Tryd.prog.godebug = none := by kernel_rfl
theorem laidOut : laidOutB Tryd.prog = true := by kernel_rfl
theorem door_met (os : Os) (args : Array Value) : laidMetH Tryd.prog [("math/bits.deBruijn64tab", Rows.laid_math_bits_deBruijn64tab)] ((World.doorLaid Tryd.prog 4000 os).forCall (fun _ _ => 0) ⟨#[], args, []⟩).memory :=
  laidMetH_of_parts3 (fuel := 8) (laidMet_of_run' 8 (by kernel_rfl) (by kernel_rfl)) (by kernel_rfl) (by kernel_rfl)
set_option maxRecDepth 100000 in
theorem lifted (os : Os) (started : os.Started) (H : Type) (enc : TypeId × Value → H) :
    ReturnsInHanded {} Tryd.checked os 6 .any (fun w args => (Rows.bumpAllocsSpec.pre enc Tryd.prog Tryd.f6 [] false w args ∧ laidMetH Tryd.prog [("math/bits.deBruijn64tab", Rows.laid_math_bits_deBruijn64tab)] w) ∧ sizedMet enc Tryd.prog Tryd.f6 (OpenSpec.ofChange Rows.bumpAllocsSpec) false w args) (Rows.bumpAllocsSpec.post enc Tryd.prog Tryd.f6 false true false false) := by
  refine returnsInHanded_of_change_and (C := Tryd.checked) (X := fun w _ => laidMetH Tryd.prog [("math/bits.deBruijn64tab", Rows.laid_math_bits_deBruijn64tab)] w) (fun _ _ _ hh h => h.of_heap hh) own started (by kernel_rfl) Tryd.func6
    (ChangeSpec.witness_shaped (enc := enc) (C := Tryd.checked) (os := os) (X := fun w _ => laidMetH Tryd.prog [("math/bits.deBruijn64tab", Rows.laid_math_bits_deBruijn64tab)] w) false (World.doorLaid Tryd.prog 4000 os) #[.agg #[.int .i64 0, .slice none 0 0, .slice none 0 0], .agg #[.int .i64 0, .int .i64 0, .int .i64 0, .int .i64 0, .int .i64 0], .slice none 0 0, .int .i64 0, .int .i64 0, .int .i64 0, .int .i64 0] 8 rfl (World.shaped_of_RefB (by kernel_rfl) (by kernel_rfl)) (by kernel_rfl) (by kernel_rfl) (by kernel_rfl) (door_met os _)) ?_
  intro W base args ds gs before hval0 hW _ _ hL _
  have hT : TabW tabs W := by
    intro q hq
    simp only [tabs, List.mem_cons, List.not_mem_nil, or_false] at hq
    subst hq
    exact tab_of_laid (t := 92) hL (by kernel_rfl) (e := 5) (k := .u8) (len := 64) (by kernel_rfl) (by kernel_rfl) (by kernel_rfl) (by kernel_rfl) (by kernel_rfl) (by kernel_rfl) [0, 1, 56, 2, 57, 49, 28, 3, 61, 58, 42, 50, 38, 29, 17, 4, 62, 47, 59, 36, 45, 43, 51, 22, 53, 39, 33, 30, 24, 18, 12, 5, 63, 55, 48, 27, 60, 41, 37, 16, 46, 35, 44, 21, 52, 32, 23, 11, 54, 26, 40, 15, 34, 20, 31, 10, 25, 14, 19, 9, 13, 8, 7, 6] rfl
  have hval : ∀ (j : Nat) t v, Tryd.f6.params[j]? = some t → args[j]? = some v → Value.okWide Tryd.prog W .any base t v := hval0
  have hW' := hW
  obtain ⟨p, q, hA0, hV, rfl, hfz, hnd⟩ := hW
  have hA : DataW.TrodAll enc Tryd.prog W 0 (fun _ => true) true Tryd.f6.params.toList args.toList ds p := hA0
  rw [Tryd.params6] at hA hval
  obtain ⟨v0, vs0, d0, ds0, p0, q0, hargs, rfl, rfl, h0, r0⟩ := trodAll_cons hA
  obtain ⟨v1, vs1, d1, ds1, p1, q1, rfl, rfl, rfl, h1, r1⟩ := trodAll_cons r0
  obtain ⟨v2, vs2, d2, ds2, p2, q2, rfl, rfl, rfl, h2, r2⟩ := trodAll_cons r1
  obtain ⟨v3, vs3, d3, ds3, p3, q3, rfl, rfl, rfl, h3, r3⟩ := trodAll_cons r2
  obtain ⟨v4, vs4, d4, ds4, p4, q4, rfl, rfl, rfl, h4, r4⟩ := trodAll_cons r3
  obtain ⟨v5, vs5, d5, ds5, p5, q5, rfl, rfl, rfl, h5, r5⟩ := trodAll_cons r4
  obtain ⟨v6, vs6, d6, ds6, p6, q6, rfl, rfl, rfl, h6, r6⟩ := trodAll_cons r5
  obtain ⟨rfl, rfl, rfl⟩ := trodAll_nil r6
  obtain rfl : args = #[v0, v1, v2, v3, v4, v5, v6] := by cases args; simp_all
  obtain ⟨rfl, rfl⟩ := trodVars_none hV
  have k0 := h0
  have lt0 : ∀ x ∈ p0, x.block < W.heap.size := by obtain ⟨m, hm⟩ := k0; exact DataW.trod_lt m _ _ _ hm
  obtain ⟨y0, R0, w0⟩ := handed 40 (.pair (.int .i64) (.pair (.slice .u64) (.slice (.pair (.int .i64) (.pair (.int .i64) (.int .i64)))))) (by kernel_rfl) (hval 0 25 v0 rfl rfl) k0
  have k1 := h1
  have lt1 : ∀ x ∈ p1, x.block < W.heap.size := by obtain ⟨m, hm⟩ := k1; exact DataW.trod_lt m _ _ _ hm
  obtain ⟨y1, R1, w1⟩ := handed 40 (.pair (.int .i64) (.pair (.int .i64) (.pair (.int .i64) (.pair (.int .i64) (.int .i64))))) (by kernel_rfl) (hval 1 27 v1 rfl rfl) k1
  have k2 := h2
  have lt2 : ∀ x ∈ p2, x.block < W.heap.size := by obtain ⟨m, hm⟩ := k2; exact DataW.trod_lt m _ _ _ hm
  obtain ⟨y2, R2, w2⟩ := handed 40 (.slice (.int .i64)) (by kernel_rfl) (hval 2 28 v2 rfl rfl) k2
  have k3 := h3
  have lt3 : ∀ x ∈ p3, x.block < W.heap.size := by obtain ⟨m, hm⟩ := k3; exact DataW.trod_lt m _ _ _ hm
  obtain ⟨y3, R3, w3⟩ := handed 40 (.int .i64) (by kernel_rfl) (hval 3 3 v3 rfl rfl) k3
  have k4 := h4
  have lt4 : ∀ x ∈ p4, x.block < W.heap.size := by obtain ⟨m, hm⟩ := k4; exact DataW.trod_lt m _ _ _ hm
  obtain ⟨y4, R4, w4⟩ := handed 40 (.int .i64) (by kernel_rfl) (hval 4 3 v4 rfl rfl) k4
  have k5 := h5
  have lt5 : ∀ x ∈ p5, x.block < W.heap.size := by obtain ⟨m, hm⟩ := k5; exact DataW.trod_lt m _ _ _ hm
  obtain ⟨y5, R5, w5⟩ := handed 40 (.int .i64) (by kernel_rfl) (hval 5 3 v5 rfl rfl) k5
  have k6 := h6
  have lt6 : ∀ x ∈ p6, x.block < W.heap.size := by obtain ⟨m, hm⟩ := k6; exact DataW.trod_lt m _ _ _ hm
  obtain ⟨y6, R6, w6⟩ := handed 40 (.int .i64) (by kernel_rfl) (hval 6 3 v6 rfl rfl) k6
  have A7 := Args.nil W
  obtain ⟨m6, A6⟩ := A7.cons (t := (.int .i64)) (.inr ⟨rfl, plainForm (t := 3) rfl (hval 6 3 v6 rfl rfl)⟩) y6 R6
  obtain ⟨m5, A5⟩ := A6.cons (t := (.int .i64)) (.inr ⟨rfl, plainForm (t := 3) rfl (hval 5 3 v5 rfl rfl)⟩) y5 R5
  obtain ⟨m4, A4⟩ := A5.cons (t := (.int .i64)) (.inr ⟨rfl, plainForm (t := 3) rfl (hval 4 3 v4 rfl rfl)⟩) y4 R4
  obtain ⟨m3, A3⟩ := A4.cons (t := (.int .i64)) (.inr ⟨rfl, plainForm (t := 3) rfl (hval 3 3 v3 rfl rfl)⟩) y3 R3
  obtain ⟨m2, A2⟩ := A3.cons (t := (.slice (.int .i64))) (.inr ⟨rfl, plainForm (t := 28) rfl (hval 2 28 v2 rfl rfl)⟩) y2 R2
  obtain ⟨m1, A1⟩ := A2.cons (t := (.pair (.int .i64) (.pair (.int .i64) (.pair (.int .i64) (.pair (.int .i64) (.int .i64)))))) (.inl ⟨rfl, aggForm (t := 27) rfl (hval 1 27 v1 rfl rfl)⟩) y1 R1
  obtain ⟨m0, A0⟩ := A1.cons (t := (.pair (.int .i64) (.pair (.slice .u64) (.slice (.pair (.int .i64) (.pair (.int .i64) (.int .i64))))))) (.inl ⟨rfl, aggForm (t := 25) rfl (hval 0 25 v0 rfl rfl)⟩) y0 R0
  refine (law_args (fi := iFbeltwaylaw09_BumpAllocs) okFbeltwaylaw09_BumpAllocs hT (r := (true : Bool)) (vals := #[v0, v1, v2, v3, v4, v5, v6]) (w := W) A0 (law_BumpAllocs y0 w0 y1 w1 y2 w2 y3 (i64_of_wf w3) y4 (i64_of_wf w4) y5 (i64_of_wf w5) y6 (i64_of_wf w6)) (fun _ => rfl)).mono fun e W' ⟨he, bel⟩ => ?_
  subst he
  simp only [List.append_nil] at hW'
  exact ⟨_, rfl, _, _, _, [], _, [], hW', trodAll_mk1 (shut_bool Tryd.underlying4 _), (trodAll_cons_mk (Below.trod laidOut (by kernel_rfl) (of_decide_eq_true (by kernel_rfl)) k0 bel lt0) (trodAll_cons_mk (Below.trod laidOut (by kernel_rfl) (of_decide_eq_true (by kernel_rfl)) k1 bel lt1) (trodAll_cons_mk (Below.trod laidOut (by kernel_rfl) (of_decide_eq_true (by kernel_rfl)) k2 bel lt2) (trodAll_cons_mk (Below.trod laidOut (by kernel_rfl) (of_decide_eq_true (by kernel_rfl)) k3 bel lt3) (trodAll_cons_mk (Below.trod laidOut (by kernel_rfl) (of_decide_eq_true (by kernel_rfl)) k4 bel lt4) (trodAll_cons_mk (Below.trod laidOut (by kernel_rfl) (of_decide_eq_true (by kernel_rfl)) k5 bel lt5) (trodAll_cons_mk (Below.trod laidOut (by kernel_rfl) (of_decide_eq_true (by kernel_rfl)) k6 bel lt6) trodAll_mk0))))))), rfl, bel.frame _, fun h => by cases h⟩
theorem proved : Rows.BumpAllocsSaid :=
  OpenClaim.holds_of_wide 6 Tryd.f6 rfl rfl rfl rfl rfl rfl rfl ⟨rfl, rfl, rfl, rfl, rfl⟩ rfl rfl rfl rfl rfl (by kernel_rfl) Tryd.func6 (by kernel_rfl)
    (of_decide_eq_true (by kernel_rfl)) (by unfold Func.isWrapper; first | (rw [if_pos (by decide +kernel)]; kernel_rfl) | (rw [if_neg (by decide +kernel)]; exact ⟨rfl, rfl⟩))
    (fun os started H enc _ => lifted os started H enc)
theorem card : Rows.BumpAllocsCardSaid :=
  Claim7.holds_tied_plain_at .later [] [.data] true (true, "3127a7bbc4ffdb061a7b6f3081f927355dd740ad841135f426207b3137d35892") false proved (fun _ h => by cases h) (by kernel_rfl) (fun _ h => by cases h) bumpAllocs_row_tie rfl ⟨rfl, rfl⟩ (by kernel_rfl) rfl
    (fun f fn hf hfn => by
      obtain rfl : f = 6 := Option.some.inj ((show Tryd.prog.funcNamed "beltway/beltwaylaw09.BumpAllocs" = some 6 by kernel_rfl).symm.trans hf) |>.symm
      obtain rfl : fn = Tryd.f6 := (Option.some.inj (Tryd.func6.symm.trans hfn)).symm
      exact ⟨by kernel_rfl, fun j t ht => by
        rw [Tryd.params6] at ht
        have hm : t ∈ [25, 27, 28, 3, 3, 3, 3] := by simpa using Array.mem_of_getElem? ht
        have hall : ([25, 27, 28, 3, 3, 3, 3].all fun u => !Tryd.prog.wantsStandIn u) = true := by kernel_rfl
        exact (show Tryd.prog.wantsStandIn t = false by simpa using List.all_eq_true.1 hall t hm)⟩)
    (by kernel_rfl)
end bumpAllocs
end Go.Proofs.YtjbkmpipccdnhaaDoor
