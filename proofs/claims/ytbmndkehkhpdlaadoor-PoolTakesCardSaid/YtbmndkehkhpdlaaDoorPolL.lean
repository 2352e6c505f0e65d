/-
  Laws of package pool.
-/
import Derived.Test.YtbmndkehkhpdlaaDoorRows
import Derived.Test.YtbmndkehkhpdlaaDoorTie
import Derived.Test.YtbmndkehkhpdlaaDoorCards
import Derived.SevenTiedAt
import Derived.Test.YtbmndkehkhpdlaaDoorPolB
set_option linter.unusedVariables false
namespace Go.Proofs.YtbmndkehkhpdlaaDoor
open Go Go.V3

theorem awake_ok : Fbeltwaylaw04_awake = some true := by
  have h0 := VS.new (s := 3) (n := 3) (by omega) (by omega)
  obtain ⟨h1, _⟩ := h0.take (f := 0) (o := 5) (b := 0) (by omega) (by decide) (by decide) (by omega) (by omega) (by omega) (by omega)
  obtain ⟨h2, _⟩ := h1.take (f := 1) (o := 6) (b := 1) (by omega) (by decide) (by decide) (by omega) (by omega) (by omega) (by omega)
  have h3 := VS.give h2 (o := 5) (by omega)
  have hn : Fbeltwayref03_New 3 3 = _ := rNew_ok (s := 3) (n := 3) (by omega) (by omega)
  unfold Fbeltwaylaw04_awake
  rw [hn]
  simp only [Option.bind_some]
  rw [pTake_vs h0 (by omega) (by omega) (by omega) (by omega), takeR_some (f := 0) (r := [1, 2]) (StOk.none (by decide)) (by decide)]
  simp only [Option.bind_some]
  rw [pTake_vs h1 (by omega) (by omega) (by omega) (by omega), takeR_some (f := 1) (r := [2]) (StOk.none (by decide)) (by decide)]
  simp only [Option.bind_some]
  rw [pGive_vs h2 (by omega) (by omega)]
  unfold giveR
  rw [if_neg (by decide)]
  simp only [Option.bind_some]
  rw [pTake_vs h3 (by omega) (by omega) (by omega) (by omega), takeR_some (f := 0) (r := [2]) (StOk.none (by decide)) (by decide)]
  simp only [Option.bind_some]
  decide

theorem law_PoolCounts (y0 : List Int) (w0 : Wf (.slice (.int .i64)) y0) : Fbeltwaylaw04_PoolCounts y0 = some true := by
  unfold Fbeltwaylaw04_PoolCounts
  obtain ⟨d, e1, hd⟩ := New0_ok y0 w0.1
  rw [e1]
  simp only [Option.bind_some]
  obtain ⟨s, l, d', e2, _, hm⟩ := Space_ok hd
  rw [e2]
  simp only [Option.bind_some]
  have hn := hm.n
  have hl := owned_len s.2.2 (-1)
  rw [pFree_ok (by omega), Free_ok (by omega)]
  simp only [Option.bind_some]
  rw [SameInts_refl _ (by unfold frees; omega)]
  simp only [Option.bind_some]
  rw [if_pos trivial, pUsed_ok hn]
  simp only [Option.bind_some]
  unfold Fbeltwayref04_Used
  rw [Free_ok (by omega)]
  simp only [Option.bind_some]
  have hl' : (frees s.2.2).length ≤ s.2.2.length := hl
  rw [w64_id (by omega) (by omega), if_pos rfl, w64_id (by omega) (by omega), if_pos (by omega), awake_ok]
  rfl

theorem Made.fresh {s : Sp} {l : List Inc} (hm : Made s l) {o : Int} (h : 15 ≤ o) : owned s.2.2 o = [] := by
  rw [List.eq_nil_iff_forall_not_mem]
  intro x hx
  obtain ⟨⟨x0, x1⟩, x2⟩ := mem_owned.1 hx
  obtain ⟨p, hp, hpe⟩ := hm.all x x0 x1 (by omega)
  have := (hm.fits p hp).2.2.2.1
  omega

theorem law_PoolTakes (y0 : Sp) (w0 : Wf spT y0) (y1 : List Int) (w1 : Wf (.slice (.int .i64)) y1) (y2 : Int) (w2 : I64 y2) (y3 : Int) (w3 : I64 y3) (y4 : Int) (w4 : I64 y4) (y5 : Int) (w5 : I64 y5) (y6 : Int) (w6 : I64 y6) :
    Fbeltwaylaw04_PoolTakes y0 y1 y2 y3 y4 y5 y6 = some true := by
  unfold Fbeltwaylaw04_PoolTakes
  rw [Small_ok]
  simp only [Option.bind_some]
  by_cases hs : y0.2.1.length ≤ 3000 ∧ y0.2.2.length ≤ 80
  rotate_left
  · rw [if_pos (by simp [hs]), awake_ok]; rfl
  rw [if_neg (by simp [hs])]
  obtain ⟨d, e1, hd⟩ := New0_ok y1 w1.1
  rw [e1]
  simp only [Option.bind_some]
  obtain ⟨s, l, d', e2, _, hm⟩ := Space_ok hd
  rw [e2]
  simp only [Option.bind_some]
  obtain ⟨u, e3, k1, k2, k3, k4, k5⟩ := VS.spoilt hm.vs y4 y5 y6
  rw [e3]
  simp only [Option.bind_some]
  have hall : ∀ x ∈ [s, y0, u], StI x := by
    intro x hx
    simp only [List.mem_cons, List.not_mem_nil, or_false] at hx
    rcases hx with rfl | rfl | rfl
    · exact hm.vs.stI
    · exact raw_stI w0
    · exact k1.stI (by omega)
  refine loopO_run 3 (fun k hk => ?_) (by rw [if_neg (by simp), awake_ok]; rfl)
  rw [if_pos (by simp; omega), if_pos ⟨by omega, by simp; omega⟩]
  have hx := hall _ (gl_mem (d := ((0, [], []) : Sp)) (xs := [s, y0, u]) (k := (k : Int).toNat) (by simp; omega))
  generalize gl ((0, [], []) : Sp) [s, y0, u] (k : Int).toNat = x at hx ⊢
  obtain ⟨m1, e4, a0, a1, _⟩ := Mod_ok y2 (m := 16) (by omega) (by omega)
  obtain ⟨m2, e5, b0, b1, _⟩ := Mod_ok y3 (m := 3) (by omega) (by omega)
  obtain ⟨m3, e6, c0, c1, _⟩ := Mod_ok y2 (m := 2) (by omega) (by omega)
  obtain ⟨m4, e7, d0, d1, _⟩ := Mod_ok y3 (m := 6) (by omega) (by omega)
  rw [e4]
  simp only [Option.bind_some]
  rw [e5]
  simp only [Option.bind_some]
  rw [e6]
  simp only [Option.bind_some]
  rw [e7]
  simp only [Option.bind_some]
  rw [w64_id (e := (k : Int) + 1) (by omega) (by omega)]
  refine loopO_run 3 (fun m hm => ?_) (by rw [if_neg (by simp)])
  rw [if_pos (by simp; omega), if_pos ⟨by omega, by simp; omega⟩]
  have hp : ∀ p ∈ [[y2, y3], [m1, m2], [w64 (4294967295 + m3), w64 (m4 - 1)]], p.length = 2 := by
    intro p hp
    simp only [List.mem_cons, List.not_mem_nil, or_false] at hp
    rcases hp with rfl | rfl | rfl <;> rfl
  have hq := hp _ (gl_mem (d := ([] : List Int)) (xs := [[y2, y3], [m1, m2], [w64 (4294967295 + m3), w64 (m4 - 1)]]) (k := (m : Int).toNat) (by simp; omega))
  generalize gl ([] : List Int) [[y2, y3], [m1, m2], [w64 (4294967295 + m3), w64 (m4 - 1)]] (m : Int).toNat = p at hq ⊢
  rw [hq]
  simp only [show (0 : Int).toNat = 0 from rfl, show (1 : Int).toNat = 1 from rfl]
  obtain ⟨v, v1, v2, v3, v4⟩ := take_eq hx (gl 0 p 0) (gl 0 p 1)
  obtain ⟨v', v5, v6, v7, v8⟩ := give_eq hx (gl 0 p 0)
  rw [if_pos (by decide), if_pos (by decide), v1]
  simp only [Option.bind_some]
  rw [if_pos (by decide), if_pos (by decide), v2]
  simp only [Option.bind_some]
  rw [if_neg (by simp), if_neg (by simp), Same_refl _ (by omega) (by omega)]
  simp only [Option.bind_some]
  rw [if_neg (by simp), if_pos (by decide), v5]
  simp only [Option.bind_some]
  rw [if_pos (by decide), v6]
  simp only [Option.bind_some]
  rw [if_neg (by simp), if_neg (by simp), Same_refl _ (by omega) (by omega)]
  simp only [Option.bind_some]
  rw [if_neg (by simp), w64_id (by omega) (by omega)]

theorem law_PoolBack (y0 : List Int) (w0 : Wf (.slice (.int .i64)) y0) (y1 : Int) (w1 : I64 y1) (y2 : Int) (w2 : I64 y2) : Fbeltwaylaw04_PoolBack y0 y1 y2 = some true := by
  unfold Fbeltwaylaw04_PoolBack
  obtain ⟨d, e1, hd⟩ := New0_ok y0 w0.1
  rw [e1]
  simp only [Option.bind_some]
  obtain ⟨s, l, d', e2, _, hm⟩ := Space_ok hd
  rw [e2]
  simp only [Option.bind_some]
  have hn := hm.n
  have h := hm.vs
  obtain ⟨m1, e4, a0, a1, _⟩ := Mod_ok y1 (m := 1000) (by omega) (by omega)
  obtain ⟨m2, e5, b0, b1, _⟩ := Mod_ok y2 (m := 4) (by omega) (by omega)
  rw [Free_ok (by omega)]
  simp only [Option.bind_some]
  rw [e4]
  simp only [Option.bind_some]
  rw [e5]
  simp only [Option.bind_some]
  rw [w64_id (e := 100 + m1) (by omega) (by omega), pTake_vs h (by omega) (by omega) (by omega) (by omega)]
  have ho := hm.fresh (o := 100 + m1) (by omega)
  cases hf : frees s.2.2 with
  | nil =>
    rw [takeR_full (StOk.none ho) hf]
    simp only [Option.bind_some]
    rw [if_pos (by simp), if_pos trivial, awake_ok]
    rfl
  | cons f r =>
    rw [takeR_some (StOk.none ho) hf]
    simp only [Option.bind_some]
    obtain ⟨⟨f0, f1⟩, f2, _⟩ := frees_cons hf
    have ht := (h.take f0 f1 f2 (o := 100 + m1) (b := m2) (by omega) (by omega) (by omega) (by omega)).1
    obtain ⟨g1, g2⟩ := give_take (st := m2 * 4294967296 + (100 + m1)) h hf ho (by omega)
    have hu := owned_take (o := 100 + m1) (st := m2 * 4294967296 + (100 + m1)) hf (by omega)
    have hl := owned_len s.2.2 (-1)
    have hl' : (frees s.2.2).length ≤ s.2.2.length := hl
    rw [if_neg (by simp; omega), if_neg (by simp), if_pos (by simp), if_neg (by simp [gl]), VS.valid ht]
    simp only [Option.bind_some]
    rw [if_neg (by simp), pUsed_ok (by simpa using hn)]
    simp only [Option.bind_some]
    rw [pUsed_ok hn]
    simp only [Option.bind_some]
    have hfr : frees (s.2.2.set f.toNat (100 + m1, m2 * 4294967296 + (100 + m1), -1)) = r := hu.1
    rw [hfr, hf, List.length_set, if_neg (by
      rw [hf] at hl'
      simp only [List.length_cons] at hl' ⊢
      rw [w64_id (by omega) (by omega)]
      omega), pGive_vs ht (by omega) (by omega)]
    unfold giveR
    simp only [List.length_set]
    rw [g2, if_neg (by decide), g1]
    simp only [Option.bind_some]
    rw [if_pos trivial, if_pos trivial, Same_refl _ (by have := VS.wlen h; omega) (by omega)]
    rfl

theorem law_PoolOrder (y0 : List Int) (w0 : Wf (.slice (.int .i64)) y0) (y1 : List Int) (w1 : Wf (.slice (.int .i64)) y1) : Fbeltwaylaw04_PoolOrder y0 y1 = some true := by
  unfold Fbeltwaylaw04_PoolOrder
  obtain ⟨d, e1, hd⟩ := New0_ok y0 w0.1
  rw [e1]
  simp only [Option.bind_some]
  obtain ⟨s, l, d', e2, _, hm⟩ := Space_ok hd
  rw [e2]
  simp only [Option.bind_some]
  have hn := hm.n
  have h := hm.vs
  have hl := owned_len s.2.2 (-1)
  have hl' : (frees s.2.2).length ≤ s.2.2.length := hl
  have hy : (y1.length : Int) ≤ 9223372036854775807 := by have := w1.1; unfold maxLen at this; omega
  rw [pFree_ok (by omega)]
  simp only [Option.bind_some]
  refine (loopO_up (fun k (st : Int × Sp) => st.1 = (k : Int) ∧ k ≤ (frees s.2.2).length ∧ VS st.2 ∧ st.2.2.2.length = s.2.2.length ∧ frees st.2.2.2 = (frees s.2.2).drop k ∧
      ∀ x : Int, 0 ≤ x → x < st.2.2.2.length → (fr st.2.2.2 x).1 < 300 ∧ (200 ≤ (fr st.2.2.2 x).1 → (fr st.2.2.2 x).2.1 = 1 * 4294967296 + (fr st.2.2.2 x).1)) (fun b => b = true) (frees s.2.2).length ?_ ?_ (s := ((0 : Int), s)) ⟨rfl, by omega, h, rfl, rfl, ?_⟩).elim fun b hb => by rw [hb.1, hb.2]
  · rintro k ⟨i, t⟩ hk ⟨h1, _, ht, h2, h3, h4⟩
    simp only at h1 ht h2 h3 h4 ⊢
    subst h1
    have hcons : frees t.2.2 = gl 0 (frees s.2.2) k :: (frees s.2.2).drop (k + 1) := by
      rw [h3, gl_lt hk]
      exact (List.getElem_cons_drop hk).symm
    have key : ∀ o : Int, 200 ≤ o → o < 300 → ∃ u : Sp, Fpool_Take t o 1 = some (u, gl 0 (frees s.2.2) k, 0) ∧ VS u ∧ u.2.2.length = s.2.2.length ∧ frees u.2.2 = (frees s.2.2).drop (k + 1) ∧
        ∀ x : Int, 0 ≤ x → x < u.2.2.length → (fr u.2.2 x).1 < 300 ∧ (200 ≤ (fr u.2.2 x).1 → (fr u.2.2 x).2.1 = 1 * 4294967296 + (fr u.2.2 x).1) := by
      intro o o0 o1
      have hst : StOk t o (1 * 4294967296 + o) := by
        intro x x0 x1 hx
        have := (h4 x x0 x1).2 (by omega)
        rw [this, hx]
      obtain ⟨⟨f0, f1⟩, f2, _⟩ := frees_cons hcons
      refine ⟨_, by rw [pTake_vs ht (by omega) (by omega) (by omega) (by omega), takeR_some hst hcons], (ht.take f0 f1 f2 (by omega) (by omega) (by omega) (by omega)).1, by simpa using h2, (owned_take hcons (by omega)).1, ?_⟩
      intro x x0 x1
      simp only [List.length_set] at x1
      simp only
      rw [fr_set f0 f1 x0]
      by_cases e : x = gl 0 (frees s.2.2) k
      · rw [if_pos e]; exact ⟨o1, fun _ => rfl⟩
      · rw [if_neg e]; exact h4 x x0 x1
    have hk' : (k : Int).toNat = k := rfl
    rw [if_pos (by omega), if_pos (by omega)]
    by_cases hy0 : (y1.length : Int) > 0
    · have t0 : 0 ≤ Int.tmod (k : Int) (y1.length : Int) := Int.tmod_nonneg _ (by omega)
      have t1 : Int.tmod (k : Int) (y1.length : Int) < y1.length := Int.tmod_lt_of_pos _ (by omega)
      rw [if_pos hy0, if_pos (by omega), if_pos ⟨t0, t1⟩]
      obtain ⟨m1, e4, a0, a1, _⟩ := Mod_ok (gl 0 y1 (Int.tmod (k : Int) (y1.length : Int)).toNat) (m := 3) (by omega) (by omega)
      rw [e4]
      simp only [Option.bind_some]
      rw [w64_id (e := 200 + m1) (by omega) (by omega)]
      obtain ⟨u, u1, u2, u3, u4, u5⟩ := key (200 + m1) (by omega) (by omega)
      rw [u1]
      simp only [Option.bind_some]
      rw [if_neg (by simp), if_neg (by simp [hk']), w64_id (by omega) (by omega)]
      exact .inl ⟨_, rfl, by simp only; omega, by omega, u2, u3, u4, u5⟩
    · rw [if_neg hy0, w64_id (e := 200 + (k : Int)) (by omega) (by omega)]
      obtain ⟨u, u1, u2, u3, u4, u5⟩ := key (200 + (k : Int)) (by omega) (by omega)
      rw [u1]
      simp only [Option.bind_some]
      rw [if_neg (by simp), if_neg (by simp [hk']), w64_id (by omega) (by omega)]
      exact .inl ⟨_, rfl, by simp only; omega, by omega, u2, u3, u4, u5⟩
  · rintro ⟨i, t⟩ ⟨h1, _, ht, h2, h3, h4⟩
    simp only at h1 ht h2 h3 h4 ⊢
    subst h1
    rw [if_neg (by omega)]
    refine map_inr ⟨true, ?_, rfl⟩
    have h3' : frees t.2.2 = [] := by rw [h3]; simp
    have ho : owned t.2.2 900 = [] := by
      rw [List.eq_nil_iff_forall_not_mem]
      intro x hx
      obtain ⟨⟨x0, x1⟩, x2⟩ := mem_owned.1 hx
      have := (h4 x x0 x1).1
      omega
    rw [pTake_vs ht (by omega) (by omega) (by omega) (by omega), takeR_full (StOk.none ho) h3']
    simp only [Option.bind_some]
    rw [if_pos trivial, pFree_ok (by omega), h3']
    simp only [Option.bind_some]
    rw [if_pos (by simp), awake_ok]
    rfl
  · intro x x0 x1
    simp only at x1 ⊢
    by_cases e : (fr s.2.2 x).1 = -1
    · exact ⟨by omega, fun h => by omega⟩
    · obtain ⟨p, hp, hpe⟩ := hm.all x x0 x1 e
      have := (hm.fits p hp).2.2.2.1
      exact ⟨by omega, fun h => by omega⟩

namespace poolCounts
open Go.ChangeShapes Go.WideShapes Go.ChangeAt Go.RowKit Go.V3
set_option linter.unusedVariables false
theorem own : ownKnob Tryd.prog.godebug = none := by kernel_rfl
theorem laidOut : laidOutB Tryd.prog = true := by kernel_rfl
theorem door_met (os : Os) (args : Array Value) : laidMetH Tryd.prog [("math/bits.deBruijn64tab", Rows.laid_math_bits_deBruijn64tab)] ((World.doorLaid Tryd.prog 4000 os).forCall (fun _ _ => 0) ⟨#[], args, []⟩).memory :=
  laidMetH_of_parts3 (fuel := 8) (laidMet_of_run' 8 (by kernel_rfl) (by kernel_rfl)) (by kernel_rfl) (by kernel_rfl)
set_option maxRecDepth 100000 in
theorem lifted (os : Os) (started : os.Started) (H : Type) (enc : TypeId × Value → H) :
    ReturnsInHanded {} Tryd.checked os 6 .any (fun w args => (Rows.poolCountsSpec.pre enc Tryd.prog Tryd.f6 [] false w args ∧ laidMetH Tryd.prog [("math/bits.deBruijn64tab", Rows.laid_math_bits_deBruijn64tab)] w) ∧ sizedMet enc Tryd.prog Tryd.f6 (OpenSpec.ofChange Rows.poolCountsSpec) false w args) (Rows.poolCountsSpec.post enc Tryd.prog Tryd.f6 false true false false) := by
  refine returnsInHanded_of_change_and (C := Tryd.checked) (X := fun w _ => laidMetH Tryd.prog [("math/bits.deBruijn64tab", Rows.laid_math_bits_deBruijn64tab)] w) (fun _ _ _ hh h => h.of_heap hh) own started (by kernel_rfl) Tryd.func6
    (ChangeSpec.witness_shaped (enc := enc) (C := Tryd.checked) (os := os) (X := fun w _ => laidMetH Tryd.prog [("math/bits.deBruijn64tab", Rows.laid_math_bits_deBruijn64tab)] w) false (World.doorLaid Tryd.prog 4000 os) #[.slice none 0 0] 8 rfl (World.shaped_of_RefB (by kernel_rfl) (by kernel_rfl)) (by kernel_rfl) (by kernel_rfl) (by kernel_rfl) (door_met os _)) ?_
  intro W base args ds gs before hval0 hW _ _ hL _
  have hT : TabW tabs W := by
    intro q hq
    simp only [tabs, List.mem_cons, List.not_mem_nil, or_false] at hq
    subst hq
    exact tab_of_laid (t := 76) hL (by kernel_rfl) (e := 5) (k := .u8) (len := 64) (by kernel_rfl) (by kernel_rfl) (by kernel_rfl) (by kernel_rfl) (by kernel_rfl) (by kernel_rfl) [0, 1, 56, 2, 57, 49, 28, 3, 61, 58, 42, 50, 38, 29, 17, 4, 62, 47, 59, 36, 45, 43, 51, 22, 53, 39, 33, 30, 24, 18, 12, 5, 63, 55, 48, 27, 60, 41, 37, 16, 46, 35, 44, 21, 52, 32, 23, 11, 54, 26, 40, 15, 34, 20, 31, 10, 25, 14, 19, 9, 13, 8, 7, 6] rfl
  have hval : ∀ (j : Nat) t v, Tryd.f6.params[j]? = some t → args[j]? = some v → Value.okWide Tryd.prog W .any base t v := hval0
  have hW' := hW
  obtain ⟨p, q, hA0, hV, rfl, hfz, hnd⟩ := hW
  have hA : DataW.TrodAll enc Tryd.prog W 0 (fun _ => true) true Tryd.f6.params.toList args.toList ds p := hA0
  rw [Tryd.params6] at hA hval
  obtain ⟨v0, vs0, d0, ds0, p0, q0, hargs, rfl, rfl, h0, r0⟩ := trodAll_cons hA
  obtain ⟨rfl, rfl, rfl⟩ := trodAll_nil r0
  obtain rfl : args = #[v0] := by cases args; simp_all
  obtain ⟨rfl, rfl⟩ := trodVars_none hV
  have k0 := h0
  have lt0 : ∀ x ∈ p0, x.block < W.heap.size := by obtain ⟨m, hm⟩ := k0; exact DataW.trod_lt m _ _ _ hm
  obtain ⟨y0, R0, w0⟩ := handed 40 (.slice (.int .i64)) (by kernel_rfl) (hval 0 26 v0 rfl rfl) k0
  have A1 := Args.nil W
  obtain ⟨m0, A0⟩ := A1.cons (t := (.slice (.int .i64))) (.inr ⟨rfl, plainForm (t := 26) rfl (hval 0 26 v0 rfl rfl)⟩) y0 R0
  refine (law_args (fi := iFbeltwaylaw04_PoolCounts) okFbeltwaylaw04_PoolCounts hT (r := (true : Bool)) (vals := #[v0]) (w := W) A0 (law_PoolCounts y0 w0) (fun _ => rfl)).mono fun e W' ⟨he, bel⟩ => ?_
  subst he
  simp only [List.append_nil] at hW'
  exact ⟨_, rfl, _, _, _, [], _, [], hW', trodAll_mk1 (shut_bool Tryd.underlying4 _), (trodAll_cons_mk (Below.trod laidOut (by kernel_rfl) (of_decide_eq_true (by kernel_rfl)) k0 bel lt0) trodAll_mk0), rfl, bel.frame _, fun h => by cases h⟩
theorem proved : Rows.PoolCountsSaid :=
  OpenClaim.holds_of_wide 6 Tryd.f6 rfl rfl rfl rfl rfl rfl rfl ⟨rfl, rfl, rfl, rfl, rfl⟩ rfl rfl rfl rfl rfl (by kernel_rfl) Tryd.func6 (by kernel_rfl)
    (of_decide_eq_true (by kernel_rfl)) (by unfold Func.isWrapper; first | (rw [if_pos (by decide +kernel)]; kernel_rfl) | (rw [if_neg (by decide +kernel)]; exact ⟨rfl, rfl⟩))
    (fun os started H enc _ => lifted os started H enc)
theorem card : Rows.PoolCountsCardSaid :=
  Claim7.holds_tied_plain_at .later [] [.data] true (true, "2a0e7fca4990df25ed277c3c09e69ef4868809dc7ad8dbc0099bc73c0b7816e8") false proved (fun _ h => by cases h) (by kernel_rfl) (fun _ h => by cases h) poolCounts_row_tie rfl ⟨rfl, rfl⟩ (by kernel_rfl) rfl
    (fun f fn hf hfn => by
      obtain rfl : f = 6 := Option.some.inj ((show Tryd.prog.funcNamed "beltway/beltwaylaw04.PoolCounts" = some 6 by kernel_rfl).symm.trans hf) |>.symm
      obtain rfl : fn = Tryd.f6 := (Option.some.inj (Tryd.func6.symm.trans hfn)).symm
      exact ⟨by kernel_rfl, fun j t ht => by
        rw [Tryd.params6] at ht
        have hm : t ∈ [26] := by simpa using Array.mem_of_getElem? ht
        have hall : ([26].all fun u => !Tryd.prog.wantsStandIn u) = true := by kernel_rfl
        exact (show Tryd.prog.wantsStandIn t = false by simpa using List.all_eq_true.1 hall t hm)⟩)
    (by kernel_rfl)
end poolCounts
namespace poolTakes
open Go.ChangeShapes Go.WideShapes Go.ChangeAt Go.RowKit Go.V3
set_option linter.unusedVariables false
theorem own : ownKnob Tryd.prog.godebug = none := by kernel_rfl
theorem laidOut : laidOutB Tryd.prog = true := by kernel_rfl
theorem door_met (os : Os) (args : Array Value) : laidMetH Tryd.prog [("math/bits.deBruijn64tab", Rows.laid_math_bits_deBruijn64tab)] ((World.doorLaid Tryd.prog 4000 os).forCall (fun _ _ => 0) ⟨#[], args, []⟩).memory :=
  laidMetH_of_parts3 (fuel := 8) (laidMet_of_run' 8 (by kernel_rfl) (by kernel_rfl)) (by kernel_rfl) (by kernel_rfl)
set_option maxRecDepth 100000 in
theorem lifted (os : Os) (started : os.Started) (H : Type) (enc : TypeId × Value → H) :
    ReturnsInHanded {} Tryd.checked os 3 .any (fun w args => (Rows.poolTakesSpec.pre enc Tryd.prog Tryd.f3 [] false w args ∧ laidMetH Tryd.prog [("math/bits.deBruijn64tab", Rows.laid_math_bits_deBruijn64tab)] w) ∧ sizedMet enc Tryd.prog Tryd.f3 (OpenSpec.ofChange Rows.poolTakesSpec) false w args) (Rows.poolTakesSpec.post enc Tryd.prog Tryd.f3 false true false false) := by
  refine returnsInHanded_of_change_and (C := Tryd.checked) (X := fun w _ => laidMetH Tryd.prog [("math/bits.deBruijn64tab", Rows.laid_math_bits_deBruijn64tab)] w) (fun _ _ _ hh h => h.of_heap hh) own started (by kernel_rfl) Tryd.func3
    (ChangeSpec.witness_shaped (enc := enc) (C := Tryd.checked) (os := os) (X := fun w _ => laidMetH Tryd.prog [("math/bits.deBruijn64tab", Rows.laid_math_bits_deBruijn64tab)] w) false (World.doorLaid Tryd.prog 4000 os) #[.agg #[.int .i64 0, .slice none 0 0, .slice none 0 0], .slice none 0 0, .int .i64 0, .int .i64 0, .int .i64 0, .int .i64 0, .int .i64 0] 8 rfl (World.shaped_of_RefB (by kernel_rfl) (by kernel_rfl)) (by kernel_rfl) (by kernel_rfl) (by kernel_rfl) (door_met os _)) ?_
  intro W base args ds gs before hval0 hW _ _ hL _
  have hT : TabW tabs W := by
    intro q hq
    simp only [tabs, List.mem_cons, List.not_mem_nil, or_false] at hq
    subst hq
    exact tab_of_laid (t := 76) hL (by kernel_rfl) (e := 5) (k := .u8) (len := 64) (by kernel_rfl) (by kernel_rfl) (by kernel_rfl) (by kernel_rfl) (by kernel_rfl) (by kernel_rfl) [0, 1, 56, 2, 57, 49, 28, 3, 61, 58, 42, 50, 38, 29, 17, 4, 62, 47, 59, 36, 45, 43, 51, 22, 53, 39, 33, 30, 24, 18, 12, 5, 63, 55, 48, 27, 60, 41, 37, 16, 46, 35, 44, 21, 52, 32, 23, 11, 54, 26, 40, 15, 34, 20, 31, 10, 25, 14, 19, 9, 13, 8, 7, 6] rfl
  have hval : ∀ (j : Nat) t v, Tryd.f3.params[j]? = some t → args[j]? = some v → Value.okWide Tryd.prog W .any base t v := hval0
  have hW' := hW
  obtain ⟨p, q, hA0, hV, rfl, hfz, hnd⟩ := hW
  have hA : DataW.TrodAll enc Tryd.prog W 0 (fun _ => true) true Tryd.f3.params.toList args.toList ds p := hA0
  rw [Tryd.params3] at hA hval
  obtain ⟨v0, vs0, d0, ds0, p0, q0, hargs, rfl, rfl, h0, r0⟩ := trodAll_cons hA
  obtain ⟨v1, vs1, d1, ds1, p1, q1, rfl, rfl, rfl, h1, r1⟩ := trodAll_cons r0
  obtain ⟨v2, vs2, d2, ds2, p2, q2, rfl, rfl, rfl, h2, r2⟩ := trodAll_cons r1
  obtain ⟨v3, vs3, d3, ds3, p3, q3, rfl, rfl, rfl, h3, r3⟩ := trodAll_cons r2
  obtain ⟨v4, vs4, d4, ds4, p4, q4, rfl, rfl, rfl, h4, r4⟩ := trodAll_cons r3
  obtain ⟨v5, vs5, d5, ds5, p5, q5, rfl, rfl, rfl, h5, r5⟩ := trodAll_cons r4
  obtain ⟨v6, vs6, d6, ds6, p6, q6, rfl, rfl, rfl, h6, r6⟩ := trodAll_cons r5
  obtain ⟨rfl, rfl, rfl⟩ := trodAll_nil r6
  obtain rfl : args = #[v0, v1, v2, v3, v4, v5, v6] := by cases args; simp_all
  obtain ⟨rfl, rfl⟩ := trodVars_none hV
  have k0 := h0
  have lt0 : ∀ x ∈ p0, x.block < W.heap.size := by obtain ⟨m, hm⟩ := k0; exact DataW.trod_lt m _ _ _ hm
  obtain ⟨y0, R0, w0⟩ := handed 40 (.pair (.int .i64) (.pair (.slice .u64) (.slice (.pair (.int .i64) (.pair (.int .i64) (.int .i64)))))) (by kernel_rfl) (hval 0 25 v0 rfl rfl) k0
  have k1 := h1
  have lt1 : ∀ x ∈ p1, x.block < W.heap.size := by obtain ⟨m, hm⟩ := k1; exact DataW.trod_lt m _ _ _ hm
  obtain ⟨y1, R1, w1⟩ := handed 40 (.slice (.int .i64)) (by kernel_rfl) (hval 1 26 v1 rfl rfl) k1
  have k2 := h2
  have lt2 : ∀ x ∈ p2, x.block < W.heap.size := by obtain ⟨m, hm⟩ := k2; exact DataW.trod_lt m _ _ _ hm
  obtain ⟨y2, R2, w2⟩ := handed 40 (.int .i64) (by kernel_rfl) (hval 2 3 v2 rfl rfl) k2
  have k3 := h3
  have lt3 : ∀ x ∈ p3, x.block < W.heap.size := by obtain ⟨m, hm⟩ := k3; exact DataW.trod_lt m _ _ _ hm
  obtain ⟨y3, R3, w3⟩ := handed 40 (.int .i64) (by kernel_rfl) (hval 3 3 v3 rfl rfl) k3
  have k4 := h4
  have lt4 : ∀ x ∈ p4, x.block < W.heap.size := by obtain ⟨m, hm⟩ := k4; exact DataW.trod_lt m _ _ _ hm
  obtain ⟨y4, R4, w4⟩ := handed 40 (.int .i64) (by kernel_rfl) (hval 4 3 v4 rfl rfl) k4
  have k5 := h5
  have lt5 : ∀ x ∈ p5, x.block < W.heap.size := by obtain ⟨m, hm⟩ := k5; exact DataW.trod_lt m _ _ _ hm
  obtain ⟨y5, R5, w5⟩ := handed 40 (.int .i64) (by kernel_rfl) (hval 5 3 v5 rfl rfl) k5
  have k6 := h6
  have lt6 : ∀ x ∈ p6, x.block < W.heap.size := by obtain ⟨m, hm⟩ := k6; exact DataW.trod_lt m _ _ _ hm
  obtain ⟨y6, R6, w6⟩ := handed 40 (.int .i64) (by kernel_rfl) (hval 6 3 v6 rfl rfl) k6
  have A7 := Args.nil W
  obtain ⟨m6, A6⟩ := A7.cons (t := (.int .i64)) (.inr ⟨rfl, plainForm (t := 3) rfl (hval 6 3 v6 rfl rfl)⟩) y6 R6
  obtain ⟨m5, A5⟩ := A6.cons (t := (.int .i64)) (.inr ⟨rfl, plainForm (t := 3) rfl (hval 5 3 v5 rfl rfl)⟩) y5 R5
  obtain ⟨m4, A4⟩ := A5.cons (t := (.int .i64)) (.inr ⟨rfl, plainForm (t := 3) rfl (hval 4 3 v4 rfl rfl)⟩) y4 R4
  obtain ⟨m3, A3⟩ := A4.cons (t := (.int .i64)) (.inr ⟨rfl, plainForm (t := 3) rfl (hval 3 3 v3 rfl rfl)⟩) y3 R3
  obtain ⟨m2, A2⟩ := A3.cons (t := (.int .i64)) (.inr ⟨rfl, plainForm (t := 3) rfl (hval 2 3 v2 rfl rfl)⟩) y2 R2
  obtain ⟨m1, A1⟩ := A2.cons (t := (.slice (.int .i64))) (.inr ⟨rfl, plainForm (t := 26) rfl (hval 1 26 v1 rfl rfl)⟩) y1 R1
  obtain ⟨m0, A0⟩ := A1.cons (t := (.pair (.int .i64) (.pair (.slice .u64) (.slice (.pair (.int .i64) (.pair (.int .i64) (.int .i64))))))) (.inl ⟨rfl, aggForm (t := 25) rfl (hval 0 25 v0 rfl rfl)⟩) y0 R0
  refine (law_args (fi := iFbeltwaylaw04_PoolTakes) okFbeltwaylaw04_PoolTakes hT (r := (true : Bool)) (vals := #[v0, v1, v2, v3, v4, v5, v6]) (w := W) A0 (law_PoolTakes y0 w0 y1 w1 y2 (i64_of_wf w2) y3 (i64_of_wf w3) y4 (i64_of_wf w4) y5 (i64_of_wf w5) y6 (i64_of_wf w6)) (fun _ => rfl)).mono fun e W' ⟨he, bel⟩ => ?_
  subst he
  simp only [List.append_nil] at hW'
  exact ⟨_, rfl, _, _, _, [], _, [], hW', trodAll_mk1 (shut_bool Tryd.underlying4 _), (trodAll_cons_mk (Below.trod laidOut (by kernel_rfl) (of_decide_eq_true (by kernel_rfl)) k0 bel lt0) (trodAll_cons_mk (Below.trod laidOut (by kernel_rfl) (of_decide_eq_true (by kernel_rfl)) k1 bel lt1) (trodAll_cons_mk (Below.trod laidOut (by kernel_rfl) (of_decide_eq_true (by kernel_rfl)) k2 bel lt2) (trodAll_cons_mk (Below.trod laidOut (by kernel_rfl) (of_decide_eq_true (by kernel_rfl)) k3 bel lt3) (trodAll_cons_mk (Below.trod laidOut (by kernel_rfl) (of_decide_eq_true (by kernel_rfl)) k4 bel lt4) (trodAll_cons_mk (Below.trod laidOut (by kernel_rfl) (of_decide_eq_true (by kernel_rfl)) k5 bel lt5) (trodAll_cons_mk (Below.trod laidOut (by kernel_rfl) (of_decide_eq_true (by kernel_rfl)) k6 bel lt6) trodAll_mk0))))))), rfl, bel.frame _, fun h => by cases h⟩
theorem proved : Rows.PoolTakesSaid :=
  OpenClaim.holds_of_wide 3 Tryd.f3 rfl rfl rfl rfl rfl rfl rfl ⟨rfl, rfl, rfl, rfl, rfl⟩ rfl rfl rfl rfl rfl (by kernel_rfl) Tryd.func3 (by kernel_rfl)
    (of_decide_eq_true (by kernel_rfl)) (by unfold Func.isWrapper; first | (rw [if_pos (by decide +kernel)]; kernel_rfl) | (rw [if_neg (by decide +kernel)]; exact ⟨rfl, rfl⟩))
    (fun os started H enc _ => lifted os started H enc)
theorem card : Rows.PoolTakesCardSaid :=
  Claim7.holds_tied_plain_at .later [] [.data] true (true, "2a0e7fca4990df25ed277c3c09e69ef4868809dc7ad8dbc0099bc73c0b7816e8") false proved (fun _ h => by cases h) (by kernel_rfl) (fun _ h => by cases h) poolTakes_row_tie rfl ⟨rfl, rfl⟩ (by kernel_rfl) rfl
    (fun f fn hf hfn => by
      obtain rfl : f = 3 := Option.some.inj ((show Tryd.prog.funcNamed "beltway/beltwaylaw04.PoolTakes" = some 3 by kernel_rfl).symm.trans hf) |>.symm
      obtain rfl : fn = Tryd.f3 := (Option.some.inj (Tryd.func3.symm.trans hfn)).symm
      exact ⟨by kernel_rfl, fun j t ht => by
        rw [Tryd.params3] at ht
        have hm : t ∈ [25, 26, 3, 3, 3, 3, 3] := by simpa using Array.mem_of_getElem? ht
        have hall : ([25, 26, 3, 3, 3, 3, 3].all fun u => !Tryd.prog.wantsStandIn u) = true := by kernel_rfl
        exact (show Tryd.prog.wantsStandIn t = false by simpa using List.all_eq_true.1 hall t hm)⟩)
    (by kernel_rfl)
end poolTakes
namespace poolBack
open Go.ChangeShapes Go.WideShapes Go.ChangeAt Go.RowKit Go.V3
set_option linter.unusedVariables false
theorem own : ownKnob Tryd.prog.godebug = none := by kernel_rfl
theorem laidOut : laidOutB Tryd.prog = true := by kernel_rfl
theorem door_met (os : Os) (args : Array Value) : laidMetH Tryd.prog [("math/bits.deBruijn64tab", Rows.laid_math_bits_deBruijn64tab)] ((World.doorLaid Tryd.prog 4000 os).forCall (fun _ _ => 0) ⟨#[], args, []⟩).memory :=
  laidMetH_of_parts3 (fuel := 8) (laidMet_of_run' 8 (by kernel_rfl) (by kernel_rfl)) (by kernel_rfl) (by kernel_rfl)
set_option maxRecDepth 100000 in
theorem lifted (os : Os) (started : os.Started) (H : Type) (enc : TypeId × Value → H) :
    ReturnsInHanded {} Tryd.checked os 5 .any (fun w args => (Rows.poolBackSpec.pre enc Tryd.prog Tryd.f5 [] false w args ∧ laidMetH Tryd.prog [("math/bits.deBruijn64tab", Rows.laid_math_bits_deBruijn64tab)] w) ∧ sizedMet enc Tryd.prog Tryd.f5 (OpenSpec.ofChange Rows.poolBackSpec) false w args) (Rows.poolBackSpec.post enc Tryd.prog Tryd.f5 false true false false) := by
  refine returnsInHanded_of_change_and (C := Tryd.checked) (X := fun w _ => laidMetH Tryd.prog [("math/bits.deBruijn64tab", Rows.laid_math_bits_deBruijn64tab)] w) (fun _ _ _ hh h => h.of_heap hh) own started (by kernel_rfl) Tryd.func5
    (ChangeSpec.witness_shaped (enc := enc) (C := Tryd.checked) (os := os) (X := fun w _ => laidMetH Tryd.prog [("math/bits.deBruijn64tab", Rows.laid_math_bits_deBruijn64tab)] w) false (World.doorLaid Tryd.prog 4000 os) #[.slice none 0 0, .int .i64 0, .int .i64 0] 8 rfl (World.shaped_of_RefB (by kernel_rfl) (by kernel_rfl)) (by kernel_rfl) (by kernel_rfl) (by kernel_rfl) (door_met os _)) ?_
  intro W base args ds gs before hval0 hW _ _ hL _
  have hT : TabW tabs W := by
    intro q hq
    simp only [tabs, List.mem_cons, List.not_mem_nil, or_false] at hq
    subst hq
    exact tab_of_laid (t := 76) hL (by kernel_rfl) (e := 5) (k := .u8) (len := 64) (by kernel_rfl) (by kernel_rfl) (by kernel_rfl) (by kernel_rfl) (by kernel_rfl) (by kernel_rfl) [0, 1, 56, 2, 57, 49, 28, 3, 61, 58, 42, 50, 38, 29, 17, 4, 62, 47, 59, 36, 45, 43, 51, 22, 53, 39, 33, 30, 24, 18, 12, 5, 63, 55, 48, 27, 60, 41, 37, 16, 46, 35, 44, 21, 52, 32, 23, 11, 54, 26, 40, 15, 34, 20, 31, 10, 25, 14, 19, 9, 13, 8, 7, 6] rfl
  have hval : ∀ (j : Nat) t v, Tryd.f5.params[j]? = some t → args[j]? = some v → Value.okWide Tryd.prog W .any base t v := hval0
  have hW' := hW
  obtain ⟨p, q, hA0, hV, rfl, hfz, hnd⟩ := hW
  have hA : DataW.TrodAll enc Tryd.prog W 0 (fun _ => true) true Tryd.f5.params.toList args.toList ds p := hA0
  rw [Tryd.params5] at hA hval
  obtain ⟨v0, vs0, d0, ds0, p0, q0, hargs, rfl, rfl, h0, r0⟩ := trodAll_cons hA
  obtain ⟨v1, vs1, d1, ds1, p1, q1, rfl, rfl, rfl, h1, r1⟩ := trodAll_cons r0
  obtain ⟨v2, vs2, d2, ds2, p2, q2, rfl, rfl, rfl, h2, r2⟩ := trodAll_cons r1
  obtain ⟨rfl, rfl, rfl⟩ := trodAll_nil r2
  obtain rfl : args = #[v0, v1, v2] := by cases args; simp_all
  obtain ⟨rfl, rfl⟩ := trodVars_none hV
  have k0 := h0
  have lt0 : ∀ x ∈ p0, x.block < W.heap.size := by obtain ⟨m, hm⟩ := k0; exact DataW.trod_lt m _ _ _ hm
  obtain ⟨y0, R0, w0⟩ := handed 40 (.slice (.int .i64)) (by kernel_rfl) (hval 0 26 v0 rfl rfl) k0
  have k1 := h1
  have lt1 : ∀ x ∈ p1, x.block < W.heap.size := by obtain ⟨m, hm⟩ := k1; exact DataW.trod_lt m _ _ _ hm
  obtain ⟨y1, R1, w1⟩ := handed 40 (.int .i64) (by kernel_rfl) (hval 1 3 v1 rfl rfl) k1
  have k2 := h2
  have lt2 : ∀ x ∈ p2, x.block < W.heap.size := by obtain ⟨m, hm⟩ := k2; exact DataW.trod_lt m _ _ _ hm
  obtain ⟨y2, R2, w2⟩ := handed 40 (.int .i64) (by kernel_rfl) (hval 2 3 v2 rfl rfl) k2
  have A3 := Args.nil W
  obtain ⟨m2, A2⟩ := A3.cons (t := (.int .i64)) (.inr ⟨rfl, plainForm (t := 3) rfl (hval 2 3 v2 rfl rfl)⟩) y2 R2
  obtain ⟨m1, A1⟩ := A2.cons (t := (.int .i64)) (.inr ⟨rfl, plainForm (t := 3) rfl (hval 1 3 v1 rfl rfl)⟩) y1 R1
  obtain ⟨m0, A0⟩ := A1.cons (t := (.slice (.int .i64))) (.inr ⟨rfl, plainForm (t := 26) rfl (hval 0 26 v0 rfl rfl)⟩) y0 R0
  refine (law_args (fi := iFbeltwaylaw04_PoolBack) okFbeltwaylaw04_PoolBack hT (r := (true : Bool)) (vals := #[v0, v1, v2]) (w := W) A0 (law_PoolBack y0 w0 y1 (i64_of_wf w1) y2 (i64_of_wf w2)) (fun _ => rfl)).mono fun e W' ⟨he, bel⟩ => ?_
  subst he
  simp only [List.append_nil] at hW'
  exact ⟨_, rfl, _, _, _, [], _, [], hW', trodAll_mk1 (shut_bool Tryd.underlying4 _), (trodAll_cons_mk (Below.trod laidOut (by kernel_rfl) (of_decide_eq_true (by kernel_rfl)) k0 bel lt0) (trodAll_cons_mk (Below.trod laidOut (by kernel_rfl) (of_decide_eq_true (by kernel_rfl)) k1 bel lt1) (trodAll_cons_mk (Below.trod laidOut (by kernel_rfl) (of_decide_eq_true (by kernel_rfl)) k2 bel lt2) trodAll_mk0))), rfl, bel.frame _, fun h => by cases h⟩
theorem proved : Rows.PoolBackSaid :=
  OpenClaim.holds_of_wide 5 Tryd.f5 rfl rfl rfl rfl rfl rfl rfl ⟨rfl, rfl, rfl, rfl, rfl⟩ rfl rfl rfl rfl rfl (by kernel_rfl) Tryd.func5 (by kernel_rfl)
    (of_decide_eq_true (by kernel_rfl)) (by unfold Func.isWrapper; first | (rw [if_pos (by decide +kernel)]; kernel_rfl) | (rw [if_neg (by decide +kernel)]; exact ⟨rfl, rfl⟩))
    (fun os started H enc _ => lifted os started H enc)
theorem card : Rows.PoolBackCardSaid :=
  Claim7.holds_tied_plain_at .later [] [.data] true (true, "2a0e7fca4990df25ed277c3c09e69ef4868809dc7ad8dbc0099bc73c0b7816e8") false proved (fun _ h => by cases h) (by kernel_rfl) (fun _ h => by cases h) poolBack_row_tie rfl ⟨rfl, rfl⟩ (by kernel_rfl) rfl
    (fun f fn hf hfn => by
      obtain rfl : f = 5 := Option.some.inj ((show Tryd.prog.funcNamed "beltway/beltwaylaw04.PoolBack" = some 5 by kernel_rfl).symm.trans hf) |>.symm
      obtain rfl : fn = Tryd.f5 := (Option.some.inj (Tryd.func5.symm.trans hfn)).symm
      exact ⟨by kernel_rfl, fun j t ht => by
        rw [Tryd.params5] at ht
        have hm : t ∈ [26, 3, 3] := by simpa using Array.mem_of_getElem? ht
        have hall : ([26, 3, 3].all fun u => !Tryd.prog.wantsStandIn u) = true := by kernel_rfl
        exact (show Tryd.prog.wantsStandIn t = false by simpa using List.all_eq_true.1 hall t hm)⟩)
    (by kernel_rfl)
end poolBack
namespace poolOrder
open Go.ChangeShapes Go.WideShapes Go.ChangeAt Go.RowKit Go.V3
set_option linter.unusedVariables false
theorem own : ownKnob Tryd.prog.godebug = none := by kernel_rfl
theorem laidOut : laidOutB Tryd.prog = true := by kernel_rfl
theorem door_met (os : Os) (args : Array Value) : laidMetH Tryd.prog [("math/bits.deBruijn64tab", Rows.laid_math_bits_deBruijn64tab)] ((World.doorLaid Tryd.prog 4000 os).forCall (fun _ _ => 0) ⟨#[], args, []⟩).memory :=
  laidMetH_of_parts3 (fuel := 8) (laidMet_of_run' 8 (by kernel_rfl) (by kernel_rfl)) (by kernel_rfl) (by kernel_rfl)
set_option maxRecDepth 100000 in
theorem lifted (os : Os) (started : os.Started) (H : Type) (enc : TypeId × Value → H) :
    ReturnsInHanded {} Tryd.checked os 4 .any (fun w args => (Rows.poolOrderSpec.pre enc Tryd.prog Tryd.f4 [] false w args ∧ laidMetH Tryd.prog [("math/bits.deBruijn64tab", Rows.laid_math_bits_deBruijn64tab)] w) ∧ sizedMet enc Tryd.prog Tryd.f4 (OpenSpec.ofChange Rows.poolOrderSpec) false w args) (Rows.poolOrderSpec.post enc Tryd.prog Tryd.f4 false true false false) := by
  refine returnsInHanded_of_change_and (C := Tryd.checked) (X := fun w _ => laidMetH Tryd.prog [("math/bits.deBruijn64tab", Rows.laid_math_bits_deBruijn64tab)] w) (fun _ _ _ hh h => h.of_heap hh) own started (by kernel_rfl) Tryd.func4
    (ChangeSpec.witness_shaped (enc := enc) (C := Tryd.checked) (os := os) (X := fun w _ => laidMetH Tryd.prog [("math/bits.deBruijn64tab", Rows.laid_math_bits_deBruijn64tab)] w) false (World.doorLaid Tryd.prog 4000 os) #[.slice none 0 0, .slice none 0 0] 8 rfl (World.shaped_of_RefB (by kernel_rfl) (by kernel_rfl)) (by kernel_rfl) (by kernel_rfl) (by kernel_rfl) (door_met os _)) ?_
  intro W base args ds gs before hval0 hW _ _ hL _
  have hT : TabW tabs W := by
    intro q hq
    simp only [tabs, List.mem_cons, List.not_mem_nil, or_false] at hq
    subst hq
    exact tab_of_laid (t := 76) hL (by kernel_rfl) (e := 5) (k := .u8) (len := 64) (by kernel_rfl) (by kernel_rfl) (by kernel_rfl) (by kernel_rfl) (by kernel_rfl) (by kernel_rfl) [0, 1, 56, 2, 57, 49, 28, 3, 61, 58, 42, 50, 38, 29, 17, 4, 62, 47, 59, 36, 45, 43, 51, 22, 53, 39, 33, 30, 24, 18, 12, 5, 63, 55, 48, 27, 60, 41, 37, 16, 46, 35, 44, 21, 52, 32, 23, 11, 54, 26, 40, 15, 34, 20, 31, 10, 25, 14, 19, 9, 13, 8, 7, 6] rfl
  have hval : ∀ (j : Nat) t v, Tryd.f4.params[j]? = some t → args[j]? = some v → Value.okWide Tryd.prog W .any base t v := hval0
  have hW' := hW
  obtain ⟨p, q, hA0, hV, rfl, hfz, hnd⟩ := hW
  have hA : DataW.TrodAll enc Tryd.prog W 0 (fun _ => true) true Tryd.f4.params.toList args.toList ds p := hA0
  rw [Tryd.params4] at hA hval
  obtain ⟨v0, vs0, d0, ds0, p0, q0, hargs, rfl, rfl, h0, r0⟩ := trodAll_cons hA
  obtain ⟨v1, vs1, d1, ds1, p1, q1, rfl, rfl, rfl, h1, r1⟩ := trodAll_cons r0
  obtain ⟨rfl, rfl, rfl⟩ := trodAll_nil r1
  obtain rfl : args = #[v0, v1] := by cases args; simp_all
  obtain ⟨rfl, rfl⟩ := trodVars_none hV
  have k0 := h0
  have lt0 : ∀ x ∈ p0, x.block < W.heap.size := by obtain ⟨m, hm⟩ := k0; exact DataW.trod_lt m _ _ _ hm
  obtain ⟨y0, R0, w0⟩ := handed 40 (.slice (.int .i64)) (by kernel_rfl) (hval 0 26 v0 rfl rfl) k0
  have k1 := h1
  have lt1 : ∀ x ∈ p1, x.block < W.heap.size := by obtain ⟨m, hm⟩ := k1; exact DataW.trod_lt m _ _ _ hm
  obtain ⟨y1, R1, w1⟩ := handed 40 (.slice (.int .i64)) (by kernel_rfl) (hval 1 26 v1 rfl rfl) k1
  have A2 := Args.nil W
  obtain ⟨m1, A1⟩ := A2.cons (t := (.slice (.int .i64))) (.inr ⟨rfl, plainForm (t := 26) rfl (hval 1 26 v1 rfl rfl)⟩) y1 R1
  obtain ⟨m0, A0⟩ := A1.cons (t := (.slice (.int .i64))) (.inr ⟨rfl, plainForm (t := 26) rfl (hval 0 26 v0 rfl rfl)⟩) y0 R0
  refine (law_args (fi := iFbeltwaylaw04_PoolOrder) okFbeltwaylaw04_PoolOrder hT (r := (true : Bool)) (vals := #[v0, v1]) (w := W) A0 (law_PoolOrder y0 w0 y1 w1) (fun _ => rfl)).mono fun e W' ⟨he, bel⟩ => ?_
  subst he
  simp only [List.append_nil] at hW'
  exact ⟨_, rfl, _, _, _, [], _, [], hW', trodAll_mk1 (shut_bool Tryd.underlying4 _), (trodAll_cons_mk (Below.trod laidOut (by kernel_rfl) (of_decide_eq_true (by kernel_rfl)) k0 bel lt0) (trodAll_cons_mk (Below.trod laidOut (by kernel_rfl) (of_decide_eq_true (by kernel_rfl)) k1 bel lt1) trodAll_mk0)), rfl, bel.frame _, fun h => by cases h⟩
theorem proved : Rows.PoolOrderSaid :=
  OpenClaim.holds_of_wide 4 Tryd.f4 rfl rfl rfl rfl rfl rfl rfl ⟨rfl, rfl, rfl, rfl, rfl⟩ rfl rfl rfl rfl rfl (by kernel_rfl) Tryd.func4 (by kernel_rfl)
    (of_decide_eq_true (by kernel_rfl)) (by unfold Func.isWrapper; first | (rw [if_pos (by decide +kernel)]; kernel_rfl) | (rw [if_neg (by decide +kernel)]; exact ⟨rfl, rfl⟩))
    (fun os started H enc _ => lifted os started H enc)
theorem card : Rows.PoolOrderCardSaid :=
  Claim7.holds_tied_plain_at .later [] [.data] true (true, "2a0e7fca4990df25ed277c3c09e69ef4868809dc7ad8dbc0099bc73c0b7816e8") false proved (fun _ h => by cases h) (by kernel_rfl) (fun _ h => by cases h) poolOrder_row_tie rfl ⟨rfl, rfl⟩ (by kernel_rfl) rfl
    (fun f fn hf hfn => by
      obtain rfl : f = 4 := Option.some.inj ((show Tryd.prog.funcNamed "beltway/beltwaylaw04.PoolOrder" = some 4 by kernel_rfl).symm.trans hf) |>.symm
      obtain rfl : fn = Tryd.f4 := (Option.some.inj (Tryd.func4.symm.trans hfn)).symm
      exact ⟨by kernel_rfl, fun j t ht => by
        rw [Tryd.params4] at ht
        have hm : t ∈ [26, 26] := by simpa using Array.mem_of_getElem? ht
        have hall : ([26, 26].all fun u => !Tryd.prog.wantsStandIn u) = true := by kernel_rfl
        exact (show Tryd.prog.wantsStandIn t = false by simpa using List.all_eq_true.1 hall t hm)⟩)
    (by kernel_rfl)
end poolOrder
end Go.Proofs.YtbmndkehkhpdlaaDoor
