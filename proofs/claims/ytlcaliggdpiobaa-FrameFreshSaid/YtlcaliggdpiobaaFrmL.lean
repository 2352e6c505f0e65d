/-
  Plain laws of package frame.
-/
import Derived.Test.YtlcaliggdpiobaaRows
import Derived.Test.YtlcaliggdpiobaaFrmW
import Derived.Test.YtlcaliggdpiobaaLibV
set_option linter.unusedVariables false
namespace Go.Proofs.Ytlcaliggdpiobaa
open Go Go.V3

theorem Mod_ok (a : Int) {m : Int} (h0 : 0 < m) (h1 : m ≤ 4611686018427387904) : ∃ r, Fbeltwaymake_Mod a m = some r ∧ 0 ≤ r ∧ r < m := by
  have u := Int.tmod_lt_of_pos a h0
  have l := Int.lt_tmod_of_pos a h0
  unfold Fbeltwaymake_Mod
  rw [if_pos (by omega)]
  split
  · exact ⟨_, rfl, by rw [w64_id (by omega) (by omega)]; omega, by rw [w64_id (by omega) (by omega)]; omega⟩
  · exact ⟨_, rfl, by omega, u⟩

theorem shift_ok {s : Int} (h : 3 ≤ s ∧ s ≤ 8) : Fframe_shift s = some true := by
  unfold Fframe_shift
  rw [if_pos (by omega), decide_eq_true (by omega)]

theorem pw {s : Int} (h : 3 ≤ s ∧ s ≤ 8) : min (BitVec.ofInt 64 s).toNat 64 = s.toNat := by
  have : s = 3 ∨ s = 4 ∨ s = 5 ∨ s = 6 ∨ s = 7 ∨ s = 8 := by omega
  rcases this with rfl | rfl | rfl | rfl | rfl | rfl <;> rfl
theorem pw_le {s : Int} (h : 3 ≤ s ∧ s ≤ 8) : 8 ≤ (2 : Int) ^ s.toNat ∧ (2 : Int) ^ s.toNat ≤ 256 := by
  have : s = 3 ∨ s = 4 ∨ s = 5 ∨ s = 6 ∨ s = 7 ∨ s = 8 := by omega
  rcases this with rfl | rfl | rfl | rfl | rfl | rfl <;> decide
theorem mul_pw {s n k : Int} (h : 3 ≤ s ∧ s ≤ 8) (hn : 0 ≤ n) (hk : n ≤ k) : 0 ≤ n * 2 ^ s.toNat ∧ n * 2 ^ s.toNat ≤ k * 256 := by
  obtain ⟨h1, h2⟩ := pw_le h
  exact ⟨Int.mul_nonneg hn (by omega), Int.mul_le_mul hk h2 (by omega) (by omega)⟩

theorem New_ok {s n : Int} (hs : 3 ≤ s ∧ s ≤ 8) (hn : 2 ≤ n ∧ n ≤ 64) :
    Fframe_New s n = some ((s, List.replicate (n * 2 ^ s.toNat).toNat 0#64, List.replicate n.toNat (-1, -1, -1)), 0) := by
  obtain ⟨q1, q2⟩ := mul_pw hs (by omega : 0 ≤ n) hn.2
  unfold Fframe_New
  rw [shift_ok hs]
  simp only [Option.bind_some]
  rw [if_neg (by decide), if_neg (by omega), if_neg (by omega), if_pos trivial, pw hs, w64_id (by omega) (by omega)]
  unfold Farena_Make
  rw [if_neg (by omega), if_neg (by omega), if_pos (by omega)]
  simp only [Option.bind_some]
  rw [if_neg (by simp), if_pos (by omega)]
  refine loopO_to (fun k st => st.1 = n - k ∧ (k : Int) ≤ n ∧ st.2.length = n.toNat ∧ ∀ j, j < st.1.toNat → st.2[j]? = some (-1, -1, -1)) (n := n.toNat) ?_ ⟨by omega, by omega, by simp, fun j hj => by simp at hj⟩
  rintro k ⟨i, xs⟩ ⟨h1, h2, h3, h4⟩
  simp only at h1 h2 h3 h4 ⊢
  rw [List.length_replicate]
  by_cases hk : k = 0
  · left
    rw [if_neg (by omega)]
    have : i.toNat = n.toNat := by omega
    rw [this] at h4
    rw [ext_replicate h3 h4]
  · right
    refine ⟨k - 1, _, by omega, by rw [if_pos (by omega), if_pos (by omega)], ?_, by omega, ?_, ?_⟩
    · simp only; rw [w64_id (by omega) (by omega)]; omega
    · simp [h3]
    · simp only
      rw [w64_id (by omega) (by omega)]
      intro j hj
      rw [List.getElem?_set]
      split
      · rw [if_pos (by omega)]
      · exact h4 j (by omega)

theorem bounded_ok {s : Int} {ws : List (BitVec 64)} {fs : List (Int × Int × Int)} (hs : 3 ≤ s ∧ s ≤ 8) (hf : fs.length ≤ 64) : Fframe_bounded (s, ws, fs) = some true := by
  unfold Fframe_bounded
  rw [shift_ok hs]
  simp only [Option.bind_some]
  rw [if_pos trivial, decide_eq_true (by omega)]
theorem Size_ok {s : Int} {ws : List (BitVec 64)} {fs : List (Int × Int × Int)} (hs : 3 ≤ s ∧ s ≤ 8) : Fframe_Size (s, ws, fs) = some (2 ^ s.toNat) := by
  obtain ⟨q1, q2⟩ := pw_le hs
  unfold Fframe_Size
  rw [shift_ok hs]
  simp only [Option.bind_some]
  rw [if_neg (by decide), if_pos trivial, pw hs, w64_id (by omega) (by omega), Int.one_mul]
theorem Of_ok {s a : Int} {ws : List (BitVec 64)} {fs : List (Int × Int × Int)} (hs : 3 ≤ s ∧ s ≤ 8) (hf : fs.length ≤ 64) (h0 : 0 ≤ a) (h1 : a < fs.length * 2 ^ s.toNat) :
    Fframe_Of (s, ws, fs) a = some (a / 2 ^ s.toNat, a % 2 ^ s.toNat, 0) := by
  obtain ⟨q1, q2⟩ := pw_le hs
  obtain ⟨q3, q4⟩ := mul_pw hs (by omega : (0 : Int) ≤ fs.length) (show (fs.length : Int) ≤ 64 by omega)
  unfold Fframe_Of
  rw [bounded_ok hs hf]
  simp only [Option.bind_some]
  rw [if_neg (by decide), if_neg (by omega), if_pos trivial, pw hs, w64_id (by omega) (by omega), if_neg (by omega), if_pos trivial, Size_ok hs]
  simp only [Option.bind_some]
  rw [w64_id (by omega) (by omega), iBits_mask _ (by omega) h0 (by omega)]
theorem Base_ok {s f : Int} {ws : List (BitVec 64)} {fs : List (Int × Int × Int)} (hs : 3 ≤ s ∧ s ≤ 8) (hf : fs.length ≤ 64) (h0 : 0 ≤ f) (h1 : f < fs.length) :
    Fframe_Base (s, ws, fs) f = some (f * 2 ^ s.toNat, 0) := by
  obtain ⟨q3, q4⟩ := mul_pw hs h0 (show f ≤ 64 by omega)
  unfold Fframe_Base
  rw [bounded_ok hs hf]
  simp only [Option.bind_some]
  rw [if_neg (by decide), if_neg (by omega), if_neg (by omega), if_pos trivial, pw hs, w64_id (by omega) (by omega)]
theorem pair_lt {f g n : Int} (f0 : 0 ≤ f) (f1 : f < n) (g0 : 0 ≤ g) (g1 : g < n) (hn : n ≤ 64) : 0 ≤ f * n ∧ f * n + g < n * n ∧ n * n ≤ 4096 := by
  have a1 : 0 ≤ f * n := Int.mul_nonneg f0 (by omega)
  have a2 : (f + 1) * n ≤ n * n := Int.mul_le_mul_of_nonneg_right (by omega) (by omega)
  have a3 : n * n ≤ 64 * 64 := Int.mul_le_mul hn hn (by omega) (by omega)
  rw [Int.add_mul, Int.one_mul] at a2
  exact ⟨a1, by omega, by omega⟩
theorem Pair_ok {s f g : Int} {ws : List (BitVec 64)} {fs : List (Int × Int × Int)} (hs : 3 ≤ s ∧ s ≤ 8) (hf : fs.length ≤ 64) (f0 : 0 ≤ f) (f1 : f < fs.length) (g0 : 0 ≤ g) (g1 : g < fs.length) :
    Fframe_Pair (s, ws, fs) f g = some (f * fs.length + g, 0) := by
  obtain ⟨a1, a2, a3⟩ := pair_lt f0 f1 g0 g1 (by omega)
  unfold Fframe_Pair
  rw [bounded_ok hs hf]
  simp only [Option.bind_some]
  rw [if_neg (by decide), if_neg (by omega), if_neg (by omega), if_neg (by omega), if_neg (by omega), w64_id (e := f * fs.length) (by omega) (by omega), w64_id (by omega) (by omega)]
theorem Unpair_ok {s f g : Int} {ws : List (BitVec 64)} {fs : List (Int × Int × Int)} (hs : 3 ≤ s ∧ s ≤ 8) (hf : fs.length ≤ 64) (f0 : 0 ≤ f) (f1 : f < fs.length) (g0 : 0 ≤ g) (g1 : g < fs.length) :
    Fframe_Unpair (s, ws, fs) (f * fs.length + g) = some (f, g, 0) := by
  obtain ⟨a1, a2, a3⟩ := pair_lt f0 f1 g0 g1 (by omega)
  have e1 : Int.tdiv (f * fs.length + g) fs.length = f := by
    rw [Int.tdiv_eq_ediv_of_nonneg (by omega), Int.add_comm, Int.add_mul_ediv_right _ _ (by omega), Int.ediv_eq_zero_of_lt g0 g1, Int.zero_add]
  have e2 : Int.tmod (f * fs.length + g) fs.length = g := by
    rw [Int.tmod_eq_emod_of_nonneg (by omega), Int.add_comm, Int.add_mul_emod_self_right, Int.emod_eq_of_lt g0 g1]
  unfold Fframe_Unpair
  rw [bounded_ok hs hf]
  simp only [Option.bind_some]
  rw [if_neg (by decide), if_neg (by omega), w64_id (e := (fs.length : Int) * fs.length) (by omega) (by omega), if_neg (by omega), if_pos (by omega), if_pos (by omega), e1, e2, w64_id (by omega) (by omega)]

theorem law_FrameBack (a0 : Int) (b0 : I64 a0) (a1 : Int) (b1 : I64 a1) (a2 : Int) (b2 : I64 a2) (a3 : Int) (b3 : I64 a3) (a4 : Int) (b4 : I64 a4) : Fbeltwaylaw03_FrameBack a0 a1 a2 a3 a4 = some true := by
  obtain ⟨r1, e1, l1, u1⟩ := Mod_ok a0 (m := 4) (by omega) (by omega)
  obtain ⟨r2, e2, l2, u2⟩ := Mod_ok a1 (m := 60) (by omega) (by omega)
  have hs : 3 ≤ 3 + r1 ∧ 3 + r1 ≤ 8 := by omega
  obtain ⟨q1, q2⟩ := pw_le hs
  obtain ⟨q3, q4⟩ := mul_pw hs (by omega : (0 : Int) ≤ 2 + r2) (show 2 + r2 ≤ 64 by omega)
  unfold Fbeltwaylaw03_FrameBack
  rw [e1, e2]
  simp only [Option.bind_some]
  rw [w64_id (e := 3 + r1) (by omega) (by omega), w64_id (e := 2 + r2) (by omega) (by omega), New_ok hs (by omega)]
  simp only [Option.bind_some]
  generalize hws : List.replicate ((2 + r2) * 2 ^ (3 + r1).toNat).toNat 0#64 = ws
  generalize hfs : List.replicate (2 + r2).toNat ((-1, -1, -1) : Int × Int × Int) = fs
  have lf : (fs.length : Int) = 2 + r2 := by rw [← hfs, List.length_replicate]; omega
  have lw : (ws.length : Int) = fs.length * 2 ^ (3 + r1).toNat := by rw [lf, ← hws, List.length_replicate]; omega
  have lf' : fs.length ≤ 64 := by omega
  rw [lf] at lw
  have hmin : 8 ≤ (2 + r2) * 2 ^ (3 + r1).toNat := by
    have := Int.mul_le_mul (show (1 : Int) ≤ 2 + r2 by omega) q1 (by omega) (by omega)
    omega
  obtain ⟨r5, e5, l5, u5⟩ := Mod_ok a2 (m := ws.length + 1) (by omega) (by omega)
  obtain ⟨r8, e8, l8, u8⟩ := Mod_ok a3 (m := fs.length) (by omega) (by omega)
  obtain ⟨r9, e9, l9, u9⟩ := Mod_ok a4 (m := fs.length) (by omega) (by omega)
  rw [if_neg (by simp), if_neg (by omega), w64_id (e := (ws.length : Int) + 1) (by omega) (by omega), e5]
  simp only [Option.bind_some]
  rw [if_pos (by omega), if_pos (by omega)]
  rw [Int.tmod_eq_emod_of_nonneg l5]
  have hx0 : 0 ≤ r5 % ws.length := Int.emod_nonneg _ (by omega)
  have hx1 : r5 % ws.length < ws.length := Int.emod_lt_of_pos _ (by omega)
  generalize r5 % ws.length = x at hx0 hx1
  have hdm := Int.mul_ediv_add_emod x (2 ^ (3 + r1).toNat)
  have hm0 : 0 ≤ x % 2 ^ (3 + r1).toNat := Int.emod_nonneg _ (by omega)
  have hm1 : x % 2 ^ (3 + r1).toNat < 2 ^ (3 + r1).toNat := Int.emod_lt_of_pos _ (by omega)
  have hd0 : 0 ≤ x / 2 ^ (3 + r1).toNat := Int.ediv_nonneg hx0 (by omega)
  have hd1 : x / 2 ^ (3 + r1).toNat < fs.length := Int.ediv_lt_of_lt_mul (by omega) (by rw [lf, ← lw]; exact hx1)
  rw [Of_ok hs lf' hx0 (by rw [lf, ← lw]; exact hx1)]
  simp only [Option.bind_some]
  rw [Base_ok hs lf' hd0 hd1, e8, e9]
  simp only [Option.bind_some]
  rw [Pair_ok hs lf' l8 u8 l9 u9]
  simp only [Option.bind_some]
  rw [Unpair_ok hs lf' l8 u8 l9 u9, Size_ok hs]
  simp only [Option.bind_some]
  rw [Int.mul_comm] at hdm
  rw [hdm, w64_id (by omega) (by omega)]
  simp only [if_true, decide_true]
  rw [if_pos (by omega), if_pos hm1]

namespace frameBack
open Go.ChangeShapes Go.WideShapes Go.ChangeAt Go.RowKit Go.V3
set_option linter.unusedVariables false
theorem own : ownKnob Try.prog.godebug = none := by kernel_rfl
theorem laidOut : laidOutB Try.prog = true := by kernel_rfl
set_option maxRecDepth 100000 in
theorem lifted (os : Os) (started : os.Started) (H : Type) (enc : TypeId × Value → H) :
    ReturnsInHanded {} Try.checked os 3 .any (Rows.frameBackSpec.pre6 enc Try.prog Try.f3 Rows.frameBackRow.domain false) (Rows.frameBackSpec.post enc Try.prog Try.f3 false true false false) := by
  refine returnsInHanded_of_change (C := Try.checked) own started (by kernel_rfl) Try.func3
    (ChangeSpec.witness6 (enc := enc) (C := Try.checked) false ⟨#[], #[.int .i64 0, .int .i64 0, .int .i64 0, .int .i64 0, .int .i64 0], []⟩ 8 (by kernel_rfl) (by kernel_rfl) (by kernel_rfl) (by kernel_rfl)) ?_
  intro W base args ds gs before hval0 hW hcnd _
  have hval : ∀ (j : Nat) t v, Try.f3.params[j]? = some t → args[j]? = some v → Value.okWide Try.prog W .any base t v := hval0
  have hW' := hW
  obtain ⟨p, q, hA0, hV, rfl, hfz, hnd⟩ := hW
  have hA : DataW.TrodAll enc Try.prog W 0 (fun _ => true) true Try.f3.params.toList args.toList ds p := hA0
  rw [Try.params3] at hA hval
  obtain ⟨v0, vs0, d0, ds0, p0, q0, hargs, rfl, rfl, h0, r0⟩ := trodAll_cons hA
  obtain ⟨v1, vs1, d1, ds1, p1, q1, rfl, rfl, rfl, h1, r1⟩ := trodAll_cons r0
  obtain ⟨v2, vs2, d2, ds2, p2, q2, rfl, rfl, rfl, h2, r2⟩ := trodAll_cons r1
  obtain ⟨v3, vs3, d3, ds3, p3, q3, rfl, rfl, rfl, h3, r3⟩ := trodAll_cons r2
  obtain ⟨v4, vs4, d4, ds4, p4, q4, rfl, rfl, rfl, h4, r4⟩ := trodAll_cons r3
  obtain ⟨rfl, rfl, rfl⟩ := trodAll_nil r4
  obtain rfl : args = #[v0, v1, v2, v3, v4] := by cases args; simp_all
  obtain ⟨rfl, rfl⟩ := trodVars_none hV
  have k0 := h0
  have lt0 : ∀ x ∈ p0, x.block < W.heap.size := by obtain ⟨m, hm⟩ := k0; exact DataW.trod_lt m _ _ _ hm
  obtain ⟨a0, rfl, _, _, w0⟩ := open_int Try.underlying3 (hval 0 3 v0 rfl rfl) h0
  have b0 := i64_of_wf w0
  have k1 := h1
  have lt1 : ∀ x ∈ p1, x.block < W.heap.size := by obtain ⟨m, hm⟩ := k1; exact DataW.trod_lt m _ _ _ hm
  obtain ⟨a1, rfl, _, _, w1⟩ := open_int Try.underlying3 (hval 1 3 v1 rfl rfl) h1
  have b1 := i64_of_wf w1
  have k2 := h2
  have lt2 : ∀ x ∈ p2, x.block < W.heap.size := by obtain ⟨m, hm⟩ := k2; exact DataW.trod_lt m _ _ _ hm
  obtain ⟨a2, rfl, _, _, w2⟩ := open_int Try.underlying3 (hval 2 3 v2 rfl rfl) h2
  have b2 := i64_of_wf w2
  have k3 := h3
  have lt3 : ∀ x ∈ p3, x.block < W.heap.size := by obtain ⟨m, hm⟩ := k3; exact DataW.trod_lt m _ _ _ hm
  obtain ⟨a3, rfl, _, _, w3⟩ := open_int Try.underlying3 (hval 3 3 v3 rfl rfl) h3
  have b3 := i64_of_wf w3
  have k4 := h4
  have lt4 : ∀ x ∈ p4, x.block < W.heap.size := by obtain ⟨m, hm⟩ := k4; exact DataW.trod_lt m _ _ _ hm
  obtain ⟨a4, rfl, _, _, w4⟩ := open_int Try.underlying3 (hval 4 3 v4 rfl rfl) h4
  have b4 := i64_of_wf w4
  refine (law_bare okFbeltwaylaw03_FrameBack rfl (x := ((a0, a1, a2, a3, a4) : HT iFbeltwaylaw03_FrameBack.ps)) (r := (true : Bool)) (vals := #[_, _, _, _, _]) (w := W) ?_ (law_FrameBack a0 b0 a1 b1 a2 b2 a3 b3 a4 b4) (fun _ => rfl)).mono fun e W' ⟨he, bel⟩ => ?_
  · rfl
  subst he
  simp only [List.append_nil] at hW'
  exact ⟨_, rfl, _, _, _, [], _, [], hW', trodAll_mk1 (shut_bool Try.underlying4 _), (trodAll_cons_mk (Below.trod laidOut (by kernel_rfl) (of_decide_eq_true (by kernel_rfl)) k0 bel lt0) (trodAll_cons_mk (Below.trod laidOut (by kernel_rfl) (of_decide_eq_true (by kernel_rfl)) k1 bel lt1) (trodAll_cons_mk (Below.trod laidOut (by kernel_rfl) (of_decide_eq_true (by kernel_rfl)) k2 bel lt2) (trodAll_cons_mk (Below.trod laidOut (by kernel_rfl) (of_decide_eq_true (by kernel_rfl)) k3 bel lt3) (trodAll_cons_mk (Below.trod laidOut (by kernel_rfl) (of_decide_eq_true (by kernel_rfl)) k4 bel lt4) trodAll_mk0))))), rfl, bel.frame _, fun h => by cases h⟩
theorem proved : Rows.FrameBackSaid :=
  OpenClaim.holds_of_wide 3 Try.f3 rfl rfl rfl rfl rfl rfl rfl ⟨rfl, rfl, rfl, rfl, rfl⟩ rfl rfl rfl rfl rfl (by kernel_rfl) Try.func3 (by kernel_rfl)
    (of_decide_eq_true (by kernel_rfl)) (by unfold Func.isWrapper; first | (rw [if_pos (by decide +kernel)]; kernel_rfl) | (rw [if_neg (by decide +kernel)]; exact ⟨rfl, rfl⟩))
    (fun os started H enc _ => lifted os started H enc)
end frameBack

theorem gd_rep {t : Ty} {n i : Nat} {v : t.T} (h : i < n) : gd t (List.replicate n v) i = v := by
  unfold gd
  simp [List.getD, h]
theorem zero_ok {m : Nat} (hm : m ≤ 16384) : Fframe_zero (List.replicate m 0#64) = some true := by
  unfold Fframe_zero
  refine loopO_to (fun (k : Nat) (s : Int) => s = (m : Int) - k ∧ k ≤ m) (n := m) ?_ ⟨by omega, by omega⟩
  rintro k s ⟨h1, h2⟩
  rw [List.length_replicate]
  by_cases hk : k = 0
  · left
    rw [if_neg (by omega)]
  · right
    refine ⟨k - 1, s + 1, by omega, ?_, by omega, by omega⟩
    rw [if_pos (by omega), if_pos (by omega), gd_rep (t := .u64) (by omega), if_neg (by simp), w64_id (by omega) (by omega)]
theorem straight_new {s : Int} {ws : List (BitVec 64)} {n : Nat} (hn : n ≤ 64) : Fframe_straight (s, ws, List.replicate n (-1, -1, -1)) = some true := by
  unfold Fframe_straight
  refine loopO_to (fun (k : Nat) (i : Int) => i = (n : Int) - k ∧ k ≤ n) (n := n) ?_ ⟨by omega, by omega⟩
  rintro k i ⟨h1, h2⟩
  simp only [List.length_replicate]
  by_cases hk : k = 0
  · left
    rw [if_neg (by omega)]
  · right
    refine ⟨k - 1, i + 1, by omega, ?_, by omega, by omega⟩
    rw [if_pos (by omega), if_pos (by omega), gd_rep (t := .pair (.int .i64) (.pair (.int .i64) (.int .i64))) (by omega), loopO_eq]
    simp only
    rw [if_neg (by omega), w64_id (by omega) (by omega)]
theorem Valid_new {s n : Int} (hs : 3 ≤ s ∧ s ≤ 8) (hn : 2 ≤ n ∧ n ≤ 64) :
    Fframe_Valid (s, List.replicate (n * 2 ^ s.toNat).toNat 0#64, List.replicate n.toNat (-1, -1, -1)) = some true := by
  obtain ⟨p1, p2⟩ := pw_le hs
  obtain ⟨q1, q2⟩ := mul_pw hs (by omega : 0 ≤ n) hn.2
  unfold Fframe_Valid
  simp only [List.length_replicate]
  rw [shift_ok hs]
  simp only [Option.bind_some]
  have e : ((n.toNat : Nat) : Int) = n := by omega
  rw [e, if_neg (by decide), if_neg (by omega), if_neg (by omega), if_pos trivial, pw hs, w64_id (by omega) (by omega), if_neg (by omega)]
  refine loopO_to (fun k st => st.2 = n - k ∧ (k : Int) ≤ n) (n := n.toNat) ?_ ⟨by simp only; omega, by omega⟩
  rintro k ⟨z, i⟩ ⟨h1, h2⟩
  simp only at h1 h2 ⊢
  by_cases hk : k = 0
  · left
    rw [if_neg (by omega), straight_new (by omega)]
    rfl
  · right
    obtain ⟨r1, r2⟩ := mul_pw hs (by omega : 0 ≤ i) (show i ≤ 64 by omega)
    obtain ⟨t1, t2⟩ := mul_pw hs (by omega : 0 ≤ i + 1) (show i + 1 ≤ 64 by omega)
    have t3 : (i + 1) * 2 ^ s.toNat ≤ n * 2 ^ s.toNat := Int.mul_le_mul_of_nonneg_right (by omega) (by omega)
    have t4 : (i + 1) * 2 ^ s.toNat = i * 2 ^ s.toNat + 2 ^ s.toNat := by rw [Int.add_mul, Int.one_mul]
    refine ⟨k - 1, (z, i + 1), by omega, ?_, by simp only; omega, by omega⟩
    have g := gd_rep (t := .pair (.int .i64) (.pair (.int .i64) (.int .i64))) (n := n.toNat) (i := i.toNat) (v := (-1, -1, -1)) (by omega)
    rw [if_pos (by omega), if_pos (by omega)]
    simp only [g]
    rw [if_pos trivial, if_neg (by simp), if_neg (by simp), if_pos trivial, if_pos trivial, w64_id (e := i + 1) (by omega) (by omega), w64_id (e := i * 2 ^ s.toNat) (by omega) (by omega), w64_id (e := (i + 1) * 2 ^ s.toNat) (by omega) (by omega)]
    rw [if_pos ⟨by omega, by omega⟩]
    have : subl (List.replicate (n * 2 ^ s.toNat).toNat 0#64) (i * 2 ^ s.toNat).toNat (((i + 1) * 2 ^ s.toNat).toNat - (i * 2 ^ s.toNat).toNat) = List.replicate (((i + 1) * 2 ^ s.toNat).toNat - (i * 2 ^ s.toNat).toNat) 0#64 := by
      unfold subl
      simp only [List.drop_replicate, List.take_replicate]
      congr 1
      omega
    rw [this, zero_ok (by omega)]
    simp only [Option.bind_some]
    rw [if_neg (by decide)]
theorem awake_ok : Fbeltwaylaw03_awake = some true := by
  have h : Fframe_New 4 3 = _ := New_ok (s := 4) (n := 3) (by omega) (by omega)
  unfold Fbeltwaylaw03_awake
  rw [h]
  simp only [Option.bind_some]
  rw [Of_ok (by omega) (by simp) (by omega) (by simp), Valid_new (by omega) (by omega)]
  rfl
theorem law_FrameFresh (a0 : Int) (b0 : I64 a0) (a1 : Int) (b1 : I64 a1) (a2 : Int) (b2 : I64 a2) : Fbeltwaylaw03_FrameFresh a0 a1 a2 = some true := by
  obtain ⟨r1, e1, l1, u1⟩ := Mod_ok a0 (m := 6) (by omega) (by omega)
  obtain ⟨r2, e2, l2, u2⟩ := Mod_ok a1 (m := 63) (by omega) (by omega)
  have hs : 3 ≤ 3 + r1 ∧ 3 + r1 ≤ 8 := by omega
  obtain ⟨q1, q2⟩ := pw_le hs
  obtain ⟨q3, q4⟩ := mul_pw hs (by omega : (0 : Int) ≤ 2 + r2) (show 2 + r2 ≤ 64 by omega)
  obtain ⟨r6, e6, l6, u6⟩ := Mod_ok a2 (m := 2 + r2) (by omega) (by omega)
  unfold Fbeltwaylaw03_FrameFresh
  rw [e1, e2]
  simp only [Option.bind_some]
  rw [w64_id (e := 3 + r1) (by omega) (by omega), w64_id (e := 2 + r2) (by omega) (by omega), New_ok hs (by omega)]
  simp only [Option.bind_some, List.length_replicate]
  rw [if_neg (by simp), if_neg (by omega), Size_ok hs]
  simp only [Option.bind_some]
  rw [w64_id (by omega) (by omega), if_neg (by omega), Valid_new hs (by omega)]
  simp only [Option.bind_some]
  rw [if_neg (by decide), e6]
  simp only [Option.bind_some]
  have g := gd_rep (t := .pair (.int .i64) (.pair (.int .i64) (.int .i64))) (n := (2 + r2).toNat) (i := r6.toNat) (v := (-1, -1, -1)) (by omega)
  rw [if_pos (by omega)]
  simp only [g]
  rw [if_pos trivial, if_pos trivial, if_pos trivial, awake_ok]
  rfl

namespace frameFresh
open Go.ChangeShapes Go.WideShapes Go.ChangeAt Go.RowKit Go.V3
set_option linter.unusedVariables false
theorem own : ownKnob Try.prog.godebug = none := by kernel_rfl
theorem laidOut : laidOutB Try.prog = true := by kernel_rfl
set_option maxRecDepth 100000 in
theorem lifted (os : Os) (started : os.Started) (H : Type) (enc : TypeId × Value → H) :
    ReturnsInHanded {} Try.checked os 5 .any (Rows.frameFreshSpec.pre6 enc Try.prog Try.f5 Rows.frameFreshRow.domain false) (Rows.frameFreshSpec.post enc Try.prog Try.f5 false true false false) := by
  refine returnsInHanded_of_change (C := Try.checked) own started (by kernel_rfl) Try.func5
    (ChangeSpec.witness6 (enc := enc) (C := Try.checked) false ⟨#[], #[.int .i64 0, .int .i64 0, .int .i64 0], []⟩ 8 (by kernel_rfl) (by kernel_rfl) (by kernel_rfl) (by kernel_rfl)) ?_
  intro W base args ds gs before hval0 hW hcnd _
  have hval : ∀ (j : Nat) t v, Try.f5.params[j]? = some t → args[j]? = some v → Value.okWide Try.prog W .any base t v := hval0
  have hW' := hW
  obtain ⟨p, q, hA0, hV, rfl, hfz, hnd⟩ := hW
  have hA : DataW.TrodAll enc Try.prog W 0 (fun _ => true) true Try.f5.params.toList args.toList ds p := hA0
  rw [Try.params5] at hA hval
  obtain ⟨v0, vs0, d0, ds0, p0, q0, hargs, rfl, rfl, h0, r0⟩ := trodAll_cons hA
  obtain ⟨v1, vs1, d1, ds1, p1, q1, rfl, rfl, rfl, h1, r1⟩ := trodAll_cons r0
  obtain ⟨v2, vs2, d2, ds2, p2, q2, rfl, rfl, rfl, h2, r2⟩ := trodAll_cons r1
  obtain ⟨rfl, rfl, rfl⟩ := trodAll_nil r2
  obtain rfl : args = #[v0, v1, v2] := by cases args; simp_all
  obtain ⟨rfl, rfl⟩ := trodVars_none hV
  have k0 := h0
  have lt0 : ∀ x ∈ p0, x.block < W.heap.size := by obtain ⟨m, hm⟩ := k0; exact DataW.trod_lt m _ _ _ hm
  obtain ⟨a0, rfl, _, _, w0⟩ := open_int Try.underlying3 (hval 0 3 v0 rfl rfl) h0
  have b0 := i64_of_wf w0
  have k1 := h1
  have lt1 : ∀ x ∈ p1, x.block < W.heap.size := by obtain ⟨m, hm⟩ := k1; exact DataW.trod_lt m _ _ _ hm
  obtain ⟨a1, rfl, _, _, w1⟩ := open_int Try.underlying3 (hval 1 3 v1 rfl rfl) h1
  have b1 := i64_of_wf w1
  have k2 := h2
  have lt2 : ∀ x ∈ p2, x.block < W.heap.size := by obtain ⟨m, hm⟩ := k2; exact DataW.trod_lt m _ _ _ hm
  obtain ⟨a2, rfl, _, _, w2⟩ := open_int Try.underlying3 (hval 2 3 v2 rfl rfl) h2
  have b2 := i64_of_wf w2
  refine (law_bare okFbeltwaylaw03_FrameFresh rfl (x := ((a0, a1, a2) : HT iFbeltwaylaw03_FrameFresh.ps)) (r := (true : Bool)) (vals := #[_, _, _]) (w := W) ?_ (law_FrameFresh a0 b0 a1 b1 a2 b2) (fun _ => rfl)).mono fun e W' ⟨he, bel⟩ => ?_
  · rfl
  subst he
  simp only [List.append_nil] at hW'
  exact ⟨_, rfl, _, _, _, [], _, [], hW', trodAll_mk1 (shut_bool Try.underlying4 _), (trodAll_cons_mk (Below.trod laidOut (by kernel_rfl) (of_decide_eq_true (by kernel_rfl)) k0 bel lt0) (trodAll_cons_mk (Below.trod laidOut (by kernel_rfl) (of_decide_eq_true (by kernel_rfl)) k1 bel lt1) (trodAll_cons_mk (Below.trod laidOut (by kernel_rfl) (of_decide_eq_true (by kernel_rfl)) k2 bel lt2) trodAll_mk0))), rfl, bel.frame _, fun h => by cases h⟩
theorem proved : Rows.FrameFreshSaid :=
  OpenClaim.holds_of_wide 5 Try.f5 rfl rfl rfl rfl rfl rfl rfl ⟨rfl, rfl, rfl, rfl, rfl⟩ rfl rfl rfl rfl rfl (by kernel_rfl) Try.func5 (by kernel_rfl)
    (of_decide_eq_true (by kernel_rfl)) (by unfold Func.isWrapper; first | (rw [if_pos (by decide +kernel)]; kernel_rfl) | (rw [if_neg (by decide +kernel)]; exact ⟨rfl, rfl⟩))
    (fun os started H enc _ => lifted os started H enc)
end frameFresh
end Go.Proofs.Ytlcaliggdpiobaa
