/-
  The laws of chapter 7.
-/
import Derived.Test.YtdkigndboblimaaHeadW
import Derived.Test.YtdkigndboblimaaFresh
import Derived.Test.YtdkigndboblimaaFrame
set_option linter.unusedVariables false
namespace Go.Proofs.Ytdkigndboblimaa
open Go Go.Vm

def vc_beltwaylaw07_HeaderMakes (r : Int) (d : Int) (a : Int) (h : Heap) (Q : SV → Heap → Prop) : Prop :=
  ∀ (k1 : Nat) (h1 : Heap), HNew h [.int .i64 r, .int .i64 d, .int .i64 a] 3 k1 h1 → (0 < (18 : Int) ∧ (18 : Int) ≤ 9223372036854775807) ∧ (I64 ((r%(18 : Int)) - 1)) ∧ (0 < (35 : Int) ∧ (35 : Int) ≤ 9223372036854775807) ∧ (I64 ((d%(35 : Int)) - 1)) ∧ (0 < (16386 : Int) ∧ (16386 : Int) ≤ 9223372036854775807) ∧ (I64 ((a%(16386 : Int)) - 1)) ∧ ∀ (k2 : Nat) (h2 : Heap), HNew h1 [.int .i64 ((r%(18 : Int)) - 1), .int .i64 ((d%(35 : Int)) - 1), .int .i64 ((a%(16386 : Int)) - 1)] 3 k2 h2 → ∀ (k3 : Nat) (h3 : Heap), HNew h2 [.sl (some ⟨k1, 0, none⟩) 3 3, .sl (some ⟨k2, 0, none⟩) 3 3] 22 k3 h3 → ∃ (I1 : List SV → Heap → Prop) (μ1 : List SV → Heap → Nat), I1 [.int .i64 0] h3 ∧ ∀ (_ : Nat → SV) (n1 : Int), ∀ (h4 : Heap), I1 [.int .i64 n1] h4 → (n1 < 2 → (Ix (some ⟨k3, 0, none⟩) 2 n1) ∧ ∃ (a1 : Option Addr) (l1 : Nat) (c1 : Nat), HLd h4 (padd (some ⟨k3, 0, none⟩) (n1.toNat * 1)) [.sl a1 l1 c1] ∧ (Ix a1 l1 0) ∧ ∃ (n2 : Int), HLd h4 (padd a1 ((0 : Int).toNat * 1)) [.int .i64 n2] ∧ (Ix a1 l1 1) ∧ ∃ (n3 : Int), HLd h4 (padd a1 ((1 : Int).toNat * 1)) [.int .i64 n3] ∧ (Ix a1 l1 0) ∧ ∃ (n4 : Int), HLd h4 (padd a1 ((0 : Int).toNat * 1)) [.int .i64 n4] ∧ (Ix a1 l1 1) ∧ ∃ (n5 : Int), HLd h4 (padd a1 ((1 : Int).toNat * 1)) [.int .i64 n5] ∧ (Ix a1 l1 2) ∧ ∃ (n6 : Int), HLd h4 (padd a1 ((2 : Int).toNat * 1)) [.int .i64 n6] ∧ (Ix a1 l1 2) ∧ ∃ (n7 : Int), HLd h4 (padd a1 ((2 : Int).toNat * 1)) [.int .i64 n7] ∧ ((¬ (hLive n2 n3) = (hLive n4 n5)) → Q (.bool false) h4) ∧ (¬ (¬ (hLive n2 n3) = (hLive n4 n5)) → ((¬ (hLiveE n2 n3) = (hLiveE n4 n5)) → Q (.bool false) h4) ∧ (¬ (¬ (hLiveE n2 n3) = (hLiveE n4 n5)) → ((¬ (hFwd n6) = (hFwd n7)) → Q (.bool false) h4) ∧ (¬ (¬ (hFwd n6) = (hFwd n7)) → ((¬ (hFwdE n6) = (hFwdE n7)) → Q (.bool false) h4) ∧ (¬ (¬ (hFwdE n6) = (hFwdE n7)) → (I64 (n1 + 1)) ∧ I1 [.int .i64 (n1 + 1)] h4 ∧ μ1 [.int .i64 (n1 + 1)] h4 < μ1 [.int .i64 n1] h4))))) ∧ (¬ (n1 < 2) → Q (.bool true) h4)
def cx_beltwaylaw07_HeaderMakes : Cx := { modes := [], pure := lkp [(7, p_beltwaymake_Mod), (8, p_header_Live), (9, p_beltwayref07_Live), (10, p_header_Forward), (11, p_beltwayref07_Forward), (12, p_beltwaylaw07_awake)], loops := [(0, { live := [(33, .one (.int .i64))], dead := [6, 8, 9, 10, 11, 12, 13, 14, 15, 16, 34, 35, 36, 37, 38, 39, 40, 41, 42, 43, 44, 45, 46, 47, 48, 49, 50, 51, 52, 53, 54, 55, 56, 57, 58, 59, 60, 61, 62, 63, 64, 65, 66, 67, 68, 69, 70, 71, 72, 73, 74, 75, 76, 77, 78, 79, 80, 81, 82, 83, 84, 85, 86, 87, 88, 89] })], tails := [] }
theorem vc_beltwaylaw07_HeaderMakes_eq (r : Int) (d : Int) (a : Int) (h : Heap) (Q : SV → Heap → Prop) : vc_beltwaylaw07_HeaderMakes r d a h Q = vc Try.prog cx_beltwaylaw07_HeaderMakes (Try.f3.body.getD .skip) 1000000 (finQ [6] Q) ([SV.int .i64 r, .int .i64 d, .int .i64 a] ++ List.replicate (91 - ([SV.int .i64 r, .int .i64 d, .int .i64 a]).length) undefV) h := by kernel_rfl
theorem of_beltwaylaw07_HeaderMakes {r : Int} {d : Int} {a : Int} {h : Heap} {Q : SV → Heap → Prop} (H : vc_beltwaylaw07_HeaderMakes r d a h Q) : CallsH Try.prog 3 [.int .i64 r, .int .i64 d, .int .i64 a] h Q :=
  callsH_of_vc (cx := cx_beltwaylaw07_HeaderMakes) (cxOk (TabOk.cons pureOk_beltwaymake_Mod (TabOk.cons pureOk_header_Live (TabOk.cons pureOk_beltwayref07_Live (TabOk.cons pureOk_header_Forward (TabOk.cons pureOk_beltwayref07_Forward (TabOk.cons pureOk_beltwaylaw07_awake TabOk.nil))))))) (n := 91) (rs := [6]) Try.func3 (by kernel_rfl) (by kernel_rfl) Try.ntmps3 (by kernel_rfl) (Eq.mp (vc_beltwaylaw07_HeaderMakes_eq r d a h Q) H)
theorem law_HeaderMakes (r : Int) (hr : I64 r) (d : Int) (hd : I64 d) (a : Int) (ha : I64 a) (h : Heap) :
    CallsH Try.prog 3 [.int .i64 r, .int .i64 d, .int .i64 a] h (fun r h' => r = .bool true ∧ HB h h') := by
  refine of_beltwaylaw07_HeaderMakes ?_
  intro k1 h1 hn1
  refine ⟨by omega, by unfold I64; omega, by omega, by unfold I64; omega, by omega, by unfold I64; omega, ?_⟩
  intro k2 h2 hn2 k3 h3 hn3
  have g1 : HB h h3 := ((HB.new hn1).trans (.new hn2)).trans (.new hn3)
  have q1 := (HRow.new hn1).mono ((HB.new hn2).trans (.new hn3))
  have q2 := (HRow.new hn2).mono (HB.new hn3)
  refine ⟨fun vs g => ∃ i : Int, vs = [.int .i64 i] ∧ 0 ≤ i ∧ i ≤ 2 ∧ HB h3 g, fun vs _ => match vs with | [.int _ i] => (2 - i).toNat | _ => 0, ⟨0, rfl, by omega, by omega, .refl _⟩, ?_⟩
  rintro _ i h4 ⟨_, he, h0, hi, hb⟩
  simp only [List.cons.injEq, SV.int.injEq, true_and, and_true] at he
  subst he
  refine ⟨fun hlt => ⟨ix_new _ _ _ h0 (by omega), ?_⟩, fun _ => ⟨rfl, g1.trans hb⟩⟩
  obtain ⟨b, x, y, z, hx, hp⟩ : ∃ (b : Nat) (x y z : Int), ([.sl (some ⟨k1, 0, none⟩) 3 3, .sl (some ⟨k2, 0, none⟩) 3 3] : List SV)[i.toNat * 1]? = some (.sl (some ⟨b, 0, none⟩) 3 3) ∧ HRow h4 b [.int .i64 x, .int .i64 y, .int .i64 z] := by
    obtain rfl | rfl : i = 0 ∨ i = 1 := by omega
    · exact ⟨_, _, _, _, rfl, q1.mono hb⟩
    · exact ⟨_, _, _, _, rfl, q2.mono hb⟩
  have i0 : Ix (some ⟨b, 0, none⟩) 3 0 := ⟨rfl, by decide, by decide⟩
  have i1 : Ix (some ⟨b, 0, none⟩) 3 1 := ⟨rfl, by decide, by decide⟩
  have i2 : Ix (some ⟨b, 0, none⟩) 3 2 := ⟨rfl, by decide, by decide⟩
  have l0 : HLd h4 (padd (some ⟨b, 0, none⟩) ((0 : Int).toNat * 1)) [.int .i64 x] := hp.ld (i := 0) rfl rfl
  have l1 : HLd h4 (padd (some ⟨b, 0, none⟩) ((1 : Int).toNat * 1)) [.int .i64 y] := hp.ld (i := 1) rfl rfl
  have l2 : HLd h4 (padd (some ⟨b, 0, none⟩) ((2 : Int).toNat * 1)) [.int .i64 z] := hp.ld (i := 2) rfl rfl
  refine ⟨_, _, _, hn3.ld hb hx, i0, _, l0, i1, _, l1, i0, _, l0, i1, _, l1, i2, _, l2, i2, _, l2, fun h => absurd rfl h, fun _ => ⟨fun h => absurd rfl h, fun _ => ⟨fun h => absurd rfl h, fun _ => ⟨fun h => absurd rfl h, fun _ => ⟨by unfold I64; omega, ⟨_, rfl, by omega, by omega, hb⟩, ?_⟩⟩⟩⟩⟩
  show (2 - (i + 1)).toNat < (2 - i).toNat
  omega
namespace headerMakes
open Go.ChangeShapes Go.WideShapes Go.ChangeAt Go.RowKit Go.Vm
set_option linter.unusedVariables false
theorem own : ownKnob Try.prog.godebug = none := by kernel_rfl
theorem laidOut : laidOutB Try.prog = true := by kernel_rfl
set_option maxRecDepth 100000 in
theorem lifted (os : Os) (started : os.Started) (H : Type) (enc : TypeId × Value → H) :
    ReturnsInHanded {} Try.checked os 3 .any (Rows.headerMakesSpec.pre6 enc Try.prog Try.f3 Rows.headerMakesRow.domain false) (Rows.headerMakesSpec.post enc Try.prog Try.f3 false true false false) := by
  refine returnsInHanded_of_change (C := Try.checked) own started (by kernel_rfl) Try.func3
    (ChangeSpec.witness6 (enc := enc) (C := Try.checked) false ⟨#[], #[.int .i64 0, .int .i64 0, .int .i64 0], []⟩ 8 (by kernel_rfl) (by kernel_rfl) (by kernel_rfl) (by kernel_rfl)) ?_
  intro W base args ds gs before hval0 hW hcnd _
  have hval : ∀ (j : Nat) t v, Try.f3.params[j]? = some t → args[j]? = some v → Value.okWide Try.prog W .any base t v := hval0
  have hW' := hW
  obtain ⟨p, q, hA0, hV, rfl, hfz, hnd⟩ := hW
  have hA : DataW.TrodAll enc Try.prog W 0 (fun _ => true) true Try.f3.params.toList args.toList ds p := hA0
  rw [Try.params3] at hA hval
  obtain ⟨v0, vs0, d0, ds0, p0, q0, hargs, rfl, rfl, h0, r0⟩ := trodAll_cons hA
  obtain ⟨v1, vs1, d1, ds1, p1, q1, rfl, rfl, rfl, h1, r1⟩ := trodAll_cons r0
  obtain ⟨v2, vs2, d2, ds2, p2, q2, rfl, rfl, rfl, h2, r2⟩ := trodAll_cons r1
  obtain ⟨rfl, rfl, rfl⟩ := trodAll_nil r2
  obtain rfl : args = #[v0, v1, v2] := by cases args; simp_all
  obtain ⟨rfl, rfl⟩ := trodVars_none hV
  have k0 := h0
  have lt0 : ∀ x ∈ p0, x.block < W.heap.size := by obtain ⟨m, hm⟩ := k0; exact DataW.trod_lt m _ _ _ hm
  obtain ⟨a0, rfl, _, _, w0⟩ := open_int Try.underlying3 (hval 0 3 v0 rfl rfl) h0
  have b0 := i64_of_wf w0
  have k1 := h1
  have lt1 : ∀ x ∈ p1, x.block < W.heap.size := by obtain ⟨m, hm⟩ := k1; exact DataW.trod_lt m _ _ _ hm
  obtain ⟨a1, rfl, _, _, w1⟩ := open_int Try.underlying3 (hval 1 3 v1 rfl rfl) h1
  have b1 := i64_of_wf w1
  have k2 := h2
  have lt2 : ∀ x ∈ p2, x.block < W.heap.size := by obtain ⟨m, hm⟩ := k2; exact DataW.trod_lt m _ _ _ hm
  obtain ⟨a2, rfl, _, _, w2⟩ := open_int Try.underlying3 (hval 2 3 v2 rfl rfl) h2
  have b2 := i64_of_wf w2
  refine (law_calls (f := 3) (vals := #[_, _, _]) (w := W) ?_ (law_HeaderMakes a0 b0 a1 b1 a2 b2 W.heap)).mono fun e W' ⟨he, bel⟩ => ?_
  · rfl
  subst he
  simp only [List.append_nil] at hW'
  exact ⟨_, rfl, _, _, _, [], _, [], hW', trodAll_mk1 (shut_bool Try.underlying4 _), (trodAll_cons_mk (Below.trod laidOut (by kernel_rfl) (of_decide_eq_true (by kernel_rfl)) k0 bel lt0) (trodAll_cons_mk (Below.trod laidOut (by kernel_rfl) (of_decide_eq_true (by kernel_rfl)) k1 bel lt1) (trodAll_cons_mk (Below.trod laidOut (by kernel_rfl) (of_decide_eq_true (by kernel_rfl)) k2 bel lt2) trodAll_mk0))), rfl, bel.frame _, fun h => by cases h⟩
theorem proved : Rows.HeaderMakesSaid :=
  OpenClaim.holds_of_wide 3 Try.f3 rfl rfl rfl rfl rfl rfl rfl ⟨rfl, rfl, rfl, rfl, rfl⟩ rfl rfl rfl rfl rfl (by kernel_rfl) Try.func3 (by kernel_rfl)
    (of_decide_eq_true (by kernel_rfl)) (by unfold Func.isWrapper; first | (rw [if_pos (by decide +kernel)]; kernel_rfl) | (rw [if_neg (by decide +kernel)]; exact ⟨rfl, rfl⟩))
    (fun os started H enc _ => lifted os started H enc)
end headerMakes

def vc_beltwaylaw07_HeaderReads (w : BitVec 64) (r : Int) (d : Int) (k : Int) (h : Heap) (Q : SV → Heap → Prop) : Prop :=
  (0 < (16 : Int) ∧ (16 : Int) ≤ 9223372036854775807) ∧ (0 < (33 : Int) ∧ (33 : Int) ≤ 9223372036854775807) ∧ (0 < (16384 : Int) ∧ (16384 : Int) ≤ 9223372036854775807) ∧ (0 < (64 : Int) ∧ (64 : Int) ≤ 9223372036854775807) ∧ (U64 (k%(64 : Int))) ∧ (0 ≤ (k%(64 : Int))) ∧ (0 < (64 : Int) ∧ (64 : Int) ≤ 9223372036854775807) ∧ (U64 (k%(64 : Int))) ∧ (0 ≤ (k%(64 : Int))) ∧ ∀ (k1 : Nat) (h1 : Heap), HNew h [.u64 w, .u64 (w &&& (65535#64)), .u64 (hLive (r%(16 : Int)) (d%(33 : Int))), .u64 ((hLive (r%(16 : Int)) (d%(33 : Int))) ^^^ ((1#64) <<< (k%(64 : Int)).toNat)), .u64 (hFwd (r%(16384 : Int))), .u64 ((hFwd (r%(16384 : Int))) ^^^ ((1#64) <<< (k%(64 : Int)).toNat)), .u64 (w &&& (262143#64)), .u64 (0#64)] 25 k1 h1 → ∃ (I1 : List SV → Heap → Prop) (μ1 : List SV → Heap → Nat), I1 [.int .i64 0] h1 ∧ ∀ (_ : Nat → SV) (n1 : Int), ∀ (h2 : Heap), I1 [.int .i64 n1] h2 → (n1 < 8 → (Ix (some ⟨k1, 0, none⟩) 8 n1) ∧ ∃ (x1 : BitVec 64), HLd h2 (padd (some ⟨k1, 0, none⟩) (n1.toNat * 1)) [.u64 x1] ∧ ((¬ (hR x1) = (hR x1)) → Q (.bool false) h2) ∧ (¬ (¬ (hR x1) = (hR x1)) → ((¬ (hD x1) = (hD x1)) → Q (.bool false) h2) ∧ (¬ (¬ (hD x1) = (hD x1)) → ((¬ (hA x1) = (hA x1)) → Q (.bool false) h2) ∧ (¬ (¬ (hA x1) = (hA x1)) → ((¬ (hM x1) = (hM x1)) → Q (.bool false) h2) ∧ (¬ (¬ (hM x1) = (hM x1)) → ((¬ (hE x1) = (hE x1)) → Q (.bool false) h2) ∧ (¬ (¬ (hE x1) = (hE x1)) → (I64 (n1 + 1)) ∧ I1 [.int .i64 (n1 + 1)] h2 ∧ μ1 [.int .i64 (n1 + 1)] h2 < μ1 [.int .i64 n1] h2)))))) ∧ (¬ (n1 < 8) → Q (.bool true) h2)
def cx_beltwaylaw07_HeaderReads : Cx := { modes := [], pure := lkp [(7, p_beltwaymake_Mod), (9, p_beltwayref07_Live), (11, p_beltwayref07_Forward), (12, p_beltwaylaw07_awake), (13, p_header_Decode), (14, p_beltwayref07_Decode)], loops := [(0, { live := [(60, .one (.int .i64))], dead := [8, 14, 15, 16, 17, 18, 19, 20, 21, 22, 23, 24, 61, 62, 63, 64, 65, 66, 67, 68, 69, 70, 71, 72, 73, 74, 75, 76, 77, 78, 79, 80, 81, 82, 83, 84, 85, 86, 87, 88, 89, 90, 91, 92, 93, 94, 95, 96, 97, 98, 99, 100, 101, 102, 103] })], tails := [] }
theorem vc_beltwaylaw07_HeaderReads_eq (w : BitVec 64) (r : Int) (d : Int) (k : Int) (h : Heap) (Q : SV → Heap → Prop) : vc_beltwaylaw07_HeaderReads w r d k h Q = vc Try.prog cx_beltwaylaw07_HeaderReads (Try.f5.body.getD .skip) 1000000 (finQ [8] Q) ([SV.u64 w, .int .i64 r, .int .i64 d, .int .i64 k] ++ List.replicate (105 - ([SV.u64 w, .int .i64 r, .int .i64 d, .int .i64 k]).length) undefV) h := by kernel_rfl
theorem of_beltwaylaw07_HeaderReads {w : BitVec 64} {r : Int} {d : Int} {k : Int} {h : Heap} {Q : SV → Heap → Prop} (H : vc_beltwaylaw07_HeaderReads w r d k h Q) : CallsH Try.prog 5 [.u64 w, .int .i64 r, .int .i64 d, .int .i64 k] h Q :=
  callsH_of_vc (cx := cx_beltwaylaw07_HeaderReads) (cxOk (TabOk.cons pureOk_beltwaymake_Mod (TabOk.cons pureOk_beltwayref07_Live (TabOk.cons pureOk_beltwayref07_Forward (TabOk.cons pureOk_beltwaylaw07_awake (TabOk.cons pureOk_header_Decode (TabOk.cons pureOk_beltwayref07_Decode TabOk.nil))))))) (n := 105) (rs := [8]) Try.func5 (by kernel_rfl) (by kernel_rfl) Try.ntmps5 (by kernel_rfl) (Eq.mp (vc_beltwaylaw07_HeaderReads_eq w r d k h Q) H)
theorem law_HeaderReads (w : BitVec 64) (r : Int) (hr : I64 r) (d : Int) (hd : I64 d) (k : Int) (hk : I64 k) (h : Heap) :
    CallsH Try.prog 5 [.u64 w, .int .i64 r, .int .i64 d, .int .i64 k] h (fun r h' => r = .bool true ∧ HB h h') := by
  have hu : U64 (k % 64) := by unfold U64; omega
  have h1 : 0 ≤ k % 64 := by omega
  refine of_beltwaylaw07_HeaderReads ⟨by omega, by omega, by omega, by omega, hu, h1, by omega, hu, h1, ?_⟩
  intro k1 h1 hn
  refine ⟨fun vs g => ∃ i : Int, vs = [.int .i64 i] ∧ 0 ≤ i ∧ i ≤ 8 ∧ HB h1 g, fun vs _ => match vs with | [.int _ i] => (8 - i).toNat | _ => 0, ⟨0, rfl, by omega, by omega, .refl _⟩, ?_⟩
  rintro _ i h2 ⟨_, he, h0, hi, hb⟩
  simp only [List.cons.injEq, SV.int.injEq, true_and, and_true] at he
  subst he
  refine ⟨fun hlt => ⟨ix_new _ _ _ h0 (by omega), ?_⟩, fun _ => ⟨rfl, (HB.new hn).trans hb⟩⟩
  obtain ⟨x, hx⟩ : ∃ x : BitVec 64, ([.u64 w, .u64 (w &&& (65535#64)), .u64 (hLive (r%(16 : Int)) (d%(33 : Int))), .u64 ((hLive (r%(16 : Int)) (d%(33 : Int))) ^^^ ((1#64) <<< (k%(64 : Int)).toNat)), .u64 (hFwd (r%(16384 : Int))), .u64 ((hFwd (r%(16384 : Int))) ^^^ ((1#64) <<< (k%(64 : Int)).toNat)), .u64 (w &&& (262143#64)), .u64 (0#64)] : List SV)[i.toNat * 1]? = some (.u64 x) := by
    obtain rfl | rfl | rfl | rfl | rfl | rfl | rfl | rfl : i = 0 ∨ i = 1 ∨ i = 2 ∨ i = 3 ∨ i = 4 ∨ i = 5 ∨ i = 6 ∨ i = 7 := by omega
    all_goals exact ⟨_, rfl⟩
  refine ⟨_, hn.ld hb hx, fun h => absurd rfl h, fun _ => ⟨fun h => absurd rfl h, fun _ => ⟨fun h => absurd rfl h, fun _ => ⟨fun h => absurd rfl h, fun _ => ⟨fun h => absurd rfl h, fun _ => ⟨by unfold I64; omega, ⟨_, rfl, by omega, by omega, hb⟩, ?_⟩⟩⟩⟩⟩⟩
  show (8 - (i + 1)).toNat < (8 - i).toNat
  omega
namespace headerReads
open Go.ChangeShapes Go.WideShapes Go.ChangeAt Go.RowKit Go.Vm
set_option linter.unusedVariables false
theorem own : ownKnob Try.prog.godebug = none := by kernel_rfl
theorem laidOut : laidOutB Try.prog = true := by kernel_rfl
set_option maxRecDepth 100000 in
theorem lifted (os : Os) (started : os.Started) (H : Type) (enc : TypeId × Value → H) :
    ReturnsInHanded {} Try.checked os 5 .any (Rows.headerReadsSpec.pre6 enc Try.prog Try.f5 Rows.headerReadsRow.domain false) (Rows.headerReadsSpec.post enc Try.prog Try.f5 false true false false) := by
  refine returnsInHanded_of_change (C := Try.checked) own started (by kernel_rfl) Try.func5
    (ChangeSpec.witness6 (enc := enc) (C := Try.checked) false ⟨#[], #[.int .u64 0, .int .i64 0, .int .i64 0, .int .i64 0], []⟩ 8 (by kernel_rfl) (by kernel_rfl) (by kernel_rfl) (by kernel_rfl)) ?_
  intro W base args ds gs before hval0 hW hcnd _
  have hval : ∀ (j : Nat) t v, Try.f5.params[j]? = some t → args[j]? = some v → Value.okWide Try.prog W .any base t v := hval0
  have hW' := hW
  obtain ⟨p, q, hA0, hV, rfl, hfz, hnd⟩ := hW
  have hA : DataW.TrodAll enc Try.prog W 0 (fun _ => true) true Try.f5.params.toList args.toList ds p := hA0
  rw [Try.params5] at hA hval
  obtain ⟨v0, vs0, d0, ds0, p0, q0, hargs, rfl, rfl, h0, r0⟩ := trodAll_cons hA
  obtain ⟨v1, vs1, d1, ds1, p1, q1, rfl, rfl, rfl, h1, r1⟩ := trodAll_cons r0
  obtain ⟨v2, vs2, d2, ds2, p2, q2, rfl, rfl, rfl, h2, r2⟩ := trodAll_cons r1
  obtain ⟨v3, vs3, d3, ds3, p3, q3, rfl, rfl, rfl, h3, r3⟩ := trodAll_cons r2
  obtain ⟨rfl, rfl, rfl⟩ := trodAll_nil r3
  obtain rfl : args = #[v0, v1, v2, v3] := by cases args; simp_all
  obtain ⟨rfl, rfl⟩ := trodVars_none hV
  have k0 := h0
  have lt0 : ∀ x ∈ p0, x.block < W.heap.size := by obtain ⟨m, hm⟩ := k0; exact DataW.trod_lt m _ _ _ hm
  obtain ⟨a0, rfl, _, _, w0⟩ := open_int Try.underlying25 (hval 0 25 v0 rfl rfl) h0
  obtain ⟨x0, rfl⟩ := u64_of_wf w0
  have k1 := h1
  have lt1 : ∀ x ∈ p1, x.block < W.heap.size := by obtain ⟨m, hm⟩ := k1; exact DataW.trod_lt m _ _ _ hm
  obtain ⟨a1, rfl, _, _, w1⟩ := open_int Try.underlying3 (hval 1 3 v1 rfl rfl) h1
  have b1 := i64_of_wf w1
  have k2 := h2
  have lt2 : ∀ x ∈ p2, x.block < W.heap.size := by obtain ⟨m, hm⟩ := k2; exact DataW.trod_lt m _ _ _ hm
  obtain ⟨a2, rfl, _, _, w2⟩ := open_int Try.underlying3 (hval 2 3 v2 rfl rfl) h2
  have b2 := i64_of_wf w2
  have k3 := h3
  have lt3 : ∀ x ∈ p3, x.block < W.heap.size := by obtain ⟨m, hm⟩ := k3; exact DataW.trod_lt m _ _ _ hm
  obtain ⟨a3, rfl, _, _, w3⟩ := open_int Try.underlying3 (hval 3 3 v3 rfl rfl) h3
  have b3 := i64_of_wf w3
  refine (law_calls (f := 5) (vals := #[_, _, _, _]) (w := W) ?_ (law_HeaderReads x0 a1 b1 a2 b2 a3 b3 W.heap)).mono fun e W' ⟨he, bel⟩ => ?_
  · rfl
  subst he
  simp only [List.append_nil] at hW'
  exact ⟨_, rfl, _, _, _, [], _, [], hW', trodAll_mk1 (shut_bool Try.underlying4 _), (trodAll_cons_mk (Below.trod laidOut (by kernel_rfl) (of_decide_eq_true (by kernel_rfl)) k0 bel lt0) (trodAll_cons_mk (Below.trod laidOut (by kernel_rfl) (of_decide_eq_true (by kernel_rfl)) k1 bel lt1) (trodAll_cons_mk (Below.trod laidOut (by kernel_rfl) (of_decide_eq_true (by kernel_rfl)) k2 bel lt2) (trodAll_cons_mk (Below.trod laidOut (by kernel_rfl) (of_decide_eq_true (by kernel_rfl)) k3 bel lt3) trodAll_mk0)))), rfl, bel.frame _, fun h => by cases h⟩
theorem proved : Rows.HeaderReadsSaid :=
  OpenClaim.holds_of_wide 5 Try.f5 rfl rfl rfl rfl rfl rfl rfl ⟨rfl, rfl, rfl, rfl, rfl⟩ rfl rfl rfl rfl rfl (by kernel_rfl) Try.func5 (by kernel_rfl)
    (of_decide_eq_true (by kernel_rfl)) (by unfold Func.isWrapper; first | (rw [if_pos (by decide +kernel)]; kernel_rfl) | (rw [if_neg (by decide +kernel)]; exact ⟨rfl, rfl⟩))
    (fun os started H enc _ => lifted os started H enc)
end headerReads

def vc_beltwaylaw07_HeaderBack (w : BitVec 64) (r : Int) (d : Int) (a : Int) (h : Heap) (Q : SV → Heap → Prop) : Prop :=
  (0 < (16 : Int) ∧ (16 : Int) ≤ 9223372036854775807) ∧ (0 < (33 : Int) ∧ (33 : Int) ≤ 9223372036854775807) ∧ (0 < (16384 : Int) ∧ (16384 : Int) ≤ 9223372036854775807) ∧ ((¬ (hLiveE (r%(16 : Int)) (d%(33 : Int))) = 0) → Q (.bool false) h) ∧ (¬ (¬ (hLiveE (r%(16 : Int)) (d%(33 : Int))) = 0) → ((¬ (hE (hLive (r%(16 : Int)) (d%(33 : Int)))) = 0) → Q (.bool false) h) ∧ (¬ (¬ (hE (hLive (r%(16 : Int)) (d%(33 : Int)))) = 0) → ((¬ (hFwdE (a%(16384 : Int))) = 0) → Q (.bool false) h) ∧ (¬ (¬ (hFwdE (a%(16384 : Int))) = 0) → ((¬ (hE (hFwd (a%(16384 : Int)))) = 0) → Q (.bool false) h) ∧ (¬ (¬ (hE (hFwd (a%(16384 : Int)))) = 0) → ((¬ (hR (hLive (r%(16 : Int)) (d%(33 : Int)))) = (r%(16 : Int))) → Q (.bool false) h) ∧ (¬ (¬ (hR (hLive (r%(16 : Int)) (d%(33 : Int)))) = (r%(16 : Int))) → ((¬ (hD (hLive (r%(16 : Int)) (d%(33 : Int)))) = (d%(33 : Int))) → Q (.bool false) h) ∧ (¬ (¬ (hD (hLive (r%(16 : Int)) (d%(33 : Int)))) = (d%(33 : Int))) → ((hM (hLive (r%(16 : Int)) (d%(33 : Int)))) = true → Q (.bool false) h) ∧ ((hM (hLive (r%(16 : Int)) (d%(33 : Int)))) = false → ((¬ (hA (hFwd (a%(16384 : Int)))) = (a%(16384 : Int))) → Q (.bool false) h) ∧ (¬ (¬ (hA (hFwd (a%(16384 : Int)))) = (a%(16384 : Int))) → ((!(hM (hFwd (a%(16384 : Int))))) = true → Q (.bool false) h) ∧ ((!(hM (hFwd (a%(16384 : Int))))) = false → ∀ (k1 : Nat) (h1 : Heap), HNew h [.u64 w, .u64 (w &&& (65535#64)), .u64 (w &&& (4095#64))] 25 k1 h1 → ∃ (I1 : List SV → Heap → Prop) (μ1 : List SV → Heap → Nat), I1 [.int .i64 0] h1 ∧ ∀ (_ : Nat → SV) (n1 : Int), ∀ (h2 : Heap), I1 [.int .i64 n1] h2 → (n1 < 3 → (Ix (some ⟨k1, 0, none⟩) 3 n1) ∧ ∃ (x1 : BitVec 64), HLd h2 (padd (some ⟨k1, 0, none⟩) (n1.toNat * 1)) [.u64 x1] ∧ ((¬ (hE x1) = 0) → (I64 (n1 + 1)) ∧ I1 [.int .i64 (n1 + 1)] h2 ∧ μ1 [.int .i64 (n1 + 1)] h2 < μ1 [.int .i64 n1] h2) ∧ (¬ (¬ (hE x1) = 0) → ((hM x1) = true → ((¬ (hFwdE (hA x1)) = 0) → Q (.bool false) h2) ∧ (¬ (¬ (hFwdE (hA x1)) = 0) → ((¬ (hFwd (hA x1)) = x1) → Q (.bool false) h2) ∧ (¬ (¬ (hFwd (hA x1)) = x1) → (I64 (n1 + 1)) ∧ I1 [.int .i64 (n1 + 1)] h2 ∧ μ1 [.int .i64 (n1 + 1)] h2 < μ1 [.int .i64 n1] h2))) ∧ ((hM x1) = false → ((¬ (hLiveE (hR x1) (hD x1)) = 0) → Q (.bool false) h2) ∧ (¬ (¬ (hLiveE (hR x1) (hD x1)) = 0) → ((¬ (hLive (hR x1) (hD x1)) = x1) → Q (.bool false) h2) ∧ (¬ (¬ (hLive (hR x1) (hD x1)) = x1) → (I64 (n1 + 1)) ∧ I1 [.int .i64 (n1 + 1)] h2 ∧ μ1 [.int .i64 (n1 + 1)] h2 < μ1 [.int .i64 n1] h2))))) ∧ (¬ (n1 < 3) → Q (.bool true) h2))))))))))
def cx_beltwaylaw07_HeaderBack : Cx := { modes := [], pure := lkp [(7, p_beltwaymake_Mod), (8, p_header_Live), (10, p_header_Forward), (13, p_header_Decode)], loops := [(0, { live := [(111, .one (.int .i64))], dead := [8, 27, 28, 29, 30, 31, 32, 33, 34, 112, 113, 114, 115, 116, 117, 118, 119, 120, 121, 122, 123, 124, 125, 126, 127, 128, 129, 130, 131, 132, 133, 134, 135, 136, 137, 138, 139, 140, 141, 142, 143, 144] })], tails := [] }
theorem vc_beltwaylaw07_HeaderBack_eq (w : BitVec 64) (r : Int) (d : Int) (a : Int) (h : Heap) (Q : SV → Heap → Prop) : vc_beltwaylaw07_HeaderBack w r d a h Q = vc Try.prog cx_beltwaylaw07_HeaderBack (Try.f6.body.getD .skip) 1000000 (finQ [8] Q) ([SV.u64 w, .int .i64 r, .int .i64 d, .int .i64 a] ++ List.replicate (145 - ([SV.u64 w, .int .i64 r, .int .i64 d, .int .i64 a]).length) undefV) h := by kernel_rfl
theorem of_beltwaylaw07_HeaderBack {w : BitVec 64} {r : Int} {d : Int} {a : Int} {h : Heap} {Q : SV → Heap → Prop} (H : vc_beltwaylaw07_HeaderBack w r d a h Q) : CallsH Try.prog 6 [.u64 w, .int .i64 r, .int .i64 d, .int .i64 a] h Q :=
  callsH_of_vc (cx := cx_beltwaylaw07_HeaderBack) (cxOk (TabOk.cons pureOk_beltwaymake_Mod (TabOk.cons pureOk_header_Live (TabOk.cons pureOk_header_Forward (TabOk.cons pureOk_header_Decode TabOk.nil))))) (n := 145) (rs := [8]) Try.func6 (by kernel_rfl) (by kernel_rfl) Try.ntmps6 (by kernel_rfl) (Eq.mp (vc_beltwaylaw07_HeaderBack_eq w r d a h Q) H)
theorem law_HeaderBack (w : BitVec 64) (r : Int) (hr : I64 r) (d : Int) (hd : I64 d) (a : Int) (ha : I64 a) (h : Heap) :
    CallsH Try.prog 6 [.u64 w, .int .i64 r, .int .i64 d, .int .i64 a] h (fun r h' => r = .bool true ∧ HB h h') := by
  have p1 : 0 ≤ r % 16 ∧ r % 16 ≤ 15 := by omega
  have p2 : 0 ≤ d % 33 ∧ d % 33 ≤ 32 := by omega
  have p3 : 0 ≤ a % 16384 ∧ a % 16384 < 16384 := by omega
  refine of_beltwaylaw07_HeaderBack ?_
  unfold vc_beltwaylaw07_HeaderBack
  generalize r % 16 = p at *
  generalize d % 33 = q at *
  generalize a % 16384 = t at *
  obtain ⟨k1, r1, d1⟩ := hRead_live p1.1 p1.2 p2.1 p2.2
  obtain ⟨k2, a2⟩ := hRead_fwd p3.1 p3.2
  have e1 : hLiveE p q = 0 := by unfold hLiveE; rw [if_neg (by omega)]
  have e2 : hE (hLive p q) = 0 := by unfold hE; rw [if_neg (by omega)]
  have e3 : hFwdE t = 0 := by unfold hFwdE; rw [if_neg (by omega)]
  have e4 : hE (hFwd t) = 0 := by unfold hE; rw [if_neg (by omega)]
  have m1 : hM (hLive p q) = false := by unfold hM; rw [decide_eq_false_iff_not]; omega
  have m2 : hM (hFwd t) = true := by unfold hM; rw [decide_eq_true_iff]; omega
  refine ⟨by omega, by omega, by omega, fun h => absurd e1 h, fun _ => ⟨fun h => absurd e2 h, fun _ => ⟨fun h => absurd e3 h, fun _ => ⟨fun h => absurd e4 h, fun _ => ⟨fun h => absurd r1 h, fun _ => ⟨fun h => absurd d1 h, fun _ => ⟨fun h => ?_, fun _ => ⟨fun h => absurd a2 h, fun _ => ⟨fun h => ?_, fun _ => ?_⟩⟩⟩⟩⟩⟩⟩⟩⟩
  · rw [m1] at h; cases h
  · rw [m2] at h; cases h
  intro k1 h1 hn
  refine ⟨fun vs g => ∃ i : Int, vs = [.int .i64 i] ∧ 0 ≤ i ∧ i ≤ 3 ∧ HB h1 g, fun vs _ => match vs with | [.int _ i] => (3 - i).toNat | _ => 0, ⟨0, rfl, by omega, by omega, .refl _⟩, ?_⟩
  rintro _ i h2 ⟨_, he, h0, hi, hb⟩
  simp only [List.cons.injEq, SV.int.injEq, true_and, and_true] at he
  subst he
  refine ⟨fun hlt => ⟨ix_new _ _ _ h0 (by omega), ?_⟩, fun _ => ⟨rfl, (HB.new hn).trans hb⟩⟩
  obtain ⟨x, hx⟩ : ∃ x : BitVec 64, ([.u64 w, .u64 (w &&& (65535#64)), .u64 (w &&& (4095#64))] : List SV)[i.toNat * 1]? = some (.u64 x) := by
    obtain rfl | rfl | rfl : i = 0 ∨ i = 1 ∨ i = 2 := by omega
    all_goals exact ⟨_, rfl⟩
  have go : I64 (i + 1) ∧ (∃ j : Int, [SV.int .i64 (i + 1)] = [.int .i64 j] ∧ 0 ≤ j ∧ j ≤ 3 ∧ HB h1 h2) ∧ (3 - (i + 1)).toNat < (3 - i).toNat := ⟨by unfold I64; omega, ⟨_, rfl, by omega, by omega, hb⟩, by omega⟩
  refine ⟨x, hn.ld hb hx, fun _ => go, fun hx0 => ?_⟩
  have hx0 : hE x = 0 := Decidable.of_not_not hx0
  obtain ⟨f1, f2⟩ := hBack x hx0
  refine ⟨fun hm => ?_, fun hm => ?_⟩
  · rw [hm] at f1 f2
    exact ⟨fun h => absurd f2 h, fun _ => ⟨fun h => absurd f1 h, fun _ => go⟩⟩
  · rw [hm] at f1 f2
    exact ⟨fun h => absurd f2 h, fun _ => ⟨fun h => absurd f1 h, fun _ => go⟩⟩
namespace headerBack
open Go.ChangeShapes Go.WideShapes Go.ChangeAt Go.RowKit Go.Vm
set_option linter.unusedVariables false
theorem own : ownKnob Try.prog.godebug = none := by kernel_rfl
theorem laidOut : laidOutB Try.prog = true := by kernel_rfl
set_option maxRecDepth 100000 in
theorem lifted (os : Os) (started : os.Started) (H : Type) (enc : TypeId × Value → H) :
    ReturnsInHanded {} Try.checked os 6 .any (Rows.headerBackSpec.pre6 enc Try.prog Try.f6 Rows.headerBackRow.domain false) (Rows.headerBackSpec.post enc Try.prog Try.f6 false true false false) := by
  refine returnsInHanded_of_change (C := Try.checked) own started (by kernel_rfl) Try.func6
    (ChangeSpec.witness6 (enc := enc) (C := Try.checked) false ⟨#[], #[.int .u64 0, .int .i64 0, .int .i64 0, .int .i64 0], []⟩ 8 (by kernel_rfl) (by kernel_rfl) (by kernel_rfl) (by kernel_rfl)) ?_
  intro W base args ds gs before hval0 hW hcnd _
  have hval : ∀ (j : Nat) t v, Try.f6.params[j]? = some t → args[j]? = some v → Value.okWide Try.prog W .any base t v := hval0
  have hW' := hW
  obtain ⟨p, q, hA0, hV, rfl, hfz, hnd⟩ := hW
  have hA : DataW.TrodAll enc Try.prog W 0 (fun _ => true) true Try.f6.params.toList args.toList ds p := hA0
  rw [Try.params6] at hA hval
  obtain ⟨v0, vs0, d0, ds0, p0, q0, hargs, rfl, rfl, h0, r0⟩ := trodAll_cons hA
  obtain ⟨v1, vs1, d1, ds1, p1, q1, rfl, rfl, rfl, h1, r1⟩ := trodAll_cons r0
  obtain ⟨v2, vs2, d2, ds2, p2, q2, rfl, rfl, rfl, h2, r2⟩ := trodAll_cons r1
  obtain ⟨v3, vs3, d3, ds3, p3, q3, rfl, rfl, rfl, h3, r3⟩ := trodAll_cons r2
  obtain ⟨rfl, rfl, rfl⟩ := trodAll_nil r3
  obtain rfl : args = #[v0, v1, v2, v3] := by cases args; simp_all
  obtain ⟨rfl, rfl⟩ := trodVars_none hV
  have k0 := h0
  have lt0 : ∀ x ∈ p0, x.block < W.heap.size := by obtain ⟨m, hm⟩ := k0; exact DataW.trod_lt m _ _ _ hm
  obtain ⟨a0, rfl, _, _, w0⟩ := open_int Try.underlying25 (hval 0 25 v0 rfl rfl) h0
  obtain ⟨x0, rfl⟩ := u64_of_wf w0
  have k1 := h1
  have lt1 : ∀ x ∈ p1, x.block < W.heap.size := by obtain ⟨m, hm⟩ := k1; exact DataW.trod_lt m _ _ _ hm
  obtain ⟨a1, rfl, _, _, w1⟩ := open_int Try.underlying3 (hval 1 3 v1 rfl rfl) h1
  have b1 := i64_of_wf w1
  have k2 := h2
  have lt2 : ∀ x ∈ p2, x.block < W.heap.size := by obtain ⟨m, hm⟩ := k2; exact DataW.trod_lt m _ _ _ hm
  obtain ⟨a2, rfl, _, _, w2⟩ := open_int Try.underlying3 (hval 2 3 v2 rfl rfl) h2
  have b2 := i64_of_wf w2
  have k3 := h3
  have lt3 : ∀ x ∈ p3, x.block < W.heap.size := by obtain ⟨m, hm⟩ := k3; exact DataW.trod_lt m _ _ _ hm
  obtain ⟨a3, rfl, _, _, w3⟩ := open_int Try.underlying3 (hval 3 3 v3 rfl rfl) h3
  have b3 := i64_of_wf w3
  refine (law_calls (f := 6) (vals := #[_, _, _, _]) (w := W) ?_ (law_HeaderBack x0 a1 b1 a2 b2 a3 b3 W.heap)).mono fun e W' ⟨he, bel⟩ => ?_
  · rfl
  subst he
  simp only [List.append_nil] at hW'
  exact ⟨_, rfl, _, _, _, [], _, [], hW', trodAll_mk1 (shut_bool Try.underlying4 _), (trodAll_cons_mk (Below.trod laidOut (by kernel_rfl) (of_decide_eq_true (by kernel_rfl)) k0 bel lt0) (trodAll_cons_mk (Below.trod laidOut (by kernel_rfl) (of_decide_eq_true (by kernel_rfl)) k1 bel lt1) (trodAll_cons_mk (Below.trod laidOut (by kernel_rfl) (of_decide_eq_true (by kernel_rfl)) k2 bel lt2) (trodAll_cons_mk (Below.trod laidOut (by kernel_rfl) (of_decide_eq_true (by kernel_rfl)) k3 bel lt3) trodAll_mk0)))), rfl, bel.frame _, fun h => by cases h⟩
theorem proved : Rows.HeaderBackSaid :=
  OpenClaim.holds_of_wide 6 Try.f6 rfl rfl rfl rfl rfl rfl rfl ⟨rfl, rfl, rfl, rfl, rfl⟩ rfl rfl rfl rfl rfl (by kernel_rfl) Try.func6 (by kernel_rfl)
    (of_decide_eq_true (by kernel_rfl)) (by unfold Func.isWrapper; first | (rw [if_pos (by decide +kernel)]; kernel_rfl) | (rw [if_neg (by decide +kernel)]; exact ⟨rfl, rfl⟩))
    (fun os started H enc _ => lifted os started H enc)
end headerBack

def vc_beltwaylaw07_HeaderApart (a : Int) (b : Int) (c : Int) (d : Int) (x : Int) (y : Int) (h : Heap) (Q : SV → Heap → Prop) : Prop :=
  (0 < (16 : Int) ∧ (16 : Int) ≤ 9223372036854775807) ∧ (0 < (33 : Int) ∧ (33 : Int) ≤ 9223372036854775807) ∧ (0 < (16 : Int) ∧ (16 : Int) ≤ 9223372036854775807) ∧ (0 < (33 : Int) ∧ (33 : Int) ≤ 9223372036854775807) ∧ (0 < (16384 : Int) ∧ (16384 : Int) ≤ 9223372036854775807) ∧ (0 < (16384 : Int) ∧ (16384 : Int) ≤ 9223372036854775807) ∧ ((hLiveE (a%(16 : Int)) (b%(33 : Int))) = 0 → ((hLiveE (c%(16 : Int)) (d%(33 : Int))) = 0 → ((hFwdE (x%(16384 : Int))) = 0 → ((hFwdE (y%(16384 : Int))) = 0 → ((a%(16 : Int)) = (c%(16 : Int)) → ((decide ((hLive (a%(16 : Int)) (b%(33 : Int))) = (hLive (c%(16 : Int)) (d%(33 : Int))))) = (decide ((b%(33 : Int)) = (d%(33 : Int)))) → ((decide ((hFwd (x%(16384 : Int))) = (hFwd (y%(16384 : Int))))) = (decide ((x%(16384 : Int)) = (y%(16384 : Int)))) → ((¬ (hLive (a%(16 : Int)) (b%(33 : Int))) = (hFwd (x%(16384 : Int)))) → ((¬ (hLive (a%(16 : Int)) (b%(33 : Int))) = (0#64)) → ((¬ (hFwd (x%(16384 : Int))) = (0#64)) → Q (.bool true) h) ∧ (¬ (¬ (hFwd (x%(16384 : Int))) = (0#64)) → Q (.bool false) h)) ∧ (¬ (¬ (hLive (a%(16 : Int)) (b%(33 : Int))) = (0#64)) → Q (.bool false) h)) ∧ (¬ (¬ (hLive (a%(16 : Int)) (b%(33 : Int))) = (hFwd (x%(16384 : Int)))) → Q (.bool false) h)) ∧ (¬ ((decide ((hFwd (x%(16384 : Int))) = (hFwd (y%(16384 : Int))))) = (decide ((x%(16384 : Int)) = (y%(16384 : Int))))) → Q (.bool false) h)) ∧ (¬ ((decide ((hLive (a%(16 : Int)) (b%(33 : Int))) = (hLive (c%(16 : Int)) (d%(33 : Int))))) = (decide ((b%(33 : Int)) = (d%(33 : Int))))) → Q (.bool false) h)) ∧ (¬ ((a%(16 : Int)) = (c%(16 : Int))) → ((decide ((hLive (a%(16 : Int)) (b%(33 : Int))) = (hLive (c%(16 : Int)) (d%(33 : Int))))) = false → ((decide ((hFwd (x%(16384 : Int))) = (hFwd (y%(16384 : Int))))) = (decide ((x%(16384 : Int)) = (y%(16384 : Int)))) → ((¬ (hLive (a%(16 : Int)) (b%(33 : Int))) = (hFwd (x%(16384 : Int)))) → ((¬ (hLive (a%(16 : Int)) (b%(33 : Int))) = (0#64)) → ((¬ (hFwd (x%(16384 : Int))) = (0#64)) → Q (.bool true) h) ∧ (¬ (¬ (hFwd (x%(16384 : Int))) = (0#64)) → Q (.bool false) h)) ∧ (¬ (¬ (hLive (a%(16 : Int)) (b%(33 : Int))) = (0#64)) → Q (.bool false) h)) ∧ (¬ (¬ (hLive (a%(16 : Int)) (b%(33 : Int))) = (hFwd (x%(16384 : Int)))) → Q (.bool false) h)) ∧ (¬ ((decide ((hFwd (x%(16384 : Int))) = (hFwd (y%(16384 : Int))))) = (decide ((x%(16384 : Int)) = (y%(16384 : Int))))) → Q (.bool false) h)) ∧ (¬ ((decide ((hLive (a%(16 : Int)) (b%(33 : Int))) = (hLive (c%(16 : Int)) (d%(33 : Int))))) = false) → Q (.bool false) h))) ∧ (¬ ((hFwdE (y%(16384 : Int))) = 0) → Q (.bool false) h)) ∧ (¬ ((hFwdE (x%(16384 : Int))) = 0) → Q (.bool false) h)) ∧ (¬ ((hLiveE (c%(16 : Int)) (d%(33 : Int))) = 0) → Q (.bool false) h)) ∧ (¬ ((hLiveE (a%(16 : Int)) (b%(33 : Int))) = 0) → Q (.bool false) h)
def cx_beltwaylaw07_HeaderApart : Cx := { modes := [], pure := lkp [(7, p_beltwaymake_Mod), (8, p_header_Live), (10, p_header_Forward), (12, p_beltwaylaw07_awake)], loops := [], tails := [] }
theorem vc_beltwaylaw07_HeaderApart_eq (a : Int) (b : Int) (c : Int) (d : Int) (x : Int) (y : Int) (h : Heap) (Q : SV → Heap → Prop) : vc_beltwaylaw07_HeaderApart a b c d x y h Q = vc Try.prog cx_beltwaylaw07_HeaderApart (Try.f4.body.getD .skip) 1000000 (finQ [12] Q) ([SV.int .i64 a, .int .i64 b, .int .i64 c, .int .i64 d, .int .i64 x, .int .i64 y] ++ List.replicate (114 - ([SV.int .i64 a, .int .i64 b, .int .i64 c, .int .i64 d, .int .i64 x, .int .i64 y]).length) undefV) h := by kernel_rfl
theorem of_beltwaylaw07_HeaderApart {a : Int} {b : Int} {c : Int} {d : Int} {x : Int} {y : Int} {h : Heap} {Q : SV → Heap → Prop} (H : vc_beltwaylaw07_HeaderApart a b c d x y h Q) : CallsH Try.prog 4 [.int .i64 a, .int .i64 b, .int .i64 c, .int .i64 d, .int .i64 x, .int .i64 y] h Q :=
  callsH_of_vc (cx := cx_beltwaylaw07_HeaderApart) (cxOk (TabOk.cons pureOk_beltwaymake_Mod (TabOk.cons pureOk_header_Live (TabOk.cons pureOk_header_Forward (TabOk.cons pureOk_beltwaylaw07_awake TabOk.nil))))) (n := 114) (rs := [12]) Try.func4 (by kernel_rfl) (by kernel_rfl) Try.ntmps4 (by kernel_rfl) (Eq.mp (vc_beltwaylaw07_HeaderApart_eq a b c d x y h Q) H)
theorem law_HeaderApart (a : Int) (_ : I64 a) (b : Int) (_ : I64 b) (c : Int) (_ : I64 c) (d : Int) (_ : I64 d) (x : Int) (_ : I64 x) (y : Int) (_ : I64 y) (h : Heap) :
    CallsH Try.prog 4 [.int .i64 a, .int .i64 b, .int .i64 c, .int .i64 d, .int .i64 x, .int .i64 y] h (fun r h' => r = .bool true ∧ HB h h') := by
  have p1 : 0 ≤ a % 16 ∧ a % 16 ≤ 15 := by omega
  have p2 : 0 ≤ b % 33 ∧ b % 33 ≤ 32 := by omega
  have p3 : 0 ≤ c % 16 ∧ c % 16 ≤ 15 := by omega
  have p4 : 0 ≤ d % 33 ∧ d % 33 ≤ 32 := by omega
  have p5 : 0 ≤ x % 16384 ∧ x % 16384 < 16384 := by omega
  have p6 : 0 ≤ y % 16384 ∧ y % 16384 < 16384 := by omega
  refine of_beltwaylaw07_HeaderApart ?_
  unfold vc_beltwaylaw07_HeaderApart
  generalize a % 16 = p at *
  generalize b % 33 = q at *
  generalize c % 16 = r at *
  generalize d % 33 = s at *
  generalize x % 16384 = t at *
  generalize y % 16384 = u at *
  have e1 : hLiveE p q = 0 := by unfold hLiveE; rw [if_neg (by omega)]
  have e2 : hLiveE r s = 0 := by unfold hLiveE; rw [if_neg (by omega)]
  have e3 : hFwdE t = 0 := by unfold hFwdE; rw [if_neg (by omega)]
  have e4 : hFwdE u = 0 := by unfold hFwdE; rw [if_neg (by omega)]
  have n1 := hLive_nat p1.1 p1.2 p2.1 p2.2
  have n2 := hLive_nat p3.1 p3.2 p4.1 p4.2
  have n3 := hFwd_nat p5.1 p5.2
  have n4 := hFwd_nat p6.1 p6.2
  have z : (0#64).toNat = 0 := rfl
  have f1 : p = r → (hLive p q = hLive r s ↔ q = s) := by
    rintro rfl
    refine ⟨fun h => ?_, fun h => by rw [h]⟩
    have := congrArg BitVec.toNat h
    omega
  have f2 : ¬ p = r → ¬ hLive p q = hLive r s := by
    intro hne h
    have := congrArg BitVec.toNat h
    omega
  have f3 : hFwd t = hFwd u ↔ t = u := by
    refine ⟨fun h => ?_, fun h => by rw [h]⟩
    have := congrArg BitVec.toNat h
    omega
  have f4 : ¬ hLive p q = hFwd t := by
    intro h
    have := congrArg BitVec.toNat h
    omega
  have f5 : ¬ hLive p q = 0#64 := by
    intro h
    have := congrArg BitVec.toNat h
    omega
  have f6 : ¬ hFwd t = 0#64 := by
    intro h
    have := congrArg BitVec.toNat h
    omega
  have g3 : decide (hFwd t = hFwd u) = decide (t = u) := by rw [Bool.eq_iff_iff, decide_eq_true_iff, decide_eq_true_iff, f3]
  refine ⟨by omega, by omega, by omega, by omega, by omega, by omega, fun _ => ⟨fun _ => ⟨fun _ => ⟨fun _ => ⟨fun hpr => ?_, fun hpr => ?_⟩, fun h => absurd e4 h⟩, fun h => absurd e3 h⟩, fun h => absurd e2 h⟩, fun h => absurd e1 h⟩
  · have g1 : decide (hLive p q = hLive r s) = decide (q = s) := by rw [Bool.eq_iff_iff, decide_eq_true_iff, decide_eq_true_iff, f1 hpr]
    exact ⟨fun _ => ⟨fun _ => ⟨fun _ => ⟨fun _ => ⟨fun _ => ⟨rfl, .refl _⟩, fun h => absurd f6 h⟩, fun h => absurd f5 h⟩, fun h => absurd f4 h⟩, fun h => absurd g3 h⟩, fun h => absurd g1 h⟩
  · have g1 : decide (hLive p q = hLive r s) = false := by rw [decide_eq_false_iff_not]; exact f2 hpr
    exact ⟨fun _ => ⟨fun _ => ⟨fun _ => ⟨fun _ => ⟨fun _ => ⟨rfl, .refl _⟩, fun h => absurd f6 h⟩, fun h => absurd f5 h⟩, fun h => absurd f4 h⟩, fun h => absurd g3 h⟩, fun h => absurd g1 h⟩
namespace headerApart
open Go.ChangeShapes Go.WideShapes Go.ChangeAt Go.RowKit Go.Vm
set_option linter.unusedVariables false
theorem own : ownKnob Try.prog.godebug = none := by kernel_rfl
theorem laidOut : laidOutB Try.prog = true := by kernel_rfl
set_option maxRecDepth 100000 in
theorem lifted (os : Os) (started : os.Started) (H : Type) (enc : TypeId × Value → H) :
    ReturnsInHanded {} Try.checked os 4 .any (Rows.headerApartSpec.pre6 enc Try.prog Try.f4 Rows.headerApartRow.domain false) (Rows.headerApartSpec.post enc Try.prog Try.f4 false true false false) := by
  refine returnsInHanded_of_change (C := Try.checked) own started (by kernel_rfl) Try.func4
    (ChangeSpec.witness6 (enc := enc) (C := Try.checked) false ⟨#[], #[.int .i64 0, .int .i64 0, .int .i64 0, .int .i64 0, .int .i64 0, .int .i64 0], []⟩ 8 (by kernel_rfl) (by kernel_rfl) (by kernel_rfl) (by kernel_rfl)) ?_
  intro W base args ds gs before hval0 hW hcnd _
  have hval : ∀ (j : Nat) t v, Try.f4.params[j]? = some t → args[j]? = some v → Value.okWide Try.prog W .any base t v := hval0
  have hW' := hW
  obtain ⟨p, q, hA0, hV, rfl, hfz, hnd⟩ := hW
  have hA : DataW.TrodAll enc Try.prog W 0 (fun _ => true) true Try.f4.params.toList args.toList ds p := hA0
  rw [Try.params4] at hA hval
  obtain ⟨v0, vs0, d0, ds0, p0, q0, hargs, rfl, rfl, h0, r0⟩ := trodAll_cons hA
  obtain ⟨v1, vs1, d1, ds1, p1, q1, rfl, rfl, rfl, h1, r1⟩ := trodAll_cons r0
  obtain ⟨v2, vs2, d2, ds2, p2, q2, rfl, rfl, rfl, h2, r2⟩ := trodAll_cons r1
  obtain ⟨v3, vs3, d3, ds3, p3, q3, rfl, rfl, rfl, h3, r3⟩ := trodAll_cons r2
  obtain ⟨v4, vs4, d4, ds4, p4, q4, rfl, rfl, rfl, h4, r4⟩ := trodAll_cons r3
  obtain ⟨v5, vs5, d5, ds5, p5, q5, rfl, rfl, rfl, h5, r5⟩ := trodAll_cons r4
  obtain ⟨rfl, rfl, rfl⟩ := trodAll_nil r5
  obtain rfl : args = #[v0, v1, v2, v3, v4, v5] := by cases args; simp_all
  obtain ⟨rfl, rfl⟩ := trodVars_none hV
  have k0 := h0
  have lt0 : ∀ x ∈ p0, x.block < W.heap.size := by obtain ⟨m, hm⟩ := k0; exact DataW.trod_lt m _ _ _ hm
  obtain ⟨a0, rfl, _, _, w0⟩ := open_int Try.underlying3 (hval 0 3 v0 rfl rfl) h0
  have b0 := i64_of_wf w0
  have k1 := h1
  have lt1 : ∀ x ∈ p1, x.block < W.heap.size := by obtain ⟨m, hm⟩ := k1; exact DataW.trod_lt m _ _ _ hm
  obtain ⟨a1, rfl, _, _, w1⟩ := open_int Try.underlying3 (hval 1 3 v1 rfl rfl) h1
  have b1 := i64_of_wf w1
  have k2 := h2
  have lt2 : ∀ x ∈ p2, x.block < W.heap.size := by obtain ⟨m, hm⟩ := k2; exact DataW.trod_lt m _ _ _ hm
  obtain ⟨a2, rfl, _, _, w2⟩ := open_int Try.underlying3 (hval 2 3 v2 rfl rfl) h2
  have b2 := i64_of_wf w2
  have k3 := h3
  have lt3 : ∀ x ∈ p3, x.block < W.heap.size := by obtain ⟨m, hm⟩ := k3; exact DataW.trod_lt m _ _ _ hm
  obtain ⟨a3, rfl, _, _, w3⟩ := open_int Try.underlying3 (hval 3 3 v3 rfl rfl) h3
  have b3 := i64_of_wf w3
  have k4 := h4
  have lt4 : ∀ x ∈ p4, x.block < W.heap.size := by obtain ⟨m, hm⟩ := k4; exact DataW.trod_lt m _ _ _ hm
  obtain ⟨a4, rfl, _, _, w4⟩ := open_int Try.underlying3 (hval 4 3 v4 rfl rfl) h4
  have b4 := i64_of_wf w4
  have k5 := h5
  have lt5 : ∀ x ∈ p5, x.block < W.heap.size := by obtain ⟨m, hm⟩ := k5; exact DataW.trod_lt m _ _ _ hm
  obtain ⟨a5, rfl, _, _, w5⟩ := open_int Try.underlying3 (hval 5 3 v5 rfl rfl) h5
  have b5 := i64_of_wf w5
  refine (law_calls (f := 4) (vals := #[_, _, _, _, _, _]) (w := W) ?_ (law_HeaderApart a0 b0 a1 b1 a2 b2 a3 b3 a4 b4 a5 b5 W.heap)).mono fun e W' ⟨he, bel⟩ => ?_
  · rfl
  subst he
  simp only [List.append_nil] at hW'
  exact ⟨_, rfl, _, _, _, [], _, [], hW', trodAll_mk1 (shut_bool Try.underlying4 _), (trodAll_cons_mk (Below.trod laidOut (by kernel_rfl) (of_decide_eq_true (by kernel_rfl)) k0 bel lt0) (trodAll_cons_mk (Below.trod laidOut (by kernel_rfl) (of_decide_eq_true (by kernel_rfl)) k1 bel lt1) (trodAll_cons_mk (Below.trod laidOut (by kernel_rfl) (of_decide_eq_true (by kernel_rfl)) k2 bel lt2) (trodAll_cons_mk (Below.trod laidOut (by kernel_rfl) (of_decide_eq_true (by kernel_rfl)) k3 bel lt3) (trodAll_cons_mk (Below.trod laidOut (by kernel_rfl) (of_decide_eq_true (by kernel_rfl)) k4 bel lt4) (trodAll_cons_mk (Below.trod laidOut (by kernel_rfl) (of_decide_eq_true (by kernel_rfl)) k5 bel lt5) trodAll_mk0)))))), rfl, bel.frame _, fun h => by cases h⟩
theorem proved : Rows.HeaderApartSaid :=
  OpenClaim.holds_of_wide 4 Try.f4 rfl rfl rfl rfl rfl rfl rfl ⟨rfl, rfl, rfl, rfl, rfl⟩ rfl rfl rfl rfl rfl (by kernel_rfl) Try.func4 (by kernel_rfl)
    (of_decide_eq_true (by kernel_rfl)) (by unfold Func.isWrapper; first | (rw [if_pos (by decide +kernel)]; kernel_rfl) | (rw [if_neg (by decide +kernel)]; exact ⟨rfl, rfl⟩))
    (fun os started H enc _ => lifted os started H enc)
end headerApart
end Go.Proofs.Ytdkigndboblimaa
