/-
  The laws of chapter 1: masks.
-/
import Derived.Test.YtlbciinlnccnaaaBitsW
import Derived.Test.YtlbciinlnccnaaaLibBits2
import Derived.Test.YtlbciinlnccnaaaFresh
import Derived.Test.YtlbciinlnccnaaaFrame
namespace Go.Proofs.Ytlbciinlnccnaaa
open Go Go.Vm

def vc_beltwaylaw01_BitsMasks (v : BitVec 64) (w : Int) (h : Heap) (Q : SV → Heap → Prop) : Prop :=
  (0 < (70 : Int) ∧ (70 : Int) ≤ 9223372036854775807) ∧ (I64 ((w%(70 : Int)) - 3)) ∧ ∀ (k1 : Nat) (h1 : Heap), HNew h [.int .i64 w, .int .i64 ((w%(70 : Int)) - 3)] 3 k1 h1 → ∃ (I1 : List SV → Heap → Prop) (μ1 : List SV → Heap → Nat), I1 [.int .i64 0] h1 ∧ ∀ (_ : Nat → SV) (n1 : Int), ∀ (h2 : Heap), I1 [.int .i64 n1] h2 → (n1 < 2 → (Ix (some ⟨k1, 0, none⟩) 2 n1) ∧ ∃ (n2 : Int), HLd h2 (padd (some ⟨k1, 0, none⟩) (n1.toNat * 1)) [.int .i64 n2] ∧ (I64 n2) ∧ (I64 n2) ∧ ((¬ (mask n2) = (mask n2)) → Q (.bool false) h2) ∧ (¬ (¬ (mask n2) = (mask n2)) → (I64 n2) ∧ (I64 n2) ∧ ((¬ (fits v n2) = (fits v n2)) → Q (.bool false) h2) ∧ (¬ (¬ (fits v n2) = (fits v n2)) → (0 < (64 : Int) ∧ (64 : Int) ≤ 9223372036854775807) ∧ (U64 (w%(64 : Int))) ∧ (0 ≤ (w%(64 : Int))) ∧ (I64 n2) ∧ (0 < (64 : Int) ∧ (64 : Int) ≤ 9223372036854775807) ∧ (U64 (w%(64 : Int))) ∧ (0 ≤ (w%(64 : Int))) ∧ (I64 n2) ∧ ((¬ (fits (v >>> (w%(64 : Int)).toNat) n2) = (fits (v >>> (w%(64 : Int)).toNat) n2)) → Q (.bool false) h2) ∧ (¬ (¬ (fits (v >>> (w%(64 : Int)).toNat) n2) = (fits (v >>> (w%(64 : Int)).toNat) n2)) → (I64 (n1 + 1)) ∧ I1 [.int .i64 (n1 + 1)] h2 ∧ μ1 [.int .i64 (n1 + 1)] h2 < μ1 [.int .i64 n1] h2)))) ∧ (¬ (n1 < 2) → Q (.bool true) h2)
def cx_beltwaylaw01_BitsMasks : Cx := { modes := [], pure := lkp [(9, p_beltwaymake_Mod), (10, p_bits_Mask), (11, p_beltwayref01_Mask), (12, p_bits_Fits), (13, p_beltwayref01_Fits), (14, p_beltwaylaw01_awake)], loops := [(0, { live := [(13, .one (.int .i64))], dead := [4, 6, 14, 15, 16, 17, 18, 19, 20, 21, 22, 23, 24, 25, 26, 27, 28, 29, 30, 31, 32, 33, 34, 35, 36, 37, 38, 39, 40, 41, 42, 43, 44, 45, 46, 47, 48] })], tails := [] }
theorem vc_beltwaylaw01_BitsMasks_eq (v : BitVec 64) (w : Int) (h : Heap) (Q : SV → Heap → Prop) : vc_beltwaylaw01_BitsMasks v w h Q = vc Try.prog cx_beltwaylaw01_BitsMasks (Try.f3.body.getD .skip) 1000000 (finQ [4] Q) ([SV.u64 v, .int .i64 w] ++ List.replicate (50 - ([SV.u64 v, .int .i64 w]).length) undefV) h := by kernel_rfl
theorem of_beltwaylaw01_BitsMasks {v : BitVec 64} {w : Int} {h : Heap} {Q : SV → Heap → Prop} (H : vc_beltwaylaw01_BitsMasks v w h Q) : CallsH Try.prog 3 [.u64 v, .int .i64 w] h Q :=
  callsH_of_vc (cx := cx_beltwaylaw01_BitsMasks) (cxOk (TabOk.cons pureOk_beltwaymake_Mod (TabOk.cons pureOk_bits_Mask (TabOk.cons pureOk_beltwayref01_Mask (TabOk.cons pureOk_bits_Fits (TabOk.cons pureOk_beltwayref01_Fits (TabOk.cons pureOk_beltwaylaw01_awake TabOk.nil))))))) (n := 50) (rs := [4]) Try.func3 (by kernel_rfl) (by kernel_rfl) Try.ntmps3 (by kernel_rfl) (Eq.mp (vc_beltwaylaw01_BitsMasks_eq v w h Q) H)
theorem law_BitsMasks (v : BitVec 64) (w : Int) (hw : I64 w) (h : Heap) : CallsH Try.prog 3 [.u64 v, .int .i64 w] h (fun r h' => r = .bool true ∧ HB h h') := by
  unfold I64 at hw
  have hw' : I64 w := hw
  refine of_beltwaylaw01_BitsMasks ⟨by omega, by unfold I64; omega, ?_⟩
  intro k h1 hn
  refine ⟨fun vs g => ∃ i : Int, vs = [.int .i64 i] ∧ 0 ≤ i ∧ i ≤ 2 ∧ HB h1 g, fun vs _ => match vs with | [.int _ i] => (2 - i).toNat | _ => 0, ⟨0, rfl, by omega, by omega, .refl _⟩, ?_⟩
  rintro ds i h2 ⟨_, he, h0, hi, hb⟩
  simp only [List.cons.injEq, SV.int.injEq, true_and, and_true] at he
  subst he
  refine ⟨fun hlt => ?_, fun _ => ⟨rfl, (HB.new hn).trans hb⟩⟩
  refine ⟨ix_new _ _ _ h0 (by omega), ?_⟩
  obtain ⟨x, hx, hx2⟩ : ∃ x : Int, [SV.int .i64 w, .int .i64 (w % 70 - 3)][i.toNat * 1]? = some (.int .i64 x) ∧ I64 x := by
    obtain rfl | rfl : i = 0 ∨ i = 1 := by omega
    · exact ⟨w, rfl, hw'⟩
    · exact ⟨_, rfl, by unfold I64; omega⟩
  have hu : U64 (w % 64) := by unfold U64; omega
  refine ⟨x, hn.ld hb hx, hx2, hx2, fun h => absurd rfl h, fun _ => ⟨hx2, hx2, fun h => absurd rfl h, fun _ => ⟨by omega, hu, by omega, hx2, by omega, hu, by omega, hx2, fun h => absurd rfl h, fun _ => ⟨by unfold I64; omega, ⟨_, rfl, by omega, by omega, hb⟩, ?_⟩⟩⟩⟩
  show (2 - (i + 1)).toNat < (2 - i).toNat
  omega
namespace bitsMasks
open Go.ChangeShapes Go.WideShapes Go.ChangeAt Go.RowKit Go.Vm
set_option linter.unusedVariables false
theorem own : ownKnob Try.prog.godebug = none := by kernel_rfl
theorem laidOut : laidOutB Try.prog = true := by kernel_rfl
set_option maxRecDepth 100000 in
theorem lifted (os : Os) (started : os.Started) (H : Type) (enc : TypeId × Value → H) :
    ReturnsInHanded {} Try.checked os 3 .any (Rows.bitsMasksSpec.pre6 enc Try.prog Try.f3 Rows.bitsMasksRow.domain false) (Rows.bitsMasksSpec.post enc Try.prog Try.f3 false true false false) := by
  refine returnsInHanded_of_change (C := Try.checked) own started (by kernel_rfl) Try.func3
    (ChangeSpec.witness6 (enc := enc) (C := Try.checked) false ⟨#[], #[.int .u64 0, .int .i64 0], []⟩ 8 (by kernel_rfl) (by kernel_rfl) (by kernel_rfl) (by kernel_rfl)) ?_
  intro W base args ds gs before hval0 hW hcnd _
  have hval : ∀ (j : Nat) t v, Try.f3.params[j]? = some t → args[j]? = some v → Value.okWide Try.prog W .any base t v := hval0
  have hW' := hW
  obtain ⟨p, q, hA0, hV, rfl, hfz, hnd⟩ := hW
  have hA : DataW.TrodAll enc Try.prog W 0 (fun _ => true) true Try.f3.params.toList args.toList ds p := hA0
  rw [Try.params3] at hA hval
  obtain ⟨v0, vs0, d0, ds0, p0, q0, hargs, rfl, rfl, h0, r0⟩ := trodAll_cons hA
  obtain ⟨v1, vs1, d1, ds1, p1, q1, rfl, rfl, rfl, h1, r1⟩ := trodAll_cons r0
  obtain ⟨rfl, rfl, rfl⟩ := trodAll_nil r1
  obtain rfl : args = #[v0, v1] := by cases args; simp_all
  obtain ⟨rfl, rfl⟩ := trodVars_none hV
  have k0 := h0
  have lt0 : ∀ x ∈ p0, x.block < W.heap.size := by obtain ⟨m, hm⟩ := k0; exact DataW.trod_lt m _ _ _ hm
  obtain ⟨a0, rfl, _, _, w0⟩ := open_int Try.underlying22 (hval 0 22 v0 rfl rfl) h0
  obtain ⟨x0, rfl⟩ := u64_of_wf w0
  have k1 := h1
  have lt1 : ∀ x ∈ p1, x.block < W.heap.size := by obtain ⟨m, hm⟩ := k1; exact DataW.trod_lt m _ _ _ hm
  obtain ⟨a1, rfl, _, _, w1⟩ := open_int Try.underlying3 (hval 1 3 v1 rfl rfl) h1
  have b1 := i64_of_wf w1
  refine (law_calls (f := 3) (vals := #[_, _]) (w := W) ?_ (law_BitsMasks x0 a1 b1 W.heap)).mono fun e W' ⟨he, bel⟩ => ?_
  · rfl
  subst he
  simp only [List.append_nil] at hW'
  exact ⟨_, rfl, _, _, _, [], _, [], hW', trodAll_mk1 (shut_bool Try.underlying4 _), (trodAll_cons_mk (Below.trod laidOut (by kernel_rfl) (of_decide_eq_true (by kernel_rfl)) k0 bel lt0) (trodAll_cons_mk (Below.trod laidOut (by kernel_rfl) (of_decide_eq_true (by kernel_rfl)) k1 bel lt1) trodAll_mk0)), rfl, bel.frame _, fun h => by cases h⟩
theorem proved : Rows.BitsMasksSaid :=
  OpenClaim.holds_of_wide 3 Try.f3 rfl rfl rfl rfl rfl rfl rfl ⟨rfl, rfl, rfl, rfl, rfl⟩ rfl rfl rfl rfl rfl (by kernel_rfl) Try.func3 (by kernel_rfl)
    (of_decide_eq_true (by kernel_rfl)) (by unfold Func.isWrapper; first | (rw [if_pos (by decide +kernel)]; kernel_rfl) | (rw [if_neg (by decide +kernel)]; exact ⟨rfl, rfl⟩))
    (fun os started H enc _ => lifted os started H enc)
end bitsMasks

end Go.Proofs.Ytlbciinlnccnaaa
