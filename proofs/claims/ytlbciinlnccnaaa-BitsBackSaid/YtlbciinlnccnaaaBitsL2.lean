/-
  The laws of chapter 1: fields, quotients, parts, logarithms.
-/
import Derived.Test.YtlbciinlnccnaaaBitsW
import Derived.Test.YtlbciinlnccnaaaLibBits2
import Derived.Test.YtlbciinlnccnaaaFresh
import Derived.Test.YtlbciinlnccnaaaFrame
set_option linter.unusedVariables false
namespace Go.Proofs.Ytlbciinlnccnaaa
open Go Go.Vm

def vc_beltwaylaw01_BitsBack (w : BitVec 64) (v : BitVec 64) (p : Int) (n : Int) (o : Int) (h : Heap) (Q : SV → Heap → Prop) : Prop :=
  (0 < (65 : Int) ∧ (65 : Int) ≤ 9223372036854775807) ∧ (I64 ((65 : Int) - (p%(65 : Int)))) ∧ (0 < ((65 : Int) - (p%(65 : Int))) ∧ ((65 : Int) - (p%(65 : Int))) ≤ 9223372036854775807) ∧ (I64 (n%((65 : Int) - (p%(65 : Int))))) ∧ ((¬ (bputE (p%(65 : Int)) (n%((65 : Int) - (p%(65 : Int)))) (v &&& (mask (n%((65 : Int) - (p%(65 : Int))))))) = 0) → Q (.bool false) h) ∧ (¬ (¬ (bputE (p%(65 : Int)) (n%((65 : Int) - (p%(65 : Int)))) (v &&& (mask (n%((65 : Int) - (p%(65 : Int))))))) = 0) → ((¬ (bgetE (p%(65 : Int)) (n%((65 : Int) - (p%(65 : Int))))) = 0) → Q (.bool false) h) ∧ (¬ (¬ (bgetE (p%(65 : Int)) (n%((65 : Int) - (p%(65 : Int))))) = 0) → ((¬ (bget (bput w (p%(65 : Int)) (n%((65 : Int) - (p%(65 : Int)))) (v &&& (mask (n%((65 : Int) - (p%(65 : Int))))))) (p%(65 : Int)) (n%((65 : Int) - (p%(65 : Int))))) = (v &&& (mask (n%((65 : Int) - (p%(65 : Int))))))) → Q (.bool false) h) ∧ (¬ (¬ (bget (bput w (p%(65 : Int)) (n%((65 : Int) - (p%(65 : Int)))) (v &&& (mask (n%((65 : Int) - (p%(65 : Int))))))) (p%(65 : Int)) (n%((65 : Int) - (p%(65 : Int))))) = (v &&& (mask (n%((65 : Int) - (p%(65 : Int))))))) → (0 < (64 : Int) ∧ (64 : Int) ≤ 9223372036854775807) ∧ ((o%(64 : Int)) ≥ (p%(65 : Int)) → (I64 ((p%(65 : Int)) + (n%((65 : Int) - (p%(65 : Int)))))) ∧ ((o%(64 : Int)) < ((p%(65 : Int)) + (n%((65 : Int) - (p%(65 : Int))))) → Q (.bool true) h) ∧ (¬ ((o%(64 : Int)) < ((p%(65 : Int)) + (n%((65 : Int) - (p%(65 : Int)))))) → (U64 (o%(64 : Int))) ∧ (0 ≤ (o%(64 : Int))) ∧ (U64 (o%(64 : Int))) ∧ (0 ≤ (o%(64 : Int))) ∧ Q (.bool (decide ((((bput w (p%(65 : Int)) (n%((65 : Int) - (p%(65 : Int)))) (v &&& (mask (n%((65 : Int) - (p%(65 : Int))))))) >>> (o%(64 : Int)).toNat) &&& 1#64) = ((w >>> (o%(64 : Int)).toNat) &&& 1#64)))) h)) ∧ (¬ ((o%(64 : Int)) ≥ (p%(65 : Int))) → (U64 (o%(64 : Int))) ∧ (0 ≤ (o%(64 : Int))) ∧ (U64 (o%(64 : Int))) ∧ (0 ≤ (o%(64 : Int))) ∧ Q (.bool (decide ((((bput w (p%(65 : Int)) (n%((65 : Int) - (p%(65 : Int)))) (v &&& (mask (n%((65 : Int) - (p%(65 : Int))))))) >>> (o%(64 : Int)).toNat) &&& 1#64) = ((w >>> (o%(64 : Int)).toNat) &&& 1#64)))) h))))
def cx_beltwaylaw01_BitsBack : Cx := { modes := [], pure := lkp [(9, p_beltwaymake_Mod), (11, p_beltwayref01_Mask), (15, p_bits_Put), (16, p_bits_Get)], loops := [], tails := [] }
theorem vc_beltwaylaw01_BitsBack_eq (w : BitVec 64) (v : BitVec 64) (p : Int) (n : Int) (o : Int) (h : Heap) (Q : SV → Heap → Prop) : vc_beltwaylaw01_BitsBack w v p n o h Q = vc Try.prog cx_beltwaylaw01_BitsBack (Try.f4.body.getD .skip) 1000000 (finQ [10] Q) ([SV.u64 w, .u64 v, .int .i64 p, .int .i64 n, .int .i64 o] ++ List.replicate (80 - ([SV.u64 w, .u64 v, .int .i64 p, .int .i64 n, .int .i64 o]).length) undefV) h := by kernel_rfl
theorem of_beltwaylaw01_BitsBack {w : BitVec 64} {v : BitVec 64} {p : Int} {n : Int} {o : Int} {h : Heap} {Q : SV → Heap → Prop} (H : vc_beltwaylaw01_BitsBack w v p n o h Q) : CallsH Try.prog 4 [.u64 w, .u64 v, .int .i64 p, .int .i64 n, .int .i64 o] h Q :=
  callsH_of_vc (cx := cx_beltwaylaw01_BitsBack) (cxOk (TabOk.cons pureOk_beltwaymake_Mod (TabOk.cons pureOk_beltwayref01_Mask (TabOk.cons pureOk_bits_Put (TabOk.cons pureOk_bits_Get TabOk.nil))))) (n := 80) (rs := [10]) Try.func4 (by kernel_rfl) (by kernel_rfl) Try.ntmps4 (by kernel_rfl) (Eq.mp (vc_beltwaylaw01_BitsBack_eq w v p n o h Q) H)
theorem law_BitsBack (w v : BitVec 64) (p : Int) (hp : I64 p) (n : Int) (hn : I64 n) (o : Int) (ho : I64 o) (h : Heap) :
    CallsH Try.prog 4 [.u64 w, .u64 v, .int .i64 p, .int .i64 n, .int .i64 o] h (fun r h' => r = .bool true ∧ HB h h') := by
  have b1 : 0 ≤ p % 65 := by omega
  have b2 : p % 65 < 65 := by omega
  have c1 : 0 ≤ n % (65 - p % 65) := Int.emod_nonneg _ (by omega)
  have c2 : n % (65 - p % 65) < 65 - p % 65 := Int.emod_lt_of_pos _ (by omega)
  refine of_beltwaylaw01_BitsBack ?_
  unfold vc_beltwaylaw01_BitsBack
  generalize p % 65 = a at *
  generalize n % (65 - a) = m at *
  have hk : okf a m = true := okf_true b1 c1 (by omega)
  have hf := fits_and_mask v m
  have e1 : bputE a m (v &&& mask m) = 0 := by unfold bputE; rw [if_pos hk, if_pos hf]
  have e2 : bgetE a m = 0 := by unfold bgetE; rw [if_pos hk]
  have e3 := get_put w (v &&& mask m) hk hf
  have hd : 0 ≤ o % 64 ∧ o % 64 < 64 := by omega
  generalize o % 64 = k at *
  have hu : U64 k := by unfold U64; omega
  have fin : (¬ (k ≥ a ∧ k < a + m)) → (((bput w a m (v &&& mask m)) >>> k.toNat) &&& 1#64) = ((w >>> k.toNat) &&& 1#64) := by
    intro hc
    apply bit_eq
    rw [put_bit w _ hk hf _ (by omega), if_neg (by omega)]
  refine ⟨by omega, by unfold I64; omega, by omega, by unfold I64; omega, fun h => absurd e1 h, fun _ => ⟨fun h => absurd e2 h, fun _ => ⟨fun h => absurd e3 h, fun _ => ⟨by omega, fun h1 => ⟨by unfold I64; omega, fun _ => ⟨rfl, .refl _⟩, fun h2 => ⟨hu, hd.1, hu, hd.1, ?_, .refl _⟩⟩, fun h1 => ⟨hu, hd.1, hu, hd.1, ?_, .refl _⟩⟩⟩⟩⟩
  · rw [decide_eq_true (fin (by omega))]
  · rw [decide_eq_true (fin (by omega))]
namespace bitsBack
open Go.ChangeShapes Go.WideShapes Go.ChangeAt Go.RowKit Go.Vm
set_option linter.unusedVariables false
theorem own : ownKnob Try.prog.godebug = none := by kernel_rfl
theorem laidOut : laidOutB Try.prog = true := by kernel_rfl
set_option maxRecDepth 100000 in
theorem lifted (os : Os) (started : os.Started) (H : Type) (enc : TypeId × Value → H) :
    ReturnsInHanded {} Try.checked os 4 .any (Rows.bitsBackSpec.pre6 enc Try.prog Try.f4 Rows.bitsBackRow.domain false) (Rows.bitsBackSpec.post enc Try.prog Try.f4 false true false false) := by
  refine returnsInHanded_of_change (C := Try.checked) own started (by kernel_rfl) Try.func4
    (ChangeSpec.witness6 (enc := enc) (C := Try.checked) false ⟨#[], #[.int .u64 0, .int .u64 0, .int .i64 0, .int .i64 0, .int .i64 0], []⟩ 8 (by kernel_rfl) (by kernel_rfl) (by kernel_rfl) (by kernel_rfl)) ?_
  intro W base args ds gs before hval0 hW hcnd _
  have hval : ∀ (j : Nat) t v, Try.f4.params[j]? = some t → args[j]? = some v → Value.okWide Try.prog W .any base t v := hval0
  have hW' := hW
  obtain ⟨p, q, hA0, hV, rfl, hfz, hnd⟩ := hW
  have hA : DataW.TrodAll enc Try.prog W 0 (fun _ => true) true Try.f4.params.toList args.toList ds p := hA0
  rw [Try.params4] at hA hval
  obtain ⟨v0, vs0, d0, ds0, p0, q0, hargs, rfl, rfl, h0, r0⟩ := trodAll_cons hA
  obtain ⟨v1, vs1, d1, ds1, p1, q1, rfl, rfl, rfl, h1, r1⟩ := trodAll_cons r0
  obtain ⟨v2, vs2, d2, ds2, p2, q2, rfl, rfl, rfl, h2, r2⟩ := trodAll_cons r1
  obtain ⟨v3, vs3, d3, ds3, p3, q3, rfl, rfl, rfl, h3, r3⟩ := trodAll_cons r2
  obtain ⟨v4, vs4, d4, ds4, p4, q4, rfl, rfl, rfl, h4, r4⟩ := trodAll_cons r3
  obtain ⟨rfl, rfl, rfl⟩ := trodAll_nil r4
  obtain rfl : args = #[v0, v1, v2, v3, v4] := by cases args; simp_all
  obtain ⟨rfl, rfl⟩ := trodVars_none hV
  have k0 := h0
  have lt0 : ∀ x ∈ p0, x.block < W.heap.size := by obtain ⟨m, hm⟩ := k0; exact DataW.trod_lt m _ _ _ hm
  obtain ⟨a0, rfl, _, _, w0⟩ := open_int Try.underlying22 (hval 0 22 v0 rfl rfl) h0
  obtain ⟨x0, rfl⟩ := u64_of_wf w0
  have k1 := h1
  have lt1 : ∀ x ∈ p1, x.block < W.heap.size := by obtain ⟨m, hm⟩ := k1; exact DataW.trod_lt m _ _ _ hm
  obtain ⟨a1, rfl, _, _, w1⟩ := open_int Try.underlying22 (hval 1 22 v1 rfl rfl) h1
  obtain ⟨x1, rfl⟩ := u64_of_wf w1
  have k2 := h2
  have lt2 : ∀ x ∈ p2, x.block < W.heap.size := by obtain ⟨m, hm⟩ := k2; exact DataW.trod_lt m _ _ _ hm
  obtain ⟨a2, rfl, _, _, w2⟩ := open_int Try.underlying3 (hval 2 3 v2 rfl rfl) h2
  have b2 := i64_of_wf w2
  have k3 := h3
  have lt3 : ∀ x ∈ p3, x.block < W.heap.size := by obtain ⟨m, hm⟩ := k3; exact DataW.trod_lt m _ _ _ hm
  obtain ⟨a3, rfl, _, _, w3⟩ := open_int Try.underlying3 (hval 3 3 v3 rfl rfl) h3
  have b3 := i64_of_wf w3
  have k4 := h4
  have lt4 : ∀ x ∈ p4, x.block < W.heap.size := by obtain ⟨m, hm⟩ := k4; exact DataW.trod_lt m _ _ _ hm
  obtain ⟨a4, rfl, _, _, w4⟩ := open_int Try.underlying3 (hval 4 3 v4 rfl rfl) h4
  have b4 := i64_of_wf w4
  refine (law_calls (f := 4) (vals := #[_, _, _, _, _]) (w := W) ?_ (law_BitsBack x0 x1 a2 b2 a3 b3 a4 b4 W.heap)).mono fun e W' ⟨he, bel⟩ => ?_
  · rfl
  subst he
  simp only [List.append_nil] at hW'
  exact ⟨_, rfl, _, _, _, [], _, [], hW', trodAll_mk1 (shut_bool Try.underlying4 _), (trodAll_cons_mk (Below.trod laidOut (by kernel_rfl) (of_decide_eq_true (by kernel_rfl)) k0 bel lt0) (trodAll_cons_mk (Below.trod laidOut (by kernel_rfl) (of_decide_eq_true (by kernel_rfl)) k1 bel lt1) (trodAll_cons_mk (Below.trod laidOut (by kernel_rfl) (of_decide_eq_true (by kernel_rfl)) k2 bel lt2) (trodAll_cons_mk (Below.trod laidOut (by kernel_rfl) (of_decide_eq_true (by kernel_rfl)) k3 bel lt3) (trodAll_cons_mk (Below.trod laidOut (by kernel_rfl) (of_decide_eq_true (by kernel_rfl)) k4 bel lt4) trodAll_mk0))))), rfl, bel.frame _, fun h => by cases h⟩
theorem proved : Rows.BitsBackSaid :=
  OpenClaim.holds_of_wide 4 Try.f4 rfl rfl rfl rfl rfl rfl rfl ⟨rfl, rfl, rfl, rfl, rfl⟩ rfl rfl rfl rfl rfl (by kernel_rfl) Try.func4 (by kernel_rfl)
    (of_decide_eq_true (by kernel_rfl)) (by unfold Func.isWrapper; first | (rw [if_pos (by decide +kernel)]; kernel_rfl) | (rw [if_neg (by decide +kernel)]; exact ⟨rfl, rfl⟩))
    (fun os started H enc _ => lifted os started H enc)
end bitsBack

def vc_beltwaylaw01_BitsCeils (a : Int) (b : Int) (s : Int) (h : Heap) (Q : SV → Heap → Prop) : Prop :=
  (0 < (1048576 : Int) ∧ (1048576 : Int) ≤ 9223372036854775807) ∧ (0 < (1048576 : Int) ∧ (1048576 : Int) ≤ 9223372036854775807) ∧ (0 < (21 : Int) ∧ (21 : Int) ≤ 9223372036854775807) ∧ (I64 ((a%(1048576 : Int)) + (b%(1048576 : Int)))) ∧ (I64 ((ceilQ (a%(1048576 : Int)) (s%(21 : Int))) + (ceilQ (b%(1048576 : Int)) (s%(21 : Int))))) ∧ ((ceilQ ((a%(1048576 : Int)) + (b%(1048576 : Int))) (s%(21 : Int))) ≤ ((ceilQ (a%(1048576 : Int)) (s%(21 : Int))) + (ceilQ (b%(1048576 : Int)) (s%(21 : Int)))) → (I64 ((ceilQ (a%(1048576 : Int)) (s%(21 : Int))) + (ceilQ (b%(1048576 : Int)) (s%(21 : Int))))) ∧ (I64 (((ceilQ (a%(1048576 : Int)) (s%(21 : Int))) + (ceilQ (b%(1048576 : Int)) (s%(21 : Int)))) - 1)) ∧ ((ceilQ ((a%(1048576 : Int)) + (b%(1048576 : Int))) (s%(21 : Int))) ≥ (((ceilQ (a%(1048576 : Int)) (s%(21 : Int))) + (ceilQ (b%(1048576 : Int)) (s%(21 : Int)))) - 1) → (U64 (s%(21 : Int))) ∧ (0 ≤ (s%(21 : Int)) ∧ (s%(21 : Int)).toNat < 64 ∧ I64 ((ceilQ (a%(1048576 : Int)) (s%(21 : Int))) * 2 ^ (s%(21 : Int)).toNat)) ∧ (((ceilQ (a%(1048576 : Int)) (s%(21 : Int))) * 2 ^ (s%(21 : Int)).toNat) ≥ (a%(1048576 : Int)) → ((ceilQ (a%(1048576 : Int)) (s%(21 : Int))) = 0 → Q (.bool true) h) ∧ (¬ ((ceilQ (a%(1048576 : Int)) (s%(21 : Int))) = 0) → (I64 ((ceilQ (a%(1048576 : Int)) (s%(21 : Int))) - 1)) ∧ (U64 (s%(21 : Int))) ∧ (0 ≤ (s%(21 : Int)) ∧ (s%(21 : Int)).toNat < 64 ∧ I64 (((ceilQ (a%(1048576 : Int)) (s%(21 : Int))) - 1) * 2 ^ (s%(21 : Int)).toNat)) ∧ ((((ceilQ (a%(1048576 : Int)) (s%(21 : Int))) - 1) * 2 ^ (s%(21 : Int)).toNat) < (a%(1048576 : Int)) → Q (.bool true) h) ∧ (¬ ((((ceilQ (a%(1048576 : Int)) (s%(21 : Int))) - 1) * 2 ^ (s%(21 : Int)).toNat) < (a%(1048576 : Int))) → Q (.bool false) h))) ∧ (¬ (((ceilQ (a%(1048576 : Int)) (s%(21 : Int))) * 2 ^ (s%(21 : Int)).toNat) ≥ (a%(1048576 : Int))) → Q (.bool false) h)) ∧ (¬ ((ceilQ ((a%(1048576 : Int)) + (b%(1048576 : Int))) (s%(21 : Int))) ≥ (((ceilQ (a%(1048576 : Int)) (s%(21 : Int))) + (ceilQ (b%(1048576 : Int)) (s%(21 : Int)))) - 1)) → Q (.bool false) h)) ∧ (¬ ((ceilQ ((a%(1048576 : Int)) + (b%(1048576 : Int))) (s%(21 : Int))) ≤ ((ceilQ (a%(1048576 : Int)) (s%(21 : Int))) + (ceilQ (b%(1048576 : Int)) (s%(21 : Int))))) → Q (.bool false) h)
def cx_beltwaylaw01_BitsCeils : Cx := { modes := [], pure := lkp [(9, p_beltwaymake_Mod), (14, p_beltwaylaw01_awake), (17, p_bits_Ceil)], loops := [], tails := [] }
theorem vc_beltwaylaw01_BitsCeils_eq (a : Int) (b : Int) (s : Int) (h : Heap) (Q : SV → Heap → Prop) : vc_beltwaylaw01_BitsCeils a b s h Q = vc Try.prog cx_beltwaylaw01_BitsCeils (Try.f5.body.getD .skip) 1000000 (finQ [6] Q) ([SV.int .i64 a, .int .i64 b, .int .i64 s] ++ List.replicate (67 - ([SV.int .i64 a, .int .i64 b, .int .i64 s]).length) undefV) h := by kernel_rfl
theorem of_beltwaylaw01_BitsCeils {a : Int} {b : Int} {s : Int} {h : Heap} {Q : SV → Heap → Prop} (H : vc_beltwaylaw01_BitsCeils a b s h Q) : CallsH Try.prog 5 [.int .i64 a, .int .i64 b, .int .i64 s] h Q :=
  callsH_of_vc (cx := cx_beltwaylaw01_BitsCeils) (cxOk (TabOk.cons pureOk_beltwaymake_Mod (TabOk.cons pureOk_beltwaylaw01_awake (TabOk.cons pureOk_bits_Ceil TabOk.nil)))) (n := 67) (rs := [6]) Try.func5 (by kernel_rfl) (by kernel_rfl) Try.ntmps5 (by kernel_rfl) (Eq.mp (vc_beltwaylaw01_BitsCeils_eq a b s h Q) H)
theorem law_BitsCeils (a : Int) (_ : I64 a) (b : Int) (_ : I64 b) (s : Int) (_ : I64 s) (h : Heap) :
    CallsH Try.prog 5 [.int .i64 a, .int .i64 b, .int .i64 s] h (fun r h' => r = .bool true ∧ HB h h') := by
  have a1 : 0 ≤ a % 1048576 := by omega
  have a2 : a % 1048576 < 1048576 := by omega
  have b1 : 0 ≤ b % 1048576 := by omega
  have b2 : b % 1048576 < 1048576 := by omega
  have s1 : 0 ≤ s % 21 := by omega
  have s2 : s % 21 ≤ 20 := by omega
  refine of_beltwaylaw01_BitsCeils ?_
  unfold vc_beltwaylaw01_BitsCeils
  generalize a % 1048576 = x at *
  generalize b % 1048576 = y at *
  generalize s % 21 = k at *
  obtain ⟨d1, d2⟩ := pow_bounds (k := k.toNat) (m := 20) (by omega)
  have d3 : (2 : Int) ^ 20 = 1048576 := by decide
  rw [d3] at d2
  obtain ⟨p1, p2⟩ := ceil_sum x y k a1 a2 b1 b2 s1 s2
  obtain ⟨e1, e2, e3⟩ := ceil_range x k a1 (by omega) s1 s2
  obtain ⟨_, f2, f3⟩ := ceil_range y k b1 (by omega) s1 s2
  obtain ⟨q1, q2⟩ := ceil_bounds x _ _ d1 e1
  have hu : U64 k := by unfold U64; omega
  generalize (2 : Int) ^ k.toNat = d at *
  generalize ceilQ x k = c at *
  generalize ceilQ y k = c' at *
  have r1 : 0 ≤ c * d := Int.mul_nonneg e2 (by omega)
  have r2 : c * d ≤ 1048576 * 1048576 := Int.mul_le_mul (by omega) (by omega) (by omega) (by omega)
  have r3 : (c - 1) * d = c * d - d := by rw [Int.sub_mul, Int.one_mul]
  refine ⟨by omega, by omega, by omega, by unfold I64; omega, by unfold I64; omega, fun _ => ⟨by unfold I64; omega, by unfold I64; omega, fun _ => ⟨hu, ⟨s1, by omega, by unfold I64; omega⟩, fun _ => ⟨fun _ => ⟨rfl, .refl _⟩, fun _ => ⟨by unfold I64; omega, hu, ⟨s1, by omega, by unfold I64; omega⟩, fun _ => ⟨rfl, .refl _⟩, fun h => absurd q2 h⟩⟩, fun h => absurd q1 h⟩, fun h => absurd p2 h⟩, fun h => absurd p1 h⟩
namespace bitsCeils
open Go.ChangeShapes Go.WideShapes Go.ChangeAt Go.RowKit Go.Vm
set_option linter.unusedVariables false
theorem own : ownKnob Try.prog.godebug = none := by kernel_rfl
theorem laidOut : laidOutB Try.prog = true := by kernel_rfl
set_option maxRecDepth 100000 in
theorem lifted (os : Os) (started : os.Started) (H : Type) (enc : TypeId × Value → H) :
    ReturnsInHanded {} Try.checked os 5 .any (Rows.bitsCeilsSpec.pre6 enc Try.prog Try.f5 Rows.bitsCeilsRow.domain false) (Rows.bitsCeilsSpec.post enc Try.prog Try.f5 false true false false) := by
  refine returnsInHanded_of_change (C := Try.checked) own started (by kernel_rfl) Try.func5
    (ChangeSpec.witness6 (enc := enc) (C := Try.checked) false ⟨#[], #[.int .i64 0, .int .i64 0, .int .i64 0], []⟩ 8 (by kernel_rfl) (by kernel_rfl) (by kernel_rfl) (by kernel_rfl)) ?_
  intro W base args ds gs before hval0 hW hcnd _
  have hval : ∀ (j : Nat) t v, Try.f5.params[j]? = some t → args[j]? = some v → Value.okWide Try.prog W .any base t v := hval0
  have hW' := hW
  obtain ⟨p, q, hA0, hV, rfl, hfz, hnd⟩ := hW
  have hA : DataW.TrodAll enc Try.prog W 0 (fun _ => true) true Try.f5.params.toList args.toList ds p := hA0
  rw [Try.params5] at hA hval
  obtain ⟨v0, vs0, d0, ds0, p0, q0, hargs, rfl, rfl, h0, r0⟩ := trodAll_cons hA
  obtain ⟨v1, vs1, d1, ds1, p1, q1, rfl, rfl, rfl, h1, r1⟩ := trodAll_cons r0
  obtain ⟨v2, vs2, d2, ds2, p2, q2, rfl, rfl, rfl, h2, r2⟩ := trodAll_cons r1
  obtain ⟨rfl, rfl, rfl⟩ := trodAll_nil r2
  obtain rfl : args = #[v0, v1, v2] := by cases args; simp_all
  obtain ⟨rfl, rfl⟩ := trodVars_none hV
  have k0 := h0
  have lt0 : ∀ x ∈ p0, x.block < W.heap.size := by obtain ⟨m, hm⟩ := k0; exact DataW.trod_lt m _ _ _ hm
  obtain ⟨a0, rfl, _, _, w0⟩ := open_int Try.underlying3 (hval 0 3 v0 rfl rfl) h0
  have b0 := i64_of_wf w0
  have k1 := h1
  have lt1 : ∀ x ∈ p1, x.block < W.heap.size := by obtain ⟨m, hm⟩ := k1; exact DataW.trod_lt m _ _ _ hm
  obtain ⟨a1, rfl, _, _, w1⟩ := open_int Try.underlying3 (hval 1 3 v1 rfl rfl) h1
  have b1 := i64_of_wf w1
  have k2 := h2
  have lt2 : ∀ x ∈ p2, x.block < W.heap.size := by obtain ⟨m, hm⟩ := k2; exact DataW.trod_lt m _ _ _ hm
  obtain ⟨a2, rfl, _, _, w2⟩ := open_int Try.underlying3 (hval 2 3 v2 rfl rfl) h2
  have b2 := i64_of_wf w2
  refine (law_calls (f := 5) (vals := #[_, _, _]) (w := W) ?_ (law_BitsCeils a0 b0 a1 b1 a2 b2 W.heap)).mono fun e W' ⟨he, bel⟩ => ?_
  · rfl
  subst he
  simp only [List.append_nil] at hW'
  exact ⟨_, rfl, _, _, _, [], _, [], hW', trodAll_mk1 (shut_bool Try.underlying4 _), (trodAll_cons_mk (Below.trod laidOut (by kernel_rfl) (of_decide_eq_true (by kernel_rfl)) k0 bel lt0) (trodAll_cons_mk (Below.trod laidOut (by kernel_rfl) (of_decide_eq_true (by kernel_rfl)) k1 bel lt1) (trodAll_cons_mk (Below.trod laidOut (by kernel_rfl) (of_decide_eq_true (by kernel_rfl)) k2 bel lt2) trodAll_mk0))), rfl, bel.frame _, fun h => by cases h⟩
theorem proved : Rows.BitsCeilsSaid :=
  OpenClaim.holds_of_wide 5 Try.f5 rfl rfl rfl rfl rfl rfl rfl ⟨rfl, rfl, rfl, rfl, rfl⟩ rfl rfl rfl rfl rfl (by kernel_rfl) Try.func5 (by kernel_rfl)
    (of_decide_eq_true (by kernel_rfl)) (by unfold Func.isWrapper; first | (rw [if_pos (by decide +kernel)]; kernel_rfl) | (rw [if_neg (by decide +kernel)]; exact ⟨rfl, rfl⟩))
    (fun os started H enc _ => lifted os started H enc)
end bitsCeils

def vc_beltwaylaw01_BitsParts (w : BitVec 64) (p : Int) (a : Int) (b : Int) (h : Heap) (Q : SV → Heap → Prop) : Prop :=
  (0 < (65 : Int) ∧ (65 : Int) ≤ 9223372036854775807) ∧ (I64 ((65 : Int) - (p%(65 : Int)))) ∧ (0 < ((65 : Int) - (p%(65 : Int))) ∧ ((65 : Int) - (p%(65 : Int))) ≤ 9223372036854775807) ∧ (I64 ((65 : Int) - (p%(65 : Int)))) ∧ (I64 (((65 : Int) - (p%(65 : Int))) - (a%((65 : Int) - (p%(65 : Int)))))) ∧ (0 < (((65 : Int) - (p%(65 : Int))) - (a%((65 : Int) - (p%(65 : Int))))) ∧ (((65 : Int) - (p%(65 : Int))) - (a%((65 : Int) - (p%(65 : Int))))) ≤ 9223372036854775807) ∧ (I64 ((p%(65 : Int)) + (a%((65 : Int) - (p%(65 : Int)))))) ∧ (I64 ((a%((65 : Int) - (p%(65 : Int)))) + (b%(((65 : Int) - (p%(65 : Int))) - (a%((65 : Int) - (p%(65 : Int)))))))) ∧ ((bgetE (p%(65 : Int)) (a%((65 : Int) - (p%(65 : Int))))) = 0 → ((bgetE ((p%(65 : Int)) + (a%((65 : Int) - (p%(65 : Int))))) (b%(((65 : Int) - (p%(65 : Int))) - (a%((65 : Int) - (p%(65 : Int))))))) = 0 → ((bgetE (p%(65 : Int)) ((a%((65 : Int) - (p%(65 : Int)))) + (b%(((65 : Int) - (p%(65 : Int))) - (a%((65 : Int) - (p%(65 : Int)))))))) = 0 → (U64 (a%((65 : Int) - (p%(65 : Int))))) ∧ (0 ≤ (a%((65 : Int) - (p%(65 : Int))))) ∧ ((bget w (p%(65 : Int)) ((a%((65 : Int) - (p%(65 : Int)))) + (b%(((65 : Int) - (p%(65 : Int))) - (a%((65 : Int) - (p%(65 : Int)))))))) = ((bget w (p%(65 : Int)) (a%((65 : Int) - (p%(65 : Int))))) ||| ((bget w ((p%(65 : Int)) + (a%((65 : Int) - (p%(65 : Int))))) (b%(((65 : Int) - (p%(65 : Int))) - (a%((65 : Int) - (p%(65 : Int))))))) <<< (a%((65 : Int) - (p%(65 : Int)))).toNat)) → (I64 ((a%((65 : Int) - (p%(65 : Int)))) + (b%(((65 : Int) - (p%(65 : Int))) - (a%((65 : Int) - (p%(65 : Int)))))))) ∧ (I64 ((a%((65 : Int) - (p%(65 : Int)))) + (b%(((65 : Int) - (p%(65 : Int))) - (a%((65 : Int) - (p%(65 : Int)))))))) ∧ ((fits (bget w (p%(65 : Int)) ((a%((65 : Int) - (p%(65 : Int)))) + (b%(((65 : Int) - (p%(65 : Int))) - (a%((65 : Int) - (p%(65 : Int)))))))) ((a%((65 : Int) - (p%(65 : Int)))) + (b%(((65 : Int) - (p%(65 : Int))) - (a%((65 : Int) - (p%(65 : Int)))))))) = true → (I64 (a%((65 : Int) - (p%(65 : Int))))) ∧ (I64 (b%(((65 : Int) - (p%(65 : Int))) - (a%((65 : Int) - (p%(65 : Int))))))) ∧ (U64 (a%((65 : Int) - (p%(65 : Int))))) ∧ (0 ≤ (a%((65 : Int) - (p%(65 : Int))))) ∧ (I64 ((a%((65 : Int) - (p%(65 : Int)))) + (b%(((65 : Int) - (p%(65 : Int))) - (a%((65 : Int) - (p%(65 : Int)))))))) ∧ (I64 ((a%((65 : Int) - (p%(65 : Int)))) + (b%(((65 : Int) - (p%(65 : Int))) - (a%((65 : Int) - (p%(65 : Int)))))))) ∧ (((mask (a%((65 : Int) - (p%(65 : Int))))) ||| ((mask (b%(((65 : Int) - (p%(65 : Int))) - (a%((65 : Int) - (p%(65 : Int))))))) <<< (a%((65 : Int) - (p%(65 : Int)))).toNat)) = (mask ((a%((65 : Int) - (p%(65 : Int)))) + (b%(((65 : Int) - (p%(65 : Int))) - (a%((65 : Int) - (p%(65 : Int)))))))) → Q (.bool true) h) ∧ (¬ (((mask (a%((65 : Int) - (p%(65 : Int))))) ||| ((mask (b%(((65 : Int) - (p%(65 : Int))) - (a%((65 : Int) - (p%(65 : Int))))))) <<< (a%((65 : Int) - (p%(65 : Int)))).toNat)) = (mask ((a%((65 : Int) - (p%(65 : Int)))) + (b%(((65 : Int) - (p%(65 : Int))) - (a%((65 : Int) - (p%(65 : Int))))))))) → Q (.bool false) h)) ∧ ((fits (bget w (p%(65 : Int)) ((a%((65 : Int) - (p%(65 : Int)))) + (b%(((65 : Int) - (p%(65 : Int))) - (a%((65 : Int) - (p%(65 : Int)))))))) ((a%((65 : Int) - (p%(65 : Int)))) + (b%(((65 : Int) - (p%(65 : Int))) - (a%((65 : Int) - (p%(65 : Int)))))))) = false → Q (.bool false) h)) ∧ (¬ ((bget w (p%(65 : Int)) ((a%((65 : Int) - (p%(65 : Int)))) + (b%(((65 : Int) - (p%(65 : Int))) - (a%((65 : Int) - (p%(65 : Int)))))))) = ((bget w (p%(65 : Int)) (a%((65 : Int) - (p%(65 : Int))))) ||| ((bget w ((p%(65 : Int)) + (a%((65 : Int) - (p%(65 : Int))))) (b%(((65 : Int) - (p%(65 : Int))) - (a%((65 : Int) - (p%(65 : Int))))))) <<< (a%((65 : Int) - (p%(65 : Int)))).toNat))) → Q (.bool false) h)) ∧ (¬ ((bgetE (p%(65 : Int)) ((a%((65 : Int) - (p%(65 : Int)))) + (b%(((65 : Int) - (p%(65 : Int))) - (a%((65 : Int) - (p%(65 : Int)))))))) = 0) → Q (.bool false) h)) ∧ (¬ ((bgetE ((p%(65 : Int)) + (a%((65 : Int) - (p%(65 : Int))))) (b%(((65 : Int) - (p%(65 : Int))) - (a%((65 : Int) - (p%(65 : Int))))))) = 0) → Q (.bool false) h)) ∧ (¬ ((bgetE (p%(65 : Int)) (a%((65 : Int) - (p%(65 : Int))))) = 0) → Q (.bool false) h)
def cx_beltwaylaw01_BitsParts : Cx := { modes := [], pure := lkp [(9, p_beltwaymake_Mod), (10, p_bits_Mask), (12, p_bits_Fits), (14, p_beltwaylaw01_awake), (16, p_bits_Get)], loops := [], tails := [] }
theorem vc_beltwaylaw01_BitsParts_eq (w : BitVec 64) (p : Int) (a : Int) (b : Int) (h : Heap) (Q : SV → Heap → Prop) : vc_beltwaylaw01_BitsParts w p a b h Q = vc Try.prog cx_beltwaylaw01_BitsParts (Try.f7.body.getD .skip) 1000000 (finQ [8] Q) ([SV.u64 w, .int .i64 p, .int .i64 a, .int .i64 b] ++ List.replicate (100 - ([SV.u64 w, .int .i64 p, .int .i64 a, .int .i64 b]).length) undefV) h := by kernel_rfl
theorem of_beltwaylaw01_BitsParts {w : BitVec 64} {p : Int} {a : Int} {b : Int} {h : Heap} {Q : SV → Heap → Prop} (H : vc_beltwaylaw01_BitsParts w p a b h Q) : CallsH Try.prog 7 [.u64 w, .int .i64 p, .int .i64 a, .int .i64 b] h Q :=
  callsH_of_vc (cx := cx_beltwaylaw01_BitsParts) (cxOk (TabOk.cons pureOk_beltwaymake_Mod (TabOk.cons pureOk_bits_Mask (TabOk.cons pureOk_bits_Fits (TabOk.cons pureOk_beltwaylaw01_awake (TabOk.cons pureOk_bits_Get TabOk.nil)))))) (n := 100) (rs := [8]) Try.func7 (by kernel_rfl) (by kernel_rfl) Try.ntmps7 (by kernel_rfl) (Eq.mp (vc_beltwaylaw01_BitsParts_eq w p a b h Q) H)
theorem law_BitsParts (w : BitVec 64) (p : Int) (_ : I64 p) (a : Int) (_ : I64 a) (b : Int) (_ : I64 b) (h : Heap) :
    CallsH Try.prog 7 [.u64 w, .int .i64 p, .int .i64 a, .int .i64 b] h (fun r h' => r = .bool true ∧ HB h h') := by
  have p1 : 0 ≤ p % 65 := by omega
  have p2 : p % 65 < 65 := by omega
  have m1 : 0 ≤ a % (65 - p % 65) := Int.emod_nonneg _ (by omega)
  have m2 : a % (65 - p % 65) < 65 - p % 65 := Int.emod_lt_of_pos _ (by omega)
  have n1 : 0 ≤ b % (65 - p % 65 - a % (65 - p % 65)) := Int.emod_nonneg _ (by omega)
  have n2 : b % (65 - p % 65 - a % (65 - p % 65)) < 65 - p % 65 - a % (65 - p % 65) := Int.emod_lt_of_pos _ (by omega)
  refine of_beltwaylaw01_BitsParts ?_
  unfold vc_beltwaylaw01_BitsParts
  generalize p % 65 = x at *
  generalize a % (65 - x) = m at *
  generalize b % (65 - x - m) = n at *
  have e1 : bgetE x m = 0 := by unfold bgetE; rw [if_pos (okf_true p1 m1 (by omega))]
  have e2 : bgetE (x + m) n = 0 := by unfold bgetE; rw [if_pos (okf_true (by omega) n1 (by omega))]
  have hk : okf x (m + n) = true := okf_true p1 (by omega) (by omega)
  have e3 : bgetE x (m + n) = 0 := by unfold bgetE; rw [if_pos hk]
  have e4 := get_parts w p1 m1 n1 (by omega)
  have e5 := fits_get w hk
  have e6 := mask_parts m1 n1
  have hu : U64 m := by unfold U64; omega
  have hi : I64 (m + n) := by unfold I64; omega
  have him : I64 m := by unfold I64; omega
  have hin : I64 n := by unfold I64; omega
  refine ⟨by omega, by unfold I64; omega, by omega, by unfold I64; omega, by unfold I64; omega, by omega, by unfold I64; omega, hi, fun _ => ⟨fun _ => ⟨fun _ => ⟨hu, m1, fun _ => ⟨hi, hi, fun _ => ⟨him, hin, hu, m1, hi, hi, fun _ => ⟨rfl, .refl _⟩, fun h => absurd e6 h⟩, fun h => ?_⟩, fun h => absurd e4 h⟩, fun h => absurd e3 h⟩, fun h => absurd e2 h⟩, fun h => absurd e1 h⟩
  rw [e5] at h; cases h
namespace bitsParts
open Go.ChangeShapes Go.WideShapes Go.ChangeAt Go.RowKit Go.Vm
set_option linter.unusedVariables false
theorem own : ownKnob Try.prog.godebug = none := by kernel_rfl
theorem laidOut : laidOutB Try.prog = true := by kernel_rfl
set_option maxRecDepth 100000 in
theorem lifted (os : Os) (started : os.Started) (H : Type) (enc : TypeId × Value → H) :
    ReturnsInHanded {} Try.checked os 7 .any (Rows.bitsPartsSpec.pre6 enc Try.prog Try.f7 Rows.bitsPartsRow.domain false) (Rows.bitsPartsSpec.post enc Try.prog Try.f7 false true false false) := by
  refine returnsInHanded_of_change (C := Try.checked) own started (by kernel_rfl) Try.func7
    (ChangeSpec.witness6 (enc := enc) (C := Try.checked) false ⟨#[], #[.int .u64 0, .int .i64 0, .int .i64 0, .int .i64 0], []⟩ 8 (by kernel_rfl) (by kernel_rfl) (by kernel_rfl) (by kernel_rfl)) ?_
  intro W base args ds gs before hval0 hW hcnd _
  have hval : ∀ (j : Nat) t v, Try.f7.params[j]? = some t → args[j]? = some v → Value.okWide Try.prog W .any base t v := hval0
  have hW' := hW
  obtain ⟨p, q, hA0, hV, rfl, hfz, hnd⟩ := hW
  have hA : DataW.TrodAll enc Try.prog W 0 (fun _ => true) true Try.f7.params.toList args.toList ds p := hA0
  rw [Try.params7] at hA hval
  obtain ⟨v0, vs0, d0, ds0, p0, q0, hargs, rfl, rfl, h0, r0⟩ := trodAll_cons hA
  obtain ⟨v1, vs1, d1, ds1, p1, q1, rfl, rfl, rfl, h1, r1⟩ := trodAll_cons r0
  obtain ⟨v2, vs2, d2, ds2, p2, q2, rfl, rfl, rfl, h2, r2⟩ := trodAll_cons r1
  obtain ⟨v3, vs3, d3, ds3, p3, q3, rfl, rfl, rfl, h3, r3⟩ := trodAll_cons r2
  obtain ⟨rfl, rfl, rfl⟩ := trodAll_nil r3
  obtain rfl : args = #[v0, v1, v2, v3] := by cases args; simp_all
  obtain ⟨rfl, rfl⟩ := trodVars_none hV
  have k0 := h0
  have lt0 : ∀ x ∈ p0, x.block < W.heap.size := by obtain ⟨m, hm⟩ := k0; exact DataW.trod_lt m _ _ _ hm
  obtain ⟨a0, rfl, _, _, w0⟩ := open_int Try.underlying22 (hval 0 22 v0 rfl rfl) h0
  obtain ⟨x0, rfl⟩ := u64_of_wf w0
  have k1 := h1
  have lt1 : ∀ x ∈ p1, x.block < W.heap.size := by obtain ⟨m, hm⟩ := k1; exact DataW.trod_lt m _ _ _ hm
  obtain ⟨a1, rfl, _, _, w1⟩ := open_int Try.underlying3 (hval 1 3 v1 rfl rfl) h1
  have b1 := i64_of_wf w1
  have k2 := h2
  have lt2 : ∀ x ∈ p2, x.block < W.heap.size := by obtain ⟨m, hm⟩ := k2; exact DataW.trod_lt m _ _ _ hm
  obtain ⟨a2, rfl, _, _, w2⟩ := open_int Try.underlying3 (hval 2 3 v2 rfl rfl) h2
  have b2 := i64_of_wf w2
  have k3 := h3
  have lt3 : ∀ x ∈ p3, x.block < W.heap.size := by obtain ⟨m, hm⟩ := k3; exact DataW.trod_lt m _ _ _ hm
  obtain ⟨a3, rfl, _, _, w3⟩ := open_int Try.underlying3 (hval 3 3 v3 rfl rfl) h3
  have b3 := i64_of_wf w3
  refine (law_calls (f := 7) (vals := #[_, _, _, _]) (w := W) ?_ (law_BitsParts x0 a1 b1 a2 b2 a3 b3 W.heap)).mono fun e W' ⟨he, bel⟩ => ?_
  · rfl
  subst he
  simp only [List.append_nil] at hW'
  exact ⟨_, rfl, _, _, _, [], _, [], hW', trodAll_mk1 (shut_bool Try.underlying4 _), (trodAll_cons_mk (Below.trod laidOut (by kernel_rfl) (of_decide_eq_true (by kernel_rfl)) k0 bel lt0) (trodAll_cons_mk (Below.trod laidOut (by kernel_rfl) (of_decide_eq_true (by kernel_rfl)) k1 bel lt1) (trodAll_cons_mk (Below.trod laidOut (by kernel_rfl) (of_decide_eq_true (by kernel_rfl)) k2 bel lt2) (trodAll_cons_mk (Below.trod laidOut (by kernel_rfl) (of_decide_eq_true (by kernel_rfl)) k3 bel lt3) trodAll_mk0)))), rfl, bel.frame _, fun h => by cases h⟩
theorem proved : Rows.BitsPartsSaid :=
  OpenClaim.holds_of_wide 7 Try.f7 rfl rfl rfl rfl rfl rfl rfl ⟨rfl, rfl, rfl, rfl, rfl⟩ rfl rfl rfl rfl rfl (by kernel_rfl) Try.func7 (by kernel_rfl)
    (of_decide_eq_true (by kernel_rfl)) (by unfold Func.isWrapper; first | (rw [if_pos (by decide +kernel)]; kernel_rfl) | (rw [if_neg (by decide +kernel)]; exact ⟨rfl, rfl⟩))
    (fun os started H enc _ => lifted os started H enc)
end bitsParts

def vc_bits_Log (n : Int) (h : Heap) (Q : SV → Heap → Prop) : Prop :=
  ∃ (I1 : List SV → Heap → Prop) (μ1 : List SV → Heap → Nat), I1 [.int .i64 0] h ∧ ∀ (_ : Nat → SV) (n1 : Int), ∀ (h1 : Heap), I1 [.int .i64 n1] h1 → (n1 < 63 → (U64 n1) ∧ (0 ≤ n1 ∧ n1.toNat < 64 ∧ I64 ((1 : Int) * 2 ^ n1.toNat)) ∧ (n = ((1 : Int) * 2 ^ n1.toNat) → Q (.tup [.int .i64 n1, .bool true]) h1) ∧ (¬ (n = ((1 : Int) * 2 ^ n1.toNat)) → (I64 (n1 + 1)) ∧ I1 [.int .i64 (n1 + 1)] h1 ∧ μ1 [.int .i64 (n1 + 1)] h1 < μ1 [.int .i64 n1] h1)) ∧ (¬ (n1 < 63) → Q (.tup [.int .i64 0, .bool false]) h1)
def cx_bits_Log : Cx := { modes := [], pure := lkp [], loops := [(0, { live := [(4, .one (.int .i64))], dead := [2, 3, 5, 6, 7, 8, 9, 10, 11, 12, 13, 14] })], tails := [] }
theorem vc_bits_Log_eq (n : Int) (h : Heap) (Q : SV → Heap → Prop) : vc_bits_Log n h Q = vc Try.prog cx_bits_Log (Try.f20.body.getD .skip) 1000000 (finQ [2, 3] Q) ([SV.int .i64 n] ++ List.replicate (15 - ([SV.int .i64 n]).length) undefV) h := by kernel_rfl
theorem of_bits_Log {n : Int} {h : Heap} {Q : SV → Heap → Prop} (H : vc_bits_Log n h Q) : CallsH Try.prog 20 [.int .i64 n] h Q :=
  callsH_of_vc (cx := cx_bits_Log) (cxOk TabOk.nil) (n := 15) (rs := [2, 3]) Try.func20 (by kernel_rfl) (by kernel_rfl) Try.ntmps20 (by kernel_rfl) (Eq.mp (vc_bits_Log_eq n h Q) H)
def p_bits_Log : List SV → Pu
  | [.int .i64 n] => val (.tup [.int .i64 ((lg n).1), .bool ((lg n).2)])
  | _ => none
theorem bits_Log_ok (n : Int) (h : Heap) : CallsH Try.prog 20 [.int .i64 n] h (fun r h' => r = .tup [.int .i64 ((lg n).1), .bool ((lg n).2)] ∧ h' = h) := by
  refine of_bits_Log ⟨fun vs g => ∃ i : Nat, vs = [.int .i64 i] ∧ i ≤ 63 ∧ lg n = lgGo n i (63 - i) ∧ g = h, fun vs _ => match vs with | [.int _ i] => (63 - i).toNat | _ => 0, ⟨0, rfl, by omega, rfl, rfl⟩, ?_⟩
  rintro _ i g ⟨k, he, hk, hl, rfl⟩
  simp only [List.cons.injEq, SV.int.injEq, true_and, and_true] at he
  subst he
  have hu : U64 (k : Int) := by unfold U64; omega
  refine ⟨fun hlt => ⟨hu, ⟨by omega, by omega, ?_⟩, fun hn => ?_, fun hn => ?_⟩, fun hge => ?_⟩
  · obtain ⟨b1, b2⟩ := pow_bounds (k := k) (m := 62) (by omega)
    have b3 : (2 : Int) ^ 62 = 4611686018427387904 := by decide
    rw [Int.toNat_natCast]; unfold I64; omega
  · rw [Int.toNat_natCast, Int.one_mul] at hn
    have e : 63 - k = (62 - k) + 1 := by omega
    rw [e, lgGo, if_pos hn] at hl
    rw [hl]; exact ⟨rfl, rfl⟩
  · rw [Int.toNat_natCast, Int.one_mul] at hn
    have e : 63 - k = (62 - k) + 1 := by omega
    rw [e, lgGo, if_neg hn] at hl
    refine ⟨by unfold I64; omega, ⟨k + 1, by simp, by omega, by rw [hl]; congr 1; omega, rfl⟩, ?_⟩
    show (63 - ((k : Int) + 1)).toNat < (63 - (k : Int)).toNat
    omega
  · have e : 63 - k = 0 := by omega
    rw [e, lgGo] at hl
    rw [hl]; exact ⟨rfl, rfl⟩
theorem pureOk_bits_Log : PureOk Try.prog 20 p_bits_Log := by
  intro args
  unfold p_bits_Log
  split
  · exact ok_val fun h => (bits_Log_ok _ h).mono fun r h' ⟨h1, h2⟩ => ⟨by rw [h1], h2⟩
  · exact ok_none
def vc_beltwayref01_Log (n : Int) (h : Heap) (Q : SV → Heap → Prop) : Prop :=
  ∃ (I1 : List SV → Heap → Prop) (μ1 : List SV → Heap → Nat), I1 [.int .i64 0] h ∧ ∀ (_ : Nat → SV) (n1 : Int), ∀ (h1 : Heap), I1 [.int .i64 n1] h1 → (n1 < 63 → (U64 n1) ∧ (0 ≤ n1 ∧ n1.toNat < 64 ∧ I64 ((1 : Int) * 2 ^ n1.toNat)) ∧ (n = ((1 : Int) * 2 ^ n1.toNat) → Q (.tup [.int .i64 n1, .bool true]) h1) ∧ (¬ (n = ((1 : Int) * 2 ^ n1.toNat)) → (I64 (n1 + 1)) ∧ I1 [.int .i64 (n1 + 1)] h1 ∧ μ1 [.int .i64 (n1 + 1)] h1 < μ1 [.int .i64 n1] h1)) ∧ (¬ (n1 < 63) → Q (.tup [.int .i64 0, .bool false]) h1)
def cx_beltwayref01_Log : Cx := { modes := [], pure := lkp [], loops := [(0, { live := [(4, .one (.int .i64))], dead := [2, 3, 5, 6, 7, 8, 9, 10, 11, 12, 13, 14] })], tails := [] }
theorem vc_beltwayref01_Log_eq (n : Int) (h : Heap) (Q : SV → Heap → Prop) : vc_beltwayref01_Log n h Q = vc Try.prog cx_beltwayref01_Log (Try.f21.body.getD .skip) 1000000 (finQ [2, 3] Q) ([SV.int .i64 n] ++ List.replicate (15 - ([SV.int .i64 n]).length) undefV) h := by kernel_rfl
theorem of_beltwayref01_Log {n : Int} {h : Heap} {Q : SV → Heap → Prop} (H : vc_beltwayref01_Log n h Q) : CallsH Try.prog 21 [.int .i64 n] h Q :=
  callsH_of_vc (cx := cx_beltwayref01_Log) (cxOk TabOk.nil) (n := 15) (rs := [2, 3]) Try.func21 (by kernel_rfl) (by kernel_rfl) Try.ntmps21 (by kernel_rfl) (Eq.mp (vc_beltwayref01_Log_eq n h Q) H)
def p_beltwayref01_Log : List SV → Pu
  | [.int .i64 n] => val (.tup [.int .i64 ((lg n).1), .bool ((lg n).2)])
  | _ => none
theorem beltwayref01_Log_ok (n : Int) (h : Heap) : CallsH Try.prog 21 [.int .i64 n] h (fun r h' => r = .tup [.int .i64 ((lg n).1), .bool ((lg n).2)] ∧ h' = h) := by
  refine of_beltwayref01_Log ⟨fun vs g => ∃ i : Nat, vs = [.int .i64 i] ∧ i ≤ 63 ∧ lg n = lgGo n i (63 - i) ∧ g = h, fun vs _ => match vs with | [.int _ i] => (63 - i).toNat | _ => 0, ⟨0, rfl, by omega, rfl, rfl⟩, ?_⟩
  rintro _ i g ⟨k, he, hk, hl, rfl⟩
  simp only [List.cons.injEq, SV.int.injEq, true_and, and_true] at he
  subst he
  have hu : U64 (k : Int) := by unfold U64; omega
  refine ⟨fun hlt => ⟨hu, ⟨by omega, by omega, ?_⟩, fun hn => ?_, fun hn => ?_⟩, fun hge => ?_⟩
  · obtain ⟨b1, b2⟩ := pow_bounds (k := k) (m := 62) (by omega)
    have b3 : (2 : Int) ^ 62 = 4611686018427387904 := by decide
    rw [Int.toNat_natCast]; unfold I64; omega
  · rw [Int.toNat_natCast, Int.one_mul] at hn
    have e : 63 - k = (62 - k) + 1 := by omega
    rw [e, lgGo, if_pos hn] at hl
    rw [hl]; exact ⟨rfl, rfl⟩
  · rw [Int.toNat_natCast, Int.one_mul] at hn
    have e : 63 - k = (62 - k) + 1 := by omega
    rw [e, lgGo, if_neg hn] at hl
    refine ⟨by unfold I64; omega, ⟨k + 1, by simp, by omega, by rw [hl]; congr 1; omega, rfl⟩, ?_⟩
    show (63 - ((k : Int) + 1)).toNat < (63 - (k : Int)).toNat
    omega
  · have e : 63 - k = 0 := by omega
    rw [e, lgGo] at hl
    rw [hl]; exact ⟨rfl, rfl⟩
theorem pureOk_beltwayref01_Log : PureOk Try.prog 21 p_beltwayref01_Log := by
  intro args
  unfold p_beltwayref01_Log
  split
  · exact ok_val fun h => (beltwayref01_Log_ok _ h).mono fun r h' ⟨h1, h2⟩ => ⟨by rw [h1], h2⟩
  · exact ok_none
def vc_beltwaylaw01_BitsLogs (n : Int) (s : Int) (h : Heap) (Q : SV → Heap → Prop) : Prop :=
  (0 < (64 : Int) ∧ (64 : Int) ≤ 9223372036854775807) ∧ (U64 (s%(64 : Int))) ∧ (0 ≤ (s%(64 : Int))) ∧ (U64 (s%(64 : Int))) ∧ (0 ≤ (s%(64 : Int))) ∧ (U64 (s%(64 : Int))) ∧ (0 ≤ (s%(64 : Int))) ∧ ∀ (k1 : Nat) (h1 : Heap), HNew h [.int .i64 n, .int .i64 (IntKind.i64.wrap ((1 : Int) * 2 ^ min (s%(64 : Int)).toNat 64)), .int .i64 (IntKind.wrap .i64 ((IntKind.i64.wrap ((1 : Int) * 2 ^ min (s%(64 : Int)).toNat 64)) + 1)), .int .i64 (IntKind.wrap .i64 ((IntKind.i64.wrap ((1 : Int) * 2 ^ min (s%(64 : Int)).toNat 64)) - 1))] 3 k1 h1 → ∃ (I1 : List SV → Heap → Prop) (μ1 : List SV → Heap → Nat), I1 [.int .i64 0] h1 ∧ ∀ (_ : Nat → SV) (n1 : Int), ∀ (h2 : Heap), I1 [.int .i64 n1] h2 → (n1 < 4 → (Ix (some ⟨k1, 0, none⟩) 4 n1) ∧ ∃ (n2 : Int), HLd h2 (padd (some ⟨k1, 0, none⟩) (n1.toNat * 1)) [.int .i64 n2] ∧ ((¬ ((lg n2).1) = ((lg n2).1)) → Q (.bool false) h2) ∧ (¬ (¬ ((lg n2).1) = ((lg n2).1)) → ((¬ ((lg n2).2) = ((lg n2).2)) → Q (.bool false) h2) ∧ (¬ (¬ ((lg n2).2) = ((lg n2).2)) → (I64 (n1 + 1)) ∧ I1 [.int .i64 (n1 + 1)] h2 ∧ μ1 [.int .i64 (n1 + 1)] h2 < μ1 [.int .i64 n1] h2))) ∧ (¬ (n1 < 4) → ∀ (k2 : Nat) (h3 : Heap), HNew h2 [.int .i64 n, .int .i64 s] 3 k2 h3 → (0 < (5000 : Int) ∧ (5000 : Int) ≤ 9223372036854775807) ∧ (0 < (23 : Int) ∧ (23 : Int) ≤ 9223372036854775807) ∧ (I64 ((s%(23 : Int)) - 1)) ∧ ∀ (k3 : Nat) (h4 : Heap), HNew h3 [.int .i64 (n%(5000 : Int)), .int .i64 ((s%(23 : Int)) - 1)] 3 k3 h4 → (0 < (3 : Int) ∧ (3 : Int) ≤ 9223372036854775807) ∧ (I64 ((1099511627776 : Int) + (n%(3 : Int)))) ∧ (I64 (((1099511627776 : Int) + (n%(3 : Int))) - 1)) ∧ (0 < (21 : Int) ∧ (21 : Int) ≤ 9223372036854775807) ∧ ∀ (k4 : Nat) (h5 : Heap), HNew h4 [.int .i64 (((1099511627776 : Int) + (n%(3 : Int))) - 1), .int .i64 (s%(21 : Int))] 3 k4 h5 → ∀ (k5 : Nat) (h6 : Heap), HNew h5 [.sl (some ⟨k2, 0, none⟩) 2 2, .sl (some ⟨k3, 0, none⟩) 2 2, .sl (some ⟨k4, 0, none⟩) 2 2] 24 k5 h6 → ∃ (I2 : List SV → Heap → Prop) (μ2 : List SV → Heap → Nat), I2 [.int .i64 0] h6 ∧ ∀ (_ : Nat → SV) (n3 : Int), ∀ (h7 : Heap), I2 [.int .i64 n3] h7 → (n3 < 3 → (Ix (some ⟨k5, 0, none⟩) 3 n3) ∧ ∃ (a1 : Option Addr) (l1 : Nat) (c1 : Nat), HLd h7 (padd (some ⟨k5, 0, none⟩) (n3.toNat * 1)) [.sl a1 l1 c1] ∧ (Ix a1 l1 0) ∧ ∃ (n4 : Int), HLd h7 (padd a1 ((0 : Int).toNat * 1)) [.int .i64 n4] ∧ (Ix a1 l1 1) ∧ ∃ (n5 : Int), HLd h7 (padd a1 ((1 : Int).toNat * 1)) [.int .i64 n5] ∧ (Ix a1 l1 0) ∧ ∃ (n6 : Int), HLd h7 (padd a1 ((0 : Int).toNat * 1)) [.int .i64 n6] ∧ (Ix a1 l1 1) ∧ ∃ (n7 : Int), HLd h7 (padd a1 ((1 : Int).toNat * 1)) [.int .i64 n7] ∧ ((¬ (ceilQ n4 n5) = (ceilQ n6 n7)) → Q (.bool false) h7) ∧ (¬ (¬ (ceilQ n4 n5) = (ceilQ n6 n7)) → (I64 (n3 + 1)) ∧ I2 [.int .i64 (n3 + 1)] h7 ∧ μ2 [.int .i64 (n3 + 1)] h7 < μ2 [.int .i64 n3] h7)) ∧ (¬ (n3 < 3) → Q (.bool true) h7))
def cx_beltwaylaw01_BitsLogs : Cx := { modes := [(19, 1), (22, 1), (23, 1), (26, 1), (27, 1)], pure := lkp [(9, p_beltwaymake_Mod), (14, p_beltwaylaw01_awake), (17, p_bits_Ceil), (20, p_bits_Log), (21, p_beltwayref01_Log), (22, p_beltwayref01_Ceil)], loops := [(0, { live := [(30, .one (.int .i64))], dead := [4, 7, 8, 9, 10, 11, 31, 32, 33, 34, 35, 36, 37, 38, 39, 40, 41, 42, 43, 44, 45, 46, 47, 48, 49, 50, 51, 52] }), (2, { live := [(71, .one (.int .i64))], dead := [4, 13, 72, 73, 74, 75, 76, 77, 78, 79, 80, 81, 82, 83, 84, 85, 86, 87, 88, 89, 90] })], tails := [] }
theorem vc_beltwaylaw01_BitsLogs_eq (n : Int) (s : Int) (h : Heap) (Q : SV → Heap → Prop) : vc_beltwaylaw01_BitsLogs n s h Q = vc Try.prog cx_beltwaylaw01_BitsLogs (Try.f8.body.getD .skip) 1000000 (finQ [4] Q) ([SV.int .i64 n, .int .i64 s] ++ List.replicate (92 - ([SV.int .i64 n, .int .i64 s]).length) undefV) h := by kernel_rfl
theorem of_beltwaylaw01_BitsLogs {n : Int} {s : Int} {h : Heap} {Q : SV → Heap → Prop} (H : vc_beltwaylaw01_BitsLogs n s h Q) : CallsH Try.prog 8 [.int .i64 n, .int .i64 s] h Q :=
  callsH_of_vc (cx := cx_beltwaylaw01_BitsLogs) (cxOk (TabOk.cons pureOk_beltwaymake_Mod (TabOk.cons pureOk_beltwaylaw01_awake (TabOk.cons pureOk_bits_Ceil (TabOk.cons pureOk_bits_Log (TabOk.cons pureOk_beltwayref01_Log (TabOk.cons pureOk_beltwayref01_Ceil TabOk.nil))))))) (n := 92) (rs := [4]) Try.func8 (by kernel_rfl) (by kernel_rfl) Try.ntmps8 (by kernel_rfl) (Eq.mp (vc_beltwaylaw01_BitsLogs_eq n s h Q) H)
theorem law_BitsLogs (n : Int) (hn : I64 n) (s : Int) (hs : I64 s) (h : Heap) :
    CallsH Try.prog 8 [.int .i64 n, .int .i64 s] h (fun r h' => r = .bool true ∧ HB h h') := by
  have hn' := hn
  have hs' := hs
  unfold I64 at hn hs
  have u0 : U64 (s % 64) := by unfold U64; omega
  have u1 : 0 ≤ s % 64 := by omega
  refine of_beltwaylaw01_BitsLogs ⟨by omega, u0, u1, u0, u1, u0, u1, ?_⟩
  intro k1 h1 hn1
  refine ⟨fun vs g => ∃ i : Int, vs = [.int .i64 i] ∧ 0 ≤ i ∧ i ≤ 4 ∧ HB h1 g, fun vs _ => match vs with | [.int _ i] => (4 - i).toNat | _ => 0, ⟨0, rfl, by omega, by omega, .refl _⟩, ?_⟩
  rintro _ i h2 ⟨_, he, h0, hi, hb⟩
  simp only [List.cons.injEq, SV.int.injEq, true_and, and_true] at he
  subst he
  refine ⟨fun hlt => ?_, fun hge => ?_⟩
  · refine ⟨ix_new _ _ _ h0 (by omega), ?_⟩
    obtain ⟨x, hx⟩ : ∃ x : Int, ([.int .i64 n, .int .i64 (IntKind.i64.wrap ((1 : Int) * 2 ^ min (s % 64).toNat 64)), .int .i64 (IntKind.i64.wrap ((IntKind.i64.wrap ((1 : Int) * 2 ^ min (s % 64).toNat 64)) + 1)), .int .i64 (IntKind.i64.wrap ((IntKind.i64.wrap ((1 : Int) * 2 ^ min (s % 64).toNat 64)) - 1))] : List SV)[i.toNat * 1]? = some (.int .i64 x) := by
      obtain rfl | rfl | rfl | rfl : i = 0 ∨ i = 1 ∨ i = 2 ∨ i = 3 := by omega
      all_goals exact ⟨_, rfl⟩
    refine ⟨x, hn1.ld hb hx, fun h => absurd rfl h, fun _ => ⟨fun h => absurd rfl h, fun _ => ⟨by unfold I64; omega, ⟨_, rfl, by omega, by omega, hb⟩, ?_⟩⟩⟩
    show (4 - (i + 1)).toNat < (4 - i).toNat
    omega
  · intro k2 h3 hn2
    refine ⟨by omega, by omega, by unfold I64; omega, ?_⟩
    intro k3 h4 hn3
    refine ⟨by omega, by unfold I64; omega, by unfold I64; omega, by omega, ?_⟩
    intro k4 h5 hn4 k5 h6 hn5
    have g0 : HB h h2 := (HB.new hn1).trans hb
    have g1 : HB h h6 := (((g0.trans (.new hn2)).trans (.new hn3)).trans (.new hn4)).trans (.new hn5)
    have q2 : HPair h6 k2 n s := (HPair.new hn2).mono (((HB.new hn3).trans (.new hn4)).trans (.new hn5))
    have q3 := (HPair.new hn3).mono ((HB.new hn4).trans (.new hn5))
    have q4 := (HPair.new hn4).mono (HB.new hn5)
    refine ⟨fun vs g => ∃ i : Int, vs = [.int .i64 i] ∧ 0 ≤ i ∧ i ≤ 3 ∧ HB h6 g, fun vs _ => match vs with | [.int _ i] => (3 - i).toNat | _ => 0, ⟨0, rfl, by omega, by omega, .refl _⟩, ?_⟩
    rintro _ i h7 ⟨_, he, h0, hi, hb7⟩
    simp only [List.cons.injEq, SV.int.injEq, true_and, and_true] at he
    subst he
    refine ⟨fun hlt => ⟨ix_new _ _ _ h0 (by omega), ?_⟩, fun _ => ⟨rfl, g1.trans hb7⟩⟩
    obtain ⟨b, x, y, hx, hp⟩ : ∃ (b : Nat) (x y : Int), ([.sl (some ⟨k2, 0, none⟩) 2 2, .sl (some ⟨k3, 0, none⟩) 2 2, .sl (some ⟨k4, 0, none⟩) 2 2] : List SV)[i.toNat * 1]? = some (.sl (some ⟨b, 0, none⟩) 2 2) ∧ HPair h7 b x y := by
      obtain rfl | rfl | rfl : i = 0 ∨ i = 1 ∨ i = 2 := by omega
      · exact ⟨_, _, _, rfl, q2.mono hb7⟩
      · exact ⟨_, _, _, rfl, q3.mono hb7⟩
      · exact ⟨_, _, _, rfl, q4.mono hb7⟩
    refine ⟨_, _, _, hn5.ld hb7 hx, ix0 _, _, hp.ld0, ix1 _, _, hp.ld1, ix0 _, _, hp.ld0, ix1 _, _, hp.ld1, fun h => absurd rfl h, fun _ => ⟨by unfold I64; omega, ⟨_, rfl, by omega, by omega, hb7⟩, ?_⟩⟩
    show (3 - (i + 1)).toNat < (3 - i).toNat
    omega
namespace bitsLogs
open Go.ChangeShapes Go.WideShapes Go.ChangeAt Go.RowKit Go.Vm
set_option linter.unusedVariables false
theorem own : ownKnob Try.prog.godebug = none := by kernel_rfl
theorem laidOut : laidOutB Try.prog = true := by kernel_rfl
set_option maxRecDepth 100000 in
theorem lifted (os : Os) (started : os.Started) (H : Type) (enc : TypeId × Value → H) :
    ReturnsInHanded {} Try.checked os 8 .any (Rows.bitsLogsSpec.pre6 enc Try.prog Try.f8 Rows.bitsLogsRow.domain false) (Rows.bitsLogsSpec.post enc Try.prog Try.f8 false true false false) := by
  refine returnsInHanded_of_change (C := Try.checked) own started (by kernel_rfl) Try.func8
    (ChangeSpec.witness6 (enc := enc) (C := Try.checked) false ⟨#[], #[.int .i64 0, .int .i64 0], []⟩ 8 (by kernel_rfl) (by kernel_rfl) (by kernel_rfl) (by kernel_rfl)) ?_
  intro W base args ds gs before hval0 hW hcnd _
  have hval : ∀ (j : Nat) t v, Try.f8.params[j]? = some t → args[j]? = some v → Value.okWide Try.prog W .any base t v := hval0
  have hW' := hW
  obtain ⟨p, q, hA0, hV, rfl, hfz, hnd⟩ := hW
  have hA : DataW.TrodAll enc Try.prog W 0 (fun _ => true) true Try.f8.params.toList args.toList ds p := hA0
  rw [Try.params8] at hA hval
  obtain ⟨v0, vs0, d0, ds0, p0, q0, hargs, rfl, rfl, h0, r0⟩ := trodAll_cons hA
  obtain ⟨v1, vs1, d1, ds1, p1, q1, rfl, rfl, rfl, h1, r1⟩ := trodAll_cons r0
  obtain ⟨rfl, rfl, rfl⟩ := trodAll_nil r1
  obtain rfl : args = #[v0, v1] := by cases args; simp_all
  obtain ⟨rfl, rfl⟩ := trodVars_none hV
  have k0 := h0
  have lt0 : ∀ x ∈ p0, x.block < W.heap.size := by obtain ⟨m, hm⟩ := k0; exact DataW.trod_lt m _ _ _ hm
  obtain ⟨a0, rfl, _, _, w0⟩ := open_int Try.underlying3 (hval 0 3 v0 rfl rfl) h0
  have b0 := i64_of_wf w0
  have k1 := h1
  have lt1 : ∀ x ∈ p1, x.block < W.heap.size := by obtain ⟨m, hm⟩ := k1; exact DataW.trod_lt m _ _ _ hm
  obtain ⟨a1, rfl, _, _, w1⟩ := open_int Try.underlying3 (hval 1 3 v1 rfl rfl) h1
  have b1 := i64_of_wf w1
  refine (law_calls (f := 8) (vals := #[_, _]) (w := W) ?_ (law_BitsLogs a0 b0 a1 b1 W.heap)).mono fun e W' ⟨he, bel⟩ => ?_
  · rfl
  subst he
  simp only [List.append_nil] at hW'
  exact ⟨_, rfl, _, _, _, [], _, [], hW', trodAll_mk1 (shut_bool Try.underlying4 _), (trodAll_cons_mk (Below.trod laidOut (by kernel_rfl) (of_decide_eq_true (by kernel_rfl)) k0 bel lt0) (trodAll_cons_mk (Below.trod laidOut (by kernel_rfl) (of_decide_eq_true (by kernel_rfl)) k1 bel lt1) trodAll_mk0)), rfl, bel.frame _, fun h => by cases h⟩
theorem proved : Rows.BitsLogsSaid :=
  OpenClaim.holds_of_wide 8 Try.f8 rfl rfl rfl rfl rfl rfl rfl ⟨rfl, rfl, rfl, rfl, rfl⟩ rfl rfl rfl rfl rfl (by kernel_rfl) Try.func8 (by kernel_rfl)
    (of_decide_eq_true (by kernel_rfl)) (by unfold Func.isWrapper; first | (rw [if_pos (by decide +kernel)]; kernel_rfl) | (rw [if_neg (by decide +kernel)]; exact ⟨rfl, rfl⟩))
    (fun os started H enc _ => lifted os started H enc)
end bitsLogs

def vc_beltwaylaw01_BitsFields (w : BitVec 64) (v : BitVec 64) (p : Int) (n : Int) (h : Heap) (Q : SV → Heap → Prop) : Prop :=
  ∀ (k1 : Nat) (h1 : Heap), HNew h [.int .i64 p, .int .i64 n] 3 k1 h1 → (0 < (68 : Int) ∧ (68 : Int) ≤ 9223372036854775807) ∧ (I64 ((p%(68 : Int)) - 2)) ∧ (0 < (68 : Int) ∧ (68 : Int) ≤ 9223372036854775807) ∧ (I64 ((n%(68 : Int)) - 2)) ∧ ∀ (k2 : Nat) (h2 : Heap), HNew h1 [.int .i64 ((p%(68 : Int)) - 2), .int .i64 ((n%(68 : Int)) - 2)] 3 k2 h2 → (0 < (65 : Int) ∧ (65 : Int) ≤ 9223372036854775807) ∧ (0 < (65 : Int) ∧ (65 : Int) ≤ 9223372036854775807) ∧ (I64 ((64 : Int) - (p%(65 : Int)))) ∧ ∀ (k3 : Nat) (h3 : Heap), HNew h2 [.int .i64 (p%(65 : Int)), .int .i64 ((64 : Int) - (p%(65 : Int)))] 3 k3 h3 → ∀ (k4 : Nat) (h4 : Heap), HNew h3 [.sl (some ⟨k1, 0, none⟩) 2 2, .sl (some ⟨k2, 0, none⟩) 2 2, .sl (some ⟨k3, 0, none⟩) 2 2] 24 k4 h4 → ∃ (I1 : List SV → Heap → Prop) (μ1 : List SV → Heap → Nat), I1 [.int .i64 0] h4 ∧ ∀ (_ : Nat → SV) (n1 : Int), ∀ (h5 : Heap), I1 [.int .i64 n1] h5 → (n1 < 3 → (Ix (some ⟨k4, 0, none⟩) 3 n1) ∧ ∃ (a1 : Option Addr) (l1 : Nat) (c1 : Nat), HLd h5 (padd (some ⟨k4, 0, none⟩) (n1.toNat * 1)) [.sl a1 l1 c1] ∧ (Ix a1 l1 0) ∧ ∃ (n2 : Int), HLd h5 (padd a1 ((0 : Int).toNat * 1)) [.int .i64 n2] ∧ (Ix a1 l1 1) ∧ ∃ (n3 : Int), HLd h5 (padd a1 ((1 : Int).toNat * 1)) [.int .i64 n3] ∧ (Ix a1 l1 0) ∧ ∃ (n4 : Int), HLd h5 (padd a1 ((0 : Int).toNat * 1)) [.int .i64 n4] ∧ (Ix a1 l1 1) ∧ ∃ (n5 : Int), HLd h5 (padd a1 ((1 : Int).toNat * 1)) [.int .i64 n5] ∧ ((¬ (bget w n2 n3) = (bget w n4 n5)) → Q (.bool false) h5) ∧ (¬ (¬ (bget w n2 n3) = (bget w n4 n5)) → ((¬ (bgetE n2 n3) = (bgetE n4 n5)) → Q (.bool false) h5) ∧ (¬ (¬ (bgetE n2 n3) = (bgetE n4 n5)) → (Ix a1 l1 1) ∧ ∃ (n6 : Int), HLd h5 (padd a1 ((1 : Int).toNat * 1)) [.int .i64 n6] ∧ (I64 n6) ∧ ∀ (k5 : Nat) (h6 : Heap), HNew h5 [.u64 v, .u64 (v &&& (mask n6))] 22 k5 h6 → ∃ (I2 : List SV → Heap → Prop) (μ2 : List SV → Heap → Nat), I2 [.int .i64 0] h6 ∧ ∀ (_ : Nat → SV) (n7 : Int), ∀ (h7 : Heap), I2 [.int .i64 n7] h7 → (n7 < 2 → (Ix (some ⟨k5, 0, none⟩) 2 n7) ∧ ∃ (x1 : BitVec 64), HLd h7 (padd (some ⟨k5, 0, none⟩) (n7.toNat * 1)) [.u64 x1] ∧ (Ix a1 l1 0) ∧ ∃ (n8 : Int), HLd h7 (padd a1 ((0 : Int).toNat * 1)) [.int .i64 n8] ∧ (Ix a1 l1 1) ∧ ∃ (n9 : Int), HLd h7 (padd a1 ((1 : Int).toNat * 1)) [.int .i64 n9] ∧ (Ix a1 l1 0) ∧ ∃ (n10 : Int), HLd h7 (padd a1 ((0 : Int).toNat * 1)) [.int .i64 n10] ∧ (Ix a1 l1 1) ∧ ∃ (n11 : Int), HLd h7 (padd a1 ((1 : Int).toNat * 1)) [.int .i64 n11] ∧ ((¬ (bput w n8 n9 x1) = (bput w n10 n11 x1)) → Q (.bool false) h7) ∧ (¬ (¬ (bput w n8 n9 x1) = (bput w n10 n11 x1)) → ((¬ (bputE n8 n9 x1) = (bputE n10 n11 x1)) → Q (.bool false) h7) ∧ (¬ (¬ (bputE n8 n9 x1) = (bputE n10 n11 x1)) → (I64 (n7 + 1)) ∧ I2 [.int .i64 (n7 + 1)] h7 ∧ μ2 [.int .i64 (n7 + 1)] h7 < μ2 [.int .i64 n7] h7))) ∧ (¬ (n7 < 2) → (I64 (n1 + 1)) ∧ I1 [.int .i64 (n1 + 1)] h7 ∧ μ1 [.int .i64 (n1 + 1)] h7 < μ1 [.int .i64 n1] h5)))) ∧ (¬ (n1 < 3) → Q (.bool true) h5)
def cx_beltwaylaw01_BitsFields : Cx := { modes := [], pure := lkp [(9, p_beltwaymake_Mod), (11, p_beltwayref01_Mask), (14, p_beltwaylaw01_awake), (15, p_bits_Put), (16, p_bits_Get), (18, p_beltwayref01_Get), (19, p_beltwayref01_Put)], loops := [(0, { live := [(35, .one (.int .i64))], dead := [8, 10, 11, 12, 13, 14, 16, 36, 37, 38, 39, 40, 41, 42, 43, 44, 45, 46, 47, 48, 49, 50, 51, 52, 53, 54, 55, 56, 57, 58, 59, 60, 61, 62, 63, 64, 65, 66, 67, 68, 69, 70, 71, 72, 73, 74, 75, 76, 77, 78, 79, 80, 81, 82, 83, 84, 85, 86, 87, 88, 89, 90, 91, 92, 93, 94, 95, 96, 97, 98, 99, 100, 101, 102, 103, 104, 105, 106, 107, 108, 109, 110, 111, 112, 113, 114, 115] }), (2, { live := [(78, .one (.int .i64))], dead := [8, 11, 12, 13, 14, 16, 79, 80, 81, 82, 83, 84, 85, 86, 87, 88, 89, 90, 91, 92, 93, 94, 95, 96, 97, 98, 99, 100, 101, 102, 103, 104, 105, 106, 107, 108, 109, 110, 111, 112, 113, 114] })], tails := [] }
theorem vc_beltwaylaw01_BitsFields_eq (w : BitVec 64) (v : BitVec 64) (p : Int) (n : Int) (h : Heap) (Q : SV → Heap → Prop) : vc_beltwaylaw01_BitsFields w v p n h Q = vc Try.prog cx_beltwaylaw01_BitsFields (Try.f6.body.getD .skip) 1000000 (finQ [8] Q) ([SV.u64 w, .u64 v, .int .i64 p, .int .i64 n] ++ List.replicate (117 - ([SV.u64 w, .u64 v, .int .i64 p, .int .i64 n]).length) undefV) h := by kernel_rfl
theorem of_beltwaylaw01_BitsFields {w : BitVec 64} {v : BitVec 64} {p : Int} {n : Int} {h : Heap} {Q : SV → Heap → Prop} (H : vc_beltwaylaw01_BitsFields w v p n h Q) : CallsH Try.prog 6 [.u64 w, .u64 v, .int .i64 p, .int .i64 n] h Q :=
  callsH_of_vc (cx := cx_beltwaylaw01_BitsFields) (cxOk (TabOk.cons pureOk_beltwaymake_Mod (TabOk.cons pureOk_beltwayref01_Mask (TabOk.cons pureOk_beltwaylaw01_awake (TabOk.cons pureOk_bits_Put (TabOk.cons pureOk_bits_Get (TabOk.cons pureOk_beltwayref01_Get (TabOk.cons pureOk_beltwayref01_Put TabOk.nil)))))))) (n := 117) (rs := [8]) Try.func6 (by kernel_rfl) (by kernel_rfl) Try.ntmps6 (by kernel_rfl) (Eq.mp (vc_beltwaylaw01_BitsFields_eq w v p n h Q) H)
theorem law_BitsFields (w v : BitVec 64) (p : Int) (hp : I64 p) (n : Int) (hn : I64 n) (h : Heap) :
    CallsH Try.prog 6 [.u64 w, .u64 v, .int .i64 p, .int .i64 n] h (fun r h' => r = .bool true ∧ HB h h') := by
  have hp' := hp
  have hn' := hn
  unfold I64 at hp hn
  refine of_beltwaylaw01_BitsFields ?_
  intro k1 h1 hn1
  refine ⟨by omega, by unfold I64; omega, by omega, by unfold I64; omega, ?_⟩
  intro k2 h2 hn2
  refine ⟨by omega, by omega, by unfold I64; omega, ?_⟩
  intro k3 h3 hn3 k4 h4 hn4
  have g1 : HB h h4 := (((HB.new hn1).trans (.new hn2)).trans (.new hn3)).trans (.new hn4)
  have q1 := (HPair.new hn1).mono (((HB.new hn2).trans (.new hn3)).trans (.new hn4))
  have q2 := (HPair.new hn2).mono ((HB.new hn3).trans (.new hn4))
  have q3 := (HPair.new hn3).mono (HB.new hn4)
  refine ⟨fun vs g => ∃ i : Int, vs = [.int .i64 i] ∧ 0 ≤ i ∧ i ≤ 3 ∧ HB h4 g, fun vs _ => match vs with | [.int _ i] => (3 - i).toNat | _ => 0, ⟨0, rfl, by omega, by omega, .refl _⟩, ?_⟩
  rintro _ i h5 ⟨_, he, h0, hi, hb⟩
  simp only [List.cons.injEq, SV.int.injEq, true_and, and_true] at he
  subst he
  refine ⟨fun hlt => ⟨ix_new _ _ _ h0 (by omega), ?_⟩, fun _ => ⟨rfl, g1.trans hb⟩⟩
  obtain ⟨b, x, y, hx, hpr, hy⟩ : ∃ (b : Nat) (x y : Int), ([.sl (some ⟨k1, 0, none⟩) 2 2, .sl (some ⟨k2, 0, none⟩) 2 2, .sl (some ⟨k3, 0, none⟩) 2 2] : List SV)[i.toNat * 1]? = some (.sl (some ⟨b, 0, none⟩) 2 2) ∧ HPair h5 b x y ∧ I64 y := by
    obtain rfl | rfl | rfl : i = 0 ∨ i = 1 ∨ i = 2 := by omega
    · exact ⟨_, _, _, rfl, q1.mono hb, hn'⟩
    · exact ⟨_, _, _, rfl, q2.mono hb, by unfold I64; omega⟩
    · exact ⟨_, _, _, rfl, q3.mono hb, by unfold I64; omega⟩
  refine ⟨_, _, _, hn4.ld hb hx, ix0 _, _, hpr.ld0, ix1 _, _, hpr.ld1, ix0 _, _, hpr.ld0, ix1 _, _, hpr.ld1, fun h => absurd rfl h, fun _ => ⟨fun h => absurd rfl h, fun _ => ⟨ix1 _, _, hpr.ld1, hy, ?_⟩⟩⟩
  intro k5 h6 hn6
  refine ⟨fun vs g => ∃ j : Int, vs = [.int .i64 j] ∧ 0 ≤ j ∧ j ≤ 2 ∧ HB h6 g, fun vs _ => match vs with | [.int _ j] => (2 - j).toNat | _ => 0, ⟨0, rfl, by omega, by omega, .refl _⟩, ?_⟩
  rintro _ j h7 ⟨_, he, j0, hj, hb7⟩
  simp only [List.cons.injEq, SV.int.injEq, true_and, and_true] at he
  subst he
  have hpr7 := hpr.mono ((HB.new hn6).trans hb7)
  refine ⟨fun hlt2 => ⟨ix_new _ _ _ j0 (by omega), ?_⟩, fun hge => ⟨by unfold I64; omega, ⟨_, rfl, by omega, by omega, (hb.trans (.new hn6)).trans hb7⟩, ?_⟩⟩
  · obtain ⟨z, hz⟩ : ∃ z : BitVec 64, ([.u64 v, .u64 (v &&& mask y)] : List SV)[j.toNat * 1]? = some (.u64 z) := by
      obtain rfl | rfl : j = 0 ∨ j = 1 := by omega
      · exact ⟨_, rfl⟩
      · exact ⟨_, rfl⟩
    refine ⟨_, hn6.ld hb7 hz, ix0 _, _, hpr7.ld0, ix1 _, _, hpr7.ld1, ix0 _, _, hpr7.ld0, ix1 _, _, hpr7.ld1, fun h => absurd rfl h, fun _ => ⟨fun h => absurd rfl h, fun _ => ⟨by unfold I64; omega, ⟨_, rfl, by omega, by omega, hb7⟩, ?_⟩⟩⟩
    show (2 - (j + 1)).toNat < (2 - j).toNat
    omega
  · show (3 - (i + 1)).toNat < (3 - i).toNat
    omega
namespace bitsFields
open Go.ChangeShapes Go.WideShapes Go.ChangeAt Go.RowKit Go.Vm
set_option linter.unusedVariables false
theorem own : ownKnob Try.prog.godebug = none := by kernel_rfl
theorem laidOut : laidOutB Try.prog = true := by kernel_rfl
set_option maxRecDepth 100000 in
theorem lifted (os : Os) (started : os.Started) (H : Type) (enc : TypeId × Value → H) :
    ReturnsInHanded {} Try.checked os 6 .any (Rows.bitsFieldsSpec.pre6 enc Try.prog Try.f6 Rows.bitsFieldsRow.domain false) (Rows.bitsFieldsSpec.post enc Try.prog Try.f6 false true false false) := by
  refine returnsInHanded_of_change (C := Try.checked) own started (by kernel_rfl) Try.func6
    (ChangeSpec.witness6 (enc := enc) (C := Try.checked) false ⟨#[], #[.int .u64 0, .int .u64 0, .int .i64 0, .int .i64 0], []⟩ 8 (by kernel_rfl) (by kernel_rfl) (by kernel_rfl) (by kernel_rfl)) ?_
  intro W base args ds gs before hval0 hW hcnd _
  have hval : ∀ (j : Nat) t v, Try.f6.params[j]? = some t → args[j]? = some v → Value.okWide Try.prog W .any base t v := hval0
  have hW' := hW
  obtain ⟨p, q, hA0, hV, rfl, hfz, hnd⟩ := hW
  have hA : DataW.TrodAll enc Try.prog W 0 (fun _ => true) true Try.f6.params.toList args.toList ds p := hA0
  rw [Try.params6] at hA hval
  obtain ⟨v0, vs0, d0, ds0, p0, q0, hargs, rfl, rfl, h0, r0⟩ := trodAll_cons hA
  obtain ⟨v1, vs1, d1, ds1, p1, q1, rfl, rfl, rfl, h1, r1⟩ := trodAll_cons r0
  obtain ⟨v2, vs2, d2, ds2, p2, q2, rfl, rfl, rfl, h2, r2⟩ := trodAll_cons r1
  obtain ⟨v3, vs3, d3, ds3, p3, q3, rfl, rfl, rfl, h3, r3⟩ := trodAll_cons r2
  obtain ⟨rfl, rfl, rfl⟩ := trodAll_nil r3
  obtain rfl : args = #[v0, v1, v2, v3] := by cases args; simp_all
  obtain ⟨rfl, rfl⟩ := trodVars_none hV
  have k0 := h0
  have lt0 : ∀ x ∈ p0, x.block < W.heap.size := by obtain ⟨m, hm⟩ := k0; exact DataW.trod_lt m _ _ _ hm
  obtain ⟨a0, rfl, _, _, w0⟩ := open_int Try.underlying22 (hval 0 22 v0 rfl rfl) h0
  obtain ⟨x0, rfl⟩ := u64_of_wf w0
  have k1 := h1
  have lt1 : ∀ x ∈ p1, x.block < W.heap.size := by obtain ⟨m, hm⟩ := k1; exact DataW.trod_lt m _ _ _ hm
  obtain ⟨a1, rfl, _, _, w1⟩ := open_int Try.underlying22 (hval 1 22 v1 rfl rfl) h1
  obtain ⟨x1, rfl⟩ := u64_of_wf w1
  have k2 := h2
  have lt2 : ∀ x ∈ p2, x.block < W.heap.size := by obtain ⟨m, hm⟩ := k2; exact DataW.trod_lt m _ _ _ hm
  obtain ⟨a2, rfl, _, _, w2⟩ := open_int Try.underlying3 (hval 2 3 v2 rfl rfl) h2
  have b2 := i64_of_wf w2
  have k3 := h3
  have lt3 : ∀ x ∈ p3, x.block < W.heap.size := by obtain ⟨m, hm⟩ := k3; exact DataW.trod_lt m _ _ _ hm
  obtain ⟨a3, rfl, _, _, w3⟩ := open_int Try.underlying3 (hval 3 3 v3 rfl rfl) h3
  have b3 := i64_of_wf w3
  refine (law_calls (f := 6) (vals := #[_, _, _, _]) (w := W) ?_ (law_BitsFields x0 x1 a2 b2 a3 b3 W.heap)).mono fun e W' ⟨he, bel⟩ => ?_
  · rfl
  subst he
  simp only [List.append_nil] at hW'
  exact ⟨_, rfl, _, _, _, [], _, [], hW', trodAll_mk1 (shut_bool Try.underlying4 _), (trodAll_cons_mk (Below.trod laidOut (by kernel_rfl) (of_decide_eq_true (by kernel_rfl)) k0 bel lt0) (trodAll_cons_mk (Below.trod laidOut (by kernel_rfl) (of_decide_eq_true (by kernel_rfl)) k1 bel lt1) (trodAll_cons_mk (Below.trod laidOut (by kernel_rfl) (of_decide_eq_true (by kernel_rfl)) k2 bel lt2) (trodAll_cons_mk (Below.trod laidOut (by kernel_rfl) (of_decide_eq_true (by kernel_rfl)) k3 bel lt3) trodAll_mk0)))), rfl, bel.frame _, fun h => by cases h⟩
theorem proved : Rows.BitsFieldsSaid :=
  OpenClaim.holds_of_wide 6 Try.f6 rfl rfl rfl rfl rfl rfl rfl ⟨rfl, rfl, rfl, rfl, rfl⟩ rfl rfl rfl rfl rfl (by kernel_rfl) Try.func6 (by kernel_rfl)
    (of_decide_eq_true (by kernel_rfl)) (by unfold Func.isWrapper; first | (rw [if_pos (by decide +kernel)]; kernel_rfl) | (rw [if_neg (by decide +kernel)]; exact ⟨rfl, rfl⟩))
    (fun os started H enc _ => lifted os started H enc)
end bitsFields

end Go.Proofs.Ytlbciinlnccnaaa
