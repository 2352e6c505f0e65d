/-
  The functions of the laws of package notation that print texts (printed, and checked by the kernel).
-/
import Derived.Test.YtmcahbbelnjhiaaDoorNtnW
set_option linter.unusedVariables false
set_option maxRecDepth 100000
namespace Go.Proofs.YtmcahbbelnjhiaaDoor
open Go Go.V3
noncomputable def Fnotation_Print (a0 : (ByteArray × (List (Nat × Int × Int × Int)) × Int)) : Option (ByteArray × Int) :=
Option.bind (Fconfig_Check a0) (fun r1 =>
if ¬ r1 = 0 then
some (((⟨#[]⟩ : ByteArray), r1))
else loopO (σ := ((List ByteArray) × Int)) (β := (ByteArray × Int)) (fun s1 =>
if s1.2 < (a0.2.1.length : Int) then
if 0 ≤ s1.2 ∧ s1.2 < (a0.2.1.length : Int) then
if ¬ fOrd ((gl ((0, 0, 0, 0) : (Nat × Int × Int × Int)) a0.2.1 s1.2.toNat).1) 0 = some .eq then
Option.bind (Fshare_ToPercent ((gl ((0, 0, 0, 0) : (Nat × Int × Int × Int)) a0.2.1 s1.2.toNat).1)) (fun r2 =>
if (!r2.2) = true then
some (Sum.inr (((⟨#[]⟩ : ByteArray), 6)))
else Option.bind (Fitoa r2.1) (fun r3 =>
if r3.size + (⟨#[37]⟩ : ByteArray).size ≤ 9223372036854775807 then
if (r3 ++ (⟨#[37]⟩ : ByteArray)).size + (⟨#[47]⟩ : ByteArray).size ≤ 9223372036854775807 then
Option.bind (Fitoa (((gl ((0, 0, 0, 0) : (Nat × Int × Int × Int)) a0.2.1 s1.2.toNat).2).1)) (fun r4 =>
if ((r3 ++ (⟨#[37]⟩ : ByteArray)) ++ (⟨#[47]⟩ : ByteArray)).size + r4.size ≤ 9223372036854775807 then
if (((r3 ++ (⟨#[37]⟩ : ByteArray)) ++ (⟨#[47]⟩ : ByteArray)) ++ r4).size + (⟨#[47]⟩ : ByteArray).size ≤ 9223372036854775807 then
Option.bind (Fitoa ((((gl ((0, 0, 0, 0) : (Nat × Int × Int × Int)) a0.2.1 s1.2.toNat).2).2).1)) (fun r5 =>
if ((((r3 ++ (⟨#[37]⟩ : ByteArray)) ++ (⟨#[47]⟩ : ByteArray)) ++ r4) ++ (⟨#[47]⟩ : ByteArray)).size + r5.size ≤ 9223372036854775807 then
if (((((r3 ++ (⟨#[37]⟩ : ByteArray)) ++ (⟨#[47]⟩ : ByteArray)) ++ r4) ++ (⟨#[47]⟩ : ByteArray)) ++ r5).size + (⟨#[62]⟩ : ByteArray).size ≤ 9223372036854775807 then
Option.bind (Fitoa ((((gl ((0, 0, 0, 0) : (Nat × Int × Int × Int)) a0.2.1 s1.2.toNat).2).2).2)) (fun r6 =>
if ((((((r3 ++ (⟨#[37]⟩ : ByteArray)) ++ (⟨#[47]⟩ : ByteArray)) ++ r4) ++ (⟨#[47]⟩ : ByteArray)) ++ r5) ++ (⟨#[62]⟩ : ByteArray)).size + r6.size ≤ 9223372036854775807 then
if (s1.1.length + ([((((((r3 ++ (⟨#[37]⟩ : ByteArray)) ++ (⟨#[47]⟩ : ByteArray)) ++ r4) ++ (⟨#[47]⟩ : ByteArray)) ++ r5) ++ (⟨#[62]⟩ : ByteArray)) ++ r6] : List ByteArray).length) * 16 ≤ 140737488355328 then
some (Sum.inl ((s1.1 ++ ([((((((r3 ++ (⟨#[37]⟩ : ByteArray)) ++ (⟨#[47]⟩ : ByteArray)) ++ r4) ++ (⟨#[47]⟩ : ByteArray)) ++ r5) ++ (⟨#[62]⟩ : ByteArray)) ++ r6] : List ByteArray), w64 (s1.2 + 1))))
else none
else none)
else none
else none)
else none
else none)
else none
else none))
else if (⟨#[97, 108, 108]⟩ : ByteArray).size + (⟨#[47]⟩ : ByteArray).size ≤ 9223372036854775807 then
Option.bind (Fitoa (((gl ((0, 0, 0, 0) : (Nat × Int × Int × Int)) a0.2.1 s1.2.toNat).2).1)) (fun r7 =>
if ((⟨#[97, 108, 108]⟩ : ByteArray) ++ (⟨#[47]⟩ : ByteArray)).size + r7.size ≤ 9223372036854775807 then
if (((⟨#[97, 108, 108]⟩ : ByteArray) ++ (⟨#[47]⟩ : ByteArray)) ++ r7).size + (⟨#[47]⟩ : ByteArray).size ≤ 9223372036854775807 then
Option.bind (Fitoa ((((gl ((0, 0, 0, 0) : (Nat × Int × Int × Int)) a0.2.1 s1.2.toNat).2).2).1)) (fun r8 =>
if ((((⟨#[97, 108, 108]⟩ : ByteArray) ++ (⟨#[47]⟩ : ByteArray)) ++ r7) ++ (⟨#[47]⟩ : ByteArray)).size + r8.size ≤ 9223372036854775807 then
if (((((⟨#[97, 108, 108]⟩ : ByteArray) ++ (⟨#[47]⟩ : ByteArray)) ++ r7) ++ (⟨#[47]⟩ : ByteArray)) ++ r8).size + (⟨#[62]⟩ : ByteArray).size ≤ 9223372036854775807 then
Option.bind (Fitoa ((((gl ((0, 0, 0, 0) : (Nat × Int × Int × Int)) a0.2.1 s1.2.toNat).2).2).2)) (fun r9 =>
if ((((((⟨#[97, 108, 108]⟩ : ByteArray) ++ (⟨#[47]⟩ : ByteArray)) ++ r7) ++ (⟨#[47]⟩ : ByteArray)) ++ r8) ++ (⟨#[62]⟩ : ByteArray)).size + r9.size ≤ 9223372036854775807 then
if (s1.1.length + ([((((((⟨#[97, 108, 108]⟩ : ByteArray) ++ (⟨#[47]⟩ : ByteArray)) ++ r7) ++ (⟨#[47]⟩ : ByteArray)) ++ r8) ++ (⟨#[62]⟩ : ByteArray)) ++ r9] : List ByteArray).length) * 16 ≤ 140737488355328 then
some (Sum.inl ((s1.1 ++ ([((((((⟨#[97, 108, 108]⟩ : ByteArray) ++ (⟨#[47]⟩ : ByteArray)) ++ r7) ++ (⟨#[47]⟩ : ByteArray)) ++ r8) ++ (⟨#[62]⟩ : ByteArray)) ++ r9] : List ByteArray), w64 (s1.2 + 1))))
else none
else none)
else none
else none)
else none
else none)
else none
else none
else Option.map Sum.inr (if a0.1.size + (⟨#[32, 102, 117, 108, 108, 32]⟩ : ByteArray).size ≤ 9223372036854775807 then
Option.bind (Fitoa a0.2.2) (fun r10 =>
if (a0.1 ++ (⟨#[32, 102, 117, 108, 108, 32]⟩ : ByteArray)).size + r10.size ≤ 9223372036854775807 then
if ((a0.1 ++ (⟨#[32, 102, 117, 108, 108, 32]⟩ : ByteArray)) ++ r10).size + (⟨#[58, 32]⟩ : ByteArray).size ≤ 9223372036854775807 then
Option.bind (Fjoin s1.1 (⟨#[44, 32]⟩ : ByteArray)) (fun r11 =>
if (((a0.1 ++ (⟨#[32, 102, 117, 108, 108, 32]⟩ : ByteArray)) ++ r10) ++ (⟨#[58, 32]⟩ : ByteArray)).size + r11.size ≤ 9223372036854775807 then
some (((((a0.1 ++ (⟨#[32, 102, 117, 108, 108, 32]⟩ : ByteArray)) ++ r10) ++ (⟨#[58, 32]⟩ : ByteArray)) ++ r11, 0))
else none)
else none
else none)
else none)) (([], 0)))
@[reducible] noncomputable def iFnotation_Print : FnI := { ps := [⟨(.pair .str (.pair (.slice (.pair .flt (.pair (.int .i64) (.pair (.int .i64) (.int .i64))))) (.int .i64))), true, false, false⟩], rs := [⟨.str, false, true, false⟩, ⟨(.int .i64), false, true, false⟩], os := [], bk := [], F := fun x => Fnotation_Print x }
noncomputable def cFnotation_Print : Cx := { nm := [(1, (1, 1)), (7, (3, 1)), (54, (4, 1)), (55, (5, 1))], keep := [55], fns := tabF [(19, iFconfig_Check), (20, iFshare_ToPercent), (21, iFitoa), (22, iFjoin)], loops := [(0, { live := [(5, ⟨(.slice .str), false, true, false⟩), (19, ⟨(.int .i64), false, false, false⟩)], boxes := [], rows := [], dead := [2, 3, 7, 8, 9, 10, 20, 21, 22, 23, 24, 25, 26, 27, 28, 29, 30, 31, 32, 33, 34, 35, 36, 37, 38, 39, 40, 41, 42, 43, 44, 45, 46, 47, 48, 49, 50, 51, 52, 53, 54, 55, 56], lost := [], base := 2 })], joins := [], tb := tabs, exts := [], lets := [] }
theorem eFnotation_Print : (fun x : HT iFnotation_Print.ps => iFnotation_Print.F x) = fun x => rk Tryd.prog cFnotation_Print (Tryd.f9.body.getD .skip) (HT (iFnotation_Print.rs ++ iFnotation_Print.os)) 1000000 (finK Tryd.prog [.tmp 2, .tmp 3] [] iFnotation_Print.os (iFnotation_Print.rs ++ iFnotation_Print.os)) (initF iFnotation_Print.ps iFnotation_Print.sh x 68) (initL iFnotation_Print.ps x 5) := by kernel_rfl
theorem okFnotation_Print : CallsV Tryd.prog tabs 9 iFnotation_Print :=
  callsV_of_rk (cx := cFnotation_Print) (fn := Tryd.f9) (c := Tryd.f9.body.getD .skip) (n := 68) (N := 5) (rvs := [.tmp 2, .tmp 3]) (cxOk (.cons okFconfig_Check (.cons okFshare_ToPercent (.cons okFitoa (.cons okFjoin TabOk.nil)))) XtOk.nil) Tryd.func9 rfl (by kernel_rfl) rfl rfl (fun x => Nat.le_of_ble_eq_true rfl) (by decide) (fun x => congrFun eFnotation_Print x)
noncomputable def Fbeltwayref13_Print (a0 : (ByteArray × (List (Nat × Int × Int × Int)) × Int)) : Option (ByteArray × Int) :=
Option.bind (Fbeltwayref12_Check a0) (fun r1 =>
if ¬ r1 = 0 then
some (((⟨#[]⟩ : ByteArray), r1))
else if a0.1.size + (⟨#[32, 102, 117, 108, 108, 32]⟩ : ByteArray).size ≤ 9223372036854775807 then
Option.bind (Fbeltwayref13_Digits a0.2.2) (fun r2 =>
if (a0.1 ++ (⟨#[32, 102, 117, 108, 108, 32]⟩ : ByteArray)).size + r2.size ≤ 9223372036854775807 then
if ((a0.1 ++ (⟨#[32, 102, 117, 108, 108, 32]⟩ : ByteArray)) ++ r2).size + (⟨#[58, 32]⟩ : ByteArray).size ≤ 9223372036854775807 then
loopO (σ := (ByteArray × Int)) (β := (ByteArray × Int)) (fun s1 =>
if s1.2 < (a0.2.1.length : Int) then
if 0 ≤ s1.2 ∧ s1.2 < (a0.2.1.length : Int) then
Option.bind (Fbeltwayref06_ToPercent ((gl ((0, 0, 0, 0) : (Nat × Int × Int × Int)) a0.2.1 s1.2.toNat).1)) (fun r3 =>
if (!r3.2) = true then
some (Sum.inr (((⟨#[]⟩ : ByteArray), 6)))
else if s1.2 > 0 then
if s1.1.size + (⟨#[44, 32]⟩ : ByteArray).size ≤ 9223372036854775807 then
if r3.1 = 0 then
if (s1.1 ++ (⟨#[44, 32]⟩ : ByteArray)).size + (⟨#[97, 108, 108]⟩ : ByteArray).size ≤ 9223372036854775807 then
Option.bind (Fbeltwayref13_Digits (((gl ((0, 0, 0, 0) : (Nat × Int × Int × Int)) a0.2.1 s1.2.toNat).2).1)) (fun r4 =>
if (⟨#[47]⟩ : ByteArray).size + r4.size ≤ 9223372036854775807 then
if ((⟨#[47]⟩ : ByteArray) ++ r4).size + (⟨#[47]⟩ : ByteArray).size ≤ 9223372036854775807 then
Option.bind (Fbeltwayref13_Digits ((((gl ((0, 0, 0, 0) : (Nat × Int × Int × Int)) a0.2.1 s1.2.toNat).2).2).1)) (fun r5 =>
if (((⟨#[47]⟩ : ByteArray) ++ r4) ++ (⟨#[47]⟩ : ByteArray)).size + r5.size ≤ 9223372036854775807 then
if ((((⟨#[47]⟩ : ByteArray) ++ r4) ++ (⟨#[47]⟩ : ByteArray)) ++ r5).size + (⟨#[62]⟩ : ByteArray).size ≤ 9223372036854775807 then
Option.bind (Fbeltwayref13_Digits ((((gl ((0, 0, 0, 0) : (Nat × Int × Int × Int)) a0.2.1 s1.2.toNat).2).2).2)) (fun r6 =>
if (((((⟨#[47]⟩ : ByteArray) ++ r4) ++ (⟨#[47]⟩ : ByteArray)) ++ r5) ++ (⟨#[62]⟩ : ByteArray)).size + r6.size ≤ 9223372036854775807 then
if ((s1.1 ++ (⟨#[44, 32]⟩ : ByteArray)) ++ (⟨#[97, 108, 108]⟩ : ByteArray)).size + ((((((⟨#[47]⟩ : ByteArray) ++ r4) ++ (⟨#[47]⟩ : ByteArray)) ++ r5) ++ (⟨#[62]⟩ : ByteArray)) ++ r6).size ≤ 9223372036854775807 then
some (Sum.inl ((((s1.1 ++ (⟨#[44, 32]⟩ : ByteArray)) ++ (⟨#[97, 108, 108]⟩ : ByteArray)) ++ ((((((⟨#[47]⟩ : ByteArray) ++ r4) ++ (⟨#[47]⟩ : ByteArray)) ++ r5) ++ (⟨#[62]⟩ : ByteArray)) ++ r6), w64 (s1.2 + 1))))
else none
else none)
else none
else none)
else none
else none)
else none
else Option.bind (Fbeltwayref13_Digits r3.1) (fun r7 =>
if r7.size + (⟨#[37]⟩ : ByteArray).size ≤ 9223372036854775807 then
if (s1.1 ++ (⟨#[44, 32]⟩ : ByteArray)).size + (r7 ++ (⟨#[37]⟩ : ByteArray)).size ≤ 9223372036854775807 then
Option.bind (Fbeltwayref13_Digits (((gl ((0, 0, 0, 0) : (Nat × Int × Int × Int)) a0.2.1 s1.2.toNat).2).1)) (fun r8 =>
if (⟨#[47]⟩ : ByteArray).size + r8.size ≤ 9223372036854775807 then
if ((⟨#[47]⟩ : ByteArray) ++ r8).size + (⟨#[47]⟩ : ByteArray).size ≤ 9223372036854775807 then
Option.bind (Fbeltwayref13_Digits ((((gl ((0, 0, 0, 0) : (Nat × Int × Int × Int)) a0.2.1 s1.2.toNat).2).2).1)) (fun r9 =>
if (((⟨#[47]⟩ : ByteArray) ++ r8) ++ (⟨#[47]⟩ : ByteArray)).size + r9.size ≤ 9223372036854775807 then
if ((((⟨#[47]⟩ : ByteArray) ++ r8) ++ (⟨#[47]⟩ : ByteArray)) ++ r9).size + (⟨#[62]⟩ : ByteArray).size ≤ 9223372036854775807 then
Option.bind (Fbeltwayref13_Digits ((((gl ((0, 0, 0, 0) : (Nat × Int × Int × Int)) a0.2.1 s1.2.toNat).2).2).2)) (fun r10 =>
if (((((⟨#[47]⟩ : ByteArray) ++ r8) ++ (⟨#[47]⟩ : ByteArray)) ++ r9) ++ (⟨#[62]⟩ : ByteArray)).size + r10.size ≤ 9223372036854775807 then
if ((s1.1 ++ (⟨#[44, 32]⟩ : ByteArray)) ++ (r7 ++ (⟨#[37]⟩ : ByteArray))).size + ((((((⟨#[47]⟩ : ByteArray) ++ r8) ++ (⟨#[47]⟩ : ByteArray)) ++ r9) ++ (⟨#[62]⟩ : ByteArray)) ++ r10).size ≤ 9223372036854775807 then
some (Sum.inl ((((s1.1 ++ (⟨#[44, 32]⟩ : ByteArray)) ++ (r7 ++ (⟨#[37]⟩ : ByteArray))) ++ ((((((⟨#[47]⟩ : ByteArray) ++ r8) ++ (⟨#[47]⟩ : ByteArray)) ++ r9) ++ (⟨#[62]⟩ : ByteArray)) ++ r10), w64 (s1.2 + 1))))
else none
else none)
else none
else none)
else none
else none)
else none
else none)
else none
else if r3.1 = 0 then
if s1.1.size + (⟨#[97, 108, 108]⟩ : ByteArray).size ≤ 9223372036854775807 then
Option.bind (Fbeltwayref13_Digits (((gl ((0, 0, 0, 0) : (Nat × Int × Int × Int)) a0.2.1 s1.2.toNat).2).1)) (fun r11 =>
if (⟨#[47]⟩ : ByteArray).size + r11.size ≤ 9223372036854775807 then
if ((⟨#[47]⟩ : ByteArray) ++ r11).size + (⟨#[47]⟩ : ByteArray).size ≤ 9223372036854775807 then
Option.bind (Fbeltwayref13_Digits ((((gl ((0, 0, 0, 0) : (Nat × Int × Int × Int)) a0.2.1 s1.2.toNat).2).2).1)) (fun r12 =>
if (((⟨#[47]⟩ : ByteArray) ++ r11) ++ (⟨#[47]⟩ : ByteArray)).size + r12.size ≤ 9223372036854775807 then
if ((((⟨#[47]⟩ : ByteArray) ++ r11) ++ (⟨#[47]⟩ : ByteArray)) ++ r12).size + (⟨#[62]⟩ : ByteArray).size ≤ 9223372036854775807 then
Option.bind (Fbeltwayref13_Digits ((((gl ((0, 0, 0, 0) : (Nat × Int × Int × Int)) a0.2.1 s1.2.toNat).2).2).2)) (fun r13 =>
if (((((⟨#[47]⟩ : ByteArray) ++ r11) ++ (⟨#[47]⟩ : ByteArray)) ++ r12) ++ (⟨#[62]⟩ : ByteArray)).size + r13.size ≤ 9223372036854775807 then
if (s1.1 ++ (⟨#[97, 108, 108]⟩ : ByteArray)).size + ((((((⟨#[47]⟩ : ByteArray) ++ r11) ++ (⟨#[47]⟩ : ByteArray)) ++ r12) ++ (⟨#[62]⟩ : ByteArray)) ++ r13).size ≤ 9223372036854775807 then
some (Sum.inl (((s1.1 ++ (⟨#[97, 108, 108]⟩ : ByteArray)) ++ ((((((⟨#[47]⟩ : ByteArray) ++ r11) ++ (⟨#[47]⟩ : ByteArray)) ++ r12) ++ (⟨#[62]⟩ : ByteArray)) ++ r13), w64 (s1.2 + 1))))
else none
else none)
else none
else none)
else none
else none)
else none
else Option.bind (Fbeltwayref13_Digits r3.1) (fun r14 =>
if r14.size + (⟨#[37]⟩ : ByteArray).size ≤ 9223372036854775807 then
if s1.1.size + (r14 ++ (⟨#[37]⟩ : ByteArray)).size ≤ 9223372036854775807 then
Option.bind (Fbeltwayref13_Digits (((gl ((0, 0, 0, 0) : (Nat × Int × Int × Int)) a0.2.1 s1.2.toNat).2).1)) (fun r15 =>
if (⟨#[47]⟩ : ByteArray).size + r15.size ≤ 9223372036854775807 then
if ((⟨#[47]⟩ : ByteArray) ++ r15).size + (⟨#[47]⟩ : ByteArray).size ≤ 9223372036854775807 then
Option.bind (Fbeltwayref13_Digits ((((gl ((0, 0, 0, 0) : (Nat × Int × Int × Int)) a0.2.1 s1.2.toNat).2).2).1)) (fun r16 =>
if (((⟨#[47]⟩ : ByteArray) ++ r15) ++ (⟨#[47]⟩ : ByteArray)).size + r16.size ≤ 9223372036854775807 then
if ((((⟨#[47]⟩ : ByteArray) ++ r15) ++ (⟨#[47]⟩ : ByteArray)) ++ r16).size + (⟨#[62]⟩ : ByteArray).size ≤ 9223372036854775807 then
Option.bind (Fbeltwayref13_Digits ((((gl ((0, 0, 0, 0) : (Nat × Int × Int × Int)) a0.2.1 s1.2.toNat).2).2).2)) (fun r17 =>
if (((((⟨#[47]⟩ : ByteArray) ++ r15) ++ (⟨#[47]⟩ : ByteArray)) ++ r16) ++ (⟨#[62]⟩ : ByteArray)).size + r17.size ≤ 9223372036854775807 then
if (s1.1 ++ (r14 ++ (⟨#[37]⟩ : ByteArray))).size + ((((((⟨#[47]⟩ : ByteArray) ++ r15) ++ (⟨#[47]⟩ : ByteArray)) ++ r16) ++ (⟨#[62]⟩ : ByteArray)) ++ r17).size ≤ 9223372036854775807 then
some (Sum.inl (((s1.1 ++ (r14 ++ (⟨#[37]⟩ : ByteArray))) ++ ((((((⟨#[47]⟩ : ByteArray) ++ r15) ++ (⟨#[47]⟩ : ByteArray)) ++ r16) ++ (⟨#[62]⟩ : ByteArray)) ++ r17), w64 (s1.2 + 1))))
else none
else none)
else none
else none)
else none
else none)
else none
else none))
else none
else some (Sum.inr ((s1.1, 0)))) ((((a0.1 ++ (⟨#[32, 102, 117, 108, 108, 32]⟩ : ByteArray)) ++ r2) ++ (⟨#[58, 32]⟩ : ByteArray), 0))
else none
else none)
else none)
@[reducible] noncomputable def iFbeltwayref13_Print : FnI := { ps := [⟨(.pair .str (.pair (.slice (.pair .flt (.pair (.int .i64) (.pair (.int .i64) (.int .i64))))) (.int .i64))), true, false, false⟩], rs := [⟨.str, false, true, false⟩, ⟨(.int .i64), false, true, false⟩], os := [], bk := [], F := fun x => Fbeltwayref13_Print x }
noncomputable def cFbeltwayref13_Print : Cx := { nm := [(1, (1, 1)), (7, (2, 1))], keep := [], fns := tabF [(23, iFbeltwayref12_Check), (24, iFbeltwayref13_Digits), (25, iFbeltwayref06_ToPercent)], loops := [(0, { live := [(5, ⟨.str, false, false, false⟩), (26, ⟨(.int .i64), false, false, false⟩)], boxes := [], rows := [], dead := [2, 3, 6, 7, 8, 9, 27, 28, 29, 30, 31, 32, 33, 34, 35, 36, 37, 38, 39, 40, 41, 42, 43, 44, 45, 46, 47, 48, 49, 50, 51, 52, 53, 54, 55, 56, 57, 58, 59, 60, 61, 62, 63, 64, 65, 66, 67, 68], lost := [], base := 2 })], joins := [], tb := tabs, exts := [], lets := [] }
theorem eFbeltwayref13_Print : (fun x : HT iFbeltwayref13_Print.ps => iFbeltwayref13_Print.F x) = fun x => rk Tryd.prog cFbeltwayref13_Print (Tryd.f10.body.getD .skip) (HT (iFbeltwayref13_Print.rs ++ iFbeltwayref13_Print.os)) 1000000 (finK Tryd.prog [.tmp 2, .tmp 3] [] iFbeltwayref13_Print.os (iFbeltwayref13_Print.rs ++ iFbeltwayref13_Print.os)) (initF iFbeltwayref13_Print.ps iFbeltwayref13_Print.sh x 70) (initL iFbeltwayref13_Print.ps x 2) := by kernel_rfl
theorem okFbeltwayref13_Print : CallsV Tryd.prog tabs 10 iFbeltwayref13_Print :=
  callsV_of_rk (cx := cFbeltwayref13_Print) (fn := Tryd.f10) (c := Tryd.f10.body.getD .skip) (n := 70) (N := 2) (rvs := [.tmp 2, .tmp 3]) (cxOk (.cons okFbeltwayref12_Check (.cons okFbeltwayref13_Digits (.cons okFbeltwayref06_ToPercent TabOk.nil))) XtOk.nil) Tryd.func10 rfl (by kernel_rfl) rfl rfl (fun x => Nat.le_of_ble_eq_true rfl) (by decide) (fun x => congrFun eFbeltwayref13_Print x)
noncomputable def Fbeltwaylaw13_awake  : Option Bool :=
Option.bind (Fnotation_Parse (⟨#[120, 120, 49, 48, 48, 32, 102, 117, 108, 108, 32, 56, 58, 32, 50, 53, 37, 47, 48, 47, 49, 62, 49, 44, 32, 50, 53, 37, 47, 48, 47, 49, 62, 50, 44, 32, 97, 108, 108, 47, 48, 47, 48, 62, 50]⟩ : ByteArray)) (fun r1 =>
Option.bind (Fnotation_Print r1.1) (fun r2 =>
if r1.2 = 0 then
if r2.2 = 0 then
if r2.1 = (⟨#[120, 120, 49, 48, 48, 32, 102, 117, 108, 108, 32, 56, 58, 32, 50, 53, 37, 47, 48, 47, 49, 62, 49, 44, 32, 50, 53, 37, 47, 48, 47, 49, 62, 50, 44, 32, 97, 108, 108, 47, 48, 47, 48, 62, 50]⟩ : ByteArray) then
some (decide ((r1.1.2.1.length : Int) = 3))
else some (false)
else some (false)
else some (false)))
@[reducible] noncomputable def iFbeltwaylaw13_awake : FnI := { ps := [], rs := [⟨.bool, false, true, false⟩], os := [], bk := [], F := fun x => Fbeltwaylaw13_awake  }
noncomputable def cFbeltwaylaw13_awake : Cx := { nm := [(1, (1, 1)), (6, (0, 1))], keep := [], fns := tabF [(9, iFnotation_Print), (12, iFnotation_Parse)], loops := [], joins := [], tb := tabs, exts := [], lets := [] }
theorem eFbeltwaylaw13_awake : (fun x : HT iFbeltwaylaw13_awake.ps => iFbeltwaylaw13_awake.F x) = fun x => rk Tryd.prog cFbeltwaylaw13_awake (Tryd.f6.body.getD .skip) (HT (iFbeltwaylaw13_awake.rs ++ iFbeltwaylaw13_awake.os)) 1000000 (finK Tryd.prog [.tmp 0] [] iFbeltwaylaw13_awake.os (iFbeltwaylaw13_awake.rs ++ iFbeltwaylaw13_awake.os)) (initF iFbeltwaylaw13_awake.ps iFbeltwaylaw13_awake.sh x 30) (initL iFbeltwaylaw13_awake.ps x 2) := by kernel_rfl
theorem okFbeltwaylaw13_awake : CallsV Tryd.prog tabs 6 iFbeltwaylaw13_awake :=
  callsV_of_rk (cx := cFbeltwaylaw13_awake) (fn := Tryd.f6) (c := Tryd.f6.body.getD .skip) (n := 30) (N := 2) (rvs := [.tmp 0]) (cxOk (.cons okFnotation_Print (.cons okFnotation_Parse TabOk.nil)) XtOk.nil) Tryd.func6 rfl (by kernel_rfl) rfl rfl (fun x => Nat.le_of_ble_eq_true rfl) (by decide) (fun x => congrFun eFbeltwaylaw13_awake x)
noncomputable def Fbeltwaylaw13_NotationPrints (a0 : (ByteArray × (List (Nat × Int × Int × Int)) × Int)) (a1 : (List Int)) : Option Bool :=
if (a0.2.1.length : Int) > 20 then
Option.bind (Fbeltwaylaw13_awake) (fun r1 =>
some (r1))
else if (a0.1.size : Int) > 300 then
Option.bind (Fbeltwaylaw13_awake) (fun r2 =>
some (r2))
else Option.bind (Fbeltwaymake_New a1) (fun r3 =>
Option.bind (Fbeltwaymake_Config r3) (fun r4 =>
loopO (σ := Int) (β := Bool) (fun s1 =>
if s1 < (([a0, r4.1] : List (ByteArray × (List (Nat × Int × Int × Int)) × Int)).length : Int) then
if 0 ≤ s1 ∧ s1 < (([a0, r4.1] : List (ByteArray × (List (Nat × Int × Int × Int)) × Int)).length : Int) then
Option.bind (Fnotation_Print ((gl ((⟨#[]⟩, [], 0) : (ByteArray × (List (Nat × Int × Int × Int)) × Int)) ([a0, r4.1] : List (ByteArray × (List (Nat × Int × Int × Int)) × Int)) s1.toNat).1, ((gl ((⟨#[]⟩, [], 0) : (ByteArray × (List (Nat × Int × Int × Int)) × Int)) ([a0, r4.1] : List (ByteArray × (List (Nat × Int × Int × Int)) × Int)) s1.toNat).2))) (fun r5 =>
Option.bind (Fbeltwayref13_Print ((gl ((⟨#[]⟩, [], 0) : (ByteArray × (List (Nat × Int × Int × Int)) × Int)) ([a0, r4.1] : List (ByteArray × (List (Nat × Int × Int × Int)) × Int)) s1.toNat).1, ((gl ((⟨#[]⟩, [], 0) : (ByteArray × (List (Nat × Int × Int × Int)) × Int)) ([a0, r4.1] : List (ByteArray × (List (Nat × Int × Int × Int)) × Int)) s1.toNat).2))) (fun r6 =>
if ¬ r5.1 = r6.1 then
some (Sum.inr (false))
else if ¬ r5.2 = r6.2 then
some (Sum.inr (false))
else some (Sum.inl (w64 (s1 + 1)))))
else none
else Option.map Sum.inr (Option.bind (Fbeltwaylaw13_awake) (fun r7 =>
some (r7)))) (0)))
@[reducible] noncomputable def iFbeltwaylaw13_NotationPrints : FnI := { ps := [⟨(.pair .str (.pair (.slice (.pair .flt (.pair (.int .i64) (.pair (.int .i64) (.int .i64))))) (.int .i64))), true, false, false⟩, ⟨(.slice (.int .i64)), false, false, false⟩], rs := [⟨.bool, false, true, false⟩], os := [], bk := [], F := fun x => Fbeltwaylaw13_NotationPrints x.1 x.2 }
noncomputable def cFbeltwaylaw13_NotationPrints : Cx := { nm := [(2, (2, 1)), (6, (9, 1)), (24, (3, 2)), (25, (5, 2)), (26, (7, 1)), (31, (8, 1))], keep := [], fns := tabF [(6, iFbeltwaylaw13_awake), (7, iFbeltwaymake_Config), (8, iFbeltwaymake_New), (9, iFnotation_Print), (10, iFbeltwayref13_Print)], loops := [(0, { live := [(28, ⟨(.int .i64), false, false, false⟩)], boxes := [], rows := [], dead := [4, 6, 7, 8, 9, 10, 29, 30, 31, 32, 33, 34, 35, 36, 37, 38, 39, 40, 41, 42, 43, 44, 45, 46, 47, 48, 49, 50], lost := [], base := 8 })], joins := [], tb := tabs, exts := [], lets := [] }
theorem eFbeltwaylaw13_NotationPrints : (fun x : HT iFbeltwaylaw13_NotationPrints.ps => iFbeltwaylaw13_NotationPrints.F x) = fun x => rk Tryd.prog cFbeltwaylaw13_NotationPrints (Tryd.f3.body.getD .skip) (HT (iFbeltwaylaw13_NotationPrints.rs ++ iFbeltwaylaw13_NotationPrints.os)) 1000000 (finK Tryd.prog [.tmp 4] [] iFbeltwaylaw13_NotationPrints.os (iFbeltwaylaw13_NotationPrints.rs ++ iFbeltwaylaw13_NotationPrints.os)) (initF iFbeltwaylaw13_NotationPrints.ps iFbeltwaylaw13_NotationPrints.sh x 52) (initL iFbeltwaylaw13_NotationPrints.ps x 8) := by kernel_rfl
theorem okFbeltwaylaw13_NotationPrints : CallsV Tryd.prog tabs 3 iFbeltwaylaw13_NotationPrints :=
  callsV_of_rk (cx := cFbeltwaylaw13_NotationPrints) (fn := Tryd.f3) (c := Tryd.f3.body.getD .skip) (n := 52) (N := 8) (rvs := [.tmp 4]) (cxOk (.cons okFbeltwaylaw13_awake (.cons okFbeltwaymake_Config (.cons okFbeltwaymake_New (.cons okFnotation_Print (.cons okFbeltwayref13_Print TabOk.nil))))) XtOk.nil) Tryd.func3 rfl (by kernel_rfl) rfl rfl (fun x => Nat.le_of_ble_eq_true rfl) (by decide) (fun x => congrFun eFbeltwaylaw13_NotationPrints x)
noncomputable def Fbeltwaylaw13_NotationParses (a0 : ByteArray) (a1 : (List Int)) (a2 : Int) (a3 : Int) : Option Bool :=
if (a0.size : Int) > 1200 then
Option.bind (Fbeltwaylaw13_awake) (fun r1 =>
some (r1))
else Option.bind (Fbeltwaymake_New a1) (fun r2 =>
Option.bind (Fbeltwaymake_Config r2) (fun r3 =>
Option.bind (Fbeltwayref13_Print r3.1) (fun r4 =>
Option.bind (α := ByteArray ⊕ Bool) (if r4.1 = (⟨#[]⟩ : ByteArray) then
some (Sum.inl ((⟨#[120, 120, 49, 48, 48, 32, 102, 117, 108, 108, 32, 56, 58, 32, 50, 53, 37, 47, 48, 47, 49, 62, 49, 44, 32, 50, 53, 37, 47, 48, 47, 49, 62, 50, 44, 32, 97, 108, 108, 47, 48, 47, 48, 62, 50]⟩ : ByteArray)))
else some (Sum.inl (r4.1))) (fun q => match q with
| Sum.inl j1 => (Option.bind (Fbeltwaymake_Mod a2 (j1.size : Int)) (fun r5 =>
Option.bind (Fbeltwaymake_Mod a3 24) (fun r6 =>
if 0 ≤ r6 ∧ r6 < ((⟨#[32, 97, 108, 108, 47, 62, 37, 48, 49, 50, 51, 52, 53, 54, 55, 56, 57, 45, 97, 98, 102, 117, 58, 44]⟩ : ByteArray).size : Int) then
if Bd none (some r5) r5.toNat j1.size then
if (j1.extract 0 r5.toNat).size + (bstr ([sget (⟨#[32, 97, 108, 108, 47, 62, 37, 48, 49, 50, 51, 52, 53, 54, 55, 56, 57, 45, 97, 98, 102, 117, 58, 44]⟩ : ByteArray) r6.toNat] : List Int)).size ≤ 9223372036854775807 then
if Bd (some r5) none j1.size j1.size then
if ((j1.extract 0 r5.toNat) ++ (bstr ([sget (⟨#[32, 97, 108, 108, 47, 62, 37, 48, 49, 50, 51, 52, 53, 54, 55, 56, 57, 45, 97, 98, 102, 117, 58, 44]⟩ : ByteArray) r6.toNat] : List Int))).size + (j1.extract r5.toNat j1.size).size ≤ 9223372036854775807 then
if Bd none (some r5) r5.toNat j1.size then
if (j1.extract 0 r5.toNat).size + (bstr ([sget (⟨#[32, 97, 108, 108, 47, 62, 37, 48, 49, 50, 51, 52, 53, 54, 55, 56, 57, 45, 97, 98, 102, 117, 58, 44]⟩ : ByteArray) r6.toNat] : List Int)).size ≤ 9223372036854775807 then
if Bd (some (w64 (r5 + 1))) none j1.size j1.size then
if ((j1.extract 0 r5.toNat) ++ (bstr ([sget (⟨#[32, 97, 108, 108, 47, 62, 37, 48, 49, 50, 51, 52, 53, 54, 55, 56, 57, 45, 97, 98, 102, 117, 58, 44]⟩ : ByteArray) r6.toNat] : List Int))).size + (j1.extract ((w64 (r5 + 1)).toNat) j1.size).size ≤ 9223372036854775807 then
if Bd none (some r5) r5.toNat j1.size then
if Bd (some (w64 (r5 + 1))) none j1.size j1.size then
if (j1.extract 0 r5.toNat).size + (j1.extract ((w64 (r5 + 1)).toNat) j1.size).size ≤ 9223372036854775807 then
if Bd none (some r5) r5.toNat j1.size then
if j1.size + (⟨#[44, 32]⟩ : ByteArray).size ≤ 9223372036854775807 then
if (j1 ++ (⟨#[44, 32]⟩ : ByteArray)).size + j1.size ≤ 9223372036854775807 then
if j1.size + (⟨#[32]⟩ : ByteArray).size ≤ 9223372036854775807 then
loopO (σ := Int) (β := Bool) (fun s1 =>
if s1 < (([a0, j1, ((j1.extract 0 r5.toNat) ++ (bstr ([sget (⟨#[32, 97, 108, 108, 47, 62, 37, 48, 49, 50, 51, 52, 53, 54, 55, 56, 57, 45, 97, 98, 102, 117, 58, 44]⟩ : ByteArray) r6.toNat] : List Int))) ++ (j1.extract r5.toNat j1.size), ((j1.extract 0 r5.toNat) ++ (bstr ([sget (⟨#[32, 97, 108, 108, 47, 62, 37, 48, 49, 50, 51, 52, 53, 54, 55, 56, 57, 45, 97, 98, 102, 117, 58, 44]⟩ : ByteArray) r6.toNat] : List Int))) ++ (j1.extract ((w64 (r5 + 1)).toNat) j1.size), (j1.extract 0 r5.toNat) ++ (j1.extract ((w64 (r5 + 1)).toNat) j1.size), j1.extract 0 r5.toNat, (j1 ++ (⟨#[44, 32]⟩ : ByteArray)) ++ j1, j1 ++ (⟨#[32]⟩ : ByteArray), (⟨#[97, 32, 102, 117, 108, 108, 32, 49, 58, 32, 97, 108, 108, 47, 48, 47, 48, 62, 48]⟩ : ByteArray), (⟨#[97, 32, 102, 117, 108, 108, 32, 48, 49, 58, 32, 97, 108, 108, 47, 48, 47, 48, 62, 48]⟩ : ByteArray), (⟨#[97, 32, 102, 117, 108, 108, 32, 49, 58, 32, 48, 37, 47, 48, 47, 48, 62, 48]⟩ : ByteArray), (⟨#[97, 32, 102, 117, 108, 108, 32, 49, 58, 32, 49, 48, 49, 37, 47, 48, 47, 48, 62, 48]⟩ : ByteArray), (⟨#[65, 32, 102, 117, 108, 108, 32, 49, 58, 32, 97, 108, 108, 47, 48, 47, 48, 62, 48]⟩ : ByteArray), (⟨#[97, 98, 99, 100, 101, 102, 103, 104, 105, 106, 107, 108, 109, 110, 111, 112, 113, 32, 102, 117, 108, 108, 32, 49, 58, 32, 97, 108, 108, 47, 48, 47, 48, 62, 48]⟩ : ByteArray), (⟨#[49, 32, 102, 117, 108, 108, 32, 49, 58, 32, 97, 108, 108, 47, 48, 47, 48, 62, 48]⟩ : ByteArray)] : List ByteArray).length : Int) then
if 0 ≤ s1 ∧ s1 < (([a0, j1, ((j1.extract 0 r5.toNat) ++ (bstr ([sget (⟨#[32, 97, 108, 108, 47, 62, 37, 48, 49, 50, 51, 52, 53, 54, 55, 56, 57, 45, 97, 98, 102, 117, 58, 44]⟩ : ByteArray) r6.toNat] : List Int))) ++ (j1.extract r5.toNat j1.size), ((j1.extract 0 r5.toNat) ++ (bstr ([sget (⟨#[32, 97, 108, 108, 47, 62, 37, 48, 49, 50, 51, 52, 53, 54, 55, 56, 57, 45, 97, 98, 102, 117, 58, 44]⟩ : ByteArray) r6.toNat] : List Int))) ++ (j1.extract ((w64 (r5 + 1)).toNat) j1.size), (j1.extract 0 r5.toNat) ++ (j1.extract ((w64 (r5 + 1)).toNat) j1.size), j1.extract 0 r5.toNat, (j1 ++ (⟨#[44, 32]⟩ : ByteArray)) ++ j1, j1 ++ (⟨#[32]⟩ : ByteArray), (⟨#[97, 32, 102, 117, 108, 108, 32, 49, 58, 32, 97, 108, 108, 47, 48, 47, 48, 62, 48]⟩ : ByteArray), (⟨#[97, 32, 102, 117, 108, 108, 32, 48, 49, 58, 32, 97, 108, 108, 47, 48, 47, 48, 62, 48]⟩ : ByteArray), (⟨#[97, 32, 102, 117, 108, 108, 32, 49, 58, 32, 48, 37, 47, 48, 47, 48, 62, 48]⟩ : ByteArray), (⟨#[97, 32, 102, 117, 108, 108, 32, 49, 58, 32, 49, 48, 49, 37, 47, 48, 47, 48, 62, 48]⟩ : ByteArray), (⟨#[65, 32, 102, 117, 108, 108, 32, 49, 58, 32, 97, 108, 108, 47, 48, 47, 48, 62, 48]⟩ : ByteArray), (⟨#[97, 98, 99, 100, 101, 102, 103, 104, 105, 106, 107, 108, 109, 110, 111, 112, 113, 32, 102, 117, 108, 108, 32, 49, 58, 32, 97, 108, 108, 47, 48, 47, 48, 62, 48]⟩ : ByteArray), (⟨#[49, 32, 102, 117, 108, 108, 32, 49, 58, 32, 97, 108, 108, 47, 48, 47, 48, 62, 48]⟩ : ByteArray)] : List ByteArray).length : Int) then
Option.bind (Fnotation_Parse (gl (⟨#[]⟩ : ByteArray) ([a0, j1, ((j1.extract 0 r5.toNat) ++ (bstr ([sget (⟨#[32, 97, 108, 108, 47, 62, 37, 48, 49, 50, 51, 52, 53, 54, 55, 56, 57, 45, 97, 98, 102, 117, 58, 44]⟩ : ByteArray) r6.toNat] : List Int))) ++ (j1.extract r5.toNat j1.size), ((j1.extract 0 r5.toNat) ++ (bstr ([sget (⟨#[32, 97, 108, 108, 47, 62, 37, 48, 49, 50, 51, 52, 53, 54, 55, 56, 57, 45, 97, 98, 102, 117, 58, 44]⟩ : ByteArray) r6.toNat] : List Int))) ++ (j1.extract ((w64 (r5 + 1)).toNat) j1.size), (j1.extract 0 r5.toNat) ++ (j1.extract ((w64 (r5 + 1)).toNat) j1.size), j1.extract 0 r5.toNat, (j1 ++ (⟨#[44, 32]⟩ : ByteArray)) ++ j1, j1 ++ (⟨#[32]⟩ : ByteArray), (⟨#[97, 32, 102, 117, 108, 108, 32, 49, 58, 32, 97, 108, 108, 47, 48, 47, 48, 62, 48]⟩ : ByteArray), (⟨#[97, 32, 102, 117, 108, 108, 32, 48, 49, 58, 32, 97, 108, 108, 47, 48, 47, 48, 62, 48]⟩ : ByteArray), (⟨#[97, 32, 102, 117, 108, 108, 32, 49, 58, 32, 48, 37, 47, 48, 47, 48, 62, 48]⟩ : ByteArray), (⟨#[97, 32, 102, 117, 108, 108, 32, 49, 58, 32, 49, 48, 49, 37, 47, 48, 47, 48, 62, 48]⟩ : ByteArray), (⟨#[65, 32, 102, 117, 108, 108, 32, 49, 58, 32, 97, 108, 108, 47, 48, 47, 48, 62, 48]⟩ : ByteArray), (⟨#[97, 98, 99, 100, 101, 102, 103, 104, 105, 106, 107, 108, 109, 110, 111, 112, 113, 32, 102, 117, 108, 108, 32, 49, 58, 32, 97, 108, 108, 47, 48, 47, 48, 62, 48]⟩ : ByteArray), (⟨#[49, 32, 102, 117, 108, 108, 32, 49, 58, 32, 97, 108, 108, 47, 48, 47, 48, 62, 48]⟩ : ByteArray)] : List ByteArray) s1.toNat)) (fun r7 =>
Option.bind (Fbeltwayref13_Parse (gl (⟨#[]⟩ : ByteArray) ([a0, j1, ((j1.extract 0 r5.toNat) ++ (bstr ([sget (⟨#[32, 97, 108, 108, 47, 62, 37, 48, 49, 50, 51, 52, 53, 54, 55, 56, 57, 45, 97, 98, 102, 117, 58, 44]⟩ : ByteArray) r6.toNat] : List Int))) ++ (j1.extract r5.toNat j1.size), ((j1.extract 0 r5.toNat) ++ (bstr ([sget (⟨#[32, 97, 108, 108, 47, 62, 37, 48, 49, 50, 51, 52, 53, 54, 55, 56, 57, 45, 97, 98, 102, 117, 58, 44]⟩ : ByteArray) r6.toNat] : List Int))) ++ (j1.extract ((w64 (r5 + 1)).toNat) j1.size), (j1.extract 0 r5.toNat) ++ (j1.extract ((w64 (r5 + 1)).toNat) j1.size), j1.extract 0 r5.toNat, (j1 ++ (⟨#[44, 32]⟩ : ByteArray)) ++ j1, j1 ++ (⟨#[32]⟩ : ByteArray), (⟨#[97, 32, 102, 117, 108, 108, 32, 49, 58, 32, 97, 108, 108, 47, 48, 47, 48, 62, 48]⟩ : ByteArray), (⟨#[97, 32, 102, 117, 108, 108, 32, 48, 49, 58, 32, 97, 108, 108, 47, 48, 47, 48, 62, 48]⟩ : ByteArray), (⟨#[97, 32, 102, 117, 108, 108, 32, 49, 58, 32, 48, 37, 47, 48, 47, 48, 62, 48]⟩ : ByteArray), (⟨#[97, 32, 102, 117, 108, 108, 32, 49, 58, 32, 49, 48, 49, 37, 47, 48, 47, 48, 62, 48]⟩ : ByteArray), (⟨#[65, 32, 102, 117, 108, 108, 32, 49, 58, 32, 97, 108, 108, 47, 48, 47, 48, 62, 48]⟩ : ByteArray), (⟨#[97, 98, 99, 100, 101, 102, 103, 104, 105, 106, 107, 108, 109, 110, 111, 112, 113, 32, 102, 117, 108, 108, 32, 49, 58, 32, 97, 108, 108, 47, 48, 47, 48, 62, 48]⟩ : ByteArray), (⟨#[49, 32, 102, 117, 108, 108, 32, 49, 58, 32, 97, 108, 108, 47, 48, 47, 48, 62, 48]⟩ : ByteArray)] : List ByteArray) s1.toNat)) (fun r8 =>
if ¬ r7.2 = r8.2 then
some (Sum.inr (false))
else Option.bind (Fbeltwayref12_Same r7.1 r8.1) (fun r9 =>
if (!r9) = true then
some (Sum.inr (false))
else some (Sum.inl (w64 (s1 + 1))))))
else none
else Option.map Sum.inr (Option.bind (Fbeltwaylaw13_awake) (fun r10 =>
some (r10)))) (0)
else none
else none
else none
else none
else none
else none
else none
else none
else none
else none
else none
else none
else none
else none
else none
else none)))
| Sum.inr b1 => some b1))))
@[reducible] noncomputable def iFbeltwaylaw13_NotationParses : FnI := { ps := [⟨.str, false, false, false⟩, ⟨(.slice (.int .i64)), false, false, false⟩, ⟨(.int .i64), false, false, false⟩, ⟨(.int .i64), false, false, false⟩], rs := [⟨.bool, false, true, false⟩], os := [], bk := [], F := fun x => Fbeltwaylaw13_NotationParses x.1 x.2.1 x.2.2.1 x.2.2.2 }
noncomputable def cFbeltwaylaw13_NotationParses : Cx := { nm := [(15, (8, 1)), (17, (10, 1)), (25, (1, 2)), (26, (3, 2)), (39, (5, 1)), (79, (6, 1)), (87, (7, 1)), (92, (9, 1))], keep := [], fns := tabF [(6, iFbeltwaylaw13_awake), (7, iFbeltwaymake_Config), (8, iFbeltwaymake_New), (10, iFbeltwayref13_Print), (11, iFbeltwaymake_Mod), (12, iFnotation_Parse), (13, iFbeltwayref13_Parse), (14, iFbeltwayref12_Same)], loops := [(0, { live := [(81, ⟨(.int .i64), false, false, false⟩)], boxes := [], rows := [], dead := [8, 14, 15, 16, 17, 18, 82, 83, 84, 85, 86, 87, 88, 89, 90, 91, 92, 93, 94, 95, 96, 97, 98, 99, 100, 101, 102, 103, 104], lost := [], base := 7 })], joins := [(6, { live := [(9, ⟨.str, false, false, false⟩)], boxes := [], rows := [], dead := [30, 31], lost := [], base := 5 })], tb := tabs, exts := [], lets := [] }
theorem eFbeltwaylaw13_NotationParses : (fun x : HT iFbeltwaylaw13_NotationParses.ps => iFbeltwaylaw13_NotationParses.F x) = fun x => rk Tryd.prog cFbeltwaylaw13_NotationParses (Tryd.f4.body.getD .skip) (HT (iFbeltwaylaw13_NotationParses.rs ++ iFbeltwaylaw13_NotationParses.os)) 1000000 (finK Tryd.prog [.tmp 8] [] iFbeltwaylaw13_NotationParses.os (iFbeltwaylaw13_NotationParses.rs ++ iFbeltwaylaw13_NotationParses.os)) (initF iFbeltwaylaw13_NotationParses.ps iFbeltwaylaw13_NotationParses.sh x 106) (initL iFbeltwaylaw13_NotationParses.ps x 10) := by kernel_rfl
theorem okFbeltwaylaw13_NotationParses : CallsV Tryd.prog tabs 4 iFbeltwaylaw13_NotationParses :=
  callsV_of_rk (cx := cFbeltwaylaw13_NotationParses) (fn := Tryd.f4) (c := Tryd.f4.body.getD .skip) (n := 106) (N := 10) (rvs := [.tmp 8]) (cxOk (.cons okFbeltwaylaw13_awake (.cons okFbeltwaymake_Config (.cons okFbeltwaymake_New (.cons okFbeltwayref13_Print (.cons okFbeltwaymake_Mod (.cons okFnotation_Parse (.cons okFbeltwayref13_Parse (.cons okFbeltwayref12_Same TabOk.nil)))))))) XtOk.nil) Tryd.func4 rfl (by kernel_rfl) rfl rfl (fun x => Nat.le_of_ble_eq_true rfl) (by decide) (fun x => congrFun eFbeltwaylaw13_NotationParses x)
end Go.Proofs.YtmcahbbelnjhiaaDoor
