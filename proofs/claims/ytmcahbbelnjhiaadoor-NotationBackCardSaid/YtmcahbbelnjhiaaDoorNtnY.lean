/-
  The function of the law NotationBack (printed, and checked by the kernel).
-/
import Derived.Test.YtmcahbbelnjhiaaDoorNtnX
set_option linter.unusedVariables false
set_option maxRecDepth 100000
namespace Go.Proofs.YtmcahbbelnjhiaaDoor
open Go Go.V3
noncomputable def Fbeltwaylaw13_NotationBack (a0 : (List Int)) (a1 : Int) (a2 : Int) : Option Bool :=
Option.bind (Fbeltwaymake_New a0) (fun r1 =>
Option.bind (Fbeltwaymake_Config r1) (fun r2 =>
Option.bind (Fnotation_Print r2.1) (fun r3 =>
if ¬ r3.2 = 0 then
if r3.2 = 6 then
Option.bind (Fbeltwaylaw13_awake) (fun r4 =>
some (r4))
else some (false)
else Option.bind (Fnotation_Parse r3.1) (fun r5 =>
if ¬ r5.2 = 0 then
some (false)
else Option.bind (Fbeltwayref12_Same r2.1 r5.1) (fun r6 =>
if (!r6) = true then
some (false)
else if (r3.1.size : Int) = 0 then
some (false)
else Option.bind (Fbeltwaymake_Mod a1 ((sbytes r3.1).length : Int)) (fun r7 =>
Option.bind (Fbeltwaymake_Mod a2 24) (fun r8 =>
if 0 ≤ r8 ∧ r8 < ((⟨#[32, 97, 108, 108, 47, 62, 37, 48, 49, 50, 51, 52, 53, 54, 55, 56, 57, 45, 97, 98, 102, 117, 58, 44]⟩ : ByteArray).size : Int) then
if 0 ≤ r7 ∧ r7 < ((sbytes r3.1).length : Int) then
Option.bind (Fnotation_Parse (bstr ((sbytes r3.1).set r7.toNat (sget (⟨#[32, 97, 108, 108, 47, 62, 37, 48, 49, 50, 51, 52, 53, 54, 55, 56, 57, 45, 97, 98, 102, 117, 58, 44]⟩ : ByteArray) r8.toNat)))) (fun r9 =>
if ¬ r9.2 = 0 then
some (true)
else Option.bind (Fnotation_Print r9.1) (fun r10 =>
if r10.2 = 0 then
some (decide (r10.1 = (bstr ((sbytes r3.1).set r7.toNat (sget (⟨#[32, 97, 108, 108, 47, 62, 37, 48, 49, 50, 51, 52, 53, 54, 55, 56, 57, 45, 97, 98, 102, 117, 58, 44]⟩ : ByteArray) r8.toNat)))))
else some (false)))
else none
else none)))))))
@[reducible] noncomputable def iFbeltwaylaw13_NotationBack : FnI := { ps := [⟨(.slice (.int .i64)), false, false, false⟩, ⟨(.int .i64), false, false, false⟩, ⟨(.int .i64), false, false, false⟩], rs := [⟨.bool, false, true, false⟩], os := [], bk := [], F := fun x => Fbeltwaylaw13_NotationBack x.1 x.2.1 x.2.2 }
noncomputable def cFbeltwaylaw13_NotationBack : Cx := { nm := [(7, (5, 1)), (10, (7, 1)), (13, (10, 1)), (18, (1, 2)), (19, (3, 2)), (34, (6, 1)), (51, (8, 1)), (64, (9, 1))], keep := [51], fns := tabF [(6, iFbeltwaylaw13_awake), (7, iFbeltwaymake_Config), (8, iFbeltwaymake_New), (9, iFnotation_Print), (11, iFbeltwaymake_Mod), (12, iFnotation_Parse), (14, iFbeltwayref12_Same)], loops := [], joins := [], tb := tabs, exts := [], lets := [] }
theorem eFbeltwaylaw13_NotationBack : (fun x : HT iFbeltwaylaw13_NotationBack.ps => iFbeltwaylaw13_NotationBack.F x) = fun x => rk Tryd.prog cFbeltwaylaw13_NotationBack (Tryd.f5.body.getD .skip) (HT (iFbeltwaylaw13_NotationBack.rs ++ iFbeltwaylaw13_NotationBack.os)) 1000000 (finK Tryd.prog [.tmp 6] [] iFbeltwaylaw13_NotationBack.os (iFbeltwaylaw13_NotationBack.rs ++ iFbeltwaylaw13_NotationBack.os)) (initF iFbeltwaylaw13_NotationBack.ps iFbeltwaylaw13_NotationBack.sh x 82) (initL iFbeltwaylaw13_NotationBack.ps x 10) := by kernel_rfl
theorem okFbeltwaylaw13_NotationBack : CallsV Tryd.prog tabs 5 iFbeltwaylaw13_NotationBack :=
  callsV_of_rk (cx := cFbeltwaylaw13_NotationBack) (fn := Tryd.f5) (c := Tryd.f5.body.getD .skip) (n := 82) (N := 10) (rvs := [.tmp 6]) (cxOk (.cons okFbeltwaylaw13_awake (.cons okFbeltwaymake_Config (.cons okFbeltwaymake_New (.cons okFnotation_Print (.cons okFbeltwaymake_Mod (.cons okFnotation_Parse (.cons okFbeltwayref12_Same TabOk.nil))))))) XtOk.nil) Tryd.func5 rfl (by kernel_rfl) rfl rfl (fun x => Nat.le_of_ble_eq_true rfl) (by decide) (fun x => congrFun eFbeltwaylaw13_NotationBack x)
end Go.Proofs.YtmcahbbelnjhiaaDoor
