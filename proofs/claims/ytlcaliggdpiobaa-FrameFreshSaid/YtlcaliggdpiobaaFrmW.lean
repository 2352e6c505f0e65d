/-
  What the functions of package frame compute (printed, and checked by the kernel).
-/
import Derived.Test.YtlcaliggdpiobaaProg
import Derived.Test.YtlcaliggdpiobaaChecked
import Derived.Test.YtlcaliggdpiobaaV3U
import Derived.KernelRfl
set_option linter.unusedVariables false
set_option maxRecDepth 100000
namespace Go.Proofs.Ytlcaliggdpiobaa
open Go Go.V3
noncomputable def Fbeltwaymake_Mod (a0 : Int) (a1 : Int) : Option Int :=
if ¬ a1 = 0 then
if (Int.tmod a0 a1) < 0 then
some (w64 ((Int.tmod a0 a1) + a1))
else some (Int.tmod a0 a1)
else none
@[reducible] noncomputable def iFbeltwaymake_Mod : FnI := { ps := [⟨(.int .i64), false, false, false⟩, ⟨(.int .i64), false, false, false⟩], rs := [⟨(.int .i64), false, true, false⟩], os := [], F := fun x => Fbeltwaymake_Mod x.1 x.2 }
noncomputable def cFbeltwaymake_Mod : Cx := { nm := [], keep := [], fns := tabF [], loops := [], joins := [] }
theorem eFbeltwaymake_Mod : (fun x : HT iFbeltwaymake_Mod.ps => iFbeltwaymake_Mod.F x) = fun x => rk Try.prog cFbeltwaymake_Mod (Try.f8.body.getD .skip) (HT (iFbeltwaymake_Mod.rs ++ iFbeltwaymake_Mod.os)) 1000000 (finK Try.prog [.tmp 4] [] (iFbeltwaymake_Mod.rs ++ iFbeltwaymake_Mod.os)) (initF iFbeltwaymake_Mod.ps x 15) (initL iFbeltwaymake_Mod.ps x 0) := by kernel_rfl
theorem okFbeltwaymake_Mod : CallsV Try.prog 8 iFbeltwaymake_Mod :=
  callsV_of_rk (cx := cFbeltwaymake_Mod) (fn := Try.f8) (c := Try.f8.body.getD .skip) (n := 15) (N := 0) (rvs := [.tmp 4]) (cxOk TabOk.nil) Try.func8 rfl (by kernel_rfl) rfl rfl (by decide) (by decide) (fun x => congrFun eFbeltwaymake_Mod x)
noncomputable def Fframe_shift (a0 : Int) : Option Bool :=
if a0 ≥ 3 then
some (decide (a0 ≤ 8))
else some (false)
@[reducible] noncomputable def iFframe_shift : FnI := { ps := [⟨(.int .i64), false, false, false⟩], rs := [⟨.bool, false, true, false⟩], os := [], F := fun x => Fframe_shift x }
noncomputable def cFframe_shift : Cx := { nm := [], keep := [], fns := tabF [], loops := [], joins := [] }
theorem eFframe_shift : (fun x : HT iFframe_shift.ps => iFframe_shift.F x) = fun x => rk Try.prog cFframe_shift (Try.f28.body.getD .skip) (HT (iFframe_shift.rs ++ iFframe_shift.os)) 1000000 (finK Try.prog [.tmp 2] [] (iFframe_shift.rs ++ iFframe_shift.os)) (initF iFframe_shift.ps x 9) (initL iFframe_shift.ps x 0) := by kernel_rfl
theorem okFframe_shift : CallsV Try.prog 28 iFframe_shift :=
  callsV_of_rk (cx := cFframe_shift) (fn := Try.f28) (c := Try.f28.body.getD .skip) (n := 9) (N := 0) (rvs := [.tmp 2]) (cxOk TabOk.nil) Try.func28 rfl (by kernel_rfl) rfl rfl (by decide) (by decide) (fun x => congrFun eFframe_shift x)
noncomputable def Farena_Make (a0 : Int) : Option ((List (BitVec 64)) × Int) :=
if a0 < 0 then
some (([], 1))
else if a0 > 16384 then
some (([], 1))
else if 0 ≤ a0 ∧ a0 ≤ a0 ∧ a0 * ((8 : Nat) : Int) ≤ 140737488355328 then
some ((List.replicate a0.toNat (0#64 : (BitVec 64)), 0))
else none
@[reducible] noncomputable def iFarena_Make : FnI := { ps := [⟨(.int .i64), false, false, false⟩], rs := [⟨(.slice .u64), false, true, false⟩, ⟨(.int .i64), false, true, false⟩], os := [], F := fun x => Farena_Make x }
noncomputable def cFarena_Make : Cx := { nm := [(11, (0, 1))], keep := [11], fns := tabF [], loops := [], joins := [] }
theorem eFarena_Make : (fun x : HT iFarena_Make.ps => iFarena_Make.F x) = fun x => rk Try.prog cFarena_Make (Try.f29.body.getD .skip) (HT (iFarena_Make.rs ++ iFarena_Make.os)) 1000000 (finK Try.prog [.tmp 2, .tmp 3] [] (iFarena_Make.rs ++ iFarena_Make.os)) (initF iFarena_Make.ps x 12) (initL iFarena_Make.ps x 1) := by kernel_rfl
theorem okFarena_Make : CallsV Try.prog 29 iFarena_Make :=
  callsV_of_rk (cx := cFarena_Make) (fn := Try.f29) (c := Try.f29.body.getD .skip) (n := 12) (N := 1) (rvs := [.tmp 2, .tmp 3]) (cxOk TabOk.nil) Try.func29 rfl (by kernel_rfl) rfl rfl (by decide) (by decide) (fun x => congrFun eFarena_Make x)
noncomputable def Fframe_New (a0 : Int) (a1 : Int) : Option ((Int × (List (BitVec 64)) × (List (Int × Int × Int))) × Int) :=
Option.bind (Fframe_shift a0) (fun r1 =>
if (!r1) = true then
some (((0, [], []), 1))
else if a1 < 2 then
some (((0, [], []), 1))
else if a1 > 64 then
some (((0, [], []), 1))
else if True then
Option.bind (Farena_Make (w64 (a1 * 2 ^ min (BitVec.ofInt 64 a0).toNat 64))) (fun r2 =>
if ¬ r2.2 = 0 then
some (((0, [], []), r2.2))
else if 0 ≤ a1 ∧ a1 ≤ a1 ∧ a1 * ((24 : Nat) : Int) ≤ 140737488355328 then
loopO (σ := (Int × (List (Int × Int × Int)))) (β := ((Int × (List (BitVec 64)) × (List (Int × Int × Int))) × Int)) (fun s1 =>
if s1.1 < ((List.replicate a1.toNat ((0, 0, 0) : (Int × Int × Int))).length : Int) then
if 0 ≤ s1.1 ∧ s1.1 < (s1.2.length : Int) then
some (Sum.inl ((w64 (s1.1 + 1), s1.2.set s1.1.toNat ((-1), (-1), (-1)))))
else none
else some (Sum.inr (((a0, r2.1, s1.2), 0)))) ((0, List.replicate a1.toNat ((0, 0, 0) : (Int × Int × Int))))
else none)
else none)
@[reducible] noncomputable def iFframe_New : FnI := { ps := [⟨(.int .i64), false, false, false⟩, ⟨(.int .i64), false, false, false⟩], rs := [⟨(.pair (.int .i64) (.pair (.slice .u64) (.slice (.pair (.int .i64) (.pair (.int .i64) (.int .i64)))))), true, true, false⟩, ⟨(.int .i64), false, true, false⟩], os := [], F := fun x => Fframe_New x.1 x.2 }
noncomputable def cFframe_New : Cx := { nm := [(4, (0, 1)), (8, (3, 1)), (27, (1, 1)), (37, (2, 1))], keep := [37], fns := tabF [(28, iFframe_shift), (29, iFarena_Make)], loops := [(0, { live := [(42, ⟨(.int .i64), false, false, false⟩)], boxes := [], rows := [(2, (.pair (.int .i64) (.pair (.int .i64) (.int .i64))))], dead := [9, 43, 44, 45, 46, 47, 48, 49, 50], lost := [], base := 4 })], joins := [] }
theorem eFframe_New : (fun x : HT iFframe_New.ps => iFframe_New.F x) = fun x => rk Try.prog cFframe_New (Try.f7.body.getD .skip) (HT (iFframe_New.rs ++ iFframe_New.os)) 1000000 (finK Try.prog [.cell 4 25, .tmp 5] [] (iFframe_New.rs ++ iFframe_New.os)) (initF iFframe_New.ps x 52) (initL iFframe_New.ps x 4) := by kernel_rfl
theorem okFframe_New : CallsV Try.prog 7 iFframe_New :=
  callsV_of_rk (cx := cFframe_New) (fn := Try.f7) (c := Try.f7.body.getD .skip) (n := 52) (N := 4) (rvs := [.cell 4 25, .tmp 5]) (cxOk (.cons okFframe_shift (.cons okFarena_Make TabOk.nil))) Try.func7 rfl (by kernel_rfl) rfl rfl (by decide) (by decide) (fun x => congrFun eFframe_New x)
noncomputable def Fframe_bounded (a0 : (Int × (List (BitVec 64)) × (List (Int × Int × Int)))) : Option Bool :=
Option.bind (Fframe_shift a0.1) (fun r1 =>
if r1 = true then
some (decide ((a0.2.2.length : Int) ≤ 64))
else some (false))
@[reducible] noncomputable def iFframe_bounded : FnI := { ps := [⟨(.pair (.int .i64) (.pair (.slice .u64) (.slice (.pair (.int .i64) (.pair (.int .i64) (.int .i64)))))), true, false, false⟩], rs := [⟨.bool, false, true, false⟩], os := [], F := fun x => Fframe_bounded x }
noncomputable def cFframe_bounded : Cx := { nm := [(1, (2, 1))], keep := [], fns := tabF [(28, iFframe_shift)], loops := [], joins := [] }
theorem eFframe_bounded : (fun x : HT iFframe_bounded.ps => iFframe_bounded.F x) = fun x => rk Try.prog cFframe_bounded (Try.f30.body.getD .skip) (HT (iFframe_bounded.rs ++ iFframe_bounded.os)) 1000000 (finK Try.prog [.tmp 2] [] (iFframe_bounded.rs ++ iFframe_bounded.os)) (initF iFframe_bounded.ps x 12) (initL iFframe_bounded.ps x 1) := by kernel_rfl
theorem okFframe_bounded : CallsV Try.prog 30 iFframe_bounded :=
  callsV_of_rk (cx := cFframe_bounded) (fn := Try.f30) (c := Try.f30.body.getD .skip) (n := 12) (N := 1) (rvs := [.tmp 2]) (cxOk (.cons okFframe_shift TabOk.nil)) Try.func30 rfl (by kernel_rfl) rfl rfl (by decide) (by decide) (fun x => congrFun eFframe_bounded x)
noncomputable def Fframe_Size (a0 : (Int × (List (BitVec 64)) × (List (Int × Int × Int)))) : Option Int :=
Option.bind (Fframe_shift a0.1) (fun r1 =>
if (!r1) = true then
some (0)
else if True then
some (w64 ((1 : Int) * 2 ^ min (BitVec.ofInt 64 a0.1).toNat 64))
else none)
@[reducible] noncomputable def iFframe_Size : FnI := { ps := [⟨(.pair (.int .i64) (.pair (.slice .u64) (.slice (.pair (.int .i64) (.pair (.int .i64) (.int .i64)))))), true, false, false⟩], rs := [⟨(.int .i64), false, true, false⟩], os := [], F := fun x => Fframe_Size x }
noncomputable def cFframe_Size : Cx := { nm := [(1, (2, 1))], keep := [], fns := tabF [(28, iFframe_shift)], loops := [], joins := [] }
theorem eFframe_Size : (fun x : HT iFframe_Size.ps => iFframe_Size.F x) = fun x => rk Try.prog cFframe_Size (Try.f13.body.getD .skip) (HT (iFframe_Size.rs ++ iFframe_Size.os)) 1000000 (finK Try.prog [.tmp 2] [] (iFframe_Size.rs ++ iFframe_Size.os)) (initF iFframe_Size.ps x 11) (initL iFframe_Size.ps x 1) := by kernel_rfl
theorem okFframe_Size : CallsV Try.prog 13 iFframe_Size :=
  callsV_of_rk (cx := cFframe_Size) (fn := Try.f13) (c := Try.f13.body.getD .skip) (n := 11) (N := 1) (rvs := [.tmp 2]) (cxOk (.cons okFframe_shift TabOk.nil)) Try.func13 rfl (by kernel_rfl) rfl rfl (by decide) (by decide) (fun x => congrFun eFframe_Size x)
noncomputable def Fframe_Of (a0 : (Int × (List (BitVec 64)) × (List (Int × Int × Int)))) (a1 : Int) : Option (Int × Int × Int) :=
Option.bind (Fframe_bounded a0) (fun r1 =>
if (!r1) = true then
some ((0, 0, 1))
else if a1 < 0 then
some ((0, 0, 2))
else if True then
if a1 ≥ (w64 ((a0.2.2.length : Int) * 2 ^ min (BitVec.ofInt 64 a0.1).toNat 64)) then
some ((0, 0, 2))
else if True then
Option.bind (Fframe_Size a0) (fun r2 =>
some ((a1 / 2 ^ min (BitVec.ofInt 64 a0.1).toNat 64, iBits .and a1 (w64 (r2 - 1)), 0)))
else none
else none)
@[reducible] noncomputable def iFframe_Of : FnI := { ps := [⟨(.pair (.int .i64) (.pair (.slice .u64) (.slice (.pair (.int .i64) (.pair (.int .i64) (.int .i64)))))), true, false, false⟩, ⟨(.int .i64), false, false, false⟩], rs := [⟨(.int .i64), false, true, false⟩, ⟨(.int .i64), false, true, false⟩, ⟨(.int .i64), false, true, false⟩], os := [], F := fun x => Fframe_Of x.1 x.2 }
noncomputable def cFframe_Of : Cx := { nm := [(2, (2, 1))], keep := [], fns := tabF [(13, iFframe_Size), (30, iFframe_bounded)], loops := [], joins := [] }
theorem eFframe_Of : (fun x : HT iFframe_Of.ps => iFframe_Of.F x) = fun x => rk Try.prog cFframe_Of (Try.f9.body.getD .skip) (HT (iFframe_Of.rs ++ iFframe_Of.os)) 1000000 (finK Try.prog [.tmp 4, .tmp 5, .tmp 6] [] (iFframe_Of.rs ++ iFframe_Of.os)) (initF iFframe_Of.ps x 33) (initL iFframe_Of.ps x 1) := by kernel_rfl
theorem okFframe_Of : CallsV Try.prog 9 iFframe_Of :=
  callsV_of_rk (cx := cFframe_Of) (fn := Try.f9) (c := Try.f9.body.getD .skip) (n := 33) (N := 1) (rvs := [.tmp 4, .tmp 5, .tmp 6]) (cxOk (.cons okFframe_Size (.cons okFframe_bounded TabOk.nil))) Try.func9 rfl (by kernel_rfl) rfl rfl (by decide) (by decide) (fun x => congrFun eFframe_Of x)
noncomputable def Fframe_Base (a0 : (Int × (List (BitVec 64)) × (List (Int × Int × Int)))) (a1 : Int) : Option (Int × Int) :=
Option.bind (Fframe_bounded a0) (fun r1 =>
if (!r1) = true then
some ((0, 1))
else if a1 < 0 then
some ((0, 2))
else if a1 ≥ (a0.2.2.length : Int) then
some ((0, 2))
else if True then
some ((w64 (a1 * 2 ^ min (BitVec.ofInt 64 a0.1).toNat 64), 0))
else none)
@[reducible] noncomputable def iFframe_Base : FnI := { ps := [⟨(.pair (.int .i64) (.pair (.slice .u64) (.slice (.pair (.int .i64) (.pair (.int .i64) (.int .i64)))))), true, false, false⟩, ⟨(.int .i64), false, false, false⟩], rs := [⟨(.int .i64), false, true, false⟩, ⟨(.int .i64), false, true, false⟩], os := [], F := fun x => Fframe_Base x.1 x.2 }
noncomputable def cFframe_Base : Cx := { nm := [(2, (2, 1))], keep := [], fns := tabF [(30, iFframe_bounded)], loops := [], joins := [] }
theorem eFframe_Base : (fun x : HT iFframe_Base.ps => iFframe_Base.F x) = fun x => rk Try.prog cFframe_Base (Try.f10.body.getD .skip) (HT (iFframe_Base.rs ++ iFframe_Base.os)) 1000000 (finK Try.prog [.tmp 4, .tmp 5] [] (iFframe_Base.rs ++ iFframe_Base.os)) (initF iFframe_Base.ps x 23) (initL iFframe_Base.ps x 1) := by kernel_rfl
theorem okFframe_Base : CallsV Try.prog 10 iFframe_Base :=
  callsV_of_rk (cx := cFframe_Base) (fn := Try.f10) (c := Try.f10.body.getD .skip) (n := 23) (N := 1) (rvs := [.tmp 4, .tmp 5]) (cxOk (.cons okFframe_bounded TabOk.nil)) Try.func10 rfl (by kernel_rfl) rfl rfl (by decide) (by decide) (fun x => congrFun eFframe_Base x)
noncomputable def Fframe_Pair (a0 : (Int × (List (BitVec 64)) × (List (Int × Int × Int)))) (a1 : Int) (a2 : Int) : Option (Int × Int) :=
Option.bind (Fframe_bounded a0) (fun r1 =>
if (!r1) = true then
some ((0, 1))
else if a1 < 0 then
some ((0, 2))
else if a1 ≥ (a0.2.2.length : Int) then
some ((0, 2))
else if a2 < 0 then
some ((0, 2))
else if a2 ≥ (a0.2.2.length : Int) then
some ((0, 2))
else some ((w64 ((w64 (a1 * (a0.2.2.length : Int))) + a2), 0)))
@[reducible] noncomputable def iFframe_Pair : FnI := { ps := [⟨(.pair (.int .i64) (.pair (.slice .u64) (.slice (.pair (.int .i64) (.pair (.int .i64) (.int .i64)))))), true, false, false⟩, ⟨(.int .i64), false, false, false⟩, ⟨(.int .i64), false, false, false⟩], rs := [⟨(.int .i64), false, true, false⟩, ⟨(.int .i64), false, true, false⟩], os := [], F := fun x => Fframe_Pair x.1 x.2.1 x.2.2 }
noncomputable def cFframe_Pair : Cx := { nm := [(3, (2, 1))], keep := [], fns := tabF [(30, iFframe_bounded)], loops := [], joins := [] }
theorem eFframe_Pair : (fun x : HT iFframe_Pair.ps => iFframe_Pair.F x) = fun x => rk Try.prog cFframe_Pair (Try.f11.body.getD .skip) (HT (iFframe_Pair.rs ++ iFframe_Pair.os)) 1000000 (finK Try.prog [.tmp 6, .tmp 7] [] (iFframe_Pair.rs ++ iFframe_Pair.os)) (initF iFframe_Pair.ps x 36) (initL iFframe_Pair.ps x 1) := by kernel_rfl
theorem okFframe_Pair : CallsV Try.prog 11 iFframe_Pair :=
  callsV_of_rk (cx := cFframe_Pair) (fn := Try.f11) (c := Try.f11.body.getD .skip) (n := 36) (N := 1) (rvs := [.tmp 6, .tmp 7]) (cxOk (.cons okFframe_bounded TabOk.nil)) Try.func11 rfl (by kernel_rfl) rfl rfl (by decide) (by decide) (fun x => congrFun eFframe_Pair x)
noncomputable def Fframe_Unpair (a0 : (Int × (List (BitVec 64)) × (List (Int × Int × Int)))) (a1 : Int) : Option (Int × Int × Int) :=
Option.bind (Fframe_bounded a0) (fun r1 =>
if (!r1) = true then
some ((0, 0, 1))
else if a1 < 0 then
some ((0, 0, 2))
else if a1 ≥ (w64 ((a0.2.2.length : Int) * (a0.2.2.length : Int))) then
some ((0, 0, 2))
else if ¬ (a0.2.2.length : Int) = 0 then
if ¬ (a0.2.2.length : Int) = 0 then
some ((w64 (Int.tdiv a1 (a0.2.2.length : Int)), Int.tmod a1 (a0.2.2.length : Int), 0))
else none
else none)
@[reducible] noncomputable def iFframe_Unpair : FnI := { ps := [⟨(.pair (.int .i64) (.pair (.slice .u64) (.slice (.pair (.int .i64) (.pair (.int .i64) (.int .i64)))))), true, false, false⟩, ⟨(.int .i64), false, false, false⟩], rs := [⟨(.int .i64), false, true, false⟩, ⟨(.int .i64), false, true, false⟩, ⟨(.int .i64), false, true, false⟩], os := [], F := fun x => Fframe_Unpair x.1 x.2 }
noncomputable def cFframe_Unpair : Cx := { nm := [(2, (2, 1))], keep := [], fns := tabF [(30, iFframe_bounded)], loops := [], joins := [] }
theorem eFframe_Unpair : (fun x : HT iFframe_Unpair.ps => iFframe_Unpair.F x) = fun x => rk Try.prog cFframe_Unpair (Try.f12.body.getD .skip) (HT (iFframe_Unpair.rs ++ iFframe_Unpair.os)) 1000000 (finK Try.prog [.tmp 4, .tmp 5, .tmp 6] [] (iFframe_Unpair.rs ++ iFframe_Unpair.os)) (initF iFframe_Unpair.ps x 29) (initL iFframe_Unpair.ps x 1) := by kernel_rfl
theorem okFframe_Unpair : CallsV Try.prog 12 iFframe_Unpair :=
  callsV_of_rk (cx := cFframe_Unpair) (fn := Try.f12) (c := Try.f12.body.getD .skip) (n := 29) (N := 1) (rvs := [.tmp 4, .tmp 5, .tmp 6]) (cxOk (.cons okFframe_bounded TabOk.nil)) Try.func12 rfl (by kernel_rfl) rfl rfl (by decide) (by decide) (fun x => congrFun eFframe_Unpair x)
noncomputable def Fbeltwaylaw03_FrameBack (a0 : Int) (a1 : Int) (a2 : Int) (a3 : Int) (a4 : Int) : Option Bool :=
Option.bind (Fbeltwaymake_Mod a0 4) (fun r1 =>
Option.bind (Fbeltwaymake_Mod a1 60) (fun r2 =>
Option.bind (Fframe_New (w64 ((3 : Int) + r1)) (w64 ((2 : Int) + r2))) (fun r3 =>
if ¬ r3.2 = 0 then
some (false)
else Option.bind (Fbeltwaymake_Mod a1 60) (fun r4 =>
if ¬ (r3.1.2.2.length : Int) = (w64 ((2 : Int) + r4)) then
some (false)
else Option.bind (Fbeltwaymake_Mod a2 (w64 ((r3.1.2.1.length : Int) + 1))) (fun r5 =>
if ¬ (if (r3.1.2.1.length : Int) > 1 then (r3.1.2.1.length : Int) else 1) = 0 then
Option.bind (Fframe_Of r3.1 (Int.tmod r5 (if (r3.1.2.1.length : Int) > 1 then (r3.1.2.1.length : Int) else 1))) (fun r6 =>
Option.bind (Fframe_Base r3.1 r6.1) (fun r7 =>
Option.bind (Fbeltwaymake_Mod a3 (r3.1.2.2.length : Int)) (fun r8 =>
Option.bind (Fbeltwaymake_Mod a4 (r3.1.2.2.length : Int)) (fun r9 =>
Option.bind (Fframe_Pair r3.1 r8 r9) (fun r10 =>
Option.bind (Fframe_Unpair r3.1 r10.1) (fun r11 =>
if r6.2.2 = 0 then
if r7.2 = 0 then
if (w64 (r7.1 + r6.2.1)) = (Int.tmod r5 (if (r3.1.2.1.length : Int) > 1 then (r3.1.2.1.length : Int) else 1)) then
if r6.2.1 ≥ 0 then
Option.bind (Fframe_Size r3.1) (fun r12 =>
if r6.2.1 < r12 then
if r10.2 = 0 then
if r11.2.2 = 0 then
if r11.1 = r8 then
some (decide (r11.2.1 = r9))
else some (false)
else some (false)
else some (false)
else some (false))
else some (false)
else some (false)
else some (false)
else some (false)))))))
else none)))))
@[reducible] noncomputable def iFbeltwaylaw03_FrameBack : FnI := { ps := [⟨(.int .i64), false, false, false⟩, ⟨(.int .i64), false, false, false⟩, ⟨(.int .i64), false, false, false⟩, ⟨(.int .i64), false, false, false⟩, ⟨(.int .i64), false, false, false⟩], rs := [⟨.bool, false, true, false⟩], os := [], F := fun x => Fbeltwaylaw03_FrameBack x.1 x.2.1 x.2.2.1 x.2.2.2.1 x.2.2.2.2 }
noncomputable def cFbeltwaylaw03_FrameBack : Cx := { nm := [(11, (2, 1)), (32, (0, 2))], keep := [], fns := tabF [(7, iFframe_New), (8, iFbeltwaymake_Mod), (9, iFframe_Of), (10, iFframe_Base), (11, iFframe_Pair), (12, iFframe_Unpair), (13, iFframe_Size)], loops := [], joins := [] }
theorem eFbeltwaylaw03_FrameBack : (fun x : HT iFbeltwaylaw03_FrameBack.ps => iFbeltwaylaw03_FrameBack.F x) = fun x => rk Try.prog cFbeltwaylaw03_FrameBack (Try.f3.body.getD .skip) (HT (iFbeltwaylaw03_FrameBack.rs ++ iFbeltwaylaw03_FrameBack.os)) 1000000 (finK Try.prog [.tmp 10] [] (iFbeltwaylaw03_FrameBack.rs ++ iFbeltwaylaw03_FrameBack.os)) (initF iFbeltwaylaw03_FrameBack.ps x 135) (initL iFbeltwaylaw03_FrameBack.ps x 3) := by kernel_rfl
theorem okFbeltwaylaw03_FrameBack : CallsV Try.prog 3 iFbeltwaylaw03_FrameBack :=
  callsV_of_rk (cx := cFbeltwaylaw03_FrameBack) (fn := Try.f3) (c := Try.f3.body.getD .skip) (n := 135) (N := 3) (rvs := [.tmp 10]) (cxOk (.cons okFframe_New (.cons okFbeltwaymake_Mod (.cons okFframe_Of (.cons okFframe_Base (.cons okFframe_Pair (.cons okFframe_Unpair (.cons okFframe_Size TabOk.nil)))))))) Try.func3 rfl (by kernel_rfl) rfl rfl (by decide) (by decide) (fun x => congrFun eFbeltwaylaw03_FrameBack x)
noncomputable def Fframe_zero (a0 : (List (BitVec 64))) : Option Bool :=
loopO (σ := Int) (β := Bool) (fun s1 =>
if s1 < (a0.length : Int) then
if 0 ≤ s1 ∧ s1 < (a0.length : Int) then
if ¬ (gd .u64 a0 s1.toNat) = (0#64) then
some (Sum.inr (false))
else some (Sum.inl (w64 (s1 + 1)))
else none
else some (Sum.inr (true))) (0)
@[reducible] noncomputable def iFframe_zero : FnI := { ps := [⟨(.slice .u64), false, false, false⟩], rs := [⟨.bool, false, true, false⟩], os := [], F := fun x => Fframe_zero x }
noncomputable def cFframe_zero : Cx := { nm := [], keep := [], fns := tabF [], loops := [(0, { live := [(7, ⟨(.int .i64), false, false, false⟩)], boxes := [], rows := [], dead := [2, 4, 8, 9, 10, 11, 12, 13], lost := [], base := 1 })], joins := [] }
theorem eFframe_zero : (fun x : HT iFframe_zero.ps => iFframe_zero.F x) = fun x => rk Try.prog cFframe_zero (Try.f34.body.getD .skip) (HT (iFframe_zero.rs ++ iFframe_zero.os)) 1000000 (finK Try.prog [.tmp 2] [] (iFframe_zero.rs ++ iFframe_zero.os)) (initF iFframe_zero.ps x 14) (initL iFframe_zero.ps x 0) := by kernel_rfl
theorem okFframe_zero : CallsV Try.prog 34 iFframe_zero :=
  callsV_of_rk (cx := cFframe_zero) (fn := Try.f34) (c := Try.f34.body.getD .skip) (n := 14) (N := 0) (rvs := [.tmp 2]) (cxOk TabOk.nil) Try.func34 rfl (by kernel_rfl) rfl rfl (by decide) (by decide) (fun x => congrFun eFframe_zero x)
noncomputable def Fframe_straight (a0 : (Int × (List (BitVec 64)) × (List (Int × Int × Int)))) : Option Bool :=
loopO (σ := Int) (β := Bool) (fun s1 =>
if s1 < (a0.2.2.length : Int) then
if 0 ≤ s1 ∧ s1 < (a0.2.2.length : Int) then
loopO (σ := (Int × Int)) (β := (Int ⊕ Bool)) (fun s2 =>
if s2.1 ≥ 0 then
if s2.2 < (a0.2.2.length : Int) then
if s2.1 = s1 then
some (Sum.inr (Sum.inr (false)))
else if 0 ≤ s2.1 ∧ s2.1 < (a0.2.2.length : Int) then
some (Sum.inl ((((gd (.pair (.int .i64) (.pair (.int .i64) (.int .i64))) a0.2.2 s2.1.toNat).2).2, w64 (s2.2 + 1))))
else none
else some (Sum.inr (Sum.inl (w64 (s1 + 1))))
else some (Sum.inr (Sum.inl (w64 (s1 + 1))))) ((((gd (.pair (.int .i64) (.pair (.int .i64) (.int .i64))) a0.2.2 s1.toNat).2).2, 0))
else none
else some (Sum.inr (true))) (0)
@[reducible] noncomputable def iFframe_straight : FnI := { ps := [⟨(.pair (.int .i64) (.pair (.slice .u64) (.slice (.pair (.int .i64) (.pair (.int .i64) (.int .i64)))))), true, false, false⟩], rs := [⟨.bool, false, true, false⟩], os := [], F := fun x => Fframe_straight x }
noncomputable def cFframe_straight : Cx := { nm := [(1, (2, 1))], keep := [], fns := tabF [], loops := [(0, { live := [(9, ⟨(.int .i64), false, false, false⟩)], boxes := [], rows := [], dead := [2, 3, 4, 5, 10, 11, 12, 13, 14, 15, 16, 17, 18, 19, 20, 21, 22, 23, 24, 25, 26, 27, 28, 29, 30, 31, 32, 33, 34, 35, 36, 37, 38], lost := [], base := 3 }), (2, { live := [(4, ⟨(.int .i64), false, false, false⟩), (5, ⟨(.int .i64), false, false, false⟩)], boxes := [], rows := [], dead := [2, 18, 19, 20, 21, 22, 23, 24, 25, 26, 27, 28, 29, 30, 31, 32, 33, 34, 35, 36, 37], lost := [], base := 3 })], joins := [] }
theorem eFframe_straight : (fun x : HT iFframe_straight.ps => iFframe_straight.F x) = fun x => rk Try.prog cFframe_straight (Try.f35.body.getD .skip) (HT (iFframe_straight.rs ++ iFframe_straight.os)) 1000000 (finK Try.prog [.tmp 2] [] (iFframe_straight.rs ++ iFframe_straight.os)) (initF iFframe_straight.ps x 39) (initL iFframe_straight.ps x 1) := by kernel_rfl
theorem okFframe_straight : CallsV Try.prog 35 iFframe_straight :=
  callsV_of_rk (cx := cFframe_straight) (fn := Try.f35) (c := Try.f35.body.getD .skip) (n := 39) (N := 1) (rvs := [.tmp 2]) (cxOk TabOk.nil) Try.func35 rfl (by kernel_rfl) rfl rfl (by decide) (by decide) (fun x => congrFun eFframe_straight x)
noncomputable def Fframe_Valid (a0 : (Int × (List (BitVec 64)) × (List (Int × Int × Int)))) : Option Bool :=
Option.bind (Fframe_shift a0.1) (fun r1 =>
if (!r1) = true then
some (false)
else if (a0.2.2.length : Int) < 2 then
some (false)
else if (a0.2.2.length : Int) > 64 then
some (false)
else if True then
if ¬ (a0.2.1.length : Int) = (w64 ((a0.2.2.length : Int) * 2 ^ min (BitVec.ofInt 64 a0.1).toNat 64)) then
some (false)
else loopO (σ := ((BitVec 64) × Int)) (β := Bool) (fun s1 =>
if s1.2 < (a0.2.2.length : Int) then
if 0 ≤ s1.2 ∧ s1.2 < (a0.2.2.length : Int) then
if ((gd (.pair (.int .i64) (.pair (.int .i64) (.int .i64))) a0.2.2 s1.2.toNat).1) = (-1) then
if ¬ (((gd (.pair (.int .i64) (.pair (.int .i64) (.int .i64))) a0.2.2 s1.2.toNat).2).1) = (-1) then
some (Sum.inr (false))
else if ¬ (((gd (.pair (.int .i64) (.pair (.int .i64) (.int .i64))) a0.2.2 s1.2.toNat).2).2) = (-1) then
some (Sum.inr (false))
else if True then
if True then
if Bd (some (w64 (s1.2 * 2 ^ min (BitVec.ofInt 64 a0.1).toNat 64))) (some (w64 ((w64 (s1.2 + 1)) * 2 ^ min (BitVec.ofInt 64 a0.1).toNat 64))) ((w64 ((w64 (s1.2 + 1)) * 2 ^ min (BitVec.ofInt 64 a0.1).toNat 64)).toNat) a0.2.1.length then
Option.bind (Fframe_zero (subl a0.2.1 ((w64 (s1.2 * 2 ^ min (BitVec.ofInt 64 a0.1).toNat 64)).toNat) (((w64 ((w64 (s1.2 + 1)) * 2 ^ min (BitVec.ofInt 64 a0.1).toNat 64)).toNat) - ((w64 (s1.2 * 2 ^ min (BitVec.ofInt 64 a0.1).toNat 64)).toNat)))) (fun r2 =>
if (!r2) = true then
some (Sum.inr (false))
else some (Sum.inl ((s1.1, w64 (s1.2 + 1)))))
else none
else none
else none
else if ((gd (.pair (.int .i64) (.pair (.int .i64) (.int .i64))) a0.2.2 s1.2.toNat).1) < 0 then
some (Sum.inr (false))
else if ((gd (.pair (.int .i64) (.pair (.int .i64) (.int .i64))) a0.2.2 s1.2.toNat).1) > 4294967295 then
some (Sum.inr (false))
else if (((gd (.pair (.int .i64) (.pair (.int .i64) (.int .i64))) a0.2.2 s1.2.toNat).2).1) < 0 then
some (Sum.inr (false))
else if ¬ (4294967296 : Int) = 0 then
if ¬ (Int.tmod (((gd (.pair (.int .i64) (.pair (.int .i64) (.int .i64))) a0.2.2 s1.2.toNat).2).1) 4294967296) = ((gd (.pair (.int .i64) (.pair (.int .i64) (.int .i64))) a0.2.2 s1.2.toNat).1) then
some (Sum.inr (false))
else if ¬ (4294967296 : Int) = 0 then
if (w64 (Int.tdiv (((gd (.pair (.int .i64) (.pair (.int .i64) (.int .i64))) a0.2.2 s1.2.toNat).2).1) 4294967296)) ≥ 4 then
some (Sum.inr (false))
else if (((gd (.pair (.int .i64) (.pair (.int .i64) (.int .i64))) a0.2.2 s1.2.toNat).2).2) < (-1) then
some (Sum.inr (false))
else if (((gd (.pair (.int .i64) (.pair (.int .i64) (.int .i64))) a0.2.2 s1.2.toNat).2).2) ≥ (a0.2.2.length : Int) then
some (Sum.inr (false))
else if (((gd (.pair (.int .i64) (.pair (.int .i64) (.int .i64))) a0.2.2 s1.2.toNat).2).2) = s1.2 then
some (Sum.inr (false))
else if (((gd (.pair (.int .i64) (.pair (.int .i64) (.int .i64))) a0.2.2 s1.2.toNat).2).2) < 0 then
some (Sum.inl ((s1.1, w64 (s1.2 + 1))))
else if 0 ≤ (((gd (.pair (.int .i64) (.pair (.int .i64) (.int .i64))) a0.2.2 s1.2.toNat).2).2) ∧ (((gd (.pair (.int .i64) (.pair (.int .i64) (.int .i64))) a0.2.2 s1.2.toNat).2).2) < (a0.2.2.length : Int) then
if True then
if ((s1.1 >>> (BitVec.ofInt 64 (((gd (.pair (.int .i64) (.pair (.int .i64) (.int .i64))) a0.2.2 s1.2.toNat).2).2)).toNat) &&& (1#64)) = (1#64) then
some (Sum.inr (false))
else if ¬ ((gd (.pair (.int .i64) (.pair (.int .i64) (.int .i64))) a0.2.2 ((((gd (.pair (.int .i64) (.pair (.int .i64) (.int .i64))) a0.2.2 s1.2.toNat).2).2).toNat)).1) = ((gd (.pair (.int .i64) (.pair (.int .i64) (.int .i64))) a0.2.2 s1.2.toNat).1) then
some (Sum.inr (false))
else if ¬ (((gd (.pair (.int .i64) (.pair (.int .i64) (.int .i64))) a0.2.2 ((((gd (.pair (.int .i64) (.pair (.int .i64) (.int .i64))) a0.2.2 s1.2.toNat).2).2).toNat)).2).1) = (((gd (.pair (.int .i64) (.pair (.int .i64) (.int .i64))) a0.2.2 s1.2.toNat).2).1) then
some (Sum.inr (false))
else if True then
some (Sum.inl ((s1.1 ||| ((1#64) <<< (BitVec.ofInt 64 (((gd (.pair (.int .i64) (.pair (.int .i64) (.int .i64))) a0.2.2 s1.2.toNat).2).2)).toNat), w64 (s1.2 + 1))))
else none
else none
else none
else none
else none
else none
else Option.map Sum.inr (Option.bind (Fframe_straight a0) (fun r3 =>
some (r3)))) ((0#64, 0))
else none)
@[reducible] noncomputable def iFframe_Valid : FnI := { ps := [⟨(.pair (.int .i64) (.pair (.slice .u64) (.slice (.pair (.int .i64) (.pair (.int .i64) (.int .i64)))))), true, false, false⟩], rs := [⟨.bool, false, true, false⟩], os := [], F := fun x => Fframe_Valid x }
noncomputable def cFframe_Valid : Cx := { nm := [(1, (2, 1)), (6, (3, 1)), (7, (5, 1)), (67, (4, 1))], keep := [], fns := tabF [(28, iFframe_shift), (34, iFframe_zero), (35, iFframe_straight)], loops := [(0, { live := [(4, ⟨.u64, false, false, false⟩), (37, ⟨(.int .i64), false, false, false⟩)], boxes := [], rows := [], dead := [2, 5, 6, 7, 38, 39, 40, 41, 42, 43, 44, 45, 46, 47, 48, 49, 50, 51, 52, 53, 54, 55, 56, 57, 58, 59, 60, 61, 62, 63, 64, 65, 66, 67, 68, 69, 70, 71, 72, 73, 74, 75, 76, 77, 78, 79, 80, 81, 82, 83, 84, 85, 86, 87, 88, 89, 90, 91, 92, 93, 94, 95, 96, 97, 98, 99, 100, 101, 102, 103, 104, 105, 106, 107, 108, 109, 110, 111, 112, 113, 114, 115, 116, 117, 118, 119, 120, 121, 122, 123, 124, 125, 126, 127, 128, 129, 130, 131, 132, 133, 134, 135, 136, 137, 138, 139, 140, 141, 142, 143, 144, 145, 146, 147, 148, 149, 150, 151], lost := [], base := 3 })], joins := [] }
theorem eFframe_Valid : (fun x : HT iFframe_Valid.ps => iFframe_Valid.F x) = fun x => rk Try.prog cFframe_Valid (Try.f19.body.getD .skip) (HT (iFframe_Valid.rs ++ iFframe_Valid.os)) 1000000 (finK Try.prog [.tmp 2] [] (iFframe_Valid.rs ++ iFframe_Valid.os)) (initF iFframe_Valid.ps x 154) (initL iFframe_Valid.ps x 4) := by kernel_rfl
theorem okFframe_Valid : CallsV Try.prog 19 iFframe_Valid :=
  callsV_of_rk (cx := cFframe_Valid) (fn := Try.f19) (c := Try.f19.body.getD .skip) (n := 154) (N := 4) (rvs := [.tmp 2]) (cxOk (.cons okFframe_shift (.cons okFframe_zero (.cons okFframe_straight TabOk.nil)))) Try.func19 rfl (by kernel_rfl) rfl rfl (by decide) (by decide) (fun x => congrFun eFframe_Valid x)
noncomputable def Fbeltwaylaw03_awake  : Option Bool :=
Option.bind (Fframe_New 4 3) (fun r1 =>
Option.bind (Fframe_Of r1.1 37) (fun r2 =>
if r1.2 = 0 then
if r2.2.2 = 0 then
if r2.1 = 2 then
if r2.2.1 = 5 then
Option.bind (Fframe_Valid r1.1) (fun r3 =>
some (r3))
else some (false)
else some (false)
else some (false)
else some (false)))
@[reducible] noncomputable def iFbeltwaylaw03_awake : FnI := { ps := [], rs := [⟨.bool, false, true, false⟩], os := [], F := fun x => Fbeltwaylaw03_awake  }
noncomputable def cFbeltwaylaw03_awake : Cx := { nm := [(1, (2, 1)), (7, (0, 2))], keep := [], fns := tabF [(7, iFframe_New), (9, iFframe_Of), (19, iFframe_Valid)], loops := [], joins := [] }
theorem eFbeltwaylaw03_awake : (fun x : HT iFbeltwaylaw03_awake.ps => iFbeltwaylaw03_awake.F x) = fun x => rk Try.prog cFbeltwaylaw03_awake (Try.f15.body.getD .skip) (HT (iFbeltwaylaw03_awake.rs ++ iFbeltwaylaw03_awake.os)) 1000000 (finK Try.prog [.tmp 0] [] (iFbeltwaylaw03_awake.rs ++ iFbeltwaylaw03_awake.os)) (initF iFbeltwaylaw03_awake.ps x 34) (initL iFbeltwaylaw03_awake.ps x 3) := by kernel_rfl
theorem okFbeltwaylaw03_awake : CallsV Try.prog 15 iFbeltwaylaw03_awake :=
  callsV_of_rk (cx := cFbeltwaylaw03_awake) (fn := Try.f15) (c := Try.f15.body.getD .skip) (n := 34) (N := 3) (rvs := [.tmp 0]) (cxOk (.cons okFframe_New (.cons okFframe_Of (.cons okFframe_Valid TabOk.nil)))) Try.func15 rfl (by kernel_rfl) rfl rfl (by decide) (by decide) (fun x => congrFun eFbeltwaylaw03_awake x)
noncomputable def Fbeltwaylaw03_FrameFresh (a0 : Int) (a1 : Int) (a2 : Int) : Option Bool :=
Option.bind (Fbeltwaymake_Mod a0 6) (fun r1 =>
Option.bind (Fbeltwaymake_Mod a1 63) (fun r2 =>
Option.bind (Fframe_New (w64 ((3 : Int) + r1)) (w64 ((2 : Int) + r2))) (fun r3 =>
if ¬ r3.2 = 0 then
some (false)
else if ¬ (r3.1.2.2.length : Int) = (w64 ((2 : Int) + r2)) then
some (false)
else Option.bind (Fframe_Size r3.1) (fun r4 =>
if ¬ (r3.1.2.1.length : Int) = (w64 ((w64 ((2 : Int) + r2)) * r4)) then
some (false)
else Option.bind (Fframe_Valid r3.1) (fun r5 =>
if (!r5) = true then
some (false)
else Option.bind (Fbeltwaymake_Mod a2 (w64 ((2 : Int) + r2))) (fun r6 =>
if 0 ≤ r6 ∧ r6 < (r3.1.2.2.length : Int) then
if ((gd (.pair (.int .i64) (.pair (.int .i64) (.int .i64))) r3.1.2.2 r6.toNat).1) = (-1) then
if (((gd (.pair (.int .i64) (.pair (.int .i64) (.int .i64))) r3.1.2.2 r6.toNat).2).1) = (-1) then
if (((gd (.pair (.int .i64) (.pair (.int .i64) (.int .i64))) r3.1.2.2 r6.toNat).2).2) = (-1) then
Option.bind (Fbeltwaylaw03_awake) (fun r7 =>
some (r7))
else some (false)
else some (false)
else some (false)
else none))))))
@[reducible] noncomputable def iFbeltwaylaw03_FrameFresh : FnI := { ps := [⟨(.int .i64), false, false, false⟩, ⟨(.int .i64), false, false, false⟩, ⟨(.int .i64), false, false, false⟩], rs := [⟨.bool, false, true, false⟩], os := [], F := fun x => Fbeltwaylaw03_FrameFresh x.1 x.2.1 x.2.2 }
noncomputable def cFbeltwaylaw03_FrameFresh : Cx := { nm := [(9, (2, 1)), (11, (3, 1)), (21, (0, 2))], keep := [], fns := tabF [(7, iFframe_New), (8, iFbeltwaymake_Mod), (13, iFframe_Size), (15, iFbeltwaylaw03_awake), (19, iFframe_Valid)], loops := [], joins := [] }
theorem eFbeltwaylaw03_FrameFresh : (fun x : HT iFbeltwaylaw03_FrameFresh.ps => iFbeltwaylaw03_FrameFresh.F x) = fun x => rk Try.prog cFbeltwaylaw03_FrameFresh (Try.f5.body.getD .skip) (HT (iFbeltwaylaw03_FrameFresh.rs ++ iFbeltwaylaw03_FrameFresh.os)) 1000000 (finK Try.prog [.tmp 6] [] (iFbeltwaylaw03_FrameFresh.rs ++ iFbeltwaylaw03_FrameFresh.os)) (initF iFbeltwaylaw03_FrameFresh.ps x 71) (initL iFbeltwaylaw03_FrameFresh.ps x 4) := by kernel_rfl
theorem okFbeltwaylaw03_FrameFresh : CallsV Try.prog 5 iFbeltwaylaw03_FrameFresh :=
  callsV_of_rk (cx := cFbeltwaylaw03_FrameFresh) (fn := Try.f5) (c := Try.f5.body.getD .skip) (n := 71) (N := 4) (rvs := [.tmp 6]) (cxOk (.cons okFframe_New (.cons okFbeltwaymake_Mod (.cons okFframe_Size (.cons okFbeltwaylaw03_awake (.cons okFframe_Valid TabOk.nil)))))) Try.func5 rfl (by kernel_rfl) rfl rfl (by decide) (by decide) (fun x => congrFun eFbeltwaylaw03_FrameFresh x)
end Go.Proofs.Ytlcaliggdpiobaa
