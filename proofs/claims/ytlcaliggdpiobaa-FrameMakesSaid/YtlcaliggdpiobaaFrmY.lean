/-
  The functions of the laws FrameMakes and FrameParts (printed, and checked by the kernel).
-/
import Derived.Test.YtlcaliggdpiobaaSpW
set_option linter.unusedVariables false
set_option maxRecDepth 100000
namespace Go.Proofs.Ytlcaliggdpiobaa
open Go Go.V3
noncomputable def Farena_Make (a0 : Int) : Option ((List (BitVec 64)) × Int) :=
if a0 < 0 then
some (([], 1))
else if a0 > 16384 then
some (([], 1))
else if 0 ≤ a0 ∧ a0 ≤ a0 ∧ a0 * ((8 : Nat) : Int) ≤ 140737488355328 then
some ((List.replicate a0.toNat (0#64 : (BitVec 64)), 0))
else none
@[reducible] noncomputable def iFarena_Make : FnI := { ps := [⟨(.int .i64), false, false, false⟩], rs := [⟨(.slice .u64), false, true, false⟩, ⟨(.int .i64), false, true, false⟩], os := [], bk := [], F := fun x => Farena_Make x }
noncomputable def cFarena_Make : Cx := { nm := [(11, (0, 1))], keep := [11], fns := tabF [], loops := [], joins := [] }
theorem eFarena_Make : (fun x : HT iFarena_Make.ps => iFarena_Make.F x) = fun x => rk Try.prog cFarena_Make (Try.f29.body.getD .skip) (HT (iFarena_Make.rs ++ iFarena_Make.os)) 1000000 (finK Try.prog [.tmp 2, .tmp 3] [] iFarena_Make.os (iFarena_Make.rs ++ iFarena_Make.os)) (initF iFarena_Make.ps x 12) (initL iFarena_Make.ps x 1) := by kernel_rfl
theorem okFarena_Make : CallsV Try.prog 29 iFarena_Make :=
  callsV_of_rk (cx := cFarena_Make) (fn := Try.f29) (c := Try.f29.body.getD .skip) (n := 12) (N := 1) (rvs := [.tmp 2, .tmp 3]) (cxOk TabOk.nil) Try.func29 rfl (by kernel_rfl) rfl rfl (by decide) (by decide) (fun x => congrFun eFarena_Make x)
noncomputable def Fframe_New (a0 : Int) (a1 : Int) : Option ((Int × (List (BitVec 64)) × (List (Int × Int × Int))) × Int) :=
Option.bind (Fframe_shift a0) (fun r1 =>
if (!r1) = true then
some (((0, [], []), 1))
else if a1 < 2 then
some (((0, [], []), 1))
else if a1 > 64 then
some (((0, [], []), 1))
else if True then
Option.bind (Farena_Make (w64 (a1 * 2 ^ min (BitVec.ofInt 64 a0).toNat 64))) (fun r2 =>
if ¬ r2.2 = 0 then
some (((0, [], []), r2.2))
else if 0 ≤ a1 ∧ a1 ≤ a1 ∧ a1 * ((24 : Nat) : Int) ≤ 140737488355328 then
loopO (σ := (Int × (List (Int × Int × Int)))) (β := ((Int × (List (BitVec 64)) × (List (Int × Int × Int))) × Int)) (fun s1 =>
if s1.1 < ((List.replicate a1.toNat ((0, 0, 0) : (Int × Int × Int))).length : Int) then
if 0 ≤ s1.1 ∧ s1.1 < (s1.2.length : Int) then
some (Sum.inl ((w64 (s1.1 + 1), s1.2.set s1.1.toNat ((-1), (-1), (-1)))))
else none
else some (Sum.inr (((a0, r2.1, s1.2), 0)))) ((0, List.replicate a1.toNat ((0, 0, 0) : (Int × Int × Int))))
else none)
else none)
@[reducible] noncomputable def iFframe_New : FnI := { ps := [⟨(.int .i64), false, false, false⟩, ⟨(.int .i64), false, false, false⟩], rs := [⟨(.pair (.int .i64) (.pair (.slice .u64) (.slice (.pair (.int .i64) (.pair (.int .i64) (.int .i64)))))), true, true, false⟩, ⟨(.int .i64), false, true, false⟩], os := [], bk := [], F := fun x => Fframe_New x.1 x.2 }
noncomputable def cFframe_New : Cx := { nm := [(4, (0, 1)), (8, (3, 1)), (27, (1, 1)), (37, (2, 1))], keep := [37], fns := tabF [(28, iFframe_shift), (29, iFarena_Make)], loops := [(0, { live := [(42, ⟨(.int .i64), false, false, false⟩)], boxes := [], rows := [(2, (.pair (.int .i64) (.pair (.int .i64) (.int .i64))))], dead := [9, 43, 44, 45, 46, 47, 48, 49, 50], lost := [], base := 4 })], joins := [] }
theorem eFframe_New : (fun x : HT iFframe_New.ps => iFframe_New.F x) = fun x => rk Try.prog cFframe_New (Try.f7.body.getD .skip) (HT (iFframe_New.rs ++ iFframe_New.os)) 1000000 (finK Try.prog [.cell 4 25, .tmp 5] [] iFframe_New.os (iFframe_New.rs ++ iFframe_New.os)) (initF iFframe_New.ps x 52) (initL iFframe_New.ps x 4) := by kernel_rfl
theorem okFframe_New : CallsV Try.prog 7 iFframe_New :=
  callsV_of_rk (cx := cFframe_New) (fn := Try.f7) (c := Try.f7.body.getD .skip) (n := 52) (N := 4) (rvs := [.cell 4 25, .tmp 5]) (cxOk (.cons okFframe_shift (.cons okFarena_Make TabOk.nil))) Try.func7 rfl (by kernel_rfl) rfl rfl (by decide) (by decide) (fun x => congrFun eFframe_New x)
noncomputable def Fframe_bounded (a0 : (Int × (List (BitVec 64)) × (List (Int × Int × Int)))) : Option Bool :=
Option.bind (Fframe_shift a0.1) (fun r1 =>
if r1 = true then
some (decide ((a0.2.2.length : Int) ≤ 64))
else some (false))
@[reducible] noncomputable def iFframe_bounded : FnI := { ps := [⟨(.pair (.int .i64) (.pair (.slice .u64) (.slice (.pair (.int .i64) (.pair (.int .i64) (.int .i64)))))), true, false, false⟩], rs := [⟨.bool, false, true, false⟩], os := [], bk := [], F := fun x => Fframe_bounded x }
noncomputable def cFframe_bounded : Cx := { nm := [(1, (2, 1))], keep := [], fns := tabF [(28, iFframe_shift)], loops := [], joins := [] }
theorem eFframe_bounded : (fun x : HT iFframe_bounded.ps => iFframe_bounded.F x) = fun x => rk Try.prog cFframe_bounded (Try.f30.body.getD .skip) (HT (iFframe_bounded.rs ++ iFframe_bounded.os)) 1000000 (finK Try.prog [.tmp 2] [] iFframe_bounded.os (iFframe_bounded.rs ++ iFframe_bounded.os)) (initF iFframe_bounded.ps x 12) (initL iFframe_bounded.ps x 1) := by kernel_rfl
theorem okFframe_bounded : CallsV Try.prog 30 iFframe_bounded :=
  callsV_of_rk (cx := cFframe_bounded) (fn := Try.f30) (c := Try.f30.body.getD .skip) (n := 12) (N := 1) (rvs := [.tmp 2]) (cxOk (.cons okFframe_shift TabOk.nil)) Try.func30 rfl (by kernel_rfl) rfl rfl (by decide) (by decide) (fun x => congrFun eFframe_bounded x)
noncomputable def Fframe_Of (a0 : (Int × (List (BitVec 64)) × (List (Int × Int × Int)))) (a1 : Int) : Option (Int × Int × Int) :=
Option.bind (Fframe_bounded a0) (fun r1 =>
if (!r1) = true then
some ((0, 0, 1))
else if a1 < 0 then
some ((0, 0, 2))
else if True then
if a1 ≥ (w64 ((a0.2.2.length : Int) * 2 ^ min (BitVec.ofInt 64 a0.1).toNat 64)) then
some ((0, 0, 2))
else if True then
Option.bind (Fframe_Size a0) (fun r2 =>
some ((a1 / 2 ^ min (BitVec.ofInt 64 a0.1).toNat 64, iBits .and a1 (w64 (r2 - 1)), 0)))
else none
else none)
@[reducible] noncomputable def iFframe_Of : FnI := { ps := [⟨(.pair (.int .i64) (.pair (.slice .u64) (.slice (.pair (.int .i64) (.pair (.int .i64) (.int .i64)))))), true, false, false⟩, ⟨(.int .i64), false, false, false⟩], rs := [⟨(.int .i64), false, true, false⟩, ⟨(.int .i64), false, true, false⟩, ⟨(.int .i64), false, true, false⟩], os := [], bk := [], F := fun x => Fframe_Of x.1 x.2 }
noncomputable def cFframe_Of : Cx := { nm := [(2, (2, 1))], keep := [], fns := tabF [(13, iFframe_Size), (30, iFframe_bounded)], loops := [], joins := [] }
theorem eFframe_Of : (fun x : HT iFframe_Of.ps => iFframe_Of.F x) = fun x => rk Try.prog cFframe_Of (Try.f9.body.getD .skip) (HT (iFframe_Of.rs ++ iFframe_Of.os)) 1000000 (finK Try.prog [.tmp 4, .tmp 5, .tmp 6] [] iFframe_Of.os (iFframe_Of.rs ++ iFframe_Of.os)) (initF iFframe_Of.ps x 33) (initL iFframe_Of.ps x 1) := by kernel_rfl
theorem okFframe_Of : CallsV Try.prog 9 iFframe_Of :=
  callsV_of_rk (cx := cFframe_Of) (fn := Try.f9) (c := Try.f9.body.getD .skip) (n := 33) (N := 1) (rvs := [.tmp 4, .tmp 5, .tmp 6]) (cxOk (.cons okFframe_Size (.cons okFframe_bounded TabOk.nil))) Try.func9 rfl (by kernel_rfl) rfl rfl (by decide) (by decide) (fun x => congrFun eFframe_Of x)
noncomputable def Fbeltwaylaw03_awake  : Option Bool :=
Option.bind (Fframe_New 4 3) (fun r1 =>
Option.bind (Fframe_Of r1.1 37) (fun r2 =>
if r1.2 = 0 then
if r2.2.2 = 0 then
if r2.1 = 2 then
if r2.2.1 = 5 then
Option.bind (Fframe_Valid r1.1) (fun r3 =>
some (r3))
else some (false)
else some (false)
else some (false)
else some (false)))
@[reducible] noncomputable def iFbeltwaylaw03_awake : FnI := { ps := [], rs := [⟨.bool, false, true, false⟩], os := [], bk := [], F := fun x => Fbeltwaylaw03_awake  }
noncomputable def cFbeltwaylaw03_awake : Cx := { nm := [(1, (2, 1)), (7, (0, 2))], keep := [], fns := tabF [(7, iFframe_New), (9, iFframe_Of), (19, iFframe_Valid)], loops := [], joins := [] }
theorem eFbeltwaylaw03_awake : (fun x : HT iFbeltwaylaw03_awake.ps => iFbeltwaylaw03_awake.F x) = fun x => rk Try.prog cFbeltwaylaw03_awake (Try.f15.body.getD .skip) (HT (iFbeltwaylaw03_awake.rs ++ iFbeltwaylaw03_awake.os)) 1000000 (finK Try.prog [.tmp 0] [] iFbeltwaylaw03_awake.os (iFbeltwaylaw03_awake.rs ++ iFbeltwaylaw03_awake.os)) (initF iFbeltwaylaw03_awake.ps x 34) (initL iFbeltwaylaw03_awake.ps x 3) := by kernel_rfl
theorem okFbeltwaylaw03_awake : CallsV Try.prog 15 iFbeltwaylaw03_awake :=
  callsV_of_rk (cx := cFbeltwaylaw03_awake) (fn := Try.f15) (c := Try.f15.body.getD .skip) (n := 34) (N := 3) (rvs := [.tmp 0]) (cxOk (.cons okFframe_New (.cons okFframe_Of (.cons okFframe_Valid TabOk.nil)))) Try.func15 rfl (by kernel_rfl) rfl rfl (by decide) (by decide) (fun x => congrFun eFbeltwaylaw03_awake x)
noncomputable def Fbeltwayref03_Size (a0 : (Int × (List (BitVec 64)) × (List (Int × Int × Int)))) : Option Int :=
Option.bind (Fbeltwayref03_shift a0.1) (fun r1 =>
if (!r1) = true then
some (0)
else if True then
some (w64 ((1 : Int) * 2 ^ min (BitVec.ofInt 64 a0.1).toNat 64))
else none)
@[reducible] noncomputable def iFbeltwayref03_Size : FnI := { ps := [⟨(.pair (.int .i64) (.pair (.slice .u64) (.slice (.pair (.int .i64) (.pair (.int .i64) (.int .i64)))))), true, false, false⟩], rs := [⟨(.int .i64), false, true, false⟩], os := [], bk := [], F := fun x => Fbeltwayref03_Size x }
noncomputable def cFbeltwayref03_Size : Cx := { nm := [(1, (2, 1))], keep := [], fns := tabF [(36, iFbeltwayref03_shift)], loops := [], joins := [] }
theorem eFbeltwayref03_Size : (fun x : HT iFbeltwayref03_Size.ps => iFbeltwayref03_Size.F x) = fun x => rk Try.prog cFbeltwayref03_Size (Try.f21.body.getD .skip) (HT (iFbeltwayref03_Size.rs ++ iFbeltwayref03_Size.os)) 1000000 (finK Try.prog [.tmp 2] [] iFbeltwayref03_Size.os (iFbeltwayref03_Size.rs ++ iFbeltwayref03_Size.os)) (initF iFbeltwayref03_Size.ps x 11) (initL iFbeltwayref03_Size.ps x 1) := by kernel_rfl
theorem okFbeltwayref03_Size : CallsV Try.prog 21 iFbeltwayref03_Size :=
  callsV_of_rk (cx := cFbeltwayref03_Size) (fn := Try.f21) (c := Try.f21.body.getD .skip) (n := 11) (N := 1) (rvs := [.tmp 2]) (cxOk (.cons okFbeltwayref03_shift TabOk.nil)) Try.func21 rfl (by kernel_rfl) rfl rfl (by decide) (by decide) (fun x => congrFun eFbeltwayref03_Size x)
noncomputable def Fbeltwayref02_Same (a0 : (List (BitVec 64))) (a1 : (List (BitVec 64))) : Option Bool :=
if ¬ (a0.length : Int) = (a1.length : Int) then
some (false)
else loopO (σ := Int) (β := Bool) (fun s1 =>
if s1 < (a0.length : Int) then
if 0 ≤ s1 ∧ s1 < (a0.length : Int) then
if 0 ≤ s1 ∧ s1 < (a1.length : Int) then
if ¬ (gl (0#64 : (BitVec 64)) a0 s1.toNat) = (gl (0#64 : (BitVec 64)) a1 s1.toNat) then
some (Sum.inr (false))
else some (Sum.inl (w64 (s1 + 1)))
else none
else none
else some (Sum.inr (true))) (0)
@[reducible] noncomputable def iFbeltwayref02_Same : FnI := { ps := [⟨(.slice .u64), false, false, false⟩, ⟨(.slice .u64), false, false, false⟩], rs := [⟨.bool, false, true, false⟩], os := [], bk := [], F := fun x => Fbeltwayref02_Same x.1 x.2 }
noncomputable def cFbeltwayref02_Same : Cx := { nm := [], keep := [], fns := tabF [], loops := [(0, { live := [(13, ⟨(.int .i64), false, false, false⟩)], boxes := [], rows := [], dead := [4, 5, 14, 15, 16, 17, 18, 19, 20, 21, 22, 23, 24, 25], lost := [], base := 2 })], joins := [] }
theorem eFbeltwayref02_Same : (fun x : HT iFbeltwayref02_Same.ps => iFbeltwayref02_Same.F x) = fun x => rk Try.prog cFbeltwayref02_Same (Try.f38.body.getD .skip) (HT (iFbeltwayref02_Same.rs ++ iFbeltwayref02_Same.os)) 1000000 (finK Try.prog [.tmp 4] [] iFbeltwayref02_Same.os (iFbeltwayref02_Same.rs ++ iFbeltwayref02_Same.os)) (initF iFbeltwayref02_Same.ps x 26) (initL iFbeltwayref02_Same.ps x 0) := by kernel_rfl
theorem okFbeltwayref02_Same : CallsV Try.prog 38 iFbeltwayref02_Same :=
  callsV_of_rk (cx := cFbeltwayref02_Same) (fn := Try.f38) (c := Try.f38.body.getD .skip) (n := 26) (N := 0) (rvs := [.tmp 4]) (cxOk TabOk.nil) Try.func38 rfl (by kernel_rfl) rfl rfl (by decide) (by decide) (fun x => congrFun eFbeltwayref02_Same x)
noncomputable def Fbeltwayref03_Same (a0 : (Int × (List (BitVec 64)) × (List (Int × Int × Int)))) (a1 : (Int × (List (BitVec 64)) × (List (Int × Int × Int)))) : Option Bool :=
if ¬ a0.1 = a1.1 then
some (false)
else if ¬ (a0.2.2.length : Int) = (a1.2.2.length : Int) then
some (false)
else Option.bind (Fbeltwayref02_Same a0.2.1 a1.2.1) (fun r1 =>
if (!r1) = true then
some (false)
else loopO (σ := Int) (β := Bool) (fun s1 =>
if s1 < (a0.2.2.length : Int) then
if 0 ≤ s1 ∧ s1 < (a0.2.2.length : Int) then
if 0 ≤ s1 ∧ s1 < (a1.2.2.length : Int) then
if (!(allB [decide (((gl ((0, 0, 0) : (Int × Int × Int)) a0.2.2 s1.toNat).1) = ((gl ((0, 0, 0) : (Int × Int × Int)) a1.2.2 s1.toNat).1)), decide ((((gl ((0, 0, 0) : (Int × Int × Int)) a0.2.2 s1.toNat).2).1) = (((gl ((0, 0, 0) : (Int × Int × Int)) a1.2.2 s1.toNat).2).1)), decide ((((gl ((0, 0, 0) : (Int × Int × Int)) a0.2.2 s1.toNat).2).2) = (((gl ((0, 0, 0) : (Int × Int × Int)) a1.2.2 s1.toNat).2).2))])) = true then
some (Sum.inr (false))
else some (Sum.inl (w64 (s1 + 1)))
else none
else none
else some (Sum.inr (true))) (0))
@[reducible] noncomputable def iFbeltwayref03_Same : FnI := { ps := [⟨(.pair (.int .i64) (.pair (.slice .u64) (.slice (.pair (.int .i64) (.pair (.int .i64) (.int .i64)))))), true, false, false⟩, ⟨(.pair (.int .i64) (.pair (.slice .u64) (.slice (.pair (.int .i64) (.pair (.int .i64) (.int .i64)))))), true, false, false⟩], rs := [⟨.bool, false, true, false⟩], os := [], bk := [], F := fun x => Fbeltwayref03_Same x.1 x.2 }
noncomputable def cFbeltwayref03_Same : Cx := { nm := [(2, (4, 1)), (3, (5, 1))], keep := [], fns := tabF [(38, iFbeltwayref02_Same)], loops := [(0, { live := [(31, ⟨(.int .i64), false, false, false⟩)], boxes := [], rows := [], dead := [4, 5, 32, 33, 34, 35, 36, 37, 38, 39, 40, 41, 42, 43, 44, 45], lost := [], base := 6 })], joins := [] }
theorem eFbeltwayref03_Same : (fun x : HT iFbeltwayref03_Same.ps => iFbeltwayref03_Same.F x) = fun x => rk Try.prog cFbeltwayref03_Same (Try.f23.body.getD .skip) (HT (iFbeltwayref03_Same.rs ++ iFbeltwayref03_Same.os)) 1000000 (finK Try.prog [.tmp 4] [] iFbeltwayref03_Same.os (iFbeltwayref03_Same.rs ++ iFbeltwayref03_Same.os)) (initF iFbeltwayref03_Same.ps x 46) (initL iFbeltwayref03_Same.ps x 2) := by kernel_rfl
theorem okFbeltwayref03_Same : CallsV Try.prog 23 iFbeltwayref03_Same :=
  callsV_of_rk (cx := cFbeltwayref03_Same) (fn := Try.f23) (c := Try.f23.body.getD .skip) (n := 46) (N := 2) (rvs := [.tmp 4]) (cxOk (.cons okFbeltwayref02_Same TabOk.nil)) Try.func23 rfl (by kernel_rfl) rfl rfl (by decide) (by decide) (fun x => congrFun eFbeltwayref03_Same x)
noncomputable def Fbeltwaylaw03_FrameMakes (a0 : (Int × (List (BitVec 64)) × (List (Int × Int × Int)))) (a1 : (List Int)) (a2 : Int) (a3 : Int) (a4 : Int) (a5 : Int) (a6 : Int) : Option Bool :=
Option.bind (Fbeltwaymake_Small a0) (fun r1 =>
if (!r1) = true then
Option.bind (Fbeltwaylaw03_awake) (fun r2 =>
some (r2))
else Option.bind (Fbeltwaymake_New a1) (fun r3 =>
Option.bind (Fbeltwaymake_Space r3) (fun r4 =>
Option.bind (Fbeltwaymake_Spoilt r4.1 a4 a5 a6) (fun r5 =>
Option.bind (Fbeltwaymake_Spoilt r4.1 2 a5 a6) (fun r6 =>
Option.bind (Fbeltwaymake_Spoilt r6 2 a6 a5) (fun r7 =>
loopO (σ := Int) (β := Bool) (fun s1 =>
if s1 < (([a0, r4.1, r5, r7] : List (Int × (List (BitVec 64)) × (List (Int × Int × Int)))).length : Int) then
if 0 ≤ s1 ∧ s1 < (([a0, r4.1, r5, r7] : List (Int × (List (BitVec 64)) × (List (Int × Int × Int)))).length : Int) then
Option.bind (Fframe_Valid ((gl ((0, [], []) : (Int × (List (BitVec 64)) × (List (Int × Int × Int)))) ([a0, r4.1, r5, r7] : List (Int × (List (BitVec 64)) × (List (Int × Int × Int)))) s1.toNat).1, ((gl ((0, [], []) : (Int × (List (BitVec 64)) × (List (Int × Int × Int)))) ([a0, r4.1, r5, r7] : List (Int × (List (BitVec 64)) × (List (Int × Int × Int)))) s1.toNat).2))) (fun r8 =>
Option.bind (Fbeltwayref03_Valid ((gl ((0, [], []) : (Int × (List (BitVec 64)) × (List (Int × Int × Int)))) ([a0, r4.1, r5, r7] : List (Int × (List (BitVec 64)) × (List (Int × Int × Int)))) s1.toNat).1, ((gl ((0, [], []) : (Int × (List (BitVec 64)) × (List (Int × Int × Int)))) ([a0, r4.1, r5, r7] : List (Int × (List (BitVec 64)) × (List (Int × Int × Int)))) s1.toNat).2))) (fun r9 =>
if ¬ r8 = r9 then
some (Sum.inr (false))
else Option.bind (Fframe_Size ((gl ((0, [], []) : (Int × (List (BitVec 64)) × (List (Int × Int × Int)))) ([a0, r4.1, r5, r7] : List (Int × (List (BitVec 64)) × (List (Int × Int × Int)))) s1.toNat).1, ((gl ((0, [], []) : (Int × (List (BitVec 64)) × (List (Int × Int × Int)))) ([a0, r4.1, r5, r7] : List (Int × (List (BitVec 64)) × (List (Int × Int × Int)))) s1.toNat).2))) (fun r10 =>
Option.bind (Fbeltwayref03_Size ((gl ((0, [], []) : (Int × (List (BitVec 64)) × (List (Int × Int × Int)))) ([a0, r4.1, r5, r7] : List (Int × (List (BitVec 64)) × (List (Int × Int × Int)))) s1.toNat).1, ((gl ((0, [], []) : (Int × (List (BitVec 64)) × (List (Int × Int × Int)))) ([a0, r4.1, r5, r7] : List (Int × (List (BitVec 64)) × (List (Int × Int × Int)))) s1.toNat).2))) (fun r11 =>
if ¬ r10 = r11 then
some (Sum.inr (false))
else some (Sum.inl (w64 (s1 + 1)))))))
else none
else Option.map Sum.inr (Option.bind (Fbeltwaymake_Mod a2 5) (fun r12 =>
Option.bind (Fbeltwaymake_Mod a3 9) (fun r13 =>
Option.bind (Fbeltwaymake_Mod a2 11) (fun r14 =>
Option.bind (Fbeltwaymake_Mod a3 67) (fun r15 =>
loopO (σ := Int) (β := Bool) (fun s2 =>
if s2 < (([([a2, a3] : List Int), ([w64 ((2 : Int) + r12), r13] : List Int), ([r14, r15] : List Int)] : List (List Int)).length : Int) then
if 0 ≤ s2 ∧ s2 < (([([a2, a3] : List Int), ([w64 ((2 : Int) + r12), r13] : List Int), ([r14, r15] : List Int)] : List (List Int)).length : Int) then
if 0 ≤ (0 : Int) ∧ (0 : Int) < ((gl ([] : (List Int)) ([([a2, a3] : List Int), ([w64 ((2 : Int) + r12), r13] : List Int), ([r14, r15] : List Int)] : List (List Int)) s2.toNat).length : Int) then
if 0 ≤ (1 : Int) ∧ (1 : Int) < ((gl ([] : (List Int)) ([([a2, a3] : List Int), ([w64 ((2 : Int) + r12), r13] : List Int), ([r14, r15] : List Int)] : List (List Int)) s2.toNat).length : Int) then
Option.bind (Fframe_New (gl (0 : Int) (gl ([] : (List Int)) ([([a2, a3] : List Int), ([w64 ((2 : Int) + r12), r13] : List Int), ([r14, r15] : List Int)] : List (List Int)) s2.toNat) ((0 : Int).toNat)) (gl (0 : Int) (gl ([] : (List Int)) ([([a2, a3] : List Int), ([w64 ((2 : Int) + r12), r13] : List Int), ([r14, r15] : List Int)] : List (List Int)) s2.toNat) ((1 : Int).toNat))) (fun r16 =>
if 0 ≤ (0 : Int) ∧ (0 : Int) < ((gl ([] : (List Int)) ([([a2, a3] : List Int), ([w64 ((2 : Int) + r12), r13] : List Int), ([r14, r15] : List Int)] : List (List Int)) s2.toNat).length : Int) then
if 0 ≤ (1 : Int) ∧ (1 : Int) < ((gl ([] : (List Int)) ([([a2, a3] : List Int), ([w64 ((2 : Int) + r12), r13] : List Int), ([r14, r15] : List Int)] : List (List Int)) s2.toNat).length : Int) then
Option.bind (Fbeltwayref03_New (gl (0 : Int) (gl ([] : (List Int)) ([([a2, a3] : List Int), ([w64 ((2 : Int) + r12), r13] : List Int), ([r14, r15] : List Int)] : List (List Int)) s2.toNat) ((0 : Int).toNat)) (gl (0 : Int) (gl ([] : (List Int)) ([([a2, a3] : List Int), ([w64 ((2 : Int) + r12), r13] : List Int), ([r14, r15] : List Int)] : List (List Int)) s2.toNat) ((1 : Int).toNat))) (fun r17 =>
if ¬ r16.2 = r17.2 then
some (Sum.inr (false))
else Option.bind (Fbeltwayref03_Same r16.1 r17.1) (fun r18 =>
if (!r18) = true then
some (Sum.inr (false))
else some (Sum.inl (w64 (s2 + 1)))))
else none
else none)
else none
else none
else none
else Option.map Sum.inr (Option.bind (Fbeltwaylaw03_awake) (fun r19 =>
some (r19)))) (0))))))) (0)))))))
@[reducible] noncomputable def iFbeltwaylaw03_FrameMakes : FnI := { ps := [⟨(.pair (.int .i64) (.pair (.slice .u64) (.slice (.pair (.int .i64) (.pair (.int .i64) (.int .i64)))))), true, false, false⟩, ⟨(.slice (.int .i64)), false, false, false⟩, ⟨(.int .i64), false, false, false⟩, ⟨(.int .i64), false, false, false⟩, ⟨(.int .i64), false, false, false⟩, ⟨(.int .i64), false, false, false⟩, ⟨(.int .i64), false, false, false⟩], rs := [⟨.bool, false, true, false⟩], os := [], bk := [], F := fun x => Fbeltwaylaw03_FrameMakes x.1 x.2.1 x.2.2.1 x.2.2.2.1 x.2.2.2.2.1 x.2.2.2.2.2.1 x.2.2.2.2.2.2 }
noncomputable def cFbeltwaylaw03_FrameMakes : Cx := { nm := [(7, (3, 1)), (15, (10, 1)), (18, (20, 1)), (21, (28, 1)), (23, (31, 1)), (31, (4, 2)), (32, (6, 4)), (41, (11, 2)), (45, (13, 2)), (48, (15, 2)), (49, (17, 1)), (54, (18, 2)), (70, (21, 1)), (76, (22, 1)), (81, (23, 1)), (82, (24, 1)), (87, (25, 1)), (95, (26, 2)), (105, (29, 2))], keep := [], fns := tabF [(7, iFframe_New), (8, iFbeltwaymake_Mod), (13, iFframe_Size), (14, iFbeltwaymake_Small), (15, iFbeltwaylaw03_awake), (16, iFbeltwaymake_Space), (17, iFbeltwaymake_New), (18, iFbeltwaymake_Spoilt), (19, iFframe_Valid), (20, iFbeltwayref03_Valid), (21, iFbeltwayref03_Size), (22, iFbeltwayref03_New), (23, iFbeltwayref03_Same)], loops := [(0, { live := [(51, ⟨(.int .i64), false, false, false⟩)], boxes := [], rows := [], dead := [14, 18, 52, 53, 54, 55, 56, 57, 58, 59, 60, 61, 62, 63, 64, 65, 66, 67], lost := [], base := 18 }), (2, { live := [(84, ⟨(.int .i64), false, false, false⟩)], boxes := [], rows := [], dead := [14, 20, 21, 22, 23, 24, 85, 86, 87, 88, 89, 90, 91, 92, 93, 94, 95, 96, 97, 98, 99, 100, 101, 102, 103, 104, 105, 106, 107, 108, 109, 110, 111, 112, 113, 114, 115, 116, 117], lost := [], base := 25 })], joins := [] }
theorem eFbeltwaylaw03_FrameMakes : (fun x : HT iFbeltwaylaw03_FrameMakes.ps => iFbeltwaylaw03_FrameMakes.F x) = fun x => rk Try.prog cFbeltwaylaw03_FrameMakes (Try.f4.body.getD .skip) (HT (iFbeltwaylaw03_FrameMakes.rs ++ iFbeltwaylaw03_FrameMakes.os)) 1000000 (finK Try.prog [.tmp 14] [] iFbeltwaylaw03_FrameMakes.os (iFbeltwaylaw03_FrameMakes.rs ++ iFbeltwaylaw03_FrameMakes.os)) (initF iFbeltwaylaw03_FrameMakes.ps x 119) (initL iFbeltwaylaw03_FrameMakes.ps x 29) := by kernel_rfl
theorem okFbeltwaylaw03_FrameMakes : CallsV Try.prog 4 iFbeltwaylaw03_FrameMakes :=
  callsV_of_rk (cx := cFbeltwaylaw03_FrameMakes) (fn := Try.f4) (c := Try.f4.body.getD .skip) (n := 119) (N := 29) (rvs := [.tmp 14]) (cxOk (.cons okFframe_New (.cons okFbeltwaymake_Mod (.cons okFframe_Size (.cons okFbeltwaymake_Small (.cons okFbeltwaylaw03_awake (.cons okFbeltwaymake_Space (.cons okFbeltwaymake_New (.cons okFbeltwaymake_Spoilt (.cons okFframe_Valid (.cons okFbeltwayref03_Valid (.cons okFbeltwayref03_Size (.cons okFbeltwayref03_New (.cons okFbeltwayref03_Same TabOk.nil)))))))))))))) Try.func4 rfl (by kernel_rfl) rfl rfl (by decide) (by decide) (fun x => congrFun eFbeltwaylaw03_FrameMakes x)
noncomputable def Fbeltwayref03_odd (a0 : (Int × (List (BitVec 64)) × (List (Int × Int × Int)))) : Option Bool :=
Option.bind (Fbeltwayref03_shift a0.1) (fun r1 =>
if (!r1) = true then
some (true)
else some (decide ((a0.2.2.length : Int) > 64)))
@[reducible] noncomputable def iFbeltwayref03_odd : FnI := { ps := [⟨(.pair (.int .i64) (.pair (.slice .u64) (.slice (.pair (.int .i64) (.pair (.int .i64) (.int .i64)))))), true, false, false⟩], rs := [⟨.bool, false, true, false⟩], os := [], bk := [], F := fun x => Fbeltwayref03_odd x }
noncomputable def cFbeltwayref03_odd : Cx := { nm := [(1, (2, 1))], keep := [], fns := tabF [(36, iFbeltwayref03_shift)], loops := [], joins := [] }
theorem eFbeltwayref03_odd : (fun x : HT iFbeltwayref03_odd.ps => iFbeltwayref03_odd.F x) = fun x => rk Try.prog cFbeltwayref03_odd (Try.f39.body.getD .skip) (HT (iFbeltwayref03_odd.rs ++ iFbeltwayref03_odd.os)) 1000000 (finK Try.prog [.tmp 2] [] iFbeltwayref03_odd.os (iFbeltwayref03_odd.rs ++ iFbeltwayref03_odd.os)) (initF iFbeltwayref03_odd.ps x 13) (initL iFbeltwayref03_odd.ps x 1) := by kernel_rfl
theorem okFbeltwayref03_odd : CallsV Try.prog 39 iFbeltwayref03_odd :=
  callsV_of_rk (cx := cFbeltwayref03_odd) (fn := Try.f39) (c := Try.f39.body.getD .skip) (n := 13) (N := 1) (rvs := [.tmp 2]) (cxOk (.cons okFbeltwayref03_shift TabOk.nil)) Try.func39 rfl (by kernel_rfl) rfl rfl (by decide) (by decide) (fun x => congrFun eFbeltwayref03_odd x)
noncomputable def Fbeltwayref03_Of (a0 : (Int × (List (BitVec 64)) × (List (Int × Int × Int)))) (a1 : Int) : Option (Int × Int × Int) :=
Option.bind (Fbeltwayref03_odd a0) (fun r1 =>
if r1 = true then
some ((0, 0, 1))
else if a1 < 0 then
some ((0, 0, 2))
else if True then
if a1 ≥ (w64 ((a0.2.2.length : Int) * 2 ^ min (BitVec.ofInt 64 a0.1).toNat 64)) then
some ((0, 0, 2))
else if True then
if True then
some ((a1 / 2 ^ min (BitVec.ofInt 64 a0.1).toNat 64, iBits .and a1 (w64 ((w64 ((1 : Int) * 2 ^ min (BitVec.ofInt 64 a0.1).toNat 64)) - 1)), 0))
else none
else none
else none)
@[reducible] noncomputable def iFbeltwayref03_Of : FnI := { ps := [⟨(.pair (.int .i64) (.pair (.slice .u64) (.slice (.pair (.int .i64) (.pair (.int .i64) (.int .i64)))))), true, false, false⟩, ⟨(.int .i64), false, false, false⟩], rs := [⟨(.int .i64), false, true, false⟩, ⟨(.int .i64), false, true, false⟩, ⟨(.int .i64), false, true, false⟩], os := [], bk := [], F := fun x => Fbeltwayref03_Of x.1 x.2 }
noncomputable def cFbeltwayref03_Of : Cx := { nm := [(2, (2, 1))], keep := [], fns := tabF [(39, iFbeltwayref03_odd)], loops := [], joins := [] }
theorem eFbeltwayref03_Of : (fun x : HT iFbeltwayref03_Of.ps => iFbeltwayref03_Of.F x) = fun x => rk Try.prog cFbeltwayref03_Of (Try.f24.body.getD .skip) (HT (iFbeltwayref03_Of.rs ++ iFbeltwayref03_Of.os)) 1000000 (finK Try.prog [.tmp 4, .tmp 5, .tmp 6] [] iFbeltwayref03_Of.os (iFbeltwayref03_Of.rs ++ iFbeltwayref03_Of.os)) (initF iFbeltwayref03_Of.ps x 34) (initL iFbeltwayref03_Of.ps x 1) := by kernel_rfl
theorem okFbeltwayref03_Of : CallsV Try.prog 24 iFbeltwayref03_Of :=
  callsV_of_rk (cx := cFbeltwayref03_Of) (fn := Try.f24) (c := Try.f24.body.getD .skip) (n := 34) (N := 1) (rvs := [.tmp 4, .tmp 5, .tmp 6]) (cxOk (.cons okFbeltwayref03_odd TabOk.nil)) Try.func24 rfl (by kernel_rfl) rfl rfl (by decide) (by decide) (fun x => congrFun eFbeltwayref03_Of x)
noncomputable def Fframe_Base (a0 : (Int × (List (BitVec 64)) × (List (Int × Int × Int)))) (a1 : Int) : Option (Int × Int) :=
Option.bind (Fframe_bounded a0) (fun r1 =>
if (!r1) = true then
some ((0, 1))
else if a1 < 0 then
some ((0, 2))
else if a1 ≥ (a0.2.2.length : Int) then
some ((0, 2))
else if True then
some ((w64 (a1 * 2 ^ min (BitVec.ofInt 64 a0.1).toNat 64), 0))
else none)
@[reducible] noncomputable def iFframe_Base : FnI := { ps := [⟨(.pair (.int .i64) (.pair (.slice .u64) (.slice (.pair (.int .i64) (.pair (.int .i64) (.int .i64)))))), true, false, false⟩, ⟨(.int .i64), false, false, false⟩], rs := [⟨(.int .i64), false, true, false⟩, ⟨(.int .i64), false, true, false⟩], os := [], bk := [], F := fun x => Fframe_Base x.1 x.2 }
noncomputable def cFframe_Base : Cx := { nm := [(2, (2, 1))], keep := [], fns := tabF [(30, iFframe_bounded)], loops := [], joins := [] }
theorem eFframe_Base : (fun x : HT iFframe_Base.ps => iFframe_Base.F x) = fun x => rk Try.prog cFframe_Base (Try.f10.body.getD .skip) (HT (iFframe_Base.rs ++ iFframe_Base.os)) 1000000 (finK Try.prog [.tmp 4, .tmp 5] [] iFframe_Base.os (iFframe_Base.rs ++ iFframe_Base.os)) (initF iFframe_Base.ps x 23) (initL iFframe_Base.ps x 1) := by kernel_rfl
theorem okFframe_Base : CallsV Try.prog 10 iFframe_Base :=
  callsV_of_rk (cx := cFframe_Base) (fn := Try.f10) (c := Try.f10.body.getD .skip) (n := 23) (N := 1) (rvs := [.tmp 4, .tmp 5]) (cxOk (.cons okFframe_bounded TabOk.nil)) Try.func10 rfl (by kernel_rfl) rfl rfl (by decide) (by decide) (fun x => congrFun eFframe_Base x)
noncomputable def Fbeltwayref03_Base (a0 : (Int × (List (BitVec 64)) × (List (Int × Int × Int)))) (a1 : Int) : Option (Int × Int) :=
Option.bind (Fbeltwayref03_odd a0) (fun r1 =>
if r1 = true then
some ((0, 1))
else if a1 < 0 then
some ((0, 2))
else if a1 ≥ (a0.2.2.length : Int) then
some ((0, 2))
else if True then
some ((w64 (a1 * 2 ^ min (BitVec.ofInt 64 a0.1).toNat 64), 0))
else none)
@[reducible] noncomputable def iFbeltwayref03_Base : FnI := { ps := [⟨(.pair (.int .i64) (.pair (.slice .u64) (.slice (.pair (.int .i64) (.pair (.int .i64) (.int .i64)))))), true, false, false⟩, ⟨(.int .i64), false, false, false⟩], rs := [⟨(.int .i64), false, true, false⟩, ⟨(.int .i64), false, true, false⟩], os := [], bk := [], F := fun x => Fbeltwayref03_Base x.1 x.2 }
noncomputable def cFbeltwayref03_Base : Cx := { nm := [(2, (2, 1))], keep := [], fns := tabF [(39, iFbeltwayref03_odd)], loops := [], joins := [] }
theorem eFbeltwayref03_Base : (fun x : HT iFbeltwayref03_Base.ps => iFbeltwayref03_Base.F x) = fun x => rk Try.prog cFbeltwayref03_Base (Try.f25.body.getD .skip) (HT (iFbeltwayref03_Base.rs ++ iFbeltwayref03_Base.os)) 1000000 (finK Try.prog [.tmp 4, .tmp 5] [] iFbeltwayref03_Base.os (iFbeltwayref03_Base.rs ++ iFbeltwayref03_Base.os)) (initF iFbeltwayref03_Base.ps x 22) (initL iFbeltwayref03_Base.ps x 1) := by kernel_rfl
theorem okFbeltwayref03_Base : CallsV Try.prog 25 iFbeltwayref03_Base :=
  callsV_of_rk (cx := cFbeltwayref03_Base) (fn := Try.f25) (c := Try.f25.body.getD .skip) (n := 22) (N := 1) (rvs := [.tmp 4, .tmp 5]) (cxOk (.cons okFbeltwayref03_odd TabOk.nil)) Try.func25 rfl (by kernel_rfl) rfl rfl (by decide) (by decide) (fun x => congrFun eFbeltwayref03_Base x)
noncomputable def Fframe_Pair (a0 : (Int × (List (BitVec 64)) × (List (Int × Int × Int)))) (a1 : Int) (a2 : Int) : Option (Int × Int) :=
Option.bind (Fframe_bounded a0) (fun r1 =>
if (!r1) = true then
some ((0, 1))
else if a1 < 0 then
some ((0, 2))
else if a1 ≥ (a0.2.2.length : Int) then
some ((0, 2))
else if a2 < 0 then
some ((0, 2))
else if a2 ≥ (a0.2.2.length : Int) then
some ((0, 2))
else some ((w64 ((w64 (a1 * (a0.2.2.length : Int))) + a2), 0)))
@[reducible] noncomputable def iFframe_Pair : FnI := { ps := [⟨(.pair (.int .i64) (.pair (.slice .u64) (.slice (.pair (.int .i64) (.pair (.int .i64) (.int .i64)))))), true, false, false⟩, ⟨(.int .i64), false, false, false⟩, ⟨(.int .i64), false, false, false⟩], rs := [⟨(.int .i64), false, true, false⟩, ⟨(.int .i64), false, true, false⟩], os := [], bk := [], F := fun x => Fframe_Pair x.1 x.2.1 x.2.2 }
noncomputable def cFframe_Pair : Cx := { nm := [(3, (2, 1))], keep := [], fns := tabF [(30, iFframe_bounded)], loops := [], joins := [] }
theorem eFframe_Pair : (fun x : HT iFframe_Pair.ps => iFframe_Pair.F x) = fun x => rk Try.prog cFframe_Pair (Try.f11.body.getD .skip) (HT (iFframe_Pair.rs ++ iFframe_Pair.os)) 1000000 (finK Try.prog [.tmp 6, .tmp 7] [] iFframe_Pair.os (iFframe_Pair.rs ++ iFframe_Pair.os)) (initF iFframe_Pair.ps x 36) (initL iFframe_Pair.ps x 1) := by kernel_rfl
theorem okFframe_Pair : CallsV Try.prog 11 iFframe_Pair :=
  callsV_of_rk (cx := cFframe_Pair) (fn := Try.f11) (c := Try.f11.body.getD .skip) (n := 36) (N := 1) (rvs := [.tmp 6, .tmp 7]) (cxOk (.cons okFframe_bounded TabOk.nil)) Try.func11 rfl (by kernel_rfl) rfl rfl (by decide) (by decide) (fun x => congrFun eFframe_Pair x)
noncomputable def Fbeltwayref03_Pair (a0 : (Int × (List (BitVec 64)) × (List (Int × Int × Int)))) (a1 : Int) (a2 : Int) : Option (Int × Int) :=
Option.bind (Fbeltwayref03_odd a0) (fun r1 =>
if r1 = true then
some ((0, 1))
else if a1 < 0 then
some ((0, 2))
else if a1 ≥ (a0.2.2.length : Int) then
some ((0, 2))
else if a2 < 0 then
some ((0, 2))
else if a2 ≥ (a0.2.2.length : Int) then
some ((0, 2))
else some ((w64 ((w64 (a1 * (a0.2.2.length : Int))) + a2), 0)))
@[reducible] noncomputable def iFbeltwayref03_Pair : FnI := { ps := [⟨(.pair (.int .i64) (.pair (.slice .u64) (.slice (.pair (.int .i64) (.pair (.int .i64) (.int .i64)))))), true, false, false⟩, ⟨(.int .i64), false, false, false⟩, ⟨(.int .i64), false, false, false⟩], rs := [⟨(.int .i64), false, true, false⟩, ⟨(.int .i64), false, true, false⟩], os := [], bk := [], F := fun x => Fbeltwayref03_Pair x.1 x.2.1 x.2.2 }
noncomputable def cFbeltwayref03_Pair : Cx := { nm := [(3, (2, 1))], keep := [], fns := tabF [(39, iFbeltwayref03_odd)], loops := [], joins := [] }
theorem eFbeltwayref03_Pair : (fun x : HT iFbeltwayref03_Pair.ps => iFbeltwayref03_Pair.F x) = fun x => rk Try.prog cFbeltwayref03_Pair (Try.f26.body.getD .skip) (HT (iFbeltwayref03_Pair.rs ++ iFbeltwayref03_Pair.os)) 1000000 (finK Try.prog [.tmp 6, .tmp 7] [] iFbeltwayref03_Pair.os (iFbeltwayref03_Pair.rs ++ iFbeltwayref03_Pair.os)) (initF iFbeltwayref03_Pair.ps x 35) (initL iFbeltwayref03_Pair.ps x 1) := by kernel_rfl
theorem okFbeltwayref03_Pair : CallsV Try.prog 26 iFbeltwayref03_Pair :=
  callsV_of_rk (cx := cFbeltwayref03_Pair) (fn := Try.f26) (c := Try.f26.body.getD .skip) (n := 35) (N := 1) (rvs := [.tmp 6, .tmp 7]) (cxOk (.cons okFbeltwayref03_odd TabOk.nil)) Try.func26 rfl (by kernel_rfl) rfl rfl (by decide) (by decide) (fun x => congrFun eFbeltwayref03_Pair x)
noncomputable def Fframe_Unpair (a0 : (Int × (List (BitVec 64)) × (List (Int × Int × Int)))) (a1 : Int) : Option (Int × Int × Int) :=
Option.bind (Fframe_bounded a0) (fun r1 =>
if (!r1) = true then
some ((0, 0, 1))
else if a1 < 0 then
some ((0, 0, 2))
else if a1 ≥ (w64 ((a0.2.2.length : Int) * (a0.2.2.length : Int))) then
some ((0, 0, 2))
else if ¬ (a0.2.2.length : Int) = 0 then
if ¬ (a0.2.2.length : Int) = 0 then
some ((w64 (Int.tdiv a1 (a0.2.2.length : Int)), Int.tmod a1 (a0.2.2.length : Int), 0))
else none
else none)
@[reducible] noncomputable def iFframe_Unpair : FnI := { ps := [⟨(.pair (.int .i64) (.pair (.slice .u64) (.slice (.pair (.int .i64) (.pair (.int .i64) (.int .i64)))))), true, false, false⟩, ⟨(.int .i64), false, false, false⟩], rs := [⟨(.int .i64), false, true, false⟩, ⟨(.int .i64), false, true, false⟩, ⟨(.int .i64), false, true, false⟩], os := [], bk := [], F := fun x => Fframe_Unpair x.1 x.2 }
noncomputable def cFframe_Unpair : Cx := { nm := [(2, (2, 1))], keep := [], fns := tabF [(30, iFframe_bounded)], loops := [], joins := [] }
theorem eFframe_Unpair : (fun x : HT iFframe_Unpair.ps => iFframe_Unpair.F x) = fun x => rk Try.prog cFframe_Unpair (Try.f12.body.getD .skip) (HT (iFframe_Unpair.rs ++ iFframe_Unpair.os)) 1000000 (finK Try.prog [.tmp 4, .tmp 5, .tmp 6] [] iFframe_Unpair.os (iFframe_Unpair.rs ++ iFframe_Unpair.os)) (initF iFframe_Unpair.ps x 29) (initL iFframe_Unpair.ps x 1) := by kernel_rfl
theorem okFframe_Unpair : CallsV Try.prog 12 iFframe_Unpair :=
  callsV_of_rk (cx := cFframe_Unpair) (fn := Try.f12) (c := Try.f12.body.getD .skip) (n := 29) (N := 1) (rvs := [.tmp 4, .tmp 5, .tmp 6]) (cxOk (.cons okFframe_bounded TabOk.nil)) Try.func12 rfl (by kernel_rfl) rfl rfl (by decide) (by decide) (fun x => congrFun eFframe_Unpair x)
noncomputable def Fbeltwayref03_Unpair (a0 : (Int × (List (BitVec 64)) × (List (Int × Int × Int)))) (a1 : Int) : Option (Int × Int × Int) :=
Option.bind (Fbeltwayref03_odd a0) (fun r1 =>
if r1 = true then
some ((0, 0, 1))
else if a1 < 0 then
some ((0, 0, 2))
else if a1 ≥ (w64 ((a0.2.2.length : Int) * (a0.2.2.length : Int))) then
some ((0, 0, 2))
else if ¬ (a0.2.2.length : Int) = 0 then
if ¬ (a0.2.2.length : Int) = 0 then
some ((w64 (Int.tdiv a1 (a0.2.2.length : Int)), Int.tmod a1 (a0.2.2.length : Int), 0))
else none
else none)
@[reducible] noncomputable def iFbeltwayref03_Unpair : FnI := { ps := [⟨(.pair (.int .i64) (.pair (.slice .u64) (.slice (.pair (.int .i64) (.pair (.int .i64) (.int .i64)))))), true, false, false⟩, ⟨(.int .i64), false, false, false⟩], rs := [⟨(.int .i64), false, true, false⟩, ⟨(.int .i64), false, true, false⟩, ⟨(.int .i64), false, true, false⟩], os := [], bk := [], F := fun x => Fbeltwayref03_Unpair x.1 x.2 }
noncomputable def cFbeltwayref03_Unpair : Cx := { nm := [(2, (2, 1))], keep := [], fns := tabF [(39, iFbeltwayref03_odd)], loops := [], joins := [] }
theorem eFbeltwayref03_Unpair : (fun x : HT iFbeltwayref03_Unpair.ps => iFbeltwayref03_Unpair.F x) = fun x => rk Try.prog cFbeltwayref03_Unpair (Try.f27.body.getD .skip) (HT (iFbeltwayref03_Unpair.rs ++ iFbeltwayref03_Unpair.os)) 1000000 (finK Try.prog [.tmp 4, .tmp 5, .tmp 6] [] iFbeltwayref03_Unpair.os (iFbeltwayref03_Unpair.rs ++ iFbeltwayref03_Unpair.os)) (initF iFbeltwayref03_Unpair.ps x 28) (initL iFbeltwayref03_Unpair.ps x 1) := by kernel_rfl
theorem okFbeltwayref03_Unpair : CallsV Try.prog 27 iFbeltwayref03_Unpair :=
  callsV_of_rk (cx := cFbeltwayref03_Unpair) (fn := Try.f27) (c := Try.f27.body.getD .skip) (n := 28) (N := 1) (rvs := [.tmp 4, .tmp 5, .tmp 6]) (cxOk (.cons okFbeltwayref03_odd TabOk.nil)) Try.func27 rfl (by kernel_rfl) rfl rfl (by decide) (by decide) (fun x => congrFun eFbeltwayref03_Unpair x)
noncomputable def Fbeltwaylaw03_FrameParts (a0 : (Int × (List (BitVec 64)) × (List (Int × Int × Int)))) (a1 : (List Int)) (a2 : Int) (a3 : Int) (a4 : Int) : Option Bool :=
Option.bind (Fbeltwaymake_Small a0) (fun r1 =>
if (!r1) = true then
Option.bind (Fbeltwaylaw03_awake) (fun r2 =>
some (r2))
else Option.bind (Fbeltwaymake_New a1) (fun r3 =>
Option.bind (Fbeltwaymake_Space r3) (fun r4 =>
Option.bind (Fbeltwaymake_Mod a3 70) (fun r5 =>
if 0 ≤ r5 ∧ r5 ≤ r5 ∧ r5 * ((24 : Nat) : Int) ≤ 140737488355328 then
loopO (σ := Int) (β := Bool) (fun s1 =>
if s1 < (([a0, r4.1, (r4.1.1, [], List.replicate r5.toNat ((0, 0, 0) : (Int × Int × Int)))] : List (Int × (List (BitVec 64)) × (List (Int × Int × Int)))).length : Int) then
if 0 ≤ s1 ∧ s1 < (([a0, r4.1, (r4.1.1, [], List.replicate r5.toNat ((0, 0, 0) : (Int × Int × Int)))] : List (Int × (List (BitVec 64)) × (List (Int × Int × Int)))).length : Int) then
if True then
Option.bind (Fbeltwaymake_Mod a2 (w64 ((w64 (((((gl ((0, [], []) : (Int × (List (BitVec 64)) × (List (Int × Int × Int)))) ([a0, r4.1, (r4.1.1, [], List.replicate r5.toNat ((0, 0, 0) : (Int × Int × Int)))] : List (Int × (List (BitVec 64)) × (List (Int × Int × Int)))) s1.toNat).2).2).length : Int) * 2 ^ min (4#64).toNat 64)) + 3))) (fun r6 =>
Option.bind (Fbeltwaymake_Mod a3 (w64 (((((gl ((0, [], []) : (Int × (List (BitVec 64)) × (List (Int × Int × Int)))) ([a0, r4.1, (r4.1.1, [], List.replicate r5.toNat ((0, 0, 0) : (Int × Int × Int)))] : List (Int × (List (BitVec 64)) × (List (Int × Int × Int)))) s1.toNat).2).2).length : Int) + 2))) (fun r7 =>
Option.bind (Fbeltwaymake_Mod a4 (w64 (((((gl ((0, [], []) : (Int × (List (BitVec 64)) × (List (Int × Int × Int)))) ([a0, r4.1, (r4.1.1, [], List.replicate r5.toNat ((0, 0, 0) : (Int × Int × Int)))] : List (Int × (List (BitVec 64)) × (List (Int × Int × Int)))) s1.toNat).2).2).length : Int) + 2))) (fun r8 =>
loopO (σ := Int) (β := (Int ⊕ Bool)) (fun s2 =>
if s2 < (([([a2, a3, a4] : List Int), ([w64 (r6 - 1), w64 (r7 - 1), w64 (r8 - 1)] : List Int)] : List (List Int)).length : Int) then
if 0 ≤ s2 ∧ s2 < (([([a2, a3, a4] : List Int), ([w64 (r6 - 1), w64 (r7 - 1), w64 (r8 - 1)] : List Int)] : List (List Int)).length : Int) then
if 0 ≤ (0 : Int) ∧ (0 : Int) < ((gl ([] : (List Int)) ([([a2, a3, a4] : List Int), ([w64 (r6 - 1), w64 (r7 - 1), w64 (r8 - 1)] : List Int)] : List (List Int)) s2.toNat).length : Int) then
Option.bind (Fframe_Of ((gl ((0, [], []) : (Int × (List (BitVec 64)) × (List (Int × Int × Int)))) ([a0, r4.1, (r4.1.1, [], List.replicate r5.toNat ((0, 0, 0) : (Int × Int × Int)))] : List (Int × (List (BitVec 64)) × (List (Int × Int × Int)))) s1.toNat).1, ((gl ((0, [], []) : (Int × (List (BitVec 64)) × (List (Int × Int × Int)))) ([a0, r4.1, (r4.1.1, [], List.replicate r5.toNat ((0, 0, 0) : (Int × Int × Int)))] : List (Int × (List (BitVec 64)) × (List (Int × Int × Int)))) s1.toNat).2)) (gl (0 : Int) (gl ([] : (List Int)) ([([a2, a3, a4] : List Int), ([w64 (r6 - 1), w64 (r7 - 1), w64 (r8 - 1)] : List Int)] : List (List Int)) s2.toNat) ((0 : Int).toNat))) (fun r9 =>
if 0 ≤ (0 : Int) ∧ (0 : Int) < ((gl ([] : (List Int)) ([([a2, a3, a4] : List Int), ([w64 (r6 - 1), w64 (r7 - 1), w64 (r8 - 1)] : List Int)] : List (List Int)) s2.toNat).length : Int) then
Option.bind (Fbeltwayref03_Of ((gl ((0, [], []) : (Int × (List (BitVec 64)) × (List (Int × Int × Int)))) ([a0, r4.1, (r4.1.1, [], List.replicate r5.toNat ((0, 0, 0) : (Int × Int × Int)))] : List (Int × (List (BitVec 64)) × (List (Int × Int × Int)))) s1.toNat).1, ((gl ((0, [], []) : (Int × (List (BitVec 64)) × (List (Int × Int × Int)))) ([a0, r4.1, (r4.1.1, [], List.replicate r5.toNat ((0, 0, 0) : (Int × Int × Int)))] : List (Int × (List (BitVec 64)) × (List (Int × Int × Int)))) s1.toNat).2)) (gl (0 : Int) (gl ([] : (List Int)) ([([a2, a3, a4] : List Int), ([w64 (r6 - 1), w64 (r7 - 1), w64 (r8 - 1)] : List Int)] : List (List Int)) s2.toNat) ((0 : Int).toNat))) (fun r10 =>
if 0 ≤ (1 : Int) ∧ (1 : Int) < ((gl ([] : (List Int)) ([([a2, a3, a4] : List Int), ([w64 (r6 - 1), w64 (r7 - 1), w64 (r8 - 1)] : List Int)] : List (List Int)) s2.toNat).length : Int) then
Option.bind (Fframe_Base ((gl ((0, [], []) : (Int × (List (BitVec 64)) × (List (Int × Int × Int)))) ([a0, r4.1, (r4.1.1, [], List.replicate r5.toNat ((0, 0, 0) : (Int × Int × Int)))] : List (Int × (List (BitVec 64)) × (List (Int × Int × Int)))) s1.toNat).1, ((gl ((0, [], []) : (Int × (List (BitVec 64)) × (List (Int × Int × Int)))) ([a0, r4.1, (r4.1.1, [], List.replicate r5.toNat ((0, 0, 0) : (Int × Int × Int)))] : List (Int × (List (BitVec 64)) × (List (Int × Int × Int)))) s1.toNat).2)) (gl (0 : Int) (gl ([] : (List Int)) ([([a2, a3, a4] : List Int), ([w64 (r6 - 1), w64 (r7 - 1), w64 (r8 - 1)] : List Int)] : List (List Int)) s2.toNat) ((1 : Int).toNat))) (fun r11 =>
if 0 ≤ (1 : Int) ∧ (1 : Int) < ((gl ([] : (List Int)) ([([a2, a3, a4] : List Int), ([w64 (r6 - 1), w64 (r7 - 1), w64 (r8 - 1)] : List Int)] : List (List Int)) s2.toNat).length : Int) then
Option.bind (Fbeltwayref03_Base ((gl ((0, [], []) : (Int × (List (BitVec 64)) × (List (Int × Int × Int)))) ([a0, r4.1, (r4.1.1, [], List.replicate r5.toNat ((0, 0, 0) : (Int × Int × Int)))] : List (Int × (List (BitVec 64)) × (List (Int × Int × Int)))) s1.toNat).1, ((gl ((0, [], []) : (Int × (List (BitVec 64)) × (List (Int × Int × Int)))) ([a0, r4.1, (r4.1.1, [], List.replicate r5.toNat ((0, 0, 0) : (Int × Int × Int)))] : List (Int × (List (BitVec 64)) × (List (Int × Int × Int)))) s1.toNat).2)) (gl (0 : Int) (gl ([] : (List Int)) ([([a2, a3, a4] : List Int), ([w64 (r6 - 1), w64 (r7 - 1), w64 (r8 - 1)] : List Int)] : List (List Int)) s2.toNat) ((1 : Int).toNat))) (fun r12 =>
if 0 ≤ (1 : Int) ∧ (1 : Int) < ((gl ([] : (List Int)) ([([a2, a3, a4] : List Int), ([w64 (r6 - 1), w64 (r7 - 1), w64 (r8 - 1)] : List Int)] : List (List Int)) s2.toNat).length : Int) then
if 0 ≤ (2 : Int) ∧ (2 : Int) < ((gl ([] : (List Int)) ([([a2, a3, a4] : List Int), ([w64 (r6 - 1), w64 (r7 - 1), w64 (r8 - 1)] : List Int)] : List (List Int)) s2.toNat).length : Int) then
Option.bind (Fframe_Pair ((gl ((0, [], []) : (Int × (List (BitVec 64)) × (List (Int × Int × Int)))) ([a0, r4.1, (r4.1.1, [], List.replicate r5.toNat ((0, 0, 0) : (Int × Int × Int)))] : List (Int × (List (BitVec 64)) × (List (Int × Int × Int)))) s1.toNat).1, ((gl ((0, [], []) : (Int × (List (BitVec 64)) × (List (Int × Int × Int)))) ([a0, r4.1, (r4.1.1, [], List.replicate r5.toNat ((0, 0, 0) : (Int × Int × Int)))] : List (Int × (List (BitVec 64)) × (List (Int × Int × Int)))) s1.toNat).2)) (gl (0 : Int) (gl ([] : (List Int)) ([([a2, a3, a4] : List Int), ([w64 (r6 - 1), w64 (r7 - 1), w64 (r8 - 1)] : List Int)] : List (List Int)) s2.toNat) ((1 : Int).toNat)) (gl (0 : Int) (gl ([] : (List Int)) ([([a2, a3, a4] : List Int), ([w64 (r6 - 1), w64 (r7 - 1), w64 (r8 - 1)] : List Int)] : List (List Int)) s2.toNat) ((2 : Int).toNat))) (fun r13 =>
if 0 ≤ (1 : Int) ∧ (1 : Int) < ((gl ([] : (List Int)) ([([a2, a3, a4] : List Int), ([w64 (r6 - 1), w64 (r7 - 1), w64 (r8 - 1)] : List Int)] : List (List Int)) s2.toNat).length : Int) then
if 0 ≤ (2 : Int) ∧ (2 : Int) < ((gl ([] : (List Int)) ([([a2, a3, a4] : List Int), ([w64 (r6 - 1), w64 (r7 - 1), w64 (r8 - 1)] : List Int)] : List (List Int)) s2.toNat).length : Int) then
Option.bind (Fbeltwayref03_Pair ((gl ((0, [], []) : (Int × (List (BitVec 64)) × (List (Int × Int × Int)))) ([a0, r4.1, (r4.1.1, [], List.replicate r5.toNat ((0, 0, 0) : (Int × Int × Int)))] : List (Int × (List (BitVec 64)) × (List (Int × Int × Int)))) s1.toNat).1, ((gl ((0, [], []) : (Int × (List (BitVec 64)) × (List (Int × Int × Int)))) ([a0, r4.1, (r4.1.1, [], List.replicate r5.toNat ((0, 0, 0) : (Int × Int × Int)))] : List (Int × (List (BitVec 64)) × (List (Int × Int × Int)))) s1.toNat).2)) (gl (0 : Int) (gl ([] : (List Int)) ([([a2, a3, a4] : List Int), ([w64 (r6 - 1), w64 (r7 - 1), w64 (r8 - 1)] : List Int)] : List (List Int)) s2.toNat) ((1 : Int).toNat)) (gl (0 : Int) (gl ([] : (List Int)) ([([a2, a3, a4] : List Int), ([w64 (r6 - 1), w64 (r7 - 1), w64 (r8 - 1)] : List Int)] : List (List Int)) s2.toNat) ((2 : Int).toNat))) (fun r14 =>
if 0 ≤ (0 : Int) ∧ (0 : Int) < ((gl ([] : (List Int)) ([([a2, a3, a4] : List Int), ([w64 (r6 - 1), w64 (r7 - 1), w64 (r8 - 1)] : List Int)] : List (List Int)) s2.toNat).length : Int) then
Option.bind (Fframe_Unpair ((gl ((0, [], []) : (Int × (List (BitVec 64)) × (List (Int × Int × Int)))) ([a0, r4.1, (r4.1.1, [], List.replicate r5.toNat ((0, 0, 0) : (Int × Int × Int)))] : List (Int × (List (BitVec 64)) × (List (Int × Int × Int)))) s1.toNat).1, ((gl ((0, [], []) : (Int × (List (BitVec 64)) × (List (Int × Int × Int)))) ([a0, r4.1, (r4.1.1, [], List.replicate r5.toNat ((0, 0, 0) : (Int × Int × Int)))] : List (Int × (List (BitVec 64)) × (List (Int × Int × Int)))) s1.toNat).2)) (gl (0 : Int) (gl ([] : (List Int)) ([([a2, a3, a4] : List Int), ([w64 (r6 - 1), w64 (r7 - 1), w64 (r8 - 1)] : List Int)] : List (List Int)) s2.toNat) ((0 : Int).toNat))) (fun r15 =>
if 0 ≤ (0 : Int) ∧ (0 : Int) < ((gl ([] : (List Int)) ([([a2, a3, a4] : List Int), ([w64 (r6 - 1), w64 (r7 - 1), w64 (r8 - 1)] : List Int)] : List (List Int)) s2.toNat).length : Int) then
Option.bind (Fbeltwayref03_Unpair ((gl ((0, [], []) : (Int × (List (BitVec 64)) × (List (Int × Int × Int)))) ([a0, r4.1, (r4.1.1, [], List.replicate r5.toNat ((0, 0, 0) : (Int × Int × Int)))] : List (Int × (List (BitVec 64)) × (List (Int × Int × Int)))) s1.toNat).1, ((gl ((0, [], []) : (Int × (List (BitVec 64)) × (List (Int × Int × Int)))) ([a0, r4.1, (r4.1.1, [], List.replicate r5.toNat ((0, 0, 0) : (Int × Int × Int)))] : List (Int × (List (BitVec 64)) × (List (Int × Int × Int)))) s1.toNat).2)) (gl (0 : Int) (gl ([] : (List Int)) ([([a2, a3, a4] : List Int), ([w64 (r6 - 1), w64 (r7 - 1), w64 (r8 - 1)] : List Int)] : List (List Int)) s2.toNat) ((0 : Int).toNat))) (fun r16 =>
if ¬ r9.1 = r10.1 then
some (Sum.inr (Sum.inr (false)))
else if ¬ r9.2.1 = r10.2.1 then
some (Sum.inr (Sum.inr (false)))
else if ¬ r9.2.2 = r10.2.2 then
some (Sum.inr (Sum.inr (false)))
else if ¬ r11.1 = r12.1 then
some (Sum.inr (Sum.inr (false)))
else if ¬ r11.2 = r12.2 then
some (Sum.inr (Sum.inr (false)))
else if ¬ r13.1 = r14.1 then
some (Sum.inr (Sum.inr (false)))
else if ¬ r13.2 = r14.2 then
some (Sum.inr (Sum.inr (false)))
else if ¬ r15.1 = r16.1 then
some (Sum.inr (Sum.inr (false)))
else if ¬ r15.2.1 = r16.2.1 then
some (Sum.inr (Sum.inr (false)))
else if ¬ r15.2.2 = r16.2.2 then
some (Sum.inr (Sum.inr (false)))
else some (Sum.inl (w64 (s2 + 1))))
else none)
else none)
else none
else none)
else none
else none)
else none)
else none)
else none)
else none
else none
else some (Sum.inr (Sum.inl (w64 (s1 + 1))))) (0))))
else none
else none
else Option.map Sum.inr (Option.bind (Fbeltwaylaw03_awake) (fun r17 =>
some (r17)))) (0)
else none))))
@[reducible] noncomputable def iFbeltwaylaw03_FrameParts : FnI := { ps := [⟨(.pair (.int .i64) (.pair (.slice .u64) (.slice (.pair (.int .i64) (.pair (.int .i64) (.int .i64)))))), true, false, false⟩, ⟨(.slice (.int .i64)), false, false, false⟩, ⟨(.int .i64), false, false, false⟩, ⟨(.int .i64), false, false, false⟩, ⟨(.int .i64), false, false, false⟩], rs := [⟨.bool, false, true, false⟩], os := [], bk := [], F := fun x => Fbeltwaylaw03_FrameParts x.1 x.2.1 x.2.2.1 x.2.2.2.1 x.2.2.2.2 }
noncomputable def cFbeltwaylaw03_FrameParts : Cx := { nm := [(5, (3, 1)), (11, (10, 1)), (14, (15, 1)), (44, (4, 2)), (45, (6, 4)), (54, (11, 1)), (56, (12, 1)), (61, (13, 2)), (68, (16, 1)), (85, (17, 1)), (86, (18, 1)), (91, (19, 1))], keep := [], fns := tabF [(8, iFbeltwaymake_Mod), (9, iFframe_Of), (10, iFframe_Base), (11, iFframe_Pair), (12, iFframe_Unpair), (14, iFbeltwaymake_Small), (15, iFbeltwaylaw03_awake), (16, iFbeltwaymake_Space), (17, iFbeltwaymake_New), (24, iFbeltwayref03_Of), (25, iFbeltwayref03_Base), (26, iFbeltwayref03_Pair), (27, iFbeltwayref03_Unpair)], loops := [(0, { live := [(58, ⟨(.int .i64), false, false, false⟩)], boxes := [], rows := [], dead := [10, 14, 15, 17, 18, 19, 20, 21, 22, 23, 24, 25, 26, 27, 28, 29, 30, 31, 32, 33, 34, 35, 36, 37, 59, 60, 61, 62, 63, 64, 65, 66, 67, 68, 69, 70, 71, 72, 73, 74, 75, 76, 77, 78, 79, 80, 81, 82, 83, 84, 85, 86, 87, 88, 89, 90, 91, 92, 93, 94, 95, 96, 97, 98, 99, 100, 101, 102, 103, 104, 105, 106, 107, 108, 109, 110, 111, 112, 113, 114, 115, 116, 117, 118, 119, 120, 121, 122, 123, 124, 125, 126, 127, 128, 129, 130, 131, 132, 133, 134, 135, 136, 137, 138, 139, 140, 141, 142, 143, 144, 145, 146, 147, 148, 149, 150, 151, 152, 153, 154, 155, 156, 157, 158, 159, 160, 161, 162, 163, 164, 165, 166, 167, 168, 169, 170, 171, 172, 173, 174, 175, 176, 177, 178, 179, 180, 181, 182, 183, 184, 185, 186, 187, 188, 189, 190, 191, 192, 193, 194, 195, 196, 197, 198, 199, 200, 201, 202, 203, 204, 205, 206, 207, 208, 209, 210, 211, 212, 213, 214, 215], lost := [], base := 13 }), (2, { live := [(88, ⟨(.int .i64), false, false, false⟩)], boxes := [], rows := [], dead := [10, 17, 18, 19, 20, 21, 22, 23, 24, 25, 26, 27, 28, 29, 30, 31, 32, 33, 34, 35, 36, 37, 89, 90, 91, 92, 93, 94, 95, 96, 97, 98, 99, 100, 101, 102, 103, 104, 105, 106, 107, 108, 109, 110, 111, 112, 113, 114, 115, 116, 117, 118, 119, 120, 121, 122, 123, 124, 125, 126, 127, 128, 129, 130, 131, 132, 133, 134, 135, 136, 137, 138, 139, 140, 141, 142, 143, 144, 145, 146, 147, 148, 149, 150, 151, 152, 153, 154, 155, 156, 157, 158, 159, 160, 161, 162, 163, 164, 165, 166, 167, 168, 169, 170, 171, 172, 173, 174, 175, 176, 177, 178, 179, 180, 181, 182, 183, 184, 185, 186, 187, 188, 189, 190, 191, 192, 193, 194, 195, 196, 197, 198, 199, 200, 201, 202, 203, 204, 205, 206, 207, 208, 209, 210, 211, 212, 213, 214], lost := [], base := 19 })], joins := [] }
theorem eFbeltwaylaw03_FrameParts : (fun x : HT iFbeltwaylaw03_FrameParts.ps => iFbeltwaylaw03_FrameParts.F x) = fun x => rk Try.prog cFbeltwaylaw03_FrameParts (Try.f6.body.getD .skip) (HT (iFbeltwaylaw03_FrameParts.rs ++ iFbeltwaylaw03_FrameParts.os)) 1000000 (finK Try.prog [.tmp 10] [] iFbeltwaylaw03_FrameParts.os (iFbeltwaylaw03_FrameParts.rs ++ iFbeltwaylaw03_FrameParts.os)) (initF iFbeltwaylaw03_FrameParts.ps x 217) (initL iFbeltwaylaw03_FrameParts.ps x 17) := by kernel_rfl
theorem okFbeltwaylaw03_FrameParts : CallsV Try.prog 6 iFbeltwaylaw03_FrameParts :=
  callsV_of_rk (cx := cFbeltwaylaw03_FrameParts) (fn := Try.f6) (c := Try.f6.body.getD .skip) (n := 217) (N := 17) (rvs := [.tmp 10]) (cxOk (.cons okFbeltwaymake_Mod (.cons okFframe_Of (.cons okFframe_Base (.cons okFframe_Pair (.cons okFframe_Unpair (.cons okFbeltwaymake_Small (.cons okFbeltwaylaw03_awake (.cons okFbeltwaymake_Space (.cons okFbeltwaymake_New (.cons okFbeltwayref03_Of (.cons okFbeltwayref03_Base (.cons okFbeltwayref03_Pair (.cons okFbeltwayref03_Unpair TabOk.nil)))))))))))))) Try.func6 rfl (by kernel_rfl) rfl rfl (by decide) (by decide) (fun x => congrFun eFbeltwaylaw03_FrameParts x)
end Go.Proofs.Ytlcaliggdpiobaa
