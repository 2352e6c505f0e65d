/-
  What the references compute that make spaces (printed, and checked by the kernel).
-/
import Derived.Test.YtmcahbbelnjhiaaDoorProg
import Derived.Test.YtmcahbbelnjhiaaDoorChecked
import Derived.Test.YtmcahbbelnjhiaaDoorTabV
import Derived.KernelRfl
set_option linter.unusedVariables false
set_option maxRecDepth 100000
namespace Go.Proofs.YtmcahbbelnjhiaaDoor
open Go Go.V3
noncomputable def Fbeltwaymake_Mod (a0 : Int) (a1 : Int) : Option Int :=
if ¬ a1 = 0 then
if (Int.tmod a0 a1) < 0 then
some (w64 ((Int.tmod a0 a1) + a1))
else some (Int.tmod a0 a1)
else none
@[reducible] noncomputable def iFbeltwaymake_Mod : FnI := { ps := [⟨(.int .i64), false, false, false⟩, ⟨(.int .i64), false, false, false⟩], rs := [⟨(.int .i64), false, true, false⟩], os := [], bk := [], F := fun x => Fbeltwaymake_Mod x.1 x.2 }
noncomputable def cFbeltwaymake_Mod : Cx := { nm := [], keep := [], fns := tabF [], loops := [], joins := [], tb := tabs, exts := [], lets := [] }
theorem eFbeltwaymake_Mod : (fun x : HT iFbeltwaymake_Mod.ps => iFbeltwaymake_Mod.F x) = fun x => rk Tryd.prog cFbeltwaymake_Mod (Tryd.f11.body.getD .skip) (HT (iFbeltwaymake_Mod.rs ++ iFbeltwaymake_Mod.os)) 1000000 (finK Tryd.prog [.tmp 4] [] iFbeltwaymake_Mod.os (iFbeltwaymake_Mod.rs ++ iFbeltwaymake_Mod.os)) (initF iFbeltwaymake_Mod.ps iFbeltwaymake_Mod.sh x 15) (initL iFbeltwaymake_Mod.ps x 0) := by kernel_rfl
theorem okFbeltwaymake_Mod : CallsV Tryd.prog tabs 11 iFbeltwaymake_Mod :=
  callsV_of_rk (cx := cFbeltwaymake_Mod) (fn := Tryd.f11) (c := Tryd.f11.body.getD .skip) (n := 15) (N := 0) (rvs := [.tmp 4]) (cxOk TabOk.nil XtOk.nil) Tryd.func11 rfl (by kernel_rfl) rfl rfl (fun x => Nat.le_of_ble_eq_true rfl) (by decide) (fun x => congrFun eFbeltwaymake_Mod x)
noncomputable def Fbeltwaymake_New (a0 : (List Int)) : Option ((List Int) × Int) :=
some ((a0, 0))
@[reducible] noncomputable def iFbeltwaymake_New : FnI := { ps := [⟨(.slice (.int .i64)), false, false, false⟩], rs := [⟨(.pair (.slice (.int .i64)) (.int .i64)), true, false, true⟩], os := [], bk := [], F := fun x => Fbeltwaymake_New x }
noncomputable def cFbeltwaymake_New : Cx := { nm := [(5, (1, 1))], keep := [], fns := tabF [], loops := [], joins := [], tb := tabs, exts := [], lets := [] }
theorem eFbeltwaymake_New : (fun x : HT iFbeltwaymake_New.ps => iFbeltwaymake_New.F x) = fun x => rk Tryd.prog cFbeltwaymake_New (Tryd.f8.body.getD .skip) (HT (iFbeltwaymake_New.rs ++ iFbeltwaymake_New.os)) 1000000 (finK Tryd.prog [.tmp 2] [] iFbeltwaymake_New.os (iFbeltwaymake_New.rs ++ iFbeltwaymake_New.os)) (initF iFbeltwaymake_New.ps iFbeltwaymake_New.sh x 6) (initL iFbeltwaymake_New.ps x 1) := by kernel_rfl
theorem okFbeltwaymake_New : CallsV Tryd.prog tabs 8 iFbeltwaymake_New :=
  callsV_of_rk (cx := cFbeltwaymake_New) (fn := Tryd.f8) (c := Tryd.f8.body.getD .skip) (n := 6) (N := 1) (rvs := [.tmp 2]) (cxOk TabOk.nil XtOk.nil) Tryd.func8 rfl (by kernel_rfl) rfl rfl (fun x => Nat.le_of_ble_eq_true rfl) (by decide) (fun x => congrFun eFbeltwaymake_New x)
end Go.Proofs.YtmcahbbelnjhiaaDoor
