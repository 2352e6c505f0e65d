/-
  What the references compute that make spaces (printed, and checked by the kernel).
-/
import Derived.Test.YtokeceeccmgcmaaDoorProg
import Derived.Test.YtokeceeccmgcmaaDoorChecked
import Derived.Test.YtokeceeccmgcmaaDoorTabV
import Derived.KernelRfl
set_option linter.unusedVariables false
set_option maxRecDepth 100000
namespace Go.Proofs.YtokeceeccmgcmaaDoor
open Go Go.V3
noncomputable def Fbeltwaymake_Mod (a0 : Int) (a1 : Int) : Option Int :=
if ¬ a1 = 0 then
if (Int.tmod a0 a1) < 0 then
some (w64 ((Int.tmod a0 a1) + a1))
else some (Int.tmod a0 a1)
else none
@[reducible] noncomputable def iFbeltwaymake_Mod : FnI := { ps := [⟨(.int .i64), false, false, false⟩, ⟨(.int .i64), false, false, false⟩], rs := [⟨(.int .i64), false, true, false⟩], os := [], bk := [], F := fun x => Fbeltwaymake_Mod x.1 x.2 }
noncomputable def cFbeltwaymake_Mod : Cx := { nm := [], keep := [], fns := tabF [], loops := [], joins := [], tb := tabs, exts := [], lets := [] }
theorem eFbeltwaymake_Mod : (fun x : HT iFbeltwaymake_Mod.ps => iFbeltwaymake_Mod.F x) = fun x => rk Tryd.prog cFbeltwaymake_Mod (Tryd.f4.body.getD .skip) (HT (iFbeltwaymake_Mod.rs ++ iFbeltwaymake_Mod.os)) 1000000 (finK Tryd.prog [.tmp 4] [] iFbeltwaymake_Mod.os (iFbeltwaymake_Mod.rs ++ iFbeltwaymake_Mod.os)) (initF iFbeltwaymake_Mod.ps iFbeltwaymake_Mod.sh x 15) (initL iFbeltwaymake_Mod.ps x 0) := by kernel_rfl
theorem okFbeltwaymake_Mod : CallsV Tryd.prog tabs 4 iFbeltwaymake_Mod :=
  callsV_of_rk (cx := cFbeltwaymake_Mod) (fn := Tryd.f4) (c := Tryd.f4.body.getD .skip) (n := 15) (N := 0) (rvs := [.tmp 4]) (cxOk TabOk.nil XtOk.nil) Tryd.func4 rfl (by kernel_rfl) rfl rfl (fun x => Nat.le_of_ble_eq_true rfl) (by decide) (fun x => congrFun eFbeltwaymake_Mod x)
noncomputable def Fbeltwayref03_shift (a0 : Int) : Option Bool :=
if a0 ≥ 3 then
some (decide (a0 ≤ 8))
else some (false)
@[reducible] noncomputable def iFbeltwayref03_shift : FnI := { ps := [⟨(.int .i64), false, false, false⟩], rs := [⟨.bool, false, true, false⟩], os := [], bk := [], F := fun x => Fbeltwayref03_shift x }
noncomputable def cFbeltwayref03_shift : Cx := { nm := [], keep := [], fns := tabF [], loops := [], joins := [], tb := tabs, exts := [], lets := [] }
theorem eFbeltwayref03_shift : (fun x : HT iFbeltwayref03_shift.ps => iFbeltwayref03_shift.F x) = fun x => rk Tryd.prog cFbeltwayref03_shift (Tryd.f11.body.getD .skip) (HT (iFbeltwayref03_shift.rs ++ iFbeltwayref03_shift.os)) 1000000 (finK Tryd.prog [.tmp 2] [] iFbeltwayref03_shift.os (iFbeltwayref03_shift.rs ++ iFbeltwayref03_shift.os)) (initF iFbeltwayref03_shift.ps iFbeltwayref03_shift.sh x 9) (initL iFbeltwayref03_shift.ps x 0) := by kernel_rfl
theorem okFbeltwayref03_shift : CallsV Tryd.prog tabs 11 iFbeltwayref03_shift :=
  callsV_of_rk (cx := cFbeltwayref03_shift) (fn := Tryd.f11) (c := Tryd.f11.body.getD .skip) (n := 9) (N := 0) (rvs := [.tmp 2]) (cxOk TabOk.nil XtOk.nil) Tryd.func11 rfl (by kernel_rfl) rfl rfl (fun x => Nat.le_of_ble_eq_true rfl) (by decide) (fun x => congrFun eFbeltwayref03_shift x)
noncomputable def Fbeltwayref03_stamped (a0 : (Int × Int × Int)) : Option Bool :=
if a0.1 < 0 then
some (false)
else if a0.1 > 4294967295 then
some (false)
else loopO (σ := Int) (β := Bool) (fun s1 =>
if s1 < 4 then
if a0.2.1 = (w64 (a0.1 + (w64 (s1 * 4294967296)))) then
some (Sum.inr (true))
else some (Sum.inl (w64 (s1 + 1)))
else some (Sum.inr (false))) (0)
@[reducible] noncomputable def iFbeltwayref03_stamped : FnI := { ps := [⟨(.pair (.int .i64) (.pair (.int .i64) (.int .i64))), true, false, false⟩], rs := [⟨.bool, false, true, false⟩], os := [], bk := [], F := fun x => Fbeltwayref03_stamped x }
noncomputable def cFbeltwayref03_stamped : Cx := { nm := [(1, (0, 1))], keep := [], fns := tabF [], loops := [(0, { live := [(3, ⟨(.int .i64), false, false, false⟩)], boxes := [], rows := [], dead := [2, 12, 13, 14, 15, 16, 17, 18, 19, 20, 21, 22, 23], lost := [], base := 1 })], joins := [], tb := tabs, exts := [], lets := [] }
theorem eFbeltwayref03_stamped : (fun x : HT iFbeltwayref03_stamped.ps => iFbeltwayref03_stamped.F x) = fun x => rk Tryd.prog cFbeltwayref03_stamped (Tryd.f34.body.getD .skip) (HT (iFbeltwayref03_stamped.rs ++ iFbeltwayref03_stamped.os)) 1000000 (finK Tryd.prog [.tmp 2] [] iFbeltwayref03_stamped.os (iFbeltwayref03_stamped.rs ++ iFbeltwayref03_stamped.os)) (initF iFbeltwayref03_stamped.ps iFbeltwayref03_stamped.sh x 24) (initL iFbeltwayref03_stamped.ps x 1) := by kernel_rfl
theorem okFbeltwayref03_stamped : CallsV Tryd.prog tabs 34 iFbeltwayref03_stamped :=
  callsV_of_rk (cx := cFbeltwayref03_stamped) (fn := Tryd.f34) (c := Tryd.f34.body.getD .skip) (n := 24) (N := 1) (rvs := [.tmp 2]) (cxOk TabOk.nil XtOk.nil) Tryd.func34 rfl (by kernel_rfl) rfl rfl (fun x => Nat.le_of_ble_eq_true rfl) (by decide) (fun x => congrFun eFbeltwayref03_stamped x)
noncomputable def Fbeltwayref03_Valid (a0 : (Int × (List (BitVec 64)) × (List (Int × Int × Int)))) : Option Bool :=
Option.bind (Fbeltwayref03_shift a0.1) (fun r1 =>
if (!r1) = true then
some (false)
else if (a0.2.2.length : Int) < 2 then
some (false)
else if (a0.2.2.length : Int) > 64 then
some (false)
else if True then
if ¬ (a0.2.1.length : Int) = (w64 ((a0.2.2.length : Int) * 2 ^ min (BitVec.ofInt 64 a0.1).toNat 64)) then
some (false)
else loopO (σ := (Int × (List Int))) (β := Bool) (fun s1 =>
if s1.1 < (a0.2.2.length : Int) then
if 0 ≤ s1.1 ∧ s1.1 < (a0.2.2.length : Int) then
if ((gl ((0, 0, 0) : (Int × Int × Int)) a0.2.2 s1.1.toNat).1) = (-1) then
if (((gl ((0, 0, 0) : (Int × Int × Int)) a0.2.2 s1.1.toNat).2).1) = (-1) then
if (((gl ((0, 0, 0) : (Int × Int × Int)) a0.2.2 s1.1.toNat).2).2) = (-1) then
if True then
loopO (σ := Int) (β := ((Int × (List Int)) ⊕ Bool)) (fun s2 =>
if True then
if s2 < (w64 ((w64 (s1.1 + 1)) * 2 ^ min (BitVec.ofInt 64 a0.1).toNat 64)) then
if 0 ≤ s2 ∧ s2 < (a0.2.1.length : Int) then
if ¬ (gl (0#64 : (BitVec 64)) a0.2.1 s2.toNat) = (0#64) then
some (Sum.inr (Sum.inr (false)))
else some (Sum.inl (w64 (s2 + 1)))
else none
else some (Sum.inr (Sum.inl ((w64 (s1.1 + 1), s1.2))))
else none) (w64 (s1.1 * 2 ^ min (BitVec.ofInt 64 a0.1).toNat 64))
else none
else Option.bind (Fbeltwayref03_stamped ((gl ((0, 0, 0) : (Int × Int × Int)) a0.2.2 s1.1.toNat).1, ((gl ((0, 0, 0) : (Int × Int × Int)) a0.2.2 s1.1.toNat).2))) (fun r2 =>
if (!r2) = true then
some (Sum.inr (false))
else if (((gl ((0, 0, 0) : (Int × Int × Int)) a0.2.2 s1.1.toNat).2).2) < (-1) then
some (Sum.inr (false))
else if (((gl ((0, 0, 0) : (Int × Int × Int)) a0.2.2 s1.1.toNat).2).2) ≥ (a0.2.2.length : Int) then
some (Sum.inr (false))
else if (((gl ((0, 0, 0) : (Int × Int × Int)) a0.2.2 s1.1.toNat).2).2) = s1.1 then
some (Sum.inr (false))
else if (((gl ((0, 0, 0) : (Int × Int × Int)) a0.2.2 s1.1.toNat).2).2) = (-1) then
some (Sum.inl ((w64 (s1.1 + 1), s1.2)))
else if 0 ≤ (((gl ((0, 0, 0) : (Int × Int × Int)) a0.2.2 s1.1.toNat).2).2) ∧ (((gl ((0, 0, 0) : (Int × Int × Int)) a0.2.2 s1.1.toNat).2).2) < (a0.2.2.length : Int) then
if (0 ≤ (((gl ((0, 0, 0) : (Int × Int × Int)) a0.2.2 s1.1.toNat).2).2) ∧ (((gl ((0, 0, 0) : (Int × Int × Int)) a0.2.2 s1.1.toNat).2).2) < ((64 : Nat) : Int)) ∧ (((gl ((0, 0, 0) : (Int × Int × Int)) a0.2.2 s1.1.toNat).2).2) < (s1.2.length : Int) then
if (0 ≤ (((gl ((0, 0, 0) : (Int × Int × Int)) a0.2.2 s1.1.toNat).2).2) ∧ (((gl ((0, 0, 0) : (Int × Int × Int)) a0.2.2 s1.1.toNat).2).2) < ((64 : Nat) : Int)) ∧ (((gl ((0, 0, 0) : (Int × Int × Int)) a0.2.2 s1.1.toNat).2).2) < (s1.2.length : Int) then
if ¬ ((gl ((0, 0, 0) : (Int × Int × Int)) a0.2.2 ((((gl ((0, 0, 0) : (Int × Int × Int)) a0.2.2 s1.1.toNat).2).2).toNat)).1) = ((gl ((0, 0, 0) : (Int × Int × Int)) a0.2.2 s1.1.toNat).1) then
some (Sum.inr (false))
else if ¬ (((gl ((0, 0, 0) : (Int × Int × Int)) a0.2.2 ((((gl ((0, 0, 0) : (Int × Int × Int)) a0.2.2 s1.1.toNat).2).2).toNat)).2).1) = (((gl ((0, 0, 0) : (Int × Int × Int)) a0.2.2 s1.1.toNat).2).1) then
some (Sum.inr (false))
else if (0 ≤ (((gl ((0, 0, 0) : (Int × Int × Int)) a0.2.2 s1.1.toNat).2).2) ∧ (((gl ((0, 0, 0) : (Int × Int × Int)) a0.2.2 s1.1.toNat).2).2) < ((64 : Nat) : Int)) ∧ (((gl ((0, 0, 0) : (Int × Int × Int)) a0.2.2 s1.1.toNat).2).2) < ((s1.2.set ((((gl ((0, 0, 0) : (Int × Int × Int)) a0.2.2 s1.1.toNat).2).2).toNat) (w64 ((gl (0 : Int) s1.2 ((((gl ((0, 0, 0) : (Int × Int × Int)) a0.2.2 s1.1.toNat).2).2).toNat)) + 1))).length : Int) then
if (gl (0 : Int) (s1.2.set ((((gl ((0, 0, 0) : (Int × Int × Int)) a0.2.2 s1.1.toNat).2).2).toNat) (w64 ((gl (0 : Int) s1.2 ((((gl ((0, 0, 0) : (Int × Int × Int)) a0.2.2 s1.1.toNat).2).2).toNat)) + 1))) ((((gl ((0, 0, 0) : (Int × Int × Int)) a0.2.2 s1.1.toNat).2).2).toNat)) > 1 then
some (Sum.inr (false))
else some (Sum.inl ((w64 (s1.1 + 1), s1.2.set ((((gl ((0, 0, 0) : (Int × Int × Int)) a0.2.2 s1.1.toNat).2).2).toNat) (w64 ((gl (0 : Int) s1.2 ((((gl ((0, 0, 0) : (Int × Int × Int)) a0.2.2 s1.1.toNat).2).2).toNat)) + 1)))))
else none
else none
else none
else none)
else Option.bind (Fbeltwayref03_stamped ((gl ((0, 0, 0) : (Int × Int × Int)) a0.2.2 s1.1.toNat).1, ((gl ((0, 0, 0) : (Int × Int × Int)) a0.2.2 s1.1.toNat).2))) (fun r3 =>
if (!r3) = true then
some (Sum.inr (false))
else if (((gl ((0, 0, 0) : (Int × Int × Int)) a0.2.2 s1.1.toNat).2).2) < (-1) then
some (Sum.inr (false))
else if (((gl ((0, 0, 0) : (Int × Int × Int)) a0.2.2 s1.1.toNat).2).2) ≥ (a0.2.2.length : Int) then
some (Sum.inr (false))
else if (((gl ((0, 0, 0) : (Int × Int × Int)) a0.2.2 s1.1.toNat).2).2) = s1.1 then
some (Sum.inr (false))
else if (((gl ((0, 0, 0) : (Int × Int × Int)) a0.2.2 s1.1.toNat).2).2) = (-1) then
some (Sum.inl ((w64 (s1.1 + 1), s1.2)))
else if 0 ≤ (((gl ((0, 0, 0) : (Int × Int × Int)) a0.2.2 s1.1.toNat).2).2) ∧ (((gl ((0, 0, 0) : (Int × Int × Int)) a0.2.2 s1.1.toNat).2).2) < (a0.2.2.length : Int) then
if (0 ≤ (((gl ((0, 0, 0) : (Int × Int × Int)) a0.2.2 s1.1.toNat).2).2) ∧ (((gl ((0, 0, 0) : (Int × Int × Int)) a0.2.2 s1.1.toNat).2).2) < ((64 : Nat) : Int)) ∧ (((gl ((0, 0, 0) : (Int × Int × Int)) a0.2.2 s1.1.toNat).2).2) < (s1.2.length : Int) then
if (0 ≤ (((gl ((0, 0, 0) : (Int × Int × Int)) a0.2.2 s1.1.toNat).2).2) ∧ (((gl ((0, 0, 0) : (Int × Int × Int)) a0.2.2 s1.1.toNat).2).2) < ((64 : Nat) : Int)) ∧ (((gl ((0, 0, 0) : (Int × Int × Int)) a0.2.2 s1.1.toNat).2).2) < (s1.2.length : Int) then
if ¬ ((gl ((0, 0, 0) : (Int × Int × Int)) a0.2.2 ((((gl ((0, 0, 0) : (Int × Int × Int)) a0.2.2 s1.1.toNat).2).2).toNat)).1) = ((gl ((0, 0, 0) : (Int × Int × Int)) a0.2.2 s1.1.toNat).1) then
some (Sum.inr (false))
else if ¬ (((gl ((0, 0, 0) : (Int × Int × Int)) a0.2.2 ((((gl ((0, 0, 0) : (Int × Int × Int)) a0.2.2 s1.1.toNat).2).2).toNat)).2).1) = (((gl ((0, 0, 0) : (Int × Int × Int)) a0.2.2 s1.1.toNat).2).1) then
some (Sum.inr (false))
else if (0 ≤ (((gl ((0, 0, 0) : (Int × Int × Int)) a0.2.2 s1.1.toNat).2).2) ∧ (((gl ((0, 0, 0) : (Int × Int × Int)) a0.2.2 s1.1.toNat).2).2) < ((64 : Nat) : Int)) ∧ (((gl ((0, 0, 0) : (Int × Int × Int)) a0.2.2 s1.1.toNat).2).2) < ((s1.2.set ((((gl ((0, 0, 0) : (Int × Int × Int)) a0.2.2 s1.1.toNat).2).2).toNat) (w64 ((gl (0 : Int) s1.2 ((((gl ((0, 0, 0) : (Int × Int × Int)) a0.2.2 s1.1.toNat).2).2).toNat)) + 1))).length : Int) then
if (gl (0 : Int) (s1.2.set ((((gl ((0, 0, 0) : (Int × Int × Int)) a0.2.2 s1.1.toNat).2).2).toNat) (w64 ((gl (0 : Int) s1.2 ((((gl ((0, 0, 0) : (Int × Int × Int)) a0.2.2 s1.1.toNat).2).2).toNat)) + 1))) ((((gl ((0, 0, 0) : (Int × Int × Int)) a0.2.2 s1.1.toNat).2).2).toNat)) > 1 then
some (Sum.inr (false))
else some (Sum.inl ((w64 (s1.1 + 1), s1.2.set ((((gl ((0, 0, 0) : (Int × Int × Int)) a0.2.2 s1.1.toNat).2).2).toNat) (w64 ((gl (0 : Int) s1.2 ((((gl ((0, 0, 0) : (Int × Int × Int)) a0.2.2 s1.1.toNat).2).2).toNat)) + 1)))))
else none
else none
else none
else none)
else Option.bind (Fbeltwayref03_stamped ((gl ((0, 0, 0) : (Int × Int × Int)) a0.2.2 s1.1.toNat).1, ((gl ((0, 0, 0) : (Int × Int × Int)) a0.2.2 s1.1.toNat).2))) (fun r4 =>
if (!r4) = true then
some (Sum.inr (false))
else if (((gl ((0, 0, 0) : (Int × Int × Int)) a0.2.2 s1.1.toNat).2).2) < (-1) then
some (Sum.inr (false))
else if (((gl ((0, 0, 0) : (Int × Int × Int)) a0.2.2 s1.1.toNat).2).2) ≥ (a0.2.2.length : Int) then
some (Sum.inr (false))
else if (((gl ((0, 0, 0) : (Int × Int × Int)) a0.2.2 s1.1.toNat).2).2) = s1.1 then
some (Sum.inr (false))
else if (((gl ((0, 0, 0) : (Int × Int × Int)) a0.2.2 s1.1.toNat).2).2) = (-1) then
some (Sum.inl ((w64 (s1.1 + 1), s1.2)))
else if 0 ≤ (((gl ((0, 0, 0) : (Int × Int × Int)) a0.2.2 s1.1.toNat).2).2) ∧ (((gl ((0, 0, 0) : (Int × Int × Int)) a0.2.2 s1.1.toNat).2).2) < (a0.2.2.length : Int) then
if (0 ≤ (((gl ((0, 0, 0) : (Int × Int × Int)) a0.2.2 s1.1.toNat).2).2) ∧ (((gl ((0, 0, 0) : (Int × Int × Int)) a0.2.2 s1.1.toNat).2).2) < ((64 : Nat) : Int)) ∧ (((gl ((0, 0, 0) : (Int × Int × Int)) a0.2.2 s1.1.toNat).2).2) < (s1.2.length : Int) then
if (0 ≤ (((gl ((0, 0, 0) : (Int × Int × Int)) a0.2.2 s1.1.toNat).2).2) ∧ (((gl ((0, 0, 0) : (Int × Int × Int)) a0.2.2 s1.1.toNat).2).2) < ((64 : Nat) : Int)) ∧ (((gl ((0, 0, 0) : (Int × Int × Int)) a0.2.2 s1.1.toNat).2).2) < (s1.2.length : Int) then
if ¬ ((gl ((0, 0, 0) : (Int × Int × Int)) a0.2.2 ((((gl ((0, 0, 0) : (Int × Int × Int)) a0.2.2 s1.1.toNat).2).2).toNat)).1) = ((gl ((0, 0, 0) : (Int × Int × Int)) a0.2.2 s1.1.toNat).1) then
some (Sum.inr (false))
else if ¬ (((gl ((0, 0, 0) : (Int × Int × Int)) a0.2.2 ((((gl ((0, 0, 0) : (Int × Int × Int)) a0.2.2 s1.1.toNat).2).2).toNat)).2).1) = (((gl ((0, 0, 0) : (Int × Int × Int)) a0.2.2 s1.1.toNat).2).1) then
some (Sum.inr (false))
else if (0 ≤ (((gl ((0, 0, 0) : (Int × Int × Int)) a0.2.2 s1.1.toNat).2).2) ∧ (((gl ((0, 0, 0) : (Int × Int × Int)) a0.2.2 s1.1.toNat).2).2) < ((64 : Nat) : Int)) ∧ (((gl ((0, 0, 0) : (Int × Int × Int)) a0.2.2 s1.1.toNat).2).2) < ((s1.2.set ((((gl ((0, 0, 0) : (Int × Int × Int)) a0.2.2 s1.1.toNat).2).2).toNat) (w64 ((gl (0 : Int) s1.2 ((((gl ((0, 0, 0) : (Int × Int × Int)) a0.2.2 s1.1.toNat).2).2).toNat)) + 1))).length : Int) then
if (gl (0 : Int) (s1.2.set ((((gl ((0, 0, 0) : (Int × Int × Int)) a0.2.2 s1.1.toNat).2).2).toNat) (w64 ((gl (0 : Int) s1.2 ((((gl ((0, 0, 0) : (Int × Int × Int)) a0.2.2 s1.1.toNat).2).2).toNat)) + 1))) ((((gl ((0, 0, 0) : (Int × Int × Int)) a0.2.2 s1.1.toNat).2).2).toNat)) > 1 then
some (Sum.inr (false))
else some (Sum.inl ((w64 (s1.1 + 1), s1.2.set ((((gl ((0, 0, 0) : (Int × Int × Int)) a0.2.2 s1.1.toNat).2).2).toNat) (w64 ((gl (0 : Int) s1.2 ((((gl ((0, 0, 0) : (Int × Int × Int)) a0.2.2 s1.1.toNat).2).2).toNat)) + 1)))))
else none
else none
else none
else none)
else none
else Option.map Sum.inr (loopO (σ := Int) (β := Bool) (fun s3 =>
if s3 < (a0.2.2.length : Int) then
loopO (σ := (Int × Int)) (β := (Int ⊕ Bool)) (fun s4 =>
if s4.2 ≤ (a0.2.2.length : Int) then
if ¬ s4.1 = (-1) then
if 0 ≤ s4.1 ∧ s4.1 < (a0.2.2.length : Int) then
some (Sum.inl ((((gl ((0, 0, 0) : (Int × Int × Int)) a0.2.2 s4.1.toNat).2).2, w64 (s4.2 + 1))))
else none
else Option.map Sum.inr (if ¬ s4.1 = (-1) then
some (Sum.inr (false))
else some (Sum.inl (w64 (s3 + 1))))
else Option.map Sum.inr (if ¬ s4.1 = (-1) then
some (Sum.inr (false))
else some (Sum.inl (w64 (s3 + 1))))) ((s3, 0))
else some (Sum.inr (true))) (0))) ((0, List.replicate 64 (0 : Int)))
else none)
@[reducible] noncomputable def iFbeltwayref03_Valid : FnI := { ps := [⟨(.pair (.int .i64) (.pair (.slice .u64) (.slice (.pair (.int .i64) (.pair (.int .i64) (.int .i64)))))), true, false, false⟩], rs := [⟨.bool, false, true, false⟩], os := [], bk := [], F := fun x => Fbeltwayref03_Valid x }
noncomputable def cFbeltwayref03_Valid : Cx := { nm := [(1, (2, 1)), (4, (3, 1)), (6, (4, 1)), (8, (5, 1))], keep := [4], fns := tabF [(11, iFbeltwayref03_shift), (34, iFbeltwayref03_stamped)], loops := [(0, { live := [(41, ⟨(.int .i64), false, false, false⟩)], boxes := [], rows := [(3, (.int .i64))], dead := [2, 5, 6, 7, 8, 42, 43, 44, 45, 46, 47, 48, 49, 50, 51, 52, 53, 54, 55, 56, 57, 58, 59, 60, 61, 62, 63, 64, 65, 66, 67, 68, 69, 70, 71, 72, 73, 74, 75, 76, 77, 78, 79, 80, 81, 82, 83, 84, 85, 86, 87, 88, 89, 90, 91, 92, 93, 94, 95, 96, 97, 98, 99, 100, 101, 102, 103, 104, 105, 106, 107, 108, 109, 110, 111, 112, 113, 114, 115, 116, 117, 118, 119, 120, 121, 122, 123, 124, 125, 126, 127, 128, 129, 130, 131, 132, 133, 134], lost := [], base := 4 }), (2, { live := [(7, ⟨(.int .i64), false, false, false⟩)], boxes := [], rows := [], dead := [2, 64, 65, 66, 67, 68, 69, 70, 71, 72, 73, 74, 75, 76, 77, 78, 79], lost := [], base := 5 }), (4, { live := [(138, ⟨(.int .i64), false, false, false⟩)], boxes := [], rows := [], dead := [2, 9, 10, 11, 139, 140, 141, 142, 143, 144, 145, 146, 147, 148, 149, 150, 151, 152, 153, 154, 155, 156, 157, 158, 159], lost := [], base := 6 }), (6, { live := [(10, ⟨(.int .i64), false, false, false⟩), (11, ⟨(.int .i64), false, false, false⟩)], boxes := [], rows := [], dead := [142, 143, 144, 145, 146, 147, 148, 149, 150, 151, 152, 153, 154, 155, 156], lost := [], base := 6 })], joins := [], tb := tabs, exts := [], lets := [] }
theorem eFbeltwayref03_Valid : (fun x : HT iFbeltwayref03_Valid.ps => iFbeltwayref03_Valid.F x) = fun x => rk Tryd.prog cFbeltwayref03_Valid (Tryd.f16.body.getD .skip) (HT (iFbeltwayref03_Valid.rs ++ iFbeltwayref03_Valid.os)) 1000000 (finK Tryd.prog [.tmp 2] [] iFbeltwayref03_Valid.os (iFbeltwayref03_Valid.rs ++ iFbeltwayref03_Valid.os)) (initF iFbeltwayref03_Valid.ps iFbeltwayref03_Valid.sh x 160) (initL iFbeltwayref03_Valid.ps x 4) := by kernel_rfl
theorem okFbeltwayref03_Valid : CallsV Tryd.prog tabs 16 iFbeltwayref03_Valid :=
  callsV_of_rk (cx := cFbeltwayref03_Valid) (fn := Tryd.f16) (c := Tryd.f16.body.getD .skip) (n := 160) (N := 4) (rvs := [.tmp 2]) (cxOk (.cons okFbeltwayref03_shift (.cons okFbeltwayref03_stamped TabOk.nil)) XtOk.nil) Tryd.func16 rfl (by kernel_rfl) rfl rfl (fun x => Nat.le_of_ble_eq_true rfl) (by decide) (fun x => congrFun eFbeltwayref03_Valid x)
noncomputable def Fbeltwayref03_New (a0 : Int) (a1 : Int) : Option ((Int × (List (BitVec 64)) × (List (Int × Int × Int))) × Int) :=
Option.bind (Fbeltwayref03_shift a0) (fun r1 =>
if (!r1) = true then
some (((0, [], []), 1))
else if a1 < 2 then
some (((0, [], []), 1))
else if a1 > 64 then
some (((0, [], []), 1))
else if True then
if 0 ≤ (w64 (a1 * 2 ^ min (BitVec.ofInt 64 a0).toNat 64)) ∧ (w64 (a1 * 2 ^ min (BitVec.ofInt 64 a0).toNat 64)) ≤ (w64 (a1 * 2 ^ min (BitVec.ofInt 64 a0).toNat 64)) ∧ (w64 (a1 * 2 ^ min (BitVec.ofInt 64 a0).toNat 64)) * ((8 : Nat) : Int) ≤ 140737488355328 then
if 0 ≤ a1 ∧ a1 ≤ a1 ∧ a1 * ((24 : Nat) : Int) ≤ 140737488355328 then
loopO (σ := (Int × (List (Int × Int × Int)))) (β := ((Int × (List (BitVec 64)) × (List (Int × Int × Int))) × Int)) (fun s1 =>
if s1.1 < ((List.replicate a1.toNat ((0, 0, 0) : (Int × Int × Int))).length : Int) then
if 0 ≤ s1.1 ∧ s1.1 < (s1.2.length : Int) then
some (Sum.inl ((w64 (s1.1 + 1), s1.2.set s1.1.toNat ((-1), (-1), (-1)))))
else none
else some (Sum.inr (((a0, List.replicate (w64 (a1 * 2 ^ min (BitVec.ofInt 64 a0).toNat 64)).toNat (0#64 : (BitVec 64)), s1.2), 0)))) ((0, List.replicate a1.toNat ((0, 0, 0) : (Int × Int × Int))))
else none
else none
else none)
@[reducible] noncomputable def iFbeltwayref03_New : FnI := { ps := [⟨(.int .i64), false, false, false⟩, ⟨(.int .i64), false, false, false⟩], rs := [⟨(.pair (.int .i64) (.pair (.slice .u64) (.slice (.pair (.int .i64) (.pair (.int .i64) (.int .i64)))))), true, true, false⟩, ⟨(.int .i64), false, true, false⟩], os := [], bk := [], F := fun x => Fbeltwayref03_New x.1 x.2 }
noncomputable def cFbeltwayref03_New : Cx := { nm := [(4, (0, 1)), (6, (3, 1)), (25, (1, 1)), (27, (2, 1))], keep := [25, 27], fns := tabF [(11, iFbeltwayref03_shift)], loops := [(0, { live := [(32, ⟨(.int .i64), false, false, false⟩)], boxes := [], rows := [(2, (.pair (.int .i64) (.pair (.int .i64) (.int .i64))))], dead := [7, 33, 34, 35, 36, 37, 38, 39, 40], lost := [], base := 4 })], joins := [], tb := tabs, exts := [], lets := [] }
theorem eFbeltwayref03_New : (fun x : HT iFbeltwayref03_New.ps => iFbeltwayref03_New.F x) = fun x => rk Tryd.prog cFbeltwayref03_New (Tryd.f5.body.getD .skip) (HT (iFbeltwayref03_New.rs ++ iFbeltwayref03_New.os)) 1000000 (finK Tryd.prog [.cell 4 26, .tmp 5] [] iFbeltwayref03_New.os (iFbeltwayref03_New.rs ++ iFbeltwayref03_New.os)) (initF iFbeltwayref03_New.ps iFbeltwayref03_New.sh x 42) (initL iFbeltwayref03_New.ps x 4) := by kernel_rfl
theorem okFbeltwayref03_New : CallsV Tryd.prog tabs 5 iFbeltwayref03_New :=
  callsV_of_rk (cx := cFbeltwayref03_New) (fn := Tryd.f5) (c := Tryd.f5.body.getD .skip) (n := 42) (N := 4) (rvs := [.cell 4 26, .tmp 5]) (cxOk (.cons okFbeltwayref03_shift TabOk.nil) XtOk.nil) Tryd.func5 rfl (by kernel_rfl) rfl rfl (fun x => Nat.le_of_ble_eq_true rfl) (by decide) (fun x => congrFun eFbeltwayref03_New x)
noncomputable def Fbeltwayref05_Chain (a0 : (Int × (List (BitVec 64)) × (List (Int × Int × Int)))) (a1 : Int) : Option (List Int) :=
loopO (σ := ((List Int) × Int)) (β := (List Int)) (fun s1 =>
if ¬ s1.2 = (-1) then
if (s1.1.length + ([s1.2] : List Int).length) * 8 ≤ 140737488355328 then
if 0 ≤ s1.2 ∧ s1.2 < (a0.2.2.length : Int) then
some (Sum.inl ((s1.1 ++ ([s1.2] : List Int), ((gl ((0, 0, 0) : (Int × Int × Int)) a0.2.2 s1.2.toNat).2).2)))
else none
else none
else some (Sum.inr (s1.1))) (([], a1))
@[reducible] noncomputable def iFbeltwayref05_Chain : FnI := { ps := [⟨(.pair (.int .i64) (.pair (.slice .u64) (.slice (.pair (.int .i64) (.pair (.int .i64) (.int .i64)))))), true, false, false⟩, ⟨(.int .i64), false, false, false⟩], rs := [⟨(.slice (.int .i64)), false, true, false⟩], os := [], bk := [], F := fun x => Fbeltwayref05_Chain x.1 x.2 }
noncomputable def cFbeltwayref05_Chain : Cx := { nm := [(2, (2, 1)), (18, (4, 1)), (19, (5, 1))], keep := [19], fns := tabF [], loops := [(0, { live := [(5, ⟨(.slice (.int .i64)), false, true, false⟩), (6, ⟨(.int .i64), false, false, false⟩)], boxes := [], rows := [], dead := [8, 9, 10, 11, 12, 13, 14, 15, 16, 17, 18, 19], lost := [], base := 3 })], joins := [], tb := tabs, exts := [], lets := [] }
theorem eFbeltwayref05_Chain : (fun x : HT iFbeltwayref05_Chain.ps => iFbeltwayref05_Chain.F x) = fun x => rk Tryd.prog cFbeltwayref05_Chain (Tryd.f46.body.getD .skip) (HT (iFbeltwayref05_Chain.rs ++ iFbeltwayref05_Chain.os)) 1000000 (finK Tryd.prog [.tmp 4] [] iFbeltwayref05_Chain.os (iFbeltwayref05_Chain.rs ++ iFbeltwayref05_Chain.os)) (initF iFbeltwayref05_Chain.ps iFbeltwayref05_Chain.sh x 21) (initL iFbeltwayref05_Chain.ps x 4) := by kernel_rfl
theorem okFbeltwayref05_Chain : CallsV Tryd.prog tabs 46 iFbeltwayref05_Chain :=
  callsV_of_rk (cx := cFbeltwayref05_Chain) (fn := Tryd.f46) (c := Tryd.f46.body.getD .skip) (n := 21) (N := 4) (rvs := [.tmp 4]) (cxOk TabOk.nil XtOk.nil) Tryd.func46 rfl (by kernel_rfl) rfl rfl (fun x => Nat.le_of_ble_eq_true rfl) (by decide) (fun x => congrFun eFbeltwayref05_Chain x)
noncomputable def Fbeltwayref01_Ceil (a0 : Int) (a1 : Int) : Option Int :=
if a0 < 0 then
some (0)
else if a0 > 1099511627776 then
some (0)
else if a1 < 0 then
some (0)
else if a1 > 20 then
some (0)
else if True then
if True then
some ((w64 ((w64 (a0 + (w64 ((1 : Int) * 2 ^ min (BitVec.ofInt 64 a1).toNat 64)))) - 1)) / 2 ^ min (BitVec.ofInt 64 a1).toNat 64)
else none
else none
@[reducible] noncomputable def iFbeltwayref01_Ceil : FnI := { ps := [⟨(.int .i64), false, false, false⟩, ⟨(.int .i64), false, false, false⟩], rs := [⟨(.int .i64), false, true, false⟩], os := [], bk := [], F := fun x => Fbeltwayref01_Ceil x.1 x.2 }
noncomputable def cFbeltwayref01_Ceil : Cx := { nm := [], keep := [], fns := tabF [], loops := [], joins := [], tb := tabs, exts := [], lets := [] }
theorem eFbeltwayref01_Ceil : (fun x : HT iFbeltwayref01_Ceil.ps => iFbeltwayref01_Ceil.F x) = fun x => rk Tryd.prog cFbeltwayref01_Ceil (Tryd.f48.body.getD .skip) (HT (iFbeltwayref01_Ceil.rs ++ iFbeltwayref01_Ceil.os)) 1000000 (finK Tryd.prog [.tmp 4] [] iFbeltwayref01_Ceil.os (iFbeltwayref01_Ceil.rs ++ iFbeltwayref01_Ceil.os)) (initF iFbeltwayref01_Ceil.ps iFbeltwayref01_Ceil.sh x 28) (initL iFbeltwayref01_Ceil.ps x 0) := by kernel_rfl
theorem okFbeltwayref01_Ceil : CallsV Tryd.prog tabs 48 iFbeltwayref01_Ceil :=
  callsV_of_rk (cx := cFbeltwayref01_Ceil) (fn := Tryd.f48) (c := Tryd.f48.body.getD .skip) (n := 28) (N := 0) (rvs := [.tmp 4]) (cxOk TabOk.nil XtOk.nil) Tryd.func48 rfl (by kernel_rfl) rfl rfl (fun x => Nat.le_of_ble_eq_true rfl) (by decide) (fun x => congrFun eFbeltwayref01_Ceil x)
noncomputable def Fbeltwayref09_Frames (a0 : (Int × (List (BitVec 64)) × (List (Int × Int × Int)))) (a1 : (Int × Int × Int × Int × Int)) : Option Int :=
Option.bind (Fbeltwayref01_Ceil a1.2.2.2.2 a0.1) (fun r1 =>
some (r1))
@[reducible] noncomputable def iFbeltwayref09_Frames : FnI := { ps := [⟨(.pair (.int .i64) (.pair (.slice .u64) (.slice (.pair (.int .i64) (.pair (.int .i64) (.int .i64)))))), true, false, false⟩, ⟨(.pair (.int .i64) (.pair (.int .i64) (.pair (.int .i64) (.pair (.int .i64) (.int .i64))))), true, false, false⟩], rs := [⟨(.int .i64), false, true, false⟩], os := [], bk := [], F := fun x => Fbeltwayref09_Frames x.1 x.2 }
noncomputable def cFbeltwayref09_Frames : Cx := { nm := [(2, (2, 1)), (3, (3, 1))], keep := [], fns := tabF [(48, iFbeltwayref01_Ceil)], loops := [], joins := [], tb := tabs, exts := [], lets := [] }
theorem eFbeltwayref09_Frames : (fun x : HT iFbeltwayref09_Frames.ps => iFbeltwayref09_Frames.F x) = fun x => rk Tryd.prog cFbeltwayref09_Frames (Tryd.f47.body.getD .skip) (HT (iFbeltwayref09_Frames.rs ++ iFbeltwayref09_Frames.os)) 1000000 (finK Tryd.prog [.tmp 4] [] iFbeltwayref09_Frames.os (iFbeltwayref09_Frames.rs ++ iFbeltwayref09_Frames.os)) (initF iFbeltwayref09_Frames.ps iFbeltwayref09_Frames.sh x 10) (initL iFbeltwayref09_Frames.ps x 2) := by kernel_rfl
theorem okFbeltwayref09_Frames : CallsV Tryd.prog tabs 47 iFbeltwayref09_Frames :=
  callsV_of_rk (cx := cFbeltwayref09_Frames) (fn := Tryd.f47) (c := Tryd.f47.body.getD .skip) (n := 10) (N := 2) (rvs := [.tmp 4]) (cxOk (.cons okFbeltwayref01_Ceil TabOk.nil) XtOk.nil) Tryd.func47 rfl (by kernel_rfl) rfl rfl (fun x => Nat.le_of_ble_eq_true rfl) (by decide) (fun x => congrFun eFbeltwayref09_Frames x)
noncomputable def Fbeltwayref09_Fits (a0 : (Int × (List (BitVec 64)) × (List (Int × Int × Int)))) (a1 : (Int × Int × Int × Int × Int)) : Option Bool :=
if a1.1 < 0 then
some (false)
else if a1.1 > 4294967295 then
some (false)
else if a1.2.1 < 0 then
some (false)
else if a1.2.1 ≥ 4 then
some (false)
else if a1.2.2.2.2 < 0 then
some (false)
else if a1.2.2.2.2 > (a0.2.1.length : Int) then
some (false)
else if a1.2.2.2.2 = 0 then
if a1.2.2.1 = (-1) then
some (decide (a1.2.2.2.1 = (-1)))
else some (false)
else if a1.2.2.1 < 0 then
some (false)
else if a1.2.2.1 ≥ (a0.2.2.length : Int) then
some (false)
else if 0 ≤ a1.2.2.1 ∧ a1.2.2.1 < (a0.2.2.length : Int) then
if ¬ ((gl ((0, 0, 0) : (Int × Int × Int)) a0.2.2 a1.2.2.1.toNat).1) = a1.1 then
some (false)
else if ¬ (((gl ((0, 0, 0) : (Int × Int × Int)) a0.2.2 a1.2.2.1.toNat).2).1) = (w64 ((w64 (a1.2.1 * 4294967296)) + a1.1)) then
some (false)
else Option.bind (Fbeltwayref05_Chain a0 a1.2.2.1) (fun r1 =>
loopO (σ := (Int × Int)) (β := Bool) (fun s1 =>
if s1.2 < (a0.2.2.length : Int) then
if 0 ≤ s1.2 ∧ s1.2 < (a0.2.2.length : Int) then
if ((gl ((0, 0, 0) : (Int × Int × Int)) a0.2.2 s1.2.toNat).1) = a1.1 then
some (Sum.inl ((w64 (s1.1 + 1), w64 (s1.2 + 1))))
else some (Sum.inl ((s1.1, w64 (s1.2 + 1))))
else none
else Option.map Sum.inr (Option.bind (Fbeltwayref09_Frames a0 a1) (fun r2 =>
if (r1.length : Int) = r2 then
if (r1.length : Int) = s1.1 then
if 0 ≤ (w64 ((r1.length : Int) - 1)) ∧ (w64 ((r1.length : Int) - 1)) < (r1.length : Int) then
some (decide ((gl (0 : Int) r1 ((w64 ((r1.length : Int) - 1)).toNat)) = a1.2.2.2.1))
else none
else some (false)
else some (false)))) ((0, 0)))
else none
@[reducible] noncomputable def iFbeltwayref09_Fits : FnI := { ps := [⟨(.pair (.int .i64) (.pair (.slice .u64) (.slice (.pair (.int .i64) (.pair (.int .i64) (.int .i64)))))), true, false, false⟩, ⟨(.pair (.int .i64) (.pair (.int .i64) (.pair (.int .i64) (.pair (.int .i64) (.int .i64))))), true, false, false⟩], rs := [⟨.bool, false, true, false⟩], os := [], bk := [], F := fun x => Fbeltwayref09_Fits x.1 x.2 }
noncomputable def cFbeltwayref09_Fits : Cx := { nm := [(2, (2, 1)), (3, (3, 1)), (5, (4, 1)), (9, (6, 1)), (88, (5, 1))], keep := [], fns := tabF [(46, iFbeltwayref05_Chain), (47, iFbeltwayref09_Frames)], loops := [(0, { live := [(7, ⟨(.int .i64), false, false, false⟩), (92, ⟨(.int .i64), false, false, false⟩)], boxes := [], rows := [], dead := [9, 93, 94, 95, 96, 97, 98, 99, 100, 101, 102, 103], lost := [], base := 6 })], joins := [], tb := tabs, exts := [], lets := [] }
theorem eFbeltwayref09_Fits : (fun x : HT iFbeltwayref09_Fits.ps => iFbeltwayref09_Fits.F x) = fun x => rk Tryd.prog cFbeltwayref09_Fits (Tryd.f28.body.getD .skip) (HT (iFbeltwayref09_Fits.rs ++ iFbeltwayref09_Fits.os)) 1000000 (finK Tryd.prog [.tmp 4] [] iFbeltwayref09_Fits.os (iFbeltwayref09_Fits.rs ++ iFbeltwayref09_Fits.os)) (initF iFbeltwayref09_Fits.ps iFbeltwayref09_Fits.sh x 127) (initL iFbeltwayref09_Fits.ps x 5) := by kernel_rfl
theorem okFbeltwayref09_Fits : CallsV Tryd.prog tabs 28 iFbeltwayref09_Fits :=
  callsV_of_rk (cx := cFbeltwayref09_Fits) (fn := Tryd.f28) (c := Tryd.f28.body.getD .skip) (n := 127) (N := 5) (rvs := [.tmp 4]) (cxOk (.cons okFbeltwayref05_Chain (.cons okFbeltwayref09_Frames TabOk.nil)) XtOk.nil) Tryd.func28 rfl (by kernel_rfl) rfl rfl (fun x => Nat.le_of_ble_eq_true rfl) (by decide) (fun x => congrFun eFbeltwayref09_Fits x)
noncomputable def Fbeltwayref09_Valid (a0 : (Int × (List (BitVec 64)) × (List (Int × Int × Int)))) (a1 : (Int × Int × Int × Int × Int)) : Option Bool :=
Option.bind (Fbeltwayref03_Valid a0) (fun r1 =>
if r1 = true then
Option.bind (Fbeltwayref09_Fits a0 a1) (fun r2 =>
some (r2))
else some (false))
@[reducible] noncomputable def iFbeltwayref09_Valid : FnI := { ps := [⟨(.pair (.int .i64) (.pair (.slice .u64) (.slice (.pair (.int .i64) (.pair (.int .i64) (.int .i64)))))), true, false, false⟩, ⟨(.pair (.int .i64) (.pair (.int .i64) (.pair (.int .i64) (.pair (.int .i64) (.int .i64))))), true, false, false⟩], rs := [⟨.bool, false, true, false⟩], os := [], bk := [], F := fun x => Fbeltwayref09_Valid x.1 x.2 }
noncomputable def cFbeltwayref09_Valid : Cx := { nm := [(2, (2, 1)), (3, (3, 1))], keep := [], fns := tabF [(16, iFbeltwayref03_Valid), (28, iFbeltwayref09_Fits)], loops := [], joins := [], tb := tabs, exts := [], lets := [] }
theorem eFbeltwayref09_Valid : (fun x : HT iFbeltwayref09_Valid.ps => iFbeltwayref09_Valid.F x) = fun x => rk Tryd.prog cFbeltwayref09_Valid (Tryd.f12.body.getD .skip) (HT (iFbeltwayref09_Valid.rs ++ iFbeltwayref09_Valid.os)) 1000000 (finK Tryd.prog [.tmp 4] [] iFbeltwayref09_Valid.os (iFbeltwayref09_Valid.rs ++ iFbeltwayref09_Valid.os)) (initF iFbeltwayref09_Valid.ps iFbeltwayref09_Valid.sh x 12) (initL iFbeltwayref09_Valid.ps x 2) := by kernel_rfl
theorem okFbeltwayref09_Valid : CallsV Tryd.prog tabs 12 iFbeltwayref09_Valid :=
  callsV_of_rk (cx := cFbeltwayref09_Valid) (fn := Tryd.f12) (c := Tryd.f12.body.getD .skip) (n := 12) (N := 2) (rvs := [.tmp 4]) (cxOk (.cons okFbeltwayref03_Valid (.cons okFbeltwayref09_Fits TabOk.nil)) XtOk.nil) Tryd.func12 rfl (by kernel_rfl) rfl rfl (fun x => Nat.le_of_ble_eq_true rfl) (by decide) (fun x => congrFun eFbeltwayref09_Valid x)
noncomputable def Fbeltwayref09_Owns (a0 : (Int × (List (BitVec 64)) × (List (Int × Int × Int)))) (a1 : Int) : Option Bool :=
loopO (σ := Int) (β := Bool) (fun s1 =>
if s1 < (a0.2.2.length : Int) then
if 0 ≤ s1 ∧ s1 < (a0.2.2.length : Int) then
if ((gl ((0, 0, 0) : (Int × Int × Int)) a0.2.2 s1.toNat).1) = a1 then
some (Sum.inr (true))
else some (Sum.inl (w64 (s1 + 1)))
else none
else some (Sum.inr (false))) (0)
@[reducible] noncomputable def iFbeltwayref09_Owns : FnI := { ps := [⟨(.pair (.int .i64) (.pair (.slice .u64) (.slice (.pair (.int .i64) (.pair (.int .i64) (.int .i64)))))), true, false, false⟩, ⟨(.int .i64), false, false, false⟩], rs := [⟨.bool, false, true, false⟩], os := [], bk := [], F := fun x => Fbeltwayref09_Owns x.1 x.2 }
noncomputable def cFbeltwayref09_Owns : Cx := { nm := [(2, (2, 1)), (6, (3, 1))], keep := [], fns := tabF [], loops := [(0, { live := [(10, ⟨(.int .i64), false, false, false⟩)], boxes := [], rows := [], dead := [4, 6, 11, 12, 13, 14, 15, 16, 17, 18], lost := [], base := 3 })], joins := [], tb := tabs, exts := [], lets := [] }
theorem eFbeltwayref09_Owns : (fun x : HT iFbeltwayref09_Owns.ps => iFbeltwayref09_Owns.F x) = fun x => rk Tryd.prog cFbeltwayref09_Owns (Tryd.f13.body.getD .skip) (HT (iFbeltwayref09_Owns.rs ++ iFbeltwayref09_Owns.os)) 1000000 (finK Tryd.prog [.tmp 4] [] iFbeltwayref09_Owns.os (iFbeltwayref09_Owns.rs ++ iFbeltwayref09_Owns.os)) (initF iFbeltwayref09_Owns.ps iFbeltwayref09_Owns.sh x 19) (initL iFbeltwayref09_Owns.ps x 2) := by kernel_rfl
theorem okFbeltwayref09_Owns : CallsV Tryd.prog tabs 13 iFbeltwayref09_Owns :=
  callsV_of_rk (cx := cFbeltwayref09_Owns) (fn := Tryd.f13) (c := Tryd.f13.body.getD .skip) (n := 19) (N := 2) (rvs := [.tmp 4]) (cxOk TabOk.nil XtOk.nil) Tryd.func13 rfl (by kernel_rfl) rfl rfl (fun x => Nat.le_of_ble_eq_true rfl) (by decide) (fun x => congrFun eFbeltwayref09_Owns x)
noncomputable def Fbeltwayref02_Clone (a0 : (List (BitVec 64))) : Option (List (BitVec 64)) :=
if (([] : List (BitVec 64)).length + a0.length) * 8 ≤ 140737488355328 then
some (([] : List (BitVec 64)) ++ a0)
else none
@[reducible] noncomputable def iFbeltwayref02_Clone : FnI := { ps := [⟨(.slice .u64), false, false, false⟩], rs := [⟨(.slice .u64), false, true, false⟩], os := [], bk := [], F := fun x => Fbeltwayref02_Clone x }
noncomputable def cFbeltwayref02_Clone : Cx := { nm := [(4, (1, 1))], keep := [4], fns := tabF [], loops := [], joins := [], tb := tabs, exts := [], lets := [] }
theorem eFbeltwayref02_Clone : (fun x : HT iFbeltwayref02_Clone.ps => iFbeltwayref02_Clone.F x) = fun x => rk Tryd.prog cFbeltwayref02_Clone (Tryd.f29.body.getD .skip) (HT (iFbeltwayref02_Clone.rs ++ iFbeltwayref02_Clone.os)) 1000000 (finK Tryd.prog [.tmp 2] [] iFbeltwayref02_Clone.os (iFbeltwayref02_Clone.rs ++ iFbeltwayref02_Clone.os)) (initF iFbeltwayref02_Clone.ps iFbeltwayref02_Clone.sh x 5) (initL iFbeltwayref02_Clone.ps x 1) := by kernel_rfl
theorem okFbeltwayref02_Clone : CallsV Tryd.prog tabs 29 iFbeltwayref02_Clone :=
  callsV_of_rk (cx := cFbeltwayref02_Clone) (fn := Tryd.f29) (c := Tryd.f29.body.getD .skip) (n := 5) (N := 1) (rvs := [.tmp 2]) (cxOk TabOk.nil XtOk.nil) Tryd.func29 rfl (by kernel_rfl) rfl rfl (fun x => Nat.le_of_ble_eq_true rfl) (by decide) (fun x => congrFun eFbeltwayref02_Clone x)
noncomputable def Fbeltwayref03_Copy (a0 : (Int × (List (BitVec 64)) × (List (Int × Int × Int)))) : Option (Int × (List (BitVec 64)) × (List (Int × Int × Int))) :=
Option.bind (Fbeltwayref02_Clone a0.2.1) (fun r1 =>
if (([] : List (Int × Int × Int)).length + a0.2.2.length) * 24 ≤ 140737488355328 then
some ((a0.1, r1, ([] : List (Int × Int × Int)) ++ a0.2.2))
else none)
@[reducible] noncomputable def iFbeltwayref03_Copy : FnI := { ps := [⟨(.pair (.int .i64) (.pair (.slice .u64) (.slice (.pair (.int .i64) (.pair (.int .i64) (.int .i64)))))), true, false, false⟩], rs := [⟨(.pair (.int .i64) (.pair (.slice .u64) (.slice (.pair (.int .i64) (.pair (.int .i64) (.int .i64)))))), true, true, false⟩], os := [], bk := [], F := fun x => Fbeltwayref03_Copy x }
noncomputable def cFbeltwayref03_Copy : Cx := { nm := [(1, (2, 1)), (2, (3, 1)), (7, (4, 1)), (10, (5, 1))], keep := [10], fns := tabF [(29, iFbeltwayref02_Clone)], loops := [], joins := [], tb := tabs, exts := [], lets := [] }
theorem eFbeltwayref03_Copy : (fun x : HT iFbeltwayref03_Copy.ps => iFbeltwayref03_Copy.F x) = fun x => rk Tryd.prog cFbeltwayref03_Copy (Tryd.f14.body.getD .skip) (HT (iFbeltwayref03_Copy.rs ++ iFbeltwayref03_Copy.os)) 1000000 (finK Tryd.prog [.cell 2 26] [] iFbeltwayref03_Copy.os (iFbeltwayref03_Copy.rs ++ iFbeltwayref03_Copy.os)) (initF iFbeltwayref03_Copy.ps iFbeltwayref03_Copy.sh x 12) (initL iFbeltwayref03_Copy.ps x 4) := by kernel_rfl
theorem okFbeltwayref03_Copy : CallsV Tryd.prog tabs 14 iFbeltwayref03_Copy :=
  callsV_of_rk (cx := cFbeltwayref03_Copy) (fn := Tryd.f14) (c := Tryd.f14.body.getD .skip) (n := 12) (N := 4) (rvs := [.cell 2 26]) (cxOk (.cons okFbeltwayref02_Clone TabOk.nil) XtOk.nil) Tryd.func14 rfl (by kernel_rfl) rfl rfl (fun x => Nat.le_of_ble_eq_true rfl) (by decide) (fun x => congrFun eFbeltwayref03_Copy x)
noncomputable def Fbeltwayref09_Extra (a0 : (Int × (List (BitVec 64)) × (List (Int × Int × Int)))) (a1 : (Int × Int × Int × Int × Int)) (a2 : Int) : Option Int :=
Option.bind (Fbeltwayref01_Ceil (w64 (a1.2.2.2.2 + a2)) a0.1) (fun r1 =>
Option.bind (Fbeltwayref09_Frames a0 a1) (fun r2 =>
some (w64 (r1 - r2))))
@[reducible] noncomputable def iFbeltwayref09_Extra : FnI := { ps := [⟨(.pair (.int .i64) (.pair (.slice .u64) (.slice (.pair (.int .i64) (.pair (.int .i64) (.int .i64)))))), true, false, false⟩, ⟨(.pair (.int .i64) (.pair (.int .i64) (.pair (.int .i64) (.pair (.int .i64) (.int .i64))))), true, false, false⟩, ⟨(.int .i64), false, false, false⟩], rs := [⟨(.int .i64), false, true, false⟩], os := [], bk := [], F := fun x => Fbeltwayref09_Extra x.1 x.2.1 x.2.2 }
noncomputable def cFbeltwayref09_Extra : Cx := { nm := [(3, (2, 1)), (4, (3, 1))], keep := [], fns := tabF [(47, iFbeltwayref09_Frames), (48, iFbeltwayref01_Ceil)], loops := [], joins := [], tb := tabs, exts := [], lets := [] }
theorem eFbeltwayref09_Extra : (fun x : HT iFbeltwayref09_Extra.ps => iFbeltwayref09_Extra.F x) = fun x => rk Tryd.prog cFbeltwayref09_Extra (Tryd.f30.body.getD .skip) (HT (iFbeltwayref09_Extra.rs ++ iFbeltwayref09_Extra.os)) 1000000 (finK Tryd.prog [.tmp 6] [] iFbeltwayref09_Extra.os (iFbeltwayref09_Extra.rs ++ iFbeltwayref09_Extra.os)) (initF iFbeltwayref09_Extra.ps iFbeltwayref09_Extra.sh x 18) (initL iFbeltwayref09_Extra.ps x 2) := by kernel_rfl
theorem okFbeltwayref09_Extra : CallsV Tryd.prog tabs 30 iFbeltwayref09_Extra :=
  callsV_of_rk (cx := cFbeltwayref09_Extra) (fn := Tryd.f30) (c := Tryd.f30.body.getD .skip) (n := 18) (N := 2) (rvs := [.tmp 6]) (cxOk (.cons okFbeltwayref09_Frames (.cons okFbeltwayref01_Ceil TabOk.nil)) XtOk.nil) Tryd.func30 rfl (by kernel_rfl) rfl rfl (fun x => Nat.le_of_ble_eq_true rfl) (by decide) (fun x => congrFun eFbeltwayref09_Extra x)
noncomputable def Fbeltwayref04_Free (a0 : (Int × (List (BitVec 64)) × (List (Int × Int × Int)))) : Option (List Int) :=
loopO (σ := ((List Int) × Int)) (β := (List Int)) (fun s1 =>
if s1.2 < (a0.2.2.length : Int) then
if 0 ≤ s1.2 ∧ s1.2 < (a0.2.2.length : Int) then
if ((gl ((0, 0, 0) : (Int × Int × Int)) a0.2.2 s1.2.toNat).1) = (-1) then
if (s1.1.length + ([s1.2] : List Int).length) * 8 ≤ 140737488355328 then
some (Sum.inl ((s1.1 ++ ([s1.2] : List Int), w64 (s1.2 + 1))))
else none
else some (Sum.inl ((s1.1, w64 (s1.2 + 1))))
else none
else some (Sum.inr (s1.1))) (([], 0))
@[reducible] noncomputable def iFbeltwayref04_Free : FnI := { ps := [⟨(.pair (.int .i64) (.pair (.slice .u64) (.slice (.pair (.int .i64) (.pair (.int .i64) (.int .i64)))))), true, false, false⟩], rs := [⟨(.slice (.int .i64)), false, true, false⟩], os := [], bk := [], F := fun x => Fbeltwayref04_Free x }
noncomputable def cFbeltwayref04_Free : Cx := { nm := [(1, (2, 1)), (5, (4, 1)), (19, (5, 1)), (20, (6, 1))], keep := [20], fns := tabF [], loops := [(0, { live := [(3, ⟨(.slice (.int .i64)), false, true, false⟩), (9, ⟨(.int .i64), false, false, false⟩)], boxes := [], rows := [], dead := [4, 5, 10, 11, 12, 13, 14, 15, 16, 17, 18, 19, 20, 21], lost := [], base := 3 })], joins := [], tb := tabs, exts := [], lets := [] }
theorem eFbeltwayref04_Free : (fun x : HT iFbeltwayref04_Free.ps => iFbeltwayref04_Free.F x) = fun x => rk Tryd.prog cFbeltwayref04_Free (Tryd.f31.body.getD .skip) (HT (iFbeltwayref04_Free.rs ++ iFbeltwayref04_Free.os)) 1000000 (finK Tryd.prog [.tmp 2] [] iFbeltwayref04_Free.os (iFbeltwayref04_Free.rs ++ iFbeltwayref04_Free.os)) (initF iFbeltwayref04_Free.ps iFbeltwayref04_Free.sh x 23) (initL iFbeltwayref04_Free.ps x 5) := by kernel_rfl
theorem okFbeltwayref04_Free : CallsV Tryd.prog tabs 31 iFbeltwayref04_Free :=
  callsV_of_rk (cx := cFbeltwayref04_Free) (fn := Tryd.f31) (c := Tryd.f31.body.getD .skip) (n := 23) (N := 5) (rvs := [.tmp 2]) (cxOk TabOk.nil XtOk.nil) Tryd.func31 rfl (by kernel_rfl) rfl rfl (fun x => Nat.le_of_ble_eq_true rfl) (by decide) (fun x => congrFun eFbeltwayref04_Free x)
noncomputable def Fbeltwayref04_Lift (a0 : (Int × (List (BitVec 64)) × (List (Int × Int × Int)))) (a1 : Int) (a2 : Int) : Option (Int × (List (BitVec 64)) × (List (Int × Int × Int))) :=
loopO (σ := Int) (β := (Int × (List (BitVec 64)) × (List (Int × Int × Int)))) (fun s1 =>
if s1 < (a0.2.2.length : Int) then
if 0 ≤ s1 ∧ s1 < (a0.2.2.length : Int) then
if ((gl ((0, 0, 0) : (Int × Int × Int)) a0.2.2 s1.toNat).1) = (-1) then
if 0 ≤ s1 ∧ s1 < (a0.2.2.length : Int) then
some (Sum.inr ((s1, a0.2.1, a0.2.2.set s1.toNat (a1, w64 ((w64 (a2 * 4294967296)) + a1), (-1)))))
else none
else some (Sum.inl (w64 (s1 + 1)))
else none
else some (Sum.inr (((-1), a0.2.1, a0.2.2)))) (0)
@[reducible] noncomputable def iFbeltwayref04_Lift : FnI := { ps := [⟨(.pair (.int .i64) (.pair (.slice .u64) (.slice (.pair (.int .i64) (.pair (.int .i64) (.int .i64)))))), true, true, false⟩, ⟨(.int .i64), false, false, false⟩, ⟨(.int .i64), false, false, false⟩], rs := [⟨(.int .i64), false, true, false⟩], os := [⟨(.slice .u64), false, true, false⟩, ⟨(.slice (.pair (.int .i64) (.pair (.int .i64) (.int .i64)))), false, true, false⟩], bk := [0, 1], F := fun x => Fbeltwayref04_Lift x.1 x.2.1 x.2.2 }
noncomputable def cFbeltwayref04_Lift : Cx := { nm := [(3, (2, 1)), (8, (3, 1))], keep := [], fns := tabF [], loops := [(0, { live := [(12, ⟨(.int .i64), false, false, false⟩)], boxes := [], rows := [], dead := [6, 7, 8, 13, 14, 15, 16, 17, 18, 19, 20, 21, 22, 23, 24, 25, 26, 27, 28, 29, 30, 31], lost := [], base := 3 })], joins := [], tb := tabs, exts := [], lets := [] }
theorem eFbeltwayref04_Lift : (fun x : HT iFbeltwayref04_Lift.ps => iFbeltwayref04_Lift.F x) = fun x => rk Tryd.prog cFbeltwayref04_Lift (Tryd.f32.body.getD .skip) (HT (iFbeltwayref04_Lift.rs ++ iFbeltwayref04_Lift.os)) 1000000 (finK Tryd.prog [.tmp 6] [0, 1] iFbeltwayref04_Lift.os (iFbeltwayref04_Lift.rs ++ iFbeltwayref04_Lift.os)) (initF iFbeltwayref04_Lift.ps iFbeltwayref04_Lift.sh x 32) (initL iFbeltwayref04_Lift.ps x 2) := by kernel_rfl
theorem okFbeltwayref04_Lift : CallsV Tryd.prog tabs 32 iFbeltwayref04_Lift :=
  callsV_of_rk (cx := cFbeltwayref04_Lift) (fn := Tryd.f32) (c := Tryd.f32.body.getD .skip) (n := 32) (N := 2) (rvs := [.tmp 6]) (cxOk TabOk.nil XtOk.nil) Tryd.func32 rfl (by kernel_rfl) rfl rfl (fun x => Nat.le_of_ble_eq_true rfl) (by decide) (fun x => congrFun eFbeltwayref04_Lift x)
noncomputable def Fbeltwayref05_Go (a0 : (Int × (List (BitVec 64)) × (List (Int × Int × Int)))) (a1 : Int) (a2 : Int) : Option (Int × Int) :=
if a1 < 0 then
some ((0, 2))
else if a1 ≥ (a0.2.1.length : Int) then
some ((0, 2))
else if a2 < 0 then
some ((0, 2))
else if True then
if True then
if 0 ≤ (a1 / 2 ^ min (BitVec.ofInt 64 a0.1).toNat 64) ∧ (a1 / 2 ^ min (BitVec.ofInt 64 a0.1).toNat 64) < (a0.2.2.length : Int) then
if ((gl ((0, 0, 0) : (Int × Int × Int)) a0.2.2 ((a1 / 2 ^ min (BitVec.ofInt 64 a0.1).toNat 64).toNat)).1) = (-1) then
some ((0, 5))
else loopO (σ := (Int × Int × Int)) (β := (Int × Int)) (fun s1 =>
if True then
if s1.1 ≥ (w64 ((w64 ((1 : Int) * 2 ^ min (BitVec.ofInt 64 a0.1).toNat 64)) - s1.2.2)) then
if True then
if 0 ≤ s1.2.1 ∧ s1.2.1 < (a0.2.2.length : Int) then
if (((gl ((0, 0, 0) : (Int × Int × Int)) a0.2.2 s1.2.1.toNat).2).2) = (-1) then
some (Sum.inr ((0, 2)))
else some (Sum.inl ((w64 (s1.1 - (w64 ((w64 ((1 : Int) * 2 ^ min (BitVec.ofInt 64 a0.1).toNat 64)) - s1.2.2))), ((gl ((0, 0, 0) : (Int × Int × Int)) a0.2.2 s1.2.1.toNat).2).2, 0)))
else none
else none
else Option.map Sum.inr (if True then
some ((w64 ((w64 ((w64 (s1.2.1 * 2 ^ min (BitVec.ofInt 64 a0.1).toNat 64)) + s1.2.2)) + s1.1), 0))
else none)
else none) ((a2, a1 / 2 ^ min (BitVec.ofInt 64 a0.1).toNat 64, iBits .and a1 (w64 ((w64 ((1 : Int) * 2 ^ min (BitVec.ofInt 64 a0.1).toNat 64)) - 1))))
else none
else none
else none
@[reducible] noncomputable def iFbeltwayref05_Go : FnI := { ps := [⟨(.pair (.int .i64) (.pair (.slice .u64) (.slice (.pair (.int .i64) (.pair (.int .i64) (.int .i64)))))), true, false, false⟩, ⟨(.int .i64), false, false, false⟩, ⟨(.int .i64), false, false, false⟩], rs := [⟨(.int .i64), false, true, false⟩, ⟨(.int .i64), false, true, false⟩], os := [], bk := [], F := fun x => Fbeltwayref05_Go x.1 x.2.1 x.2.2 }
noncomputable def cFbeltwayref05_Go : Cx := { nm := [(3, (2, 1))], keep := [], fns := tabF [], loops := [(0, { live := [(2, ⟨(.int .i64), false, false, false⟩), (8, ⟨(.int .i64), false, false, false⟩), (9, ⟨(.int .i64), false, false, false⟩)], boxes := [], rows := [], dead := [6, 7, 42, 43, 44, 45, 46, 47, 48, 49, 50, 51, 52, 53, 54, 55, 56, 57, 58, 59, 60, 61, 62, 63, 64, 65], lost := [], base := 3 })], joins := [], tb := tabs, exts := [], lets := [] }
theorem eFbeltwayref05_Go : (fun x : HT iFbeltwayref05_Go.ps => iFbeltwayref05_Go.F x) = fun x => rk Tryd.prog cFbeltwayref05_Go (Tryd.f33.body.getD .skip) (HT (iFbeltwayref05_Go.rs ++ iFbeltwayref05_Go.os)) 1000000 (finK Tryd.prog [.tmp 6, .tmp 7] [] iFbeltwayref05_Go.os (iFbeltwayref05_Go.rs ++ iFbeltwayref05_Go.os)) (initF iFbeltwayref05_Go.ps iFbeltwayref05_Go.sh x 75) (initL iFbeltwayref05_Go.ps x 1) := by kernel_rfl
theorem okFbeltwayref05_Go : CallsV Tryd.prog tabs 33 iFbeltwayref05_Go :=
  callsV_of_rk (cx := cFbeltwayref05_Go) (fn := Tryd.f33) (c := Tryd.f33.body.getD .skip) (n := 75) (N := 1) (rvs := [.tmp 6, .tmp 7]) (cxOk TabOk.nil XtOk.nil) Tryd.func33 rfl (by kernel_rfl) rfl rfl (fun x => Nat.le_of_ble_eq_true rfl) (by decide) (fun x => congrFun eFbeltwayref05_Go x)
noncomputable def Fbeltwayref09_Grow (a0 : (Int × (List (BitVec 64)) × (List (Int × Int × Int)))) (a1 : (Int × Int × Int × Int × Int)) (a2 : Int) : Option ((Int × Int × Int × Int × Int) × Int × Int × (List (BitVec 64)) × (List (Int × Int × Int))) :=
Option.bind (Fbeltwayref09_Extra a0 a1 a2) (fun r1 =>
Option.bind (Fbeltwayref04_Free a0) (fun r2 =>
if r1 > (r2.length : Int) then
some (((0, 0, 0, 0, 0), 0, 4, a0.2.1, a0.2.2))
else loopO (σ := (Int × (Int × Int × Int × Int × Int) × (List (BitVec 64)) × (List (Int × Int × Int)))) (β := ((Int × Int × Int × Int × Int) × Int × Int × (List (BitVec 64)) × (List (Int × Int × Int)))) (fun s1 =>
if s1.1 > 0 then
Option.bind (Fbeltwayref04_Lift (a0.1, s1.2.2) s1.2.1.1 s1.2.1.2.1) (fun r3 =>
if s1.2.1.2.2.1 = (-1) then
some (Sum.inl ((w64 (s1.1 - 1), (s1.2.1.1, s1.2.1.2.1, r3.1, r3.1, s1.2.1.2.2.2.2), r3.2.1, r3.2.2)))
else if 0 ≤ s1.2.1.2.2.2.1 ∧ s1.2.1.2.2.2.1 < (r3.2.2.length : Int) then
some (Sum.inl ((w64 (s1.1 - 1), (s1.2.1.1, s1.2.1.2.1, s1.2.1.2.2.1, r3.1, s1.2.1.2.2.2.2), r3.2.1, r3.2.2.set s1.2.1.2.2.2.1.toNat ((gl ((0, 0, 0) : (Int × Int × Int)) r3.2.2 s1.2.1.2.2.2.1.toNat).1, ((gl ((0, 0, 0) : (Int × Int × Int)) r3.2.2 s1.2.1.2.2.2.1.toNat).2).1, r3.1))))
else none)
else Option.map Sum.inr (if True then
Option.bind (Fbeltwayref05_Go (a0.1, s1.2.2) (w64 (s1.2.1.2.2.1 * 2 ^ min (BitVec.ofInt 64 a0.1).toNat 64)) a1.2.2.2.2) (fun r4 =>
some (((s1.2.1.1, s1.2.1.2.1, s1.2.1.2.2.1, s1.2.1.2.2.2.1, w64 (s1.2.1.2.2.2.2 + a2)), r4.1, 0, s1.2.2.1, s1.2.2.2)))
else none)) ((r1, a1, a0.2.1, a0.2.2))))
@[reducible] noncomputable def iFbeltwayref09_Grow : FnI := { ps := [⟨(.pair (.int .i64) (.pair (.slice .u64) (.slice (.pair (.int .i64) (.pair (.int .i64) (.int .i64)))))), true, true, false⟩, ⟨(.pair (.int .i64) (.pair (.int .i64) (.pair (.int .i64) (.pair (.int .i64) (.int .i64))))), true, false, false⟩, ⟨(.int .i64), false, false, false⟩], rs := [⟨(.pair (.int .i64) (.pair (.int .i64) (.pair (.int .i64) (.pair (.int .i64) (.int .i64))))), true, true, false⟩, ⟨(.int .i64), false, true, false⟩, ⟨(.int .i64), false, true, false⟩], os := [⟨(.slice .u64), false, true, false⟩, ⟨(.slice (.pair (.int .i64) (.pair (.int .i64) (.int .i64)))), false, true, false⟩], bk := [0, 1], F := fun x => Fbeltwayref09_Grow x.1 x.2.1 x.2.2 }
noncomputable def cFbeltwayref09_Grow : Cx := { nm := [(3, (2, 1)), (4, (3, 1)), (6, (4, 1)), (20, (5, 1))], keep := [], fns := tabF [(30, iFbeltwayref09_Extra), (31, iFbeltwayref04_Free), (32, iFbeltwayref04_Lift), (33, iFbeltwayref05_Go)], loops := [(0, { live := [(9, ⟨(.int .i64), false, false, false⟩)], boxes := [(3, ⟨(.pair (.int .i64) (.pair (.int .i64) (.pair (.int .i64) (.pair (.int .i64) (.int .i64))))), true, false, false⟩)], rows := [(0, .u64), (1, (.pair (.int .i64) (.pair (.int .i64) (.int .i64))))], dead := [11, 26, 27, 28, 29, 30, 31, 32, 33, 34, 35, 36, 37, 38, 39, 40, 41, 42, 43, 44, 45, 46, 47, 48, 49], lost := [], base := 6 })], joins := [], tb := tabs, exts := [], lets := [] }
theorem eFbeltwayref09_Grow : (fun x : HT iFbeltwayref09_Grow.ps => iFbeltwayref09_Grow.F x) = fun x => rk Tryd.prog cFbeltwayref09_Grow (Tryd.f15.body.getD .skip) (HT (iFbeltwayref09_Grow.rs ++ iFbeltwayref09_Grow.os)) 1000000 (finK Tryd.prog [.cell 6 31, .tmp 7, .tmp 8] [0, 1] iFbeltwayref09_Grow.os (iFbeltwayref09_Grow.rs ++ iFbeltwayref09_Grow.os)) (initF iFbeltwayref09_Grow.ps iFbeltwayref09_Grow.sh x 69) (initL iFbeltwayref09_Grow.ps x 4) := by kernel_rfl
theorem okFbeltwayref09_Grow : CallsV Tryd.prog tabs 15 iFbeltwayref09_Grow :=
  callsV_of_rk (cx := cFbeltwayref09_Grow) (fn := Tryd.f15) (c := Tryd.f15.body.getD .skip) (n := 69) (N := 4) (rvs := [.cell 6 31, .tmp 7, .tmp 8]) (cxOk (.cons okFbeltwayref09_Extra (.cons okFbeltwayref04_Free (.cons okFbeltwayref04_Lift (.cons okFbeltwayref05_Go TabOk.nil)))) XtOk.nil) Tryd.func15 rfl (by kernel_rfl) rfl rfl (fun x => Nat.le_of_ble_eq_true rfl) (by decide) (fun x => congrFun eFbeltwayref09_Grow x)
noncomputable def Fbeltwayref09_Alloc (a0 : (Int × (List (BitVec 64)) × (List (Int × Int × Int)))) (a1 : (Int × Int × Int × Int × Int)) (a2 : Int) : Option ((Int × (List (BitVec 64)) × (List (Int × Int × Int))) × (Int × Int × Int × Int × Int) × Int × Int) :=
Option.bind (Fbeltwayref09_Valid a0 a1) (fun r1 =>
if (!r1) = true then
some (((0, [], []), (0, 0, 0, 0, 0), 0, 1))
else if a2 < 1 then
some (((0, [], []), (0, 0, 0, 0, 0), 0, 1))
else if a2 > 48 then
some (((0, [], []), (0, 0, 0, 0, 0), 0, 1))
else if a1.2.2.2.2 = 0 then
Option.bind (Fbeltwayref09_Owns a0 a1.1) (fun r2 =>
if r2 = true then
some (((0, [], []), (0, 0, 0, 0, 0), 0, 5))
else Option.bind (Fbeltwayref03_Copy a0) (fun r3 =>
Option.bind (Fbeltwayref09_Grow r3 a1 a2) (fun r4 =>
if ¬ r4.2.2.1 = 0 then
some (((0, [], []), (0, 0, 0, 0, 0), 0, r4.2.2.1))
else some (((r3.1, r4.2.2.2), r4.1, r4.2.1, 0)))))
else Option.bind (Fbeltwayref03_Copy a0) (fun r5 =>
Option.bind (Fbeltwayref09_Grow r5 a1 a2) (fun r6 =>
if ¬ r6.2.2.1 = 0 then
some (((0, [], []), (0, 0, 0, 0, 0), 0, r6.2.2.1))
else some (((r5.1, r6.2.2.2), r6.1, r6.2.1, 0)))))
@[reducible] noncomputable def iFbeltwayref09_Alloc : FnI := { ps := [⟨(.pair (.int .i64) (.pair (.slice .u64) (.slice (.pair (.int .i64) (.pair (.int .i64) (.int .i64)))))), true, false, false⟩, ⟨(.pair (.int .i64) (.pair (.int .i64) (.pair (.int .i64) (.pair (.int .i64) (.int .i64))))), true, false, false⟩, ⟨(.int .i64), false, false, false⟩], rs := [⟨(.pair (.int .i64) (.pair (.slice .u64) (.slice (.pair (.int .i64) (.pair (.int .i64) (.int .i64)))))), true, true, false⟩, ⟨(.pair (.int .i64) (.pair (.int .i64) (.pair (.int .i64) (.pair (.int .i64) (.int .i64))))), true, true, false⟩, ⟨(.int .i64), false, true, false⟩, ⟨(.int .i64), false, true, false⟩], os := [], bk := [], F := fun x => Fbeltwayref09_Alloc x.1 x.2.1 x.2.2 }
noncomputable def cFbeltwayref09_Alloc : Cx := { nm := [(3, (2, 1)), (4, (3, 1)), (6, (4, 1)), (7, (5, 1)), (10, (8, 1)), (11, (9, 1)), (40, (6, 2))], keep := [], fns := tabF [(12, iFbeltwayref09_Valid), (13, iFbeltwayref09_Owns), (14, iFbeltwayref03_Copy), (15, iFbeltwayref09_Grow)], loops := [], joins := [], tb := tabs, exts := [], lets := [] }
theorem eFbeltwayref09_Alloc : (fun x : HT iFbeltwayref09_Alloc.ps => iFbeltwayref09_Alloc.F x) = fun x => rk Tryd.prog cFbeltwayref09_Alloc (Tryd.f6.body.getD .skip) (HT (iFbeltwayref09_Alloc.rs ++ iFbeltwayref09_Alloc.os)) 1000000 (finK Tryd.prog [.cell 6 26, .cell 7 31, .tmp 8, .tmp 9] [] iFbeltwayref09_Alloc.os (iFbeltwayref09_Alloc.rs ++ iFbeltwayref09_Alloc.os)) (initF iFbeltwayref09_Alloc.ps iFbeltwayref09_Alloc.sh x 57) (initL iFbeltwayref09_Alloc.ps x 8) := by kernel_rfl
theorem okFbeltwayref09_Alloc : CallsV Tryd.prog tabs 6 iFbeltwayref09_Alloc :=
  callsV_of_rk (cx := cFbeltwayref09_Alloc) (fn := Tryd.f6) (c := Tryd.f6.body.getD .skip) (n := 57) (N := 8) (rvs := [.cell 6 26, .cell 7 31, .tmp 8, .tmp 9]) (cxOk (.cons okFbeltwayref09_Valid (.cons okFbeltwayref09_Owns (.cons okFbeltwayref03_Copy (.cons okFbeltwayref09_Grow TabOk.nil)))) XtOk.nil) Tryd.func6 rfl (by kernel_rfl) rfl rfl (fun x => Nat.le_of_ble_eq_true rfl) (by decide) (fun x => congrFun eFbeltwayref09_Alloc x)
noncomputable def Fbeltwayref07_Live (a0 : Int) (a1 : Int) : Option ((BitVec 64) × Int) :=
if a0 < 0 then
some ((0#64, 13))
else if a0 > 15 then
some ((0#64, 13))
else if a1 < 0 then
some ((0#64, 13))
else if a1 > 32 then
some ((0#64, 13))
else some ((BitVec.ofInt 64 (w64 ((w64 ((w64 ((w64 ((1 : Int) + a0)) + a1)) * 256)) + (w64 (a0 * 2)))), 0))
@[reducible] noncomputable def iFbeltwayref07_Live : FnI := { ps := [⟨(.int .i64), false, false, false⟩, ⟨(.int .i64), false, false, false⟩], rs := [⟨.u64, false, true, false⟩, ⟨(.int .i64), false, true, false⟩], os := [], bk := [], F := fun x => Fbeltwayref07_Live x.1 x.2 }
noncomputable def cFbeltwayref07_Live : Cx := { nm := [], keep := [], fns := tabF [], loops := [], joins := [], tb := tabs, exts := [], lets := [] }
theorem eFbeltwayref07_Live : (fun x : HT iFbeltwayref07_Live.ps => iFbeltwayref07_Live.F x) = fun x => rk Tryd.prog cFbeltwayref07_Live (Tryd.f35.body.getD .skip) (HT (iFbeltwayref07_Live.rs ++ iFbeltwayref07_Live.os)) 1000000 (finK Tryd.prog [.tmp 4, .tmp 5] [] iFbeltwayref07_Live.os (iFbeltwayref07_Live.rs ++ iFbeltwayref07_Live.os)) (initF iFbeltwayref07_Live.ps iFbeltwayref07_Live.sh x 29) (initL iFbeltwayref07_Live.ps x 0) := by kernel_rfl
theorem okFbeltwayref07_Live : CallsV Tryd.prog tabs 35 iFbeltwayref07_Live :=
  callsV_of_rk (cx := cFbeltwayref07_Live) (fn := Tryd.f35) (c := Tryd.f35.body.getD .skip) (n := 29) (N := 0) (rvs := [.tmp 4, .tmp 5]) (cxOk TabOk.nil XtOk.nil) Tryd.func35 rfl (by kernel_rfl) rfl rfl (fun x => Nat.le_of_ble_eq_true rfl) (by decide) (fun x => congrFun eFbeltwayref07_Live x)
noncomputable def Fbeltwayref08_Make (a0 : (Int × (List (BitVec 64)) × (List (Int × Int × Int)))) (a1 : Int) (a2 : Int) (a3 : Int) : Option (Int × (List (BitVec 64)) × (List (Int × Int × Int))) :=
Option.bind (Fbeltwayref07_Live a2 a3) (fun r1 =>
if ¬ r1.2 = 0 then
some ((r1.2, a0.2.1, a0.2.2))
else Option.bind (Fbeltwayref05_Go a0 a1 (w64 (a2 + a3))) (fun r2 =>
if ¬ r2.2 = 0 then
some ((r2.2, a0.2.1, a0.2.2))
else if 0 ≤ a1 ∧ a1 < (a0.2.1.length : Int) then
loopO (σ := (Int × (List (BitVec 64)))) (β := (Int × (List (BitVec 64)) × (List (Int × Int × Int)))) (fun s1 =>
if s1.1 ≤ (w64 (a2 + a3)) then
Option.bind (Fbeltwayref05_Go (a0.1, s1.2, a0.2.2) a1 s1.1) (fun r3 =>
if 0 ≤ r3.1 ∧ r3.1 < (s1.2.length : Int) then
some (Sum.inl ((w64 (s1.1 + 1), s1.2.set r3.1.toNat (0#64))))
else none)
else some (Sum.inr ((0, s1.2, a0.2.2)))) ((1, a0.2.1.set a1.toNat r1.1))
else none))
@[reducible] noncomputable def iFbeltwayref08_Make : FnI := { ps := [⟨(.pair (.int .i64) (.pair (.slice .u64) (.slice (.pair (.int .i64) (.pair (.int .i64) (.int .i64)))))), true, true, false⟩, ⟨(.int .i64), false, false, false⟩, ⟨(.int .i64), false, false, false⟩, ⟨(.int .i64), false, false, false⟩], rs := [⟨(.int .i64), false, true, false⟩], os := [⟨(.slice .u64), false, true, false⟩, ⟨(.slice (.pair (.int .i64) (.pair (.int .i64) (.int .i64)))), false, true, false⟩], bk := [0, 1], F := fun x => Fbeltwayref08_Make x.1 x.2.1 x.2.2.1 x.2.2.2 }
noncomputable def cFbeltwayref08_Make : Cx := { nm := [(4, (2, 1))], keep := [], fns := tabF [(33, iFbeltwayref05_Go), (35, iFbeltwayref07_Live)], loops := [(0, { live := [(13, ⟨(.int .i64), false, false, false⟩)], boxes := [], rows := [(0, .u64)], dead := [14, 15, 42, 43, 44, 45, 46, 47, 48, 49, 50, 51, 52, 53, 54, 55, 56, 57, 58, 59], lost := [], base := 3 })], joins := [], tb := tabs, exts := [], lets := [] }
theorem eFbeltwayref08_Make : (fun x : HT iFbeltwayref08_Make.ps => iFbeltwayref08_Make.F x) = fun x => rk Tryd.prog cFbeltwayref08_Make (Tryd.f17.body.getD .skip) (HT (iFbeltwayref08_Make.rs ++ iFbeltwayref08_Make.os)) 1000000 (finK Tryd.prog [.tmp 8] [0, 1] iFbeltwayref08_Make.os (iFbeltwayref08_Make.rs ++ iFbeltwayref08_Make.os)) (initF iFbeltwayref08_Make.ps iFbeltwayref08_Make.sh x 60) (initL iFbeltwayref08_Make.ps x 1) := by kernel_rfl
theorem okFbeltwayref08_Make : CallsV Tryd.prog tabs 17 iFbeltwayref08_Make :=
  callsV_of_rk (cx := cFbeltwayref08_Make) (fn := Tryd.f17) (c := Tryd.f17.body.getD .skip) (n := 60) (N := 1) (rvs := [.tmp 8]) (cxOk (.cons okFbeltwayref05_Go (.cons okFbeltwayref07_Live TabOk.nil)) XtOk.nil) Tryd.func17 rfl (by kernel_rfl) rfl rfl (fun x => Nat.le_of_ble_eq_true rfl) (by decide) (fun x => congrFun eFbeltwayref08_Make x)
noncomputable def Fbeltwayref08_Init (a0 : (Int × (List (BitVec 64)) × (List (Int × Int × Int)))) (a1 : Int) (a2 : Int) (a3 : Int) : Option ((Int × (List (BitVec 64)) × (List (Int × Int × Int))) × Int) :=
Option.bind (Fbeltwayref03_Valid a0) (fun r1 =>
if (!r1) = true then
some (((0, [], []), 1))
else Option.bind (Fbeltwayref03_Copy a0) (fun r2 =>
Option.bind (Fbeltwayref08_Make r2 a1 a2 a3) (fun r3 =>
if ¬ r3.1 = 0 then
some (((0, [], []), r3.1))
else some (((r2.1, r3.2), 0)))))
@[reducible] noncomputable def iFbeltwayref08_Init : FnI := { ps := [⟨(.pair (.int .i64) (.pair (.slice .u64) (.slice (.pair (.int .i64) (.pair (.int .i64) (.int .i64)))))), true, false, false⟩, ⟨(.int .i64), false, false, false⟩, ⟨(.int .i64), false, false, false⟩, ⟨(.int .i64), false, false, false⟩], rs := [⟨(.pair (.int .i64) (.pair (.slice .u64) (.slice (.pair (.int .i64) (.pair (.int .i64) (.int .i64)))))), true, true, false⟩, ⟨(.int .i64), false, true, false⟩], os := [], bk := [], F := fun x => Fbeltwayref08_Init x.1 x.2.1 x.2.2.1 x.2.2.2 }
noncomputable def cFbeltwayref08_Init : Cx := { nm := [(4, (2, 1)), (8, (3, 1)), (10, (6, 1)), (17, (4, 2))], keep := [], fns := tabF [(14, iFbeltwayref03_Copy), (16, iFbeltwayref03_Valid), (17, iFbeltwayref08_Make)], loops := [], joins := [], tb := tabs, exts := [], lets := [] }
theorem eFbeltwayref08_Init : (fun x : HT iFbeltwayref08_Init.ps => iFbeltwayref08_Init.F x) = fun x => rk Tryd.prog cFbeltwayref08_Init (Tryd.f7.body.getD .skip) (HT (iFbeltwayref08_Init.rs ++ iFbeltwayref08_Init.os)) 1000000 (finK Tryd.prog [.cell 8 26, .tmp 9] [] iFbeltwayref08_Init.os (iFbeltwayref08_Init.rs ++ iFbeltwayref08_Init.os)) (initF iFbeltwayref08_Init.ps iFbeltwayref08_Init.sh x 28) (initL iFbeltwayref08_Init.ps x 5) := by kernel_rfl
theorem okFbeltwayref08_Init : CallsV Tryd.prog tabs 7 iFbeltwayref08_Init :=
  callsV_of_rk (cx := cFbeltwayref08_Init) (fn := Tryd.f7) (c := Tryd.f7.body.getD .skip) (n := 28) (N := 5) (rvs := [.cell 8 26, .tmp 9]) (cxOk (.cons okFbeltwayref03_Copy (.cons okFbeltwayref03_Valid (.cons okFbeltwayref08_Make TabOk.nil))) XtOk.nil) Tryd.func7 rfl (by kernel_rfl) rfl rfl (fun x => Nat.le_of_ble_eq_true rfl) (by decide) (fun x => congrFun eFbeltwayref08_Init x)
noncomputable def Fframe_shift (a0 : Int) : Option Bool :=
if a0 ≥ 3 then
some (decide (a0 ≤ 8))
else some (false)
@[reducible] noncomputable def iFframe_shift : FnI := { ps := [⟨(.int .i64), false, false, false⟩], rs := [⟨.bool, false, true, false⟩], os := [], bk := [], F := fun x => Fframe_shift x }
noncomputable def cFframe_shift : Cx := { nm := [], keep := [], fns := tabF [], loops := [], joins := [], tb := tabs, exts := [], lets := [] }
theorem eFframe_shift : (fun x : HT iFframe_shift.ps => iFframe_shift.F x) = fun x => rk Tryd.prog cFframe_shift (Tryd.f50.body.getD .skip) (HT (iFframe_shift.rs ++ iFframe_shift.os)) 1000000 (finK Tryd.prog [.tmp 2] [] iFframe_shift.os (iFframe_shift.rs ++ iFframe_shift.os)) (initF iFframe_shift.ps iFframe_shift.sh x 9) (initL iFframe_shift.ps x 0) := by kernel_rfl
theorem okFframe_shift : CallsV Tryd.prog tabs 50 iFframe_shift :=
  callsV_of_rk (cx := cFframe_shift) (fn := Tryd.f50) (c := Tryd.f50.body.getD .skip) (n := 9) (N := 0) (rvs := [.tmp 2]) (cxOk TabOk.nil XtOk.nil) Tryd.func50 rfl (by kernel_rfl) rfl rfl (fun x => Nat.le_of_ble_eq_true rfl) (by decide) (fun x => congrFun eFframe_shift x)
noncomputable def Fframe_zero (a0 : (List (BitVec 64))) : Option Bool :=
loopO (σ := Int) (β := Bool) (fun s1 =>
if s1 < (a0.length : Int) then
if 0 ≤ s1 ∧ s1 < (a0.length : Int) then
if ¬ (gl (0#64 : (BitVec 64)) a0 s1.toNat) = (0#64) then
some (Sum.inr (false))
else some (Sum.inl (w64 (s1 + 1)))
else none
else some (Sum.inr (true))) (0)
@[reducible] noncomputable def iFframe_zero : FnI := { ps := [⟨(.slice .u64), false, false, false⟩], rs := [⟨.bool, false, true, false⟩], os := [], bk := [], F := fun x => Fframe_zero x }
noncomputable def cFframe_zero : Cx := { nm := [], keep := [], fns := tabF [], loops := [(0, { live := [(7, ⟨(.int .i64), false, false, false⟩)], boxes := [], rows := [], dead := [2, 4, 8, 9, 10, 11, 12, 13], lost := [], base := 1 })], joins := [], tb := tabs, exts := [], lets := [] }
theorem eFframe_zero : (fun x : HT iFframe_zero.ps => iFframe_zero.F x) = fun x => rk Tryd.prog cFframe_zero (Tryd.f51.body.getD .skip) (HT (iFframe_zero.rs ++ iFframe_zero.os)) 1000000 (finK Tryd.prog [.tmp 2] [] iFframe_zero.os (iFframe_zero.rs ++ iFframe_zero.os)) (initF iFframe_zero.ps iFframe_zero.sh x 14) (initL iFframe_zero.ps x 0) := by kernel_rfl
theorem okFframe_zero : CallsV Tryd.prog tabs 51 iFframe_zero :=
  callsV_of_rk (cx := cFframe_zero) (fn := Tryd.f51) (c := Tryd.f51.body.getD .skip) (n := 14) (N := 0) (rvs := [.tmp 2]) (cxOk TabOk.nil XtOk.nil) Tryd.func51 rfl (by kernel_rfl) rfl rfl (fun x => Nat.le_of_ble_eq_true rfl) (by decide) (fun x => congrFun eFframe_zero x)
noncomputable def Fframe_straight (a0 : (Int × (List (BitVec 64)) × (List (Int × Int × Int)))) : Option Bool :=
loopO (σ := Int) (β := Bool) (fun s1 =>
if s1 < (a0.2.2.length : Int) then
if 0 ≤ s1 ∧ s1 < (a0.2.2.length : Int) then
loopO (σ := (Int × Int)) (β := (Int ⊕ Bool)) (fun s2 =>
if s2.1 ≥ 0 then
if s2.2 < (a0.2.2.length : Int) then
if s2.1 = s1 then
some (Sum.inr (Sum.inr (false)))
else if 0 ≤ s2.1 ∧ s2.1 < (a0.2.2.length : Int) then
some (Sum.inl ((((gl ((0, 0, 0) : (Int × Int × Int)) a0.2.2 s2.1.toNat).2).2, w64 (s2.2 + 1))))
else none
else some (Sum.inr (Sum.inl (w64 (s1 + 1))))
else some (Sum.inr (Sum.inl (w64 (s1 + 1))))) ((((gl ((0, 0, 0) : (Int × Int × Int)) a0.2.2 s1.toNat).2).2, 0))
else none
else some (Sum.inr (true))) (0)
@[reducible] noncomputable def iFframe_straight : FnI := { ps := [⟨(.pair (.int .i64) (.pair (.slice .u64) (.slice (.pair (.int .i64) (.pair (.int .i64) (.int .i64)))))), true, false, false⟩], rs := [⟨.bool, false, true, false⟩], os := [], bk := [], F := fun x => Fframe_straight x }
noncomputable def cFframe_straight : Cx := { nm := [(1, (2, 1))], keep := [], fns := tabF [], loops := [(0, { live := [(9, ⟨(.int .i64), false, false, false⟩)], boxes := [], rows := [], dead := [2, 3, 4, 5, 10, 11, 12, 13, 14, 15, 16, 17, 18, 19, 20, 21, 22, 23, 24, 25, 26, 27, 28, 29, 30, 31, 32, 33, 34, 35, 36, 37, 38], lost := [], base := 3 }), (2, { live := [(4, ⟨(.int .i64), false, false, false⟩), (5, ⟨(.int .i64), false, false, false⟩)], boxes := [], rows := [], dead := [2, 18, 19, 20, 21, 22, 23, 24, 25, 26, 27, 28, 29, 30, 31, 32, 33, 34, 35, 36, 37], lost := [], base := 3 })], joins := [], tb := tabs, exts := [], lets := [] }
theorem eFframe_straight : (fun x : HT iFframe_straight.ps => iFframe_straight.F x) = fun x => rk Tryd.prog cFframe_straight (Tryd.f52.body.getD .skip) (HT (iFframe_straight.rs ++ iFframe_straight.os)) 1000000 (finK Tryd.prog [.tmp 2] [] iFframe_straight.os (iFframe_straight.rs ++ iFframe_straight.os)) (initF iFframe_straight.ps iFframe_straight.sh x 39) (initL iFframe_straight.ps x 1) := by kernel_rfl
theorem okFframe_straight : CallsV Tryd.prog tabs 52 iFframe_straight :=
  callsV_of_rk (cx := cFframe_straight) (fn := Tryd.f52) (c := Tryd.f52.body.getD .skip) (n := 39) (N := 1) (rvs := [.tmp 2]) (cxOk TabOk.nil XtOk.nil) Tryd.func52 rfl (by kernel_rfl) rfl rfl (fun x => Nat.le_of_ble_eq_true rfl) (by decide) (fun x => congrFun eFframe_straight x)
noncomputable def Fframe_Valid (a0 : (Int × (List (BitVec 64)) × (List (Int × Int × Int)))) : Option Bool :=
Option.bind (Fframe_shift a0.1) (fun r1 =>
if (!r1) = true then
some (false)
else if (a0.2.2.length : Int) < 2 then
some (false)
else if (a0.2.2.length : Int) > 64 then
some (false)
else if True then
if ¬ (a0.2.1.length : Int) = (w64 ((a0.2.2.length : Int) * 2 ^ min (BitVec.ofInt 64 a0.1).toNat 64)) then
some (false)
else loopO (σ := ((BitVec 64) × Int)) (β := Bool) (fun s1 =>
if s1.2 < (a0.2.2.length : Int) then
if 0 ≤ s1.2 ∧ s1.2 < (a0.2.2.length : Int) then
if ((gl ((0, 0, 0) : (Int × Int × Int)) a0.2.2 s1.2.toNat).1) = (-1) then
if ¬ (((gl ((0, 0, 0) : (Int × Int × Int)) a0.2.2 s1.2.toNat).2).1) = (-1) then
some (Sum.inr (false))
else if ¬ (((gl ((0, 0, 0) : (Int × Int × Int)) a0.2.2 s1.2.toNat).2).2) = (-1) then
some (Sum.inr (false))
else if True then
if True then
if Bd (some (w64 (s1.2 * 2 ^ min (BitVec.ofInt 64 a0.1).toNat 64))) (some (w64 ((w64 (s1.2 + 1)) * 2 ^ min (BitVec.ofInt 64 a0.1).toNat 64))) ((w64 ((w64 (s1.2 + 1)) * 2 ^ min (BitVec.ofInt 64 a0.1).toNat 64)).toNat) a0.2.1.length then
Option.bind (Fframe_zero (subl a0.2.1 ((w64 (s1.2 * 2 ^ min (BitVec.ofInt 64 a0.1).toNat 64)).toNat) (((w64 ((w64 (s1.2 + 1)) * 2 ^ min (BitVec.ofInt 64 a0.1).toNat 64)).toNat) - ((w64 (s1.2 * 2 ^ min (BitVec.ofInt 64 a0.1).toNat 64)).toNat)))) (fun r2 =>
if (!r2) = true then
some (Sum.inr (false))
else some (Sum.inl ((s1.1, w64 (s1.2 + 1)))))
else none
else none
else none
else if ((gl ((0, 0, 0) : (Int × Int × Int)) a0.2.2 s1.2.toNat).1) < 0 then
some (Sum.inr (false))
else if ((gl ((0, 0, 0) : (Int × Int × Int)) a0.2.2 s1.2.toNat).1) > 4294967295 then
some (Sum.inr (false))
else if (((gl ((0, 0, 0) : (Int × Int × Int)) a0.2.2 s1.2.toNat).2).1) < 0 then
some (Sum.inr (false))
else if ¬ (4294967296 : Int) = 0 then
if ¬ (Int.tmod (((gl ((0, 0, 0) : (Int × Int × Int)) a0.2.2 s1.2.toNat).2).1) 4294967296) = ((gl ((0, 0, 0) : (Int × Int × Int)) a0.2.2 s1.2.toNat).1) then
some (Sum.inr (false))
else if ¬ (4294967296 : Int) = 0 then
if (w64 (Int.tdiv (((gl ((0, 0, 0) : (Int × Int × Int)) a0.2.2 s1.2.toNat).2).1) 4294967296)) ≥ 4 then
some (Sum.inr (false))
else if (((gl ((0, 0, 0) : (Int × Int × Int)) a0.2.2 s1.2.toNat).2).2) < (-1) then
some (Sum.inr (false))
else if (((gl ((0, 0, 0) : (Int × Int × Int)) a0.2.2 s1.2.toNat).2).2) ≥ (a0.2.2.length : Int) then
some (Sum.inr (false))
else if (((gl ((0, 0, 0) : (Int × Int × Int)) a0.2.2 s1.2.toNat).2).2) = s1.2 then
some (Sum.inr (false))
else if (((gl ((0, 0, 0) : (Int × Int × Int)) a0.2.2 s1.2.toNat).2).2) < 0 then
some (Sum.inl ((s1.1, w64 (s1.2 + 1))))
else if 0 ≤ (((gl ((0, 0, 0) : (Int × Int × Int)) a0.2.2 s1.2.toNat).2).2) ∧ (((gl ((0, 0, 0) : (Int × Int × Int)) a0.2.2 s1.2.toNat).2).2) < (a0.2.2.length : Int) then
if True then
if ((s1.1 >>> (BitVec.ofInt 64 (((gl ((0, 0, 0) : (Int × Int × Int)) a0.2.2 s1.2.toNat).2).2)).toNat) &&& (1#64)) = (1#64) then
some (Sum.inr (false))
else if ¬ ((gl ((0, 0, 0) : (Int × Int × Int)) a0.2.2 ((((gl ((0, 0, 0) : (Int × Int × Int)) a0.2.2 s1.2.toNat).2).2).toNat)).1) = ((gl ((0, 0, 0) : (Int × Int × Int)) a0.2.2 s1.2.toNat).1) then
some (Sum.inr (false))
else if ¬ (((gl ((0, 0, 0) : (Int × Int × Int)) a0.2.2 ((((gl ((0, 0, 0) : (Int × Int × Int)) a0.2.2 s1.2.toNat).2).2).toNat)).2).1) = (((gl ((0, 0, 0) : (Int × Int × Int)) a0.2.2 s1.2.toNat).2).1) then
some (Sum.inr (false))
else if True then
some (Sum.inl ((s1.1 ||| ((1#64) <<< (BitVec.ofInt 64 (((gl ((0, 0, 0) : (Int × Int × Int)) a0.2.2 s1.2.toNat).2).2)).toNat), w64 (s1.2 + 1))))
else none
else none
else none
else none
else none
else none
else Option.map Sum.inr (Option.bind (Fframe_straight a0) (fun r3 =>
some (r3)))) ((0#64, 0))
else none)
@[reducible] noncomputable def iFframe_Valid : FnI := { ps := [⟨(.pair (.int .i64) (.pair (.slice .u64) (.slice (.pair (.int .i64) (.pair (.int .i64) (.int .i64)))))), true, false, false⟩], rs := [⟨.bool, false, true, false⟩], os := [], bk := [], F := fun x => Fframe_Valid x }
noncomputable def cFframe_Valid : Cx := { nm := [(1, (2, 1)), (6, (3, 1)), (7, (5, 1)), (67, (4, 1))], keep := [], fns := tabF [(50, iFframe_shift), (51, iFframe_zero), (52, iFframe_straight)], loops := [(0, { live := [(4, ⟨.u64, false, false, false⟩), (37, ⟨(.int .i64), false, false, false⟩)], boxes := [], rows := [], dead := [2, 5, 6, 7, 38, 39, 40, 41, 42, 43, 44, 45, 46, 47, 48, 49, 50, 51, 52, 53, 54, 55, 56, 57, 58, 59, 60, 61, 62, 63, 64, 65, 66, 67, 68, 69, 70, 71, 72, 73, 74, 75, 76, 77, 78, 79, 80, 81, 82, 83, 84, 85, 86, 87, 88, 89, 90, 91, 92, 93, 94, 95, 96, 97, 98, 99, 100, 101, 102, 103, 104, 105, 106, 107, 108, 109, 110, 111, 112, 113, 114, 115, 116, 117, 118, 119, 120, 121, 122, 123, 124, 125, 126, 127, 128, 129, 130, 131, 132, 133, 134, 135, 136, 137, 138, 139, 140, 141, 142, 143, 144, 145, 146, 147, 148, 149, 150, 151], lost := [], base := 3 })], joins := [], tb := tabs, exts := [], lets := [] }
theorem eFframe_Valid : (fun x : HT iFframe_Valid.ps => iFframe_Valid.F x) = fun x => rk Tryd.prog cFframe_Valid (Tryd.f37.body.getD .skip) (HT (iFframe_Valid.rs ++ iFframe_Valid.os)) 1000000 (finK Tryd.prog [.tmp 2] [] iFframe_Valid.os (iFframe_Valid.rs ++ iFframe_Valid.os)) (initF iFframe_Valid.ps iFframe_Valid.sh x 154) (initL iFframe_Valid.ps x 4) := by kernel_rfl
theorem okFframe_Valid : CallsV Tryd.prog tabs 37 iFframe_Valid :=
  callsV_of_rk (cx := cFframe_Valid) (fn := Tryd.f37) (c := Tryd.f37.body.getD .skip) (n := 154) (N := 4) (rvs := [.tmp 2]) (cxOk (.cons okFframe_shift (.cons okFframe_zero (.cons okFframe_straight TabOk.nil))) XtOk.nil) Tryd.func37 rfl (by kernel_rfl) rfl rfl (fun x => Nat.le_of_ble_eq_true rfl) (by decide) (fun x => congrFun eFframe_Valid x)
noncomputable def Fframe_Size (a0 : (Int × (List (BitVec 64)) × (List (Int × Int × Int)))) : Option Int :=
Option.bind (Fframe_shift a0.1) (fun r1 =>
if (!r1) = true then
some (0)
else if True then
some (w64 ((1 : Int) * 2 ^ min (BitVec.ofInt 64 a0.1).toNat 64))
else none)
@[reducible] noncomputable def iFframe_Size : FnI := { ps := [⟨(.pair (.int .i64) (.pair (.slice .u64) (.slice (.pair (.int .i64) (.pair (.int .i64) (.int .i64)))))), true, false, false⟩], rs := [⟨(.int .i64), false, true, false⟩], os := [], bk := [], F := fun x => Fframe_Size x }
noncomputable def cFframe_Size : Cx := { nm := [(1, (2, 1))], keep := [], fns := tabF [(50, iFframe_shift)], loops := [], joins := [], tb := tabs, exts := [], lets := [] }
theorem eFframe_Size : (fun x : HT iFframe_Size.ps => iFframe_Size.F x) = fun x => rk Tryd.prog cFframe_Size (Tryd.f71.body.getD .skip) (HT (iFframe_Size.rs ++ iFframe_Size.os)) 1000000 (finK Tryd.prog [.tmp 2] [] iFframe_Size.os (iFframe_Size.rs ++ iFframe_Size.os)) (initF iFframe_Size.ps iFframe_Size.sh x 11) (initL iFframe_Size.ps x 1) := by kernel_rfl
theorem okFframe_Size : CallsV Tryd.prog tabs 71 iFframe_Size :=
  callsV_of_rk (cx := cFframe_Size) (fn := Tryd.f71) (c := Tryd.f71.body.getD .skip) (n := 11) (N := 1) (rvs := [.tmp 2]) (cxOk (.cons okFframe_shift TabOk.nil) XtOk.nil) Tryd.func71 rfl (by kernel_rfl) rfl rfl (fun x => Nat.le_of_ble_eq_true rfl) (by decide) (fun x => congrFun eFframe_Size x)
end Go.Proofs.YtokeceeccmgcmaaDoor
