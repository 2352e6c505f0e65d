/-
  The functions of the laws of package walk (printed, and checked by the kernel).
-/
import Derived.Test.YtjdlaikcdebofaaSpW
set_option linter.unusedVariables false
set_option maxRecDepth 100000
namespace Go.Proofs.Ytjdlaikcdebofaa
open Go Go.V3
noncomputable def Fchain_in (a0 : (Int × (List (BitVec 64)) × (List (Int × Int × Int)))) (a1 : Int) : Option Bool :=
if a1 ≥ 0 then
some (decide (a1 < (a0.2.2.length : Int)))
else some (false)
@[reducible] noncomputable def iFchain_in : FnI := { ps := [⟨(.pair (.int .i64) (.pair (.slice .u64) (.slice (.pair (.int .i64) (.pair (.int .i64) (.int .i64)))))), true, false, false⟩, ⟨(.int .i64), false, false, false⟩], rs := [⟨.bool, false, true, false⟩], os := [], bk := [], F := fun x => Fchain_in x.1 x.2 }
noncomputable def cFchain_in : Cx := { nm := [(2, (2, 1))], keep := [], fns := tabF [], loops := [], joins := [], tb := tabs, exts := [], lets := [] }
theorem eFchain_in : (fun x : HT iFchain_in.ps => iFchain_in.F x) = fun x => rk Try.prog cFchain_in (Try.f64.body.getD .skip) (HT (iFchain_in.rs ++ iFchain_in.os)) 1000000 (finK Try.prog [.tmp 4] [] iFchain_in.os (iFchain_in.rs ++ iFchain_in.os)) (initF iFchain_in.ps iFchain_in.sh x 14) (initL iFchain_in.ps x 1) := by kernel_rfl
theorem okFchain_in : CallsV Try.prog tabs 64 iFchain_in :=
  callsV_of_rk (cx := cFchain_in) (fn := Try.f64) (c := Try.f64.body.getD .skip) (n := 14) (N := 1) (rvs := [.tmp 4]) (cxOk TabOk.nil XtOk.nil) Try.func64 rfl (by kernel_rfl) rfl rfl (fun x => Nat.le_of_ble_eq_true rfl) (by decide) (fun x => congrFun eFchain_in x)
noncomputable def Fchain_free (a0 : (Int × (List (BitVec 64)) × (List (Int × Int × Int)))) (a1 : Int) : Option Bool :=
if 0 ≤ a1 ∧ a1 < (a0.2.2.length : Int) then
some (decide (((gl ((0, 0, 0) : (Int × Int × Int)) a0.2.2 a1.toNat).1) = (-1)))
else none
@[reducible] noncomputable def iFchain_free : FnI := { ps := [⟨(.pair (.int .i64) (.pair (.slice .u64) (.slice (.pair (.int .i64) (.pair (.int .i64) (.int .i64)))))), true, false, false⟩, ⟨(.int .i64), false, false, false⟩], rs := [⟨.bool, false, true, false⟩], os := [], bk := [], F := fun x => Fchain_free x.1 x.2 }
noncomputable def cFchain_free : Cx := { nm := [(2, (2, 1))], keep := [], fns := tabF [], loops := [], joins := [], tb := tabs, exts := [], lets := [] }
theorem eFchain_free : (fun x : HT iFchain_free.ps => iFchain_free.F x) = fun x => rk Try.prog cFchain_free (Try.f59.body.getD .skip) (HT (iFchain_free.rs ++ iFchain_free.os)) 1000000 (finK Try.prog [.tmp 4] [] iFchain_free.os (iFchain_free.rs ++ iFchain_free.os)) (initF iFchain_free.ps iFchain_free.sh x 12) (initL iFchain_free.ps x 1) := by kernel_rfl
theorem okFchain_free : CallsV Try.prog tabs 59 iFchain_free :=
  callsV_of_rk (cx := cFchain_free) (fn := Try.f59) (c := Try.f59.body.getD .skip) (n := 12) (N := 1) (rvs := [.tmp 4]) (cxOk TabOk.nil XtOk.nil) Try.func59 rfl (by kernel_rfl) rfl rfl (fun x => Nat.le_of_ble_eq_true rfl) (by decide) (fun x => congrFun eFchain_free x)
noncomputable def Fchain_List (a0 : (Int × (List (BitVec 64)) × (List (Int × Int × Int)))) (a1 : Int) : Option ((List Int) × Int) :=
Option.bind (Fframe_Valid a0) (fun r1 =>
if (!r1) = true then
some (([], 1))
else Option.bind (Fchain_in a0 a1) (fun r2 =>
if (!r2) = true then
some (([], 2))
else Option.bind (Fchain_free a0 a1) (fun r3 =>
if r3 = true then
some (([], 5))
else loopO (σ := ((List Int) × Int)) (β := ((List Int) × Int)) (fun s1 =>
if s1.2 ≥ 0 then
if (s1.1.length + ([s1.2] : List Int).length) * 8 ≤ 140737488355328 then
if 0 ≤ s1.2 ∧ s1.2 < (a0.2.2.length : Int) then
some (Sum.inl ((s1.1 ++ ([s1.2] : List Int), ((gl ((0, 0, 0) : (Int × Int × Int)) a0.2.2 s1.2.toNat).2).2)))
else none
else none
else some (Sum.inr ((s1.1, 0)))) (([], a1)))))
@[reducible] noncomputable def iFchain_List : FnI := { ps := [⟨(.pair (.int .i64) (.pair (.slice .u64) (.slice (.pair (.int .i64) (.pair (.int .i64) (.int .i64)))))), true, false, false⟩, ⟨(.int .i64), false, false, false⟩], rs := [⟨(.slice (.int .i64)), false, true, false⟩, ⟨(.int .i64), false, true, false⟩], os := [], bk := [], F := fun x => Fchain_List x.1 x.2 }
noncomputable def cFchain_List : Cx := { nm := [(2, (2, 1)), (29, (4, 1)), (30, (5, 1))], keep := [30], fns := tabF [(53, iFframe_Valid), (59, iFchain_free), (64, iFchain_in)], loops := [(0, { live := [(6, ⟨(.slice (.int .i64)), false, true, false⟩), (7, ⟨(.int .i64), false, false, false⟩)], boxes := [], rows := [], dead := [19, 20, 21, 22, 23, 24, 25, 26, 27, 28, 29, 30], lost := [], base := 3 })], joins := [], tb := tabs, exts := [], lets := [] }
theorem eFchain_List : (fun x : HT iFchain_List.ps => iFchain_List.F x) = fun x => rk Try.prog cFchain_List (Try.f54.body.getD .skip) (HT (iFchain_List.rs ++ iFchain_List.os)) 1000000 (finK Try.prog [.tmp 4, .tmp 5] [] iFchain_List.os (iFchain_List.rs ++ iFchain_List.os)) (initF iFchain_List.ps iFchain_List.sh x 32) (initL iFchain_List.ps x 4) := by kernel_rfl
theorem okFchain_List : CallsV Try.prog tabs 54 iFchain_List :=
  callsV_of_rk (cx := cFchain_List) (fn := Try.f54) (c := Try.f54.body.getD .skip) (n := 32) (N := 4) (rvs := [.tmp 4, .tmp 5]) (cxOk (.cons okFframe_Valid (.cons okFchain_free (.cons okFchain_in TabOk.nil))) XtOk.nil) Try.func54 rfl (by kernel_rfl) rfl rfl (fun x => Nat.le_of_ble_eq_true rfl) (by decide) (fun x => congrFun eFchain_List x)
noncomputable def Fbits_Ceil (a0 : Int) (a1 : Int) : Option Int :=
if a0 < 0 then
some (0)
else if a0 > 1099511627776 then
some (0)
else if a1 < 0 then
some (0)
else if a1 > 20 then
some (0)
else if True then
if True then
some ((w64 ((w64 (a0 + (w64 ((1 : Int) * 2 ^ min (BitVec.ofInt 64 a1).toNat 64)))) - 1)) / 2 ^ min (BitVec.ofInt 64 a1).toNat 64)
else none
else none
@[reducible] noncomputable def iFbits_Ceil : FnI := { ps := [⟨(.int .i64), false, false, false⟩, ⟨(.int .i64), false, false, false⟩], rs := [⟨(.int .i64), false, true, false⟩], os := [], bk := [], F := fun x => Fbits_Ceil x.1 x.2 }
noncomputable def cFbits_Ceil : Cx := { nm := [], keep := [], fns := tabF [], loops := [], joins := [], tb := tabs, exts := [], lets := [] }
theorem eFbits_Ceil : (fun x : HT iFbits_Ceil.ps => iFbits_Ceil.F x) = fun x => rk Try.prog cFbits_Ceil (Try.f65.body.getD .skip) (HT (iFbits_Ceil.rs ++ iFbits_Ceil.os)) 1000000 (finK Try.prog [.tmp 4] [] iFbits_Ceil.os (iFbits_Ceil.rs ++ iFbits_Ceil.os)) (initF iFbits_Ceil.ps iFbits_Ceil.sh x 28) (initL iFbits_Ceil.ps x 0) := by kernel_rfl
theorem okFbits_Ceil : CallsV Try.prog tabs 65 iFbits_Ceil :=
  callsV_of_rk (cx := cFbits_Ceil) (fn := Try.f65) (c := Try.f65.body.getD .skip) (n := 28) (N := 0) (rvs := [.tmp 4]) (cxOk TabOk.nil XtOk.nil) Try.func65 rfl (by kernel_rfl) rfl rfl (fun x => Nat.le_of_ble_eq_true rfl) (by decide) (fun x => congrFun eFbits_Ceil x)
noncomputable def Fbump_Frames (a0 : (Int × (List (BitVec 64)) × (List (Int × Int × Int)))) (a1 : (Int × Int × Int × Int × Int)) : Option Int :=
Option.bind (Fbits_Ceil a1.2.2.2.2 a0.1) (fun r1 =>
some (r1))
@[reducible] noncomputable def iFbump_Frames : FnI := { ps := [⟨(.pair (.int .i64) (.pair (.slice .u64) (.slice (.pair (.int .i64) (.pair (.int .i64) (.int .i64)))))), true, false, false⟩, ⟨(.pair (.int .i64) (.pair (.int .i64) (.pair (.int .i64) (.pair (.int .i64) (.int .i64))))), true, false, false⟩], rs := [⟨(.int .i64), false, true, false⟩], os := [], bk := [], F := fun x => Fbump_Frames x.1 x.2 }
noncomputable def cFbump_Frames : Cx := { nm := [(2, (2, 1)), (3, (3, 1))], keep := [], fns := tabF [(65, iFbits_Ceil)], loops := [], joins := [], tb := tabs, exts := [], lets := [] }
theorem eFbump_Frames : (fun x : HT iFbump_Frames.ps => iFbump_Frames.F x) = fun x => rk Try.prog cFbump_Frames (Try.f55.body.getD .skip) (HT (iFbump_Frames.rs ++ iFbump_Frames.os)) 1000000 (finK Try.prog [.tmp 4] [] iFbump_Frames.os (iFbump_Frames.rs ++ iFbump_Frames.os)) (initF iFbump_Frames.ps iFbump_Frames.sh x 10) (initL iFbump_Frames.ps x 2) := by kernel_rfl
theorem okFbump_Frames : CallsV Try.prog tabs 55 iFbump_Frames :=
  callsV_of_rk (cx := cFbump_Frames) (fn := Try.f55) (c := Try.f55.body.getD .skip) (n := 10) (N := 2) (rvs := [.tmp 4]) (cxOk (.cons okFbits_Ceil TabOk.nil) XtOk.nil) Try.func55 rfl (by kernel_rfl) rfl rfl (fun x => Nat.le_of_ble_eq_true rfl) (by decide) (fun x => congrFun eFbump_Frames x)
noncomputable def Fbump_owns (a0 : (Int × (List (BitVec 64)) × (List (Int × Int × Int)))) (a1 : Int) : Option Int :=
loopO (σ := (Int × Int)) (β := Int) (fun s1 =>
if s1.2 < (a0.2.2.length : Int) then
if 0 ≤ s1.2 ∧ s1.2 < (a0.2.2.length : Int) then
if ((gl ((0, 0, 0) : (Int × Int × Int)) a0.2.2 s1.2.toNat).1) = a1 then
some (Sum.inl ((w64 (s1.1 + 1), w64 (s1.2 + 1))))
else some (Sum.inl ((s1.1, w64 (s1.2 + 1))))
else none
else some (Sum.inr (s1.1))) ((0, 0))
@[reducible] noncomputable def iFbump_owns : FnI := { ps := [⟨(.pair (.int .i64) (.pair (.slice .u64) (.slice (.pair (.int .i64) (.pair (.int .i64) (.int .i64)))))), true, false, false⟩, ⟨(.int .i64), false, false, false⟩], rs := [⟨(.int .i64), false, true, false⟩], os := [], bk := [], F := fun x => Fbump_owns x.1 x.2 }
noncomputable def cFbump_owns : Cx := { nm := [(2, (2, 1)), (7, (3, 1))], keep := [], fns := tabF [], loops := [(0, { live := [(5, ⟨(.int .i64), false, false, false⟩), (11, ⟨(.int .i64), false, false, false⟩)], boxes := [], rows := [], dead := [7, 12, 13, 14, 15, 16, 17, 18, 19, 20, 21], lost := [], base := 3 })], joins := [], tb := tabs, exts := [], lets := [] }
theorem eFbump_owns : (fun x : HT iFbump_owns.ps => iFbump_owns.F x) = fun x => rk Try.prog cFbump_owns (Try.f56.body.getD .skip) (HT (iFbump_owns.rs ++ iFbump_owns.os)) 1000000 (finK Try.prog [.tmp 4] [] iFbump_owns.os (iFbump_owns.rs ++ iFbump_owns.os)) (initF iFbump_owns.ps iFbump_owns.sh x 23) (initL iFbump_owns.ps x 2) := by kernel_rfl
theorem okFbump_owns : CallsV Try.prog tabs 56 iFbump_owns :=
  callsV_of_rk (cx := cFbump_owns) (fn := Try.f56) (c := Try.f56.body.getD .skip) (n := 23) (N := 2) (rvs := [.tmp 4]) (cxOk TabOk.nil XtOk.nil) Try.func56 rfl (by kernel_rfl) rfl rfl (fun x => Nat.le_of_ble_eq_true rfl) (by decide) (fun x => congrFun eFbump_owns x)
noncomputable def Fbump_Valid (a0 : (Int × (List (BitVec 64)) × (List (Int × Int × Int)))) (a1 : (Int × Int × Int × Int × Int)) : Option Bool :=
Option.bind (Fframe_Valid a0) (fun r1 =>
if (!r1) = true then
some (false)
else if a1.1 < 0 then
some (false)
else if a1.1 > 4294967295 then
some (false)
else if a1.2.1 < 0 then
some (false)
else if a1.2.1 ≥ 4 then
some (false)
else if a1.2.2.2.2 < 0 then
some (false)
else if a1.2.2.2.2 = 0 then
if a1.2.2.1 = (-1) then
some (decide (a1.2.2.2.1 = (-1)))
else some (false)
else Option.bind (Fchain_List a0 a1.2.2.1) (fun r2 =>
if ¬ r2.2 = 0 then
some (false)
else if a1.2.2.2.2 > (a0.2.1.length : Int) then
some (false)
else if 0 ≤ (w64 ((r2.1.length : Int) - 1)) ∧ (w64 ((r2.1.length : Int) - 1)) < (r2.1.length : Int) then
if ¬ (gl (0 : Int) r2.1 ((w64 ((r2.1.length : Int) - 1)).toNat)) = a1.2.2.2.1 then
some (false)
else Option.bind (Fbump_Frames a0 a1) (fun r3 =>
if ¬ (r2.1.length : Int) = r3 then
some (false)
else Option.bind (Fbump_owns a0 a1.1) (fun r4 =>
if ¬ (r2.1.length : Int) = r4 then
some (false)
else if 0 ≤ a1.2.2.1 ∧ a1.2.2.1 < (a0.2.2.length : Int) then
if ((gl ((0, 0, 0) : (Int × Int × Int)) a0.2.2 a1.2.2.1.toNat).1) = a1.1 then
some (decide ((((gl ((0, 0, 0) : (Int × Int × Int)) a0.2.2 a1.2.2.1.toNat).2).1) = (w64 ((w64 (a1.2.1 * 4294967296)) + a1.1))))
else some (false)
else none))
else none))
@[reducible] noncomputable def iFbump_Valid : FnI := { ps := [⟨(.pair (.int .i64) (.pair (.slice .u64) (.slice (.pair (.int .i64) (.pair (.int .i64) (.int .i64)))))), true, false, false⟩, ⟨(.pair (.int .i64) (.pair (.int .i64) (.pair (.int .i64) (.pair (.int .i64) (.int .i64))))), true, false, false⟩], rs := [⟨.bool, false, true, false⟩], os := [], bk := [], F := fun x => Fbump_Valid x.1 x.2 }
noncomputable def cFbump_Valid : Cx := { nm := [(2, (2, 1)), (3, (3, 1)), (7, (5, 1)), (51, (4, 1))], keep := [], fns := tabF [(53, iFframe_Valid), (54, iFchain_List), (55, iFbump_Frames), (56, iFbump_owns)], loops := [], joins := [], tb := tabs, exts := [], lets := [] }
theorem eFbump_Valid : (fun x : HT iFbump_Valid.ps => iFbump_Valid.F x) = fun x => rk Try.prog cFbump_Valid (Try.f45.body.getD .skip) (HT (iFbump_Valid.rs ++ iFbump_Valid.os)) 1000000 (finK Try.prog [.tmp 4] [] iFbump_Valid.os (iFbump_Valid.rs ++ iFbump_Valid.os)) (initF iFbump_Valid.ps iFbump_Valid.sh x 114) (initL iFbump_Valid.ps x 4) := by kernel_rfl
theorem okFbump_Valid : CallsV Try.prog tabs 45 iFbump_Valid :=
  callsV_of_rk (cx := cFbump_Valid) (fn := Try.f45) (c := Try.f45.body.getD .skip) (n := 114) (N := 4) (rvs := [.tmp 4]) (cxOk (.cons okFframe_Valid (.cons okFchain_List (.cons okFbump_Frames (.cons okFbump_owns TabOk.nil)))) XtOk.nil) Try.func45 rfl (by kernel_rfl) rfl rfl (fun x => Nat.le_of_ble_eq_true rfl) (by decide) (fun x => congrFun eFbump_Valid x)
noncomputable def Fframe_bounded (a0 : (Int × (List (BitVec 64)) × (List (Int × Int × Int)))) : Option Bool :=
Option.bind (Fframe_shift a0.1) (fun r1 =>
if r1 = true then
some (decide ((a0.2.2.length : Int) ≤ 64))
else some (false))
@[reducible] noncomputable def iFframe_bounded : FnI := { ps := [⟨(.pair (.int .i64) (.pair (.slice .u64) (.slice (.pair (.int .i64) (.pair (.int .i64) (.int .i64)))))), true, false, false⟩], rs := [⟨.bool, false, true, false⟩], os := [], bk := [], F := fun x => Fframe_bounded x }
noncomputable def cFframe_bounded : Cx := { nm := [(1, (2, 1))], keep := [], fns := tabF [(61, iFframe_shift)], loops := [], joins := [], tb := tabs, exts := [], lets := [] }
theorem eFframe_bounded : (fun x : HT iFframe_bounded.ps => iFframe_bounded.F x) = fun x => rk Try.prog cFframe_bounded (Try.f57.body.getD .skip) (HT (iFframe_bounded.rs ++ iFframe_bounded.os)) 1000000 (finK Try.prog [.tmp 2] [] iFframe_bounded.os (iFframe_bounded.rs ++ iFframe_bounded.os)) (initF iFframe_bounded.ps iFframe_bounded.sh x 12) (initL iFframe_bounded.ps x 1) := by kernel_rfl
theorem okFframe_bounded : CallsV Try.prog tabs 57 iFframe_bounded :=
  callsV_of_rk (cx := cFframe_bounded) (fn := Try.f57) (c := Try.f57.body.getD .skip) (n := 12) (N := 1) (rvs := [.tmp 2]) (cxOk (.cons okFframe_shift TabOk.nil) XtOk.nil) Try.func57 rfl (by kernel_rfl) rfl rfl (fun x => Nat.le_of_ble_eq_true rfl) (by decide) (fun x => congrFun eFframe_bounded x)
noncomputable def Fframe_Base (a0 : (Int × (List (BitVec 64)) × (List (Int × Int × Int)))) (a1 : Int) : Option (Int × Int) :=
Option.bind (Fframe_bounded a0) (fun r1 =>
if (!r1) = true then
some ((0, 1))
else if a1 < 0 then
some ((0, 2))
else if a1 ≥ (a0.2.2.length : Int) then
some ((0, 2))
else if True then
some ((w64 (a1 * 2 ^ min (BitVec.ofInt 64 a0.1).toNat 64), 0))
else none)
@[reducible] noncomputable def iFframe_Base : FnI := { ps := [⟨(.pair (.int .i64) (.pair (.slice .u64) (.slice (.pair (.int .i64) (.pair (.int .i64) (.int .i64)))))), true, false, false⟩, ⟨(.int .i64), false, false, false⟩], rs := [⟨(.int .i64), false, true, false⟩, ⟨(.int .i64), false, true, false⟩], os := [], bk := [], F := fun x => Fframe_Base x.1 x.2 }
noncomputable def cFframe_Base : Cx := { nm := [(2, (2, 1))], keep := [], fns := tabF [(57, iFframe_bounded)], loops := [], joins := [], tb := tabs, exts := [], lets := [] }
theorem eFframe_Base : (fun x : HT iFframe_Base.ps => iFframe_Base.F x) = fun x => rk Try.prog cFframe_Base (Try.f46.body.getD .skip) (HT (iFframe_Base.rs ++ iFframe_Base.os)) 1000000 (finK Try.prog [.tmp 4, .tmp 5] [] iFframe_Base.os (iFframe_Base.rs ++ iFframe_Base.os)) (initF iFframe_Base.ps iFframe_Base.sh x 23) (initL iFframe_Base.ps x 1) := by kernel_rfl
theorem okFframe_Base : CallsV Try.prog tabs 46 iFframe_Base :=
  callsV_of_rk (cx := cFframe_Base) (fn := Try.f46) (c := Try.f46.body.getD .skip) (n := 23) (N := 1) (rvs := [.tmp 4, .tmp 5]) (cxOk (.cons okFframe_bounded TabOk.nil) XtOk.nil) Try.func46 rfl (by kernel_rfl) rfl rfl (fun x => Nat.le_of_ble_eq_true rfl) (by decide) (fun x => congrFun eFframe_Base x)
noncomputable def Fchain_Step (a0 : (Int × (List (BitVec 64)) × (List (Int × Int × Int)))) (a1 : Int) (a2 : Int) : Option (Int × Int) :=
Option.bind (Fframe_Valid a0) (fun r1 =>
if (!r1) = true then
some ((0, 1))
else if a1 < 0 then
some ((0, 2))
else if a1 ≥ (a0.2.1.length : Int) then
some ((0, 2))
else if a2 < 0 then
some ((0, 2))
else if True then
Option.bind (Fframe_Size a0) (fun r2 =>
Option.bind (Fframe_Size a0) (fun r3 =>
Option.bind (Fchain_free a0 (a1 / 2 ^ min (BitVec.ofInt 64 a0.1).toNat 64)) (fun r4 =>
if r4 = true then
some ((0, 5))
else if a2 > (a0.2.1.length : Int) then
some ((0, 2))
else loopO (σ := (Int × Int)) (β := (Int × Int)) (fun s1 =>
if s1.1 ≥ 0 then
if s1.2 < r3 then
if True then
some (Sum.inr ((w64 ((w64 (s1.1 * 2 ^ min (BitVec.ofInt 64 a0.1).toNat 64)) + s1.2), 0)))
else none
else if 0 ≤ s1.1 ∧ s1.1 < (a0.2.2.length : Int) then
some (Sum.inl ((((gl ((0, 0, 0) : (Int × Int × Int)) a0.2.2 s1.1.toNat).2).2, w64 (s1.2 - r3))))
else none
else some (Sum.inr ((0, 2)))) ((a1 / 2 ^ min (BitVec.ofInt 64 a0.1).toNat 64, w64 ((iBits .and a1 (w64 (r2 - 1))) + a2))))))
else none)
@[reducible] noncomputable def iFchain_Step : FnI := { ps := [⟨(.pair (.int .i64) (.pair (.slice .u64) (.slice (.pair (.int .i64) (.pair (.int .i64) (.int .i64)))))), true, false, false⟩, ⟨(.int .i64), false, false, false⟩, ⟨(.int .i64), false, false, false⟩], rs := [⟨(.int .i64), false, true, false⟩, ⟨(.int .i64), false, true, false⟩], os := [], bk := [], F := fun x => Fchain_Step x.1 x.2.1 x.2.2 }
noncomputable def cFchain_Step : Cx := { nm := [(3, (2, 1))], keep := [], fns := tabF [(53, iFframe_Valid), (58, iFframe_Size), (59, iFchain_free)], loops := [(0, { live := [(11, ⟨(.int .i64), false, false, false⟩), (12, ⟨(.int .i64), false, false, false⟩)], boxes := [], rows := [], dead := [6, 7, 53, 54, 55, 56, 57, 58, 59, 60, 61, 62, 63, 64, 65, 66, 67, 68, 69, 70, 71, 72, 73], lost := [], base := 3 })], joins := [], tb := tabs, exts := [], lets := [] }
theorem eFchain_Step : (fun x : HT iFchain_Step.ps => iFchain_Step.F x) = fun x => rk Try.prog cFchain_Step (Try.f47.body.getD .skip) (HT (iFchain_Step.rs ++ iFchain_Step.os)) 1000000 (finK Try.prog [.tmp 6, .tmp 7] [] iFchain_Step.os (iFchain_Step.rs ++ iFchain_Step.os)) (initF iFchain_Step.ps iFchain_Step.sh x 74) (initL iFchain_Step.ps x 1) := by kernel_rfl
theorem okFchain_Step : CallsV Try.prog tabs 47 iFchain_Step :=
  callsV_of_rk (cx := cFchain_Step) (fn := Try.f47) (c := Try.f47.body.getD .skip) (n := 74) (N := 1) (rvs := [.tmp 6, .tmp 7]) (cxOk (.cons okFframe_Valid (.cons okFframe_Size (.cons okFchain_free TabOk.nil))) XtOk.nil) Try.func47 rfl (by kernel_rfl) rfl rfl (fun x => Nat.le_of_ble_eq_true rfl) (by decide) (fun x => congrFun eFchain_Step x)
noncomputable def Fbits_valid (a0 : Int) (a1 : Int) : Option Bool :=
if a0 ≥ 0 then
if a1 ≥ 0 then
if a0 ≤ 64 then
some (decide (a1 ≤ (w64 ((64 : Int) - a0))))
else some (false)
else some (false)
else some (false)
@[reducible] noncomputable def iFbits_valid : FnI := { ps := [⟨(.int .i64), false, false, false⟩, ⟨(.int .i64), false, false, false⟩], rs := [⟨.bool, false, true, false⟩], os := [], bk := [], F := fun x => Fbits_valid x.1 x.2 }
noncomputable def cFbits_valid : Cx := { nm := [], keep := [], fns := tabF [], loops := [], joins := [], tb := tabs, exts := [], lets := [] }
theorem eFbits_valid : (fun x : HT iFbits_valid.ps => iFbits_valid.F x) = fun x => rk Try.prog cFbits_valid (Try.f66.body.getD .skip) (HT (iFbits_valid.rs ++ iFbits_valid.os)) 1000000 (finK Try.prog [.tmp 4] [] iFbits_valid.os (iFbits_valid.rs ++ iFbits_valid.os)) (initF iFbits_valid.ps iFbits_valid.sh x 21) (initL iFbits_valid.ps x 0) := by kernel_rfl
theorem okFbits_valid : CallsV Try.prog tabs 66 iFbits_valid :=
  callsV_of_rk (cx := cFbits_valid) (fn := Try.f66) (c := Try.f66.body.getD .skip) (n := 21) (N := 0) (rvs := [.tmp 4]) (cxOk TabOk.nil XtOk.nil) Try.func66 rfl (by kernel_rfl) rfl rfl (fun x => Nat.le_of_ble_eq_true rfl) (by decide) (fun x => congrFun eFbits_valid x)
noncomputable def Fbits_Mask (a0 : Int) : Option (BitVec 64) :=
if a0 < 0 then
some (0#64)
else if True then
some (~~~((18446744073709551615#64) <<< (BitVec.ofInt 64 a0).toNat))
else none
@[reducible] noncomputable def iFbits_Mask : FnI := { ps := [⟨(.int .i64), false, false, false⟩], rs := [⟨.u64, false, true, false⟩], os := [], bk := [], F := fun x => Fbits_Mask x }
noncomputable def cFbits_Mask : Cx := { nm := [], keep := [], fns := tabF [], loops := [], joins := [], tb := tabs, exts := [], lets := [] }
theorem eFbits_Mask : (fun x : HT iFbits_Mask.ps => iFbits_Mask.F x) = fun x => rk Try.prog cFbits_Mask (Try.f67.body.getD .skip) (HT (iFbits_Mask.rs ++ iFbits_Mask.os)) 1000000 (finK Try.prog [.tmp 2] [] iFbits_Mask.os (iFbits_Mask.rs ++ iFbits_Mask.os)) (initF iFbits_Mask.ps iFbits_Mask.sh x 9) (initL iFbits_Mask.ps x 0) := by kernel_rfl
theorem okFbits_Mask : CallsV Try.prog tabs 67 iFbits_Mask :=
  callsV_of_rk (cx := cFbits_Mask) (fn := Try.f67) (c := Try.f67.body.getD .skip) (n := 9) (N := 0) (rvs := [.tmp 2]) (cxOk TabOk.nil XtOk.nil) Try.func67 rfl (by kernel_rfl) rfl rfl (fun x => Nat.le_of_ble_eq_true rfl) (by decide) (fun x => congrFun eFbits_Mask x)
noncomputable def Fbits_Get (a0 : (BitVec 64)) (a1 : Int) (a2 : Int) : Option ((BitVec 64) × Int) :=
Option.bind (Fbits_valid a1 a2) (fun r1 =>
if (!r1) = true then
some ((0#64, 1))
else if True then
Option.bind (Fbits_Mask a2) (fun r2 =>
some (((a0 >>> (BitVec.ofInt 64 a1).toNat) &&& r2, 0)))
else none)
@[reducible] noncomputable def iFbits_Get : FnI := { ps := [⟨.u64, false, false, false⟩, ⟨(.int .i64), false, false, false⟩, ⟨(.int .i64), false, false, false⟩], rs := [⟨.u64, false, true, false⟩, ⟨(.int .i64), false, true, false⟩], os := [], bk := [], F := fun x => Fbits_Get x.1 x.2.1 x.2.2 }
noncomputable def cFbits_Get : Cx := { nm := [], keep := [], fns := tabF [(66, iFbits_valid), (67, iFbits_Mask)], loops := [], joins := [], tb := tabs, exts := [], lets := [] }
theorem eFbits_Get : (fun x : HT iFbits_Get.ps => iFbits_Get.F x) = fun x => rk Try.prog cFbits_Get (Try.f60.body.getD .skip) (HT (iFbits_Get.rs ++ iFbits_Get.os)) 1000000 (finK Try.prog [.tmp 6, .tmp 7] [] iFbits_Get.os (iFbits_Get.rs ++ iFbits_Get.os)) (initF iFbits_Get.ps iFbits_Get.sh x 19) (initL iFbits_Get.ps x 0) := by kernel_rfl
theorem okFbits_Get : CallsV Try.prog tabs 60 iFbits_Get :=
  callsV_of_rk (cx := cFbits_Get) (fn := Try.f60) (c := Try.f60.body.getD .skip) (n := 19) (N := 0) (rvs := [.tmp 6, .tmp 7]) (cxOk (.cons okFbits_valid (.cons okFbits_Mask TabOk.nil)) XtOk.nil) Try.func60 rfl (by kernel_rfl) rfl rfl (fun x => Nat.le_of_ble_eq_true rfl) (by decide) (fun x => congrFun eFbits_Get x)
noncomputable def Fheader_Decode (a0 : (BitVec 64)) : Option (Int × Int × Int × Bool × Int) :=
if (a0 &&& (1#64)) = (1#64) then
Option.bind (Fbits_Get a0 1 63) (fun r1 =>
if r1.1.toNat > (16383#64).toNat then
some ((0, 0, 0, false, 12))
else some ((0, 0, w64 ((r1.1.toNat : Int)), true, 0)))
else Option.bind (Fbits_Get a0 1 7) (fun r2 =>
Option.bind (Fbits_Get a0 8 56) (fun r3 =>
if r2.1.toNat > (15#64).toNat then
some ((0, 0, 0, false, 12))
else if r3.1.toNat < ((1#64) + r2.1).toNat then
some ((0, 0, 0, false, 12))
else if r3.1.toNat > (((1#64) + r2.1) + (32#64)).toNat then
some ((0, 0, 0, false, 12))
else some ((w64 ((r2.1.toNat : Int)), w64 ((((r3.1 - (1#64)) - r2.1).toNat : Int)), 0, false, 0))))
@[reducible] noncomputable def iFheader_Decode : FnI := { ps := [⟨.u64, false, false, false⟩], rs := [⟨(.int .i64), false, true, false⟩, ⟨(.int .i64), false, true, false⟩, ⟨(.int .i64), false, true, false⟩, ⟨.bool, false, true, false⟩, ⟨(.int .i64), false, true, false⟩], os := [], bk := [], F := fun x => Fheader_Decode x }
noncomputable def cFheader_Decode : Cx := { nm := [], keep := [], fns := tabF [(60, iFbits_Get)], loops := [], joins := [], tb := tabs, exts := [], lets := [] }
theorem eFheader_Decode : (fun x : HT iFheader_Decode.ps => iFheader_Decode.F x) = fun x => rk Try.prog cFheader_Decode (Try.f48.body.getD .skip) (HT (iFheader_Decode.rs ++ iFheader_Decode.os)) 1000000 (finK Try.prog [.tmp 2, .tmp 3, .tmp 4, .tmp 5, .tmp 6] [] iFheader_Decode.os (iFheader_Decode.rs ++ iFheader_Decode.os)) (initF iFheader_Decode.ps iFheader_Decode.sh x 57) (initL iFheader_Decode.ps x 0) := by kernel_rfl
theorem okFheader_Decode : CallsV Try.prog tabs 48 iFheader_Decode :=
  callsV_of_rk (cx := cFheader_Decode) (fn := Try.f48) (c := Try.f48.body.getD .skip) (n := 57) (N := 0) (rvs := [.tmp 2, .tmp 3, .tmp 4, .tmp 5, .tmp 6]) (cxOk (.cons okFbits_Get TabOk.nil) XtOk.nil) Try.func48 rfl (by kernel_rfl) rfl rfl (fun x => Nat.le_of_ble_eq_true rfl) (by decide) (fun x => congrFun eFheader_Decode x)
noncomputable def Fwalk_Objects_1 (a0 : Int) (a1 : Int) (a2 : (List Int)) : Option (Bool × (List Int)) :=
if (a2.length + ([a0] : List Int).length) * 8 ≤ 140737488355328 then
some ((true, a2 ++ ([a0] : List Int)))
else none
@[reducible] noncomputable def iFwalk_Objects_1 : FnI := { ps := [⟨(.int .i64), false, false, false⟩, ⟨(.int .i64), false, false, false⟩, ⟨(.slice (.int .i64)), false, true, true⟩], rs := [⟨.bool, false, true, false⟩], os := [⟨(.slice (.int .i64)), false, true, true⟩], bk := [0], F := fun x => Fwalk_Objects_1 x.1 x.2.1 x.2.2 }
noncomputable def cFwalk_Objects_1 : Cx := { nm := [(8, (2, 1)), (9, (3, 1))], keep := [9], fns := tabF [], loops := [], joins := [], tb := tabs, exts := [], lets := [] }
theorem eFwalk_Objects_1 : (fun x : HT iFwalk_Objects_1.ps => iFwalk_Objects_1.F x) = fun x => rk Try.prog cFwalk_Objects_1 (Try.f31.body.getD .skip) (HT (iFwalk_Objects_1.rs ++ iFwalk_Objects_1.os)) 1000000 (finK Try.prog [.tmp 5] [0] iFwalk_Objects_1.os (iFwalk_Objects_1.rs ++ iFwalk_Objects_1.os)) (initF iFwalk_Objects_1.ps iFwalk_Objects_1.sh x 10) (initL iFwalk_Objects_1.ps x 2) := by kernel_rfl
theorem okFwalk_Objects_1 : CallsV Try.prog tabs 31 iFwalk_Objects_1 :=
  callsV_of_rk (cx := cFwalk_Objects_1) (fn := Try.f31) (c := Try.f31.body.getD .skip) (n := 10) (N := 2) (rvs := [.tmp 5]) (cxOk TabOk.nil XtOk.nil) Try.func31 rfl (by kernel_rfl) rfl rfl (fun x => Nat.le_of_ble_eq_true rfl) (by decide) (fun x => congrFun eFwalk_Objects_1 x)
noncomputable def Fwalk_each_walk_Objects_1 (a0 : (Int × (List (BitVec 64)) × (List (Int × Int × Int)))) (a1 : (Int × Int × Int × Int × Int)) (a2 : (List Int)) : Option (Int × (List Int)) :=
Option.bind (Fbump_Valid a0 a1) (fun r1 =>
if (!r1) = true then
some ((1, a2))
else if a1.2.2.2.2 = 0 then
some ((0, a2))
else Option.bind (Fframe_Base a0 a1.2.2.1) (fun r2 =>
loopO (σ := (Int × (List Int))) (β := (Int × (List Int))) (fun s1 =>
if s1.1 < a1.2.2.2.2 then
Option.bind (Fchain_Step a0 r2.1 s1.1) (fun r3 =>
if ¬ r3.2 = 0 then
some (Sum.inr ((12, s1.2)))
else if 0 ≤ r3.1 ∧ r3.1 < (a0.2.1.length : Int) then
Option.bind (Fheader_Decode (gl (0#64 : (BitVec 64)) a0.2.1 r3.1.toNat)) (fun r4 =>
if ¬ r4.2.2.2.2 = 0 then
some (Sum.inr ((12, s1.2)))
else if r4.2.2.2.1 = true then
some (Sum.inr ((12, s1.2)))
else if (w64 ((w64 ((1 : Int) + r4.1)) + r4.2.1)) > (w64 (a1.2.2.2.2 - s1.1)) then
some (Sum.inr ((12, s1.2)))
else Option.bind (Fwalk_Objects_1 r3.1 (w64 ((w64 ((1 : Int) + r4.1)) + r4.2.1)) s1.2) (fun r5 =>
if (!r5.1) = true then
some (Sum.inr ((0, r5.2)))
else some (Sum.inl ((w64 (s1.1 + (w64 ((w64 ((1 : Int) + r4.1)) + r4.2.1))), r5.2)))))
else none)
else some (Sum.inr ((0, s1.2)))) ((0, a2))))
@[reducible] noncomputable def iFwalk_each_walk_Objects_1 : FnI := { ps := [⟨(.pair (.int .i64) (.pair (.slice .u64) (.slice (.pair (.int .i64) (.pair (.int .i64) (.int .i64)))))), true, false, false⟩, ⟨(.pair (.int .i64) (.pair (.int .i64) (.pair (.int .i64) (.pair (.int .i64) (.int .i64))))), true, false, false⟩, ⟨(.slice (.int .i64)), false, true, true⟩], rs := [⟨(.int .i64), false, true, false⟩], os := [⟨(.slice (.int .i64)), false, true, true⟩], bk := [2], sh := [.one, .one, .clo 31 1], F := fun x => Fwalk_each_walk_Objects_1 x.1 x.2.1 x.2.2 }
noncomputable def cFwalk_each_walk_Objects_1 : Cx := { nm := [(3, (4, 1)), (4, (5, 1)), (76, (6, 1))], keep := [], fns := tabF [(31, iFwalk_Objects_1), (45, iFbump_Valid), (46, iFframe_Base), (47, iFchain_Step), (48, iFheader_Decode)], loops := [(0, { live := [(9, ⟨(.int .i64), false, false, false⟩)], boxes := [(2, ⟨(.slice (.int .i64)), false, true, false⟩)], rows := [], dead := [6, 10, 11, 12, 13, 14, 15, 16, 31, 32, 33, 34, 35, 36, 37, 38, 39, 40, 41, 42, 43, 44, 45, 46, 47, 48, 49, 50, 51, 52, 53, 54, 55, 56, 57, 58, 59, 60, 61, 62, 63, 64, 65, 66, 67, 68, 69, 70, 71, 72, 73, 74, 75, 76, 77, 78, 79, 80], lost := [3], base := 7 })], joins := [], tb := tabs, exts := [], lets := [] }
theorem eFwalk_each_walk_Objects_1 : (fun x : HT iFwalk_each_walk_Objects_1.ps => iFwalk_each_walk_Objects_1.F x) = fun x => rk Try.prog cFwalk_each_walk_Objects_1 (Try.f30.body.getD .skip) (HT (iFwalk_each_walk_Objects_1.rs ++ iFwalk_each_walk_Objects_1.os)) 1000000 (finK Try.prog [.tmp 6] [2] iFwalk_each_walk_Objects_1.os (iFwalk_each_walk_Objects_1.rs ++ iFwalk_each_walk_Objects_1.os)) (initF iFwalk_each_walk_Objects_1.ps iFwalk_each_walk_Objects_1.sh x 81) (initL iFwalk_each_walk_Objects_1.ps x 4) := by kernel_rfl
theorem okFwalk_each_walk_Objects_1 : CallsV Try.prog tabs 30 iFwalk_each_walk_Objects_1 :=
  callsV_of_rk (cx := cFwalk_each_walk_Objects_1) (fn := Try.f30) (c := Try.f30.body.getD .skip) (n := 81) (N := 4) (rvs := [.tmp 6]) (cxOk (.cons okFwalk_Objects_1 (.cons okFbump_Valid (.cons okFframe_Base (.cons okFchain_Step (.cons okFheader_Decode TabOk.nil))))) XtOk.nil) Try.func30 rfl (by kernel_rfl) rfl rfl (fun x => Nat.le_of_ble_eq_true rfl) (by decide) (fun x => congrFun eFwalk_each_walk_Objects_1 x)
noncomputable def Fwalk_Objects (a0 : (Int × (List (BitVec 64)) × (List (Int × Int × Int)))) (a1 : (Int × Int × Int × Int × Int)) : Option ((List Int) × Int) :=
Option.bind (Fwalk_each_walk_Objects_1 a0 a1 []) (fun r1 =>
if ¬ r1.1 = 0 then
some (([], r1.1))
else some ((r1.2, 0)))
@[reducible] noncomputable def iFwalk_Objects : FnI := { ps := [⟨(.pair (.int .i64) (.pair (.slice .u64) (.slice (.pair (.int .i64) (.pair (.int .i64) (.int .i64)))))), true, false, false⟩, ⟨(.pair (.int .i64) (.pair (.int .i64) (.pair (.int .i64) (.pair (.int .i64) (.int .i64))))), true, false, false⟩], rs := [⟨(.slice (.int .i64)), false, true, false⟩, ⟨(.int .i64), false, true, false⟩], os := [], bk := [], F := fun x => Fwalk_Objects x.1 x.2 }
noncomputable def cFwalk_Objects : Cx := { nm := [(2, (2, 1)), (3, (3, 1)), (6, (4, 1)), (11, (5, 1))], keep := [], fns := tabF [(30, iFwalk_each_walk_Objects_1)], loops := [], joins := [], tb := tabs, exts := [], lets := [] }
theorem eFwalk_Objects : (fun x : HT iFwalk_Objects.ps => iFwalk_Objects.F x) = fun x => rk Try.prog cFwalk_Objects (Try.f12.body.getD .skip) (HT (iFwalk_Objects.rs ++ iFwalk_Objects.os)) 1000000 (finK Try.prog [.tmp 4, .tmp 5] [] iFwalk_Objects.os (iFwalk_Objects.rs ++ iFwalk_Objects.os)) (initF iFwalk_Objects.ps iFwalk_Objects.sh x 16) (initL iFwalk_Objects.ps x 4) := by kernel_rfl
theorem okFwalk_Objects : CallsV Try.prog tabs 12 iFwalk_Objects :=
  callsV_of_rk (cx := cFwalk_Objects) (fn := Try.f12) (c := Try.f12.body.getD .skip) (n := 16) (N := 4) (rvs := [.tmp 4, .tmp 5]) (cxOk (.cons okFwalk_each_walk_Objects_1 TabOk.nil) XtOk.nil) Try.func12 rfl (by kernel_rfl) rfl rfl (fun x => Nat.le_of_ble_eq_true rfl) (by decide) (fun x => congrFun eFwalk_Objects x)
noncomputable def Fwalk_Holds_1 (a0 : Int) (a1 : Int) (a2 : Bool) (a3 : Int) : Option (Bool × Bool × Int) :=
if a2 = true then
some ((true, true, a3))
else some ((true, decide (a0 = a3), a3))
@[reducible] noncomputable def iFwalk_Holds_1 : FnI := { ps := [⟨(.int .i64), false, false, false⟩, ⟨(.int .i64), false, false, false⟩, ⟨.bool, false, false, true⟩, ⟨(.int .i64), false, false, true⟩], rs := [⟨.bool, false, true, false⟩], os := [⟨.bool, false, false, true⟩, ⟨(.int .i64), false, false, true⟩], bk := [0, 1], F := fun x => Fwalk_Holds_1 x.1 x.2.1 x.2.2.1 x.2.2.2 }
noncomputable def cFwalk_Holds_1 : Cx := { nm := [], keep := [], fns := tabF [], loops := [], joins := [], tb := tabs, exts := [], lets := [] }
theorem eFwalk_Holds_1 : (fun x : HT iFwalk_Holds_1.ps => iFwalk_Holds_1.F x) = fun x => rk Try.prog cFwalk_Holds_1 (Try.f32.body.getD .skip) (HT (iFwalk_Holds_1.rs ++ iFwalk_Holds_1.os)) 1000000 (finK Try.prog [.tmp 6] [0, 1] iFwalk_Holds_1.os (iFwalk_Holds_1.rs ++ iFwalk_Holds_1.os)) (initF iFwalk_Holds_1.ps iFwalk_Holds_1.sh x 13) (initL iFwalk_Holds_1.ps x 0) := by kernel_rfl
theorem okFwalk_Holds_1 : CallsV Try.prog tabs 32 iFwalk_Holds_1 :=
  callsV_of_rk (cx := cFwalk_Holds_1) (fn := Try.f32) (c := Try.f32.body.getD .skip) (n := 13) (N := 0) (rvs := [.tmp 6]) (cxOk TabOk.nil XtOk.nil) Try.func32 rfl (by kernel_rfl) rfl rfl (fun x => Nat.le_of_ble_eq_true rfl) (by decide) (fun x => congrFun eFwalk_Holds_1 x)
noncomputable def Fwalk_each_walk_Holds_1 (a0 : (Int × (List (BitVec 64)) × (List (Int × Int × Int)))) (a1 : (Int × Int × Int × Int × Int)) (a2 : Bool) (a3 : Int) : Option (Int × Bool × Int) :=
Option.bind (Fbump_Valid a0 a1) (fun r1 =>
if (!r1) = true then
some ((1, a2, a3))
else if a1.2.2.2.2 = 0 then
some ((0, a2, a3))
else Option.bind (Fframe_Base a0 a1.2.2.1) (fun r2 =>
loopO (σ := (Int × Bool × Int)) (β := (Int × Bool × Int)) (fun s1 =>
if s1.1 < a1.2.2.2.2 then
Option.bind (Fchain_Step a0 r2.1 s1.1) (fun r3 =>
if ¬ r3.2 = 0 then
some (Sum.inr ((12, s1.2.1, s1.2.2)))
else if 0 ≤ r3.1 ∧ r3.1 < (a0.2.1.length : Int) then
Option.bind (Fheader_Decode (gl (0#64 : (BitVec 64)) a0.2.1 r3.1.toNat)) (fun r4 =>
if ¬ r4.2.2.2.2 = 0 then
some (Sum.inr ((12, s1.2.1, s1.2.2)))
else if r4.2.2.2.1 = true then
some (Sum.inr ((12, s1.2.1, s1.2.2)))
else if (w64 ((w64 ((1 : Int) + r4.1)) + r4.2.1)) > (w64 (a1.2.2.2.2 - s1.1)) then
some (Sum.inr ((12, s1.2.1, s1.2.2)))
else Option.bind (Fwalk_Holds_1 r3.1 (w64 ((w64 ((1 : Int) + r4.1)) + r4.2.1)) s1.2.1 s1.2.2) (fun r5 =>
if (!r5.1) = true then
some (Sum.inr ((0, r5.2.1, r5.2.2)))
else some (Sum.inl ((w64 (s1.1 + (w64 ((w64 ((1 : Int) + r4.1)) + r4.2.1))), r5.2.1, r5.2.2)))))
else none)
else some (Sum.inr ((0, s1.2.1, s1.2.2)))) ((0, a2, a3))))
@[reducible] noncomputable def iFwalk_each_walk_Holds_1 : FnI := { ps := [⟨(.pair (.int .i64) (.pair (.slice .u64) (.slice (.pair (.int .i64) (.pair (.int .i64) (.int .i64)))))), true, false, false⟩, ⟨(.pair (.int .i64) (.pair (.int .i64) (.pair (.int .i64) (.pair (.int .i64) (.int .i64))))), true, false, false⟩, ⟨.bool, false, false, true⟩, ⟨(.int .i64), false, false, true⟩], rs := [⟨(.int .i64), false, true, false⟩], os := [⟨.bool, false, false, true⟩, ⟨(.int .i64), false, false, true⟩], bk := [2, 3], sh := [.one, .one, .clo 32 2], F := fun x => Fwalk_each_walk_Holds_1 x.1 x.2.1 x.2.2.1 x.2.2.2 }
noncomputable def cFwalk_each_walk_Holds_1 : Cx := { nm := [(3, (4, 1)), (4, (5, 1))], keep := [], fns := tabF [(32, iFwalk_Holds_1), (45, iFbump_Valid), (46, iFframe_Base), (47, iFchain_Step), (48, iFheader_Decode)], loops := [(0, { live := [(9, ⟨(.int .i64), false, false, false⟩)], boxes := [(2, ⟨.bool, false, false, false⟩), (3, ⟨(.int .i64), false, false, false⟩)], rows := [], dead := [6, 10, 11, 12, 13, 14, 15, 16, 31, 32, 33, 34, 35, 36, 37, 38, 39, 40, 41, 42, 43, 44, 45, 46, 47, 48, 49, 50, 51, 52, 53, 54, 55, 56, 57, 58, 59, 60, 61, 62, 63, 64, 65, 66, 67, 68, 69, 70, 71, 72, 73, 74, 75, 76, 77, 78, 79, 80], lost := [], base := 6 })], joins := [], tb := tabs, exts := [], lets := [] }
theorem eFwalk_each_walk_Holds_1 : (fun x : HT iFwalk_each_walk_Holds_1.ps => iFwalk_each_walk_Holds_1.F x) = fun x => rk Try.prog cFwalk_each_walk_Holds_1 (Try.f30.body.getD .skip) (HT (iFwalk_each_walk_Holds_1.rs ++ iFwalk_each_walk_Holds_1.os)) 1000000 (finK Try.prog [.tmp 6] [2, 3] iFwalk_each_walk_Holds_1.os (iFwalk_each_walk_Holds_1.rs ++ iFwalk_each_walk_Holds_1.os)) (initF iFwalk_each_walk_Holds_1.ps iFwalk_each_walk_Holds_1.sh x 81) (initL iFwalk_each_walk_Holds_1.ps x 2) := by kernel_rfl
theorem okFwalk_each_walk_Holds_1 : CallsV Try.prog tabs 30 iFwalk_each_walk_Holds_1 :=
  callsV_of_rk (cx := cFwalk_each_walk_Holds_1) (fn := Try.f30) (c := Try.f30.body.getD .skip) (n := 81) (N := 2) (rvs := [.tmp 6]) (cxOk (.cons okFwalk_Holds_1 (.cons okFbump_Valid (.cons okFframe_Base (.cons okFchain_Step (.cons okFheader_Decode TabOk.nil))))) XtOk.nil) Try.func30 rfl (by kernel_rfl) rfl rfl (fun x => Nat.le_of_ble_eq_true rfl) (by decide) (fun x => congrFun eFwalk_each_walk_Holds_1 x)
noncomputable def Fwalk_Holds (a0 : (Int × (List (BitVec 64)) × (List (Int × Int × Int)))) (a1 : (Int × Int × Int × Int × Int)) (a2 : Int) : Option Bool :=
Option.bind (Fwalk_each_walk_Holds_1 a0 a1 false a2) (fun r1 =>
if r1.1 = 0 then
some (r1.2.1)
else some (false))
@[reducible] noncomputable def iFwalk_Holds : FnI := { ps := [⟨(.pair (.int .i64) (.pair (.slice .u64) (.slice (.pair (.int .i64) (.pair (.int .i64) (.int .i64)))))), true, false, false⟩, ⟨(.pair (.int .i64) (.pair (.int .i64) (.pair (.int .i64) (.pair (.int .i64) (.int .i64))))), true, false, false⟩, ⟨(.int .i64), false, false, false⟩], rs := [⟨.bool, false, true, false⟩], os := [], bk := [], F := fun x => Fwalk_Holds x.1 x.2.1 x.2.2 }
noncomputable def cFwalk_Holds : Cx := { nm := [(3, (2, 1)), (4, (3, 1)), (5, (4, 1)), (7, (5, 1))], keep := [], fns := tabF [(30, iFwalk_each_walk_Holds_1)], loops := [], joins := [], tb := tabs, exts := [], lets := [] }
theorem eFwalk_Holds : (fun x : HT iFwalk_Holds.ps => iFwalk_Holds.F x) = fun x => rk Try.prog cFwalk_Holds (Try.f14.body.getD .skip) (HT (iFwalk_Holds.rs ++ iFwalk_Holds.os)) 1000000 (finK Try.prog [.tmp 6] [] iFwalk_Holds.os (iFwalk_Holds.rs ++ iFwalk_Holds.os)) (initF iFwalk_Holds.ps iFwalk_Holds.sh x 18) (initL iFwalk_Holds.ps x 4) := by kernel_rfl
theorem okFwalk_Holds : CallsV Try.prog tabs 14 iFwalk_Holds :=
  callsV_of_rk (cx := cFwalk_Holds) (fn := Try.f14) (c := Try.f14.body.getD .skip) (n := 18) (N := 4) (rvs := [.tmp 6]) (cxOk (.cons okFwalk_each_walk_Holds_1 TabOk.nil) XtOk.nil) Try.func14 rfl (by kernel_rfl) rfl rfl (fun x => Nat.le_of_ble_eq_true rfl) (by decide) (fun x => congrFun eFwalk_Holds x)
noncomputable def Fbeltwaylaw10_awake  : Option Bool :=
Option.bind (Fbeltwayref03_New 3 4) (fun r1 =>
Option.bind (Fbeltwayref09_Alloc r1.1 (0, 0, (-1), (-1), 0) 5) (fun r2 =>
Option.bind (Fbeltwayref08_Init r2.1 r2.2.2.1 1 3) (fun r3 =>
Option.bind (Fbeltwayref09_Alloc r3.1 r2.2.1 6) (fun r4 =>
Option.bind (Fbeltwayref08_Init r4.1 r4.2.2.1 0 5) (fun r5 =>
Option.bind (Fwalk_Objects r5.1 r4.2.1) (fun r6 =>
if r6.2 = 0 then
if (r6.1.length : Int) = 2 then
if 0 ≤ (0 : Int) ∧ (0 : Int) < (r6.1.length : Int) then
if (gl (0 : Int) r6.1 ((0 : Int).toNat)) = r2.2.2.1 then
if 0 ≤ (1 : Int) ∧ (1 : Int) < (r6.1.length : Int) then
if (gl (0 : Int) r6.1 ((1 : Int).toNat)) = r4.2.2.1 then
Option.bind (Fwalk_Holds r5.1 r4.2.1 r4.2.2.1) (fun r7 =>
if r7 = true then
Option.bind (Fwalk_Holds r5.1 r4.2.1 (w64 (r4.2.2.1 + 1))) (fun r8 =>
some (!r8))
else some (false))
else some (false)
else none
else some (false)
else none
else some (false)
else some (false)))))))
@[reducible] noncomputable def iFbeltwaylaw10_awake : FnI := { ps := [], rs := [⟨.bool, false, true, false⟩], os := [], bk := [], F := fun x => Fbeltwaylaw10_awake  }
noncomputable def cFbeltwaylaw10_awake : Cx := { nm := [(1, (2, 1)), (3, (5, 1)), (11, (0, 2)), (17, (3, 2)), (25, (6, 2)), (31, (8, 2)), (39, (10, 2)), (45, (12, 1))], keep := [], fns := tabF [(10, iFbeltwayref09_Alloc), (11, iFbeltwayref08_Init), (12, iFwalk_Objects), (14, iFwalk_Holds), (21, iFbeltwayref03_New)], loops := [], joins := [], tb := tabs, exts := [], lets := [] }
theorem eFbeltwaylaw10_awake : (fun x : HT iFbeltwaylaw10_awake.ps => iFbeltwaylaw10_awake.F x) = fun x => rk Try.prog cFbeltwaylaw10_awake (Try.f8.body.getD .skip) (HT (iFbeltwaylaw10_awake.rs ++ iFbeltwaylaw10_awake.os)) 1000000 (finK Try.prog [.tmp 0] [] iFbeltwaylaw10_awake.os (iFbeltwaylaw10_awake.rs ++ iFbeltwaylaw10_awake.os)) (initF iFbeltwaylaw10_awake.ps iFbeltwaylaw10_awake.sh x 83) (initL iFbeltwaylaw10_awake.ps x 13) := by kernel_rfl
theorem okFbeltwaylaw10_awake : CallsV Try.prog tabs 8 iFbeltwaylaw10_awake :=
  callsV_of_rk (cx := cFbeltwaylaw10_awake) (fn := Try.f8) (c := Try.f8.body.getD .skip) (n := 83) (N := 13) (rvs := [.tmp 0]) (cxOk (.cons okFbeltwayref09_Alloc (.cons okFbeltwayref08_Init (.cons okFwalk_Objects (.cons okFwalk_Holds (.cons okFbeltwayref03_New TabOk.nil))))) XtOk.nil) Try.func8 rfl (by kernel_rfl) rfl rfl (fun x => Nat.le_of_ble_eq_true rfl) (by decide) (fun x => congrFun eFbeltwaylaw10_awake x)
noncomputable def Fwalk_Live_1 (a0 : Int) (a1 : Int) (a2 : Int) (a3 : Int) : Option (Bool × Int × Int) :=
some ((true, w64 (a2 + 1), w64 (a3 + a1)))
@[reducible] noncomputable def iFwalk_Live_1 : FnI := { ps := [⟨(.int .i64), false, false, false⟩, ⟨(.int .i64), false, false, false⟩, ⟨(.int .i64), false, false, true⟩, ⟨(.int .i64), false, false, true⟩], rs := [⟨.bool, false, true, false⟩], os := [⟨(.int .i64), false, false, true⟩, ⟨(.int .i64), false, false, true⟩], bk := [0, 1], F := fun x => Fwalk_Live_1 x.1 x.2.1 x.2.2.1 x.2.2.2 }
noncomputable def cFwalk_Live_1 : Cx := { nm := [], keep := [], fns := tabF [], loops := [], joins := [], tb := tabs, exts := [], lets := [] }
theorem eFwalk_Live_1 : (fun x : HT iFwalk_Live_1.ps => iFwalk_Live_1.F x) = fun x => rk Try.prog cFwalk_Live_1 (Try.f35.body.getD .skip) (HT (iFwalk_Live_1.rs ++ iFwalk_Live_1.os)) 1000000 (finK Try.prog [.tmp 6] [0, 1] iFwalk_Live_1.os (iFwalk_Live_1.rs ++ iFwalk_Live_1.os)) (initF iFwalk_Live_1.ps iFwalk_Live_1.sh x 12) (initL iFwalk_Live_1.ps x 0) := by kernel_rfl
theorem okFwalk_Live_1 : CallsV Try.prog tabs 35 iFwalk_Live_1 :=
  callsV_of_rk (cx := cFwalk_Live_1) (fn := Try.f35) (c := Try.f35.body.getD .skip) (n := 12) (N := 0) (rvs := [.tmp 6]) (cxOk TabOk.nil XtOk.nil) Try.func35 rfl (by kernel_rfl) rfl rfl (fun x => Nat.le_of_ble_eq_true rfl) (by decide) (fun x => congrFun eFwalk_Live_1 x)
noncomputable def Fwalk_each_walk_Live_1 (a0 : (Int × (List (BitVec 64)) × (List (Int × Int × Int)))) (a1 : (Int × Int × Int × Int × Int)) (a2 : Int) (a3 : Int) : Option (Int × Int × Int) :=
Option.bind (Fbump_Valid a0 a1) (fun r1 =>
if (!r1) = true then
some ((1, a2, a3))
else if a1.2.2.2.2 = 0 then
some ((0, a2, a3))
else Option.bind (Fframe_Base a0 a1.2.2.1) (fun r2 =>
loopO (σ := (Int × Int × Int)) (β := (Int × Int × Int)) (fun s1 =>
if s1.1 < a1.2.2.2.2 then
Option.bind (Fchain_Step a0 r2.1 s1.1) (fun r3 =>
if ¬ r3.2 = 0 then
some (Sum.inr ((12, s1.2.1, s1.2.2)))
else if 0 ≤ r3.1 ∧ r3.1 < (a0.2.1.length : Int) then
Option.bind (Fheader_Decode (gl (0#64 : (BitVec 64)) a0.2.1 r3.1.toNat)) (fun r4 =>
if ¬ r4.2.2.2.2 = 0 then
some (Sum.inr ((12, s1.2.1, s1.2.2)))
else if r4.2.2.2.1 = true then
some (Sum.inr ((12, s1.2.1, s1.2.2)))
else if (w64 ((w64 ((1 : Int) + r4.1)) + r4.2.1)) > (w64 (a1.2.2.2.2 - s1.1)) then
some (Sum.inr ((12, s1.2.1, s1.2.2)))
else Option.bind (Fwalk_Live_1 r3.1 (w64 ((w64 ((1 : Int) + r4.1)) + r4.2.1)) s1.2.1 s1.2.2) (fun r5 =>
if (!r5.1) = true then
some (Sum.inr ((0, r5.2.1, r5.2.2)))
else some (Sum.inl ((w64 (s1.1 + (w64 ((w64 ((1 : Int) + r4.1)) + r4.2.1))), r5.2.1, r5.2.2)))))
else none)
else some (Sum.inr ((0, s1.2.1, s1.2.2)))) ((0, a2, a3))))
@[reducible] noncomputable def iFwalk_each_walk_Live_1 : FnI := { ps := [⟨(.pair (.int .i64) (.pair (.slice .u64) (.slice (.pair (.int .i64) (.pair (.int .i64) (.int .i64)))))), true, false, false⟩, ⟨(.pair (.int .i64) (.pair (.int .i64) (.pair (.int .i64) (.pair (.int .i64) (.int .i64))))), true, false, false⟩, ⟨(.int .i64), false, false, true⟩, ⟨(.int .i64), false, false, true⟩], rs := [⟨(.int .i64), false, true, false⟩], os := [⟨(.int .i64), false, false, true⟩, ⟨(.int .i64), false, false, true⟩], bk := [2, 3], sh := [.one, .one, .clo 35 2], F := fun x => Fwalk_each_walk_Live_1 x.1 x.2.1 x.2.2.1 x.2.2.2 }
noncomputable def cFwalk_each_walk_Live_1 : Cx := { nm := [(3, (4, 1)), (4, (5, 1))], keep := [], fns := tabF [(35, iFwalk_Live_1), (45, iFbump_Valid), (46, iFframe_Base), (47, iFchain_Step), (48, iFheader_Decode)], loops := [(0, { live := [(9, ⟨(.int .i64), false, false, false⟩)], boxes := [(2, ⟨(.int .i64), false, false, false⟩), (3, ⟨(.int .i64), false, false, false⟩)], rows := [], dead := [6, 10, 11, 12, 13, 14, 15, 16, 31, 32, 33, 34, 35, 36, 37, 38, 39, 40, 41, 42, 43, 44, 45, 46, 47, 48, 49, 50, 51, 52, 53, 54, 55, 56, 57, 58, 59, 60, 61, 62, 63, 64, 65, 66, 67, 68, 69, 70, 71, 72, 73, 74, 75, 76, 77, 78, 79, 80], lost := [], base := 6 })], joins := [], tb := tabs, exts := [], lets := [] }
theorem eFwalk_each_walk_Live_1 : (fun x : HT iFwalk_each_walk_Live_1.ps => iFwalk_each_walk_Live_1.F x) = fun x => rk Try.prog cFwalk_each_walk_Live_1 (Try.f30.body.getD .skip) (HT (iFwalk_each_walk_Live_1.rs ++ iFwalk_each_walk_Live_1.os)) 1000000 (finK Try.prog [.tmp 6] [2, 3] iFwalk_each_walk_Live_1.os (iFwalk_each_walk_Live_1.rs ++ iFwalk_each_walk_Live_1.os)) (initF iFwalk_each_walk_Live_1.ps iFwalk_each_walk_Live_1.sh x 81) (initL iFwalk_each_walk_Live_1.ps x 2) := by kernel_rfl
theorem okFwalk_each_walk_Live_1 : CallsV Try.prog tabs 30 iFwalk_each_walk_Live_1 :=
  callsV_of_rk (cx := cFwalk_each_walk_Live_1) (fn := Try.f30) (c := Try.f30.body.getD .skip) (n := 81) (N := 2) (rvs := [.tmp 6]) (cxOk (.cons okFwalk_Live_1 (.cons okFbump_Valid (.cons okFframe_Base (.cons okFchain_Step (.cons okFheader_Decode TabOk.nil))))) XtOk.nil) Try.func30 rfl (by kernel_rfl) rfl rfl (fun x => Nat.le_of_ble_eq_true rfl) (by decide) (fun x => congrFun eFwalk_each_walk_Live_1 x)
noncomputable def Fwalk_Live (a0 : (Int × (List (BitVec 64)) × (List (Int × Int × Int)))) (a1 : (Int × Int × Int × Int × Int)) : Option (Int × Int × Int) :=
Option.bind (Fwalk_each_walk_Live_1 a0 a1 0 0) (fun r1 =>
if ¬ r1.1 = 0 then
some ((0, 0, r1.1))
else some ((r1.2.1, r1.2.2, 0)))
@[reducible] noncomputable def iFwalk_Live : FnI := { ps := [⟨(.pair (.int .i64) (.pair (.slice .u64) (.slice (.pair (.int .i64) (.pair (.int .i64) (.int .i64)))))), true, false, false⟩, ⟨(.pair (.int .i64) (.pair (.int .i64) (.pair (.int .i64) (.pair (.int .i64) (.int .i64))))), true, false, false⟩], rs := [⟨(.int .i64), false, true, false⟩, ⟨(.int .i64), false, true, false⟩, ⟨(.int .i64), false, true, false⟩], os := [], bk := [], F := fun x => Fwalk_Live x.1 x.2 }
noncomputable def cFwalk_Live : Cx := { nm := [(2, (2, 1)), (3, (3, 1)), (7, (4, 1)), (8, (5, 1))], keep := [], fns := tabF [(30, iFwalk_each_walk_Live_1)], loops := [], joins := [], tb := tabs, exts := [], lets := [] }
theorem eFwalk_Live : (fun x : HT iFwalk_Live.ps => iFwalk_Live.F x) = fun x => rk Try.prog cFwalk_Live (Try.f18.body.getD .skip) (HT (iFwalk_Live.rs ++ iFwalk_Live.os)) 1000000 (finK Try.prog [.tmp 4, .tmp 5, .tmp 6] [] iFwalk_Live.os (iFwalk_Live.rs ++ iFwalk_Live.os)) (initF iFwalk_Live.ps iFwalk_Live.sh x 19) (initL iFwalk_Live.ps x 4) := by kernel_rfl
theorem okFwalk_Live : CallsV Try.prog tabs 18 iFwalk_Live :=
  callsV_of_rk (cx := cFwalk_Live) (fn := Try.f18) (c := Try.f18.body.getD .skip) (n := 19) (N := 4) (rvs := [.tmp 4, .tmp 5, .tmp 6]) (cxOk (.cons okFwalk_each_walk_Live_1 TabOk.nil) XtOk.nil) Try.func18 rfl (by kernel_rfl) rfl rfl (fun x => Nat.le_of_ble_eq_true rfl) (by decide) (fun x => congrFun eFwalk_Live x)
noncomputable def Fbeltwaylaw10_WalkWhole (a0 : (List Int)) (a1 : Int) : Option Bool :=
Option.bind (Fbeltwaymake_New a0) (fun r1 =>
Option.bind (Fbeltwaymake_Space r1) (fun r2 =>
if (r2.2.1.length : Int) = 0 then
Option.bind (Fbeltwaylaw10_awake) (fun r3 =>
some (r3))
else Option.bind (Fbeltwaymake_Mod a1 (r2.2.1.length : Int)) (fun r4 =>
if 0 ≤ r4 ∧ r4 < (r2.2.1.length : Int) then
Option.bind (Fwalk_Objects r2.1 ((gl ((0, 0, 0, 0, 0) : (Int × Int × Int × Int × Int)) r2.2.1 r4.toNat).1, ((gl ((0, 0, 0, 0, 0) : (Int × Int × Int × Int × Int)) r2.2.1 r4.toNat).2).1, (((gl ((0, 0, 0, 0, 0) : (Int × Int × Int × Int × Int)) r2.2.1 r4.toNat).2).2).1, ((((gl ((0, 0, 0, 0, 0) : (Int × Int × Int × Int × Int)) r2.2.1 r4.toNat).2).2).2))) (fun r5 =>
Option.bind (Fwalk_Live r2.1 ((gl ((0, 0, 0, 0, 0) : (Int × Int × Int × Int × Int)) r2.2.1 r4.toNat).1, ((gl ((0, 0, 0, 0, 0) : (Int × Int × Int × Int × Int)) r2.2.1 r4.toNat).2).1, (((gl ((0, 0, 0, 0, 0) : (Int × Int × Int × Int × Int)) r2.2.1 r4.toNat).2).2).1, ((((gl ((0, 0, 0, 0, 0) : (Int × Int × Int × Int × Int)) r2.2.1 r4.toNat).2).2).2))) (fun r6 =>
if ¬ r5.2 = 0 then
some (false)
else if ¬ r6.2.2 = 0 then
some (false)
else if ¬ r6.1 = (r5.1.length : Int) then
some (false)
else if ¬ r6.2.1 = (((((gl ((0, 0, 0, 0, 0) : (Int × Int × Int × Int × Int)) r2.2.1 r4.toNat).2).2).2).2) then
some (false)
else loopO (σ := (Int × Int)) (β := Bool) (fun s1 =>
if s1.2 ≤ (r2.1.2.1.length : Int) then
Option.bind (Fwalk_Holds r2.1 ((gl ((0, 0, 0, 0, 0) : (Int × Int × Int × Int × Int)) r2.2.1 r4.toNat).1, ((gl ((0, 0, 0, 0, 0) : (Int × Int × Int × Int × Int)) r2.2.1 r4.toNat).2).1, (((gl ((0, 0, 0, 0, 0) : (Int × Int × Int × Int × Int)) r2.2.1 r4.toNat).2).2).1, ((((gl ((0, 0, 0, 0, 0) : (Int × Int × Int × Int × Int)) r2.2.1 r4.toNat).2).2).2)) s1.2) (fun r7 =>
if r7 = true then
some (Sum.inl ((w64 (s1.1 + 1), w64 (s1.2 + 1))))
else some (Sum.inl ((s1.1, w64 (s1.2 + 1)))))
else Option.map Sum.inr (loopO (σ := Int) (β := Bool) (fun s2 =>
if s2 < (r5.1.length : Int) then
if 0 ≤ s2 ∧ s2 < (r5.1.length : Int) then
Option.bind (Fwalk_Holds r2.1 ((gl ((0, 0, 0, 0, 0) : (Int × Int × Int × Int × Int)) r2.2.1 r4.toNat).1, ((gl ((0, 0, 0, 0, 0) : (Int × Int × Int × Int × Int)) r2.2.1 r4.toNat).2).1, (((gl ((0, 0, 0, 0, 0) : (Int × Int × Int × Int × Int)) r2.2.1 r4.toNat).2).2).1, ((((gl ((0, 0, 0, 0, 0) : (Int × Int × Int × Int × Int)) r2.2.1 r4.toNat).2).2).2)) (gl (0 : Int) r5.1 s2.toNat)) (fun r8 =>
if (!r8) = true then
some (Sum.inr (false))
else some (Sum.inl (w64 (s2 + 1))))
else none
else some (Sum.inr (decide (s1.1 = (r5.1.length : Int))))) (0))) ((0, (-1)))))
else none)))
@[reducible] noncomputable def iFbeltwaylaw10_WalkWhole : FnI := { ps := [⟨(.slice (.int .i64)), false, false, false⟩, ⟨(.int .i64), false, false, false⟩], rs := [⟨.bool, false, true, false⟩], os := [], bk := [], F := fun x => Fbeltwaylaw10_WalkWhole x.1 x.2 }
noncomputable def cFbeltwaylaw10_WalkWhole : Cx := { nm := [(5, (7, 1)), (7, (8, 1)), (19, (1, 2)), (20, (3, 4)), (37, (9, 1))], keep := [], fns := tabF [(6, iFbeltwaymake_Space), (7, iFbeltwaymake_New), (8, iFbeltwaylaw10_awake), (9, iFbeltwaymake_Mod), (12, iFwalk_Objects), (14, iFwalk_Holds), (18, iFwalk_Live)], loops := [(0, { live := [(13, ⟨(.int .i64), false, false, false⟩), (14, ⟨(.int .i64), false, false, false⟩)], boxes := [], rows := [], dead := [65, 66, 67, 68, 69, 70, 71, 72, 73, 74, 75, 76, 77], lost := [], base := 10 }), (2, { live := [(80, ⟨(.int .i64), false, false, false⟩)], boxes := [], rows := [], dead := [4, 16, 81, 82, 83, 84, 85, 86, 87, 88, 89], lost := [], base := 10 })], joins := [], tb := tabs, exts := [], lets := [] }
theorem eFbeltwaylaw10_WalkWhole : (fun x : HT iFbeltwaylaw10_WalkWhole.ps => iFbeltwaylaw10_WalkWhole.F x) = fun x => rk Try.prog cFbeltwaylaw10_WalkWhole (Try.f5.body.getD .skip) (HT (iFbeltwaylaw10_WalkWhole.rs ++ iFbeltwaylaw10_WalkWhole.os)) 1000000 (finK Try.prog [.tmp 4] [] iFbeltwaylaw10_WalkWhole.os (iFbeltwaylaw10_WalkWhole.rs ++ iFbeltwaylaw10_WalkWhole.os)) (initF iFbeltwaylaw10_WalkWhole.ps iFbeltwaylaw10_WalkWhole.sh x 94) (initL iFbeltwaylaw10_WalkWhole.ps x 9) := by kernel_rfl
theorem okFbeltwaylaw10_WalkWhole : CallsV Try.prog tabs 5 iFbeltwaylaw10_WalkWhole :=
  callsV_of_rk (cx := cFbeltwaylaw10_WalkWhole) (fn := Try.f5) (c := Try.f5.body.getD .skip) (n := 94) (N := 9) (rvs := [.tmp 4]) (cxOk (.cons okFbeltwaymake_Space (.cons okFbeltwaymake_New (.cons okFbeltwaylaw10_awake (.cons okFbeltwaymake_Mod (.cons okFwalk_Objects (.cons okFwalk_Holds (.cons okFwalk_Live TabOk.nil))))))) XtOk.nil) Try.func5 rfl (by kernel_rfl) rfl rfl (fun x => Nat.le_of_ble_eq_true rfl) (by decide) (fun x => congrFun eFbeltwaylaw10_WalkWhole x)
noncomputable def Fbeltwayref18_SameInts (a0 : (List Int)) (a1 : (List Int)) : Option Bool :=
if ¬ (a0.length : Int) = (a1.length : Int) then
some (false)
else loopO (σ := Int) (β := Bool) (fun s1 =>
if s1 < (a0.length : Int) then
if 0 ≤ s1 ∧ s1 < (a0.length : Int) then
if 0 ≤ s1 ∧ s1 < (a1.length : Int) then
if ¬ (gl (0 : Int) a0 s1.toNat) = (gl (0 : Int) a1 s1.toNat) then
some (Sum.inr (false))
else some (Sum.inl (w64 (s1 + 1)))
else none
else none
else some (Sum.inr (true))) (0)
@[reducible] noncomputable def iFbeltwayref18_SameInts : FnI := { ps := [⟨(.slice (.int .i64)), false, false, false⟩, ⟨(.slice (.int .i64)), false, false, false⟩], rs := [⟨.bool, false, true, false⟩], os := [], bk := [], F := fun x => Fbeltwayref18_SameInts x.1 x.2 }
noncomputable def cFbeltwayref18_SameInts : Cx := { nm := [], keep := [], fns := tabF [], loops := [(0, { live := [(13, ⟨(.int .i64), false, false, false⟩)], boxes := [], rows := [], dead := [4, 5, 14, 15, 16, 17, 18, 19, 20, 21, 22, 23, 24, 25], lost := [], base := 2 })], joins := [], tb := tabs, exts := [], lets := [] }
theorem eFbeltwayref18_SameInts : (fun x : HT iFbeltwayref18_SameInts.ps => iFbeltwayref18_SameInts.F x) = fun x => rk Try.prog cFbeltwayref18_SameInts (Try.f13.body.getD .skip) (HT (iFbeltwayref18_SameInts.rs ++ iFbeltwayref18_SameInts.os)) 1000000 (finK Try.prog [.tmp 4] [] iFbeltwayref18_SameInts.os (iFbeltwayref18_SameInts.rs ++ iFbeltwayref18_SameInts.os)) (initF iFbeltwayref18_SameInts.ps iFbeltwayref18_SameInts.sh x 26) (initL iFbeltwayref18_SameInts.ps x 0) := by kernel_rfl
theorem okFbeltwayref18_SameInts : CallsV Try.prog tabs 13 iFbeltwayref18_SameInts :=
  callsV_of_rk (cx := cFbeltwayref18_SameInts) (fn := Try.f13) (c := Try.f13.body.getD .skip) (n := 26) (N := 0) (rvs := [.tmp 4]) (cxOk TabOk.nil XtOk.nil) Try.func13 rfl (by kernel_rfl) rfl rfl (fun x => Nat.le_of_ble_eq_true rfl) (by decide) (fun x => congrFun eFbeltwayref18_SameInts x)
noncomputable def Fbeltwaylaw10_WalkGrows (a0 : (List Int)) (a1 : Int) (a2 : Int) (a3 : Int) : Option Bool :=
Option.bind (Fbeltwaymake_New a0) (fun r1 =>
Option.bind (Fbeltwaymake_Space r1) (fun r2 =>
if (r2.2.1.length : Int) = 0 then
Option.bind (Fbeltwaylaw10_awake) (fun r3 =>
some (r3))
else Option.bind (Fbeltwaymake_Mod a1 (r2.2.1.length : Int)) (fun r4 =>
if 0 ≤ r4 ∧ r4 < (r2.2.1.length : Int) then
Option.bind (Fbeltwaymake_Mod a2 16) (fun r5 =>
Option.bind (Fbeltwaymake_Mod a3 33) (fun r6 =>
Option.bind (Fbeltwayref09_Alloc r2.1 ((gl ((0, 0, 0, 0, 0) : (Int × Int × Int × Int × Int)) r2.2.1 r4.toNat).1, ((gl ((0, 0, 0, 0, 0) : (Int × Int × Int × Int × Int)) r2.2.1 r4.toNat).2).1, (((gl ((0, 0, 0, 0, 0) : (Int × Int × Int × Int × Int)) r2.2.1 r4.toNat).2).2).1, ((((gl ((0, 0, 0, 0, 0) : (Int × Int × Int × Int × Int)) r2.2.1 r4.toNat).2).2).2)) (w64 ((w64 ((1 : Int) + r5)) + r6))) (fun r7 =>
if ¬ r7.2.2.2 = 0 then
Option.bind (Fbeltwaylaw10_awake) (fun r8 =>
some (r8))
else Option.bind (Fbeltwayref08_Init r7.1 r7.2.2.1 r5 r6) (fun r9 =>
Option.bind (Fwalk_Objects r2.1 ((gl ((0, 0, 0, 0, 0) : (Int × Int × Int × Int × Int)) r2.2.1 r4.toNat).1, ((gl ((0, 0, 0, 0, 0) : (Int × Int × Int × Int × Int)) r2.2.1 r4.toNat).2).1, (((gl ((0, 0, 0, 0, 0) : (Int × Int × Int × Int × Int)) r2.2.1 r4.toNat).2).2).1, ((((gl ((0, 0, 0, 0, 0) : (Int × Int × Int × Int × Int)) r2.2.1 r4.toNat).2).2).2))) (fun r10 =>
Option.bind (Fwalk_Objects r9.1 r7.2.1) (fun r11 =>
if r10.2 = 0 then
if r11.2 = 0 then
if (r10.1.length + ([r7.2.2.1] : List Int).length) * 8 ≤ 140737488355328 then
Option.bind (Fbeltwayref18_SameInts r11.1 (r10.1 ++ ([r7.2.2.1] : List Int))) (fun r12 =>
if r12 = true then
Option.bind (Fwalk_Holds r9.1 r7.2.1 r7.2.2.1) (fun r13 =>
if r13 = true then
Option.bind (Fbeltwaylaw10_awake) (fun r14 =>
some (r14))
else some (false))
else some (false))
else none
else some (false)
else some (false)))))))
else none)))
@[reducible] noncomputable def iFbeltwaylaw10_WalkGrows : FnI := { ps := [⟨(.slice (.int .i64)), false, false, false⟩, ⟨(.int .i64), false, false, false⟩, ⟨(.int .i64), false, false, false⟩, ⟨(.int .i64), false, false, false⟩], rs := [⟨.bool, false, true, false⟩], os := [], bk := [], F := fun x => Fbeltwaylaw10_WalkGrows x.1 x.2.1 x.2.2.1 x.2.2.2 }
noncomputable def cFbeltwaylaw10_WalkGrows : Cx := { nm := [(9, (7, 1)), (11, (8, 1)), (14, (11, 1)), (15, (12, 1)), (23, (1, 2)), (24, (3, 4)), (49, (9, 2)), (62, (13, 2)), (68, (15, 1)), (74, (16, 1)), (87, (17, 1)), (88, (18, 1))], keep := [], fns := tabF [(6, iFbeltwaymake_Space), (7, iFbeltwaymake_New), (8, iFbeltwaylaw10_awake), (9, iFbeltwaymake_Mod), (10, iFbeltwayref09_Alloc), (11, iFbeltwayref08_Init), (12, iFwalk_Objects), (13, iFbeltwayref18_SameInts), (14, iFwalk_Holds)], loops := [], joins := [], tb := tabs, exts := [], lets := [] }
theorem eFbeltwaylaw10_WalkGrows : (fun x : HT iFbeltwaylaw10_WalkGrows.ps => iFbeltwaylaw10_WalkGrows.F x) = fun x => rk Try.prog cFbeltwaylaw10_WalkGrows (Try.f3.body.getD .skip) (HT (iFbeltwaylaw10_WalkGrows.rs ++ iFbeltwaylaw10_WalkGrows.os)) 1000000 (finK Try.prog [.tmp 8] [] iFbeltwaylaw10_WalkGrows.os (iFbeltwaylaw10_WalkGrows.rs ++ iFbeltwaylaw10_WalkGrows.os)) (initF iFbeltwaylaw10_WalkGrows.ps iFbeltwaylaw10_WalkGrows.sh x 100) (initL iFbeltwaylaw10_WalkGrows.ps x 18) := by kernel_rfl
theorem okFbeltwaylaw10_WalkGrows : CallsV Try.prog tabs 3 iFbeltwaylaw10_WalkGrows :=
  callsV_of_rk (cx := cFbeltwaylaw10_WalkGrows) (fn := Try.f3) (c := Try.f3.body.getD .skip) (n := 100) (N := 18) (rvs := [.tmp 8]) (cxOk (.cons okFbeltwaymake_Space (.cons okFbeltwaymake_New (.cons okFbeltwaylaw10_awake (.cons okFbeltwaymake_Mod (.cons okFbeltwayref09_Alloc (.cons okFbeltwayref08_Init (.cons okFwalk_Objects (.cons okFbeltwayref18_SameInts (.cons okFwalk_Holds TabOk.nil))))))))) XtOk.nil) Try.func3 rfl (by kernel_rfl) rfl rfl (fun x => Nat.le_of_ble_eq_true rfl) (by decide) (fun x => congrFun eFbeltwaylaw10_WalkGrows x)
noncomputable def Fbeltwayref07_Decode (a0 : (BitVec 64)) : Option (Int × Int × Int × Bool × Int) :=
if ¬ (2#64) = 0#64 then
if (a0 % (2#64)) = (1#64) then
if ¬ (2#64) = 0#64 then
if (a0 / (2#64)).toNat ≥ (16384#64).toNat then
some ((0, 0, 0, false, 12))
else if ¬ (2#64) = 0#64 then
some ((0, 0, w64 (((a0 / (2#64)).toNat : Int)), true, 0))
else none
else none
else if ¬ (256#64) = 0#64 then
if ¬ (2#64) = 0#64 then
if ¬ (256#64) = 0#64 then
if (a0 / (256#64)).toNat > (48#64).toNat then
some ((0, 0, 0, false, 12))
else if (w64 ((((a0 % (256#64)) / (2#64)).toNat : Int))) > 15 then
some ((0, 0, 0, false, 12))
else if (w64 (((a0 / (256#64)).toNat : Int))) < (w64 ((1 : Int) + (w64 ((((a0 % (256#64)) / (2#64)).toNat : Int))))) then
some ((0, 0, 0, false, 12))
else if (w64 ((w64 ((w64 (((a0 / (256#64)).toNat : Int))) - 1)) - (w64 ((((a0 % (256#64)) / (2#64)).toNat : Int))))) > 32 then
some ((0, 0, 0, false, 12))
else some ((w64 ((((a0 % (256#64)) / (2#64)).toNat : Int)), w64 ((w64 ((w64 (((a0 / (256#64)).toNat : Int))) - 1)) - (w64 ((((a0 % (256#64)) / (2#64)).toNat : Int)))), 0, false, 0))
else none
else none
else none
else none
@[reducible] noncomputable def iFbeltwayref07_Decode : FnI := { ps := [⟨.u64, false, false, false⟩], rs := [⟨(.int .i64), false, true, false⟩, ⟨(.int .i64), false, true, false⟩, ⟨(.int .i64), false, true, false⟩, ⟨.bool, false, true, false⟩, ⟨(.int .i64), false, true, false⟩], os := [], bk := [], F := fun x => Fbeltwayref07_Decode x }
noncomputable def cFbeltwayref07_Decode : Cx := { nm := [], keep := [], fns := tabF [], loops := [], joins := [], tb := tabs, exts := [], lets := [] }
theorem eFbeltwayref07_Decode : (fun x : HT iFbeltwayref07_Decode.ps => iFbeltwayref07_Decode.F x) = fun x => rk Try.prog cFbeltwayref07_Decode (Try.f51.body.getD .skip) (HT (iFbeltwayref07_Decode.rs ++ iFbeltwayref07_Decode.os)) 1000000 (finK Try.prog [.tmp 2, .tmp 3, .tmp 4, .tmp 5, .tmp 6] [] iFbeltwayref07_Decode.os (iFbeltwayref07_Decode.rs ++ iFbeltwayref07_Decode.os)) (initF iFbeltwayref07_Decode.ps iFbeltwayref07_Decode.sh x 51) (initL iFbeltwayref07_Decode.ps x 0) := by kernel_rfl
theorem okFbeltwayref07_Decode : CallsV Try.prog tabs 51 iFbeltwayref07_Decode :=
  callsV_of_rk (cx := cFbeltwayref07_Decode) (fn := Try.f51) (c := Try.f51.body.getD .skip) (n := 51) (N := 0) (rvs := [.tmp 2, .tmp 3, .tmp 4, .tmp 5, .tmp 6]) (cxOk TabOk.nil XtOk.nil) Try.func51 rfl (by kernel_rfl) rfl rfl (fun x => Nat.le_of_ble_eq_true rfl) (by decide) (fun x => congrFun eFbeltwayref07_Decode x)
noncomputable def Fbeltwayref08_Look (a0 : (Int × (List (BitVec 64)) × (List (Int × Int × Int)))) (a1 : Int) : Option (Int × Int × Int) :=
Option.bind (Fbeltwayref05_Go a0 a1 0) (fun r1 =>
if ¬ r1.2 = 0 then
some ((0, 0, r1.2))
else if 0 ≤ a1 ∧ a1 < (a0.2.1.length : Int) then
Option.bind (Fbeltwayref07_Decode (gl (0#64 : (BitVec 64)) a0.2.1 a1.toNat)) (fun r2 =>
if ¬ r2.2.2.2.2 = 0 then
some ((0, 0, 12))
else if r2.2.2.2.1 = true then
some ((0, 0, 12))
else Option.bind (Fbeltwayref05_Go a0 a1 (w64 (r2.1 + r2.2.1))) (fun r3 =>
if ¬ r3.2 = 0 then
some ((0, 0, 2))
else some ((r2.1, r2.2.1, 0))))
else none)
@[reducible] noncomputable def iFbeltwayref08_Look : FnI := { ps := [⟨(.pair (.int .i64) (.pair (.slice .u64) (.slice (.pair (.int .i64) (.pair (.int .i64) (.int .i64)))))), true, false, false⟩, ⟨(.int .i64), false, false, false⟩], rs := [⟨(.int .i64), false, true, false⟩, ⟨(.int .i64), false, true, false⟩, ⟨(.int .i64), false, true, false⟩], os := [], bk := [], F := fun x => Fbeltwayref08_Look x.1 x.2 }
noncomputable def cFbeltwayref08_Look : Cx := { nm := [(2, (2, 1))], keep := [], fns := tabF [(42, iFbeltwayref05_Go), (51, iFbeltwayref07_Decode)], loops := [], joins := [], tb := tabs, exts := [], lets := [] }
theorem eFbeltwayref08_Look : (fun x : HT iFbeltwayref08_Look.ps => iFbeltwayref08_Look.F x) = fun x => rk Try.prog cFbeltwayref08_Look (Try.f36.body.getD .skip) (HT (iFbeltwayref08_Look.rs ++ iFbeltwayref08_Look.os)) 1000000 (finK Try.prog [.tmp 4, .tmp 5, .tmp 6] [] iFbeltwayref08_Look.os (iFbeltwayref08_Look.rs ++ iFbeltwayref08_Look.os)) (initF iFbeltwayref08_Look.ps iFbeltwayref08_Look.sh x 55) (initL iFbeltwayref08_Look.ps x 1) := by kernel_rfl
theorem okFbeltwayref08_Look : CallsV Try.prog tabs 36 iFbeltwayref08_Look :=
  callsV_of_rk (cx := cFbeltwayref08_Look) (fn := Try.f36) (c := Try.f36.body.getD .skip) (n := 55) (N := 1) (rvs := [.tmp 4, .tmp 5, .tmp 6]) (cxOk (.cons okFbeltwayref05_Go (.cons okFbeltwayref07_Decode TabOk.nil)) XtOk.nil) Try.func36 rfl (by kernel_rfl) rfl rfl (fun x => Nat.le_of_ble_eq_true rfl) (by decide) (fun x => congrFun eFbeltwayref08_Look x)
noncomputable def Fbeltwayref10_All (a0 : (Int × (List (BitVec 64)) × (List (Int × Int × Int)))) (a1 : (Int × Int × Int × Int × Int)) : Option ((List Int) × Int) :=
loopO (σ := ((List Int) × Int)) (β := ((List Int) × Int)) (fun s1 =>
if s1.2 < a1.2.2.2.2 then
if True then
Option.bind (Fbeltwayref05_Go a0 (w64 (a1.2.2.1 * 2 ^ min (BitVec.ofInt 64 a0.1).toNat 64)) s1.2) (fun r1 =>
Option.bind (Fbeltwayref08_Look a0 r1.1) (fun r2 =>
if ¬ r2.2.2 = 0 then
some (Sum.inr (([], 12)))
else if (w64 ((w64 ((w64 (s1.2 + 1)) + r2.1)) + r2.2.1)) > a1.2.2.2.2 then
some (Sum.inr (([], 12)))
else if (s1.1.length + ([r1.1] : List Int).length) * 8 ≤ 140737488355328 then
some (Sum.inl ((s1.1 ++ ([r1.1] : List Int), w64 (s1.2 + (w64 ((w64 ((1 : Int) + r2.1)) + r2.2.1))))))
else none))
else none
else some (Sum.inr ((s1.1, 0)))) (([], 0))
@[reducible] noncomputable def iFbeltwayref10_All : FnI := { ps := [⟨(.pair (.int .i64) (.pair (.slice .u64) (.slice (.pair (.int .i64) (.pair (.int .i64) (.int .i64)))))), true, false, false⟩, ⟨(.pair (.int .i64) (.pair (.int .i64) (.pair (.int .i64) (.pair (.int .i64) (.int .i64))))), true, false, false⟩], rs := [⟨(.slice (.int .i64)), false, true, false⟩, ⟨(.int .i64), false, true, false⟩], os := [], bk := [], F := fun x => Fbeltwayref10_All x.1 x.2 }
noncomputable def cFbeltwayref10_All : Cx := { nm := [(2, (2, 1)), (3, (3, 1)), (51, (5, 1)), (52, (6, 1))], keep := [52], fns := tabF [(36, iFbeltwayref08_Look), (42, iFbeltwayref05_Go)], loops := [(0, { live := [(6, ⟨(.slice (.int .i64)), false, true, false⟩), (7, ⟨(.int .i64), false, false, false⟩)], boxes := [], rows := [], dead := [4, 5, 8, 9, 10, 11, 12, 13, 14, 15, 16, 17, 18, 19, 20, 21, 22, 23, 24, 25, 26, 27, 28, 29, 30, 31, 32, 33, 34, 35, 36, 37, 38, 39, 40, 41, 42, 43, 44, 45, 46, 47, 48, 49, 50, 51, 52, 53, 54, 55, 56, 57, 58], lost := [], base := 4 })], joins := [], tb := tabs, exts := [], lets := [] }
theorem eFbeltwayref10_All : (fun x : HT iFbeltwayref10_All.ps => iFbeltwayref10_All.F x) = fun x => rk Try.prog cFbeltwayref10_All (Try.f34.body.getD .skip) (HT (iFbeltwayref10_All.rs ++ iFbeltwayref10_All.os)) 1000000 (finK Try.prog [.tmp 4, .tmp 5] [] iFbeltwayref10_All.os (iFbeltwayref10_All.rs ++ iFbeltwayref10_All.os)) (initF iFbeltwayref10_All.ps iFbeltwayref10_All.sh x 60) (initL iFbeltwayref10_All.ps x 5) := by kernel_rfl
theorem okFbeltwayref10_All : CallsV Try.prog tabs 34 iFbeltwayref10_All :=
  callsV_of_rk (cx := cFbeltwayref10_All) (fn := Try.f34) (c := Try.f34.body.getD .skip) (n := 60) (N := 5) (rvs := [.tmp 4, .tmp 5]) (cxOk (.cons okFbeltwayref08_Look (.cons okFbeltwayref05_Go TabOk.nil)) XtOk.nil) Try.func34 rfl (by kernel_rfl) rfl rfl (fun x => Nat.le_of_ble_eq_true rfl) (by decide) (fun x => congrFun eFbeltwayref10_All x)
noncomputable def Fbeltwayref10_Objects (a0 : (Int × (List (BitVec 64)) × (List (Int × Int × Int)))) (a1 : (Int × Int × Int × Int × Int)) : Option ((List Int) × Int) :=
Option.bind (Fbeltwayref03_Valid a0) (fun r1 =>
if (!r1) = true then
some (([], 1))
else Option.bind (Fbeltwayref09_Fits a0 a1) (fun r2 =>
if (!r2) = true then
some (([], 1))
else Option.bind (Fbeltwayref10_All a0 a1) (fun r3 =>
some ((r3.1, r3.2)))))
@[reducible] noncomputable def iFbeltwayref10_Objects : FnI := { ps := [⟨(.pair (.int .i64) (.pair (.slice .u64) (.slice (.pair (.int .i64) (.pair (.int .i64) (.int .i64)))))), true, false, false⟩, ⟨(.pair (.int .i64) (.pair (.int .i64) (.pair (.int .i64) (.pair (.int .i64) (.int .i64))))), true, false, false⟩], rs := [⟨(.slice (.int .i64)), false, true, false⟩, ⟨(.int .i64), false, true, false⟩], os := [], bk := [], F := fun x => Fbeltwayref10_Objects x.1 x.2 }
noncomputable def cFbeltwayref10_Objects : Cx := { nm := [(2, (2, 1)), (3, (3, 1)), (17, (4, 1))], keep := [], fns := tabF [(28, iFbeltwayref03_Valid), (33, iFbeltwayref09_Fits), (34, iFbeltwayref10_All)], loops := [], joins := [], tb := tabs, exts := [], lets := [] }
theorem eFbeltwayref10_Objects : (fun x : HT iFbeltwayref10_Objects.ps => iFbeltwayref10_Objects.F x) = fun x => rk Try.prog cFbeltwayref10_Objects (Try.f17.body.getD .skip) (HT (iFbeltwayref10_Objects.rs ++ iFbeltwayref10_Objects.os)) 1000000 (finK Try.prog [.tmp 4, .tmp 5] [] iFbeltwayref10_Objects.os (iFbeltwayref10_Objects.rs ++ iFbeltwayref10_Objects.os)) (initF iFbeltwayref10_Objects.ps iFbeltwayref10_Objects.sh x 20) (initL iFbeltwayref10_Objects.ps x 3) := by kernel_rfl
theorem okFbeltwayref10_Objects : CallsV Try.prog tabs 17 iFbeltwayref10_Objects :=
  callsV_of_rk (cx := cFbeltwayref10_Objects) (fn := Try.f17) (c := Try.f17.body.getD .skip) (n := 20) (N := 3) (rvs := [.tmp 4, .tmp 5]) (cxOk (.cons okFbeltwayref03_Valid (.cons okFbeltwayref09_Fits (.cons okFbeltwayref10_All TabOk.nil))) XtOk.nil) Try.func17 rfl (by kernel_rfl) rfl rfl (fun x => Nat.le_of_ble_eq_true rfl) (by decide) (fun x => congrFun eFbeltwayref10_Objects x)
noncomputable def Fbeltwayref10_Live (a0 : (Int × (List (BitVec 64)) × (List (Int × Int × Int)))) (a1 : (Int × Int × Int × Int × Int)) : Option (Int × Int × Int) :=
Option.bind (Fbeltwayref10_Objects a0 a1) (fun r1 =>
if ¬ r1.2 = 0 then
some ((0, 0, r1.2))
else loopO (σ := (Int × Int)) (β := (Int × Int × Int)) (fun s1 =>
if s1.2 < (r1.1.length : Int) then
if 0 ≤ s1.2 ∧ s1.2 < (r1.1.length : Int) then
Option.bind (Fbeltwayref08_Look a0 (gl (0 : Int) r1.1 s1.2.toNat)) (fun r2 =>
some (Sum.inl ((w64 (s1.1 + (w64 ((w64 ((1 : Int) + r2.1)) + r2.2.1))), w64 (s1.2 + 1)))))
else none
else some (Sum.inr (((r1.1.length : Int), s1.1, 0)))) ((0, 0)))
@[reducible] noncomputable def iFbeltwayref10_Live : FnI := { ps := [⟨(.pair (.int .i64) (.pair (.slice .u64) (.slice (.pair (.int .i64) (.pair (.int .i64) (.int .i64)))))), true, false, false⟩, ⟨(.pair (.int .i64) (.pair (.int .i64) (.pair (.int .i64) (.pair (.int .i64) (.int .i64))))), true, false, false⟩], rs := [⟨(.int .i64), false, true, false⟩, ⟨(.int .i64), false, true, false⟩, ⟨(.int .i64), false, true, false⟩], os := [], bk := [], F := fun x => Fbeltwayref10_Live x.1 x.2 }
noncomputable def cFbeltwayref10_Live : Cx := { nm := [(2, (2, 1)), (3, (3, 1)), (18, (4, 1))], keep := [], fns := tabF [(17, iFbeltwayref10_Objects), (36, iFbeltwayref08_Look)], loops := [(0, { live := [(9, ⟨(.int .i64), false, false, false⟩), (26, ⟨(.int .i64), false, false, false⟩)], boxes := [], rows := [], dead := [11, 12, 13, 14, 27, 28, 29, 30, 31, 32, 33, 34, 35, 36, 37, 38, 39, 40, 41, 42, 43], lost := [], base := 5 })], joins := [], tb := tabs, exts := [], lets := [] }
theorem eFbeltwayref10_Live : (fun x : HT iFbeltwayref10_Live.ps => iFbeltwayref10_Live.F x) = fun x => rk Try.prog cFbeltwayref10_Live (Try.f19.body.getD .skip) (HT (iFbeltwayref10_Live.rs ++ iFbeltwayref10_Live.os)) 1000000 (finK Try.prog [.tmp 4, .tmp 5, .tmp 6] [] iFbeltwayref10_Live.os (iFbeltwayref10_Live.rs ++ iFbeltwayref10_Live.os)) (initF iFbeltwayref10_Live.ps iFbeltwayref10_Live.sh x 47) (initL iFbeltwayref10_Live.ps x 3) := by kernel_rfl
theorem okFbeltwayref10_Live : CallsV Try.prog tabs 19 iFbeltwayref10_Live :=
  callsV_of_rk (cx := cFbeltwayref10_Live) (fn := Try.f19) (c := Try.f19.body.getD .skip) (n := 47) (N := 3) (rvs := [.tmp 4, .tmp 5, .tmp 6]) (cxOk (.cons okFbeltwayref10_Objects (.cons okFbeltwayref08_Look TabOk.nil)) XtOk.nil) Try.func19 rfl (by kernel_rfl) rfl rfl (fun x => Nat.le_of_ble_eq_true rfl) (by decide) (fun x => congrFun eFbeltwayref10_Live x)
noncomputable def Fbeltwayref10_Holds (a0 : (Int × (List (BitVec 64)) × (List (Int × Int × Int)))) (a1 : (Int × Int × Int × Int × Int)) (a2 : Int) : Option Bool :=
Option.bind (Fbeltwayref10_Objects a0 a1) (fun r1 =>
loopO (σ := Int) (β := Bool) (fun s1 =>
if s1 < (r1.1.length : Int) then
if 0 ≤ s1 ∧ s1 < (r1.1.length : Int) then
if (gl (0 : Int) r1.1 s1.toNat) = a2 then
some (Sum.inr (true))
else some (Sum.inl (w64 (s1 + 1)))
else none
else some (Sum.inr (false))) (0))
@[reducible] noncomputable def iFbeltwayref10_Holds : FnI := { ps := [⟨(.pair (.int .i64) (.pair (.slice .u64) (.slice (.pair (.int .i64) (.pair (.int .i64) (.int .i64)))))), true, false, false⟩, ⟨(.pair (.int .i64) (.pair (.int .i64) (.pair (.int .i64) (.pair (.int .i64) (.int .i64))))), true, false, false⟩, ⟨(.int .i64), false, false, false⟩], rs := [⟨.bool, false, true, false⟩], os := [], bk := [], F := fun x => Fbeltwayref10_Holds x.1 x.2.1 x.2.2 }
noncomputable def cFbeltwayref10_Holds : Cx := { nm := [(3, (2, 1)), (4, (3, 1)), (14, (4, 1))], keep := [], fns := tabF [(17, iFbeltwayref10_Objects)], loops := [(0, { live := [(19, ⟨(.int .i64), false, false, false⟩)], boxes := [], rows := [], dead := [6, 10, 20, 21, 22, 23, 24, 25, 26], lost := [], base := 5 })], joins := [], tb := tabs, exts := [], lets := [] }
theorem eFbeltwayref10_Holds : (fun x : HT iFbeltwayref10_Holds.ps => iFbeltwayref10_Holds.F x) = fun x => rk Try.prog cFbeltwayref10_Holds (Try.f20.body.getD .skip) (HT (iFbeltwayref10_Holds.rs ++ iFbeltwayref10_Holds.os)) 1000000 (finK Try.prog [.tmp 6] [] iFbeltwayref10_Holds.os (iFbeltwayref10_Holds.rs ++ iFbeltwayref10_Holds.os)) (initF iFbeltwayref10_Holds.ps iFbeltwayref10_Holds.sh x 27) (initL iFbeltwayref10_Holds.ps x 3) := by kernel_rfl
theorem okFbeltwayref10_Holds : CallsV Try.prog tabs 20 iFbeltwayref10_Holds :=
  callsV_of_rk (cx := cFbeltwayref10_Holds) (fn := Try.f20) (c := Try.f20.body.getD .skip) (n := 27) (N := 3) (rvs := [.tmp 6]) (cxOk (.cons okFbeltwayref10_Objects TabOk.nil) XtOk.nil) Try.func20 rfl (by kernel_rfl) rfl rfl (fun x => Nat.le_of_ble_eq_true rfl) (by decide) (fun x => congrFun eFbeltwayref10_Holds x)
noncomputable def Fbeltwaylaw10_WalkObjects (a0 : (Int × (List (BitVec 64)) × (List (Int × Int × Int)))) (a1 : (Int × Int × Int × Int × Int)) (a2 : (List Int)) (a3 : Int) (a4 : Int) (a5 : Int) (a6 : Int) (a7 : Int) : Option Bool :=
Option.bind (Fbeltwaymake_Small a0) (fun r1 =>
if (!r1) = true then
Option.bind (Fbeltwaylaw10_awake) (fun r2 =>
some (r2))
else Option.bind (Fbeltwaymake_New a2) (fun r3 =>
Option.bind (Fbeltwaymake_Space r3) (fun r4 =>
Option.bind (α := (Int × Int × Int × Int × Int) ⊕ Bool) (if (r4.2.1.length : Int) > 0 then
Option.bind (Fbeltwaymake_Mod a3 (r4.2.1.length : Int)) (fun r5 =>
if 0 ≤ r5 ∧ r5 < (r4.2.1.length : Int) then
some (Sum.inl (((gl ((0, 0, 0, 0, 0) : (Int × Int × Int × Int × Int)) r4.2.1 r5.toNat).1, ((gl ((0, 0, 0, 0, 0) : (Int × Int × Int × Int × Int)) r4.2.1 r5.toNat).2).1, (((gl ((0, 0, 0, 0, 0) : (Int × Int × Int × Int × Int)) r4.2.1 r5.toNat).2).2).1, ((((gl ((0, 0, 0, 0, 0) : (Int × Int × Int × Int × Int)) r4.2.1 r5.toNat).2).2).2))))
else none)
else some (Sum.inl (a1))) (fun q => match q with
| Sum.inl j1 => (Option.bind (Fbeltwaymake_Mod a6 3) (fun r6 =>
Option.bind (Fbeltwaymake_Spoilt r4.1 a4 a5 a6) (fun r7 =>
Option.bind (Fbeltwaymake_Spoilt r4.1 3 a5 a6) (fun r8 =>
loopO (σ := Int) (β := Bool) (fun s1 =>
if s1 < (([r4.1, a0, r7, r8] : List (Int × (List (BitVec 64)) × (List (Int × Int × Int)))).length : Int) then
if 0 ≤ s1 ∧ s1 < (([r4.1, a0, r7, r8] : List (Int × (List (BitVec 64)) × (List (Int × Int × Int)))).length : Int) then
loopO (σ := Int) (β := (Int ⊕ Bool)) (fun s2 =>
if s2 < (([a1, j1, (j1.1, j1.2.1, j1.2.2.1, j1.2.2.2.1, w64 (j1.2.2.2.2 - r6))] : List (Int × Int × Int × Int × Int)).length : Int) then
if 0 ≤ s2 ∧ s2 < (([a1, j1, (j1.1, j1.2.1, j1.2.2.1, j1.2.2.2.1, w64 (j1.2.2.2.2 - r6))] : List (Int × Int × Int × Int × Int)).length : Int) then
Option.bind (Fwalk_Objects ((gl ((0, [], []) : (Int × (List (BitVec 64)) × (List (Int × Int × Int)))) ([r4.1, a0, r7, r8] : List (Int × (List (BitVec 64)) × (List (Int × Int × Int)))) s1.toNat).1, ((gl ((0, [], []) : (Int × (List (BitVec 64)) × (List (Int × Int × Int)))) ([r4.1, a0, r7, r8] : List (Int × (List (BitVec 64)) × (List (Int × Int × Int)))) s1.toNat).2)) ((gl ((0, 0, 0, 0, 0) : (Int × Int × Int × Int × Int)) ([a1, j1, (j1.1, j1.2.1, j1.2.2.1, j1.2.2.2.1, w64 (j1.2.2.2.2 - r6))] : List (Int × Int × Int × Int × Int)) s2.toNat).1, ((gl ((0, 0, 0, 0, 0) : (Int × Int × Int × Int × Int)) ([a1, j1, (j1.1, j1.2.1, j1.2.2.1, j1.2.2.2.1, w64 (j1.2.2.2.2 - r6))] : List (Int × Int × Int × Int × Int)) s2.toNat).2).1, (((gl ((0, 0, 0, 0, 0) : (Int × Int × Int × Int × Int)) ([a1, j1, (j1.1, j1.2.1, j1.2.2.1, j1.2.2.2.1, w64 (j1.2.2.2.2 - r6))] : List (Int × Int × Int × Int × Int)) s2.toNat).2).2).1, ((((gl ((0, 0, 0, 0, 0) : (Int × Int × Int × Int × Int)) ([a1, j1, (j1.1, j1.2.1, j1.2.2.1, j1.2.2.2.1, w64 (j1.2.2.2.2 - r6))] : List (Int × Int × Int × Int × Int)) s2.toNat).2).2).2))) (fun r9 =>
Option.bind (Fbeltwayref10_Objects ((gl ((0, [], []) : (Int × (List (BitVec 64)) × (List (Int × Int × Int)))) ([r4.1, a0, r7, r8] : List (Int × (List (BitVec 64)) × (List (Int × Int × Int)))) s1.toNat).1, ((gl ((0, [], []) : (Int × (List (BitVec 64)) × (List (Int × Int × Int)))) ([r4.1, a0, r7, r8] : List (Int × (List (BitVec 64)) × (List (Int × Int × Int)))) s1.toNat).2)) ((gl ((0, 0, 0, 0, 0) : (Int × Int × Int × Int × Int)) ([a1, j1, (j1.1, j1.2.1, j1.2.2.1, j1.2.2.2.1, w64 (j1.2.2.2.2 - r6))] : List (Int × Int × Int × Int × Int)) s2.toNat).1, ((gl ((0, 0, 0, 0, 0) : (Int × Int × Int × Int × Int)) ([a1, j1, (j1.1, j1.2.1, j1.2.2.1, j1.2.2.2.1, w64 (j1.2.2.2.2 - r6))] : List (Int × Int × Int × Int × Int)) s2.toNat).2).1, (((gl ((0, 0, 0, 0, 0) : (Int × Int × Int × Int × Int)) ([a1, j1, (j1.1, j1.2.1, j1.2.2.1, j1.2.2.2.1, w64 (j1.2.2.2.2 - r6))] : List (Int × Int × Int × Int × Int)) s2.toNat).2).2).1, ((((gl ((0, 0, 0, 0, 0) : (Int × Int × Int × Int × Int)) ([a1, j1, (j1.1, j1.2.1, j1.2.2.1, j1.2.2.2.1, w64 (j1.2.2.2.2 - r6))] : List (Int × Int × Int × Int × Int)) s2.toNat).2).2).2))) (fun r10 =>
Option.bind (Fwalk_Live ((gl ((0, [], []) : (Int × (List (BitVec 64)) × (List (Int × Int × Int)))) ([r4.1, a0, r7, r8] : List (Int × (List (BitVec 64)) × (List (Int × Int × Int)))) s1.toNat).1, ((gl ((0, [], []) : (Int × (List (BitVec 64)) × (List (Int × Int × Int)))) ([r4.1, a0, r7, r8] : List (Int × (List (BitVec 64)) × (List (Int × Int × Int)))) s1.toNat).2)) ((gl ((0, 0, 0, 0, 0) : (Int × Int × Int × Int × Int)) ([a1, j1, (j1.1, j1.2.1, j1.2.2.1, j1.2.2.2.1, w64 (j1.2.2.2.2 - r6))] : List (Int × Int × Int × Int × Int)) s2.toNat).1, ((gl ((0, 0, 0, 0, 0) : (Int × Int × Int × Int × Int)) ([a1, j1, (j1.1, j1.2.1, j1.2.2.1, j1.2.2.2.1, w64 (j1.2.2.2.2 - r6))] : List (Int × Int × Int × Int × Int)) s2.toNat).2).1, (((gl ((0, 0, 0, 0, 0) : (Int × Int × Int × Int × Int)) ([a1, j1, (j1.1, j1.2.1, j1.2.2.1, j1.2.2.2.1, w64 (j1.2.2.2.2 - r6))] : List (Int × Int × Int × Int × Int)) s2.toNat).2).2).1, ((((gl ((0, 0, 0, 0, 0) : (Int × Int × Int × Int × Int)) ([a1, j1, (j1.1, j1.2.1, j1.2.2.1, j1.2.2.2.1, w64 (j1.2.2.2.2 - r6))] : List (Int × Int × Int × Int × Int)) s2.toNat).2).2).2))) (fun r11 =>
Option.bind (Fbeltwayref10_Live ((gl ((0, [], []) : (Int × (List (BitVec 64)) × (List (Int × Int × Int)))) ([r4.1, a0, r7, r8] : List (Int × (List (BitVec 64)) × (List (Int × Int × Int)))) s1.toNat).1, ((gl ((0, [], []) : (Int × (List (BitVec 64)) × (List (Int × Int × Int)))) ([r4.1, a0, r7, r8] : List (Int × (List (BitVec 64)) × (List (Int × Int × Int)))) s1.toNat).2)) ((gl ((0, 0, 0, 0, 0) : (Int × Int × Int × Int × Int)) ([a1, j1, (j1.1, j1.2.1, j1.2.2.1, j1.2.2.2.1, w64 (j1.2.2.2.2 - r6))] : List (Int × Int × Int × Int × Int)) s2.toNat).1, ((gl ((0, 0, 0, 0, 0) : (Int × Int × Int × Int × Int)) ([a1, j1, (j1.1, j1.2.1, j1.2.2.1, j1.2.2.2.1, w64 (j1.2.2.2.2 - r6))] : List (Int × Int × Int × Int × Int)) s2.toNat).2).1, (((gl ((0, 0, 0, 0, 0) : (Int × Int × Int × Int × Int)) ([a1, j1, (j1.1, j1.2.1, j1.2.2.1, j1.2.2.2.1, w64 (j1.2.2.2.2 - r6))] : List (Int × Int × Int × Int × Int)) s2.toNat).2).2).1, ((((gl ((0, 0, 0, 0, 0) : (Int × Int × Int × Int × Int)) ([a1, j1, (j1.1, j1.2.1, j1.2.2.1, j1.2.2.2.1, w64 (j1.2.2.2.2 - r6))] : List (Int × Int × Int × Int × Int)) s2.toNat).2).2).2))) (fun r12 =>
if ¬ r9.2 = r10.2 then
some (Sum.inr (Sum.inr (false)))
else Option.bind (Fbeltwayref18_SameInts r9.1 r10.1) (fun r13 =>
if (!r13) = true then
some (Sum.inr (Sum.inr (false)))
else if ¬ r11.1 = r12.1 then
some (Sum.inr (Sum.inr (false)))
else if ¬ r11.2.1 = r12.2.1 then
some (Sum.inr (Sum.inr (false)))
else if ¬ r11.2.2 = r12.2.2 then
some (Sum.inr (Sum.inr (false)))
else Option.bind (Fbeltwaymake_Mod a7 (w64 (((((gl ((0, [], []) : (Int × (List (BitVec 64)) × (List (Int × Int × Int)))) ([r4.1, a0, r7, r8] : List (Int × (List (BitVec 64)) × (List (Int × Int × Int)))) s1.toNat).2).1).length : Int) + 1))) (fun r14 =>
loopO (σ := Int) (β := (Int ⊕ (Int ⊕ Bool))) (fun s3 =>
if s3 < (([a7, r14] : List Int).length : Int) then
if 0 ≤ s3 ∧ s3 < (([a7, r14] : List Int).length : Int) then
Option.bind (Fwalk_Holds ((gl ((0, [], []) : (Int × (List (BitVec 64)) × (List (Int × Int × Int)))) ([r4.1, a0, r7, r8] : List (Int × (List (BitVec 64)) × (List (Int × Int × Int)))) s1.toNat).1, ((gl ((0, [], []) : (Int × (List (BitVec 64)) × (List (Int × Int × Int)))) ([r4.1, a0, r7, r8] : List (Int × (List (BitVec 64)) × (List (Int × Int × Int)))) s1.toNat).2)) ((gl ((0, 0, 0, 0, 0) : (Int × Int × Int × Int × Int)) ([a1, j1, (j1.1, j1.2.1, j1.2.2.1, j1.2.2.2.1, w64 (j1.2.2.2.2 - r6))] : List (Int × Int × Int × Int × Int)) s2.toNat).1, ((gl ((0, 0, 0, 0, 0) : (Int × Int × Int × Int × Int)) ([a1, j1, (j1.1, j1.2.1, j1.2.2.1, j1.2.2.2.1, w64 (j1.2.2.2.2 - r6))] : List (Int × Int × Int × Int × Int)) s2.toNat).2).1, (((gl ((0, 0, 0, 0, 0) : (Int × Int × Int × Int × Int)) ([a1, j1, (j1.1, j1.2.1, j1.2.2.1, j1.2.2.2.1, w64 (j1.2.2.2.2 - r6))] : List (Int × Int × Int × Int × Int)) s2.toNat).2).2).1, ((((gl ((0, 0, 0, 0, 0) : (Int × Int × Int × Int × Int)) ([a1, j1, (j1.1, j1.2.1, j1.2.2.1, j1.2.2.2.1, w64 (j1.2.2.2.2 - r6))] : List (Int × Int × Int × Int × Int)) s2.toNat).2).2).2)) (gl (0 : Int) ([a7, r14] : List Int) s3.toNat)) (fun r15 =>
Option.bind (Fbeltwayref10_Holds ((gl ((0, [], []) : (Int × (List (BitVec 64)) × (List (Int × Int × Int)))) ([r4.1, a0, r7, r8] : List (Int × (List (BitVec 64)) × (List (Int × Int × Int)))) s1.toNat).1, ((gl ((0, [], []) : (Int × (List (BitVec 64)) × (List (Int × Int × Int)))) ([r4.1, a0, r7, r8] : List (Int × (List (BitVec 64)) × (List (Int × Int × Int)))) s1.toNat).2)) ((gl ((0, 0, 0, 0, 0) : (Int × Int × Int × Int × Int)) ([a1, j1, (j1.1, j1.2.1, j1.2.2.1, j1.2.2.2.1, w64 (j1.2.2.2.2 - r6))] : List (Int × Int × Int × Int × Int)) s2.toNat).1, ((gl ((0, 0, 0, 0, 0) : (Int × Int × Int × Int × Int)) ([a1, j1, (j1.1, j1.2.1, j1.2.2.1, j1.2.2.2.1, w64 (j1.2.2.2.2 - r6))] : List (Int × Int × Int × Int × Int)) s2.toNat).2).1, (((gl ((0, 0, 0, 0, 0) : (Int × Int × Int × Int × Int)) ([a1, j1, (j1.1, j1.2.1, j1.2.2.1, j1.2.2.2.1, w64 (j1.2.2.2.2 - r6))] : List (Int × Int × Int × Int × Int)) s2.toNat).2).2).1, ((((gl ((0, 0, 0, 0, 0) : (Int × Int × Int × Int × Int)) ([a1, j1, (j1.1, j1.2.1, j1.2.2.1, j1.2.2.2.1, w64 (j1.2.2.2.2 - r6))] : List (Int × Int × Int × Int × Int)) s2.toNat).2).2).2)) (gl (0 : Int) ([a7, r14] : List Int) s3.toNat)) (fun r16 =>
if ¬ r15 = r16 then
some (Sum.inr (Sum.inr (Sum.inr (false))))
else some (Sum.inl (w64 (s3 + 1)))))
else none
else some (Sum.inr (Sum.inl (w64 (s2 + 1))))) (0)))))))
else none
else some (Sum.inr (Sum.inl (w64 (s1 + 1))))) (0)
else none
else Option.map Sum.inr (Option.bind (Fbeltwaylaw10_awake) (fun r17 =>
some (r17)))) (0)))))
| Sum.inr b1 => some b1))))
@[reducible] noncomputable def iFbeltwaylaw10_WalkObjects : FnI := { ps := [⟨(.pair (.int .i64) (.pair (.slice .u64) (.slice (.pair (.int .i64) (.pair (.int .i64) (.int .i64)))))), true, false, false⟩, ⟨(.pair (.int .i64) (.pair (.int .i64) (.pair (.int .i64) (.pair (.int .i64) (.int .i64))))), true, false, false⟩, ⟨(.slice (.int .i64)), false, false, false⟩, ⟨(.int .i64), false, false, false⟩, ⟨(.int .i64), false, false, false⟩, ⟨(.int .i64), false, false, false⟩, ⟨(.int .i64), false, false, false⟩, ⟨(.int .i64), false, false, false⟩], rs := [⟨.bool, false, true, false⟩], os := [], bk := [], F := fun x => Fbeltwaylaw10_WalkObjects x.1 x.2.1 x.2.2.1 x.2.2.2.1 x.2.2.2.2.1 x.2.2.2.2.2.1 x.2.2.2.2.2.2.1 x.2.2.2.2.2.2.2 }
noncomputable def cFbeltwaylaw10_WalkObjects : Cx := { nm := [(8, (3, 1)), (9, (4, 1)), (17, (11, 1)), (19, (12, 1)), (20, (13, 1)), (22, (21, 1)), (24, (23, 1)), (43, (5, 2)), (44, (7, 4)), (71, (14, 2)), (75, (16, 2)), (76, (18, 1)), (81, (19, 2)), (85, (22, 1)), (94, (24, 1)), (100, (25, 1)), (148, (26, 1))], keep := [], fns := tabF [(6, iFbeltwaymake_Space), (7, iFbeltwaymake_New), (8, iFbeltwaylaw10_awake), (9, iFbeltwaymake_Mod), (12, iFwalk_Objects), (13, iFbeltwayref18_SameInts), (14, iFwalk_Holds), (15, iFbeltwaymake_Small), (16, iFbeltwaymake_Spoilt), (17, iFbeltwayref10_Objects), (18, iFwalk_Live), (19, iFbeltwayref10_Live), (20, iFbeltwayref10_Holds)], loops := [(0, { live := [(78, ⟨(.int .i64), false, false, false⟩)], boxes := [], rows := [], dead := [16, 22, 24, 25, 26, 27, 28, 29, 30, 31, 32, 33, 34, 36, 79, 80, 81, 82, 83, 84, 85, 86, 87, 88, 89, 90, 91, 92, 93, 94, 95, 96, 97, 98, 99, 100, 101, 102, 103, 104, 105, 106, 107, 108, 109, 110, 111, 112, 113, 114, 115, 116, 117, 118, 119, 120, 121, 122, 123, 124, 125, 126, 127, 128, 129, 130, 131, 132, 133, 134, 135, 136, 137, 138, 139, 140, 141, 142, 143, 144, 145, 146, 147, 148, 149, 150, 151, 152, 153, 154, 155, 156, 157, 158, 159, 160, 161, 162, 163, 164, 165], lost := [], base := 19 }), (2, { live := [(87, ⟨(.int .i64), false, false, false⟩)], boxes := [], rows := [], dead := [16, 24, 25, 26, 27, 28, 29, 30, 31, 32, 33, 34, 36, 88, 89, 90, 91, 92, 93, 94, 95, 96, 97, 98, 99, 100, 101, 102, 103, 104, 105, 106, 107, 108, 109, 110, 111, 112, 113, 114, 115, 116, 117, 118, 119, 120, 121, 122, 123, 124, 125, 126, 127, 128, 129, 130, 131, 132, 133, 134, 135, 136, 137, 138, 139, 140, 141, 142, 143, 144, 145, 146, 147, 148, 149, 150, 151, 152, 153, 154, 155, 156, 157, 158, 159, 160, 161, 162, 163, 164], lost := [], base := 23 }), (4, { live := [(150, ⟨(.int .i64), false, false, false⟩)], boxes := [], rows := [], dead := [16, 36, 151, 152, 153, 154, 155, 156, 157, 158, 159, 160, 161, 162, 163], lost := [], base := 27 })], joins := [(7, { live := [], boxes := [(12, ⟨(.pair (.int .i64) (.pair (.int .i64) (.pair (.int .i64) (.pair (.int .i64) (.int .i64))))), true, false, false⟩)], rows := [], dead := [48, 49, 50, 51, 52, 53, 54, 55, 56, 57], lost := [], base := 13 })], tb := tabs, exts := [], lets := [] }
theorem eFbeltwaylaw10_WalkObjects : (fun x : HT iFbeltwaylaw10_WalkObjects.ps => iFbeltwaylaw10_WalkObjects.F x) = fun x => rk Try.prog cFbeltwaylaw10_WalkObjects (Try.f4.body.getD .skip) (HT (iFbeltwaylaw10_WalkObjects.rs ++ iFbeltwaylaw10_WalkObjects.os)) 1000000 (finK Try.prog [.tmp 16] [] iFbeltwaylaw10_WalkObjects.os (iFbeltwaylaw10_WalkObjects.rs ++ iFbeltwaylaw10_WalkObjects.os)) (initF iFbeltwaylaw10_WalkObjects.ps iFbeltwaylaw10_WalkObjects.sh x 167) (initL iFbeltwaylaw10_WalkObjects.ps x 24) := by kernel_rfl
theorem okFbeltwaylaw10_WalkObjects : CallsV Try.prog tabs 4 iFbeltwaylaw10_WalkObjects :=
  callsV_of_rk (cx := cFbeltwaylaw10_WalkObjects) (fn := Try.f4) (c := Try.f4.body.getD .skip) (n := 167) (N := 24) (rvs := [.tmp 16]) (cxOk (.cons okFbeltwaymake_Space (.cons okFbeltwaymake_New (.cons okFbeltwaylaw10_awake (.cons okFbeltwaymake_Mod (.cons okFwalk_Objects (.cons okFbeltwayref18_SameInts (.cons okFwalk_Holds (.cons okFbeltwaymake_Small (.cons okFbeltwaymake_Spoilt (.cons okFbeltwayref10_Objects (.cons okFwalk_Live (.cons okFbeltwayref10_Live (.cons okFbeltwayref10_Holds TabOk.nil))))))))))))) XtOk.nil) Try.func4 rfl (by kernel_rfl) rfl rfl (fun x => Nat.le_of_ble_eq_true rfl) (by decide) (fun x => congrFun eFbeltwaylaw10_WalkObjects x)
end Go.Proofs.Ytjdlaikcdebofaa
