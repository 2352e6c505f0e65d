/-
  The functions of the laws of package evacuate (printed, and checked by the kernel).
-/
import Derived.Test.YtokeceeccmgcmaaDoorSpW
set_option linter.unusedVariables false
set_option maxRecDepth 100000
namespace Go.Proofs.YtokeceeccmgcmaaDoor
open Go Go.V3
noncomputable def Fmath_bits_TrailingZeros64 (a0 : (BitVec 64)) : Option Int :=
if a0 = (0#64) then
some (64)
else letv ((a0 &&& (0#64 - a0)) * (285870213051353865#64)) (fun (v1 : BitVec 64) =>
if True then
if 0 ≤ ((v1 >>> (58#64).toNat).toNat : Int) ∧ ((v1 >>> (58#64).toNat).toNat : Int) < ((64 : Nat) : Int) then
if 0 + ((v1 >>> (58#64).toNat).toNat : Int).toNat < tab0.size then
letv (w64 (tget tab0 (0 + ((v1 >>> (58#64).toNat).toNat : Int).toNat))) (fun (v2 : Int) =>
some (v2))
else none
else none
else none)
@[reducible] noncomputable def iFmath_bits_TrailingZeros64 : FnI := { ps := [⟨.u64, false, false, false⟩], rs := [⟨(.int .i64), false, true, false⟩], os := [], bk := [], F := fun x => Fmath_bits_TrailingZeros64 x }
noncomputable def cFmath_bits_TrailingZeros64 : Cx := { nm := [], keep := [], fns := tabF [], loops := [], joins := [], tb := tabs, exts := [], lets := [9, 13] }
theorem eFmath_bits_TrailingZeros64 : (fun x : HT iFmath_bits_TrailingZeros64.ps => iFmath_bits_TrailingZeros64.F x) = fun x => rk Tryd.prog cFmath_bits_TrailingZeros64 (Tryd.f41.body.getD .skip) (HT (iFmath_bits_TrailingZeros64.rs ++ iFmath_bits_TrailingZeros64.os)) 1000000 (finK Tryd.prog [.tmp 2] [] iFmath_bits_TrailingZeros64.os (iFmath_bits_TrailingZeros64.rs ++ iFmath_bits_TrailingZeros64.os)) (initF iFmath_bits_TrailingZeros64.ps iFmath_bits_TrailingZeros64.sh x 14) (initL iFmath_bits_TrailingZeros64.ps x 0) := by kernel_rfl
theorem okFmath_bits_TrailingZeros64 : CallsV Tryd.prog tabs 41 iFmath_bits_TrailingZeros64 :=
  callsV_of_rk (cx := cFmath_bits_TrailingZeros64) (fn := Tryd.f41) (c := Tryd.f41.body.getD .skip) (n := 14) (N := 0) (rvs := [.tmp 2]) (cxOk TabOk.nil XtOk.nil) Tryd.func41 rfl (by kernel_rfl) rfl rfl (fun x => Nat.le_of_ble_eq_true rfl) (by decide) (fun x => congrFun eFmath_bits_TrailingZeros64 x)
noncomputable def Fbeltwayref07_Decode (a0 : (BitVec 64)) : Option (Int × Int × Int × Bool × Int) :=
if ¬ (2#64) = 0#64 then
if (a0 % (2#64)) = (1#64) then
if ¬ (2#64) = 0#64 then
if (a0 / (2#64)).toNat ≥ (16384#64).toNat then
some ((0, 0, 0, false, 12))
else if ¬ (2#64) = 0#64 then
some ((0, 0, w64 (((a0 / (2#64)).toNat : Int)), true, 0))
else none
else none
else if ¬ (256#64) = 0#64 then
if ¬ (2#64) = 0#64 then
if ¬ (256#64) = 0#64 then
if (a0 / (256#64)).toNat > (48#64).toNat then
some ((0, 0, 0, false, 12))
else if (w64 ((((a0 % (256#64)) / (2#64)).toNat : Int))) > 15 then
some ((0, 0, 0, false, 12))
else if (w64 (((a0 / (256#64)).toNat : Int))) < (w64 ((1 : Int) + (w64 ((((a0 % (256#64)) / (2#64)).toNat : Int))))) then
some ((0, 0, 0, false, 12))
else if (w64 ((w64 ((w64 (((a0 / (256#64)).toNat : Int))) - 1)) - (w64 ((((a0 % (256#64)) / (2#64)).toNat : Int))))) > 32 then
some ((0, 0, 0, false, 12))
else some ((w64 ((((a0 % (256#64)) / (2#64)).toNat : Int)), w64 ((w64 ((w64 (((a0 / (256#64)).toNat : Int))) - 1)) - (w64 ((((a0 % (256#64)) / (2#64)).toNat : Int)))), 0, false, 0))
else none
else none
else none
else none
@[reducible] noncomputable def iFbeltwayref07_Decode : FnI := { ps := [⟨.u64, false, false, false⟩], rs := [⟨(.int .i64), false, true, false⟩, ⟨(.int .i64), false, true, false⟩, ⟨(.int .i64), false, true, false⟩, ⟨.bool, false, true, false⟩, ⟨(.int .i64), false, true, false⟩], os := [], bk := [], F := fun x => Fbeltwayref07_Decode x }
noncomputable def cFbeltwayref07_Decode : Cx := { nm := [], keep := [], fns := tabF [], loops := [], joins := [], tb := tabs, exts := [], lets := [] }
theorem eFbeltwayref07_Decode : (fun x : HT iFbeltwayref07_Decode.ps => iFbeltwayref07_Decode.F x) = fun x => rk Tryd.prog cFbeltwayref07_Decode (Tryd.f63.body.getD .skip) (HT (iFbeltwayref07_Decode.rs ++ iFbeltwayref07_Decode.os)) 1000000 (finK Tryd.prog [.tmp 2, .tmp 3, .tmp 4, .tmp 5, .tmp 6] [] iFbeltwayref07_Decode.os (iFbeltwayref07_Decode.rs ++ iFbeltwayref07_Decode.os)) (initF iFbeltwayref07_Decode.ps iFbeltwayref07_Decode.sh x 51) (initL iFbeltwayref07_Decode.ps x 0) := by kernel_rfl
theorem okFbeltwayref07_Decode : CallsV Tryd.prog tabs 63 iFbeltwayref07_Decode :=
  callsV_of_rk (cx := cFbeltwayref07_Decode) (fn := Tryd.f63) (c := Tryd.f63.body.getD .skip) (n := 51) (N := 0) (rvs := [.tmp 2, .tmp 3, .tmp 4, .tmp 5, .tmp 6]) (cxOk TabOk.nil XtOk.nil) Tryd.func63 rfl (by kernel_rfl) rfl rfl (fun x => Nat.le_of_ble_eq_true rfl) (by decide) (fun x => congrFun eFbeltwayref07_Decode x)
noncomputable def Fbeltwayref08_Look (a0 : (Int × (List (BitVec 64)) × (List (Int × Int × Int)))) (a1 : Int) : Option (Int × Int × Int) :=
Option.bind (Fbeltwayref05_Go a0 a1 0) (fun r1 =>
if ¬ r1.2 = 0 then
some ((0, 0, r1.2))
else if 0 ≤ a1 ∧ a1 < (a0.2.1.length : Int) then
Option.bind (Fbeltwayref07_Decode (gl (0#64 : (BitVec 64)) a0.2.1 a1.toNat)) (fun r2 =>
if ¬ r2.2.2.2.2 = 0 then
some ((0, 0, 12))
else if r2.2.2.2.1 = true then
some ((0, 0, 12))
else Option.bind (Fbeltwayref05_Go a0 a1 (w64 (r2.1 + r2.2.1))) (fun r3 =>
if ¬ r3.2 = 0 then
some ((0, 0, 2))
else some ((r2.1, r2.2.1, 0))))
else none)
@[reducible] noncomputable def iFbeltwayref08_Look : FnI := { ps := [⟨(.pair (.int .i64) (.pair (.slice .u64) (.slice (.pair (.int .i64) (.pair (.int .i64) (.int .i64)))))), true, false, false⟩, ⟨(.int .i64), false, false, false⟩], rs := [⟨(.int .i64), false, true, false⟩, ⟨(.int .i64), false, true, false⟩, ⟨(.int .i64), false, true, false⟩], os := [], bk := [], F := fun x => Fbeltwayref08_Look x.1 x.2 }
noncomputable def cFbeltwayref08_Look : Cx := { nm := [(2, (2, 1))], keep := [], fns := tabF [(33, iFbeltwayref05_Go), (63, iFbeltwayref07_Decode)], loops := [], joins := [], tb := tabs, exts := [], lets := [] }
theorem eFbeltwayref08_Look : (fun x : HT iFbeltwayref08_Look.ps => iFbeltwayref08_Look.F x) = fun x => rk Tryd.prog cFbeltwayref08_Look (Tryd.f49.body.getD .skip) (HT (iFbeltwayref08_Look.rs ++ iFbeltwayref08_Look.os)) 1000000 (finK Tryd.prog [.tmp 4, .tmp 5, .tmp 6] [] iFbeltwayref08_Look.os (iFbeltwayref08_Look.rs ++ iFbeltwayref08_Look.os)) (initF iFbeltwayref08_Look.ps iFbeltwayref08_Look.sh x 55) (initL iFbeltwayref08_Look.ps x 1) := by kernel_rfl
theorem okFbeltwayref08_Look : CallsV Tryd.prog tabs 49 iFbeltwayref08_Look :=
  callsV_of_rk (cx := cFbeltwayref08_Look) (fn := Tryd.f49) (c := Tryd.f49.body.getD .skip) (n := 55) (N := 1) (rvs := [.tmp 4, .tmp 5, .tmp 6]) (cxOk (.cons okFbeltwayref05_Go (.cons okFbeltwayref07_Decode TabOk.nil)) XtOk.nil) Tryd.func49 rfl (by kernel_rfl) rfl rfl (fun x => Nat.le_of_ble_eq_true rfl) (by decide) (fun x => congrFun eFbeltwayref08_Look x)
noncomputable def Fbeltwayref08_Place (a0 : (Int × (List (BitVec 64)) × (List (Int × Int × Int)))) (a1 : Int) (a2 : Int) (a3 : Bool) : Option (Int × Int) :=
Option.bind (Fbeltwayref08_Look a0 a1) (fun r1 =>
if ¬ r1.2.2 = 0 then
some ((0, r1.2.2))
else if a3 = true then
if a2 < 0 then
some ((0, 17))
else if a2 ≥ r1.1 then
some ((0, 17))
else Option.bind (Fbeltwayref05_Go a0 a1 (w64 ((1 : Int) + a2))) (fun r2 =>
some ((r2.1, r2.2)))
else if a2 < 0 then
some ((0, 17))
else if a2 ≥ r1.2.1 then
some ((0, 17))
else Option.bind (Fbeltwayref05_Go a0 a1 (w64 ((w64 ((1 : Int) + r1.1)) + a2))) (fun r3 =>
some ((r3.1, r3.2))))
@[reducible] noncomputable def iFbeltwayref08_Place : FnI := { ps := [⟨(.pair (.int .i64) (.pair (.slice .u64) (.slice (.pair (.int .i64) (.pair (.int .i64) (.int .i64)))))), true, false, false⟩, ⟨(.int .i64), false, false, false⟩, ⟨(.int .i64), false, false, false⟩, ⟨.bool, false, false, false⟩], rs := [⟨(.int .i64), false, true, false⟩, ⟨(.int .i64), false, true, false⟩], os := [], bk := [], F := fun x => Fbeltwayref08_Place x.1 x.2.1 x.2.2.1 x.2.2.2 }
noncomputable def cFbeltwayref08_Place : Cx := { nm := [(4, (2, 1))], keep := [], fns := tabF [(33, iFbeltwayref05_Go), (49, iFbeltwayref08_Look)], loops := [], joins := [], tb := tabs, exts := [], lets := [] }
theorem eFbeltwayref08_Place : (fun x : HT iFbeltwayref08_Place.ps => iFbeltwayref08_Place.F x) = fun x => rk Tryd.prog cFbeltwayref08_Place (Tryd.f36.body.getD .skip) (HT (iFbeltwayref08_Place.rs ++ iFbeltwayref08_Place.os)) 1000000 (finK Tryd.prog [.tmp 8, .tmp 9] [] iFbeltwayref08_Place.os (iFbeltwayref08_Place.rs ++ iFbeltwayref08_Place.os)) (initF iFbeltwayref08_Place.ps iFbeltwayref08_Place.sh x 45) (initL iFbeltwayref08_Place.ps x 1) := by kernel_rfl
theorem okFbeltwayref08_Place : CallsV Tryd.prog tabs 36 iFbeltwayref08_Place :=
  callsV_of_rk (cx := cFbeltwayref08_Place) (fn := Tryd.f36) (c := Tryd.f36.body.getD .skip) (n := 45) (N := 1) (rvs := [.tmp 8, .tmp 9]) (cxOk (.cons okFbeltwayref05_Go (.cons okFbeltwayref08_Look TabOk.nil)) XtOk.nil) Tryd.func36 rfl (by kernel_rfl) rfl rfl (fun x => Nat.le_of_ble_eq_true rfl) (by decide) (fun x => congrFun eFbeltwayref08_Place x)
noncomputable def Fbeltwayref08_set (a0 : (Int × (List (BitVec 64)) × (List (Int × Int × Int)))) (a1 : Int) (a2 : Int) (a3 : Bool) (a4 : (BitVec 64)) : Option ((Int × (List (BitVec 64)) × (List (Int × Int × Int))) × Int) :=
Option.bind (Fbeltwayref03_Valid a0) (fun r1 =>
if (!r1) = true then
some (((0, [], []), 1))
else Option.bind (Fbeltwayref08_Place a0 a1 a2 a3) (fun r2 =>
if ¬ r2.2 = 0 then
some (((0, [], []), r2.2))
else Option.bind (Fbeltwayref03_Copy a0) (fun r3 =>
if 0 ≤ r2.1 ∧ r2.1 < (r3.2.1.length : Int) then
some (((r3.1, r3.2.1.set r2.1.toNat a4, r3.2.2), 0))
else none)))
@[reducible] noncomputable def iFbeltwayref08_set : FnI := { ps := [⟨(.pair (.int .i64) (.pair (.slice .u64) (.slice (.pair (.int .i64) (.pair (.int .i64) (.int .i64)))))), true, false, false⟩, ⟨(.int .i64), false, false, false⟩, ⟨(.int .i64), false, false, false⟩, ⟨.bool, false, false, false⟩, ⟨.u64, false, false, false⟩], rs := [⟨(.pair (.int .i64) (.pair (.slice .u64) (.slice (.pair (.int .i64) (.pair (.int .i64) (.int .i64)))))), true, true, false⟩, ⟨(.int .i64), false, true, false⟩], os := [], bk := [], F := fun x => Fbeltwayref08_set x.1 x.2.1 x.2.2.1 x.2.2.2.1 x.2.2.2.2 }
noncomputable def cFbeltwayref08_set : Cx := { nm := [(5, (2, 1)), (10, (3, 1)), (14, (6, 1)), (32, (4, 2))], keep := [], fns := tabF [(14, iFbeltwayref03_Copy), (16, iFbeltwayref03_Valid), (36, iFbeltwayref08_Place)], loops := [], joins := [], tb := tabs, exts := [], lets := [] }
theorem eFbeltwayref08_set : (fun x : HT iFbeltwayref08_set.ps => iFbeltwayref08_set.F x) = fun x => rk Tryd.prog cFbeltwayref08_set (Tryd.f18.body.getD .skip) (HT (iFbeltwayref08_set.rs ++ iFbeltwayref08_set.os)) 1000000 (finK Tryd.prog [.cell 10 26, .tmp 11] [] iFbeltwayref08_set.os (iFbeltwayref08_set.rs ++ iFbeltwayref08_set.os)) (initF iFbeltwayref08_set.ps iFbeltwayref08_set.sh x 39) (initL iFbeltwayref08_set.ps x 5) := by kernel_rfl
theorem okFbeltwayref08_set : CallsV Tryd.prog tabs 18 iFbeltwayref08_set :=
  callsV_of_rk (cx := cFbeltwayref08_set) (fn := Tryd.f18) (c := Tryd.f18.body.getD .skip) (n := 39) (N := 5) (rvs := [.cell 10 26, .tmp 11]) (cxOk (.cons okFbeltwayref03_Copy (.cons okFbeltwayref03_Valid (.cons okFbeltwayref08_Place TabOk.nil))) XtOk.nil) Tryd.func18 rfl (by kernel_rfl) rfl rfl (fun x => Nat.le_of_ble_eq_true rfl) (by decide) (fun x => congrFun eFbeltwayref08_set x)
noncomputable def Fbeltwayref08_SetRef (a0 : (Int × (List (BitVec 64)) × (List (Int × Int × Int)))) (a1 : Int) (a2 : Int) (a3 : (BitVec 64)) : Option ((Int × (List (BitVec 64)) × (List (Int × Int × Int))) × Int) :=
Option.bind (Fbeltwayref08_set a0 a1 a2 true a3) (fun r1 =>
some ((r1.1, r1.2)))
@[reducible] noncomputable def iFbeltwayref08_SetRef : FnI := { ps := [⟨(.pair (.int .i64) (.pair (.slice .u64) (.slice (.pair (.int .i64) (.pair (.int .i64) (.int .i64)))))), true, false, false⟩, ⟨(.int .i64), false, false, false⟩, ⟨(.int .i64), false, false, false⟩, ⟨.u64, false, false, false⟩], rs := [⟨(.pair (.int .i64) (.pair (.slice .u64) (.slice (.pair (.int .i64) (.pair (.int .i64) (.int .i64)))))), true, true, false⟩, ⟨(.int .i64), false, true, false⟩], os := [], bk := [], F := fun x => Fbeltwayref08_SetRef x.1 x.2.1 x.2.2.1 x.2.2.2 }
noncomputable def cFbeltwayref08_SetRef : Cx := { nm := [(4, (2, 1)), (8, (3, 1)), (14, (4, 2))], keep := [], fns := tabF [(18, iFbeltwayref08_set)], loops := [], joins := [], tb := tabs, exts := [], lets := [] }
theorem eFbeltwayref08_SetRef : (fun x : HT iFbeltwayref08_SetRef.ps => iFbeltwayref08_SetRef.F x) = fun x => rk Tryd.prog cFbeltwayref08_SetRef (Tryd.f8.body.getD .skip) (HT (iFbeltwayref08_SetRef.rs ++ iFbeltwayref08_SetRef.os)) 1000000 (finK Tryd.prog [.cell 8 26, .tmp 9] [] iFbeltwayref08_SetRef.os (iFbeltwayref08_SetRef.rs ++ iFbeltwayref08_SetRef.os)) (initF iFbeltwayref08_SetRef.ps iFbeltwayref08_SetRef.sh x 17) (initL iFbeltwayref08_SetRef.ps x 4) := by kernel_rfl
theorem okFbeltwayref08_SetRef : CallsV Tryd.prog tabs 8 iFbeltwayref08_SetRef :=
  callsV_of_rk (cx := cFbeltwayref08_SetRef) (fn := Tryd.f8) (c := Tryd.f8.body.getD .skip) (n := 17) (N := 4) (rvs := [.cell 8 26, .tmp 9]) (cxOk (.cons okFbeltwayref08_set TabOk.nil) XtOk.nil) Tryd.func8 rfl (by kernel_rfl) rfl rfl (fun x => Nat.le_of_ble_eq_true rfl) (by decide) (fun x => congrFun eFbeltwayref08_SetRef x)
noncomputable def Fevacuate_Copy_1 (a0 : Int) : Option ((Int × (List (BitVec 64)) × (List (Int × Int × Int))) × (Int × Int × Int × Int × Int) × (List (Int × Int)) × (List (BitVec 64)) × Int) :=
some (((0, [], []), (0, 0, 0, 0, 0), [], [], a0))
@[reducible] noncomputable def iFevacuate_Copy_1 : FnI := { ps := [⟨(.int .i64), false, false, false⟩], rs := [⟨(.pair (.int .i64) (.pair (.slice .u64) (.slice (.pair (.int .i64) (.pair (.int .i64) (.int .i64)))))), true, true, false⟩, ⟨(.pair (.int .i64) (.pair (.int .i64) (.pair (.int .i64) (.pair (.int .i64) (.int .i64))))), true, true, false⟩, ⟨(.slice (.pair (.int .i64) (.int .i64))), false, true, false⟩, ⟨(.slice .u64), false, true, false⟩, ⟨(.int .i64), false, true, false⟩], os := [], bk := [], F := fun x => Fevacuate_Copy_1 x }
noncomputable def cFevacuate_Copy_1 : Cx := { nm := [(2, (0, 1)), (3, (1, 1))], keep := [], fns := tabF [], loops := [], joins := [], tb := tabs, exts := [], lets := [] }
theorem eFevacuate_Copy_1 : (fun x : HT iFevacuate_Copy_1.ps => iFevacuate_Copy_1.F x) = fun x => rk Tryd.prog cFevacuate_Copy_1 (Tryd.f19.body.getD .skip) (HT (iFevacuate_Copy_1.rs ++ iFevacuate_Copy_1.os)) 1000000 (finK Tryd.prog [.cell 2 26, .cell 3 31, .tmp 4, .tmp 5, .tmp 6] [] iFevacuate_Copy_1.os (iFevacuate_Copy_1.rs ++ iFevacuate_Copy_1.os)) (initF iFevacuate_Copy_1.ps iFevacuate_Copy_1.sh x 10) (initL iFevacuate_Copy_1.ps x 2) := by kernel_rfl
theorem okFevacuate_Copy_1 : CallsV Tryd.prog tabs 19 iFevacuate_Copy_1 :=
  callsV_of_rk (cx := cFevacuate_Copy_1) (fn := Tryd.f19) (c := Tryd.f19.body.getD .skip) (n := 10) (N := 2) (rvs := [.cell 2 26, .cell 3 31, .tmp 4, .tmp 5, .tmp 6]) (cxOk TabOk.nil XtOk.nil) Tryd.func19 rfl (by kernel_rfl) rfl rfl (fun x => Nat.le_of_ble_eq_true rfl) (by decide) (fun x => congrFun eFevacuate_Copy_1 x)
noncomputable def Fchain_in (a0 : (Int × (List (BitVec 64)) × (List (Int × Int × Int)))) (a1 : Int) : Option Bool :=
if a1 ≥ 0 then
some (decide (a1 < (a0.2.2.length : Int)))
else some (false)
@[reducible] noncomputable def iFchain_in : FnI := { ps := [⟨(.pair (.int .i64) (.pair (.slice .u64) (.slice (.pair (.int .i64) (.pair (.int .i64) (.int .i64)))))), true, false, false⟩, ⟨(.int .i64), false, false, false⟩], rs := [⟨.bool, false, true, false⟩], os := [], bk := [], F := fun x => Fchain_in x.1 x.2 }
noncomputable def cFchain_in : Cx := { nm := [(2, (2, 1))], keep := [], fns := tabF [], loops := [], joins := [], tb := tabs, exts := [], lets := [] }
theorem eFchain_in : (fun x : HT iFchain_in.ps => iFchain_in.F x) = fun x => rk Tryd.prog cFchain_in (Tryd.f66.body.getD .skip) (HT (iFchain_in.rs ++ iFchain_in.os)) 1000000 (finK Tryd.prog [.tmp 4] [] iFchain_in.os (iFchain_in.rs ++ iFchain_in.os)) (initF iFchain_in.ps iFchain_in.sh x 14) (initL iFchain_in.ps x 1) := by kernel_rfl
theorem okFchain_in : CallsV Tryd.prog tabs 66 iFchain_in :=
  callsV_of_rk (cx := cFchain_in) (fn := Tryd.f66) (c := Tryd.f66.body.getD .skip) (n := 14) (N := 1) (rvs := [.tmp 4]) (cxOk TabOk.nil XtOk.nil) Tryd.func66 rfl (by kernel_rfl) rfl rfl (fun x => Nat.le_of_ble_eq_true rfl) (by decide) (fun x => congrFun eFchain_in x)
noncomputable def Fchain_free (a0 : (Int × (List (BitVec 64)) × (List (Int × Int × Int)))) (a1 : Int) : Option Bool :=
if 0 ≤ a1 ∧ a1 < (a0.2.2.length : Int) then
some (decide (((gl ((0, 0, 0) : (Int × Int × Int)) a0.2.2 a1.toNat).1) = (-1)))
else none
@[reducible] noncomputable def iFchain_free : FnI := { ps := [⟨(.pair (.int .i64) (.pair (.slice .u64) (.slice (.pair (.int .i64) (.pair (.int .i64) (.int .i64)))))), true, false, false⟩, ⟨(.int .i64), false, false, false⟩], rs := [⟨.bool, false, true, false⟩], os := [], bk := [], F := fun x => Fchain_free x.1 x.2 }
noncomputable def cFchain_free : Cx := { nm := [(2, (2, 1))], keep := [], fns := tabF [], loops := [], joins := [], tb := tabs, exts := [], lets := [] }
theorem eFchain_free : (fun x : HT iFchain_free.ps => iFchain_free.F x) = fun x => rk Tryd.prog cFchain_free (Tryd.f67.body.getD .skip) (HT (iFchain_free.rs ++ iFchain_free.os)) 1000000 (finK Tryd.prog [.tmp 4] [] iFchain_free.os (iFchain_free.rs ++ iFchain_free.os)) (initF iFchain_free.ps iFchain_free.sh x 12) (initL iFchain_free.ps x 1) := by kernel_rfl
theorem okFchain_free : CallsV Tryd.prog tabs 67 iFchain_free :=
  callsV_of_rk (cx := cFchain_free) (fn := Tryd.f67) (c := Tryd.f67.body.getD .skip) (n := 12) (N := 1) (rvs := [.tmp 4]) (cxOk TabOk.nil XtOk.nil) Tryd.func67 rfl (by kernel_rfl) rfl rfl (fun x => Nat.le_of_ble_eq_true rfl) (by decide) (fun x => congrFun eFchain_free x)
noncomputable def Fchain_List (a0 : (Int × (List (BitVec 64)) × (List (Int × Int × Int)))) (a1 : Int) : Option ((List Int) × Int) :=
Option.bind (Fframe_Valid a0) (fun r1 =>
if (!r1) = true then
some (([], 1))
else Option.bind (Fchain_in a0 a1) (fun r2 =>
if (!r2) = true then
some (([], 2))
else Option.bind (Fchain_free a0 a1) (fun r3 =>
if r3 = true then
some (([], 5))
else loopO (σ := ((List Int) × Int)) (β := ((List Int) × Int)) (fun s1 =>
if s1.2 ≥ 0 then
if (s1.1.length + ([s1.2] : List Int).length) * 8 ≤ 140737488355328 then
if 0 ≤ s1.2 ∧ s1.2 < (a0.2.2.length : Int) then
some (Sum.inl ((s1.1 ++ ([s1.2] : List Int), ((gl ((0, 0, 0) : (Int × Int × Int)) a0.2.2 s1.2.toNat).2).2)))
else none
else none
else some (Sum.inr ((s1.1, 0)))) (([], a1)))))
@[reducible] noncomputable def iFchain_List : FnI := { ps := [⟨(.pair (.int .i64) (.pair (.slice .u64) (.slice (.pair (.int .i64) (.pair (.int .i64) (.int .i64)))))), true, false, false⟩, ⟨(.int .i64), false, false, false⟩], rs := [⟨(.slice (.int .i64)), false, true, false⟩, ⟨(.int .i64), false, true, false⟩], os := [], bk := [], F := fun x => Fchain_List x.1 x.2 }
noncomputable def cFchain_List : Cx := { nm := [(2, (2, 1)), (29, (4, 1)), (30, (5, 1))], keep := [30], fns := tabF [(37, iFframe_Valid), (66, iFchain_in), (67, iFchain_free)], loops := [(0, { live := [(6, ⟨(.slice (.int .i64)), false, true, false⟩), (7, ⟨(.int .i64), false, false, false⟩)], boxes := [], rows := [], dead := [19, 20, 21, 22, 23, 24, 25, 26, 27, 28, 29, 30], lost := [], base := 3 })], joins := [], tb := tabs, exts := [], lets := [] }
theorem eFchain_List : (fun x : HT iFchain_List.ps => iFchain_List.F x) = fun x => rk Tryd.prog cFchain_List (Tryd.f55.body.getD .skip) (HT (iFchain_List.rs ++ iFchain_List.os)) 1000000 (finK Tryd.prog [.tmp 4, .tmp 5] [] iFchain_List.os (iFchain_List.rs ++ iFchain_List.os)) (initF iFchain_List.ps iFchain_List.sh x 32) (initL iFchain_List.ps x 4) := by kernel_rfl
theorem okFchain_List : CallsV Tryd.prog tabs 55 iFchain_List :=
  callsV_of_rk (cx := cFchain_List) (fn := Tryd.f55) (c := Tryd.f55.body.getD .skip) (n := 32) (N := 4) (rvs := [.tmp 4, .tmp 5]) (cxOk (.cons okFframe_Valid (.cons okFchain_in (.cons okFchain_free TabOk.nil))) XtOk.nil) Tryd.func55 rfl (by kernel_rfl) rfl rfl (fun x => Nat.le_of_ble_eq_true rfl) (by decide) (fun x => congrFun eFchain_List x)
noncomputable def Fbits_Ceil (a0 : Int) (a1 : Int) : Option Int :=
if a0 < 0 then
some (0)
else if a0 > 1099511627776 then
some (0)
else if a1 < 0 then
some (0)
else if a1 > 20 then
some (0)
else if True then
if True then
some ((w64 ((w64 (a0 + (w64 ((1 : Int) * 2 ^ min (BitVec.ofInt 64 a1).toNat 64)))) - 1)) / 2 ^ min (BitVec.ofInt 64 a1).toNat 64)
else none
else none
@[reducible] noncomputable def iFbits_Ceil : FnI := { ps := [⟨(.int .i64), false, false, false⟩, ⟨(.int .i64), false, false, false⟩], rs := [⟨(.int .i64), false, true, false⟩], os := [], bk := [], F := fun x => Fbits_Ceil x.1 x.2 }
noncomputable def cFbits_Ceil : Cx := { nm := [], keep := [], fns := tabF [], loops := [], joins := [], tb := tabs, exts := [], lets := [] }
theorem eFbits_Ceil : (fun x : HT iFbits_Ceil.ps => iFbits_Ceil.F x) = fun x => rk Tryd.prog cFbits_Ceil (Tryd.f68.body.getD .skip) (HT (iFbits_Ceil.rs ++ iFbits_Ceil.os)) 1000000 (finK Tryd.prog [.tmp 4] [] iFbits_Ceil.os (iFbits_Ceil.rs ++ iFbits_Ceil.os)) (initF iFbits_Ceil.ps iFbits_Ceil.sh x 28) (initL iFbits_Ceil.ps x 0) := by kernel_rfl
theorem okFbits_Ceil : CallsV Tryd.prog tabs 68 iFbits_Ceil :=
  callsV_of_rk (cx := cFbits_Ceil) (fn := Tryd.f68) (c := Tryd.f68.body.getD .skip) (n := 28) (N := 0) (rvs := [.tmp 4]) (cxOk TabOk.nil XtOk.nil) Tryd.func68 rfl (by kernel_rfl) rfl rfl (fun x => Nat.le_of_ble_eq_true rfl) (by decide) (fun x => congrFun eFbits_Ceil x)
noncomputable def Fbump_Frames (a0 : (Int × (List (BitVec 64)) × (List (Int × Int × Int)))) (a1 : (Int × Int × Int × Int × Int)) : Option Int :=
Option.bind (Fbits_Ceil a1.2.2.2.2 a0.1) (fun r1 =>
some (r1))
@[reducible] noncomputable def iFbump_Frames : FnI := { ps := [⟨(.pair (.int .i64) (.pair (.slice .u64) (.slice (.pair (.int .i64) (.pair (.int .i64) (.int .i64)))))), true, false, false⟩, ⟨(.pair (.int .i64) (.pair (.int .i64) (.pair (.int .i64) (.pair (.int .i64) (.int .i64))))), true, false, false⟩], rs := [⟨(.int .i64), false, true, false⟩], os := [], bk := [], F := fun x => Fbump_Frames x.1 x.2 }
noncomputable def cFbump_Frames : Cx := { nm := [(2, (2, 1)), (3, (3, 1))], keep := [], fns := tabF [(68, iFbits_Ceil)], loops := [], joins := [], tb := tabs, exts := [], lets := [] }
theorem eFbump_Frames : (fun x : HT iFbump_Frames.ps => iFbump_Frames.F x) = fun x => rk Tryd.prog cFbump_Frames (Tryd.f56.body.getD .skip) (HT (iFbump_Frames.rs ++ iFbump_Frames.os)) 1000000 (finK Tryd.prog [.tmp 4] [] iFbump_Frames.os (iFbump_Frames.rs ++ iFbump_Frames.os)) (initF iFbump_Frames.ps iFbump_Frames.sh x 10) (initL iFbump_Frames.ps x 2) := by kernel_rfl
theorem okFbump_Frames : CallsV Tryd.prog tabs 56 iFbump_Frames :=
  callsV_of_rk (cx := cFbump_Frames) (fn := Tryd.f56) (c := Tryd.f56.body.getD .skip) (n := 10) (N := 2) (rvs := [.tmp 4]) (cxOk (.cons okFbits_Ceil TabOk.nil) XtOk.nil) Tryd.func56 rfl (by kernel_rfl) rfl rfl (fun x => Nat.le_of_ble_eq_true rfl) (by decide) (fun x => congrFun eFbump_Frames x)
noncomputable def Fbump_owns (a0 : (Int × (List (BitVec 64)) × (List (Int × Int × Int)))) (a1 : Int) : Option Int :=
loopO (σ := (Int × Int)) (β := Int) (fun s1 =>
if s1.2 < (a0.2.2.length : Int) then
if 0 ≤ s1.2 ∧ s1.2 < (a0.2.2.length : Int) then
if ((gl ((0, 0, 0) : (Int × Int × Int)) a0.2.2 s1.2.toNat).1) = a1 then
some (Sum.inl ((w64 (s1.1 + 1), w64 (s1.2 + 1))))
else some (Sum.inl ((s1.1, w64 (s1.2 + 1))))
else none
else some (Sum.inr (s1.1))) ((0, 0))
@[reducible] noncomputable def iFbump_owns : FnI := { ps := [⟨(.pair (.int .i64) (.pair (.slice .u64) (.slice (.pair (.int .i64) (.pair (.int .i64) (.int .i64)))))), true, false, false⟩, ⟨(.int .i64), false, false, false⟩], rs := [⟨(.int .i64), false, true, false⟩], os := [], bk := [], F := fun x => Fbump_owns x.1 x.2 }
noncomputable def cFbump_owns : Cx := { nm := [(2, (2, 1)), (7, (3, 1))], keep := [], fns := tabF [], loops := [(0, { live := [(5, ⟨(.int .i64), false, false, false⟩), (11, ⟨(.int .i64), false, false, false⟩)], boxes := [], rows := [], dead := [7, 12, 13, 14, 15, 16, 17, 18, 19, 20, 21], lost := [], base := 3 })], joins := [], tb := tabs, exts := [], lets := [] }
theorem eFbump_owns : (fun x : HT iFbump_owns.ps => iFbump_owns.F x) = fun x => rk Tryd.prog cFbump_owns (Tryd.f57.body.getD .skip) (HT (iFbump_owns.rs ++ iFbump_owns.os)) 1000000 (finK Tryd.prog [.tmp 4] [] iFbump_owns.os (iFbump_owns.rs ++ iFbump_owns.os)) (initF iFbump_owns.ps iFbump_owns.sh x 23) (initL iFbump_owns.ps x 2) := by kernel_rfl
theorem okFbump_owns : CallsV Tryd.prog tabs 57 iFbump_owns :=
  callsV_of_rk (cx := cFbump_owns) (fn := Tryd.f57) (c := Tryd.f57.body.getD .skip) (n := 23) (N := 2) (rvs := [.tmp 4]) (cxOk TabOk.nil XtOk.nil) Tryd.func57 rfl (by kernel_rfl) rfl rfl (fun x => Nat.le_of_ble_eq_true rfl) (by decide) (fun x => congrFun eFbump_owns x)
noncomputable def Fbump_Valid (a0 : (Int × (List (BitVec 64)) × (List (Int × Int × Int)))) (a1 : (Int × Int × Int × Int × Int)) : Option Bool :=
Option.bind (Fframe_Valid a0) (fun r1 =>
if (!r1) = true then
some (false)
else if a1.1 < 0 then
some (false)
else if a1.1 > 4294967295 then
some (false)
else if a1.2.1 < 0 then
some (false)
else if a1.2.1 ≥ 4 then
some (false)
else if a1.2.2.2.2 < 0 then
some (false)
else if a1.2.2.2.2 = 0 then
if a1.2.2.1 = (-1) then
some (decide (a1.2.2.2.1 = (-1)))
else some (false)
else Option.bind (Fchain_List a0 a1.2.2.1) (fun r2 =>
if ¬ r2.2 = 0 then
some (false)
else if a1.2.2.2.2 > (a0.2.1.length : Int) then
some (false)
else if 0 ≤ (w64 ((r2.1.length : Int) - 1)) ∧ (w64 ((r2.1.length : Int) - 1)) < (r2.1.length : Int) then
if ¬ (gl (0 : Int) r2.1 ((w64 ((r2.1.length : Int) - 1)).toNat)) = a1.2.2.2.1 then
some (false)
else Option.bind (Fbump_Frames a0 a1) (fun r3 =>
if ¬ (r2.1.length : Int) = r3 then
some (false)
else Option.bind (Fbump_owns a0 a1.1) (fun r4 =>
if ¬ (r2.1.length : Int) = r4 then
some (false)
else if 0 ≤ a1.2.2.1 ∧ a1.2.2.1 < (a0.2.2.length : Int) then
if ((gl ((0, 0, 0) : (Int × Int × Int)) a0.2.2 a1.2.2.1.toNat).1) = a1.1 then
some (decide ((((gl ((0, 0, 0) : (Int × Int × Int)) a0.2.2 a1.2.2.1.toNat).2).1) = (w64 ((w64 (a1.2.1 * 4294967296)) + a1.1))))
else some (false)
else none))
else none))
@[reducible] noncomputable def iFbump_Valid : FnI := { ps := [⟨(.pair (.int .i64) (.pair (.slice .u64) (.slice (.pair (.int .i64) (.pair (.int .i64) (.int .i64)))))), true, false, false⟩, ⟨(.pair (.int .i64) (.pair (.int .i64) (.pair (.int .i64) (.pair (.int .i64) (.int .i64))))), true, false, false⟩], rs := [⟨.bool, false, true, false⟩], os := [], bk := [], F := fun x => Fbump_Valid x.1 x.2 }
noncomputable def cFbump_Valid : Cx := { nm := [(2, (2, 1)), (3, (3, 1)), (7, (5, 1)), (51, (4, 1))], keep := [], fns := tabF [(37, iFframe_Valid), (55, iFchain_List), (56, iFbump_Frames), (57, iFbump_owns)], loops := [], joins := [], tb := tabs, exts := [], lets := [] }
theorem eFbump_Valid : (fun x : HT iFbump_Valid.ps => iFbump_Valid.F x) = fun x => rk Tryd.prog cFbump_Valid (Tryd.f39.body.getD .skip) (HT (iFbump_Valid.rs ++ iFbump_Valid.os)) 1000000 (finK Tryd.prog [.tmp 4] [] iFbump_Valid.os (iFbump_Valid.rs ++ iFbump_Valid.os)) (initF iFbump_Valid.ps iFbump_Valid.sh x 114) (initL iFbump_Valid.ps x 4) := by kernel_rfl
theorem okFbump_Valid : CallsV Tryd.prog tabs 39 iFbump_Valid :=
  callsV_of_rk (cx := cFbump_Valid) (fn := Tryd.f39) (c := Tryd.f39.body.getD .skip) (n := 114) (N := 4) (rvs := [.tmp 4]) (cxOk (.cons okFframe_Valid (.cons okFchain_List (.cons okFbump_Frames (.cons okFbump_owns TabOk.nil)))) XtOk.nil) Tryd.func39 rfl (by kernel_rfl) rfl rfl (fun x => Nat.le_of_ble_eq_true rfl) (by decide) (fun x => congrFun eFbump_Valid x)
noncomputable def Fframe_bounded (a0 : (Int × (List (BitVec 64)) × (List (Int × Int × Int)))) : Option Bool :=
Option.bind (Fframe_shift a0.1) (fun r1 =>
if r1 = true then
some (decide ((a0.2.2.length : Int) ≤ 64))
else some (false))
@[reducible] noncomputable def iFframe_bounded : FnI := { ps := [⟨(.pair (.int .i64) (.pair (.slice .u64) (.slice (.pair (.int .i64) (.pair (.int .i64) (.int .i64)))))), true, false, false⟩], rs := [⟨.bool, false, true, false⟩], os := [], bk := [], F := fun x => Fframe_bounded x }
noncomputable def cFframe_bounded : Cx := { nm := [(1, (2, 1))], keep := [], fns := tabF [(50, iFframe_shift)], loops := [], joins := [], tb := tabs, exts := [], lets := [] }
theorem eFframe_bounded : (fun x : HT iFframe_bounded.ps => iFframe_bounded.F x) = fun x => rk Tryd.prog cFframe_bounded (Tryd.f70.body.getD .skip) (HT (iFframe_bounded.rs ++ iFframe_bounded.os)) 1000000 (finK Tryd.prog [.tmp 2] [] iFframe_bounded.os (iFframe_bounded.rs ++ iFframe_bounded.os)) (initF iFframe_bounded.ps iFframe_bounded.sh x 12) (initL iFframe_bounded.ps x 1) := by kernel_rfl
theorem okFframe_bounded : CallsV Tryd.prog tabs 70 iFframe_bounded :=
  callsV_of_rk (cx := cFframe_bounded) (fn := Tryd.f70) (c := Tryd.f70.body.getD .skip) (n := 12) (N := 1) (rvs := [.tmp 2]) (cxOk (.cons okFframe_shift TabOk.nil) XtOk.nil) Tryd.func70 rfl (by kernel_rfl) rfl rfl (fun x => Nat.le_of_ble_eq_true rfl) (by decide) (fun x => congrFun eFframe_bounded x)
noncomputable def Fframe_Base (a0 : (Int × (List (BitVec 64)) × (List (Int × Int × Int)))) (a1 : Int) : Option (Int × Int) :=
Option.bind (Fframe_bounded a0) (fun r1 =>
if (!r1) = true then
some ((0, 1))
else if a1 < 0 then
some ((0, 2))
else if a1 ≥ (a0.2.2.length : Int) then
some ((0, 2))
else if True then
some ((w64 (a1 * 2 ^ min (BitVec.ofInt 64 a0.1).toNat 64), 0))
else none)
@[reducible] noncomputable def iFframe_Base : FnI := { ps := [⟨(.pair (.int .i64) (.pair (.slice .u64) (.slice (.pair (.int .i64) (.pair (.int .i64) (.int .i64)))))), true, false, false⟩, ⟨(.int .i64), false, false, false⟩], rs := [⟨(.int .i64), false, true, false⟩, ⟨(.int .i64), false, true, false⟩], os := [], bk := [], F := fun x => Fframe_Base x.1 x.2 }
noncomputable def cFframe_Base : Cx := { nm := [(2, (2, 1))], keep := [], fns := tabF [(70, iFframe_bounded)], loops := [], joins := [], tb := tabs, exts := [], lets := [] }
theorem eFframe_Base : (fun x : HT iFframe_Base.ps => iFframe_Base.F x) = fun x => rk Tryd.prog cFframe_Base (Tryd.f64.body.getD .skip) (HT (iFframe_Base.rs ++ iFframe_Base.os)) 1000000 (finK Tryd.prog [.tmp 4, .tmp 5] [] iFframe_Base.os (iFframe_Base.rs ++ iFframe_Base.os)) (initF iFframe_Base.ps iFframe_Base.sh x 23) (initL iFframe_Base.ps x 1) := by kernel_rfl
theorem okFframe_Base : CallsV Tryd.prog tabs 64 iFframe_Base :=
  callsV_of_rk (cx := cFframe_Base) (fn := Tryd.f64) (c := Tryd.f64.body.getD .skip) (n := 23) (N := 1) (rvs := [.tmp 4, .tmp 5]) (cxOk (.cons okFframe_bounded TabOk.nil) XtOk.nil) Tryd.func64 rfl (by kernel_rfl) rfl rfl (fun x => Nat.le_of_ble_eq_true rfl) (by decide) (fun x => congrFun eFframe_Base x)
noncomputable def Fchain_Step (a0 : (Int × (List (BitVec 64)) × (List (Int × Int × Int)))) (a1 : Int) (a2 : Int) : Option (Int × Int) :=
Option.bind (Fframe_Valid a0) (fun r1 =>
if (!r1) = true then
some ((0, 1))
else if a1 < 0 then
some ((0, 2))
else if a1 ≥ (a0.2.1.length : Int) then
some ((0, 2))
else if a2 < 0 then
some ((0, 2))
else if True then
Option.bind (Fframe_Size a0) (fun r2 =>
Option.bind (Fframe_Size a0) (fun r3 =>
Option.bind (Fchain_free a0 (a1 / 2 ^ min (BitVec.ofInt 64 a0.1).toNat 64)) (fun r4 =>
if r4 = true then
some ((0, 5))
else if a2 > (a0.2.1.length : Int) then
some ((0, 2))
else loopO (σ := (Int × Int)) (β := (Int × Int)) (fun s1 =>
if s1.1 ≥ 0 then
if s1.2 < r3 then
if True then
some (Sum.inr ((w64 ((w64 (s1.1 * 2 ^ min (BitVec.ofInt 64 a0.1).toNat 64)) + s1.2), 0)))
else none
else if 0 ≤ s1.1 ∧ s1.1 < (a0.2.2.length : Int) then
some (Sum.inl ((((gl ((0, 0, 0) : (Int × Int × Int)) a0.2.2 s1.1.toNat).2).2, w64 (s1.2 - r3))))
else none
else some (Sum.inr ((0, 2)))) ((a1 / 2 ^ min (BitVec.ofInt 64 a0.1).toNat 64, w64 ((iBits .and a1 (w64 (r2 - 1))) + a2))))))
else none)
@[reducible] noncomputable def iFchain_Step : FnI := { ps := [⟨(.pair (.int .i64) (.pair (.slice .u64) (.slice (.pair (.int .i64) (.pair (.int .i64) (.int .i64)))))), true, false, false⟩, ⟨(.int .i64), false, false, false⟩, ⟨(.int .i64), false, false, false⟩], rs := [⟨(.int .i64), false, true, false⟩, ⟨(.int .i64), false, true, false⟩], os := [], bk := [], F := fun x => Fchain_Step x.1 x.2.1 x.2.2 }
noncomputable def cFchain_Step : Cx := { nm := [(3, (2, 1))], keep := [], fns := tabF [(37, iFframe_Valid), (67, iFchain_free), (71, iFframe_Size)], loops := [(0, { live := [(11, ⟨(.int .i64), false, false, false⟩), (12, ⟨(.int .i64), false, false, false⟩)], boxes := [], rows := [], dead := [6, 7, 53, 54, 55, 56, 57, 58, 59, 60, 61, 62, 63, 64, 65, 66, 67, 68, 69, 70, 71, 72, 73], lost := [], base := 3 })], joins := [], tb := tabs, exts := [], lets := [] }
theorem eFchain_Step : (fun x : HT iFchain_Step.ps => iFchain_Step.F x) = fun x => rk Tryd.prog cFchain_Step (Tryd.f65.body.getD .skip) (HT (iFchain_Step.rs ++ iFchain_Step.os)) 1000000 (finK Tryd.prog [.tmp 6, .tmp 7] [] iFchain_Step.os (iFchain_Step.rs ++ iFchain_Step.os)) (initF iFchain_Step.ps iFchain_Step.sh x 74) (initL iFchain_Step.ps x 1) := by kernel_rfl
theorem okFchain_Step : CallsV Tryd.prog tabs 65 iFchain_Step :=
  callsV_of_rk (cx := cFchain_Step) (fn := Tryd.f65) (c := Tryd.f65.body.getD .skip) (n := 74) (N := 1) (rvs := [.tmp 6, .tmp 7]) (cxOk (.cons okFframe_Valid (.cons okFchain_free (.cons okFframe_Size TabOk.nil))) XtOk.nil) Tryd.func65 rfl (by kernel_rfl) rfl rfl (fun x => Nat.le_of_ble_eq_true rfl) (by decide) (fun x => congrFun eFchain_Step x)
noncomputable def Fbits_valid (a0 : Int) (a1 : Int) : Option Bool :=
if a0 ≥ 0 then
if a1 ≥ 0 then
if a0 ≤ 64 then
some (decide (a1 ≤ (w64 ((64 : Int) - a0))))
else some (false)
else some (false)
else some (false)
@[reducible] noncomputable def iFbits_valid : FnI := { ps := [⟨(.int .i64), false, false, false⟩, ⟨(.int .i64), false, false, false⟩], rs := [⟨.bool, false, true, false⟩], os := [], bk := [], F := fun x => Fbits_valid x.1 x.2 }
noncomputable def cFbits_valid : Cx := { nm := [], keep := [], fns := tabF [], loops := [], joins := [], tb := tabs, exts := [], lets := [] }
theorem eFbits_valid : (fun x : HT iFbits_valid.ps => iFbits_valid.F x) = fun x => rk Tryd.prog cFbits_valid (Tryd.f61.body.getD .skip) (HT (iFbits_valid.rs ++ iFbits_valid.os)) 1000000 (finK Tryd.prog [.tmp 4] [] iFbits_valid.os (iFbits_valid.rs ++ iFbits_valid.os)) (initF iFbits_valid.ps iFbits_valid.sh x 21) (initL iFbits_valid.ps x 0) := by kernel_rfl
theorem okFbits_valid : CallsV Tryd.prog tabs 61 iFbits_valid :=
  callsV_of_rk (cx := cFbits_valid) (fn := Tryd.f61) (c := Tryd.f61.body.getD .skip) (n := 21) (N := 0) (rvs := [.tmp 4]) (cxOk TabOk.nil XtOk.nil) Tryd.func61 rfl (by kernel_rfl) rfl rfl (fun x => Nat.le_of_ble_eq_true rfl) (by decide) (fun x => congrFun eFbits_valid x)
noncomputable def Fbits_Mask (a0 : Int) : Option (BitVec 64) :=
if a0 < 0 then
some (0#64)
else if True then
some (~~~((18446744073709551615#64) <<< (BitVec.ofInt 64 a0).toNat))
else none
@[reducible] noncomputable def iFbits_Mask : FnI := { ps := [⟨(.int .i64), false, false, false⟩], rs := [⟨.u64, false, true, false⟩], os := [], bk := [], F := fun x => Fbits_Mask x }
noncomputable def cFbits_Mask : Cx := { nm := [], keep := [], fns := tabF [], loops := [], joins := [], tb := tabs, exts := [], lets := [] }
theorem eFbits_Mask : (fun x : HT iFbits_Mask.ps => iFbits_Mask.F x) = fun x => rk Tryd.prog cFbits_Mask (Tryd.f62.body.getD .skip) (HT (iFbits_Mask.rs ++ iFbits_Mask.os)) 1000000 (finK Tryd.prog [.tmp 2] [] iFbits_Mask.os (iFbits_Mask.rs ++ iFbits_Mask.os)) (initF iFbits_Mask.ps iFbits_Mask.sh x 9) (initL iFbits_Mask.ps x 0) := by kernel_rfl
theorem okFbits_Mask : CallsV Tryd.prog tabs 62 iFbits_Mask :=
  callsV_of_rk (cx := cFbits_Mask) (fn := Tryd.f62) (c := Tryd.f62.body.getD .skip) (n := 9) (N := 0) (rvs := [.tmp 2]) (cxOk TabOk.nil XtOk.nil) Tryd.func62 rfl (by kernel_rfl) rfl rfl (fun x => Nat.le_of_ble_eq_true rfl) (by decide) (fun x => congrFun eFbits_Mask x)
noncomputable def Fbits_Get (a0 : (BitVec 64)) (a1 : Int) (a2 : Int) : Option ((BitVec 64) × Int) :=
Option.bind (Fbits_valid a1 a2) (fun r1 =>
if (!r1) = true then
some ((0#64, 1))
else if True then
Option.bind (Fbits_Mask a2) (fun r2 =>
some (((a0 >>> (BitVec.ofInt 64 a1).toNat) &&& r2, 0)))
else none)
@[reducible] noncomputable def iFbits_Get : FnI := { ps := [⟨.u64, false, false, false⟩, ⟨(.int .i64), false, false, false⟩, ⟨(.int .i64), false, false, false⟩], rs := [⟨.u64, false, true, false⟩, ⟨(.int .i64), false, true, false⟩], os := [], bk := [], F := fun x => Fbits_Get x.1 x.2.1 x.2.2 }
noncomputable def cFbits_Get : Cx := { nm := [], keep := [], fns := tabF [(61, iFbits_valid), (62, iFbits_Mask)], loops := [], joins := [], tb := tabs, exts := [], lets := [] }
theorem eFbits_Get : (fun x : HT iFbits_Get.ps => iFbits_Get.F x) = fun x => rk Tryd.prog cFbits_Get (Tryd.f45.body.getD .skip) (HT (iFbits_Get.rs ++ iFbits_Get.os)) 1000000 (finK Tryd.prog [.tmp 6, .tmp 7] [] iFbits_Get.os (iFbits_Get.rs ++ iFbits_Get.os)) (initF iFbits_Get.ps iFbits_Get.sh x 19) (initL iFbits_Get.ps x 0) := by kernel_rfl
theorem okFbits_Get : CallsV Tryd.prog tabs 45 iFbits_Get :=
  callsV_of_rk (cx := cFbits_Get) (fn := Tryd.f45) (c := Tryd.f45.body.getD .skip) (n := 19) (N := 0) (rvs := [.tmp 6, .tmp 7]) (cxOk (.cons okFbits_valid (.cons okFbits_Mask TabOk.nil)) XtOk.nil) Tryd.func45 rfl (by kernel_rfl) rfl rfl (fun x => Nat.le_of_ble_eq_true rfl) (by decide) (fun x => congrFun eFbits_Get x)
noncomputable def Fheader_Decode (a0 : (BitVec 64)) : Option (Int × Int × Int × Bool × Int) :=
if (a0 &&& (1#64)) = (1#64) then
Option.bind (Fbits_Get a0 1 63) (fun r1 =>
if r1.1.toNat > (16383#64).toNat then
some ((0, 0, 0, false, 12))
else some ((0, 0, w64 ((r1.1.toNat : Int)), true, 0)))
else Option.bind (Fbits_Get a0 1 7) (fun r2 =>
Option.bind (Fbits_Get a0 8 56) (fun r3 =>
if r2.1.toNat > (15#64).toNat then
some ((0, 0, 0, false, 12))
else if r3.1.toNat < ((1#64) + r2.1).toNat then
some ((0, 0, 0, false, 12))
else if r3.1.toNat > (((1#64) + r2.1) + (32#64)).toNat then
some ((0, 0, 0, false, 12))
else some ((w64 ((r2.1.toNat : Int)), w64 ((((r3.1 - (1#64)) - r2.1).toNat : Int)), 0, false, 0))))
@[reducible] noncomputable def iFheader_Decode : FnI := { ps := [⟨.u64, false, false, false⟩], rs := [⟨(.int .i64), false, true, false⟩, ⟨(.int .i64), false, true, false⟩, ⟨(.int .i64), false, true, false⟩, ⟨.bool, false, true, false⟩, ⟨(.int .i64), false, true, false⟩], os := [], bk := [], F := fun x => Fheader_Decode x }
noncomputable def cFheader_Decode : Cx := { nm := [], keep := [], fns := tabF [(45, iFbits_Get)], loops := [], joins := [], tb := tabs, exts := [], lets := [] }
theorem eFheader_Decode : (fun x : HT iFheader_Decode.ps => iFheader_Decode.F x) = fun x => rk Tryd.prog cFheader_Decode (Tryd.f25.body.getD .skip) (HT (iFheader_Decode.rs ++ iFheader_Decode.os)) 1000000 (finK Tryd.prog [.tmp 2, .tmp 3, .tmp 4, .tmp 5, .tmp 6] [] iFheader_Decode.os (iFheader_Decode.rs ++ iFheader_Decode.os)) (initF iFheader_Decode.ps iFheader_Decode.sh x 57) (initL iFheader_Decode.ps x 0) := by kernel_rfl
theorem okFheader_Decode : CallsV Tryd.prog tabs 25 iFheader_Decode :=
  callsV_of_rk (cx := cFheader_Decode) (fn := Tryd.f25) (c := Tryd.f25.body.getD .skip) (n := 57) (N := 0) (rvs := [.tmp 2, .tmp 3, .tmp 4, .tmp 5, .tmp 6]) (cxOk (.cons okFbits_Get TabOk.nil) XtOk.nil) Tryd.func25 rfl (by kernel_rfl) rfl rfl (fun x => Nat.le_of_ble_eq_true rfl) (by decide) (fun x => congrFun eFheader_Decode x)
noncomputable def Fwalk_Objects_1 (a0 : Int) (a1 : Int) (a2 : (List Int)) : Option (Bool × (List Int)) :=
if (a2.length + ([a0] : List Int).length) * 8 ≤ 140737488355328 then
some ((true, a2 ++ ([a0] : List Int)))
else none
@[reducible] noncomputable def iFwalk_Objects_1 : FnI := { ps := [⟨(.int .i64), false, false, false⟩, ⟨(.int .i64), false, false, false⟩, ⟨(.slice (.int .i64)), false, true, true⟩], rs := [⟨.bool, false, true, false⟩], os := [⟨(.slice (.int .i64)), false, true, true⟩], bk := [0], F := fun x => Fwalk_Objects_1 x.1 x.2.1 x.2.2 }
noncomputable def cFwalk_Objects_1 : Cx := { nm := [(8, (2, 1)), (9, (3, 1))], keep := [9], fns := tabF [], loops := [], joins := [], tb := tabs, exts := [], lets := [] }
theorem eFwalk_Objects_1 : (fun x : HT iFwalk_Objects_1.ps => iFwalk_Objects_1.F x) = fun x => rk Tryd.prog cFwalk_Objects_1 (Tryd.f54.body.getD .skip) (HT (iFwalk_Objects_1.rs ++ iFwalk_Objects_1.os)) 1000000 (finK Tryd.prog [.tmp 5] [0] iFwalk_Objects_1.os (iFwalk_Objects_1.rs ++ iFwalk_Objects_1.os)) (initF iFwalk_Objects_1.ps iFwalk_Objects_1.sh x 10) (initL iFwalk_Objects_1.ps x 2) := by kernel_rfl
theorem okFwalk_Objects_1 : CallsV Tryd.prog tabs 54 iFwalk_Objects_1 :=
  callsV_of_rk (cx := cFwalk_Objects_1) (fn := Tryd.f54) (c := Tryd.f54.body.getD .skip) (n := 10) (N := 2) (rvs := [.tmp 5]) (cxOk TabOk.nil XtOk.nil) Tryd.func54 rfl (by kernel_rfl) rfl rfl (fun x => Nat.le_of_ble_eq_true rfl) (by decide) (fun x => congrFun eFwalk_Objects_1 x)
noncomputable def Fwalk_each_walk_Objects_1 (a0 : (Int × (List (BitVec 64)) × (List (Int × Int × Int)))) (a1 : (Int × Int × Int × Int × Int)) (a2 : (List Int)) : Option (Int × (List Int)) :=
Option.bind (Fbump_Valid a0 a1) (fun r1 =>
if (!r1) = true then
some ((1, a2))
else if a1.2.2.2.2 = 0 then
some ((0, a2))
else Option.bind (Fframe_Base a0 a1.2.2.1) (fun r2 =>
loopO (σ := (Int × (List Int))) (β := (Int × (List Int))) (fun s1 =>
if s1.1 < a1.2.2.2.2 then
Option.bind (Fchain_Step a0 r2.1 s1.1) (fun r3 =>
if ¬ r3.2 = 0 then
some (Sum.inr ((12, s1.2)))
else if 0 ≤ r3.1 ∧ r3.1 < (a0.2.1.length : Int) then
Option.bind (Fheader_Decode (gl (0#64 : (BitVec 64)) a0.2.1 r3.1.toNat)) (fun r4 =>
if ¬ r4.2.2.2.2 = 0 then
some (Sum.inr ((12, s1.2)))
else if r4.2.2.2.1 = true then
some (Sum.inr ((12, s1.2)))
else if (w64 ((w64 ((1 : Int) + r4.1)) + r4.2.1)) > (w64 (a1.2.2.2.2 - s1.1)) then
some (Sum.inr ((12, s1.2)))
else Option.bind (Fwalk_Objects_1 r3.1 (w64 ((w64 ((1 : Int) + r4.1)) + r4.2.1)) s1.2) (fun r5 =>
if (!r5.1) = true then
some (Sum.inr ((0, r5.2)))
else some (Sum.inl ((w64 (s1.1 + (w64 ((w64 ((1 : Int) + r4.1)) + r4.2.1))), r5.2)))))
else none)
else some (Sum.inr ((0, s1.2)))) ((0, a2))))
@[reducible] noncomputable def iFwalk_each_walk_Objects_1 : FnI := { ps := [⟨(.pair (.int .i64) (.pair (.slice .u64) (.slice (.pair (.int .i64) (.pair (.int .i64) (.int .i64)))))), true, false, false⟩, ⟨(.pair (.int .i64) (.pair (.int .i64) (.pair (.int .i64) (.pair (.int .i64) (.int .i64))))), true, false, false⟩, ⟨(.slice (.int .i64)), false, true, true⟩], rs := [⟨(.int .i64), false, true, false⟩], os := [⟨(.slice (.int .i64)), false, true, true⟩], bk := [2], sh := [.one, .one, .clo 54 1], F := fun x => Fwalk_each_walk_Objects_1 x.1 x.2.1 x.2.2 }
noncomputable def cFwalk_each_walk_Objects_1 : Cx := { nm := [(3, (4, 1)), (4, (5, 1)), (76, (6, 1))], keep := [], fns := tabF [(25, iFheader_Decode), (39, iFbump_Valid), (54, iFwalk_Objects_1), (64, iFframe_Base), (65, iFchain_Step)], loops := [(0, { live := [(9, ⟨(.int .i64), false, false, false⟩)], boxes := [(2, ⟨(.slice (.int .i64)), false, true, false⟩)], rows := [], dead := [6, 10, 11, 12, 13, 14, 15, 16, 31, 32, 33, 34, 35, 36, 37, 38, 39, 40, 41, 42, 43, 44, 45, 46, 47, 48, 49, 50, 51, 52, 53, 54, 55, 56, 57, 58, 59, 60, 61, 62, 63, 64, 65, 66, 67, 68, 69, 70, 71, 72, 73, 74, 75, 76, 77, 78, 79, 80], lost := [3], base := 7 })], joins := [], tb := tabs, exts := [], lets := [] }
theorem eFwalk_each_walk_Objects_1 : (fun x : HT iFwalk_each_walk_Objects_1.ps => iFwalk_each_walk_Objects_1.F x) = fun x => rk Tryd.prog cFwalk_each_walk_Objects_1 (Tryd.f53.body.getD .skip) (HT (iFwalk_each_walk_Objects_1.rs ++ iFwalk_each_walk_Objects_1.os)) 1000000 (finK Tryd.prog [.tmp 6] [2] iFwalk_each_walk_Objects_1.os (iFwalk_each_walk_Objects_1.rs ++ iFwalk_each_walk_Objects_1.os)) (initF iFwalk_each_walk_Objects_1.ps iFwalk_each_walk_Objects_1.sh x 81) (initL iFwalk_each_walk_Objects_1.ps x 4) := by kernel_rfl
theorem okFwalk_each_walk_Objects_1 : CallsV Tryd.prog tabs 53 iFwalk_each_walk_Objects_1 :=
  callsV_of_rk (cx := cFwalk_each_walk_Objects_1) (fn := Tryd.f53) (c := Tryd.f53.body.getD .skip) (n := 81) (N := 4) (rvs := [.tmp 6]) (cxOk (.cons okFheader_Decode (.cons okFbump_Valid (.cons okFwalk_Objects_1 (.cons okFframe_Base (.cons okFchain_Step TabOk.nil))))) XtOk.nil) Tryd.func53 rfl (by kernel_rfl) rfl rfl (fun x => Nat.le_of_ble_eq_true rfl) (by decide) (fun x => congrFun eFwalk_each_walk_Objects_1 x)
noncomputable def Fwalk_Objects (a0 : (Int × (List (BitVec 64)) × (List (Int × Int × Int)))) (a1 : (Int × Int × Int × Int × Int)) : Option ((List Int) × Int) :=
Option.bind (Fwalk_each_walk_Objects_1 a0 a1 []) (fun r1 =>
if ¬ r1.1 = 0 then
some (([], r1.1))
else some ((r1.2, 0)))
@[reducible] noncomputable def iFwalk_Objects : FnI := { ps := [⟨(.pair (.int .i64) (.pair (.slice .u64) (.slice (.pair (.int .i64) (.pair (.int .i64) (.int .i64)))))), true, false, false⟩, ⟨(.pair (.int .i64) (.pair (.int .i64) (.pair (.int .i64) (.pair (.int .i64) (.int .i64))))), true, false, false⟩], rs := [⟨(.slice (.int .i64)), false, true, false⟩, ⟨(.int .i64), false, true, false⟩], os := [], bk := [], F := fun x => Fwalk_Objects x.1 x.2 }
noncomputable def cFwalk_Objects : Cx := { nm := [(2, (2, 1)), (3, (3, 1)), (6, (4, 1)), (11, (5, 1))], keep := [], fns := tabF [(53, iFwalk_each_walk_Objects_1)], loops := [], joins := [], tb := tabs, exts := [], lets := [] }
theorem eFwalk_Objects : (fun x : HT iFwalk_Objects.ps => iFwalk_Objects.F x) = fun x => rk Tryd.prog cFwalk_Objects (Tryd.f38.body.getD .skip) (HT (iFwalk_Objects.rs ++ iFwalk_Objects.os)) 1000000 (finK Tryd.prog [.tmp 4, .tmp 5] [] iFwalk_Objects.os (iFwalk_Objects.rs ++ iFwalk_Objects.os)) (initF iFwalk_Objects.ps iFwalk_Objects.sh x 16) (initL iFwalk_Objects.ps x 4) := by kernel_rfl
theorem okFwalk_Objects : CallsV Tryd.prog tabs 38 iFwalk_Objects :=
  callsV_of_rk (cx := cFwalk_Objects) (fn := Tryd.f38) (c := Tryd.f38.body.getD .skip) (n := 16) (N := 4) (rvs := [.tmp 4, .tmp 5]) (cxOk (.cons okFwalk_each_walk_Objects_1 TabOk.nil) XtOk.nil) Tryd.func38 rfl (by kernel_rfl) rfl rfl (fun x => Nat.le_of_ble_eq_true rfl) (by decide) (fun x => congrFun eFwalk_Objects x)
noncomputable def Fevacuate_check (a0 : (Int × (List (BitVec 64)) × (List (Int × Int × Int)))) (a1 : (List (Int × Int × Int × Int × Int))) (a2 : (Int × Int × Int × Int × Int)) : Option Int :=
Option.bind (Fframe_Valid a0) (fun r1 =>
if (!r1) = true then
some (1)
else loopO (σ := (Int × (List (Int × Bool)))) (β := Int) (fun s1 =>
if s1.1 < (a1.length : Int) then
if 0 ≤ s1.1 ∧ s1.1 < (a1.length : Int) then
Option.bind (Fwalk_Objects a0 ((gl ((0, 0, 0, 0, 0) : (Int × Int × Int × Int × Int)) a1 s1.1.toNat).1, ((gl ((0, 0, 0, 0, 0) : (Int × Int × Int × Int × Int)) a1 s1.1.toNat).2).1, (((gl ((0, 0, 0, 0, 0) : (Int × Int × Int × Int × Int)) a1 s1.1.toNat).2).2).1, ((((gl ((0, 0, 0, 0, 0) : (Int × Int × Int × Int × Int)) a1 s1.1.toNat).2).2).2))) (fun r2 =>
if ¬ r2.2 = 0 then
some (Sum.inr (1))
else if (((((gl ((0, 0, 0, 0, 0) : (Int × Int × Int × Int × Int)) a1 s1.1.toNat).2).2).2).2) = 0 then
some (Sum.inr (1))
else if ((mget s1.2 ((gl ((0, 0, 0, 0, 0) : (Int × Int × Int × Int × Int)) a1 s1.1.toNat).1)).getD false) = true then
some (Sum.inr (1))
else some (Sum.inl ((w64 (s1.1 + 1), mset s1.2 ((gl ((0, 0, 0, 0, 0) : (Int × Int × Int × Int × Int)) a1 s1.1.toNat).1) true))))
else none
else Option.map Sum.inr (Option.bind (Fbump_Valid a0 a2) (fun r3 =>
if (!r3) = true then
some (1)
else if ((mget s1.2 a2.1).getD false) = true then
some (1)
else loopO (σ := Int) (β := Int) (fun s2 =>
if s2 < (a0.2.2.length : Int) then
if 0 ≤ s2 ∧ s2 < (a0.2.2.length : Int) then
if a2.2.2.2.2 = 0 then
if ((gl ((0, 0, 0) : (Int × Int × Int)) a0.2.2 s2.toNat).1) = a2.1 then
some (Sum.inr (1))
else some (Sum.inl (w64 (s2 + 1)))
else some (Sum.inl (w64 (s2 + 1)))
else none
else some (Sum.inr (0))) (0)))) ((0, ([] : List (Int × Bool)))))
@[reducible] noncomputable def iFevacuate_check : FnI := { ps := [⟨(.pair (.int .i64) (.pair (.slice .u64) (.slice (.pair (.int .i64) (.pair (.int .i64) (.int .i64)))))), true, false, false⟩, ⟨(.slice (.pair (.int .i64) (.pair (.int .i64) (.pair (.int .i64) (.pair (.int .i64) (.int .i64)))))), false, false, false⟩, ⟨(.pair (.int .i64) (.pair (.int .i64) (.pair (.int .i64) (.pair (.int .i64) (.int .i64))))), true, false, false⟩], rs := [⟨(.int .i64), false, true, false⟩], os := [], bk := [], F := fun x => Fevacuate_check x.1 x.2.1 x.2.2 }
noncomputable def cFevacuate_check : Cx := { nm := [(3, (3, 1)), (5, (4, 1)), (9, (6, 1)), (13, (8, 1)), (17, (5, 1)), (27, (7, 1))], keep := [], fns := tabF [(37, iFframe_Valid), (38, iFwalk_Objects), (39, iFbump_Valid)], loops := [(0, { live := [(20, ⟨(.int .i64), false, false, false⟩)], boxes := [], rows := [(5, .kv)], dead := [6, 9, 10, 11, 21, 22, 23, 24, 25, 26, 27, 28, 29, 30, 31, 32, 33, 34, 35, 36, 37, 38, 39, 40, 41, 42, 43, 44, 45, 46], lost := [], base := 6 }), (2, { live := [(60, ⟨(.int .i64), false, false, false⟩)], boxes := [], rows := [], dead := [6, 13, 61, 62, 63, 64, 65, 66, 67, 68, 69, 70, 71, 72, 73, 74], lost := [], base := 8 })], joins := [], tb := tabs, exts := [], lets := [] }
theorem eFevacuate_check : (fun x : HT iFevacuate_check.ps => iFevacuate_check.F x) = fun x => rk Tryd.prog cFevacuate_check (Tryd.f20.body.getD .skip) (HT (iFevacuate_check.rs ++ iFevacuate_check.os)) 1000000 (finK Tryd.prog [.tmp 6] [] iFevacuate_check.os (iFevacuate_check.rs ++ iFevacuate_check.os)) (initF iFevacuate_check.ps iFevacuate_check.sh x 75) (initL iFevacuate_check.ps x 6) := by kernel_rfl
theorem okFevacuate_check : CallsV Tryd.prog tabs 20 iFevacuate_check :=
  callsV_of_rk (cx := cFevacuate_check) (fn := Tryd.f20) (c := Tryd.f20.body.getD .skip) (n := 75) (N := 6) (rvs := [.tmp 6]) (cxOk (.cons okFframe_Valid (.cons okFwalk_Objects (.cons okFbump_Valid TabOk.nil))) XtOk.nil) Tryd.func20 rfl (by kernel_rfl) rfl rfl (fun x => Nat.le_of_ble_eq_true rfl) (by decide) (fun x => congrFun eFevacuate_check x)
noncomputable def Fclone_Words (a0 : (List (BitVec 64))) : Option (List (BitVec 64)) :=
if (([] : List (BitVec 64)).length + a0.length) * 8 ≤ 140737488355328 then
some (([] : List (BitVec 64)) ++ a0)
else none
@[reducible] noncomputable def iFclone_Words : FnI := { ps := [⟨(.slice .u64), false, false, false⟩], rs := [⟨(.slice .u64), false, true, false⟩], os := [], bk := [], F := fun x => Fclone_Words x }
noncomputable def cFclone_Words : Cx := { nm := [(4, (1, 1))], keep := [4], fns := tabF [], loops := [], joins := [], tb := tabs, exts := [], lets := [] }
theorem eFclone_Words : (fun x : HT iFclone_Words.ps => iFclone_Words.F x) = fun x => rk Tryd.prog cFclone_Words (Tryd.f23.body.getD .skip) (HT (iFclone_Words.rs ++ iFclone_Words.os)) 1000000 (finK Tryd.prog [.tmp 2] [] iFclone_Words.os (iFclone_Words.rs ++ iFclone_Words.os)) (initF iFclone_Words.ps iFclone_Words.sh x 5) (initL iFclone_Words.ps x 1) := by kernel_rfl
theorem okFclone_Words : CallsV Tryd.prog tabs 23 iFclone_Words :=
  callsV_of_rk (cx := cFclone_Words) (fn := Tryd.f23) (c := Tryd.f23.body.getD .skip) (n := 5) (N := 1) (rvs := [.tmp 2]) (cxOk TabOk.nil XtOk.nil) Tryd.func23 rfl (by kernel_rfl) rfl rfl (fun x => Nat.le_of_ble_eq_true rfl) (by decide) (fun x => congrFun eFclone_Words x)
noncomputable def Fclone_Space (a0 : (Int × (List (BitVec 64)) × (List (Int × Int × Int)))) : Option (Int × (List (BitVec 64)) × (List (Int × Int × Int))) :=
Option.bind (Fclone_Words a0.2.1) (fun r1 =>
if (([] : List (Int × Int × Int)).length + a0.2.2.length) * 24 ≤ 140737488355328 then
some ((a0.1, r1, ([] : List (Int × Int × Int)) ++ a0.2.2))
else none)
@[reducible] noncomputable def iFclone_Space : FnI := { ps := [⟨(.pair (.int .i64) (.pair (.slice .u64) (.slice (.pair (.int .i64) (.pair (.int .i64) (.int .i64)))))), true, false, false⟩], rs := [⟨(.pair (.int .i64) (.pair (.slice .u64) (.slice (.pair (.int .i64) (.pair (.int .i64) (.int .i64)))))), true, true, false⟩], os := [], bk := [], F := fun x => Fclone_Space x }
noncomputable def cFclone_Space : Cx := { nm := [(1, (2, 1)), (2, (3, 1)), (7, (4, 1)), (10, (5, 1))], keep := [10], fns := tabF [(23, iFclone_Words)], loops := [], joins := [], tb := tabs, exts := [], lets := [] }
theorem eFclone_Space : (fun x : HT iFclone_Space.ps => iFclone_Space.F x) = fun x => rk Tryd.prog cFclone_Space (Tryd.f21.body.getD .skip) (HT (iFclone_Space.rs ++ iFclone_Space.os)) 1000000 (finK Tryd.prog [.cell 2 26] [] iFclone_Space.os (iFclone_Space.rs ++ iFclone_Space.os)) (initF iFclone_Space.ps iFclone_Space.sh x 12) (initL iFclone_Space.ps x 4) := by kernel_rfl
theorem okFclone_Space : CallsV Tryd.prog tabs 21 iFclone_Space :=
  callsV_of_rk (cx := cFclone_Space) (fn := Tryd.f21) (c := Tryd.f21.body.getD .skip) (n := 12) (N := 4) (rvs := [.cell 2 26]) (cxOk (.cons okFclone_Words TabOk.nil) XtOk.nil) Tryd.func21 rfl (by kernel_rfl) rfl rfl (fun x => Nat.le_of_ble_eq_true rfl) (by decide) (fun x => congrFun eFclone_Space x)
noncomputable def Fscan_set (a0 : (Int × (List (BitVec 64)) × (List (Int × Int × Int)))) (a1 : (List (Int × Int × Int × Int × Int))) : Option (BitVec 64) :=
loopO (σ := ((BitVec 64) × Int)) (β := (BitVec 64)) (fun s1 =>
if s1.2 < (a0.2.2.length : Int) then
if 0 ≤ s1.2 ∧ s1.2 < (a0.2.2.length : Int) then
loopO (σ := ((BitVec 64) × Int)) (β := (((BitVec 64) × Int) ⊕ (BitVec 64))) (fun s2 =>
if s2.2 < (a1.length : Int) then
if 0 ≤ s2.2 ∧ s2.2 < (a1.length : Int) then
if ((gl ((0, 0, 0) : (Int × Int × Int)) a0.2.2 s1.2.toNat).1) = ((gl ((0, 0, 0, 0, 0) : (Int × Int × Int × Int × Int)) a1 s2.2.toNat).1) then
if s1.2 < 64 then
if True then
some (Sum.inl ((s2.1 ||| ((1#64) <<< (BitVec.ofInt 64 s1.2).toNat), w64 (s2.2 + 1))))
else none
else some (Sum.inl ((s2.1, w64 (s2.2 + 1))))
else some (Sum.inl ((s2.1, w64 (s2.2 + 1))))
else none
else some (Sum.inr (Sum.inl ((s2.1, w64 (s1.2 + 1)))))) ((s1.1, 0))
else none
else some (Sum.inr (s1.1))) ((0#64, 0))
@[reducible] noncomputable def iFscan_set : FnI := { ps := [⟨(.pair (.int .i64) (.pair (.slice .u64) (.slice (.pair (.int .i64) (.pair (.int .i64) (.int .i64)))))), true, false, false⟩, ⟨(.slice (.pair (.int .i64) (.pair (.int .i64) (.pair (.int .i64) (.pair (.int .i64) (.int .i64)))))), false, false, false⟩], rs := [⟨.u64, false, true, false⟩], os := [], bk := [], F := fun x => Fscan_set x.1 x.2 }
noncomputable def cFscan_set : Cx := { nm := [(2, (3, 1)), (7, (4, 1)), (9, (5, 1))], keep := [], fns := tabF [], loops := [(0, { live := [(5, ⟨.u64, false, false, false⟩), (13, ⟨(.int .i64), false, false, false⟩)], boxes := [], rows := [], dead := [6, 7, 9, 14, 15, 16, 17, 18, 19, 20, 21, 22, 23, 24, 25, 26, 27, 28, 29, 30, 31, 32, 33, 34, 35, 36, 37, 38, 39], lost := [], base := 4 }), (2, { live := [(5, ⟨.u64, false, false, false⟩), (20, ⟨(.int .i64), false, false, false⟩)], boxes := [], rows := [], dead := [9, 21, 22, 23, 24, 25, 26, 27, 28, 29, 30, 31, 32, 33, 34, 35, 36, 37, 38], lost := [], base := 5 })], joins := [], tb := tabs, exts := [], lets := [] }
theorem eFscan_set : (fun x : HT iFscan_set.ps => iFscan_set.F x) = fun x => rk Tryd.prog cFscan_set (Tryd.f40.body.getD .skip) (HT (iFscan_set.rs ++ iFscan_set.os)) 1000000 (finK Tryd.prog [.tmp 4] [] iFscan_set.os (iFscan_set.rs ++ iFscan_set.os)) (initF iFscan_set.ps iFscan_set.sh x 41) (initL iFscan_set.ps x 3) := by kernel_rfl
theorem okFscan_set : CallsV Tryd.prog tabs 40 iFscan_set :=
  callsV_of_rk (cx := cFscan_set) (fn := Tryd.f40) (c := Tryd.f40.body.getD .skip) (n := 41) (N := 3) (rvs := [.tmp 4]) (cxOk TabOk.nil XtOk.nil) Tryd.func40 rfl (by kernel_rfl) rfl rfl (fun x => Nat.le_of_ble_eq_true rfl) (by decide) (fun x => congrFun eFscan_set x)
noncomputable def Fscan_Frames (a0 : (Int × (List (BitVec 64)) × (List (Int × Int × Int)))) (a1 : (List (Int × Int × Int × Int × Int))) : Option (List Int) :=
Option.bind (Fscan_set a0 a1) (fun r1 =>
loopO (σ := ((List Int) × (BitVec 64))) (β := (List Int)) (fun s1 =>
if ¬ s1.2 = (0#64) then
Option.bind (Fmath_bits_TrailingZeros64 s1.2) (fun r2 =>
if (s1.1.length + ([r2] : List Int).length) * 8 ≤ 140737488355328 then
some (Sum.inl ((s1.1 ++ ([r2] : List Int), s1.2 &&& (s1.2 - (1#64)))))
else none)
else some (Sum.inr (s1.1))) (([], r1)))
@[reducible] noncomputable def iFscan_Frames : FnI := { ps := [⟨(.pair (.int .i64) (.pair (.slice .u64) (.slice (.pair (.int .i64) (.pair (.int .i64) (.int .i64)))))), true, false, false⟩, ⟨(.slice (.pair (.int .i64) (.pair (.int .i64) (.pair (.int .i64) (.pair (.int .i64) (.int .i64)))))), false, false, false⟩], rs := [⟨(.slice (.int .i64)), false, true, false⟩], os := [], bk := [], F := fun x => Fscan_Frames x.1 x.2 }
noncomputable def cFscan_Frames : Cx := { nm := [(2, (3, 1)), (19, (5, 1)), (20, (6, 1))], keep := [20], fns := tabF [(40, iFscan_set), (41, iFmath_bits_TrailingZeros64)], loops := [(0, { live := [(5, ⟨(.slice (.int .i64)), false, true, false⟩), (6, ⟨.u64, false, false, false⟩)], boxes := [], rows := [], dead := [10, 11, 12, 13, 14, 15, 16, 17, 18, 19, 20], lost := [], base := 4 })], joins := [], tb := tabs, exts := [], lets := [] }
theorem eFscan_Frames : (fun x : HT iFscan_Frames.ps => iFscan_Frames.F x) = fun x => rk Tryd.prog cFscan_Frames (Tryd.f22.body.getD .skip) (HT (iFscan_Frames.rs ++ iFscan_Frames.os)) 1000000 (finK Tryd.prog [.tmp 4] [] iFscan_Frames.os (iFscan_Frames.rs ++ iFscan_Frames.os)) (initF iFscan_Frames.ps iFscan_Frames.sh x 22) (initL iFscan_Frames.ps x 4) := by kernel_rfl
theorem okFscan_Frames : CallsV Tryd.prog tabs 22 iFscan_Frames :=
  callsV_of_rk (cx := cFscan_Frames) (fn := Tryd.f22) (c := Tryd.f22.body.getD .skip) (n := 22) (N := 4) (rvs := [.tmp 4]) (cxOk (.cons okFscan_set (.cons okFmath_bits_TrailingZeros64 TabOk.nil)) XtOk.nil) Tryd.func22 rfl (by kernel_rfl) rfl rfl (fun x => Nat.le_of_ble_eq_true rfl) (by decide) (fun x => congrFun eFscan_Frames x)
noncomputable def Fevacuate_copier_within (a0 : ((Int × (List (BitVec 64)) × (List (Int × Int × Int))) × (BitVec 64) × (Int × Int × Int × Int × Int) × (List (Int × Int)))) (a1 : (BitVec 64)) : Option (Bool × ((Int × (List (BitVec 64)) × (List (Int × Int × Int))) × (BitVec 64) × (Int × Int × Int × Int × Int) × (List (Int × Int)))) :=
if ¬ a1 = (0#64) then
if a1.toNat ≤ (BitVec.ofInt 64 (a0.1.2.1.length : Int)).toNat then
if True then
if 0 ≤ ((w64 (((a1 - (1#64)).toNat : Int))) / 2 ^ min (BitVec.ofInt 64 a0.1.1).toNat 64) then
some ((decide (((a0.2.1 >>> ((w64 (((a1 - (1#64)).toNat : Int))) / 2 ^ min (BitVec.ofInt 64 a0.1.1).toNat 64).toNat) &&& (1#64)) = (1#64)), a0))
else none
else none
else some ((false, a0))
else some ((false, a0))
@[reducible] noncomputable def iFevacuate_copier_within : FnI := { ps := [⟨(.pair (.pair (.int .i64) (.pair (.slice .u64) (.slice (.pair (.int .i64) (.pair (.int .i64) (.int .i64)))))) (.pair .u64 (.pair (.pair (.int .i64) (.pair (.int .i64) (.pair (.int .i64) (.pair (.int .i64) (.int .i64))))) (.slice (.pair (.int .i64) (.int .i64)))))), true, false, true⟩, ⟨.u64, false, false, false⟩], rs := [⟨.bool, false, true, false⟩], os := [⟨(.pair (.pair (.int .i64) (.pair (.slice .u64) (.slice (.pair (.int .i64) (.pair (.int .i64) (.int .i64)))))) (.pair .u64 (.pair (.pair (.int .i64) (.pair (.int .i64) (.pair (.int .i64) (.pair (.int .i64) (.int .i64))))) (.slice (.pair (.int .i64) (.int .i64)))))), true, false, true⟩], bk := [0], F := fun x => Fevacuate_copier_within x.1 x.2 }
noncomputable def cFevacuate_copier_within : Cx := { nm := [], keep := [], fns := tabF [], loops := [], joins := [], tb := tabs, exts := [], lets := [] }
theorem eFevacuate_copier_within : (fun x : HT iFevacuate_copier_within.ps => iFevacuate_copier_within.F x) = fun x => rk Tryd.prog cFevacuate_copier_within (Tryd.f42.body.getD .skip) (HT (iFevacuate_copier_within.rs ++ iFevacuate_copier_within.os)) 1000000 (finK Tryd.prog [.tmp 4] [0] iFevacuate_copier_within.os (iFevacuate_copier_within.rs ++ iFevacuate_copier_within.os)) (initF iFevacuate_copier_within.ps iFevacuate_copier_within.sh x 37) (initL iFevacuate_copier_within.ps x 0) := by kernel_rfl
theorem okFevacuate_copier_within : CallsV Tryd.prog tabs 42 iFevacuate_copier_within :=
  callsV_of_rk (cx := cFevacuate_copier_within) (fn := Tryd.f42) (c := Tryd.f42.body.getD .skip) (n := 37) (N := 0) (rvs := [.tmp 4]) (cxOk TabOk.nil XtOk.nil) Tryd.func42 rfl (by kernel_rfl) rfl rfl (fun x => Nat.le_of_ble_eq_true rfl) (by decide) (fun x => congrFun eFevacuate_copier_within x)
noncomputable def Fcells_At (a0 : (Int × (List (BitVec 64)) × (List (Int × Int × Int)))) (a1 : Int) (a2 : Int) : Option Int :=
if True then
if True then
loopO (σ := (Int × Int)) (β := Int) (fun s1 =>
if s1.2 ≥ 0 then
if s1.1 < (w64 ((1 : Int) * 2 ^ min (BitVec.ofInt 64 a0.1).toNat 64)) then
if True then
some (Sum.inr (w64 ((w64 (s1.2 * 2 ^ min (BitVec.ofInt 64 a0.1).toNat 64)) + s1.1)))
else none
else if 0 ≤ s1.2 ∧ s1.2 < (a0.2.2.length : Int) then
some (Sum.inl ((w64 (s1.1 - (w64 ((1 : Int) * 2 ^ min (BitVec.ofInt 64 a0.1).toNat 64))), ((gl ((0, 0, 0) : (Int × Int × Int)) a0.2.2 s1.2.toNat).2).2)))
else none
else some (Sum.inr ((-1)))) ((w64 ((iBits .and a1 (w64 ((w64 ((1 : Int) * 2 ^ min (BitVec.ofInt 64 a0.1).toNat 64)) - 1))) + a2), a1 / 2 ^ min (BitVec.ofInt 64 a0.1).toNat 64))
else none
else none
@[reducible] noncomputable def iFcells_At : FnI := { ps := [⟨(.pair (.int .i64) (.pair (.slice .u64) (.slice (.pair (.int .i64) (.pair (.int .i64) (.int .i64)))))), true, false, false⟩, ⟨(.int .i64), false, false, false⟩, ⟨(.int .i64), false, false, false⟩], rs := [⟨(.int .i64), false, true, false⟩], os := [], bk := [], F := fun x => Fcells_At x.1 x.2.1 x.2.2 }
noncomputable def cFcells_At : Cx := { nm := [(3, (2, 1))], keep := [], fns := tabF [], loops := [(0, { live := [(8, ⟨(.int .i64), false, false, false⟩), (9, ⟨(.int .i64), false, false, false⟩)], boxes := [], rows := [], dead := [6, 25, 26, 27, 28, 29, 30, 31, 32, 33, 34, 35, 36, 37, 38, 39, 40, 41, 42, 43, 44, 45], lost := [], base := 3 })], joins := [], tb := tabs, exts := [], lets := [] }
theorem eFcells_At : (fun x : HT iFcells_At.ps => iFcells_At.F x) = fun x => rk Tryd.prog cFcells_At (Tryd.f26.body.getD .skip) (HT (iFcells_At.rs ++ iFcells_At.os)) 1000000 (finK Tryd.prog [.tmp 6] [] iFcells_At.os (iFcells_At.rs ++ iFcells_At.os)) (initF iFcells_At.ps iFcells_At.sh x 46) (initL iFcells_At.ps x 1) := by kernel_rfl
theorem okFcells_At : CallsV Tryd.prog tabs 26 iFcells_At :=
  callsV_of_rk (cx := cFcells_At) (fn := Tryd.f26) (c := Tryd.f26.body.getD .skip) (n := 46) (N := 1) (rvs := [.tmp 6]) (cxOk TabOk.nil XtOk.nil) Tryd.func26 rfl (by kernel_rfl) rfl rfl (fun x => Nat.le_of_ble_eq_true rfl) (by decide) (fun x => congrFun eFcells_At x)
noncomputable def Fcells_count (a0 : (Int × (List (BitVec 64)) × (List (Int × Int × Int)))) : Option Int :=
loopO (σ := (Int × Int)) (β := Int) (fun s1 =>
if s1.2 < (a0.2.2.length : Int) then
if 0 ≤ s1.2 ∧ s1.2 < (a0.2.2.length : Int) then
if ((gl ((0, 0, 0) : (Int × Int × Int)) a0.2.2 s1.2.toNat).1) = (-1) then
some (Sum.inl ((w64 (s1.1 + 1), w64 (s1.2 + 1))))
else some (Sum.inl ((s1.1, w64 (s1.2 + 1))))
else none
else some (Sum.inr (s1.1))) ((0, 0))
@[reducible] noncomputable def iFcells_count : FnI := { ps := [⟨(.pair (.int .i64) (.pair (.slice .u64) (.slice (.pair (.int .i64) (.pair (.int .i64) (.int .i64)))))), true, false, false⟩], rs := [⟨(.int .i64), false, true, false⟩], os := [], bk := [], F := fun x => Fcells_count x }
noncomputable def cFcells_count : Cx := { nm := [(1, (2, 1)), (5, (3, 1))], keep := [], fns := tabF [], loops := [(0, { live := [(3, ⟨(.int .i64), false, false, false⟩), (9, ⟨(.int .i64), false, false, false⟩)], boxes := [], rows := [], dead := [5, 10, 11, 12, 13, 14, 15, 16, 17, 18], lost := [], base := 3 })], joins := [], tb := tabs, exts := [], lets := [] }
theorem eFcells_count : (fun x : HT iFcells_count.ps => iFcells_count.F x) = fun x => rk Tryd.prog cFcells_count (Tryd.f58.body.getD .skip) (HT (iFcells_count.rs ++ iFcells_count.os)) 1000000 (finK Tryd.prog [.tmp 2] [] iFcells_count.os (iFcells_count.rs ++ iFcells_count.os)) (initF iFcells_count.ps iFcells_count.sh x 20) (initL iFcells_count.ps x 2) := by kernel_rfl
theorem okFcells_count : CallsV Tryd.prog tabs 58 iFcells_count :=
  callsV_of_rk (cx := cFcells_count) (fn := Tryd.f58) (c := Tryd.f58.body.getD .skip) (n := 20) (N := 2) (rvs := [.tmp 2]) (cxOk TabOk.nil XtOk.nil) Tryd.func58 rfl (by kernel_rfl) rfl rfl (fun x => Nat.le_of_ble_eq_true rfl) (by decide) (fun x => congrFun eFcells_count x)
noncomputable def Fcells_free (a0 : (Int × (List (BitVec 64)) × (List (Int × Int × Int)))) : Option Int :=
loopO (σ := Int) (β := Int) (fun s1 =>
if s1 < (a0.2.2.length : Int) then
if 0 ≤ s1 ∧ s1 < (a0.2.2.length : Int) then
if ((gl ((0, 0, 0) : (Int × Int × Int)) a0.2.2 s1.toNat).1) = (-1) then
some (Sum.inr (s1))
else some (Sum.inl (w64 (s1 + 1)))
else none
else some (Sum.inr ((-1)))) (0)
@[reducible] noncomputable def iFcells_free : FnI := { ps := [⟨(.pair (.int .i64) (.pair (.slice .u64) (.slice (.pair (.int .i64) (.pair (.int .i64) (.int .i64)))))), true, false, false⟩], rs := [⟨(.int .i64), false, true, false⟩], os := [], bk := [], F := fun x => Fcells_free x }
noncomputable def cFcells_free : Cx := { nm := [(1, (2, 1)), (4, (3, 1))], keep := [], fns := tabF [], loops := [(0, { live := [(8, ⟨(.int .i64), false, false, false⟩)], boxes := [], rows := [], dead := [2, 3, 4, 9, 10, 11, 12, 13, 14, 15, 16, 17], lost := [], base := 3 })], joins := [], tb := tabs, exts := [], lets := [] }
theorem eFcells_free : (fun x : HT iFcells_free.ps => iFcells_free.F x) = fun x => rk Tryd.prog cFcells_free (Tryd.f59.body.getD .skip) (HT (iFcells_free.rs ++ iFcells_free.os)) 1000000 (finK Tryd.prog [.tmp 2] [] iFcells_free.os (iFcells_free.rs ++ iFcells_free.os)) (initF iFcells_free.ps iFcells_free.sh x 18) (initL iFcells_free.ps x 2) := by kernel_rfl
theorem okFcells_free : CallsV Tryd.prog tabs 59 iFcells_free :=
  callsV_of_rk (cx := cFcells_free) (fn := Tryd.f59) (c := Tryd.f59.body.getD .skip) (n := 18) (N := 2) (rvs := [.tmp 2]) (cxOk TabOk.nil XtOk.nil) Tryd.func59 rfl (by kernel_rfl) rfl rfl (fun x => Nat.le_of_ble_eq_true rfl) (by decide) (fun x => congrFun eFcells_free x)
noncomputable def Fcells_Grow (a0 : (Int × (List (BitVec 64)) × (List (Int × Int × Int)))) (a1 : (Int × Int × Int × Int × Int)) (a2 : Int) : Option (Int × Bool × (List (BitVec 64)) × (List (Int × Int × Int)) × (Int × Int × Int × Int × Int)) :=
if True then
if True then
if True then
Option.bind (Fcells_count a0) (fun r1 =>
if r1 < (w64 (((w64 ((w64 ((w64 (a1.2.2.2.2 + a2)) + (w64 ((1 : Int) * 2 ^ min (BitVec.ofInt 64 a0.1).toNat 64)))) - 1)) / 2 ^ min (BitVec.ofInt 64 a0.1).toNat 64) - ((w64 ((w64 (a1.2.2.2.2 + (w64 ((1 : Int) * 2 ^ min (BitVec.ofInt 64 a0.1).toNat 64)))) - 1)) / 2 ^ min (BitVec.ofInt 64 a0.1).toNat 64))) then
some ((0, false, a0.2.1, a0.2.2, a1))
else loopO (σ := (Int × (Int × Int × Int × Int × Int) × (List (Int × Int × Int)))) (β := (Int × Bool × (List (BitVec 64)) × (List (Int × Int × Int)) × (Int × Int × Int × Int × Int))) (fun s1 =>
if s1.1 > 0 then
Option.bind (Fcells_free (a0.1, a0.2.1, s1.2.2)) (fun r2 =>
if 0 ≤ r2 ∧ r2 < (s1.2.2.length : Int) then
if s1.2.1.2.2.2.1 ≥ 0 then
if 0 ≤ s1.2.1.2.2.2.1 ∧ s1.2.1.2.2.2.1 < ((s1.2.2.set r2.toNat (s1.2.1.1, w64 ((w64 (s1.2.1.2.1 * 4294967296)) + s1.2.1.1), (-1))).length : Int) then
some (Sum.inl ((w64 (s1.1 - 1), (s1.2.1.1, s1.2.1.2.1, s1.2.1.2.2.1, r2, s1.2.1.2.2.2.2), (s1.2.2.set r2.toNat (s1.2.1.1, w64 ((w64 (s1.2.1.2.1 * 4294967296)) + s1.2.1.1), (-1))).set s1.2.1.2.2.2.1.toNat ((gl ((0, 0, 0) : (Int × Int × Int)) (s1.2.2.set r2.toNat (s1.2.1.1, w64 ((w64 (s1.2.1.2.1 * 4294967296)) + s1.2.1.1), (-1))) s1.2.1.2.2.2.1.toNat).1, ((gl ((0, 0, 0) : (Int × Int × Int)) (s1.2.2.set r2.toNat (s1.2.1.1, w64 ((w64 (s1.2.1.2.1 * 4294967296)) + s1.2.1.1), (-1))) s1.2.1.2.2.2.1.toNat).2).1, r2))))
else none
else some (Sum.inl ((w64 (s1.1 - 1), (s1.2.1.1, s1.2.1.2.1, r2, r2, s1.2.1.2.2.2.2), s1.2.2.set r2.toNat (s1.2.1.1, w64 ((w64 (s1.2.1.2.1 * 4294967296)) + s1.2.1.1), (-1)))))
else none)
else Option.map Sum.inr (if True then
Option.bind (Fcells_At (a0.1, a0.2.1, s1.2.2) (w64 (s1.2.1.2.2.1 * 2 ^ min (BitVec.ofInt 64 a0.1).toNat 64)) s1.2.1.2.2.2.2) (fun r3 =>
some ((r3, true, a0.2.1, s1.2.2, (s1.2.1.1, s1.2.1.2.1, s1.2.1.2.2.1, s1.2.1.2.2.2.1, w64 (s1.2.1.2.2.2.2 + a2)))))
else none)) ((w64 (((w64 ((w64 ((w64 (a1.2.2.2.2 + a2)) + (w64 ((1 : Int) * 2 ^ min (BitVec.ofInt 64 a0.1).toNat 64)))) - 1)) / 2 ^ min (BitVec.ofInt 64 a0.1).toNat 64) - ((w64 ((w64 (a1.2.2.2.2 + (w64 ((1 : Int) * 2 ^ min (BitVec.ofInt 64 a0.1).toNat 64)))) - 1)) / 2 ^ min (BitVec.ofInt 64 a0.1).toNat 64)), a1, a0.2.2)))
else none
else none
else none
@[reducible] noncomputable def iFcells_Grow : FnI := { ps := [⟨(.pair (.int .i64) (.pair (.slice .u64) (.slice (.pair (.int .i64) (.pair (.int .i64) (.int .i64)))))), true, true, false⟩, ⟨(.pair (.int .i64) (.pair (.int .i64) (.pair (.int .i64) (.pair (.int .i64) (.int .i64))))), true, false, true⟩, ⟨(.int .i64), false, false, false⟩], rs := [⟨(.int .i64), false, true, false⟩, ⟨.bool, false, true, false⟩], os := [⟨(.slice .u64), false, true, false⟩, ⟨(.slice (.pair (.int .i64) (.pair (.int .i64) (.int .i64)))), false, true, false⟩, ⟨(.pair (.int .i64) (.pair (.int .i64) (.pair (.int .i64) (.pair (.int .i64) (.int .i64))))), true, false, true⟩], bk := [0, 1, 2], F := fun x => Fcells_Grow x.1 x.2.1 x.2.2 }
noncomputable def cFcells_Grow : Cx := { nm := [(3, (3, 1))], keep := [], fns := tabF [(26, iFcells_At), (58, iFcells_count), (59, iFcells_free)], loops := [(0, { live := [(10, ⟨(.int .i64), false, false, false⟩)], boxes := [(2, ⟨(.pair (.int .i64) (.pair (.int .i64) (.pair (.int .i64) (.pair (.int .i64) (.int .i64))))), true, false, false⟩)], rows := [(1, (.pair (.int .i64) (.pair (.int .i64) (.int .i64))))], dead := [11, 47, 48, 49, 50, 51, 52, 53, 54, 55, 56, 57, 58, 59, 60, 61, 62, 63, 64, 65, 66, 67, 68, 69, 70, 71, 72, 73, 74, 75, 76, 77, 78, 79, 80, 81, 82, 83, 84, 85, 86, 87, 88, 89, 90, 91, 92, 93], lost := [], base := 4 })], joins := [], tb := tabs, exts := [], lets := [] }
theorem eFcells_Grow : (fun x : HT iFcells_Grow.ps => iFcells_Grow.F x) = fun x => rk Tryd.prog cFcells_Grow (Tryd.f43.body.getD .skip) (HT (iFcells_Grow.rs ++ iFcells_Grow.os)) 1000000 (finK Tryd.prog [.tmp 6, .tmp 7] [0, 1, 2] iFcells_Grow.os (iFcells_Grow.rs ++ iFcells_Grow.os)) (initF iFcells_Grow.ps iFcells_Grow.sh x 117) (initL iFcells_Grow.ps x 1) := by kernel_rfl
theorem okFcells_Grow : CallsV Tryd.prog tabs 43 iFcells_Grow :=
  callsV_of_rk (cx := cFcells_Grow) (fn := Tryd.f43) (c := Tryd.f43.body.getD .skip) (n := 117) (N := 1) (rvs := [.tmp 6, .tmp 7]) (cxOk (.cons okFcells_At (.cons okFcells_count (.cons okFcells_free TabOk.nil))) XtOk.nil) Tryd.func43 rfl (by kernel_rfl) rfl rfl (fun x => Nat.le_of_ble_eq_true rfl) (by decide) (fun x => congrFun eFcells_Grow x)
noncomputable def Fbits_Fits (a0 : (BitVec 64)) (a1 : Int) : Option Bool :=
Option.bind (Fbits_Mask a1) (fun r1 =>
some (decide ((a0 &&& ~~~r1) = (0#64))))
@[reducible] noncomputable def iFbits_Fits : FnI := { ps := [⟨.u64, false, false, false⟩, ⟨(.int .i64), false, false, false⟩], rs := [⟨.bool, false, true, false⟩], os := [], bk := [], F := fun x => Fbits_Fits x.1 x.2 }
noncomputable def cFbits_Fits : Cx := { nm := [], keep := [], fns := tabF [(62, iFbits_Mask)], loops := [], joins := [], tb := tabs, exts := [], lets := [] }
theorem eFbits_Fits : (fun x : HT iFbits_Fits.ps => iFbits_Fits.F x) = fun x => rk Tryd.prog cFbits_Fits (Tryd.f69.body.getD .skip) (HT (iFbits_Fits.rs ++ iFbits_Fits.os)) 1000000 (finK Tryd.prog [.tmp 4] [] iFbits_Fits.os (iFbits_Fits.rs ++ iFbits_Fits.os)) (initF iFbits_Fits.ps iFbits_Fits.sh x 10) (initL iFbits_Fits.ps x 0) := by kernel_rfl
theorem okFbits_Fits : CallsV Tryd.prog tabs 69 iFbits_Fits :=
  callsV_of_rk (cx := cFbits_Fits) (fn := Tryd.f69) (c := Tryd.f69.body.getD .skip) (n := 10) (N := 0) (rvs := [.tmp 4]) (cxOk (.cons okFbits_Mask TabOk.nil) XtOk.nil) Tryd.func69 rfl (by kernel_rfl) rfl rfl (fun x => Nat.le_of_ble_eq_true rfl) (by decide) (fun x => congrFun eFbits_Fits x)
noncomputable def Fbits_Put (a0 : (BitVec 64)) (a1 : Int) (a2 : Int) (a3 : (BitVec 64)) : Option ((BitVec 64) × Int) :=
Option.bind (Fbits_valid a1 a2) (fun r1 =>
if (!r1) = true then
some ((0#64, 1))
else Option.bind (Fbits_Fits a3 a2) (fun r2 =>
if (!r2) = true then
some ((0#64, 3))
else Option.bind (Fbits_Mask a2) (fun r3 =>
if True then
if True then
some (((a0 &&& ~~~(r3 <<< (BitVec.ofInt 64 a1).toNat)) ||| (a3 <<< (BitVec.ofInt 64 a1).toNat), 0))
else none
else none)))
@[reducible] noncomputable def iFbits_Put : FnI := { ps := [⟨.u64, false, false, false⟩, ⟨(.int .i64), false, false, false⟩, ⟨(.int .i64), false, false, false⟩, ⟨.u64, false, false, false⟩], rs := [⟨.u64, false, true, false⟩, ⟨(.int .i64), false, true, false⟩], os := [], bk := [], F := fun x => Fbits_Put x.1 x.2.1 x.2.2.1 x.2.2.2 }
noncomputable def cFbits_Put : Cx := { nm := [], keep := [], fns := tabF [(61, iFbits_valid), (62, iFbits_Mask), (69, iFbits_Fits)], loops := [], joins := [], tb := tabs, exts := [], lets := [] }
theorem eFbits_Put : (fun x : HT iFbits_Put.ps => iFbits_Put.F x) = fun x => rk Tryd.prog cFbits_Put (Tryd.f60.body.getD .skip) (HT (iFbits_Put.rs ++ iFbits_Put.os)) 1000000 (finK Tryd.prog [.tmp 8, .tmp 9] [] iFbits_Put.os (iFbits_Put.rs ++ iFbits_Put.os)) (initF iFbits_Put.ps iFbits_Put.sh x 30) (initL iFbits_Put.ps x 0) := by kernel_rfl
theorem okFbits_Put : CallsV Tryd.prog tabs 60 iFbits_Put :=
  callsV_of_rk (cx := cFbits_Put) (fn := Tryd.f60) (c := Tryd.f60.body.getD .skip) (n := 30) (N := 0) (rvs := [.tmp 8, .tmp 9]) (cxOk (.cons okFbits_valid (.cons okFbits_Mask (.cons okFbits_Fits TabOk.nil))) XtOk.nil) Tryd.func60 rfl (by kernel_rfl) rfl rfl (fun x => Nat.le_of_ble_eq_true rfl) (by decide) (fun x => congrFun eFbits_Put x)
noncomputable def Fheader_Forward (a0 : Int) : Option ((BitVec 64) × Int) :=
if a0 < 0 then
some ((0#64, 2))
else if a0 > 16383 then
some ((0#64, 2))
else Option.bind (Fbits_Put (1#64) 1 32 (BitVec.ofInt 64 a0)) (fun r1 =>
some ((r1.1, 0)))
@[reducible] noncomputable def iFheader_Forward : FnI := { ps := [⟨(.int .i64), false, false, false⟩], rs := [⟨.u64, false, true, false⟩, ⟨(.int .i64), false, true, false⟩], os := [], bk := [], F := fun x => Fheader_Forward x }
noncomputable def cFheader_Forward : Cx := { nm := [], keep := [], fns := tabF [(60, iFbits_Put)], loops := [], joins := [], tb := tabs, exts := [], lets := [] }
theorem eFheader_Forward : (fun x : HT iFheader_Forward.ps => iFheader_Forward.F x) = fun x => rk Tryd.prog cFheader_Forward (Tryd.f44.body.getD .skip) (HT (iFheader_Forward.rs ++ iFheader_Forward.os)) 1000000 (finK Tryd.prog [.tmp 2, .tmp 3] [] iFheader_Forward.os (iFheader_Forward.rs ++ iFheader_Forward.os)) (initF iFheader_Forward.ps iFheader_Forward.sh x 19) (initL iFheader_Forward.ps x 0) := by kernel_rfl
theorem okFheader_Forward : CallsV Tryd.prog tabs 44 iFheader_Forward :=
  callsV_of_rk (cx := cFheader_Forward) (fn := Tryd.f44) (c := Tryd.f44.body.getD .skip) (n := 19) (N := 0) (rvs := [.tmp 2, .tmp 3]) (cxOk (.cons okFbits_Put TabOk.nil) XtOk.nil) Tryd.func44 rfl (by kernel_rfl) rfl rfl (fun x => Nat.le_of_ble_eq_true rfl) (by decide) (fun x => congrFun eFheader_Forward x)
noncomputable def Fevacuate_copier_within_own0 (a0 : ((Int × (List (BitVec 64)) × (List (Int × Int × Int))) × (BitVec 64) × (Int × Int × Int × Int × Int) × (List (Int × Int)))) (a1 : (BitVec 64)) : Option (Bool × ((Int × (List (BitVec 64)) × (List (Int × Int × Int))) × (BitVec 64) × (Int × Int × Int × Int × Int) × (List (Int × Int)))) :=
if ¬ a1 = (0#64) then
if a1.toNat ≤ (BitVec.ofInt 64 (a0.1.2.1.length : Int)).toNat then
if True then
if 0 ≤ ((w64 (((a1 - (1#64)).toNat : Int))) / 2 ^ min (BitVec.ofInt 64 a0.1.1).toNat 64) then
some ((decide (((a0.2.1 >>> ((w64 (((a1 - (1#64)).toNat : Int))) / 2 ^ min (BitVec.ofInt 64 a0.1.1).toNat 64).toNat) &&& (1#64)) = (1#64)), a0))
else none
else none
else some ((false, a0))
else some ((false, a0))
@[reducible] noncomputable def iFevacuate_copier_within_own0 : FnI := { ps := [⟨(.pair (.pair (.int .i64) (.pair (.slice .u64) (.slice (.pair (.int .i64) (.pair (.int .i64) (.int .i64)))))) (.pair .u64 (.pair (.pair (.int .i64) (.pair (.int .i64) (.pair (.int .i64) (.pair (.int .i64) (.int .i64))))) (.slice (.pair (.int .i64) (.int .i64)))))), true, true, true⟩, ⟨.u64, false, false, false⟩], rs := [⟨.bool, false, true, false⟩], os := [⟨(.pair (.pair (.int .i64) (.pair (.slice .u64) (.slice (.pair (.int .i64) (.pair (.int .i64) (.int .i64)))))) (.pair .u64 (.pair (.pair (.int .i64) (.pair (.int .i64) (.pair (.int .i64) (.pair (.int .i64) (.int .i64))))) (.slice (.pair (.int .i64) (.int .i64)))))), true, true, true⟩], bk := [0], F := fun x => Fevacuate_copier_within_own0 x.1 x.2 }
noncomputable def cFevacuate_copier_within_own0 : Cx := { nm := [], keep := [], fns := tabF [], loops := [], joins := [], tb := tabs, exts := [], lets := [] }
theorem eFevacuate_copier_within_own0 : (fun x : HT iFevacuate_copier_within_own0.ps => iFevacuate_copier_within_own0.F x) = fun x => rk Tryd.prog cFevacuate_copier_within_own0 (Tryd.f42.body.getD .skip) (HT (iFevacuate_copier_within_own0.rs ++ iFevacuate_copier_within_own0.os)) 1000000 (finK Tryd.prog [.tmp 4] [0] iFevacuate_copier_within_own0.os (iFevacuate_copier_within_own0.rs ++ iFevacuate_copier_within_own0.os)) (initF iFevacuate_copier_within_own0.ps iFevacuate_copier_within_own0.sh x 37) (initL iFevacuate_copier_within_own0.ps x 0) := by kernel_rfl
theorem okFevacuate_copier_within_own0 : CallsV Tryd.prog tabs 42 iFevacuate_copier_within_own0 :=
  callsV_of_rk (cx := cFevacuate_copier_within_own0) (fn := Tryd.f42) (c := Tryd.f42.body.getD .skip) (n := 37) (N := 0) (rvs := [.tmp 4]) (cxOk TabOk.nil XtOk.nil) Tryd.func42 rfl (by kernel_rfl) rfl rfl (fun x => Nat.le_of_ble_eq_true rfl) (by decide) (fun x => congrFun eFevacuate_copier_within_own0 x)
noncomputable def Fevacuate_copier_move (a0 : ((Int × (List (BitVec 64)) × (List (Int × Int × Int))) × (BitVec 64) × (Int × Int × Int × Int × Int) × (List (Int × Int)))) (a1 : (BitVec 64)) : Option ((BitVec 64) × Int × ((Int × (List (BitVec 64)) × (List (Int × Int × Int))) × (BitVec 64) × (Int × Int × Int × Int × Int) × (List (Int × Int)))) :=
Option.bind (Fevacuate_copier_within_own0 a0 a1) (fun r1 =>
if (!r1.1) = true then
some ((a1, 0, r1.2))
else if 0 ≤ (w64 (((a1 - (1#64)).toNat : Int))) ∧ (w64 (((a1 - (1#64)).toNat : Int))) < (r1.2.1.2.1.length : Int) then
Option.bind (Fheader_Decode (gl (0#64 : (BitVec 64)) r1.2.1.2.1 ((w64 (((a1 - (1#64)).toNat : Int))).toNat))) (fun r2 =>
if ¬ r2.2.2.2.2 = 0 then
some ((0#64, 12, r1.2))
else if r2.2.2.2.1 = true then
some (((BitVec.ofInt 64 r2.2.2.1) + (1#64), 0, r1.2))
else Option.bind (Fcells_At r1.2.1 (w64 (((a1 - (1#64)).toNat : Int))) (w64 ((w64 ((w64 ((1 : Int) + r2.1)) + r2.2.1)) - 1))) (fun r3 =>
if r3 < 0 then
some ((0#64, 12, r1.2))
else Option.bind (Fcells_Grow r1.2.1 r1.2.2.2.1 (w64 ((w64 ((1 : Int) + r2.1)) + r2.2.1))) (fun r4 =>
if (!r4.2.1) = true then
some ((0#64, 4, ((r1.2.1.1, r4.2.2.1, r4.2.2.2.1), r1.2.2.1, r4.2.2.2.2, r1.2.2.2.2)))
else loopO (σ := (Int × (List (BitVec 64)))) (β := ((BitVec 64) × Int × ((Int × (List (BitVec 64)) × (List (Int × Int × Int))) × (BitVec 64) × (Int × Int × Int × Int × Int) × (List (Int × Int))))) (fun s1 =>
if s1.1 < (w64 ((w64 ((1 : Int) + r2.1)) + r2.2.1)) then
Option.bind (Fcells_At (r1.2.1.1, s1.2, r4.2.2.2.1) r4.1 s1.1) (fun r5 =>
Option.bind (Fcells_At (r1.2.1.1, s1.2, r4.2.2.2.1) (w64 (((a1 - (1#64)).toNat : Int))) s1.1) (fun r6 =>
if 0 ≤ r6 ∧ r6 < (s1.2.length : Int) then
if 0 ≤ r5 ∧ r5 < (s1.2.length : Int) then
some (Sum.inl ((w64 (s1.1 + 1), s1.2.set r5.toNat (gl (0#64 : (BitVec 64)) s1.2 r6.toNat))))
else none
else none))
else Option.map Sum.inr (Option.bind (Fheader_Forward r4.1) (fun r7 =>
if 0 ≤ (w64 (((a1 - (1#64)).toNat : Int))) ∧ (w64 (((a1 - (1#64)).toNat : Int))) < (s1.2.length : Int) then
if (r1.2.2.2.2.length + ([(w64 (((a1 - (1#64)).toNat : Int)), r4.1)] : List (Int × Int)).length) * 16 ≤ 140737488355328 then
some (((BitVec.ofInt 64 r4.1) + (1#64), 0, ((r1.2.1.1, s1.2.set ((w64 (((a1 - (1#64)).toNat : Int))).toNat) r7.1, r4.2.2.2.1), r1.2.2.1, r4.2.2.2.2, r1.2.2.2.2 ++ ([(w64 (((a1 - (1#64)).toNat : Int)), r4.1)] : List (Int × Int)))))
else none
else none))) ((0, r4.2.2.1)))))
else none)
@[reducible] noncomputable def iFevacuate_copier_move : FnI := { ps := [⟨(.pair (.pair (.int .i64) (.pair (.slice .u64) (.slice (.pair (.int .i64) (.pair (.int .i64) (.int .i64)))))) (.pair .u64 (.pair (.pair (.int .i64) (.pair (.int .i64) (.pair (.int .i64) (.pair (.int .i64) (.int .i64))))) (.slice (.pair (.int .i64) (.int .i64)))))), true, true, true⟩, ⟨.u64, false, false, false⟩], rs := [⟨.u64, false, true, false⟩, ⟨(.int .i64), false, true, false⟩], os := [⟨(.pair (.pair (.int .i64) (.pair (.slice .u64) (.slice (.pair (.int .i64) (.pair (.int .i64) (.int .i64)))))) (.pair .u64 (.pair (.pair (.int .i64) (.pair (.int .i64) (.pair (.int .i64) (.pair (.int .i64) (.int .i64))))) (.slice (.pair (.int .i64) (.int .i64)))))), true, true, true⟩], bk := [0], F := fun x => Fevacuate_copier_move x.1 x.2 }
noncomputable def cFevacuate_copier_move : Cx := { nm := [(18, (4, 3)), (52, (7, 1)), (109, (8, 1)), (110, (9, 1))], keep := [110], fns := tabF [(25, iFheader_Decode), (26, iFcells_At), (42, iFevacuate_copier_within_own0), (43, iFcells_Grow), (44, iFheader_Forward)], loops := [(1, { live := [(15, ⟨(.int .i64), false, false, false⟩)], boxes := [], rows := [(4, .u64)], dead := [57, 58, 59, 60, 61, 62, 63, 64, 65, 66, 67, 68, 69, 70, 71, 72, 73, 74, 75, 76, 77, 78, 79, 80, 81, 82, 83, 84, 85, 86, 87, 88], lost := [], base := 8 })], joins := [], tb := tabs, exts := [], lets := [] }
theorem eFevacuate_copier_move : (fun x : HT iFevacuate_copier_move.ps => iFevacuate_copier_move.F x) = fun x => rk Tryd.prog cFevacuate_copier_move (Tryd.f24.body.getD .skip) (HT (iFevacuate_copier_move.rs ++ iFevacuate_copier_move.os)) 1000000 (finK Tryd.prog [.tmp 4, .tmp 5] [0] iFevacuate_copier_move.os (iFevacuate_copier_move.rs ++ iFevacuate_copier_move.os)) (initF iFevacuate_copier_move.ps iFevacuate_copier_move.sh x 134) (initL iFevacuate_copier_move.ps x 6) := by kernel_rfl
theorem okFevacuate_copier_move : CallsV Tryd.prog tabs 24 iFevacuate_copier_move :=
  callsV_of_rk (cx := cFevacuate_copier_move) (fn := Tryd.f24) (c := Tryd.f24.body.getD .skip) (n := 134) (N := 6) (rvs := [.tmp 4, .tmp 5]) (cxOk (.cons okFheader_Decode (.cons okFcells_At (.cons okFevacuate_copier_within_own0 (.cons okFcells_Grow (.cons okFheader_Forward TabOk.nil))))) XtOk.nil) Tryd.func24 rfl (by kernel_rfl) rfl rfl (fun x => Nat.le_of_ble_eq_true rfl) (by decide) (fun x => congrFun eFevacuate_copier_move x)
noncomputable def Fevacuate_Copy (a0 : (Int × (List (BitVec 64)) × (List (Int × Int × Int)))) (a1 : (List (Int × Int × Int × Int × Int))) (a2 : (Int × Int × Int × Int × Int)) (a3 : (List (BitVec 64))) : Option ((Int × (List (BitVec 64)) × (List (Int × Int × Int))) × (Int × Int × Int × Int × Int) × (List (Int × Int)) × (List (BitVec 64)) × Int) :=
Option.bind (Fevacuate_check a0 a1 a2) (fun r1 =>
if ¬ r1 = 0 then
Option.bind (Fevacuate_Copy_1 r1) (fun r2 =>
some ((r2.1, r2.2.1, r2.2.2.1, r2.2.2.2.1, r2.2.2.2.2)))
else Option.bind (Fclone_Space a0) (fun r3 =>
Option.bind (Fscan_Frames a0 a1) (fun r4 =>
loopO (σ := (Int × ((Int × (List (BitVec 64)) × (List (Int × Int × Int))) × (BitVec 64) × (Int × Int × Int × Int × Int) × (List (Int × Int))))) (β := ((Int × (List (BitVec 64)) × (List (Int × Int × Int))) × (Int × Int × Int × Int × Int) × (List (Int × Int)) × (List (BitVec 64)) × Int)) (fun s1 =>
if s1.1 < (r4.length : Int) then
if 0 ≤ s1.1 ∧ s1.1 < (r4.length : Int) then
if True then
some (Sum.inl ((w64 (s1.1 + 1), (s1.2.1, s1.2.2.1 ||| ((1#64) <<< (BitVec.ofInt 64 (gl (0 : Int) r4 s1.1.toNat)).toNat), s1.2.2.2))))
else none
else none
else Option.map Sum.inr (Option.bind (Fclone_Words a3) (fun r5 =>
loopO (σ := (Int × ((Int × (List (BitVec 64)) × (List (Int × Int × Int))) × (BitVec 64) × (Int × Int × Int × Int × Int) × (List (Int × Int))) × (List (BitVec 64)))) (β := ((Int × (List (BitVec 64)) × (List (Int × Int × Int))) × (Int × Int × Int × Int × Int) × (List (Int × Int)) × (List (BitVec 64)) × Int)) (fun s2 =>
if s2.1 < (a3.length : Int) then
if 0 ≤ s2.1 ∧ s2.1 < (a3.length : Int) then
Option.bind (Fevacuate_copier_move s2.2.1 (gl (0#64 : (BitVec 64)) a3 s2.1.toNat)) (fun r6 =>
if ¬ r6.2.1 = 0 then
Option.bind (Fevacuate_Copy_1 r6.2.1) (fun r7 =>
some (Sum.inr ((r7.1, r7.2.1, r7.2.2.1, r7.2.2.2.1, r7.2.2.2.2))))
else if 0 ≤ s2.1 ∧ s2.1 < (s2.2.2.length : Int) then
some (Sum.inl ((w64 (s2.1 + 1), r6.2.2, s2.2.2.set s2.1.toNat r6.1)))
else none)
else none
else Option.map Sum.inr (loopO (σ := (Int × ((Int × (List (BitVec 64)) × (List (Int × Int × Int))) × (BitVec 64) × (Int × Int × Int × Int × Int) × (List (Int × Int))))) (β := ((Int × (List (BitVec 64)) × (List (Int × Int × Int))) × (Int × Int × Int × Int × Int) × (List (Int × Int)) × (List (BitVec 64)) × Int)) (fun s3 =>
if s3.1 < (s3.2.2.2.2.length : Int) then
if 0 ≤ s3.1 ∧ s3.1 < (s3.2.2.2.2.length : Int) then
if 0 ≤ ((gl ((0, 0) : (Int × Int)) s3.2.2.2.2 s3.1.toNat).2) ∧ ((gl ((0, 0) : (Int × Int)) s3.2.2.2.2 s3.1.toNat).2) < (s3.2.1.2.1.length : Int) then
Option.bind (Fheader_Decode (gl (0#64 : (BitVec 64)) s3.2.1.2.1 (((gl ((0, 0) : (Int × Int)) s3.2.2.2.2 s3.1.toNat).2).toNat))) (fun r8 =>
loopO (σ := (Int × ((Int × (List (BitVec 64)) × (List (Int × Int × Int))) × (BitVec 64) × (Int × Int × Int × Int × Int) × (List (Int × Int))))) (β := ((Int × ((Int × (List (BitVec 64)) × (List (Int × Int × Int))) × (BitVec 64) × (Int × Int × Int × Int × Int) × (List (Int × Int)))) ⊕ ((Int × (List (BitVec 64)) × (List (Int × Int × Int))) × (Int × Int × Int × Int × Int) × (List (Int × Int)) × (List (BitVec 64)) × Int))) (fun s4 =>
if s4.1 ≤ r8.1 then
Option.bind (Fcells_At s4.2.1 ((gl ((0, 0) : (Int × Int)) s3.2.2.2.2 s3.1.toNat).2) s4.1) (fun r9 =>
if 0 ≤ r9 ∧ r9 < (s4.2.1.2.1.length : Int) then
Option.bind (Fevacuate_copier_move s4.2 (gl (0#64 : (BitVec 64)) s4.2.1.2.1 r9.toNat)) (fun r10 =>
if ¬ r10.2.1 = 0 then
Option.bind (Fevacuate_Copy_1 r10.2.1) (fun r11 =>
some (Sum.inr (Sum.inr ((r11.1, r11.2.1, r11.2.2.1, r11.2.2.2.1, r11.2.2.2.2)))))
else if 0 ≤ r9 ∧ r9 < (r10.2.2.1.2.1.length : Int) then
some (Sum.inl ((w64 (s4.1 + 1), ((r10.2.2.1.1, r10.2.2.1.2.1.set r9.toNat r10.1, r10.2.2.1.2.2), r10.2.2.2))))
else none)
else none)
else some (Sum.inr (Sum.inl ((w64 (s3.1 + 1), s4.2))))) ((1, s3.2)))
else none
else none
else some (Sum.inr ((s3.2.1, s3.2.2.2.1, s3.2.2.2.2, s2.2.2, 0)))) ((0, s2.2.1)))) ((0, s1.2, r5))))) ((0, (r3, 0#64, a2, []))))))
@[reducible] noncomputable def iFevacuate_Copy : FnI := { ps := [⟨(.pair (.int .i64) (.pair (.slice .u64) (.slice (.pair (.int .i64) (.pair (.int .i64) (.int .i64)))))), true, false, false⟩, ⟨(.slice (.pair (.int .i64) (.pair (.int .i64) (.pair (.int .i64) (.pair (.int .i64) (.int .i64)))))), false, false, false⟩, ⟨(.pair (.int .i64) (.pair (.int .i64) (.pair (.int .i64) (.pair (.int .i64) (.int .i64))))), true, false, false⟩, ⟨(.slice .u64), false, false, false⟩], rs := [⟨(.pair (.int .i64) (.pair (.slice .u64) (.slice (.pair (.int .i64) (.pair (.int .i64) (.int .i64)))))), true, true, false⟩, ⟨(.pair (.int .i64) (.pair (.int .i64) (.pair (.int .i64) (.pair (.int .i64) (.int .i64))))), true, true, false⟩, ⟨(.slice (.pair (.int .i64) (.int .i64))), false, true, false⟩, ⟨(.slice .u64), false, true, false⟩, ⟨(.int .i64), false, true, false⟩], os := [], bk := [], F := fun x => Fevacuate_Copy x.1 x.2.1 x.2.2.1 x.2.2.2 }
noncomputable def cFevacuate_Copy : Cx := { nm := [(4, (4, 1)), (6, (5, 1)), (8, (6, 1)), (9, (7, 1)), (42, (8, 4)), (49, (12, 2)), (52, (14, 1)), (55, (15, 1)), (73, (19, 1)), (84, (20, 3)), (91, (23, 4)), (156, (30, 3)), (163, (33, 4))], keep := [], fns := tabF [(19, iFevacuate_Copy_1), (20, iFevacuate_check), (21, iFclone_Space), (22, iFscan_Frames), (23, iFclone_Words), (24, iFevacuate_copier_move), (25, iFheader_Decode), (26, iFcells_At)], loops := [(0, { live := [(57, ⟨(.int .i64), false, false, false⟩)], boxes := [(14, ⟨(.pair (.pair (.int .i64) (.pair (.slice .u64) (.slice (.pair (.int .i64) (.pair (.int .i64) (.int .i64)))))) (.pair .u64 (.pair (.pair (.int .i64) (.pair (.int .i64) (.pair (.int .i64) (.pair (.int .i64) (.int .i64))))) (.slice (.pair (.int .i64) (.int .i64)))))), true, true, false⟩)], rows := [], dead := [17, 58, 59, 60, 61, 62, 63, 64, 65, 66, 67, 68, 69, 70, 71], lost := [12, 13], base := 16 }), (2, { live := [(76, ⟨(.int .i64), false, false, false⟩)], boxes := [(14, ⟨(.pair (.pair (.int .i64) (.pair (.slice .u64) (.slice (.pair (.int .i64) (.pair (.int .i64) (.int .i64)))))) (.pair .u64 (.pair (.pair (.int .i64) (.pair (.int .i64) (.pair (.int .i64) (.pair (.int .i64) (.int .i64))))) (.slice (.pair (.int .i64) (.int .i64)))))), true, true, false⟩)], rows := [(19, .u64)], dead := [10, 11, 12, 19, 20, 21, 22, 77, 78, 79, 80, 81, 82, 83, 84, 85, 86, 87, 88, 89, 90, 91, 92, 93, 94, 95, 96, 97, 98, 99, 100, 101], lost := [16, 17, 18], base := 27 }), (4, { live := [(23, ⟨(.int .i64), false, false, false⟩)], boxes := [(14, ⟨(.pair (.pair (.int .i64) (.pair (.slice .u64) (.slice (.pair (.int .i64) (.pair (.int .i64) (.int .i64)))))) (.pair .u64 (.pair (.pair (.int .i64) (.pair (.int .i64) (.pair (.int .i64) (.pair (.int .i64) (.int .i64))))) (.slice (.pair (.int .i64) (.int .i64)))))), true, true, false⟩)], rows := [], dead := [10, 11, 12, 24, 25, 26, 27, 28, 29, 30, 31, 32, 33, 102, 103, 104, 105, 106, 107, 108, 109, 110, 111, 112, 113, 114, 115, 116, 117, 118, 119, 120, 121, 122, 123, 124, 125, 126, 127, 128, 129, 130, 131, 132, 133, 134, 135, 136, 137, 138, 139, 140, 141, 142, 143, 144, 145, 146, 147, 148, 149, 150, 151, 152, 153, 154, 155, 156, 157, 158, 159, 160, 161, 162, 163, 164, 165, 166, 167, 168, 169, 170, 171, 172, 173, 174, 175, 176], lost := [27, 28, 29], base := 40 }), (6, { live := [(30, ⟨(.int .i64), false, false, false⟩)], boxes := [(14, ⟨(.pair (.pair (.int .i64) (.pair (.slice .u64) (.slice (.pair (.int .i64) (.pair (.int .i64) (.int .i64)))))) (.pair .u64 (.pair (.pair (.int .i64) (.pair (.int .i64) (.pair (.int .i64) (.pair (.int .i64) (.int .i64))))) (.slice (.pair (.int .i64) (.int .i64)))))), true, true, false⟩)], rows := [], dead := [10, 11, 12, 31, 32, 33, 134, 135, 136, 137, 138, 139, 140, 141, 142, 143, 144, 145, 146, 147, 148, 149, 150, 151, 152, 153, 154, 155, 156, 157, 158, 159, 160, 161, 162, 163, 164, 165, 166, 167, 168, 169, 170, 171, 172, 173, 174, 175, 176], lost := [27, 28, 29, 40, 41, 42], base := 37 })], joins := [], tb := tabs, exts := [], lets := [] }
theorem eFevacuate_Copy : (fun x : HT iFevacuate_Copy.ps => iFevacuate_Copy.F x) = fun x => rk Tryd.prog cFevacuate_Copy (Tryd.f9.body.getD .skip) (HT (iFevacuate_Copy.rs ++ iFevacuate_Copy.os)) 1000000 (finK Tryd.prog [.cell 8 26, .cell 9 31, .tmp 10, .tmp 11, .tmp 12] [] iFevacuate_Copy.os (iFevacuate_Copy.rs ++ iFevacuate_Copy.os)) (initF iFevacuate_Copy.ps iFevacuate_Copy.sh x 190) (initL iFevacuate_Copy.ps x 39) := by kernel_rfl
theorem okFevacuate_Copy : CallsV Tryd.prog tabs 9 iFevacuate_Copy :=
  callsV_of_rk (cx := cFevacuate_Copy) (fn := Tryd.f9) (c := Tryd.f9.body.getD .skip) (n := 190) (N := 39) (rvs := [.cell 8 26, .cell 9 31, .tmp 10, .tmp 11, .tmp 12]) (cxOk (.cons okFevacuate_Copy_1 (.cons okFevacuate_check (.cons okFclone_Space (.cons okFscan_Frames (.cons okFclone_Words (.cons okFevacuate_copier_move (.cons okFheader_Decode (.cons okFcells_At TabOk.nil)))))))) XtOk.nil) Tryd.func9 rfl (by kernel_rfl) rfl rfl (fun x => Nat.le_of_ble_eq_true rfl) (by decide) (fun x => congrFun eFevacuate_Copy x)
noncomputable def Fbeltwayref08_get (a0 : (Int × (List (BitVec 64)) × (List (Int × Int × Int)))) (a1 : Int) (a2 : Int) (a3 : Bool) : Option ((BitVec 64) × Int) :=
Option.bind (Fbeltwayref03_Valid a0) (fun r1 =>
if (!r1) = true then
some ((0#64, 1))
else Option.bind (Fbeltwayref08_Place a0 a1 a2 a3) (fun r2 =>
if ¬ r2.2 = 0 then
some ((0#64, r2.2))
else if 0 ≤ r2.1 ∧ r2.1 < (a0.2.1.length : Int) then
some ((gl (0#64 : (BitVec 64)) a0.2.1 r2.1.toNat, 0))
else none))
@[reducible] noncomputable def iFbeltwayref08_get : FnI := { ps := [⟨(.pair (.int .i64) (.pair (.slice .u64) (.slice (.pair (.int .i64) (.pair (.int .i64) (.int .i64)))))), true, false, false⟩, ⟨(.int .i64), false, false, false⟩, ⟨(.int .i64), false, false, false⟩, ⟨.bool, false, false, false⟩], rs := [⟨.u64, false, true, false⟩, ⟨(.int .i64), false, true, false⟩], os := [], bk := [], F := fun x => Fbeltwayref08_get x.1 x.2.1 x.2.2.1 x.2.2.2 }
noncomputable def cFbeltwayref08_get : Cx := { nm := [(4, (2, 1))], keep := [], fns := tabF [(16, iFbeltwayref03_Valid), (36, iFbeltwayref08_Place)], loops := [], joins := [], tb := tabs, exts := [], lets := [] }
theorem eFbeltwayref08_get : (fun x : HT iFbeltwayref08_get.ps => iFbeltwayref08_get.F x) = fun x => rk Tryd.prog cFbeltwayref08_get (Tryd.f27.body.getD .skip) (HT (iFbeltwayref08_get.rs ++ iFbeltwayref08_get.os)) 1000000 (finK Tryd.prog [.tmp 8, .tmp 9] [] iFbeltwayref08_get.os (iFbeltwayref08_get.rs ++ iFbeltwayref08_get.os)) (initF iFbeltwayref08_get.ps iFbeltwayref08_get.sh x 31) (initL iFbeltwayref08_get.ps x 1) := by kernel_rfl
theorem okFbeltwayref08_get : CallsV Tryd.prog tabs 27 iFbeltwayref08_get :=
  callsV_of_rk (cx := cFbeltwayref08_get) (fn := Tryd.f27) (c := Tryd.f27.body.getD .skip) (n := 31) (N := 1) (rvs := [.tmp 8, .tmp 9]) (cxOk (.cons okFbeltwayref03_Valid (.cons okFbeltwayref08_Place TabOk.nil)) XtOk.nil) Tryd.func27 rfl (by kernel_rfl) rfl rfl (fun x => Nat.le_of_ble_eq_true rfl) (by decide) (fun x => congrFun eFbeltwayref08_get x)
noncomputable def Fbeltwayref08_Ref (a0 : (Int × (List (BitVec 64)) × (List (Int × Int × Int)))) (a1 : Int) (a2 : Int) : Option ((BitVec 64) × Int) :=
Option.bind (Fbeltwayref08_get a0 a1 a2 true) (fun r1 =>
some ((r1.1, r1.2)))
@[reducible] noncomputable def iFbeltwayref08_Ref : FnI := { ps := [⟨(.pair (.int .i64) (.pair (.slice .u64) (.slice (.pair (.int .i64) (.pair (.int .i64) (.int .i64)))))), true, false, false⟩, ⟨(.int .i64), false, false, false⟩, ⟨(.int .i64), false, false, false⟩], rs := [⟨.u64, false, true, false⟩, ⟨(.int .i64), false, true, false⟩], os := [], bk := [], F := fun x => Fbeltwayref08_Ref x.1 x.2.1 x.2.2 }
noncomputable def cFbeltwayref08_Ref : Cx := { nm := [(3, (2, 1))], keep := [], fns := tabF [(27, iFbeltwayref08_get)], loops := [], joins := [], tb := tabs, exts := [], lets := [] }
theorem eFbeltwayref08_Ref : (fun x : HT iFbeltwayref08_Ref.ps => iFbeltwayref08_Ref.F x) = fun x => rk Tryd.prog cFbeltwayref08_Ref (Tryd.f10.body.getD .skip) (HT (iFbeltwayref08_Ref.rs ++ iFbeltwayref08_Ref.os)) 1000000 (finK Tryd.prog [.tmp 6, .tmp 7] [] iFbeltwayref08_Ref.os (iFbeltwayref08_Ref.rs ++ iFbeltwayref08_Ref.os)) (initF iFbeltwayref08_Ref.ps iFbeltwayref08_Ref.sh x 14) (initL iFbeltwayref08_Ref.ps x 1) := by kernel_rfl
theorem okFbeltwayref08_Ref : CallsV Tryd.prog tabs 10 iFbeltwayref08_Ref :=
  callsV_of_rk (cx := cFbeltwayref08_Ref) (fn := Tryd.f10) (c := Tryd.f10.body.getD .skip) (n := 14) (N := 1) (rvs := [.tmp 6, .tmp 7]) (cxOk (.cons okFbeltwayref08_get TabOk.nil) XtOk.nil) Tryd.func10 rfl (by kernel_rfl) rfl rfl (fun x => Nat.le_of_ble_eq_true rfl) (by decide) (fun x => congrFun eFbeltwayref08_Ref x)
noncomputable def Fbeltwaylaw23_EvacuateList (a0 : Int) (a1 : Int) : Option Bool :=
Option.bind (Fbeltwaymake_Mod a0 40) (fun r1 =>
Option.bind (Fbeltwaymake_Mod a1 3) (fun r2 =>
Option.bind (Fbeltwayref03_New 4 40) (fun r3 =>
if ¬ r3.2 = 0 then
some (false)
else loopO (σ := ((List Int) × Int × (Int × (List (BitVec 64)) × (List (Int × Int × Int))) × (Int × Int × Int × Int × Int))) (β := Bool) (fun s1 =>
if s1.2.1 < (w64 ((1 : Int) + r1)) then
Option.bind (Fbeltwayref09_Alloc s1.2.2.1 s1.2.2.2 (w64 ((2 : Int) + r2))) (fun r4 =>
Option.bind (Fbeltwayref08_Init r4.1 r4.2.2.1 1 r2) (fun r5 =>
if (s1.1.length + ([r4.2.2.1] : List Int).length) * 8 ≤ 140737488355328 then
some (Sum.inl ((s1.1 ++ ([r4.2.2.1] : List Int), w64 (s1.2.1 + 1), r5.1, r4.2.1)))
else none))
else Option.map Sum.inr (loopO (σ := (Int × (Int × (List (BitVec 64)) × (List (Int × Int × Int))))) (β := Bool) (fun s2 =>
if s2.1 < (s1.1.length : Int) then
if 0 ≤ s2.1 ∧ s2.1 < (s1.1.length : Int) then
if ¬ (w64 ((1 : Int) + r1)) = 0 then
if 0 ≤ (Int.tmod (w64 (s2.1 + 1)) (w64 ((1 : Int) + r1))) ∧ (Int.tmod (w64 (s2.1 + 1)) (w64 ((1 : Int) + r1))) < (s1.1.length : Int) then
Option.bind (Fbeltwayref08_SetRef s2.2 (gl (0 : Int) s1.1 s2.1.toNat) 0 (BitVec.ofInt 64 (w64 ((gl (0 : Int) s1.1 ((Int.tmod (w64 (s2.1 + 1)) (w64 ((1 : Int) + r1))).toNat)) + 1)))) (fun r6 =>
some (Sum.inl ((w64 (s2.1 + 1), r6.1))))
else none
else none
else none
else Option.map Sum.inr (if 0 ≤ (0 : Int) ∧ (0 : Int) < (s1.1.length : Int) then
Option.bind (Fevacuate_Copy s2.2 ([s1.2.2.2] : List (Int × Int × Int × Int × Int)) (1, 1, (-1), (-1), 0) ([BitVec.ofInt 64 (w64 ((gl (0 : Int) s1.1 ((0 : Int).toNat)) + 1))] : List (BitVec 64))) (fun r7 =>
if ¬ r7.2.2.2.2 = 0 then
some (false)
else if ¬ (r7.2.2.1.length : Int) = (w64 ((1 : Int) + r1)) then
some (false)
else if ¬ (r7.2.2.2.1.length : Int) = 1 then
some (false)
else if ¬ r7.2.1.2.2.2.2 = (w64 ((w64 ((1 : Int) + r1)) * (w64 ((2 : Int) + r2)))) then
some (false)
else loopO (σ := Int) (β := Bool) (fun s3 =>
if s3 < (s1.1.length : Int) then
if 0 ≤ s3 ∧ s3 < (r7.2.2.1.length : Int) then
if 0 ≤ s3 ∧ s3 < (s1.1.length : Int) then
if ¬ ((gl ((0, 0) : (Int × Int)) r7.2.2.1 s3.toNat).1) = (gl (0 : Int) s1.1 s3.toNat) then
some (Sum.inr (false))
else if 0 ≤ s3 ∧ s3 < (r7.2.2.1.length : Int) then
Option.bind (Fbeltwayref08_Ref r7.1 ((gl ((0, 0) : (Int × Int)) r7.2.2.1 s3.toNat).2) 0) (fun r8 =>
if ¬ r8.2 = 0 then
some (Sum.inr (false))
else if ¬ (w64 ((1 : Int) + r1)) = 0 then
if 0 ≤ (Int.tmod (w64 (s3 + 1)) (w64 ((1 : Int) + r1))) ∧ (Int.tmod (w64 (s3 + 1)) (w64 ((1 : Int) + r1))) < (r7.2.2.1.length : Int) then
if ¬ r8.1 = (BitVec.ofInt 64 (w64 (((gl ((0, 0) : (Int × Int)) r7.2.2.1 ((Int.tmod (w64 (s3 + 1)) (w64 ((1 : Int) + r1))).toNat)).2) + 1))) then
some (Sum.inr (false))
else some (Sum.inl (w64 (s3 + 1)))
else none
else none)
else none
else none
else none
else Option.map Sum.inr (if 0 ≤ (0 : Int) ∧ (0 : Int) < (r7.2.2.2.1.length : Int) then
if 0 ≤ (0 : Int) ∧ (0 : Int) < (r7.2.2.1.length : Int) then
some (decide ((gl (0#64 : (BitVec 64)) r7.2.2.2.1 ((0 : Int).toNat)) = (BitVec.ofInt 64 (w64 (((gl ((0, 0) : (Int × Int)) r7.2.2.1 ((0 : Int).toNat)).2) + 1)))))
else none
else none)) (0))
else none)) ((0, s1.2.2.1)))) (([], 0, r3.1, (0, 0, (-1), (-1), 0))))))
@[reducible] noncomputable def iFbeltwaylaw23_EvacuateList : FnI := { ps := [⟨(.int .i64), false, false, false⟩, ⟨(.int .i64), false, false, false⟩], rs := [⟨.bool, false, true, false⟩], os := [], bk := [], F := fun x => Fbeltwaylaw23_EvacuateList x.1 x.2 }
noncomputable def cFbeltwaylaw23_EvacuateList : Cx := { nm := [(7, (2, 1)), (9, (3, 1)), (14, (24, 1)), (15, (25, 1)), (27, (0, 2)), (43, (5, 2)), (52, (7, 2)), (57, (9, 1)), (58, (10, 1)), (79, (14, 2)), (86, (18, 1)), (93, (19, 1)), (94, (20, 4))], keep := [58], fns := tabF [(4, iFbeltwaymake_Mod), (5, iFbeltwayref03_New), (6, iFbeltwayref09_Alloc), (7, iFbeltwayref08_Init), (8, iFbeltwayref08_SetRef), (9, iFevacuate_Copy), (10, iFbeltwayref08_Ref)], loops := [(0, { live := [(10, ⟨(.slice (.int .i64)), false, true, false⟩), (11, ⟨(.int .i64), false, false, false⟩)], boxes := [(2, ⟨(.pair (.int .i64) (.pair (.slice .u64) (.slice (.pair (.int .i64) (.pair (.int .i64) (.int .i64)))))), true, false, false⟩), (3, ⟨(.pair (.int .i64) (.pair (.int .i64) (.pair (.int .i64) (.pair (.int .i64) (.int .i64))))), true, false, false⟩)], rows := [], dead := [12, 33, 34, 35, 36, 37, 38, 39, 40, 41, 42, 43, 44, 45, 46, 47, 48, 49, 50, 51, 52, 53, 54, 55, 56, 57, 58], lost := [0, 1], base := 11 }), (2, { live := [(61, ⟨(.int .i64), false, false, false⟩)], boxes := [(2, ⟨(.pair (.int .i64) (.pair (.slice .u64) (.slice (.pair (.int .i64) (.pair (.int .i64) (.int .i64)))))), true, false, false⟩)], rows := [], dead := [13, 62, 63, 64, 65, 66, 67, 68, 69, 70, 71, 72, 73, 74, 75, 76, 77, 78, 79, 80, 81, 82], lost := [], base := 16 }), (4, { live := [(124, ⟨(.int .i64), false, false, false⟩)], boxes := [], rows := [], dead := [4, 18, 19, 20, 125, 126, 127, 128, 129, 130, 131, 132, 133, 134, 135, 136, 137, 138, 139, 140, 141, 142, 143, 144, 145, 146, 147, 148, 149, 150, 151, 152, 153, 154, 155, 156, 157, 158, 159, 160, 161, 162, 163], lost := [], base := 26 })], joins := [], tb := tabs, exts := [], lets := [] }
theorem eFbeltwaylaw23_EvacuateList : (fun x : HT iFbeltwaylaw23_EvacuateList.ps => iFbeltwaylaw23_EvacuateList.F x) = fun x => rk Tryd.prog cFbeltwaylaw23_EvacuateList (Tryd.f3.body.getD .skip) (HT (iFbeltwaylaw23_EvacuateList.rs ++ iFbeltwaylaw23_EvacuateList.os)) 1000000 (finK Tryd.prog [.tmp 4] [] iFbeltwaylaw23_EvacuateList.os (iFbeltwaylaw23_EvacuateList.rs ++ iFbeltwaylaw23_EvacuateList.os)) (initF iFbeltwaylaw23_EvacuateList.ps iFbeltwaylaw23_EvacuateList.sh x 174) (initL iFbeltwaylaw23_EvacuateList.ps x 26) := by kernel_rfl
theorem okFbeltwaylaw23_EvacuateList : CallsV Tryd.prog tabs 3 iFbeltwaylaw23_EvacuateList :=
  callsV_of_rk (cx := cFbeltwaylaw23_EvacuateList) (fn := Tryd.f3) (c := Tryd.f3.body.getD .skip) (n := 174) (N := 26) (rvs := [.tmp 4]) (cxOk (.cons okFbeltwaymake_Mod (.cons okFbeltwayref03_New (.cons okFbeltwayref09_Alloc (.cons okFbeltwayref08_Init (.cons okFbeltwayref08_SetRef (.cons okFevacuate_Copy (.cons okFbeltwayref08_Ref TabOk.nil))))))) XtOk.nil) Tryd.func3 rfl (by kernel_rfl) rfl rfl (fun x => Nat.le_of_ble_eq_true rfl) (by decide) (fun x => congrFun eFbeltwaylaw23_EvacuateList x)
end Go.Proofs.YtokeceeccmgcmaaDoor
