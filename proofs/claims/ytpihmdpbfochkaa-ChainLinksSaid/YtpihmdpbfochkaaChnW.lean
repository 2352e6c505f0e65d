/-
  The functions of the laws of package chain (printed, and checked by the kernel).
-/
import Derived.Test.YtpihmdpbfochkaaSpW
set_option linter.unusedVariables false
set_option maxRecDepth 100000
namespace Go.Proofs.Ytpihmdpbfochkaa
open Go Go.V3
noncomputable def Fbeltwaylaw05_pair  : Option (Int × (List (BitVec 64)) × (List (Int × Int × Int))) :=
Option.bind (Fbeltwayref03_New 3 4) (fun r1 =>
if 0 ≤ (0 : Int) ∧ (0 : Int) < (r1.1.2.2.length : Int) then
if 0 ≤ (2 : Int) ∧ (2 : Int) < ((r1.1.2.2.set ((0 : Int).toNat) (1, 1, (-1))).length : Int) then
some ((r1.1.1, r1.1.2.1, (r1.1.2.2.set ((0 : Int).toNat) (1, 1, (-1))).set ((2 : Int).toNat) (1, 1, 0)))
else none
else none)
@[reducible] noncomputable def iFbeltwaylaw05_pair : FnI := { ps := [], rs := [⟨(.pair (.int .i64) (.pair (.slice .u64) (.slice (.pair (.int .i64) (.pair (.int .i64) (.int .i64)))))), true, true, false⟩], os := [], bk := [], F := fun x => Fbeltwaylaw05_pair  }
noncomputable def cFbeltwaylaw05_pair : Cx := { nm := [(0, (0, 1)), (1, (3, 1)), (4, (1, 2))], keep := [], fns := tabF [(25, iFbeltwayref03_New)], loops := [], joins := [] }
theorem eFbeltwaylaw05_pair : (fun x : HT iFbeltwaylaw05_pair.ps => iFbeltwaylaw05_pair.F x) = fun x => rk Try.prog cFbeltwaylaw05_pair (Try.f19.body.getD .skip) (HT (iFbeltwaylaw05_pair.rs ++ iFbeltwaylaw05_pair.os)) 1000000 (finK Try.prog [.cell 0 25] [] iFbeltwaylaw05_pair.os (iFbeltwaylaw05_pair.rs ++ iFbeltwaylaw05_pair.os)) (initF iFbeltwaylaw05_pair.ps x 16) (initL iFbeltwaylaw05_pair.ps x 4) := by kernel_rfl
theorem okFbeltwaylaw05_pair : CallsV Try.prog 19 iFbeltwaylaw05_pair :=
  callsV_of_rk (cx := cFbeltwaylaw05_pair) (fn := Try.f19) (c := Try.f19.body.getD .skip) (n := 16) (N := 4) (rvs := [.cell 0 25]) (cxOk (.cons okFbeltwayref03_New TabOk.nil)) Try.func19 rfl (by kernel_rfl) rfl rfl (by decide) (by decide) (fun x => congrFun eFbeltwaylaw05_pair x)
noncomputable def Fchain_free (a0 : (Int × (List (BitVec 64)) × (List (Int × Int × Int)))) (a1 : Int) : Option Bool :=
if 0 ≤ a1 ∧ a1 < (a0.2.2.length : Int) then
some (decide (((gl ((0, 0, 0) : (Int × Int × Int)) a0.2.2 a1.toNat).1) = (-1)))
else none
@[reducible] noncomputable def iFchain_free : FnI := { ps := [⟨(.pair (.int .i64) (.pair (.slice .u64) (.slice (.pair (.int .i64) (.pair (.int .i64) (.int .i64)))))), true, false, false⟩, ⟨(.int .i64), false, false, false⟩], rs := [⟨.bool, false, true, false⟩], os := [], bk := [], F := fun x => Fchain_free x.1 x.2 }
noncomputable def cFchain_free : Cx := { nm := [(2, (2, 1))], keep := [], fns := tabF [], loops := [], joins := [] }
theorem eFchain_free : (fun x : HT iFchain_free.ps => iFchain_free.F x) = fun x => rk Try.prog cFchain_free (Try.f31.body.getD .skip) (HT (iFchain_free.rs ++ iFchain_free.os)) 1000000 (finK Try.prog [.tmp 4] [] iFchain_free.os (iFchain_free.rs ++ iFchain_free.os)) (initF iFchain_free.ps x 12) (initL iFchain_free.ps x 1) := by kernel_rfl
theorem okFchain_free : CallsV Try.prog 31 iFchain_free :=
  callsV_of_rk (cx := cFchain_free) (fn := Try.f31) (c := Try.f31.body.getD .skip) (n := 12) (N := 1) (rvs := [.tmp 4]) (cxOk TabOk.nil) Try.func31 rfl (by kernel_rfl) rfl rfl (by decide) (by decide) (fun x => congrFun eFchain_free x)
noncomputable def Fchain_Step (a0 : (Int × (List (BitVec 64)) × (List (Int × Int × Int)))) (a1 : Int) (a2 : Int) : Option (Int × Int) :=
Option.bind (Fframe_Valid a0) (fun r1 =>
if (!r1) = true then
some ((0, 1))
else if a1 < 0 then
some ((0, 2))
else if a1 ≥ (a0.2.1.length : Int) then
some ((0, 2))
else if a2 < 0 then
some ((0, 2))
else if True then
Option.bind (Fframe_Size a0) (fun r2 =>
Option.bind (Fframe_Size a0) (fun r3 =>
Option.bind (Fchain_free a0 (a1 / 2 ^ min (BitVec.ofInt 64 a0.1).toNat 64)) (fun r4 =>
if r4 = true then
some ((0, 5))
else if a2 > (a0.2.1.length : Int) then
some ((0, 2))
else loopO (σ := (Int × Int)) (β := (Int × Int)) (fun s1 =>
if s1.1 ≥ 0 then
if s1.2 < r3 then
if True then
some (Sum.inr ((w64 ((w64 (s1.1 * 2 ^ min (BitVec.ofInt 64 a0.1).toNat 64)) + s1.2), 0)))
else none
else if 0 ≤ s1.1 ∧ s1.1 < (a0.2.2.length : Int) then
some (Sum.inl ((((gl ((0, 0, 0) : (Int × Int × Int)) a0.2.2 s1.1.toNat).2).2, w64 (s1.2 - r3))))
else none
else some (Sum.inr ((0, 2)))) ((a1 / 2 ^ min (BitVec.ofInt 64 a0.1).toNat 64, w64 ((iBits .and a1 (w64 (r2 - 1))) + a2))))))
else none)
@[reducible] noncomputable def iFchain_Step : FnI := { ps := [⟨(.pair (.int .i64) (.pair (.slice .u64) (.slice (.pair (.int .i64) (.pair (.int .i64) (.int .i64)))))), true, false, false⟩, ⟨(.int .i64), false, false, false⟩, ⟨(.int .i64), false, false, false⟩], rs := [⟨(.int .i64), false, true, false⟩, ⟨(.int .i64), false, true, false⟩], os := [], bk := [], F := fun x => Fchain_Step x.1 x.2.1 x.2.2 }
noncomputable def cFchain_Step : Cx := { nm := [(3, (2, 1))], keep := [], fns := tabF [(29, iFframe_Valid), (30, iFframe_Size), (31, iFchain_free)], loops := [(0, { live := [(11, ⟨(.int .i64), false, false, false⟩), (12, ⟨(.int .i64), false, false, false⟩)], boxes := [], rows := [], dead := [6, 7, 53, 54, 55, 56, 57, 58, 59, 60, 61, 62, 63, 64, 65, 66, 67, 68, 69, 70, 71, 72, 73], lost := [], base := 3 })], joins := [] }
theorem eFchain_Step : (fun x : HT iFchain_Step.ps => iFchain_Step.F x) = fun x => rk Try.prog cFchain_Step (Try.f13.body.getD .skip) (HT (iFchain_Step.rs ++ iFchain_Step.os)) 1000000 (finK Try.prog [.tmp 6, .tmp 7] [] iFchain_Step.os (iFchain_Step.rs ++ iFchain_Step.os)) (initF iFchain_Step.ps x 74) (initL iFchain_Step.ps x 1) := by kernel_rfl
theorem okFchain_Step : CallsV Try.prog 13 iFchain_Step :=
  callsV_of_rk (cx := cFchain_Step) (fn := Try.f13) (c := Try.f13.body.getD .skip) (n := 74) (N := 1) (rvs := [.tmp 6, .tmp 7]) (cxOk (.cons okFframe_Valid (.cons okFframe_Size (.cons okFchain_free TabOk.nil)))) Try.func13 rfl (by kernel_rfl) rfl rfl (by decide) (by decide) (fun x => congrFun eFchain_Step x)
noncomputable def Fchain_in (a0 : (Int × (List (BitVec 64)) × (List (Int × Int × Int)))) (a1 : Int) : Option Bool :=
if a1 ≥ 0 then
some (decide (a1 < (a0.2.2.length : Int)))
else some (false)
@[reducible] noncomputable def iFchain_in : FnI := { ps := [⟨(.pair (.int .i64) (.pair (.slice .u64) (.slice (.pair (.int .i64) (.pair (.int .i64) (.int .i64)))))), true, false, false⟩, ⟨(.int .i64), false, false, false⟩], rs := [⟨.bool, false, true, false⟩], os := [], bk := [], F := fun x => Fchain_in x.1 x.2 }
noncomputable def cFchain_in : Cx := { nm := [(2, (2, 1))], keep := [], fns := tabF [], loops := [], joins := [] }
theorem eFchain_in : (fun x : HT iFchain_in.ps => iFchain_in.F x) = fun x => rk Try.prog cFchain_in (Try.f34.body.getD .skip) (HT (iFchain_in.rs ++ iFchain_in.os)) 1000000 (finK Try.prog [.tmp 4] [] iFchain_in.os (iFchain_in.rs ++ iFchain_in.os)) (initF iFchain_in.ps x 14) (initL iFchain_in.ps x 1) := by kernel_rfl
theorem okFchain_in : CallsV Try.prog 34 iFchain_in :=
  callsV_of_rk (cx := cFchain_in) (fn := Try.f34) (c := Try.f34.body.getD .skip) (n := 14) (N := 1) (rvs := [.tmp 4]) (cxOk TabOk.nil) Try.func34 rfl (by kernel_rfl) rfl rfl (by decide) (by decide) (fun x => congrFun eFchain_in x)
noncomputable def Fchain_Index (a0 : (Int × (List (BitVec 64)) × (List (Int × Int × Int)))) (a1 : Int) (a2 : Int) : Option (Int × Int) :=
Option.bind (Fframe_Valid a0) (fun r1 =>
if (!r1) = true then
some ((0, 1))
else Option.bind (Fchain_in a0 a1) (fun r2 =>
if (!r2) = true then
some ((0, 2))
else if a2 < 0 then
some ((0, 2))
else if a2 ≥ (a0.2.1.length : Int) then
some ((0, 2))
else Option.bind (Fchain_free a0 a1) (fun r3 =>
if r3 = true then
some ((0, 5))
else Option.bind (Fframe_Size a0) (fun r4 =>
loopO (σ := (Int × Int)) (β := (Int × Int)) (fun s1 =>
if s1.1 ≥ 0 then
if True then
if s1.1 = (a2 / 2 ^ min (BitVec.ofInt 64 a0.1).toNat 64) then
some (Sum.inr ((w64 (s1.2 + (iBits .and a2 (w64 (r4 - 1)))), 0)))
else if 0 ≤ s1.1 ∧ s1.1 < (a0.2.2.length : Int) then
some (Sum.inl ((((gl ((0, 0, 0) : (Int × Int × Int)) a0.2.2 s1.1.toNat).2).2, w64 (s1.2 + r4))))
else none
else none
else some (Sum.inr ((0, 2)))) ((a1, 0))))))
@[reducible] noncomputable def iFchain_Index : FnI := { ps := [⟨(.pair (.int .i64) (.pair (.slice .u64) (.slice (.pair (.int .i64) (.pair (.int .i64) (.int .i64)))))), true, false, false⟩, ⟨(.int .i64), false, false, false⟩, ⟨(.int .i64), false, false, false⟩], rs := [⟨(.int .i64), false, true, false⟩, ⟨(.int .i64), false, true, false⟩], os := [], bk := [], F := fun x => Fchain_Index x.1 x.2.1 x.2.2 }
noncomputable def cFchain_Index : Cx := { nm := [(3, (2, 1))], keep := [], fns := tabF [(29, iFframe_Valid), (30, iFframe_Size), (31, iFchain_free), (34, iFchain_in)], loops := [(0, { live := [(9, ⟨(.int .i64), false, false, false⟩), (10, ⟨(.int .i64), false, false, false⟩)], boxes := [], rows := [], dead := [6, 7, 35, 36, 37, 38, 39, 40, 41, 42, 43, 44, 45, 46, 47, 48, 49, 50, 51, 52, 53, 54, 55, 56, 57, 58], lost := [], base := 3 })], joins := [] }
theorem eFchain_Index : (fun x : HT iFchain_Index.ps => iFchain_Index.F x) = fun x => rk Try.prog cFchain_Index (Try.f15.body.getD .skip) (HT (iFchain_Index.rs ++ iFchain_Index.os)) 1000000 (finK Try.prog [.tmp 6, .tmp 7] [] iFchain_Index.os (iFchain_Index.rs ++ iFchain_Index.os)) (initF iFchain_Index.ps x 59) (initL iFchain_Index.ps x 1) := by kernel_rfl
theorem okFchain_Index : CallsV Try.prog 15 iFchain_Index :=
  callsV_of_rk (cx := cFchain_Index) (fn := Try.f15) (c := Try.f15.body.getD .skip) (n := 59) (N := 1) (rvs := [.tmp 6, .tmp 7]) (cxOk (.cons okFframe_Valid (.cons okFframe_Size (.cons okFchain_free (.cons okFchain_in TabOk.nil))))) Try.func15 rfl (by kernel_rfl) rfl rfl (by decide) (by decide) (fun x => congrFun eFchain_Index x)
noncomputable def Fbeltwaylaw05_awake  : Option Bool :=
Option.bind (Fbeltwaylaw05_pair) (fun r1 =>
Option.bind (Fchain_Step r1 23 1) (fun r2 =>
Option.bind (Fbeltwaylaw05_pair) (fun r3 =>
Option.bind (Fchain_Index r3 2 3) (fun r4 =>
if r2.2 = 0 then
if r4.2 = 0 then
if r2.1 = 0 then
some (decide (r4.1 = 11))
else some (false)
else some (false)
else some (false)))))
@[reducible] noncomputable def iFbeltwaylaw05_awake : FnI := { ps := [], rs := [⟨.bool, false, true, false⟩], os := [], bk := [], F := fun x => Fbeltwaylaw05_awake  }
noncomputable def cFbeltwaylaw05_awake : Cx := { nm := [(6, (0, 2)), (11, (2, 2))], keep := [], fns := tabF [(13, iFchain_Step), (15, iFchain_Index), (19, iFbeltwaylaw05_pair)], loops := [], joins := [] }
theorem eFbeltwaylaw05_awake : (fun x : HT iFbeltwaylaw05_awake.ps => iFbeltwaylaw05_awake.F x) = fun x => rk Try.prog cFbeltwaylaw05_awake (Try.f8.body.getD .skip) (HT (iFbeltwaylaw05_awake.rs ++ iFbeltwaylaw05_awake.os)) 1000000 (finK Try.prog [.tmp 0] [] iFbeltwaylaw05_awake.os (iFbeltwaylaw05_awake.rs ++ iFbeltwaylaw05_awake.os)) (initF iFbeltwaylaw05_awake.ps x 29) (initL iFbeltwaylaw05_awake.ps x 4) := by kernel_rfl
theorem okFbeltwaylaw05_awake : CallsV Try.prog 8 iFbeltwaylaw05_awake :=
  callsV_of_rk (cx := cFbeltwaylaw05_awake) (fn := Try.f8) (c := Try.f8.body.getD .skip) (n := 29) (N := 4) (rvs := [.tmp 0]) (cxOk (.cons okFchain_Step (.cons okFchain_Index (.cons okFbeltwaylaw05_pair TabOk.nil)))) Try.func8 rfl (by kernel_rfl) rfl rfl (by decide) (by decide) (fun x => congrFun eFbeltwaylaw05_awake x)
noncomputable def Fbeltwayref05_Step (a0 : (Int × (List (BitVec 64)) × (List (Int × Int × Int)))) (a1 : Int) (a2 : Int) : Option (Int × Int) :=
Option.bind (Fbeltwayref03_Valid a0) (fun r1 =>
if (!r1) = true then
some ((0, 1))
else Option.bind (Fbeltwayref05_Go a0 a1 a2) (fun r2 =>
some ((r2.1, r2.2))))
@[reducible] noncomputable def iFbeltwayref05_Step : FnI := { ps := [⟨(.pair (.int .i64) (.pair (.slice .u64) (.slice (.pair (.int .i64) (.pair (.int .i64) (.int .i64)))))), true, false, false⟩, ⟨(.int .i64), false, false, false⟩, ⟨(.int .i64), false, false, false⟩], rs := [⟨(.int .i64), false, true, false⟩, ⟨(.int .i64), false, true, false⟩], os := [], bk := [], F := fun x => Fbeltwayref05_Step x.1 x.2.1 x.2.2 }
noncomputable def cFbeltwayref05_Step : Cx := { nm := [(3, (2, 1))], keep := [], fns := tabF [(32, iFbeltwayref03_Valid), (33, iFbeltwayref05_Go)], loops := [], joins := [] }
theorem eFbeltwayref05_Step : (fun x : HT iFbeltwayref05_Step.ps => iFbeltwayref05_Step.F x) = fun x => rk Try.prog cFbeltwayref05_Step (Try.f14.body.getD .skip) (HT (iFbeltwayref05_Step.rs ++ iFbeltwayref05_Step.os)) 1000000 (finK Try.prog [.tmp 6, .tmp 7] [] iFbeltwayref05_Step.os (iFbeltwayref05_Step.rs ++ iFbeltwayref05_Step.os)) (initF iFbeltwayref05_Step.ps x 17) (initL iFbeltwayref05_Step.ps x 1) := by kernel_rfl
theorem okFbeltwayref05_Step : CallsV Try.prog 14 iFbeltwayref05_Step :=
  callsV_of_rk (cx := cFbeltwayref05_Step) (fn := Try.f14) (c := Try.f14.body.getD .skip) (n := 17) (N := 1) (rvs := [.tmp 6, .tmp 7]) (cxOk (.cons okFbeltwayref03_Valid (.cons okFbeltwayref05_Go TabOk.nil))) Try.func14 rfl (by kernel_rfl) rfl rfl (by decide) (by decide) (fun x => congrFun eFbeltwayref05_Step x)
noncomputable def Fbeltwayref05_outside (a0 : (Int × (List (BitVec 64)) × (List (Int × Int × Int)))) (a1 : Int) : Option Bool :=
if a1 < 0 then
some (true)
else some (decide (a1 ≥ (a0.2.2.length : Int)))
@[reducible] noncomputable def iFbeltwayref05_outside : FnI := { ps := [⟨(.pair (.int .i64) (.pair (.slice .u64) (.slice (.pair (.int .i64) (.pair (.int .i64) (.int .i64)))))), true, false, false⟩, ⟨(.int .i64), false, false, false⟩], rs := [⟨.bool, false, true, false⟩], os := [], bk := [], F := fun x => Fbeltwayref05_outside x.1 x.2 }
noncomputable def cFbeltwayref05_outside : Cx := { nm := [(2, (2, 1))], keep := [], fns := tabF [], loops := [], joins := [] }
theorem eFbeltwayref05_outside : (fun x : HT iFbeltwayref05_outside.ps => iFbeltwayref05_outside.F x) = fun x => rk Try.prog cFbeltwayref05_outside (Try.f35.body.getD .skip) (HT (iFbeltwayref05_outside.rs ++ iFbeltwayref05_outside.os)) 1000000 (finK Try.prog [.tmp 4] [] iFbeltwayref05_outside.os (iFbeltwayref05_outside.rs ++ iFbeltwayref05_outside.os)) (initF iFbeltwayref05_outside.ps x 14) (initL iFbeltwayref05_outside.ps x 1) := by kernel_rfl
theorem okFbeltwayref05_outside : CallsV Try.prog 35 iFbeltwayref05_outside :=
  callsV_of_rk (cx := cFbeltwayref05_outside) (fn := Try.f35) (c := Try.f35.body.getD .skip) (n := 14) (N := 1) (rvs := [.tmp 4]) (cxOk TabOk.nil) Try.func35 rfl (by kernel_rfl) rfl rfl (by decide) (by decide) (fun x => congrFun eFbeltwayref05_outside x)
noncomputable def Fbeltwayref05_Index (a0 : (Int × (List (BitVec 64)) × (List (Int × Int × Int)))) (a1 : Int) (a2 : Int) : Option (Int × Int) :=
Option.bind (Fbeltwayref03_Valid a0) (fun r1 =>
if (!r1) = true then
some ((0, 1))
else Option.bind (Fbeltwayref05_outside a0 a1) (fun r2 =>
if r2 = true then
some ((0, 2))
else if a2 < 0 then
some ((0, 2))
else if a2 ≥ (a0.2.1.length : Int) then
some ((0, 2))
else if 0 ≤ a1 ∧ a1 < (a0.2.2.length : Int) then
if ((gl ((0, 0, 0) : (Int × Int × Int)) a0.2.2 a1.toNat).1) = (-1) then
some ((0, 5))
else Option.bind (Fbeltwayref05_Chain a0 a1) (fun r3 =>
loopO (σ := (Int × Int)) (β := (Int × Int)) (fun s1 =>
if s1.2 < (r3.length : Int) then
if 0 ≤ s1.2 ∧ s1.2 < (r3.length : Int) then
if True then
if (gl (0 : Int) r3 s1.2.toNat) = (a2 / 2 ^ min (BitVec.ofInt 64 a0.1).toNat 64) then
if True then
some (Sum.inr ((w64 (s1.1 + (iBits .and a2 (w64 ((w64 ((1 : Int) * 2 ^ min (BitVec.ofInt 64 a0.1).toNat 64)) - 1)))), 0)))
else none
else if True then
some (Sum.inl ((w64 (s1.1 + (w64 ((1 : Int) * 2 ^ min (BitVec.ofInt 64 a0.1).toNat 64))), w64 (s1.2 + 1))))
else none
else none
else none
else some (Sum.inr ((0, 2)))) ((0, 0)))
else none))
@[reducible] noncomputable def iFbeltwayref05_Index : FnI := { ps := [⟨(.pair (.int .i64) (.pair (.slice .u64) (.slice (.pair (.int .i64) (.pair (.int .i64) (.int .i64)))))), true, false, false⟩, ⟨(.int .i64), false, false, false⟩, ⟨(.int .i64), false, false, false⟩], rs := [⟨(.int .i64), false, true, false⟩, ⟨(.int .i64), false, true, false⟩], os := [], bk := [], F := fun x => Fbeltwayref05_Index x.1 x.2.1 x.2.2 }
noncomputable def cFbeltwayref05_Index : Cx := { nm := [(3, (2, 1)), (40, (3, 1))], keep := [], fns := tabF [(32, iFbeltwayref03_Valid), (35, iFbeltwayref05_outside), (36, iFbeltwayref05_Chain)], loops := [(1, { live := [(8, ⟨(.int .i64), false, false, false⟩), (42, ⟨(.int .i64), false, false, false⟩)], boxes := [], rows := [], dead := [6, 7, 10, 43, 44, 45, 46, 47, 48, 49, 50, 51, 52, 53, 54, 55, 56, 57, 58, 59, 60, 61, 62, 63, 64, 65, 66, 67, 68], lost := [], base := 4 })], joins := [] }
theorem eFbeltwayref05_Index : (fun x : HT iFbeltwayref05_Index.ps => iFbeltwayref05_Index.F x) = fun x => rk Try.prog cFbeltwayref05_Index (Try.f16.body.getD .skip) (HT (iFbeltwayref05_Index.rs ++ iFbeltwayref05_Index.os)) 1000000 (finK Try.prog [.tmp 6, .tmp 7] [] iFbeltwayref05_Index.os (iFbeltwayref05_Index.rs ++ iFbeltwayref05_Index.os)) (initF iFbeltwayref05_Index.ps x 69) (initL iFbeltwayref05_Index.ps x 2) := by kernel_rfl
theorem okFbeltwayref05_Index : CallsV Try.prog 16 iFbeltwayref05_Index :=
  callsV_of_rk (cx := cFbeltwayref05_Index) (fn := Try.f16) (c := Try.f16.body.getD .skip) (n := 69) (N := 2) (rvs := [.tmp 6, .tmp 7]) (cxOk (.cons okFbeltwayref03_Valid (.cons okFbeltwayref05_outside (.cons okFbeltwayref05_Chain TabOk.nil)))) Try.func16 rfl (by kernel_rfl) rfl rfl (by decide) (by decide) (fun x => congrFun eFbeltwayref05_Index x)
noncomputable def Fbeltwaylaw05_ChainSteps (a0 : (Int × (List (BitVec 64)) × (List (Int × Int × Int)))) (a1 : (List Int)) (a2 : Int) (a3 : Int) (a4 : Int) (a5 : Int) (a6 : Int) (a7 : Int) : Option Bool :=
Option.bind (Fbeltwaymake_Small a0) (fun r1 =>
if (!r1) = true then
Option.bind (Fbeltwaylaw05_awake) (fun r2 =>
some (r2))
else Option.bind (Fbeltwaymake_New a1) (fun r3 =>
Option.bind (Fbeltwaymake_Space r3) (fun r4 =>
Option.bind (Fbeltwaymake_Spoilt r4.1 a5 a6 a7) (fun r5 =>
loopO (σ := Int) (β := Bool) (fun s1 =>
if s1 < (([r4.1, a0, r5] : List (Int × (List (BitVec 64)) × (List (Int × Int × Int)))).length : Int) then
if 0 ≤ s1 ∧ s1 < (([r4.1, a0, r5] : List (Int × (List (BitVec 64)) × (List (Int × Int × Int)))).length : Int) then
Option.bind (Fbeltwaymake_Mod a2 (w64 (((((gl ((0, [], []) : (Int × (List (BitVec 64)) × (List (Int × Int × Int)))) ([r4.1, a0, r5] : List (Int × (List (BitVec 64)) × (List (Int × Int × Int)))) s1.toNat).2).1).length : Int) + 2))) (fun r6 =>
Option.bind (Fbeltwaymake_Mod a3 60) (fun r7 =>
Option.bind (Fbeltwaymake_Mod a4 (w64 (((((gl ((0, [], []) : (Int × (List (BitVec 64)) × (List (Int × Int × Int)))) ([r4.1, a0, r5] : List (Int × (List (BitVec 64)) × (List (Int × Int × Int)))) s1.toNat).2).2).length : Int) + 2))) (fun r8 =>
loopO (σ := Int) (β := (Int ⊕ Bool)) (fun s2 =>
if s2 < (([([a2, a3, a4] : List Int), ([w64 (r6 - 1), w64 (r7 - 1), w64 (r8 - 1)] : List Int)] : List (List Int)).length : Int) then
if 0 ≤ s2 ∧ s2 < (([([a2, a3, a4] : List Int), ([w64 (r6 - 1), w64 (r7 - 1), w64 (r8 - 1)] : List Int)] : List (List Int)).length : Int) then
if 0 ≤ (0 : Int) ∧ (0 : Int) < ((gl ([] : (List Int)) ([([a2, a3, a4] : List Int), ([w64 (r6 - 1), w64 (r7 - 1), w64 (r8 - 1)] : List Int)] : List (List Int)) s2.toNat).length : Int) then
if 0 ≤ (1 : Int) ∧ (1 : Int) < ((gl ([] : (List Int)) ([([a2, a3, a4] : List Int), ([w64 (r6 - 1), w64 (r7 - 1), w64 (r8 - 1)] : List Int)] : List (List Int)) s2.toNat).length : Int) then
Option.bind (Fchain_Step ((gl ((0, [], []) : (Int × (List (BitVec 64)) × (List (Int × Int × Int)))) ([r4.1, a0, r5] : List (Int × (List (BitVec 64)) × (List (Int × Int × Int)))) s1.toNat).1, ((gl ((0, [], []) : (Int × (List (BitVec 64)) × (List (Int × Int × Int)))) ([r4.1, a0, r5] : List (Int × (List (BitVec 64)) × (List (Int × Int × Int)))) s1.toNat).2)) (gl (0 : Int) (gl ([] : (List Int)) ([([a2, a3, a4] : List Int), ([w64 (r6 - 1), w64 (r7 - 1), w64 (r8 - 1)] : List Int)] : List (List Int)) s2.toNat) ((0 : Int).toNat)) (gl (0 : Int) (gl ([] : (List Int)) ([([a2, a3, a4] : List Int), ([w64 (r6 - 1), w64 (r7 - 1), w64 (r8 - 1)] : List Int)] : List (List Int)) s2.toNat) ((1 : Int).toNat))) (fun r9 =>
if 0 ≤ (0 : Int) ∧ (0 : Int) < ((gl ([] : (List Int)) ([([a2, a3, a4] : List Int), ([w64 (r6 - 1), w64 (r7 - 1), w64 (r8 - 1)] : List Int)] : List (List Int)) s2.toNat).length : Int) then
if 0 ≤ (1 : Int) ∧ (1 : Int) < ((gl ([] : (List Int)) ([([a2, a3, a4] : List Int), ([w64 (r6 - 1), w64 (r7 - 1), w64 (r8 - 1)] : List Int)] : List (List Int)) s2.toNat).length : Int) then
Option.bind (Fbeltwayref05_Step ((gl ((0, [], []) : (Int × (List (BitVec 64)) × (List (Int × Int × Int)))) ([r4.1, a0, r5] : List (Int × (List (BitVec 64)) × (List (Int × Int × Int)))) s1.toNat).1, ((gl ((0, [], []) : (Int × (List (BitVec 64)) × (List (Int × Int × Int)))) ([r4.1, a0, r5] : List (Int × (List (BitVec 64)) × (List (Int × Int × Int)))) s1.toNat).2)) (gl (0 : Int) (gl ([] : (List Int)) ([([a2, a3, a4] : List Int), ([w64 (r6 - 1), w64 (r7 - 1), w64 (r8 - 1)] : List Int)] : List (List Int)) s2.toNat) ((0 : Int).toNat)) (gl (0 : Int) (gl ([] : (List Int)) ([([a2, a3, a4] : List Int), ([w64 (r6 - 1), w64 (r7 - 1), w64 (r8 - 1)] : List Int)] : List (List Int)) s2.toNat) ((1 : Int).toNat))) (fun r10 =>
if 0 ≤ (2 : Int) ∧ (2 : Int) < ((gl ([] : (List Int)) ([([a2, a3, a4] : List Int), ([w64 (r6 - 1), w64 (r7 - 1), w64 (r8 - 1)] : List Int)] : List (List Int)) s2.toNat).length : Int) then
if 0 ≤ (0 : Int) ∧ (0 : Int) < ((gl ([] : (List Int)) ([([a2, a3, a4] : List Int), ([w64 (r6 - 1), w64 (r7 - 1), w64 (r8 - 1)] : List Int)] : List (List Int)) s2.toNat).length : Int) then
Option.bind (Fchain_Index ((gl ((0, [], []) : (Int × (List (BitVec 64)) × (List (Int × Int × Int)))) ([r4.1, a0, r5] : List (Int × (List (BitVec 64)) × (List (Int × Int × Int)))) s1.toNat).1, ((gl ((0, [], []) : (Int × (List (BitVec 64)) × (List (Int × Int × Int)))) ([r4.1, a0, r5] : List (Int × (List (BitVec 64)) × (List (Int × Int × Int)))) s1.toNat).2)) (gl (0 : Int) (gl ([] : (List Int)) ([([a2, a3, a4] : List Int), ([w64 (r6 - 1), w64 (r7 - 1), w64 (r8 - 1)] : List Int)] : List (List Int)) s2.toNat) ((2 : Int).toNat)) (gl (0 : Int) (gl ([] : (List Int)) ([([a2, a3, a4] : List Int), ([w64 (r6 - 1), w64 (r7 - 1), w64 (r8 - 1)] : List Int)] : List (List Int)) s2.toNat) ((0 : Int).toNat))) (fun r11 =>
if 0 ≤ (2 : Int) ∧ (2 : Int) < ((gl ([] : (List Int)) ([([a2, a3, a4] : List Int), ([w64 (r6 - 1), w64 (r7 - 1), w64 (r8 - 1)] : List Int)] : List (List Int)) s2.toNat).length : Int) then
if 0 ≤ (0 : Int) ∧ (0 : Int) < ((gl ([] : (List Int)) ([([a2, a3, a4] : List Int), ([w64 (r6 - 1), w64 (r7 - 1), w64 (r8 - 1)] : List Int)] : List (List Int)) s2.toNat).length : Int) then
Option.bind (Fbeltwayref05_Index ((gl ((0, [], []) : (Int × (List (BitVec 64)) × (List (Int × Int × Int)))) ([r4.1, a0, r5] : List (Int × (List (BitVec 64)) × (List (Int × Int × Int)))) s1.toNat).1, ((gl ((0, [], []) : (Int × (List (BitVec 64)) × (List (Int × Int × Int)))) ([r4.1, a0, r5] : List (Int × (List (BitVec 64)) × (List (Int × Int × Int)))) s1.toNat).2)) (gl (0 : Int) (gl ([] : (List Int)) ([([a2, a3, a4] : List Int), ([w64 (r6 - 1), w64 (r7 - 1), w64 (r8 - 1)] : List Int)] : List (List Int)) s2.toNat) ((2 : Int).toNat)) (gl (0 : Int) (gl ([] : (List Int)) ([([a2, a3, a4] : List Int), ([w64 (r6 - 1), w64 (r7 - 1), w64 (r8 - 1)] : List Int)] : List (List Int)) s2.toNat) ((0 : Int).toNat))) (fun r12 =>
if ¬ r9.1 = r10.1 then
some (Sum.inr (Sum.inr (false)))
else if ¬ r9.2 = r10.2 then
some (Sum.inr (Sum.inr (false)))
else if ¬ r11.1 = r12.1 then
some (Sum.inr (Sum.inr (false)))
else if ¬ r11.2 = r12.2 then
some (Sum.inr (Sum.inr (false)))
else some (Sum.inl (w64 (s2 + 1))))
else none
else none)
else none
else none)
else none
else none)
else none
else none
else none
else some (Sum.inr (Sum.inl (w64 (s1 + 1))))) (0))))
else none
else Option.map Sum.inr (Option.bind (Fbeltwaylaw05_awake) (fun r13 =>
some (r13)))) (0)))))
@[reducible] noncomputable def iFbeltwaylaw05_ChainSteps : FnI := { ps := [⟨(.pair (.int .i64) (.pair (.slice .u64) (.slice (.pair (.int .i64) (.pair (.int .i64) (.int .i64)))))), true, false, false⟩, ⟨(.slice (.int .i64)), false, false, false⟩, ⟨(.int .i64), false, false, false⟩, ⟨(.int .i64), false, false, false⟩, ⟨(.int .i64), false, false, false⟩, ⟨(.int .i64), false, false, false⟩, ⟨(.int .i64), false, false, false⟩, ⟨(.int .i64), false, false, false⟩], rs := [⟨.bool, false, true, false⟩], os := [], bk := [], F := fun x => Fbeltwaylaw05_ChainSteps x.1 x.2.1 x.2.2.1 x.2.2.2.1 x.2.2.2.2.1 x.2.2.2.2.2.1 x.2.2.2.2.2.2.1 x.2.2.2.2.2.2.2 }
noncomputable def cFbeltwaylaw05_ChainSteps : Cx := { nm := [(8, (3, 1)), (17, (10, 1)), (20, (16, 1)), (37, (4, 2)), (38, (6, 4)), (47, (11, 2)), (48, (13, 1)), (53, (14, 2)), (57, (17, 1)), (75, (18, 1)), (76, (19, 1)), (81, (20, 1))], keep := [], fns := tabF [(7, iFbeltwaymake_Small), (8, iFbeltwaylaw05_awake), (9, iFbeltwaymake_Space), (10, iFbeltwaymake_New), (11, iFbeltwaymake_Spoilt), (12, iFbeltwaymake_Mod), (13, iFchain_Step), (14, iFbeltwayref05_Step), (15, iFchain_Index), (16, iFbeltwayref05_Index)], loops := [(0, { live := [(50, ⟨(.int .i64), false, false, false⟩)], boxes := [], rows := [], dead := [16, 20, 22, 23, 24, 25, 26, 27, 28, 29, 30, 51, 52, 53, 54, 55, 56, 57, 58, 59, 60, 61, 62, 63, 64, 65, 66, 67, 68, 69, 70, 71, 72, 73, 74, 75, 76, 77, 78, 79, 80, 81, 82, 83, 84, 85, 86, 87, 88, 89, 90, 91, 92, 93, 94, 95, 96, 97, 98, 99, 100, 101, 102, 103, 104, 105, 106, 107, 108, 109, 110, 111, 112, 113, 114, 115, 116, 117, 118, 119, 120, 121, 122, 123, 124, 125, 126, 127, 128, 129, 130, 131, 132, 133, 134, 135, 136, 137, 138, 139, 140, 141, 142, 143, 144, 145], lost := [], base := 14 }), (2, { live := [(78, ⟨(.int .i64), false, false, false⟩)], boxes := [], rows := [], dead := [16, 22, 23, 24, 25, 26, 27, 28, 29, 30, 79, 80, 81, 82, 83, 84, 85, 86, 87, 88, 89, 90, 91, 92, 93, 94, 95, 96, 97, 98, 99, 100, 101, 102, 103, 104, 105, 106, 107, 108, 109, 110, 111, 112, 113, 114, 115, 116, 117, 118, 119, 120, 121, 122, 123, 124, 125, 126, 127, 128, 129, 130, 131, 132, 133, 134, 135, 136, 137, 138, 139, 140, 141, 142, 143, 144], lost := [], base := 20 })], joins := [] }
theorem eFbeltwaylaw05_ChainSteps : (fun x : HT iFbeltwaylaw05_ChainSteps.ps => iFbeltwaylaw05_ChainSteps.F x) = fun x => rk Try.prog cFbeltwaylaw05_ChainSteps (Try.f3.body.getD .skip) (HT (iFbeltwaylaw05_ChainSteps.rs ++ iFbeltwaylaw05_ChainSteps.os)) 1000000 (finK Try.prog [.tmp 16] [] iFbeltwaylaw05_ChainSteps.os (iFbeltwaylaw05_ChainSteps.rs ++ iFbeltwaylaw05_ChainSteps.os)) (initF iFbeltwaylaw05_ChainSteps.ps x 147) (initL iFbeltwaylaw05_ChainSteps.ps x 18) := by kernel_rfl
theorem okFbeltwaylaw05_ChainSteps : CallsV Try.prog 3 iFbeltwaylaw05_ChainSteps :=
  callsV_of_rk (cx := cFbeltwaylaw05_ChainSteps) (fn := Try.f3) (c := Try.f3.body.getD .skip) (n := 147) (N := 18) (rvs := [.tmp 16]) (cxOk (.cons okFbeltwaymake_Small (.cons okFbeltwaylaw05_awake (.cons okFbeltwaymake_Space (.cons okFbeltwaymake_New (.cons okFbeltwaymake_Spoilt (.cons okFbeltwaymake_Mod (.cons okFchain_Step (.cons okFbeltwayref05_Step (.cons okFchain_Index (.cons okFbeltwayref05_Index TabOk.nil))))))))))) Try.func3 rfl (by kernel_rfl) rfl rfl (by decide) (by decide) (fun x => congrFun eFbeltwaylaw05_ChainSteps x)
noncomputable def Fchain_List (a0 : (Int × (List (BitVec 64)) × (List (Int × Int × Int)))) (a1 : Int) : Option ((List Int) × Int) :=
Option.bind (Fframe_Valid a0) (fun r1 =>
if (!r1) = true then
some (([], 1))
else Option.bind (Fchain_in a0 a1) (fun r2 =>
if (!r2) = true then
some (([], 2))
else Option.bind (Fchain_free a0 a1) (fun r3 =>
if r3 = true then
some (([], 5))
else loopO (σ := ((List Int) × Int)) (β := ((List Int) × Int)) (fun s1 =>
if s1.2 ≥ 0 then
if (s1.1.length + ([s1.2] : List Int).length) * 8 ≤ 140737488355328 then
if 0 ≤ s1.2 ∧ s1.2 < (a0.2.2.length : Int) then
some (Sum.inl ((s1.1 ++ ([s1.2] : List Int), ((gl ((0, 0, 0) : (Int × Int × Int)) a0.2.2 s1.2.toNat).2).2)))
else none
else none
else some (Sum.inr ((s1.1, 0)))) (([], a1)))))
@[reducible] noncomputable def iFchain_List : FnI := { ps := [⟨(.pair (.int .i64) (.pair (.slice .u64) (.slice (.pair (.int .i64) (.pair (.int .i64) (.int .i64)))))), true, false, false⟩, ⟨(.int .i64), false, false, false⟩], rs := [⟨(.slice (.int .i64)), false, true, false⟩, ⟨(.int .i64), false, true, false⟩], os := [], bk := [], F := fun x => Fchain_List x.1 x.2 }
noncomputable def cFchain_List : Cx := { nm := [(2, (2, 1)), (29, (4, 1)), (30, (5, 1))], keep := [30], fns := tabF [(29, iFframe_Valid), (31, iFchain_free), (34, iFchain_in)], loops := [(0, { live := [(6, ⟨(.slice (.int .i64)), false, true, false⟩), (7, ⟨(.int .i64), false, false, false⟩)], boxes := [], rows := [], dead := [19, 20, 21, 22, 23, 24, 25, 26, 27, 28, 29, 30], lost := [], base := 3 })], joins := [] }
theorem eFchain_List : (fun x : HT iFchain_List.ps => iFchain_List.F x) = fun x => rk Try.prog cFchain_List (Try.f17.body.getD .skip) (HT (iFchain_List.rs ++ iFchain_List.os)) 1000000 (finK Try.prog [.tmp 4, .tmp 5] [] iFchain_List.os (iFchain_List.rs ++ iFchain_List.os)) (initF iFchain_List.ps x 32) (initL iFchain_List.ps x 4) := by kernel_rfl
theorem okFchain_List : CallsV Try.prog 17 iFchain_List :=
  callsV_of_rk (cx := cFchain_List) (fn := Try.f17) (c := Try.f17.body.getD .skip) (n := 32) (N := 4) (rvs := [.tmp 4, .tmp 5]) (cxOk (.cons okFframe_Valid (.cons okFchain_free (.cons okFchain_in TabOk.nil)))) Try.func17 rfl (by kernel_rfl) rfl rfl (by decide) (by decide) (fun x => congrFun eFchain_List x)
noncomputable def Fbeltwaylaw05_ChainOrder (a0 : (List Int)) (a1 : Int) (a2 : Int) (a3 : Int) : Option Bool :=
Option.bind (Fbeltwaymake_New a0) (fun r1 =>
Option.bind (Fbeltwaymake_Space r1) (fun r2 =>
if (r2.2.1.length : Int) = 0 then
Option.bind (Fbeltwaylaw05_awake) (fun r3 =>
some (r3))
else Option.bind (Fbeltwaymake_Mod a1 (r2.2.1.length : Int)) (fun r4 =>
if 0 ≤ r4 ∧ r4 < (r2.2.1.length : Int) then
Option.bind (Fchain_List r2.1 ((((gl ((0, 0, 0, 0, 0) : (Int × Int × Int × Int × Int)) r2.2.1 r4.toNat).2).2).1)) (fun r5 =>
if ¬ r5.2 = 0 then
some (false)
else if (r5.1.length : Int) = 0 then
some (false)
else if True then
Option.bind (Fbeltwaymake_Mod a2 (w64 ((r5.1.length : Int) * 2 ^ min (BitVec.ofInt 64 r2.1.1).toNat 64))) (fun r6 =>
Option.bind (Fbeltwaymake_Mod a3 (w64 ((r5.1.length : Int) * 2 ^ min (BitVec.ofInt 64 r2.1.1).toNat 64))) (fun r7 =>
if True then
Option.bind (Fchain_Step r2.1 (w64 (((((gl ((0, 0, 0, 0, 0) : (Int × Int × Int × Int × Int)) r2.2.1 r4.toNat).2).2).1) * 2 ^ min (BitVec.ofInt 64 r2.1.1).toNat 64)) r6) (fun r8 =>
Option.bind (Fchain_Index r2.1 ((((gl ((0, 0, 0, 0, 0) : (Int × Int × Int × Int × Int)) r2.2.1 r4.toNat).2).2).1) r8.1) (fun r9 =>
Option.bind (Fchain_Step r2.1 r8.1 r7) (fun r10 =>
if True then
Option.bind (Fchain_Step r2.1 (w64 (((((gl ((0, 0, 0, 0, 0) : (Int × Int × Int × Int × Int)) r2.2.1 r4.toNat).2).2).1) * 2 ^ min (BitVec.ofInt 64 r2.1.1).toNat 64)) (w64 (r6 + r7))) (fun r11 =>
if ¬ r8.2 = 0 then
some (false)
else if ¬ r9.2 = 0 then
some (false)
else if ¬ r9.1 = r6 then
some (false)
else if ¬ r10.2 = r11.2 then
some (false)
else if r10.2 = 0 then
if r10.1 = r11.1 then
if (w64 (r6 + r7)) < (w64 ((r5.1.length : Int) * 2 ^ min (BitVec.ofInt 64 r2.1.1).toNat 64)) then
some (true)
else if r10.2 = 2 then
some (decide ((w64 (r6 + r7)) ≥ (w64 ((r5.1.length : Int) * 2 ^ min (BitVec.ofInt 64 r2.1.1).toNat 64))))
else some (false)
else if r10.2 = 2 then
some (decide ((w64 (r6 + r7)) ≥ (w64 ((r5.1.length : Int) * 2 ^ min (BitVec.ofInt 64 r2.1.1).toNat 64))))
else some (false)
else if r10.2 = 2 then
some (decide ((w64 (r6 + r7)) ≥ (w64 ((r5.1.length : Int) * 2 ^ min (BitVec.ofInt 64 r2.1.1).toNat 64))))
else some (false))
else none)))
else none))
else none)
else none)))
@[reducible] noncomputable def iFbeltwaylaw05_ChainOrder : FnI := { ps := [⟨(.slice (.int .i64)), false, false, false⟩, ⟨(.int .i64), false, false, false⟩, ⟨(.int .i64), false, false, false⟩, ⟨(.int .i64), false, false, false⟩], rs := [⟨.bool, false, true, false⟩], os := [], bk := [], F := fun x => Fbeltwaylaw05_ChainOrder x.1 x.2.1 x.2.2.1 x.2.2.2 }
noncomputable def cFbeltwaylaw05_ChainOrder : Cx := { nm := [(9, (7, 1)), (11, (8, 1)), (26, (1, 2)), (27, (3, 4)), (45, (9, 1))], keep := [], fns := tabF [(8, iFbeltwaylaw05_awake), (9, iFbeltwaymake_Space), (10, iFbeltwaymake_New), (12, iFbeltwaymake_Mod), (13, iFchain_Step), (15, iFchain_Index), (17, iFchain_List)], loops := [], joins := [] }
theorem eFbeltwaylaw05_ChainOrder : (fun x : HT iFbeltwaylaw05_ChainOrder.ps => iFbeltwaylaw05_ChainOrder.F x) = fun x => rk Try.prog cFbeltwaylaw05_ChainOrder (Try.f4.body.getD .skip) (HT (iFbeltwaylaw05_ChainOrder.rs ++ iFbeltwaylaw05_ChainOrder.os)) 1000000 (finK Try.prog [.tmp 8] [] iFbeltwaylaw05_ChainOrder.os (iFbeltwaylaw05_ChainOrder.rs ++ iFbeltwaylaw05_ChainOrder.os)) (initF iFbeltwaylaw05_ChainOrder.ps x 149) (initL iFbeltwaylaw05_ChainOrder.ps x 9) := by kernel_rfl
theorem okFbeltwaylaw05_ChainOrder : CallsV Try.prog 4 iFbeltwaylaw05_ChainOrder :=
  callsV_of_rk (cx := cFbeltwaylaw05_ChainOrder) (fn := Try.f4) (c := Try.f4.body.getD .skip) (n := 149) (N := 9) (rvs := [.tmp 8]) (cxOk (.cons okFbeltwaylaw05_awake (.cons okFbeltwaymake_Space (.cons okFbeltwaymake_New (.cons okFbeltwaymake_Mod (.cons okFchain_Step (.cons okFchain_Index (.cons okFchain_List TabOk.nil)))))))) Try.func4 rfl (by kernel_rfl) rfl rfl (by decide) (by decide) (fun x => congrFun eFbeltwaylaw05_ChainOrder x)
noncomputable def Fbeltwayref04_Take (a0 : (Int × (List (BitVec 64)) × (List (Int × Int × Int)))) (a1 : Int) (a2 : Int) : Option ((Int × (List (BitVec 64)) × (List (Int × Int × Int))) × Int × Int) :=
Option.bind (Fbeltwayref03_Valid a0) (fun r1 =>
if (!r1) = true then
some (((0, [], []), 0, 1))
else if a1 < 0 then
some (((0, [], []), 0, 1))
else if a1 > 4294967295 then
some (((0, [], []), 0, 1))
else if a2 < 0 then
some (((0, [], []), 0, 1))
else if a2 ≥ 4 then
some (((0, [], []), 0, 1))
else loopO (σ := Int) (β := ((Int × (List (BitVec 64)) × (List (Int × Int × Int))) × Int × Int)) (fun s1 =>
if s1 < (a0.2.2.length : Int) then
if 0 ≤ s1 ∧ s1 < (a0.2.2.length : Int) then
if ((gl ((0, 0, 0) : (Int × Int × Int)) a0.2.2 s1.toNat).1) = a1 then
if ¬ (((gl ((0, 0, 0) : (Int × Int × Int)) a0.2.2 s1.toNat).2).1) = (w64 ((w64 (a2 * 4294967296)) + a1)) then
some (Sum.inr (((0, [], []), 0, 5)))
else some (Sum.inl (w64 (s1 + 1)))
else some (Sum.inl (w64 (s1 + 1)))
else none
else Option.map Sum.inr (Option.bind (Fbeltwayref03_Copy a0) (fun r2 =>
Option.bind (Fbeltwayref04_Lift r2 a1 a2) (fun r3 =>
if r3.1 < 0 then
some (((0, [], []), 0, 4))
else some (((r2.1, r3.2), r3.1, 0)))))) (0))
@[reducible] noncomputable def iFbeltwayref04_Take : FnI := { ps := [⟨(.pair (.int .i64) (.pair (.slice .u64) (.slice (.pair (.int .i64) (.pair (.int .i64) (.int .i64)))))), true, false, false⟩, ⟨(.int .i64), false, false, false⟩, ⟨(.int .i64), false, false, false⟩], rs := [⟨(.pair (.int .i64) (.pair (.slice .u64) (.slice (.pair (.int .i64) (.pair (.int .i64) (.int .i64)))))), true, true, false⟩, ⟨(.int .i64), false, true, false⟩, ⟨(.int .i64), false, true, false⟩], os := [], bk := [], F := fun x => Fbeltwayref04_Take x.1 x.2.1 x.2.2 }
noncomputable def cFbeltwayref04_Take : Cx := { nm := [(3, (2, 1)), (6, (3, 1)), (10, (4, 1)), (11, (7, 1)), (56, (5, 2))], keep := [], fns := tabF [(28, iFbeltwayref03_Copy), (32, iFbeltwayref03_Valid), (37, iFbeltwayref04_Lift)], loops := [(0, { live := [(36, ⟨(.int .i64), false, false, false⟩)], boxes := [], rows := [], dead := [7, 8, 10, 37, 38, 39, 40, 41, 42, 43, 44, 45, 46, 47, 48, 49, 50, 51, 52, 53, 54], lost := [], base := 4 })], joins := [] }
theorem eFbeltwayref04_Take : (fun x : HT iFbeltwayref04_Take.ps => iFbeltwayref04_Take.F x) = fun x => rk Try.prog cFbeltwayref04_Take (Try.f18.body.getD .skip) (HT (iFbeltwayref04_Take.rs ++ iFbeltwayref04_Take.os)) 1000000 (finK Try.prog [.cell 6 25, .tmp 7, .tmp 8] [] iFbeltwayref04_Take.os (iFbeltwayref04_Take.rs ++ iFbeltwayref04_Take.os)) (initF iFbeltwayref04_Take.ps x 66) (initL iFbeltwayref04_Take.ps x 6) := by kernel_rfl
theorem okFbeltwayref04_Take : CallsV Try.prog 18 iFbeltwayref04_Take :=
  callsV_of_rk (cx := cFbeltwayref04_Take) (fn := Try.f18) (c := Try.f18.body.getD .skip) (n := 66) (N := 6) (rvs := [.cell 6 25, .tmp 7, .tmp 8]) (cxOk (.cons okFbeltwayref03_Copy (.cons okFbeltwayref03_Valid (.cons okFbeltwayref04_Lift TabOk.nil)))) Try.func18 rfl (by kernel_rfl) rfl rfl (by decide) (by decide) (fun x => congrFun eFbeltwayref04_Take x)
noncomputable def Fclone_Words (a0 : (List (BitVec 64))) : Option (List (BitVec 64)) :=
if (([] : List (BitVec 64)).length + a0.length) * 8 ≤ 140737488355328 then
some (([] : List (BitVec 64)) ++ a0)
else none
@[reducible] noncomputable def iFclone_Words : FnI := { ps := [⟨(.slice .u64), false, false, false⟩], rs := [⟨(.slice .u64), false, true, false⟩], os := [], bk := [], F := fun x => Fclone_Words x }
noncomputable def cFclone_Words : Cx := { nm := [(4, (1, 1))], keep := [4], fns := tabF [], loops := [], joins := [] }
theorem eFclone_Words : (fun x : HT iFclone_Words.ps => iFclone_Words.F x) = fun x => rk Try.prog cFclone_Words (Try.f48.body.getD .skip) (HT (iFclone_Words.rs ++ iFclone_Words.os)) 1000000 (finK Try.prog [.tmp 2] [] iFclone_Words.os (iFclone_Words.rs ++ iFclone_Words.os)) (initF iFclone_Words.ps x 5) (initL iFclone_Words.ps x 1) := by kernel_rfl
theorem okFclone_Words : CallsV Try.prog 48 iFclone_Words :=
  callsV_of_rk (cx := cFclone_Words) (fn := Try.f48) (c := Try.f48.body.getD .skip) (n := 5) (N := 1) (rvs := [.tmp 2]) (cxOk TabOk.nil) Try.func48 rfl (by kernel_rfl) rfl rfl (by decide) (by decide) (fun x => congrFun eFclone_Words x)
noncomputable def Fclone_Space (a0 : (Int × (List (BitVec 64)) × (List (Int × Int × Int)))) : Option (Int × (List (BitVec 64)) × (List (Int × Int × Int))) :=
Option.bind (Fclone_Words a0.2.1) (fun r1 =>
if (([] : List (Int × Int × Int)).length + a0.2.2.length) * 24 ≤ 140737488355328 then
some ((a0.1, r1, ([] : List (Int × Int × Int)) ++ a0.2.2))
else none)
@[reducible] noncomputable def iFclone_Space : FnI := { ps := [⟨(.pair (.int .i64) (.pair (.slice .u64) (.slice (.pair (.int .i64) (.pair (.int .i64) (.int .i64)))))), true, false, false⟩], rs := [⟨(.pair (.int .i64) (.pair (.slice .u64) (.slice (.pair (.int .i64) (.pair (.int .i64) (.int .i64)))))), true, true, false⟩], os := [], bk := [], F := fun x => Fclone_Space x }
noncomputable def cFclone_Space : Cx := { nm := [(1, (2, 1)), (2, (3, 1)), (7, (4, 1)), (10, (5, 1))], keep := [10], fns := tabF [(48, iFclone_Words)], loops := [], joins := [] }
theorem eFclone_Space : (fun x : HT iFclone_Space.ps => iFclone_Space.F x) = fun x => rk Try.prog cFclone_Space (Try.f38.body.getD .skip) (HT (iFclone_Space.rs ++ iFclone_Space.os)) 1000000 (finK Try.prog [.cell 2 25] [] iFclone_Space.os (iFclone_Space.rs ++ iFclone_Space.os)) (initF iFclone_Space.ps x 12) (initL iFclone_Space.ps x 4) := by kernel_rfl
theorem okFclone_Space : CallsV Try.prog 38 iFclone_Space :=
  callsV_of_rk (cx := cFclone_Space) (fn := Try.f38) (c := Try.f38.body.getD .skip) (n := 12) (N := 4) (rvs := [.cell 2 25]) (cxOk (.cons okFclone_Words TabOk.nil)) Try.func38 rfl (by kernel_rfl) rfl rfl (by decide) (by decide) (fun x => congrFun eFclone_Space x)
noncomputable def Fchain_Link (a0 : (Int × (List (BitVec 64)) × (List (Int × Int × Int)))) (a1 : Int) (a2 : Int) : Option ((Int × (List (BitVec 64)) × (List (Int × Int × Int))) × Int) :=
Option.bind (Fframe_Valid a0) (fun r1 =>
if (!r1) = true then
some (((0, [], []), 1))
else Option.bind (Fchain_in a0 a1) (fun r2 =>
if (!r2) = true then
some (((0, [], []), 2))
else Option.bind (Fchain_in a0 a2) (fun r3 =>
if (!r3) = true then
some (((0, [], []), 2))
else Option.bind (Fchain_free a0 a1) (fun r4 =>
if r4 = true then
some (((0, [], []), 5))
else Option.bind (Fchain_free a0 a2) (fun r5 =>
if r5 = true then
some (((0, [], []), 5))
else if 0 ≤ a1 ∧ a1 < (a0.2.2.length : Int) then
if 0 ≤ a2 ∧ a2 < (a0.2.2.length : Int) then
if ¬ (((gl ((0, 0, 0) : (Int × Int × Int)) a0.2.2 a1.toNat).2).1) = (((gl ((0, 0, 0) : (Int × Int × Int)) a0.2.2 a2.toNat).2).1) then
some (((0, [], []), 5))
else if 0 ≤ a1 ∧ a1 < (a0.2.2.length : Int) then
if ¬ (((gl ((0, 0, 0) : (Int × Int × Int)) a0.2.2 a1.toNat).2).2) = (-1) then
some (((0, [], []), 5))
else loopO (σ := Int) (β := ((Int × (List (BitVec 64)) × (List (Int × Int × Int))) × Int)) (fun s1 =>
if s1 < (a0.2.2.length : Int) then
if 0 ≤ s1 ∧ s1 < (a0.2.2.length : Int) then
if (((gl ((0, 0, 0) : (Int × Int × Int)) a0.2.2 s1.toNat).2).2) = a2 then
some (Sum.inr (((0, [], []), 5)))
else some (Sum.inl (w64 (s1 + 1)))
else none
else Option.map Sum.inr (loopO (σ := Int) (β := ((Int × (List (BitVec 64)) × (List (Int × Int × Int))) × Int)) (fun s2 =>
if s2 ≥ 0 then
if s2 = a1 then
some (Sum.inr (((0, [], []), 5)))
else if 0 ≤ s2 ∧ s2 < (a0.2.2.length : Int) then
some (Sum.inl (((gl ((0, 0, 0) : (Int × Int × Int)) a0.2.2 s2.toNat).2).2))
else none
else Option.map Sum.inr (Option.bind (Fclone_Space a0) (fun r6 =>
if 0 ≤ a1 ∧ a1 < (r6.2.2.length : Int) then
some (((r6.1, r6.2.1, r6.2.2.set a1.toNat ((gl ((0, 0, 0) : (Int × Int × Int)) r6.2.2 a1.toNat).1, ((gl ((0, 0, 0) : (Int × Int × Int)) r6.2.2 a1.toNat).2).1, a2)), 0))
else none))) (a2))) (0)
else none
else none
else none)))))
@[reducible] noncomputable def iFchain_Link : FnI := { ps := [⟨(.pair (.int .i64) (.pair (.slice .u64) (.slice (.pair (.int .i64) (.pair (.int .i64) (.int .i64)))))), true, false, false⟩, ⟨(.int .i64), false, false, false⟩, ⟨(.int .i64), false, false, false⟩], rs := [⟨(.pair (.int .i64) (.pair (.slice .u64) (.slice (.pair (.int .i64) (.pair (.int .i64) (.int .i64)))))), true, true, false⟩, ⟨(.int .i64), false, true, false⟩], os := [], bk := [], F := fun x => Fchain_Link x.1 x.2.1 x.2.2 }
noncomputable def cFchain_Link : Cx := { nm := [(3, (2, 1)), (6, (3, 1)), (9, (4, 1)), (11, (7, 1)), (87, (5, 2))], keep := [], fns := tabF [(29, iFframe_Valid), (31, iFchain_free), (34, iFchain_in), (38, iFclone_Space)], loops := [(0, { live := [(63, ⟨(.int .i64), false, false, false⟩)], boxes := [], rows := [], dead := [7, 9, 64, 65, 66, 67, 68, 69, 70, 71, 72], lost := [], base := 4 }), (2, { live := [(10, ⟨(.int .i64), false, false, false⟩)], boxes := [], rows := [], dead := [7, 74, 75, 76, 77, 78, 79, 80, 81, 82, 83, 84, 85], lost := [], base := 5 })], joins := [] }
theorem eFchain_Link : (fun x : HT iFchain_Link.ps => iFchain_Link.F x) = fun x => rk Try.prog cFchain_Link (Try.f20.body.getD .skip) (HT (iFchain_Link.rs ++ iFchain_Link.os)) 1000000 (finK Try.prog [.cell 6 25, .tmp 7] [] iFchain_Link.os (iFchain_Link.rs ++ iFchain_Link.os)) (initF iFchain_Link.ps x 95) (initL iFchain_Link.ps x 6) := by kernel_rfl
theorem okFchain_Link : CallsV Try.prog 20 iFchain_Link :=
  callsV_of_rk (cx := cFchain_Link) (fn := Try.f20) (c := Try.f20.body.getD .skip) (n := 95) (N := 6) (rvs := [.cell 6 25, .tmp 7]) (cxOk (.cons okFframe_Valid (.cons okFchain_free (.cons okFchain_in (.cons okFclone_Space TabOk.nil))))) Try.func20 rfl (by kernel_rfl) rfl rfl (by decide) (by decide) (fun x => congrFun eFchain_Link x)
noncomputable def Fbeltwayref18_SameInts (a0 : (List Int)) (a1 : (List Int)) : Option Bool :=
if ¬ (a0.length : Int) = (a1.length : Int) then
some (false)
else loopO (σ := Int) (β := Bool) (fun s1 =>
if s1 < (a0.length : Int) then
if 0 ≤ s1 ∧ s1 < (a0.length : Int) then
if 0 ≤ s1 ∧ s1 < (a1.length : Int) then
if ¬ (gl (0 : Int) a0 s1.toNat) = (gl (0 : Int) a1 s1.toNat) then
some (Sum.inr (false))
else some (Sum.inl (w64 (s1 + 1)))
else none
else none
else some (Sum.inr (true))) (0)
@[reducible] noncomputable def iFbeltwayref18_SameInts : FnI := { ps := [⟨(.slice (.int .i64)), false, false, false⟩, ⟨(.slice (.int .i64)), false, false, false⟩], rs := [⟨.bool, false, true, false⟩], os := [], bk := [], F := fun x => Fbeltwayref18_SameInts x.1 x.2 }
noncomputable def cFbeltwayref18_SameInts : Cx := { nm := [], keep := [], fns := tabF [], loops := [(0, { live := [(13, ⟨(.int .i64), false, false, false⟩)], boxes := [], rows := [], dead := [4, 5, 14, 15, 16, 17, 18, 19, 20, 21, 22, 23, 24, 25], lost := [], base := 2 })], joins := [] }
theorem eFbeltwayref18_SameInts : (fun x : HT iFbeltwayref18_SameInts.ps => iFbeltwayref18_SameInts.F x) = fun x => rk Try.prog cFbeltwayref18_SameInts (Try.f24.body.getD .skip) (HT (iFbeltwayref18_SameInts.rs ++ iFbeltwayref18_SameInts.os)) 1000000 (finK Try.prog [.tmp 4] [] iFbeltwayref18_SameInts.os (iFbeltwayref18_SameInts.rs ++ iFbeltwayref18_SameInts.os)) (initF iFbeltwayref18_SameInts.ps x 26) (initL iFbeltwayref18_SameInts.ps x 0) := by kernel_rfl
theorem okFbeltwayref18_SameInts : CallsV Try.prog 24 iFbeltwayref18_SameInts :=
  callsV_of_rk (cx := cFbeltwayref18_SameInts) (fn := Try.f24) (c := Try.f24.body.getD .skip) (n := 26) (N := 0) (rvs := [.tmp 4]) (cxOk TabOk.nil) Try.func24 rfl (by kernel_rfl) rfl rfl (by decide) (by decide) (fun x => congrFun eFbeltwayref18_SameInts x)
noncomputable def Fbeltwaylaw05_ChainGrows (a0 : Int) (a1 : Int) : Option Bool :=
Option.bind (Fbeltwayref03_New 3 20) (fun r1 =>
Option.bind (Fbeltwaymake_Mod a0 12) (fun r2 =>
loopO (σ := ((List Int) × Int × (Int × (List (BitVec 64)) × (List (Int × Int × Int))))) (β := Bool) (fun s1 =>
if s1.2.1 < (w64 ((1 : Int) + r2)) then
Option.bind (Fbeltwayref04_Take s1.2.2 7 2) (fun r3 =>
if ¬ r3.2.2 = 0 then
some (Sum.inr (false))
else if (s1.1.length + ([r3.2.1] : List Int).length) * 8 ≤ 140737488355328 then
if s1.2.1 > 0 then
if 0 ≤ (w64 (s1.2.1 - 1)) ∧ (w64 (s1.2.1 - 1)) < ((s1.1 ++ ([r3.2.1] : List Int)).length : Int) then
Option.bind (Fchain_Link r3.1 (gl (0 : Int) (s1.1 ++ ([r3.2.1] : List Int)) ((w64 (s1.2.1 - 1)).toNat)) r3.2.1) (fun r4 =>
if ¬ r4.2 = 0 then
some (Sum.inr (false))
else some (Sum.inl ((s1.1 ++ ([r3.2.1] : List Int), w64 (s1.2.1 + 1), r4.1))))
else none
else some (Sum.inl ((s1.1 ++ ([r3.2.1] : List Int), w64 (s1.2.1 + 1), r3.1)))
else none)
else Option.map Sum.inr (Option.bind (Fbeltwaymake_Mod a1 (w64 ((1 : Int) + r2))) (fun r5 =>
if 0 ≤ r5 ∧ r5 < (s1.1.length : Int) then
Option.bind (Fchain_List s1.2.2 (gl (0 : Int) s1.1 r5.toNat)) (fun r6 =>
if 0 ≤ (w64 ((w64 ((1 : Int) + r2)) - 1)) ∧ (w64 ((w64 ((1 : Int) + r2)) - 1)) < (s1.1.length : Int) then
if 0 ≤ (0 : Int) ∧ (0 : Int) < (s1.1.length : Int) then
Option.bind (Fchain_Link s1.2.2 (gl (0 : Int) s1.1 ((w64 ((w64 ((1 : Int) + r2)) - 1)).toNat)) (gl (0 : Int) s1.1 ((0 : Int).toNat))) (fun r7 =>
if r6.2 = 0 then
if Bd (some r5) none s1.1.length s1.1.length then
Option.bind (Fbeltwayref18_SameInts r6.1 (subl s1.1 r5.toNat (s1.1.length - r5.toNat))) (fun r8 =>
if r8 = true then
if r7.2 = 5 then
Option.bind (Fbeltwaylaw05_awake) (fun r9 =>
some (r9))
else some (false)
else some (false))
else none
else some (false))
else none
else none)
else none))) (([], 0, r1.1))))
@[reducible] noncomputable def iFbeltwaylaw05_ChainGrows : FnI := { ps := [⟨(.int .i64), false, false, false⟩, ⟨(.int .i64), false, false, false⟩], rs := [⟨.bool, false, true, false⟩], os := [], bk := [], F := fun x => Fbeltwaylaw05_ChainGrows x.1 x.2 }
noncomputable def cFbeltwaylaw05_ChainGrows : Cx := { nm := [(5, (2, 1)), (10, (6, 1)), (16, (17, 1)), (19, (0, 2)), (32, (4, 2)), (41, (7, 1)), (42, (8, 1)), (53, (9, 2)), (68, (14, 1)), (81, (15, 2))], keep := [42], fns := tabF [(8, iFbeltwaylaw05_awake), (12, iFbeltwaymake_Mod), (17, iFchain_List), (18, iFbeltwayref04_Take), (20, iFchain_Link), (24, iFbeltwayref18_SameInts), (25, iFbeltwayref03_New)], loops := [(0, { live := [(8, ⟨(.slice (.int .i64)), false, true, false⟩), (9, ⟨(.int .i64), false, false, false⟩)], boxes := [(2, ⟨(.pair (.int .i64) (.pair (.slice .u64) (.slice (.pair (.int .i64) (.pair (.int .i64) (.int .i64)))))), true, false, false⟩)], rows := [], dead := [4, 10, 11, 12, 25, 26, 27, 28, 29, 30, 31, 32, 33, 34, 35, 36, 37, 38, 39, 40, 41, 42, 43, 44, 45, 46, 47, 48, 49, 50, 51, 52, 53, 54, 55, 56, 57, 58], lost := [0, 1], base := 11 })], joins := [] }
theorem eFbeltwaylaw05_ChainGrows : (fun x : HT iFbeltwaylaw05_ChainGrows.ps => iFbeltwaylaw05_ChainGrows.F x) = fun x => rk Try.prog cFbeltwaylaw05_ChainGrows (Try.f6.body.getD .skip) (HT (iFbeltwaylaw05_ChainGrows.rs ++ iFbeltwaylaw05_ChainGrows.os)) 1000000 (finK Try.prog [.tmp 4] [] iFbeltwaylaw05_ChainGrows.os (iFbeltwaylaw05_ChainGrows.rs ++ iFbeltwaylaw05_ChainGrows.os)) (initF iFbeltwaylaw05_ChainGrows.ps x 100) (initL iFbeltwaylaw05_ChainGrows.ps x 18) := by kernel_rfl
theorem okFbeltwaylaw05_ChainGrows : CallsV Try.prog 6 iFbeltwaylaw05_ChainGrows :=
  callsV_of_rk (cx := cFbeltwaylaw05_ChainGrows) (fn := Try.f6) (c := Try.f6.body.getD .skip) (n := 100) (N := 18) (rvs := [.tmp 4]) (cxOk (.cons okFbeltwaylaw05_awake (.cons okFbeltwaymake_Mod (.cons okFchain_List (.cons okFbeltwayref04_Take (.cons okFchain_Link (.cons okFbeltwayref18_SameInts (.cons okFbeltwayref03_New TabOk.nil)))))))) Try.func6 rfl (by kernel_rfl) rfl rfl (by decide) (by decide) (fun x => congrFun eFbeltwaylaw05_ChainGrows x)
end Go.Proofs.Ytpihmdpbfochkaa
