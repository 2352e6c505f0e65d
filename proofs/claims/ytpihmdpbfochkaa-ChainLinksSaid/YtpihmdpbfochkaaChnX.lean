/-
  The function of the law ChainLinks (printed, and checked by the kernel).
-/
import Derived.Test.YtpihmdpbfochkaaChnW
set_option linter.unusedVariables false
set_option maxRecDepth 100000
namespace Go.Proofs.Ytpihmdpbfochkaa
open Go Go.V3
noncomputable def Fbeltwayref05_Link (a0 : (Int × (List (BitVec 64)) × (List (Int × Int × Int)))) (a1 : Int) (a2 : Int) : Option ((Int × (List (BitVec 64)) × (List (Int × Int × Int))) × Int) :=
Option.bind (Fbeltwayref03_Valid a0) (fun r1 =>
if (!r1) = true then
some (((0, [], []), 1))
else Option.bind (Fbeltwayref05_outside a0 a1) (fun r2 =>
if r2 = true then
some (((0, [], []), 2))
else Option.bind (Fbeltwayref05_outside a0 a2) (fun r3 =>
if r3 = true then
some (((0, [], []), 2))
else if 0 ≤ a1 ∧ a1 < (a0.2.2.length : Int) then
if 0 ≤ a2 ∧ a2 < (a0.2.2.length : Int) then
if ((gl ((0, 0, 0) : (Int × Int × Int)) a0.2.2 a1.toNat).1) = (-1) then
loopO (σ := (Bool × Int)) (β := ((Int × (List (BitVec 64)) × (List (Int × Int × Int))) × Int)) (fun s1 =>
if s1.2 < (a0.2.2.length : Int) then
if 0 ≤ s1.2 ∧ s1.2 < (a0.2.2.length : Int) then
if s1.1 = true then
some (Sum.inl ((true, w64 (s1.2 + 1))))
else some (Sum.inl ((decide ((((gl ((0, 0, 0) : (Int × Int × Int)) a0.2.2 s1.2.toNat).2).2) = a2), w64 (s1.2 + 1))))
else none
else Option.map Sum.inr (loopO (σ := (Bool × Int)) (β := ((Int × (List (BitVec 64)) × (List (Int × Int × Int))) × Int)) (fun s2 =>
if ¬ s2.2 = (-1) then
if s2.1 = true then
if 0 ≤ s2.2 ∧ s2.2 < (a0.2.2.length : Int) then
some (Sum.inl ((true, ((gl ((0, 0, 0) : (Int × Int × Int)) a0.2.2 s2.2.toNat).2).2)))
else none
else if 0 ≤ s2.2 ∧ s2.2 < (a0.2.2.length : Int) then
some (Sum.inl ((decide (s2.2 = a1), ((gl ((0, 0, 0) : (Int × Int × Int)) a0.2.2 s2.2.toNat).2).2)))
else none
else Option.map Sum.inr (if s2.1 = true then
some (((0, [], []), 5))
else Option.bind (Fbeltwayref03_Copy a0) (fun r4 =>
if 0 ≤ a1 ∧ a1 < (r4.2.2.length : Int) then
some (((r4.1, r4.2.1, r4.2.2.set a1.toNat ((gl ((0, 0, 0) : (Int × Int × Int)) r4.2.2 a1.toNat).1, ((gl ((0, 0, 0) : (Int × Int × Int)) r4.2.2 a1.toNat).2).1, a2)), 0))
else none))) ((s1.1, a2)))) ((true, 0))
else if ((gl ((0, 0, 0) : (Int × Int × Int)) a0.2.2 a2.toNat).1) = (-1) then
loopO (σ := (Bool × Int)) (β := ((Int × (List (BitVec 64)) × (List (Int × Int × Int))) × Int)) (fun s3 =>
if s3.2 < (a0.2.2.length : Int) then
if 0 ≤ s3.2 ∧ s3.2 < (a0.2.2.length : Int) then
if s3.1 = true then
some (Sum.inl ((true, w64 (s3.2 + 1))))
else some (Sum.inl ((decide ((((gl ((0, 0, 0) : (Int × Int × Int)) a0.2.2 s3.2.toNat).2).2) = a2), w64 (s3.2 + 1))))
else none
else Option.map Sum.inr (loopO (σ := (Bool × Int)) (β := ((Int × (List (BitVec 64)) × (List (Int × Int × Int))) × Int)) (fun s4 =>
if ¬ s4.2 = (-1) then
if s4.1 = true then
if 0 ≤ s4.2 ∧ s4.2 < (a0.2.2.length : Int) then
some (Sum.inl ((true, ((gl ((0, 0, 0) : (Int × Int × Int)) a0.2.2 s4.2.toNat).2).2)))
else none
else if 0 ≤ s4.2 ∧ s4.2 < (a0.2.2.length : Int) then
some (Sum.inl ((decide (s4.2 = a1), ((gl ((0, 0, 0) : (Int × Int × Int)) a0.2.2 s4.2.toNat).2).2)))
else none
else Option.map Sum.inr (if s4.1 = true then
some (((0, [], []), 5))
else Option.bind (Fbeltwayref03_Copy a0) (fun r5 =>
if 0 ≤ a1 ∧ a1 < (r5.2.2.length : Int) then
some (((r5.1, r5.2.1, r5.2.2.set a1.toNat ((gl ((0, 0, 0) : (Int × Int × Int)) r5.2.2 a1.toNat).1, ((gl ((0, 0, 0) : (Int × Int × Int)) r5.2.2 a1.toNat).2).1, a2)), 0))
else none))) ((s3.1, a2)))) ((true, 0))
else if ¬ (((gl ((0, 0, 0) : (Int × Int × Int)) a0.2.2 a1.toNat).2).1) = (((gl ((0, 0, 0) : (Int × Int × Int)) a0.2.2 a2.toNat).2).1) then
loopO (σ := (Bool × Int)) (β := ((Int × (List (BitVec 64)) × (List (Int × Int × Int))) × Int)) (fun s5 =>
if s5.2 < (a0.2.2.length : Int) then
if 0 ≤ s5.2 ∧ s5.2 < (a0.2.2.length : Int) then
if s5.1 = true then
some (Sum.inl ((true, w64 (s5.2 + 1))))
else some (Sum.inl ((decide ((((gl ((0, 0, 0) : (Int × Int × Int)) a0.2.2 s5.2.toNat).2).2) = a2), w64 (s5.2 + 1))))
else none
else Option.map Sum.inr (loopO (σ := (Bool × Int)) (β := ((Int × (List (BitVec 64)) × (List (Int × Int × Int))) × Int)) (fun s6 =>
if ¬ s6.2 = (-1) then
if s6.1 = true then
if 0 ≤ s6.2 ∧ s6.2 < (a0.2.2.length : Int) then
some (Sum.inl ((true, ((gl ((0, 0, 0) : (Int × Int × Int)) a0.2.2 s6.2.toNat).2).2)))
else none
else if 0 ≤ s6.2 ∧ s6.2 < (a0.2.2.length : Int) then
some (Sum.inl ((decide (s6.2 = a1), ((gl ((0, 0, 0) : (Int × Int × Int)) a0.2.2 s6.2.toNat).2).2)))
else none
else Option.map Sum.inr (if s6.1 = true then
some (((0, [], []), 5))
else Option.bind (Fbeltwayref03_Copy a0) (fun r6 =>
if 0 ≤ a1 ∧ a1 < (r6.2.2.length : Int) then
some (((r6.1, r6.2.1, r6.2.2.set a1.toNat ((gl ((0, 0, 0) : (Int × Int × Int)) r6.2.2 a1.toNat).1, ((gl ((0, 0, 0) : (Int × Int × Int)) r6.2.2 a1.toNat).2).1, a2)), 0))
else none))) ((s5.1, a2)))) ((true, 0))
else if ¬ (((gl ((0, 0, 0) : (Int × Int × Int)) a0.2.2 a1.toNat).2).2) = (-1) then
loopO (σ := (Bool × Int)) (β := ((Int × (List (BitVec 64)) × (List (Int × Int × Int))) × Int)) (fun s7 =>
if s7.2 < (a0.2.2.length : Int) then
if 0 ≤ s7.2 ∧ s7.2 < (a0.2.2.length : Int) then
if s7.1 = true then
some (Sum.inl ((true, w64 (s7.2 + 1))))
else some (Sum.inl ((decide ((((gl ((0, 0, 0) : (Int × Int × Int)) a0.2.2 s7.2.toNat).2).2) = a2), w64 (s7.2 + 1))))
else none
else Option.map Sum.inr (loopO (σ := (Bool × Int)) (β := ((Int × (List (BitVec 64)) × (List (Int × Int × Int))) × Int)) (fun s8 =>
if ¬ s8.2 = (-1) then
if s8.1 = true then
if 0 ≤ s8.2 ∧ s8.2 < (a0.2.2.length : Int) then
some (Sum.inl ((true, ((gl ((0, 0, 0) : (Int × Int × Int)) a0.2.2 s8.2.toNat).2).2)))
else none
else if 0 ≤ s8.2 ∧ s8.2 < (a0.2.2.length : Int) then
some (Sum.inl ((decide (s8.2 = a1), ((gl ((0, 0, 0) : (Int × Int × Int)) a0.2.2 s8.2.toNat).2).2)))
else none
else Option.map Sum.inr (if s8.1 = true then
some (((0, [], []), 5))
else Option.bind (Fbeltwayref03_Copy a0) (fun r7 =>
if 0 ≤ a1 ∧ a1 < (r7.2.2.length : Int) then
some (((r7.1, r7.2.1, r7.2.2.set a1.toNat ((gl ((0, 0, 0) : (Int × Int × Int)) r7.2.2 a1.toNat).1, ((gl ((0, 0, 0) : (Int × Int × Int)) r7.2.2 a1.toNat).2).1, a2)), 0))
else none))) ((s7.1, a2)))) ((true, 0))
else loopO (σ := (Bool × Int)) (β := ((Int × (List (BitVec 64)) × (List (Int × Int × Int))) × Int)) (fun s9 =>
if s9.2 < (a0.2.2.length : Int) then
if 0 ≤ s9.2 ∧ s9.2 < (a0.2.2.length : Int) then
if s9.1 = true then
some (Sum.inl ((true, w64 (s9.2 + 1))))
else some (Sum.inl ((decide ((((gl ((0, 0, 0) : (Int × Int × Int)) a0.2.2 s9.2.toNat).2).2) = a2), w64 (s9.2 + 1))))
else none
else Option.map Sum.inr (loopO (σ := (Bool × Int)) (β := ((Int × (List (BitVec 64)) × (List (Int × Int × Int))) × Int)) (fun s10 =>
if ¬ s10.2 = (-1) then
if s10.1 = true then
if 0 ≤ s10.2 ∧ s10.2 < (a0.2.2.length : Int) then
some (Sum.inl ((true, ((gl ((0, 0, 0) : (Int × Int × Int)) a0.2.2 s10.2.toNat).2).2)))
else none
else if 0 ≤ s10.2 ∧ s10.2 < (a0.2.2.length : Int) then
some (Sum.inl ((decide (s10.2 = a1), ((gl ((0, 0, 0) : (Int × Int × Int)) a0.2.2 s10.2.toNat).2).2)))
else none
else Option.map Sum.inr (if s10.1 = true then
some (((0, [], []), 5))
else Option.bind (Fbeltwayref03_Copy a0) (fun r8 =>
if 0 ≤ a1 ∧ a1 < (r8.2.2.length : Int) then
some (((r8.1, r8.2.1, r8.2.2.set a1.toNat ((gl ((0, 0, 0) : (Int × Int × Int)) r8.2.2 a1.toNat).1, ((gl ((0, 0, 0) : (Int × Int × Int)) r8.2.2 a1.toNat).2).1, a2)), 0))
else none))) ((s9.1, a2)))) ((decide (a2 = a1), 0))
else none
else none)))
@[reducible] noncomputable def iFbeltwayref05_Link : FnI := { ps := [⟨(.pair (.int .i64) (.pair (.slice .u64) (.slice (.pair (.int .i64) (.pair (.int .i64) (.int .i64)))))), true, false, false⟩, ⟨(.int .i64), false, false, false⟩, ⟨(.int .i64), false, false, false⟩], rs := [⟨(.pair (.int .i64) (.pair (.slice .u64) (.slice (.pair (.int .i64) (.pair (.int .i64) (.int .i64)))))), true, true, false⟩, ⟨(.int .i64), false, true, false⟩], os := [], bk := [], F := fun x => Fbeltwayref05_Link x.1 x.2.1 x.2.2 }
noncomputable def cFbeltwayref05_Link : Cx := { nm := [(3, (2, 1)), (6, (3, 1)), (8, (4, 1)), (9, (5, 1)), (12, (6, 1)), (14, (9, 1)), (96, (7, 2))], keep := [], fns := tabF [(28, iFbeltwayref03_Copy), (32, iFbeltwayref03_Valid), (35, iFbeltwayref05_outside)], loops := [(0, { live := [(10, ⟨.bool, false, false, false⟩), (66, ⟨(.int .i64), false, false, false⟩)], boxes := [], rows := [], dead := [12, 67, 68, 69, 70, 71, 72, 73, 74, 75, 76, 77], lost := [], base := 6 }), (2, { live := [(10, ⟨.bool, false, false, false⟩), (13, ⟨(.int .i64), false, false, false⟩)], boxes := [], rows := [], dead := [79, 80, 81, 82, 83, 84, 85, 86, 87, 88, 89, 90, 91, 92], lost := [], base := 7 })], joins := [] }
theorem eFbeltwayref05_Link : (fun x : HT iFbeltwayref05_Link.ps => iFbeltwayref05_Link.F x) = fun x => rk Try.prog cFbeltwayref05_Link (Try.f21.body.getD .skip) (HT (iFbeltwayref05_Link.rs ++ iFbeltwayref05_Link.os)) 1000000 (finK Try.prog [.cell 6 25, .tmp 7] [] iFbeltwayref05_Link.os (iFbeltwayref05_Link.rs ++ iFbeltwayref05_Link.os)) (initF iFbeltwayref05_Link.ps x 104) (initL iFbeltwayref05_Link.ps x 8) := by kernel_rfl
theorem okFbeltwayref05_Link : CallsV Try.prog 21 iFbeltwayref05_Link :=
  callsV_of_rk (cx := cFbeltwayref05_Link) (fn := Try.f21) (c := Try.f21.body.getD .skip) (n := 104) (N := 8) (rvs := [.cell 6 25, .tmp 7]) (cxOk (.cons okFbeltwayref03_Copy (.cons okFbeltwayref03_Valid (.cons okFbeltwayref05_outside TabOk.nil)))) Try.func21 rfl (by kernel_rfl) rfl rfl (by decide) (by decide) (fun x => congrFun eFbeltwayref05_Link x)
noncomputable def Fbeltwayref05_List (a0 : (Int × (List (BitVec 64)) × (List (Int × Int × Int)))) (a1 : Int) : Option ((List Int) × Int) :=
Option.bind (Fbeltwayref03_Valid a0) (fun r1 =>
if (!r1) = true then
some (([], 1))
else Option.bind (Fbeltwayref05_outside a0 a1) (fun r2 =>
if r2 = true then
some (([], 2))
else if 0 ≤ a1 ∧ a1 < (a0.2.2.length : Int) then
if ((gl ((0, 0, 0) : (Int × Int × Int)) a0.2.2 a1.toNat).1) = (-1) then
some (([], 5))
else Option.bind (Fbeltwayref05_Chain a0 a1) (fun r3 =>
some ((r3, 0)))
else none))
@[reducible] noncomputable def iFbeltwayref05_List : FnI := { ps := [⟨(.pair (.int .i64) (.pair (.slice .u64) (.slice (.pair (.int .i64) (.pair (.int .i64) (.int .i64)))))), true, false, false⟩, ⟨(.int .i64), false, false, false⟩], rs := [⟨(.slice (.int .i64)), false, true, false⟩, ⟨(.int .i64), false, true, false⟩], os := [], bk := [], F := fun x => Fbeltwayref05_List x.1 x.2 }
noncomputable def cFbeltwayref05_List : Cx := { nm := [(2, (2, 1)), (24, (3, 1))], keep := [], fns := tabF [(32, iFbeltwayref03_Valid), (35, iFbeltwayref05_outside), (36, iFbeltwayref05_Chain)], loops := [], joins := [] }
theorem eFbeltwayref05_List : (fun x : HT iFbeltwayref05_List.ps => iFbeltwayref05_List.F x) = fun x => rk Try.prog cFbeltwayref05_List (Try.f22.body.getD .skip) (HT (iFbeltwayref05_List.rs ++ iFbeltwayref05_List.os)) 1000000 (finK Try.prog [.tmp 4, .tmp 5] [] iFbeltwayref05_List.os (iFbeltwayref05_List.rs ++ iFbeltwayref05_List.os)) (initF iFbeltwayref05_List.ps x 25) (initL iFbeltwayref05_List.ps x 2) := by kernel_rfl
theorem okFbeltwayref05_List : CallsV Try.prog 22 iFbeltwayref05_List :=
  callsV_of_rk (cx := cFbeltwayref05_List) (fn := Try.f22) (c := Try.f22.body.getD .skip) (n := 25) (N := 2) (rvs := [.tmp 4, .tmp 5]) (cxOk (.cons okFbeltwayref03_Valid (.cons okFbeltwayref05_outside (.cons okFbeltwayref05_Chain TabOk.nil)))) Try.func22 rfl (by kernel_rfl) rfl rfl (by decide) (by decide) (fun x => congrFun eFbeltwayref05_List x)
noncomputable def Fbeltwayref02_Same (a0 : (List (BitVec 64))) (a1 : (List (BitVec 64))) : Option Bool :=
if ¬ (a0.length : Int) = (a1.length : Int) then
some (false)
else loopO (σ := Int) (β := Bool) (fun s1 =>
if s1 < (a0.length : Int) then
if 0 ≤ s1 ∧ s1 < (a0.length : Int) then
if 0 ≤ s1 ∧ s1 < (a1.length : Int) then
if ¬ (gl (0#64 : (BitVec 64)) a0 s1.toNat) = (gl (0#64 : (BitVec 64)) a1 s1.toNat) then
some (Sum.inr (false))
else some (Sum.inl (w64 (s1 + 1)))
else none
else none
else some (Sum.inr (true))) (0)
@[reducible] noncomputable def iFbeltwayref02_Same : FnI := { ps := [⟨(.slice .u64), false, false, false⟩, ⟨(.slice .u64), false, false, false⟩], rs := [⟨.bool, false, true, false⟩], os := [], bk := [], F := fun x => Fbeltwayref02_Same x.1 x.2 }
noncomputable def cFbeltwayref02_Same : Cx := { nm := [], keep := [], fns := tabF [], loops := [(0, { live := [(13, ⟨(.int .i64), false, false, false⟩)], boxes := [], rows := [], dead := [4, 5, 14, 15, 16, 17, 18, 19, 20, 21, 22, 23, 24, 25], lost := [], base := 2 })], joins := [] }
theorem eFbeltwayref02_Same : (fun x : HT iFbeltwayref02_Same.ps => iFbeltwayref02_Same.F x) = fun x => rk Try.prog cFbeltwayref02_Same (Try.f39.body.getD .skip) (HT (iFbeltwayref02_Same.rs ++ iFbeltwayref02_Same.os)) 1000000 (finK Try.prog [.tmp 4] [] iFbeltwayref02_Same.os (iFbeltwayref02_Same.rs ++ iFbeltwayref02_Same.os)) (initF iFbeltwayref02_Same.ps x 26) (initL iFbeltwayref02_Same.ps x 0) := by kernel_rfl
theorem okFbeltwayref02_Same : CallsV Try.prog 39 iFbeltwayref02_Same :=
  callsV_of_rk (cx := cFbeltwayref02_Same) (fn := Try.f39) (c := Try.f39.body.getD .skip) (n := 26) (N := 0) (rvs := [.tmp 4]) (cxOk TabOk.nil) Try.func39 rfl (by kernel_rfl) rfl rfl (by decide) (by decide) (fun x => congrFun eFbeltwayref02_Same x)
noncomputable def Fbeltwayref03_Same (a0 : (Int × (List (BitVec 64)) × (List (Int × Int × Int)))) (a1 : (Int × (List (BitVec 64)) × (List (Int × Int × Int)))) : Option Bool :=
if ¬ a0.1 = a1.1 then
some (false)
else if ¬ (a0.2.2.length : Int) = (a1.2.2.length : Int) then
some (false)
else Option.bind (Fbeltwayref02_Same a0.2.1 a1.2.1) (fun r1 =>
if (!r1) = true then
some (false)
else loopO (σ := Int) (β := Bool) (fun s1 =>
if s1 < (a0.2.2.length : Int) then
if 0 ≤ s1 ∧ s1 < (a0.2.2.length : Int) then
if 0 ≤ s1 ∧ s1 < (a1.2.2.length : Int) then
if (!(allB [decide (((gl ((0, 0, 0) : (Int × Int × Int)) a0.2.2 s1.toNat).1) = ((gl ((0, 0, 0) : (Int × Int × Int)) a1.2.2 s1.toNat).1)), decide ((((gl ((0, 0, 0) : (Int × Int × Int)) a0.2.2 s1.toNat).2).1) = (((gl ((0, 0, 0) : (Int × Int × Int)) a1.2.2 s1.toNat).2).1)), decide ((((gl ((0, 0, 0) : (Int × Int × Int)) a0.2.2 s1.toNat).2).2) = (((gl ((0, 0, 0) : (Int × Int × Int)) a1.2.2 s1.toNat).2).2))])) = true then
some (Sum.inr (false))
else some (Sum.inl (w64 (s1 + 1)))
else none
else none
else some (Sum.inr (true))) (0))
@[reducible] noncomputable def iFbeltwayref03_Same : FnI := { ps := [⟨(.pair (.int .i64) (.pair (.slice .u64) (.slice (.pair (.int .i64) (.pair (.int .i64) (.int .i64)))))), true, false, false⟩, ⟨(.pair (.int .i64) (.pair (.slice .u64) (.slice (.pair (.int .i64) (.pair (.int .i64) (.int .i64)))))), true, false, false⟩], rs := [⟨.bool, false, true, false⟩], os := [], bk := [], F := fun x => Fbeltwayref03_Same x.1 x.2 }
noncomputable def cFbeltwayref03_Same : Cx := { nm := [(2, (4, 1)), (3, (5, 1))], keep := [], fns := tabF [(39, iFbeltwayref02_Same)], loops := [(0, { live := [(31, ⟨(.int .i64), false, false, false⟩)], boxes := [], rows := [], dead := [4, 5, 32, 33, 34, 35, 36, 37, 38, 39, 40, 41, 42, 43, 44, 45], lost := [], base := 6 })], joins := [] }
theorem eFbeltwayref03_Same : (fun x : HT iFbeltwayref03_Same.ps => iFbeltwayref03_Same.F x) = fun x => rk Try.prog cFbeltwayref03_Same (Try.f23.body.getD .skip) (HT (iFbeltwayref03_Same.rs ++ iFbeltwayref03_Same.os)) 1000000 (finK Try.prog [.tmp 4] [] iFbeltwayref03_Same.os (iFbeltwayref03_Same.rs ++ iFbeltwayref03_Same.os)) (initF iFbeltwayref03_Same.ps x 46) (initL iFbeltwayref03_Same.ps x 2) := by kernel_rfl
theorem okFbeltwayref03_Same : CallsV Try.prog 23 iFbeltwayref03_Same :=
  callsV_of_rk (cx := cFbeltwayref03_Same) (fn := Try.f23) (c := Try.f23.body.getD .skip) (n := 46) (N := 2) (rvs := [.tmp 4]) (cxOk (.cons okFbeltwayref02_Same TabOk.nil)) Try.func23 rfl (by kernel_rfl) rfl rfl (by decide) (by decide) (fun x => congrFun eFbeltwayref03_Same x)
noncomputable def Fbeltwaylaw05_ChainLinks (a0 : (Int × (List (BitVec 64)) × (List (Int × Int × Int)))) (a1 : (List Int)) (a2 : Int) (a3 : Int) (a4 : Int) (a5 : Int) (a6 : Int) : Option Bool :=
Option.bind (Fbeltwaymake_Small a0) (fun r1 =>
if (!r1) = true then
Option.bind (Fbeltwaylaw05_awake) (fun r2 =>
some (r2))
else Option.bind (Fbeltwaymake_New a1) (fun r3 =>
Option.bind (Fbeltwaymake_Space r3) (fun r4 =>
loopO (σ := (Int × (Int × (List (BitVec 64)) × (List (Int × Int × Int))))) (β := Bool) (fun s1 =>
if s1.1 < 3 then
Option.bind (Fbeltwayref04_Take s1.2 50 1) (fun r5 =>
if r5.2.2 = 0 then
some (Sum.inl ((w64 (s1.1 + 1), r5.1)))
else some (Sum.inl ((w64 (s1.1 + 1), s1.2))))
else Option.map Sum.inr (Option.bind (Fbeltwaymake_Spoilt s1.2 a4 a5 a6) (fun r6 =>
Option.bind (Fbeltwaylaw05_pair) (fun r7 =>
loopO (σ := Int) (β := Bool) (fun s2 =>
if s2 < (([s1.2, a0, r6, r7] : List (Int × (List (BitVec 64)) × (List (Int × Int × Int)))).length : Int) then
if 0 ≤ s2 ∧ s2 < (([s1.2, a0, r6, r7] : List (Int × (List (BitVec 64)) × (List (Int × Int × Int)))).length : Int) then
Option.bind (Fbeltwaymake_Mod a2 (w64 (((((gl ((0, [], []) : (Int × (List (BitVec 64)) × (List (Int × Int × Int)))) ([s1.2, a0, r6, r7] : List (Int × (List (BitVec 64)) × (List (Int × Int × Int)))) s2.toNat).2).2).length : Int) + 2))) (fun r8 =>
Option.bind (Fbeltwaymake_Mod a3 (w64 (((((gl ((0, [], []) : (Int × (List (BitVec 64)) × (List (Int × Int × Int)))) ([s1.2, a0, r6, r7] : List (Int × (List (BitVec 64)) × (List (Int × Int × Int)))) s2.toNat).2).2).length : Int) + 2))) (fun r9 =>
loopO (σ := Int) (β := (Int ⊕ Bool)) (fun s3 =>
if s3 < (([([a2, a3] : List Int), ([w64 (r8 - 1), w64 (r9 - 1)] : List Int)] : List (List Int)).length : Int) then
if 0 ≤ s3 ∧ s3 < (([([a2, a3] : List Int), ([w64 (r8 - 1), w64 (r9 - 1)] : List Int)] : List (List Int)).length : Int) then
if 0 ≤ (0 : Int) ∧ (0 : Int) < ((gl ([] : (List Int)) ([([a2, a3] : List Int), ([w64 (r8 - 1), w64 (r9 - 1)] : List Int)] : List (List Int)) s3.toNat).length : Int) then
if 0 ≤ (1 : Int) ∧ (1 : Int) < ((gl ([] : (List Int)) ([([a2, a3] : List Int), ([w64 (r8 - 1), w64 (r9 - 1)] : List Int)] : List (List Int)) s3.toNat).length : Int) then
Option.bind (Fchain_Link ((gl ((0, [], []) : (Int × (List (BitVec 64)) × (List (Int × Int × Int)))) ([s1.2, a0, r6, r7] : List (Int × (List (BitVec 64)) × (List (Int × Int × Int)))) s2.toNat).1, ((gl ((0, [], []) : (Int × (List (BitVec 64)) × (List (Int × Int × Int)))) ([s1.2, a0, r6, r7] : List (Int × (List (BitVec 64)) × (List (Int × Int × Int)))) s2.toNat).2)) (gl (0 : Int) (gl ([] : (List Int)) ([([a2, a3] : List Int), ([w64 (r8 - 1), w64 (r9 - 1)] : List Int)] : List (List Int)) s3.toNat) ((0 : Int).toNat)) (gl (0 : Int) (gl ([] : (List Int)) ([([a2, a3] : List Int), ([w64 (r8 - 1), w64 (r9 - 1)] : List Int)] : List (List Int)) s3.toNat) ((1 : Int).toNat))) (fun r10 =>
if 0 ≤ (0 : Int) ∧ (0 : Int) < ((gl ([] : (List Int)) ([([a2, a3] : List Int), ([w64 (r8 - 1), w64 (r9 - 1)] : List Int)] : List (List Int)) s3.toNat).length : Int) then
if 0 ≤ (1 : Int) ∧ (1 : Int) < ((gl ([] : (List Int)) ([([a2, a3] : List Int), ([w64 (r8 - 1), w64 (r9 - 1)] : List Int)] : List (List Int)) s3.toNat).length : Int) then
Option.bind (Fbeltwayref05_Link ((gl ((0, [], []) : (Int × (List (BitVec 64)) × (List (Int × Int × Int)))) ([s1.2, a0, r6, r7] : List (Int × (List (BitVec 64)) × (List (Int × Int × Int)))) s2.toNat).1, ((gl ((0, [], []) : (Int × (List (BitVec 64)) × (List (Int × Int × Int)))) ([s1.2, a0, r6, r7] : List (Int × (List (BitVec 64)) × (List (Int × Int × Int)))) s2.toNat).2)) (gl (0 : Int) (gl ([] : (List Int)) ([([a2, a3] : List Int), ([w64 (r8 - 1), w64 (r9 - 1)] : List Int)] : List (List Int)) s3.toNat) ((0 : Int).toNat)) (gl (0 : Int) (gl ([] : (List Int)) ([([a2, a3] : List Int), ([w64 (r8 - 1), w64 (r9 - 1)] : List Int)] : List (List Int)) s3.toNat) ((1 : Int).toNat))) (fun r11 =>
if 0 ≤ (0 : Int) ∧ (0 : Int) < ((gl ([] : (List Int)) ([([a2, a3] : List Int), ([w64 (r8 - 1), w64 (r9 - 1)] : List Int)] : List (List Int)) s3.toNat).length : Int) then
Option.bind (Fchain_List ((gl ((0, [], []) : (Int × (List (BitVec 64)) × (List (Int × Int × Int)))) ([s1.2, a0, r6, r7] : List (Int × (List (BitVec 64)) × (List (Int × Int × Int)))) s2.toNat).1, ((gl ((0, [], []) : (Int × (List (BitVec 64)) × (List (Int × Int × Int)))) ([s1.2, a0, r6, r7] : List (Int × (List (BitVec 64)) × (List (Int × Int × Int)))) s2.toNat).2)) (gl (0 : Int) (gl ([] : (List Int)) ([([a2, a3] : List Int), ([w64 (r8 - 1), w64 (r9 - 1)] : List Int)] : List (List Int)) s3.toNat) ((0 : Int).toNat))) (fun r12 =>
if 0 ≤ (0 : Int) ∧ (0 : Int) < ((gl ([] : (List Int)) ([([a2, a3] : List Int), ([w64 (r8 - 1), w64 (r9 - 1)] : List Int)] : List (List Int)) s3.toNat).length : Int) then
Option.bind (Fbeltwayref05_List ((gl ((0, [], []) : (Int × (List (BitVec 64)) × (List (Int × Int × Int)))) ([s1.2, a0, r6, r7] : List (Int × (List (BitVec 64)) × (List (Int × Int × Int)))) s2.toNat).1, ((gl ((0, [], []) : (Int × (List (BitVec 64)) × (List (Int × Int × Int)))) ([s1.2, a0, r6, r7] : List (Int × (List (BitVec 64)) × (List (Int × Int × Int)))) s2.toNat).2)) (gl (0 : Int) (gl ([] : (List Int)) ([([a2, a3] : List Int), ([w64 (r8 - 1), w64 (r9 - 1)] : List Int)] : List (List Int)) s3.toNat) ((0 : Int).toNat))) (fun r13 =>
if ¬ r10.2 = r11.2 then
some (Sum.inr (Sum.inr (false)))
else if ¬ r12.2 = r13.2 then
some (Sum.inr (Sum.inr (false)))
else Option.bind (Fbeltwayref03_Same r10.1 r11.1) (fun r14 =>
if (!r14) = true then
some (Sum.inr (Sum.inr (false)))
else Option.bind (Fbeltwayref18_SameInts r12.1 r13.1) (fun r15 =>
if (!r15) = true then
some (Sum.inr (Sum.inr (false)))
else some (Sum.inl (w64 (s3 + 1))))))
else none)
else none)
else none
else none)
else none
else none
else none
else some (Sum.inr (Sum.inl (w64 (s2 + 1))))) (0)))
else none
else Option.map Sum.inr (Option.bind (Fbeltwaylaw05_awake) (fun r16 =>
some (r16)))) (0))))) ((0, r4.1)))))
@[reducible] noncomputable def iFbeltwaylaw05_ChainLinks : FnI := { ps := [⟨(.pair (.int .i64) (.pair (.slice .u64) (.slice (.pair (.int .i64) (.pair (.int .i64) (.int .i64)))))), true, false, false⟩, ⟨(.slice (.int .i64)), false, false, false⟩, ⟨(.int .i64), false, false, false⟩, ⟨(.int .i64), false, false, false⟩, ⟨(.int .i64), false, false, false⟩, ⟨(.int .i64), false, false, false⟩, ⟨(.int .i64), false, false, false⟩], rs := [⟨.bool, false, true, false⟩], os := [], bk := [], F := fun x => Fbeltwaylaw05_ChainLinks x.1 x.2.1 x.2.2.1 x.2.2.2.1 x.2.2.2.2.1 x.2.2.2.2.2.1 x.2.2.2.2.2.2 }
noncomputable def cFbeltwaylaw05_ChainLinks : Cx := { nm := [(7, (3, 1)), (15, (10, 1)), (17, (11, 1)), (19, (14, 1)), (23, (24, 1)), (26, (31, 1)), (28, (34, 1)), (40, (4, 2)), (41, (6, 4)), (51, (12, 2)), (64, (17, 2)), (65, (19, 2)), (66, (21, 1)), (71, (22, 2)), (74, (25, 1)), (89, (26, 1)), (90, (27, 1)), (95, (28, 1)), (104, (29, 2)), (115, (32, 2)), (123, (35, 1)), (131, (36, 1))], keep := [], fns := tabF [(7, iFbeltwaymake_Small), (8, iFbeltwaylaw05_awake), (9, iFbeltwaymake_Space), (10, iFbeltwaymake_New), (11, iFbeltwaymake_Spoilt), (12, iFbeltwaymake_Mod), (17, iFchain_List), (18, iFbeltwayref04_Take), (19, iFbeltwaylaw05_pair), (20, iFchain_Link), (21, iFbeltwayref05_Link), (22, iFbeltwayref05_List), (23, iFbeltwayref03_Same), (24, iFbeltwayref18_SameInts)], loops := [(0, { live := [(18, ⟨(.int .i64), false, false, false⟩)], boxes := [(11, ⟨(.pair (.int .i64) (.pair (.slice .u64) (.slice (.pair (.int .i64) (.pair (.int .i64) (.int .i64)))))), true, false, false⟩)], rows := [], dead := [19, 20, 21, 45, 46, 47, 48, 49, 50, 51, 52, 53, 54, 55, 56, 57], lost := [], base := 15 }), (2, { live := [(68, ⟨(.int .i64), false, false, false⟩)], boxes := [], rows := [], dead := [14, 23, 25, 26, 27, 28, 29, 30, 31, 32, 33, 69, 70, 71, 72, 73, 74, 75, 76, 77, 78, 79, 80, 81, 82, 83, 84, 85, 86, 87, 88, 89, 90, 91, 92, 93, 94, 95, 96, 97, 98, 99, 100, 101, 102, 103, 104, 105, 106, 107, 108, 109, 110, 111, 112, 113, 114, 115, 116, 117, 118, 119, 120, 121, 122, 123, 124, 125, 126, 127, 128, 129, 130, 131, 132, 133, 134, 135, 136, 137, 138, 139, 140, 141, 142, 143, 144, 145, 146, 147, 148, 149, 150, 151, 152, 153, 154, 155], lost := [], base := 22 }), (4, { live := [(92, ⟨(.int .i64), false, false, false⟩)], boxes := [], rows := [], dead := [14, 25, 26, 27, 28, 29, 30, 31, 32, 33, 93, 94, 95, 96, 97, 98, 99, 100, 101, 102, 103, 104, 105, 106, 107, 108, 109, 110, 111, 112, 113, 114, 115, 116, 117, 118, 119, 120, 121, 122, 123, 124, 125, 126, 127, 128, 129, 130, 131, 132, 133, 134, 135, 136, 137, 138, 139, 140, 141, 142, 143, 144, 145, 146, 147, 148, 149, 150, 151, 152, 153, 154], lost := [], base := 28 })], joins := [] }
theorem eFbeltwaylaw05_ChainLinks : (fun x : HT iFbeltwaylaw05_ChainLinks.ps => iFbeltwaylaw05_ChainLinks.F x) = fun x => rk Try.prog cFbeltwaylaw05_ChainLinks (Try.f5.body.getD .skip) (HT (iFbeltwaylaw05_ChainLinks.rs ++ iFbeltwaylaw05_ChainLinks.os)) 1000000 (finK Try.prog [.tmp 14] [] iFbeltwaylaw05_ChainLinks.os (iFbeltwaylaw05_ChainLinks.rs ++ iFbeltwaylaw05_ChainLinks.os)) (initF iFbeltwaylaw05_ChainLinks.ps x 157) (initL iFbeltwaylaw05_ChainLinks.ps x 34) := by kernel_rfl
theorem okFbeltwaylaw05_ChainLinks : CallsV Try.prog 5 iFbeltwaylaw05_ChainLinks :=
  callsV_of_rk (cx := cFbeltwaylaw05_ChainLinks) (fn := Try.f5) (c := Try.f5.body.getD .skip) (n := 157) (N := 34) (rvs := [.tmp 14]) (cxOk (.cons okFbeltwaymake_Small (.cons okFbeltwaylaw05_awake (.cons okFbeltwaymake_Space (.cons okFbeltwaymake_New (.cons okFbeltwaymake_Spoilt (.cons okFbeltwaymake_Mod (.cons okFchain_List (.cons okFbeltwayref04_Take (.cons okFbeltwaylaw05_pair (.cons okFchain_Link (.cons okFbeltwayref05_Link (.cons okFbeltwayref05_List (.cons okFbeltwayref03_Same (.cons okFbeltwayref18_SameInts TabOk.nil))))))))))))))) Try.func5 rfl (by kernel_rfl) rfl rfl (by decide) (by decide) (fun x => congrFun eFbeltwaylaw05_ChainLinks x)
end Go.Proofs.Ytpihmdpbfochkaa
