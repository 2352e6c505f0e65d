/-
  The functions of the laws of package belt (printed, and checked by the kernel).
-/
import Derived.Test.YtnfleglhbgknmaaSpW
set_option linter.unusedVariables false
set_option maxRecDepth 100000
namespace Go.Proofs.Ytnfleglhbgknmaa
open Go Go.V3
noncomputable def Fbeltwaymake_Queue (a0 : (List (Int × Int × Int × Int × Int))) (a1 : Int) : Option (List (List (Int × Int × Int × Int × Int))) :=
if 0 ≤ a1 ∧ a1 ≤ a1 ∧ a1 * ((24 : Nat) : Int) ≤ 140737488355328 then
loopO (σ := (Int × (List (List (Int × Int × Int × Int × Int))))) (β := (List (List (Int × Int × Int × Int × Int)))) (fun s1 =>
if s1.1 < (a0.length : Int) then
if 0 ≤ s1.1 ∧ s1.1 < (a0.length : Int) then
if (((gl ((0, 0, 0, 0, 0) : (Int × Int × Int × Int × Int)) a0 s1.1.toNat).2).1) < a1 then
if 0 ≤ (((gl ((0, 0, 0, 0, 0) : (Int × Int × Int × Int × Int)) a0 s1.1.toNat).2).1) ∧ (((gl ((0, 0, 0, 0, 0) : (Int × Int × Int × Int × Int)) a0 s1.1.toNat).2).1) < (s1.2.length : Int) then
if ((s1.2.getD ((((gl ((0, 0, 0, 0, 0) : (Int × Int × Int × Int × Int)) a0 s1.1.toNat).2).1).toNat) []).length + ([((gl ((0, 0, 0, 0, 0) : (Int × Int × Int × Int × Int)) a0 s1.1.toNat).1, ((gl ((0, 0, 0, 0, 0) : (Int × Int × Int × Int × Int)) a0 s1.1.toNat).2).1, (((gl ((0, 0, 0, 0, 0) : (Int × Int × Int × Int × Int)) a0 s1.1.toNat).2).2).1, ((((gl ((0, 0, 0, 0, 0) : (Int × Int × Int × Int × Int)) a0 s1.1.toNat).2).2).2))] : List (Int × Int × Int × Int × Int)).length) * 40 ≤ 140737488355328 then
if 0 ≤ (((gl ((0, 0, 0, 0, 0) : (Int × Int × Int × Int × Int)) a0 s1.1.toNat).2).1) ∧ (((gl ((0, 0, 0, 0, 0) : (Int × Int × Int × Int × Int)) a0 s1.1.toNat).2).1) < (s1.2.length : Int) then
if (((gl ((0, 0, 0, 0, 0) : (Int × Int × Int × Int × Int)) a0 s1.1.toNat).2).1).toNat = (((gl ((0, 0, 0, 0, 0) : (Int × Int × Int × Int × Int)) a0 s1.1.toNat).2).1).toNat then
some (Sum.inl ((w64 (s1.1 + 1), s1.2.set ((((gl ((0, 0, 0, 0, 0) : (Int × Int × Int × Int × Int)) a0 s1.1.toNat).2).1).toNat) ((s1.2.getD ((((gl ((0, 0, 0, 0, 0) : (Int × Int × Int × Int × Int)) a0 s1.1.toNat).2).1).toNat) []) ++ ([((gl ((0, 0, 0, 0, 0) : (Int × Int × Int × Int × Int)) a0 s1.1.toNat).1, ((gl ((0, 0, 0, 0, 0) : (Int × Int × Int × Int × Int)) a0 s1.1.toNat).2).1, (((gl ((0, 0, 0, 0, 0) : (Int × Int × Int × Int × Int)) a0 s1.1.toNat).2).2).1, ((((gl ((0, 0, 0, 0, 0) : (Int × Int × Int × Int × Int)) a0 s1.1.toNat).2).2).2))] : List (Int × Int × Int × Int × Int))))))
else none
else none
else none
else none
else some (Sum.inl ((w64 (s1.1 + 1), s1.2)))
else none
else some (Sum.inr (s1.2))) ((0, List.replicate a1.toNat ([] : (List (Int × Int × Int × Int × Int)))))
else none
@[reducible] noncomputable def iFbeltwaymake_Queue : FnI := { ps := [⟨(.slice (.pair (.int .i64) (.pair (.int .i64) (.pair (.int .i64) (.pair (.int .i64) (.int .i64)))))), false, false, false⟩, ⟨(.int .i64), false, false, false⟩], rs := [⟨(.slice (.slice (.pair (.int .i64) (.pair (.int .i64) (.pair (.int .i64) (.pair (.int .i64) (.int .i64))))))), false, true, false⟩], os := [], bk := [], F := fun x => Fbeltwaymake_Queue x.1 x.2 }
noncomputable def cFbeltwaymake_Queue : Cx := { nm := [(7, (2, 1)), (9, (1, 1)), (27, (3, 1)), (29, (4, 1)), (30, (5, 1))], keep := [9, 30], fns := tabF [], loops := [(0, { live := [(12, ⟨(.int .i64), false, false, false⟩)], boxes := [], rows := [(1, (.slice (.pair (.int .i64) (.pair (.int .i64) (.pair (.int .i64) (.pair (.int .i64) (.int .i64)))))))], dead := [7, 13, 14, 15, 16, 17, 18, 19, 20, 21, 22, 23, 24, 25, 26, 27, 28, 29, 30, 31, 32], lost := [], base := 2 })], joins := [], tb := tabs, exts := [], lets := [] }
theorem eFbeltwaymake_Queue : (fun x : HT iFbeltwaymake_Queue.ps => iFbeltwaymake_Queue.F x) = fun x => rk Try.prog cFbeltwaymake_Queue (Try.f19.body.getD .skip) (HT (iFbeltwaymake_Queue.rs ++ iFbeltwaymake_Queue.os)) 1000000 (finK Try.prog [.tmp 4] [] iFbeltwaymake_Queue.os (iFbeltwaymake_Queue.rs ++ iFbeltwaymake_Queue.os)) (initF iFbeltwaymake_Queue.ps iFbeltwaymake_Queue.sh x 34) (initL iFbeltwaymake_Queue.ps x 5) := by kernel_rfl
theorem okFbeltwaymake_Queue : CallsV Try.prog tabs 19 iFbeltwaymake_Queue :=
  callsV_of_rk (cx := cFbeltwaymake_Queue) (fn := Try.f19) (c := Try.f19.body.getD .skip) (n := 34) (N := 5) (rvs := [.tmp 4]) (cxOk TabOk.nil XtOk.nil) Try.func19 rfl (by kernel_rfl) rfl rfl (fun x => Nat.le_of_ble_eq_true rfl) (by decide) (fun x => congrFun eFbeltwaymake_Queue x)
noncomputable def Fbeltwayref04_Used (a0 : (Int × (List (BitVec 64)) × (List (Int × Int × Int)))) : Option Int :=
Option.bind (Fbeltwayref04_Free a0) (fun r1 =>
some (w64 ((a0.2.2.length : Int) - (r1.length : Int))))
@[reducible] noncomputable def iFbeltwayref04_Used : FnI := { ps := [⟨(.pair (.int .i64) (.pair (.slice .u64) (.slice (.pair (.int .i64) (.pair (.int .i64) (.int .i64)))))), true, false, false⟩], rs := [⟨(.int .i64), false, true, false⟩], os := [], bk := [], F := fun x => Fbeltwayref04_Used x }
noncomputable def cFbeltwayref04_Used : Cx := { nm := [(1, (2, 1)), (7, (3, 1))], keep := [], fns := tabF [(46, iFbeltwayref04_Free)], loops := [], joins := [], tb := tabs, exts := [], lets := [] }
theorem eFbeltwayref04_Used : (fun x : HT iFbeltwayref04_Used.ps => iFbeltwayref04_Used.F x) = fun x => rk Try.prog cFbeltwayref04_Used (Try.f31.body.getD .skip) (HT (iFbeltwayref04_Used.rs ++ iFbeltwayref04_Used.os)) 1000000 (finK Try.prog [.tmp 2] [] iFbeltwayref04_Used.os (iFbeltwayref04_Used.rs ++ iFbeltwayref04_Used.os)) (initF iFbeltwayref04_Used.ps iFbeltwayref04_Used.sh x 10) (initL iFbeltwayref04_Used.ps x 2) := by kernel_rfl
theorem okFbeltwayref04_Used : CallsV Try.prog tabs 31 iFbeltwayref04_Used :=
  callsV_of_rk (cx := cFbeltwayref04_Used) (fn := Try.f31) (c := Try.f31.body.getD .skip) (n := 10) (N := 2) (rvs := [.tmp 2]) (cxOk (.cons okFbeltwayref04_Free TabOk.nil) XtOk.nil) Try.func31 rfl (by kernel_rfl) rfl rfl (fun x => Nat.le_of_ble_eq_true rfl) (by decide) (fun x => congrFun eFbeltwayref04_Used x)
noncomputable def Fbelt_Words (a0 : (List (List (Int × Int × Int × Int × Int)))) : Option Int :=
loopO (σ := (Int × Int)) (β := Int) (fun s1 =>
if s1.2 < (a0.length : Int) then
if 0 ≤ s1.2 ∧ s1.2 < (a0.length : Int) then
loopO (σ := (Int × Int)) (β := ((Int × Int) ⊕ Int)) (fun s2 =>
if s2.2 < ((gl ([] : (List (Int × Int × Int × Int × Int))) a0 s1.2.toNat).length : Int) then
if 0 ≤ s2.2 ∧ s2.2 < ((gl ([] : (List (Int × Int × Int × Int × Int))) a0 s1.2.toNat).length : Int) then
some (Sum.inl ((w64 (s2.1 + (((((gl ((0, 0, 0, 0, 0) : (Int × Int × Int × Int × Int)) (gl ([] : (List (Int × Int × Int × Int × Int))) a0 s1.2.toNat) s2.2.toNat).2).2).2).2)), w64 (s2.2 + 1))))
else none
else some (Sum.inr (Sum.inl ((s2.1, w64 (s1.2 + 1)))))) ((s1.1, 0))
else none
else some (Sum.inr (s1.1))) ((0, 0))
@[reducible] noncomputable def iFbelt_Words : FnI := { ps := [⟨(.slice (.slice (.pair (.int .i64) (.pair (.int .i64) (.pair (.int .i64) (.pair (.int .i64) (.int .i64))))))), false, false, false⟩], rs := [⟨(.int .i64), false, true, false⟩], os := [], bk := [], F := fun x => Fbelt_Words x }
noncomputable def cFbelt_Words : Cx := { nm := [(7, (2, 1)), (13, (1, 1))], keep := [], fns := tabF [], loops := [(0, { live := [(3, ⟨(.int .i64), false, false, false⟩), (10, ⟨(.int .i64), false, false, false⟩)], boxes := [], rows := [], dead := [5, 7, 11, 12, 13, 14, 15, 16, 17, 18, 19, 20, 21, 22, 23, 24, 25], lost := [], base := 1 }), (2, { live := [(3, ⟨(.int .i64), false, false, false⟩), (16, ⟨(.int .i64), false, false, false⟩)], boxes := [], rows := [], dead := [7, 17, 18, 19, 20, 21, 22, 23, 24], lost := [], base := 2 })], joins := [], tb := tabs, exts := [], lets := [] }
theorem eFbelt_Words : (fun x : HT iFbelt_Words.ps => iFbelt_Words.F x) = fun x => rk Try.prog cFbelt_Words (Try.f25.body.getD .skip) (HT (iFbelt_Words.rs ++ iFbelt_Words.os)) 1000000 (finK Try.prog [.tmp 2] [] iFbelt_Words.os (iFbelt_Words.rs ++ iFbelt_Words.os)) (initF iFbelt_Words.ps iFbelt_Words.sh x 27) (initL iFbelt_Words.ps x 2) := by kernel_rfl
theorem okFbelt_Words : CallsV Try.prog tabs 25 iFbelt_Words :=
  callsV_of_rk (cx := cFbelt_Words) (fn := Try.f25) (c := Try.f25.body.getD .skip) (n := 27) (N := 2) (rvs := [.tmp 2]) (cxOk TabOk.nil XtOk.nil) Try.func25 rfl (by kernel_rfl) rfl rfl (fun x => Nat.le_of_ble_eq_true rfl) (by decide) (fun x => congrFun eFbelt_Words x)
noncomputable def Fchain_in (a0 : (Int × (List (BitVec 64)) × (List (Int × Int × Int)))) (a1 : Int) : Option Bool :=
if a1 ≥ 0 then
some (decide (a1 < (a0.2.2.length : Int)))
else some (false)
@[reducible] noncomputable def iFchain_in : FnI := { ps := [⟨(.pair (.int .i64) (.pair (.slice .u64) (.slice (.pair (.int .i64) (.pair (.int .i64) (.int .i64)))))), true, false, false⟩, ⟨(.int .i64), false, false, false⟩], rs := [⟨.bool, false, true, false⟩], os := [], bk := [], F := fun x => Fchain_in x.1 x.2 }
noncomputable def cFchain_in : Cx := { nm := [(2, (2, 1))], keep := [], fns := tabF [], loops := [], joins := [], tb := tabs, exts := [], lets := [] }
theorem eFchain_in : (fun x : HT iFchain_in.ps => iFchain_in.F x) = fun x => rk Try.prog cFchain_in (Try.f64.body.getD .skip) (HT (iFchain_in.rs ++ iFchain_in.os)) 1000000 (finK Try.prog [.tmp 4] [] iFchain_in.os (iFchain_in.rs ++ iFchain_in.os)) (initF iFchain_in.ps iFchain_in.sh x 14) (initL iFchain_in.ps x 1) := by kernel_rfl
theorem okFchain_in : CallsV Try.prog tabs 64 iFchain_in :=
  callsV_of_rk (cx := cFchain_in) (fn := Try.f64) (c := Try.f64.body.getD .skip) (n := 14) (N := 1) (rvs := [.tmp 4]) (cxOk TabOk.nil XtOk.nil) Try.func64 rfl (by kernel_rfl) rfl rfl (fun x => Nat.le_of_ble_eq_true rfl) (by decide) (fun x => congrFun eFchain_in x)
noncomputable def Fchain_free (a0 : (Int × (List (BitVec 64)) × (List (Int × Int × Int)))) (a1 : Int) : Option Bool :=
if 0 ≤ a1 ∧ a1 < (a0.2.2.length : Int) then
some (decide (((gl ((0, 0, 0) : (Int × Int × Int)) a0.2.2 a1.toNat).1) = (-1)))
else none
@[reducible] noncomputable def iFchain_free : FnI := { ps := [⟨(.pair (.int .i64) (.pair (.slice .u64) (.slice (.pair (.int .i64) (.pair (.int .i64) (.int .i64)))))), true, false, false⟩, ⟨(.int .i64), false, false, false⟩], rs := [⟨.bool, false, true, false⟩], os := [], bk := [], F := fun x => Fchain_free x.1 x.2 }
noncomputable def cFchain_free : Cx := { nm := [(2, (2, 1))], keep := [], fns := tabF [], loops := [], joins := [], tb := tabs, exts := [], lets := [] }
theorem eFchain_free : (fun x : HT iFchain_free.ps => iFchain_free.F x) = fun x => rk Try.prog cFchain_free (Try.f65.body.getD .skip) (HT (iFchain_free.rs ++ iFchain_free.os)) 1000000 (finK Try.prog [.tmp 4] [] iFchain_free.os (iFchain_free.rs ++ iFchain_free.os)) (initF iFchain_free.ps iFchain_free.sh x 12) (initL iFchain_free.ps x 1) := by kernel_rfl
theorem okFchain_free : CallsV Try.prog tabs 65 iFchain_free :=
  callsV_of_rk (cx := cFchain_free) (fn := Try.f65) (c := Try.f65.body.getD .skip) (n := 12) (N := 1) (rvs := [.tmp 4]) (cxOk TabOk.nil XtOk.nil) Try.func65 rfl (by kernel_rfl) rfl rfl (fun x => Nat.le_of_ble_eq_true rfl) (by decide) (fun x => congrFun eFchain_free x)
noncomputable def Fchain_List (a0 : (Int × (List (BitVec 64)) × (List (Int × Int × Int)))) (a1 : Int) : Option ((List Int) × Int) :=
Option.bind (Fframe_Valid a0) (fun r1 =>
if (!r1) = true then
some (([], 1))
else Option.bind (Fchain_in a0 a1) (fun r2 =>
if (!r2) = true then
some (([], 2))
else Option.bind (Fchain_free a0 a1) (fun r3 =>
if r3 = true then
some (([], 5))
else loopO (σ := ((List Int) × Int)) (β := ((List Int) × Int)) (fun s1 =>
if s1.2 ≥ 0 then
if (s1.1.length + ([s1.2] : List Int).length) * 8 ≤ 140737488355328 then
if 0 ≤ s1.2 ∧ s1.2 < (a0.2.2.length : Int) then
some (Sum.inl ((s1.1 ++ ([s1.2] : List Int), ((gl ((0, 0, 0) : (Int × Int × Int)) a0.2.2 s1.2.toNat).2).2)))
else none
else none
else some (Sum.inr ((s1.1, 0)))) (([], a1)))))
@[reducible] noncomputable def iFchain_List : FnI := { ps := [⟨(.pair (.int .i64) (.pair (.slice .u64) (.slice (.pair (.int .i64) (.pair (.int .i64) (.int .i64)))))), true, false, false⟩, ⟨(.int .i64), false, false, false⟩], rs := [⟨(.slice (.int .i64)), false, true, false⟩, ⟨(.int .i64), false, true, false⟩], os := [], bk := [], F := fun x => Fchain_List x.1 x.2 }
noncomputable def cFchain_List : Cx := { nm := [(2, (2, 1)), (29, (4, 1)), (30, (5, 1))], keep := [30], fns := tabF [(38, iFframe_Valid), (64, iFchain_in), (65, iFchain_free)], loops := [(0, { live := [(6, ⟨(.slice (.int .i64)), false, true, false⟩), (7, ⟨(.int .i64), false, false, false⟩)], boxes := [], rows := [], dead := [19, 20, 21, 22, 23, 24, 25, 26, 27, 28, 29, 30], lost := [], base := 3 })], joins := [], tb := tabs, exts := [], lets := [] }
theorem eFchain_List : (fun x : HT iFchain_List.ps => iFchain_List.F x) = fun x => rk Try.prog cFchain_List (Try.f54.body.getD .skip) (HT (iFchain_List.rs ++ iFchain_List.os)) 1000000 (finK Try.prog [.tmp 4, .tmp 5] [] iFchain_List.os (iFchain_List.rs ++ iFchain_List.os)) (initF iFchain_List.ps iFchain_List.sh x 32) (initL iFchain_List.ps x 4) := by kernel_rfl
theorem okFchain_List : CallsV Try.prog tabs 54 iFchain_List :=
  callsV_of_rk (cx := cFchain_List) (fn := Try.f54) (c := Try.f54.body.getD .skip) (n := 32) (N := 4) (rvs := [.tmp 4, .tmp 5]) (cxOk (.cons okFframe_Valid (.cons okFchain_in (.cons okFchain_free TabOk.nil))) XtOk.nil) Try.func54 rfl (by kernel_rfl) rfl rfl (fun x => Nat.le_of_ble_eq_true rfl) (by decide) (fun x => congrFun eFchain_List x)
noncomputable def Fbits_Ceil (a0 : Int) (a1 : Int) : Option Int :=
if a0 < 0 then
some (0)
else if a0 > 1099511627776 then
some (0)
else if a1 < 0 then
some (0)
else if a1 > 20 then
some (0)
else if True then
if True then
some ((w64 ((w64 (a0 + (w64 ((1 : Int) * 2 ^ min (BitVec.ofInt 64 a1).toNat 64)))) - 1)) / 2 ^ min (BitVec.ofInt 64 a1).toNat 64)
else none
else none
@[reducible] noncomputable def iFbits_Ceil : FnI := { ps := [⟨(.int .i64), false, false, false⟩, ⟨(.int .i64), false, false, false⟩], rs := [⟨(.int .i64), false, true, false⟩], os := [], bk := [], F := fun x => Fbits_Ceil x.1 x.2 }
noncomputable def cFbits_Ceil : Cx := { nm := [], keep := [], fns := tabF [], loops := [], joins := [], tb := tabs, exts := [], lets := [] }
theorem eFbits_Ceil : (fun x : HT iFbits_Ceil.ps => iFbits_Ceil.F x) = fun x => rk Try.prog cFbits_Ceil (Try.f58.body.getD .skip) (HT (iFbits_Ceil.rs ++ iFbits_Ceil.os)) 1000000 (finK Try.prog [.tmp 4] [] iFbits_Ceil.os (iFbits_Ceil.rs ++ iFbits_Ceil.os)) (initF iFbits_Ceil.ps iFbits_Ceil.sh x 28) (initL iFbits_Ceil.ps x 0) := by kernel_rfl
theorem okFbits_Ceil : CallsV Try.prog tabs 58 iFbits_Ceil :=
  callsV_of_rk (cx := cFbits_Ceil) (fn := Try.f58) (c := Try.f58.body.getD .skip) (n := 28) (N := 0) (rvs := [.tmp 4]) (cxOk TabOk.nil XtOk.nil) Try.func58 rfl (by kernel_rfl) rfl rfl (fun x => Nat.le_of_ble_eq_true rfl) (by decide) (fun x => congrFun eFbits_Ceil x)
noncomputable def Fbump_Frames (a0 : (Int × (List (BitVec 64)) × (List (Int × Int × Int)))) (a1 : (Int × Int × Int × Int × Int)) : Option Int :=
Option.bind (Fbits_Ceil a1.2.2.2.2 a0.1) (fun r1 =>
some (r1))
@[reducible] noncomputable def iFbump_Frames : FnI := { ps := [⟨(.pair (.int .i64) (.pair (.slice .u64) (.slice (.pair (.int .i64) (.pair (.int .i64) (.int .i64)))))), true, false, false⟩, ⟨(.pair (.int .i64) (.pair (.int .i64) (.pair (.int .i64) (.pair (.int .i64) (.int .i64))))), true, false, false⟩], rs := [⟨(.int .i64), false, true, false⟩], os := [], bk := [], F := fun x => Fbump_Frames x.1 x.2 }
noncomputable def cFbump_Frames : Cx := { nm := [(2, (2, 1)), (3, (3, 1))], keep := [], fns := tabF [(58, iFbits_Ceil)], loops := [], joins := [], tb := tabs, exts := [], lets := [] }
theorem eFbump_Frames : (fun x : HT iFbump_Frames.ps => iFbump_Frames.F x) = fun x => rk Try.prog cFbump_Frames (Try.f42.body.getD .skip) (HT (iFbump_Frames.rs ++ iFbump_Frames.os)) 1000000 (finK Try.prog [.tmp 4] [] iFbump_Frames.os (iFbump_Frames.rs ++ iFbump_Frames.os)) (initF iFbump_Frames.ps iFbump_Frames.sh x 10) (initL iFbump_Frames.ps x 2) := by kernel_rfl
theorem okFbump_Frames : CallsV Try.prog tabs 42 iFbump_Frames :=
  callsV_of_rk (cx := cFbump_Frames) (fn := Try.f42) (c := Try.f42.body.getD .skip) (n := 10) (N := 2) (rvs := [.tmp 4]) (cxOk (.cons okFbits_Ceil TabOk.nil) XtOk.nil) Try.func42 rfl (by kernel_rfl) rfl rfl (fun x => Nat.le_of_ble_eq_true rfl) (by decide) (fun x => congrFun eFbump_Frames x)
noncomputable def Fbump_owns (a0 : (Int × (List (BitVec 64)) × (List (Int × Int × Int)))) (a1 : Int) : Option Int :=
loopO (σ := (Int × Int)) (β := Int) (fun s1 =>
if s1.2 < (a0.2.2.length : Int) then
if 0 ≤ s1.2 ∧ s1.2 < (a0.2.2.length : Int) then
if ((gl ((0, 0, 0) : (Int × Int × Int)) a0.2.2 s1.2.toNat).1) = a1 then
some (Sum.inl ((w64 (s1.1 + 1), w64 (s1.2 + 1))))
else some (Sum.inl ((s1.1, w64 (s1.2 + 1))))
else none
else some (Sum.inr (s1.1))) ((0, 0))
@[reducible] noncomputable def iFbump_owns : FnI := { ps := [⟨(.pair (.int .i64) (.pair (.slice .u64) (.slice (.pair (.int .i64) (.pair (.int .i64) (.int .i64)))))), true, false, false⟩, ⟨(.int .i64), false, false, false⟩], rs := [⟨(.int .i64), false, true, false⟩], os := [], bk := [], F := fun x => Fbump_owns x.1 x.2 }
noncomputable def cFbump_owns : Cx := { nm := [(2, (2, 1)), (7, (3, 1))], keep := [], fns := tabF [], loops := [(0, { live := [(5, ⟨(.int .i64), false, false, false⟩), (11, ⟨(.int .i64), false, false, false⟩)], boxes := [], rows := [], dead := [7, 12, 13, 14, 15, 16, 17, 18, 19, 20, 21], lost := [], base := 3 })], joins := [], tb := tabs, exts := [], lets := [] }
theorem eFbump_owns : (fun x : HT iFbump_owns.ps => iFbump_owns.F x) = fun x => rk Try.prog cFbump_owns (Try.f55.body.getD .skip) (HT (iFbump_owns.rs ++ iFbump_owns.os)) 1000000 (finK Try.prog [.tmp 4] [] iFbump_owns.os (iFbump_owns.rs ++ iFbump_owns.os)) (initF iFbump_owns.ps iFbump_owns.sh x 23) (initL iFbump_owns.ps x 2) := by kernel_rfl
theorem okFbump_owns : CallsV Try.prog tabs 55 iFbump_owns :=
  callsV_of_rk (cx := cFbump_owns) (fn := Try.f55) (c := Try.f55.body.getD .skip) (n := 23) (N := 2) (rvs := [.tmp 4]) (cxOk TabOk.nil XtOk.nil) Try.func55 rfl (by kernel_rfl) rfl rfl (fun x => Nat.le_of_ble_eq_true rfl) (by decide) (fun x => congrFun eFbump_owns x)
noncomputable def Fbump_Valid (a0 : (Int × (List (BitVec 64)) × (List (Int × Int × Int)))) (a1 : (Int × Int × Int × Int × Int)) : Option Bool :=
Option.bind (Fframe_Valid a0) (fun r1 =>
if (!r1) = true then
some (false)
else if a1.1 < 0 then
some (false)
else if a1.1 > 4294967295 then
some (false)
else if a1.2.1 < 0 then
some (false)
else if a1.2.1 ≥ 4 then
some (false)
else if a1.2.2.2.2 < 0 then
some (false)
else if a1.2.2.2.2 = 0 then
if a1.2.2.1 = (-1) then
some (decide (a1.2.2.2.1 = (-1)))
else some (false)
else Option.bind (Fchain_List a0 a1.2.2.1) (fun r2 =>
if ¬ r2.2 = 0 then
some (false)
else if a1.2.2.2.2 > (a0.2.1.length : Int) then
some (false)
else if 0 ≤ (w64 ((r2.1.length : Int) - 1)) ∧ (w64 ((r2.1.length : Int) - 1)) < (r2.1.length : Int) then
if ¬ (gl (0 : Int) r2.1 ((w64 ((r2.1.length : Int) - 1)).toNat)) = a1.2.2.2.1 then
some (false)
else Option.bind (Fbump_Frames a0 a1) (fun r3 =>
if ¬ (r2.1.length : Int) = r3 then
some (false)
else Option.bind (Fbump_owns a0 a1.1) (fun r4 =>
if ¬ (r2.1.length : Int) = r4 then
some (false)
else if 0 ≤ a1.2.2.1 ∧ a1.2.2.1 < (a0.2.2.length : Int) then
if ((gl ((0, 0, 0) : (Int × Int × Int)) a0.2.2 a1.2.2.1.toNat).1) = a1.1 then
some (decide ((((gl ((0, 0, 0) : (Int × Int × Int)) a0.2.2 a1.2.2.1.toNat).2).1) = (w64 ((w64 (a1.2.1 * 4294967296)) + a1.1))))
else some (false)
else none))
else none))
@[reducible] noncomputable def iFbump_Valid : FnI := { ps := [⟨(.pair (.int .i64) (.pair (.slice .u64) (.slice (.pair (.int .i64) (.pair (.int .i64) (.int .i64)))))), true, false, false⟩, ⟨(.pair (.int .i64) (.pair (.int .i64) (.pair (.int .i64) (.pair (.int .i64) (.int .i64))))), true, false, false⟩], rs := [⟨.bool, false, true, false⟩], os := [], bk := [], F := fun x => Fbump_Valid x.1 x.2 }
noncomputable def cFbump_Valid : Cx := { nm := [(2, (2, 1)), (3, (3, 1)), (7, (5, 1)), (51, (4, 1))], keep := [], fns := tabF [(38, iFframe_Valid), (42, iFbump_Frames), (54, iFchain_List), (55, iFbump_owns)], loops := [], joins := [], tb := tabs, exts := [], lets := [] }
theorem eFbump_Valid : (fun x : HT iFbump_Valid.ps => iFbump_Valid.F x) = fun x => rk Try.prog cFbump_Valid (Try.f39.body.getD .skip) (HT (iFbump_Valid.rs ++ iFbump_Valid.os)) 1000000 (finK Try.prog [.tmp 4] [] iFbump_Valid.os (iFbump_Valid.rs ++ iFbump_Valid.os)) (initF iFbump_Valid.ps iFbump_Valid.sh x 114) (initL iFbump_Valid.ps x 4) := by kernel_rfl
theorem okFbump_Valid : CallsV Try.prog tabs 39 iFbump_Valid :=
  callsV_of_rk (cx := cFbump_Valid) (fn := Try.f39) (c := Try.f39.body.getD .skip) (n := 114) (N := 4) (rvs := [.tmp 4]) (cxOk (.cons okFframe_Valid (.cons okFbump_Frames (.cons okFchain_List (.cons okFbump_owns TabOk.nil)))) XtOk.nil) Try.func39 rfl (by kernel_rfl) rfl rfl (fun x => Nat.le_of_ble_eq_true rfl) (by decide) (fun x => congrFun eFbump_Valid x)
noncomputable def Fbelt_Valid (a0 : (Int × (List (BitVec 64)) × (List (Int × Int × Int)))) (a1 : (List (List (Int × Int × Int × Int × Int)))) : Option Bool :=
Option.bind (Fframe_Valid a0) (fun r1 =>
if (!r1) = true then
some (false)
else if (a1.length : Int) < 1 then
some (false)
else if (a1.length : Int) > 4 then
some (false)
else loopO (σ := (Int × (List (Int × Bool)))) (β := Bool) (fun s1 =>
if s1.1 < (a1.length : Int) then
if 0 ≤ s1.1 ∧ s1.1 < (a1.length : Int) then
loopO (σ := (Int × (List (Int × Bool)))) (β := ((Int × (List (Int × Bool))) ⊕ Bool)) (fun s2 =>
if s2.1 < ((gl ([] : (List (Int × Int × Int × Int × Int))) a1 s1.1.toNat).length : Int) then
if 0 ≤ s2.1 ∧ s2.1 < ((gl ([] : (List (Int × Int × Int × Int × Int))) a1 s1.1.toNat).length : Int) then
if ¬ (((gl ((0, 0, 0, 0, 0) : (Int × Int × Int × Int × Int)) (gl ([] : (List (Int × Int × Int × Int × Int))) a1 s1.1.toNat) s2.1.toNat).2).1) = s1.1 then
some (Sum.inr (Sum.inr (false)))
else if (((((gl ((0, 0, 0, 0, 0) : (Int × Int × Int × Int × Int)) (gl ([] : (List (Int × Int × Int × Int × Int))) a1 s1.1.toNat) s2.1.toNat).2).2).2).2) < 1 then
some (Sum.inr (Sum.inr (false)))
else if s2.1 > 0 then
if 0 ≤ (w64 (s2.1 - 1)) ∧ (w64 (s2.1 - 1)) < ((gl ([] : (List (Int × Int × Int × Int × Int))) a1 s1.1.toNat).length : Int) then
if ((gl ((0, 0, 0, 0, 0) : (Int × Int × Int × Int × Int)) (gl ([] : (List (Int × Int × Int × Int × Int))) a1 s1.1.toNat) ((w64 (s2.1 - 1)).toNat)).1) ≥ ((gl ((0, 0, 0, 0, 0) : (Int × Int × Int × Int × Int)) (gl ([] : (List (Int × Int × Int × Int × Int))) a1 s1.1.toNat) s2.1.toNat).1) then
some (Sum.inr (Sum.inr (false)))
else if ((mget s2.2 ((gl ((0, 0, 0, 0, 0) : (Int × Int × Int × Int × Int)) (gl ([] : (List (Int × Int × Int × Int × Int))) a1 s1.1.toNat) s2.1.toNat).1)).getD false) = true then
some (Sum.inr (Sum.inr (false)))
else Option.bind (Fbump_Valid a0 ((gl ((0, 0, 0, 0, 0) : (Int × Int × Int × Int × Int)) (gl ([] : (List (Int × Int × Int × Int × Int))) a1 s1.1.toNat) s2.1.toNat).1, ((gl ((0, 0, 0, 0, 0) : (Int × Int × Int × Int × Int)) (gl ([] : (List (Int × Int × Int × Int × Int))) a1 s1.1.toNat) s2.1.toNat).2).1, (((gl ((0, 0, 0, 0, 0) : (Int × Int × Int × Int × Int)) (gl ([] : (List (Int × Int × Int × Int × Int))) a1 s1.1.toNat) s2.1.toNat).2).2).1, ((((gl ((0, 0, 0, 0, 0) : (Int × Int × Int × Int × Int)) (gl ([] : (List (Int × Int × Int × Int × Int))) a1 s1.1.toNat) s2.1.toNat).2).2).2))) (fun r2 =>
if (!r2) = true then
some (Sum.inr (Sum.inr (false)))
else some (Sum.inl ((w64 (s2.1 + 1), mset s2.2 ((gl ((0, 0, 0, 0, 0) : (Int × Int × Int × Int × Int)) (gl ([] : (List (Int × Int × Int × Int × Int))) a1 s1.1.toNat) s2.1.toNat).1) true))))
else none
else if ((mget s2.2 ((gl ((0, 0, 0, 0, 0) : (Int × Int × Int × Int × Int)) (gl ([] : (List (Int × Int × Int × Int × Int))) a1 s1.1.toNat) s2.1.toNat).1)).getD false) = true then
some (Sum.inr (Sum.inr (false)))
else Option.bind (Fbump_Valid a0 ((gl ((0, 0, 0, 0, 0) : (Int × Int × Int × Int × Int)) (gl ([] : (List (Int × Int × Int × Int × Int))) a1 s1.1.toNat) s2.1.toNat).1, ((gl ((0, 0, 0, 0, 0) : (Int × Int × Int × Int × Int)) (gl ([] : (List (Int × Int × Int × Int × Int))) a1 s1.1.toNat) s2.1.toNat).2).1, (((gl ((0, 0, 0, 0, 0) : (Int × Int × Int × Int × Int)) (gl ([] : (List (Int × Int × Int × Int × Int))) a1 s1.1.toNat) s2.1.toNat).2).2).1, ((((gl ((0, 0, 0, 0, 0) : (Int × Int × Int × Int × Int)) (gl ([] : (List (Int × Int × Int × Int × Int))) a1 s1.1.toNat) s2.1.toNat).2).2).2))) (fun r3 =>
if (!r3) = true then
some (Sum.inr (Sum.inr (false)))
else some (Sum.inl ((w64 (s2.1 + 1), mset s2.2 ((gl ((0, 0, 0, 0, 0) : (Int × Int × Int × Int × Int)) (gl ([] : (List (Int × Int × Int × Int × Int))) a1 s1.1.toNat) s2.1.toNat).1) true))))
else none
else some (Sum.inr (Sum.inl ((w64 (s1.1 + 1), s2.2))))) ((0, s1.2))
else none
else Option.map Sum.inr (loopO (σ := Int) (β := Bool) (fun s3 =>
if s3 < (a0.2.2.length : Int) then
if 0 ≤ s3 ∧ s3 < (a0.2.2.length : Int) then
if ¬ ((gl ((0, 0, 0) : (Int × Int × Int)) a0.2.2 s3.toNat).1) = (-1) then
if (!((mget s1.2 ((gl ((0, 0, 0) : (Int × Int × Int)) a0.2.2 s3.toNat).1)).getD false)) = true then
some (Sum.inr (false))
else some (Sum.inl (w64 (s3 + 1)))
else some (Sum.inl (w64 (s3 + 1)))
else none
else some (Sum.inr (true))) (0))) ((0, ([] : List (Int × Bool)))))
@[reducible] noncomputable def iFbelt_Valid : FnI := { ps := [⟨(.pair (.int .i64) (.pair (.slice .u64) (.slice (.pair (.int .i64) (.pair (.int .i64) (.int .i64)))))), true, false, false⟩, ⟨(.slice (.slice (.pair (.int .i64) (.pair (.int .i64) (.pair (.int .i64) (.pair (.int .i64) (.int .i64))))))), false, false, false⟩], rs := [⟨.bool, false, true, false⟩], os := [], bk := [], F := fun x => Fbelt_Valid x.1 x.2 }
noncomputable def cFbelt_Valid : Cx := { nm := [(2, (3, 1)), (9, (6, 1)), (11, (7, 1)), (25, (4, 1)), (32, (5, 1))], keep := [], fns := tabF [(38, iFframe_Valid), (39, iFbump_Valid)], loops := [(0, { live := [(28, ⟨(.int .i64), false, false, false⟩)], boxes := [], rows := [(4, .kv)], dead := [4, 6, 7, 8, 9, 29, 30, 31, 32, 33, 34, 35, 36, 37, 38, 39, 40, 41, 42, 43, 44, 45, 46, 47, 48, 49, 50, 51, 52, 53, 54, 55, 56, 57, 58, 59, 60, 61, 62, 63, 64, 65, 66, 67, 68, 69, 70, 71, 72, 73, 74, 75, 76, 77, 78, 79, 80], lost := [], base := 5 }), (2, { live := [(35, ⟨(.int .i64), false, false, false⟩)], boxes := [], rows := [(4, .kv)], dead := [4, 8, 9, 36, 37, 38, 39, 40, 41, 42, 43, 44, 45, 46, 47, 48, 49, 50, 51, 52, 53, 54, 55, 56, 57, 58, 59, 60, 61, 62, 63, 64, 65, 66, 67, 68, 69, 70, 71, 72, 73, 74, 75, 76, 77, 78, 79], lost := [], base := 6 }), (4, { live := [(84, ⟨(.int .i64), false, false, false⟩)], boxes := [], rows := [], dead := [4, 11, 85, 86, 87, 88, 89, 90, 91, 92, 93, 94, 95, 96, 97, 98], lost := [], base := 7 })], joins := [], tb := tabs, exts := [], lets := [] }
theorem eFbelt_Valid : (fun x : HT iFbelt_Valid.ps => iFbelt_Valid.F x) = fun x => rk Try.prog cFbelt_Valid (Try.f23.body.getD .skip) (HT (iFbelt_Valid.rs ++ iFbelt_Valid.os)) 1000000 (finK Try.prog [.tmp 4] [] iFbelt_Valid.os (iFbelt_Valid.rs ++ iFbelt_Valid.os)) (initF iFbelt_Valid.ps iFbelt_Valid.sh x 99) (initL iFbelt_Valid.ps x 5) := by kernel_rfl
theorem okFbelt_Valid : CallsV Try.prog tabs 23 iFbelt_Valid :=
  callsV_of_rk (cx := cFbelt_Valid) (fn := Try.f23) (c := Try.f23.body.getD .skip) (n := 99) (N := 5) (rvs := [.tmp 4]) (cxOk (.cons okFframe_Valid (.cons okFbump_Valid TabOk.nil)) XtOk.nil) Try.func23 rfl (by kernel_rfl) rfl rfl (fun x => Nat.le_of_ble_eq_true rfl) (by decide) (fun x => congrFun eFbelt_Valid x)
noncomputable def Fbelt_Largest (a0 : (Int × (List (BitVec 64)) × (List (Int × Int × Int)))) (a1 : (List (List (Int × Int × Int × Int × Int)))) : Option Int :=
loopO (σ := (Int × Int)) (β := Int) (fun s1 =>
if s1.2 < (a1.length : Int) then
if 0 ≤ s1.2 ∧ s1.2 < (a1.length : Int) then
loopO (σ := (Int × Int)) (β := ((Int × Int) ⊕ Int)) (fun s2 =>
if s2.2 < ((gl ([] : (List (Int × Int × Int × Int × Int))) a1 s1.2.toNat).length : Int) then
if 0 ≤ s2.2 ∧ s2.2 < ((gl ([] : (List (Int × Int × Int × Int × Int))) a1 s1.2.toNat).length : Int) then
Option.bind (Fbump_Frames a0 ((gl ((0, 0, 0, 0, 0) : (Int × Int × Int × Int × Int)) (gl ([] : (List (Int × Int × Int × Int × Int))) a1 s1.2.toNat) s2.2.toNat).1, ((gl ((0, 0, 0, 0, 0) : (Int × Int × Int × Int × Int)) (gl ([] : (List (Int × Int × Int × Int × Int))) a1 s1.2.toNat) s2.2.toNat).2).1, (((gl ((0, 0, 0, 0, 0) : (Int × Int × Int × Int × Int)) (gl ([] : (List (Int × Int × Int × Int × Int))) a1 s1.2.toNat) s2.2.toNat).2).2).1, ((((gl ((0, 0, 0, 0, 0) : (Int × Int × Int × Int × Int)) (gl ([] : (List (Int × Int × Int × Int × Int))) a1 s1.2.toNat) s2.2.toNat).2).2).2))) (fun r1 =>
some (Sum.inl ((if r1 > s2.1 then r1 else s2.1, w64 (s2.2 + 1)))))
else none
else some (Sum.inr (Sum.inl ((s2.1, w64 (s1.2 + 1)))))) ((s1.1, 0))
else none
else some (Sum.inr (s1.1))) ((0, 0))
@[reducible] noncomputable def iFbelt_Largest : FnI := { ps := [⟨(.pair (.int .i64) (.pair (.slice .u64) (.slice (.pair (.int .i64) (.pair (.int .i64) (.int .i64)))))), true, false, false⟩, ⟨(.slice (.slice (.pair (.int .i64) (.pair (.int .i64) (.pair (.int .i64) (.pair (.int .i64) (.int .i64))))))), false, false, false⟩], rs := [⟨(.int .i64), false, true, false⟩], os := [], bk := [], F := fun x => Fbelt_Largest x.1 x.2 }
noncomputable def cFbelt_Largest : Cx := { nm := [(2, (3, 1)), (9, (5, 1)), (15, (4, 1))], keep := [], fns := tabF [(42, iFbump_Frames)], loops := [(0, { live := [(5, ⟨(.int .i64), false, false, false⟩), (12, ⟨(.int .i64), false, false, false⟩)], boxes := [], rows := [], dead := [7, 9, 13, 14, 15, 16, 17, 18, 19, 20, 21, 22, 23, 24, 25, 26, 27, 28], lost := [], base := 4 }), (2, { live := [(5, ⟨(.int .i64), false, false, false⟩), (18, ⟨(.int .i64), false, false, false⟩)], boxes := [], rows := [], dead := [9, 19, 20, 21, 22, 23, 24, 25, 26, 27], lost := [], base := 5 })], joins := [], tb := tabs, exts := [], lets := [] }
theorem eFbelt_Largest : (fun x : HT iFbelt_Largest.ps => iFbelt_Largest.F x) = fun x => rk Try.prog cFbelt_Largest (Try.f27.body.getD .skip) (HT (iFbelt_Largest.rs ++ iFbelt_Largest.os)) 1000000 (finK Try.prog [.tmp 4] [] iFbelt_Largest.os (iFbelt_Largest.rs ++ iFbelt_Largest.os)) (initF iFbelt_Largest.ps iFbelt_Largest.sh x 30) (initL iFbelt_Largest.ps x 3) := by kernel_rfl
theorem okFbelt_Largest : CallsV Try.prog tabs 27 iFbelt_Largest :=
  callsV_of_rk (cx := cFbelt_Largest) (fn := Try.f27) (c := Try.f27.body.getD .skip) (n := 30) (N := 3) (rvs := [.tmp 4]) (cxOk (.cons okFbump_Frames TabOk.nil) XtOk.nil) Try.func27 rfl (by kernel_rfl) rfl rfl (fun x => Nat.le_of_ble_eq_true rfl) (by decide) (fun x => congrFun eFbelt_Largest x)
noncomputable def Fbelt_in (a0 : (List (List (Int × Int × Int × Int × Int)))) (a1 : Int) : Option Bool :=
if a1 ≥ 0 then
some (decide (a1 < (a0.length : Int)))
else some (false)
@[reducible] noncomputable def iFbelt_in : FnI := { ps := [⟨(.slice (.slice (.pair (.int .i64) (.pair (.int .i64) (.pair (.int .i64) (.pair (.int .i64) (.int .i64))))))), false, false, false⟩, ⟨(.int .i64), false, false, false⟩], rs := [⟨.bool, false, true, false⟩], os := [], bk := [], F := fun x => Fbelt_in x.1 x.2 }
noncomputable def cFbelt_in : Cx := { nm := [], keep := [], fns := tabF [], loops := [], joins := [], tb := tabs, exts := [], lets := [] }
theorem eFbelt_in : (fun x : HT iFbelt_in.ps => iFbelt_in.F x) = fun x => rk Try.prog cFbelt_in (Try.f34.body.getD .skip) (HT (iFbelt_in.rs ++ iFbelt_in.os)) 1000000 (finK Try.prog [.tmp 4] [] iFbelt_in.os (iFbelt_in.rs ++ iFbelt_in.os)) (initF iFbelt_in.ps iFbelt_in.sh x 13) (initL iFbelt_in.ps x 0) := by kernel_rfl
theorem okFbelt_in : CallsV Try.prog tabs 34 iFbelt_in :=
  callsV_of_rk (cx := cFbelt_in) (fn := Try.f34) (c := Try.f34.body.getD .skip) (n := 13) (N := 0) (rvs := [.tmp 4]) (cxOk TabOk.nil XtOk.nil) Try.func34 rfl (by kernel_rfl) rfl rfl (fun x => Nat.le_of_ble_eq_true rfl) (by decide) (fun x => congrFun eFbelt_in x)
noncomputable def Fbelt_Youngest (a0 : (List (List (Int × Int × Int × Int × Int)))) (a1 : Int) : Option ((Int × Int × Int × Int × Int) × Bool) :=
Option.bind (Fbelt_in a0 a1) (fun r1 =>
if (!r1) = true then
some (((0, 0, 0, 0, 0), false))
else if 0 ≤ a1 ∧ a1 < (a0.length : Int) then
if ((gl ([] : (List (Int × Int × Int × Int × Int))) a0 a1.toNat).length : Int) = 0 then
some (((0, 0, 0, 0, 0), false))
else if 0 ≤ a1 ∧ a1 < (a0.length : Int) then
if 0 ≤ a1 ∧ a1 < (a0.length : Int) then
if 0 ≤ (w64 (((gl ([] : (List (Int × Int × Int × Int × Int))) a0 a1.toNat).length : Int) - 1)) ∧ (w64 (((gl ([] : (List (Int × Int × Int × Int × Int))) a0 a1.toNat).length : Int) - 1)) < ((gl ([] : (List (Int × Int × Int × Int × Int))) a0 a1.toNat).length : Int) then
some ((((gl ((0, 0, 0, 0, 0) : (Int × Int × Int × Int × Int)) (gl ([] : (List (Int × Int × Int × Int × Int))) a0 a1.toNat) ((w64 (((gl ([] : (List (Int × Int × Int × Int × Int))) a0 a1.toNat).length : Int) - 1)).toNat)).1, ((gl ((0, 0, 0, 0, 0) : (Int × Int × Int × Int × Int)) (gl ([] : (List (Int × Int × Int × Int × Int))) a0 a1.toNat) ((w64 (((gl ([] : (List (Int × Int × Int × Int × Int))) a0 a1.toNat).length : Int) - 1)).toNat)).2).1, (((gl ((0, 0, 0, 0, 0) : (Int × Int × Int × Int × Int)) (gl ([] : (List (Int × Int × Int × Int × Int))) a0 a1.toNat) ((w64 (((gl ([] : (List (Int × Int × Int × Int × Int))) a0 a1.toNat).length : Int) - 1)).toNat)).2).2).1, ((((gl ((0, 0, 0, 0, 0) : (Int × Int × Int × Int × Int)) (gl ([] : (List (Int × Int × Int × Int × Int))) a0 a1.toNat) ((w64 (((gl ([] : (List (Int × Int × Int × Int × Int))) a0 a1.toNat).length : Int) - 1)).toNat)).2).2).2)), true))
else none
else none
else none
else none)
@[reducible] noncomputable def iFbelt_Youngest : FnI := { ps := [⟨(.slice (.slice (.pair (.int .i64) (.pair (.int .i64) (.pair (.int .i64) (.pair (.int .i64) (.int .i64))))))), false, false, false⟩, ⟨(.int .i64), false, false, false⟩], rs := [⟨(.pair (.int .i64) (.pair (.int .i64) (.pair (.int .i64) (.pair (.int .i64) (.int .i64))))), true, true, false⟩, ⟨.bool, false, true, false⟩], os := [], bk := [], F := fun x => Fbelt_Youngest x.1 x.2 }
noncomputable def cFbelt_Youngest : Cx := { nm := [(4, (1, 1)), (14, (2, 1)), (22, (3, 1)), (26, (4, 1))], keep := [], fns := tabF [(34, iFbelt_in)], loops := [], joins := [], tb := tabs, exts := [], lets := [] }
theorem eFbelt_Youngest : (fun x : HT iFbelt_Youngest.ps => iFbelt_Youngest.F x) = fun x => rk Try.prog cFbelt_Youngest (Try.f15.body.getD .skip) (HT (iFbelt_Youngest.rs ++ iFbelt_Youngest.os)) 1000000 (finK Try.prog [.cell 4 36, .tmp 5] [] iFbelt_Youngest.os (iFbelt_Youngest.rs ++ iFbelt_Youngest.os)) (initF iFbelt_Youngest.ps iFbelt_Youngest.sh x 31) (initL iFbelt_Youngest.ps x 4) := by kernel_rfl
theorem okFbelt_Youngest : CallsV Try.prog tabs 15 iFbelt_Youngest :=
  callsV_of_rk (cx := cFbelt_Youngest) (fn := Try.f15) (c := Try.f15.body.getD .skip) (n := 31) (N := 4) (rvs := [.cell 4 36, .tmp 5]) (cxOk (.cons okFbelt_in TabOk.nil) XtOk.nil) Try.func15 rfl (by kernel_rfl) rfl rfl (fun x => Nat.le_of_ble_eq_true rfl) (by decide) (fun x => congrFun eFbelt_Youngest x)
noncomputable def Fclone_Belts (a0 : (List (List (Int × Int × Int × Int × Int)))) : Option (List (List (Int × Int × Int × Int × Int))) :=
if 0 ≤ (a0.length : Int) ∧ (a0.length : Int) ≤ (a0.length : Int) ∧ (a0.length : Int) * ((24 : Nat) : Int) ≤ 140737488355328 then
loopO (σ := (Int × (List (List (Int × Int × Int × Int × Int))))) (β := (List (List (Int × Int × Int × Int × Int)))) (fun s1 =>
if s1.1 < (a0.length : Int) then
if 0 ≤ s1.1 ∧ s1.1 < (a0.length : Int) then
if (([] : List (Int × Int × Int × Int × Int)).length + (gl ([] : (List (Int × Int × Int × Int × Int))) a0 s1.1.toNat).length) * 40 ≤ 140737488355328 then
if 0 ≤ s1.1 ∧ s1.1 < (s1.2.length : Int) then
some (Sum.inl ((w64 (s1.1 + 1), s1.2.set s1.1.toNat (([] : List (Int × Int × Int × Int × Int)) ++ (gl ([] : (List (Int × Int × Int × Int × Int))) a0 s1.1.toNat)))))
else none
else none
else none
else some (Sum.inr (s1.2))) ((0, List.replicate (a0.length : Int).toNat ([] : (List (Int × Int × Int × Int × Int)))))
else none
@[reducible] noncomputable def iFclone_Belts : FnI := { ps := [⟨(.slice (.slice (.pair (.int .i64) (.pair (.int .i64) (.pair (.int .i64) (.pair (.int .i64) (.int .i64))))))), false, false, false⟩], rs := [⟨(.slice (.slice (.pair (.int .i64) (.pair (.int .i64) (.pair (.int .i64) (.pair (.int .i64) (.int .i64))))))), false, true, false⟩], os := [], bk := [], F := fun x => Fclone_Belts x }
noncomputable def cFclone_Belts : Cx := { nm := [(8, (1, 1)), (15, (2, 1)), (19, (3, 1))], keep := [8, 19], fns := tabF [], loops := [(0, { live := [(11, ⟨(.int .i64), false, false, false⟩)], boxes := [], rows := [(1, (.slice (.pair (.int .i64) (.pair (.int .i64) (.pair (.int .i64) (.pair (.int .i64) (.int .i64)))))))], dead := [4, 5, 12, 13, 14, 15, 16, 17, 18, 19, 20, 21], lost := [], base := 2 })], joins := [], tb := tabs, exts := [], lets := [] }
theorem eFclone_Belts : (fun x : HT iFclone_Belts.ps => iFclone_Belts.F x) = fun x => rk Try.prog cFclone_Belts (Try.f33.body.getD .skip) (HT (iFclone_Belts.rs ++ iFclone_Belts.os)) 1000000 (finK Try.prog [.tmp 2] [] iFclone_Belts.os (iFclone_Belts.rs ++ iFclone_Belts.os)) (initF iFclone_Belts.ps iFclone_Belts.sh x 23) (initL iFclone_Belts.ps x 3) := by kernel_rfl
theorem okFclone_Belts : CallsV Try.prog tabs 33 iFclone_Belts :=
  callsV_of_rk (cx := cFclone_Belts) (fn := Try.f33) (c := Try.f33.body.getD .skip) (n := 23) (N := 3) (rvs := [.tmp 2]) (cxOk TabOk.nil XtOk.nil) Try.func33 rfl (by kernel_rfl) rfl rfl (fun x => Nat.le_of_ble_eq_true rfl) (by decide) (fun x => congrFun eFclone_Belts x)
noncomputable def Fbelt_Add (a0 : (List (List (Int × Int × Int × Int × Int)))) (a1 : (Int × Int × Int × Int × Int)) : Option ((List (List (Int × Int × Int × Int × Int))) × Int) :=
Option.bind (Fbelt_in a0 a1.2.1) (fun r1 =>
if (!r1) = true then
some (([], 1))
else Option.bind (Fbelt_Youngest a0 a1.2.1) (fun r2 =>
if r2.2 = true then
if r2.1.1 ≥ a1.1 then
some (([], 5))
else Option.bind (Fclone_Belts a0) (fun r3 =>
if 0 ≤ a1.2.1 ∧ a1.2.1 < (r3.length : Int) then
if ((r3.getD a1.2.1.toNat []).length + ([a1] : List (Int × Int × Int × Int × Int)).length) * 40 ≤ 140737488355328 then
if 0 ≤ a1.2.1 ∧ a1.2.1 < (r3.length : Int) then
if a1.2.1.toNat = a1.2.1.toNat then
some ((r3.set a1.2.1.toNat ((r3.getD a1.2.1.toNat []) ++ ([a1] : List (Int × Int × Int × Int × Int))), 0))
else none
else none
else none
else none)
else Option.bind (Fclone_Belts a0) (fun r4 =>
if 0 ≤ a1.2.1 ∧ a1.2.1 < (r4.length : Int) then
if ((r4.getD a1.2.1.toNat []).length + ([a1] : List (Int × Int × Int × Int × Int)).length) * 40 ≤ 140737488355328 then
if 0 ≤ a1.2.1 ∧ a1.2.1 < (r4.length : Int) then
if a1.2.1.toNat = a1.2.1.toNat then
some ((r4.set a1.2.1.toNat ((r4.getD a1.2.1.toNat []) ++ ([a1] : List (Int × Int × Int × Int × Int))), 0))
else none
else none
else none
else none)))
@[reducible] noncomputable def iFbelt_Add : FnI := { ps := [⟨(.slice (.slice (.pair (.int .i64) (.pair (.int .i64) (.pair (.int .i64) (.pair (.int .i64) (.int .i64))))))), false, false, false⟩, ⟨(.pair (.int .i64) (.pair (.int .i64) (.pair (.int .i64) (.pair (.int .i64) (.int .i64))))), true, false, false⟩], rs := [⟨(.slice (.slice (.pair (.int .i64) (.pair (.int .i64) (.pair (.int .i64) (.pair (.int .i64) (.int .i64))))))), false, true, false⟩, ⟨(.int .i64), false, true, false⟩], os := [], bk := [], F := fun x => Fbelt_Add x.1 x.2 }
noncomputable def cFbelt_Add : Cx := { nm := [(3, (1, 1)), (6, (2, 1)), (30, (3, 1)), (38, (4, 1)), (40, (5, 1)), (41, (6, 1))], keep := [41], fns := tabF [(15, iFbelt_Youngest), (33, iFclone_Belts), (34, iFbelt_in)], loops := [], joins := [], tb := tabs, exts := [], lets := [] }
theorem eFbelt_Add : (fun x : HT iFbelt_Add.ps => iFbelt_Add.F x) = fun x => rk Try.prog cFbelt_Add (Try.f13.body.getD .skip) (HT (iFbelt_Add.rs ++ iFbelt_Add.os)) 1000000 (finK Try.prog [.tmp 4, .tmp 5] [] iFbelt_Add.os (iFbelt_Add.rs ++ iFbelt_Add.os)) (initF iFbelt_Add.ps iFbelt_Add.sh x 44) (initL iFbelt_Add.ps x 6) := by kernel_rfl
theorem okFbelt_Add : CallsV Try.prog tabs 13 iFbelt_Add :=
  callsV_of_rk (cx := cFbelt_Add) (fn := Try.f13) (c := Try.f13.body.getD .skip) (n := 44) (N := 6) (rvs := [.tmp 4, .tmp 5]) (cxOk (.cons okFbelt_Youngest (.cons okFclone_Belts (.cons okFbelt_in TabOk.nil))) XtOk.nil) Try.func13 rfl (by kernel_rfl) rfl rfl (fun x => Nat.le_of_ble_eq_true rfl) (by decide) (fun x => congrFun eFbelt_Add x)
noncomputable def Fbelt_Open (a0 : (Int × (List (BitVec 64)) × (List (Int × Int × Int)))) (a1 : (Int × Int × Int × Int × Int)) (a2 : Int) : Option Bool :=
if a2 = 0 then
some (true)
else Option.bind (Fframe_Size a0) (fun r1 =>
some (decide (a1.2.2.2.2 < (w64 (a2 * r1)))))
@[reducible] noncomputable def iFbelt_Open : FnI := { ps := [⟨(.pair (.int .i64) (.pair (.slice .u64) (.slice (.pair (.int .i64) (.pair (.int .i64) (.int .i64)))))), true, false, false⟩, ⟨(.pair (.int .i64) (.pair (.int .i64) (.pair (.int .i64) (.pair (.int .i64) (.int .i64))))), true, false, false⟩, ⟨(.int .i64), false, false, false⟩], rs := [⟨.bool, false, true, false⟩], os := [], bk := [], F := fun x => Fbelt_Open x.1 x.2.1 x.2.2 }
noncomputable def cFbelt_Open : Cx := { nm := [(3, (2, 1)), (4, (3, 1))], keep := [], fns := tabF [(44, iFframe_Size)], loops := [], joins := [], tb := tabs, exts := [], lets := [] }
theorem eFbelt_Open : (fun x : HT iFbelt_Open.ps => iFbelt_Open.F x) = fun x => rk Try.prog cFbelt_Open (Try.f29.body.getD .skip) (HT (iFbelt_Open.rs ++ iFbelt_Open.os)) 1000000 (finK Try.prog [.tmp 6] [] iFbelt_Open.os (iFbelt_Open.rs ++ iFbelt_Open.os)) (initF iFbelt_Open.ps iFbelt_Open.sh x 18) (initL iFbelt_Open.ps x 2) := by kernel_rfl
theorem okFbelt_Open : CallsV Try.prog tabs 29 iFbelt_Open :=
  callsV_of_rk (cx := cFbelt_Open) (fn := Try.f29) (c := Try.f29.body.getD .skip) (n := 18) (N := 2) (rvs := [.tmp 6]) (cxOk (.cons okFframe_Size TabOk.nil) XtOk.nil) Try.func29 rfl (by kernel_rfl) rfl rfl (fun x => Nat.le_of_ble_eq_true rfl) (by decide) (fun x => congrFun eFbelt_Open x)
noncomputable def Fbeltwaylaw11_awake  : Option Bool :=
Option.bind (Fbelt_Add ([[], []] : List (List (Int × Int × Int × Int × Int))) (3, 1, 0, 0, 2)) (fun r1 =>
Option.bind (Fbelt_Youngest r1.1 1) (fun r2 =>
Option.bind (Fbelt_Open (3, [], []) (0, 0, 0, 0, 16) 2) (fun r3 =>
if (!r3) = true then
Option.bind (Fbelt_Open (3, [], []) (0, 0, 0, 0, 15) 2) (fun r4 =>
if r4 = true then
if r1.2 = 0 then
if r2.2 = true then
if r2.1.1 = 3 then
Option.bind (Fbelt_Words r1.1) (fun r5 =>
some (decide (r5 = 2)))
else some (false)
else some (false)
else some (false)
else some (false))
else some (false))))
@[reducible] noncomputable def iFbeltwaylaw11_awake : FnI := { ps := [], rs := [⟨.bool, false, true, false⟩], os := [], bk := [], F := fun x => Fbeltwaylaw11_awake  }
noncomputable def cFbeltwaylaw11_awake : Cx := { nm := [(1, (0, 1)), (4, (3, 1)), (8, (1, 1)), (10, (2, 1))], keep := [], fns := tabF [(13, iFbelt_Add), (15, iFbelt_Youngest), (25, iFbelt_Words), (29, iFbelt_Open)], loops := [], joins := [], tb := tabs, exts := [], lets := [], frzs := [14] }
theorem eFbeltwaylaw11_awake : (fun x : HT iFbeltwaylaw11_awake.ps => iFbeltwaylaw11_awake.F x) = fun x => rk Try.prog cFbeltwaylaw11_awake (Try.f7.body.getD .skip) (HT (iFbeltwaylaw11_awake.rs ++ iFbeltwaylaw11_awake.os)) 1000000 (finK Try.prog [.tmp 0] [] iFbeltwaylaw11_awake.os (iFbeltwaylaw11_awake.rs ++ iFbeltwaylaw11_awake.os)) (initF iFbeltwaylaw11_awake.ps iFbeltwaylaw11_awake.sh x 44) (initL iFbeltwaylaw11_awake.ps x 4) := by kernel_rfl
theorem okFbeltwaylaw11_awake : CallsV Try.prog tabs 7 iFbeltwaylaw11_awake :=
  callsV_of_rk (cx := cFbeltwaylaw11_awake) (fn := Try.f7) (c := Try.f7.body.getD .skip) (n := 44) (N := 4) (rvs := [.tmp 0]) (cxOk (.cons okFbelt_Add (.cons okFbelt_Youngest (.cons okFbelt_Words (.cons okFbelt_Open TabOk.nil)))) XtOk.nil) Try.func7 rfl (by kernel_rfl) rfl rfl (fun x => Nat.le_of_ble_eq_true rfl) (by decide) (fun x => congrFun eFbeltwaylaw11_awake x)
noncomputable def Fbeltwaylaw11_BeltFrames (a0 : (List Int)) : Option Bool :=
Option.bind (Fbeltwaymake_New a0) (fun r1 =>
Option.bind (Fbeltwaymake_Space r1) (fun r2 =>
Option.bind (Fbeltwaymake_Queue r2.2.1 3) (fun r3 =>
if True then
Option.bind (Fbeltwayref04_Used r2.1) (fun r4 =>
Option.bind (Fbelt_Words r3) (fun r5 =>
Option.bind (Fbelt_Valid r2.1 r3) (fun r6 =>
if r6 = true then
if r5 ≤ (w64 (r4 * (w64 ((1 : Int) * 2 ^ min (BitVec.ofInt 64 r2.1.1).toNat 64)))) then
if r5 ≥ (w64 ((w64 ((w64 (r4 - (r2.2.1.length : Int))) * (w64 ((1 : Int) * 2 ^ min (BitVec.ofInt 64 r2.1.1).toNat 64)))) + (r2.2.1.length : Int))) then
Option.bind (Fbelt_Largest r2.1 r3) (fun r7 =>
if r7 ≤ r4 then
Option.bind (Fbeltwaylaw11_awake) (fun r8 =>
some (r8))
else some (false))
else some (false)
else some (false)
else some (false))))
else none)))
@[reducible] noncomputable def iFbeltwaylaw11_BeltFrames : FnI := { ps := [⟨(.slice (.int .i64)), false, false, false⟩], rs := [⟨.bool, false, true, false⟩], os := [], bk := [], F := fun x => Fbeltwaylaw11_BeltFrames x }
noncomputable def cFbeltwaylaw11_BeltFrames : Cx := { nm := [(3, (7, 1)), (11, (1, 2)), (12, (3, 4)), (16, (8, 1))], keep := [], fns := tabF [(7, iFbeltwaylaw11_awake), (8, iFbeltwaymake_New), (18, iFbeltwaymake_Space), (19, iFbeltwaymake_Queue), (23, iFbelt_Valid), (25, iFbelt_Words), (27, iFbelt_Largest), (31, iFbeltwayref04_Used)], loops := [], joins := [], tb := tabs, exts := [], lets := [], frzs := [23] }
theorem eFbeltwaylaw11_BeltFrames : (fun x : HT iFbeltwaylaw11_BeltFrames.ps => iFbeltwaylaw11_BeltFrames.F x) = fun x => rk Try.prog cFbeltwaylaw11_BeltFrames (Try.f5.body.getD .skip) (HT (iFbeltwaylaw11_BeltFrames.rs ++ iFbeltwaylaw11_BeltFrames.os)) 1000000 (finK Try.prog [.tmp 2] [] iFbeltwaylaw11_BeltFrames.os (iFbeltwaylaw11_BeltFrames.rs ++ iFbeltwaylaw11_BeltFrames.os)) (initF iFbeltwaylaw11_BeltFrames.ps iFbeltwaylaw11_BeltFrames.sh x 58) (initL iFbeltwaylaw11_BeltFrames.ps x 8) := by kernel_rfl
theorem okFbeltwaylaw11_BeltFrames : CallsV Try.prog tabs 5 iFbeltwaylaw11_BeltFrames :=
  callsV_of_rk (cx := cFbeltwaylaw11_BeltFrames) (fn := Try.f5) (c := Try.f5.body.getD .skip) (n := 58) (N := 8) (rvs := [.tmp 2]) (cxOk (.cons okFbeltwaylaw11_awake (.cons okFbeltwaymake_New (.cons okFbeltwaymake_Space (.cons okFbeltwaymake_Queue (.cons okFbelt_Valid (.cons okFbelt_Words (.cons okFbelt_Largest (.cons okFbeltwayref04_Used TabOk.nil)))))))) XtOk.nil) Try.func5 rfl (by kernel_rfl) rfl rfl (fun x => Nat.le_of_ble_eq_true rfl) (by decide) (fun x => congrFun eFbeltwaylaw11_BeltFrames x)
noncomputable def Fbeltwaymake_Slight (a0 : (List (List (Int × Int × Int × Int × Int)))) : Option Bool :=
loopO (σ := (Int × Int)) (β := Bool) (fun s1 =>
if s1.2 < (a0.length : Int) then
if 0 ≤ s1.2 ∧ s1.2 < (a0.length : Int) then
some (Sum.inl ((w64 (s1.1 + ((gl ([] : (List (Int × Int × Int × Int × Int))) a0 s1.2.toNat).length : Int)), w64 (s1.2 + 1))))
else none
else Option.map Sum.inr (if (a0.length : Int) ≤ 8 then
some (decide (s1.1 ≤ 40))
else some (false))) ((0, 0))
@[reducible] noncomputable def iFbeltwaymake_Slight : FnI := { ps := [⟨(.slice (.slice (.pair (.int .i64) (.pair (.int .i64) (.pair (.int .i64) (.pair (.int .i64) (.int .i64))))))), false, false, false⟩], rs := [⟨.bool, false, true, false⟩], os := [], bk := [], F := fun x => Fbeltwaymake_Slight x }
noncomputable def cFbeltwaymake_Slight : Cx := { nm := [(11, (1, 1))], keep := [], fns := tabF [], loops := [(0, { live := [(3, ⟨(.int .i64), false, false, false⟩), (8, ⟨(.int .i64), false, false, false⟩)], boxes := [], rows := [], dead := [5, 9, 10, 11, 12, 13, 14, 15, 16], lost := [], base := 1 })], joins := [], tb := tabs, exts := [], lets := [] }
theorem eFbeltwaymake_Slight : (fun x : HT iFbeltwaymake_Slight.ps => iFbeltwaymake_Slight.F x) = fun x => rk Try.prog cFbeltwaymake_Slight (Try.f17.body.getD .skip) (HT (iFbeltwaymake_Slight.rs ++ iFbeltwaymake_Slight.os)) 1000000 (finK Try.prog [.tmp 2] [] iFbeltwaymake_Slight.os (iFbeltwaymake_Slight.rs ++ iFbeltwaymake_Slight.os)) (initF iFbeltwaymake_Slight.ps iFbeltwaymake_Slight.sh x 24) (initL iFbeltwaymake_Slight.ps x 1) := by kernel_rfl
theorem okFbeltwaymake_Slight : CallsV Try.prog tabs 17 iFbeltwaymake_Slight :=
  callsV_of_rk (cx := cFbeltwaymake_Slight) (fn := Try.f17) (c := Try.f17.body.getD .skip) (n := 24) (N := 1) (rvs := [.tmp 2]) (cxOk TabOk.nil XtOk.nil) Try.func17 rfl (by kernel_rfl) rfl rfl (fun x => Nat.le_of_ble_eq_true rfl) (by decide) (fun x => congrFun eFbeltwaymake_Slight x)
noncomputable def Fbeltwayref11_Copy (a0 : (List (List (Int × Int × Int × Int × Int)))) : Option (List (List (Int × Int × Int × Int × Int))) :=
loopO (σ := ((List (List (Int × Int × Int × Int × Int))) × Int)) (β := (List (List (Int × Int × Int × Int × Int)))) (fun s1 =>
if s1.2 < (a0.length : Int) then
if 0 ≤ s1.2 ∧ s1.2 < (a0.length : Int) then
if (([] : List (Int × Int × Int × Int × Int)).length + (gl ([] : (List (Int × Int × Int × Int × Int))) a0 s1.2.toNat).length) * 40 ≤ 140737488355328 then
if (s1.1.length + ([([] : List (Int × Int × Int × Int × Int)) ++ (gl ([] : (List (Int × Int × Int × Int × Int))) a0 s1.2.toNat)] : List (List (Int × Int × Int × Int × Int))).length) * 24 ≤ 140737488355328 then
some (Sum.inl ((s1.1 ++ ([([] : List (Int × Int × Int × Int × Int)) ++ (gl ([] : (List (Int × Int × Int × Int × Int))) a0 s1.2.toNat)] : List (List (Int × Int × Int × Int × Int))), w64 (s1.2 + 1))))
else none
else none
else none
else some (Sum.inr (s1.1))) (([], 0))
@[reducible] noncomputable def iFbeltwayref11_Copy : FnI := { ps := [⟨(.slice (.slice (.pair (.int .i64) (.pair (.int .i64) (.pair (.int .i64) (.pair (.int .i64) (.int .i64))))))), false, false, false⟩], rs := [⟨(.slice (.slice (.pair (.int .i64) (.pair (.int .i64) (.pair (.int .i64) (.pair (.int .i64) (.int .i64))))))), false, true, false⟩], os := [], bk := [], F := fun x => Fbeltwayref11_Copy x }
noncomputable def cFbeltwayref11_Copy : Cx := { nm := [(11, (2, 1)), (14, (3, 1)), (15, (4, 1)), (16, (5, 1))], keep := [14, 15, 16], fns := tabF [], loops := [(0, { live := [(3, ⟨(.slice (.slice (.pair (.int .i64) (.pair (.int .i64) (.pair (.int .i64) (.pair (.int .i64) (.int .i64))))))), false, true, false⟩), (8, ⟨(.int .i64), false, false, false⟩)], boxes := [], rows := [], dead := [5, 9, 10, 11, 12, 13, 14, 15, 16, 17], lost := [], base := 1 })], joins := [], tb := tabs, exts := [], lets := [] }
theorem eFbeltwayref11_Copy : (fun x : HT iFbeltwayref11_Copy.ps => iFbeltwayref11_Copy.F x) = fun x => rk Try.prog cFbeltwayref11_Copy (Try.f22.body.getD .skip) (HT (iFbeltwayref11_Copy.rs ++ iFbeltwayref11_Copy.os)) 1000000 (finK Try.prog [.tmp 2] [] iFbeltwayref11_Copy.os (iFbeltwayref11_Copy.rs ++ iFbeltwayref11_Copy.os)) (initF iFbeltwayref11_Copy.ps iFbeltwayref11_Copy.sh x 19) (initL iFbeltwayref11_Copy.ps x 5) := by kernel_rfl
theorem okFbeltwayref11_Copy : CallsV Try.prog tabs 22 iFbeltwayref11_Copy :=
  callsV_of_rk (cx := cFbeltwayref11_Copy) (fn := Try.f22) (c := Try.f22.body.getD .skip) (n := 19) (N := 5) (rvs := [.tmp 2]) (cxOk TabOk.nil XtOk.nil) Try.func22 rfl (by kernel_rfl) rfl rfl (fun x => Nat.le_of_ble_eq_true rfl) (by decide) (fun x => congrFun eFbeltwayref11_Copy x)
noncomputable def Fbeltwayref11_Remove (a0 : (List (List (Int × Int × Int × Int × Int)))) (a1 : Int) : Option ((List (List (Int × Int × Int × Int × Int))) × Int) :=
Option.bind (Fbeltwayref11_Copy a0) (fun r1 =>
loopO (σ := (Int × (List (List (Int × Int × Int × Int × Int))))) (β := ((List (List (Int × Int × Int × Int × Int))) × Int)) (fun s1 =>
if s1.1 < (r1.length : Int) then
if 0 ≤ s1.1 ∧ s1.1 < (s1.2.length : Int) then
loopO (σ := Int) (β := ((Int × (List (List (Int × Int × Int × Int × Int)))) ⊕ ((List (List (Int × Int × Int × Int × Int))) × Int))) (fun s2 =>
if s2 < ((s1.2.getD s1.1.toNat []).length : Int) then
if 0 ≤ s2 ∧ s2 < ((s1.2.getD s1.1.toNat []).length : Int) then
if ((gl ((0, 0, 0, 0, 0) : (Int × Int × Int × Int × Int)) (s1.2.getD s1.1.toNat []) s2.toNat).1) = a1 then
if Bd none (some s2) s2.toNat ((s1.2.getD s1.1.toNat []).length) then
if Bd (some (w64 (s2 + 1))) none ((s1.2.getD s1.1.toNat []).length) ((s1.2.getD s1.1.toNat []).length) then
if ((subl (s1.2.getD s1.1.toNat []) 0 (s2.toNat - 0)).length + (subl (s1.2.getD s1.1.toNat []) ((w64 (s2 + 1)).toNat) (((s1.2.getD s1.1.toNat []).length) - ((w64 (s2 + 1)).toNat))).length) * 40 ≤ 140737488355328 then
if 0 ≤ s1.1 ∧ s1.1 < (s1.2.length : Int) then
if s1.1.toNat = s1.1.toNat then
some (Sum.inr (Sum.inr ((s1.2.set s1.1.toNat ((subl (s1.2.getD s1.1.toNat []) 0 (s2.toNat - 0)) ++ (subl (s1.2.getD s1.1.toNat []) ((w64 (s2 + 1)).toNat) (((s1.2.getD s1.1.toNat []).length) - ((w64 (s2 + 1)).toNat)))), 0))))
else none
else none
else none
else none
else none
else some (Sum.inl (w64 (s2 + 1)))
else none
else some (Sum.inr (Sum.inl ((w64 (s1.1 + 1), s1.2.set s1.1.toNat (s1.2.getD s1.1.toNat [])))))) (0)
else none
else some (Sum.inr (([], 5)))) ((0, r1)))
@[reducible] noncomputable def iFbeltwayref11_Remove : FnI := { ps := [⟨(.slice (.slice (.pair (.int .i64) (.pair (.int .i64) (.pair (.int .i64) (.pair (.int .i64) (.int .i64))))))), false, false, false⟩, ⟨(.int .i64), false, false, false⟩], rs := [⟨(.slice (.slice (.pair (.int .i64) (.pair (.int .i64) (.pair (.int .i64) (.pair (.int .i64) (.int .i64))))))), false, true, false⟩, ⟨(.int .i64), false, true, false⟩], os := [], bk := [], F := fun x => Fbeltwayref11_Remove x.1 x.2 }
noncomputable def cFbeltwayref11_Remove : Cx := { nm := [(10, (3, 1)), (12, (1, 1)), (19, (2, 1)), (40, (4, 1))], keep := [40], fns := tabF [(22, iFbeltwayref11_Copy)], loops := [(0, { live := [(15, ⟨(.int .i64), false, false, false⟩)], boxes := [], rows := [(1, (.slice (.pair (.int .i64) (.pair (.int .i64) (.pair (.int .i64) (.pair (.int .i64) (.int .i64)))))))], dead := [4, 5, 7, 8, 9, 10, 16, 17, 18, 19, 20, 21, 22, 23, 24, 25, 26, 27, 28, 29, 30, 31, 32, 33, 34, 35, 36, 37, 38, 39, 40, 41, 42, 43, 44], lost := [], base := 2 }), (2, { live := [(22, ⟨(.int .i64), false, false, false⟩)], boxes := [], rows := [], dead := [4, 5, 9, 10, 23, 24, 25, 26, 27, 28, 29, 30, 31, 32, 33, 34, 35, 36, 37, 38, 39, 40, 41, 42, 43], lost := [], base := 3 })], joins := [], tb := tabs, exts := [], lets := [] }
theorem eFbeltwayref11_Remove : (fun x : HT iFbeltwayref11_Remove.ps => iFbeltwayref11_Remove.F x) = fun x => rk Try.prog cFbeltwayref11_Remove (Try.f20.body.getD .skip) (HT (iFbeltwayref11_Remove.rs ++ iFbeltwayref11_Remove.os)) 1000000 (finK Try.prog [.tmp 4, .tmp 5] [] iFbeltwayref11_Remove.os (iFbeltwayref11_Remove.rs ++ iFbeltwayref11_Remove.os)) (initF iFbeltwayref11_Remove.ps iFbeltwayref11_Remove.sh x 45) (initL iFbeltwayref11_Remove.ps x 4) := by kernel_rfl
theorem okFbeltwayref11_Remove : CallsV Try.prog tabs 20 iFbeltwayref11_Remove :=
  callsV_of_rk (cx := cFbeltwayref11_Remove) (fn := Try.f20) (c := Try.f20.body.getD .skip) (n := 45) (N := 4) (rvs := [.tmp 4, .tmp 5]) (cxOk (.cons okFbeltwayref11_Copy TabOk.nil) XtOk.nil) Try.func20 rfl (by kernel_rfl) rfl rfl (fun x => Nat.le_of_ble_eq_true rfl) (by decide) (fun x => congrFun eFbeltwayref11_Remove x)
noncomputable def Fbeltwayref11_Sound (a0 : (Int × (List (BitVec 64)) × (List (Int × Int × Int)))) (a1 : (List (List (Int × Int × Int × Int × Int)))) : Option Bool :=
if (a1.length : Int) < 1 then
some (false)
else if (a1.length : Int) > 4 then
some (false)
else loopO (σ := (Int × (List Int) × Int)) (β := Bool) (fun s1 =>
if s1.2.2 < (a1.length : Int) then
if 0 ≤ s1.2.2 ∧ s1.2.2 < (a1.length : Int) then
loopO (σ := (Int × (List Int) × Int)) (β := ((Int × (List Int) × Int) ⊕ Bool)) (fun s2 =>
if s2.2.2 < ((gl ([] : (List (Int × Int × Int × Int × Int))) a1 s1.2.2.toNat).length : Int) then
if 0 ≤ s2.2.2 ∧ s2.2.2 < ((gl ([] : (List (Int × Int × Int × Int × Int))) a1 s1.2.2.toNat).length : Int) then
if ¬ (((gl ((0, 0, 0, 0, 0) : (Int × Int × Int × Int × Int)) (gl ([] : (List (Int × Int × Int × Int × Int))) a1 s1.2.2.toNat) s2.2.2.toNat).2).1) = s1.2.2 then
some (Sum.inr (Sum.inr (false)))
else if (((((gl ((0, 0, 0, 0, 0) : (Int × Int × Int × Int × Int)) (gl ([] : (List (Int × Int × Int × Int × Int))) a1 s1.2.2.toNat) s2.2.2.toNat).2).2).2).2) < 1 then
some (Sum.inr (Sum.inr (false)))
else Option.bind (Fbeltwayref09_Fits a0 ((gl ((0, 0, 0, 0, 0) : (Int × Int × Int × Int × Int)) (gl ([] : (List (Int × Int × Int × Int × Int))) a1 s1.2.2.toNat) s2.2.2.toNat).1, ((gl ((0, 0, 0, 0, 0) : (Int × Int × Int × Int × Int)) (gl ([] : (List (Int × Int × Int × Int × Int))) a1 s1.2.2.toNat) s2.2.2.toNat).2).1, (((gl ((0, 0, 0, 0, 0) : (Int × Int × Int × Int × Int)) (gl ([] : (List (Int × Int × Int × Int × Int))) a1 s1.2.2.toNat) s2.2.2.toNat).2).2).1, ((((gl ((0, 0, 0, 0, 0) : (Int × Int × Int × Int × Int)) (gl ([] : (List (Int × Int × Int × Int × Int))) a1 s1.2.2.toNat) s2.2.2.toNat).2).2).2))) (fun r1 =>
if (!r1) = true then
some (Sum.inr (Sum.inr (false)))
else if s2.2.2 > 0 then
if 0 ≤ (w64 (s2.2.2 - 1)) ∧ (w64 (s2.2.2 - 1)) < ((gl ([] : (List (Int × Int × Int × Int × Int))) a1 s1.2.2.toNat).length : Int) then
if ((gl ((0, 0, 0, 0, 0) : (Int × Int × Int × Int × Int)) (gl ([] : (List (Int × Int × Int × Int × Int))) a1 s1.2.2.toNat) ((w64 (s2.2.2 - 1)).toNat)).1) ≥ ((gl ((0, 0, 0, 0, 0) : (Int × Int × Int × Int × Int)) (gl ([] : (List (Int × Int × Int × Int × Int))) a1 s1.2.2.toNat) s2.2.2.toNat).1) then
some (Sum.inr (Sum.inr (false)))
else loopO (σ := Int) (β := ((Int × (List Int) × Int) ⊕ ((Int × (List Int) × Int) ⊕ Bool))) (fun s3 =>
if s3 < (s2.2.1.length : Int) then
if 0 ≤ s3 ∧ s3 < (s2.2.1.length : Int) then
if (gl (0 : Int) s2.2.1 s3.toNat) = ((gl ((0, 0, 0, 0, 0) : (Int × Int × Int × Int × Int)) (gl ([] : (List (Int × Int × Int × Int × Int))) a1 s1.2.2.toNat) s2.2.2.toNat).1) then
some (Sum.inr (Sum.inr (Sum.inr (false))))
else some (Sum.inl (w64 (s3 + 1)))
else none
else Option.map Sum.inr (if (s2.2.1.length + ([(gl ((0, 0, 0, 0, 0) : (Int × Int × Int × Int × Int)) (gl ([] : (List (Int × Int × Int × Int × Int))) a1 s1.2.2.toNat) s2.2.2.toNat).1] : List Int).length) * 8 ≤ 140737488355328 then
Option.bind (Fbeltwayref09_Frames a0 ((gl ((0, 0, 0, 0, 0) : (Int × Int × Int × Int × Int)) (gl ([] : (List (Int × Int × Int × Int × Int))) a1 s1.2.2.toNat) s2.2.2.toNat).1, ((gl ((0, 0, 0, 0, 0) : (Int × Int × Int × Int × Int)) (gl ([] : (List (Int × Int × Int × Int × Int))) a1 s1.2.2.toNat) s2.2.2.toNat).2).1, (((gl ((0, 0, 0, 0, 0) : (Int × Int × Int × Int × Int)) (gl ([] : (List (Int × Int × Int × Int × Int))) a1 s1.2.2.toNat) s2.2.2.toNat).2).2).1, ((((gl ((0, 0, 0, 0, 0) : (Int × Int × Int × Int × Int)) (gl ([] : (List (Int × Int × Int × Int × Int))) a1 s1.2.2.toNat) s2.2.2.toNat).2).2).2))) (fun r2 =>
some (Sum.inl ((w64 (s2.1 + r2), s2.2.1 ++ ([(gl ((0, 0, 0, 0, 0) : (Int × Int × Int × Int × Int)) (gl ([] : (List (Int × Int × Int × Int × Int))) a1 s1.2.2.toNat) s2.2.2.toNat).1] : List Int), w64 (s2.2.2 + 1)))))
else none)) (0)
else none
else loopO (σ := Int) (β := ((Int × (List Int) × Int) ⊕ ((Int × (List Int) × Int) ⊕ Bool))) (fun s4 =>
if s4 < (s2.2.1.length : Int) then
if 0 ≤ s4 ∧ s4 < (s2.2.1.length : Int) then
if (gl (0 : Int) s2.2.1 s4.toNat) = ((gl ((0, 0, 0, 0, 0) : (Int × Int × Int × Int × Int)) (gl ([] : (List (Int × Int × Int × Int × Int))) a1 s1.2.2.toNat) s2.2.2.toNat).1) then
some (Sum.inr (Sum.inr (Sum.inr (false))))
else some (Sum.inl (w64 (s4 + 1)))
else none
else Option.map Sum.inr (if (s2.2.1.length + ([(gl ((0, 0, 0, 0, 0) : (Int × Int × Int × Int × Int)) (gl ([] : (List (Int × Int × Int × Int × Int))) a1 s1.2.2.toNat) s2.2.2.toNat).1] : List Int).length) * 8 ≤ 140737488355328 then
Option.bind (Fbeltwayref09_Frames a0 ((gl ((0, 0, 0, 0, 0) : (Int × Int × Int × Int × Int)) (gl ([] : (List (Int × Int × Int × Int × Int))) a1 s1.2.2.toNat) s2.2.2.toNat).1, ((gl ((0, 0, 0, 0, 0) : (Int × Int × Int × Int × Int)) (gl ([] : (List (Int × Int × Int × Int × Int))) a1 s1.2.2.toNat) s2.2.2.toNat).2).1, (((gl ((0, 0, 0, 0, 0) : (Int × Int × Int × Int × Int)) (gl ([] : (List (Int × Int × Int × Int × Int))) a1 s1.2.2.toNat) s2.2.2.toNat).2).2).1, ((((gl ((0, 0, 0, 0, 0) : (Int × Int × Int × Int × Int)) (gl ([] : (List (Int × Int × Int × Int × Int))) a1 s1.2.2.toNat) s2.2.2.toNat).2).2).2))) (fun r3 =>
some (Sum.inl ((w64 (s2.1 + r3), s2.2.1 ++ ([(gl ((0, 0, 0, 0, 0) : (Int × Int × Int × Int × Int)) (gl ([] : (List (Int × Int × Int × Int × Int))) a1 s1.2.2.toNat) s2.2.2.toNat).1] : List Int), w64 (s2.2.2 + 1)))))
else none)) (0))
else none
else some (Sum.inr (Sum.inl ((s2.1, s2.2.1, w64 (s1.2.2 + 1)))))) ((s1.1, s1.2.1, 0))
else none
else Option.map Sum.inr (loopO (σ := (Int × Int)) (β := Bool) (fun s5 =>
if s5.2 < (a0.2.2.length : Int) then
if 0 ≤ s5.2 ∧ s5.2 < (a0.2.2.length : Int) then
if ¬ ((gl ((0, 0, 0) : (Int × Int × Int)) a0.2.2 s5.2.toNat).1) = (-1) then
some (Sum.inl ((w64 (s5.1 + 1), w64 (s5.2 + 1))))
else some (Sum.inl ((s5.1, w64 (s5.2 + 1))))
else none
else some (Sum.inr (decide (s5.1 = s1.1)))) ((0, 0)))) ((0, [], 0))
@[reducible] noncomputable def iFbeltwayref11_Sound : FnI := { ps := [⟨(.pair (.int .i64) (.pair (.slice .u64) (.slice (.pair (.int .i64) (.pair (.int .i64) (.int .i64)))))), true, false, false⟩, ⟨(.slice (.slice (.pair (.int .i64) (.pair (.int .i64) (.pair (.int .i64) (.pair (.int .i64) (.int .i64))))))), false, false, false⟩], rs := [⟨.bool, false, true, false⟩], os := [], bk := [], F := fun x => Fbeltwayref11_Sound x.1 x.2 }
noncomputable def cFbeltwayref11_Sound : Cx := { nm := [(2, (3, 1)), (10, (7, 1)), (15, (10, 1)), (30, (5, 1)), (82, (8, 1)), (83, (9, 1))], keep := [83], fns := tabF [(43, iFbeltwayref09_Frames), (57, iFbeltwayref09_Fits)], loops := [(0, { live := [(5, ⟨(.int .i64), false, false, false⟩), (6, ⟨(.slice (.int .i64)), false, true, false⟩), (26, ⟨(.int .i64), false, false, false⟩)], boxes := [], rows := [], dead := [4, 7, 8, 9, 10, 12, 27, 28, 29, 30, 31, 32, 33, 34, 35, 36, 37, 38, 39, 40, 41, 42, 43, 44, 45, 46, 47, 48, 49, 50, 51, 52, 53, 54, 55, 56, 57, 58, 59, 60, 61, 62, 63, 64, 65, 66, 67, 68, 69, 70, 71, 72, 73, 74, 75, 76, 77, 78, 79, 80, 81, 82, 83, 84, 85, 86, 87, 88, 89, 90], lost := [], base := 4 }), (2, { live := [(5, ⟨(.int .i64), false, false, false⟩), (6, ⟨(.slice (.int .i64)), false, true, false⟩), (33, ⟨(.int .i64), false, false, false⟩)], boxes := [], rows := [], dead := [4, 9, 10, 12, 34, 35, 36, 37, 38, 39, 40, 41, 42, 43, 44, 45, 46, 47, 48, 49, 50, 51, 52, 53, 54, 55, 56, 57, 58, 59, 60, 61, 62, 63, 64, 65, 66, 67, 68, 69, 70, 71, 72, 73, 74, 75, 76, 77, 78, 79, 80, 81, 82, 83, 84, 85, 86, 87, 88, 89], lost := [4], base := 6 }), (4, { live := [(70, ⟨(.int .i64), false, false, false⟩)], boxes := [], rows := [], dead := [4, 12, 71, 72, 73, 74, 75, 76, 77, 78], lost := [], base := 8 }), (6, { live := [(13, ⟨(.int .i64), false, false, false⟩), (94, ⟨(.int .i64), false, false, false⟩)], boxes := [], rows := [], dead := [15, 95, 96, 97, 98, 99, 100, 101, 102, 103], lost := [], base := 10 })], joins := [], tb := tabs, exts := [], lets := [] }
theorem eFbeltwayref11_Sound : (fun x : HT iFbeltwayref11_Sound.ps => iFbeltwayref11_Sound.F x) = fun x => rk Try.prog cFbeltwayref11_Sound (Try.f41.body.getD .skip) (HT (iFbeltwayref11_Sound.rs ++ iFbeltwayref11_Sound.os)) 1000000 (finK Try.prog [.tmp 4] [] iFbeltwayref11_Sound.os (iFbeltwayref11_Sound.rs ++ iFbeltwayref11_Sound.os)) (initF iFbeltwayref11_Sound.ps iFbeltwayref11_Sound.sh x 107) (initL iFbeltwayref11_Sound.ps x 8) := by kernel_rfl
theorem okFbeltwayref11_Sound : CallsV Try.prog tabs 41 iFbeltwayref11_Sound :=
  callsV_of_rk (cx := cFbeltwayref11_Sound) (fn := Try.f41) (c := Try.f41.body.getD .skip) (n := 107) (N := 8) (rvs := [.tmp 4]) (cxOk (.cons okFbeltwayref09_Frames (.cons okFbeltwayref09_Fits TabOk.nil)) XtOk.nil) Try.func41 rfl (by kernel_rfl) rfl rfl (fun x => Nat.le_of_ble_eq_true rfl) (by decide) (fun x => congrFun eFbeltwayref11_Sound x)
noncomputable def Fbeltwayref11_Valid (a0 : (Int × (List (BitVec 64)) × (List (Int × Int × Int)))) (a1 : (List (List (Int × Int × Int × Int × Int)))) : Option Bool :=
Option.bind (Fbeltwayref03_Valid a0) (fun r1 =>
if r1 = true then
Option.bind (Fbeltwayref11_Sound a0 a1) (fun r2 =>
some (r2))
else some (false))
@[reducible] noncomputable def iFbeltwayref11_Valid : FnI := { ps := [⟨(.pair (.int .i64) (.pair (.slice .u64) (.slice (.pair (.int .i64) (.pair (.int .i64) (.int .i64)))))), true, false, false⟩, ⟨(.slice (.slice (.pair (.int .i64) (.pair (.int .i64) (.pair (.int .i64) (.pair (.int .i64) (.int .i64))))))), false, false, false⟩], rs := [⟨.bool, false, true, false⟩], os := [], bk := [], F := fun x => Fbeltwayref11_Valid x.1 x.2 }
noncomputable def cFbeltwayref11_Valid : Cx := { nm := [(2, (3, 1))], keep := [], fns := tabF [(40, iFbeltwayref03_Valid), (41, iFbeltwayref11_Sound)], loops := [], joins := [], tb := tabs, exts := [], lets := [] }
theorem eFbeltwayref11_Valid : (fun x : HT iFbeltwayref11_Valid.ps => iFbeltwayref11_Valid.F x) = fun x => rk Try.prog cFbeltwayref11_Valid (Try.f24.body.getD .skip) (HT (iFbeltwayref11_Valid.rs ++ iFbeltwayref11_Valid.os)) 1000000 (finK Try.prog [.tmp 4] [] iFbeltwayref11_Valid.os (iFbeltwayref11_Valid.rs ++ iFbeltwayref11_Valid.os)) (initF iFbeltwayref11_Valid.ps iFbeltwayref11_Valid.sh x 12) (initL iFbeltwayref11_Valid.ps x 1) := by kernel_rfl
theorem okFbeltwayref11_Valid : CallsV Try.prog tabs 24 iFbeltwayref11_Valid :=
  callsV_of_rk (cx := cFbeltwayref11_Valid) (fn := Try.f24) (c := Try.f24.body.getD .skip) (n := 12) (N := 1) (rvs := [.tmp 4]) (cxOk (.cons okFbeltwayref03_Valid (.cons okFbeltwayref11_Sound TabOk.nil)) XtOk.nil) Try.func24 rfl (by kernel_rfl) rfl rfl (fun x => Nat.le_of_ble_eq_true rfl) (by decide) (fun x => congrFun eFbeltwayref11_Valid x)
noncomputable def Fbeltwayref11_Words (a0 : (List (List (Int × Int × Int × Int × Int)))) : Option Int :=
loopO (σ := (Int × Int)) (β := Int) (fun s1 =>
if s1.2 < (a0.length : Int) then
if 0 ≤ s1.2 ∧ s1.2 < (a0.length : Int) then
loopO (σ := (Int × Int)) (β := ((Int × Int) ⊕ Int)) (fun s2 =>
if s2.2 < ((gl ([] : (List (Int × Int × Int × Int × Int))) a0 s1.2.toNat).length : Int) then
if 0 ≤ s2.2 ∧ s2.2 < ((gl ([] : (List (Int × Int × Int × Int × Int))) a0 s1.2.toNat).length : Int) then
some (Sum.inl ((w64 (s2.1 + (((((gl ((0, 0, 0, 0, 0) : (Int × Int × Int × Int × Int)) (gl ([] : (List (Int × Int × Int × Int × Int))) a0 s1.2.toNat) s2.2.toNat).2).2).2).2)), w64 (s2.2 + 1))))
else none
else some (Sum.inr (Sum.inl ((s2.1, w64 (s1.2 + 1)))))) ((s1.1, 0))
else none
else some (Sum.inr (s1.1))) ((0, 0))
@[reducible] noncomputable def iFbeltwayref11_Words : FnI := { ps := [⟨(.slice (.slice (.pair (.int .i64) (.pair (.int .i64) (.pair (.int .i64) (.pair (.int .i64) (.int .i64))))))), false, false, false⟩], rs := [⟨(.int .i64), false, true, false⟩], os := [], bk := [], F := fun x => Fbeltwayref11_Words x }
noncomputable def cFbeltwayref11_Words : Cx := { nm := [(7, (2, 1)), (13, (1, 1))], keep := [], fns := tabF [], loops := [(0, { live := [(3, ⟨(.int .i64), false, false, false⟩), (10, ⟨(.int .i64), false, false, false⟩)], boxes := [], rows := [], dead := [5, 7, 11, 12, 13, 14, 15, 16, 17, 18, 19, 20, 21, 22, 23, 24, 25], lost := [], base := 1 }), (2, { live := [(3, ⟨(.int .i64), false, false, false⟩), (16, ⟨(.int .i64), false, false, false⟩)], boxes := [], rows := [], dead := [7, 17, 18, 19, 20, 21, 22, 23, 24], lost := [], base := 2 })], joins := [], tb := tabs, exts := [], lets := [] }
theorem eFbeltwayref11_Words : (fun x : HT iFbeltwayref11_Words.ps => iFbeltwayref11_Words.F x) = fun x => rk Try.prog cFbeltwayref11_Words (Try.f26.body.getD .skip) (HT (iFbeltwayref11_Words.rs ++ iFbeltwayref11_Words.os)) 1000000 (finK Try.prog [.tmp 2] [] iFbeltwayref11_Words.os (iFbeltwayref11_Words.rs ++ iFbeltwayref11_Words.os)) (initF iFbeltwayref11_Words.ps iFbeltwayref11_Words.sh x 27) (initL iFbeltwayref11_Words.ps x 2) := by kernel_rfl
theorem okFbeltwayref11_Words : CallsV Try.prog tabs 26 iFbeltwayref11_Words :=
  callsV_of_rk (cx := cFbeltwayref11_Words) (fn := Try.f26) (c := Try.f26.body.getD .skip) (n := 27) (N := 2) (rvs := [.tmp 2]) (cxOk TabOk.nil XtOk.nil) Try.func26 rfl (by kernel_rfl) rfl rfl (fun x => Nat.le_of_ble_eq_true rfl) (by decide) (fun x => congrFun eFbeltwayref11_Words x)
noncomputable def Fbeltwayref11_Largest (a0 : (Int × (List (BitVec 64)) × (List (Int × Int × Int)))) (a1 : (List (List (Int × Int × Int × Int × Int)))) : Option Int :=
loopO (σ := (Int × Int)) (β := Int) (fun s1 =>
if s1.2 < (a1.length : Int) then
if 0 ≤ s1.2 ∧ s1.2 < (a1.length : Int) then
loopO (σ := (Int × Int)) (β := ((Int × Int) ⊕ Int)) (fun s2 =>
if s2.2 < ((gl ([] : (List (Int × Int × Int × Int × Int))) a1 s1.2.toNat).length : Int) then
if 0 ≤ s2.2 ∧ s2.2 < ((gl ([] : (List (Int × Int × Int × Int × Int))) a1 s1.2.toNat).length : Int) then
Option.bind (Fbeltwayref09_Frames a0 ((gl ((0, 0, 0, 0, 0) : (Int × Int × Int × Int × Int)) (gl ([] : (List (Int × Int × Int × Int × Int))) a1 s1.2.toNat) s2.2.toNat).1, ((gl ((0, 0, 0, 0, 0) : (Int × Int × Int × Int × Int)) (gl ([] : (List (Int × Int × Int × Int × Int))) a1 s1.2.toNat) s2.2.toNat).2).1, (((gl ((0, 0, 0, 0, 0) : (Int × Int × Int × Int × Int)) (gl ([] : (List (Int × Int × Int × Int × Int))) a1 s1.2.toNat) s2.2.toNat).2).2).1, ((((gl ((0, 0, 0, 0, 0) : (Int × Int × Int × Int × Int)) (gl ([] : (List (Int × Int × Int × Int × Int))) a1 s1.2.toNat) s2.2.toNat).2).2).2))) (fun r1 =>
some (Sum.inl ((if r1 > s2.1 then r1 else s2.1, w64 (s2.2 + 1)))))
else none
else some (Sum.inr (Sum.inl ((s2.1, w64 (s1.2 + 1)))))) ((s1.1, 0))
else none
else some (Sum.inr (s1.1))) ((0, 0))
@[reducible] noncomputable def iFbeltwayref11_Largest : FnI := { ps := [⟨(.pair (.int .i64) (.pair (.slice .u64) (.slice (.pair (.int .i64) (.pair (.int .i64) (.int .i64)))))), true, false, false⟩, ⟨(.slice (.slice (.pair (.int .i64) (.pair (.int .i64) (.pair (.int .i64) (.pair (.int .i64) (.int .i64))))))), false, false, false⟩], rs := [⟨(.int .i64), false, true, false⟩], os := [], bk := [], F := fun x => Fbeltwayref11_Largest x.1 x.2 }
noncomputable def cFbeltwayref11_Largest : Cx := { nm := [(2, (3, 1)), (9, (5, 1)), (15, (4, 1))], keep := [], fns := tabF [(43, iFbeltwayref09_Frames)], loops := [(0, { live := [(5, ⟨(.int .i64), false, false, false⟩), (12, ⟨(.int .i64), false, false, false⟩)], boxes := [], rows := [], dead := [7, 9, 13, 14, 15, 16, 17, 18, 19, 20, 21, 22, 23, 24, 25, 26, 27, 28], lost := [], base := 4 }), (2, { live := [(5, ⟨(.int .i64), false, false, false⟩), (18, ⟨(.int .i64), false, false, false⟩)], boxes := [], rows := [], dead := [9, 19, 20, 21, 22, 23, 24, 25, 26, 27], lost := [], base := 5 })], joins := [], tb := tabs, exts := [], lets := [] }
theorem eFbeltwayref11_Largest : (fun x : HT iFbeltwayref11_Largest.ps => iFbeltwayref11_Largest.F x) = fun x => rk Try.prog cFbeltwayref11_Largest (Try.f28.body.getD .skip) (HT (iFbeltwayref11_Largest.rs ++ iFbeltwayref11_Largest.os)) 1000000 (finK Try.prog [.tmp 4] [] iFbeltwayref11_Largest.os (iFbeltwayref11_Largest.rs ++ iFbeltwayref11_Largest.os)) (initF iFbeltwayref11_Largest.ps iFbeltwayref11_Largest.sh x 30) (initL iFbeltwayref11_Largest.ps x 3) := by kernel_rfl
theorem okFbeltwayref11_Largest : CallsV Try.prog tabs 28 iFbeltwayref11_Largest :=
  callsV_of_rk (cx := cFbeltwayref11_Largest) (fn := Try.f28) (c := Try.f28.body.getD .skip) (n := 30) (N := 3) (rvs := [.tmp 4]) (cxOk (.cons okFbeltwayref09_Frames TabOk.nil) XtOk.nil) Try.func28 rfl (by kernel_rfl) rfl rfl (fun x => Nat.le_of_ble_eq_true rfl) (by decide) (fun x => congrFun eFbeltwayref11_Largest x)
noncomputable def Fbeltwayref03_Size (a0 : (Int × (List (BitVec 64)) × (List (Int × Int × Int)))) : Option Int :=
Option.bind (Fbeltwayref03_shift a0.1) (fun r1 =>
if (!r1) = true then
some (0)
else if True then
some (w64 ((1 : Int) * 2 ^ min (BitVec.ofInt 64 a0.1).toNat 64))
else none)
@[reducible] noncomputable def iFbeltwayref03_Size : FnI := { ps := [⟨(.pair (.int .i64) (.pair (.slice .u64) (.slice (.pair (.int .i64) (.pair (.int .i64) (.int .i64)))))), true, false, false⟩], rs := [⟨(.int .i64), false, true, false⟩], os := [], bk := [], F := fun x => Fbeltwayref03_Size x }
noncomputable def cFbeltwayref03_Size : Cx := { nm := [(1, (2, 1))], keep := [], fns := tabF [(47, iFbeltwayref03_shift)], loops := [], joins := [], tb := tabs, exts := [], lets := [] }
theorem eFbeltwayref03_Size : (fun x : HT iFbeltwayref03_Size.ps => iFbeltwayref03_Size.F x) = fun x => rk Try.prog cFbeltwayref03_Size (Try.f45.body.getD .skip) (HT (iFbeltwayref03_Size.rs ++ iFbeltwayref03_Size.os)) 1000000 (finK Try.prog [.tmp 2] [] iFbeltwayref03_Size.os (iFbeltwayref03_Size.rs ++ iFbeltwayref03_Size.os)) (initF iFbeltwayref03_Size.ps iFbeltwayref03_Size.sh x 11) (initL iFbeltwayref03_Size.ps x 1) := by kernel_rfl
theorem okFbeltwayref03_Size : CallsV Try.prog tabs 45 iFbeltwayref03_Size :=
  callsV_of_rk (cx := cFbeltwayref03_Size) (fn := Try.f45) (c := Try.f45.body.getD .skip) (n := 11) (N := 1) (rvs := [.tmp 2]) (cxOk (.cons okFbeltwayref03_shift TabOk.nil) XtOk.nil) Try.func45 rfl (by kernel_rfl) rfl rfl (fun x => Nat.le_of_ble_eq_true rfl) (by decide) (fun x => congrFun eFbeltwayref03_Size x)
noncomputable def Fbeltwayref11_Open (a0 : (Int × (List (BitVec 64)) × (List (Int × Int × Int)))) (a1 : (Int × Int × Int × Int × Int)) (a2 : Int) : Option Bool :=
if a2 = 0 then
some (true)
else Option.bind (Fbeltwayref03_Size a0) (fun r1 =>
some (decide (a1.2.2.2.2 < (w64 (a2 * r1)))))
@[reducible] noncomputable def iFbeltwayref11_Open : FnI := { ps := [⟨(.pair (.int .i64) (.pair (.slice .u64) (.slice (.pair (.int .i64) (.pair (.int .i64) (.int .i64)))))), true, false, false⟩, ⟨(.pair (.int .i64) (.pair (.int .i64) (.pair (.int .i64) (.pair (.int .i64) (.int .i64))))), true, false, false⟩, ⟨(.int .i64), false, false, false⟩], rs := [⟨.bool, false, true, false⟩], os := [], bk := [], F := fun x => Fbeltwayref11_Open x.1 x.2.1 x.2.2 }
noncomputable def cFbeltwayref11_Open : Cx := { nm := [(3, (2, 1)), (4, (3, 1))], keep := [], fns := tabF [(45, iFbeltwayref03_Size)], loops := [], joins := [], tb := tabs, exts := [], lets := [] }
theorem eFbeltwayref11_Open : (fun x : HT iFbeltwayref11_Open.ps => iFbeltwayref11_Open.F x) = fun x => rk Try.prog cFbeltwayref11_Open (Try.f30.body.getD .skip) (HT (iFbeltwayref11_Open.rs ++ iFbeltwayref11_Open.os)) 1000000 (finK Try.prog [.tmp 6] [] iFbeltwayref11_Open.os (iFbeltwayref11_Open.rs ++ iFbeltwayref11_Open.os)) (initF iFbeltwayref11_Open.ps iFbeltwayref11_Open.sh x 18) (initL iFbeltwayref11_Open.ps x 2) := by kernel_rfl
theorem okFbeltwayref11_Open : CallsV Try.prog tabs 30 iFbeltwayref11_Open :=
  callsV_of_rk (cx := cFbeltwayref11_Open) (fn := Try.f30) (c := Try.f30.body.getD .skip) (n := 18) (N := 2) (rvs := [.tmp 6]) (cxOk (.cons okFbeltwayref03_Size TabOk.nil) XtOk.nil) Try.func30 rfl (by kernel_rfl) rfl rfl (fun x => Nat.le_of_ble_eq_true rfl) (by decide) (fun x => congrFun eFbeltwayref11_Open x)
noncomputable def Fbeltwaylaw11_BeltValid (a0 : (Int × (List (BitVec 64)) × (List (Int × Int × Int)))) (a1 : (List (List (Int × Int × Int × Int × Int)))) (a2 : (List Int)) (a3 : Int) (a4 : Int) (a5 : Int) : Option Bool :=
Option.bind (Fbeltwaymake_Small a0) (fun r1 =>
if (!r1) = true then
Option.bind (Fbeltwaylaw11_awake) (fun r2 =>
some (r2))
else Option.bind (Fbeltwaymake_Slight a1) (fun r3 =>
if (!r3) = true then
Option.bind (Fbeltwaylaw11_awake) (fun r4 =>
some (r4))
else Option.bind (Fbeltwaymake_New a2) (fun r5 =>
Option.bind (Fbeltwaymake_Space r5) (fun r6 =>
Option.bind (Fbeltwaymake_Queue r6.2.1 3) (fun r7 =>
Option.bind (α := (List (List (Int × Int × Int × Int × Int))) ⊕ Bool) (if (r6.2.1.length : Int) > 0 then
Option.bind (Fbeltwaymake_Mod a4 (r6.2.1.length : Int)) (fun r8 =>
if 0 ≤ r8 ∧ r8 < (r6.2.1.length : Int) then
Option.bind (Fbeltwayref11_Remove r7 ((gl ((0, 0, 0, 0, 0) : (Int × Int × Int × Int × Int)) r6.2.1 r8.toNat).1)) (fun r9 =>
some (Sum.inl (r9.1)))
else none)
else some (Sum.inl (r7))) (fun q => match q with
| Sum.inl j1 => (Option.bind (Fbeltwaymake_Spoilt r6.1 a3 a4 a5) (fun r10 =>
loopO (σ := Int) (β := Bool) (fun s1 =>
if s1 < (([r6.1, a0, r10] : List (Int × (List (BitVec 64)) × (List (Int × Int × Int)))).length : Int) then
if 0 ≤ s1 ∧ s1 < (([r6.1, a0, r10] : List (Int × (List (BitVec 64)) × (List (Int × Int × Int)))).length : Int) then
if (([[]] : List (List (Int × Int × Int × Int × Int))).length + r7.length) * 24 ≤ 140737488355328 then
Option.bind (Fbeltwayref11_Copy r7) (fun r11 =>
if (r11.length + ([[]] : List (List (Int × Int × Int × Int × Int))).length) * 24 ≤ 140737488355328 then
if Bd none (some (2 : Int)) ((2 : Int).toNat) r7.length then
loopO (σ := Int) (β := (Int ⊕ Bool)) (fun s2 =>
if s2 < (([r7, a1, j1, ([[]] : List (List (Int × Int × Int × Int × Int))) ++ r7, r11 ++ ([[]] : List (List (Int × Int × Int × Int × Int))), subl r7 0 (((2 : Int).toNat) - 0)] : List (List (List (Int × Int × Int × Int × Int)))).length : Int) then
if 0 ≤ s2 ∧ s2 < (([r7, a1, j1, ([[]] : List (List (Int × Int × Int × Int × Int))) ++ r7, r11 ++ ([[]] : List (List (Int × Int × Int × Int × Int))), subl r7 0 (((2 : Int).toNat) - 0)] : List (List (List (Int × Int × Int × Int × Int)))).length : Int) then
Option.bind (Fbelt_Valid ((gl ((0, [], []) : (Int × (List (BitVec 64)) × (List (Int × Int × Int)))) ([r6.1, a0, r10] : List (Int × (List (BitVec 64)) × (List (Int × Int × Int)))) s1.toNat).1, ((gl ((0, [], []) : (Int × (List (BitVec 64)) × (List (Int × Int × Int)))) ([r6.1, a0, r10] : List (Int × (List (BitVec 64)) × (List (Int × Int × Int)))) s1.toNat).2)) (gl ([] : (List (List (Int × Int × Int × Int × Int)))) ([r7, a1, j1, ([[]] : List (List (Int × Int × Int × Int × Int))) ++ r7, r11 ++ ([[]] : List (List (Int × Int × Int × Int × Int))), subl r7 0 (((2 : Int).toNat) - 0)] : List (List (List (Int × Int × Int × Int × Int)))) s2.toNat)) (fun r12 =>
Option.bind (Fbeltwayref11_Valid ((gl ((0, [], []) : (Int × (List (BitVec 64)) × (List (Int × Int × Int)))) ([r6.1, a0, r10] : List (Int × (List (BitVec 64)) × (List (Int × Int × Int)))) s1.toNat).1, ((gl ((0, [], []) : (Int × (List (BitVec 64)) × (List (Int × Int × Int)))) ([r6.1, a0, r10] : List (Int × (List (BitVec 64)) × (List (Int × Int × Int)))) s1.toNat).2)) (gl ([] : (List (List (Int × Int × Int × Int × Int)))) ([r7, a1, j1, ([[]] : List (List (Int × Int × Int × Int × Int))) ++ r7, r11 ++ ([[]] : List (List (Int × Int × Int × Int × Int))), subl r7 0 (((2 : Int).toNat) - 0)] : List (List (List (Int × Int × Int × Int × Int)))) s2.toNat)) (fun r13 =>
if ¬ r12 = r13 then
some (Sum.inr (Sum.inr (false)))
else some (Sum.inl (w64 (s2 + 1)))))
else none
else some (Sum.inr (Sum.inl (w64 (s1 + 1))))) (0)
else none
else none)
else none
else none
else Option.map Sum.inr (Option.bind (Fbelt_Words r7) (fun r14 =>
Option.bind (Fbeltwayref11_Words r7) (fun r15 =>
if ¬ r14 = r15 then
some (false)
else Option.bind (Fbelt_Largest r6.1 r7) (fun r16 =>
Option.bind (Fbeltwayref11_Largest r6.1 r7) (fun r17 =>
if ¬ r16 = r17 then
some (false)
else loopO (σ := Int) (β := Bool) (fun s3 =>
if s3 < (r6.2.1.length : Int) then
if 0 ≤ s3 ∧ s3 < (r6.2.1.length : Int) then
Option.bind (Fbeltwaymake_Mod a5 5) (fun r18 =>
Option.bind (Fbelt_Open r6.1 ((gl ((0, 0, 0, 0, 0) : (Int × Int × Int × Int × Int)) r6.2.1 s3.toNat).1, ((gl ((0, 0, 0, 0, 0) : (Int × Int × Int × Int × Int)) r6.2.1 s3.toNat).2).1, (((gl ((0, 0, 0, 0, 0) : (Int × Int × Int × Int × Int)) r6.2.1 s3.toNat).2).2).1, ((((gl ((0, 0, 0, 0, 0) : (Int × Int × Int × Int × Int)) r6.2.1 s3.toNat).2).2).2)) r18) (fun r19 =>
Option.bind (Fbeltwayref11_Open r6.1 ((gl ((0, 0, 0, 0, 0) : (Int × Int × Int × Int × Int)) r6.2.1 s3.toNat).1, ((gl ((0, 0, 0, 0, 0) : (Int × Int × Int × Int × Int)) r6.2.1 s3.toNat).2).1, (((gl ((0, 0, 0, 0, 0) : (Int × Int × Int × Int × Int)) r6.2.1 s3.toNat).2).2).1, ((((gl ((0, 0, 0, 0, 0) : (Int × Int × Int × Int × Int)) r6.2.1 s3.toNat).2).2).2)) r18) (fun r20 =>
if ¬ r19 = r20 then
some (Sum.inr (false))
else some (Sum.inl (w64 (s3 + 1))))))
else none
else Option.map Sum.inr (Option.bind (Fbeltwaylaw11_awake) (fun r21 =>
some (r21)))) (0))))))) (0)))
| Sum.inr b1 => some b1))))))
@[reducible] noncomputable def iFbeltwaylaw11_BeltValid : FnI := { ps := [⟨(.pair (.int .i64) (.pair (.slice .u64) (.slice (.pair (.int .i64) (.pair (.int .i64) (.int .i64)))))), true, false, false⟩, ⟨(.slice (.slice (.pair (.int .i64) (.pair (.int .i64) (.pair (.int .i64) (.pair (.int .i64) (.int .i64))))))), false, false, false⟩, ⟨(.slice (.int .i64)), false, false, false⟩, ⟨(.int .i64), false, false, false⟩, ⟨(.int .i64), false, false, false⟩, ⟨(.int .i64), false, false, false⟩], rs := [⟨.bool, false, true, false⟩], os := [], bk := [], F := fun x => Fbeltwaylaw11_BeltValid x.1 x.2.1 x.2.2.1 x.2.2.2.1 x.2.2.2.2.1 x.2.2.2.2.2 }
noncomputable def cFbeltwaylaw11_BeltValid : Cx := { nm := [(6, (4, 1)), (13, (11, 1)), (18, (20, 1)), (22, (29, 1)), (35, (5, 2)), (36, (7, 4)), (40, (12, 1)), (55, (13, 1)), (64, (15, 2)), (65, (17, 1)), (70, (18, 2)), (74, (21, 1)), (76, (22, 1)), (78, (23, 1)), (79, (24, 1)), (80, (25, 1)), (82, (26, 1)), (83, (27, 1)), (88, (28, 1))], keep := [74, 79], fns := tabF [(7, iFbeltwaylaw11_awake), (8, iFbeltwaymake_New), (9, iFbeltwaymake_Mod), (16, iFbeltwaymake_Small), (17, iFbeltwaymake_Slight), (18, iFbeltwaymake_Space), (19, iFbeltwaymake_Queue), (20, iFbeltwayref11_Remove), (21, iFbeltwaymake_Spoilt), (22, iFbeltwayref11_Copy), (23, iFbelt_Valid), (24, iFbeltwayref11_Valid), (25, iFbelt_Words), (26, iFbeltwayref11_Words), (27, iFbelt_Largest), (28, iFbeltwayref11_Largest), (29, iFbelt_Open), (30, iFbeltwayref11_Open)], loops := [(0, { live := [(67, ⟨(.int .i64), false, false, false⟩)], boxes := [], rows := [], dead := [12, 18, 20, 68, 69, 70, 71, 72, 73, 74, 75, 76, 77, 78, 79, 80, 81, 82, 83, 84, 85, 86, 87, 88, 89, 90, 91, 92, 93, 94, 95, 96, 97], lost := [], base := 18 }), (2, { live := [(85, ⟨(.int .i64), false, false, false⟩)], boxes := [], rows := [], dead := [12, 20, 86, 87, 88, 89, 90, 91, 92, 93, 94, 95, 96], lost := [], base := 28 }), (4, { live := [(114, ⟨(.int .i64), false, false, false⟩)], boxes := [], rows := [], dead := [12, 22, 23, 115, 116, 117, 118, 119, 120, 121, 122, 123, 124, 125, 126, 127, 128, 129], lost := [], base := 29 })], joins := [(8, { live := [(16, ⟨(.slice (.slice (.pair (.int .i64) (.pair (.int .i64) (.pair (.int .i64) (.pair (.int .i64) (.int .i64))))))), false, false, false⟩)], boxes := [], rows := [], dead := [42, 43, 44, 45, 46, 47, 48, 49, 50, 51, 52, 53, 54, 55, 56, 57], lost := [], base := 14 })], tb := tabs, exts := [], lets := [], frzs := [16, 46], shal := [74] }
theorem eFbeltwaylaw11_BeltValid : (fun x : HT iFbeltwaylaw11_BeltValid.ps => iFbeltwaylaw11_BeltValid.F x) = fun x => rk Try.prog cFbeltwaylaw11_BeltValid (Try.f4.body.getD .skip) (HT (iFbeltwaylaw11_BeltValid.rs ++ iFbeltwaylaw11_BeltValid.os)) 1000000 (finK Try.prog [.tmp 12] [] iFbeltwaylaw11_BeltValid.os (iFbeltwaylaw11_BeltValid.rs ++ iFbeltwaylaw11_BeltValid.os)) (initF iFbeltwaylaw11_BeltValid.ps iFbeltwaylaw11_BeltValid.sh x 131) (initL iFbeltwaylaw11_BeltValid.ps x 26) := by kernel_rfl
theorem okFbeltwaylaw11_BeltValid : CallsV Try.prog tabs 4 iFbeltwaylaw11_BeltValid :=
  callsV_of_rk (cx := cFbeltwaylaw11_BeltValid) (fn := Try.f4) (c := Try.f4.body.getD .skip) (n := 131) (N := 26) (rvs := [.tmp 12]) (cxOk (.cons okFbeltwaylaw11_awake (.cons okFbeltwaymake_New (.cons okFbeltwaymake_Mod (.cons okFbeltwaymake_Small (.cons okFbeltwaymake_Slight (.cons okFbeltwaymake_Space (.cons okFbeltwaymake_Queue (.cons okFbeltwayref11_Remove (.cons okFbeltwaymake_Spoilt (.cons okFbeltwayref11_Copy (.cons okFbelt_Valid (.cons okFbeltwayref11_Valid (.cons okFbelt_Words (.cons okFbeltwayref11_Words (.cons okFbelt_Largest (.cons okFbeltwayref11_Largest (.cons okFbelt_Open (.cons okFbeltwayref11_Open TabOk.nil)))))))))))))))))) XtOk.nil) Try.func4 rfl (by kernel_rfl) rfl rfl (fun x => Nat.le_of_ble_eq_true rfl) (by decide) (fun x => congrFun eFbeltwaylaw11_BeltValid x)
noncomputable def Fbeltwaymake_Few (a0 : (List Int)) : Option Bool :=
some (decide ((a0.length : Int) ≤ 400))
@[reducible] noncomputable def iFbeltwaymake_Few : FnI := { ps := [⟨(.slice (.int .i64)), false, false, false⟩], rs := [⟨.bool, false, true, false⟩], os := [], bk := [], F := fun x => Fbeltwaymake_Few x }
noncomputable def cFbeltwaymake_Few : Cx := { nm := [], keep := [], fns := tabF [], loops := [], joins := [], tb := tabs, exts := [], lets := [] }
theorem eFbeltwaymake_Few : (fun x : HT iFbeltwaymake_Few.ps => iFbeltwaymake_Few.F x) = fun x => rk Try.prog cFbeltwaymake_Few (Try.f6.body.getD .skip) (HT (iFbeltwaymake_Few.rs ++ iFbeltwaymake_Few.os)) 1000000 (finK Try.prog [.tmp 2] [] iFbeltwaymake_Few.os (iFbeltwaymake_Few.rs ++ iFbeltwaymake_Few.os)) (initF iFbeltwaymake_Few.ps iFbeltwaymake_Few.sh x 6) (initL iFbeltwaymake_Few.ps x 0) := by kernel_rfl
theorem okFbeltwaymake_Few : CallsV Try.prog tabs 6 iFbeltwaymake_Few :=
  callsV_of_rk (cx := cFbeltwaymake_Few) (fn := Try.f6) (c := Try.f6.body.getD .skip) (n := 6) (N := 0) (rvs := [.tmp 2]) (cxOk TabOk.nil XtOk.nil) Try.func6 rfl (by kernel_rfl) rfl rfl (fun x => Nat.le_of_ble_eq_true rfl) (by decide) (fun x => congrFun eFbeltwaymake_Few x)
noncomputable def Fbeltwaymake_Deck_Left (a0 : ((List Int) × Int)) : Option (Bool × ((List Int) × Int)) :=
some ((decide (a0.2 < (a0.1.length : Int)), a0))
@[reducible] noncomputable def iFbeltwaymake_Deck_Left : FnI := { ps := [⟨(.pair (.slice (.int .i64)) (.int .i64)), true, false, true⟩], rs := [⟨.bool, false, true, false⟩], os := [⟨(.pair (.slice (.int .i64)) (.int .i64)), true, false, true⟩], bk := [0], F := fun x => Fbeltwaymake_Deck_Left x }
noncomputable def cFbeltwaymake_Deck_Left : Cx := { nm := [], keep := [], fns := tabF [], loops := [], joins := [], tb := tabs, exts := [], lets := [] }
theorem eFbeltwaymake_Deck_Left : (fun x : HT iFbeltwaymake_Deck_Left.ps => iFbeltwaymake_Deck_Left.F x) = fun x => rk Try.prog cFbeltwaymake_Deck_Left (Try.f10.body.getD .skip) (HT (iFbeltwaymake_Deck_Left.rs ++ iFbeltwaymake_Deck_Left.os)) 1000000 (finK Try.prog [.tmp 2] [0] iFbeltwaymake_Deck_Left.os (iFbeltwaymake_Deck_Left.rs ++ iFbeltwaymake_Deck_Left.os)) (initF iFbeltwaymake_Deck_Left.ps iFbeltwaymake_Deck_Left.sh x 13) (initL iFbeltwaymake_Deck_Left.ps x 0) := by kernel_rfl
theorem okFbeltwaymake_Deck_Left : CallsV Try.prog tabs 10 iFbeltwaymake_Deck_Left :=
  callsV_of_rk (cx := cFbeltwaymake_Deck_Left) (fn := Try.f10) (c := Try.f10.body.getD .skip) (n := 13) (N := 0) (rvs := [.tmp 2]) (cxOk TabOk.nil XtOk.nil) Try.func10 rfl (by kernel_rfl) rfl rfl (fun x => Nat.le_of_ble_eq_true rfl) (by decide) (fun x => congrFun eFbeltwaymake_Deck_Left x)
noncomputable def Fbelt_place (a0 : (List (List (Int × Int × Int × Int × Int)))) (a1 : Int) : Option (Int × Int) :=
loopO (σ := Int) (β := (Int × Int)) (fun s1 =>
if s1 < (a0.length : Int) then
if 0 ≤ s1 ∧ s1 < (a0.length : Int) then
loopO (σ := Int) (β := (Int ⊕ (Int × Int))) (fun s2 =>
if s2 < ((gl ([] : (List (Int × Int × Int × Int × Int))) a0 s1.toNat).length : Int) then
if 0 ≤ s2 ∧ s2 < ((gl ([] : (List (Int × Int × Int × Int × Int))) a0 s1.toNat).length : Int) then
if ((gl ((0, 0, 0, 0, 0) : (Int × Int × Int × Int × Int)) (gl ([] : (List (Int × Int × Int × Int × Int))) a0 s1.toNat) s2.toNat).1) = a1 then
some (Sum.inr (Sum.inr ((s1, s2))))
else some (Sum.inl (w64 (s2 + 1)))
else none
else some (Sum.inr (Sum.inl (w64 (s1 + 1))))) (0)
else none
else some (Sum.inr (((-1), (-1))))) (0)
@[reducible] noncomputable def iFbelt_place : FnI := { ps := [⟨(.slice (.slice (.pair (.int .i64) (.pair (.int .i64) (.pair (.int .i64) (.pair (.int .i64) (.int .i64))))))), false, false, false⟩, ⟨(.int .i64), false, false, false⟩], rs := [⟨(.int .i64), false, true, false⟩, ⟨(.int .i64), false, true, false⟩], os := [], bk := [], F := fun x => Fbelt_place x.1 x.2 }
noncomputable def cFbelt_place : Cx := { nm := [(9, (2, 1)), (16, (1, 1))], keep := [], fns := tabF [], loops := [(0, { live := [(12, ⟨(.int .i64), false, false, false⟩)], boxes := [], rows := [], dead := [4, 5, 6, 7, 8, 9, 13, 14, 15, 16, 17, 18, 19, 20, 21, 22, 23, 24, 25, 26, 27, 28, 29, 30, 31], lost := [], base := 1 }), (2, { live := [(19, ⟨(.int .i64), false, false, false⟩)], boxes := [], rows := [], dead := [4, 5, 8, 9, 20, 21, 22, 23, 24, 25, 26, 27, 28, 29, 30], lost := [], base := 2 })], joins := [], tb := tabs, exts := [], lets := [] }
theorem eFbelt_place : (fun x : HT iFbelt_place.ps => iFbelt_place.F x) = fun x => rk Try.prog cFbelt_place (Try.f32.body.getD .skip) (HT (iFbelt_place.rs ++ iFbelt_place.os)) 1000000 (finK Try.prog [.tmp 4, .tmp 5] [] iFbelt_place.os (iFbelt_place.rs ++ iFbelt_place.os)) (initF iFbelt_place.ps iFbelt_place.sh x 32) (initL iFbelt_place.ps x 2) := by kernel_rfl
theorem okFbelt_place : CallsV Try.prog tabs 32 iFbelt_place :=
  callsV_of_rk (cx := cFbelt_place) (fn := Try.f32) (c := Try.f32.body.getD .skip) (n := 32) (N := 2) (rvs := [.tmp 4, .tmp 5]) (cxOk TabOk.nil XtOk.nil) Try.func32 rfl (by kernel_rfl) rfl rfl (fun x => Nat.le_of_ble_eq_true rfl) (by decide) (fun x => congrFun eFbelt_place x)
noncomputable def Fbelt_Remove (a0 : (List (List (Int × Int × Int × Int × Int)))) (a1 : Int) : Option ((List (List (Int × Int × Int × Int × Int))) × Int) :=
Option.bind (Fbelt_place a0 a1) (fun r1 =>
if r1.1 < 0 then
some (([], 5))
else Option.bind (Fclone_Belts a0) (fun r2 =>
if 0 ≤ r1.1 ∧ r1.1 < (r2.length : Int) then
if 0 ≤ r1.1 ∧ r1.1 < (r2.length : Int) then
if r1.1.toNat = r1.1.toNat then
if Bd none (some r1.2) r1.2.toNat ((r2.getD r1.1.toNat []).length) then
if 0 ≤ r1.1 ∧ r1.1 < (r2.length : Int) then
if r1.1.toNat = r1.1.toNat then
if Bd (some (w64 (r1.2 + 1))) none ((r2.getD r1.1.toNat []).length) ((r2.getD r1.1.toNat []).length) then
if ((subl (r2.getD r1.1.toNat []) 0 (r1.2.toNat - 0)).length + (subl (r2.getD r1.1.toNat []) ((w64 (r1.2 + 1)).toNat) (((r2.getD r1.1.toNat []).length) - ((w64 (r1.2 + 1)).toNat))).length) * 40 ≤ 140737488355328 then
if 0 ≤ r1.1 ∧ r1.1 < (r2.length : Int) then
if r1.1.toNat = r1.1.toNat then
some ((r2.set r1.1.toNat ((subl (r2.getD r1.1.toNat []) 0 (r1.2.toNat - 0)) ++ (subl (r2.getD r1.1.toNat []) ((w64 (r1.2 + 1)).toNat) (((r2.getD r1.1.toNat []).length) - ((w64 (r1.2 + 1)).toNat)))), 0))
else none
else none
else none
else none
else none
else none
else none
else none
else none
else none))
@[reducible] noncomputable def iFbelt_Remove : FnI := { ps := [⟨(.slice (.slice (.pair (.int .i64) (.pair (.int .i64) (.pair (.int .i64) (.pair (.int .i64) (.int .i64))))))), false, false, false⟩, ⟨(.int .i64), false, false, false⟩], rs := [⟨(.slice (.slice (.pair (.int .i64) (.pair (.int .i64) (.pair (.int .i64) (.pair (.int .i64) (.int .i64))))))), false, true, false⟩, ⟨(.int .i64), false, true, false⟩], os := [], bk := [], F := fun x => Fbelt_Remove x.1 x.2 }
noncomputable def cFbelt_Remove : Cx := { nm := [(18, (1, 1)), (34, (3, 1))], keep := [34], fns := tabF [(32, iFbelt_place), (33, iFclone_Belts)], loops := [], joins := [], tb := tabs, exts := [], lets := [], opens := [(5, (8, 6, 2))] }
theorem eFbelt_Remove : (fun x : HT iFbelt_Remove.ps => iFbelt_Remove.F x) = fun x => rk Try.prog cFbelt_Remove (Try.f12.body.getD .skip) (HT (iFbelt_Remove.rs ++ iFbelt_Remove.os)) 1000000 (finK Try.prog [.tmp 4, .tmp 5] [] iFbelt_Remove.os (iFbelt_Remove.rs ++ iFbelt_Remove.os)) (initF iFbelt_Remove.ps iFbelt_Remove.sh x 37) (initL iFbelt_Remove.ps x 3) := by kernel_rfl
theorem okFbelt_Remove : CallsV Try.prog tabs 12 iFbelt_Remove :=
  callsV_of_rk (cx := cFbelt_Remove) (fn := Try.f12) (c := Try.f12.body.getD .skip) (n := 37) (N := 3) (rvs := [.tmp 4, .tmp 5]) (cxOk (.cons okFbelt_place (.cons okFclone_Belts TabOk.nil)) XtOk.nil) Try.func12 rfl (by kernel_rfl) rfl rfl (fun x => Nat.le_of_ble_eq_true rfl) (by decide) (fun x => congrFun eFbelt_Remove x)
noncomputable def Fbelt_Oldest (a0 : (List (List (Int × Int × Int × Int × Int)))) (a1 : Int) : Option ((Int × Int × Int × Int × Int) × Bool) :=
Option.bind (Fbelt_in a0 a1) (fun r1 =>
if (!r1) = true then
some (((0, 0, 0, 0, 0), false))
else if 0 ≤ a1 ∧ a1 < (a0.length : Int) then
if ((gl ([] : (List (Int × Int × Int × Int × Int))) a0 a1.toNat).length : Int) = 0 then
some (((0, 0, 0, 0, 0), false))
else if 0 ≤ a1 ∧ a1 < (a0.length : Int) then
if 0 ≤ (0 : Int) ∧ (0 : Int) < ((gl ([] : (List (Int × Int × Int × Int × Int))) a0 a1.toNat).length : Int) then
some ((((gl ((0, 0, 0, 0, 0) : (Int × Int × Int × Int × Int)) (gl ([] : (List (Int × Int × Int × Int × Int))) a0 a1.toNat) ((0 : Int).toNat)).1, ((gl ((0, 0, 0, 0, 0) : (Int × Int × Int × Int × Int)) (gl ([] : (List (Int × Int × Int × Int × Int))) a0 a1.toNat) ((0 : Int).toNat)).2).1, (((gl ((0, 0, 0, 0, 0) : (Int × Int × Int × Int × Int)) (gl ([] : (List (Int × Int × Int × Int × Int))) a0 a1.toNat) ((0 : Int).toNat)).2).2).1, ((((gl ((0, 0, 0, 0, 0) : (Int × Int × Int × Int × Int)) (gl ([] : (List (Int × Int × Int × Int × Int))) a0 a1.toNat) ((0 : Int).toNat)).2).2).2)), true))
else none
else none
else none)
@[reducible] noncomputable def iFbelt_Oldest : FnI := { ps := [⟨(.slice (.slice (.pair (.int .i64) (.pair (.int .i64) (.pair (.int .i64) (.pair (.int .i64) (.int .i64))))))), false, false, false⟩, ⟨(.int .i64), false, false, false⟩], rs := [⟨(.pair (.int .i64) (.pair (.int .i64) (.pair (.int .i64) (.pair (.int .i64) (.int .i64))))), true, true, false⟩, ⟨.bool, false, true, false⟩], os := [], bk := [], F := fun x => Fbelt_Oldest x.1 x.2 }
noncomputable def cFbelt_Oldest : Cx := { nm := [(4, (1, 1)), (14, (2, 1)), (22, (3, 1))], keep := [], fns := tabF [(34, iFbelt_in)], loops := [], joins := [], tb := tabs, exts := [], lets := [] }
theorem eFbelt_Oldest : (fun x : HT iFbelt_Oldest.ps => iFbelt_Oldest.F x) = fun x => rk Try.prog cFbelt_Oldest (Try.f14.body.getD .skip) (HT (iFbelt_Oldest.rs ++ iFbelt_Oldest.os)) 1000000 (finK Try.prog [.cell 4 36, .tmp 5] [] iFbelt_Oldest.os (iFbelt_Oldest.rs ++ iFbelt_Oldest.os)) (initF iFbelt_Oldest.ps iFbelt_Oldest.sh x 25) (initL iFbelt_Oldest.ps x 3) := by kernel_rfl
theorem okFbelt_Oldest : CallsV Try.prog tabs 14 iFbelt_Oldest :=
  callsV_of_rk (cx := cFbelt_Oldest) (fn := Try.f14) (c := Try.f14.body.getD .skip) (n := 25) (N := 3) (rvs := [.cell 4 36, .tmp 5]) (cxOk (.cons okFbelt_in TabOk.nil) XtOk.nil) Try.func14 rfl (by kernel_rfl) rfl rfl (fun x => Nat.le_of_ble_eq_true rfl) (by decide) (fun x => congrFun eFbelt_Oldest x)
noncomputable def Fbeltwaylaw11_BeltFifo (a0 : (List Int)) (a1 : Int) : Option Bool :=
Option.bind (Fbeltwaymake_Few a0) (fun r1 =>
if (!r1) = true then
Option.bind (Fbeltwaylaw11_awake) (fun r2 =>
some (r2))
else Option.bind (Fbeltwaymake_New a0) (fun r3 =>
Option.bind (Fbeltwaymake_Mod a1 4) (fun r4 =>
if 0 ≤ (w64 ((1 : Int) + r4)) ∧ (w64 ((1 : Int) + r4)) ≤ (w64 ((1 : Int) + r4)) ∧ (w64 ((1 : Int) + r4)) * ((24 : Nat) : Int) ≤ 140737488355328 then
if 0 ≤ (w64 ((1 : Int) + r4)) ∧ (w64 ((1 : Int) + r4)) ≤ (w64 ((1 : Int) + r4)) ∧ (w64 ((1 : Int) + r4)) * ((24 : Nat) : Int) ≤ 140737488355328 then
loopO (σ := ((List (List (Int × Int × Int × Int × Int))) × Int × Int × ((List Int) × Int) × (List (List Int)))) (β := Bool) (fun s1 =>
if s1.2.2.1 < 60 then
Option.bind (Fbeltwaymake_Deck_Left s1.2.2.2.1) (fun r5 =>
if r5.1 = true then
Option.bind (Fbeltwaymake_Deck_Next r5.2 (w64 ((1 : Int) + r4))) (fun r6 =>
Option.bind (α := ((List (List (Int × Int × Int × Int × Int))) × Int × ((List Int) × Int) × (List (List Int))) ⊕ (((List (List (Int × Int × Int × Int × Int))) × Int × Int × ((List Int) × Int) × (List (List Int))) ⊕ Bool)) (Option.bind (Fbeltwaymake_Deck_Next r6.2 3) (fun r7 =>
if r7.1 = 0 then
if 0 ≤ r6.1 ∧ r6.1 < (s1.2.2.2.2.length : Int) then
if ((s1.2.2.2.2.getD r6.1.toNat []).length : Int) > 0 then
if 0 ≤ r6.1 ∧ r6.1 < (s1.2.2.2.2.length : Int) then
if r6.1.toNat = r6.1.toNat then
if 0 ≤ (0 : Int) ∧ (0 : Int) < ((s1.2.2.2.2.getD r6.1.toNat []).length : Int) then
Option.bind (Fbelt_Remove s1.1 (gl (0 : Int) (s1.2.2.2.2.getD r6.1.toNat []) ((0 : Int).toNat))) (fun r8 =>
if ¬ r8.2 = 0 then
some (Sum.inr (Sum.inr (false)))
else if 0 ≤ r6.1 ∧ r6.1 < (s1.2.2.2.2.length : Int) then
if r6.1.toNat = r6.1.toNat then
if Bd (some (1 : Int)) none ((s1.2.2.2.2.getD r6.1.toNat []).length) ((s1.2.2.2.2.getD r6.1.toNat []).length) then
if 0 ≤ r6.1 ∧ r6.1 < (s1.2.2.2.2.length : Int) then
if r6.1.toNat = r6.1.toNat then
some (Sum.inl ((r8.1, s1.2.1, r7.2, s1.2.2.2.2.set r6.1.toNat (subl (s1.2.2.2.2.getD r6.1.toNat []) ((1 : Int).toNat) (((s1.2.2.2.2.getD r6.1.toNat []).length) - ((1 : Int).toNat))))))
else none
else none
else none
else none
else none)
else none
else none
else none
else Option.bind (Fbeltwaymake_Deck_Next r7.2 3) (fun r9 =>
Option.bind (Fbeltwaymake_Deck_Next r9.2 9) (fun r10 =>
Option.bind (Fbelt_Add s1.1 (w64 (s1.2.1 + (w64 ((1 : Int) + r9.1))), r6.1, 0, 0, w64 ((1 : Int) + r10.1))) (fun r11 =>
if ¬ r11.2 = 0 then
some (Sum.inr (Sum.inr (false)))
else if 0 ≤ r6.1 ∧ r6.1 < (s1.2.2.2.2.length : Int) then
if r6.1.toNat = r6.1.toNat then
if ((s1.2.2.2.2.getD r6.1.toNat []).length + ([w64 (s1.2.1 + (w64 ((1 : Int) + r9.1)))] : List Int).length) * 8 ≤ 140737488355328 then
if 0 ≤ r6.1 ∧ r6.1 < (s1.2.2.2.2.length : Int) then
if r6.1.toNat = r6.1.toNat then
some (Sum.inl ((r11.1, w64 (s1.2.1 + (w64 ((1 : Int) + r9.1))), r10.2, s1.2.2.2.2.set r6.1.toNat ((s1.2.2.2.2.getD r6.1.toNat []) ++ ([w64 (s1.2.1 + (w64 ((1 : Int) + r9.1)))] : List Int)))))
else none
else none
else none
else none
else none)))
else none
else Option.bind (Fbeltwaymake_Deck_Next r7.2 3) (fun r12 =>
Option.bind (Fbeltwaymake_Deck_Next r12.2 9) (fun r13 =>
Option.bind (Fbelt_Add s1.1 (w64 (s1.2.1 + (w64 ((1 : Int) + r12.1))), r6.1, 0, 0, w64 ((1 : Int) + r13.1))) (fun r14 =>
if ¬ r14.2 = 0 then
some (Sum.inr (Sum.inr (false)))
else if 0 ≤ r6.1 ∧ r6.1 < (s1.2.2.2.2.length : Int) then
if ((s1.2.2.2.2.getD r6.1.toNat []).length + ([w64 (s1.2.1 + (w64 ((1 : Int) + r12.1)))] : List Int).length) * 8 ≤ 140737488355328 then
if 0 ≤ r6.1 ∧ r6.1 < (s1.2.2.2.2.length : Int) then
if r6.1.toNat = r6.1.toNat then
some (Sum.inl ((r14.1, w64 (s1.2.1 + (w64 ((1 : Int) + r12.1))), r13.2, s1.2.2.2.2.set r6.1.toNat ((s1.2.2.2.2.getD r6.1.toNat []) ++ ([w64 (s1.2.1 + (w64 ((1 : Int) + r12.1)))] : List Int)))))
else none
else none
else none
else none))))) (fun q => match q with
| Sum.inl j1 => (loopO (σ := (Int × (List (List Int)))) (β := (((List (List (Int × Int × Int × Int × Int))) × Int × Int × ((List Int) × Int) × (List (List Int))) ⊕ Bool)) (fun s2 =>
if s2.1 < (w64 ((1 : Int) + r4)) then
Option.bind (Fbelt_Oldest j1.1 s2.1) (fun r15 =>
Option.bind (Fbelt_Youngest j1.1 s2.1) (fun r16 =>
if 0 ≤ s2.1 ∧ s2.1 < (s2.2.length : Int) then
if 0 ≤ s2.1 ∧ s2.1 < ((s2.2.set s2.1.toNat (s2.2.getD s2.1.toNat [])).length : Int) then
if ¬ r15.2 = (decide (((s2.2.getD s2.1.toNat []).length : Int) > 0)) then
some (Sum.inr (Sum.inr (false)))
else if ¬ r16.2 = (decide (((s2.2.getD s2.1.toNat []).length : Int) > 0)) then
some (Sum.inr (Sum.inr (false)))
else if ¬ (j1.1.length : Int) = (w64 ((1 : Int) + r4)) then
some (Sum.inr (Sum.inr (false)))
else if 0 ≤ s2.1 ∧ s2.1 < (j1.1.length : Int) then
if ¬ ((gl ([] : (List (Int × Int × Int × Int × Int))) j1.1 s2.1.toNat).length : Int) = ((s2.2.getD s2.1.toNat []).length : Int) then
some (Sum.inr (Sum.inr (false)))
else if ((s2.2.getD s2.1.toNat []).length : Int) > 0 then
if 0 ≤ s2.1 ∧ s2.1 < ((s2.2.set s2.1.toNat (s2.2.getD s2.1.toNat [])).length : Int) then
if s2.1.toNat = s2.1.toNat then
if 0 ≤ (0 : Int) ∧ (0 : Int) < (((s2.2.set s2.1.toNat (s2.2.getD s2.1.toNat [])).getD s2.1.toNat []).length : Int) then
if ¬ r15.1.1 = (gl (0 : Int) ((s2.2.set s2.1.toNat (s2.2.getD s2.1.toNat [])).getD s2.1.toNat []) ((0 : Int).toNat)) then
some (Sum.inr (Sum.inr (false)))
else if 0 ≤ s2.1 ∧ s2.1 < ((s2.2.set s2.1.toNat (s2.2.getD s2.1.toNat [])).length : Int) then
if s2.1.toNat = s2.1.toNat then
if 0 ≤ (w64 (((s2.2.getD s2.1.toNat []).length : Int) - 1)) ∧ (w64 (((s2.2.getD s2.1.toNat []).length : Int) - 1)) < (((s2.2.set s2.1.toNat (s2.2.getD s2.1.toNat [])).getD s2.1.toNat []).length : Int) then
if ¬ r16.1.1 = (gl (0 : Int) ((s2.2.set s2.1.toNat (s2.2.getD s2.1.toNat [])).getD s2.1.toNat []) ((w64 (((s2.2.getD s2.1.toNat []).length : Int) - 1)).toNat)) then
some (Sum.inr (Sum.inr (false)))
else some (Sum.inl ((w64 (s2.1 + 1), (s2.2.set s2.1.toNat (s2.2.getD s2.1.toNat [])).set s2.1.toNat ((s2.2.set s2.1.toNat (s2.2.getD s2.1.toNat [])).getD s2.1.toNat []))))
else none
else none
else none
else none
else none
else none
else some (Sum.inl ((w64 (s2.1 + 1), (s2.2.set s2.1.toNat (s2.2.getD s2.1.toNat [])).set s2.1.toNat ((s2.2.set s2.1.toNat (s2.2.getD s2.1.toNat [])).getD s2.1.toNat []))))
else none
else none
else none))
else some (Sum.inr (Sum.inl ((j1.1, j1.2.1, w64 (s1.2.2.1 + 1), j1.2.2.1, s2.2))))) ((0, j1.2.2.2)))
| Sum.inr b1 => some b1))
else Option.map Sum.inr (Option.bind (Fbeltwaylaw11_awake) (fun r17 =>
some (r17))))
else Option.map Sum.inr (Option.bind (Fbeltwaylaw11_awake) (fun r18 =>
some (r18)))) ((List.replicate (w64 ((1 : Int) + r4)).toNat ([] : (List (Int × Int × Int × Int × Int))), 0, 0, r3, List.replicate (w64 ((1 : Int) + r4)).toNat ([] : (List Int))))
else none
else none)))
@[reducible] noncomputable def iFbeltwaylaw11_BeltFifo : FnI := { ps := [⟨(.slice (.int .i64)), false, false, false⟩, ⟨(.int .i64), false, false, false⟩], rs := [⟨.bool, false, true, false⟩], os := [], bk := [], F := fun x => Fbeltwaylaw11_BeltFifo x.1 x.2 }
noncomputable def cFbeltwaylaw11_BeltFifo : Cx := { nm := [(17, (20, 1)), (19, (21, 1)), (27, (1, 2)), (32, (3, 1)), (34, (4, 1)), (39, (6, 1)), (45, (7, 1)), (47, (8, 1)), (53, (9, 1)), (65, (10, 1)), (77, (11, 1)), (81, (12, 1)), (89, (13, 1)), (92, (14, 1)), (103, (17, 1)), (105, (15, 1)), (106, (16, 1)), (128, (22, 1)), (150, (24, 1))], keep := [34, 77, 106], fns := tabF [(6, iFbeltwaymake_Few), (7, iFbeltwaylaw11_awake), (8, iFbeltwaymake_New), (9, iFbeltwaymake_Mod), (10, iFbeltwaymake_Deck_Left), (11, iFbeltwaymake_Deck_Next), (12, iFbelt_Remove), (13, iFbelt_Add), (14, iFbelt_Oldest), (15, iFbelt_Youngest)], loops := [(0, { live := [(7, ⟨(.slice (.slice (.pair (.int .i64) (.pair (.int .i64) (.pair (.int .i64) (.pair (.int .i64) (.int .i64))))))), false, false, false⟩), (9, ⟨(.int .i64), false, false, false⟩), (10, ⟨(.int .i64), false, false, false⟩)], boxes := [(1, ⟨(.pair (.slice (.int .i64)) (.int .i64)), true, false, false⟩)], rows := [(4, (.slice (.int .i64)))], dead := [4, 11, 12, 13, 14, 15, 16, 17, 18, 19, 20, 21, 35, 36, 37, 38, 39, 40, 41, 42, 43, 44, 45, 46, 47, 48, 49, 50, 51, 52, 53, 54, 55, 56, 57, 58, 59, 60, 61, 62, 63, 64, 65, 66, 67, 68, 69, 70, 71, 72, 73, 74, 75, 76, 77, 78, 79, 80, 81, 82, 83, 84, 85, 86, 87, 88, 89, 90, 91, 92, 93, 94, 95, 96, 97, 98, 99, 100, 101, 102, 103, 104, 105, 106, 107, 108, 109, 110, 111, 112, 113, 114, 115, 116, 117, 118, 119, 120, 121, 122, 123, 124, 125, 126, 127, 128, 129, 130, 131, 132, 133, 134, 135, 136, 137, 138, 139, 140, 141, 142, 143, 144, 145, 146, 147, 148, 149, 150, 151, 152, 153, 154, 155, 156, 157, 158, 159, 160, 161, 162, 163, 164, 165, 166, 167, 168, 169, 170, 171, 172, 173, 174, 175, 176, 177, 178, 179, 180, 181, 182], lost := [], base := 25 }), (2, { live := [(16, ⟨(.int .i64), false, false, false⟩)], boxes := [], rows := [(4, (.slice (.int .i64)))], dead := [4, 17, 18, 19, 20, 21, 108, 109, 110, 111, 112, 113, 114, 115, 116, 117, 118, 119, 120, 121, 122, 123, 124, 125, 126, 127, 128, 129, 130, 131, 132, 133, 134, 135, 136, 137, 138, 139, 140, 141, 142, 143, 144, 145, 146, 147, 148, 149, 150, 151, 152, 153, 154, 155, 156, 157, 158, 159, 160, 161, 162, 163, 164, 165, 166, 167, 168, 169, 170, 171, 172, 173, 174, 175, 176, 177, 178, 179, 180, 181, 182], lost := [], base := 20 })], joins := [(22, { live := [(7, ⟨(.slice (.slice (.pair (.int .i64) (.pair (.int .i64) (.pair (.int .i64) (.pair (.int .i64) (.int .i64))))))), false, false, false⟩), (9, ⟨(.int .i64), false, false, false⟩)], boxes := [(1, ⟨(.pair (.slice (.int .i64)) (.int .i64)), true, false, false⟩)], rows := [(4, (.slice (.int .i64)))], dead := [4, 12, 13, 14, 15, 46, 47, 48, 49, 50, 51, 52, 53, 54, 55, 56, 57, 58, 59, 60, 61, 62, 63, 64, 65, 66, 67, 68, 69, 70, 71, 72, 73, 74, 75, 76, 77, 78, 79, 80, 81, 82, 83, 84, 85, 86, 87, 88, 89, 90, 91, 92, 93, 94, 95, 96, 97, 98, 99, 100, 101, 102, 103, 104, 105, 106, 107], lost := [], base := 18 })], tb := tabs, exts := [], lets := [], frzs := [7], shal := [103], opens := [(28, (8, 16, 23))] }
theorem eFbeltwaylaw11_BeltFifo : (fun x : HT iFbeltwaylaw11_BeltFifo.ps => iFbeltwaylaw11_BeltFifo.F x) = fun x => rk Try.prog cFbeltwaylaw11_BeltFifo (Try.f3.body.getD .skip) (HT (iFbeltwaylaw11_BeltFifo.rs ++ iFbeltwaylaw11_BeltFifo.os)) 1000000 (finK Try.prog [.tmp 4] [] iFbeltwaylaw11_BeltFifo.os (iFbeltwaylaw11_BeltFifo.rs ++ iFbeltwaylaw11_BeltFifo.os)) (initF iFbeltwaylaw11_BeltFifo.ps iFbeltwaylaw11_BeltFifo.sh x 184) (initL iFbeltwaylaw11_BeltFifo.ps x 26) := by kernel_rfl
theorem okFbeltwaylaw11_BeltFifo : CallsV Try.prog tabs 3 iFbeltwaylaw11_BeltFifo :=
  callsV_of_rk (cx := cFbeltwaylaw11_BeltFifo) (fn := Try.f3) (c := Try.f3.body.getD .skip) (n := 184) (N := 26) (rvs := [.tmp 4]) (cxOk (.cons okFbeltwaymake_Few (.cons okFbeltwaylaw11_awake (.cons okFbeltwaymake_New (.cons okFbeltwaymake_Mod (.cons okFbeltwaymake_Deck_Left (.cons okFbeltwaymake_Deck_Next (.cons okFbelt_Remove (.cons okFbelt_Add (.cons okFbelt_Oldest (.cons okFbelt_Youngest TabOk.nil)))))))))) XtOk.nil) Try.func3 rfl (by kernel_rfl) rfl rfl (fun x => Nat.le_of_ble_eq_true rfl) (by decide) (fun x => congrFun eFbeltwaylaw11_BeltFifo x)
end Go.Proofs.Ytnfleglhbgknmaa
