/-
  The functions of the laws of package config (printed, and checked by the kernel).
-/
import Derived.Test.YtpdajijinipgdaaProg
import Derived.Test.YtpdajijinipgdaaChecked
import Derived.Test.YtpdajijinipgdaaTabV
import Derived.KernelRfl
set_option linter.unusedVariables false
set_option maxRecDepth 100000
namespace Go.Proofs.Ytpdajijinipgdaa
open Go Go.V3
noncomputable def Fconfig_named (s : ByteArray) : Option Bool :=
if (s.size : Int) < 1 then
some (false)
else if (s.size : Int) > 16 then
some (false)
else if 0 ≤ (0 : Int) ∧ (0 : Int) < (s.size : Int) then
if (sget s ((0 : Int).toNat)) < 97 then
some (false)
else if 0 ≤ (0 : Int) ∧ (0 : Int) < (s.size : Int) then
if (sget s ((0 : Int).toNat)) > 122 then
some (false)
else loopO (σ := Nat) (β := Bool) (fun p =>
cond (decide (p < s.size)) (if ((Utf8.decode s p).1 : Int) < 97 then
if ((Utf8.decode s p).1 : Int) < 48 then
if ¬ ((Utf8.decode s p).1 : Int) = 45 then
some (Sum.inr (false))
else some (Sum.inl (p + (Utf8.decode s p).2))
else if ((Utf8.decode s p).1 : Int) > 57 then
if ¬ ((Utf8.decode s p).1 : Int) = 45 then
some (Sum.inr (false))
else some (Sum.inl (p + (Utf8.decode s p).2))
else some (Sum.inl (p + (Utf8.decode s p).2))
else if ((Utf8.decode s p).1 : Int) > 122 then
if ((Utf8.decode s p).1 : Int) < 48 then
if ¬ ((Utf8.decode s p).1 : Int) = 45 then
some (Sum.inr (false))
else some (Sum.inl (p + (Utf8.decode s p).2))
else if ((Utf8.decode s p).1 : Int) > 57 then
if ¬ ((Utf8.decode s p).1 : Int) = 45 then
some (Sum.inr (false))
else some (Sum.inl (p + (Utf8.decode s p).2))
else some (Sum.inl (p + (Utf8.decode s p).2))
else some (Sum.inl (p + (Utf8.decode s p).2)))
(some (Sum.inr (true)))) 0
else none
else none
@[reducible] noncomputable def iFconfig_named : FnI := { ps := [⟨.str, false, false, false⟩], rs := [⟨.bool, false, false, false⟩], os := [], bk := [], F := fun x => Fconfig_named x }
noncomputable def cFconfig_named : Cx := { nm := [], keep := [], fns := tabF [], loops := [], joins := [], tb := tabs, exts := [], lets := [] }
theorem eFconfig_named : (fun s => Fconfig_named s) = fun s => rk Try.prog cFconfig_named (sq1 (Try.f21.body.getD .skip)) Bool 1000000 (fun e fr L => match e with
  | .normal => rk Try.prog cFconfig_named (sq1 (sq2 (Try.f21.body.getD .skip))) Bool 1000000 (fun e fr _ => match e with
    | .normal => loopB Try.prog cFconfig_named (sq2 (lpC (blkC (sq2 (sq1 (sq2 (sq2 (Try.f21.body.getD .skip)))))))) (sq2 (sq2 (sq2 (Try.f21.body.getD .skip)))) [2, 4, 24, 25, 26, 27, 28, 29, 30, 31, 32, 33, 34, 35, 36, 37, 38, 39, 40, 41, 42, 43, 44, 45] 0 (fr.set 23 (.str s)) s
    | .ret => finB fr
    | _ => none) fr L
  | _ => none) (.str s :: List.replicate (46 - 1) undefV) [] := by kernel_rfl
theorem okFconfig_named : CallsV Try.prog tabs 21 iFconfig_named :=
  callsV_str (cx := cFconfig_named) (cxOk TabOk.nil XtOk.nil) (fn := Try.f21) (r0 := (sq1 (Try.f21.body.getD .skip))) (pre := (sq1 (sq2 (Try.f21.body.getD .skip)))) (rest := (sq2 (lpC (blkC (sq2 (sq1 (sq2 (sq2 (Try.f21.body.getD .skip))))))))) (tail := (sq2 (sq2 (sq2 (Try.f21.body.getD .skip))))) (i3 := 3) (i4 := 4) (bid := 0) (n := 46) (o1 := opAt (sq1 (sq1 (sq2 (sq2 (Try.f21.body.getD .skip))))) 0) (o2 := opAt (sq1 (sq1 (sq2 (sq2 (Try.f21.body.getD .skip))))) 1) (o3 := opAt (sq1 (lpC (blkC (sq2 (sq1 (sq2 (sq2 (Try.f21.body.getD .skip)))))))) 0) (o4 := opAt (sq1 (lpC (blkC (sq2 (sq1 (sq2 (sq2 (Try.f21.body.getD .skip)))))))) 1) (t := 9) (W := [2, 4, 24, 25, 26, 27, 28, 29, 30, 31, 32, 33, 34, 35, 36, 37, 38, 39, 40, 41, 42, 43, 44, 45]) (F := Fconfig_named)
    Try.func21 (by kernel_rfl) (by kernel_rfl) rfl (by decide) (by kernel_rfl) ⟨by kernel_rfl, by kernel_rfl, by kernel_rfl⟩ ⟨by kernel_rfl, by kernel_rfl, by kernel_rfl⟩ (by kernel_rfl) ⟨by kernel_rfl, by kernel_rfl, by kernel_rfl⟩ ⟨by kernel_rfl, by kernel_rfl, by kernel_rfl⟩ (by kernel_rfl) (by kernel_rfl) (fun s => congrFun eFconfig_named s)
noncomputable def Fbeltwaymake_New (a0 : (List Int)) : Option ((List Int) × Int) :=
some ((a0, 0))
@[reducible] noncomputable def iFbeltwaymake_New : FnI := { ps := [⟨(.slice (.int .i64)), false, false, false⟩], rs := [⟨(.pair (.slice (.int .i64)) (.int .i64)), true, false, true⟩], os := [], bk := [], F := fun x => Fbeltwaymake_New x }
noncomputable def cFbeltwaymake_New : Cx := { nm := [(5, (1, 1))], keep := [], fns := tabF [], loops := [], joins := [], tb := tabs, exts := [], lets := [] }
theorem eFbeltwaymake_New : (fun x : HT iFbeltwaymake_New.ps => iFbeltwaymake_New.F x) = fun x => rk Try.prog cFbeltwaymake_New (Try.f7.body.getD .skip) (HT (iFbeltwaymake_New.rs ++ iFbeltwaymake_New.os)) 1000000 (finK Try.prog [.tmp 2] [] iFbeltwaymake_New.os (iFbeltwaymake_New.rs ++ iFbeltwaymake_New.os)) (initF iFbeltwaymake_New.ps x 6) (initL iFbeltwaymake_New.ps x 1) := by kernel_rfl
theorem okFbeltwaymake_New : CallsV Try.prog tabs 7 iFbeltwaymake_New :=
  callsV_of_rk (cx := cFbeltwaymake_New) (fn := Try.f7) (c := Try.f7.body.getD .skip) (n := 6) (N := 1) (rvs := [.tmp 2]) (cxOk TabOk.nil XtOk.nil) Try.func7 rfl (by kernel_rfl) rfl rfl (by decide) (by decide) (fun x => congrFun eFbeltwaymake_New x)
noncomputable def Fbeltwaymake_Mod (a0 : Int) (a1 : Int) : Option Int :=
if ¬ a1 = 0 then
if (Int.tmod a0 a1) < 0 then
some (w64 ((Int.tmod a0 a1) + a1))
else some (Int.tmod a0 a1)
else none
@[reducible] noncomputable def iFbeltwaymake_Mod : FnI := { ps := [⟨(.int .i64), false, false, false⟩, ⟨(.int .i64), false, false, false⟩], rs := [⟨(.int .i64), false, true, false⟩], os := [], bk := [], F := fun x => Fbeltwaymake_Mod x.1 x.2 }
noncomputable def cFbeltwaymake_Mod : Cx := { nm := [], keep := [], fns := tabF [], loops := [], joins := [], tb := tabs, exts := [], lets := [] }
theorem eFbeltwaymake_Mod : (fun x : HT iFbeltwaymake_Mod.ps => iFbeltwaymake_Mod.F x) = fun x => rk Try.prog cFbeltwaymake_Mod (Try.f10.body.getD .skip) (HT (iFbeltwaymake_Mod.rs ++ iFbeltwaymake_Mod.os)) 1000000 (finK Try.prog [.tmp 4] [] iFbeltwaymake_Mod.os (iFbeltwaymake_Mod.rs ++ iFbeltwaymake_Mod.os)) (initF iFbeltwaymake_Mod.ps x 15) (initL iFbeltwaymake_Mod.ps x 0) := by kernel_rfl
theorem okFbeltwaymake_Mod : CallsV Try.prog tabs 10 iFbeltwaymake_Mod :=
  callsV_of_rk (cx := cFbeltwaymake_Mod) (fn := Try.f10) (c := Try.f10.body.getD .skip) (n := 15) (N := 0) (rvs := [.tmp 4]) (cxOk TabOk.nil XtOk.nil) Try.func10 rfl (by kernel_rfl) rfl rfl (by decide) (by decide) (fun x => congrFun eFbeltwaymake_Mod x)
noncomputable def Fbeltwaymake_Deck_Next (a0 : ((List Int) × Int)) (a1 : Int) : Option (Int × ((List Int) × Int)) :=
if a0.2 ≥ (a0.1.length : Int) then
some ((0, a0))
else if 0 ≤ (w64 ((w64 (a0.2 + 1)) - 1)) ∧ (w64 ((w64 (a0.2 + 1)) - 1)) < (a0.1.length : Int) then
Option.bind (Fbeltwaymake_Mod (gl (0 : Int) a0.1 ((w64 ((w64 (a0.2 + 1)) - 1)).toNat)) a1) (fun r1 =>
some ((r1, (a0.1, w64 (a0.2 + 1)))))
else none
@[reducible] noncomputable def iFbeltwaymake_Deck_Next : FnI := { ps := [⟨(.pair (.slice (.int .i64)) (.int .i64)), true, false, true⟩, ⟨(.int .i64), false, false, false⟩], rs := [⟨(.int .i64), false, true, false⟩], os := [⟨(.pair (.slice (.int .i64)) (.int .i64)), true, false, true⟩], bk := [0], F := fun x => Fbeltwaymake_Deck_Next x.1 x.2 }
noncomputable def cFbeltwaymake_Deck_Next : Cx := { nm := [], keep := [], fns := tabF [(10, iFbeltwaymake_Mod)], loops := [], joins := [], tb := tabs, exts := [], lets := [] }
theorem eFbeltwaymake_Deck_Next : (fun x : HT iFbeltwaymake_Deck_Next.ps => iFbeltwaymake_Deck_Next.F x) = fun x => rk Try.prog cFbeltwaymake_Deck_Next (Try.f17.body.getD .skip) (HT (iFbeltwaymake_Deck_Next.rs ++ iFbeltwaymake_Deck_Next.os)) 1000000 (finK Try.prog [.tmp 4] [0] iFbeltwaymake_Deck_Next.os (iFbeltwaymake_Deck_Next.rs ++ iFbeltwaymake_Deck_Next.os)) (initF iFbeltwaymake_Deck_Next.ps x 35) (initL iFbeltwaymake_Deck_Next.ps x 0) := by kernel_rfl
theorem okFbeltwaymake_Deck_Next : CallsV Try.prog tabs 17 iFbeltwaymake_Deck_Next :=
  callsV_of_rk (cx := cFbeltwaymake_Deck_Next) (fn := Try.f17) (c := Try.f17.body.getD .skip) (n := 35) (N := 0) (rvs := [.tmp 4]) (cxOk (.cons okFbeltwaymake_Mod TabOk.nil) XtOk.nil) Try.func17 rfl (by kernel_rfl) rfl rfl (by decide) (by decide) (fun x => congrFun eFbeltwaymake_Deck_Next x)
noncomputable def Fbeltwayref14_Names  : Option (List ByteArray) :=
some (([⟨#[115, 101, 109, 105, 115, 112, 97, 99, 101]⟩, ⟨#[97, 112, 112, 101, 108]⟩, ⟨#[102, 105, 120, 101, 100]⟩, ⟨#[111, 108, 100, 101, 114, 45, 102, 105, 114, 115, 116]⟩, ⟨#[120, 120]⟩, ⟨#[120, 120, 49, 48, 48]⟩] : List ByteArray))
@[reducible] noncomputable def iFbeltwayref14_Names : FnI := { ps := [], rs := [⟨(.slice .str), false, true, false⟩], os := [], bk := [], F := fun x => Fbeltwayref14_Names  }
noncomputable def cFbeltwayref14_Names : Cx := { nm := [(1, (0, 1))], keep := [1], fns := tabF [], loops := [], joins := [], tb := tabs, exts := [], lets := [] }
theorem eFbeltwayref14_Names : (fun x : HT iFbeltwayref14_Names.ps => iFbeltwayref14_Names.F x) = fun x => rk Try.prog cFbeltwayref14_Names (Try.f19.body.getD .skip) (HT (iFbeltwayref14_Names.rs ++ iFbeltwayref14_Names.os)) 1000000 (finK Try.prog [.tmp 0] [] iFbeltwayref14_Names.os (iFbeltwayref14_Names.rs ++ iFbeltwayref14_Names.os)) (initF iFbeltwayref14_Names.ps x 2) (initL iFbeltwayref14_Names.ps x 1) := by kernel_rfl
theorem okFbeltwayref14_Names : CallsV Try.prog tabs 19 iFbeltwayref14_Names :=
  callsV_of_rk (cx := cFbeltwayref14_Names) (fn := Try.f19) (c := Try.f19.body.getD .skip) (n := 2) (N := 1) (rvs := [.tmp 0]) (cxOk TabOk.nil XtOk.nil) Try.func19 rfl (by kernel_rfl) rfl rfl (by decide) (by decide) (fun x => congrFun eFbeltwayref14_Names x)
noncomputable def Fbeltwayref06_Percent (a0 : Int) : Option (Nat × Int) :=
if a0 < 0 then
some ((0, 1))
else if a0 > 100 then
some ((0, 1))
else if (fArith .quo (fOfInt a0) 4636737291354636288).isSome = true then
some (((fArith .quo (fOfInt a0) 4636737291354636288).getD 0, 0))
else none
@[reducible] noncomputable def iFbeltwayref06_Percent : FnI := { ps := [⟨(.int .i64), false, false, false⟩], rs := [⟨.flt, false, true, false⟩, ⟨(.int .i64), false, true, false⟩], os := [], bk := [], F := fun x => Fbeltwayref06_Percent x }
noncomputable def cFbeltwayref06_Percent : Cx := { nm := [], keep := [], fns := tabF [], loops := [], joins := [], tb := tabs, exts := [], lets := [] }
theorem eFbeltwayref06_Percent : (fun x : HT iFbeltwayref06_Percent.ps => iFbeltwayref06_Percent.F x) = fun x => rk Try.prog cFbeltwayref06_Percent (Try.f31.body.getD .skip) (HT (iFbeltwayref06_Percent.rs ++ iFbeltwayref06_Percent.os)) 1000000 (finK Try.prog [.tmp 2, .tmp 3] [] iFbeltwayref06_Percent.os (iFbeltwayref06_Percent.rs ++ iFbeltwayref06_Percent.os)) (initF iFbeltwayref06_Percent.ps x 13) (initL iFbeltwayref06_Percent.ps x 0) := by kernel_rfl
theorem okFbeltwayref06_Percent : CallsV Try.prog tabs 31 iFbeltwayref06_Percent :=
  callsV_of_rk (cx := cFbeltwayref06_Percent) (fn := Try.f31) (c := Try.f31.body.getD .skip) (n := 13) (N := 0) (rvs := [.tmp 2, .tmp 3]) (cxOk TabOk.nil XtOk.nil) Try.func31 rfl (by kernel_rfl) rfl rfl (by decide) (by decide) (fun x => congrFun eFbeltwayref06_Percent x)
noncomputable def Fbeltwayref14_Get (a0 : ByteArray) (a1 : Int) : Option ((ByteArray × (List (Nat × Int × Int × Int)) × Int) × Int) :=
Option.bind (Fbeltwayref06_Percent a1) (fun r1 =>
if ¬ r1.2 = 0 then
if a0 = (⟨#[115, 101, 109, 105, 115, 112, 97, 99, 101]⟩) then
some (((⟨#[]⟩, [], 0), 6))
else if a0 = (⟨#[97, 112, 112, 101, 108]⟩) then
some (((⟨#[]⟩, [], 0), 6))
else if a0 = (⟨#[102, 105, 120, 101, 100]⟩) then
some (((⟨#[]⟩, [], 0), 6))
else if a0 = (⟨#[111, 108, 100, 101, 114, 45, 102, 105, 114, 115, 116]⟩) then
some (((⟨#[]⟩, [], 0), 6))
else if a0 = (⟨#[120, 120]⟩) then
some (((⟨#[]⟩, [], 0), 6))
else if a0 = (⟨#[120, 120, 49, 48, 48]⟩) then
some (((⟨#[]⟩, [], 0), 6))
else some (((⟨#[]⟩, [], 0), 7))
else if a0 = (⟨#[115, 101, 109, 105, 115, 112, 97, 99, 101]⟩) then
if a1 < 1 then
some (((⟨#[]⟩, [], 0), 6))
else some (((a0, ([(0, 0, 0, 0)] : List (Nat × Int × Int × Int)), 1), 0))
else if a0 = (⟨#[97, 112, 112, 101, 108]⟩) then
if a1 < 1 then
some (((⟨#[]⟩, [], 0), 6))
else some (((a0, ([(0, 0, 0, 1), (0, 0, 0, 1)] : List (Nat × Int × Int × Int)), 8), 0))
else if a0 = (⟨#[102, 105, 120, 101, 100]⟩) then
if a1 < 1 then
some (((⟨#[]⟩, [], 0), 6))
else some (((a0, ([(r1.1, 1, 0, 1), (0, 0, 0, 1)] : List (Nat × Int × Int × Int)), 8), 0))
else if a0 = (⟨#[111, 108, 100, 101, 114, 45, 102, 105, 114, 115, 116]⟩) then
if a1 < 1 then
some (((⟨#[]⟩, [], 0), 6))
else some (((a0, ([(r1.1, 0, 1, 0)] : List (Nat × Int × Int × Int)), 0), 0))
else if a0 = (⟨#[120, 120]⟩) then
if a1 < 1 then
some (((⟨#[]⟩, [], 0), 6))
else some (((a0, ([(r1.1, 0, 1, 1), (r1.1, 0, 1, 1)] : List (Nat × Int × Int × Int)), 0), 0))
else if a0 = (⟨#[120, 120, 49, 48, 48]⟩) then
if a1 < 1 then
some (((⟨#[]⟩, [], 0), 6))
else some (((a0, ([(r1.1, 0, 1, 1), (r1.1, 0, 1, 2), (0, 0, 0, 2)] : List (Nat × Int × Int × Int)), 8), 0))
else some (((⟨#[]⟩, [], 0), 7)))
@[reducible] noncomputable def iFbeltwayref14_Get : FnI := { ps := [⟨.str, false, false, false⟩, ⟨(.int .i64), false, false, false⟩], rs := [⟨(.pair .str (.pair (.slice (.pair .flt (.pair (.int .i64) (.pair (.int .i64) (.int .i64))))) (.int .i64))), true, true, false⟩, ⟨(.int .i64), false, true, false⟩], os := [], bk := [], F := fun x => Fbeltwayref14_Get x.1 x.2 }
noncomputable def cFbeltwayref14_Get : Cx := { nm := [(4, (0, 1)), (9, (1, 1)), (28, (2, 1)), (35, (3, 1)), (42, (4, 1)), (48, (5, 1)), (57, (6, 1)), (67, (7, 1))], keep := [28, 35, 42, 48, 57, 67], fns := tabF [(31, iFbeltwayref06_Percent)], loops := [], joins := [], tb := tabs, exts := [], lets := [] }
theorem eFbeltwayref14_Get : (fun x : HT iFbeltwayref14_Get.ps => iFbeltwayref14_Get.F x) = fun x => rk Try.prog cFbeltwayref14_Get (Try.f18.body.getD .skip) (HT (iFbeltwayref14_Get.rs ++ iFbeltwayref14_Get.os)) 1000000 (finK Try.prog [.cell 4 25, .tmp 5] [] iFbeltwayref14_Get.os (iFbeltwayref14_Get.rs ++ iFbeltwayref14_Get.os)) (initF iFbeltwayref14_Get.ps x 72) (initL iFbeltwayref14_Get.ps x 8) := by kernel_rfl
theorem okFbeltwayref14_Get : CallsV Try.prog tabs 18 iFbeltwayref14_Get :=
  callsV_of_rk (cx := cFbeltwayref14_Get) (fn := Try.f18) (c := Try.f18.body.getD .skip) (n := 72) (N := 8) (rvs := [.cell 4 25, .tmp 5]) (cxOk (.cons okFbeltwayref06_Percent TabOk.nil) XtOk.nil) Try.func18 rfl (by kernel_rfl) rfl rfl (by decide) (by decide) (fun x => congrFun eFbeltwayref14_Get x)
noncomputable def Fbeltwaymake_Share (a0 : ((List Int) × Int)) : Option (Nat × ((List Int) × Int)) :=
Option.bind (Fbeltwaymake_Deck_Next a0 4) (fun r1 =>
if r1.1 = 0 then
Option.bind (Fbeltwaymake_Deck_Next r1.2 5) (fun r2 =>
if 0 ≤ r2.1 ∧ r2.1 < (([4602678819172646912, 4593671619917905920, 4607182418800017408, 4599676419421066581, 4562254508917369340] : List Nat).length : Int) then
some ((gl (0 : Nat) ([4602678819172646912, 4593671619917905920, 4607182418800017408, 4599676419421066581, 4562254508917369340] : List Nat) r2.1.toNat, r2.2))
else none)
else Option.bind (Fbeltwaymake_Deck_Next r1.2 100) (fun r3 =>
Option.bind (Fbeltwayref06_Percent (w64 ((1 : Int) + r3.1))) (fun r4 =>
some ((r4.1, r3.2)))))
@[reducible] noncomputable def iFbeltwaymake_Share : FnI := { ps := [⟨(.pair (.slice (.int .i64)) (.int .i64)), true, false, true⟩], rs := [⟨.flt, false, true, false⟩], os := [⟨(.pair (.slice (.int .i64)) (.int .i64)), true, false, true⟩], bk := [0], F := fun x => Fbeltwaymake_Share x }
noncomputable def cFbeltwaymake_Share : Cx := { nm := [(6, (2, 1)), (8, (3, 1)), (10, (4, 1)), (15, (5, 1))], keep := [], fns := tabF [(17, iFbeltwaymake_Deck_Next), (31, iFbeltwayref06_Percent)], loops := [], joins := [], tb := tabs, exts := [], lets := [] }
theorem eFbeltwaymake_Share : (fun x : HT iFbeltwaymake_Share.ps => iFbeltwaymake_Share.F x) = fun x => rk Try.prog cFbeltwaymake_Share (Try.f20.body.getD .skip) (HT (iFbeltwaymake_Share.rs ++ iFbeltwaymake_Share.os)) 1000000 (finK Try.prog [.tmp 2] [0] iFbeltwaymake_Share.os (iFbeltwaymake_Share.rs ++ iFbeltwaymake_Share.os)) (initF iFbeltwaymake_Share.ps x 21) (initL iFbeltwaymake_Share.ps x 4) := by kernel_rfl
theorem okFbeltwaymake_Share : CallsV Try.prog tabs 20 iFbeltwaymake_Share :=
  callsV_of_rk (cx := cFbeltwaymake_Share) (fn := Try.f20) (c := Try.f20.body.getD .skip) (n := 21) (N := 4) (rvs := [.tmp 2]) (cxOk (.cons okFbeltwaymake_Deck_Next (.cons okFbeltwayref06_Percent TabOk.nil)) XtOk.nil) Try.func20 rfl (by kernel_rfl) rfl rfl (by decide) (by decide) (fun x => congrFun eFbeltwaymake_Share x)
noncomputable def Fbeltwaymake_Config (a0 : ((List Int) × Int)) : Option ((ByteArray × (List (Nat × Int × Int × Int)) × Int) × ((List Int) × Int)) :=
Option.bind (Fbeltwaymake_Deck_Next a0 3) (fun r1 =>
if r1.1 > 0 then
Option.bind (Fbeltwayref14_Names) (fun r2 =>
Option.bind (Fbeltwaymake_Deck_Next r1.2 6) (fun r3 =>
if 0 ≤ r3.1 ∧ r3.1 < (r2.length : Int) then
Option.bind (Fbeltwaymake_Deck_Next r3.2 100) (fun r4 =>
Option.bind (Fbeltwaymake_Deck_Next r4.2 6) (fun r5 =>
if 0 ≤ r5.1 ∧ r5.1 < (([10, 15, 25, 30, 50, w64 ((1 : Int) + r4.1)] : List Int).length : Int) then
Option.bind (Fbeltwayref14_Get (gl (⟨#[]⟩ : ByteArray) r2 r3.1.toNat) (gl (0 : Int) ([10, 15, 25, 30, 50, w64 ((1 : Int) + r4.1)] : List Int) r5.1.toNat)) (fun r6 =>
Option.bind (α := (((List Int) × Int) × (ByteArray × (List (Nat × Int × Int × Int)) × Int)) ⊕ ((ByteArray × (List (Nat × Int × Int × Int)) × Int) × ((List Int) × Int))) (if r6.1.2.2 > 0 then
Option.bind (Fbeltwaymake_Deck_Next r5.2 5) (fun r7 =>
some (Sum.inl ((r7.2, (r6.1.1, r6.1.2.1, w64 ((1 : Int) + r7.1))))))
else some (Sum.inl ((r5.2, r6.1)))) (fun q => match q with
| Sum.inl j1 => (some ((j1.2, j1.1)))
| Sum.inr b1 => some b1))
else none))
else none))
else Option.bind (Fbeltwaymake_Deck_Next r1.2 4) (fun r8 =>
loopO (σ := (Int × ((List Int) × Int) × (ByteArray × (List (Nat × Int × Int × Int)) × Int))) (β := ((ByteArray × (List (Nat × Int × Int × Int)) × Int) × ((List Int) × Int))) (fun s1 =>
if s1.1 < (w64 ((1 : Int) + r8.1)) then
Option.bind (Fbeltwaymake_Deck_Next s1.2.1 3) (fun r9 =>
Option.bind (α := (((List Int) × Int) × (Nat × Int × Int × Int)) ⊕ ((Int × ((List Int) × Int) × (ByteArray × (List (Nat × Int × Int × Int)) × Int)) ⊕ ((ByteArray × (List (Nat × Int × Int × Int)) × Int) × ((List Int) × Int)))) (Option.bind (Fbeltwaymake_Deck_Next r9.2 3) (fun r10 =>
if r10.1 > 0 then
Option.bind (Fbeltwaymake_Share r10.2) (fun r11 =>
some (Sum.inl ((r11.2, (r11.1, 0, r9.1, w64 (s1.1 + 1))))))
else some (Sum.inl ((r10.2, (0, 0, r9.1, w64 (s1.1 + 1))))))) (fun q => match q with
| Sum.inl j2 => (if s1.1 < (w64 ((w64 ((1 : Int) + r8.1)) - 1)) then
Option.bind (Fbeltwaymake_Deck_Next j2.1 3) (fun r12 =>
if r12.1 = 0 then
Option.bind (Fbeltwaymake_Deck_Next r12.2 2) (fun r13 =>
if s1.1 = (w64 ((w64 ((1 : Int) + r8.1)) - 1)) then
if fOrd j2.2.1 0 = some .eq then
Option.bind (Fbeltwaymake_Deck_Next r13.2 6) (fun r14 =>
if (s1.2.2.2.1.length + ([(j2.2.1, w64 ((1 : Int) + r13.1), j2.2.2.2.1, s1.1)] : List (Nat × Int × Int × Int)).length) * 32 ≤ 140737488355328 then
some (Sum.inl ((w64 (s1.1 + 1), r14.2, (s1.2.2.1, s1.2.2.2.1 ++ ([(j2.2.1, w64 ((1 : Int) + r13.1), j2.2.2.2.1, s1.1)] : List (Nat × Int × Int × Int)), w64 ((1 : Int) + r14.1)))))
else none)
else if (s1.2.2.2.1.length + ([(j2.2.1, w64 ((1 : Int) + r13.1), j2.2.2.2.1, s1.1)] : List (Nat × Int × Int × Int)).length) * 32 ≤ 140737488355328 then
some (Sum.inl ((w64 (s1.1 + 1), r13.2, (s1.2.2.1, s1.2.2.2.1 ++ ([(j2.2.1, w64 ((1 : Int) + r13.1), j2.2.2.2.1, s1.1)] : List (Nat × Int × Int × Int)), s1.2.2.2.2))))
else none
else if (s1.2.2.2.1.length + ([(j2.2.1, w64 ((1 : Int) + r13.1), j2.2.2.2)] : List (Nat × Int × Int × Int)).length) * 32 ≤ 140737488355328 then
some (Sum.inl ((w64 (s1.1 + 1), r13.2, (s1.2.2.1, s1.2.2.2.1 ++ ([(j2.2.1, w64 ((1 : Int) + r13.1), j2.2.2.2)] : List (Nat × Int × Int × Int)), s1.2.2.2.2))))
else none)
else if s1.1 = (w64 ((w64 ((1 : Int) + r8.1)) - 1)) then
if fOrd j2.2.1 0 = some .eq then
Option.bind (Fbeltwaymake_Deck_Next r12.2 6) (fun r15 =>
if (s1.2.2.2.1.length + ([(j2.2.1, j2.2.2.1, j2.2.2.2.1, s1.1)] : List (Nat × Int × Int × Int)).length) * 32 ≤ 140737488355328 then
some (Sum.inl ((w64 (s1.1 + 1), r15.2, (s1.2.2.1, s1.2.2.2.1 ++ ([(j2.2.1, j2.2.2.1, j2.2.2.2.1, s1.1)] : List (Nat × Int × Int × Int)), w64 ((1 : Int) + r15.1)))))
else none)
else if (s1.2.2.2.1.length + ([(j2.2.1, j2.2.2.1, j2.2.2.2.1, s1.1)] : List (Nat × Int × Int × Int)).length) * 32 ≤ 140737488355328 then
some (Sum.inl ((w64 (s1.1 + 1), r12.2, (s1.2.2.1, s1.2.2.2.1 ++ ([(j2.2.1, j2.2.2.1, j2.2.2.2.1, s1.1)] : List (Nat × Int × Int × Int)), s1.2.2.2.2))))
else none
else if (s1.2.2.2.1.length + ([j2.2] : List (Nat × Int × Int × Int)).length) * 32 ≤ 140737488355328 then
some (Sum.inl ((w64 (s1.1 + 1), r12.2, (s1.2.2.1, s1.2.2.2.1 ++ ([j2.2] : List (Nat × Int × Int × Int)), s1.2.2.2.2))))
else none)
else if s1.1 = (w64 ((w64 ((1 : Int) + r8.1)) - 1)) then
if fOrd j2.2.1 0 = some .eq then
Option.bind (Fbeltwaymake_Deck_Next j2.1 6) (fun r16 =>
if (s1.2.2.2.1.length + ([(j2.2.1, j2.2.2.1, j2.2.2.2.1, s1.1)] : List (Nat × Int × Int × Int)).length) * 32 ≤ 140737488355328 then
some (Sum.inl ((w64 (s1.1 + 1), r16.2, (s1.2.2.1, s1.2.2.2.1 ++ ([(j2.2.1, j2.2.2.1, j2.2.2.2.1, s1.1)] : List (Nat × Int × Int × Int)), w64 ((1 : Int) + r16.1)))))
else none)
else if (s1.2.2.2.1.length + ([(j2.2.1, j2.2.2.1, j2.2.2.2.1, s1.1)] : List (Nat × Int × Int × Int)).length) * 32 ≤ 140737488355328 then
some (Sum.inl ((w64 (s1.1 + 1), j2.1, (s1.2.2.1, s1.2.2.2.1 ++ ([(j2.2.1, j2.2.2.1, j2.2.2.2.1, s1.1)] : List (Nat × Int × Int × Int)), s1.2.2.2.2))))
else none
else if (s1.2.2.2.1.length + ([j2.2] : List (Nat × Int × Int × Int)).length) * 32 ≤ 140737488355328 then
some (Sum.inl ((w64 (s1.1 + 1), j2.1, (s1.2.2.1, s1.2.2.2.1 ++ ([j2.2] : List (Nat × Int × Int × Int)), s1.2.2.2.2))))
else none)
| Sum.inr b2 => some b2))
else some (Sum.inr ((s1.2.2, s1.2.1)))) ((0, r8.2, (⟨#[111, 119, 110]⟩, [], 0)))))
@[reducible] noncomputable def iFbeltwaymake_Config : FnI := { ps := [⟨(.pair (.slice (.int .i64)) (.int .i64)), true, false, true⟩], rs := [⟨(.pair .str (.pair (.slice (.pair .flt (.pair (.int .i64) (.pair (.int .i64) (.int .i64))))) (.int .i64))), true, true, false⟩], os := [⟨(.pair (.slice (.int .i64)) (.int .i64)), true, false, true⟩], bk := [0], F := fun x => Fbeltwaymake_Config x }
noncomputable def cFbeltwaymake_Config : Cx := { nm := [(2, (2, 1)), (3, (10, 1)), (6, (15, 1)), (8, (17, 1)), (10, (3, 1)), (13, (4, 1)), (15, (5, 1)), (19, (6, 1)), (21, (7, 1)), (23, (8, 1)), (26, (9, 1)), (33, (11, 1)), (38, (14, 1)), (47, (16, 1)), (52, (18, 1)), (55, (19, 1)), (63, (21, 1)), (67, (22, 1)), (80, (23, 1)), (86, (24, 1)), (87, (25, 1))], keep := [87], fns := tabF [(17, iFbeltwaymake_Deck_Next), (18, iFbeltwayref14_Get), (19, iFbeltwayref14_Names), (20, iFbeltwaymake_Share)], loops := [(0, { live := [(7, ⟨(.int .i64), false, false, false⟩)], boxes := [(0, ⟨(.pair (.slice (.int .i64)) (.int .i64)), true, false, false⟩), (15, ⟨(.pair .str (.pair (.slice (.pair .flt (.pair (.int .i64) (.pair (.int .i64) (.int .i64))))) (.int .i64))), true, true, false⟩)], rows := [], dead := [8, 41, 42, 43, 44, 45, 46, 47, 48, 49, 50, 51, 52, 53, 54, 55, 56, 57, 58, 59, 60, 61, 62, 63, 64, 65, 66, 67, 68, 69, 70, 71, 72, 73, 74, 75, 76, 77, 78, 79, 80, 81, 82, 83, 84, 85, 86, 87, 88], lost := [], base := 27 })], joins := [(5, { live := [], boxes := [(0, ⟨(.pair (.slice (.int .i64)) (.int .i64)), true, false, false⟩), (10, ⟨(.pair .str (.pair (.slice (.pair .flt (.pair (.int .i64) (.pair (.int .i64) (.int .i64))))) (.int .i64))), true, true, false⟩)], rows := [], dead := [29, 30, 31, 32, 33, 34, 35], lost := [9], base := 12 }), (14, { live := [], boxes := [(0, ⟨(.pair (.slice (.int .i64)) (.int .i64)), true, false, false⟩), (17, ⟨(.pair .flt (.pair (.int .i64) (.pair (.int .i64) (.int .i64)))), true, false, false⟩)], rows := [], dead := [51, 52, 53, 54, 55, 56], lost := [], base := 20 })], tb := tabs, exts := [], lets := [] }
theorem eFbeltwaymake_Config : (fun x : HT iFbeltwaymake_Config.ps => iFbeltwaymake_Config.F x) = fun x => rk Try.prog cFbeltwaymake_Config (Try.f6.body.getD .skip) (HT (iFbeltwaymake_Config.rs ++ iFbeltwaymake_Config.os)) 1000000 (finK Try.prog [.cell 2 25] [0] iFbeltwaymake_Config.os (iFbeltwaymake_Config.rs ++ iFbeltwaymake_Config.os)) (initF iFbeltwaymake_Config.ps x 90) (initL iFbeltwaymake_Config.ps x 27) := by kernel_rfl
theorem okFbeltwaymake_Config : CallsV Try.prog tabs 6 iFbeltwaymake_Config :=
  callsV_of_rk (cx := cFbeltwaymake_Config) (fn := Try.f6) (c := Try.f6.body.getD .skip) (n := 90) (N := 27) (rvs := [.cell 2 25]) (cxOk (.cons okFbeltwaymake_Deck_Next (.cons okFbeltwayref14_Get (.cons okFbeltwayref14_Names (.cons okFbeltwaymake_Share TabOk.nil)))) XtOk.nil) Try.func6 rfl (by kernel_rfl) rfl rfl (by decide) (by decide) (fun x => congrFun eFbeltwaymake_Config x)
noncomputable def Fshare_Valid (a0 : Nat) : Option Bool :=
if a0 < 18446744073709551616 then
if (BitVec.ofNat 64 a0) = (0#64) then
some (true)
else if fOrd a0 0 = some .gt then
some (decide (fOrd a0 4607182418800017408 = some .lt ∨ fOrd a0 4607182418800017408 = some .eq))
else some (false)
else none
@[reducible] noncomputable def iFshare_Valid : FnI := { ps := [⟨.flt, false, false, false⟩], rs := [⟨.bool, false, true, false⟩], os := [], bk := [], F := fun x => Fshare_Valid x }
noncomputable def cFshare_Valid : Cx := { nm := [], keep := [], fns := tabF [], loops := [], joins := [], tb := tabs, exts := [(36, .f64bits)], lets := [] }
theorem eFshare_Valid : (fun x : HT iFshare_Valid.ps => iFshare_Valid.F x) = fun x => rk Try.prog cFshare_Valid (Try.f32.body.getD .skip) (HT (iFshare_Valid.rs ++ iFshare_Valid.os)) 1000000 (finK Try.prog [.tmp 2] [] iFshare_Valid.os (iFshare_Valid.rs ++ iFshare_Valid.os)) (initF iFshare_Valid.ps x 14) (initL iFshare_Valid.ps x 0) := by kernel_rfl
theorem xt36 : XtOk Try.prog 36 .f64bits := ⟨Try.f36, Try.func36, by kernel_rfl, by kernel_rfl, by kernel_rfl, by kernel_rfl⟩
theorem okFshare_Valid : CallsV Try.prog tabs 32 iFshare_Valid :=
  callsV_of_rk (cx := cFshare_Valid) (fn := Try.f32) (c := Try.f32.body.getD .skip) (n := 14) (N := 0) (rvs := [.tmp 2]) (cxOk TabOk.nil (.cons xt36 XtOk.nil)) Try.func32 rfl (by kernel_rfl) rfl rfl (by decide) (by decide) (fun x => congrFun eFshare_Valid x)
noncomputable def Fconfig_count (a0 : Int) : Option Bool :=
if a0 ≥ 0 then
some (decide (a0 ≤ 64))
else some (false)
@[reducible] noncomputable def iFconfig_count : FnI := { ps := [⟨(.int .i64), false, false, false⟩], rs := [⟨.bool, false, true, false⟩], os := [], bk := [], F := fun x => Fconfig_count x }
noncomputable def cFconfig_count : Cx := { nm := [], keep := [], fns := tabF [], loops := [], joins := [], tb := tabs, exts := [], lets := [] }
theorem eFconfig_count : (fun x : HT iFconfig_count.ps => iFconfig_count.F x) = fun x => rk Try.prog cFconfig_count (Try.f33.body.getD .skip) (HT (iFconfig_count.rs ++ iFconfig_count.os)) 1000000 (finK Try.prog [.tmp 2] [] iFconfig_count.os (iFconfig_count.rs ++ iFconfig_count.os)) (initF iFconfig_count.ps x 9) (initL iFconfig_count.ps x 0) := by kernel_rfl
theorem okFconfig_count : CallsV Try.prog tabs 33 iFconfig_count :=
  callsV_of_rk (cx := cFconfig_count) (fn := Try.f33) (c := Try.f33.body.getD .skip) (n := 9) (N := 0) (rvs := [.tmp 2]) (cxOk TabOk.nil XtOk.nil) Try.func33 rfl (by kernel_rfl) rfl rfl (by decide) (by decide) (fun x => congrFun eFconfig_count x)
noncomputable def Fconfig_rule (a0 : (ByteArray × (List (Nat × Int × Int × Int)) × Int)) (a1 : Int) : Option Int :=
if 0 ≤ a1 ∧ a1 < (a0.2.1.length : Int) then
Option.bind (Fshare_Valid ((gl ((0, 0, 0, 0) : (Nat × Int × Int × Int)) a0.2.1 a1.toNat).1)) (fun r1 =>
if (!r1) = true then
some (6)
else Option.bind (Fconfig_count (((gl ((0, 0, 0, 0) : (Nat × Int × Int × Int)) a0.2.1 a1.toNat).2).1)) (fun r2 =>
if (!r2) = true then
some (9)
else Option.bind (Fconfig_count ((((gl ((0, 0, 0, 0) : (Nat × Int × Int × Int)) a0.2.1 a1.toNat).2).2).1)) (fun r3 =>
if (!r3) = true then
some (9)
else if a1 = (w64 ((a0.2.1.length : Int) - 1)) then
if ¬ (((gl ((0, 0, 0, 0) : (Nat × Int × Int × Int)) a0.2.1 a1.toNat).2).1) = 0 then
some (9)
else if a1 = (w64 ((a0.2.1.length : Int) - 1)) then
if ¬ ((((gl ((0, 0, 0, 0) : (Nat × Int × Int × Int)) a0.2.1 a1.toNat).2).2).2) = a1 then
some (10)
else if a1 < (w64 ((a0.2.1.length : Int) - 1)) then
if ((((gl ((0, 0, 0, 0) : (Nat × Int × Int × Int)) a0.2.1 a1.toNat).2).2).2) ≤ a1 then
some (10)
else if ((((gl ((0, 0, 0, 0) : (Nat × Int × Int × Int)) a0.2.1 a1.toNat).2).2).2) > (w64 ((a0.2.1.length : Int) - 1)) then
some (10)
else some (0)
else some (0)
else if a1 < (w64 ((a0.2.1.length : Int) - 1)) then
if ((((gl ((0, 0, 0, 0) : (Nat × Int × Int × Int)) a0.2.1 a1.toNat).2).2).2) ≤ a1 then
some (10)
else if ((((gl ((0, 0, 0, 0) : (Nat × Int × Int × Int)) a0.2.1 a1.toNat).2).2).2) > (w64 ((a0.2.1.length : Int) - 1)) then
some (10)
else some (0)
else some (0)
else if a1 = (w64 ((a0.2.1.length : Int) - 1)) then
if ¬ ((((gl ((0, 0, 0, 0) : (Nat × Int × Int × Int)) a0.2.1 a1.toNat).2).2).2) = a1 then
some (10)
else if a1 < (w64 ((a0.2.1.length : Int) - 1)) then
if ((((gl ((0, 0, 0, 0) : (Nat × Int × Int × Int)) a0.2.1 a1.toNat).2).2).2) ≤ a1 then
some (10)
else if ((((gl ((0, 0, 0, 0) : (Nat × Int × Int × Int)) a0.2.1 a1.toNat).2).2).2) > (w64 ((a0.2.1.length : Int) - 1)) then
some (10)
else some (0)
else some (0)
else if a1 < (w64 ((a0.2.1.length : Int) - 1)) then
if ((((gl ((0, 0, 0, 0) : (Nat × Int × Int × Int)) a0.2.1 a1.toNat).2).2).2) ≤ a1 then
some (10)
else if ((((gl ((0, 0, 0, 0) : (Nat × Int × Int × Int)) a0.2.1 a1.toNat).2).2).2) > (w64 ((a0.2.1.length : Int) - 1)) then
some (10)
else some (0)
else some (0))))
else none
@[reducible] noncomputable def iFconfig_rule : FnI := { ps := [⟨(.pair .str (.pair (.slice (.pair .flt (.pair (.int .i64) (.pair (.int .i64) (.int .i64))))) (.int .i64))), true, false, false⟩, ⟨(.int .i64), false, false, false⟩], rs := [⟨(.int .i64), false, true, false⟩], os := [], bk := [], F := fun x => Fconfig_rule x.1 x.2 }
noncomputable def cFconfig_rule : Cx := { nm := [(2, (1, 1)), (5, (2, 1))], keep := [], fns := tabF [(32, iFshare_Valid), (33, iFconfig_count)], loops := [], joins := [], tb := tabs, exts := [], lets := [] }
theorem eFconfig_rule : (fun x : HT iFconfig_rule.ps => iFconfig_rule.F x) = fun x => rk Try.prog cFconfig_rule (Try.f22.body.getD .skip) (HT (iFconfig_rule.rs ++ iFconfig_rule.os)) 1000000 (finK Try.prog [.tmp 4] [] iFconfig_rule.os (iFconfig_rule.rs ++ iFconfig_rule.os)) (initF iFconfig_rule.ps x 69) (initL iFconfig_rule.ps x 2) := by kernel_rfl
theorem okFconfig_rule : CallsV Try.prog tabs 22 iFconfig_rule :=
  callsV_of_rk (cx := cFconfig_rule) (fn := Try.f22) (c := Try.f22.body.getD .skip) (n := 69) (N := 2) (rvs := [.tmp 4]) (cxOk (.cons okFshare_Valid (.cons okFconfig_count TabOk.nil)) XtOk.nil) Try.func22 rfl (by kernel_rfl) rfl rfl (by decide) (by decide) (fun x => congrFun eFconfig_rule x)
noncomputable def Fconfig_targeted (a0 : (ByteArray × (List (Nat × Int × Int × Int)) × Int)) (a1 : Int) : Option Bool :=
loopO (σ := Int) (β := Bool) (fun s1 =>
if s1 < (a0.2.1.length : Int) then
if 0 ≤ s1 ∧ s1 < (a0.2.1.length : Int) then
if ¬ s1 = a1 then
if ((((gl ((0, 0, 0, 0) : (Nat × Int × Int × Int)) a0.2.1 s1.toNat).2).2).2) = a1 then
some (Sum.inr (true))
else some (Sum.inl (w64 (s1 + 1)))
else some (Sum.inl (w64 (s1 + 1)))
else none
else some (Sum.inr (false))) (0)
@[reducible] noncomputable def iFconfig_targeted : FnI := { ps := [⟨(.pair .str (.pair (.slice (.pair .flt (.pair (.int .i64) (.pair (.int .i64) (.int .i64))))) (.int .i64))), true, false, false⟩, ⟨(.int .i64), false, false, false⟩], rs := [⟨.bool, false, true, false⟩], os := [], bk := [], F := fun x => Fconfig_targeted x.1 x.2 }
noncomputable def cFconfig_targeted : Cx := { nm := [(2, (1, 1)), (6, (2, 1))], keep := [], fns := tabF [], loops := [(0, { live := [(10, ⟨(.int .i64), false, false, false⟩)], boxes := [], rows := [], dead := [4, 5, 6, 11, 12, 13, 14, 15, 16, 17, 18, 19, 20, 21, 22, 23, 24], lost := [], base := 2 })], joins := [], tb := tabs, exts := [], lets := [] }
theorem eFconfig_targeted : (fun x : HT iFconfig_targeted.ps => iFconfig_targeted.F x) = fun x => rk Try.prog cFconfig_targeted (Try.f23.body.getD .skip) (HT (iFconfig_targeted.rs ++ iFconfig_targeted.os)) 1000000 (finK Try.prog [.tmp 4] [] iFconfig_targeted.os (iFconfig_targeted.rs ++ iFconfig_targeted.os)) (initF iFconfig_targeted.ps x 25) (initL iFconfig_targeted.ps x 2) := by kernel_rfl
theorem okFconfig_targeted : CallsV Try.prog tabs 23 iFconfig_targeted :=
  callsV_of_rk (cx := cFconfig_targeted) (fn := Try.f23) (c := Try.f23.body.getD .skip) (n := 25) (N := 2) (rvs := [.tmp 4]) (cxOk TabOk.nil XtOk.nil) Try.func23 rfl (by kernel_rfl) rfl rfl (by decide) (by decide) (fun x => congrFun eFconfig_targeted x)
noncomputable def Fconfig_Check (a0 : (ByteArray × (List (Nat × Int × Int × Int)) × Int)) : Option Int :=
Option.bind (Fconfig_named a0.1) (fun r1 =>
if (!r1) = true then
some (7)
else if (a0.2.1.length : Int) < 1 then
some (8)
else if (a0.2.1.length : Int) > 4 then
some (8)
else loopO (σ := Int) (β := Int) (fun s1 =>
if s1 < (a0.2.1.length : Int) then
Option.bind (Fconfig_rule a0 s1) (fun r2 =>
if ¬ r2 = 0 then
some (Sum.inr (r2))
else some (Sum.inl (w64 (s1 + 1))))
else Option.map Sum.inr (loopO (σ := Int) (β := Int) (fun s2 =>
if s2 < (a0.2.1.length : Int) then
Option.bind (Fconfig_targeted a0 s2) (fun r3 =>
if (!r3) = true then
some (Sum.inr (10))
else some (Sum.inl (w64 (s2 + 1))))
else Option.map Sum.inr (if 0 ≤ (w64 ((a0.2.1.length : Int) - 1)) ∧ (w64 ((a0.2.1.length : Int) - 1)) < (a0.2.1.length : Int) then
if fOrd ((gl ((0, 0, 0, 0) : (Nat × Int × Int × Int)) a0.2.1 ((w64 ((a0.2.1.length : Int) - 1)).toNat)).1) 0 = some .eq then
if a0.2.2 < 1 then
some (9)
else if a0.2.2 > 64 then
if a0.2.2 > 64 then
some (9)
else some (0)
else if ¬ (fOrd ((gl ((0, 0, 0, 0) : (Nat × Int × Int × Int)) a0.2.1 ((w64 ((a0.2.1.length : Int) - 1)).toNat)).1) 0 = some .eq) then
if ¬ a0.2.2 = 0 then
some (9)
else some (0)
else some (0)
else if ¬ (fOrd ((gl ((0, 0, 0, 0) : (Nat × Int × Int × Int)) a0.2.1 ((w64 ((a0.2.1.length : Int) - 1)).toNat)).1) 0 = some .eq) then
if ¬ a0.2.2 = 0 then
some (9)
else some (0)
else some (0)
else none)) (1))) (0))
@[reducible] noncomputable def iFconfig_Check : FnI := { ps := [⟨(.pair .str (.pair (.slice (.pair .flt (.pair (.int .i64) (.pair (.int .i64) (.int .i64))))) (.int .i64))), true, false, false⟩], rs := [⟨(.int .i64), false, true, false⟩], os := [], bk := [], F := fun x => Fconfig_Check x }
noncomputable def cFconfig_Check : Cx := { nm := [(1, (1, 1))], keep := [], fns := tabF [(21, iFconfig_named), (22, iFconfig_rule), (23, iFconfig_targeted)], loops := [(1, { live := [(26, ⟨(.int .i64), false, false, false⟩)], boxes := [], rows := [], dead := [2, 3, 4, 27, 28, 29, 30, 31, 32, 33, 34, 35], lost := [], base := 2 }), (3, { live := [(5, ⟨(.int .i64), false, false, false⟩)], boxes := [], rows := [], dead := [2, 36, 37, 38, 39, 40, 41, 42, 43, 44, 45, 46], lost := [], base := 2 })], joins := [], tb := tabs, exts := [], lets := [] }
theorem eFconfig_Check : (fun x : HT iFconfig_Check.ps => iFconfig_Check.F x) = fun x => rk Try.prog cFconfig_Check (Try.f8.body.getD .skip) (HT (iFconfig_Check.rs ++ iFconfig_Check.os)) 1000000 (finK Try.prog [.tmp 2] [] iFconfig_Check.os (iFconfig_Check.rs ++ iFconfig_Check.os)) (initF iFconfig_Check.ps x 76) (initL iFconfig_Check.ps x 1) := by kernel_rfl
theorem okFconfig_Check : CallsV Try.prog tabs 8 iFconfig_Check :=
  callsV_of_rk (cx := cFconfig_Check) (fn := Try.f8) (c := Try.f8.body.getD .skip) (n := 76) (N := 1) (rvs := [.tmp 2]) (cxOk (.cons okFconfig_named (.cons okFconfig_rule (.cons okFconfig_targeted TabOk.nil))) XtOk.nil) Try.func8 rfl (by kernel_rfl) rfl rfl (by decide) (by decide) (fun x => congrFun eFconfig_Check x)
noncomputable def Fconfig_Complete (a0 : (ByteArray × (List (Nat × Int × Int × Int)) × Int)) : Option Bool :=
Option.bind (Fconfig_Check a0) (fun r1 =>
if r1 = 0 then
if 0 ≤ (w64 ((a0.2.1.length : Int) - 1)) ∧ (w64 ((a0.2.1.length : Int) - 1)) < (a0.2.1.length : Int) then
some (decide (fOrd ((gl ((0, 0, 0, 0) : (Nat × Int × Int × Int)) a0.2.1 ((w64 ((a0.2.1.length : Int) - 1)).toNat)).1) 0 = some .eq))
else none
else some (false))
@[reducible] noncomputable def iFconfig_Complete : FnI := { ps := [⟨(.pair .str (.pair (.slice (.pair .flt (.pair (.int .i64) (.pair (.int .i64) (.int .i64))))) (.int .i64))), true, false, false⟩], rs := [⟨.bool, false, true, false⟩], os := [], bk := [], F := fun x => Fconfig_Complete x }
noncomputable def cFconfig_Complete : Cx := { nm := [(1, (1, 1))], keep := [], fns := tabF [(8, iFconfig_Check)], loops := [], joins := [], tb := tabs, exts := [], lets := [] }
theorem eFconfig_Complete : (fun x : HT iFconfig_Complete.ps => iFconfig_Complete.F x) = fun x => rk Try.prog cFconfig_Complete (Try.f14.body.getD .skip) (HT (iFconfig_Complete.rs ++ iFconfig_Complete.os)) 1000000 (finK Try.prog [.tmp 2] [] iFconfig_Complete.os (iFconfig_Complete.rs ++ iFconfig_Complete.os)) (initF iFconfig_Complete.ps x 18) (initL iFconfig_Complete.ps x 1) := by kernel_rfl
theorem okFconfig_Complete : CallsV Try.prog tabs 14 iFconfig_Complete :=
  callsV_of_rk (cx := cFconfig_Complete) (fn := Try.f14) (c := Try.f14.body.getD .skip) (n := 18) (N := 1) (rvs := [.tmp 2]) (cxOk (.cons okFconfig_Check TabOk.nil) XtOk.nil) Try.func14 rfl (by kernel_rfl) rfl rfl (by decide) (by decide) (fun x => congrFun eFconfig_Complete x)
noncomputable def Fbeltwaylaw12_awake  : Option Bool :=
Option.bind (Fconfig_Check (⟨#[97]⟩, ([(4598175219545276416, 0, 0, 1), (0, 0, 0, 1)] : List (Nat × Int × Int × Int)), 8)) (fun r1 =>
if r1 = 0 then
Option.bind (Fconfig_Complete (⟨#[97]⟩, ([(4598175219545276416, 0, 0, 1), (0, 0, 0, 1)] : List (Nat × Int × Int × Int)), 8)) (fun r2 =>
if r2 = true then
Option.bind (Fconfig_Check (⟨#[97]⟩, ([(0, 0, 0, 0), (0, 0, 0, 1)] : List (Nat × Int × Int × Int)), 8)) (fun r3 =>
some (decide (r3 = 10)))
else some (false))
else some (false))
@[reducible] noncomputable def iFbeltwaylaw12_awake : FnI := { ps := [], rs := [⟨.bool, false, true, false⟩], os := [], bk := [], F := fun x => Fbeltwaylaw12_awake  }
noncomputable def cFbeltwaylaw12_awake : Cx := { nm := [(1, (1, 1)), (2, (3, 1)), (5, (0, 1)), (9, (2, 1))], keep := [], fns := tabF [(8, iFconfig_Check), (14, iFconfig_Complete)], loops := [], joins := [], tb := tabs, exts := [], lets := [] }
theorem eFbeltwaylaw12_awake : (fun x : HT iFbeltwaylaw12_awake.ps => iFbeltwaylaw12_awake.F x) = fun x => rk Try.prog cFbeltwaylaw12_awake (Try.f9.body.getD .skip) (HT (iFbeltwaylaw12_awake.rs ++ iFbeltwaylaw12_awake.os)) 1000000 (finK Try.prog [.tmp 0] [] iFbeltwaylaw12_awake.os (iFbeltwaylaw12_awake.rs ++ iFbeltwaylaw12_awake.os)) (initF iFbeltwaylaw12_awake.ps x 23) (initL iFbeltwaylaw12_awake.ps x 4) := by kernel_rfl
theorem okFbeltwaylaw12_awake : CallsV Try.prog tabs 9 iFbeltwaylaw12_awake :=
  callsV_of_rk (cx := cFbeltwaylaw12_awake) (fn := Try.f9) (c := Try.f9.body.getD .skip) (n := 23) (N := 4) (rvs := [.tmp 0]) (cxOk (.cons okFconfig_Check (.cons okFconfig_Complete TabOk.nil)) XtOk.nil) Try.func9 rfl (by kernel_rfl) rfl rfl (by decide) (by decide) (fun x => congrFun eFbeltwaylaw12_awake x)
noncomputable def Fbeltwaylaw12_ConfigUpward (a0 : (List Int)) : Option Bool :=
Option.bind (Fbeltwaymake_New a0) (fun r1 =>
Option.bind (Fbeltwaymake_Config r1) (fun r2 =>
Option.bind (Fconfig_Check r2.1) (fun r3 =>
if ¬ r3 = 0 then
some (false)
else loopO (σ := Int) (β := Bool) (fun s1 =>
if s1 < (r2.1.2.1.length : Int) then
loopO (σ := (Int × Int)) (β := (Int ⊕ Bool)) (fun s2 =>
if ¬ s2.1 = (w64 ((r2.1.2.1.length : Int) - 1)) then
if s2.2 ≤ (r2.1.2.1.length : Int) then
if 0 ≤ s2.1 ∧ s2.1 < (r2.1.2.1.length : Int) then
if ((((gl ((0, 0, 0, 0) : (Nat × Int × Int × Int)) r2.1.2.1 s2.1.toNat).2).2).2) ≤ s2.1 then
some (Sum.inr (Sum.inr (false)))
else if 0 ≤ s2.1 ∧ s2.1 < (r2.1.2.1.length : Int) then
some (Sum.inl (((((gl ((0, 0, 0, 0) : (Nat × Int × Int × Int)) r2.1.2.1 s2.1.toNat).2).2).2, w64 (s2.2 + 1))))
else none
else none
else Option.map Sum.inr (loopO (σ := (Bool × Int)) (β := (Int ⊕ Bool)) (fun s3 =>
if s3.2 < s1 then
if s3.1 = true then
some (Sum.inl ((true, w64 (s3.2 + 1))))
else if 0 ≤ s3.2 ∧ s3.2 < (r2.1.2.1.length : Int) then
some (Sum.inl ((decide (((((gl ((0, 0, 0, 0) : (Nat × Int × Int × Int)) r2.1.2.1 s3.2.toNat).2).2).2) = s1), w64 (s3.2 + 1))))
else none
else Option.map Sum.inr (if ¬ s2.1 = (w64 ((r2.1.2.1.length : Int) - 1)) then
some (Sum.inr (false))
else if (!s3.1) = true then
some (Sum.inr (false))
else some (Sum.inl (w64 (s1 + 1))))) ((decide (s1 = 0), 0)))
else Option.map Sum.inr (loopO (σ := (Bool × Int)) (β := (Int ⊕ Bool)) (fun s4 =>
if s4.2 < s1 then
if s4.1 = true then
some (Sum.inl ((true, w64 (s4.2 + 1))))
else if 0 ≤ s4.2 ∧ s4.2 < (r2.1.2.1.length : Int) then
some (Sum.inl ((decide (((((gl ((0, 0, 0, 0) : (Nat × Int × Int × Int)) r2.1.2.1 s4.2.toNat).2).2).2) = s1), w64 (s4.2 + 1))))
else none
else Option.map Sum.inr (if ¬ s2.1 = (w64 ((r2.1.2.1.length : Int) - 1)) then
some (Sum.inr (false))
else if (!s4.1) = true then
some (Sum.inr (false))
else some (Sum.inl (w64 (s1 + 1))))) ((decide (s1 = 0), 0)))) ((s1, 0))
else Option.map Sum.inr (if 0 ≤ (w64 ((r2.1.2.1.length : Int) - 1)) ∧ (w64 ((r2.1.2.1.length : Int) - 1)) < (r2.1.2.1.length : Int) then
if ((((gl ((0, 0, 0, 0) : (Nat × Int × Int × Int)) r2.1.2.1 ((w64 ((r2.1.2.1.length : Int) - 1)).toNat)).2).2).2) = (w64 ((r2.1.2.1.length : Int) - 1)) then
Option.bind (Fbeltwaylaw12_awake) (fun r4 =>
some (r4))
else some (false)
else none)) (0))))
@[reducible] noncomputable def iFbeltwaylaw12_ConfigUpward : FnI := { ps := [⟨(.slice (.int .i64)), false, false, false⟩], rs := [⟨.bool, false, true, false⟩], os := [], bk := [], F := fun x => Fbeltwaylaw12_ConfigUpward x }
noncomputable def cFbeltwaylaw12_ConfigUpward : Cx := { nm := [(3, (5, 1)), (11, (1, 2)), (12, (3, 2))], keep := [], fns := tabF [(6, iFbeltwaymake_Config), (7, iFbeltwaymake_New), (8, iFconfig_Check), (9, iFbeltwaylaw12_awake)], loops := [(0, { live := [(5, ⟨(.int .i64), false, false, false⟩)], boxes := [], rows := [], dead := [2, 6, 7, 8, 9, 19, 20, 21, 22, 23, 24, 25, 26, 27, 28, 29, 30, 31, 32, 33, 34, 35, 36, 37, 38, 39, 40, 41, 42, 43, 44, 45, 46, 47, 48, 49, 50, 51, 52, 53, 54, 55, 56, 57, 58, 59, 60, 61, 62, 63, 64, 65, 66, 67, 68, 69, 70, 71, 72, 73, 74, 75], lost := [], base := 6 }), (2, { live := [(6, ⟨(.int .i64), false, false, false⟩), (7, ⟨(.int .i64), false, false, false⟩)], boxes := [], rows := [], dead := [2, 25, 26, 27, 28, 29, 30, 31, 32, 33, 34, 35, 36, 37, 38, 39, 40, 41, 42, 43, 44, 45, 46, 47, 48, 49], lost := [], base := 6 }), (4, { live := [(8, ⟨.bool, false, false, false⟩), (9, ⟨(.int .i64), false, false, false⟩)], boxes := [], rows := [], dead := [52, 53, 54, 55, 56, 57, 58, 59, 60, 61, 62, 63, 64, 65, 66, 67], lost := [], base := 6 })], joins := [], tb := tabs, exts := [], lets := [] }
theorem eFbeltwaylaw12_ConfigUpward : (fun x : HT iFbeltwaylaw12_ConfigUpward.ps => iFbeltwaylaw12_ConfigUpward.F x) = fun x => rk Try.prog cFbeltwaylaw12_ConfigUpward (Try.f3.body.getD .skip) (HT (iFbeltwaylaw12_ConfigUpward.rs ++ iFbeltwaylaw12_ConfigUpward.os)) 1000000 (finK Try.prog [.tmp 2] [] iFbeltwaylaw12_ConfigUpward.os (iFbeltwaylaw12_ConfigUpward.rs ++ iFbeltwaylaw12_ConfigUpward.os)) (initF iFbeltwaylaw12_ConfigUpward.ps x 89) (initL iFbeltwaylaw12_ConfigUpward.ps x 5) := by kernel_rfl
theorem okFbeltwaylaw12_ConfigUpward : CallsV Try.prog tabs 3 iFbeltwaylaw12_ConfigUpward :=
  callsV_of_rk (cx := cFbeltwaylaw12_ConfigUpward) (fn := Try.f3) (c := Try.f3.body.getD .skip) (n := 89) (N := 5) (rvs := [.tmp 2]) (cxOk (.cons okFbeltwaymake_Config (.cons okFbeltwaymake_New (.cons okFconfig_Check (.cons okFbeltwaylaw12_awake TabOk.nil)))) XtOk.nil) Try.func3 rfl (by kernel_rfl) rfl rfl (by decide) (by decide) (fun x => congrFun eFbeltwaylaw12_ConfigUpward x)
noncomputable def Fmath_Abs (a0 : Nat) : Option Nat :=
if a0 < 18446744073709551616 then
some (((BitVec.ofNat 64 a0) &&& ~~~(9223372036854775808#64)).toNat)
else none
@[reducible] noncomputable def iFmath_Abs : FnI := { ps := [⟨.flt, false, false, false⟩], rs := [⟨.flt, false, true, false⟩], os := [], bk := [], F := fun x => Fmath_Abs x }
noncomputable def cFmath_Abs : Cx := { nm := [], keep := [], fns := tabF [], loops := [], joins := [], tb := tabs, exts := [(35, .f64from), (36, .f64bits)], lets := [] }
theorem eFmath_Abs : (fun x : HT iFmath_Abs.ps => iFmath_Abs.F x) = fun x => rk Try.prog cFmath_Abs (Try.f42.body.getD .skip) (HT (iFmath_Abs.rs ++ iFmath_Abs.os)) 1000000 (finK Try.prog [.tmp 2] [] iFmath_Abs.os (iFmath_Abs.rs ++ iFmath_Abs.os)) (initF iFmath_Abs.ps x 7) (initL iFmath_Abs.ps x 0) := by kernel_rfl
theorem xt35 : XtOk Try.prog 35 .f64from := ⟨Try.f35, Try.func35, by kernel_rfl, by kernel_rfl, by kernel_rfl, by kernel_rfl⟩
theorem okFmath_Abs : CallsV Try.prog tabs 42 iFmath_Abs :=
  callsV_of_rk (cx := cFmath_Abs) (fn := Try.f42) (c := Try.f42.body.getD .skip) (n := 7) (N := 0) (rvs := [.tmp 2]) (cxOk TabOk.nil (.cons xt35 (.cons xt36 XtOk.nil))) Try.func42 rfl (by kernel_rfl) rfl rfl (by decide) (by decide) (fun x => congrFun eFmath_Abs x)
noncomputable def Fmath_IsInf (a0 : Nat) (a1 : Int) : Option Bool :=
if a1 = 0 then
Option.bind (Fmath_Abs a0) (fun r1 =>
some (decide (fOrd r1 9218868437227405311 = some .gt)))
else if a1 < 0 then
some (decide (fOrd (fNeg a0) 9218868437227405311 = some .gt))
else some (decide (fOrd a0 9218868437227405311 = some .gt))
@[reducible] noncomputable def iFmath_IsInf : FnI := { ps := [⟨.flt, false, false, false⟩, ⟨(.int .i64), false, false, false⟩], rs := [⟨.bool, false, true, false⟩], os := [], bk := [], F := fun x => Fmath_IsInf x.1 x.2 }
noncomputable def cFmath_IsInf : Cx := { nm := [], keep := [], fns := tabF [(42, iFmath_Abs)], loops := [], joins := [], tb := tabs, exts := [], lets := [] }
theorem eFmath_IsInf : (fun x : HT iFmath_IsInf.ps => iFmath_IsInf.F x) = fun x => rk Try.prog cFmath_IsInf (Try.f39.body.getD .skip) (HT (iFmath_IsInf.rs ++ iFmath_IsInf.os)) 1000000 (finK Try.prog [.tmp 4] [] iFmath_IsInf.os (iFmath_IsInf.rs ++ iFmath_IsInf.os)) (initF iFmath_IsInf.ps x 15) (initL iFmath_IsInf.ps x 0) := by kernel_rfl
theorem okFmath_IsInf : CallsV Try.prog tabs 39 iFmath_IsInf :=
  callsV_of_rk (cx := cFmath_IsInf) (fn := Try.f39) (c := Try.f39.body.getD .skip) (n := 15) (N := 0) (rvs := [.tmp 4]) (cxOk (.cons okFmath_Abs TabOk.nil) XtOk.nil) Try.func39 rfl (by kernel_rfl) rfl rfl (by decide) (by decide) (fun x => congrFun eFmath_IsInf x)
noncomputable def Fmath_IsNaN (a0 : Nat) : Option Bool :=
some (decide (¬ fOrd a0 a0 = some .eq))
@[reducible] noncomputable def iFmath_IsNaN : FnI := { ps := [⟨.flt, false, false, false⟩], rs := [⟨.bool, false, true, false⟩], os := [], bk := [], F := fun x => Fmath_IsNaN x }
noncomputable def cFmath_IsNaN : Cx := { nm := [], keep := [], fns := tabF [], loops := [], joins := [], tb := tabs, exts := [], lets := [] }
theorem eFmath_IsNaN : (fun x : HT iFmath_IsNaN.ps => iFmath_IsNaN.F x) = fun x => rk Try.prog cFmath_IsNaN (Try.f40.body.getD .skip) (HT (iFmath_IsNaN.rs ++ iFmath_IsNaN.os)) 1000000 (finK Try.prog [.tmp 2] [] iFmath_IsNaN.os (iFmath_IsNaN.rs ++ iFmath_IsNaN.os)) (initF iFmath_IsNaN.ps x 6) (initL iFmath_IsNaN.ps x 0) := by kernel_rfl
theorem okFmath_IsNaN : CallsV Try.prog tabs 40 iFmath_IsNaN :=
  callsV_of_rk (cx := cFmath_IsNaN) (fn := Try.f40) (c := Try.f40.body.getD .skip) (n := 6) (N := 0) (rvs := [.tmp 2]) (cxOk TabOk.nil XtOk.nil) Try.func40 rfl (by kernel_rfl) rfl rfl (by decide) (by decide) (fun x => congrFun eFmath_IsNaN x)
noncomputable def Fmath_normalize (a0 : Nat) : Option (Nat × Int) :=
Option.bind (Fmath_Abs a0) (fun r1 =>
if fOrd r1 4503599627370496 = some .lt then
if (fArith .mul a0 4841369599423283200).isSome = true then
some (((fArith .mul a0 4841369599423283200).getD 0, (-52)))
else none
else some ((a0, 0)))
@[reducible] noncomputable def iFmath_normalize : FnI := { ps := [⟨.flt, false, false, false⟩], rs := [⟨.flt, false, true, false⟩, ⟨(.int .i64), false, true, false⟩], os := [], bk := [], F := fun x => Fmath_normalize x }
noncomputable def cFmath_normalize : Cx := { nm := [], keep := [], fns := tabF [(42, iFmath_Abs)], loops := [], joins := [], tb := tabs, exts := [], lets := [] }
theorem eFmath_normalize : (fun x : HT iFmath_normalize.ps => iFmath_normalize.F x) = fun x => rk Try.prog cFmath_normalize (Try.f41.body.getD .skip) (HT (iFmath_normalize.rs ++ iFmath_normalize.os)) 1000000 (finK Try.prog [.tmp 2, .tmp 3] [] iFmath_normalize.os (iFmath_normalize.rs ++ iFmath_normalize.os)) (initF iFmath_normalize.ps x 10) (initL iFmath_normalize.ps x 0) := by kernel_rfl
theorem okFmath_normalize : CallsV Try.prog tabs 41 iFmath_normalize :=
  callsV_of_rk (cx := cFmath_normalize) (fn := Try.f41) (c := Try.f41.body.getD .skip) (n := 10) (N := 0) (rvs := [.tmp 2, .tmp 3]) (cxOk (.cons okFmath_Abs TabOk.nil) XtOk.nil) Try.func41 rfl (by kernel_rfl) rfl rfl (by decide) (by decide) (fun x => congrFun eFmath_normalize x)
noncomputable def Fmath_frexp (a0 : Nat) : Option (Nat × Int) :=
if fOrd a0 0 = some .eq then
some ((a0, 0))
else Option.bind (Fmath_IsInf a0 0) (fun r1 =>
if r1 = true then
some ((a0, 0))
else Option.bind (Fmath_IsNaN a0) (fun r2 =>
if r2 = true then
some ((a0, 0))
else Option.bind (Fmath_normalize a0) (fun r3 =>
if r3.1 < 18446744073709551616 then
if True then
some (((((BitVec.ofNat 64 r3.1) &&& ~~~(9218868437227405312#64)) ||| (4602678819172646912#64)).toNat, w64 (r3.2 + (w64 ((w64 ((w64 (((((BitVec.ofNat 64 r3.1) >>> (52#64).toNat) &&& (2047#64)).toNat : Int))) - 1023)) + 1)))))
else none
else none)))
@[reducible] noncomputable def iFmath_frexp : FnI := { ps := [⟨.flt, false, false, false⟩], rs := [⟨.flt, false, true, false⟩, ⟨(.int .i64), false, true, false⟩], os := [], bk := [], F := fun x => Fmath_frexp x }
noncomputable def cFmath_frexp : Cx := { nm := [], keep := [], fns := tabF [(39, iFmath_IsInf), (40, iFmath_IsNaN), (41, iFmath_normalize)], loops := [], joins := [], tb := tabs, exts := [(35, .f64from), (36, .f64bits)], lets := [] }
theorem eFmath_frexp : (fun x : HT iFmath_frexp.ps => iFmath_frexp.F x) = fun x => rk Try.prog cFmath_frexp (Try.f38.body.getD .skip) (HT (iFmath_frexp.rs ++ iFmath_frexp.os)) 1000000 (finK Try.prog [.tmp 2, .tmp 3] [] iFmath_frexp.os (iFmath_frexp.rs ++ iFmath_frexp.os)) (initF iFmath_frexp.ps x 38) (initL iFmath_frexp.ps x 0) := by kernel_rfl
theorem okFmath_frexp : CallsV Try.prog tabs 38 iFmath_frexp :=
  callsV_of_rk (cx := cFmath_frexp) (fn := Try.f38) (c := Try.f38.body.getD .skip) (n := 38) (N := 0) (rvs := [.tmp 2, .tmp 3]) (cxOk (.cons okFmath_IsInf (.cons okFmath_IsNaN (.cons okFmath_normalize TabOk.nil))) (.cons xt35 (.cons xt36 XtOk.nil))) Try.func38 rfl (by kernel_rfl) rfl rfl (by decide) (by decide) (fun x => congrFun eFmath_frexp x)
noncomputable def Fmath_Frexp (a0 : Nat) : Option (Nat × Int) :=
Option.bind (Fmath_frexp a0) (fun r1 =>
some ((r1.1, r1.2)))
@[reducible] noncomputable def iFmath_Frexp : FnI := { ps := [⟨.flt, false, false, false⟩], rs := [⟨.flt, false, true, false⟩, ⟨(.int .i64), false, true, false⟩], os := [], bk := [], F := fun x => Fmath_Frexp x }
noncomputable def cFmath_Frexp : Cx := { nm := [], keep := [], fns := tabF [(38, iFmath_frexp)], loops := [], joins := [], tb := tabs, exts := [], lets := [] }
theorem eFmath_Frexp : (fun x : HT iFmath_Frexp.ps => iFmath_Frexp.F x) = fun x => rk Try.prog cFmath_Frexp (Try.f34.body.getD .skip) (HT (iFmath_Frexp.rs ++ iFmath_Frexp.os)) 1000000 (finK Try.prog [.tmp 2, .tmp 3] [] iFmath_Frexp.os (iFmath_Frexp.rs ++ iFmath_Frexp.os)) (initF iFmath_Frexp.ps x 12) (initL iFmath_Frexp.ps x 0) := by kernel_rfl
theorem okFmath_Frexp : CallsV Try.prog tabs 34 iFmath_Frexp :=
  callsV_of_rk (cx := cFmath_Frexp) (fn := Try.f34) (c := Try.f34.body.getD .skip) (n := 12) (N := 0) (rvs := [.tmp 2, .tmp 3]) (cxOk (.cons okFmath_frexp TabOk.nil) XtOk.nil) Try.func34 rfl (by kernel_rfl) rfl rfl (by decide) (by decide) (fun x => congrFun eFmath_Frexp x)
noncomputable def Fshare_Frames (a0 : Nat) (a1 : Int) : Option (Int × Int) :=
Option.bind (Fshare_Valid a0) (fun r1 =>
if (!r1) = true then
some ((0, 6))
else if a1 < 1 then
some ((0, 1))
else if a1 > 64 then
some ((0, 1))
else if fOrd a0 0 = some .eq then
some ((0, 0))
else Option.bind (Fmath_Frexp a0) (fun r2 =>
if (fArith .mul r2.1 4845873199050653696).isSome = true then
if fIn .u64 ((fArith .mul r2.1 4845873199050653696).getD 0) = true then
if True then
some ((if (w64 (((((BitVec.ofInt 64 ((fToInt ((fArith .mul r2.1 4845873199050653696).getD 0)).getD 0)) * (BitVec.ofInt 64 a1)) >>> (BitVec.ofInt 64 (w64 ((53 : Int) - r2.2))).toNat).toNat : Int))) > 1 then w64 (((((BitVec.ofInt 64 ((fToInt ((fArith .mul r2.1 4845873199050653696).getD 0)).getD 0)) * (BitVec.ofInt 64 a1)) >>> (BitVec.ofInt 64 (w64 ((53 : Int) - r2.2))).toNat).toNat : Int)) else 1, 0))
else none
else none
else none))
@[reducible] noncomputable def iFshare_Frames : FnI := { ps := [⟨.flt, false, false, false⟩, ⟨(.int .i64), false, false, false⟩], rs := [⟨(.int .i64), false, true, false⟩, ⟨(.int .i64), false, true, false⟩], os := [], bk := [], F := fun x => Fshare_Frames x.1 x.2 }
noncomputable def cFshare_Frames : Cx := { nm := [], keep := [], fns := tabF [(32, iFshare_Valid), (34, iFmath_Frexp)], loops := [], joins := [], tb := tabs, exts := [], lets := [] }
theorem eFshare_Frames : (fun x : HT iFshare_Frames.ps => iFshare_Frames.F x) = fun x => rk Try.prog cFshare_Frames (Try.f24.body.getD .skip) (HT (iFshare_Frames.rs ++ iFshare_Frames.os)) 1000000 (finK Try.prog [.tmp 4, .tmp 5] [] iFshare_Frames.os (iFshare_Frames.rs ++ iFshare_Frames.os)) (initF iFshare_Frames.ps x 38) (initL iFshare_Frames.ps x 0) := by kernel_rfl
theorem okFshare_Frames : CallsV Try.prog tabs 24 iFshare_Frames :=
  callsV_of_rk (cx := cFshare_Frames) (fn := Try.f24) (c := Try.f24.body.getD .skip) (n := 38) (N := 0) (rvs := [.tmp 4, .tmp 5]) (cxOk (.cons okFshare_Valid (.cons okFmath_Frexp TabOk.nil)) XtOk.nil) Try.func24 rfl (by kernel_rfl) rfl rfl (by decide) (by decide) (fun x => congrFun eFshare_Frames x)
noncomputable def Fconfig_Cap (a0 : (ByteArray × (List (Nat × Int × Int × Int)) × Int)) (a1 : Int) (a2 : Int) : Option (Int × Int) :=
Option.bind (Fconfig_Check a0) (fun r1 =>
if ¬ r1 = 0 then
some ((0, 1))
else if a1 < 0 then
some ((0, 1))
else if a1 ≥ (a0.2.1.length : Int) then
some ((0, 1))
else if a2 < 1 then
some ((0, 1))
else if a2 > 64 then
some ((0, 1))
else if 0 ≤ a1 ∧ a1 < (a0.2.1.length : Int) then
Option.bind (Fshare_Frames ((gl ((0, 0, 0, 0) : (Nat × Int × Int × Int)) a0.2.1 a1.toNat).1) a2) (fun r2 =>
some ((r2.1, r2.2)))
else none)
@[reducible] noncomputable def iFconfig_Cap : FnI := { ps := [⟨(.pair .str (.pair (.slice (.pair .flt (.pair (.int .i64) (.pair (.int .i64) (.int .i64))))) (.int .i64))), true, false, false⟩, ⟨(.int .i64), false, false, false⟩, ⟨(.int .i64), false, false, false⟩], rs := [⟨(.int .i64), false, true, false⟩, ⟨(.int .i64), false, true, false⟩], os := [], bk := [], F := fun x => Fconfig_Cap x.1 x.2.1 x.2.2 }
noncomputable def cFconfig_Cap : Cx := { nm := [(3, (1, 1))], keep := [], fns := tabF [(8, iFconfig_Check), (24, iFshare_Frames)], loops := [], joins := [], tb := tabs, exts := [], lets := [] }
theorem eFconfig_Cap : (fun x : HT iFconfig_Cap.ps => iFconfig_Cap.F x) = fun x => rk Try.prog cFconfig_Cap (Try.f11.body.getD .skip) (HT (iFconfig_Cap.rs ++ iFconfig_Cap.os)) 1000000 (finK Try.prog [.tmp 6, .tmp 7] [] iFconfig_Cap.os (iFconfig_Cap.rs ++ iFconfig_Cap.os)) (initF iFconfig_Cap.ps x 40) (initL iFconfig_Cap.ps x 1) := by kernel_rfl
theorem okFconfig_Cap : CallsV Try.prog tabs 11 iFconfig_Cap :=
  callsV_of_rk (cx := cFconfig_Cap) (fn := Try.f11) (c := Try.f11.body.getD .skip) (n := 40) (N := 1) (rvs := [.tmp 6, .tmp 7]) (cxOk (.cons okFconfig_Check (.cons okFshare_Frames TabOk.nil)) XtOk.nil) Try.func11 rfl (by kernel_rfl) rfl rfl (by decide) (by decide) (fun x => congrFun eFconfig_Cap x)
noncomputable def Fbeltwaylaw12_ConfigCaps (a0 : (List Int)) (a1 : Int) (a2 : Int) : Option Bool :=
Option.bind (Fbeltwaymake_New a0) (fun r1 =>
Option.bind (Fbeltwaymake_Config r1) (fun r2 =>
Option.bind (Fbeltwaymake_Mod a1 (r2.1.2.1.length : Int)) (fun r3 =>
Option.bind (Fbeltwaymake_Mod a2 63) (fun r4 =>
Option.bind (Fconfig_Cap r2.1 r3 (w64 ((1 : Int) + r4))) (fun r5 =>
Option.bind (Fconfig_Cap r2.1 r3 (w64 ((w64 ((1 : Int) + r4)) + 1))) (fun r6 =>
if ¬ r5.2 = 0 then
some (false)
else if ¬ r6.2 = 0 then
some (false)
else if r5.1 > r6.1 then
some (false)
else if 0 ≤ r3 ∧ r3 < (r2.1.2.1.length : Int) then
if ¬ (decide (r5.1 = 0)) = (decide (fOrd ((gl ((0, 0, 0, 0) : (Nat × Int × Int × Int)) r2.1.2.1 r3.toNat).1) 0 = some .eq)) then
some (false)
else if ¬ (decide (r6.1 = 0)) = (decide (r5.1 = 0)) then
some (false)
else if r5.1 ≥ 0 then
if r5.1 ≤ (w64 ((1 : Int) + r4)) then
Option.bind (Fbeltwaylaw12_awake) (fun r7 =>
some (r7))
else some (false)
else some (false)
else none))))))
@[reducible] noncomputable def iFbeltwaylaw12_ConfigCaps : FnI := { ps := [⟨(.slice (.int .i64)), false, false, false⟩, ⟨(.int .i64), false, false, false⟩, ⟨(.int .i64), false, false, false⟩], rs := [⟨.bool, false, true, false⟩], os := [], bk := [], F := fun x => Fbeltwaylaw12_ConfigCaps x.1 x.2.1 x.2.2 }
noncomputable def cFbeltwaylaw12_ConfigCaps : Cx := { nm := [(7, (5, 1)), (15, (1, 2)), (16, (3, 2))], keep := [], fns := tabF [(6, iFbeltwaymake_Config), (7, iFbeltwaymake_New), (9, iFbeltwaylaw12_awake), (10, iFbeltwaymake_Mod), (11, iFconfig_Cap)], loops := [], joins := [], tb := tabs, exts := [], lets := [] }
theorem eFbeltwaylaw12_ConfigCaps : (fun x : HT iFbeltwaylaw12_ConfigCaps.ps => iFbeltwaylaw12_ConfigCaps.F x) = fun x => rk Try.prog cFbeltwaylaw12_ConfigCaps (Try.f4.body.getD .skip) (HT (iFbeltwaylaw12_ConfigCaps.rs ++ iFbeltwaylaw12_ConfigCaps.os)) 1000000 (finK Try.prog [.tmp 6] [] iFbeltwaylaw12_ConfigCaps.os (iFbeltwaylaw12_ConfigCaps.rs ++ iFbeltwaylaw12_ConfigCaps.os)) (initF iFbeltwaylaw12_ConfigCaps.ps x 80) (initL iFbeltwaylaw12_ConfigCaps.ps x 5) := by kernel_rfl
theorem okFbeltwaylaw12_ConfigCaps : CallsV Try.prog tabs 4 iFbeltwaylaw12_ConfigCaps :=
  callsV_of_rk (cx := cFbeltwaylaw12_ConfigCaps) (fn := Try.f4) (c := Try.f4.body.getD .skip) (n := 80) (N := 5) (rvs := [.tmp 6]) (cxOk (.cons okFbeltwaymake_Config (.cons okFbeltwaymake_New (.cons okFbeltwaylaw12_awake (.cons okFbeltwaymake_Mod (.cons okFconfig_Cap TabOk.nil))))) XtOk.nil) Try.func4 rfl (by kernel_rfl) rfl rfl (by decide) (by decide) (fun x => congrFun eFbeltwaylaw12_ConfigCaps x)
noncomputable def Fmath_NaN  : Option Nat :=
some ((9221120237041090561#64).toNat)
@[reducible] noncomputable def iFmath_NaN : FnI := { ps := [], rs := [⟨.flt, false, true, false⟩], os := [], bk := [], F := fun x => Fmath_NaN  }
noncomputable def cFmath_NaN : Cx := { nm := [], keep := [], fns := tabF [], loops := [], joins := [], tb := tabs, exts := [(35, .f64from)], lets := [] }
theorem eFmath_NaN : (fun x : HT iFmath_NaN.ps => iFmath_NaN.F x) = fun x => rk Try.prog cFmath_NaN (Try.f25.body.getD .skip) (HT (iFmath_NaN.rs ++ iFmath_NaN.os)) 1000000 (finK Try.prog [.tmp 0] [] iFmath_NaN.os (iFmath_NaN.rs ++ iFmath_NaN.os)) (initF iFmath_NaN.ps x 2) (initL iFmath_NaN.ps x 0) := by kernel_rfl
theorem okFmath_NaN : CallsV Try.prog tabs 25 iFmath_NaN :=
  callsV_of_rk (cx := cFmath_NaN) (fn := Try.f25) (c := Try.f25.body.getD .skip) (n := 2) (N := 0) (rvs := [.tmp 0]) (cxOk TabOk.nil (.cons xt35 XtOk.nil)) Try.func25 rfl (by kernel_rfl) rfl rfl (by decide) (by decide) (fun x => congrFun eFmath_NaN x)
noncomputable def Fmath_Inf (a0 : Int) : Option Nat :=
if a0 ≥ 0 then
some ((9218868437227405312#64).toNat)
else some ((18442240474082181120#64).toNat)
@[reducible] noncomputable def iFmath_Inf : FnI := { ps := [⟨(.int .i64), false, false, false⟩], rs := [⟨.flt, false, true, false⟩], os := [], bk := [], F := fun x => Fmath_Inf x }
noncomputable def cFmath_Inf : Cx := { nm := [], keep := [], fns := tabF [], loops := [], joins := [], tb := tabs, exts := [(35, .f64from)], lets := [] }
theorem eFmath_Inf : (fun x : HT iFmath_Inf.ps => iFmath_Inf.F x) = fun x => rk Try.prog cFmath_Inf (Try.f26.body.getD .skip) (HT (iFmath_Inf.rs ++ iFmath_Inf.os)) 1000000 (finK Try.prog [.tmp 2] [] iFmath_Inf.os (iFmath_Inf.rs ++ iFmath_Inf.os)) (initF iFmath_Inf.ps x 8) (initL iFmath_Inf.ps x 0) := by kernel_rfl
theorem okFmath_Inf : CallsV Try.prog tabs 26 iFmath_Inf :=
  callsV_of_rk (cx := cFmath_Inf) (fn := Try.f26) (c := Try.f26.body.getD .skip) (n := 8) (N := 0) (rvs := [.tmp 2]) (cxOk TabOk.nil (.cons xt35 XtOk.nil)) Try.func26 rfl (by kernel_rfl) rfl rfl (by decide) (by decide) (fun x => congrFun eFmath_Inf x)
noncomputable def Fmath_Copysign (a0 : Nat) (a1 : Nat) : Option Nat :=
if a0 < 18446744073709551616 then
if a1 < 18446744073709551616 then
some ((((BitVec.ofNat 64 a0) &&& ~~~(9223372036854775808#64)) ||| ((BitVec.ofNat 64 a1) &&& (9223372036854775808#64))).toNat)
else none
else none
@[reducible] noncomputable def iFmath_Copysign : FnI := { ps := [⟨.flt, false, false, false⟩, ⟨.flt, false, false, false⟩], rs := [⟨.flt, false, true, false⟩], os := [], bk := [], F := fun x => Fmath_Copysign x.1 x.2 }
noncomputable def cFmath_Copysign : Cx := { nm := [], keep := [], fns := tabF [], loops := [], joins := [], tb := tabs, exts := [(35, .f64from), (36, .f64bits)], lets := [] }
theorem eFmath_Copysign : (fun x : HT iFmath_Copysign.ps => iFmath_Copysign.F x) = fun x => rk Try.prog cFmath_Copysign (Try.f27.body.getD .skip) (HT (iFmath_Copysign.rs ++ iFmath_Copysign.os)) 1000000 (finK Try.prog [.tmp 4] [] iFmath_Copysign.os (iFmath_Copysign.rs ++ iFmath_Copysign.os)) (initF iFmath_Copysign.ps x 13) (initL iFmath_Copysign.ps x 0) := by kernel_rfl
theorem okFmath_Copysign : CallsV Try.prog tabs 27 iFmath_Copysign :=
  callsV_of_rk (cx := cFmath_Copysign) (fn := Try.f27) (c := Try.f27.body.getD .skip) (n := 13) (N := 0) (rvs := [.tmp 4]) (cxOk TabOk.nil (.cons xt35 (.cons xt36 XtOk.nil))) Try.func27 rfl (by kernel_rfl) rfl rfl (by decide) (by decide) (fun x => congrFun eFmath_Copysign x)
noncomputable def Fbeltwaylaw12_spoilt (a0 : (ByteArray × (List (Nat × Int × Int × Int)) × Int)) (a1 : Int) (a2 : Int) (a3 : Int) : Option (ByteArray × (List (Nat × Int × Int × Int)) × Int) :=
if (([] : List (Nat × Int × Int × Int)).length + a0.2.1.length) * 32 ≤ 140737488355328 then
if ((([] : List (Nat × Int × Int × Int)) ++ a0.2.1).length : Int) = 0 then
some ((a0.1, ([] : List (Nat × Int × Int × Int)) ++ a0.2.1, a0.2.2))
else Option.bind (Fbeltwaymake_Mod a2 ((([] : List (Nat × Int × Int × Int)) ++ a0.2.1).length : Int)) (fun r1 =>
if 0 ≤ r1 ∧ r1 < ((([] : List (Nat × Int × Int × Int)) ++ a0.2.1).length : Int) then
Option.bind (Fbeltwaymake_Mod a1 11) (fun r2 =>
if r2 = 0 then
Option.bind (Fbeltwaymake_Mod a3 7) (fun r3 =>
if 0 ≤ r3 ∧ r3 < (([⟨#[]⟩, ⟨#[65]⟩, ⟨#[97, 32, 98]⟩, ⟨#[45, 97]⟩, ⟨#[97, 98, 99, 100, 101, 102, 103, 104, 105, 106, 107, 108, 109, 110, 111, 112, 113]⟩, ⟨#[97, 49, 45]⟩, ⟨#[97, 98, 99, 100, 101, 102, 103, 104, 105, 106, 107, 108, 109, 110, 111, 112]⟩] : List ByteArray).length : Int) then
some ((gl (⟨#[]⟩ : ByteArray) ([⟨#[]⟩, ⟨#[65]⟩, ⟨#[97, 32, 98]⟩, ⟨#[45, 97]⟩, ⟨#[97, 98, 99, 100, 101, 102, 103, 104, 105, 106, 107, 108, 109, 110, 111, 112, 113]⟩, ⟨#[97, 49, 45]⟩, ⟨#[97, 98, 99, 100, 101, 102, 103, 104, 105, 106, 107, 108, 109, 110, 111, 112]⟩] : List ByteArray) r3.toNat, ([] : List (Nat × Int × Int × Int)) ++ a0.2.1, a0.2.2))
else none)
else if r2 = 1 then
some ((a0.1, [], a0.2.2))
else if r2 = 2 then
if ((([] : List (Nat × Int × Int × Int)) ++ a0.2.1).length + (([] : List (Nat × Int × Int × Int)) ++ a0.2.1).length) * 32 ≤ 140737488355328 then
if (((([] : List (Nat × Int × Int × Int)) ++ a0.2.1) ++ (([] : List (Nat × Int × Int × Int)) ++ a0.2.1)).length + ((([] : List (Nat × Int × Int × Int)) ++ a0.2.1) ++ (([] : List (Nat × Int × Int × Int)) ++ a0.2.1)).length) * 32 ≤ 140737488355328 then
some ((a0.1, ((([] : List (Nat × Int × Int × Int)) ++ a0.2.1) ++ (([] : List (Nat × Int × Int × Int)) ++ a0.2.1)) ++ ((([] : List (Nat × Int × Int × Int)) ++ a0.2.1) ++ (([] : List (Nat × Int × Int × Int)) ++ a0.2.1)), a0.2.2))
else none
else none
else if r2 = 3 then
Option.bind (Fmath_NaN) (fun r4 =>
Option.bind (Fmath_Inf 1) (fun r5 =>
Option.bind (Fmath_Copysign 0 13830554455654793216) (fun r6 =>
Option.bind (Fbeltwaymake_Mod a3 8) (fun r7 =>
if 0 ≤ r7 ∧ r7 < (([r4, r5, 13826050856027422720, r6, 4609434218613702656, 4607182418800017408, 0, 1] : List Nat).length : Int) then
some ((a0.1, (([] : List (Nat × Int × Int × Int)) ++ a0.2.1).set r1.toNat (gl (0 : Nat) ([r4, r5, 13826050856027422720, r6, 4609434218613702656, 4607182418800017408, 0, 1] : List Nat) r7.toNat, ((gl ((0, 0, 0, 0) : (Nat × Int × Int × Int)) (([] : List (Nat × Int × Int × Int)) ++ a0.2.1) r1.toNat).2).1, (((gl ((0, 0, 0, 0) : (Nat × Int × Int × Int)) (([] : List (Nat × Int × Int × Int)) ++ a0.2.1) r1.toNat).2).2)), a0.2.2))
else none))))
else if r2 = 4 then
Option.bind (Fbeltwaymake_Mod a3 68) (fun r8 =>
some ((a0.1, (([] : List (Nat × Int × Int × Int)) ++ a0.2.1).set r1.toNat ((gl ((0, 0, 0, 0) : (Nat × Int × Int × Int)) (([] : List (Nat × Int × Int × Int)) ++ a0.2.1) r1.toNat).1, w64 (r8 - 2), (((gl ((0, 0, 0, 0) : (Nat × Int × Int × Int)) (([] : List (Nat × Int × Int × Int)) ++ a0.2.1) r1.toNat).2).2)), a0.2.2)))
else if r2 = 5 then
Option.bind (Fbeltwaymake_Mod a3 68) (fun r9 =>
some ((a0.1, (([] : List (Nat × Int × Int × Int)) ++ a0.2.1).set r1.toNat ((gl ((0, 0, 0, 0) : (Nat × Int × Int × Int)) (([] : List (Nat × Int × Int × Int)) ++ a0.2.1) r1.toNat).1, ((gl ((0, 0, 0, 0) : (Nat × Int × Int × Int)) (([] : List (Nat × Int × Int × Int)) ++ a0.2.1) r1.toNat).2).1, w64 (r9 - 2), (((gl ((0, 0, 0, 0) : (Nat × Int × Int × Int)) (([] : List (Nat × Int × Int × Int)) ++ a0.2.1) r1.toNat).2).2).2), a0.2.2)))
else if r2 = 6 then
Option.bind (Fbeltwaymake_Mod a3 6) (fun r10 =>
some ((a0.1, (([] : List (Nat × Int × Int × Int)) ++ a0.2.1).set r1.toNat ((gl ((0, 0, 0, 0) : (Nat × Int × Int × Int)) (([] : List (Nat × Int × Int × Int)) ++ a0.2.1) r1.toNat).1, ((gl ((0, 0, 0, 0) : (Nat × Int × Int × Int)) (([] : List (Nat × Int × Int × Int)) ++ a0.2.1) r1.toNat).2).1, (((gl ((0, 0, 0, 0) : (Nat × Int × Int × Int)) (([] : List (Nat × Int × Int × Int)) ++ a0.2.1) r1.toNat).2).2).1, w64 (r10 - 1)), a0.2.2)))
else if r2 = 7 then
Option.bind (Fbeltwaymake_Mod a3 68) (fun r11 =>
some ((a0.1, ([] : List (Nat × Int × Int × Int)) ++ a0.2.1, w64 (r11 - 2))))
else if r2 = 8 then
some ((a0.1, ([] : List (Nat × Int × Int × Int)) ++ a0.2.1, 0))
else some ((a0.1, ([] : List (Nat × Int × Int × Int)) ++ a0.2.1, a0.2.2)))
else none)
else none
@[reducible] noncomputable def iFbeltwaylaw12_spoilt : FnI := { ps := [⟨(.pair .str (.pair (.slice (.pair .flt (.pair (.int .i64) (.pair (.int .i64) (.int .i64))))) (.int .i64))), true, false, false⟩, ⟨(.int .i64), false, false, false⟩, ⟨(.int .i64), false, false, false⟩, ⟨(.int .i64), false, false, false⟩], rs := [⟨(.pair .str (.pair (.slice (.pair .flt (.pair (.int .i64) (.pair (.int .i64) (.int .i64))))) (.int .i64))), true, true, false⟩], os := [], bk := [], F := fun x => Fbeltwaylaw12_spoilt x.1 x.2.1 x.2.2.1 x.2.2.2 }
noncomputable def cFbeltwaylaw12_spoilt : Cx := { nm := [(4, (1, 1)), (8, (2, 1)), (12, (3, 1)), (31, (4, 1)), (46, (5, 1)), (52, (6, 1)), (60, (7, 1))], keep := [12, 46, 52], fns := tabF [(10, iFbeltwaymake_Mod), (25, iFmath_NaN), (26, iFmath_Inf), (27, iFmath_Copysign)], loops := [], joins := [], tb := tabs, exts := [], lets := [] }
theorem eFbeltwaylaw12_spoilt : (fun x : HT iFbeltwaylaw12_spoilt.ps => iFbeltwaylaw12_spoilt.F x) = fun x => rk Try.prog cFbeltwaylaw12_spoilt (Try.f12.body.getD .skip) (HT (iFbeltwaylaw12_spoilt.rs ++ iFbeltwaylaw12_spoilt.os)) 1000000 (finK Try.prog [.cell 8 25] [] iFbeltwaylaw12_spoilt.os (iFbeltwaylaw12_spoilt.rs ++ iFbeltwaylaw12_spoilt.os)) (initF iFbeltwaylaw12_spoilt.ps x 101) (initL iFbeltwaylaw12_spoilt.ps x 7) := by kernel_rfl
theorem okFbeltwaylaw12_spoilt : CallsV Try.prog tabs 12 iFbeltwaylaw12_spoilt :=
  callsV_of_rk (cx := cFbeltwaylaw12_spoilt) (fn := Try.f12) (c := Try.f12.body.getD .skip) (n := 101) (N := 7) (rvs := [.cell 8 25]) (cxOk (.cons okFbeltwaymake_Mod (.cons okFmath_NaN (.cons okFmath_Inf (.cons okFmath_Copysign TabOk.nil)))) XtOk.nil) Try.func12 rfl (by kernel_rfl) rfl rfl (by decide) (by decide) (fun x => congrFun eFbeltwaylaw12_spoilt x)
noncomputable def Fbeltwayref12_Named (a0 : ByteArray) : Option Bool :=
loopO (σ := Int) (β := Bool) (fun s1 =>
if s1 < (a0.size : Int) then
if 0 ≤ s1 ∧ s1 < (a0.size : Int) then
if (sget a0 s1.toNat) ≥ 97 then
if ¬ ((sget a0 s1.toNat) ≤ 122) then
if s1 = 0 then
some (Sum.inr (false))
else if ¬ (sget a0 s1.toNat) = 45 then
if (sget a0 s1.toNat) < 48 then
some (Sum.inr (false))
else if (sget a0 s1.toNat) > 57 then
some (Sum.inr (false))
else some (Sum.inl (w64 (s1 + 1)))
else some (Sum.inl (w64 (s1 + 1)))
else some (Sum.inl (w64 (s1 + 1)))
else if s1 = 0 then
some (Sum.inr (false))
else if ¬ (sget a0 s1.toNat) = 45 then
if (sget a0 s1.toNat) < 48 then
some (Sum.inr (false))
else if (sget a0 s1.toNat) > 57 then
some (Sum.inr (false))
else some (Sum.inl (w64 (s1 + 1)))
else some (Sum.inl (w64 (s1 + 1)))
else none
else Option.map Sum.inr (if (a0.size : Int) ≥ 1 then
some (decide ((a0.size : Int) ≤ 16))
else some (false))) (0)
@[reducible] noncomputable def iFbeltwayref12_Named : FnI := { ps := [⟨.str, false, false, false⟩], rs := [⟨.bool, false, true, false⟩], os := [], bk := [], F := fun x => Fbeltwayref12_Named x }
noncomputable def cFbeltwayref12_Named : Cx := { nm := [], keep := [], fns := tabF [], loops := [(0, { live := [(3, ⟨(.int .i64), false, false, false⟩)], boxes := [], rows := [], dead := [2, 4, 5, 6, 7, 8, 9, 10, 11, 12, 13, 14, 15, 16, 17, 18, 19, 20, 21, 22, 23, 24, 25, 26, 27, 28, 29, 30, 31, 32, 33, 34, 35, 36, 37, 38], lost := [], base := 0 })], joins := [], tb := tabs, exts := [], lets := [] }
theorem eFbeltwayref12_Named : (fun x : HT iFbeltwayref12_Named.ps => iFbeltwayref12_Named.F x) = fun x => rk Try.prog cFbeltwayref12_Named (Try.f28.body.getD .skip) (HT (iFbeltwayref12_Named.rs ++ iFbeltwayref12_Named.os)) 1000000 (finK Try.prog [.tmp 2] [] iFbeltwayref12_Named.os (iFbeltwayref12_Named.rs ++ iFbeltwayref12_Named.os)) (initF iFbeltwayref12_Named.ps x 47) (initL iFbeltwayref12_Named.ps x 0) := by kernel_rfl
theorem okFbeltwayref12_Named : CallsV Try.prog tabs 28 iFbeltwayref12_Named :=
  callsV_of_rk (cx := cFbeltwayref12_Named) (fn := Try.f28) (c := Try.f28.body.getD .skip) (n := 47) (N := 0) (rvs := [.tmp 2]) (cxOk TabOk.nil XtOk.nil) Try.func28 rfl (by kernel_rfl) rfl rfl (by decide) (by decide) (fun x => congrFun eFbeltwayref12_Named x)
noncomputable def Fbeltwayref06_Valid (a0 : Nat) : Option Bool :=
if a0 < 18446744073709551616 then
if (BitVec.ofNat 64 a0) = (0#64) then
some (true)
else if fOrd a0 0 = some .gt then
some (decide (fOrd a0 4607182418800017408 = some .lt ∨ fOrd a0 4607182418800017408 = some .eq))
else some (false)
else none
@[reducible] noncomputable def iFbeltwayref06_Valid : FnI := { ps := [⟨.flt, false, false, false⟩], rs := [⟨.bool, false, true, false⟩], os := [], bk := [], F := fun x => Fbeltwayref06_Valid x }
noncomputable def cFbeltwayref06_Valid : Cx := { nm := [], keep := [], fns := tabF [], loops := [], joins := [], tb := tabs, exts := [(36, .f64bits)], lets := [] }
theorem eFbeltwayref06_Valid : (fun x : HT iFbeltwayref06_Valid.ps => iFbeltwayref06_Valid.F x) = fun x => rk Try.prog cFbeltwayref06_Valid (Try.f29.body.getD .skip) (HT (iFbeltwayref06_Valid.rs ++ iFbeltwayref06_Valid.os)) 1000000 (finK Try.prog [.tmp 2] [] iFbeltwayref06_Valid.os (iFbeltwayref06_Valid.rs ++ iFbeltwayref06_Valid.os)) (initF iFbeltwayref06_Valid.ps x 14) (initL iFbeltwayref06_Valid.ps x 0) := by kernel_rfl
theorem okFbeltwayref06_Valid : CallsV Try.prog tabs 29 iFbeltwayref06_Valid :=
  callsV_of_rk (cx := cFbeltwayref06_Valid) (fn := Try.f29) (c := Try.f29.body.getD .skip) (n := 14) (N := 0) (rvs := [.tmp 2]) (cxOk TabOk.nil (.cons xt36 XtOk.nil)) Try.func29 rfl (by kernel_rfl) rfl rfl (by decide) (by decide) (fun x => congrFun eFbeltwayref06_Valid x)
noncomputable def Fbeltwayref12_Check (a0 : (ByteArray × (List (Nat × Int × Int × Int)) × Int)) : Option Int :=
Option.bind (Fbeltwayref12_Named a0.1) (fun r1 =>
if (!r1) = true then
some (7)
else if (a0.2.1.length : Int) < 1 then
some (8)
else if (a0.2.1.length : Int) > 4 then
some (8)
else if (List.replicate 4 (false : Bool)).length = 4 then
loopO (σ := (Int × (List Bool))) (β := Int) (fun s1 =>
if s1.1 < (a0.2.1.length : Int) then
if 0 ≤ s1.1 ∧ s1.1 < (a0.2.1.length : Int) then
Option.bind (Fbeltwayref06_Valid ((gl ((0, 0, 0, 0) : (Nat × Int × Int × Int)) a0.2.1 s1.1.toNat).1)) (fun r2 =>
if (!r2) = true then
some (Sum.inr (6))
else if (((gl ((0, 0, 0, 0) : (Nat × Int × Int × Int)) a0.2.1 s1.1.toNat).2).1) < 0 then
some (Sum.inr (9))
else if (((gl ((0, 0, 0, 0) : (Nat × Int × Int × Int)) a0.2.1 s1.1.toNat).2).1) > 64 then
some (Sum.inr (9))
else if ((((gl ((0, 0, 0, 0) : (Nat × Int × Int × Int)) a0.2.1 s1.1.toNat).2).2).1) < 0 then
some (Sum.inr (9))
else if ((((gl ((0, 0, 0, 0) : (Nat × Int × Int × Int)) a0.2.1 s1.1.toNat).2).2).1) > 64 then
some (Sum.inr (9))
else if s1.1 = (w64 ((a0.2.1.length : Int) - 1)) then
if ¬ (((gl ((0, 0, 0, 0) : (Nat × Int × Int × Int)) a0.2.1 s1.1.toNat).2).1) = 0 then
some (Sum.inr (9))
else if s1.1 = (w64 ((a0.2.1.length : Int) - 1)) then
if ¬ ((((gl ((0, 0, 0, 0) : (Nat × Int × Int × Int)) a0.2.1 s1.1.toNat).2).2).2) = s1.1 then
some (Sum.inr (10))
else if ¬ (s1.1 = (w64 ((a0.2.1.length : Int) - 1))) then
if ((((gl ((0, 0, 0, 0) : (Nat × Int × Int × Int)) a0.2.1 s1.1.toNat).2).2).2) ≤ s1.1 then
some (Sum.inr (10))
else if ((((gl ((0, 0, 0, 0) : (Nat × Int × Int × Int)) a0.2.1 s1.1.toNat).2).2).2) ≥ (a0.2.1.length : Int) then
some (Sum.inr (10))
else if ¬ (s1.1 = (w64 ((a0.2.1.length : Int) - 1))) then
if (0 ≤ ((((gl ((0, 0, 0, 0) : (Nat × Int × Int × Int)) a0.2.1 s1.1.toNat).2).2).2) ∧ ((((gl ((0, 0, 0, 0) : (Nat × Int × Int × Int)) a0.2.1 s1.1.toNat).2).2).2) < ((4 : Nat) : Int)) ∧ ((((gl ((0, 0, 0, 0) : (Nat × Int × Int × Int)) a0.2.1 s1.1.toNat).2).2).2) < (s1.2.length : Int) then
some (Sum.inl ((w64 (s1.1 + 1), s1.2.set (((((gl ((0, 0, 0, 0) : (Nat × Int × Int × Int)) a0.2.1 s1.1.toNat).2).2).2).toNat) true)))
else none
else some (Sum.inl ((w64 (s1.1 + 1), s1.2)))
else if ¬ (s1.1 = (w64 ((a0.2.1.length : Int) - 1))) then
if (0 ≤ ((((gl ((0, 0, 0, 0) : (Nat × Int × Int × Int)) a0.2.1 s1.1.toNat).2).2).2) ∧ ((((gl ((0, 0, 0, 0) : (Nat × Int × Int × Int)) a0.2.1 s1.1.toNat).2).2).2) < ((4 : Nat) : Int)) ∧ ((((gl ((0, 0, 0, 0) : (Nat × Int × Int × Int)) a0.2.1 s1.1.toNat).2).2).2) < (s1.2.length : Int) then
some (Sum.inl ((w64 (s1.1 + 1), s1.2.set (((((gl ((0, 0, 0, 0) : (Nat × Int × Int × Int)) a0.2.1 s1.1.toNat).2).2).2).toNat) true)))
else none
else some (Sum.inl ((w64 (s1.1 + 1), s1.2)))
else if ¬ (s1.1 = (w64 ((a0.2.1.length : Int) - 1))) then
if ((((gl ((0, 0, 0, 0) : (Nat × Int × Int × Int)) a0.2.1 s1.1.toNat).2).2).2) ≤ s1.1 then
some (Sum.inr (10))
else if ((((gl ((0, 0, 0, 0) : (Nat × Int × Int × Int)) a0.2.1 s1.1.toNat).2).2).2) ≥ (a0.2.1.length : Int) then
some (Sum.inr (10))
else if ¬ (s1.1 = (w64 ((a0.2.1.length : Int) - 1))) then
if (0 ≤ ((((gl ((0, 0, 0, 0) : (Nat × Int × Int × Int)) a0.2.1 s1.1.toNat).2).2).2) ∧ ((((gl ((0, 0, 0, 0) : (Nat × Int × Int × Int)) a0.2.1 s1.1.toNat).2).2).2) < ((4 : Nat) : Int)) ∧ ((((gl ((0, 0, 0, 0) : (Nat × Int × Int × Int)) a0.2.1 s1.1.toNat).2).2).2) < (s1.2.length : Int) then
some (Sum.inl ((w64 (s1.1 + 1), s1.2.set (((((gl ((0, 0, 0, 0) : (Nat × Int × Int × Int)) a0.2.1 s1.1.toNat).2).2).2).toNat) true)))
else none
else some (Sum.inl ((w64 (s1.1 + 1), s1.2)))
else if ¬ (s1.1 = (w64 ((a0.2.1.length : Int) - 1))) then
if (0 ≤ ((((gl ((0, 0, 0, 0) : (Nat × Int × Int × Int)) a0.2.1 s1.1.toNat).2).2).2) ∧ ((((gl ((0, 0, 0, 0) : (Nat × Int × Int × Int)) a0.2.1 s1.1.toNat).2).2).2) < ((4 : Nat) : Int)) ∧ ((((gl ((0, 0, 0, 0) : (Nat × Int × Int × Int)) a0.2.1 s1.1.toNat).2).2).2) < (s1.2.length : Int) then
some (Sum.inl ((w64 (s1.1 + 1), s1.2.set (((((gl ((0, 0, 0, 0) : (Nat × Int × Int × Int)) a0.2.1 s1.1.toNat).2).2).2).toNat) true)))
else none
else some (Sum.inl ((w64 (s1.1 + 1), s1.2)))
else if s1.1 = (w64 ((a0.2.1.length : Int) - 1)) then
if ¬ ((((gl ((0, 0, 0, 0) : (Nat × Int × Int × Int)) a0.2.1 s1.1.toNat).2).2).2) = s1.1 then
some (Sum.inr (10))
else if ¬ (s1.1 = (w64 ((a0.2.1.length : Int) - 1))) then
if ((((gl ((0, 0, 0, 0) : (Nat × Int × Int × Int)) a0.2.1 s1.1.toNat).2).2).2) ≤ s1.1 then
some (Sum.inr (10))
else if ((((gl ((0, 0, 0, 0) : (Nat × Int × Int × Int)) a0.2.1 s1.1.toNat).2).2).2) ≥ (a0.2.1.length : Int) then
some (Sum.inr (10))
else if ¬ (s1.1 = (w64 ((a0.2.1.length : Int) - 1))) then
if (0 ≤ ((((gl ((0, 0, 0, 0) : (Nat × Int × Int × Int)) a0.2.1 s1.1.toNat).2).2).2) ∧ ((((gl ((0, 0, 0, 0) : (Nat × Int × Int × Int)) a0.2.1 s1.1.toNat).2).2).2) < ((4 : Nat) : Int)) ∧ ((((gl ((0, 0, 0, 0) : (Nat × Int × Int × Int)) a0.2.1 s1.1.toNat).2).2).2) < (s1.2.length : Int) then
some (Sum.inl ((w64 (s1.1 + 1), s1.2.set (((((gl ((0, 0, 0, 0) : (Nat × Int × Int × Int)) a0.2.1 s1.1.toNat).2).2).2).toNat) true)))
else none
else some (Sum.inl ((w64 (s1.1 + 1), s1.2)))
else if ¬ (s1.1 = (w64 ((a0.2.1.length : Int) - 1))) then
if (0 ≤ ((((gl ((0, 0, 0, 0) : (Nat × Int × Int × Int)) a0.2.1 s1.1.toNat).2).2).2) ∧ ((((gl ((0, 0, 0, 0) : (Nat × Int × Int × Int)) a0.2.1 s1.1.toNat).2).2).2) < ((4 : Nat) : Int)) ∧ ((((gl ((0, 0, 0, 0) : (Nat × Int × Int × Int)) a0.2.1 s1.1.toNat).2).2).2) < (s1.2.length : Int) then
some (Sum.inl ((w64 (s1.1 + 1), s1.2.set (((((gl ((0, 0, 0, 0) : (Nat × Int × Int × Int)) a0.2.1 s1.1.toNat).2).2).2).toNat) true)))
else none
else some (Sum.inl ((w64 (s1.1 + 1), s1.2)))
else if ¬ (s1.1 = (w64 ((a0.2.1.length : Int) - 1))) then
if ((((gl ((0, 0, 0, 0) : (Nat × Int × Int × Int)) a0.2.1 s1.1.toNat).2).2).2) ≤ s1.1 then
some (Sum.inr (10))
else if ((((gl ((0, 0, 0, 0) : (Nat × Int × Int × Int)) a0.2.1 s1.1.toNat).2).2).2) ≥ (a0.2.1.length : Int) then
some (Sum.inr (10))
else if ¬ (s1.1 = (w64 ((a0.2.1.length : Int) - 1))) then
if (0 ≤ ((((gl ((0, 0, 0, 0) : (Nat × Int × Int × Int)) a0.2.1 s1.1.toNat).2).2).2) ∧ ((((gl ((0, 0, 0, 0) : (Nat × Int × Int × Int)) a0.2.1 s1.1.toNat).2).2).2) < ((4 : Nat) : Int)) ∧ ((((gl ((0, 0, 0, 0) : (Nat × Int × Int × Int)) a0.2.1 s1.1.toNat).2).2).2) < (s1.2.length : Int) then
some (Sum.inl ((w64 (s1.1 + 1), s1.2.set (((((gl ((0, 0, 0, 0) : (Nat × Int × Int × Int)) a0.2.1 s1.1.toNat).2).2).2).toNat) true)))
else none
else some (Sum.inl ((w64 (s1.1 + 1), s1.2)))
else if ¬ (s1.1 = (w64 ((a0.2.1.length : Int) - 1))) then
if (0 ≤ ((((gl ((0, 0, 0, 0) : (Nat × Int × Int × Int)) a0.2.1 s1.1.toNat).2).2).2) ∧ ((((gl ((0, 0, 0, 0) : (Nat × Int × Int × Int)) a0.2.1 s1.1.toNat).2).2).2) < ((4 : Nat) : Int)) ∧ ((((gl ((0, 0, 0, 0) : (Nat × Int × Int × Int)) a0.2.1 s1.1.toNat).2).2).2) < (s1.2.length : Int) then
some (Sum.inl ((w64 (s1.1 + 1), s1.2.set (((((gl ((0, 0, 0, 0) : (Nat × Int × Int × Int)) a0.2.1 s1.1.toNat).2).2).2).toNat) true)))
else none
else some (Sum.inl ((w64 (s1.1 + 1), s1.2))))
else none
else Option.map Sum.inr (loopO (σ := Int) (β := Int) (fun s2 =>
if s2 < (a0.2.1.length : Int) then
if (0 ≤ s2 ∧ s2 < ((4 : Nat) : Int)) ∧ s2 < (s1.2.length : Int) then
if (!(gl (false : Bool) s1.2 s2.toNat)) = true then
some (Sum.inr (10))
else some (Sum.inl (w64 (s2 + 1)))
else none
else Option.map Sum.inr (if 0 ≤ (w64 ((a0.2.1.length : Int) - 1)) ∧ (w64 ((a0.2.1.length : Int) - 1)) < (a0.2.1.length : Int) then
if fOrd ((gl ((0, 0, 0, 0) : (Nat × Int × Int × Int)) a0.2.1 ((w64 ((a0.2.1.length : Int) - 1)).toNat)).1) 0 = some .eq then
if a0.2.2 < 1 then
some (9)
else if a0.2.2 > 64 then
some (9)
else if ¬ (fOrd ((gl ((0, 0, 0, 0) : (Nat × Int × Int × Int)) a0.2.1 ((w64 ((a0.2.1.length : Int) - 1)).toNat)).1) 0 = some .eq) then
if ¬ a0.2.2 = 0 then
some (9)
else some (0)
else some (0)
else if ¬ (fOrd ((gl ((0, 0, 0, 0) : (Nat × Int × Int × Int)) a0.2.1 ((w64 ((a0.2.1.length : Int) - 1)).toNat)).1) 0 = some .eq) then
if ¬ a0.2.2 = 0 then
some (9)
else some (0)
else some (0)
else none)) (0))) ((0, ([true, false, false, false] : List Bool)))
else none)
@[reducible] noncomputable def iFbeltwayref12_Check : FnI := { ps := [⟨(.pair .str (.pair (.slice (.pair .flt (.pair (.int .i64) (.pair (.int .i64) (.int .i64))))) (.int .i64))), true, false, false⟩], rs := [⟨(.int .i64), false, true, false⟩], os := [], bk := [], F := fun x => Fbeltwayref12_Check x }
noncomputable def cFbeltwayref12_Check : Cx := { nm := [(1, (1, 1)), (4, (2, 1)), (6, (3, 1))], keep := [4], fns := tabF [(28, iFbeltwayref12_Named), (29, iFbeltwayref06_Valid)], loops := [(0, { live := [(27, ⟨(.int .i64), false, false, false⟩)], boxes := [], rows := [(2, .bool)], dead := [2, 5, 6, 7, 28, 29, 30, 31, 32, 33, 34, 35, 36, 37, 38, 39, 40, 41, 42, 43, 44, 45, 46, 47, 48, 49, 50, 51, 52, 53, 54, 55, 56, 57, 58, 59, 60, 61, 62, 63, 64, 65, 66, 67, 68, 69, 70, 71, 72, 73, 74, 75, 76, 77, 78, 79, 80, 81, 82, 83, 84, 85, 86, 87, 88, 89, 90, 91, 92, 93, 94, 95, 96, 97], lost := [], base := 3 }), (3, { live := [(8, ⟨(.int .i64), false, false, false⟩)], boxes := [], rows := [], dead := [2, 98, 99, 100, 101, 102, 103, 104, 105, 106], lost := [], base := 4 })], joins := [], tb := tabs, exts := [], lets := [] }
theorem eFbeltwayref12_Check : (fun x : HT iFbeltwayref12_Check.ps => iFbeltwayref12_Check.F x) = fun x => rk Try.prog cFbeltwayref12_Check (Try.f13.body.getD .skip) (HT (iFbeltwayref12_Check.rs ++ iFbeltwayref12_Check.os)) 1000000 (finK Try.prog [.tmp 2] [] iFbeltwayref12_Check.os (iFbeltwayref12_Check.rs ++ iFbeltwayref12_Check.os)) (initF iFbeltwayref12_Check.ps x 135) (initL iFbeltwayref12_Check.ps x 3) := by kernel_rfl
theorem okFbeltwayref12_Check : CallsV Try.prog tabs 13 iFbeltwayref12_Check :=
  callsV_of_rk (cx := cFbeltwayref12_Check) (fn := Try.f13) (c := Try.f13.body.getD .skip) (n := 135) (N := 3) (rvs := [.tmp 2]) (cxOk (.cons okFbeltwayref12_Named (.cons okFbeltwayref06_Valid TabOk.nil)) XtOk.nil) Try.func13 rfl (by kernel_rfl) rfl rfl (by decide) (by decide) (fun x => congrFun eFbeltwayref12_Check x)
noncomputable def Fbeltwayref12_Complete (a0 : (ByteArray × (List (Nat × Int × Int × Int)) × Int)) : Option Bool :=
Option.bind (Fbeltwayref12_Check a0) (fun r1 =>
if r1 = 0 then
if 0 ≤ (w64 ((a0.2.1.length : Int) - 1)) ∧ (w64 ((a0.2.1.length : Int) - 1)) < (a0.2.1.length : Int) then
some (decide (fOrd ((gl ((0, 0, 0, 0) : (Nat × Int × Int × Int)) a0.2.1 ((w64 ((a0.2.1.length : Int) - 1)).toNat)).1) 0 = some .eq))
else none
else some (false))
@[reducible] noncomputable def iFbeltwayref12_Complete : FnI := { ps := [⟨(.pair .str (.pair (.slice (.pair .flt (.pair (.int .i64) (.pair (.int .i64) (.int .i64))))) (.int .i64))), true, false, false⟩], rs := [⟨.bool, false, true, false⟩], os := [], bk := [], F := fun x => Fbeltwayref12_Complete x }
noncomputable def cFbeltwayref12_Complete : Cx := { nm := [(1, (1, 1))], keep := [], fns := tabF [(13, iFbeltwayref12_Check)], loops := [], joins := [], tb := tabs, exts := [], lets := [] }
theorem eFbeltwayref12_Complete : (fun x : HT iFbeltwayref12_Complete.ps => iFbeltwayref12_Complete.F x) = fun x => rk Try.prog cFbeltwayref12_Complete (Try.f15.body.getD .skip) (HT (iFbeltwayref12_Complete.rs ++ iFbeltwayref12_Complete.os)) 1000000 (finK Try.prog [.tmp 2] [] iFbeltwayref12_Complete.os (iFbeltwayref12_Complete.rs ++ iFbeltwayref12_Complete.os)) (initF iFbeltwayref12_Complete.ps x 18) (initL iFbeltwayref12_Complete.ps x 1) := by kernel_rfl
theorem okFbeltwayref12_Complete : CallsV Try.prog tabs 15 iFbeltwayref12_Complete :=
  callsV_of_rk (cx := cFbeltwayref12_Complete) (fn := Try.f15) (c := Try.f15.body.getD .skip) (n := 18) (N := 1) (rvs := [.tmp 2]) (cxOk (.cons okFbeltwayref12_Check TabOk.nil) XtOk.nil) Try.func15 rfl (by kernel_rfl) rfl rfl (by decide) (by decide) (fun x => congrFun eFbeltwayref12_Complete x)
noncomputable def Fbeltwayref06_Frames (a0 : Nat) (a1 : Int) : Option (Int × Int) :=
Option.bind (Fbeltwayref06_Valid a0) (fun r1 =>
if (!r1) = true then
some ((0, 6))
else if a1 < 1 then
some ((0, 1))
else if a1 > 64 then
some ((0, 1))
else if fOrd a0 0 = some .eq then
some ((0, 0))
else if a0 < 18446744073709551616 then
if True then
if (w64 (((((BitVec.ofNat 64 a0) >>> (52#64).toNat) &&& (2047#64)).toNat : Int))) > 0 then
if (w64 ((1075 : Int) - (w64 (((((BitVec.ofNat 64 a0) >>> (52#64).toNat) &&& (2047#64)).toNat : Int))))) < 64 then
if True then
some ((if (w64 (((((((BitVec.ofNat 64 a0) &&& (4503599627370495#64)) ||| (4503599627370496#64)) * (BitVec.ofInt 64 a1)) >>> (BitVec.ofInt 64 (w64 ((1075 : Int) - (w64 (((((BitVec.ofNat 64 a0) >>> (52#64).toNat) &&& (2047#64)).toNat : Int)))))).toNat).toNat : Int))) > 1 then w64 (((((((BitVec.ofNat 64 a0) &&& (4503599627370495#64)) ||| (4503599627370496#64)) * (BitVec.ofInt 64 a1)) >>> (BitVec.ofInt 64 (w64 ((1075 : Int) - (w64 (((((BitVec.ofNat 64 a0) >>> (52#64).toNat) &&& (2047#64)).toNat : Int)))))).toNat).toNat : Int)) else 1, 0))
else none
else some ((if (w64 (((0#64).toNat : Int))) > 1 then w64 (((0#64).toNat : Int)) else 1, 0))
else if (1074 : Int) < 64 then
if True then
some ((if (w64 ((((((BitVec.ofNat 64 a0) &&& (4503599627370495#64)) * (BitVec.ofInt 64 a1)) >>> (BitVec.ofInt 64 1074).toNat).toNat : Int))) > 1 then w64 ((((((BitVec.ofNat 64 a0) &&& (4503599627370495#64)) * (BitVec.ofInt 64 a1)) >>> (BitVec.ofInt 64 1074).toNat).toNat : Int)) else 1, 0))
else none
else some ((if (w64 (((0#64).toNat : Int))) > 1 then w64 (((0#64).toNat : Int)) else 1, 0))
else none
else none)
@[reducible] noncomputable def iFbeltwayref06_Frames : FnI := { ps := [⟨.flt, false, false, false⟩, ⟨(.int .i64), false, false, false⟩], rs := [⟨(.int .i64), false, true, false⟩, ⟨(.int .i64), false, true, false⟩], os := [], bk := [], F := fun x => Fbeltwayref06_Frames x.1 x.2 }
noncomputable def cFbeltwayref06_Frames : Cx := { nm := [], keep := [], fns := tabF [(29, iFbeltwayref06_Valid)], loops := [], joins := [], tb := tabs, exts := [(36, .f64bits)], lets := [] }
theorem eFbeltwayref06_Frames : (fun x : HT iFbeltwayref06_Frames.ps => iFbeltwayref06_Frames.F x) = fun x => rk Try.prog cFbeltwayref06_Frames (Try.f30.body.getD .skip) (HT (iFbeltwayref06_Frames.rs ++ iFbeltwayref06_Frames.os)) 1000000 (finK Try.prog [.tmp 4, .tmp 5] [] iFbeltwayref06_Frames.os (iFbeltwayref06_Frames.rs ++ iFbeltwayref06_Frames.os)) (initF iFbeltwayref06_Frames.ps x 48) (initL iFbeltwayref06_Frames.ps x 0) := by kernel_rfl
theorem okFbeltwayref06_Frames : CallsV Try.prog tabs 30 iFbeltwayref06_Frames :=
  callsV_of_rk (cx := cFbeltwayref06_Frames) (fn := Try.f30) (c := Try.f30.body.getD .skip) (n := 48) (N := 0) (rvs := [.tmp 4, .tmp 5]) (cxOk (.cons okFbeltwayref06_Valid TabOk.nil) (.cons xt36 XtOk.nil)) Try.func30 rfl (by kernel_rfl) rfl rfl (by decide) (by decide) (fun x => congrFun eFbeltwayref06_Frames x)
noncomputable def Fbeltwayref12_Cap (a0 : (ByteArray × (List (Nat × Int × Int × Int)) × Int)) (a1 : Int) (a2 : Int) : Option (Int × Int) :=
Option.bind (Fbeltwayref12_Check a0) (fun r1 =>
if ¬ r1 = 0 then
some ((0, 1))
else if a1 < 0 then
some ((0, 1))
else if a1 ≥ (a0.2.1.length : Int) then
some ((0, 1))
else if a2 < 1 then
some ((0, 1))
else if a2 > 64 then
some ((0, 1))
else if 0 ≤ a1 ∧ a1 < (a0.2.1.length : Int) then
Option.bind (Fbeltwayref06_Frames ((gl ((0, 0, 0, 0) : (Nat × Int × Int × Int)) a0.2.1 a1.toNat).1) a2) (fun r2 =>
some ((r2.1, r2.2)))
else none)
@[reducible] noncomputable def iFbeltwayref12_Cap : FnI := { ps := [⟨(.pair .str (.pair (.slice (.pair .flt (.pair (.int .i64) (.pair (.int .i64) (.int .i64))))) (.int .i64))), true, false, false⟩, ⟨(.int .i64), false, false, false⟩, ⟨(.int .i64), false, false, false⟩], rs := [⟨(.int .i64), false, true, false⟩, ⟨(.int .i64), false, true, false⟩], os := [], bk := [], F := fun x => Fbeltwayref12_Cap x.1 x.2.1 x.2.2 }
noncomputable def cFbeltwayref12_Cap : Cx := { nm := [(3, (1, 1))], keep := [], fns := tabF [(13, iFbeltwayref12_Check), (30, iFbeltwayref06_Frames)], loops := [], joins := [], tb := tabs, exts := [], lets := [] }
theorem eFbeltwayref12_Cap : (fun x : HT iFbeltwayref12_Cap.ps => iFbeltwayref12_Cap.F x) = fun x => rk Try.prog cFbeltwayref12_Cap (Try.f16.body.getD .skip) (HT (iFbeltwayref12_Cap.rs ++ iFbeltwayref12_Cap.os)) 1000000 (finK Try.prog [.tmp 6, .tmp 7] [] iFbeltwayref12_Cap.os (iFbeltwayref12_Cap.rs ++ iFbeltwayref12_Cap.os)) (initF iFbeltwayref12_Cap.ps x 40) (initL iFbeltwayref12_Cap.ps x 1) := by kernel_rfl
theorem okFbeltwayref12_Cap : CallsV Try.prog tabs 16 iFbeltwayref12_Cap :=
  callsV_of_rk (cx := cFbeltwayref12_Cap) (fn := Try.f16) (c := Try.f16.body.getD .skip) (n := 40) (N := 1) (rvs := [.tmp 6, .tmp 7]) (cxOk (.cons okFbeltwayref12_Check (.cons okFbeltwayref06_Frames TabOk.nil)) XtOk.nil) Try.func16 rfl (by kernel_rfl) rfl rfl (by decide) (by decide) (fun x => congrFun eFbeltwayref12_Cap x)
noncomputable def Fbeltwaylaw12_ConfigChecks (a0 : (ByteArray × (List (Nat × Int × Int × Int)) × Int)) (a1 : (List Int)) (a2 : Int) (a3 : Int) (a4 : Int) (a5 : Int) (a6 : Int) : Option Bool :=
if (a0.2.1.length : Int) > 20 then
Option.bind (Fbeltwaylaw12_awake) (fun r1 =>
some (r1))
else if (a0.1.size : Int) > 300 then
Option.bind (Fbeltwaylaw12_awake) (fun r2 =>
some (r2))
else Option.bind (Fbeltwaymake_New a1) (fun r3 =>
Option.bind (Fbeltwaymake_Config r3) (fun r4 =>
Option.bind (Fbeltwaylaw12_spoilt r4.1 a2 a3 a4) (fun r5 =>
Option.bind (Fbeltwaylaw12_spoilt r4.1 a2 a3 a4) (fun r6 =>
Option.bind (Fbeltwaylaw12_spoilt r6 a4 a3 a2) (fun r7 =>
loopO (σ := Int) (β := Bool) (fun s1 =>
if s1 < (([a0, r4.1, r5, r7] : List (ByteArray × (List (Nat × Int × Int × Int)) × Int)).length : Int) then
if 0 ≤ s1 ∧ s1 < (([a0, r4.1, r5, r7] : List (ByteArray × (List (Nat × Int × Int × Int)) × Int)).length : Int) then
Option.bind (Fconfig_Check ((gl ((⟨#[]⟩, [], 0) : (ByteArray × (List (Nat × Int × Int × Int)) × Int)) ([a0, r4.1, r5, r7] : List (ByteArray × (List (Nat × Int × Int × Int)) × Int)) s1.toNat).1, ((gl ((⟨#[]⟩, [], 0) : (ByteArray × (List (Nat × Int × Int × Int)) × Int)) ([a0, r4.1, r5, r7] : List (ByteArray × (List (Nat × Int × Int × Int)) × Int)) s1.toNat).2))) (fun r8 =>
Option.bind (Fbeltwayref12_Check ((gl ((⟨#[]⟩, [], 0) : (ByteArray × (List (Nat × Int × Int × Int)) × Int)) ([a0, r4.1, r5, r7] : List (ByteArray × (List (Nat × Int × Int × Int)) × Int)) s1.toNat).1, ((gl ((⟨#[]⟩, [], 0) : (ByteArray × (List (Nat × Int × Int × Int)) × Int)) ([a0, r4.1, r5, r7] : List (ByteArray × (List (Nat × Int × Int × Int)) × Int)) s1.toNat).2))) (fun r9 =>
if ¬ r8 = r9 then
some (Sum.inr (false))
else Option.bind (Fconfig_Complete ((gl ((⟨#[]⟩, [], 0) : (ByteArray × (List (Nat × Int × Int × Int)) × Int)) ([a0, r4.1, r5, r7] : List (ByteArray × (List (Nat × Int × Int × Int)) × Int)) s1.toNat).1, ((gl ((⟨#[]⟩, [], 0) : (ByteArray × (List (Nat × Int × Int × Int)) × Int)) ([a0, r4.1, r5, r7] : List (ByteArray × (List (Nat × Int × Int × Int)) × Int)) s1.toNat).2))) (fun r10 =>
Option.bind (Fbeltwayref12_Complete ((gl ((⟨#[]⟩, [], 0) : (ByteArray × (List (Nat × Int × Int × Int)) × Int)) ([a0, r4.1, r5, r7] : List (ByteArray × (List (Nat × Int × Int × Int)) × Int)) s1.toNat).1, ((gl ((⟨#[]⟩, [], 0) : (ByteArray × (List (Nat × Int × Int × Int)) × Int)) ([a0, r4.1, r5, r7] : List (ByteArray × (List (Nat × Int × Int × Int)) × Int)) s1.toNat).2))) (fun r11 =>
if ¬ r10 = r11 then
some (Sum.inr (false))
else Option.bind (Fbeltwaymake_Mod a5 6) (fun r12 =>
Option.bind (Fbeltwaymake_Mod a6 67) (fun r13 =>
loopO (σ := Int) (β := (Int ⊕ Bool)) (fun s2 =>
if s2 < (([([a5, a6] : List Int), ([w64 (r12 - 1), w64 (r13 - 1)] : List Int)] : List (List Int)).length : Int) then
if 0 ≤ s2 ∧ s2 < (([([a5, a6] : List Int), ([w64 (r12 - 1), w64 (r13 - 1)] : List Int)] : List (List Int)).length : Int) then
if 0 ≤ (0 : Int) ∧ (0 : Int) < ((gl ([] : (List Int)) ([([a5, a6] : List Int), ([w64 (r12 - 1), w64 (r13 - 1)] : List Int)] : List (List Int)) s2.toNat).length : Int) then
if 0 ≤ (1 : Int) ∧ (1 : Int) < ((gl ([] : (List Int)) ([([a5, a6] : List Int), ([w64 (r12 - 1), w64 (r13 - 1)] : List Int)] : List (List Int)) s2.toNat).length : Int) then
Option.bind (Fconfig_Cap ((gl ((⟨#[]⟩, [], 0) : (ByteArray × (List (Nat × Int × Int × Int)) × Int)) ([a0, r4.1, r5, r7] : List (ByteArray × (List (Nat × Int × Int × Int)) × Int)) s1.toNat).1, ((gl ((⟨#[]⟩, [], 0) : (ByteArray × (List (Nat × Int × Int × Int)) × Int)) ([a0, r4.1, r5, r7] : List (ByteArray × (List (Nat × Int × Int × Int)) × Int)) s1.toNat).2)) (gl (0 : Int) (gl ([] : (List Int)) ([([a5, a6] : List Int), ([w64 (r12 - 1), w64 (r13 - 1)] : List Int)] : List (List Int)) s2.toNat) ((0 : Int).toNat)) (gl (0 : Int) (gl ([] : (List Int)) ([([a5, a6] : List Int), ([w64 (r12 - 1), w64 (r13 - 1)] : List Int)] : List (List Int)) s2.toNat) ((1 : Int).toNat))) (fun r14 =>
if 0 ≤ (0 : Int) ∧ (0 : Int) < ((gl ([] : (List Int)) ([([a5, a6] : List Int), ([w64 (r12 - 1), w64 (r13 - 1)] : List Int)] : List (List Int)) s2.toNat).length : Int) then
if 0 ≤ (1 : Int) ∧ (1 : Int) < ((gl ([] : (List Int)) ([([a5, a6] : List Int), ([w64 (r12 - 1), w64 (r13 - 1)] : List Int)] : List (List Int)) s2.toNat).length : Int) then
Option.bind (Fbeltwayref12_Cap ((gl ((⟨#[]⟩, [], 0) : (ByteArray × (List (Nat × Int × Int × Int)) × Int)) ([a0, r4.1, r5, r7] : List (ByteArray × (List (Nat × Int × Int × Int)) × Int)) s1.toNat).1, ((gl ((⟨#[]⟩, [], 0) : (ByteArray × (List (Nat × Int × Int × Int)) × Int)) ([a0, r4.1, r5, r7] : List (ByteArray × (List (Nat × Int × Int × Int)) × Int)) s1.toNat).2)) (gl (0 : Int) (gl ([] : (List Int)) ([([a5, a6] : List Int), ([w64 (r12 - 1), w64 (r13 - 1)] : List Int)] : List (List Int)) s2.toNat) ((0 : Int).toNat)) (gl (0 : Int) (gl ([] : (List Int)) ([([a5, a6] : List Int), ([w64 (r12 - 1), w64 (r13 - 1)] : List Int)] : List (List Int)) s2.toNat) ((1 : Int).toNat))) (fun r15 =>
if ¬ r14.1 = r15.1 then
some (Sum.inr (Sum.inr (false)))
else if ¬ r14.2 = r15.2 then
some (Sum.inr (Sum.inr (false)))
else some (Sum.inl (w64 (s2 + 1))))
else none
else none)
else none
else none
else none
else some (Sum.inr (Sum.inl (w64 (s1 + 1))))) (0)))))))
else none
else Option.map Sum.inr (Option.bind (Fbeltwaylaw12_awake) (fun r16 =>
some (r16)))) (0))))))
@[reducible] noncomputable def iFbeltwaylaw12_ConfigChecks : FnI := { ps := [⟨(.pair .str (.pair (.slice (.pair .flt (.pair (.int .i64) (.pair (.int .i64) (.int .i64))))) (.int .i64))), true, false, false⟩, ⟨(.slice (.int .i64)), false, false, false⟩, ⟨(.int .i64), false, false, false⟩, ⟨(.int .i64), false, false, false⟩, ⟨(.int .i64), false, false, false⟩, ⟨(.int .i64), false, false, false⟩, ⟨(.int .i64), false, false, false⟩], rs := [⟨.bool, false, true, false⟩], os := [], bk := [], F := fun x => Fbeltwaylaw12_ConfigChecks x.1 x.2.1 x.2.2.1 x.2.2.2.1 x.2.2.2.2.1 x.2.2.2.2.2.1 x.2.2.2.2.2.2 }
noncomputable def cFbeltwaylaw12_ConfigChecks : Cx := { nm := [(7, (2, 1)), (15, (7, 1)), (17, (13, 1)), (36, (3, 2)), (37, (5, 2)), (44, (8, 1)), (49, (9, 1)), (53, (10, 1)), (54, (11, 1)), (59, (12, 1)), (74, (14, 1)), (81, (15, 1)), (82, (16, 1)), (87, (17, 1))], keep := [], fns := tabF [(6, iFbeltwaymake_Config), (7, iFbeltwaymake_New), (8, iFconfig_Check), (9, iFbeltwaylaw12_awake), (10, iFbeltwaymake_Mod), (11, iFconfig_Cap), (12, iFbeltwaylaw12_spoilt), (13, iFbeltwayref12_Check), (14, iFconfig_Complete), (15, iFbeltwayref12_Complete), (16, iFbeltwayref12_Cap)], loops := [(0, { live := [(56, ⟨(.int .i64), false, false, false⟩)], boxes := [], rows := [], dead := [14, 17, 19, 20, 21, 22, 23, 57, 58, 59, 60, 61, 62, 63, 64, 65, 66, 67, 68, 69, 70, 71, 72, 73, 74, 75, 76, 77, 78, 79, 80, 81, 82, 83, 84, 85, 86, 87, 88, 89, 90, 91, 92, 93, 94, 95, 96, 97, 98, 99, 100, 101, 102, 103, 104, 105, 106, 107, 108, 109, 110, 111, 112, 113, 114, 115, 116, 117, 118, 119], lost := [], base := 12 }), (2, { live := [(84, ⟨(.int .i64), false, false, false⟩)], boxes := [], rows := [], dead := [14, 19, 20, 21, 22, 23, 85, 86, 87, 88, 89, 90, 91, 92, 93, 94, 95, 96, 97, 98, 99, 100, 101, 102, 103, 104, 105, 106, 107, 108, 109, 110, 111, 112, 113, 114, 115, 116, 117, 118], lost := [], base := 17 })], joins := [], tb := tabs, exts := [], lets := [] }
theorem eFbeltwaylaw12_ConfigChecks : (fun x : HT iFbeltwaylaw12_ConfigChecks.ps => iFbeltwaylaw12_ConfigChecks.F x) = fun x => rk Try.prog cFbeltwaylaw12_ConfigChecks (Try.f5.body.getD .skip) (HT (iFbeltwaylaw12_ConfigChecks.rs ++ iFbeltwaylaw12_ConfigChecks.os)) 1000000 (finK Try.prog [.tmp 14] [] iFbeltwaylaw12_ConfigChecks.os (iFbeltwaylaw12_ConfigChecks.rs ++ iFbeltwaylaw12_ConfigChecks.os)) (initF iFbeltwaylaw12_ConfigChecks.ps x 121) (initL iFbeltwaylaw12_ConfigChecks.ps x 16) := by kernel_rfl
theorem okFbeltwaylaw12_ConfigChecks : CallsV Try.prog tabs 5 iFbeltwaylaw12_ConfigChecks :=
  callsV_of_rk (cx := cFbeltwaylaw12_ConfigChecks) (fn := Try.f5) (c := Try.f5.body.getD .skip) (n := 121) (N := 16) (rvs := [.tmp 14]) (cxOk (.cons okFbeltwaymake_Config (.cons okFbeltwaymake_New (.cons okFconfig_Check (.cons okFbeltwaylaw12_awake (.cons okFbeltwaymake_Mod (.cons okFconfig_Cap (.cons okFbeltwaylaw12_spoilt (.cons okFbeltwayref12_Check (.cons okFconfig_Complete (.cons okFbeltwayref12_Complete (.cons okFbeltwayref12_Cap TabOk.nil))))))))))) XtOk.nil) Try.func5 rfl (by kernel_rfl) rfl rfl (by decide) (by decide) (fun x => congrFun eFbeltwaylaw12_ConfigChecks x)
end Go.Proofs.Ytpdajijinipgdaa
