/-
  The functions of the laws of package reserve (printed, and checked by the kernel).
-/
import Derived.Test.YtgllefepfnbmkaaDoorSpW
set_option linter.unusedVariables false
set_option maxRecDepth 100000
namespace Go.Proofs.YtgllefepfnbmkaaDoor
open Go Go.V3
noncomputable def Fconfig_named (s : ByteArray) : Option Bool :=
if (s.size : Int) < 1 then
some (false)
else if (s.size : Int) > 16 then
some (false)
else if 0 ≤ (0 : Int) ∧ (0 : Int) < (s.size : Int) then
if (sget s ((0 : Int).toNat)) < 97 then
some (false)
else if 0 ≤ (0 : Int) ∧ (0 : Int) < (s.size : Int) then
if (sget s ((0 : Int).toNat)) > 122 then
some (false)
else loopO (σ := Nat) (β := Bool) (fun p =>
cond (decide (p < s.size)) (if ((Utf8.decode s p).1 : Int) < 97 then
if ((Utf8.decode s p).1 : Int) < 48 then
if ¬ ((Utf8.decode s p).1 : Int) = 45 then
some (Sum.inr (false))
else some (Sum.inl (p + (Utf8.decode s p).2))
else if ((Utf8.decode s p).1 : Int) > 57 then
if ¬ ((Utf8.decode s p).1 : Int) = 45 then
some (Sum.inr (false))
else some (Sum.inl (p + (Utf8.decode s p).2))
else some (Sum.inl (p + (Utf8.decode s p).2))
else if ((Utf8.decode s p).1 : Int) > 122 then
if ((Utf8.decode s p).1 : Int) < 48 then
if ¬ ((Utf8.decode s p).1 : Int) = 45 then
some (Sum.inr (false))
else some (Sum.inl (p + (Utf8.decode s p).2))
else if ((Utf8.decode s p).1 : Int) > 57 then
if ¬ ((Utf8.decode s p).1 : Int) = 45 then
some (Sum.inr (false))
else some (Sum.inl (p + (Utf8.decode s p).2))
else some (Sum.inl (p + (Utf8.decode s p).2))
else some (Sum.inl (p + (Utf8.decode s p).2)))
(some (Sum.inr (true)))) 0
else none
else none
@[reducible] noncomputable def iFconfig_named : FnI := { ps := [⟨.str, false, false, false⟩], rs := [⟨.bool, false, false, false⟩], os := [], bk := [], F := fun x => Fconfig_named x }
noncomputable def cFconfig_named : Cx := { nm := [], keep := [], fns := tabF [], loops := [], joins := [], tb := tabs, exts := [], lets := [] }
theorem eFconfig_named : (fun s => Fconfig_named s) = fun s => rk Tryd.prog cFconfig_named (sq1 (Tryd.f65.body.getD .skip)) Bool 1000000 (fun e fr L => match e with
  | .normal => rk Tryd.prog cFconfig_named (sq1 (sq2 (Tryd.f65.body.getD .skip))) Bool 1000000 (fun e fr _ => match e with
    | .normal => loopB Tryd.prog cFconfig_named (sq2 (lpC (blkC (sq2 (sq1 (sq2 (sq2 (Tryd.f65.body.getD .skip)))))))) (sq2 (sq2 (sq2 (Tryd.f65.body.getD .skip)))) [2, 4, 24, 25, 26, 27, 28, 29, 30, 31, 32, 33, 34, 35, 36, 37, 38, 39, 40, 41, 42, 43, 44, 45] 0 (fr.set 23 (.str s)) s
    | .ret => finB fr
    | _ => none) fr L
  | _ => none) (.str s :: List.replicate (46 - 1) undefV) [] := by kernel_rfl
theorem okFconfig_named : CallsV Tryd.prog tabs 65 iFconfig_named :=
  callsV_str (cx := cFconfig_named) (cxOk TabOk.nil XtOk.nil) (fn := Tryd.f65) (r0 := (sq1 (Tryd.f65.body.getD .skip))) (pre := (sq1 (sq2 (Tryd.f65.body.getD .skip)))) (rest := (sq2 (lpC (blkC (sq2 (sq1 (sq2 (sq2 (Tryd.f65.body.getD .skip))))))))) (tail := (sq2 (sq2 (sq2 (Tryd.f65.body.getD .skip))))) (i3 := 3) (i4 := 4) (bid := 0) (n := 46) (o1 := opAt (sq1 (sq1 (sq2 (sq2 (Tryd.f65.body.getD .skip))))) 0) (o2 := opAt (sq1 (sq1 (sq2 (sq2 (Tryd.f65.body.getD .skip))))) 1) (o3 := opAt (sq1 (lpC (blkC (sq2 (sq1 (sq2 (sq2 (Tryd.f65.body.getD .skip)))))))) 0) (o4 := opAt (sq1 (lpC (blkC (sq2 (sq1 (sq2 (sq2 (Tryd.f65.body.getD .skip)))))))) 1) (t := 9) (W := [2, 4, 24, 25, 26, 27, 28, 29, 30, 31, 32, 33, 34, 35, 36, 37, 38, 39, 40, 41, 42, 43, 44, 45]) (F := Fconfig_named)
    Tryd.func65 (by kernel_rfl) (by kernel_rfl) rfl (by decide) (by kernel_rfl) ⟨by kernel_rfl, by kernel_rfl, by kernel_rfl⟩ ⟨by kernel_rfl, by kernel_rfl, by kernel_rfl⟩ (by kernel_rfl) ⟨by kernel_rfl, by kernel_rfl, by kernel_rfl⟩ ⟨by kernel_rfl, by kernel_rfl, by kernel_rfl⟩ (by kernel_rfl) (by kernel_rfl) (fun s => congrFun eFconfig_named s)
noncomputable def Fmath_bits_TrailingZeros64 (a0 : (BitVec 64)) : Option Int :=
if a0 = (0#64) then
some (64)
else letv ((a0 &&& (0#64 - a0)) * (285870213051353865#64)) (fun (v1 : BitVec 64) =>
if True then
if 0 ≤ ((v1 >>> (58#64).toNat).toNat : Int) ∧ ((v1 >>> (58#64).toNat).toNat : Int) < ((64 : Nat) : Int) then
if 0 + ((v1 >>> (58#64).toNat).toNat : Int).toNat < tab0.size then
letv (w64 (tget tab0 (0 + ((v1 >>> (58#64).toNat).toNat : Int).toNat))) (fun (v2 : Int) =>
some (v2))
else none
else none
else none)
@[reducible] noncomputable def iFmath_bits_TrailingZeros64 : FnI := { ps := [⟨.u64, false, false, false⟩], rs := [⟨(.int .i64), false, true, false⟩], os := [], bk := [], F := fun x => Fmath_bits_TrailingZeros64 x }
noncomputable def cFmath_bits_TrailingZeros64 : Cx := { nm := [], keep := [], fns := tabF [], loops := [], joins := [], tb := tabs, exts := [], lets := [9, 13] }
theorem eFmath_bits_TrailingZeros64 : (fun x : HT iFmath_bits_TrailingZeros64.ps => iFmath_bits_TrailingZeros64.F x) = fun x => rk Tryd.prog cFmath_bits_TrailingZeros64 (Tryd.f53.body.getD .skip) (HT (iFmath_bits_TrailingZeros64.rs ++ iFmath_bits_TrailingZeros64.os)) 1000000 (finK Tryd.prog [.tmp 2] [] iFmath_bits_TrailingZeros64.os (iFmath_bits_TrailingZeros64.rs ++ iFmath_bits_TrailingZeros64.os)) (initF iFmath_bits_TrailingZeros64.ps x 14) (initL iFmath_bits_TrailingZeros64.ps x 0) := by kernel_rfl
theorem okFmath_bits_TrailingZeros64 : CallsV Tryd.prog tabs 53 iFmath_bits_TrailingZeros64 :=
  callsV_of_rk (cx := cFmath_bits_TrailingZeros64) (fn := Tryd.f53) (c := Tryd.f53.body.getD .skip) (n := 14) (N := 0) (rvs := [.tmp 2]) (cxOk TabOk.nil XtOk.nil) Tryd.func53 rfl (by kernel_rfl) rfl rfl (by decide) (by decide) (fun x => congrFun eFmath_bits_TrailingZeros64 x)
noncomputable def Fmath_bits_OnesCount64 (a0 : (BitVec 64)) : Option Int :=
if True then
letv ((a0 >>> (1#64).toNat) &&& (6148914691236517205#64)) (fun (v1 : BitVec 64) =>
letv (a0 &&& (6148914691236517205#64)) (fun (v2 : BitVec 64) =>
if True then
letv (((v1 + v2) >>> (2#64).toNat) &&& (3689348814741910323#64)) (fun (v3 : BitVec 64) =>
letv ((v1 + v2) &&& (3689348814741910323#64)) (fun (v4 : BitVec 64) =>
if True then
letv (((v3 + v4) >>> (4#64).toNat) + (v3 + v4)) (fun (v5 : BitVec 64) =>
letv (v5 &&& (1085102592571150095#64)) (fun (v6 : BitVec 64) =>
if True then
if True then
letv ((v6 + (v6 >>> (8#64).toNat)) >>> (16#64).toNat) (fun (v7 : BitVec 64) =>
letv ((v6 + (v6 >>> (8#64).toNat)) + v7) (fun (v8 : BitVec 64) =>
if True then
letv (w64 (((v8 + (v8 >>> (32#64).toNat)).toNat : Int))) (fun (v9 : Int) =>
some (iBits .and v9 127))
else none))
else none
else none))
else none))
else none))
else none
@[reducible] noncomputable def iFmath_bits_OnesCount64 : FnI := { ps := [⟨.u64, false, false, false⟩], rs := [⟨(.int .i64), false, true, false⟩], os := [], bk := [], F := fun x => Fmath_bits_OnesCount64 x }
noncomputable def cFmath_bits_OnesCount64 : Cx := { nm := [], keep := [], fns := tabF [], loops := [], joins := [], tb := tabs, exts := [], lets := [5, 7, 11, 13, 18, 19, 26, 27, 33] }
theorem eFmath_bits_OnesCount64 : (fun x : HT iFmath_bits_OnesCount64.ps => iFmath_bits_OnesCount64.F x) = fun x => rk Tryd.prog cFmath_bits_OnesCount64 (Tryd.f51.body.getD .skip) (HT (iFmath_bits_OnesCount64.rs ++ iFmath_bits_OnesCount64.os)) 1000000 (finK Tryd.prog [.tmp 2] [] iFmath_bits_OnesCount64.os (iFmath_bits_OnesCount64.rs ++ iFmath_bits_OnesCount64.os)) (initF iFmath_bits_OnesCount64.ps x 35) (initL iFmath_bits_OnesCount64.ps x 0) := by kernel_rfl
theorem okFmath_bits_OnesCount64 : CallsV Tryd.prog tabs 51 iFmath_bits_OnesCount64 :=
  callsV_of_rk (cx := cFmath_bits_OnesCount64) (fn := Tryd.f51) (c := Tryd.f51.body.getD .skip) (n := 35) (N := 0) (rvs := [.tmp 2]) (cxOk TabOk.nil XtOk.nil) Tryd.func51 rfl (by kernel_rfl) rfl rfl (by decide) (by decide) (fun x => congrFun eFmath_bits_OnesCount64 x)
noncomputable def Fbeltwayref14_Names  : Option (List ByteArray) :=
some (([⟨#[115, 101, 109, 105, 115, 112, 97, 99, 101]⟩, ⟨#[97, 112, 112, 101, 108]⟩, ⟨#[102, 105, 120, 101, 100]⟩, ⟨#[111, 108, 100, 101, 114, 45, 102, 105, 114, 115, 116]⟩, ⟨#[120, 120]⟩, ⟨#[120, 120, 49, 48, 48]⟩] : List ByteArray))
@[reducible] noncomputable def iFbeltwayref14_Names : FnI := { ps := [], rs := [⟨(.slice .str), false, true, false⟩], os := [], bk := [], F := fun x => Fbeltwayref14_Names  }
noncomputable def cFbeltwayref14_Names : Cx := { nm := [(1, (0, 1))], keep := [1], fns := tabF [], loops := [], joins := [], tb := tabs, exts := [], lets := [] }
theorem eFbeltwayref14_Names : (fun x : HT iFbeltwayref14_Names.ps => iFbeltwayref14_Names.F x) = fun x => rk Tryd.prog cFbeltwayref14_Names (Tryd.f47.body.getD .skip) (HT (iFbeltwayref14_Names.rs ++ iFbeltwayref14_Names.os)) 1000000 (finK Tryd.prog [.tmp 0] [] iFbeltwayref14_Names.os (iFbeltwayref14_Names.rs ++ iFbeltwayref14_Names.os)) (initF iFbeltwayref14_Names.ps x 2) (initL iFbeltwayref14_Names.ps x 1) := by kernel_rfl
theorem okFbeltwayref14_Names : CallsV Tryd.prog tabs 47 iFbeltwayref14_Names :=
  callsV_of_rk (cx := cFbeltwayref14_Names) (fn := Tryd.f47) (c := Tryd.f47.body.getD .skip) (n := 2) (N := 1) (rvs := [.tmp 0]) (cxOk TabOk.nil XtOk.nil) Tryd.func47 rfl (by kernel_rfl) rfl rfl (by decide) (by decide) (fun x => congrFun eFbeltwayref14_Names x)
noncomputable def Fbeltwayref06_Percent (a0 : Int) : Option (Nat × Int) :=
if a0 < 0 then
some ((0, 1))
else if a0 > 100 then
some ((0, 1))
else if (fArith .quo (fOfInt a0) 4636737291354636288).isSome = true then
some (((fArith .quo (fOfInt a0) 4636737291354636288).getD 0, 0))
else none
@[reducible] noncomputable def iFbeltwayref06_Percent : FnI := { ps := [⟨(.int .i64), false, false, false⟩], rs := [⟨.flt, false, true, false⟩, ⟨(.int .i64), false, true, false⟩], os := [], bk := [], F := fun x => Fbeltwayref06_Percent x }
noncomputable def cFbeltwayref06_Percent : Cx := { nm := [], keep := [], fns := tabF [], loops := [], joins := [], tb := tabs, exts := [], lets := [] }
theorem eFbeltwayref06_Percent : (fun x : HT iFbeltwayref06_Percent.ps => iFbeltwayref06_Percent.F x) = fun x => rk Tryd.prog cFbeltwayref06_Percent (Tryd.f63.body.getD .skip) (HT (iFbeltwayref06_Percent.rs ++ iFbeltwayref06_Percent.os)) 1000000 (finK Tryd.prog [.tmp 2, .tmp 3] [] iFbeltwayref06_Percent.os (iFbeltwayref06_Percent.rs ++ iFbeltwayref06_Percent.os)) (initF iFbeltwayref06_Percent.ps x 13) (initL iFbeltwayref06_Percent.ps x 0) := by kernel_rfl
theorem okFbeltwayref06_Percent : CallsV Tryd.prog tabs 63 iFbeltwayref06_Percent :=
  callsV_of_rk (cx := cFbeltwayref06_Percent) (fn := Tryd.f63) (c := Tryd.f63.body.getD .skip) (n := 13) (N := 0) (rvs := [.tmp 2, .tmp 3]) (cxOk TabOk.nil XtOk.nil) Tryd.func63 rfl (by kernel_rfl) rfl rfl (by decide) (by decide) (fun x => congrFun eFbeltwayref06_Percent x)
noncomputable def Fbeltwayref14_Get (a0 : ByteArray) (a1 : Int) : Option ((ByteArray × (List (Nat × Int × Int × Int)) × Int) × Int) :=
Option.bind (Fbeltwayref06_Percent a1) (fun r1 =>
if ¬ r1.2 = 0 then
if a0 = (⟨#[115, 101, 109, 105, 115, 112, 97, 99, 101]⟩) then
some (((⟨#[]⟩, [], 0), 6))
else if a0 = (⟨#[97, 112, 112, 101, 108]⟩) then
some (((⟨#[]⟩, [], 0), 6))
else if a0 = (⟨#[102, 105, 120, 101, 100]⟩) then
some (((⟨#[]⟩, [], 0), 6))
else if a0 = (⟨#[111, 108, 100, 101, 114, 45, 102, 105, 114, 115, 116]⟩) then
some (((⟨#[]⟩, [], 0), 6))
else if a0 = (⟨#[120, 120]⟩) then
some (((⟨#[]⟩, [], 0), 6))
else if a0 = (⟨#[120, 120, 49, 48, 48]⟩) then
some (((⟨#[]⟩, [], 0), 6))
else some (((⟨#[]⟩, [], 0), 7))
else if a0 = (⟨#[115, 101, 109, 105, 115, 112, 97, 99, 101]⟩) then
if a1 < 1 then
some (((⟨#[]⟩, [], 0), 6))
else some (((a0, ([(0, 0, 0, 0)] : List (Nat × Int × Int × Int)), 1), 0))
else if a0 = (⟨#[97, 112, 112, 101, 108]⟩) then
if a1 < 1 then
some (((⟨#[]⟩, [], 0), 6))
else some (((a0, ([(0, 0, 0, 1), (0, 0, 0, 1)] : List (Nat × Int × Int × Int)), 8), 0))
else if a0 = (⟨#[102, 105, 120, 101, 100]⟩) then
if a1 < 1 then
some (((⟨#[]⟩, [], 0), 6))
else some (((a0, ([(r1.1, 1, 0, 1), (0, 0, 0, 1)] : List (Nat × Int × Int × Int)), 8), 0))
else if a0 = (⟨#[111, 108, 100, 101, 114, 45, 102, 105, 114, 115, 116]⟩) then
if a1 < 1 then
some (((⟨#[]⟩, [], 0), 6))
else some (((a0, ([(r1.1, 0, 1, 0)] : List (Nat × Int × Int × Int)), 0), 0))
else if a0 = (⟨#[120, 120]⟩) then
if a1 < 1 then
some (((⟨#[]⟩, [], 0), 6))
else some (((a0, ([(r1.1, 0, 1, 1), (r1.1, 0, 1, 1)] : List (Nat × Int × Int × Int)), 0), 0))
else if a0 = (⟨#[120, 120, 49, 48, 48]⟩) then
if a1 < 1 then
some (((⟨#[]⟩, [], 0), 6))
else some (((a0, ([(r1.1, 0, 1, 1), (r1.1, 0, 1, 2), (0, 0, 0, 2)] : List (Nat × Int × Int × Int)), 8), 0))
else some (((⟨#[]⟩, [], 0), 7)))
@[reducible] noncomputable def iFbeltwayref14_Get : FnI := { ps := [⟨.str, false, false, false⟩, ⟨(.int .i64), false, false, false⟩], rs := [⟨(.pair .str (.pair (.slice (.pair .flt (.pair (.int .i64) (.pair (.int .i64) (.int .i64))))) (.int .i64))), true, true, false⟩, ⟨(.int .i64), false, true, false⟩], os := [], bk := [], F := fun x => Fbeltwayref14_Get x.1 x.2 }
noncomputable def cFbeltwayref14_Get : Cx := { nm := [(4, (0, 1)), (9, (1, 1)), (28, (2, 1)), (35, (3, 1)), (42, (4, 1)), (48, (5, 1)), (57, (6, 1)), (67, (7, 1))], keep := [28, 35, 42, 48, 57, 67], fns := tabF [(63, iFbeltwayref06_Percent)], loops := [], joins := [], tb := tabs, exts := [], lets := [] }
theorem eFbeltwayref14_Get : (fun x : HT iFbeltwayref14_Get.ps => iFbeltwayref14_Get.F x) = fun x => rk Tryd.prog cFbeltwayref14_Get (Tryd.f46.body.getD .skip) (HT (iFbeltwayref14_Get.rs ++ iFbeltwayref14_Get.os)) 1000000 (finK Tryd.prog [.cell 4 27, .tmp 5] [] iFbeltwayref14_Get.os (iFbeltwayref14_Get.rs ++ iFbeltwayref14_Get.os)) (initF iFbeltwayref14_Get.ps x 72) (initL iFbeltwayref14_Get.ps x 8) := by kernel_rfl
theorem okFbeltwayref14_Get : CallsV Tryd.prog tabs 46 iFbeltwayref14_Get :=
  callsV_of_rk (cx := cFbeltwayref14_Get) (fn := Tryd.f46) (c := Tryd.f46.body.getD .skip) (n := 72) (N := 8) (rvs := [.cell 4 27, .tmp 5]) (cxOk (.cons okFbeltwayref06_Percent TabOk.nil) XtOk.nil) Tryd.func46 rfl (by kernel_rfl) rfl rfl (by decide) (by decide) (fun x => congrFun eFbeltwayref14_Get x)
noncomputable def Fbeltwaymake_Share (a0 : ((List Int) × Int)) : Option (Nat × ((List Int) × Int)) :=
Option.bind (Fbeltwaymake_Deck_Next a0 4) (fun r1 =>
if r1.1 = 0 then
Option.bind (Fbeltwaymake_Deck_Next r1.2 5) (fun r2 =>
if 0 ≤ r2.1 ∧ r2.1 < (([4602678819172646912, 4593671619917905920, 4607182418800017408, 4599676419421066581, 4562254508917369340] : List Nat).length : Int) then
some ((gl (0 : Nat) ([4602678819172646912, 4593671619917905920, 4607182418800017408, 4599676419421066581, 4562254508917369340] : List Nat) r2.1.toNat, r2.2))
else none)
else Option.bind (Fbeltwaymake_Deck_Next r1.2 100) (fun r3 =>
Option.bind (Fbeltwayref06_Percent (w64 ((1 : Int) + r3.1))) (fun r4 =>
some ((r4.1, r3.2)))))
@[reducible] noncomputable def iFbeltwaymake_Share : FnI := { ps := [⟨(.pair (.slice (.int .i64)) (.int .i64)), true, false, true⟩], rs := [⟨.flt, false, true, false⟩], os := [⟨(.pair (.slice (.int .i64)) (.int .i64)), true, false, true⟩], bk := [0], F := fun x => Fbeltwaymake_Share x }
noncomputable def cFbeltwaymake_Share : Cx := { nm := [(6, (2, 1)), (8, (3, 1)), (10, (4, 1)), (15, (5, 1))], keep := [], fns := tabF [(26, iFbeltwaymake_Deck_Next), (63, iFbeltwayref06_Percent)], loops := [], joins := [], tb := tabs, exts := [], lets := [] }
theorem eFbeltwaymake_Share : (fun x : HT iFbeltwaymake_Share.ps => iFbeltwaymake_Share.F x) = fun x => rk Tryd.prog cFbeltwaymake_Share (Tryd.f48.body.getD .skip) (HT (iFbeltwaymake_Share.rs ++ iFbeltwaymake_Share.os)) 1000000 (finK Tryd.prog [.tmp 2] [0] iFbeltwaymake_Share.os (iFbeltwaymake_Share.rs ++ iFbeltwaymake_Share.os)) (initF iFbeltwaymake_Share.ps x 21) (initL iFbeltwaymake_Share.ps x 4) := by kernel_rfl
theorem okFbeltwaymake_Share : CallsV Tryd.prog tabs 48 iFbeltwaymake_Share :=
  callsV_of_rk (cx := cFbeltwaymake_Share) (fn := Tryd.f48) (c := Tryd.f48.body.getD .skip) (n := 21) (N := 4) (rvs := [.tmp 2]) (cxOk (.cons okFbeltwaymake_Deck_Next (.cons okFbeltwayref06_Percent TabOk.nil)) XtOk.nil) Tryd.func48 rfl (by kernel_rfl) rfl rfl (by decide) (by decide) (fun x => congrFun eFbeltwaymake_Share x)
noncomputable def Fbeltwaymake_Config (a0 : ((List Int) × Int)) : Option ((ByteArray × (List (Nat × Int × Int × Int)) × Int) × ((List Int) × Int)) :=
Option.bind (Fbeltwaymake_Deck_Next a0 3) (fun r1 =>
if r1.1 > 0 then
Option.bind (Fbeltwayref14_Names) (fun r2 =>
Option.bind (Fbeltwaymake_Deck_Next r1.2 6) (fun r3 =>
if 0 ≤ r3.1 ∧ r3.1 < (r2.length : Int) then
Option.bind (Fbeltwaymake_Deck_Next r3.2 100) (fun r4 =>
Option.bind (Fbeltwaymake_Deck_Next r4.2 6) (fun r5 =>
if 0 ≤ r5.1 ∧ r5.1 < (([10, 15, 25, 30, 50, w64 ((1 : Int) + r4.1)] : List Int).length : Int) then
Option.bind (Fbeltwayref14_Get (gl (⟨#[]⟩ : ByteArray) r2 r3.1.toNat) (gl (0 : Int) ([10, 15, 25, 30, 50, w64 ((1 : Int) + r4.1)] : List Int) r5.1.toNat)) (fun r6 =>
Option.bind (α := (((List Int) × Int) × (ByteArray × (List (Nat × Int × Int × Int)) × Int)) ⊕ ((ByteArray × (List (Nat × Int × Int × Int)) × Int) × ((List Int) × Int))) (if r6.1.2.2 > 0 then
Option.bind (Fbeltwaymake_Deck_Next r5.2 5) (fun r7 =>
some (Sum.inl ((r7.2, (r6.1.1, r6.1.2.1, w64 ((1 : Int) + r7.1))))))
else some (Sum.inl ((r5.2, r6.1)))) (fun q => match q with
| Sum.inl j1 => (some ((j1.2, j1.1)))
| Sum.inr b1 => some b1))
else none))
else none))
else Option.bind (Fbeltwaymake_Deck_Next r1.2 4) (fun r8 =>
loopO (σ := (Int × ((List Int) × Int) × (ByteArray × (List (Nat × Int × Int × Int)) × Int))) (β := ((ByteArray × (List (Nat × Int × Int × Int)) × Int) × ((List Int) × Int))) (fun s1 =>
if s1.1 < (w64 ((1 : Int) + r8.1)) then
Option.bind (Fbeltwaymake_Deck_Next s1.2.1 3) (fun r9 =>
Option.bind (α := (((List Int) × Int) × (Nat × Int × Int × Int)) ⊕ ((Int × ((List Int) × Int) × (ByteArray × (List (Nat × Int × Int × Int)) × Int)) ⊕ ((ByteArray × (List (Nat × Int × Int × Int)) × Int) × ((List Int) × Int)))) (Option.bind (Fbeltwaymake_Deck_Next r9.2 3) (fun r10 =>
if r10.1 > 0 then
Option.bind (Fbeltwaymake_Share r10.2) (fun r11 =>
some (Sum.inl ((r11.2, (r11.1, 0, r9.1, w64 (s1.1 + 1))))))
else some (Sum.inl ((r10.2, (0, 0, r9.1, w64 (s1.1 + 1))))))) (fun q => match q with
| Sum.inl j2 => (if s1.1 < (w64 ((w64 ((1 : Int) + r8.1)) - 1)) then
Option.bind (Fbeltwaymake_Deck_Next j2.1 3) (fun r12 =>
if r12.1 = 0 then
Option.bind (Fbeltwaymake_Deck_Next r12.2 2) (fun r13 =>
if s1.1 = (w64 ((w64 ((1 : Int) + r8.1)) - 1)) then
if fOrd j2.2.1 0 = some .eq then
Option.bind (Fbeltwaymake_Deck_Next r13.2 6) (fun r14 =>
if (s1.2.2.2.1.length + ([(j2.2.1, w64 ((1 : Int) + r13.1), j2.2.2.2.1, s1.1)] : List (Nat × Int × Int × Int)).length) * 32 ≤ 140737488355328 then
some (Sum.inl ((w64 (s1.1 + 1), r14.2, (s1.2.2.1, s1.2.2.2.1 ++ ([(j2.2.1, w64 ((1 : Int) + r13.1), j2.2.2.2.1, s1.1)] : List (Nat × Int × Int × Int)), w64 ((1 : Int) + r14.1)))))
else none)
else if (s1.2.2.2.1.length + ([(j2.2.1, w64 ((1 : Int) + r13.1), j2.2.2.2.1, s1.1)] : List (Nat × Int × Int × Int)).length) * 32 ≤ 140737488355328 then
some (Sum.inl ((w64 (s1.1 + 1), r13.2, (s1.2.2.1, s1.2.2.2.1 ++ ([(j2.2.1, w64 ((1 : Int) + r13.1), j2.2.2.2.1, s1.1)] : List (Nat × Int × Int × Int)), s1.2.2.2.2))))
else none
else if (s1.2.2.2.1.length + ([(j2.2.1, w64 ((1 : Int) + r13.1), j2.2.2.2)] : List (Nat × Int × Int × Int)).length) * 32 ≤ 140737488355328 then
some (Sum.inl ((w64 (s1.1 + 1), r13.2, (s1.2.2.1, s1.2.2.2.1 ++ ([(j2.2.1, w64 ((1 : Int) + r13.1), j2.2.2.2)] : List (Nat × Int × Int × Int)), s1.2.2.2.2))))
else none)
else if s1.1 = (w64 ((w64 ((1 : Int) + r8.1)) - 1)) then
if fOrd j2.2.1 0 = some .eq then
Option.bind (Fbeltwaymake_Deck_Next r12.2 6) (fun r15 =>
if (s1.2.2.2.1.length + ([(j2.2.1, j2.2.2.1, j2.2.2.2.1, s1.1)] : List (Nat × Int × Int × Int)).length) * 32 ≤ 140737488355328 then
some (Sum.inl ((w64 (s1.1 + 1), r15.2, (s1.2.2.1, s1.2.2.2.1 ++ ([(j2.2.1, j2.2.2.1, j2.2.2.2.1, s1.1)] : List (Nat × Int × Int × Int)), w64 ((1 : Int) + r15.1)))))
else none)
else if (s1.2.2.2.1.length + ([(j2.2.1, j2.2.2.1, j2.2.2.2.1, s1.1)] : List (Nat × Int × Int × Int)).length) * 32 ≤ 140737488355328 then
some (Sum.inl ((w64 (s1.1 + 1), r12.2, (s1.2.2.1, s1.2.2.2.1 ++ ([(j2.2.1, j2.2.2.1, j2.2.2.2.1, s1.1)] : List (Nat × Int × Int × Int)), s1.2.2.2.2))))
else none
else if (s1.2.2.2.1.length + ([j2.2] : List (Nat × Int × Int × Int)).length) * 32 ≤ 140737488355328 then
some (Sum.inl ((w64 (s1.1 + 1), r12.2, (s1.2.2.1, s1.2.2.2.1 ++ ([j2.2] : List (Nat × Int × Int × Int)), s1.2.2.2.2))))
else none)
else if s1.1 = (w64 ((w64 ((1 : Int) + r8.1)) - 1)) then
if fOrd j2.2.1 0 = some .eq then
Option.bind (Fbeltwaymake_Deck_Next j2.1 6) (fun r16 =>
if (s1.2.2.2.1.length + ([(j2.2.1, j2.2.2.1, j2.2.2.2.1, s1.1)] : List (Nat × Int × Int × Int)).length) * 32 ≤ 140737488355328 then
some (Sum.inl ((w64 (s1.1 + 1), r16.2, (s1.2.2.1, s1.2.2.2.1 ++ ([(j2.2.1, j2.2.2.1, j2.2.2.2.1, s1.1)] : List (Nat × Int × Int × Int)), w64 ((1 : Int) + r16.1)))))
else none)
else if (s1.2.2.2.1.length + ([(j2.2.1, j2.2.2.1, j2.2.2.2.1, s1.1)] : List (Nat × Int × Int × Int)).length) * 32 ≤ 140737488355328 then
some (Sum.inl ((w64 (s1.1 + 1), j2.1, (s1.2.2.1, s1.2.2.2.1 ++ ([(j2.2.1, j2.2.2.1, j2.2.2.2.1, s1.1)] : List (Nat × Int × Int × Int)), s1.2.2.2.2))))
else none
else if (s1.2.2.2.1.length + ([j2.2] : List (Nat × Int × Int × Int)).length) * 32 ≤ 140737488355328 then
some (Sum.inl ((w64 (s1.1 + 1), j2.1, (s1.2.2.1, s1.2.2.2.1 ++ ([j2.2] : List (Nat × Int × Int × Int)), s1.2.2.2.2))))
else none)
| Sum.inr b2 => some b2))
else some (Sum.inr ((s1.2.2, s1.2.1)))) ((0, r8.2, (⟨#[111, 119, 110]⟩, [], 0)))))
@[reducible] noncomputable def iFbeltwaymake_Config : FnI := { ps := [⟨(.pair (.slice (.int .i64)) (.int .i64)), true, false, true⟩], rs := [⟨(.pair .str (.pair (.slice (.pair .flt (.pair (.int .i64) (.pair (.int .i64) (.int .i64))))) (.int .i64))), true, true, false⟩], os := [⟨(.pair (.slice (.int .i64)) (.int .i64)), true, false, true⟩], bk := [0], F := fun x => Fbeltwaymake_Config x }
noncomputable def cFbeltwaymake_Config : Cx := { nm := [(2, (2, 1)), (3, (10, 1)), (6, (15, 1)), (8, (17, 1)), (10, (3, 1)), (13, (4, 1)), (15, (5, 1)), (19, (6, 1)), (21, (7, 1)), (23, (8, 1)), (26, (9, 1)), (33, (11, 1)), (38, (14, 1)), (47, (16, 1)), (52, (18, 1)), (55, (19, 1)), (63, (21, 1)), (67, (22, 1)), (80, (23, 1)), (86, (24, 1)), (87, (25, 1))], keep := [87], fns := tabF [(26, iFbeltwaymake_Deck_Next), (46, iFbeltwayref14_Get), (47, iFbeltwayref14_Names), (48, iFbeltwaymake_Share)], loops := [(0, { live := [(7, ⟨(.int .i64), false, false, false⟩)], boxes := [(0, ⟨(.pair (.slice (.int .i64)) (.int .i64)), true, false, false⟩), (15, ⟨(.pair .str (.pair (.slice (.pair .flt (.pair (.int .i64) (.pair (.int .i64) (.int .i64))))) (.int .i64))), true, true, false⟩)], rows := [], dead := [8, 41, 42, 43, 44, 45, 46, 47, 48, 49, 50, 51, 52, 53, 54, 55, 56, 57, 58, 59, 60, 61, 62, 63, 64, 65, 66, 67, 68, 69, 70, 71, 72, 73, 74, 75, 76, 77, 78, 79, 80, 81, 82, 83, 84, 85, 86, 87, 88], lost := [], base := 27 })], joins := [(5, { live := [], boxes := [(0, ⟨(.pair (.slice (.int .i64)) (.int .i64)), true, false, false⟩), (10, ⟨(.pair .str (.pair (.slice (.pair .flt (.pair (.int .i64) (.pair (.int .i64) (.int .i64))))) (.int .i64))), true, true, false⟩)], rows := [], dead := [29, 30, 31, 32, 33, 34, 35], lost := [9], base := 12 }), (14, { live := [], boxes := [(0, ⟨(.pair (.slice (.int .i64)) (.int .i64)), true, false, false⟩), (17, ⟨(.pair .flt (.pair (.int .i64) (.pair (.int .i64) (.int .i64)))), true, false, false⟩)], rows := [], dead := [51, 52, 53, 54, 55, 56], lost := [], base := 20 })], tb := tabs, exts := [], lets := [] }
theorem eFbeltwaymake_Config : (fun x : HT iFbeltwaymake_Config.ps => iFbeltwaymake_Config.F x) = fun x => rk Tryd.prog cFbeltwaymake_Config (Tryd.f25.body.getD .skip) (HT (iFbeltwaymake_Config.rs ++ iFbeltwaymake_Config.os)) 1000000 (finK Tryd.prog [.cell 2 27] [0] iFbeltwaymake_Config.os (iFbeltwaymake_Config.rs ++ iFbeltwaymake_Config.os)) (initF iFbeltwaymake_Config.ps x 90) (initL iFbeltwaymake_Config.ps x 27) := by kernel_rfl
theorem okFbeltwaymake_Config : CallsV Tryd.prog tabs 25 iFbeltwaymake_Config :=
  callsV_of_rk (cx := cFbeltwaymake_Config) (fn := Tryd.f25) (c := Tryd.f25.body.getD .skip) (n := 90) (N := 27) (rvs := [.cell 2 27]) (cxOk (.cons okFbeltwaymake_Deck_Next (.cons okFbeltwayref14_Get (.cons okFbeltwayref14_Names (.cons okFbeltwaymake_Share TabOk.nil)))) XtOk.nil) Tryd.func25 rfl (by kernel_rfl) rfl rfl (by decide) (by decide) (fun x => congrFun eFbeltwaymake_Config x)
noncomputable def Fbeltwaymake_Queue (a0 : (List (Int × Int × Int × Int × Int))) (a1 : Int) : Option (List (List (Int × Int × Int × Int × Int))) :=
if 0 ≤ a1 ∧ a1 ≤ a1 ∧ a1 * ((24 : Nat) : Int) ≤ 140737488355328 then
loopO (σ := (Int × (List (List (Int × Int × Int × Int × Int))))) (β := (List (List (Int × Int × Int × Int × Int)))) (fun s1 =>
if s1.1 < (a0.length : Int) then
if 0 ≤ s1.1 ∧ s1.1 < (a0.length : Int) then
if (((gl ((0, 0, 0, 0, 0) : (Int × Int × Int × Int × Int)) a0 s1.1.toNat).2).1) < a1 then
if 0 ≤ (((gl ((0, 0, 0, 0, 0) : (Int × Int × Int × Int × Int)) a0 s1.1.toNat).2).1) ∧ (((gl ((0, 0, 0, 0, 0) : (Int × Int × Int × Int × Int)) a0 s1.1.toNat).2).1) < (s1.2.length : Int) then
if ((s1.2.getD ((((gl ((0, 0, 0, 0, 0) : (Int × Int × Int × Int × Int)) a0 s1.1.toNat).2).1).toNat) []).length + ([((gl ((0, 0, 0, 0, 0) : (Int × Int × Int × Int × Int)) a0 s1.1.toNat).1, ((gl ((0, 0, 0, 0, 0) : (Int × Int × Int × Int × Int)) a0 s1.1.toNat).2).1, (((gl ((0, 0, 0, 0, 0) : (Int × Int × Int × Int × Int)) a0 s1.1.toNat).2).2).1, ((((gl ((0, 0, 0, 0, 0) : (Int × Int × Int × Int × Int)) a0 s1.1.toNat).2).2).2))] : List (Int × Int × Int × Int × Int)).length) * 40 ≤ 140737488355328 then
if 0 ≤ (((gl ((0, 0, 0, 0, 0) : (Int × Int × Int × Int × Int)) a0 s1.1.toNat).2).1) ∧ (((gl ((0, 0, 0, 0, 0) : (Int × Int × Int × Int × Int)) a0 s1.1.toNat).2).1) < (s1.2.length : Int) then
if (((gl ((0, 0, 0, 0, 0) : (Int × Int × Int × Int × Int)) a0 s1.1.toNat).2).1).toNat = (((gl ((0, 0, 0, 0, 0) : (Int × Int × Int × Int × Int)) a0 s1.1.toNat).2).1).toNat then
some (Sum.inl ((w64 (s1.1 + 1), s1.2.set ((((gl ((0, 0, 0, 0, 0) : (Int × Int × Int × Int × Int)) a0 s1.1.toNat).2).1).toNat) ((s1.2.getD ((((gl ((0, 0, 0, 0, 0) : (Int × Int × Int × Int × Int)) a0 s1.1.toNat).2).1).toNat) []) ++ ([((gl ((0, 0, 0, 0, 0) : (Int × Int × Int × Int × Int)) a0 s1.1.toNat).1, ((gl ((0, 0, 0, 0, 0) : (Int × Int × Int × Int × Int)) a0 s1.1.toNat).2).1, (((gl ((0, 0, 0, 0, 0) : (Int × Int × Int × Int × Int)) a0 s1.1.toNat).2).2).1, ((((gl ((0, 0, 0, 0, 0) : (Int × Int × Int × Int × Int)) a0 s1.1.toNat).2).2).2))] : List (Int × Int × Int × Int × Int))))))
else none
else none
else none
else none
else some (Sum.inl ((w64 (s1.1 + 1), s1.2)))
else none
else some (Sum.inr (s1.2))) ((0, List.replicate a1.toNat ([] : (List (Int × Int × Int × Int × Int)))))
else none
@[reducible] noncomputable def iFbeltwaymake_Queue : FnI := { ps := [⟨(.slice (.pair (.int .i64) (.pair (.int .i64) (.pair (.int .i64) (.pair (.int .i64) (.int .i64)))))), false, false, false⟩, ⟨(.int .i64), false, false, false⟩], rs := [⟨(.slice (.slice (.pair (.int .i64) (.pair (.int .i64) (.pair (.int .i64) (.pair (.int .i64) (.int .i64))))))), false, true, false⟩], os := [], bk := [], F := fun x => Fbeltwaymake_Queue x.1 x.2 }
noncomputable def cFbeltwaymake_Queue : Cx := { nm := [(7, (2, 1)), (9, (1, 1)), (27, (3, 1)), (29, (4, 1)), (30, (5, 1))], keep := [9, 30], fns := tabF [], loops := [(0, { live := [(12, ⟨(.int .i64), false, false, false⟩)], boxes := [], rows := [(1, (.slice (.pair (.int .i64) (.pair (.int .i64) (.pair (.int .i64) (.pair (.int .i64) (.int .i64)))))))], dead := [7, 13, 14, 15, 16, 17, 18, 19, 20, 21, 22, 23, 24, 25, 26, 27, 28, 29, 30, 31, 32], lost := [], base := 2 })], joins := [], tb := tabs, exts := [], lets := [] }
theorem eFbeltwaymake_Queue : (fun x : HT iFbeltwaymake_Queue.ps => iFbeltwaymake_Queue.F x) = fun x => rk Tryd.prog cFbeltwaymake_Queue (Tryd.f28.body.getD .skip) (HT (iFbeltwaymake_Queue.rs ++ iFbeltwaymake_Queue.os)) 1000000 (finK Tryd.prog [.tmp 4] [] iFbeltwaymake_Queue.os (iFbeltwaymake_Queue.rs ++ iFbeltwaymake_Queue.os)) (initF iFbeltwaymake_Queue.ps x 34) (initL iFbeltwaymake_Queue.ps x 5) := by kernel_rfl
theorem okFbeltwaymake_Queue : CallsV Tryd.prog tabs 28 iFbeltwaymake_Queue :=
  callsV_of_rk (cx := cFbeltwaymake_Queue) (fn := Tryd.f28) (c := Tryd.f28.body.getD .skip) (n := 34) (N := 5) (rvs := [.tmp 4]) (cxOk TabOk.nil XtOk.nil) Tryd.func28 rfl (by kernel_rfl) rfl rfl (by decide) (by decide) (fun x => congrFun eFbeltwaymake_Queue x)
noncomputable def Fbeltwaylaw16_belts (a0 : ((List Int) × Int)) : Option ((ByteArray × (List (Nat × Int × Int × Int)) × Int) × (Int × (List (BitVec 64)) × (List (Int × Int × Int))) × (List (List (Int × Int × Int × Int × Int))) × ((List Int) × Int)) :=
Option.bind (Fbeltwaymake_Config a0) (fun r1 =>
if (r1.1.2.1.length : Int) < 3 then
Option.bind (Fbeltwaymake_Deck_Next r1.2 2) (fun r2 =>
if r2.1 = 0 then
if 0 ≤ (2 : Int) ∧ (2 : Int) < (([(4598175219545276416, 0, 0, 1), (4602678819172646912, 0, 1, 2), (0, 0, 0, 2)] : List (Nat × Int × Int × Int)).length : Int) then
Option.bind (Fbeltwaymake_Space r2.2) (fun r3 =>
Option.bind (Fbeltwaymake_Queue r3.2.1 ((([(4598175219545276416, 0, 0, 1), (4602678819172646912, 0, 1, 2), (0, 0, 0, 2)] : List (Nat × Int × Int × Int)).set ((2 : Int).toNat) (4598175219545276416, ((gl ((0, 0, 0, 0) : (Nat × Int × Int × Int)) ([(4598175219545276416, 0, 0, 1), (4602678819172646912, 0, 1, 2), (0, 0, 0, 2)] : List (Nat × Int × Int × Int)) ((2 : Int).toNat)).2).1, (((gl ((0, 0, 0, 0) : (Nat × Int × Int × Int)) ([(4598175219545276416, 0, 0, 1), (4602678819172646912, 0, 1, 2), (0, 0, 0, 2)] : List (Nat × Int × Int × Int)) ((2 : Int).toNat)).2).2))).length : Int)) (fun r4 =>
some (((⟨#[116]⟩, ([(4598175219545276416, 0, 0, 1), (4602678819172646912, 0, 1, 2), (0, 0, 0, 2)] : List (Nat × Int × Int × Int)).set ((2 : Int).toNat) (4598175219545276416, ((gl ((0, 0, 0, 0) : (Nat × Int × Int × Int)) ([(4598175219545276416, 0, 0, 1), (4602678819172646912, 0, 1, 2), (0, 0, 0, 2)] : List (Nat × Int × Int × Int)) ((2 : Int).toNat)).2).1, (((gl ((0, 0, 0, 0) : (Nat × Int × Int × Int)) ([(4598175219545276416, 0, 0, 1), (4602678819172646912, 0, 1, 2), (0, 0, 0, 2)] : List (Nat × Int × Int × Int)) ((2 : Int).toNat)).2).2)), 0), r3.1, r4, r3.2.2))))
else none
else Option.bind (Fbeltwaymake_Space r2.2) (fun r5 =>
Option.bind (Fbeltwaymake_Queue r5.2.1 (([(4598175219545276416, 0, 0, 1), (4602678819172646912, 0, 1, 2), (0, 0, 0, 2)] : List (Nat × Int × Int × Int)).length : Int)) (fun r6 =>
some (((⟨#[116]⟩, ([(4598175219545276416, 0, 0, 1), (4602678819172646912, 0, 1, 2), (0, 0, 0, 2)] : List (Nat × Int × Int × Int)), 2), r5.1, r6, r5.2.2)))))
else Option.bind (Fbeltwaymake_Space r1.2) (fun r7 =>
Option.bind (Fbeltwaymake_Queue r7.2.1 (r1.1.2.1.length : Int)) (fun r8 =>
some ((r1.1, r7.1, r8, r7.2.2)))))
@[reducible] noncomputable def iFbeltwaylaw16_belts : FnI := { ps := [⟨(.pair (.slice (.int .i64)) (.int .i64)), true, false, true⟩], rs := [⟨(.pair .str (.pair (.slice (.pair .flt (.pair (.int .i64) (.pair (.int .i64) (.int .i64))))) (.int .i64))), true, false, false⟩, ⟨(.pair (.int .i64) (.pair (.slice .u64) (.slice (.pair (.int .i64) (.pair (.int .i64) (.int .i64)))))), true, false, false⟩, ⟨(.slice (.slice (.pair (.int .i64) (.pair (.int .i64) (.pair (.int .i64) (.pair (.int .i64) (.int .i64))))))), false, false, false⟩], os := [⟨(.pair (.slice (.int .i64)) (.int .i64)), true, false, true⟩], bk := [0], F := fun x => Fbeltwaylaw16_belts x }
noncomputable def cFbeltwaylaw16_belts : Cx := { nm := [(2, (2, 1)), (3, (3, 1)), (5, (6, 1)), (6, (13, 1)), (9, (4, 2)), (17, (7, 1)), (20, (8, 1)), (29, (9, 4)), (38, (14, 1))], keep := [17], fns := tabF [(25, iFbeltwaymake_Config), (26, iFbeltwaymake_Deck_Next), (27, iFbeltwaymake_Space), (28, iFbeltwaymake_Queue)], loops := [], joins := [], tb := tabs, exts := [], lets := [], frzs := [4] }
theorem eFbeltwaylaw16_belts : (fun x : HT iFbeltwaylaw16_belts.ps => iFbeltwaylaw16_belts.F x) = fun x => rk Tryd.prog cFbeltwaylaw16_belts (Tryd.f7.body.getD .skip) (HT (iFbeltwaylaw16_belts.rs ++ iFbeltwaylaw16_belts.os)) 1000000 (finK Tryd.prog [.cell 2 27, .cell 3 31, .tmp 4] [0] iFbeltwaylaw16_belts.os (iFbeltwaylaw16_belts.rs ++ iFbeltwaylaw16_belts.os)) (initF iFbeltwaylaw16_belts.ps x 39) (initL iFbeltwaylaw16_belts.ps x 13) := by kernel_rfl
theorem okFbeltwaylaw16_belts : CallsV Tryd.prog tabs 7 iFbeltwaylaw16_belts :=
  callsV_of_rk (cx := cFbeltwaylaw16_belts) (fn := Tryd.f7) (c := Tryd.f7.body.getD .skip) (n := 39) (N := 13) (rvs := [.cell 2 27, .cell 3 31, .tmp 4]) (cxOk (.cons okFbeltwaymake_Config (.cons okFbeltwaymake_Deck_Next (.cons okFbeltwaymake_Space (.cons okFbeltwaymake_Queue TabOk.nil)))) XtOk.nil) Tryd.func7 rfl (by kernel_rfl) rfl rfl (by decide) (by decide) (fun x => congrFun eFbeltwaylaw16_belts x)
noncomputable def Fshare_Valid (a0 : Nat) : Option Bool :=
if a0 < 18446744073709551616 then
if (BitVec.ofNat 64 a0) = (0#64) then
some (true)
else if fOrd a0 0 = some .gt then
some (decide (fOrd a0 4607182418800017408 = some .lt ∨ fOrd a0 4607182418800017408 = some .eq))
else some (false)
else none
@[reducible] noncomputable def iFshare_Valid : FnI := { ps := [⟨.flt, false, false, false⟩], rs := [⟨.bool, false, true, false⟩], os := [], bk := [], F := fun x => Fshare_Valid x }
noncomputable def cFshare_Valid : Cx := { nm := [], keep := [], fns := tabF [], loops := [], joins := [], tb := tabs, exts := [(70, .f64bits)], lets := [] }
theorem eFshare_Valid : (fun x : HT iFshare_Valid.ps => iFshare_Valid.F x) = fun x => rk Tryd.prog cFshare_Valid (Tryd.f72.body.getD .skip) (HT (iFshare_Valid.rs ++ iFshare_Valid.os)) 1000000 (finK Tryd.prog [.tmp 2] [] iFshare_Valid.os (iFshare_Valid.rs ++ iFshare_Valid.os)) (initF iFshare_Valid.ps x 14) (initL iFshare_Valid.ps x 0) := by kernel_rfl
theorem xt70 : XtOk Tryd.prog 70 .f64bits := ⟨Tryd.f70, Tryd.func70, by kernel_rfl, by kernel_rfl, by kernel_rfl, by kernel_rfl⟩
theorem okFshare_Valid : CallsV Tryd.prog tabs 72 iFshare_Valid :=
  callsV_of_rk (cx := cFshare_Valid) (fn := Tryd.f72) (c := Tryd.f72.body.getD .skip) (n := 14) (N := 0) (rvs := [.tmp 2]) (cxOk TabOk.nil (.cons xt70 XtOk.nil)) Tryd.func72 rfl (by kernel_rfl) rfl rfl (by decide) (by decide) (fun x => congrFun eFshare_Valid x)
noncomputable def Fconfig_count (a0 : Int) : Option Bool :=
if a0 ≥ 0 then
some (decide (a0 ≤ 64))
else some (false)
@[reducible] noncomputable def iFconfig_count : FnI := { ps := [⟨(.int .i64), false, false, false⟩], rs := [⟨.bool, false, true, false⟩], os := [], bk := [], F := fun x => Fconfig_count x }
noncomputable def cFconfig_count : Cx := { nm := [], keep := [], fns := tabF [], loops := [], joins := [], tb := tabs, exts := [], lets := [] }
theorem eFconfig_count : (fun x : HT iFconfig_count.ps => iFconfig_count.F x) = fun x => rk Tryd.prog cFconfig_count (Tryd.f73.body.getD .skip) (HT (iFconfig_count.rs ++ iFconfig_count.os)) 1000000 (finK Tryd.prog [.tmp 2] [] iFconfig_count.os (iFconfig_count.rs ++ iFconfig_count.os)) (initF iFconfig_count.ps x 9) (initL iFconfig_count.ps x 0) := by kernel_rfl
theorem okFconfig_count : CallsV Tryd.prog tabs 73 iFconfig_count :=
  callsV_of_rk (cx := cFconfig_count) (fn := Tryd.f73) (c := Tryd.f73.body.getD .skip) (n := 9) (N := 0) (rvs := [.tmp 2]) (cxOk TabOk.nil XtOk.nil) Tryd.func73 rfl (by kernel_rfl) rfl rfl (by decide) (by decide) (fun x => congrFun eFconfig_count x)
noncomputable def Fconfig_rule (a0 : (ByteArray × (List (Nat × Int × Int × Int)) × Int)) (a1 : Int) : Option Int :=
if 0 ≤ a1 ∧ a1 < (a0.2.1.length : Int) then
Option.bind (Fshare_Valid ((gl ((0, 0, 0, 0) : (Nat × Int × Int × Int)) a0.2.1 a1.toNat).1)) (fun r1 =>
if (!r1) = true then
some (6)
else Option.bind (Fconfig_count (((gl ((0, 0, 0, 0) : (Nat × Int × Int × Int)) a0.2.1 a1.toNat).2).1)) (fun r2 =>
if (!r2) = true then
some (9)
else Option.bind (Fconfig_count ((((gl ((0, 0, 0, 0) : (Nat × Int × Int × Int)) a0.2.1 a1.toNat).2).2).1)) (fun r3 =>
if (!r3) = true then
some (9)
else if a1 = (w64 ((a0.2.1.length : Int) - 1)) then
if ¬ (((gl ((0, 0, 0, 0) : (Nat × Int × Int × Int)) a0.2.1 a1.toNat).2).1) = 0 then
some (9)
else if a1 = (w64 ((a0.2.1.length : Int) - 1)) then
if ¬ ((((gl ((0, 0, 0, 0) : (Nat × Int × Int × Int)) a0.2.1 a1.toNat).2).2).2) = a1 then
some (10)
else if a1 < (w64 ((a0.2.1.length : Int) - 1)) then
if ((((gl ((0, 0, 0, 0) : (Nat × Int × Int × Int)) a0.2.1 a1.toNat).2).2).2) ≤ a1 then
some (10)
else if ((((gl ((0, 0, 0, 0) : (Nat × Int × Int × Int)) a0.2.1 a1.toNat).2).2).2) > (w64 ((a0.2.1.length : Int) - 1)) then
some (10)
else some (0)
else some (0)
else if a1 < (w64 ((a0.2.1.length : Int) - 1)) then
if ((((gl ((0, 0, 0, 0) : (Nat × Int × Int × Int)) a0.2.1 a1.toNat).2).2).2) ≤ a1 then
some (10)
else if ((((gl ((0, 0, 0, 0) : (Nat × Int × Int × Int)) a0.2.1 a1.toNat).2).2).2) > (w64 ((a0.2.1.length : Int) - 1)) then
some (10)
else some (0)
else some (0)
else if a1 = (w64 ((a0.2.1.length : Int) - 1)) then
if ¬ ((((gl ((0, 0, 0, 0) : (Nat × Int × Int × Int)) a0.2.1 a1.toNat).2).2).2) = a1 then
some (10)
else if a1 < (w64 ((a0.2.1.length : Int) - 1)) then
if ((((gl ((0, 0, 0, 0) : (Nat × Int × Int × Int)) a0.2.1 a1.toNat).2).2).2) ≤ a1 then
some (10)
else if ((((gl ((0, 0, 0, 0) : (Nat × Int × Int × Int)) a0.2.1 a1.toNat).2).2).2) > (w64 ((a0.2.1.length : Int) - 1)) then
some (10)
else some (0)
else some (0)
else if a1 < (w64 ((a0.2.1.length : Int) - 1)) then
if ((((gl ((0, 0, 0, 0) : (Nat × Int × Int × Int)) a0.2.1 a1.toNat).2).2).2) ≤ a1 then
some (10)
else if ((((gl ((0, 0, 0, 0) : (Nat × Int × Int × Int)) a0.2.1 a1.toNat).2).2).2) > (w64 ((a0.2.1.length : Int) - 1)) then
some (10)
else some (0)
else some (0))))
else none
@[reducible] noncomputable def iFconfig_rule : FnI := { ps := [⟨(.pair .str (.pair (.slice (.pair .flt (.pair (.int .i64) (.pair (.int .i64) (.int .i64))))) (.int .i64))), true, false, false⟩, ⟨(.int .i64), false, false, false⟩], rs := [⟨(.int .i64), false, true, false⟩], os := [], bk := [], F := fun x => Fconfig_rule x.1 x.2 }
noncomputable def cFconfig_rule : Cx := { nm := [(2, (1, 1)), (5, (2, 1))], keep := [], fns := tabF [(72, iFshare_Valid), (73, iFconfig_count)], loops := [], joins := [], tb := tabs, exts := [], lets := [] }
theorem eFconfig_rule : (fun x : HT iFconfig_rule.ps => iFconfig_rule.F x) = fun x => rk Tryd.prog cFconfig_rule (Tryd.f66.body.getD .skip) (HT (iFconfig_rule.rs ++ iFconfig_rule.os)) 1000000 (finK Tryd.prog [.tmp 4] [] iFconfig_rule.os (iFconfig_rule.rs ++ iFconfig_rule.os)) (initF iFconfig_rule.ps x 69) (initL iFconfig_rule.ps x 2) := by kernel_rfl
theorem okFconfig_rule : CallsV Tryd.prog tabs 66 iFconfig_rule :=
  callsV_of_rk (cx := cFconfig_rule) (fn := Tryd.f66) (c := Tryd.f66.body.getD .skip) (n := 69) (N := 2) (rvs := [.tmp 4]) (cxOk (.cons okFshare_Valid (.cons okFconfig_count TabOk.nil)) XtOk.nil) Tryd.func66 rfl (by kernel_rfl) rfl rfl (by decide) (by decide) (fun x => congrFun eFconfig_rule x)
noncomputable def Fconfig_targeted (a0 : (ByteArray × (List (Nat × Int × Int × Int)) × Int)) (a1 : Int) : Option Bool :=
loopO (σ := Int) (β := Bool) (fun s1 =>
if s1 < (a0.2.1.length : Int) then
if 0 ≤ s1 ∧ s1 < (a0.2.1.length : Int) then
if ¬ s1 = a1 then
if ((((gl ((0, 0, 0, 0) : (Nat × Int × Int × Int)) a0.2.1 s1.toNat).2).2).2) = a1 then
some (Sum.inr (true))
else some (Sum.inl (w64 (s1 + 1)))
else some (Sum.inl (w64 (s1 + 1)))
else none
else some (Sum.inr (false))) (0)
@[reducible] noncomputable def iFconfig_targeted : FnI := { ps := [⟨(.pair .str (.pair (.slice (.pair .flt (.pair (.int .i64) (.pair (.int .i64) (.int .i64))))) (.int .i64))), true, false, false⟩, ⟨(.int .i64), false, false, false⟩], rs := [⟨.bool, false, true, false⟩], os := [], bk := [], F := fun x => Fconfig_targeted x.1 x.2 }
noncomputable def cFconfig_targeted : Cx := { nm := [(2, (1, 1)), (6, (2, 1))], keep := [], fns := tabF [], loops := [(0, { live := [(10, ⟨(.int .i64), false, false, false⟩)], boxes := [], rows := [], dead := [4, 5, 6, 11, 12, 13, 14, 15, 16, 17, 18, 19, 20, 21, 22, 23, 24], lost := [], base := 2 })], joins := [], tb := tabs, exts := [], lets := [] }
theorem eFconfig_targeted : (fun x : HT iFconfig_targeted.ps => iFconfig_targeted.F x) = fun x => rk Tryd.prog cFconfig_targeted (Tryd.f67.body.getD .skip) (HT (iFconfig_targeted.rs ++ iFconfig_targeted.os)) 1000000 (finK Tryd.prog [.tmp 4] [] iFconfig_targeted.os (iFconfig_targeted.rs ++ iFconfig_targeted.os)) (initF iFconfig_targeted.ps x 25) (initL iFconfig_targeted.ps x 2) := by kernel_rfl
theorem okFconfig_targeted : CallsV Tryd.prog tabs 67 iFconfig_targeted :=
  callsV_of_rk (cx := cFconfig_targeted) (fn := Tryd.f67) (c := Tryd.f67.body.getD .skip) (n := 25) (N := 2) (rvs := [.tmp 4]) (cxOk TabOk.nil XtOk.nil) Tryd.func67 rfl (by kernel_rfl) rfl rfl (by decide) (by decide) (fun x => congrFun eFconfig_targeted x)
noncomputable def Fconfig_Check (a0 : (ByteArray × (List (Nat × Int × Int × Int)) × Int)) : Option Int :=
Option.bind (Fconfig_named a0.1) (fun r1 =>
if (!r1) = true then
some (7)
else if (a0.2.1.length : Int) < 1 then
some (8)
else if (a0.2.1.length : Int) > 4 then
some (8)
else loopO (σ := Int) (β := Int) (fun s1 =>
if s1 < (a0.2.1.length : Int) then
Option.bind (Fconfig_rule a0 s1) (fun r2 =>
if ¬ r2 = 0 then
some (Sum.inr (r2))
else some (Sum.inl (w64 (s1 + 1))))
else Option.map Sum.inr (loopO (σ := Int) (β := Int) (fun s2 =>
if s2 < (a0.2.1.length : Int) then
Option.bind (Fconfig_targeted a0 s2) (fun r3 =>
if (!r3) = true then
some (Sum.inr (10))
else some (Sum.inl (w64 (s2 + 1))))
else Option.map Sum.inr (if 0 ≤ (w64 ((a0.2.1.length : Int) - 1)) ∧ (w64 ((a0.2.1.length : Int) - 1)) < (a0.2.1.length : Int) then
if fOrd ((gl ((0, 0, 0, 0) : (Nat × Int × Int × Int)) a0.2.1 ((w64 ((a0.2.1.length : Int) - 1)).toNat)).1) 0 = some .eq then
if a0.2.2 < 1 then
some (9)
else if a0.2.2 > 64 then
if a0.2.2 > 64 then
some (9)
else some (0)
else if ¬ (fOrd ((gl ((0, 0, 0, 0) : (Nat × Int × Int × Int)) a0.2.1 ((w64 ((a0.2.1.length : Int) - 1)).toNat)).1) 0 = some .eq) then
if ¬ a0.2.2 = 0 then
some (9)
else some (0)
else some (0)
else if ¬ (fOrd ((gl ((0, 0, 0, 0) : (Nat × Int × Int × Int)) a0.2.1 ((w64 ((a0.2.1.length : Int) - 1)).toNat)).1) 0 = some .eq) then
if ¬ a0.2.2 = 0 then
some (9)
else some (0)
else some (0)
else none)) (1))) (0))
@[reducible] noncomputable def iFconfig_Check : FnI := { ps := [⟨(.pair .str (.pair (.slice (.pair .flt (.pair (.int .i64) (.pair (.int .i64) (.int .i64))))) (.int .i64))), true, false, false⟩], rs := [⟨(.int .i64), false, true, false⟩], os := [], bk := [], F := fun x => Fconfig_Check x }
noncomputable def cFconfig_Check : Cx := { nm := [(1, (1, 1))], keep := [], fns := tabF [(65, iFconfig_named), (66, iFconfig_rule), (67, iFconfig_targeted)], loops := [(1, { live := [(26, ⟨(.int .i64), false, false, false⟩)], boxes := [], rows := [], dead := [2, 3, 4, 27, 28, 29, 30, 31, 32, 33, 34, 35], lost := [], base := 2 }), (3, { live := [(5, ⟨(.int .i64), false, false, false⟩)], boxes := [], rows := [], dead := [2, 36, 37, 38, 39, 40, 41, 42, 43, 44, 45, 46], lost := [], base := 2 })], joins := [], tb := tabs, exts := [], lets := [] }
theorem eFconfig_Check : (fun x : HT iFconfig_Check.ps => iFconfig_Check.F x) = fun x => rk Tryd.prog cFconfig_Check (Tryd.f50.body.getD .skip) (HT (iFconfig_Check.rs ++ iFconfig_Check.os)) 1000000 (finK Tryd.prog [.tmp 2] [] iFconfig_Check.os (iFconfig_Check.rs ++ iFconfig_Check.os)) (initF iFconfig_Check.ps x 76) (initL iFconfig_Check.ps x 1) := by kernel_rfl
theorem okFconfig_Check : CallsV Tryd.prog tabs 50 iFconfig_Check :=
  callsV_of_rk (cx := cFconfig_Check) (fn := Tryd.f50) (c := Tryd.f50.body.getD .skip) (n := 76) (N := 1) (rvs := [.tmp 2]) (cxOk (.cons okFconfig_named (.cons okFconfig_rule (.cons okFconfig_targeted TabOk.nil))) XtOk.nil) Tryd.func50 rfl (by kernel_rfl) rfl rfl (by decide) (by decide) (fun x => congrFun eFconfig_Check x)
noncomputable def Fconfig_Complete (a0 : (ByteArray × (List (Nat × Int × Int × Int)) × Int)) : Option Bool :=
Option.bind (Fconfig_Check a0) (fun r1 =>
if r1 = 0 then
if 0 ≤ (w64 ((a0.2.1.length : Int) - 1)) ∧ (w64 ((a0.2.1.length : Int) - 1)) < (a0.2.1.length : Int) then
some (decide (fOrd ((gl ((0, 0, 0, 0) : (Nat × Int × Int × Int)) a0.2.1 ((w64 ((a0.2.1.length : Int) - 1)).toNat)).1) 0 = some .eq))
else none
else some (false))
@[reducible] noncomputable def iFconfig_Complete : FnI := { ps := [⟨(.pair .str (.pair (.slice (.pair .flt (.pair (.int .i64) (.pair (.int .i64) (.int .i64))))) (.int .i64))), true, false, false⟩], rs := [⟨.bool, false, true, false⟩], os := [], bk := [], F := fun x => Fconfig_Complete x }
noncomputable def cFconfig_Complete : Cx := { nm := [(1, (1, 1))], keep := [], fns := tabF [(50, iFconfig_Check)], loops := [], joins := [], tb := tabs, exts := [], lets := [] }
theorem eFconfig_Complete : (fun x : HT iFconfig_Complete.ps => iFconfig_Complete.F x) = fun x => rk Tryd.prog cFconfig_Complete (Tryd.f29.body.getD .skip) (HT (iFconfig_Complete.rs ++ iFconfig_Complete.os)) 1000000 (finK Tryd.prog [.tmp 2] [] iFconfig_Complete.os (iFconfig_Complete.rs ++ iFconfig_Complete.os)) (initF iFconfig_Complete.ps x 18) (initL iFconfig_Complete.ps x 1) := by kernel_rfl
theorem okFconfig_Complete : CallsV Tryd.prog tabs 29 iFconfig_Complete :=
  callsV_of_rk (cx := cFconfig_Complete) (fn := Tryd.f29) (c := Tryd.f29.body.getD .skip) (n := 18) (N := 1) (rvs := [.tmp 2]) (cxOk (.cons okFconfig_Check TabOk.nil) XtOk.nil) Tryd.func29 rfl (by kernel_rfl) rfl rfl (by decide) (by decide) (fun x => congrFun eFconfig_Complete x)
noncomputable def Fpool_free (a0 : (Int × (List (BitVec 64)) × (List (Int × Int × Int)))) : Option (BitVec 64) :=
loopO (σ := ((BitVec 64) × Int)) (β := (BitVec 64)) (fun s1 =>
if s1.2 < (a0.2.2.length : Int) then
if 0 ≤ s1.2 ∧ s1.2 < (a0.2.2.length : Int) then
if ((gl ((0, 0, 0) : (Int × Int × Int)) a0.2.2 s1.2.toNat).1) = (-1) then
if s1.2 < 64 then
if True then
some (Sum.inl ((s1.1 ||| ((1#64) <<< (BitVec.ofInt 64 s1.2).toNat), w64 (s1.2 + 1))))
else none
else some (Sum.inl ((s1.1, w64 (s1.2 + 1))))
else some (Sum.inl ((s1.1, w64 (s1.2 + 1))))
else none
else some (Sum.inr (s1.1))) ((0#64, 0))
@[reducible] noncomputable def iFpool_free : FnI := { ps := [⟨(.pair (.int .i64) (.pair (.slice .u64) (.slice (.pair (.int .i64) (.pair (.int .i64) (.int .i64)))))), true, false, false⟩], rs := [⟨.u64, false, true, false⟩], os := [], bk := [], F := fun x => Fpool_free x }
noncomputable def cFpool_free : Cx := { nm := [(1, (2, 1)), (5, (3, 1))], keep := [], fns := tabF [], loops := [(0, { live := [(3, ⟨.u64, false, false, false⟩), (9, ⟨(.int .i64), false, false, false⟩)], boxes := [], rows := [], dead := [4, 5, 10, 11, 12, 13, 14, 15, 16, 17, 18, 19, 20, 21, 22, 23, 24, 25, 26], lost := [], base := 3 })], joins := [], tb := tabs, exts := [], lets := [] }
theorem eFpool_free : (fun x : HT iFpool_free.ps => iFpool_free.F x) = fun x => rk Tryd.prog cFpool_free (Tryd.f52.body.getD .skip) (HT (iFpool_free.rs ++ iFpool_free.os)) 1000000 (finK Tryd.prog [.tmp 2] [] iFpool_free.os (iFpool_free.rs ++ iFpool_free.os)) (initF iFpool_free.ps x 28) (initL iFpool_free.ps x 2) := by kernel_rfl
theorem okFpool_free : CallsV Tryd.prog tabs 52 iFpool_free :=
  callsV_of_rk (cx := cFpool_free) (fn := Tryd.f52) (c := Tryd.f52.body.getD .skip) (n := 28) (N := 2) (rvs := [.tmp 2]) (cxOk TabOk.nil XtOk.nil) Tryd.func52 rfl (by kernel_rfl) rfl rfl (by decide) (by decide) (fun x => congrFun eFpool_free x)
noncomputable def Fpool_Used (a0 : (Int × (List (BitVec 64)) × (List (Int × Int × Int)))) : Option Int :=
Option.bind (Fpool_free a0) (fun r1 =>
Option.bind (Fmath_bits_OnesCount64 r1) (fun r2 =>
some (w64 ((a0.2.2.length : Int) - r2))))
@[reducible] noncomputable def iFpool_Used : FnI := { ps := [⟨(.pair (.int .i64) (.pair (.slice .u64) (.slice (.pair (.int .i64) (.pair (.int .i64) (.int .i64)))))), true, false, false⟩], rs := [⟨(.int .i64), false, true, false⟩], os := [], bk := [], F := fun x => Fpool_Used x }
noncomputable def cFpool_Used : Cx := { nm := [(1, (2, 1))], keep := [], fns := tabF [(51, iFmath_bits_OnesCount64), (52, iFpool_free)], loops := [], joins := [], tb := tabs, exts := [], lets := [] }
theorem eFpool_Used : (fun x : HT iFpool_Used.ps => iFpool_Used.F x) = fun x => rk Tryd.prog cFpool_Used (Tryd.f30.body.getD .skip) (HT (iFpool_Used.rs ++ iFpool_Used.os)) 1000000 (finK Tryd.prog [.tmp 2] [] iFpool_Used.os (iFpool_Used.rs ++ iFpool_Used.os)) (initF iFpool_Used.ps x 10) (initL iFpool_Used.ps x 1) := by kernel_rfl
theorem okFpool_Used : CallsV Tryd.prog tabs 30 iFpool_Used :=
  callsV_of_rk (cx := cFpool_Used) (fn := Tryd.f30) (c := Tryd.f30.body.getD .skip) (n := 10) (N := 1) (rvs := [.tmp 2]) (cxOk (.cons okFmath_bits_OnesCount64 (.cons okFpool_free TabOk.nil)) XtOk.nil) Tryd.func30 rfl (by kernel_rfl) rfl rfl (by decide) (by decide) (fun x => congrFun eFpool_Used x)
noncomputable def Fbits_Ceil (a0 : Int) (a1 : Int) : Option Int :=
if a0 < 0 then
some (0)
else if a0 > 1099511627776 then
some (0)
else if a1 < 0 then
some (0)
else if a1 > 20 then
some (0)
else if True then
if True then
some ((w64 ((w64 (a0 + (w64 ((1 : Int) * 2 ^ min (BitVec.ofInt 64 a1).toNat 64)))) - 1)) / 2 ^ min (BitVec.ofInt 64 a1).toNat 64)
else none
else none
@[reducible] noncomputable def iFbits_Ceil : FnI := { ps := [⟨(.int .i64), false, false, false⟩, ⟨(.int .i64), false, false, false⟩], rs := [⟨(.int .i64), false, true, false⟩], os := [], bk := [], F := fun x => Fbits_Ceil x.1 x.2 }
noncomputable def cFbits_Ceil : Cx := { nm := [], keep := [], fns := tabF [], loops := [], joins := [], tb := tabs, exts := [], lets := [] }
theorem eFbits_Ceil : (fun x : HT iFbits_Ceil.ps => iFbits_Ceil.F x) = fun x => rk Tryd.prog cFbits_Ceil (Tryd.f54.body.getD .skip) (HT (iFbits_Ceil.rs ++ iFbits_Ceil.os)) 1000000 (finK Tryd.prog [.tmp 4] [] iFbits_Ceil.os (iFbits_Ceil.rs ++ iFbits_Ceil.os)) (initF iFbits_Ceil.ps x 28) (initL iFbits_Ceil.ps x 0) := by kernel_rfl
theorem okFbits_Ceil : CallsV Tryd.prog tabs 54 iFbits_Ceil :=
  callsV_of_rk (cx := cFbits_Ceil) (fn := Tryd.f54) (c := Tryd.f54.body.getD .skip) (n := 28) (N := 0) (rvs := [.tmp 4]) (cxOk TabOk.nil XtOk.nil) Tryd.func54 rfl (by kernel_rfl) rfl rfl (by decide) (by decide) (fun x => congrFun eFbits_Ceil x)
noncomputable def Fbump_Frames (a0 : (Int × (List (BitVec 64)) × (List (Int × Int × Int)))) (a1 : (Int × Int × Int × Int × Int)) : Option Int :=
Option.bind (Fbits_Ceil a1.2.2.2.2 a0.1) (fun r1 =>
some (r1))
@[reducible] noncomputable def iFbump_Frames : FnI := { ps := [⟨(.pair (.int .i64) (.pair (.slice .u64) (.slice (.pair (.int .i64) (.pair (.int .i64) (.int .i64)))))), true, false, false⟩, ⟨(.pair (.int .i64) (.pair (.int .i64) (.pair (.int .i64) (.pair (.int .i64) (.int .i64))))), true, false, false⟩], rs := [⟨(.int .i64), false, true, false⟩], os := [], bk := [], F := fun x => Fbump_Frames x.1 x.2 }
noncomputable def cFbump_Frames : Cx := { nm := [(2, (2, 1)), (3, (3, 1))], keep := [], fns := tabF [(54, iFbits_Ceil)], loops := [], joins := [], tb := tabs, exts := [], lets := [] }
theorem eFbump_Frames : (fun x : HT iFbump_Frames.ps => iFbump_Frames.F x) = fun x => rk Tryd.prog cFbump_Frames (Tryd.f35.body.getD .skip) (HT (iFbump_Frames.rs ++ iFbump_Frames.os)) 1000000 (finK Tryd.prog [.tmp 4] [] iFbump_Frames.os (iFbump_Frames.rs ++ iFbump_Frames.os)) (initF iFbump_Frames.ps x 10) (initL iFbump_Frames.ps x 2) := by kernel_rfl
theorem okFbump_Frames : CallsV Tryd.prog tabs 35 iFbump_Frames :=
  callsV_of_rk (cx := cFbump_Frames) (fn := Tryd.f35) (c := Tryd.f35.body.getD .skip) (n := 10) (N := 2) (rvs := [.tmp 4]) (cxOk (.cons okFbits_Ceil TabOk.nil) XtOk.nil) Tryd.func35 rfl (by kernel_rfl) rfl rfl (by decide) (by decide) (fun x => congrFun eFbump_Frames x)
noncomputable def Fbelt_Largest (a0 : (Int × (List (BitVec 64)) × (List (Int × Int × Int)))) (a1 : (List (List (Int × Int × Int × Int × Int)))) : Option Int :=
loopO (σ := (Int × Int)) (β := Int) (fun s1 =>
if s1.2 < (a1.length : Int) then
if 0 ≤ s1.2 ∧ s1.2 < (a1.length : Int) then
loopO (σ := (Int × Int)) (β := ((Int × Int) ⊕ Int)) (fun s2 =>
if s2.2 < ((gl ([] : (List (Int × Int × Int × Int × Int))) a1 s1.2.toNat).length : Int) then
if 0 ≤ s2.2 ∧ s2.2 < ((gl ([] : (List (Int × Int × Int × Int × Int))) a1 s1.2.toNat).length : Int) then
Option.bind (Fbump_Frames a0 ((gl ((0, 0, 0, 0, 0) : (Int × Int × Int × Int × Int)) (gl ([] : (List (Int × Int × Int × Int × Int))) a1 s1.2.toNat) s2.2.toNat).1, ((gl ((0, 0, 0, 0, 0) : (Int × Int × Int × Int × Int)) (gl ([] : (List (Int × Int × Int × Int × Int))) a1 s1.2.toNat) s2.2.toNat).2).1, (((gl ((0, 0, 0, 0, 0) : (Int × Int × Int × Int × Int)) (gl ([] : (List (Int × Int × Int × Int × Int))) a1 s1.2.toNat) s2.2.toNat).2).2).1, ((((gl ((0, 0, 0, 0, 0) : (Int × Int × Int × Int × Int)) (gl ([] : (List (Int × Int × Int × Int × Int))) a1 s1.2.toNat) s2.2.toNat).2).2).2))) (fun r1 =>
some (Sum.inl ((if r1 > s2.1 then r1 else s2.1, w64 (s2.2 + 1)))))
else none
else some (Sum.inr (Sum.inl ((s2.1, w64 (s1.2 + 1)))))) ((s1.1, 0))
else none
else some (Sum.inr (s1.1))) ((0, 0))
@[reducible] noncomputable def iFbelt_Largest : FnI := { ps := [⟨(.pair (.int .i64) (.pair (.slice .u64) (.slice (.pair (.int .i64) (.pair (.int .i64) (.int .i64)))))), true, false, false⟩, ⟨(.slice (.slice (.pair (.int .i64) (.pair (.int .i64) (.pair (.int .i64) (.pair (.int .i64) (.int .i64))))))), false, false, false⟩], rs := [⟨(.int .i64), false, true, false⟩], os := [], bk := [], F := fun x => Fbelt_Largest x.1 x.2 }
noncomputable def cFbelt_Largest : Cx := { nm := [(2, (3, 1)), (9, (5, 1)), (15, (4, 1))], keep := [], fns := tabF [(35, iFbump_Frames)], loops := [(0, { live := [(5, ⟨(.int .i64), false, false, false⟩), (12, ⟨(.int .i64), false, false, false⟩)], boxes := [], rows := [], dead := [7, 9, 13, 14, 15, 16, 17, 18, 19, 20, 21, 22, 23, 24, 25, 26, 27, 28], lost := [], base := 4 }), (2, { live := [(5, ⟨(.int .i64), false, false, false⟩), (18, ⟨(.int .i64), false, false, false⟩)], boxes := [], rows := [], dead := [9, 19, 20, 21, 22, 23, 24, 25, 26, 27], lost := [], base := 5 })], joins := [], tb := tabs, exts := [], lets := [] }
theorem eFbelt_Largest : (fun x : HT iFbelt_Largest.ps => iFbelt_Largest.F x) = fun x => rk Tryd.prog cFbelt_Largest (Tryd.f31.body.getD .skip) (HT (iFbelt_Largest.rs ++ iFbelt_Largest.os)) 1000000 (finK Tryd.prog [.tmp 4] [] iFbelt_Largest.os (iFbelt_Largest.rs ++ iFbelt_Largest.os)) (initF iFbelt_Largest.ps x 30) (initL iFbelt_Largest.ps x 3) := by kernel_rfl
theorem okFbelt_Largest : CallsV Tryd.prog tabs 31 iFbelt_Largest :=
  callsV_of_rk (cx := cFbelt_Largest) (fn := Tryd.f31) (c := Tryd.f31.body.getD .skip) (n := 30) (N := 3) (rvs := [.tmp 4]) (cxOk (.cons okFbump_Frames TabOk.nil) XtOk.nil) Tryd.func31 rfl (by kernel_rfl) rfl rfl (by decide) (by decide) (fun x => congrFun eFbelt_Largest x)
noncomputable def Freserve_Needed (a0 : (ByteArray × (List (Nat × Int × Int × Int)) × Int)) (a1 : (Int × (List (BitVec 64)) × (List (Int × Int × Int)))) (a2 : (List (List (Int × Int × Int × Int × Int)))) : Option Int :=
Option.bind (Fconfig_Complete a0) (fun r1 =>
if r1 = true then
Option.bind (Fpool_Used a1) (fun r2 =>
some (r2))
else Option.bind (Fbelt_Largest a1 a2) (fun r3 =>
some (r3)))
@[reducible] noncomputable def iFreserve_Needed : FnI := { ps := [⟨(.pair .str (.pair (.slice (.pair .flt (.pair (.int .i64) (.pair (.int .i64) (.int .i64))))) (.int .i64))), true, false, false⟩, ⟨(.pair (.int .i64) (.pair (.slice .u64) (.slice (.pair (.int .i64) (.pair (.int .i64) (.int .i64)))))), true, false, false⟩, ⟨(.slice (.slice (.pair (.int .i64) (.pair (.int .i64) (.pair (.int .i64) (.pair (.int .i64) (.int .i64))))))), false, false, false⟩], rs := [⟨(.int .i64), false, true, false⟩], os := [], bk := [], F := fun x => Freserve_Needed x.1 x.2.1 x.2.2 }
noncomputable def cFreserve_Needed : Cx := { nm := [(3, (4, 1)), (4, (5, 1))], keep := [], fns := tabF [(29, iFconfig_Complete), (30, iFpool_Used), (31, iFbelt_Largest)], loops := [], joins := [], tb := tabs, exts := [], lets := [] }
theorem eFreserve_Needed : (fun x : HT iFreserve_Needed.ps => iFreserve_Needed.F x) = fun x => rk Tryd.prog cFreserve_Needed (Tryd.f8.body.getD .skip) (HT (iFreserve_Needed.rs ++ iFreserve_Needed.os)) 1000000 (finK Tryd.prog [.tmp 6] [] iFreserve_Needed.os (iFreserve_Needed.rs ++ iFreserve_Needed.os)) (initF iFreserve_Needed.ps x 14) (initL iFreserve_Needed.ps x 2) := by kernel_rfl
theorem okFreserve_Needed : CallsV Tryd.prog tabs 8 iFreserve_Needed :=
  callsV_of_rk (cx := cFreserve_Needed) (fn := Tryd.f8) (c := Tryd.f8.body.getD .skip) (n := 14) (N := 2) (rvs := [.tmp 6]) (cxOk (.cons okFconfig_Complete (.cons okFpool_Used (.cons okFbelt_Largest TabOk.nil))) XtOk.nil) Tryd.func8 rfl (by kernel_rfl) rfl rfl (by decide) (by decide) (fun x => congrFun eFreserve_Needed x)
noncomputable def Fbeltwayref12_Named (a0 : ByteArray) : Option Bool :=
loopO (σ := Int) (β := Bool) (fun s1 =>
if s1 < (a0.size : Int) then
if 0 ≤ s1 ∧ s1 < (a0.size : Int) then
if (sget a0 s1.toNat) ≥ 97 then
if ¬ ((sget a0 s1.toNat) ≤ 122) then
if s1 = 0 then
some (Sum.inr (false))
else if ¬ (sget a0 s1.toNat) = 45 then
if (sget a0 s1.toNat) < 48 then
some (Sum.inr (false))
else if (sget a0 s1.toNat) > 57 then
some (Sum.inr (false))
else some (Sum.inl (w64 (s1 + 1)))
else some (Sum.inl (w64 (s1 + 1)))
else some (Sum.inl (w64 (s1 + 1)))
else if s1 = 0 then
some (Sum.inr (false))
else if ¬ (sget a0 s1.toNat) = 45 then
if (sget a0 s1.toNat) < 48 then
some (Sum.inr (false))
else if (sget a0 s1.toNat) > 57 then
some (Sum.inr (false))
else some (Sum.inl (w64 (s1 + 1)))
else some (Sum.inl (w64 (s1 + 1)))
else none
else Option.map Sum.inr (if (a0.size : Int) ≥ 1 then
some (decide ((a0.size : Int) ≤ 16))
else some (false))) (0)
@[reducible] noncomputable def iFbeltwayref12_Named : FnI := { ps := [⟨.str, false, false, false⟩], rs := [⟨.bool, false, true, false⟩], os := [], bk := [], F := fun x => Fbeltwayref12_Named x }
noncomputable def cFbeltwayref12_Named : Cx := { nm := [], keep := [], fns := tabF [], loops := [(0, { live := [(3, ⟨(.int .i64), false, false, false⟩)], boxes := [], rows := [], dead := [2, 4, 5, 6, 7, 8, 9, 10, 11, 12, 13, 14, 15, 16, 17, 18, 19, 20, 21, 22, 23, 24, 25, 26, 27, 28, 29, 30, 31, 32, 33, 34, 35, 36, 37, 38], lost := [], base := 0 })], joins := [], tb := tabs, exts := [], lets := [] }
theorem eFbeltwayref12_Named : (fun x : HT iFbeltwayref12_Named.ps => iFbeltwayref12_Named.F x) = fun x => rk Tryd.prog cFbeltwayref12_Named (Tryd.f61.body.getD .skip) (HT (iFbeltwayref12_Named.rs ++ iFbeltwayref12_Named.os)) 1000000 (finK Tryd.prog [.tmp 2] [] iFbeltwayref12_Named.os (iFbeltwayref12_Named.rs ++ iFbeltwayref12_Named.os)) (initF iFbeltwayref12_Named.ps x 47) (initL iFbeltwayref12_Named.ps x 0) := by kernel_rfl
theorem okFbeltwayref12_Named : CallsV Tryd.prog tabs 61 iFbeltwayref12_Named :=
  callsV_of_rk (cx := cFbeltwayref12_Named) (fn := Tryd.f61) (c := Tryd.f61.body.getD .skip) (n := 47) (N := 0) (rvs := [.tmp 2]) (cxOk TabOk.nil XtOk.nil) Tryd.func61 rfl (by kernel_rfl) rfl rfl (by decide) (by decide) (fun x => congrFun eFbeltwayref12_Named x)
noncomputable def Fbeltwayref06_Valid (a0 : Nat) : Option Bool :=
if a0 < 18446744073709551616 then
if (BitVec.ofNat 64 a0) = (0#64) then
some (true)
else if fOrd a0 0 = some .gt then
some (decide (fOrd a0 4607182418800017408 = some .lt ∨ fOrd a0 4607182418800017408 = some .eq))
else some (false)
else none
@[reducible] noncomputable def iFbeltwayref06_Valid : FnI := { ps := [⟨.flt, false, false, false⟩], rs := [⟨.bool, false, true, false⟩], os := [], bk := [], F := fun x => Fbeltwayref06_Valid x }
noncomputable def cFbeltwayref06_Valid : Cx := { nm := [], keep := [], fns := tabF [], loops := [], joins := [], tb := tabs, exts := [(70, .f64bits)], lets := [] }
theorem eFbeltwayref06_Valid : (fun x : HT iFbeltwayref06_Valid.ps => iFbeltwayref06_Valid.F x) = fun x => rk Tryd.prog cFbeltwayref06_Valid (Tryd.f62.body.getD .skip) (HT (iFbeltwayref06_Valid.rs ++ iFbeltwayref06_Valid.os)) 1000000 (finK Tryd.prog [.tmp 2] [] iFbeltwayref06_Valid.os (iFbeltwayref06_Valid.rs ++ iFbeltwayref06_Valid.os)) (initF iFbeltwayref06_Valid.ps x 14) (initL iFbeltwayref06_Valid.ps x 0) := by kernel_rfl
theorem okFbeltwayref06_Valid : CallsV Tryd.prog tabs 62 iFbeltwayref06_Valid :=
  callsV_of_rk (cx := cFbeltwayref06_Valid) (fn := Tryd.f62) (c := Tryd.f62.body.getD .skip) (n := 14) (N := 0) (rvs := [.tmp 2]) (cxOk TabOk.nil (.cons xt70 XtOk.nil)) Tryd.func62 rfl (by kernel_rfl) rfl rfl (by decide) (by decide) (fun x => congrFun eFbeltwayref06_Valid x)
noncomputable def Fbeltwayref12_Check (a0 : (ByteArray × (List (Nat × Int × Int × Int)) × Int)) : Option Int :=
Option.bind (Fbeltwayref12_Named a0.1) (fun r1 =>
if (!r1) = true then
some (7)
else if (a0.2.1.length : Int) < 1 then
some (8)
else if (a0.2.1.length : Int) > 4 then
some (8)
else if (List.replicate 4 (false : Bool)).length = 4 then
loopO (σ := (Int × (List Bool))) (β := Int) (fun s1 =>
if s1.1 < (a0.2.1.length : Int) then
if 0 ≤ s1.1 ∧ s1.1 < (a0.2.1.length : Int) then
Option.bind (Fbeltwayref06_Valid ((gl ((0, 0, 0, 0) : (Nat × Int × Int × Int)) a0.2.1 s1.1.toNat).1)) (fun r2 =>
if (!r2) = true then
some (Sum.inr (6))
else if (((gl ((0, 0, 0, 0) : (Nat × Int × Int × Int)) a0.2.1 s1.1.toNat).2).1) < 0 then
some (Sum.inr (9))
else if (((gl ((0, 0, 0, 0) : (Nat × Int × Int × Int)) a0.2.1 s1.1.toNat).2).1) > 64 then
some (Sum.inr (9))
else if ((((gl ((0, 0, 0, 0) : (Nat × Int × Int × Int)) a0.2.1 s1.1.toNat).2).2).1) < 0 then
some (Sum.inr (9))
else if ((((gl ((0, 0, 0, 0) : (Nat × Int × Int × Int)) a0.2.1 s1.1.toNat).2).2).1) > 64 then
some (Sum.inr (9))
else if s1.1 = (w64 ((a0.2.1.length : Int) - 1)) then
if ¬ (((gl ((0, 0, 0, 0) : (Nat × Int × Int × Int)) a0.2.1 s1.1.toNat).2).1) = 0 then
some (Sum.inr (9))
else if s1.1 = (w64 ((a0.2.1.length : Int) - 1)) then
if ¬ ((((gl ((0, 0, 0, 0) : (Nat × Int × Int × Int)) a0.2.1 s1.1.toNat).2).2).2) = s1.1 then
some (Sum.inr (10))
else if ¬ (s1.1 = (w64 ((a0.2.1.length : Int) - 1))) then
if ((((gl ((0, 0, 0, 0) : (Nat × Int × Int × Int)) a0.2.1 s1.1.toNat).2).2).2) ≤ s1.1 then
some (Sum.inr (10))
else if ((((gl ((0, 0, 0, 0) : (Nat × Int × Int × Int)) a0.2.1 s1.1.toNat).2).2).2) ≥ (a0.2.1.length : Int) then
some (Sum.inr (10))
else if ¬ (s1.1 = (w64 ((a0.2.1.length : Int) - 1))) then
if (0 ≤ ((((gl ((0, 0, 0, 0) : (Nat × Int × Int × Int)) a0.2.1 s1.1.toNat).2).2).2) ∧ ((((gl ((0, 0, 0, 0) : (Nat × Int × Int × Int)) a0.2.1 s1.1.toNat).2).2).2) < ((4 : Nat) : Int)) ∧ ((((gl ((0, 0, 0, 0) : (Nat × Int × Int × Int)) a0.2.1 s1.1.toNat).2).2).2) < (s1.2.length : Int) then
some (Sum.inl ((w64 (s1.1 + 1), s1.2.set (((((gl ((0, 0, 0, 0) : (Nat × Int × Int × Int)) a0.2.1 s1.1.toNat).2).2).2).toNat) true)))
else none
else some (Sum.inl ((w64 (s1.1 + 1), s1.2)))
else if ¬ (s1.1 = (w64 ((a0.2.1.length : Int) - 1))) then
if (0 ≤ ((((gl ((0, 0, 0, 0) : (Nat × Int × Int × Int)) a0.2.1 s1.1.toNat).2).2).2) ∧ ((((gl ((0, 0, 0, 0) : (Nat × Int × Int × Int)) a0.2.1 s1.1.toNat).2).2).2) < ((4 : Nat) : Int)) ∧ ((((gl ((0, 0, 0, 0) : (Nat × Int × Int × Int)) a0.2.1 s1.1.toNat).2).2).2) < (s1.2.length : Int) then
some (Sum.inl ((w64 (s1.1 + 1), s1.2.set (((((gl ((0, 0, 0, 0) : (Nat × Int × Int × Int)) a0.2.1 s1.1.toNat).2).2).2).toNat) true)))
else none
else some (Sum.inl ((w64 (s1.1 + 1), s1.2)))
else if ¬ (s1.1 = (w64 ((a0.2.1.length : Int) - 1))) then
if ((((gl ((0, 0, 0, 0) : (Nat × Int × Int × Int)) a0.2.1 s1.1.toNat).2).2).2) ≤ s1.1 then
some (Sum.inr (10))
else if ((((gl ((0, 0, 0, 0) : (Nat × Int × Int × Int)) a0.2.1 s1.1.toNat).2).2).2) ≥ (a0.2.1.length : Int) then
some (Sum.inr (10))
else if ¬ (s1.1 = (w64 ((a0.2.1.length : Int) - 1))) then
if (0 ≤ ((((gl ((0, 0, 0, 0) : (Nat × Int × Int × Int)) a0.2.1 s1.1.toNat).2).2).2) ∧ ((((gl ((0, 0, 0, 0) : (Nat × Int × Int × Int)) a0.2.1 s1.1.toNat).2).2).2) < ((4 : Nat) : Int)) ∧ ((((gl ((0, 0, 0, 0) : (Nat × Int × Int × Int)) a0.2.1 s1.1.toNat).2).2).2) < (s1.2.length : Int) then
some (Sum.inl ((w64 (s1.1 + 1), s1.2.set (((((gl ((0, 0, 0, 0) : (Nat × Int × Int × Int)) a0.2.1 s1.1.toNat).2).2).2).toNat) true)))
else none
else some (Sum.inl ((w64 (s1.1 + 1), s1.2)))
else if ¬ (s1.1 = (w64 ((a0.2.1.length : Int) - 1))) then
if (0 ≤ ((((gl ((0, 0, 0, 0) : (Nat × Int × Int × Int)) a0.2.1 s1.1.toNat).2).2).2) ∧ ((((gl ((0, 0, 0, 0) : (Nat × Int × Int × Int)) a0.2.1 s1.1.toNat).2).2).2) < ((4 : Nat) : Int)) ∧ ((((gl ((0, 0, 0, 0) : (Nat × Int × Int × Int)) a0.2.1 s1.1.toNat).2).2).2) < (s1.2.length : Int) then
some (Sum.inl ((w64 (s1.1 + 1), s1.2.set (((((gl ((0, 0, 0, 0) : (Nat × Int × Int × Int)) a0.2.1 s1.1.toNat).2).2).2).toNat) true)))
else none
else some (Sum.inl ((w64 (s1.1 + 1), s1.2)))
else if s1.1 = (w64 ((a0.2.1.length : Int) - 1)) then
if ¬ ((((gl ((0, 0, 0, 0) : (Nat × Int × Int × Int)) a0.2.1 s1.1.toNat).2).2).2) = s1.1 then
some (Sum.inr (10))
else if ¬ (s1.1 = (w64 ((a0.2.1.length : Int) - 1))) then
if ((((gl ((0, 0, 0, 0) : (Nat × Int × Int × Int)) a0.2.1 s1.1.toNat).2).2).2) ≤ s1.1 then
some (Sum.inr (10))
else if ((((gl ((0, 0, 0, 0) : (Nat × Int × Int × Int)) a0.2.1 s1.1.toNat).2).2).2) ≥ (a0.2.1.length : Int) then
some (Sum.inr (10))
else if ¬ (s1.1 = (w64 ((a0.2.1.length : Int) - 1))) then
if (0 ≤ ((((gl ((0, 0, 0, 0) : (Nat × Int × Int × Int)) a0.2.1 s1.1.toNat).2).2).2) ∧ ((((gl ((0, 0, 0, 0) : (Nat × Int × Int × Int)) a0.2.1 s1.1.toNat).2).2).2) < ((4 : Nat) : Int)) ∧ ((((gl ((0, 0, 0, 0) : (Nat × Int × Int × Int)) a0.2.1 s1.1.toNat).2).2).2) < (s1.2.length : Int) then
some (Sum.inl ((w64 (s1.1 + 1), s1.2.set (((((gl ((0, 0, 0, 0) : (Nat × Int × Int × Int)) a0.2.1 s1.1.toNat).2).2).2).toNat) true)))
else none
else some (Sum.inl ((w64 (s1.1 + 1), s1.2)))
else if ¬ (s1.1 = (w64 ((a0.2.1.length : Int) - 1))) then
if (0 ≤ ((((gl ((0, 0, 0, 0) : (Nat × Int × Int × Int)) a0.2.1 s1.1.toNat).2).2).2) ∧ ((((gl ((0, 0, 0, 0) : (Nat × Int × Int × Int)) a0.2.1 s1.1.toNat).2).2).2) < ((4 : Nat) : Int)) ∧ ((((gl ((0, 0, 0, 0) : (Nat × Int × Int × Int)) a0.2.1 s1.1.toNat).2).2).2) < (s1.2.length : Int) then
some (Sum.inl ((w64 (s1.1 + 1), s1.2.set (((((gl ((0, 0, 0, 0) : (Nat × Int × Int × Int)) a0.2.1 s1.1.toNat).2).2).2).toNat) true)))
else none
else some (Sum.inl ((w64 (s1.1 + 1), s1.2)))
else if ¬ (s1.1 = (w64 ((a0.2.1.length : Int) - 1))) then
if ((((gl ((0, 0, 0, 0) : (Nat × Int × Int × Int)) a0.2.1 s1.1.toNat).2).2).2) ≤ s1.1 then
some (Sum.inr (10))
else if ((((gl ((0, 0, 0, 0) : (Nat × Int × Int × Int)) a0.2.1 s1.1.toNat).2).2).2) ≥ (a0.2.1.length : Int) then
some (Sum.inr (10))
else if ¬ (s1.1 = (w64 ((a0.2.1.length : Int) - 1))) then
if (0 ≤ ((((gl ((0, 0, 0, 0) : (Nat × Int × Int × Int)) a0.2.1 s1.1.toNat).2).2).2) ∧ ((((gl ((0, 0, 0, 0) : (Nat × Int × Int × Int)) a0.2.1 s1.1.toNat).2).2).2) < ((4 : Nat) : Int)) ∧ ((((gl ((0, 0, 0, 0) : (Nat × Int × Int × Int)) a0.2.1 s1.1.toNat).2).2).2) < (s1.2.length : Int) then
some (Sum.inl ((w64 (s1.1 + 1), s1.2.set (((((gl ((0, 0, 0, 0) : (Nat × Int × Int × Int)) a0.2.1 s1.1.toNat).2).2).2).toNat) true)))
else none
else some (Sum.inl ((w64 (s1.1 + 1), s1.2)))
else if ¬ (s1.1 = (w64 ((a0.2.1.length : Int) - 1))) then
if (0 ≤ ((((gl ((0, 0, 0, 0) : (Nat × Int × Int × Int)) a0.2.1 s1.1.toNat).2).2).2) ∧ ((((gl ((0, 0, 0, 0) : (Nat × Int × Int × Int)) a0.2.1 s1.1.toNat).2).2).2) < ((4 : Nat) : Int)) ∧ ((((gl ((0, 0, 0, 0) : (Nat × Int × Int × Int)) a0.2.1 s1.1.toNat).2).2).2) < (s1.2.length : Int) then
some (Sum.inl ((w64 (s1.1 + 1), s1.2.set (((((gl ((0, 0, 0, 0) : (Nat × Int × Int × Int)) a0.2.1 s1.1.toNat).2).2).2).toNat) true)))
else none
else some (Sum.inl ((w64 (s1.1 + 1), s1.2))))
else none
else Option.map Sum.inr (loopO (σ := Int) (β := Int) (fun s2 =>
if s2 < (a0.2.1.length : Int) then
if (0 ≤ s2 ∧ s2 < ((4 : Nat) : Int)) ∧ s2 < (s1.2.length : Int) then
if (!(gl (false : Bool) s1.2 s2.toNat)) = true then
some (Sum.inr (10))
else some (Sum.inl (w64 (s2 + 1)))
else none
else Option.map Sum.inr (if 0 ≤ (w64 ((a0.2.1.length : Int) - 1)) ∧ (w64 ((a0.2.1.length : Int) - 1)) < (a0.2.1.length : Int) then
if fOrd ((gl ((0, 0, 0, 0) : (Nat × Int × Int × Int)) a0.2.1 ((w64 ((a0.2.1.length : Int) - 1)).toNat)).1) 0 = some .eq then
if a0.2.2 < 1 then
some (9)
else if a0.2.2 > 64 then
some (9)
else if ¬ (fOrd ((gl ((0, 0, 0, 0) : (Nat × Int × Int × Int)) a0.2.1 ((w64 ((a0.2.1.length : Int) - 1)).toNat)).1) 0 = some .eq) then
if ¬ a0.2.2 = 0 then
some (9)
else some (0)
else some (0)
else if ¬ (fOrd ((gl ((0, 0, 0, 0) : (Nat × Int × Int × Int)) a0.2.1 ((w64 ((a0.2.1.length : Int) - 1)).toNat)).1) 0 = some .eq) then
if ¬ a0.2.2 = 0 then
some (9)
else some (0)
else some (0)
else none)) (0))) ((0, ([true, false, false, false] : List Bool)))
else none)
@[reducible] noncomputable def iFbeltwayref12_Check : FnI := { ps := [⟨(.pair .str (.pair (.slice (.pair .flt (.pair (.int .i64) (.pair (.int .i64) (.int .i64))))) (.int .i64))), true, false, false⟩], rs := [⟨(.int .i64), false, true, false⟩], os := [], bk := [], F := fun x => Fbeltwayref12_Check x }
noncomputable def cFbeltwayref12_Check : Cx := { nm := [(1, (1, 1)), (4, (2, 1)), (6, (3, 1))], keep := [4], fns := tabF [(61, iFbeltwayref12_Named), (62, iFbeltwayref06_Valid)], loops := [(0, { live := [(27, ⟨(.int .i64), false, false, false⟩)], boxes := [], rows := [(2, .bool)], dead := [2, 5, 6, 7, 28, 29, 30, 31, 32, 33, 34, 35, 36, 37, 38, 39, 40, 41, 42, 43, 44, 45, 46, 47, 48, 49, 50, 51, 52, 53, 54, 55, 56, 57, 58, 59, 60, 61, 62, 63, 64, 65, 66, 67, 68, 69, 70, 71, 72, 73, 74, 75, 76, 77, 78, 79, 80, 81, 82, 83, 84, 85, 86, 87, 88, 89, 90, 91, 92, 93, 94, 95, 96, 97], lost := [], base := 3 }), (3, { live := [(8, ⟨(.int .i64), false, false, false⟩)], boxes := [], rows := [], dead := [2, 98, 99, 100, 101, 102, 103, 104, 105, 106], lost := [], base := 4 })], joins := [], tb := tabs, exts := [], lets := [] }
theorem eFbeltwayref12_Check : (fun x : HT iFbeltwayref12_Check.ps => iFbeltwayref12_Check.F x) = fun x => rk Tryd.prog cFbeltwayref12_Check (Tryd.f45.body.getD .skip) (HT (iFbeltwayref12_Check.rs ++ iFbeltwayref12_Check.os)) 1000000 (finK Tryd.prog [.tmp 2] [] iFbeltwayref12_Check.os (iFbeltwayref12_Check.rs ++ iFbeltwayref12_Check.os)) (initF iFbeltwayref12_Check.ps x 135) (initL iFbeltwayref12_Check.ps x 3) := by kernel_rfl
theorem okFbeltwayref12_Check : CallsV Tryd.prog tabs 45 iFbeltwayref12_Check :=
  callsV_of_rk (cx := cFbeltwayref12_Check) (fn := Tryd.f45) (c := Tryd.f45.body.getD .skip) (n := 135) (N := 3) (rvs := [.tmp 2]) (cxOk (.cons okFbeltwayref12_Named (.cons okFbeltwayref06_Valid TabOk.nil)) XtOk.nil) Tryd.func45 rfl (by kernel_rfl) rfl rfl (by decide) (by decide) (fun x => congrFun eFbeltwayref12_Check x)
noncomputable def Fbeltwayref12_Complete (a0 : (ByteArray × (List (Nat × Int × Int × Int)) × Int)) : Option Bool :=
Option.bind (Fbeltwayref12_Check a0) (fun r1 =>
if r1 = 0 then
if 0 ≤ (w64 ((a0.2.1.length : Int) - 1)) ∧ (w64 ((a0.2.1.length : Int) - 1)) < (a0.2.1.length : Int) then
some (decide (fOrd ((gl ((0, 0, 0, 0) : (Nat × Int × Int × Int)) a0.2.1 ((w64 ((a0.2.1.length : Int) - 1)).toNat)).1) 0 = some .eq))
else none
else some (false))
@[reducible] noncomputable def iFbeltwayref12_Complete : FnI := { ps := [⟨(.pair .str (.pair (.slice (.pair .flt (.pair (.int .i64) (.pair (.int .i64) (.int .i64))))) (.int .i64))), true, false, false⟩], rs := [⟨.bool, false, true, false⟩], os := [], bk := [], F := fun x => Fbeltwayref12_Complete x }
noncomputable def cFbeltwayref12_Complete : Cx := { nm := [(1, (1, 1))], keep := [], fns := tabF [(45, iFbeltwayref12_Check)], loops := [], joins := [], tb := tabs, exts := [], lets := [] }
theorem eFbeltwayref12_Complete : (fun x : HT iFbeltwayref12_Complete.ps => iFbeltwayref12_Complete.F x) = fun x => rk Tryd.prog cFbeltwayref12_Complete (Tryd.f21.body.getD .skip) (HT (iFbeltwayref12_Complete.rs ++ iFbeltwayref12_Complete.os)) 1000000 (finK Tryd.prog [.tmp 2] [] iFbeltwayref12_Complete.os (iFbeltwayref12_Complete.rs ++ iFbeltwayref12_Complete.os)) (initF iFbeltwayref12_Complete.ps x 18) (initL iFbeltwayref12_Complete.ps x 1) := by kernel_rfl
theorem okFbeltwayref12_Complete : CallsV Tryd.prog tabs 21 iFbeltwayref12_Complete :=
  callsV_of_rk (cx := cFbeltwayref12_Complete) (fn := Tryd.f21) (c := Tryd.f21.body.getD .skip) (n := 18) (N := 1) (rvs := [.tmp 2]) (cxOk (.cons okFbeltwayref12_Check TabOk.nil) XtOk.nil) Tryd.func21 rfl (by kernel_rfl) rfl rfl (by decide) (by decide) (fun x => congrFun eFbeltwayref12_Complete x)
noncomputable def Fbeltwayref04_Used (a0 : (Int × (List (BitVec 64)) × (List (Int × Int × Int)))) : Option Int :=
Option.bind (Fbeltwayref04_Free a0) (fun r1 =>
some (w64 ((a0.2.2.length : Int) - (r1.length : Int))))
@[reducible] noncomputable def iFbeltwayref04_Used : FnI := { ps := [⟨(.pair (.int .i64) (.pair (.slice .u64) (.slice (.pair (.int .i64) (.pair (.int .i64) (.int .i64)))))), true, false, false⟩], rs := [⟨(.int .i64), false, true, false⟩], os := [], bk := [], F := fun x => Fbeltwayref04_Used x }
noncomputable def cFbeltwayref04_Used : Cx := { nm := [(1, (2, 1)), (7, (3, 1))], keep := [], fns := tabF [(23, iFbeltwayref04_Free)], loops := [], joins := [], tb := tabs, exts := [], lets := [] }
theorem eFbeltwayref04_Used : (fun x : HT iFbeltwayref04_Used.ps => iFbeltwayref04_Used.F x) = fun x => rk Tryd.prog cFbeltwayref04_Used (Tryd.f22.body.getD .skip) (HT (iFbeltwayref04_Used.rs ++ iFbeltwayref04_Used.os)) 1000000 (finK Tryd.prog [.tmp 2] [] iFbeltwayref04_Used.os (iFbeltwayref04_Used.rs ++ iFbeltwayref04_Used.os)) (initF iFbeltwayref04_Used.ps x 10) (initL iFbeltwayref04_Used.ps x 2) := by kernel_rfl
theorem okFbeltwayref04_Used : CallsV Tryd.prog tabs 22 iFbeltwayref04_Used :=
  callsV_of_rk (cx := cFbeltwayref04_Used) (fn := Tryd.f22) (c := Tryd.f22.body.getD .skip) (n := 10) (N := 2) (rvs := [.tmp 2]) (cxOk (.cons okFbeltwayref04_Free TabOk.nil) XtOk.nil) Tryd.func22 rfl (by kernel_rfl) rfl rfl (by decide) (by decide) (fun x => congrFun eFbeltwayref04_Used x)
noncomputable def Fbeltwayref11_Largest (a0 : (Int × (List (BitVec 64)) × (List (Int × Int × Int)))) (a1 : (List (List (Int × Int × Int × Int × Int)))) : Option Int :=
loopO (σ := (Int × Int)) (β := Int) (fun s1 =>
if s1.2 < (a1.length : Int) then
if 0 ≤ s1.2 ∧ s1.2 < (a1.length : Int) then
loopO (σ := (Int × Int)) (β := ((Int × Int) ⊕ Int)) (fun s2 =>
if s2.2 < ((gl ([] : (List (Int × Int × Int × Int × Int))) a1 s1.2.toNat).length : Int) then
if 0 ≤ s2.2 ∧ s2.2 < ((gl ([] : (List (Int × Int × Int × Int × Int))) a1 s1.2.toNat).length : Int) then
Option.bind (Fbeltwayref09_Frames a0 ((gl ((0, 0, 0, 0, 0) : (Int × Int × Int × Int × Int)) (gl ([] : (List (Int × Int × Int × Int × Int))) a1 s1.2.toNat) s2.2.toNat).1, ((gl ((0, 0, 0, 0, 0) : (Int × Int × Int × Int × Int)) (gl ([] : (List (Int × Int × Int × Int × Int))) a1 s1.2.toNat) s2.2.toNat).2).1, (((gl ((0, 0, 0, 0, 0) : (Int × Int × Int × Int × Int)) (gl ([] : (List (Int × Int × Int × Int × Int))) a1 s1.2.toNat) s2.2.toNat).2).2).1, ((((gl ((0, 0, 0, 0, 0) : (Int × Int × Int × Int × Int)) (gl ([] : (List (Int × Int × Int × Int × Int))) a1 s1.2.toNat) s2.2.toNat).2).2).2))) (fun r1 =>
some (Sum.inl ((if r1 > s2.1 then r1 else s2.1, w64 (s2.2 + 1)))))
else none
else some (Sum.inr (Sum.inl ((s2.1, w64 (s1.2 + 1)))))) ((s1.1, 0))
else none
else some (Sum.inr (s1.1))) ((0, 0))
@[reducible] noncomputable def iFbeltwayref11_Largest : FnI := { ps := [⟨(.pair (.int .i64) (.pair (.slice .u64) (.slice (.pair (.int .i64) (.pair (.int .i64) (.int .i64)))))), true, false, false⟩, ⟨(.slice (.slice (.pair (.int .i64) (.pair (.int .i64) (.pair (.int .i64) (.pair (.int .i64) (.int .i64))))))), false, false, false⟩], rs := [⟨(.int .i64), false, true, false⟩], os := [], bk := [], F := fun x => Fbeltwayref11_Largest x.1 x.2 }
noncomputable def cFbeltwayref11_Largest : Cx := { nm := [(2, (3, 1)), (9, (5, 1)), (15, (4, 1))], keep := [], fns := tabF [(36, iFbeltwayref09_Frames)], loops := [(0, { live := [(5, ⟨(.int .i64), false, false, false⟩), (12, ⟨(.int .i64), false, false, false⟩)], boxes := [], rows := [], dead := [7, 9, 13, 14, 15, 16, 17, 18, 19, 20, 21, 22, 23, 24, 25, 26, 27, 28], lost := [], base := 4 }), (2, { live := [(5, ⟨(.int .i64), false, false, false⟩), (18, ⟨(.int .i64), false, false, false⟩)], boxes := [], rows := [], dead := [9, 19, 20, 21, 22, 23, 24, 25, 26, 27], lost := [], base := 5 })], joins := [], tb := tabs, exts := [], lets := [] }
theorem eFbeltwayref11_Largest : (fun x : HT iFbeltwayref11_Largest.ps => iFbeltwayref11_Largest.F x) = fun x => rk Tryd.prog cFbeltwayref11_Largest (Tryd.f32.body.getD .skip) (HT (iFbeltwayref11_Largest.rs ++ iFbeltwayref11_Largest.os)) 1000000 (finK Tryd.prog [.tmp 4] [] iFbeltwayref11_Largest.os (iFbeltwayref11_Largest.rs ++ iFbeltwayref11_Largest.os)) (initF iFbeltwayref11_Largest.ps x 30) (initL iFbeltwayref11_Largest.ps x 3) := by kernel_rfl
theorem okFbeltwayref11_Largest : CallsV Tryd.prog tabs 32 iFbeltwayref11_Largest :=
  callsV_of_rk (cx := cFbeltwayref11_Largest) (fn := Tryd.f32) (c := Tryd.f32.body.getD .skip) (n := 30) (N := 3) (rvs := [.tmp 4]) (cxOk (.cons okFbeltwayref09_Frames TabOk.nil) XtOk.nil) Tryd.func32 rfl (by kernel_rfl) rfl rfl (by decide) (by decide) (fun x => congrFun eFbeltwayref11_Largest x)
noncomputable def Fbeltwayref16_Needed (a0 : (ByteArray × (List (Nat × Int × Int × Int)) × Int)) (a1 : (Int × (List (BitVec 64)) × (List (Int × Int × Int)))) (a2 : (List (List (Int × Int × Int × Int × Int)))) : Option Int :=
Option.bind (Fbeltwayref12_Complete a0) (fun r1 =>
if r1 = true then
Option.bind (Fbeltwayref04_Used a1) (fun r2 =>
some (r2))
else Option.bind (Fbeltwayref11_Largest a1 a2) (fun r3 =>
some (r3)))
@[reducible] noncomputable def iFbeltwayref16_Needed : FnI := { ps := [⟨(.pair .str (.pair (.slice (.pair .flt (.pair (.int .i64) (.pair (.int .i64) (.int .i64))))) (.int .i64))), true, false, false⟩, ⟨(.pair (.int .i64) (.pair (.slice .u64) (.slice (.pair (.int .i64) (.pair (.int .i64) (.int .i64)))))), true, false, false⟩, ⟨(.slice (.slice (.pair (.int .i64) (.pair (.int .i64) (.pair (.int .i64) (.pair (.int .i64) (.int .i64))))))), false, false, false⟩], rs := [⟨(.int .i64), false, true, false⟩], os := [], bk := [], F := fun x => Fbeltwayref16_Needed x.1 x.2.1 x.2.2 }
noncomputable def cFbeltwayref16_Needed : Cx := { nm := [(3, (4, 1)), (4, (5, 1))], keep := [], fns := tabF [(21, iFbeltwayref12_Complete), (22, iFbeltwayref04_Used), (32, iFbeltwayref11_Largest)], loops := [], joins := [], tb := tabs, exts := [], lets := [] }
theorem eFbeltwayref16_Needed : (fun x : HT iFbeltwayref16_Needed.ps => iFbeltwayref16_Needed.F x) = fun x => rk Tryd.prog cFbeltwayref16_Needed (Tryd.f9.body.getD .skip) (HT (iFbeltwayref16_Needed.rs ++ iFbeltwayref16_Needed.os)) 1000000 (finK Tryd.prog [.tmp 6] [] iFbeltwayref16_Needed.os (iFbeltwayref16_Needed.rs ++ iFbeltwayref16_Needed.os)) (initF iFbeltwayref16_Needed.ps x 14) (initL iFbeltwayref16_Needed.ps x 2) := by kernel_rfl
theorem okFbeltwayref16_Needed : CallsV Tryd.prog tabs 9 iFbeltwayref16_Needed :=
  callsV_of_rk (cx := cFbeltwayref16_Needed) (fn := Tryd.f9) (c := Tryd.f9.body.getD .skip) (n := 14) (N := 2) (rvs := [.tmp 6]) (cxOk (.cons okFbeltwayref12_Complete (.cons okFbeltwayref04_Used (.cons okFbeltwayref11_Largest TabOk.nil))) XtOk.nil) Tryd.func9 rfl (by kernel_rfl) rfl rfl (by decide) (by decide) (fun x => congrFun eFbeltwayref16_Needed x)
noncomputable def Fpool_Free (a0 : (Int × (List (BitVec 64)) × (List (Int × Int × Int)))) : Option (List Int) :=
Option.bind (Fpool_free a0) (fun r1 =>
loopO (σ := ((List Int) × (BitVec 64))) (β := (List Int)) (fun s1 =>
if ¬ s1.2 = (0#64) then
Option.bind (Fmath_bits_TrailingZeros64 s1.2) (fun r2 =>
if (s1.1.length + ([r2] : List Int).length) * 8 ≤ 140737488355328 then
some (Sum.inl ((s1.1 ++ ([r2] : List Int), s1.2 &&& (s1.2 - (1#64)))))
else none)
else some (Sum.inr (s1.1))) (([], r1)))
@[reducible] noncomputable def iFpool_Free : FnI := { ps := [⟨(.pair (.int .i64) (.pair (.slice .u64) (.slice (.pair (.int .i64) (.pair (.int .i64) (.int .i64)))))), true, false, false⟩], rs := [⟨(.slice (.int .i64)), false, true, false⟩], os := [], bk := [], F := fun x => Fpool_Free x }
noncomputable def cFpool_Free : Cx := { nm := [(1, (2, 1)), (16, (4, 1)), (17, (5, 1))], keep := [17], fns := tabF [(52, iFpool_free), (53, iFmath_bits_TrailingZeros64)], loops := [(0, { live := [(3, ⟨(.slice (.int .i64)), false, true, false⟩), (4, ⟨.u64, false, false, false⟩)], boxes := [], rows := [], dead := [7, 8, 9, 10, 11, 12, 13, 14, 15, 16, 17], lost := [], base := 3 })], joins := [], tb := tabs, exts := [], lets := [] }
theorem eFpool_Free : (fun x : HT iFpool_Free.ps => iFpool_Free.F x) = fun x => rk Tryd.prog cFpool_Free (Tryd.f33.body.getD .skip) (HT (iFpool_Free.rs ++ iFpool_Free.os)) 1000000 (finK Tryd.prog [.tmp 2] [] iFpool_Free.os (iFpool_Free.rs ++ iFpool_Free.os)) (initF iFpool_Free.ps x 19) (initL iFpool_Free.ps x 4) := by kernel_rfl
theorem okFpool_Free : CallsV Tryd.prog tabs 33 iFpool_Free :=
  callsV_of_rk (cx := cFpool_Free) (fn := Tryd.f33) (c := Tryd.f33.body.getD .skip) (n := 19) (N := 4) (rvs := [.tmp 2]) (cxOk (.cons okFpool_free (.cons okFmath_bits_TrailingZeros64 TabOk.nil)) XtOk.nil) Tryd.func33 rfl (by kernel_rfl) rfl rfl (by decide) (by decide) (fun x => congrFun eFpool_Free x)
noncomputable def Freserve_Holds (a0 : (ByteArray × (List (Nat × Int × Int × Int)) × Int)) (a1 : (Int × (List (BitVec 64)) × (List (Int × Int × Int)))) (a2 : (List (List (Int × Int × Int × Int × Int)))) : Option Bool :=
Option.bind (Fpool_Free a1) (fun r1 =>
Option.bind (Freserve_Needed a0 a1 a2) (fun r2 =>
some (decide ((r1.length : Int) ≥ r2))))
@[reducible] noncomputable def iFreserve_Holds : FnI := { ps := [⟨(.pair .str (.pair (.slice (.pair .flt (.pair (.int .i64) (.pair (.int .i64) (.int .i64))))) (.int .i64))), true, false, false⟩, ⟨(.pair (.int .i64) (.pair (.slice .u64) (.slice (.pair (.int .i64) (.pair (.int .i64) (.int .i64)))))), true, false, false⟩, ⟨(.slice (.slice (.pair (.int .i64) (.pair (.int .i64) (.pair (.int .i64) (.pair (.int .i64) (.int .i64))))))), false, false, false⟩], rs := [⟨.bool, false, true, false⟩], os := [], bk := [], F := fun x => Freserve_Holds x.1 x.2.1 x.2.2 }
noncomputable def cFreserve_Holds : Cx := { nm := [(3, (4, 1)), (4, (5, 1)), (8, (6, 1))], keep := [], fns := tabF [(8, iFreserve_Needed), (33, iFpool_Free)], loops := [], joins := [], tb := tabs, exts := [], lets := [] }
theorem eFreserve_Holds : (fun x : HT iFreserve_Holds.ps => iFreserve_Holds.F x) = fun x => rk Tryd.prog cFreserve_Holds (Tryd.f10.body.getD .skip) (HT (iFreserve_Holds.rs ++ iFreserve_Holds.os)) 1000000 (finK Tryd.prog [.tmp 6] [] iFreserve_Holds.os (iFreserve_Holds.rs ++ iFreserve_Holds.os)) (initF iFreserve_Holds.ps x 15) (initL iFreserve_Holds.ps x 3) := by kernel_rfl
theorem okFreserve_Holds : CallsV Tryd.prog tabs 10 iFreserve_Holds :=
  callsV_of_rk (cx := cFreserve_Holds) (fn := Tryd.f10) (c := Tryd.f10.body.getD .skip) (n := 15) (N := 3) (rvs := [.tmp 6]) (cxOk (.cons okFreserve_Needed (.cons okFpool_Free TabOk.nil)) XtOk.nil) Tryd.func10 rfl (by kernel_rfl) rfl rfl (by decide) (by decide) (fun x => congrFun eFreserve_Holds x)
noncomputable def Fbeltwayref16_Holds (a0 : (ByteArray × (List (Nat × Int × Int × Int)) × Int)) (a1 : (Int × (List (BitVec 64)) × (List (Int × Int × Int)))) (a2 : (List (List (Int × Int × Int × Int × Int)))) : Option Bool :=
Option.bind (Fbeltwayref04_Free a1) (fun r1 =>
Option.bind (Fbeltwayref16_Needed a0 a1 a2) (fun r2 =>
some (decide ((r1.length : Int) ≥ r2))))
@[reducible] noncomputable def iFbeltwayref16_Holds : FnI := { ps := [⟨(.pair .str (.pair (.slice (.pair .flt (.pair (.int .i64) (.pair (.int .i64) (.int .i64))))) (.int .i64))), true, false, false⟩, ⟨(.pair (.int .i64) (.pair (.slice .u64) (.slice (.pair (.int .i64) (.pair (.int .i64) (.int .i64)))))), true, false, false⟩, ⟨(.slice (.slice (.pair (.int .i64) (.pair (.int .i64) (.pair (.int .i64) (.pair (.int .i64) (.int .i64))))))), false, false, false⟩], rs := [⟨.bool, false, true, false⟩], os := [], bk := [], F := fun x => Fbeltwayref16_Holds x.1 x.2.1 x.2.2 }
noncomputable def cFbeltwayref16_Holds : Cx := { nm := [(3, (4, 1)), (4, (5, 1)), (8, (6, 1))], keep := [], fns := tabF [(9, iFbeltwayref16_Needed), (23, iFbeltwayref04_Free)], loops := [], joins := [], tb := tabs, exts := [], lets := [] }
theorem eFbeltwayref16_Holds : (fun x : HT iFbeltwayref16_Holds.ps => iFbeltwayref16_Holds.F x) = fun x => rk Tryd.prog cFbeltwayref16_Holds (Tryd.f11.body.getD .skip) (HT (iFbeltwayref16_Holds.rs ++ iFbeltwayref16_Holds.os)) 1000000 (finK Tryd.prog [.tmp 6] [] iFbeltwayref16_Holds.os (iFbeltwayref16_Holds.rs ++ iFbeltwayref16_Holds.os)) (initF iFbeltwayref16_Holds.ps x 15) (initL iFbeltwayref16_Holds.ps x 3) := by kernel_rfl
theorem okFbeltwayref16_Holds : CallsV Tryd.prog tabs 11 iFbeltwayref16_Holds :=
  callsV_of_rk (cx := cFbeltwayref16_Holds) (fn := Tryd.f11) (c := Tryd.f11.body.getD .skip) (n := 15) (N := 3) (rvs := [.tmp 6]) (cxOk (.cons okFbeltwayref16_Needed (.cons okFbeltwayref04_Free TabOk.nil)) XtOk.nil) Tryd.func11 rfl (by kernel_rfl) rfl rfl (by decide) (by decide) (fun x => congrFun eFbeltwayref16_Holds x)
noncomputable def Fbump_Extra (a0 : (Int × (List (BitVec 64)) × (List (Int × Int × Int)))) (a1 : (Int × Int × Int × Int × Int)) (a2 : Int) : Option Int :=
Option.bind (Fbits_Ceil (w64 (a1.2.2.2.2 + a2)) a0.1) (fun r1 =>
Option.bind (Fbump_Frames a0 a1) (fun r2 =>
some (w64 (r1 - r2))))
@[reducible] noncomputable def iFbump_Extra : FnI := { ps := [⟨(.pair (.int .i64) (.pair (.slice .u64) (.slice (.pair (.int .i64) (.pair (.int .i64) (.int .i64)))))), true, false, false⟩, ⟨(.pair (.int .i64) (.pair (.int .i64) (.pair (.int .i64) (.pair (.int .i64) (.int .i64))))), true, false, false⟩, ⟨(.int .i64), false, false, false⟩], rs := [⟨(.int .i64), false, true, false⟩], os := [], bk := [], F := fun x => Fbump_Extra x.1 x.2.1 x.2.2 }
noncomputable def cFbump_Extra : Cx := { nm := [(3, (2, 1)), (4, (3, 1))], keep := [], fns := tabF [(35, iFbump_Frames), (54, iFbits_Ceil)], loops := [], joins := [], tb := tabs, exts := [], lets := [] }
theorem eFbump_Extra : (fun x : HT iFbump_Extra.ps => iFbump_Extra.F x) = fun x => rk Tryd.prog cFbump_Extra (Tryd.f34.body.getD .skip) (HT (iFbump_Extra.rs ++ iFbump_Extra.os)) 1000000 (finK Tryd.prog [.tmp 6] [] iFbump_Extra.os (iFbump_Extra.rs ++ iFbump_Extra.os)) (initF iFbump_Extra.ps x 18) (initL iFbump_Extra.ps x 2) := by kernel_rfl
theorem okFbump_Extra : CallsV Tryd.prog tabs 34 iFbump_Extra :=
  callsV_of_rk (cx := cFbump_Extra) (fn := Tryd.f34) (c := Tryd.f34.body.getD .skip) (n := 18) (N := 2) (rvs := [.tmp 6]) (cxOk (.cons okFbump_Frames (.cons okFbits_Ceil TabOk.nil)) XtOk.nil) Tryd.func34 rfl (by kernel_rfl) rfl rfl (by decide) (by decide) (fun x => congrFun eFbump_Extra x)
noncomputable def Freserve_Grants (a0 : (ByteArray × (List (Nat × Int × Int × Int)) × Int)) (a1 : (Int × (List (BitVec 64)) × (List (Int × Int × Int)))) (a2 : (List (List (Int × Int × Int × Int × Int)))) (a3 : (Int × Int × Int × Int × Int)) (a4 : Int) : Option Bool :=
Option.bind (Fbump_Extra a1 a3 a4) (fun r1 =>
if r1 = 0 then
some (true)
else Option.bind (Fpool_Used a1) (fun r2 =>
Option.bind (Fconfig_Complete a0) (fun r3 =>
if r3 = true then
some (decide ((w64 ((a1.2.2.length : Int) - (w64 (r2 + r1)))) ≥ (w64 (r2 + r1))))
else if (w64 ((a1.2.2.length : Int) - (w64 (r2 + r1)))) ≥ 0 then
Option.bind (Fbelt_Largest a1 a2) (fun r4 =>
Option.bind (Fbump_Frames a1 a3) (fun r5 =>
some (decide ((w64 ((a1.2.2.length : Int) - (w64 (r2 + r1)))) ≥ (if (w64 (r5 + r1)) > r4 then w64 (r5 + r1) else r4)))))
else some (false))))
@[reducible] noncomputable def iFreserve_Grants : FnI := { ps := [⟨(.pair .str (.pair (.slice (.pair .flt (.pair (.int .i64) (.pair (.int .i64) (.int .i64))))) (.int .i64))), true, false, false⟩, ⟨(.pair (.int .i64) (.pair (.slice .u64) (.slice (.pair (.int .i64) (.pair (.int .i64) (.int .i64)))))), true, false, false⟩, ⟨(.slice (.slice (.pair (.int .i64) (.pair (.int .i64) (.pair (.int .i64) (.pair (.int .i64) (.int .i64))))))), false, false, false⟩, ⟨(.pair (.int .i64) (.pair (.int .i64) (.pair (.int .i64) (.pair (.int .i64) (.int .i64))))), true, false, false⟩, ⟨(.int .i64), false, false, false⟩], rs := [⟨.bool, false, true, false⟩], os := [], bk := [], F := fun x => Freserve_Grants x.1 x.2.1 x.2.2.1 x.2.2.2.1 x.2.2.2.2 }
noncomputable def cFreserve_Grants : Cx := { nm := [(5, (4, 1)), (6, (5, 1)), (8, (6, 1))], keep := [], fns := tabF [(29, iFconfig_Complete), (30, iFpool_Used), (31, iFbelt_Largest), (34, iFbump_Extra), (35, iFbump_Frames)], loops := [], joins := [], tb := tabs, exts := [], lets := [] }
theorem eFreserve_Grants : (fun x : HT iFreserve_Grants.ps => iFreserve_Grants.F x) = fun x => rk Tryd.prog cFreserve_Grants (Tryd.f13.body.getD .skip) (HT (iFreserve_Grants.rs ++ iFreserve_Grants.os)) 1000000 (finK Tryd.prog [.tmp 10] [] iFreserve_Grants.os (iFreserve_Grants.rs ++ iFreserve_Grants.os)) (initF iFreserve_Grants.ps x 49) (initL iFreserve_Grants.ps x 3) := by kernel_rfl
theorem okFreserve_Grants : CallsV Tryd.prog tabs 13 iFreserve_Grants :=
  callsV_of_rk (cx := cFreserve_Grants) (fn := Tryd.f13) (c := Tryd.f13.body.getD .skip) (n := 49) (N := 3) (rvs := [.tmp 10]) (cxOk (.cons okFconfig_Complete (.cons okFpool_Used (.cons okFbelt_Largest (.cons okFbump_Extra (.cons okFbump_Frames TabOk.nil))))) XtOk.nil) Tryd.func13 rfl (by kernel_rfl) rfl rfl (by decide) (by decide) (fun x => congrFun eFreserve_Grants x)
noncomputable def Fbeltwayref16_Grants (a0 : (ByteArray × (List (Nat × Int × Int × Int)) × Int)) (a1 : (Int × (List (BitVec 64)) × (List (Int × Int × Int)))) (a2 : (List (List (Int × Int × Int × Int × Int)))) (a3 : (Int × Int × Int × Int × Int)) (a4 : Int) : Option Bool :=
Option.bind (Fbeltwayref09_Extra a1 a3 a4) (fun r1 =>
if r1 = 0 then
some (true)
else Option.bind (Fbeltwayref04_Used a1) (fun r2 =>
if (w64 (r2 + r1)) > (a1.2.2.length : Int) then
some (false)
else Option.bind (Fbeltwayref12_Complete a0) (fun r3 =>
if r3 = true then
some (decide ((w64 ((2 : Int) * (w64 (r2 + r1)))) ≤ (a1.2.2.length : Int)))
else Option.bind (Fbeltwayref11_Largest a1 a2) (fun r4 =>
Option.bind (Fbeltwayref09_Frames a1 a3) (fun r5 =>
some (decide ((w64 ((a1.2.2.length : Int) - (w64 (r2 + r1)))) ≥ (if (w64 (r5 + r1)) > r4 then w64 (r5 + r1) else r4))))))))
@[reducible] noncomputable def iFbeltwayref16_Grants : FnI := { ps := [⟨(.pair .str (.pair (.slice (.pair .flt (.pair (.int .i64) (.pair (.int .i64) (.int .i64))))) (.int .i64))), true, false, false⟩, ⟨(.pair (.int .i64) (.pair (.slice .u64) (.slice (.pair (.int .i64) (.pair (.int .i64) (.int .i64)))))), true, false, false⟩, ⟨(.slice (.slice (.pair (.int .i64) (.pair (.int .i64) (.pair (.int .i64) (.pair (.int .i64) (.int .i64))))))), false, false, false⟩, ⟨(.pair (.int .i64) (.pair (.int .i64) (.pair (.int .i64) (.pair (.int .i64) (.int .i64))))), true, false, false⟩, ⟨(.int .i64), false, false, false⟩], rs := [⟨.bool, false, true, false⟩], os := [], bk := [], F := fun x => Fbeltwayref16_Grants x.1 x.2.1 x.2.2.1 x.2.2.2.1 x.2.2.2.2 }
noncomputable def cFbeltwayref16_Grants : Cx := { nm := [(5, (4, 1)), (6, (5, 1)), (8, (6, 1))], keep := [], fns := tabF [(17, iFbeltwayref09_Extra), (21, iFbeltwayref12_Complete), (22, iFbeltwayref04_Used), (32, iFbeltwayref11_Largest), (36, iFbeltwayref09_Frames)], loops := [], joins := [], tb := tabs, exts := [], lets := [] }
theorem eFbeltwayref16_Grants : (fun x : HT iFbeltwayref16_Grants.ps => iFbeltwayref16_Grants.F x) = fun x => rk Tryd.prog cFbeltwayref16_Grants (Tryd.f14.body.getD .skip) (HT (iFbeltwayref16_Grants.rs ++ iFbeltwayref16_Grants.os)) 1000000 (finK Tryd.prog [.tmp 10] [] iFbeltwayref16_Grants.os (iFbeltwayref16_Grants.rs ++ iFbeltwayref16_Grants.os)) (initF iFbeltwayref16_Grants.ps x 49) (initL iFbeltwayref16_Grants.ps x 3) := by kernel_rfl
theorem okFbeltwayref16_Grants : CallsV Tryd.prog tabs 14 iFbeltwayref16_Grants :=
  callsV_of_rk (cx := cFbeltwayref16_Grants) (fn := Tryd.f14) (c := Tryd.f14.body.getD .skip) (n := 49) (N := 3) (rvs := [.tmp 10]) (cxOk (.cons okFbeltwayref09_Extra (.cons okFbeltwayref12_Complete (.cons okFbeltwayref04_Used (.cons okFbeltwayref11_Largest (.cons okFbeltwayref09_Frames TabOk.nil))))) XtOk.nil) Tryd.func14 rfl (by kernel_rfl) rfl rfl (by decide) (by decide) (fun x => congrFun eFbeltwayref16_Grants x)
noncomputable def Fbeltwaylaw16_semispace  : Option (ByteArray × (List (Nat × Int × Int × Int)) × Int) :=
some ((⟨#[115]⟩, ([(0, 0, 0, 0)] : List (Nat × Int × Int × Int)), 1))
@[reducible] noncomputable def iFbeltwaylaw16_semispace : FnI := { ps := [], rs := [⟨(.pair .str (.pair (.slice (.pair .flt (.pair (.int .i64) (.pair (.int .i64) (.int .i64))))) (.int .i64))), true, true, false⟩], os := [], bk := [], F := fun x => Fbeltwaylaw16_semispace  }
noncomputable def cFbeltwaylaw16_semispace : Cx := { nm := [(0, (0, 1)), (2, (1, 1))], keep := [2], fns := tabF [], loops := [], joins := [], tb := tabs, exts := [], lets := [] }
theorem eFbeltwaylaw16_semispace : (fun x : HT iFbeltwaylaw16_semispace.ps => iFbeltwaylaw16_semispace.F x) = fun x => rk Tryd.prog cFbeltwaylaw16_semispace (Tryd.f38.body.getD .skip) (HT (iFbeltwaylaw16_semispace.rs ++ iFbeltwaylaw16_semispace.os)) 1000000 (finK Tryd.prog [.cell 0 27] [] iFbeltwaylaw16_semispace.os (iFbeltwaylaw16_semispace.rs ++ iFbeltwaylaw16_semispace.os)) (initF iFbeltwaylaw16_semispace.ps x 4) (initL iFbeltwaylaw16_semispace.ps x 2) := by kernel_rfl
theorem okFbeltwaylaw16_semispace : CallsV Tryd.prog tabs 38 iFbeltwaylaw16_semispace :=
  callsV_of_rk (cx := cFbeltwaylaw16_semispace) (fn := Tryd.f38) (c := Tryd.f38.body.getD .skip) (n := 4) (N := 2) (rvs := [.cell 0 27]) (cxOk TabOk.nil XtOk.nil) Tryd.func38 rfl (by kernel_rfl) rfl rfl (by decide) (by decide) (fun x => congrFun eFbeltwaylaw16_semispace x)
noncomputable def Fbeltwaylaw16_awake  : Option Bool :=
Option.bind (Fbeltwayref03_New 3 8) (fun r1 =>
Option.bind (Fbeltwayref09_Alloc r1.1 (0, 0, (-1), (-1), 0) 20) (fun r2 =>
Option.bind (Fbeltwaylaw16_semispace) (fun r3 =>
Option.bind (Freserve_Needed r3 r2.1 ([([r2.2.1] : List (Int × Int × Int × Int × Int))] : List (List (Int × Int × Int × Int × Int)))) (fun r4 =>
if r4 = 3 then
Option.bind (Fbeltwaylaw16_semispace) (fun r5 =>
Option.bind (Freserve_Grants r5 r2.1 ([([r2.2.1] : List (Int × Int × Int × Int × Int))] : List (List (Int × Int × Int × Int × Int))) r2.2.1 8) (fun r6 =>
if r6 = true then
Option.bind (Fbeltwaylaw16_semispace) (fun r7 =>
Option.bind (Freserve_Grants r7 r2.1 ([([r2.2.1] : List (Int × Int × Int × Int × Int))] : List (List (Int × Int × Int × Int × Int))) r2.2.1 16) (fun r8 =>
if (!r8) = true then
Option.bind (Fbeltwaylaw16_semispace) (fun r9 =>
Option.bind (Freserve_Holds r9 r2.1 ([([r2.2.1] : List (Int × Int × Int × Int × Int))] : List (List (Int × Int × Int × Int × Int)))) (fun r10 =>
some (r10)))
else some (false)))
else some (false)))
else some (false)))))
@[reducible] noncomputable def iFbeltwaylaw16_awake : FnI := { ps := [], rs := [⟨.bool, false, true, false⟩], os := [], bk := [], F := fun x => Fbeltwaylaw16_awake  }
noncomputable def cFbeltwaylaw16_awake : Cx := { nm := [(1, (2, 1)), (3, (5, 1)), (8, (0, 2)), (14, (3, 2)), (20, (6, 1)), (21, (7, 1)), (22, (8, 1)), (28, (9, 1)), (35, (10, 1)), (43, (11, 1))], keep := [], fns := tabF [(8, iFreserve_Needed), (10, iFreserve_Holds), (13, iFreserve_Grants), (18, iFbeltwayref09_Alloc), (37, iFbeltwayref03_New), (38, iFbeltwaylaw16_semispace)], loops := [], joins := [], tb := tabs, exts := [], lets := [] }
theorem eFbeltwaylaw16_awake : (fun x : HT iFbeltwaylaw16_awake.ps => iFbeltwaylaw16_awake.F x) = fun x => rk Tryd.prog cFbeltwaylaw16_awake (Tryd.f15.body.getD .skip) (HT (iFbeltwaylaw16_awake.rs ++ iFbeltwaylaw16_awake.os)) 1000000 (finK Tryd.prog [.tmp 0] [] iFbeltwaylaw16_awake.os (iFbeltwaylaw16_awake.rs ++ iFbeltwaylaw16_awake.os)) (initF iFbeltwaylaw16_awake.ps x 48) (initL iFbeltwaylaw16_awake.ps x 12) := by kernel_rfl
theorem okFbeltwaylaw16_awake : CallsV Tryd.prog tabs 15 iFbeltwaylaw16_awake :=
  callsV_of_rk (cx := cFbeltwaylaw16_awake) (fn := Tryd.f15) (c := Tryd.f15.body.getD .skip) (n := 48) (N := 12) (rvs := [.tmp 0]) (cxOk (.cons okFreserve_Needed (.cons okFreserve_Holds (.cons okFreserve_Grants (.cons okFbeltwayref09_Alloc (.cons okFbeltwayref03_New (.cons okFbeltwaylaw16_semispace TabOk.nil)))))) XtOk.nil) Tryd.func15 rfl (by kernel_rfl) rfl rfl (by decide) (by decide) (fun x => congrFun eFbeltwaylaw16_awake x)
noncomputable def Fbeltwaylaw16_ReserveCounts (a0 : (List Int)) (a1 : Int) (a2 : Int) : Option Bool :=
Option.bind (Fbeltwaymake_New a0) (fun r1 =>
Option.bind (Fbeltwaylaw16_belts r1) (fun r2 =>
Option.bind (Freserve_Needed r2.1 r2.2.1 r2.2.2.1) (fun r3 =>
Option.bind (Fbeltwayref16_Needed r2.1 r2.2.1 r2.2.2.1) (fun r4 =>
if ¬ r3 = r4 then
some (false)
else Option.bind (Freserve_Holds r2.1 r2.2.1 r2.2.2.1) (fun r5 =>
Option.bind (Fbeltwayref16_Holds r2.1 r2.2.1 r2.2.2.1) (fun r6 =>
if ¬ r5 = r6 then
some (false)
else loopO (σ := ((List (Int × Int × Int × Int × Int)) × Int)) (β := Bool) (fun s1 =>
if s1.2 < (r2.2.2.1.length : Int) then
if 0 ≤ s1.2 ∧ s1.2 < (r2.2.2.1.length : Int) then
if (s1.1.length + (gl ([] : (List (Int × Int × Int × Int × Int))) r2.2.2.1 s1.2.toNat).length) * 40 ≤ 140737488355328 then
some (Sum.inl ((s1.1 ++ (gl ([] : (List (Int × Int × Int × Int × Int))) r2.2.2.1 s1.2.toNat), w64 (s1.2 + 1))))
else none
else none
else Option.map Sum.inr (loopO (σ := Int) (β := Bool) (fun s2 =>
if s2 < (s1.1.length : Int) then
if 0 ≤ s2 ∧ s2 < (s1.1.length : Int) then
Option.bind (Fbeltwaymake_Mod a2 48) (fun r7 =>
loopO (σ := Int) (β := (Int ⊕ Bool)) (fun s3 =>
if s3 < (([1, w64 ((1 : Int) + r7), 48] : List Int).length : Int) then
if 0 ≤ s3 ∧ s3 < (([1, w64 ((1 : Int) + r7), 48] : List Int).length : Int) then
Option.bind (Freserve_Grants r2.1 r2.2.1 r2.2.2.1 ((gl ((0, 0, 0, 0, 0) : (Int × Int × Int × Int × Int)) s1.1 s2.toNat).1, ((gl ((0, 0, 0, 0, 0) : (Int × Int × Int × Int × Int)) s1.1 s2.toNat).2).1, (((gl ((0, 0, 0, 0, 0) : (Int × Int × Int × Int × Int)) s1.1 s2.toNat).2).2).1, ((((gl ((0, 0, 0, 0, 0) : (Int × Int × Int × Int × Int)) s1.1 s2.toNat).2).2).2)) (gl (0 : Int) ([1, w64 ((1 : Int) + r7), 48] : List Int) s3.toNat)) (fun r8 =>
Option.bind (Fbeltwayref16_Grants r2.1 r2.2.1 r2.2.2.1 ((gl ((0, 0, 0, 0, 0) : (Int × Int × Int × Int × Int)) s1.1 s2.toNat).1, ((gl ((0, 0, 0, 0, 0) : (Int × Int × Int × Int × Int)) s1.1 s2.toNat).2).1, (((gl ((0, 0, 0, 0, 0) : (Int × Int × Int × Int × Int)) s1.1 s2.toNat).2).2).1, ((((gl ((0, 0, 0, 0, 0) : (Int × Int × Int × Int × Int)) s1.1 s2.toNat).2).2).2)) (gl (0 : Int) ([1, w64 ((1 : Int) + r7), 48] : List Int) s3.toNat)) (fun r9 =>
if ¬ r8 = r9 then
some (Sum.inr (Sum.inr (false)))
else some (Sum.inl (w64 (s3 + 1)))))
else none
else some (Sum.inr (Sum.inl (w64 (s2 + 1))))) (0))
else none
else Option.map Sum.inr (Option.bind (Fbeltwaylaw16_awake) (fun r10 =>
some (r10)))) (0))) ((([(99, 0, (-1), (-1), 0)] : List (Int × Int × Int × Int × Int)), 0))))))))
@[reducible] noncomputable def iFbeltwaylaw16_ReserveCounts : FnI := { ps := [⟨(.slice (.int .i64)), false, false, false⟩, ⟨(.int .i64), false, false, false⟩, ⟨(.int .i64), false, false, false⟩], rs := [⟨.bool, false, true, false⟩], os := [], bk := [], F := fun x => Fbeltwaylaw16_ReserveCounts x.1 x.2.1 x.2.2 }
noncomputable def cFbeltwaylaw16_ReserveCounts : Cx := { nm := [(8, (8, 1)), (9, (9, 1)), (15, (14, 1)), (19, (1, 2)), (22, (3, 5)), (47, (10, 1)), (53, (12, 1)), (56, (13, 1)), (67, (15, 1))], keep := [47, 56], fns := tabF [(6, iFbeltwaymake_New), (7, iFbeltwaylaw16_belts), (8, iFreserve_Needed), (9, iFbeltwayref16_Needed), (10, iFreserve_Holds), (11, iFbeltwayref16_Holds), (12, iFbeltwaymake_Mod), (13, iFreserve_Grants), (14, iFbeltwayref16_Grants), (15, iFbeltwaylaw16_awake)], loops := [(0, { live := [(11, ⟨(.slice (.pair (.int .i64) (.pair (.int .i64) (.pair (.int .i64) (.pair (.int .i64) (.int .i64)))))), false, true, false⟩), (50, ⟨(.int .i64), false, false, false⟩)], boxes := [], rows := [], dead := [13, 51, 52, 53, 54, 55, 56, 57], lost := [10], base := 11 }), (2, { live := [(60, ⟨(.int .i64), false, false, false⟩)], boxes := [], rows := [], dead := [6, 15, 17, 61, 62, 63, 64, 65, 66, 67, 68, 69, 70, 71, 72, 73, 74, 75, 76, 77, 78, 79, 80, 81, 82, 83, 84, 85, 86, 87], lost := [], base := 14 }), (4, { live := [(69, ⟨(.int .i64), false, false, false⟩)], boxes := [], rows := [], dead := [6, 17, 70, 71, 72, 73, 74, 75, 76, 77, 78, 79, 80, 81, 82, 83, 84, 85, 86], lost := [], base := 16 })], joins := [], tb := tabs, exts := [], lets := [] }
theorem eFbeltwaylaw16_ReserveCounts : (fun x : HT iFbeltwaylaw16_ReserveCounts.ps => iFbeltwaylaw16_ReserveCounts.F x) = fun x => rk Tryd.prog cFbeltwaylaw16_ReserveCounts (Tryd.f3.body.getD .skip) (HT (iFbeltwaylaw16_ReserveCounts.rs ++ iFbeltwaylaw16_ReserveCounts.os)) 1000000 (finK Tryd.prog [.tmp 6] [] iFbeltwaylaw16_ReserveCounts.os (iFbeltwaylaw16_ReserveCounts.rs ++ iFbeltwaylaw16_ReserveCounts.os)) (initF iFbeltwaylaw16_ReserveCounts.ps x 89) (initL iFbeltwaylaw16_ReserveCounts.ps x 15) := by kernel_rfl
theorem okFbeltwaylaw16_ReserveCounts : CallsV Tryd.prog tabs 3 iFbeltwaylaw16_ReserveCounts :=
  callsV_of_rk (cx := cFbeltwaylaw16_ReserveCounts) (fn := Tryd.f3) (c := Tryd.f3.body.getD .skip) (n := 89) (N := 15) (rvs := [.tmp 6]) (cxOk (.cons okFbeltwaymake_New (.cons okFbeltwaylaw16_belts (.cons okFreserve_Needed (.cons okFbeltwayref16_Needed (.cons okFreserve_Holds (.cons okFbeltwayref16_Holds (.cons okFbeltwaymake_Mod (.cons okFreserve_Grants (.cons okFbeltwayref16_Grants (.cons okFbeltwaylaw16_awake TabOk.nil)))))))))) XtOk.nil) Tryd.func3 rfl (by kernel_rfl) rfl rfl (by decide) (by decide) (fun x => congrFun eFbeltwaylaw16_ReserveCounts x)
noncomputable def Fbeltwayref11_Youngest (a0 : (List (List (Int × Int × Int × Int × Int)))) (a1 : Int) : Option ((Int × Int × Int × Int × Int) × Bool) :=
if a1 < 0 then
some (((0, 0, 0, 0, 0), false))
else if a1 ≥ (a0.length : Int) then
some (((0, 0, 0, 0, 0), false))
else if 0 ≤ a1 ∧ a1 < (a0.length : Int) then
if ((gl ([] : (List (Int × Int × Int × Int × Int))) a0 a1.toNat).length : Int) = 0 then
some (((0, 0, 0, 0, 0), false))
else if 0 ≤ a1 ∧ a1 < (a0.length : Int) then
if 0 ≤ a1 ∧ a1 < (a0.length : Int) then
if 0 ≤ (w64 (((gl ([] : (List (Int × Int × Int × Int × Int))) a0 a1.toNat).length : Int) - 1)) ∧ (w64 (((gl ([] : (List (Int × Int × Int × Int × Int))) a0 a1.toNat).length : Int) - 1)) < ((gl ([] : (List (Int × Int × Int × Int × Int))) a0 a1.toNat).length : Int) then
some ((((gl ((0, 0, 0, 0, 0) : (Int × Int × Int × Int × Int)) (gl ([] : (List (Int × Int × Int × Int × Int))) a0 a1.toNat) ((w64 (((gl ([] : (List (Int × Int × Int × Int × Int))) a0 a1.toNat).length : Int) - 1)).toNat)).1, ((gl ((0, 0, 0, 0, 0) : (Int × Int × Int × Int × Int)) (gl ([] : (List (Int × Int × Int × Int × Int))) a0 a1.toNat) ((w64 (((gl ([] : (List (Int × Int × Int × Int × Int))) a0 a1.toNat).length : Int) - 1)).toNat)).2).1, (((gl ((0, 0, 0, 0, 0) : (Int × Int × Int × Int × Int)) (gl ([] : (List (Int × Int × Int × Int × Int))) a0 a1.toNat) ((w64 (((gl ([] : (List (Int × Int × Int × Int × Int))) a0 a1.toNat).length : Int) - 1)).toNat)).2).2).1, ((((gl ((0, 0, 0, 0, 0) : (Int × Int × Int × Int × Int)) (gl ([] : (List (Int × Int × Int × Int × Int))) a0 a1.toNat) ((w64 (((gl ([] : (List (Int × Int × Int × Int × Int))) a0 a1.toNat).length : Int) - 1)).toNat)).2).2).2)), true))
else none
else none
else none
else none
@[reducible] noncomputable def iFbeltwayref11_Youngest : FnI := { ps := [⟨(.slice (.slice (.pair (.int .i64) (.pair (.int .i64) (.pair (.int .i64) (.pair (.int .i64) (.int .i64))))))), false, false, false⟩, ⟨(.int .i64), false, false, false⟩], rs := [⟨(.pair (.int .i64) (.pair (.int .i64) (.pair (.int .i64) (.pair (.int .i64) (.int .i64))))), true, true, false⟩, ⟨.bool, false, true, false⟩], os := [], bk := [], F := fun x => Fbeltwayref11_Youngest x.1 x.2 }
noncomputable def cFbeltwayref11_Youngest : Cx := { nm := [(4, (1, 1)), (18, (2, 1)), (26, (3, 1)), (30, (4, 1))], keep := [], fns := tabF [], loops := [], joins := [], tb := tabs, exts := [], lets := [] }
theorem eFbeltwayref11_Youngest : (fun x : HT iFbeltwayref11_Youngest.ps => iFbeltwayref11_Youngest.F x) = fun x => rk Tryd.prog cFbeltwayref11_Youngest (Tryd.f16.body.getD .skip) (HT (iFbeltwayref11_Youngest.rs ++ iFbeltwayref11_Youngest.os)) 1000000 (finK Tryd.prog [.cell 4 38, .tmp 5] [] iFbeltwayref11_Youngest.os (iFbeltwayref11_Youngest.rs ++ iFbeltwayref11_Youngest.os)) (initF iFbeltwayref11_Youngest.ps x 35) (initL iFbeltwayref11_Youngest.ps x 4) := by kernel_rfl
theorem okFbeltwayref11_Youngest : CallsV Tryd.prog tabs 16 iFbeltwayref11_Youngest :=
  callsV_of_rk (cx := cFbeltwayref11_Youngest) (fn := Tryd.f16) (c := Tryd.f16.body.getD .skip) (n := 35) (N := 4) (rvs := [.cell 4 38, .tmp 5]) (cxOk TabOk.nil XtOk.nil) Tryd.func16 rfl (by kernel_rfl) rfl rfl (by decide) (by decide) (fun x => congrFun eFbeltwayref11_Youngest x)
noncomputable def Fbeltwayref11_Copy (a0 : (List (List (Int × Int × Int × Int × Int)))) : Option (List (List (Int × Int × Int × Int × Int))) :=
loopO (σ := ((List (List (Int × Int × Int × Int × Int))) × Int)) (β := (List (List (Int × Int × Int × Int × Int)))) (fun s1 =>
if s1.2 < (a0.length : Int) then
if 0 ≤ s1.2 ∧ s1.2 < (a0.length : Int) then
if (([] : List (Int × Int × Int × Int × Int)).length + (gl ([] : (List (Int × Int × Int × Int × Int))) a0 s1.2.toNat).length) * 40 ≤ 140737488355328 then
if (s1.1.length + ([([] : List (Int × Int × Int × Int × Int)) ++ (gl ([] : (List (Int × Int × Int × Int × Int))) a0 s1.2.toNat)] : List (List (Int × Int × Int × Int × Int))).length) * 24 ≤ 140737488355328 then
some (Sum.inl ((s1.1 ++ ([([] : List (Int × Int × Int × Int × Int)) ++ (gl ([] : (List (Int × Int × Int × Int × Int))) a0 s1.2.toNat)] : List (List (Int × Int × Int × Int × Int))), w64 (s1.2 + 1))))
else none
else none
else none
else some (Sum.inr (s1.1))) (([], 0))
@[reducible] noncomputable def iFbeltwayref11_Copy : FnI := { ps := [⟨(.slice (.slice (.pair (.int .i64) (.pair (.int .i64) (.pair (.int .i64) (.pair (.int .i64) (.int .i64))))))), false, false, false⟩], rs := [⟨(.slice (.slice (.pair (.int .i64) (.pair (.int .i64) (.pair (.int .i64) (.pair (.int .i64) (.int .i64))))))), false, true, false⟩], os := [], bk := [], F := fun x => Fbeltwayref11_Copy x }
noncomputable def cFbeltwayref11_Copy : Cx := { nm := [(11, (2, 1)), (14, (3, 1)), (15, (4, 1)), (16, (5, 1))], keep := [14, 15, 16], fns := tabF [], loops := [(0, { live := [(3, ⟨(.slice (.slice (.pair (.int .i64) (.pair (.int .i64) (.pair (.int .i64) (.pair (.int .i64) (.int .i64))))))), false, true, false⟩), (8, ⟨(.int .i64), false, false, false⟩)], boxes := [], rows := [], dead := [5, 9, 10, 11, 12, 13, 14, 15, 16, 17], lost := [], base := 1 })], joins := [], tb := tabs, exts := [], lets := [] }
theorem eFbeltwayref11_Copy : (fun x : HT iFbeltwayref11_Copy.ps => iFbeltwayref11_Copy.F x) = fun x => rk Tryd.prog cFbeltwayref11_Copy (Tryd.f44.body.getD .skip) (HT (iFbeltwayref11_Copy.rs ++ iFbeltwayref11_Copy.os)) 1000000 (finK Tryd.prog [.tmp 2] [] iFbeltwayref11_Copy.os (iFbeltwayref11_Copy.rs ++ iFbeltwayref11_Copy.os)) (initF iFbeltwayref11_Copy.ps x 19) (initL iFbeltwayref11_Copy.ps x 5) := by kernel_rfl
theorem okFbeltwayref11_Copy : CallsV Tryd.prog tabs 44 iFbeltwayref11_Copy :=
  callsV_of_rk (cx := cFbeltwayref11_Copy) (fn := Tryd.f44) (c := Tryd.f44.body.getD .skip) (n := 19) (N := 5) (rvs := [.tmp 2]) (cxOk TabOk.nil XtOk.nil) Tryd.func44 rfl (by kernel_rfl) rfl rfl (by decide) (by decide) (fun x => congrFun eFbeltwayref11_Copy x)
noncomputable def Fbeltwayref11_Replace (a0 : (List (List (Int × Int × Int × Int × Int)))) (a1 : (Int × Int × Int × Int × Int)) : Option ((List (List (Int × Int × Int × Int × Int))) × Int) :=
if a1.2.1 < 0 then
some (([], 1))
else if a1.2.1 ≥ (a0.length : Int) then
some (([], 1))
else Option.bind (Fbeltwayref11_Copy a0) (fun r1 =>
if 0 ≤ a1.2.1 ∧ a1.2.1 < (r1.length : Int) then
loopO (σ := Int) (β := ((List (List (Int × Int × Int × Int × Int))) × Int)) (fun s1 =>
if s1 < ((r1.getD a1.2.1.toNat []).length : Int) then
if 0 ≤ s1 ∧ s1 < ((r1.getD a1.2.1.toNat []).length : Int) then
if ((gl ((0, 0, 0, 0, 0) : (Int × Int × Int × Int × Int)) (r1.getD a1.2.1.toNat []) s1.toNat).1) = a1.1 then
if 0 ≤ a1.2.1 ∧ a1.2.1 < (r1.length : Int) then
if a1.2.1.toNat = a1.2.1.toNat then
if 0 ≤ s1 ∧ s1 < ((r1.getD a1.2.1.toNat []).length : Int) then
some (Sum.inr ((r1.set a1.2.1.toNat ((r1.getD a1.2.1.toNat []).set s1.toNat a1), 0)))
else none
else none
else none
else some (Sum.inl (w64 (s1 + 1)))
else none
else some (Sum.inr (([], 5)))) (0)
else none)
@[reducible] noncomputable def iFbeltwayref11_Replace : FnI := { ps := [⟨(.slice (.slice (.pair (.int .i64) (.pair (.int .i64) (.pair (.int .i64) (.pair (.int .i64) (.int .i64))))))), false, false, false⟩, ⟨(.pair (.int .i64) (.pair (.int .i64) (.pair (.int .i64) (.pair (.int .i64) (.int .i64))))), true, false, false⟩], rs := [⟨(.slice (.slice (.pair (.int .i64) (.pair (.int .i64) (.pair (.int .i64) (.pair (.int .i64) (.int .i64))))))), false, false, false⟩, ⟨(.int .i64), false, false, false⟩], os := [], bk := [], F := fun x => Fbeltwayref11_Replace x.1 x.2 }
noncomputable def cFbeltwayref11_Replace : Cx := { nm := [(3, (1, 1)), (8, (4, 1)), (20, (2, 1)), (25, (3, 1))], keep := [], fns := tabF [(44, iFbeltwayref11_Copy)], loops := [(0, { live := [(27, ⟨(.int .i64), false, false, false⟩)], boxes := [], rows := [], dead := [4, 5, 7, 8, 28, 29, 30, 31, 32, 33, 34, 35, 36, 37, 38, 39, 40, 41, 42, 43, 44, 45, 46], lost := [], base := 4 })], joins := [], tb := tabs, exts := [], lets := [], frzs := [4] }
theorem eFbeltwayref11_Replace : (fun x : HT iFbeltwayref11_Replace.ps => iFbeltwayref11_Replace.F x) = fun x => rk Tryd.prog cFbeltwayref11_Replace (Tryd.f19.body.getD .skip) (HT (iFbeltwayref11_Replace.rs ++ iFbeltwayref11_Replace.os)) 1000000 (finK Tryd.prog [.tmp 4, .tmp 5] [] iFbeltwayref11_Replace.os (iFbeltwayref11_Replace.rs ++ iFbeltwayref11_Replace.os)) (initF iFbeltwayref11_Replace.ps x 47) (initL iFbeltwayref11_Replace.ps x 4) := by kernel_rfl
theorem okFbeltwayref11_Replace : CallsV Tryd.prog tabs 19 iFbeltwayref11_Replace :=
  callsV_of_rk (cx := cFbeltwayref11_Replace) (fn := Tryd.f19) (c := Tryd.f19.body.getD .skip) (n := 47) (N := 4) (rvs := [.tmp 4, .tmp 5]) (cxOk (.cons okFbeltwayref11_Copy TabOk.nil) XtOk.nil) Tryd.func19 rfl (by kernel_rfl) rfl rfl (by decide) (by decide) (fun x => congrFun eFbeltwayref11_Replace x)
noncomputable def Fbeltwayref11_Add (a0 : (List (List (Int × Int × Int × Int × Int)))) (a1 : (Int × Int × Int × Int × Int)) : Option ((List (List (Int × Int × Int × Int × Int))) × Int) :=
if a1.2.1 < 0 then
some (([], 1))
else if a1.2.1 ≥ (a0.length : Int) then
some (([], 1))
else Option.bind (Fbeltwayref11_Youngest a0 a1.2.1) (fun r1 =>
if r1.2 = true then
if r1.1.1 ≥ a1.1 then
some (([], 5))
else Option.bind (Fbeltwayref11_Copy a0) (fun r2 =>
if 0 ≤ a1.2.1 ∧ a1.2.1 < (r2.length : Int) then
if ((r2.getD a1.2.1.toNat []).length + ([a1] : List (Int × Int × Int × Int × Int)).length) * 40 ≤ 140737488355328 then
if 0 ≤ a1.2.1 ∧ a1.2.1 < (r2.length : Int) then
if a1.2.1.toNat = a1.2.1.toNat then
some ((r2.set a1.2.1.toNat ((r2.getD a1.2.1.toNat []) ++ ([a1] : List (Int × Int × Int × Int × Int))), 0))
else none
else none
else none
else none)
else Option.bind (Fbeltwayref11_Copy a0) (fun r3 =>
if 0 ≤ a1.2.1 ∧ a1.2.1 < (r3.length : Int) then
if ((r3.getD a1.2.1.toNat []).length + ([a1] : List (Int × Int × Int × Int × Int)).length) * 40 ≤ 140737488355328 then
if 0 ≤ a1.2.1 ∧ a1.2.1 < (r3.length : Int) then
if a1.2.1.toNat = a1.2.1.toNat then
some ((r3.set a1.2.1.toNat ((r3.getD a1.2.1.toNat []) ++ ([a1] : List (Int × Int × Int × Int × Int))), 0))
else none
else none
else none
else none))
@[reducible] noncomputable def iFbeltwayref11_Add : FnI := { ps := [⟨(.slice (.slice (.pair (.int .i64) (.pair (.int .i64) (.pair (.int .i64) (.pair (.int .i64) (.int .i64))))))), false, false, false⟩, ⟨(.pair (.int .i64) (.pair (.int .i64) (.pair (.int .i64) (.pair (.int .i64) (.int .i64))))), true, false, false⟩], rs := [⟨(.slice (.slice (.pair (.int .i64) (.pair (.int .i64) (.pair (.int .i64) (.pair (.int .i64) (.int .i64))))))), false, true, false⟩, ⟨(.int .i64), false, true, false⟩], os := [], bk := [], F := fun x => Fbeltwayref11_Add x.1 x.2 }
noncomputable def cFbeltwayref11_Add : Cx := { nm := [(3, (1, 1)), (6, (2, 1)), (35, (3, 1)), (43, (4, 1)), (45, (5, 1)), (46, (6, 1))], keep := [46], fns := tabF [(16, iFbeltwayref11_Youngest), (44, iFbeltwayref11_Copy)], loops := [], joins := [], tb := tabs, exts := [], lets := [] }
theorem eFbeltwayref11_Add : (fun x : HT iFbeltwayref11_Add.ps => iFbeltwayref11_Add.F x) = fun x => rk Tryd.prog cFbeltwayref11_Add (Tryd.f20.body.getD .skip) (HT (iFbeltwayref11_Add.rs ++ iFbeltwayref11_Add.os)) 1000000 (finK Tryd.prog [.tmp 4, .tmp 5] [] iFbeltwayref11_Add.os (iFbeltwayref11_Add.rs ++ iFbeltwayref11_Add.os)) (initF iFbeltwayref11_Add.ps x 49) (initL iFbeltwayref11_Add.ps x 6) := by kernel_rfl
theorem okFbeltwayref11_Add : CallsV Tryd.prog tabs 20 iFbeltwayref11_Add :=
  callsV_of_rk (cx := cFbeltwayref11_Add) (fn := Tryd.f20) (c := Tryd.f20.body.getD .skip) (n := 49) (N := 6) (rvs := [.tmp 4, .tmp 5]) (cxOk (.cons okFbeltwayref11_Youngest (.cons okFbeltwayref11_Copy TabOk.nil)) XtOk.nil) Tryd.func20 rfl (by kernel_rfl) rfl rfl (by decide) (by decide) (fun x => congrFun eFbeltwayref11_Add x)
noncomputable def Fbeltwaylaw16_ReserveKeeps (a0 : (List Int)) (a1 : Int) (a2 : Int) : Option Bool :=
Option.bind (Fbeltwaymake_New a0) (fun r1 =>
Option.bind (Fbeltwaylaw16_belts r1) (fun r2 =>
Option.bind (Fbeltwaymake_Mod a1 (r2.1.2.1.length : Int)) (fun r3 =>
Option.bind (α := (Int × Int × Int × Int × Int) ⊕ Bool) (Option.bind (Fbeltwayref11_Youngest r2.2.2.1 r3) (fun r4 =>
if r4.2 = true then
if ¬ (8 : Int) = 0 then
Option.bind (Fbeltwaymake_Mod (w64 (Int.tdiv a1 8)) 3) (fun r5 =>
if r5 > 0 then
some (Sum.inl (r4.1))
else some (Sum.inl ((99, r3, (-1), (-1), 0))))
else none
else some (Sum.inl ((99, r3, (-1), (-1), 0))))) (fun q => match q with
| Sum.inl j1 => (Option.bind (Fbeltwaymake_Mod a2 48) (fun r6 =>
Option.bind (Freserve_Grants r2.1 r2.2.1 r2.2.2.1 j1 (w64 ((1 : Int) + r6))) (fun r7 =>
Option.bind (Fbeltwayref09_Extra r2.2.1 j1 (w64 ((1 : Int) + r6))) (fun r8 =>
if r8 = 0 then
if (!r7) = true then
some (false)
else if (!r7) = true then
Option.bind (Fbeltwaylaw16_awake) (fun r9 =>
some (r9))
else Option.bind (Fbeltwayref09_Alloc r2.2.1 j1 (w64 ((1 : Int) + r6))) (fun r10 =>
if ¬ r10.2.2.2 = 0 then
some (false)
else Option.bind (Fbeltwayref11_Replace r2.2.2.1 r10.2.1) (fun r11 =>
if j1.2.2.2.2 = 0 then
Option.bind (Fbeltwayref11_Add r2.2.2.1 r10.2.1) (fun r12 =>
if ¬ r12.2 = 0 then
some (false)
else Option.bind (Fbeltwayref12_Complete r2.1) (fun r13 =>
if r13 = true then
Option.bind (Fbeltwayref04_Used r10.1) (fun r14 =>
Option.bind (Fbeltwayref04_Used r2.2.1) (fun r15 =>
if r14 > r15 then
Option.bind (Fbeltwayref04_Used r10.1) (fun r16 =>
if (w64 ((2 : Int) * r16)) > (r10.1.2.2.length : Int) then
some (false)
else Option.bind (Freserve_Holds r2.1 r2.2.1 r2.2.2.1) (fun r17 =>
if (!r17) = true then
some (true)
else Option.bind (Freserve_Holds r2.1 r10.1 r12.1) (fun r18 =>
some (r18))))
else Option.bind (Freserve_Holds r2.1 r2.2.1 r2.2.2.1) (fun r19 =>
if (!r19) = true then
some (true)
else Option.bind (Freserve_Holds r2.1 r10.1 r12.1) (fun r20 =>
some (r20)))))
else Option.bind (Freserve_Holds r2.1 r2.2.1 r2.2.2.1) (fun r21 =>
if (!r21) = true then
some (true)
else Option.bind (Freserve_Holds r2.1 r10.1 r12.1) (fun r22 =>
some (r22)))))
else if ¬ r11.2 = 0 then
some (false)
else Option.bind (Fbeltwayref12_Complete r2.1) (fun r23 =>
if r23 = true then
Option.bind (Fbeltwayref04_Used r10.1) (fun r24 =>
Option.bind (Fbeltwayref04_Used r2.2.1) (fun r25 =>
if r24 > r25 then
Option.bind (Fbeltwayref04_Used r10.1) (fun r26 =>
if (w64 ((2 : Int) * r26)) > (r10.1.2.2.length : Int) then
some (false)
else Option.bind (Freserve_Holds r2.1 r2.2.1 r2.2.2.1) (fun r27 =>
if (!r27) = true then
some (true)
else Option.bind (Freserve_Holds r2.1 r10.1 r11.1) (fun r28 =>
some (r28))))
else Option.bind (Freserve_Holds r2.1 r2.2.1 r2.2.2.1) (fun r29 =>
if (!r29) = true then
some (true)
else Option.bind (Freserve_Holds r2.1 r10.1 r11.1) (fun r30 =>
some (r30)))))
else Option.bind (Freserve_Holds r2.1 r2.2.1 r2.2.2.1) (fun r31 =>
if (!r31) = true then
some (true)
else Option.bind (Freserve_Holds r2.1 r10.1 r11.1) (fun r32 =>
some (r32))))))
else if (!r7) = true then
Option.bind (Fbeltwaylaw16_awake) (fun r33 =>
some (r33))
else Option.bind (Fbeltwayref09_Alloc r2.2.1 j1 (w64 ((1 : Int) + r6))) (fun r34 =>
if ¬ r34.2.2.2 = 0 then
some (false)
else Option.bind (Fbeltwayref11_Replace r2.2.2.1 r34.2.1) (fun r35 =>
if j1.2.2.2.2 = 0 then
Option.bind (Fbeltwayref11_Add r2.2.2.1 r34.2.1) (fun r36 =>
if ¬ r36.2 = 0 then
some (false)
else Option.bind (Fbeltwayref12_Complete r2.1) (fun r37 =>
if r37 = true then
Option.bind (Fbeltwayref04_Used r34.1) (fun r38 =>
Option.bind (Fbeltwayref04_Used r2.2.1) (fun r39 =>
if r38 > r39 then
Option.bind (Fbeltwayref04_Used r34.1) (fun r40 =>
if (w64 ((2 : Int) * r40)) > (r34.1.2.2.length : Int) then
some (false)
else Option.bind (Freserve_Holds r2.1 r2.2.1 r2.2.2.1) (fun r41 =>
if (!r41) = true then
some (true)
else Option.bind (Freserve_Holds r2.1 r34.1 r36.1) (fun r42 =>
some (r42))))
else Option.bind (Freserve_Holds r2.1 r2.2.1 r2.2.2.1) (fun r43 =>
if (!r43) = true then
some (true)
else Option.bind (Freserve_Holds r2.1 r34.1 r36.1) (fun r44 =>
some (r44)))))
else Option.bind (Freserve_Holds r2.1 r2.2.1 r2.2.2.1) (fun r45 =>
if (!r45) = true then
some (true)
else Option.bind (Freserve_Holds r2.1 r34.1 r36.1) (fun r46 =>
some (r46)))))
else if ¬ r35.2 = 0 then
some (false)
else Option.bind (Fbeltwayref12_Complete r2.1) (fun r47 =>
if r47 = true then
Option.bind (Fbeltwayref04_Used r34.1) (fun r48 =>
Option.bind (Fbeltwayref04_Used r2.2.1) (fun r49 =>
if r48 > r49 then
Option.bind (Fbeltwayref04_Used r34.1) (fun r50 =>
if (w64 ((2 : Int) * r50)) > (r34.1.2.2.length : Int) then
some (false)
else Option.bind (Freserve_Holds r2.1 r2.2.1 r2.2.2.1) (fun r51 =>
if (!r51) = true then
some (true)
else Option.bind (Freserve_Holds r2.1 r34.1 r35.1) (fun r52 =>
some (r52))))
else Option.bind (Freserve_Holds r2.1 r2.2.1 r2.2.2.1) (fun r53 =>
if (!r53) = true then
some (true)
else Option.bind (Freserve_Holds r2.1 r34.1 r35.1) (fun r54 =>
some (r54)))))
else Option.bind (Freserve_Holds r2.1 r2.2.1 r2.2.2.1) (fun r55 =>
if (!r55) = true then
some (true)
else Option.bind (Freserve_Holds r2.1 r34.1 r35.1) (fun r56 =>
some (r56))))))))))
| Sum.inr b1 => some b1))))
@[reducible] noncomputable def iFbeltwaylaw16_ReserveKeeps : FnI := { ps := [⟨(.slice (.int .i64)), false, false, false⟩, ⟨(.int .i64), false, false, false⟩, ⟨(.int .i64), false, false, false⟩], rs := [⟨.bool, false, true, false⟩], os := [], bk := [], F := fun x => Fbeltwaylaw16_ReserveKeeps x.1 x.2.1 x.2.2 }
noncomputable def cFbeltwaylaw16_ReserveKeeps : Cx := { nm := [(8, (8, 1)), (9, (9, 1)), (11, (10, 1)), (12, (11, 1)), (16, (14, 1)), (17, (15, 1)), (23, (1, 2)), (26, (3, 5)), (76, (12, 2)), (86, (16, 1)), (95, (17, 1))], keep := [], fns := tabF [(6, iFbeltwaymake_New), (7, iFbeltwaylaw16_belts), (10, iFreserve_Holds), (12, iFbeltwaymake_Mod), (13, iFreserve_Grants), (15, iFbeltwaylaw16_awake), (16, iFbeltwayref11_Youngest), (17, iFbeltwayref09_Extra), (18, iFbeltwayref09_Alloc), (19, iFbeltwayref11_Replace), (20, iFbeltwayref11_Add), (21, iFbeltwayref12_Complete), (22, iFbeltwayref04_Used)], loops := [], joins := [(7, { live := [], boxes := [(10, ⟨(.pair (.int .i64) (.pair (.int .i64) (.pair (.int .i64) (.pair (.int .i64) (.int .i64))))), true, false, false⟩)], rows := [], dead := [12, 13, 36, 37, 38, 39, 40, 41, 42, 43, 44, 45, 46, 47, 48, 49, 50], lost := [], base := 12 })], tb := tabs, exts := [], lets := [], frzs := [126] }
theorem eFbeltwaylaw16_ReserveKeeps : (fun x : HT iFbeltwaylaw16_ReserveKeeps.ps => iFbeltwaylaw16_ReserveKeeps.F x) = fun x => rk Tryd.prog cFbeltwaylaw16_ReserveKeeps (Tryd.f4.body.getD .skip) (HT (iFbeltwaylaw16_ReserveKeeps.rs ++ iFbeltwaylaw16_ReserveKeeps.os)) 1000000 (finK Tryd.prog [.tmp 6] [] iFbeltwaylaw16_ReserveKeeps.os (iFbeltwaylaw16_ReserveKeeps.rs ++ iFbeltwaylaw16_ReserveKeeps.os)) (initF iFbeltwaylaw16_ReserveKeeps.ps x 129) (initL iFbeltwaylaw16_ReserveKeeps.ps x 17) := by kernel_rfl
theorem okFbeltwaylaw16_ReserveKeeps : CallsV Tryd.prog tabs 4 iFbeltwaylaw16_ReserveKeeps :=
  callsV_of_rk (cx := cFbeltwaylaw16_ReserveKeeps) (fn := Tryd.f4) (c := Tryd.f4.body.getD .skip) (n := 129) (N := 17) (rvs := [.tmp 6]) (cxOk (.cons okFbeltwaymake_New (.cons okFbeltwaylaw16_belts (.cons okFreserve_Holds (.cons okFbeltwaymake_Mod (.cons okFreserve_Grants (.cons okFbeltwaylaw16_awake (.cons okFbeltwayref11_Youngest (.cons okFbeltwayref09_Extra (.cons okFbeltwayref09_Alloc (.cons okFbeltwayref11_Replace (.cons okFbeltwayref11_Add (.cons okFbeltwayref12_Complete (.cons okFbeltwayref04_Used TabOk.nil))))))))))))) XtOk.nil) Tryd.func4 rfl (by kernel_rfl) rfl rfl (by decide) (by decide) (fun x => congrFun eFbeltwaylaw16_ReserveKeeps x)
noncomputable def Fbeltwayref11_Words (a0 : (List (List (Int × Int × Int × Int × Int)))) : Option Int :=
loopO (σ := (Int × Int)) (β := Int) (fun s1 =>
if s1.2 < (a0.length : Int) then
if 0 ≤ s1.2 ∧ s1.2 < (a0.length : Int) then
loopO (σ := (Int × Int)) (β := ((Int × Int) ⊕ Int)) (fun s2 =>
if s2.2 < ((gl ([] : (List (Int × Int × Int × Int × Int))) a0 s1.2.toNat).length : Int) then
if 0 ≤ s2.2 ∧ s2.2 < ((gl ([] : (List (Int × Int × Int × Int × Int))) a0 s1.2.toNat).length : Int) then
some (Sum.inl ((w64 (s2.1 + (((((gl ((0, 0, 0, 0, 0) : (Int × Int × Int × Int × Int)) (gl ([] : (List (Int × Int × Int × Int × Int))) a0 s1.2.toNat) s2.2.toNat).2).2).2).2)), w64 (s2.2 + 1))))
else none
else some (Sum.inr (Sum.inl ((s2.1, w64 (s1.2 + 1)))))) ((s1.1, 0))
else none
else some (Sum.inr (s1.1))) ((0, 0))
@[reducible] noncomputable def iFbeltwayref11_Words : FnI := { ps := [⟨(.slice (.slice (.pair (.int .i64) (.pair (.int .i64) (.pair (.int .i64) (.pair (.int .i64) (.int .i64))))))), false, false, false⟩], rs := [⟨(.int .i64), false, true, false⟩], os := [], bk := [], F := fun x => Fbeltwayref11_Words x }
noncomputable def cFbeltwayref11_Words : Cx := { nm := [(7, (2, 1)), (13, (1, 1))], keep := [], fns := tabF [], loops := [(0, { live := [(3, ⟨(.int .i64), false, false, false⟩), (10, ⟨(.int .i64), false, false, false⟩)], boxes := [], rows := [], dead := [5, 7, 11, 12, 13, 14, 15, 16, 17, 18, 19, 20, 21, 22, 23, 24, 25], lost := [], base := 1 }), (2, { live := [(3, ⟨(.int .i64), false, false, false⟩), (16, ⟨(.int .i64), false, false, false⟩)], boxes := [], rows := [], dead := [7, 17, 18, 19, 20, 21, 22, 23, 24], lost := [], base := 2 })], joins := [], tb := tabs, exts := [], lets := [] }
theorem eFbeltwayref11_Words : (fun x : HT iFbeltwayref11_Words.ps => iFbeltwayref11_Words.F x) = fun x => rk Tryd.prog cFbeltwayref11_Words (Tryd.f24.body.getD .skip) (HT (iFbeltwayref11_Words.rs ++ iFbeltwayref11_Words.os)) 1000000 (finK Tryd.prog [.tmp 2] [] iFbeltwayref11_Words.os (iFbeltwayref11_Words.rs ++ iFbeltwayref11_Words.os)) (initF iFbeltwayref11_Words.ps x 27) (initL iFbeltwayref11_Words.ps x 2) := by kernel_rfl
theorem okFbeltwayref11_Words : CallsV Tryd.prog tabs 24 iFbeltwayref11_Words :=
  callsV_of_rk (cx := cFbeltwayref11_Words) (fn := Tryd.f24) (c := Tryd.f24.body.getD .skip) (n := 27) (N := 2) (rvs := [.tmp 2]) (cxOk TabOk.nil XtOk.nil) Tryd.func24 rfl (by kernel_rfl) rfl rfl (by decide) (by decide) (fun x => congrFun eFbeltwayref11_Words x)
noncomputable def Fbeltwaylaw16_ReserveMore (a0 : (List Int)) (a1 : Int) (a2 : Int) (a3 : Int) : Option Bool :=
Option.bind (Fbeltwaymake_New a0) (fun r1 =>
Option.bind (Fbeltwaylaw16_belts r1) (fun r2 =>
Option.bind (α := (Int × Int × Int × Int × Int) ⊕ Bool) (Option.bind (Fbeltwayref11_Youngest r2.2.2.1 0) (fun r3 =>
if r3.2 = true then
Option.bind (Fbeltwaymake_Mod a1 2) (fun r4 =>
if r4 = 0 then
some (Sum.inl (r3.1))
else some (Sum.inl ((99, 0, (-1), (-1), 0))))
else some (Sum.inl ((99, 0, (-1), (-1), 0))))) (fun q => match q with
| Sum.inl j1 => (Option.bind (Fbeltwaymake_Mod a2 48) (fun r5 =>
Option.bind (Fbeltwaymake_Mod a3 48) (fun r6 =>
Option.bind (Freserve_Grants r2.1 r2.2.1 r2.2.2.1 j1 (if (w64 ((1 : Int) + r6)) > (w64 ((1 : Int) + r5)) then w64 ((1 : Int) + r6) else w64 ((1 : Int) + r5))) (fun r7 =>
if r7 = true then
Option.bind (Freserve_Grants r2.1 r2.2.1 r2.2.2.1 j1 (if (w64 ((1 : Int) + r6)) < (w64 ((1 : Int) + r5)) then w64 ((1 : Int) + r6) else w64 ((1 : Int) + r5))) (fun r8 =>
if (!r8) = true then
some (false)
else Option.bind (Fbeltwayref12_Complete r2.1) (fun r9 =>
if r9 = true then
Option.bind (Freserve_Holds r2.1 r2.2.1 r2.2.2.1) (fun r10 =>
if r10 = true then
Option.bind (Fbeltwayref04_Free r2.2.1) (fun r11 =>
if True then
Option.bind (Fbeltwayref11_Words r2.2.2.1) (fun r12 =>
some (decide ((w64 ((r11.length : Int) * 2 ^ min (BitVec.ofInt 64 r2.2.1.1).toNat 64)) ≥ r12)))
else none)
else Option.bind (Fbeltwaylaw16_awake) (fun r13 =>
some (r13)))
else Option.bind (Fbeltwaylaw16_awake) (fun r14 =>
some (r14))))
else Option.bind (Fbeltwayref12_Complete r2.1) (fun r15 =>
if r15 = true then
Option.bind (Freserve_Holds r2.1 r2.2.1 r2.2.2.1) (fun r16 =>
if r16 = true then
Option.bind (Fbeltwayref04_Free r2.2.1) (fun r17 =>
if True then
Option.bind (Fbeltwayref11_Words r2.2.2.1) (fun r18 =>
some (decide ((w64 ((r17.length : Int) * 2 ^ min (BitVec.ofInt 64 r2.2.1.1).toNat 64)) ≥ r18)))
else none)
else Option.bind (Fbeltwaylaw16_awake) (fun r19 =>
some (r19)))
else Option.bind (Fbeltwaylaw16_awake) (fun r20 =>
some (r20)))))))
| Sum.inr b1 => some b1)))
@[reducible] noncomputable def iFbeltwaylaw16_ReserveMore : FnI := { ps := [⟨(.slice (.int .i64)), false, false, false⟩, ⟨(.int .i64), false, false, false⟩, ⟨(.int .i64), false, false, false⟩, ⟨(.int .i64), false, false, false⟩], rs := [⟨.bool, false, true, false⟩], os := [], bk := [], F := fun x => Fbeltwaylaw16_ReserveMore x.1 x.2.1 x.2.2.1 x.2.2.2 }
noncomputable def cFbeltwaylaw16_ReserveMore : Cx := { nm := [(10, (8, 1)), (11, (9, 1)), (13, (10, 1)), (14, (11, 1)), (19, (1, 2)), (22, (3, 5)), (73, (12, 1))], keep := [], fns := tabF [(6, iFbeltwaymake_New), (7, iFbeltwaylaw16_belts), (10, iFreserve_Holds), (12, iFbeltwaymake_Mod), (13, iFreserve_Grants), (15, iFbeltwaylaw16_awake), (16, iFbeltwayref11_Youngest), (21, iFbeltwayref12_Complete), (23, iFbeltwayref04_Free), (24, iFbeltwayref11_Words)], loops := [], joins := [(7, { live := [], boxes := [(10, ⟨(.pair (.int .i64) (.pair (.int .i64) (.pair (.int .i64) (.pair (.int .i64) (.int .i64))))), true, false, false⟩)], rows := [], dead := [14, 15, 27, 28, 29, 30, 31, 32, 33, 34, 35, 36, 37, 38], lost := [], base := 12 })], tb := tabs, exts := [], lets := [] }
theorem eFbeltwaylaw16_ReserveMore : (fun x : HT iFbeltwaylaw16_ReserveMore.ps => iFbeltwaylaw16_ReserveMore.F x) = fun x => rk Tryd.prog cFbeltwaylaw16_ReserveMore (Tryd.f5.body.getD .skip) (HT (iFbeltwaylaw16_ReserveMore.rs ++ iFbeltwaylaw16_ReserveMore.os)) 1000000 (finK Tryd.prog [.tmp 8] [] iFbeltwaylaw16_ReserveMore.os (iFbeltwaylaw16_ReserveMore.rs ++ iFbeltwaylaw16_ReserveMore.os)) (initF iFbeltwaylaw16_ReserveMore.ps x 83) (initL iFbeltwaylaw16_ReserveMore.ps x 12) := by kernel_rfl
theorem okFbeltwaylaw16_ReserveMore : CallsV Tryd.prog tabs 5 iFbeltwaylaw16_ReserveMore :=
  callsV_of_rk (cx := cFbeltwaylaw16_ReserveMore) (fn := Tryd.f5) (c := Tryd.f5.body.getD .skip) (n := 83) (N := 12) (rvs := [.tmp 8]) (cxOk (.cons okFbeltwaymake_New (.cons okFbeltwaylaw16_belts (.cons okFreserve_Holds (.cons okFbeltwaymake_Mod (.cons okFreserve_Grants (.cons okFbeltwaylaw16_awake (.cons okFbeltwayref11_Youngest (.cons okFbeltwayref12_Complete (.cons okFbeltwayref04_Free (.cons okFbeltwayref11_Words TabOk.nil)))))))))) XtOk.nil) Tryd.func5 rfl (by kernel_rfl) rfl rfl (by decide) (by decide) (fun x => congrFun eFbeltwaylaw16_ReserveMore x)
end Go.Proofs.YtgllefepfnbmkaaDoor
