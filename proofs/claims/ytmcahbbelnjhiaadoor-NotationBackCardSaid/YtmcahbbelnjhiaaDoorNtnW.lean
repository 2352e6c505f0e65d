/-
  The functions of the laws of package notation (printed, and checked by the kernel).
-/
import Derived.Test.YtmcahbbelnjhiaaDoorNtnS
set_option linter.unusedVariables false
set_option maxRecDepth 100000
namespace Go.Proofs.YtmcahbbelnjhiaaDoor
open Go Go.V3



noncomputable def Fconfig_named (s : ByteArray) : Option Bool :=
if (s.size : Int) < 1 then
some (false)
else if (s.size : Int) > 16 then
some (false)
else if 0 ≤ (0 : Int) ∧ (0 : Int) < (s.size : Int) then
if (sget s ((0 : Int).toNat)) < 97 then
some (false)
else if 0 ≤ (0 : Int) ∧ (0 : Int) < (s.size : Int) then
if (sget s ((0 : Int).toNat)) > 122 then
some (false)
else loopO (σ := Nat) (β := Bool) (fun p =>
cond (decide (p < s.size)) (if ((Utf8.decode s p).1 : Int) < 97 then
if ((Utf8.decode s p).1 : Int) < 48 then
if ¬ ((Utf8.decode s p).1 : Int) = 45 then
some (Sum.inr (false))
else some (Sum.inl (p + (Utf8.decode s p).2))
else if ((Utf8.decode s p).1 : Int) > 57 then
if ¬ ((Utf8.decode s p).1 : Int) = 45 then
some (Sum.inr (false))
else some (Sum.inl (p + (Utf8.decode s p).2))
else some (Sum.inl (p + (Utf8.decode s p).2))
else if ((Utf8.decode s p).1 : Int) > 122 then
if ((Utf8.decode s p).1 : Int) < 48 then
if ¬ ((Utf8.decode s p).1 : Int) = 45 then
some (Sum.inr (false))
else some (Sum.inl (p + (Utf8.decode s p).2))
else if ((Utf8.decode s p).1 : Int) > 57 then
if ¬ ((Utf8.decode s p).1 : Int) = 45 then
some (Sum.inr (false))
else some (Sum.inl (p + (Utf8.decode s p).2))
else some (Sum.inl (p + (Utf8.decode s p).2))
else some (Sum.inl (p + (Utf8.decode s p).2)))
(some (Sum.inr (true)))) 0
else none
else none
@[reducible] noncomputable def iFconfig_named : FnI := { ps := [⟨.str, false, false, false⟩], rs := [⟨.bool, false, false, false⟩], os := [], bk := [], F := fun x => Fconfig_named x }
noncomputable def cFconfig_named : Cx := { nm := [], keep := [], fns := tabF [], loops := [], joins := [], tb := tabs, exts := [], lets := [] }
theorem eFconfig_named : (fun s => Fconfig_named s) = fun s => rk Tryd.prog cFconfig_named (sq1 (Tryd.f31.body.getD .skip)) Bool 1000000 (fun e fr L => match e with
  | .normal => rk Tryd.prog cFconfig_named (sq1 (sq2 (Tryd.f31.body.getD .skip))) Bool 1000000 (fun e fr _ => match e with
    | .normal => loopB Tryd.prog cFconfig_named (sq2 (lpC (blkC (sq2 (sq1 (sq2 (sq2 (Tryd.f31.body.getD .skip)))))))) (sq2 (sq2 (sq2 (Tryd.f31.body.getD .skip)))) [2, 4, 24, 25, 26, 27, 28, 29, 30, 31, 32, 33, 34, 35, 36, 37, 38, 39, 40, 41, 42, 43, 44, 45] 0 (fr.set 23 (.str s)) s
    | .ret => finB fr
    | _ => none) fr L
  | _ => none) (.str s :: List.replicate (46 - 1) undefV) [] := by kernel_rfl
theorem okFconfig_named : CallsV Tryd.prog tabs 31 iFconfig_named :=
  callsV_str (cx := cFconfig_named) (cxOk TabOk.nil XtOk.nil) (fn := Tryd.f31) (r0 := (sq1 (Tryd.f31.body.getD .skip))) (pre := (sq1 (sq2 (Tryd.f31.body.getD .skip)))) (rest := (sq2 (lpC (blkC (sq2 (sq1 (sq2 (sq2 (Tryd.f31.body.getD .skip))))))))) (tail := (sq2 (sq2 (sq2 (Tryd.f31.body.getD .skip))))) (i3 := 3) (i4 := 4) (bid := 0) (n := 46) (o1 := opAt (sq1 (sq1 (sq2 (sq2 (Tryd.f31.body.getD .skip))))) 0) (o2 := opAt (sq1 (sq1 (sq2 (sq2 (Tryd.f31.body.getD .skip))))) 1) (o3 := opAt (sq1 (lpC (blkC (sq2 (sq1 (sq2 (sq2 (Tryd.f31.body.getD .skip)))))))) 0) (o4 := opAt (sq1 (lpC (blkC (sq2 (sq1 (sq2 (sq2 (Tryd.f31.body.getD .skip)))))))) 1) (t := 9) (W := [2, 4, 24, 25, 26, 27, 28, 29, 30, 31, 32, 33, 34, 35, 36, 37, 38, 39, 40, 41, 42, 43, 44, 45]) (F := Fconfig_named)
    Tryd.func31 (by kernel_rfl) (by kernel_rfl) rfl (by decide) (by kernel_rfl) ⟨by kernel_rfl, by kernel_rfl, by kernel_rfl⟩ ⟨by kernel_rfl, by kernel_rfl, by kernel_rfl⟩ (by kernel_rfl) ⟨by kernel_rfl, by kernel_rfl, by kernel_rfl⟩ ⟨by kernel_rfl, by kernel_rfl, by kernel_rfl⟩ (by kernel_rfl) (by kernel_rfl) (fun s => congrFun eFconfig_named s)
noncomputable def SFbeltwayref13_Digits (g : Int → Option ByteArray) (a0 : Int) : Option ByteArray :=
if a0 < 10 then
some (bstr ([IntKind.wrap .u8 (w64 ((48 : Int) + a0))] : List Int))
else if ¬ (10 : Int) = 0 then
Option.bind (g (w64 (Int.tdiv a0 10))) (fun r1 =>
if ¬ (10 : Int) = 0 then
Option.bind (g (Int.tmod a0 10)) (fun r2 =>
if r1.size + r2.size ≤ 9223372036854775807 then
some (r1 ++ r2)
else none)
else none)
else none
@[reducible] noncomputable def jFbeltwayref13_Digits (g : Int → Option ByteArray) : FnI := { ps := [⟨(.int .i64), false, false, false⟩], rs := [⟨.str, false, true, false⟩], os := [], bk := [], F := fun x => g x }
noncomputable def cFbeltwayref13_Digits (g : Int → Option ByteArray) : Cx := { nm := [(8, (0, 1))], keep := [], fns := tabF [(24, (jFbeltwayref13_Digits g))], loops := [], joins := [], tb := tabs, exts := [], lets := [] }
theorem eFbeltwayref13_Digits : (fun (g : Int → Option ByteArray) (x : HT (jFbeltwayref13_Digits g).ps) => SFbeltwayref13_Digits g x) = fun g x => rk Tryd.prog (cFbeltwayref13_Digits g) (Tryd.f24.body.getD .skip) (HT ((jFbeltwayref13_Digits g).rs ++ (jFbeltwayref13_Digits g).os)) 1000000 (finK Tryd.prog [.tmp 2] [] (jFbeltwayref13_Digits g).os ((jFbeltwayref13_Digits g).rs ++ (jFbeltwayref13_Digits g).os)) (initF (jFbeltwayref13_Digits g).ps (jFbeltwayref13_Digits g).sh x 17) (initL (jFbeltwayref13_Digits g).ps x 1) := by kernel_rfl
theorem sFbeltwayref13_Digits {g : Int → Option ByteArray} (h : CallsV Tryd.prog tabs 24 (jFbeltwayref13_Digits g)) : CallsV Tryd.prog tabs 24 (jFbeltwayref13_Digits (SFbeltwayref13_Digits g)) :=
  callsV_of_rk (cx := cFbeltwayref13_Digits g) (fn := Tryd.f24) (c := Tryd.f24.body.getD .skip) (n := 17) (N := 1) (rvs := [.tmp 2]) (cxOk (.cons h TabOk.nil) XtOk.nil) Tryd.func24 rfl (by kernel_rfl) rfl rfl (fun x => Nat.le_of_ble_eq_true rfl) ⟨rfl, rfl, rfl, rfl⟩ (fun x => congrFun (congrFun eFbeltwayref13_Digits g) x)
noncomputable def NFbeltwayref13_Digits : Nat → Int → Option ByteArray
  | 0 => fun _ => none
  | k + 1 => SFbeltwayref13_Digits (NFbeltwayref13_Digits k)
theorem nFbeltwayref13_Digits : ∀ k, CallsV Tryd.prog tabs 24 (jFbeltwayref13_Digits (NFbeltwayref13_Digits k))
  | 0 => ⟨calleeRuns_of Tryd.func24 rfl (by kernel_rfl), fun x r h => by cases h⟩
  | k + 1 => sFbeltwayref13_Digits (nFbeltwayref13_Digits k)
noncomputable def Fbeltwayref13_Digits (a0 : Int) : Option ByteArray := NFbeltwayref13_Digits 5 a0
@[reducible] noncomputable def iFbeltwayref13_Digits : FnI := { ps := [⟨(.int .i64), false, false, false⟩], rs := [⟨.str, false, true, false⟩], os := [], bk := [], F := fun x => Fbeltwayref13_Digits x }
theorem okFbeltwayref13_Digits : CallsV Tryd.prog tabs 24 iFbeltwayref13_Digits := nFbeltwayref13_Digits 5
noncomputable def Fnotation_reader_name (a0 : (ByteArray × Int)) (a1 : ByteArray) : Option (Bool × (ByteArray × Int) × ByteArray) :=
loopO (σ := (ByteArray × Int)) (β := (Bool × (ByteArray × Int) × ByteArray)) (fun s1 =>
if s1.2 < (s1.1.size : Int) then
if 0 ≤ s1.2 ∧ s1.2 < (s1.1.size : Int) then
if (sget s1.1 s1.2.toNat) < 97 then
if (sget s1.1 s1.2.toNat) < 48 then
if ¬ (sget s1.1 s1.2.toNat) = 45 then
Option.map Sum.inr (if Bd (some a0.2) (some s1.2) s1.2.toNat s1.1.size then
if ((s1.1.extract a0.2.toNat s1.2.toNat).size : Int) ≥ 1 then
some ((decide (((s1.1.extract a0.2.toNat s1.2.toNat).size : Int) ≤ 16), s1, s1.1.extract a0.2.toNat s1.2.toNat))
else some ((false, s1, s1.1.extract a0.2.toNat s1.2.toNat))
else none)
else some (Sum.inl ((s1.1, w64 (s1.2 + 1))))
else if (sget s1.1 s1.2.toNat) > 57 then
if ¬ (sget s1.1 s1.2.toNat) = 45 then
Option.map Sum.inr (if Bd (some a0.2) (some s1.2) s1.2.toNat s1.1.size then
if ((s1.1.extract a0.2.toNat s1.2.toNat).size : Int) ≥ 1 then
some ((decide (((s1.1.extract a0.2.toNat s1.2.toNat).size : Int) ≤ 16), s1, s1.1.extract a0.2.toNat s1.2.toNat))
else some ((false, s1, s1.1.extract a0.2.toNat s1.2.toNat))
else none)
else some (Sum.inl ((s1.1, w64 (s1.2 + 1))))
else some (Sum.inl ((s1.1, w64 (s1.2 + 1))))
else if (sget s1.1 s1.2.toNat) > 122 then
if (sget s1.1 s1.2.toNat) < 48 then
if ¬ (sget s1.1 s1.2.toNat) = 45 then
Option.map Sum.inr (if Bd (some a0.2) (some s1.2) s1.2.toNat s1.1.size then
if ((s1.1.extract a0.2.toNat s1.2.toNat).size : Int) ≥ 1 then
some ((decide (((s1.1.extract a0.2.toNat s1.2.toNat).size : Int) ≤ 16), s1, s1.1.extract a0.2.toNat s1.2.toNat))
else some ((false, s1, s1.1.extract a0.2.toNat s1.2.toNat))
else none)
else some (Sum.inl ((s1.1, w64 (s1.2 + 1))))
else if (sget s1.1 s1.2.toNat) > 57 then
if ¬ (sget s1.1 s1.2.toNat) = 45 then
Option.map Sum.inr (if Bd (some a0.2) (some s1.2) s1.2.toNat s1.1.size then
if ((s1.1.extract a0.2.toNat s1.2.toNat).size : Int) ≥ 1 then
some ((decide (((s1.1.extract a0.2.toNat s1.2.toNat).size : Int) ≤ 16), s1, s1.1.extract a0.2.toNat s1.2.toNat))
else some ((false, s1, s1.1.extract a0.2.toNat s1.2.toNat))
else none)
else some (Sum.inl ((s1.1, w64 (s1.2 + 1))))
else some (Sum.inl ((s1.1, w64 (s1.2 + 1))))
else some (Sum.inl ((s1.1, w64 (s1.2 + 1))))
else none
else Option.map Sum.inr (if Bd (some a0.2) (some s1.2) s1.2.toNat s1.1.size then
if ((s1.1.extract a0.2.toNat s1.2.toNat).size : Int) ≥ 1 then
some ((decide (((s1.1.extract a0.2.toNat s1.2.toNat).size : Int) ≤ 16), s1, s1.1.extract a0.2.toNat s1.2.toNat))
else some ((false, s1, s1.1.extract a0.2.toNat s1.2.toNat))
else none)) (a0)
@[reducible] noncomputable def iFnotation_reader_name : FnI := { ps := [⟨(.pair .str (.int .i64)), true, false, true⟩, ⟨.str, false, false, true⟩], rs := [⟨.bool, false, true, false⟩], os := [⟨(.pair .str (.int .i64)), true, false, true⟩, ⟨.str, false, false, true⟩], bk := [0, 1], F := fun x => Fnotation_reader_name x.1 x.2 }
noncomputable def cFnotation_reader_name : Cx := { nm := [], keep := [], fns := tabF [], loops := [(0, { live := [], boxes := [(0, ⟨(.pair .str (.int .i64)), true, false, false⟩)], rows := [], dead := [6, 11, 12, 13, 14, 15, 16, 17, 18, 19, 20, 21, 22, 23, 24, 25, 26, 27, 28, 29, 30, 31, 32, 33, 34, 35, 36, 37, 38, 39, 40, 41, 42, 43, 44, 45, 46, 47, 48, 49, 50, 51, 52, 53, 54], lost := [], base := 2 })], joins := [], tb := tabs, exts := [], lets := [] }
theorem eFnotation_reader_name : (fun x : HT iFnotation_reader_name.ps => iFnotation_reader_name.F x) = fun x => rk Tryd.prog cFnotation_reader_name (Tryd.f41.body.getD .skip) (HT (iFnotation_reader_name.rs ++ iFnotation_reader_name.os)) 1000000 (finK Tryd.prog [.tmp 4] [0, 1] iFnotation_reader_name.os (iFnotation_reader_name.rs ++ iFnotation_reader_name.os)) (initF iFnotation_reader_name.ps iFnotation_reader_name.sh x 79) (initL iFnotation_reader_name.ps x 0) := by kernel_rfl
theorem okFnotation_reader_name : CallsV Tryd.prog tabs 41 iFnotation_reader_name :=
  callsV_of_rk (cx := cFnotation_reader_name) (fn := Tryd.f41) (c := Tryd.f41.body.getD .skip) (n := 79) (N := 0) (rvs := [.tmp 4]) (cxOk TabOk.nil XtOk.nil) Tryd.func41 rfl (by kernel_rfl) rfl rfl (fun x => Nat.le_of_ble_eq_true rfl) (by decide) (fun x => congrFun eFnotation_reader_name x)
noncomputable def Finternal_stringslite_HasPrefix (a0 : ByteArray) (a1 : ByteArray) : Option Bool :=
if (a0.size : Int) ≥ (a1.size : Int) then
if Bd none (some (a1.size : Int)) ((a1.size : Int).toNat) a0.size then
some (decide ((a0.extract 0 ((a1.size : Int).toNat)) = a1))
else none
else some (false)
@[reducible] noncomputable def iFinternal_stringslite_HasPrefix : FnI := { ps := [⟨.str, false, false, false⟩, ⟨.str, false, false, false⟩], rs := [⟨.bool, false, true, false⟩], os := [], bk := [], F := fun x => Finternal_stringslite_HasPrefix x.1 x.2 }
noncomputable def cFinternal_stringslite_HasPrefix : Cx := { nm := [], keep := [], fns := tabF [], loops := [], joins := [], tb := tabs, exts := [], lets := [] }
theorem eFinternal_stringslite_HasPrefix : (fun x : HT iFinternal_stringslite_HasPrefix.ps => iFinternal_stringslite_HasPrefix.F x) = fun x => rk Tryd.prog cFinternal_stringslite_HasPrefix (Tryd.f59.body.getD .skip) (HT (iFinternal_stringslite_HasPrefix.rs ++ iFinternal_stringslite_HasPrefix.os)) 1000000 (finK Tryd.prog [.tmp 4] [] iFinternal_stringslite_HasPrefix.os (iFinternal_stringslite_HasPrefix.rs ++ iFinternal_stringslite_HasPrefix.os)) (initF iFinternal_stringslite_HasPrefix.ps iFinternal_stringslite_HasPrefix.sh x 18) (initL iFinternal_stringslite_HasPrefix.ps x 0) := by kernel_rfl
theorem okFinternal_stringslite_HasPrefix : CallsV Tryd.prog tabs 59 iFinternal_stringslite_HasPrefix :=
  callsV_of_rk (cx := cFinternal_stringslite_HasPrefix) (fn := Tryd.f59) (c := Tryd.f59.body.getD .skip) (n := 18) (N := 0) (rvs := [.tmp 4]) (cxOk TabOk.nil XtOk.nil) Tryd.func59 rfl (by kernel_rfl) rfl rfl (fun x => Nat.le_of_ble_eq_true rfl) (by decide) (fun x => congrFun eFinternal_stringslite_HasPrefix x)
noncomputable def Fstrings_HasPrefix (a0 : ByteArray) (a1 : ByteArray) : Option Bool :=
Option.bind (Finternal_stringslite_HasPrefix a0 a1) (fun r1 =>
some (r1))
@[reducible] noncomputable def iFstrings_HasPrefix : FnI := { ps := [⟨.str, false, false, false⟩, ⟨.str, false, false, false⟩], rs := [⟨.bool, false, true, false⟩], os := [], bk := [], F := fun x => Fstrings_HasPrefix x.1 x.2 }
noncomputable def cFstrings_HasPrefix : Cx := { nm := [], keep := [], fns := tabF [(59, iFinternal_stringslite_HasPrefix)], loops := [], joins := [], tb := tabs, exts := [], lets := [] }
theorem eFstrings_HasPrefix : (fun x : HT iFstrings_HasPrefix.ps => iFstrings_HasPrefix.F x) = fun x => rk Tryd.prog cFstrings_HasPrefix (Tryd.f50.body.getD .skip) (HT (iFstrings_HasPrefix.rs ++ iFstrings_HasPrefix.os)) 1000000 (finK Tryd.prog [.tmp 4] [] iFstrings_HasPrefix.os (iFstrings_HasPrefix.rs ++ iFstrings_HasPrefix.os)) (initF iFstrings_HasPrefix.ps iFstrings_HasPrefix.sh x 8) (initL iFstrings_HasPrefix.ps x 0) := by kernel_rfl
theorem okFstrings_HasPrefix : CallsV Tryd.prog tabs 50 iFstrings_HasPrefix :=
  callsV_of_rk (cx := cFstrings_HasPrefix) (fn := Tryd.f50) (c := Tryd.f50.body.getD .skip) (n := 8) (N := 0) (rvs := [.tmp 4]) (cxOk (.cons okFinternal_stringslite_HasPrefix TabOk.nil) XtOk.nil) Tryd.func50 rfl (by kernel_rfl) rfl rfl (fun x => Nat.le_of_ble_eq_true rfl) (by decide) (fun x => congrFun eFstrings_HasPrefix x)
noncomputable def Fnotation_reader_word (a0 : (ByteArray × Int)) (a1 : ByteArray) : Option (Bool × (ByteArray × Int)) :=
if Bd (some a0.2) none a0.1.size a0.1.size then
Option.bind (Fstrings_HasPrefix (a0.1.extract a0.2.toNat a0.1.size) a1) (fun r1 =>
if (!r1) = true then
some ((false, a0))
else some ((true, (a0.1, w64 (a0.2 + (a1.size : Int))))))
else none
@[reducible] noncomputable def iFnotation_reader_word : FnI := { ps := [⟨(.pair .str (.int .i64)), true, false, true⟩, ⟨.str, false, false, false⟩], rs := [⟨.bool, false, true, false⟩], os := [⟨(.pair .str (.int .i64)), true, false, true⟩], bk := [0], F := fun x => Fnotation_reader_word x.1 x.2 }
noncomputable def cFnotation_reader_word : Cx := { nm := [], keep := [], fns := tabF [(50, iFstrings_HasPrefix)], loops := [], joins := [], tb := tabs, exts := [], lets := [] }
theorem eFnotation_reader_word : (fun x : HT iFnotation_reader_word.ps => iFnotation_reader_word.F x) = fun x => rk Tryd.prog cFnotation_reader_word (Tryd.f42.body.getD .skip) (HT (iFnotation_reader_word.rs ++ iFnotation_reader_word.os)) 1000000 (finK Tryd.prog [.tmp 4] [0] iFnotation_reader_word.os (iFnotation_reader_word.rs ++ iFnotation_reader_word.os)) (initF iFnotation_reader_word.ps iFnotation_reader_word.sh x 26) (initL iFnotation_reader_word.ps x 0) := by kernel_rfl
theorem okFnotation_reader_word : CallsV Tryd.prog tabs 42 iFnotation_reader_word :=
  callsV_of_rk (cx := cFnotation_reader_word) (fn := Tryd.f42) (c := Tryd.f42.body.getD .skip) (n := 26) (N := 0) (rvs := [.tmp 4]) (cxOk (.cons okFstrings_HasPrefix TabOk.nil) XtOk.nil) Tryd.func42 rfl (by kernel_rfl) rfl rfl (fun x => Nat.le_of_ble_eq_true rfl) (by decide) (fun x => congrFun eFnotation_reader_word x)
noncomputable def Fnotation_reader_number (a0 : (ByteArray × Int)) (a1 : Int) : Option (Bool × (ByteArray × Int) × Int) :=
loopO (σ := (ByteArray × Int)) (β := (Bool × (ByteArray × Int) × Int)) (fun s1 =>
if s1.2 < (s1.1.size : Int) then
if 0 ≤ s1.2 ∧ s1.2 < (s1.1.size : Int) then
if (sget s1.1 s1.2.toNat) ≥ 48 then
if 0 ≤ s1.2 ∧ s1.2 < (s1.1.size : Int) then
if (sget s1.1 s1.2.toNat) ≤ 57 then
some (Sum.inl ((s1.1, w64 (s1.2 + 1))))
else Option.map Sum.inr (if Bd (some a0.2) (some s1.2) s1.2.toNat s1.1.size then
if ((s1.1.extract a0.2.toNat s1.2.toNat).size : Int) < 1 then
some ((false, s1, a1))
else if ((s1.1.extract a0.2.toNat s1.2.toNat).size : Int) > 4 then
some ((false, s1, a1))
else if ((s1.1.extract a0.2.toNat s1.2.toNat).size : Int) > 1 then
if 0 ≤ (0 : Int) ∧ (0 : Int) < ((s1.1.extract a0.2.toNat s1.2.toNat).size : Int) then
if (sget (s1.1.extract a0.2.toNat s1.2.toNat) ((0 : Int).toNat)) = 48 then
some ((false, s1, a1))
else Option.bind (Fatoi (s1.1.extract a0.2.toNat s1.2.toNat)) (fun r1 =>
some ((true, s1, r1.1)))
else none
else Option.bind (Fatoi (s1.1.extract a0.2.toNat s1.2.toNat)) (fun r2 =>
some ((true, s1, r2.1)))
else none)
else none
else Option.map Sum.inr (if Bd (some a0.2) (some s1.2) s1.2.toNat s1.1.size then
if ((s1.1.extract a0.2.toNat s1.2.toNat).size : Int) < 1 then
some ((false, s1, a1))
else if ((s1.1.extract a0.2.toNat s1.2.toNat).size : Int) > 4 then
some ((false, s1, a1))
else if ((s1.1.extract a0.2.toNat s1.2.toNat).size : Int) > 1 then
if 0 ≤ (0 : Int) ∧ (0 : Int) < ((s1.1.extract a0.2.toNat s1.2.toNat).size : Int) then
if (sget (s1.1.extract a0.2.toNat s1.2.toNat) ((0 : Int).toNat)) = 48 then
some ((false, s1, a1))
else Option.bind (Fatoi (s1.1.extract a0.2.toNat s1.2.toNat)) (fun r3 =>
some ((true, s1, r3.1)))
else none
else Option.bind (Fatoi (s1.1.extract a0.2.toNat s1.2.toNat)) (fun r4 =>
some ((true, s1, r4.1)))
else none)
else none
else Option.map Sum.inr (if Bd (some a0.2) (some s1.2) s1.2.toNat s1.1.size then
if ((s1.1.extract a0.2.toNat s1.2.toNat).size : Int) < 1 then
some ((false, s1, a1))
else if ((s1.1.extract a0.2.toNat s1.2.toNat).size : Int) > 4 then
some ((false, s1, a1))
else if ((s1.1.extract a0.2.toNat s1.2.toNat).size : Int) > 1 then
if 0 ≤ (0 : Int) ∧ (0 : Int) < ((s1.1.extract a0.2.toNat s1.2.toNat).size : Int) then
if (sget (s1.1.extract a0.2.toNat s1.2.toNat) ((0 : Int).toNat)) = 48 then
some ((false, s1, a1))
else Option.bind (Fatoi (s1.1.extract a0.2.toNat s1.2.toNat)) (fun r5 =>
some ((true, s1, r5.1)))
else none
else Option.bind (Fatoi (s1.1.extract a0.2.toNat s1.2.toNat)) (fun r6 =>
some ((true, s1, r6.1)))
else none)) (a0)
@[reducible] noncomputable def iFnotation_reader_number : FnI := { ps := [⟨(.pair .str (.int .i64)), true, false, true⟩, ⟨(.int .i64), false, false, true⟩], rs := [⟨.bool, false, true, false⟩], os := [⟨(.pair .str (.int .i64)), true, false, true⟩, ⟨(.int .i64), false, false, true⟩], bk := [0, 1], F := fun x => Fnotation_reader_number x.1 x.2 }
noncomputable def cFnotation_reader_number : Cx := { nm := [], keep := [], fns := tabF [(51, iFatoi)], loops := [(0, { live := [], boxes := [(0, ⟨(.pair .str (.int .i64)), true, false, false⟩)], rows := [], dead := [11, 12, 13, 14, 15, 16, 17, 18, 19, 20, 21, 22, 23, 24, 25, 26, 27, 28, 29, 30, 31, 32, 33, 34, 35, 36, 37, 38, 39, 40, 41, 42, 43, 44, 45, 46, 47, 48, 49, 50, 51], lost := [], base := 2 })], joins := [], tb := tabs, exts := [], lets := [] }
theorem eFnotation_reader_number : (fun x : HT iFnotation_reader_number.ps => iFnotation_reader_number.F x) = fun x => rk Tryd.prog cFnotation_reader_number (Tryd.f43.body.getD .skip) (HT (iFnotation_reader_number.rs ++ iFnotation_reader_number.os)) 1000000 (finK Tryd.prog [.tmp 4] [0, 1] iFnotation_reader_number.os (iFnotation_reader_number.rs ++ iFnotation_reader_number.os)) (initF iFnotation_reader_number.ps iFnotation_reader_number.sh x 87) (initL iFnotation_reader_number.ps x 0) := by kernel_rfl
theorem okFnotation_reader_number : CallsV Tryd.prog tabs 43 iFnotation_reader_number :=
  callsV_of_rk (cx := cFnotation_reader_number) (fn := Tryd.f43) (c := Tryd.f43.body.getD .skip) (n := 87) (N := 0) (rvs := [.tmp 4]) (cxOk (.cons okFatoi TabOk.nil) XtOk.nil) Tryd.func43 rfl (by kernel_rfl) rfl rfl (fun x => Nat.le_of_ble_eq_true rfl) (by decide) (fun x => congrFun eFnotation_reader_number x)
noncomputable def Fshare_Percent (a0 : Int) : Option (Nat × Int) :=
if a0 < 0 then
some ((0, 1))
else if a0 > 100 then
some ((0, 1))
else if (fArith .quo (fOfInt a0) 4636737291354636288).isSome = true then
some (((fArith .quo (fOfInt a0) 4636737291354636288).getD 0, 0))
else none
@[reducible] noncomputable def iFshare_Percent : FnI := { ps := [⟨(.int .i64), false, false, false⟩], rs := [⟨.flt, false, true, false⟩, ⟨(.int .i64), false, true, false⟩], os := [], bk := [], F := fun x => Fshare_Percent x }
noncomputable def cFshare_Percent : Cx := { nm := [], keep := [], fns := tabF [], loops := [], joins := [], tb := tabs, exts := [], lets := [] }
theorem eFshare_Percent : (fun x : HT iFshare_Percent.ps => iFshare_Percent.F x) = fun x => rk Tryd.prog cFshare_Percent (Tryd.f34.body.getD .skip) (HT (iFshare_Percent.rs ++ iFshare_Percent.os)) 1000000 (finK Tryd.prog [.tmp 2, .tmp 3] [] iFshare_Percent.os (iFshare_Percent.rs ++ iFshare_Percent.os)) (initF iFshare_Percent.ps iFshare_Percent.sh x 13) (initL iFshare_Percent.ps x 0) := by kernel_rfl
theorem okFshare_Percent : CallsV Tryd.prog tabs 34 iFshare_Percent :=
  callsV_of_rk (cx := cFshare_Percent) (fn := Tryd.f34) (c := Tryd.f34.body.getD .skip) (n := 13) (N := 0) (rvs := [.tmp 2, .tmp 3]) (cxOk TabOk.nil XtOk.nil) Tryd.func34 rfl (by kernel_rfl) rfl rfl (fun x => Nat.le_of_ble_eq_true rfl) (by decide) (fun x => congrFun eFshare_Percent x)
noncomputable def Fnotation_reader_part (a0 : (ByteArray × Int)) (a1 : Nat) : Option (Bool × (ByteArray × Int) × Nat) :=
Option.bind (Fnotation_reader_word a0 (⟨#[97, 108, 108]⟩ : ByteArray)) (fun r1 =>
if r1.1 = true then
some ((true, r1.2, a1))
else Option.bind (Fnotation_reader_number r1.2 0) (fun r2 =>
if (!r2.1) = true then
some ((false, r2.2.1, a1))
else Option.bind (Fnotation_reader_word r2.2.1 (⟨#[37]⟩ : ByteArray)) (fun r3 =>
if (!r3.1) = true then
some ((false, r3.2, a1))
else if r2.2.2 < 1 then
some ((false, r3.2, a1))
else if r2.2.2 > 100 then
some ((false, r3.2, a1))
else Option.bind (Fshare_Percent r2.2.2) (fun r4 =>
some ((true, r3.2, r4.1))))))
@[reducible] noncomputable def iFnotation_reader_part : FnI := { ps := [⟨(.pair .str (.int .i64)), true, false, true⟩, ⟨.flt, false, false, true⟩], rs := [⟨.bool, false, true, false⟩], os := [⟨(.pair .str (.int .i64)), true, false, true⟩, ⟨.flt, false, false, true⟩], bk := [0, 1], F := fun x => Fnotation_reader_part x.1 x.2 }
noncomputable def cFnotation_reader_part : Cx := { nm := [(5, (2, 1))], keep := [], fns := tabF [(34, iFshare_Percent), (42, iFnotation_reader_word), (43, iFnotation_reader_number)], loops := [], joins := [], tb := tabs, exts := [], lets := [] }
theorem eFnotation_reader_part : (fun x : HT iFnotation_reader_part.ps => iFnotation_reader_part.F x) = fun x => rk Tryd.prog cFnotation_reader_part (Tryd.f52.body.getD .skip) (HT (iFnotation_reader_part.rs ++ iFnotation_reader_part.os)) 1000000 (finK Tryd.prog [.tmp 4] [0, 1] iFnotation_reader_part.os (iFnotation_reader_part.rs ++ iFnotation_reader_part.os)) (initF iFnotation_reader_part.ps iFnotation_reader_part.sh x 31) (initL iFnotation_reader_part.ps x 1) := by kernel_rfl
theorem okFnotation_reader_part : CallsV Tryd.prog tabs 52 iFnotation_reader_part :=
  callsV_of_rk (cx := cFnotation_reader_part) (fn := Tryd.f52) (c := Tryd.f52.body.getD .skip) (n := 31) (N := 1) (rvs := [.tmp 4]) (cxOk (.cons okFshare_Percent (.cons okFnotation_reader_word (.cons okFnotation_reader_number TabOk.nil))) XtOk.nil) Tryd.func52 rfl (by kernel_rfl) rfl rfl (fun x => Nat.le_of_ble_eq_true rfl) (by decide) (fun x => congrFun eFnotation_reader_part x)
noncomputable def Fnotation_reader_rule (a0 : (ByteArray × Int)) (a1 : (Nat × Int × Int × Int)) : Option (Bool × (ByteArray × Int) × (Nat × Int × Int × Int)) :=
Option.bind (Fnotation_reader_part a0 a1.1) (fun r1 =>
if r1.1 = true then
Option.bind (Fnotation_reader_word r1.2.1 (⟨#[47]⟩ : ByteArray)) (fun r2 =>
if r2.1 = true then
Option.bind (Fnotation_reader_number r2.2 a1.2.1) (fun r3 =>
if r3.1 = true then
Option.bind (Fnotation_reader_word r3.2.1 (⟨#[47]⟩ : ByteArray)) (fun r4 =>
if r4.1 = true then
Option.bind (Fnotation_reader_number r4.2 a1.2.2.1) (fun r5 =>
if r5.1 = true then
Option.bind (Fnotation_reader_word r5.2.1 (⟨#[62]⟩ : ByteArray)) (fun r6 =>
if r6.1 = true then
Option.bind (Fnotation_reader_number r6.2 a1.2.2.2) (fun r7 =>
some ((r7.1, r7.2.1, (r1.2.2, r3.2.2, r5.2.2, r7.2.2))))
else some ((false, r6.2, (r1.2.2, r3.2.2, r5.2.2, a1.2.2.2))))
else some ((false, r5.2.1, (r1.2.2, r3.2.2, r5.2.2, a1.2.2.2))))
else some ((false, r4.2, (r1.2.2, r3.2.2, a1.2.2))))
else some ((false, r3.2.1, (r1.2.2, r3.2.2, a1.2.2))))
else some ((false, r2.2, (r1.2.2, a1.2))))
else some ((false, r1.2.1, (r1.2.2, a1.2))))
@[reducible] noncomputable def iFnotation_reader_rule : FnI := { ps := [⟨(.pair .str (.int .i64)), true, false, true⟩, ⟨(.pair .flt (.pair (.int .i64) (.pair (.int .i64) (.int .i64)))), true, false, true⟩], rs := [⟨.bool, false, true, false⟩], os := [⟨(.pair .str (.int .i64)), true, false, true⟩, ⟨(.pair .flt (.pair (.int .i64) (.pair (.int .i64) (.int .i64)))), true, false, true⟩], bk := [0, 1], F := fun x => Fnotation_reader_rule x.1 x.2 }
noncomputable def cFnotation_reader_rule : Cx := { nm := [(9, (2, 1)), (19, (3, 1)), (30, (4, 1)), (41, (5, 1))], keep := [], fns := tabF [(42, iFnotation_reader_word), (43, iFnotation_reader_number), (52, iFnotation_reader_part)], loops := [], joins := [], tb := tabs, exts := [], lets := [] }
theorem eFnotation_reader_rule : (fun x : HT iFnotation_reader_rule.ps => iFnotation_reader_rule.F x) = fun x => rk Tryd.prog cFnotation_reader_rule (Tryd.f44.body.getD .skip) (HT (iFnotation_reader_rule.rs ++ iFnotation_reader_rule.os)) 1000000 (finK Tryd.prog [.tmp 4] [0, 1] iFnotation_reader_rule.os (iFnotation_reader_rule.rs ++ iFnotation_reader_rule.os)) (initF iFnotation_reader_rule.ps iFnotation_reader_rule.sh x 43) (initL iFnotation_reader_rule.ps x 4) := by kernel_rfl
theorem okFnotation_reader_rule : CallsV Tryd.prog tabs 44 iFnotation_reader_rule :=
  callsV_of_rk (cx := cFnotation_reader_rule) (fn := Tryd.f44) (c := Tryd.f44.body.getD .skip) (n := 43) (N := 4) (rvs := [.tmp 4]) (cxOk (.cons okFnotation_reader_word (.cons okFnotation_reader_number (.cons okFnotation_reader_part TabOk.nil))) XtOk.nil) Tryd.func44 rfl (by kernel_rfl) rfl rfl (fun x => Nat.le_of_ble_eq_true rfl) (by decide) (fun x => congrFun eFnotation_reader_rule x)
noncomputable def Fnotation_reader_config (a0 : (ByteArray × Int)) (a1 : (ByteArray × (List (Nat × Int × Int × Int)) × Int)) : Option (Bool × (ByteArray × Int) × (ByteArray × (List (Nat × Int × Int × Int)) × Int)) :=
Option.bind (Fnotation_reader_name a0 a1.1) (fun r1 =>
if (!r1.1) = true then
some ((false, r1.2.1, (r1.2.2, a1.2)))
else Option.bind (Fnotation_reader_word r1.2.1 (⟨#[32, 102, 117, 108, 108, 32]⟩ : ByteArray)) (fun r2 =>
if (!r2.1) = true then
some ((false, r2.2, (r1.2.2, a1.2)))
else Option.bind (Fnotation_reader_number r2.2 a1.2.2) (fun r3 =>
if (!r3.1) = true then
some ((false, r3.2.1, (r1.2.2, a1.2.1, r3.2.2)))
else Option.bind (Fnotation_reader_word r3.2.1 (⟨#[58, 32]⟩ : ByteArray)) (fun r4 =>
if (!r4.1) = true then
some ((false, r4.2, (r1.2.2, a1.2.1, r3.2.2)))
else loopO (σ := ((ByteArray × Int) × (ByteArray × (List (Nat × Int × Int × Int)) × Int))) (β := (Bool × (ByteArray × Int) × (ByteArray × (List (Nat × Int × Int × Int)) × Int))) (fun s1 =>
Option.bind (Fnotation_reader_rule s1.1 (0, 0, 0, 0)) (fun r5 =>
if (!r5.1) = true then
some (Sum.inr ((false, r5.2.1, s1.2)))
else if (s1.2.2.1.length + ([r5.2.2] : List (Nat × Int × Int × Int)).length) * 32 ≤ 140737488355328 then
Option.bind (Fnotation_reader_word r5.2.1 (⟨#[44, 32]⟩ : ByteArray)) (fun r6 =>
if (!r6.1) = true then
some (Sum.inr ((decide (r6.2.2 = (r6.2.1.size : Int)), r6.2, (s1.2.1, s1.2.2.1 ++ ([r5.2.2] : List (Nat × Int × Int × Int)), s1.2.2.2))))
else some (Sum.inl ((r6.2, (s1.2.1, s1.2.2.1 ++ ([r5.2.2] : List (Nat × Int × Int × Int)), s1.2.2.2)))))
else none)) ((r4.2, (r1.2.2, a1.2.1, r3.2.2)))))))
@[reducible] noncomputable def iFnotation_reader_config : FnI := { ps := [⟨(.pair .str (.int .i64)), true, false, true⟩, ⟨(.pair .str (.pair (.slice (.pair .flt (.pair (.int .i64) (.pair (.int .i64) (.int .i64))))) (.int .i64))), true, true, true⟩], rs := [⟨.bool, false, true, false⟩], os := [⟨(.pair .str (.int .i64)), true, false, true⟩, ⟨(.pair .str (.pair (.slice (.pair .flt (.pair (.int .i64) (.pair (.int .i64) (.int .i64))))) (.int .i64))), true, true, true⟩], bk := [0, 1], F := fun x => Fnotation_reader_config x.1 x.2 }
noncomputable def cFnotation_reader_config : Cx := { nm := [(5, (5, 1)), (10, (3, 1)), (22, (4, 1)), (39, (6, 1)), (40, (7, 1))], keep := [40], fns := tabF [(41, iFnotation_reader_name), (42, iFnotation_reader_word), (43, iFnotation_reader_number), (44, iFnotation_reader_rule)], loops := [(0, { live := [], boxes := [(0, ⟨(.pair .str (.int .i64)), true, false, false⟩), (1, ⟨(.pair .str (.pair (.slice (.pair .flt (.pair (.int .i64) (.pair (.int .i64) (.int .i64))))) (.int .i64))), true, true, false⟩)], rows := [], dead := [4, 5, 30, 31, 32, 33, 34, 35, 36, 37, 38, 39, 40, 41, 42, 43, 44, 45, 46, 47, 48, 49, 50, 51, 52, 53, 54, 55], lost := [2], base := 8 })], joins := [], tb := tabs, exts := [], lets := [] }
theorem eFnotation_reader_config : (fun x : HT iFnotation_reader_config.ps => iFnotation_reader_config.F x) = fun x => rk Tryd.prog cFnotation_reader_config (Tryd.f26.body.getD .skip) (HT (iFnotation_reader_config.rs ++ iFnotation_reader_config.os)) 1000000 (finK Tryd.prog [.tmp 4] [0, 1] iFnotation_reader_config.os (iFnotation_reader_config.rs ++ iFnotation_reader_config.os)) (initF iFnotation_reader_config.ps iFnotation_reader_config.sh x 56) (initL iFnotation_reader_config.ps x 6) := by kernel_rfl
theorem okFnotation_reader_config : CallsV Tryd.prog tabs 26 iFnotation_reader_config :=
  callsV_of_rk (cx := cFnotation_reader_config) (fn := Tryd.f26) (c := Tryd.f26.body.getD .skip) (n := 56) (N := 6) (rvs := [.tmp 4]) (cxOk (.cons okFnotation_reader_name (.cons okFnotation_reader_word (.cons okFnotation_reader_number (.cons okFnotation_reader_rule TabOk.nil)))) XtOk.nil) Tryd.func26 rfl (by kernel_rfl) rfl rfl (fun x => Nat.le_of_ble_eq_true rfl) (by decide) (fun x => congrFun eFnotation_reader_config x)
noncomputable def Fshare_Valid (a0 : Nat) : Option Bool :=
if a0 < 18446744073709551616 then
if (BitVec.ofNat 64 a0) = (0#64) then
some (true)
else if fOrd a0 0 = some .gt then
some (decide (fOrd a0 4607182418800017408 = some .lt ∨ fOrd a0 4607182418800017408 = some .eq))
else some (false)
else none
@[reducible] noncomputable def iFshare_Valid : FnI := { ps := [⟨.flt, false, false, false⟩], rs := [⟨.bool, false, true, false⟩], os := [], bk := [], F := fun x => Fshare_Valid x }
noncomputable def cFshare_Valid : Cx := { nm := [], keep := [], fns := tabF [], loops := [], joins := [], tb := tabs, exts := [(30, .f64bits)], lets := [] }
theorem eFshare_Valid : (fun x : HT iFshare_Valid.ps => iFshare_Valid.F x) = fun x => rk Tryd.prog cFshare_Valid (Tryd.f45.body.getD .skip) (HT (iFshare_Valid.rs ++ iFshare_Valid.os)) 1000000 (finK Tryd.prog [.tmp 2] [] iFshare_Valid.os (iFshare_Valid.rs ++ iFshare_Valid.os)) (initF iFshare_Valid.ps iFshare_Valid.sh x 14) (initL iFshare_Valid.ps x 0) := by kernel_rfl
theorem xt30 : XtOk Tryd.prog 30 .f64bits := ⟨Tryd.f30, Tryd.func30, by kernel_rfl, by kernel_rfl, by kernel_rfl, by kernel_rfl⟩
theorem okFshare_Valid : CallsV Tryd.prog tabs 45 iFshare_Valid :=
  callsV_of_rk (cx := cFshare_Valid) (fn := Tryd.f45) (c := Tryd.f45.body.getD .skip) (n := 14) (N := 0) (rvs := [.tmp 2]) (cxOk TabOk.nil (.cons xt30 XtOk.nil)) Tryd.func45 rfl (by kernel_rfl) rfl rfl (fun x => Nat.le_of_ble_eq_true rfl) (by decide) (fun x => congrFun eFshare_Valid x)
noncomputable def Fconfig_count (a0 : Int) : Option Bool :=
if a0 ≥ 0 then
some (decide (a0 ≤ 64))
else some (false)
@[reducible] noncomputable def iFconfig_count : FnI := { ps := [⟨(.int .i64), false, false, false⟩], rs := [⟨.bool, false, true, false⟩], os := [], bk := [], F := fun x => Fconfig_count x }
noncomputable def cFconfig_count : Cx := { nm := [], keep := [], fns := tabF [], loops := [], joins := [], tb := tabs, exts := [], lets := [] }
theorem eFconfig_count : (fun x : HT iFconfig_count.ps => iFconfig_count.F x) = fun x => rk Tryd.prog cFconfig_count (Tryd.f46.body.getD .skip) (HT (iFconfig_count.rs ++ iFconfig_count.os)) 1000000 (finK Tryd.prog [.tmp 2] [] iFconfig_count.os (iFconfig_count.rs ++ iFconfig_count.os)) (initF iFconfig_count.ps iFconfig_count.sh x 9) (initL iFconfig_count.ps x 0) := by kernel_rfl
theorem okFconfig_count : CallsV Tryd.prog tabs 46 iFconfig_count :=
  callsV_of_rk (cx := cFconfig_count) (fn := Tryd.f46) (c := Tryd.f46.body.getD .skip) (n := 9) (N := 0) (rvs := [.tmp 2]) (cxOk TabOk.nil XtOk.nil) Tryd.func46 rfl (by kernel_rfl) rfl rfl (fun x => Nat.le_of_ble_eq_true rfl) (by decide) (fun x => congrFun eFconfig_count x)
noncomputable def Fconfig_rule (a0 : (ByteArray × (List (Nat × Int × Int × Int)) × Int)) (a1 : Int) : Option Int :=
if 0 ≤ a1 ∧ a1 < (a0.2.1.length : Int) then
Option.bind (Fshare_Valid ((gl ((0, 0, 0, 0) : (Nat × Int × Int × Int)) a0.2.1 a1.toNat).1)) (fun r1 =>
if (!r1) = true then
some (6)
else Option.bind (Fconfig_count (((gl ((0, 0, 0, 0) : (Nat × Int × Int × Int)) a0.2.1 a1.toNat).2).1)) (fun r2 =>
if (!r2) = true then
some (9)
else Option.bind (Fconfig_count ((((gl ((0, 0, 0, 0) : (Nat × Int × Int × Int)) a0.2.1 a1.toNat).2).2).1)) (fun r3 =>
if (!r3) = true then
some (9)
else if a1 = (w64 ((a0.2.1.length : Int) - 1)) then
if ¬ (((gl ((0, 0, 0, 0) : (Nat × Int × Int × Int)) a0.2.1 a1.toNat).2).1) = 0 then
some (9)
else if a1 = (w64 ((a0.2.1.length : Int) - 1)) then
if ¬ ((((gl ((0, 0, 0, 0) : (Nat × Int × Int × Int)) a0.2.1 a1.toNat).2).2).2) = a1 then
some (10)
else if a1 < (w64 ((a0.2.1.length : Int) - 1)) then
if ((((gl ((0, 0, 0, 0) : (Nat × Int × Int × Int)) a0.2.1 a1.toNat).2).2).2) ≤ a1 then
some (10)
else if ((((gl ((0, 0, 0, 0) : (Nat × Int × Int × Int)) a0.2.1 a1.toNat).2).2).2) > (w64 ((a0.2.1.length : Int) - 1)) then
some (10)
else some (0)
else some (0)
else if a1 < (w64 ((a0.2.1.length : Int) - 1)) then
if ((((gl ((0, 0, 0, 0) : (Nat × Int × Int × Int)) a0.2.1 a1.toNat).2).2).2) ≤ a1 then
some (10)
else if ((((gl ((0, 0, 0, 0) : (Nat × Int × Int × Int)) a0.2.1 a1.toNat).2).2).2) > (w64 ((a0.2.1.length : Int) - 1)) then
some (10)
else some (0)
else some (0)
else if a1 = (w64 ((a0.2.1.length : Int) - 1)) then
if ¬ ((((gl ((0, 0, 0, 0) : (Nat × Int × Int × Int)) a0.2.1 a1.toNat).2).2).2) = a1 then
some (10)
else if a1 < (w64 ((a0.2.1.length : Int) - 1)) then
if ((((gl ((0, 0, 0, 0) : (Nat × Int × Int × Int)) a0.2.1 a1.toNat).2).2).2) ≤ a1 then
some (10)
else if ((((gl ((0, 0, 0, 0) : (Nat × Int × Int × Int)) a0.2.1 a1.toNat).2).2).2) > (w64 ((a0.2.1.length : Int) - 1)) then
some (10)
else some (0)
else some (0)
else if a1 < (w64 ((a0.2.1.length : Int) - 1)) then
if ((((gl ((0, 0, 0, 0) : (Nat × Int × Int × Int)) a0.2.1 a1.toNat).2).2).2) ≤ a1 then
some (10)
else if ((((gl ((0, 0, 0, 0) : (Nat × Int × Int × Int)) a0.2.1 a1.toNat).2).2).2) > (w64 ((a0.2.1.length : Int) - 1)) then
some (10)
else some (0)
else some (0))))
else none
@[reducible] noncomputable def iFconfig_rule : FnI := { ps := [⟨(.pair .str (.pair (.slice (.pair .flt (.pair (.int .i64) (.pair (.int .i64) (.int .i64))))) (.int .i64))), true, false, false⟩, ⟨(.int .i64), false, false, false⟩], rs := [⟨(.int .i64), false, true, false⟩], os := [], bk := [], F := fun x => Fconfig_rule x.1 x.2 }
noncomputable def cFconfig_rule : Cx := { nm := [(2, (1, 1)), (5, (2, 1))], keep := [], fns := tabF [(45, iFshare_Valid), (46, iFconfig_count)], loops := [], joins := [], tb := tabs, exts := [], lets := [] }
theorem eFconfig_rule : (fun x : HT iFconfig_rule.ps => iFconfig_rule.F x) = fun x => rk Tryd.prog cFconfig_rule (Tryd.f32.body.getD .skip) (HT (iFconfig_rule.rs ++ iFconfig_rule.os)) 1000000 (finK Tryd.prog [.tmp 4] [] iFconfig_rule.os (iFconfig_rule.rs ++ iFconfig_rule.os)) (initF iFconfig_rule.ps iFconfig_rule.sh x 69) (initL iFconfig_rule.ps x 2) := by kernel_rfl
theorem okFconfig_rule : CallsV Tryd.prog tabs 32 iFconfig_rule :=
  callsV_of_rk (cx := cFconfig_rule) (fn := Tryd.f32) (c := Tryd.f32.body.getD .skip) (n := 69) (N := 2) (rvs := [.tmp 4]) (cxOk (.cons okFshare_Valid (.cons okFconfig_count TabOk.nil)) XtOk.nil) Tryd.func32 rfl (by kernel_rfl) rfl rfl (fun x => Nat.le_of_ble_eq_true rfl) (by decide) (fun x => congrFun eFconfig_rule x)
noncomputable def Fconfig_targeted (a0 : (ByteArray × (List (Nat × Int × Int × Int)) × Int)) (a1 : Int) : Option Bool :=
loopO (σ := Int) (β := Bool) (fun s1 =>
if s1 < (a0.2.1.length : Int) then
if 0 ≤ s1 ∧ s1 < (a0.2.1.length : Int) then
if ¬ s1 = a1 then
if ((((gl ((0, 0, 0, 0) : (Nat × Int × Int × Int)) a0.2.1 s1.toNat).2).2).2) = a1 then
some (Sum.inr (true))
else some (Sum.inl (w64 (s1 + 1)))
else some (Sum.inl (w64 (s1 + 1)))
else none
else some (Sum.inr (false))) (0)
@[reducible] noncomputable def iFconfig_targeted : FnI := { ps := [⟨(.pair .str (.pair (.slice (.pair .flt (.pair (.int .i64) (.pair (.int .i64) (.int .i64))))) (.int .i64))), true, false, false⟩, ⟨(.int .i64), false, false, false⟩], rs := [⟨.bool, false, true, false⟩], os := [], bk := [], F := fun x => Fconfig_targeted x.1 x.2 }
noncomputable def cFconfig_targeted : Cx := { nm := [(2, (1, 1)), (6, (2, 1))], keep := [], fns := tabF [], loops := [(0, { live := [(10, ⟨(.int .i64), false, false, false⟩)], boxes := [], rows := [], dead := [4, 5, 6, 11, 12, 13, 14, 15, 16, 17, 18, 19, 20, 21, 22, 23, 24], lost := [], base := 2 })], joins := [], tb := tabs, exts := [], lets := [] }
theorem eFconfig_targeted : (fun x : HT iFconfig_targeted.ps => iFconfig_targeted.F x) = fun x => rk Tryd.prog cFconfig_targeted (Tryd.f33.body.getD .skip) (HT (iFconfig_targeted.rs ++ iFconfig_targeted.os)) 1000000 (finK Tryd.prog [.tmp 4] [] iFconfig_targeted.os (iFconfig_targeted.rs ++ iFconfig_targeted.os)) (initF iFconfig_targeted.ps iFconfig_targeted.sh x 25) (initL iFconfig_targeted.ps x 2) := by kernel_rfl
theorem okFconfig_targeted : CallsV Tryd.prog tabs 33 iFconfig_targeted :=
  callsV_of_rk (cx := cFconfig_targeted) (fn := Tryd.f33) (c := Tryd.f33.body.getD .skip) (n := 25) (N := 2) (rvs := [.tmp 4]) (cxOk TabOk.nil XtOk.nil) Tryd.func33 rfl (by kernel_rfl) rfl rfl (fun x => Nat.le_of_ble_eq_true rfl) (by decide) (fun x => congrFun eFconfig_targeted x)
noncomputable def Fconfig_Check (a0 : (ByteArray × (List (Nat × Int × Int × Int)) × Int)) : Option Int :=
Option.bind (Fconfig_named a0.1) (fun r1 =>
if (!r1) = true then
some (7)
else if (a0.2.1.length : Int) < 1 then
some (8)
else if (a0.2.1.length : Int) > 4 then
some (8)
else loopO (σ := Int) (β := Int) (fun s1 =>
if s1 < (a0.2.1.length : Int) then
Option.bind (Fconfig_rule a0 s1) (fun r2 =>
if ¬ r2 = 0 then
some (Sum.inr (r2))
else some (Sum.inl (w64 (s1 + 1))))
else Option.map Sum.inr (loopO (σ := Int) (β := Int) (fun s2 =>
if s2 < (a0.2.1.length : Int) then
Option.bind (Fconfig_targeted a0 s2) (fun r3 =>
if (!r3) = true then
some (Sum.inr (10))
else some (Sum.inl (w64 (s2 + 1))))
else Option.map Sum.inr (if 0 ≤ (w64 ((a0.2.1.length : Int) - 1)) ∧ (w64 ((a0.2.1.length : Int) - 1)) < (a0.2.1.length : Int) then
if fOrd ((gl ((0, 0, 0, 0) : (Nat × Int × Int × Int)) a0.2.1 ((w64 ((a0.2.1.length : Int) - 1)).toNat)).1) 0 = some .eq then
if a0.2.2 < 1 then
some (9)
else if a0.2.2 > 64 then
if a0.2.2 > 64 then
some (9)
else some (0)
else if ¬ (fOrd ((gl ((0, 0, 0, 0) : (Nat × Int × Int × Int)) a0.2.1 ((w64 ((a0.2.1.length : Int) - 1)).toNat)).1) 0 = some .eq) then
if ¬ a0.2.2 = 0 then
some (9)
else some (0)
else some (0)
else if ¬ (fOrd ((gl ((0, 0, 0, 0) : (Nat × Int × Int × Int)) a0.2.1 ((w64 ((a0.2.1.length : Int) - 1)).toNat)).1) 0 = some .eq) then
if ¬ a0.2.2 = 0 then
some (9)
else some (0)
else some (0)
else none)) (1))) (0))
@[reducible] noncomputable def iFconfig_Check : FnI := { ps := [⟨(.pair .str (.pair (.slice (.pair .flt (.pair (.int .i64) (.pair (.int .i64) (.int .i64))))) (.int .i64))), true, false, false⟩], rs := [⟨(.int .i64), false, true, false⟩], os := [], bk := [], F := fun x => Fconfig_Check x }
noncomputable def cFconfig_Check : Cx := { nm := [(1, (1, 1))], keep := [], fns := tabF [(31, iFconfig_named), (32, iFconfig_rule), (33, iFconfig_targeted)], loops := [(1, { live := [(26, ⟨(.int .i64), false, false, false⟩)], boxes := [], rows := [], dead := [2, 3, 4, 27, 28, 29, 30, 31, 32, 33, 34, 35], lost := [], base := 2 }), (3, { live := [(5, ⟨(.int .i64), false, false, false⟩)], boxes := [], rows := [], dead := [2, 36, 37, 38, 39, 40, 41, 42, 43, 44, 45, 46], lost := [], base := 2 })], joins := [], tb := tabs, exts := [], lets := [] }
theorem eFconfig_Check : (fun x : HT iFconfig_Check.ps => iFconfig_Check.F x) = fun x => rk Tryd.prog cFconfig_Check (Tryd.f19.body.getD .skip) (HT (iFconfig_Check.rs ++ iFconfig_Check.os)) 1000000 (finK Tryd.prog [.tmp 2] [] iFconfig_Check.os (iFconfig_Check.rs ++ iFconfig_Check.os)) (initF iFconfig_Check.ps iFconfig_Check.sh x 76) (initL iFconfig_Check.ps x 1) := by kernel_rfl
theorem okFconfig_Check : CallsV Tryd.prog tabs 19 iFconfig_Check :=
  callsV_of_rk (cx := cFconfig_Check) (fn := Tryd.f19) (c := Tryd.f19.body.getD .skip) (n := 76) (N := 1) (rvs := [.tmp 2]) (cxOk (.cons okFconfig_named (.cons okFconfig_rule (.cons okFconfig_targeted TabOk.nil))) XtOk.nil) Tryd.func19 rfl (by kernel_rfl) rfl rfl (fun x => Nat.le_of_ble_eq_true rfl) (by decide) (fun x => congrFun eFconfig_Check x)
noncomputable def Fnotation_Parse (a0 : ByteArray) : Option ((ByteArray × (List (Nat × Int × Int × Int)) × Int) × Int) :=
if (a0.size : Int) > 1024 then
some ((((⟨#[]⟩ : ByteArray), [], 0), 9))
else Option.bind (Fnotation_reader_config (a0, 0) ((⟨#[]⟩ : ByteArray), [], 0)) (fun r1 =>
if (!r1.1) = true then
some ((((⟨#[]⟩ : ByteArray), [], 0), 11))
else Option.bind (Fconfig_Check r1.2.2) (fun r2 =>
if ¬ r2 = 0 then
some ((((⟨#[]⟩ : ByteArray), [], 0), r2))
else some ((r1.2.2, 0))))
@[reducible] noncomputable def iFnotation_Parse : FnI := { ps := [⟨.str, false, false, false⟩], rs := [⟨(.pair .str (.pair (.slice (.pair .flt (.pair (.int .i64) (.pair (.int .i64) (.int .i64))))) (.int .i64))), true, true, false⟩, ⟨(.int .i64), false, true, false⟩], os := [], bk := [], F := fun x => Fnotation_Parse x }
noncomputable def cFnotation_Parse : Cx := { nm := [(2, (0, 1)), (4, (1, 1)), (13, (2, 1)), (15, (3, 1))], keep := [], fns := tabF [(19, iFconfig_Check), (26, iFnotation_reader_config)], loops := [], joins := [], tb := tabs, exts := [], lets := [] }
theorem eFnotation_Parse : (fun x : HT iFnotation_Parse.ps => iFnotation_Parse.F x) = fun x => rk Tryd.prog cFnotation_Parse (Tryd.f12.body.getD .skip) (HT (iFnotation_Parse.rs ++ iFnotation_Parse.os)) 1000000 (finK Tryd.prog [.cell 2 24, .tmp 3] [] iFnotation_Parse.os (iFnotation_Parse.rs ++ iFnotation_Parse.os)) (initF iFnotation_Parse.ps iFnotation_Parse.sh x 25) (initL iFnotation_Parse.ps x 4) := by kernel_rfl
theorem okFnotation_Parse : CallsV Tryd.prog tabs 12 iFnotation_Parse :=
  callsV_of_rk (cx := cFnotation_Parse) (fn := Tryd.f12) (c := Tryd.f12.body.getD .skip) (n := 25) (N := 4) (rvs := [.cell 2 24, .tmp 3]) (cxOk (.cons okFconfig_Check (.cons okFnotation_reader_config TabOk.nil)) XtOk.nil) Tryd.func12 rfl (by kernel_rfl) rfl rfl (fun x => Nat.le_of_ble_eq_true rfl) (by decide) (fun x => congrFun eFnotation_Parse x)
noncomputable def Fbeltwayref13_reader_take (a0 : (ByteArray × Bool)) (a1 : ByteArray) : Option (ByteArray × Bool) :=
if (a0.1.size : Int) < (a1.size : Int) then
some ((a0.1, true))
else if Bd none (some (a1.size : Int)) ((a1.size : Int).toNat) a0.1.size then
if ¬ (a0.1.extract 0 ((a1.size : Int).toNat)) = a1 then
some ((a0.1, true))
else if Bd (some (a1.size : Int)) none a0.1.size a0.1.size then
some ((a0.1.extract ((a1.size : Int).toNat) a0.1.size, a0.2))
else none
else none
@[reducible] noncomputable def iFbeltwayref13_reader_take : FnI := { ps := [⟨(.pair .str .bool), true, false, true⟩, ⟨.str, false, false, false⟩], rs := [], os := [⟨(.pair .str .bool), true, false, true⟩], bk := [0], F := fun x => Fbeltwayref13_reader_take x.1 x.2 }
noncomputable def cFbeltwayref13_reader_take : Cx := { nm := [], keep := [], fns := tabF [], loops := [], joins := [], tb := tabs, exts := [], lets := [] }
theorem eFbeltwayref13_reader_take : (fun x : HT iFbeltwayref13_reader_take.ps => iFbeltwayref13_reader_take.F x) = fun x => rk Tryd.prog cFbeltwayref13_reader_take (Tryd.f27.body.getD .skip) (HT (iFbeltwayref13_reader_take.rs ++ iFbeltwayref13_reader_take.os)) 1000000 (finK Tryd.prog [] [0] iFbeltwayref13_reader_take.os (iFbeltwayref13_reader_take.rs ++ iFbeltwayref13_reader_take.os)) (initF iFbeltwayref13_reader_take.ps iFbeltwayref13_reader_take.sh x 36) (initL iFbeltwayref13_reader_take.ps x 0) := by kernel_rfl
theorem okFbeltwayref13_reader_take : CallsV Tryd.prog tabs 27 iFbeltwayref13_reader_take :=
  callsV_of_rk (cx := cFbeltwayref13_reader_take) (fn := Tryd.f27) (c := Tryd.f27.body.getD .skip) (n := 36) (N := 0) (rvs := []) (cxOk TabOk.nil XtOk.nil) Tryd.func27 rfl (by kernel_rfl) rfl rfl (fun x => Nat.le_of_ble_eq_true rfl) (by decide) (fun x => congrFun eFbeltwayref13_reader_take x)
noncomputable def Fbeltwayref13_reader_number (a0 : (ByteArray × Bool)) : Option (Int × (ByteArray × Bool)) :=
loopO (σ := Int) (β := (Int × (ByteArray × Bool))) (fun s1 =>
if s1 < (a0.1.size : Int) then
if 0 ≤ s1 ∧ s1 < (a0.1.size : Int) then
if (sget a0.1 s1.toNat) ≥ 48 then
if 0 ≤ s1 ∧ s1 < (a0.1.size : Int) then
if (sget a0.1 s1.toNat) ≤ 57 then
some (Sum.inl (w64 (s1 + 1)))
else Option.map Sum.inr (if s1 = 0 then
some ((0, (a0.1, true)))
else if s1 > 4 then
some ((0, (a0.1, true)))
else if s1 > 1 then
if 0 ≤ (0 : Int) ∧ (0 : Int) < (a0.1.size : Int) then
if (sget a0.1 ((0 : Int).toNat)) = 48 then
some ((0, (a0.1, true)))
else if Bd none (some s1) s1.toNat a0.1.size then
loopO (σ := (Int × Int)) (β := (Int × (ByteArray × Bool))) (fun s2 =>
if s2.2 < ((sbytes (a0.1.extract 0 s1.toNat)).length : Int) then
if 0 ≤ s2.2 ∧ s2.2 < ((sbytes (a0.1.extract 0 s1.toNat)).length : Int) then
some (Sum.inl ((w64 ((w64 (s2.1 * 10)) + (w64 (IntKind.wrap .u8 ((gl (0 : Int) (sbytes (a0.1.extract 0 s1.toNat)) s2.2.toNat) - 48)))), w64 (s2.2 + 1))))
else none
else Option.map Sum.inr (if Bd (some s1) none a0.1.size a0.1.size then
some ((s2.1, (a0.1.extract s1.toNat a0.1.size, a0.2)))
else none)) ((0, 0))
else none
else none
else if Bd none (some s1) s1.toNat a0.1.size then
loopO (σ := (Int × Int)) (β := (Int × (ByteArray × Bool))) (fun s3 =>
if s3.2 < ((sbytes (a0.1.extract 0 s1.toNat)).length : Int) then
if 0 ≤ s3.2 ∧ s3.2 < ((sbytes (a0.1.extract 0 s1.toNat)).length : Int) then
some (Sum.inl ((w64 ((w64 (s3.1 * 10)) + (w64 (IntKind.wrap .u8 ((gl (0 : Int) (sbytes (a0.1.extract 0 s1.toNat)) s3.2.toNat) - 48)))), w64 (s3.2 + 1))))
else none
else Option.map Sum.inr (if Bd (some s1) none a0.1.size a0.1.size then
some ((s3.1, (a0.1.extract s1.toNat a0.1.size, a0.2)))
else none)) ((0, 0))
else none)
else none
else Option.map Sum.inr (if s1 = 0 then
some ((0, (a0.1, true)))
else if s1 > 4 then
some ((0, (a0.1, true)))
else if s1 > 1 then
if 0 ≤ (0 : Int) ∧ (0 : Int) < (a0.1.size : Int) then
if (sget a0.1 ((0 : Int).toNat)) = 48 then
some ((0, (a0.1, true)))
else if Bd none (some s1) s1.toNat a0.1.size then
loopO (σ := (Int × Int)) (β := (Int × (ByteArray × Bool))) (fun s4 =>
if s4.2 < ((sbytes (a0.1.extract 0 s1.toNat)).length : Int) then
if 0 ≤ s4.2 ∧ s4.2 < ((sbytes (a0.1.extract 0 s1.toNat)).length : Int) then
some (Sum.inl ((w64 ((w64 (s4.1 * 10)) + (w64 (IntKind.wrap .u8 ((gl (0 : Int) (sbytes (a0.1.extract 0 s1.toNat)) s4.2.toNat) - 48)))), w64 (s4.2 + 1))))
else none
else Option.map Sum.inr (if Bd (some s1) none a0.1.size a0.1.size then
some ((s4.1, (a0.1.extract s1.toNat a0.1.size, a0.2)))
else none)) ((0, 0))
else none
else none
else if Bd none (some s1) s1.toNat a0.1.size then
loopO (σ := (Int × Int)) (β := (Int × (ByteArray × Bool))) (fun s5 =>
if s5.2 < ((sbytes (a0.1.extract 0 s1.toNat)).length : Int) then
if 0 ≤ s5.2 ∧ s5.2 < ((sbytes (a0.1.extract 0 s1.toNat)).length : Int) then
some (Sum.inl ((w64 ((w64 (s5.1 * 10)) + (w64 (IntKind.wrap .u8 ((gl (0 : Int) (sbytes (a0.1.extract 0 s1.toNat)) s5.2.toNat) - 48)))), w64 (s5.2 + 1))))
else none
else Option.map Sum.inr (if Bd (some s1) none a0.1.size a0.1.size then
some ((s5.1, (a0.1.extract s1.toNat a0.1.size, a0.2)))
else none)) ((0, 0))
else none)
else none
else Option.map Sum.inr (if s1 = 0 then
some ((0, (a0.1, true)))
else if s1 > 4 then
some ((0, (a0.1, true)))
else if s1 > 1 then
if 0 ≤ (0 : Int) ∧ (0 : Int) < (a0.1.size : Int) then
if (sget a0.1 ((0 : Int).toNat)) = 48 then
some ((0, (a0.1, true)))
else if Bd none (some s1) s1.toNat a0.1.size then
loopO (σ := (Int × Int)) (β := (Int × (ByteArray × Bool))) (fun s6 =>
if s6.2 < ((sbytes (a0.1.extract 0 s1.toNat)).length : Int) then
if 0 ≤ s6.2 ∧ s6.2 < ((sbytes (a0.1.extract 0 s1.toNat)).length : Int) then
some (Sum.inl ((w64 ((w64 (s6.1 * 10)) + (w64 (IntKind.wrap .u8 ((gl (0 : Int) (sbytes (a0.1.extract 0 s1.toNat)) s6.2.toNat) - 48)))), w64 (s6.2 + 1))))
else none
else Option.map Sum.inr (if Bd (some s1) none a0.1.size a0.1.size then
some ((s6.1, (a0.1.extract s1.toNat a0.1.size, a0.2)))
else none)) ((0, 0))
else none
else none
else if Bd none (some s1) s1.toNat a0.1.size then
loopO (σ := (Int × Int)) (β := (Int × (ByteArray × Bool))) (fun s7 =>
if s7.2 < ((sbytes (a0.1.extract 0 s1.toNat)).length : Int) then
if 0 ≤ s7.2 ∧ s7.2 < ((sbytes (a0.1.extract 0 s1.toNat)).length : Int) then
some (Sum.inl ((w64 ((w64 (s7.1 * 10)) + (w64 (IntKind.wrap .u8 ((gl (0 : Int) (sbytes (a0.1.extract 0 s1.toNat)) s7.2.toNat) - 48)))), w64 (s7.2 + 1))))
else none
else Option.map Sum.inr (if Bd (some s1) none a0.1.size a0.1.size then
some ((s7.1, (a0.1.extract s1.toNat a0.1.size, a0.2)))
else none)) ((0, 0))
else none)) (0)
@[reducible] noncomputable def iFbeltwayref13_reader_number : FnI := { ps := [⟨(.pair .str .bool), true, false, true⟩], rs := [⟨(.int .i64), false, true, false⟩], os := [⟨(.pair .str .bool), true, false, true⟩], bk := [0], F := fun x => Fbeltwayref13_reader_number x }
noncomputable def cFbeltwayref13_reader_number : Cx := { nm := [(61, (1, 1))], keep := [], fns := tabF [], loops := [(0, { live := [(3, ⟨(.int .i64), false, false, false⟩)], boxes := [], rows := [], dead := [7, 8, 9, 10, 11, 12, 13, 14, 15, 16, 17, 18, 19, 20, 21, 22, 23, 24, 25, 26, 27, 28, 29, 30, 31, 32, 33], lost := [], base := 1 }), (2, { live := [(4, ⟨(.int .i64), false, false, false⟩), (63, ⟨(.int .i64), false, false, false⟩)], boxes := [], rows := [], dead := [6, 64, 65, 66, 67, 68, 69, 70, 71, 72, 73], lost := [], base := 2 })], joins := [], tb := tabs, exts := [], lets := [] }
theorem eFbeltwayref13_reader_number : (fun x : HT iFbeltwayref13_reader_number.ps => iFbeltwayref13_reader_number.F x) = fun x => rk Tryd.prog cFbeltwayref13_reader_number (Tryd.f28.body.getD .skip) (HT (iFbeltwayref13_reader_number.rs ++ iFbeltwayref13_reader_number.os)) 1000000 (finK Tryd.prog [.tmp 2] [0] iFbeltwayref13_reader_number.os (iFbeltwayref13_reader_number.rs ++ iFbeltwayref13_reader_number.os)) (initF iFbeltwayref13_reader_number.ps iFbeltwayref13_reader_number.sh x 84) (initL iFbeltwayref13_reader_number.ps x 1) := by kernel_rfl
theorem okFbeltwayref13_reader_number : CallsV Tryd.prog tabs 28 iFbeltwayref13_reader_number :=
  callsV_of_rk (cx := cFbeltwayref13_reader_number) (fn := Tryd.f28) (c := Tryd.f28.body.getD .skip) (n := 84) (N := 1) (rvs := [.tmp 2]) (cxOk TabOk.nil XtOk.nil) Tryd.func28 rfl (by kernel_rfl) rfl rfl (fun x => Nat.le_of_ble_eq_true rfl) (by decide) (fun x => congrFun eFbeltwayref13_reader_number x)
noncomputable def Fbeltwayref06_Percent (a0 : Int) : Option (Nat × Int) :=
if a0 < 0 then
some ((0, 1))
else if a0 > 100 then
some ((0, 1))
else if (fArith .quo (fOfInt a0) 4636737291354636288).isSome = true then
some (((fArith .quo (fOfInt a0) 4636737291354636288).getD 0, 0))
else none
@[reducible] noncomputable def iFbeltwayref06_Percent : FnI := { ps := [⟨(.int .i64), false, false, false⟩], rs := [⟨.flt, false, true, false⟩, ⟨(.int .i64), false, true, false⟩], os := [], bk := [], F := fun x => Fbeltwayref06_Percent x }
noncomputable def cFbeltwayref06_Percent : Cx := { nm := [], keep := [], fns := tabF [], loops := [], joins := [], tb := tabs, exts := [], lets := [] }
theorem eFbeltwayref06_Percent : (fun x : HT iFbeltwayref06_Percent.ps => iFbeltwayref06_Percent.F x) = fun x => rk Tryd.prog cFbeltwayref06_Percent (Tryd.f29.body.getD .skip) (HT (iFbeltwayref06_Percent.rs ++ iFbeltwayref06_Percent.os)) 1000000 (finK Tryd.prog [.tmp 2, .tmp 3] [] iFbeltwayref06_Percent.os (iFbeltwayref06_Percent.rs ++ iFbeltwayref06_Percent.os)) (initF iFbeltwayref06_Percent.ps iFbeltwayref06_Percent.sh x 13) (initL iFbeltwayref06_Percent.ps x 0) := by kernel_rfl
theorem okFbeltwayref06_Percent : CallsV Tryd.prog tabs 29 iFbeltwayref06_Percent :=
  callsV_of_rk (cx := cFbeltwayref06_Percent) (fn := Tryd.f29) (c := Tryd.f29.body.getD .skip) (n := 13) (N := 0) (rvs := [.tmp 2, .tmp 3]) (cxOk TabOk.nil XtOk.nil) Tryd.func29 rfl (by kernel_rfl) rfl rfl (fun x => Nat.le_of_ble_eq_true rfl) (by decide) (fun x => congrFun eFbeltwayref06_Percent x)
noncomputable def Fbeltwayref12_Named (a0 : ByteArray) : Option Bool :=
loopO (σ := Int) (β := Bool) (fun s1 =>
if s1 < (a0.size : Int) then
if 0 ≤ s1 ∧ s1 < (a0.size : Int) then
if (sget a0 s1.toNat) ≥ 97 then
if ¬ ((sget a0 s1.toNat) ≤ 122) then
if s1 = 0 then
some (Sum.inr (false))
else if ¬ (sget a0 s1.toNat) = 45 then
if (sget a0 s1.toNat) < 48 then
some (Sum.inr (false))
else if (sget a0 s1.toNat) > 57 then
some (Sum.inr (false))
else some (Sum.inl (w64 (s1 + 1)))
else some (Sum.inl (w64 (s1 + 1)))
else some (Sum.inl (w64 (s1 + 1)))
else if s1 = 0 then
some (Sum.inr (false))
else if ¬ (sget a0 s1.toNat) = 45 then
if (sget a0 s1.toNat) < 48 then
some (Sum.inr (false))
else if (sget a0 s1.toNat) > 57 then
some (Sum.inr (false))
else some (Sum.inl (w64 (s1 + 1)))
else some (Sum.inl (w64 (s1 + 1)))
else none
else Option.map Sum.inr (if (a0.size : Int) ≥ 1 then
some (decide ((a0.size : Int) ≤ 16))
else some (false))) (0)
@[reducible] noncomputable def iFbeltwayref12_Named : FnI := { ps := [⟨.str, false, false, false⟩], rs := [⟨.bool, false, true, false⟩], os := [], bk := [], F := fun x => Fbeltwayref12_Named x }
noncomputable def cFbeltwayref12_Named : Cx := { nm := [], keep := [], fns := tabF [], loops := [(0, { live := [(3, ⟨(.int .i64), false, false, false⟩)], boxes := [], rows := [], dead := [2, 4, 5, 6, 7, 8, 9, 10, 11, 12, 13, 14, 15, 16, 17, 18, 19, 20, 21, 22, 23, 24, 25, 26, 27, 28, 29, 30, 31, 32, 33, 34, 35, 36, 37, 38], lost := [], base := 0 })], joins := [], tb := tabs, exts := [], lets := [] }
theorem eFbeltwayref12_Named : (fun x : HT iFbeltwayref12_Named.ps => iFbeltwayref12_Named.F x) = fun x => rk Tryd.prog cFbeltwayref12_Named (Tryd.f39.body.getD .skip) (HT (iFbeltwayref12_Named.rs ++ iFbeltwayref12_Named.os)) 1000000 (finK Tryd.prog [.tmp 2] [] iFbeltwayref12_Named.os (iFbeltwayref12_Named.rs ++ iFbeltwayref12_Named.os)) (initF iFbeltwayref12_Named.ps iFbeltwayref12_Named.sh x 47) (initL iFbeltwayref12_Named.ps x 0) := by kernel_rfl
theorem okFbeltwayref12_Named : CallsV Tryd.prog tabs 39 iFbeltwayref12_Named :=
  callsV_of_rk (cx := cFbeltwayref12_Named) (fn := Tryd.f39) (c := Tryd.f39.body.getD .skip) (n := 47) (N := 0) (rvs := [.tmp 2]) (cxOk TabOk.nil XtOk.nil) Tryd.func39 rfl (by kernel_rfl) rfl rfl (fun x => Nat.le_of_ble_eq_true rfl) (by decide) (fun x => congrFun eFbeltwayref12_Named x)
noncomputable def Fbeltwayref06_Valid (a0 : Nat) : Option Bool :=
if a0 < 18446744073709551616 then
if (BitVec.ofNat 64 a0) = (0#64) then
some (true)
else if fOrd a0 0 = some .gt then
some (decide (fOrd a0 4607182418800017408 = some .lt ∨ fOrd a0 4607182418800017408 = some .eq))
else some (false)
else none
@[reducible] noncomputable def iFbeltwayref06_Valid : FnI := { ps := [⟨.flt, false, false, false⟩], rs := [⟨.bool, false, true, false⟩], os := [], bk := [], F := fun x => Fbeltwayref06_Valid x }
noncomputable def cFbeltwayref06_Valid : Cx := { nm := [], keep := [], fns := tabF [], loops := [], joins := [], tb := tabs, exts := [(30, .f64bits)], lets := [] }
theorem eFbeltwayref06_Valid : (fun x : HT iFbeltwayref06_Valid.ps => iFbeltwayref06_Valid.F x) = fun x => rk Tryd.prog cFbeltwayref06_Valid (Tryd.f40.body.getD .skip) (HT (iFbeltwayref06_Valid.rs ++ iFbeltwayref06_Valid.os)) 1000000 (finK Tryd.prog [.tmp 2] [] iFbeltwayref06_Valid.os (iFbeltwayref06_Valid.rs ++ iFbeltwayref06_Valid.os)) (initF iFbeltwayref06_Valid.ps iFbeltwayref06_Valid.sh x 14) (initL iFbeltwayref06_Valid.ps x 0) := by kernel_rfl
theorem okFbeltwayref06_Valid : CallsV Tryd.prog tabs 40 iFbeltwayref06_Valid :=
  callsV_of_rk (cx := cFbeltwayref06_Valid) (fn := Tryd.f40) (c := Tryd.f40.body.getD .skip) (n := 14) (N := 0) (rvs := [.tmp 2]) (cxOk TabOk.nil (.cons xt30 XtOk.nil)) Tryd.func40 rfl (by kernel_rfl) rfl rfl (fun x => Nat.le_of_ble_eq_true rfl) (by decide) (fun x => congrFun eFbeltwayref06_Valid x)
noncomputable def Fbeltwayref12_Check (a0 : (ByteArray × (List (Nat × Int × Int × Int)) × Int)) : Option Int :=
Option.bind (Fbeltwayref12_Named a0.1) (fun r1 =>
if (!r1) = true then
some (7)
else if (a0.2.1.length : Int) < 1 then
some (8)
else if (a0.2.1.length : Int) > 4 then
some (8)
else if (List.replicate 4 (false : Bool)).length = 4 then
loopO (σ := (Int × (List Bool))) (β := Int) (fun s1 =>
if s1.1 < (a0.2.1.length : Int) then
if 0 ≤ s1.1 ∧ s1.1 < (a0.2.1.length : Int) then
Option.bind (Fbeltwayref06_Valid ((gl ((0, 0, 0, 0) : (Nat × Int × Int × Int)) a0.2.1 s1.1.toNat).1)) (fun r2 =>
if (!r2) = true then
some (Sum.inr (6))
else if (((gl ((0, 0, 0, 0) : (Nat × Int × Int × Int)) a0.2.1 s1.1.toNat).2).1) < 0 then
some (Sum.inr (9))
else if (((gl ((0, 0, 0, 0) : (Nat × Int × Int × Int)) a0.2.1 s1.1.toNat).2).1) > 64 then
some (Sum.inr (9))
else if ((((gl ((0, 0, 0, 0) : (Nat × Int × Int × Int)) a0.2.1 s1.1.toNat).2).2).1) < 0 then
some (Sum.inr (9))
else if ((((gl ((0, 0, 0, 0) : (Nat × Int × Int × Int)) a0.2.1 s1.1.toNat).2).2).1) > 64 then
some (Sum.inr (9))
else if s1.1 = (w64 ((a0.2.1.length : Int) - 1)) then
if ¬ (((gl ((0, 0, 0, 0) : (Nat × Int × Int × Int)) a0.2.1 s1.1.toNat).2).1) = 0 then
some (Sum.inr (9))
else if s1.1 = (w64 ((a0.2.1.length : Int) - 1)) then
if ¬ ((((gl ((0, 0, 0, 0) : (Nat × Int × Int × Int)) a0.2.1 s1.1.toNat).2).2).2) = s1.1 then
some (Sum.inr (10))
else if ¬ (s1.1 = (w64 ((a0.2.1.length : Int) - 1))) then
if ((((gl ((0, 0, 0, 0) : (Nat × Int × Int × Int)) a0.2.1 s1.1.toNat).2).2).2) ≤ s1.1 then
some (Sum.inr (10))
else if ((((gl ((0, 0, 0, 0) : (Nat × Int × Int × Int)) a0.2.1 s1.1.toNat).2).2).2) ≥ (a0.2.1.length : Int) then
some (Sum.inr (10))
else if ¬ (s1.1 = (w64 ((a0.2.1.length : Int) - 1))) then
if (0 ≤ ((((gl ((0, 0, 0, 0) : (Nat × Int × Int × Int)) a0.2.1 s1.1.toNat).2).2).2) ∧ ((((gl ((0, 0, 0, 0) : (Nat × Int × Int × Int)) a0.2.1 s1.1.toNat).2).2).2) < ((4 : Nat) : Int)) ∧ ((((gl ((0, 0, 0, 0) : (Nat × Int × Int × Int)) a0.2.1 s1.1.toNat).2).2).2) < (s1.2.length : Int) then
some (Sum.inl ((w64 (s1.1 + 1), s1.2.set (((((gl ((0, 0, 0, 0) : (Nat × Int × Int × Int)) a0.2.1 s1.1.toNat).2).2).2).toNat) true)))
else none
else some (Sum.inl ((w64 (s1.1 + 1), s1.2)))
else if ¬ (s1.1 = (w64 ((a0.2.1.length : Int) - 1))) then
if (0 ≤ ((((gl ((0, 0, 0, 0) : (Nat × Int × Int × Int)) a0.2.1 s1.1.toNat).2).2).2) ∧ ((((gl ((0, 0, 0, 0) : (Nat × Int × Int × Int)) a0.2.1 s1.1.toNat).2).2).2) < ((4 : Nat) : Int)) ∧ ((((gl ((0, 0, 0, 0) : (Nat × Int × Int × Int)) a0.2.1 s1.1.toNat).2).2).2) < (s1.2.length : Int) then
some (Sum.inl ((w64 (s1.1 + 1), s1.2.set (((((gl ((0, 0, 0, 0) : (Nat × Int × Int × Int)) a0.2.1 s1.1.toNat).2).2).2).toNat) true)))
else none
else some (Sum.inl ((w64 (s1.1 + 1), s1.2)))
else if ¬ (s1.1 = (w64 ((a0.2.1.length : Int) - 1))) then
if ((((gl ((0, 0, 0, 0) : (Nat × Int × Int × Int)) a0.2.1 s1.1.toNat).2).2).2) ≤ s1.1 then
some (Sum.inr (10))
else if ((((gl ((0, 0, 0, 0) : (Nat × Int × Int × Int)) a0.2.1 s1.1.toNat).2).2).2) ≥ (a0.2.1.length : Int) then
some (Sum.inr (10))
else if ¬ (s1.1 = (w64 ((a0.2.1.length : Int) - 1))) then
if (0 ≤ ((((gl ((0, 0, 0, 0) : (Nat × Int × Int × Int)) a0.2.1 s1.1.toNat).2).2).2) ∧ ((((gl ((0, 0, 0, 0) : (Nat × Int × Int × Int)) a0.2.1 s1.1.toNat).2).2).2) < ((4 : Nat) : Int)) ∧ ((((gl ((0, 0, 0, 0) : (Nat × Int × Int × Int)) a0.2.1 s1.1.toNat).2).2).2) < (s1.2.length : Int) then
some (Sum.inl ((w64 (s1.1 + 1), s1.2.set (((((gl ((0, 0, 0, 0) : (Nat × Int × Int × Int)) a0.2.1 s1.1.toNat).2).2).2).toNat) true)))
else none
else some (Sum.inl ((w64 (s1.1 + 1), s1.2)))
else if ¬ (s1.1 = (w64 ((a0.2.1.length : Int) - 1))) then
if (0 ≤ ((((gl ((0, 0, 0, 0) : (Nat × Int × Int × Int)) a0.2.1 s1.1.toNat).2).2).2) ∧ ((((gl ((0, 0, 0, 0) : (Nat × Int × Int × Int)) a0.2.1 s1.1.toNat).2).2).2) < ((4 : Nat) : Int)) ∧ ((((gl ((0, 0, 0, 0) : (Nat × Int × Int × Int)) a0.2.1 s1.1.toNat).2).2).2) < (s1.2.length : Int) then
some (Sum.inl ((w64 (s1.1 + 1), s1.2.set (((((gl ((0, 0, 0, 0) : (Nat × Int × Int × Int)) a0.2.1 s1.1.toNat).2).2).2).toNat) true)))
else none
else some (Sum.inl ((w64 (s1.1 + 1), s1.2)))
else if s1.1 = (w64 ((a0.2.1.length : Int) - 1)) then
if ¬ ((((gl ((0, 0, 0, 0) : (Nat × Int × Int × Int)) a0.2.1 s1.1.toNat).2).2).2) = s1.1 then
some (Sum.inr (10))
else if ¬ (s1.1 = (w64 ((a0.2.1.length : Int) - 1))) then
if ((((gl ((0, 0, 0, 0) : (Nat × Int × Int × Int)) a0.2.1 s1.1.toNat).2).2).2) ≤ s1.1 then
some (Sum.inr (10))
else if ((((gl ((0, 0, 0, 0) : (Nat × Int × Int × Int)) a0.2.1 s1.1.toNat).2).2).2) ≥ (a0.2.1.length : Int) then
some (Sum.inr (10))
else if ¬ (s1.1 = (w64 ((a0.2.1.length : Int) - 1))) then
if (0 ≤ ((((gl ((0, 0, 0, 0) : (Nat × Int × Int × Int)) a0.2.1 s1.1.toNat).2).2).2) ∧ ((((gl ((0, 0, 0, 0) : (Nat × Int × Int × Int)) a0.2.1 s1.1.toNat).2).2).2) < ((4 : Nat) : Int)) ∧ ((((gl ((0, 0, 0, 0) : (Nat × Int × Int × Int)) a0.2.1 s1.1.toNat).2).2).2) < (s1.2.length : Int) then
some (Sum.inl ((w64 (s1.1 + 1), s1.2.set (((((gl ((0, 0, 0, 0) : (Nat × Int × Int × Int)) a0.2.1 s1.1.toNat).2).2).2).toNat) true)))
else none
else some (Sum.inl ((w64 (s1.1 + 1), s1.2)))
else if ¬ (s1.1 = (w64 ((a0.2.1.length : Int) - 1))) then
if (0 ≤ ((((gl ((0, 0, 0, 0) : (Nat × Int × Int × Int)) a0.2.1 s1.1.toNat).2).2).2) ∧ ((((gl ((0, 0, 0, 0) : (Nat × Int × Int × Int)) a0.2.1 s1.1.toNat).2).2).2) < ((4 : Nat) : Int)) ∧ ((((gl ((0, 0, 0, 0) : (Nat × Int × Int × Int)) a0.2.1 s1.1.toNat).2).2).2) < (s1.2.length : Int) then
some (Sum.inl ((w64 (s1.1 + 1), s1.2.set (((((gl ((0, 0, 0, 0) : (Nat × Int × Int × Int)) a0.2.1 s1.1.toNat).2).2).2).toNat) true)))
else none
else some (Sum.inl ((w64 (s1.1 + 1), s1.2)))
else if ¬ (s1.1 = (w64 ((a0.2.1.length : Int) - 1))) then
if ((((gl ((0, 0, 0, 0) : (Nat × Int × Int × Int)) a0.2.1 s1.1.toNat).2).2).2) ≤ s1.1 then
some (Sum.inr (10))
else if ((((gl ((0, 0, 0, 0) : (Nat × Int × Int × Int)) a0.2.1 s1.1.toNat).2).2).2) ≥ (a0.2.1.length : Int) then
some (Sum.inr (10))
else if ¬ (s1.1 = (w64 ((a0.2.1.length : Int) - 1))) then
if (0 ≤ ((((gl ((0, 0, 0, 0) : (Nat × Int × Int × Int)) a0.2.1 s1.1.toNat).2).2).2) ∧ ((((gl ((0, 0, 0, 0) : (Nat × Int × Int × Int)) a0.2.1 s1.1.toNat).2).2).2) < ((4 : Nat) : Int)) ∧ ((((gl ((0, 0, 0, 0) : (Nat × Int × Int × Int)) a0.2.1 s1.1.toNat).2).2).2) < (s1.2.length : Int) then
some (Sum.inl ((w64 (s1.1 + 1), s1.2.set (((((gl ((0, 0, 0, 0) : (Nat × Int × Int × Int)) a0.2.1 s1.1.toNat).2).2).2).toNat) true)))
else none
else some (Sum.inl ((w64 (s1.1 + 1), s1.2)))
else if ¬ (s1.1 = (w64 ((a0.2.1.length : Int) - 1))) then
if (0 ≤ ((((gl ((0, 0, 0, 0) : (Nat × Int × Int × Int)) a0.2.1 s1.1.toNat).2).2).2) ∧ ((((gl ((0, 0, 0, 0) : (Nat × Int × Int × Int)) a0.2.1 s1.1.toNat).2).2).2) < ((4 : Nat) : Int)) ∧ ((((gl ((0, 0, 0, 0) : (Nat × Int × Int × Int)) a0.2.1 s1.1.toNat).2).2).2) < (s1.2.length : Int) then
some (Sum.inl ((w64 (s1.1 + 1), s1.2.set (((((gl ((0, 0, 0, 0) : (Nat × Int × Int × Int)) a0.2.1 s1.1.toNat).2).2).2).toNat) true)))
else none
else some (Sum.inl ((w64 (s1.1 + 1), s1.2))))
else none
else Option.map Sum.inr (loopO (σ := Int) (β := Int) (fun s2 =>
if s2 < (a0.2.1.length : Int) then
if (0 ≤ s2 ∧ s2 < ((4 : Nat) : Int)) ∧ s2 < (s1.2.length : Int) then
if (!(gl (false : Bool) s1.2 s2.toNat)) = true then
some (Sum.inr (10))
else some (Sum.inl (w64 (s2 + 1)))
else none
else Option.map Sum.inr (if 0 ≤ (w64 ((a0.2.1.length : Int) - 1)) ∧ (w64 ((a0.2.1.length : Int) - 1)) < (a0.2.1.length : Int) then
if fOrd ((gl ((0, 0, 0, 0) : (Nat × Int × Int × Int)) a0.2.1 ((w64 ((a0.2.1.length : Int) - 1)).toNat)).1) 0 = some .eq then
if a0.2.2 < 1 then
some (9)
else if a0.2.2 > 64 then
some (9)
else if ¬ (fOrd ((gl ((0, 0, 0, 0) : (Nat × Int × Int × Int)) a0.2.1 ((w64 ((a0.2.1.length : Int) - 1)).toNat)).1) 0 = some .eq) then
if ¬ a0.2.2 = 0 then
some (9)
else some (0)
else some (0)
else if ¬ (fOrd ((gl ((0, 0, 0, 0) : (Nat × Int × Int × Int)) a0.2.1 ((w64 ((a0.2.1.length : Int) - 1)).toNat)).1) 0 = some .eq) then
if ¬ a0.2.2 = 0 then
some (9)
else some (0)
else some (0)
else none)) (0))) ((0, ([true, false, false, false] : List Bool)))
else none)
@[reducible] noncomputable def iFbeltwayref12_Check : FnI := { ps := [⟨(.pair .str (.pair (.slice (.pair .flt (.pair (.int .i64) (.pair (.int .i64) (.int .i64))))) (.int .i64))), true, false, false⟩], rs := [⟨(.int .i64), false, true, false⟩], os := [], bk := [], F := fun x => Fbeltwayref12_Check x }
noncomputable def cFbeltwayref12_Check : Cx := { nm := [(1, (1, 1)), (4, (2, 1)), (6, (3, 1))], keep := [4], fns := tabF [(39, iFbeltwayref12_Named), (40, iFbeltwayref06_Valid)], loops := [(0, { live := [(27, ⟨(.int .i64), false, false, false⟩)], boxes := [], rows := [(2, .bool)], dead := [2, 5, 6, 7, 28, 29, 30, 31, 32, 33, 34, 35, 36, 37, 38, 39, 40, 41, 42, 43, 44, 45, 46, 47, 48, 49, 50, 51, 52, 53, 54, 55, 56, 57, 58, 59, 60, 61, 62, 63, 64, 65, 66, 67, 68, 69, 70, 71, 72, 73, 74, 75, 76, 77, 78, 79, 80, 81, 82, 83, 84, 85, 86, 87, 88, 89, 90, 91, 92, 93, 94, 95, 96, 97], lost := [], base := 3 }), (3, { live := [(8, ⟨(.int .i64), false, false, false⟩)], boxes := [], rows := [], dead := [2, 98, 99, 100, 101, 102, 103, 104, 105, 106], lost := [], base := 4 })], joins := [], tb := tabs, exts := [], lets := [] }
theorem eFbeltwayref12_Check : (fun x : HT iFbeltwayref12_Check.ps => iFbeltwayref12_Check.F x) = fun x => rk Tryd.prog cFbeltwayref12_Check (Tryd.f23.body.getD .skip) (HT (iFbeltwayref12_Check.rs ++ iFbeltwayref12_Check.os)) 1000000 (finK Tryd.prog [.tmp 2] [] iFbeltwayref12_Check.os (iFbeltwayref12_Check.rs ++ iFbeltwayref12_Check.os)) (initF iFbeltwayref12_Check.ps iFbeltwayref12_Check.sh x 135) (initL iFbeltwayref12_Check.ps x 3) := by kernel_rfl
theorem okFbeltwayref12_Check : CallsV Tryd.prog tabs 23 iFbeltwayref12_Check :=
  callsV_of_rk (cx := cFbeltwayref12_Check) (fn := Tryd.f23) (c := Tryd.f23.body.getD .skip) (n := 135) (N := 3) (rvs := [.tmp 2]) (cxOk (.cons okFbeltwayref12_Named (.cons okFbeltwayref06_Valid TabOk.nil)) XtOk.nil) Tryd.func23 rfl (by kernel_rfl) rfl rfl (fun x => Nat.le_of_ble_eq_true rfl) (by decide) (fun x => congrFun eFbeltwayref12_Check x)
noncomputable def Fbeltwayref13_Parse (a0 : ByteArray) : Option ((ByteArray × (List (Nat × Int × Int × Int)) × Int) × Int) :=
if (a0.size : Int) > 1024 then
some ((((⟨#[]⟩ : ByteArray), [], 0), 9))
else loopO (σ := Int) (β := ((ByteArray × (List (Nat × Int × Int × Int)) × Int) × Int)) (fun s1 =>
if s1 < (a0.size : Int) then
if 0 ≤ s1 ∧ s1 < (a0.size : Int) then
if ¬ (sget a0 s1.toNat) = 32 then
some (Sum.inl (w64 (s1 + 1)))
else Option.map Sum.inr (if Bd none (some s1) s1.toNat a0.size then
if s1 < 1 then
some ((((⟨#[]⟩ : ByteArray), [], 0), 11))
else if s1 > 16 then
some ((((⟨#[]⟩ : ByteArray), [], 0), 11))
else loopO (σ := Int) (β := ((ByteArray × (List (Nat × Int × Int × Int)) × Int) × Int)) (fun s2 =>
if s2 < ((sbytes (a0.extract 0 s1.toNat)).length : Int) then
if 0 ≤ s2 ∧ s2 < ((sbytes (a0.extract 0 s1.toNat)).length : Int) then
if (gl (0 : Int) (sbytes (a0.extract 0 s1.toNat)) s2.toNat) < 97 then
if (gl (0 : Int) (sbytes (a0.extract 0 s1.toNat)) s2.toNat) < 48 then
if ¬ (gl (0 : Int) (sbytes (a0.extract 0 s1.toNat)) s2.toNat) = 45 then
some (Sum.inr ((((⟨#[]⟩ : ByteArray), [], 0), 11)))
else some (Sum.inl (w64 (s2 + 1)))
else if (gl (0 : Int) (sbytes (a0.extract 0 s1.toNat)) s2.toNat) > 57 then
if ¬ (gl (0 : Int) (sbytes (a0.extract 0 s1.toNat)) s2.toNat) = 45 then
some (Sum.inr ((((⟨#[]⟩ : ByteArray), [], 0), 11)))
else some (Sum.inl (w64 (s2 + 1)))
else some (Sum.inl (w64 (s2 + 1)))
else if (gl (0 : Int) (sbytes (a0.extract 0 s1.toNat)) s2.toNat) > 122 then
if (gl (0 : Int) (sbytes (a0.extract 0 s1.toNat)) s2.toNat) < 48 then
if ¬ (gl (0 : Int) (sbytes (a0.extract 0 s1.toNat)) s2.toNat) = 45 then
some (Sum.inr ((((⟨#[]⟩ : ByteArray), [], 0), 11)))
else some (Sum.inl (w64 (s2 + 1)))
else if (gl (0 : Int) (sbytes (a0.extract 0 s1.toNat)) s2.toNat) > 57 then
if ¬ (gl (0 : Int) (sbytes (a0.extract 0 s1.toNat)) s2.toNat) = 45 then
some (Sum.inr ((((⟨#[]⟩ : ByteArray), [], 0), 11)))
else some (Sum.inl (w64 (s2 + 1)))
else some (Sum.inl (w64 (s2 + 1)))
else some (Sum.inl (w64 (s2 + 1)))
else none
else Option.map Sum.inr (if Bd (some s1) none a0.size a0.size then
Option.bind (Fbeltwayref13_reader_take (a0.extract s1.toNat a0.size, false) (⟨#[32, 102, 117, 108, 108, 32]⟩ : ByteArray)) (fun r1 =>
Option.bind (Fbeltwayref13_reader_number r1) (fun r2 =>
Option.bind (Fbeltwayref13_reader_take r2.2 (⟨#[58, 32]⟩ : ByteArray)) (fun r3 =>
loopO (σ := ((ByteArray × (List (Nat × Int × Int × Int)) × Int) × (ByteArray × Bool))) (β := ((ByteArray × (List (Nat × Int × Int × Int)) × Int) × Int)) (fun s3 =>
if (!s3.2.2) = true then
Option.bind (α := ((ByteArray × Bool) × (Nat × Int × Int × Int)) ⊕ (((ByteArray × (List (Nat × Int × Int × Int)) × Int) × (ByteArray × Bool)) ⊕ ((ByteArray × (List (Nat × Int × Int × Int)) × Int) × Int))) (if (s3.2.1.size : Int) > 0 then
if 0 ≤ (0 : Int) ∧ (0 : Int) < (s3.2.1.size : Int) then
if (sget s3.2.1 ((0 : Int).toNat)) = 97 then
Option.bind (Fbeltwayref13_reader_take s3.2 (⟨#[97, 108, 108]⟩ : ByteArray)) (fun r4 =>
some (Sum.inl ((r4, (0, 0, 0, 0)))))
else Option.bind (Fbeltwayref13_reader_number s3.2) (fun r5 =>
Option.bind (Fbeltwayref13_reader_take r5.2 (⟨#[37]⟩ : ByteArray)) (fun r6 =>
if r5.1 < 1 then
Option.bind (Fbeltwayref06_Percent r5.1) (fun r7 =>
some (Sum.inl (((r6.1, true), (r7.1, 0, 0, 0)))))
else if r5.1 > 100 then
Option.bind (Fbeltwayref06_Percent r5.1) (fun r8 =>
some (Sum.inl (((r6.1, true), (r8.1, 0, 0, 0)))))
else Option.bind (Fbeltwayref06_Percent r5.1) (fun r9 =>
some (Sum.inl ((r6, (r9.1, 0, 0, 0)))))))
else none
else Option.bind (Fbeltwayref13_reader_number s3.2) (fun r10 =>
Option.bind (Fbeltwayref13_reader_take r10.2 (⟨#[37]⟩ : ByteArray)) (fun r11 =>
if r10.1 < 1 then
Option.bind (Fbeltwayref06_Percent r10.1) (fun r12 =>
some (Sum.inl (((r11.1, true), (r12.1, 0, 0, 0)))))
else if r10.1 > 100 then
Option.bind (Fbeltwayref06_Percent r10.1) (fun r13 =>
some (Sum.inl (((r11.1, true), (r13.1, 0, 0, 0)))))
else Option.bind (Fbeltwayref06_Percent r10.1) (fun r14 =>
some (Sum.inl ((r11, (r14.1, 0, 0, 0)))))))) (fun q => match q with
| Sum.inl j1 => (Option.bind (Fbeltwayref13_reader_take j1.1 (⟨#[47]⟩ : ByteArray)) (fun r15 =>
Option.bind (Fbeltwayref13_reader_number r15) (fun r16 =>
Option.bind (Fbeltwayref13_reader_take r16.2 (⟨#[47]⟩ : ByteArray)) (fun r17 =>
Option.bind (Fbeltwayref13_reader_number r17) (fun r18 =>
Option.bind (Fbeltwayref13_reader_take r18.2 (⟨#[62]⟩ : ByteArray)) (fun r19 =>
Option.bind (Fbeltwayref13_reader_number r19) (fun r20 =>
if (s3.1.2.1.length + ([(j1.2.1, r16.1, r18.1, r20.1)] : List (Nat × Int × Int × Int)).length) * 32 ≤ 140737488355328 then
if r20.2.2 = true then
Option.map Sum.inr (if r20.2.2 = true then
some ((((⟨#[]⟩ : ByteArray), [], 0), 11))
else Option.bind (Fbeltwayref12_Check (s3.1.1, s3.1.2.1 ++ ([(j1.2.1, r16.1, r18.1, r20.1)] : List (Nat × Int × Int × Int)), s3.1.2.2)) (fun r21 =>
if ¬ r21 = 0 then
some ((((⟨#[]⟩ : ByteArray), [], 0), r21))
else some (((s3.1.1, s3.1.2.1 ++ ([(j1.2.1, r16.1, r18.1, r20.1)] : List (Nat × Int × Int × Int)), s3.1.2.2), 0))))
else if r20.2.1 = (⟨#[]⟩ : ByteArray) then
Option.map Sum.inr (if r20.2.2 = true then
some ((((⟨#[]⟩ : ByteArray), [], 0), 11))
else Option.bind (Fbeltwayref12_Check (s3.1.1, s3.1.2.1 ++ ([(j1.2.1, r16.1, r18.1, r20.1)] : List (Nat × Int × Int × Int)), s3.1.2.2)) (fun r22 =>
if ¬ r22 = 0 then
some ((((⟨#[]⟩ : ByteArray), [], 0), r22))
else some (((s3.1.1, s3.1.2.1 ++ ([(j1.2.1, r16.1, r18.1, r20.1)] : List (Nat × Int × Int × Int)), s3.1.2.2), 0))))
else Option.bind (Fbeltwayref13_reader_take r20.2 (⟨#[44, 32]⟩ : ByteArray)) (fun r23 =>
some (Sum.inl (((s3.1.1, s3.1.2.1 ++ ([(j1.2.1, r16.1, r18.1, r20.1)] : List (Nat × Int × Int × Int)), s3.1.2.2), r23))))
else none)))))))
| Sum.inr b1 => some b1)
else Option.map Sum.inr (if s3.2.2 = true then
some ((((⟨#[]⟩ : ByteArray), [], 0), 11))
else Option.bind (Fbeltwayref12_Check s3.1) (fun r24 =>
if ¬ r24 = 0 then
some ((((⟨#[]⟩ : ByteArray), [], 0), r24))
else some ((s3.1, 0))))) (((a0.extract 0 s1.toNat, [], r2.1), r3)))))
else none)) (0)
else none)
else none
else Option.map Sum.inr (if Bd none (some s1) s1.toNat a0.size then
if s1 < 1 then
some ((((⟨#[]⟩ : ByteArray), [], 0), 11))
else if s1 > 16 then
some ((((⟨#[]⟩ : ByteArray), [], 0), 11))
else loopO (σ := Int) (β := ((ByteArray × (List (Nat × Int × Int × Int)) × Int) × Int)) (fun s4 =>
if s4 < ((sbytes (a0.extract 0 s1.toNat)).length : Int) then
if 0 ≤ s4 ∧ s4 < ((sbytes (a0.extract 0 s1.toNat)).length : Int) then
if (gl (0 : Int) (sbytes (a0.extract 0 s1.toNat)) s4.toNat) < 97 then
if (gl (0 : Int) (sbytes (a0.extract 0 s1.toNat)) s4.toNat) < 48 then
if ¬ (gl (0 : Int) (sbytes (a0.extract 0 s1.toNat)) s4.toNat) = 45 then
some (Sum.inr ((((⟨#[]⟩ : ByteArray), [], 0), 11)))
else some (Sum.inl (w64 (s4 + 1)))
else if (gl (0 : Int) (sbytes (a0.extract 0 s1.toNat)) s4.toNat) > 57 then
if ¬ (gl (0 : Int) (sbytes (a0.extract 0 s1.toNat)) s4.toNat) = 45 then
some (Sum.inr ((((⟨#[]⟩ : ByteArray), [], 0), 11)))
else some (Sum.inl (w64 (s4 + 1)))
else some (Sum.inl (w64 (s4 + 1)))
else if (gl (0 : Int) (sbytes (a0.extract 0 s1.toNat)) s4.toNat) > 122 then
if (gl (0 : Int) (sbytes (a0.extract 0 s1.toNat)) s4.toNat) < 48 then
if ¬ (gl (0 : Int) (sbytes (a0.extract 0 s1.toNat)) s4.toNat) = 45 then
some (Sum.inr ((((⟨#[]⟩ : ByteArray), [], 0), 11)))
else some (Sum.inl (w64 (s4 + 1)))
else if (gl (0 : Int) (sbytes (a0.extract 0 s1.toNat)) s4.toNat) > 57 then
if ¬ (gl (0 : Int) (sbytes (a0.extract 0 s1.toNat)) s4.toNat) = 45 then
some (Sum.inr ((((⟨#[]⟩ : ByteArray), [], 0), 11)))
else some (Sum.inl (w64 (s4 + 1)))
else some (Sum.inl (w64 (s4 + 1)))
else some (Sum.inl (w64 (s4 + 1)))
else none
else Option.map Sum.inr (if Bd (some s1) none a0.size a0.size then
Option.bind (Fbeltwayref13_reader_take (a0.extract s1.toNat a0.size, false) (⟨#[32, 102, 117, 108, 108, 32]⟩ : ByteArray)) (fun r25 =>
Option.bind (Fbeltwayref13_reader_number r25) (fun r26 =>
Option.bind (Fbeltwayref13_reader_take r26.2 (⟨#[58, 32]⟩ : ByteArray)) (fun r27 =>
loopO (σ := ((ByteArray × (List (Nat × Int × Int × Int)) × Int) × (ByteArray × Bool))) (β := ((ByteArray × (List (Nat × Int × Int × Int)) × Int) × Int)) (fun s5 =>
if (!s5.2.2) = true then
Option.bind (α := ((ByteArray × Bool) × (Nat × Int × Int × Int)) ⊕ (((ByteArray × (List (Nat × Int × Int × Int)) × Int) × (ByteArray × Bool)) ⊕ ((ByteArray × (List (Nat × Int × Int × Int)) × Int) × Int))) (if (s5.2.1.size : Int) > 0 then
if 0 ≤ (0 : Int) ∧ (0 : Int) < (s5.2.1.size : Int) then
if (sget s5.2.1 ((0 : Int).toNat)) = 97 then
Option.bind (Fbeltwayref13_reader_take s5.2 (⟨#[97, 108, 108]⟩ : ByteArray)) (fun r28 =>
some (Sum.inl ((r28, (0, 0, 0, 0)))))
else Option.bind (Fbeltwayref13_reader_number s5.2) (fun r29 =>
Option.bind (Fbeltwayref13_reader_take r29.2 (⟨#[37]⟩ : ByteArray)) (fun r30 =>
if r29.1 < 1 then
Option.bind (Fbeltwayref06_Percent r29.1) (fun r31 =>
some (Sum.inl (((r30.1, true), (r31.1, 0, 0, 0)))))
else if r29.1 > 100 then
Option.bind (Fbeltwayref06_Percent r29.1) (fun r32 =>
some (Sum.inl (((r30.1, true), (r32.1, 0, 0, 0)))))
else Option.bind (Fbeltwayref06_Percent r29.1) (fun r33 =>
some (Sum.inl ((r30, (r33.1, 0, 0, 0)))))))
else none
else Option.bind (Fbeltwayref13_reader_number s5.2) (fun r34 =>
Option.bind (Fbeltwayref13_reader_take r34.2 (⟨#[37]⟩ : ByteArray)) (fun r35 =>
if r34.1 < 1 then
Option.bind (Fbeltwayref06_Percent r34.1) (fun r36 =>
some (Sum.inl (((r35.1, true), (r36.1, 0, 0, 0)))))
else if r34.1 > 100 then
Option.bind (Fbeltwayref06_Percent r34.1) (fun r37 =>
some (Sum.inl (((r35.1, true), (r37.1, 0, 0, 0)))))
else Option.bind (Fbeltwayref06_Percent r34.1) (fun r38 =>
some (Sum.inl ((r35, (r38.1, 0, 0, 0)))))))) (fun q => match q with
| Sum.inl j2 => (Option.bind (Fbeltwayref13_reader_take j2.1 (⟨#[47]⟩ : ByteArray)) (fun r39 =>
Option.bind (Fbeltwayref13_reader_number r39) (fun r40 =>
Option.bind (Fbeltwayref13_reader_take r40.2 (⟨#[47]⟩ : ByteArray)) (fun r41 =>
Option.bind (Fbeltwayref13_reader_number r41) (fun r42 =>
Option.bind (Fbeltwayref13_reader_take r42.2 (⟨#[62]⟩ : ByteArray)) (fun r43 =>
Option.bind (Fbeltwayref13_reader_number r43) (fun r44 =>
if (s5.1.2.1.length + ([(j2.2.1, r40.1, r42.1, r44.1)] : List (Nat × Int × Int × Int)).length) * 32 ≤ 140737488355328 then
if r44.2.2 = true then
Option.map Sum.inr (if r44.2.2 = true then
some ((((⟨#[]⟩ : ByteArray), [], 0), 11))
else Option.bind (Fbeltwayref12_Check (s5.1.1, s5.1.2.1 ++ ([(j2.2.1, r40.1, r42.1, r44.1)] : List (Nat × Int × Int × Int)), s5.1.2.2)) (fun r45 =>
if ¬ r45 = 0 then
some ((((⟨#[]⟩ : ByteArray), [], 0), r45))
else some (((s5.1.1, s5.1.2.1 ++ ([(j2.2.1, r40.1, r42.1, r44.1)] : List (Nat × Int × Int × Int)), s5.1.2.2), 0))))
else if r44.2.1 = (⟨#[]⟩ : ByteArray) then
Option.map Sum.inr (if r44.2.2 = true then
some ((((⟨#[]⟩ : ByteArray), [], 0), 11))
else Option.bind (Fbeltwayref12_Check (s5.1.1, s5.1.2.1 ++ ([(j2.2.1, r40.1, r42.1, r44.1)] : List (Nat × Int × Int × Int)), s5.1.2.2)) (fun r46 =>
if ¬ r46 = 0 then
some ((((⟨#[]⟩ : ByteArray), [], 0), r46))
else some (((s5.1.1, s5.1.2.1 ++ ([(j2.2.1, r40.1, r42.1, r44.1)] : List (Nat × Int × Int × Int)), s5.1.2.2), 0))))
else Option.bind (Fbeltwayref13_reader_take r44.2 (⟨#[44, 32]⟩ : ByteArray)) (fun r47 =>
some (Sum.inl (((s5.1.1, s5.1.2.1 ++ ([(j2.2.1, r40.1, r42.1, r44.1)] : List (Nat × Int × Int × Int)), s5.1.2.2), r47))))
else none)))))))
| Sum.inr b2 => some b2)
else Option.map Sum.inr (if s5.2.2 = true then
some ((((⟨#[]⟩ : ByteArray), [], 0), 11))
else Option.bind (Fbeltwayref12_Check s5.1) (fun r48 =>
if ¬ r48 = 0 then
some ((((⟨#[]⟩ : ByteArray), [], 0), r48))
else some ((s5.1, 0))))) (((a0.extract 0 s1.toNat, [], r26.1), r27)))))
else none)) (0)
else none)) (0)
@[reducible] noncomputable def iFbeltwayref13_Parse : FnI := { ps := [⟨.str, false, false, false⟩], rs := [⟨(.pair .str (.pair (.slice (.pair .flt (.pair (.int .i64) (.pair (.int .i64) (.int .i64))))) (.int .i64))), true, true, false⟩, ⟨(.int .i64), false, true, false⟩], os := [], bk := [], F := fun x => Fbeltwayref13_Parse x }
noncomputable def cFbeltwayref13_Parse : Cx := { nm := [(2, (0, 1)), (5, (1, 1)), (9, (4, 1)), (41, (2, 1)), (71, (3, 1)), (137, (5, 1)), (138, (6, 1))], keep := [138], fns := tabF [(23, iFbeltwayref12_Check), (27, iFbeltwayref13_reader_take), (28, iFbeltwayref13_reader_number), (29, iFbeltwayref06_Percent)], loops := [(0, { live := [(4, ⟨(.int .i64), false, false, false⟩)], boxes := [], rows := [], dead := [16, 17, 18, 19, 20, 21, 22, 23, 24, 25, 26, 27], lost := [], base := 1 }), (2, { live := [(43, ⟨(.int .i64), false, false, false⟩)], boxes := [], rows := [], dead := [3, 7, 44, 45, 46, 47, 48, 49, 50, 51, 52, 53, 54, 55, 56, 57, 58, 59, 60, 61, 62, 63, 64, 65, 66], lost := [], base := 3 }), (4, { live := [], boxes := [(1, ⟨(.pair .str (.pair (.slice (.pair .flt (.pair (.int .i64) (.pair (.int .i64) (.int .i64))))) (.int .i64))), true, true, false⟩), (3, ⟨(.pair .str .bool), true, false, false⟩)], rows := [], dead := [9, 10, 79, 80, 81, 82, 83, 84, 85, 86, 87, 88, 89, 90, 91, 92, 93, 94, 95, 96, 97, 98, 99, 100, 101, 102, 103, 104, 105, 106, 107, 108, 109, 110, 111, 112, 113, 114, 115, 116, 117, 118, 119, 120, 121, 122, 123, 124, 125, 126, 127, 128, 129, 130, 131, 132, 133, 134, 135, 136, 137, 138, 139, 140, 141, 142, 143, 144, 145, 146, 147, 148, 149, 150, 151, 152], lost := [], base := 7 })], joins := [(28, { live := [], boxes := [(3, ⟨(.pair .str .bool), true, false, false⟩), (4, ⟨(.pair .flt (.pair (.int .i64) (.pair (.int .i64) (.int .i64)))), true, false, false⟩)], rows := [], dead := [10, 84, 85, 86, 87, 88, 89, 90, 91, 92, 93, 94, 95, 96, 97, 98, 99, 100, 101, 102, 103, 104, 105, 106, 107, 108, 109, 110, 111, 112, 113, 114, 115, 116, 117, 118], lost := [], base := 5 })], tb := tabs, exts := [], lets := [] }
theorem eFbeltwayref13_Parse : (fun x : HT iFbeltwayref13_Parse.ps => iFbeltwayref13_Parse.F x) = fun x => rk Tryd.prog cFbeltwayref13_Parse (Tryd.f13.body.getD .skip) (HT (iFbeltwayref13_Parse.rs ++ iFbeltwayref13_Parse.os)) 1000000 (finK Tryd.prog [.cell 2 24, .tmp 3] [] iFbeltwayref13_Parse.os (iFbeltwayref13_Parse.rs ++ iFbeltwayref13_Parse.os)) (initF iFbeltwayref13_Parse.ps iFbeltwayref13_Parse.sh x 165) (initL iFbeltwayref13_Parse.ps x 8) := by kernel_rfl
theorem okFbeltwayref13_Parse : CallsV Tryd.prog tabs 13 iFbeltwayref13_Parse :=
  callsV_of_rk (cx := cFbeltwayref13_Parse) (fn := Tryd.f13) (c := Tryd.f13.body.getD .skip) (n := 165) (N := 8) (rvs := [.cell 2 24, .tmp 3]) (cxOk (.cons okFbeltwayref12_Check (.cons okFbeltwayref13_reader_take (.cons okFbeltwayref13_reader_number (.cons okFbeltwayref06_Percent TabOk.nil)))) XtOk.nil) Tryd.func13 rfl (by kernel_rfl) rfl rfl (fun x => Nat.le_of_ble_eq_true rfl) (by decide) (fun x => congrFun eFbeltwayref13_Parse x)

noncomputable def Fbeltwaymake_Deck_Next (a0 : ((List Int) × Int)) (a1 : Int) : Option (Int × ((List Int) × Int)) :=
if a0.2 ≥ (a0.1.length : Int) then
some ((0, a0))
else if 0 ≤ (w64 ((w64 (a0.2 + 1)) - 1)) ∧ (w64 ((w64 (a0.2 + 1)) - 1)) < (a0.1.length : Int) then
Option.bind (Fbeltwaymake_Mod (gl (0 : Int) a0.1 ((w64 ((w64 (a0.2 + 1)) - 1)).toNat)) a1) (fun r1 =>
some ((r1, (a0.1, w64 (a0.2 + 1)))))
else none
@[reducible] noncomputable def iFbeltwaymake_Deck_Next : FnI := { ps := [⟨(.pair (.slice (.int .i64)) (.int .i64)), true, false, true⟩, ⟨(.int .i64), false, false, false⟩], rs := [⟨(.int .i64), false, true, false⟩], os := [⟨(.pair (.slice (.int .i64)) (.int .i64)), true, false, true⟩], bk := [0], F := fun x => Fbeltwaymake_Deck_Next x.1 x.2 }
noncomputable def cFbeltwaymake_Deck_Next : Cx := { nm := [], keep := [], fns := tabF [(11, iFbeltwaymake_Mod)], loops := [], joins := [], tb := tabs, exts := [], lets := [] }
theorem eFbeltwaymake_Deck_Next : (fun x : HT iFbeltwaymake_Deck_Next.ps => iFbeltwaymake_Deck_Next.F x) = fun x => rk Tryd.prog cFbeltwaymake_Deck_Next (Tryd.f15.body.getD .skip) (HT (iFbeltwaymake_Deck_Next.rs ++ iFbeltwaymake_Deck_Next.os)) 1000000 (finK Tryd.prog [.tmp 4] [0] iFbeltwaymake_Deck_Next.os (iFbeltwaymake_Deck_Next.rs ++ iFbeltwaymake_Deck_Next.os)) (initF iFbeltwaymake_Deck_Next.ps iFbeltwaymake_Deck_Next.sh x 35) (initL iFbeltwaymake_Deck_Next.ps x 0) := by kernel_rfl
theorem okFbeltwaymake_Deck_Next : CallsV Tryd.prog tabs 15 iFbeltwaymake_Deck_Next :=
  callsV_of_rk (cx := cFbeltwaymake_Deck_Next) (fn := Tryd.f15) (c := Tryd.f15.body.getD .skip) (n := 35) (N := 0) (rvs := [.tmp 4]) (cxOk (.cons okFbeltwaymake_Mod TabOk.nil) XtOk.nil) Tryd.func15 rfl (by kernel_rfl) rfl rfl (fun x => Nat.le_of_ble_eq_true rfl) (by decide) (fun x => congrFun eFbeltwaymake_Deck_Next x)
noncomputable def Fbeltwayref14_Names  : Option (List ByteArray) :=
some (([(⟨#[115, 101, 109, 105, 115, 112, 97, 99, 101]⟩ : ByteArray), (⟨#[97, 112, 112, 101, 108]⟩ : ByteArray), (⟨#[102, 105, 120, 101, 100]⟩ : ByteArray), (⟨#[111, 108, 100, 101, 114, 45, 102, 105, 114, 115, 116]⟩ : ByteArray), (⟨#[120, 120]⟩ : ByteArray), (⟨#[120, 120, 49, 48, 48]⟩ : ByteArray)] : List ByteArray))
@[reducible] noncomputable def iFbeltwayref14_Names : FnI := { ps := [], rs := [⟨(.slice .str), false, true, false⟩], os := [], bk := [], F := fun x => Fbeltwayref14_Names  }
noncomputable def cFbeltwayref14_Names : Cx := { nm := [(1, (0, 1))], keep := [1], fns := tabF [], loops := [], joins := [], tb := tabs, exts := [], lets := [] }
theorem eFbeltwayref14_Names : (fun x : HT iFbeltwayref14_Names.ps => iFbeltwayref14_Names.F x) = fun x => rk Tryd.prog cFbeltwayref14_Names (Tryd.f17.body.getD .skip) (HT (iFbeltwayref14_Names.rs ++ iFbeltwayref14_Names.os)) 1000000 (finK Tryd.prog [.tmp 0] [] iFbeltwayref14_Names.os (iFbeltwayref14_Names.rs ++ iFbeltwayref14_Names.os)) (initF iFbeltwayref14_Names.ps iFbeltwayref14_Names.sh x 2) (initL iFbeltwayref14_Names.ps x 1) := by kernel_rfl
theorem okFbeltwayref14_Names : CallsV Tryd.prog tabs 17 iFbeltwayref14_Names :=
  callsV_of_rk (cx := cFbeltwayref14_Names) (fn := Tryd.f17) (c := Tryd.f17.body.getD .skip) (n := 2) (N := 1) (rvs := [.tmp 0]) (cxOk TabOk.nil XtOk.nil) Tryd.func17 rfl (by kernel_rfl) rfl rfl (fun x => Nat.le_of_ble_eq_true rfl) (by decide) (fun x => congrFun eFbeltwayref14_Names x)
noncomputable def Fbeltwayref14_Get (a0 : ByteArray) (a1 : Int) : Option ((ByteArray × (List (Nat × Int × Int × Int)) × Int) × Int) :=
Option.bind (Fbeltwayref06_Percent a1) (fun r1 =>
if ¬ r1.2 = 0 then
if a0 = (⟨#[115, 101, 109, 105, 115, 112, 97, 99, 101]⟩ : ByteArray) then
some ((((⟨#[]⟩ : ByteArray), [], 0), 6))
else if a0 = (⟨#[97, 112, 112, 101, 108]⟩ : ByteArray) then
some ((((⟨#[]⟩ : ByteArray), [], 0), 6))
else if a0 = (⟨#[102, 105, 120, 101, 100]⟩ : ByteArray) then
some ((((⟨#[]⟩ : ByteArray), [], 0), 6))
else if a0 = (⟨#[111, 108, 100, 101, 114, 45, 102, 105, 114, 115, 116]⟩ : ByteArray) then
some ((((⟨#[]⟩ : ByteArray), [], 0), 6))
else if a0 = (⟨#[120, 120]⟩ : ByteArray) then
some ((((⟨#[]⟩ : ByteArray), [], 0), 6))
else if a0 = (⟨#[120, 120, 49, 48, 48]⟩ : ByteArray) then
some ((((⟨#[]⟩ : ByteArray), [], 0), 6))
else some ((((⟨#[]⟩ : ByteArray), [], 0), 7))
else if a0 = (⟨#[115, 101, 109, 105, 115, 112, 97, 99, 101]⟩ : ByteArray) then
if a1 < 1 then
some ((((⟨#[]⟩ : ByteArray), [], 0), 6))
else some (((a0, ([(0, 0, 0, 0)] : List (Nat × Int × Int × Int)), 1), 0))
else if a0 = (⟨#[97, 112, 112, 101, 108]⟩ : ByteArray) then
if a1 < 1 then
some ((((⟨#[]⟩ : ByteArray), [], 0), 6))
else some (((a0, ([(0, 0, 0, 1), (0, 0, 0, 1)] : List (Nat × Int × Int × Int)), 8), 0))
else if a0 = (⟨#[102, 105, 120, 101, 100]⟩ : ByteArray) then
if a1 < 1 then
some ((((⟨#[]⟩ : ByteArray), [], 0), 6))
else some (((a0, ([(r1.1, 1, 0, 1), (0, 0, 0, 1)] : List (Nat × Int × Int × Int)), 8), 0))
else if a0 = (⟨#[111, 108, 100, 101, 114, 45, 102, 105, 114, 115, 116]⟩ : ByteArray) then
if a1 < 1 then
some ((((⟨#[]⟩ : ByteArray), [], 0), 6))
else some (((a0, ([(r1.1, 0, 1, 0)] : List (Nat × Int × Int × Int)), 0), 0))
else if a0 = (⟨#[120, 120]⟩ : ByteArray) then
if a1 < 1 then
some ((((⟨#[]⟩ : ByteArray), [], 0), 6))
else some (((a0, ([(r1.1, 0, 1, 1), (r1.1, 0, 1, 1)] : List (Nat × Int × Int × Int)), 0), 0))
else if a0 = (⟨#[120, 120, 49, 48, 48]⟩ : ByteArray) then
if a1 < 1 then
some ((((⟨#[]⟩ : ByteArray), [], 0), 6))
else some (((a0, ([(r1.1, 0, 1, 1), (r1.1, 0, 1, 2), (0, 0, 0, 2)] : List (Nat × Int × Int × Int)), 8), 0))
else some ((((⟨#[]⟩ : ByteArray), [], 0), 7)))
@[reducible] noncomputable def iFbeltwayref14_Get : FnI := { ps := [⟨.str, false, false, false⟩, ⟨(.int .i64), false, false, false⟩], rs := [⟨(.pair .str (.pair (.slice (.pair .flt (.pair (.int .i64) (.pair (.int .i64) (.int .i64))))) (.int .i64))), true, true, false⟩, ⟨(.int .i64), false, true, false⟩], os := [], bk := [], F := fun x => Fbeltwayref14_Get x.1 x.2 }
noncomputable def cFbeltwayref14_Get : Cx := { nm := [(4, (0, 1)), (9, (1, 1)), (28, (2, 1)), (35, (3, 1)), (42, (4, 1)), (48, (5, 1)), (57, (6, 1)), (67, (7, 1))], keep := [28, 35, 42, 48, 57, 67], fns := tabF [(29, iFbeltwayref06_Percent)], loops := [], joins := [], tb := tabs, exts := [], lets := [] }
theorem eFbeltwayref14_Get : (fun x : HT iFbeltwayref14_Get.ps => iFbeltwayref14_Get.F x) = fun x => rk Tryd.prog cFbeltwayref14_Get (Tryd.f16.body.getD .skip) (HT (iFbeltwayref14_Get.rs ++ iFbeltwayref14_Get.os)) 1000000 (finK Tryd.prog [.cell 4 24, .tmp 5] [] iFbeltwayref14_Get.os (iFbeltwayref14_Get.rs ++ iFbeltwayref14_Get.os)) (initF iFbeltwayref14_Get.ps iFbeltwayref14_Get.sh x 72) (initL iFbeltwayref14_Get.ps x 8) := by kernel_rfl
theorem okFbeltwayref14_Get : CallsV Tryd.prog tabs 16 iFbeltwayref14_Get :=
  callsV_of_rk (cx := cFbeltwayref14_Get) (fn := Tryd.f16) (c := Tryd.f16.body.getD .skip) (n := 72) (N := 8) (rvs := [.cell 4 24, .tmp 5]) (cxOk (.cons okFbeltwayref06_Percent TabOk.nil) XtOk.nil) Tryd.func16 rfl (by kernel_rfl) rfl rfl (fun x => Nat.le_of_ble_eq_true rfl) (by decide) (fun x => congrFun eFbeltwayref14_Get x)
noncomputable def Fbeltwaymake_Share (a0 : ((List Int) × Int)) : Option (Nat × ((List Int) × Int)) :=
Option.bind (Fbeltwaymake_Deck_Next a0 4) (fun r1 =>
if r1.1 = 0 then
Option.bind (Fbeltwaymake_Deck_Next r1.2 5) (fun r2 =>
if 0 ≤ r2.1 ∧ r2.1 < (([4602678819172646912, 4593671619917905920, 4607182418800017408, 4599676419421066581, 4562254508917369340] : List Nat).length : Int) then
some ((gl (0 : Nat) ([4602678819172646912, 4593671619917905920, 4607182418800017408, 4599676419421066581, 4562254508917369340] : List Nat) r2.1.toNat, r2.2))
else none)
else Option.bind (Fbeltwaymake_Deck_Next r1.2 100) (fun r3 =>
Option.bind (Fbeltwayref06_Percent (w64 ((1 : Int) + r3.1))) (fun r4 =>
some ((r4.1, r3.2)))))
@[reducible] noncomputable def iFbeltwaymake_Share : FnI := { ps := [⟨(.pair (.slice (.int .i64)) (.int .i64)), true, false, true⟩], rs := [⟨.flt, false, true, false⟩], os := [⟨(.pair (.slice (.int .i64)) (.int .i64)), true, false, true⟩], bk := [0], F := fun x => Fbeltwaymake_Share x }
noncomputable def cFbeltwaymake_Share : Cx := { nm := [(6, (2, 1)), (8, (3, 1)), (10, (4, 1)), (15, (5, 1))], keep := [], fns := tabF [(15, iFbeltwaymake_Deck_Next), (29, iFbeltwayref06_Percent)], loops := [], joins := [], tb := tabs, exts := [], lets := [] }
theorem eFbeltwaymake_Share : (fun x : HT iFbeltwaymake_Share.ps => iFbeltwaymake_Share.F x) = fun x => rk Tryd.prog cFbeltwaymake_Share (Tryd.f18.body.getD .skip) (HT (iFbeltwaymake_Share.rs ++ iFbeltwaymake_Share.os)) 1000000 (finK Tryd.prog [.tmp 2] [0] iFbeltwaymake_Share.os (iFbeltwaymake_Share.rs ++ iFbeltwaymake_Share.os)) (initF iFbeltwaymake_Share.ps iFbeltwaymake_Share.sh x 21) (initL iFbeltwaymake_Share.ps x 4) := by kernel_rfl
theorem okFbeltwaymake_Share : CallsV Tryd.prog tabs 18 iFbeltwaymake_Share :=
  callsV_of_rk (cx := cFbeltwaymake_Share) (fn := Tryd.f18) (c := Tryd.f18.body.getD .skip) (n := 21) (N := 4) (rvs := [.tmp 2]) (cxOk (.cons okFbeltwaymake_Deck_Next (.cons okFbeltwayref06_Percent TabOk.nil)) XtOk.nil) Tryd.func18 rfl (by kernel_rfl) rfl rfl (fun x => Nat.le_of_ble_eq_true rfl) (by decide) (fun x => congrFun eFbeltwaymake_Share x)
noncomputable def Fbeltwaymake_Config (a0 : ((List Int) × Int)) : Option ((ByteArray × (List (Nat × Int × Int × Int)) × Int) × ((List Int) × Int)) :=
Option.bind (Fbeltwaymake_Deck_Next a0 3) (fun r1 =>
if r1.1 > 0 then
Option.bind (Fbeltwayref14_Names) (fun r2 =>
Option.bind (Fbeltwaymake_Deck_Next r1.2 6) (fun r3 =>
if 0 ≤ r3.1 ∧ r3.1 < (r2.length : Int) then
Option.bind (Fbeltwaymake_Deck_Next r3.2 100) (fun r4 =>
Option.bind (Fbeltwaymake_Deck_Next r4.2 6) (fun r5 =>
if 0 ≤ r5.1 ∧ r5.1 < (([10, 15, 25, 30, 50, w64 ((1 : Int) + r4.1)] : List Int).length : Int) then
Option.bind (Fbeltwayref14_Get (gl (⟨#[]⟩ : ByteArray) r2 r3.1.toNat) (gl (0 : Int) ([10, 15, 25, 30, 50, w64 ((1 : Int) + r4.1)] : List Int) r5.1.toNat)) (fun r6 =>
Option.bind (α := (((List Int) × Int) × (ByteArray × (List (Nat × Int × Int × Int)) × Int)) ⊕ ((ByteArray × (List (Nat × Int × Int × Int)) × Int) × ((List Int) × Int))) (if r6.1.2.2 > 0 then
Option.bind (Fbeltwaymake_Deck_Next r5.2 5) (fun r7 =>
some (Sum.inl ((r7.2, (r6.1.1, r6.1.2.1, w64 ((1 : Int) + r7.1))))))
else some (Sum.inl ((r5.2, r6.1)))) (fun q => match q with
| Sum.inl j1 => (some ((j1.2, j1.1)))
| Sum.inr b1 => some b1))
else none))
else none))
else Option.bind (Fbeltwaymake_Deck_Next r1.2 4) (fun r8 =>
loopO (σ := (Int × ((List Int) × Int) × (ByteArray × (List (Nat × Int × Int × Int)) × Int))) (β := ((ByteArray × (List (Nat × Int × Int × Int)) × Int) × ((List Int) × Int))) (fun s1 =>
if s1.1 < (w64 ((1 : Int) + r8.1)) then
Option.bind (Fbeltwaymake_Deck_Next s1.2.1 3) (fun r9 =>
Option.bind (α := (((List Int) × Int) × (Nat × Int × Int × Int)) ⊕ ((Int × ((List Int) × Int) × (ByteArray × (List (Nat × Int × Int × Int)) × Int)) ⊕ ((ByteArray × (List (Nat × Int × Int × Int)) × Int) × ((List Int) × Int)))) (Option.bind (Fbeltwaymake_Deck_Next r9.2 3) (fun r10 =>
if r10.1 > 0 then
Option.bind (Fbeltwaymake_Share r10.2) (fun r11 =>
some (Sum.inl ((r11.2, (r11.1, 0, r9.1, w64 (s1.1 + 1))))))
else some (Sum.inl ((r10.2, (0, 0, r9.1, w64 (s1.1 + 1))))))) (fun q => match q with
| Sum.inl j2 => (if s1.1 < (w64 ((w64 ((1 : Int) + r8.1)) - 1)) then
Option.bind (Fbeltwaymake_Deck_Next j2.1 3) (fun r12 =>
if r12.1 = 0 then
Option.bind (Fbeltwaymake_Deck_Next r12.2 2) (fun r13 =>
if s1.1 = (w64 ((w64 ((1 : Int) + r8.1)) - 1)) then
if fOrd j2.2.1 0 = some .eq then
Option.bind (Fbeltwaymake_Deck_Next r13.2 6) (fun r14 =>
if (s1.2.2.2.1.length + ([(j2.2.1, w64 ((1 : Int) + r13.1), j2.2.2.2.1, s1.1)] : List (Nat × Int × Int × Int)).length) * 32 ≤ 140737488355328 then
some (Sum.inl ((w64 (s1.1 + 1), r14.2, (s1.2.2.1, s1.2.2.2.1 ++ ([(j2.2.1, w64 ((1 : Int) + r13.1), j2.2.2.2.1, s1.1)] : List (Nat × Int × Int × Int)), w64 ((1 : Int) + r14.1)))))
else none)
else if (s1.2.2.2.1.length + ([(j2.2.1, w64 ((1 : Int) + r13.1), j2.2.2.2.1, s1.1)] : List (Nat × Int × Int × Int)).length) * 32 ≤ 140737488355328 then
some (Sum.inl ((w64 (s1.1 + 1), r13.2, (s1.2.2.1, s1.2.2.2.1 ++ ([(j2.2.1, w64 ((1 : Int) + r13.1), j2.2.2.2.1, s1.1)] : List (Nat × Int × Int × Int)), s1.2.2.2.2))))
else none
else if (s1.2.2.2.1.length + ([(j2.2.1, w64 ((1 : Int) + r13.1), j2.2.2.2)] : List (Nat × Int × Int × Int)).length) * 32 ≤ 140737488355328 then
some (Sum.inl ((w64 (s1.1 + 1), r13.2, (s1.2.2.1, s1.2.2.2.1 ++ ([(j2.2.1, w64 ((1 : Int) + r13.1), j2.2.2.2)] : List (Nat × Int × Int × Int)), s1.2.2.2.2))))
else none)
else if s1.1 = (w64 ((w64 ((1 : Int) + r8.1)) - 1)) then
if fOrd j2.2.1 0 = some .eq then
Option.bind (Fbeltwaymake_Deck_Next r12.2 6) (fun r15 =>
if (s1.2.2.2.1.length + ([(j2.2.1, j2.2.2.1, j2.2.2.2.1, s1.1)] : List (Nat × Int × Int × Int)).length) * 32 ≤ 140737488355328 then
some (Sum.inl ((w64 (s1.1 + 1), r15.2, (s1.2.2.1, s1.2.2.2.1 ++ ([(j2.2.1, j2.2.2.1, j2.2.2.2.1, s1.1)] : List (Nat × Int × Int × Int)), w64 ((1 : Int) + r15.1)))))
else none)
else if (s1.2.2.2.1.length + ([(j2.2.1, j2.2.2.1, j2.2.2.2.1, s1.1)] : List (Nat × Int × Int × Int)).length) * 32 ≤ 140737488355328 then
some (Sum.inl ((w64 (s1.1 + 1), r12.2, (s1.2.2.1, s1.2.2.2.1 ++ ([(j2.2.1, j2.2.2.1, j2.2.2.2.1, s1.1)] : List (Nat × Int × Int × Int)), s1.2.2.2.2))))
else none
else if (s1.2.2.2.1.length + ([j2.2] : List (Nat × Int × Int × Int)).length) * 32 ≤ 140737488355328 then
some (Sum.inl ((w64 (s1.1 + 1), r12.2, (s1.2.2.1, s1.2.2.2.1 ++ ([j2.2] : List (Nat × Int × Int × Int)), s1.2.2.2.2))))
else none)
else if s1.1 = (w64 ((w64 ((1 : Int) + r8.1)) - 1)) then
if fOrd j2.2.1 0 = some .eq then
Option.bind (Fbeltwaymake_Deck_Next j2.1 6) (fun r16 =>
if (s1.2.2.2.1.length + ([(j2.2.1, j2.2.2.1, j2.2.2.2.1, s1.1)] : List (Nat × Int × Int × Int)).length) * 32 ≤ 140737488355328 then
some (Sum.inl ((w64 (s1.1 + 1), r16.2, (s1.2.2.1, s1.2.2.2.1 ++ ([(j2.2.1, j2.2.2.1, j2.2.2.2.1, s1.1)] : List (Nat × Int × Int × Int)), w64 ((1 : Int) + r16.1)))))
else none)
else if (s1.2.2.2.1.length + ([(j2.2.1, j2.2.2.1, j2.2.2.2.1, s1.1)] : List (Nat × Int × Int × Int)).length) * 32 ≤ 140737488355328 then
some (Sum.inl ((w64 (s1.1 + 1), j2.1, (s1.2.2.1, s1.2.2.2.1 ++ ([(j2.2.1, j2.2.2.1, j2.2.2.2.1, s1.1)] : List (Nat × Int × Int × Int)), s1.2.2.2.2))))
else none
else if (s1.2.2.2.1.length + ([j2.2] : List (Nat × Int × Int × Int)).length) * 32 ≤ 140737488355328 then
some (Sum.inl ((w64 (s1.1 + 1), j2.1, (s1.2.2.1, s1.2.2.2.1 ++ ([j2.2] : List (Nat × Int × Int × Int)), s1.2.2.2.2))))
else none)
| Sum.inr b2 => some b2))
else some (Sum.inr ((s1.2.2, s1.2.1)))) ((0, r8.2, ((⟨#[111, 119, 110]⟩ : ByteArray), [], 0)))))
@[reducible] noncomputable def iFbeltwaymake_Config : FnI := { ps := [⟨(.pair (.slice (.int .i64)) (.int .i64)), true, false, true⟩], rs := [⟨(.pair .str (.pair (.slice (.pair .flt (.pair (.int .i64) (.pair (.int .i64) (.int .i64))))) (.int .i64))), true, true, false⟩], os := [⟨(.pair (.slice (.int .i64)) (.int .i64)), true, false, true⟩], bk := [0], F := fun x => Fbeltwaymake_Config x }
noncomputable def cFbeltwaymake_Config : Cx := { nm := [(2, (2, 1)), (3, (10, 1)), (6, (15, 1)), (8, (17, 1)), (10, (3, 1)), (13, (4, 1)), (15, (5, 1)), (19, (6, 1)), (21, (7, 1)), (23, (8, 1)), (26, (9, 1)), (33, (11, 1)), (38, (14, 1)), (47, (16, 1)), (52, (18, 1)), (55, (19, 1)), (63, (21, 1)), (67, (22, 1)), (80, (23, 1)), (86, (24, 1)), (87, (25, 1))], keep := [87], fns := tabF [(15, iFbeltwaymake_Deck_Next), (16, iFbeltwayref14_Get), (17, iFbeltwayref14_Names), (18, iFbeltwaymake_Share)], loops := [(0, { live := [(7, ⟨(.int .i64), false, false, false⟩)], boxes := [(0, ⟨(.pair (.slice (.int .i64)) (.int .i64)), true, false, false⟩), (15, ⟨(.pair .str (.pair (.slice (.pair .flt (.pair (.int .i64) (.pair (.int .i64) (.int .i64))))) (.int .i64))), true, true, false⟩)], rows := [], dead := [8, 41, 42, 43, 44, 45, 46, 47, 48, 49, 50, 51, 52, 53, 54, 55, 56, 57, 58, 59, 60, 61, 62, 63, 64, 65, 66, 67, 68, 69, 70, 71, 72, 73, 74, 75, 76, 77, 78, 79, 80, 81, 82, 83, 84, 85, 86, 87, 88], lost := [], base := 27 })], joins := [(5, { live := [], boxes := [(0, ⟨(.pair (.slice (.int .i64)) (.int .i64)), true, false, false⟩), (10, ⟨(.pair .str (.pair (.slice (.pair .flt (.pair (.int .i64) (.pair (.int .i64) (.int .i64))))) (.int .i64))), true, true, false⟩)], rows := [], dead := [29, 30, 31, 32, 33, 34, 35], lost := [9], base := 12 }), (14, { live := [], boxes := [(0, ⟨(.pair (.slice (.int .i64)) (.int .i64)), true, false, false⟩), (17, ⟨(.pair .flt (.pair (.int .i64) (.pair (.int .i64) (.int .i64)))), true, false, false⟩)], rows := [], dead := [51, 52, 53, 54, 55, 56], lost := [], base := 20 })], tb := tabs, exts := [], lets := [] }
theorem eFbeltwaymake_Config : (fun x : HT iFbeltwaymake_Config.ps => iFbeltwaymake_Config.F x) = fun x => rk Tryd.prog cFbeltwaymake_Config (Tryd.f7.body.getD .skip) (HT (iFbeltwaymake_Config.rs ++ iFbeltwaymake_Config.os)) 1000000 (finK Tryd.prog [.cell 2 24] [0] iFbeltwaymake_Config.os (iFbeltwaymake_Config.rs ++ iFbeltwaymake_Config.os)) (initF iFbeltwaymake_Config.ps iFbeltwaymake_Config.sh x 90) (initL iFbeltwaymake_Config.ps x 27) := by kernel_rfl
theorem okFbeltwaymake_Config : CallsV Tryd.prog tabs 7 iFbeltwaymake_Config :=
  callsV_of_rk (cx := cFbeltwaymake_Config) (fn := Tryd.f7) (c := Tryd.f7.body.getD .skip) (n := 90) (N := 27) (rvs := [.cell 2 24]) (cxOk (.cons okFbeltwaymake_Deck_Next (.cons okFbeltwayref14_Get (.cons okFbeltwayref14_Names (.cons okFbeltwaymake_Share TabOk.nil)))) XtOk.nil) Tryd.func7 rfl (by kernel_rfl) rfl rfl (fun x => Nat.le_of_ble_eq_true rfl) (by decide) (fun x => congrFun eFbeltwaymake_Config x)

noncomputable def Fbeltwayref12_Same (a0 : (ByteArray × (List (Nat × Int × Int × Int)) × Int)) (a1 : (ByteArray × (List (Nat × Int × Int × Int)) × Int)) : Option Bool :=
if ¬ a0.1 = a1.1 then
some (false)
else if ¬ a0.2.2 = a1.2.2 then
some (false)
else if ¬ (a0.2.1.length : Int) = (a1.2.1.length : Int) then
some (false)
else loopO (σ := Int) (β := Bool) (fun s1 =>
if s1 < (a0.2.1.length : Int) then
if 0 ≤ s1 ∧ s1 < (a0.2.1.length : Int) then
if 0 ≤ s1 ∧ s1 < (a1.2.1.length : Int) then
if ((gl ((0, 0, 0, 0) : (Nat × Int × Int × Int)) a0.2.1 s1.toNat).1) < 18446744073709551616 then
if ((gl ((0, 0, 0, 0) : (Nat × Int × Int × Int)) a1.2.1 s1.toNat).1) < 18446744073709551616 then
if ¬ (BitVec.ofNat 64 ((gl ((0, 0, 0, 0) : (Nat × Int × Int × Int)) a0.2.1 s1.toNat).1)) = (BitVec.ofNat 64 ((gl ((0, 0, 0, 0) : (Nat × Int × Int × Int)) a1.2.1 s1.toNat).1)) then
some (Sum.inr (false))
else if ¬ (((gl ((0, 0, 0, 0) : (Nat × Int × Int × Int)) a0.2.1 s1.toNat).2).1) = (((gl ((0, 0, 0, 0) : (Nat × Int × Int × Int)) a1.2.1 s1.toNat).2).1) then
some (Sum.inr (false))
else if ¬ ((((gl ((0, 0, 0, 0) : (Nat × Int × Int × Int)) a0.2.1 s1.toNat).2).2).1) = ((((gl ((0, 0, 0, 0) : (Nat × Int × Int × Int)) a1.2.1 s1.toNat).2).2).1) then
some (Sum.inr (false))
else if ¬ ((((gl ((0, 0, 0, 0) : (Nat × Int × Int × Int)) a0.2.1 s1.toNat).2).2).2) = ((((gl ((0, 0, 0, 0) : (Nat × Int × Int × Int)) a1.2.1 s1.toNat).2).2).2) then
some (Sum.inr (false))
else some (Sum.inl (w64 (s1 + 1)))
else none
else none
else none
else none
else some (Sum.inr (true))) (0)
@[reducible] noncomputable def iFbeltwayref12_Same : FnI := { ps := [⟨(.pair .str (.pair (.slice (.pair .flt (.pair (.int .i64) (.pair (.int .i64) (.int .i64))))) (.int .i64))), true, false, false⟩, ⟨(.pair .str (.pair (.slice (.pair .flt (.pair (.int .i64) (.pair (.int .i64) (.int .i64))))) (.int .i64))), true, false, false⟩], rs := [⟨.bool, false, true, false⟩], os := [], bk := [], F := fun x => Fbeltwayref12_Same x.1 x.2 }
noncomputable def cFbeltwayref12_Same : Cx := { nm := [(2, (2, 1)), (3, (3, 1)), (6, (4, 1)), (7, (5, 1))], keep := [], fns := tabF [], loops := [(0, { live := [(32, ⟨(.int .i64), false, false, false⟩)], boxes := [], rows := [], dead := [4, 5, 6, 7, 33, 34, 35, 36, 37, 38, 39, 40, 41, 42, 43, 44, 45, 46, 47, 48, 49, 50, 51, 52, 53, 54, 55, 56, 57, 58, 59, 60, 61, 62, 63, 64, 65, 66, 67, 68, 69, 70], lost := [], base := 4 })], joins := [], tb := tabs, exts := [(30, .f64bits)], lets := [] }
theorem eFbeltwayref12_Same : (fun x : HT iFbeltwayref12_Same.ps => iFbeltwayref12_Same.F x) = fun x => rk Tryd.prog cFbeltwayref12_Same (Tryd.f14.body.getD .skip) (HT (iFbeltwayref12_Same.rs ++ iFbeltwayref12_Same.os)) 1000000 (finK Tryd.prog [.tmp 4] [] iFbeltwayref12_Same.os (iFbeltwayref12_Same.rs ++ iFbeltwayref12_Same.os)) (initF iFbeltwayref12_Same.ps iFbeltwayref12_Same.sh x 71) (initL iFbeltwayref12_Same.ps x 4) := by kernel_rfl
theorem okFbeltwayref12_Same : CallsV Tryd.prog tabs 14 iFbeltwayref12_Same :=
  callsV_of_rk (cx := cFbeltwayref12_Same) (fn := Tryd.f14) (c := Tryd.f14.body.getD .skip) (n := 71) (N := 4) (rvs := [.tmp 4]) (cxOk TabOk.nil (.cons xt30 XtOk.nil)) Tryd.func14 rfl (by kernel_rfl) rfl rfl (fun x => Nat.le_of_ble_eq_true rfl) (by decide) (fun x => congrFun eFbeltwayref12_Same x)
noncomputable def Fshare_ToPercent (a0 : Nat) : Option (Int × Bool) :=
loopO (σ := Int) (β := (Int × Bool)) (fun s1 =>
if s1 ≤ 100 then
Option.bind (Fshare_Percent s1) (fun r1 =>
if a0 < 18446744073709551616 then
if r1.1 < 18446744073709551616 then
if (BitVec.ofNat 64 a0) = (BitVec.ofNat 64 r1.1) then
some (Sum.inr ((s1, true)))
else some (Sum.inl (w64 (s1 + 1)))
else none
else none)
else some (Sum.inr ((0, false)))) (0)
@[reducible] noncomputable def iFshare_ToPercent : FnI := { ps := [⟨.flt, false, false, false⟩], rs := [⟨(.int .i64), false, true, false⟩, ⟨.bool, false, true, false⟩], os := [], bk := [], F := fun x => Fshare_ToPercent x }
noncomputable def cFshare_ToPercent : Cx := { nm := [], keep := [], fns := tabF [(34, iFshare_Percent)], loops := [(0, { live := [(4, ⟨(.int .i64), false, false, false⟩)], boxes := [], rows := [], dead := [2, 3, 5, 6, 7, 8, 9, 10, 11, 12, 13, 14, 15, 16, 17, 18, 19, 20, 21], lost := [], base := 0 })], joins := [], tb := tabs, exts := [(30, .f64bits)], lets := [] }
theorem eFshare_ToPercent : (fun x : HT iFshare_ToPercent.ps => iFshare_ToPercent.F x) = fun x => rk Tryd.prog cFshare_ToPercent (Tryd.f20.body.getD .skip) (HT (iFshare_ToPercent.rs ++ iFshare_ToPercent.os)) 1000000 (finK Tryd.prog [.tmp 2, .tmp 3] [] iFshare_ToPercent.os (iFshare_ToPercent.rs ++ iFshare_ToPercent.os)) (initF iFshare_ToPercent.ps iFshare_ToPercent.sh x 22) (initL iFshare_ToPercent.ps x 0) := by kernel_rfl
theorem okFshare_ToPercent : CallsV Tryd.prog tabs 20 iFshare_ToPercent :=
  callsV_of_rk (cx := cFshare_ToPercent) (fn := Tryd.f20) (c := Tryd.f20.body.getD .skip) (n := 22) (N := 0) (rvs := [.tmp 2, .tmp 3]) (cxOk (.cons okFshare_Percent TabOk.nil) (.cons xt30 XtOk.nil)) Tryd.func20 rfl (by kernel_rfl) rfl rfl (fun x => Nat.le_of_ble_eq_true rfl) (by decide) (fun x => congrFun eFshare_ToPercent x)
noncomputable def Fbeltwayref06_ToPercent (a0 : Nat) : Option (Int × Bool) :=
loopO (σ := Int) (β := (Int × Bool)) (fun s1 =>
if s1 ≤ 100 then
Option.bind (Fbeltwayref06_Percent s1) (fun r1 =>
if a0 < 18446744073709551616 then
if r1.1 < 18446744073709551616 then
if (BitVec.ofNat 64 a0) = (BitVec.ofNat 64 r1.1) then
some (Sum.inr ((s1, true)))
else some (Sum.inl (w64 (s1 + 1)))
else none
else none)
else some (Sum.inr ((0, false)))) (0)
@[reducible] noncomputable def iFbeltwayref06_ToPercent : FnI := { ps := [⟨.flt, false, false, false⟩], rs := [⟨(.int .i64), false, true, false⟩, ⟨.bool, false, true, false⟩], os := [], bk := [], F := fun x => Fbeltwayref06_ToPercent x }
noncomputable def cFbeltwayref06_ToPercent : Cx := { nm := [], keep := [], fns := tabF [(29, iFbeltwayref06_Percent)], loops := [(0, { live := [(4, ⟨(.int .i64), false, false, false⟩)], boxes := [], rows := [], dead := [2, 3, 5, 6, 7, 8, 9, 10, 11, 12, 13, 14, 15, 16, 17, 18, 19, 20, 21], lost := [], base := 0 })], joins := [], tb := tabs, exts := [(30, .f64bits)], lets := [] }
theorem eFbeltwayref06_ToPercent : (fun x : HT iFbeltwayref06_ToPercent.ps => iFbeltwayref06_ToPercent.F x) = fun x => rk Tryd.prog cFbeltwayref06_ToPercent (Tryd.f25.body.getD .skip) (HT (iFbeltwayref06_ToPercent.rs ++ iFbeltwayref06_ToPercent.os)) 1000000 (finK Tryd.prog [.tmp 2, .tmp 3] [] iFbeltwayref06_ToPercent.os (iFbeltwayref06_ToPercent.rs ++ iFbeltwayref06_ToPercent.os)) (initF iFbeltwayref06_ToPercent.ps iFbeltwayref06_ToPercent.sh x 22) (initL iFbeltwayref06_ToPercent.ps x 0) := by kernel_rfl
theorem okFbeltwayref06_ToPercent : CallsV Tryd.prog tabs 25 iFbeltwayref06_ToPercent :=
  callsV_of_rk (cx := cFbeltwayref06_ToPercent) (fn := Tryd.f25) (c := Tryd.f25.body.getD .skip) (n := 22) (N := 0) (rvs := [.tmp 2, .tmp 3]) (cxOk (.cons okFbeltwayref06_Percent TabOk.nil) (.cons xt30 XtOk.nil)) Tryd.func25 rfl (by kernel_rfl) rfl rfl (fun x => Nat.le_of_ble_eq_true rfl) (by decide) (fun x => congrFun eFbeltwayref06_ToPercent x)
end Go.Proofs.YtmcahbbelnjhiaaDoor
