/-
  The functions of the laws of package share (printed, and checked by the kernel).
-/
import Derived.Test.YtgegpaefamemlaaProg
import Derived.Test.YtgegpaefamemlaaChecked
import Derived.Test.YtgegpaefamemlaaTabV
import Derived.KernelRfl
import Derived.Test.YtgegpaefamemlaaLibV
set_option linter.unusedVariables false
set_option maxRecDepth 100000
namespace Go.Proofs.Ytgegpaefamemlaa
open Go Go.V3
noncomputable def Fbeltwaymake_Mod (a0 : Int) (a1 : Int) : Option Int :=
if ¬ a1 = 0 then
if (Int.tmod a0 a1) < 0 then
some (w64 ((Int.tmod a0 a1) + a1))
else some (Int.tmod a0 a1)
else none
@[reducible] noncomputable def iFbeltwaymake_Mod : FnI := { ps := [⟨(.int .i64), false, false, false⟩, ⟨(.int .i64), false, false, false⟩], rs := [⟨(.int .i64), false, true, false⟩], os := [], bk := [], F := fun x => Fbeltwaymake_Mod x.1 x.2 }
noncomputable def cFbeltwaymake_Mod : Cx := { nm := [], keep := [], fns := tabF [], loops := [], joins := [], tb := tabs, exts := [], lets := [] }
theorem eFbeltwaymake_Mod : (fun x : HT iFbeltwaymake_Mod.ps => iFbeltwaymake_Mod.F x) = fun x => rk Try.prog cFbeltwaymake_Mod (Try.f10.body.getD .skip) (HT (iFbeltwaymake_Mod.rs ++ iFbeltwaymake_Mod.os)) 1000000 (finK Try.prog [.tmp 4] [] iFbeltwaymake_Mod.os (iFbeltwaymake_Mod.rs ++ iFbeltwaymake_Mod.os)) (initF iFbeltwaymake_Mod.ps iFbeltwaymake_Mod.sh x 15) (initL iFbeltwaymake_Mod.ps x 0) := by kernel_rfl
theorem okFbeltwaymake_Mod : CallsV Try.prog tabs 10 iFbeltwaymake_Mod :=
  callsV_of_rk (cx := cFbeltwaymake_Mod) (fn := Try.f10) (c := Try.f10.body.getD .skip) (n := 15) (N := 0) (rvs := [.tmp 4]) (cxOk TabOk.nil XtOk.nil) Try.func10 rfl (by kernel_rfl) rfl rfl (fun x => Nat.le_of_ble_eq_true rfl) (by decide) (fun x => congrFun eFbeltwaymake_Mod x)
noncomputable def Fshare_Valid (a0 : Nat) : Option Bool :=
if a0 < 18446744073709551616 then
if (BitVec.ofNat 64 a0) = (0#64) then
some (true)
else if fOrd a0 0 = some .gt then
some (decide (fOrd a0 4607182418800017408 = some .lt ∨ fOrd a0 4607182418800017408 = some .eq))
else some (false)
else none
@[reducible] noncomputable def iFshare_Valid : FnI := { ps := [⟨.flt, false, false, false⟩], rs := [⟨.bool, false, true, false⟩], os := [], bk := [], F := fun x => Fshare_Valid x }
noncomputable def cFshare_Valid : Cx := { nm := [], keep := [], fns := tabF [], loops := [], joins := [], tb := tabs, exts := [(12, .f64bits)], lets := [] }
theorem eFshare_Valid : (fun x : HT iFshare_Valid.ps => iFshare_Valid.F x) = fun x => rk Try.prog cFshare_Valid (Try.f18.body.getD .skip) (HT (iFshare_Valid.rs ++ iFshare_Valid.os)) 1000000 (finK Try.prog [.tmp 2] [] iFshare_Valid.os (iFshare_Valid.rs ++ iFshare_Valid.os)) (initF iFshare_Valid.ps iFshare_Valid.sh x 14) (initL iFshare_Valid.ps x 0) := by kernel_rfl
theorem xt12 : XtOk Try.prog 12 .f64bits := ⟨Try.f12, Try.func12, by kernel_rfl, by kernel_rfl, by kernel_rfl, by kernel_rfl⟩
theorem okFshare_Valid : CallsV Try.prog tabs 18 iFshare_Valid :=
  callsV_of_rk (cx := cFshare_Valid) (fn := Try.f18) (c := Try.f18.body.getD .skip) (n := 14) (N := 0) (rvs := [.tmp 2]) (cxOk TabOk.nil (.cons xt12 XtOk.nil)) Try.func18 rfl (by kernel_rfl) rfl rfl (fun x => Nat.le_of_ble_eq_true rfl) (by decide) (fun x => congrFun eFshare_Valid x)
noncomputable def Fmath_Abs (a0 : Nat) : Option Nat :=
if a0 < 18446744073709551616 then
some (((BitVec.ofNat 64 a0) &&& ~~~(9223372036854775808#64)).toNat)
else none
@[reducible] noncomputable def iFmath_Abs : FnI := { ps := [⟨.flt, false, false, false⟩], rs := [⟨.flt, false, true, false⟩], os := [], bk := [], F := fun x => Fmath_Abs x }
noncomputable def cFmath_Abs : Cx := { nm := [], keep := [], fns := tabF [], loops := [], joins := [], tb := tabs, exts := [(9, .f64from), (12, .f64bits)], lets := [] }
theorem eFmath_Abs : (fun x : HT iFmath_Abs.ps => iFmath_Abs.F x) = fun x => rk Try.prog cFmath_Abs (Try.f39.body.getD .skip) (HT (iFmath_Abs.rs ++ iFmath_Abs.os)) 1000000 (finK Try.prog [.tmp 2] [] iFmath_Abs.os (iFmath_Abs.rs ++ iFmath_Abs.os)) (initF iFmath_Abs.ps iFmath_Abs.sh x 7) (initL iFmath_Abs.ps x 0) := by kernel_rfl
theorem xt9 : XtOk Try.prog 9 .f64from := ⟨Try.f9, Try.func9, by kernel_rfl, by kernel_rfl, by kernel_rfl, by kernel_rfl⟩
theorem okFmath_Abs : CallsV Try.prog tabs 39 iFmath_Abs :=
  callsV_of_rk (cx := cFmath_Abs) (fn := Try.f39) (c := Try.f39.body.getD .skip) (n := 7) (N := 0) (rvs := [.tmp 2]) (cxOk TabOk.nil (.cons xt9 (.cons xt12 XtOk.nil))) Try.func39 rfl (by kernel_rfl) rfl rfl (fun x => Nat.le_of_ble_eq_true rfl) (by decide) (fun x => congrFun eFmath_Abs x)
noncomputable def Fmath_IsInf (a0 : Nat) (a1 : Int) : Option Bool :=
if a1 = 0 then
Option.bind (Fmath_Abs a0) (fun r1 =>
some (decide (fOrd r1 9218868437227405311 = some .gt)))
else if a1 < 0 then
some (decide (fOrd (fNeg a0) 9218868437227405311 = some .gt))
else some (decide (fOrd a0 9218868437227405311 = some .gt))
@[reducible] noncomputable def iFmath_IsInf : FnI := { ps := [⟨.flt, false, false, false⟩, ⟨(.int .i64), false, false, false⟩], rs := [⟨.bool, false, true, false⟩], os := [], bk := [], F := fun x => Fmath_IsInf x.1 x.2 }
noncomputable def cFmath_IsInf : Cx := { nm := [], keep := [], fns := tabF [(39, iFmath_Abs)], loops := [], joins := [], tb := tabs, exts := [], lets := [] }
theorem eFmath_IsInf : (fun x : HT iFmath_IsInf.ps => iFmath_IsInf.F x) = fun x => rk Try.prog cFmath_IsInf (Try.f36.body.getD .skip) (HT (iFmath_IsInf.rs ++ iFmath_IsInf.os)) 1000000 (finK Try.prog [.tmp 4] [] iFmath_IsInf.os (iFmath_IsInf.rs ++ iFmath_IsInf.os)) (initF iFmath_IsInf.ps iFmath_IsInf.sh x 15) (initL iFmath_IsInf.ps x 0) := by kernel_rfl
theorem okFmath_IsInf : CallsV Try.prog tabs 36 iFmath_IsInf :=
  callsV_of_rk (cx := cFmath_IsInf) (fn := Try.f36) (c := Try.f36.body.getD .skip) (n := 15) (N := 0) (rvs := [.tmp 4]) (cxOk (.cons okFmath_Abs TabOk.nil) XtOk.nil) Try.func36 rfl (by kernel_rfl) rfl rfl (fun x => Nat.le_of_ble_eq_true rfl) (by decide) (fun x => congrFun eFmath_IsInf x)
noncomputable def Fmath_IsNaN (a0 : Nat) : Option Bool :=
some (decide (¬ fOrd a0 a0 = some .eq))
@[reducible] noncomputable def iFmath_IsNaN : FnI := { ps := [⟨.flt, false, false, false⟩], rs := [⟨.bool, false, true, false⟩], os := [], bk := [], F := fun x => Fmath_IsNaN x }
noncomputable def cFmath_IsNaN : Cx := { nm := [], keep := [], fns := tabF [], loops := [], joins := [], tb := tabs, exts := [], lets := [] }
theorem eFmath_IsNaN : (fun x : HT iFmath_IsNaN.ps => iFmath_IsNaN.F x) = fun x => rk Try.prog cFmath_IsNaN (Try.f37.body.getD .skip) (HT (iFmath_IsNaN.rs ++ iFmath_IsNaN.os)) 1000000 (finK Try.prog [.tmp 2] [] iFmath_IsNaN.os (iFmath_IsNaN.rs ++ iFmath_IsNaN.os)) (initF iFmath_IsNaN.ps iFmath_IsNaN.sh x 6) (initL iFmath_IsNaN.ps x 0) := by kernel_rfl
theorem okFmath_IsNaN : CallsV Try.prog tabs 37 iFmath_IsNaN :=
  callsV_of_rk (cx := cFmath_IsNaN) (fn := Try.f37) (c := Try.f37.body.getD .skip) (n := 6) (N := 0) (rvs := [.tmp 2]) (cxOk TabOk.nil XtOk.nil) Try.func37 rfl (by kernel_rfl) rfl rfl (fun x => Nat.le_of_ble_eq_true rfl) (by decide) (fun x => congrFun eFmath_IsNaN x)
noncomputable def Fmath_normalize (a0 : Nat) : Option (Nat × Int) :=
Option.bind (Fmath_Abs a0) (fun r1 =>
if fOrd r1 4503599627370496 = some .lt then
if (fArith .mul a0 4841369599423283200).isSome = true then
some (((fArith .mul a0 4841369599423283200).getD 0, (-52)))
else none
else some ((a0, 0)))
@[reducible] noncomputable def iFmath_normalize : FnI := { ps := [⟨.flt, false, false, false⟩], rs := [⟨.flt, false, true, false⟩, ⟨(.int .i64), false, true, false⟩], os := [], bk := [], F := fun x => Fmath_normalize x }
noncomputable def cFmath_normalize : Cx := { nm := [], keep := [], fns := tabF [(39, iFmath_Abs)], loops := [], joins := [], tb := tabs, exts := [], lets := [] }
theorem eFmath_normalize : (fun x : HT iFmath_normalize.ps => iFmath_normalize.F x) = fun x => rk Try.prog cFmath_normalize (Try.f38.body.getD .skip) (HT (iFmath_normalize.rs ++ iFmath_normalize.os)) 1000000 (finK Try.prog [.tmp 2, .tmp 3] [] iFmath_normalize.os (iFmath_normalize.rs ++ iFmath_normalize.os)) (initF iFmath_normalize.ps iFmath_normalize.sh x 10) (initL iFmath_normalize.ps x 0) := by kernel_rfl
theorem okFmath_normalize : CallsV Try.prog tabs 38 iFmath_normalize :=
  callsV_of_rk (cx := cFmath_normalize) (fn := Try.f38) (c := Try.f38.body.getD .skip) (n := 10) (N := 0) (rvs := [.tmp 2, .tmp 3]) (cxOk (.cons okFmath_Abs TabOk.nil) XtOk.nil) Try.func38 rfl (by kernel_rfl) rfl rfl (fun x => Nat.le_of_ble_eq_true rfl) (by decide) (fun x => congrFun eFmath_normalize x)
noncomputable def Fmath_frexp (a0 : Nat) : Option (Nat × Int) :=
if fOrd a0 0 = some .eq then
some ((a0, 0))
else Option.bind (Fmath_IsInf a0 0) (fun r1 =>
if r1 = true then
some ((a0, 0))
else Option.bind (Fmath_IsNaN a0) (fun r2 =>
if r2 = true then
some ((a0, 0))
else Option.bind (Fmath_normalize a0) (fun r3 =>
if r3.1 < 18446744073709551616 then
if True then
some (((((BitVec.ofNat 64 r3.1) &&& ~~~(9218868437227405312#64)) ||| (4602678819172646912#64)).toNat, w64 (r3.2 + (w64 ((w64 ((w64 (((((BitVec.ofNat 64 r3.1) >>> (52#64).toNat) &&& (2047#64)).toNat : Int))) - 1023)) + 1)))))
else none
else none)))
@[reducible] noncomputable def iFmath_frexp : FnI := { ps := [⟨.flt, false, false, false⟩], rs := [⟨.flt, false, true, false⟩, ⟨(.int .i64), false, true, false⟩], os := [], bk := [], F := fun x => Fmath_frexp x }
noncomputable def cFmath_frexp : Cx := { nm := [], keep := [], fns := tabF [(36, iFmath_IsInf), (37, iFmath_IsNaN), (38, iFmath_normalize)], loops := [], joins := [], tb := tabs, exts := [(9, .f64from), (12, .f64bits)], lets := [] }
theorem eFmath_frexp : (fun x : HT iFmath_frexp.ps => iFmath_frexp.F x) = fun x => rk Try.prog cFmath_frexp (Try.f35.body.getD .skip) (HT (iFmath_frexp.rs ++ iFmath_frexp.os)) 1000000 (finK Try.prog [.tmp 2, .tmp 3] [] iFmath_frexp.os (iFmath_frexp.rs ++ iFmath_frexp.os)) (initF iFmath_frexp.ps iFmath_frexp.sh x 38) (initL iFmath_frexp.ps x 0) := by kernel_rfl
theorem okFmath_frexp : CallsV Try.prog tabs 35 iFmath_frexp :=
  callsV_of_rk (cx := cFmath_frexp) (fn := Try.f35) (c := Try.f35.body.getD .skip) (n := 38) (N := 0) (rvs := [.tmp 2, .tmp 3]) (cxOk (.cons okFmath_IsInf (.cons okFmath_IsNaN (.cons okFmath_normalize TabOk.nil))) (.cons xt9 (.cons xt12 XtOk.nil))) Try.func35 rfl (by kernel_rfl) rfl rfl (fun x => Nat.le_of_ble_eq_true rfl) (by decide) (fun x => congrFun eFmath_frexp x)
noncomputable def Fmath_Frexp (a0 : Nat) : Option (Nat × Int) :=
Option.bind (Fmath_frexp a0) (fun r1 =>
some ((r1.1, r1.2)))
@[reducible] noncomputable def iFmath_Frexp : FnI := { ps := [⟨.flt, false, false, false⟩], rs := [⟨.flt, false, true, false⟩, ⟨(.int .i64), false, true, false⟩], os := [], bk := [], F := fun x => Fmath_Frexp x }
noncomputable def cFmath_Frexp : Cx := { nm := [], keep := [], fns := tabF [(35, iFmath_frexp)], loops := [], joins := [], tb := tabs, exts := [], lets := [] }
theorem eFmath_Frexp : (fun x : HT iFmath_Frexp.ps => iFmath_Frexp.F x) = fun x => rk Try.prog cFmath_Frexp (Try.f28.body.getD .skip) (HT (iFmath_Frexp.rs ++ iFmath_Frexp.os)) 1000000 (finK Try.prog [.tmp 2, .tmp 3] [] iFmath_Frexp.os (iFmath_Frexp.rs ++ iFmath_Frexp.os)) (initF iFmath_Frexp.ps iFmath_Frexp.sh x 12) (initL iFmath_Frexp.ps x 0) := by kernel_rfl
theorem okFmath_Frexp : CallsV Try.prog tabs 28 iFmath_Frexp :=
  callsV_of_rk (cx := cFmath_Frexp) (fn := Try.f28) (c := Try.f28.body.getD .skip) (n := 12) (N := 0) (rvs := [.tmp 2, .tmp 3]) (cxOk (.cons okFmath_frexp TabOk.nil) XtOk.nil) Try.func28 rfl (by kernel_rfl) rfl rfl (fun x => Nat.le_of_ble_eq_true rfl) (by decide) (fun x => congrFun eFmath_Frexp x)
noncomputable def Fshare_Frames (a0 : Nat) (a1 : Int) : Option (Int × Int) :=
Option.bind (Fshare_Valid a0) (fun r1 =>
if (!r1) = true then
some ((0, 6))
else if a1 < 1 then
some ((0, 1))
else if a1 > 64 then
some ((0, 1))
else if fOrd a0 0 = some .eq then
some ((0, 0))
else Option.bind (Fmath_Frexp a0) (fun r2 =>
if (fArith .mul r2.1 4845873199050653696).isSome = true then
if fIn .u64 ((fArith .mul r2.1 4845873199050653696).getD 0) = true then
if True then
some ((if (w64 (((((BitVec.ofInt 64 ((fToInt ((fArith .mul r2.1 4845873199050653696).getD 0)).getD 0)) * (BitVec.ofInt 64 a1)) >>> (BitVec.ofInt 64 (w64 ((53 : Int) - r2.2))).toNat).toNat : Int))) > 1 then w64 (((((BitVec.ofInt 64 ((fToInt ((fArith .mul r2.1 4845873199050653696).getD 0)).getD 0)) * (BitVec.ofInt 64 a1)) >>> (BitVec.ofInt 64 (w64 ((53 : Int) - r2.2))).toNat).toNat : Int)) else 1, 0))
else none
else none
else none))
@[reducible] noncomputable def iFshare_Frames : FnI := { ps := [⟨.flt, false, false, false⟩, ⟨(.int .i64), false, false, false⟩], rs := [⟨(.int .i64), false, true, false⟩, ⟨(.int .i64), false, true, false⟩], os := [], bk := [], F := fun x => Fshare_Frames x.1 x.2 }
noncomputable def cFshare_Frames : Cx := { nm := [], keep := [], fns := tabF [(18, iFshare_Valid), (28, iFmath_Frexp)], loops := [], joins := [], tb := tabs, exts := [], lets := [] }
theorem eFshare_Frames : (fun x : HT iFshare_Frames.ps => iFshare_Frames.F x) = fun x => rk Try.prog cFshare_Frames (Try.f11.body.getD .skip) (HT (iFshare_Frames.rs ++ iFshare_Frames.os)) 1000000 (finK Try.prog [.tmp 4, .tmp 5] [] iFshare_Frames.os (iFshare_Frames.rs ++ iFshare_Frames.os)) (initF iFshare_Frames.ps iFshare_Frames.sh x 38) (initL iFshare_Frames.ps x 0) := by kernel_rfl
theorem okFshare_Frames : CallsV Try.prog tabs 11 iFshare_Frames :=
  callsV_of_rk (cx := cFshare_Frames) (fn := Try.f11) (c := Try.f11.body.getD .skip) (n := 38) (N := 0) (rvs := [.tmp 4, .tmp 5]) (cxOk (.cons okFshare_Valid (.cons okFmath_Frexp TabOk.nil)) XtOk.nil) Try.func11 rfl (by kernel_rfl) rfl rfl (fun x => Nat.le_of_ble_eq_true rfl) (by decide) (fun x => congrFun eFshare_Frames x)
noncomputable def Fbeltwaylaw06_ShareExact (a0 : (BitVec 64)) (a1 : Int) : Option Bool :=
if True then
Option.bind (Fbeltwaymake_Mod (w64 (((a0 &&& (15#64)).toNat : Int))) 15) (fun r1 =>
if True then
Option.bind (Fbeltwaymake_Mod a1 64) (fun r2 =>
Option.bind (Fshare_Frames (((a0 >>> (12#64).toNat) ||| ((BitVec.ofInt 64 (w64 ((1008 : Int) + r1))) <<< (52#64).toNat)).toNat) (w64 ((1 : Int) + r2))) (fun r3 =>
if ¬ r3.2 = 0 then
some (false)
else if r3.1 < 1 then
some (false)
else if r3.1 > (w64 ((1 : Int) + r2)) then
some (false)
else if (((a0 >>> (12#64).toNat) ||| ((BitVec.ofInt 64 (w64 ((1008 : Int) + r1))) <<< (52#64).toNat)).toNat) < 18446744073709551616 then
if True then
if r3.1 = 1 then
if True then
if (((((BitVec.ofNat 64 (((a0 >>> (12#64).toNat) ||| ((BitVec.ofInt 64 (w64 ((1008 : Int) + r1))) <<< (52#64).toNat)).toNat)) &&& (4503599627370495#64)) ||| (4503599627370496#64)) * (BitVec.ofInt 64 (w64 ((1 : Int) + r2)))) >>> (BitVec.ofInt 64 (w64 (0 - (w64 ((w64 ((((BitVec.ofNat 64 (((a0 >>> (12#64).toNat) ||| ((BitVec.ofInt 64 (w64 ((1008 : Int) + r1))) <<< (52#64).toNat)).toNat)) >>> (52#64).toNat).toNat : Int))) - 1075))))).toNat).toNat ≤ (1#64).toNat then
some (true)
else if True then
some (decide ((((((BitVec.ofNat 64 (((a0 >>> (12#64).toNat) ||| ((BitVec.ofInt 64 (w64 ((1008 : Int) + r1))) <<< (52#64).toNat)).toNat)) &&& (4503599627370495#64)) ||| (4503599627370496#64)) * (BitVec.ofInt 64 (w64 ((1 : Int) + r2)))) >>> (BitVec.ofInt 64 (w64 (0 - (w64 ((w64 ((((BitVec.ofNat 64 (((a0 >>> (12#64).toNat) ||| ((BitVec.ofInt 64 (w64 ((1008 : Int) + r1))) <<< (52#64).toNat)).toNat)) >>> (52#64).toNat).toNat : Int))) - 1075))))).toNat) = (BitVec.ofInt 64 r3.1)))
else none
else none
else if True then
some (decide ((((((BitVec.ofNat 64 (((a0 >>> (12#64).toNat) ||| ((BitVec.ofInt 64 (w64 ((1008 : Int) + r1))) <<< (52#64).toNat)).toNat)) &&& (4503599627370495#64)) ||| (4503599627370496#64)) * (BitVec.ofInt 64 (w64 ((1 : Int) + r2)))) >>> (BitVec.ofInt 64 (w64 (0 - (w64 ((w64 ((((BitVec.ofNat 64 (((a0 >>> (12#64).toNat) ||| ((BitVec.ofInt 64 (w64 ((1008 : Int) + r1))) <<< (52#64).toNat)).toNat)) >>> (52#64).toNat).toNat : Int))) - 1075))))).toNat) = (BitVec.ofInt 64 r3.1)))
else none
else none
else none))
else none)
else none
@[reducible] noncomputable def iFbeltwaylaw06_ShareExact : FnI := { ps := [⟨.u64, false, false, false⟩, ⟨(.int .i64), false, false, false⟩], rs := [⟨.bool, false, true, false⟩], os := [], bk := [], F := fun x => Fbeltwaylaw06_ShareExact x.1 x.2 }
noncomputable def cFbeltwaylaw06_ShareExact : Cx := { nm := [], keep := [], fns := tabF [(10, iFbeltwaymake_Mod), (11, iFshare_Frames)], loops := [], joins := [], tb := tabs, exts := [(9, .f64from), (12, .f64bits)], lets := [] }
theorem eFbeltwaylaw06_ShareExact : (fun x : HT iFbeltwaylaw06_ShareExact.ps => iFbeltwaylaw06_ShareExact.F x) = fun x => rk Try.prog cFbeltwaylaw06_ShareExact (Try.f3.body.getD .skip) (HT (iFbeltwaylaw06_ShareExact.rs ++ iFbeltwaylaw06_ShareExact.os)) 1000000 (finK Try.prog [.tmp 4] [] iFbeltwaylaw06_ShareExact.os (iFbeltwaylaw06_ShareExact.rs ++ iFbeltwaylaw06_ShareExact.os)) (initF iFbeltwaylaw06_ShareExact.ps iFbeltwaylaw06_ShareExact.sh x 75) (initL iFbeltwaylaw06_ShareExact.ps x 0) := by kernel_rfl
theorem okFbeltwaylaw06_ShareExact : CallsV Try.prog tabs 3 iFbeltwaylaw06_ShareExact :=
  callsV_of_rk (cx := cFbeltwaylaw06_ShareExact) (fn := Try.f3) (c := Try.f3.body.getD .skip) (n := 75) (N := 0) (rvs := [.tmp 4]) (cxOk (.cons okFbeltwaymake_Mod (.cons okFshare_Frames TabOk.nil)) (.cons xt9 (.cons xt12 XtOk.nil))) Try.func3 rfl (by kernel_rfl) rfl rfl (fun x => Nat.le_of_ble_eq_true rfl) (by decide) (fun x => congrFun eFbeltwaylaw06_ShareExact x)
noncomputable def Fmath_NaN  : Option Nat :=
some ((9221120237041090561#64).toNat)
@[reducible] noncomputable def iFmath_NaN : FnI := { ps := [], rs := [⟨.flt, false, true, false⟩], os := [], bk := [], F := fun x => Fmath_NaN  }
noncomputable def cFmath_NaN : Cx := { nm := [], keep := [], fns := tabF [], loops := [], joins := [], tb := tabs, exts := [(9, .f64from)], lets := [] }
theorem eFmath_NaN : (fun x : HT iFmath_NaN.ps => iFmath_NaN.F x) = fun x => rk Try.prog cFmath_NaN (Try.f21.body.getD .skip) (HT (iFmath_NaN.rs ++ iFmath_NaN.os)) 1000000 (finK Try.prog [.tmp 0] [] iFmath_NaN.os (iFmath_NaN.rs ++ iFmath_NaN.os)) (initF iFmath_NaN.ps iFmath_NaN.sh x 2) (initL iFmath_NaN.ps x 0) := by kernel_rfl
theorem okFmath_NaN : CallsV Try.prog tabs 21 iFmath_NaN :=
  callsV_of_rk (cx := cFmath_NaN) (fn := Try.f21) (c := Try.f21.body.getD .skip) (n := 2) (N := 0) (rvs := [.tmp 0]) (cxOk TabOk.nil (.cons xt9 XtOk.nil)) Try.func21 rfl (by kernel_rfl) rfl rfl (fun x => Nat.le_of_ble_eq_true rfl) (by decide) (fun x => congrFun eFmath_NaN x)
noncomputable def Fmath_Inf (a0 : Int) : Option Nat :=
if a0 ≥ 0 then
some ((9218868437227405312#64).toNat)
else some ((18442240474082181120#64).toNat)
@[reducible] noncomputable def iFmath_Inf : FnI := { ps := [⟨(.int .i64), false, false, false⟩], rs := [⟨.flt, false, true, false⟩], os := [], bk := [], F := fun x => Fmath_Inf x }
noncomputable def cFmath_Inf : Cx := { nm := [], keep := [], fns := tabF [], loops := [], joins := [], tb := tabs, exts := [(9, .f64from)], lets := [] }
theorem eFmath_Inf : (fun x : HT iFmath_Inf.ps => iFmath_Inf.F x) = fun x => rk Try.prog cFmath_Inf (Try.f30.body.getD .skip) (HT (iFmath_Inf.rs ++ iFmath_Inf.os)) 1000000 (finK Try.prog [.tmp 2] [] iFmath_Inf.os (iFmath_Inf.rs ++ iFmath_Inf.os)) (initF iFmath_Inf.ps iFmath_Inf.sh x 8) (initL iFmath_Inf.ps x 0) := by kernel_rfl
theorem okFmath_Inf : CallsV Try.prog tabs 30 iFmath_Inf :=
  callsV_of_rk (cx := cFmath_Inf) (fn := Try.f30) (c := Try.f30.body.getD .skip) (n := 8) (N := 0) (rvs := [.tmp 2]) (cxOk TabOk.nil (.cons xt9 XtOk.nil)) Try.func30 rfl (by kernel_rfl) rfl rfl (fun x => Nat.le_of_ble_eq_true rfl) (by decide) (fun x => congrFun eFmath_Inf x)
noncomputable def Fmath_Copysign (a0 : Nat) (a1 : Nat) : Option Nat :=
if a0 < 18446744073709551616 then
if a1 < 18446744073709551616 then
some ((((BitVec.ofNat 64 a0) &&& ~~~(9223372036854775808#64)) ||| ((BitVec.ofNat 64 a1) &&& (9223372036854775808#64))).toNat)
else none
else none
@[reducible] noncomputable def iFmath_Copysign : FnI := { ps := [⟨.flt, false, false, false⟩, ⟨.flt, false, false, false⟩], rs := [⟨.flt, false, true, false⟩], os := [], bk := [], F := fun x => Fmath_Copysign x.1 x.2 }
noncomputable def cFmath_Copysign : Cx := { nm := [], keep := [], fns := tabF [], loops := [], joins := [], tb := tabs, exts := [(9, .f64from), (12, .f64bits)], lets := [] }
theorem eFmath_Copysign : (fun x : HT iFmath_Copysign.ps => iFmath_Copysign.F x) = fun x => rk Try.prog cFmath_Copysign (Try.f29.body.getD .skip) (HT (iFmath_Copysign.rs ++ iFmath_Copysign.os)) 1000000 (finK Try.prog [.tmp 4] [] iFmath_Copysign.os (iFmath_Copysign.rs ++ iFmath_Copysign.os)) (initF iFmath_Copysign.ps iFmath_Copysign.sh x 13) (initL iFmath_Copysign.ps x 0) := by kernel_rfl
theorem okFmath_Copysign : CallsV Try.prog tabs 29 iFmath_Copysign :=
  callsV_of_rk (cx := cFmath_Copysign) (fn := Try.f29) (c := Try.f29.body.getD .skip) (n := 13) (N := 0) (rvs := [.tmp 4]) (cxOk TabOk.nil (.cons xt9 (.cons xt12 XtOk.nil))) Try.func29 rfl (by kernel_rfl) rfl rfl (fun x => Nat.le_of_ble_eq_true rfl) (by decide) (fun x => congrFun eFmath_Copysign x)
noncomputable def Fbeltwaylaw06_number (a0 : (BitVec 64)) (a1 : Int) : Option Nat :=
Option.bind (Fmath_NaN) (fun r1 =>
Option.bind (Fmath_Inf 1) (fun r2 =>
Option.bind (Fmath_Inf (-1)) (fun r3 =>
Option.bind (Fmath_Copysign 0 13830554455654793216) (fun r4 =>
if True then
if True then
if True then
Option.bind (Fbeltwaymake_Mod (w64 (((a0 >>> (1#64).toNat).toNat : Int))) 101) (fun r5 =>
if (fArith .quo (fOfInt r5) 4636737291354636288).isSome = true then
Option.bind (Fbeltwaymake_Mod a1 (([r1, r2, r3, r4, 0, 4607182418800017408, 4602678819172646912, 4607182418800017407, 4607182418800017409, 1, 4336966441157787648, 4599676419421066581, a0.toNat, ((a0 >>> (12#64).toNat) ||| (4602678819172646912#64)).toNat, ((a0 >>> (12#64).toNat) ||| (4580160821035794432#64)).toNat, (fArith .quo (fOfInt r5) 4636737291354636288).getD 0] : List Nat).length : Int)) (fun r6 =>
if 0 ≤ r6 ∧ r6 < (([r1, r2, r3, r4, 0, 4607182418800017408, 4602678819172646912, 4607182418800017407, 4607182418800017409, 1, 4336966441157787648, 4599676419421066581, a0.toNat, ((a0 >>> (12#64).toNat) ||| (4602678819172646912#64)).toNat, ((a0 >>> (12#64).toNat) ||| (4580160821035794432#64)).toNat, (fArith .quo (fOfInt r5) 4636737291354636288).getD 0] : List Nat).length : Int) then
some (gl (0 : Nat) ([r1, r2, r3, r4, 0, 4607182418800017408, 4602678819172646912, 4607182418800017407, 4607182418800017409, 1, 4336966441157787648, 4599676419421066581, a0.toNat, ((a0 >>> (12#64).toNat) ||| (4602678819172646912#64)).toNat, ((a0 >>> (12#64).toNat) ||| (4580160821035794432#64)).toNat, (fArith .quo (fOfInt r5) 4636737291354636288).getD 0] : List Nat) r6.toNat)
else none)
else none)
else none
else none
else none))))
@[reducible] noncomputable def iFbeltwaylaw06_number : FnI := { ps := [⟨.u64, false, false, false⟩, ⟨(.int .i64), false, false, false⟩], rs := [⟨.flt, false, true, false⟩], os := [], bk := [], F := fun x => Fbeltwaylaw06_number x.1 x.2 }
noncomputable def cFbeltwaylaw06_number : Cx := { nm := [(26, (0, 1))], keep := [], fns := tabF [(10, iFbeltwaymake_Mod), (21, iFmath_NaN), (29, iFmath_Copysign), (30, iFmath_Inf)], loops := [], joins := [], tb := tabs, exts := [(9, .f64from)], lets := [] }
theorem eFbeltwaylaw06_number : (fun x : HT iFbeltwaylaw06_number.ps => iFbeltwaylaw06_number.F x) = fun x => rk Try.prog cFbeltwaylaw06_number (Try.f17.body.getD .skip) (HT (iFbeltwaylaw06_number.rs ++ iFbeltwaylaw06_number.os)) 1000000 (finK Try.prog [.tmp 4] [] iFbeltwaylaw06_number.os (iFbeltwaylaw06_number.rs ++ iFbeltwaylaw06_number.os)) (initF iFbeltwaylaw06_number.ps iFbeltwaylaw06_number.sh x 34) (initL iFbeltwaylaw06_number.ps x 1) := by kernel_rfl
theorem okFbeltwaylaw06_number : CallsV Try.prog tabs 17 iFbeltwaylaw06_number :=
  callsV_of_rk (cx := cFbeltwaylaw06_number) (fn := Try.f17) (c := Try.f17.body.getD .skip) (n := 34) (N := 1) (rvs := [.tmp 4]) (cxOk (.cons okFbeltwaymake_Mod (.cons okFmath_NaN (.cons okFmath_Copysign (.cons okFmath_Inf TabOk.nil)))) (.cons xt9 XtOk.nil)) Try.func17 rfl (by kernel_rfl) rfl rfl (fun x => Nat.le_of_ble_eq_true rfl) (by decide) (fun x => congrFun eFbeltwaylaw06_number x)
noncomputable def Fbeltwayref06_Valid (a0 : Nat) : Option Bool :=
if a0 < 18446744073709551616 then
if (BitVec.ofNat 64 a0) = (0#64) then
some (true)
else if fOrd a0 0 = some .gt then
some (decide (fOrd a0 4607182418800017408 = some .lt ∨ fOrd a0 4607182418800017408 = some .eq))
else some (false)
else none
@[reducible] noncomputable def iFbeltwayref06_Valid : FnI := { ps := [⟨.flt, false, false, false⟩], rs := [⟨.bool, false, true, false⟩], os := [], bk := [], F := fun x => Fbeltwayref06_Valid x }
noncomputable def cFbeltwayref06_Valid : Cx := { nm := [], keep := [], fns := tabF [], loops := [], joins := [], tb := tabs, exts := [(12, .f64bits)], lets := [] }
theorem eFbeltwayref06_Valid : (fun x : HT iFbeltwayref06_Valid.ps => iFbeltwayref06_Valid.F x) = fun x => rk Try.prog cFbeltwayref06_Valid (Try.f19.body.getD .skip) (HT (iFbeltwayref06_Valid.rs ++ iFbeltwayref06_Valid.os)) 1000000 (finK Try.prog [.tmp 2] [] iFbeltwayref06_Valid.os (iFbeltwayref06_Valid.rs ++ iFbeltwayref06_Valid.os)) (initF iFbeltwayref06_Valid.ps iFbeltwayref06_Valid.sh x 14) (initL iFbeltwayref06_Valid.ps x 0) := by kernel_rfl
theorem okFbeltwayref06_Valid : CallsV Try.prog tabs 19 iFbeltwayref06_Valid :=
  callsV_of_rk (cx := cFbeltwayref06_Valid) (fn := Try.f19) (c := Try.f19.body.getD .skip) (n := 14) (N := 0) (rvs := [.tmp 2]) (cxOk TabOk.nil (.cons xt12 XtOk.nil)) Try.func19 rfl (by kernel_rfl) rfl rfl (fun x => Nat.le_of_ble_eq_true rfl) (by decide) (fun x => congrFun eFbeltwayref06_Valid x)
noncomputable def Fbeltwayref06_Frames (a0 : Nat) (a1 : Int) : Option (Int × Int) :=
Option.bind (Fbeltwayref06_Valid a0) (fun r1 =>
if (!r1) = true then
some ((0, 6))
else if a1 < 1 then
some ((0, 1))
else if a1 > 64 then
some ((0, 1))
else if fOrd a0 0 = some .eq then
some ((0, 0))
else if a0 < 18446744073709551616 then
if True then
if (w64 (((((BitVec.ofNat 64 a0) >>> (52#64).toNat) &&& (2047#64)).toNat : Int))) > 0 then
if (w64 ((1075 : Int) - (w64 (((((BitVec.ofNat 64 a0) >>> (52#64).toNat) &&& (2047#64)).toNat : Int))))) < 64 then
if True then
some ((if (w64 (((((((BitVec.ofNat 64 a0) &&& (4503599627370495#64)) ||| (4503599627370496#64)) * (BitVec.ofInt 64 a1)) >>> (BitVec.ofInt 64 (w64 ((1075 : Int) - (w64 (((((BitVec.ofNat 64 a0) >>> (52#64).toNat) &&& (2047#64)).toNat : Int)))))).toNat).toNat : Int))) > 1 then w64 (((((((BitVec.ofNat 64 a0) &&& (4503599627370495#64)) ||| (4503599627370496#64)) * (BitVec.ofInt 64 a1)) >>> (BitVec.ofInt 64 (w64 ((1075 : Int) - (w64 (((((BitVec.ofNat 64 a0) >>> (52#64).toNat) &&& (2047#64)).toNat : Int)))))).toNat).toNat : Int)) else 1, 0))
else none
else some ((if (w64 (((0#64).toNat : Int))) > 1 then w64 (((0#64).toNat : Int)) else 1, 0))
else if (1074 : Int) < 64 then
if True then
some ((if (w64 ((((((BitVec.ofNat 64 a0) &&& (4503599627370495#64)) * (BitVec.ofInt 64 a1)) >>> (BitVec.ofInt 64 1074).toNat).toNat : Int))) > 1 then w64 ((((((BitVec.ofNat 64 a0) &&& (4503599627370495#64)) * (BitVec.ofInt 64 a1)) >>> (BitVec.ofInt 64 1074).toNat).toNat : Int)) else 1, 0))
else none
else some ((if (w64 (((0#64).toNat : Int))) > 1 then w64 (((0#64).toNat : Int)) else 1, 0))
else none
else none)
@[reducible] noncomputable def iFbeltwayref06_Frames : FnI := { ps := [⟨.flt, false, false, false⟩, ⟨(.int .i64), false, false, false⟩], rs := [⟨(.int .i64), false, true, false⟩, ⟨(.int .i64), false, true, false⟩], os := [], bk := [], F := fun x => Fbeltwayref06_Frames x.1 x.2 }
noncomputable def cFbeltwayref06_Frames : Cx := { nm := [], keep := [], fns := tabF [(19, iFbeltwayref06_Valid)], loops := [], joins := [], tb := tabs, exts := [(12, .f64bits)], lets := [] }
theorem eFbeltwayref06_Frames : (fun x : HT iFbeltwayref06_Frames.ps => iFbeltwayref06_Frames.F x) = fun x => rk Try.prog cFbeltwayref06_Frames (Try.f20.body.getD .skip) (HT (iFbeltwayref06_Frames.rs ++ iFbeltwayref06_Frames.os)) 1000000 (finK Try.prog [.tmp 4, .tmp 5] [] iFbeltwayref06_Frames.os (iFbeltwayref06_Frames.rs ++ iFbeltwayref06_Frames.os)) (initF iFbeltwayref06_Frames.ps iFbeltwayref06_Frames.sh x 48) (initL iFbeltwayref06_Frames.ps x 0) := by kernel_rfl
theorem okFbeltwayref06_Frames : CallsV Try.prog tabs 20 iFbeltwayref06_Frames :=
  callsV_of_rk (cx := cFbeltwayref06_Frames) (fn := Try.f20) (c := Try.f20.body.getD .skip) (n := 48) (N := 0) (rvs := [.tmp 4, .tmp 5]) (cxOk (.cons okFbeltwayref06_Valid TabOk.nil) (.cons xt12 XtOk.nil)) Try.func20 rfl (by kernel_rfl) rfl rfl (fun x => Nat.le_of_ble_eq_true rfl) (by decide) (fun x => congrFun eFbeltwayref06_Frames x)
noncomputable def Fshare_sign (a0 : Nat) : Option Int :=
if a0 < 18446744073709551616 then
if True then
some (w64 ((((BitVec.ofNat 64 a0) >>> (63#64).toNat).toNat : Int)))
else none
else none
@[reducible] noncomputable def iFshare_sign : FnI := { ps := [⟨.flt, false, false, false⟩], rs := [⟨(.int .i64), false, true, false⟩], os := [], bk := [], F := fun x => Fshare_sign x }
noncomputable def cFshare_sign : Cx := { nm := [], keep := [], fns := tabF [], loops := [], joins := [], tb := tabs, exts := [(12, .f64bits)], lets := [] }
theorem eFshare_sign : (fun x : HT iFshare_sign.ps => iFshare_sign.F x) = fun x => rk Try.prog cFshare_sign (Try.f31.body.getD .skip) (HT (iFshare_sign.rs ++ iFshare_sign.os)) 1000000 (finK Try.prog [.tmp 2] [] iFshare_sign.os (iFshare_sign.rs ++ iFshare_sign.os)) (initF iFshare_sign.ps iFshare_sign.sh x 7) (initL iFshare_sign.ps x 0) := by kernel_rfl
theorem okFshare_sign : CallsV Try.prog tabs 31 iFshare_sign :=
  callsV_of_rk (cx := cFshare_sign) (fn := Try.f31) (c := Try.f31.body.getD .skip) (n := 7) (N := 0) (rvs := [.tmp 2]) (cxOk TabOk.nil (.cons xt12 XtOk.nil)) Try.func31 rfl (by kernel_rfl) rfl rfl (fun x => Nat.le_of_ble_eq_true rfl) (by decide) (fun x => congrFun eFshare_sign x)
noncomputable def Fshare_Order (a0 : Nat) (a1 : Nat) : Option Int :=
if ¬ fOrd a0 a0 = some .eq then
if ¬ fOrd a1 a1 = some .eq then
some (0)
else if ¬ fOrd a0 a0 = some .eq then
some (1)
else if ¬ fOrd a1 a1 = some .eq then
some ((-1))
else if fOrd a0 a1 = some .lt then
some ((-1))
else if fOrd a0 a1 = some .gt then
some (1)
else Option.bind (Fshare_sign a1) (fun r1 =>
Option.bind (Fshare_sign a0) (fun r2 =>
some (w64 (r1 - r2))))
else if ¬ fOrd a0 a0 = some .eq then
some (1)
else if ¬ fOrd a1 a1 = some .eq then
some ((-1))
else if fOrd a0 a1 = some .lt then
some ((-1))
else if fOrd a0 a1 = some .gt then
some (1)
else Option.bind (Fshare_sign a1) (fun r3 =>
Option.bind (Fshare_sign a0) (fun r4 =>
some (w64 (r3 - r4))))
@[reducible] noncomputable def iFshare_Order : FnI := { ps := [⟨.flt, false, false, false⟩, ⟨.flt, false, false, false⟩], rs := [⟨(.int .i64), false, true, false⟩], os := [], bk := [], F := fun x => Fshare_Order x.1 x.2 }
noncomputable def cFshare_Order : Cx := { nm := [], keep := [], fns := tabF [(31, iFshare_sign)], loops := [], joins := [], tb := tabs, exts := [], lets := [] }
theorem eFshare_Order : (fun x : HT iFshare_Order.ps => iFshare_Order.F x) = fun x => rk Try.prog cFshare_Order (Try.f22.body.getD .skip) (HT (iFshare_Order.rs ++ iFshare_Order.os)) 1000000 (finK Try.prog [.tmp 4] [] iFshare_Order.os (iFshare_Order.rs ++ iFshare_Order.os)) (initF iFshare_Order.ps iFshare_Order.sh x 35) (initL iFshare_Order.ps x 0) := by kernel_rfl
theorem okFshare_Order : CallsV Try.prog tabs 22 iFshare_Order :=
  callsV_of_rk (cx := cFshare_Order) (fn := Try.f22) (c := Try.f22.body.getD .skip) (n := 35) (N := 0) (rvs := [.tmp 4]) (cxOk (.cons okFshare_sign TabOk.nil) XtOk.nil) Try.func22 rfl (by kernel_rfl) rfl rfl (fun x => Nat.le_of_ble_eq_true rfl) (by decide) (fun x => congrFun eFshare_Order x)
noncomputable def Fbeltwaylaw06_awake  : Option Bool :=
Option.bind (Fshare_Frames 4598175219545276416 10) (fun r1 =>
Option.bind (Fshare_Frames 4576918229304087675 10) (fun r2 =>
if r1.2 = 0 then
if r2.2 = 0 then
if r1.1 = 2 then
if r2.1 = 1 then
Option.bind (Fmath_Copysign 0 13830554455654793216) (fun r3 =>
Option.bind (Fshare_Order r3 0) (fun r4 =>
some (decide (r4 = (-1)))))
else some (false)
else some (false)
else some (false)
else some (false)))
@[reducible] noncomputable def iFbeltwaylaw06_awake : FnI := { ps := [], rs := [⟨.bool, false, true, false⟩], os := [], bk := [], F := fun x => Fbeltwaylaw06_awake  }
noncomputable def cFbeltwaylaw06_awake : Cx := { nm := [], keep := [], fns := tabF [(11, iFshare_Frames), (22, iFshare_Order), (29, iFmath_Copysign)], loops := [], joins := [], tb := tabs, exts := [], lets := [] }
theorem eFbeltwaylaw06_awake : (fun x : HT iFbeltwaylaw06_awake.ps => iFbeltwaylaw06_awake.F x) = fun x => rk Try.prog cFbeltwaylaw06_awake (Try.f16.body.getD .skip) (HT (iFbeltwaylaw06_awake.rs ++ iFbeltwaylaw06_awake.os)) 1000000 (finK Try.prog [.tmp 0] [] iFbeltwaylaw06_awake.os (iFbeltwaylaw06_awake.rs ++ iFbeltwaylaw06_awake.os)) (initF iFbeltwaylaw06_awake.ps iFbeltwaylaw06_awake.sh x 32) (initL iFbeltwaylaw06_awake.ps x 0) := by kernel_rfl
theorem okFbeltwaylaw06_awake : CallsV Try.prog tabs 16 iFbeltwaylaw06_awake :=
  callsV_of_rk (cx := cFbeltwaylaw06_awake) (fn := Try.f16) (c := Try.f16.body.getD .skip) (n := 32) (N := 0) (rvs := [.tmp 0]) (cxOk (.cons okFshare_Frames (.cons okFshare_Order (.cons okFmath_Copysign TabOk.nil))) XtOk.nil) Try.func16 rfl (by kernel_rfl) rfl rfl (fun x => Nat.le_of_ble_eq_true rfl) (by decide) (fun x => congrFun eFbeltwaylaw06_awake x)
noncomputable def Fbeltwaylaw06_ShareFrames (a0 : (BitVec 64)) (a1 : Int) (a2 : Int) : Option Bool :=
Option.bind (Fbeltwaylaw06_number a0 a1) (fun r1 =>
if ¬ (16 : Int) = 0 then
Option.bind (Fbeltwaylaw06_number a0 (w64 (Int.tdiv a1 16))) (fun r2 =>
loopO (σ := Int) (β := Bool) (fun s1 =>
if s1 < (([r1, a0.toNat, r2] : List Nat).length : Int) then
if 0 ≤ s1 ∧ s1 < (([r1, a0.toNat, r2] : List Nat).length : Int) then
Option.bind (Fshare_Valid (gl (0 : Nat) ([r1, a0.toNat, r2] : List Nat) s1.toNat)) (fun r3 =>
Option.bind (Fbeltwayref06_Valid (gl (0 : Nat) ([r1, a0.toNat, r2] : List Nat) s1.toNat)) (fun r4 =>
if ¬ r3 = r4 then
some (Sum.inr (false))
else Option.bind (Fbeltwaymake_Mod a2 66) (fun r5 =>
loopO (σ := Int) (β := (Int ⊕ Bool)) (fun s2 =>
if s2 < (([a2, r5, 64, 63] : List Int).length : Int) then
if 0 ≤ s2 ∧ s2 < (([a2, r5, 64, 63] : List Int).length : Int) then
Option.bind (Fshare_Frames (gl (0 : Nat) ([r1, a0.toNat, r2] : List Nat) s1.toNat) (gl (0 : Int) ([a2, r5, 64, 63] : List Int) s2.toNat)) (fun r6 =>
Option.bind (Fbeltwayref06_Frames (gl (0 : Nat) ([r1, a0.toNat, r2] : List Nat) s1.toNat) (gl (0 : Int) ([a2, r5, 64, 63] : List Int) s2.toNat)) (fun r7 =>
if ¬ r6.1 = r7.1 then
some (Sum.inr (Sum.inr (false)))
else if ¬ r6.2 = r7.2 then
some (Sum.inr (Sum.inr (false)))
else some (Sum.inl (w64 (s2 + 1)))))
else none
else some (Sum.inr (Sum.inl (w64 (s1 + 1))))) (0))))
else none
else Option.map Sum.inr (Option.bind (Fbeltwaylaw06_awake) (fun r8 =>
some (r8)))) (0))
else none)
@[reducible] noncomputable def iFbeltwaylaw06_ShareFrames : FnI := { ps := [⟨.u64, false, false, false⟩, ⟨(.int .i64), false, false, false⟩, ⟨(.int .i64), false, false, false⟩], rs := [⟨.bool, false, true, false⟩], os := [], bk := [], F := fun x => Fbeltwaylaw06_ShareFrames x.1 x.2.1 x.2.2 }
noncomputable def cFbeltwaylaw06_ShareFrames : Cx := { nm := [(24, (0, 1)), (38, (1, 1))], keep := [], fns := tabF [(10, iFbeltwaymake_Mod), (11, iFshare_Frames), (16, iFbeltwaylaw06_awake), (17, iFbeltwaylaw06_number), (18, iFshare_Valid), (19, iFbeltwayref06_Valid), (20, iFbeltwayref06_Frames)], loops := [(0, { live := [(26, ⟨(.int .i64), false, false, false⟩)], boxes := [], rows := [], dead := [6, 8, 10, 11, 12, 13, 14, 27, 28, 29, 30, 31, 32, 33, 34, 35, 36, 37, 38, 39, 40, 41, 42, 43, 44, 45, 46, 47, 48, 49, 50, 51, 52, 53, 54, 55, 56, 57, 58, 59, 60, 61, 62, 63, 64, 65], lost := [], base := 1 }), (2, { live := [(40, ⟨(.int .i64), false, false, false⟩)], boxes := [], rows := [], dead := [6, 10, 11, 12, 13, 14, 41, 42, 43, 44, 45, 46, 47, 48, 49, 50, 51, 52, 53, 54, 55, 56, 57, 58, 59, 60, 61, 62, 63, 64], lost := [], base := 2 })], joins := [], tb := tabs, exts := [(9, .f64from)], lets := [] }
theorem eFbeltwaylaw06_ShareFrames : (fun x : HT iFbeltwaylaw06_ShareFrames.ps => iFbeltwaylaw06_ShareFrames.F x) = fun x => rk Try.prog cFbeltwaylaw06_ShareFrames (Try.f5.body.getD .skip) (HT (iFbeltwaylaw06_ShareFrames.rs ++ iFbeltwaylaw06_ShareFrames.os)) 1000000 (finK Try.prog [.tmp 6] [] iFbeltwaylaw06_ShareFrames.os (iFbeltwaylaw06_ShareFrames.rs ++ iFbeltwaylaw06_ShareFrames.os)) (initF iFbeltwaylaw06_ShareFrames.ps iFbeltwaylaw06_ShareFrames.sh x 67) (initL iFbeltwaylaw06_ShareFrames.ps x 2) := by kernel_rfl
theorem okFbeltwaylaw06_ShareFrames : CallsV Try.prog tabs 5 iFbeltwaylaw06_ShareFrames :=
  callsV_of_rk (cx := cFbeltwaylaw06_ShareFrames) (fn := Try.f5) (c := Try.f5.body.getD .skip) (n := 67) (N := 2) (rvs := [.tmp 6]) (cxOk (.cons okFbeltwaymake_Mod (.cons okFshare_Frames (.cons okFbeltwaylaw06_awake (.cons okFbeltwaylaw06_number (.cons okFshare_Valid (.cons okFbeltwayref06_Valid (.cons okFbeltwayref06_Frames TabOk.nil))))))) (.cons xt9 XtOk.nil)) Try.func5 rfl (by kernel_rfl) rfl rfl (fun x => Nat.le_of_ble_eq_true rfl) (by decide) (fun x => congrFun eFbeltwaylaw06_ShareFrames x)
noncomputable def Fbeltwaylaw06_ShareGrows (a0 : (BitVec 64)) (a1 : (BitVec 64)) (a2 : Int) (a3 : Int) (a4 : Int) (a5 : Int) : Option Bool :=
Option.bind (Fbeltwaylaw06_number a0 a2) (fun r1 =>
Option.bind (Fbeltwaylaw06_number a1 a3) (fun r2 =>
Option.bind (Fshare_Valid r1) (fun r3 =>
if (!r3) = true then
Option.bind (Fbeltwaylaw06_awake) (fun r4 =>
some (r4))
else Option.bind (Fshare_Valid r2) (fun r5 =>
if (!r5) = true then
Option.bind (Fbeltwaylaw06_awake) (fun r6 =>
some (r6))
else if fOrd r1 0 = some .eq then
Option.bind (Fbeltwaylaw06_awake) (fun r7 =>
some (r7))
else if fOrd r2 0 = some .eq then
Option.bind (Fbeltwaylaw06_awake) (fun r8 =>
some (r8))
else Option.bind (Fbeltwaymake_Mod a4 64) (fun r9 =>
Option.bind (Fbeltwaymake_Mod a5 64) (fun r10 =>
if (fOrd r1 r2).isSome = true then
Option.bind (Fshare_Frames (fMin r1 r2) (if (w64 ((1 : Int) + r10)) < (w64 ((1 : Int) + r9)) then w64 ((1 : Int) + r10) else w64 ((1 : Int) + r9))) (fun r11 =>
if (fOrd r1 r2).isSome = true then
Option.bind (Fshare_Frames (fMax r1 r2) (if (w64 ((1 : Int) + r10)) > (w64 ((1 : Int) + r9)) then w64 ((1 : Int) + r10) else w64 ((1 : Int) + r9))) (fun r12 =>
Option.bind (Fshare_Frames 4607182418800017408 (w64 ((1 : Int) + r9))) (fun r13 =>
if r11.2 = 0 then
if r12.2 = 0 then
if r13.2 = 0 then
if r11.1 ≥ 1 then
if r11.1 ≤ r12.1 then
if r13.1 = (w64 ((1 : Int) + r9)) then
Option.bind (Fbeltwaylaw06_awake) (fun r14 =>
some (r14))
else some (false)
else some (false)
else some (false)
else some (false)
else some (false)
else some (false)))
else none)
else none))))))
@[reducible] noncomputable def iFbeltwaylaw06_ShareGrows : FnI := { ps := [⟨.u64, false, false, false⟩, ⟨.u64, false, false, false⟩, ⟨(.int .i64), false, false, false⟩, ⟨(.int .i64), false, false, false⟩, ⟨(.int .i64), false, false, false⟩, ⟨(.int .i64), false, false, false⟩], rs := [⟨.bool, false, true, false⟩], os := [], bk := [], F := fun x => Fbeltwaylaw06_ShareGrows x.1 x.2.1 x.2.2.1 x.2.2.2.1 x.2.2.2.2.1 x.2.2.2.2.2 }
noncomputable def cFbeltwaylaw06_ShareGrows : Cx := { nm := [], keep := [], fns := tabF [(10, iFbeltwaymake_Mod), (11, iFshare_Frames), (16, iFbeltwaylaw06_awake), (17, iFbeltwaylaw06_number), (18, iFshare_Valid)], loops := [], joins := [], tb := tabs, exts := [], lets := [] }
theorem eFbeltwaylaw06_ShareGrows : (fun x : HT iFbeltwaylaw06_ShareGrows.ps => iFbeltwaylaw06_ShareGrows.F x) = fun x => rk Try.prog cFbeltwaylaw06_ShareGrows (Try.f6.body.getD .skip) (HT (iFbeltwaylaw06_ShareGrows.rs ++ iFbeltwaylaw06_ShareGrows.os)) 1000000 (finK Try.prog [.tmp 12] [] iFbeltwaylaw06_ShareGrows.os (iFbeltwaylaw06_ShareGrows.rs ++ iFbeltwaylaw06_ShareGrows.os)) (initF iFbeltwaylaw06_ShareGrows.ps iFbeltwaylaw06_ShareGrows.sh x 104) (initL iFbeltwaylaw06_ShareGrows.ps x 0) := by kernel_rfl
theorem okFbeltwaylaw06_ShareGrows : CallsV Try.prog tabs 6 iFbeltwaylaw06_ShareGrows :=
  callsV_of_rk (cx := cFbeltwaylaw06_ShareGrows) (fn := Try.f6) (c := Try.f6.body.getD .skip) (n := 104) (N := 0) (rvs := [.tmp 12]) (cxOk (.cons okFbeltwaymake_Mod (.cons okFshare_Frames (.cons okFbeltwaylaw06_awake (.cons okFbeltwaylaw06_number (.cons okFshare_Valid TabOk.nil))))) XtOk.nil) Try.func6 rfl (by kernel_rfl) rfl rfl (fun x => Nat.le_of_ble_eq_true rfl) (by decide) (fun x => congrFun eFbeltwaylaw06_ShareGrows x)
noncomputable def Fbeltwayref06_rank (a0 : Nat) : Option Int :=
if ¬ fOrd a0 a0 = some .eq then
some (1)
else some (0)
@[reducible] noncomputable def iFbeltwayref06_rank : FnI := { ps := [⟨.flt, false, false, false⟩], rs := [⟨(.int .i64), false, true, false⟩], os := [], bk := [], F := fun x => Fbeltwayref06_rank x }
noncomputable def cFbeltwayref06_rank : Cx := { nm := [], keep := [], fns := tabF [], loops := [], joins := [], tb := tabs, exts := [], lets := [] }
theorem eFbeltwayref06_rank : (fun x : HT iFbeltwayref06_rank.ps => iFbeltwayref06_rank.F x) = fun x => rk Try.prog cFbeltwayref06_rank (Try.f32.body.getD .skip) (HT (iFbeltwayref06_rank.rs ++ iFbeltwayref06_rank.os)) 1000000 (finK Try.prog [.tmp 2] [] iFbeltwayref06_rank.os (iFbeltwayref06_rank.rs ++ iFbeltwayref06_rank.os)) (initF iFbeltwayref06_rank.ps iFbeltwayref06_rank.sh x 6) (initL iFbeltwayref06_rank.ps x 0) := by kernel_rfl
theorem okFbeltwayref06_rank : CallsV Try.prog tabs 32 iFbeltwayref06_rank :=
  callsV_of_rk (cx := cFbeltwayref06_rank) (fn := Try.f32) (c := Try.f32.body.getD .skip) (n := 6) (N := 0) (rvs := [.tmp 2]) (cxOk TabOk.nil XtOk.nil) Try.func32 rfl (by kernel_rfl) rfl rfl (fun x => Nat.le_of_ble_eq_true rfl) (by decide) (fun x => congrFun eFbeltwayref06_rank x)
noncomputable def Fmath_Signbit (a0 : Nat) : Option Bool :=
if a0 < 18446744073709551616 then
some (decide ((w64 (((BitVec.ofNat 64 a0).toNat : Int))) < 0))
else none
@[reducible] noncomputable def iFmath_Signbit : FnI := { ps := [⟨.flt, false, false, false⟩], rs := [⟨.bool, false, true, false⟩], os := [], bk := [], F := fun x => Fmath_Signbit x }
noncomputable def cFmath_Signbit : Cx := { nm := [], keep := [], fns := tabF [], loops := [], joins := [], tb := tabs, exts := [(12, .f64bits)], lets := [] }
theorem eFmath_Signbit : (fun x : HT iFmath_Signbit.ps => iFmath_Signbit.F x) = fun x => rk Try.prog cFmath_Signbit (Try.f33.body.getD .skip) (HT (iFmath_Signbit.rs ++ iFmath_Signbit.os)) 1000000 (finK Try.prog [.tmp 2] [] iFmath_Signbit.os (iFmath_Signbit.rs ++ iFmath_Signbit.os)) (initF iFmath_Signbit.ps iFmath_Signbit.sh x 7) (initL iFmath_Signbit.ps x 0) := by kernel_rfl
theorem okFmath_Signbit : CallsV Try.prog tabs 33 iFmath_Signbit :=
  callsV_of_rk (cx := cFmath_Signbit) (fn := Try.f33) (c := Try.f33.body.getD .skip) (n := 7) (N := 0) (rvs := [.tmp 2]) (cxOk TabOk.nil (.cons xt12 XtOk.nil)) Try.func33 rfl (by kernel_rfl) rfl rfl (fun x => Nat.le_of_ble_eq_true rfl) (by decide) (fun x => congrFun eFmath_Signbit x)
noncomputable def Fbeltwayref06_Order (a0 : Nat) (a1 : Nat) : Option Int :=
Option.bind (Fbeltwayref06_rank a0) (fun r1 =>
Option.bind (Fbeltwayref06_rank a1) (fun r2 =>
if ¬ r1 = r2 then
Option.bind (Fbeltwayref06_rank a0) (fun r3 =>
Option.bind (Fbeltwayref06_rank a1) (fun r4 =>
some (w64 (r3 - r4))))
else Option.bind (Fbeltwayref06_rank a0) (fun r5 =>
if r5 = 1 then
some (0)
else if fOrd a0 a1 = some .lt then
some ((-1))
else if fOrd a0 a1 = some .gt then
some (1)
else Option.bind (Fmath_Signbit a0) (fun r6 =>
Option.bind (Fmath_Signbit a1) (fun r7 =>
if r6 = true then
if (!r7) = true then
some ((-1))
else if r7 = true then
if (!r6) = true then
some (1)
else some (0)
else some (0)
else if r7 = true then
if (!r6) = true then
some (1)
else some (0)
else some (0))))))
@[reducible] noncomputable def iFbeltwayref06_Order : FnI := { ps := [⟨.flt, false, false, false⟩, ⟨.flt, false, false, false⟩], rs := [⟨(.int .i64), false, true, false⟩], os := [], bk := [], F := fun x => Fbeltwayref06_Order x.1 x.2 }
noncomputable def cFbeltwayref06_Order : Cx := { nm := [], keep := [], fns := tabF [(32, iFbeltwayref06_rank), (33, iFmath_Signbit)], loops := [], joins := [], tb := tabs, exts := [], lets := [] }
theorem eFbeltwayref06_Order : (fun x : HT iFbeltwayref06_Order.ps => iFbeltwayref06_Order.F x) = fun x => rk Try.prog cFbeltwayref06_Order (Try.f23.body.getD .skip) (HT (iFbeltwayref06_Order.rs ++ iFbeltwayref06_Order.os)) 1000000 (finK Try.prog [.tmp 4] [] iFbeltwayref06_Order.os (iFbeltwayref06_Order.rs ++ iFbeltwayref06_Order.os)) (initF iFbeltwayref06_Order.ps iFbeltwayref06_Order.sh x 45) (initL iFbeltwayref06_Order.ps x 0) := by kernel_rfl
theorem okFbeltwayref06_Order : CallsV Try.prog tabs 23 iFbeltwayref06_Order :=
  callsV_of_rk (cx := cFbeltwayref06_Order) (fn := Try.f23) (c := Try.f23.body.getD .skip) (n := 45) (N := 0) (rvs := [.tmp 4]) (cxOk (.cons okFbeltwayref06_rank (.cons okFmath_Signbit TabOk.nil)) XtOk.nil) Try.func23 rfl (by kernel_rfl) rfl rfl (fun x => Nat.le_of_ble_eq_true rfl) (by decide) (fun x => congrFun eFbeltwayref06_Order x)
noncomputable def Fbeltwaylaw06_ShareOrder (a0 : (BitVec 64)) (a1 : (BitVec 64)) (a2 : (BitVec 64)) (a3 : Int) (a4 : Int) (a5 : Int) : Option Bool :=
Option.bind (Fbeltwaylaw06_number a0 a3) (fun r1 =>
Option.bind (Fbeltwaylaw06_number a1 a4) (fun r2 =>
Option.bind (Fbeltwaylaw06_number a2 a5) (fun r3 =>
Option.bind (Fmath_NaN) (fun r4 =>
loopO (σ := Int) (β := Bool) (fun s1 =>
if s1 < (([r1, r2, r3, a0.toNat, r4] : List Nat).length : Int) then
if 0 ≤ s1 ∧ s1 < (([r1, r2, r3, a0.toNat, r4] : List Nat).length : Int) then
loopO (σ := Int) (β := (Int ⊕ Bool)) (fun s2 =>
if s2 < (([r1, r2, r3, a0.toNat, r4] : List Nat).length : Int) then
if 0 ≤ s2 ∧ s2 < (([r1, r2, r3, a0.toNat, r4] : List Nat).length : Int) then
Option.bind (Fshare_Order (gl (0 : Nat) ([r1, r2, r3, a0.toNat, r4] : List Nat) s1.toNat) (gl (0 : Nat) ([r1, r2, r3, a0.toNat, r4] : List Nat) s2.toNat)) (fun r5 =>
Option.bind (Fbeltwayref06_Order (gl (0 : Nat) ([r1, r2, r3, a0.toNat, r4] : List Nat) s1.toNat) (gl (0 : Nat) ([r1, r2, r3, a0.toNat, r4] : List Nat) s2.toNat)) (fun r6 =>
if ¬ r5 = r6 then
some (Sum.inr (Sum.inr (false)))
else Option.bind (Fshare_Order (gl (0 : Nat) ([r1, r2, r3, a0.toNat, r4] : List Nat) s1.toNat) (gl (0 : Nat) ([r1, r2, r3, a0.toNat, r4] : List Nat) s2.toNat)) (fun r7 =>
Option.bind (Fshare_Order (gl (0 : Nat) ([r1, r2, r3, a0.toNat, r4] : List Nat) s2.toNat) (gl (0 : Nat) ([r1, r2, r3, a0.toNat, r4] : List Nat) s1.toNat)) (fun r8 =>
if ¬ r7 = (w64 (0 - r8)) then
some (Sum.inr (Sum.inr (false)))
else loopO (σ := Int) (β := (Int ⊕ (Int ⊕ Bool))) (fun s3 =>
if s3 < (([r1, r2, r3, a0.toNat, r4] : List Nat).length : Int) then
if 0 ≤ s3 ∧ s3 < (([r1, r2, r3, a0.toNat, r4] : List Nat).length : Int) then
Option.bind (Fshare_Order (gl (0 : Nat) ([r1, r2, r3, a0.toNat, r4] : List Nat) s1.toNat) (gl (0 : Nat) ([r1, r2, r3, a0.toNat, r4] : List Nat) s2.toNat)) (fun r9 =>
if r9 ≤ 0 then
Option.bind (Fshare_Order (gl (0 : Nat) ([r1, r2, r3, a0.toNat, r4] : List Nat) s2.toNat) (gl (0 : Nat) ([r1, r2, r3, a0.toNat, r4] : List Nat) s3.toNat)) (fun r10 =>
if r10 ≤ 0 then
Option.bind (Fshare_Order (gl (0 : Nat) ([r1, r2, r3, a0.toNat, r4] : List Nat) s1.toNat) (gl (0 : Nat) ([r1, r2, r3, a0.toNat, r4] : List Nat) s3.toNat)) (fun r11 =>
if r11 > 0 then
some (Sum.inr (Sum.inr (Sum.inr (false))))
else some (Sum.inl (w64 (s3 + 1))))
else some (Sum.inl (w64 (s3 + 1))))
else some (Sum.inl (w64 (s3 + 1))))
else none
else some (Sum.inr (Sum.inl (w64 (s2 + 1))))) (0)))))
else none
else some (Sum.inr (Sum.inl (w64 (s1 + 1))))) (0)
else none
else Option.map Sum.inr (Option.bind (Fbeltwaylaw06_awake) (fun r12 =>
some (r12)))) (0)))))
@[reducible] noncomputable def iFbeltwaylaw06_ShareOrder : FnI := { ps := [⟨.u64, false, false, false⟩, ⟨.u64, false, false, false⟩, ⟨.u64, false, false, false⟩, ⟨(.int .i64), false, false, false⟩, ⟨(.int .i64), false, false, false⟩, ⟨(.int .i64), false, false, false⟩], rs := [⟨.bool, false, true, false⟩], os := [], bk := [], F := fun x => Fbeltwaylaw06_ShareOrder x.1 x.2.1 x.2.2.1 x.2.2.2.1 x.2.2.2.2.1 x.2.2.2.2.2 }
noncomputable def cFbeltwaylaw06_ShareOrder : Cx := { nm := [(32, (0, 1))], keep := [], fns := tabF [(16, iFbeltwaylaw06_awake), (17, iFbeltwaylaw06_number), (21, iFmath_NaN), (22, iFshare_Order), (23, iFbeltwayref06_Order)], loops := [(0, { live := [(35, ⟨(.int .i64), false, false, false⟩)], boxes := [], rows := [], dead := [12, 15, 17, 19, 36, 37, 38, 39, 40, 41, 42, 43, 44, 45, 46, 47, 48, 49, 50, 51, 52, 53, 54, 55, 56, 57, 58, 59, 60, 61, 62, 63, 64, 65, 66, 67, 68, 69, 70, 71, 72, 73, 74, 75, 76, 77, 78, 79, 80, 81, 82, 83, 84, 85, 86], lost := [], base := 1 }), (2, { live := [(41, ⟨(.int .i64), false, false, false⟩)], boxes := [], rows := [], dead := [12, 17, 19, 42, 43, 44, 45, 46, 47, 48, 49, 50, 51, 52, 53, 54, 55, 56, 57, 58, 59, 60, 61, 62, 63, 64, 65, 66, 67, 68, 69, 70, 71, 72, 73, 74, 75, 76, 77, 78, 79, 80, 81, 82, 83, 84, 85], lost := [], base := 1 }), (4, { live := [(64, ⟨(.int .i64), false, false, false⟩)], boxes := [], rows := [], dead := [12, 19, 65, 66, 67, 68, 69, 70, 71, 72, 73, 74, 75, 76, 77, 78, 79, 80, 81, 82, 83, 84], lost := [], base := 1 })], joins := [], tb := tabs, exts := [(9, .f64from)], lets := [] }
theorem eFbeltwaylaw06_ShareOrder : (fun x : HT iFbeltwaylaw06_ShareOrder.ps => iFbeltwaylaw06_ShareOrder.F x) = fun x => rk Try.prog cFbeltwaylaw06_ShareOrder (Try.f7.body.getD .skip) (HT (iFbeltwaylaw06_ShareOrder.rs ++ iFbeltwaylaw06_ShareOrder.os)) 1000000 (finK Try.prog [.tmp 12] [] iFbeltwaylaw06_ShareOrder.os (iFbeltwaylaw06_ShareOrder.rs ++ iFbeltwaylaw06_ShareOrder.os)) (initF iFbeltwaylaw06_ShareOrder.ps iFbeltwaylaw06_ShareOrder.sh x 88) (initL iFbeltwaylaw06_ShareOrder.ps x 1) := by kernel_rfl
theorem okFbeltwaylaw06_ShareOrder : CallsV Try.prog tabs 7 iFbeltwaylaw06_ShareOrder :=
  callsV_of_rk (cx := cFbeltwaylaw06_ShareOrder) (fn := Try.f7) (c := Try.f7.body.getD .skip) (n := 88) (N := 1) (rvs := [.tmp 12]) (cxOk (.cons okFbeltwaylaw06_awake (.cons okFbeltwaylaw06_number (.cons okFmath_NaN (.cons okFshare_Order (.cons okFbeltwayref06_Order TabOk.nil))))) (.cons xt9 XtOk.nil)) Try.func7 rfl (by kernel_rfl) rfl rfl (fun x => Nat.le_of_ble_eq_true rfl) (by decide) (fun x => congrFun eFbeltwaylaw06_ShareOrder x)
noncomputable def Fshare_Percent (a0 : Int) : Option (Nat × Int) :=
if a0 < 0 then
some ((0, 1))
else if a0 > 100 then
some ((0, 1))
else if (fArith .quo (fOfInt a0) 4636737291354636288).isSome = true then
some (((fArith .quo (fOfInt a0) 4636737291354636288).getD 0, 0))
else none
@[reducible] noncomputable def iFshare_Percent : FnI := { ps := [⟨(.int .i64), false, false, false⟩], rs := [⟨.flt, false, true, false⟩, ⟨(.int .i64), false, true, false⟩], os := [], bk := [], F := fun x => Fshare_Percent x }
noncomputable def cFshare_Percent : Cx := { nm := [], keep := [], fns := tabF [], loops := [], joins := [], tb := tabs, exts := [], lets := [] }
theorem eFshare_Percent : (fun x : HT iFshare_Percent.ps => iFshare_Percent.F x) = fun x => rk Try.prog cFshare_Percent (Try.f24.body.getD .skip) (HT (iFshare_Percent.rs ++ iFshare_Percent.os)) 1000000 (finK Try.prog [.tmp 2, .tmp 3] [] iFshare_Percent.os (iFshare_Percent.rs ++ iFshare_Percent.os)) (initF iFshare_Percent.ps iFshare_Percent.sh x 13) (initL iFshare_Percent.ps x 0) := by kernel_rfl
theorem okFshare_Percent : CallsV Try.prog tabs 24 iFshare_Percent :=
  callsV_of_rk (cx := cFshare_Percent) (fn := Try.f24) (c := Try.f24.body.getD .skip) (n := 13) (N := 0) (rvs := [.tmp 2, .tmp 3]) (cxOk TabOk.nil XtOk.nil) Try.func24 rfl (by kernel_rfl) rfl rfl (fun x => Nat.le_of_ble_eq_true rfl) (by decide) (fun x => congrFun eFshare_Percent x)
noncomputable def Fbeltwayref06_Percent (a0 : Int) : Option (Nat × Int) :=
if a0 < 0 then
some ((0, 1))
else if a0 > 100 then
some ((0, 1))
else if (fArith .quo (fOfInt a0) 4636737291354636288).isSome = true then
some (((fArith .quo (fOfInt a0) 4636737291354636288).getD 0, 0))
else none
@[reducible] noncomputable def iFbeltwayref06_Percent : FnI := { ps := [⟨(.int .i64), false, false, false⟩], rs := [⟨.flt, false, true, false⟩, ⟨(.int .i64), false, true, false⟩], os := [], bk := [], F := fun x => Fbeltwayref06_Percent x }
noncomputable def cFbeltwayref06_Percent : Cx := { nm := [], keep := [], fns := tabF [], loops := [], joins := [], tb := tabs, exts := [], lets := [] }
theorem eFbeltwayref06_Percent : (fun x : HT iFbeltwayref06_Percent.ps => iFbeltwayref06_Percent.F x) = fun x => rk Try.prog cFbeltwayref06_Percent (Try.f25.body.getD .skip) (HT (iFbeltwayref06_Percent.rs ++ iFbeltwayref06_Percent.os)) 1000000 (finK Try.prog [.tmp 2, .tmp 3] [] iFbeltwayref06_Percent.os (iFbeltwayref06_Percent.rs ++ iFbeltwayref06_Percent.os)) (initF iFbeltwayref06_Percent.ps iFbeltwayref06_Percent.sh x 13) (initL iFbeltwayref06_Percent.ps x 0) := by kernel_rfl
theorem okFbeltwayref06_Percent : CallsV Try.prog tabs 25 iFbeltwayref06_Percent :=
  callsV_of_rk (cx := cFbeltwayref06_Percent) (fn := Try.f25) (c := Try.f25.body.getD .skip) (n := 13) (N := 0) (rvs := [.tmp 2, .tmp 3]) (cxOk TabOk.nil XtOk.nil) Try.func25 rfl (by kernel_rfl) rfl rfl (fun x => Nat.le_of_ble_eq_true rfl) (by decide) (fun x => congrFun eFbeltwayref06_Percent x)
noncomputable def Fshare_ToPercent (a0 : Nat) : Option (Int × Bool) :=
loopO (σ := Int) (β := (Int × Bool)) (fun s1 =>
if s1 ≤ 100 then
Option.bind (Fshare_Percent s1) (fun r1 =>
if a0 < 18446744073709551616 then
if r1.1 < 18446744073709551616 then
if (BitVec.ofNat 64 a0) = (BitVec.ofNat 64 r1.1) then
some (Sum.inr ((s1, true)))
else some (Sum.inl (w64 (s1 + 1)))
else none
else none)
else some (Sum.inr ((0, false)))) (0)
@[reducible] noncomputable def iFshare_ToPercent : FnI := { ps := [⟨.flt, false, false, false⟩], rs := [⟨(.int .i64), false, true, false⟩, ⟨.bool, false, true, false⟩], os := [], bk := [], F := fun x => Fshare_ToPercent x }
noncomputable def cFshare_ToPercent : Cx := { nm := [], keep := [], fns := tabF [(24, iFshare_Percent)], loops := [(0, { live := [(4, ⟨(.int .i64), false, false, false⟩)], boxes := [], rows := [], dead := [2, 3, 5, 6, 7, 8, 9, 10, 11, 12, 13, 14, 15, 16, 17, 18, 19, 20, 21], lost := [], base := 0 })], joins := [], tb := tabs, exts := [(12, .f64bits)], lets := [] }
theorem eFshare_ToPercent : (fun x : HT iFshare_ToPercent.ps => iFshare_ToPercent.F x) = fun x => rk Try.prog cFshare_ToPercent (Try.f26.body.getD .skip) (HT (iFshare_ToPercent.rs ++ iFshare_ToPercent.os)) 1000000 (finK Try.prog [.tmp 2, .tmp 3] [] iFshare_ToPercent.os (iFshare_ToPercent.rs ++ iFshare_ToPercent.os)) (initF iFshare_ToPercent.ps iFshare_ToPercent.sh x 22) (initL iFshare_ToPercent.ps x 0) := by kernel_rfl
theorem okFshare_ToPercent : CallsV Try.prog tabs 26 iFshare_ToPercent :=
  callsV_of_rk (cx := cFshare_ToPercent) (fn := Try.f26) (c := Try.f26.body.getD .skip) (n := 22) (N := 0) (rvs := [.tmp 2, .tmp 3]) (cxOk (.cons okFshare_Percent TabOk.nil) (.cons xt12 XtOk.nil)) Try.func26 rfl (by kernel_rfl) rfl rfl (fun x => Nat.le_of_ble_eq_true rfl) (by decide) (fun x => congrFun eFshare_ToPercent x)
noncomputable def Fbeltwayref06_ToPercent (a0 : Nat) : Option (Int × Bool) :=
loopO (σ := Int) (β := (Int × Bool)) (fun s1 =>
if s1 ≤ 100 then
Option.bind (Fbeltwayref06_Percent s1) (fun r1 =>
if a0 < 18446744073709551616 then
if r1.1 < 18446744073709551616 then
if (BitVec.ofNat 64 a0) = (BitVec.ofNat 64 r1.1) then
some (Sum.inr ((s1, true)))
else some (Sum.inl (w64 (s1 + 1)))
else none
else none)
else some (Sum.inr ((0, false)))) (0)
@[reducible] noncomputable def iFbeltwayref06_ToPercent : FnI := { ps := [⟨.flt, false, false, false⟩], rs := [⟨(.int .i64), false, true, false⟩, ⟨.bool, false, true, false⟩], os := [], bk := [], F := fun x => Fbeltwayref06_ToPercent x }
noncomputable def cFbeltwayref06_ToPercent : Cx := { nm := [], keep := [], fns := tabF [(25, iFbeltwayref06_Percent)], loops := [(0, { live := [(4, ⟨(.int .i64), false, false, false⟩)], boxes := [], rows := [], dead := [2, 3, 5, 6, 7, 8, 9, 10, 11, 12, 13, 14, 15, 16, 17, 18, 19, 20, 21], lost := [], base := 0 })], joins := [], tb := tabs, exts := [(12, .f64bits)], lets := [] }
theorem eFbeltwayref06_ToPercent : (fun x : HT iFbeltwayref06_ToPercent.ps => iFbeltwayref06_ToPercent.F x) = fun x => rk Try.prog cFbeltwayref06_ToPercent (Try.f27.body.getD .skip) (HT (iFbeltwayref06_ToPercent.rs ++ iFbeltwayref06_ToPercent.os)) 1000000 (finK Try.prog [.tmp 2, .tmp 3] [] iFbeltwayref06_ToPercent.os (iFbeltwayref06_ToPercent.rs ++ iFbeltwayref06_ToPercent.os)) (initF iFbeltwayref06_ToPercent.ps iFbeltwayref06_ToPercent.sh x 22) (initL iFbeltwayref06_ToPercent.ps x 0) := by kernel_rfl
theorem okFbeltwayref06_ToPercent : CallsV Try.prog tabs 27 iFbeltwayref06_ToPercent :=
  callsV_of_rk (cx := cFbeltwayref06_ToPercent) (fn := Try.f27) (c := Try.f27.body.getD .skip) (n := 22) (N := 0) (rvs := [.tmp 2, .tmp 3]) (cxOk (.cons okFbeltwayref06_Percent TabOk.nil) (.cons xt12 XtOk.nil)) Try.func27 rfl (by kernel_rfl) rfl rfl (fun x => Nat.le_of_ble_eq_true rfl) (by decide) (fun x => congrFun eFbeltwayref06_ToPercent x)
noncomputable def Fbeltwaylaw06_SharePercents (a0 : Int) (a1 : (BitVec 64)) (a2 : Int) : Option Bool :=
Option.bind (Fbeltwaymake_Mod a0 103) (fun r1 =>
loopO (σ := Int) (β := Bool) (fun s1 =>
if s1 < (([a0, w64 (r1 - 1)] : List Int).length : Int) then
if 0 ≤ s1 ∧ s1 < (([a0, w64 (r1 - 1)] : List Int).length : Int) then
Option.bind (Fshare_Percent (gl (0 : Int) ([a0, w64 (r1 - 1)] : List Int) s1.toNat)) (fun r2 =>
Option.bind (Fbeltwayref06_Percent (gl (0 : Int) ([a0, w64 (r1 - 1)] : List Int) s1.toNat)) (fun r3 =>
if r2.1 < 18446744073709551616 then
if r3.1 < 18446744073709551616 then
if ¬ (BitVec.ofNat 64 r2.1) = (BitVec.ofNat 64 r3.1) then
some (Sum.inr (false))
else if ¬ r2.2 = r3.2 then
some (Sum.inr (false))
else Option.bind (Fshare_ToPercent r3.1) (fun r4 =>
Option.bind (Fbeltwayref06_ToPercent r3.1) (fun r5 =>
if ¬ r4.1 = r5.1 then
some (Sum.inr (false))
else if ¬ r4.2 = r5.2 then
some (Sum.inr (false))
else some (Sum.inl (w64 (s1 + 1)))))
else none
else none))
else none
else Option.map Sum.inr (Option.bind (Fbeltwaylaw06_number a1 a2) (fun r6 =>
Option.bind (Fshare_ToPercent r6) (fun r7 =>
Option.bind (Fbeltwaylaw06_number a1 a2) (fun r8 =>
Option.bind (Fbeltwayref06_ToPercent r8) (fun r9 =>
if r7.1 = r9.1 then
if r7.2 = r9.2 then
Option.bind (Fbeltwaylaw06_awake) (fun r10 =>
some (r10))
else some (false)
else some (false))))))) (0))
@[reducible] noncomputable def iFbeltwaylaw06_SharePercents : FnI := { ps := [⟨(.int .i64), false, false, false⟩, ⟨.u64, false, false, false⟩, ⟨(.int .i64), false, false, false⟩], rs := [⟨.bool, false, true, false⟩], os := [], bk := [], F := fun x => Fbeltwaylaw06_SharePercents x.1 x.2.1 x.2.2 }
noncomputable def cFbeltwaylaw06_SharePercents : Cx := { nm := [(25, (0, 1))], keep := [], fns := tabF [(10, iFbeltwaymake_Mod), (16, iFbeltwaylaw06_awake), (17, iFbeltwaylaw06_number), (24, iFshare_Percent), (25, iFbeltwayref06_Percent), (26, iFshare_ToPercent), (27, iFbeltwayref06_ToPercent)], loops := [(0, { live := [(27, ⟨(.int .i64), false, false, false⟩)], boxes := [], rows := [], dead := [6, 8, 9, 10, 11, 12, 13, 14, 15, 16, 28, 29, 30, 31, 32, 33, 34, 35, 36, 37, 38, 39, 40, 41, 42, 43, 44, 45, 46, 47, 48, 49, 50, 51, 52, 53, 54, 55, 56, 57, 58, 59, 60, 61, 62, 63, 64, 65, 66, 67, 68, 69], lost := [], base := 1 })], joins := [], tb := tabs, exts := [(12, .f64bits)], lets := [] }
theorem eFbeltwaylaw06_SharePercents : (fun x : HT iFbeltwaylaw06_SharePercents.ps => iFbeltwaylaw06_SharePercents.F x) = fun x => rk Try.prog cFbeltwaylaw06_SharePercents (Try.f8.body.getD .skip) (HT (iFbeltwaylaw06_SharePercents.rs ++ iFbeltwaylaw06_SharePercents.os)) 1000000 (finK Try.prog [.tmp 6] [] iFbeltwaylaw06_SharePercents.os (iFbeltwaylaw06_SharePercents.rs ++ iFbeltwaylaw06_SharePercents.os)) (initF iFbeltwaylaw06_SharePercents.ps iFbeltwaylaw06_SharePercents.sh x 95) (initL iFbeltwaylaw06_SharePercents.ps x 1) := by kernel_rfl
theorem okFbeltwaylaw06_SharePercents : CallsV Try.prog tabs 8 iFbeltwaylaw06_SharePercents :=
  callsV_of_rk (cx := cFbeltwaylaw06_SharePercents) (fn := Try.f8) (c := Try.f8.body.getD .skip) (n := 95) (N := 1) (rvs := [.tmp 6]) (cxOk (.cons okFbeltwaymake_Mod (.cons okFbeltwaylaw06_awake (.cons okFbeltwaylaw06_number (.cons okFshare_Percent (.cons okFbeltwayref06_Percent (.cons okFshare_ToPercent (.cons okFbeltwayref06_ToPercent TabOk.nil))))))) (.cons xt12 XtOk.nil)) Try.func8 rfl (by kernel_rfl) rfl rfl (fun x => Nat.le_of_ble_eq_true rfl) (by decide) (fun x => congrFun eFbeltwaylaw06_SharePercents x)
end Go.Proofs.Ytgegpaefamemlaa
