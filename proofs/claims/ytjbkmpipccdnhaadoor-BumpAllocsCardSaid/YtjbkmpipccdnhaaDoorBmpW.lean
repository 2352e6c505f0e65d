/-
  The functions of the laws of package bump (printed, and checked by the kernel).
-/
import Derived.Test.YtjbkmpipccdnhaaDoorSpW
set_option linter.unusedVariables false
set_option maxRecDepth 100000
namespace Go.Proofs.YtjbkmpipccdnhaaDoor
open Go Go.V3
noncomputable def Fmath_bits_TrailingZeros64 (a0 : (BitVec 64)) : Option Int :=
if a0 = (0#64) then
some (64)
else letv ((a0 &&& (0#64 - a0)) * (285870213051353865#64)) (fun (v1 : BitVec 64) =>
if True then
if 0 ≤ ((v1 >>> (58#64).toNat).toNat : Int) ∧ ((v1 >>> (58#64).toNat).toNat : Int) < ((64 : Nat) : Int) then
if 0 + ((v1 >>> (58#64).toNat).toNat : Int).toNat < tab0.size then
letv (w64 (tget tab0 (0 + ((v1 >>> (58#64).toNat).toNat : Int).toNat))) (fun (v2 : Int) =>
some (v2))
else none
else none
else none)
@[reducible] noncomputable def iFmath_bits_TrailingZeros64 : FnI := { ps := [⟨.u64, false, false, false⟩], rs := [⟨(.int .i64), false, true, false⟩], os := [], bk := [], F := fun x => Fmath_bits_TrailingZeros64 x }
noncomputable def cFmath_bits_TrailingZeros64 : Cx := { nm := [], keep := [], fns := tabF [], loops := [], joins := [], tb := tabs, exts := [], lets := [9, 13] }
theorem eFmath_bits_TrailingZeros64 : (fun x : HT iFmath_bits_TrailingZeros64.ps => iFmath_bits_TrailingZeros64.F x) = fun x => rk Tryd.prog cFmath_bits_TrailingZeros64 (Tryd.f68.body.getD .skip) (HT (iFmath_bits_TrailingZeros64.rs ++ iFmath_bits_TrailingZeros64.os)) 1000000 (finK Tryd.prog [.tmp 2] [] iFmath_bits_TrailingZeros64.os (iFmath_bits_TrailingZeros64.rs ++ iFmath_bits_TrailingZeros64.os)) (initF iFmath_bits_TrailingZeros64.ps x 14) (initL iFmath_bits_TrailingZeros64.ps x 0) := by kernel_rfl
theorem okFmath_bits_TrailingZeros64 : CallsV Tryd.prog tabs 68 iFmath_bits_TrailingZeros64 :=
  callsV_of_rk (cx := cFmath_bits_TrailingZeros64) (fn := Tryd.f68) (c := Tryd.f68.body.getD .skip) (n := 14) (N := 0) (rvs := [.tmp 2]) (cxOk TabOk.nil XtOk.nil) Tryd.func68 rfl (by kernel_rfl) rfl rfl (by decide) (by decide) (fun x => congrFun eFmath_bits_TrailingZeros64 x)
noncomputable def Fchain_in (a0 : (Int × (List (BitVec 64)) × (List (Int × Int × Int)))) (a1 : Int) : Option Bool :=
if a1 ≥ 0 then
some (decide (a1 < (a0.2.2.length : Int)))
else some (false)
@[reducible] noncomputable def iFchain_in : FnI := { ps := [⟨(.pair (.int .i64) (.pair (.slice .u64) (.slice (.pair (.int .i64) (.pair (.int .i64) (.int .i64)))))), true, false, false⟩, ⟨(.int .i64), false, false, false⟩], rs := [⟨.bool, false, true, false⟩], os := [], bk := [], F := fun x => Fchain_in x.1 x.2 }
noncomputable def cFchain_in : Cx := { nm := [(2, (2, 1))], keep := [], fns := tabF [], loops := [], joins := [], tb := tabs, exts := [], lets := [] }
theorem eFchain_in : (fun x : HT iFchain_in.ps => iFchain_in.F x) = fun x => rk Tryd.prog cFchain_in (Tryd.f65.body.getD .skip) (HT (iFchain_in.rs ++ iFchain_in.os)) 1000000 (finK Tryd.prog [.tmp 4] [] iFchain_in.os (iFchain_in.rs ++ iFchain_in.os)) (initF iFchain_in.ps x 14) (initL iFchain_in.ps x 1) := by kernel_rfl
theorem okFchain_in : CallsV Tryd.prog tabs 65 iFchain_in :=
  callsV_of_rk (cx := cFchain_in) (fn := Tryd.f65) (c := Tryd.f65.body.getD .skip) (n := 14) (N := 1) (rvs := [.tmp 4]) (cxOk TabOk.nil XtOk.nil) Tryd.func65 rfl (by kernel_rfl) rfl rfl (by decide) (by decide) (fun x => congrFun eFchain_in x)
noncomputable def Fchain_free (a0 : (Int × (List (BitVec 64)) × (List (Int × Int × Int)))) (a1 : Int) : Option Bool :=
if 0 ≤ a1 ∧ a1 < (a0.2.2.length : Int) then
some (decide (((gl ((0, 0, 0) : (Int × Int × Int)) a0.2.2 a1.toNat).1) = (-1)))
else none
@[reducible] noncomputable def iFchain_free : FnI := { ps := [⟨(.pair (.int .i64) (.pair (.slice .u64) (.slice (.pair (.int .i64) (.pair (.int .i64) (.int .i64)))))), true, false, false⟩, ⟨(.int .i64), false, false, false⟩], rs := [⟨.bool, false, true, false⟩], os := [], bk := [], F := fun x => Fchain_free x.1 x.2 }
noncomputable def cFchain_free : Cx := { nm := [(2, (2, 1))], keep := [], fns := tabF [], loops := [], joins := [], tb := tabs, exts := [], lets := [] }
theorem eFchain_free : (fun x : HT iFchain_free.ps => iFchain_free.F x) = fun x => rk Tryd.prog cFchain_free (Tryd.f66.body.getD .skip) (HT (iFchain_free.rs ++ iFchain_free.os)) 1000000 (finK Tryd.prog [.tmp 4] [] iFchain_free.os (iFchain_free.rs ++ iFchain_free.os)) (initF iFchain_free.ps x 12) (initL iFchain_free.ps x 1) := by kernel_rfl
theorem okFchain_free : CallsV Tryd.prog tabs 66 iFchain_free :=
  callsV_of_rk (cx := cFchain_free) (fn := Tryd.f66) (c := Tryd.f66.body.getD .skip) (n := 12) (N := 1) (rvs := [.tmp 4]) (cxOk TabOk.nil XtOk.nil) Tryd.func66 rfl (by kernel_rfl) rfl rfl (by decide) (by decide) (fun x => congrFun eFchain_free x)
noncomputable def Fchain_List (a0 : (Int × (List (BitVec 64)) × (List (Int × Int × Int)))) (a1 : Int) : Option ((List Int) × Int) :=
Option.bind (Fframe_Valid a0) (fun r1 =>
if (!r1) = true then
some (([], 1))
else Option.bind (Fchain_in a0 a1) (fun r2 =>
if (!r2) = true then
some (([], 2))
else Option.bind (Fchain_free a0 a1) (fun r3 =>
if r3 = true then
some (([], 5))
else loopO (σ := ((List Int) × Int)) (β := ((List Int) × Int)) (fun s1 =>
if s1.2 ≥ 0 then
if (s1.1.length + ([s1.2] : List Int).length) * 8 ≤ 140737488355328 then
if 0 ≤ s1.2 ∧ s1.2 < (a0.2.2.length : Int) then
some (Sum.inl ((s1.1 ++ ([s1.2] : List Int), ((gl ((0, 0, 0) : (Int × Int × Int)) a0.2.2 s1.2.toNat).2).2)))
else none
else none
else some (Sum.inr ((s1.1, 0)))) (([], a1)))))
@[reducible] noncomputable def iFchain_List : FnI := { ps := [⟨(.pair (.int .i64) (.pair (.slice .u64) (.slice (.pair (.int .i64) (.pair (.int .i64) (.int .i64)))))), true, false, false⟩, ⟨(.int .i64), false, false, false⟩], rs := [⟨(.slice (.int .i64)), false, true, false⟩, ⟨(.int .i64), false, true, false⟩], os := [], bk := [], F := fun x => Fchain_List x.1 x.2 }
noncomputable def cFchain_List : Cx := { nm := [(2, (2, 1)), (29, (4, 1)), (30, (5, 1))], keep := [30], fns := tabF [(38, iFframe_Valid), (65, iFchain_in), (66, iFchain_free)], loops := [(0, { live := [(6, ⟨(.slice (.int .i64)), false, true, false⟩), (7, ⟨(.int .i64), false, false, false⟩)], boxes := [], rows := [], dead := [19, 20, 21, 22, 23, 24, 25, 26, 27, 28, 29, 30], lost := [], base := 3 })], joins := [], tb := tabs, exts := [], lets := [] }
theorem eFchain_List : (fun x : HT iFchain_List.ps => iFchain_List.F x) = fun x => rk Tryd.prog cFchain_List (Tryd.f39.body.getD .skip) (HT (iFchain_List.rs ++ iFchain_List.os)) 1000000 (finK Tryd.prog [.tmp 4, .tmp 5] [] iFchain_List.os (iFchain_List.rs ++ iFchain_List.os)) (initF iFchain_List.ps x 32) (initL iFchain_List.ps x 4) := by kernel_rfl
theorem okFchain_List : CallsV Tryd.prog tabs 39 iFchain_List :=
  callsV_of_rk (cx := cFchain_List) (fn := Tryd.f39) (c := Tryd.f39.body.getD .skip) (n := 32) (N := 4) (rvs := [.tmp 4, .tmp 5]) (cxOk (.cons okFframe_Valid (.cons okFchain_in (.cons okFchain_free TabOk.nil))) XtOk.nil) Tryd.func39 rfl (by kernel_rfl) rfl rfl (by decide) (by decide) (fun x => congrFun eFchain_List x)
noncomputable def Fbits_Ceil (a0 : Int) (a1 : Int) : Option Int :=
if a0 < 0 then
some (0)
else if a0 > 1099511627776 then
some (0)
else if a1 < 0 then
some (0)
else if a1 > 20 then
some (0)
else if True then
if True then
some ((w64 ((w64 (a0 + (w64 ((1 : Int) * 2 ^ min (BitVec.ofInt 64 a1).toNat 64)))) - 1)) / 2 ^ min (BitVec.ofInt 64 a1).toNat 64)
else none
else none
@[reducible] noncomputable def iFbits_Ceil : FnI := { ps := [⟨(.int .i64), false, false, false⟩, ⟨(.int .i64), false, false, false⟩], rs := [⟨(.int .i64), false, true, false⟩], os := [], bk := [], F := fun x => Fbits_Ceil x.1 x.2 }
noncomputable def cFbits_Ceil : Cx := { nm := [], keep := [], fns := tabF [], loops := [], joins := [], tb := tabs, exts := [], lets := [] }
theorem eFbits_Ceil : (fun x : HT iFbits_Ceil.ps => iFbits_Ceil.F x) = fun x => rk Tryd.prog cFbits_Ceil (Tryd.f42.body.getD .skip) (HT (iFbits_Ceil.rs ++ iFbits_Ceil.os)) 1000000 (finK Tryd.prog [.tmp 4] [] iFbits_Ceil.os (iFbits_Ceil.rs ++ iFbits_Ceil.os)) (initF iFbits_Ceil.ps x 28) (initL iFbits_Ceil.ps x 0) := by kernel_rfl
theorem okFbits_Ceil : CallsV Tryd.prog tabs 42 iFbits_Ceil :=
  callsV_of_rk (cx := cFbits_Ceil) (fn := Tryd.f42) (c := Tryd.f42.body.getD .skip) (n := 28) (N := 0) (rvs := [.tmp 4]) (cxOk TabOk.nil XtOk.nil) Tryd.func42 rfl (by kernel_rfl) rfl rfl (by decide) (by decide) (fun x => congrFun eFbits_Ceil x)
noncomputable def Fbump_Frames (a0 : (Int × (List (BitVec 64)) × (List (Int × Int × Int)))) (a1 : (Int × Int × Int × Int × Int)) : Option Int :=
Option.bind (Fbits_Ceil a1.2.2.2.2 a0.1) (fun r1 =>
some (r1))
@[reducible] noncomputable def iFbump_Frames : FnI := { ps := [⟨(.pair (.int .i64) (.pair (.slice .u64) (.slice (.pair (.int .i64) (.pair (.int .i64) (.int .i64)))))), true, false, false⟩, ⟨(.pair (.int .i64) (.pair (.int .i64) (.pair (.int .i64) (.pair (.int .i64) (.int .i64))))), true, false, false⟩], rs := [⟨(.int .i64), false, true, false⟩], os := [], bk := [], F := fun x => Fbump_Frames x.1 x.2 }
noncomputable def cFbump_Frames : Cx := { nm := [(2, (2, 1)), (3, (3, 1))], keep := [], fns := tabF [(42, iFbits_Ceil)], loops := [], joins := [], tb := tabs, exts := [], lets := [] }
theorem eFbump_Frames : (fun x : HT iFbump_Frames.ps => iFbump_Frames.F x) = fun x => rk Tryd.prog cFbump_Frames (Tryd.f18.body.getD .skip) (HT (iFbump_Frames.rs ++ iFbump_Frames.os)) 1000000 (finK Tryd.prog [.tmp 4] [] iFbump_Frames.os (iFbump_Frames.rs ++ iFbump_Frames.os)) (initF iFbump_Frames.ps x 10) (initL iFbump_Frames.ps x 2) := by kernel_rfl
theorem okFbump_Frames : CallsV Tryd.prog tabs 18 iFbump_Frames :=
  callsV_of_rk (cx := cFbump_Frames) (fn := Tryd.f18) (c := Tryd.f18.body.getD .skip) (n := 10) (N := 2) (rvs := [.tmp 4]) (cxOk (.cons okFbits_Ceil TabOk.nil) XtOk.nil) Tryd.func18 rfl (by kernel_rfl) rfl rfl (by decide) (by decide) (fun x => congrFun eFbump_Frames x)
noncomputable def Fbump_owns (a0 : (Int × (List (BitVec 64)) × (List (Int × Int × Int)))) (a1 : Int) : Option Int :=
loopO (σ := (Int × Int)) (β := Int) (fun s1 =>
if s1.2 < (a0.2.2.length : Int) then
if 0 ≤ s1.2 ∧ s1.2 < (a0.2.2.length : Int) then
if ((gl ((0, 0, 0) : (Int × Int × Int)) a0.2.2 s1.2.toNat).1) = a1 then
some (Sum.inl ((w64 (s1.1 + 1), w64 (s1.2 + 1))))
else some (Sum.inl ((s1.1, w64 (s1.2 + 1))))
else none
else some (Sum.inr (s1.1))) ((0, 0))
@[reducible] noncomputable def iFbump_owns : FnI := { ps := [⟨(.pair (.int .i64) (.pair (.slice .u64) (.slice (.pair (.int .i64) (.pair (.int .i64) (.int .i64)))))), true, false, false⟩, ⟨(.int .i64), false, false, false⟩], rs := [⟨(.int .i64), false, true, false⟩], os := [], bk := [], F := fun x => Fbump_owns x.1 x.2 }
noncomputable def cFbump_owns : Cx := { nm := [(2, (2, 1)), (7, (3, 1))], keep := [], fns := tabF [], loops := [(0, { live := [(5, ⟨(.int .i64), false, false, false⟩), (11, ⟨(.int .i64), false, false, false⟩)], boxes := [], rows := [], dead := [7, 12, 13, 14, 15, 16, 17, 18, 19, 20, 21], lost := [], base := 3 })], joins := [], tb := tabs, exts := [], lets := [] }
theorem eFbump_owns : (fun x : HT iFbump_owns.ps => iFbump_owns.F x) = fun x => rk Tryd.prog cFbump_owns (Tryd.f40.body.getD .skip) (HT (iFbump_owns.rs ++ iFbump_owns.os)) 1000000 (finK Tryd.prog [.tmp 4] [] iFbump_owns.os (iFbump_owns.rs ++ iFbump_owns.os)) (initF iFbump_owns.ps x 23) (initL iFbump_owns.ps x 2) := by kernel_rfl
theorem okFbump_owns : CallsV Tryd.prog tabs 40 iFbump_owns :=
  callsV_of_rk (cx := cFbump_owns) (fn := Tryd.f40) (c := Tryd.f40.body.getD .skip) (n := 23) (N := 2) (rvs := [.tmp 4]) (cxOk TabOk.nil XtOk.nil) Tryd.func40 rfl (by kernel_rfl) rfl rfl (by decide) (by decide) (fun x => congrFun eFbump_owns x)
noncomputable def Fbump_Valid (a0 : (Int × (List (BitVec 64)) × (List (Int × Int × Int)))) (a1 : (Int × Int × Int × Int × Int)) : Option Bool :=
Option.bind (Fframe_Valid a0) (fun r1 =>
if (!r1) = true then
some (false)
else if a1.1 < 0 then
some (false)
else if a1.1 > 4294967295 then
some (false)
else if a1.2.1 < 0 then
some (false)
else if a1.2.1 ≥ 4 then
some (false)
else if a1.2.2.2.2 < 0 then
some (false)
else if a1.2.2.2.2 = 0 then
if a1.2.2.1 = (-1) then
some (decide (a1.2.2.2.1 = (-1)))
else some (false)
else Option.bind (Fchain_List a0 a1.2.2.1) (fun r2 =>
if ¬ r2.2 = 0 then
some (false)
else if a1.2.2.2.2 > (a0.2.1.length : Int) then
some (false)
else if 0 ≤ (w64 ((r2.1.length : Int) - 1)) ∧ (w64 ((r2.1.length : Int) - 1)) < (r2.1.length : Int) then
if ¬ (gl (0 : Int) r2.1 ((w64 ((r2.1.length : Int) - 1)).toNat)) = a1.2.2.2.1 then
some (false)
else Option.bind (Fbump_Frames a0 a1) (fun r3 =>
if ¬ (r2.1.length : Int) = r3 then
some (false)
else Option.bind (Fbump_owns a0 a1.1) (fun r4 =>
if ¬ (r2.1.length : Int) = r4 then
some (false)
else if 0 ≤ a1.2.2.1 ∧ a1.2.2.1 < (a0.2.2.length : Int) then
if ((gl ((0, 0, 0) : (Int × Int × Int)) a0.2.2 a1.2.2.1.toNat).1) = a1.1 then
some (decide ((((gl ((0, 0, 0) : (Int × Int × Int)) a0.2.2 a1.2.2.1.toNat).2).1) = (w64 ((w64 (a1.2.1 * 4294967296)) + a1.1))))
else some (false)
else none))
else none))
@[reducible] noncomputable def iFbump_Valid : FnI := { ps := [⟨(.pair (.int .i64) (.pair (.slice .u64) (.slice (.pair (.int .i64) (.pair (.int .i64) (.int .i64)))))), true, false, false⟩, ⟨(.pair (.int .i64) (.pair (.int .i64) (.pair (.int .i64) (.pair (.int .i64) (.int .i64))))), true, false, false⟩], rs := [⟨.bool, false, true, false⟩], os := [], bk := [], F := fun x => Fbump_Valid x.1 x.2 }
noncomputable def cFbump_Valid : Cx := { nm := [(2, (2, 1)), (3, (3, 1)), (7, (5, 1)), (51, (4, 1))], keep := [], fns := tabF [(18, iFbump_Frames), (38, iFframe_Valid), (39, iFchain_List), (40, iFbump_owns)], loops := [], joins := [], tb := tabs, exts := [], lets := [] }
theorem eFbump_Valid : (fun x : HT iFbump_Valid.ps => iFbump_Valid.F x) = fun x => rk Tryd.prog cFbump_Valid (Tryd.f15.body.getD .skip) (HT (iFbump_Valid.rs ++ iFbump_Valid.os)) 1000000 (finK Tryd.prog [.tmp 4] [] iFbump_Valid.os (iFbump_Valid.rs ++ iFbump_Valid.os)) (initF iFbump_Valid.ps x 114) (initL iFbump_Valid.ps x 4) := by kernel_rfl
theorem okFbump_Valid : CallsV Tryd.prog tabs 15 iFbump_Valid :=
  callsV_of_rk (cx := cFbump_Valid) (fn := Tryd.f15) (c := Tryd.f15.body.getD .skip) (n := 114) (N := 4) (rvs := [.tmp 4]) (cxOk (.cons okFbump_Frames (.cons okFframe_Valid (.cons okFchain_List (.cons okFbump_owns TabOk.nil)))) XtOk.nil) Tryd.func15 rfl (by kernel_rfl) rfl rfl (by decide) (by decide) (fun x => congrFun eFbump_Valid x)
noncomputable def Fbump_Extra (a0 : (Int × (List (BitVec 64)) × (List (Int × Int × Int)))) (a1 : (Int × Int × Int × Int × Int)) (a2 : Int) : Option Int :=
Option.bind (Fbits_Ceil (w64 (a1.2.2.2.2 + a2)) a0.1) (fun r1 =>
Option.bind (Fbump_Frames a0 a1) (fun r2 =>
some (w64 (r1 - r2))))
@[reducible] noncomputable def iFbump_Extra : FnI := { ps := [⟨(.pair (.int .i64) (.pair (.slice .u64) (.slice (.pair (.int .i64) (.pair (.int .i64) (.int .i64)))))), true, false, false⟩, ⟨(.pair (.int .i64) (.pair (.int .i64) (.pair (.int .i64) (.pair (.int .i64) (.int .i64))))), true, false, false⟩, ⟨(.int .i64), false, false, false⟩], rs := [⟨(.int .i64), false, true, false⟩], os := [], bk := [], F := fun x => Fbump_Extra x.1 x.2.1 x.2.2 }
noncomputable def cFbump_Extra : Cx := { nm := [(3, (2, 1)), (4, (3, 1))], keep := [], fns := tabF [(18, iFbump_Frames), (42, iFbits_Ceil)], loops := [], joins := [], tb := tabs, exts := [], lets := [] }
theorem eFbump_Extra : (fun x : HT iFbump_Extra.ps => iFbump_Extra.F x) = fun x => rk Tryd.prog cFbump_Extra (Tryd.f20.body.getD .skip) (HT (iFbump_Extra.rs ++ iFbump_Extra.os)) 1000000 (finK Tryd.prog [.tmp 6] [] iFbump_Extra.os (iFbump_Extra.rs ++ iFbump_Extra.os)) (initF iFbump_Extra.ps x 18) (initL iFbump_Extra.ps x 2) := by kernel_rfl
theorem okFbump_Extra : CallsV Tryd.prog tabs 20 iFbump_Extra :=
  callsV_of_rk (cx := cFbump_Extra) (fn := Tryd.f20) (c := Tryd.f20.body.getD .skip) (n := 18) (N := 2) (rvs := [.tmp 6]) (cxOk (.cons okFbump_Frames (.cons okFbits_Ceil TabOk.nil)) XtOk.nil) Tryd.func20 rfl (by kernel_rfl) rfl rfl (by decide) (by decide) (fun x => congrFun eFbump_Extra x)
noncomputable def Fpool_free (a0 : (Int × (List (BitVec 64)) × (List (Int × Int × Int)))) : Option (BitVec 64) :=
loopO (σ := ((BitVec 64) × Int)) (β := (BitVec 64)) (fun s1 =>
if s1.2 < (a0.2.2.length : Int) then
if 0 ≤ s1.2 ∧ s1.2 < (a0.2.2.length : Int) then
if ((gl ((0, 0, 0) : (Int × Int × Int)) a0.2.2 s1.2.toNat).1) = (-1) then
if s1.2 < 64 then
if True then
some (Sum.inl ((s1.1 ||| ((1#64) <<< (BitVec.ofInt 64 s1.2).toNat), w64 (s1.2 + 1))))
else none
else some (Sum.inl ((s1.1, w64 (s1.2 + 1))))
else some (Sum.inl ((s1.1, w64 (s1.2 + 1))))
else none
else some (Sum.inr (s1.1))) ((0#64, 0))
@[reducible] noncomputable def iFpool_free : FnI := { ps := [⟨(.pair (.int .i64) (.pair (.slice .u64) (.slice (.pair (.int .i64) (.pair (.int .i64) (.int .i64)))))), true, false, false⟩], rs := [⟨.u64, false, true, false⟩], os := [], bk := [], F := fun x => Fpool_free x }
noncomputable def cFpool_free : Cx := { nm := [(1, (2, 1)), (5, (3, 1))], keep := [], fns := tabF [], loops := [(0, { live := [(3, ⟨.u64, false, false, false⟩), (9, ⟨(.int .i64), false, false, false⟩)], boxes := [], rows := [], dead := [4, 5, 10, 11, 12, 13, 14, 15, 16, 17, 18, 19, 20, 21, 22, 23, 24, 25, 26], lost := [], base := 3 })], joins := [], tb := tabs, exts := [], lets := [] }
theorem eFpool_free : (fun x : HT iFpool_free.ps => iFpool_free.F x) = fun x => rk Tryd.prog cFpool_free (Tryd.f67.body.getD .skip) (HT (iFpool_free.rs ++ iFpool_free.os)) 1000000 (finK Tryd.prog [.tmp 2] [] iFpool_free.os (iFpool_free.rs ++ iFpool_free.os)) (initF iFpool_free.ps x 28) (initL iFpool_free.ps x 2) := by kernel_rfl
theorem okFpool_free : CallsV Tryd.prog tabs 67 iFpool_free :=
  callsV_of_rk (cx := cFpool_free) (fn := Tryd.f67) (c := Tryd.f67.body.getD .skip) (n := 28) (N := 2) (rvs := [.tmp 2]) (cxOk TabOk.nil XtOk.nil) Tryd.func67 rfl (by kernel_rfl) rfl rfl (by decide) (by decide) (fun x => congrFun eFpool_free x)
noncomputable def Fpool_Free (a0 : (Int × (List (BitVec 64)) × (List (Int × Int × Int)))) : Option (List Int) :=
Option.bind (Fpool_free a0) (fun r1 =>
loopO (σ := ((List Int) × (BitVec 64))) (β := (List Int)) (fun s1 =>
if ¬ s1.2 = (0#64) then
Option.bind (Fmath_bits_TrailingZeros64 s1.2) (fun r2 =>
if (s1.1.length + ([r2] : List Int).length) * 8 ≤ 140737488355328 then
some (Sum.inl ((s1.1 ++ ([r2] : List Int), s1.2 &&& (s1.2 - (1#64)))))
else none)
else some (Sum.inr (s1.1))) (([], r1)))
@[reducible] noncomputable def iFpool_Free : FnI := { ps := [⟨(.pair (.int .i64) (.pair (.slice .u64) (.slice (.pair (.int .i64) (.pair (.int .i64) (.int .i64)))))), true, false, false⟩], rs := [⟨(.slice (.int .i64)), false, true, false⟩], os := [], bk := [], F := fun x => Fpool_Free x }
noncomputable def cFpool_Free : Cx := { nm := [(1, (2, 1)), (16, (4, 1)), (17, (5, 1))], keep := [17], fns := tabF [(67, iFpool_free), (68, iFmath_bits_TrailingZeros64)], loops := [(0, { live := [(3, ⟨(.slice (.int .i64)), false, true, false⟩), (4, ⟨.u64, false, false, false⟩)], boxes := [], rows := [], dead := [7, 8, 9, 10, 11, 12, 13, 14, 15, 16, 17], lost := [], base := 3 })], joins := [], tb := tabs, exts := [], lets := [] }
theorem eFpool_Free : (fun x : HT iFpool_Free.ps => iFpool_Free.F x) = fun x => rk Tryd.prog cFpool_Free (Tryd.f45.body.getD .skip) (HT (iFpool_Free.rs ++ iFpool_Free.os)) 1000000 (finK Tryd.prog [.tmp 2] [] iFpool_Free.os (iFpool_Free.rs ++ iFpool_Free.os)) (initF iFpool_Free.ps x 19) (initL iFpool_Free.ps x 4) := by kernel_rfl
theorem okFpool_Free : CallsV Tryd.prog tabs 45 iFpool_Free :=
  callsV_of_rk (cx := cFpool_Free) (fn := Tryd.f45) (c := Tryd.f45.body.getD .skip) (n := 19) (N := 4) (rvs := [.tmp 2]) (cxOk (.cons okFpool_free (.cons okFmath_bits_TrailingZeros64 TabOk.nil)) XtOk.nil) Tryd.func45 rfl (by kernel_rfl) rfl rfl (by decide) (by decide) (fun x => congrFun eFpool_Free x)
noncomputable def Fclone_Words (a0 : (List (BitVec 64))) : Option (List (BitVec 64)) :=
if (([] : List (BitVec 64)).length + a0.length) * 8 ≤ 140737488355328 then
some (([] : List (BitVec 64)) ++ a0)
else none
@[reducible] noncomputable def iFclone_Words : FnI := { ps := [⟨(.slice .u64), false, false, false⟩], rs := [⟨(.slice .u64), false, true, false⟩], os := [], bk := [], F := fun x => Fclone_Words x }
noncomputable def cFclone_Words : Cx := { nm := [(4, (1, 1))], keep := [4], fns := tabF [], loops := [], joins := [], tb := tabs, exts := [], lets := [] }
theorem eFclone_Words : (fun x : HT iFclone_Words.ps => iFclone_Words.F x) = fun x => rk Tryd.prog cFclone_Words (Tryd.f75.body.getD .skip) (HT (iFclone_Words.rs ++ iFclone_Words.os)) 1000000 (finK Tryd.prog [.tmp 2] [] iFclone_Words.os (iFclone_Words.rs ++ iFclone_Words.os)) (initF iFclone_Words.ps x 5) (initL iFclone_Words.ps x 1) := by kernel_rfl
theorem okFclone_Words : CallsV Tryd.prog tabs 75 iFclone_Words :=
  callsV_of_rk (cx := cFclone_Words) (fn := Tryd.f75) (c := Tryd.f75.body.getD .skip) (n := 5) (N := 1) (rvs := [.tmp 2]) (cxOk TabOk.nil XtOk.nil) Tryd.func75 rfl (by kernel_rfl) rfl rfl (by decide) (by decide) (fun x => congrFun eFclone_Words x)
noncomputable def Fclone_Space (a0 : (Int × (List (BitVec 64)) × (List (Int × Int × Int)))) : Option (Int × (List (BitVec 64)) × (List (Int × Int × Int))) :=
Option.bind (Fclone_Words a0.2.1) (fun r1 =>
if (([] : List (Int × Int × Int)).length + a0.2.2.length) * 24 ≤ 140737488355328 then
some ((a0.1, r1, ([] : List (Int × Int × Int)) ++ a0.2.2))
else none)
@[reducible] noncomputable def iFclone_Space : FnI := { ps := [⟨(.pair (.int .i64) (.pair (.slice .u64) (.slice (.pair (.int .i64) (.pair (.int .i64) (.int .i64)))))), true, false, false⟩], rs := [⟨(.pair (.int .i64) (.pair (.slice .u64) (.slice (.pair (.int .i64) (.pair (.int .i64) (.int .i64)))))), true, true, false⟩], os := [], bk := [], F := fun x => Fclone_Space x }
noncomputable def cFclone_Space : Cx := { nm := [(1, (2, 1)), (2, (3, 1)), (7, (4, 1)), (10, (5, 1))], keep := [10], fns := tabF [(75, iFclone_Words)], loops := [], joins := [], tb := tabs, exts := [], lets := [] }
theorem eFclone_Space : (fun x : HT iFclone_Space.ps => iFclone_Space.F x) = fun x => rk Tryd.prog cFclone_Space (Tryd.f69.body.getD .skip) (HT (iFclone_Space.rs ++ iFclone_Space.os)) 1000000 (finK Tryd.prog [.cell 2 25] [] iFclone_Space.os (iFclone_Space.rs ++ iFclone_Space.os)) (initF iFclone_Space.ps x 12) (initL iFclone_Space.ps x 4) := by kernel_rfl
theorem okFclone_Space : CallsV Tryd.prog tabs 69 iFclone_Space :=
  callsV_of_rk (cx := cFclone_Space) (fn := Tryd.f69) (c := Tryd.f69.body.getD .skip) (n := 12) (N := 4) (rvs := [.cell 2 25]) (cxOk (.cons okFclone_Words TabOk.nil) XtOk.nil) Tryd.func69 rfl (by kernel_rfl) rfl rfl (by decide) (by decide) (fun x => congrFun eFclone_Space x)
noncomputable def Fpool_Take (a0 : (Int × (List (BitVec 64)) × (List (Int × Int × Int)))) (a1 : Int) (a2 : Int) : Option ((Int × (List (BitVec 64)) × (List (Int × Int × Int))) × Int × Int) :=
Option.bind (Fframe_Valid a0) (fun r1 =>
if (!r1) = true then
some (((0, [], []), 0, 1))
else if a1 < 0 then
some (((0, [], []), 0, 1))
else if a1 > 4294967295 then
some (((0, [], []), 0, 1))
else if a2 < 0 then
some (((0, [], []), 0, 1))
else if a2 ≥ 4 then
some (((0, [], []), 0, 1))
else loopO (σ := Int) (β := ((Int × (List (BitVec 64)) × (List (Int × Int × Int))) × Int × Int)) (fun s1 =>
if s1 < (a0.2.2.length : Int) then
if 0 ≤ s1 ∧ s1 < (a0.2.2.length : Int) then
if ((gl ((0, 0, 0) : (Int × Int × Int)) a0.2.2 s1.toNat).1) = a1 then
if ¬ (((gl ((0, 0, 0) : (Int × Int × Int)) a0.2.2 s1.toNat).2).1) = (w64 ((w64 (a2 * 4294967296)) + a1)) then
some (Sum.inr (((0, [], []), 0, 5)))
else some (Sum.inl (w64 (s1 + 1)))
else some (Sum.inl (w64 (s1 + 1)))
else none
else Option.map Sum.inr (Option.bind (Fpool_free a0) (fun r2 =>
if r2 = (0#64) then
some (((0, [], []), 0, 4))
else Option.bind (Fclone_Space a0) (fun r3 =>
Option.bind (Fmath_bits_TrailingZeros64 r2) (fun r4 =>
if 0 ≤ r4 ∧ r4 < (r3.2.2.length : Int) then
some (((r3.1, r3.2.1, r3.2.2.set r4.toNat (a1, w64 ((w64 (a2 * 4294967296)) + a1), (-1))), r4, 0))
else none))))) (0))
@[reducible] noncomputable def iFpool_Take : FnI := { ps := [⟨(.pair (.int .i64) (.pair (.slice .u64) (.slice (.pair (.int .i64) (.pair (.int .i64) (.int .i64)))))), true, false, false⟩, ⟨(.int .i64), false, false, false⟩, ⟨(.int .i64), false, false, false⟩], rs := [⟨(.pair (.int .i64) (.pair (.slice .u64) (.slice (.pair (.int .i64) (.pair (.int .i64) (.int .i64)))))), true, true, false⟩, ⟨(.int .i64), false, true, false⟩, ⟨(.int .i64), false, true, false⟩], os := [], bk := [], F := fun x => Fpool_Take x.1 x.2.1 x.2.2 }
noncomputable def cFpool_Take : Cx := { nm := [(3, (2, 1)), (6, (3, 1)), (11, (4, 1)), (13, (7, 1)), (64, (5, 2))], keep := [], fns := tabF [(38, iFframe_Valid), (67, iFpool_free), (68, iFmath_bits_TrailingZeros64), (69, iFclone_Space)], loops := [(0, { live := [(42, ⟨(.int .i64), false, false, false⟩)], boxes := [], rows := [], dead := [7, 8, 11, 43, 44, 45, 46, 47, 48, 49, 50, 51, 52, 53, 54, 55, 56, 57], lost := [], base := 4 })], joins := [], tb := tabs, exts := [], lets := [] }
theorem eFpool_Take : (fun x : HT iFpool_Take.ps => iFpool_Take.F x) = fun x => rk Tryd.prog cFpool_Take (Tryd.f46.body.getD .skip) (HT (iFpool_Take.rs ++ iFpool_Take.os)) 1000000 (finK Tryd.prog [.cell 6 25, .tmp 7, .tmp 8] [] iFpool_Take.os (iFpool_Take.rs ++ iFpool_Take.os)) (initF iFpool_Take.ps x 76) (initL iFpool_Take.ps x 6) := by kernel_rfl
theorem okFpool_Take : CallsV Tryd.prog tabs 46 iFpool_Take :=
  callsV_of_rk (cx := cFpool_Take) (fn := Tryd.f46) (c := Tryd.f46.body.getD .skip) (n := 76) (N := 6) (rvs := [.cell 6 25, .tmp 7, .tmp 8]) (cxOk (.cons okFframe_Valid (.cons okFpool_free (.cons okFmath_bits_TrailingZeros64 (.cons okFclone_Space TabOk.nil)))) XtOk.nil) Tryd.func46 rfl (by kernel_rfl) rfl rfl (by decide) (by decide) (fun x => congrFun eFpool_Take x)
noncomputable def Fchain_Link (a0 : (Int × (List (BitVec 64)) × (List (Int × Int × Int)))) (a1 : Int) (a2 : Int) : Option ((Int × (List (BitVec 64)) × (List (Int × Int × Int))) × Int) :=
Option.bind (Fframe_Valid a0) (fun r1 =>
if (!r1) = true then
some (((0, [], []), 1))
else Option.bind (Fchain_in a0 a1) (fun r2 =>
if (!r2) = true then
some (((0, [], []), 2))
else Option.bind (Fchain_in a0 a2) (fun r3 =>
if (!r3) = true then
some (((0, [], []), 2))
else Option.bind (Fchain_free a0 a1) (fun r4 =>
if r4 = true then
some (((0, [], []), 5))
else Option.bind (Fchain_free a0 a2) (fun r5 =>
if r5 = true then
some (((0, [], []), 5))
else if 0 ≤ a1 ∧ a1 < (a0.2.2.length : Int) then
if 0 ≤ a2 ∧ a2 < (a0.2.2.length : Int) then
if ¬ (((gl ((0, 0, 0) : (Int × Int × Int)) a0.2.2 a1.toNat).2).1) = (((gl ((0, 0, 0) : (Int × Int × Int)) a0.2.2 a2.toNat).2).1) then
some (((0, [], []), 5))
else if 0 ≤ a1 ∧ a1 < (a0.2.2.length : Int) then
if ¬ (((gl ((0, 0, 0) : (Int × Int × Int)) a0.2.2 a1.toNat).2).2) = (-1) then
some (((0, [], []), 5))
else loopO (σ := Int) (β := ((Int × (List (BitVec 64)) × (List (Int × Int × Int))) × Int)) (fun s1 =>
if s1 < (a0.2.2.length : Int) then
if 0 ≤ s1 ∧ s1 < (a0.2.2.length : Int) then
if (((gl ((0, 0, 0) : (Int × Int × Int)) a0.2.2 s1.toNat).2).2) = a2 then
some (Sum.inr (((0, [], []), 5)))
else some (Sum.inl (w64 (s1 + 1)))
else none
else Option.map Sum.inr (loopO (σ := Int) (β := ((Int × (List (BitVec 64)) × (List (Int × Int × Int))) × Int)) (fun s2 =>
if s2 ≥ 0 then
if s2 = a1 then
some (Sum.inr (((0, [], []), 5)))
else if 0 ≤ s2 ∧ s2 < (a0.2.2.length : Int) then
some (Sum.inl (((gl ((0, 0, 0) : (Int × Int × Int)) a0.2.2 s2.toNat).2).2))
else none
else Option.map Sum.inr (Option.bind (Fclone_Space a0) (fun r6 =>
if 0 ≤ a1 ∧ a1 < (r6.2.2.length : Int) then
some (((r6.1, r6.2.1, r6.2.2.set a1.toNat ((gl ((0, 0, 0) : (Int × Int × Int)) r6.2.2 a1.toNat).1, ((gl ((0, 0, 0) : (Int × Int × Int)) r6.2.2 a1.toNat).2).1, a2)), 0))
else none))) (a2))) (0)
else none
else none
else none)))))
@[reducible] noncomputable def iFchain_Link : FnI := { ps := [⟨(.pair (.int .i64) (.pair (.slice .u64) (.slice (.pair (.int .i64) (.pair (.int .i64) (.int .i64)))))), true, false, false⟩, ⟨(.int .i64), false, false, false⟩, ⟨(.int .i64), false, false, false⟩], rs := [⟨(.pair (.int .i64) (.pair (.slice .u64) (.slice (.pair (.int .i64) (.pair (.int .i64) (.int .i64)))))), true, true, false⟩, ⟨(.int .i64), false, true, false⟩], os := [], bk := [], F := fun x => Fchain_Link x.1 x.2.1 x.2.2 }
noncomputable def cFchain_Link : Cx := { nm := [(3, (2, 1)), (6, (3, 1)), (9, (4, 1)), (11, (7, 1)), (87, (5, 2))], keep := [], fns := tabF [(38, iFframe_Valid), (65, iFchain_in), (66, iFchain_free), (69, iFclone_Space)], loops := [(0, { live := [(63, ⟨(.int .i64), false, false, false⟩)], boxes := [], rows := [], dead := [7, 9, 64, 65, 66, 67, 68, 69, 70, 71, 72], lost := [], base := 4 }), (2, { live := [(10, ⟨(.int .i64), false, false, false⟩)], boxes := [], rows := [], dead := [7, 74, 75, 76, 77, 78, 79, 80, 81, 82, 83, 84, 85], lost := [], base := 5 })], joins := [], tb := tabs, exts := [], lets := [] }
theorem eFchain_Link : (fun x : HT iFchain_Link.ps => iFchain_Link.F x) = fun x => rk Tryd.prog cFchain_Link (Tryd.f47.body.getD .skip) (HT (iFchain_Link.rs ++ iFchain_Link.os)) 1000000 (finK Tryd.prog [.cell 6 25, .tmp 7] [] iFchain_Link.os (iFchain_Link.rs ++ iFchain_Link.os)) (initF iFchain_Link.ps x 95) (initL iFchain_Link.ps x 6) := by kernel_rfl
theorem okFchain_Link : CallsV Tryd.prog tabs 47 iFchain_Link :=
  callsV_of_rk (cx := cFchain_Link) (fn := Tryd.f47) (c := Tryd.f47.body.getD .skip) (n := 95) (N := 6) (rvs := [.cell 6 25, .tmp 7]) (cxOk (.cons okFframe_Valid (.cons okFchain_in (.cons okFchain_free (.cons okFclone_Space TabOk.nil)))) XtOk.nil) Tryd.func47 rfl (by kernel_rfl) rfl rfl (by decide) (by decide) (fun x => congrFun eFchain_Link x)
noncomputable def Fframe_bounded (a0 : (Int × (List (BitVec 64)) × (List (Int × Int × Int)))) : Option Bool :=
Option.bind (Fframe_shift a0.1) (fun r1 =>
if r1 = true then
some (decide ((a0.2.2.length : Int) ≤ 64))
else some (false))
@[reducible] noncomputable def iFframe_bounded : FnI := { ps := [⟨(.pair (.int .i64) (.pair (.slice .u64) (.slice (.pair (.int .i64) (.pair (.int .i64) (.int .i64)))))), true, false, false⟩], rs := [⟨.bool, false, true, false⟩], os := [], bk := [], F := fun x => Fframe_bounded x }
noncomputable def cFframe_bounded : Cx := { nm := [(1, (2, 1))], keep := [], fns := tabF [(62, iFframe_shift)], loops := [], joins := [], tb := tabs, exts := [], lets := [] }
theorem eFframe_bounded : (fun x : HT iFframe_bounded.ps => iFframe_bounded.F x) = fun x => rk Tryd.prog cFframe_bounded (Tryd.f70.body.getD .skip) (HT (iFframe_bounded.rs ++ iFframe_bounded.os)) 1000000 (finK Tryd.prog [.tmp 2] [] iFframe_bounded.os (iFframe_bounded.rs ++ iFframe_bounded.os)) (initF iFframe_bounded.ps x 12) (initL iFframe_bounded.ps x 1) := by kernel_rfl
theorem okFframe_bounded : CallsV Tryd.prog tabs 70 iFframe_bounded :=
  callsV_of_rk (cx := cFframe_bounded) (fn := Tryd.f70) (c := Tryd.f70.body.getD .skip) (n := 12) (N := 1) (rvs := [.tmp 2]) (cxOk (.cons okFframe_shift TabOk.nil) XtOk.nil) Tryd.func70 rfl (by kernel_rfl) rfl rfl (by decide) (by decide) (fun x => congrFun eFframe_bounded x)
noncomputable def Fframe_Base (a0 : (Int × (List (BitVec 64)) × (List (Int × Int × Int)))) (a1 : Int) : Option (Int × Int) :=
Option.bind (Fframe_bounded a0) (fun r1 =>
if (!r1) = true then
some ((0, 1))
else if a1 < 0 then
some ((0, 2))
else if a1 ≥ (a0.2.2.length : Int) then
some ((0, 2))
else if True then
some ((w64 (a1 * 2 ^ min (BitVec.ofInt 64 a0.1).toNat 64), 0))
else none)
@[reducible] noncomputable def iFframe_Base : FnI := { ps := [⟨(.pair (.int .i64) (.pair (.slice .u64) (.slice (.pair (.int .i64) (.pair (.int .i64) (.int .i64)))))), true, false, false⟩, ⟨(.int .i64), false, false, false⟩], rs := [⟨(.int .i64), false, true, false⟩, ⟨(.int .i64), false, true, false⟩], os := [], bk := [], F := fun x => Fframe_Base x.1 x.2 }
noncomputable def cFframe_Base : Cx := { nm := [(2, (2, 1))], keep := [], fns := tabF [(70, iFframe_bounded)], loops := [], joins := [], tb := tabs, exts := [], lets := [] }
theorem eFframe_Base : (fun x : HT iFframe_Base.ps => iFframe_Base.F x) = fun x => rk Tryd.prog cFframe_Base (Tryd.f48.body.getD .skip) (HT (iFframe_Base.rs ++ iFframe_Base.os)) 1000000 (finK Tryd.prog [.tmp 4, .tmp 5] [] iFframe_Base.os (iFframe_Base.rs ++ iFframe_Base.os)) (initF iFframe_Base.ps x 23) (initL iFframe_Base.ps x 1) := by kernel_rfl
theorem okFframe_Base : CallsV Tryd.prog tabs 48 iFframe_Base :=
  callsV_of_rk (cx := cFframe_Base) (fn := Tryd.f48) (c := Tryd.f48.body.getD .skip) (n := 23) (N := 1) (rvs := [.tmp 4, .tmp 5]) (cxOk (.cons okFframe_bounded TabOk.nil) XtOk.nil) Tryd.func48 rfl (by kernel_rfl) rfl rfl (by decide) (by decide) (fun x => congrFun eFframe_Base x)
noncomputable def Fchain_Step (a0 : (Int × (List (BitVec 64)) × (List (Int × Int × Int)))) (a1 : Int) (a2 : Int) : Option (Int × Int) :=
Option.bind (Fframe_Valid a0) (fun r1 =>
if (!r1) = true then
some ((0, 1))
else if a1 < 0 then
some ((0, 2))
else if a1 ≥ (a0.2.1.length : Int) then
some ((0, 2))
else if a2 < 0 then
some ((0, 2))
else if True then
Option.bind (Fframe_Size a0) (fun r2 =>
Option.bind (Fframe_Size a0) (fun r3 =>
Option.bind (Fchain_free a0 (a1 / 2 ^ min (BitVec.ofInt 64 a0.1).toNat 64)) (fun r4 =>
if r4 = true then
some ((0, 5))
else if a2 > (a0.2.1.length : Int) then
some ((0, 2))
else loopO (σ := (Int × Int)) (β := (Int × Int)) (fun s1 =>
if s1.1 ≥ 0 then
if s1.2 < r3 then
if True then
some (Sum.inr ((w64 ((w64 (s1.1 * 2 ^ min (BitVec.ofInt 64 a0.1).toNat 64)) + s1.2), 0)))
else none
else if 0 ≤ s1.1 ∧ s1.1 < (a0.2.2.length : Int) then
some (Sum.inl ((((gl ((0, 0, 0) : (Int × Int × Int)) a0.2.2 s1.1.toNat).2).2, w64 (s1.2 - r3))))
else none
else some (Sum.inr ((0, 2)))) ((a1 / 2 ^ min (BitVec.ofInt 64 a0.1).toNat 64, w64 ((iBits .and a1 (w64 (r2 - 1))) + a2))))))
else none)
@[reducible] noncomputable def iFchain_Step : FnI := { ps := [⟨(.pair (.int .i64) (.pair (.slice .u64) (.slice (.pair (.int .i64) (.pair (.int .i64) (.int .i64)))))), true, false, false⟩, ⟨(.int .i64), false, false, false⟩, ⟨(.int .i64), false, false, false⟩], rs := [⟨(.int .i64), false, true, false⟩, ⟨(.int .i64), false, true, false⟩], os := [], bk := [], F := fun x => Fchain_Step x.1 x.2.1 x.2.2 }
noncomputable def cFchain_Step : Cx := { nm := [(3, (2, 1))], keep := [], fns := tabF [(38, iFframe_Valid), (66, iFchain_free), (71, iFframe_Size)], loops := [(0, { live := [(11, ⟨(.int .i64), false, false, false⟩), (12, ⟨(.int .i64), false, false, false⟩)], boxes := [], rows := [], dead := [6, 7, 53, 54, 55, 56, 57, 58, 59, 60, 61, 62, 63, 64, 65, 66, 67, 68, 69, 70, 71, 72, 73], lost := [], base := 3 })], joins := [], tb := tabs, exts := [], lets := [] }
theorem eFchain_Step : (fun x : HT iFchain_Step.ps => iFchain_Step.F x) = fun x => rk Tryd.prog cFchain_Step (Tryd.f49.body.getD .skip) (HT (iFchain_Step.rs ++ iFchain_Step.os)) 1000000 (finK Tryd.prog [.tmp 6, .tmp 7] [] iFchain_Step.os (iFchain_Step.rs ++ iFchain_Step.os)) (initF iFchain_Step.ps x 74) (initL iFchain_Step.ps x 1) := by kernel_rfl
theorem okFchain_Step : CallsV Tryd.prog tabs 49 iFchain_Step :=
  callsV_of_rk (cx := cFchain_Step) (fn := Tryd.f49) (c := Tryd.f49.body.getD .skip) (n := 74) (N := 1) (rvs := [.tmp 6, .tmp 7]) (cxOk (.cons okFframe_Valid (.cons okFchain_free (.cons okFframe_Size TabOk.nil))) XtOk.nil) Tryd.func49 rfl (by kernel_rfl) rfl rfl (by decide) (by decide) (fun x => congrFun eFchain_Step x)
noncomputable def Fbump_copied (a0 : (Int × (List (BitVec 64)) × (List (Int × Int × Int)))) : Option (Int × (List (BitVec 64)) × (List (Int × Int × Int))) :=
if (([] : List (BitVec 64)).length + a0.2.1.length) * 8 ≤ 140737488355328 then
if (([] : List (Int × Int × Int)).length + a0.2.2.length) * 24 ≤ 140737488355328 then
some ((a0.1, ([] : List (BitVec 64)) ++ a0.2.1, ([] : List (Int × Int × Int)) ++ a0.2.2))
else none
else none
@[reducible] noncomputable def iFbump_copied : FnI := { ps := [⟨(.pair (.int .i64) (.pair (.slice .u64) (.slice (.pair (.int .i64) (.pair (.int .i64) (.int .i64)))))), true, false, false⟩], rs := [⟨(.pair (.int .i64) (.pair (.slice .u64) (.slice (.pair (.int .i64) (.pair (.int .i64) (.int .i64)))))), true, true, false⟩], os := [], bk := [], F := fun x => Fbump_copied x }
noncomputable def cFbump_copied : Cx := { nm := [(1, (2, 1)), (2, (3, 1)), (7, (4, 1)), (10, (5, 1))], keep := [7, 10], fns := tabF [], loops := [], joins := [], tb := tabs, exts := [], lets := [] }
theorem eFbump_copied : (fun x : HT iFbump_copied.ps => iFbump_copied.F x) = fun x => rk Tryd.prog cFbump_copied (Tryd.f50.body.getD .skip) (HT (iFbump_copied.rs ++ iFbump_copied.os)) 1000000 (finK Tryd.prog [.cell 2 25] [] iFbump_copied.os (iFbump_copied.rs ++ iFbump_copied.os)) (initF iFbump_copied.ps x 12) (initL iFbump_copied.ps x 4) := by kernel_rfl
theorem okFbump_copied : CallsV Tryd.prog tabs 50 iFbump_copied :=
  callsV_of_rk (cx := cFbump_copied) (fn := Tryd.f50) (c := Tryd.f50.body.getD .skip) (n := 12) (N := 4) (rvs := [.cell 2 25]) (cxOk TabOk.nil XtOk.nil) Tryd.func50 rfl (by kernel_rfl) rfl rfl (by decide) (by decide) (fun x => congrFun eFbump_copied x)
noncomputable def Fbump_Alloc (a0 : (Int × (List (BitVec 64)) × (List (Int × Int × Int)))) (a1 : (Int × Int × Int × Int × Int)) (a2 : Int) : Option ((Int × (List (BitVec 64)) × (List (Int × Int × Int))) × (Int × Int × Int × Int × Int) × Int × Int) :=
Option.bind (Fbump_Valid a0 a1) (fun r1 =>
if (!r1) = true then
some (((0, [], []), (0, 0, 0, 0, 0), 0, 1))
else if a2 < 1 then
some (((0, [], []), (0, 0, 0, 0, 0), 0, 1))
else if a2 > 48 then
some (((0, [], []), (0, 0, 0, 0, 0), 0, 1))
else if a1.2.2.2.2 = 0 then
Option.bind (Fbump_owns a0 a1.1) (fun r2 =>
if r2 > 0 then
some (((0, [], []), (0, 0, 0, 0, 0), 0, 5))
else Option.bind (Fbump_Extra a0 a1 a2) (fun r3 =>
Option.bind (Fpool_Free a0) (fun r4 =>
if (r4.length : Int) < r3 then
some (((0, [], []), (0, 0, 0, 0, 0), 0, 4))
else loopO (σ := (Int × (Int × (List (BitVec 64)) × (List (Int × Int × Int))) × (Int × Int × Int × Int × Int))) (β := ((Int × (List (BitVec 64)) × (List (Int × Int × Int))) × (Int × Int × Int × Int × Int) × Int × Int)) (fun s1 =>
if s1.1 = r3 then
Option.map Sum.inr (Option.bind (Fframe_Base s1.2.1 s1.2.2.2.2.1) (fun r5 =>
Option.bind (Fchain_Step s1.2.1 r5.1 a1.2.2.2.2) (fun r6 =>
if ¬ r6.2 = 0 then
some (((0, [], []), (0, 0, 0, 0, 0), 0, r6.2))
else if r3 = 0 then
Option.bind (Fbump_copied a0) (fun r7 =>
some ((r7, (s1.2.2.1, s1.2.2.2.1, s1.2.2.2.2.1, s1.2.2.2.2.2.1, w64 (s1.2.2.2.2.2.2 + a2)), r6.1, 0)))
else some ((s1.2.1, (s1.2.2.1, s1.2.2.2.1, s1.2.2.2.2.1, s1.2.2.2.2.2.1, w64 (s1.2.2.2.2.2.2 + a2)), r6.1, 0)))))
else Option.bind (Fpool_Take s1.2.1 a1.1 a1.2.1) (fun r8 =>
if ¬ r8.2.2 = 0 then
some (Sum.inr (((0, [], []), (0, 0, 0, 0, 0), 0, r8.2.2)))
else if s1.2.2.2.2.2.1 ≥ 0 then
Option.bind (Fchain_Link r8.1 s1.2.2.2.2.2.1 r8.2.1) (fun r9 =>
if ¬ r9.2 = 0 then
some (Sum.inr (((0, [], []), (0, 0, 0, 0, 0), 0, r9.2)))
else some (Sum.inl ((w64 (s1.1 + 1), r9.1, (s1.2.2.1, s1.2.2.2.1, s1.2.2.2.2.1, r8.2.1, s1.2.2.2.2.2.2)))))
else some (Sum.inl ((w64 (s1.1 + 1), r8.1, (s1.2.2.1, s1.2.2.2.1, r8.2.1, r8.2.1, s1.2.2.2.2.2.2)))))) ((0, a0, a1)))))
else Option.bind (Fbump_Extra a0 a1 a2) (fun r10 =>
Option.bind (Fpool_Free a0) (fun r11 =>
if (r11.length : Int) < r10 then
some (((0, [], []), (0, 0, 0, 0, 0), 0, 4))
else loopO (σ := (Int × (Int × (List (BitVec 64)) × (List (Int × Int × Int))) × (Int × Int × Int × Int × Int))) (β := ((Int × (List (BitVec 64)) × (List (Int × Int × Int))) × (Int × Int × Int × Int × Int) × Int × Int)) (fun s2 =>
if s2.1 = r10 then
Option.map Sum.inr (Option.bind (Fframe_Base s2.2.1 s2.2.2.2.2.1) (fun r12 =>
Option.bind (Fchain_Step s2.2.1 r12.1 a1.2.2.2.2) (fun r13 =>
if ¬ r13.2 = 0 then
some (((0, [], []), (0, 0, 0, 0, 0), 0, r13.2))
else if r10 = 0 then
Option.bind (Fbump_copied a0) (fun r14 =>
some ((r14, (s2.2.2.1, s2.2.2.2.1, s2.2.2.2.2.1, s2.2.2.2.2.2.1, w64 (s2.2.2.2.2.2.2 + a2)), r13.1, 0)))
else some ((s2.2.1, (s2.2.2.1, s2.2.2.2.1, s2.2.2.2.2.1, s2.2.2.2.2.2.1, w64 (s2.2.2.2.2.2.2 + a2)), r13.1, 0)))))
else Option.bind (Fpool_Take s2.2.1 a1.1 a1.2.1) (fun r15 =>
if ¬ r15.2.2 = 0 then
some (Sum.inr (((0, [], []), (0, 0, 0, 0, 0), 0, r15.2.2)))
else if s2.2.2.2.2.2.1 ≥ 0 then
Option.bind (Fchain_Link r15.1 s2.2.2.2.2.2.1 r15.2.1) (fun r16 =>
if ¬ r16.2 = 0 then
some (Sum.inr (((0, [], []), (0, 0, 0, 0, 0), 0, r16.2)))
else some (Sum.inl ((w64 (s2.1 + 1), r16.1, (s2.2.2.1, s2.2.2.2.1, s2.2.2.2.2.1, r15.2.1, s2.2.2.2.2.2.2)))))
else some (Sum.inl ((w64 (s2.1 + 1), r15.1, (s2.2.2.1, s2.2.2.2.1, r15.2.1, r15.2.1, s2.2.2.2.2.2.2)))))) ((0, a0, a1)))))
@[reducible] noncomputable def iFbump_Alloc : FnI := { ps := [⟨(.pair (.int .i64) (.pair (.slice .u64) (.slice (.pair (.int .i64) (.pair (.int .i64) (.int .i64)))))), true, false, false⟩, ⟨(.pair (.int .i64) (.pair (.int .i64) (.pair (.int .i64) (.pair (.int .i64) (.int .i64))))), true, false, false⟩, ⟨(.int .i64), false, false, false⟩], rs := [⟨(.pair (.int .i64) (.pair (.slice .u64) (.slice (.pair (.int .i64) (.pair (.int .i64) (.int .i64)))))), true, false, false⟩, ⟨(.pair (.int .i64) (.pair (.int .i64) (.pair (.int .i64) (.pair (.int .i64) (.int .i64))))), true, false, false⟩, ⟨(.int .i64), false, false, false⟩, ⟨(.int .i64), false, false, false⟩], os := [], bk := [], F := fun x => Fbump_Alloc x.1 x.2.1 x.2.2 }
noncomputable def cFbump_Alloc : Cx := { nm := [(3, (2, 1)), (4, (3, 1)), (6, (4, 1)), (7, (5, 1)), (11, (7, 1)), (12, (8, 1)), (14, (13, 1)), (52, (6, 1)), (71, (11, 2)), (89, (14, 2)), (129, (9, 2))], keep := [], fns := tabF [(15, iFbump_Valid), (20, iFbump_Extra), (40, iFbump_owns), (45, iFpool_Free), (46, iFpool_Take), (47, iFchain_Link), (48, iFframe_Base), (49, iFchain_Step), (50, iFbump_copied)], loops := [(0, { live := [(13, ⟨(.int .i64), false, false, false⟩)], boxes := [(7, ⟨(.pair (.int .i64) (.pair (.slice .u64) (.slice (.pair (.int .i64) (.pair (.int .i64) (.int .i64)))))), true, false, false⟩), (8, ⟨(.pair (.int .i64) (.pair (.int .i64) (.pair (.int .i64) (.pair (.int .i64) (.int .i64))))), true, false, false⟩)], rows := [], dead := [8, 9, 14, 15, 16, 60, 61, 62, 63, 64, 65, 66, 67, 68, 69, 70, 71, 72, 73, 74, 75, 76, 77, 78, 79, 80, 81, 82, 83, 84, 85, 86, 87, 88, 89, 90, 91, 92, 93, 94, 95, 96, 97, 98, 99, 100], lost := [], base := 16 })], joins := [], tb := tabs, exts := [], lets := [] }
theorem eFbump_Alloc : (fun x : HT iFbump_Alloc.ps => iFbump_Alloc.F x) = fun x => rk Tryd.prog cFbump_Alloc (Tryd.f26.body.getD .skip) (HT (iFbump_Alloc.rs ++ iFbump_Alloc.os)) 1000000 (finK Tryd.prog [.cell 6 25, .cell 7 27, .tmp 8, .tmp 9] [] iFbump_Alloc.os (iFbump_Alloc.rs ++ iFbump_Alloc.os)) (initF iFbump_Alloc.ps x 133) (initL iFbump_Alloc.ps x 16) := by kernel_rfl
theorem okFbump_Alloc : CallsV Tryd.prog tabs 26 iFbump_Alloc :=
  callsV_of_rk (cx := cFbump_Alloc) (fn := Tryd.f26) (c := Tryd.f26.body.getD .skip) (n := 133) (N := 16) (rvs := [.cell 6 25, .cell 7 27, .tmp 8, .tmp 9]) (cxOk (.cons okFbump_Valid (.cons okFbump_Extra (.cons okFbump_owns (.cons okFpool_Free (.cons okFpool_Take (.cons okFchain_Link (.cons okFframe_Base (.cons okFchain_Step (.cons okFbump_copied TabOk.nil))))))))) XtOk.nil) Tryd.func26 rfl (by kernel_rfl) rfl rfl (by decide) (by decide) (fun x => congrFun eFbump_Alloc x)
noncomputable def Fbeltwaylaw09_awake  : Option Bool :=
Option.bind (Fbeltwayref03_New 3 4) (fun r1 =>
Option.bind (Fbump_Alloc r1.1 (0, 0, (-1), (-1), 0) 5) (fun r2 =>
Option.bind (Fbump_Alloc r2.1 r2.2.1 6) (fun r3 =>
if r3.2.2.2 = 0 then
if r3.2.1.2.2.2.2 = 11 then
if r3.2.1.2.2.1 = 0 then
if r3.2.1.2.2.2.1 = 1 then
some (decide (r3.2.2.1 = 5))
else some (false)
else some (false)
else some (false)
else some (false))))
@[reducible] noncomputable def iFbeltwaylaw09_awake : FnI := { ps := [], rs := [⟨.bool, false, true, false⟩], os := [], bk := [], F := fun x => Fbeltwaylaw09_awake  }
noncomputable def cFbeltwaylaw09_awake : Cx := { nm := [(1, (2, 1)), (3, (5, 1)), (6, (8, 1)), (7, (9, 1)), (11, (0, 2)), (17, (3, 2)), (25, (6, 2))], keep := [], fns := tabF [(23, iFbeltwayref03_New), (26, iFbump_Alloc)], loops := [], joins := [], tb := tabs, exts := [], lets := [] }
theorem eFbeltwaylaw09_awake : (fun x : HT iFbeltwaylaw09_awake.ps => iFbeltwaylaw09_awake.F x) = fun x => rk Tryd.prog cFbeltwaylaw09_awake (Tryd.f9.body.getD .skip) (HT (iFbeltwaylaw09_awake.rs ++ iFbeltwaylaw09_awake.os)) 1000000 (finK Tryd.prog [.tmp 0] [] iFbeltwaylaw09_awake.os (iFbeltwaylaw09_awake.rs ++ iFbeltwaylaw09_awake.os)) (initF iFbeltwaylaw09_awake.ps x 51) (initL iFbeltwaylaw09_awake.ps x 10) := by kernel_rfl
theorem okFbeltwaylaw09_awake : CallsV Tryd.prog tabs 9 iFbeltwaylaw09_awake :=
  callsV_of_rk (cx := cFbeltwaylaw09_awake) (fn := Tryd.f9) (c := Tryd.f9.body.getD .skip) (n := 51) (N := 10) (rvs := [.tmp 0]) (cxOk (.cons okFbeltwayref03_New (.cons okFbump_Alloc TabOk.nil)) XtOk.nil) Tryd.func9 rfl (by kernel_rfl) rfl rfl (by decide) (by decide) (fun x => congrFun eFbeltwaylaw09_awake x)
noncomputable def Fbeltwaylaw09_pick (a0 : (List (Int × Int × Int × Int × Int))) (a1 : Int) : Option (Int × Int × Int × Int × Int) :=
Option.bind (Fbeltwaymake_Mod a1 (w64 ((a0.length : Int) + 1))) (fun r1 =>
if r1 < (a0.length : Int) then
if 0 ≤ r1 ∧ r1 < (a0.length : Int) then
some (((gl ((0, 0, 0, 0, 0) : (Int × Int × Int × Int × Int)) a0 r1.toNat).1, ((gl ((0, 0, 0, 0, 0) : (Int × Int × Int × Int × Int)) a0 r1.toNat).2).1, (((gl ((0, 0, 0, 0, 0) : (Int × Int × Int × Int × Int)) a0 r1.toNat).2).2).1, ((((gl ((0, 0, 0, 0, 0) : (Int × Int × Int × Int × Int)) a0 r1.toNat).2).2).2)))
else none
else some ((90, 2, (-1), (-1), 0)))
@[reducible] noncomputable def iFbeltwaylaw09_pick : FnI := { ps := [⟨(.slice (.pair (.int .i64) (.pair (.int .i64) (.pair (.int .i64) (.pair (.int .i64) (.int .i64)))))), false, false, false⟩, ⟨(.int .i64), false, false, false⟩], rs := [⟨(.pair (.int .i64) (.pair (.int .i64) (.pair (.int .i64) (.pair (.int .i64) (.int .i64))))), true, true, false⟩], os := [], bk := [], F := fun x => Fbeltwaylaw09_pick x.1 x.2 }
noncomputable def cFbeltwaylaw09_pick : Cx := { nm := [(4, (1, 1))], keep := [], fns := tabF [(17, iFbeltwaymake_Mod)], loops := [], joins := [], tb := tabs, exts := [], lets := [] }
theorem eFbeltwaylaw09_pick : (fun x : HT iFbeltwaylaw09_pick.ps => iFbeltwaylaw09_pick.F x) = fun x => rk Tryd.prog cFbeltwaylaw09_pick (Tryd.f12.body.getD .skip) (HT (iFbeltwaylaw09_pick.rs ++ iFbeltwaylaw09_pick.os)) 1000000 (finK Tryd.prog [.cell 4 27] [] iFbeltwaylaw09_pick.os (iFbeltwaylaw09_pick.rs ++ iFbeltwaylaw09_pick.os)) (initF iFbeltwaylaw09_pick.ps x 20) (initL iFbeltwaylaw09_pick.ps x 1) := by kernel_rfl
theorem okFbeltwaylaw09_pick : CallsV Tryd.prog tabs 12 iFbeltwaylaw09_pick :=
  callsV_of_rk (cx := cFbeltwaylaw09_pick) (fn := Tryd.f12) (c := Tryd.f12.body.getD .skip) (n := 20) (N := 1) (rvs := [.cell 4 27]) (cxOk (.cons okFbeltwaymake_Mod TabOk.nil) XtOk.nil) Tryd.func12 rfl (by kernel_rfl) rfl rfl (by decide) (by decide) (fun x => congrFun eFbeltwaylaw09_pick x)
noncomputable def Fbeltwaylaw09_twisted (a0 : (Int × Int × Int × Int × Int)) (a1 : Int) (a2 : Int) : Option (Int × Int × Int × Int × Int) :=
Option.bind (Fbeltwaymake_Mod a1 6) (fun r1 =>
if r1 = 0 then
Option.bind (Fbeltwaymake_Mod a2 3) (fun r2 =>
some ((w64 (a0.1 + (w64 (r2 - 1))), a0.2)))
else if r1 = 1 then
Option.bind (Fbeltwaymake_Mod a2 6) (fun r3 =>
some ((a0.1, w64 (r3 - 1), a0.2.2)))
else if r1 = 2 then
Option.bind (Fbeltwaymake_Mod a2 12) (fun r4 =>
some ((a0.1, a0.2.1, w64 (r4 - 1), a0.2.2.2)))
else if r1 = 3 then
Option.bind (Fbeltwaymake_Mod a2 12) (fun r5 =>
some ((a0.1, a0.2.1, a0.2.2.1, w64 (r5 - 1), a0.2.2.2.2)))
else if r1 = 4 then
Option.bind (Fbeltwaymake_Mod a2 20) (fun r6 =>
some ((a0.1, a0.2.1, a0.2.2.1, a0.2.2.2.1, w64 (a0.2.2.2.2 + (w64 (r6 - 10))))))
else some (a0))
@[reducible] noncomputable def iFbeltwaylaw09_twisted : FnI := { ps := [⟨(.pair (.int .i64) (.pair (.int .i64) (.pair (.int .i64) (.pair (.int .i64) (.int .i64))))), true, false, false⟩, ⟨(.int .i64), false, false, false⟩, ⟨(.int .i64), false, false, false⟩], rs := [⟨(.pair (.int .i64) (.pair (.int .i64) (.pair (.int .i64) (.pair (.int .i64) (.int .i64))))), true, true, false⟩], os := [], bk := [], F := fun x => Fbeltwaylaw09_twisted x.1 x.2.1 x.2.2 }
noncomputable def cFbeltwaylaw09_twisted : Cx := { nm := [(3, (0, 1)), (6, (1, 1))], keep := [], fns := tabF [(17, iFbeltwaymake_Mod)], loops := [], joins := [], tb := tabs, exts := [], lets := [] }
theorem eFbeltwaylaw09_twisted : (fun x : HT iFbeltwaylaw09_twisted.ps => iFbeltwaylaw09_twisted.F x) = fun x => rk Tryd.prog cFbeltwaylaw09_twisted (Tryd.f14.body.getD .skip) (HT (iFbeltwaylaw09_twisted.rs ++ iFbeltwaylaw09_twisted.os)) 1000000 (finK Tryd.prog [.cell 6 27] [] iFbeltwaylaw09_twisted.os (iFbeltwaylaw09_twisted.rs ++ iFbeltwaylaw09_twisted.os)) (initF iFbeltwaylaw09_twisted.ps x 46) (initL iFbeltwaylaw09_twisted.ps x 2) := by kernel_rfl
theorem okFbeltwaylaw09_twisted : CallsV Tryd.prog tabs 14 iFbeltwaylaw09_twisted :=
  callsV_of_rk (cx := cFbeltwaylaw09_twisted) (fn := Tryd.f14) (c := Tryd.f14.body.getD .skip) (n := 46) (N := 2) (rvs := [.cell 6 27]) (cxOk (.cons okFbeltwaymake_Mod TabOk.nil) XtOk.nil) Tryd.func14 rfl (by kernel_rfl) rfl rfl (by decide) (by decide) (fun x => congrFun eFbeltwaylaw09_twisted x)
noncomputable def Fbeltwaylaw09_BumpValid (a0 : (Int × (List (BitVec 64)) × (List (Int × Int × Int)))) (a1 : (Int × Int × Int × Int × Int)) (a2 : (List Int)) (a3 : Int) (a4 : Int) (a5 : Int) (a6 : Int) : Option Bool :=
Option.bind (Fbeltwaymake_Small a0) (fun r1 =>
if (!r1) = true then
Option.bind (Fbeltwaylaw09_awake) (fun r2 =>
some (r2))
else Option.bind (Fbeltwaymake_New a2) (fun r3 =>
Option.bind (Fbeltwaymake_Space r3) (fun r4 =>
Option.bind (Fbeltwaylaw09_pick r4.2.1 a3) (fun r5 =>
Option.bind (Fbeltwaymake_Spoilt r4.1 a4 a3 a5) (fun r6 =>
loopO (σ := Int) (β := Bool) (fun s1 =>
if s1 < (([r4.1, a0, r6] : List (Int × (List (BitVec 64)) × (List (Int × Int × Int)))).length : Int) then
if 0 ≤ s1 ∧ s1 < (([r4.1, a0, r6] : List (Int × (List (BitVec 64)) × (List (Int × Int × Int)))).length : Int) then
Option.bind (Fbeltwaylaw09_twisted r5 a4 a5) (fun r7 =>
loopO (σ := Int) (β := (Int ⊕ Bool)) (fun s2 =>
if s2 < (([a1, r5, r7] : List (Int × Int × Int × Int × Int)).length : Int) then
if 0 ≤ s2 ∧ s2 < (([a1, r5, r7] : List (Int × Int × Int × Int × Int)).length : Int) then
Option.bind (Fbump_Valid ((gl ((0, [], []) : (Int × (List (BitVec 64)) × (List (Int × Int × Int)))) ([r4.1, a0, r6] : List (Int × (List (BitVec 64)) × (List (Int × Int × Int)))) s1.toNat).1, ((gl ((0, [], []) : (Int × (List (BitVec 64)) × (List (Int × Int × Int)))) ([r4.1, a0, r6] : List (Int × (List (BitVec 64)) × (List (Int × Int × Int)))) s1.toNat).2)) ((gl ((0, 0, 0, 0, 0) : (Int × Int × Int × Int × Int)) ([a1, r5, r7] : List (Int × Int × Int × Int × Int)) s2.toNat).1, ((gl ((0, 0, 0, 0, 0) : (Int × Int × Int × Int × Int)) ([a1, r5, r7] : List (Int × Int × Int × Int × Int)) s2.toNat).2).1, (((gl ((0, 0, 0, 0, 0) : (Int × Int × Int × Int × Int)) ([a1, r5, r7] : List (Int × Int × Int × Int × Int)) s2.toNat).2).2).1, ((((gl ((0, 0, 0, 0, 0) : (Int × Int × Int × Int × Int)) ([a1, r5, r7] : List (Int × Int × Int × Int × Int)) s2.toNat).2).2).2))) (fun r8 =>
Option.bind (Fbeltwayref09_Valid ((gl ((0, [], []) : (Int × (List (BitVec 64)) × (List (Int × Int × Int)))) ([r4.1, a0, r6] : List (Int × (List (BitVec 64)) × (List (Int × Int × Int)))) s1.toNat).1, ((gl ((0, [], []) : (Int × (List (BitVec 64)) × (List (Int × Int × Int)))) ([r4.1, a0, r6] : List (Int × (List (BitVec 64)) × (List (Int × Int × Int)))) s1.toNat).2)) ((gl ((0, 0, 0, 0, 0) : (Int × Int × Int × Int × Int)) ([a1, r5, r7] : List (Int × Int × Int × Int × Int)) s2.toNat).1, ((gl ((0, 0, 0, 0, 0) : (Int × Int × Int × Int × Int)) ([a1, r5, r7] : List (Int × Int × Int × Int × Int)) s2.toNat).2).1, (((gl ((0, 0, 0, 0, 0) : (Int × Int × Int × Int × Int)) ([a1, r5, r7] : List (Int × Int × Int × Int × Int)) s2.toNat).2).2).1, ((((gl ((0, 0, 0, 0, 0) : (Int × Int × Int × Int × Int)) ([a1, r5, r7] : List (Int × Int × Int × Int × Int)) s2.toNat).2).2).2))) (fun r9 =>
if ¬ r8 = r9 then
some (Sum.inr (Sum.inr (false)))
else some (Sum.inl (w64 (s2 + 1)))))
else none
else some (Sum.inr (Sum.inl (w64 (s1 + 1))))) (0))
else none
else Option.map Sum.inr (Option.bind (Fbeltwaymake_Mod a6 200) (fun r10 =>
Option.bind (Fbump_Frames r4.1 r5) (fun r11 =>
Option.bind (Fbeltwayref09_Frames r4.1 r5) (fun r12 =>
if r11 = r12 then
Option.bind (Fbump_Extra r4.1 r5 r10) (fun r13 =>
Option.bind (Fbeltwayref09_Extra r4.1 r5 r10) (fun r14 =>
if r13 = r14 then
Option.bind (Fbeltwaylaw09_awake) (fun r15 =>
some (r15))
else some (false)))
else some (false)))))) (0))))))
@[reducible] noncomputable def iFbeltwaylaw09_BumpValid : FnI := { ps := [⟨(.pair (.int .i64) (.pair (.slice .u64) (.slice (.pair (.int .i64) (.pair (.int .i64) (.int .i64)))))), true, false, false⟩, ⟨(.pair (.int .i64) (.pair (.int .i64) (.pair (.int .i64) (.pair (.int .i64) (.int .i64))))), true, false, false⟩, ⟨(.slice (.int .i64)), false, false, false⟩, ⟨(.int .i64), false, false, false⟩, ⟨(.int .i64), false, false, false⟩, ⟨(.int .i64), false, false, false⟩, ⟨(.int .i64), false, false, false⟩], rs := [⟨.bool, false, true, false⟩], os := [], bk := [], F := fun x => Fbeltwaylaw09_BumpValid x.1 x.2.1 x.2.2.1 x.2.2.2.1 x.2.2.2.2.1 x.2.2.2.2.2.1 x.2.2.2.2.2.2 }
noncomputable def cFbeltwaylaw09_BumpValid : Cx := { nm := [(7, (3, 1)), (8, (4, 1)), (15, (11, 1)), (17, (12, 1)), (19, (18, 1)), (21, (20, 1)), (29, (5, 2)), (30, (7, 4)), (42, (13, 2)), (43, (15, 1)), (48, (16, 2)), (55, (19, 1))], keep := [], fns := tabF [(8, iFbeltwaymake_Small), (9, iFbeltwaylaw09_awake), (10, iFbeltwaymake_Space), (11, iFbeltwaymake_New), (12, iFbeltwaylaw09_pick), (13, iFbeltwaymake_Spoilt), (14, iFbeltwaylaw09_twisted), (15, iFbump_Valid), (16, iFbeltwayref09_Valid), (17, iFbeltwaymake_Mod), (18, iFbump_Frames), (19, iFbeltwayref09_Frames), (20, iFbump_Extra), (21, iFbeltwayref09_Extra)], loops := [(0, { live := [(45, ⟨(.int .i64), false, false, false⟩)], boxes := [], rows := [], dead := [14, 19, 21, 46, 47, 48, 49, 50, 51, 52, 53, 54, 55, 56, 57, 58, 59, 60, 61, 62, 63, 64, 65, 66, 67, 68, 69], lost := [], base := 16 }), (2, { live := [(57, ⟨(.int .i64), false, false, false⟩)], boxes := [], rows := [], dead := [14, 21, 58, 59, 60, 61, 62, 63, 64, 65, 66, 67, 68], lost := [], base := 20 })], joins := [], tb := tabs, exts := [], lets := [] }
theorem eFbeltwaylaw09_BumpValid : (fun x : HT iFbeltwaylaw09_BumpValid.ps => iFbeltwaylaw09_BumpValid.F x) = fun x => rk Tryd.prog cFbeltwaylaw09_BumpValid (Tryd.f3.body.getD .skip) (HT (iFbeltwaylaw09_BumpValid.rs ++ iFbeltwaylaw09_BumpValid.os)) 1000000 (finK Tryd.prog [.tmp 14] [] iFbeltwaylaw09_BumpValid.os (iFbeltwaylaw09_BumpValid.rs ++ iFbeltwaylaw09_BumpValid.os)) (initF iFbeltwaylaw09_BumpValid.ps x 93) (initL iFbeltwaylaw09_BumpValid.ps x 18) := by kernel_rfl
theorem okFbeltwaylaw09_BumpValid : CallsV Tryd.prog tabs 3 iFbeltwaylaw09_BumpValid :=
  callsV_of_rk (cx := cFbeltwaylaw09_BumpValid) (fn := Tryd.f3) (c := Tryd.f3.body.getD .skip) (n := 93) (N := 18) (rvs := [.tmp 14]) (cxOk (.cons okFbeltwaymake_Small (.cons okFbeltwaylaw09_awake (.cons okFbeltwaymake_Space (.cons okFbeltwaymake_New (.cons okFbeltwaylaw09_pick (.cons okFbeltwaymake_Spoilt (.cons okFbeltwaylaw09_twisted (.cons okFbump_Valid (.cons okFbeltwayref09_Valid (.cons okFbeltwaymake_Mod (.cons okFbump_Frames (.cons okFbeltwayref09_Frames (.cons okFbump_Extra (.cons okFbeltwayref09_Extra TabOk.nil)))))))))))))) XtOk.nil) Tryd.func3 rfl (by kernel_rfl) rfl rfl (by decide) (by decide) (fun x => congrFun eFbeltwaylaw09_BumpValid x)
noncomputable def Fbeltwayref04_Take (a0 : (Int × (List (BitVec 64)) × (List (Int × Int × Int)))) (a1 : Int) (a2 : Int) : Option ((Int × (List (BitVec 64)) × (List (Int × Int × Int))) × Int × Int) :=
Option.bind (Fbeltwayref03_Valid a0) (fun r1 =>
if (!r1) = true then
some (((0, [], []), 0, 1))
else if a1 < 0 then
some (((0, [], []), 0, 1))
else if a1 > 4294967295 then
some (((0, [], []), 0, 1))
else if a2 < 0 then
some (((0, [], []), 0, 1))
else if a2 ≥ 4 then
some (((0, [], []), 0, 1))
else loopO (σ := Int) (β := ((Int × (List (BitVec 64)) × (List (Int × Int × Int))) × Int × Int)) (fun s1 =>
if s1 < (a0.2.2.length : Int) then
if 0 ≤ s1 ∧ s1 < (a0.2.2.length : Int) then
if ((gl ((0, 0, 0) : (Int × Int × Int)) a0.2.2 s1.toNat).1) = a1 then
if ¬ (((gl ((0, 0, 0) : (Int × Int × Int)) a0.2.2 s1.toNat).2).1) = (w64 ((w64 (a2 * 4294967296)) + a1)) then
some (Sum.inr (((0, [], []), 0, 5)))
else some (Sum.inl (w64 (s1 + 1)))
else some (Sum.inl (w64 (s1 + 1)))
else none
else Option.map Sum.inr (Option.bind (Fbeltwayref03_Copy a0) (fun r2 =>
Option.bind (Fbeltwayref04_Lift r2 a1 a2) (fun r3 =>
if r3.1 < 0 then
some (((0, [], []), 0, 4))
else some (((r2.1, r3.2), r3.1, 0)))))) (0))
@[reducible] noncomputable def iFbeltwayref04_Take : FnI := { ps := [⟨(.pair (.int .i64) (.pair (.slice .u64) (.slice (.pair (.int .i64) (.pair (.int .i64) (.int .i64)))))), true, false, false⟩, ⟨(.int .i64), false, false, false⟩, ⟨(.int .i64), false, false, false⟩], rs := [⟨(.pair (.int .i64) (.pair (.slice .u64) (.slice (.pair (.int .i64) (.pair (.int .i64) (.int .i64)))))), true, true, false⟩, ⟨(.int .i64), false, true, false⟩, ⟨(.int .i64), false, true, false⟩], os := [], bk := [], F := fun x => Fbeltwayref04_Take x.1 x.2.1 x.2.2 }
noncomputable def cFbeltwayref04_Take : Cx := { nm := [(3, (2, 1)), (6, (3, 1)), (10, (4, 1)), (11, (7, 1)), (56, (5, 2))], keep := [], fns := tabF [(35, iFbeltwayref03_Valid), (37, iFbeltwayref03_Copy), (53, iFbeltwayref04_Lift)], loops := [(0, { live := [(36, ⟨(.int .i64), false, false, false⟩)], boxes := [], rows := [], dead := [7, 8, 10, 37, 38, 39, 40, 41, 42, 43, 44, 45, 46, 47, 48, 49, 50, 51, 52, 53, 54], lost := [], base := 4 })], joins := [], tb := tabs, exts := [], lets := [] }
theorem eFbeltwayref04_Take : (fun x : HT iFbeltwayref04_Take.ps => iFbeltwayref04_Take.F x) = fun x => rk Tryd.prog cFbeltwayref04_Take (Tryd.f30.body.getD .skip) (HT (iFbeltwayref04_Take.rs ++ iFbeltwayref04_Take.os)) 1000000 (finK Tryd.prog [.cell 6 25, .tmp 7, .tmp 8] [] iFbeltwayref04_Take.os (iFbeltwayref04_Take.rs ++ iFbeltwayref04_Take.os)) (initF iFbeltwayref04_Take.ps x 66) (initL iFbeltwayref04_Take.ps x 6) := by kernel_rfl
theorem okFbeltwayref04_Take : CallsV Tryd.prog tabs 30 iFbeltwayref04_Take :=
  callsV_of_rk (cx := cFbeltwayref04_Take) (fn := Tryd.f30) (c := Tryd.f30.body.getD .skip) (n := 66) (N := 6) (rvs := [.cell 6 25, .tmp 7, .tmp 8]) (cxOk (.cons okFbeltwayref03_Valid (.cons okFbeltwayref03_Copy (.cons okFbeltwayref04_Lift TabOk.nil))) XtOk.nil) Tryd.func30 rfl (by kernel_rfl) rfl rfl (by decide) (by decide) (fun x => congrFun eFbeltwayref04_Take x)
noncomputable def Fbeltwayref02_Same (a0 : (List (BitVec 64))) (a1 : (List (BitVec 64))) : Option Bool :=
if ¬ (a0.length : Int) = (a1.length : Int) then
some (false)
else loopO (σ := Int) (β := Bool) (fun s1 =>
if s1 < (a0.length : Int) then
if 0 ≤ s1 ∧ s1 < (a0.length : Int) then
if 0 ≤ s1 ∧ s1 < (a1.length : Int) then
if ¬ (gl (0#64 : (BitVec 64)) a0 s1.toNat) = (gl (0#64 : (BitVec 64)) a1 s1.toNat) then
some (Sum.inr (false))
else some (Sum.inl (w64 (s1 + 1)))
else none
else none
else some (Sum.inr (true))) (0)
@[reducible] noncomputable def iFbeltwayref02_Same : FnI := { ps := [⟨(.slice .u64), false, false, false⟩, ⟨(.slice .u64), false, false, false⟩], rs := [⟨.bool, false, true, false⟩], os := [], bk := [], F := fun x => Fbeltwayref02_Same x.1 x.2 }
noncomputable def cFbeltwayref02_Same : Cx := { nm := [], keep := [], fns := tabF [], loops := [(0, { live := [(13, ⟨(.int .i64), false, false, false⟩)], boxes := [], rows := [], dead := [4, 5, 14, 15, 16, 17, 18, 19, 20, 21, 22, 23, 24, 25], lost := [], base := 2 })], joins := [], tb := tabs, exts := [], lets := [] }
theorem eFbeltwayref02_Same : (fun x : HT iFbeltwayref02_Same.ps => iFbeltwayref02_Same.F x) = fun x => rk Tryd.prog cFbeltwayref02_Same (Tryd.f56.body.getD .skip) (HT (iFbeltwayref02_Same.rs ++ iFbeltwayref02_Same.os)) 1000000 (finK Tryd.prog [.tmp 4] [] iFbeltwayref02_Same.os (iFbeltwayref02_Same.rs ++ iFbeltwayref02_Same.os)) (initF iFbeltwayref02_Same.ps x 26) (initL iFbeltwayref02_Same.ps x 0) := by kernel_rfl
theorem okFbeltwayref02_Same : CallsV Tryd.prog tabs 56 iFbeltwayref02_Same :=
  callsV_of_rk (cx := cFbeltwayref02_Same) (fn := Tryd.f56) (c := Tryd.f56.body.getD .skip) (n := 26) (N := 0) (rvs := [.tmp 4]) (cxOk TabOk.nil XtOk.nil) Tryd.func56 rfl (by kernel_rfl) rfl rfl (by decide) (by decide) (fun x => congrFun eFbeltwayref02_Same x)
noncomputable def Fbeltwayref03_Same (a0 : (Int × (List (BitVec 64)) × (List (Int × Int × Int)))) (a1 : (Int × (List (BitVec 64)) × (List (Int × Int × Int)))) : Option Bool :=
if ¬ a0.1 = a1.1 then
some (false)
else if ¬ (a0.2.2.length : Int) = (a1.2.2.length : Int) then
some (false)
else Option.bind (Fbeltwayref02_Same a0.2.1 a1.2.1) (fun r1 =>
if (!r1) = true then
some (false)
else loopO (σ := Int) (β := Bool) (fun s1 =>
if s1 < (a0.2.2.length : Int) then
if 0 ≤ s1 ∧ s1 < (a0.2.2.length : Int) then
if 0 ≤ s1 ∧ s1 < (a1.2.2.length : Int) then
if (!(allB [decide (((gl ((0, 0, 0) : (Int × Int × Int)) a0.2.2 s1.toNat).1) = ((gl ((0, 0, 0) : (Int × Int × Int)) a1.2.2 s1.toNat).1)), decide ((((gl ((0, 0, 0) : (Int × Int × Int)) a0.2.2 s1.toNat).2).1) = (((gl ((0, 0, 0) : (Int × Int × Int)) a1.2.2 s1.toNat).2).1)), decide ((((gl ((0, 0, 0) : (Int × Int × Int)) a0.2.2 s1.toNat).2).2) = (((gl ((0, 0, 0) : (Int × Int × Int)) a1.2.2 s1.toNat).2).2))])) = true then
some (Sum.inr (false))
else some (Sum.inl (w64 (s1 + 1)))
else none
else none
else some (Sum.inr (true))) (0))
@[reducible] noncomputable def iFbeltwayref03_Same : FnI := { ps := [⟨(.pair (.int .i64) (.pair (.slice .u64) (.slice (.pair (.int .i64) (.pair (.int .i64) (.int .i64)))))), true, false, false⟩, ⟨(.pair (.int .i64) (.pair (.slice .u64) (.slice (.pair (.int .i64) (.pair (.int .i64) (.int .i64)))))), true, false, false⟩], rs := [⟨.bool, false, true, false⟩], os := [], bk := [], F := fun x => Fbeltwayref03_Same x.1 x.2 }
noncomputable def cFbeltwayref03_Same : Cx := { nm := [(2, (4, 1)), (3, (5, 1))], keep := [], fns := tabF [(56, iFbeltwayref02_Same)], loops := [(0, { live := [(31, ⟨(.int .i64), false, false, false⟩)], boxes := [], rows := [], dead := [4, 5, 32, 33, 34, 35, 36, 37, 38, 39, 40, 41, 42, 43, 44, 45], lost := [], base := 6 })], joins := [], tb := tabs, exts := [], lets := [] }
theorem eFbeltwayref03_Same : (fun x : HT iFbeltwayref03_Same.ps => iFbeltwayref03_Same.F x) = fun x => rk Tryd.prog cFbeltwayref03_Same (Tryd.f32.body.getD .skip) (HT (iFbeltwayref03_Same.rs ++ iFbeltwayref03_Same.os)) 1000000 (finK Tryd.prog [.tmp 4] [] iFbeltwayref03_Same.os (iFbeltwayref03_Same.rs ++ iFbeltwayref03_Same.os)) (initF iFbeltwayref03_Same.ps x 46) (initL iFbeltwayref03_Same.ps x 2) := by kernel_rfl
theorem okFbeltwayref03_Same : CallsV Tryd.prog tabs 32 iFbeltwayref03_Same :=
  callsV_of_rk (cx := cFbeltwayref03_Same) (fn := Tryd.f32) (c := Tryd.f32.body.getD .skip) (n := 46) (N := 2) (rvs := [.tmp 4]) (cxOk (.cons okFbeltwayref02_Same TabOk.nil) XtOk.nil) Tryd.func32 rfl (by kernel_rfl) rfl rfl (by decide) (by decide) (fun x => congrFun eFbeltwayref03_Same x)
noncomputable def Fpool_Give (a0 : (Int × (List (BitVec 64)) × (List (Int × Int × Int)))) (a1 : Int) : Option ((Int × (List (BitVec 64)) × (List (Int × Int × Int))) × Int × Int) :=
Option.bind (Fframe_Valid a0) (fun r1 =>
if (!r1) = true then
some (((0, [], []), 0, 1))
else if a1 < 0 then
some (((0, [], []), 0, 1))
else if a1 > 4294967295 then
some (((0, [], []), 0, 1))
else Option.bind (Fclone_Space a0) (fun r2 =>
loopO (σ := (Int × Int × (List (BitVec 64)) × (List (Int × Int × Int)))) (β := ((Int × (List (BitVec 64)) × (List (Int × Int × Int))) × Int × Int)) (fun s1 =>
if s1.2.1 < (a0.2.2.length : Int) then
if 0 ≤ s1.2.1 ∧ s1.2.1 < (a0.2.2.length : Int) then
if ¬ ((gl ((0, 0, 0) : (Int × Int × Int)) a0.2.2 s1.2.1.toNat).1) = a1 then
some (Sum.inl ((s1.1, w64 (s1.2.1 + 1), s1.2.2.1, s1.2.2.2)))
else if 0 ≤ s1.2.1 ∧ s1.2.1 < (s1.2.2.2.length : Int) then
if True then
loopO (σ := (Int × (List (BitVec 64)))) (β := ((Int × Int × (List (BitVec 64)) × (List (Int × Int × Int))) ⊕ ((Int × (List (BitVec 64)) × (List (Int × Int × Int))) × Int × Int))) (fun s2 =>
if True then
if s2.1 < (w64 ((w64 (s1.2.1 + 1)) * 2 ^ min (BitVec.ofInt 64 a0.1).toNat 64)) then
if 0 ≤ s2.1 ∧ s2.1 < (s2.2.length : Int) then
some (Sum.inl ((w64 (s2.1 + 1), s2.2.set s2.1.toNat (0#64))))
else none
else some (Sum.inr (Sum.inl ((w64 (s1.1 + 1), w64 (s1.2.1 + 1), s2.2, s1.2.2.2.set s1.2.1.toNat ((-1), (-1), (-1))))))
else none) ((w64 (s1.2.1 * 2 ^ min (BitVec.ofInt 64 a0.1).toNat 64), s1.2.2.1))
else none
else none
else none
else Option.map Sum.inr (if s1.1 = 0 then
some (((0, [], []), 0, 5))
else some (((r2.1, s1.2.2), s1.1, 0)))) ((0, 0, r2.2.1, r2.2.2))))
@[reducible] noncomputable def iFpool_Give : FnI := { ps := [⟨(.pair (.int .i64) (.pair (.slice .u64) (.slice (.pair (.int .i64) (.pair (.int .i64) (.int .i64)))))), true, false, false⟩, ⟨(.int .i64), false, false, false⟩], rs := [⟨(.pair (.int .i64) (.pair (.slice .u64) (.slice (.pair (.int .i64) (.pair (.int .i64) (.int .i64)))))), true, true, false⟩, ⟨(.int .i64), false, true, false⟩, ⟨(.int .i64), false, true, false⟩], os := [], bk := [], F := fun x => Fpool_Give x.1 x.2 }
noncomputable def cFpool_Give : Cx := { nm := [(2, (2, 1)), (4, (3, 1)), (7, (6, 1)), (10, (7, 1)), (25, (4, 2))], keep := [], fns := tabF [(38, iFframe_Valid), (69, iFclone_Space)], loops := [(0, { live := [(8, ⟨(.int .i64), false, false, false⟩), (29, ⟨(.int .i64), false, false, false⟩)], boxes := [], rows := [(4, .u64), (5, (.pair (.int .i64) (.pair (.int .i64) (.int .i64))))], dead := [9, 10, 11, 30, 31, 32, 33, 34, 35, 36, 37, 38, 39, 40, 41, 42, 43, 44, 45, 46, 47, 48, 49, 50, 51, 52, 53, 54, 55, 56, 57, 58, 59, 60, 61, 62, 63, 64], lost := [], base := 7 }), (2, { live := [(11, ⟨(.int .i64), false, false, false⟩)], boxes := [], rows := [(4, .u64)], dead := [50, 51, 52, 53, 54, 55, 56, 57, 58, 59, 60, 61, 62, 63], lost := [], base := 8 })], joins := [], tb := tabs, exts := [], lets := [] }
theorem eFpool_Give : (fun x : HT iFpool_Give.ps => iFpool_Give.F x) = fun x => rk Tryd.prog cFpool_Give (Tryd.f57.body.getD .skip) (HT (iFpool_Give.rs ++ iFpool_Give.os)) 1000000 (finK Tryd.prog [.cell 4 25, .tmp 5, .tmp 6] [] iFpool_Give.os (iFpool_Give.rs ++ iFpool_Give.os)) (initF iFpool_Give.ps x 70) (initL iFpool_Give.ps x 6) := by kernel_rfl
theorem okFpool_Give : CallsV Tryd.prog tabs 57 iFpool_Give :=
  callsV_of_rk (cx := cFpool_Give) (fn := Tryd.f57) (c := Tryd.f57.body.getD .skip) (n := 70) (N := 6) (rvs := [.cell 4 25, .tmp 5, .tmp 6]) (cxOk (.cons okFframe_Valid (.cons okFclone_Space TabOk.nil)) XtOk.nil) Tryd.func57 rfl (by kernel_rfl) rfl rfl (by decide) (by decide) (fun x => congrFun eFpool_Give x)
noncomputable def Fbump_Drop (a0 : (Int × (List (BitVec 64)) × (List (Int × Int × Int)))) (a1 : (Int × Int × Int × Int × Int)) : Option ((Int × (List (BitVec 64)) × (List (Int × Int × Int))) × Int) :=
Option.bind (Fbump_Valid a0 a1) (fun r1 =>
if (!r1) = true then
some (((0, [], []), 1))
else if a1.2.2.1 < 0 then
some (((0, [], []), 5))
else Option.bind (Fpool_Give a0 a1.1) (fun r2 =>
some ((r2.1, r2.2.2))))
@[reducible] noncomputable def iFbump_Drop : FnI := { ps := [⟨(.pair (.int .i64) (.pair (.slice .u64) (.slice (.pair (.int .i64) (.pair (.int .i64) (.int .i64)))))), true, false, false⟩, ⟨(.pair (.int .i64) (.pair (.int .i64) (.pair (.int .i64) (.pair (.int .i64) (.int .i64))))), true, false, false⟩], rs := [⟨(.pair (.int .i64) (.pair (.slice .u64) (.slice (.pair (.int .i64) (.pair (.int .i64) (.int .i64)))))), true, true, false⟩, ⟨(.int .i64), false, true, false⟩], os := [], bk := [], F := fun x => Fbump_Drop x.1 x.2 }
noncomputable def cFbump_Drop : Cx := { nm := [(2, (2, 1)), (3, (3, 1)), (4, (4, 1)), (6, (7, 1)), (22, (5, 2))], keep := [], fns := tabF [(15, iFbump_Valid), (57, iFpool_Give)], loops := [], joins := [], tb := tabs, exts := [], lets := [] }
theorem eFbump_Drop : (fun x : HT iFbump_Drop.ps => iFbump_Drop.F x) = fun x => rk Tryd.prog cFbump_Drop (Tryd.f33.body.getD .skip) (HT (iFbump_Drop.rs ++ iFbump_Drop.os)) 1000000 (finK Tryd.prog [.cell 4 25, .tmp 5] [] iFbump_Drop.os (iFbump_Drop.rs ++ iFbump_Drop.os)) (initF iFbump_Drop.ps x 28) (initL iFbump_Drop.ps x 6) := by kernel_rfl
theorem okFbump_Drop : CallsV Tryd.prog tabs 33 iFbump_Drop :=
  callsV_of_rk (cx := cFbump_Drop) (fn := Tryd.f33) (c := Tryd.f33.body.getD .skip) (n := 28) (N := 6) (rvs := [.cell 4 25, .tmp 5]) (cxOk (.cons okFbump_Valid (.cons okFpool_Give TabOk.nil)) XtOk.nil) Tryd.func33 rfl (by kernel_rfl) rfl rfl (by decide) (by decide) (fun x => congrFun eFbump_Drop x)
noncomputable def Fbeltwayref04_Clear (a0 : (Int × (List (BitVec 64)) × (List (Int × Int × Int)))) (a1 : Int) : Option (Int × (List (BitVec 64)) × (List (Int × Int × Int))) :=
loopO (σ := (Int × Int × (List (BitVec 64)) × (List (Int × Int × Int)))) (β := (Int × (List (BitVec 64)) × (List (Int × Int × Int)))) (fun s1 =>
if s1.2.1 < (a0.2.2.length : Int) then
if 0 ≤ s1.2.1 ∧ s1.2.1 < (s1.2.2.2.length : Int) then
if ¬ ((gl ((0, 0, 0) : (Int × Int × Int)) s1.2.2.2 s1.2.1.toNat).1) = a1 then
some (Sum.inl ((s1.1, w64 (s1.2.1 + 1), s1.2.2.1, s1.2.2.2)))
else if 0 ≤ s1.2.1 ∧ s1.2.1 < (s1.2.2.2.length : Int) then
if True then
loopO (σ := (Int × (List (BitVec 64)))) (β := ((Int × Int × (List (BitVec 64)) × (List (Int × Int × Int))) ⊕ (Int × (List (BitVec 64)) × (List (Int × Int × Int))))) (fun s2 =>
if True then
if s2.1 < (w64 ((w64 (s1.2.1 + 1)) * 2 ^ min (BitVec.ofInt 64 a0.1).toNat 64)) then
if 0 ≤ s2.1 ∧ s2.1 < (s2.2.length : Int) then
some (Sum.inl ((w64 (s2.1 + 1), s2.2.set s2.1.toNat (0#64))))
else none
else some (Sum.inr (Sum.inl ((w64 (s1.1 + 1), w64 (s1.2.1 + 1), s2.2, s1.2.2.2.set s1.2.1.toNat ((-1), (-1), (-1))))))
else none) ((w64 (s1.2.1 * 2 ^ min (BitVec.ofInt 64 a0.1).toNat 64), s1.2.2.1))
else none
else none
else none
else some (Sum.inr ((s1.1, s1.2.2.1, s1.2.2.2)))) ((0, 0, a0.2.1, a0.2.2))
@[reducible] noncomputable def iFbeltwayref04_Clear : FnI := { ps := [⟨(.pair (.int .i64) (.pair (.slice .u64) (.slice (.pair (.int .i64) (.pair (.int .i64) (.int .i64)))))), true, true, false⟩, ⟨(.int .i64), false, false, false⟩], rs := [⟨(.int .i64), false, true, false⟩], os := [⟨(.slice .u64), false, true, false⟩, ⟨(.slice (.pair (.int .i64) (.pair (.int .i64) (.int .i64)))), false, true, false⟩], bk := [0, 1], F := fun x => Fbeltwayref04_Clear x.1 x.2 }
noncomputable def cFbeltwayref04_Clear : Cx := { nm := [(2, (2, 1)), (7, (3, 1))], keep := [], fns := tabF [], loops := [(0, { live := [(5, ⟨(.int .i64), false, false, false⟩), (12, ⟨(.int .i64), false, false, false⟩)], boxes := [], rows := [(0, .u64), (1, (.pair (.int .i64) (.pair (.int .i64) (.int .i64))))], dead := [6, 7, 8, 13, 14, 15, 16, 17, 18, 19, 20, 21, 22, 23, 24, 25, 26, 27, 28, 29, 30, 31, 32, 33, 34, 35, 36, 37, 38, 39, 40, 41, 42, 43, 44, 45, 46, 47], lost := [], base := 3 }), (2, { live := [(8, ⟨(.int .i64), false, false, false⟩)], boxes := [], rows := [(0, .u64)], dead := [33, 34, 35, 36, 37, 38, 39, 40, 41, 42, 43, 44, 45, 46], lost := [], base := 4 })], joins := [], tb := tabs, exts := [], lets := [] }
theorem eFbeltwayref04_Clear : (fun x : HT iFbeltwayref04_Clear.ps => iFbeltwayref04_Clear.F x) = fun x => rk Tryd.prog cFbeltwayref04_Clear (Tryd.f73.body.getD .skip) (HT (iFbeltwayref04_Clear.rs ++ iFbeltwayref04_Clear.os)) 1000000 (finK Tryd.prog [.tmp 4] [0, 1] iFbeltwayref04_Clear.os (iFbeltwayref04_Clear.rs ++ iFbeltwayref04_Clear.os)) (initF iFbeltwayref04_Clear.ps x 49) (initL iFbeltwayref04_Clear.ps x 2) := by kernel_rfl
theorem okFbeltwayref04_Clear : CallsV Tryd.prog tabs 73 iFbeltwayref04_Clear :=
  callsV_of_rk (cx := cFbeltwayref04_Clear) (fn := Tryd.f73) (c := Tryd.f73.body.getD .skip) (n := 49) (N := 2) (rvs := [.tmp 4]) (cxOk TabOk.nil XtOk.nil) Tryd.func73 rfl (by kernel_rfl) rfl rfl (by decide) (by decide) (fun x => congrFun eFbeltwayref04_Clear x)
noncomputable def Fbeltwayref04_Give (a0 : (Int × (List (BitVec 64)) × (List (Int × Int × Int)))) (a1 : Int) : Option ((Int × (List (BitVec 64)) × (List (Int × Int × Int))) × Int × Int) :=
Option.bind (Fbeltwayref03_Valid a0) (fun r1 =>
if (!r1) = true then
some (((0, [], []), 0, 1))
else if a1 < 0 then
some (((0, [], []), 0, 1))
else if a1 > 4294967295 then
some (((0, [], []), 0, 1))
else Option.bind (Fbeltwayref03_Copy a0) (fun r2 =>
Option.bind (Fbeltwayref04_Clear r2 a1) (fun r3 =>
if r3.1 = 0 then
some (((0, [], []), 0, 5))
else some (((r2.1, r3.2), r3.1, 0)))))
@[reducible] noncomputable def iFbeltwayref04_Give : FnI := { ps := [⟨(.pair (.int .i64) (.pair (.slice .u64) (.slice (.pair (.int .i64) (.pair (.int .i64) (.int .i64)))))), true, false, false⟩, ⟨(.int .i64), false, false, false⟩], rs := [⟨(.pair (.int .i64) (.pair (.slice .u64) (.slice (.pair (.int .i64) (.pair (.int .i64) (.int .i64)))))), true, true, false⟩, ⟨(.int .i64), false, true, false⟩, ⟨(.int .i64), false, true, false⟩], os := [], bk := [], F := fun x => Fbeltwayref04_Give x.1 x.2 }
noncomputable def cFbeltwayref04_Give : Cx := { nm := [(2, (2, 1)), (4, (3, 1)), (7, (6, 1)), (22, (4, 2))], keep := [], fns := tabF [(35, iFbeltwayref03_Valid), (37, iFbeltwayref03_Copy), (73, iFbeltwayref04_Clear)], loops := [], joins := [], tb := tabs, exts := [], lets := [] }
theorem eFbeltwayref04_Give : (fun x : HT iFbeltwayref04_Give.ps => iFbeltwayref04_Give.F x) = fun x => rk Tryd.prog cFbeltwayref04_Give (Tryd.f58.body.getD .skip) (HT (iFbeltwayref04_Give.rs ++ iFbeltwayref04_Give.os)) 1000000 (finK Tryd.prog [.cell 4 25, .tmp 5, .tmp 6] [] iFbeltwayref04_Give.os (iFbeltwayref04_Give.rs ++ iFbeltwayref04_Give.os)) (initF iFbeltwayref04_Give.ps x 31) (initL iFbeltwayref04_Give.ps x 5) := by kernel_rfl
theorem okFbeltwayref04_Give : CallsV Tryd.prog tabs 58 iFbeltwayref04_Give :=
  callsV_of_rk (cx := cFbeltwayref04_Give) (fn := Tryd.f58) (c := Tryd.f58.body.getD .skip) (n := 31) (N := 5) (rvs := [.cell 4 25, .tmp 5, .tmp 6]) (cxOk (.cons okFbeltwayref03_Valid (.cons okFbeltwayref03_Copy (.cons okFbeltwayref04_Clear TabOk.nil))) XtOk.nil) Tryd.func58 rfl (by kernel_rfl) rfl rfl (by decide) (by decide) (fun x => congrFun eFbeltwayref04_Give x)
noncomputable def Fbeltwayref09_Drop (a0 : (Int × (List (BitVec 64)) × (List (Int × Int × Int)))) (a1 : (Int × Int × Int × Int × Int)) : Option ((Int × (List (BitVec 64)) × (List (Int × Int × Int))) × Int) :=
Option.bind (Fbeltwayref09_Valid a0 a1) (fun r1 =>
if (!r1) = true then
some (((0, [], []), 1))
else if a1.2.2.2.2 = 0 then
some (((0, [], []), 5))
else Option.bind (Fbeltwayref04_Give a0 a1.1) (fun r2 =>
some ((r2.1, r2.2.2))))
@[reducible] noncomputable def iFbeltwayref09_Drop : FnI := { ps := [⟨(.pair (.int .i64) (.pair (.slice .u64) (.slice (.pair (.int .i64) (.pair (.int .i64) (.int .i64)))))), true, false, false⟩, ⟨(.pair (.int .i64) (.pair (.int .i64) (.pair (.int .i64) (.pair (.int .i64) (.int .i64))))), true, false, false⟩], rs := [⟨(.pair (.int .i64) (.pair (.slice .u64) (.slice (.pair (.int .i64) (.pair (.int .i64) (.int .i64)))))), true, true, false⟩, ⟨(.int .i64), false, true, false⟩], os := [], bk := [], F := fun x => Fbeltwayref09_Drop x.1 x.2 }
noncomputable def cFbeltwayref09_Drop : Cx := { nm := [(2, (2, 1)), (3, (3, 1)), (4, (4, 1)), (6, (7, 1)), (22, (5, 2))], keep := [], fns := tabF [(16, iFbeltwayref09_Valid), (58, iFbeltwayref04_Give)], loops := [], joins := [], tb := tabs, exts := [], lets := [] }
theorem eFbeltwayref09_Drop : (fun x : HT iFbeltwayref09_Drop.ps => iFbeltwayref09_Drop.F x) = fun x => rk Tryd.prog cFbeltwayref09_Drop (Tryd.f34.body.getD .skip) (HT (iFbeltwayref09_Drop.rs ++ iFbeltwayref09_Drop.os)) 1000000 (finK Tryd.prog [.cell 4 25, .tmp 5] [] iFbeltwayref09_Drop.os (iFbeltwayref09_Drop.rs ++ iFbeltwayref09_Drop.os)) (initF iFbeltwayref09_Drop.ps x 28) (initL iFbeltwayref09_Drop.ps x 6) := by kernel_rfl
theorem okFbeltwayref09_Drop : CallsV Tryd.prog tabs 34 iFbeltwayref09_Drop :=
  callsV_of_rk (cx := cFbeltwayref09_Drop) (fn := Tryd.f34) (c := Tryd.f34.body.getD .skip) (n := 28) (N := 6) (rvs := [.cell 4 25, .tmp 5]) (cxOk (.cons okFbeltwayref09_Valid (.cons okFbeltwayref04_Give TabOk.nil)) XtOk.nil) Tryd.func34 rfl (by kernel_rfl) rfl rfl (by decide) (by decide) (fun x => congrFun eFbeltwayref09_Drop x)
noncomputable def Fbeltwaylaw09_BumpAllocs (a0 : (Int × (List (BitVec 64)) × (List (Int × Int × Int)))) (a1 : (Int × Int × Int × Int × Int)) (a2 : (List Int)) (a3 : Int) (a4 : Int) (a5 : Int) (a6 : Int) : Option Bool :=
Option.bind (Fbeltwaymake_Small a0) (fun r1 =>
if (!r1) = true then
Option.bind (Fbeltwaylaw09_awake) (fun r2 =>
some (r2))
else Option.bind (Fbeltwaymake_New a2) (fun r3 =>
Option.bind (Fbeltwaymake_Space r3) (fun r4 =>
Option.bind (Fbeltwaylaw09_pick r4.2.1 a3) (fun r5 =>
Option.bind (Fbeltwayref04_Take r4.1 90 2) (fun r6 =>
Option.bind (Fbeltwaymake_Spoilt r4.1 a4 a3 a5) (fun r7 =>
loopO (σ := Int) (β := Bool) (fun s1 =>
if s1 < (([r4.1, a0, r6.1, r7] : List (Int × (List (BitVec 64)) × (List (Int × Int × Int)))).length : Int) then
if 0 ≤ s1 ∧ s1 < (([r4.1, a0, r6.1, r7] : List (Int × (List (BitVec 64)) × (List (Int × Int × Int)))).length : Int) then
Option.bind (Fbeltwaylaw09_twisted r5 a4 a5) (fun r8 =>
loopO (σ := Int) (β := (Int ⊕ Bool)) (fun s2 =>
if s2 < (([a1, r5, r8] : List (Int × Int × Int × Int × Int)).length : Int) then
if 0 ≤ s2 ∧ s2 < (([a1, r5, r8] : List (Int × Int × Int × Int × Int)).length : Int) then
Option.bind (Fbeltwaymake_Mod a6 51) (fun r9 =>
loopO (σ := Int) (β := (Int ⊕ (Int ⊕ Bool))) (fun s3 =>
if s3 < (([a6, w64 (r9 - 1)] : List Int).length : Int) then
if 0 ≤ s3 ∧ s3 < (([a6, w64 (r9 - 1)] : List Int).length : Int) then
Option.bind (Fbump_Alloc ((gl ((0, [], []) : (Int × (List (BitVec 64)) × (List (Int × Int × Int)))) ([r4.1, a0, r6.1, r7] : List (Int × (List (BitVec 64)) × (List (Int × Int × Int)))) s1.toNat).1, ((gl ((0, [], []) : (Int × (List (BitVec 64)) × (List (Int × Int × Int)))) ([r4.1, a0, r6.1, r7] : List (Int × (List (BitVec 64)) × (List (Int × Int × Int)))) s1.toNat).2)) ((gl ((0, 0, 0, 0, 0) : (Int × Int × Int × Int × Int)) ([a1, r5, r8] : List (Int × Int × Int × Int × Int)) s2.toNat).1, ((gl ((0, 0, 0, 0, 0) : (Int × Int × Int × Int × Int)) ([a1, r5, r8] : List (Int × Int × Int × Int × Int)) s2.toNat).2).1, (((gl ((0, 0, 0, 0, 0) : (Int × Int × Int × Int × Int)) ([a1, r5, r8] : List (Int × Int × Int × Int × Int)) s2.toNat).2).2).1, ((((gl ((0, 0, 0, 0, 0) : (Int × Int × Int × Int × Int)) ([a1, r5, r8] : List (Int × Int × Int × Int × Int)) s2.toNat).2).2).2)) (gl (0 : Int) ([a6, w64 (r9 - 1)] : List Int) s3.toNat)) (fun r10 =>
Option.bind (Fbeltwayref09_Alloc ((gl ((0, [], []) : (Int × (List (BitVec 64)) × (List (Int × Int × Int)))) ([r4.1, a0, r6.1, r7] : List (Int × (List (BitVec 64)) × (List (Int × Int × Int)))) s1.toNat).1, ((gl ((0, [], []) : (Int × (List (BitVec 64)) × (List (Int × Int × Int)))) ([r4.1, a0, r6.1, r7] : List (Int × (List (BitVec 64)) × (List (Int × Int × Int)))) s1.toNat).2)) ((gl ((0, 0, 0, 0, 0) : (Int × Int × Int × Int × Int)) ([a1, r5, r8] : List (Int × Int × Int × Int × Int)) s2.toNat).1, ((gl ((0, 0, 0, 0, 0) : (Int × Int × Int × Int × Int)) ([a1, r5, r8] : List (Int × Int × Int × Int × Int)) s2.toNat).2).1, (((gl ((0, 0, 0, 0, 0) : (Int × Int × Int × Int × Int)) ([a1, r5, r8] : List (Int × Int × Int × Int × Int)) s2.toNat).2).2).1, ((((gl ((0, 0, 0, 0, 0) : (Int × Int × Int × Int × Int)) ([a1, r5, r8] : List (Int × Int × Int × Int × Int)) s2.toNat).2).2).2)) (gl (0 : Int) ([a6, w64 (r9 - 1)] : List Int) s3.toNat)) (fun r11 =>
if ¬ r10.2.2.2 = r11.2.2.2 then
some (Sum.inr (Sum.inr (Sum.inr (false))))
else if (!(allB [decide (r10.2.1.1 = r11.2.1.1), decide (r10.2.1.2.1 = r11.2.1.2.1), decide (r10.2.1.2.2.1 = r11.2.1.2.2.1), decide (r10.2.1.2.2.2.1 = r11.2.1.2.2.2.1), decide (r10.2.1.2.2.2.2 = r11.2.1.2.2.2.2)])) = true then
some (Sum.inr (Sum.inr (Sum.inr (false))))
else if ¬ r10.2.2.1 = r11.2.2.1 then
some (Sum.inr (Sum.inr (Sum.inr (false))))
else Option.bind (Fbeltwayref03_Same r10.1 r11.1) (fun r12 =>
if (!r12) = true then
some (Sum.inr (Sum.inr (Sum.inr (false))))
else some (Sum.inl (w64 (s3 + 1))))))
else none
else Option.map Sum.inr (Option.bind (Fbump_Drop ((gl ((0, [], []) : (Int × (List (BitVec 64)) × (List (Int × Int × Int)))) ([r4.1, a0, r6.1, r7] : List (Int × (List (BitVec 64)) × (List (Int × Int × Int)))) s1.toNat).1, ((gl ((0, [], []) : (Int × (List (BitVec 64)) × (List (Int × Int × Int)))) ([r4.1, a0, r6.1, r7] : List (Int × (List (BitVec 64)) × (List (Int × Int × Int)))) s1.toNat).2)) ((gl ((0, 0, 0, 0, 0) : (Int × Int × Int × Int × Int)) ([a1, r5, r8] : List (Int × Int × Int × Int × Int)) s2.toNat).1, ((gl ((0, 0, 0, 0, 0) : (Int × Int × Int × Int × Int)) ([a1, r5, r8] : List (Int × Int × Int × Int × Int)) s2.toNat).2).1, (((gl ((0, 0, 0, 0, 0) : (Int × Int × Int × Int × Int)) ([a1, r5, r8] : List (Int × Int × Int × Int × Int)) s2.toNat).2).2).1, ((((gl ((0, 0, 0, 0, 0) : (Int × Int × Int × Int × Int)) ([a1, r5, r8] : List (Int × Int × Int × Int × Int)) s2.toNat).2).2).2))) (fun r13 =>
Option.bind (Fbeltwayref09_Drop ((gl ((0, [], []) : (Int × (List (BitVec 64)) × (List (Int × Int × Int)))) ([r4.1, a0, r6.1, r7] : List (Int × (List (BitVec 64)) × (List (Int × Int × Int)))) s1.toNat).1, ((gl ((0, [], []) : (Int × (List (BitVec 64)) × (List (Int × Int × Int)))) ([r4.1, a0, r6.1, r7] : List (Int × (List (BitVec 64)) × (List (Int × Int × Int)))) s1.toNat).2)) ((gl ((0, 0, 0, 0, 0) : (Int × Int × Int × Int × Int)) ([a1, r5, r8] : List (Int × Int × Int × Int × Int)) s2.toNat).1, ((gl ((0, 0, 0, 0, 0) : (Int × Int × Int × Int × Int)) ([a1, r5, r8] : List (Int × Int × Int × Int × Int)) s2.toNat).2).1, (((gl ((0, 0, 0, 0, 0) : (Int × Int × Int × Int × Int)) ([a1, r5, r8] : List (Int × Int × Int × Int × Int)) s2.toNat).2).2).1, ((((gl ((0, 0, 0, 0, 0) : (Int × Int × Int × Int × Int)) ([a1, r5, r8] : List (Int × Int × Int × Int × Int)) s2.toNat).2).2).2))) (fun r14 =>
if ¬ r13.2 = r14.2 then
some (Sum.inr (Sum.inr (false)))
else Option.bind (Fbeltwayref03_Same r13.1 r14.1) (fun r15 =>
if (!r15) = true then
some (Sum.inr (Sum.inr (false)))
else some (Sum.inl (w64 (s2 + 1)))))))) (0))
else none
else some (Sum.inr (Sum.inl (w64 (s1 + 1))))) (0))
else none
else Option.map Sum.inr (Option.bind (Fbeltwaylaw09_awake) (fun r16 =>
some (r16)))) (0)))))))
@[reducible] noncomputable def iFbeltwaylaw09_BumpAllocs : FnI := { ps := [⟨(.pair (.int .i64) (.pair (.slice .u64) (.slice (.pair (.int .i64) (.pair (.int .i64) (.int .i64)))))), true, false, false⟩, ⟨(.pair (.int .i64) (.pair (.int .i64) (.pair (.int .i64) (.pair (.int .i64) (.int .i64))))), true, false, false⟩, ⟨(.slice (.int .i64)), false, false, false⟩, ⟨(.int .i64), false, false, false⟩, ⟨(.int .i64), false, false, false⟩, ⟨(.int .i64), false, false, false⟩, ⟨(.int .i64), false, false, false⟩], rs := [⟨.bool, false, true, false⟩], os := [], bk := [], F := fun x => Fbeltwaylaw09_BumpAllocs x.1 x.2.1 x.2.2.1 x.2.2.2.1 x.2.2.2.2.1 x.2.2.2.2.2.1 x.2.2.2.2.2.2 }
noncomputable def cFbeltwaylaw09_BumpAllocs : Cx := { nm := [(7, (3, 1)), (8, (4, 1)), (15, (11, 1)), (17, (12, 1)), (18, (15, 1)), (22, (21, 1)), (24, (23, 1)), (27, (27, 1)), (28, (28, 1)), (31, (31, 1)), (32, (32, 1)), (35, (35, 1)), (37, (38, 1)), (45, (5, 2)), (46, (7, 4)), (54, (13, 2)), (65, (16, 2)), (66, (18, 1)), (71, (19, 2)), (78, (22, 1)), (88, (24, 1)), (98, (25, 2)), (107, (29, 2)), (135, (33, 2)), (141, (36, 2))], keep := [], fns := tabF [(8, iFbeltwaymake_Small), (9, iFbeltwaylaw09_awake), (10, iFbeltwaymake_Space), (11, iFbeltwaymake_New), (12, iFbeltwaylaw09_pick), (13, iFbeltwaymake_Spoilt), (14, iFbeltwaylaw09_twisted), (17, iFbeltwaymake_Mod), (26, iFbump_Alloc), (30, iFbeltwayref04_Take), (31, iFbeltwayref09_Alloc), (32, iFbeltwayref03_Same), (33, iFbump_Drop), (34, iFbeltwayref09_Drop)], loops := [(0, { live := [(68, ⟨(.int .i64), false, false, false⟩)], boxes := [], rows := [], dead := [14, 22, 24, 26, 27, 28, 29, 30, 31, 32, 33, 34, 35, 36, 37, 38, 69, 70, 71, 72, 73, 74, 75, 76, 77, 78, 79, 80, 81, 82, 83, 84, 85, 86, 87, 88, 89, 90, 91, 92, 93, 94, 95, 96, 97, 98, 99, 100, 101, 102, 103, 104, 105, 106, 107, 108, 109, 110, 111, 112, 113, 114, 115, 116, 117, 118, 119, 120, 121, 122, 123, 124, 125, 126, 127, 128, 129, 130, 131, 132, 133, 134, 135, 136, 137, 138, 139, 140, 141, 142, 143, 144, 145, 146, 147, 148, 149, 150, 151, 152, 153, 154], lost := [], base := 19 }), (2, { live := [(80, ⟨(.int .i64), false, false, false⟩)], boxes := [], rows := [], dead := [14, 24, 26, 27, 28, 29, 30, 31, 32, 33, 34, 35, 36, 37, 38, 81, 82, 83, 84, 85, 86, 87, 88, 89, 90, 91, 92, 93, 94, 95, 96, 97, 98, 99, 100, 101, 102, 103, 104, 105, 106, 107, 108, 109, 110, 111, 112, 113, 114, 115, 116, 117, 118, 119, 120, 121, 122, 123, 124, 125, 126, 127, 128, 129, 130, 131, 132, 133, 134, 135, 136, 137, 138, 139, 140, 141, 142, 143, 144, 145, 146, 147, 148, 149, 150, 151, 152, 153], lost := [], base := 23 }), (4, { live := [(90, ⟨(.int .i64), false, false, false⟩)], boxes := [], rows := [], dead := [14, 26, 27, 28, 29, 30, 31, 32, 33, 34, 91, 92, 93, 94, 95, 96, 97, 98, 99, 100, 101, 102, 103, 104, 105, 106, 107, 108, 109, 110, 111, 112, 113, 114, 115, 116, 117, 118, 119, 120, 121, 122, 123, 124, 125, 126, 127, 128, 129, 130, 131], lost := [], base := 25 })], joins := [], tb := tabs, exts := [], lets := [] }
theorem eFbeltwaylaw09_BumpAllocs : (fun x : HT iFbeltwaylaw09_BumpAllocs.ps => iFbeltwaylaw09_BumpAllocs.F x) = fun x => rk Tryd.prog cFbeltwaylaw09_BumpAllocs (Tryd.f6.body.getD .skip) (HT (iFbeltwaylaw09_BumpAllocs.rs ++ iFbeltwaylaw09_BumpAllocs.os)) 1000000 (finK Tryd.prog [.tmp 14] [] iFbeltwaylaw09_BumpAllocs.os (iFbeltwaylaw09_BumpAllocs.rs ++ iFbeltwaylaw09_BumpAllocs.os)) (initF iFbeltwaylaw09_BumpAllocs.ps x 156) (initL iFbeltwaylaw09_BumpAllocs.ps x 36) := by kernel_rfl
theorem okFbeltwaylaw09_BumpAllocs : CallsV Tryd.prog tabs 6 iFbeltwaylaw09_BumpAllocs :=
  callsV_of_rk (cx := cFbeltwaylaw09_BumpAllocs) (fn := Tryd.f6) (c := Tryd.f6.body.getD .skip) (n := 156) (N := 36) (rvs := [.tmp 14]) (cxOk (.cons okFbeltwaymake_Small (.cons okFbeltwaylaw09_awake (.cons okFbeltwaymake_Space (.cons okFbeltwaymake_New (.cons okFbeltwaylaw09_pick (.cons okFbeltwaymake_Spoilt (.cons okFbeltwaylaw09_twisted (.cons okFbeltwaymake_Mod (.cons okFbump_Alloc (.cons okFbeltwayref04_Take (.cons okFbeltwayref09_Alloc (.cons okFbeltwayref03_Same (.cons okFbump_Drop (.cons okFbeltwayref09_Drop TabOk.nil)))))))))))))) XtOk.nil) Tryd.func6 rfl (by kernel_rfl) rfl rfl (by decide) (by decide) (fun x => congrFun eFbeltwaylaw09_BumpAllocs x)
noncomputable def Fbeltwaymake_Few (a0 : (List Int)) : Option Bool :=
some (decide ((a0.length : Int) ≤ 400))
@[reducible] noncomputable def iFbeltwaymake_Few : FnI := { ps := [⟨(.slice (.int .i64)), false, false, false⟩], rs := [⟨.bool, false, true, false⟩], os := [], bk := [], F := fun x => Fbeltwaymake_Few x }
noncomputable def cFbeltwaymake_Few : Cx := { nm := [], keep := [], fns := tabF [], loops := [], joins := [], tb := tabs, exts := [], lets := [] }
theorem eFbeltwaymake_Few : (fun x : HT iFbeltwaymake_Few.ps => iFbeltwaymake_Few.F x) = fun x => rk Tryd.prog cFbeltwaymake_Few (Tryd.f22.body.getD .skip) (HT (iFbeltwaymake_Few.rs ++ iFbeltwaymake_Few.os)) 1000000 (finK Tryd.prog [.tmp 2] [] iFbeltwaymake_Few.os (iFbeltwaymake_Few.rs ++ iFbeltwaymake_Few.os)) (initF iFbeltwaymake_Few.ps x 6) (initL iFbeltwaymake_Few.ps x 0) := by kernel_rfl
theorem okFbeltwaymake_Few : CallsV Tryd.prog tabs 22 iFbeltwaymake_Few :=
  callsV_of_rk (cx := cFbeltwaymake_Few) (fn := Tryd.f22) (c := Tryd.f22.body.getD .skip) (n := 6) (N := 0) (rvs := [.tmp 2]) (cxOk TabOk.nil XtOk.nil) Tryd.func22 rfl (by kernel_rfl) rfl rfl (by decide) (by decide) (fun x => congrFun eFbeltwaymake_Few x)
noncomputable def Fbeltwaymake_Deck_Left (a0 : ((List Int) × Int)) : Option (Bool × ((List Int) × Int)) :=
some ((decide (a0.2 < (a0.1.length : Int)), a0))
@[reducible] noncomputable def iFbeltwaymake_Deck_Left : FnI := { ps := [⟨(.pair (.slice (.int .i64)) (.int .i64)), true, false, true⟩], rs := [⟨.bool, false, true, false⟩], os := [⟨(.pair (.slice (.int .i64)) (.int .i64)), true, false, true⟩], bk := [0], F := fun x => Fbeltwaymake_Deck_Left x }
noncomputable def cFbeltwaymake_Deck_Left : Cx := { nm := [], keep := [], fns := tabF [], loops := [], joins := [], tb := tabs, exts := [], lets := [] }
theorem eFbeltwaymake_Deck_Left : (fun x : HT iFbeltwaymake_Deck_Left.ps => iFbeltwaymake_Deck_Left.F x) = fun x => rk Tryd.prog cFbeltwaymake_Deck_Left (Tryd.f24.body.getD .skip) (HT (iFbeltwaymake_Deck_Left.rs ++ iFbeltwaymake_Deck_Left.os)) 1000000 (finK Tryd.prog [.tmp 2] [0] iFbeltwaymake_Deck_Left.os (iFbeltwaymake_Deck_Left.rs ++ iFbeltwaymake_Deck_Left.os)) (initF iFbeltwaymake_Deck_Left.ps x 13) (initL iFbeltwaymake_Deck_Left.ps x 0) := by kernel_rfl
theorem okFbeltwaymake_Deck_Left : CallsV Tryd.prog tabs 24 iFbeltwaymake_Deck_Left :=
  callsV_of_rk (cx := cFbeltwaymake_Deck_Left) (fn := Tryd.f24) (c := Tryd.f24.body.getD .skip) (n := 13) (N := 0) (rvs := [.tmp 2]) (cxOk TabOk.nil XtOk.nil) Tryd.func24 rfl (by kernel_rfl) rfl rfl (by decide) (by decide) (fun x => congrFun eFbeltwaymake_Deck_Left x)
noncomputable def Fbeltwayref04_Used (a0 : (Int × (List (BitVec 64)) × (List (Int × Int × Int)))) : Option Int :=
Option.bind (Fbeltwayref04_Free a0) (fun r1 =>
some (w64 ((a0.2.2.length : Int) - (r1.length : Int))))
@[reducible] noncomputable def iFbeltwayref04_Used : FnI := { ps := [⟨(.pair (.int .i64) (.pair (.slice .u64) (.slice (.pair (.int .i64) (.pair (.int .i64) (.int .i64)))))), true, false, false⟩], rs := [⟨(.int .i64), false, true, false⟩], os := [], bk := [], F := fun x => Fbeltwayref04_Used x }
noncomputable def cFbeltwayref04_Used : Cx := { nm := [(1, (2, 1)), (7, (3, 1))], keep := [], fns := tabF [(27, iFbeltwayref04_Free)], loops := [], joins := [], tb := tabs, exts := [], lets := [] }
theorem eFbeltwayref04_Used : (fun x : HT iFbeltwayref04_Used.ps => iFbeltwayref04_Used.F x) = fun x => rk Tryd.prog cFbeltwayref04_Used (Tryd.f28.body.getD .skip) (HT (iFbeltwayref04_Used.rs ++ iFbeltwayref04_Used.os)) 1000000 (finK Tryd.prog [.tmp 2] [] iFbeltwayref04_Used.os (iFbeltwayref04_Used.rs ++ iFbeltwayref04_Used.os)) (initF iFbeltwayref04_Used.ps x 10) (initL iFbeltwayref04_Used.ps x 2) := by kernel_rfl
theorem okFbeltwayref04_Used : CallsV Tryd.prog tabs 28 iFbeltwayref04_Used :=
  callsV_of_rk (cx := cFbeltwayref04_Used) (fn := Tryd.f28) (c := Tryd.f28.body.getD .skip) (n := 10) (N := 2) (rvs := [.tmp 2]) (cxOk (.cons okFbeltwayref04_Free TabOk.nil) XtOk.nil) Tryd.func28 rfl (by kernel_rfl) rfl rfl (by decide) (by decide) (fun x => congrFun eFbeltwayref04_Used x)
noncomputable def Fbeltwayref05_outside (a0 : (Int × (List (BitVec 64)) × (List (Int × Int × Int)))) (a1 : Int) : Option Bool :=
if a1 < 0 then
some (true)
else some (decide (a1 ≥ (a0.2.2.length : Int)))
@[reducible] noncomputable def iFbeltwayref05_outside : FnI := { ps := [⟨(.pair (.int .i64) (.pair (.slice .u64) (.slice (.pair (.int .i64) (.pair (.int .i64) (.int .i64)))))), true, false, false⟩, ⟨(.int .i64), false, false, false⟩], rs := [⟨.bool, false, true, false⟩], os := [], bk := [], F := fun x => Fbeltwayref05_outside x.1 x.2 }
noncomputable def cFbeltwayref05_outside : Cx := { nm := [(2, (2, 1))], keep := [], fns := tabF [], loops := [], joins := [], tb := tabs, exts := [], lets := [] }
theorem eFbeltwayref05_outside : (fun x : HT iFbeltwayref05_outside.ps => iFbeltwayref05_outside.F x) = fun x => rk Tryd.prog cFbeltwayref05_outside (Tryd.f51.body.getD .skip) (HT (iFbeltwayref05_outside.rs ++ iFbeltwayref05_outside.os)) 1000000 (finK Tryd.prog [.tmp 4] [] iFbeltwayref05_outside.os (iFbeltwayref05_outside.rs ++ iFbeltwayref05_outside.os)) (initF iFbeltwayref05_outside.ps x 14) (initL iFbeltwayref05_outside.ps x 1) := by kernel_rfl
theorem okFbeltwayref05_outside : CallsV Tryd.prog tabs 51 iFbeltwayref05_outside :=
  callsV_of_rk (cx := cFbeltwayref05_outside) (fn := Tryd.f51) (c := Tryd.f51.body.getD .skip) (n := 14) (N := 1) (rvs := [.tmp 4]) (cxOk TabOk.nil XtOk.nil) Tryd.func51 rfl (by kernel_rfl) rfl rfl (by decide) (by decide) (fun x => congrFun eFbeltwayref05_outside x)
noncomputable def Fbeltwayref05_Index (a0 : (Int × (List (BitVec 64)) × (List (Int × Int × Int)))) (a1 : Int) (a2 : Int) : Option (Int × Int) :=
Option.bind (Fbeltwayref03_Valid a0) (fun r1 =>
if (!r1) = true then
some ((0, 1))
else Option.bind (Fbeltwayref05_outside a0 a1) (fun r2 =>
if r2 = true then
some ((0, 2))
else if a2 < 0 then
some ((0, 2))
else if a2 ≥ (a0.2.1.length : Int) then
some ((0, 2))
else if 0 ≤ a1 ∧ a1 < (a0.2.2.length : Int) then
if ((gl ((0, 0, 0) : (Int × Int × Int)) a0.2.2 a1.toNat).1) = (-1) then
some ((0, 5))
else Option.bind (Fbeltwayref05_Chain a0 a1) (fun r3 =>
loopO (σ := (Int × Int)) (β := (Int × Int)) (fun s1 =>
if s1.2 < (r3.length : Int) then
if 0 ≤ s1.2 ∧ s1.2 < (r3.length : Int) then
if True then
if (gl (0 : Int) r3 s1.2.toNat) = (a2 / 2 ^ min (BitVec.ofInt 64 a0.1).toNat 64) then
if True then
some (Sum.inr ((w64 (s1.1 + (iBits .and a2 (w64 ((w64 ((1 : Int) * 2 ^ min (BitVec.ofInt 64 a0.1).toNat 64)) - 1)))), 0)))
else none
else if True then
some (Sum.inl ((w64 (s1.1 + (w64 ((1 : Int) * 2 ^ min (BitVec.ofInt 64 a0.1).toNat 64))), w64 (s1.2 + 1))))
else none
else none
else none
else some (Sum.inr ((0, 2)))) ((0, 0)))
else none))
@[reducible] noncomputable def iFbeltwayref05_Index : FnI := { ps := [⟨(.pair (.int .i64) (.pair (.slice .u64) (.slice (.pair (.int .i64) (.pair (.int .i64) (.int .i64)))))), true, false, false⟩, ⟨(.int .i64), false, false, false⟩, ⟨(.int .i64), false, false, false⟩], rs := [⟨(.int .i64), false, true, false⟩, ⟨(.int .i64), false, true, false⟩], os := [], bk := [], F := fun x => Fbeltwayref05_Index x.1 x.2.1 x.2.2 }
noncomputable def cFbeltwayref05_Index : Cx := { nm := [(3, (2, 1)), (40, (3, 1))], keep := [], fns := tabF [(35, iFbeltwayref03_Valid), (51, iFbeltwayref05_outside), (52, iFbeltwayref05_Chain)], loops := [(1, { live := [(8, ⟨(.int .i64), false, false, false⟩), (42, ⟨(.int .i64), false, false, false⟩)], boxes := [], rows := [], dead := [6, 7, 10, 43, 44, 45, 46, 47, 48, 49, 50, 51, 52, 53, 54, 55, 56, 57, 58, 59, 60, 61, 62, 63, 64, 65, 66, 67, 68], lost := [], base := 4 })], joins := [], tb := tabs, exts := [], lets := [] }
theorem eFbeltwayref05_Index : (fun x : HT iFbeltwayref05_Index.ps => iFbeltwayref05_Index.F x) = fun x => rk Tryd.prog cFbeltwayref05_Index (Tryd.f29.body.getD .skip) (HT (iFbeltwayref05_Index.rs ++ iFbeltwayref05_Index.os)) 1000000 (finK Tryd.prog [.tmp 6, .tmp 7] [] iFbeltwayref05_Index.os (iFbeltwayref05_Index.rs ++ iFbeltwayref05_Index.os)) (initF iFbeltwayref05_Index.ps x 69) (initL iFbeltwayref05_Index.ps x 2) := by kernel_rfl
theorem okFbeltwayref05_Index : CallsV Tryd.prog tabs 29 iFbeltwayref05_Index :=
  callsV_of_rk (cx := cFbeltwayref05_Index) (fn := Tryd.f29) (c := Tryd.f29.body.getD .skip) (n := 69) (N := 2) (rvs := [.tmp 6, .tmp 7]) (cxOk (.cons okFbeltwayref03_Valid (.cons okFbeltwayref05_outside (.cons okFbeltwayref05_Chain TabOk.nil))) XtOk.nil) Tryd.func29 rfl (by kernel_rfl) rfl rfl (by decide) (by decide) (fun x => congrFun eFbeltwayref05_Index x)
noncomputable def Fbeltwaylaw09_BumpWastes (a0 : (List Int)) (a1 : Int) (a2 : Int) : Option Bool :=
Option.bind (Fbeltwaymake_Few a0) (fun r1 =>
if (!r1) = true then
Option.bind (Fbeltwaylaw09_awake) (fun r2 =>
some (r2))
else Option.bind (Fbeltwaymake_New a0) (fun r3 =>
Option.bind (Fbeltwaymake_Mod a1 3) (fun r4 =>
Option.bind (Fbeltwaymake_Mod a2 30) (fun r5 =>
Option.bind (Fbeltwayref03_New (w64 ((3 : Int) + r4)) (w64 ((2 : Int) + r5))) (fun r6 =>
if ¬ r6.2 = 0 then
some (false)
else loopO (σ := (((List Int) × Int) × (Int × (List (BitVec 64)) × (List (Int × Int × Int))) × (Int × Int × Int × Int × Int))) (β := Bool) (fun s1 =>
Option.bind (Fbeltwaymake_Deck_Left s1.1) (fun r7 =>
if r7.1 = true then
Option.bind (Fbeltwaymake_Deck_Next r7.2 48) (fun r8 =>
Option.bind (Fbump_Alloc s1.2.1 s1.2.2 (w64 ((1 : Int) + r8.1))) (fun r9 =>
if ¬ r9.2.2.2 = 0 then
if r9.2.2.2 = 4 then
Option.bind (Fbump_Extra s1.2.1 s1.2.2 (w64 ((1 : Int) + r8.1))) (fun r10 =>
Option.bind (Fbeltwayref04_Free s1.2.1) (fun r11 =>
if r10 > (r11.length : Int) then
Option.bind (Fbeltwaylaw09_awake) (fun r12 =>
some (Sum.inr (r12)))
else some (Sum.inr (false))))
else some (Sum.inr (false))
else Option.bind (Fbeltwayref09_Valid r9.1 r9.2.1) (fun r13 =>
if (!r13) = true then
some (Sum.inr (false))
else if ¬ r9.2.1.2.2.2.2 = (w64 (s1.2.2.2.2.2.2 + (w64 ((1 : Int) + r8.1)))) then
some (Sum.inr (false))
else Option.bind (Fbeltwayref04_Used r9.1) (fun r14 =>
if True then
if True then
if (w64 ((w64 (r14 * 2 ^ min (BitVec.ofInt 64 r9.1.1).toNat 64)) - r9.2.1.2.2.2.2)) ≥ (w64 ((1 : Int) * 2 ^ min (BitVec.ofInt 64 r9.1.1).toNat 64)) then
some (Sum.inr (false))
else Option.bind (Fbeltwayref05_Index r9.1 r9.2.1.2.2.1 r9.2.2.1) (fun r15 =>
if ¬ r15.2 = 0 then
some (Sum.inr (false))
else if ¬ r15.1 = s1.2.2.2.2.2.2 then
some (Sum.inr (false))
else some (Sum.inl ((r8.2, r9.1, r9.2.1))))
else none
else none))))
else Option.map Sum.inr (Option.bind (Fbeltwaylaw09_awake) (fun r16 =>
some (r16))))) ((r3, r6.1, (4, 1, (-1), (-1), 0))))))))
@[reducible] noncomputable def iFbeltwaylaw09_BumpWastes : FnI := { ps := [⟨(.slice (.int .i64)), false, false, false⟩, ⟨(.int .i64), false, false, false⟩, ⟨(.int .i64), false, false, false⟩], rs := [⟨.bool, false, true, false⟩], os := [], bk := [], F := fun x => Fbeltwaylaw09_BumpWastes x.1 x.2.1 x.2.2 }
noncomputable def cFbeltwaylaw09_BumpWastes : Cx := { nm := [(8, (5, 1)), (10, (6, 1)), (12, (11, 1)), (13, (12, 1)), (23, (1, 2)), (31, (3, 2)), (38, (7, 1)), (40, (8, 1)), (46, (9, 2)), (61, (13, 1))], keep := [], fns := tabF [(9, iFbeltwaylaw09_awake), (11, iFbeltwaymake_New), (16, iFbeltwayref09_Valid), (17, iFbeltwaymake_Mod), (20, iFbump_Extra), (22, iFbeltwaymake_Few), (23, iFbeltwayref03_New), (24, iFbeltwaymake_Deck_Left), (25, iFbeltwaymake_Deck_Next), (26, iFbump_Alloc), (27, iFbeltwayref04_Free), (28, iFbeltwayref04_Used), (29, iFbeltwayref05_Index)], loops := [(0, { live := [], boxes := [(1, ⟨(.pair (.slice (.int .i64)) (.int .i64)), true, false, false⟩), (5, ⟨(.pair (.int .i64) (.pair (.slice .u64) (.slice (.pair (.int .i64) (.pair (.int .i64) (.int .i64)))))), true, false, false⟩), (6, ⟨(.pair (.int .i64) (.pair (.int .i64) (.pair (.int .i64) (.pair (.int .i64) (.int .i64))))), true, false, false⟩)], rows := [], dead := [6, 11, 12, 13, 14, 15, 16, 17, 37, 38, 39, 40, 41, 42, 43, 44, 45, 46, 47, 48, 49, 50, 51, 52, 53, 54, 55, 56, 57, 58, 59, 60, 61, 62, 63, 64, 65, 66, 67, 68, 69, 70, 71, 72, 73, 74, 75, 76, 77, 78, 79, 80, 81, 82, 83, 84, 85, 86, 87, 88, 89, 90, 91, 92, 93, 94, 95, 96, 97, 98, 99, 100, 101, 102, 103, 104, 105, 106, 107, 108, 109, 110, 111, 112, 113, 114], lost := [3, 4], base := 15 })], joins := [], tb := tabs, exts := [], lets := [] }
theorem eFbeltwaylaw09_BumpWastes : (fun x : HT iFbeltwaylaw09_BumpWastes.ps => iFbeltwaylaw09_BumpWastes.F x) = fun x => rk Tryd.prog cFbeltwaylaw09_BumpWastes (Tryd.f4.body.getD .skip) (HT (iFbeltwaylaw09_BumpWastes.rs ++ iFbeltwaylaw09_BumpWastes.os)) 1000000 (finK Tryd.prog [.tmp 6] [] iFbeltwaylaw09_BumpWastes.os (iFbeltwaylaw09_BumpWastes.rs ++ iFbeltwaylaw09_BumpWastes.os)) (initF iFbeltwaylaw09_BumpWastes.ps x 116) (initL iFbeltwaylaw09_BumpWastes.ps x 17) := by kernel_rfl
theorem okFbeltwaylaw09_BumpWastes : CallsV Tryd.prog tabs 4 iFbeltwaylaw09_BumpWastes :=
  callsV_of_rk (cx := cFbeltwaylaw09_BumpWastes) (fn := Tryd.f4) (c := Tryd.f4.body.getD .skip) (n := 116) (N := 17) (rvs := [.tmp 6]) (cxOk (.cons okFbeltwaylaw09_awake (.cons okFbeltwaymake_New (.cons okFbeltwayref09_Valid (.cons okFbeltwaymake_Mod (.cons okFbump_Extra (.cons okFbeltwaymake_Few (.cons okFbeltwayref03_New (.cons okFbeltwaymake_Deck_Left (.cons okFbeltwaymake_Deck_Next (.cons okFbump_Alloc (.cons okFbeltwayref04_Free (.cons okFbeltwayref04_Used (.cons okFbeltwayref05_Index TabOk.nil))))))))))))) XtOk.nil) Tryd.func4 rfl (by kernel_rfl) rfl rfl (by decide) (by decide) (fun x => congrFun eFbeltwaylaw09_BumpWastes x)
noncomputable def Fbeltwaylaw09_BumpDrops (a0 : (List Int)) (a1 : Int) : Option Bool :=
Option.bind (Fbeltwaymake_New a0) (fun r1 =>
Option.bind (Fbeltwaymake_Space r1) (fun r2 =>
if (r2.2.1.length : Int) = 0 then
Option.bind (Fbeltwaylaw09_awake) (fun r3 =>
some (r3))
else Option.bind (Fbeltwaymake_Mod a1 (r2.2.1.length : Int)) (fun r4 =>
if 0 ≤ r4 ∧ r4 < (r2.2.1.length : Int) then
Option.bind (Fbump_Drop r2.1 ((gl ((0, 0, 0, 0, 0) : (Int × Int × Int × Int × Int)) r2.2.1 r4.toNat).1, ((gl ((0, 0, 0, 0, 0) : (Int × Int × Int × Int × Int)) r2.2.1 r4.toNat).2).1, (((gl ((0, 0, 0, 0, 0) : (Int × Int × Int × Int × Int)) r2.2.1 r4.toNat).2).2).1, ((((gl ((0, 0, 0, 0, 0) : (Int × Int × Int × Int × Int)) r2.2.1 r4.toNat).2).2).2))) (fun r5 =>
if ¬ r5.2 = 0 then
some (false)
else if ¬ (r5.1.2.2.length : Int) = (r2.1.2.2.length : Int) then
some (false)
else if ¬ (r5.1.2.1.length : Int) = (r2.1.2.1.length : Int) then
some (false)
else Option.bind (Fbeltwayref04_Used r5.1) (fun r6 =>
Option.bind (Fbeltwayref04_Used r2.1) (fun r7 =>
Option.bind (Fbump_Frames r2.1 ((gl ((0, 0, 0, 0, 0) : (Int × Int × Int × Int × Int)) r2.2.1 r4.toNat).1, ((gl ((0, 0, 0, 0, 0) : (Int × Int × Int × Int × Int)) r2.2.1 r4.toNat).2).1, (((gl ((0, 0, 0, 0, 0) : (Int × Int × Int × Int × Int)) r2.2.1 r4.toNat).2).2).1, ((((gl ((0, 0, 0, 0, 0) : (Int × Int × Int × Int × Int)) r2.2.1 r4.toNat).2).2).2))) (fun r8 =>
if ¬ r6 = (w64 (r7 - r8)) then
some (false)
else Option.bind (Fbeltwayref03_Valid r5.1) (fun r9 =>
if (!r9) = true then
some (false)
else loopO (σ := Int) (β := Bool) (fun s1 =>
if s1 < (r2.1.2.2.length : Int) then
if 0 ≤ s1 ∧ s1 < (r2.1.2.2.length : Int) then
if ((gl ((0, 0, 0) : (Int × Int × Int)) r2.1.2.2 s1.toNat).1) = ((gl ((0, 0, 0, 0, 0) : (Int × Int × Int × Int × Int)) r2.2.1 r4.toNat).1) then
if 0 ≤ s1 ∧ s1 < (r5.1.2.2.length : Int) then
if ¬ ((gl ((0, 0, 0) : (Int × Int × Int)) r5.1.2.2 s1.toNat).1) = (-1) then
some (Sum.inr (false))
else some (Sum.inl (w64 (s1 + 1)))
else none
else if 0 ≤ s1 ∧ s1 < (r5.1.2.2.length : Int) then
if (!(allB [decide (((gl ((0, 0, 0) : (Int × Int × Int)) r5.1.2.2 s1.toNat).1) = ((gl ((0, 0, 0) : (Int × Int × Int)) r2.1.2.2 s1.toNat).1)), decide ((((gl ((0, 0, 0) : (Int × Int × Int)) r5.1.2.2 s1.toNat).2).1) = (((gl ((0, 0, 0) : (Int × Int × Int)) r2.1.2.2 s1.toNat).2).1)), decide ((((gl ((0, 0, 0) : (Int × Int × Int)) r5.1.2.2 s1.toNat).2).2) = (((gl ((0, 0, 0) : (Int × Int × Int)) r2.1.2.2 s1.toNat).2).2))])) = true then
some (Sum.inr (false))
else if True then
loopO (σ := Int) (β := (Int ⊕ Bool)) (fun s2 =>
if True then
if s2 < (w64 ((w64 (s1 + 1)) * 2 ^ min (BitVec.ofInt 64 r2.1.1).toNat 64)) then
if 0 ≤ s2 ∧ s2 < (r5.1.2.1.length : Int) then
if 0 ≤ s2 ∧ s2 < (r2.1.2.1.length : Int) then
if ¬ (gl (0#64 : (BitVec 64)) r5.1.2.1 s2.toNat) = (gl (0#64 : (BitVec 64)) r2.1.2.1 s2.toNat) then
some (Sum.inr (Sum.inr (false)))
else some (Sum.inl (w64 (s2 + 1)))
else none
else none
else some (Sum.inr (Sum.inl (w64 (s1 + 1))))
else none) (w64 (s1 * 2 ^ min (BitVec.ofInt 64 r2.1.1).toNat 64))
else none
else none
else none
else some (Sum.inr (true))) (0))))))
else none)))
@[reducible] noncomputable def iFbeltwaylaw09_BumpDrops : FnI := { ps := [⟨(.slice (.int .i64)), false, false, false⟩, ⟨(.int .i64), false, false, false⟩], rs := [⟨.bool, false, true, false⟩], os := [], bk := [], F := fun x => Fbeltwaylaw09_BumpDrops x.1 x.2 }
noncomputable def cFbeltwaylaw09_BumpDrops : Cx := { nm := [(5, (7, 1)), (7, (8, 1)), (8, (11, 1)), (11, (12, 1)), (15, (1, 2)), (16, (3, 4)), (33, (9, 2))], keep := [], fns := tabF [(9, iFbeltwaylaw09_awake), (10, iFbeltwaymake_Space), (11, iFbeltwaymake_New), (17, iFbeltwaymake_Mod), (18, iFbump_Frames), (28, iFbeltwayref04_Used), (33, iFbump_Drop), (35, iFbeltwayref03_Valid)], loops := [(0, { live := [(75, ⟨(.int .i64), false, false, false⟩)], boxes := [], rows := [], dead := [4, 10, 11, 12, 76, 77, 78, 79, 80, 81, 82, 83, 84, 85, 86, 87, 88, 89, 90, 91, 92, 93, 94, 95, 96, 97, 98, 99, 100, 101, 102, 103, 104, 105, 106, 107, 108, 109, 110, 111, 112, 113, 114, 115, 116, 117, 118, 119, 120, 121, 122, 123, 124, 125], lost := [], base := 12 }), (2, { live := [(12, ⟨(.int .i64), false, false, false⟩)], boxes := [], rows := [], dead := [4, 104, 105, 106, 107, 108, 109, 110, 111, 112, 113, 114, 115, 116, 117, 118, 119, 120, 121, 122, 123, 124], lost := [], base := 13 })], joins := [], tb := tabs, exts := [], lets := [] }
theorem eFbeltwaylaw09_BumpDrops : (fun x : HT iFbeltwaylaw09_BumpDrops.ps => iFbeltwaylaw09_BumpDrops.F x) = fun x => rk Tryd.prog cFbeltwaylaw09_BumpDrops (Tryd.f7.body.getD .skip) (HT (iFbeltwaylaw09_BumpDrops.rs ++ iFbeltwaylaw09_BumpDrops.os)) 1000000 (finK Tryd.prog [.tmp 4] [] iFbeltwaylaw09_BumpDrops.os (iFbeltwaylaw09_BumpDrops.rs ++ iFbeltwaylaw09_BumpDrops.os)) (initF iFbeltwaylaw09_BumpDrops.ps x 126) (initL iFbeltwaylaw09_BumpDrops.ps x 12) := by kernel_rfl
theorem okFbeltwaylaw09_BumpDrops : CallsV Tryd.prog tabs 7 iFbeltwaylaw09_BumpDrops :=
  callsV_of_rk (cx := cFbeltwaylaw09_BumpDrops) (fn := Tryd.f7) (c := Tryd.f7.body.getD .skip) (n := 126) (N := 12) (rvs := [.tmp 4]) (cxOk (.cons okFbeltwaylaw09_awake (.cons okFbeltwaymake_Space (.cons okFbeltwaymake_New (.cons okFbeltwaymake_Mod (.cons okFbump_Frames (.cons okFbeltwayref04_Used (.cons okFbump_Drop (.cons okFbeltwayref03_Valid TabOk.nil)))))))) XtOk.nil) Tryd.func7 rfl (by kernel_rfl) rfl rfl (by decide) (by decide) (fun x => congrFun eFbeltwaylaw09_BumpDrops x)
noncomputable def Fbeltwaylaw09_BumpApart (a0 : (List Int)) : Option Bool :=
Option.bind (Fbeltwaymake_Few a0) (fun r1 =>
if (!r1) = true then
Option.bind (Fbeltwaylaw09_awake) (fun r2 =>
some (r2))
else Option.bind (Fbeltwaymake_New a0) (fun r3 =>
Option.bind (Fbeltwayref03_New 3 24) (fun r4 =>
if ¬ r4.2 = 0 then
some (false)
else loopO (σ := (Int × ((List Int) × Int) × (Int × (List (BitVec 64)) × (List (Int × Int × Int))) × (List (Int × Int × Int × Int × Int)))) (β := Bool) (fun s1 =>
if s1.1 < 30 then
Option.bind (Fbeltwaymake_Deck_Left s1.2.1) (fun r5 =>
if r5.1 = true then
Option.bind (Fbeltwaymake_Deck_Next r5.2 3) (fun r6 =>
if 0 ≤ r6.1 ∧ r6.1 < (s1.2.2.2.length : Int) then
Option.bind (Fbeltwaymake_Deck_Next r6.2 20) (fun r7 =>
Option.bind (Fbump_Alloc s1.2.2.1 ((gl ((0, 0, 0, 0, 0) : (Int × Int × Int × Int × Int)) s1.2.2.2 r6.1.toNat).1, ((gl ((0, 0, 0, 0, 0) : (Int × Int × Int × Int × Int)) s1.2.2.2 r6.1.toNat).2).1, (((gl ((0, 0, 0, 0, 0) : (Int × Int × Int × Int × Int)) s1.2.2.2 r6.1.toNat).2).2).1, ((((gl ((0, 0, 0, 0, 0) : (Int × Int × Int × Int × Int)) s1.2.2.2 r6.1.toNat).2).2).2)) (w64 ((1 : Int) + r7.1))) (fun r8 =>
if ¬ r8.2.2.2 = 0 then
if r8.2.2.2 = 4 then
Option.bind (Fbeltwaylaw09_awake) (fun r9 =>
some (Sum.inr (r9)))
else some (Sum.inr (false))
else if True then
if r8.2.2.1 < 0 then
some (Sum.inr (false))
else if (r8.2.2.1 / 2 ^ min (3#64).toNat 64) ≥ (r8.1.2.2.length : Int) then
some (Sum.inr (false))
else if 0 ≤ (r8.2.2.1 / 2 ^ min (3#64).toNat 64) ∧ (r8.2.2.1 / 2 ^ min (3#64).toNat 64) < (r8.1.2.2.length : Int) then
if 0 ≤ r6.1 ∧ r6.1 < (s1.2.2.2.length : Int) then
if ¬ ((gl ((0, 0, 0) : (Int × Int × Int)) r8.1.2.2 ((r8.2.2.1 / 2 ^ min (3#64).toNat 64).toNat)).1) = ((gl ((0, 0, 0, 0, 0) : (Int × Int × Int × Int × Int)) s1.2.2.2 r6.1.toNat).1) then
some (Sum.inr (false))
else if 0 ≤ r6.1 ∧ r6.1 < (s1.2.2.2.length : Int) then
loopO (σ := Int) (β := ((Int × ((List Int) × Int) × (Int × (List (BitVec 64)) × (List (Int × Int × Int))) × (List (Int × Int × Int × Int × Int))) ⊕ Bool)) (fun s2 =>
if s2 < ((s1.2.2.2.set r6.1.toNat r8.2.1).length : Int) then
if 0 ≤ s2 ∧ s2 < ((s1.2.2.2.set r6.1.toNat r8.2.1).length : Int) then
Option.bind (Fbeltwayref09_Valid r8.1 ((gl ((0, 0, 0, 0, 0) : (Int × Int × Int × Int × Int)) (s1.2.2.2.set r6.1.toNat r8.2.1) s2.toNat).1, ((gl ((0, 0, 0, 0, 0) : (Int × Int × Int × Int × Int)) (s1.2.2.2.set r6.1.toNat r8.2.1) s2.toNat).2).1, (((gl ((0, 0, 0, 0, 0) : (Int × Int × Int × Int × Int)) (s1.2.2.2.set r6.1.toNat r8.2.1) s2.toNat).2).2).1, ((((gl ((0, 0, 0, 0, 0) : (Int × Int × Int × Int × Int)) (s1.2.2.2.set r6.1.toNat r8.2.1) s2.toNat).2).2).2))) (fun r10 =>
if (!r10) = true then
some (Sum.inr (Sum.inr (false)))
else some (Sum.inl (w64 (s2 + 1))))
else none
else some (Sum.inr (Sum.inl ((w64 (s1.1 + 1), r7.2, r8.1, s1.2.2.2.set r6.1.toNat r8.2.1))))) (0)
else none
else none
else none
else none))
else none)
else Option.map Sum.inr (Option.bind (Fbeltwaylaw09_awake) (fun r11 =>
some (r11))))
else Option.map Sum.inr (Option.bind (Fbeltwaylaw09_awake) (fun r12 =>
some (r12)))) ((0, r3, r4.1, ([(1, 0, (-1), (-1), 0), (2, 1, (-1), (-1), 0), (3, 1, (-1), (-1), 0)] : List (Int × Int × Int × Int × Int)))))))
@[reducible] noncomputable def iFbeltwaylaw09_BumpApart : FnI := { ps := [⟨(.slice (.int .i64)), false, false, false⟩], rs := [⟨.bool, false, true, false⟩], os := [], bk := [], F := fun x => Fbeltwaylaw09_BumpApart x }
noncomputable def cFbeltwaylaw09_BumpApart : Cx := { nm := [(4, (5, 1)), (9, (12, 1)), (10, (13, 1)), (15, (14, 1)), (21, (1, 2)), (23, (3, 2)), (31, (6, 1)), (36, (7, 1)), (41, (8, 1)), (49, (9, 1)), (51, (10, 2))], keep := [31], fns := tabF [(9, iFbeltwaylaw09_awake), (11, iFbeltwaymake_New), (16, iFbeltwayref09_Valid), (22, iFbeltwaymake_Few), (23, iFbeltwayref03_New), (24, iFbeltwaymake_Deck_Left), (25, iFbeltwaymake_Deck_Next), (26, iFbump_Alloc)], loops := [(0, { live := [(7, ⟨(.int .i64), false, false, false⟩)], boxes := [(1, ⟨(.pair (.slice (.int .i64)) (.int .i64)), true, false, false⟩), (5, ⟨(.pair (.int .i64) (.pair (.slice .u64) (.slice (.pair (.int .i64) (.pair (.int .i64) (.int .i64)))))), true, false, false⟩)], rows := [(6, (.pair (.int .i64) (.pair (.int .i64) (.pair (.int .i64) (.pair (.int .i64) (.int .i64))))))], dead := [2, 8, 9, 10, 11, 12, 13, 15, 32, 33, 34, 35, 36, 37, 38, 39, 40, 41, 42, 43, 44, 45, 46, 47, 48, 49, 50, 51, 52, 53, 54, 55, 56, 57, 58, 59, 60, 61, 62, 63, 64, 65, 66, 67, 68, 69, 70, 71, 72, 73, 74, 75, 76, 77, 78, 79, 80, 81, 82, 83, 84, 85, 86, 87, 88, 89, 90, 91, 92, 93, 94, 95, 96, 97, 98, 99, 100, 101, 102, 103], lost := [3, 4], base := 16 }), (2, { live := [(95, ⟨(.int .i64), false, false, false⟩)], boxes := [], rows := [], dead := [2, 15, 96, 97, 98, 99, 100, 101, 102, 103], lost := [], base := 14 })], joins := [], tb := tabs, exts := [], lets := [] }
theorem eFbeltwaylaw09_BumpApart : (fun x : HT iFbeltwaylaw09_BumpApart.ps => iFbeltwaylaw09_BumpApart.F x) = fun x => rk Tryd.prog cFbeltwaylaw09_BumpApart (Tryd.f5.body.getD .skip) (HT (iFbeltwaylaw09_BumpApart.rs ++ iFbeltwaylaw09_BumpApart.os)) 1000000 (finK Tryd.prog [.tmp 2] [] iFbeltwaylaw09_BumpApart.os (iFbeltwaylaw09_BumpApart.rs ++ iFbeltwaylaw09_BumpApart.os)) (initF iFbeltwaylaw09_BumpApart.ps x 105) (initL iFbeltwaylaw09_BumpApart.ps x 18) := by kernel_rfl
theorem okFbeltwaylaw09_BumpApart : CallsV Tryd.prog tabs 5 iFbeltwaylaw09_BumpApart :=
  callsV_of_rk (cx := cFbeltwaylaw09_BumpApart) (fn := Tryd.f5) (c := Tryd.f5.body.getD .skip) (n := 105) (N := 18) (rvs := [.tmp 2]) (cxOk (.cons okFbeltwaylaw09_awake (.cons okFbeltwaymake_New (.cons okFbeltwayref09_Valid (.cons okFbeltwaymake_Few (.cons okFbeltwayref03_New (.cons okFbeltwaymake_Deck_Left (.cons okFbeltwaymake_Deck_Next (.cons okFbump_Alloc TabOk.nil)))))))) XtOk.nil) Tryd.func5 rfl (by kernel_rfl) rfl rfl (by decide) (by decide) (fun x => congrFun eFbeltwaylaw09_BumpApart x)
end Go.Proofs.YtjbkmpipccdnhaaDoor
