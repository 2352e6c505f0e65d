/-
  The functions of the laws of package pool (printed, and checked by the kernel).
-/
import Derived.Test.YtbmndkehkhpdlaaDoorSpW
set_option linter.unusedVariables false
set_option maxRecDepth 100000
namespace Go.Proofs.YtbmndkehkhpdlaaDoor
open Go Go.V3
noncomputable def Fmath_bits_TrailingZeros64 (a0 : (BitVec 64)) : Option Int :=
if a0 = (0#64) then
some (64)
else letv ((a0 &&& (0#64 - a0)) * (285870213051353865#64)) (fun (v1 : BitVec 64) =>
if True then
if 0 ≤ ((v1 >>> (58#64).toNat).toNat : Int) ∧ ((v1 >>> (58#64).toNat).toNat : Int) < ((64 : Nat) : Int) then
if 0 + ((v1 >>> (58#64).toNat).toNat : Int).toNat < tab0.size then
letv (w64 (tget tab0 (0 + ((v1 >>> (58#64).toNat).toNat : Int).toNat))) (fun (v2 : Int) =>
some (v2))
else none
else none
else none)
@[reducible] noncomputable def iFmath_bits_TrailingZeros64 : FnI := { ps := [⟨.u64, false, false, false⟩], rs := [⟨(.int .i64), false, true, false⟩], os := [], bk := [], F := fun x => Fmath_bits_TrailingZeros64 x }
noncomputable def cFmath_bits_TrailingZeros64 : Cx := { nm := [], keep := [], fns := tabF [], loops := [], joins := [], tb := tabs, exts := [], lets := [9, 13] }
theorem eFmath_bits_TrailingZeros64 : (fun x : HT iFmath_bits_TrailingZeros64.ps => iFmath_bits_TrailingZeros64.F x) = fun x => rk Tryd.prog cFmath_bits_TrailingZeros64 (Tryd.f31.body.getD .skip) (HT (iFmath_bits_TrailingZeros64.rs ++ iFmath_bits_TrailingZeros64.os)) 1000000 (finK Tryd.prog [.tmp 2] [] iFmath_bits_TrailingZeros64.os (iFmath_bits_TrailingZeros64.rs ++ iFmath_bits_TrailingZeros64.os)) (initF iFmath_bits_TrailingZeros64.ps x 14) (initL iFmath_bits_TrailingZeros64.ps x 0) := by kernel_rfl
theorem okFmath_bits_TrailingZeros64 : CallsV Tryd.prog tabs 31 iFmath_bits_TrailingZeros64 :=
  callsV_of_rk (cx := cFmath_bits_TrailingZeros64) (fn := Tryd.f31) (c := Tryd.f31.body.getD .skip) (n := 14) (N := 0) (rvs := [.tmp 2]) (cxOk TabOk.nil XtOk.nil) Tryd.func31 rfl (by kernel_rfl) rfl rfl (by decide) (by decide) (fun x => congrFun eFmath_bits_TrailingZeros64 x)
noncomputable def Fmath_bits_OnesCount64 (a0 : (BitVec 64)) : Option Int :=
if True then
letv ((a0 >>> (1#64).toNat) &&& (6148914691236517205#64)) (fun (v1 : BitVec 64) =>
letv (a0 &&& (6148914691236517205#64)) (fun (v2 : BitVec 64) =>
if True then
letv (((v1 + v2) >>> (2#64).toNat) &&& (3689348814741910323#64)) (fun (v3 : BitVec 64) =>
letv ((v1 + v2) &&& (3689348814741910323#64)) (fun (v4 : BitVec 64) =>
if True then
letv (((v3 + v4) >>> (4#64).toNat) + (v3 + v4)) (fun (v5 : BitVec 64) =>
letv (v5 &&& (1085102592571150095#64)) (fun (v6 : BitVec 64) =>
if True then
if True then
letv ((v6 + (v6 >>> (8#64).toNat)) >>> (16#64).toNat) (fun (v7 : BitVec 64) =>
letv ((v6 + (v6 >>> (8#64).toNat)) + v7) (fun (v8 : BitVec 64) =>
if True then
letv (w64 (((v8 + (v8 >>> (32#64).toNat)).toNat : Int))) (fun (v9 : Int) =>
some (iBits .and v9 127))
else none))
else none
else none))
else none))
else none))
else none
@[reducible] noncomputable def iFmath_bits_OnesCount64 : FnI := { ps := [⟨.u64, false, false, false⟩], rs := [⟨(.int .i64), false, true, false⟩], os := [], bk := [], F := fun x => Fmath_bits_OnesCount64 x }
noncomputable def cFmath_bits_OnesCount64 : Cx := { nm := [], keep := [], fns := tabF [], loops := [], joins := [], tb := tabs, exts := [], lets := [5, 7, 11, 13, 18, 19, 26, 27, 33] }
theorem eFmath_bits_OnesCount64 : (fun x : HT iFmath_bits_OnesCount64.ps => iFmath_bits_OnesCount64.F x) = fun x => rk Tryd.prog cFmath_bits_OnesCount64 (Tryd.f37.body.getD .skip) (HT (iFmath_bits_OnesCount64.rs ++ iFmath_bits_OnesCount64.os)) 1000000 (finK Tryd.prog [.tmp 2] [] iFmath_bits_OnesCount64.os (iFmath_bits_OnesCount64.rs ++ iFmath_bits_OnesCount64.os)) (initF iFmath_bits_OnesCount64.ps x 35) (initL iFmath_bits_OnesCount64.ps x 0) := by kernel_rfl
theorem okFmath_bits_OnesCount64 : CallsV Tryd.prog tabs 37 iFmath_bits_OnesCount64 :=
  callsV_of_rk (cx := cFmath_bits_OnesCount64) (fn := Tryd.f37) (c := Tryd.f37.body.getD .skip) (n := 35) (N := 0) (rvs := [.tmp 2]) (cxOk TabOk.nil XtOk.nil) Tryd.func37 rfl (by kernel_rfl) rfl rfl (by decide) (by decide) (fun x => congrFun eFmath_bits_OnesCount64 x)
noncomputable def Fpool_free (a0 : (Int × (List (BitVec 64)) × (List (Int × Int × Int)))) : Option (BitVec 64) :=
loopO (σ := ((BitVec 64) × Int)) (β := (BitVec 64)) (fun s1 =>
if s1.2 < (a0.2.2.length : Int) then
if 0 ≤ s1.2 ∧ s1.2 < (a0.2.2.length : Int) then
if ((gl ((0, 0, 0) : (Int × Int × Int)) a0.2.2 s1.2.toNat).1) = (-1) then
if s1.2 < 64 then
if True then
some (Sum.inl ((s1.1 ||| ((1#64) <<< (BitVec.ofInt 64 s1.2).toNat), w64 (s1.2 + 1))))
else none
else some (Sum.inl ((s1.1, w64 (s1.2 + 1))))
else some (Sum.inl ((s1.1, w64 (s1.2 + 1))))
else none
else some (Sum.inr (s1.1))) ((0#64, 0))
@[reducible] noncomputable def iFpool_free : FnI := { ps := [⟨(.pair (.int .i64) (.pair (.slice .u64) (.slice (.pair (.int .i64) (.pair (.int .i64) (.int .i64)))))), true, false, false⟩], rs := [⟨.u64, false, true, false⟩], os := [], bk := [], F := fun x => Fpool_free x }
noncomputable def cFpool_free : Cx := { nm := [(1, (2, 1)), (5, (3, 1))], keep := [], fns := tabF [], loops := [(0, { live := [(3, ⟨.u64, false, false, false⟩), (9, ⟨(.int .i64), false, false, false⟩)], boxes := [], rows := [], dead := [4, 5, 10, 11, 12, 13, 14, 15, 16, 17, 18, 19, 20, 21, 22, 23, 24, 25, 26], lost := [], base := 3 })], joins := [], tb := tabs, exts := [], lets := [] }
theorem eFpool_free : (fun x : HT iFpool_free.ps => iFpool_free.F x) = fun x => rk Tryd.prog cFpool_free (Tryd.f29.body.getD .skip) (HT (iFpool_free.rs ++ iFpool_free.os)) 1000000 (finK Tryd.prog [.tmp 2] [] iFpool_free.os (iFpool_free.rs ++ iFpool_free.os)) (initF iFpool_free.ps x 28) (initL iFpool_free.ps x 2) := by kernel_rfl
theorem okFpool_free : CallsV Tryd.prog tabs 29 iFpool_free :=
  callsV_of_rk (cx := cFpool_free) (fn := Tryd.f29) (c := Tryd.f29.body.getD .skip) (n := 28) (N := 2) (rvs := [.tmp 2]) (cxOk TabOk.nil XtOk.nil) Tryd.func29 rfl (by kernel_rfl) rfl rfl (by decide) (by decide) (fun x => congrFun eFpool_free x)
noncomputable def Fclone_Words (a0 : (List (BitVec 64))) : Option (List (BitVec 64)) :=
if (([] : List (BitVec 64)).length + a0.length) * 8 ≤ 140737488355328 then
some (([] : List (BitVec 64)) ++ a0)
else none
@[reducible] noncomputable def iFclone_Words : FnI := { ps := [⟨(.slice .u64), false, false, false⟩], rs := [⟨(.slice .u64), false, true, false⟩], os := [], bk := [], F := fun x => Fclone_Words x }
noncomputable def cFclone_Words : Cx := { nm := [(4, (1, 1))], keep := [4], fns := tabF [], loops := [], joins := [], tb := tabs, exts := [], lets := [] }
theorem eFclone_Words : (fun x : HT iFclone_Words.ps => iFclone_Words.F x) = fun x => rk Tryd.prog cFclone_Words (Tryd.f44.body.getD .skip) (HT (iFclone_Words.rs ++ iFclone_Words.os)) 1000000 (finK Tryd.prog [.tmp 2] [] iFclone_Words.os (iFclone_Words.rs ++ iFclone_Words.os)) (initF iFclone_Words.ps x 5) (initL iFclone_Words.ps x 1) := by kernel_rfl
theorem okFclone_Words : CallsV Tryd.prog tabs 44 iFclone_Words :=
  callsV_of_rk (cx := cFclone_Words) (fn := Tryd.f44) (c := Tryd.f44.body.getD .skip) (n := 5) (N := 1) (rvs := [.tmp 2]) (cxOk TabOk.nil XtOk.nil) Tryd.func44 rfl (by kernel_rfl) rfl rfl (by decide) (by decide) (fun x => congrFun eFclone_Words x)
noncomputable def Fclone_Space (a0 : (Int × (List (BitVec 64)) × (List (Int × Int × Int)))) : Option (Int × (List (BitVec 64)) × (List (Int × Int × Int))) :=
Option.bind (Fclone_Words a0.2.1) (fun r1 =>
if (([] : List (Int × Int × Int)).length + a0.2.2.length) * 24 ≤ 140737488355328 then
some ((a0.1, r1, ([] : List (Int × Int × Int)) ++ a0.2.2))
else none)
@[reducible] noncomputable def iFclone_Space : FnI := { ps := [⟨(.pair (.int .i64) (.pair (.slice .u64) (.slice (.pair (.int .i64) (.pair (.int .i64) (.int .i64)))))), true, false, false⟩], rs := [⟨(.pair (.int .i64) (.pair (.slice .u64) (.slice (.pair (.int .i64) (.pair (.int .i64) (.int .i64)))))), true, true, false⟩], os := [], bk := [], F := fun x => Fclone_Space x }
noncomputable def cFclone_Space : Cx := { nm := [(1, (2, 1)), (2, (3, 1)), (7, (4, 1)), (10, (5, 1))], keep := [10], fns := tabF [(44, iFclone_Words)], loops := [], joins := [], tb := tabs, exts := [], lets := [] }
theorem eFclone_Space : (fun x : HT iFclone_Space.ps => iFclone_Space.F x) = fun x => rk Tryd.prog cFclone_Space (Tryd.f30.body.getD .skip) (HT (iFclone_Space.rs ++ iFclone_Space.os)) 1000000 (finK Tryd.prog [.cell 2 25] [] iFclone_Space.os (iFclone_Space.rs ++ iFclone_Space.os)) (initF iFclone_Space.ps x 12) (initL iFclone_Space.ps x 4) := by kernel_rfl
theorem okFclone_Space : CallsV Tryd.prog tabs 30 iFclone_Space :=
  callsV_of_rk (cx := cFclone_Space) (fn := Tryd.f30) (c := Tryd.f30.body.getD .skip) (n := 12) (N := 4) (rvs := [.cell 2 25]) (cxOk (.cons okFclone_Words TabOk.nil) XtOk.nil) Tryd.func30 rfl (by kernel_rfl) rfl rfl (by decide) (by decide) (fun x => congrFun eFclone_Space x)
noncomputable def Fpool_Take (a0 : (Int × (List (BitVec 64)) × (List (Int × Int × Int)))) (a1 : Int) (a2 : Int) : Option ((Int × (List (BitVec 64)) × (List (Int × Int × Int))) × Int × Int) :=
Option.bind (Fframe_Valid a0) (fun r1 =>
if (!r1) = true then
some (((0, [], []), 0, 1))
else if a1 < 0 then
some (((0, [], []), 0, 1))
else if a1 > 4294967295 then
some (((0, [], []), 0, 1))
else if a2 < 0 then
some (((0, [], []), 0, 1))
else if a2 ≥ 4 then
some (((0, [], []), 0, 1))
else loopO (σ := Int) (β := ((Int × (List (BitVec 64)) × (List (Int × Int × Int))) × Int × Int)) (fun s1 =>
if s1 < (a0.2.2.length : Int) then
if 0 ≤ s1 ∧ s1 < (a0.2.2.length : Int) then
if ((gl ((0, 0, 0) : (Int × Int × Int)) a0.2.2 s1.toNat).1) = a1 then
if ¬ (((gl ((0, 0, 0) : (Int × Int × Int)) a0.2.2 s1.toNat).2).1) = (w64 ((w64 (a2 * 4294967296)) + a1)) then
some (Sum.inr (((0, [], []), 0, 5)))
else some (Sum.inl (w64 (s1 + 1)))
else some (Sum.inl (w64 (s1 + 1)))
else none
else Option.map Sum.inr (Option.bind (Fpool_free a0) (fun r2 =>
if r2 = (0#64) then
some (((0, [], []), 0, 4))
else Option.bind (Fclone_Space a0) (fun r3 =>
Option.bind (Fmath_bits_TrailingZeros64 r2) (fun r4 =>
if 0 ≤ r4 ∧ r4 < (r3.2.2.length : Int) then
some (((r3.1, r3.2.1, r3.2.2.set r4.toNat (a1, w64 ((w64 (a2 * 4294967296)) + a1), (-1))), r4, 0))
else none))))) (0))
@[reducible] noncomputable def iFpool_Take : FnI := { ps := [⟨(.pair (.int .i64) (.pair (.slice .u64) (.slice (.pair (.int .i64) (.pair (.int .i64) (.int .i64)))))), true, false, false⟩, ⟨(.int .i64), false, false, false⟩, ⟨(.int .i64), false, false, false⟩], rs := [⟨(.pair (.int .i64) (.pair (.slice .u64) (.slice (.pair (.int .i64) (.pair (.int .i64) (.int .i64)))))), true, true, false⟩, ⟨(.int .i64), false, true, false⟩, ⟨(.int .i64), false, true, false⟩], os := [], bk := [], F := fun x => Fpool_Take x.1 x.2.1 x.2.2 }
noncomputable def cFpool_Take : Cx := { nm := [(3, (2, 1)), (6, (3, 1)), (11, (4, 1)), (13, (7, 1)), (64, (5, 2))], keep := [], fns := tabF [(28, iFframe_Valid), (29, iFpool_free), (30, iFclone_Space), (31, iFmath_bits_TrailingZeros64)], loops := [(0, { live := [(42, ⟨(.int .i64), false, false, false⟩)], boxes := [], rows := [], dead := [7, 8, 11, 43, 44, 45, 46, 47, 48, 49, 50, 51, 52, 53, 54, 55, 56, 57], lost := [], base := 4 })], joins := [], tb := tabs, exts := [], lets := [] }
theorem eFpool_Take : (fun x : HT iFpool_Take.ps => iFpool_Take.F x) = fun x => rk Tryd.prog cFpool_Take (Tryd.f13.body.getD .skip) (HT (iFpool_Take.rs ++ iFpool_Take.os)) 1000000 (finK Tryd.prog [.cell 6 25, .tmp 7, .tmp 8] [] iFpool_Take.os (iFpool_Take.rs ++ iFpool_Take.os)) (initF iFpool_Take.ps x 76) (initL iFpool_Take.ps x 6) := by kernel_rfl
theorem okFpool_Take : CallsV Tryd.prog tabs 13 iFpool_Take :=
  callsV_of_rk (cx := cFpool_Take) (fn := Tryd.f13) (c := Tryd.f13.body.getD .skip) (n := 76) (N := 6) (rvs := [.cell 6 25, .tmp 7, .tmp 8]) (cxOk (.cons okFframe_Valid (.cons okFpool_free (.cons okFclone_Space (.cons okFmath_bits_TrailingZeros64 TabOk.nil)))) XtOk.nil) Tryd.func13 rfl (by kernel_rfl) rfl rfl (by decide) (by decide) (fun x => congrFun eFpool_Take x)
noncomputable def Fpool_Give (a0 : (Int × (List (BitVec 64)) × (List (Int × Int × Int)))) (a1 : Int) : Option ((Int × (List (BitVec 64)) × (List (Int × Int × Int))) × Int × Int) :=
Option.bind (Fframe_Valid a0) (fun r1 =>
if (!r1) = true then
some (((0, [], []), 0, 1))
else if a1 < 0 then
some (((0, [], []), 0, 1))
else if a1 > 4294967295 then
some (((0, [], []), 0, 1))
else Option.bind (Fclone_Space a0) (fun r2 =>
loopO (σ := (Int × Int × (List (BitVec 64)) × (List (Int × Int × Int)))) (β := ((Int × (List (BitVec 64)) × (List (Int × Int × Int))) × Int × Int)) (fun s1 =>
if s1.2.1 < (a0.2.2.length : Int) then
if 0 ≤ s1.2.1 ∧ s1.2.1 < (a0.2.2.length : Int) then
if ¬ ((gl ((0, 0, 0) : (Int × Int × Int)) a0.2.2 s1.2.1.toNat).1) = a1 then
some (Sum.inl ((s1.1, w64 (s1.2.1 + 1), s1.2.2.1, s1.2.2.2)))
else if 0 ≤ s1.2.1 ∧ s1.2.1 < (s1.2.2.2.length : Int) then
if True then
loopO (σ := (Int × (List (BitVec 64)))) (β := ((Int × Int × (List (BitVec 64)) × (List (Int × Int × Int))) ⊕ ((Int × (List (BitVec 64)) × (List (Int × Int × Int))) × Int × Int))) (fun s2 =>
if True then
if s2.1 < (w64 ((w64 (s1.2.1 + 1)) * 2 ^ min (BitVec.ofInt 64 a0.1).toNat 64)) then
if 0 ≤ s2.1 ∧ s2.1 < (s2.2.length : Int) then
some (Sum.inl ((w64 (s2.1 + 1), s2.2.set s2.1.toNat (0#64))))
else none
else some (Sum.inr (Sum.inl ((w64 (s1.1 + 1), w64 (s1.2.1 + 1), s2.2, s1.2.2.2.set s1.2.1.toNat ((-1), (-1), (-1))))))
else none) ((w64 (s1.2.1 * 2 ^ min (BitVec.ofInt 64 a0.1).toNat 64), s1.2.2.1))
else none
else none
else none
else Option.map Sum.inr (if s1.1 = 0 then
some (((0, [], []), 0, 5))
else some (((r2.1, s1.2.2), s1.1, 0)))) ((0, 0, r2.2.1, r2.2.2))))
@[reducible] noncomputable def iFpool_Give : FnI := { ps := [⟨(.pair (.int .i64) (.pair (.slice .u64) (.slice (.pair (.int .i64) (.pair (.int .i64) (.int .i64)))))), true, false, false⟩, ⟨(.int .i64), false, false, false⟩], rs := [⟨(.pair (.int .i64) (.pair (.slice .u64) (.slice (.pair (.int .i64) (.pair (.int .i64) (.int .i64)))))), true, true, false⟩, ⟨(.int .i64), false, true, false⟩, ⟨(.int .i64), false, true, false⟩], os := [], bk := [], F := fun x => Fpool_Give x.1 x.2 }
noncomputable def cFpool_Give : Cx := { nm := [(2, (2, 1)), (4, (3, 1)), (7, (6, 1)), (10, (7, 1)), (25, (4, 2))], keep := [], fns := tabF [(28, iFframe_Valid), (30, iFclone_Space)], loops := [(0, { live := [(8, ⟨(.int .i64), false, false, false⟩), (29, ⟨(.int .i64), false, false, false⟩)], boxes := [], rows := [(4, .u64), (5, (.pair (.int .i64) (.pair (.int .i64) (.int .i64))))], dead := [9, 10, 11, 30, 31, 32, 33, 34, 35, 36, 37, 38, 39, 40, 41, 42, 43, 44, 45, 46, 47, 48, 49, 50, 51, 52, 53, 54, 55, 56, 57, 58, 59, 60, 61, 62, 63, 64], lost := [], base := 7 }), (2, { live := [(11, ⟨(.int .i64), false, false, false⟩)], boxes := [], rows := [(4, .u64)], dead := [50, 51, 52, 53, 54, 55, 56, 57, 58, 59, 60, 61, 62, 63], lost := [], base := 8 })], joins := [], tb := tabs, exts := [], lets := [] }
theorem eFpool_Give : (fun x : HT iFpool_Give.ps => iFpool_Give.F x) = fun x => rk Tryd.prog cFpool_Give (Tryd.f16.body.getD .skip) (HT (iFpool_Give.rs ++ iFpool_Give.os)) 1000000 (finK Tryd.prog [.cell 4 25, .tmp 5, .tmp 6] [] iFpool_Give.os (iFpool_Give.rs ++ iFpool_Give.os)) (initF iFpool_Give.ps x 70) (initL iFpool_Give.ps x 6) := by kernel_rfl
theorem okFpool_Give : CallsV Tryd.prog tabs 16 iFpool_Give :=
  callsV_of_rk (cx := cFpool_Give) (fn := Tryd.f16) (c := Tryd.f16.body.getD .skip) (n := 70) (N := 6) (rvs := [.cell 4 25, .tmp 5, .tmp 6]) (cxOk (.cons okFframe_Valid (.cons okFclone_Space TabOk.nil)) XtOk.nil) Tryd.func16 rfl (by kernel_rfl) rfl rfl (by decide) (by decide) (fun x => congrFun eFpool_Give x)
noncomputable def Fbeltwaylaw04_awake  : Option Bool :=
Option.bind (Fbeltwayref03_New 3 3) (fun r1 =>
Option.bind (Fpool_Take r1.1 5 0) (fun r2 =>
Option.bind (Fpool_Take r2.1 6 1) (fun r3 =>
Option.bind (Fpool_Give r3.1 5) (fun r4 =>
Option.bind (Fpool_Take r4.1 7 0) (fun r5 =>
if r4.2.2 = 0 then
if r5.2.2 = 0 then
if r2.2.1 = 0 then
if r3.2.1 = 1 then
if r4.2.1 = 1 then
some (decide (r5.2.1 = 0))
else some (false)
else some (false)
else some (false)
else some (false)
else some (false))))))
@[reducible] noncomputable def iFbeltwaylaw04_awake : FnI := { ps := [], rs := [⟨.bool, false, true, false⟩], os := [], bk := [], F := fun x => Fbeltwaylaw04_awake  }
noncomputable def cFbeltwaylaw04_awake : Cx := { nm := [(1, (2, 1)), (9, (11, 1)), (13, (0, 2)), (18, (3, 2)), (24, (5, 2)), (30, (7, 2)), (36, (9, 2))], keep := [], fns := tabF [(13, iFpool_Take), (16, iFpool_Give), (24, iFbeltwayref03_New)], loops := [], joins := [], tb := tabs, exts := [], lets := [] }
theorem eFbeltwaylaw04_awake : (fun x : HT iFbeltwaylaw04_awake.ps => iFbeltwaylaw04_awake.F x) = fun x => rk Tryd.prog cFbeltwaylaw04_awake (Tryd.f8.body.getD .skip) (HT (iFbeltwaylaw04_awake.rs ++ iFbeltwaylaw04_awake.os)) 1000000 (finK Tryd.prog [.tmp 0] [] iFbeltwaylaw04_awake.os (iFbeltwaylaw04_awake.rs ++ iFbeltwaylaw04_awake.os)) (initF iFbeltwaylaw04_awake.ps x 62) (initL iFbeltwaylaw04_awake.ps x 12) := by kernel_rfl
theorem okFbeltwaylaw04_awake : CallsV Tryd.prog tabs 8 iFbeltwaylaw04_awake :=
  callsV_of_rk (cx := cFbeltwaylaw04_awake) (fn := Tryd.f8) (c := Tryd.f8.body.getD .skip) (n := 62) (N := 12) (rvs := [.tmp 0]) (cxOk (.cons okFpool_Take (.cons okFpool_Give (.cons okFbeltwayref03_New TabOk.nil))) XtOk.nil) Tryd.func8 rfl (by kernel_rfl) rfl rfl (by decide) (by decide) (fun x => congrFun eFbeltwaylaw04_awake x)
noncomputable def Fbeltwayref04_Take (a0 : (Int × (List (BitVec 64)) × (List (Int × Int × Int)))) (a1 : Int) (a2 : Int) : Option ((Int × (List (BitVec 64)) × (List (Int × Int × Int))) × Int × Int) :=
Option.bind (Fbeltwayref03_Valid a0) (fun r1 =>
if (!r1) = true then
some (((0, [], []), 0, 1))
else if a1 < 0 then
some (((0, [], []), 0, 1))
else if a1 > 4294967295 then
some (((0, [], []), 0, 1))
else if a2 < 0 then
some (((0, [], []), 0, 1))
else if a2 ≥ 4 then
some (((0, [], []), 0, 1))
else loopO (σ := Int) (β := ((Int × (List (BitVec 64)) × (List (Int × Int × Int))) × Int × Int)) (fun s1 =>
if s1 < (a0.2.2.length : Int) then
if 0 ≤ s1 ∧ s1 < (a0.2.2.length : Int) then
if ((gl ((0, 0, 0) : (Int × Int × Int)) a0.2.2 s1.toNat).1) = a1 then
if ¬ (((gl ((0, 0, 0) : (Int × Int × Int)) a0.2.2 s1.toNat).2).1) = (w64 ((w64 (a2 * 4294967296)) + a1)) then
some (Sum.inr (((0, [], []), 0, 5)))
else some (Sum.inl (w64 (s1 + 1)))
else some (Sum.inl (w64 (s1 + 1)))
else none
else Option.map Sum.inr (Option.bind (Fbeltwayref03_Copy a0) (fun r2 =>
Option.bind (Fbeltwayref04_Lift r2 a1 a2) (fun r3 =>
if r3.1 < 0 then
some (((0, [], []), 0, 4))
else some (((r2.1, r3.2), r3.1, 0)))))) (0))
@[reducible] noncomputable def iFbeltwayref04_Take : FnI := { ps := [⟨(.pair (.int .i64) (.pair (.slice .u64) (.slice (.pair (.int .i64) (.pair (.int .i64) (.int .i64)))))), true, false, false⟩, ⟨(.int .i64), false, false, false⟩, ⟨(.int .i64), false, false, false⟩], rs := [⟨(.pair (.int .i64) (.pair (.slice .u64) (.slice (.pair (.int .i64) (.pair (.int .i64) (.int .i64)))))), true, true, false⟩, ⟨(.int .i64), false, true, false⟩, ⟨(.int .i64), false, true, false⟩], os := [], bk := [], F := fun x => Fbeltwayref04_Take x.1 x.2.1 x.2.2 }
noncomputable def cFbeltwayref04_Take : Cx := { nm := [(3, (2, 1)), (6, (3, 1)), (10, (4, 1)), (11, (7, 1)), (56, (5, 2))], keep := [], fns := tabF [(20, iFbeltwayref03_Valid), (27, iFbeltwayref03_Copy), (32, iFbeltwayref04_Lift)], loops := [(0, { live := [(36, ⟨(.int .i64), false, false, false⟩)], boxes := [], rows := [], dead := [7, 8, 10, 37, 38, 39, 40, 41, 42, 43, 44, 45, 46, 47, 48, 49, 50, 51, 52, 53, 54], lost := [], base := 4 })], joins := [], tb := tabs, exts := [], lets := [] }
theorem eFbeltwayref04_Take : (fun x : HT iFbeltwayref04_Take.ps => iFbeltwayref04_Take.F x) = fun x => rk Tryd.prog cFbeltwayref04_Take (Tryd.f14.body.getD .skip) (HT (iFbeltwayref04_Take.rs ++ iFbeltwayref04_Take.os)) 1000000 (finK Tryd.prog [.cell 6 25, .tmp 7, .tmp 8] [] iFbeltwayref04_Take.os (iFbeltwayref04_Take.rs ++ iFbeltwayref04_Take.os)) (initF iFbeltwayref04_Take.ps x 66) (initL iFbeltwayref04_Take.ps x 6) := by kernel_rfl
theorem okFbeltwayref04_Take : CallsV Tryd.prog tabs 14 iFbeltwayref04_Take :=
  callsV_of_rk (cx := cFbeltwayref04_Take) (fn := Tryd.f14) (c := Tryd.f14.body.getD .skip) (n := 66) (N := 6) (rvs := [.cell 6 25, .tmp 7, .tmp 8]) (cxOk (.cons okFbeltwayref03_Valid (.cons okFbeltwayref03_Copy (.cons okFbeltwayref04_Lift TabOk.nil))) XtOk.nil) Tryd.func14 rfl (by kernel_rfl) rfl rfl (by decide) (by decide) (fun x => congrFun eFbeltwayref04_Take x)
noncomputable def Fbeltwayref02_Same (a0 : (List (BitVec 64))) (a1 : (List (BitVec 64))) : Option Bool :=
if ¬ (a0.length : Int) = (a1.length : Int) then
some (false)
else loopO (σ := Int) (β := Bool) (fun s1 =>
if s1 < (a0.length : Int) then
if 0 ≤ s1 ∧ s1 < (a0.length : Int) then
if 0 ≤ s1 ∧ s1 < (a1.length : Int) then
if ¬ (gl (0#64 : (BitVec 64)) a0 s1.toNat) = (gl (0#64 : (BitVec 64)) a1 s1.toNat) then
some (Sum.inr (false))
else some (Sum.inl (w64 (s1 + 1)))
else none
else none
else some (Sum.inr (true))) (0)
@[reducible] noncomputable def iFbeltwayref02_Same : FnI := { ps := [⟨(.slice .u64), false, false, false⟩, ⟨(.slice .u64), false, false, false⟩], rs := [⟨.bool, false, true, false⟩], os := [], bk := [], F := fun x => Fbeltwayref02_Same x.1 x.2 }
noncomputable def cFbeltwayref02_Same : Cx := { nm := [], keep := [], fns := tabF [], loops := [(0, { live := [(13, ⟨(.int .i64), false, false, false⟩)], boxes := [], rows := [], dead := [4, 5, 14, 15, 16, 17, 18, 19, 20, 21, 22, 23, 24, 25], lost := [], base := 2 })], joins := [], tb := tabs, exts := [], lets := [] }
theorem eFbeltwayref02_Same : (fun x : HT iFbeltwayref02_Same.ps => iFbeltwayref02_Same.F x) = fun x => rk Tryd.prog cFbeltwayref02_Same (Tryd.f33.body.getD .skip) (HT (iFbeltwayref02_Same.rs ++ iFbeltwayref02_Same.os)) 1000000 (finK Tryd.prog [.tmp 4] [] iFbeltwayref02_Same.os (iFbeltwayref02_Same.rs ++ iFbeltwayref02_Same.os)) (initF iFbeltwayref02_Same.ps x 26) (initL iFbeltwayref02_Same.ps x 0) := by kernel_rfl
theorem okFbeltwayref02_Same : CallsV Tryd.prog tabs 33 iFbeltwayref02_Same :=
  callsV_of_rk (cx := cFbeltwayref02_Same) (fn := Tryd.f33) (c := Tryd.f33.body.getD .skip) (n := 26) (N := 0) (rvs := [.tmp 4]) (cxOk TabOk.nil XtOk.nil) Tryd.func33 rfl (by kernel_rfl) rfl rfl (by decide) (by decide) (fun x => congrFun eFbeltwayref02_Same x)
noncomputable def Fbeltwayref03_Same (a0 : (Int × (List (BitVec 64)) × (List (Int × Int × Int)))) (a1 : (Int × (List (BitVec 64)) × (List (Int × Int × Int)))) : Option Bool :=
if ¬ a0.1 = a1.1 then
some (false)
else if ¬ (a0.2.2.length : Int) = (a1.2.2.length : Int) then
some (false)
else Option.bind (Fbeltwayref02_Same a0.2.1 a1.2.1) (fun r1 =>
if (!r1) = true then
some (false)
else loopO (σ := Int) (β := Bool) (fun s1 =>
if s1 < (a0.2.2.length : Int) then
if 0 ≤ s1 ∧ s1 < (a0.2.2.length : Int) then
if 0 ≤ s1 ∧ s1 < (a1.2.2.length : Int) then
if (!(allB [decide (((gl ((0, 0, 0) : (Int × Int × Int)) a0.2.2 s1.toNat).1) = ((gl ((0, 0, 0) : (Int × Int × Int)) a1.2.2 s1.toNat).1)), decide ((((gl ((0, 0, 0) : (Int × Int × Int)) a0.2.2 s1.toNat).2).1) = (((gl ((0, 0, 0) : (Int × Int × Int)) a1.2.2 s1.toNat).2).1)), decide ((((gl ((0, 0, 0) : (Int × Int × Int)) a0.2.2 s1.toNat).2).2) = (((gl ((0, 0, 0) : (Int × Int × Int)) a1.2.2 s1.toNat).2).2))])) = true then
some (Sum.inr (false))
else some (Sum.inl (w64 (s1 + 1)))
else none
else none
else some (Sum.inr (true))) (0))
@[reducible] noncomputable def iFbeltwayref03_Same : FnI := { ps := [⟨(.pair (.int .i64) (.pair (.slice .u64) (.slice (.pair (.int .i64) (.pair (.int .i64) (.int .i64)))))), true, false, false⟩, ⟨(.pair (.int .i64) (.pair (.slice .u64) (.slice (.pair (.int .i64) (.pair (.int .i64) (.int .i64)))))), true, false, false⟩], rs := [⟨.bool, false, true, false⟩], os := [], bk := [], F := fun x => Fbeltwayref03_Same x.1 x.2 }
noncomputable def cFbeltwayref03_Same : Cx := { nm := [(2, (4, 1)), (3, (5, 1))], keep := [], fns := tabF [(33, iFbeltwayref02_Same)], loops := [(0, { live := [(31, ⟨(.int .i64), false, false, false⟩)], boxes := [], rows := [], dead := [4, 5, 32, 33, 34, 35, 36, 37, 38, 39, 40, 41, 42, 43, 44, 45], lost := [], base := 6 })], joins := [], tb := tabs, exts := [], lets := [] }
theorem eFbeltwayref03_Same : (fun x : HT iFbeltwayref03_Same.ps => iFbeltwayref03_Same.F x) = fun x => rk Tryd.prog cFbeltwayref03_Same (Tryd.f15.body.getD .skip) (HT (iFbeltwayref03_Same.rs ++ iFbeltwayref03_Same.os)) 1000000 (finK Tryd.prog [.tmp 4] [] iFbeltwayref03_Same.os (iFbeltwayref03_Same.rs ++ iFbeltwayref03_Same.os)) (initF iFbeltwayref03_Same.ps x 46) (initL iFbeltwayref03_Same.ps x 2) := by kernel_rfl
theorem okFbeltwayref03_Same : CallsV Tryd.prog tabs 15 iFbeltwayref03_Same :=
  callsV_of_rk (cx := cFbeltwayref03_Same) (fn := Tryd.f15) (c := Tryd.f15.body.getD .skip) (n := 46) (N := 2) (rvs := [.tmp 4]) (cxOk (.cons okFbeltwayref02_Same TabOk.nil) XtOk.nil) Tryd.func15 rfl (by kernel_rfl) rfl rfl (by decide) (by decide) (fun x => congrFun eFbeltwayref03_Same x)
noncomputable def Fbeltwayref04_Clear (a0 : (Int × (List (BitVec 64)) × (List (Int × Int × Int)))) (a1 : Int) : Option (Int × (List (BitVec 64)) × (List (Int × Int × Int))) :=
loopO (σ := (Int × Int × (List (BitVec 64)) × (List (Int × Int × Int)))) (β := (Int × (List (BitVec 64)) × (List (Int × Int × Int)))) (fun s1 =>
if s1.2.1 < (a0.2.2.length : Int) then
if 0 ≤ s1.2.1 ∧ s1.2.1 < (s1.2.2.2.length : Int) then
if ¬ ((gl ((0, 0, 0) : (Int × Int × Int)) s1.2.2.2 s1.2.1.toNat).1) = a1 then
some (Sum.inl ((s1.1, w64 (s1.2.1 + 1), s1.2.2.1, s1.2.2.2)))
else if 0 ≤ s1.2.1 ∧ s1.2.1 < (s1.2.2.2.length : Int) then
if True then
loopO (σ := (Int × (List (BitVec 64)))) (β := ((Int × Int × (List (BitVec 64)) × (List (Int × Int × Int))) ⊕ (Int × (List (BitVec 64)) × (List (Int × Int × Int))))) (fun s2 =>
if True then
if s2.1 < (w64 ((w64 (s1.2.1 + 1)) * 2 ^ min (BitVec.ofInt 64 a0.1).toNat 64)) then
if 0 ≤ s2.1 ∧ s2.1 < (s2.2.length : Int) then
some (Sum.inl ((w64 (s2.1 + 1), s2.2.set s2.1.toNat (0#64))))
else none
else some (Sum.inr (Sum.inl ((w64 (s1.1 + 1), w64 (s1.2.1 + 1), s2.2, s1.2.2.2.set s1.2.1.toNat ((-1), (-1), (-1))))))
else none) ((w64 (s1.2.1 * 2 ^ min (BitVec.ofInt 64 a0.1).toNat 64), s1.2.2.1))
else none
else none
else none
else some (Sum.inr ((s1.1, s1.2.2.1, s1.2.2.2)))) ((0, 0, a0.2.1, a0.2.2))
@[reducible] noncomputable def iFbeltwayref04_Clear : FnI := { ps := [⟨(.pair (.int .i64) (.pair (.slice .u64) (.slice (.pair (.int .i64) (.pair (.int .i64) (.int .i64)))))), true, true, false⟩, ⟨(.int .i64), false, false, false⟩], rs := [⟨(.int .i64), false, true, false⟩], os := [⟨(.slice .u64), false, true, false⟩, ⟨(.slice (.pair (.int .i64) (.pair (.int .i64) (.int .i64)))), false, true, false⟩], bk := [0, 1], F := fun x => Fbeltwayref04_Clear x.1 x.2 }
noncomputable def cFbeltwayref04_Clear : Cx := { nm := [(2, (2, 1)), (7, (3, 1))], keep := [], fns := tabF [], loops := [(0, { live := [(5, ⟨(.int .i64), false, false, false⟩), (12, ⟨(.int .i64), false, false, false⟩)], boxes := [], rows := [(0, .u64), (1, (.pair (.int .i64) (.pair (.int .i64) (.int .i64))))], dead := [6, 7, 8, 13, 14, 15, 16, 17, 18, 19, 20, 21, 22, 23, 24, 25, 26, 27, 28, 29, 30, 31, 32, 33, 34, 35, 36, 37, 38, 39, 40, 41, 42, 43, 44, 45, 46, 47], lost := [], base := 3 }), (2, { live := [(8, ⟨(.int .i64), false, false, false⟩)], boxes := [], rows := [(0, .u64)], dead := [33, 34, 35, 36, 37, 38, 39, 40, 41, 42, 43, 44, 45, 46], lost := [], base := 4 })], joins := [], tb := tabs, exts := [], lets := [] }
theorem eFbeltwayref04_Clear : (fun x : HT iFbeltwayref04_Clear.ps => iFbeltwayref04_Clear.F x) = fun x => rk Tryd.prog cFbeltwayref04_Clear (Tryd.f34.body.getD .skip) (HT (iFbeltwayref04_Clear.rs ++ iFbeltwayref04_Clear.os)) 1000000 (finK Tryd.prog [.tmp 4] [0, 1] iFbeltwayref04_Clear.os (iFbeltwayref04_Clear.rs ++ iFbeltwayref04_Clear.os)) (initF iFbeltwayref04_Clear.ps x 49) (initL iFbeltwayref04_Clear.ps x 2) := by kernel_rfl
theorem okFbeltwayref04_Clear : CallsV Tryd.prog tabs 34 iFbeltwayref04_Clear :=
  callsV_of_rk (cx := cFbeltwayref04_Clear) (fn := Tryd.f34) (c := Tryd.f34.body.getD .skip) (n := 49) (N := 2) (rvs := [.tmp 4]) (cxOk TabOk.nil XtOk.nil) Tryd.func34 rfl (by kernel_rfl) rfl rfl (by decide) (by decide) (fun x => congrFun eFbeltwayref04_Clear x)
noncomputable def Fbeltwayref04_Give (a0 : (Int × (List (BitVec 64)) × (List (Int × Int × Int)))) (a1 : Int) : Option ((Int × (List (BitVec 64)) × (List (Int × Int × Int))) × Int × Int) :=
Option.bind (Fbeltwayref03_Valid a0) (fun r1 =>
if (!r1) = true then
some (((0, [], []), 0, 1))
else if a1 < 0 then
some (((0, [], []), 0, 1))
else if a1 > 4294967295 then
some (((0, [], []), 0, 1))
else Option.bind (Fbeltwayref03_Copy a0) (fun r2 =>
Option.bind (Fbeltwayref04_Clear r2 a1) (fun r3 =>
if r3.1 = 0 then
some (((0, [], []), 0, 5))
else some (((r2.1, r3.2), r3.1, 0)))))
@[reducible] noncomputable def iFbeltwayref04_Give : FnI := { ps := [⟨(.pair (.int .i64) (.pair (.slice .u64) (.slice (.pair (.int .i64) (.pair (.int .i64) (.int .i64)))))), true, false, false⟩, ⟨(.int .i64), false, false, false⟩], rs := [⟨(.pair (.int .i64) (.pair (.slice .u64) (.slice (.pair (.int .i64) (.pair (.int .i64) (.int .i64)))))), true, true, false⟩, ⟨(.int .i64), false, true, false⟩, ⟨(.int .i64), false, true, false⟩], os := [], bk := [], F := fun x => Fbeltwayref04_Give x.1 x.2 }
noncomputable def cFbeltwayref04_Give : Cx := { nm := [(2, (2, 1)), (4, (3, 1)), (7, (6, 1)), (22, (4, 2))], keep := [], fns := tabF [(20, iFbeltwayref03_Valid), (27, iFbeltwayref03_Copy), (34, iFbeltwayref04_Clear)], loops := [], joins := [], tb := tabs, exts := [], lets := [] }
theorem eFbeltwayref04_Give : (fun x : HT iFbeltwayref04_Give.ps => iFbeltwayref04_Give.F x) = fun x => rk Tryd.prog cFbeltwayref04_Give (Tryd.f17.body.getD .skip) (HT (iFbeltwayref04_Give.rs ++ iFbeltwayref04_Give.os)) 1000000 (finK Tryd.prog [.cell 4 25, .tmp 5, .tmp 6] [] iFbeltwayref04_Give.os (iFbeltwayref04_Give.rs ++ iFbeltwayref04_Give.os)) (initF iFbeltwayref04_Give.ps x 31) (initL iFbeltwayref04_Give.ps x 5) := by kernel_rfl
theorem okFbeltwayref04_Give : CallsV Tryd.prog tabs 17 iFbeltwayref04_Give :=
  callsV_of_rk (cx := cFbeltwayref04_Give) (fn := Tryd.f17) (c := Tryd.f17.body.getD .skip) (n := 31) (N := 5) (rvs := [.cell 4 25, .tmp 5, .tmp 6]) (cxOk (.cons okFbeltwayref03_Valid (.cons okFbeltwayref03_Copy (.cons okFbeltwayref04_Clear TabOk.nil))) XtOk.nil) Tryd.func17 rfl (by kernel_rfl) rfl rfl (by decide) (by decide) (fun x => congrFun eFbeltwayref04_Give x)
noncomputable def Fbeltwaylaw04_PoolTakes (a0 : (Int × (List (BitVec 64)) × (List (Int × Int × Int)))) (a1 : (List Int)) (a2 : Int) (a3 : Int) (a4 : Int) (a5 : Int) (a6 : Int) : Option Bool :=
Option.bind (Fbeltwaymake_Small a0) (fun r1 =>
if (!r1) = true then
Option.bind (Fbeltwaylaw04_awake) (fun r2 =>
some (r2))
else Option.bind (Fbeltwaymake_New a1) (fun r3 =>
Option.bind (Fbeltwaymake_Space r3) (fun r4 =>
Option.bind (Fbeltwaymake_Spoilt r4.1 a4 a5 a6) (fun r5 =>
loopO (σ := Int) (β := Bool) (fun s1 =>
if s1 < (([r4.1, a0, r5] : List (Int × (List (BitVec 64)) × (List (Int × Int × Int)))).length : Int) then
if 0 ≤ s1 ∧ s1 < (([r4.1, a0, r5] : List (Int × (List (BitVec 64)) × (List (Int × Int × Int)))).length : Int) then
Option.bind (Fbeltwaymake_Mod a2 16) (fun r6 =>
Option.bind (Fbeltwaymake_Mod a3 3) (fun r7 =>
Option.bind (Fbeltwaymake_Mod a2 2) (fun r8 =>
Option.bind (Fbeltwaymake_Mod a3 6) (fun r9 =>
loopO (σ := Int) (β := (Int ⊕ Bool)) (fun s2 =>
if s2 < (([([a2, a3] : List Int), ([r6, r7] : List Int), ([w64 ((4294967295 : Int) + r8), w64 (r9 - 1)] : List Int)] : List (List Int)).length : Int) then
if 0 ≤ s2 ∧ s2 < (([([a2, a3] : List Int), ([r6, r7] : List Int), ([w64 ((4294967295 : Int) + r8), w64 (r9 - 1)] : List Int)] : List (List Int)).length : Int) then
if 0 ≤ (0 : Int) ∧ (0 : Int) < ((gl ([] : (List Int)) ([([a2, a3] : List Int), ([r6, r7] : List Int), ([w64 ((4294967295 : Int) + r8), w64 (r9 - 1)] : List Int)] : List (List Int)) s2.toNat).length : Int) then
if 0 ≤ (1 : Int) ∧ (1 : Int) < ((gl ([] : (List Int)) ([([a2, a3] : List Int), ([r6, r7] : List Int), ([w64 ((4294967295 : Int) + r8), w64 (r9 - 1)] : List Int)] : List (List Int)) s2.toNat).length : Int) then
Option.bind (Fpool_Take ((gl ((0, [], []) : (Int × (List (BitVec 64)) × (List (Int × Int × Int)))) ([r4.1, a0, r5] : List (Int × (List (BitVec 64)) × (List (Int × Int × Int)))) s1.toNat).1, ((gl ((0, [], []) : (Int × (List (BitVec 64)) × (List (Int × Int × Int)))) ([r4.1, a0, r5] : List (Int × (List (BitVec 64)) × (List (Int × Int × Int)))) s1.toNat).2)) (gl (0 : Int) (gl ([] : (List Int)) ([([a2, a3] : List Int), ([r6, r7] : List Int), ([w64 ((4294967295 : Int) + r8), w64 (r9 - 1)] : List Int)] : List (List Int)) s2.toNat) ((0 : Int).toNat)) (gl (0 : Int) (gl ([] : (List Int)) ([([a2, a3] : List Int), ([r6, r7] : List Int), ([w64 ((4294967295 : Int) + r8), w64 (r9 - 1)] : List Int)] : List (List Int)) s2.toNat) ((1 : Int).toNat))) (fun r10 =>
if 0 ≤ (0 : Int) ∧ (0 : Int) < ((gl ([] : (List Int)) ([([a2, a3] : List Int), ([r6, r7] : List Int), ([w64 ((4294967295 : Int) + r8), w64 (r9 - 1)] : List Int)] : List (List Int)) s2.toNat).length : Int) then
if 0 ≤ (1 : Int) ∧ (1 : Int) < ((gl ([] : (List Int)) ([([a2, a3] : List Int), ([r6, r7] : List Int), ([w64 ((4294967295 : Int) + r8), w64 (r9 - 1)] : List Int)] : List (List Int)) s2.toNat).length : Int) then
Option.bind (Fbeltwayref04_Take ((gl ((0, [], []) : (Int × (List (BitVec 64)) × (List (Int × Int × Int)))) ([r4.1, a0, r5] : List (Int × (List (BitVec 64)) × (List (Int × Int × Int)))) s1.toNat).1, ((gl ((0, [], []) : (Int × (List (BitVec 64)) × (List (Int × Int × Int)))) ([r4.1, a0, r5] : List (Int × (List (BitVec 64)) × (List (Int × Int × Int)))) s1.toNat).2)) (gl (0 : Int) (gl ([] : (List Int)) ([([a2, a3] : List Int), ([r6, r7] : List Int), ([w64 ((4294967295 : Int) + r8), w64 (r9 - 1)] : List Int)] : List (List Int)) s2.toNat) ((0 : Int).toNat)) (gl (0 : Int) (gl ([] : (List Int)) ([([a2, a3] : List Int), ([r6, r7] : List Int), ([w64 ((4294967295 : Int) + r8), w64 (r9 - 1)] : List Int)] : List (List Int)) s2.toNat) ((1 : Int).toNat))) (fun r11 =>
if ¬ r10.2.1 = r11.2.1 then
some (Sum.inr (Sum.inr (false)))
else if ¬ r10.2.2 = r11.2.2 then
some (Sum.inr (Sum.inr (false)))
else Option.bind (Fbeltwayref03_Same r10.1 r11.1) (fun r12 =>
if (!r12) = true then
some (Sum.inr (Sum.inr (false)))
else if 0 ≤ (0 : Int) ∧ (0 : Int) < ((gl ([] : (List Int)) ([([a2, a3] : List Int), ([r6, r7] : List Int), ([w64 ((4294967295 : Int) + r8), w64 (r9 - 1)] : List Int)] : List (List Int)) s2.toNat).length : Int) then
Option.bind (Fpool_Give ((gl ((0, [], []) : (Int × (List (BitVec 64)) × (List (Int × Int × Int)))) ([r4.1, a0, r5] : List (Int × (List (BitVec 64)) × (List (Int × Int × Int)))) s1.toNat).1, ((gl ((0, [], []) : (Int × (List (BitVec 64)) × (List (Int × Int × Int)))) ([r4.1, a0, r5] : List (Int × (List (BitVec 64)) × (List (Int × Int × Int)))) s1.toNat).2)) (gl (0 : Int) (gl ([] : (List Int)) ([([a2, a3] : List Int), ([r6, r7] : List Int), ([w64 ((4294967295 : Int) + r8), w64 (r9 - 1)] : List Int)] : List (List Int)) s2.toNat) ((0 : Int).toNat))) (fun r13 =>
if 0 ≤ (0 : Int) ∧ (0 : Int) < ((gl ([] : (List Int)) ([([a2, a3] : List Int), ([r6, r7] : List Int), ([w64 ((4294967295 : Int) + r8), w64 (r9 - 1)] : List Int)] : List (List Int)) s2.toNat).length : Int) then
Option.bind (Fbeltwayref04_Give ((gl ((0, [], []) : (Int × (List (BitVec 64)) × (List (Int × Int × Int)))) ([r4.1, a0, r5] : List (Int × (List (BitVec 64)) × (List (Int × Int × Int)))) s1.toNat).1, ((gl ((0, [], []) : (Int × (List (BitVec 64)) × (List (Int × Int × Int)))) ([r4.1, a0, r5] : List (Int × (List (BitVec 64)) × (List (Int × Int × Int)))) s1.toNat).2)) (gl (0 : Int) (gl ([] : (List Int)) ([([a2, a3] : List Int), ([r6, r7] : List Int), ([w64 ((4294967295 : Int) + r8), w64 (r9 - 1)] : List Int)] : List (List Int)) s2.toNat) ((0 : Int).toNat))) (fun r14 =>
if ¬ r13.2.1 = r14.2.1 then
some (Sum.inr (Sum.inr (false)))
else if ¬ r13.2.2 = r14.2.2 then
some (Sum.inr (Sum.inr (false)))
else Option.bind (Fbeltwayref03_Same r13.1 r14.1) (fun r15 =>
if (!r15) = true then
some (Sum.inr (Sum.inr (false)))
else some (Sum.inl (w64 (s2 + 1)))))
else none)
else none))
else none
else none)
else none
else none
else none
else some (Sum.inr (Sum.inl (w64 (s1 + 1))))) (0)))))
else none
else Option.map Sum.inr (Option.bind (Fbeltwaylaw04_awake) (fun r16 =>
some (r16)))) (0)))))
@[reducible] noncomputable def iFbeltwaylaw04_PoolTakes : FnI := { ps := [⟨(.pair (.int .i64) (.pair (.slice .u64) (.slice (.pair (.int .i64) (.pair (.int .i64) (.int .i64)))))), true, false, false⟩, ⟨(.slice (.int .i64)), false, false, false⟩, ⟨(.int .i64), false, false, false⟩, ⟨(.int .i64), false, false, false⟩, ⟨(.int .i64), false, false, false⟩, ⟨(.int .i64), false, false, false⟩, ⟨(.int .i64), false, false, false⟩], rs := [⟨.bool, false, true, false⟩], os := [], bk := [], F := fun x => Fbeltwaylaw04_PoolTakes x.1 x.2.1 x.2.2.1 x.2.2.2.1 x.2.2.2.2.1 x.2.2.2.2.2.1 x.2.2.2.2.2.2 }
noncomputable def cFbeltwaylaw04_PoolTakes : Cx := { nm := [(7, (3, 1)), (15, (10, 1)), (18, (16, 1)), (21, (24, 1)), (24, (27, 1)), (33, (4, 2)), (34, (6, 4)), (43, (11, 2)), (44, (13, 1)), (49, (14, 2)), (52, (17, 1)), (57, (18, 1)), (64, (19, 1)), (65, (20, 1)), (70, (21, 1)), (79, (22, 2)), (91, (25, 2)), (114, (28, 2)), (123, (30, 2))], keep := [], fns := tabF [(7, iFbeltwaymake_Small), (8, iFbeltwaylaw04_awake), (9, iFbeltwaymake_Space), (10, iFbeltwaymake_New), (11, iFbeltwaymake_Spoilt), (12, iFbeltwaymake_Mod), (13, iFpool_Take), (14, iFbeltwayref04_Take), (15, iFbeltwayref03_Same), (16, iFpool_Give), (17, iFbeltwayref04_Give)], loops := [(0, { live := [(46, ⟨(.int .i64), false, false, false⟩)], boxes := [], rows := [], dead := [14, 18, 20, 21, 22, 23, 24, 25, 26, 47, 48, 49, 50, 51, 52, 53, 54, 55, 56, 57, 58, 59, 60, 61, 62, 63, 64, 65, 66, 67, 68, 69, 70, 71, 72, 73, 74, 75, 76, 77, 78, 79, 80, 81, 82, 83, 84, 85, 86, 87, 88, 89, 90, 91, 92, 93, 94, 95, 96, 97, 98, 99, 100, 101, 102, 103, 104, 105, 106, 107, 108, 109, 110, 111, 112, 113, 114, 115, 116, 117, 118, 119, 120, 121, 122, 123, 124, 125, 126, 127, 128, 129, 130, 131, 132, 133, 134, 135, 136, 137, 138, 139, 140, 141, 142], lost := [], base := 14 }), (2, { live := [(67, ⟨(.int .i64), false, false, false⟩)], boxes := [], rows := [], dead := [14, 20, 21, 22, 23, 24, 25, 26, 68, 69, 70, 71, 72, 73, 74, 75, 76, 77, 78, 79, 80, 81, 82, 83, 84, 85, 86, 87, 88, 89, 90, 91, 92, 93, 94, 95, 96, 97, 98, 99, 100, 101, 102, 103, 104, 105, 106, 107, 108, 109, 110, 111, 112, 113, 114, 115, 116, 117, 118, 119, 120, 121, 122, 123, 124, 125, 126, 127, 128, 129, 130, 131, 132, 133, 134, 135, 136, 137, 138, 139, 140, 141], lost := [], base := 21 })], joins := [], tb := tabs, exts := [], lets := [] }
theorem eFbeltwaylaw04_PoolTakes : (fun x : HT iFbeltwaylaw04_PoolTakes.ps => iFbeltwaylaw04_PoolTakes.F x) = fun x => rk Tryd.prog cFbeltwaylaw04_PoolTakes (Tryd.f3.body.getD .skip) (HT (iFbeltwaylaw04_PoolTakes.rs ++ iFbeltwaylaw04_PoolTakes.os)) 1000000 (finK Tryd.prog [.tmp 14] [] iFbeltwaylaw04_PoolTakes.os (iFbeltwaylaw04_PoolTakes.rs ++ iFbeltwaylaw04_PoolTakes.os)) (initF iFbeltwaylaw04_PoolTakes.ps x 144) (initL iFbeltwaylaw04_PoolTakes.ps x 29) := by kernel_rfl
theorem okFbeltwaylaw04_PoolTakes : CallsV Tryd.prog tabs 3 iFbeltwaylaw04_PoolTakes :=
  callsV_of_rk (cx := cFbeltwaylaw04_PoolTakes) (fn := Tryd.f3) (c := Tryd.f3.body.getD .skip) (n := 144) (N := 29) (rvs := [.tmp 14]) (cxOk (.cons okFbeltwaymake_Small (.cons okFbeltwaylaw04_awake (.cons okFbeltwaymake_Space (.cons okFbeltwaymake_New (.cons okFbeltwaymake_Spoilt (.cons okFbeltwaymake_Mod (.cons okFpool_Take (.cons okFbeltwayref04_Take (.cons okFbeltwayref03_Same (.cons okFpool_Give (.cons okFbeltwayref04_Give TabOk.nil))))))))))) XtOk.nil) Tryd.func3 rfl (by kernel_rfl) rfl rfl (by decide) (by decide) (fun x => congrFun eFbeltwaylaw04_PoolTakes x)
noncomputable def Fpool_Free (a0 : (Int × (List (BitVec 64)) × (List (Int × Int × Int)))) : Option (List Int) :=
Option.bind (Fpool_free a0) (fun r1 =>
loopO (σ := ((List Int) × (BitVec 64))) (β := (List Int)) (fun s1 =>
if ¬ s1.2 = (0#64) then
Option.bind (Fmath_bits_TrailingZeros64 s1.2) (fun r2 =>
if (s1.1.length + ([r2] : List Int).length) * 8 ≤ 140737488355328 then
some (Sum.inl ((s1.1 ++ ([r2] : List Int), s1.2 &&& (s1.2 - (1#64)))))
else none)
else some (Sum.inr (s1.1))) (([], r1)))
@[reducible] noncomputable def iFpool_Free : FnI := { ps := [⟨(.pair (.int .i64) (.pair (.slice .u64) (.slice (.pair (.int .i64) (.pair (.int .i64) (.int .i64)))))), true, false, false⟩], rs := [⟨(.slice (.int .i64)), false, true, false⟩], os := [], bk := [], F := fun x => Fpool_Free x }
noncomputable def cFpool_Free : Cx := { nm := [(1, (2, 1)), (16, (4, 1)), (17, (5, 1))], keep := [17], fns := tabF [(29, iFpool_free), (31, iFmath_bits_TrailingZeros64)], loops := [(0, { live := [(3, ⟨(.slice (.int .i64)), false, true, false⟩), (4, ⟨.u64, false, false, false⟩)], boxes := [], rows := [], dead := [7, 8, 9, 10, 11, 12, 13, 14, 15, 16, 17], lost := [], base := 3 })], joins := [], tb := tabs, exts := [], lets := [] }
theorem eFpool_Free : (fun x : HT iFpool_Free.ps => iFpool_Free.F x) = fun x => rk Tryd.prog cFpool_Free (Tryd.f18.body.getD .skip) (HT (iFpool_Free.rs ++ iFpool_Free.os)) 1000000 (finK Tryd.prog [.tmp 2] [] iFpool_Free.os (iFpool_Free.rs ++ iFpool_Free.os)) (initF iFpool_Free.ps x 19) (initL iFpool_Free.ps x 4) := by kernel_rfl
theorem okFpool_Free : CallsV Tryd.prog tabs 18 iFpool_Free :=
  callsV_of_rk (cx := cFpool_Free) (fn := Tryd.f18) (c := Tryd.f18.body.getD .skip) (n := 19) (N := 4) (rvs := [.tmp 2]) (cxOk (.cons okFpool_free (.cons okFmath_bits_TrailingZeros64 TabOk.nil)) XtOk.nil) Tryd.func18 rfl (by kernel_rfl) rfl rfl (by decide) (by decide) (fun x => congrFun eFpool_Free x)
noncomputable def Fbeltwaylaw04_PoolOrder (a0 : (List Int)) (a1 : (List Int)) : Option Bool :=
Option.bind (Fbeltwaymake_New a0) (fun r1 =>
Option.bind (Fbeltwaymake_Space r1) (fun r2 =>
Option.bind (Fpool_Free r2.1) (fun r3 =>
loopO (σ := (Int × (Int × (List (BitVec 64)) × (List (Int × Int × Int))))) (β := Bool) (fun s1 =>
if s1.1 < (r3.length : Int) then
if 0 ≤ s1.1 ∧ s1.1 < (r3.length : Int) then
if (a1.length : Int) > 0 then
if ¬ (a1.length : Int) = 0 then
if 0 ≤ (Int.tmod s1.1 (a1.length : Int)) ∧ (Int.tmod s1.1 (a1.length : Int)) < (a1.length : Int) then
Option.bind (Fbeltwaymake_Mod (gl (0 : Int) a1 ((Int.tmod s1.1 (a1.length : Int)).toNat)) 3) (fun r4 =>
Option.bind (Fpool_Take s1.2 (w64 ((200 : Int) + r4)) 1) (fun r5 =>
if ¬ r5.2.2 = 0 then
some (Sum.inr (false))
else if ¬ (gl (0 : Int) r3 s1.1.toNat) = r5.2.1 then
some (Sum.inr (false))
else some (Sum.inl ((w64 (s1.1 + 1), r5.1)))))
else none
else none
else Option.bind (Fpool_Take s1.2 (w64 ((200 : Int) + s1.1)) 1) (fun r6 =>
if ¬ r6.2.2 = 0 then
some (Sum.inr (false))
else if ¬ (gl (0 : Int) r3 s1.1.toNat) = r6.2.1 then
some (Sum.inr (false))
else some (Sum.inl ((w64 (s1.1 + 1), r6.1))))
else none
else Option.map Sum.inr (Option.bind (Fpool_Take s1.2 900 0) (fun r7 =>
if r7.2.2 = 4 then
Option.bind (Fpool_Free s1.2) (fun r8 =>
if (r8.length : Int) = 0 then
Option.bind (Fbeltwaylaw04_awake) (fun r9 =>
some (r9))
else some (false))
else some (false)))) ((0, r2.1)))))
@[reducible] noncomputable def iFbeltwaylaw04_PoolOrder : FnI := { ps := [⟨(.slice (.int .i64)), false, false, false⟩, ⟨(.slice (.int .i64)), false, false, false⟩], rs := [⟨.bool, false, true, false⟩], os := [], bk := [], F := fun x => Fbeltwaylaw04_PoolOrder x.1 x.2 }
noncomputable def cFbeltwaylaw04_PoolOrder : Cx := { nm := [(5, (8, 1)), (11, (12, 1)), (14, (17, 1)), (19, (2, 2)), (20, (4, 4)), (24, (9, 1)), (49, (10, 2)), (64, (15, 2)), (72, (18, 1))], keep := [], fns := tabF [(8, iFbeltwaylaw04_awake), (9, iFbeltwaymake_Space), (10, iFbeltwaymake_New), (12, iFbeltwaymake_Mod), (13, iFpool_Take), (18, iFpool_Free)], loops := [(0, { live := [(27, ⟨(.int .i64), false, false, false⟩)], boxes := [(8, ⟨(.pair (.int .i64) (.pair (.slice .u64) (.slice (.pair (.int .i64) (.pair (.int .i64) (.int .i64)))))), true, false, false⟩)], rows := [], dead := [4, 8, 9, 10, 11, 12, 13, 28, 29, 30, 31, 32, 33, 34, 35, 36, 37, 38, 39, 40, 41, 42, 43, 44, 45, 46, 47, 48, 49, 50, 51, 52, 53, 54, 55, 56, 57, 58, 59, 60, 61], lost := [], base := 13 })], joins := [], tb := tabs, exts := [], lets := [] }
theorem eFbeltwaylaw04_PoolOrder : (fun x : HT iFbeltwaylaw04_PoolOrder.ps => iFbeltwaylaw04_PoolOrder.F x) = fun x => rk Tryd.prog cFbeltwaylaw04_PoolOrder (Tryd.f4.body.getD .skip) (HT (iFbeltwaylaw04_PoolOrder.rs ++ iFbeltwaylaw04_PoolOrder.os)) 1000000 (finK Tryd.prog [.tmp 4] [] iFbeltwaylaw04_PoolOrder.os (iFbeltwaylaw04_PoolOrder.rs ++ iFbeltwaylaw04_PoolOrder.os)) (initF iFbeltwaylaw04_PoolOrder.ps x 79) (initL iFbeltwaylaw04_PoolOrder.ps x 17) := by kernel_rfl
theorem okFbeltwaylaw04_PoolOrder : CallsV Tryd.prog tabs 4 iFbeltwaylaw04_PoolOrder :=
  callsV_of_rk (cx := cFbeltwaylaw04_PoolOrder) (fn := Tryd.f4) (c := Tryd.f4.body.getD .skip) (n := 79) (N := 17) (rvs := [.tmp 4]) (cxOk (.cons okFbeltwaylaw04_awake (.cons okFbeltwaymake_Space (.cons okFbeltwaymake_New (.cons okFbeltwaymake_Mod (.cons okFpool_Take (.cons okFpool_Free TabOk.nil)))))) XtOk.nil) Tryd.func4 rfl (by kernel_rfl) rfl rfl (by decide) (by decide) (fun x => congrFun eFbeltwaylaw04_PoolOrder x)
noncomputable def Fpool_Used (a0 : (Int × (List (BitVec 64)) × (List (Int × Int × Int)))) : Option Int :=
Option.bind (Fpool_free a0) (fun r1 =>
Option.bind (Fmath_bits_OnesCount64 r1) (fun r2 =>
some (w64 ((a0.2.2.length : Int) - r2))))
@[reducible] noncomputable def iFpool_Used : FnI := { ps := [⟨(.pair (.int .i64) (.pair (.slice .u64) (.slice (.pair (.int .i64) (.pair (.int .i64) (.int .i64)))))), true, false, false⟩], rs := [⟨(.int .i64), false, true, false⟩], os := [], bk := [], F := fun x => Fpool_Used x }
noncomputable def cFpool_Used : Cx := { nm := [(1, (2, 1))], keep := [], fns := tabF [(29, iFpool_free), (37, iFmath_bits_OnesCount64)], loops := [], joins := [], tb := tabs, exts := [], lets := [] }
theorem eFpool_Used : (fun x : HT iFpool_Used.ps => iFpool_Used.F x) = fun x => rk Tryd.prog cFpool_Used (Tryd.f21.body.getD .skip) (HT (iFpool_Used.rs ++ iFpool_Used.os)) 1000000 (finK Tryd.prog [.tmp 2] [] iFpool_Used.os (iFpool_Used.rs ++ iFpool_Used.os)) (initF iFpool_Used.ps x 10) (initL iFpool_Used.ps x 1) := by kernel_rfl
theorem okFpool_Used : CallsV Tryd.prog tabs 21 iFpool_Used :=
  callsV_of_rk (cx := cFpool_Used) (fn := Tryd.f21) (c := Tryd.f21.body.getD .skip) (n := 10) (N := 1) (rvs := [.tmp 2]) (cxOk (.cons okFpool_free (.cons okFmath_bits_OnesCount64 TabOk.nil)) XtOk.nil) Tryd.func21 rfl (by kernel_rfl) rfl rfl (by decide) (by decide) (fun x => congrFun eFpool_Used x)
noncomputable def Fbeltwaylaw04_PoolBack (a0 : (List Int)) (a1 : Int) (a2 : Int) : Option Bool :=
Option.bind (Fbeltwaymake_New a0) (fun r1 =>
Option.bind (Fbeltwaymake_Space r1) (fun r2 =>
Option.bind (Fbeltwayref04_Free r2.1) (fun r3 =>
Option.bind (Fbeltwaymake_Mod a1 1000) (fun r4 =>
Option.bind (Fbeltwaymake_Mod a2 4) (fun r5 =>
Option.bind (Fpool_Take r2.1 (w64 ((100 : Int) + r4)) r5) (fun r6 =>
if (r3.length : Int) = 0 then
if r6.2.2 = 4 then
Option.bind (Fbeltwaylaw04_awake) (fun r7 =>
some (r7))
else some (false)
else if ¬ r6.2.2 = 0 then
some (false)
else if 0 ≤ (0 : Int) ∧ (0 : Int) < (r3.length : Int) then
if ¬ r6.2.1 = (gl (0 : Int) r3 ((0 : Int).toNat)) then
some (false)
else Option.bind (Fbeltwayref03_Valid r6.1) (fun r8 =>
if (!r8) = true then
some (false)
else Option.bind (Fpool_Used r6.1) (fun r9 =>
Option.bind (Fpool_Used r2.1) (fun r10 =>
if ¬ r9 = (w64 (r10 + 1)) then
some (false)
else Option.bind (Fpool_Give r6.1 (w64 ((100 : Int) + r4))) (fun r11 =>
if r11.2.2 = 0 then
if r11.2.1 = 1 then
Option.bind (Fbeltwayref03_Same r11.1 r2.1) (fun r12 =>
some (r12))
else some (false)
else some (false)))))
else none))))))
@[reducible] noncomputable def iFbeltwaylaw04_PoolBack : FnI := { ps := [⟨(.slice (.int .i64)), false, false, false⟩, ⟨(.int .i64), false, false, false⟩, ⟨(.int .i64), false, false, false⟩], rs := [⟨.bool, false, true, false⟩], os := [], bk := [], F := fun x => Fbeltwaylaw04_PoolBack x.1 x.2.1 x.2.2 }
noncomputable def cFbeltwaylaw04_PoolBack : Cx := { nm := [(7, (7, 1)), (11, (11, 1)), (14, (14, 1)), (18, (1, 2)), (19, (3, 4)), (23, (8, 1)), (32, (9, 2)), (69, (12, 2))], keep := [], fns := tabF [(8, iFbeltwaylaw04_awake), (9, iFbeltwaymake_Space), (10, iFbeltwaymake_New), (12, iFbeltwaymake_Mod), (13, iFpool_Take), (15, iFbeltwayref03_Same), (16, iFpool_Give), (19, iFbeltwayref04_Free), (20, iFbeltwayref03_Valid), (21, iFpool_Used)], loops := [], joins := [], tb := tabs, exts := [], lets := [] }
theorem eFbeltwaylaw04_PoolBack : (fun x : HT iFbeltwaylaw04_PoolBack.ps => iFbeltwaylaw04_PoolBack.F x) = fun x => rk Tryd.prog cFbeltwaylaw04_PoolBack (Tryd.f5.body.getD .skip) (HT (iFbeltwaylaw04_PoolBack.rs ++ iFbeltwaylaw04_PoolBack.os)) 1000000 (finK Tryd.prog [.tmp 6] [] iFbeltwaylaw04_PoolBack.os (iFbeltwaylaw04_PoolBack.rs ++ iFbeltwaylaw04_PoolBack.os)) (initF iFbeltwaylaw04_PoolBack.ps x 84) (initL iFbeltwaylaw04_PoolBack.ps x 14) := by kernel_rfl
theorem okFbeltwaylaw04_PoolBack : CallsV Tryd.prog tabs 5 iFbeltwaylaw04_PoolBack :=
  callsV_of_rk (cx := cFbeltwaylaw04_PoolBack) (fn := Tryd.f5) (c := Tryd.f5.body.getD .skip) (n := 84) (N := 14) (rvs := [.tmp 6]) (cxOk (.cons okFbeltwaylaw04_awake (.cons okFbeltwaymake_Space (.cons okFbeltwaymake_New (.cons okFbeltwaymake_Mod (.cons okFpool_Take (.cons okFbeltwayref03_Same (.cons okFpool_Give (.cons okFbeltwayref04_Free (.cons okFbeltwayref03_Valid (.cons okFpool_Used TabOk.nil)))))))))) XtOk.nil) Tryd.func5 rfl (by kernel_rfl) rfl rfl (by decide) (by decide) (fun x => congrFun eFbeltwaylaw04_PoolBack x)
noncomputable def Fbeltwayref18_SameInts (a0 : (List Int)) (a1 : (List Int)) : Option Bool :=
if ¬ (a0.length : Int) = (a1.length : Int) then
some (false)
else loopO (σ := Int) (β := Bool) (fun s1 =>
if s1 < (a0.length : Int) then
if 0 ≤ s1 ∧ s1 < (a0.length : Int) then
if 0 ≤ s1 ∧ s1 < (a1.length : Int) then
if ¬ (gl (0 : Int) a0 s1.toNat) = (gl (0 : Int) a1 s1.toNat) then
some (Sum.inr (false))
else some (Sum.inl (w64 (s1 + 1)))
else none
else none
else some (Sum.inr (true))) (0)
@[reducible] noncomputable def iFbeltwayref18_SameInts : FnI := { ps := [⟨(.slice (.int .i64)), false, false, false⟩, ⟨(.slice (.int .i64)), false, false, false⟩], rs := [⟨.bool, false, true, false⟩], os := [], bk := [], F := fun x => Fbeltwayref18_SameInts x.1 x.2 }
noncomputable def cFbeltwayref18_SameInts : Cx := { nm := [], keep := [], fns := tabF [], loops := [(0, { live := [(13, ⟨(.int .i64), false, false, false⟩)], boxes := [], rows := [], dead := [4, 5, 14, 15, 16, 17, 18, 19, 20, 21, 22, 23, 24, 25], lost := [], base := 2 })], joins := [], tb := tabs, exts := [], lets := [] }
theorem eFbeltwayref18_SameInts : (fun x : HT iFbeltwayref18_SameInts.ps => iFbeltwayref18_SameInts.F x) = fun x => rk Tryd.prog cFbeltwayref18_SameInts (Tryd.f22.body.getD .skip) (HT (iFbeltwayref18_SameInts.rs ++ iFbeltwayref18_SameInts.os)) 1000000 (finK Tryd.prog [.tmp 4] [] iFbeltwayref18_SameInts.os (iFbeltwayref18_SameInts.rs ++ iFbeltwayref18_SameInts.os)) (initF iFbeltwayref18_SameInts.ps x 26) (initL iFbeltwayref18_SameInts.ps x 0) := by kernel_rfl
theorem okFbeltwayref18_SameInts : CallsV Tryd.prog tabs 22 iFbeltwayref18_SameInts :=
  callsV_of_rk (cx := cFbeltwayref18_SameInts) (fn := Tryd.f22) (c := Tryd.f22.body.getD .skip) (n := 26) (N := 0) (rvs := [.tmp 4]) (cxOk TabOk.nil XtOk.nil) Tryd.func22 rfl (by kernel_rfl) rfl rfl (by decide) (by decide) (fun x => congrFun eFbeltwayref18_SameInts x)
noncomputable def Fbeltwayref04_Used (a0 : (Int × (List (BitVec 64)) × (List (Int × Int × Int)))) : Option Int :=
Option.bind (Fbeltwayref04_Free a0) (fun r1 =>
some (w64 ((a0.2.2.length : Int) - (r1.length : Int))))
@[reducible] noncomputable def iFbeltwayref04_Used : FnI := { ps := [⟨(.pair (.int .i64) (.pair (.slice .u64) (.slice (.pair (.int .i64) (.pair (.int .i64) (.int .i64)))))), true, false, false⟩], rs := [⟨(.int .i64), false, true, false⟩], os := [], bk := [], F := fun x => Fbeltwayref04_Used x }
noncomputable def cFbeltwayref04_Used : Cx := { nm := [(1, (2, 1)), (7, (3, 1))], keep := [], fns := tabF [(19, iFbeltwayref04_Free)], loops := [], joins := [], tb := tabs, exts := [], lets := [] }
theorem eFbeltwayref04_Used : (fun x : HT iFbeltwayref04_Used.ps => iFbeltwayref04_Used.F x) = fun x => rk Tryd.prog cFbeltwayref04_Used (Tryd.f23.body.getD .skip) (HT (iFbeltwayref04_Used.rs ++ iFbeltwayref04_Used.os)) 1000000 (finK Tryd.prog [.tmp 2] [] iFbeltwayref04_Used.os (iFbeltwayref04_Used.rs ++ iFbeltwayref04_Used.os)) (initF iFbeltwayref04_Used.ps x 10) (initL iFbeltwayref04_Used.ps x 2) := by kernel_rfl
theorem okFbeltwayref04_Used : CallsV Tryd.prog tabs 23 iFbeltwayref04_Used :=
  callsV_of_rk (cx := cFbeltwayref04_Used) (fn := Tryd.f23) (c := Tryd.f23.body.getD .skip) (n := 10) (N := 2) (rvs := [.tmp 2]) (cxOk (.cons okFbeltwayref04_Free TabOk.nil) XtOk.nil) Tryd.func23 rfl (by kernel_rfl) rfl rfl (by decide) (by decide) (fun x => congrFun eFbeltwayref04_Used x)
noncomputable def Fbeltwaylaw04_PoolCounts (a0 : (List Int)) : Option Bool :=
Option.bind (Fbeltwaymake_New a0) (fun r1 =>
Option.bind (Fbeltwaymake_Space r1) (fun r2 =>
Option.bind (Fpool_Free r2.1) (fun r3 =>
Option.bind (Fbeltwayref04_Free r2.1) (fun r4 =>
Option.bind (Fbeltwayref18_SameInts r3 r4) (fun r5 =>
if r5 = true then
Option.bind (Fpool_Used r2.1) (fun r6 =>
Option.bind (Fbeltwayref04_Used r2.1) (fun r7 =>
if r6 = r7 then
Option.bind (Fpool_Free r2.1) (fun r8 =>
Option.bind (Fpool_Used r2.1) (fun r9 =>
if (w64 ((r8.length : Int) + r9)) = (r2.1.2.2.length : Int) then
Option.bind (Fbeltwaylaw04_awake) (fun r10 =>
some (r10))
else some (false)))
else some (false)))
else some (false))))))
@[reducible] noncomputable def iFbeltwaylaw04_PoolCounts : FnI := { ps := [⟨(.slice (.int .i64)), false, false, false⟩], rs := [⟨.bool, false, true, false⟩], os := [], bk := [], F := fun x => Fbeltwaylaw04_PoolCounts x }
noncomputable def cFbeltwaylaw04_PoolCounts : Cx := { nm := [(3, (7, 1)), (7, (1, 2)), (8, (3, 4)), (12, (8, 1)), (14, (9, 1)), (25, (10, 1))], keep := [], fns := tabF [(8, iFbeltwaylaw04_awake), (9, iFbeltwaymake_Space), (10, iFbeltwaymake_New), (18, iFpool_Free), (19, iFbeltwayref04_Free), (21, iFpool_Used), (22, iFbeltwayref18_SameInts), (23, iFbeltwayref04_Used)], loops := [], joins := [], tb := tabs, exts := [], lets := [] }
theorem eFbeltwaylaw04_PoolCounts : (fun x : HT iFbeltwaylaw04_PoolCounts.ps => iFbeltwaylaw04_PoolCounts.F x) = fun x => rk Tryd.prog cFbeltwaylaw04_PoolCounts (Tryd.f6.body.getD .skip) (HT (iFbeltwaylaw04_PoolCounts.rs ++ iFbeltwaylaw04_PoolCounts.os)) 1000000 (finK Tryd.prog [.tmp 2] [] iFbeltwaylaw04_PoolCounts.os (iFbeltwaylaw04_PoolCounts.rs ++ iFbeltwaylaw04_PoolCounts.os)) (initF iFbeltwaylaw04_PoolCounts.ps x 38) (initL iFbeltwaylaw04_PoolCounts.ps x 10) := by kernel_rfl
theorem okFbeltwaylaw04_PoolCounts : CallsV Tryd.prog tabs 6 iFbeltwaylaw04_PoolCounts :=
  callsV_of_rk (cx := cFbeltwaylaw04_PoolCounts) (fn := Tryd.f6) (c := Tryd.f6.body.getD .skip) (n := 38) (N := 10) (rvs := [.tmp 2]) (cxOk (.cons okFbeltwaylaw04_awake (.cons okFbeltwaymake_Space (.cons okFbeltwaymake_New (.cons okFpool_Free (.cons okFbeltwayref04_Free (.cons okFpool_Used (.cons okFbeltwayref18_SameInts (.cons okFbeltwayref04_Used TabOk.nil)))))))) XtOk.nil) Tryd.func6 rfl (by kernel_rfl) rfl rfl (by decide) (by decide) (fun x => congrFun eFbeltwaylaw04_PoolCounts x)
end Go.Proofs.YtbmndkehkhpdlaaDoor
