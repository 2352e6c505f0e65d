/-
  The law of ratios: the program's quotient and the document's are equal, or both none.
-/
import Derived.Test.YtgegpaefamemlaaShrL
set_option linter.unusedVariables false
set_option maxRecDepth 100000
namespace Go.Proofs.Ytgegpaefamemlaa
open Go Go.V3
noncomputable def Fmath_Signbit_nf (a0 : (Option Nat)) : Option Bool :=
if a0.isSome = true ∧ a0.getD 0 < 18446744073709551616 then
some (decide ((w64 (((BitVec.ofNat 64 (a0.getD 0)).toNat : Int))) < 0))
else none
@[reducible] noncomputable def iFmath_Signbit_nf : FnI := { ps := [⟨.nf, false, false, false⟩], rs := [⟨.bool, false, true, false⟩], os := [], bk := [], F := fun x => Fmath_Signbit_nf x }
noncomputable def cFmath_Signbit_nf : Cx := { nm := [], keep := [], fns := tabF [], loops := [], joins := [], tb := tabs, exts := [(12, .f64bits)], lets := [] }
theorem eFmath_Signbit_nf : (fun x : HT iFmath_Signbit_nf.ps => iFmath_Signbit_nf.F x) = fun x => rk Try.prog cFmath_Signbit_nf (Try.f33.body.getD .skip) (HT (iFmath_Signbit_nf.rs ++ iFmath_Signbit_nf.os)) 1000000 (finK Try.prog [.tmp 2] [] iFmath_Signbit_nf.os (iFmath_Signbit_nf.rs ++ iFmath_Signbit_nf.os)) (initF iFmath_Signbit_nf.ps iFmath_Signbit_nf.sh x 7) (initL iFmath_Signbit_nf.ps x 0) := by kernel_rfl
theorem okFmath_Signbit_nf : CallsV Try.prog tabs 33 iFmath_Signbit_nf :=
  callsV_of_rk (cx := cFmath_Signbit_nf) (fn := Try.f33) (c := Try.f33.body.getD .skip) (n := 7) (N := 0) (rvs := [.tmp 2]) (cxOk TabOk.nil (.cons xt12 XtOk.nil)) Try.func33 rfl (by kernel_rfl) rfl rfl (fun x => Nat.le_of_ble_eq_true rfl) (by decide) (fun x => congrFun eFmath_Signbit_nf x)
noncomputable def Fbeltwayref06_rank_nf (a0 : (Option Nat)) : Option Int :=
if ¬ fOrdO a0 a0 = some .eq then
some (1)
else some (0)
@[reducible] noncomputable def iFbeltwayref06_rank_nf : FnI := { ps := [⟨.nf, false, false, false⟩], rs := [⟨(.int .i64), false, true, false⟩], os := [], bk := [], F := fun x => Fbeltwayref06_rank_nf x }
noncomputable def cFbeltwayref06_rank_nf : Cx := { nm := [], keep := [], fns := tabF [], loops := [], joins := [], tb := tabs, exts := [], lets := [] }
theorem eFbeltwayref06_rank_nf : (fun x : HT iFbeltwayref06_rank_nf.ps => iFbeltwayref06_rank_nf.F x) = fun x => rk Try.prog cFbeltwayref06_rank_nf (Try.f32.body.getD .skip) (HT (iFbeltwayref06_rank_nf.rs ++ iFbeltwayref06_rank_nf.os)) 1000000 (finK Try.prog [.tmp 2] [] iFbeltwayref06_rank_nf.os (iFbeltwayref06_rank_nf.rs ++ iFbeltwayref06_rank_nf.os)) (initF iFbeltwayref06_rank_nf.ps iFbeltwayref06_rank_nf.sh x 6) (initL iFbeltwayref06_rank_nf.ps x 0) := by kernel_rfl
theorem okFbeltwayref06_rank_nf : CallsV Try.prog tabs 32 iFbeltwayref06_rank_nf :=
  callsV_of_rk (cx := cFbeltwayref06_rank_nf) (fn := Try.f32) (c := Try.f32.body.getD .skip) (n := 6) (N := 0) (rvs := [.tmp 2]) (cxOk TabOk.nil XtOk.nil) Try.func32 rfl (by kernel_rfl) rfl rfl (fun x => Nat.le_of_ble_eq_true rfl) (by decide) (fun x => congrFun eFbeltwayref06_rank_nf x)
noncomputable def Fbeltwayref06_Order_nf (a0 : (Option Nat)) (a1 : (Option Nat)) : Option Int :=
Option.bind (Fbeltwayref06_rank_nf a0) (fun r1 =>
Option.bind (Fbeltwayref06_rank_nf a1) (fun r2 =>
if ¬ r1 = r2 then
Option.bind (Fbeltwayref06_rank_nf a0) (fun r3 =>
Option.bind (Fbeltwayref06_rank_nf a1) (fun r4 =>
some (w64 (r3 - r4))))
else Option.bind (Fbeltwayref06_rank_nf a0) (fun r5 =>
if r5 = 1 then
some (0)
else if fOrdO a0 a1 = some .lt then
some ((-1))
else if fOrdO a0 a1 = some .gt then
some (1)
else Option.bind (Fmath_Signbit_nf a0) (fun r6 =>
Option.bind (Fmath_Signbit_nf a1) (fun r7 =>
if r6 = true then
if (!r7) = true then
some ((-1))
else if r7 = true then
if (!r6) = true then
some (1)
else some (0)
else some (0)
else if r7 = true then
if (!r6) = true then
some (1)
else some (0)
else some (0))))))
@[reducible] noncomputable def iFbeltwayref06_Order_nf : FnI := { ps := [⟨.nf, false, false, false⟩, ⟨.nf, false, false, false⟩], rs := [⟨(.int .i64), false, true, false⟩], os := [], bk := [], F := fun x => Fbeltwayref06_Order_nf x.1 x.2 }
noncomputable def cFbeltwayref06_Order_nf : Cx := { nm := [], keep := [], fns := tabF [(32, iFbeltwayref06_rank_nf), (33, iFmath_Signbit_nf)], loops := [], joins := [], tb := tabs, exts := [], lets := [] }
theorem eFbeltwayref06_Order_nf : (fun x : HT iFbeltwayref06_Order_nf.ps => iFbeltwayref06_Order_nf.F x) = fun x => rk Try.prog cFbeltwayref06_Order_nf (Try.f23.body.getD .skip) (HT (iFbeltwayref06_Order_nf.rs ++ iFbeltwayref06_Order_nf.os)) 1000000 (finK Try.prog [.tmp 4] [] iFbeltwayref06_Order_nf.os (iFbeltwayref06_Order_nf.rs ++ iFbeltwayref06_Order_nf.os)) (initF iFbeltwayref06_Order_nf.ps iFbeltwayref06_Order_nf.sh x 45) (initL iFbeltwayref06_Order_nf.ps x 0) := by kernel_rfl
theorem okFbeltwayref06_Order_nf : CallsV Try.prog tabs 23 iFbeltwayref06_Order_nf :=
  callsV_of_rk (cx := cFbeltwayref06_Order_nf) (fn := Try.f23) (c := Try.f23.body.getD .skip) (n := 45) (N := 0) (rvs := [.tmp 4]) (cxOk (.cons okFbeltwayref06_rank_nf (.cons okFmath_Signbit_nf TabOk.nil)) XtOk.nil) Try.func23 rfl (by kernel_rfl) rfl rfl (fun x => Nat.le_of_ble_eq_true rfl) (by decide) (fun x => congrFun eFbeltwayref06_Order_nf x)
noncomputable def Fbeltwayref06_Same (a0 : (Option Nat)) (a1 : (Option Nat)) : Option Bool :=
Option.bind (Fbeltwayref06_Order_nf a0 a1) (fun r1 =>
some (decide (r1 = 0)))
@[reducible] noncomputable def iFbeltwayref06_Same : FnI := { ps := [⟨.nf, false, false, false⟩, ⟨.nf, false, false, false⟩], rs := [⟨.bool, false, true, false⟩], os := [], bk := [], F := fun x => Fbeltwayref06_Same x.1 x.2 }
noncomputable def cFbeltwayref06_Same : Cx := { nm := [], keep := [], fns := tabF [(23, iFbeltwayref06_Order_nf)], loops := [], joins := [], tb := tabs, exts := [], lets := [] }
theorem eFbeltwayref06_Same : (fun x : HT iFbeltwayref06_Same.ps => iFbeltwayref06_Same.F x) = fun x => rk Try.prog cFbeltwayref06_Same (Try.f13.body.getD .skip) (HT (iFbeltwayref06_Same.rs ++ iFbeltwayref06_Same.os)) 1000000 (finK Try.prog [.tmp 4] [] iFbeltwayref06_Same.os (iFbeltwayref06_Same.rs ++ iFbeltwayref06_Same.os)) (initF iFbeltwayref06_Same.ps iFbeltwayref06_Same.sh x 9) (initL iFbeltwayref06_Same.ps x 0) := by kernel_rfl
theorem okFbeltwayref06_Same : CallsV Try.prog tabs 13 iFbeltwayref06_Same :=
  callsV_of_rk (cx := cFbeltwayref06_Same) (fn := Try.f13) (c := Try.f13.body.getD .skip) (n := 9) (N := 0) (rvs := [.tmp 4]) (cxOk (.cons okFbeltwayref06_Order_nf TabOk.nil) XtOk.nil) Try.func13 rfl (by kernel_rfl) rfl rfl (fun x => Nat.le_of_ble_eq_true rfl) (by decide) (fun x => congrFun eFbeltwayref06_Same x)
noncomputable def Fshare_Ratio (a0 : Int) (a1 : Int) : Option (Option Nat) :=
if a0 < 0 then
some (some 13830554455654793216)
else if a0 > 1099511627776 then
some (some 13830554455654793216)
else if a1 < 0 then
some (some 13830554455654793216)
else if a1 > 1099511627776 then
some (some 13830554455654793216)
else some (fArith .quo (fOfInt a0) (fOfInt a1))
@[reducible] noncomputable def iFshare_Ratio : FnI := { ps := [⟨(.int .i64), false, false, false⟩, ⟨(.int .i64), false, false, false⟩], rs := [⟨.nf, false, true, false⟩], os := [], bk := [], F := fun x => Fshare_Ratio x.1 x.2 }
noncomputable def cFshare_Ratio : Cx := { nm := [(23, (0, 1))], keep := [23], fns := tabF [], loops := [], joins := [], tb := tabs, exts := [], lets := [] }
theorem eFshare_Ratio : (fun x : HT iFshare_Ratio.ps => iFshare_Ratio.F x) = fun x => rk Try.prog cFshare_Ratio (Try.f14.body.getD .skip) (HT (iFshare_Ratio.rs ++ iFshare_Ratio.os)) 1000000 (finK Try.prog [.tmp 4] [] iFshare_Ratio.os (iFshare_Ratio.rs ++ iFshare_Ratio.os)) (initF iFshare_Ratio.ps iFshare_Ratio.sh x 24) (initL iFshare_Ratio.ps x 1) := by kernel_rfl
theorem okFshare_Ratio : CallsV Try.prog tabs 14 iFshare_Ratio :=
  callsV_of_rk (cx := cFshare_Ratio) (fn := Try.f14) (c := Try.f14.body.getD .skip) (n := 24) (N := 1) (rvs := [.tmp 4]) (cxOk TabOk.nil XtOk.nil) Try.func14 rfl (by kernel_rfl) rfl rfl (fun x => Nat.le_of_ble_eq_true rfl) (by decide) (fun x => congrFun eFshare_Ratio x)
noncomputable def Fbeltwayref06_Ratio (a0 : Int) (a1 : Int) : Option (Option Nat) :=
if a0 < 0 then
some (some 13830554455654793216)
else if a0 > 1099511627776 then
some (some 13830554455654793216)
else if a1 < 0 then
some (some 13830554455654793216)
else if a1 > 1099511627776 then
some (some 13830554455654793216)
else some (fArith .quo (fOfInt a0) (fOfInt a1))
@[reducible] noncomputable def iFbeltwayref06_Ratio : FnI := { ps := [⟨(.int .i64), false, false, false⟩, ⟨(.int .i64), false, false, false⟩], rs := [⟨.nf, false, true, false⟩], os := [], bk := [], F := fun x => Fbeltwayref06_Ratio x.1 x.2 }
noncomputable def cFbeltwayref06_Ratio : Cx := { nm := [(23, (0, 1))], keep := [23], fns := tabF [], loops := [], joins := [], tb := tabs, exts := [], lets := [] }
theorem eFbeltwayref06_Ratio : (fun x : HT iFbeltwayref06_Ratio.ps => iFbeltwayref06_Ratio.F x) = fun x => rk Try.prog cFbeltwayref06_Ratio (Try.f15.body.getD .skip) (HT (iFbeltwayref06_Ratio.rs ++ iFbeltwayref06_Ratio.os)) 1000000 (finK Try.prog [.tmp 4] [] iFbeltwayref06_Ratio.os (iFbeltwayref06_Ratio.rs ++ iFbeltwayref06_Ratio.os)) (initF iFbeltwayref06_Ratio.ps iFbeltwayref06_Ratio.sh x 24) (initL iFbeltwayref06_Ratio.ps x 1) := by kernel_rfl
theorem okFbeltwayref06_Ratio : CallsV Try.prog tabs 15 iFbeltwayref06_Ratio :=
  callsV_of_rk (cx := cFbeltwayref06_Ratio) (fn := Try.f15) (c := Try.f15.body.getD .skip) (n := 24) (N := 1) (rvs := [.tmp 4]) (cxOk TabOk.nil XtOk.nil) Try.func15 rfl (by kernel_rfl) rfl rfl (fun x => Nat.le_of_ble_eq_true rfl) (by decide) (fun x => congrFun eFbeltwayref06_Ratio x)
noncomputable def Fbeltwaylaw06_ShareRatios (a0 : Int) (a1 : Int) : Option Bool :=
Option.bind (Fbeltwaymake_Mod a0 5) (fun r1 =>
Option.bind (Fbeltwaymake_Mod a1 5) (fun r2 =>
Option.bind (Fbeltwaymake_Mod a0 2199023255552) (fun r3 =>
Option.bind (Fbeltwaymake_Mod a1 2199023255552) (fun r4 =>
loopO (σ := Int) (β := Bool) (fun s1 =>
if s1 < (([([a0, a1] : List Int), ([r1, r2] : List Int), ([r3, r4] : List Int)] : List (List Int)).length : Int) then
if 0 ≤ s1 ∧ s1 < (([([a0, a1] : List Int), ([r1, r2] : List Int), ([r3, r4] : List Int)] : List (List Int)).length : Int) then
if 0 ≤ (0 : Int) ∧ (0 : Int) < ((gl ([] : (List Int)) ([([a0, a1] : List Int), ([r1, r2] : List Int), ([r3, r4] : List Int)] : List (List Int)) s1.toNat).length : Int) then
if 0 ≤ (1 : Int) ∧ (1 : Int) < ((gl ([] : (List Int)) ([([a0, a1] : List Int), ([r1, r2] : List Int), ([r3, r4] : List Int)] : List (List Int)) s1.toNat).length : Int) then
Option.bind (Fshare_Ratio (gl (0 : Int) (gl ([] : (List Int)) ([([a0, a1] : List Int), ([r1, r2] : List Int), ([r3, r4] : List Int)] : List (List Int)) s1.toNat) ((0 : Int).toNat)) (gl (0 : Int) (gl ([] : (List Int)) ([([a0, a1] : List Int), ([r1, r2] : List Int), ([r3, r4] : List Int)] : List (List Int)) s1.toNat) ((1 : Int).toNat))) (fun r5 =>
if 0 ≤ (0 : Int) ∧ (0 : Int) < ((gl ([] : (List Int)) ([([a0, a1] : List Int), ([r1, r2] : List Int), ([r3, r4] : List Int)] : List (List Int)) s1.toNat).length : Int) then
if 0 ≤ (1 : Int) ∧ (1 : Int) < ((gl ([] : (List Int)) ([([a0, a1] : List Int), ([r1, r2] : List Int), ([r3, r4] : List Int)] : List (List Int)) s1.toNat).length : Int) then
Option.bind (Fbeltwayref06_Ratio (gl (0 : Int) (gl ([] : (List Int)) ([([a0, a1] : List Int), ([r1, r2] : List Int), ([r3, r4] : List Int)] : List (List Int)) s1.toNat) ((0 : Int).toNat)) (gl (0 : Int) (gl ([] : (List Int)) ([([a0, a1] : List Int), ([r1, r2] : List Int), ([r3, r4] : List Int)] : List (List Int)) s1.toNat) ((1 : Int).toNat))) (fun r6 =>
Option.bind (Fbeltwayref06_Same r5 r6) (fun r7 =>
if (!r7) = true then
some (Sum.inr (false))
else some (Sum.inl (w64 (s1 + 1)))))
else none
else none)
else none
else none
else none
else Option.map Sum.inr (Option.bind (Fbeltwaylaw06_awake) (fun r8 =>
some (r8)))) (0)))))
@[reducible] noncomputable def iFbeltwaylaw06_ShareRatios : FnI := { ps := [⟨(.int .i64), false, false, false⟩, ⟨(.int .i64), false, false, false⟩], rs := [⟨.bool, false, true, false⟩], os := [], bk := [], F := fun x => Fbeltwaylaw06_ShareRatios x.1 x.2 }
noncomputable def cFbeltwaylaw06_ShareRatios : Cx := { nm := [(9, (0, 1)), (14, (1, 1)), (19, (2, 1)), (20, (3, 1)), (25, (4, 1)), (32, (5, 1)), (39, (6, 1))], keep := [], fns := tabF [(10, iFbeltwaymake_Mod), (13, iFbeltwayref06_Same), (14, iFshare_Ratio), (15, iFbeltwayref06_Ratio), (16, iFbeltwaylaw06_awake)], loops := [(0, { live := [(22, ⟨(.int .i64), false, false, false⟩)], boxes := [], rows := [], dead := [4, 6, 23, 24, 25, 26, 27, 28, 29, 30, 31, 32, 33, 34, 35, 36, 37, 38, 39, 40, 41, 42], lost := [], base := 4 })], joins := [], tb := tabs, exts := [], lets := [] }
theorem eFbeltwaylaw06_ShareRatios : (fun x : HT iFbeltwaylaw06_ShareRatios.ps => iFbeltwaylaw06_ShareRatios.F x) = fun x => rk Try.prog cFbeltwaylaw06_ShareRatios (Try.f4.body.getD .skip) (HT (iFbeltwaylaw06_ShareRatios.rs ++ iFbeltwaylaw06_ShareRatios.os)) 1000000 (finK Try.prog [.tmp 4] [] iFbeltwaylaw06_ShareRatios.os (iFbeltwaylaw06_ShareRatios.rs ++ iFbeltwaylaw06_ShareRatios.os)) (initF iFbeltwaylaw06_ShareRatios.ps iFbeltwaylaw06_ShareRatios.sh x 44) (initL iFbeltwaylaw06_ShareRatios.ps x 7) := by kernel_rfl
theorem okFbeltwaylaw06_ShareRatios : CallsV Try.prog tabs 4 iFbeltwaylaw06_ShareRatios :=
  callsV_of_rk (cx := cFbeltwaylaw06_ShareRatios) (fn := Try.f4) (c := Try.f4.body.getD .skip) (n := 44) (N := 7) (rvs := [.tmp 4]) (cxOk (.cons okFbeltwaymake_Mod (.cons okFbeltwayref06_Same (.cons okFshare_Ratio (.cons okFbeltwayref06_Ratio (.cons okFbeltwaylaw06_awake TabOk.nil))))) XtOk.nil) Try.func4 rfl (by kernel_rfl) rfl rfl (fun x => Nat.le_of_ble_eq_true rfl) (by decide) (fun x => congrFun eFbeltwaylaw06_ShareRatios x)

theorem quo_lt {a b v : Nat} (h : fArith .quo a b = some v) : v < 18446744073709551616 := by
  have h' : (FloatKind.f64.format.div a b) = some v := h
  unfold Ieee.Format.div at h'
  obtain ⟨d, _, rfl⟩ := Option.map_eq_some_iff.1 h'
  have hb : FloatKind.f64.format.binade = 4503599627370496 := by decide
  have hs : FloatKind.f64.format.signWeight = 9223372036854775808 := by decide
  have hi : FloatKind.f64.format.infRung = 9218868437227405312 := by decide
  have hw : ∀ (n : Bool) (r : Nat), r ≤ 9223372036854775807 → FloatKind.f64.format.word n r < 18446744073709551616 := by
    intro n r hr
    unfold Ieee.Format.word
    rw [hs]
    split <;> omega
  cases d with
  | number n m p =>
    simp only [Ieee.Format.write, Ieee.Format.nearest]
    split
    · exact hw _ _ (by omega)
    · refine hw _ _ ?_
      rw [hi]
      have := Nat.min_le_right ((max (p + (m.log2 : Int) - (FloatKind.f64.format.fractionBits : Int)) FloatKind.f64.format.leastPlace - FloatKind.f64.format.leastPlace).toNat * FloatKind.f64.format.binade + Ieee.Toward.even.cut n (m <<< (p - max (p + (m.log2 : Int) - (FloatKind.f64.format.fractionBits : Int)) FloatKind.f64.format.leastPlace).toNat) (max (p + (m.log2 : Int) - (FloatKind.f64.format.fractionBits : Int)) FloatKind.f64.format.leastPlace - p).toNat) 9218868437227405312
      omega
  | infinity n => exact hw _ _ (by rw [hi]; omega)
  | nan n f =>
    refine hw _ _ ?_
    rw [hi, hb]
    have := Nat.mod_lt f (show 0 < 4503599627370496 by decide)
    omega
theorem same_nf {o : Option Nat} (h : ∀ v, o = some v → v < 18446744073709551616) : Fbeltwayref06_Same o o = some true := by
  unfold Fbeltwayref06_Same Fbeltwayref06_Order_nf
  by_cases he : fOrdO o o = some .eq
  · have hr : Fbeltwayref06_rank_nf o = some 0 := by
      unfold Fbeltwayref06_rank_nf
      rw [if_neg (not_not_intro he)]
    rw [hr]
    simp only [Option.bind_some]
    rw [if_neg (not_not_intro trivial), if_neg (by decide), he, if_neg (by simp), if_neg (by simp)]
    cases o with
    | none => cases he
    | some v =>
      have hs : ∃ b, Fmath_Signbit_nf (some v) = some b := by
        unfold Fmath_Signbit_nf
        rw [if_pos ⟨rfl, h v rfl⟩]
        exact ⟨_, rfl⟩
      obtain ⟨b, hb⟩ := hs
      rw [hb]
      cases b <;> rfl
  · have hr : Fbeltwayref06_rank_nf o = some 1 := by
      unfold Fbeltwayref06_rank_nf
      rw [if_pos he]
    rw [hr]
    rfl
theorem ratio_nf (p q : Int) : ∃ o, Fshare_Ratio p q = some o ∧ Fbeltwayref06_Ratio p q = some o ∧ ∀ v, o = some v → v < 18446744073709551616 := by
  unfold Fshare_Ratio Fbeltwayref06_Ratio
  have hc : ∀ v : Nat, (some 13830554455654793216 : Option Nat) = some v → v < 18446744073709551616 := by
    intro v hv
    obtain rfl := Option.some.inj hv
    decide
  by_cases h1 : p < 0
  · rw [if_pos h1]; exact ⟨_, rfl, rfl, hc⟩
  by_cases h2 : p > 1099511627776
  · rw [if_neg h1, if_pos h2]; exact ⟨_, rfl, rfl, hc⟩
  by_cases h3 : q < 0
  · rw [if_neg h1, if_neg h2, if_pos h3]; exact ⟨_, rfl, rfl, hc⟩
  by_cases h4 : q > 1099511627776
  · rw [if_neg h1, if_neg h2, if_neg h3, if_pos h4]; exact ⟨_, rfl, rfl, hc⟩
  rw [if_neg h1, if_neg h2, if_neg h3, if_neg h4]
  exact ⟨_, rfl, rfl, fun v hv => quo_lt hv⟩
theorem law_ShareRatios (y0 : Int) (w0 : I64 y0) (y1 : Int) (w1 : I64 y1) : Fbeltwaylaw06_ShareRatios y0 y1 = some true := by
  unfold Fbeltwaylaw06_ShareRatios
  obtain ⟨r1, e1, _⟩ := Mod_ok y0 (m := 5) (by omega) (by omega)
  obtain ⟨r2, e2, _⟩ := Mod_ok y1 (m := 5) (by omega) (by omega)
  obtain ⟨r3, e3, _⟩ := Mod_ok y0 (m := 2199023255552) (by omega) (by omega)
  obtain ⟨r4, e4, _⟩ := Mod_ok y1 (m := 2199023255552) (by omega) (by omega)
  rw [e1, Option.bind_some, e2, Option.bind_some, e3, Option.bind_some, e4, Option.bind_some]
  have hlen : ([([y0, y1] : List Int), ([r1, r2] : List Int), ([r3, r4] : List Int)] : List (List Int)).length = 3 := rfl
  have hin : ∀ k : Nat, k < 3 → (gl [] ([([y0, y1] : List Int), ([r1, r2] : List Int), ([r3, r4] : List Int)] : List (List Int)) k).length = 2 := by
    intro k hk
    have : k = 0 ∨ k = 1 ∨ k = 2 := by omega
    rcases this with rfl | rfl | rfl <;> rfl
  generalize ([([y0, y1] : List Int), ([r1, r2] : List Int), ([r3, r4] : List Int)] : List (List Int)) = l at hlen hin ⊢
  refine loopO_run 3 (fun k hk => ?_) (by rw [if_neg (by omega), awake_ok]; rfl)
  have hk2 := hin k hk
  rw [if_pos (by omega), if_pos (by omega), Int.toNat_natCast]
  generalize gl [] l k = x at hk2 ⊢
  obtain ⟨o, h1, h2, h3⟩ := ratio_nf (gl (0 : Int) x ((0 : Int).toNat)) (gl (0 : Int) x ((1 : Int).toNat))
  rw [if_pos (by omega), if_pos (by omega), h1, Option.bind_some, if_pos (by omega), if_pos (by omega), h2, Option.bind_some, same_nf h3, Option.bind_some, if_neg (show ¬ (!true) = true by decide), w64_id (e := (k : Int) + 1) (by omega) (by omega)]
namespace shareRatios
open Go.ChangeShapes Go.WideShapes Go.ChangeAt Go.RowKit Go.V3
set_option linter.unusedVariables false
theorem own : ownKnob Try.prog.godebug = none := by kernel_rfl
theorem laidOut : laidOutB Try.prog = true := by kernel_rfl
set_option maxRecDepth 100000 in
theorem lifted (os : Os) (started : os.Started) (H : Type) (enc : TypeId × Value → H) :
    ReturnsInHanded {} Try.checked os 4 .any (Rows.shareRatiosSpec.pre6 enc Try.prog Try.f4 Rows.shareRatiosRow.domain false) (Rows.shareRatiosSpec.post enc Try.prog Try.f4 false true false false) := by
  refine returnsInHanded_of_change (C := Try.checked) own started (by kernel_rfl) Try.func4
    (ChangeSpec.witness6 (enc := enc) (C := Try.checked) false ⟨#[], #[.int .i64 0, .int .i64 0], []⟩ 8 (by kernel_rfl) (by kernel_rfl) (by kernel_rfl) (by kernel_rfl)) ?_
  intro W base args ds gs before hval0 hW hcnd _
  have hT : TabW tabs W := TabW.nil W
  have hval : ∀ (j : Nat) t v, Try.f4.params[j]? = some t → args[j]? = some v → Value.okWide Try.prog W .any base t v := hval0
  have hW' := hW
  obtain ⟨p, q, hA0, hV, rfl, hfz, hnd⟩ := hW
  have hA : DataW.TrodAll enc Try.prog W 0 (fun _ => true) true Try.f4.params.toList args.toList ds p := hA0
  rw [Try.params4] at hA hval
  obtain ⟨v0, vs0, d0, ds0, p0, q0, hargs, rfl, rfl, h0, r0⟩ := trodAll_cons hA
  obtain ⟨v1, vs1, d1, ds1, p1, q1, rfl, rfl, rfl, h1, r1⟩ := trodAll_cons r0
  obtain ⟨rfl, rfl, rfl⟩ := trodAll_nil r1
  obtain rfl : args = #[v0, v1] := by cases args; simp_all
  obtain ⟨rfl, rfl⟩ := trodVars_none hV
  have k0 := h0
  have lt0 : ∀ x ∈ p0, x.block < W.heap.size := by obtain ⟨m, hm⟩ := k0; exact DataW.trod_lt m _ _ _ hm
  obtain ⟨a0, rfl, _, _, w0⟩ := open_int Try.underlying3 (hval 0 3 v0 rfl rfl) h0
  have b0 := i64_of_wf w0
  have k1 := h1
  have lt1 : ∀ x ∈ p1, x.block < W.heap.size := by obtain ⟨m, hm⟩ := k1; exact DataW.trod_lt m _ _ _ hm
  obtain ⟨a1, rfl, _, _, w1⟩ := open_int Try.underlying3 (hval 1 3 v1 rfl rfl) h1
  have b1 := i64_of_wf w1
  refine (law_bare okFbeltwaylaw06_ShareRatios rfl hT (x := ((a0, a1) : HT iFbeltwaylaw06_ShareRatios.ps)) (r := (true : Bool)) (vals := #[_, _]) (w := W) ?_ (law_ShareRatios a0 b0 a1 b1) (fun _ => rfl)).mono fun e W' ⟨he, bel⟩ => ?_
  · rfl
  subst he
  simp only [List.append_nil] at hW'
  exact ⟨_, rfl, _, _, _, [], _, [], hW', trodAll_mk1 (shut_bool Try.underlying4 _), (trodAll_cons_mk (Below.trod laidOut (by kernel_rfl) (of_decide_eq_true (by kernel_rfl)) k0 bel lt0) (trodAll_cons_mk (Below.trod laidOut (by kernel_rfl) (of_decide_eq_true (by kernel_rfl)) k1 bel lt1) trodAll_mk0)), rfl, bel.frame _, fun h => by cases h⟩
theorem proved : Rows.ShareRatiosSaid :=
  OpenClaim.holds_of_wide 4 Try.f4 rfl rfl rfl rfl rfl rfl rfl ⟨rfl, rfl, rfl, rfl, rfl⟩ rfl rfl rfl rfl rfl (by kernel_rfl) Try.func4 (by kernel_rfl)
    (of_decide_eq_true (by kernel_rfl)) (by unfold Func.isWrapper; first | (rw [if_pos (by decide +kernel)]; kernel_rfl) | (rw [if_neg (by decide +kernel)]; exact ⟨rfl, rfl⟩))
    (fun os started H enc _ => lifted os started H enc)
end shareRatios
end Go.Proofs.Ytgegpaefamemlaa
