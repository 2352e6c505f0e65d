/-
  Texts of configurations: both prints.
-/
import Derived.Lib.ItoaLen
import Derived.Lib.Join
import Derived.Test.YtmcahbbelnjhiaaDoorNtnF
set_option linter.unusedVariables false
set_option linter.unusedSimpArgs false
namespace Go.Proofs.YtmcahbbelnjhiaaDoor
open Go Go.V3

noncomputable def rRule (S : ByteArray) (p : Int) (r : Ru) (k : Int) : Option ((ByteArray × Int) ⊕ (ByteArray × Int)) :=
if p = 0 then
if S.size + (⟨#[97, 108, 108]⟩ : ByteArray).size ≤ 9223372036854775807 then
Option.bind (Fbeltwayref13_Digits ((r.2).1)) (fun r11 =>
if (⟨#[47]⟩ : ByteArray).size + r11.size ≤ 9223372036854775807 then
if ((⟨#[47]⟩ : ByteArray) ++ r11).size + (⟨#[47]⟩ : ByteArray).size ≤ 9223372036854775807 then
Option.bind (Fbeltwayref13_Digits (((r.2).2).1)) (fun r12 =>
if (((⟨#[47]⟩ : ByteArray) ++ r11) ++ (⟨#[47]⟩ : ByteArray)).size + r12.size ≤ 9223372036854775807 then
if ((((⟨#[47]⟩ : ByteArray) ++ r11) ++ (⟨#[47]⟩ : ByteArray)) ++ r12).size + (⟨#[62]⟩ : ByteArray).size ≤ 9223372036854775807 then
Option.bind (Fbeltwayref13_Digits (((r.2).2).2)) (fun r13 =>
if (((((⟨#[47]⟩ : ByteArray) ++ r11) ++ (⟨#[47]⟩ : ByteArray)) ++ r12) ++ (⟨#[62]⟩ : ByteArray)).size + r13.size ≤ 9223372036854775807 then
if (S ++ (⟨#[97, 108, 108]⟩ : ByteArray)).size + ((((((⟨#[47]⟩ : ByteArray) ++ r11) ++ (⟨#[47]⟩ : ByteArray)) ++ r12) ++ (⟨#[62]⟩ : ByteArray)) ++ r13).size ≤ 9223372036854775807 then
some (Sum.inl (((S ++ (⟨#[97, 108, 108]⟩ : ByteArray)) ++ ((((((⟨#[47]⟩ : ByteArray) ++ r11) ++ (⟨#[47]⟩ : ByteArray)) ++ r12) ++ (⟨#[62]⟩ : ByteArray)) ++ r13), w64 (k + 1))))
else none
else none)
else none
else none)
else none
else none)
else none
else Option.bind (Fbeltwayref13_Digits p) (fun r14 =>
if r14.size + (⟨#[37]⟩ : ByteArray).size ≤ 9223372036854775807 then
if S.size + (r14 ++ (⟨#[37]⟩ : ByteArray)).size ≤ 9223372036854775807 then
Option.bind (Fbeltwayref13_Digits ((r.2).1)) (fun r15 =>
if (⟨#[47]⟩ : ByteArray).size + r15.size ≤ 9223372036854775807 then
if ((⟨#[47]⟩ : ByteArray) ++ r15).size + (⟨#[47]⟩ : ByteArray).size ≤ 9223372036854775807 then
Option.bind (Fbeltwayref13_Digits (((r.2).2).1)) (fun r16 =>
if (((⟨#[47]⟩ : ByteArray) ++ r15) ++ (⟨#[47]⟩ : ByteArray)).size + r16.size ≤ 9223372036854775807 then
if ((((⟨#[47]⟩ : ByteArray) ++ r15) ++ (⟨#[47]⟩ : ByteArray)) ++ r16).size + (⟨#[62]⟩ : ByteArray).size ≤ 9223372036854775807 then
Option.bind (Fbeltwayref13_Digits (((r.2).2).2)) (fun r17 =>
if (((((⟨#[47]⟩ : ByteArray) ++ r15) ++ (⟨#[47]⟩ : ByteArray)) ++ r16) ++ (⟨#[62]⟩ : ByteArray)).size + r17.size ≤ 9223372036854775807 then
if (S ++ (r14 ++ (⟨#[37]⟩ : ByteArray))).size + ((((((⟨#[47]⟩ : ByteArray) ++ r15) ++ (⟨#[47]⟩ : ByteArray)) ++ r16) ++ (⟨#[62]⟩ : ByteArray)) ++ r17).size ≤ 9223372036854775807 then
some (Sum.inl (((S ++ (r14 ++ (⟨#[37]⟩ : ByteArray))) ++ ((((((⟨#[47]⟩ : ByteArray) ++ r15) ++ (⟨#[47]⟩ : ByteArray)) ++ r16) ++ (⟨#[62]⟩ : ByteArray)) ++ r17), w64 (k + 1))))
else none
else none)
else none
else none)
else none
else none)
else none
else none)
theorem rPrint_form (a0 : Cf) : Fbeltwayref13_Print a0 = (Option.bind (Fbeltwayref12_Check a0) (fun r1 =>
if ¬ r1 = 0 then
some (((⟨#[]⟩ : ByteArray), r1))
else if a0.1.size + (⟨#[32, 102, 117, 108, 108, 32]⟩ : ByteArray).size ≤ 9223372036854775807 then
Option.bind (Fbeltwayref13_Digits a0.2.2) (fun r2 =>
if (a0.1 ++ (⟨#[32, 102, 117, 108, 108, 32]⟩ : ByteArray)).size + r2.size ≤ 9223372036854775807 then
if ((a0.1 ++ (⟨#[32, 102, 117, 108, 108, 32]⟩ : ByteArray)) ++ r2).size + (⟨#[58, 32]⟩ : ByteArray).size ≤ 9223372036854775807 then
loopO (σ := (ByteArray × Int)) (β := (ByteArray × Int)) (fun s1 =>
if s1.2 < (a0.2.1.length : Int) then
if 0 ≤ s1.2 ∧ s1.2 < (a0.2.1.length : Int) then
Option.bind (Fbeltwayref06_ToPercent ((gl ((0, 0, 0, 0) : (Nat × Int × Int × Int)) a0.2.1 s1.2.toNat).1)) (fun r3 =>
if (!r3.2) = true then
some (Sum.inr (((⟨#[]⟩ : ByteArray), 6)))
else if s1.2 > 0 then
if s1.1.size + (⟨#[44, 32]⟩ : ByteArray).size ≤ 9223372036854775807 then
rRule (s1.1 ++ (⟨#[44, 32]⟩ : ByteArray)) r3.1 (gl ((0, 0, 0, 0) : (Nat × Int × Int × Int)) a0.2.1 s1.2.toNat) s1.2
else none
else rRule s1.1 r3.1 (gl ((0, 0, 0, 0) : (Nat × Int × Int × Int)) a0.2.1 s1.2.toNat) s1.2)
else none
else some (Sum.inr ((s1.1, 0)))) ((((a0.1 ++ (⟨#[32, 102, 117, 108, 108, 32]⟩ : ByteArray)) ++ r2) ++ (⟨#[58, 32]⟩ : ByteArray), 0))
else none
else none)
else none)) := rfl
noncomputable def pPct (S : List ByteArray) (p : Int) (r : Ru) (k : Int) : Option ((List ByteArray × Int) ⊕ (ByteArray × Int)) :=
Option.bind (Fitoa p) (fun r3 =>
if r3.size + (⟨#[37]⟩ : ByteArray).size ≤ 9223372036854775807 then
if (r3 ++ (⟨#[37]⟩ : ByteArray)).size + (⟨#[47]⟩ : ByteArray).size ≤ 9223372036854775807 then
Option.bind (Fitoa ((r.2).1)) (fun r4 =>
if ((r3 ++ (⟨#[37]⟩ : ByteArray)) ++ (⟨#[47]⟩ : ByteArray)).size + r4.size ≤ 9223372036854775807 then
if (((r3 ++ (⟨#[37]⟩ : ByteArray)) ++ (⟨#[47]⟩ : ByteArray)) ++ r4).size + (⟨#[47]⟩ : ByteArray).size ≤ 9223372036854775807 then
Option.bind (Fitoa (((r.2).2).1)) (fun r5 =>
if ((((r3 ++ (⟨#[37]⟩ : ByteArray)) ++ (⟨#[47]⟩ : ByteArray)) ++ r4) ++ (⟨#[47]⟩ : ByteArray)).size + r5.size ≤ 9223372036854775807 then
if (((((r3 ++ (⟨#[37]⟩ : ByteArray)) ++ (⟨#[47]⟩ : ByteArray)) ++ r4) ++ (⟨#[47]⟩ : ByteArray)) ++ r5).size + (⟨#[62]⟩ : ByteArray).size ≤ 9223372036854775807 then
Option.bind (Fitoa (((r.2).2).2)) (fun r6 =>
if ((((((r3 ++ (⟨#[37]⟩ : ByteArray)) ++ (⟨#[47]⟩ : ByteArray)) ++ r4) ++ (⟨#[47]⟩ : ByteArray)) ++ r5) ++ (⟨#[62]⟩ : ByteArray)).size + r6.size ≤ 9223372036854775807 then
if (S.length + ([((((((r3 ++ (⟨#[37]⟩ : ByteArray)) ++ (⟨#[47]⟩ : ByteArray)) ++ r4) ++ (⟨#[47]⟩ : ByteArray)) ++ r5) ++ (⟨#[62]⟩ : ByteArray)) ++ r6] : List ByteArray).length) * 16 ≤ 140737488355328 then
some (Sum.inl ((S ++ ([((((((r3 ++ (⟨#[37]⟩ : ByteArray)) ++ (⟨#[47]⟩ : ByteArray)) ++ r4) ++ (⟨#[47]⟩ : ByteArray)) ++ r5) ++ (⟨#[62]⟩ : ByteArray)) ++ r6] : List ByteArray), w64 (k + 1))))
else none
else none)
else none
else none)
else none
else none)
else none
else none)
noncomputable def pAll (S : List ByteArray) (r : Ru) (k : Int) : Option ((List ByteArray × Int) ⊕ (ByteArray × Int)) :=
if (⟨#[97, 108, 108]⟩ : ByteArray).size + (⟨#[47]⟩ : ByteArray).size ≤ 9223372036854775807 then
Option.bind (Fitoa ((r.2).1)) (fun r7 =>
if ((⟨#[97, 108, 108]⟩ : ByteArray) ++ (⟨#[47]⟩ : ByteArray)).size + r7.size ≤ 9223372036854775807 then
if (((⟨#[97, 108, 108]⟩ : ByteArray) ++ (⟨#[47]⟩ : ByteArray)) ++ r7).size + (⟨#[47]⟩ : ByteArray).size ≤ 9223372036854775807 then
Option.bind (Fitoa (((r.2).2).1)) (fun r8 =>
if ((((⟨#[97, 108, 108]⟩ : ByteArray) ++ (⟨#[47]⟩ : ByteArray)) ++ r7) ++ (⟨#[47]⟩ : ByteArray)).size + r8.size ≤ 9223372036854775807 then
if (((((⟨#[97, 108, 108]⟩ : ByteArray) ++ (⟨#[47]⟩ : ByteArray)) ++ r7) ++ (⟨#[47]⟩ : ByteArray)) ++ r8).size + (⟨#[62]⟩ : ByteArray).size ≤ 9223372036854775807 then
Option.bind (Fitoa (((r.2).2).2)) (fun r9 =>
if ((((((⟨#[97, 108, 108]⟩ : ByteArray) ++ (⟨#[47]⟩ : ByteArray)) ++ r7) ++ (⟨#[47]⟩ : ByteArray)) ++ r8) ++ (⟨#[62]⟩ : ByteArray)).size + r9.size ≤ 9223372036854775807 then
if (S.length + ([((((((⟨#[97, 108, 108]⟩ : ByteArray) ++ (⟨#[47]⟩ : ByteArray)) ++ r7) ++ (⟨#[47]⟩ : ByteArray)) ++ r8) ++ (⟨#[62]⟩ : ByteArray)) ++ r9] : List ByteArray).length) * 16 ≤ 140737488355328 then
some (Sum.inl ((S ++ ([((((((⟨#[97, 108, 108]⟩ : ByteArray) ++ (⟨#[47]⟩ : ByteArray)) ++ r7) ++ (⟨#[47]⟩ : ByteArray)) ++ r8) ++ (⟨#[62]⟩ : ByteArray)) ++ r9] : List ByteArray), w64 (k + 1))))
else none
else none)
else none
else none)
else none
else none)
else none
theorem pPrint_form (a0 : Cf) : Fnotation_Print a0 = (Option.bind (Fconfig_Check a0) (fun r1 =>
if ¬ r1 = 0 then
some (((⟨#[]⟩ : ByteArray), r1))
else loopO (σ := ((List ByteArray) × Int)) (β := (ByteArray × Int)) (fun s1 =>
if s1.2 < (a0.2.1.length : Int) then
if 0 ≤ s1.2 ∧ s1.2 < (a0.2.1.length : Int) then
if ¬ fOrd ((gl ((0, 0, 0, 0) : (Nat × Int × Int × Int)) a0.2.1 s1.2.toNat).1) 0 = some .eq then
Option.bind (Fshare_ToPercent ((gl ((0, 0, 0, 0) : (Nat × Int × Int × Int)) a0.2.1 s1.2.toNat).1)) (fun r2 =>
if (!r2.2) = true then
some (Sum.inr (((⟨#[]⟩ : ByteArray), 6)))
else pPct s1.1 r2.1 (gl ((0, 0, 0, 0) : (Nat × Int × Int × Int)) a0.2.1 s1.2.toNat) s1.2)
else pAll s1.1 (gl ((0, 0, 0, 0) : (Nat × Int × Int × Int)) a0.2.1 s1.2.toNat) s1.2
else none
else Option.map Sum.inr (if a0.1.size + (⟨#[32, 102, 117, 108, 108, 32]⟩ : ByteArray).size ≤ 9223372036854775807 then
Option.bind (Fitoa a0.2.2) (fun r10 =>
if (a0.1 ++ (⟨#[32, 102, 117, 108, 108, 32]⟩ : ByteArray)).size + r10.size ≤ 9223372036854775807 then
if ((a0.1 ++ (⟨#[32, 102, 117, 108, 108, 32]⟩ : ByteArray)) ++ r10).size + (⟨#[58, 32]⟩ : ByteArray).size ≤ 9223372036854775807 then
Option.bind (Fjoin s1.1 (⟨#[44, 32]⟩ : ByteArray)) (fun r11 =>
if (((a0.1 ++ (⟨#[32, 102, 117, 108, 108, 32]⟩ : ByteArray)) ++ r10) ++ (⟨#[58, 32]⟩ : ByteArray)).size + r11.size ≤ 9223372036854775807 then
some (((((a0.1 ++ (⟨#[32, 102, 117, 108, 108, 32]⟩ : ByteArray)) ++ r10) ++ (⟨#[58, 32]⟩ : ByteArray)) ++ r11, 0))
else none)
else none
else none)
else none)) (([], 0)))) := rfl
end Go.Proofs.YtmcahbbelnjhiaaDoor
