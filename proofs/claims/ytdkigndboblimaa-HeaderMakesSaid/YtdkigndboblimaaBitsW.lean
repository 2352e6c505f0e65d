/-
  Walks: beltwaymake.Mod, package bits, its reference, the examples of chapter 1.
-/
import Derived.Test.YtdkigndboblimaaRows
import Derived.Test.YtdkigndboblimaaLibBits
import Derived.Test.YtdkigndboblimaaLaw
namespace Go.Proofs.Ytdkigndboblimaa
open Go Go.Vm

def vc_beltwaymake_Mod (v : Int) (n : Int) (h : Heap) (Q : SV → Heap → Prop) : Prop :=
  (n ≠ 0) ∧ ((Int.tmod v n) < 0 → (I64 ((Int.tmod v n) + n)) ∧ Q (.int .i64 ((Int.tmod v n) + n)) h) ∧ (¬ ((Int.tmod v n) < 0) → Q (.int .i64 (Int.tmod v n)) h)
def cx_beltwaymake_Mod : Cx := { modes := [(8, 1)], pure := lkp [], loops := [], tails := [] }
theorem vc_beltwaymake_Mod_eq (v : Int) (n : Int) (h : Heap) (Q : SV → Heap → Prop) : vc_beltwaymake_Mod v n h Q = vc Try.prog cx_beltwaymake_Mod (Try.f7.body.getD .skip) 1000000 (finQ [4] Q) ([SV.int .i64 v, .int .i64 n] ++ List.replicate (15 - ([SV.int .i64 v, .int .i64 n]).length) undefV) h := by kernel_rfl
theorem of_beltwaymake_Mod {v : Int} {n : Int} {h : Heap} {Q : SV → Heap → Prop} (H : vc_beltwaymake_Mod v n h Q) : CallsH Try.prog 7 [.int .i64 v, .int .i64 n] h Q :=
  callsH_of_vc (cx := cx_beltwaymake_Mod) (cxOk TabOk.nil) (n := 15) (rs := [4]) Try.func7 (by kernel_rfl) (by kernel_rfl) Try.ntmps7 (by kernel_rfl) (Eq.mp (vc_beltwaymake_Mod_eq v n h Q) H)
def p_beltwaymake_Mod : List SV → Pu
  | [.int .i64 v, .int .i64 n] => chk (0 < n ∧ n ≤ 9223372036854775807) (.int .i64 (v%n))
  | _ => none
theorem beltwaymake_Mod_ok (v : Int) (n : Int) (hp : 0 < n ∧ n ≤ 9223372036854775807) (h : Heap) : CallsH Try.prog 7 [.int .i64 v, .int .i64 n] h (fun r_ h_ => r_ = .int .i64 (v%n) ∧ h_ = h) := by
  have h1 := mod_tmod v n hp.1
  have h2 := Int.emod_nonneg v (show n ≠ 0 by omega)
  have h3 := Int.emod_lt_of_pos v hp.1
  refine of_beltwaymake_Mod ⟨by omega, fun h => ⟨?_, ?_⟩, fun h => ?_⟩
  · rw [if_pos h] at h1; unfold I64; omega
  · rw [if_pos h] at h1; exact ⟨by rw [h1], rfl⟩
  · rw [if_neg h] at h1; exact ⟨by rw [h1], rfl⟩
theorem pureOk_beltwaymake_Mod : PureOk Try.prog 7 p_beltwaymake_Mod := by
  intro args
  unfold p_beltwaymake_Mod
  split
  · exact ok_chk fun hp h => (beltwaymake_Mod_ok _ _ hp h).mono fun r h' ⟨h1, h2⟩ => ⟨by rw [h1], h2⟩
  · exact ok_none

def vc_bits_Mask (n : Int) (h : Heap) (Q : SV → Heap → Prop) : Prop :=
  (n < 0 → Q (.u64 (0#64)) h) ∧ (¬ (n < 0) → (U64 n) ∧ (0 ≤ n) ∧ Q (.u64 (~~~((18446744073709551615#64) <<< n.toNat))) h)
def cx_bits_Mask : Cx := { modes := [], pure := lkp [], loops := [], tails := [] }
theorem vc_bits_Mask_eq (n : Int) (h : Heap) (Q : SV → Heap → Prop) : vc_bits_Mask n h Q = vc Try.prog cx_bits_Mask (Try.f19.body.getD .skip) 1000000 (finQ [2] Q) ([SV.int .i64 n] ++ List.replicate (9 - ([SV.int .i64 n]).length) undefV) h := by kernel_rfl
theorem of_bits_Mask {n : Int} {h : Heap} {Q : SV → Heap → Prop} (H : vc_bits_Mask n h Q) : CallsH Try.prog 19 [.int .i64 n] h Q :=
  callsH_of_vc (cx := cx_bits_Mask) (cxOk TabOk.nil) (n := 9) (rs := [2]) Try.func19 (by kernel_rfl) (by kernel_rfl) Try.ntmps19 (by kernel_rfl) (Eq.mp (vc_bits_Mask_eq n h Q) H)
def p_bits_Mask : List SV → Pu
  | [.int .i64 n] => chk (I64 n) (.u64 (mask n))
  | _ => none
theorem bits_Mask_ok (n : Int) (hp : I64 n) (h : Heap) : CallsH Try.prog 19 [.int .i64 n] h (fun r_ h_ => r_ = .u64 (mask n) ∧ h_ = h) := by
  unfold I64 at hp
  refine of_bits_Mask ⟨fun h => ⟨?_, rfl⟩, fun h => ⟨?_, by omega, ?_, rfl⟩⟩
  · simp [mask, h]
  · unfold U64; omega
  · simp [mask, h]
theorem pureOk_bits_Mask : PureOk Try.prog 19 p_bits_Mask := by
  intro args
  unfold p_bits_Mask
  split
  · exact ok_chk fun hp h => (bits_Mask_ok _ hp h).mono fun r h' ⟨h1, h2⟩ => ⟨by rw [h1], h2⟩
  · exact ok_none


def vc_bits_Fits (v : BitVec 64) (n : Int) (h : Heap) (Q : SV → Heap → Prop) : Prop :=
  (I64 n) ∧ Q (.bool (decide ((v &&& ~~~(mask n)) = (0#64)))) h
def cx_bits_Fits : Cx := { modes := [], pure := lkp [(19, p_bits_Mask)], loops := [], tails := [] }
theorem vc_bits_Fits_eq (v : BitVec 64) (n : Int) (h : Heap) (Q : SV → Heap → Prop) : vc_bits_Fits v n h Q = vc Try.prog cx_bits_Fits (Try.f18.body.getD .skip) 1000000 (finQ [4] Q) ([SV.u64 v, .int .i64 n] ++ List.replicate (10 - ([SV.u64 v, .int .i64 n]).length) undefV) h := by kernel_rfl
theorem of_bits_Fits {v : BitVec 64} {n : Int} {h : Heap} {Q : SV → Heap → Prop} (H : vc_bits_Fits v n h Q) : CallsH Try.prog 18 [.u64 v, .int .i64 n] h Q :=
  callsH_of_vc (cx := cx_bits_Fits) (cxOk (TabOk.cons pureOk_bits_Mask TabOk.nil)) (n := 10) (rs := [4]) Try.func18 (by kernel_rfl) (by kernel_rfl) Try.ntmps18 (by kernel_rfl) (Eq.mp (vc_bits_Fits_eq v n h Q) H)
def p_bits_Fits : List SV → Pu
  | [.u64 v, .int .i64 n] => chk (I64 n) (.bool (fits v n))
  | _ => none
theorem bits_Fits_ok (v : BitVec 64) (n : Int) (hp : I64 n) (h : Heap) : CallsH Try.prog 18 [.u64 v, .int .i64 n] h (fun r_ h_ => r_ = .bool (fits v n) ∧ h_ = h) := by
  exact of_bits_Fits ⟨hp, rfl, rfl⟩
theorem pureOk_bits_Fits : PureOk Try.prog 18 p_bits_Fits := by
  intro args
  unfold p_bits_Fits
  split
  · exact ok_chk fun hp h => (bits_Fits_ok _ _ hp h).mono fun r h' ⟨h1, h2⟩ => ⟨by rw [h1], h2⟩
  · exact ok_none

def vc_bits_valid (p : Int) (n : Int) (h : Heap) (Q : SV → Heap → Prop) : Prop :=
  (p ≥ 0 → (n ≥ 0 → (p ≤ 64 → (I64 ((64 : Int) - p)) ∧ Q (.bool (decide (n ≤ ((64 : Int) - p)))) h) ∧ (¬ (p ≤ 64) → Q (.bool false) h)) ∧ (¬ (n ≥ 0) → Q (.bool false) h)) ∧ (¬ (p ≥ 0) → Q (.bool false) h)
def cx_bits_valid : Cx := { modes := [], pure := lkp [], loops := [], tails := [] }
theorem vc_bits_valid_eq (p : Int) (n : Int) (h : Heap) (Q : SV → Heap → Prop) : vc_bits_valid p n h Q = vc Try.prog cx_bits_valid (Try.f17.body.getD .skip) 1000000 (finQ [4] Q) ([SV.int .i64 p, .int .i64 n] ++ List.replicate (21 - ([SV.int .i64 p, .int .i64 n]).length) undefV) h := by kernel_rfl
theorem of_bits_valid {p : Int} {n : Int} {h : Heap} {Q : SV → Heap → Prop} (H : vc_bits_valid p n h Q) : CallsH Try.prog 17 [.int .i64 p, .int .i64 n] h Q :=
  callsH_of_vc (cx := cx_bits_valid) (cxOk TabOk.nil) (n := 21) (rs := [4]) Try.func17 (by kernel_rfl) (by kernel_rfl) Try.ntmps17 (by kernel_rfl) (Eq.mp (vc_bits_valid_eq p n h Q) H)
def p_bits_valid : List SV → Pu
  | [.int .i64 p, .int .i64 n] => val (.bool (okf p n))
  | _ => none
theorem bits_valid_ok (p : Int) (n : Int) (h : Heap) : CallsH Try.prog 17 [.int .i64 p, .int .i64 n] h (fun r_ h_ => r_ = .bool (okf p n) ∧ h_ = h) := by
  refine of_bits_valid ⟨fun h1 => ⟨fun h2 => ⟨fun h3 => ⟨?_, ?_, rfl⟩, fun h3 => ⟨?_, rfl⟩⟩, fun h2 => ⟨?_, rfl⟩⟩, fun h1 => ⟨?_, rfl⟩⟩
  · unfold I64; omega
  all_goals
    congr 1
    unfold okf
    first | (rw [Bool.eq_iff_iff]; simp; omega) | (symm; rw [decide_eq_false_iff_not]; omega)
theorem pureOk_bits_valid : PureOk Try.prog 17 p_bits_valid := by
  intro args
  unfold p_bits_valid
  split
  · exact ok_val fun h => (bits_valid_ok _ _ h).mono fun r h' ⟨h1, h2⟩ => ⟨by rw [h1], h2⟩
  · exact ok_none


theorem okf_bounds {p n : Int} (h : okf p n = true) : 0 ≤ p ∧ 0 ≤ n ∧ p ≤ 64 ∧ n ≤ 64 - p := by
  unfold okf at h; simpa using h

def vc_bits_Get (w : BitVec 64) (p : Int) (n : Int) (h : Heap) (Q : SV → Heap → Prop) : Prop :=
  ((!(okf p n)) = true → Q (.tup [.u64 (0#64), .int .i64 1]) h) ∧ ((!(okf p n)) = false → (U64 p) ∧ (0 ≤ p) ∧ (I64 n) ∧ Q (.tup [.u64 ((w >>> p.toNat) &&& (mask n)), .int .i64 0]) h)
def cx_bits_Get : Cx := { modes := [], pure := lkp [(17, p_bits_valid), (19, p_bits_Mask)], loops := [], tails := [] }
theorem vc_bits_Get_eq (w : BitVec 64) (p : Int) (n : Int) (h : Heap) (Q : SV → Heap → Prop) : vc_bits_Get w p n h Q = vc Try.prog cx_bits_Get (Try.f16.body.getD .skip) 1000000 (finQ [6, 7] Q) ([SV.u64 w, .int .i64 p, .int .i64 n] ++ List.replicate (19 - ([SV.u64 w, .int .i64 p, .int .i64 n]).length) undefV) h := by kernel_rfl
theorem of_bits_Get {w : BitVec 64} {p : Int} {n : Int} {h : Heap} {Q : SV → Heap → Prop} (H : vc_bits_Get w p n h Q) : CallsH Try.prog 16 [.u64 w, .int .i64 p, .int .i64 n] h Q :=
  callsH_of_vc (cx := cx_bits_Get) (cxOk (TabOk.cons pureOk_bits_valid (TabOk.cons pureOk_bits_Mask TabOk.nil))) (n := 19) (rs := [6, 7]) Try.func16 (by kernel_rfl) (by kernel_rfl) Try.ntmps16 (by kernel_rfl) (Eq.mp (vc_bits_Get_eq w p n h Q) H)
def p_bits_Get : List SV → Pu
  | [.u64 w, .int .i64 p, .int .i64 n] => val (.tup [.u64 (bget w p n), .int .i64 (bgetE p n)])
  | _ => none
theorem bits_Get_ok (w : BitVec 64) (p : Int) (n : Int) (h : Heap) : CallsH Try.prog 16 [.u64 w, .int .i64 p, .int .i64 n] h (fun r_ h_ => r_ = .tup [.u64 (bget w p n), .int .i64 (bgetE p n)] ∧ h_ = h) := by
  refine of_bits_Get ⟨fun h => ⟨?_, rfl⟩, fun h => ?_⟩
  · have : okf p n = false := by simpa using h
    simp [bget, bgetE, this]
  · have hk : okf p n = true := by simpa using h
    obtain ⟨h1, h2, h3, h4⟩ := okf_bounds hk
    refine ⟨?_, h1, ?_, ?_, rfl⟩
    · unfold U64; omega
    · unfold I64; omega
    · simp [bget, bgetE, hk]
theorem pureOk_bits_Get : PureOk Try.prog 16 p_bits_Get := by
  intro args
  unfold p_bits_Get
  split
  · exact ok_val fun h => (bits_Get_ok _ _ _ h).mono fun r h' ⟨h1, h2⟩ => ⟨by rw [h1], h2⟩
  · exact ok_none

def vc_bits_Put (w : BitVec 64) (p : Int) (n : Int) (v : BitVec 64) (h : Heap) (Q : SV → Heap → Prop) : Prop :=
  ((!(okf p n)) = true → Q (.tup [.u64 (0#64), .int .i64 1]) h) ∧ ((!(okf p n)) = false → (I64 n) ∧ ((!(fits v n)) = true → Q (.tup [.u64 (0#64), .int .i64 3]) h) ∧ ((!(fits v n)) = false → (I64 n) ∧ (U64 p) ∧ (0 ≤ p) ∧ (U64 p) ∧ (0 ≤ p) ∧ Q (.tup [.u64 ((w &&& ~~~((mask n) <<< p.toNat)) ||| (v <<< p.toNat)), .int .i64 0]) h))
def cx_bits_Put : Cx := { modes := [], pure := lkp [(17, p_bits_valid), (18, p_bits_Fits), (19, p_bits_Mask)], loops := [], tails := [] }
theorem vc_bits_Put_eq (w : BitVec 64) (p : Int) (n : Int) (v : BitVec 64) (h : Heap) (Q : SV → Heap → Prop) : vc_bits_Put w p n v h Q = vc Try.prog cx_bits_Put (Try.f15.body.getD .skip) 1000000 (finQ [8, 9] Q) ([SV.u64 w, .int .i64 p, .int .i64 n, .u64 v] ++ List.replicate (30 - ([SV.u64 w, .int .i64 p, .int .i64 n, .u64 v]).length) undefV) h := by kernel_rfl
theorem of_bits_Put {w : BitVec 64} {p : Int} {n : Int} {v : BitVec 64} {h : Heap} {Q : SV → Heap → Prop} (H : vc_bits_Put w p n v h Q) : CallsH Try.prog 15 [.u64 w, .int .i64 p, .int .i64 n, .u64 v] h Q :=
  callsH_of_vc (cx := cx_bits_Put) (cxOk (TabOk.cons pureOk_bits_valid (TabOk.cons pureOk_bits_Fits (TabOk.cons pureOk_bits_Mask TabOk.nil)))) (n := 30) (rs := [8, 9]) Try.func15 (by kernel_rfl) (by kernel_rfl) Try.ntmps15 (by kernel_rfl) (Eq.mp (vc_bits_Put_eq w p n v h Q) H)
def p_bits_Put : List SV → Pu
  | [.u64 w, .int .i64 p, .int .i64 n, .u64 v] => val (.tup [.u64 (bput w p n v), .int .i64 (bputE p n v)])
  | _ => none
theorem bits_Put_ok (w : BitVec 64) (p : Int) (n : Int) (v : BitVec 64) (h : Heap) : CallsH Try.prog 15 [.u64 w, .int .i64 p, .int .i64 n, .u64 v] h (fun r_ h_ => r_ = .tup [.u64 (bput w p n v), .int .i64 (bputE p n v)] ∧ h_ = h) := by
  refine of_bits_Put ⟨fun h => ⟨?_, rfl⟩, fun h => ?_⟩
  · have : okf p n = false := by simpa using h
    simp [bput, bputE, this]
  · have hk : okf p n = true := by simpa using h
    obtain ⟨h1, h2, h3, h4⟩ := okf_bounds hk
    have hi : I64 n := by unfold I64; omega
    have hu : U64 p := by unfold U64; omega
    refine ⟨hi, fun h => ⟨?_, rfl⟩, fun h => ⟨hi, hu, h1, hu, h1, ?_, rfl⟩⟩
    · have : fits v n = false := by simpa using h
      simp [bput, bputE, hk, this]
    · have : fits v n = true := by simpa using h
      simp [bput, bputE, hk, this]
theorem pureOk_bits_Put : PureOk Try.prog 15 p_bits_Put := by
  intro args
  unfold p_bits_Put
  split
  · exact ok_val fun h => (bits_Put_ok _ _ _ _ h).mono fun r h' ⟨h1, h2⟩ => ⟨by rw [h1], h2⟩
  · exact ok_none



end Go.Proofs.Ytdkigndboblimaa
