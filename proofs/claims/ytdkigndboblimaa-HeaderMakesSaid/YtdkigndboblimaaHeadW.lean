/-
  Walks: package header, its reference, the examples of chapter 7.
-/
import Derived.Test.YtdkigndboblimaaBitsW
import Derived.Test.YtdkigndboblimaaLibHead
set_option linter.unusedVariables false
namespace Go.Proofs.Ytdkigndboblimaa
open Go Go.Vm

theorem hdec0 {w : BitVec 64} (h : hKind w = 0) : SV.tup [.int .i64 0, .int .i64 0, .int .i64 0, .bool false, .int .i64 12] = .tup [.int .i64 (hR w), .int .i64 (hD w), .int .i64 (hA w), .bool (hM w), .int .i64 (hE w)] := by
  simp [hR, hD, hA, hM, hE, h]
theorem hdec2 {w : BitVec 64} (h : hKind w = 2) {a : Int} (ha : a = ((w.toNat / 2 : Nat) : Int)) : SV.tup [.int .i64 0, .int .i64 0, .int .i64 a, .bool true, .int .i64 0] = .tup [.int .i64 (hR w), .int .i64 (hD w), .int .i64 (hA w), .bool (hM w), .int .i64 (hE w)] := by
  simp [hR, hD, hA, hM, hE, h, ha]
theorem hdec1 {w : BitVec 64} (h : hKind w = 1) {r d : Int} (hr : r = ((w.toNat / 2 % 128 : Nat) : Int)) (hd : d = ((w.toNat / 256 : Nat) : Int) - 1 - ((w.toNat / 2 % 128 : Nat) : Int)) :
    SV.tup [.int .i64 r, .int .i64 d, .int .i64 0, .bool false, .int .i64 0] = .tup [.int .i64 (hR w), .int .i64 (hD w), .int .i64 (hA w), .bool (hM w), .int .i64 (hE w)] := by
  simp [hR, hD, hA, hM, hE, h, hr, hd]
theorem hkind2 {w : BitVec 64} (h : w.toNat % 2 = 1) (h2 : w.toNat / 2 < 16384) : hKind w = 2 := by
  unfold hKind; simp only; rw [if_pos h, if_neg (by omega)]
theorem hkind02 {w : BitVec 64} (h : w.toNat % 2 = 1) (h2 : w.toNat / 2 ≥ 16384) : hKind w = 0 := by
  unfold hKind; simp only; rw [if_pos h, if_pos h2]
theorem hkind1 {w : BitVec 64} (h : ¬ w.toNat % 2 = 1) (h2 : ¬ (w.toNat / 2 % 128 > 15 ∨ w.toNat / 256 < 1 + w.toNat / 2 % 128 ∨ w.toNat / 256 > 1 + w.toNat / 2 % 128 + 32)) : hKind w = 1 := by
  unfold hKind; simp only; rw [if_neg h, if_neg h2]
theorem hkind01 {w : BitVec 64} (h : ¬ w.toNat % 2 = 1) (h2 : w.toNat / 2 % 128 > 15 ∨ w.toNat / 256 < 1 + w.toNat / 2 % 128 ∨ w.toNat / 256 > 1 + w.toNat / 2 % 128 + 32) : hKind w = 0 := by
  unfold hKind; simp only; rw [if_neg h, if_pos h2]

def vc_header_Live (r : Int) (d : Int) (h : Heap) (Q : SV → Heap → Prop) : Prop :=
  (r < 0 → Q (.tup [.u64 (0#64), .int .i64 13]) h) ∧ (¬ (r < 0) → (r > 15 → Q (.tup [.u64 (0#64), .int .i64 13]) h) ∧ (¬ (r > 15) → (d < 0 → Q (.tup [.u64 (0#64), .int .i64 13]) h) ∧ (¬ (d < 0) → (d > 32 → Q (.tup [.u64 (0#64), .int .i64 13]) h) ∧ (¬ (d > 32) → (I64 ((1 : Int) + r)) ∧ (I64 (((1 : Int) + r) + d)) ∧ Q (.tup [.u64 (bput (bput (0#64) (1 : Int) (7 : Int) (BitVec.ofInt 64 r)) (8 : Int) (8 : Int) (BitVec.ofInt 64 (((1 : Int) + r) + d))), .int .i64 0]) h))))
def cx_header_Live : Cx := { modes := [(24, 2), (34, 2)], pure := lkp [(15, p_bits_Put)], loops := [], tails := [] }
theorem vc_header_Live_eq (r : Int) (d : Int) (h : Heap) (Q : SV → Heap → Prop) : vc_header_Live r d h Q = vc Try.prog cx_header_Live (Try.f8.body.getD .skip) 1000000 (finQ [4, 5] Q) ([SV.int .i64 r, .int .i64 d] ++ List.replicate (39 - ([SV.int .i64 r, .int .i64 d]).length) undefV) h := by kernel_rfl
theorem of_header_Live {r : Int} {d : Int} {h : Heap} {Q : SV → Heap → Prop} (H : vc_header_Live r d h Q) : CallsH Try.prog 8 [.int .i64 r, .int .i64 d] h Q :=
  callsH_of_vc (cx := cx_header_Live) (cxOk (TabOk.cons pureOk_bits_Put TabOk.nil)) (n := 39) (rs := [4, 5]) Try.func8 (by kernel_rfl) (by kernel_rfl) Try.ntmps8 (by kernel_rfl) (Eq.mp (vc_header_Live_eq r d h Q) H)
def p_header_Live : List SV → Pu
  | [.int .i64 r, .int .i64 d] => val (.tup [.u64 (hLive r d), .int .i64 (hLiveE r d)])
  | _ => none
theorem header_Live_ok (r : Int) (d : Int) (h : Heap) : CallsH Try.prog 8 [.int .i64 r, .int .i64 d] h (fun r_ h_ => r_ = .tup [.u64 (hLive r d), .int .i64 (hLiveE r d)] ∧ h_ = h) := by
  refine of_header_Live ⟨fun h1 => ⟨?_, rfl⟩, fun h1 => ⟨fun h2 => ⟨?_, rfl⟩, fun h2 => ⟨fun h3 => ⟨?_, rfl⟩, fun h3 => ⟨fun h4 => ⟨?_, rfl⟩, fun h4 => ⟨by unfold I64; omega, by unfold I64; omega, ?_, rfl⟩⟩⟩⟩⟩
  · simp [hLive, hLiveE, h1]
  · simp [hLive, hLiveE, h2]
  · simp [hLive, hLiveE, h3]
  · simp [hLive, hLiveE, h4]
  · rw [hLive_put (by omega) (by omega) (by omega) (by omega), hLiveE, if_neg (by omega)]
theorem pureOk_header_Live : PureOk Try.prog 8 p_header_Live := by
  intro args
  unfold p_header_Live
  split
  · exact ok_val fun h => (header_Live_ok _ _ h).mono fun r h' ⟨h1, h2⟩ => ⟨by rw [h1], h2⟩
  · exact ok_none
def vc_beltwayref07_Live (r : Int) (d : Int) (h : Heap) (Q : SV → Heap → Prop) : Prop :=
  (r < 0 → Q (.tup [.u64 (0#64), .int .i64 13]) h) ∧ (¬ (r < 0) → (r > 15 → Q (.tup [.u64 (0#64), .int .i64 13]) h) ∧ (¬ (r > 15) → (d < 0 → Q (.tup [.u64 (0#64), .int .i64 13]) h) ∧ (¬ (d < 0) → (d > 32 → Q (.tup [.u64 (0#64), .int .i64 13]) h) ∧ (¬ (d > 32) → (I64 ((1 : Int) + r)) ∧ (I64 (((1 : Int) + r) + d)) ∧ (I64 ((((1 : Int) + r) + d) * 256)) ∧ (I64 (r * 2)) ∧ (I64 (((((1 : Int) + r) + d) * 256) + (r * 2))) ∧ Q (.tup [.u64 (BitVec.ofInt 64 (((((1 : Int) + r) + d) * 256) + (r * 2))), .int .i64 0]) h))))
def cx_beltwayref07_Live : Cx := { modes := [(28, 2)], pure := lkp [], loops := [], tails := [] }
theorem vc_beltwayref07_Live_eq (r : Int) (d : Int) (h : Heap) (Q : SV → Heap → Prop) : vc_beltwayref07_Live r d h Q = vc Try.prog cx_beltwayref07_Live (Try.f9.body.getD .skip) 1000000 (finQ [4, 5] Q) ([SV.int .i64 r, .int .i64 d] ++ List.replicate (29 - ([SV.int .i64 r, .int .i64 d]).length) undefV) h := by kernel_rfl
theorem of_beltwayref07_Live {r : Int} {d : Int} {h : Heap} {Q : SV → Heap → Prop} (H : vc_beltwayref07_Live r d h Q) : CallsH Try.prog 9 [.int .i64 r, .int .i64 d] h Q :=
  callsH_of_vc (cx := cx_beltwayref07_Live) (cxOk TabOk.nil) (n := 29) (rs := [4, 5]) Try.func9 (by kernel_rfl) (by kernel_rfl) Try.ntmps9 (by kernel_rfl) (Eq.mp (vc_beltwayref07_Live_eq r d h Q) H)
def p_beltwayref07_Live : List SV → Pu
  | [.int .i64 r, .int .i64 d] => val (.tup [.u64 (hLive r d), .int .i64 (hLiveE r d)])
  | _ => none
theorem beltwayref07_Live_ok (r : Int) (d : Int) (h : Heap) : CallsH Try.prog 9 [.int .i64 r, .int .i64 d] h (fun r_ h_ => r_ = .tup [.u64 (hLive r d), .int .i64 (hLiveE r d)] ∧ h_ = h) := by
  refine of_beltwayref07_Live ⟨fun h1 => ⟨?_, rfl⟩, fun h1 => ⟨fun h2 => ⟨?_, rfl⟩, fun h2 => ⟨fun h3 => ⟨?_, rfl⟩, fun h3 => ⟨fun h4 => ⟨?_, rfl⟩, fun h4 => ⟨by unfold I64; omega, by unfold I64; omega, by unfold I64; omega, by unfold I64; omega, by unfold I64; omega, ?_, rfl⟩⟩⟩⟩⟩
  · simp [hLive, hLiveE, h1]
  · simp [hLive, hLiveE, h2]
  · simp [hLive, hLiveE, h3]
  · simp [hLive, hLiveE, h4]
  · rw [hLive, if_neg (by omega), hLiveE, if_neg (by omega)]
theorem pureOk_beltwayref07_Live : PureOk Try.prog 9 p_beltwayref07_Live := by
  intro args
  unfold p_beltwayref07_Live
  split
  · exact ok_val fun h => (beltwayref07_Live_ok _ _ h).mono fun r h' ⟨h1, h2⟩ => ⟨by rw [h1], h2⟩
  · exact ok_none

def vc_header_Forward (a : Int) (h : Heap) (Q : SV → Heap → Prop) : Prop :=
  (a < 0 → Q (.tup [.u64 (0#64), .int .i64 2]) h) ∧ (¬ (a < 0) → (a > 16383 → Q (.tup [.u64 (0#64), .int .i64 2]) h) ∧ (¬ (a > 16383) → Q (.tup [.u64 (bput (1#64) (1 : Int) (32 : Int) (BitVec.ofInt 64 a)), .int .i64 0]) h))
def cx_header_Forward : Cx := { modes := [(14, 2)], pure := lkp [(15, p_bits_Put)], loops := [], tails := [] }
theorem vc_header_Forward_eq (a : Int) (h : Heap) (Q : SV → Heap → Prop) : vc_header_Forward a h Q = vc Try.prog cx_header_Forward (Try.f10.body.getD .skip) 1000000 (finQ [2, 3] Q) ([SV.int .i64 a] ++ List.replicate (19 - ([SV.int .i64 a]).length) undefV) h := by kernel_rfl
theorem of_header_Forward {a : Int} {h : Heap} {Q : SV → Heap → Prop} (H : vc_header_Forward a h Q) : CallsH Try.prog 10 [.int .i64 a] h Q :=
  callsH_of_vc (cx := cx_header_Forward) (cxOk (TabOk.cons pureOk_bits_Put TabOk.nil)) (n := 19) (rs := [2, 3]) Try.func10 (by kernel_rfl) (by kernel_rfl) Try.ntmps10 (by kernel_rfl) (Eq.mp (vc_header_Forward_eq a h Q) H)
def p_header_Forward : List SV → Pu
  | [.int .i64 a] => val (.tup [.u64 (hFwd a), .int .i64 (hFwdE a)])
  | _ => none
theorem header_Forward_ok (a : Int) (h : Heap) : CallsH Try.prog 10 [.int .i64 a] h (fun r_ h_ => r_ = .tup [.u64 (hFwd a), .int .i64 (hFwdE a)] ∧ h_ = h) := by
  refine of_header_Forward ⟨fun h1 => ⟨?_, rfl⟩, fun h1 => ⟨fun h2 => ⟨?_, rfl⟩, fun h2 => ⟨?_, rfl⟩⟩⟩
  · simp [hFwd, hFwdE, h1]
  · have : a ≥ 16384 := by omega
    simp [hFwd, hFwdE, this]
  · rw [hFwd_put (by omega) (by omega), hFwdE, if_neg (by omega)]
theorem pureOk_header_Forward : PureOk Try.prog 10 p_header_Forward := by
  intro args
  unfold p_header_Forward
  split
  · exact ok_val fun h => (header_Forward_ok _ h).mono fun r h' ⟨h1, h2⟩ => ⟨by rw [h1], h2⟩
  · exact ok_none
def vc_beltwayref07_Forward (a : Int) (h : Heap) (Q : SV → Heap → Prop) : Prop :=
  (a < 0 → Q (.tup [.u64 (0#64), .int .i64 2]) h) ∧ (¬ (a < 0) → (a ≥ 16384 → Q (.tup [.u64 (0#64), .int .i64 2]) h) ∧ (¬ (a ≥ 16384) → (I64 ((2 : Int) * a)) ∧ (I64 (((2 : Int) * a) + 1)) ∧ Q (.tup [.u64 (BitVec.ofInt 64 (((2 : Int) * a) + 1)), .int .i64 0]) h))
def cx_beltwayref07_Forward : Cx := { modes := [(13, 2)], pure := lkp [], loops := [], tails := [] }
theorem vc_beltwayref07_Forward_eq (a : Int) (h : Heap) (Q : SV → Heap → Prop) : vc_beltwayref07_Forward a h Q = vc Try.prog cx_beltwayref07_Forward (Try.f11.body.getD .skip) 1000000 (finQ [2, 3] Q) ([SV.int .i64 a] ++ List.replicate (14 - ([SV.int .i64 a]).length) undefV) h := by kernel_rfl
theorem of_beltwayref07_Forward {a : Int} {h : Heap} {Q : SV → Heap → Prop} (H : vc_beltwayref07_Forward a h Q) : CallsH Try.prog 11 [.int .i64 a] h Q :=
  callsH_of_vc (cx := cx_beltwayref07_Forward) (cxOk TabOk.nil) (n := 14) (rs := [2, 3]) Try.func11 (by kernel_rfl) (by kernel_rfl) Try.ntmps11 (by kernel_rfl) (Eq.mp (vc_beltwayref07_Forward_eq a h Q) H)
def p_beltwayref07_Forward : List SV → Pu
  | [.int .i64 a] => val (.tup [.u64 (hFwd a), .int .i64 (hFwdE a)])
  | _ => none
theorem beltwayref07_Forward_ok (a : Int) (h : Heap) : CallsH Try.prog 11 [.int .i64 a] h (fun r_ h_ => r_ = .tup [.u64 (hFwd a), .int .i64 (hFwdE a)] ∧ h_ = h) := by
  refine of_beltwayref07_Forward ⟨fun h1 => ⟨?_, rfl⟩, fun h1 => ⟨fun h2 => ⟨?_, rfl⟩, fun h2 => ⟨by unfold I64; omega, by unfold I64; omega, ?_, rfl⟩⟩⟩
  · simp [hFwd, hFwdE, h1]
  · simp [hFwd, hFwdE, h2]
  · rw [hFwd, if_neg (by omega), hFwdE, if_neg (by omega)]
theorem pureOk_beltwayref07_Forward : PureOk Try.prog 11 p_beltwayref07_Forward := by
  intro args
  unfold p_beltwayref07_Forward
  split
  · exact ok_val fun h => (beltwayref07_Forward_ok _ h).mono fun r h' ⟨h1, h2⟩ => ⟨by rw [h1], h2⟩
  · exact ok_none

def vc_header_Decode (w : BitVec 64) (h : Heap) (Q : SV → Heap → Prop) : Prop :=
  ((w &&& (1#64)) = (1#64) → ((bget w (1 : Int) (63 : Int)).toNat > (16383#64).toNat → Q (.tup [.int .i64 0, .int .i64 0, .int .i64 0, .bool false, .int .i64 12]) h) ∧ (¬ ((bget w (1 : Int) (63 : Int)).toNat > (16383#64).toNat) → (I64 ((bget w (1 : Int) (63 : Int)).toNat : Int)) ∧ Q (.tup [.int .i64 0, .int .i64 0, .int .i64 ((bget w (1 : Int) (63 : Int)).toNat : Int), .bool true, .int .i64 0]) h)) ∧ (¬ ((w &&& (1#64)) = (1#64)) → ((bget w (1 : Int) (7 : Int)).toNat > (15#64).toNat → Q (.tup [.int .i64 0, .int .i64 0, .int .i64 0, .bool false, .int .i64 12]) h) ∧ (¬ ((bget w (1 : Int) (7 : Int)).toNat > (15#64).toNat) → ((bget w (8 : Int) (56 : Int)).toNat < ((1#64) + (bget w (1 : Int) (7 : Int))).toNat → Q (.tup [.int .i64 0, .int .i64 0, .int .i64 0, .bool false, .int .i64 12]) h) ∧ (¬ ((bget w (8 : Int) (56 : Int)).toNat < ((1#64) + (bget w (1 : Int) (7 : Int))).toNat) → ((bget w (8 : Int) (56 : Int)).toNat > (((1#64) + (bget w (1 : Int) (7 : Int))) + (32#64)).toNat → Q (.tup [.int .i64 0, .int .i64 0, .int .i64 0, .bool false, .int .i64 12]) h) ∧ (¬ ((bget w (8 : Int) (56 : Int)).toNat > (((1#64) + (bget w (1 : Int) (7 : Int))) + (32#64)).toNat) → (I64 ((bget w (1 : Int) (7 : Int)).toNat : Int)) ∧ (I64 ((((bget w (8 : Int) (56 : Int)) - (1#64)) - (bget w (1 : Int) (7 : Int))).toNat : Int)) ∧ Q (.tup [.int .i64 ((bget w (1 : Int) (7 : Int)).toNat : Int), .int .i64 ((((bget w (8 : Int) (56 : Int)) - (1#64)) - (bget w (1 : Int) (7 : Int))).toNat : Int), .int .i64 0, .bool false, .int .i64 0]) h))))
def cx_header_Decode : Cx := { modes := [], pure := lkp [(16, p_bits_Get)], loops := [], tails := [] }
theorem vc_header_Decode_eq (w : BitVec 64) (h : Heap) (Q : SV → Heap → Prop) : vc_header_Decode w h Q = vc Try.prog cx_header_Decode (Try.f13.body.getD .skip) 1000000 (finQ [2, 3, 4, 5, 6] Q) ([SV.u64 w] ++ List.replicate (57 - ([SV.u64 w]).length) undefV) h := by kernel_rfl
theorem of_header_Decode {w : BitVec 64} {h : Heap} {Q : SV → Heap → Prop} (H : vc_header_Decode w h Q) : CallsH Try.prog 13 [.u64 w] h Q :=
  callsH_of_vc (cx := cx_header_Decode) (cxOk (TabOk.cons pureOk_bits_Get TabOk.nil)) (n := 57) (rs := [2, 3, 4, 5, 6]) Try.func13 (by kernel_rfl) (by kernel_rfl) Try.ntmps13 (by kernel_rfl) (Eq.mp (vc_header_Decode_eq w h Q) H)
def p_header_Decode : List SV → Pu
  | [.u64 w] => val (.tup [.int .i64 (hR w), .int .i64 (hD w), .int .i64 (hA w), .bool (hM w), .int .i64 (hE w)])
  | _ => none
theorem header_Decode_ok (w : BitVec 64) (h : Heap) : CallsH Try.prog 13 [.u64 w] h (fun r_ h_ => r_ = .tup [.int .i64 (hR w), .int .i64 (hD w), .int .i64 (hA w), .bool (hM w), .int .i64 (hE w)] ∧ h_ = h) := by
  have g1 := get_1_63 w
  have g2 := get_1_7 w
  have g3 := get_8_56 w
  have hw := w.isLt
  have c1 : (16383#64).toNat = 16383 := rfl
  have c2 : (15#64).toNat = 15 := rfl
  have a1 : (1#64 + bget w 1 7).toNat = 1 + w.toNat / 2 % 128 := by
    rw [BitVec.toNat_add, g2]; have : (1#64).toNat = 1 := rfl
    omega
  have a2 : (1#64 + bget w 1 7 + 32#64).toNat = 1 + w.toNat / 2 % 128 + 32 := by
    rw [BitVec.toNat_add, a1]; have : (32#64).toNat = 32 := rfl
    omega
  refine of_header_Decode ⟨fun h1 => ⟨fun h2 => ⟨?_, rfl⟩, fun h2 => ⟨?_, ?_, rfl⟩⟩, fun h1 => ⟨fun h2 => ⟨?_, rfl⟩, fun h2 => ⟨fun h3 => ⟨?_, rfl⟩, fun h3 => ⟨fun h4 => ⟨?_, rfl⟩, fun h4 => ⟨?_, ?_, ?_, rfl⟩⟩⟩⟩⟩
  · exact hdec0 (hkind02 ((and_one w).1 h1) (by omega))
  · unfold I64; omega
  · exact hdec2 (hkind2 ((and_one w).1 h1) (by omega)) (by rw [g1])
  · exact hdec0 (hkind01 (fun h => h1 ((and_one w).2 h)) (by omega))
  · exact hdec0 (hkind01 (fun h => h1 ((and_one w).2 h)) (by omega))
  · exact hdec0 (hkind01 (fun h => h1 ((and_one w).2 h)) (by omega))
  · unfold I64; omega
  · have e : ((bget w 8 56 - 1#64) - bget w 1 7).toNat = w.toNat / 256 - 1 - w.toNat / 2 % 128 := by
      rw [BitVec.toNat_sub, BitVec.toNat_sub, g2, g3]; have : (1#64).toNat = 1 := rfl
      omega
    rw [e]; unfold I64; omega
  · have e : ((bget w 8 56 - 1#64) - bget w 1 7).toNat = w.toNat / 256 - 1 - w.toNat / 2 % 128 := by
      rw [BitVec.toNat_sub, BitVec.toNat_sub, g2, g3]; have : (1#64).toNat = 1 := rfl
      omega
    exact hdec1 (hkind1 (fun h => h1 ((and_one w).2 h)) (by omega)) (by rw [g2]) (by rw [e]; omega)
theorem pureOk_header_Decode : PureOk Try.prog 13 p_header_Decode := by
  intro args
  unfold p_header_Decode
  split
  · exact ok_val fun h => (header_Decode_ok _ h).mono fun r h' ⟨h1, h2⟩ => ⟨by rw [h1], h2⟩
  · exact ok_none

def vc_beltwayref07_Decode (w : BitVec 64) (h : Heap) (Q : SV → Heap → Prop) : Prop :=
  (¬ (2#64) = 0#64) ∧ ((w % (2#64)) = (1#64) → (¬ (2#64) = 0#64) ∧ ((w / (2#64)).toNat ≥ (16384#64).toNat → Q (.tup [.int .i64 0, .int .i64 0, .int .i64 0, .bool false, .int .i64 12]) h) ∧ (¬ ((w / (2#64)).toNat ≥ (16384#64).toNat) → (¬ (2#64) = 0#64) ∧ (I64 ((w / (2#64)).toNat : Int)) ∧ Q (.tup [.int .i64 0, .int .i64 0, .int .i64 ((w / (2#64)).toNat : Int), .bool true, .int .i64 0]) h)) ∧ (¬ ((w % (2#64)) = (1#64)) → (¬ (256#64) = 0#64) ∧ (¬ (2#64) = 0#64) ∧ (I64 (((w % (256#64)) / (2#64)).toNat : Int)) ∧ (¬ (256#64) = 0#64) ∧ ((w / (256#64)).toNat > (48#64).toNat → Q (.tup [.int .i64 0, .int .i64 0, .int .i64 0, .bool false, .int .i64 12]) h) ∧ (¬ ((w / (256#64)).toNat > (48#64).toNat) → ((((w % (256#64)) / (2#64)).toNat : Int) > 15 → Q (.tup [.int .i64 0, .int .i64 0, .int .i64 0, .bool false, .int .i64 12]) h) ∧ (¬ ((((w % (256#64)) / (2#64)).toNat : Int) > 15) → (I64 ((w / (256#64)).toNat : Int)) ∧ (I64 ((1 : Int) + (((w % (256#64)) / (2#64)).toNat : Int))) ∧ (((w / (256#64)).toNat : Int) < ((1 : Int) + (((w % (256#64)) / (2#64)).toNat : Int)) → Q (.tup [.int .i64 0, .int .i64 0, .int .i64 0, .bool false, .int .i64 12]) h) ∧ (¬ (((w / (256#64)).toNat : Int) < ((1 : Int) + (((w % (256#64)) / (2#64)).toNat : Int))) → (I64 ((w / (256#64)).toNat : Int)) ∧ (I64 (((w / (256#64)).toNat : Int) - 1)) ∧ (I64 ((((w / (256#64)).toNat : Int) - 1) - (((w % (256#64)) / (2#64)).toNat : Int))) ∧ (((((w / (256#64)).toNat : Int) - 1) - (((w % (256#64)) / (2#64)).toNat : Int)) > 32 → Q (.tup [.int .i64 0, .int .i64 0, .int .i64 0, .bool false, .int .i64 12]) h) ∧ (¬ (((((w / (256#64)).toNat : Int) - 1) - (((w % (256#64)) / (2#64)).toNat : Int)) > 32) → (I64 ((w / (256#64)).toNat : Int)) ∧ (I64 (((w / (256#64)).toNat : Int) - 1)) ∧ (I64 ((((w / (256#64)).toNat : Int) - 1) - (((w % (256#64)) / (2#64)).toNat : Int))) ∧ Q (.tup [.int .i64 (((w % (256#64)) / (2#64)).toNat : Int), .int .i64 ((((w / (256#64)).toNat : Int) - 1) - (((w % (256#64)) / (2#64)).toNat : Int)), .int .i64 0, .bool false, .int .i64 0]) h)))))
def cx_beltwayref07_Decode : Cx := { modes := [], pure := lkp [], loops := [], tails := [] }
theorem vc_beltwayref07_Decode_eq (w : BitVec 64) (h : Heap) (Q : SV → Heap → Prop) : vc_beltwayref07_Decode w h Q = vc Try.prog cx_beltwayref07_Decode (Try.f14.body.getD .skip) 1000000 (finQ [2, 3, 4, 5, 6] Q) ([SV.u64 w] ++ List.replicate (51 - ([SV.u64 w]).length) undefV) h := by kernel_rfl
theorem of_beltwayref07_Decode {w : BitVec 64} {h : Heap} {Q : SV → Heap → Prop} (H : vc_beltwayref07_Decode w h Q) : CallsH Try.prog 14 [.u64 w] h Q :=
  callsH_of_vc (cx := cx_beltwayref07_Decode) (cxOk TabOk.nil) (n := 51) (rs := [2, 3, 4, 5, 6]) Try.func14 (by kernel_rfl) (by kernel_rfl) Try.ntmps14 (by kernel_rfl) (Eq.mp (vc_beltwayref07_Decode_eq w h Q) H)
def p_beltwayref07_Decode : List SV → Pu
  | [.u64 w] => val (.tup [.int .i64 (hR w), .int .i64 (hD w), .int .i64 (hA w), .bool (hM w), .int .i64 (hE w)])
  | _ => none
theorem beltwayref07_Decode_ok (w : BitVec 64) (h : Heap) : CallsH Try.prog 14 [.u64 w] h (fun r_ h_ => r_ = .tup [.int .i64 (hR w), .int .i64 (hD w), .int .i64 (hA w), .bool (hM w), .int .i64 (hE w)] ∧ h_ = h) := by
  have hw := w.isLt
  have c2 : (2#64).toNat = 2 := rfl
  have c3 : (256#64).toNat = 256 := rfl
  have c4 : (48#64).toNat = 48 := rfl
  have c5 : (16384#64).toNat = 16384 := rfl
  have g1 : (w / 2#64).toNat = w.toNat / 2 := by rw [BitVec.toNat_udiv, c2]
  have g2 : ((w % 256#64) / 2#64).toNat = w.toNat / 2 % 128 := by rw [BitVec.toNat_udiv, BitVec.toNat_umod, c2, c3]; omega
  have g3 : (w / 256#64).toNat = w.toNat / 256 := by rw [BitVec.toNat_udiv, c3]
  have n2 : ¬ 2#64 = 0#64 := by decide
  have n3 : ¬ 256#64 = 0#64 := by decide
  refine of_beltwayref07_Decode ⟨n2, fun h1 => ⟨n2, fun h2 => ⟨?_, rfl⟩, fun h2 => ⟨n2, ?_, ?_, rfl⟩⟩, fun h1 => ⟨n3, n2, ?_, n3, fun h2 => ⟨?_, rfl⟩, fun h2 => ⟨fun h3 => ⟨?_, rfl⟩, fun h3 => ⟨?_, ?_, fun h4 => ⟨?_, rfl⟩, fun h4 => ⟨?_, ?_, ?_, fun h5 => ⟨?_, rfl⟩, fun h5 => ⟨?_, ?_, ?_, ?_, rfl⟩⟩⟩⟩⟩⟩
  · exact hdec0 (hkind02 ((rem_two w).1 h1) (by omega))
  · unfold I64; omega
  · exact hdec2 (hkind2 ((rem_two w).1 h1) (by omega)) (by rw [g1])
  · unfold I64; omega
  · exact hdec0 (hkind01 (fun h => h1 ((rem_two w).2 h)) (by omega))
  · exact hdec0 (hkind01 (fun h => h1 ((rem_two w).2 h)) (by omega))
  · unfold I64; omega
  · unfold I64; omega
  · exact hdec0 (hkind01 (fun h => h1 ((rem_two w).2 h)) (by omega))
  · unfold I64; omega
  · unfold I64; omega
  · unfold I64; omega
  · exact hdec0 (hkind01 (fun h => h1 ((rem_two w).2 h)) (by omega))
  · unfold I64; omega
  · unfold I64; omega
  · unfold I64; omega
  · exact hdec1 (hkind1 (fun h => h1 ((rem_two w).2 h)) (by omega)) (by rw [g2]) (by rw [g2, g3])
theorem pureOk_beltwayref07_Decode : PureOk Try.prog 14 p_beltwayref07_Decode := by
  intro args
  unfold p_beltwayref07_Decode
  split
  · exact ok_val fun h => (beltwayref07_Decode_ok _ h).mono fun r h' ⟨h1, h2⟩ => ⟨by rw [h1], h2⟩
  · exact ok_none

def vc_beltwaylaw07_awake  (h : Heap) (Q : SV → Heap → Prop) : Prop :=
  ((hLiveE (2 : Int) (3 : Int)) = 0 → ((hFwdE (5 : Int)) = 0 → ((hLive (2 : Int) (3 : Int)) = (1540#64) → Q (.bool (decide ((hFwd (5 : Int)) = (11#64)))) h) ∧ (¬ ((hLive (2 : Int) (3 : Int)) = (1540#64)) → Q (.bool false) h)) ∧ (¬ ((hFwdE (5 : Int)) = 0) → Q (.bool false) h)) ∧ (¬ ((hLiveE (2 : Int) (3 : Int)) = 0) → Q (.bool false) h)
def cx_beltwaylaw07_awake : Cx := { modes := [], pure := lkp [(8, p_header_Live), (10, p_header_Forward)], loops := [], tails := [] }
theorem vc_beltwaylaw07_awake_eq  (h : Heap) (Q : SV → Heap → Prop) : vc_beltwaylaw07_awake  h Q = vc Try.prog cx_beltwaylaw07_awake (Try.f12.body.getD .skip) 1000000 (finQ [0] Q) (([] : List SV) ++ List.replicate (27 - (([] : List SV)).length) undefV) h := by kernel_rfl
theorem of_beltwaylaw07_awake  {h : Heap} {Q : SV → Heap → Prop} (H : vc_beltwaylaw07_awake  h Q) : CallsH Try.prog 12 [] h Q :=
  callsH_of_vc (cx := cx_beltwaylaw07_awake) (cxOk (TabOk.cons pureOk_header_Live (TabOk.cons pureOk_header_Forward TabOk.nil))) (n := 27) (rs := [0]) Try.func12 (by kernel_rfl) (by kernel_rfl) Try.ntmps12 (by kernel_rfl) (Eq.mp (vc_beltwaylaw07_awake_eq  h Q) H)
def p_beltwaylaw07_awake : List SV → Pu
  | [] => val (.bool true)
  | _ => none
theorem beltwaylaw07_awake_ok  (h : Heap) : CallsH Try.prog 12 [] h (fun r_ h_ => r_ = .bool true ∧ h_ = h) := by
  have e1 : hLiveE 2 3 = 0 := by decide
  have e2 : hFwdE 5 = 0 := by decide
  have e3 : hLive 2 3 = 1540#64 := by decide
  have e4 : hFwd 5 = 11#64 := by decide
  refine of_beltwaylaw07_awake ⟨fun _ => ⟨fun _ => ⟨fun _ => ?_, fun h => absurd e3 h⟩, fun h => absurd e2 h⟩, fun h => absurd e1 h⟩
  rw [e4]
  exact ⟨rfl, rfl⟩
theorem pureOk_beltwaylaw07_awake : PureOk Try.prog 12 p_beltwaylaw07_awake := by
  intro args
  unfold p_beltwaylaw07_awake
  split
  · exact ok_val fun h => (beltwaylaw07_awake_ok  h).mono fun r h' ⟨h1, h2⟩ => ⟨by rw [h1], h2⟩
  · exact ok_none
end Go.Proofs.Ytdkigndboblimaa
