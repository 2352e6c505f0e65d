/-
  Plain laws of texts: bytes, numerals, and the one grammar of configurations.
-/
import Derived.Lib.Atoi
import Derived.Lib.ItoaNum
import Derived.Test.YtmcahbbelnjhiaaDoorSpA
set_option linter.unusedVariables false
namespace Go.V3
open Go

/-! Bytes. -/
abbrev By : Type := List UInt8
def bl (s : ByteArray) : By := s.data.toList
theorem bl_len (s : ByteArray) : (bl s).length = s.size := by unfold bl; rw [Array.length_toList, ByteArray.size_data]
theorem bl_app (a b : ByteArray) : bl (a ++ b) = bl a ++ bl b := by unfold bl; rw [ByteArray.data_append, Array.toList_append]
theorem bl_ext (s : ByteArray) (a b : Nat) : bl (s.extract a b) = ((bl s).drop a).take (b - a) := by unfold bl; rw [ByteArray.data_extract, Array.toList_extract]
theorem bl_inj {a b : ByteArray} (h : bl a = bl b) : a = b := by
  apply ByteArray.ext; cases a; cases b; simpa [bl] using h
theorem bl_mk (l : By) : bl ⟨l.toArray⟩ = l := by simp [bl]
theorem mk_bl (s : ByteArray) : (⟨(bl s).toArray⟩ : ByteArray) = s := bl_inj (bl_mk _)
theorem sget_bl (s : ByteArray) (i : Nat) : sget s i = (((bl s)[i]?.getD 0).toNat : Int) := by unfold sget bl; rw [Array.getElem?_toList]
theorem sget_drop {s : ByteArray} {at_ : Nat} {l : By} (h : (bl s).drop at_ = l) (k : Nat) : sget s (at_ + k) = ((l[k]?.getD 0).toNat : Int) := by
  rw [sget_bl, ← h, List.getElem?_drop]
theorem sbytes_bl (s : ByteArray) : sbytes s = (bl s).map fun b => (b.toNat : Int) := rfl
theorem bstr_go (l : By) : ∀ r : ByteArray, bl ((l.map fun b => (b.toNat : Int)).foldl (fun r n => r.push (UInt8.ofNat n.toNat)) r) = bl r ++ l := by
  induction l with
  | nil => intro r; simp
  | cons a t ih =>
    intro r
    rw [List.map_cons, List.foldl_cons, ih]
    unfold bl
    simp
theorem bstr_bl (l : By) : bstr (l.map fun b => (b.toNat : Int)) = ⟨l.toArray⟩ := by
  apply bl_inj
  unfold bstr
  rw [bstr_go, bl_mk]; rfl

/-! Numerals. -/
def dig (b : UInt8) : Bool := decide (48 ≤ b.toNat ∧ b.toNat ≤ 57)
def dval (n : Nat) (l : By) : Nat := l.foldl (fun n b => n * 10 + (b.toNat - 48)) n
/-- A number at the head of a text. -/
def num (l : By) : Option (Int × By) :=
  if (l.takeWhile dig).length < 1 ∨ 4 < (l.takeWhile dig).length ∨ (1 < (l.takeWhile dig).length ∧ l.head? = some 48) then none else some ((dval 0 (l.takeWhile dig) : Int), l.dropWhile dig)
/-- A fixed text at the head of a text. -/
def tok (t l : By) : Option By := if l.take t.length = t then some (l.drop t.length) else none
theorem tok_some {t l r : By} (h : tok t l = some r) : l = t ++ r := by
  unfold tok at h
  split at h
  · rename_i e
    cases h
    conv => lhs; rw [← List.take_append_drop t.length l]
    rw [e]
  · cases h
theorem tok_app (t r : By) : tok t (t ++ r) = some r := by
  unfold tok
  rw [List.take_left, if_pos rfl, List.drop_left]
theorem tok_len {t l r : By} (h : tok t l = some r) : r.length + t.length = l.length := by
  rw [tok_some h, List.length_append]; omega
theorem tw_le (p : UInt8 → Bool) (l : By) : (l.takeWhile p).length ≤ l.length := by
  conv => rhs; rw [← List.takeWhile_append_dropWhile (p := p) (l := l), List.length_append]
  omega
theorem dw_drop (p : UInt8 → Bool) (l : By) : l.dropWhile p = l.drop (l.takeWhile p).length := by
  have h := congrArg (List.drop (l.takeWhile p).length) (List.takeWhile_append_dropWhile (p := p) (l := l))
  rwa [List.drop_left] at h
theorem tw_take (p : UInt8 → Bool) (l : By) : l.takeWhile p = l.take (l.takeWhile p).length := by
  conv => rhs; rhs; rw [← List.takeWhile_append_dropWhile (p := p) (l := l)]
  rw [List.take_left]
theorem tw_in (p : UInt8 → Bool) (l : By) {k : Nat} (h : k < (l.takeWhile p).length) : p (l[k]?.getD 0) = true := by
  have h1 : (l.takeWhile p)[k]? = l[k]? := by
    conv => lhs; rw [tw_take]
    rw [List.getElem?_take, if_pos h]
  rw [← h1, List.getElem?_eq_getElem h, Option.getD_some]
  exact (List.all_eq_true.mp (List.all_takeWhile (p := p) (l := l))) _ (List.getElem_mem h)
theorem tw_out (p : UInt8 → Bool) (l : By) (h : (l.takeWhile p).length < l.length) : p (l[(l.takeWhile p).length]?.getD 0) = false := by
  induction l with
  | nil => simp at h
  | cons a t ih =>
    by_cases ha : p a = true
    · rw [List.takeWhile_cons, if_pos ha] at h ⊢
      simp only [List.length_cons, List.getElem?_cons_succ] at h ⊢
      exact ih (by omega)
    · rw [List.takeWhile_cons, if_neg ha]
      simpa using ha
theorem num_len {l r : By} {v : Int} (h : num l = some (v, r)) : r.length < l.length := by
  unfold num at h
  split at h
  · cases h
  · rename_i e
    cases h
    have := congrArg List.length (List.takeWhile_append_dropWhile (p := dig) (l := l))
    rw [List.length_append] at this
    omega
theorem dval_bound : ∀ (l : By) (n m : Nat), (∀ b ∈ l, dig b = true) → n < m → dval n l < m * 10 ^ l.length
  | [], n, m, _, h => by simpa [dval] using h
  | b :: t, n, m, hd, h => by
    have hb := hd b (.head _)
    simp only [dig, decide_eq_true_eq] at hb
    have := dval_bound t (n * 10 + (b.toNat - 48)) (m * 10) (fun x hx => hd x (.tail _ hx)) (by omega)
    rw [List.length_cons, Nat.pow_succ, Nat.mul_comm (10 ^ _) 10, ← Nat.mul_assoc]
    exact this
theorem tw_dig (l : By) : ∀ b ∈ l.takeWhile dig, dig b = true := List.all_eq_true.mp List.all_takeWhile
theorem num_val {l r : By} {v : Int} (h : num l = some (v, r)) : 0 ≤ v ∧ v < 10000 := by
  unfold num at h
  split at h
  · cases h
  · rename_i e
    cases h
    have h1 := dval_bound (l.takeWhile dig) 0 1 (tw_dig l) (by omega)
    have h2 : 10 ^ (l.takeWhile dig).length ≤ 10 ^ 4 := Nat.pow_le_pow_right (by omega) (by omega)
    omega
theorem dec_dval : ∀ (l : By) (n : Nat), (∀ b ∈ l, dig b = true) → Lib.decFrom n l = some (dval n l)
  | [], n, _ => rfl
  | b :: t, n, hd => by
    have hb := hd b (.head _)
    simp only [dig, decide_eq_true_eq] at hb
    have h1 : Lib.digitVal b = some (b.toNat - 48) := by unfold Lib.digitVal; rw [if_pos hb]
    rw [Lib.decFrom, h1]
    exact dec_dval t _ fun x hx => hd x (.tail _ hx)
theorem atoi_dval (l : By) (h0 : l ≠ []) (hd : ∀ b ∈ l, dig b = true) : Lib.atoi l = some (dval 0 l : Int) := by
  cases l with
  | nil => exact absurd rfl h0
  | cons b t =>
    have hb := hd b (.head _)
    simp only [dig, decide_eq_true_eq] at hb
    have n45 : (b == 45) = false := by
      rw [beq_eq_false_iff_ne]; rintro rfl; revert hb; decide
    have n43 : (b == 43) = false := by
      rw [beq_eq_false_iff_ne]; rintro rfl; revert hb; decide
    rw [Lib.atoi, n45, n43]
    simp only [Bool.false_eq_true, if_false]
    unfold Lib.decNat
    rw [List.isEmpty_cons]
    simp only [Bool.false_eq_true, if_false]
    rw [dec_dval _ _ hd]
    rfl

/-! The grammar. -/
def pc (p : Int) : Nat := (fArith .quo (fOfInt p) 4636737291354636288).getD 0
def tAll : By := [97, 108, 108]
def gpt (l : By) : Option (Nat × By) :=
  match tok tAll l with
  | some r => some (0, r)
  | none => (num l).bind fun a => (tok [37] a.2).bind fun r => if 1 ≤ a.1 ∧ a.1 ≤ 100 then some (pc a.1, r) else none
def rule (l : By) : Option ((Nat × Int × Int × Int) × By) :=
  (gpt l).bind fun a => (tok [47] a.2).bind fun l1 => (num l1).bind fun b => (tok [47] b.2).bind fun l2 => (num l2).bind fun c => (tok [62] c.2).bind fun l3 => (num l3).bind fun d => some ((a.1, b.1, c.1, d.1), d.2)
def rules : Nat → By → Option (List (Nat × Int × Int × Int))
  | 0, _ => none
  | n + 1, l => (rule l).bind fun a => if a.2 = [] then some [a.1] else (tok [44, 32] a.2).bind fun l' => (rules n l').map (a.1 :: ·)
def nmc (b : UInt8) : Bool := decide ((97 ≤ b.toNat ∧ b.toNat ≤ 122) ∨ (48 ≤ b.toNat ∧ b.toNat ≤ 57) ∨ b.toNat = 45)
def tFull : By := [32, 102, 117, 108, 108, 32]
/-- What a text says. -/
def says (l : By) : Option (ByteArray × List (Nat × Int × Int × Int) × Int) :=
  if (l.takeWhile nmc).length < 1 ∨ 16 < (l.takeWhile nmc).length then none
  else (tok tFull (l.dropWhile nmc)).bind fun l1 => (num l1).bind fun a => (tok [58, 32] a.2).bind fun l2 => (rules 1025 l2).map fun rs => (⟨(l.takeWhile nmc).toArray⟩, rs, a.1)
theorem gpt_len {l r : By} {x : Nat} (h : gpt l = some (x, r)) : r.length < l.length := by
  unfold gpt at h
  split at h
  · rename_i r' e
    cases h
    have := tok_len e
    simp only [tAll, List.length_cons, List.length_nil] at this
    omega
  · obtain ⟨⟨v, r1⟩, e1, h⟩ := Option.bind_eq_some_iff.mp h
    obtain ⟨r2, e2, h⟩ := Option.bind_eq_some_iff.mp h
    have h1 := num_len e1
    have h2 := tok_len e2
    split at h
    · cases h
      simp only [List.length_cons, List.length_nil] at h2
      omega
    · cases h
theorem rule_len {l r : By} {x : Nat × Int × Int × Int} (h : rule l = some (x, r)) : r.length + 2 ≤ l.length := by
  unfold rule at h
  obtain ⟨⟨a, r0⟩, e0, h⟩ := Option.bind_eq_some_iff.mp h
  obtain ⟨r1, e1, h⟩ := Option.bind_eq_some_iff.mp h
  obtain ⟨⟨b, r2⟩, e2, h⟩ := Option.bind_eq_some_iff.mp h
  obtain ⟨r3, e3, h⟩ := Option.bind_eq_some_iff.mp h
  obtain ⟨⟨c, r4⟩, e4, h⟩ := Option.bind_eq_some_iff.mp h
  obtain ⟨r5, e5, h⟩ := Option.bind_eq_some_iff.mp h
  obtain ⟨⟨d, r6⟩, e6, h⟩ := Option.bind_eq_some_iff.mp h
  cases h
  have g0 := gpt_len e0
  have g1 := tok_len e1
  have g2 := num_len e2
  have g3 := tok_len e3
  have g4 := num_len e4
  have g5 := tok_len e5
  have g6 := num_len e6
  simp only [List.length_cons, List.length_nil] at g1 g3 g5
  dsimp only at *
  omega
end Go.V3
