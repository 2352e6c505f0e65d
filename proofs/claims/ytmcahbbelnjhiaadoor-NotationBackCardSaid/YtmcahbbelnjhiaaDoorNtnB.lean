/-
  What the program's reader of texts reads.
-/
import Derived.Test.YtmcahbbelnjhiaaDoorNtnA
import Derived.Test.YtmcahbbelnjhiaaDoorNtnX
set_option linter.unusedVariables false
set_option linter.unusedSimpArgs false
namespace Go.Proofs.YtmcahbbelnjhiaaDoor
open Go Go.V3

/-- A reader that has a text ahead. -/
def Pos (a : ByteArray × Int) (s : ByteArray) (l : By) : Prop := a.1 = s ∧ 0 ≤ a.2 ∧ a.2 ≤ s.size ∧ (bl s).drop a.2.toNat = l
theorem Pos.len {a : ByteArray × Int} {s : ByteArray} {l : By} (h : Pos a s l) : (l.length : Int) = s.size - a.2 := by
  obtain ⟨_, h0, h1, rfl⟩ := h
  rw [List.length_drop, bl_len]; omega
theorem Pos.go {a : ByteArray × Int} {s : ByteArray} {l : By} (h : Pos a s l) {k : Nat} (hk : k ≤ l.length) : Pos (s, a.2 + (k : Int)) s (l.drop k) := by
  have hl := h.len
  obtain ⟨_, h0, h1, rfl⟩ := h
  refine ⟨rfl, by dsimp only; omega, by dsimp only; omega, ?_⟩
  rw [List.drop_drop]
  dsimp only
  rw [show (a.2 + (k : Int)).toNat = a.2.toNat + k by omega]
theorem Pos.get {a : ByteArray × Int} {s : ByteArray} {l : By} (h : Pos a s l) (k : Nat) : sget s (a.2 + (k : Int)).toNat = ((l[k]?.getD 0).toNat : Int) := by
  obtain ⟨_, h0, h1, h2⟩ := h
  rw [show (a.2 + (k : Int)).toNat = a.2.toNat + k by omega]
  exact sget_drop h2 k
theorem Pos.cut {a : ByteArray × Int} {s : ByteArray} {l : By} (h : Pos a s l) {k : Nat} (hk : k ≤ l.length) : bl (s.extract a.2.toNat (a.2 + (k : Int)).toNat) = l.take k := by
  obtain ⟨_, h0, h1, h2⟩ := h
  rw [bl_ext, h2, show (a.2 + (k : Int)).toNat - a.2.toNat = k by omega]
theorem has_ok (a b : ByteArray) (hb : b.size ≤ 1000) : Fstrings_HasPrefix a b = some (decide ((bl a).take b.size = bl b)) := by
  unfold Fstrings_HasPrefix Finternal_stringslite_HasPrefix
  by_cases h : (a.size : Int) ≥ (b.size : Int)
  · rw [if_pos h, if_pos (show Bd none (some (b.size : Int)) _ _ from ⟨⟨by omega, h⟩, trivial⟩), Option.bind_some]
    congr 1
    rw [decide_eq_decide]
    rw [show ((b.size : Int)).toNat = b.size by omega]
    constructor
    · intro e
      conv => rhs; rw [← e]
      rw [bl_ext]; rfl
    · intro e
      apply bl_inj
      rw [bl_ext]; exact e
  · rw [if_neg h, Option.bind_some]
    congr 1
    symm
    rw [decide_eq_false_iff_not]
    intro e
    have := congrArg List.length e
    rw [List.length_take, bl_len, bl_len] at this
    omega
theorem pWord {a : ByteArray × Int} {s : ByteArray} {l : By} {t : ByteArray} (h : Pos a s l) (hs : s.size ≤ 1024) (ht : t.size ≤ 100) :
    (∃ r a', tok (bl t) l = some r ∧ Fnotation_reader_word a t = some (true, a') ∧ Pos a' s r) ∨ (tok (bl t) l = none ∧ Fnotation_reader_word a t = some (false, a)) := by
  have hl := h.len
  have hg := @Pos.go _ _ _ h t.size
  obtain ⟨rfl, h0, h1, h2⟩ := h
  unfold Fnotation_reader_word
  rw [if_pos (show Bd (some a.2) none _ _ from ⟨trivial, h0, h1⟩), has_ok _ _ (by omega), Option.bind_some]
  have hx : bl (a.1.extract a.2.toNat a.1.size) = l := by
    rw [bl_ext, h2, List.take_of_length_le]
    omega
  rw [hx]
  unfold tok
  rw [bl_len]
  by_cases e : l.take t.size = bl t
  · left
    rw [if_pos e]
    have hlen : t.size ≤ l.length := by
      have := congrArg List.length e
      rw [List.length_take, bl_len] at this
      omega
    refine ⟨_, _, rfl, ?_, hg hlen⟩
    rw [if_neg (by rw [decide_eq_true e]; decide), w64_id (by omega) (by omega)]
  · right
    rw [if_neg e]
    refine ⟨rfl, ?_⟩
    rw [if_pos (by rw [decide_eq_false e]; rfl)]
theorem scan_ok {β : Type} {f : (ByteArray × Int) → Option ((ByteArray × Int) ⊕ β)} {s : ByteArray} {a : Int} (n : Nat) (hs : ∀ k : Nat, k < n → f (s, a + k) = some (.inl (s, a + k + 1))) {r : β} (he : f (s, a + n) = some (.inr r)) : loopO f (s, a) = some r := by
  refine loopO_to (fun m (i : ByteArray × Int) => i = (s, a + (n - m : Int)) ∧ m ≤ n) (n := n) ?_ ⟨by rw [Int.sub_self, Int.add_zero], Nat.le_refl _⟩
  rintro m i ⟨rfl, hm⟩
  by_cases h0 : m = 0
  · subst h0
    left
    rw [show a + ((n : Int) - ((0 : Nat) : Int)) = a + n by omega]; exact he
  · right
    have := hs (n - m) (by omega)
    rw [show a + ((n - m : Nat) : Int) = a + ((n : Int) - m) by omega] at this
    exact ⟨m - 1, _, by omega, this, by rw [show a + ((n : Int) - (m : Int)) + 1 = a + ((n : Int) - ((m - 1 : Nat) : Int)) by omega], by omega⟩
theorem atoi_ok {e : ByteArray} (h0 : 1 ≤ e.size) (h1 : e.size ≤ 4) (hd : ∀ b ∈ bl e, dig b = true) : Fatoi e = some ((dval 0 (bl e) : Int), ()) := by
  unfold Fatoi
  rw [if_pos (by omega)]
  have : Lib.atoi e.data.toList = some (dval 0 (bl e) : Int) := atoi_dval _ (fun h => by have := bl_len e; unfold bl at this; rw [h] at this; simp at this; omega) hd
  rw [this]; rfl
theorem pNum {a : ByteArray × Int} {s : ByteArray} {l : By} {x : Int} (h : Pos a s l) (hs : s.size ≤ 1024) :
    (∃ v r a', num l = some (v, r) ∧ Fnotation_reader_number a x = some (true, a', v) ∧ Pos a' s r) ∨ (num l = none ∧ ∃ a', Fnotation_reader_number a x = some (false, a', x)) := by
  have hl := h.len
  have hn := tw_le dig l
  have hg := h.go hn
  have hc := h.cut hn
  rw [← tw_take] at hc
  have hget := h.get
  obtain ⟨rfl, h0, h1, h2⟩ := h
  obtain ⟨s, a⟩ := a
  dsimp only at *
  have hsz : (s.extract a.toNat (a + ((l.takeWhile dig).length : Int)).toNat).size = (l.takeWhile dig).length := by rw [← bl_len, hc]
  have key : ∃ b v, ((b = true ∧ num l = some (v, l.dropWhile dig)) ∨ (b = false ∧ v = x ∧ num l = none)) ∧ (if Bd (some a) (some (a + ((l.takeWhile dig).length : Int))) (a + ((l.takeWhile dig).length : Int)).toNat s.size then
if ((s.extract a.toNat (a + ((l.takeWhile dig).length : Int)).toNat).size : Int) < 1 then
some ((false, (s, a + ((l.takeWhile dig).length : Int)), x))
else if ((s.extract a.toNat (a + ((l.takeWhile dig).length : Int)).toNat).size : Int) > 4 then
some ((false, (s, a + ((l.takeWhile dig).length : Int)), x))
else if ((s.extract a.toNat (a + ((l.takeWhile dig).length : Int)).toNat).size : Int) > 1 then
if 0 ≤ (0 : Int) ∧ (0 : Int) < ((s.extract a.toNat (a + ((l.takeWhile dig).length : Int)).toNat).size : Int) then
if (sget (s.extract a.toNat (a + ((l.takeWhile dig).length : Int)).toNat) ((0 : Int).toNat)) = 48 then
some ((false, (s, a + ((l.takeWhile dig).length : Int)), x))
else Option.bind (Fatoi (s.extract a.toNat (a + ((l.takeWhile dig).length : Int)).toNat)) (fun r1 =>
some ((true, (s, a + ((l.takeWhile dig).length : Int)), r1.1)))
else none
else Option.bind (Fatoi (s.extract a.toNat (a + ((l.takeWhile dig).length : Int)).toNat)) (fun r2 =>
some ((true, (s, a + ((l.takeWhile dig).length : Int)), r2.1)))
else none) = some (b, (s, a + ((l.takeWhile dig).length : Int)), v) := by
    rw [if_pos (show Bd (some a) (some (a + ((l.takeWhile dig).length : Int))) _ _ from ⟨⟨by omega, by omega⟩, by omega, by omega⟩)]
    rw [hsz]
    have hfst : sget (s.extract a.toNat (a + ((l.takeWhile dig).length : Int)).toNat) ((0 : Int).toNat) = (((l.takeWhile dig)[0]?.getD 0).toNat : Int) := by rw [sget_bl, hc]; rfl
    have hfst2 : 1 < (l.takeWhile dig).length → (l.takeWhile dig)[0]? = l.head? := by
      intro hp
      rw [tw_take, List.getElem?_take, if_pos (by omega), List.head?_eq_getElem?]
    have nn : ((l.takeWhile dig).length < 1 ∨ 4 < (l.takeWhile dig).length ∨ (1 < (l.takeWhile dig).length ∧ l.head? = some 48)) → num l = none := fun h => if_pos h
    have ns : ¬ ((l.takeWhile dig).length < 1 ∨ 4 < (l.takeWhile dig).length ∨ (1 < (l.takeWhile dig).length ∧ l.head? = some 48)) → num l = some ((dval 0 (l.takeWhile dig) : Int), l.dropWhile dig) := fun h => if_neg h
    by_cases c1 : (l.takeWhile dig).length < 1
    · rw [if_pos (by omega)]
      exact ⟨false, x, .inr ⟨rfl, rfl, nn (.inl c1)⟩, rfl⟩
    rw [if_neg (by omega)]
    by_cases c2 : 4 < (l.takeWhile dig).length
    · rw [if_pos (by omega)]
      exact ⟨false, x, .inr ⟨rfl, rfl, nn (.inr (.inl c2))⟩, rfl⟩
    rw [if_neg (by omega)]
    have hat := atoi_ok (e := s.extract a.toNat (a + ((l.takeWhile dig).length : Int)).toNat) (by omega) (by omega) (by rw [hc]; exact tw_dig l)
    rw [hc] at hat
    by_cases c3 : 1 < (l.takeWhile dig).length
    · rw [if_pos (by omega), if_pos (by omega), hfst, hfst2 c3]
      by_cases c4 : l.head? = some 48
      · rw [if_pos (by rw [c4]; rfl)]
        exact ⟨false, x, .inr ⟨rfl, rfl, nn (.inr (.inr ⟨c3, c4⟩))⟩, rfl⟩
      · rw [if_neg, hat, Option.bind_some]
        · exact ⟨true, _, .inl ⟨rfl, ns (by rintro (h | h | h); exact c1 h; exact c2 h; exact c4 h.2)⟩, rfl⟩
        · intro h
          apply c4
          cases hh : l.head? with
          | none => rw [hh] at h; revert h; decide
          | some b =>
            rw [hh] at h
            simp only [Option.getD_some] at h
            congr 1
            apply UInt8.toNat_inj.mp
            rw [show (48 : UInt8).toNat = 48 from rfl]
            omega
    · rw [if_neg (by omega), hat, Option.bind_some]
      exact ⟨true, _, .inl ⟨rfl, ns (by rintro (h | h | h); exact c1 h; exact c2 h; exact c3 h.1)⟩, rfl⟩
  obtain ⟨b, v, hbv, key⟩ := key
  have main : Fnotation_reader_number (s, a) x = some (b, (s, a + ((l.takeWhile dig).length : Int)), v) := by
    unfold Fnotation_reader_number
    refine scan_ok (l.takeWhile dig).length ?_ ?_
    · intro k hk
      have hd := tw_in dig l hk
      simp only [dig, decide_eq_true_eq] at hd
      have hgk := hget k
      dsimp only
      rw [hgk, if_pos (by omega), if_pos (by omega), if_pos (by omega), if_pos (by omega), if_pos (by omega), w64_id (by omega) (by omega)]
    · dsimp only
      by_cases c : (l.takeWhile dig).length < l.length
      · have hd := tw_out dig l c
        have hgk := hget (l.takeWhile dig).length
        rw [if_pos (by omega), if_pos (by omega)]
        simp only [dig, decide_eq_false_iff_not] at hd
        by_cases c2 : sget s (a + ((l.takeWhile dig).length : Int)).toNat ≥ 48
        · rw [if_pos c2, if_pos (by omega), if_neg (by omega), key]; rfl
        · rw [if_neg c2, key]; rfl
      · rw [if_neg (by omega), key]; rfl
  rcases hbv with ⟨rfl, hv⟩ | ⟨rfl, rfl, hv⟩
  · exact .inl ⟨v, _, _, hv, main, by rw [dw_drop]; exact hg⟩
  · exact .inr ⟨hv, _, main⟩
end Go.Proofs.YtmcahbbelnjhiaaDoor
