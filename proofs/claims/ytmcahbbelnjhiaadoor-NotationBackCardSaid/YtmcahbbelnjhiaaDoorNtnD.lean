/-
  What the reference reads from a text.
-/
import Derived.Test.YtmcahbbelnjhiaaDoorNtnC
set_option linter.unusedVariables false
set_option linter.unusedSimpArgs false
namespace Go.Proofs.YtmcahbbelnjhiaaDoor
open Go Go.V3

theorem loopO_upTo {σ β : Type} {f : σ → Option (σ ⊕ β)} {b : β} (I : Nat → σ → Prop) (n : Nat) (hs : ∀ k s, k < n → I k s → ∃ s', f s = some (.inl s') ∧ I (k + 1) s') (he : ∀ s, I n s → f s = some (.inr b)) {s : σ} (h : I 0 s) : loopO f s = some b := by
  obtain ⟨c, h1, h2⟩ := loopO_up I (fun c => c = b) n (fun k s hk hi => .inl (hs k s hk hi)) (fun s hi => ⟨b, he s hi, rfl⟩) h
  rw [h1, h2]
theorem rTake (s : ByteArray) (b : Bool) (t : ByteArray) : Fbeltwayref13_reader_take (s, b) t = some (match tok (bl t) (bl s) with | some r => (⟨r.toArray⟩, b) | none => (s, true)) := by
  unfold Fbeltwayref13_reader_take tok
  dsimp only
  rw [bl_len]
  by_cases h : (s.size : Int) < (t.size : Int)
  · rw [if_pos h, if_neg]
    intro e
    have := congrArg List.length e
    rw [List.length_take, bl_len, bl_len] at this
    omega
  rw [if_neg h, if_pos (show Bd none (some (t.size : Int)) _ _ from ⟨⟨by omega, by omega⟩, trivial⟩)]
  rw [show ((t.size : Int)).toNat = t.size by omega]
  have he : s.extract 0 t.size = t ↔ (bl s).take t.size = bl t := by
    constructor
    · intro e
      conv => rhs; rw [← e]
      rw [bl_ext]; rfl
    · intro e
      apply bl_inj
      rw [bl_ext]; exact e
  by_cases e : (bl s).take t.size = bl t
  · rw [if_neg (not_not_intro (he.mpr e)), if_pos (show Bd (some (t.size : Int)) none _ _ from ⟨trivial, by omega, by omega⟩), if_pos e]
    dsimp only
    rw [show s.extract t.size s.size = ⟨((bl s).drop t.size).toArray⟩ from bl_inj (by rw [bl_ext, List.take_of_length_le (by rw [List.length_drop, bl_len]; omega)]; exact (bl_mk _).symm)]
  · rw [if_pos (fun h => e (he.mp h)), if_neg e]
theorem dval_app (n : Nat) (l : By) (c : UInt8) : dval n (l ++ [c]) = dval n l * 10 + (c.toNat - 48) := by simp [dval]
theorem rDigits {s : ByteArray} {b : Bool} {n : Nat} (hs : s.size ≤ 1024) (hn : n ≤ s.size) (h4 : n ≤ 4) (hd : ∀ c ∈ (bl s).take n, dig c = true) :
    loopO (σ := (Int × Int)) (β := (Int × (ByteArray × Bool))) (fun s2 =>
if s2.2 < ((sbytes (s.extract 0 (n : Int).toNat)).length : Int) then
if 0 ≤ s2.2 ∧ s2.2 < ((sbytes (s.extract 0 (n : Int).toNat)).length : Int) then
some (Sum.inl ((w64 ((w64 (s2.1 * 10)) + (w64 (IntKind.wrap .u8 ((gl (0 : Int) (sbytes (s.extract 0 (n : Int).toNat)) s2.2.toNat) - 48)))), w64 (s2.2 + 1))))
else none
else Option.map Sum.inr (if Bd (some (n : Int)) none s.size s.size then
some ((s2.1, (s.extract (n : Int).toNat s.size, b)))
else none)) ((0, 0)) = some ((dval 0 ((bl s).take n) : Int), (⟨((bl s).drop n).toArray⟩, b)) := by
  have hlen : (sbytes (s.extract 0 (n : Int).toNat)).length = n := by
    rw [sbytes_bl, List.length_map, bl_len, ByteArray.size_extract]; omega
  have hget : ∀ k, k < n → gl (0 : Int) (sbytes (s.extract 0 (n : Int).toNat)) k = (((bl s)[k]?.getD 0).toNat : Int) := by
    intro k hk
    have hk' : k < (bl s).length := by rw [bl_len]; omega
    rw [sbytes_bl, bl_ext]
    unfold gl
    rw [List.getD_eq_getElem?_getD, List.getElem?_map, List.drop_zero, List.getElem?_take, if_pos (by omega), List.getElem?_eq_getElem hk']
    rfl
  have hex : s.extract (n : Int).toNat s.size = ⟨((bl s).drop n).toArray⟩ := bl_inj (by rw [bl_ext, show (n : Int).toNat = n by omega, List.take_of_length_le (by rw [List.length_drop, bl_len]; omega)]; exact (bl_mk _).symm)
  refine loopO_upTo (fun k (st : Int × Int) => st.2 = (k : Int) ∧ st.1 = (dval 0 ((bl s).take k) : Int)) n ?_ ?_ ⟨rfl, rfl⟩
  · rintro k ⟨v, i⟩ hk ⟨hi, hv⟩
    dsimp only at hi hv
    subst hi; subst hv
    have hk' : k < (bl s).length := by rw [bl_len]; omega
    have hc := hd ((bl s)[k]?.getD 0) (by
      rw [List.getElem?_eq_getElem hk', Option.getD_some]
      have : k < ((bl s).take n).length := by rw [List.length_take]; omega
      have h2 := List.getElem_mem this
      rwa [List.getElem_take] at h2)
    simp only [dig, decide_eq_true_eq] at hc
    have hb := dval_bound ((bl s).take k) 0 1 (fun c hc => hd c (List.mem_of_mem_take (by rw [List.take_take, Nat.min_eq_left (by omega : k ≤ n)]; exact hc))) (by omega)
    have hp : 10 ^ ((bl s).take k).length ≤ 10 ^ 4 := Nat.pow_le_pow_right (by omega) (by rw [List.length_take]; omega)
    refine ⟨(((dval 0 ((bl s).take (k + 1)) : Nat) : Int), (k : Int) + 1), ?_, by dsimp only; omega, rfl⟩
    dsimp only
    rw [hlen, if_pos (by omega), if_pos (by omega), show ((k : Int)).toNat = k by omega, hget k hk]
    have hw : IntKind.wrap .u8 ((((bl s)[k]?.getD 0).toNat : Int) - 48) = (((bl s)[k]?.getD 0).toNat : Int) - 48 := InK.wrap (k := .u8) ⟨by omega, by omega⟩
    have ht : dval 0 ((bl s).take (k + 1)) = dval 0 ((bl s).take k) * 10 + (((bl s)[k]?.getD 0).toNat - 48) := by
      rw [List.take_add_one, List.getElem?_eq_getElem hk', Option.toList_some, dval_app, Option.getD_some]
    rw [hw, w64_id (e := (k : Int) + 1) (by omega) (by omega), w64_id (e := (dval 0 ((bl s).take k) : Int) * 10) (by omega) (by omega), w64_id (e := (((bl s)[k]?.getD 0).toNat : Int) - 48) (by omega) (by omega), w64_id (by omega) (by omega), ht]
    congr 3
    omega
  · rintro ⟨v, i⟩ ⟨hi, hv⟩
    dsimp only at hi hv
    subst hi; subst hv
    dsimp only
    rw [hlen, if_neg (by omega), if_pos (show Bd (some (n : Int)) none _ _ from ⟨trivial, by omega, by omega⟩), hex]
    rfl
theorem rNum (s : ByteArray) (b : Bool) (hs : s.size ≤ 1024) : Fbeltwayref13_reader_number (s, b) = some (match num (bl s) with | some a => (a.1, (⟨a.2.toArray⟩, b)) | none => (0, (s, true))) := by
  generalize hl : bl s = l
  have hll : l.length = s.size := by rw [← hl, bl_len]
  have hn := tw_le dig l
  have hget : ∀ k : Nat, sget s (k : Int).toNat = ((l[k]?.getD 0).toNat : Int) := by
    intro k
    rw [sget_bl, hl]; rfl
  have key : (if ((l.takeWhile dig).length : Int) = 0 then
some ((0, (s, true)))
else if ((l.takeWhile dig).length : Int) > 4 then
some ((0, (s, true)))
else if ((l.takeWhile dig).length : Int) > 1 then
if 0 ≤ (0 : Int) ∧ (0 : Int) < (s.size : Int) then
if (sget s ((0 : Int).toNat)) = 48 then
some ((0, (s, true)))
else if Bd none (some ((l.takeWhile dig).length : Int)) ((l.takeWhile dig).length : Int).toNat s.size then
loopO (σ := (Int × Int)) (β := (Int × (ByteArray × Bool))) (fun s2 =>
if s2.2 < ((sbytes (s.extract 0 ((l.takeWhile dig).length : Int).toNat)).length : Int) then
if 0 ≤ s2.2 ∧ s2.2 < ((sbytes (s.extract 0 ((l.takeWhile dig).length : Int).toNat)).length : Int) then
some (Sum.inl ((w64 ((w64 (s2.1 * 10)) + (w64 (IntKind.wrap .u8 ((gl (0 : Int) (sbytes (s.extract 0 ((l.takeWhile dig).length : Int).toNat)) s2.2.toNat) - 48)))), w64 (s2.2 + 1))))
else none
else Option.map Sum.inr (if Bd (some ((l.takeWhile dig).length : Int)) none s.size s.size then
some ((s2.1, (s.extract ((l.takeWhile dig).length : Int).toNat s.size, b)))
else none)) ((0, 0))
else none
else none
else if Bd none (some ((l.takeWhile dig).length : Int)) ((l.takeWhile dig).length : Int).toNat s.size then
loopO (σ := (Int × Int)) (β := (Int × (ByteArray × Bool))) (fun s3 =>
if s3.2 < ((sbytes (s.extract 0 ((l.takeWhile dig).length : Int).toNat)).length : Int) then
if 0 ≤ s3.2 ∧ s3.2 < ((sbytes (s.extract 0 ((l.takeWhile dig).length : Int).toNat)).length : Int) then
some (Sum.inl ((w64 ((w64 (s3.1 * 10)) + (w64 (IntKind.wrap .u8 ((gl (0 : Int) (sbytes (s.extract 0 ((l.takeWhile dig).length : Int).toNat)) s3.2.toNat) - 48)))), w64 (s3.2 + 1))))
else none
else Option.map Sum.inr (if Bd (some ((l.takeWhile dig).length : Int)) none s.size s.size then
some ((s3.1, (s.extract ((l.takeWhile dig).length : Int).toNat s.size, b)))
else none)) ((0, 0))
else none) = some (match num l with | some a => (a.1, ((⟨a.2.toArray⟩ : ByteArray), b)) | none => (0, (s, true))) := by
    have nn : ((l.takeWhile dig).length < 1 ∨ 4 < (l.takeWhile dig).length ∨ (1 < (l.takeWhile dig).length ∧ l.head? = some 48)) → num l = none := fun h => if_pos h
    have ns : ¬ ((l.takeWhile dig).length < 1 ∨ 4 < (l.takeWhile dig).length ∨ (1 < (l.takeWhile dig).length ∧ l.head? = some 48)) → num l = some ((dval 0 (l.takeWhile dig) : Int), l.dropWhile dig) := fun h => if_neg h
    by_cases c1 : (l.takeWhile dig).length < 1
    · rw [if_pos (by omega), nn (.inl c1)]
    rw [if_neg (by omega)]
    by_cases c2 : 4 < (l.takeWhile dig).length
    · rw [if_pos (by omega), nn (.inr (.inl c2))]
    rw [if_neg (by omega)]
    have hD := rDigits (s := s) (b := b) (n := (l.takeWhile dig).length) hs (by omega) (by omega) (by rw [hl, ← tw_take]; exact tw_dig l)
    rw [hl, ← tw_take, ← dw_drop] at hD
    have hB : Bd none (some ((l.takeWhile dig).length : Int)) ((l.takeWhile dig).length : Int).toNat s.size := ⟨⟨by omega, by omega⟩, trivial⟩
    by_cases c3 : 1 < (l.takeWhile dig).length
    · rw [if_pos (by omega), if_pos (by omega)]
      have h0 : sget s ((0 : Int).toNat) = ((l[0]?.getD 0).toNat : Int) := hget 0
      by_cases c4 : l.head? = some 48
      · rw [if_pos (by rw [h0, ← List.head?_eq_getElem?, c4]; rfl), nn (.inr (.inr ⟨c3, c4⟩))]
      · rw [if_neg, if_pos hB, hD, ns (by rintro (h | h | h); exact c1 h; exact c2 h; exact c4 h.2)]
        intro h
        rw [h0, ← List.head?_eq_getElem?] at h
        apply c4
        cases hh : l.head? with
        | none => rw [hh] at h; revert h; decide
        | some c =>
          rw [hh] at h
          simp only [Option.getD_some] at h
          congr 1
          apply UInt8.toNat_inj.mp
          rw [show (48 : UInt8).toNat = 48 from rfl]
          omega
    · rw [if_neg (by omega), if_pos hB, hD, ns (by rintro (h | h | h); exact c1 h; exact c2 h; exact c3 h.1)]
  unfold Fbeltwayref13_reader_number
  refine loopO_run (l.takeWhile dig).length ?_ ?_
  · intro k hk
    have hd := tw_in dig l hk
    simp only [dig, decide_eq_true_eq] at hd
    have hgk := hget k
    dsimp only
    rw [hgk, if_pos (by omega), if_pos (by omega), if_pos (by omega), if_pos (by omega), if_pos (by omega), w64_id (by omega) (by omega)]
  · dsimp only
    by_cases c : (l.takeWhile dig).length < l.length
    · have hd := tw_out dig l c
      have hgk := hget (l.takeWhile dig).length
      rw [if_pos (by omega), if_pos (by omega)]
      simp only [dig, decide_eq_false_iff_not] at hd
      by_cases c2 : sget s ((l.takeWhile dig).length : Int).toNat ≥ 48
      · rw [if_pos c2, if_pos (by omega), if_neg (by omega), key]; rfl
      · rw [if_neg c2, key]; rfl
    · rw [if_neg (by omega), key]; rfl
end Go.Proofs.YtmcahbbelnjhiaaDoor
