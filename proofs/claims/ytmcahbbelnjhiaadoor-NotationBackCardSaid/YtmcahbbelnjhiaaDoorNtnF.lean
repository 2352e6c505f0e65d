/-
  Both parsers read the same from every text.
-/
import Derived.Test.YtmcahbbelnjhiaaDoorNtnE
set_option linter.unusedVariables false
set_option linter.unusedSimpArgs false
namespace Go.Proofs.YtmcahbbelnjhiaaDoor
open Go Go.V3

theorem rRest_ok {s : ByteArray} {m : Nat} (hs : s.size ≤ 1024) (hm : m ≤ s.size) : rRest s (m : Int) = some (match (tok tFull ((bl s).drop m)).bind fun l1 => (num l1).bind fun a => (tok [58, 32] a.2).bind fun l2 => (rules 1025 l2).map fun rs => (((s.extract 0 m, rs, a.1) : Cf)) with | some c => fin c | none => (zc, 11)) := by
  unfold rRest
  rw [if_pos (show Bd (some (m : Int)) none _ _ from ⟨trivial, by omega, by omega⟩), show ((m : Int)).toNat = m by omega]
  have h0 : Rd (s.extract m s.size, false) (some ((bl s).drop m)) := Rd.mk (by rw [bl_ext, List.take_of_length_le]; rw [List.length_drop, bl_len]; omega) (by rw [ByteArray.size_extract]; omega)
  obtain ⟨r1, f1, h1⟩ := tTake ⟨#[32, 102, 117, 108, 108, 32]⟩ h0
  rw [f1, Option.bind_some]
  rw [Option.bind_some, show bl (⟨#[32, 102, 117, 108, 108, 32]⟩ : ByteArray) = tFull from rfl] at h1
  obtain ⟨v2, r2, f2, h2, hv2⟩ := tNum' h1
  rw [f2, Option.bind_some]
  dsimp only
  obtain ⟨r3, f3, h3⟩ := tTake ⟨#[58, 32]⟩ h2
  rw [f3, Option.bind_some]
  rw [show bl (⟨#[58, 32]⟩ : ByteArray) = [58, 32] from rfl] at h3
  rw [rLoop_ok h3 (by rw [ByteArray.size_extract]; omega)]
  congr 1
  cases e1 : tok tFull ((bl s).drop m) with
  | none => rfl
  | some l1 =>
    rw [e1] at hv2
    simp only [Option.bind_some] at hv2 ⊢
    cases e2 : num l1 with
    | none => rfl
    | some a =>
      have := hv2 a e2
      subst this
      simp only [Option.bind_some, Option.map_some]
      cases e3 : tok [58, 32] a.2 with
      | none => rfl
      | some l3 =>
        simp only [Option.bind_some]
        cases rules 1025 l3 with
        | none => rfl
        | some rs => rfl
def nsp (b : UInt8) : Bool := decide (b.toNat ≠ 32)
theorem says_none {l : By} (h : (l.takeWhile nmc).length < (l.takeWhile nsp).length) : says l = none := by
  unfold says
  split
  · rfl
  · have hd := tw_in nsp l h
    cases e : tok tFull (l.dropWhile nmc) with
    | none => rfl
    | some r =>
      exfalso
      have h1 := tok_some e
      rw [dw_drop] at h1
      have h2 : l[(l.takeWhile nmc).length]? = some 32 := by
        have := congrArg (fun x : By => x[0]?) h1
        rw [List.getElem?_drop, Nat.add_zero] at this
        rw [this]; rfl
      rw [h2] at hd
      revert hd; decide
theorem nmc_le (l : By) : (l.takeWhile nmc).length ≤ (l.takeWhile nsp).length := by
  apply Nat.le_of_not_lt
  intro h
  have h1 := tw_in nmc l h
  have h2 := tw_out nsp l (Nat.lt_of_lt_of_le h (tw_le nmc l))
  simp only [nsp, ne_eq, decide_eq_false_iff_not, Decidable.not_not] at h2
  simp only [nmc, decide_eq_true_eq] at h1
  omega
theorem rTail_ok {s : ByteArray} (hs : s.size ≤ 1024) : rTail s (((bl s).takeWhile nsp).length : Int) = some (match says (bl s) with | some c => fin c | none => (zc, 11)) := by
  generalize hl : bl s = l
  have hm := tw_le nsp l
  have hll : l.length = s.size := by rw [← hl, bl_len]
  have hle := nmc_le l
  unfold rTail
  rw [if_pos (show Bd none (some ((l.takeWhile nsp).length : Int)) _ _ from ⟨⟨by omega, by omega⟩, trivial⟩), show ((l.takeWhile nsp).length : Int).toNat = (l.takeWhile nsp).length by omega]
  have says1 : ((l.takeWhile nsp).length < 1 ∨ 16 < (l.takeWhile nsp).length) → says l = none := by
    intro h
    by_cases c : (l.takeWhile nmc).length < (l.takeWhile nsp).length
    · exact says_none c
    · unfold says
      rw [if_pos (by omega)]
  by_cases c1 : (l.takeWhile nsp).length < 1
  · rw [if_pos (by omega), says1 (.inl c1)]; rfl
  rw [if_neg (by omega)]
  by_cases c2 : 16 < (l.takeWhile nsp).length
  · rw [if_pos (by omega), says1 (.inr c2)]; rfl
  rw [if_neg (by omega)]
  have hlen : (sbytes (s.extract 0 (l.takeWhile nsp).length)).length = (l.takeWhile nsp).length := by
    rw [sbytes_bl, List.length_map, bl_len, ByteArray.size_extract]; omega
  have hget : ∀ k : Nat, k < (l.takeWhile nsp).length → gl (0 : Int) (sbytes (s.extract 0 (l.takeWhile nsp).length)) (k : Int).toNat = ((l[k]?.getD 0).toNat : Int) := by
    intro k hk
    have hk' : k < l.length := by omega
    rw [sbytes_bl, bl_ext, hl]
    unfold gl
    rw [List.getD_eq_getElem?_getD, List.getElem?_map, List.drop_zero, List.getElem?_take, if_pos (by omega), show (k : Int).toNat = k by omega, List.getElem?_eq_getElem hk']
    rfl
  have hok : ∀ k : Nat, k < (l.takeWhile nmc).length → nmc (l[k]?.getD 0) = true := fun k hk => tw_in nmc l hk
  refine loopO_run (l.takeWhile nmc).length ?_ ?_
  · intro k hk
    have hd := tw_in nmc l hk
    simp only [nmc, decide_eq_true_eq] at hd
    rw [hlen, if_pos (by omega), if_pos (by omega), hget k (by omega), w64_id (by omega) (by omega)]
    rcases hd with hd | hd | hd
    · rw [if_neg (by omega), if_neg (by omega)]
    · rw [if_pos (by omega), if_neg (by omega), if_neg (by omega)]
    · rw [if_pos (by omega), if_pos (by omega), if_neg (by omega)]
  · rw [hlen]
    by_cases c : (l.takeWhile nmc).length < (l.takeWhile nsp).length
    · rw [says_none c, if_pos (by omega), if_pos (by omega), hget _ c]
      have hd := tw_out nmc l (by omega)
      simp only [nmc, decide_eq_false_iff_not] at hd
      by_cases d1 : ((l[(l.takeWhile nmc).length]?.getD 0).toNat : Int) < 97
      · rw [if_pos d1]
        by_cases d2 : ((l[(l.takeWhile nmc).length]?.getD 0).toNat : Int) < 48
        · rw [if_pos d2, if_pos (by omega)]; rfl
        · rw [if_neg d2, if_pos (by omega), if_pos (by omega)]; rfl
      · rw [if_neg d1, if_pos (by omega), if_neg (by omega), if_pos (by omega), if_pos (by omega)]; rfl
    · have he : (l.takeWhile nmc).length = (l.takeWhile nsp).length := by omega
      rw [if_neg (by omega), ← he, rRest_ok hs (by omega), hl]
      have hx : s.extract 0 (l.takeWhile nmc).length = ⟨(l.takeWhile nmc).toArray⟩ := bl_inj (by rw [bl_ext, hl, List.drop_zero, Nat.sub_zero, ← tw_take]; exact (bl_mk _).symm)
      rw [hx]
      unfold says
      rw [if_neg (show ¬ ((l.takeWhile nmc).length < 1 ∨ 16 < (l.takeWhile nmc).length) by omega), dw_drop]
      rfl
theorem rParse_ok (s : ByteArray) : Fbeltwayref13_Parse s = some (parse s) := by
  rw [rParse_form]
  unfold parse
  by_cases h : 1024 < s.size
  · rw [if_pos (by omega), if_pos h]; rfl
  rw [if_neg (by omega), if_neg h]
  have hT := rTail_ok (s := s) (by omega)
  have hm := tw_le nsp (bl s)
  rw [bl_len] at hm
  have hR : (match says (bl s) with | some c => fin c | none => (zc, 11)) = (match says (bl s) with | none => (zc, 11) | some c => if chk c = 0 then (c, 0) else (zc, chk c)) := by
    cases says (bl s) <;> rfl
  refine Eq.trans ?_ (congrArg some hR)
  refine loopO_run ((bl s).takeWhile nsp).length ?_ ?_
  · intro k hk
    have hd := tw_in nsp (bl s) hk
    simp only [nsp, ne_eq, decide_eq_true_eq] at hd
    rw [if_pos (by omega), if_pos (by omega), sget_bl, show ((k : Int)).toNat = k by omega, if_pos (by omega), w64_id (by omega) (by omega)]
  · rw [hT]
    by_cases c : ((bl s).takeWhile nsp).length < s.size
    · have hd := tw_out nsp (bl s) (by rw [bl_len]; exact c)
      simp only [nsp, ne_eq, decide_eq_false_iff_not, Decidable.not_not] at hd
      rw [if_pos (by omega), if_pos (by omega), sget_bl, Int.toNat_natCast, if_neg (by omega)]; rfl
    · rw [if_neg (by omega)]; rfl
end Go.Proofs.YtmcahbbelnjhiaaDoor
