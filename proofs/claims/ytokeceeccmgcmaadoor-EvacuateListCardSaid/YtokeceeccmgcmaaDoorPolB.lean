/-
  Plain laws of package pool: free frames, frames taken and given back.
-/
import Derived.Test.YtokeceeccmgcmaaDoorSpI
import Derived.Test.YtokeceeccmgcmaaDoorPolA
set_option linter.unusedVariables false
namespace Go.Proofs.YtokeceeccmgcmaaDoor
open Go Go.V3

def tzK (k : Nat) : Option Int := (letv ((BitVec.twoPow 64 k) * (285870213051353865#64)) (fun (v1 : BitVec 64) =>
if True then
if 0 ≤ ((v1 >>> (58#64).toNat).toNat : Int) ∧ ((v1 >>> (58#64).toNat).toNat : Int) < ((64 : Nat) : Int) then
if 0 + ((v1 >>> (58#64).toNat).toNat : Int).toNat < tab0.size then
letv (w64 (tget tab0 (0 + ((v1 >>> (58#64).toNat).toNat : Int).toNat))) (fun (v2 : Int) =>
some (v2))
else none
else none
else none))
theorem tzK_ok : ∀ k : Fin 64, tzK k.1 = some (k.1 : Int) := by decide +kernel
theorem tz_ok {w : BitVec 64} (hw : w ≠ 0#64) : ∃ k : Nat, k < 64 ∧ Fmath_bits_TrailingZeros64 w = some (k : Int) ∧ bitsL w = k :: bitsL (w &&& (w - 1#64)) := by
  obtain ⟨k, hk, h1, h2⟩ := bits_step hw
  refine ⟨k, hk, ?_, h1⟩
  unfold Fmath_bits_TrailingZeros64
  rw [if_neg hw, BitVec.zero_sub, h2]
  exact tzK_ok ⟨k, hk⟩
theorem bitsL_len (w : BitVec 64) : (bitsL w).length ≤ 64 := by
  have := List.length_filter_le (fun i => w.getLsbD i) (List.range 64)
  rw [List.length_range] at this
  exact this
/-- All frames of an owner bear its stamp. -/
def StOk (s : Sp) (o st : Int) : Prop := ∀ x : Int, 0 ≤ x → x < s.2.2.length → (fr s.2.2 x).1 = o → (fr s.2.2 x).2.1 = st
open Classical in
/-- What becomes of a frame that is taken. -/
noncomputable def takeR (s : Sp) (o b : Int) : Sp × Int × Int :=
  if StOk s o (b * 4294967296 + o) then (match frees s.2.2 with
    | [] => ((0, [], []), 0, 4)
    | f :: _ => ((s.1, s.2.1, s.2.2.set f.toNat (o, b * 4294967296 + o, -1)), f, 0))
  else ((0, [], []), 0, 5)
theorem take_loop {β : Type} {s : Sp} {o st : Int} {f : Int → Option (Int ⊕ β)} {bad r : β}
    (hs : ∀ k : Nat, k < s.2.2.length → f k = if (fr s.2.2 k).1 = o then (if ¬ (fr s.2.2 k).2.1 = st then some (.inr bad) else some (.inl ((k : Int) + 1))) else some (.inl ((k : Int) + 1)))
    (he : StOk s o st → f s.2.2.length = some (.inr r)) : (StOk s o st → loopO f 0 = some r) ∧ (¬ StOk s o st → loopO f 0 = some bad) := by
  constructor
  · intro h
    refine loopO_run s.2.2.length (fun k hk => ?_) (he h)
    rw [hs k hk]
    by_cases ho : (fr s.2.2 k).1 = o
    · rw [if_pos ho, if_neg (by simp [h k (by omega) (by omega) ho])]
    · rw [if_neg ho]
  · intro h
    refine (loopO_up (fun k (i : Int) => i = (k : Int) ∧ k ≤ s.2.2.length ∧ ∀ x : Int, 0 ≤ x → x < k → (fr s.2.2 x).1 = o → (fr s.2.2 x).2.1 = st) (fun r => r = bad) s.2.2.length ?_ ?_ (s := (0 : Int)) ⟨rfl, by omega, fun x x0 x1 => by omega⟩).elim fun r hr => by rw [hr.1, hr.2]
    · rintro k i hk ⟨rfl, _, hx⟩
      rw [hs k hk]
      by_cases ho : (fr s.2.2 k).1 = o
      · rw [if_pos ho]
        by_cases hs : (fr s.2.2 k).2.1 = st
        · rw [if_neg (not_not_intro hs)]
          refine .inl ⟨_, rfl, by omega, by omega, fun x x0 x1 hxo => ?_⟩
          by_cases hxk : x = k
          · rw [hxk]; exact hs
          · exact hx x x0 (by omega) hxo
        · rw [if_pos hs]
          exact .inr ⟨_, rfl, rfl⟩
      · rw [if_neg ho]
        refine .inl ⟨_, rfl, by omega, by omega, fun x x0 x1 hxo => ?_⟩
        by_cases hxk : x = k
        · rw [hxk] at hxo; exact absurd hxo ho
        · exact hx x x0 (by omega) hxo
    · rintro i ⟨rfl, _, hx⟩
      exact absurd hx h
theorem takeR_len {s : Sp} (h : VS s) (o b : Int) : (takeR s o b).1.2.1.length ≤ 16384 ∧ (takeR s o b).1.2.2.length ≤ 64 := by
  have := VS.wlen h
  have := h.n.2
  unfold takeR
  split
  · split
    · simp
    · simp; omega
  · simp
/-- What becomes of frames that are given back. -/
def giveR (s : Sp) (o : Int) : Sp × Int × Int := if gvN s.2.2 o s.2.2.length = 0 then ((0, [], []), 0, 5) else (gv s o, gvN s.2.2 o s.2.2.length, 0)
theorem zr_loop {β : Type} {f : Int × List (BitVec 64) → Option ((Int × List (BitVec 64)) ⊕ β)} {ws : List (BitVec 64)} {a n : Nat} {r : β}
    (hs : ∀ k : Nat, k < n → f (((a + k : Nat) : Int), zr ws a k) = some (.inl (((a + k + 1 : Nat) : Int), (zr ws a k).set (a + k) 0#64))) (he : f (((a + n : Nat) : Int), zr ws a n) = some (.inr r)) : loopO f ((a : Int), ws) = some r := by
  refine loopO_to (fun m (st : Int × List (BitVec 64)) => m ≤ n ∧ st = (((a + (n - m) : Nat) : Int), zr ws a (n - m))) (n := n) ?_ ⟨by omega, by simp [zr]⟩
  rintro m st ⟨hm, rfl⟩
  by_cases h0 : m = 0
  · subst h0; exact .inl he
  · refine .inr ⟨m - 1, _, by omega, hs _ (by omega), by omega, ?_⟩
    have e : n - (m - 1) = (n - m) + 1 := by omega
    rw [e, zr]
    rfl
theorem blk_bounds {s : Sp} (h : VS s) {k : Nat} (hk : k < s.2.2.length) : ((k * (sz s.1).toNat : Nat) : Int) = (k : Int) * sz s.1 ∧ (((k + 1) * (sz s.1).toNat : Nat) : Int) = ((k : Int) + 1) * sz s.1 ∧ k * (sz s.1).toNat + (sz s.1).toNat ≤ s.2.1.length ∧ (k + 1) * (sz s.1).toNat = k * (sz s.1).toNat + (sz s.1).toNat := by
  have hz := sz_pos' s.1
  have hzn : ((sz s.1).toNat : Int) = sz s.1 := Int.toNat_of_nonneg (by omega)
  have e1 : ((k * (sz s.1).toNat : Nat) : Int) = (k : Int) * sz s.1 := by rw [Int.natCast_mul, hzn]
  have e2 : (((k + 1) * (sz s.1).toNat : Nat) : Int) = ((k : Int) + 1) * sz s.1 := by rw [Int.natCast_mul, hzn]; rfl
  have e3 : (k + 1) * (sz s.1).toNat = k * (sz s.1).toNat + (sz s.1).toNat := by rw [Nat.add_mul, Nat.one_mul]
  have e4 := (mul_sz h.sh (by omega : (0 : Int) ≤ (k : Int) + 1) (by omega : (k : Int) + 1 ≤ s.2.2.length)).2
  have := h.w
  exact ⟨e1, e2, by omega, e3⟩
theorem giveR_len {s : Sp} (h : VS s) (o : Int) : (giveR s o).1.2.1.length ≤ 16384 ∧ (giveR s o).1.2.2.length ≤ 64 := by
  have := VS.wlen h
  have := h.n.2
  unfold giveR
  split
  · simp
  · exact ⟨by rw [gv_wlen]; omega, by rw [gv_len]; omega⟩
/-- A frame taken out of those that are free. -/
theorem takeR_some {s : Sp} {o b f : Int} {r : List Int} (hst : StOk s o (b * 4294967296 + o)) (hf : frees s.2.2 = f :: r) : takeR s o b = ((s.1, s.2.1, s.2.2.set f.toNat (o, b * 4294967296 + o, -1)), f, 0) := by
  unfold takeR
  rw [if_pos hst, hf]
theorem takeR_full {s : Sp} {o b : Int} (hst : StOk s o (b * 4294967296 + o)) (hf : frees s.2.2 = []) : takeR s o b = ((0, [], []), 0, 4) := by
  unfold takeR
  rw [if_pos hst, hf]
theorem StOk.none {s : Sp} {o st : Int} (h : owned s.2.2 o = []) : StOk s o st := by
  intro x x0 x1 hx
  have : x ∈ owned s.2.2 o := mem_owned.2 ⟨⟨x0, x1⟩, hx⟩
  rw [h] at this; cases this
end Go.Proofs.YtokeceeccmgcmaaDoor
