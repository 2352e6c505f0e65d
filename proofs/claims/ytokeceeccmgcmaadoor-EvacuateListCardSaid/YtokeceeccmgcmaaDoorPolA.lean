/-
  Words as sets of places: the least bit, the word without it, and how many there are. No program.
-/
import Derived.Test.YtokeceeccmgcmaaDoorSpC
set_option linter.unusedVariables false
namespace Go.V3
open Go
/-- The places whose bits are set, in ascending order. -/
def bitsL (w : BitVec 64) : List Nat := (List.range 64).filter fun i => w.getLsbD i

theorem least_of {p : Nat → Bool} : ∀ (n : Nat), (∃ i, i < n ∧ p i = true) → ∃ k, k < n ∧ p k = true ∧ ∀ j, j < k → p j = false := by
  intro n
  induction n with
  | zero => rintro ⟨i, h, _⟩; omega
  | succ n ih =>
    rintro ⟨i, hi, hp⟩
    by_cases h : ∃ j, j < n ∧ p j = true
    · obtain ⟨k, hk, h1, h2⟩ := ih h
      exact ⟨k, by omega, h1, h2⟩
    · refine ⟨n, by omega, ?_, fun j hj => ?_⟩
      · have : i = n := by
          rcases Nat.lt_or_ge i n with h' | h'
          · exact absurd ⟨i, h', hp⟩ h
          · omega
        rw [← this]; exact hp
      · cases hq : p j with
        | false => rfl
        | true => exact absurd ⟨j, hj, hq⟩ h

theorem range_split (k n : Nat) (h : k < n) : List.range n = List.range k ++ k :: List.range' (k + 1) (n - k - 1) := by
  have h1 : n = k + (n - k) := by omega
  have h2 : n - k = (n - k - 1) + 1 := by omega
  rw [h1, List.range_eq_range', List.range_eq_range', ← List.range'_append_1, h2, List.range'_succ]
  simp

theorem bits_nil {w : BitVec 64} : bitsL w = [] ↔ w = 0#64 := by
  unfold bitsL
  constructor
  · intro h
    rw [List.filter_eq_nil_iff] at h
    apply BitVec.eq_of_getLsbD_eq
    intro i hi
    have := h i (List.mem_range.2 hi)
    simpa using this
  · rintro rfl
    simp

theorem neg_and (w : BitVec 64) {k : Nat} (hk : k < 64) (h1 : w.getLsbD k = true) (h2 : ∀ j, j < k → w.getLsbD j = false) : w &&& -w = BitVec.twoPow 64 k := by
  apply BitVec.eq_of_getLsbD_eq
  intro i hi
  rw [BitVec.getLsbD_and, BitVec.getLsbD_neg, BitVec.getLsbD_twoPow]
  by_cases e : i = k
  · subst e
    have : ¬ ∃ j, j < i ∧ w.getLsbD j = true := by rintro ⟨j, hj, hb⟩; rw [h2 j hj] at hb; cases hb
    simp [h1, this, hi]
  · have e' : ¬ k = i := fun h => e h.symm
    rcases Nat.lt_or_ge i k with h | h
    · simp [h2 i h, e']
    · have : ∃ j, j < i ∧ w.getLsbD j = true := ⟨k, by omega, h1⟩
      cases hb : w.getLsbD i <;> simp [this, hi, e']

theorem pred_and (w : BitVec 64) {k : Nat} (hk : k < 64) (h1 : w.getLsbD k = true) (h2 : ∀ j, j < k → w.getLsbD j = false) (i : Nat) : (w &&& (w - 1#64)).getLsbD i = (w.getLsbD i && decide (i ≠ k)) := by
  have e : w - 1#64 = ~~~(-w) := by rw [BitVec.not_eq_neg_add, BitVec.neg_neg]
  rw [e, BitVec.getLsbD_and, BitVec.getLsbD_not, BitVec.getLsbD_neg]
  rcases Nat.lt_or_ge i 64 with hi | hi
  · by_cases e : i = k
    · subst e
      have : ¬ ∃ j, j < i ∧ w.getLsbD j = true := by rintro ⟨j, hj, hb⟩; rw [h2 j hj] at hb; cases hb
      simp [this, hi]
    · rcases Nat.lt_or_ge i k with h | h
      · simp [h2 i h]
      · have : ∃ j, j < i ∧ w.getLsbD j = true := ⟨k, by omega, h1⟩
        cases hb : w.getLsbD i <;> simp [this, hi, e]
  · simp [BitVec.getLsbD_of_ge w i hi]

/-- One step: the least place, and the word without it. -/
theorem bits_step {w : BitVec 64} (hw : w ≠ 0#64) : ∃ k, k < 64 ∧ bitsL w = k :: bitsL (w &&& (w - 1#64)) ∧ w &&& -w = BitVec.twoPow 64 k := by
  have : ∃ i, i < 64 ∧ w.getLsbD i = true := by
    by_cases h : ∃ i, i < 64 ∧ w.getLsbD i = true
    · exact h
    · exfalso; apply hw; apply BitVec.eq_of_getLsbD_eq
      intro i hi
      cases hb : w.getLsbD i with
      | false => simp
      | true => exact absurd ⟨i, hi, hb⟩ h
  obtain ⟨k, hk, h1, h2⟩ := least_of 64 this
  refine ⟨k, hk, ?_, neg_and w hk h1 h2⟩
  unfold bitsL
  rw [range_split k 64 hk, List.filter_append, List.filter_append, List.filter_cons, List.filter_cons]
  have z1 : List.filter (fun i => w.getLsbD i) (List.range k) = [] := by
    rw [List.filter_eq_nil_iff]; intro j hj; rw [h2 j (List.mem_range.1 hj)]; decide
  have z2 : List.filter (fun i => (w &&& (w - 1#64)).getLsbD i) (List.range k) = [] := by
    rw [List.filter_eq_nil_iff]; intro j hj; rw [pred_and w hk h1 h2, h2 j (List.mem_range.1 hj)]; simp
  have z3 : List.filter (fun i => (w &&& (w - 1#64)).getLsbD i) (List.range' (k + 1) (64 - k - 1)) = List.filter (fun i => w.getLsbD i) (List.range' (k + 1) (64 - k - 1)) := by
    apply List.filter_congr
    intro j hj
    rw [pred_and w hk h1 h2]
    have := List.mem_range'_1.1 hj
    have : j ≠ k := by omega
    simp [this]
  rw [z1, z2, z3, if_pos h1, if_neg (by rw [pred_and w hk h1 h2]; simp)]
  rfl

/-- The word of the free frames. -/
def maskOf (fs : List Fr) (w : BitVec 64) : Prop := ∀ j, j < 64 → w.getLsbD j = decide (j < fs.length ∧ (fr fs j).1 = -1)
theorem filter_range_le {p : Nat → Bool} {n m : Nat} (h : n ≤ m) (hp : ∀ j, n ≤ j → p j = false) : (List.range m).filter p = (List.range n).filter p := by
  induction m with
  | zero => have : n = 0 := by omega
            subst this; rfl
  | succ m ih =>
    rcases Nat.lt_or_ge m n with h' | h'
    · have : n = m + 1 := by omega
      subst this; rfl
    · rw [List.range_succ, List.filter_append, ih h', List.filter_cons, if_neg (by rw [hp m h']; decide)]
      simp
theorem mask_bits {fs : List Fr} {w : BitVec 64} (hn : fs.length ≤ 64) (h : maskOf fs w) : frees fs = (bitsL w).map fun k : Nat => (k : Int) := by
  unfold frees owned rangeI bitsL
  rw [List.filter_map]
  congr 1
  have e : (List.range 64).filter (fun i => w.getLsbD i) = (List.range 64).filter (fun j => decide (j < fs.length ∧ (fr fs j).1 = -1)) := by
    apply List.filter_congr
    intro j hj
    rw [h j (List.mem_range.1 hj)]
  rw [e, filter_range_le hn (fun j hj => by simp; omega)]
  apply List.filter_congr
  intro j hj
  have := List.mem_range.1 hj
  simp [this]
theorem mask_lt {fs : List Fr} {w : BitVec 64} {n : Nat} (hn : n < 64) (hl : fs.length ≤ n) (h : maskOf fs w) : w.toNat < 2 ^ n := by
  apply Nat.lt_pow_two_of_testBit
  intro i hi
  rcases Nat.lt_or_ge i 64 with h' | h'
  · have := h i h'
    rw [BitVec.getLsbD] at this
    rw [this]; simp; omega
  · exact BitVec.getLsbD_of_ge w i h'

/-! Frames given back. -/
/-- n words from a on are zero. -/
def zr (ws : List (BitVec 64)) (a : Nat) : Nat → List (BitVec 64)
  | 0 => ws
  | n + 1 => (zr ws a n).set (a + n) 0#64
theorem zr_len (ws : List (BitVec 64)) (a : Nat) : ∀ n, (zr ws a n).length = ws.length
  | 0 => rfl
  | n + 1 => by rw [zr, List.length_set, zr_len ws a n]
theorem gl_set0 (ws : List (BitVec 64)) (k j : Nat) : gl 0#64 (ws.set k 0#64) j = if j = k then 0#64 else gl 0#64 ws j := by
  rcases Nat.lt_or_ge k ws.length with h | h
  · exact gl_set h
  · rw [List.set_eq_of_length_le h]
    split
    · rename_i e; subst e; unfold gl; simp [h]
    · rfl
theorem zr_gl (ws : List (BitVec 64)) (a j : Nat) : ∀ n, gl 0#64 (zr ws a n) j = if a ≤ j ∧ j < a + n then 0#64 else gl 0#64 ws j
  | 0 => by rw [zr, if_neg (by omega)]
  | n + 1 => by
    rw [zr, gl_set0, zr_gl ws a j n]
    by_cases h : j = a + n
    · rw [if_pos h, if_pos (by omega)]
    · rw [if_neg h]
      by_cases h2 : a ≤ j ∧ j < a + n
      · rw [if_pos h2, if_pos (by omega)]
      · rw [if_neg h2, if_neg (by omega)]
def gvF (fs : List Fr) (o : Int) : Nat → List Fr
  | 0 => fs
  | k + 1 => if (fr fs k).1 = o then (gvF fs o k).set k (-1, -1, -1) else gvF fs o k
def gvN (fs : List Fr) (o : Int) : Nat → Int
  | 0 => 0
  | k + 1 => if (fr fs k).1 = o then gvN fs o k + 1 else gvN fs o k
def gvW (s : Sp) (o : Int) : Nat → List (BitVec 64)
  | 0 => s.2.1
  | k + 1 => if (fr s.2.2 k).1 = o then zr (gvW s o k) (k * (sz s.1).toNat) (sz s.1).toNat else gvW s o k
theorem gvF_len (fs : List Fr) (o : Int) : ∀ k, (gvF fs o k).length = fs.length
  | 0 => rfl
  | k + 1 => by rw [gvF]; split <;> simp [gvF_len fs o k]
theorem gvW_len (s : Sp) (o : Int) : ∀ k, (gvW s o k).length = s.2.1.length
  | 0 => rfl
  | k + 1 => by rw [gvW]; split <;> simp [zr_len, gvW_len s o k]
theorem gvN_le (fs : List Fr) (o : Int) : ∀ k, 0 ≤ gvN fs o k ∧ gvN fs o k ≤ k
  | 0 => by simp [gvN]
  | k + 1 => by have := gvN_le fs o k; rw [gvN]; split <;> omega
theorem gvN_eq (fs : List Fr) (o : Int) : ∀ k, gvN fs o k = ((rangeI k).filter fun i => decide ((fr fs i).1 = o)).length
  | 0 => rfl
  | k + 1 => by
    rw [gvN, rangeI_succ, List.filter_append, List.length_append, gvN_eq fs o k]
    by_cases h : (fr fs k).1 = o
    · rw [if_pos h]; simp [h]
    · rw [if_neg h]; simp [h]
theorem gvF_fr (fs : List Fr) (o : Int) : ∀ (k : Nat), k ≤ fs.length → ∀ j : Int, 0 ≤ j → fr (gvF fs o k) j = if j < k ∧ (fr fs j).1 = o then (-1, -1, -1) else fr fs j
  | 0, _, j, h0 => by rw [gvF, if_neg (by omega)]
  | k + 1, hk, j, h0 => by
    have ih := gvF_fr fs o k (by omega) j h0
    rw [gvF]
    by_cases h : (fr fs k).1 = o
    · rw [if_pos h]
      have := fr_set (fs := gvF fs o k) (i := j) (j := (k : Int)) (x := (-1, -1, -1)) (by omega) (by rw [gvF_len]; omega) h0
      rw [Int.toNat_natCast] at this
      rw [this, ih]
      by_cases e : j = k
      · rw [if_pos e, if_pos ⟨by omega, by rw [e]; exact h⟩]
      · rw [if_neg e]
        by_cases h2 : j < k ∧ (fr fs j).1 = o
        · rw [if_pos h2, if_pos ⟨by omega, h2.2⟩]
        · rw [if_neg h2, if_neg (fun h3 => h2 ⟨by omega, h3.2⟩)]
    · rw [if_neg h, ih]
      by_cases h2 : j < k ∧ (fr fs j).1 = o
      · rw [if_pos h2, if_pos ⟨by omega, h2.2⟩]
      · rw [if_neg h2, if_neg (fun h3 => h2 ⟨by
          have : j ≠ k := fun e => h (by rw [← e]; exact h3.2)
          omega, h3.2⟩)]
theorem gvW_gl (s : Sp) (o : Int) (a : Nat) : ∀ k : Nat, gl 0#64 (gvW s o k) a = if (a : Int) / sz s.1 < k ∧ (fr s.2.2 ((a : Int) / sz s.1)).1 = o then 0#64 else gl 0#64 s.2.1 a
  | 0 => by
    have := Int.ediv_nonneg (a := (a : Int)) (b := sz s.1) (by omega) (Int.le_of_lt (sz_pos' s.1))
    rw [gvW, if_neg (by omega)]
  | k + 1 => by
    have hz := sz_pos' s.1
    have ih := gvW_gl s o a k
    have hd : (k * (sz s.1).toNat ≤ a ∧ a < k * (sz s.1).toNat + (sz s.1).toNat) ↔ (a : Int) / sz s.1 = k := by
      have hzn : ((sz s.1).toNat : Int) = sz s.1 := Int.toNat_of_nonneg (by omega)
      have h1 : ((k * (sz s.1).toNat : Nat) : Int) = k * sz s.1 := by rw [Int.natCast_mul, hzn]
      have e1 := Int.ediv_mul_add_emod (a : Int) (sz s.1)
      have e2 := Int.emod_nonneg (a : Int) (Int.ne_of_gt hz)
      have e3 := Int.emod_lt_of_pos (a : Int) hz
      constructor
      · rintro ⟨h2, h3⟩
        have h2' : (k : Int) * sz s.1 ≤ a := by omega
        have h3' : (a : Int) < (k + 1) * sz s.1 := by rw [Int.add_mul]; omega
        have q1 := (Int.le_ediv_iff_mul_le hz).2 h2'
        have q2 := (Int.ediv_lt_iff_lt_mul hz).2 h3'
        omega
      · intro h
        rw [h] at e1
        omega
    rw [gvW]
    by_cases h : (fr s.2.2 k).1 = o
    · rw [if_pos h, zr_gl, ih]
      by_cases e : (a : Int) / sz s.1 = k
      · rw [if_pos (hd.2 e), if_pos ⟨by omega, by rw [e]; exact h⟩]
      · rw [if_neg (fun q => e (hd.1 q))]
        by_cases h2 : (a : Int) / sz s.1 < k ∧ (fr s.2.2 ((a : Int) / sz s.1)).1 = o
        · rw [if_pos h2, if_pos ⟨by omega, h2.2⟩]
        · rw [if_neg h2, if_neg (fun h3 => h2 ⟨by omega, h3.2⟩)]
    · rw [if_neg h, ih]
      by_cases h2 : (a : Int) / sz s.1 < k ∧ (fr s.2.2 ((a : Int) / sz s.1)).1 = o
      · rw [if_pos h2, if_pos ⟨by omega, h2.2⟩]
      · rw [if_neg h2, if_neg (fun h3 => h2 ⟨by
          have : (a : Int) / sz s.1 ≠ k := fun e => h (by rw [← e]; exact h3.2)
          omega, h3.2⟩)]
/-- A space without an owner's frames. -/
def gv (s : Sp) (o : Int) : Sp := (s.1, gvW s o s.2.2.length, gvF s.2.2 o s.2.2.length)
theorem gv_fr {s : Sp} {o j : Int} (h0 : 0 ≤ j) (h1 : j < s.2.2.length) : fr (gv s o).2.2 j = if (fr s.2.2 j).1 = o then (-1, -1, -1) else fr s.2.2 j := by
  show fr (gvF s.2.2 o s.2.2.length) j = _
  rw [gvF_fr _ _ _ (Nat.le_refl _) j h0]
  by_cases h : (fr s.2.2 j).1 = o
  · rw [if_pos ⟨h1, h⟩, if_pos h]
  · rw [if_neg (fun q => h q.2), if_neg h]
theorem gv_len (s : Sp) (o : Int) : (gv s o).2.2.length = s.2.2.length := gvF_len _ _ _
theorem gv_wlen (s : Sp) (o : Int) : (gv s o).2.1.length = s.2.1.length := gvW_len _ _ _
theorem gv_gl {s : Sp} (h : VS s) {o : Int} {a : Nat} (ha : a < s.2.1.length) : gl 0#64 (gv s o).2.1 a = if (fr s.2.2 ((a : Int) / sz s.1)).1 = o then 0#64 else gl 0#64 s.2.1 a := by
  show gl 0#64 (gvW s o s.2.2.length) a = _
  rw [gvW_gl]
  have : (a : Int) / sz s.1 < s.2.2.length := (Int.ediv_lt_iff_lt_mul (sz_pos' s.1)).2 (by have := h.w; omega)
  by_cases h : (fr s.2.2 ((a : Int) / sz s.1)).1 = o
  · rw [if_pos ⟨this, h⟩, if_pos h]
  · rw [if_neg (fun q => h q.2), if_neg h]
theorem VS.give {s : Sp} (h : VS s) {o : Int} (o0 : 0 ≤ o) : VS (gv s o) := by
  have hz := sz_pos' s.1
  have hl := gv_len s o
  have hf : ∀ j : Int, 0 ≤ j → j < s.2.2.length → Go.V3.fr (gv s o).2.2 j = if (Go.V3.fr s.2.2 j).1 = o then (-1, -1, -1) else Go.V3.fr s.2.2 j := fun j h0 h1 => gv_fr h0 h1
  have hn : ∀ j : Int, 0 ≤ j → j < s.2.2.length → nx (gv s o).2.2 j = if (Go.V3.fr s.2.2 j).1 = o then -1 else nx s.2.2 j := by
    intro j h0 h1
    rw [nx_in h0 (by rw [hl]; exact h1), nx_in h0 h1, hf j h0 h1]
    split <;> rfl
  refine ⟨h.sh, by rw [hl]; exact h.n, by rw [gv_wlen, hl]; exact h.w, ?_, ?_, ?_⟩
  · intro i i0 i1
    rw [hl] at i1
    have hzero : (Zero s i ∨ (Go.V3.fr s.2.2 i).1 = o) → Zero (gv s o) i := by
      intro hc a a1 a2
      have ae : (a : Int) / sz s.1 = i := by
        have q1 := (Int.le_ediv_iff_mul_le hz).2 a1
        have q2 := (Int.ediv_lt_iff_lt_mul hz).2 a2
        omega
      show gl 0#64 (gvW s o s.2.2.length) a = 0#64
      rw [gvW_gl, ae]
      rcases hc with hc | hc
      · split
        · rfl
        · exact hc a a1 a2
      · rw [if_pos ⟨i1, hc⟩]
    by_cases ho : (Go.V3.fr s.2.2 i).1 = o
    · left
      rw [hf i i0 i1, if_pos ho]
      exact ⟨rfl, hzero (.inr ho)⟩
    · rcases h.fr i i0 i1 with ⟨h1, h2⟩ | hu
      · left
        rw [hf i i0 i1, if_neg ho]
        exact ⟨h1, hzero (.inl h2)⟩
      · right
        unfold UsedOk
        rw [hf i i0 i1, if_neg ho, hl]
        refine ⟨hu.1, hu.2.1, hu.2.2.1, hu.2.2.2.1, fun hne => ?_⟩
        have := hu.2.1
        obtain ⟨q1, q2⟩ := hu.2.2.2.2 hne
        rw [hf _ (by omega) hu.2.2.1, if_neg (by rw [q1]; exact ho)]
        exact ⟨q1, q2⟩
  · intro i j i0 i1 j0 j1 he hne
    rw [hl] at i1 j1
    rw [hn i i0 i1] at he hne
    rw [hn j j0 j1] at he
    by_cases hi : (Go.V3.fr s.2.2 i).1 = o
    · rw [if_pos hi] at hne; exact absurd rfl hne
    · rw [if_neg hi] at he hne
      by_cases hj : (Go.V3.fr s.2.2 j).1 = o
      · rw [if_pos hj] at he; exact absurd he hne
      · rw [if_neg hj] at he
        exact h.inj i j i0 i1 j0 j1 he hne
  · intro i i0 i1
    rw [hl] at i1
    by_cases ho : (Go.V3.fr s.2.2 i).1 = o
    · refine ⟨[i], rfl, i0, by rw [hl]; exact i1, ?_⟩
      rw [Pa, hn i i0 i1, if_pos ho]
    · obtain ⟨l, hp⟩ := h.acy i i0 i1
      refine ⟨l, hp.congr' hl fun x hx => ?_⟩
      obtain ⟨x0, x1⟩ := hp.mem hx
      have := (VS.owner h hp x hx).1
      rw [hn x x0 x1, if_neg (by rw [this]; exact ho)]
/-- A frame that was taken for a new owner and given back. -/
theorem give_take {s : Sp} (h : VS s) {f o st : Int} {r : List Int} (hf : frees s.2.2 = f :: r) (ho : owned s.2.2 o = []) (o1 : o ≠ -1) :
    gv (s.1, s.2.1, s.2.2.set f.toNat (o, st, -1)) o = s ∧ gvN (s.2.2.set f.toNat (o, st, -1)) o s.2.2.length = 1 := by
  obtain ⟨⟨f0, f1⟩, f2, _⟩ := frees_cons hf
  obtain ⟨hfree, hzero⟩ := h.free f0 f1 f2
  have hset : ∀ j : Int, 0 ≤ j → Go.V3.fr (s.2.2.set f.toNat (o, st, -1)) j = if j = f then (o, st, -1) else Go.V3.fr s.2.2 j := fun j hj => fr_set f0 f1 hj
  have hno : ∀ j : Int, 0 ≤ j → j < s.2.2.length → (Go.V3.fr s.2.2 j).1 ≠ o := by
    intro j j0 j1 e
    have : j ∈ owned s.2.2 o := mem_owned.2 ⟨⟨j0, j1⟩, e⟩
    rw [ho] at this; cases this
  have hF : gvF (s.2.2.set f.toNat (o, st, -1)) o s.2.2.length = s.2.2 := by
    apply List.ext_getElem?
    intro i
    rcases Nat.lt_or_ge i s.2.2.length with hi | hi
    · rw [gl_get? (d := ((0, 0, 0) : Fr)) (by rw [gvF_len, List.length_set]; exact hi), gl_get? (d := ((0, 0, 0) : Fr)) hi]
      have := gvF_fr (s.2.2.set f.toNat (o, st, -1)) o s.2.2.length (by simp) (i : Int) (by omega)
      have e1 : gl ((0, 0, 0) : Fr) (gvF (s.2.2.set f.toNat (o, st, -1)) o s.2.2.length) i = Go.V3.fr (gvF (s.2.2.set f.toNat (o, st, -1)) o s.2.2.length) (i : Int) := rfl
      have e2 : gl ((0, 0, 0) : Fr) s.2.2 i = Go.V3.fr s.2.2 (i : Int) := rfl
      rw [e1, e2, this, hset (i : Int) (by omega)]
      by_cases e : (i : Int) = f
      · rw [if_pos e, if_pos ⟨by omega, rfl⟩, e]
        exact congrArg some hfree.symm
      · rw [if_neg e, if_neg (fun q => hno (i : Int) (by omega) (by omega) q.2)]
    · rw [List.getElem?_eq_none (by rw [gvF_len, List.length_set]; exact hi), List.getElem?_eq_none hi]
  have hW : gvW (s.1, s.2.1, s.2.2.set f.toNat (o, st, -1)) o s.2.2.length = s.2.1 := by
    apply List.ext_getElem?
    intro i
    rcases Nat.lt_or_ge i s.2.1.length with hi | hi
    · rw [gl_get? (d := 0#64) (by rw [gvW_len]; exact hi), gl_get? (d := 0#64) hi, gvW_gl]
      simp only
      have q0 : 0 ≤ (i : Int) / sz s.1 := Int.ediv_nonneg (by omega) (Int.le_of_lt (sz_pos' s.1))
      have q1 : (i : Int) / sz s.1 < s.2.2.length := (Int.ediv_lt_iff_lt_mul (sz_pos' s.1)).2 (by have := h.w; omega)
      rw [hset _ q0]
      by_cases e : (i : Int) / sz s.1 = f
      · rw [if_pos e, if_pos ⟨q1, rfl⟩]
        have e1 := Int.ediv_mul_add_emod (i : Int) (sz s.1)
        have e2 := Int.emod_nonneg (i : Int) (Int.ne_of_gt (sz_pos' s.1))
        have e3 := Int.emod_lt_of_pos (i : Int) (sz_pos' s.1)
        rw [e] at e1
        rw [hzero i (by omega) (by rw [Int.add_mul]; omega)]
      · rw [if_neg e, if_neg (fun q => hno _ q0 q1 q.2)]
    · rw [List.getElem?_eq_none (by rw [gvW_len]; exact hi), List.getElem?_eq_none hi]
  refine ⟨?_, ?_⟩
  · show (s.1, gvW (s.1, s.2.1, s.2.2.set f.toNat (o, st, -1)) o (s.2.2.set f.toNat (o, st, -1)).length, gvF (s.2.2.set f.toNat (o, st, -1)) o (s.2.2.set f.toNat (o, st, -1)).length) = s
    rw [List.length_set, hF, hW]
  · have := (owned_take (o := o) (st := st) hf o1).2.1
    rw [gvN_eq]
    have e : (rangeI s.2.2.length).filter (fun i => decide ((Go.V3.fr (s.2.2.set f.toNat (o, st, -1)) i).1 = o)) = owned (s.2.2.set f.toNat (o, st, -1)) o := by unfold owned; rw [List.length_set]
    rw [e]
    have h1 : ∀ x, x ∈ owned (s.2.2.set f.toNat (o, st, -1)) o ↔ x = f := by
      intro x
      rw [mem_owned, List.length_set]
      constructor
      · rintro ⟨⟨x0, x1⟩, x2⟩
        rw [hset x x0] at x2
        by_cases e : x = f
        · exact e
        · rw [if_neg e] at x2; exact absurd x2 (hno x x0 x1)
      · rintro rfl
        exact ⟨⟨f0, f1⟩, by rw [hset _ f0, if_pos rfl]⟩
    have h2 : owned (s.2.2.set f.toNat (o, st, -1)) o = [f] := pw_ext (owned_pw _ _) (by simp) (fun x => by rw [h1]; simp)
    rw [h2]; rfl
end Go.V3
