/-
  Plain laws of package pool: free frames, frames taken and given back.
-/
import Derived.Test.YtjbkmpipccdnhaaDoorSpI
import Derived.Test.YtjbkmpipccdnhaaDoorPolA
set_option linter.unusedVariables false
namespace Go.Proofs.YtjbkmpipccdnhaaDoor
open Go Go.V3

def tzK (k : Nat) : Option Int := (letv ((BitVec.twoPow 64 k) * (285870213051353865#64)) (fun (v1 : BitVec 64) =>
if True then
if 0 ≤ ((v1 >>> (58#64).toNat).toNat : Int) ∧ ((v1 >>> (58#64).toNat).toNat : Int) < ((64 : Nat) : Int) then
if 0 + ((v1 >>> (58#64).toNat).toNat : Int).toNat < tab0.size then
letv (w64 (tget tab0 (0 + ((v1 >>> (58#64).toNat).toNat : Int).toNat))) (fun (v2 : Int) =>
some (v2))
else none
else none
else none))
theorem tzK_ok : ∀ k : Fin 64, tzK k.1 = some (k.1 : Int) := by decide +kernel
theorem tz_ok {w : BitVec 64} (hw : w ≠ 0#64) : ∃ k : Nat, k < 64 ∧ Fmath_bits_TrailingZeros64 w = some (k : Int) ∧ bitsL w = k :: bitsL (w &&& (w - 1#64)) := by
  obtain ⟨k, hk, h1, h2⟩ := bits_step hw
  refine ⟨k, hk, ?_, h1⟩
  unfold Fmath_bits_TrailingZeros64
  rw [if_neg hw, BitVec.zero_sub, h2]
  exact tzK_ok ⟨k, hk⟩
theorem pfree_ok {s : Sp} (hn : s.2.2.length ≤ 64) : ∃ w, Fpool_free s = some w ∧ maskOf s.2.2 w := by
  unfold Fpool_free
  refine loopO_up (fun k (st : BitVec 64 × Int) => st.2 = (k : Int) ∧ k ≤ s.2.2.length ∧ ∀ j, j < 64 → st.1.getLsbD j = decide (j < k ∧ (fr s.2.2 j).1 = -1)) (fun b => maskOf s.2.2 b) s.2.2.length ?_ ?_ ⟨rfl, by omega, fun j hj => by simp⟩
  · rintro k ⟨w, i⟩ hk ⟨h1, _, h2⟩
    simp only at h1 h2 ⊢
    subst h1
    have hfr : gl (0, 0, 0) s.2.2 (k : Int).toNat = fr s.2.2 k := rfl
    rw [if_pos (by omega), if_pos (by omega), hfr, w64_id (by omega) (by omega)]
    by_cases hf : (fr s.2.2 k).1 = -1
    · rw [if_pos hf, if_pos (by omega), if_pos trivial]
      refine .inl ⟨_, rfl, by simp only; omega, by omega, fun j hj => ?_⟩
      simp only
      rw [idx_toNat (by omega) (by omega), Int.toNat_natCast, bit_set _ _ (by omega), h2 j hj]
      by_cases e : k = j
      · subst e; simp [hf]
      · simp only [e, decide_false, Bool.or_false, decide_eq_decide]
        constructor
        · rintro ⟨a, b⟩; exact ⟨by omega, b⟩
        · rintro ⟨a, b⟩; exact ⟨by omega, b⟩
    · rw [if_neg hf]
      refine .inl ⟨_, rfl, by simp only; omega, by omega, fun j hj => ?_⟩
      simp only
      rw [h2 j hj, decide_eq_decide]
      constructor
      · rintro ⟨a, b⟩; exact ⟨by omega, b⟩
      · rintro ⟨a, b⟩
        refine ⟨?_, b⟩
        have : j ≠ k := fun e => hf (by rw [← e]; exact b)
        omega
  · rintro ⟨w, i⟩ ⟨h1, _, h2⟩
    simp only at h1 h2 ⊢
    rw [if_neg (by omega)]
    exact ⟨_, rfl, h2⟩
theorem bitsL_len (w : BitVec 64) : (bitsL w).length ≤ 64 := by
  have := List.length_filter_le (fun i => w.getLsbD i) (List.range 64)
  rw [List.length_range] at this
  exact this
theorem pFree_ok {s : Sp} (hn : s.2.2.length ≤ 64) : Fpool_Free s = some (frees s.2.2) := by
  obtain ⟨w, h1, h2⟩ := pfree_ok hn
  unfold Fpool_Free
  rw [h1, mask_bits hn h2]
  simp only [Option.bind_some]
  refine loopO_to (fun n (st : List Int × BitVec 64) => st.1 ++ ((bitsL st.2).map fun k : Nat => (k : Int)) = ((bitsL w).map fun k : Nat => (k : Int)) ∧ n = (bitsL st.2).length) (n := (bitsL w).length) ?_ ⟨by simp, rfl⟩
  rintro n ⟨acc, v⟩ ⟨h3, h4⟩
  simp only at h3 h4 ⊢
  by_cases hv : v = 0#64
  · left
    rw [if_neg (by simp [hv])]
    subst hv
    have : bitsL 0#64 = [] := bits_nil.2 rfl
    rw [this] at h3
    simp only [List.map_nil, List.append_nil] at h3
    rw [h3]
  · right
    obtain ⟨k, hk, e1, e2⟩ := tz_ok hv
    rw [if_pos hv, e1]
    simp only [Option.bind_some]
    have hl : acc.length ≤ 64 := by
      have := congrArg List.length h3
      simp only [List.length_append, List.length_map] at this
      have := bitsL_len w
      omega
    rw [if_pos (by simp; omega)]
    rw [e2] at h3 h4
    exact ⟨_, _, by rw [h4]; simp, rfl, by simpa using h3, rfl⟩
/-- All frames of an owner bear its stamp. -/
def StOk (s : Sp) (o st : Int) : Prop := ∀ x : Int, 0 ≤ x → x < s.2.2.length → (fr s.2.2 x).1 = o → (fr s.2.2 x).2.1 = st
open Classical in
/-- What becomes of a frame that is taken. -/
noncomputable def takeR (s : Sp) (o b : Int) : Sp × Int × Int :=
  if StOk s o (b * 4294967296 + o) then (match frees s.2.2 with
    | [] => ((0, [], []), 0, 4)
    | f :: _ => ((s.1, s.2.1, s.2.2.set f.toNat (o, b * 4294967296 + o, -1)), f, 0))
  else ((0, [], []), 0, 5)
theorem take_loop {β : Type} {s : Sp} {o st : Int} {f : Int → Option (Int ⊕ β)} {bad r : β}
    (hs : ∀ k : Nat, k < s.2.2.length → f k = if (fr s.2.2 k).1 = o then (if ¬ (fr s.2.2 k).2.1 = st then some (.inr bad) else some (.inl ((k : Int) + 1))) else some (.inl ((k : Int) + 1)))
    (he : StOk s o st → f s.2.2.length = some (.inr r)) : (StOk s o st → loopO f 0 = some r) ∧ (¬ StOk s o st → loopO f 0 = some bad) := by
  constructor
  · intro h
    refine loopO_run s.2.2.length (fun k hk => ?_) (he h)
    rw [hs k hk]
    by_cases ho : (fr s.2.2 k).1 = o
    · rw [if_pos ho, if_neg (by simp [h k (by omega) (by omega) ho])]
    · rw [if_neg ho]
  · intro h
    refine (loopO_up (fun k (i : Int) => i = (k : Int) ∧ k ≤ s.2.2.length ∧ ∀ x : Int, 0 ≤ x → x < k → (fr s.2.2 x).1 = o → (fr s.2.2 x).2.1 = st) (fun r => r = bad) s.2.2.length ?_ ?_ (s := (0 : Int)) ⟨rfl, by omega, fun x x0 x1 => by omega⟩).elim fun r hr => by rw [hr.1, hr.2]
    · rintro k i hk ⟨rfl, _, hx⟩
      rw [hs k hk]
      by_cases ho : (fr s.2.2 k).1 = o
      · rw [if_pos ho]
        by_cases hs : (fr s.2.2 k).2.1 = st
        · rw [if_neg (not_not_intro hs)]
          refine .inl ⟨_, rfl, by omega, by omega, fun x x0 x1 hxo => ?_⟩
          by_cases hxk : x = k
          · rw [hxk]; exact hs
          · exact hx x x0 (by omega) hxo
        · rw [if_pos hs]
          exact .inr ⟨_, rfl, rfl⟩
      · rw [if_neg ho]
        refine .inl ⟨_, rfl, by omega, by omega, fun x x0 x1 hxo => ?_⟩
        by_cases hxk : x = k
        · rw [hxk] at hxo; exact absurd hxo ho
        · exact hx x x0 (by omega) hxo
    · rintro i ⟨rfl, _, hx⟩
      exact absurd hx h
theorem pTake_vs {s : Sp} (h : VS s) {o b : Int} (o0 : 0 ≤ o) (o1 : o ≤ 4294967295) (b0 : 0 ≤ b) (b1 : b < 4) : Fpool_Take s o b = some (takeR s o b) := by
  have hn := h.n.2
  unfold Fpool_Take takeR
  rw [VS.fvalid h]
  simp only [Option.bind_some]
  rw [if_neg (by simp), if_neg (by omega), if_neg (by omega), if_neg (by omega), if_neg (by omega), w64_id (e := b * 4294967296) (by omega) (by omega), w64_id (e := b * 4294967296 + o) (by omega) (by omega)]
  by_cases hst : StOk s o (b * 4294967296 + o)
  · rw [if_pos hst]
    refine (take_loop (s := s) (o := o) (st := b * 4294967296 + o) (bad := ((0, [], []), 0, 5)) (fun k hk => ?_) (fun _ => ?_)).1 hst
    · have hfr : gl (0, 0, 0) s.2.2 (k : Int).toNat = fr s.2.2 k := rfl
      rw [if_pos (by omega), if_pos (by omega), hfr, w64_id (by omega) (by omega)]
    · obtain ⟨w, h1, h2⟩ := pfree_ok hn
      rw [if_neg (by omega), h1, mask_bits hn h2]
      simp only [Option.bind_some]
      by_cases hw : w = 0#64
      · rw [if_pos hw, hw, bits_nil.2 rfl]; rfl
      · obtain ⟨k, hk, e1, e2⟩ := tz_ok hw
        have hkl : k < s.2.2.length := by
          have hm : (k : Int) ∈ frees s.2.2 := by rw [mask_bits hn h2, e2]; simp
          have := (mem_owned.1 hm).1
          omega
        rw [if_neg hw, cCopy_ok (by have := VS.wlen h; omega) (by omega)]
        simp only [Option.bind_some]
        rw [e1, e2]
        simp only [Option.bind_some]
        rw [if_pos (by omega)]
        rfl
  · rw [if_neg hst]
    refine (take_loop (s := s) (o := o) (st := b * 4294967296 + o) (r := ((0, [], []), 0, 5)) (bad := ((0, [], []), 0, 5)) (fun k hk => ?_) (fun h => absurd h hst)).2 hst
    have hfr : gl (0, 0, 0) s.2.2 (k : Int).toNat = fr s.2.2 k := rfl
    rw [if_pos (by omega), if_pos (by omega), hfr, w64_id (by omega) (by omega)]
theorem rTake_vs {s : Sp} (h : VS s) {o b : Int} (o0 : 0 ≤ o) (o1 : o ≤ 4294967295) (b0 : 0 ≤ b) (b1 : b < 4) : Fbeltwayref04_Take s o b = some (takeR s o b) := by
  have hn := h.n.2
  unfold Fbeltwayref04_Take takeR
  rw [VS.valid h]
  simp only [Option.bind_some]
  rw [if_neg (by simp), if_neg (by omega), if_neg (by omega), if_neg (by omega), if_neg (by omega), w64_id (e := b * 4294967296) (by omega) (by omega), w64_id (e := b * 4294967296 + o) (by omega) (by omega)]
  by_cases hst : StOk s o (b * 4294967296 + o)
  · rw [if_pos hst]
    refine (take_loop (s := s) (o := o) (st := b * 4294967296 + o) (bad := ((0, [], []), 0, 5)) (fun k hk => ?_) (fun _ => ?_)).1 hst
    · have hfr : gl (0, 0, 0) s.2.2 (k : Int).toNat = fr s.2.2 k := rfl
      rw [if_pos (by omega), if_pos (by omega), hfr, w64_id (by omega) (by omega)]
    · rw [if_neg (by omega), VS.copy h]
      simp only [Option.bind_some]
      cases hf : frees s.2.2 with
      | nil =>
        rw [Lift_none hn hf]
        rfl
      | cons f r =>
        rw [Lift_ok hn hf o0 o1 b0 b1]
        have := (frees_cons hf).1.1
        simp only [Option.bind_some]
        rw [if_neg (by omega)]
        rfl
  · rw [if_neg hst]
    refine (take_loop (s := s) (o := o) (st := b * 4294967296 + o) (r := ((0, [], []), 0, 5)) (bad := ((0, [], []), 0, 5)) (fun k hk => ?_) (fun h => absurd h hst)).2 hst
    have hfr : gl (0, 0, 0) s.2.2 (k : Int).toNat = fr s.2.2 k := rfl
    rw [if_pos (by omega), if_pos (by omega), hfr, w64_id (by omega) (by omega)]
theorem takeR_len {s : Sp} (h : VS s) (o b : Int) : (takeR s o b).1.2.1.length ≤ 16384 ∧ (takeR s o b).1.2.2.length ≤ 64 := by
  have := VS.wlen h
  have := h.n.2
  unfold takeR
  split
  · split
    · simp
    · simp; omega
  · simp
/-- Taking, whatever the space is. -/
theorem take_eq {s : Sp} (hI : StI s) (o b : Int) : ∃ v, Fpool_Take s o b = some v ∧ Fbeltwayref04_Take s o b = some v ∧ v.1.2.1.length ≤ 16384 ∧ v.1.2.2.length ≤ 64 := by
  by_cases h : VS s
  · by_cases hr : (0 ≤ o ∧ o ≤ 4294967295) ∧ (0 ≤ b ∧ b < 4)
    · exact ⟨_, pTake_vs h hr.1.1 hr.1.2 hr.2.1 hr.2.2, rTake_vs h hr.1.1 hr.1.2 hr.2.1 hr.2.2, takeR_len h o b⟩
    · refine ⟨((0, [], []), 0, 1), ?_, ?_, by simp, by simp⟩
      · unfold Fpool_Take
        rw [VS.fvalid h]
        simp only [Option.bind_some]
        rw [if_neg (by simp)]
        repeat' split
        all_goals first | rfl | omega
      · unfold Fbeltwayref04_Take
        rw [VS.valid h]
        simp only [Option.bind_some]
        rw [if_neg (by simp)]
        repeat' split
        all_goals first | rfl | omega
  · obtain ⟨h1, h2⟩ := bad_valid h hI
    refine ⟨((0, [], []), 0, 1), ?_, ?_, by simp, by simp⟩
    · unfold Fpool_Take; rw [h1]; rfl
    · unfold Fbeltwayref04_Take; rw [h2]; rfl

/-- What becomes of frames that are given back. -/
def giveR (s : Sp) (o : Int) : Sp × Int × Int := if gvN s.2.2 o s.2.2.length = 0 then ((0, [], []), 0, 5) else (gv s o, gvN s.2.2 o s.2.2.length, 0)
theorem zr_loop {β : Type} {f : Int × List (BitVec 64) → Option ((Int × List (BitVec 64)) ⊕ β)} {ws : List (BitVec 64)} {a n : Nat} {r : β}
    (hs : ∀ k : Nat, k < n → f (((a + k : Nat) : Int), zr ws a k) = some (.inl (((a + k + 1 : Nat) : Int), (zr ws a k).set (a + k) 0#64))) (he : f (((a + n : Nat) : Int), zr ws a n) = some (.inr r)) : loopO f ((a : Int), ws) = some r := by
  refine loopO_to (fun m (st : Int × List (BitVec 64)) => m ≤ n ∧ st = (((a + (n - m) : Nat) : Int), zr ws a (n - m))) (n := n) ?_ ⟨by omega, by simp [zr]⟩
  rintro m st ⟨hm, rfl⟩
  by_cases h0 : m = 0
  · subst h0; exact .inl he
  · refine .inr ⟨m - 1, _, by omega, hs _ (by omega), by omega, ?_⟩
    have e : n - (m - 1) = (n - m) + 1 := by omega
    rw [e, zr]
    rfl
theorem blk_bounds {s : Sp} (h : VS s) {k : Nat} (hk : k < s.2.2.length) : ((k * (sz s.1).toNat : Nat) : Int) = (k : Int) * sz s.1 ∧ (((k + 1) * (sz s.1).toNat : Nat) : Int) = ((k : Int) + 1) * sz s.1 ∧ k * (sz s.1).toNat + (sz s.1).toNat ≤ s.2.1.length ∧ (k + 1) * (sz s.1).toNat = k * (sz s.1).toNat + (sz s.1).toNat := by
  have hz := sz_pos' s.1
  have hzn : ((sz s.1).toNat : Int) = sz s.1 := Int.toNat_of_nonneg (by omega)
  have e1 : ((k * (sz s.1).toNat : Nat) : Int) = (k : Int) * sz s.1 := by rw [Int.natCast_mul, hzn]
  have e2 : (((k + 1) * (sz s.1).toNat : Nat) : Int) = ((k : Int) + 1) * sz s.1 := by rw [Int.natCast_mul, hzn]; rfl
  have e3 : (k + 1) * (sz s.1).toNat = k * (sz s.1).toNat + (sz s.1).toNat := by rw [Nat.add_mul, Nat.one_mul]
  have e4 := (mul_sz h.sh (by omega : (0 : Int) ≤ (k : Int) + 1) (by omega : (k : Int) + 1 ≤ s.2.2.length)).2
  have := h.w
  exact ⟨e1, e2, by omega, e3⟩
theorem pGive_vs {s : Sp} (h : VS s) {o : Int} (o0 : 0 ≤ o) (o1 : o ≤ 4294967295) : Fpool_Give s o = some (giveR s o) := by
  have hn := h.n.2
  have hw := VS.wlen h
  unfold Fpool_Give
  rw [VS.fvalid h]
  simp only [Option.bind_some]
  rw [if_neg (by simp), if_neg (by omega), if_neg (by omega), cCopy_ok (by omega) (by omega)]
  simp only [Option.bind_some]
  refine (loopO_up (fun k (st : Int × Sp) => k ≤ s.2.2.length ∧ st = (gvN s.2.2 o k, (k : Int), gvW s o k, gvF s.2.2 o k)) (fun b => b = giveR s o) s.2.2.length ?_ ?_ (s := ((0 : Int), (0 : Int), s.2.1, s.2.2)) ⟨by omega, rfl⟩).elim fun b hb => by rw [hb.1, hb.2]
  · rintro k st hk ⟨_, rfl⟩
    have hfr : gl (0, 0, 0) s.2.2 (k : Int).toNat = fr s.2.2 k := rfl
    have hc := gvN_le s.2.2 o k
    obtain ⟨z1, z2, z3, z4⟩ := blk_bounds h hk
    simp only
    rw [if_pos (by omega), if_pos (by omega), hfr, w64_id (e := (k : Int) + 1) (by omega) (by omega)]
    left
    by_cases ho : (fr s.2.2 k).1 = o
    · rw [if_neg (not_not_intro ho), if_pos (by rw [gvF_len]; omega), if_pos trivial, pow_sz h.sh, ← z1, ← z2, w64_id (e := gvN s.2.2 o k + 1) (by omega) (by omega), w64_id (e := ((k * (sz s.1).toNat : Nat) : Int)) (by omega) (by omega), w64_id (e := (((k + 1) * (sz s.1).toNat : Nat) : Int)) (by omega) (by omega)]
      refine ⟨(gvN s.2.2 o k + 1, (k : Int) + 1, zr (gvW s o k) (k * (sz s.1).toNat) (sz s.1).toNat, (gvF s.2.2 o k).set k (-1, -1, -1)), ?_, by omega, ?_⟩
      · refine zr_loop (a := k * (sz s.1).toNat) (n := (sz s.1).toNat) (fun m hm => ?_) ?_
        · simp only
          rw [if_pos trivial, if_pos (by omega), if_pos (by rw [zr_len, gvW_len]; omega), w64_id (by omega) (by omega)]
          rfl
        · simp only
          rw [if_pos trivial, if_neg (by omega)]
          rfl
      · simp only [gvN, gvW, gvF, if_pos ho]
        rfl
    · rw [if_pos ho]
      refine ⟨_, rfl, by omega, ?_⟩
      simp only [gvN, gvW, gvF, if_neg ho]
      rfl
  · rintro st ⟨_, rfl⟩
    simp only
    rw [if_neg (by omega)]
    refine ⟨_, ?_, rfl⟩
    unfold giveR gv
    split <;> rfl
theorem rClear_vs {s : Sp} (h : VS s) (o : Int) (oz : o ≠ -1) : Fbeltwayref04_Clear s o = some (gvN s.2.2 o s.2.2.length, (gv s o).2) := by
  have hn := h.n.2
  have hw := VS.wlen h
  unfold Fbeltwayref04_Clear
  refine (loopO_up (fun k (st : Int × Sp) => k ≤ s.2.2.length ∧ st = (gvN s.2.2 o k, (k : Int), gvW s o k, gvF s.2.2 o k)) (fun b => b = (gvN s.2.2 o s.2.2.length, (gv s o).2)) s.2.2.length ?_ ?_ (s := ((0 : Int), (0 : Int), s.2.1, s.2.2)) ⟨by omega, rfl⟩).elim fun b hb => by rw [hb.1, hb.2]
  · rintro k st hk ⟨_, rfl⟩
    have hfr : gl (0, 0, 0) (gvF s.2.2 o k) (k : Int).toNat = fr (gvF s.2.2 o k) k := rfl
    have hfr2 : fr (gvF s.2.2 o k) k = fr s.2.2 k := by rw [gvF_fr s.2.2 o k (by omega) k (by omega), if_neg (by omega)]
    have hc := gvN_le s.2.2 o k
    obtain ⟨z1, z2, z3, z4⟩ := blk_bounds h hk
    simp only
    rw [if_pos (by omega), if_pos (by rw [gvF_len]; omega), hfr, hfr2, w64_id (e := (k : Int) + 1) (by omega) (by omega)]
    left
    by_cases ho : (fr s.2.2 k).1 = o
    · rw [if_neg (not_not_intro ho), if_pos (by rw [gvF_len]; omega), if_pos trivial, pow_sz h.sh, ← z1, ← z2, w64_id (e := gvN s.2.2 o k + 1) (by omega) (by omega), w64_id (e := ((k * (sz s.1).toNat : Nat) : Int)) (by omega) (by omega), w64_id (e := (((k + 1) * (sz s.1).toNat : Nat) : Int)) (by omega) (by omega)]
      refine ⟨(gvN s.2.2 o k + 1, (k : Int) + 1, zr (gvW s o k) (k * (sz s.1).toNat) (sz s.1).toNat, (gvF s.2.2 o k).set k (-1, -1, -1)), ?_, by omega, ?_⟩
      · refine zr_loop (a := k * (sz s.1).toNat) (n := (sz s.1).toNat) (fun m hm => ?_) ?_
        · simp only
          rw [if_pos trivial, if_pos (by omega), if_pos (by rw [zr_len, gvW_len]; omega), w64_id (by omega) (by omega)]
          rfl
        · simp only
          rw [if_pos trivial, if_neg (by omega)]
          rfl
      · simp only [gvN, gvW, gvF, if_pos ho]
        rfl
    · rw [if_pos ho]
      refine ⟨_, rfl, by omega, ?_⟩
      simp only [gvN, gvW, gvF, if_neg ho]
      rfl
  · rintro st ⟨_, rfl⟩
    simp only
    rw [if_neg (by omega)]
    exact ⟨_, rfl, rfl⟩
theorem rGive_vs {s : Sp} (h : VS s) {o : Int} (o0 : 0 ≤ o) (o1 : o ≤ 4294967295) : Fbeltwayref04_Give s o = some (giveR s o) := by
  unfold Fbeltwayref04_Give
  rw [VS.valid h]
  simp only [Option.bind_some]
  rw [if_neg (by simp), if_neg (by omega), if_neg (by omega), VS.copy h]
  simp only [Option.bind_some]
  rw [rClear_vs h o (by omega)]
  simp only [Option.bind_some]
  unfold giveR
  split <;> rfl
theorem giveR_len {s : Sp} (h : VS s) (o : Int) : (giveR s o).1.2.1.length ≤ 16384 ∧ (giveR s o).1.2.2.length ≤ 64 := by
  have := VS.wlen h
  have := h.n.2
  unfold giveR
  split
  · simp
  · exact ⟨by rw [gv_wlen]; omega, by rw [gv_len]; omega⟩
theorem give_eq {s : Sp} (hI : StI s) (o : Int) : ∃ v, Fpool_Give s o = some v ∧ Fbeltwayref04_Give s o = some v ∧ v.1.2.1.length ≤ 16384 ∧ v.1.2.2.length ≤ 64 := by
  by_cases h : VS s
  · by_cases hr : 0 ≤ o ∧ o ≤ 4294967295
    · exact ⟨_, pGive_vs h hr.1 hr.2, rGive_vs h hr.1 hr.2, giveR_len h o⟩
    · refine ⟨((0, [], []), 0, 1), ?_, ?_, by simp, by simp⟩
      · unfold Fpool_Give
        rw [VS.fvalid h]
        simp only [Option.bind_some]
        rw [if_neg (by simp)]
        repeat' split
        all_goals first | rfl | omega
      · unfold Fbeltwayref04_Give
        rw [VS.valid h]
        simp only [Option.bind_some]
        rw [if_neg (by simp)]
        repeat' split
        all_goals first | rfl | omega
  · obtain ⟨h1, h2⟩ := bad_valid h hI
    refine ⟨((0, [], []), 0, 1), ?_, ?_, by simp, by simp⟩
    · unfold Fpool_Give; rw [h1]; rfl
    · unfold Fbeltwayref04_Give; rw [h2]; rfl
/-- A frame taken out of those that are free. -/
theorem takeR_some {s : Sp} {o b f : Int} {r : List Int} (hst : StOk s o (b * 4294967296 + o)) (hf : frees s.2.2 = f :: r) : takeR s o b = ((s.1, s.2.1, s.2.2.set f.toNat (o, b * 4294967296 + o, -1)), f, 0) := by
  unfold takeR
  rw [if_pos hst, hf]
theorem takeR_full {s : Sp} {o b : Int} (hst : StOk s o (b * 4294967296 + o)) (hf : frees s.2.2 = []) : takeR s o b = ((0, [], []), 0, 4) := by
  unfold takeR
  rw [if_pos hst, hf]
theorem StOk.none {s : Sp} {o st : Int} (h : owned s.2.2 o = []) : StOk s o st := by
  intro x x0 x1 hx
  have : x ∈ owned s.2.2 o := mem_owned.2 ⟨⟨x0, x1⟩, hx⟩
  rw [h] at this; cases this
end Go.Proofs.YtjbkmpipccdnhaaDoor
