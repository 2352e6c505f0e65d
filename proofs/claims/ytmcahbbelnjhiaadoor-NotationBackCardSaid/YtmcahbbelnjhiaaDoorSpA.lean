/-
  Plain laws of spaces: frames that follow each other, valid spaces.
-/
import Derived.Test.YtmcahbbelnjhiaaDoorLibV
set_option linter.unusedVariables false
namespace Go.V3
open Go

/-- A loop that counts up. -/
theorem loopO_up {σ β : Type} {f : σ → Option (σ ⊕ β)} (I : Nat → σ → Prop) (Q : β → Prop) (n : Nat)
    (hs : ∀ k s, k < n → I k s → (∃ s', f s = some (.inl s') ∧ I (k + 1) s') ∨ (∃ b, f s = some (.inr b) ∧ Q b))
    (he : ∀ s, I n s → ∃ b, f s = some (.inr b) ∧ Q b) {s : σ} (h : I 0 s) : ∃ b, loopO f s = some b ∧ Q b := by
  refine loopO_ind (fun m s => m ≤ n ∧ I (n - m) s) Q ?_ n s ⟨Nat.le_refl _, by rw [Nat.sub_self]; exact h⟩
  rintro m s ⟨hm, hi⟩
  rcases Nat.eq_zero_or_pos m with rfl | h0
  · left; exact he s (by simpa using hi)
  · rcases hs (n - m) s (by omega) hi with ⟨s', h1, h2⟩ | h1
    · right
      refine ⟨m - 1, s', by omega, h1, by omega, ?_⟩
      rw [show n - (m - 1) = n - m + 1 from by omega]; exact h2
    · left; exact h1

abbrev Fr : Type := Int × Int × Int
abbrev frT : Ty := .pair (.int .i64) (.pair (.int .i64) (.int .i64))
abbrev Sp : Type := Int × List (BitVec 64) × List Fr
abbrev Inc : Type := Int × Int × Int × Int × Int
def fr (fs : List Fr) (i : Int) : Fr := gl (0, 0, 0) fs i.toNat
def nx (fs : List Fr) (i : Int) : Int := if 0 ≤ i ∧ i < fs.length then (fr fs i).2.2 else -1
def sz (s : Int) : Int := 2 ^ s.toNat

theorem sz_pos' (s : Int) : 0 < sz s := Int.pow_pos (by decide)
theorem sz_cases {s : Int} (h : 3 ≤ s ∧ s ≤ 8) : sz s = 8 ∨ sz s = 16 ∨ sz s = 32 ∨ sz s = 64 ∨ sz s = 128 ∨ sz s = 256 := by
  have : s = 3 ∨ s = 4 ∨ s = 5 ∨ s = 6 ∨ s = 7 ∨ s = 8 := by omega
  rcases this with rfl | rfl | rfl | rfl | rfl | rfl <;> decide
theorem sz_le {s : Int} (h : 3 ≤ s ∧ s ≤ 8) : 8 ≤ sz s ∧ sz s ≤ 256 := by
  have := sz_cases h; omega
theorem sh_min {s : Int} (h : 3 ≤ s ∧ s ≤ 8) : min (BitVec.ofInt 64 s).toNat 64 = s.toNat := by
  have : s = 3 ∨ s = 4 ∨ s = 5 ∨ s = 6 ∨ s = 7 ∨ s = 8 := by omega
  rcases this with rfl | rfl | rfl | rfl | rfl | rfl <;> rfl
/-- The power that the code reckons. -/
theorem pow_sz {s : Int} (h : 3 ≤ s ∧ s ≤ 8) : (2 : Int) ^ min (BitVec.ofInt 64 s).toNat 64 = sz s := by rw [sh_min h]; rfl
theorem mul_sz {s i n : Int} (h : 3 ≤ s ∧ s ≤ 8) (h0 : 0 ≤ i) (h1 : i ≤ n) : 0 ≤ i * sz s ∧ i * sz s ≤ n * sz s := by
  obtain ⟨h2, h3⟩ := sz_le h
  exact ⟨Int.mul_nonneg h0 (by omega), Int.mul_le_mul_of_nonneg_right h1 (by omega)⟩
theorem mul_sz_le {s n : Int} (h : 3 ≤ s ∧ s ≤ 8) (h0 : 0 ≤ n) {m : Int} (h1 : n ≤ m) : 0 ≤ n * sz s ∧ n * sz s ≤ m * 256 := by
  obtain ⟨h2, h3⟩ := sz_le h
  exact ⟨Int.mul_nonneg h0 (by omega), Int.mul_le_mul h1 h3 (by omega) (by omega)⟩
theorem add_mul_sz (i s : Int) : (i + 1) * sz s = i * sz s + sz s := by rw [Int.add_mul, Int.one_mul]

theorem gl_lt {α : Type} {d : α} {xs : List α} {k : Nat} (h : k < xs.length) : gl d xs k = xs[k] := by
  unfold gl; simp [List.getD, h]
theorem gl_get? {α : Type} {d : α} {xs : List α} {k : Nat} (h : k < xs.length) : xs[k]? = some (gl d xs k) := by
  rw [gl_lt h]; exact List.getElem?_eq_getElem h
theorem gl_set {α : Type} {d : α} {xs : List α} {k j : Nat} {x : α} (h : j < xs.length) : gl d (xs.set j x) k = if k = j then x else gl d xs k := by
  unfold gl
  simp only [List.getD_eq_getElem?_getD, List.getElem?_set]
  by_cases hk : j = k
  · subst hk; simp [h]
  · rw [if_neg hk, if_neg (fun e => hk e.symm)]
theorem gl_app {α : Type} {d : α} {xs ys : List α} {k : Nat} (h : k < xs.length) : gl d (xs ++ ys) k = gl d xs k := by
  unfold gl
  rw [List.getD_eq_getElem?_getD, List.getD_eq_getElem?_getD, List.getElem?_append_left h]
theorem gl_rep {α : Type} {d : α} {n i : Nat} {v : α} (h : i < n) : gl d (List.replicate n v) i = v := by
  unfold gl; simp [List.getD, h]

theorem fr_set {fs : List Fr} {i j : Int} {x : Fr} (h0 : 0 ≤ j) (h1 : j < fs.length) (hi : 0 ≤ i) : fr (fs.set j.toNat x) i = if i = j then x else fr fs i := by
  unfold fr
  rw [gl_set (by omega)]
  by_cases h : i = j
  · subst h; simp
  · rw [if_neg h, if_neg (by omega)]

theorem nx_in {fs : List Fr} {i : Int} (h0 : 0 ≤ i) (h1 : i < fs.length) : nx fs i = (fr fs i).2.2 := by
  unfold nx; rw [if_pos ⟨h0, h1⟩]
theorem nx_neg (fs : List Fr) : nx fs (-1) = -1 := by unfold nx; rw [if_neg (by omega)]

/-- The frames from i on, in order. -/
def Pa (fs : List Fr) : Int → List Int → Prop
  | i, [] => i = -1
  | i, a :: r => i = a ∧ 0 ≤ a ∧ a < fs.length ∧ Pa fs (nx fs a) r
theorem Pa.fn {fs : List Fr} : ∀ {l l' : List Int} {i : Int}, Pa fs i l → Pa fs i l' → l = l'
  | [], [], _, _, _ => rfl
  | [], a :: r, i, h, h' => by obtain ⟨rfl, h0, _⟩ := h'; rw [Pa] at h; omega
  | a :: r, [], i, h, h' => by obtain ⟨rfl, h0, _⟩ := h; rw [Pa] at h'; omega
  | a :: r, b :: r', i, h, h' => by
    obtain ⟨rfl, _, _, h1⟩ := h
    obtain ⟨rfl, _, _, h2⟩ := h'
    rw [Pa.fn h1 h2]
theorem Pa.mem {fs : List Fr} : ∀ {l : List Int} {i x : Int}, Pa fs i l → x ∈ l → 0 ≤ x ∧ x < fs.length
  | [], _, _, _, hx => by cases hx
  | a :: r, i, x, h, hx => by
    obtain ⟨rfl, h0, h1, h2⟩ := h
    rcases List.mem_cons.1 hx with rfl | hx
    · exact ⟨h0, h1⟩
    · exact h2.mem hx
/-- From each frame of a path the rest of the path goes. -/
theorem Pa.drop {fs : List Fr} : ∀ {l : List Int} {i : Int} (k : Nat), Pa fs i l → (hk : k < l.length) → Pa fs l[k] (l.drop k)
  | [], _, k, _, hk => by simp at hk
  | a :: r, i, 0, h, _ => by
    obtain ⟨rfl, h0, h1, h2⟩ := h
    exact ⟨rfl, h0, h1, h2⟩
  | a :: r, i, k + 1, h, hk => by
    obtain ⟨rfl, h0, h1, h2⟩ := h
    simp only [List.getElem_cons_succ, List.drop_succ_cons]
    exact h2.drop k (by simpa using hk)
theorem Pa.nodup {fs : List Fr} : ∀ {l : List Int} {i : Int}, Pa fs i l → l.Nodup
  | [], _, _ => List.nodup_nil
  | a :: r, i, h => by
    have h' := h
    obtain ⟨rfl, h0, h1, h2⟩ := h
    refine List.nodup_cons.2 ⟨fun hm => ?_, h2.nodup⟩
    obtain ⟨k, hk, he⟩ := List.getElem_of_mem hm
    have h3 := h2.drop k hk
    rw [he] at h3
    have := congrArg List.length (h'.fn h3)
    simp at this
    omega

theorem nodup_bound : ∀ (n : Nat) (l : List Int), l.Nodup → (∀ x ∈ l, 0 ≤ x ∧ x < n) → l.length ≤ n
  | 0, l, _, h => by
    cases l with
    | nil => simp
    | cons a r => have := h a (by simp); omega
  | n + 1, l, hd, h => by
    have h1 := nodup_bound n (l.erase (n : Int)) (hd.erase _) (fun x hx => by
      have h2 := (hd.mem_erase_iff).1 hx
      have := h x h2.2
      have := h2.1
      omega)
    rw [List.length_erase] at h1
    split at h1 <;> omega
theorem Pa.length {fs : List Fr} {l : List Int} {i : Int} (h : Pa fs i l) : l.length ≤ fs.length :=
  nodup_bound _ _ h.nodup fun x hx => h.mem hx

/-- k frames on. -/
def itn (fs : List Fr) : Nat → Int → Int
  | 0, i => i
  | k + 1, i => nx fs (itn fs k i)
theorem itn_succ' (fs : List Fr) (k : Nat) (i : Int) : itn fs (k + 1) i = itn fs k (nx fs i) := by
  induction k with
  | zero => rfl
  | succ k ih => rw [itn, ih]; rfl
theorem itn_neg (fs : List Fr) (k : Nat) : itn fs k (-1) = -1 := by
  induction k with
  | zero => rfl
  | succ k ih => rw [itn, ih, nx_neg]
theorem itn_add (fs : List Fr) (a b : Nat) (i : Int) : itn fs (a + b) i = itn fs b (itn fs a i) := by
  induction b with
  | zero => rfl
  | succ b ih => rw [← Nat.add_assoc, itn, ih]; rfl
/-- What comes after a frame is a frame, or nothing. -/
def Rng (fs : List Fr) : Prop := ∀ i : Int, 0 ≤ i → i < fs.length → -1 ≤ nx fs i ∧ nx fs i < fs.length
theorem Pa.of_itn {fs : List Fr} (hr : Rng fs) : ∀ (k : Nat) (i : Int), -1 ≤ i → i < fs.length → itn fs k i = -1 → ∃ l, Pa fs i l
  | 0, i, _, _, h => ⟨[], h⟩
  | k + 1, i, h0, h1, h => by
    by_cases hi : i = -1
    · exact ⟨[], hi⟩
    · rw [itn_succ'] at h
      obtain ⟨l, hl⟩ := Pa.of_itn hr k (nx fs i) (hr i (by omega) h1).1 (hr i (by omega) h1).2 h
      exact ⟨i :: l, rfl, by omega, h1, hl⟩
theorem Pa.ends {fs : List Fr} : ∀ {l : List Int} {i : Int}, Pa fs i l → ∀ m, l.length ≤ m → itn fs m i = -1
  | [], i, h, m, _ => by rw [Pa] at h; rw [h, itn_neg]
  | a :: r, i, h, m, hm => by
    obtain ⟨rfl, _, _, h2⟩ := h
    obtain ⟨m, rfl⟩ : ∃ k, m = k + 1 := ⟨m - 1, by simp at hm; omega⟩
    rw [itn_succ']
    exact h2.ends m (by simpa using hm)

theorem pigeon : ∀ (n : Nat) (f : Nat → Int), (∀ k, k ≤ n → 0 ≤ f k ∧ f k < n) → ∃ a b, a < b ∧ b ≤ n ∧ f a = f b := by
  intro n f h
  have hd : ¬ ((List.range (n + 1)).map f).Nodup := fun hd => by
    have := nodup_bound n _ hd (fun x hx => by
      obtain ⟨k, hk, rfl⟩ := List.mem_map.1 hx
      exact h k (by have := List.mem_range.1 hk; omega))
    simp at this
    omega
  rw [List.nodup_iff_pairwise_ne, List.pairwise_iff_getElem] at hd
  simp only [List.length_map, List.length_range, List.getElem_map, List.getElem_range, Classical.not_forall] at hd
  obtain ⟨a, b, ha, hb, hab, he⟩ := hd
  exact ⟨a, b, hab, by omega, by simpa using he⟩

/-- No frame is reached from itself: every path ends. -/
theorem Pa.of_straight {fs : List Fr} (hr : Rng fs) (h : ∀ i : Int, 0 ≤ i → i < fs.length → ∀ k : Nat, 1 ≤ k → k ≤ fs.length → itn fs k i ≠ i) (i : Int) (h0 : 0 ≤ i) (h1 : i < fs.length) : ∃ l, Pa fs i l := by
  refine Pa.of_itn hr (fs.length) i (by omega) h1 ?_
  apply Classical.byContradiction
  intro hn
  have hin : ∀ k, k ≤ fs.length → 0 ≤ itn fs k i ∧ itn fs k i < fs.length := by
    intro k
    induction k with
    | zero => exact fun _ => ⟨h0, h1⟩
    | succ k ih =>
      intro hk
      obtain ⟨h2, h3⟩ := ih (by omega)
      have h4 := hr _ h2 h3
      refine ⟨?_, h4.2⟩
      have h5 : itn fs (k + 1) i ≠ -1 := by
        intro h6
        obtain ⟨d, hd⟩ := Nat.exists_eq_add_of_le hk
        rw [hd, itn_add, h6, itn_neg] at hn
        exact hn rfl
      rw [itn] at h5 ⊢
      omega
  obtain ⟨a, b, hab, hb, he⟩ := pigeon fs.length (fun k => itn fs k i) hin
  obtain ⟨d, rfl⟩ := Nat.exists_eq_add_of_le (Nat.le_of_lt hab)
  simp only [itn_add] at he
  obtain ⟨h2, h3⟩ := hin a (by omega)
  exact h _ h2 h3 d (by omega) (by omega) he.symm
theorem Pa.straight {fs : List Fr} {l : List Int} {i : Int} (h : Pa fs i l) (h0 : 0 ≤ i) (k : Nat) (hk : 1 ≤ k) : itn fs k i ≠ i := by
  intro he
  have hm : ∀ m : Nat, itn fs (m * k) i = i := by
    intro m
    induction m with
    | zero => rw [Nat.zero_mul]; rfl
    | succ m ih => rw [Nat.succ_mul, itn_add, ih, he]
  have h1 := h.ends (l.length * k) (Nat.le_mul_of_pos_right _ hk)
  rw [hm] at h1
  omega

/-- An owner's mark. -/
def Stamped (f : Fr) : Prop := 0 ≤ f.1 ∧ f.1 ≤ 4294967295 ∧ ∃ b : Int, 0 ≤ b ∧ b < 4 ∧ f.2.1 = f.1 + b * 4294967296
def Free (f : Fr) : Prop := f = (-1, -1, -1)
def Zero (s : Sp) (i : Int) : Prop := ∀ a : Nat, i * sz s.1 ≤ a → (a : Int) < (i + 1) * sz s.1 → gl 0#64 s.2.1 a = 0#64
def UsedOk (fs : List Fr) (i : Int) : Prop :=
  Stamped (fr fs i) ∧ -1 ≤ (fr fs i).2.2 ∧ (fr fs i).2.2 < fs.length ∧ (fr fs i).2.2 ≠ i ∧ ((fr fs i).2.2 ≠ -1 → (fr fs (fr fs i).2.2).1 = (fr fs i).1 ∧ (fr fs (fr fs i).2.2).2.1 = (fr fs i).2.1)
def FrOk (s : Sp) (i : Int) : Prop := (Free (fr s.2.2 i) ∧ Zero s i) ∨ UsedOk s.2.2 i
/-- A valid space. -/
structure VS (s : Sp) : Prop where
  sh : 3 ≤ s.1 ∧ s.1 ≤ 8
  n : 2 ≤ s.2.2.length ∧ s.2.2.length ≤ 64
  w : (s.2.1.length : Int) = s.2.2.length * sz s.1
  fr : ∀ i : Int, 0 ≤ i → i < s.2.2.length → FrOk s i
  inj : ∀ i j : Int, 0 ≤ i → i < s.2.2.length → 0 ≤ j → j < s.2.2.length → nx s.2.2 i = nx s.2.2 j → nx s.2.2 i ≠ -1 → i = j
  acy : ∀ i : Int, 0 ≤ i → i < s.2.2.length → ∃ l, Pa s.2.2 i l

/-! Bits and parts. -/
theorem bit_test (x : BitVec 64) (n : Nat) : (x >>> n) &&& 1#64 = 1#64 ↔ x.getLsbD n = true := by
  constructor
  · intro h
    have := congrArg (fun v => v.getLsbD 0) h
    simpa using this
  · intro h
    apply BitVec.eq_of_getLsbD_eq
    intro i hi
    simp only [BitVec.getLsbD_and, BitVec.getLsbD_ushiftRight, BitVec.getLsbD_one]
    by_cases h0 : i = 0
    · subst h0; simp [h]
    · simp [h0]
theorem bit_set (x : BitVec 64) {m : Nat} (j : Nat) (hm : m < 64) : (x ||| (1#64 <<< m)).getLsbD j = (x.getLsbD j || decide (m = j)) := by
  simp only [BitVec.getLsbD_or, BitVec.getLsbD_shiftLeft, BitVec.getLsbD_one]
  congr 1
  rw [Bool.eq_iff_iff]
  simp
  omega
theorem idx_toNat {i : Int} (h0 : 0 ≤ i) (h1 : i < 64) : (BitVec.ofInt 64 i).toNat = i.toNat := by
  rw [BitVec.toNat_ofInt]
  congr 1
  exact Int.emod_eq_of_lt h0 (by omega)
theorem gl_subl {α : Type} {d : α} {xs : List α} {lo n j : Nat} (h : j < n) : gl d (subl xs lo n) j = gl d xs (lo + j) := by
  unfold gl subl
  simp only [List.getD_eq_getElem?_getD, List.getElem?_take, List.getElem?_drop]
  rw [if_pos h]
theorem subl_length {α : Type} {xs : List α} {lo n : Nat} (h : lo + n ≤ xs.length) : (subl xs lo n).length = n := by
  unfold subl; simp; omega
end Go.V3
