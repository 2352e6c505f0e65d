/-
  Plain laws of belts (rows of increments): what a walk over all of them reckons, copies, and how they are made.
-/
import Derived.Test.YtnfleglhbgknmaaSpG
import Derived.Test.YtnfleglhbgknmaaBmpB
import Derived.Test.YtnfleglhbgknmaaSeatW
set_option linter.unusedVariables false
namespace Go.Proofs.Ytnfleglhbgknmaa
open Go Go.V3

abbrev Rows : Type := List (List Inc)
theorem flat_split {α : Type} (q : List (List α)) (k : Nat) (hk : k < q.length) : q.flatten = (q.take k).flatten ++ (gl [] q k ++ (q.drop (k + 1)).flatten) := by
  rw [gl_lt hk, ← List.flatten_cons, ← List.drop_eq_getElem_cons hk, ← List.flatten_append, List.take_append_drop]
theorem take_gl {α : Type} {d : α} (x : List α) (j : Nat) (hj : j < x.length) : x.take (j + 1) = x.take j ++ [gl d x j] := by
  rw [gl_lt hj, List.take_append_getElem hj]
theorem drop_gl {α : Type} {d : α} (x : List α) (j : Nat) (hj : j < x.length) : x = x.take j ++ gl d x j :: x.drop (j + 1) := by
  rw [gl_lt hj, ← List.drop_eq_getElem_cons hj, List.take_append_drop]
/-- A walk over all rows, which reckons as it goes. -/
theorem loop2 {α γ β : Type} {q : List (List γ)} {d : γ} {F : α → γ → α} {a0 : α} {r : α → β} {out : α × Int → Option ((α × Int) ⊕ β)} {inn : Nat → α × Int → Option ((α × Int) ⊕ ((α × Int) ⊕ β))}
    (h1 : ∀ k a, k < q.length → out (a, (k : Int)) = loopO (inn k) (a, 0))
    (h2 : ∀ (k j : Nat) a, k < q.length → j < (gl [] q k).length → (∃ pre suf, q.flatten = pre ++ gl d (gl [] q k) j :: suf ∧ a = pre.foldl F a0) → inn k (a, (j : Int)) = some (.inl (F a (gl d (gl [] q k) j), (j : Int) + 1)))
    (h3 : ∀ (k : Nat) a, k < q.length → inn k (a, ((gl [] q k).length : Int)) = some (.inr (.inl (a, (k : Int) + 1))))
    (h4 : ∀ a, out (a, (q.length : Int)) = some (.inr (r a))) : loopO out (a0, 0) = some (r (q.flatten.foldl F a0)) := by
  refine (loopO_up (fun k (st : α × Int) => k ≤ q.length ∧ st = ((q.take k).flatten.foldl F a0, (k : Int))) (fun b => b = r (q.flatten.foldl F a0)) q.length ?_ ?_ (s := (a0, 0)) ⟨by omega, by simp⟩).elim fun b hb => by rw [hb.1, hb.2]
  · rintro k st hk ⟨_, rfl⟩
    left
    refine ⟨_, ?_, by omega, rfl⟩
    rw [h1 k _ hk]
    refine (loopO_up (fun j (st : α × Int) => j ≤ (gl [] q k).length ∧ st = (((q.take k).flatten ++ (gl [] q k).take j).foldl F a0, (j : Int))) (fun b => b = Sum.inl ((q.take (k + 1)).flatten.foldl F a0, ((k + 1 : Nat) : Int))) (gl [] q k).length ?_ ?_ (s := ((q.take k).flatten.foldl F a0, 0)) ⟨by omega, by simp⟩).elim fun b hb => by rw [hb.1, hb.2]
    · rintro j st hj ⟨_, rfl⟩
      left
      refine ⟨_, h2 k j _ hk hj ⟨(q.take k).flatten ++ (gl [] q k).take j, (gl [] q k).drop (j + 1) ++ (q.drop (k + 1)).flatten, ?_, rfl⟩, by omega, ?_⟩
      · rw [flat_split q k hk]
        conv => lhs; rw [drop_gl (d := d) (gl [] q k) j hj]
        simp
      · rw [take_gl (d := d) _ j hj, ← List.append_assoc, List.foldl_append (l' := [_])]
        rfl
    · rintro st ⟨_, rfl⟩
      refine ⟨_, h3 k _ hk, ?_⟩
      rw [List.take_length, take_gl (d := []) q k hk]
      simp
  · rintro st ⟨_, rfl⟩
    exact ⟨_, h4 _, by rw [List.take_length]⟩

/-- The words of increments, and the greatest of their frames. -/
def wsum (xs : List Inc) : Int := xs.foldl (fun n i => n + i.2.2.2.2) 0
def lrg (z : Int) (xs : List Inc) : Int := xs.foldl (fun n i => max n (cl z i.2.2.2.2)) 0
theorem wsum_from (xs : List Inc) (a : Int) : xs.foldl (fun n i => n + i.2.2.2.2) a = a + wsum xs := by
  unfold wsum
  induction xs generalizing a with
  | nil => simp
  | cons x xs ih => rw [List.foldl_cons, List.foldl_cons, ih, ih (0 + _)]; omega
theorem wsum_cons (x : Inc) (xs : List Inc) : wsum (x :: xs) = x.2.2.2.2 + wsum xs := by
  show List.foldl _ (0 + x.2.2.2.2) xs = _
  rw [wsum_from]; omega
theorem wsum_app (xs ys : List Inc) : wsum (xs ++ ys) = wsum xs + wsum ys := by
  unfold wsum
  rw [List.foldl_append, wsum_from]; rfl
theorem wsum_nonneg {xs : List Inc} (h : ∀ i ∈ xs, 0 ≤ i.2.2.2.2) : 0 ≤ wsum xs := by
  induction xs with
  | nil => decide
  | cons x xs ih =>
    rw [wsum_cons]
    have := h x (List.mem_cons_self ..)
    have := ih fun i hi => h i (List.mem_cons_of_mem _ hi)
    omega
theorem lrg_le {z m : Int} (xs : List Inc) : lrg z xs ≤ m ↔ 0 ≤ m ∧ ∀ i ∈ xs, cl z i.2.2.2.2 ≤ m := by
  have key : ∀ (xs : List Inc) (a : Int), xs.foldl (fun n i => max n (cl z i.2.2.2.2)) a ≤ m ↔ a ≤ m ∧ ∀ i ∈ xs, cl z i.2.2.2.2 ≤ m := by
    intro xs
    induction xs with
    | nil => intro a; simp
    | cons x xs ih =>
      intro a
      rw [List.foldl_cons, ih, List.forall_mem_cons, Int.max_le, and_assoc]
  exact key xs 0
theorem lrg_ge {z : Int} (xs : List Inc) : 0 ≤ lrg z xs ∧ ∀ i ∈ xs, cl z i.2.2.2.2 ≤ lrg z xs := (lrg_le xs).1 (Int.le_refl _)

theorem rWords_ok {q : Rows} (hq : q.length ≤ 1000000) (hx : ∀ x ∈ q, x.length ≤ 1000000) (hw : ∀ i ∈ q.flatten, 0 ≤ i.2.2.2.2) (hs : wsum q.flatten ≤ 1000000) : Fbeltwayref11_Words q = some (wsum q.flatten) := by
  unfold Fbeltwayref11_Words
  apply loop2 (q := q) (d := ((0, 0, 0, 0, 0) : Inc)) (F := fun n i => n + i.2.2.2.2) (r := id)
  · intro k a hk
    simp only
    rw [if_pos (by omega), if_pos (by omega)]
  · intro k j a hk hj ha
    obtain ⟨pre, suf, e, rfl⟩ := ha
    have h0 : 0 ≤ wsum pre := wsum_nonneg fun i hi => hw i (by rw [e]; exact List.mem_append_left _ hi)
    have h1 := hw (gl ((0, 0, 0, 0, 0) : Inc) (gl [] q k) j) (by rw [e]; simp)
    have h2 : 0 ≤ wsum suf := wsum_nonneg fun i hi => hw i (by rw [e]; exact List.mem_append_right _ (List.mem_cons_of_mem _ hi))
    rw [e, wsum_app, wsum_cons] at hs
    have hl := hx (gl [] q k) (gl_mem hk)
    simp only [Int.toNat_natCast]
    rw [if_pos (by omega), if_pos (by omega), wsum_from, w64_id (by omega) (by omega), w64_id (by omega) (by omega)]
  · intro k a hk
    simp only [Int.toNat_natCast]
    rw [if_neg (by omega), w64_id (by omega) (by omega)]
  · intro a
    simp only
    rw [if_neg (by omega)]; rfl
theorem rLargest_ok {s : Sp} (hv : VS s) {q : Rows} (hq : q.length ≤ 1000000) (hx : ∀ x ∈ q, x.length ≤ 1000000) (hw : ∀ i ∈ q.flatten, 0 ≤ i.2.2.2.2 ∧ i.2.2.2.2 ≤ 1000000) : Fbeltwayref11_Largest s q = some (lrg (sz s.1) q.flatten) := by
  unfold Fbeltwayref11_Largest
  apply loop2 (q := q) (d := ((0, 0, 0, 0, 0) : Inc)) (F := fun n i => max n (cl (sz s.1) i.2.2.2.2)) (r := id)
  · intro k a hk
    simp only
    rw [if_pos (by omega), if_pos (by omega)]
  · intro k j a hk hj ha
    obtain ⟨pre, suf, e, rfl⟩ := ha
    have h1 := hw (gl ((0, 0, 0, 0, 0) : Inc) (gl [] q k) j) (by rw [e]; simp)
    have hl := hx (gl [] q k) (gl_mem hk)
    simp only [Int.toNat_natCast]
    generalize gl ((0, 0, 0, 0, 0) : Inc) (gl [] q k) j = i at h1 ⊢
    rw [if_pos (by omega), if_pos (by omega), Frames_ok hv (i := (i.1, i.2.1, i.2.2.1, i.2.2.2)) h1.1 h1.2, Option.bind_some, w64_id (by omega) (by omega)]
    simp only
    congr 3
    omega
  · intro k a hk
    simp only [Int.toNat_natCast]
    rw [if_neg (by omega), w64_id (by omega) (by omega)]
  · intro a
    simp only
    rw [if_neg (by omega)]; rfl
theorem bLargest_ok {s : Sp} (hv : VS s) {q : Rows} (hq : q.length ≤ 1000000) (hx : ∀ x ∈ q, x.length ≤ 1000000) (hw : ∀ i ∈ q.flatten, 0 ≤ i.2.2.2.2 ∧ i.2.2.2.2 ≤ 1000000) : Fbelt_Largest s q = some (lrg (sz s.1) q.flatten) := by
  unfold Fbelt_Largest
  apply loop2 (q := q) (d := ((0, 0, 0, 0, 0) : Inc)) (F := fun n i => max n (cl (sz s.1) i.2.2.2.2)) (r := id)
  · intro k a hk
    simp only
    rw [if_pos (by omega), if_pos (by omega)]
  · intro k j a hk hj ha
    obtain ⟨pre, suf, e, rfl⟩ := ha
    have h1 := hw (gl ((0, 0, 0, 0, 0) : Inc) (gl [] q k) j) (by rw [e]; simp)
    have hl := hx (gl [] q k) (gl_mem hk)
    simp only [Int.toNat_natCast]
    generalize gl ((0, 0, 0, 0, 0) : Inc) (gl [] q k) j = i at h1 ⊢
    rw [if_pos (by omega), if_pos (by omega), bFrames_ok hv (i := (i.1, i.2.1, i.2.2.1, i.2.2.2)) h1.1 h1.2, Option.bind_some, w64_id (by omega) (by omega)]
    simp only
    congr 3
    omega
  · intro k a hk
    simp only [Int.toNat_natCast]
    rw [if_neg (by omega), w64_id (by omega) (by omega)]
  · intro a
    simp only
    rw [if_neg (by omega)]; rfl
theorem rCopy_ok {q : Rows} (hq : q.length ≤ 1000000) (hx : ∀ x ∈ q, x.length ≤ 1000000) : Fbeltwayref11_Copy q = some q := by
  unfold Fbeltwayref11_Copy
  refine (loopO_up (fun k (st : Rows × Int) => k ≤ q.length ∧ st = (q.take k, (k : Int))) (fun b => b = q) q.length ?_ ?_ (s := ([], 0)) ⟨by omega, by simp⟩).elim fun b hb => by rw [hb.1, hb.2]
  · rintro k st hk ⟨_, rfl⟩
    have hl := hx (gl [] q k) (gl_mem hk)
    left
    refine ⟨_, ?_, by omega, rfl⟩
    simp only [Int.toNat_natCast]
    rw [if_pos (by omega), if_pos (by omega), if_pos (by simp; omega), if_pos (by simp; omega), List.nil_append, take_gl (d := []) q k hk, w64_id (by omega) (by omega)]
    rfl
  · rintro st ⟨_, rfl⟩
    simp only
    rw [if_neg (by omega), List.take_length]
    exact ⟨_, rfl, rfl⟩
/-- The frames in use. -/
def used (s : Sp) : Int := (s.2.2.length : Int) - (frees s.2.2).length
theorem used_ge (s : Sp) : 0 ≤ used s := by
  have : (frees s.2.2).length ≤ s.2.2.length := owned_len s.2.2 (-1)
  unfold used; omega
/-- The increments of a belt. -/
def onB (l : List Inc) (b : Nat) : List Inc := l.filter fun i => decide (i.2.1 = (b : Int))
theorem Queue_ok {l : List Inc} (hl : l.length ≤ 1000000) {n : Nat} (hn : n ≤ 1000000) (hb : ∀ i ∈ l, 0 ≤ i.2.1) : Fbeltwaymake_Queue l (n : Int) = some ((List.range n).map (onB l)) := by
  unfold Fbeltwaymake_Queue
  rw [if_pos (by omega)]
  refine (loopO_up (fun k (st : Int × Rows) => k ≤ l.length ∧ st = ((k : Int), (List.range n).map (onB (l.take k)))) (fun b => b = (List.range n).map (onB l)) l.length ?_ ?_ ⟨by omega, ?_⟩).elim fun b hb => by rw [hb.1, hb.2]
  · rintro k st hk ⟨_, rfl⟩
    have hm : gl ((0, 0, 0, 0, 0) : Inc) l k ∈ l := gl_mem hk
    have h0 := hb _ hm
    have ht := take_gl (d := ((0, 0, 0, 0, 0) : Inc)) l k hk
    simp only [Int.toNat_natCast]
    generalize gl ((0, 0, 0, 0, 0) : Inc) l k = i at hm h0 ht ⊢
    rw [if_pos (by omega), if_pos (by omega), w64_id (e := (k : Int) + 1) (by omega) (by omega), show (i.1, i.2.1, i.2.2.1, i.2.2.2) = i from rfl]
    left
    by_cases hc : i.2.1 < n
    · have hlen : ((List.range n).map (onB (l.take k))).length = n := by simp
      have hgd : ((List.range n).map (onB (l.take k))).getD i.2.1.toNat [] = onB (l.take k) i.2.1.toNat := by
        rw [List.getD_eq_getElem?_getD, List.getElem?_map, List.getElem?_range (by omega)]; rfl
      have hol : (onB (l.take k) i.2.1.toNat).length ≤ k := by
        have := List.length_filter_le (fun x : Inc => decide (x.2.1 = (i.2.1.toNat : Int))) (l.take k)
        rw [List.length_take] at this
        unfold onB; omega
      rw [if_pos hc, if_pos (by omega), hgd, if_pos (by simp; omega), if_pos (by omega), if_pos trivial]
      refine ⟨_, rfl, by omega, ?_⟩
      congr 1
      apply List.ext_getElem?
      intro b
      rw [List.getElem?_set, List.getElem?_map, List.getElem?_map, hlen]
      by_cases hb : b < n
      · rw [List.getElem?_range hb, Option.map_some, Option.map_some, ht]
        unfold onB
        rw [List.filter_append]
        by_cases e : i.2.1.toNat = b
        · rw [if_pos e, if_pos (by omega), List.filter_cons_of_pos (by simp; omega), e]; rfl
        · rw [if_neg e, List.filter_cons_of_neg (by simp; omega)]; simp
      · rw [if_neg (by omega), List.getElem?_eq_none (l := List.range n) (by simp; omega)]; rfl
    · rw [if_neg hc]
      refine ⟨_, rfl, by omega, ?_⟩
      congr 1
      apply List.map_congr_left
      intro b hb
      rw [List.mem_range] at hb
      rw [ht]
      unfold onB
      rw [List.filter_append, List.filter_cons_of_neg (by simp; omega)]; simp
  · rintro st ⟨_, rfl⟩
    simp only
    rw [if_neg (by omega), List.take_length]
    exact ⟨_, rfl, rfl⟩
  · congr 1
    apply List.ext_getElem?
    intro b
    rw [List.getElem?_map, List.getElem?_replicate]
    by_cases hb : b < n
    · rw [List.getElem?_range hb, if_pos (by omega)]; rfl
    · rw [if_neg (by omega), List.getElem?_eq_none (l := List.range n) (by simp; omega)]; rfl
end Go.Proofs.Ytnfleglhbgknmaa
