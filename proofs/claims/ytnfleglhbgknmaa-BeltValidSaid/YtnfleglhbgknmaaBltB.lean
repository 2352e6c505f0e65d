/-
  Plain laws of package belt: which belts are valid.
-/
import Derived.Test.YtnfleglhbgknmaaBltA
set_option linter.unusedVariables false
namespace Go.Proofs.Ytnfleglhbgknmaa
open Go Go.V3

/-- A walk over all rows that ends at what is not fit. -/
theorem loopV {γ σ τ β : Type} {q : List (List γ)} {d : γ} {ok : Nat → Nat → Prop} {Q : γ → Prop} (hQ : ∀ k j, k < q.length → j < (gl [] q k).length → ok k j → Q (gl d (gl [] q k) j))
    {so : Nat → List γ → σ} {si : Nat → Nat → List γ → τ} {out : σ → Option (σ ⊕ β)} {inn : Nat → List γ → τ → Option (τ ⊕ (σ ⊕ β))} {r bad : β} {s0 : σ} (h0 : s0 = so 0 [])
    (h1 : ∀ k seen, k < q.length → out (so k seen) = loopO (inn k seen) (si k 0 seen))
    (h2 : ∀ k j seen0 seen, k < q.length → j < (gl [] q k).length → seen = (q.take k).flatten ++ (gl [] q k).take j → (∀ x ∈ seen, Q x) → (∀ k' j', (k' < k ∨ (k' = k ∧ j' < j)) → j' < (gl [] q k').length → ok k' j') → ok k j → inn k seen0 (si k j seen) = some (.inl (si k (j + 1) (seen ++ [gl d (gl [] q k) j]))))
    (h2' : ∀ k j seen0 seen, k < q.length → j < (gl [] q k).length → seen = (q.take k).flatten ++ (gl [] q k).take j → (∀ x ∈ seen, Q x) → (∀ k' j', (k' < k ∨ (k' = k ∧ j' < j)) → j' < (gl [] q k').length → ok k' j') → ¬ ok k j → inn k seen0 (si k j seen) = some (.inr (.inr bad)))
    (h3 : ∀ k seen0 seen, k < q.length → inn k seen0 (si k (gl [] q k).length seen) = some (.inr (.inl (so (k + 1) seen))))
    (h4 : (∀ k j, k < q.length → j < (gl [] q k).length → ok k j) → (∀ x ∈ q.flatten, Q x) → out (so q.length q.flatten) = some (.inr r)) :
    ((∀ k j, k < q.length → j < (gl [] q k).length → ok k j) → loopO out s0 = some r) ∧ (¬ (∀ k j, k < q.length → j < (gl [] q k).length → ok k j) → loopO out s0 = some bad) := by
  subst h0
  have key := loopO_up (f := out) (fun k (st : σ) => k ≤ q.length ∧ st = so k (q.take k).flatten ∧ (∀ k' j, k' < k → j < (gl [] q k').length → ok k' j) ∧ ∀ x ∈ (q.take k).flatten, Q x)
    (fun b => ((∀ k j, k < q.length → j < (gl [] q k).length → ok k j) ∧ b = r) ∨ (¬ (∀ k j, k < q.length → j < (gl [] q k).length → ok k j) ∧ b = bad)) q.length ?_ ?_ (s := so 0 []) ⟨by omega, by simp, fun _ _ h => by omega, by simp⟩
  · obtain ⟨b, e, h⟩ := key
    rw [e]
    exact ⟨fun ha => by rcases h with ⟨_, rfl⟩ | ⟨h, _⟩; exact rfl; exact absurd ha h, fun ha => by rcases h with ⟨h, _⟩ | ⟨_, rfl⟩; exact absurd h ha; exact rfl⟩
  · rintro k st hk ⟨_, rfl, ho, hq⟩
    rw [h1 k _ hk]
    have inner := loopO_up (f := inn k (q.take k).flatten) (fun j (st : τ) => j ≤ (gl [] q k).length ∧ st = si k j ((q.take k).flatten ++ (gl [] q k).take j) ∧ (∀ j', j' < j → ok k j') ∧ ∀ x ∈ (q.take k).flatten ++ (gl [] q k).take j, Q x)
      (fun b => (b = Sum.inl (so (k + 1) ((q.take k).flatten ++ gl [] q k)) ∧ (∀ j, j < (gl [] q k).length → ok k j) ∧ ∀ x ∈ (q.take k).flatten ++ gl [] q k, Q x) ∨ (b = Sum.inr bad ∧ ∃ j, j < (gl [] q k).length ∧ ¬ ok k j)) (gl [] q k).length ?_ ?_ (s := si k 0 (q.take k).flatten) ⟨by omega, by simp, fun _ h => by omega, by simpa using hq⟩
    · obtain ⟨b, e, h⟩ := inner
      rw [e]
      have ht : (q.take (k + 1)).flatten = (q.take k).flatten ++ gl [] q k := by rw [take_gl (d := []) q k hk]; simp
      rcases h with ⟨rfl, h, hx⟩ | ⟨rfl, j, hj, hn⟩
      · left
        refine ⟨_, rfl, by omega, by rw [ht], fun k' j hk' hj => ?_, by rw [ht]; exact hx⟩
        by_cases e : k' = k
        · subst e; exact h j hj
        · exact ho k' j (by omega) hj
      · exact .inr ⟨_, rfl, .inr ⟨fun ha => hn (ha k j hk hj), rfl⟩⟩
    · rintro j st hj ⟨_, rfl, ho', hq'⟩
      have hp : ∀ k' j', (k' < k ∨ (k' = k ∧ j' < j)) → j' < (gl [] q k').length → ok k' j' := by
        rintro k' j' (h | ⟨rfl, h⟩) hl
        · exact ho k' j' h hl
        · exact ho' j' h
      by_cases hok : ok k j
      · rw [h2 k j _ _ hk hj rfl hq' hp hok]
        have ht : (q.take k).flatten ++ (gl [] q k).take (j + 1) = (q.take k).flatten ++ (gl [] q k).take j ++ [gl d (gl [] q k) j] := by rw [take_gl (d := d) _ j hj, List.append_assoc]
        refine .inl ⟨_, rfl, by omega, by rw [ht], fun j' hj' => ?_, ?_⟩
        · by_cases e : j' = j
          · subst e; exact hok
          · exact ho' j' (by omega)
        · rw [ht]
          intro x hx
          rcases List.mem_append.1 hx with hx | hx
          · exact hq' x hx
          · rw [List.mem_singleton.1 hx]; exact hQ k j hk hj hok
      · rw [h2' k j _ _ hk hj rfl hq' hp hok]
        exact .inr ⟨_, rfl, .inr ⟨rfl, j, hj, hok⟩⟩
    · rintro st ⟨_, rfl, ho', hq'⟩
      rw [h3 k _ _ hk]
      rw [List.take_length] at hq' ⊢
      exact ⟨_, rfl, .inl ⟨rfl, ho', hq'⟩⟩
  · rintro st ⟨_, rfl, ho, hq⟩
    rw [List.take_length] at hq ⊢
    rw [h4 ho hq]
    exact ⟨_, rfl, .inl ⟨ho, rfl⟩⟩

/-! Maps of numbers. -/
theorem mget_mset (m : List (Int × Bool)) (k : Int) (v : Bool) (n : Int) : mget (mset m k v) n = if n = k then some v else mget m n := by
  induction m with
  | nil => by_cases h : n = k <;> simp [mset, mget, h]
  | cons p r ih =>
    obtain ⟨a, b⟩ := p
    by_cases h : k = a
    · subst h
      by_cases hn : n = k <;> simp [mset, mget, hn]
    · by_cases hn : n = a
      · subst hn
        simp [mset, mget, h]
        intro he; exact absurd he.symm h
      · simp only [mset, if_neg h, mget, if_neg hn, ih]
/-- The numbers of increments, as a map. -/
def mpS (xs : List Inc) : List (Int × Bool) := xs.foldl (fun m i => mset m i.1 true) []
theorem mpS_snoc (xs : List Inc) (x : Inc) : mpS (xs ++ [x]) = mset (mpS xs) x.1 true := by
  unfold mpS; rw [List.foldl_append]; rfl
theorem mpS_get (xs : List Inc) (n : Int) : (mget (mpS xs) n).getD false = true ↔ n ∈ xs.map (·.1) := by
  have h : ∀ (ys : List Inc) (m : List (Int × Bool)), (mget (ys.foldl (fun m i => mset m i.1 true) m) n).getD false = true ↔ n ∈ ys.map (·.1) ∨ (mget m n).getD false = true := by
    intro ys
    induction ys with
    | nil => intro m; simp
    | cons y ys ih =>
      intro m
      rw [List.foldl_cons, ih, mget_mset]
      by_cases e : n = y.1
      · simp [e]
      · simp [e]
  have := h xs []
  simpa [mpS, mget] using this

theorem inc_eta' (i : Inc) : (i.1, i.2.1, i.2.2.1, i.2.2.2) = i := rfl
/-- What an increment at a place of belts has to be. -/
def okS (s : Sp) (q : Rows) (k j : Nat) : Prop :=
  (gl ((0, 0, 0, 0, 0) : Inc) (gl [] q k) j).2.1 = (k : Int) ∧ 1 ≤ (gl ((0, 0, 0, 0, 0) : Inc) (gl [] q k) j).2.2.2.2 ∧ (0 < j → (gl ((0, 0, 0, 0, 0) : Inc) (gl [] q k) (j - 1)).1 < (gl ((0, 0, 0, 0, 0) : Inc) (gl [] q k) j).1) ∧
    (gl ((0, 0, 0, 0, 0) : Inc) (gl [] q k) j).1 ∉ ((q.take k).flatten ++ (gl [] q k).take j).map (·.1) ∧ FitS s (gl ((0, 0, 0, 0, 0) : Inc) (gl [] q k) j)
def okAll (s : Sp) (q : Rows) : Prop := ∀ k j, k < q.length → j < (gl [] q k).length → okS s q k j
/-- All frames in use are those of increments. -/
def Cov (s : Sp) (q : Rows) : Prop := ∀ x : Int, 0 ≤ x → x < s.2.2.length → (fr s.2.2 x).1 ≠ -1 → (fr s.2.2 x).1 ∈ q.flatten.map (·.1)
/-- Valid belts. -/
structure BV (s : Sp) (q : Rows) : Prop where
  vs : VS s
  n : 1 ≤ q.length ∧ q.length ≤ 4
  ok : okAll s q
  cov : Cov s q
/-- Frames of increments. -/
def fsum (z : Int) (xs : List Inc) : Int := xs.foldl (fun n i => n + cl z i.2.2.2.2) 0
theorem fsum_from (z : Int) (xs : List Inc) (a : Int) : xs.foldl (fun n i => n + cl z i.2.2.2.2) a = a + fsum z xs := by
  unfold fsum
  induction xs generalizing a with
  | nil => simp
  | cons x xs ih => rw [List.foldl_cons, List.foldl_cons, ih, ih (0 + _)]; omega
theorem fsum_cons (z : Int) (x : Inc) (xs : List Inc) : fsum z (x :: xs) = cl z x.2.2.2.2 + fsum z xs := by
  show List.foldl _ (0 + cl z x.2.2.2.2) xs = _
  rw [fsum_from]; omega
theorem fsum_snoc (z : Int) (xs : List Inc) (x : Inc) : fsum z (xs ++ [x]) = fsum z xs + cl z x.2.2.2.2 := by
  unfold fsum; rw [List.foldl_append]; rfl
theorem fsum_bound {z : Int} (z1 : 8 ≤ z ∧ z ≤ 256) : ∀ {xs : List Inc}, (∀ i ∈ xs, 0 ≤ i.2.2.2.2 ∧ i.2.2.2.2 ≤ 16384) → 0 ≤ fsum z xs ∧ fsum z xs ≤ (xs.length : Int) * 20000
  | [], _ => by simp [fsum]
  | x :: xs, h => by
    have i1 := fsum_bound z1 (xs := xs) fun i hi => h i (List.mem_cons_of_mem _ hi)
    have hx := h x (List.mem_cons_self ..)
    have h1 := cl_nonneg (show 0 < z by omega) hx.1
    have h2 := cl_spec (n := x.2.2.2.2) (show 0 < z by omega)
    have h3 : cl z x.2.2.2.2 * 1 ≤ cl z x.2.2.2.2 * z := Int.mul_le_mul_of_nonneg_left (by omega) h1
    rw [fsum_cons, List.length_cons, Int.natCast_add, Int.add_mul]
    omega
/-- The numbers of fit increments differ, as far as they are seen. -/
theorem pre_nodup {s : Sp} {q : Rows} {k j : Nat} (hk : k < q.length) (hj : j ≤ (gl [] q k).length) (h : ∀ k' j', (k' < k ∨ (k' = k ∧ j' < j)) → j' < (gl [] q k').length → okS s q k' j') : (((q.take k).flatten ++ (gl [] q k).take j).map (·.1)).Nodup := by
  have row : ∀ m, (((q.take m).flatten).map (·.1)).Nodup → ∀ n, n ≤ (gl [] q m).length → (∀ j', j' < n → okS s q m j') → (((q.take m).flatten ++ (gl [] q m).take n).map (·.1)).Nodup := by
    intro m h0 n
    induction n with
    | zero => intro _ _; simpa using h0
    | succ n ih =>
      intro hn ho
      have h1 := ih (by omega) fun j' hj' => ho j' (by omega)
      have h2 := (ho n (by omega)).2.2.2.1
      rw [take_gl (d := ((0, 0, 0, 0, 0) : Inc)) _ n (by omega), ← List.append_assoc, List.map_append, List.nodup_append]
      refine ⟨h1, by simp, fun a ha b hb e => ?_⟩
      simp only [List.map_cons, List.map_nil, List.mem_singleton] at hb
      subst hb; subst e; exact h2 ha
  have rows : ∀ m, m ≤ k → (((q.take m).flatten).map (·.1)).Nodup := by
    intro m
    induction m with
    | zero => intro _; simp
    | succ m ih =>
      intro hm
      have := row m (ih (by omega)) _ (Nat.le_refl _) fun j' hj' => h m j' (.inl (by omega)) hj'
      rw [List.take_length] at this
      rw [take_gl (d := []) q m (by omega)]
      simpa using this
  exact row k (rows k (Nat.le_refl _)) j hj fun j' hj' => h k j' (.inr ⟨rfl, hj'⟩) (by omega)
theorem pre_fit {s : Sp} {q : Rows} {k j : Nat} (hk : k < q.length) (hj : j ≤ (gl [] q k).length) (h : ∀ k' j', (k' < k ∨ (k' = k ∧ j' < j)) → j' < (gl [] q k').length → okS s q k' j') : ∀ i ∈ (q.take k).flatten ++ (gl [] q k).take j, FitS s i ∧ 1 ≤ i.2.2.2.2 := by
  have one : ∀ k' j', okS s q k' j' → FitS s (gl ((0, 0, 0, 0, 0) : Inc) (gl [] q k') j') ∧ 1 ≤ (gl ((0, 0, 0, 0, 0) : Inc) (gl [] q k') j').2.2.2.2 := fun k' j' ho => ⟨ho.2.2.2.2, ho.2.1⟩
  intro i hi
  rcases List.mem_append.1 hi with hi | hi
  · obtain ⟨x, hx, hix⟩ := List.mem_flatten.1 hi
    obtain ⟨m, hm, rfl⟩ := List.getElem_of_mem hx
    obtain ⟨n, hn, rfl⟩ := List.getElem_of_mem hix
    rw [List.length_take] at hm
    have hg : gl [] q m = (q.take k)[m] := by rw [gl_lt (by omega), List.getElem_take]
    have := one m n (h m n (.inl (by omega)) (by rw [hg]; exact hn))
    rw [hg, gl_lt hn] at this
    exact this
  · obtain ⟨n, hn, rfl⟩ := List.getElem_of_mem hi
    rw [List.length_take] at hn
    have := one k n (h k n (.inr ⟨rfl, by omega⟩) (by omega))
    rw [gl_lt (by omega)] at this
    rw [List.getElem_take]
    exact this
theorem okAll.nodup {s : Sp} {q : Rows} (h : okAll s q) : (q.flatten.map (·.1)).Nodup := by
  by_cases hq : q = []
  · subst hq; simp
  have hl := List.length_pos_iff.2 hq
  have := pre_nodup (s := s) (q := q) (k := q.length - 1) (j := (gl [] q (q.length - 1)).length) (by omega) (Nat.le_refl _) fun k' j' hk hj => h k' j' (by rcases hk with h | h <;> omega) hj
  rw [List.take_length] at this
  have e := take_gl (d := []) q (q.length - 1) (by omega)
  rw [show q.length - 1 + 1 = q.length from by omega, List.take_length] at e
  rw [e]; simpa using this
theorem okAll.fit {s : Sp} {q : Rows} (h : okAll s q) : ∀ i ∈ q.flatten, FitS s i ∧ 1 ≤ i.2.2.2.2 := by
  intro i hi
  obtain ⟨x, hx, hix⟩ := List.mem_flatten.1 hi
  obtain ⟨k, hk, rfl⟩ := List.getElem_of_mem hx
  obtain ⟨j, hj, rfl⟩ := List.getElem_of_mem hix
  have hg : gl [] q k = q[k] := gl_lt hk
  have := h k j hk (by rw [hg]; exact hj)
  unfold okS at this
  rw [hg, gl_lt hj] at this
  exact ⟨this.2.2.2.2, this.2.1⟩
/-- The frames of fit increments. -/
theorem own_count {s : Sp} {xs : List Inc} (hf : ∀ i ∈ xs, FitS s i ∧ 1 ≤ i.2.2.2.2) : fsum (sz s.1) xs = ((xs.flatMap fun p => owned s.2.2 p.1).length : Int) := by
  induction xs with
  | nil => simp [fsum]
  | cons p l ih =>
    obtain ⟨hf1, hw⟩ := hf p (List.mem_cons_self ..)
    have i1 := ih fun p hp => hf p (List.mem_cons_of_mem _ hp)
    rcases hf1.2 with ⟨g1, _⟩ | ⟨_, _, _, _, m, _, m2, m3, _⟩
    · omega
    rw [fsum_cons, List.flatMap_cons, List.length_append, Int.natCast_add, i1]
    omega
theorem own_nodup {s : Sp} {xs : List Inc} (hn : (xs.map (·.1)).Nodup) : (xs.flatMap fun p => owned s.2.2 p.1).Nodup := by
  unfold List.Nodup at hn ⊢
  rw [List.pairwise_flatMap]
  rw [List.pairwise_map] at hn
  refine ⟨fun p _ => owned_nodup _ _, hn.imp fun {a b} hab x hx y hy e => ?_⟩
  have e1 := (mem_owned.1 hx).2
  have e2 := (mem_owned.1 hy).2
  rw [e] at e1; exact hab (e1.symm.trans e2)
/-- Increments with frames of their own are not more than frames. -/
theorem count_le {s : Sp} (h : VS s) {xs : List Inc} (hf : ∀ i ∈ xs, FitS s i ∧ 1 ≤ i.2.2.2.2) (hn : (xs.map (·.1)).Nodup) : xs.length ≤ 64 := by
  have h1 : ∀ ys : List Inc, (∀ i ∈ ys, FitS s i ∧ 1 ≤ i.2.2.2.2) → ys.length ≤ (ys.flatMap fun p => owned s.2.2 p.1).length := by
    intro ys
    induction ys with
    | nil => intro _; simp
    | cons p l ih =>
      intro hf
      obtain ⟨hf1, hw⟩ := hf p (List.mem_cons_self ..)
      have i1 := ih fun p hp => hf p (List.mem_cons_of_mem _ hp)
      have hc := cl_pos (sz_pos' s.1) (show 0 < p.2.2.2.2 by omega)
      rcases hf1.2 with ⟨g1, _⟩ | ⟨_, _, _, _, m, _, m2, m3, _⟩
      · omega
      rw [List.flatMap_cons, List.length_append, List.length_cons]
      omega
  have h2 := nodup_sub (m := rangeI s.2.2.length) (own_nodup (s := s) hn) (fun x hx => by
    obtain ⟨p, _, hx⟩ := List.mem_flatMap.1 hx
    exact mem_rangeI.2 (mem_owned.1 hx).1)
  rw [rangeI_length] at h2
  have := h1 xs hf
  have := h.n
  omega
/-- The frames in use, in order. -/
def useds (fs : List Fr) : List Int := (rangeI fs.length).filter fun i => decide ((fr fs i).1 ≠ -1)
theorem mem_useds {fs : List Fr} {i : Int} : i ∈ useds fs ↔ (0 ≤ i ∧ i < fs.length) ∧ (fr fs i).1 ≠ -1 := by
  unfold useds; rw [List.mem_filter, mem_rangeI, decide_eq_true_iff]
theorem useds_len (s : Sp) : ((useds s.2.2).length : Int) = used s := by
  have h : ∀ (p : Int → Bool) (l : List Int), (l.filter p).length + (l.filter fun i => !p i).length = l.length := by
    intro p l
    induction l with
    | nil => rfl
    | cons a l ih => cases hp : p a <;> simp [hp] <;> omega
  have h1 := h (fun i => decide ((fr s.2.2 i).1 = -1)) (rangeI s.2.2.length)
  rw [rangeI_length] at h1
  have e : (fun i => !decide ((fr s.2.2 i).1 = -1)) = fun i => decide ((fr s.2.2 i).1 ≠ -1) := by funext i; simp
  rw [e] at h1
  unfold used frees owned useds
  omega
theorem useds_nodup (fs : List Fr) : (useds fs).Nodup := List.Pairwise.filter _ ((rangeI_pw _).imp fun h => by omega)
theorem cov_iff {s : Sp} {q : Rows} (h : okAll s q) : fsum (sz s.1) q.flatten ≤ used s ∧ (used s = fsum (sz s.1) q.flatten ↔ Cov s q) := by
  have hf := h.fit
  have hn := h.nodup
  have hsub : ∀ x ∈ q.flatten.flatMap fun p => owned s.2.2 p.1, x ∈ useds s.2.2 := by
    intro x hx
    obtain ⟨p, hp, hx⟩ := List.mem_flatMap.1 hx
    have := mem_owned.1 hx
    refine mem_useds.2 ⟨this.1, ?_⟩
    have := (hf p hp).1.1.1
    omega
  have hle := nodup_sub (own_nodup (s := s) hn) hsub
  have h1 := own_count hf
  have h2 := useds_len s
  refine ⟨by omega, fun he => ?_, fun hc => ?_⟩
  · intro x x0 x1 hu
    refine Classical.byContradiction fun hno => ?_
    have hx : x ∉ q.flatten.flatMap fun p => owned s.2.2 p.1 := by
      intro hx
      obtain ⟨p, hp, hx⟩ := List.mem_flatMap.1 hx
      exact hno (List.mem_map.2 ⟨p, hp, (mem_owned.1 hx).2.symm⟩)
    have := nodup_sub (l := x :: q.flatten.flatMap fun p => owned s.2.2 p.1) (m := useds s.2.2) (List.nodup_cons.2 ⟨hx, own_nodup hn⟩) (fun y hy => by
      rcases List.mem_cons.1 hy with rfl | hy
      · exact mem_useds.2 ⟨⟨x0, x1⟩, hu⟩
      · exact hsub y hy)
    simp only [List.length_cons] at this
    omega
  · have := nodup_sub (m := q.flatten.flatMap fun p => owned s.2.2 p.1) (useds_nodup s.2.2) (fun x hx => by
      obtain ⟨⟨x0, x1⟩, hu⟩ := mem_useds.1 hx
      obtain ⟨p, hp, e⟩ := List.mem_map.1 (hc x x0 x1 hu)
      exact List.mem_flatMap.2 ⟨p, hp, mem_owned.2 ⟨⟨x0, x1⟩, e.symm⟩⟩)
    omega
theorem valid_of {X : Option Bool} {P A C : Prop} {r : Bool} (hr : r = true ↔ C) (h : (A → X = some r) ∧ (¬ A → X = some false)) (hp : P ↔ A ∧ C) : ∃ b, X = some b ∧ (b = true ↔ P) := by
  by_cases ha : A
  · exact ⟨r, h.1 ha, hr.trans ⟨fun hc => hp.2 ⟨ha, hc⟩, fun hh => (hp.1 hh).2⟩⟩
  · exact ⟨false, h.2 ha, no_iff fun hh => ha (hp.1 hh).1⟩
/-- Valid belts: the program's answer. -/
theorem bBelts_ok {s : Sp} (hI : StI s) {q : Rows} (hx : ∀ x ∈ q, x.length ≤ 9223372036854775807) : ∃ b, Fbelt_Valid s q = some b ∧ (b = true ↔ BV s q) := by
  unfold Fbelt_Valid
  by_cases h : VS s
  rotate_left
  · rw [(bad_valid h hI).1]
    exact ⟨_, rfl, no_iff fun hh => h hh.vs⟩
  rw [VS.fvalid h, Option.bind_some, if_neg (by simp)]
  by_cases c1 : (q.length : Int) < 1
  · rw [if_pos c1]; exact ⟨_, rfl, no_iff fun hh => by have := hh.n; omega⟩
  rw [if_neg c1]
  by_cases c2 : (q.length : Int) > 4
  · rw [if_pos c2]; exact ⟨_, rfl, no_iff fun hh => by have := hh.n; omega⟩
  rw [if_neg c2]
  have hn := h.n
  obtain ⟨r, hr⟩ : ∃ r : Bool, r = true ↔ Cov s q := ⟨@decide (Cov s q) (Classical.propDecidable _), by simp⟩
  refine valid_of (A := okAll s q) hr ?_ ⟨fun hh => ⟨hh.ok, hh.cov⟩, fun hh => ⟨h, by omega, hh.1, hh.2⟩⟩
  apply loopV (q := q) (d := ((0, 0, 0, 0, 0) : Inc)) (ok := okS s q) (Q := fun _ => True) (fun _ _ _ _ _ => trivial) (so := fun k seen => ((k : Int), mpS seen)) (si := fun k j seen => ((j : Int), mpS seen)) rfl
  · intro k seen hk
    simp only
    rw [if_pos (by omega), if_pos (by omega)]
    simp only [Int.toNat_natCast]
    rfl
  · intro k j seen0 seen hk hj hs _ hp hok
    have hl := hx (gl [] q k) (gl_mem hk)
    obtain ⟨o1, o2, o3, o4, o5⟩ := hok
    have hs4 : ¬ (mget (mpS seen) (gl ((0, 0, 0, 0, 0) : Inc) (gl [] q k) j).1).getD false = true := by rw [mpS_get, hs]; exact o4
    obtain ⟨b, v1, v2⟩ := bValid_ok hI (gl ((0, 0, 0, 0, 0) : Inc) (gl [] q k) j)
    have hb : b = true := v2.2 ⟨h, o5⟩
    subst hb
    simp only [Int.toNat_natCast]
    rw [if_pos (by omega), if_pos (by omega), if_neg (not_not_intro o1), if_neg (by omega)]
    by_cases hj0 : (j : Int) > 0
    · rw [if_pos hj0, w64_id (e := (j : Int) - 1) (by omega) (by omega), if_pos (by omega), show ((j : Int) - 1).toNat = j - 1 from by omega, if_neg (by have := o3 (by omega); omega), if_neg hs4, inc_eta', v1, Option.bind_some, if_neg (by simp), w64_id (by omega) (by omega), mpS_snoc]
      rfl
    · rw [if_neg hj0, if_neg hs4, inc_eta', v1, Option.bind_some, if_neg (by simp), w64_id (by omega) (by omega), mpS_snoc]
      rfl
  · intro k j seen0 seen hk hj hs _ hp hok
    have hl := hx (gl [] q k) (gl_mem hk)
    have hg := mpS_get seen (gl ((0, 0, 0, 0, 0) : Inc) (gl [] q k) j).1
    obtain ⟨b, v1, v2⟩ := bValid_ok hI (gl ((0, 0, 0, 0, 0) : Inc) (gl [] q k) j)
    simp only [Int.toNat_natCast]
    rw [if_pos (by omega), if_pos (by omega)]
    by_cases o1 : (gl ((0, 0, 0, 0, 0) : Inc) (gl [] q k) j).2.1 = (k : Int)
    rotate_left
    · rw [if_pos o1]
    rw [if_neg (not_not_intro o1)]
    by_cases o2 : (gl ((0, 0, 0, 0, 0) : Inc) (gl [] q k) j).2.2.2.2 < 1
    · rw [if_pos o2]
    rw [if_neg o2]
    have rest : (0 < j → (gl ((0, 0, 0, 0, 0) : Inc) (gl [] q k) (j - 1)).1 < (gl ((0, 0, 0, 0, 0) : Inc) (gl [] q k) j).1) → (if (mget (mpS seen) (gl ((0, 0, 0, 0, 0) : Inc) (gl [] q k) j).1).getD false = true then
        some (Sum.inr (Sum.inr false)) else Option.bind (Fbump_Valid s (gl ((0, 0, 0, 0, 0) : Inc) (gl [] q k) j)) (fun r2 => if (!r2) = true then some (Sum.inr (Sum.inr false)) else some (Sum.inl (w64 ((j : Int) + 1), mset (mpS seen) (gl ((0, 0, 0, 0, 0) : Inc) (gl [] q k) j).1 true)))) = (some (Sum.inr (Sum.inr false)) : Option ((Int × List (Int × Bool)) ⊕ ((Int × List (Int × Bool)) ⊕ Bool))) := by
      intro o3
      by_cases o4 : (mget (mpS seen) (gl ((0, 0, 0, 0, 0) : Inc) (gl [] q k) j).1).getD false = true
      · rw [if_pos o4]
      rw [if_neg o4, v1, Option.bind_some]
      have hb : b = false := by
        rw [← Bool.not_eq_true, v2]
        exact fun hh => hok ⟨o1, by omega, o3, by rw [← hs]; exact fun hx => o4 (hg.2 hx), hh.2⟩
      rw [hb, if_pos (by simp)]
    by_cases hj0 : (j : Int) > 0
    · rw [if_pos hj0, w64_id (e := (j : Int) - 1) (by omega) (by omega), if_pos (by omega), show ((j : Int) - 1).toNat = j - 1 from by omega]
      by_cases o3 : (gl ((0, 0, 0, 0, 0) : Inc) (gl [] q k) (j - 1)).1 ≥ (gl ((0, 0, 0, 0, 0) : Inc) (gl [] q k) j).1
      · rw [if_pos o3]
      · rw [if_neg o3]
        exact rest fun _ => by omega
    · rw [if_neg hj0]
      exact rest fun _ => by omega
  · intro k seen0 seen hk
    simp only [Int.toNat_natCast]
    rw [if_neg (by omega), w64_id (by omega) (by omega)]
    rfl
  · intro hall _
    simp only
    rw [if_neg (by omega)]
    have fin := loopO_up (β := Bool) (fun k (st : Int) => k ≤ s.2.2.length ∧ st = (k : Int) ∧ ∀ x : Int, 0 ≤ x → x < k → (fr s.2.2 x).1 ≠ -1 → (fr s.2.2 x).1 ∈ q.flatten.map (·.1)) (fun b => b = r) s.2.2.length (s := 0) (f := fun s3 =>
      if s3 < (s.2.2.length : Int) then
      if 0 ≤ s3 ∧ s3 < (s.2.2.length : Int) then
      if ¬ (gl ((0, 0, 0) : Fr) s.2.2 s3.toNat).1 = -1 then
      if (!(mget (mpS q.flatten) (gl ((0, 0, 0) : Fr) s.2.2 s3.toNat).1).getD false) = true then
      some (Sum.inr false)
      else some (Sum.inl (w64 (s3 + 1)))
      else some (Sum.inl (w64 (s3 + 1)))
      else none
      else some (Sum.inr true)) ?_ ?_ ⟨by omega, rfl, fun x _ hx => by omega⟩
    · obtain ⟨b, e, rfl⟩ := fin
      rw [e]; rfl
    · rintro k st hk ⟨_, rfl, hc⟩
      have hfr : gl ((0, 0, 0) : Fr) s.2.2 (k : Int).toNat = fr s.2.2 k := rfl
      rw [hfr]
      have hg := mpS_get q.flatten (fr s.2.2 k).1
      rw [if_pos (by omega), if_pos (by omega)]
      by_cases hu : (fr s.2.2 k).1 = -1
      · rw [if_neg (not_not_intro hu), w64_id (by omega) (by omega)]
        refine .inl ⟨_, rfl, by omega, by omega, fun x x0 x1 hx => ?_⟩
        by_cases e : x = k
        · subst e; exact absurd hu hx
        · exact hc x x0 (by omega) hx
      · rw [if_pos hu]
        by_cases hm : (mget (mpS q.flatten) (fr s.2.2 k).1).getD false = true
        · rw [if_neg (by simp [hm]), w64_id (by omega) (by omega)]
          refine .inl ⟨_, rfl, by omega, by omega, fun x x0 x1 hx => ?_⟩
          by_cases e : x = k
          · subst e; exact hg.1 hm
          · exact hc x x0 (by omega) hx
        · rw [if_pos (by simpa using hm)]
          refine .inr ⟨_, rfl, ?_⟩
          symm
          rw [← Bool.not_eq_true, hr]
          exact fun hc => hm (hg.2 (hc k (by omega) (by omega) hu))
    · rintro st ⟨_, rfl, hc⟩
      rw [if_neg (by omega)]
      exact ⟨_, rfl, (hr.2 fun x x0 x1 hu => hc x x0 x1 hu).symm⟩
/-- A list of numbers is searched. -/
theorem seen_loop {β : Type} {ys : List Int} {v : Int} {bad r : β} {f : Int → Option (Int ⊕ β)} (hs : ∀ k : Nat, k < ys.length → f k = if gl 0 ys k = v then some (.inr bad) else some (.inl ((k : Int) + 1))) (he : v ∉ ys → f ys.length = some (.inr r)) :
    (v ∈ ys → loopO f 0 = some bad) ∧ (v ∉ ys → loopO f 0 = some r) := by
  have key := loopO_up (f := f) (fun k (st : Int) => k ≤ ys.length ∧ st = (k : Int) ∧ ∀ j, j < k → gl 0 ys j ≠ v) (fun b => (v ∈ ys ∧ b = bad) ∨ (v ∉ ys ∧ b = r)) ys.length ?_ ?_ (s := 0) ⟨by omega, rfl, fun _ h => by omega⟩
  · obtain ⟨b, e, h⟩ := key
    rw [e]
    exact ⟨fun hm => by rcases h with ⟨_, rfl⟩ | ⟨h, _⟩; exact rfl; exact absurd hm h, fun hm => by rcases h with ⟨h, _⟩ | ⟨_, rfl⟩; exact absurd h hm; exact rfl⟩
  · rintro k st hk ⟨_, rfl, hn⟩
    rw [hs k hk]
    by_cases e : gl 0 ys k = v
    · rw [if_pos e]; exact .inr ⟨_, rfl, .inl ⟨by rw [← e]; exact gl_mem hk, rfl⟩⟩
    · rw [if_neg e]
      refine .inl ⟨_, rfl, by omega, by omega, fun j hj => ?_⟩
      by_cases ej : j = k
      · subst ej; exact e
      · exact hn j (by omega)
  · rintro st ⟨_, rfl, hn⟩
    have hm : v ∉ ys := by
      intro hm
      obtain ⟨j, hj, rfl⟩ := List.getElem_of_mem hm
      exact hn j hj (gl_lt hj)
    rw [he hm]
    exact ⟨_, rfl, .inr ⟨hm, rfl⟩⟩
theorem useds_succ (fs : List Fr) (k : Nat) : (((rangeI (k + 1)).filter fun i => decide ((fr fs i).1 ≠ -1)).length : Int) = (((rangeI k).filter fun i => decide ((fr fs i).1 ≠ -1)).length : Int) + (if (fr fs k).1 = -1 then 0 else 1) := by
  rw [rangeI_succ, List.filter_append, List.length_append]
  by_cases h : (fr fs k).1 = -1 <;> simp [h]
/-- Valid belts: the reference's answer. -/
theorem rSound_ok {s : Sp} (h : VS s) {q : Rows} (hx : ∀ x ∈ q, x.length ≤ 9223372036854775807) : ∃ b, Fbeltwayref11_Sound s q = some b ∧ (b = true ↔ BV s q) := by
  unfold Fbeltwayref11_Sound
  by_cases c1 : (q.length : Int) < 1
  · rw [if_pos c1]; exact ⟨_, rfl, no_iff fun hh => by have := hh.n; omega⟩
  rw [if_neg c1]
  by_cases c2 : (q.length : Int) > 4
  · rw [if_pos c2]; exact ⟨_, rfl, no_iff fun hh => by have := hh.n; omega⟩
  rw [if_neg c2]
  have hn := h.n
  have hwl := VS.wlen h
  have z := sz_le h.sh
  obtain ⟨r, hr⟩ : ∃ r : Bool, r = true ↔ Cov s q := ⟨@decide (Cov s q) (Classical.propDecidable _), by simp⟩
  refine valid_of (A := okAll s q) hr ?_ ⟨fun hh => ⟨hh.ok, hh.cov⟩, fun hh => ⟨h, by omega, hh.1, hh.2⟩⟩
  have hQ0 : ∀ k j, k < q.length → j < (gl [] q k).length → okS s q k j → 0 ≤ (gl ((0, 0, 0, 0, 0) : Inc) (gl [] q k) j).2.2.2.2 ∧ (gl ((0, 0, 0, 0, 0) : Inc) (gl [] q k) j).2.2.2.2 ≤ 16384 := fun k j hk hj ho => by
    have := ho.2.2.2.2.1; omega
  apply loopV (q := q) (d := ((0, 0, 0, 0, 0) : Inc)) (ok := okS s q) (Q := fun i => 0 ≤ i.2.2.2.2 ∧ i.2.2.2.2 ≤ 16384) hQ0 (so := fun k seen => (fsum (sz s.1) seen, seen.map (·.1), (k : Int))) (si := fun k j seen => (fsum (sz s.1) seen, seen.map (·.1), (j : Int))) rfl
  · intro k seen hk
    simp only
    rw [if_pos (by omega), if_pos (by omega)]
    simp only [Int.toNat_natCast]
    rfl
  · intro k j seen0 seen hk hj hs hQ hp hok
    have hl := hx (gl [] q k) (gl_mem hk)
    have hsl : seen.length ≤ 64 := by
      rw [hs]
      exact count_le h (pre_fit hk (by omega) hp) (pre_nodup hk (by omega) hp)
    obtain ⟨o1, o2, o3, o4, o5⟩ := hok
    rw [← hs] at o4
    obtain ⟨b, v1, v2⟩ := Fits_ok h (gl ((0, 0, 0, 0, 0) : Inc) (gl [] q k) j)
    have hb : b = true := v2.2 o5
    subst hb
    have hfs := fsum_bound z hQ
    have hc0 := cl_nonneg (show 0 < sz s.1 by omega) o5.1.2.2.2.2.1
    have hc1 := cl_spec (n := (gl ((0, 0, 0, 0, 0) : Inc) (gl [] q k) j).2.2.2.2) (show 0 < sz s.1 by omega)
    have hc2 : cl (sz s.1) (gl ((0, 0, 0, 0, 0) : Inc) (gl [] q k) j).2.2.2.2 * 1 ≤ cl (sz s.1) (gl ((0, 0, 0, 0, 0) : Inc) (gl [] q k) j).2.2.2.2 * sz s.1 := Int.mul_le_mul_of_nonneg_left (by omega) hc0
    have hwb := o5.1.2.2.2.2.2
    have hfr := Frames_ok h (i := gl ((0, 0, 0, 0, 0) : Inc) (gl [] q k) j) (by omega) (by omega)
    simp only [Int.toNat_natCast]
    rw [if_pos (by omega), if_pos (by omega), if_neg (not_not_intro o1), if_neg (by omega), inc_eta', v1, Option.bind_some, if_neg (by simp)]
    have body : ∀ {f : Int → Option (Int ⊕ ((Int × List Int × Int) ⊕ ((Int × List Int × Int) ⊕ Bool)))}, (∀ m : Nat, m < (seen.map (·.1)).length → f m = if gl 0 (seen.map (·.1)) m = (gl ((0, 0, 0, 0, 0) : Inc) (gl [] q k) j).1 then some (.inr (.inr (.inr false))) else some (.inl ((m : Int) + 1))) →
        f (seen.map (·.1)).length = Option.map Sum.inr (if ((seen.map (·.1)).length + ([(gl ((0, 0, 0, 0, 0) : Inc) (gl [] q k) j).1] : List Int).length) * 8 ≤ 140737488355328 then Option.bind (Fbeltwayref09_Frames s (gl ((0, 0, 0, 0, 0) : Inc) (gl [] q k) j)) (fun r2 => some (Sum.inl (w64 (fsum (sz s.1) seen + r2), seen.map (·.1) ++ [(gl ((0, 0, 0, 0, 0) : Inc) (gl [] q k) j).1], w64 ((j : Int) + 1)))) else none) →
        loopO f 0 = some (Sum.inl (fsum (sz s.1) (seen ++ [gl ((0, 0, 0, 0, 0) : Inc) (gl [] q k) j]), (seen ++ [gl ((0, 0, 0, 0, 0) : Inc) (gl [] q k) j]).map (·.1), ((j + 1 : Nat) : Int))) := by
      intro f hf he
      refine (seen_loop (v := (gl ((0, 0, 0, 0, 0) : Inc) (gl [] q k) j).1) hf (fun _ => ?_)).2 o4
      rw [he, if_pos (by simp; omega), hfr, Option.bind_some, w64_id (e := (j : Int) + 1) (by omega) (by omega), w64_id (by omega) (by omega), fsum_snoc, List.map_append]
      rfl
    by_cases hj0 : (j : Int) > 0
    · rw [if_pos hj0, w64_id (e := (j : Int) - 1) (by omega) (by omega), if_pos (by omega), show ((j : Int) - 1).toNat = j - 1 from by omega, if_neg (by have := o3 (by omega); omega)]
      refine body (fun m hm => ?_) ?_
      · simp only [Int.toNat_natCast]
        rw [if_pos (by omega), if_pos (by omega), w64_id (by rw [List.length_map] at hm; omega) (by rw [List.length_map] at hm; omega)]
      · rw [if_neg (by omega)]
    · rw [if_neg hj0]
      refine body (fun m hm => ?_) ?_
      · simp only [Int.toNat_natCast]
        rw [if_pos (by omega), if_pos (by omega), w64_id (by rw [List.length_map] at hm; omega) (by rw [List.length_map] at hm; omega)]
      · rw [if_neg (by omega)]
  · intro k j seen0 seen hk hj hs hQ hp hok
    have hl := hx (gl [] q k) (gl_mem hk)
    have hsl : seen.length ≤ 64 := by
      rw [hs]
      exact count_le h (pre_fit hk (by omega) hp) (pre_nodup hk (by omega) hp)
    obtain ⟨b, v1, v2⟩ := Fits_ok h (gl ((0, 0, 0, 0, 0) : Inc) (gl [] q k) j)
    simp only [Int.toNat_natCast]
    rw [if_pos (by omega), if_pos (by omega)]
    by_cases o1 : (gl ((0, 0, 0, 0, 0) : Inc) (gl [] q k) j).2.1 = (k : Int)
    rotate_left
    · rw [if_pos o1]
    rw [if_neg (not_not_intro o1)]
    by_cases o2 : (gl ((0, 0, 0, 0, 0) : Inc) (gl [] q k) j).2.2.2.2 < 1
    · rw [if_pos o2]
    rw [if_neg o2, inc_eta', v1, Option.bind_some]
    by_cases o5 : FitS s (gl ((0, 0, 0, 0, 0) : Inc) (gl [] q k) j)
    rotate_left
    · rw [if_pos (by
        have : b = false := by rw [← Bool.not_eq_true, v2]; exact o5
        simp [this])]
    rw [if_neg (by simp [v2.2 o5])]
    have body : ∀ {f : Int → Option (Int ⊕ ((Int × List Int × Int) ⊕ ((Int × List Int × Int) ⊕ Bool)))}, (0 < j → (gl ((0, 0, 0, 0, 0) : Inc) (gl [] q k) (j - 1)).1 < (gl ((0, 0, 0, 0, 0) : Inc) (gl [] q k) j).1) → (∀ m : Nat, m < (seen.map (·.1)).length → f m = if gl 0 (seen.map (·.1)) m = (gl ((0, 0, 0, 0, 0) : Inc) (gl [] q k) j).1 then some (.inr (.inr (.inr false))) else some (.inl ((m : Int) + 1))) →
        loopO f 0 = some (Sum.inr (Sum.inr false)) := by
      intro f o3 hf
      have o4 : (gl ((0, 0, 0, 0, 0) : Inc) (gl [] q k) j).1 ∈ seen.map (·.1) := Classical.byContradiction fun o4 => hok ⟨o1, by omega, o3, by rw [← hs]; exact o4, o5⟩
      exact (seen_loop (r := Sum.inr (Sum.inr false)) hf (fun hn => absurd o4 hn)).1 o4
    by_cases hj0 : (j : Int) > 0
    · rw [if_pos hj0, w64_id (e := (j : Int) - 1) (by omega) (by omega), if_pos (by omega), show ((j : Int) - 1).toNat = j - 1 from by omega]
      by_cases o3 : (gl ((0, 0, 0, 0, 0) : Inc) (gl [] q k) (j - 1)).1 ≥ (gl ((0, 0, 0, 0, 0) : Inc) (gl [] q k) j).1
      · rw [if_pos o3]
      · rw [if_neg o3]
        refine body (fun _ => by omega) (fun m hm => ?_)
        simp only [Int.toNat_natCast]
        rw [if_pos (by omega), if_pos (by omega), w64_id (by rw [List.length_map] at hm; omega) (by rw [List.length_map] at hm; omega)]
    · rw [if_neg hj0]
      refine body (fun _ => by omega) (fun m hm => ?_)
      simp only [Int.toNat_natCast]
      rw [if_pos (by omega), if_pos (by omega), w64_id (by rw [List.length_map] at hm; omega) (by rw [List.length_map] at hm; omega)]
  · intro k seen0 seen hk
    have hl := hx (gl [] q k) (gl_mem hk)
    simp only [Int.toNat_natCast]
    rw [if_neg (by omega), w64_id (by omega) (by omega)]
    rfl
  · intro hall _
    simp only
    rw [if_neg (by omega)]
    have fin := loopO_up (β := Bool) (fun k (st : Int × Int) => k ≤ s.2.2.length ∧ st = ((((rangeI k).filter fun i => decide ((fr s.2.2 i).1 ≠ -1)).length : Int), (k : Int))) (fun b => b = r) s.2.2.length (s := (0, 0)) (f := fun s5 =>
      if s5.2 < (s.2.2.length : Int) then
      if 0 ≤ s5.2 ∧ s5.2 < (s.2.2.length : Int) then
      if ¬ (gl ((0, 0, 0) : Fr) s.2.2 s5.2.toNat).1 = -1 then
      some (Sum.inl (w64 (s5.1 + 1), w64 (s5.2 + 1)))
      else some (Sum.inl (s5.1, w64 (s5.2 + 1)))
      else none
      else some (Sum.inr (decide (s5.1 = fsum (sz s.1) q.flatten)))) ?_ ?_ ⟨by omega, rfl⟩
    · obtain ⟨b, e, rfl⟩ := fin
      rw [e]; rfl
    · rintro k st hk ⟨_, rfl⟩
      have hfr : gl ((0, 0, 0) : Fr) s.2.2 (k : Int).toNat = fr s.2.2 k := rfl
      have hs := useds_succ s.2.2 k
      have hle : ((rangeI k).filter fun i => decide ((fr s.2.2 i).1 ≠ -1)).length ≤ (rangeI k).length := List.length_filter_le _ _
      rw [rangeI_length] at hle
      simp only [hfr]
      rw [if_pos (by omega), if_pos (by omega), w64_id (e := (k : Int) + 1) (by omega) (by omega)]
      by_cases hu : (fr s.2.2 k).1 = -1
      · rw [if_neg (not_not_intro hu)]
        rw [if_pos hu] at hs
        exact .inl ⟨_, rfl, by omega, by rw [hs, Int.add_zero]; rfl⟩
      · rw [if_pos hu, w64_id (by omega) (by omega)]
        rw [if_neg hu] at hs
        exact .inl ⟨_, rfl, by omega, by rw [hs]; rfl⟩
    · rintro st ⟨_, rfl⟩
      simp only
      rw [if_neg (by omega)]
      refine ⟨_, rfl, ?_⟩
      have hu := useds_len s
      unfold useds at hu
      rw [hu, Bool.eq_iff_iff, decide_eq_true_iff, hr]
      exact (cov_iff hall).2
theorem rBelts_ok {s : Sp} {q : Rows} (hx : ∀ x ∈ q, x.length ≤ 9223372036854775807) : ∃ b, Fbeltwayref11_Valid s q = some b ∧ (b = true ↔ BV s q) := by
  unfold Fbeltwayref11_Valid
  obtain ⟨b, e, hb⟩ := rValid_ok s
  rw [e, Option.bind_some]
  by_cases h : VS s
  · rw [if_pos (hb.2 h)]
    obtain ⟨c, e2, hc⟩ := rSound_ok h hx
    rw [e2]; exact ⟨_, rfl, hc⟩
  · rw [if_neg fun hh => h (hb.1 hh)]
    exact ⟨_, rfl, no_iff fun hh => h hh.vs⟩
end Go.Proofs.Ytnfleglhbgknmaa
