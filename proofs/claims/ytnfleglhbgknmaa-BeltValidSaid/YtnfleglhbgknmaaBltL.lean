/-
  The laws of package belt.
-/
import Derived.Test.YtnfleglhbgknmaaRows
import Derived.Test.YtnfleglhbgknmaaBltC
set_option linter.unusedVariables false
namespace Go.Proofs.Ytnfleglhbgknmaa
open Go Go.V3

theorem awake_ok : Fbeltwaylaw11_awake = some true := by
  unfold Fbeltwaylaw11_awake
  rw [bAdd_ok (q := [[], []]) (j := (3, 1, 0, 0, 2)) (b := 1) (by decide) (by decide) rfl (by decide) (by intro i hi; cases hi), Option.bind_some]
  have hy := bYoungest_ok (q := [[], [((3, 1, 0, 0, 2) : Inc)]]) (by decide) (b := 1) (by decide)
  have hw := bWords_ok (q := [[], [((3, 1, 0, 0, 2) : Inc)]]) (by decide) (by decide) (by decide) (by decide)
  show Option.bind (Fbelt_Youngest [[], [((3, 1, 0, 0, 2) : Inc)]] ((1 : Nat) : Int)) _ = _
  rw [hy, Option.bind_some, bOpen_ok (by simp) _ (by decide) (by decide), Option.bind_some, if_pos (by decide), bOpen_ok (by simp) _ (by decide) (by decide), Option.bind_some, if_pos (by decide), if_pos (show (0 : Int) = 0 from rfl), if_pos (by decide), if_pos (by decide)]
  show Option.bind (Fbelt_Words [[], [((3, 1, 0, 0, 2) : Inc)]]) _ = _
  rw [hw]
  decide

/-- Words and frames of increments. -/
theorem words_frames {z : Int} (hz : 0 < z) : ∀ {xs : List Inc}, (∀ i ∈ xs, 0 ≤ i.2.2.2.2) → wsum xs ≤ fsum z xs * z ∧ fsum z xs * z + xs.length ≤ wsum xs + z * xs.length ∧ ∀ i ∈ xs, cl z i.2.2.2.2 ≤ fsum z xs
  | [], _ => by simp [wsum, fsum]
  | x :: xs, h => by
    obtain ⟨i1, i2, i3⟩ := words_frames hz (xs := xs) fun i hi => h i (List.mem_cons_of_mem _ hi)
    have hx := h x (List.mem_cons_self ..)
    have hc := cl_spec (n := x.2.2.2.2) hz
    have h0 := cl_nonneg hz hx
    have hf0 : 0 ≤ fsum z xs := by
      clear i1 i2 i3 hc h0
      induction xs with
      | nil => exact Int.le_refl 0
      | cons y ys ih =>
        have := cl_nonneg hz (h y (by simp))
        have := ih fun i hi => h i (by rcases List.mem_cons.1 hi with rfl | hi <;> simp [*])
        rw [fsum_cons]; omega
    rw [wsum_cons, fsum_cons, List.length_cons, Int.add_mul, Int.natCast_add, Int.mul_add]
    refine ⟨by omega, by omega, fun i hi => ?_⟩
    rcases List.mem_cons.1 hi with rfl | hi
    · omega
    · have := i3 i hi; omega

theorem law_BeltFrames (y0 : List Int) (w0 : Wf (.slice (.int .i64)) y0) : Fbeltwaylaw11_BeltFrames y0 = some true := by
  unfold Fbeltwaylaw11_BeltFrames
  obtain ⟨d, e1, hd⟩ := New0_ok y0 w0.1
  obtain ⟨s, l, d', e2, _, hm⟩ := Space_ok hd
  have hcnt := hm.cnt
  have hb : ∀ i ∈ l, 0 ≤ i.2.1 ∧ i.2.1 < 3 := fun i hi => ⟨(hm.fits i hi).1.1.2.2.1, (hm.fits i hi).2.2.1⟩
  have e3 := Queue_ok (l := l) (n := 3) (by omega) (by omega) fun i hi => (hb i hi).1
  have hbv := made_bv hm
  have hfl := queue_flat l hb
  generalize (List.range 3).map (onB l) = q at e3 hbv hfl
  rw [e1, Option.bind_some, e2, Option.bind_some]
  simp only
  rw [show (3 : Int) = ((3 : Nat) : Int) from rfl, e3, Option.bind_some, if_pos trivial]
  have hv := hm.vs
  have z := sz_le hv.sh
  have hn := hv.n
  have hlen : ((q.flatten.length : Nat) : Int) = l.length := by
    rw [hfl]
    exact queue_sum (α := Unit) (fun _ => 1) (fun xs => (xs.length : Int)) rfl (fun x xs => by simp only [List.length_cons, Int.natCast_add]; omega) (fun xs ys => by simp only [List.length_append, Int.natCast_add]) l hb
  have hfit := hbv.ok.fit
  have hw0 : ∀ i ∈ q.flatten, 0 ≤ i.2.2.2.2 := fun i hi => by have := (hfit i hi).2; omega
  obtain ⟨wf1, wf2, wf3⟩ := words_frames (z := sz s.1) (by omega) hw0
  have hu : used s = fsum (sz s.1) q.flatten := (cov_iff hbv.ok).2.2 hbv.cov
  rw [← hu] at wf1 wf2 wf3
  have hu0 := used_ge s
  have hu1 : used s ≤ 64 := by unfold used; omega
  have hmul := mul_sz_le hv.sh hu0 hu1
  have hx : ∀ x ∈ q, x.length ≤ 1000000 := by
    intro x hx
    have h1 : x.length ≤ q.flatten.length := by
      obtain ⟨a, b, rfl⟩ := List.append_of_mem hx
      simp
      omega
    omega
  have hq3 : q.length ≤ 4 := hbv.n.2
  obtain ⟨b, v1, v2⟩ := bBelts_ok hv.stI (q := q) (fun x hx' => by have := hx x hx'; omega)
  obtain rfl : b = true := v2.2 hbv
  have hbig : ∀ i ∈ q.flatten, 0 ≤ i.2.2.2.2 ∧ i.2.2.2.2 ≤ 1000000 := fun i hi => by
    have := (hfit i hi).1.1
    have := VS.wlen hv
    exact ⟨by omega, by omega⟩
  rw [rUsed_ok hn.2, Option.bind_some, bWords_ok (by omega) hx hw0 (by omega), Option.bind_some, v1, Option.bind_some, if_pos rfl, pow_sz hv.sh, Int.one_mul, w64_id (e := sz s.1) (by omega) (by omega)]
  rw [show ((s.2.2.length : Int) - ((frees s.2.2).length : Int)) = used s from rfl, w64_id (e := used s * sz s.1) (by omega) (by omega), if_pos wf1]
  have hz4 : sz s.1 * (l.length : Int) ≤ 256 * 4 := by
    have h1 : sz s.1 * (l.length : Int) ≤ 256 * (l.length : Int) := Int.mul_le_mul_of_nonneg_right (by omega) (by omega)
    omega
  have hz0 : 0 ≤ sz s.1 * (l.length : Int) := Int.mul_nonneg (by omega) (by omega)
  have hsub : (used s - (l.length : Int)) * sz s.1 = used s * sz s.1 - sz s.1 * (l.length : Int) := by rw [Int.sub_mul, Int.mul_comm (l.length : Int)]
  rw [w64_id (e := used s - (l.length : Int)) (by omega) (by omega), hsub, w64_id (e := used s * sz s.1 - sz s.1 * (l.length : Int)) (by omega) (by omega), w64_id (by omega) (by omega), if_pos (by rw [hlen] at wf2; omega), bLargest_ok hv (by omega) hx hbig, Option.bind_some, if_pos ((lrg_le _).2 ⟨hu0, wf3⟩), awake_ok]
  rfl

theorem Slight_ok {q : Rows} (hq : q.length ≤ 9223372036854775807) : ∃ b, Fbeltwaymake_Slight q = some b ∧ (b = true → q.length ≤ 8) := by
  unfold Fbeltwaymake_Slight
  refine loopO_up (fun k (st : Int × Int) => k ≤ q.length ∧ st.2 = (k : Int)) (fun b => b = true → q.length ≤ 8) q.length ?_ ?_ (s := (0, 0)) ⟨by omega, rfl⟩
  · rintro k ⟨a, st⟩ hk ⟨_, h⟩
    simp only at h ⊢
    subst h
    rw [if_pos (by omega), if_pos (by omega), w64_id (e := (k : Int) + 1) (by omega) (by omega)]
    exact .inl ⟨_, rfl, by omega, rfl⟩
  · rintro ⟨a, st⟩ ⟨_, h⟩
    simp only at h ⊢
    subst h
    rw [if_neg (by omega)]
    by_cases h8 : (q.length : Int) ≤ 8
    · rw [if_pos h8]; exact ⟨_, rfl, fun _ => by omega⟩
    · rw [if_neg h8]; exact ⟨_, rfl, fun h => by cases h⟩
/-- The program and the reference hold the same belts for valid. -/
theorem valid_eq {s : Sp} (hI : StI s) {q : Rows} (hx : ∀ x ∈ q, x.length ≤ 9223372036854775807) : ∃ b, Fbelt_Valid s q = some b ∧ Fbeltwayref11_Valid s q = some b := by
  obtain ⟨b, e1, h1⟩ := bBelts_ok hI hx
  obtain ⟨c, e2, h2⟩ := rBelts_ok (s := s) hx
  have : b = c := by rw [Bool.eq_iff_iff, h1, h2]
  subst this
  exact ⟨b, e1, e2⟩
theorem list_loop {α β : Type} {d : α} {xs : List α} {f : Int → Option (Int ⊕ β)} {r : β} (hs : ∀ (k : Nat) x, k < xs.length → x ∈ xs → gl d xs k = x → f (k : Int) = some (.inl ((k : Int) + 1))) (he : f (xs.length : Int) = some (.inr r)) : loopO f 0 = some r :=
  loopO_run xs.length (fun k hk => hs k _ hk (gl_mem hk) rfl) he
theorem law_BeltValid (y0 : Sp) (w0 : Wf spT y0) (y1 : Rows) (w1 : Wf (.slice (.slice (.pair (.int .i64) (.pair (.int .i64) (.pair (.int .i64) (.pair (.int .i64) (.int .i64))))))) y1) (y2 : List Int) (w2 : Wf (.slice (.int .i64)) y2) (y3 : Int) (w3 : I64 y3) (y4 : Int) (w4 : I64 y4) (y5 : Int) (w5 : I64 y5) : Fbeltwaylaw11_BeltValid y0 y1 y2 y3 y4 y5 = some true := by
  unfold Fbeltwaylaw11_BeltValid
  rw [Small_ok, Option.bind_some]
  by_cases hsm : y0.2.1.length ≤ 3000 ∧ y0.2.2.length ≤ 80
  rotate_left
  · rw [if_pos (by simp [hsm]), awake_ok]; rfl
  rw [if_neg (by simp [hsm])]
  obtain ⟨b, e0, hb⟩ := Slight_ok (q := y1) w1.1
  rw [e0, Option.bind_some]
  by_cases hb1 : b = true
  rotate_left
  · rw [if_pos (by simpa using hb1), awake_ok]; rfl
  rw [if_neg (by simp [hb1])]
  have hr8 := hb hb1
  obtain ⟨d, e1, hd⟩ := New0_ok y2 w2.1
  obtain ⟨s, l, d', e2, _, hm⟩ := Space_ok hd
  have hcnt := hm.cnt
  have hbb : ∀ i ∈ l, 0 ≤ i.2.1 ∧ i.2.1 < 3 := fun i hi => ⟨(hm.fits i hi).1.1.2.2.1, (hm.fits i hi).2.2.1⟩
  have e3 := Queue_ok (l := l) (n := 3) (by omega) (by omega) fun i hi => (hbb i hi).1
  have hbv := made_bv hm
  have hlenq : ∀ x ∈ (List.range 3).map (onB l), x.length ≤ 4 := by
    intro x hx
    obtain ⟨k, _, rfl⟩ := List.mem_map.1 hx
    have := List.length_filter_le (fun x : Inc => decide (x.2.1 = (k : Int))) l
    unfold onB; omega
  have hq3 : ((List.range 3).map (onB l)).length = 3 := by simp
  generalize (List.range 3).map (onB l) = q at e3 hbv hlenq hq3
  have hv := hm.vs
  have hn := hv.n
  rw [e1, Option.bind_some, e2, Option.bind_some]
  simp only
  rw [show (3 : Int) = ((3 : Nat) : Int) from rfl, e3, Option.bind_some]
  have hx6 : ∀ x ∈ q, x.length ≤ 1000000 := fun x hx => by have := hlenq x hx; omega
  have hfit := hbv.ok.fit
  have hw0 : ∀ i ∈ q.flatten, 0 ≤ i.2.2.2.2 := fun i hi => by have := (hfit i hi).2; omega
  have hbig : ∀ i ∈ q.flatten, 0 ≤ i.2.2.2.2 ∧ i.2.2.2.2 ≤ 1000000 := fun i hi => by
    have := (hfit i hi).1.1
    have := VS.wlen hv
    exact ⟨by omega, by omega⟩
  have hrows : ∀ x ∈ y1, x.length ≤ 9223372036854775807 := fun x hx => (w1.2 x hx).1
  -- what is left of the belts
  have hfew : ∃ j1 : Rows, (if (l.length : Int) > 0 then
      Option.bind (Fbeltwaymake_Mod y4 (l.length : Int)) (fun r8 =>
      if 0 ≤ r8 ∧ r8 < (l.length : Int) then
      Option.bind (Fbeltwayref11_Remove q ((gl ((0, 0, 0, 0, 0) : Inc) l r8.toNat).1)) (fun r9 =>
      some (Sum.inl (β := Bool) (r9.1)))
      else none)
      else some (Sum.inl (q))) = some (Sum.inl j1) ∧ ∀ x ∈ j1, x.length ≤ 1000 := by
    by_cases hl : (l.length : Int) > 0
    · rw [if_pos hl]
      obtain ⟨r, m1, m2, m3, _⟩ := Mod_ok y4 (m := (l.length : Int)) (by omega) (by omega)
      rw [m1, Option.bind_some, if_pos ⟨m2, m3⟩]
      rcases rRemove_ok (by omega) hx6 (gl ((0, 0, 0, 0, 0) : Inc) l r.toNat).1 with ⟨_, e⟩ | ⟨k, j, hf, e⟩
      · rw [e]; exact ⟨_, rfl, by simp⟩
      · rw [e]
        refine ⟨_, rfl, fun x hx => ?_⟩
        rcases List.mem_or_eq_of_mem_set hx with hx | rfl
        · have := hlenq x hx; omega
        · have h1 := List.length_eraseIdx_le (gl [] q k) j
          have := hlenq (gl [] q k) (gl_mem hf.1); omega
    · rw [if_neg hl]; exact ⟨_, rfl, fun x hx => by have := hlenq x hx; omega⟩
  obtain ⟨j1, ej, hj1⟩ := hfew
  rw [ej, Option.bind_some]
  simp only
  obtain ⟨u, e4, hu, _⟩ := VS.spoilt hv y3 y4 y5
  rw [e4, Option.bind_some]
  have hsp : ∀ x ∈ ([s, y0, u] : List Sp), StI x := by
    intro x hx
    simp only [List.mem_cons, List.not_mem_nil, or_false] at hx
    rcases hx with rfl | rfl | rfl
    · exact hv.stI
    · exact raw_stI w0
    · exact hu.stI (by omega)
  have hys : ∀ y ∈ ([q, y1, j1, [[]] ++ q, q ++ [[]], subl q 0 ((2 : Int).toNat - 0)] : List Rows), ∀ x ∈ y, x.length ≤ 9223372036854775807 := by
    intro y hy x hx
    have hq' : x ∈ q → x.length ≤ 9223372036854775807 := fun hx => by have := hlenq x hx; omega
    simp only [List.mem_cons, List.not_mem_nil, or_false] at hy
    rcases hy with rfl | rfl | rfl | rfl | rfl | rfl
    · exact hq' hx
    · exact hrows x hx
    · have := hj1 x hx; omega
    · simp only [List.mem_append, List.mem_singleton] at hx
      rcases hx with rfl | hx
      · simp
      · exact hq' hx
    · simp only [List.mem_append, List.mem_singleton] at hx
      rcases hx with hx | rfl
      · exact hq' hx
      · simp
    · unfold subl at hx
      exact hq' (List.mem_of_mem_drop (List.mem_of_mem_take hx))
  refine list_loop (xs := [s, y0, u]) (d := ((0, [], []) : Sp)) (fun k x hk hx hg => ?_) ?_
  · simp only [Int.toNat_natCast]
    rw [if_pos (by omega), if_pos (by omega), if_pos (by rw [hq3]; decide), rCopy_ok (by omega) hx6, Option.bind_some, if_pos (by rw [hq3]; decide), if_pos (by rw [hq3]; decide), hg]
    have inner : loopO (σ := Int) (β := Int ⊕ Bool) (fun s2 =>
        if s2 < (([q, y1, j1, [[]] ++ q, q ++ [[]], subl q 0 ((2 : Int).toNat - 0)] : List Rows).length : Int) then
        if 0 ≤ s2 ∧ s2 < (([q, y1, j1, [[]] ++ q, q ++ [[]], subl q 0 ((2 : Int).toNat - 0)] : List Rows).length : Int) then
        Option.bind (Fbelt_Valid x (gl ([] : Rows) [q, y1, j1, [[]] ++ q, q ++ [[]], subl q 0 ((2 : Int).toNat - 0)] s2.toNat)) (fun r12 =>
        Option.bind (Fbeltwayref11_Valid x (gl ([] : Rows) [q, y1, j1, [[]] ++ q, q ++ [[]], subl q 0 ((2 : Int).toNat - 0)] s2.toNat)) (fun r13 =>
        if ¬ r12 = r13 then
        some (Sum.inr (Sum.inr false))
        else some (Sum.inl (w64 (s2 + 1)))))
        else none
        else some (Sum.inr (Sum.inl (w64 ((k : Int) + 1))))) 0 = some (Sum.inl ((k : Int) + 1)) := by
      refine list_loop (xs := [q, y1, j1, [[]] ++ q, q ++ [[]], subl q 0 ((2 : Int).toNat - 0)]) (d := ([] : Rows)) (fun m y hm hy hgy => ?_) ?_
      · simp only [List.length_cons, List.length_nil] at hm
        simp only [Int.toNat_natCast]
        obtain ⟨b, v1, v2⟩ := valid_eq (hsp x hx) (hys y hy)
        rw [if_pos (by simp only [List.length_cons, List.length_nil]; omega), if_pos (by simp only [List.length_cons, List.length_nil]; omega), hgy, v1, Option.bind_some, v2, Option.bind_some, if_neg (not_not_intro rfl), w64_id (by omega) (by omega)]
      · simp only [List.length_cons, List.length_nil] at hk
        rw [if_neg (by simp only [List.length_cons, List.length_nil]; omega), w64_id (by omega) (by omega)]
    exact (congrArg (fun o => o) inner)
  · rw [if_neg (by omega)]
    have wf := words_frames (z := sz s.1) (by have := sz_le hv.sh; omega) hw0
    have hu : used s = fsum (sz s.1) q.flatten := (cov_iff hbv.ok).2.2 hbv.cov
    have hu0 := used_ge s
    have hu1 : used s ≤ 64 := by unfold used; omega
    have hmul := mul_sz_le hv.sh hu0 hu1
    have hws : wsum q.flatten ≤ 1000000 := by rw [← hu] at wf; omega
    rw [bWords_ok (by omega) hx6 hw0 hws, Option.bind_some, rWords_ok (by omega) hx6 hw0 hws, Option.bind_some, if_neg (not_not_intro rfl), bLargest_ok hv (by omega) hx6 hbig, Option.bind_some, rLargest_ok hv (by omega) hx6 hbig, Option.bind_some, if_neg (not_not_intro rfl)]
    have fin : loopO (σ := Int) (β := Bool) (fun s3 =>
        if s3 < (l.length : Int) then
        if 0 ≤ s3 ∧ s3 < (l.length : Int) then
        Option.bind (Fbeltwaymake_Mod y5 5) (fun r18 =>
        Option.bind (Fbelt_Open s (gl ((0, 0, 0, 0, 0) : Inc) l s3.toNat) r18) (fun r19 =>
        Option.bind (Fbeltwayref11_Open s (gl ((0, 0, 0, 0, 0) : Inc) l s3.toNat) r18) (fun r20 =>
        if ¬ r19 = r20 then
        some (Sum.inr false)
        else some (Sum.inl (w64 (s3 + 1))))))
        else none
        else Option.map Sum.inr (Option.bind Fbeltwaylaw11_awake (fun r21 => some r21))) 0 = some true := by
      obtain ⟨r, m1, m2, m3, _⟩ := Mod_ok y5 (m := 5) (by omega) (by omega)
      refine list_loop (xs := l) (d := ((0, 0, 0, 0, 0) : Inc)) (fun k i hk _ _ => ?_) ?_
      · rw [if_pos (by omega), if_pos (by omega), m1, Option.bind_some, bOpen_ok hv.sh _ m2 (by omega), Option.bind_some, rOpen_ok hv.sh _ m2 (by omega), Option.bind_some, if_neg (not_not_intro rfl), w64_id (by omega) (by omega)]
      · rw [if_neg (by omega), awake_ok]; rfl
    exact (congrArg (Option.map Sum.inr) fin)

/-! Queues. -/
theorem gl_seq (x : List Inc) (k : Nat) : gl (0 : Int) (x.map (·.1)) k = (gl ((0, 0, 0, 0, 0) : Inc) x k).1 := by
  unfold gl
  rw [List.getD_eq_getElem?_getD, List.getD_eq_getElem?_getD, List.getElem?_map]
  cases x[k]? <;> rfl
def Inj (q : Rows) : Prop := ∀ b k b' k', b < q.length → k < (gl [] q b).length → b' < q.length → k' < (gl [] q b').length → (gl ((0, 0, 0, 0, 0) : Inc) (gl [] q b) k).1 = (gl ((0, 0, 0, 0, 0) : Inc) (gl [] q b') k').1 → b = b' ∧ k = k'
structure Fi (K : Nat) (q : Rows) (want : List (List Int)) (sq n : Int) : Prop where
  ql : q.length = K
  wt : want = q.map (fun r => r.map (·.1))
  rl : ∀ x ∈ q, (x.length : Int) ≤ n
  s0 : 0 ≤ sq ∧ sq ≤ 3 * n
  lt : ∀ x ∈ q, ∀ i ∈ x, i.1 ≤ sq
  inj : Inj q
theorem Fi.row {K : Nat} {q : Rows} {want : List (List Int)} {sq n : Int} (h : Fi K q want sq n) (b : Nat) : want.getD b [] = (gl [] q b).map (·.1) := by
  rw [h.wt, List.getD_eq_getElem?_getD, List.getElem?_map]
  unfold gl
  rw [List.getD_eq_getElem?_getD]
  cases q[b]? <;> rfl
theorem gl_set' {α : Type} {d : α} {xs : List α} {k j : Nat} {x : α} (h : j < xs.length) : gl d (xs.set j x) k = if k = j then x else gl d xs k := gl_set h
theorem set_map_row {K : Nat} {q : Rows} {want : List (List Int)} {sq n : Int} (h : Fi K q want sq n) (b : Nat) (x : List Inc) (y : List Int) (e : y = x.map (·.1)) : want.set b y = (q.set b x).map (fun r => r.map (·.1)) := by
  rw [h.wt, List.map_set, e]
theorem Fi.pop {K : Nat} {q : Rows} {want : List (List Int)} {sq n : Int} (h : Fi K q want sq n) {b : Nat} (hb : b < K) : Fi K (q.set b ((gl [] q b).eraseIdx 0)) (want.set b (subl (want.getD b []) 1 ((want.getD b []).length - 1))) sq (n + 1) := by
  have hbq : b < q.length := by rw [h.ql]; exact hb
  have he : ∀ x : List Inc, x.eraseIdx 0 = x.drop 1 := fun x => by cases x <;> rfl
  have hrow : ∀ x ∈ q.set b ((gl [] q b).eraseIdx 0), ∃ y ∈ q, x.length ≤ y.length ∧ ∀ i ∈ x, i ∈ y := by
    intro x hx
    rcases List.mem_or_eq_of_mem_set hx with hx | rfl
    · exact ⟨x, hx, Nat.le_refl _, fun i hi => hi⟩
    · exact ⟨_, gl_mem hbq, List.length_eraseIdx_le _ _, fun i hi => by rw [he] at hi; exact List.mem_of_mem_drop hi⟩
  refine ⟨by rw [List.length_set]; exact h.ql, ?_, ?_, by have := h.s0; omega, ?_, ?_⟩
  · refine set_map_row h b _ _ ?_
    rw [h.row, subl_rest, he, List.map_drop]
  · intro x hx
    obtain ⟨y, hy, hl, _⟩ := hrow x hx
    have := h.rl y hy; omega
  · intro x hx i hi
    obtain ⟨y, hy, _, hm⟩ := hrow x hx
    exact h.lt y hy i (hm i hi)
  · intro c k c' k' hc hk hc' hk' e
    rw [List.length_set] at hc hc'
    rw [gl_set' hbq] at hk hk' e
    rw [gl_set' hbq] at e
    have hd : ∀ k, gl ((0, 0, 0, 0, 0) : Inc) ((gl [] q b).eraseIdx 0) k = gl ((0, 0, 0, 0, 0) : Inc) (gl [] q b) (k + 1) := by
      intro k
      rw [he]
      unfold gl
      rw [List.getD_eq_getElem?_getD, List.getD_eq_getElem?_getD (l := List.getD q b []), List.getElem?_drop, Nat.add_comm 1 k]
    have hln : ((gl [] q b).eraseIdx 0).length = (gl [] q b).length - 1 := by rw [he, List.length_drop]
    by_cases e1 : c = b
    · subst e1
      simp only [if_true] at hk e
      rw [hln] at hk
      rw [hd] at e
      by_cases e2 : c' = c
      · subst e2
        simp only [if_true] at hk' e
        rw [hln] at hk'
        rw [hd] at e
        have := h.inj _ _ _ _ hc (by omega : k + 1 < _) hc' (by omega : k' + 1 < _) e
        exact ⟨rfl, by omega⟩
      · simp only [e2, if_false] at hk' e
        have := h.inj _ _ _ _ hc (by omega : k + 1 < _) hc' hk' e
        exact absurd this.1.symm e2
    · simp only [e1, if_false] at hk e
      by_cases e2 : c' = b
      · subst e2
        simp only [if_true] at hk' e
        rw [hln] at hk'
        rw [hd] at e
        have := h.inj _ _ _ _ hc hk hc' (by omega : k' + 1 < _) e
        exact absurd this.1 e1
      · simp only [e2, if_false] at hk' e
        exact h.inj _ _ _ _ hc hk hc' hk' e
theorem Fi.add {K : Nat} {q : Rows} {want : List (List Int)} {sq n : Int} (h : Fi K q want sq n) {b : Nat} (hb : b < K) {j : Inc} {sq' : Int} (hj : j.1 = sq') (h1 : sq < sq') (h2 : sq' ≤ sq + 3) : Fi K (q.set b (gl [] q b ++ [j])) (want.set b (want.getD b [] ++ [sq'])) sq' (n + 1) := by
  have hbq : b < q.length := by rw [h.ql]; exact hb
  refine ⟨by rw [List.length_set]; exact h.ql, ?_, ?_, by have := h.s0; omega, ?_, ?_⟩
  · refine set_map_row h b _ _ ?_
    rw [h.row, List.map_append, ← hj]; rfl
  · intro x hx
    rcases List.mem_or_eq_of_mem_set hx with hx | rfl
    · have := h.rl x hx; omega
    · have := h.rl (gl [] q b) (gl_mem hbq); simp only [List.length_append, List.length_singleton]; omega
  · intro x hx i hi
    rcases List.mem_or_eq_of_mem_set hx with hx | rfl
    · have := h.lt x hx i hi; omega
    · rcases List.mem_append.1 hi with hi | hi
      · have := h.lt _ (gl_mem hbq) i hi; omega
      · rw [List.mem_singleton.1 hi]; omega
  · have hat : ∀ c k, c < q.length → k < (gl [] (q.set b (gl [] q b ++ [j])) c).length → (c = b ∧ k = (gl [] q b).length ∧ (gl ((0, 0, 0, 0, 0) : Inc) (gl [] (q.set b (gl [] q b ++ [j])) c) k).1 = sq') ∨ (k < (gl [] q c).length ∧ gl ((0, 0, 0, 0, 0) : Inc) (gl [] (q.set b (gl [] q b ++ [j])) c) k = gl ((0, 0, 0, 0, 0) : Inc) (gl [] q c) k) := by
      intro c k hc hk
      rw [gl_set' hbq] at hk ⊢
      by_cases e1 : c = b
      · subst e1
        simp only [if_true] at hk ⊢
        by_cases hkl : k < (gl [] q c).length
        · exact .inr ⟨hkl, gl_app hkl⟩
        · have : k = (gl [] q c).length := by simp only [List.length_append, List.length_singleton] at hk; omega
          subst this
          refine .inl ⟨trivial, rfl, ?_⟩
          rw [gl_lt (by simp), List.getElem_append_right (Nat.le_refl _)]
          simpa using hj
      · simp only [e1, if_false] at hk ⊢
        exact .inr ⟨hk, trivial⟩
    intro c k c' k' hc hk hc' hk' e
    rw [List.length_set] at hc hc'
    have hlt : ∀ c k, c < q.length → k < (gl [] q c).length → (gl ((0, 0, 0, 0, 0) : Inc) (gl [] q c) k).1 ≤ sq := fun c k hc hk => h.lt _ (gl_mem hc) _ (gl_mem hk)
    rcases hat c k hc hk with ⟨a1, a2, a3⟩ | ⟨a1, a2⟩
    · rcases hat c' k' hc' hk' with ⟨b1, b2, b3⟩ | ⟨b1, b2⟩
      · exact ⟨by rw [a1, b1], by rw [a2, b2]⟩
      · rw [a3, b2] at e
        have := hlt c' k' hc' b1; omega
    · rcases hat c' k' hc' hk' with ⟨b1, b2, b3⟩ | ⟨b1, b2⟩
      · rw [b3, a2] at e
        have := hlt c k hc a1; omega
      · rw [a2, b2] at e
        exact h.inj _ _ _ _ hc a1 hc' b1 e
/-- The first of a row is found there. -/
theorem Fi.found {K : Nat} {q : Rows} {want : List (List Int)} {sq n : Int} (h : Fi K q want sq n) {b k j : Nat} (hb : b < K) (hr : 0 < (gl [] q b).length) (hf : Found q (gl (0 : Int) (want.getD b []) 0) k j) : k = b ∧ j = 0 := by
  have hbq : b < q.length := by rw [h.ql]; exact hb
  obtain ⟨f1, f2, f3, _⟩ := hf
  have e : gl (0 : Int) (want.getD b []) 0 = (gl ((0, 0, 0, 0, 0) : Inc) (gl [] q b) 0).1 := by
    rw [h.row, gl_lt (by simpa using hr), gl_lt hr]; simp
  rw [e] at f3
  exact h.inj _ _ _ _ f1 f2 hbq hr f3
theorem Fi.small {K : Nat} {q : Rows} {want : List (List Int)} {sq n : Int} (h : Fi K q want sq n) (hK : K ≤ 4) (hn : n ≤ 100) : q.length ≤ 1000000 ∧ (∀ x ∈ q, x.length ≤ 1000000) ∧ want.length = K := by
  refine ⟨by rw [h.ql]; omega, fun x hx => by have := h.rl x hx; omega, by rw [h.wt, List.length_map, h.ql]⟩
theorem law_BeltFifo (y0 : List Int) (w0 : Wf (.slice (.int .i64)) y0) (y1 : Int) (w1 : I64 y1) : Fbeltwaylaw11_BeltFifo y0 y1 = some true := by
  unfold Fbeltwaylaw11_BeltFifo
  rw [show Fbeltwaymake_Few y0 = some (decide ((y0.length : Int) ≤ 400)) from rfl, Option.bind_some]
  by_cases hf : (y0.length : Int) ≤ 400
  rotate_left
  · rw [if_pos (by simpa using hf), awake_ok]; rfl
  rw [if_neg (by simpa using hf)]
  obtain ⟨d, e1, hd⟩ := New0_ok y0 w0.1
  obtain ⟨r, m1, m2, m3, _⟩ := Mod_ok y1 (m := 4) (by omega) (by omega)
  rw [e1, Option.bind_some, m1, Option.bind_some, w64_id (e := 1 + r) (by omega) (by omega)]
  obtain ⟨K, hK⟩ : ∃ K : Nat, (K : Int) = 1 + r := ⟨(1 + r).toNat, by omega⟩
  rw [← hK, if_pos (by omega), if_pos (by omega)]
  have hK1 : 1 ≤ K ∧ K ≤ 4 := by omega
  have start : Fi K (List.replicate K []) (List.replicate K []) 0 0 := by
    refine ⟨by simp, by simp, ?_, by omega, ?_, ?_⟩
    · intro x hx; rw [(List.mem_replicate.1 hx).2]; simp
    · intro x hx; rw [(List.mem_replicate.1 hx).2]; simp
    · intro b k b' k' hb hk _ _ _
      rw [List.length_replicate] at hb
      rw [gl_rep hb] at hk; cases hk
  refine (loopO_up (β := Bool) (fun k (st : Rows × Int × Int × (List Int × Int) × List (List Int)) => st.2.2.1 = (k : Int) ∧ k ≤ 60 ∧ DkOk st.2.2.2.1 ∧ Fi K st.1 st.2.2.2.2 st.2.1 k) (fun b => b = true) 60 ?step ?fin (s := (List.replicate (K : Int).toNat [], 0, 0, d, List.replicate (K : Int).toNat [])) ⟨rfl, by omega, hd, by simpa using start⟩).elim fun b hb => by rw [hb.1, hb.2]
  case fin =>
    rintro ⟨q, sq, i, dd, want⟩ ⟨h1, h2, h3, h4⟩
    simp only at h1 h2 h3 h4 ⊢
    subst h1
    rw [if_neg (by omega), awake_ok]
    exact ⟨_, rfl, rfl⟩
  case step =>
    rintro k ⟨q, sq, i, dd, want⟩ hk ⟨h1, h2, h3, h4⟩
    simp only at h1 h2 h3 h4 ⊢
    subst h1
    obtain ⟨g1, g2, g3⟩ := h4.small hK1.2 (by omega)
    have hql := h4.ql
    have hs0 := h4.s0
    rw [if_pos (by omega), show Fbeltwaymake_Deck_Left dd = some (decide (dd.2 < dd.1.length), dd) from rfl, Option.bind_some]
    simp only
    by_cases hl : dd.2 < (dd.1.length : Int)
    rotate_left
    · rw [if_neg (by simpa using hl), awake_ok]; exact .inr ⟨_, rfl, rfl⟩
    rw [if_pos (by simpa using hl)]
    obtain ⟨b0, d1, n1, b1, b2, hd1⟩ := Next_ok h3 (n := (K : Int)) (by omega) (by omega)
    obtain ⟨b, rfl⟩ : ∃ b : Nat, b0 = (b : Int) := ⟨b0.toNat, by omega⟩
    obtain ⟨x7, d2, n2, _, _, hd2⟩ := Next_ok hd1 (n := 3) (by omega) (by omega)
    obtain ⟨x9, d3, n3, p3, p3', hd3⟩ := Next_ok hd2 (n := 3) (by omega) (by omega)
    obtain ⟨x10, d4, n4, p4, p4', hd4⟩ := Next_ok hd3 (n := 9) (by omega) (by omega)
    have hbK : b < K := by omega
    have hbq : b < q.length := by omega
    have hrl := h4.rl (gl [] q b) (gl_mem hbq)
    have hrow := h4.row b
    have hwl : (want.getD b []).length = (gl [] q b).length := by rw [hrow, List.length_map]
    -- what the turn leads to
    have turn : ∃ (q' : Rows) (sq' : Int) (d' : List Int × Int) (want' : List (List Int)), DkOk d' ∧ Fi K q' want' sq' ((k : Int) + 1) ∧
        (Option.bind (Fbeltwaymake_Deck_Next d1 3) (fun r7 =>
if r7.1 = 0 then
if 0 ≤ (b : Int) ∧ (b : Int) < (want.length : Int) then
if ((want.getD b []).length : Int) > 0 then
if 0 ≤ (b : Int) ∧ (b : Int) < (want.length : Int) then
if True then
if 0 ≤ (0 : Int) ∧ (0 : Int) < ((want.getD b []).length : Int) then
Option.bind (Fbelt_Remove q (gl (0 : Int) (want.getD b []) ((0 : Int).toNat))) (fun r8 =>
if ¬ r8.2 = 0 then
some (Sum.inr (Sum.inr false))
else if 0 ≤ (b : Int) ∧ (b : Int) < (want.length : Int) then
if True then
if Bd (some (1 : Int)) none ((want.getD b []).length) ((want.getD b []).length) then
if 0 ≤ (b : Int) ∧ (b : Int) < (want.length : Int) then
if True then
some (Sum.inl (r8.1, sq, r7.2, want.set b (subl (want.getD b []) ((1 : Int).toNat) (((want.getD b []).length) - ((1 : Int).toNat)))))
else none
else none
else none
else none
else none)
else none
else none
else none
else Option.bind (Fbeltwaymake_Deck_Next r7.2 3) (fun r9 =>
Option.bind (Fbeltwaymake_Deck_Next r9.2 9) (fun r10 =>
Option.bind (Fbelt_Add q (w64 (sq + (w64 ((1 : Int) + r9.1))), (b : Int), 0, 0, w64 ((1 : Int) + r10.1))) (fun r11 =>
if ¬ r11.2 = 0 then
some (Sum.inr (Sum.inr false))
else if 0 ≤ (b : Int) ∧ (b : Int) < (want.length : Int) then
if True then
if ((want.getD b []).length + ([w64 (sq + (w64 ((1 : Int) + r9.1)))] : List Int).length) * 8 ≤ 140737488355328 then
if 0 ≤ (b : Int) ∧ (b : Int) < (want.length : Int) then
if True then
some (Sum.inl (r11.1, w64 (sq + (w64 ((1 : Int) + r9.1))), r10.2, want.set b ((want.getD b []) ++ ([w64 (sq + (w64 ((1 : Int) + r9.1)))] : List Int))))
else none
else none
else none
else none
else none)))
else none
else Option.bind (Fbeltwaymake_Deck_Next r7.2 3) (fun r12 =>
Option.bind (Fbeltwaymake_Deck_Next r12.2 9) (fun r13 =>
Option.bind (Fbelt_Add q (w64 (sq + (w64 ((1 : Int) + r12.1))), (b : Int), 0, 0, w64 ((1 : Int) + r13.1))) (fun r14 =>
if ¬ r14.2 = 0 then
some (Sum.inr (Sum.inr false))
else if 0 ≤ (b : Int) ∧ (b : Int) < (want.length : Int) then
if ((want.getD b []).length + ([w64 (sq + (w64 ((1 : Int) + r12.1)))] : List Int).length) * 8 ≤ 140737488355328 then
if 0 ≤ (b : Int) ∧ (b : Int) < (want.length : Int) then
if True then
some (Sum.inl (r14.1, w64 (sq + (w64 ((1 : Int) + r12.1))), r13.2, want.set b ((want.getD b []) ++ ([w64 (sq + (w64 ((1 : Int) + r12.1)))] : List Int))))
else none
else none
else none
else none)))) : Option ((Rows × Int × (List Int × Int) × List (List Int)) ⊕ ((Rows × Int × Int × (List Int × Int) × List (List Int)) ⊕ Bool))) = some (Sum.inl (q', sq', d', want')) := by
      have hadd := bAdd_ok g1 g2 (j := (sq + (1 + x9), (b : Int), 0, 0, 1 + x10)) (b := b) rfl hbq (fun i hi => by have := h4.lt _ (gl_mem hbq) i hi; simp only; omega)
      have hFa := h4.add hbK (j := (sq + (1 + x9), (b : Int), 0, 0, 1 + x10)) (sq' := sq + (1 + x9)) rfl (by omega) (by omega)
      have e9 : w64 (1 + x9) = 1 + x9 := w64_id (by omega) (by omega)
      have e9' : w64 (sq + (1 + x9)) = sq + (1 + x9) := w64_id (by omega) (by omega)
      have e10 : w64 (1 + x10) = 1 + x10 := w64_id (by omega) (by omega)
      rw [n2, Option.bind_some]
      simp only
      by_cases h7 : x7 = 0
      · rw [if_pos h7, if_pos (by omega)]
        by_cases hw : ((want.getD b []).length : Int) > 0
        · have hr0 : 0 < (gl [] q b).length := by omega
          rw [if_pos hw, if_pos (by omega), if_pos trivial, if_pos (by omega)]
          have hg0 : gl (0 : Int) (want.getD b []) ((0 : Int).toNat) = gl (0 : Int) (want.getD b []) 0 := rfl
          rw [hg0]
          rcases bRemove_ok g1 g2 (gl (0 : Int) (want.getD b []) 0) with ⟨hno, _⟩ | ⟨kk, jj, hfd, er⟩
          · exfalso
            refine hno (gl ((0, 0, 0, 0, 0) : Inc) (gl [] q b) 0) (List.mem_flatten.2 ⟨_, gl_mem hbq, gl_mem hr0⟩) ?_
            rw [hrow, gl_seq]
          · obtain ⟨rfl, rfl⟩ := h4.found hbK hr0 hfd
            rw [er, Option.bind_some, if_neg (by simp), if_pos (by omega), if_pos trivial, if_pos ⟨trivial, by simp only; omega⟩, if_pos (by omega), if_pos trivial]
            exact ⟨_, _, _, _, hd2, h4.pop hbK, rfl⟩
        · rw [if_neg hw, n3, Option.bind_some]
          simp only
          rw [n4, Option.bind_some]
          simp only
          rw [e9, e9', e10, hadd, Option.bind_some, if_neg (by simp), if_pos (by omega), if_pos trivial, if_pos (by simp only [List.length_singleton]; omega), if_pos (by omega), if_pos trivial]
          exact ⟨_, _, _, _, hd4, hFa, rfl⟩
      · rw [if_neg h7, n3, Option.bind_some]
        simp only
        rw [n4, Option.bind_some]
        simp only
        rw [e9, e9', e10, hadd, Option.bind_some, if_neg (by simp), if_pos (by omega), if_pos (by simp only [List.length_singleton]; omega), if_pos (by omega), if_pos trivial]
        exact ⟨_, _, _, _, hd4, hFa, rfl⟩
    obtain ⟨q', sq', d', want', hd', hF, et⟩ := turn
    obtain ⟨g1', g2', g3'⟩ := hF.small hK1.2 (by omega)
    have hql' := hF.ql
    rw [n1, Option.bind_some]
    simp only [Int.toNat_natCast]
    rw [et, Option.bind_some]
    simp only
    left
    refine ⟨(q', sq', (k : Int) + 1, d', want'), ?_, by simp only; omega, by omega, hd', by simpa using hF⟩
    refine (loopO_up (β := (Rows × Int × Int × (List Int × Int) × List (List Int)) ⊕ Bool) (fun c (st : Int × List (List Int)) => st = ((c : Int), want') ∧ c ≤ K) (fun r => r = Sum.inl (q', sq', (k : Int) + 1, d', want')) K ?_ ?_ (s := ((0 : Int), want')) ⟨rfl, by omega⟩).elim fun r hr => by rw [hr.1, hr.2]
    · rintro c st hc ⟨rfl, _⟩
      have hcq : c < q'.length := by omega
      have hrc := hF.row c
      have hwc : (want'.getD c []).length = (gl [] q' c).length := by rw [hrc, List.length_map]
      have hgl : gl ([] : List Int) want' c = want'.getD c [] := rfl
      simp only [Int.toNat_natCast, set_same]
      rw [if_pos (by omega), bOldest_ok hcq, Option.bind_some, bYoungest_ok g2' hcq, Option.bind_some, if_pos (by omega), if_pos (by omega)]
      have hx := g2' _ (gl_mem (d := []) hcq)
      by_cases he : gl [] q' c = []
      · have h0 : (want'.getD c []).length = 0 := by rw [hwc, he]; rfl
        rw [if_pos he, if_pos he, if_neg (not_not_intro (decide_eq_false (by omega)).symm), if_neg (not_not_intro (decide_eq_false (by omega)).symm), if_neg (by omega), if_pos (by omega), if_neg (by omega), if_neg (by omega), w64_id (by omega) (by omega)]
        exact .inl ⟨_, rfl, rfl, by omega⟩
      · have hp := List.length_pos_iff.2 he
        have e0 : (gl ((0, 0, 0, 0, 0) : Inc) (gl [] q' c) 0).1 = gl (0 : Int) (want'.getD c []) ((0 : Int).toNat) := by
          rw [hrc, gl_seq]; rfl
        have e1 : (gl ((0, 0, 0, 0, 0) : Inc) (gl [] q' c) ((gl [] q' c).length - 1)).1 = gl (0 : Int) (want'.getD c []) ((w64 (((want'.getD c []).length : Int) - 1)).toNat) := by
          rw [w64_id (by omega) (by omega), hwc, show (((gl [] q' c).length : Int) - 1).toNat = (gl [] q' c).length - 1 from by omega, hrc, gl_seq]
        rw [if_neg he, if_neg he, if_neg (not_not_intro (decide_eq_true (by omega)).symm), if_neg (not_not_intro (decide_eq_true (by omega)).symm), if_neg (by omega), if_pos (by omega), if_neg (by omega), if_pos (by omega), if_pos (by omega), if_pos trivial, if_pos (by omega), if_neg (not_not_intro e0), if_pos (by omega), if_pos trivial, if_pos (by rw [w64_id (by omega) (by omega)]; omega), if_neg (not_not_intro e1), w64_id (by omega) (by omega)]
        exact .inl ⟨_, rfl, rfl, by omega⟩
    · rintro st ⟨rfl, _⟩
      simp only
      rw [if_neg (by omega), w64_id (by omega) (by omega)]
      exact ⟨_, rfl, rfl⟩
namespace beltFrames
open Go.ChangeShapes Go.WideShapes Go.ChangeAt Go.RowKit Go.V3
set_option linter.unusedVariables false
theorem own : ownKnob Try.prog.godebug = none := by kernel_rfl
theorem laidOut : laidOutB Try.prog = true := by kernel_rfl
set_option maxRecDepth 100000 in
theorem lifted (os : Os) (started : os.Started) (H : Type) (enc : TypeId × Value → H) :
    ReturnsInHanded {} Try.checked os 5 .any (Rows.beltFramesSpec.pre6 enc Try.prog Try.f5 Rows.beltFramesRow.domain false) (Rows.beltFramesSpec.post enc Try.prog Try.f5 false true false false) := by
  refine returnsInHanded_of_change (C := Try.checked) own started (by kernel_rfl) Try.func5
    (ChangeSpec.witness6 (enc := enc) (C := Try.checked) false ⟨#[], #[.slice none 0 0], []⟩ 8 (by kernel_rfl) (by kernel_rfl) (by kernel_rfl) (by kernel_rfl)) ?_
  intro W base args ds gs before hval0 hW hcnd _
  have hT : TabW tabs W := TabW.nil W
  have hval : ∀ (j : Nat) t v, Try.f5.params[j]? = some t → args[j]? = some v → Value.okWide Try.prog W .any base t v := hval0
  have hW' := hW
  obtain ⟨p, q, hA0, hV, rfl, hfz, hnd⟩ := hW
  have hA : DataW.TrodAll enc Try.prog W 0 (fun _ => true) true Try.f5.params.toList args.toList ds p := hA0
  rw [Try.params5] at hA hval
  obtain ⟨v0, vs0, d0, ds0, p0, q0, hargs, rfl, rfl, h0, r0⟩ := trodAll_cons hA
  obtain ⟨rfl, rfl, rfl⟩ := trodAll_nil r0
  obtain rfl : args = #[v0] := by cases args; simp_all
  obtain ⟨rfl, rfl⟩ := trodVars_none hV
  have k0 := h0
  have lt0 : ∀ x ∈ p0, x.block < W.heap.size := by obtain ⟨m, hm⟩ := k0; exact DataW.trod_lt m _ _ _ hm
  obtain ⟨y0, R0, w0⟩ := handed 40 (.slice (.int .i64)) (by kernel_rfl) (hval 0 22 v0 rfl rfl) k0
  have A1 := Args.nil W
  obtain ⟨m0, A0⟩ := A1.cons (t := (.slice (.int .i64))) (.inr ⟨rfl, plainForm (t := 22) rfl (hval 0 22 v0 rfl rfl)⟩) y0 R0
  refine (law_args (fi := iFbeltwaylaw11_BeltFrames) okFbeltwaylaw11_BeltFrames hT (r := (true : Bool)) (vals := #[v0]) (w := W) A0 (law_BeltFrames y0 w0) (fun _ => rfl)).mono fun e W' ⟨he, bel⟩ => ?_
  subst he
  simp only [List.append_nil] at hW'
  exact ⟨_, rfl, _, _, _, [], _, [], hW', trodAll_mk1 (shut_bool Try.underlying4 _), (trodAll_cons_mk (Below.trod laidOut (by kernel_rfl) (of_decide_eq_true (by kernel_rfl)) k0 bel lt0) trodAll_mk0), rfl, bel.frame _, fun h => by cases h⟩
theorem proved : Rows.BeltFramesSaid :=
  OpenClaim.holds_of_wide 5 Try.f5 rfl rfl rfl rfl rfl rfl rfl ⟨rfl, rfl, rfl, rfl, rfl⟩ rfl rfl rfl rfl rfl (by kernel_rfl) Try.func5 (by kernel_rfl)
    (of_decide_eq_true (by kernel_rfl)) (by unfold Func.isWrapper; first | (rw [if_pos (by decide +kernel)]; kernel_rfl) | (rw [if_neg (by decide +kernel)]; exact ⟨rfl, rfl⟩))
    (fun os started H enc _ => lifted os started H enc)
end beltFrames
namespace beltFifo
open Go.ChangeShapes Go.WideShapes Go.ChangeAt Go.RowKit Go.V3
set_option linter.unusedVariables false
theorem own : ownKnob Try.prog.godebug = none := by kernel_rfl
theorem laidOut : laidOutB Try.prog = true := by kernel_rfl
set_option maxRecDepth 100000 in
theorem lifted (os : Os) (started : os.Started) (H : Type) (enc : TypeId × Value → H) :
    ReturnsInHanded {} Try.checked os 3 .any (Rows.beltFifoSpec.pre6 enc Try.prog Try.f3 Rows.beltFifoRow.domain false) (Rows.beltFifoSpec.post enc Try.prog Try.f3 false true false false) := by
  refine returnsInHanded_of_change (C := Try.checked) own started (by kernel_rfl) Try.func3
    (ChangeSpec.witness6 (enc := enc) (C := Try.checked) false ⟨#[], #[.slice none 0 0, .int .i64 0], []⟩ 8 (by kernel_rfl) (by kernel_rfl) (by kernel_rfl) (by kernel_rfl)) ?_
  intro W base args ds gs before hval0 hW hcnd _
  have hT : TabW tabs W := TabW.nil W
  have hval : ∀ (j : Nat) t v, Try.f3.params[j]? = some t → args[j]? = some v → Value.okWide Try.prog W .any base t v := hval0
  have hW' := hW
  obtain ⟨p, q, hA0, hV, rfl, hfz, hnd⟩ := hW
  have hA : DataW.TrodAll enc Try.prog W 0 (fun _ => true) true Try.f3.params.toList args.toList ds p := hA0
  rw [Try.params3] at hA hval
  obtain ⟨v0, vs0, d0, ds0, p0, q0, hargs, rfl, rfl, h0, r0⟩ := trodAll_cons hA
  obtain ⟨v1, vs1, d1, ds1, p1, q1, rfl, rfl, rfl, h1, r1⟩ := trodAll_cons r0
  obtain ⟨rfl, rfl, rfl⟩ := trodAll_nil r1
  obtain rfl : args = #[v0, v1] := by cases args; simp_all
  obtain ⟨rfl, rfl⟩ := trodVars_none hV
  have k0 := h0
  have lt0 : ∀ x ∈ p0, x.block < W.heap.size := by obtain ⟨m, hm⟩ := k0; exact DataW.trod_lt m _ _ _ hm
  obtain ⟨y0, R0, w0⟩ := handed 40 (.slice (.int .i64)) (by kernel_rfl) (hval 0 22 v0 rfl rfl) k0
  have k1 := h1
  have lt1 : ∀ x ∈ p1, x.block < W.heap.size := by obtain ⟨m, hm⟩ := k1; exact DataW.trod_lt m _ _ _ hm
  obtain ⟨y1, R1, w1⟩ := handed 40 (.int .i64) (by kernel_rfl) (hval 1 3 v1 rfl rfl) k1
  have A2 := Args.nil W
  obtain ⟨m1, A1⟩ := A2.cons (t := (.int .i64)) (.inr ⟨rfl, plainForm (t := 3) rfl (hval 1 3 v1 rfl rfl)⟩) y1 R1
  obtain ⟨m0, A0⟩ := A1.cons (t := (.slice (.int .i64))) (.inr ⟨rfl, plainForm (t := 22) rfl (hval 0 22 v0 rfl rfl)⟩) y0 R0
  refine (law_args (fi := iFbeltwaylaw11_BeltFifo) okFbeltwaylaw11_BeltFifo hT (r := (true : Bool)) (vals := #[v0, v1]) (w := W) A0 (law_BeltFifo y0 w0 y1 (i64_of_wf w1)) (fun _ => rfl)).mono fun e W' ⟨he, bel⟩ => ?_
  subst he
  simp only [List.append_nil] at hW'
  exact ⟨_, rfl, _, _, _, [], _, [], hW', trodAll_mk1 (shut_bool Try.underlying4 _), (trodAll_cons_mk (Below.trod laidOut (by kernel_rfl) (of_decide_eq_true (by kernel_rfl)) k0 bel lt0) (trodAll_cons_mk (Below.trod laidOut (by kernel_rfl) (of_decide_eq_true (by kernel_rfl)) k1 bel lt1) trodAll_mk0)), rfl, bel.frame _, fun h => by cases h⟩
theorem proved : Rows.BeltFifoSaid :=
  OpenClaim.holds_of_wide 3 Try.f3 rfl rfl rfl rfl rfl rfl rfl ⟨rfl, rfl, rfl, rfl, rfl⟩ rfl rfl rfl rfl rfl (by kernel_rfl) Try.func3 (by kernel_rfl)
    (of_decide_eq_true (by kernel_rfl)) (by unfold Func.isWrapper; first | (rw [if_pos (by decide +kernel)]; kernel_rfl) | (rw [if_neg (by decide +kernel)]; exact ⟨rfl, rfl⟩))
    (fun os started H enc _ => lifted os started H enc)
end beltFifo
end Go.Proofs.Ytnfleglhbgknmaa
