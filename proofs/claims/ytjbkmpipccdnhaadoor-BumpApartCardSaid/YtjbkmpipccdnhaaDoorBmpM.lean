/-
  Laws of package bump: what is wasted, dropped, kept apart.
-/
import Derived.Test.YtjbkmpipccdnhaaDoorBmpL
set_option linter.unusedVariables false
namespace Go.Proofs.YtjbkmpipccdnhaaDoor
open Go Go.V3

theorem Left_ok (d : List Int × Int) : Fbeltwaymake_Deck_Left d = some (decide (d.2 < d.1.length), d) := rfl
theorem Next2_ok {d : List Int × Int} (h : DkOk d) (hl : d.2 < d.1.length) {n : Int} (h0 : 0 < n) (h1 : n ≤ 4611686018427387904) : ∃ r, Fbeltwaymake_Deck_Next d n = some (r, (d.1, d.2 + 1)) ∧ 0 ≤ r ∧ r < n ∧ DkOk (d.1, d.2 + 1) := by
  unfold Fbeltwaymake_Deck_Next
  obtain ⟨h2, h3⟩ := h
  rw [if_neg (by omega), w64_id (e := d.2 + 1) (by omega) (by omega), show d.2 + 1 - 1 = d.2 from by omega, w64_id (by omega) (by omega), if_pos (by omega)]
  obtain ⟨r, h4, h5, h6, _⟩ := Mod_ok (gl (0 : Int) d.1 d.2.toNat) h0 h1
  rw [h4]
  exact ⟨_, rfl, h5, h6, by show (0:Int) ≤ d.2 + 1; omega, h3⟩
theorem Few_ok (l : List Int) : Fbeltwaymake_Few l = some (decide ((l.length : Int) ≤ 400)) := rfl
theorem rUsed_ok {s : Sp} (hn : s.2.2.length ≤ 64) : Fbeltwayref04_Used s = some ((s.2.2.length : Int) - (frees s.2.2).length) := by
  have hl : (frees s.2.2).length ≤ s.2.2.length := owned_len s.2.2 (-1)
  unfold Fbeltwayref04_Used
  rw [Free_ok hn]
  simp only [Option.bind_some]
  rw [w64_id (by omega) (by omega)]
/-- Two disjoint sorts of a list. -/
theorem filter_two {α : Type} {p q r : α → Bool} : ∀ (l : List α), (∀ x ∈ l, r x = (p x || q x)) → (∀ x ∈ l, ¬ (p x = true ∧ q x = true)) → (l.filter r).length = (l.filter p).length + (l.filter q).length
  | [], _, _ => rfl
  | a :: l, h1, h2 => by
    have ih := filter_two l (fun x hx => h1 x (by simp [hx])) (fun x hx => h2 x (by simp [hx]))
    have e := h1 a (by simp)
    have d := h2 a (by simp)
    cases hp : p a <;> cases hq : q a <;> simp_all <;> omega
theorem used_one {fs : List Fr} {o : Int} (ho : o ≠ -1) (h : ∀ x : Int, 0 ≤ x → x < fs.length → (fr fs x).1 ≠ -1 → (fr fs x).1 = o) : (fs.length : Int) = (frees fs).length + (owned fs o).length := by
  have := filter_two (p := fun i => decide ((fr fs i).1 = -1)) (q := fun i => decide ((fr fs i).1 = o)) (r := fun _ => true) (rangeI fs.length) (fun x hx => by
    obtain ⟨x0, x1⟩ := mem_rangeI.1 hx
    by_cases e : (fr fs x).1 = -1
    · simp [e]
    · simp [h x x0 x1 e]) (fun x _ => by simp only [decide_eq_true_eq]; omega)
  rw [List.filter_eq_self.2 (fun _ _ => rfl), rangeI_length] at this
  unfold frees owned
  omega
theorem adl_range {s : Sp} (h : VS s) {l : List Int} {i off a : Int} (hp : Pa s.2.2 i l) (h0 : 0 ≤ off) (ha : adl (sz s.1) l off = some a) : 0 ≤ a ∧ a < s.2.1.length ∧ a / sz s.1 ∈ l := by
  have z := sz_pos' s.1
  obtain ⟨g, g1, g2⟩ := adl_some z h0 (adl_lt z h0 ha)
  rw [ha] at g2
  obtain rfl := Option.some.inj g2
  have hm : g ∈ l := List.mem_of_getElem? g1
  obtain ⟨g0, g3⟩ := hp.mem hm
  have m0 := Int.emod_nonneg off (show sz s.1 ≠ 0 by omega)
  have m1 := Int.emod_lt_of_pos off z
  have q0 : 0 ≤ g * sz s.1 := Int.mul_nonneg g0 (by omega)
  have q1 : (g + 1) * sz s.1 ≤ s.2.2.length * sz s.1 := Int.mul_le_mul_of_nonneg_right (by omega) (by omega)
  rw [Int.add_mul, Int.one_mul] at q1
  have := h.w
  refine ⟨by omega, by omega, ?_⟩
  rw [(addr_frame z (g := g) m0 m1).1]
  exact hm
theorem index_of {s : Sp} (h : VS s) {i : Inc} (hf : FitS s i) (hw : i.2.2.2.2 ≠ 0) {l : List Int} (hp : Pa s.2.2 i.2.2.1 l) {off a : Int} (h0 : 0 ≤ off) (ha : adl (sz s.1) l off = some a) : Fbeltwayref05_Index s i.2.2.1 a = some (off, 0) := by
  obtain ⟨a0, a1, _⟩ := adl_range h hp h0 ha
  rcases hf.2 with ⟨g1, _⟩ | ⟨_, ⟨g1, g2⟩, g3, _⟩
  · exact absurd g1 hw
  have := hf.1.1
  rw [rIndex_ok h g1 g2 a0 a1 (by omega) hp, ixl_adl (sz_pos' s.1) hp.nodup h0 ha]
  simp only [ixR]
  congr 2
  omega

theorem fit0 (s : Sp) {q b : Int} (q0 : 0 ≤ q) (q1 : q ≤ 4294967295) (b0 : 0 ≤ b) (b1 : b < 4) : FitS s (q, b, -1, -1, 0) := ⟨by simp only; omega, .inl (by simp)⟩
theorem law_BumpWastes (y0 : List Int) (w0 : Wf (.slice (.int .i64)) y0) (y1 : Int) (w1 : I64 y1) (y2 : Int) (w2 : I64 y2) : Fbeltwaylaw09_BumpWastes y0 y1 y2 = some true := by
  unfold Fbeltwaylaw09_BumpWastes
  rw [Few_ok]
  simp only [Option.bind_some]
  by_cases hfew : (y0.length : Int) ≤ 400
  rotate_left
  · rw [if_pos (by simp; omega), awake_ok]; rfl
  rw [if_neg (by simp; omega)]
  obtain ⟨d, e1, hd⟩ := New0_ok y0 w0.1
  have hd1 : d = (y0, 0) := by unfold Fbeltwaymake_New at e1; exact (Option.some.inj e1).symm
  rw [e1]
  simp only [Option.bind_some]
  obtain ⟨m1, e2, a0, a1, _⟩ := Mod_ok y1 (m := 3) (by omega) (by omega)
  obtain ⟨m2, e3, b0, b1, _⟩ := Mod_ok y2 (m := 30) (by omega) (by omega)
  rw [e2]
  simp only [Option.bind_some]
  rw [e3]
  simp only [Option.bind_some]
  rw [w64_id (e := 3 + m1) (by omega) (by omega), w64_id (e := 2 + m2) (by omega) (by omega), rNew_ok (s := 3 + m1) (n := 2 + m2) (by omega) (by omega)]
  simp only [Option.bind_some]
  rw [if_neg (by simp)]
  have v0 := VS.new (s := 3 + m1) (n := 2 + m2) (by omega) (by omega)
  have hfree : ∀ x : Int, 0 ≤ x → x < (List.replicate (2 + m2).toNat ((-1, -1, -1) : Fr)).length → (fr (List.replicate (2 + m2).toNat (-1, -1, -1)) x).1 = -1 := by
    intro x x0 x1
    rw [List.length_replicate] at x1
    have : fr (List.replicate (2 + m2).toNat (-1, -1, -1)) x = (-1, -1, -1) := gl_rep (by omega)
    rw [this]
  refine (loopO_ind (fun n (st : (List Int × Int) × Sp × Inc) => DkOk st.1 ∧ st.1.1 = d.1 ∧ (n : Int) = st.1.1.length - st.1.2 ∧ VS st.2.1 ∧ FitS st.2.1 st.2.2 ∧ st.2.2.1 = 4 ∧ (st.2.2.2.2.2.2 = 0 → owned st.2.1.2.2 4 = []) ∧ ∀ x : Int, 0 ≤ x → x < st.2.1.2.2.length → (fr st.2.1.2.2 x).1 ≠ -1 → (fr st.2.1.2.2 x).1 = 4) (fun b => b = true) ?_ d.1.length (d, _, ((4, 1, -1, -1, 0) : Inc))
    ⟨hd, rfl, by rw [hd1]; simp, v0, fit0 _ (by omega) (by omega) (by omega) (by omega), rfl, fun _ => frees_all hfree 4 (by decide), fun x x0 x1 hx => absurd (hfree x x0 x1) hx⟩).elim fun b hb => by rw [hb.1, hb.2]
  rintro n ⟨dk, s, i⟩ ⟨h1, h2, h3, h, hf, h4, h5, h6⟩
  simp only at h1 h2 h3 h hf h4 h5 h6 ⊢
  rw [Left_ok]
  simp only [Option.bind_some]
  by_cases hl : dk.2 < (dk.1.length : Int)
  rotate_left
  · rw [if_neg (by simpa using hl), awake_ok]; exact .inl ⟨_, rfl, rfl⟩
  rw [if_pos (by simpa using hl)]
  obtain ⟨k, e4, k0, k1, hdk⟩ := Next2_ok h1 hl (n := 48) (by omega) (by omega)
  rw [e4]
  simp only [Option.bind_some]
  have hwl := VS.wlen h
  have hn := h.n.2
  have iw0 := hf.1.2.2.2.2.1
  have iw1 := hf.1.2.2.2.2.2
  rw [w64_id (e := 1 + k) (by omega) (by omega)]
  rcases bAlloc_ok h.stI i (1 + k) with ⟨c, _⟩ | ⟨_, ⟨c1, c2, _⟩ | ⟨_, ⟨c1, c2⟩ | ⟨_, t, j, a, l, l', c2, g⟩⟩⟩
  · exact absurd ⟨h, hf, by omega, by omega⟩ c
  · rw [h4] at c2; exact absurd (h5 c1) c2
  · left
    rw [c2]
    simp only [Option.bind_some]
    rw [if_pos (by decide), if_pos trivial, bExtra_ok h iw0 (by omega) (by omega) (by omega), Free_ok hn]
    simp only [Option.bind_some]
    rw [if_pos (by omega), awake_ok]
    exact ⟨_, rfl, rfl⟩
  · right
    rw [c2]
    simp only [Option.bind_some]
    have gt := VS.wlen g.vs
    have gn := g.vs.n.2
    obtain ⟨z1, z2⟩ := sz_le g.vs.sh
    have jw := g.words
    have jw1 := g.fit.1.2.2.2.2.2
    obtain ⟨b, b1, b2⟩ := rIncValid_ok t j
    have hall : ∀ x : Int, 0 ≤ x → x < t.2.2.length → (fr t.2.2 x).1 ≠ -1 → (fr t.2.2 x).1 = 4 := by
      intro x x0 x1 hx
      apply Classical.byContradiction
      intro hne
      have hx1 : x ∈ owned t.2.2 (fr t.2.2 x).1 := mem_owned.2 ⟨⟨x0, x1⟩, rfl⟩
      rw [g.oth _ (by rw [h4]; exact hne) hx] at hx1
      obtain ⟨⟨_, y1⟩, y2⟩ := mem_owned.1 hx1
      have := h6 x x0 y1 (by rw [y2]; exact hx)
      rw [y2] at this
      exact hne this
    have hu := used_one (o := 4) (by decide) hall
    have hown := g.own
    rw [h4] at hown
    have hlen := g.len'
    have hsp := cl_spec (n := i.2.2.2.2 + (1 + k)) (sz_pos' s.1)
    rw [b1, b2.2 ⟨g.vs, g.fit⟩]
    simp only [Option.bind_some]
    rw [if_neg (by decide), if_neg (by simp), w64_id (e := i.2.2.2.2 + (1 + k)) (by omega) (by omega), if_neg (by rw [jw]; simp), rUsed_ok gn]
    simp only [Option.bind_some]
    have hsz : sz t.1 = sz s.1 := by rw [g.sh]
    have husz : ((t.2.2.length : Int) - (frees t.2.2).length) = cl (sz s.1) (i.2.2.2.2 + (1 + k)) := by omega
    rw [if_pos trivial, if_pos trivial, pow_sz g.vs.sh, husz, hsz, Int.one_mul, w64_id (e := cl (sz s.1) (i.2.2.2.2 + (1 + k)) * sz s.1) (by omega) (by omega), w64_id (e := sz s.1) (by omega) (by omega), w64_id (by omega) (by omega), if_neg (by omega),
      index_of g.vs g.fit (by omega) g.path iw0 (by rw [hsz]; exact g.adr)]
    simp only [Option.bind_some]
    rw [if_neg (by simp), if_neg (by simp)]
    refine ⟨n - 1, _, by omega, rfl, hdk, h2, by simp only; omega, g.vs, g.fit, by rw [g.seq]; exact h4, fun hw => by simp only at hw; omega, hall⟩

theorem drop_fields {s : Sp} {l : List Inc} (hm : Made s l) {i : Inc} (hi : i ∈ l) : Fbump_Drop s i = some (gv s i.1, 0) ∧ (owned s.2.2 i.1).length = cl (sz s.1) i.2.2.2.2 := by
  obtain ⟨hf, hw, _⟩ := hm.fits i hi
  obtain ⟨b, b1, b2⟩ := bDrop_vs hm.vs.stI i
  have hb : b = true := b1.2 ⟨hm.vs, hf⟩
  rw [b2, if_pos hb, if_neg (by omega)]
  rcases hf.2 with ⟨g1, _⟩ | ⟨_, g1, g2, g3, p, p1, p2, p3, p4⟩
  · omega
  have hp : 0 < p.length := by
    cases p with
    | nil => simp at p4
    | cons => simp
  have hc : gvN s.2.2 i.1 s.2.2.length = ((owned s.2.2 i.1).length : Int) := by rw [gvN_eq]; rfl
  refine ⟨?_, by omega⟩
  unfold giveR
  rw [if_neg (by rw [hc]; omega)]

theorem law_BumpDrops (y0 : List Int) (w0 : Wf (.slice (.int .i64)) y0) (y1 : Int) (w1 : I64 y1) : Fbeltwaylaw09_BumpDrops y0 y1 = some true := by
  unfold Fbeltwaylaw09_BumpDrops
  obtain ⟨d, e1, hd⟩ := New0_ok y0 w0.1
  rw [e1]
  simp only [Option.bind_some]
  obtain ⟨s, l, d', e2, _, hm⟩ := Space_ok hd
  rw [e2]
  simp only [Option.bind_some]
  by_cases hl0 : (l.length : Int) = 0
  · rw [if_pos hl0, awake_ok]; rfl
  rw [if_neg hl0]
  have hcnt := hm.cnt
  obtain ⟨m1, e3, a0, a1, _⟩ := Mod_ok y1 (m := (l.length : Int)) (by omega) (by omega)
  rw [e3]
  simp only [Option.bind_some]
  rw [if_pos ⟨a0, a1⟩]
  have hi : gl ((0, 0, 0, 0, 0) : Inc) l m1.toNat ∈ l := gl_mem (by omega)
  generalize gl ((0, 0, 0, 0, 0) : Inc) l m1.toNat = i at hi ⊢
  rw [show (i.1, i.2.1, i.2.2.1, i.2.2.2) = i from rfl]
  obtain ⟨d1, d2⟩ := drop_fields hm hi
  obtain ⟨hf, hw, _⟩ := hm.fits i hi
  have h := hm.vs
  have hwl := VS.wlen h
  have hn := h.n.2
  have iw1 := hf.1.2.2.2.2.2
  have hv := h.give hf.1.1
  have hgl := gv_len s i.1
  have hgw := gv_wlen s i.1
  have hfl : (frees s.2.2).length ≤ s.2.2.length := owned_len s.2.2 (-1)
  have hol := owned_len s.2.2 i.1
  rw [d1]
  simp only [Option.bind_some]
  have hfr : ((frees (gv s i.1).2.2).length : Int) = (frees s.2.2).length + (owned s.2.2 i.1).length := by
    have := filter_two (p := fun x => decide ((fr s.2.2 x).1 = -1)) (q := fun x => decide ((fr s.2.2 x).1 = i.1)) (r := fun x => decide ((fr (gv s i.1).2.2 x).1 = -1)) (rangeI s.2.2.length) (fun x hx => by
      obtain ⟨x0, x1⟩ := mem_rangeI.1 hx
      rw [gv_fr x0 x1]
      by_cases e : (fr s.2.2 x).1 = i.1
      · simp [e]
      · simp [e]) (fun x _ => by simp only [decide_eq_true_eq]; have := hf.1.1; omega)
    unfold frees owned
    rw [hgl]
    omega
  rw [if_neg (by simp), if_neg (by rw [hgl]; simp), if_neg (by rw [hgw]; simp), rUsed_ok (by rw [hgl]; exact hn)]
  simp only [Option.bind_some]
  rw [rUsed_ok hn]
  simp only [Option.bind_some]
  rw [bFrames_ok h (by omega) (by omega)]
  simp only [Option.bind_some]
  rw [w64_id (by omega) (by omega), hgl, if_neg (by omega), VS.valid hv]
  simp only [Option.bind_some]
  rw [if_neg (by simp)]
  refine loopO_run s.2.2.length (fun k hk => ?_) (by rw [if_neg (by omega)])
  have g1 : gl (0, 0, 0) s.2.2 (k : Int).toNat = fr s.2.2 k := rfl
  have g2 : gl (0, 0, 0) (gv s i.1).2.2 (k : Int).toNat = fr (gv s i.1).2.2 k := rfl
  rw [if_pos (by omega), if_pos (by omega), g1, g2, gv_fr (by omega) (by omega), w64_id (e := (k : Int) + 1) (by omega) (by omega)]
  by_cases e : (fr s.2.2 k).1 = i.1
  · rw [if_pos e, if_pos (by omega), if_pos e, if_neg (by simp)]
  · rw [if_neg e, if_pos (by omega), if_neg e, if_neg (by simp [allB]), if_pos trivial]
    obtain ⟨z1, z2, z3, z4⟩ := blk_bounds h hk
    obtain ⟨q1, q2⟩ := sz_le h.sh
    rw [pow_sz h.sh, ← z1, ← z2, w64_id (e := ((k * (sz s.1).toNat : Nat) : Int)) (by omega) (by omega), w64_id (e := (((k + 1) * (sz s.1).toNat : Nat) : Int)) (by omega) (by omega)]
    refine loopO_to (fun m (a : Int) => a = ((((k + 1) * (sz s.1).toNat : Nat) : Int)) - m ∧ m ≤ (sz s.1).toNat) (n := (sz s.1).toNat) ?_ ⟨by omega, by omega⟩
    rintro m a ⟨r1, r2⟩
    rw [if_pos trivial]
    by_cases hm0 : m = 0
    · left; rw [if_neg (by omega)]
    · right
      rw [if_pos (by omega), if_pos (by rw [hgw]; omega), if_pos (by omega)]
      have hae : ((a.toNat : Int)) / sz s.1 = k := by
        have t1 := (Int.le_ediv_iff_mul_le (a := (k : Int)) (b := (a.toNat : Int)) (sz_pos' s.1)).2 (by omega)
        have t2 := (Int.ediv_lt_iff_lt_mul (a := (a.toNat : Int)) (b := (k : Int) + 1) (sz_pos' s.1)).2 (by omega)
        omega
      rw [gv_gl h (by omega), hae, if_neg e, if_neg (by simp), w64_id (by omega) (by omega)]
      exact ⟨m - 1, _, by omega, rfl, by omega, by omega⟩

theorem list3 {l : List Inc} (h : l.length = 3) : ∃ a b c, l = [a, b, c] := by
  match l, h with
  | [a, b, c], _ => exact ⟨a, b, c, rfl⟩
theorem law_BumpApart (y0 : List Int) (w0 : Wf (.slice (.int .i64)) y0) : Fbeltwaylaw09_BumpApart y0 = some true := by
  unfold Fbeltwaylaw09_BumpApart
  rw [Few_ok]
  simp only [Option.bind_some]
  by_cases hfew : (y0.length : Int) ≤ 400
  rotate_left
  · rw [if_pos (by simp; omega), awake_ok]; rfl
  rw [if_neg (by simp; omega)]
  obtain ⟨d, e1, hd⟩ := New0_ok y0 w0.1
  rw [e1]
  simp only [Option.bind_some]
  have v0 := VS.new (s := 3) (n := 24) (by omega) (by omega)
  have hfree : ∀ x : Int, 0 ≤ x → x < (List.replicate (24 : Int).toNat ((-1, -1, -1) : Fr)).length → (fr (List.replicate (24 : Int).toNat (-1, -1, -1)) x).1 = -1 := by
    intro x x0 x1
    rw [List.length_replicate] at x1
    have : fr (List.replicate (24 : Int).toNat (-1, -1, -1)) x = (-1, -1, -1) := gl_rep (by omega)
    rw [this]
  rw [rNew_ok (s := 3) (n := 24) (by omega) (by omega)]
  simp only [Option.bind_some]
  rw [if_neg (by simp)]
  refine (loopO_up (fun k (st : Int × (List Int × Int) × Sp × List Inc) => st.1 = (k : Int) ∧ DkOk st.2.1 ∧ VS st.2.2.1 ∧ st.2.2.1.1 = 3 ∧ st.2.2.2.length = 3 ∧
      (∀ m, m < 3 → FitS st.2.2.1 (gl (0, 0, 0, 0, 0) st.2.2.2 m) ∧ (gl (0, 0, 0, 0, 0) st.2.2.2 m).1 = (m : Int) + 1 ∧ ((gl (0, 0, 0, 0, 0) st.2.2.2 m).2.2.2.2 = 0 → owned st.2.2.1.2.2 ((m : Int) + 1) = []))) (fun b => b = true) 30 ?_ ?_
      (s := ((0 : Int), d, (3, List.replicate (24 * sz 3).toNat 0#64, List.replicate (24 : Int).toNat (-1, -1, -1)), [(1, 0, -1, -1, 0), (2, 1, -1, -1, 0), (3, 1, -1, -1, 0)])) ⟨rfl, hd, v0, rfl, rfl, ?_⟩).elim fun b hb => by rw [hb.1, hb.2]
  · rintro k ⟨i, dk, s, q⟩ hk ⟨h1, h2, h, h3, h4, h5⟩
    simp only at h1 h2 h h3 h4 h5 ⊢
    subst h1
    have hwl := VS.wlen h
    have hn := h.n.2
    rw [if_pos (by omega), Left_ok]
    simp only [Option.bind_some]
    by_cases hl : dk.2 < (dk.1.length : Int)
    rotate_left
    · rw [if_neg (by simpa using hl), awake_ok]; exact .inr ⟨_, rfl, rfl⟩
    rw [if_pos (by simpa using hl)]
    obtain ⟨n, dk1, e3, n0, n1, hdk1⟩ := Next_ok h2 (n := 3) (by omega) (by omega)
    rw [e3]
    simp only [Option.bind_some]
    obtain ⟨x, dk2, e4, x0, x1, hdk2⟩ := Next_ok hdk1 (n := 20) (by omega) (by omega)
    rw [if_pos (by omega), e4]
    simp only [Option.bind_some]
    obtain ⟨hf, hq, hz⟩ := h5 n.toNat (by omega)
    have hnn : ((n.toNat : Nat) : Int) = n := by omega
    rw [hnn] at hq hz
    have iw0 := hf.1.2.2.2.2.1
    generalize hii : gl ((0, 0, 0, 0, 0) : Inc) q n.toNat = ii at hf hq hz iw0 ⊢
    rw [show (ii.1, ii.2.1, ii.2.2.1, ii.2.2.2) = ii from rfl, w64_id (e := 1 + x) (by omega) (by omega)]
    rcases bAlloc_ok h.stI ii (1 + x) with ⟨c, _⟩ | ⟨_, ⟨c1, c2, _⟩ | ⟨_, ⟨c1, c2⟩ | ⟨_, t, j, a, l, l', c2, g⟩⟩⟩
    · exact absurd ⟨h, hf, by omega, by omega⟩ c
    · rw [hq] at c2; exact absurd (hz c1) c2
    · right
      rw [c2]
      simp only [Option.bind_some]
      rw [if_pos (by decide), if_pos trivial, awake_ok]
      exact ⟨_, rfl, rfl⟩
    · left
      rw [c2]
      simp only [Option.bind_some]
      have hsz : sz t.1 = sz s.1 := by rw [g.sh]
      have hs8 : sz s.1 = 8 := by rw [h3]; rfl
      obtain ⟨r0, r1, r2⟩ := adl_range g.vs g.path iw0 (by rw [hsz]; exact g.adr)
      rw [hsz, hs8] at r2
      obtain ⟨r3, r4⟩ := g.path.mem r2
      have hown := (g.vs.owner g.path _ r2).1
      have hfo : (fr t.2.2 j.2.2.1).1 = ii.1 := by
        rcases g.fit.2 with ⟨q1, _⟩ | ⟨_, _, q1, _⟩
        · have := g.words; omega
        · rw [q1, g.seq]
      rw [hfo] at hown
      have gfr : gl (0, 0, 0) t.2.2 (a / 8).toNat = fr t.2.2 (a / 8) := rfl
      rw [if_neg (by simp), if_pos trivial, if_neg (by omega), show (2 : Int) ^ min (3#64).toNat 64 = 8 from by decide, if_neg (by omega), if_pos ⟨r3, r4⟩, if_pos (by omega), gfr, if_neg (by rw [hown]; simp), if_pos (by omega), w64_id (e := (k : Int) + 1) (by omega) (by omega)]
      have h5' : ∀ m, m < 3 → FitS t (gl (0, 0, 0, 0, 0) (q.set n.toNat j) m) ∧ (gl (0, 0, 0, 0, 0) (q.set n.toNat j) m).1 = (m : Int) + 1 ∧ ((gl (0, 0, 0, 0, 0) (q.set n.toNat j) m).2.2.2.2 = 0 → owned t.2.2 ((m : Int) + 1) = []) := by
        intro m hm
        rw [gl_set (by omega)]
        by_cases e : m = n.toNat
        · rw [if_pos e]
          have := g.words
          exact ⟨g.fit, by rw [g.seq, hq]; omega, fun hw => by omega⟩
        · rw [if_neg e]
          obtain ⟨p1, p2, p3⟩ := h5 m hm
          refine ⟨(g.other h p1 (by rw [p2, hq]; omega)).1, p2, fun hw => ?_⟩
          rw [g.oth _ (by rw [hq]; omega) (by omega)]
          exact p3 hw
      refine ⟨((k : Int) + 1, dk2, t, q.set n.toNat j), ?_, by simp only; omega, hdk2, g.vs, by rw [g.sh]; exact h3, by simpa using h4, h5'⟩
      refine loopO_run 3 (fun m hm => ?_) ?_
      · rw [if_pos (by simp; omega), if_pos ⟨by omega, by simp; omega⟩]
        obtain ⟨p1, _⟩ := h5' m hm
        rw [show (m : Int).toNat = m from rfl]
        generalize gl ((0, 0, 0, 0, 0) : Inc) (q.set n.toNat j) m = p at p1 ⊢
        obtain ⟨b, b1, b2⟩ := rIncValid_ok t p
        rw [show (p.1, p.2.1, p.2.2.1, p.2.2.2) = p from rfl, b1, b2.2 ⟨g.vs, p1⟩]
        simp only [Option.bind_some]
        rw [if_neg (by simp), w64_id (by omega) (by omega)]
      · rw [if_neg (by simp; omega)]
  · rintro ⟨i, dk, s, q⟩ ⟨h1, _⟩
    simp only at h1 ⊢
    rw [if_neg (by omega), awake_ok]
    exact ⟨_, rfl, rfl⟩
  · intro m hm
    have : m = 0 ∨ m = 1 ∨ m = 2 := by omega
    rcases this with rfl | rfl | rfl
    · exact ⟨fit0 _ (q := 1) (b := 0) (by omega) (by omega) (by omega) (by omega), rfl, fun _ => frees_all hfree _ (by decide)⟩
    · exact ⟨fit0 _ (q := 2) (b := 1) (by omega) (by omega) (by omega) (by omega), rfl, fun _ => frees_all hfree _ (by decide)⟩
    · exact ⟨fit0 _ (q := 3) (b := 1) (by omega) (by omega) (by omega) (by omega), rfl, fun _ => frees_all hfree _ (by decide)⟩
namespace bumpWastes
open Go.ChangeShapes Go.WideShapes Go.ChangeAt Go.RowKit Go.V3
set_option linter.unusedVariables false
theorem own : ownKnob Tryd.prog.godebug = none := by kernel_rfl
theorem laidOut : laidOutB Tryd.prog = true := by kernel_rfl
theorem door_met (os : Os) (args : Array Value) : laidMetH Tryd.prog [("math/bits.deBruijn64tab", Rows.laid_math_bits_deBruijn64tab)] ((World.doorLaid Tryd.prog 4000 os).forCall (fun _ _ => 0) ⟨#[], args, []⟩).memory :=
  laidMetH_of_parts3 (fuel := 8) (laidMet_of_run' 8 (by kernel_rfl) (by kernel_rfl)) (by kernel_rfl) (by kernel_rfl)
set_option maxRecDepth 100000 in
theorem lifted (os : Os) (started : os.Started) (H : Type) (enc : TypeId × Value → H) :
    ReturnsInHanded {} Tryd.checked os 4 .any (fun w args => (Rows.bumpWastesSpec.pre enc Tryd.prog Tryd.f4 [] false w args ∧ laidMetH Tryd.prog [("math/bits.deBruijn64tab", Rows.laid_math_bits_deBruijn64tab)] w) ∧ sizedMet enc Tryd.prog Tryd.f4 (OpenSpec.ofChange Rows.bumpWastesSpec) false w args) (Rows.bumpWastesSpec.post enc Tryd.prog Tryd.f4 false true false false) := by
  refine returnsInHanded_of_change_and (C := Tryd.checked) (X := fun w _ => laidMetH Tryd.prog [("math/bits.deBruijn64tab", Rows.laid_math_bits_deBruijn64tab)] w) (fun _ _ _ hh h => h.of_heap hh) own started (by kernel_rfl) Tryd.func4
    (ChangeSpec.witness_shaped (enc := enc) (C := Tryd.checked) (os := os) (X := fun w _ => laidMetH Tryd.prog [("math/bits.deBruijn64tab", Rows.laid_math_bits_deBruijn64tab)] w) false (World.doorLaid Tryd.prog 4000 os) #[.slice none 0 0, .int .i64 0, .int .i64 0] 8 rfl (World.shaped_of_RefB (by kernel_rfl) (by kernel_rfl)) (by kernel_rfl) (by kernel_rfl) (by kernel_rfl) (door_met os _)) ?_
  intro W base args ds gs before hval0 hW _ _ hL _
  have hT : TabW tabs W := by
    intro q hq
    simp only [tabs, List.mem_cons, List.not_mem_nil, or_false] at hq
    subst hq
    exact tab_of_laid (t := 92) hL (by kernel_rfl) (e := 5) (k := .u8) (len := 64) (by kernel_rfl) (by kernel_rfl) (by kernel_rfl) (by kernel_rfl) (by kernel_rfl) (by kernel_rfl) [0, 1, 56, 2, 57, 49, 28, 3, 61, 58, 42, 50, 38, 29, 17, 4, 62, 47, 59, 36, 45, 43, 51, 22, 53, 39, 33, 30, 24, 18, 12, 5, 63, 55, 48, 27, 60, 41, 37, 16, 46, 35, 44, 21, 52, 32, 23, 11, 54, 26, 40, 15, 34, 20, 31, 10, 25, 14, 19, 9, 13, 8, 7, 6] rfl
  have hval : ∀ (j : Nat) t v, Tryd.f4.params[j]? = some t → args[j]? = some v → Value.okWide Tryd.prog W .any base t v := hval0
  have hW' := hW
  obtain ⟨p, q, hA0, hV, rfl, hfz, hnd⟩ := hW
  have hA : DataW.TrodAll enc Tryd.prog W 0 (fun _ => true) true Tryd.f4.params.toList args.toList ds p := hA0
  rw [Tryd.params4] at hA hval
  obtain ⟨v0, vs0, d0, ds0, p0, q0, hargs, rfl, rfl, h0, r0⟩ := trodAll_cons hA
  obtain ⟨v1, vs1, d1, ds1, p1, q1, rfl, rfl, rfl, h1, r1⟩ := trodAll_cons r0
  obtain ⟨v2, vs2, d2, ds2, p2, q2, rfl, rfl, rfl, h2, r2⟩ := trodAll_cons r1
  obtain ⟨rfl, rfl, rfl⟩ := trodAll_nil r2
  obtain rfl : args = #[v0, v1, v2] := by cases args; simp_all
  obtain ⟨rfl, rfl⟩ := trodVars_none hV
  have k0 := h0
  have lt0 : ∀ x ∈ p0, x.block < W.heap.size := by obtain ⟨m, hm⟩ := k0; exact DataW.trod_lt m _ _ _ hm
  obtain ⟨y0, R0, w0⟩ := handed 40 (.slice (.int .i64)) (by kernel_rfl) (hval 0 28 v0 rfl rfl) k0
  have k1 := h1
  have lt1 : ∀ x ∈ p1, x.block < W.heap.size := by obtain ⟨m, hm⟩ := k1; exact DataW.trod_lt m _ _ _ hm
  obtain ⟨y1, R1, w1⟩ := handed 40 (.int .i64) (by kernel_rfl) (hval 1 3 v1 rfl rfl) k1
  have k2 := h2
  have lt2 : ∀ x ∈ p2, x.block < W.heap.size := by obtain ⟨m, hm⟩ := k2; exact DataW.trod_lt m _ _ _ hm
  obtain ⟨y2, R2, w2⟩ := handed 40 (.int .i64) (by kernel_rfl) (hval 2 3 v2 rfl rfl) k2
  have A3 := Args.nil W
  obtain ⟨m2, A2⟩ := A3.cons (t := (.int .i64)) (.inr ⟨rfl, plainForm (t := 3) rfl (hval 2 3 v2 rfl rfl)⟩) y2 R2
  obtain ⟨m1, A1⟩ := A2.cons (t := (.int .i64)) (.inr ⟨rfl, plainForm (t := 3) rfl (hval 1 3 v1 rfl rfl)⟩) y1 R1
  obtain ⟨m0, A0⟩ := A1.cons (t := (.slice (.int .i64))) (.inr ⟨rfl, plainForm (t := 28) rfl (hval 0 28 v0 rfl rfl)⟩) y0 R0
  refine (law_args (fi := iFbeltwaylaw09_BumpWastes) okFbeltwaylaw09_BumpWastes hT (r := (true : Bool)) (vals := #[v0, v1, v2]) (w := W) A0 (law_BumpWastes y0 w0 y1 (i64_of_wf w1) y2 (i64_of_wf w2)) (fun _ => rfl)).mono fun e W' ⟨he, bel⟩ => ?_
  subst he
  simp only [List.append_nil] at hW'
  exact ⟨_, rfl, _, _, _, [], _, [], hW', trodAll_mk1 (shut_bool Tryd.underlying4 _), (trodAll_cons_mk (Below.trod laidOut (by kernel_rfl) (of_decide_eq_true (by kernel_rfl)) k0 bel lt0) (trodAll_cons_mk (Below.trod laidOut (by kernel_rfl) (of_decide_eq_true (by kernel_rfl)) k1 bel lt1) (trodAll_cons_mk (Below.trod laidOut (by kernel_rfl) (of_decide_eq_true (by kernel_rfl)) k2 bel lt2) trodAll_mk0))), rfl, bel.frame _, fun h => by cases h⟩
theorem proved : Rows.BumpWastesSaid :=
  OpenClaim.holds_of_wide 4 Tryd.f4 rfl rfl rfl rfl rfl rfl rfl ⟨rfl, rfl, rfl, rfl, rfl⟩ rfl rfl rfl rfl rfl (by kernel_rfl) Tryd.func4 (by kernel_rfl)
    (of_decide_eq_true (by kernel_rfl)) (by unfold Func.isWrapper; first | (rw [if_pos (by decide +kernel)]; kernel_rfl) | (rw [if_neg (by decide +kernel)]; exact ⟨rfl, rfl⟩))
    (fun os started H enc _ => lifted os started H enc)
theorem card : Rows.BumpWastesCardSaid :=
  Claim7.holds_tied_plain_at .later [] [.data] true (true, "3127a7bbc4ffdb061a7b6f3081f927355dd740ad841135f426207b3137d35892") false proved (fun _ h => by cases h) (by kernel_rfl) (fun _ h => by cases h) bumpWastes_row_tie rfl ⟨rfl, rfl⟩ (by kernel_rfl) rfl
    (fun f fn hf hfn => by
      obtain rfl : f = 4 := Option.some.inj ((show Tryd.prog.funcNamed "beltway/beltwaylaw09.BumpWastes" = some 4 by kernel_rfl).symm.trans hf) |>.symm
      obtain rfl : fn = Tryd.f4 := (Option.some.inj (Tryd.func4.symm.trans hfn)).symm
      exact ⟨by kernel_rfl, fun j t ht => by
        rw [Tryd.params4] at ht
        have hm : t ∈ [28, 3, 3] := by simpa using Array.mem_of_getElem? ht
        have hall : ([28, 3, 3].all fun u => !Tryd.prog.wantsStandIn u) = true := by kernel_rfl
        exact (show Tryd.prog.wantsStandIn t = false by simpa using List.all_eq_true.1 hall t hm)⟩)
    (by kernel_rfl)
end bumpWastes
namespace bumpDrops
open Go.ChangeShapes Go.WideShapes Go.ChangeAt Go.RowKit Go.V3
set_option linter.unusedVariables false
theorem own : ownKnob Tryd.prog.godebug = none := by kernel_rfl
theorem laidOut : laidOutB Tryd.prog = true := by kernel_rfl
theorem door_met (os : Os) (args : Array Value) : laidMetH Tryd.prog [("math/bits.deBruijn64tab", Rows.laid_math_bits_deBruijn64tab)] ((World.doorLaid Tryd.prog 4000 os).forCall (fun _ _ => 0) ⟨#[], args, []⟩).memory :=
  laidMetH_of_parts3 (fuel := 8) (laidMet_of_run' 8 (by kernel_rfl) (by kernel_rfl)) (by kernel_rfl) (by kernel_rfl)
set_option maxRecDepth 100000 in
theorem lifted (os : Os) (started : os.Started) (H : Type) (enc : TypeId × Value → H) :
    ReturnsInHanded {} Tryd.checked os 7 .any (fun w args => (Rows.bumpDropsSpec.pre enc Tryd.prog Tryd.f7 [] false w args ∧ laidMetH Tryd.prog [("math/bits.deBruijn64tab", Rows.laid_math_bits_deBruijn64tab)] w) ∧ sizedMet enc Tryd.prog Tryd.f7 (OpenSpec.ofChange Rows.bumpDropsSpec) false w args) (Rows.bumpDropsSpec.post enc Tryd.prog Tryd.f7 false true false false) := by
  refine returnsInHanded_of_change_and (C := Tryd.checked) (X := fun w _ => laidMetH Tryd.prog [("math/bits.deBruijn64tab", Rows.laid_math_bits_deBruijn64tab)] w) (fun _ _ _ hh h => h.of_heap hh) own started (by kernel_rfl) Tryd.func7
    (ChangeSpec.witness_shaped (enc := enc) (C := Tryd.checked) (os := os) (X := fun w _ => laidMetH Tryd.prog [("math/bits.deBruijn64tab", Rows.laid_math_bits_deBruijn64tab)] w) false (World.doorLaid Tryd.prog 4000 os) #[.slice none 0 0, .int .i64 0] 8 rfl (World.shaped_of_RefB (by kernel_rfl) (by kernel_rfl)) (by kernel_rfl) (by kernel_rfl) (by kernel_rfl) (door_met os _)) ?_
  intro W base args ds gs before hval0 hW _ _ hL _
  have hT : TabW tabs W := by
    intro q hq
    simp only [tabs, List.mem_cons, List.not_mem_nil, or_false] at hq
    subst hq
    exact tab_of_laid (t := 92) hL (by kernel_rfl) (e := 5) (k := .u8) (len := 64) (by kernel_rfl) (by kernel_rfl) (by kernel_rfl) (by kernel_rfl) (by kernel_rfl) (by kernel_rfl) [0, 1, 56, 2, 57, 49, 28, 3, 61, 58, 42, 50, 38, 29, 17, 4, 62, 47, 59, 36, 45, 43, 51, 22, 53, 39, 33, 30, 24, 18, 12, 5, 63, 55, 48, 27, 60, 41, 37, 16, 46, 35, 44, 21, 52, 32, 23, 11, 54, 26, 40, 15, 34, 20, 31, 10, 25, 14, 19, 9, 13, 8, 7, 6] rfl
  have hval : ∀ (j : Nat) t v, Tryd.f7.params[j]? = some t → args[j]? = some v → Value.okWide Tryd.prog W .any base t v := hval0
  have hW' := hW
  obtain ⟨p, q, hA0, hV, rfl, hfz, hnd⟩ := hW
  have hA : DataW.TrodAll enc Tryd.prog W 0 (fun _ => true) true Tryd.f7.params.toList args.toList ds p := hA0
  rw [Tryd.params7] at hA hval
  obtain ⟨v0, vs0, d0, ds0, p0, q0, hargs, rfl, rfl, h0, r0⟩ := trodAll_cons hA
  obtain ⟨v1, vs1, d1, ds1, p1, q1, rfl, rfl, rfl, h1, r1⟩ := trodAll_cons r0
  obtain ⟨rfl, rfl, rfl⟩ := trodAll_nil r1
  obtain rfl : args = #[v0, v1] := by cases args; simp_all
  obtain ⟨rfl, rfl⟩ := trodVars_none hV
  have k0 := h0
  have lt0 : ∀ x ∈ p0, x.block < W.heap.size := by obtain ⟨m, hm⟩ := k0; exact DataW.trod_lt m _ _ _ hm
  obtain ⟨y0, R0, w0⟩ := handed 40 (.slice (.int .i64)) (by kernel_rfl) (hval 0 28 v0 rfl rfl) k0
  have k1 := h1
  have lt1 : ∀ x ∈ p1, x.block < W.heap.size := by obtain ⟨m, hm⟩ := k1; exact DataW.trod_lt m _ _ _ hm
  obtain ⟨y1, R1, w1⟩ := handed 40 (.int .i64) (by kernel_rfl) (hval 1 3 v1 rfl rfl) k1
  have A2 := Args.nil W
  obtain ⟨m1, A1⟩ := A2.cons (t := (.int .i64)) (.inr ⟨rfl, plainForm (t := 3) rfl (hval 1 3 v1 rfl rfl)⟩) y1 R1
  obtain ⟨m0, A0⟩ := A1.cons (t := (.slice (.int .i64))) (.inr ⟨rfl, plainForm (t := 28) rfl (hval 0 28 v0 rfl rfl)⟩) y0 R0
  refine (law_args (fi := iFbeltwaylaw09_BumpDrops) okFbeltwaylaw09_BumpDrops hT (r := (true : Bool)) (vals := #[v0, v1]) (w := W) A0 (law_BumpDrops y0 w0 y1 (i64_of_wf w1)) (fun _ => rfl)).mono fun e W' ⟨he, bel⟩ => ?_
  subst he
  simp only [List.append_nil] at hW'
  exact ⟨_, rfl, _, _, _, [], _, [], hW', trodAll_mk1 (shut_bool Tryd.underlying4 _), (trodAll_cons_mk (Below.trod laidOut (by kernel_rfl) (of_decide_eq_true (by kernel_rfl)) k0 bel lt0) (trodAll_cons_mk (Below.trod laidOut (by kernel_rfl) (of_decide_eq_true (by kernel_rfl)) k1 bel lt1) trodAll_mk0)), rfl, bel.frame _, fun h => by cases h⟩
theorem proved : Rows.BumpDropsSaid :=
  OpenClaim.holds_of_wide 7 Tryd.f7 rfl rfl rfl rfl rfl rfl rfl ⟨rfl, rfl, rfl, rfl, rfl⟩ rfl rfl rfl rfl rfl (by kernel_rfl) Tryd.func7 (by kernel_rfl)
    (of_decide_eq_true (by kernel_rfl)) (by unfold Func.isWrapper; first | (rw [if_pos (by decide +kernel)]; kernel_rfl) | (rw [if_neg (by decide +kernel)]; exact ⟨rfl, rfl⟩))
    (fun os started H enc _ => lifted os started H enc)
theorem card : Rows.BumpDropsCardSaid :=
  Claim7.holds_tied_plain_at .later [] [.data] true (true, "3127a7bbc4ffdb061a7b6f3081f927355dd740ad841135f426207b3137d35892") false proved (fun _ h => by cases h) (by kernel_rfl) (fun _ h => by cases h) bumpDrops_row_tie rfl ⟨rfl, rfl⟩ (by kernel_rfl) rfl
    (fun f fn hf hfn => by
      obtain rfl : f = 7 := Option.some.inj ((show Tryd.prog.funcNamed "beltway/beltwaylaw09.BumpDrops" = some 7 by kernel_rfl).symm.trans hf) |>.symm
      obtain rfl : fn = Tryd.f7 := (Option.some.inj (Tryd.func7.symm.trans hfn)).symm
      exact ⟨by kernel_rfl, fun j t ht => by
        rw [Tryd.params7] at ht
        have hm : t ∈ [28, 3] := by simpa using Array.mem_of_getElem? ht
        have hall : ([28, 3].all fun u => !Tryd.prog.wantsStandIn u) = true := by kernel_rfl
        exact (show Tryd.prog.wantsStandIn t = false by simpa using List.all_eq_true.1 hall t hm)⟩)
    (by kernel_rfl)
end bumpDrops
namespace bumpApart
open Go.ChangeShapes Go.WideShapes Go.ChangeAt Go.RowKit Go.V3
set_option linter.unusedVariables false
theorem own : ownKnob Tryd.prog.godebug = none := by kernel_rfl
theorem laidOut : laidOutB Tryd.prog = true := by kernel_rfl
theorem door_met (os : Os) (args : Array Value) : laidMetH Tryd.prog [("math/bits.deBruijn64tab", Rows.laid_math_bits_deBruijn64tab)] ((World.doorLaid Tryd.prog 4000 os).forCall (fun _ _ => 0) ⟨#[], args, []⟩).memory :=
  laidMetH_of_parts3 (fuel := 8) (laidMet_of_run' 8 (by kernel_rfl) (by kernel_rfl)) (by kernel_rfl) (by kernel_rfl)
set_option maxRecDepth 100000 in
theorem lifted (os : Os) (started : os.Started) (H : Type) (enc : TypeId × Value → H) :
    ReturnsInHanded {} Tryd.checked os 5 .any (fun w args => (Rows.bumpApartSpec.pre enc Tryd.prog Tryd.f5 [] false w args ∧ laidMetH Tryd.prog [("math/bits.deBruijn64tab", Rows.laid_math_bits_deBruijn64tab)] w) ∧ sizedMet enc Tryd.prog Tryd.f5 (OpenSpec.ofChange Rows.bumpApartSpec) false w args) (Rows.bumpApartSpec.post enc Tryd.prog Tryd.f5 false true false false) := by
  refine returnsInHanded_of_change_and (C := Tryd.checked) (X := fun w _ => laidMetH Tryd.prog [("math/bits.deBruijn64tab", Rows.laid_math_bits_deBruijn64tab)] w) (fun _ _ _ hh h => h.of_heap hh) own started (by kernel_rfl) Tryd.func5
    (ChangeSpec.witness_shaped (enc := enc) (C := Tryd.checked) (os := os) (X := fun w _ => laidMetH Tryd.prog [("math/bits.deBruijn64tab", Rows.laid_math_bits_deBruijn64tab)] w) false (World.doorLaid Tryd.prog 4000 os) #[.slice none 0 0] 8 rfl (World.shaped_of_RefB (by kernel_rfl) (by kernel_rfl)) (by kernel_rfl) (by kernel_rfl) (by kernel_rfl) (door_met os _)) ?_
  intro W base args ds gs before hval0 hW _ _ hL _
  have hT : TabW tabs W := by
    intro q hq
    simp only [tabs, List.mem_cons, List.not_mem_nil, or_false] at hq
    subst hq
    exact tab_of_laid (t := 92) hL (by kernel_rfl) (e := 5) (k := .u8) (len := 64) (by kernel_rfl) (by kernel_rfl) (by kernel_rfl) (by kernel_rfl) (by kernel_rfl) (by kernel_rfl) [0, 1, 56, 2, 57, 49, 28, 3, 61, 58, 42, 50, 38, 29, 17, 4, 62, 47, 59, 36, 45, 43, 51, 22, 53, 39, 33, 30, 24, 18, 12, 5, 63, 55, 48, 27, 60, 41, 37, 16, 46, 35, 44, 21, 52, 32, 23, 11, 54, 26, 40, 15, 34, 20, 31, 10, 25, 14, 19, 9, 13, 8, 7, 6] rfl
  have hval : ∀ (j : Nat) t v, Tryd.f5.params[j]? = some t → args[j]? = some v → Value.okWide Tryd.prog W .any base t v := hval0
  have hW' := hW
  obtain ⟨p, q, hA0, hV, rfl, hfz, hnd⟩ := hW
  have hA : DataW.TrodAll enc Tryd.prog W 0 (fun _ => true) true Tryd.f5.params.toList args.toList ds p := hA0
  rw [Tryd.params5] at hA hval
  obtain ⟨v0, vs0, d0, ds0, p0, q0, hargs, rfl, rfl, h0, r0⟩ := trodAll_cons hA
  obtain ⟨rfl, rfl, rfl⟩ := trodAll_nil r0
  obtain rfl : args = #[v0] := by cases args; simp_all
  obtain ⟨rfl, rfl⟩ := trodVars_none hV
  have k0 := h0
  have lt0 : ∀ x ∈ p0, x.block < W.heap.size := by obtain ⟨m, hm⟩ := k0; exact DataW.trod_lt m _ _ _ hm
  obtain ⟨y0, R0, w0⟩ := handed 40 (.slice (.int .i64)) (by kernel_rfl) (hval 0 28 v0 rfl rfl) k0
  have A1 := Args.nil W
  obtain ⟨m0, A0⟩ := A1.cons (t := (.slice (.int .i64))) (.inr ⟨rfl, plainForm (t := 28) rfl (hval 0 28 v0 rfl rfl)⟩) y0 R0
  refine (law_args (fi := iFbeltwaylaw09_BumpApart) okFbeltwaylaw09_BumpApart hT (r := (true : Bool)) (vals := #[v0]) (w := W) A0 (law_BumpApart y0 w0) (fun _ => rfl)).mono fun e W' ⟨he, bel⟩ => ?_
  subst he
  simp only [List.append_nil] at hW'
  exact ⟨_, rfl, _, _, _, [], _, [], hW', trodAll_mk1 (shut_bool Tryd.underlying4 _), (trodAll_cons_mk (Below.trod laidOut (by kernel_rfl) (of_decide_eq_true (by kernel_rfl)) k0 bel lt0) trodAll_mk0), rfl, bel.frame _, fun h => by cases h⟩
theorem proved : Rows.BumpApartSaid :=
  OpenClaim.holds_of_wide 5 Tryd.f5 rfl rfl rfl rfl rfl rfl rfl ⟨rfl, rfl, rfl, rfl, rfl⟩ rfl rfl rfl rfl rfl (by kernel_rfl) Tryd.func5 (by kernel_rfl)
    (of_decide_eq_true (by kernel_rfl)) (by unfold Func.isWrapper; first | (rw [if_pos (by decide +kernel)]; kernel_rfl) | (rw [if_neg (by decide +kernel)]; exact ⟨rfl, rfl⟩))
    (fun os started H enc _ => lifted os started H enc)
theorem card : Rows.BumpApartCardSaid :=
  Claim7.holds_tied_plain_at .later [] [.data] true (true, "3127a7bbc4ffdb061a7b6f3081f927355dd740ad841135f426207b3137d35892") false proved (fun _ h => by cases h) (by kernel_rfl) (fun _ h => by cases h) bumpApart_row_tie rfl ⟨rfl, rfl⟩ (by kernel_rfl) rfl
    (fun f fn hf hfn => by
      obtain rfl : f = 5 := Option.some.inj ((show Tryd.prog.funcNamed "beltway/beltwaylaw09.BumpApart" = some 5 by kernel_rfl).symm.trans hf) |>.symm
      obtain rfl : fn = Tryd.f5 := (Option.some.inj (Tryd.func5.symm.trans hfn)).symm
      exact ⟨by kernel_rfl, fun j t ht => by
        rw [Tryd.params5] at ht
        have hm : t ∈ [28] := by simpa using Array.mem_of_getElem? ht
        have hall : ([28].all fun u => !Tryd.prog.wantsStandIn u) = true := by kernel_rfl
        exact (show Tryd.prog.wantsStandIn t = false by simpa using List.all_eq_true.1 hall t hm)⟩)
    (by kernel_rfl)
end bumpApart
end Go.Proofs.YtjbkmpipccdnhaaDoor
