/-
  Objects are made; spaces with increments full of objects (mk.Space).
-/
import Derived.Test.YtokeceeccmgcmaaDoorSpE
set_option linter.unusedVariables false
namespace Go.Proofs.YtokeceeccmgcmaaDoor
open Go Go.V3

theorem adl_mem {z : Int} (hz : 0 < z) : ∀ {l : List Int} {off a : Int}, 0 ≤ off → adl z l off = some a → a / z ∈ l
  | [], _, _, _, h => by cases h
  | g :: r, off, a, h0, h => by
    rw [adl] at h
    split at h
    · rename_i h1
      simp only [Option.some.injEq] at h
      subst h
      rw [(addr_frame hz h0 h1).1]; simp
    · exact List.mem_cons_of_mem _ (adl_mem hz (by omega) h)
theorem adl_inj {z : Int} (hz : 0 < z) : ∀ {l : List Int} {o1 o2 a : Int}, l.Nodup → 0 ≤ o1 → 0 ≤ o2 → adl z l o1 = some a → adl z l o2 = some a → o1 = o2
  | [], _, _, _, _, _, _, h, _ => by cases h
  | g :: r, o1, o2, a, hd, h1, h2, e1, e2 => by
    obtain ⟨n1, n2⟩ := List.nodup_cons.1 hd
    rw [adl] at e1 e2
    by_cases c1 : o1 < z
    · rw [if_pos c1] at e1
      simp only [Option.some.injEq] at e1
      by_cases c2 : o2 < z
      · rw [if_pos c2] at e2
        simp only [Option.some.injEq] at e2
        omega
      · rw [if_neg c2] at e2
        have := adl_mem hz (by omega) e2
        rw [← e1, (addr_frame hz h1 c1).1] at this
        exact absurd this n1
    · rw [if_neg c1] at e1
      by_cases c2 : o2 < z
      · rw [if_pos c2] at e2
        simp only [Option.some.injEq] at e2
        have := adl_mem hz (by omega) e1
        rw [← e2, (addr_frame hz h2 c2).1] at this
        exact absurd this n1
      · rw [if_neg c2] at e2
        have := adl_inj hz n2 (by omega) (by omega) e1 e2
        omega

theorem nodup_sub : ∀ {l m : List Int}, l.Nodup → (∀ x ∈ l, x ∈ m) → l.length ≤ m.length
  | [], _, _, _ => by simp
  | a :: r, m, hd, h => by
    obtain ⟨n1, n2⟩ := List.nodup_cons.1 hd
    have ha := h a (by simp)
    have := nodup_sub (m := m.erase a) n2 (fun x hx => (List.mem_erase_of_ne (show x ≠ a from fun e => n1 (e ▸ hx))).2 (h x (by simp [hx])))
    rw [List.length_erase_of_mem ha] at this
    have : 0 < m.length := List.length_pos_of_mem ha
    simp
    omega

/-- The header of an object. -/
def hdr (r d : Int) : BitVec 64 := BitVec.ofInt 64 ((1 + r + d) * 256 + r * 2)
theorem Live_ok {r d : Int} (r0 : 0 ≤ r) (r1 : r ≤ 15) (d0 : 0 ≤ d) (d1 : d ≤ 32) : Fbeltwayref07_Live r d = some (hdr r d, 0) := by
  unfold Fbeltwayref07_Live
  rw [if_neg (by omega), if_neg (by omega), if_neg (by omega), if_neg (by omega), w64_id (e := 1 + r) (by omega) (by omega), w64_id (e := 1 + r + d) (by omega) (by omega), w64_id (e := (1 + r + d) * 256) (by omega) (by omega), w64_id (e := r * 2) (by omega) (by omega), w64_id (by omega) (by omega)]
  rfl

/-- What is written when an object of m fields is made at a place of a chain. -/
structure Wrote (z : Int) (ws ws' : List (BitVec 64)) (l : List Int) (at' m : Int) (w : BitVec 64) : Prop where
  len : ws'.length = ws.length
  head : ∀ x, adl z l at' = some x → gl 0#64 ws' x.toNat = w
  fld : ∀ k x, 1 ≤ k → k ≤ m → adl z l (at' + k) = some x → gl 0#64 ws' x.toNat = 0#64
  oth : ∀ x : Nat, (∀ k, 0 ≤ k → k ≤ m → adl z l (at' + k) ≠ some (x : Int)) → gl 0#64 ws' x = gl 0#64 ws x

theorem Make_ok {s : Sp} (h : VS s) {a r d : Int} (a0 : 0 ≤ a) (a1 : a < s.2.1.length) (hu : (fr s.2.2 (a / sz s.1)).1 ≠ -1) {l : List Int} (hl : Pa s.2.2 (a / sz s.1) l)
    (r0 : 0 ≤ r) (r1 : r ≤ 15) (d0 : 0 ≤ d) (d1 : d ≤ 32) {e : Int} (he : adl (sz s.1) l (a % sz s.1 + (r + d)) = some e) :
    ∃ ws, Fbeltwayref08_Make s a r d = some (0, ws, s.2.2) ∧ VS (s.1, ws, s.2.2) ∧ Wrote (sz s.1) s.2.1 ws l (a % sz s.1) (r + d) (hdr r d) := by
  have hwl := VS.wlen h
  have z := sz_pos' s.1
  have m0 := Int.emod_nonneg a (show sz s.1 ≠ 0 by omega)
  have m1 := Int.emod_lt_of_pos a z
  have hlt := adl_lt z (by omega) he
  have hne : l ≠ [] := by rintro rfl; cases he
  have hhead : adl (sz s.1) l (a % sz s.1) = some a := by
    cases l with
    | nil => exact absurd rfl hne
    | cons b q =>
      obtain ⟨rfl, _⟩ := hl
      rw [adl, if_pos m1, Int.mul_comm, Int.mul_ediv_add_emod]
  have hpl : ∀ k, 0 ≤ k → k ≤ r + d → ∃ x, adl (sz s.1) l (a % sz s.1 + k) = some x ∧ 0 ≤ x ∧ x < s.2.1.length ∧ (fr s.2.2 (x / sz s.1)).1 ≠ -1 := by
    intro k k0 k1
    obtain ⟨g, hg1, hg2⟩ := adl_some z (l := l) (off := a % sz s.1 + k) (by omega) (by omega)
    have hm := adl_mem z (by omega) hg2
    obtain ⟨x0, x1⟩ := hl.mem hm
    refine ⟨_, hg2, ?_, ?_, ?_⟩
    · have := (Int.le_ediv_iff_mul_le z).1 x0; omega
    · rw [h.w]; exact (Int.ediv_lt_iff_lt_mul z).1 x1
    · rw [(h.owner hl _ hm).1]; exact hu
  unfold Fbeltwayref08_Make
  rw [Live_ok r0 r1 d0 d1, w64_id (e := r + d) (by omega) (by omega)]
  simp only [Option.bind_some]
  rw [if_neg (by simp), Go_ok h a0 a1 hu (by omega) (by omega) hl, he]
  simp only [Option.bind_some, adlR]
  rw [if_neg (by simp), if_pos ⟨a0, a1⟩]
  have hx := loopO_up (β := Int × List (BitVec 64) × List (Int × Int × Int)) (f := fun s1 : Int × List (BitVec 64) =>
      if s1.1 ≤ r + d then
      Option.bind (Fbeltwayref05_Go (s.1, s1.2, s.2.2) a s1.1) (fun r3 =>
      if 0 ≤ r3.1 ∧ r3.1 < (s1.2.length : Int) then
      some (Sum.inl ((w64 (s1.1 + 1), s1.2.set r3.1.toNat (0#64))))
      else none)
      else some (Sum.inr ((0, s1.2, s.2.2))))
    (fun k st => st.1 = (k : Int) + 1 ∧ (k : Int) ≤ r + d ∧ VS (s.1, st.2, s.2.2) ∧ Wrote (sz s.1) s.2.1 st.2 l (a % sz s.1) k (hdr r d))
    (fun b => ∃ ws, b = (0, ws, s.2.2) ∧ VS (s.1, ws, s.2.2) ∧ Wrote (sz s.1) s.2.1 ws l (a % sz s.1) (r + d) (hdr r d)) (r + d).toNat ?_ ?_ (s := (1, s.2.1.set a.toNat (hdr r d)))
    ⟨rfl, by simp; omega, h.word a0 hu _, ?_⟩
  · obtain ⟨b, hb, ws, rfl, h1, h2⟩ := hx
    exact ⟨ws, hb, h1, h2⟩
  · rintro k ⟨q, ws⟩ hk ⟨h1, h2, h3, h4⟩
    simp only at h1 h3 h4 ⊢
    subst h1
    obtain ⟨x, x0, x1, x2, x3⟩ := hpl (k + 1) (by omega) (by omega)
    have hgo := Go_ok h3 (a := a) (k := (k : Int) + 1) a0 (by simp only; rw [h4.len]; exact a1) hu (by omega) (by omega) (l := l) hl
    simp only at hgo
    rw [x0] at hgo
    rw [if_pos (by omega), hgo]
    simp only [Option.bind_some, adlR]
    rw [if_pos ⟨x1, by rw [h4.len]; exact x2⟩, w64_id (by omega) (by omega)]
    refine .inl ⟨_, rfl, by simp only; omega, by omega, h3.word x1 x3 _, by simpa using h4.len, fun y hy => ?_, fun j y j0 j1 hy => ?_, fun y hy => ?_⟩
    · have hxy : y.toNat ≠ x.toNat := by
        intro he
        rw [hhead] at hy
        simp only [Option.some.injEq] at hy
        subst hy
        have : x = a := by omega
        subst this
        have := adl_inj z hl.nodup m0 (by omega) hhead x0
        omega
      rw [gl_set (by rw [h4.len]; omega), if_neg hxy]
      exact h4.head y hy
    · rw [gl_set (by rw [h4.len]; omega)]
      by_cases hjk : j = k + 1
      · subst hjk
        rw [x0] at hy
        simp only [Option.some.injEq] at hy
        rw [if_pos (by rw [hy])]
      · split
        · rfl
        · exact h4.fld j y j0 (by omega) hy
    · rw [gl_set (by rw [h4.len]; omega), if_neg]
      · exact h4.oth y fun j j0 j1 => hy j j0 (by omega)
      · intro he
        exact hy (k + 1) (by omega) (by omega) (by rw [x0]; congr 1; omega)
  · rintro ⟨q, ws⟩ ⟨h1, h2, h3, h4⟩
    simp only at h1 h3 h4 ⊢
    rw [if_neg (by omega)]
    rw [show (((r + d).toNat : Nat) : Int) = r + d from by omega] at h4
    exact ⟨_, rfl, ws, rfl, h3, h4⟩
  · refine ⟨by simp, fun x hx => ?_, fun k x k0 k1 => by simp at k1; omega, fun x hx => ?_⟩
    · rw [hhead] at hx
      simp only [Option.some.injEq] at hx
      subst hx
      rw [gl_set (by omega), if_pos rfl]
    · rw [gl_set (by omega), if_neg]
      rintro rfl
      exact hx 0 (by omega) (by simp) (by rw [Int.add_zero, hhead]; congr 1; omega)

theorem Init_ok {s : Sp} (h : VS s) {a r d : Int} {ws : List (BitVec 64)} (hm : Fbeltwayref08_Make s a r d = some (0, ws, s.2.2)) : Fbeltwayref08_Init s a r d = some ((s.1, ws, s.2.2), 0) := by
  unfold Fbeltwayref08_Init
  rw [VS.valid h, VS.copy h]
  simp only [Option.bind_some]
  rw [if_neg (by simp), hm]
  simp only [Option.bind_some]
  rw [if_neg (by simp)]

/-- Objects that follow each other in a chain. -/
def Tiles (z : Int) (ws : List (BitVec 64)) (l : List Int) : Int → List (Int × Int) → Int → Prop
  | at', [], w => at' = w
  | at', o :: r, w => ((0 ≤ o.1 ∧ o.1 ≤ 15) ∧ (0 ≤ o.2 ∧ o.2 ≤ 32)) ∧ (∃ a, adl z l at' = some a ∧ gl 0#64 ws a.toNat = hdr o.1 o.2) ∧ Tiles z ws l (at' + (1 + o.1 + o.2)) r w
theorem Tiles.le {z : Int} {ws : List (BitVec 64)} {l : List Int} : ∀ {os : List (Int × Int)} {at' w : Int}, Tiles z ws l at' os w → at' ≤ w
  | [], _, _, h => by rw [Tiles] at h; omega
  | o :: r, at', w, h => by have := h.2.2.le; have := h.1; omega
/-- Tiles stay where the heads' words stay. -/
theorem Tiles.keep {z : Int} {ws ws' : List (BitVec 64)} {l l' : List Int} : ∀ {os : List (Int × Int)} {at' w : Int}, Tiles z ws l at' os w → 
    (∀ p a, at' ≤ p → p < w → adl z l p = some a → adl z l' p = some a ∧ gl 0#64 ws' a.toNat = gl 0#64 ws a.toNat) → Tiles z ws' l' at' os w
  | [], _, _, h, _ => h
  | o :: r, at', w, h, hk => by
    obtain ⟨h1, ⟨a, h2, h3⟩, h4⟩ := h
    have := h4.le
    obtain ⟨k1, k2⟩ := hk at' a (by omega) (by omega) h2
    exact ⟨h1, ⟨a, k1, k2.trans h3⟩, h4.keep fun p b p0 p1 hp => hk p b (by omega) p1 hp⟩
theorem Tiles.snoc {z : Int} {ws : List (BitVec 64)} {l : List Int} {r d a : Int} (hr : 0 ≤ r ∧ r ≤ 15) (hd : 0 ≤ d ∧ d ≤ 32) : ∀ {os : List (Int × Int)} {at' w : Int}, Tiles z ws l at' os w → adl z l w = some a → gl 0#64 ws a.toNat = hdr r d →
    Tiles z ws l at' (os ++ [(r, d)]) (w + (1 + r + d))
  | [], at', w, h, ha, hw => by
    rw [Tiles] at h
    subst h
    exact ⟨⟨hr, hd⟩, ⟨a, ha, hw⟩, rfl⟩
  | o :: q, at', w, h, ha, hw => ⟨h.1, h.2.1, h.2.2.snoc hr hd ha hw⟩

/-- An increment of a space, full of objects. -/
def Full (s : Sp) (i : Inc) (os : List (Int × Int)) : Prop := ∃ l, Has s i l ∧ Tiles (sz s.1) s.2.1 l 0 os i.2.2.2.2
/-- Other increments stay as they are when one grows and an object is made in it. -/
theorem Grown.other {s : Sp} {i : Inc} {n : Int} {t : Sp} {j : Inc} {a : Int} {l l' : List Int} (h : VS s) (g : Grown s i n t j a l l') {p : Inc} (hp : FitS s p) (hne : p.1 ≠ i.1) :
    FitS t p ∧ (∀ lp, Has s p lp → Has t p lp ∧ ∀ x ∈ lp, (fr t.2.2 x).1 = p.1) := by
  have hown : ∀ lp, p.2.2.2.2 ≠ 0 → Pa s.2.2 p.2.2.1 lp → (∀ x ∈ lp, fr t.2.2 x = fr s.2.2 x ∧ (fr t.2.2 x).1 = p.1) ∧ Pa t.2.2 p.2.2.1 lp := by
    intro lp hw hpa
    rcases hp.2 with ⟨h1, _⟩ | ⟨_, h2, h3, h4, _⟩
    · exact absurd h1 hw
    · have hx : ∀ x ∈ lp, fr t.2.2 x = fr s.2.2 x ∧ (fr t.2.2 x).1 = p.1 := by
        intro x hx
        obtain ⟨x0, x1⟩ := hpa.mem hx
        have ho := (h.owner hpa x hx).1
        rw [h3] at ho
        have := hp.1.1
        have e := g.frs x x0 x1 (by omega) (by omega)
        exact ⟨e, by rw [e]; exact ho⟩
      refine ⟨hx, hpa.congr' g.len fun x hm => ?_⟩
      obtain ⟨x0, x1⟩ := hpa.mem hm
      rw [nx_in x0 x1, nx_in x0 (by rw [g.len]; exact x1), (hx x hm).1]
  refine ⟨⟨by rw [g.ws]; exact hp.1, ?_⟩, ?_⟩
  · rcases hp.2 with h1 | ⟨h1, h2, h3, h4, lp, h5, h6, h7, h8⟩
    · exact .inl h1
    · obtain ⟨k1, k2⟩ := hown lp h1 h5
      have hne2 : lp ≠ [] := by rintro rfl; simp at h8
      obtain ⟨f0, f1, f2⟩ := Pa.head h5 hne2
      refine .inr ⟨h1, by rw [g.len]; exact h2, ?_, ?_, lp, k2, by rw [g.sh]; exact h6, ?_, h8⟩
      · rw [(k1 _ f2).1]; exact h3
      · rw [(k1 _ f2).1]; exact h4
      · rw [g.oth p.1 hne (by have := hp.1.1; omega)]; exact h7
  · intro lp hlp
    rcases hlp with ⟨h1, rfl⟩ | ⟨h1, h2⟩
    · exact ⟨.inl ⟨h1, rfl⟩, fun x hx => by cases hx⟩
    · obtain ⟨k1, k2⟩ := hown lp h1 h2
      exact ⟨.inr ⟨h1, k2⟩, fun x hx => (k1 x hx).2⟩

/-- All frames of an owner lie in the chain of its increment. -/
theorem owned_all {s : Sp} {i : Inc} (h : VS s) (hf : FitS s i) (hw : i.2.2.2.2 ≠ 0) {x : Int} (hx : x ∈ owned s.2.2 i.1) {l : List Int} (hl : Has s i l) : x ∈ l := by
  rcases hl with ⟨h1, _⟩ | ⟨_, hp⟩
  · exact absurd h1 hw
  rcases hf.2 with ⟨h1, _⟩ | ⟨_, _, h3, _, l2, h5, _, h7, _⟩
  · exact absurd h1 hw
  have := hp.fn h5
  subst this
  apply Classical.byContradiction
  intro hn
  have hsub : ∀ y ∈ l, y ∈ (owned s.2.2 i.1).erase x := by
    intro y hy
    rw [(owned_nodup _ _).mem_erase_iff]
    refine ⟨fun e => hn (e ▸ hy), mem_owned.2 ⟨hp.mem hy, by rw [(h.owner hp y hy).1]; exact h3⟩⟩
  have hle := nodup_sub hp.nodup hsub
  rw [List.length_erase_of_mem hx] at hle
  have : 0 < (owned s.2.2 i.1).length := List.length_pos_of_mem hx
  omega

/-- A space with increments full of objects, and one that is being filled. -/
structure Mk (s : Sp) (l : List (Inc)) (i : Inc) : Prop where
  vs : VS s
  sh : s.1 ≤ 4
  n : s.2.2.length ≤ 10
  fits : ∀ p ∈ l, FitS s p ∧ 0 < p.2.2.2.2 ∧ p.2.1 < 3 ∧ p.1 < i.1 ∧ ∃ os, Full s p os
  cur : FitS s i
  own : i.2.2.2.2 = 0 → owned s.2.2 i.1 = []
  full : ∃ os, Full s i os
  all : ∀ x : Int, 0 ≤ x → x < s.2.2.length → (fr s.2.2 x).1 ≠ -1 → (fr s.2.2 x).1 = i.1 ∨ ∃ p ∈ l, p.1 = (fr s.2.2 x).1

/-- An object is added to an increment: what becomes of space and increment. -/
structure Added (s : Sp) (i : Inc) (r d : Int) (u : Sp) (j : Inc) (a : Int) (l l' : List Int) : Prop where
  grown : Grown s i (1 + r + d) (s.1, s.2.1, u.2.2) j a l l'
  vs : VS u
  sh : u.1 = s.1
  wr : Wrote (sz s.1) s.2.1 u.2.1 l' i.2.2.2.2 (r + d) (hdr r d)
theorem FitS.words {s : Sp} {ws : List (BitVec 64)} {p : Inc} (hl : ws.length = s.2.1.length) (h : FitS s p) : FitS (s.1, ws, s.2.2) p := by
  refine ⟨?_, h.2⟩
  obtain ⟨a, b, c, d, e, f⟩ := h.1
  exact ⟨a, b, c, d, e, by simp only; omega⟩

theorem add_ok {s : Sp} (h : VS s) {i : Inc} {r d : Int} (r0 : 0 ≤ r) (r1 : r ≤ 15) (d0 : 0 ≤ d) (d1 : d ≤ 32) {t : Sp} {j : Inc} {a : Int} {l l' : List Int} (hf : FitS s i) (g : Grown s i (1 + r + d) t j a l l') :
    ∃ u, Fbeltwayref08_Init t a r d = some (u, 0) ∧ Added s i r d u j a l l' := by
  have z := sz_pos' s.1
  have hw := hf.1.2.2.2.2.1
  have hgr : Grown s i (1 + r + d) (s.1, s.2.1, t.2.2) j a l l' := by
    rw [← g.sh, ← g.ws]; exact g
  have hlt := adl_lt z hw g.adr
  obtain ⟨l2, p1, ⟨p2, p3, p4⟩, p5⟩ := adl_step z g.path hw g.adr (Int.le_refl 0)
  have hstep : ∀ k, 0 ≤ k → adl (sz s.1) l2 (a % sz s.1 + k) = adl (sz s.1) l' (i.2.2.2.2 + k) := by
    intro k k0
    obtain ⟨l3, q1, _, q2⟩ := adl_step z g.path hw g.adr k0
    rw [p1.fn q1]; exact q2
  have hc := cl_spec (n := i.2.2.2.2 + (1 + r + d)) z
  rw [← g.len'] at hc
  obtain ⟨_, _, hend⟩ := adl_some z (l := l') (off := i.2.2.2.2 + (r + d)) (by omega) (by omega)
  have hown : ∀ x ∈ l', (fr t.2.2 x).1 = i.1 := by
    intro x hx
    have hfit := g.fit
    have := (g.vs.owner g.path x hx).1
    rcases hfit.2 with ⟨h1, _⟩ | ⟨_, _, h3, _⟩
    · rw [g.words] at h1; omega
    · rw [this, h3, g.seq]
  have hu : (fr t.2.2 (a / sz t.1)).1 ≠ -1 := by
    rw [g.sh, hown _ p4]; have := hf.1.1; omega
  have ha0 : 0 ≤ a := by
    have := (Int.le_ediv_iff_mul_le z).1 p2; omega
  have ha1 : a < t.2.1.length := by
    rw [g.vs.w, g.sh]; exact (Int.ediv_lt_iff_lt_mul z).1 p3
  obtain ⟨ws, h1, h2, h3⟩ := Make_ok g.vs ha0 ha1 hu (l := l2) (by rw [g.sh]; exact p1) r0 r1 d0 d1 (e := _) (by rw [g.sh, hstep _ (by omega)]; exact hend)
  refine ⟨_, Init_ok g.vs h1, hgr, h2, g.sh, ?_⟩
  rw [g.sh, g.ws] at h3
  refine ⟨h3.len, fun x hx => h3.head x ?_, fun k x k0 k1 hx => h3.fld k x k0 k1 (by rw [hstep k (by omega)]; exact hx), fun x hx => h3.oth x fun k k0 k1 => by rw [hstep k k0]; exact hx k k0 k1⟩
  rw [← Int.add_zero (a % sz s.1), hstep 0 (by omega), Int.add_zero]; exact hx

/-- What other increments hold stays. -/
theorem Added.other {s : Sp} {i : Inc} {r d : Int} {u : Sp} {j : Inc} {a : Int} {l l' : List Int} (h : VS s) (hi : FitS s i) (g : Added s i r d u j a l l') {p : Inc} (hp : FitS s p) (hne : p.1 ≠ i.1) :
    FitS u p ∧ (∀ lp, Has s p lp → Has u p lp ∧ ∀ off x, 0 ≤ off → adl (sz s.1) lp off = some x → gl 0#64 u.2.1 x.toNat = gl 0#64 s.2.1 x.toNat) ∧ ∀ os, Full s p os → Full u p os := by
  have z := sz_pos' s.1
  have hlen := g.wr.len
  obtain ⟨k1, k2⟩ := g.grown.other h hp hne
  have hu : u = (s.1, u.2.1, u.2.2) := by rw [← g.sh]
  have hfit : FitS u p := by
    rw [hu]
    exact FitS.words (s := (s.1, s.2.1, u.2.2)) hlen k1
  have hw : ∀ lp, Has s p lp → Has u p lp ∧ ∀ off x, 0 ≤ off → adl (sz s.1) lp off = some x → gl 0#64 u.2.1 x.toNat = gl 0#64 s.2.1 x.toNat := by
    intro lp hlp
    obtain ⟨k3, k4⟩ := k2 lp hlp
    refine ⟨k3, fun off x o0 hx => ?_⟩
    have hm := adl_mem z o0 hx
    have hx0 : 0 ≤ x := by
      have hpa : Pa u.2.2 p.2.2.1 lp := by
        rcases k3 with ⟨_, rfl⟩ | ⟨_, k3⟩
        · cases hm
        · exact k3
      have := (Int.le_ediv_iff_mul_le z).1 (hpa.mem hm).1; omega
    refine g.wr.oth x.toNat fun k q0 q1 he => ?_
    rw [Int.toNat_of_nonneg hx0] at he
    have hm2 := adl_mem z (by have := hi.1.2.2.2.2.1; omega) he
    have o1 := k4 _ hm
    have o2 := (g.grown.vs.owner g.grown.path _ hm2).1
    have o3 : (fr u.2.2 j.2.2.1).1 = j.1 := by
      rcases g.grown.fit.2 with ⟨h1, _⟩ | ⟨_, _, h3, _⟩
      · have := g.grown.words; have := hi.1.2.2.2.2.1; have := g.wr
        have hl := adl_lt z hi.1.2.2.2.2.1 g.grown.adr
        have hl2 := g.grown.len'
        exfalso
        have hpos : l'.length ≠ 0 := by
          intro h0; rw [h0] at hl; simp at hl; omega
        have h7 : i.2.2.2.2 + (1 + r + d) = 0 := by omega
        rw [h7, cl_zero z] at hl2; omega
      · exact h3
    simp only at o2
    rw [o1, o3, g.grown.seq] at o2
    exact hne o2
  refine ⟨hfit, hw, ?_⟩
  rintro os ⟨lp, hlp, ht⟩
  obtain ⟨k3, k4⟩ := hw lp hlp
  refine ⟨lp, k3, ?_⟩
  rw [g.sh]
  exact ht.keep fun q x q0 q1 hq => ⟨hq, k4 q x q0 hq⟩
/-- The increment itself has one object more. -/
theorem Added.self {s : Sp} {i : Inc} {r d : Int} {u : Sp} {j : Inc} {a : Int} {l l' : List Int} (h : VS s) (hi : FitS s i) (r0 : 0 ≤ r) (r1 : r ≤ 15) (d0 : 0 ≤ d) (d1 : d ≤ 32) (g : Added s i r d u j a l l') :
    FitS u j ∧ ∀ os, Full s i os → Full u j (os ++ [(r, d)]) := by
  have z := sz_pos' s.1
  have hu : u = (s.1, u.2.1, u.2.2) := by rw [← g.sh]
  refine ⟨by rw [hu]; exact FitS.words (s := (s.1, s.2.1, u.2.2)) g.wr.len g.grown.fit, ?_⟩
  rintro os ⟨lp, hlp, ht⟩
  have hll : lp = l := by
    rcases hlp with ⟨h1, rfl⟩ | ⟨h1, h2⟩
    · rcases g.grown.has with ⟨_, rfl⟩ | ⟨h3, _⟩
      · rfl
      · exact absurd h1 h3
    · rcases g.grown.has with ⟨h3, _⟩ | ⟨_, h4⟩
      · exact absurd h3 h1
      · exact h2.fn h4
  subst hll
  refine ⟨l', .inr ⟨by rw [g.grown.words]; have := hi.1.2.2.2.2.1; omega, g.grown.path⟩, ?_⟩
  rw [g.sh, g.grown.words]
  refine Tiles.snoc ⟨r0, r1⟩ ⟨d0, d1⟩ (ht.keep fun q x q0 q1 hq => ?_) g.grown.adr (g.wr.head a g.grown.adr)
  have hq' : adl (sz s.1) l' q = some x := by rw [g.grown.more]; exact adl_append hq
  refine ⟨hq', g.wr.oth x.toNat fun k k0 k1 he => ?_⟩
  have hm := adl_mem z q0 hq'
  have hx0 : 0 ≤ x := by have := (Int.le_ediv_iff_mul_le z).1 (g.grown.path.mem hm).1; omega
  rw [Int.toNat_of_nonneg hx0] at he
  have := adl_inj z g.grown.path.nodup (by omega) q0 he hq'
  omega


/-- A space that mk.Space made, and its increments. -/
structure Made (s : Sp) (l : List Inc) : Prop where
  vs : VS s
  sh : s.1 ≤ 4
  n : s.2.2.length ≤ 10
  cnt : l.length ≤ 4
  fits : ∀ p ∈ l, FitS s p ∧ 0 < p.2.2.2.2 ∧ p.2.1 < 3 ∧ p.1 < 15 ∧ ∃ os, Full s p os
  asc : l.Pairwise fun a b => a.1 < b.1
  all : ∀ x : Int, 0 ≤ x → x < s.2.2.length → (fr s.2.2 x).1 ≠ -1 → ∃ p ∈ l, p.1 = (fr s.2.2 x).1

theorem frees_all {fs : List Fr} (h : ∀ x : Int, 0 ≤ x → x < fs.length → (fr fs x).1 = -1) (q : Int) (hq : q ≠ -1) : owned fs q = [] := by
  apply List.eq_nil_iff_forall_not_mem.2
  intro x hx
  obtain ⟨⟨x0, x1⟩, x2⟩ := mem_owned.1 hx
  rw [h x x0 x1] at x2
  exact hq x2.symm

end Go.Proofs.YtokeceeccmgcmaaDoor
