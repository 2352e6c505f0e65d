/-
  Objects are made; spaces with increments full of objects (mk.Space).
-/
import Derived.Test.YtjdlaikcdebofaaSpE
set_option linter.unusedVariables false
namespace Go.Proofs.Ytjdlaikcdebofaa
open Go Go.V3

theorem adl_mem {z : Int} (hz : 0 < z) : ∀ {l : List Int} {off a : Int}, 0 ≤ off → adl z l off = some a → a / z ∈ l
  | [], _, _, _, h => by cases h
  | g :: r, off, a, h0, h => by
    rw [adl] at h
    split at h
    · rename_i h1
      simp only [Option.some.injEq] at h
      subst h
      rw [(addr_frame hz h0 h1).1]; simp
    · exact List.mem_cons_of_mem _ (adl_mem hz (by omega) h)
theorem adl_inj {z : Int} (hz : 0 < z) : ∀ {l : List Int} {o1 o2 a : Int}, l.Nodup → 0 ≤ o1 → 0 ≤ o2 → adl z l o1 = some a → adl z l o2 = some a → o1 = o2
  | [], _, _, _, _, _, _, h, _ => by cases h
  | g :: r, o1, o2, a, hd, h1, h2, e1, e2 => by
    obtain ⟨n1, n2⟩ := List.nodup_cons.1 hd
    rw [adl] at e1 e2
    by_cases c1 : o1 < z
    · rw [if_pos c1] at e1
      simp only [Option.some.injEq] at e1
      by_cases c2 : o2 < z
      · rw [if_pos c2] at e2
        simp only [Option.some.injEq] at e2
        omega
      · rw [if_neg c2] at e2
        have := adl_mem hz (by omega) e2
        rw [← e1, (addr_frame hz h1 c1).1] at this
        exact absurd this n1
    · rw [if_neg c1] at e1
      by_cases c2 : o2 < z
      · rw [if_pos c2] at e2
        simp only [Option.some.injEq] at e2
        have := adl_mem hz (by omega) e1
        rw [← e2, (addr_frame hz h2 c2).1] at this
        exact absurd this n1
      · rw [if_neg c2] at e2
        have := adl_inj hz n2 (by omega) (by omega) e1 e2
        omega

theorem nodup_sub : ∀ {l m : List Int}, l.Nodup → (∀ x ∈ l, x ∈ m) → l.length ≤ m.length
  | [], _, _, _ => by simp
  | a :: r, m, hd, h => by
    obtain ⟨n1, n2⟩ := List.nodup_cons.1 hd
    have ha := h a (by simp)
    have := nodup_sub (m := m.erase a) n2 (fun x hx => (List.mem_erase_of_ne (show x ≠ a from fun e => n1 (e ▸ hx))).2 (h x (by simp [hx])))
    rw [List.length_erase_of_mem ha] at this
    have : 0 < m.length := List.length_pos_of_mem ha
    simp
    omega

/-- The header of an object. -/
def hdr (r d : Int) : BitVec 64 := BitVec.ofInt 64 ((1 + r + d) * 256 + r * 2)
theorem Live_ok {r d : Int} (r0 : 0 ≤ r) (r1 : r ≤ 15) (d0 : 0 ≤ d) (d1 : d ≤ 32) : Fbeltwayref07_Live r d = some (hdr r d, 0) := by
  unfold Fbeltwayref07_Live
  rw [if_neg (by omega), if_neg (by omega), if_neg (by omega), if_neg (by omega), w64_id (e := 1 + r) (by omega) (by omega), w64_id (e := 1 + r + d) (by omega) (by omega), w64_id (e := (1 + r + d) * 256) (by omega) (by omega), w64_id (e := r * 2) (by omega) (by omega), w64_id (by omega) (by omega)]
  rfl

/-- What is written when an object of m fields is made at a place of a chain. -/
structure Wrote (z : Int) (ws ws' : List (BitVec 64)) (l : List Int) (at' m : Int) (w : BitVec 64) : Prop where
  len : ws'.length = ws.length
  head : ∀ x, adl z l at' = some x → gl 0#64 ws' x.toNat = w
  fld : ∀ k x, 1 ≤ k → k ≤ m → adl z l (at' + k) = some x → gl 0#64 ws' x.toNat = 0#64
  oth : ∀ x : Nat, (∀ k, 0 ≤ k → k ≤ m → adl z l (at' + k) ≠ some (x : Int)) → gl 0#64 ws' x = gl 0#64 ws x

theorem Make_ok {s : Sp} (h : VS s) {a r d : Int} (a0 : 0 ≤ a) (a1 : a < s.2.1.length) (hu : (fr s.2.2 (a / sz s.1)).1 ≠ -1) {l : List Int} (hl : Pa s.2.2 (a / sz s.1) l)
    (r0 : 0 ≤ r) (r1 : r ≤ 15) (d0 : 0 ≤ d) (d1 : d ≤ 32) {e : Int} (he : adl (sz s.1) l (a % sz s.1 + (r + d)) = some e) :
    ∃ ws, Fbeltwayref08_Make s a r d = some (0, ws, s.2.2) ∧ VS (s.1, ws, s.2.2) ∧ Wrote (sz s.1) s.2.1 ws l (a % sz s.1) (r + d) (hdr r d) := by
  have hwl := VS.wlen h
  have z := sz_pos' s.1
  have m0 := Int.emod_nonneg a (show sz s.1 ≠ 0 by omega)
  have m1 := Int.emod_lt_of_pos a z
  have hlt := adl_lt z (by omega) he
  have hne : l ≠ [] := by rintro rfl; cases he
  have hhead : adl (sz s.1) l (a % sz s.1) = some a := by
    cases l with
    | nil => exact absurd rfl hne
    | cons b q =>
      obtain ⟨rfl, _⟩ := hl
      rw [adl, if_pos m1, Int.mul_comm, Int.mul_ediv_add_emod]
  have hpl : ∀ k, 0 ≤ k → k ≤ r + d → ∃ x, adl (sz s.1) l (a % sz s.1 + k) = some x ∧ 0 ≤ x ∧ x < s.2.1.length ∧ (fr s.2.2 (x / sz s.1)).1 ≠ -1 := by
    intro k k0 k1
    obtain ⟨g, hg1, hg2⟩ := adl_some z (l := l) (off := a % sz s.1 + k) (by omega) (by omega)
    have hm := adl_mem z (by omega) hg2
    obtain ⟨x0, x1⟩ := hl.mem hm
    refine ⟨_, hg2, ?_, ?_, ?_⟩
    · have := (Int.le_ediv_iff_mul_le z).1 x0; omega
    · rw [h.w]; exact (Int.ediv_lt_iff_lt_mul z).1 x1
    · rw [(h.owner hl _ hm).1]; exact hu
  unfold Fbeltwayref08_Make
  rw [Live_ok r0 r1 d0 d1, w64_id (e := r + d) (by omega) (by omega)]
  simp only [Option.bind_some]
  rw [if_neg (by simp), Go_ok h a0 a1 hu (by omega) (by omega) hl, he]
  simp only [Option.bind_some, adlR]
  rw [if_neg (by simp), if_pos ⟨a0, a1⟩]
  have hx := loopO_up (β := Int × List (BitVec 64) × List (Int × Int × Int)) (f := fun s1 : Int × List (BitVec 64) =>
      if s1.1 ≤ r + d then
      Option.bind (Fbeltwayref05_Go (s.1, s1.2, s.2.2) a s1.1) (fun r3 =>
      if 0 ≤ r3.1 ∧ r3.1 < (s1.2.length : Int) then
      some (Sum.inl ((w64 (s1.1 + 1), s1.2.set r3.1.toNat (0#64))))
      else none)
      else some (Sum.inr ((0, s1.2, s.2.2))))
    (fun k st => st.1 = (k : Int) + 1 ∧ (k : Int) ≤ r + d ∧ VS (s.1, st.2, s.2.2) ∧ Wrote (sz s.1) s.2.1 st.2 l (a % sz s.1) k (hdr r d))
    (fun b => ∃ ws, b = (0, ws, s.2.2) ∧ VS (s.1, ws, s.2.2) ∧ Wrote (sz s.1) s.2.1 ws l (a % sz s.1) (r + d) (hdr r d)) (r + d).toNat ?_ ?_ (s := (1, s.2.1.set a.toNat (hdr r d)))
    ⟨rfl, by simp; omega, h.word a0 hu _, ?_⟩
  · obtain ⟨b, hb, ws, rfl, h1, h2⟩ := hx
    exact ⟨ws, hb, h1, h2⟩
  · rintro k ⟨q, ws⟩ hk ⟨h1, h2, h3, h4⟩
    simp only at h1 h3 h4 ⊢
    subst h1
    obtain ⟨x, x0, x1, x2, x3⟩ := hpl (k + 1) (by omega) (by omega)
    have hgo := Go_ok h3 (a := a) (k := (k : Int) + 1) a0 (by simp only; rw [h4.len]; exact a1) hu (by omega) (by omega) (l := l) hl
    simp only at hgo
    rw [x0] at hgo
    rw [if_pos (by omega), hgo]
    simp only [Option.bind_some, adlR]
    rw [if_pos ⟨x1, by rw [h4.len]; exact x2⟩, w64_id (by omega) (by omega)]
    refine .inl ⟨_, rfl, by simp only; omega, by omega, h3.word x1 x3 _, by simpa using h4.len, fun y hy => ?_, fun j y j0 j1 hy => ?_, fun y hy => ?_⟩
    · have hxy : y.toNat ≠ x.toNat := by
        intro he
        rw [hhead] at hy
        simp only [Option.some.injEq] at hy
        subst hy
        have : x = a := by omega
        subst this
        have := adl_inj z hl.nodup m0 (by omega) hhead x0
        omega
      rw [gl_set (by rw [h4.len]; omega), if_neg hxy]
      exact h4.head y hy
    · rw [gl_set (by rw [h4.len]; omega)]
      by_cases hjk : j = k + 1
      · subst hjk
        rw [x0] at hy
        simp only [Option.some.injEq] at hy
        rw [if_pos (by rw [hy])]
      · split
        · rfl
        · exact h4.fld j y j0 (by omega) hy
    · rw [gl_set (by rw [h4.len]; omega), if_neg]
      · exact h4.oth y fun j j0 j1 => hy j j0 (by omega)
      · intro he
        exact hy (k + 1) (by omega) (by omega) (by rw [x0]; congr 1; omega)
  · rintro ⟨q, ws⟩ ⟨h1, h2, h3, h4⟩
    simp only at h1 h3 h4 ⊢
    rw [if_neg (by omega)]
    rw [show (((r + d).toNat : Nat) : Int) = r + d from by omega] at h4
    exact ⟨_, rfl, ws, rfl, h3, h4⟩
  · refine ⟨by simp, fun x hx => ?_, fun k x k0 k1 => by simp at k1; omega, fun x hx => ?_⟩
    · rw [hhead] at hx
      simp only [Option.some.injEq] at hx
      subst hx
      rw [gl_set (by omega), if_pos rfl]
    · rw [gl_set (by omega), if_neg]
      rintro rfl
      exact hx 0 (by omega) (by simp) (by rw [Int.add_zero, hhead]; congr 1; omega)

theorem Init_ok {s : Sp} (h : VS s) {a r d : Int} {ws : List (BitVec 64)} (hm : Fbeltwayref08_Make s a r d = some (0, ws, s.2.2)) : Fbeltwayref08_Init s a r d = some ((s.1, ws, s.2.2), 0) := by
  unfold Fbeltwayref08_Init
  rw [VS.valid h, VS.copy h]
  simp only [Option.bind_some]
  rw [if_neg (by simp), hm]
  simp only [Option.bind_some]
  rw [if_neg (by simp)]

/-- Objects that follow each other in a chain. -/
def Tiles (z : Int) (ws : List (BitVec 64)) (l : List Int) : Int → List (Int × Int) → Int → Prop
  | at', [], w => at' = w
  | at', o :: r, w => ((0 ≤ o.1 ∧ o.1 ≤ 15) ∧ (0 ≤ o.2 ∧ o.2 ≤ 32)) ∧ (∃ a, adl z l at' = some a ∧ gl 0#64 ws a.toNat = hdr o.1 o.2) ∧ Tiles z ws l (at' + (1 + o.1 + o.2)) r w
theorem Tiles.le {z : Int} {ws : List (BitVec 64)} {l : List Int} : ∀ {os : List (Int × Int)} {at' w : Int}, Tiles z ws l at' os w → at' ≤ w
  | [], _, _, h => by rw [Tiles] at h; omega
  | o :: r, at', w, h => by have := h.2.2.le; have := h.1; omega
/-- Tiles stay where the heads' words stay. -/
theorem Tiles.keep {z : Int} {ws ws' : List (BitVec 64)} {l l' : List Int} : ∀ {os : List (Int × Int)} {at' w : Int}, Tiles z ws l at' os w → 
    (∀ p a, at' ≤ p → p < w → adl z l p = some a → adl z l' p = some a ∧ gl 0#64 ws' a.toNat = gl 0#64 ws a.toNat) → Tiles z ws' l' at' os w
  | [], _, _, h, _ => h
  | o :: r, at', w, h, hk => by
    obtain ⟨h1, ⟨a, h2, h3⟩, h4⟩ := h
    have := h4.le
    obtain ⟨k1, k2⟩ := hk at' a (by omega) (by omega) h2
    exact ⟨h1, ⟨a, k1, k2.trans h3⟩, h4.keep fun p b p0 p1 hp => hk p b (by omega) p1 hp⟩
theorem Tiles.snoc {z : Int} {ws : List (BitVec 64)} {l : List Int} {r d a : Int} (hr : 0 ≤ r ∧ r ≤ 15) (hd : 0 ≤ d ∧ d ≤ 32) : ∀ {os : List (Int × Int)} {at' w : Int}, Tiles z ws l at' os w → adl z l w = some a → gl 0#64 ws a.toNat = hdr r d →
    Tiles z ws l at' (os ++ [(r, d)]) (w + (1 + r + d))
  | [], at', w, h, ha, hw => by
    rw [Tiles] at h
    subst h
    exact ⟨⟨hr, hd⟩, ⟨a, ha, hw⟩, rfl⟩
  | o :: q, at', w, h, ha, hw => ⟨h.1, h.2.1, h.2.2.snoc hr hd ha hw⟩

/-- An increment of a space, full of objects. -/
def Full (s : Sp) (i : Inc) (os : List (Int × Int)) : Prop := ∃ l, Has s i l ∧ Tiles (sz s.1) s.2.1 l 0 os i.2.2.2.2
/-- Other increments stay as they are when one grows and an object is made in it. -/
theorem Grown.other {s : Sp} {i : Inc} {n : Int} {t : Sp} {j : Inc} {a : Int} {l l' : List Int} (h : VS s) (g : Grown s i n t j a l l') {p : Inc} (hp : FitS s p) (hne : p.1 ≠ i.1) :
    FitS t p ∧ (∀ lp, Has s p lp → Has t p lp ∧ ∀ x ∈ lp, (fr t.2.2 x).1 = p.1) := by
  have hown : ∀ lp, p.2.2.2.2 ≠ 0 → Pa s.2.2 p.2.2.1 lp → (∀ x ∈ lp, fr t.2.2 x = fr s.2.2 x ∧ (fr t.2.2 x).1 = p.1) ∧ Pa t.2.2 p.2.2.1 lp := by
    intro lp hw hpa
    rcases hp.2 with ⟨h1, _⟩ | ⟨_, h2, h3, h4, _⟩
    · exact absurd h1 hw
    · have hx : ∀ x ∈ lp, fr t.2.2 x = fr s.2.2 x ∧ (fr t.2.2 x).1 = p.1 := by
        intro x hx
        obtain ⟨x0, x1⟩ := hpa.mem hx
        have ho := (h.owner hpa x hx).1
        rw [h3] at ho
        have := hp.1.1
        have e := g.frs x x0 x1 (by omega) (by omega)
        exact ⟨e, by rw [e]; exact ho⟩
      refine ⟨hx, hpa.congr' g.len fun x hm => ?_⟩
      obtain ⟨x0, x1⟩ := hpa.mem hm
      rw [nx_in x0 x1, nx_in x0 (by rw [g.len]; exact x1), (hx x hm).1]
  refine ⟨⟨by rw [g.ws]; exact hp.1, ?_⟩, ?_⟩
  · rcases hp.2 with h1 | ⟨h1, h2, h3, h4, lp, h5, h6, h7, h8⟩
    · exact .inl h1
    · obtain ⟨k1, k2⟩ := hown lp h1 h5
      have hne2 : lp ≠ [] := by rintro rfl; simp at h8
      obtain ⟨f0, f1, f2⟩ := Pa.head h5 hne2
      refine .inr ⟨h1, by rw [g.len]; exact h2, ?_, ?_, lp, k2, by rw [g.sh]; exact h6, ?_, h8⟩
      · rw [(k1 _ f2).1]; exact h3
      · rw [(k1 _ f2).1]; exact h4
      · rw [g.oth p.1 hne (by have := hp.1.1; omega)]; exact h7
  · intro lp hlp
    rcases hlp with ⟨h1, rfl⟩ | ⟨h1, h2⟩
    · exact ⟨.inl ⟨h1, rfl⟩, fun x hx => by cases hx⟩
    · obtain ⟨k1, k2⟩ := hown lp h1 h2
      exact ⟨.inr ⟨h1, k2⟩, fun x hx => (k1 x hx).2⟩

/-- All frames of an owner lie in the chain of its increment. -/
theorem owned_all {s : Sp} {i : Inc} (h : VS s) (hf : FitS s i) (hw : i.2.2.2.2 ≠ 0) {x : Int} (hx : x ∈ owned s.2.2 i.1) {l : List Int} (hl : Has s i l) : x ∈ l := by
  rcases hl with ⟨h1, _⟩ | ⟨_, hp⟩
  · exact absurd h1 hw
  rcases hf.2 with ⟨h1, _⟩ | ⟨_, _, h3, _, l2, h5, _, h7, _⟩
  · exact absurd h1 hw
  have := hp.fn h5
  subst this
  apply Classical.byContradiction
  intro hn
  have hsub : ∀ y ∈ l, y ∈ (owned s.2.2 i.1).erase x := by
    intro y hy
    rw [(owned_nodup _ _).mem_erase_iff]
    refine ⟨fun e => hn (e ▸ hy), mem_owned.2 ⟨hp.mem hy, by rw [(h.owner hp y hy).1]; exact h3⟩⟩
  have hle := nodup_sub hp.nodup hsub
  rw [List.length_erase_of_mem hx] at hle
  have : 0 < (owned s.2.2 i.1).length := List.length_pos_of_mem hx
  omega

/-- A space with increments full of objects, and one that is being filled. -/
structure Mk (s : Sp) (l : List (Inc)) (i : Inc) : Prop where
  vs : VS s
  sh : s.1 ≤ 4
  n : s.2.2.length ≤ 10
  fits : ∀ p ∈ l, FitS s p ∧ 0 < p.2.2.2.2 ∧ p.2.1 < 3 ∧ p.1 < i.1 ∧ ∃ os, Full s p os
  cur : FitS s i
  own : i.2.2.2.2 = 0 → owned s.2.2 i.1 = []
  full : ∃ os, Full s i os
  all : ∀ x : Int, 0 ≤ x → x < s.2.2.length → (fr s.2.2 x).1 ≠ -1 → (fr s.2.2 x).1 = i.1 ∨ ∃ p ∈ l, p.1 = (fr s.2.2 x).1

/-- An object is added to an increment: what becomes of space and increment. -/
structure Added (s : Sp) (i : Inc) (r d : Int) (u : Sp) (j : Inc) (a : Int) (l l' : List Int) : Prop where
  grown : Grown s i (1 + r + d) (s.1, s.2.1, u.2.2) j a l l'
  vs : VS u
  sh : u.1 = s.1
  wr : Wrote (sz s.1) s.2.1 u.2.1 l' i.2.2.2.2 (r + d) (hdr r d)
theorem FitS.words {s : Sp} {ws : List (BitVec 64)} {p : Inc} (hl : ws.length = s.2.1.length) (h : FitS s p) : FitS (s.1, ws, s.2.2) p := by
  refine ⟨?_, h.2⟩
  obtain ⟨a, b, c, d, e, f⟩ := h.1
  exact ⟨a, b, c, d, e, by simp only; omega⟩

theorem add_ok {s : Sp} (h : VS s) {i : Inc} {r d : Int} (r0 : 0 ≤ r) (r1 : r ≤ 15) (d0 : 0 ≤ d) (d1 : d ≤ 32) {t : Sp} {j : Inc} {a : Int} {l l' : List Int} (hf : FitS s i) (g : Grown s i (1 + r + d) t j a l l') :
    ∃ u, Fbeltwayref08_Init t a r d = some (u, 0) ∧ Added s i r d u j a l l' := by
  have z := sz_pos' s.1
  have hw := hf.1.2.2.2.2.1
  have hgr : Grown s i (1 + r + d) (s.1, s.2.1, t.2.2) j a l l' := by
    rw [← g.sh, ← g.ws]; exact g
  have hlt := adl_lt z hw g.adr
  obtain ⟨l2, p1, ⟨p2, p3, p4⟩, p5⟩ := adl_step z g.path hw g.adr (Int.le_refl 0)
  have hstep : ∀ k, 0 ≤ k → adl (sz s.1) l2 (a % sz s.1 + k) = adl (sz s.1) l' (i.2.2.2.2 + k) := by
    intro k k0
    obtain ⟨l3, q1, _, q2⟩ := adl_step z g.path hw g.adr k0
    rw [p1.fn q1]; exact q2
  have hc := cl_spec (n := i.2.2.2.2 + (1 + r + d)) z
  rw [← g.len'] at hc
  obtain ⟨_, _, hend⟩ := adl_some z (l := l') (off := i.2.2.2.2 + (r + d)) (by omega) (by omega)
  have hown : ∀ x ∈ l', (fr t.2.2 x).1 = i.1 := by
    intro x hx
    have hfit := g.fit
    have := (g.vs.owner g.path x hx).1
    rcases hfit.2 with ⟨h1, _⟩ | ⟨_, _, h3, _⟩
    · rw [g.words] at h1; omega
    · rw [this, h3, g.seq]
  have hu : (fr t.2.2 (a / sz t.1)).1 ≠ -1 := by
    rw [g.sh, hown _ p4]; have := hf.1.1; omega
  have ha0 : 0 ≤ a := by
    have := (Int.le_ediv_iff_mul_le z).1 p2; omega
  have ha1 : a < t.2.1.length := by
    rw [g.vs.w, g.sh]; exact (Int.ediv_lt_iff_lt_mul z).1 p3
  obtain ⟨ws, h1, h2, h3⟩ := Make_ok g.vs ha0 ha1 hu (l := l2) (by rw [g.sh]; exact p1) r0 r1 d0 d1 (e := _) (by rw [g.sh, hstep _ (by omega)]; exact hend)
  refine ⟨_, Init_ok g.vs h1, hgr, h2, g.sh, ?_⟩
  rw [g.sh, g.ws] at h3
  refine ⟨h3.len, fun x hx => h3.head x ?_, fun k x k0 k1 hx => h3.fld k x k0 k1 (by rw [hstep k (by omega)]; exact hx), fun x hx => h3.oth x fun k k0 k1 => by rw [hstep k k0]; exact hx k k0 k1⟩
  rw [← Int.add_zero (a % sz s.1), hstep 0 (by omega), Int.add_zero]; exact hx

/-- What other increments hold stays. -/
theorem Added.other {s : Sp} {i : Inc} {r d : Int} {u : Sp} {j : Inc} {a : Int} {l l' : List Int} (h : VS s) (hi : FitS s i) (g : Added s i r d u j a l l') {p : Inc} (hp : FitS s p) (hne : p.1 ≠ i.1) :
    FitS u p ∧ (∀ lp, Has s p lp → Has u p lp ∧ ∀ off x, 0 ≤ off → adl (sz s.1) lp off = some x → gl 0#64 u.2.1 x.toNat = gl 0#64 s.2.1 x.toNat) ∧ ∀ os, Full s p os → Full u p os := by
  have z := sz_pos' s.1
  have hlen := g.wr.len
  obtain ⟨k1, k2⟩ := g.grown.other h hp hne
  have hu : u = (s.1, u.2.1, u.2.2) := by rw [← g.sh]
  have hfit : FitS u p := by
    rw [hu]
    exact FitS.words (s := (s.1, s.2.1, u.2.2)) hlen k1
  have hw : ∀ lp, Has s p lp → Has u p lp ∧ ∀ off x, 0 ≤ off → adl (sz s.1) lp off = some x → gl 0#64 u.2.1 x.toNat = gl 0#64 s.2.1 x.toNat := by
    intro lp hlp
    obtain ⟨k3, k4⟩ := k2 lp hlp
    refine ⟨k3, fun off x o0 hx => ?_⟩
    have hm := adl_mem z o0 hx
    have hx0 : 0 ≤ x := by
      have hpa : Pa u.2.2 p.2.2.1 lp := by
        rcases k3 with ⟨_, rfl⟩ | ⟨_, k3⟩
        · cases hm
        · exact k3
      have := (Int.le_ediv_iff_mul_le z).1 (hpa.mem hm).1; omega
    refine g.wr.oth x.toNat fun k q0 q1 he => ?_
    rw [Int.toNat_of_nonneg hx0] at he
    have hm2 := adl_mem z (by have := hi.1.2.2.2.2.1; omega) he
    have o1 := k4 _ hm
    have o2 := (g.grown.vs.owner g.grown.path _ hm2).1
    have o3 : (fr u.2.2 j.2.2.1).1 = j.1 := by
      rcases g.grown.fit.2 with ⟨h1, _⟩ | ⟨_, _, h3, _⟩
      · have := g.grown.words; have := hi.1.2.2.2.2.1; have := g.wr
        have hl := adl_lt z hi.1.2.2.2.2.1 g.grown.adr
        have hl2 := g.grown.len'
        exfalso
        have hpos : l'.length ≠ 0 := by
          intro h0; rw [h0] at hl; simp at hl; omega
        have h7 : i.2.2.2.2 + (1 + r + d) = 0 := by omega
        rw [h7, cl_zero z] at hl2; omega
      · exact h3
    simp only at o2
    rw [o1, o3, g.grown.seq] at o2
    exact hne o2
  refine ⟨hfit, hw, ?_⟩
  rintro os ⟨lp, hlp, ht⟩
  obtain ⟨k3, k4⟩ := hw lp hlp
  refine ⟨lp, k3, ?_⟩
  rw [g.sh]
  exact ht.keep fun q x q0 q1 hq => ⟨hq, k4 q x q0 hq⟩
/-- The increment itself has one object more. -/
theorem Added.self {s : Sp} {i : Inc} {r d : Int} {u : Sp} {j : Inc} {a : Int} {l l' : List Int} (h : VS s) (hi : FitS s i) (r0 : 0 ≤ r) (r1 : r ≤ 15) (d0 : 0 ≤ d) (d1 : d ≤ 32) (g : Added s i r d u j a l l') :
    FitS u j ∧ ∀ os, Full s i os → Full u j (os ++ [(r, d)]) := by
  have z := sz_pos' s.1
  have hu : u = (s.1, u.2.1, u.2.2) := by rw [← g.sh]
  refine ⟨by rw [hu]; exact FitS.words (s := (s.1, s.2.1, u.2.2)) g.wr.len g.grown.fit, ?_⟩
  rintro os ⟨lp, hlp, ht⟩
  have hll : lp = l := by
    rcases hlp with ⟨h1, rfl⟩ | ⟨h1, h2⟩
    · rcases g.grown.has with ⟨_, rfl⟩ | ⟨h3, _⟩
      · rfl
      · exact absurd h1 h3
    · rcases g.grown.has with ⟨h3, _⟩ | ⟨_, h4⟩
      · exact absurd h3 h1
      · exact h2.fn h4
  subst hll
  refine ⟨l', .inr ⟨by rw [g.grown.words]; have := hi.1.2.2.2.2.1; omega, g.grown.path⟩, ?_⟩
  rw [g.sh, g.grown.words]
  refine Tiles.snoc ⟨r0, r1⟩ ⟨d0, d1⟩ (ht.keep fun q x q0 q1 hq => ?_) g.grown.adr (g.wr.head a g.grown.adr)
  have hq' : adl (sz s.1) l' q = some x := by rw [g.grown.more]; exact adl_append hq
  refine ⟨hq', g.wr.oth x.toNat fun k k0 k1 he => ?_⟩
  have hm := adl_mem z q0 hq'
  have hx0 : 0 ≤ x := by have := (Int.le_ediv_iff_mul_le z).1 (g.grown.path.mem hm).1; omega
  rw [Int.toNat_of_nonneg hx0] at he
  have := adl_inj z g.grown.path.nodup (by omega) q0 he hq'
  omega

theorem grown_ok {s : Sp} {l : List Inc} {i : Inc} (h : Mk s l i) (hseq : i.2.1 < 3) {d : List Int × Int} (hd : DkOk d) : ∃ u j d', Fbeltwaymake_grown d s i = some (u, j, d') ∧ DkOk d' ∧ Mk u l j ∧ j.1 = i.1 ∧ j.2.1 = i.2.1 := by
  unfold Fbeltwaymake_grown
  obtain ⟨r, d1, e1, r0, r1, k1⟩ := Next_ok hd (n := 4) (by omega) (by omega)
  rw [e1]
  simp only [Option.bind_some]
  obtain ⟨q, d2, e2, q0, q1, k2⟩ := Next_ok k1 (n := 4) (by omega) (by omega)
  rw [e2]
  simp only [Option.bind_some]
  rw [if_pos ⟨q0, by simpa using q1⟩]
  have hq : gl (0 : Int) [3, 3, 9, 33] q.toNat = 3 ∨ gl (0 : Int) [3, 3, 9, 33] q.toNat = 9 ∨ gl (0 : Int) [3, 3, 9, 33] q.toNat = 33 := by
    have : q = 0 ∨ q = 1 ∨ q = 2 ∨ q = 3 := by omega
    rcases this with rfl | rfl | rfl | rfl <;> simp [gl]
  generalize gl (0 : Int) [3, 3, 9, 33] q.toNat = b at hq
  obtain ⟨c, d3, e3, c0, c1, k3⟩ := Next_ok k2 (n := b) (by omega) (by omega)
  rw [e3]
  simp only [Option.bind_some]
  rw [w64_id (e := 1 + r) (by omega) (by omega), w64_id (by omega) (by omega)]
  have nope : ∀ e : Int, e ≠ 0 → Fbeltwayref09_Alloc s i (1 + r + c) = some ((0, [], []), (0, 0, 0, 0, 0), 0, e) → ∃ u j d', Option.bind (Fbeltwayref09_Alloc s i (1 + r + c)) (fun r4 =>
      if ¬ r4.2.2.2 = 0 then
      some ((s, i, d3))
      else Option.bind (Fbeltwayref08_Init r4.1 r4.2.2.1 r c) (fun r5 =>
      some ((r5.1, r4.2.1, d3)))) = some (u, j, d') ∧ DkOk d' ∧ Mk u l j ∧ j.1 = i.1 ∧ j.2.1 = i.2.1 := by
    intro e he hh
    rw [hh]
    simp only [Option.bind_some]
    rw [if_pos he]
    exact ⟨_, _, _, rfl, k3, h, rfl, rfl⟩
  rcases Alloc_ok s i (1 + r + c) with ⟨_, g1⟩ | ⟨_, ⟨_, _, g1⟩ | ⟨_, ⟨_, g1⟩ | ⟨_, t, j, a, fl, fl', g1, g2⟩⟩⟩
  · exact nope 1 (by decide) g1
  · exact nope 5 (by decide) g1
  · exact nope 4 (by decide) g1
  · rw [g1]
    simp only [Option.bind_some]
    rw [if_neg (by simp)]
    obtain ⟨u, h1, h2⟩ := add_ok h.vs r0 (by omega) c0 (by omega) h.cur g2
    rw [h1]
    simp only [Option.bind_some]
    refine ⟨_, _, _, rfl, k3, ?_, g2.seq, g2.belt⟩
    obtain ⟨f1, f2⟩ := h2.self h.vs h.cur r0 (by omega) c0 (by omega)
    have hlen : u.2.2.length = s.2.2.length := h2.grown.len
    refine ⟨h2.vs, by rw [h2.sh]; exact h.sh, by rw [hlen]; exact h.n, fun p hp => ?_, f1, fun hw => ?_, ?_, fun x x0 x1 x2 => ?_⟩
    · obtain ⟨p1, p2, p3, p4, os, p5⟩ := h.fits p hp
      obtain ⟨m1, _, m2⟩ := h2.other h.vs h.cur p1 (by omega)
      exact ⟨m1, p2, p3, by rw [g2.seq]; exact p4, os, m2 os p5⟩
    · rw [g2.words] at hw; have := h.cur.1.2.2.2.2.1; omega
    · obtain ⟨os, ho⟩ := h.full
      exact ⟨_, f2 os ho⟩
    · have x1' : x < s.2.2.length := by rw [← hlen]; exact x1
      by_cases hx : (fr s.2.2 x).1 = -1
      · -- a frame that was taken
        by_cases hx2 : x ∈ fl'
        · left
          have := (h2.grown.vs.owner h2.grown.path x hx2).1
          simp only at this
          rw [this]
          rcases h2.grown.fit.2 with ⟨g3, _⟩ | ⟨_, _, g3, _⟩
          · rw [g2.words] at g3; have := h.cur.1.2.2.2.2.1; omega
          · exact g3
        · exfalso
          apply x2
          have hm : x ∈ frees s.2.2 := mem_owned.2 ⟨⟨x0, x1'⟩, hx⟩
          rw [← List.take_append_drop (fl'.length - fl.length) (frees s.2.2), List.mem_append] at hm
          rcases hm with hm | hm
          · exact absurd (by rw [h2.grown.more]; exact List.mem_append_right _ hm) hx2
          · rw [← h2.grown.fre] at hm
            exact (mem_owned.1 hm).2
      · by_cases hx2 : (fr s.2.2 x).1 = i.1
        · left
          rw [g2.seq]
          -- a frame that the increment had
          have hm : x ∈ owned s.2.2 i.1 := mem_owned.2 ⟨⟨x0, x1'⟩, hx2⟩
          have hw : i.2.2.2.2 ≠ 0 := fun hw => by rw [h.own hw] at hm; cases hm
          have hc := owned_all h.vs h.cur hw hm h2.grown.has
          have hx3 : x ∈ fl' := by rw [h2.grown.more]; exact List.mem_append_left _ hc
          have := (h2.grown.vs.owner h2.grown.path x hx3).1
          simp only at this
          rw [this]
          rcases h2.grown.fit.2 with ⟨g3, _⟩ | ⟨_, _, g3, _⟩
          · rw [g2.words] at g3; have := h.cur.1.2.2.2.2.1; omega
          · rw [g3, g2.seq]
        · have hk := h2.grown.frs x x0 x1' hx hx2
          simp only at hk
          rw [hk, g2.seq]
          rw [hk] at x2
          exact h.all x x0 x1' x2

/-- A space that mk.Space made, and its increments. -/
structure Made (s : Sp) (l : List Inc) : Prop where
  vs : VS s
  sh : s.1 ≤ 4
  n : s.2.2.length ≤ 10
  cnt : l.length ≤ 4
  fits : ∀ p ∈ l, FitS s p ∧ 0 < p.2.2.2.2 ∧ p.2.1 < 3 ∧ p.1 < 15 ∧ ∃ os, Full s p os
  asc : l.Pairwise fun a b => a.1 < b.1
  all : ∀ x : Int, 0 ≤ x → x < s.2.2.length → (fr s.2.2 x).1 ≠ -1 → ∃ p ∈ l, p.1 = (fr s.2.2 x).1

theorem frees_all {fs : List Fr} (h : ∀ x : Int, 0 ≤ x → x < fs.length → (fr fs x).1 = -1) (q : Int) (hq : q ≠ -1) : owned fs q = [] := by
  apply List.eq_nil_iff_forall_not_mem.2
  intro x hx
  obtain ⟨⟨x0, x1⟩, x2⟩ := mem_owned.1 hx
  rw [h x x0 x1] at x2
  exact hq x2.symm

theorem Space_ok {d : List Int × Int} (hd : DkOk d) : ∃ s l d', Fbeltwaymake_Space d = some (s, l, d') ∧ DkOk d' ∧ Made s l := by
  unfold Fbeltwaymake_Space
  obtain ⟨r, d1, e1, r0, r1, k1⟩ := Next_ok hd (n := 2) (by omega) (by omega)
  rw [e1]
  simp only [Option.bind_some]
  obtain ⟨n, d2, e2, n0, n1, k2⟩ := Next_ok k1 (n := 9) (by omega) (by omega)
  rw [e2]
  simp only [Option.bind_some]
  rw [w64_id (e := 3 + r) (by omega) (by omega), w64_id (e := 2 + n) (by omega) (by omega), rNew_ok (by omega) (by omega)]
  simp only [Option.bind_some]
  obtain ⟨c, d3, e3, c0, c1, k3⟩ := Next_ok k2 (n := 5) (by omega) (by omega)
  rw [e3]
  simp only [Option.bind_some]
  have hnew := VS.new (s := 3 + r) (n := 2 + n) (by omega) (by omega)
  have hfree : ∀ x : Int, 0 ≤ x → x < (List.replicate (2 + n).toNat ((-1, -1, -1) : Fr)).length → (fr (List.replicate (2 + n).toNat ((-1, -1, -1) : Fr)) x).1 = -1 := fun x x0 x1 => by
    unfold fr; rw [gl_rep (by simp at x1; omega)]
  generalize hs0 : (3 + r, List.replicate ((2 + n) * sz (3 + r)).toNat 0#64, List.replicate (2 + n).toNat ((-1, -1, -1) : Fr)) = s0 at hnew ⊢
  have hm0 : Made s0 [] := by
    refine ⟨hnew, by rw [← hs0]; simp only; omega, by rw [← hs0]; simp; omega, by simp, (fun p hp => by cases hp), List.Pairwise.nil, fun x x0 x1 x2 => ?_⟩
    rw [← hs0] at x1 x2
    exact absurd (hfree x x0 x1) x2
  refine (loopO_ind (fun m (st : List (Int × Int × Int × Int × Int) × Int × (List Int × Int) × Sp) => st.2.1 = (m : Int) ∧ m ≤ 4 ∧ st.1.length + m ≤ 4 ∧ DkOk st.2.2.1 ∧ Made st.2.2.2 st.1 ∧ ∀ p ∈ st.1, p.1 < 3 * st.1.length) (fun b => ∃ s l d', b = (s, l, d') ∧ DkOk d' ∧ Made s l) ?_ c.toNat ([], c, d3, s0) ⟨by simp only; omega, by omega, by simp; omega, k3, hm0, fun p hp => by cases hp⟩).elim fun b hb => by
      obtain ⟨h1, s, l, d', rfl, h2, h3⟩ := hb; exact ⟨s, l, d', h1, h2, h3⟩
  rintro m ⟨l, q, dk, s⟩ ⟨h1, h2, h3, h4, h5, h6⟩
  simp only at h1 h3 h4 h5 h6 ⊢
  subst h1
  by_cases hm : m = 0
  · left
    rw [if_neg (by omega)]
    exact ⟨_, rfl, _, _, _, rfl, h4, h5⟩
  · right
    rw [if_pos (by omega)]
    obtain ⟨a, d4, e4, a0, a1, k4⟩ := Next_ok h4 (n := 3) (by omega) (by omega)
    rw [e4]
    simp only [Option.bind_some]
    obtain ⟨b, d5, e5, b0, b1, k5⟩ := Next_ok k4 (n := 3) (by omega) (by omega)
    rw [e5]
    simp only [Option.bind_some]
    obtain ⟨g, d6, e6, g0, g1, k6⟩ := Next_ok k5 (n := 5) (by omega) (by omega)
    rw [e6]
    simp only [Option.bind_some]
    rw [w64_id (e := 3 * (l.length : Int)) (by omega) (by omega), w64_id (e := 3 * (l.length : Int) + a) (by omega) (by omega), w64_id (e := 1 + g) (by omega) (by omega)]
    have hnone : owned s.2.2 (3 * (l.length : Int) + a) = [] := by
      apply List.eq_nil_iff_forall_not_mem.2
      intro x hx
      obtain ⟨⟨x0, x1⟩, x2⟩ := mem_owned.1 hx
      obtain ⟨p, hp, hp2⟩ := h5.all x x0 x1 (by omega)
      have := h6 p hp
      omega
    have hmk : Mk s l (3 * (l.length : Int) + a, b, -1, -1, 0) := by
      refine ⟨h5.vs, h5.sh, h5.n, fun p hp => ?_, ⟨⟨by simp only; omega, by simp only; omega, b0, by simp only; omega, by simp only; omega, by simp only; omega⟩, .inl ⟨rfl, rfl, rfl⟩⟩, fun _ => hnone, ⟨[], [], .inl ⟨rfl, rfl⟩, rfl⟩, fun x x0 x1 x2 => .inr (h5.all x x0 x1 x2)⟩
      obtain ⟨p1, p2, p3, p4, p5⟩ := h5.fits p hp
      exact ⟨p1, p2, p3, by have := h6 p hp; simp only; omega, p5⟩
    have hx := loopO_ind (β := ((List (Int × Int × Int × Int × Int)) × Int × ((List Int) × Int) × (Int × (List (BitVec 64)) × (List (Int × Int × Int)))) ⊕ ((Int × (List (BitVec 64)) × (List (Int × Int × Int))) × (List (Int × Int × Int × Int × Int)) × ((List Int) × Int)))
      (f := fun s2 : Int × ((List Int) × Int) × (Int × (List (BitVec 64)) × (List (Int × Int × Int))) × (Int × Int × Int × Int × Int) =>
        if s2.1 > 0 then
        Option.bind (Fbeltwaymake_grown s2.2.1 s2.2.2.1 s2.2.2.2) (fun r8 =>
        some (Sum.inl ((w64 (s2.1 - 1), r8.2.2, r8.1, r8.2.1))))
        else Option.map Sum.inr (if s2.2.2.2.2.2.2.2 > 0 then
        if (l.length + ([s2.2.2.2] : List (Int × Int × Int × Int × Int)).length) * 40 ≤ 140737488355328 then
        some (Sum.inl ((l ++ ([s2.2.2.2] : List (Int × Int × Int × Int × Int)), w64 ((m : Int) - 1), s2.2.1, s2.2.2.1)))
        else none
        else some (Sum.inl ((l, w64 ((m : Int) - 1), s2.2.1, s2.2.2.1)))))
      (fun k st => st.1 = (k : Int) ∧ k ≤ 5 ∧ DkOk st.2.1 ∧ Mk st.2.2.1 l st.2.2.2 ∧ st.2.2.2.1 = 3 * (l.length : Int) + a ∧ st.2.2.2.2.1 = b)
      (fun o => ∃ l' dk' s', o = Sum.inl (l', (m : Int) - 1, dk', s') ∧ l'.length + (m - 1) ≤ 4 ∧ DkOk dk' ∧ Made s' l' ∧ ∀ p ∈ l', p.1 < 3 * l'.length) ?_ (1 + g).toNat (1 + g, d6, s, (3 * (l.length : Int) + a, b, -1, -1, 0)) ⟨by simp only; omega, by omega, k6, hmk, rfl, rfl⟩
    · obtain ⟨o, ho, l', dk', s', rfl, w1, w2, w3, w4⟩ := hx
      rw [ho]
      exact ⟨m - 1, _, by omega, rfl, by simp only; omega, by omega, by simp only; omega, w2, w3, w4⟩
    · rintro k ⟨q, dk, s, i⟩ ⟨h1, h2, h3, h4, h7, h8⟩
      simp only at h1 h3 h4 h7 h8 ⊢
      subst h1
      by_cases hk : k = 0
      · left
        rw [if_neg (by omega), w64_id (e := (m : Int) - 1) (by omega) (by omega)]
        have hw0 := h4.cur.1.2.2.2.2.1
        by_cases hw : i.2.2.2.2 > 0
        · rw [if_pos hw, if_pos (by simp; omega)]
          refine ⟨_, rfl, _, _, _, rfl, by simp; omega, h3, ⟨h4.vs, h4.sh, h4.n, by simp; omega, fun p hp => ?_, ?_, fun x x0 x1 x2 => ?_⟩, fun p hp => ?_⟩
          · rcases List.mem_append.1 hp with hp | hp
            · obtain ⟨p1, p2, p3, p4, p5⟩ := h4.fits p hp
              exact ⟨p1, p2, p3, by omega, p5⟩
            · simp only [List.mem_singleton] at hp
              subst hp
              exact ⟨h4.cur, hw, by omega, by omega, h4.full⟩
          · rw [List.pairwise_append]
            refine ⟨h5.asc, by simp, fun x hx y hy => ?_⟩
            simp only [List.mem_singleton] at hy
            subst hy
            exact (h4.fits x hx).2.2.2.1
          · rcases h4.all x x0 x1 x2 with h9 | ⟨p, hp, h9⟩
            · exact ⟨i, by simp, h9.symm⟩
            · exact ⟨p, by simp [hp], h9⟩
          · rcases List.mem_append.1 hp with hp | hp
            · have := h6 p hp; simp; omega
            · simp only [List.mem_singleton] at hp
              subst hp
              simp; omega
        · rw [if_neg hw]
          refine ⟨_, rfl, _, _, _, rfl, by omega, h3, ⟨h4.vs, h4.sh, h4.n, h5.cnt, fun p hp => ?_, h5.asc, fun x x0 x1 x2 => ?_⟩, h6⟩
          · obtain ⟨p1, p2, p3, p4, p5⟩ := h4.fits p hp
            exact ⟨p1, p2, p3, by omega, p5⟩
          · rcases h4.all x x0 x1 x2 with h9 | h9
            · have hm : x ∈ owned s.2.2 i.1 := mem_owned.2 ⟨⟨x0, x1⟩, h9⟩
              rw [h4.own (by omega)] at hm; cases hm
            · exact h9
      · right
        rw [if_pos (by omega)]
        obtain ⟨u, j, d', w1, w2, w3, w4, w5⟩ := grown_ok h4 (by omega) h3
        rw [w1]
        simp only [Option.bind_some]
        exact ⟨k - 1, _, by omega, rfl, by simp only; rw [w64_id (by omega) (by omega)]; omega, by omega, w2, w3, by rw [w4]; exact h7, by rw [w5]; exact h8⟩
end Go.Proofs.Ytjdlaikcdebofaa
