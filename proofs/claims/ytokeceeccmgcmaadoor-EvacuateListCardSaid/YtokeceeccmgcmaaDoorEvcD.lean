/-
  What becomes of a word: the program's step.
-/
import Derived.Test.YtokeceeccmgcmaaDoorEvcC
set_option linter.unusedVariables false
namespace Go.Proofs.YtokeceeccmgcmaaDoor
open Go Go.V3

/-- A word that points into condemned frames. -/
def Wn (C : List Int) (s : Sp) (x : BitVec 64) : Prop := x ≠ 0#64 ∧ (x.toNat : Int) ≤ s.2.1.length ∧ (fr s.2.2 (((x.toNat : Int) - 1) / sz s.1)).1 ∈ C
instance (C : List Int) (s : Sp) (x : BitVec 64) : Decidable (Wn C s x) := by unfold Wn; infer_instance
abbrev Cp : Type := Sp × BitVec 64 × Inc × List (Int × Int)
theorem sub1_nat {x : BitVec 64} (h : x ≠ 0#64) : (x - 1#64).toNat = x.toNat - 1 ∧ 1 ≤ x.toNat := by
  have h1 : x.toNat ≠ 0 := fun he => h (BitVec.eq_of_toNat_eq (by rw [he]; rfl))
  have o1 : (1#64).toNat = 1 := rfl
  exact ⟨by rw [BitVec.toNat_sub_of_le (by rw [BitVec.le_def, o1]; omega), o1], by omega⟩
theorem fWithin_ok {s : Sp} (h : VS s) {m : BitVec 64} {C : List Int} (hm : MaskC C s.2.2 m) (to : Inc) (mv : List (Int × Int)) (x : BitVec 64) :
    Fevacuate_copier_within_own0 ((s, m, to, mv) : Cp) x = some (decide (Wn C s x), ((s, m, to, mv) : Cp)) := by
  have hwl := VS.wlen h
  have hn := h.n.2
  have z := sz_pos' s.1
  unfold Fevacuate_copier_within_own0
  by_cases hx : x = 0#64
  · rw [if_neg (not_not_intro hx), decide_eq_false (fun hh : Wn C s x => hh.1 hx)]
  obtain ⟨e1, e2⟩ := sub1_nat hx
  have e3 : (BitVec.ofInt 64 ((s.2.1.length : Nat) : Int)).toNat = s.2.1.length := by
    rw [BitVec.toNat_ofInt]; omega
  rw [if_pos hx]
  simp only
  rw [e3, e1]
  by_cases hl : x.toNat ≤ s.2.1.length
  · obtain ⟨f0, f1⟩ := frame_of h (a := (x.toNat : Int) - 1) (by omega) (by omega)
    have e4 : ((x.toNat - 1 : Nat) : Int) = (x.toNat : Int) - 1 := by omega
    rw [if_pos hl, if_pos trivial, e4, w64_id (by omega) (by omega), pow_sz h.sh, if_pos f0]
    have e5 : ((((x.toNat : Int) - 1) / sz s.1).toNat : Int) = ((x.toNat : Int) - 1) / sz s.1 := by omega
    have e6 : ((m >>> (((x.toNat : Int) - 1) / sz s.1).toNat) &&& 1#64 = 1#64) ↔ Wn C s x := by
      rw [bit_test, hm _ (by omega), decide_eq_true_iff, e5]
      constructor
      · rintro ⟨_, hc⟩; exact ⟨hx, by omega, hc⟩
      · rintro ⟨_, _, hc⟩; exact ⟨by omega, hc⟩
    rw [decide_eq_decide.2 e6]
  · rw [if_neg hl, decide_eq_false (fun hh : Wn C s x => hl (by have := hh.2.1; omega))]

/-- Words of one chain that are copied to places of another. -/
def cpy (z : Int) (la : List Int) (oa : Int) (lb : List Int) (ob : Int) : Nat → List (BitVec 64) → List (BitVec 64)
  | 0, ws => ws
  | k + 1, ws => (cpy z la oa lb ob k ws).set (adlN (adl z lb (ob + k))).toNat (gl 0#64 (cpy z la oa lb ob k ws) (adlN (adl z la (oa + k))).toNat)
theorem cpy_len {z : Int} {la lb : List Int} {oa ob : Int} : ∀ (k : Nat) (ws : List (BitVec 64)), (cpy z la oa lb ob k ws).length = ws.length
  | 0, _ => rfl
  | k + 1, ws => by simp only [cpy, List.length_set, cpy_len k ws]
/-- The state of a copy. -/
structure Cy (C : List Int) (s : Sp) (to : Inc) : Prop where
  vs : VS s
  fit : FitS s to
  own : to.2.2.2.2 = 0 → owned s.2.2 to.1 = []
  out : to.1 ∉ C
  nn : ∀ q ∈ C, 0 ≤ q
/-- The header of the object that a word points to. -/
abbrev hwd (s : Sp) (x : BitVec 64) : BitVec 64 := gl 0#64 s.2.1 ((x.toNat : Int) - 1).toNat
/-- What becomes of a word. -/
inductive MvR (C : List Int) (s : Sp) (to : Inc) (x : BitVec 64) : BitVec 64 → Int → Sp → Inc → List (Int × Int) → Prop
  | out (h : ¬ Wn C s x) : MvR C s to x x 0 s to []
  | been (h : Wn C s x) {y : Int × Int × Int × Bool × Int} (hy : Fheader_Decode (hwd s x) = some y) (h0 : y.2.2.2.2 = 0) (h1 : y.2.2.2.1 = true) : MvR C s to x (BitVec.ofInt 64 y.2.2.1 + 1#64) 0 s to []
  | bad (h : Wn C s x) {y : Int × Int × Int × Bool × Int} (hy : Fheader_Decode (hwd s x) = some y) (h0 : y.2.2.2.2 ≠ 0) : MvR C s to x 0#64 12 s to []
  | torn (h : Wn C s x) {r d : Int} (hh : hd (hwd s x) = some (r, d)) {la : List Int} (hl : Pa s.2.2 (((x.toNat : Int) - 1) / sz s.1) la) (ha : adl (sz s.1) la (((x.toNat : Int) - 1) % sz s.1 + (r + d)) = none) : MvR C s to x 0#64 12 s to []
  | full (h : Wn C s x) {r d : Int} (hh : hd (hwd s x) = some (r, d)) {la : List Int} (hl : Pa s.2.2 (((x.toNat : Int) - 1) / sz s.1) la) {e : Int} (ha : adl (sz s.1) la (((x.toNat : Int) - 1) % sz s.1 + (r + d)) = some e)
      (hf : ((frees s.2.2).length : Int) < cl (sz s.1) (to.2.2.2.2 + (1 + r + d)) - cl (sz s.1) to.2.2.2.2) : MvR C s to x 0#64 4 s to []
  | moved (h : Wn C s x) {r d : Int} (hh : hd (hwd s x) = some (r, d)) {la : List Int} (hl : Pa s.2.2 (((x.toNat : Int) - 1) / sz s.1) la) {e : Int} (ha : adl (sz s.1) la (((x.toNat : Int) - 1) % sz s.1 + (r + d)) = some e)
      {u : Sp} {to' : Inc} {b : Int} {l l' : List Int} (hg : Grown s to (1 + r + d) u to' b l l') :
      MvR C s to x (BitVec.ofInt 64 b + 1#64) 0 (s.1, (cpy (sz s.1) la (((x.toNat : Int) - 1) % sz s.1) l' to.2.2.2.2 (1 + r + d).toNat s.2.1).set ((x.toNat : Int) - 1).toNat (fwd b), u.2.2) to' [((x.toNat : Int) - 1, b)]

theorem adl_rng {s : Sp} (h : VS s) {l : List Int} {i off a : Int} (hp : Pa s.2.2 i l) (h0 : 0 ≤ off) (ha : adl (sz s.1) l off = some a) : (0 ≤ a ∧ a < s.2.1.length) ∧ a / sz s.1 ∈ l := by
  have z := sz_pos' s.1
  have hm := adl_mem z h0 ha
  obtain ⟨g0, g1⟩ := hp.mem hm
  have e1 : a = a / sz s.1 * sz s.1 + a % sz s.1 := by rw [Int.mul_comm]; exact (Int.mul_ediv_add_emod a (sz s.1)).symm
  have m0 := Int.emod_nonneg a (show sz s.1 ≠ 0 by omega)
  have m1 := Int.emod_lt_of_pos a z
  have e2 : 0 ≤ a / sz s.1 * sz s.1 := Int.mul_nonneg g0 (by omega)
  have e3 : (a / sz s.1 + 1) * sz s.1 ≤ s.2.2.length * sz s.1 := Int.mul_le_mul_of_nonneg_right (by omega) (by omega)
  rw [← h.w, Int.add_mul] at e3
  exact ⟨⟨by omega, by omega⟩, hm⟩
theorem adl_less {z : Int} (hz : 0 < z) {l : List Int} {p q e : Int} (h : adl z l q = some e) (p0 : 0 ≤ p) (pq : p ≤ q) : ∃ y, adl z l p = some y := by
  have := adl_lt hz (by omega) h
  obtain ⟨g, _, hg⟩ := adl_some hz (l := l) (off := p) p0 (by omega)
  exact ⟨_, hg⟩
/-- The cell at a place of a chain. -/
theorem cAt_adl {s : Sp} (h : VS s) {l : List Int} {i o a k : Int} (hp : Pa s.2.2 i l) (h0 : 0 ≤ o) (ha : adl (sz s.1) l o = some a) (k0 : 0 ≤ k) (k1 : k ≤ 1000000) :
    Fcells_At s a k = some (adlN (adl (sz s.1) l (o + k))) := by
  obtain ⟨⟨a0, a1⟩, _⟩ := adl_rng h hp h0 ha
  obtain ⟨l2, p1, _, p2⟩ := adl_step (sz_pos' s.1) hp h0 ha k0
  rw [cAt_ok h a0 a1 k0 k1 p1, p2]
/-- What is known of an increment that has grown. -/
theorem Grown.in_l {s : Sp} {i : Inc} {n : Int} {u : Sp} {j : Inc} {b : Int} {l l' : List Int} (hi : 0 ≤ i.2.2.2.2) (n0 : 1 ≤ n) (g : Grown s i n u j b l l') : ∀ x ∈ l', (fr u.2.2 x).1 = i.1 := by
  intro x hx
  have h1 := (g.vs.owner g.path x hx).1
  rcases g.fit.2 with ⟨h2, _⟩ | ⟨_, _, h2, _⟩
  · rw [g.words] at h2; omega
  · rw [h1, h2, g.seq]
theorem Grown.all_in {s : Sp} {i : Inc} {n : Int} {u : Sp} {j : Inc} {b : Int} {l l' : List Int} (hi : 0 ≤ i.2.2.2.2) (n0 : 1 ≤ n) (g : Grown s i n u j b l l') {k : Int} (k0 : 0 ≤ k) (kn : k < n) :
    ∃ y, adl (sz s.1) l' (i.2.2.2.2 + k) = some y := by
  have z := sz_pos' s.1
  have hc := cl_spec (n := i.2.2.2.2 + n) z
  rw [← g.len'] at hc
  obtain ⟨g', _, hg⟩ := adl_some z (l := l') (off := i.2.2.2.2 + k) (by omega) (by omega)
  exact ⟨_, hg⟩
/-- Frames of condemned increments stay when another one grows. -/
theorem Grown.keepC {s : Sp} {i : Inc} {n : Int} {u : Sp} {j : Inc} {b : Int} {l l' : List Int} (h : VS s) (g : Grown s i n u j b l l') {f : Int} {la : List Int} (hl : Pa s.2.2 f la) (h0 : 0 ≤ (fr s.2.2 f).1) (h1 : (fr s.2.2 f).1 ≠ i.1) :
    Pa u.2.2 f la ∧ ∀ x ∈ la, fr u.2.2 x = fr s.2.2 x := by
  have hx : ∀ x ∈ la, fr u.2.2 x = fr s.2.2 x := by
    intro x hx
    obtain ⟨x0, x1⟩ := hl.mem hx
    have := (h.owner hl x hx).1
    exact g.frs x x0 x1 (by omega) (by omega)
  refine ⟨hl.congr' g.len fun x hm => ?_, hx⟩
  obtain ⟨x0, x1⟩ := hl.mem hm
  rw [nx_in x0 (by rw [g.len]; exact x1), nx_in x0 x1, hx x hm]

theorem fMove_ok {C : List Int} {s : Sp} {to : Inc} (hc : Cy C s to) {m : BitVec 64} (hm : MaskC C s.2.2 m) {mv : List (Int × Int)} (hmv : mv.length ≤ 1000000) (x : BitVec 64) :
    ∃ v e t to' mm, MvR C s to x v e t to' mm ∧ Fevacuate_copier_move ((s, m, to, mv) : Cp) x = some (v, e, ((t, m, to', mv ++ mm) : Cp)) := by
  have hwl := VS.wlen hc.vs
  have hn := hc.vs.n.2
  have z := sz_pos' s.1
  obtain ⟨z1, z2⟩ := sz_le hc.vs.sh
  have hto := hc.fit.1
  unfold Fevacuate_copier_move
  rw [fWithin_ok hc.vs hm, Option.bind_some]
  by_cases hw : Wn C s x
  rotate_left
  · simp only [decide_eq_false hw]
    rw [if_pos (show (!false) = true from rfl)]
    exact ⟨x, 0, s, to, [], .out hw, by rw [List.append_nil]⟩
  simp only [decide_eq_true hw]
  obtain ⟨x0, x1, x2⟩ := id hw
  obtain ⟨e1, e2⟩ := sub1_nat x0
  have e4 : ((x.toNat - 1 : Nat) : Int) = (x.toNat : Int) - 1 := by omega
  rw [if_neg (show ¬ (!true) = true by decide), e1, e4, w64_id (e := (x.toNat : Int) - 1) (by omega) (by omega)]
  generalize hA : (x.toNat : Int) - 1 = A at x2
  have A0 : 0 ≤ A := by omega
  have A1 : A < s.2.1.length := by omega
  rw [if_pos ⟨A0, A1⟩]
  obtain ⟨y, y1, y2⟩ := pDec_ok (gl 0#64 s.2.1 A.toNat)
  have hA' : hwd s x = gl 0#64 s.2.1 A.toNat := by rw [← hA]
  rw [y1, Option.bind_some]
  rcases y2 with ⟨⟨r, d⟩, y2, rfl⟩ | ⟨y2, y3⟩
  rotate_left
  · by_cases h5 : y.2.2.2.2 = 0
    · rw [if_neg (not_not_intro h5)]
      rcases y3 with y3 | ⟨_, y3⟩
      · exact absurd h5 y3
      rw [if_pos y3]
      exact ⟨_, 0, s, to, [], .been hw (by rw [hA']; exact y1) h5 y3, by rw [List.append_nil]⟩
    · rw [if_pos h5]
      exact ⟨_, 12, s, to, [], .bad hw (by rw [hA']; exact y1) h5, by rw [List.append_nil]⟩
  obtain ⟨⟨r0, r1⟩, d0, d1⟩ := hd_rng y2
  simp only at r0 r1 d0 d1 ⊢
  rw [if_neg (not_not_intro trivial), if_neg (show ¬ false = true by decide), w64_id (e := 1 + r) (by omega) (by omega), w64_id (e := 1 + r + d) (by omega) (by omega), w64_id (e := 1 + r + d - 1) (by omega) (by omega)]
  obtain ⟨f0, f1⟩ := frame_of hc.vs A0 A1
  obtain ⟨la, hl⟩ := hc.vs.acy (A / sz s.1) f0 f1
  have m0 := Int.emod_nonneg A (show sz s.1 ≠ 0 by omega)
  rw [cAt_ok hc.vs A0 A1 (k := 1 + r + d - 1) (by omega) (by omega) hl, Option.bind_some, show 1 + r + d - 1 = r + d by omega]
  cases had : adl (sz s.1) la (A % sz s.1 + (r + d)) with
  | none =>
    rw [if_pos (by decide)]
    exact ⟨_, 12, s, to, [], .torn hw (by rw [hA']; exact y2) (by rw [hA]; exact hl) (by rw [hA]; exact had), by rw [List.append_nil]⟩
  | some e =>
    obtain ⟨⟨e0, _⟩, _⟩ := adl_rng hc.vs hl (by omega) had
    rw [if_neg (by show ¬ e < 0; omega)]
    rcases cGrow_ok hc.vs hc.fit hc.own (n := 1 + r + d) (by omega) (by omega) with ⟨g1, g2⟩ | ⟨g1, u, to', b, l, l', g2, g⟩
    · rw [g2, Option.bind_some, if_pos (show (!false) = true from rfl)]
      exact ⟨_, 4, s, to, [], .full hw (by rw [hA']; exact y2) (by rw [hA]; exact hl) (by rw [hA]; exact had) g1, by rw [List.append_nil]⟩
    · rw [g2, Option.bind_some, if_neg (show ¬ (!true) = true by decide)]
      simp only [g.ws]
      have hq := hc.nn _ x2
      obtain ⟨pu, pfr⟩ := g.keepC hc.vs hl hq (fun he => hc.out (he ▸ x2))
      have hin := g.in_l hto.2.2.2.2.1 (by omega)
      have hsh := g.sh
      have hb := adl_rng (s := u) g.vs g.path hto.2.2.2.2.1 (by rw [hsh]; exact g.adr)
      rw [g.ws] at hb
      have hAf : (fr u.2.2 (A / sz s.1)).1 ∈ C := by
        cases la with
        | nil => rw [Pa] at hl; omega
        | cons f r' => obtain ⟨hf, _⟩ := hl; rw [pfr _ (by rw [hf]; simp)]; exact x2
      have hvu : VS (s.1, s.2.1, u.2.2) := by have := g.vs; rw [← hsh, ← g.ws]; exact this
      have key : ∃ bb, loopO (σ := Int × List (BitVec 64)) (β := BitVec 64 × Int × Cp) (fun s1 =>
          if s1.1 < 1 + r + d then
          Option.bind (Fcells_At (s.1, s1.2, u.2.2) b s1.1) (fun r5 =>
          Option.bind (Fcells_At (s.1, s1.2, u.2.2) A s1.1) (fun r6 =>
          if 0 ≤ r6 ∧ r6 < (s1.2.length : Int) then
          if 0 ≤ r5 ∧ r5 < (s1.2.length : Int) then
          some (Sum.inl ((w64 (s1.1 + 1), s1.2.set r5.toNat (gl (0#64 : (BitVec 64)) s1.2 r6.toNat))))
          else none
          else none))
          else Option.map Sum.inr (Option.bind (Fheader_Forward b) (fun r7 =>
          if 0 ≤ A ∧ A < (s1.2.length : Int) then
          if (mv.length + ([(A, b)] : List (Int × Int)).length) * 16 ≤ 140737488355328 then
          some (((BitVec.ofInt 64 b) + (1#64), 0, ((s.1, s1.2.set (A.toNat) r7.1, u.2.2), m, to', mv ++ ([(A, b)] : List (Int × Int)))))
          else none
          else none))) ((0, s.2.1)) = some bb ∧ bb = (BitVec.ofInt 64 b + 1#64, 0, (((s.1, (cpy (sz s.1) la (A % sz s.1) l' to.2.2.2.2 (1 + r + d).toNat s.2.1).set A.toNat (fwd b), u.2.2), m, to', mv ++ [(A, b)]) : Cp)) := by
        refine loopO_up (fun k (st : Int × List (BitVec 64)) => st.1 = (k : Int) ∧ (k : Int) ≤ 1 + r + d ∧ st.2 = cpy (sz s.1) la (A % sz s.1) l' to.2.2.2.2 k s.2.1 ∧ VS (s.1, st.2, u.2.2)) _ (1 + r + d).toNat ?_ ?_ ⟨rfl, by omega, rfl, hvu⟩
        · rintro k ⟨i, ws⟩ hk ⟨h1, h2, h3, h4⟩
          simp only at h1 h3 h4 ⊢
          subst h1
          have hlen : ws.length = s.2.1.length := by rw [h3, cpy_len]
          obtain ⟨p, hp⟩ := g.all_in hto.2.2.2.2.1 (by omega) (k := (k : Int)) (by omega) (by omega)
          obtain ⟨q, hq'⟩ := adl_less z had (p := A % sz s.1 + k) (by omega) (by omega)
          obtain ⟨⟨p0, p1⟩, p2⟩ := adl_rng h4 g.path (by omega) hp
          obtain ⟨⟨q0, q1⟩, q2⟩ := adl_rng h4 pu (by omega) hq'
          simp only at p1 q1 p2
          rw [if_pos (by omega), cAt_adl h4 g.path hto.2.2.2.2.1 g.adr (k := (k : Int)) (by omega) (by omega), Option.bind_some,
            cAt_ok h4 A0 (by simp only; omega) (k := (k : Int)) (by omega) (by omega) pu, Option.bind_some]
          simp only
          rw [hp, hq', show adlN (some p) = p from rfl, show adlN (some q) = q from rfl, if_pos ⟨q0, q1⟩, if_pos ⟨p0, p1⟩, w64_id (e := (k : Int) + 1) (by omega) (by omega)]
          refine .inl ⟨_, rfl, by simp only; omega, by omega, ?_, ?_⟩
          · simp only [cpy]
            rw [hp, hq', ← h3]; rfl
          · exact h4.word p0 (by simp only; rw [hin _ p2]; omega) _
        · rintro ⟨i, ws⟩ ⟨h1, h2, h3, h4⟩
          simp only at h1 h3 h4 ⊢
          have hlen : ws.length = s.2.1.length := by rw [h3, cpy_len]
          rw [if_neg (by omega), fForward_ok hb.1.1 (by omega), Option.bind_some, if_pos ⟨A0, by omega⟩, if_pos (by simp only [List.length_singleton]; omega)]
          exact ⟨_, rfl, by rw [h3]⟩
      obtain ⟨bb, k1, rfl⟩ := key
      refine ⟨_, 0, _, _, _, .moved hw (by rw [hA']; exact y2) (by rw [hA]; exact hl) (by rw [hA]; exact had) g, ?_⟩
      rw [hA]
      exact k1
/-- What a move keeps. -/
theorem MvR.cy {C : List Int} {s : Sp} {to : Inc} (hc : Cy C s to) {x v : BitVec 64} {e : Int} {t : Sp} {to' : Inc} {mm : List (Int × Int)} (h : MvR C s to x v e t to' mm) :
    Cy C t to' ∧ (∀ m, MaskC C s.2.2 m → MaskC C t.2.2 m) ∧ t.1 = s.1 ∧ t.2.1.length = s.2.1.length ∧ t.2.2.length = s.2.2.length ∧ to'.1 = to.1 ∧ mm.length ≤ 1 ∧ (∀ k : Int, 0 ≤ k → k < s.2.2.length → ((fr t.2.2 k).1 ∈ C ↔ (fr s.2.2 k).1 ∈ C)) := by
  cases h with
  | out | been | bad | torn | full => exact ⟨hc, fun _ h => h, rfl, rfl, rfl, rfl, by simp, fun _ _ _ => Iff.rfl⟩
  | @moved hw r d hh la hl e' ha u _ b l l' g =>
    have z := sz_pos' s.1
    have hto := hc.fit.1
    obtain ⟨x0, x1, x2⟩ := id hw
    have e2 := (sub1_nat x0).2
    obtain ⟨⟨r0, r1⟩, d0, d1⟩ := hd_rng hh
    simp only at r0 r1 d0 d1
    generalize hA : (x.toNat : Int) - 1 = A at *
    have hq := hc.nn _ x2
    have hne : (fr s.2.2 (A / sz s.1)).1 ≠ to.1 := fun he => hc.out (he ▸ x2)
    obtain ⟨pu, pfr⟩ := g.keepC hc.vs hl hq hne
    have hin := g.in_l hto.2.2.2.2.1 (by omega)
    have hvu : VS (s.1, s.2.1, u.2.2) := by have := g.vs; rw [← g.sh, ← g.ws]; exact this
    have hfr : ∀ k : Int, 0 ≤ k → k < s.2.2.length → ((fr u.2.2 k).1 ∈ C ↔ (fr s.2.2 k).1 ∈ C) := by
      intro k k0 k1
      constructor
      · intro hk
        have h1 : (fr u.2.2 k).1 ≠ to.1 := fun he => hc.out (he ▸ hk)
        have h2 := hc.nn _ hk
        have h3 : k ∈ owned u.2.2 (fr u.2.2 k).1 := mem_owned.2 ⟨⟨k0, by rw [g.len]; exact k1⟩, rfl⟩
        rw [g.oth _ h1 (by omega)] at h3
        rw [(mem_owned.1 h3).2]; exact hk
      · intro hk
        have h1 : (fr s.2.2 k).1 ≠ to.1 := fun he => hc.out (he ▸ hk)
        have h2 := hc.nn _ hk
        rw [g.frs k k0 k1 (by omega) h1]; exact hk
    have hvc : ∀ k : Nat, (k : Int) ≤ 1 + r + d → VS (s.1, cpy (sz s.1) la (A % sz s.1) l' to.2.2.2.2 k s.2.1, u.2.2) := by
      intro k
      induction k with
      | zero => intro _; exact hvu
      | succ k ih =>
        intro hk
        have h4 := ih (by omega)
        obtain ⟨p, hp⟩ := g.all_in hto.2.2.2.2.1 (by omega) (k := (k : Int)) (by omega) (by omega)
        obtain ⟨⟨p0, p1⟩, p2⟩ := adl_rng h4 g.path (by omega) hp
        simp only at p2
        simp only [cpy]
        rw [hp]
        exact h4.word p0 (by simp only; rw [hin _ p2]; omega) _
    have hv1 := hvc (1 + r + d).toNat (by omega)
    have hAm : A / sz s.1 ∈ la := by
      cases la with
      | nil => rw [Pa] at hl; have := frame_of hc.vs (a := A) (by omega) (by omega); omega
      | cons f r' => obtain ⟨hf, _⟩ := hl; rw [hf]; simp
    have hv2 := hv1.word (x := A) (by omega) (by simp only; rw [pfr _ hAm]; omega) (fwd b)
    simp only at hv2
    refine ⟨⟨hv2, ?_, ?_, by rw [g.seq]; exact hc.out, hc.nn⟩, ?_, rfl, ?_, g.len, g.seq, by simp, hfr⟩
    · have := FitS.words (s := u) (ws := (cpy (sz s.1) la (A % sz s.1) l' to.2.2.2.2 (1 + r + d).toNat s.2.1).set A.toNat (fwd b)) (by rw [List.length_set, cpy_len, g.ws]) g.fit
      rw [g.sh] at this
      exact this
    · intro h0
      rw [g.words] at h0; omega
    · intro m hm j hj
      rw [hm j hj, decide_eq_decide]
      simp only [g.len]
      constructor
      · rintro ⟨h1, h2⟩; exact ⟨h1, (hfr j (by omega) (by omega)).2 h2⟩
      · rintro ⟨h1, h2⟩; exact ⟨h1, (hfr j (by omega) (by omega)).1 h2⟩
    · simp only [List.length_set, cpy_len]
end Go.Proofs.YtokeceeccmgcmaaDoor
