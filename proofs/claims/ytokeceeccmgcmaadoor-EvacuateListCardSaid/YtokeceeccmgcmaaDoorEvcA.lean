/-
  What package cells computes on valid spaces.
-/
import Derived.Test.YtokeceeccmgcmaaDoorWlkB
set_option linter.unusedVariables false
namespace Go.Proofs.YtokeceeccmgcmaaDoor
open Go Go.V3

theorem one_sz {s : Int} (h : 3 ≤ s ∧ s ≤ 8) : w64 ((1 : Int) * 2 ^ min (BitVec.ofInt 64 s).toNat 64) = sz s := by
  have := sz_le h
  rw [pow_sz h, Int.one_mul, w64_id (by omega) (by omega)]
/-- A place, or -1. -/
def adlN (o : Option Int) : Int := o.getD (-1)
theorem cAt_ok {s : Sp} (h : VS s) {a k : Int} (h0 : 0 ≤ a) (h1 : a < s.2.1.length) (k0 : 0 ≤ k) (k1 : k ≤ 1000000) {l : List Int} (hl : Pa s.2.2 (a / sz s.1) l) :
    Fcells_At s a k = some (adlN (adl (sz s.1) l (a % sz s.1 + k))) := by
  have hwl := VS.wlen h
  have hn := h.n.2
  have z := sz_pos' s.1
  obtain ⟨z1, z2⟩ := sz_le h.sh
  obtain ⟨f0, f1⟩ := frame_of h h0 h1
  have m0 := Int.emod_nonneg a (show sz s.1 ≠ 0 by omega)
  have m1 := Int.emod_lt_of_pos a z
  unfold Fcells_At
  simp only [one_sz h.sh]
  rw [if_pos trivial, if_pos trivial, w64_id (e := sz s.1 - 1) (by omega) (by omega), and_sz h.sh h0 (by omega), w64_id (e := a % sz s.1 + k) (by omega) (by omega), pow_sz h.sh]
  refine loopO_to (fun m (st : Int × Int) => (0 ≤ st.1 ∧ st.1 ≤ a % sz s.1 + k) ∧ ∃ l2, l2.length = m ∧ Pa s.2.2 st.2 l2 ∧ adl (sz s.1) l2 st.1 = adl (sz s.1) l (a % sz s.1 + k)) (n := l.length) ?_ ⟨⟨by simp only; omega, Int.le_refl _⟩, l, rfl, hl, rfl⟩
  rintro m ⟨q, g⟩ ⟨⟨g0, g1⟩, l2, g2, g3, g4⟩
  simp only at g0 g1 g3 g4 ⊢
  cases l2 with
  | nil =>
    left
    rw [Pa] at g3
    rw [if_neg (by omega), ← g4]; rfl
  | cons b r =>
    obtain ⟨rfl, i0, i1, i2⟩ := g3
    have hnx : (gl (0, 0, 0) s.2.2 g.toNat).2.2 = nx s.2.2 g := (nx_in i0 i1).symm
    have fm := mul_sz_le h.sh i0 (show g ≤ 64 by omega)
    rw [adl] at g4
    rw [if_pos i0]
    by_cases hq : q < sz s.1
    · left
      rw [if_pos hq] at g4
      rw [if_pos hq, if_pos trivial, w64_id (e := g * sz s.1) (by omega) (by omega), w64_id (by omega) (by omega), ← g4]; rfl
    · right
      rw [if_neg hq] at g4
      rw [if_neg hq, if_pos ⟨i0, i1⟩, hnx, w64_id (by omega) (by omega)]
      exact ⟨m - 1, _, by simp at g2; omega, rfl, ⟨by simp only; omega, by simp only; omega⟩, r, by simp at g2; omega, i2, g4⟩
theorem cCount_ok {s : Sp} (hn : s.2.2.length ≤ 64) : Fcells_count s = some ((frees s.2.2).length : Int) := by
  unfold Fcells_count
  refine (loopO_up (fun k (st : Int × Int) => st.2 = (k : Int) ∧ k ≤ s.2.2.length ∧ st.1 = (((rangeI k).filter fun i => decide ((fr s.2.2 i).1 = -1)).length : Int)) (fun b => b = ((frees s.2.2).length : Int)) s.2.2.length ?_ ?_ (s := ((0 : Int), (0 : Int))) ⟨rfl, by omega, rfl⟩).elim fun b h => by rw [h.1, h.2]
  · rintro k ⟨c, i⟩ hk ⟨h1, _, h2⟩
    simp only at h1 h2 ⊢
    subst h1
    have hl : (((rangeI k).filter fun i => decide ((fr s.2.2 i).1 = -1)).length : Int) ≤ k := by
      have := List.length_filter_le (fun i => decide ((fr s.2.2 i).1 = -1)) (rangeI k)
      rw [rangeI_length] at this; omega
    have hfr : gl (0, 0, 0) s.2.2 (k : Int).toNat = fr s.2.2 k := rfl
    rw [if_pos (by omega), if_pos (by omega), hfr, w64_id (e := (k : Int) + 1) (by omega) (by omega), w64_id (e := c + 1) (by omega) (by omega), rangeI_succ, List.filter_append]
    by_cases hf : (fr s.2.2 k).1 = -1
    · rw [if_pos hf]
      exact .inl ⟨_, rfl, by simp only; omega, by omega, by simp [h2, hf]⟩
    · rw [if_neg hf]
      exact .inl ⟨_, rfl, by simp only; omega, by omega, by simp [h2, hf]⟩
  · rintro ⟨c, i⟩ ⟨h1, _, h2⟩
    simp only at h1 h2 ⊢
    rw [if_neg (by omega)]
    exact ⟨_, rfl, h2⟩
theorem cFree_ok' {s : Sp} (hn : s.2.2.length ≤ 64) {f : Int} {r : List Int} (hf : frees s.2.2 = f :: r) : Fcells_free s = some f := by
  obtain ⟨⟨h0, h1⟩, h2, h3⟩ := frees_cons hf
  unfold Fcells_free
  refine (loopO_up (fun k (st : Int) => st = (k : Int) ∧ (k : Int) ≤ f) (fun b => b = f) s.2.2.length ?_ ?_ (s := (0 : Int)) ⟨rfl, h0⟩).elim fun b h => by rw [h.1, h.2]
  · rintro k st hk ⟨rfl, hkf⟩
    have hfr : gl (0, 0, 0) s.2.2 (k : Int).toNat = fr s.2.2 k := rfl
    rw [if_pos (by omega), if_pos (by omega), hfr, w64_id (e := (k : Int) + 1) (by omega) (by omega)]
    by_cases hc : (fr s.2.2 k).1 = -1
    · rw [if_pos hc]
      refine .inr ⟨_, rfl, ?_⟩
      rcases Int.lt_or_le (k : Int) f with hlt | hge
      · exact absurd hc (h3 k (by omega) hlt)
      · omega
    · rw [if_neg hc]
      refine .inl ⟨_, rfl, by omega, ?_⟩
      have : (k : Int) ≠ f := fun he => hc (by rw [he]; exact h2)
      omega
  · rintro st ⟨rfl, hkf⟩
    omega
theorem grown_of {x : Option (Int × Bool × List (BitVec 64) × List Fr × Inc)} {s : Sp} {i : Inc} {n : Int} (h : ∃ b, x = some b ∧ ∃ t j a l l', b = (a, true, t.2.1, t.2.2, j) ∧ Grown s i n t j a l l') :
    ∃ t j a l l', x = some (a, true, t.2.1, t.2.2, j) ∧ Grown s i n t j a l l' := by
  obtain ⟨b, rfl, t, j, a, l, l', rfl, g⟩ := h
  exact ⟨t, j, a, l, l', rfl, g⟩
/-- What cells.Grow does: what the reference does. -/
theorem cGrow_ok {s : Sp} (h : VS s) {i : Inc} (hf : FitS s i) (hown : i.2.2.2.2 = 0 → owned s.2.2 i.1 = []) {n : Int} (n0 : 1 ≤ n) (n1 : n ≤ 48) :
    (((frees s.2.2).length : Int) < cl (sz s.1) (i.2.2.2.2 + n) - cl (sz s.1) i.2.2.2.2 ∧ Fcells_Grow s i n = some (0, false, s.2.1, s.2.2, i)) ∨
    (cl (sz s.1) (i.2.2.2.2 + n) - cl (sz s.1) i.2.2.2.2 ≤ (frees s.2.2).length ∧ ∃ t j a l l', Fcells_Grow s i n = some (a, true, t.2.1, t.2.2, j) ∧ Grown s i n t j a l l') := by
  have hwl := VS.wlen h
  have hn := h.n.2
  have z := sz_pos' s.1
  obtain ⟨z1, z2⟩ := sz_le h.sh
  obtain ⟨⟨q0, q1, b0, b1, w0, w1⟩, hf2⟩ := id hf
  obtain ⟨l, hl1, hl2, hl3⟩ := hf.has h
  have hmono := cl_le z (show i.2.2.2.2 ≤ i.2.2.2.2 + n by omega)
  have hflen : (frees s.2.2).length ≤ s.2.2.length := owned_len s.2.2 (-1)
  have hstart := Grows.start h hf hown hl1 hl3
  have c0 := cl_small z1 w0
  have c1 := cl_small (z := sz s.1) (w := i.2.2.2.2 + n) z1 (by omega)
  unfold Fcells_Grow
  simp only [one_sz h.sh]
  rw [if_pos trivial, if_pos trivial, if_pos trivial, cCount_ok hn, Option.bind_some, w64_id (e := i.2.2.2.2 + n) (by omega) (by omega), w64_id (e := i.2.2.2.2 + n + sz s.1) (by omega) (by omega), w64_id (e := i.2.2.2.2 + n + sz s.1 - 1) (by omega) (by omega),
    w64_id (e := i.2.2.2.2 + sz s.1) (by omega) (by omega), w64_id (e := i.2.2.2.2 + sz s.1 - 1) (by omega) (by omega), pow_sz h.sh, show (i.2.2.2.2 + n + sz s.1 - 1) / sz s.1 = cl (sz s.1) (i.2.2.2.2 + n) from rfl, show (i.2.2.2.2 + sz s.1 - 1) / sz s.1 = cl (sz s.1) i.2.2.2.2 from rfl,
    w64_id (e := cl (sz s.1) (i.2.2.2.2 + n) - cl (sz s.1) i.2.2.2.2) (by omega) (by omega)]
  generalize hneed : cl (sz s.1) (i.2.2.2.2 + n) - cl (sz s.1) i.2.2.2.2 = need
  by_cases hc : ((frees s.2.2).length : Int) < need
  · rw [if_pos hc]; exact .inl ⟨hc, rfl⟩
  rw [if_neg hc]
  refine .inr ⟨by omega, ?_⟩
  refine grown_of ?_
  · refine loopO_up (fun k (st : Int × Inc × List Fr) => st.1 = need - (k : Int) ∧ (k : Int) ≤ need ∧ ∃ d r0 fs F L, d.length = k ∧ st.2 = ((i.1, i.2.1, F, L, i.2.2.2.2), fs) ∧ Grows s i l d r0 fs F L ∧ (i.2.2.2.2 ≠ 0 → F = i.2.2.1) ∧ (fs, F, L) = gw i.1 (i.2.1 * 4294967296 + i.1) d.length (s.2.2, i.2.2.1, i.2.2.2.1))
      (fun b => ∃ t j a l l', b = (a, true, t.2.1, t.2.2, j) ∧ Grown s i n t j a l l') need.toNat ?_ ?_ (s := (need, i, s.2.2)) ⟨by simp, by omega, [], frees s.2.2, s.2.2, i.2.2.1, i.2.2.2.1, rfl, rfl, hstart, fun _ => rfl, rfl⟩
    · rintro k ⟨c, ⟨sq, bt, F, L, wd⟩, fs0⟩ hk ⟨e1, e2, d, r0, fs, F', L', e3, e4, hg, hfirst, hgw⟩
      simp only [Prod.mk.injEq] at e1 e4 ⊢
      obtain ⟨⟨rfl, rfl, rfl, rfl, rfl⟩, rfl⟩ := e4
      subst e1
      rw [if_pos (by omega)]
      have hr0 : 0 < r0.length := by
        have := congrArg List.length hg.split
        simp at this
        omega
      cases r0 with
      | nil => simp at hr0
      | cons f r =>
        have hfre : frees fs0 = f :: r := hg.fre
        have hlen := hg.len
        obtain ⟨⟨f0, f1⟩, -⟩ := frees_cons hfre
        obtain ⟨s1, s2⟩ := hg.step q0 q1 b0 b1
        have hstep : gw i.1 (i.2.1 * 4294967296 + i.1) (d ++ [f]).length (s.2.2, i.2.2.1, i.2.2.2.1) = gstep i.1 (i.2.1 * 4294967296 + i.1) (fs0, F, L) := by
          rw [List.length_append]
          show gstep _ _ (gw _ _ _ _) = _
          rw [hgw]
        rw [cFree_ok' (s := (s.1, s.2.1, fs0)) (by show fs0.length ≤ 64; omega) hfre, Option.bind_some, if_pos ⟨f0, by omega⟩, w64_id (e := i.2.1 * 4294967296) (by omega) (by omega), w64_id (e := i.2.1 * 4294967296 + i.1) (by omega) (by omega), w64_id (e := need - (k : Int) - 1) (by omega) (by omega)]
        left
        rcases hg.path with ⟨p1, p2, p3⟩ | ⟨p1, p2, p3, -⟩
        · subst p2; subst p3
          rw [if_neg (by omega)]
          exact ⟨_, rfl, by simp only; omega, by omega, d ++ [f], r, _, _, _, by simp; omega, rfl, s1 rfl, fun hw => absurd (hfirst hw) (by
            rcases hf2 with ⟨g1, _⟩ | ⟨_, g1, _⟩
            · exact absurd g1 hw
            · omega), by rw [hstep]; simp only [gstep, hfre, if_true]⟩
        · have hF : F ≠ -1 := by have := Pa.head p2 p1; omega
          obtain ⟨⟨L0, L1⟩, hgs⟩ := s2 hF
          rw [if_pos (by omega), if_pos ⟨by omega, by rw [List.length_set]; exact L1⟩]
          exact ⟨_, rfl, by simp only; omega, by omega, d ++ [f], r, _, _, _, by simp; omega, rfl, hgs, hfirst, by rw [hstep]; simp only [gstep, hfre, if_neg hF]; rfl⟩
    · rintro ⟨c, ⟨sq, bt, F, L, wd⟩, fs0⟩ ⟨e1, e2, d, r0, fs, F', L', e3, e4, hg, hfirst, hgw⟩
      simp only [Prod.mk.injEq] at e1 e4 ⊢
      obtain ⟨⟨rfl, rfl, rfl, rfl, rfl⟩, rfl⟩ := e4
      subst e1
      rw [if_neg (by omega), if_pos trivial]
      refine map_inr ?_
      obtain ⟨⟨F0, F1⟩, g4, a, hgr⟩ := hg.done h hf n0 n1 hl1 hl2 (by omega) hfirst hgw
      have hFz := mul_sz_le h.sh F0 (show F ≤ 64 by have := hg.len; omega)
      have hFw : F * sz s.1 < s.2.1.length := by
        rw [h.w]
        exact Int.mul_lt_mul_of_pos_right (by have := hg.len; omega) z
      have ha := addr_frame z (g := F) (o := 0) (by omega) z
      rw [Int.add_zero] at ha
      have hst := cAt_ok hg.vs (a := F * sz s.1) (k := i.2.2.2.2) hFz.1 hFw w0 (by omega) (l := l ++ d) (by simp only; rw [ha.1]; exact hgr.path)
      simp only at hst
      rw [ha.2, Int.zero_add, hgr.adr] at hst
      rw [w64_id (e := F * sz s.1) (by omega) (by omega), hst, Option.bind_some, w64_id (e := i.2.2.2.2 + n) (by omega) (by omega)]
      exact ⟨_, rfl, _, _, _, _, _, rfl, hgr⟩
end Go.Proofs.YtokeceeccmgcmaaDoor
