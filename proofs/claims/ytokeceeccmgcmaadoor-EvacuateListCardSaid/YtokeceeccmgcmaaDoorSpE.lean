/-
  How increments grow in the reference.
-/
import Derived.Test.YtokeceeccmgcmaaDoorSpD
set_option linter.unusedVariables false
namespace Go.Proofs.YtokeceeccmgcmaaDoor
open Go Go.V3

/-- The frames of an increment. -/
def Has (s : Sp) (i : Inc) (l : List Int) : Prop := (i.2.2.2.2 = 0 ∧ l = []) ∨ (i.2.2.2.2 ≠ 0 ∧ Pa s.2.2 i.2.2.1 l)
/-- What is known while frames are taken. -/
structure Grows (s : Sp) (i : Inc) (l d r0 : List Int) (fs : List Fr) (F L : Int) : Prop where
  vs : VS (s.1, s.2.1, fs)
  len : fs.length = s.2.2.length
  split : frees s.2.2 = d ++ r0
  fre : frees fs = r0
  path : (l ++ d = [] ∧ F = -1 ∧ L = -1) ∨ (l ++ d ≠ [] ∧ Pa fs F (l ++ d) ∧ (l ++ d).getLast? = some L ∧ (fr fs F).1 = i.1 ∧ (fr fs F).2.1 = i.2.1 * 4294967296 + i.1)
  own : (owned fs i.1).length = (l ++ d).length
  oth : ∀ q, q ≠ i.1 → q ≠ -1 → owned fs q = owned s.2.2 q
  frs : ∀ x : Int, 0 ≤ x → x < s.2.2.length → (fr s.2.2 x).1 ≠ -1 → (fr s.2.2 x).1 ≠ i.1 → fr fs x = fr s.2.2 x

theorem Pa.head {fs : List Fr} {l : List Int} {i : Int} (h : Pa fs i l) (hl : l ≠ []) : 0 ≤ i ∧ i < fs.length ∧ i ∈ l := by
  cases l with
  | nil => exact absurd rfl hl
  | cons a r => obtain ⟨rfl, h0, h1, _⟩ := h; exact ⟨h0, h1, by simp⟩

theorem Grows.step {s : Sp} {i : Inc} {l d r : List Int} {f : Int} {fs : List Fr} {F L : Int} (h : Grows s i l d (f :: r) fs F L) (q0 : 0 ≤ i.1) (q1 : i.1 ≤ 4294967295) (b0 : 0 ≤ i.2.1) (b1 : i.2.1 < 4) :
    (F = -1 → Grows s i l (d ++ [f]) r (fs.set f.toNat (i.1, i.2.1 * 4294967296 + i.1, -1)) f f) ∧
    (F ≠ -1 → (0 ≤ L ∧ L < fs.length) ∧ Grows s i l (d ++ [f]) r ((fs.set f.toNat (i.1, i.2.1 * 4294967296 + i.1, -1)).set L.toNat
      ((fr (fs.set f.toNat (i.1, i.2.1 * 4294967296 + i.1, -1)) L).1, (fr (fs.set f.toNat (i.1, i.2.1 * 4294967296 + i.1, -1)) L).2.1, f)) F f) := by
  obtain ⟨⟨f0, f1⟩, f2, f3⟩ := frees_cons h.fre
  obtain ⟨v1, nx1⟩ := h.vs.take (f := f) (o := i.1) (b := i.2.1) f0 f1 f2 q0 q1 b0 b1
  simp only at v1 nx1
  obtain ⟨o1, o2, o3⟩ := owned_take (fs := fs) (o := i.1) (st := i.2.1 * 4294967296 + i.1) h.fre (by omega)
  have hfr : ∀ x : Int, 0 ≤ x → fr (fs.set f.toNat (i.1, i.2.1 * 4294967296 + i.1, -1)) x = if x = f then (i.1, i.2.1 * 4294967296 + i.1, -1) else fr fs x := fun x hx => fr_set f0 f1 hx
  have hfree := (h.vs.free (i := f) f0 f1 f2).1
  have nxf : nx (fs.set f.toNat (i.1, i.2.1 * 4294967296 + i.1, -1)) f = -1 := by
    rw [nx1 f f0 f1, nx_in f0 f1]; rw [show fr fs f = _ from hfree]
  have pf : Pa (fs.set f.toNat (i.1, i.2.1 * 4294967296 + i.1, -1)) f [f] := ⟨rfl, f0, by simpa using f1, nxf⟩
  have hsplit : frees s.2.2 = (d ++ [f]) ++ r := by rw [h.split]; simp
  have hfrs : ∀ x : Int, 0 ≤ x → x < s.2.2.length → (fr s.2.2 x).1 ≠ -1 → (fr s.2.2 x).1 ≠ i.1 → fr (fs.set f.toNat (i.1, i.2.1 * 4294967296 + i.1, -1)) x = fr s.2.2 x := by
    intro x x0 x1 x2 x3
    have hx := h.frs x x0 x1 x2 x3
    rw [hfr x x0, if_neg, hx]
    rintro rfl
    rw [hx] at f2; exact x2 f2
  refine ⟨fun hF => ?_, fun hF => ?_⟩
  · have hnil : l ++ d = [] := by
      rcases h.path with h1 | h1
      · exact h1.1
      · have := (Pa.head h1.2.1 h1.1).1; omega
    refine ⟨v1, by simp [h.len], hsplit, o1, .inr ?_, ?_, fun q h1 h2 => (o3 q h1 h2).trans (h.oth q h1 h2), hfrs⟩
    · rw [← List.append_assoc, hnil, List.nil_append, hfr f f0, if_pos rfl]
      exact ⟨by simp, pf, rfl, rfl, rfl⟩
    · rw [o2, h.own, ← List.append_assoc, hnil]; rfl
  · rcases h.path with h1 | ⟨h1, h2, h3, h4, h5⟩
    · exact absurd h1.2.1 hF
    obtain ⟨l1, l2⟩ := Pa.last h2 h3
    obtain ⟨L0, L1⟩ := Pa.mem h2 l2
    obtain ⟨F0, F1, F2⟩ := Pa.head h2 h1
    have hown := h.vs.owner h2 L l2
    simp only at hown
    rw [h4, h5] at hown
    have hLf : L ≠ f := by rintro rfl; rw [hown.1] at f2; omega
    have e1 : fr (fs.set f.toNat (i.1, i.2.1 * 4294967296 + i.1, -1)) L = fr fs L := by rw [hfr L L0, if_neg hLf]
    have e2 : fr (fs.set f.toNat (i.1, i.2.1 * 4294967296 + i.1, -1)) f = (i.1, i.2.1 * 4294967296 + i.1, -1) := by rw [hfr f f0, if_pos rfl]
    have hlen : (fs.set f.toNat (i.1, i.2.1 * 4294967296 + i.1, -1)).length = fs.length := by simp
    obtain ⟨v2, p2⟩ := v1.link (a := L) (f := f) (lf := [f]) L0 (by simp only; omega) f0 (by simp only; omega) (by simp only; rw [e1, hown.1]; omega) (by simp only; rw [nx1 L L0 L1]; exact l1)
      (by simp only; rw [e1, e2, hown.1]) (by simp only; rw [e1, e2, hown.2]) (by
        simp only
        intro j j0 j1 hj
        rw [nx1 j j0 (by omega)] at hj
        have hne : nx fs j ≠ -1 := by omega
        rw [nx_in j0 (by omega)] at hj hne
        rcases h.vs.fr j j0 (by simp only; omega) with ⟨g1, _⟩ | g1
        · rw [show fr fs j = _ from g1] at hne; exact hne rfl
        · have := (g1.2.2.2.2 hne).1
          simp only at this
          rw [hj, f2] at this
          have := g1.1.1
          simp only at this
          omega) pf (by simp [hLf])
    simp only at v2 p2
    have ow : ∀ q, owned ((fs.set f.toNat (i.1, i.2.1 * 4294967296 + i.1, -1)).set L.toNat ((fr (fs.set f.toNat (i.1, i.2.1 * 4294967296 + i.1, -1)) L).1, (fr (fs.set f.toNat (i.1, i.2.1 * 4294967296 + i.1, -1)) L).2.1, f)) q = owned (fs.set f.toNat (i.1, i.2.1 * 4294967296 + i.1, -1)) q := fun q => by
      refine owned_next L0 (by omega) ?_ q
      rfl
    refine ⟨⟨L0, L1⟩, v2, by simp [h.len], hsplit, ?_, .inr ⟨by simp, ?_, by simp, ?_, ?_⟩, ?_, ?_, ?_⟩
    · exact (ow (-1)).trans o1
    · have := p2 (l ++ d) F (h2.congr (by simp) nx1)
      rw [if_pos l2] at this
      rw [← List.append_assoc]; exact this
    · rw [fr_set L0 (by omega) F0]
      split
      · rw [e1, hown.1]
      · rw [hfr F F0, if_neg]
        · exact h4
        · rintro rfl; rw [h4] at f2; omega
    · rw [fr_set L0 (by omega) F0]
      split
      · rw [e1]; exact hown.2
      · rw [hfr F F0, if_neg]
        · exact h5
        · rintro rfl; rw [h4] at f2; omega
    · rw [ow, o2, h.own]; simp; omega
    · intro q g1 g2
      rw [ow, o3 q g1 g2]; exact h.oth q g1 g2
    · intro x x0 x1 x2 x3
      rw [fr_set L0 (by omega) x0, if_neg]
      · exact hfrs x x0 x1 x2 x3
      · rintro rfl
        have := hfrs x x0 x1 x2 x3
        rw [e1] at this
        rw [← this, hown.1] at x3
        exact x3 rfl

/-- One frame more. -/
def gstep (q st : Int) (x : List Fr × Int × Int) : List Fr × Int × Int := match frees x.1 with
  | [] => x
  | f :: _ => if x.2.1 = -1 then (x.1.set f.toNat (q, st, -1), f, f) else
      ((x.1.set f.toNat (q, st, -1)).set x.2.2.toNat ((fr (x.1.set f.toNat (q, st, -1)) x.2.2).1, (fr (x.1.set f.toNat (q, st, -1)) x.2.2).2.1, f), x.2.1, f)
def gw (q st : Int) : Nat → List Fr × Int × Int → List Fr × Int × Int
  | 0, x => x
  | k + 1, x => gstep q st (gw q st k x)
/-- An increment that has grown by n words; its frames were l and are l'; the new words begin at a. -/
structure Grown (s : Sp) (i : Inc) (n : Int) (t : Sp) (j : Inc) (a : Int) (l l' : List Int) : Prop where
  vs : VS t
  fit : FitS t j
  sh : t.1 = s.1
  ws : t.2.1 = s.2.1
  len : t.2.2.length = s.2.2.length
  seq : j.1 = i.1
  belt : j.2.1 = i.2.1
  words : j.2.2.2.2 = i.2.2.2.2 + n
  first : i.2.2.2.2 ≠ 0 → j.2.2.1 = i.2.2.1
  has : Has s i l
  path : Pa t.2.2 j.2.2.1 l'
  more : l' = l ++ (frees s.2.2).take (l'.length - l.length)
  fre : frees t.2.2 = (frees s.2.2).drop (l'.length - l.length)
  llen : (l.length : Int) = cl (sz s.1) i.2.2.2.2
  len' : (l'.length : Int) = cl (sz s.1) (i.2.2.2.2 + n)
  own : (owned t.2.2 i.1).length = l'.length
  oth : ∀ q, q ≠ i.1 → q ≠ -1 → owned t.2.2 q = owned s.2.2 q
  frs : ∀ x : Int, 0 ≤ x → x < s.2.2.length → (fr s.2.2 x).1 ≠ -1 → (fr s.2.2 x).1 ≠ i.1 → fr t.2.2 x = fr s.2.2 x
  adr : adl (sz s.1) l' i.2.2.2.2 = some a
  gw : (t.2.2, j.2.2.1, j.2.2.2.1) = gw i.1 (i.2.1 * 4294967296 + i.1) (cl (sz s.1) (i.2.2.2.2 + n) - cl (sz s.1) i.2.2.2.2).toNat (s.2.2, i.2.2.1, i.2.2.2.1)

theorem FitS.has {s : Sp} {i : Inc} (h : FitS s i) (hv : VS s) : ∃ l, Has s i l ∧ (l.length : Int) = cl (sz s.1) i.2.2.2.2 ∧ (i.2.2.2.2 ≠ 0 → l.length = (owned s.2.2 i.1).length ∧ l.getLast? = some i.2.2.2.1 ∧ l ≠ []) := by
  rcases h.2 with ⟨h1, h2, h3⟩ | ⟨h1, h2, h3, h4, l, h5, h6, h7, h8⟩
  · exact ⟨[], .inl ⟨h1, rfl⟩, by rw [h1, cl_zero (sz_pos' _)]; rfl, fun h => absurd h1 h⟩
  · refine ⟨l, .inr ⟨h1, h5⟩, h6, fun _ => ⟨h7, h8, ?_⟩⟩
    rintro rfl; simp at h8

theorem Extra_ok {s : Sp} (h : VS s) {i : Inc} (h0 : 0 ≤ i.2.2.2.2) (h1 : i.2.2.2.2 ≤ 16384) {n : Int} (n0 : 0 ≤ n) (n1 : n ≤ 1000) : Fbeltwayref09_Extra s i n = some (cl (sz s.1) (i.2.2.2.2 + n) - cl (sz s.1) i.2.2.2.2) := by
  have z := sz_pos' s.1
  have z2 := sz_le h.sh
  have c1 := cl_spec (n := i.2.2.2.2 + n) z
  have c2 := cl_nonneg z (show 0 ≤ i.2.2.2.2 + n by omega)
  have c3 := cl_nonneg z h0
  have c4 := cl_spec (n := i.2.2.2.2) z
  have b1 : cl (sz s.1) (i.2.2.2.2 + n) * 1 ≤ cl (sz s.1) (i.2.2.2.2 + n) * sz s.1 := Int.mul_le_mul_of_nonneg_left (by omega) c2
  have b2 : cl (sz s.1) i.2.2.2.2 * 1 ≤ cl (sz s.1) i.2.2.2.2 * sz s.1 := Int.mul_le_mul_of_nonneg_left (by omega) c3
  unfold Fbeltwayref09_Extra
  rw [w64_id (e := i.2.2.2.2 + n) (by omega) (by omega), Ceil_ok h.sh (by omega) (by omega), Frames_ok h h0 (by omega)]
  simp only [Option.bind_some]
  rw [w64_id (by omega) (by omega)]

theorem Grow_ok {s : Sp} (h : VS s) {i : Inc} (hf : FitS s i) (hown : i.2.2.2.2 = 0 → owned s.2.2 i.1 = []) {n : Int} (n0 : 1 ≤ n) (n1 : n ≤ 48) :
    (((frees s.2.2).length : Int) < cl (sz s.1) (i.2.2.2.2 + n) - cl (sz s.1) i.2.2.2.2 ∧ Fbeltwayref09_Grow s i n = some ((0, 0, 0, 0, 0), 0, 4, s.2.1, s.2.2)) ∨
    (cl (sz s.1) (i.2.2.2.2 + n) - cl (sz s.1) i.2.2.2.2 ≤ (frees s.2.2).length ∧ ∃ t j a l l', Fbeltwayref09_Grow s i n = some (j, a, 0, t.2.1, t.2.2) ∧ Grown s i n t j a l l') := by
  have hwl := VS.wlen h
  have hn := h.n.2
  have z := sz_pos' s.1
  have z2 := sz_le h.sh
  obtain ⟨⟨q0, q1, b0, b1, w0, w1⟩, hf2⟩ := id hf
  obtain ⟨l, hl1, hl2, hl3⟩ := hf.has h
  have hmono := cl_le z (show i.2.2.2.2 ≤ i.2.2.2.2 + n by omega)
  have hflen : (frees s.2.2).length ≤ s.2.2.length := owned_len s.2.2 (-1)
  unfold Fbeltwayref09_Grow
  rw [Extra_ok h w0 (by omega) (by omega) (by omega), Free_ok hn]
  simp only [Option.bind_some]
  by_cases hc : cl (sz s.1) (i.2.2.2.2 + n) - cl (sz s.1) i.2.2.2.2 > ((frees s.2.2).length : Int)
  · rw [if_pos hc]; exact .inl ⟨hc, rfl⟩
  rw [if_neg hc]
  refine .inr ⟨by omega, ?_⟩
  have hstart : Grows s i l [] (frees s.2.2) s.2.2 i.2.2.1 i.2.2.2.1 := by
    refine ⟨h, rfl, rfl, rfl, ?_, ?_, fun q _ _ => rfl, fun x _ _ _ _ => rfl⟩
    · rcases hl1 with ⟨g1, rfl⟩ | ⟨g1, g2⟩
      · rcases hf2 with ⟨_, g3, g4⟩ | ⟨g3, _⟩
        · exact .inl ⟨rfl, g3, g4⟩
        · exact absurd g1 g3
      · rcases hf2 with ⟨g3, _⟩ | ⟨_, g3, g4, g5, _⟩
        · exact absurd g3 g1
        · rw [List.append_nil]
          exact .inr ⟨(hl3 g1).2.2, g2, (hl3 g1).2.1, g4, g5⟩
    · rw [List.append_nil]
      by_cases hw : i.2.2.2.2 = 0
      · rw [hown hw]
        rcases hl1 with ⟨g1, rfl⟩ | ⟨g1, _⟩
        · rfl
        · exact absurd hw g1
      · exact (hl3 hw).1.symm
  generalize hneed : cl (sz s.1) (i.2.2.2.2 + n) - cl (sz s.1) i.2.2.2.2 = need at hc ⊢
  have hx := loopO_ind (β := ((Int × Int × Int × Int × Int) × Int × Int × (List (BitVec 64)) × (List (Int × Int × Int)))) (f := fun s1 : Int × (Int × Int × Int × Int × Int) × (List (BitVec 64)) × (List (Int × Int × Int)) =>
      if s1.1 > 0 then
      Option.bind (Fbeltwayref04_Lift (s.1, s1.2.2) s1.2.1.1 s1.2.1.2.1) (fun r3 =>
      if s1.2.1.2.2.1 = (-1) then
      some (Sum.inl ((w64 (s1.1 - 1), (s1.2.1.1, s1.2.1.2.1, r3.1, r3.1, s1.2.1.2.2.2.2), r3.2.1, r3.2.2)))
      else if 0 ≤ s1.2.1.2.2.2.1 ∧ s1.2.1.2.2.2.1 < (r3.2.2.length : Int) then
      some (Sum.inl ((w64 (s1.1 - 1), (s1.2.1.1, s1.2.1.2.1, s1.2.1.2.2.1, r3.1, s1.2.1.2.2.2.2), r3.2.1, r3.2.2.set s1.2.1.2.2.2.1.toNat ((gl (0, 0, 0) r3.2.2 s1.2.1.2.2.2.1.toNat).1, ((gl (0, 0, 0) r3.2.2 s1.2.1.2.2.2.1.toNat).2).1, r3.1))))
      else none)
      else Option.map Sum.inr (if True then
      Option.bind (Fbeltwayref05_Go (s.1, s1.2.2) (w64 (s1.2.1.2.2.1 * 2 ^ min (BitVec.ofInt 64 s.1).toNat 64)) i.2.2.2.2) (fun r4 =>
      some (((s1.2.1.1, s1.2.1.2.1, s1.2.1.2.2.1, s1.2.1.2.2.2.1, w64 (s1.2.1.2.2.2.2 + n)), r4.1, 0, s1.2.2.1, s1.2.2.2)))
      else none))
    (fun m st => st.1 = (m : Int) ∧ (m : Int) ≤ need ∧ ∃ d r0, (d.length : Int) + m = need ∧ st.2.1.1 = i.1 ∧ st.2.1.2.1 = i.2.1 ∧ st.2.1.2.2.2.2 = i.2.2.2.2 ∧ st.2.2.1 = s.2.1 ∧ Grows s i l d r0 st.2.2.2 st.2.1.2.2.1 st.2.1.2.2.2.1 ∧ (i.2.2.2.2 ≠ 0 → st.2.1.2.2.1 = i.2.2.1) ∧ (st.2.2.2, st.2.1.2.2.1, st.2.1.2.2.2.1) = gw i.1 (i.2.1 * 4294967296 + i.1) d.length (s.2.2, i.2.2.1, i.2.2.2.1))
    (fun b => ∃ t j a l', b = (j, a, 0, t.2.1, t.2.2) ∧ Grown s i n t j a l l') ?_ need.toNat (need, i, s.2.1, s.2.2) ⟨by omega, by omega, [], frees s.2.2, by simp; omega, rfl, rfl, rfl, rfl, hstart, fun _ => rfl, rfl⟩
  · obtain ⟨b, hb, t, j, a, l', rfl, hg⟩ := hx
    exact ⟨t, j, a, l, l', hb, hg⟩
  · rintro m ⟨k, ⟨sq, bt, F, L, wd⟩, ws, fs⟩ ⟨e1, e2, d, r0, e3, e4, e5, e6, e7, hg, hfirst, hgw⟩
    simp only at e1 e4 e5 e6 e7 hg hfirst hgw ⊢
    subst e1 e4 e5 e6 e7
    by_cases hm : m = 0
    · subst hm
      left
      rw [if_neg (by omega), if_pos trivial, pow_sz h.sh]
      have hld : ((l ++ d).length : Int) = cl (sz s.1) (i.2.2.2.2 + n) := by simp; omega
      have hpos : 0 < cl (sz s.1) (i.2.2.2.2 + n) := cl_pos z (by omega)
      rcases hg.path with h1 | ⟨g1, g2, g3, g4, g5⟩
      · rw [h1.1] at hld; simp at hld; omega
      obtain ⟨F0, F1, _⟩ := Pa.head g2 g1
      have hFz := mul_sz_le h.sh F0 (show F ≤ 64 by have := hg.len; omega)
      have hFw : F * sz s.1 < s.2.1.length := by
        rw [h.w]
        exact Int.mul_lt_mul_of_pos_right (by have := hg.len; omega) z
      have ha := addr_frame z (g := F) (o := 0) (by omega) z
      rw [Int.add_zero] at ha
      have hcs := cl_spec (n := i.2.2.2.2 + n) z
      obtain ⟨g, hg1, hg2⟩ := adl_some z (l := l ++ d) (off := i.2.2.2.2) w0 (by rw [hld]; omega)
      have hgo := Go_ok hg.vs (a := F * sz s.1) (k := i.2.2.2.2) hFz.1 hFw (by simp only; rw [ha.1, g4]; omega) w0 (by omega) (l := l ++ d) (by simp only; rw [ha.1]; exact g2)
      simp only at hgo
      rw [ha.2, Int.zero_add, hg2] at hgo
      rw [w64_id (e := F * sz s.1) (by omega) (by omega), hgo, w64_id (by omega) (by omega)]
      refine ⟨_, rfl, (s.1, s.2.1, fs), (i.1, i.2.1, F, L, i.2.2.2.2 + n), _, l ++ d, rfl, ?_⟩
      have hll := Pa.length g2
      have hlw : i.2.2.2.2 + n ≤ s.2.1.length := by
        have : cl (sz s.1) (i.2.2.2.2 + n) * sz s.1 ≤ s.2.2.length * sz s.1 := Int.mul_le_mul_of_nonneg_right (by have := hg.len; omega) (by omega)
        rw [h.w]; omega
      have hdl : (l ++ d).length - l.length = d.length := by simp
      refine ⟨hg.vs, ⟨⟨q0, q1, b0, b1, by simp only; omega, hlw⟩, .inr ⟨by simp only; omega, ⟨F0, by simp only; omega⟩, g4, g5, l ++ d, g2, hld, hg.own.symm, g3⟩⟩, rfl, rfl, hg.len, rfl, rfl, rfl, hfirst, hl1, g2, ?_, ?_, hl2, hld, hg.own, hg.oth, hg.frs, hg2, ?_⟩
      · rw [hdl, hg.split, List.take_left]
      · rw [hdl, hg.split, List.drop_left]; exact hg.fre
      · have e : need.toNat = d.length := by omega
        rw [hneed, e]; exact hgw
    · right
      rw [if_pos (by omega)]
      have hr0 : 0 < r0.length := by
        have := congrArg List.length hg.split
        simp at this
        omega
      cases r0 with
      | nil => simp at hr0
      | cons f r =>
        rw [Lift_ok (by have := hg.len; simp only; omega) (show frees (s.1, s.2.1, fs).2.2 = f :: r from hg.fre) q0 q1 b0 b1]
        simp only [Option.bind_some]
        obtain ⟨s1, s2⟩ := hg.step q0 q1 b0 b1
        rw [w64_id (e := (m : Int) - 1) (by omega) (by omega)]
        have hstep : gw i.1 (i.2.1 * 4294967296 + i.1) (d ++ [f]).length (s.2.2, i.2.2.1, i.2.2.2.1) = gstep i.1 (i.2.1 * 4294967296 + i.1) (fs, F, L) := by
          rw [List.length_append]
          show gstep _ _ (gw _ _ _ _) = _
          rw [hgw]
        have hfre : frees fs = f :: r := hg.fre
        by_cases hF : F = -1
        · rw [if_pos hF]
          refine ⟨m - 1, _, by omega, rfl, by simp only; omega, by omega, d ++ [f], r, by simp; omega, rfl, rfl, rfl, rfl, s1 hF, fun hw => ?_, by rw [hstep]; simp only [gstep, hfre, if_pos hF]⟩
          have := hfirst hw
          rcases hf2 with ⟨g1, _⟩ | ⟨_, g1, _⟩
          · exact absurd g1 hw
          · omega
        · obtain ⟨⟨s3, s4⟩, s5⟩ := s2 hF
          rw [if_neg hF, if_pos ⟨s3, by simpa using s4⟩]
          exact ⟨m - 1, _, by omega, rfl, by simp only; omega, by omega, d ++ [f], r, by simp; omega, rfl, rfl, rfl, rfl, s5, hfirst, by rw [hstep]; simp only [gstep, hfre, if_neg hF]; rfl⟩

theorem Grown.unique {s : Sp} {i : Inc} {n : Int} {t t2 : Sp} {j j2 : Inc} {a a2 : Int} {l l' l2 l2' : List Int} (g : Grown s i n t j a l l') (h : Grown s i n t2 j2 a2 l2 l2') : t = t2 ∧ j = j2 ∧ a = a2 := by
  have e := g.gw.trans h.gw.symm
  obtain ⟨t0, t1, fs⟩ := t
  obtain ⟨u0, u1, fs2⟩ := t2
  obtain ⟨q, b, F, L, w⟩ := j
  obtain ⟨q2, b2, F2, L2, w2⟩ := j2
  simp only [Prod.mk.injEq] at e
  obtain ⟨rfl, rfl, rfl⟩ := e
  obtain rfl := g.sh.trans h.sh.symm
  obtain rfl := g.ws.trans h.ws.symm
  obtain rfl := g.seq.trans h.seq.symm
  obtain rfl := g.belt.trans h.belt.symm
  obtain rfl := g.words.trans h.words.symm
  obtain rfl := g.path.fn h.path
  exact ⟨rfl, rfl, Option.some.inj (g.adr.symm.trans h.adr)⟩
/-- What the reference's Alloc does. -/
theorem Alloc_ok (s : Sp) (i : Inc) (n : Int) :
    (¬ (VS s ∧ FitS s i ∧ 1 ≤ n ∧ n ≤ 48) ∧ Fbeltwayref09_Alloc s i n = some ((0, [], []), (0, 0, 0, 0, 0), 0, 1)) ∨
    ((VS s ∧ FitS s i ∧ 1 ≤ n ∧ n ≤ 48) ∧ (
      (i.2.2.2.2 = 0 ∧ owned s.2.2 i.1 ≠ [] ∧ Fbeltwayref09_Alloc s i n = some ((0, [], []), (0, 0, 0, 0, 0), 0, 5)) ∨
      ((i.2.2.2.2 = 0 → owned s.2.2 i.1 = []) ∧ (
        (((frees s.2.2).length : Int) < cl (sz s.1) (i.2.2.2.2 + n) - cl (sz s.1) i.2.2.2.2 ∧ Fbeltwayref09_Alloc s i n = some ((0, [], []), (0, 0, 0, 0, 0), 0, 4)) ∨
        (cl (sz s.1) (i.2.2.2.2 + n) - cl (sz s.1) i.2.2.2.2 ≤ (frees s.2.2).length ∧ ∃ t j a l l', Fbeltwayref09_Alloc s i n = some (t, j, a, 0) ∧ Grown s i n t j a l l'))))) := by
  unfold Fbeltwayref09_Alloc
  obtain ⟨b, h1, h2⟩ := rIncValid_ok s i
  rw [h1]
  simp only [Option.bind_some]
  by_cases hb : b = true
  rotate_left
  · rw [if_pos (by simpa using hb)]
    exact .inl ⟨fun h => hb (h2.2 ⟨h.1, h.2.1⟩), rfl⟩
  obtain ⟨hv, hf⟩ := h2.1 hb
  rw [if_neg (by simp [hb])]
  by_cases c1 : n < 1
  · rw [if_pos c1]; exact .inl ⟨fun h => by omega, rfl⟩
  rw [if_neg c1]
  by_cases c2 : n > 48
  · rw [if_pos c2]; exact .inl ⟨fun h => by omega, rfl⟩
  rw [if_neg c2]
  refine .inr ⟨⟨hv, hf, by omega, by omega⟩, ?_⟩
  have key : (i.2.2.2.2 = 0 → owned s.2.2 i.1 = []) → ∃ x, Option.bind (Fbeltwayref03_Copy s) (fun r5 =>
      Option.bind (Fbeltwayref09_Grow r5 i n) (fun r6 =>
      if ¬ r6.2.2.1 = 0 then
      some (((0, [], []), (0, 0, 0, 0, 0), 0, r6.2.2.1))
      else some (((r5.1, r6.2.2.2), r6.1, r6.2.1, 0)))) = some x ∧
        ((((frees s.2.2).length : Int) < cl (sz s.1) (i.2.2.2.2 + n) - cl (sz s.1) i.2.2.2.2 ∧ x = ((0, [], []), (0, 0, 0, 0, 0), 0, 4)) ∨
        (cl (sz s.1) (i.2.2.2.2 + n) - cl (sz s.1) i.2.2.2.2 ≤ (frees s.2.2).length ∧ ∃ t j a l l', x = (t, j, a, 0) ∧ Grown s i n t j a l l')) := by
    intro hown
    rw [VS.copy hv]
    simp only [Option.bind_some]
    rcases Grow_ok hv hf hown (n := n) (by omega) (by omega) with ⟨g1, g2⟩ | ⟨g1, t, j, a, l, l', g2, g3⟩
    · rw [g2]
      exact ⟨_, rfl, .inl ⟨g1, rfl⟩⟩
    · rw [g2]
      simp only [Option.bind_some]
      rw [if_neg (by simp)]
      refine ⟨_, rfl, .inr ⟨g1, t, j, a, l, l', ?_, g3⟩⟩
      rw [← g3.sh]
  by_cases hw : i.2.2.2.2 = 0
  · rw [if_pos hw]
    obtain ⟨c, g1, g2⟩ := Owns_ok (s := s) hv.n.2 i.1
    rw [g1]
    simp only [Option.bind_some]
    by_cases hc : c = true
    · rw [if_pos hc]; exact .inl ⟨hw, g2.1 hc, rfl⟩
    · rw [if_neg hc]
      have hown : owned s.2.2 i.1 = [] := Classical.byContradiction fun h => hc (g2.2 h)
      obtain ⟨x, k1, k2⟩ := key fun _ => hown
      rw [k1]
      refine .inr ⟨fun _ => hown, ?_⟩
      rcases k2 with ⟨k2, rfl⟩ | ⟨k2, t, j, a, l, l', rfl, k3⟩
      · exact .inl ⟨k2, rfl⟩
      · exact .inr ⟨k2, t, j, a, l, l', rfl, k3⟩
  · rw [if_neg hw]
    obtain ⟨x, k1, k2⟩ := key fun h => absurd h hw
    rw [k1]
    refine .inr ⟨fun h => absurd h hw, ?_⟩
    rcases k2 with ⟨k2, rfl⟩ | ⟨k2, t, j, a, l, l', rfl, k3⟩
    · exact .inl ⟨k2, rfl⟩
    · exact .inr ⟨k2, t, j, a, l, l', rfl, k3⟩
end Go.Proofs.YtokeceeccmgcmaaDoor
