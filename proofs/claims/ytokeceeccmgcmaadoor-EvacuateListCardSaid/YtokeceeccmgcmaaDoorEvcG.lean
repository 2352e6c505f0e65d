/-
  A list of objects that is copied: what is known on the way.
-/
import Derived.Test.YtokeceeccmgcmaaDoorEvcE
set_option linter.unusedVariables false
namespace Go.Proofs.YtokeceeccmgcmaaDoor
open Go Go.V3

theorem has_one {s : Sp} {i : Inc} {l l' : List Int} (h : Has s i l) (h' : Has s i l') : l = l' := by
  rcases h with ⟨h1, rfl⟩ | ⟨h1, h2⟩ <;> rcases h' with ⟨h3, rfl⟩ | ⟨h3, h4⟩
  · rfl
  · exact absurd h1 h3
  · exact absurd h3 h1
  · exact h2.fn h4
/-- A copy of k objects of n = 2 + m words at A: y are copied, the references of d are moved. -/
structure LC (k : Nat) (n m : Int) (A : Nat → Int) (f : Int) (la : List Int) (d y : Nat) (s : Sp) (to : Inc) (lb : List Int) (mv : List (Int × Int)) : Prop where
  k1 : k ≤ 40
  m0 : 0 ≤ m
  m1 : m ≤ 2
  nm : n = 2 + m
  z : sz s.1 = 16
  cy : Cy [0] s to
  seq : to.1 = 1
  wd : to.2.2.2.2 = (y : Int) * n
  has : Has s to lb
  pa : Pa s.2.2 f la
  own : (fr s.2.2 f).1 = 0
  len : (k : Int) * n ≤ la.length * 16
  fre : (cl 16 ((k : Int) * n)) + cl 16 ((y : Int) * n) + (frees s.2.2).length = 40
  dy : d ≤ y
  yk : y ≤ k
  mlen : mv.length = y
  frm : ∀ q, q < y → (gl (0, 0) mv q).1 = A q
  tob : ∀ q : Nat, q < y → adl 16 lb ((q : Int) * n) = some (gl (0, 0) mv q).2
  apl : ∀ q : Nat, q < k → adl 16 la ((q : Int) * n) = some (A q)
  fw : ∀ q, q < y → gl 0#64 s.2.1 (A q).toNat = fwd (gl (0, 0) mv q).2
  hda : ∀ q, y ≤ q → q < k → gl 0#64 s.2.1 (A q).toNat = hdr 1 m
  rfa : ∀ q : Nat, y ≤ q → q < k → ∀ x, adl 16 la ((q : Int) * n + 1) = some x → gl 0#64 s.2.1 x.toNat = BitVec.ofInt 64 (A ((q + 1) % k) + 1)
  hdb : ∀ q, q < y → gl 0#64 s.2.1 (gl (0, 0) mv q).2.toNat = hdr 1 m
  lnk : ∀ q : Nat, q < d → ∀ x, adl 16 lb ((q : Int) * n + 1) = some x → gl 0#64 s.2.1 x.toNat = BitVec.ofInt 64 (gl (0, 0) mv ((q + 1) % k)).2 + 1#64
  slt : ∀ q : Nat, d ≤ q → q < y → ∀ x, adl 16 lb ((q : Int) * n + 1) = some x → gl 0#64 s.2.1 x.toNat = BitVec.ofInt 64 (A ((q + 1) % k) + 1)

theorem mulN {q q' : Nat} {n : Int} (h : q < q') (hn : 0 ≤ n) : (q : Int) * n + n ≤ (q' : Int) * n := by
  have h1 : ((q : Int) + 1) * n ≤ (q' : Int) * n := Int.mul_le_mul_of_nonneg_right (by omega) hn
  rw [Int.add_mul, Int.one_mul] at h1
  exact h1
theorem mulN0 {q : Nat} {n : Int} (hn : 0 ≤ n) : 0 ≤ (q : Int) * n := Int.mul_nonneg (by omega) hn
theorem ofInt_nat {a : Int} (h0 : 0 ≤ a) (h1 : a ≤ 1000000) : (BitVec.ofInt 64 a).toNat = a.toNat := by
  rw [BitVec.toNat_ofInt]; omega
/-- A word to an object of the list points into the condemned frames. -/
theorem LC.wn {k : Nat} {n m : Int} {A : Nat → Int} {f : Int} {la : List Int} {d y : Nat} {s : Sp} {to : Inc} {lb : List Int} {mv : List (Int × Int)} (h : LC k n m A f la d y s to lb mv) {q : Nat} (hq : q < k) :
    Wn [0] s (BitVec.ofInt 64 (A q + 1)) ∧ ((BitVec.ofInt 64 (A q + 1)).toNat : Int) - 1 = A q ∧ 0 ≤ A q ∧ A q < s.2.1.length ∧ A q / 16 ∈ la := by
  have hwl := VS.wlen h.cy.vs
  have hnm := h.nm
  have := h.m0
  obtain ⟨⟨a0, a1⟩, a2⟩ := adl_rng h.cy.vs h.pa (mulN0 (q := q) (n := n) (by omega)) (by rw [h.z]; exact h.apl q hq)
  have e1 : ((BitVec.ofInt 64 (A q + 1)).toNat : Int) - 1 = A q := by rw [ofInt_nat (by omega) (by omega)]; omega
  refine ⟨⟨fun he => ?_, by omega, ?_⟩, e1, a0, a1, by rw [← h.z]; exact a2⟩
  · have h2 : (BitVec.ofInt 64 (A q + 1)).toNat = 0 := by rw [he]; rfl
    rw [ofInt_nat (by omega) (by omega)] at h2; omega
  · rw [e1, (h.cy.vs.owner h.pa _ a2).1, h.own]; simp
theorem LC.lbl {k : Nat} {n m : Int} {A : Nat → Int} {f : Int} {la : List Int} {d y : Nat} {s : Sp} {to : Inc} {lb : List Int} {mv : List (Int × Int)} (h : LC k n m A f la d y s to lb mv) : (y : Int) * n ≤ lb.length * 16 := by
  obtain ⟨l, h1, h2, _⟩ := h.cy.fit.has h.cy.vs
  obtain rfl := has_one h1 h.has
  have := cl_spec (n := (y : Int) * n) (z := 16) (by omega)
  rw [h.wd, h.z] at h2
  omega
theorem cl16 {a b : Int} (h : a ≤ b) : cl 16 a ≤ cl 16 b := cl_le (by omega) h
/-- The next object is copied. -/
theorem LC.grow {k : Nat} {n m : Int} {A : Nat → Int} {f : Int} {la : List Int} {d y : Nat} {s : Sp} {to : Inc} {lb : List Int} {mv : List (Int × Int)} (h : LC k n m A f la d y s to lb mv) (hy : y < k) (hdy : d = 0 ∨ d < y)
    {v : BitVec 64} {e : Int} {t : Sp} {to' : Inc} {mm : List (Int × Int)} (hm : MvR [0] s to (BitVec.ofInt 64 (A y + 1)) v e t to' mm) :
    ∃ lb' b, e = 0 ∧ v = BitVec.ofInt 64 b + 1#64 ∧ mm = [(A y, b)] ∧ (∀ i a, adl 16 lb i = some a → adl 16 lb' i = some a) ∧ LC k n m A f la d (y + 1) t to' lb' (mv ++ mm) := by
  obtain ⟨w1, w2, w3, w4, w5⟩ := h.wn hy
  have hnm := h.nm
  have m0 := h.m0
  have m1 := h.m1
  have hk := h.k1
  have n0 : (0 : Int) ≤ n := by omega
  have hz := h.z
  have hlen := h.len
  have hfre := h.fre
  have htw := h.wd
  have hy2 := mulN (n := n) hy n0
  have hy0 := mulN0 (q := y) n0
  have hk2 : (k : Int) * n ≤ 160 := by
    have : (k : Int) * n ≤ 40 * n := Int.mul_le_mul_of_nonneg_right (by omega) n0
    omega
  have hhd : hd (hwd s (BitVec.ofInt 64 (A y + 1))) = some (1, m) := by
    rw [show hwd s (BitVec.ofInt 64 (A y + 1)) = gl 0#64 s.2.1 (A y).toNat from by show gl 0#64 s.2.1 (((BitVec.ofInt 64 (A y + 1)).toNat : Int) - 1).toNat = _; rw [w2], h.hda y (Nat.le_refl _) hy, hd_hdr (by omega) (by omega) m0 (by omega)]
  have hdec : ∀ {yy}, Fheader_Decode (hwd s (BitVec.ofInt 64 (A y + 1))) = some yy → yy = (1, m, 0, false, 0) := by
    intro yy hyy
    obtain ⟨y', g1, g2⟩ := pDec_ok (hwd s (BitVec.ofInt 64 (A y + 1)))
    rw [hyy] at g1
    obtain rfl := Option.some.inj g1
    rcases g2 with ⟨o, g2, g3⟩ | ⟨g2, _⟩
    · rw [hhd] at g2
      obtain rfl := Option.some.inj g2
      exact g3
    · rw [hhd] at g2; cases g2
  -- places of the old chain
  have hpl : ∀ {l2 : List Int}, Pa s.2.2 (A y / sz s.1) l2 → ∀ i, 0 ≤ i → adl 16 l2 (A y % 16 + i) = adl 16 la ((y : Int) * n + i) := by
    intro l2 hl2 i i0
    obtain ⟨l3, p1, _, p2⟩ := adl_step (z := 16) (by omega) h.pa hy0 (h.apl y hy) i0
    rw [hz] at hl2
    rw [hl2.fn p1]; exact p2
  have hap : ∀ i, 0 ≤ i → i < n → ∃ q, adl 16 la ((y : Int) * n + i) = some q := by
    intro i i0 i1
    have h1 : (y : Int) * n + i < (la.length : Int) * 16 := by omega
    obtain ⟨g, _, hg⟩ := adl_some (z := 16) (by omega) (l := la) (off := (y : Int) * n + i) (by omega) h1
    exact ⟨_, hg⟩
  cases hm with
  | out hw => exact absurd w1 hw
  | been hw hd h0 h1 => rw [hdec hd] at h1; cases h1
  | bad hw hd h0 => rw [hdec hd] at h0; exact absurd rfl h0
  | torn hw hh hl ha =>
    rw [hhd] at hh
    simp only [Option.some.injEq, Prod.mk.injEq] at hh
    obtain ⟨rfl, rfl⟩ := hh
    rw [w2] at hl ha
    rw [hz, hpl hl _ (by omega)] at ha
    obtain ⟨q, hq⟩ := hap (1 + m) (by omega) (by omega)
    rw [hq] at ha; cases ha
  | full hw hh hl ha hf =>
    rw [hhd] at hh
    simp only [Option.some.injEq, Prod.mk.injEq] at hh
    obtain ⟨rfl, rfl⟩ := hh
    rw [hz, htw] at hf
    have c1 := cl16 hk2
    have c2 : cl 16 ((y : Int) * n + (1 + 1 + m)) ≤ cl 16 160 := cl16 (by omega)
    have c3 : cl 16 160 = 10 := by decide
    omega
  | @moved hw r dd hh l2 hl e' ha u _ b l l' hg =>
    have hr : r = 1 ∧ dd = m := by
      rw [hhd] at hh
      simp only [Option.some.injEq, Prod.mk.injEq] at hh
      exact ⟨hh.1.symm, hh.2.symm⟩
    obtain ⟨rfl, rfl⟩ := hr
    have MW := moved_words h.cy hw hh hl ha hg rfl
    have hcy := (MvR.cy h.cy (.moved hw hh hl ha hg)).1
    generalize (cpy (sz s.1) l2 ((((BitVec.ofInt 64 (A y + 1)).toNat : Int) - 1) % sz s.1) l' to.2.2.2.2 (1 + 1 + dd).toNat s.2.1).set (((BitVec.ofInt 64 (A y + 1)).toNat : Int) - 1).toNat (fwd b) = W at MW hcy ⊢
    obtain ⟨k1, k2, k3, k4⟩ := MW
    have hnn : (1 : Int) + 1 + dd = n := by omega
    have hlb := h.lbl
    have hvu : VS (s.1, s.2.1, u.2.2) := by have := hg.vs; rw [← hg.sh, ← hg.ws]; exact this
    obtain rfl := has_one h.has hg.has
    rw [hnn] at hg k1 k2
    rw [w2] at hl
    simp only [w2] at k1 k2 k3
    rw [w2]
    simp only [hz, htw] at k1 k2 k4
    have hc := cl_spec (n := (y : Int) * n + n) (z := 16) (by omega)
    have hll : (l'.length : Int) = cl 16 ((y : Int) * n + n) := by have := hg.len'; rw [hz, htw] at this; exact this
    have hadr : adl 16 l' ((y : Int) * n) = some b := by have := hg.adr; rw [hz, htw] at this; exact this
    have hmore : ∀ {i a}, adl 16 lb i = some a → adl 16 l' i = some a := by
      intro i a hi
      rw [hg.more]; exact adl_append hi
    have hback : ∀ {i a}, 0 ≤ i → i < (y : Int) * n → adl 16 l' i = some a → adl 16 lb i = some a := by
      intro i a i0 i1 hi
      obtain ⟨g, _, hg'⟩ := adl_some (z := 16) (by omega) (l := lb) (off := i) i0 (by omega)
      rw [hmore hg'] at hi
      rw [hg', hi]
    have hnd := hg.path.nodup
    have hndA := h.pa.nodup
    have hCA : ∀ {q : Int} {i}, adl 16 la i = some q → 0 ≤ i → (fr s.2.2 (q / 16)).1 ∈ [(0 : Int)] ∧ 0 ≤ q := by
      intro q i hi i0
      obtain ⟨g1, g2⟩ := adl_rng h.cy.vs h.pa i0 (by rw [hz]; exact hi)
      have := (h.cy.vs.owner h.pa _ g2).1
      rw [hz] at this
      exact ⟨by rw [this, h.own]; simp, g1.1⟩
    -- what stays: words of the old chain, and earlier copies
    have keepA : ∀ {q : Int} {i}, adl 16 la i = some q → 0 ≤ i → i ≠ (y : Int) * n → gl 0#64 W q.toNat = gl 0#64 s.2.1 q.toNat := by
      intro q i hi i0 hne
      obtain ⟨c1, c2⟩ := hCA hi i0
      refine k1 q c2 (fun he => ?_) fun j j0 j1 hj => k4 q _ hj (by omega) c1
      subst he
      exact hne (adl_inj (by omega) hndA i0 hy0 hi (h.apl y hy))
    have keepB : ∀ {q : Int} {i}, adl 16 l' i = some q → 0 ≤ i → i < (y : Int) * n → gl 0#64 W q.toNat = gl 0#64 s.2.1 q.toNat := by
      intro q i hi i0 i1
      obtain ⟨⟨q0, _⟩, _⟩ := adl_rng hvu hg.path i0 (by simp only; rw [hz]; exact hi)
      refine k1 q q0 (fun he => ?_) fun j j0 j1 hj => ?_
      · subst he
        exact k4 _ _ hi i0 (hCA (h.apl y hy) hy0).1
      · have := adl_inj (by omega) hnd i0 (by omega) hi hj
        omega
    have hg1 : ∀ q, q < y → gl (0, 0) (mv ++ [(A y, b)]) q = gl (0, 0) mv q := fun q hq => gl_app (by rw [h.mlen]; exact hq)
    have hg2 : gl (0, 0) (mv ++ [(A y, b)]) y = (A y, b) := by
      unfold gl
      rw [List.getD_eq_getElem?_getD, List.getElem?_append_right (by rw [h.mlen]; omega), h.mlen, Nat.sub_self]; rfl
    have hA2 : ∀ q : Nat, (q + 1 : Nat) * n = (q : Int) * n + n := by
      intro q
      rw [Int.natCast_add, Int.add_mul]; simp
    have hfl := hg.fre
    have htake : l'.length - lb.length ≤ (frees s.2.2).length := by
      have := congrArg List.length hg.more
      rw [List.length_append, List.length_take] at this
      omega
    have hpn : ∀ {q : Nat}, q < y → (q : Int) * n + n ≤ (y : Int) * n ∧ 0 ≤ (q : Int) * n := fun hq => ⟨mulN hq n0, mulN0 n0⟩
    obtain ⟨pu, pfr⟩ := hg.keepC h.cy.vs h.pa (by rw [h.own]; omega) (by rw [h.own, h.seq]; omega)
    have hlbl : (lb.length : Int) = cl 16 ((y : Int) * n) := by have := hg.llen; rw [hz, htw] at this; exact this
    have hfm : f ∈ la := by
      have := h.pa
      cases la with
      | nil => simp at hlen; omega
      | cons g r => obtain ⟨rfl, _⟩ := this; simp
    refine ⟨l', b, rfl, rfl, rfl, fun _ _ => hmore, ⟨h.k1, h.m0, h.m1, h.nm, hz, hcy, hg.seq.trans h.seq, ?_, ?_, pu, ?_, h.len, ?_, by have := h.dy; omega, hy, by simp [h.mlen], ?_, ?_, h.apl, ?_, ?_, ?_, ?_, ?_, ?_⟩⟩
    · rw [hg.words, htw, hA2]
    · exact .inr ⟨by rw [hg.words, htw]; omega, hg.path⟩
    · simp only; rw [pfr f hfm, h.own]
    · simp only
      rw [hA2, hfl, List.length_drop]
      have hmono := cl16 (show (y : Int) * n ≤ (y : Int) * n + n by omega)
      omega
    · intro q hq
      by_cases hqy : q = y
      · subst hqy; rw [hg2]
      · rw [hg1 q (by omega)]; exact h.frm q (by omega)
    · intro q hq
      by_cases hqy : q = y
      · subst hqy; rw [hg2]; exact hadr
      · rw [hg1 q (by omega)]; exact hmore (h.tob q (by omega))
    · intro q hq
      by_cases hqy : q = y
      · subst hqy; rw [hg2]; exact k3
      · rw [hg1 q (by omega)]
        have := hpn (q := q) (by omega)
        exact (keepA (h.apl q (by omega)) this.2 (by omega)).trans (h.fw q (by omega))
    · intro q q0 q1
      have := mulN (n := n) (show y < q by omega) n0
      exact (keepA (h.apl q q1) (by omega) (by omega)).trans (h.hda q (by omega) q1)
    · intro q q0 q1 x hx
      have := mulN (n := n) (show y < q by omega) n0
      exact (keepA hx (by omega) (by omega)).trans (h.rfa q (by omega) q1 x hx)
    · intro q hq
      by_cases hqy : q = y
      · subst hqy; rw [hg2]
        have := k2 0 (by omega) (by omega) b (A q) (by rw [Int.add_zero]; exact hadr) (by rw [hpl hl 0 (by omega), Int.add_zero]; exact h.apl q hy)
        exact this.trans (h.hda q (Nat.le_refl _) hy)
      · rw [hg1 q (by omega)]
        have := hpn (q := q) (by omega)
        exact (keepB (hmore (h.tob q (by omega))) this.2 (by omega)).trans (h.hdb q (by omega))
    · intro q hq x hx
      have hdle := h.dy
      have hpq := hpn (q := q) (by omega)
      have hm : (q + 1) % k < y := by
        by_cases he : q + 1 = k
        · omega
        · rw [Nat.mod_eq_of_lt (by omega)]; omega
      rw [hg1 _ hm]
      exact (keepB hx (by omega) (by omega)).trans (h.lnk q hq x (hback (by omega) (by omega) hx))
    · intro q q0 q1 x hx
      by_cases hqy : q = y
      · subst hqy
        obtain ⟨a1, ha1⟩ := hap 1 (by omega) (by omega)
        have := k2 1 (by omega) (by omega) x a1 hx (by rw [hpl hl 1 (by omega)]; exact ha1)
        exact this.trans (h.rfa q (Nat.le_refl _) hy a1 ha1)
      · have hpq := hpn (q := q) (by omega)
        exact (keepB hx (by omega) (by omega)).trans (h.slt q q0 (by omega) x (hback (by omega) (by omega) hx))

/-- The path of the copies. -/
theorem LC.path {k : Nat} {n m : Int} {A : Nat → Int} {f : Int} {la : List Int} {d y : Nat} {s : Sp} {to : Inc} {lb : List Int} {mv : List (Int × Int)} (h : LC k n m A f la d y s to lb mv) (hy : 0 < y) :
    Pa s.2.2 to.2.2.1 lb ∧ ∀ x ∈ lb, (fr s.2.2 x).1 = 1 := by
  have hnm := h.nm
  have m0 := h.m0
  have h1 := mulN (q := 0) (n := n) hy (by omega)
  have hw := h.wd
  have hp : Pa s.2.2 to.2.2.1 lb := by
    rcases h.has with ⟨g1, _⟩ | ⟨_, g1⟩
    · simp at h1; omega
    · exact g1
  refine ⟨hp, fun x hx => ?_⟩
  rw [(h.cy.vs.owner hp x hx).1]
  rcases h.cy.fit.2 with ⟨g1, _⟩ | ⟨_, _, g1, _⟩
  · simp at h1; omega
  · rw [g1, h.seq]
/-- A reference of a copy is moved. -/
theorem LC.link {k : Nat} {n m : Int} {A : Nat → Int} {f : Int} {la : List Int} {d y : Nat} {s : Sp} {to : Inc} {lb : List Int} {mv : List (Int × Int)} (h : LC k n m A f la d y s to lb mv) (hd : d < y) {x : Int} (hx : adl 16 lb ((d : Int) * n + 1) = some x) :
    LC k n m A f la (d + 1) y (s.1, s.2.1.set x.toNat (BitVec.ofInt 64 (gl (0, 0) mv ((d + 1) % k)).2 + 1#64), s.2.2) to lb mv ∧ gl 0#64 s.2.1 x.toNat = BitVec.ofInt 64 (A ((d + 1) % k) + 1) ∧ 0 ≤ x ∧ x < s.2.1.length := by
  have hnm := h.nm
  have m0 := h.m0
  have n0 : (0 : Int) ≤ n := by omega
  have hz := h.z
  obtain ⟨hp, ho⟩ := h.path (by omega)
  have hd0 := mulN0 (q := d) n0
  obtain ⟨⟨x0, x1⟩, x2⟩ := adl_rng h.cy.vs hp (off := (d : Int) * n + 1) (by omega) (by rw [hz]; exact hx)
  have hox := ho _ x2
  have hcy : Cy [0] (s.1, s.2.1.set x.toNat (BitVec.ofInt 64 (gl (0, 0) mv ((d + 1) % k)).2 + 1#64), s.2.2) to :=
    ⟨h.cy.vs.word x0 (by rw [hox]; omega) _, FitS.words (by rw [List.length_set]) h.cy.fit, h.cy.own, h.cy.out, h.cy.nn⟩
  have hnd := hp.nodup
  -- places of the old chain, and others of the new one, stay
  have keepA : ∀ {q i : Int} {v : BitVec 64}, adl 16 la i = some q → 0 ≤ i → gl 0#64 (s.2.1.set x.toNat v) q.toNat = gl 0#64 s.2.1 q.toNat := by
    intro q i v hi i0
    obtain ⟨⟨q0, _⟩, q2⟩ := adl_rng h.cy.vs h.pa i0 (by rw [hz]; exact hi)
    have h1 := (h.cy.vs.owner h.pa _ q2).1
    rw [h.own] at h1
    rw [gl_ne]
    intro he
    have : q = x := by omega
    rw [this] at h1; omega
  have keepB : ∀ {q i : Int} {v : BitVec 64}, adl 16 lb i = some q → 0 ≤ i → i ≠ (d : Int) * n + 1 → gl 0#64 (s.2.1.set x.toNat v) q.toNat = gl 0#64 s.2.1 q.toNat := by
    intro q i v hi i0 hne
    obtain ⟨⟨q0, _⟩, q2⟩ := adl_rng h.cy.vs hp i0 (by rw [hz]; exact hi)
    rw [gl_ne]
    intro he
    have : q = x := by omega
    rw [this] at hi
    exact hne (adl_inj (by omega) hnd i0 (by omega) hi hx)
  have hcmp : ∀ q : Nat, q < d ∨ q = d ∨ d < q := fun q => by omega
  refine ⟨⟨h.k1, h.m0, h.m1, h.nm, hz, hcy, h.seq, h.wd, h.has, h.pa, h.own, h.len, h.fre, by omega, h.yk, h.mlen, h.frm, h.tob, h.apl, ?_, ?_, ?_, ?_, ?_, ?_⟩, h.slt d (Nat.le_refl _) hd x hx, x0, x1⟩
  · intro q hq
    exact (keepA (h.apl q (by have := h.yk; omega)) (mulN0 n0)).trans (h.fw q hq)
  · intro q q0 q1
    exact (keepA (h.apl q q1) (mulN0 n0)).trans (h.hda q q0 q1)
  · intro q q0 q1 a ha
    exact (keepA ha (by have := mulN0 (q := q) n0; omega)).trans (h.rfa q q0 q1 a ha)
  · intro q hq
    refine (keepB (h.tob q hq) (mulN0 n0) ?_).trans (h.hdb q hq)
    rcases hcmp q with h1 | rfl | h1
    · have := mulN (n := n) h1 n0; omega
    · omega
    · have := mulN (n := n) h1 n0; omega
  · intro q hq a ha
    by_cases hqd : q = d
    · subst hqd
      rw [hx] at ha
      obtain rfl := Option.some.inj ha
      simp only
      rw [gl_set (by omega), if_pos rfl]
    · refine (keepB ha (by have := mulN0 (q := q) n0; omega) ?_).trans (h.lnk q (by omega) a ha)
      have := mulN (n := n) (show q < d by omega) n0; omega
  · intro q q0 q1 a ha
    refine (keepB ha (by have := mulN0 (q := q) n0; omega) ?_).trans (h.slt q (by omega) q1 a ha)
    have := mulN (n := n) (show d < q by omega) n0; omega
/-- A word to an object that was copied. -/
theorem LC.seen {k : Nat} {n m : Int} {A : Nat → Int} {f : Int} {la : List Int} {d y : Nat} {s : Sp} {to : Inc} {lb : List Int} {mv : List (Int × Int)} (h : LC k n m A f la d y s to lb mv) {q : Nat} (hq : q < y)
    {v : BitVec 64} {e : Int} {t : Sp} {to' : Inc} {mm : List (Int × Int)} (hm : MvR [0] s to (BitVec.ofInt 64 (A q + 1)) v e t to' mm) :
    e = 0 ∧ v = BitVec.ofInt 64 (gl (0, 0) mv q).2 + 1#64 ∧ t = s ∧ to' = to ∧ mm = [] := by
  have hwl := VS.wlen h.cy.vs
  have hnm := h.nm
  have m0 := h.m0
  obtain ⟨w1, w2, w3, w4, w5⟩ := h.wn (q := q) (by have := h.yk; omega)
  obtain ⟨hp, _⟩ := h.path (by omega)
  obtain ⟨⟨b0, b1⟩, _⟩ := adl_rng h.cy.vs hp (mulN0 (q := q) (n := n) (by omega)) (by rw [h.z]; exact h.tob q hq)
  have hwq : hwd s (BitVec.ofInt 64 (A q + 1)) = fwd (gl (0, 0) mv q).2 := by
    show gl 0#64 s.2.1 (((BitVec.ofInt 64 (A q + 1)).toNat : Int) - 1).toNat = _
    rw [w2, h.fw q hq]
  have hdec := fwd_dec b0 (by omega : (gl (0, 0) mv q).2 ≤ 16383)
  have hhd := fwd_hd b0 (by omega : (gl (0, 0) mv q).2 ≤ 16383)
  cases hm with
  | out hw => exact absurd w1 hw
  | been hw hd h0 h1 =>
    rw [hwq, hdec] at hd
    obtain rfl := Option.some.inj hd
    exact ⟨rfl, rfl, rfl, rfl, rfl⟩
  | bad hw hd h0 =>
    rw [hwq, hdec] at hd
    obtain rfl := Option.some.inj hd
    exact absurd rfl h0
  | torn hw hh hl ha => rw [hwq, hhd] at hh; cases hh
  | full hw hh hl ha hf => rw [hwq, hhd] at hh; cases hh
  | moved hw hh hl ha hg => rw [hwq, hhd] at hh; cases hh

theorem LC.inner {k : Nat} {n m : Int} {A : Nat → Int} {f : Int} {la : List Int} {d y : Nat} {s : Sp} {to : Inc} {lb : List Int} {mv : List (Int × Int)} (h : LC k n m A f la d y s to lb mv) (hd : d < k) (hy : y = min (d + 1) k)
    {w : BitVec 64} (hm : MaskC [0] s.2.2 w) :
    ∃ t to' lb' mv' y', loopO (L4 (d : Int) (gl (0, 0) mv d).2 1) (1, (s, w, to, mv)) = some (.inl ((d : Int) + 1, (t, w, to', mv'))) ∧ MaskC [0] t.2.2 w ∧ LC k n m A f la (d + 1) y' t to' lb' mv' ∧ y' = min (d + 2) k ∧ gl (0, 0) mv' 0 = gl (0, 0) mv 0 := by
  have hwl := VS.wlen h.cy.vs
  have hnm := h.nm
  have m0 := h.m0
  have hk := h.k1
  have n0 : (0 : Int) ≤ n := by omega
  have hdy : d < y := by omega
  have hd0 := mulN0 (q := d) n0
  have hdn := mulN (n := n) hdy n0
  obtain ⟨hp, _⟩ := h.path (by omega)
  obtain ⟨g, _, hx⟩ := adl_some (z := 16) (by omega) (l := lb) (off := (d : Int) * n + 1) (by omega) (by have := h.lbl; omega)
  generalize g * 16 + ((d : Int) * n + 1) % 16 = x at hx
  have hmlen := h.mlen
  have key : ∃ bb, loopO (L4 (d : Int) (gl (0, 0) mv d).2 1) (1, (s, w, to, mv)) = some bb ∧
      ∃ t to' lb' mv' y', bb = .inl ((d : Int) + 1, (t, w, to', mv')) ∧ MaskC [0] t.2.2 w ∧ LC k n m A f la (d + 1) y' t to' lb' mv' ∧ y' = min (d + 2) k ∧ gl (0, 0) mv' 0 = gl (0, 0) mv 0 := by
    refine loopO_up (fun c (st : Int × Cp) => (c = 0 ∧ st = (1, (s, w, to, mv))) ∨ (c = 1 ∧ ∃ t to' lb' mv' y', st = (2, (t, w, to', mv')) ∧ MaskC [0] t.2.2 w ∧ LC k n m A f la (d + 1) y' t to' lb' mv' ∧ y' = min (d + 2) k ∧ gl (0, 0) mv' 0 = gl (0, 0) mv 0)) _ 1 ?_ ?_ (.inl ⟨rfl, rfl⟩)
    · rintro c st hc (⟨rfl, rfl⟩ | ⟨rfl, _⟩)
      rotate_left
      · omega
      left
      unfold L4
      simp only
      rw [if_pos (Int.le_refl 1), cAt_adl h.cy.vs hp hd0 (by rw [h.z]; exact h.tob d hdy) (by omega) (by omega), h.z, hx, Option.bind_some, show adlN (some x) = x from rfl]
      have hxw := h.slt d (Nat.le_refl _) hdy x hx
      obtain ⟨⟨x0, x1⟩, _⟩ := adl_rng h.cy.vs hp (off := (d : Int) * n + 1) (by omega) (by rw [h.z]; exact hx)
      rw [if_pos ⟨x0, x1⟩, hxw]
      obtain ⟨v, e, t, to', mm, M1, M2⟩ := fMove_ok h.cy hm (mv := mv) (by omega) (BitVec.ofInt 64 (A ((d + 1) % k) + 1))
      have hcy := MvR.cy h.cy M1
      rw [M2, Option.bind_some]
      by_cases hdk : d + 1 = k
      · have hmod : (d + 1) % k = 0 := by rw [hdk, Nat.mod_self]
        rw [hmod] at M1
        obtain ⟨rfl, rfl, rfl, rfl, rfl⟩ := h.seen (q := 0) (by omega) M1
        rw [if_neg (not_not_intro rfl), if_pos ⟨x0, x1⟩]
        obtain ⟨hL, _⟩ := h.link hdy hx
        rw [hmod] at hL
        rw [w64_id (e := (1 : Int) + 1) (by omega) (by omega), List.append_nil]
        exact ⟨_, rfl, .inr ⟨by trivial, _, _, _, _, _, rfl, hm, hL, by omega, rfl⟩⟩
      · have hmod : (d + 1) % k = d + 1 := Nat.mod_eq_of_lt (by omega)
        have hyd : y = d + 1 := by omega
        rw [hmod, ← hyd] at M1
        obtain ⟨lb', b, rfl, rfl, rfl, hG0, hG⟩ := h.grow (by omega) (.inr hdy) M1
        have hx' : adl 16 lb' ((d : Int) * n + 1) = some x := hG0 _ _ hx
        obtain ⟨hL, _, x0', x1'⟩ := hG.link (by omega) hx'
        rw [if_neg (not_not_intro rfl), if_pos ⟨x0, x1'⟩]
        have hg2 : gl (0, 0) (mv ++ [(A y, b)]) ((d + 1) % k) = (A y, b) := by
          rw [hmod, ← hyd]
          unfold gl
          rw [List.getD_eq_getElem?_getD, List.getElem?_append_right (by rw [hmlen]; omega), hmlen, Nat.sub_self]; rfl
        rw [hg2] at hL
        rw [w64_id (e := (1 : Int) + 1) (by omega) (by omega)]
        exact ⟨_, rfl, .inr ⟨by trivial, _, _, _, _, _, rfl, hcy.2.1 w hm, hL, by omega, gl_app (by omega)⟩⟩
    · rintro st (⟨h1, _⟩ | ⟨_, t, to', lb', mv', y', rfl, hm', hL, hy', h0⟩)
      · omega
      unfold L4
      simp only
      rw [if_neg (by omega), w64_id (e := (d : Int) + 1) (by omega) (by omega)]
      exact ⟨_, rfl, _, _, _, _, _, rfl, hm', hL, hy', h0⟩
  obtain ⟨bb, h1, t, to', lb', mv', y', rfl, h2⟩ := key
  exact ⟨t, to', lb', mv', y', h1, h2⟩

theorem hdr_dec {m : Int} (m0 : 0 ≤ m) (m1 : m ≤ 2) : Fheader_Decode (hdr 1 m) = some (1, m, 0, false, 0) := by
  obtain ⟨y', g1, g2⟩ := pDec_ok (hdr 1 m)
  rw [g1]
  have hh := hd_hdr (r := 1) (d := m) (by omega) (by omega) m0 (by omega)
  rcases g2 with ⟨o, g2, g3⟩ | ⟨g2, _⟩
  · rw [hh] at g2
    obtain rfl := Option.some.inj g2
    rw [g3]
  · rw [hh] at g2; cases g2
theorem LC.loop3 {k : Nat} {n m : Int} {A : Nat → Int} {f : Int} {la : List Int} {s : Sp} {to : Inc} {lb : List Int} {mv : List (Int × Int)} (h : LC k n m A f la 0 1 s to lb mv) (hk : 0 < k) {w : BitVec 64} (hm : MaskC [0] s.2.2 w) (out : List (BitVec 64)) :
    ∃ b, loopO (L3 out) (0, (s, w, to, mv)) = some b ∧ ∃ t to' lb' mv', b = (t, to', mv', out, 0) ∧ LC k n m A f la k k t to' lb' mv' ∧ gl (0, 0) mv' 0 = gl (0, 0) mv 0 := by
  refine loopO_up (fun d (st : Int × Cp) => st.1 = (d : Int) ∧ d ≤ k ∧ ∃ t to' lb' mv' y, st.2 = (t, w, to', mv') ∧ MaskC [0] t.2.2 w ∧ LC k n m A f la d y t to' lb' mv' ∧ y = min (d + 1) k ∧ gl (0, 0) mv' 0 = gl (0, 0) mv 0) _ k ?_ ?_ ⟨rfl, by omega, s, to, lb, mv, 1, rfl, hm, h, by omega, rfl⟩
  · rintro d ⟨c, st⟩ hd ⟨h1, _, t, to', lb', mv', y, rfl, h2, h3, h4, h5⟩
    simp only at h1
    subst h1
    left
    have hml := h3.mlen
    have hwl := VS.wlen h3.cy.vs
    have hnm := h3.nm
    have m0 := h3.m0
    obtain ⟨hp, _⟩ := h3.path (by omega)
    obtain ⟨⟨b0, b1⟩, _⟩ := adl_rng h3.cy.vs hp (mulN0 (q := d) (n := n) (by omega)) (by rw [h3.z]; exact h3.tob d (by omega))
    obtain ⟨t2, to2, lb2, mv2, y2, g1, g2, g3, g4, g5⟩ := h3.inner hd h4 h2
    unfold L3
    simp only
    rw [if_pos (by omega), if_pos (by omega), Int.toNat_natCast, if_pos ⟨b0, b1⟩, h3.hdb d (by omega), hdr_dec h3.m0 h3.m1, Option.bind_some, g1]
    exact ⟨_, rfl, rfl, by omega, t2, to2, lb2, mv2, y2, rfl, g2, g3, g4, g5.trans h5⟩
  · rintro ⟨c, st⟩ ⟨h1, _, t, to', lb', mv', y, rfl, h2, h3, h4, h5⟩
    simp only at h1
    subst h1
    have hml := h3.mlen
    have hyk : y = k := by omega
    subst hyk
    unfold L3
    simp only
    rw [if_neg (by omega)]
    exact ⟨_, rfl, _, _, _, _, rfl, h3, h5⟩
/-- The whole copy. -/
theorem LC.whole {k : Nat} {n m : Int} {A : Nat → Int} {f : Int} {la : List Int} {s : Sp} {to : Inc} {lb : List Int} (h : LC k n m A f la 0 0 s to lb []) (hk : 0 < k) {w : BitVec 64} (hm : MaskC [0] s.2.2 w) :
    ∃ b, loopO (L2 [BitVec.ofInt 64 (A 0 + 1)]) (0, (s, w, to, []), [BitVec.ofInt 64 (A 0 + 1)]) = some b ∧ ∃ t to' lb' mv', b = (t, to', mv', [BitVec.ofInt 64 (gl (0, 0) mv' 0).2 + 1#64], 0) ∧ LC k n m A f la k k t to' lb' mv' := by
  refine loopO_up (fun c (st : Int × Cp × List (BitVec 64)) => (c = 0 ∧ st = (0, (s, w, to, []), [BitVec.ofInt 64 (A 0 + 1)])) ∨ (c = 1 ∧ ∃ t to' lb' mv' b, st = (1, (t, w, to', mv'), [BitVec.ofInt 64 b + 1#64]) ∧ MaskC [0] t.2.2 w ∧ LC k n m A f la 0 1 t to' lb' mv' ∧ (gl (0, 0) mv' 0).2 = b)) _ 1 ?_ ?_ (.inl ⟨rfl, rfl⟩)
  · rintro c st hc (⟨rfl, rfl⟩ | ⟨rfl, _⟩)
    rotate_left
    · omega
    left
    obtain ⟨v, e, t, to', mm, M1, M2⟩ := fMove_ok h.cy hm (mv := []) (by simp) (BitVec.ofInt 64 (A 0 + 1))
    have hcy := MvR.cy h.cy M1
    obtain ⟨lb', b, rfl, rfl, rfl, hG0, hG⟩ := h.grow hk (.inl rfl) M1
    unfold L2
    simp only
    rw [if_pos (by simp), if_pos (by simp), show gl (0#64) [BitVec.ofInt 64 (A 0 + 1)] (Int.toNat 0) = BitVec.ofInt 64 (A 0 + 1) from rfl, M2, Option.bind_some, if_neg (not_not_intro rfl), if_pos (by simp)]
    exact ⟨_, rfl, .inr ⟨by trivial, _, _, _, _, b, rfl, hcy.2.1 w hm, hG, rfl⟩⟩
  · rintro st (⟨h1, _⟩ | ⟨_, t, to', lb', mv', b, rfl, h2, h3, h4⟩)
    · omega
    unfold L2
    simp only
    rw [if_neg (by simp)]
    refine map_inr ?_
    obtain ⟨bb, g1, t2, to2, lb2, mv2, rfl, g2, g3⟩ := h3.loop3 hk h2 [BitVec.ofInt 64 b + 1#64]
    exact ⟨_, g1, t2, to2, lb2, mv2, by rw [g3, h4], g2⟩
end Go.Proofs.YtokeceeccmgcmaaDoor
