/-
  The list that the law makes.
-/
import Derived.Test.YtokeceeccmgcmaaDoorEvcG
import Derived.Test.YtokeceeccmgcmaaDoorWlkD
set_option linter.unusedVariables false
namespace Go.Proofs.YtokeceeccmgcmaaDoor
open Go Go.V3

theorem place_ok {s : Sp} (h : VS s) {i : Inc} {l : List Int} (hf : FitS s i) (hl : Has s i l) {p a m : Int} (m0 : 0 ≤ m) (m1 : m ≤ 2) (p0 : 0 ≤ p) (hp : p + 1 + m < i.2.2.2.2) (ha : adl (sz s.1) l p = some a) (hw : gl 0#64 s.2.1 a.toNat = hdr 1 m) :
    ∃ x, adl (sz s.1) l (p + 1) = some x ∧ (0 ≤ x ∧ x < s.2.1.length) ∧ (fr s.2.2 (x / sz s.1)).1 = i.1 ∧ Fbeltwayref08_Place s a 0 true = some (x, 0) := by
  obtain ⟨a', hat⟩ := at_ok h hf hl p0 (by omega)
  have hadr := hat.adr
  rw [ha] at hadr
  obtain rfl := Option.some.inj hadr
  have hpa : Pa s.2.2 i.2.2.1 l := by
    rcases hl with ⟨g1, _⟩ | ⟨_, g1⟩
    · omega
    · exact g1
  obtain ⟨x2, h2⟩ := at_ok h hf hl (at' := p + (1 + m)) (by omega) (by omega)
  obtain ⟨x, hx⟩ := adl_less (sz_pos' s.1) h2.adr (p := p + 1) (by omega) (by omega)
  obtain ⟨⟨x0, x1⟩, xm⟩ := adl_rng h hpa (by omega) hx
  refine ⟨x, hx, ⟨x0, x1⟩, ?_, ?_⟩
  · rw [(h.owner hpa _ xm).1]
    rcases hf.2 with ⟨g1, _⟩ | ⟨_, _, g1, _⟩
    · omega
    · exact g1
  unfold Fbeltwayref08_Place
  have hh := hd_hdr (r := 1) (d := m) (by omega) (by omega) m0 (by omega)
  rcases rLook_ok hat with ⟨g1, _⟩ | ⟨o, g1, g2⟩
  · rw [hw, hh] at g1; cases g1
  rw [hw, hh] at g1
  obtain rfl := Option.some.inj g1
  rcases g2 with ⟨y, g2, g3⟩ | ⟨g2, _⟩
  rotate_left
  · rw [h2.adr] at g2; cases g2
  rw [g3, Option.bind_some, if_neg (not_not_intro rfl), if_pos rfl, if_neg (by omega), if_neg (by show ¬ (0 : Int) ≥ 1; omega), w64_id (e := (1 : Int) + 0) (by omega) (by omega), hat.rgo (1 + 0) (by omega) (by omega), show p + (1 + 0) = p + 1 by omega, hx]
  rfl
theorem setRef_ok {s : Sp} (h : VS s) {a x : Int} (x0 : 0 ≤ x) (x1 : x < s.2.1.length) (hp : Fbeltwayref08_Place s a 0 true = some (x, 0)) (v : BitVec 64) : Fbeltwayref08_SetRef s a 0 v = some ((s.1, s.2.1.set x.toNat v, s.2.2), 0) := by
  unfold Fbeltwayref08_SetRef Fbeltwayref08_set
  rw [VS.valid h, Option.bind_some, if_neg (show ¬ (!true) = true by decide), hp, Option.bind_some, if_neg (not_not_intro rfl), VS.copy h, Option.bind_some, if_pos ⟨x0, x1⟩]
  rfl
theorem ref_ok {s : Sp} (h : VS s) {a x : Int} (x0 : 0 ≤ x) (x1 : x < s.2.1.length) (hp : Fbeltwayref08_Place s a 0 true = some (x, 0)) : Fbeltwayref08_Ref s a 0 = some (gl 0#64 s.2.1 x.toNat, 0) := by
  unfold Fbeltwayref08_Ref Fbeltwayref08_get
  rw [VS.valid h, Option.bind_some, if_neg (show ¬ (!true) = true by decide), hp, Option.bind_some, if_neg (not_not_intro rfl), if_pos ⟨x0, x1⟩]
  rfl
/-- x objects have been made, d references been set. -/
structure SC (k : Nat) (n m : Int) (x d : Nat) (s : Sp) (i : Inc) (l at' : List Int) : Prop where
  vs : VS s
  sh : s.1 = 4
  nf : s.2.2.length = 40
  fit : FitS s i
  seq : i.1 = 0
  belt : i.2.1 = 0
  wd : i.2.2.2.2 = (x : Int) * n
  has : Has s i l
  oth : ∀ q, q ≠ 0 → q ≠ -1 → owned s.2.2 q = []
  own0 : i.2.2.2.2 = 0 → owned s.2.2 0 = []
  fre : cl 16 ((x : Int) * n) + (frees s.2.2).length = 40
  alen : at'.length = x
  apl : ∀ q : Nat, q < x → adl 16 l ((q : Int) * n) = some (gl 0 at' q)
  hda : ∀ q, q < x → gl 0#64 s.2.1 (gl 0 at' q).toNat = hdr 1 m
  rf : ∀ q : Nat, q < d → ∀ a, adl 16 l ((q : Int) * n + 1) = some a → gl 0#64 s.2.1 a.toNat = BitVec.ofInt 64 (gl 0 at' ((q + 1) % k) + 1)
theorem SC.z {k : Nat} {n m : Int} {x d : Nat} {s : Sp} {i : Inc} {l at' : List Int} (h : SC k n m x d s i l at') : sz s.1 = 16 := by rw [h.sh]; rfl
/-- One object more. -/
theorem SC.more {k : Nat} {n m : Int} {x : Nat} {s : Sp} {i : Inc} {l at' : List Int} (h : SC k n m x 0 s i l at') (hk : k ≤ 40) (hx : x < k) (m0 : 0 ≤ m) (m1 : m ≤ 2) (hn : n = 2 + m) :
    ∃ t u j a l', Fbeltwayref09_Alloc s i n = some (t, j, a, 0) ∧ Fbeltwayref08_Init t a 1 m = some (u, 0) ∧ SC k n m (x + 1) 0 u j l' (at' ++ [a]) := by
  have n0 : 0 ≤ n := by omega
  have hz := h.z
  have hxn0 := mulN0 (q := x) n0
  have hxk := mulN hx n0
  have hfre := h.fre
  have hwd := h.wd
  have hA2 : ((x + 1 : Nat) : Int) * n = (x : Int) * n + n := by rw [Int.natCast_add, Int.add_mul]; simp
  have hk2 : (k : Int) * n ≤ 160 := by
    have : (k : Int) * n ≤ 40 * n := Int.mul_le_mul_of_nonneg_right (by omega) n0
    omega
  have c2 : cl 16 ((x : Int) * n + n) ≤ cl 16 160 := cl16 (by omega)
  have c3 : cl 16 160 = 10 := by decide
  have cmono := cl16 (show (x : Int) * n ≤ (x : Int) * n + n by omega)
  rcases Alloc_ok s i n with ⟨g1, _⟩ | ⟨⟨_, _, _, _⟩, g⟩
  · exact absurd ⟨h.vs, h.fit, by omega, by omega⟩ g1
  rcases g with ⟨g1, g2, _⟩ | ⟨_, ⟨g1, _⟩ | ⟨_, t, j, a, l1, l', g1, g⟩⟩
  · rw [h.seq] at g2; exact absurd (h.own0 g1) g2
  · rw [hz, hwd] at g1; omega
  obtain ⟨u, u1, u2⟩ := add_ok h.vs (r := 1) (d := m) (by omega) (by omega) m0 (by omega) h.fit (by rw [show 1 + 1 + m = n by omega]; exact g)
  have gg := u2.grown
  obtain rfl := has_one h.has gg.has
  have hadr : adl 16 l' ((x : Int) * n) = some a := by have := gg.adr; rw [hz, hwd] at this; exact this
  have hw := u2.wr
  rw [hz, hwd] at hw
  have hnd := gg.path.nodup
  have hmore : ∀ {i a}, adl 16 l i = some a → adl 16 l' i = some a := by
    intro i a hi
    rw [gg.more]; exact adl_append hi
  have hself := Added.self h.vs h.fit (by omega) (by omega) m0 (by omega) u2
  have hfl := gg.fre
  simp only at hfl
  have hll : (l.length : Int) = cl 16 ((x : Int) * n) := by have := gg.llen; rw [hz, hwd] at this; exact this
  have hll' : (l'.length : Int) = cl 16 ((x : Int) * n + n) := by have := gg.len'; rw [hz, hwd, show (x : Int) * n + (1 + 1 + m) = (x : Int) * n + n by omega] at this; exact this
  have htake : l'.length - l.length ≤ (frees s.2.2).length := by
    have := congrArg List.length gg.more
    rw [List.length_append, List.length_take] at this
    omega
  have hal := h.alen
  have hg1 : ∀ q, q < x → gl 0 (at' ++ [a]) q = gl 0 at' q := fun q hq => gl_app (by omega)
  have hg2 : gl 0 (at' ++ [a]) x = a := by
    unfold gl
    rw [List.getD_eq_getElem?_getD, List.getElem?_append_right (by omega), hal, Nat.sub_self]; rfl
  refine ⟨t, u, j, a, l', g1, u1, ⟨u2.vs, by rw [u2.sh, h.sh], by have := gg.len; rw [this]; exact h.nf, hself.1, gg.seq.trans h.seq, gg.belt.trans h.belt, ?_, ?_, ?_, ?_, ?_, by simp [hal], ?_, ?_, fun q hq => by omega⟩⟩
  · rw [gg.words, hwd, hA2]; omega
  · exact .inr ⟨by rw [gg.words, hwd]; omega, gg.path⟩
  · intro q q0 q1
    have := gg.oth q (by rw [h.seq]; exact q0) q1
    rw [this]; exact h.oth q q0 q1
  · intro hw0
    rw [gg.words, hwd] at hw0; omega
  · rw [hA2, hfl, List.length_drop]; omega
  · intro q hq
    by_cases hqx : q = x
    · subst hqx; rw [hg2]; exact hadr
    · rw [hg1 q (by omega)]; exact hmore (h.apl q (by omega))
  · intro q hq
    by_cases hqx : q = x
    · subst hqx; rw [hg2]; exact hw.head a hadr
    · rw [hg1 q (by omega)]
      have hq2 := mulN (n := n) (show q < x by omega) n0
      have hq0 := mulN0 (q := q) n0
      have hap := hmore (h.apl q (by omega))
      have hvu : VS (s.1, s.2.1, u.2.2) := gg.vs
      obtain ⟨⟨q0, _⟩, _⟩ := adl_rng hvu gg.path hq0 (by simp only; rw [hz]; exact hap)
      refine (hw.oth _ fun kk k0 k1 he => ?_).trans (h.hda q (by omega))
      rw [show (((gl 0 at' q).toNat : Nat) : Int) = gl 0 at' q by omega] at he
      have := adl_inj (by omega) hnd (by omega) hq0 he hap
      omega
/-- One reference more. -/
theorem SC.set {k : Nat} {n m : Int} {d : Nat} {s : Sp} {i : Inc} {l at' : List Int} (h : SC k n m k d s i l at') (hd : d < k) (m0 : 0 ≤ m) (m1 : m ≤ 2) (hn : n = 2 + m) :
    ∃ t, Fbeltwayref08_SetRef s (gl 0 at' d) 0 (BitVec.ofInt 64 (gl 0 at' ((d + 1) % k) + 1)) = some (t, 0) ∧ SC k n m k (d + 1) t i l at' := by
  have n0 : 0 ≤ n := by omega
  have hz := h.z
  have hd0 := mulN0 (q := d) n0
  have hdk := mulN hd n0
  have hwd := h.wd
  obtain ⟨x, hx, ⟨x0, x1⟩, xo, hp⟩ := place_ok h.vs h.fit h.has m0 m1 hd0 (by omega) (by rw [hz]; exact h.apl d hd) (h.hda d hd)
  rw [hz] at hx
  refine ⟨_, setRef_ok h.vs x0 x1 hp _, ?_⟩
  have hpa : Pa s.2.2 i.2.2.1 l := by
    rcases h.has with ⟨g1, _⟩ | ⟨_, g1⟩
    · omega
    · exact g1
  have hnd := hpa.nodup
  have hv := h.vs.word x0 (by rw [xo, h.seq]; omega) (BitVec.ofInt 64 (gl 0 at' ((d + 1) % k) + 1))
  have keep : ∀ {q i : Int} {v : BitVec 64}, adl 16 l i = some q → 0 ≤ i → i ≠ (d : Int) * n + 1 → gl 0#64 (s.2.1.set x.toNat v) q.toNat = gl 0#64 s.2.1 q.toNat := by
    intro q i v hi i0 hne
    obtain ⟨⟨q0, _⟩, q2⟩ := adl_rng h.vs hpa i0 (by rw [hz]; exact hi)
    rw [gl_ne]
    intro he
    have : q = x := by omega
    rw [this] at hi
    exact hne (adl_inj (by omega) hnd i0 (by omega) hi hx)
  refine ⟨hv, h.sh, h.nf, FitS.words (by rw [List.length_set]) h.fit, h.seq, h.belt, h.wd, h.has, h.oth, h.own0, h.fre, h.alen, h.apl, ?_, ?_⟩
  · intro q hq
    refine (keep (h.apl q hq) (mulN0 n0) ?_).trans (h.hda q hq)
    rcases (show q < d ∨ q = d ∨ d < q by omega) with h1 | rfl | h1
    · have := mulN (n := n) h1 n0; omega
    · omega
    · have := mulN (n := n) h1 n0; omega
  · intro q hq a ha
    by_cases hqd : q = d
    · subst hqd
      rw [hx] at ha
      obtain rfl := Option.some.inj ha
      simp only
      rw [gl_set (by omega), if_pos rfl]
    · refine (keep ha (by have := mulN0 (q := q) n0; omega) ?_).trans (h.rf q (by omega) a ha)
      have := mulN (n := n) (show q < d by omega) n0; omega
theorem SC.tiles {k : Nat} {n m : Int} {d : Nat} {s : Sp} {i : Inc} {l at' : List Int} (h : SC k n m k d s i l at') (m0 : 0 ≤ m) (m1 : m ≤ 2) (hn : n = 2 + m) : ∀ c q : Nat, q + c = k → Tiles 16 s.2.1 l ((q : Int) * n) (List.replicate c (1, m)) ((k : Int) * n)
  | 0, q, hq => by
    have : q = k := by omega
    subst this
    rw [List.replicate_zero, Tiles]
  | c + 1, q, hq => by
    rw [List.replicate_succ, Tiles]
    refine ⟨⟨⟨by simp, by simp⟩, m0, by simp only; omega⟩, ⟨_, h.apl q (by omega), h.hda q (by omega)⟩, ?_⟩
    have := SC.tiles h m0 m1 hn c (q + 1) (by omega)
    rw [Int.natCast_add, Int.add_mul] at this
    rw [show (q : Int) * n + (1 + 1 + m) = (q : Int) * n + ((1 : Nat) : Int) * n by rw [hn]; omega]
    exact this
/-- The arguments of the copy are permitted, and its beginning. -/
theorem SC.chk {k : Nat} {n m : Int} {s : Sp} {i : Inc} {l at' : List Int} (h : SC k n m k k s i l at') (hk0 : 0 < k) (hk : k ≤ 40) (m0 : 0 ≤ m) (m1 : m ≤ 2) (hn : n = 2 + m) :
    Chk s [i] (1, 1, -1, -1, 0) ∧ LC k n m (gl 0 at') i.2.2.1 l 0 0 s (1, 1, -1, -1, 0) [] [] := by
  have n0 : 0 ≤ n := by omega
  have hz := h.z
  have hwd := h.wd
  have hk2 := mulN (n := n) hk0 n0
  simp only [Int.natCast_zero, Int.zero_mul, Int.zero_add] at hk2
  have hw0 : i.2.2.2.2 ≠ 0 := by omega
  have hpa : Pa s.2.2 i.2.2.1 l := by
    rcases h.has with ⟨g1, _⟩ | ⟨_, g1⟩
    · omega
    · exact g1
  have hob : obs s i l = some (ads 16 l 0 (List.replicate k (1, m))) := by
    unfold obs
    rw [hz]
    have ht := h.tiles m0 m1 hn k 0 (by omega)
    simp only [Int.natCast_zero, Int.zero_mul] at ht
    rw [hwd]
    exact tiles_ob ht (by omega)
  have hfit : FitS s (1, 1, -1, -1, 0) := ⟨⟨by decide, by decide, by decide, by decide, by decide, by simp only; omega⟩, .inl ⟨rfl, rfl, rfl⟩⟩
  have hown : (fr s.2.2 i.2.2.1).1 = 0 ∧ (k : Int) * n ≤ l.length * 16 := by
    rcases h.fit.2 with ⟨g1, _⟩ | ⟨_, _, g1, _, l2, p1, p2, _⟩
    · exact absurd g1 hw0
    · obtain rfl := hpa.fn p1
      have := cl_spec (n := (k : Int) * n) (z := 16) (by omega)
      rw [hz, hwd] at p2
      exact ⟨by rw [g1, h.seq], by omega⟩
  have ho1 : owned s.2.2 1 = [] := h.oth 1 (by decide) (by decide)
  refine ⟨⟨h.vs, ?_, by simp [seqs], hfit, ?_, fun _ => ho1⟩, ⟨hk, m0, m1, hn, hz, ⟨h.vs, hfit, fun _ => ho1, by decide, by decide⟩, rfl, ?_, .inl ⟨rfl, rfl⟩, hpa, hown.1, hown.2, ?_, by omega, by omega, rfl, fun q hq => by omega, fun q hq => by omega, h.apl, fun q hq => by omega, fun q _ hq => h.hda q hq, fun q _ hq => h.rf q hq, fun q hq => by omega, fun q hq => by omega, fun q _ hq => by omega⟩⟩
  · intro p hp
    obtain rfl := List.mem_singleton.1 hp
    exact ⟨⟨h.fit, l, _, h.has, hob⟩, hw0⟩
  · simp [seqs, h.seq]
  · simp
  · have := h.fre
    simp only [Int.natCast_zero, Int.zero_mul]
    rw [cl_zero (by omega : (0 : Int) < 16)]; omega
end Go.Proofs.YtokeceeccmgcmaaDoor
