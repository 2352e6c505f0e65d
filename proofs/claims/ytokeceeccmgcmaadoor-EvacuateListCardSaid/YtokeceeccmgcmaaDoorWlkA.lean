/-
  Plain laws of package walk: the objects of an increment.
-/
import Derived.Test.YtokeceeccmgcmaaDoorBmpB
set_option linter.unusedVariables false
namespace Go.Proofs.YtokeceeccmgcmaaDoor
open Go Go.V3

/-- What a word says of an object: its references and its data. -/
def hd (w : BitVec 64) : Option (Int × Int) :=
  if w.toNat % 2 = 1 then none
  else if w.toNat % 256 / 2 ≤ 15 ∧ 1 + w.toNat % 256 / 2 ≤ w.toNat / 256 ∧ w.toNat / 256 ≤ 33 + w.toNat % 256 / 2 then
    some (((w.toNat % 256 / 2 : Nat) : Int), ((w.toNat / 256 - 1 - w.toNat % 256 / 2 : Nat) : Int))
  else none
theorem hd_rng {w : BitVec 64} {o : Int × Int} (h : hd w = some o) : (0 ≤ o.1 ∧ o.1 ≤ 15) ∧ (0 ≤ o.2 ∧ o.2 ≤ 32) := by
  unfold hd at h
  split at h
  · cases h
  · split at h
    · simp only [Option.some.injEq] at h
      subst h
      simp only
      omega
    · cases h
theorem hd_hdr {r d : Int} (r0 : 0 ≤ r) (r1 : r ≤ 15) (d0 : 0 ≤ d) (d1 : d ≤ 32) : hd (hdr r d) = some (r, d) := by
  have e : (hdr r d).toNat = ((1 + r + d) * 256 + r * 2).toNat := by
    unfold hdr
    rw [BitVec.toNat_ofInt]
    omega
  obtain ⟨r, rfl⟩ := Int.eq_ofNat_of_zero_le r0
  obtain ⟨d, rfl⟩ := Int.eq_ofNat_of_zero_le d0
  have e' : (hdr r d).toNat = (1 + r + d) * 256 + r * 2 := by rw [e]; omega
  have q1 : (hdr r d).toNat / 256 = 1 + r + d := by omega
  have q2 : (hdr r d).toNat % 256 / 2 = r := by omega
  have q3 : (hdr r d).toNat % 2 = 0 := by omega
  unfold hd
  rw [q1, q2, q3, if_neg (by omega), if_pos (by omega)]
  congr 1
  refine Prod.ext ?_ ?_ <;> simp only <;> omega
/-- What both decoders answer. -/
def DecR (w : BitVec 64) (x : Int × Int × Int × Bool × Int) : Prop :=
  (∃ o, hd w = some o ∧ x = (o.1, o.2, 0, false, 0)) ∨ (hd w = none ∧ (x.2.2.2.2 ≠ 0 ∨ (x.2.2.2.2 = 0 ∧ x.2.2.2.1 = true)))
theorem rDec_ok (w : BitVec 64) : ∃ x, Fbeltwayref07_Decode w = some x ∧ DecR w x := by
  have hw := w.isLt
  have e2 : (w % 2#64).toNat = w.toNat % 2 := by rw [BitVec.toNat_umod]; rfl
  have e2' : (w % 2#64 = 1#64) ↔ w.toNat % 2 = 1 := by
    rw [← BitVec.toNat_inj, e2]; rfl
  have d2 : (w / 2#64).toNat = w.toNat / 2 := by rw [BitVec.toNat_udiv]; rfl
  have d256 : (w / 256#64).toNat = w.toNat / 256 := by rw [BitVec.toNat_udiv]; rfl
  have m256 : (w % 256#64 / 2#64).toNat = w.toNat % 256 / 2 := by rw [BitVec.toNat_udiv, BitVec.toNat_umod]; rfl
  unfold Fbeltwayref07_Decode
  rw [if_pos (by decide)]
  by_cases h1 : w.toNat % 2 = 1
  · have hh : hd w = none := by unfold hd; rw [if_pos h1]
    rw [if_pos (e2'.2 h1), if_pos (by decide)]
    split
    · exact ⟨_, rfl, .inr ⟨hh, .inl (by simp)⟩⟩
    · rw [if_pos (by decide)]
      exact ⟨_, rfl, .inr ⟨hh, .inr ⟨rfl, rfl⟩⟩⟩
  · rw [if_neg (fun h => h1 (e2'.1 h)), if_pos (by decide), if_pos (by decide), if_pos (by decide), d256, m256]
    have n48 : (48#64).toNat = 48 := rfl
    rw [n48]
    by_cases h2 : w.toNat / 256 > 48
    · rw [if_pos h2]
      refine ⟨_, rfl, .inr ⟨?_, .inl (by simp)⟩⟩
      unfold hd; rw [if_neg h1, if_neg (by omega)]
    rw [if_neg h2, w64_id (e := ((w.toNat % 256 / 2 : Nat) : Int)) (by omega) (by omega), w64_id (e := ((w.toNat / 256 : Nat) : Int)) (by omega) (by omega)]
    by_cases h3 : ((w.toNat % 256 / 2 : Nat) : Int) > 15
    · rw [if_pos h3]
      refine ⟨_, rfl, .inr ⟨?_, .inl (by simp)⟩⟩
      unfold hd; rw [if_neg h1, if_neg (by omega)]
    rw [if_neg h3, w64_id (e := (1 : Int) + ((w.toNat % 256 / 2 : Nat) : Int)) (by omega) (by omega)]
    by_cases h4 : ((w.toNat / 256 : Nat) : Int) < 1 + ((w.toNat % 256 / 2 : Nat) : Int)
    · rw [if_pos h4]
      refine ⟨_, rfl, .inr ⟨?_, .inl (by simp)⟩⟩
      unfold hd; rw [if_neg h1, if_neg (by omega)]
    rw [if_neg h4, w64_id (e := ((w.toNat / 256 : Nat) : Int) - 1) (by omega) (by omega), w64_id (e := ((w.toNat / 256 : Nat) : Int) - 1 - ((w.toNat % 256 / 2 : Nat) : Int)) (by omega) (by omega)]
    by_cases h5 : ((w.toNat / 256 : Nat) : Int) - 1 - ((w.toNat % 256 / 2 : Nat) : Int) > 32
    · rw [if_pos h5]
      refine ⟨_, rfl, .inr ⟨?_, .inl (by simp)⟩⟩
      unfold hd; rw [if_neg h1, if_neg (by omega)]
    rw [if_neg h5]
    refine ⟨_, rfl, .inl ⟨(((w.toNat % 256 / 2 : Nat) : Int), ((w.toNat / 256 - 1 - w.toNat % 256 / 2 : Nat) : Int)), ?_, ?_⟩⟩
    · unfold hd; rw [if_neg h1, if_pos (by omega)]
    · simp only [Prod.mk.injEq, and_true, true_and]
      omega
theorem bGet_ok (w : BitVec 64) {k n : Nat} (h : k + n ≤ 64) (hn : n < 64) : ∃ v, Fbits_Get w k n = some (v, 0) ∧ v.toNat = w.toNat / 2 ^ k % 2 ^ n := by
  have hw := w.isLt
  have ek : (BitVec.ofInt 64 (k : Int)).toNat = k := by rw [BitVec.toNat_ofInt]; omega
  have en : (BitVec.ofInt 64 (n : Int)).toNat = n := by rw [BitVec.toNat_ofInt]; omega
  have hv : Fbits_valid k n = some true := by
    unfold Fbits_valid
    rw [if_pos (by omega), if_pos (by omega), if_pos (by omega), w64_id (by omega) (by omega)]
    congr 1
    exact decide_eq_true (by omega)
  have hm : Fbits_Mask n = some (~~~((18446744073709551615#64) <<< n)) := by
    unfold Fbits_Mask
    rw [if_neg (by omega), if_pos trivial, en]
  refine ⟨(w >>> k) &&& ~~~((18446744073709551615#64) <<< n), ?_, ?_⟩
  · unfold Fbits_Get
    rw [hv, Option.bind_some, if_neg (by simp), if_pos trivial, hm, Option.bind_some, ek]
  · have e : (w >>> k) &&& ~~~((18446744073709551615#64) <<< n) = BitVec.ofNat 64 (w.toNat / 2 ^ k % 2 ^ n) := by
      apply BitVec.eq_of_getLsbD_eq
      intro i hi
      have a1 : (18446744073709551615#64) = BitVec.allOnes 64 := by decide
      rw [a1]
      simp only [BitVec.getLsbD_and, BitVec.getLsbD_not, BitVec.getLsbD_shiftLeft, BitVec.getLsbD_ushiftRight, BitVec.getLsbD_ofNat, BitVec.getLsbD_allOnes, hi, decide_true, Bool.true_and]
      rw [Nat.testBit_mod_two_pow, Nat.testBit_div_two_pow]
      have : (w.getLsbD (k + i)) = w.toNat.testBit (i + k) := by rw [BitVec.getLsbD, Nat.add_comm]
      rw [this]
      by_cases hin : i < n
      · simp [hin]
      · have : i - n < 64 := by omega
        simp [hin, this]
    rw [e, BitVec.toNat_ofNat]
    have : w.toNat / 2 ^ k % 2 ^ n ≤ w.toNat / 2 ^ k := Nat.mod_le _ _
    have : w.toNat / 2 ^ k ≤ w.toNat := Nat.div_le_self _ _
    exact Nat.mod_eq_of_lt (by omega)
theorem pDec_ok (w : BitVec 64) : ∃ x, Fheader_Decode w = some x ∧ DecR w x := by
  have hw := w.isLt
  have e1 : (w &&& 1#64 = 1#64) ↔ w.toNat % 2 = 1 := by
    rw [← BitVec.toNat_inj, BitVec.toNat_and]
    show w.toNat &&& 1 = 1 ↔ _
    rw [Nat.and_one_is_mod]
  unfold Fheader_Decode
  by_cases h1 : w.toNat % 2 = 1
  · have hh : hd w = none := by unfold hd; rw [if_pos h1]
    obtain ⟨v, g1, -⟩ := bGet_ok w (k := 1) (n := 63) (by omega) (by omega)
    rw [if_pos (e1.2 h1), show Fbits_Get w 1 63 = some (v, 0) from g1, Option.bind_some]
    split
    · exact ⟨_, rfl, .inr ⟨hh, .inl (by simp)⟩⟩
    · exact ⟨_, rfl, .inr ⟨hh, .inr ⟨rfl, rfl⟩⟩⟩
  · obtain ⟨v, g1, v1⟩ := bGet_ok w (k := 1) (n := 7) (by omega) (by omega)
    obtain ⟨u, g2, u1⟩ := bGet_ok w (k := 8) (n := 56) (by omega) (by omega)
    rw [if_neg (fun h => h1 (e1.1 h)), show Fbits_Get w 1 7 = some (v, 0) from g1, Option.bind_some, show Fbits_Get w 8 56 = some (u, 0) from g2, Option.bind_some]
    simp only
    have v2 : v.toNat = w.toNat % 256 / 2 := by rw [v1]; omega
    have u2 : u.toNat = w.toNat / 256 := by rw [u1]; omega
    have n15 : (15#64).toNat = 15 := rfl
    rw [n15]
    by_cases h2 : v.toNat > 15
    · rw [if_pos h2]
      refine ⟨_, rfl, .inr ⟨?_, .inl (by simp)⟩⟩
      unfold hd; rw [if_neg h1, if_neg (by omega)]
    have s1 : (1#64 + v).toNat = 1 + v.toNat := by rw [BitVec.toNat_add]; show (1 + v.toNat) % 18446744073709551616 = _; omega
    have s2 : (1#64 + v + 32#64).toNat = 33 + v.toNat := by rw [BitVec.toNat_add, s1]; show (1 + v.toNat + 32) % 18446744073709551616 = _; omega
    rw [if_neg h2, s1, s2]
    by_cases h3 : u.toNat < 1 + v.toNat
    · rw [if_pos h3]
      refine ⟨_, rfl, .inr ⟨?_, .inl (by simp)⟩⟩
      unfold hd; rw [if_neg h1, if_neg (by omega)]
    rw [if_neg h3]
    by_cases h4 : u.toNat > 33 + v.toNat
    · rw [if_pos h4]
      refine ⟨_, rfl, .inr ⟨?_, .inl (by simp)⟩⟩
      unfold hd; rw [if_neg h1, if_neg (by omega)]
    rw [if_neg h4]
    have s3 : (u - 1#64 - v).toNat = u.toNat - 1 - v.toNat := by
      have o1 : (1#64).toNat = 1 := rfl
      rw [BitVec.toNat_sub_of_le, BitVec.toNat_sub_of_le]
      · rfl
      · rw [BitVec.le_def, o1]; omega
      · rw [BitVec.le_def, BitVec.toNat_sub_of_le, o1]
        · omega
        · rw [BitVec.le_def, o1]; omega
    rw [s3, w64_id (e := (v.toNat : Int)) (by omega) (by omega), w64_id (e := ((u.toNat - 1 - v.toNat : Nat) : Int)) (by omega) (by omega)]
    refine ⟨_, rfl, .inl ⟨((v.toNat : Int), ((u.toNat - 1 - v.toNat : Nat) : Int)), ?_, rfl⟩⟩
    unfold hd; rw [if_neg h1, if_pos (by omega), v2, u2]

/-- The objects from a place on: their addresses and their words. -/
def ob (z W : Int) (ws : List (BitVec 64)) (l : List Int) : Nat → Int → Option (List (Int × Int))
  | 0, at' => if at' < W then none else some []
  | n + 1, at' => if at' < W then
      (match adl z l at' with
      | none => none
      | some a => match hd (gl 0#64 ws a.toNat) with
        | none => none
        | some o => if o.1 + o.2 + 1 > W - at' then none else (ob z W ws l n (at' + (1 + o.1 + o.2))).map ((a, 1 + o.1 + o.2) :: ·))
    else some []
theorem walk_loop {σ τ β : Type} {z W : Int} {ws : List (BitVec 64)} {l : List Int} {f : σ → Option (σ ⊕ β)} {en : Int → τ → σ} {bad good : τ → β} {step : Int → Int → τ → τ} (J : Nat → Int → τ → Prop)
    (hbad : ∀ (k : Nat) at' st, 0 ≤ at' → at' < W → (k : Int) ≤ at' → J k at' st → (∀ a o, adl z l at' = some a → hd (gl 0#64 ws a.toNat) = some o → W - at' < o.1 + o.2 + 1) → ∃ st', f (en at' st) = some (.inr (bad st')))
    (hgo : ∀ (k : Nat) at' st a o, 0 ≤ at' → at' < W → (k : Int) ≤ at' → J k at' st → adl z l at' = some a → hd (gl 0#64 ws a.toNat) = some o → o.1 + o.2 + 1 ≤ W - at' →
      f (en at' st) = some (.inl (en (at' + (1 + o.1 + o.2)) (step a (1 + o.1 + o.2) st))) ∧ J (k + 1) (at' + (1 + o.1 + o.2)) (step a (1 + o.1 + o.2) st))
    (he : ∀ (k : Nat) st, (k : Int) ≤ W → J k W st → f (en W st) = some (.inr (good st))) :
    ∀ (n : Nat) (k : Nat) (at' : Int) (st : τ), 0 ≤ at' → at' ≤ W → W - at' ≤ n → (k : Int) ≤ at' → J k at' st →
      (ob z W ws l n at' = none → ∃ st', loopO f (en at' st) = some (bad st')) ∧
      ∀ os, ob z W ws l n at' = some os → loopO f (en at' st) = some (good (os.foldl (fun st o => step o.1 o.2 st) st)) ∧ J (k + os.length) W (os.foldl (fun st o => step o.1 o.2 st) st) ∧ ((k + os.length : Nat) : Int) ≤ W := by
  intro n
  induction n with
  | zero =>
    intro k at' st h0 h1 h2 hk hJ
    have : at' = W := by omega
    subst this
    unfold ob
    rw [if_neg (by omega)]
    refine ⟨fun h => (by cases h), fun os h => ?_⟩
    simp only [Option.some.injEq] at h
    subst h
    rw [loopO_eq, he k st hk hJ]
    exact ⟨rfl, hJ, hk⟩
  | succ n ih =>
    intro k at' st h0 h1 h2 hk hJ
    by_cases hW : at' < W
    · unfold ob
      rw [if_pos hW]
      cases ha : adl z l at' with
      | none =>
        obtain ⟨st', hb⟩ := hbad k at' st h0 hW hk hJ (fun a o h => by rw [ha] at h; cases h)
        refine ⟨fun _ => ⟨st', by rw [loopO_eq, hb]⟩, fun os h => (by cases h)⟩
      | some a =>
        simp only
        cases ho : hd (gl 0#64 ws a.toNat) with
        | none =>
          obtain ⟨st', hb⟩ := hbad k at' st h0 hW hk hJ (fun a' o h h' => by rw [ha] at h; cases h; rw [ho] at h'; cases h')
          refine ⟨fun _ => ⟨st', by rw [loopO_eq, hb]⟩, fun os h => (by cases h)⟩
        | some o =>
          simp only
          have hr := hd_rng ho
          by_cases hs : o.1 + o.2 + 1 > W - at'
          · rw [if_pos hs]
            obtain ⟨st', hb⟩ := hbad k at' st h0 hW hk hJ (fun a' o' h h' => by rw [ha] at h; cases h; rw [ho] at h'; cases h'; omega)
            refine ⟨fun _ => ⟨st', by rw [loopO_eq, hb]⟩, fun os h => (by cases h)⟩
          · rw [if_neg hs]
            obtain ⟨e1, e2⟩ := hgo k at' st a o h0 hW hk hJ ha ho (by omega)
            obtain ⟨i1, i2⟩ := ih (k + 1) (at' + (1 + o.1 + o.2)) (step a (1 + o.1 + o.2) st) (by omega) (by omega) (by omega) (by omega) e2
            have el : loopO f (en at' st) = loopO f (en (at' + (1 + o.1 + o.2)) (step a (1 + o.1 + o.2) st)) := by rw [loopO_eq, e1]
            rw [el]
            cases hq : ob z W ws l n (at' + (1 + o.1 + o.2)) with
            | none => exact ⟨fun _ => i1 hq, fun os h => (by cases h)⟩
            | some q =>
              refine ⟨fun h => (by cases h), fun os h => ?_⟩
              simp only [Option.map_some, Option.some.injEq] at h
              subst h
              obtain ⟨j1, j2, j3⟩ := i2 q hq
              refine ⟨j1, ?_, ?_⟩
              · rw [List.length_cons, show k + (q.length + 1) = k + 1 + q.length by omega]; exact j2
              · rw [List.length_cons, show k + (q.length + 1) = k + 1 + q.length by omega]; exact j3
    · have : at' = W := by omega
      subst this
      unfold ob
      rw [if_neg (by omega)]
      refine ⟨fun h => (by cases h), fun os h => ?_⟩
      simp only [Option.some.injEq] at h
      subst h
      rw [loopO_eq, he k st hk hJ]
      exact ⟨rfl, hJ, hk⟩

/-- A place of an increment: where its word lies, and what the two functions answer. -/
structure At (s : Sp) (i : Inc) (l : List Int) (at' a : Int) : Prop where
  adr : adl (sz s.1) l at' = some a
  a0 : 0 ≤ a
  a1 : a < s.2.1.length
  pstep : Fchain_Step s (i.2.2.1 * sz s.1) at' = some (a, 0)
  rstep : Fbeltwayref05_Go s (i.2.2.1 * sz s.1) at' = some (a, 0)
  rgo : ∀ k, 0 ≤ k → k ≤ 1000 → Fbeltwayref05_Go s a k = some (adlR (adl (sz s.1) l (at' + k)))
theorem at_ok {s : Sp} (h : VS s) {i : Inc} (hf : FitS s i) {l : List Int} (hl : Has s i l) {at' : Int} (h0 : 0 ≤ at') (h1 : at' < i.2.2.2.2) : ∃ a, At s i l at' a := by
  have hwl := VS.wlen h
  have hn := h.n.2
  have z := sz_pos' s.1
  obtain ⟨z1, z2⟩ := sz_le h.sh
  obtain ⟨⟨q0, q1, b0, b1, w0, w1⟩, hf2⟩ := id hf
  rcases hl with ⟨hw, _⟩ | ⟨hw, hp⟩
  · omega
  rcases hf2 with ⟨hw', _⟩ | ⟨_, ⟨f0, f1⟩, fo, fs, l', hp', hlen, _⟩
  · omega
  obtain rfl := hp.fn hp'
  have hsp := cl_spec (n := i.2.2.2.2) z
  rw [← hlen] at hsp
  obtain ⟨g, -, ha⟩ := adl_some z h0 (show at' < l.length * sz s.1 by omega)
  have hFz := mul_sz_le h.sh f0 (show i.2.2.1 ≤ 64 by omega)
  have hFw : i.2.2.1 * sz s.1 < s.2.1.length := by
    rw [h.w]
    exact Int.mul_lt_mul_of_pos_right (by omega) z
  have hb := addr_frame z (g := i.2.2.1) (o := 0) (by omega) z
  rw [Int.add_zero] at hb
  have hst := fStep_ok h (a := i.2.2.1 * sz s.1) (k := at') hFz.1 hFw (by rw [hb.1, fo]; omega) h0 (by omega) (l := l) (by rw [hb.1]; exact hp)
  have hgo := Go_ok h (a := i.2.2.1 * sz s.1) (k := at') hFz.1 hFw (by rw [hb.1, fo]; omega) h0 (by omega) (l := l) (by rw [hb.1]; exact hp)
  rw [hb.2, Int.zero_add, ha] at hst hgo
  obtain ⟨l2, p2, ⟨c0, c1, c2⟩, p3⟩ := adl_step z hp h0 ha (k := 0) (Int.le_refl _)
  have ho := h.owner hp _ c2
  have m0 := Int.emod_nonneg (g * sz s.1 + at' % sz s.1) (show sz s.1 ≠ 0 by omega)
  have m1 := Int.emod_lt_of_pos (g * sz s.1 + at' % sz s.1) z
  have ed := Int.mul_ediv_add_emod (g * sz s.1 + at' % sz s.1) (sz s.1)
  generalize g * sz s.1 + at' % sz s.1 = a at *
  have ec : sz s.1 * (a / sz s.1) = a / sz s.1 * sz s.1 := Int.mul_comm _ _
  have n0 := Int.mul_nonneg c0 (Int.le_of_lt z)
  have n1 : (a / sz s.1 + 1) * sz s.1 ≤ s.2.2.length * sz s.1 := Int.mul_le_mul_of_nonneg_right (by omega) (by omega)
  rw [add_mul_sz, ← h.w] at n1
  refine ⟨a, ha, by omega, by omega, hst, hgo, fun k k0 k1 => ?_⟩
  obtain ⟨l3, p4, -, p5⟩ := adl_step z hp h0 ha (k := k) k0
  rw [Go_ok h (by omega) (by omega) (by rw [ho.1, fo]; omega) k0 (by omega) p4, p5]
theorem rLook_ok {s : Sp} {i : Inc} {l : List Int} {at' a : Int} (h : At s i l at' a) :
    (hd (gl 0#64 s.2.1 a.toNat) = none ∧ ∃ x, Fbeltwayref08_Look s a = some x ∧ x.2.2 ≠ 0) ∨
    (∃ o, hd (gl 0#64 s.2.1 a.toNat) = some o ∧ ((∃ y, adl (sz s.1) l (at' + (o.1 + o.2)) = some y ∧ Fbeltwayref08_Look s a = some (o.1, o.2, 0)) ∨ (adl (sz s.1) l (at' + (o.1 + o.2)) = none ∧ Fbeltwayref08_Look s a = some (0, 0, 2)))) := by
  have a0 := h.a0
  have a1 := h.a1
  have hg := h.rgo 0 (by omega) (by omega)
  rw [Int.add_zero, h.adr] at hg
  obtain ⟨x, hx, hr⟩ := rDec_ok (gl 0#64 s.2.1 a.toNat)
  unfold Fbeltwayref08_Look
  rw [hg, Option.bind_some, if_neg (by simp [adlR]), if_pos ⟨a0, a1⟩, hx, Option.bind_some]
  rcases hr with ⟨o, h1, rfl⟩ | ⟨h1, h2⟩
  · right
    refine ⟨o, h1, ?_⟩
    obtain ⟨⟨r0, r1⟩, d0, d1⟩ := hd_rng h1
    have hq := h.rgo (o.1 + o.2) (by omega) (by omega)
    rw [if_neg (by simp), if_neg (by simp), w64_id (by simp only; omega) (by simp only; omega), hq, Option.bind_some]
    cases adl (sz s.1) l (at' + (o.1 + o.2)) with
    | none => right; exact ⟨rfl, by rw [if_pos (by simp [adlR])]⟩
    | some y => left; exact ⟨y, rfl, by rw [if_neg (by simp [adlR])]⟩
  · left
    refine ⟨h1, ?_⟩
    rcases h2 with h2 | ⟨h2, h3⟩
    · rw [if_pos h2]; exact ⟨_, rfl, by simp⟩
    · rw [if_neg (not_not_intro h2), if_pos h3]; exact ⟨_, rfl, by simp⟩
end Go.Proofs.YtokeceeccmgcmaaDoor
