/-
  A text that was printed is read as what it says, and every text that is read is the one text of what it says.
-/
import Derived.Test.YtmcahbbelnjhiaaDoorNtnI
set_option linter.unusedVariables false
set_option linter.unusedSimpArgs false
namespace Go.Proofs.YtmcahbbelnjhiaaDoor
open Go Go.V3

/-! Numerals. -/
theorem dig_of {u : Nat} (h : u < 10) : dig (UInt8.ofNat (48 + u)) = true ∧ (UInt8.ofNat (48 + u)).toNat = 48 + u := by
  have : (UInt8.ofNat (48 + u)).toNat = 48 + u := by rw [UInt8.toNat_ofNat']; omega
  unfold dig
  rw [decide_eq_true_eq, this]
  omega
theorem head_app {l r : By} (h : l ≠ []) : (l ++ r).head? = l.head? := by
  obtain ⟨b, t, rfl⟩ := List.exists_cons_of_ne_nil h
  rfl
theorem dec_all : ∀ (n u : Nat), u < n → (∀ b ∈ Lib.decDigits u, dig b = true) ∧ dval 0 (Lib.decDigits u) = u ∧ (1 ≤ u → (Lib.decDigits u).head? ≠ some 48) ∧ Lib.decDigits u ≠ []
  | 0, u, h => by omega
  | n + 1, u, h => by
    by_cases h' : u < 10
    · rw [Lib.decDigits, dif_pos h']
      obtain ⟨h1, h2⟩ := dig_of h'
      refine ⟨fun b hb => by rw [List.mem_singleton] at hb; rw [hb]; exact h1, ?_, fun hu => ?_, by simp⟩
      · simp only [dval, List.foldl_cons, List.foldl_nil]; omega
      · rw [List.head?_cons]
        intro e
        have := congrArg UInt8.toNat (Option.some.inj e)
        rw [h2] at this
        have e2 : (48 : UInt8).toNat = 48 := rfl
        omega
    · rw [Lib.decDigits, dif_neg h']
      obtain ⟨g1, g2, g3, g4⟩ := dec_all n (u / 10) (by omega)
      obtain ⟨h1, h2⟩ := dig_of (u := u % 10) (by omega)
      refine ⟨fun b hb => ?_, ?_, fun _ => ?_, by simp⟩
      · rcases List.mem_append.mp hb with hb | hb
        · exact g1 b hb
        · rw [List.mem_singleton] at hb; rw [hb]; exact h1
      · rw [dval_app, g2, h2]; omega
      · rw [head_app g4]
        exact g3 (by omega)
theorem dec_length : ∀ (k u : Nat), u < 10 ^ (k + 1) → (Lib.decDigits u).length ≤ k + 1 ∧ (u < 10 → (Lib.decDigits u).length = 1)
  | 0, u, h => by
    have h' : u < 10 := by simpa using h
    rw [Lib.decDigits, dif_pos h']
    exact ⟨Nat.le_refl _, fun _ => rfl⟩
  | k + 1, u, h => by
    by_cases h' : u < 10
    · rw [Lib.decDigits, dif_pos h']
      exact ⟨by simp, fun _ => rfl⟩
    · rw [Lib.decDigits, dif_neg h', List.length_append, List.length_singleton]
      have hq : u / 10 < 10 ^ (k + 1) := by
        rw [Nat.pow_succ] at h
        exact (Nat.div_lt_iff_lt_mul (by omega)).mpr h
      have := (dec_length k _ hq).1
      exact ⟨by omega, fun h => absurd h h'⟩
/-- No digit ahead. -/
def nd (r : By) : Prop := ∀ b, r.head? = some b → dig b = false
theorem tw_app {p : UInt8 → Bool} {d r : By} (hd : ∀ b ∈ d, p b = true) (hr : ∀ b, r.head? = some b → p b = false) : (d ++ r).takeWhile p = d ∧ (d ++ r).dropWhile p = r := by
  have h1 : r.takeWhile p = [] := by
    cases r with
    | nil => rfl
    | cons a t => rw [List.takeWhile_cons, if_neg]; rw [hr a rfl]; decide
  have h2 : (d ++ r).takeWhile p = d := by rw [List.takeWhile_append_of_pos hd, h1, List.append_nil]
  refine ⟨h2, ?_⟩
  rw [dw_drop, h2, List.drop_left]
theorem num_it {n : Int} (h0 : 0 ≤ n) (h1 : n < 10000) {r : By} (hr : nd r) : num (it n ++ r) = some (n, r) := by
  obtain ⟨u, rfl⟩ := Int.eq_ofNat_of_zero_le h0
  rw [it_nat]
  obtain ⟨g1, g2, g3, g4⟩ := dec_all (u + 1) u (by omega)
  obtain ⟨l1, l2⟩ := dec_length 3 u (by omega)
  obtain ⟨t1, t2⟩ := tw_app g1 hr
  have hpos : 0 < (Lib.decDigits u).length := List.length_pos_iff.mpr g4
  unfold num
  rw [t1, t2, g2, if_neg]
  rintro (h | h | ⟨h, e⟩)
  · omega
  · omega
  · rw [head_app g4] at e
    refine g3 ?_ e
    apply Nat.pos_of_ne_zero
    rintro rfl
    have := l2 (by omega)
    omega
theorem it_head {n : Int} (h0 : 0 ≤ n) {r : By} : ∃ b t, it n ++ r = b :: t ∧ dig b = true := by
  obtain ⟨u, rfl⟩ := Int.eq_ofNat_of_zero_le h0
  rw [it_nat]
  obtain ⟨g1, g2, g3, g4⟩ := dec_all (u + 1) u (by omega)
  obtain ⟨b, t, e⟩ := List.exists_cons_of_ne_nil g4
  rw [e] at g1 ⊢
  exact ⟨b, t ++ r, rfl, g1 b (.head _)⟩
theorem dval_pos : ∀ (l : By) (n : Nat), 1 ≤ n → 1 ≤ dval n l
  | [], n, h => h
  | b :: t, n, h => dval_pos t (n * 10 + (b.toNat - 48)) (by omega)
theorem dec_back : ∀ (n : Nat) (d : By), d.length = n → d ≠ [] → (∀ b ∈ d, dig b = true) → (1 < d.length → d.head? ≠ some 48) → Lib.decDigits (dval 0 d) = d
  | 0, d, hn, h, _, _ => absurd (List.length_eq_zero_iff.mp hn) h
  | n + 1, d, hn, h, hd, hh => by
    have e := List.dropLast_concat_getLast h
    have hb := hd _ (List.getLast_mem h)
    generalize d.getLast h = b at e hb
    generalize d.dropLast = d' at e
    subst e
    have hb' := hb
    simp only [dig, decide_eq_true_eq] at hb'
    have hof : UInt8.ofNat (48 + (b.toNat - 48)) = b := by
      apply UInt8.toNat_inj.mp
      rw [UInt8.toNat_ofNat']; omega
    rw [dval_app]
    by_cases c : d' = []
    · subst c
      have : dval 0 [] * 10 + (b.toNat - 48) = b.toNat - 48 := by simp [dval]
      rw [this, Lib.decDigits, dif_pos (by omega), hof]; rfl
    · have hl : 1 < (d' ++ [b]).length := by
        rw [List.length_append, List.length_singleton]
        have := List.length_pos_iff.mpr c
        omega
      have hh' := hh hl
      rw [head_app c] at hh'
      have ih := dec_back n d' (by rw [List.length_append, List.length_singleton] at hn; omega) c (fun x hx => hd x (List.mem_append.mpr (.inl hx))) (fun _ => hh')
      have hpos : 1 ≤ dval 0 d' := by
        obtain ⟨a, t, rfl⟩ := List.exists_cons_of_ne_nil c
        have ha := hd a (List.mem_append.mpr (.inl (.head _)))
        simp only [dig, decide_eq_true_eq] at ha
        have : a.toNat ≠ 48 := by
          intro e
          apply hh'
          rw [List.head?_cons]
          congr 1
          apply UInt8.toNat_inj.mp
          rw [e]; rfl
        exact dval_pos t (0 * 10 + (a.toNat - 48)) (by omega)
      rw [Lib.decDigits, dif_neg (by omega), show (dval 0 d' * 10 + (b.toNat - 48)) / 10 = dval 0 d' by omega, show 48 + (dval 0 d' * 10 + (b.toNat - 48)) % 10 = 48 + (b.toNat - 48) by omega, ih, hof]
theorem num_back {l r : By} {v : Int} (h : num l = some (v, r)) : l = it v ++ r := by
  unfold num at h
  split at h
  · cases h
  · rename_i e
    cases h
    have h1 : Lib.decDigits (dval 0 (l.takeWhile dig)) = l.takeWhile dig := by
      refine dec_back _ _ rfl (fun h => e (.inl (by rw [h]; decide))) (tw_dig l) fun hl hh => e (.inr (.inr ⟨hl, ?_⟩))
      rw [← hh, tw_take, List.head?_take, if_neg (by omega)]
    rw [it_nat, h1, List.takeWhile_append_dropWhile]

/-! Percentages. -/
theorem pc_mono : ∀ p : Fin 100, pc (p.1 : Int) < pc ((p.1 + 1 : Nat) : Int) := by decide
theorem pc_lt_of : ∀ (q p : Nat), p < q → q ≤ 100 → pc (p : Int) < pc (q : Int)
  | 0, p, h, _ => by omega
  | q + 1, p, h, hq => by
    have h1 := pc_mono ⟨q, by omega⟩
    dsimp only at h1
    by_cases c : p = q
    · subst c; exact h1
    · exact Nat.lt_trans (pc_lt_of q p (by omega) (by omega)) h1
theorem tp_pc {p : Int} (h0 : 0 ≤ p) (h1 : p ≤ 100) : tp (pc p) = some p := by
  obtain ⟨u, rfl⟩ := Int.eq_ofNat_of_zero_le h0
  unfold tp
  have : (List.range 101).find? (fun q : Nat => decide (pc (q : Int) = pc (u : Int))) = some u := List.find?_range_eq_some.mpr ⟨by simp, by rw [List.mem_range]; omega, fun j hj => by
    have := pc_lt_of u j hj (by omega)
    rw [Bool.not_eq_true', decide_eq_false_iff_not]; omega⟩
  rw [this]; rfl

/-! Rules. -/
theorem gpt_to {x : Nat} {p : Int} (h : tp x = some p) (r : By) : gpt ((if p = 0 then tAll else it p ++ [37]) ++ r) = some (x, r) := by
  obtain ⟨p0, p1, p2⟩ := tp_some h
  unfold gpt
  by_cases c : p = 0
  · rw [if_pos c, tok_app]
    rw [← p2, c, pc_zero]
  · rw [if_neg c, List.append_assoc]
    have h1 : tok tAll (it p ++ ([37] ++ r)) = none := by
      obtain ⟨b, t, e, hb⟩ := it_head p0 (r := [37] ++ r)
      rw [e]
      cases ht : tok tAll (b :: t) with
      | none => rfl
      | some z =>
        have := tok_some ht
        rw [tAll, List.cons_append] at this
        cases this
        exfalso; revert hb; decide
    rw [h1, num_it p0 (by omega) (by rintro b hb; cases hb; decide), Option.bind_some]
    dsimp only
    rw [tok_app, Option.bind_some, if_pos (by omega), p2]
theorem gpt_back {l r : By} {x : Nat} (h : gpt l = some (x, r)) : ∃ p, tp x = some p ∧ l = (if p = 0 then tAll else it p ++ [37]) ++ r := by
  unfold gpt at h
  split at h
  · rename_i z e
    cases h
    exact ⟨0, tp_zero, by rw [if_pos rfl]; exact tok_some e⟩
  · obtain ⟨⟨v, r1⟩, e1, h⟩ := Option.bind_eq_some_iff.mp h
    obtain ⟨r2, e2, h⟩ := Option.bind_eq_some_iff.mp h
    split at h
    · rename_i hv
      cases h
      dsimp only at hv e2
      exact ⟨v, tp_pc (by omega) hv.2, by rw [if_neg (by omega), num_back e1, tok_some e2, List.append_assoc]⟩
    · cases h
theorem rule_to {x : Ru} {p : Int} (h : tp x.1 = some p) (hr : RuP x) {r : By} (hd : nd r) : rule (rtx p x ++ r) = some (x, r) := by
  obtain ⟨_, h2, h3, h4⟩ := hr
  unfold rule rtx
  simp only [List.append_assoc]
  rw [gpt_to h, Option.bind_some]
  dsimp only
  rw [tok_app, Option.bind_some, num_it h2.1 (by omega) (by rintro b hb; cases hb; decide), Option.bind_some]
  dsimp only
  rw [tok_app, Option.bind_some, num_it h3.1 (by omega) (by rintro b hb; cases hb; decide), Option.bind_some]
  dsimp only
  rw [tok_app, Option.bind_some, num_it h4.1 (by omega) hd, Option.bind_some]
theorem rule_back {l r : By} {x : Ru} (h : rule l = some (x, r)) : ∃ p, tp x.1 = some p ∧ l = rtx p x ++ r := by
  unfold rule at h
  obtain ⟨⟨a, r0⟩, e0, h⟩ := Option.bind_eq_some_iff.mp h
  obtain ⟨r1, e1, h⟩ := Option.bind_eq_some_iff.mp h
  obtain ⟨⟨b, r2⟩, e2, h⟩ := Option.bind_eq_some_iff.mp h
  obtain ⟨r3, e3, h⟩ := Option.bind_eq_some_iff.mp h
  obtain ⟨⟨c, r4⟩, e4, h⟩ := Option.bind_eq_some_iff.mp h
  obtain ⟨r5, e5, h⟩ := Option.bind_eq_some_iff.mp h
  obtain ⟨⟨d, r6⟩, e6, h⟩ := Option.bind_eq_some_iff.mp h
  cases h
  obtain ⟨p, hp, hl⟩ := gpt_back e0
  refine ⟨p, hp, ?_⟩
  dsimp only at *
  rw [hl, tok_some e1, num_back e2, tok_some e3, num_back e4, tok_some e5, num_back e6]
  unfold rtx
  simp only [List.append_assoc]
theorem rtx_ne (p : Int) (x : Ru) : rtx p x ≠ [] := by
  intro h
  have := congrArg List.length h
  unfold rtx at this
  simp only [List.length_append, List.length_cons, List.length_nil] at this
  omega
theorem rules_to : ∀ (n : Nat) (rs : List Ru) (ts : List By), rs.length < n → ptx rs = some ts → (∀ x ∈ rs, RuP x) → rs ≠ [] → rules n (jn ts) = some rs
  | n, [], ts, _, _, _, h => absurd rfl h
  | 0, x :: rs, ts, h, _, _, _ => by omega
  | n + 1, x :: rs, ts, hn, ht, hok, _ => by
    rw [ptx] at ht
    obtain ⟨p, hp, ht⟩ := Option.bind_eq_some_iff.mp ht
    obtain ⟨ts', ht', rfl⟩ := Option.map_eq_some_iff.mp ht
    cases rs with
    | nil =>
      cases ht'
      rw [jn_one, rules]
      have := rule_to hp (hok x (.head _)) (r := []) (by rintro b hb; cases hb)
      rw [List.append_nil] at this
      rw [this, Option.bind_some, if_pos rfl]
    | cons y rs =>
      cases ts' with
      | nil =>
        rw [ptx] at ht'
        obtain ⟨_, _, ht'⟩ := Option.bind_eq_some_iff.mp ht'
        obtain ⟨_, _, ht'⟩ := Option.map_eq_some_iff.mp ht'
        cases ht'
      | cons t ts' =>
        rw [jn_cons, rules]
        have := rule_to hp (hok x (.head _)) (r := [44, 32] ++ jn (t :: ts')) (by rintro b hb; cases hb; decide)
        have ih := rules_to n (y :: rs) (t :: ts') (by rw [List.length_cons] at hn; omega) ht' (fun z hz => hok z (.tail _ hz)) (by simp)
        rw [this, Option.bind_some, if_neg (by simp)]
        dsimp only
        rw [tok_app, Option.bind_some, ih]; rfl
theorem rules_back : ∀ (n : Nat) (l : By) (rs : List Ru), rules n l = some rs → rs ≠ [] ∧ ∃ ts, ptx rs = some ts ∧ ts ≠ [] ∧ l = jn ts
  | 0, l, rs, h => by cases h
  | n + 1, l, rs, h => by
    rw [rules] at h
    obtain ⟨⟨x, r⟩, e, h⟩ := Option.bind_eq_some_iff.mp h
    obtain ⟨p, hp, hl⟩ := rule_back e
    by_cases c : r = []
    · rw [if_pos c] at h
      cases h
      refine ⟨by simp, [rtx p x], ?_, by simp, ?_⟩
      · rw [ptx, hp]; rfl
      · rw [jn_one, hl, c, List.append_nil]
    · rw [if_neg c] at h
      obtain ⟨r', e', h⟩ := Option.bind_eq_some_iff.mp h
      obtain ⟨rs', e2, h⟩ := Option.map_eq_some_iff.mp h
      subst h
      obtain ⟨h3, ts, h4, h5, h6⟩ := rules_back n _ _ e2
      obtain ⟨t, ts', rfl⟩ := List.exists_cons_of_ne_nil h5
      refine ⟨by simp, rtx p x :: t :: ts', ?_, by simp, ?_⟩
      · rw [ptx, hp, Option.bind_some, h4]; rfl
      · dsimp only at e'
        rw [jn_cons, hl, tok_some e', h6]
theorem says_to {c : Cf} (hg : Good c) {ts : List By} (ht : ptx c.2.1 = some ts) : says (head c ++ jn ts) = some c := by
  have hname : ∀ b ∈ bl c.1, nmc b = true := by
    intro b hb
    obtain ⟨i, hi, rfl⟩ := List.getElem_of_mem hb
    rw [bl_len] at hi
    have := hg.nm.2.2 i hi
    unfold okb at this
    rw [sget_bl, List.getElem?_eq_getElem (by rw [bl_len]; exact hi), Option.getD_some] at this
    unfold nmc
    rw [decide_eq_true_eq]
    omega
  unfold head
  simp only [List.append_assoc]
  obtain ⟨t1, t2⟩ := tw_app (p := nmc) (d := bl c.1) (r := tFull ++ (it c.2.2 ++ ([58, 32] ++ jn ts))) hname (by rintro b hb; cases hb; decide)
  unfold says
  rw [t1, t2, bl_len, if_neg (by have := hg.nm.1; have := hg.nm.2.1; omega), tok_app, Option.bind_some, num_it (good_full hg).1 (by have := (good_full hg).2; omega) (by rintro b hb; cases hb; decide), Option.bind_some]
  dsimp only
  rw [tok_app, Option.bind_some, rules_to 1025 c.2.1 ts (by have := hg.n.2; omega) ht (fun x hx => by
    obtain ⟨i, hi, rfl⟩ := List.getElem_of_mem hx
    have := good_rp hg hi
    rwa [gl_lt hi] at this) (by intro h; have := hg.n.1; rw [h] at this; simp at this), mk_bl]
  rfl
theorem says_back {l : By} {c : Cf} (h : says l = some c) : ∃ ts, ptx c.2.1 = some ts ∧ l = head c ++ jn ts := by
  unfold says at h
  split at h
  · cases h
  obtain ⟨l1, e1, h⟩ := Option.bind_eq_some_iff.mp h
  obtain ⟨⟨v, l2⟩, e2, h⟩ := Option.bind_eq_some_iff.mp h
  obtain ⟨l3, e3, h⟩ := Option.bind_eq_some_iff.mp h
  obtain ⟨rs, e4, h⟩ := Option.map_eq_some_iff.mp h
  subst h
  obtain ⟨_, ts, h4, _, h5⟩ := rules_back _ _ _ e4
  refine ⟨ts, h4, ?_⟩
  dsimp only at e3
  unfold head
  dsimp only
  rw [bl_mk]
  simp only [List.append_assoc]
  conv => lhs; rw [← List.takeWhile_append_dropWhile (p := nmc) (l := l)]
  rw [tok_some e1, num_back e2, tok_some e3, h5]
/-- What was read is printed again. -/
theorem prn_back {s : ByteArray} {c : Cf} (h : says (bl s) = some c) (hc : chk c = 0) : prn c = (s, 0) := by
  obtain ⟨ts, ht, hl⟩ := says_back h
  unfold prn
  rw [if_pos hc, ht]
  dsimp only
  rw [← hl, mk_bl]
/-- What was printed is read again. -/
theorem parse_prn {c : Cf} (hg : Good c) {ts : List By} (ht : ptx c.2.1 = some ts) (hz : (head c ++ jn ts).length ≤ 1024) : parse ⟨(head c ++ jn ts).toArray⟩ = (c, 0) := by
  unfold parse
  rw [if_neg (by rw [size_mk]; omega), bl_mk, says_to hg ht]
  dsimp only
  rw [if_pos hg.chk]
end Go.Proofs.YtmcahbbelnjhiaaDoor
