/-
  Part F: a state after values were taken out of it.
-/
import Derived.Test.YtmcahbbelnjhiaaDoorV3E
set_option linter.unusedVariables false
namespace Go.V3
open Go
variable {TB : Tb}

theorem packArg_names {md : PM} (hmd : md ≠ .own) {lkp : Nat → Option Ent} {c : CT} {v : SV} {a : Taken c.t.T} (h : packArg md lkp c v = some a) :
    (∀ q ∈ a.fz, ∃ t ys e, lkp q.1 = some e ∧ OwnE e t ys ∧ q.2 = .shr t ys ∧ q.1 ∈ a.ln) ∧ (∀ i ∈ a.on, ∃ e, lkp i = some e ∧ e.isRsv = false) := by
  obtain ⟨cs, u, nes, x, h1, rfl, h2, h3, h4⟩ := packArg_cases h
  obtain ⟨_, g2⟩ := packC_get _ _ _ _ _ _ h1
  refine ⟨fun q hq => ?_, fun i hi => ?_⟩
  · rw [h3] at hq
    cases ho : c.own with
    | true => rw [ho] at hq; cases hq
    | false =>
      rw [ho] at hq h4 g2
      simp only [Bool.false_eq_true, if_false] at hq h4 g2
      obtain ⟨k, t, s, xs, ne, uk, hs, hne, hqk⟩ := g2 q hq
      rcases packS_ups hs with rfl | ⟨i, t', ys, e', hl, hoe, _, hn, rfl⟩ | hx
      · cases hqk
      · rw [List.mem_singleton] at hqk; subst hqk
        refine ⟨t', ys, e', hl, hoe, rfl, ?_⟩
        rw [h4]
        exact List.mem_filterMap.2 ⟨ne, List.mem_of_getElem? hne, hn⟩
      · exact absurd hx hmd
  · have hu : ∀ q ∈ u, c.own = true → ∃ e, lkp q.1 = some e ∧ e.isRsv = false := by
      intro q hq ho
      rw [ho] at g2
      simp only [if_true] at g2
      obtain ⟨k, t, s, xs, ne, uk, hs, hne, hqk⟩ := g2 q hq
      rcases packS_own hs with ⟨_, _, rfl, _⟩ | ⟨i, _, hl, rfl⟩
      · cases hqk
      · rw [List.mem_singleton] at hqk; subst hqk; exact ⟨_, hl, ownEnt_rsv _ _⟩
    have hin : ∀ i ∈ (if c.own = true then u.map (·.1) else []), ∃ e, lkp i = some e ∧ e.isRsv = false := by
      intro i hi
      split at hi
      · rename_i ho
        obtain ⟨q, hq, rfl⟩ := List.mem_map.1 hi
        exact hu q hq ho
      · cases hi
    rcases h2 with ⟨_, i', rfl, hl, _, e2⟩ | ⟨_, _, _, e2⟩
    · rw [e2] at hi
      rcases List.mem_cons.1 hi with rfl | hi
      · exact ⟨_, hl, rfl⟩
      · exact hin i hi
    · rw [e2] at hi
      exact hin i hi

theorem packA_names {md : PM} (hmd : md ≠ .own) {lkp : Nat → Option Ent} : ∀ (cs : List CT) (vs : List SV) (a : Taken (HT cs)), packA md lkp cs vs = some a →
    (∀ q ∈ a.fz, ∃ t ys e, lkp q.1 = some e ∧ OwnE e t ys ∧ q.2 = .shr t ys ∧ q.1 ∈ a.ln) ∧ (∀ i ∈ a.on, ∃ e, lkp i = some e ∧ e.isRsv = false) := by
  intro cs
  induction cs with
  | nil =>
    intro vs a h
    cases vs with
    | nil => simp only [packA, Option.some.injEq] at h; subst h; exact ⟨fun q hq => (by simp at hq), fun i hi => (by simp at hi)⟩
    | cons v r => simp [packA] at h
  | cons c r ih =>
    intro vs a h
    obtain ⟨v, vs', a1, a2, rfl, h1, h2, rfl⟩ := packA_cons h
    obtain ⟨p1, p2⟩ := packArg_names hmd h1
    obtain ⟨q1, q2⟩ := ih _ _ h2
    refine ⟨fun q hq => ?_, fun i hi => ?_⟩
    · rcases List.mem_append.1 hq with hq | hq
      · obtain ⟨t, ys, e, a, a', b, c⟩ := p1 q hq; exact ⟨t, ys, e, a, a', b, List.mem_append.2 (.inl c)⟩
      · obtain ⟨t, ys, e, a, a', b, c⟩ := q1 q hq; exact ⟨t, ys, e, a, a', b, List.mem_append.2 (.inr c)⟩
    · rcases List.mem_append.1 hi with hi | hi
      · exact p2 i hi
      · exact q2 i hi

theorem Holds.kills {c : Cfg TB} {G : Nat → Prop} {w : World} {E : Env} : ∀ (on : List Nat) {L : Store}, Holds c G w E L → (∀ i ∈ on, i < L.length) →
    Holds c G w E (updL L (on.map fun i => (i, .dead))) ∧ (∀ n, Al L n → Al (updL L (on.map fun i => (i, .dead))) n) ∧
      ∀ n, look (updL L (on.map fun i => (i, .dead))) n = if n ∈ on then some .dead else look L n
  | [], L, h, _ => ⟨h, fun _ h => h, fun n => by simp [updL]⟩
  | i :: r, L, h, hl => by
    obtain ⟨h1, h2, h3⟩ := Holds.kills r (h.kill (hl i (by simp))) (fun k hk => by rw [upd_length]; exact hl k (by simp [hk]))
    refine ⟨h1, fun n hn => h2 n (al_upd rfl n hn), fun n => ?_⟩
    show look (updL (upd L (i, .dead)) (r.map fun i => (i, .dead))) n = _
    rw [h3, look_upd (hl i (by simp))]
    by_cases hn : n = i
    · subst hn; simp
    · by_cases hr : n ∈ r <;> simp [hn, hr]

theorem EntOk.blk_lt {c : Cfg TB} {G : Nat → Prop} {w : World} {E : Env} {L : Store} {m : Nm} {e : Ent} (h : EntOk c G w E L m e) {b : Nat} (hb : e.own m = some b) : b < w.heap.size := by
  obtain ⟨_, _, _, _, _, o, h6⟩ := h.own_ok hb
  rcases Nat.lt_or_ge b w.heap.size with h1 | h1
  · exact h1
  · rw [Array.getElem?_eq_none h1] at h6; cases h6

/-- Values are taken out. -/
theorem Holds.take {c : Cfg TB} {G : Nat → Prop} {w : World} {E : Env} {L : Store} (h : Holds c G w E L) {md : PM} (hmd : md ≠ .own) {lkp : Nat → Option Ent} (hlk : ∀ n e, lkp n = some e → look L n = some e)
    {cs : List CT} {vs : List SV} {a : Taken (HT cs)} (hp : packA md lkp cs vs = some a) (ho : okA a = true) (hw : wfL E L vs) :
    ∃ G1 G2, Holds c G1 w E (updL L a.ups) ∧ (∀ b, G b → G1 b) ∧ (∀ b, G1 b → G2 b) ∧ (md = .frz → G2 = G1) ∧
      (∀ b, G2 b → G1 b ∨ ∃ n e, look (updL L a.ups) n = some e ∧ e.ow E n b) ∧ (∀ n, Al L n → Al (updL L a.ups) n) ∧
      (∀ n, n ∉ a.on → n ∉ a.fz.map (·.1) → look (updL L a.ups) n = look L n) ∧ (∀ n ∈ a.on, look (updL L a.ups) n = some .dead) ∧
      PS c G2 w cs a.x (nesF E a.nes) ∧ (ownsP cs a.x (nesF E a.nes)).Nodup ∧ ∀ b ∈ ownsP cs a.x (nesF E a.nes), NoOwn E (updL L a.ups) b := by
  obtain ⟨n1, n2⟩ := packA_names hmd cs vs a hp
  simp only [okA, Bool.and_eq_true, decide_eq_true_eq, List.all_eq_true, Bool.not_eq_true', List.contains_eq_mem, decide_eq_false_iff_not] at ho
  obtain ⟨hnd, hdis⟩ := ho
  obtain ⟨G1, h1, hg1, ha1, hk1, hq1⟩ := h.freezes a.fz (fun q hq => by
    obtain ⟨t, ys, e0, hl, ho0, e, _⟩ := n1 q hq
    exact ⟨t, ys, .inl ⟨e0, hlk _ _ hl, ho0⟩, e⟩)
  have hfzon : ∀ i ∈ a.on, i ∉ a.fz.map (·.1) := by
    intro i hi hx
    obtain ⟨q, hq, rfl⟩ := List.mem_map.1 hx
    obtain ⟨_, _, _, _, _, _, hln⟩ := n1 q hq
    exact hdis _ hi hln
  have hsame : ∀ n, n ∉ a.fz.map (·.1) → look (updL L a.fz) n = look L n := by
    intro n hn
    cases hl : look L n with
    | some e =>
      rcases hk1 n e hl with hx | ⟨t, ys, _, _, hx⟩
      · exact hx
      · exact absurd (List.mem_map.2 ⟨_, hx, rfl⟩) hn
    | none =>
      have hge : L.length ≤ n := by
        rcases Nat.lt_or_ge n L.length with h' | h'
        · unfold look at hl; rw [List.getElem?_eq_getElem h'] at hl; cases hl
        · exact h'
      unfold look
      rw [List.getElem?_eq_none (by rw [updL_length]; exact hge)]
  have honlt : ∀ i ∈ a.on, i < (updL L a.fz).length := by
    intro i hi
    rw [updL_length]
    obtain ⟨e, hl, _⟩ := n2 i hi
    exact look_lt (hlk _ _ hl)
  obtain ⟨h2, ha2, hl2⟩ := h1.kills a.on honlt
  have eups : updL L a.ups = updL (updL L a.fz) (a.on.map fun i => (i, .dead)) := by rw [Taken.ups, updL_append]
  rw [← eups] at h2 ha2 hl2
  have hkeep : ∀ n, n ∉ a.on → n ∉ a.fz.map (·.1) → look (updL L a.ups) n = look L n := by
    intro n hn hf
    rw [hl2, if_neg hn, hsame n hf]
  -- the blocks that are lent
  let G2 : Nat → Prop := fun b => G1 b ∨ (md = .lend ∧ ∃ n e, look (updL L a.ups) n = some e ∧ e.ow E n b)
  have hg12 : ∀ b, G1 b → G2 b := fun b hb => .inl hb
  -- no owner that is given away is lent
  have hnot : ∀ i ∈ a.on, ∀ e, look L i = some e → ∀ b, e.ow E i b → ¬ G2 b ∧ NoOwn E (updL L a.ups) b := by
    intro i hi e he b hb
    have he1 : look (updL L a.fz) i = some e := by rw [hsame i (hfzon i hi)]; exact he
    have hno : NoOwn E (updL L a.ups) b := by
      intro n f hf hfb
      rw [hl2] at hf
      by_cases hn : n ∈ a.on
      · rw [if_pos hn] at hf; simp only [Option.some.injEq] at hf; subst hf; rcases hfb with hfb | ⟨hfb, _⟩ <;> cases hfb
      · rw [if_neg hn] at hf
        refine h1.inj n i f e b (fun hx => hn (hx ▸ hi)) hf he1 hfb hb
    refine ⟨?_, hno⟩
    rintro (hx | ⟨_, n, f, hx, hxb⟩)
    · exact (h1.ow_ok he1 hb).1 hx
    · exact hno n _ hx hxb
  have hmono := fun t x vs => Rp.mono (w := w) (w' := w) (fun b (_ : G1 b) => rfl) hg12 t x vs
  have hknown : Known md lkp E c G2 w a.on a.fz a.ln := by
    refine ⟨?_, ?_, ?_, ?_, ?_⟩
    · intro i t ys hl
      rcases hk1 i _ (hlk _ _ hl) with hx | ⟨_, _, hx, _⟩
      · exact Shr.mono (h1.ent i _ hx) (hmono t) (fun _ _ => rfl) hg12
      · cases hx
    · rintro i t ys e0 hl hoe (⟨hx, hln⟩ | hx)
      · have hion : i ∉ a.on := fun hi => hdis i hi hln
        rcases hk1 i _ (hlk _ _ hl) with hx1 | ⟨t', ys', hx1, hx2, _⟩
        · have hx3 : look (updL L a.ups) i = some e0 := by rw [hl2, if_neg hion]; exact hx1
          cases hoe with
          | row => exact own_shr (h1.ent i _ hx1) (hmono t) (fun hn => .inr ⟨hx, i, _, hx3, .inl (by simp [Ent.own, hn])⟩)
          | deep b => exact (h1.dp i _ _ _ hx1).shr (hmono b) (fun b hb => .inr ⟨hx, i, _, hx3, Ent.ow_deep.2 hb⟩)
        · have : (Ent.shr t' ys') = .shr t ys := by cases hx1 <;> cases hoe <;> rfl
          rw [this] at hx2
          exact Shr.mono (h1.ent i _ hx2) (hmono t) (fun _ _ => rfl) hg12
      · exact Shr.mono (h1.ent i _ (hq1 _ hx)) (hmono t) (fun _ _ => rfl) hg12
    · intro i t ys hl hi
      have he1 : look (updL L a.fz) i = some (.row t ys) := by rw [hsame i (hfzon i hi)]; exact hlk _ _ hl
      obtain ⟨p1, p2, p3⟩ := h1.ent i _ he1
      refine ⟨p1, p2, p3.imp id ?_⟩
      rintro ⟨p4, p5, p6, p7, arr, ty, p8, p9, p10⟩
      exact ⟨p4, (hnot i hi _ (hlk _ _ hl) _ (.inl (by simp [Ent.own, p4]))).1, p6, p7, arr, ty, p8, p9, p10.imp (hmono t)⟩
    · intro i t ys hl hi
      have he1 : look (updL L a.fz) i = some (.deep t ys none) := by rw [hsame i (hfzon i hi)]; exact hlk _ _ hl
      refine ⟨rfl, ?_⟩
      refine ((h1.dp i t ys none he1).mono (fun _ h => h) (fun _ _ => rfl) (fun _ _ => rfl) hg12 (fun b hb => ⟨rfl, ?_⟩)).env ⟨rfl, rfl, rfl, rfl, rfl⟩
      exact (hnot i hi _ (hlk _ _ hl) _ (Ent.ow_deep.2 hb)).1
    · intro i cs hl hi
      have he1 : look (updL L a.fz) i = some (.box cs) := by rw [hsame i (hfzon i hi)]; exact hlk _ _ hl
      obtain ⟨p1, p2, p3, p4, p5, p6⟩ := h1.ent i _ he1
      exact ⟨p1, p2, (hnot i hi _ (hlk _ _ hl) _ (.inl rfl)).1, p4, p5⟩
  have hwb : ∀ i cs, lkp i = some (.box cs) → wfL E L cs := fun i cs hl => (h.ent i _ (hlk _ _ hl)).2.2.2.2.2
  have howns := packA_owns (E := E) cs vs a hp
  have hblk : ∀ i ∈ a.on, ∀ b ∈ blkOf lkp E i, ∃ e, look L i = some e ∧ e.ow E i b := by
    intro i _ b hb
    unfold blkOf at hb
    split at hb
    · rename_i e hl; exact ⟨e, hlk _ _ hl, Ent.ow_nx.2 hb⟩
    · cases hb
  have hblkn : ∀ i ∈ a.on, (blkOf lkp E i).Nodup := by
    intro i _
    unfold blkOf
    split
    · rename_i e hl
      cases e with
      | deep t x q => exact (h.dp i t x q (hlk _ _ hl)).nd
      | row t x => show (((Ent.row t x).own (E.nm i)).toList).Nodup; cases (Ent.row t x).own (E.nm i) <;> simp
      | box t => show (((Ent.box t).own (E.nm i)).toList).Nodup; cases (Ent.box t).own (E.nm i) <;> simp
      | _ => simp [Ent.ownL, Ent.own]
    · exact List.nodup_nil
  refine ⟨G1, G2, h2, hg1, hg12, ?_, ?_, fun n hn => ha2 n (ha1 n hn), hkeep, fun n hn => by rw [hl2, if_pos hn], packA_ps hmd hwb cs vs a hp hw hknown, ?_, ?_⟩
  · intro hf
    funext b
    simp only [eq_iff_iff]
    refine ⟨?_, hg12 b⟩
    rintro (hx | ⟨hx, _⟩)
    · exact hx
    · rw [hf] at hx; cases hx
  · rintro b (hx | ⟨_, hx⟩)
    · exact .inl hx
    · exact .inr hx
  · rw [howns]
    clear howns hknown h2 ha2 hl2 hkeep hnot hdis
    have : ∀ (on : List Nat), on.Nodup → (∀ i ∈ on, i ∈ a.on) → (on.flatMap (blkOf lkp E)).Nodup := by
      intro on
      induction on with
      | nil => intros; simp
      | cons i r ih =>
        intro hnd hin
        rw [List.nodup_cons] at hnd
        have ih' := ih hnd.2 (fun k hk => hin k (by simp [hk]))
        rw [List.flatMap_cons]
        refine List.nodup_append.2 ⟨hblkn i (hin i (by simp)), ih', ?_⟩
        rintro b hb b' hm rfl
        obtain ⟨k, hk, hkb⟩ := List.mem_flatMap.1 hm
        obtain ⟨e, he, heb⟩ := hblk i (hin i (by simp)) b hb
        obtain ⟨f, hf, hfb⟩ := hblk k (hin k (by simp [hk])) b hkb
        exact h.inj i k e f b (fun hx => hnd.1 (hx ▸ hk)) he hf heb hfb
    exact this a.on hnd (fun _ h => h)
  · intro b hb
    rw [howns] at hb
    obtain ⟨i, hi, hib⟩ := List.mem_flatMap.1 hb
    obtain ⟨e, he, heb⟩ := hblk i hi b hib
    exact (hnot i hi e he b heb).2

end Go.V3
