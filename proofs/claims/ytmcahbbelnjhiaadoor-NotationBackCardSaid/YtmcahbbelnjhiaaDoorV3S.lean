/-
  Part S: what is reckoned of a function is what its call computes.
-/
import Derived.Test.YtmcahbbelnjhiaaDoorV3R
set_option linter.unusedVariables false
namespace Go.V3
open Go
variable {TB : Tb}

section
variable {P : Program}

def Post {α : Type} (W : List Nat) (c : Cfg TB) (E : Env) (fr : List SV) (L : Store) (K : Exit → List SV → Store → Option α) (r0 : α) : Exit → Act → World → Prop :=
  fun e a' w' => ∃ E' fr' L', St c E' fr' L' a' w' ∧ Ext W E fr L E' fr' L' ∧ K e fr' L' = some r0

theorem map_inl {α β : Type} {x : Option α} {r : α ⊕ β} (h : x.map Sum.inl = some r) : ∃ y, x = some y ∧ r = .inl y := by
  cases x with
  | none => cases h
  | some y => simp only [Option.map_some, Option.some.injEq] at h; exact ⟨y, rfl, h.symm⟩
theorem map_inr {α β : Type} {x : Option β} {r : α ⊕ β} (h : x.map Sum.inr = some r) : ∃ y, x = some y ∧ r = .inr y := by
  cases x with
  | none => cases h
  | some y => simp only [Option.map_some, Option.some.injEq] at h; exact ⟨y, rfl, h.symm⟩

theorem not_isL (n i : Nat) : ¬ isL (Array.replicate n false) i := by
  unfold isL
  simp only [Array.getD_eq_getD_getElem?, Array.getElem?_replicate]
  split <;> simp

theorem openE_ok {α : Type} {cx : Cx} {id : Nat} {c : Cfg cx.tb} {w : World} {fr : List SV} {a : Act} {E : Env} {L : Store} {K : Store → Option α} {r : α} (h : openE cx id fr L K = some r) (hs : St c E fr L a w) :
    ∃ E' L', K L' = some r ∧ St c E' fr L' a w ∧ Ext [] E fr L E' fr L' := by
  unfold openE at h
  split at h
  · exact ⟨E, L, h, hs, .refl _ _ _ _⟩
  split at h
  rotate_left
  · cases h
  rename_i s t bs _ _ _ i n hv hn
  split at h
  rotate_left
  · cases h
  rename_i ty xss h' hl
  split at h
  rotate_left
  · cases h
  rename_i hnew
  split at h
  rotate_left
  · cases h
  rename_i ys u hcl
  split at h
  rotate_left
  · cases h
  rename_i hb
  have hbs : look L bs = some .rsv := by have := newOk_spec hnew 0 (by omega); simpa using this
  obtain ⟨G, hG⟩ := hs.hd
  obtain ⟨E1, c1, c2, c3, c4, c5, c6, c7⟩ := closeD_ok (lkp := look L) (fun _ _ h => h) hG hl hcl
  have hnil : (E1.nm i).nil = false := by
    rcases (c1.dp i _ _ _ c4).cs with ⟨_, hc, _⟩ | ⟨hn, _⟩
    · rw [hc] at hb; simp at hb; omega
    · exact hn
  obtain ⟨E2, t1, t2, t3, arr, tt, t4, t5⟩ := c1.takeD c4 (c6 bs hbs) hnil (by omega : n.toNat < ys.length)
  rw [← updL_append] at t1
  have hal : ∀ k, Al L k → E2.nm k = E.nm k ∧ Al (updL L (u ++ [(bs, .dead), (i, .deep ty ys (some (n.toNat, bs))), (bs, .row ty (ys.getD n.toNat []))])) k := by
    intro k hk
    refine ⟨by rw [t2 k (fun he => not_al (he ▸ hbs) hk), c2], ?_⟩
    rw [updL_append]
    exact al_upd rfl k (al_upd rfl k (al_upd rfl k (c5 k hk)))
  obtain ⟨d1, d2⟩ := denL_fr_ext hs.wf hal (t3.trans c3)
  exact ⟨E2, _, h, ⟨⟨by rw [d1]; exact hs.sim.1, hs.sim.2⟩, ⟨G, t1⟩, d2⟩, ⟨hal, fun t _ => by rw [t3.trans c3], .updL _ _, rfl, fun _ _ => rfl⟩⟩
theorem closeRs_ok {c : Cfg TB} {w : World} {fr : List SV} {a : Act} : ∀ (rows : List (Nat × Ty)) {E : Env} {L : Store}, St c E fr L a w → ∃ E', St c E' fr (closeRs rows L) a w ∧ Ext [] E fr L E' fr (closeRs rows L)
  | [], E, L, hs => ⟨E, hs, .refl _ _ _ _⟩
  | q :: r, E, L, hs => by
    have h1 : ∃ E', St c E' fr (closeN L q.1) a w ∧ Ext [] E fr L E' fr (closeN L q.1) := by
      unfold closeN
      split
      · rename_i t xss h hl
        split
        · rename_i ys u hc
          obtain ⟨G, hG⟩ := hs.hd
          obtain ⟨E', k1, k2, k3, k4, k5, k6, k7⟩ := closeD_ok (lkp := look L) (fun _ _ h => h) hG hl hc
          obtain ⟨d1, d2⟩ := denL_fr_ext hs.wf (fun n hn => ⟨k2 n, k5 n hn⟩) k3
          exact ⟨E', ⟨⟨by rw [d1]; exact hs.sim.1, hs.sim.2⟩, ⟨G, k1⟩, d2⟩, ⟨fun n hn => ⟨k2 n, k5 n hn⟩, fun t _ => by rw [k3], .updL _ _, rfl, fun _ _ => rfl⟩⟩
        · exact ⟨E, hs, .refl _ _ _ _⟩
      · exact ⟨E, hs, .refl _ _ _ _⟩
    obtain ⟨E1, h1, h2⟩ := h1
    obtain ⟨E2, h3, h4⟩ := closeRs_ok r h1
    exact ⟨E2, h3, h2.trans h4⟩

set_option maxHeartbeats 1000000 in
theorem rk_ok {cx : Cx} (hcx : cx.Ok P) : ∀ (c : Code) (α : Type) (bid : Nat) (K : Exit → List SV → Store → Option α) (fr : List SV) (L : Store) (r0 : α), rk P cx c α bid K fr L = some r0 →
    ∀ (cf : Cfg cx.tb) (E : Env) (a : Act) (w : World), St cf E fr L a w → c.wp P (Post (writes c) cf E fr L K r0) a w := by
  intro c
  induction c with
  | skip => exact fun α bid K fr L r0 h cf E a w hs => wp_skip ⟨E, fr, L, hs, .refl _ _ _ _, h⟩
  | label l => exact fun α bid K fr L r0 h cf E a w hs => wp_label ⟨E, fr, L, hs, .refl _ _ _ _, h⟩
  | ret => exact fun α bid K fr L r0 h cf E a w hs => wp_ret ⟨E, fr, L, hs, .refl _ _ _ _, h⟩
  | exit id => exact fun α bid K fr L r0 h cf E a w hs => wp_exit ⟨E, fr, L, hs, .refl _ _ _ _, h⟩
  | region id ops draw =>
    intro α bid K fr L r0 h cf E a w hs
    have hW : ∀ o ∈ ops.toList, ∀ d, o.dst = some d → d ∈ writes (.region id ops draw) := by
      intro o ho d hd
      exact List.mem_filterMap.2 ⟨o, ho, hd⟩
    simp only [rk] at h
    obtain ⟨E1, L1, h, hs, hx0⟩ := openE_ok h hs
    have hx0 : Ext (writes (.region id ops draw)) E fr L E1 fr L1 := hx0.mono (fun _ h => by cases h)
    refine wp_mono (Q := Post (writes (.region id ops draw)) cf E1 fr L1 K r0) ?_ (fun e a' w' ⟨E', fr', L', k1, k2, k3⟩ => ⟨E', fr', L', k1, hx0.trans k2, k3⟩)
    clear hx0
    generalize E1 = E at hs ⊢
    generalize L1 = L at hs h ⊢
    split at h
    · split at h
      rotate_left
      · cases h
      rename_i hck
      simp only [Bool.and_eq_true] at hck
      refine wp_region_any hck.2 ?_
      obtain ⟨s', fs, r1, r2, r3, _⟩ := rkDs_run ops.toList 0 [] fr L (by simp) h
      have hs' : St cf E fr L a { w with drawn := w.drawn + 1 } := ⟨hs.sim, (by
        obtain ⟨G, hG⟩ := hs.hd
        exact ⟨G, hG.world rfl ⟨rfl, rfl, rfl⟩⟩), hs.wf⟩
      have := drawOk (P := P) (Q := Post (writes (.region id ops true)) cf E fr L K r0) hcx hck.1 (W := writes (.region id ops true)) (fun i o ho d hd => hW o (by rw [← Array.getElem?_toList] at ho; exact List.mem_of_getElem? ho) d hd) (fr0 := fr) (L0 := L) (E0 := E) (s' := s')
        (fun E' a' w' h1 h2 => ⟨E', s'.1, s'.2, h1, h2, r2⟩) ops.size (List.range' 0 ops.toList.length) (Array.replicate ops.size false) fs (fr, L) E a _ (by simp) ⟨by simp, fun i => ?_, ?_, ?_⟩ r1 r3 hs' (.refl _ _ _ _)
      · exact this
      · simp only [List.mem_range'_1, Nat.zero_le, true_and, Nat.zero_add, Array.length_toList]
        constructor
        · intro hi; exact ⟨hi, not_isL _ _⟩
        · exact fun hi => hi.1
      · exact List.pairwise_lt_range'
      · intro i o _ hl
        exact absurd hl (not_isL _ _)
    · refine wp_region ?_
      have := rkOps_ok hcx (ops := ops) (Q := Post (writes (.region id ops false)) cf E fr L K r0) (W := writes (.region id ops false)) (c := cf) (fr0 := fr) (L0 := L) (E0 := E)
        (K := fun fr' L' => K .normal fr' L') (r0 := r0) (fun E' fr' L' a' w' h1 h2 h3 => ⟨E', fr', L', h1, h2, h3⟩) ops.toList 0 (by simp) hW E fr L a w hs (.refl _ _ _ _) h
      rw [List.range_eq_range']
      simpa using this
  | seq x y ihx ihy =>
    intro α bid K fr L r0 h cf E a w hs
    refine wp_seq ?_
    have hx : ∀ t, t ∈ writes x → t ∈ writes (.seq x y) := fun t ht => List.mem_append.2 (.inl ht)
    have hy : ∀ t, t ∈ writes y → t ∈ writes (.seq x y) := fun t ht => List.mem_append.2 (.inr ht)
    simp only [rk] at h
    split at h
    · refine wp_mono (ihx α bid _ fr L r0 h cf E a w hs) ?_
      rintro e a' w' ⟨E', fr', L', h1, h2, h3⟩
      cases e with
      | normal =>
        refine wp_mono (ihy α bid K fr' L' r0 h3 cf E' a' w' h1) ?_
        rintro e a'' w'' ⟨E'', fr'', L'', k1, k2, k3⟩
        exact ⟨E'', fr'', L'', k1, (h2.mono hx).trans (k2.mono hy), k3⟩
      | exit id => exact ⟨E', fr', L', h1, h2.mono hx, h3⟩
      | goto id => exact ⟨E', fr', L', h1, h2.mono hx, h3⟩
      | ret => exact ⟨E', fr', L', h1, h2.mono hx, h3⟩
      | panic ch => exact ⟨E', fr', L', h1, h2.mono hx, h3⟩
      | outgrown => exact ⟨E', fr', L', h1, h2.mono hx, h3⟩
    · rename_i ann _
      split at h
      rotate_left
      · cases h
      rename_i hwr
      rw [Option.bind_eq_some_iff] at h
      obtain ⟨q, hq, hk⟩ := h
      obtain ⟨Ec, hsc, hxc⟩ := closeRs_ok ann.rows hs
      obtain ⟨G0, hG0⟩ := hsc.hd
      refine wp_mono (ihx _ bid _ fr _ q hq cf Ec a w hsc) ?_
      rintro e a' w' ⟨E', fr', L', h1, h2, h3⟩
      have other : ∀ e', (K e' fr' L').map Sum.inr = some q → Post (writes (.seq x y)) cf E fr L K r0 e' a' w' := by
        intro e' hm
        obtain ⟨b, hb, rfl⟩ := map_inr hm
        simp only [Option.some.injEq] at hk
        subst hk
        exact ⟨E', fr', L', h1, (hxc.mono (fun _ h => by cases h)).trans (h2.mono hx), hb⟩
      cases e with
      | normal =>
        obtain ⟨s, hp, rfl⟩ := map_inl h3
        obtain ⟨Ed, hsd, hxd⟩ := closeRs_ok ann.rows h1
        obtain ⟨E2, g1, g2⟩ := reabs hwr hG0 hsc.wf hsd (h2.trans (hxd.mono (fun _ h => by cases h))) hp
        refine wp_mono (ihy α bid K _ _ r0 hk cf E2 a' w' g1) ?_
        rintro e a'' w'' ⟨E'', fr'', L'', k1, k2, k3⟩
        exact ⟨E'', fr'', L'', k1, (hxc.mono (fun _ h => by cases h)).trans ((g2.mono hx).trans (k2.mono hy)), k3⟩
      | exit id => exact other _ h3
      | goto id => exact other _ h3
      | ret => exact other _ h3
      | panic ch => exact other _ h3
      | outgrown => exact other _ h3
  | cond c x y ihx ihy =>
    intro α bid K fr L r0 h cf E a w hs
    have hx : ∀ t, t ∈ writes x → t ∈ writes (.cond c x y) := fun t ht => List.mem_append.2 (.inl ht)
    have hy : ∀ t, t ∈ writes y → t ∈ writes (.cond c x y) := fun t ht => List.mem_append.2 (.inr ht)
    have kx : rk P cx x α bid K fr L = some r0 → x.wp P (Post (writes (.cond c x y)) cf E fr L K r0) a w := fun h =>
      wp_mono (ihx α bid K fr L r0 h cf E a w hs) fun e a' w' ⟨E', fr', L', h1, h2, h3⟩ => ⟨E', fr', L', h1, h2.mono hx, h3⟩
    have ky : rk P cx y α bid K fr L = some r0 → y.wp P (Post (writes (.cond c x y)) cf E fr L K r0) a w := fun h =>
      wp_mono (ihy α bid K fr L r0 h cf E a w hs) fun e a' w' ⟨E', fr', L', h1, h2, h3⟩ => ⟨E', fr', L', h1, h2.mono hy, h3⟩
    have he := ev_den hs.sim c
    simp only [rk] at h
    split at h
    · rename_i b hb
      rw [hb] at he
      split at h
      · exact wp_cond_true he (kx h)
      · exact wp_cond_false he (ky h)
    · rename_i b hb
      rw [hb] at he
      split at h
      · rename_i hbt; subst hbt; exact wp_cond_true he (kx h)
      · rename_i hbt
        have : b = false := by simpa using hbt
        subst this; exact wp_cond_false he (ky h)
    · rename_i p d hb
      rw [hb] at he
      by_cases hp : p
      · simp only [hp, if_true] at h; exact wp_cond_true (by rw [he]; simp [SV.den, hp]) (kx h)
      · simp only [hp, if_false] at h; exact wp_cond_false (by rw [he]; simp [SV.den, hp]) (ky h)
    · cases h
  | block id c ih =>
    intro α bid K fr L r0 h cf E a w hs
    refine wp_block ?_
    simp only [rk] at h
    refine wp_mono (ih α id _ fr L r0 h cf E a w hs) ?_
    rintro e a' w' ⟨E', fr', L', h1, h2, h3⟩
    cases e with
    | exit i =>
      simp only [Exit.inBlock]
      simp only at h3
      split at h3
      · rename_i hi; rw [if_pos hi]; exact ⟨E', fr', L', h1, h2, h3⟩
      · rename_i hi; rw [if_neg hi]; exact ⟨E', fr', L', h1, h2, h3⟩
    | normal => exact ⟨E', fr', L', h1, h2, h3⟩
    | goto id => exact ⟨E', fr', L', h1, h2, h3⟩
    | ret => exact ⟨E', fr', L', h1, h2, h3⟩
    | panic ch => exact ⟨E', fr', L', h1, h2, h3⟩
    | outgrown => exact ⟨E', fr', L', h1, h2, h3⟩
  | scope c ih =>
    intro α bid K fr L r0 h cf E a w hs
    refine wp_scope_straight ?_
    refine wp_mono (ih α bid _ fr L r0 h cf E a w hs) ?_
    rintro e a' w' ⟨E', fr', L', h1, h2, h3⟩
    cases e with
    | goto id => cases h3
    | exit i => exact ⟨E', fr', L', h1, h2, h3⟩
    | normal => exact ⟨E', fr', L', h1, h2, h3⟩
    | ret => exact ⟨E', fr', L', h1, h2, h3⟩
    | panic ch => exact ⟨E', fr', L', h1, h2, h3⟩
    | outgrown => exact ⟨E', fr', L', h1, h2, h3⟩
  | loop c ih =>
    intro α bid K fr L r0 h cf E a w hs
    simp only [rk] at h
    split at h
    · cases h
    rename_i ann _
    split at h
    rotate_left
    · cases h
    rename_i hwr
    split at h
    · cases h
    rename_i s0 hp0
    obtain ⟨n, hn⟩ := loopO_spec.1 h
    refine wp_loop_rounds n ?_
    obtain ⟨Ec, hsc, hxc0⟩ := closeRs_ok ann.rows hs
    have hxc : Ext (writes c) E fr L Ec fr (closeRs ann.rows L) := hxc0.mono (fun _ h => by cases h)
    clear hxc0
    generalize closeRs ann.rows L = Lc at h hn hp0 hsc hxc
    obtain ⟨G0, hG0⟩ := hsc.hd
    obtain ⟨E1, g1, g2⟩ := reabs hwr hG0 hsc.wf hsc (.refl (writes c) Ec fr Lc) hp0
    have hwf := hsc.wf
    have hH0 : ∃ w0 G0, Holds cf G0 w0 Ec Lc := ⟨w, G0, hG0⟩
    clear h hp0 hs hsc hG0 G0
    obtain ⟨w0, G0, hG0⟩ := hH0
    induction n generalizing s0 E1 a w with
    | zero => cases hn
    | succ n ihn =>
      rw [rounds_succ]
      rw [iterN] at hn
      have fin : ∀ x, rk P cx c (ann.T ⊕ α) bid (fun e fr' L' => match e with
          | .normal => (packSt ann Lc fr' (closeRs ann.rows L')).map Sum.inl
          | e => (K e fr' L').map Sum.inr) (hdFr ann fr s0) (updL Lc (hdUps ann s0)) = some x → (∀ s', x = .inl s' → iterN (fun s => rk P cx c (ann.T ⊕ α) bid (fun e fr' L' => match e with
          | .normal => (packSt ann Lc fr' (closeRs ann.rows L')).map Sum.inl
          | e => (K e fr' L').map Sum.inr) (hdFr ann fr s) (updL Lc (hdUps ann s))) n s' = some r0) → (∀ b, x = .inr b → b = r0) → c.wp P (Exit.then (Code.rounds P c (Post (writes (.loop c)) cf E fr L K r0) n) (Post (writes (.loop c)) cf E fr L K r0)) a w := by
        intro x hx hl hr
        refine wp_mono (ih _ bid _ _ _ x hx cf E1 a w g1) ?_
        rintro e a' w' ⟨E', fr', L', h1, h2, h3⟩
        have other : ∀ e', (K e' fr' L').map Sum.inr = some x → Post (writes (.loop c)) cf E fr L K r0 e' a' w' := by
          intro e' hm
          obtain ⟨b, hb, hxb⟩ := map_inr hm
          rw [hr b hxb] at hb
          exact ⟨E', fr', L', h1, hxc.trans (g2.trans h2), hb⟩
        cases e with
        | normal =>
          obtain ⟨s', hp, hxs⟩ := map_inl h3
          obtain ⟨Ed, hsd, hxd⟩ := closeRs_ok ann.rows h1
          obtain ⟨E2, k1, k2⟩ := reabs hwr hG0 hwf hsd (g2.trans (h2.trans (hxd.mono (fun _ h => by cases h)))) hp
          exact ihn a' w' s' (hl s' hxs) E2 k1 k2
        | goto id => exact other _ h3
        | exit i => exact other _ h3
        | ret => exact other _ h3
        | panic ch => exact other _ h3
        | outgrown => exact other _ h3
      split at hn
      · cases hn
      · rename_i s' hf
        exact fin _ hf (fun s'' he => by cases he; exact hn) (fun b he => by cases he)
      · rename_i b hf
        simp only [Option.some.injEq] at hn
        exact fin _ hf (fun s'' he => by cases he) (fun b' he => by cases he; exact hn)
  | _ => exact fun α bid K fr L r0 h => (by simp only [rk] at h; cases h)

/-! The whole of a function. -/
def resSV (P : Program) (fr : List SV) (L : Store) : ResultVar → Option SV
  | .tmp t => (match isUnk (fr.getD t undefV) with
    | true => none
    | false => some (fr.getD t undefV))
  | .cell t ty => (match fr.getD t undefV, P.info? ty, P.underlying ty with
    | .loc i off, some q, some _ => if off = 0 then (match look L i with
      | some (.box cs) => (match isAggT P ty with
        | true => if q.size = cs.length then some (.agg cs) else none
        | false => (match cs with
          | [v] => some v
          | _ => none))
      | _ => none) else none
    | _, _, _ => none)
def resSVs (P : Program) (fr : List SV) (L : Store) : List ResultVar → Option (List SV)
  | [] => some []
  | r :: rs => match resSV P fr L r with
    | some v => (match resSVs P fr L rs with
      | some vs => some (v :: vs)
      | none => none)
    | none => none

/-- What is given back: boxes and rows, by name. -/
def bkSVs : List CT → List Nat → List SV
  | d :: r, i :: is => (match d.ptr with
    | true => .loc i 0
    | false => .slw i) :: bkSVs r is
  | _, _ => []
def finK (P : Program) (rvs : List ResultVar) (ios : List Nat) (os : List CT) (cs : List CT) : Exit → List SV → Store → Option (HT cs) := fun e fr L =>
  match (match e with
    | .normal => true
    | .ret => true
    | _ => false) with
  | false => none
  | true => match resSVs P fr L rvs with
    | none => none
    | some vs => match packA .frz (look L) cs (vs ++ bkSVs os ios) with
      | none => none
      | some a => match okA a with
        | true => some a.x
        | false => none

def initL (ps : List CT) (x : HT ps) (N : Nat) : Store := updL (List.replicate (cnts ps + N) (0, .rsv)) (outsUps ps x 0)
def initF (ps : List CT) (sh : List Sh) (x : HT ps) (n : Nat) : List SV := foldA sh (outSVs ps x 0) ++ List.replicate (n - (foldA sh (outSVs ps x 0)).length) undefV

theorem results_ok {rvs : List ResultVar} {c : Cfg TB} {E : Env} {fr : List SV} {L : Store} {a : Act} {w : World} (hs : St c E fr L a w) : ∀ (rvs : List ResultVar) (vs : List SV), resSVs P fr L rvs = some vs →
    vs.length = rvs.length ∧ wfL E L vs ∧ (rvs.mapM (m := Sem) fun
      | .tmp t => pure (a.tmps.getD t undef)
      | .cell x t => do loadVar t (← asAddr (a.tmps.getD x undef))).run P w = .ok (denL E vs) w := by
  have hget : ∀ t, a.tmps.getD t undef = (fr.getD t undefV).den E := by
    intro t
    rw [hs.sim.1]
    have := denL_getD (E := E) fr t
    simpa using this
  intro rvs
  induction rvs with
  | nil => intro vs h; simp only [resSVs, Option.some.injEq] at h; subst h; exact ⟨rfl, trivial, rfl⟩
  | cons r rs ih =>
    intro vs h
    simp only [resSVs] at h
    split at h
    rotate_left
    · cases h
    rename_i v hv
    split at h
    rotate_left
    · cases h
    rename_i vs' hvs'
    simp only [Option.some.injEq] at h
    subst h
    obtain ⟨i1, i2, i3⟩ := ih vs' hvs'
    have hone : v.wf E L ∧ ((fun r : ResultVar => (match r with
      | .tmp t => pure (a.tmps.getD t undef)
      | .cell x t => do loadVar t (← asAddr (a.tmps.getD x undef)) : Sem Value)) r).run P w = .ok (v.den E) w := by
      cases r with
      | tmp t =>
        simp only [resSV] at hv
        split at hv
        · cases hv
        · rename_i hu
          simp only [Option.some.injEq] at hv
          subst hv
          refine ⟨?_, by simp only [hget]; rfl⟩
          rcases hs.wf t with h | h
          · exact h
          · rw [h] at hu; simp [isUnk] at hu
      | cell x t =>
        simp only [resSV] at hv
        split at hv
        rotate_left
        · cases hv
        rename_i i off q d hx hq hd
        split at hv
        rotate_left
        · cases hv
        rename_i ho
        subst ho
        split at hv
        rotate_left
        · cases hv
        rename_i cs hl
        obtain ⟨G, hG⟩ := hs.hd
        obtain ⟨h1, h2, h3, h4, ⟨ty, h5⟩, h6⟩ := hG.ent i _ hl
        have hadr : (asAddr (a.tmps.getD x undef)).run P w = .ok ⟨(E.nm i).blk, (E.nm i).pp.pre.length, none⟩ w := by
          rw [hget, hx]
          simp [SV.den, asAddr, h2]
        split at hv
        · rename_i ha
          split at hv
          rotate_left
          · cases hv
          rename_i hsz
          simp only [Option.some.injEq] at hv
          subst hv
          refine ⟨h6, ?_⟩
          have := run_loadCells (P := P) w h5 (off := (E.nm i).pp.pre.length) (n := q.size) (by rw [Nm.arr_size, denL_length]; omega)
          have hcl := Nm.arr_cells (E.nm i) (l := denL E cs) (off := 0) (n := q.size) (by rw [denL_length]; omega)
          rw [Nat.add_zero] at hcl
          rw [hcl] at this
          simp only [Sem.run_bind, hadr, Result.andThen, loadVar, isAggT_run w hd, ha, if_true, sizeOf, typeInfo]
          simp [hq, this, SV.den]
          unfold cellsAt
          rw [List.drop_zero, List.take_of_length_le (by simp [denL_length]; omega)]
        · rename_i ha
          split at hv
          rotate_left
          · cases hv
          rename_i u
          simp only [Option.some.injEq] at hv
          subst hv
          refine ⟨h6.1, ?_⟩
          have hg := Nm.arr_get (E.nm i) (l := denL E [u]) (k := 0) (by simp [denL])
          rw [Nat.add_zero] at hg
          have : w.cell? ⟨(E.nm i).blk, (E.nm i).pp.pre.length, none⟩ = some (u.den E) := by
            simp only [World.cell?, h5, hg]
            simp [denL]
          simp only [Sem.run_bind, hadr, Result.andThen, loadVar, isAggT_run w hd, ha]
          simp [this]
    refine ⟨by simp [i1], ⟨hone.1, i2⟩, ?_⟩
    rw [List.mapM_cons, Sem.run_bind]
    have h1 := hone.2
    simp only at h1
    rw [h1]
    simp only [Result.andThen, Sem.run_bind, i3, Sem.run_pure]
    rfl

theorem outSVs_split : ∀ (as bs : List CT) (x : HT (as ++ bs)) (n : Nat), outSVs (as ++ bs) x n = outSVs as (HT.left as bs x) n ++ outSVs bs (HT.right as bs x) (n + cnts as)
  | [], bs, x, n => rfl
  | d :: r, bs, x, n => by
    have hh : HT.hd d r (HT.left (d :: r) bs x) = HT.hd d (r ++ bs) x := by cases r <;> rfl
    have ht : HT.tl d r (HT.left (d :: r) bs x) = HT.left r bs (HT.tl d (r ++ bs) x) := by cases r <;> rfl
    have k1 : outSVs (d :: r ++ bs) x n = outSV d (HT.hd d (r ++ bs) x) n :: outSVs (r ++ bs) (HT.tl d (r ++ bs) x) (n + d.cnt) := rfl
    have k2 : outSVs (d :: r) (HT.left (d :: r) bs x) n = outSV d (HT.hd d r (HT.left (d :: r) bs x)) n :: outSVs r (HT.tl d r (HT.left (d :: r) bs x)) (n + d.cnt) := rfl
    rw [k1, k2, hh, ht, outSVs_split r bs]
    simp only [cnts, List.cons_append, Nat.add_assoc]
    rfl
theorem bkSVs_mem : ∀ (os : List CT) (is : List Nat) (v : SV), v ∈ bkSVs os is → ∃ i ∈ is, v = .loc i 0 ∨ v = .slw i
  | [], _, v, h => by simp [bkSVs] at h
  | _ :: _, [], v, h => by simp [bkSVs] at h
  | d :: r, i :: is, v, h => by
    simp only [bkSVs, List.mem_cons] at h
    rcases h with rfl | h
    · refine ⟨i, by simp, ?_⟩
      cases d.ptr with
      | true => exact .inl rfl
      | false => exact .inr rfl
    · obtain ⟨k, h1, h2⟩ := bkSVs_mem r is v h
      exact ⟨k, by simp [h1], h2⟩
theorem osPos_shift : ∀ (cs : List CT) (a b : Nat), osPos cs (a + b) = (osPos cs b).map (fun k => a + k)
  | [], _, _ => rfl
  | e :: s, a, b => by
    simp only [osPos]
    rw [Nat.add_assoc, osPos_shift s]
    simp
theorem bk_pos0 {md : PM} {lkp : Nat → Option Ent} {E : Env} : ∀ (os : List CT) (is : List Nat) (a : Taken (HT os)), packA md lkp os (bkSVs os is) = some a → os.all okO = true → os.length = is.length → (osPos os 0).map (nesF E a.nes) = is.map E.nm
  | [], [], a, _, _, _ => rfl
  | [], _ :: _, a, _, _, h => by simp at h
  | _ :: _, [], a, _, _, h => by simp at h
  | d :: r, i :: is, a, h, hok, hl => by
    simp only [List.all_cons, Bool.and_eq_true] at hok
    obtain ⟨v, vs', a1, a2, he, h1, h2, rfl⟩ := packA_cons h
    simp only [bkSVs, List.cons.injEq] at he
    obtain ⟨rfl, rfl⟩ := he
    have ih := bk_pos0 (E := E) r is a2 h2 hok.2 (by simpa using hl)
    have l1 := packArg_len h1
    obtain ⟨k1, k2⟩ := nesF_append E a1.nes a2.nes
    have hd : nesF E a1.nes 0 = E.nm i ∧ 0 < a1.nes.length := by
      obtain ⟨cs', u, nes, x, p1, p2, p3, p4, p5⟩ := packArg_cases h1
      rcases p3 with ⟨hp, j, hj, hl, e1, e2⟩ | ⟨hp, hag, e1, e2⟩
      · rw [hp] at hj
        simp only [SV.loc.injEq, and_true] at hj
        subst hj
        rw [e1]
        exact ⟨rfl, by simp⟩
      · have hk := hok.1
        simp only [okO, hp, Bool.false_or, Bool.and_eq_true, Bool.not_eq_true'] at hk
        obtain ⟨⟨ho, hag2⟩, hsl⟩ := hk
        rcases hag with ⟨hx, _⟩ | ⟨_, rfl⟩
        · rw [hag2] at hx; cases hx
        rw [hp] at p1
        rw [e1]
        rw [if_pos ho] at p1
        clear h h1 h2 ih k1 k2 l1 p2 p4 p5 e1 e2
        revert x
        cases ht : d.t with
        | slice b =>
          intro x p1
          simp only [packC, packS] at p1
          revert p1
          split
          · rename_i q hq
            intro p1
            simp only [Option.some.injEq, Prod.mk.injEq] at p1
            obtain ⟨-, -, rfl, -⟩ := p1
            revert hq
            split
            · split
              · intro hq; cases hq
              · intro hq; cases hq
            · split
              · split
                · intro hq; cases hq
                · intro hq
                  simp only [Option.some.injEq, Prod.mk.injEq] at hq
                  obtain ⟨-, rfl, -⟩ := hq
                  exact ⟨rfl, by simp⟩
              · intro hq; cases hq
            · split
              · rename_i hb
                rw [ht, ← hb] at hsl
                simp [Ty.isRow, Ty.isSl] at hsl
              · intro hq; cases hq
            · intro hq; cases hq
          · intro p1; cases p1
        | _ => rw [ht] at hsl; simp [Ty.isRow] at hsl
    simp only [osPos, List.map_cons]
    have hs := osPos_shift r d.cnt 0
    rw [Nat.add_zero] at hs
    rw [Nat.zero_add, hs, List.map_map, ← ih]
    show nesF E (a1.nes ++ a2.nes) 0 :: _ = _
    rw [k1 0 hd.2, hd.1]
    congr 1
    apply List.map_congr_left
    intro k _
    show nesF E (a1.nes ++ a2.nes) (d.cnt + k) = _
    rw [← l1]; exact k2 k
theorem bk_pos {md : PM} {lkp : Nat → Option Ent} {E : Env} : ∀ (as os : List CT) (vs : List SV) (is : List Nat) (a : Taken (HT (as ++ os))), packA md lkp (as ++ os) (vs ++ bkSVs os is) = some a → vs.length = as.length → os.all okO = true → os.length = is.length →
    (osPos os (cnts as)).map (nesF E a.nes) = is.map E.nm
  | [], os, [], is, a, h, _, hok, hl => bk_pos0 os is a h hok hl
  | [], _, _ :: _, _, _, _, h, _, _ => by simp at h
  | _ :: _, _, [], _, _, _, h, _, _ => by simp at h
  | d :: r, os, v0 :: vs, is, a, h, hv, hok, hl => by
    obtain ⟨v, vs', a1, a2, he, h1, h2, rfl⟩ := packA_cons (c := d) (r := r ++ os) h
    simp only [List.cons_append, List.cons.injEq] at he
    obtain ⟨rfl, rfl⟩ := he
    have ih := bk_pos (E := E) r os vs is a2 h2 (by simpa using hv) hok hl
    have l1 := packArg_len h1
    obtain ⟨k1, k2⟩ := nesF_append E a1.nes a2.nes
    rw [cnts, osPos_shift, List.map_map, ← ih]
    apply List.map_congr_left
    intro k _
    show nesF E (a1.nes ++ a2.nes) (d.cnt + k) = _
    rw [← l1]; exact k2 k

theorem calleeRuns_of {f : FuncId} {fn : Func} {c : Code} (hf : P.funcs[f]? = some fn) (hb : fn.body = some c) (hn : (fn.name == "runtime.NumGoroutine") = false) : CalleeRuns P f := by
  intro args w
  have hn' : ¬ fn.name = "runtime.NumGoroutine" := by simpa using hn
  simp [callFunc, hf, hn', hb]

set_option maxHeartbeats 1000000 in
theorem callsV_of_rk {cx : Cx} (hcx : cx.Ok P) {f : FuncId} {fn : Func} {c : Code} {n N : Nat} {rvs : List ResultVar} {fi : FnI}
    (hf : P.funcs[f]? = some fn) (hb : fn.body = some c) (hnm : (fn.name == "runtime.NumGoroutine") = false) (hn : fn.ntmps = n) (hres : fn.results = rvs.toArray) (hps : ∀ x, (foldA fi.sh (outSVs fi.ps x 0)).length ≤ n)
    (hst : (rvs.length = fi.rs.length ∧ fi.os.all okO = true ∧ fi.os.length = fi.bk.length ∧ (fi.bk.all fun i => decide (i < cnts fi.ps)) = true))
    (hrk : ∀ x, fi.F x = rk P cx c (HT (fi.rs ++ fi.os)) 1000000 (finK P rvs fi.bk fi.os (fi.rs ++ fi.os)) (initF fi.ps fi.sh x n) (initL fi.ps x N)) : CallsV P cx.tb f fi := by
  refine ⟨calleeRuns_of hf hb hnm, fun x r hr w G ms hG hps0 hnd htab => ?_⟩
  rw [hrk] at hr
  refine calls_of_wp hf hb ?_
  let cf : Cfg cx.tb := ⟨w, fun b => b ∈ ownsP fi.ps x ms, G⟩
  have h0 : Holds cf G w (envOf ms) (List.replicate (cnts fi.ps + N) (0, .rsv)) := by
    refine ⟨.refl _, Nat.le_refl _, fun _ _ => rfl, hG, fun _ h => h, fun _ h => .inl h, ?_, ?_, ?_, htab⟩
    · intro k e he
      unfold look at he
      rw [List.getElem?_replicate] at he
      split at he
      · rename_i q hq
        split at hq
        · simp only [Option.some.injEq] at hq; subst hq
          simp only [Option.some.injEq] at he; subst he; trivial
        · cases hq
      · cases he
    · intro k t xss q he
      unfold look at he
      rw [List.getElem?_replicate] at he
      split at he
      · rename_i q hq
        split at hq
        · simp only [Option.some.injEq] at hq; subst hq
          simp only [Option.some.injEq] at he; cases he
        · cases hq
      · cases he
    · intro k j e f' b _ he _ hb
      unfold look at he
      rw [List.getElem?_replicate] at he
      split at he
      · rename_i q hq
        split at hq
        · simp only [Option.some.injEq] at hq; subst hq
          simp only [Option.some.injEq] at he; subst he; rcases hb with hb | ⟨hb, _⟩ <;> cases hb
        · cases hq
      · cases he
  have hrsv : ∀ j, j < cnts fi.ps → look (List.replicate (cnts fi.ps + N) (0, Ent.rsv)) (0 + j) = some .rsv := by
    intro j hj
    unfold look
    rw [List.getElem?_replicate, if_pos (by omega)]
  have hno : ∀ b ∈ ownsP fi.ps x ms, NoOwn (envOf ms) (List.replicate (cnts fi.ps + N) (0, Ent.rsv)) b := by
    intro b _ k e he hb
    unfold look at he
    rw [List.getElem?_replicate] at he
    split at he
    · rename_i q hq
      split at hq
      · simp only [Option.some.injEq] at hq; subst hq
        simp only [Option.some.injEq] at he; subst he; rcases hb with hb | ⟨hb, _⟩ <;> cases hb
      · cases hq
    · cases he
  obtain ⟨a1, a2, a3⟩ := h0.addComps fi.ps x hrsv hps0 hnd hno
  have eE : (envOf ms).put 0 (cnts fi.ps) ms = envOf ms := by
    refine env_ext (fun k => ?_) rfl (fun k => ?_) <;> simp only [Env.put, envOf] <;> split <;> simp
  rw [eE] at a1 a3
  have hL : initL fi.ps x N = updL (List.replicate (cnts fi.ps + N) (0, .rsv)) (outsUps fi.ps x 0) := rfl
  rw [← hL] at a1 a2 a3
  have a3 := foldA_wf fi.sh _ a3
  have hs : St cf (envOf ms) (initF fi.ps fi.sh x n) (initL fi.ps x N) { tmps := (denL (envOf ms) (foldA fi.sh (outSVs fi.ps x 0))).toArray ++ Array.replicate (fn.ntmps - (denL (envOf ms) (foldA fi.sh (outSVs fi.ps x 0))).toArray.size) undef, defers := [] } w := by
    refine ⟨⟨?_, rfl⟩, ⟨G, a1⟩, ?_⟩
    · simp only [initF, denL_append, hn]
      apply Array.ext'
      simp [denL_length]
      rw [denL_map, List.map_replicate]
      rfl
    · intro t
      left
      unfold initF
      simp only [List.getD]
      by_cases ht : t < (foldA fi.sh (outSVs fi.ps x 0)).length
      · rw [List.getElem?_append_left ht]
        have := wfL_mem.1 a3 _ (List.getElem_mem ht)
        rw [List.getElem?_eq_getElem ht]
        exact this
      · rw [List.getElem?_append_right (by omega), List.getElem?_replicate]
        split <;> exact undef_wf _ _
  refine wp_mono (rk_ok hcx c _ _ _ _ _ _ hr cf (envOf ms) _ w hs) ?_
  rintro e a' w' ⟨E', fr', L', h1, h2, h3⟩
  have fin : finK P rvs fi.bk fi.os (fi.rs ++ fi.os) .ret fr' L' = some r → a'.defers = [] ∧ ∃ v, (results fn a'.tmps).run P w' = .ok v w' ∧
      (∃ G' ms', Ending.returned v = .returned ((retSV (outSVs fi.rs (HT.left fi.rs fi.os r) 0)).den (envOf ms')) ∧
      Rest w w' ∧ w.heap.size ≤ w'.heap.size ∧ (∀ b, b < w.heap.size → b ∉ ownsP fi.ps x ms → w'.heap[b]? = w.heap[b]?) ∧
      (∀ b, G b → G' b) ∧ (∀ b, G' b → G b ∨ w.heap.size ≤ b ∨ b ∈ ownsP fi.ps x ms) ∧ (∀ b, G' b → b < w'.heap.size) ∧
      PS (⟨w, fun b => b ∈ ownsP fi.ps x ms, G⟩ : Cfg cx.tb) G' w' (fi.rs ++ fi.os) r ms' ∧ (ownsP (fi.rs ++ fi.os) r ms').Nodup ∧
      (osPos fi.os (cnts fi.rs)).map ms' = fi.bk.map ms) := by
    intro hk
    simp only [finK] at hk
    split at hk
    · cases hk
    rename_i vs hvs
    split at hk
    · cases hk
    rename_i tk htk
    split at hk
    rotate_left
    · cases hk
    rename_i hok
    simp only [Option.some.injEq] at hk
    obtain ⟨l1, l2, l3⟩ := results_ok (rvs := rvs) h1 rvs vs hvs
    obtain ⟨G3, hG3⟩ := h1.hd
    have hio : ∀ i ∈ fi.bk, Al (initL fi.ps x N) i := fun i hi => (a2 i).1 ⟨Nat.zero_le _, by have := List.all_eq_true.1 hst.2.2.2 i hi; simpa using this⟩
    have hwv : wfL E' L' (vs ++ bkSVs fi.os fi.bk) := by
      refine wfL_mem.2 fun v hv => ?_
      rcases List.mem_append.1 hv with hv | hv
      · exact wfL_mem.1 l2 v hv
      · obtain ⟨i, hi, rfl | rfl⟩ := bkSVs_mem _ _ _ hv
        · exact (h2.nm i (hio i hi)).2
        · exact (h2.nm i (hio i hi)).2
    obtain ⟨G1, G2, t1, t2, t3, t4, t5, t6, t7, t8, t9, t10, t11⟩ := hG3.take (md := .frz) (by simp) (fun n e h => h) htk hok hwv
    rw [t4 rfl] at t9
    obtain ⟨q1, q2⟩ := packA_den E' _ _ _ htk
    have hden := q2 (envOf (nesF E' tk.nes)) 0 (fun k _ => by simp [envOf])
    rw [hk, outSVs_split, denL_append, denL_append] at hden
    have hlen : (denL E' vs).length = (denL (envOf (nesF E' tk.nes)) (outSVs fi.rs (HT.left fi.rs fi.os r) 0)).length := by
      rw [denL_length, denL_length, outSVs_length, l1, hst.1]
    have hd1 := (List.append_inj hden hlen).1
    refine ⟨h1.sim.2, (retSV vs).den E', ?_, G1, nesF E' tk.nes, ?_, t1.rest, t1.size, ?_, t1.glo, ?_, t1.gin, by rw [hk] at t9; exact t9, by rw [hk] at t10; exact t10, ?_⟩
    · unfold results
      rw [Sem.run_bind, hres, Array.mapM_eq_mapM_toList, map_eq_pure_bind, Sem.run_bind]
      have e0 : rvs.toArray.toList = rvs := by simp
      rw [e0]
      erw [l3]
      simp only [Result.andThen, Sem.run_pure]
      congr 1
      match vs with
      | [] => rfl
      | [v] => simp [retSV, denL]
      | v :: u :: r => simp [retSV, SV.den, denL]
    · rw [retSV_den hd1]
    · intro b hb hbn
      exact t1.old b ⟨hb, hbn⟩
    · intro b hb
      rcases t1.ghi b hb with h | h
      · exact .inl h
      · right
        by_cases hlt : b < w.heap.size
        · right
          exact Classical.byContradiction fun hx => h ⟨hlt, hx⟩
        · left; omega
    · rw [bk_pos (E := E') fi.rs fi.os vs fi.bk tk htk (by rw [l1, hst.1]) hst.2.1 hst.2.2.1]
      apply List.map_congr_left
      intro i hi
      exact (h2.nm i (hio i hi)).1
  cases e with
  | normal => exact fin h3
  | ret => exact fin h3
  | exit id => cases h3
  | goto l => cases h3
  | panic ch => cases h3
  | outgrown => cases h3

/-! The table of callees. -/
def tabF (l : List (Nat × FnI)) (n : FuncId) : Option FnI := lk l n
def TabOk (P : Program) (TB : Tb) (l : List (Nat × FnI)) : Prop := ∀ n fi, lk l n = some fi → CallsV P TB n fi
theorem TabOk.nil : TabOk P TB [] := by intro n g h; cases h
theorem TabOk.cons {l : List (Nat × FnI)} {n : FuncId} {g : FnI} (h : CallsV P TB n g) (hl : TabOk P TB l) : TabOk P TB ((n, g) :: l) := by
  intro k g' hk
  simp only [lk] at hk
  split at hk
  · rename_i he; subst he; simp only [Option.some.injEq] at hk; subst hk; exact h
  · exact hl k g' hk
theorem cxOk {nm : List (Nat × Nat × Nat)} {keep : List Nat} {loops joins : List (Nat × Ann)} {l : List (Nat × FnI)} (h : TabOk P TB l) {x : List (Nat × Xt)} (hx : ∀ n e, lk x n = some e → XtOk P n e) {y z u : List Nat} {op : List (Nat × (Nat × Nat × Nat))} : Cx.Ok P { nm := nm, keep := keep, fns := tabF l, loops := loops, joins := joins, tb := TB, exts := x, lets := y, frzs := z, shal := u, opens := op } := ⟨h, hx⟩
theorem XtOk.nil : ∀ n e, lk ([] : List (Nat × Xt)) n = some e → XtOk P n e := by intro n e h; cases h
theorem XtOk.cons {x : List (Nat × Xt)} {m : Nat} {d : Xt} (h : XtOk P m d) (hx : ∀ n e, lk x n = some e → XtOk P n e) : ∀ n e, lk ((m, d) :: x) n = some e → XtOk P n e := by
  intro k g hk
  simp only [lk] at hk
  split at hk
  · rename_i he; subst he; simp only [Option.some.injEq] at hk; subst hk; exact h
  · exact hx k g hk

end

end Go.V3
