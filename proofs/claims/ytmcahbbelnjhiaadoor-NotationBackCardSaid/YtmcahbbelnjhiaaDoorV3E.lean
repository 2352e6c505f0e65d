/-
  Part E: what is taken out of a state is what lay there.
-/
import Derived.Test.YtmcahbbelnjhiaaDoorV3D
set_option linter.unusedVariables false
namespace Go.V3
open Go
variable {TB : Tb}

theorem packArg_cases {md : PM} {lkp : Nat → Option Ent} {c : CT} {v : SV} {a : Taken c.t.T} (h : packArg md lkp c v = some a) :
    ∃ (cs : List SV) (u : Ups) (nes : List NE) (x : c.t.T), packC (if c.own = true then .own else md) lkp c.t cs = some (x, [], nes, u) ∧ a.x = x ∧
      ((c.ptr = true ∧ ∃ i, v = .loc i 0 ∧ lkp i = some (.box cs) ∧ a.nes = .whole i :: nes ∧ a.on = i :: (if c.own = true then u.map (·.1) else [])) ∨
       (c.ptr = false ∧ ((c.agg = true ∧ v = .agg cs) ∨ (c.agg = false ∧ cs = [v])) ∧ a.nes = nes ∧ a.on = (if c.own = true then u.map (·.1) else []))) ∧
      a.fz = (if c.own = true then [] else u) ∧ a.ln = (if c.own = true then [] else nes.filterMap NE.name) := by
  unfold packArg at h
  split at h
  · rename_i hp
    split at h
    · rename_i i off
      split at h
      · rename_i ho
        subst ho
        split at h
        · rename_i cs hl
          split at h
          · rename_i hown
            split at h
            · rename_i x nes u hk
              simp only [Option.some.injEq] at h; subst h
              exact ⟨cs, u, nes, x, by simp [hown, hk], rfl, .inl ⟨hp, i, rfl, hl, rfl, by simp [hown]⟩, by simp [hown], by simp [hown]⟩
            · cases h
          · rename_i hown
            split at h
            · rename_i x nes u hk
              simp only [Option.some.injEq] at h; subst h
              exact ⟨cs, u, nes, x, by simp [hown, hk], rfl, .inl ⟨hp, i, rfl, hl, rfl, by simp [hown]⟩, by simp [hown], by simp [hown]⟩
            · cases h
        · cases h
      · cases h
    · cases h
  · rename_i hp
    split at h
    · cases h
    · rename_i cs hcs
      have hag : (c.agg = true ∧ v = .agg cs) ∨ (c.agg = false ∧ cs = [v]) := by
        split at hcs
        · rename_i ha; simp only [Option.some.injEq] at hcs; exact .inl ⟨ha, by rw [hcs]⟩
        · cases hcs
        · rename_i ha; simp only [Option.some.injEq] at hcs; exact .inr ⟨ha, hcs.symm⟩
      split at h
      · rename_i hown
        split at h
        · rename_i x nes u hk
          simp only [Option.some.injEq] at h; subst h
          exact ⟨cs, u, nes, x, by simp [hown, hk], rfl, .inr ⟨hp, hag, rfl, by simp [hown]⟩, by simp [hown], by simp [hown]⟩
        · cases h
      · rename_i hown
        split at h
        · rename_i x nes u hk
          simp only [Option.some.injEq] at h; subst h
          exact ⟨cs, u, nes, x, by simp [hown, hk], rfl, .inr ⟨hp, hag, rfl, by simp [hown]⟩, by simp [hown], by simp [hown]⟩
        · cases h

theorem packA_cons {md : PM} {lkp : Nat → Option Ent} {c : CT} {r : List CT} {vs : List SV} {a : Taken (HT (c :: r))} (h : packA md lkp (c :: r) vs = some a) :
    ∃ v vs' a1 a2, vs = v :: vs' ∧ packArg md lkp c v = some a1 ∧ packA md lkp r vs' = some a2 ∧ a = ⟨HT.mk c r a1.x a2.x, a1.nes ++ a2.nes, a1.fz ++ a2.fz, a1.on ++ a2.on, a1.ln ++ a2.ln⟩ := by
  cases vs with
  | nil => simp [packA] at h
  | cons v vs' =>
    simp only [packA] at h
    split at h
    · cases h
    · split at h
      · cases h
      · simp only [Option.some.injEq] at h
        exact ⟨v, vs', _, _, rfl, by assumption, by assumption, h.symm⟩

theorem packArg_len {md : PM} {lkp : Nat → Option Ent} {c : CT} {v : SV} {a : Taken c.t.T} (h : packArg md lkp c v = some a) : a.nes.length = c.cnt := by
  obtain ⟨cs, u, nes, x, h1, rfl, h2, _⟩ := packArg_cases h
  obtain ⟨_, _, _, hn, _⟩ := packC_den ⟨fun _ => ⟨0, 0, true, 0, 0, none⟩, fun _ => undef⟩ _ _ _ _ _ _ h1
  unfold CT.cnt CT.pn
  rcases h2 with ⟨hp, i, _, _, e, _⟩ | ⟨hp, _, e, _⟩
  · rw [e, hp]; simp [hn]; omega
  · rw [e, hp]; simp [hn]

theorem packArg_den {md : PM} {lkp : Nat → Option Ent} {c : CT} {v : SV} {a : Taken c.t.T} (h : packArg md lkp c v = some a) (E Em : Env) (n : Nat) (hm : ∀ k, k < c.cnt → Em.nm (n + k) = nesF E a.nes k) :
    v.den E = (outSV c a.x n).den Em := by
  obtain ⟨cs, u, nes, x, h1, rfl, h2, _⟩ := packArg_cases h
  obtain ⟨c1, e1, l1, hn, hd⟩ := packC_den E _ _ _ _ _ _ h1
  rw [List.append_nil] at e1; subst e1
  unfold CT.cnt CT.pn at hm
  unfold outSV
  rcases h2 with ⟨hp, i, rfl, _, e, _⟩ | ⟨hp, hag, e, _⟩
  · rw [hp] at hm ⊢
    rw [e] at hm
    have h0 := hm 0 (by simp; omega)
    simp only [Nat.add_zero, nesF, List.getElem?_cons_zero, NE.nm] at h0
    simp only [SV.den, h0]
  · rw [hp] at hm ⊢
    rw [e] at hm
    have hen : enc c.t a.x (nesF E nes) = denL Em (unp c.t a.x n) := by
      rw [unp_den]
      exact enc_congr _ _ fun k hk => (hm k (by simpa using hk)).symm
    rcases hag with ⟨ha, rfl⟩ | ⟨ha, rfl⟩
    · rw [ha]; simp only [SV.den]; rw [hd, hen]
    · rw [ha]
      simp only
      rw [hen] at hd
      cases hu : unp c.t a.x n with
      | nil => rw [hu] at hd; simp [denL] at hd
      | cons y r => rw [hu] at hd; simp only [denL, List.cons.injEq] at hd; exact hd.1

theorem packA_den {md : PM} {lkp : Nat → Option Ent} (E : Env) : ∀ (cs : List CT) (vs : List SV) (a : Taken (HT cs)), packA md lkp cs vs = some a → a.nes.length = cnts cs ∧
    ∀ (Em : Env) (n : Nat), (∀ k, k < cnts cs → Em.nm (n + k) = nesF E a.nes k) → denL E vs = denL Em (outSVs cs a.x n) := by
  intro cs
  induction cs with
  | nil =>
    intro vs a h
    cases vs with
    | nil => simp only [packA, Option.some.injEq] at h; subst h; exact ⟨rfl, fun _ _ _ => rfl⟩
    | cons v r => simp [packA] at h
  | cons c r ih =>
    intro vs a h
    obtain ⟨v, vs', a1, a2, rfl, h1, h2, rfl⟩ := packA_cons h
    obtain ⟨l2, d2⟩ := ih _ _ h2
    have l1 := packArg_len h1
    obtain ⟨k1, k2⟩ := nesF_append E a1.nes a2.nes
    refine ⟨by simp [cnts, l1, l2], fun Em n hm => ?_⟩
    simp only [denL, outSVs, HT.hd_mk, HT.tl_mk]
    rw [packArg_den h1 E Em n (fun k hk => by rw [hm k (by simp [cnts]; omega)]; exact k1 k (by omega))]
    rw [d2 Em (n + c.cnt) (fun k hk => by rw [Nat.add_assoc, hm _ (by simp [cnts]; omega)]; rw [← l1]; exact k2 k)]

/-- What is known of the names that are taken. -/
structure Known (md : PM) (lkp : Nat → Option Ent) (E : Env) (c : Cfg TB) (G : Nat → Prop) (w : World) (on : List Nat) (fz : Ups) (ln : List Nat) : Prop where
  shr : ∀ i t ys, lkp i = some (.shr t ys) → Shr (Rp G w t) t.sz G w (E.nm i) ys
  frz : ∀ i t ys e, lkp i = some e → OwnE e t ys → (md = .lend ∧ i ∈ ln) ∨ (i, .shr t ys) ∈ fz → Shr (Rp G w t) t.sz G w (E.nm i) ys
  row : ∀ i t ys, lkp i = some (.row t ys) → i ∈ on → Own (Rp G w t) t.sz c G w (E.nm i) ys
  deep : ∀ i t ys, lkp i = some (.deep t ys none) → i ∈ on → EntM c G w (E.nx i) (.deep t ys none)
  box : ∀ i cs, lkp i = some (.box cs) → i ∈ on → (E.nm i).nil = false ∧ (E.nm i).off = (E.nm i).pp.pre.length ∧ ¬ G (E.nm i).blk ∧ ¬ c.Old (E.nm i).blk ∧ (∃ ty, w.heap[(E.nm i).blk]? = some (.cells ((E.nm i).arr (denL E cs)) ty (0, 0)))

theorem Known.sub {md : PM} {lkp : Nat → Option Ent} {E : Env} {c : Cfg TB} {G : Nat → Prop} {w : World} {on on' : List Nat} {fz fz' : Ups} {ln ln' : List Nat} (h : Known md lkp E c G w on fz ln)
    (h1 : ∀ i ∈ on', i ∈ on) (h2 : ∀ q ∈ fz', q ∈ fz) (h3 : ∀ i ∈ ln', i ∈ ln) : Known md lkp E c G w on' fz' ln' :=
  ⟨h.shr, fun i t ys e hl ho hx => h.frz i t ys e hl ho (hx.imp (fun ⟨a, b⟩ => ⟨a, h3 _ b⟩) (h2 _)), fun i t ys hl hx => h.row i t ys hl (h1 _ hx), fun i t ys hl hx => h.deep i t ys hl (h1 _ hx), fun i cs hl hx => h.box i cs hl (h1 _ hx)⟩

/-- The block that a name owns. -/
def blkOf (lkp : Nat → Option Ent) (E : Env) (i : Nat) : List Nat := match lkp i with
  | some e => e.ownL (E.nx i)
  | none => []

theorem ownsE_append (a b : List Ent) (ms : Nat → Nm) : ownsE (a ++ b) ms = ownsE a ms ++ ownsE b (fun k => ms (a.length + k)) := by
  induction a generalizing ms with
  | nil => simp [ownsE]
  | cons e r ih =>
    simp only [List.cons_append, ownsE, ih, List.append_assoc, List.length_cons]
    congr 3
    funext k
    congr 1; omega
theorem ownsE_congr (es : List Ent) {f g : Nat → Nm} (h : ∀ k, k < es.length → f k = g k) : ownsE es f = ownsE es g := by
  induction es generalizing f g with
  | nil => rfl
  | cons e r ih =>
    simp only [ownsE]
    rw [h 0 (by simp), ih (fun k hk => h (k + 1) (by simp; omega))]
theorem ownsE_shr (t : Ty) (x : t.T) (ms : Nat → Nm) : ownsE (ents false t x) ms = [] := by
  induction t generalizing ms with
  | pair a b iha ihb => simp [ents, ownsE_append, iha, ihb]
  | slice a => simp [ents, ownsE, Ent.ownL, Ent.own]
  | _ => rfl

theorem packC_owns {lkp : Nat → Option Ent} {E : Env} : ∀ (t : Ty) (cs : List SV) (x : t.T) (r : List SV) (nes : List NE) (u : Ups), packC .own lkp t cs = some (x, r, nes, u) →
    ownsE (ents true t x) (nesF E nes) = (u.map (·.1)).flatMap (blkOf lkp E) := by
  intro t
  induction t with
  | pair a b iha ihb =>
    intro cs x r nes u h
    simp only [packC] at h
    repeat' split at h
    all_goals first | (cases h; done) | skip
    rename_i _ x1 r1 n1 u1 h1 _ x2 r2 n2 u2 h2
    simp only [Option.some.injEq, Prod.mk.injEq] at h
    obtain ⟨rfl, rfl, rfl, rfl⟩ := h
    obtain ⟨_, _, _, m1, _⟩ := packC_den E _ _ _ _ _ _ h1
    obtain ⟨_, _, _, m2, _⟩ := packC_den E _ _ _ _ _ _ h2
    obtain ⟨k1, k2⟩ := nesF_append E n1 n2
    simp only [ents, ownsE_append, List.map_append, List.flatMap_append]
    rw [← iha _ _ _ _ _ h1, ← ihb _ _ _ _ _ h2]
    congr 1
    · exact ownsE_congr _ fun k hk => k1 k (by rw [ents_length] at hk; omega)
    · rw [ents_length, ← m1]; exact ownsE_congr _ fun k hk => k2 k
  | slice a ih =>
    intro cs x r nes u h
    simp only [packC] at h
    repeat' split at h
    all_goals first | (cases h; done) | skip
    rename_i v r' _ xs ne u' hs
    simp only [Option.some.injEq, Prod.mk.injEq] at h
    obtain ⟨rfl, rfl, rfl, rfl⟩ := h
    rcases packS_own hs with ⟨rfl, rfl, rfl, hk⟩ | ⟨i, hx, hl, rfl⟩
    · cases a <;> first | rfl | cases hk
    · simp only [ents, ownsE, nesF, List.getElem?_cons_zero, List.append_nil, List.map_cons, List.map_nil, List.flatMap_cons, List.flatMap_nil]
      have : blkOf lkp E i = (ownEnt a xs).ownL (E.nx i) := by simp [blkOf, hl]
      rw [this]
      rcases hx with ⟨rfl, hsl⟩ | ⟨rfl, hsl⟩
      · rw [ownEnt_flat hsl]; rfl
      · rfl
  | _ =>
    intro cs x r nes u h
    simp only [packC] at h
    repeat' split at h
    all_goals first | (cases h; done) | skip
    all_goals (simp only [Option.some.injEq, Prod.mk.injEq] at h; obtain ⟨_, rfl, rfl, rfl⟩ := h; rfl)

theorem packArg_owns {md : PM} {lkp : Nat → Option Ent} {E : Env} {c : CT} {v : SV} {a : Taken c.t.T} (h : packArg md lkp c v = some a) : ownsC c a.x (nesF E a.nes) = a.on.flatMap (blkOf lkp E) := by
  obtain ⟨cs, u, nes, x, h1, rfl, h2, _⟩ := packArg_cases h
  have hin : ownsE (ents c.own c.t a.x) (nesF E nes) = (if c.own = true then u.map (·.1) else []).flatMap (blkOf lkp E) := by
    cases ho : c.own with
    | true => rw [ho] at h1; simp only [if_true] at h1 ⊢; exact packC_owns _ _ _ _ _ _ h1
    | false => rw [ownsE_shr]; rfl
  unfold ownsC CT.pn
  rcases h2 with ⟨hp, i, rfl, hl, e1, e2⟩ | ⟨hp, hag, e1, e2⟩
  · rw [hp, e1, e2]
    have hb : blkOf lkp E i = [(E.nm i).blk] := by simp [blkOf, hl, Ent.ownL, Ent.own, Env.nx]
    rw [List.flatMap_cons, hb]
    congr 1
    rw [← hin]
    apply ownsE_congr
    intro k _
    simp only [nesF]
    rw [Nat.add_comm, List.getElem?_cons_succ]
  · rw [hp, e1, e2, ← hin]
    simp

theorem packA_owns {md : PM} {lkp : Nat → Option Ent} {E : Env} : ∀ (cs : List CT) (vs : List SV) (a : Taken (HT cs)), packA md lkp cs vs = some a → ownsP cs a.x (nesF E a.nes) = a.on.flatMap (blkOf lkp E) := by
  intro cs
  induction cs with
  | nil =>
    intro vs a h
    cases vs with
    | nil => simp only [packA, Option.some.injEq] at h; subst h; rfl
    | cons v r => simp [packA] at h
  | cons c r ih =>
    intro vs a h
    obtain ⟨v, vs', a1, a2, rfl, h1, h2, rfl⟩ := packA_cons h
    have l1 := packArg_len h1
    obtain ⟨k1, k2⟩ := nesF_append E a1.nes a2.nes
    simp only [ownsP, HT.hd_mk, HT.tl_mk, List.flatMap_append]
    rw [← packArg_owns h1, ← ih _ _ h2]
    have cong : ∀ (d : CT) (x : d.t.T) (f g : Nat → Nm), (∀ k, k < d.cnt → f k = g k) → ownsC d x f = ownsC d x g := by
      intro d x f g hfg
      unfold ownsC
      unfold CT.cnt at hfg
      congr 1
      · cases hp : d.ptr with
        | true => simp only; rw [hfg 0 (by simp [CT.pn, hp]; omega)]
        | false => rfl
      · exact ownsE_congr _ fun k hk => hfg _ (by rw [ents_length] at hk; omega)
    have congP : ∀ (ds : List CT) (x : HT ds) (f g : Nat → Nm), (∀ k, k < cnts ds → f k = g k) → ownsP ds x f = ownsP ds x g := by
      intro ds
      induction ds with
      | nil => intros; rfl
      | cons d s ihs =>
        intro x f g hfg
        simp only [ownsP]
        rw [cong d _ f g (fun k hk => hfg k (by simp [cnts]; omega)), ihs _ _ (fun k => g (d.cnt + k)) (fun k hk => hfg _ (by simp [cnts]; omega))]
    obtain ⟨l2, _⟩ := packA_den E _ _ _ h2
    congr 1
    · exact cong _ _ _ _ fun k hk => k1 k (by omega)
    · rw [← l1]; exact congP _ _ _ _ fun k hk => k2 k

theorem CompOk.congr {c : Cfg TB} {G : Nat → Prop} {w : World} {d : CT} {x : d.t.T} {f g : Nat → Nm} (h : CompOk c G w d x f) (hfg : ∀ k, k < d.cnt → f k = g k) : CompOk c G w d x g := by
  obtain ⟨h1, h2⟩ := h
  unfold CT.cnt at hfg
  refine ⟨fun j e he => ?_, fun hp => ?_⟩
  · have hj : j < d.t.nsl := by
      rcases Nat.lt_or_ge j (ents d.own d.t x).length with h | h
      · rwa [ents_length] at h
      · rw [List.getElem?_eq_none h] at he; cases he
    rw [← hfg _ (by omega)]
    exact h1 j e he
  · have h0 := hfg 0 (by simp [CT.pn, hp]; omega)
    rw [← h0]
    obtain ⟨a, b, c, d', ty, e⟩ := h2 hp
    refine ⟨a, b, c, d', ty, ?_⟩
    rw [e]
    congr 3
    exact enc_congr _ _ fun k hk => hfg _ (by omega)
theorem PS.congr {c : Cfg TB} {G : Nat → Prop} {w : World} : ∀ (cs : List CT) {x : HT cs} {f g : Nat → Nm}, PS c G w cs x f → (∀ k, k < cnts cs → f k = g k) → PS c G w cs x g
  | [], _, _, _, _, _ => trivial
  | d :: r, x, f, g, h, hfg => ⟨h.1.congr fun k hk => hfg k (by simp [cnts]; omega), PS.congr r h.2 fun k hk => hfg _ (by simp [cnts]; omega)⟩

theorem packArg_ps {md : PM} (hmd : md ≠ .own) {lkp : Nat → Option Ent} {c : CT} {v : SV} {a : Taken c.t.T} (h : packArg md lkp c v = some a) {E : Env} {L : Store} (hw : v.wf E L) (hwb : ∀ i cs, lkp i = some (.box cs) → wfL E L cs)
    {cf : Cfg TB} {G : Nat → Prop} {w : World} (hk : Known md lkp E cf G w a.on a.fz a.ln) : CompOk cf G w c a.x (nesF E a.nes) := by
  obtain ⟨cs, u, nes, x, h1, rfl, h2, h3, h4⟩ := packArg_cases h
  have hwc : wfL E L cs := by
    rcases h2 with ⟨_, i, _, hl, _⟩ | ⟨_, hag, _⟩
    · exact hwb i cs hl
    · rcases hag with ⟨_, rfl⟩ | ⟨_, rfl⟩
      · exact hw
      · exact ⟨hw, trivial⟩
  obtain ⟨c1, e1, _, hn, hd⟩ := packC_den E _ _ _ _ _ _ h1
  rw [List.append_nil] at e1; subst e1
  obtain ⟨g1, g2⟩ := packC_get _ _ _ _ _ _ h1
  have hon : ∀ q ∈ u, c.own = true → q.1 ∈ a.on := by
    intro q hq ho
    rcases h2 with ⟨_, i, _, _, _, e⟩ | ⟨_, _, _, e⟩
    · rw [e, if_pos ho]; exact List.mem_cons_of_mem _ (List.mem_map.2 ⟨q, hq, rfl⟩)
    · rw [e, if_pos ho]; exact List.mem_map.2 ⟨q, hq, rfl⟩
  have hents : ∀ j e, (ents c.own c.t a.x)[j]? = some e → EntM cf G w (nesF E nes j) e := by
    intro j e he
    rcases g1 j c.own e he with rfl | ⟨t, s, xs, ne, uk, hs, hne, hsc, hsub, rfl⟩
    · trivial
    have hnf : nesF E nes j = ne.nm E := by simp [nesF, hne]
    rw [hnf]
    cases ho : c.own with
    | true =>
      rw [ho] at hs
      simp only [if_true] at hs
      rcases packS_own hs with ⟨rfl, rfl, rfl, hkv⟩ | ⟨i, hx, hl, rfl⟩
      · exact EntM.nil cf G w t hkv
      · rcases hx with ⟨rfl, hsl⟩ | ⟨rfl, hsl⟩
        · simp only
          rw [ownEnt_flat hsl] at hl ⊢
          exact hk.row i t xs hl (hon (i, .dead) (hsub _ (by simp)) ho)
        · obtain ⟨b, rfl⟩ := hsl
          exact hk.deep i b xs hl (hon (i, .dead) (hsub _ (by simp)) ho)
    | false =>
      rw [ho] at hs
      simp only [Bool.false_eq_true, if_false] at hs h3 h4
      rw [ho] at h3 h4
      simp only [Bool.false_eq_true, if_false] at h3 h4
      refine packS_shr hs hmd (wfL_mem.1 hwc s hsc) hk.shr ?_
      intro i t' ys e' hnn hl hoe hx
      refine hk.frz i t' ys e' hl hoe ?_
      rcases hx with hx | hx
      · left
        refine ⟨hx, ?_⟩
        rw [h4]
        exact List.mem_filterMap.2 ⟨ne, List.mem_of_getElem? hne, hnn⟩
      · right
        rw [h3]
        exact hsub _ hx
  unfold CompOk CT.pn
  rcases h2 with ⟨hp, i, rfl, hl, e1, e2⟩ | ⟨hp, hag, e1, e2⟩
  · rw [hp, e1]
    have h0 : nesF E (.whole i :: nes) 0 = E.nm i := rfl
    have hs : ∀ j, nesF E (.whole i :: nes) (1 + j) = nesF E nes j := fun j => by simp only [nesF]; rw [Nat.add_comm, List.getElem?_cons_succ]
    refine ⟨fun j e he => ?_, fun _ => ?_⟩
    · simp only [hs]; exact hents j e he
    · obtain ⟨b1, b2, b3, b4, ty, b5⟩ := hk.box i _ hl (by rw [e2]; simp)
      rw [h0]
      refine ⟨b1, b2, b3, b4, ty, ?_⟩
      rw [b5, hd]
      congr 3
      exact enc_congr _ _ fun j _ => (hs j).symm
  · rw [hp, e1]
    refine ⟨fun j e he => ?_, fun hx => by cases hx⟩
    simp only [Nat.zero_add]; exact hents j e he

theorem packA_ps {md : PM} (hmd : md ≠ .own) {lkp : Nat → Option Ent} {E : Env} {L : Store} (hwb : ∀ i cs, lkp i = some (.box cs) → wfL E L cs) {cf : Cfg TB} {G : Nat → Prop} {w : World} :
    ∀ (cs : List CT) (vs : List SV) (a : Taken (HT cs)), packA md lkp cs vs = some a → wfL E L vs → Known md lkp E cf G w a.on a.fz a.ln → PS cf G w cs a.x (nesF E a.nes) := by
  intro cs
  induction cs with
  | nil => intros; trivial
  | cons c r ih =>
    intro vs a h hw hk
    obtain ⟨v, vs', a1, a2, rfl, h1, h2, rfl⟩ := packA_cons h
    have l1 := packArg_len h1
    obtain ⟨l2, _⟩ := packA_den E _ _ _ h2
    obtain ⟨k1, k2⟩ := nesF_append E a1.nes a2.nes
    refine ⟨?_, ?_⟩
    · simp only [HT.hd_mk]
      refine (packArg_ps hmd h1 hw.1 hwb (hk.sub (by simp; intros; simp [*]) (by simp; intros; simp [*]) (by simp; intros; simp [*]))).congr fun k hk => (k1 k (by omega)).symm
    · simp only [HT.tl_mk]
      refine (ih _ _ h2 hw.2 (hk.sub (by simp; intros; simp [*]) (by simp; intros; simp [*]) (by simp; intros; simp [*]))).congr _ fun k hk => ?_
      rw [← l1]; exact (k2 k).symm

end Go.V3
