/-
  Part H: a call keeps what a state says.
-/
import Derived.Test.YtmcahbbelnjhiaaDoorV3G
set_option linter.unusedVariables false
namespace Go.V3
open Go
variable {TB : Tb}

def Hd (c : Cfg TB) (w : World) (E : Env) (L : Store) : Prop := ∃ G, Holds c G w E L

theorem ownsE_out {b : Nat} : ∀ (es : List Ent) (ms : Nat → Nm), b ∈ ownsE es ms → ∃ (j : Nat) (e : Ent), es[j]? = some e ∧ b ∈ e.ownL (ms j)
  | [], ms, h => by simp [ownsE] at h
  | e :: r, ms, h => by
    simp only [ownsE] at h
    rcases List.mem_append.1 h with h | h
    · exact ⟨0, e, rfl, h⟩
    · obtain ⟨j, f, h1, h2⟩ := ownsE_out r _ h
      exact ⟨j + 1, f, by simpa using h1, h2⟩

theorem CompOk.owns {c : Cfg TB} {G : Nat → Prop} {w : World} {d : CT} {x : d.t.T} {ms : Nat → Nm} (h : CompOk c G w d x ms) {b : Nat} (hb : b ∈ ownsC d x ms) : ¬ c.Old b ∧ ¬ G b ∧ b < w.heap.size := by
  unfold ownsC at hb
  rcases List.mem_append.1 hb with hb | hb
  · cases hp : d.ptr with
    | true =>
      rw [hp] at hb
      simp only [List.mem_singleton] at hb
      subst hb
      obtain ⟨h1, h2, h3, h4, ty, h5⟩ := h.2 hp
      refine ⟨h4, h3, ?_⟩
      rcases Nat.lt_or_ge (ms 0).blk w.heap.size with h6 | h6
      · exact h6
      · rw [Array.getElem?_eq_none h6] at h5; cases h5
    | false => rw [hp] at hb; cases hb
  · obtain ⟨j, e, h1, h2⟩ := ownsE_out _ _ hb
    exact (h.1 j e h1).owns h2
theorem PS.owns {c : Cfg TB} {G : Nat → Prop} {w : World} {b : Nat} : ∀ (cs : List CT) {x : HT cs} {ms : Nat → Nm}, PS c G w cs x ms → b ∈ ownsP cs x ms → ¬ c.Old b ∧ ¬ G b ∧ b < w.heap.size
  | [], _, _, _, hb => by cases hb
  | d :: r, _, _, h, hb => by
    rcases List.mem_append.1 hb with hb | hb
    · exact h.1.owns hb
    · exact PS.owns r h.2 hb

theorem CompOk.io {c : Cfg TB} {G : Nat → Prop} {w : World} {d : CT} {x : d.t.T} {ms : Nat → Nm} (h : CompOk c G w d x ms) (c' : Cfg TB) (hc : ∀ b ∈ ownsC d x ms, ¬ c'.Old b) : CompOk c' G w d x ms := by
  refine ⟨fun j e he => ?_, fun hp => ?_⟩
  · have hm := h.1 j e he
    cases e with
    | row t xs =>
      obtain ⟨h1, h2, h3⟩ := hm
      refine ⟨h1, h2, h3.imp id fun ⟨a, b, _, d'⟩ => ⟨a, b, hc _ ?_, d'⟩⟩
      refine List.mem_append.2 (.inr (ownsE_mem _ j _ he (Ent.ownL_own ?_)))
      simp [Ent.own, a]
    | deep t xs q => exact ⟨hm.1, hm.2.cfg fun b hb => hc b (List.mem_append.2 (.inr (ownsE_mem _ j _ he hb)))⟩
    | _ => exact hm
  · obtain ⟨a, b, c1, d1, e⟩ := h.2 hp
    refine ⟨a, b, c1, hc _ ?_, e⟩
    unfold ownsC
    rw [hp]
    simp
theorem PS.io {c : Cfg TB} {G : Nat → Prop} {w : World} (c' : Cfg TB) : ∀ (cs : List CT) {x : HT cs} {ms : Nat → Nm}, PS c G w cs x ms → (∀ b ∈ ownsP cs x ms, ¬ c'.Old b) → PS c' G w cs x ms
  | [], _, _, _, _ => trivial
  | d :: r, _, _, h, hc => ⟨h.1.io c' fun b hb => hc b (List.mem_append.2 (.inl hb)), PS.io c' r h.2 fun b hb => hc b (List.mem_append.2 (.inr hb))⟩

theorem outSV_den (d : CT) (x : d.t.T) {E E2 : Env} {n m : Nat} (h : ∀ k, k < d.cnt → E.nm (n + k) = E2.nm (m + k)) : (outSV d x n).den E = (outSV d x m).den E2 := by
  unfold CT.cnt CT.pn at h
  unfold outSV
  cases hp : d.ptr with
  | true =>
    rw [hp] at h
    have h0 := h 0 (by simp; omega)
    simp only [Nat.add_zero] at h0
    simp only [SV.den, h0]
  | false =>
    rw [hp] at h
    simp only [Nat.zero_add] at h
    have hu : denL E (unp d.t x n) = denL E2 (unp d.t x m) := by
      rw [unp_den, unp_den]
      exact enc_congr _ _ fun k hk => h k hk
    cases d.agg with
    | true => simp only [SV.den, hu]
    | false =>
      simp only
      cases h1 : unp d.t x n with
      | nil =>
        have : (unp d.t x n).length = (unp d.t x m).length := by rw [unp_length, unp_length]
        rw [h1] at this
        cases h2 : unp d.t x m with
        | nil => rfl
        | cons _ _ => rw [h2] at this; simp at this
      | cons v r =>
        cases h2 : unp d.t x m with
        | nil =>
          have : (unp d.t x n).length = (unp d.t x m).length := by rw [unp_length, unp_length]
          rw [h1, h2] at this; simp at this
        | cons v' r' =>
          rw [h1, h2] at hu
          simp only [denL, List.cons.injEq] at hu
          exact hu.1
theorem outSVs_den : ∀ (cs : List CT) (x : HT cs) {E E2 : Env} {n m : Nat}, (∀ k, k < cnts cs → E.nm (n + k) = E2.nm (m + k)) → denL E (outSVs cs x n) = denL E2 (outSVs cs x m)
  | [], _, _, _, _, _, _ => rfl
  | d :: r, x, E, E2, n, m, h => by
    simp only [outSVs, denL]
    rw [outSV_den d _ (fun k hk => h k (by simp [cnts]; omega)), outSVs_den r _ (n := n + d.cnt) (m := m + d.cnt) (fun k hk => by rw [Nat.add_assoc, Nat.add_assoc]; exact h _ (by simp [cnts]; omega))]
theorem retSV_den {l l2 : List SV} {E E2 : Env} (h : denL E l = denL E2 l2) : (retSV l).den E = (retSV l2).den E2 := by
  match l, l2 with
  | [], [] => rfl
  | [], _ :: _ => simp [denL] at h
  | _ :: _, [] => simp [denL] at h
  | [v], [v2] => simp only [denL, List.cons.injEq] at h; exact h.1
  | [v], _ :: _ :: _ => simp [denL] at h
  | _ :: _ :: _, [v] => simp [denL] at h
  | _ :: _ :: _, _ :: _ :: _ => simp only [retSV, SV.den, h]
theorem retSV_wf {l : List SV} {E : Env} {L : Store} (h : wfL E L l) : (retSV l).wf E L := by
  match l with
  | [] => exact h
  | [v] => exact h.1
  | _ :: _ :: _ => exact h

theorem newOk_spec {lkp : Nat → Option Ent} {base n : Nat} (h : newOk lkp base n = true) : ∀ j, j < n → lkp (base + j) = some .rsv := by
  intro j hj
  simp only [newOk, List.all_eq_true, List.mem_range] at h
  have := h j hj
  split at this
  · assumption
  · cases this

theorem foldA_den {E E2 : Env} : ∀ (sh : List Sh) {us vs : List SV}, denL E us = denL E2 vs → denL E (foldA sh us) = denL E2 (foldA sh vs)
  | [], _, _, h => h
  | .one :: r, [], [], _ => rfl
  | .one :: r, [], _ :: _, h => by simp [denL] at h
  | .one :: r, _ :: _, [], h => by simp [denL] at h
  | .one :: r, u :: us, v :: vs, h => by
    simp only [denL, List.cons.injEq] at h
    simp only [foldA, denL]
    rw [h.1, foldA_den r h.2]
  | .clo f k :: r, us, vs, h => by
    have e1 : denL E (us.take k) = denL E2 (vs.take k) := by
      rw [denL_map, denL_map, List.map_take, List.map_take, ← denL_map, ← denL_map, h]
    have e2 : denL E (us.drop k) = denL E2 (vs.drop k) := by
      rw [denL_map, denL_map, List.map_drop, List.map_drop, ← denL_map, ← denL_map, h]
    simp only [foldA, denL, SV.den]
    rw [e1, foldA_den r e2]

set_option maxHeartbeats 1000000 in
theorem callE_ok {P : Program} {fi : FnI} {base : Nat} {lkp : Nat → Option Ent} {args : List SV} {v : SV} {ups : Ups} (h : callE fi base lkp args (fun v u => some (v, u)) = some (v, ups)) {f : FuncId} (hc : CallsV P TB f fi)
    {L : Store} (hlk : ∀ n e, lkp n = some e → look L n = some e) {c : Cfg TB} {w : World} {E : Env} (hh : Hd c w E L) (hw : wfL E L args) :
    Calls P f (denL E args).toArray w (fun e w' => ∃ E', e = .returned (v.den E') ∧ Hd c w' E' (updL L ups) ∧ (∀ n, Al L n → E'.nm n = E.nm n ∧ Al (updL L ups) n) ∧ E'.ds = E.ds ∧ v.wf E' (updL L ups)) := by
  obtain ⟨G, hG⟩ := hh
  unfold callE at h
  split at h
  · cases h
  rename_i us hus
  have hw := unfA_wf _ _ _ hus hw
  split at h
  · cases h
  rename_i a hp
  split at h
  · cases h
  rename_i is hbk
  split at h
  rotate_left
  · cases h
  rename_i hck
  simp only [Bool.and_eq_true, beq_iff_eq, decide_eq_true_eq, List.all_eq_true (p := fun i => a.on.contains i), List.contains_iff_mem] at hck
  obtain ⟨⟨⟨⟨hok, hnew⟩, hlen⟩, hptr⟩, hisn, hison⟩ := hck
  rw [Option.bind_eq_some_iff] at h
  obtain ⟨r, hr, h⟩ := h
  simp only [Option.some.injEq, Prod.mk.injEq] at h
  obtain ⟨rfl, rfl⟩ := h
  have hmd : fi.md ≠ .own := by unfold FnI.md; split <;> simp
  obtain ⟨G1, G2, t1, t2, t3, t4, t5, t6, t7, t8, t9, t10, t11⟩ := hG.take hmd hlk hp hok hw
  have hnewL := fun j hj => hlk _ _ (newOk_spec hnew j hj)
  obtain ⟨n1, n2⟩ := packA_names hmd _ _ _ hp
  have hnotin : ∀ k, look L k = some .rsv → k ∉ a.on ∧ k ∉ a.fz.map (·.1) := by
    intro k hk
    refine ⟨fun hx => ?_, fun hx => ?_⟩
    · obtain ⟨e, hl, he⟩ := n2 k hx
      have := hlk _ _ hl; rw [hk] at this; cases this; cases he
    · obtain ⟨q, hq, rfl⟩ := List.mem_map.1 hx
      obtain ⟨t, ys, e, hl, ho, _⟩ := n1 q hq
      have := hlk _ _ hl; rw [hk] at this; cases this; cases ho
  have hnew1 : ∀ j, j < cnts fi.rs + nsls fi.os → look (updL L a.ups) (base + j) = some .rsv := by
    intro j hj
    obtain ⟨q1, q2⟩ := hnotin _ (hnewL j hj)
    rw [t7 _ q1 q2]; exact hnewL j hj
  -- the call
  have hgin2 : ∀ b, G2 b → b < w.heap.size := by
    intro b hb
    rcases t5 b hb with hx | ⟨n, e, hx, hxb⟩
    · exact t1.gin b hx
    · exact t1.ow_lt hx hxb
  have hps0 := PS.io (⟨w, fun b => b ∈ ownsP fi.ps a.x (nesF E a.nes), G2⟩ : Cfg TB) _ t9 (fun b hb => fun hx => hx.2 hb)
  have htab : (⟨w, fun b => b ∈ ownsP fi.ps a.x (nesF E a.nes), G2⟩ : Cfg TB).Tab := fun q hq => by
    obtain ⟨o1, ty, fz, o2⟩ := t1.tab q hq
    refine ⟨⟨Nat.lt_of_lt_of_le o1.1 t1.size, fun hy => (PS.owns _ t9 hy).1 o1⟩, ty, fz, ?_⟩
    show w.heap[q.1]? = _
    rw [t1.old q.1 o1]; exact o2
  have hcall := hc.2 a.x r hr w G2 (nesF E a.nes) hgin2 hps0 t10 htab
  obtain ⟨hlenn, hden⟩ := packA_den E _ _ _ hp
  have hfold : denL (envOf (nesF E a.nes)) (foldA fi.sh (outSVs fi.ps a.x 0)) = denL E args := by
    rw [← unfA_den E _ _ _ hus]
    exact (foldA_den fi.sh (hden (envOf (nesF E a.nes)) 0 (fun k _ => by simp [envOf]))).symm
  rw [hfold] at hcall
  refine hcall.mono ?_
  rintro e w' ⟨G', ms', rfl, hrest, hsize, hsame, hgg, hgn, hgi, hps', hnd', hpos⟩
  -- the state after it
  let G'' : Nat → Prop := fun b => G1 b ∨ (G' b ∧ (w.heap.size ≤ b ∨ b ∈ ownsP fi.ps a.x (nesF E a.nes)))
  have hio : ∀ b ∈ ownsP fi.ps a.x (nesF E a.nes), ¬ c.Old b ∧ ¬ G2 b ∧ b < w.heap.size := fun b hb => PS.owns _ t9 hb
  have hGsame : ∀ b, G1 b → w'.heap[b]? = w.heap[b]? := fun b hb => hsame b (t1.gin b hb) (fun hx => (hio b hx).2.1 (t3 b hb))
  have hold : ∀ b, c.Old b → w'.heap[b]? = w.heap[b]? := fun b hb => hsame b (Nat.lt_of_lt_of_le hb.1 t1.size) (fun hx => (hio b hx).1 hb)
  have hafter : Holds c G'' w' E (updL L a.ups) := by
    refine t1.after hrest hsize hold hGsame (fun b hb => .inl hb) ?_ ?_ ?_
    · rintro b (hb | ⟨hb, _⟩)
      · exact Nat.lt_of_lt_of_le (t1.gin b hb) hsize
      · exact hgi b hb
    · rintro b (hb | ⟨hb, hx⟩)
      · exact .inl hb
      · right
        rintro ⟨hb1, hb2⟩
        rcases hx with hx | hx
        · have := t1.size; omega
        · exact (hio b hx).1 ⟨hb1, hb2⟩
    · intro n e b he hb
      have hlt := t1.ow_lt he hb
      have hnin : b ∉ ownsP fi.ps a.x (nesF E a.nes) := fun hx => t11 b hx n e he hb
      refine ⟨hsame b hlt hnin, ?_⟩
      rintro (hx | ⟨hx, hy⟩)
      · exact (t1.ow_ok he hb).1 hx
      · rcases hy with hy | hy
        · omega
        · exact hnin hy
  have hcfg : ∀ b, ¬ (Cfg.mk (TB := TB) w (fun b => b ∈ ownsP fi.ps a.x (nesF E a.nes)) G2).Old b → ¬ c.Old b := by
    rintro b hb hx
    refine hb ⟨Nat.lt_of_lt_of_le hx.1 t1.size, fun hy => (hio b hy).1 hx⟩
  have hps1 : PS c G'' w' (fi.rs ++ fi.os) r ms' := by
    refine PS.cfg hcfg _ ?_
    cases hall : (fi.rs ++ fi.os).all CT.good with
    | true =>
      refine PS.good ?_ _ hall hps'
      rintro b (hb | ⟨hb, _⟩)
      · exact hgg b (t3 b hb)
      · exact hb
    | false =>
      have hfrz : fi.md = .frz := by unfold FnI.md; rw [hall]
      have e12 := t4 hfrz
      have : G'' = G' := by
        funext b
        simp only [eq_iff_iff]
        refine ⟨?_, fun hb => ?_⟩
        · rintro (hb | ⟨hb, _⟩)
          · exact hgg b (t3 b hb)
          · exact hb
        · rcases hgn b hb with hx | hx
          · rw [e12] at hx; exact .inl hx
          · exact .inr ⟨hb, hx⟩
      rw [this]; exact hps'
  have hno1 : ∀ b ∈ ownsP (fi.rs ++ fi.os) r ms', NoOwn E (updL L a.ups) b := by
    intro b hb n e he heb
    have h1 := (PS.owns _ hps' hb).1
    have hlt := t1.ow_lt he heb
    exact h1 ⟨hlt, fun hx => t11 b hx n e he heb⟩
  obtain ⟨hsp1, hsp2⟩ := PS.split (c := c) (G := G'') (w := w') fi.rs fi.os r ms'
  obtain ⟨hpsr, hpso⟩ := hsp1.1 hps1
  rw [hsp2] at hnd' hno1
  have hnd2 := List.nodup_append.1 hnd'
  -- results
  obtain ⟨a1, a2, a3⟩ := Holds.addComps fi.rs (HT.left fi.rs fi.os r) (n := base) (ms := ms') hafter (fun j hj => hnew1 j (by omega)) hpsr hnd2.1 (fun b hb => hno1 b (List.mem_append.2 (.inl hb)))
  have hal1 : ∀ k, Al (updL L a.ups) k → Al (updL (updL L a.ups) (outsUps fi.rs (HT.left fi.rs fi.os r) base)) k ∧ (E.put base (cnts fi.rs) ms').nm k = E.nm k := by
    intro k hk
    by_cases hkb : base ≤ k ∧ k < base + cnts fi.rs
    · exfalso
      have := hnew1 (k - base) (by omega)
      have e : base + (k - base) = k := by omega
      rw [e] at this
      exact not_al this hk
    · obtain ⟨f, hf1, hf2⟩ := hk
      exact ⟨⟨f, by rw [(a2 k).2 hkb]; exact hf1, hf2⟩, Env.put_out _ _ _ _ (by omega)⟩
  -- boxes
  have s2 := bkNames_spec E _ _ hbk
  simp only [okA, Bool.and_eq_true, decide_eq_true_eq] at hok
  have hdead : ∀ i ∈ is, look (updL (updL L a.ups) (outsUps fi.rs (HT.left fi.rs fi.os r) base)) i = some .dead ∧ ¬ (base ≤ i ∧ i < base + cnts fi.rs) := by
    intro i hi
    have hd := t8 i (hison i hi)
    have hb : ¬ (base ≤ i ∧ i < base + cnts fi.rs) := by
      intro hx
      have := hnew1 (i - base) (by omega)
      have e : base + (i - base) = i := by omega
      rw [e, hd] at this; cases this
    exact ⟨by rw [(a2 i).2 hb]; exact hd, hb⟩
  have shift : ∀ (cs : List CT) (a b : Nat), (osPos cs (a + b)) = (osPos cs b).map (fun k => a + k) := by
    intro cs
    induction cs with
    | nil => intros; rfl
    | cons e s ihs =>
      intro a b
      simp only [osPos]
      rw [Nat.add_assoc, ihs]
      simp
  obtain ⟨E', b1, b2, b3, b4⟩ := Holds.addBacks fi.os (HT.right fi.rs fi.os r) (n := base + cnts fi.rs) (ms := fun k => ms' (cnts fi.rs + k)) is a1 hptr hlen
    hisn
    (by
      intro j hj
      rw [(a2 _).2 (by omega), Nat.add_assoc]
      exact hnew1 _ (by omega))
    (fun i hi => (hdead i hi).1)
    (by
      have e1 : (osPos fi.os 0).map (fun k => ms' (cnts fi.rs + k)) = is.map E.nm := by
        rw [← s2, ← hpos]
        have := shift fi.os (cnts fi.rs) 0
        rw [Nat.add_zero] at this
        rw [this, List.map_map]; rfl
      rw [e1]
      apply List.map_congr_left
      intro i hi
      exact (Env.put_out _ _ _ _ (by have := (hdead i hi).2; omega)).symm)
    hpso hnd2.2.1
    (by
      intro b hb k f hf hfb
      by_cases hkb : base ≤ k ∧ k < base + cnts fi.rs
      · -- a result's own block
        have : b ∈ ownsP fi.rs (HT.left fi.rs fi.os r) ms' := by
          have key : ∀ (cs : List CT) (x : HT cs) {E : Env} {L : Store} {n : Nat} {ms : Nat → Nm}, Holds c G'' w' E L → (∀ j, j < cnts cs → look L (n + j) = some .rsv) → PS c G'' w' cs x ms → (ownsP cs x ms).Nodup → (∀ b ∈ ownsP cs x ms, NoOwn E L b) →
              ∀ k f b, n ≤ k ∧ k < n + cnts cs → look (updL L (outsUps cs x n)) k = some f → f.ow (E.put n (cnts cs) ms) k b → b ∈ ownsP cs x ms := by
            intro cs
            induction cs with
            | nil => intro x E L n ms _ _ _ _ _ k f b hk; simp [cnts] at hk; omega
            | cons d rr ihh =>
              intro x E L n ms hH hl hPS hND hNO k f b hk hf hfb
              have hnd3 := List.nodup_append.1 hND
              obtain ⟨c1, c2, c3, c4⟩ := hH.addComp d (HT.hd d rr x) (n := n) (ms := ms) (fun j hj => hl j (by simp [cnts]; omega)) hPS.1 hnd3.1 (fun b hb => hNO b (List.mem_append.2 (.inl hb)))
              have eu : updL L (outsUps (d :: rr) x n) = updL (updL L (outUps d (HT.hd d rr x) n)) (outsUps rr (HT.tl d rr x) (n + d.cnt)) := by
                simp only [outsUps, updL_append]
              rw [eu] at hf
              have hl2 : ∀ j, j < cnts rr → look (updL L (outUps d (HT.hd d rr x) n)) (n + d.cnt + j) = some .rsv := by
                intro j hj
                rw [(c2 _).2 (by omega), Nat.add_assoc]
                exact hl _ (by simp [cnts]; omega)
              have hno2 : ∀ b ∈ ownsP rr (HT.tl d rr x) (fun k => ms (d.cnt + k)), NoOwn (E.put n d.cnt ms) (updL L (outUps d (HT.hd d rr x) n)) b := by
                intro b hb k f hf hfb
                by_cases hk : n ≤ k ∧ k < n + d.cnt
                · exact hnd3.2.2 b (c4 k f b hk hf hfb) b hb rfl
                · rw [(c2 k).2 hk] at hf
                  rw [Ent.ow_out (by omega)] at hfb
                  exact hNO b (List.mem_append.2 (.inr hb)) k f hf hfb
              obtain ⟨d1, d2, d3⟩ := Holds.addComps rr (HT.tl d rr x) (n := n + d.cnt) (ms := fun k => ms (d.cnt + k)) c1 hl2 hPS.2 hnd3.2.1 hno2
              simp only [cnts] at hk hfb
              rw [Ent.ow_iff (m := ms (k - n)) (by
                have e : k = n + (k - n) := by omega
                conv => lhs; rw [e]
                rw [Env.put_in _ _ _ _ (by omega)]) (by
                have e : k = n + (k - n) := by omega
                conv => lhs; rw [e]
                rw [Env.put_inI _ _ _ _ (by omega)])] at hfb
              by_cases hk2 : n + d.cnt ≤ k
              · refine List.mem_append.2 (.inr (ihh (HT.tl d rr x) c1 hl2 hPS.2 hnd3.2.1 hno2 k f b ⟨hk2, by omega⟩ hf ?_))
                have e : k = n + d.cnt + (k - (n + d.cnt)) := by omega
                rw [e, Ent.ow_put (by omega)]
                have e2 : d.cnt + (k - (n + d.cnt)) = k - n := by omega
                rw [e2]; exact hfb
              · rw [(d2 k).2 (by omega)] at hf
                refine List.mem_append.2 (.inl (c4 k f b ⟨hk.1, by omega⟩ hf ?_))
                have e : k = n + (k - n) := by omega
                rw [e, Ent.ow_put (by omega)]; exact hfb
          exact key fi.rs _ hafter (fun j hj => hnew1 j (by omega)) hpsr hnd2.1 (fun b hb => hno1 b (List.mem_append.2 (.inl hb))) k f b hkb hf hfb
        exact hnd2.2.2 b this b hb rfl
      · rw [(a2 k).2 hkb] at hf
        rw [Ent.ow_out (by omega)] at hfb
        exact hno1 b (List.mem_append.2 (.inr hb)) k f hf hfb)
  have eu : updL L (a.ups ++ (outsUps fi.rs (HT.left fi.rs fi.os r) base ++ backUps fi.os (HT.right fi.rs fi.os r) (base + cnts fi.rs) is)) =
      updL (updL (updL L a.ups) (outsUps fi.rs (HT.left fi.rs fi.os r) base)) (backUps fi.os (HT.right fi.rs fi.os r) (base + cnts fi.rs) is) := by
    rw [updL_append, updL_append]
  rw [eu]
  have hnames : ∀ k, k < cnts fi.rs → E'.nm (base + k) = ms' k := by
    intro k hk
    have hal : Al (updL (updL L a.ups) (outsUps fi.rs (HT.left fi.rs fi.os r) base)) (base + k) := (a2 _).1 ⟨by omega, by omega⟩
    rw [(b2 _ hal).1, Env.put_in _ _ _ _ hk]
  refine ⟨E', ?_, ⟨G'', b1⟩, fun k hk => ?_, b3, ?_⟩
  · congr 1
    refine retSV_den (outSVs_den _ _ fun k hk => ?_)
    rw [hnames k hk]
    simp [envOf]
  · obtain ⟨q1, q2⟩ := hal1 k (t6 k hk)
    obtain ⟨q3, q4⟩ := b2 k q1
    exact ⟨q3.trans q2, q4⟩
  · refine retSV_wf (wfL_ext (fun k hk => (b2 k hk).2) (fun k hk => (b2 k hk).1) _ a3).1

/-- A pointer to a part of a box among the arguments: its place, the box, where the part begins, how many cells it has, the box's cells. -/
def findPart (lkp : Nat → Option Ent) : List CT → List SV → Nat → Option (Nat × Nat × Nat × Nat × List SV)
  | c :: r, v :: vs, p => (match c.ptr, v with
    | true, .loc i off => (match lkp i with
      | some (.box cs) => if c.t.sz < cs.length then some (p, i, off, c.t.sz, cs) else findPart lkp r vs (p + 1)
      | _ => findPart lkp r vs (p + 1))
    | _, _ => findPart lkp r vs (p + 1))
  | _, _, _ => none
theorem findPart_ok {lkp : Nat → Option Ent} : ∀ (ps : List CT) (vs : List SV) (k : Nat) {p i off n : Nat} {cs : List SV}, findPart lkp ps vs k = some (p, i, off, n, cs) →
    k ≤ p ∧ vs[p - k]? = some (.loc i off) ∧ lkp i = some (.box cs)
  | [], _, _, _, _, _, _, _, h => by simp [findPart] at h
  | _ :: _, [], _, _, _, _, _, _, h => by simp [findPart] at h
  | c :: r, v :: vs, k, p, i, off, n, cs, h => by
    have step : findPart lkp r vs (k + 1) = some (p, i, off, n, cs) → k ≤ p ∧ (v :: vs)[p - k]? = some (.loc i off) ∧ lkp i = some (.box cs) := by
      intro h'
      obtain ⟨h1, h2, h3⟩ := findPart_ok r vs (k + 1) h'
      refine ⟨by omega, ?_, h3⟩
      rw [show p - k = (p - (k + 1)) + 1 from by omega, List.getElem?_cons_succ]
      exact h2
    unfold findPart at h
    split at h
    · split at h
      · rename_i cs' hl
        split at h
        · simp only [Option.some.injEq, Prod.mk.injEq] at h
          obtain ⟨rfl, rfl, rfl, -, rfl⟩ := h
          exact ⟨Nat.le_refl _, by simp, hl⟩
        · exact step h
      · exact step h
    · exact step h
/-- The last cells that a box gets. -/
def lastBox (j : Nat) : Ups → Option (List SV) → Option (List SV)
  | [], o => o
  | (n, e) :: r, o => lastBox j r (if n = j then (match e with
    | .box cs => some cs
    | _ => none) else o)
theorem lastBox_ok (j : Nat) : ∀ (u : Ups) (L : Store) (o : Option (List SV)) {cs : List SV}, (∀ cs, o = some cs → look L j = some (.box cs)) → j < L.length → lastBox j u o = some cs → look (updL L u) j = some (.box cs)
  | [], L, o, cs, ho, _, h => ho cs h
  | (n, e) :: r, L, o, cs, ho, hj, h => by
    refine lastBox_ok j r (upd L (n, e)) _ (fun cs' h' => ?_) (by rw [upd_length]; exact hj) h
    split at h'
    · rename_i hn
      subst hn
      split at h'
      · simp only [Option.some.injEq] at h'
        subst h'
        rw [look_upd hj, if_pos rfl]
      · cases h'
    · rename_i hn
      have := ho cs' h'
      by_cases hq : n < L.length
      · rw [look_upd hq, if_neg (fun he => hn he.symm)]; exact this
      · unfold upd
        rw [List.getElem?_eq_none (by simpa using hq)]
        exact this
/-- A call; a pointer to a part of a box is a box of its own meanwhile. -/
def callP (fi : FnI) (base : Nat) (lkp : Nat → Option Ent) (args : List SV) {α : Type} (K : SV → Ups → Option α) : Option α :=
  match (match fi.sh with
    | [] => findPart lkp fi.ps args 0
    | _ => none) with
  | none => callE fi base lkp args K
  | some (p, i, off, n, cs) =>
    if off + n ≤ cs.length ∧ newOk lkp (base + (cnts fi.rs + nsls fi.os)) 1 = true then
      callE fi base (fun k => if k = i then none else if k = base + (cnts fi.rs + nsls fi.os) then some (.box ((cs.drop off).take n)) else lkp k) (args.set p (.loc (base + (cnts fi.rs + nsls fi.os)) 0)) fun v u =>
        match lastBox (base + (cnts fi.rs + nsls fi.os)) u none with
        | some cs' => if cs'.length = n then K v ([(i, .dead), (base + (cnts fi.rs + nsls fi.os), .box ((cs.drop off).take n))] ++ (u ++ [(base + (cnts fi.rs + nsls fi.os), .dead), (i, .box (splice cs off cs'))])) else none
        | none => none
    else none

end Go.V3
