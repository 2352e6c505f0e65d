/-
  Part R: what a loop or a join carries says the same.
-/
import Derived.Test.YtmcahbbelnjhiaaDoorV3Q
set_option linter.unusedVariables false
namespace Go.V3
open Go
variable {TB : Tb}

theorem entsL_facts {c : Cfg TB} {G : Nat → Prop} {w : World} : ∀ (cs : List CT) (x : HT cs) (ms : Nat → Nm), (cs.all fun d => !d.ptr) = true →
    (entsL cs x).length = cnts cs ∧ (PS c G w cs x ms → ∀ j e, (entsL cs x)[j]? = some e → EntM c G w (ms j) e) ∧ ownsP cs x ms = ownsE (entsL cs x) ms ∧ (∀ e ∈ entsL cs x, e.isRsv = false)
  | [], _, _, _ => ⟨rfl, fun _ j e h => by simp [entsL] at h, rfl, fun e h => by simp [entsL] at h⟩
  | d :: r, x, ms, hp => by
    simp only [List.all_cons, Bool.and_eq_true, Bool.not_eq_true'] at hp
    have hpn : d.pn = 0 := by simp [CT.pn, hp.1]
    have hcnt : d.cnt = d.t.nsl := by simp [CT.cnt, hpn]
    obtain ⟨i1, i2, i3, i4⟩ := entsL_facts (c := c) (G := G) (w := w) r (HT.tl d r x) (fun k => ms (d.cnt + k)) hp.2
    have hoc : ownsC d (HT.hd d r x) ms = ownsE (ents d.own d.t (HT.hd d r x)) ms := by
      unfold ownsC; rw [hp.1, hpn]; simp
    refine ⟨by simp [entsL, ents_length, i1, cnts, hcnt], fun hps j e he => ?_, ?_, ?_⟩
    · simp only [entsL] at he
      by_cases hj : j < (ents d.own d.t (HT.hd d r x)).length
      · rw [List.getElem?_append_left hj] at he
        have := hps.1.1 j e he
        rw [hpn, Nat.zero_add] at this
        exact this
      · rw [List.getElem?_append_right (by omega)] at he
        have := i2 hps.2 _ e he
        rw [ents_length] at this hj
        have e2 : d.cnt + (j - d.t.nsl) = j := by omega
        rw [e2] at this
        exact this
    · rw [hcnt] at i3
      simp only [ownsP, entsL, ownsE_append, hoc, ents_length, hcnt]
      rw [i3]
    · intro e he
      rcases List.mem_append.1 he with he | he
      · obtain ⟨j, hj, rfl⟩ := List.getElem_of_mem he
        exact ents_mem (List.getElem?_eq_getElem hj)
      · exact i4 e he

theorem ownsE_inj {b : Nat} : ∀ (es : List Ent) (ms : Nat → Nm), (ownsE es ms).Nodup → ∀ (j k : Nat) (e f : Ent), j < k → es[j]? = some e → es[k]? = some f → b ∈ e.ownL (ms j) → ¬ b ∈ f.ownL (ms k)
  | [], _, _, j, k, e, f, _, h, _, _ => by simp at h
  | x :: r, ms, hnd, 0, 0, e, f, hjk, _, _, _ => by omega
  | x :: r, ms, hnd, j + 1, 0, e, f, hjk, _, _, _ => by omega
  | x :: r, ms, hnd, 0, k + 1, e, f, _, h1, h2, hb => by
    simp only [List.getElem?_cons_zero, Option.some.injEq] at h1; subst h1
    simp only [List.getElem?_cons_succ] at h2
    intro hf
    have := List.nodup_append.1 hnd
    exact this.2.2 b hb b (ownsE_mem r k (fun k => ms (k + 1)) h2 hf) rfl
  | x :: r, ms, hnd, j + 1, k + 1, e, f, hjk, h1, h2, hb => by
    simp only [List.getElem?_cons_succ] at h1 h2
    exact ownsE_inj r (fun k => ms (k + 1)) (List.nodup_append.1 hnd).2.1 j k e f (by omega) h1 h2 hb

theorem nameFrom_fst (n : Nat) (es : List Ent) : (nameFrom n es).map (·.1) = (List.range es.length).map (fun k => n + k) := by
  induction es generalizing n with
  | nil => rfl
  | cons e r ih =>
    simp only [nameFrom, List.map_cons, ih, List.length_cons, List.range_succ_eq_map, List.map_map, Nat.add_zero, List.cons.injEq, true_and]
    apply List.map_congr_left
    intro k _
    simp; omega
theorem nameFrom_mem {n : Nat} {es : List Ent} {q : Nat × Ent} (h : q ∈ nameFrom n es) : ∃ j, q.1 = n + j ∧ es[j]? = some q.2 := by
  induction es generalizing n with
  | nil => cases h
  | cons e r ih =>
    rcases List.mem_cons.1 h with rfl | h
    · exact ⟨0, rfl, rfl⟩
    · obtain ⟨j, h1, h2⟩ := ih h
      exact ⟨j + 1, by rw [h1]; omega, by simpa using h2⟩
theorem outSVs_length : ∀ (cs : List CT) (x : HT cs) (n : Nat), (outSVs cs x n).length = cs.length
  | [], _, _ => rfl
  | d :: r, x, n => by simp [outSVs, outSVs_length r]
theorem boxUps_fst : ∀ (bs : List (Nat × CT)) (vs : List SV), vs.length = bs.length → (boxUps bs vs).map (·.1) = bs.map (·.1)
  | [], [], _ => rfl
  | [], _ :: _, h => by simp at h
  | _ :: _, [], h => by simp at h
  | (n, c) :: r, v :: vs, h => by simp only [boxUps, List.map_cons]; rw [boxUps_fst r vs (by simpa using h)]
theorem rowUps_fst : ∀ (rows : List (Nat × Ty)) (x : HT (rows.map fun q => rowCT q.2)), (rowUps rows x).map (·.1) = rows.map (·.1)
  | [], _ => rfl
  | (n, a) :: r, x => by simp only [rowUps, List.map_cons]; rw [rowUps_fst r]
theorem hdUps_fst (ann : Ann) (s : ann.T) (hp : (ann.csA.all fun d => !d.ptr) = true) : (hdUps ann s).map (·.1) = ann.sets := by
  unfold hdUps Ann.sets
  have hl : ((ann.svs s).drop ann.live.length).length = ann.boxes.length := by
    unfold Ann.svs
    rw [List.length_drop, outSVs_length]
    simp [Ann.csA]
  obtain ⟨e1, _⟩ := entsL_facts (c := (⟨default, fun _ => False, fun _ => False⟩ : Cfg [])) (G := fun _ => False) (w := default) ann.csA (HT.left ann.csA ann.csR s) (fun _ => ⟨0, 0, true, 0, 0, none⟩) hp
  have h1 : (ann.lost.map (fun n => (n, Ent.dead))).map (·.1) = ann.lost := by simp [Function.comp_def]
  have h2 := rowUps_fst ann.rows (HT.right ann.csA ann.csR s)
  rw [List.map_append, List.map_append, List.map_append, h1, nameFrom_fst, e1, boxUps_fst _ _ hl, List.append_assoc, List.append_assoc]
  congr 3

theorem look_updL_nodup : ∀ (u : Ups) (L : Store), (u.map (·.1)).Nodup → (∀ n ∈ u.map (·.1), n < L.length) → ∀ q ∈ u, look (updL L u) q.1 = some q.2
  | [], _, _, _, q, h => by cases h
  | p :: r, L, hnd, hlt, q, hq => by
    simp only [List.map_cons, List.nodup_cons] at hnd
    rcases List.mem_cons.1 hq with rfl | hq
    · show look (updL (upd L q) r) q.1 = _
      rw [(look_updL_out hnd.1).1, look_upd (hlt _ (by simp)), if_pos rfl]
    · exact look_updL_nodup r (upd L p) hnd.2 (fun n hn => by rw [upd_length]; exact hlt n (by simp [hn])) q hq

theorem outSVs_wf : ∀ (cs : List CT) (x : HT cs) (n : Nat) {E : Env} {L : Store}, (cs.all fun d => !d.ptr) = true → (∀ k, k < cnts cs → Al L (n + k)) → wfL E L (outSVs cs x n)
  | [], _, _, _, _, _, _ => trivial
  | d :: r, x, n, E, L, hp, h => by
    simp only [List.all_cons, Bool.and_eq_true, Bool.not_eq_true'] at hp
    have hcnt : d.cnt = d.t.nsl := by simp [CT.cnt, CT.pn, hp.1]
    refine ⟨?_, outSVs_wf r _ _ hp.2 fun k hk => by rw [Nat.add_assoc]; exact h _ (by simp [cnts]; omega)⟩
    have hu : wfL E L (unp d.t (HT.hd d r x) n) := unp_wf _ _ _ fun j hj => h j (by simp [cnts, hcnt]; omega)
    unfold outSV
    rw [hp.1]
    cases d.agg with
    | true => exact hu
    | false =>
      show SV.wf _ _ ((unp d.t (HT.hd d r x) n).headD undefV)
      cases hx : unp d.t (HT.hd d r x) n with
      | nil => trivial
      | cons v r => rw [hx] at hu; exact hu.1

theorem unp_noagg (t : Ty) (x : t.T) (n : Nat) : ∀ v ∈ unp t x n, cellsV v = [v] := by
  induction t generalizing n with
  | pair a b iha ihb =>
    intro v hv
    rcases List.mem_append.1 hv with hv | hv
    · exact iha _ _ v hv
    · exact ihb _ _ v hv
  | _ => intro v hv; simp only [unp, List.mem_singleton] at hv; subst hv; rfl

theorem outSVs_get : ∀ (cs : List CT) (x : HT cs) (n k : Nat) (v : SV), (outSVs cs x n)[k]? = some v → ∃ (d : CT) (y : d.t.T) (m : Nat), cs[k]? = some d ∧ v = outSV d y m ∧ n ≤ m ∧ m + d.cnt ≤ n + cnts cs
  | [], _, _, _, _, h => by simp [outSVs] at h
  | d :: r, x, n, 0, v, h => by
    simp only [outSVs, List.getElem?_cons_zero, Option.some.injEq] at h
    exact ⟨d, _, n, rfl, h.symm, Nat.le_refl _, by simp [cnts]⟩
  | d :: r, x, n, k + 1, v, h => by
    simp only [outSVs, List.getElem?_cons_succ] at h
    obtain ⟨d', y, m, h1, h2, h3, h4⟩ := outSVs_get r _ _ k v h
    exact ⟨d', y, m, by simpa using h1, h2, by omega, by simp only [cnts]; omega⟩

theorem setAll_length (fr : List SV) (l : List (Nat × SV)) : (setAll fr l).length = fr.length := by
  induction l generalizing fr with
  | nil => rfl
  | cons q r ih => obtain ⟨t, v⟩ := q; simp [setAll, ih]
theorem setAll_out (fr : List SV) (l : List (Nat × SV)) (t : Nat) (h : ∀ q ∈ l, q.1 ≠ t) : (setAll fr l).getD t undefV = fr.getD t undefV := by
  induction l generalizing fr with
  | nil => rfl
  | cons q r ih =>
    obtain ⟨k, v⟩ := q
    simp only [setAll]
    rw [ih _ (fun q hq => h q (by simp [hq])), getD_set, if_neg]
    rintro ⟨rfl, _⟩
    exact h (k, v) (by simp) rfl
theorem setAll_in (fr : List SV) (l : List (Nat × SV)) (hnd : (l.map (·.1)).Nodup) {t : Nat} {v : SV} (h : (t, v) ∈ l) (ht : t < fr.length) : (setAll fr l).getD t undefV = v := by
  induction l generalizing fr with
  | nil => cases h
  | cons q r ih =>
    obtain ⟨k, u⟩ := q
    simp only [List.map_cons, List.nodup_cons] at hnd
    simp only [setAll]
    rcases List.mem_cons.1 h with he | h
    · cases he
      rw [setAll_out _ _ _ (fun q hq he => hnd.1 (List.mem_map.2 ⟨q, hq, he⟩)), getD_set, if_pos ⟨rfl, ht⟩]
    · exact ih _ hnd.2 h (by simpa using ht)

theorem boxCells_get {lkp : Nat → Option Ent} : ∀ (bs : List (Nat × CT)) (l : List SV), boxCells lkp bs = some l → l.length = bs.length ∧ ∀ (j n : Nat) (c : CT), bs[j]? = some (n, c) → ∃ cs, lkp n = some (.box cs) ∧ ((c.agg = true ∧ l[j]? = some (.agg cs)) ∨ (c.agg = false ∧ ∃ v, cs = [v] ∧ l[j]? = some v))
  | [], l, h => by simp only [boxCells, Option.some.injEq] at h; subst h; exact ⟨rfl, fun j n c h => by simp at h⟩
  | (n, c) :: r, l, h => by
    simp only [boxCells] at h
    split at h
    rotate_left
    · cases h
    rename_i cs hl
    split at h
    rotate_left
    · cases h
    rename_i l' hl'
    obtain ⟨i1, i2⟩ := boxCells_get r l' hl'
    split at h
    · rename_i ha
      simp only [Option.some.injEq] at h; subst h
      refine ⟨by simp [i1], fun j n' c' hj => ?_⟩
      cases j with
      | zero => simp only [List.getElem?_cons_zero, Option.some.injEq, Prod.mk.injEq] at hj; obtain ⟨rfl, rfl⟩ := hj; exact ⟨cs, hl, .inl ⟨ha, rfl⟩⟩
      | succ j => exact i2 j n' c' (by simpa using hj)
    · rename_i ha
      split at h
      rotate_left
      · cases h
      rename_i v
      simp only [Option.some.injEq] at h; subst h
      refine ⟨by simp [i1], fun j n' c' hj => ?_⟩
      cases j with
      | zero => simp only [List.getElem?_cons_zero, Option.some.injEq, Prod.mk.injEq] at hj; obtain ⟨rfl, rfl⟩ := hj; exact ⟨[v], hl, .inr ⟨ha, v, rfl, rfl⟩⟩
      | succ j => exact i2 j n' c' (by simpa using hj)

theorem boxUps_mem : ∀ (bs : List (Nat × CT)) (vs : List SV) (q : Nat × Ent), q ∈ boxUps bs vs → ∃ (j : Nat) (c : CT) (v : SV), bs[j]? = some (q.1, c) ∧ vs[j]? = some v ∧ q.2 = .box (cellsV v)
  | [], _, _, h => by simp [boxUps] at h
  | _ :: _, [], _, h => by simp [boxUps] at h
  | (n, c) :: r, v :: vs, q, h => by
    simp only [boxUps] at h
    rcases List.mem_cons.1 h with rfl | h
    · exact ⟨0, c, v, rfl, rfl, rfl⟩
    · obtain ⟨j, c', v', h1, h2, h3⟩ := boxUps_mem r vs q h
      exact ⟨j + 1, c', v', by simpa using h1, by simpa using h2, h3⟩
theorem rowUps_mem {lkp : Nat → Option Ent} : ∀ (rows : List (Nat × Ty)) (y : HT (rows.map fun q => rowCT q.2)), packR lkp rows = some y → ∀ q ∈ rowUps rows y, ∃ (a : Ty) (xs : List a.T), lkp q.1 = some (ownEnt a xs) ∧ q.2 = ownEnt a xs
  | [], _, _, q, h => by simp [rowUps] at h
  | (n, a) :: r, y, hp, q, h => by
    have key : ∃ (xs : List a.T) (y' : HT (r.map fun q => rowCT q.2)), lkp n = some (ownEnt a xs) ∧ packR lkp r = some y' ∧ y = HT.mk (rowCT a) (r.map fun q => rowCT q.2) xs y' := by
      simp only [packR] at hp
      split at hp
      · rename_i t xs hl
        split at hp
        rotate_left
        · cases hp
        rename_i ht
        subst ht
        split at hp
        · cases hp
        rename_i hsl
        split at hp
        rotate_left
        · cases hp
        rename_i y' hy'
        simp only [Option.some.injEq] at hp
        exact ⟨xs, y', by rw [ownEnt_flat (by simpa using hsl)]; exact hl, hy', hp.symm⟩
      · rename_i t xss hl
        split at hp
        rotate_left
        · cases hp
        rename_i ht
        subst ht
        split at hp
        rotate_left
        · cases hp
        rename_i y' hy'
        simp only [Option.some.injEq] at hp
        exact ⟨xss, y', hl, hy', hp.symm⟩
      · rename_i xs hl
        split at hp
        rotate_left
        · cases hp
        rename_i ht
        subst ht
        split at hp
        rotate_left
        · cases hp
        rename_i y' hy'
        simp only [Option.some.injEq] at hp
        exact ⟨xs, y', hl, hy', hp.symm⟩
      · cases hp
    obtain ⟨xs, y', hl, hy', rfl⟩ := key
    simp only [rowUps] at h
    rcases List.mem_cons.1 h with rfl | h
    · refine ⟨a, xs, hl, ?_⟩
      exact congrArg (ownEnt a) (HT.hd_mk (rowCT a) (r.map fun q => rowCT q.2) xs y')
    · refine rowUps_mem r y' hy' q ?_
      have e : HT.tl (rowCT a) (r.map fun q => rowCT q.2) (HT.mk (rowCT a) (r.map fun q => rowCT q.2) xs y') = y' := HT.tl_mk _ _ _ _
      rw [e] at h; exact h

theorem same_of_ver {L L' : Store} (h : LExt L L') {n : Nat} {e : Ent} (he : look L n = some e) (hv : ver L n = ver L' n) : look L' n = some e := by
  have hlt := look_lt he
  have hlt' : n < L'.length := by rw [h.1]; exact hlt
  have e1 : L[n]? = some (L[n].1, L[n].2) := List.getElem?_eq_getElem hlt
  have e2 : L'[n]? = some (L'[n].1, L'[n].2) := List.getElem?_eq_getElem hlt'
  have hve : L'[n].1 = L[n].1 := by
    unfold ver at hv
    rw [e1, e2] at hv
    exact hv.symm
  have hfe := (h.2 n _ _ _ _ e1 e2).2 hve
  unfold look at he ⊢
  rw [e1] at he
  rw [e2]
  simp only [hfe]
  exact he

set_option maxHeartbeats 1000000 in
/-- A state that is left is the state that is set, at what was taken out of it. -/
theorem reabs {ann : Ann} {W : List Nat} (hwr : wrOk ann W = true) {c : Cfg TB} {w0 : World} {E : Env} {fr : List SV} {L : Store} {G0 : Nat → Prop} (hH0 : Holds c G0 w0 E L) (hF0 : FrWf E L fr)
    {E' : Env} {fr' : List SV} {L' : Store} {a : Act} {w : World} (hst : St c E' fr' L' a w) (hext : Ext W E fr L E' fr' L') {s : ann.T} (hp : packSt ann L fr' L' = some s) :
    ∃ E2, St c E2 (hdFr ann fr s) (updL L (hdUps ann s)) a w ∧ Ext W E fr L E2 (hdFr ann fr s) (updL L (hdUps ann s)) := by
  unfold packSt at hp
  split at hp
  · cases hp
  rename_i bs hbs
  split at hp
  · cases hp
  rename_i tk htk
  split at hp
  · cases hp
  rename_i y hy
  split at hp
  rotate_left
  · cases hp
  rename_i hck
  simp only [Option.some.injEq] at hp
  simp only [Bool.and_eq_true] at hck
  obtain ⟨⟨hokA, hokS⟩, hnu⟩ := hck
  simp only [okSt, Bool.and_eq_true, decide_eq_true_eq] at hokS
  obtain ⟨⟨⟨⟨⟨o1, o2⟩, o3⟩, o4⟩, o5⟩, o6⟩ := hokS
  simp only [wrOk, Bool.and_eq_true, decide_eq_true_eq] at hwr
  obtain ⟨⟨⟨wr1, wr2⟩, wr3⟩, wr4⟩ := hwr
  have hleft : HT.left ann.csA ann.csR s = tk.x := by rw [← hp]; exact HT.left_app _ _ _ _
  have hright : HT.right ann.csA ann.csR s = y := by rw [← hp]; exact HT.right_app _ _ _ _
  obtain ⟨G, hG⟩ := hst.hd
  -- what is taken out
  have hsvwf : wfL E' L' (ann.live.map (fun q => fr'.getD q.1 undefV) ++ bs) := by
    refine wfL_mem.2 fun v hv => ?_
    rcases List.mem_append.1 hv with hv | hv
    · obtain ⟨q, hq, rfl⟩ := List.mem_map.1 hv
      rcases hst.wf q.1 with h | h
      · exact h
      · have := List.all_eq_true.1 hnu q hq
        rw [h] at this; simp [isUnk] at this
    · obtain ⟨j, hj, rfl⟩ := List.getElem_of_mem hv
      obtain ⟨b1, b2⟩ := boxCells_get _ _ hbs
      have hjb : j < ann.boxes.length := by omega
      obtain ⟨cs, h1, h2⟩ := b2 j _ _ (List.getElem?_eq_getElem hjb)
      have hwc := (hG.ent _ _ h1).2.2.2.2.2
      rcases h2 with ⟨_, h3⟩ | ⟨_, v, rfl, h3⟩
      · rw [List.getElem?_eq_getElem hj] at h3; simp only [Option.some.injEq] at h3; rw [h3]; exact hwc
      · rw [List.getElem?_eq_getElem hj] at h3; simp only [Option.some.injEq] at h3; rw [h3]; exact hwc.1
  obtain ⟨G1, G2, t1, t2, t3, t4, t5, t6, t7, t8, t9, t10, t11⟩ := hG.take (md := .frz) (by simp) (fun n e h => h) htk hokA hsvwf
  have h21 := t4 rfl
  rw [h21] at t9
  obtain ⟨hlenn, hden⟩ := packA_den E' _ _ _ htk
  obtain ⟨f1, f2, f3, f4⟩ := entsL_facts (c := c) (G := G1) (w := w) ann.csA tk.x (nesF E' tk.nes) o6
  have f2 := f2 t9
  rw [f3] at t10 t11
  -- the new environment
  let E2 : Env := { nm := fun n => if ann.base ≤ n ∧ n < ann.base + cnts ann.csA then nesF E' tk.nes (n - ann.base) else E'.nm n, ds := fun t => if t ∈ ann.dead then (fr'.getD t undefV).den E' else E'.ds t, ins := ⟨fun n => if ann.base ≤ n ∧ n < ann.base + cnts ann.csA then (nesF E' tk.nes (n - ann.base)).ins.l else E'.ins.l n⟩ }
  have hhead : ∀ n, (ann.base ≤ n ∧ n < ann.base + cnts ann.csA) → look L n = some .rsv := by
    intro n hn
    have := List.all_eq_true.1 o2 (n - ann.base) (List.mem_range.2 (by omega))
    have e : ann.base + (n - ann.base) = n := by omega
    rw [e] at this
    unfold isRsv at this
    split at this
    · assumption
    · cases this
  have hnoth : ∀ n, Al L n → ¬ (ann.base ≤ n ∧ n < ann.base + cnts ann.csA) := fun n hn hx => not_al (hhead n hx) hn
  have hE2' : ∀ n, Al L n → E2.nm n = E'.nm n := fun n hn => if_neg (hnoth n hn)
  have hE2 : ∀ n, Al L n → E2.nm n = E.nm n := fun n hn => (hE2' n hn).trans (hext.nm n hn).1
  have hE2h : ∀ j, j < cnts ann.csA → E2.nm (ann.base + j) = nesF E' tk.nes j := by
    intro j hj
    show (if _ then _ else _) = _
    rw [if_pos ⟨by omega, by omega⟩]
    congr 1; omega
  have hI2' : ∀ n, Al L n → E2.ins.l n = E'.ins.l n := fun n hn => if_neg (hnoth n hn)
  have hI2h : ∀ j, j < cnts ann.csA → E2.ins.l (ann.base + j) = (nesF E' tk.nes j).ins.l := by
    intro j hj
    show (if _ then _ else _) = _
    rw [if_pos ⟨by omega, by omega⟩]
    congr 3; omega
  have hinuse : ∀ n, n ∈ ann.boxes.map (·.1) ++ ann.rows.map (·.1) ++ ann.lost → Al L n := by
    intro n hn
    have := List.all_eq_true.1 o3 n hn
    unfold inUse at this
    split at this
    · rename_i e he; exact ⟨e, he, by simpa using this⟩
    · cases this
  have hfst := hdUps_fst ann s o6
  have hltL : ∀ n ∈ (hdUps ann s).map (·.1), n < L.length := by
    intro n hn
    rw [hfst] at hn
    simp only [Ann.sets, List.mem_append] at hn
    rcases hn with ((hn | hn) | hn) | hn
    · obtain ⟨e, he, _⟩ := hinuse n (by simp only [List.mem_append]; exact .inr hn); exact look_lt he
    · obtain ⟨k, hk, rfl⟩ := List.mem_map.1 hn
      exact look_lt (hhead _ ⟨by omega, by have := List.mem_range.1 hk; omega⟩)
    · obtain ⟨e, he, _⟩ := hinuse n (by simp only [List.mem_append]; exact .inl (.inl hn)); exact look_lt he
    · obtain ⟨e, he, _⟩ := hinuse n (by simp only [List.mem_append]; exact .inl (.inr hn)); exact look_lt he
  have hlin := look_updL_nodup (hdUps ann s) L (by rw [hfst]; exact o1) hltL
  have hlout : ∀ n, n ∉ ann.sets → look (updL L (hdUps ann s)) n = look L n := fun n hn => (look_updL_out (by rw [hfst]; exact hn)).1
  -- kinds of what is set
  have hkind : ∀ q ∈ hdUps ann s, (q.2 = .dead ∧ q.1 ∈ ann.lost) ∨ (∃ j, q.1 = ann.base + j ∧ (entsL ann.csA tk.x)[j]? = some q.2) ∨
      (∃ (j : Nat) (d : CT) (v : SV), ann.boxes[j]? = some (q.1, d) ∧ (outSVs ann.csA tk.x ann.base)[ann.live.length + j]? = some v ∧ q.2 = .box (cellsV v)) ∨ (∃ (a : Ty) (xs : List a.T), look L' q.1 = some (ownEnt a xs) ∧ q.2 = ownEnt a xs ∧ q.1 ∈ ann.rows.map (·.1)) := by
    intro q hq
    simp only [hdUps, List.mem_append] at hq
    rcases hq with hq | hq | hq | hq
    · obtain ⟨n, hn, rfl⟩ := List.mem_map.1 hq; exact .inl ⟨rfl, hn⟩
    · rw [hleft] at hq; exact .inr (.inl (nameFrom_mem hq))
    · obtain ⟨j, d, v, h1, h2, h3⟩ := boxUps_mem _ _ _ hq
      refine .inr (.inr (.inl ⟨j, d, v, h1, ?_, h3⟩))
      rw [List.getElem?_drop] at h2
      unfold Ann.svs at h2
      rw [hleft] at h2
      exact h2
    · refine .inr (.inr (.inr ?_))
      have hq' := hq
      rw [hright] at hq
      obtain ⟨a, xs, h1, h2⟩ := rowUps_mem _ _ hy q hq
      refine ⟨a, xs, h1, h2, ?_⟩
      rw [← rowUps_fst ann.rows (HT.right ann.csA ann.csR s)]
      exact List.mem_map.2 ⟨q, hq', rfl⟩
  have hal : ∀ n, Al L n → Al (updL L (hdUps ann s)) n := by
    intro n hn
    by_cases hns : n ∈ ann.sets
    · rw [← hfst] at hns
      obtain ⟨q, hq, rfl⟩ := List.mem_map.1 hns
      refine ⟨q.2, hlin q hq, ?_⟩
      rcases hkind q hq with ⟨h, _⟩ | ⟨j, _, h⟩ | ⟨_, _, _, _, _, h⟩ | ⟨_, _, _, h, _⟩
      · rw [h]; rfl
      · exact f4 _ (List.mem_of_getElem? h)
      · rw [h]; rfl
      · rw [h]; exact ownEnt_rsv _ _
    · obtain ⟨e, he1, he2⟩ := hn
      exact ⟨e, by rw [hlout n hns]; exact he1, he2⟩
  have halh : ∀ k, k < cnts ann.csA → Al (updL L (hdUps ann s)) (ann.base + k) := by
    intro k hk
    have hlt : k < (entsL ann.csA tk.x).length := by rw [f1]; exact hk
    have hq : (ann.base + k, (entsL ann.csA tk.x)[k]) ∈ hdUps ann s := by
      simp only [hdUps, List.mem_append]
      refine .inr (.inl ?_)
      rw [hleft]
      have key : ∀ (es : List Ent) (n k : Nat) (h : k < es.length), (n + k, es[k]) ∈ nameFrom n es := by
        intro es
        induction es with
        | nil => intro n k h; simp at h
        | cons e r ih =>
          intro n k h
          cases k with
          | zero => simp [nameFrom]
          | succ k =>
            simp only [nameFrom, List.getElem_cons_succ]
            have := ih (n + 1) k (by simpa using h)
            have e1 : n + 1 + k = n + (k + 1) := by omega
            rw [e1] at this
            exact List.mem_cons_of_mem _ this
      exact key _ _ _ hlt
    exact ⟨_, hlin _ hq, f4 _ (List.getElem_mem hlt)⟩
  have hkeep : ∀ n, n ∈ ann.boxes.map (·.1) ++ ann.rows.map (·.1) → look (updL L' tk.ups) n = look L' n := by
    intro n hn
    have := List.all_eq_true.1 o4 n hn
    simp only [Bool.and_eq_true, Bool.not_eq_true', List.contains_eq_mem, decide_eq_false_iff_not] at this
    exact t7 n this.1 this.2
  have hwfsv : wfL E2 (updL L (hdUps ann s)) (outSVs ann.csA tk.x ann.base) := outSVs_wf _ _ _ o6 halh
  have hdeneq : denL E' (ann.live.map (fun q => fr'.getD q.1 undefV) ++ bs) = denL E2 (outSVs ann.csA tk.x ann.base) := hden E2 ann.base hE2h
  -- boxes say the same
  have hbox : ∀ (j : Nat) (n : Nat) (d : CT) (v : SV), ann.boxes[j]? = some (n, d) → (outSVs ann.csA tk.x ann.base)[ann.live.length + j]? = some v →
      ∃ cs, look L' n = some (.box cs) ∧ denL E2 (cellsV v) = denL E' cs ∧ wfL E2 (updL L (hdUps ann s)) (cellsV v) := by
    intro j n d v hj hv
    obtain ⟨b1, b2⟩ := boxCells_get _ _ hbs
    obtain ⟨cs, h1, h2⟩ := b2 j n d hj
    have hvw : v.wf E2 (updL L (hdUps ann s)) := wfL_mem.1 hwfsv v (List.mem_of_getElem? hv)
    refine ⟨cs, h1, ?_, cellsV_wf hvw⟩
    have hjl : j < bs.length := by
      rcases h2 with ⟨_, h3⟩ | ⟨_, _, _, h3⟩
      all_goals
        rcases Nat.lt_or_ge j bs.length with h | h
        · exact h
        · rw [List.getElem?_eq_none h] at h3; cases h3
    have hdv : v.den E2 = (bs[j]).den E' := by
      have := congrArg (fun l => l[ann.live.length + j]?) hdeneq
      simp only [denL_get?, hv, Option.map_some] at this
      rw [List.getElem?_append_right (by simp), List.length_map, Nat.add_sub_cancel_left, List.getElem?_eq_getElem hjl] at this
      simp only [Option.map_some, Option.some.injEq] at this
      exact this.symm
    obtain ⟨d', z, m, g1, g2, _, _⟩ := outSVs_get _ _ _ _ _ hv
    have hd' : d' = d := by
      have : ann.csA[ann.live.length + j]? = some d := by
        unfold Ann.csA
        rw [List.getElem?_append_right (by simp), List.length_map, Nat.add_sub_cancel_left, List.getElem?_map, hj]; rfl
      rw [this] at g1; simp only [Option.some.injEq] at g1; exact g1.symm
    subst hd'
    have hptr : d'.ptr = false := by
      have := List.all_eq_true.1 o6 d' (List.mem_of_getElem? g1)
      simpa using this
    rcases h2 with ⟨ha, h3⟩ | ⟨ha, u, rfl, h3⟩
    · rw [List.getElem?_eq_getElem hjl] at h3
      simp only [Option.some.injEq] at h3
      rw [h3, g2] at hdv
      rw [g2]
      unfold outSV at hdv ⊢
      rw [hptr, ha] at hdv ⊢
      simp only [SV.den, Value.agg.injEq] at hdv
      have := congrArg Array.toList hdv
      simpa [cellsV] using this
    · rw [List.getElem?_eq_getElem hjl] at h3
      simp only [Option.some.injEq] at h3
      rw [h3] at hdv
      have hcv : cellsV v = [v] := by
        rw [g2]
        unfold outSV
        rw [hptr, ha]
        simp only
        cases hu : unp d'.t z m with
        | nil => rfl
        | cons x r => exact unp_noagg d'.t z m x (by rw [hu]; simp)
      rw [hcv]
      simp [denL, hdv]
  -- an owner is at the head, or it was an owner
  have howner : ∀ (n : Nat) (e : Ent) (b : Nat), look (updL L (hdUps ann s)) n = some e → e.ow E2 n b →
      (∃ j, n = ann.base + j ∧ (entsL ann.csA tk.x)[j]? = some e ∧ b ∈ e.ownL (nesF E' tk.nes j)) ∨ (∃ f, look (updL L' tk.ups) n = some f ∧ f.ow E' n b) := by
    intro n e b he hb
    by_cases hns : n ∈ ann.sets
    · rw [← hfst] at hns
      obtain ⟨q, hq, rfl⟩ := List.mem_map.1 hns
      have := hlin q hq
      rw [he] at this
      simp only [Option.some.injEq] at this
      subst this
      rcases hkind q hq with ⟨h, _⟩ | ⟨j, h1, h2⟩ | ⟨j, d, v, h1, h2, h3⟩ | ⟨a', xs, h1, h2, h3⟩
      · rw [h] at hb; rcases hb with hb | ⟨hb, _⟩ <;> cases hb
      · have hj : j < cnts ann.csA := by
          rcases Nat.lt_or_ge j (entsL ann.csA tk.x).length with h | h
          · rwa [f1] at h
          · rw [List.getElem?_eq_none h] at h2; cases h2
        rw [h1, Ent.ow_iff (hE2h j hj) (hI2h j hj)] at hb
        exact .inl ⟨j, h1, h2, hb⟩
      · obtain ⟨cs, k1, _, _⟩ := hbox j q.1 d v h1 h2
        have hin : q.1 ∈ ann.boxes.map (·.1) := List.mem_map.2 ⟨_, List.mem_of_getElem? h1, rfl⟩
        have hAl := hinuse q.1 (by simp only [List.mem_append]; exact .inl (.inl hin))
        rw [Ent.ow_same ⟨hE2' _ hAl, hI2' _ hAl⟩, h3, Ent.ow_flat rfl] at hb
        exact .inr ⟨.box cs, by rw [hkeep q.1 (List.mem_append.2 (.inl hin))]; exact k1, .inl hb⟩
      · have hAl := hinuse q.1 (by simp only [List.mem_append]; exact .inl (.inr h3))
        rw [Ent.ow_same ⟨hE2' _ hAl, hI2' _ hAl⟩, h2] at hb
        exact .inr ⟨ownEnt a' xs, by rw [hkeep q.1 (List.mem_append.2 (.inr h3))]; exact h1, hb⟩
    · rw [hlout n hns] at he
      have hlt := look_lt he
      have hnr : e.isRsv = false := by cases e <;> first | rfl | (rcases hb with hb | ⟨hb, _⟩ <;> cases hb)
      have hAl : Al L n := ⟨e, he, hnr⟩
      have h5 := List.all_eq_true.1 o5 n (List.mem_range.2 hlt)
      simp only [Bool.or_eq_true, Bool.and_eq_true, beq_iff_eq, Bool.not_eq_true', List.contains_eq_mem, decide_eq_false_iff_not, decide_eq_true_eq] at h5
      rcases h5 with (h5 | h5) | ⟨⟨h5, h6⟩, h7⟩
      · unfold isRsv at h5; rw [he] at h5; cases e <;> first | (cases hnr; done) | (cases h5; done)
      · exact absurd h5 hns
      · rw [Ent.ow_same ⟨hE2' _ hAl, hI2' _ hAl⟩] at hb
        right
        have hlt' : n < L'.length := by rw [hext.lext.1]; exact hlt
        have hsame : look L' n = some e := same_of_ver hext.lext he h5
        exact ⟨e, by rw [t7 n h6 h7]; exact hsame, hb⟩
  have hHolds : Holds c G1 w E2 (updL L (hdUps ann s)) := by
    refine ⟨t1.rest, t1.size, t1.old, t1.gin, t1.glo, t1.ghi, ?_, ?_, ?_, t1.tab⟩
    · intro n e he
      by_cases hns : n ∈ ann.sets
      · rw [← hfst] at hns
        obtain ⟨q, hq, rfl⟩ := List.mem_map.1 hns
        have := hlin q hq
        rw [he] at this
        simp only [Option.some.injEq] at this
        subst this
        rcases hkind q hq with ⟨h, _⟩ | ⟨j, h1, h2⟩ | ⟨j, d, v, h1, h2, h3⟩ | ⟨a', xs, h1, h2, h3⟩
        · rw [h]; trivial
        · have hj : j < cnts ann.csA := by
            rcases Nat.lt_or_ge j (entsL ann.csA tk.x).length with h | h
            · rwa [f1] at h
            · rw [List.getElem?_eq_none h] at h2; cases h2
          have hm := f2 j _ h2
          rw [h1, hE2h j hj]
          generalize q.2 = e at hm
          cases e <;> first | exact hm | exact hm.elim | trivial
        · obtain ⟨cs, k1, k2, k3⟩ := hbox j q.1 d v h1 h2
          have hin : q.1 ∈ ann.boxes.map (·.1) := List.mem_map.2 ⟨_, List.mem_of_getElem? h1, rfl⟩
          have hAl := hinuse q.1 (by simp only [List.mem_append]; exact .inl (.inl hin))
          obtain ⟨p1, p2, p3, p4, ⟨ty, p5⟩, p6⟩ := t1.ent q.1 (.box cs) (by rw [hkeep q.1 (List.mem_append.2 (.inl hin))]; exact k1)
          rw [h3, hE2' _ hAl]
          exact ⟨p1, p2, p3, p4, ⟨ty, by rw [k2]; exact p5⟩, k3⟩
        · have hAl := hinuse q.1 (by simp only [List.mem_append]; exact .inl (.inr h3))
          have := t1.ent q.1 (ownEnt a' xs) (by rw [hkeep q.1 (List.mem_append.2 (.inr h3))]; exact h1)
          rw [h2, hE2' _ hAl]
          cases a' <;> exact this
      · have he0 := he
        rw [hlout n hns] at he
        have hlt := look_lt he
        cases hr : e.isRsv with
        | true => cases e <;> first | trivial | cases hr
        | false =>
          have hAl : Al L n := ⟨e, he, hr⟩
          have h5 := List.all_eq_true.1 o5 n (List.mem_range.2 hlt)
          simp only [Bool.or_eq_true, Bool.and_eq_true, beq_iff_eq, Bool.not_eq_true', List.contains_eq_mem, decide_eq_false_iff_not, decide_eq_true_eq] at h5
          rcases h5 with (h5 | h5) | ⟨⟨h5, h6⟩, h7⟩
          · unfold isRsv at h5; rw [he] at h5; cases e <;> first | (cases hr; done) | (cases h5; done)
          · exact absurd h5 hns
          · have hlt' : n < L'.length := by rw [hext.lext.1]; exact hlt
            have hsame : look L' n = some e := same_of_ver hext.lext he h5
            have hnow := t1.ent n e (by rw [t7 n h6 h7]; exact hsame)
            have hthen := hH0.ent n e he
            rw [hE2' _ hAl]
            cases e with
            | box cs =>
              obtain ⟨p1, p2, p3, p4, ⟨ty, p5⟩, p6⟩ := hnow
              obtain ⟨x1, x2⟩ := wfL_ext hal hE2 cs hthen.2.2.2.2.2
              obtain ⟨_, x4⟩ := wfL_ext (fun n hn => (hext.nm n hn).2) (fun n hn => (hext.nm n hn).1) cs hthen.2.2.2.2.2
              exact ⟨p1, p2, p3, p4, ⟨ty, by rw [x2, ← x4]; exact p5⟩, x1⟩
            | _ => exact hnow
    · intro n t xss hq he
      by_cases hns : n ∈ ann.sets
      · rw [← hfst] at hns
        obtain ⟨q, hq', rfl⟩ := List.mem_map.1 hns
        have := hlin q hq'
        rw [he] at this
        simp only [Option.some.injEq] at this
        rcases hkind q hq' with ⟨h, _⟩ | ⟨j, h1, h2⟩ | ⟨j, d, v, h1, h2, h3⟩ | ⟨a', xs, h1, h2, h3⟩
        · rw [h] at this; cases this
        · have hj : j < cnts ann.csA := by
            rcases Nat.lt_or_ge j (entsL ann.csA tk.x).length with h | h
            · rwa [f1] at h
            · rw [List.getElem?_eq_none h] at h2; cases h2
          have hm := f2 j _ h2
          rw [← this] at hm
          obtain ⟨rfl, hm⟩ := hm
          rw [h1, hE2h j hj, hI2h j hj]
          exact hm.env ⟨rfl, rfl, rfl, rfl, rfl⟩
        · rw [h3] at this; cases this
        · have hAl := hinuse q.1 (by simp only [List.mem_append]; exact .inl (.inr h3))
          rw [h2] at this
          cases a' with
          | slice b =>
            simp only [ownEnt, Ent.deep.injEq] at this
            obtain ⟨rfl, hx, rfl⟩ := this
            cases hx
            have := t1.dp q.1 t xss none (by rw [hkeep q.1 (List.mem_append.2 (.inr h3))]; exact h1)
            rw [hE2' _ hAl, hI2' _ hAl]
            exact this.env ⟨rfl, rfl, rfl, rfl, rfl⟩
          | _ => cases this
      · rw [hlout n hns] at he
        have hlt := look_lt he
        have hAl : Al L n := ⟨_, he, rfl⟩
        have h5 := List.all_eq_true.1 o5 n (List.mem_range.2 hlt)
        simp only [Bool.or_eq_true, Bool.and_eq_true, beq_iff_eq, Bool.not_eq_true', List.contains_eq_mem, decide_eq_false_iff_not, decide_eq_true_eq] at h5
        rcases h5 with (h5 | h5) | ⟨⟨h5, h6⟩, h7⟩
        · unfold isRsv at h5; rw [he] at h5; cases h5
        · exact absurd h5 hns
        · have hsame : look L' n = some _ := same_of_ver hext.lext he h5
          have hnow := t1.dp n t xss hq (by rw [t7 n h6 h7]; exact hsame)
          have hthen := hH0.dp n t xss hq he
          rw [hE2' _ hAl, hI2' _ hAl]
          refine ⟨hnow.len, hnow.off, hnow.nd, hnow.all, ?_⟩
          rcases hnow.cs with hc | ⟨h1, h2, h3, arr, ty, hs, h4, h5, h6, h7, h8, h9⟩
          · exact .inl hc
          · refine .inr ⟨h1, h2, h3, arr, ty, hs, h4, h5, h6, h7, h8, fun k j hk hl => ?_⟩
            have hAj : Al L j := by
              rcases hthen.cs with ⟨_, hc, _⟩ | ⟨_, _, _, _, _, _, _, _, _, _, _, g9⟩
              · rw [hc] at hl; cases hl
              · exact (g9 k j hk hl).2
            exact ⟨by rw [hE2' _ hAj]; exact (h9 k j hk hl).1, hal j hAj⟩
    · intro n k e f b hnk hn hk he hf
      rcases howner n e b hn he with ⟨j, rfl, hj1, hj2⟩ | ⟨g, hg1, hg2⟩
      · rcases howner k f b hk hf with ⟨j', rfl, hj1', hj2'⟩ | ⟨g, hg1, hg2⟩
        · rcases Nat.lt_or_gt_of_ne (show j ≠ j' by omega) with hlt | hlt
          · exact ownsE_inj _ _ t10 j j' e f hlt hj1 hj1' hj2 hj2'
          · exact ownsE_inj _ _ t10 j' j f e hlt hj1' hj1 hj2' hj2
        · exact t11 b (ownsE_mem _ _ _ hj1 hj2) k g hg1 hg2
      · rcases howner k f b hk hf with ⟨j', rfl, hj1', hj2'⟩ | ⟨g', hg1', hg2'⟩
        · exact t11 b (ownsE_mem _ _ _ hj1' hj2') n g hg1 hg2
        · exact t1.inj n k g g' b hnk hg1 hg1' hg2 hg2'
  -- the frame
  rw [List.nodup_append] at wr4
  obtain ⟨nd1, nd2, nd3⟩ := wr4
  have hlenfr : (hdFr ann fr s).length = fr'.length := by unfold hdFr; rw [setAll_length, setAll_length, hext.len]
  have hzip : ((ann.live.map (·.1)).zip (ann.svs s)).map (·.1) = ann.live.map (·.1) := by
    apply List.map_fst_zip
    unfold Ann.svs
    rw [outSVs_length]
    simp [Ann.csA]
  have hslot : ∀ t, t < fr'.length → ((hdFr ann fr s).getD t undefV).den E2 = (fr'.getD t undefV).den E' ∧ (((hdFr ann fr s).getD t undefV).wf E2 (updL L (hdUps ann s)) ∨ (hdFr ann fr s).getD t undefV = .unk t) := by
    intro t ht
    have htf : t < fr.length := by rw [← hext.len]; exact ht
    by_cases hlive : t ∈ ann.live.map (·.1)
    · obtain ⟨j, hj, hjt⟩ := List.getElem_of_mem hlive
      have hjl : j < ann.live.length := by simpa using hj
      have hjs : j < (outSVs ann.csA tk.x ann.base).length := by rw [outSVs_length]; simp [Ann.csA]; omega
      have hjs' : j < (ann.svs s).length := by unfold Ann.svs; rw [hleft]; exact hjs
      have hin : (t, (ann.svs s)[j]) ∈ (ann.live.map (·.1)).zip (ann.svs s) := by
        rw [← hjt]
        have : ((ann.live.map (·.1)).zip (ann.svs s))[j]'(by simp; omega) = ((ann.live.map (·.1))[j], (ann.svs s)[j]) := List.getElem_zip
        rw [← this]
        exact List.getElem_mem _
      have hget : (hdFr ann fr s).getD t undefV = (ann.svs s)[j] := setAll_in _ _ (by rw [hzip]; exact nd1) hin (by rw [setAll_length]; exact htf)
      have hsv : (ann.svs s)[j]? = (outSVs ann.csA tk.x ann.base)[j]? := by unfold Ann.svs; rw [hleft]
      rw [List.getElem?_eq_getElem hjs', List.getElem?_eq_getElem hjs] at hsv
      simp only [Option.some.injEq] at hsv
      rw [hget, hsv]
      refine ⟨?_, .inl (wfL_mem.1 hwfsv _ (List.getElem_mem hjs))⟩
      have := congrArg (fun l => l[j]?) hdeneq
      simp only [denL_get?] at this
      rw [List.getElem?_append_left (by simpa using hjl), List.getElem?_eq_getElem hjs, List.getElem?_map, List.getElem?_eq_getElem hjl] at this
      simp only [Option.map_some, Option.some.injEq] at this
      rw [← this]
      simp only [List.getElem_map] at hjt
      rw [hjt]
    · have h1 : (hdFr ann fr s).getD t undefV = (setAll fr (ann.dead.map fun t => (t, .unk t))).getD t undefV := by
        unfold hdFr
        refine setAll_out _ _ _ fun q hq he => hlive ?_
        rw [← he, ← hzip]
        exact List.mem_map.2 ⟨q, hq, rfl⟩
      by_cases hdead : t ∈ ann.dead
      · have h2 : (setAll fr (ann.dead.map fun t => (t, .unk t))).getD t undefV = .unk t :=
          setAll_in _ _ (by rw [List.map_map]; have : (ann.dead.map ((·.1) ∘ fun t => (t, SV.unk t))) = ann.dead := by simp [Function.comp_def]
                            rw [this]; exact nd2) (List.mem_map.2 ⟨t, hdead, rfl⟩) htf
        rw [h1, h2]
        exact ⟨by show (if t ∈ ann.dead then _ else _) = _; rw [if_pos hdead], .inr rfl⟩
      · have h2 : (setAll fr (ann.dead.map fun t => (t, .unk t))).getD t undefV = fr.getD t undefV := setAll_out _ _ _ fun q hq he => by
          obtain ⟨t', ht', rfl⟩ := List.mem_map.1 hq
          simp only at he; subst he
          exact hdead ht'
        have hW : t ∉ W := by
          intro hw
          have := List.all_eq_true.1 wr1 t hw
          simp only [Bool.or_eq_true, List.contains_eq_mem, decide_eq_true_eq] at this
          rcases this with h | h
          · exact hlive h
          · exact hdead h
        rw [h1, h2, hext.out t hW]
        rcases hF0 t with hwf | hunk
        · obtain ⟨x1, x2⟩ := wf_ext hal hE2 _ hwf
          obtain ⟨_, x4⟩ := wf_ext (fun n hn => (hext.nm n hn).2) (fun n hn => (hext.nm n hn).1) _ hwf
          exact ⟨x2.trans x4.symm, .inl x1⟩
        · rw [hunk]
          exact ⟨by show (if t ∈ ann.dead then _ else _) = _; rw [if_neg hdead]; rfl, .inr rfl⟩
  refine ⟨E2, ⟨⟨?_, hst.sim.2⟩, ⟨G1, hHolds⟩, ?_⟩, ?_⟩
  · rw [hst.sim.1]
    congr 1
    apply List.ext_getElem?
    intro i
    rw [denL_get?, denL_get?]
    by_cases hi : i < fr'.length
    · have := (hslot i hi).1
      have hi2 : i < (hdFr ann fr s).length := by rw [hlenfr]; exact hi
      simp only [List.getD, List.getElem?_eq_getElem hi, List.getElem?_eq_getElem hi2, Option.getD_some] at this
      rw [List.getElem?_eq_getElem hi, List.getElem?_eq_getElem hi2]
      simp [this]
    · rw [List.getElem?_eq_none (by omega), List.getElem?_eq_none (by omega)]; rfl
  · intro t
    by_cases ht : t < fr'.length
    · exact (hslot t ht).2
    · left
      have : (hdFr ann fr s).getD t undefV = undefV := by
        simp only [List.getD]
        rw [List.getElem?_eq_none (by omega)]; rfl
      rw [this]; trivial
  · refine ⟨fun n hn => ⟨hE2 n hn, hal n hn⟩, fun t ht => ?_, LExt.updL _ _, by rw [hlenfr, hext.len], fun t ht => ?_⟩
    · have hd : t ∉ ann.dead := fun hd => ht (by have := List.all_eq_true.1 wr3 t hd; simpa using this)
      show (if t ∈ ann.dead then _ else _) = _
      rw [if_neg hd]; exact hext.ds t ht
    · have hd : t ∉ ann.dead := fun hd => ht (by have := List.all_eq_true.1 wr3 t hd; simpa using this)
      have hl : t ∉ ann.live.map (·.1) := fun hd => ht (by have := List.all_eq_true.1 wr2 t hd; simpa using this)
      unfold hdFr
      rw [setAll_out _ _ _ (fun q hq he => hl (by rw [← he, ← hzip]; exact List.mem_map.2 ⟨q, hq, rfl⟩)), setAll_out _ _ _ fun q hq he => by
        obtain ⟨t', ht', rfl⟩ := List.mem_map.1 hq
        simp only at he; subst he
        exact hd ht']

end Go.V3
