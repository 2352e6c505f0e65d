/-
  Part W: slices of slices of a call's own: what is taken out, and what comes back.
-/
import Derived.Test.YtmcahbbelnjhiaaDoorV3J
set_option linter.unusedVariables false
namespace Go.V3
open Go
variable {TB : Tb}

theorem Own.inner {α : Type} {R : α → List Value → Prop} {sz : Nat} {c : Cfg TB} {G : Nat → Prop} {w : World} {m : Nm} {xs : List α} (h : Own R sz c G w m xs) : Inner R sz w m xs := by
  obtain ⟨h1, h2, h3⟩ := h
  exact ⟨h1, h2, h3.imp id fun ⟨a, _, _, d, e⟩ => ⟨a, d, e⟩⟩
/-- The blocks with one more. -/
def addB (m : Nm) (l : List Nat) : List Nat := if m.nil = true then l else m.blk :: l
theorem addB_mem {m : Nm} {l : List Nat} {b : Nat} : b ∈ addB m l ↔ b ∈ l ∨ (m.nil = false ∧ b = m.blk) := by
  unfold addB
  cases hm : m.nil with
  | true => simp
  | false => simp [or_comm]

section
variable {P : Program} {L : Store}

theorem DeepOk.put {c : Cfg TB} {G : Nat → Prop} {w w' : World} {E E' : Env} {L' : Store} {m : Nm} {l : List Nat} {t : Ty} {xss : List (List t.T)} {h : Option (Nat × Nat)} (d : DeepOk c G w E L m l t xss h)
    {k : Nat} (hh : ∀ k' j', h = some (k', j') → k' = k) (hk : k < xss.length) {nb : Nm} {ys : List t.T} (hin : Inner (Rp G w t) t.sz w nb ys)
    (hnb : nb.nil = false → nb.blk ∉ l ∧ ¬ G nb.blk ∧ ¬ c.Old nb.blk) (hw : ∀ b, b ≠ m.blk → w'.heap[b]? = w.heap[b]?)
    (harr : ∀ arr ty, m.nil = false → w.heap[m.blk]? = some (.cells arr ty (0, 0)) → k < arr.size → ∃ ty', w'.heap[m.blk]? = some (.cells (arr.setIfInBounds k (.slice nb.ad nb.len nb.cap)) ty' (0, 0))) :
    DeepOk c G w' E' L' m (addB nb l) t (xss.set k ys) none := by
  obtain ⟨d1, d2, d3, d4, d5⟩ := d
  rcases d5 with ⟨h1, h2, h3⟩ | ⟨h1, h2, h3, arr, ty, hs, h4, h5, h6, h7, h8, h9⟩
  · rw [h2] at hk; simp at hk
  obtain ⟨ty', k4⟩ := harr arr ty h1 h4 (by omega)
  have hG : ∀ b, G b → w'.heap[b]? = w.heap[b]? := fun b hb => hw b (fun he => (d4 _ h2).1 (he ▸ hb))
  have hrp : ∀ (x : t.T) (vs : List Value), Rp G w t x vs → Rp G w' t x vs := fun x vs hx => Rp.mono hG (fun _ h => h) t x vs hx
  have hne : nb.nil = false → nb.blk ≠ m.blk := fun hn he => (hnb hn).1 (he ▸ h2)
  have hnd : (addB nb l).Nodup := by
    unfold addB
    split
    · exact d3
    · rename_i hn
      exact List.nodup_cons.2 ⟨(hnb (by simpa using hn)).1, d3⟩
  have hlive : ∀ k', k' ≠ k → ∀ j, h ≠ some (k', j) := fun k' hkk j he => hkk (hh k' j he)
  refine ⟨by rw [List.length_set]; exact d1, d2, hnd, ?_, .inr ⟨h1, addB_mem.2 (.inl h2), by rw [List.length_set]; exact h3, _, ty', fun k' => if k' = k then nb else hs k', k4, by rw [Array.size_setIfInBounds]; exact h5, ?_, ?_, ?_, ?_⟩⟩
  · intro b hb
    rcases addB_mem.1 hb with hb | ⟨hn, rfl⟩
    · obtain ⟨q1, q2, q3⟩ := d4 b hb
      refine ⟨q1, q2, ?_⟩
      by_cases hbm : b = m.blk
      · subst hbm; exact ⟨_, _, _, k4⟩
      · rw [hw b hbm]; exact q3
    · obtain ⟨q1, q2, q3⟩ := hnb hn
      refine ⟨q2, q3, ?_⟩
      obtain ⟨p1, p2, p3⟩ := hin
      rcases p3 with ⟨p4, _⟩ | ⟨_, _, arr', ty'', p6, _⟩
      · rw [hn] at p4; cases p4
      · rw [hw _ (hne hn)]; exact ⟨_, _, _, p6⟩
  · intro k' hk'
    rw [List.length_set] at hk'
    dsimp only
    rw [Array.getElem?_setIfInBounds]
    by_cases hkk : k' = k
    · subst hkk
      rw [if_pos rfl, if_pos (by omega), if_pos rfl]
    · rw [if_neg (fun he => hkk he.symm), if_neg hkk]
      exact h6 k' hk'
  · intro k' xs hk' _
    rw [List.getElem?_set] at hk'
    dsimp only
    by_cases hkk : k' = k
    · subst hkk
      rw [if_pos rfl, if_pos hk] at hk'
      simp only [Option.some.injEq] at hk'; subst hk'
      rw [if_pos rfl]
      exact ⟨hin.mono hrp (fun hn => hw _ (hne hn)), fun hn => ⟨addB_mem.2 (.inr ⟨hn, rfl⟩), hne hn⟩⟩
    · rw [if_neg (fun he => hkk he.symm)] at hk'
      rw [if_neg hkk]
      obtain ⟨q1, q2⟩ := h7 k' xs hk' (hlive k' hkk)
      exact ⟨q1.mono hrp (fun hn => hw _ (q2 hn).2), fun hn => ⟨addB_mem.2 (.inl (q2 hn).1), (q2 hn).2⟩⟩
  · intro a b ha hb hab _ _ hna hnb'
    rw [List.length_set] at ha hb
    dsimp only at hna hnb' ⊢
    have key : ∀ k', k' < xss.length → k' ≠ k → (hs k').nil = false → (hs k').blk ∈ l := fun k' hk' hkk hn => ((h7 k' _ (List.getElem?_eq_getElem hk') (hlive k' hkk)).2 hn).1
    by_cases hak : a = k
    · have hbk : b ≠ k := fun he => hab (hak.trans he.symm)
      rw [if_pos hak] at hna
      rw [if_neg hbk] at hnb'
      rw [if_pos hak, if_neg hbk]
      intro he
      exact (hnb hna).1 (he ▸ key b hb hbk hnb')
    · rw [if_neg hak] at hna
      rw [if_neg hak]
      by_cases hbk : b = k
      · rw [if_pos hbk] at hnb'
        rw [if_pos hbk]
        intro he
        exact (hnb hnb').1 (he ▸ key a ha hak hna)
      · rw [if_neg hbk] at hnb'
        rw [if_neg hbk]
        exact h8 a b ha hb hab (hlive a hak) (hlive b hbk) hna hnb'
  · intro k' j he; cases he

/-- A row becomes a part of a slice of slices. -/
theorem Holds.putD {c : Cfg TB} {G : Nat → Prop} {w w' : World} {E : Env} (hH : Holds c G w E L) {i j k : Nat} {t : Ty} {xss : List (List t.T)} {ys : List t.T} {h : Option (Nat × Nat)} (hi : look L i = some (.deep t xss h)) (hj : look L j = some (.row t ys))
    (hh : ∀ k' j', h = some (k', j') → k' = k) (hk : k < xss.length) (hr : Rest w w') (hs : w'.heap.size = w.heap.size) (hw : ∀ b, b ≠ (E.nm i).blk → w'.heap[b]? = w.heap[b]?)
    (harr : ∀ arr ty, (E.nm i).nil = false → w.heap[(E.nm i).blk]? = some (.cells arr ty (0, 0)) → k < arr.size → ∃ ty', w'.heap[(E.nm i).blk]? = some (.cells (arr.setIfInBounds k (.slice (E.nm j).ad (E.nm j).len (E.nm j).cap)) ty' (0, 0))) :
    Holds c G w' (E.setD i (E.nm i) (addB (E.nm j) (E.ins.l i))) (updL L [(j, .dead), (i, .deep t (xss.set k ys) none)]) := by
  have hij : i ≠ j := by
    rintro rfl; rw [hi] at hj; cases hj
  have hkill := hH.kill (look_lt hj)
  have hlk := fun n => look_upd (q := (j, Ent.dead)) (look_lt hj) n
  have hi1 : look (upd L (j, .dead)) i = some (.deep t xss h) := by rw [hlk, if_neg hij]; exact hi
  have hd := hH.dp i t xss h hi
  have hown := hH.ent j _ hj
  have hjb : ∀ b, ((E.nm j).nil = false ∧ b = (E.nm j).blk) → (Ent.row t ys).ow E j b := by
    rintro b ⟨hn, rfl⟩
    exact .inl (by simp [Ent.own, hn])
  have hnb : (E.nm j).nil = false → (E.nm j).blk ∉ E.ins.l i ∧ ¬ G (E.nm j).blk ∧ ¬ c.Old (E.nm j).blk := by
    intro hn
    have h1 := hjb _ ⟨hn, rfl⟩
    have h2 := hH.ow_ok hj h1
    exact ⟨fun hx => hH.inj i j _ _ _ hij hi hj (Ent.ow_deep.2 hx) h1, h2.1, h2.2.1⟩
  have hdeep : DeepOk c G w' (E.setD i (E.nm i) (addB (E.nm j) (E.ins.l i))) (upd (upd L (j, .dead)) (i, .deep t (xss.set k ys) none)) (E.nm i) (addB (E.nm j) (E.ins.l i)) t (xss.set k ys) none :=
    hd.put hh hk hown.inner hnb hw harr
  have how : ∀ b, (Ent.deep t (xss.set k ys) none).ow (E.setD i (E.nm i) (addB (E.nm j) (E.ins.l i))) i b ↔ b ∈ addB (E.nm j) (E.ins.l i) := by
    intro b
    rw [Ent.ow_deep, (E.setD_eq _ _ _).2]
  have hmi : ∀ b, b < w.heap.size → b ∉ addB (E.nm j) (E.ins.l i) → w'.heap[b]? = w.heap[b]? := by
    intro b hb hn
    refine hw b (fun he => ?_)
    rcases hd.cs with ⟨h1, h2, _⟩ | ⟨_, h2, _⟩
    · rw [h2] at hk; simp at hk
    · exact hn (addB_mem.2 (.inl (he ▸ h2)))
  exact hkill.changeE (look_lt hi1) hr (by omega) (fun _ => (E.setD_eq _ _ _).1) (fun k hk => E.setD_ne _ _ hk) rfl (fun b hb hn => hmi b hb (fun hx => hn ((how b).2 hx)))
    (fun b hb => by
      rcases addB_mem.1 ((how b).1 hb) with hx | hx
      · have := hH.ow_ok hi (Ent.ow_deep.2 hx); exact ⟨this.2.1, this.1⟩
      · have := hH.ow_ok hj (hjb b hx); exact ⟨this.2.1, this.1⟩)
    (fun k f hk hf b hb he => by
      rw [hlk] at hf
      by_cases hkj : k = j
      · subst hkj
        simp only [if_true, Option.some.injEq] at hf; subst hf
        rcases hb with hb | ⟨hb, _⟩ <;> cases hb
      · rw [if_neg hkj] at hf
        rcases addB_mem.1 ((how b).1 he) with hx | hx
        · exact hH.inj k i f _ b hk hf hi hb (Ent.ow_deep.2 hx)
        · exact hH.inj k j f _ b hkj hf hj hb (hjb b hx))
    trivial
    (fun t' xs' q he => by
      cases he
      rw [(E.setD_eq _ _ _).1, (E.setD_eq _ _ _).2]
      exact hdeep)

theorem closeD_ok {lkp : Nat → Option Ent} (hlk : ∀ n e, lkp n = some e → look L n = some e) {c : Cfg TB} {G : Nat → Prop} {w : World} {E : Env} (hH : Holds c G w E L) {i : Nat} {t : Ty} {xss ys : List (List t.T)} {h : Option (Nat × Nat)} {u : Ups} (hi : lkp i = some (.deep t xss h))
    (hc : closeD lkp i t xss h = some (ys, u)) : ∃ E', Holds c G w E' (updL L u) ∧ (∀ n, E'.nm n = E.nm n) ∧ E'.ds = E.ds ∧ look (updL L u) i = some (.deep t ys none) ∧ (∀ n, Al L n → Al (updL L u) n) ∧ (∀ n, look L n = some .rsv → look (updL L u) n = some .rsv) ∧ ys.length = xss.length := by
  have hi' := hlk _ _ hi
  unfold closeD at hc
  split at hc
  · simp only [Option.some.injEq, Prod.mk.injEq] at hc
    obtain ⟨rfl, rfl⟩ := hc
    exact ⟨E, hH, fun _ => rfl, rfl, hi', fun _ h => h, fun _ h => h, rfl⟩
  · rename_i k j
    split at hc
    rotate_left
    · cases hc
    rename_i t' zs hl
    split at hc
    rotate_left
    · cases hc
    rename_i he
    subst he
    simp only [Option.some.injEq, Prod.mk.injEq] at hc
    obtain ⟨rfl, rfl⟩ := hc
    have hj := hlk _ _ hl
    have hd := hH.dp i _ xss _ hi'
    have hij : i ≠ j := by
      rintro rfl; rw [hi'] at hj; cases hj
    have fin : ∀ l' : List Nat, Holds c G w (E.setD i (E.nm i) l') (updL L [(j, .dead), (i, .deep t' (xss.set k zs) none)]) → ∃ E', Holds c G w E' (updL L [(j, .dead), (i, .deep t' (xss.set k (castL rfl zs)) none)]) ∧ (∀ n, E'.nm n = E.nm n) ∧ E'.ds = E.ds ∧ look (updL L [(j, .dead), (i, .deep t' (xss.set k (castL rfl zs)) none)]) i = some (.deep t' (xss.set k (castL rfl zs)) none) ∧ (∀ n, Al L n → Al (updL L [(j, .dead), (i, .deep t' (xss.set k (castL rfl zs)) none)]) n) ∧ (∀ n, look L n = some .rsv → look (updL L [(j, .dead), (i, .deep t' (xss.set k (castL rfl zs)) none)]) n = some .rsv) ∧ (xss.set k (castL rfl zs)).length = xss.length := by
      intro l' h1
      have hlk1 := fun n => look_upd (q := (j, Ent.dead)) (look_lt hj) n
      have hi1 : look (upd L (j, .dead)) i = some (.deep t' xss (some (k, j))) := by rw [hlk1, if_neg hij]; exact hi'
      have hlk2 := fun n => look_upd (q := (i, Ent.deep t' (xss.set k zs) none)) (look_lt hi1) n
      refine ⟨_, h1, fun n => ?_, rfl, ?_, fun n hn => ?_, fun n hn => ?_, by simp⟩
      · by_cases hn : n = i
        · subst hn; exact (E.setD_eq _ _ _).1
        · exact (E.setD_ne _ _ hn).1
      · exact (hlk2 i).trans (if_pos rfl)
      · exact al_upd rfl n (al_upd rfl n hn)
      · show look (upd (upd L (j, .dead)) _) n = _
        have h1 : n ≠ i := by rintro rfl; rw [hi'] at hn; cases hn
        have h2 : n ≠ j := by rintro rfl; rw [hj] at hn; cases hn
        exact ((hlk2 n).trans (if_neg h1)).trans (((hlk1 n).trans (if_neg h2)).trans hn)
    by_cases hk : k < xss.length
    · refine fin _ (hH.putD hi' hj (fun k' j' he => by cases he; rfl) hk (.refl _) rfl (fun _ _ => rfl) (fun arr ty hn ha hka => ⟨ty, ?_⟩))
      rcases hd.cs with ⟨h1, _⟩ | ⟨h1, h2, h3, arr', ty', hs, h4, h5, h6, h7, h8, h9⟩
      · rw [hn] at h1; cases h1
      rw [h4] at ha
      simp only [Option.some.injEq, Obj.cells.injEq] at ha
      obtain ⟨rfl, rfl, _⟩ := ha
      have hx := h6 k hk
      rw [(h9 k j rfl hk).1] at hx
      rw [h4]
      congr 2
      apply Array.ext_getElem?
      intro q
      rw [Array.getElem?_setIfInBounds]
      split
      · rename_i hq; subst hq; first | exact hx | (rw [if_pos hka]; exact hx)
      · rfl
    · -- no such place
      have hkill := hH.kill (look_lt hj)
      have hlk1 := fun n => look_upd (q := (j, Ent.dead)) (look_lt hj) n
      have hi1 : look (upd L (j, .dead)) i = some (.deep t' xss (some (k, j))) := by rw [hlk1, if_neg hij]; exact hi'
      have hset : xss.set k zs = xss := List.set_eq_of_length_le (by omega)
      refine fin (E.ins.l i) ?_
      rw [hset]
      have how : ∀ b, (Ent.deep t' xss none).ow (E.setD i (E.nm i) (E.ins.l i)) i b ↔ b ∈ E.ins.l i := fun b => by rw [Ent.ow_deep, (E.setD_eq _ _ _).2]
      refine hkill.changeE (look_lt hi1) (.refl _) (Nat.le_refl _) (fun _ => (E.setD_eq _ _ _).1) (fun k hk => E.setD_ne _ _ hk) rfl (fun _ _ _ => rfl)
        (fun b hb => by have := hH.ow_ok hi' (Ent.ow_deep.2 ((how b).1 hb)); exact ⟨this.2.1, this.1⟩)
        (fun n f hn hf b hb he => hkill.inj n i f _ b hn hf hi1 hb (Ent.ow_deep.2 ((how b).1 he))) trivial ?_
      intro t'' xs' q he
      cases he
      rw [(E.setD_eq _ _ _).1, (E.setD_eq _ _ _).2]
      obtain ⟨d1, d2, d3, d4, d5⟩ := hd
      refine ⟨d1, d2, d3, d4, d5.imp id ?_⟩
      rintro ⟨h1, h2, h3, arr', ty', hs, h4, h5, h6, h7, h8, h9⟩
      have hlive : ∀ k', k' < xss.length → ∀ j', some (k, j) ≠ some (k', j') := fun k' hk' j' he => by
        simp only [Option.some.injEq, Prod.mk.injEq] at he; omega
      refine ⟨h1, h2, h3, arr', ty', hs, h4, h5, h6, fun k' xs hk' _ => ?_, fun a b ha hb hab _ _ => h8 a b ha hb hab (hlive a ha) (hlive b hb), fun k' j' he => by cases he⟩
      have hlt : k' < xss.length := by
        rcases Nat.lt_or_ge k' xss.length with h' | h'
        · exact h'
        · rw [List.getElem?_eq_none h'] at hk'; cases hk'
      exact h7 k' xs hk' (hlive k' hlt)
/-- A slice is taken out of a slice of slices. -/
theorem Holds.takeD {c : Cfg TB} {G : Nat → Prop} {w : World} {E : Env} (hH : Holds c G w E L) {i k bs : Nat} {t : Ty} {xss : List (List t.T)} (hi : look L i = some (.deep t xss none)) (hb : look L bs = some .rsv) (hn : (E.nm i).nil = false) (hk : k < xss.length) :
    ∃ E', Holds c G w E' (updL L [(bs, .dead), (i, .deep t xss (some (k, bs))), (bs, .row t (xss.getD k []))]) ∧ (∀ n, n ≠ bs → E'.nm n = E.nm n) ∧ E'.ds = E.ds ∧
      ∃ arr ty, w.heap[(E.nm i).blk]? = some (.cells arr ty (0, 0)) ∧ arr[k]? = some (.slice (E'.nm bs).ad (E'.nm bs).len (E'.nm bs).cap) := by
  have hib : i ≠ bs := by rintro rfl; rw [hi] at hb; cases hb
  have hd := hH.dp i _ xss _ hi
  obtain ⟨d1, d2, d3, d4, d5⟩ := hd
  rcases d5 with ⟨h1, _⟩ | ⟨h1, h2, h3, arr, ty, hs, h4, h5, h6, h7, h8, h9⟩
  · rw [hn] at h1; cases h1
  have hlive : ∀ k' j, (none : Option (Nat × Nat)) ≠ some (k', j) := fun _ _ he => by cases he
  -- the name that it is to have
  have s1 := hH.change (i := bs) (e' := .dead) (m := hs k) (w' := w) (look_lt hb) (.refl _) (Nat.le_refl _) (fun hx => absurd hx (not_al hb)) rfl (fun _ _ _ => rfl) (fun b hb => by cases hb) (fun _ _ _ _ _ _ hb => by cases hb) (fun _ => trivial)
  have hl1 := fun n => look_upd (q := (bs, Ent.dead)) (look_lt hb) n
  have hi1 : look (upd L (bs, .dead)) i = some (.deep t xss none) := by rw [hl1, if_neg hib]; exact hi
  have hal1 : Al (upd L (bs, .dead)) bs := ⟨.dead, by rw [hl1, if_pos rfl], rfl⟩
  -- what is left
  let l' : List Nat := if (hs k).nil = true then E.ins.l i else (E.ins.l i).erase (hs k).blk
  have hsub : ∀ b ∈ l', b ∈ E.ins.l i := by
    intro b hb
    show b ∈ E.ins.l i
    simp only [l'] at hb
    split at hb
    · exact hb
    · exact List.mem_of_mem_erase hb
  have hkeep : ∀ b ∈ E.ins.l i, ((hs k).nil = false → b ≠ (hs k).blk) → b ∈ l' := by
    intro b hb hne
    simp only [l']
    split
    · exact hb
    · rename_i hx
      exact (List.mem_erase_of_ne (hne (by simpa using hx))).2 hb
  have hout : (hs k).nil = false → (hs k).blk ∉ l' := by
    intro hx hm
    simp only [l', hx, Bool.false_eq_true, if_false] at hm
    exact (d3.mem_erase_iff.1 hm).1 rfl
  obtain ⟨hin, hinb⟩ := h7 k _ (List.getElem?_eq_getElem hk) (hlive k)
  have hEi : (E.set bs (hs k)).nm i = E.nm i := E.set_ne _ hib
  let E2 : Env := (E.set bs (hs k)).setD i (E.nm i) l'
  have hE2 : ∀ n, n ≠ bs → E2.nm n = E.nm n := by
    intro n hnb
    by_cases hni : n = i
    · subst hni; exact (Env.setD_eq _ _ _ _).1
    · exact ((Env.setD_ne _ _ _ hni).1).trans (E.set_ne _ hnb)
  have hE2b : E2.nm bs = hs k := ((Env.setD_ne _ _ _ (fun he => hib he.symm)).1).trans (E.set_eq _ _)
  have hE2i : E2.ins.l i = l' := (Env.setD_eq _ _ _ _).2
  have hE2m : E2.nm i = E.nm i := (Env.setD_eq _ _ _ _).1
  have how : ∀ b, (Ent.deep t xss (some (k, bs))).ow E2 i b ↔ b ∈ l' := fun b => by rw [Ent.ow_deep, hE2i]
  have hdeep : DeepOk c G w E2 (upd (upd L (bs, .dead)) (i, .deep t xss (some (k, bs)))) (E2.nm i) (E2.ins.l i) t xss (some (k, bs)) := by
    rw [hE2m, hE2i]
    refine ⟨d1, d2, ?_, fun b hb => d4 b (hsub b hb), .inr ⟨h1, hkeep _ h2 (fun hx he => (hinb hx).2 he.symm), h3, arr, ty, hs, h4, h5, h6, ?_, ?_, ?_⟩⟩
    · simp only [l']
      split
      · exact d3
      · exact d3.erase _
    · intro k' xs hk' hj
      have hkk : k' ≠ k := by rintro rfl; exact hj bs rfl
      have hlt : k' < xss.length := by
        rcases Nat.lt_or_ge k' xss.length with h' | h'
        · exact h'
        · rw [List.getElem?_eq_none h'] at hk'; cases hk'
      obtain ⟨q1, q2⟩ := h7 k' xs hk' (hlive k')
      exact ⟨q1, fun hx => ⟨hkeep _ (q2 hx).1 (fun hy => h8 k' k hlt hk hkk (hlive _) (hlive _) hx hy), (q2 hx).2⟩⟩
    · intro a b ha hb hab _ _
      exact h8 a b ha hb hab (hlive _) (hlive _)
    · intro k' j he _
      simp only [Option.some.injEq, Prod.mk.injEq] at he
      obtain ⟨rfl, rfl⟩ := he
      exact ⟨hE2b.symm, al_upd rfl _ hal1⟩
  have s2 : Holds c G w E2 (upd (upd L (bs, .dead)) (i, .deep t xss (some (k, bs)))) := by
    refine s1.changeE (look_lt hi1) (.refl _) (Nat.le_refl _) (fun _ => by rw [hE2m, hEi]) (fun n hni => Env.setD_ne _ _ _ hni) rfl (fun _ _ _ => rfl)
      (fun b hb => by have := d4 b (hsub b ((how b).1 hb)); exact ⟨this.2.1, this.1⟩)
      (fun n f hni hf b hb he => s1.inj n i f _ b hni hf hi1 hb (Ent.ow_deep.2 (hsub b ((how b).1 he)))) trivial ?_
    intro t'' xs' q he
    cases he
    exact hdeep
  -- its own row
  have hl2 := fun n => look_upd (q := (i, Ent.deep t xss (some (k, bs)))) (look_lt hi1) n
  have hb2 : look (upd (upd L (bs, .dead)) (i, .deep t xss (some (k, bs)))) bs = some .dead := by rw [hl2, if_neg (fun he => hib he.symm), hl1, if_pos rfl]
  have hi2 : look (upd (upd L (bs, .dead)) (i, .deep t xss (some (k, bs)))) i = some (.deep t xss (some (k, bs))) := by rw [hl2, if_pos rfl]
  have hset : E2.set bs (hs k) = E2 := by
    refine env_ext (fun n => ?_) rfl (fun _ => rfl)
    by_cases hnb : n = bs
    · subst hnb; rw [Env.set_eq, hE2b]
    · exact Env.set_ne _ _ hnb
  have hgk : xss.getD k [] = xss[k] := by simp [List.getD, List.getElem?_eq_getElem hk]
  have s3 := s2.change (i := bs) (e' := .row t (xss.getD k [])) (m := hs k) (w' := w) (look_lt hb2) (.refl _) (Nat.le_refl _) (fun _ => hE2b.symm) rfl (fun _ _ _ => rfl)
    (fun b hb => by
      simp only [Ent.own] at hb
      split at hb
      · cases hb
      · rename_i hx
        simp only [Option.some.injEq] at hb; subst hb
        have := d4 _ (hinb (by simpa using hx)).1
        exact ⟨this.2.1, this.1⟩)
    (fun n f hnb hf b hb he => by
      simp only [Ent.own] at he
      split at he
      · cases he
      rename_i hx
      have hx : (hs k).nil = false := by simpa using hx
      simp only [Option.some.injEq] at he; subst he
      by_cases hni : n = i
      · subst hni
        rw [hi2] at hf
        simp only [Option.some.injEq] at hf; subst hf
        exact hout hx ((how _).1 hb)
      · rw [hl2, if_neg hni, hl1, if_neg hnb] at hf
        have hb' : f.ow E n (hs k).blk := by
          refine (Ent.ow_same ?_).1 hb
          exact ⟨hE2 n hnb, (Env.setD_ne _ _ _ hni).2⟩
        exact hH.inj n i f _ _ hni hf hi hb' (Ent.ow_deep.2 (hinb hx).1))
    (fun _ => by
      rw [hgk]
      obtain ⟨p1, p2, p3⟩ := hin
      refine ⟨p1, p2, p3.imp id ?_⟩
      rintro ⟨p4, p5, p6⟩
      have := d4 _ (hinb p4).1
      exact ⟨p4, this.1, this.2.1, p5, p6⟩)
  rw [hset] at s3
  exact ⟨E2, s3, hE2, rfl, arr, ty, h4, by rw [hE2b]; exact h6 k hk⟩

end

end Go.V3
