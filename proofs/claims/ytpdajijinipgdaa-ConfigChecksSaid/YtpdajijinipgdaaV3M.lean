/-
  Part M: append, parts of slices, and a whole operation.
-/
import Derived.Test.YtpdajijinipgdaaV3L
set_option linter.unusedVariables false
namespace Go.V3
open Go
variable {TB : Tb}

section
variable {P : Program} {lkp : Nat → Option Ent} {L : Store}

/-- A slice's cells can be read. -/
def Rd {α : Type} (R : α → List Value → Prop) (sz : Nat) (w : World) (m : Nm) (xs : List α) : Prop :=
  m.len = xs.length ∧ m.len ≤ m.cap ∧ (xs = [] ∨ (m.nil = false ∧ ∃ arr ty fz, w.heap[m.blk]? = some (.cells arr ty fz) ∧ RowsIn R sz arr m.off xs))
theorem rd_sub {α : Type} {R : α → List Value → Prop} {sz : Nat} {w : World} {m : Nm} {xs : List α} (h : Rd R sz w m xs) {lo n : Nat} (hl : lo + n ≤ m.len) :
    Rd R sz w (if m.cap = lo then ⟨m.blk, m.off, m.nil, n, m.cap - lo⟩ else ⟨m.blk, m.off + lo * sz, m.nil, n, m.cap - lo⟩) (subl xs lo n) := by
  obtain ⟨h1, h0, h2⟩ := h
  have hs : Shr R sz (fun _ => True) w m xs := ⟨h1, h0, h2.imp id fun ⟨a, b⟩ => ⟨a, trivial, b⟩⟩
  obtain ⟨k1, k0, k2⟩ := shr_sub hs hl
  exact ⟨k1, k0, k2.imp id fun ⟨a, _, b⟩ => ⟨a, b⟩⟩
theorem own_rd {α : Type} {R : α → List Value → Prop} {sz : Nat} {c : Cfg TB} {G : Nat → Prop} {w : World} {m : Nm} {xs : List α} (h : Own R sz c G w m xs) : Rd R sz w m xs := by
  have hc := own_cap h
  obtain ⟨h1, h2, h3⟩ := h
  refine ⟨h1, hc, ?_⟩
  rcases h3 with ⟨_, h4, _⟩ | ⟨h4, h5, h6, h7, arr, ty, h8, h9, h10⟩
  · exact .inl h4
  · exact .inr ⟨h4, arr, ty, _, h8, by rw [h2]; exact h10⟩
theorem shr_rd {α : Type} {R : α → List Value → Prop} {sz : Nat} {G : Nat → Prop} {w : World} {m : Nm} {xs : List α} (h : Shr R sz G w m xs) : Rd R sz w m xs :=
  ⟨h.1, h.2.1, h.2.2.imp id fun ⟨a, _, b⟩ => ⟨a, b⟩⟩

theorem packS_rd {md : PM} {a : Ty} {v : SV} {xs : List a.T} {ne : NE} {u : Ups} (h : packS md lkp a v = some (xs, ne, u)) {E : Env} (hv : v.wf E L) {G : Nat → Prop} {w : World}
    (h1 : ∀ i t ys, lkp i = some (.shr t ys) ∨ lkp i = some (.row t ys) → Rd (Rp G w t) t.sz w (E.nm i) ys) : Rd (Rp G w a) a.sz w (ne.nm E) xs := by
  unfold packS at h
  repeat' split at h
  all_goals first | (cases h; done) | skip
  all_goals (simp only [Option.some.injEq, Prod.mk.injEq] at h; obtain ⟨rfl, rfl, rfl⟩ := h)
  · exact ⟨rfl, Nat.le_refl _, .inl rfl⟩
  · rename_i hl he _ _; subst he; exact h1 _ _ _ (.inl hl)
  · rename_i hl he _; subst he; exact h1 _ _ _ (.inr hl)
  · rename_i hl he _; subst he; exact h1 _ _ _ (.inr hl)
  · rename_i hl he _; subst he; exact h1 _ _ _ (.inr hl)
  · rename_i hz _ _ _ hl he _ _; subst he; subst hz; exact rd_sub (h1 _ _ _ (.inl hl)) hv.2
  · rename_i hz _ _ _ hl he _; subst he; subst hz; exact rd_sub (h1 _ _ _ (.inr hl)) hv.2
  · rename_i hz _ _ _ hl he _; subst he; subst hz; exact rd_sub (h1 _ _ _ (.inr hl)) hv.2

theorem rows_size {G : Nat → Prop} {w : World} {a : Ty} {arr : Array Value} {off : Nat} {xs : List a.T} (h : RowsIn (Rp G w a) a.sz arr off xs) (hx : xs ≠ []) : off + xs.length * a.sz ≤ arr.size := by
  have hlt : xs.length - 1 < xs.length := by
    cases xs with
    | nil => exact absurd rfl hx
    | cons _ _ => simp
  have := h (xs.length - 1) _ (List.getElem?_eq_getElem hlt)
  have h2 := cellsAt_len this.length (sz_pos a)
  have e : (xs.length - 1) * a.sz + a.sz = xs.length * a.sz := by
    rw [← Nat.succ_mul]; congr 1; omega
  omega

/-- The cells of a slice that can be read, and that they are its elements. -/
theorem rd_first {G : Nat → Prop} {w : World} {a : Ty} {m : Nm} {xs : List a.T} (h : Rd (Rp G w a) a.sz w m xs) : ∃ cells : List Value, cells.length = xs.length * a.sz ∧
    (∀ w' : World, w'.heap = w.heap → (Builtin.firstCells a.sz xs.length (.slice m.ad m.len m.cap)).run P w' = .ok cells.toArray w') ∧
    (∀ (arr : Array Value) (o : Nat), cellsAt arr o (xs.length * a.sz) = cells → RowsIn (Rp G w a) a.sz arr o xs) ∧ Flat cells := by
  obtain ⟨h1, h0, h2⟩ := h
  rcases h2 with rfl | ⟨hn, arr, ty, fz, h3, h4⟩
  · refine ⟨[], by simp, fun w' _ => ?_, fun arr o _ i x hx => by simp at hx, fun v hv => by cases hv⟩
    cases had : m.ad with
    | none => rfl
    | some p =>
      have := run_loadCells_list (P := P) w' p [] (fun j v hj => by simp at hj)
      show (loadCells p (0 * a.sz)).run P w' = _
      rw [Nat.zero_mul]; exact this
  · by_cases hx : xs = []
    · subst hx
      refine ⟨[], by simp, fun w' _ => ?_, fun arr o _ i x hx => by simp at hx, fun v hv => by cases hv⟩
      cases had : m.ad with
      | none => rfl
      | some p =>
        have := run_loadCells_list (P := P) w' p [] (fun j v hj => by simp at hj)
        show (loadCells p (0 * a.sz)).run P w' = _
        rw [Nat.zero_mul]; exact this
    · have hs := rows_size h4 hx
      refine ⟨cellsAt arr m.off (xs.length * a.sz), by unfold cellsAt; simp; omega, fun w' hw' => ?_, fun arr' o he => h4.of_cells he, ?_⟩
      · rw [← h1]
        exact run_firstCells hn (by rw [hw']; exact h3) (by rw [h1]; exact hs)
      · intro v hv
        obtain ⟨j, hj, rfl⟩ := List.getElem_of_mem hv
        have hjl : j < xs.length * a.sz := by unfold cellsAt at hj; simp at hj; omega
        have hsz := sz_pos a
        have hq : j / a.sz < xs.length := Nat.div_lt_of_lt_mul (by rw [Nat.mul_comm]; exact hjl)
        have hr := h4 (j / a.sz) _ (List.getElem?_eq_getElem hq)
        refine Rp.flatV a _ _ hr _ ?_
        have hmod := Nat.div_add_mod j a.sz
        rw [Nat.mul_comm] at hmod
        have hml := Nat.mod_lt j hsz
        have : (cellsAt arr (m.off + j / a.sz * a.sz) a.sz)[j % a.sz]? = (cellsAt arr m.off (xs.length * a.sz))[j]? := by
          rw [cellsAt_get, cellsAt_get, if_pos hml, if_pos hjl]
          congr 1; omega
        rw [List.getElem?_eq_getElem hj] at this
        exact List.mem_of_getElem? this

/-- A new row is kept or written no more. -/
theorem hd_finish {c : Cfg TB} {G : Nat → Prop} {w : World} {E : Env} {bs : Nat} {a : Ty} {xs : List a.T} (keep : Bool) (hb : bs < L.length) (h : Holds c G w E (upd L (bs, .row a xs))) :
    Hd c w E (updL L (fin keep bs a xs)) ∧ (∀ n, Al (upd L (bs, .row a xs)) n → Al (updL L (fin keep bs a xs)) n) ∧ Al (updL L (fin keep bs a xs)) bs := by
  have hlk : look (upd L (bs, .row a xs)) bs = some (.row a xs) := by rw [look_upd hb, if_pos rfl]
  cases keep with
  | true => exact ⟨⟨G, h⟩, fun _ hn => hn, ⟨_, hlk, rfl⟩⟩
  | false => exact ⟨⟨_, h.freeze hlk⟩, fun n hn => al_upd rfl n hn, al_upd rfl bs ⟨_, hlk, rfl⟩⟩

set_option maxHeartbeats 1000000 in
theorem appendE_ok {o : Oper} {ρ : Operand → SV} {args : Array Operand} {ts : Array TypeId} (hop : o.op = .call { callee := .builtin .append, args := args, argTypes := ts }) {x y : SV} (hargs : args.toList.map ρ = [x, y])
    {keep : Bool} {bs : Nat} (hlk : ∀ n e, lkp n = some e → look L n = some e) {v : SV} {ups : Ups} (h : appendE P lkp ts.toList x y keep bs pr = some (v, ups)) : RunOk TB P o ρ L v ups := by
  unfold appendE at h
  split at h
  rotate_left
  · cases h
  rename_i t0 t1 hts
  split at h
  rotate_left
  · cases h
  rename_i e e1 hu hu1
  split at h
  rotate_left
  · cases h
  rename_i q z a hq hz hty
  split at h
  rotate_left
  · cases h
  rename_i hc
  obtain ⟨hzl, hqa, hqb, hnew⟩ := hc
  split at h
  rotate_left
  · cases h
  rename_i xs ne1 u1 ys ne u2 hp1 hp2
  split at h
  rotate_left
  · cases h
  rename_i hdis
  split at h
  rotate_left
  · cases h
  rename_i hby
  simp only [pr, Option.some.injEq, Prod.mk.injEq] at h
  obtain ⟨rfl, rfl⟩ := h
  have hbs : look L bs = some .rsv := hlk _ _ (by have := newOk_spec hnew 0 (by omega); simpa using this)
  obtain ⟨zv, hzv⟩ : ∃ zv, q.zero = some zv := by
    unfold zeroE at hz
    rw [hq] at hz
    simp only at hz
    split at hz
    · exact ⟨_, by assumption⟩
    · cases hz
  have hzc : zv.cells.size = a.sz := by
    unfold zeroE at hz
    rw [hq] at hz
    simp only [hzv, Option.some.injEq] at hz
    have : z.length = zv.cells.size := by rw [← hz]; simp
    omega
  have hts0 : ts[0]? = some t0 := by rw [← Array.getElem?_toList, hts]; rfl
  have hts1 : ts[1]? = some t1 := by rw [← Array.getElem?_toList, hts]; rfl
  refine runOk_of fun c w E hh hw => ?_
  obtain ⟨G, hG⟩ := hh
  have hmem : ∀ u ∈ [x, y], u.wf E L := by
    rw [← hargs]
    intro u hu
    obtain ⟨k, _, rfl⟩ := List.mem_map.1 hu
    exact hw k
  have hmd : (match a.nsl with | 0 => PM.lend | _ => PM.frz) ≠ .own := by split <;> simp
  -- what is frozen
  have hups : ∀ q ∈ u2, ∃ t ys, lkp q.1 = some (.row t ys) ∧ q.2 = .shr t ys := by
    intro q hq'
    rcases packS_ups hp2 with rfl | ⟨i, t', ys', hl, ⟨_, _, rfl⟩ | ⟨hx, _, _⟩⟩
    · cases hq'
    · rw [List.mem_singleton] at hq'; subst hq'; exact ⟨t', ys', hl, rfl⟩
    · exact absurd hx hmd
  obtain ⟨G1, k1, k2, k3, k4, k5⟩ := hG.known hlk hups
  have hrdall : ∀ i t zs, lkp i = some (.shr t zs) ∨ lkp i = some (.row t zs) → Rd (Rp G1 w t) t.sz w (E.nm i) zs := by
    intro i t zs hl
    rcases hl with hl | hl
    · exact shr_rd (k3.shr i t zs hl)
    · have := hG.ent i _ (hlk _ _ hl)
      have h2 := own_rd this
      exact ⟨h2.1, h2.2.1, h2.2.2.imp id fun ⟨p1, arr, ty, fz, p2, p3⟩ => ⟨p1, arr, ty, fz, p2, p3.imp fun x vs hx => Rp.mono (fun _ _ => rfl) k5 t x vs hx⟩⟩
  have hrd2 : Rd (Rp G1 w a) a.sz w (ne.nm E) ys := packS_rd hp2 (hmem y (by simp)) hrdall
  have hy := packS_den hp2 E
  have hbs1 : look (updL L u2) bs = some .rsv := by
    rw [k4 bs]; exact hbs
    intro hx
    obtain ⟨q', hq', he⟩ := List.mem_map.1 hx
    obtain ⟨t', ys', hl, _⟩ := hups q' hq'
    have := hlk _ _ hl
    rw [he, hbs] at this; cases this
  -- the machine's call
  have hrunc : ∀ (w' : World) (r : Value) (X : Value), x.den E = X → (Builtin.append_ ts o.type #[X, .slice (ne.nm E).ad (ne.nm E).len (ne.nm E).cap]).run P w = .ok r w' → (execOp (fun x => (ρ x).den E) o).run P w = .ok (.value r) w' := by
    intro w' r X hX hr
    have hargs' : (args.map fun x => (ρ x).den E) = #[X, .slice (ne.nm E).ad (ne.nm E).len (ne.nm E).cap] := by
      apply Array.ext'
      have : (args.toList.map ρ).map (SV.den E) = [X, .slice (ne.nm E).ad (ne.nm E).len (ne.nm E).cap] := by rw [hargs]; simp [hX, hy]
      rw [List.map_map] at this
      rw [Array.toList_map]
      exact this
    simp only [execOp, hop, resolve, invoke, Sem.run_bind, Sem.run_pure, Result.andThen, hargs', builtin, hr]
  obtain ⟨news, n1, n2, n3, n4⟩ := rd_first (P := P) hrd2
  have hylen := hrd2.1
  -- a nil result
  have nilCase : ∀ (L2 : Store), Holds c G1 w E L2 → look L2 bs = some .rsv → xs ++ ys = [] → updL L (u2 ++ u1 ++ fin keep bs a (xs ++ ys)) = updL L2 (fin keep bs a (xs ++ ys)) → (∀ n, Al L n → Al L2 n) →
      (execOp (fun x => (ρ x).den E) o).run P w = .ok (.value (.slice none 0 0)) w →
      ∃ (w' : World) (E' : Env) (nx : Next), (execOp (fun x => (ρ x).den E) o).run P w = .ok nx w' ∧ (nx = .value ((SV.slw bs).den E') ∨ (nx = .skip ∧ (SV.slw bs) = undefV)) ∧
      Hd c w' E' (updL L (u2 ++ u1 ++ fin keep bs a (xs ++ ys))) ∧ (∀ n, Al L n → E'.nm n = E.nm n ∧ Al (updL L (u2 ++ u1 ++ fin keep bs a (xs ++ ys))) n) ∧ E'.ds = E.ds ∧ (SV.slw bs).wf E' (updL L (u2 ++ u1 ++ fin keep bs a (xs ++ ys))) := by
    intro L2 hH hr hnil hups hal hrun
    rw [hups, hnil]
    have h1 := hH.change (i := bs) (e' := .row a []) (m := ⟨0, 0, true, 0, 0⟩) (w' := w) (look_lt hr) (.refl _) (Nat.le_refl _) (fun hx => absurd hx (not_al hr)) rfl (fun _ _ _ => rfl) (fun b hb => by cases hb) (fun _ _ _ _ _ _ hb => by cases hb)
      (fun _ => ⟨rfl, rfl, .inl ⟨rfl, rfl, rfl⟩⟩)
    obtain ⟨f1, f2, f3⟩ := hd_finish keep (look_lt hr) h1
    refine ⟨w, E.set bs ⟨0, 0, true, 0, 0⟩, _, hrun, .inl ?_, f1, fun n hn => ⟨E.set_ne _ (fun he => not_al (he ▸ hbs) hn), f2 n (al_upd rfl n (hal n hn))⟩, rfl, f3⟩
    simp [SV.den, Env.set_eq, Nm.ad]
  -- a new block
  have growCase : ∀ (L2 : Store) (m : Nm), Holds c G1 w E L2 → look L2 bs = some .rsv → Rd (Rp G1 w a) a.sz w m xs → x.den E = .slice m.ad m.len m.cap → m.cap < m.len + (ne.nm E).len → updL L (u2 ++ u1 ++ fin keep bs a (xs ++ ys)) = updL L2 (fin keep bs a (xs ++ ys)) → (∀ n, Al L n → Al L2 n) →
      ∃ (w' : World) (E' : Env) (nx : Next), (execOp (fun x => (ρ x).den E) o).run P w = .ok nx w' ∧ (nx = .value ((SV.slw bs).den E') ∨ (nx = .skip ∧ (SV.slw bs) = undefV)) ∧
      Hd c w' E' (updL L (u2 ++ u1 ++ fin keep bs a (xs ++ ys))) ∧ (∀ n, Al L n → E'.nm n = E.nm n ∧ Al (updL L (u2 ++ u1 ++ fin keep bs a (xs ++ ys))) n) ∧ E'.ds = E.ds ∧ (SV.slw bs).wf E' (updL L (u2 ++ u1 ++ fin keep bs a (xs ++ ys))) := by
    intro L2 m hH hr hrd1 hx hgrow hups hal
    rw [hups]
    obtain ⟨olds, o1, o2, o3, o4⟩ := rd_first (P := P) hrd1
    obtain ⟨c', hc', hrun⟩ := run_append_grow (P := P) (w := w) (ty := o.type) (a := m.ad) (b := (ne.nm E).ad) (len := m.len) (cap := m.cap) (n := (ne.nm E).len) (c := (ne.nm E).cap) (news := news) (olds := olds) hts0 hts1 hu hu1 hq hzv hqb
      (by rw [hqa]; have := n2 w.drew rfl; rw [hylen]; rw [hylen] at this; exact this)
      (by rw [hqa]; have := o2 w.drew rfl; rw [hrd1.1]; rw [hrd1.1] at this; exact this) hgrow (by rw [hrd1.1, hylen]; exact hby)
    have hsz : (olds.toArray ++ news.toArray ++ Builtin.zeroCells zv.cells (c' - (m.len + (ne.nm E).len))).size = c' * a.sz := by
      have hzs : (Builtin.zeroCells zv.cells (c' - (m.len + (ne.nm E).len))).size = (c' - (m.len + (ne.nm E).len)) * a.sz := by
        simp [Builtin.zeroCells, hzc]
      simp only [Array.size_append, hzs, List.size_toArray, o1, n1]
      rw [← hrd1.1, ← hylen, ← Nat.add_mul, ← Nat.add_mul]
      congr 1; omega
    have hrow : RowsIn (Rp G1 w a) a.sz (olds.toArray ++ news.toArray ++ Builtin.zeroCells zv.cells (c' - (m.len + (ne.nm E).len))) 0 (xs ++ ys) := by
      refine RowsIn.append (o3 _ _ ?_) (n3 _ _ ?_)
      · apply List.ext_getElem?
        intro j
        rw [cellsAt_get]
        split
        · rw [Nat.zero_add, Array.getElem?_append_left (by simp; omega), Array.getElem?_append_left (by simp; omega)]; simp
        · rw [List.getElem?_eq_none (by omega)]
      · apply List.ext_getElem?
        intro j
        rw [cellsAt_get]
        split
        · rw [Array.getElem?_append_left (by simp; omega), Array.getElem?_append_right (by simp; omega)]
          simp only [List.size_toArray, o1, List.getElem?_toArray]
          congr 1; omega
        · rw [List.getElem?_eq_none (by omega)]
    obtain ⟨h1, h2⟩ := hH.newBlk hr (w' := w.drew.alloc (.cells (olds.toArray ++ news.toArray ++ Builtin.zeroCells zv.cells (c' - (m.len + (ne.nm E).len))) e)) (ty := e) rfl ⟨rfl, rfl, rfl⟩ (e := .row a (xs ++ ys)) (m := ⟨w.heap.size, 0, false, (xs ++ ys).length, c'⟩) rfl ⟨rfl, rfl, rfl⟩
      (fun hnew hold hG hsame => ⟨rfl, rfl, .inr ⟨rfl, hG, hold, by have := hrd1.1; simp; omega, _, e, hnew, hsz, hrow.imp fun x vs hx => Rp.mono hsame (fun _ h => h) a x vs hx⟩⟩)
    obtain ⟨f1, f2, f3⟩ := hd_finish keep (look_lt hr) h1
    refine ⟨_, _, _, hrunc _ _ _ hx hrun, .inl ?_, f1, fun n hn => ⟨E.set_ne _ (fun he => not_al (he ▸ hbs) hn), f2 n (al_upd rfl n (hal n hn))⟩, rfl, f3⟩
    have hlen : m.len + (ne.nm E).len = (xs ++ ys).length := by rw [hrd1.1, hylen]; simp
    simp [SV.den, Env.set_eq, Nm.ad, hlen]
  rcases packS_own hp1 with ⟨rfl, rfl, rfl⟩ | ⟨i, rfl, hl, rfl⟩
  · -- nothing yet
    have hxd : x.den E = .slice none 0 0 := by have := packS_den hp1 E; simpa [NE.nm, Nm.ad] using this
    have hupsE : updL L (u2 ++ [] ++ fin keep bs a ([] ++ ys)) = updL (updL L u2) (fin keep bs a ([] ++ ys)) := by simp [updL_append]
    by_cases hn : ys = []
    · have hyl : (ne.nm E).len = 0 := by rw [hylen, hn]; rfl
      refine nilCase (updL L u2) k1 hbs1 (by simp [hn]) hupsE k2 ?_
      refine hrunc w _ _ hxd ?_
      have := run_append_in (P := P) (w := w) (w' := w) (ty := o.type) (a := none) (b := (ne.nm E).ad) (len := 0) (cap := 0) (n := (ne.nm E).len) (c := (ne.nm E).cap) (news := news) hts0 hts1 hu hu1 hq
        (by rw [hqa]; have := n2 w rfl; rw [hylen]; rw [hylen] at this; exact this) (by omega) rfl
      rw [hyl] at this
      rw [hyl]; exact this
    · refine growCase (updL L u2) ⟨0, 0, true, 0, 0⟩ k1 hbs1 ⟨rfl, Nat.le_refl _, .inl rfl⟩ (by rw [hxd]; rfl) ?_ hupsE k2
      have : 0 < ys.length := by
        cases ys with
        | nil => exact absurd rfl hn
        | cons _ _ => simp
      show 0 < 0 + (ne.nm E).len
      omega
  · -- a row
    have hiu2 : i ∉ u2.map (·.1) := by
      intro hx
      obtain ⟨q', hq', he⟩ := List.mem_map.1 hx
      have := List.all_eq_true.1 hdis (i, .dead) (by simp)
      have := List.all_eq_true.1 this q' hq'
      simp [he] at this
    have hli : look (updL L u2) i = some (.row a xs) := by rw [k4 i hiu2]; exact hlk _ _ hl
    have hown := k1.ent i _ hli
    have hrd1 := own_rd hown
    have hxd : x.den E = .slice (E.nm i).ad (E.nm i).len (E.nm i).cap := packS_den hp1 E
    have hkill := k1.kill (look_lt hli)
    have hib : i ≠ bs := by
      intro he; rw [he, hbs1] at hli; cases hli
    have hbs2 : look (upd (updL L u2) (i, .dead)) bs = some .rsv := by rw [look_upd (look_lt hli), if_neg (fun he => hib he.symm)]; exact hbs1
    have hupsE : updL L (u2 ++ [(i, .dead)] ++ fin keep bs a (xs ++ ys)) = updL (upd (updL L u2) (i, .dead)) (fin keep bs a (xs ++ ys)) := by rw [updL_append, updL_append]; rfl
    have hal2 : ∀ n, Al L n → Al (upd (updL L u2) (i, .dead)) n := fun n hn => al_upd rfl n (k2 n hn)
    by_cases hgrow : (E.nm i).cap < (E.nm i).len + (ne.nm E).len
    · exact growCase _ (E.nm i) hkill hbs2 hrd1 hxd hgrow hupsE hal2
    · obtain ⟨p1, p2, p3⟩ := hown
      rcases p3 with ⟨p4, p5, p6⟩ | ⟨p4, p5, p6, p7, arr, ty, p8, p9, p10⟩
      · -- nil
        have hlen0 : (E.nm i).len = 0 := by rw [p1, p5]; rfl
        have hyl : (ne.nm E).len = 0 := by omega
        have hyn : ys = [] := by
          cases ys with
          | nil => rfl
          | cons _ _ => simp at hylen; omega
        refine nilCase _ hkill hbs2 (by simp [p5, hyn]) hupsE hal2 ?_
        refine hrunc w _ _ hxd ?_
        have := run_append_in (P := P) (w := w) (w' := w) (ty := o.type) (a := none) (b := (ne.nm E).ad) (len := 0) (cap := 0) (n := (ne.nm E).len) (c := (ne.nm E).cap) (news := news) hts0 hts1 hu hu1 hq
          (by rw [hqa]; have := n2 w rfl; rw [hylen]; rw [hylen] at this; exact this) (by omega) rfl
        rw [hyl] at this
        have had : (E.nm i).ad = none := by simp [Nm.ad, p4]
        rw [had, hlen0, p6, hyl]; exact this
      · -- in place
        have hfit : (E.nm i).len + (ne.nm E).len ≤ (E.nm i).cap := by omega
        have hmul : (xs.length + ys.length) * a.sz ≤ (E.nm i).cap * a.sz := Nat.mul_le_mul_right _ (by omega)
        rw [Nat.add_mul] at hmul
        obtain ⟨w', s1, s2, s3, s4, s5⟩ := run_storeCells (P := P) (off := (E.nm i).len * a.sz) news w arr 0 p8 n4 (by rw [n1, p1, p9]; omega)
        rw [Nat.add_zero] at s4
        have hrun := run_append_in (P := P) (w := w) (w' := w') (ty := o.type) (a := (E.nm i).ad) (b := (ne.nm E).ad) (len := (E.nm i).len) (cap := (E.nm i).cap) (n := (ne.nm E).len) (c := (ne.nm E).cap) (news := news) hts0 hts1 hu hu1 hq
          (by rw [hqa]; have := n2 w rfl; rw [hylen]; rw [hylen] at this; exact this) hfit (by
            simp only [Nm.ad, p4, Bool.false_eq_true, if_false]
            rw [hqa, add_loc, p2, Nat.zero_add]; exact s1)
        have hGs : ∀ b, G1 b → w'.heap[b]? = w.heap[b]? := fun b hb => s5 b (fun he => p5 (he ▸ hb))
        have hrow : RowsIn (Rp G1 w' a) a.sz (spl arr ((E.nm i).len * a.sz) news) 0 (xs ++ ys) := by
          refine RowsIn.imp (R := Rp G1 w a) ?_ (fun x vs hx => Rp.mono hGs (fun _ h => h) a x vs hx)
          refine RowsIn.append (p10.of_cells ?_) (n3 _ _ ?_)
          · rw [p1, cellsAt_spl_out]; omega
          · rw [p1, ← n1, cellsAt_spl_in]; omega
        have h1 := hkill.change (i := bs) (e' := .row a (xs ++ ys)) (m := ⟨(E.nm i).blk, 0, false, (xs ++ ys).length, (E.nm i).cap⟩) (w' := w') (look_lt hbs2) s2 (by omega) (fun hx => absurd hx (not_al hbs2)) rfl
          (fun b _ hb => s5 b (fun he => hb (by simp [Ent.own, he])))
          (fun b hb => by simp only [Ent.own, Bool.false_eq_true, if_false, Option.some.injEq] at hb; subst hb; exact ⟨p6, p5⟩)
          (by
            intro k f hk hf b hb he
            simp only [Ent.own, Bool.false_eq_true, if_false, Option.some.injEq] at he
            rw [look_upd (look_lt hli)] at hf
            by_cases hki : k = i
            · subst hki; simp only [if_true, Option.some.injEq] at hf; subst hf; cases hb
            · rw [if_neg hki] at hf
              refine k1.inj k i f _ b hki hf hli hb ?_
              simp [Ent.own, p4, he])
          (fun _ => ⟨rfl, rfl, .inr ⟨rfl, p5, p6, by simp; omega, _, ty, s4, by rw [spl_size, p9], hrow⟩⟩)
        obtain ⟨f1, f2, f3⟩ := hd_finish keep (look_lt hbs2) h1
        rw [hupsE]
        refine ⟨w', _, _, hrunc _ _ _ hxd hrun, .inl ?_, f1, fun n hn => ⟨E.set_ne _ (fun he => not_al (he ▸ hbs) hn), f2 n (al_upd rfl n (hal2 n hn))⟩, rfl, f3⟩
        have hlen : (E.nm i).len + (ne.nm E).len = (xs ++ ys).length := by rw [p1, hylen]; simp
        simp [SV.den, Env.set_eq, Nm.ad, hlen, p4, p2]
end

end Go.V3
