/-
  Part M: append, parts of slices, and a whole operation.
-/
import Derived.Test.YtmcahbbelnjhiaaDoorV3L
set_option linter.unusedVariables false
namespace Go.V3
open Go
variable {TB : Tb}

section
variable {P : Program} {lkp : Nat → Option Ent} {L : Store}

/-- A slice's cells can be read. -/
def Rd {α : Type} (R : α → List Value → Prop) (sz : Nat) (w : World) (m : Nm) (xs : List α) : Prop :=
  m.len = xs.length ∧ m.len ≤ m.cap ∧ (xs = [] ∨ (m.nil = false ∧ ∃ arr ty fz, w.heap[m.blk]? = some (.cells arr ty fz) ∧ RowsIn R sz arr m.off xs))
theorem rd_sub {α : Type} {R : α → List Value → Prop} {sz : Nat} {w : World} {m : Nm} {xs : List α} (h : Rd R sz w m xs) {lo n : Nat} (hl : lo + n ≤ m.len) :
    Rd R sz w (if m.cap = lo then { blk := m.blk, off := m.off, nil := m.nil, len := n, cap := m.cap - lo, odd := m.odd, fz := m.fz } else { blk := m.blk, off := m.off + lo * sz, nil := m.nil, len := n, cap := m.cap - lo, odd := padd m.odd (lo * sz), fz := m.fz }) (subl xs lo n) := by
  obtain ⟨h1, h0, h2⟩ := h
  have hs : Shr R sz (fun _ => True) w m xs := ⟨h1, h0, h2.imp id fun ⟨a, b⟩ => ⟨a, trivial, b⟩⟩
  obtain ⟨k1, k0, k2⟩ := shr_sub hs hl
  exact ⟨k1, k0, k2.imp id fun ⟨a, _, b⟩ => ⟨a, b⟩⟩
theorem own_rd {α : Type} {R : α → List Value → Prop} {sz : Nat} {c : Cfg TB} {G : Nat → Prop} {w : World} {m : Nm} {xs : List α} (h : Own R sz c G w m xs) : Rd R sz w m xs := by
  have hc := own_cap h
  obtain ⟨h1, h2, h3⟩ := h
  refine ⟨h1, hc, ?_⟩
  rcases h3 with ⟨_, h4, _⟩ | ⟨h4, h5, h6, h7, arr, ty, h8, h9, h10⟩
  · exact .inl h4
  · exact .inr ⟨h4, arr, ty, _, h8, h10⟩
theorem own_cut {α : Type} {R : α → List Value → Prop} {sz : Nat} {c : Cfg TB} {G : Nat → Prop} {w : World} {m : Nm} {xs : List α} (h : Own R sz c G w m xs) {n : Nat} (hn : n ≤ xs.length) : Own R sz c G w (m.cut n) (subl xs 0 n) := by
  obtain ⟨h1, h2, h3⟩ := h
  have hl : (subl xs 0 n).length = n := by unfold subl; simp; omega
  refine ⟨hl.symm, h2, ?_⟩
  rcases h3 with ⟨h4, rfl, h6⟩ | ⟨h4, h5, h6, h7, arr, ty, h8, h9, h10⟩
  · exact .inl ⟨h4, by simp [subl], h6⟩
  · refine .inr ⟨h4, h5, h6, by show _ ≤ m.cap; omega, arr, ty, h8, h9, fun k x hk => h10 k x ?_⟩
    unfold subl at hk
    rw [List.drop_zero, List.getElem?_take] at hk
    split at hk
    · exact hk
    · cases hk
theorem shr_rd {α : Type} {R : α → List Value → Prop} {sz : Nat} {G : Nat → Prop} {w : World} {m : Nm} {xs : List α} (h : Shr R sz G w m xs) : Rd R sz w m xs :=
  ⟨h.1, h.2.1, h.2.2.imp id fun ⟨a, _, b⟩ => ⟨a, b⟩⟩

theorem packS_rd {md : PM} {a : Ty} {v : SV} {xs : List a.T} {ne : NE} {u : Ups} (h : packS md lkp a v = some (xs, ne, u)) (hmd : md ≠ .own) (hnd : isDeepV lkp v = false) {E : Env} (hv : v.wf E L) {G : Nat → Prop} {w : World}
    (h1 : ∀ i t ys, lkp i = some (.shr t ys) ∨ lkp i = some (.row t ys) → Rd (Rp G w t) t.sz w (E.nm i) ys) : Rd (Rp G w a) a.sz w (ne.nm E) xs := by
  unfold packS at h
  repeat' split at h
  all_goals first | (cases h; done) | skip
  all_goals (simp only [Option.some.injEq, Prod.mk.injEq] at h; obtain ⟨rfl, rfl, rfl⟩ := h)
  all_goals first | exact absurd rfl hmd | skip
  · exact ⟨rfl, Nat.le_refl _, .inl rfl⟩
  · rename_i hl he _ _; subst he; exact h1 _ _ _ (.inl hl)
  · rename_i hl he _; subst he; exact h1 _ _ _ (.inr hl)
  · rename_i hl he _; subst he; exact h1 _ _ _ (.inr hl)
  · rename_i hl he _; simp [isDeepV, hl] at hnd
  · rename_i hl he _; simp [isDeepV, hl] at hnd
  · rename_i hz _ _ _ hl he _ _; subst he; subst hz; exact rd_sub (h1 _ _ _ (.inl hl)) hv.2
  · rename_i hz _ _ _ hl he _; subst he; subst hz; exact rd_sub (h1 _ _ _ (.inr hl)) hv.2
  · rename_i hz _ _ _ hl he _; subst he; subst hz; exact rd_sub (h1 _ _ _ (.inr hl)) hv.2

theorem rows_size {G : Nat → Prop} {w : World} {a : Ty} {arr : Array Value} {off : Nat} {xs : List a.T} (h : RowsIn (Rp G w a) a.sz arr off xs) (hx : xs ≠ []) : off + xs.length * a.sz ≤ arr.size := by
  have hlt : xs.length - 1 < xs.length := by
    cases xs with
    | nil => exact absurd rfl hx
    | cons _ _ => simp
  have := h (xs.length - 1) _ (List.getElem?_eq_getElem hlt)
  have h2 := cellsAt_len this.length (sz_pos a)
  have e : (xs.length - 1) * a.sz + a.sz = xs.length * a.sz := by
    rw [← Nat.succ_mul]; congr 1; omega
  omega

/-- The cells of a slice that can be read, and that they are its elements. -/
theorem rd_first {G : Nat → Prop} {w : World} {a : Ty} {m : Nm} {xs : List a.T} (h : Rd (Rp G w a) a.sz w m xs) : ∃ cells : List Value, cells.length = xs.length * a.sz ∧
    (∀ w' : World, w'.heap = w.heap → (Builtin.firstCells a.sz xs.length (.slice m.ad m.len m.cap)).run P w' = .ok cells.toArray w') ∧
    (∀ (arr : Array Value) (o : Nat), cellsAt arr o (xs.length * a.sz) = cells → RowsIn (Rp G w a) a.sz arr o xs) ∧ Flat cells := by
  obtain ⟨h1, h0, h2⟩ := h
  rcases h2 with rfl | ⟨hn, arr, ty, fz, h3, h4⟩
  · refine ⟨[], by simp, fun w' _ => ?_, fun arr o _ i x hx => by simp at hx, fun v hv => by cases hv⟩
    cases had : m.ad with
    | none => rfl
    | some p =>
      have := run_loadCells_list (P := P) w' p [] (fun j v hj => by simp at hj)
      show (loadCells p (0 * a.sz)).run P w' = _
      rw [Nat.zero_mul]; exact this
  · by_cases hx : xs = []
    · subst hx
      refine ⟨[], by simp, fun w' _ => ?_, fun arr o _ i x hx => by simp at hx, fun v hv => by cases hv⟩
      cases had : m.ad with
      | none => rfl
      | some p =>
        have := run_loadCells_list (P := P) w' p [] (fun j v hj => by simp at hj)
        show (loadCells p (0 * a.sz)).run P w' = _
        rw [Nat.zero_mul]; exact this
    · have hs := rows_size h4 hx
      refine ⟨cellsAt arr m.off (xs.length * a.sz), by unfold cellsAt; simp; omega, fun w' hw' => ?_, fun arr' o he => h4.of_cells he, ?_⟩
      · rw [← h1]
        exact run_firstCells hn (by rw [hw']; exact h3) (by rw [h1]; exact hs)
      · intro v hv
        obtain ⟨j, hj, rfl⟩ := List.getElem_of_mem hv
        have hjl : j < xs.length * a.sz := by unfold cellsAt at hj; simp at hj; omega
        have hsz := sz_pos a
        have hq : j / a.sz < xs.length := Nat.div_lt_of_lt_mul (by rw [Nat.mul_comm]; exact hjl)
        have hr := h4 (j / a.sz) _ (List.getElem?_eq_getElem hq)
        refine Rp.flatV a _ _ hr _ ?_
        have hmod := Nat.div_add_mod j a.sz
        rw [Nat.mul_comm] at hmod
        have hml := Nat.mod_lt j hsz
        have : (cellsAt arr (m.off + j / a.sz * a.sz) a.sz)[j % a.sz]? = (cellsAt arr m.off (xs.length * a.sz))[j]? := by
          rw [cellsAt_get, cellsAt_get, if_pos hml, if_pos hjl]
          congr 1; omega
        rw [List.getElem?_eq_getElem hj] at this
        exact List.mem_of_getElem? this

/-- A new row is kept or written no more. -/
theorem hd_finish {c : Cfg TB} {G : Nat → Prop} {w : World} {E : Env} {bs : Nat} {a : Ty} {xs : List a.T} (keep : Bool) (hb : bs < L.length) (h : Holds c G w E (upd L (bs, .row a xs))) :
    Hd c w E (updL L (fin keep bs a xs)) ∧ (∀ n, Al (upd L (bs, .row a xs)) n → Al (updL L (fin keep bs a xs)) n) ∧ Al (updL L (fin keep bs a xs)) bs := by
  have hlk : look (upd L (bs, .row a xs)) bs = some (.row a xs) := by rw [look_upd hb, if_pos rfl]
  cases keep with
  | true => exact ⟨⟨G, h⟩, fun _ hn => hn, ⟨_, hlk, rfl⟩⟩
  | false => exact ⟨⟨_, h.freeze hlk⟩, fun n hn => al_upd rfl n hn, al_upd rfl bs ⟨_, hlk, rfl⟩⟩

set_option maxHeartbeats 1000000 in
theorem appendE_ok {o : Oper} {ρ : Operand → SV} {args : Array Operand} {ts : Array TypeId} (hop : o.op = .call { callee := .builtin .append, args := args, argTypes := ts }) {x y : SV} (hargs : args.toList.map ρ = [x, y])
    {keep : Bool} {bs : Nat} (hlk : ∀ n e, lkp n = some e → look L n = some e) (hnd : isDeepV lkp y = false) {v : SV} {ups : Ups} (h : appendE P lkp ts.toList x y keep bs pr = some (v, ups)) : RunOk TB P o ρ L v ups := by
  unfold appendE at h
  split at h
  rotate_left
  · cases h
  rename_i t0 t1 hts
  split at h
  rotate_left
  · cases h
  rename_i e e1 hu hu1
  split at h
  rotate_left
  · cases h
  rename_i q z a hq hz hty
  split at h
  rotate_left
  · cases h
  rename_i hc
  obtain ⟨hzl, hqa, hqb, hnew⟩ := hc
  split at h
  rotate_left
  · cases h
  rename_i xs ne1 u1 ys ne u2 hp1 hp2
  split at h
  rotate_left
  · cases h
  rename_i hdis
  split at h
  rotate_left
  · cases h
  rename_i hby
  simp only [pr, Option.some.injEq, Prod.mk.injEq] at h
  obtain ⟨rfl, rfl⟩ := h
  have hbs : look L bs = some .rsv := hlk _ _ (by have := newOk_spec hnew 0 (by omega); simpa using this)
  obtain ⟨zv, hzv⟩ : ∃ zv, q.zero = some zv := by
    unfold zeroE at hz
    rw [hq] at hz
    simp only at hz
    split at hz
    · exact ⟨_, by assumption⟩
    · cases hz
  have hzc : zv.cells.size = a.sz := by
    unfold zeroE at hz
    rw [hq] at hz
    simp only [hzv, Option.some.injEq] at hz
    have : z.length = zv.cells.size := by rw [← hz]; simp
    omega
  have hts0 : ts[0]? = some t0 := by rw [← Array.getElem?_toList, hts]; rfl
  have hts1 : ts[1]? = some t1 := by rw [← Array.getElem?_toList, hts]; rfl
  refine runOk_of fun c w E hh hw => ?_
  obtain ⟨G, hG⟩ := hh
  have hmem : ∀ u ∈ [x, y], u.wf E L := by
    rw [← hargs]
    intro u hu
    obtain ⟨k, _, rfl⟩ := List.mem_map.1 hu
    exact hw k
  have hmd : (match a.nsl with | 0 => PM.lend | _ => PM.frz) ≠ .own := by split <;> simp
  -- what is frozen
  have hups : ∀ q ∈ u2, ∃ t ys e, lkp q.1 = some e ∧ OwnE e t ys ∧ q.2 = .shr t ys := by
    intro q hq'
    rcases packS_ups hp2 with rfl | ⟨i, t', ys', e', hl, hoe, _, _, rfl⟩ | hx
    · cases hq'
    · rw [List.mem_singleton] at hq'; subst hq'; exact ⟨t', ys', e', hl, hoe, rfl⟩
    · exact absurd hx hmd
  obtain ⟨G1, k1, k2, k3, k4, k5⟩ := hG.known hlk hups
  have hrdall : ∀ i t zs, lkp i = some (.shr t zs) ∨ lkp i = some (.row t zs) → Rd (Rp G1 w t) t.sz w (E.nm i) zs := by
    intro i t zs hl
    rcases hl with hl | hl
    · exact shr_rd (k3.shr i t zs hl)
    · have := hG.ent i _ (hlk _ _ hl)
      have h2 := own_rd this
      exact ⟨h2.1, h2.2.1, h2.2.2.imp id fun ⟨p1, arr, ty, fz, p2, p3⟩ => ⟨p1, arr, ty, fz, p2, p3.imp fun x vs hx => Rp.mono (fun _ _ => rfl) k5 t x vs hx⟩⟩
  have hrd2 : Rd (Rp G1 w a) a.sz w (ne.nm E) ys := packS_rd hp2 hmd hnd (hmem y (by simp)) hrdall
  have hy := packS_den hp2 E
  have hbs1 : look (updL L u2) bs = some .rsv := by
    rw [k4 bs]; exact hbs
    intro hx
    obtain ⟨q', hq', he⟩ := List.mem_map.1 hx
    obtain ⟨t', ys', e', hl, hoe, _⟩ := hups q' hq'
    have := hlk _ _ hl
    rw [he, hbs] at this; cases this; cases hoe
  -- the machine's call
  have hrunc : ∀ (w' : World) (r : Value) (X : Value), x.den E = X → (Builtin.append_ ts o.type #[X, .slice (ne.nm E).ad (ne.nm E).len (ne.nm E).cap]).run P w = .ok r w' → (execOp (fun x => (ρ x).den E) o).run P w = .ok (.value r) w' := by
    intro w' r X hX hr
    have hargs' : (args.map fun x => (ρ x).den E) = #[X, .slice (ne.nm E).ad (ne.nm E).len (ne.nm E).cap] := by
      apply Array.ext'
      have : (args.toList.map ρ).map (SV.den E) = [X, .slice (ne.nm E).ad (ne.nm E).len (ne.nm E).cap] := by rw [hargs]; simp [hX, hy]
      rw [List.map_map] at this
      rw [Array.toList_map]
      exact this
    simp only [execOp, hop, resolve, invoke, Sem.run_bind, Sem.run_pure, Result.andThen, hargs', builtin, hr]
  obtain ⟨news, n1, n2, n3, n4⟩ := rd_first (P := P) hrd2
  have hylen := hrd2.1
  -- a nil result
  have nilCase : ∀ (L2 : Store) (od : Option Addr), Holds c G1 w E L2 → look L2 bs = some .rsv → xs ++ ys = [] → updL L (u2 ++ u1 ++ fin keep bs a (xs ++ ys)) = updL L2 (fin keep bs a (xs ++ ys)) → (∀ n, Al L n → Al L2 n) →
      (execOp (fun x => (ρ x).den E) o).run P w = .ok (.value (.slice od 0 0)) w →
      ∃ (w' : World) (E' : Env) (nx : Next), (execOp (fun x => (ρ x).den E) o).run P w = .ok nx w' ∧ (nx = .value ((SV.slw bs).den E') ∨ (nx = .skip ∧ (SV.slw bs) = undefV)) ∧
      Hd c w' E' (updL L (u2 ++ u1 ++ fin keep bs a (xs ++ ys))) ∧ (∀ n, Al L n → E'.nm n = E.nm n ∧ Al (updL L (u2 ++ u1 ++ fin keep bs a (xs ++ ys))) n) ∧ E'.ds = E.ds ∧ (SV.slw bs).wf E' (updL L (u2 ++ u1 ++ fin keep bs a (xs ++ ys))) := by
    intro L2 od hH hr hnil hups hal hrun
    rw [hups, hnil]
    have h1 := hH.change (i := bs) (e' := .row a []) (m := ⟨0, 0, true, 0, 0, od⟩) (w' := w) (look_lt hr) (.refl _) (Nat.le_refl _) (fun hx => absurd hx (not_al hr)) rfl (fun _ _ _ => rfl) (fun b hb => by cases hb) (fun _ _ _ _ _ _ hb => by cases hb)
      (fun _ => ⟨rfl, trivial, .inl ⟨rfl, rfl, rfl⟩⟩)
    obtain ⟨f1, f2, f3⟩ := hd_finish keep (look_lt hr) h1
    refine ⟨w, E.set bs ⟨0, 0, true, 0, 0, od⟩, _, hrun, .inl ?_, f1, fun n hn => ⟨E.set_ne _ (fun he => not_al (he ▸ hbs) hn), f2 n (al_upd rfl n (hal n hn))⟩, rfl, f3⟩
    simp [SV.den, Env.set_eq, Nm.ad]
  -- a new block
  have growCase : ∀ (L2 : Store) (m : Nm), Holds c G1 w E L2 → look L2 bs = some .rsv → Rd (Rp G1 w a) a.sz w m xs → x.den E = .slice m.ad m.len m.cap → m.cap < m.len + (ne.nm E).len → updL L (u2 ++ u1 ++ fin keep bs a (xs ++ ys)) = updL L2 (fin keep bs a (xs ++ ys)) → (∀ n, Al L n → Al L2 n) →
      ∃ (w' : World) (E' : Env) (nx : Next), (execOp (fun x => (ρ x).den E) o).run P w = .ok nx w' ∧ (nx = .value ((SV.slw bs).den E') ∨ (nx = .skip ∧ (SV.slw bs) = undefV)) ∧
      Hd c w' E' (updL L (u2 ++ u1 ++ fin keep bs a (xs ++ ys))) ∧ (∀ n, Al L n → E'.nm n = E.nm n ∧ Al (updL L (u2 ++ u1 ++ fin keep bs a (xs ++ ys))) n) ∧ E'.ds = E.ds ∧ (SV.slw bs).wf E' (updL L (u2 ++ u1 ++ fin keep bs a (xs ++ ys))) := by
    intro L2 m hH hr hrd1 hx hgrow hups hal
    rw [hups]
    obtain ⟨olds, o1, o2, o3, o4⟩ := rd_first (P := P) hrd1
    obtain ⟨c', hc', hrun⟩ := run_append_grow (P := P) (w := w) (ty := o.type) (a := m.ad) (b := (ne.nm E).ad) (len := m.len) (cap := m.cap) (n := (ne.nm E).len) (c := (ne.nm E).cap) (news := news) (olds := olds) hts0 hts1 hu hu1 hq hzv hqb
      (by rw [hqa]; have := n2 w.drew rfl; rw [hylen]; rw [hylen] at this; exact this)
      (by rw [hqa]; have := o2 w.drew rfl; rw [hrd1.1]; rw [hrd1.1] at this; exact this) hgrow (by rw [hrd1.1, hylen]; exact hby)
    have hsz : (olds.toArray ++ news.toArray ++ Builtin.zeroCells zv.cells (c' - (m.len + (ne.nm E).len))).size = c' * a.sz := by
      have hzs : (Builtin.zeroCells zv.cells (c' - (m.len + (ne.nm E).len))).size = (c' - (m.len + (ne.nm E).len)) * a.sz := by
        simp [Builtin.zeroCells, hzc]
      simp only [Array.size_append, hzs, List.size_toArray, o1, n1]
      rw [← hrd1.1, ← hylen, ← Nat.add_mul, ← Nat.add_mul]
      congr 1; omega
    have hrow : RowsIn (Rp G1 w a) a.sz (olds.toArray ++ news.toArray ++ Builtin.zeroCells zv.cells (c' - (m.len + (ne.nm E).len))) 0 (xs ++ ys) := by
      refine RowsIn.append (o3 _ _ ?_) ?_
      rotate_left
      rw [Nat.zero_add]
      refine n3 _ _ ?_
      rotate_left
      · apply List.ext_getElem?
        intro j
        rw [cellsAt_get]
        split
        · rw [Nat.zero_add, Array.getElem?_append_left (by simp; omega), Array.getElem?_append_left (by simp; omega)]; simp
        · rw [List.getElem?_eq_none (by omega)]
      · apply List.ext_getElem?
        intro j
        rw [cellsAt_get]
        split
        · rw [Array.getElem?_append_left (by simp; omega), Array.getElem?_append_right (by simp; omega)]
          simp only [List.size_toArray, o1, List.getElem?_toArray]
          congr 1; omega
        · rw [List.getElem?_eq_none (by omega)]
    obtain ⟨h1, h2⟩ := hH.newBlk hr (w' := w.drew.alloc (.cells (olds.toArray ++ news.toArray ++ Builtin.zeroCells zv.cells (c' - (m.len + (ne.nm E).len))) e)) (ob := .cells (olds.toArray ++ news.toArray ++ Builtin.zeroCells zv.cells (c' - (m.len + (ne.nm E).len))) e (0, 0)) rfl ⟨rfl, rfl, rfl⟩ (e := .row a (xs ++ ys)) (m := ⟨w.heap.size, 0, false, (xs ++ ys).length, c', none⟩) rfl ⟨rfl, rfl, rfl⟩
      (fun hnew hold hG hsame => ⟨rfl, trivial, .inr ⟨rfl, hG, hold, by have := hrd1.1; simp; omega, _, e, hnew, by rw [hsz]; show 0 + c' * a.sz ≤ _; omega, hrow.imp fun x vs hx => Rp.mono hsame (fun _ h => h) a x vs hx⟩⟩)
    obtain ⟨f1, f2, f3⟩ := hd_finish keep (look_lt hr) h1
    refine ⟨_, _, _, hrunc _ _ _ hx hrun, .inl ?_, f1, fun n hn => ⟨E.set_ne _ (fun he => not_al (he ▸ hbs) hn), f2 n (al_upd rfl n (hal n hn))⟩, rfl, f3⟩
    have hlen : m.len + (ne.nm E).len = (xs ++ ys).length := by rw [hrd1.1, hylen]; simp
    simp [SV.den, Env.set_eq, Nm.ad, hlen]
  rcases packApp_own hp1 with ⟨rfl, rfl, rfl, rfl⟩ | ⟨i, zs, nn, hl, rfl, hxs, hcut⟩
  · -- nothing yet
    have hxd : SV.nils.den E = .slice none 0 0 := rfl
    have hupsE : updL L (u2 ++ [] ++ fin keep bs a ([] ++ ys)) = updL (updL L u2) (fin keep bs a ([] ++ ys)) := by simp [updL_append]
    by_cases hn : ys = []
    · have hyl : (ne.nm E).len = 0 := by rw [hylen, hn]; rfl
      refine nilCase (updL L u2) none k1 hbs1 (by simp [hn]) hupsE k2 ?_
      refine hrunc w _ _ hxd ?_
      have := run_append_in (P := P) (w := w) (w' := w) (ty := o.type) (a := none) (b := (ne.nm E).ad) (len := 0) (cap := 0) (n := (ne.nm E).len) (c := (ne.nm E).cap) (news := news) hts0 hts1 hu hu1 hq
        (by rw [hqa]; have := n2 w rfl; rw [hylen]; rw [hylen] at this; exact this) (by omega) rfl
      rw [hyl] at this
      rw [hyl]; exact this
    · refine growCase (updL L u2) ⟨0, 0, true, 0, 0, none⟩ k1 hbs1 ⟨rfl, Nat.le_refl _, .inl rfl⟩ (by rw [hxd]; rfl) ?_ hupsE k2
      have : 0 < ys.length := by
        cases ys with
        | nil => exact absurd rfl hn
        | cons _ _ => simp
      show 0 < 0 + (ne.nm E).len
      omega
  · -- a row
    have hiu2 : i ∉ u2.map (·.1) := by
      intro hx
      obtain ⟨q', hq', he⟩ := List.mem_map.1 hx
      have := List.all_eq_true.1 hdis (i, .dead) (by simp)
      have := List.all_eq_true.1 this q' hq'
      simp [he] at this
    have hli : look (updL L u2) i = some (.row a zs) := by rw [k4 i hiu2]; exact hlk _ _ hl
    have hown0 := k1.ent i _ hli
    obtain ⟨hnn, hxd0⟩ := hcut E L (hmem x (by simp)) hown0.1
    have hown := own_cut hown0 hnn
    rw [← hxs] at hown
    have hrd1 := own_rd hown
    have hxd : x.den E = .slice ((E.nm i).cut nn).ad ((E.nm i).cut nn).len ((E.nm i).cut nn).cap := hxd0
    have hkill := k1.kill (look_lt hli)
    have hib : i ≠ bs := by
      intro he; rw [he, hbs1] at hli; cases hli
    have hbs2 : look (upd (updL L u2) (i, .dead)) bs = some .rsv := by rw [look_upd (look_lt hli), if_neg (fun he => hib he.symm)]; exact hbs1
    have hupsE : updL L (u2 ++ [(i, .dead)] ++ fin keep bs a (xs ++ ys)) = updL (upd (updL L u2) (i, .dead)) (fin keep bs a (xs ++ ys)) := by rw [updL_append, updL_append]; rfl
    have hal2 : ∀ n, Al L n → Al (upd (updL L u2) (i, .dead)) n := fun n hn => al_upd rfl n (k2 n hn)
    by_cases hgrow : ((E.nm i).cut nn).cap < ((E.nm i).cut nn).len + (ne.nm E).len
    · exact growCase _ ((E.nm i).cut nn) hkill hbs2 hrd1 hxd hgrow hupsE hal2
    · obtain ⟨p1, p2, p3⟩ := hown
      rcases p3 with ⟨p4, p5, p6⟩ | ⟨p4, p5, p6, p7, arr, ty, p8, p9, p10⟩
      · -- nil
        have hlen0 : ((E.nm i).cut nn).len = 0 := by rw [p1, p5]; rfl
        have hyl : (ne.nm E).len = 0 := by omega
        have hyn : ys = [] := by
          cases ys with
          | nil => rfl
          | cons _ _ => simp at hylen; omega
        refine nilCase _ (E.nm i).odd hkill hbs2 (by simp [p5, hyn]) hupsE hal2 ?_
        refine hrunc w _ _ hxd ?_
        have hnw : news = [] := by
          have : ys.length = 0 := by rw [hyn]; rfl
          exact List.length_eq_zero_iff.1 (by rw [n1, this, Nat.zero_mul])
        have := run_append_in (P := P) (w := w) (w' := w) (ty := o.type) (a := (E.nm i).odd) (b := (ne.nm E).ad) (len := 0) (cap := 0) (n := (ne.nm E).len) (c := (ne.nm E).cap) (news := news) hts0 hts1 hu hu1 hq
          (by rw [hqa]; have := n2 w rfl; rw [hylen]; rw [hylen] at this; exact this) (by omega) (by rw [hnw]; split <;> rfl)
        rw [hyl] at this
        have had : ((E.nm i).cut nn).ad = (E.nm i).odd := by unfold Nm.ad; rw [if_pos p4]; rfl
        rw [had, hlen0, p6, hyl]; exact this
      · -- in place
        have hfit : ((E.nm i).cut nn).len + (ne.nm E).len ≤ ((E.nm i).cut nn).cap := by omega
        have hmul : (xs.length + ys.length) * a.sz ≤ ((E.nm i).cut nn).cap * a.sz := Nat.mul_le_mul_right _ (by omega)
        rw [Nat.add_mul] at hmul
        obtain ⟨w', s1, s2, s3, s4, s5⟩ := run_storeCellsF (P := P) (off := ((E.nm i).cut nn).off + ((E.nm i).cut nn).len * a.sz) news w arr 0 (fun j hj => ((E.nm i).cut nn).fr_out hj) p8 n4 (by rw [n1, p1]; omega)
        rw [Nat.add_zero] at s4
        have hrun := run_append_in (P := P) (w := w) (w' := w') (ty := o.type) (a := ((E.nm i).cut nn).ad) (b := (ne.nm E).ad) (len := ((E.nm i).cut nn).len) (cap := ((E.nm i).cut nn).cap) (n := (ne.nm E).len) (c := (ne.nm E).cap) (news := news) hts0 hts1 hu hu1 hq
          (by rw [hqa]; have := n2 w rfl; rw [hylen]; rw [hylen] at this; exact this) hfit (by
            simp only [Nm.ad, p4, Bool.false_eq_true, if_false]
            rw [hqa, add_loc]; exact s1)
        have hGs : ∀ b, G1 b → w'.heap[b]? = w.heap[b]? := fun b hb => s5 b (fun he => p5 (he ▸ hb))
        have hrow : RowsIn (Rp G1 w' a) a.sz (spl arr (((E.nm i).cut nn).off + ((E.nm i).cut nn).len * a.sz) news) ((E.nm i).cut nn).off (xs ++ ys) := by
          refine RowsIn.imp (R := Rp G1 w a) ?_ (fun x vs hx => Rp.mono hGs (fun _ h => h) a x vs hx)
          refine RowsIn.append (p10.of_cells ?_) (n3 _ _ ?_)
          · rw [p1, cellsAt_spl_out]; omega
          · rw [p1, ← n1, cellsAt_spl_in]; omega
        have h1 := hkill.change (i := bs) (e' := .row a (xs ++ ys)) (m := { blk := ((E.nm i).cut nn).blk, off := ((E.nm i).cut nn).off, nil := false, len := (xs ++ ys).length, cap := ((E.nm i).cut nn).cap, odd := none, fz := (E.nm i).fz }) (w' := w') (look_lt hbs2) s2 (by omega) (fun hx => absurd hx (not_al hbs2)) rfl
          (fun b _ hb => s5 b (fun he => hb (by simp [Ent.own, he])))
          (fun b hb => by simp only [Ent.own, Bool.false_eq_true, if_false, Option.some.injEq] at hb; subst hb; exact ⟨p6, p5⟩)
          (by
            intro k f hk hf b hb he
            simp only [Ent.own, Bool.false_eq_true, if_false, Option.some.injEq] at he
            rw [look_upd (look_lt hli)] at hf
            by_cases hki : k = i
            · subst hki; simp only [if_true, Option.some.injEq] at hf; subst hf; rcases hb with hb | ⟨hb, _⟩ <;> cases hb
            · rw [if_neg hki] at hf
              refine k1.inj k i f _ b hki hf hli hb (.inl ?_)
              have p4' : (E.nm i).nil = false := p4
              have he' : (E.nm i).blk = b := he
              simp [Ent.own, p4', he'])
          (fun _ => ⟨rfl, trivial, .inr ⟨rfl, p5, p6, by simp; omega, spl arr (((E.nm i).cut nn).off + ((E.nm i).cut nn).len * a.sz) news, ty, by rw [spl_size]; exact s4, by rw [spl_size]; exact p9, hrow⟩⟩)
        obtain ⟨f1, f2, f3⟩ := hd_finish keep (look_lt hbs2) h1
        rw [hupsE]
        refine ⟨w', _, _, hrunc _ _ _ hxd hrun, .inl ?_, f1, fun n hn => ⟨E.set_ne _ (fun he => not_al (he ▸ hbs) hn), f2 n (al_upd rfl n (hal2 n hn))⟩, rfl, f3⟩
        have hlen : ((E.nm i).cut nn).len + (ne.nm E).len = (xs ++ ys).length := by rw [p1, hylen]; simp
        simp [SV.den, Env.set_eq, Nm.ad, hlen, p4]

def hdr (m : Nm) : Value := .slice m.ad m.len m.cap
theorem deepV_spec {a : Ty} {v : SV} {xs : List (List a.T)} {u : Ups} (h : deepV lkp a v = some (xs, u)) : (v = .nils ∧ xs = [] ∧ u = []) ∨ ∃ i, v = .slw i ∧ lkp i = some (.deep a xs none) ∧ u = [(i, .dead)] := by
  unfold deepV at h
  split at h
  · simp only [Option.some.injEq, Prod.mk.injEq] at h
    obtain ⟨rfl, rfl⟩ := h
    exact .inl ⟨rfl, rfl, rfl⟩
  · split at h
    rotate_left
    · cases h
    rename_i t xss hl
    split at h
    rotate_left
    · cases h
    rename_i he
    subst he
    simp only [Option.some.injEq, Prod.mk.injEq] at h
    obtain ⟨rfl, rfl⟩ := h
    exact .inr ⟨_, rfl, hl, rfl⟩
  · cases h

/-- The heads of a slice of slices. -/
structure Heads (P : Program) (c : Cfg TB) (G : Nat → Prop) (w : World) (m : Nm) (l : List Nat) (a : Ty) (xs : List (List a.T)) (hs : Nat → Nm) : Prop where
  rd : ∀ w' : World, w'.heap = w.heap → (Builtin.firstCells 1 xs.length (.slice m.ad m.len m.cap)).run P w' = .ok ((List.range xs.length).map fun k => hdr (hs k)).toArray w'
  inn : ∀ k v, xs[k]? = some v → Inner (Rp G w a) a.sz w (hs k) v ∧ ((hs k).nil = false → (hs k).blk ∈ l ∧ (m.nil = false → (hs k).blk ≠ m.blk))
  dis : ∀ k k', k < xs.length → k' < xs.length → k ≠ k' → (hs k).nil = false → (hs k').nil = false → (hs k).blk ≠ (hs k').blk
theorem DeepOk.heads {c : Cfg TB} {G : Nat → Prop} {w : World} {E : Env} {m : Nm} {l : List Nat} {a : Ty} {xs : List (List a.T)} (d : DeepOk c G w E L m l a xs none) : ∃ hs, Heads P c G w m l a xs hs ∧
    (m.nil = false → ∃ arr ty, w.heap[m.blk]? = some (.cells arr ty (0, 0)) ∧ arr.size = m.cap ∧ xs.length ≤ m.cap ∧ m.blk ∈ l ∧ ∀ k, k < xs.length → arr[k]? = some (hdr (hs k))) := by
  have hlive : ∀ k' j, (none : Option (Nat × Nat)) ≠ some (k', j) := fun _ _ he => by cases he
  rcases d.cs with ⟨h1, h2, h3⟩ | ⟨h1, h2, h3, arr, ty, hs, h4, h5, h6, h7, h8, h9⟩
  · subst h2
    refine ⟨fun _ => ⟨0, 0, true, 0, 0, none⟩, ⟨fun w' hw => ?_, fun k v hk => by simp at hk, fun k k' hk => by simp at hk⟩, fun hn => by rw [h1] at hn; cases hn⟩
    cases m.ad with
    | none => rfl
    | some p =>
      have := run_loadCells_list (P := P) w' p [] (fun j v hj => by simp at hj)
      exact this
  · refine ⟨hs, ⟨fun w' hw => ?_, fun k v hk => ?_, fun k k' hk hk' hkk => h8 k k' hk hk' hkk (hlive _) (hlive _)⟩, fun _ => ⟨arr, ty, h4, h5, h3, h2, h6⟩⟩
    · have hm : m.len = xs.length := d.len
      have hr := run_firstCells (P := P) (w := w') (size := 1) h1 (by rw [hw]; exact h4) (by rw [d.off]; omega)
      rw [hm] at hr ⊢
      rw [hr]
      congr 2
      apply List.ext_getElem?
      intro j
      rw [cellsAt_get, d.off]
      by_cases hj : j < xs.length
      · rw [if_pos (by omega), Nat.zero_add, h6 j hj]
        simp [hj, hdr]
      · rw [if_neg (by omega), List.getElem?_eq_none (by simp; omega)]
    · obtain ⟨q1, q2⟩ := h7 k v hk (hlive k)
      exact ⟨q1, fun hx => ⟨(q2 hx).1, fun _ => (q2 hx).2⟩⟩

theorem DeepOk.join {c : Cfg TB} {G : Nat → Prop} {w w' : World} {E' : Env} {L' : Store} {a : Ty} {xs ys : List (List a.T)} {hx hy : Nat → Nm} {mx my m : Nm} {lx ly l : List Nat} (kx : Heads P c G w mx lx a xs hx) (ky : Heads P c G w my ly a ys hy)
    (h1 : m.len = (xs ++ ys).length) (h2 : m.off = 0) (h3 : m.nil = false) (h4 : m.blk ∈ l) (h5 : (xs ++ ys).length ≤ m.cap) (hnd : l.Nodup) (hall : ∀ b ∈ l, ¬ G b ∧ ¬ c.Old b ∧ ∃ arr ty fz, w'.heap[b]? = some (.cells arr ty fz))
    {arr : Array Value} {ty : TypeId} (ha : w'.heap[m.blk]? = some (.cells arr ty (0, 0))) (hsz : arr.size = m.cap)
    (hc : ∀ k, k < (xs ++ ys).length → arr[k]? = some (hdr (if k < xs.length then hx k else hy (k - xs.length))))
    (hsx : ∀ b ∈ lx, b ∈ l) (hsy : ∀ b ∈ ly, b ∈ l) (hdis : ∀ b ∈ lx, b ∉ ly) (hmx : m.blk ∈ lx → mx.nil = false ∧ m.blk = mx.blk) (hmy : m.blk ∉ ly)
    (hw : ∀ b, b ∈ lx ∨ b ∈ ly → b ≠ m.blk → w'.heap[b]? = w.heap[b]?) (hG : ∀ b, G b → w'.heap[b]? = w.heap[b]?) : DeepOk c G w' E' L' m l a (xs ++ ys) none := by
  have hne : ∀ k v, xs[k]? = some v → (hx k).nil = false → (hx k).blk ≠ m.blk := by
    intro k v hk hn he
    obtain ⟨q1, q2⟩ := (kx.inn k v hk).2 hn
    obtain ⟨r1, r2⟩ := hmx (he ▸ q1)
    exact q2 r1 (he.trans r2)
  have hney : ∀ k v, ys[k]? = some v → (hy k).nil = false → (hy k).blk ≠ m.blk := by
    intro k v hk hn he
    exact hmy (he ▸ ((ky.inn k v hk).2 hn).1)
  refine ⟨h1, h2, hnd, hall, .inr ⟨h3, h4, h5, arr, ty, fun k => if k < xs.length then hx k else hy (k - xs.length), ha, hsz, hc, ?_, ?_, fun _ _ he => by cases he⟩⟩
  · intro k v hk _
    dsimp only
    by_cases hkx : k < xs.length
    · rw [if_pos hkx]
      rw [List.getElem?_append_left hkx] at hk
      obtain ⟨q1, q2⟩ := kx.inn k v hk
      exact ⟨q1.mono (fun x vs hx => Rp.mono hG (fun _ h => h) a x vs hx) (fun hn => hw _ (.inl (q2 hn).1) (hne k v hk hn)), fun hn => ⟨hsx _ (q2 hn).1, hne k v hk hn⟩⟩
    · rw [if_neg hkx]
      rw [List.getElem?_append_right (by omega)] at hk
      obtain ⟨q1, q2⟩ := ky.inn _ v hk
      exact ⟨q1.mono (fun x vs hx => Rp.mono hG (fun _ h => h) a x vs hx) (fun hn => hw _ (.inr (q2 hn).1) (hney _ v hk hn)), fun hn => ⟨hsy _ (q2 hn).1, hney _ v hk hn⟩⟩
  · intro i j hi hj hij _ _ hni hnj
    dsimp only at hni hnj ⊢
    rw [List.length_append] at hi hj
    by_cases hix : i < xs.length
    · rw [if_pos hix] at hni ⊢
      by_cases hjx : j < xs.length
      · rw [if_pos hjx] at hnj ⊢
        exact kx.dis i j hix hjx hij hni hnj
      · rw [if_neg hjx] at hnj ⊢
        intro he
        have q1 := ((kx.inn i _ (List.getElem?_eq_getElem hix)).2 hni).1
        have q2 := ((ky.inn (j - xs.length) _ (List.getElem?_eq_getElem (by omega))).2 hnj).1
        exact hdis _ q1 (he ▸ q2)
    · rw [if_neg hix] at hni ⊢
      have q2 := ((ky.inn (i - xs.length) _ (List.getElem?_eq_getElem (by omega))).2 hni).1
      by_cases hjx : j < xs.length
      · rw [if_pos hjx] at hnj ⊢
        intro he
        have q1 := ((kx.inn j _ (List.getElem?_eq_getElem hjx)).2 hnj).1
        exact hdis _ q1 (he ▸ q2)
      · rw [if_neg hjx] at hnj ⊢
        exact ky.dis _ _ (by omega) (by omega) (by omega) hni hnj

set_option maxHeartbeats 1000000 in
theorem appendD_ok0 {o : Oper} {ρ : Operand → SV} {args : Array Operand} {ts : Array TypeId} (hop : o.op = .call { callee := .builtin .append, args := args, argTypes := ts }) {x y : SV} (hargs : args.toList.map ρ = [x, y])
    {bs : Nat} (hlk : ∀ n e, lkp n = some e → look L n = some e) {v : SV} {ups : Ups} (h : appendD P lkp ts.toList x y true bs pr = some (v, ups)) : RunOk TB P o ρ L v ups := by
  unfold appendD at h
  split at h
  rotate_left
  · cases h
  rename_i t0 t1 hts
  split at h
  rotate_left
  · cases h
  rename_i e e1 hu hu1
  split at h
  rotate_left
  · cases h
  rename_i q a hq hz hty
  split at h
  rotate_left
  · cases h
  rename_i hc
  obtain ⟨hqs, hqb, hnew⟩ := hc
  split at h
  rotate_left
  · cases h
  rename_i xs u1 ys u2 hp1 hp2
  split at h
  rotate_left
  · cases h
  rename_i hdis
  split at h
  rotate_left
  · cases h
  rename_i hby
  simp only [pr, finD, List.append_nil, Option.some.injEq, Prod.mk.injEq] at h
  obtain ⟨rfl, rfl⟩ := h
  have hbs : look L bs = some .rsv := hlk _ _ (by have := newOk_spec hnew 0 (by omega); simpa using this)
  obtain ⟨zv, hzv, hzl⟩ : ∃ zv, q.zero = some zv ∧ zv.cells.toList.map ofCell = [.nils] := by
    unfold zeroE at hz
    rw [hq] at hz
    simp only at hz
    split at hz
    · simp only [Option.some.injEq] at hz
      exact ⟨_, by assumption, hz⟩
    · cases hz
  have hzc : zv.cells = #[.slice none 0 0] := by
    have := denL_ofCell (E := ⟨fun _ => ⟨0, 0, true, 0, 0, none⟩, fun _ => undef⟩) zv.cells.toList
    rw [hzl] at this
    apply Array.ext'
    exact this.symm
  have hts0 : ts[0]? = some t0 := by rw [← Array.getElem?_toList, hts]; rfl
  have hts1 : ts[1]? = some t1 := by rw [← Array.getElem?_toList, hts]; rfl
  refine runOk_of fun c w E hh hw => ?_
  obtain ⟨G, hG⟩ := hh
  -- the two slices
  have side : ∀ (v : SV) (zs : List (List a.T)) (u : Ups), deepV lkp a v = some (zs, u) → ∃ (m : Nm) (l : List Nat), v.den E = .slice m.ad m.len m.cap ∧ DeepOk c G w E L m l a zs none ∧
      ((u = [] ∧ l = [] ∧ m.nil = true) ∨ ∃ i, look L i = some (.deep a zs none) ∧ u = [(i, .dead)] ∧ l = E.ins.l i) := by
    intro v zs u hv
    rcases deepV_spec hv with ⟨rfl, rfl, rfl⟩ | ⟨i, rfl, hl, rfl⟩
    · exact ⟨⟨0, 0, true, 0, 0, none⟩, [], rfl, ⟨rfl, rfl, List.nodup_nil, (fun b hb => (by cases hb)), .inl ⟨rfl, rfl, rfl⟩⟩, .inl ⟨rfl, rfl, rfl⟩⟩
    · exact ⟨E.nm i, E.ins.l i, rfl, hG.dp i _ _ _ (hlk _ _ hl), .inr ⟨i, hlk _ _ hl, rfl, rfl⟩⟩
  obtain ⟨mx, lx, hxd, dx, sx⟩ := side x xs u1 hp1
  obtain ⟨my, ly, hyd, dy, sy⟩ := side y ys u2 hp2
  obtain ⟨hx, kx, ax⟩ := dx.heads (P := P)
  obtain ⟨hy, ky, ay⟩ := dy.heads (P := P)
  -- after both are given up
  obtain ⟨hH, hbs1, hal, hnox, hnoy, hxy⟩ : Holds c G w E (updL L (u1 ++ u2)) ∧ look (updL L (u1 ++ u2)) bs = some .rsv ∧ (∀ n, Al L n → Al (updL L (u1 ++ u2)) n) ∧ (∀ b ∈ lx, NoOwn E (updL L (u1 ++ u2)) b) ∧ (∀ b ∈ ly, NoOwn E (updL L (u1 ++ u2)) b) ∧ (∀ b ∈ lx, b ∉ ly) := by
    have kill1 : ∀ (L : Store), Holds c G w E L → ∀ (i : Nat) (zs : List (List a.T)), look L i = some (.deep a zs none) → look L bs = some .rsv → Holds c G w E (updL L [(i, .dead)]) ∧ look (updL L [(i, .dead)]) bs = some .rsv ∧ (∀ n, Al L n → Al (updL L [(i, .dead)]) n) ∧ (∀ b ∈ E.ins.l i, NoOwn E (updL L [(i, .dead)]) b) := by
      intro L hG i zs hi hb
      have hib : bs ≠ i := by rintro rfl; rw [hi] at hb; cases hb
      refine ⟨hG.kill (look_lt hi), ?_, fun n hn => al_upd rfl n hn, fun b hbm => noOwn_kill hG hi (Ent.ow_deep.2 hbm)⟩
      show look (upd L (i, .dead)) bs = _
      rw [look_upd (look_lt hi), if_neg hib]; exact hb
    rcases sx with ⟨rfl, rfl, _⟩ | ⟨i, hi, rfl, rfl⟩
    · rcases sy with ⟨rfl, rfl, _⟩ | ⟨j, hj, rfl, rfl⟩
      · exact ⟨hG, hbs, fun _ h => h, (fun b hb => (by cases hb)), (fun b hb => (by cases hb)), (fun b hb => (by cases hb))⟩
      · obtain ⟨k1, k2, k3, k4⟩ := kill1 L hG j _ hj hbs
        exact ⟨k1, k2, k3, (fun b hb => (by cases hb)), k4, (fun b hb => (by cases hb))⟩
    · obtain ⟨k1, k2, k3, k4⟩ := kill1 L hG i _ hi hbs
      rcases sy with ⟨rfl, rfl, _⟩ | ⟨j, hj, rfl, rfl⟩
      · exact ⟨k1, k2, k3, k4, (fun b hb => (by cases hb)), (fun b _ hb => (by cases hb))⟩
      · have hij : i ≠ j := by
          rintro rfl
          have := List.all_eq_true.1 hdis (i, .dead) (by simp)
          simp at this
        have hj1 : look (updL L [(i, .dead)]) j = some (.deep a ys none) := by
          show look (upd L (i, .dead)) j = _
          rw [look_upd (look_lt hi), if_neg (fun he => hij he.symm)]; exact hj
        obtain ⟨q1, q2, q3, q4⟩ := kill1 _ k1 j _ hj1 k2
        rw [← updL_append] at q1 q2 q3 q4
        refine ⟨q1, q2, fun n hn => q3 n (k3 n hn), ?_, q4, fun b hb hb' => hG.inj i j _ _ b hij hi hj (Ent.ow_deep.2 hb) (Ent.ow_deep.2 hb')⟩
        intro b hb
        rw [updL_append]
        exact (k4 b hb).kill (look_lt hj1)
  -- the machine's call
  have hrunc : ∀ (w' : World) (r : Value), (Builtin.append_ ts o.type #[.slice mx.ad mx.len mx.cap, .slice my.ad my.len my.cap]).run P w = .ok r w' → (execOp (fun x => (ρ x).den E) o).run P w = .ok (.value r) w' := by
    intro w' r hr
    have hargs' : (args.map fun x => (ρ x).den E) = #[.slice mx.ad mx.len mx.cap, .slice my.ad my.len my.cap] := by
      apply Array.ext'
      have : (args.toList.map ρ).map (SV.den E) = [.slice mx.ad mx.len mx.cap, .slice my.ad my.len my.cap] := by rw [hargs]; simp [hxd, hyd]
      rw [List.map_map] at this
      rw [Array.toList_map]
      exact this
    simp only [execOp, hop, resolve, invoke, Sem.run_bind, Sem.run_pure, Result.andThen, hargs', builtin, hr]
  have hxl := dx.len
  have hyl := dy.len
  have hfin : ∀ (w' : World) (m : Nm) (l : List Nat), Rest w w' → w.heap.size ≤ w'.heap.size → (∀ b, b < w.heap.size → b ∉ l → w'.heap[b]? = w.heap[b]?) → (∀ b ∈ l, NoOwn E (updL L (u1 ++ u2)) b) → (∀ (E' : Env) (L' : Store), DeepOk c G w' E' L' m l a (xs ++ ys) none) →
      (Builtin.append_ ts o.type #[.slice mx.ad mx.len mx.cap, .slice my.ad my.len my.cap]).run P w = .ok (.slice m.ad m.len m.cap) w' →
      ∃ (w' : World) (E' : Env) (nx : Next), (execOp (fun x => (ρ x).den E) o).run P w = .ok nx w' ∧ (nx = .value ((SV.slw bs).den E') ∨ (nx = .skip ∧ (SV.slw bs) = undefV)) ∧
      Hd c w' E' (updL L (u1 ++ u2 ++ [(bs, .deep a (xs ++ ys) none)])) ∧ (∀ n, Al L n → E'.nm n = E.nm n ∧ Al (updL L (u1 ++ u2 ++ [(bs, .deep a (xs ++ ys) none)])) n) ∧ E'.ds = E.ds ∧ (SV.slw bs).wf E' (updL L (u1 ++ u2 ++ [(bs, .deep a (xs ++ ys) none)])) := by
    intro w' m l r1 r2 r3 r4 r5 r6
    obtain ⟨g1, g2, g3, g4⟩ := hH.giveD hbs1 r1 r2 r3 r4 r5
    have eu : updL L (u1 ++ u2 ++ [(bs, .deep a (xs ++ ys) none)]) = upd (updL L (u1 ++ u2)) (bs, .deep a (xs ++ ys) none) := by rw [updL_append]; rfl
    rw [eu]
    refine ⟨w', _, _, hrunc _ _ r6, .inl ?_, ⟨G, g1⟩, fun n hn => g2 n (hal n hn), rfl, g3⟩
    simp only [SV.den]; rw [g4]
  by_cases hgrow : mx.cap < mx.len + my.len
  · -- a new block
    obtain ⟨c', hc', hrun⟩ := run_append_grow (P := P) (w := w) (ty := o.type) (a := mx.ad) (b := my.ad) (len := mx.len) (cap := mx.cap) (n := my.len) (c := my.cap) hts0 hts1 hu hu1 hq hzv hqb
      (by rw [hqs, hyl, ← hyl]; have := ky.rd w.drew rfl; rw [← hyl] at this; exact this)
      (by rw [hqs, hxl, ← hxl]; have := kx.rd w.drew rfl; rw [← hxl] at this; exact this) hgrow (by rw [hxl, hyl]; exact hby)
    have hold : ¬ c.Old w.heap.size := fun hx => by have := hx.1; have := hG.size; omega
    have hGn : ¬ G w.heap.size := fun hx => by have := hG.gin _ hx; omega
    have hsame : ∀ (ob : Obj) (b : Nat), b < w.heap.size → ((w.drew).alloc ob).heap[b]? = w.heap[b]? := by
      intro ob b hb
      show (w.heap.push ob)[b]? = _
      rw [Array.getElem?_push, if_neg (by omega)]
    have hnewb : ∀ (ob : Obj), ((w.drew).alloc ob).heap[w.heap.size]? = some ob := by
      intro ob
      show (w.heap.push ob)[w.heap.size]? = _
      simp
    have hltx : ∀ b ∈ lx, b < w.heap.size := fun b hb => by obtain ⟨_, _, _, _, _, h⟩ := dx.all b hb; exact blk_lt h
    have hlty : ∀ b ∈ ly, b < w.heap.size := fun b hb => by obtain ⟨_, _, _, _, _, h⟩ := dy.all b hb; exact blk_lt h
    refine hfin _ ⟨w.heap.size, 0, false, mx.len + my.len, c', none⟩ (w.heap.size :: (lx ++ ly)) ?_ ?_ ?_ ?_ ?_ hrun
    · exact ⟨rfl, rfl, rfl⟩
    · show _ ≤ (w.heap.push _).size; simp
    · exact fun b hb _ => hsame _ b hb
    · intro b hb
      rcases List.mem_cons.1 hb with rfl | hb
      · exact noOwn_new hH
      · rcases List.mem_append.1 hb with hb | hb
        · exact hnox b hb
        · exact hnoy b hb
    · intro E' L'
      refine DeepOk.join kx ky (by simp [hxl, hyl]) rfl rfl (by simp) (by simp [← hxl, ← hyl]; exact hc') ?_ ?_ (hnewb _) ?_ ?_ (fun b hb => by simp [hb]) (fun b hb => by simp [hb]) hxy (fun hm => ?_) (fun hm => ?_) (fun b hb _ => hsame _ b (hb.elim (hltx b) (hlty b))) (fun b hb => hsame _ b (hG.gin b hb))
      · refine List.nodup_cons.2 ⟨fun hm => ?_, List.nodup_append.2 ⟨dx.nd, dy.nd, fun b hb b' hb' he => hxy b hb (he ▸ hb')⟩⟩
        rcases List.mem_append.1 hm with hm | hm
        · have := hltx _ hm; omega
        · have := hlty _ hm; omega
      · intro b hb
        rcases List.mem_cons.1 hb with rfl | hb
        · exact ⟨hGn, hold, _, _, _, hnewb _⟩
        · rcases List.mem_append.1 hb with hb | hb
          · obtain ⟨q1, q2, arr, ty, fz, q3⟩ := dx.all b hb
            exact ⟨q1, q2, arr, ty, fz, by rw [hsame _ b (hltx b hb)]; exact q3⟩
          · obtain ⟨q1, q2, arr, ty, fz, q3⟩ := dy.all b hb
            exact ⟨q1, q2, arr, ty, fz, by rw [hsame _ b (hlty b hb)]; exact q3⟩
      · simp [Builtin.zeroCells, hzc]
        omega
      · intro k hk
        rw [List.length_append] at hk
        rw [Array.getElem?_append_left (by simp; omega)]
        by_cases hkx : k < xs.length
        · rw [if_pos hkx, Array.getElem?_append_left (by simp; omega)]
          simp [List.getElem?_range (show k < mx.len by omega)]
        · rw [if_neg hkx, Array.getElem?_append_right (by simp; omega)]
          have hk2 : k - xs.length < my.len := by omega
          simp [hxl, List.getElem?_range hk2]
      · have := hltx _ hm; simp at this
      · have := hlty _ hm; simp at this
  · -- in place, or nothing
    cases hnx : mx.nil with
    | true =>
      rcases dx.cs with ⟨_, h2, h3⟩ | ⟨h1, _⟩
      rotate_left
      · rw [hnx] at h1; cases h1
      have hx0 : mx.len = 0 := by rw [hxl, h2]; rfl
      have hy0 : my.len = 0 := by omega
      have hys : ys = [] := by
        cases ys with
        | nil => rfl
        | cons _ _ => simp at hyl; omega
      have hadx : mx.ad = mx.odd := by simp [Nm.ad, hnx]
      have hrun := run_append_in (P := P) (w := w) (w' := w) (ty := o.type) (a := mx.odd) (b := my.ad) (len := 0) (cap := 0) (n := my.len) (c := my.cap) (news := []) hts0 hts1 hu hu1 hq
        (by rw [hqs]; have := ky.rd w rfl; rw [← hyl, hy0] at this; rw [hy0]; exact this) (by omega) (by split <;> rfl)
      refine hfin w ⟨0, 0, true, 0, 0, mx.odd⟩ [] (.refl _) (Nat.le_refl _) (fun _ _ _ => rfl) (fun b hb => (by cases hb)) (fun E' L' => ⟨by simp [h2, hys], rfl, List.nodup_nil, (fun b hb => (by cases hb)), .inl ⟨rfl, by simp [h2, hys], rfl⟩⟩) ?_
      rw [hadx, hx0, h3, hrun, hy0]
      rfl
    | false =>
      obtain ⟨arr, ty, p1, p2, p3, p4, p5⟩ := ax hnx
      have hnl : ((List.range ys.length).map fun k => hdr (hy k)).length = ys.length := by simp
      obtain ⟨w', s1, s2, s3, s4, s5⟩ := run_storeCells (P := P) (off := mx.len) ((List.range ys.length).map fun k => hdr (hy k)) w arr 0 p1 (by
          intro u hu
          obtain ⟨k, _, rfl⟩ := List.mem_map.1 hu
          exact ⟨fun c h => (by cases h), fun c h => (by cases h)⟩) (by rw [hnl]; omega)
      rw [Nat.add_zero] at s4
      have hadx : mx.ad = some ⟨mx.blk, 0, none⟩ := by simp [Nm.ad, hnx, dx.off]
      have hrun := run_append_in (P := P) (w := w) (w' := w') (ty := o.type) (a := mx.ad) (b := my.ad) (len := mx.len) (cap := mx.cap) (n := my.len) (c := my.cap) (news := (List.range ys.length).map fun k => hdr (hy k)) hts0 hts1 hu hu1 hq
        (by rw [hqs]; have := ky.rd w rfl; rw [← hyl] at this ⊢; exact this) (by omega) (by
          rw [hadx]
          simp only
          rw [hqs, add_loc, Nat.zero_add, Nat.mul_one]; exact s1)
      have hmy : mx.blk ∉ ly := hxy _ p4
      refine hfin w' ⟨mx.blk, 0, false, mx.len + my.len, mx.cap, none⟩ (lx ++ ly) s2 (by omega) (fun b _ hb => s5 b (fun he => hb (by rw [he]; simp [p4]))) ?_ ?_ ?_
      · intro b hb
        rcases List.mem_append.1 hb with hb | hb
        · exact hnox b hb
        · exact hnoy b hb
      · intro E' L'
        refine DeepOk.join kx ky (by simp [hxl, hyl]) rfl rfl (by simp [p4]) (by simp [← hxl, ← hyl]; omega) (List.nodup_append.2 ⟨dx.nd, dy.nd, fun b hb b' hb' he => hxy b hb (he ▸ hb')⟩) ?_ s4 (by rw [spl_size]; exact p2) ?_ (fun b hb => by simp [hb]) (fun b hb => by simp [hb]) hxy (fun _ => ⟨hnx, rfl⟩) hmy (fun b _ hb => s5 b hb) (fun b hb => s5 b (fun he => (dx.all _ p4).1 (he ▸ hb)))
        · intro b hb
          by_cases hbm : b = mx.blk
          · subst hbm
            exact ⟨(dx.all _ p4).1, (dx.all _ p4).2.1, _, _, _, s4⟩
          · rw [s5 b hbm]
            rcases List.mem_append.1 hb with hb | hb
            · exact dx.all b hb
            · exact dy.all b hb
        · intro k hk
          rw [List.length_append] at hk
          rw [spl_get, hnl]
          by_cases hkx : k < xs.length
          · rw [if_neg (by omega), if_pos hkx]; exact p5 k hkx
          · rw [if_pos (by omega), if_neg hkx]
            have : k - xs.length < ys.length := by omega
            rw [hxl]
            simp [this]
      · rw [hrun, hadx]
        rfl
/-- What was made is written no more. -/
theorem RunOk.frzD {o : Oper} {ρ : Operand → SV} {bs : Nat} {a : Ty} {xs : List (List a.T)} {ups : Ups} (h : RunOk TB P o ρ L (.slw bs) ups) (hl : look (updL L ups) bs = some (.deep a xs none)) :
    RunOk TB P o ρ L (.slw bs) (ups ++ [(bs, .shr (.slice a) xs)]) := by
  intro c w E hh hw ac next Q ha hn
  refine h c w E hh hw ac next Q ha fun E' w' k1 k2 k3 k4 => ?_
  obtain ⟨G, hG⟩ := k1
  have hlt := look_lt hl
  have e : updL L (ups ++ [(bs, .shr (.slice a) xs)]) = upd (updL L ups) (bs, .shr (.slice a) xs) := by rw [updL_append]; rfl
  refine hn E' w' (by rw [e]; exact ⟨_, hG.freezeD hl⟩) (fun n hn' => ⟨(k2 n hn').1, by rw [e]; exact al_upd rfl n (k2 n hn').2⟩) k3 (by rw [e]; exact al_upd rfl bs k4)
theorem appendD_ok {o : Oper} {ρ : Operand → SV} {args : Array Operand} {ts : Array TypeId} (hop : o.op = .call { callee := .builtin .append, args := args, argTypes := ts }) {x y : SV} (hargs : args.toList.map ρ = [x, y])
    {keep : Bool} {bs : Nat} (hlk : ∀ n e, lkp n = some e → look L n = some e) {v : SV} {ups : Ups} (h : appendD P lkp ts.toList x y keep bs pr = some (v, ups)) : RunOk TB P o ρ L v ups := by
  cases keep with
  | true => exact appendD_ok0 hop hargs hlk h
  | false =>
    have key : ∃ (a : Ty) (xs : List (List a.T)) (u0 : Ups), appendD P lkp ts.toList x y true bs pr = some (.slw bs, u0 ++ [(bs, .deep a xs none)]) ∧ v = .slw bs ∧ ups = u0 ++ [(bs, .deep a xs none)] ++ [(bs, .shr (.slice a) xs)] ∧ newOk lkp bs 1 = true := by
      unfold appendD at h ⊢
      split at h
      rotate_left
      · cases h
      rename_i t0 t1 hts
      split at h
      rotate_left
      · cases h
      rename_i e e1 hu hu1
      split at h
      rotate_left
      · cases h
      rename_i q a hq hz hty
      split at h
      rotate_left
      · cases h
      rename_i hc
      split at h
      rotate_left
      · cases h
      rename_i xs u1 ys u2 hp1 hp2
      split at h
      rotate_left
      · cases h
      rename_i hdis
      split at h
      rotate_left
      · cases h
      rename_i hby
      simp only [pr, finD, Option.some.injEq, Prod.mk.injEq] at h
      obtain ⟨rfl, rfl⟩ := h
      refine ⟨a, xs ++ ys, u1 ++ u2, ?_, rfl, rfl, hc.2.2⟩
      simp only [hc, hby, pr, finD, List.append_nil, and_self, if_true, ne_eq, not_false_eq_true]
    obtain ⟨a, xs, u0, h1, rfl, rfl, hnew⟩ := key
    have hbs : look L bs = some .rsv := hlk _ _ (by have := newOk_spec hnew 0 (by omega); simpa using this)
    refine (appendD_ok0 hop hargs hlk h1).frzD ?_
    rw [updL_append]
    show look (upd (updL L u0) (bs, .deep a xs none)) bs = _
    rw [look_upd (by rw [updL_length]; exact look_lt hbs), if_pos rfl]
end

end Go.V3
