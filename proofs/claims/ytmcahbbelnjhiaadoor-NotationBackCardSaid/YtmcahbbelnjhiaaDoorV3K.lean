/-
  Part K: what is reckoned of loads and stores is what the machine does.
-/
import Derived.Test.YtmcahbbelnjhiaaDoorV3W
set_option linter.unusedVariables false
namespace Go.V3
open Go
variable {TB : Tb}

/-- An operation leads to a value and to changes of the store. -/
def RunOk (TB : Tb) (P : Program) (o : Oper) (ρ : Operand → SV) (L : Store) (v : SV) (ups : Ups) : Prop :=
  ∀ (c : Cfg TB) (w : World) (E : Env), Hd c w E L → (∀ x, (ρ x).wf E L) → ∀ (a : Act) (next : Act → World → Prop) (Q : Exit → Act → World → Prop), execOp a.eval o = execOp (fun x => (ρ x).den E) o →
    (∀ E' w', Hd c w' E' (updL L ups) → (∀ n, Al L n → E'.nm n = E.nm n ∧ Al (updL L ups) n) → E'.ds = E.ds → v.wf E' (updL L ups) → next (a.put o.dst (v.den E')) w') → o.wp P a w next Q

theorem runOk_of {P : Program} {o : Oper} {ρ : Operand → SV} {L : Store} {v : SV} {ups : Ups}
    (h : ∀ (c : Cfg TB) (w : World) (E : Env), Hd c w E L → (∀ x, (ρ x).wf E L) → ∃ (w' : World) (E' : Env) (nx : Next), (execOp (fun x => (ρ x).den E) o).run P w = .ok nx w' ∧ (nx = .value (v.den E') ∨ (nx = .skip ∧ v = undefV)) ∧
      Hd c w' E' (updL L ups) ∧ (∀ n, Al L n → E'.nm n = E.nm n ∧ Al (updL L ups) n) ∧ E'.ds = E.ds ∧ v.wf E' (updL L ups)) : RunOk TB P o ρ L v ups := by
  intro c w E hh hw a next Q ha hn
  obtain ⟨w', E', nx, h1, h2, h3, h4, h5, h6⟩ := h c w E hh hw
  show o.upon P a next Q ((execOp a.eval o).run P w)
  rw [ha, h1]
  rcases h2 with rfl | ⟨rfl, rfl⟩
  · exact hn E' w' h3 h4 h5 h6
  · exact hn E' w' h3 h4 h5 h6

section
variable {P : Program} {lkp : Nat → Option Ent} {L : Store}

theorem denL_drop_take (E : Env) (cs : List SV) (off n : Nat) : denL E ((cs.drop off).take n) = cellsAt (denL E cs).toArray off n := by
  unfold cellsAt
  simp [denL_map, List.map_take, List.map_drop]

theorem wfL_drop_take {E : Env} {cs : List SV} (h : wfL E L cs) (off n : Nat) : wfL E L ((cs.drop off).take n) :=
  wfL_mem.2 fun v hv => wfL_mem.1 h v (List.mem_of_mem_drop (List.mem_of_mem_take hv))

theorem run_load_agg {w : World} {b off : Nat} {t : TypeId} {q : TypeInfo} {d : TypeDesc} {arr : Array Value} {ty : TypeId} {fz : Nat × Nat} (hq : P.info? t = some q) (hd : P.underlying t = some d) (ha : isAggT P t = true)
    (h : w.heap[b]? = some (.cells arr ty fz)) (hn : off + q.size ≤ arr.size) : (Instr.loadAt t (.pointer (some ⟨b, off, none⟩))).run P w = .ok (.agg (cellsAt arr off q.size).toArray) w := by
  have := run_loadCells (P := P) w h hn
  simp [Instr.loadAt, Instr.sureAddr, loadVar, isAggT_run w hd, ha, sizeOf, typeInfo, hq, this]
theorem run_load_one {w : World} {b off : Nat} {t : TypeId} {d : TypeDesc} {arr : Array Value} {ty : TypeId} {fz : Nat × Nat} {x : Value} (hd : P.underlying t = some d) (ha : isAggT P t = false)
    (h : w.heap[b]? = some (.cells arr ty fz)) (hx : arr[off]? = some x) : (Instr.loadAt t (.pointer (some ⟨b, off, none⟩))).run P w = .ok x w := by
  have : w.cell? ⟨b, off, none⟩ = some x := by simp [World.cell?, h, hx]
  simp [Instr.loadAt, Instr.sureAddr, loadVar, isAggT_run w hd, ha, this]

theorem Nm.arr_size (m : Nm) (l : List Value) : (m.arr l).size = m.pp.pre.length + l.length + m.pp.post.length := by simp [Nm.arr]; omega
theorem Nm.arr_nil {m : Nm} (l : List Value) (h1 : m.pp.pre = []) (h2 : m.pp.post = []) : m.arr l = l.toArray := by simp [Nm.arr, h1, h2]
theorem Nm.arr_get (m : Nm) {l : List Value} {k : Nat} (hk : k < l.length) : (m.arr l)[m.pp.pre.length + k]? = l[k]? := by
  simp only [Nm.arr, List.getElem?_toArray]
  rw [List.append_assoc, List.getElem?_append_right (by omega), List.getElem?_append_left (by omega)]
  congr 1; omega
theorem Nm.arr_cells (m : Nm) {l : List Value} {off n : Nat} (h : off + n ≤ l.length) : cellsAt (m.arr l) (m.pp.pre.length + off) n = cellsAt l.toArray off n := by
  apply List.ext_getElem?
  intro i
  unfold cellsAt
  rw [List.getElem?_take, List.getElem?_take]
  split
  · rename_i hi
    have h1 := m.arr_get (l := l) (k := off + i) (by omega)
    rw [List.getElem?_drop, List.getElem?_drop]
    rw [← Nat.add_assoc] at h1
    simpa using h1
  · rfl
theorem Nm.arr_set (m : Nm) {l : List Value} {k : Nat} (hk : k < l.length) (v : Value) : (m.arr l).setIfInBounds (m.pp.pre.length + k) v = m.arr (l.set k v) := by
  simp only [Nm.arr, List.setIfInBounds_toArray]
  rw [List.append_assoc, List.set_append_right _ _ (by omega), List.set_append_left _ _ (by omega), List.append_assoc]
  congr 4; omega
theorem gd_mem {a : Ty} {xs : List a.T} {k : Nat} (h : k < xs.length) : xs[k]? = some (gd a xs k) := by
  rw [gd, List.getElem?_eq_getElem h]
  simp [List.getD, List.getElem?_eq_getElem h]

theorem cellsAt_sub (arr : Array Value) (p sz off n : Nat) (h : off + n ≤ sz) : ((cellsAt arr p sz).drop off).take n = cellsAt arr (p + off) n := by
  apply List.ext_getElem?
  intro j
  rw [List.getElem?_take, cellsAt_get]
  split
  · rw [List.getElem?_drop, cellsAt_get, if_pos (by omega), Nat.add_assoc]
  · rfl
theorem cellsAt_len {arr : Array Value} {p n : Nat} (h : (cellsAt arr p n).length = n) (hn : 0 < n) : p + n ≤ arr.size := by
  unfold cellsAt at h
  simp at h
  omega

/-- The element of a row. -/
theorem elem_of {c : Cfg TB} {G : Nat → Prop} {w : World} {E : Env} (hG : Holds c G w E L) {i k : Nat} {a : Ty} {xs : List a.T} (hl : look L i = some (.row a xs) ∨ look L i = some (.shr a xs)) (hk : k < (E.nm i).len) (hn : (E.nm i).nil = false) :
    k < xs.length ∧ ∃ arr ty fz, w.heap[(E.nm i).blk]? = some (.cells arr ty fz) ∧ Rp G w a (gd a xs k) (cellsAt arr ((E.nm i).off + k * a.sz) a.sz) ∧ (E.nm i).off + k * a.sz + a.sz ≤ arr.size := by
  have fin : ∀ (arr : Array Value) (ty : TypeId) (fz : Nat × Nat), k < xs.length → w.heap[(E.nm i).blk]? = some (.cells arr ty fz) → RowsIn (Rp G w a) a.sz arr (E.nm i).off xs →
      k < xs.length ∧ ∃ arr ty fz, w.heap[(E.nm i).blk]? = some (.cells arr ty fz) ∧ Rp G w a (gd a xs k) (cellsAt arr ((E.nm i).off + k * a.sz) a.sz) ∧ (E.nm i).off + k * a.sz + a.sz ≤ arr.size := by
    intro arr ty fz hkx h1 h2
    have h3 := h2 k _ (gd_mem hkx)
    exact ⟨hkx, arr, ty, fz, h1, h3, cellsAt_len h3.length (sz_pos a)⟩
  rcases hl with hl | hl
  · obtain ⟨h1, h2, h3⟩ := hG.ent i _ hl
    rcases h3 with ⟨h4, _⟩ | ⟨_, _, _, _, arr, ty, h5, _, h6⟩
    · rw [hn] at h4; cases h4
    · exact fin arr ty _ (by omega) h5 h6
  · obtain ⟨h1, _, h3⟩ := hG.ent i _ hl
    rcases h3 with rfl | ⟨_, _, arr, ty, fz, h5, h6⟩
    · simp at h1; omega
    · exact fin arr ty fz (by omega) h5 h6

theorem loadEl_ok {o : Oper} {ρ : Operand → SV} {t : TypeId} {x : Operand} (hop : o.op = .load t x) {q : TypeInfo} {d : TypeDesc} (hq : P.info? t = some q) (hd : P.underlying t = some d) {i k sz off bs : Nat} (hx : ρ x = .el i k sz off)
    {a : Ty} {xs : List a.T} (hl : look L i = some (.row a xs) ∨ look L i = some (.shr a xs)) (hlk : ∀ n e, lkp n = some e → look L n = some e) {v : SV} {ups : Ups}
    (h : loadEl lkp (isAggT P t) q.size a xs k sz off bs pr = some (v, ups)) : RunOk TB P o ρ L v ups := by
  unfold loadEl at h
  split at h
  rotate_left
  · cases h
  rename_i hc
  obtain ⟨rfl, hsz, hnew⟩ := hc
  refine runOk_of fun c w E hh hw => ?_
  obtain ⟨G, hG⟩ := hh
  have hwx := hw x
  rw [hx] at hwx
  obtain ⟨hal, hk, hn⟩ := hwx
  obtain ⟨hkx, arr, ty, fz, h1, h2, h3⟩ := elem_of hG hl hk hn
  obtain ⟨ms, h4, h5⟩ := h2.out
  have hnewL := fun j hj => hlk _ _ (newOk_spec hnew j hj)
  obtain ⟨k1, k2⟩ := hG.addEnts (ents false a (gd a xs k)) (n := bs) (ms := ms) (fun j hj => hnewL j (by rw [ents_length] at hj; exact hj)) (by
      intro j e he
      have := h5 j e he
      cases e <;> first | exact this | exact this.elim)
    (by rw [ownsE_shr]; simp) (by rw [ownsE_shr]; simp)
  rw [ents_length] at k1 k2
  have hnm : ∀ n, Al L n → (E.put bs a.nsl ms).nm n = E.nm n ∧ Al (updL L (nameFrom bs (ents false a (gd a xs k)))) n := by
    intro n hn
    have hb : ¬ (bs ≤ n ∧ n < bs + a.nsl) := by
      intro hx
      have := hnewL (n - bs) (by omega)
      have e : bs + (n - bs) = n := by omega
      rw [e] at this
      exact not_al this hn
    refine ⟨Env.put_out _ _ _ _ (by omega), ?_⟩
    obtain ⟨e, he1, he2⟩ := hn
    exact ⟨e, by rw [k2, if_neg hb]; exact he1, he2⟩
  have hwf : wfL (E.put bs a.nsl ms) (updL L (nameFrom bs (ents false a (gd a xs k)))) (unp a (gd a xs k) bs) := by
    refine unp_wf _ _ _ fun j hj => ?_
    have hlt : j < (ents false a (gd a xs k)).length := by rw [ents_length]; exact hj
    refine ⟨(ents false a (gd a xs k))[j], ?_, ents_mem (List.getElem?_eq_getElem hlt)⟩
    rw [k2, if_pos ⟨by omega, by omega⟩]
    have e : bs + j - bs = j := by omega
    rw [e, List.getElem?_eq_getElem hlt]
  have hden : denL (E.put bs a.nsl ms) (unp a (gd a xs k) bs) = cellsAt arr ((E.nm i).off + k * a.sz) a.sz := by
    rw [h4, unp_den]
    exact enc_congr _ _ fun j hj => Env.put_in _ _ _ _ hj
  have haddr : (E.nm i).off + (k * a.sz + off) = (E.nm i).off + k * a.sz + off := by omega
  split at h
  · rename_i hagg
    simp only [pr, Option.some.injEq, Prod.mk.injEq] at h
    obtain ⟨rfl, rfl⟩ := h
    refine ⟨w, E.put bs a.nsl ms, _, ?_, .inl rfl, ⟨G, k1⟩, hnm, rfl, wfL_drop_take hwf _ _⟩
    simp only [execOp, hop, hx, SV.den]
    refine run_next ?_
    rw [haddr, run_load_agg hq hd hagg h1 (by omega), denL_drop_take, hden]
    rw [← cellsAt_sub arr _ a.sz off q.size hsz]
    unfold cellsAt
    simp
  · rename_i hagg
    split at h
    · rename_i u hu
      simp only [pr, Option.some.injEq, Prod.mk.injEq] at h
      obtain ⟨rfl, rfl⟩ := h
      refine ⟨w, E.put bs a.nsl ms, _, ?_, .inl rfl, ⟨G, k1⟩, hnm, rfl, wfL_mem.1 hwf u (List.mem_of_getElem? hu)⟩
      simp only [execOp, hop, hx, SV.den]
      refine run_next ?_
      have hlt : off < a.sz := by
        rcases Nat.lt_or_ge off (unp a (gd a xs k) bs).length with h' | h'
        · rwa [unp_length] at h'
        · rw [List.getElem?_eq_none h'] at hu; cases hu
      have hcell : arr[(E.nm i).off + k * a.sz + off]? = some (u.den (E.put bs a.nsl ms)) := by
        have := congrArg (fun l => l[off]?) hden
        simp only [denL_get?, hu, Option.map_some, cellsAt_get, if_pos hlt] at this
        exact this.symm
      rw [haddr]
      exact run_load_one hd hagg h1 hcell
    · cases h

theorem takeE_ok {o : Oper} {ρ : Operand → SV} {t : TypeId} {x : Operand} (hop : o.op = .load t x) {d : TypeDesc} (hd : P.underlying t = some d) (hagg : isAggT P t = false) {i k sz off bs : Nat} (hx : ρ x = .el i k sz off)
    {a : Ty} {xss : List (List a.T)} {h' : Option (Nat × Nat)} (hl : lkp i = some (.deep a xss h')) (hlk : ∀ n e, lkp n = some e → look L n = some e) {v : SV} {ups : Ups}
    {deep : Bool} (h : takeE lkp deep a xss h' i k sz off bs pr = some (v, ups)) : RunOk TB P o ρ L v ups := by
  unfold takeE at h
  split at h
  rotate_left
  · cases h
  rename_i hc
  obtain ⟨rfl, rfl⟩ := hc
  split at h
  · rename_i hnew
    have hnew := (Bool.and_eq_true _ _ ▸ hnew : newOk lkp bs 1 = true ∧ _).1
    split at h
    rotate_left
    · cases h
    rename_i ys u hcl
    simp only [pr, Option.some.injEq, Prod.mk.injEq] at h
    obtain ⟨rfl, rfl⟩ := h
    have hbs : look L bs = some .rsv := hlk _ _ (by have := newOk_spec hnew 0 (by omega); simpa using this)
    refine runOk_of fun c w E hh hw => ?_
    obtain ⟨G, hG⟩ := hh
    have hwx := hw x
    rw [hx] at hwx
    obtain ⟨hal, hk, hn⟩ := hwx
    have hlen := (hG.dp i _ _ _ (hlk _ _ hl)).len
    obtain ⟨E1, c1, c2, c3, c4, c5, c6, c7⟩ := closeD_ok hlk hG hl hcl
    obtain ⟨E2, t1, t2, t3, arr, ty, t4, t5⟩ := c1.takeD c4 (c6 bs hbs) (by rw [c2]; exact hn) (by omega : k < ys.length)
    rw [← updL_append] at t1
    have hoff := (hG.dp i _ _ _ (hlk _ _ hl)).off
    have hlt := look_lt hbs
    have hal2 : ∀ n, Al L n → Al (updL L (u ++ [(bs, .dead), (i, .deep a ys (some (k, bs))), (bs, .row a (ys.getD k []))])) n := by
      intro n hn
      rw [updL_append]
      exact al_upd rfl n (al_upd rfl n (al_upd rfl n (c5 n hn)))
    refine ⟨w, E2, _, ?_, .inl rfl, ⟨G, t1⟩, fun n hn => ⟨?_, hal2 n hn⟩, t3.trans c3, ?_⟩
    · simp only [execOp, hop, hx, SV.den]
      refine run_next ?_
      have e : (E.nm i).off + (k * 1 + 0) = k := by omega
      rw [e]
      rw [c2] at t4
      exact run_load_one hd hagg t4 t5
    · rw [t2 n (fun he => not_al (he ▸ hbs) hn), c2]
    · refine ⟨.row a (ys.getD k []), ?_, rfl⟩
      rw [updL_append]
      show look (upd (upd (upd (updL L u) (bs, .dead)) (i, .deep a ys (some (k, bs)))) (bs, .row a (ys.getD k []))) bs = _
      rw [look_upd (by rw [upd_length, upd_length, updL_length]; exact hlt), if_pos rfl]
  · split at h
    rotate_left
    · cases h
    rename_i k0 j _
    split at h
    rotate_left
    · cases h
    rename_i hkk
    subst hkk
    simp only [pr, Option.some.injEq, Prod.mk.injEq] at h
    obtain ⟨rfl, rfl⟩ := h
    refine runOk_of fun c w E hh hw => ?_
    obtain ⟨G, hG⟩ := hh
    have hwx := hw x
    rw [hx] at hwx
    obtain ⟨hal, hk, hn⟩ := hwx
    obtain ⟨d1, d2, d3, d4, d5⟩ := hG.dp i _ _ _ (hlk _ _ hl)
    rcases d5 with ⟨h1, _⟩ | ⟨h1, h2, h3, arr, ty, hs, h4, h5, h6, h7, h8, h9⟩
    · rw [hn] at h1; cases h1
    have hkl : k < xss.length := by omega
    obtain ⟨q1, q2⟩ := h9 k j rfl hkl
    refine ⟨w, E, _, ?_, .inl rfl, ⟨G, hG⟩, fun n hn => ⟨rfl, hn⟩, rfl, q2⟩
    simp only [execOp, hop, hx, SV.den]
    refine run_next ?_
    have e : (E.nm i).off + (k * 1 + 0) = k := by omega
    rw [e, ← q1]
    exact run_load_one hd hagg h4 (h6 k hkl)

theorem loadE_ok {o : Oper} {ρ : Operand → SV} {t : TypeId} {x : Operand} (hop : o.op = .load t x) {bs : Nat} (hlk : ∀ n e, lkp n = some e → look L n = some e) {v : SV} {ups : Ups}
    {deep : Bool} (h : loadE P lkp deep t (ρ x) bs pr = some (v, ups)) : RunOk TB P o ρ L v ups := by
  unfold loadE at h
  split at h
  rotate_left
  · cases h
  rename_i q d hq hd
  split at h
  · rename_i i off hx
    split at h
    · rename_i cs hl
      have hbox : ∀ (c : Cfg TB) (w : World) (E : Env), Hd c w E L → (E.nm i).off = (E.nm i).pp.pre.length ∧ (∃ ty, w.heap[(E.nm i).blk]? = some (.cells ((E.nm i).arr (denL E cs)) ty (0, 0))) ∧ wfL E L cs := by
        rintro c w E ⟨G, hG⟩
        obtain ⟨h1, h2, h3, h4, h5, h6⟩ := hG.ent i _ (hlk _ _ hl)
        exact ⟨h2, h5, h6⟩
      split at h
      · rename_i hagg
        split at h
        · rename_i hsz
          simp only [pr, Option.some.injEq, Prod.mk.injEq] at h
          obtain ⟨rfl, rfl⟩ := h
          refine runOk_of fun c w E hh hw => ?_
          obtain ⟨h2, ⟨ty, h5⟩, h6⟩ := hbox c w E hh
          refine ⟨w, E, _, ?_, .inl rfl, hh, fun n hn => ⟨rfl, hn⟩, rfl, wfL_drop_take h6 _ _⟩
          simp only [execOp, hop, hx, SV.den]
          refine run_next ?_
          rw [h2, run_load_agg hq hd hagg h5 (by rw [Nm.arr_size, denL_length]; omega), Nm.arr_cells _ (by rw [denL_length]; omega), denL_drop_take]
        · cases h
      · rename_i hagg
        split at h
        · rename_i u hu
          simp only [pr, Option.some.injEq, Prod.mk.injEq] at h
          obtain ⟨rfl, rfl⟩ := h
          refine runOk_of fun c w E hh hw => ?_
          obtain ⟨h2, ⟨ty, h5⟩, h6⟩ := hbox c w E hh
          refine ⟨w, E, _, ?_, .inl rfl, hh, fun n hn => ⟨rfl, hn⟩, rfl, wfL_mem.1 h6 u (List.mem_of_getElem? hu)⟩
          simp only [execOp, hop, hx, SV.den]
          refine run_next ?_
          rw [h2]
          exact run_load_one hd hagg h5 (by rw [Nm.arr_get _ (by rw [denL_length]; exact (List.getElem?_eq_some_iff.1 hu).1)]; simp [denL_get?, hu])
        · cases h
    · cases h
  · rename_i i k sz off hx
    split at h
    · rename_i a xs hl
      exact loadEl_ok hop hq hd hx (.inl (hlk _ _ hl)) hlk h
    · rename_i a xs hl
      exact loadEl_ok hop hq hd hx (.inr (hlk _ _ hl)) hlk h
    · rename_i a xss hh hl
      split at h
      · cases h
      · rename_i hagg
        exact takeE_ok hop hd hagg hx hl hlk h
    · cases h
  · cases h

theorem intsB_get {k : IntKind} : ∀ {l : List Value} {i : Nat}, intsB k l = true → i < l.length → ∃ n, l[i]? = some (.int k n)
  | [], i, _, h => by simp at h
  | .int k' n :: r, 0, h, _ => by
    simp only [intsB, Bool.and_eq_true, decide_eq_true_eq] at h
    exact ⟨n, by rw [h.1]; rfl⟩
  | .int k' n :: r, i + 1, h, hi => by
    simp only [intsB, Bool.and_eq_true] at h
    simpa using intsB_get h.2 (by simpa using hi)
theorem lk_mem {α : Type} : ∀ {l : List (Nat × α)} {k : Nat} {x : α}, lk l k = some x → (k, x) ∈ l
  | [], _, _, h => by cases h
  | (a, b) :: r, k, x, h => by
    simp only [lk] at h
    split at h
    · rename_i he
      simp only [Option.some.injEq] at h
      subst he h; simp
    · exact List.mem_cons_of_mem _ (lk_mem h)
theorem loadT_ok {cx : Cx} {o : Oper} {ρ : Operand → SV} {t : TypeId} {x : Operand} (hop : o.op = .load t x) {g off : Nat} (hx : ρ x = .ptr (some ⟨g, off, none⟩)) {v : SV} {ups : Ups}
    (h : loadT P cx t g off pr = some (v, ups)) : RunOk cx.tb P o ρ L v ups := by
  unfold loadT at h
  split at h
  rotate_left
  · cases h
  rename_i arr k q hl hu hq
  split at h
  · cases h
  rename_i hk
  split at h
  rotate_left
  · cases h
  rename_i hi
  split at h
  rotate_left
  · cases h
  rename_i hoff
  simp only [pr, Option.some.injEq, Prod.mk.injEq] at h
  obtain ⟨rfl, rfl⟩ := h
  obtain ⟨n, hn⟩ := intsB_get (i := off) hi (by simpa using hoff)
  refine runOk_of fun c w E hh hw => ?_
  obtain ⟨G, hG⟩ := hh
  obtain ⟨o1, ty, fz, o2⟩ := hG.tab _ (lk_mem hl)
  have hb : w.heap[g]? = some (.cells arr ty fz) := by rw [hG.old g o1]; exact o2
  have hcell : arr[off]? = some (.int k n) := by rw [← Array.getElem?_toList]; exact hn
  have hagg : isAggT P t = false := by unfold isAggT; rw [hu]
  refine ⟨w, E, _, ?_, .inl rfl, ⟨G, hG⟩, fun n hn => ⟨rfl, hn⟩, rfl, trivial⟩
  simp only [execOp, hop, hx, SV.den]
  refine run_next ?_
  rw [run_load_one hu hagg hb hcell]
  simp [tget, hcell]

theorem flat_of {E : Env} {vs : List SV} (h : vs.all flatB = true) : Flat (denL E vs) := by
  induction vs with
  | nil => intro v hv; cases hv
  | cons x r ih =>
    simp only [List.all_cons, Bool.and_eq_true] at h
    intro v hv
    rcases List.mem_cons.1 hv with rfl | hv
    · cases x with
      | raw u => cases u <;> simp_all [flatB, SV.den]
      | _ => simp_all [flatB, SV.den]
    · exact ih h.2 v hv

theorem splice_spl (E : Env) (vs : List SV) : ∀ (cs : List SV) (off : Nat), (denL E (splice cs off vs)).toArray = spl (denL E cs).toArray off (denL E vs) := by
  induction vs with
  | nil => intros; rfl
  | cons v r ih =>
    intro cs off
    simp only [splice, denL, spl]
    rw [ih, denL_set]
    simp

theorem splice_arr (E : Env) (m : Nm) (vs : List SV) : ∀ (cs : List SV) (off : Nat), off + vs.length ≤ cs.length → m.arr (denL E (splice cs off vs)) = spl (m.arr (denL E cs)) (m.pp.pre.length + off) (denL E vs) := by
  induction vs with
  | nil => intros; rfl
  | cons v r ih =>
    intro cs off h
    simp only [List.length_cons] at h
    simp only [splice, denL, spl]
    rw [ih _ _ (by rw [List.length_set]; omega), denL_set, Nm.arr_set _ (by rw [denL_length]; omega), Nat.add_assoc]

theorem splice_mem {vs : List SV} : ∀ {cs : List SV} {off : Nat} {v : SV}, v ∈ splice cs off vs → v ∈ cs ∨ v ∈ vs := by
  induction vs with
  | nil => intro cs off v h; exact .inl h
  | cons x r ih =>
    intro cs off v h
    rcases ih h with h | h
    · rcases List.mem_or_eq_of_mem_set h with h | h
      · exact .inl h
      · exact .inr (by simp [h])
    · exact .inr (by simp [h])

theorem cellsV_wf {E : Env} {v : SV} (h : v.wf E L) : wfL E L (cellsV v) := by
  cases v with
  | agg cs => exact h
  | _ => exact ⟨h, trivial⟩

theorem run_storeAt {w w' : World} {t : TypeId} {q : TypeInfo} (hq : P.info? t = some q) {b off : Nat} {v : SV} {E : Env} (hr : isRawAgg v = false) (hl : (cellsV v).length = q.size)
    (hst : (storeCells ⟨b, off, none⟩ (denL E (cellsV v)) 0).run P w = .ok () w') : (Instr.storeAt t (.pointer (some ⟨b, off, none⟩)) (v.den E)).run P w = .ok () w' := by
  have hcell := cellsV_den (E := E) v hr
  simp only [Instr.storeAt, Instr.sureAddr, storeVar, sizeOf, typeInfo, Sem.run_bind, Sem.run_pure, Result.andThen]
  simp [hq, hcell, denL_length, hl, hst]

/-- A row's own block is written, and the row holds something else. -/
theorem Holds.setRow {c : Cfg TB} {G : Nat → Prop} {w w' : World} {E : Env} {L : Store} (h : Holds c G w E L) {i : Nat} {a : Ty} {xs ys : List a.T} (hl : look L i = some (.row a xs)) (hn : (E.nm i).nil = false) (hlen : ys.length = xs.length)
    (hr : Rest w w') (hs : w'.heap.size = w.heap.size) (hw : ∀ j, j ≠ (E.nm i).blk → w'.heap[j]? = w.heap[j]?)
    (hok : ∀ arr ty, w.heap[(E.nm i).blk]? = some (.cells arr ty ((E.nm i).fr arr.size)) → (E.nm i).off + (E.nm i).cap * a.sz ≤ arr.size → RowsIn (Rp G w a) a.sz arr (E.nm i).off xs → ∃ arr', w'.heap[(E.nm i).blk]? = some (.cells arr' ty ((E.nm i).fr arr.size)) ∧ arr'.size = arr.size ∧ RowsIn (Rp G w a) a.sz arr' (E.nm i).off ys) :
    Holds c G w' E (upd L (i, .row a ys)) := by
  have hown := h.ent i _ hl
  obtain ⟨h1, h2, h3⟩ := hown
  rcases h3 with ⟨h4, _⟩ | ⟨_, h5, h6, h7, arr, ty, h8, h9, h10⟩
  · rw [hn] at h4; cases h4
  obtain ⟨arr', k1, k2, k3⟩ := hok arr ty h8 h9 h10
  have hset : E.set i (E.nm i) = E := by
    refine env_ext (fun k => ?_) rfl (fun _ => rfl)
    by_cases hk : k = i
    · subst hk; rw [Env.set_eq]
    · exact E.set_ne _ hk
  have hGb : ∀ b, G b → w'.heap[b]? = w.heap[b]? := fun b hb => hw b (fun he => h5 (he ▸ hb))
  have := h.change (i := i) (e' := .row a ys) (m := E.nm i) (w' := w') (look_lt hl) hr (by omega) (fun _ => rfl) rfl
    (fun b _ hb => hw b (fun he => hb (by simp [Ent.own, hn, he])))
    (fun b hb => by simp only [Ent.own, hn, Bool.false_eq_true, if_false, Option.some.injEq] at hb; subst hb; exact ⟨h6, h5⟩)
    (fun k f hk hf b hb he => h.inj k i f (.row a xs) b hk hf hl hb (.inl (by simpa [Ent.own, hn] using he)))
    (fun _ => ⟨by rw [h1, hlen], h2, .inr ⟨hn, h5, h6, by rw [hlen]; exact h7, arr', ty, by rw [k2]; exact k1, by rw [k2]; exact h9, k3.imp fun x vs hx => Rp.mono hGb (fun _ h => h) a x vs hx⟩⟩)
  rw [hset] at this
  exact this

theorem packL_rows {E : Env} {c : Cfg TB} {G : Nat → Prop} {w : World} {a : Ty} : ∀ (n : Nat) (cs : List SV) (xs : List a.T) (u : Ups), packL lkp a n cs = some (xs, u) → wfL E L cs → Known .frz lkp E c G w [] u [] →
    xs.length = n ∧ cs.length = n * a.sz ∧ RowsIn (Rp G w a) a.sz (denL E cs).toArray 0 xs := by
  intro n
  induction n with
  | zero =>
    intro cs xs u h _ _
    cases cs with
    | nil => simp only [packL, Option.some.injEq, Prod.mk.injEq] at h; obtain ⟨rfl, rfl⟩ := h; exact ⟨rfl, by simp, fun i x hx => by simp at hx⟩
    | cons v r => simp [packL] at h
  | succ n ih =>
    intro cs xs u h hw hk
    simp only [packL] at h
    split at h
    rotate_left
    · cases h
    rename_i x r nes u1 hp
    split at h
    rotate_left
    · cases h
    rename_i xs' u2 hq
    simp only [Option.some.injEq, Prod.mk.injEq] at h
    obtain ⟨rfl, rfl⟩ := h
    obtain ⟨c1, rfl, l1, _, hd⟩ := packC_den E _ _ _ _ _ _ hp
    have hw1 : wfL E L c1 := wfL_mem.2 fun v hv => wfL_mem.1 hw v (List.mem_append.2 (.inl hv))
    have hw2 : wfL E L r := wfL_mem.2 fun v hv => wfL_mem.1 hw v (List.mem_append.2 (.inr hv))
    obtain ⟨i1, i2, i3⟩ := ih _ _ _ hq hw2 (hk.sub (by simp) (by simp; intros; simp [*]) (by simp))
    have hrp : Rp G w a x (denL E c1) := by
      rw [hd]
      refine Rp.mk _ _ _ fun k e he => ?_
      obtain ⟨g1, _⟩ := packC_get _ _ _ _ _ _ hp
      rcases g1 k false e he with rfl | ⟨t, s, ys, ne, uk, hs, hne, hsc, hsub, rfl⟩
      · trivial
      have hnf : nesF E nes k = ne.nm E := by simp [nesF, hne]
      rw [hnf]
      refine packS_shr hs (by simp) (wfL_mem.1 hw s hsc) hk.shr ?_
      intro i t' zs e' hnn hl hoe hx
      refine hk.frz i t' zs e' hl hoe (.inr ?_)
      rcases hx with hx | hx
      · cases hx
      · exact List.mem_append.2 (.inl (hsub _ hx))
    refine ⟨by simp [i1], by simp [l1, i2]; rw [Nat.add_mul]; omega, ?_⟩
    intro i y hy
    cases i with
    | zero =>
      simp only [List.getElem?_cons_zero, Option.some.injEq] at hy
      subst hy
      have : cellsAt (denL E (c1 ++ r)).toArray (0 + 0 * a.sz) a.sz = denL E c1 := by
        unfold cellsAt
        rw [denL_append]
        simp [denL_length, l1]
      rw [this]; exact hrp
    | succ i =>
      simp only [List.getElem?_cons_succ] at hy
      have := i3 i y hy
      have e : cellsAt (denL E (c1 ++ r)).toArray (0 + (i + 1) * a.sz) a.sz = cellsAt (denL E r).toArray (0 + i * a.sz) a.sz := by
        unfold cellsAt
        rw [denL_append]
        simp only [Nat.zero_add]
        have : (i + 1) * a.sz = (denL E c1).length + i * a.sz := by rw [denL_length, l1, Nat.add_mul]; omega
        rw [this]
        simp
      rw [e]; exact this

theorem noNames_known {E : Env} {c : Cfg TB} {G : Nat → Prop} {w : World} {u : Ups} (md : PM) : Known md noNames E c G w [] u [] :=
  ⟨fun i t ys h => by simp [noNames] at h, fun i t ys e h => by simp [noNames] at h, fun i t ys h => by simp [noNames] at h, fun i t ys h => by simp [noNames] at h, fun i cs h => by simp [noNames] at h⟩

theorem storeEl_ok {o : Oper} {ρ : Operand → SV} {t : TypeId} {x y : Operand} (hop : o.op = .store t x y) {q : TypeInfo} (hq : P.info? t = some q) {i k sz off : Nat} (hx : ρ x = .el i k sz off)
    {a : Ty} {xs : List a.T} (hl : lkp i = some (.row a xs)) (hlk : ∀ n e, lkp n = some e → look L n = some e) {v : SV} {ups : Ups}
    (h : storeEl lkp q.size a xs i k sz off (ρ y) pr = some (v, ups)) : RunOk TB P o ρ L v ups := by
  unfold storeEl at h
  split at h
  rotate_left
  · cases h
  rename_i hc
  obtain ⟨rfl, hsz, hlen, hraw⟩ := hc
  -- the machine's step
  have step : ∀ (c : Cfg TB) (w : World) (E : Env) (G : Nat → Prop) (L' : Store), Holds c G w E L' → look L' i = some (.row a xs) → (∀ x, (ρ x).wf E L) → ∀ (z : a.T) (cells : List Value), Rp G w a z cells → Flat (denL E (cellsV (ρ y))) →
      (∀ (arr : Array Value) (ty : TypeId) (fz : Nat × Nat), w.heap[(E.nm i).blk]? = some (.cells arr ty fz) → Rp G w a (gd a xs k) (cellsAt arr ((E.nm i).off + k * a.sz) a.sz) → spl arr ((E.nm i).off + k * a.sz + off) (denL E (cellsV (ρ y))) = spl arr ((E.nm i).off + k * a.sz) cells) →
      ∃ w', (execOp (fun x => (ρ x).den E) o).run P w = .ok .skip w' ∧ Holds c G w' E (upd L' (i, .row a (xs.set k z))) := by
    intro c w E G L' hG hl' hw z cells hz hflat hsp
    have hwx := hw x
    rw [hx] at hwx
    obtain ⟨hal, hk, hn⟩ := hwx
    obtain ⟨hkx, arr, ty0, fz, h1, h2, h3⟩ := elem_of hG (.inl hl') hk hn
    obtain ⟨e1, e2, e3⟩ := hG.ent i _ hl'
    rcases e3 with ⟨h4, _⟩ | ⟨_, h5, h6, h7, arr2, ty, h8, h9, h10⟩
    · rw [hn] at h4; cases h4
    rw [h8] at h1
    simp only [Option.some.injEq, Obj.cells.injEq] at h1
    obtain ⟨rfl, rfl, rfl⟩ := h1
    have hadr : (E.nm i).off + (k * a.sz + off) = (E.nm i).off + k * a.sz + off := by omega
    obtain ⟨w', s1, s2, s3, s4, s5⟩ := run_storeCellsF (P := P) (off := (E.nm i).off + k * a.sz + off) (denL E (cellsV (ρ y))) w arr2 0 (fun j hj => (E.nm i).fr_out hj) h8 hflat (by rw [denL_length, hlen]; omega)
    rw [Nat.add_zero, hsp arr2 ty _ h8 h2] at s4
    refine ⟨w', ?_, ?_⟩
    · simp only [execOp, hop, hx, SV.den, Sem.run_bind]
      rw [hadr, run_storeAt hq hraw hlen s1]
      rfl
    · refine hG.setRow hl' hn (by simp) s2 s3 s5 ?_
      intro arr3 ty3 q1 q2 q3
      rw [h8] at q1
      simp only [Option.some.injEq, Obj.cells.injEq] at q1
      obtain ⟨rfl, rfl, _⟩ := q1
      refine ⟨_, s4, spl_size _ _ _, ?_⟩
      refine q3.set hz hz.length hkx ?_
      have := Nat.mul_le_mul_right a.sz h7
      omega
  split at h
  · rename_i hwhole
    obtain ⟨rfl, hn⟩ := hwhole
    split at h
    rotate_left
    · cases h
    rename_i z nes u hp
    split at h
    rotate_left
    · cases h
    rename_i hu
    simp only [pr, Option.some.injEq, Prod.mk.injEq] at h
    obtain ⟨rfl, rfl⟩ := h
    refine runOk_of fun c w E hh hw => ?_
    obtain ⟨G, hG⟩ := hh
    -- freeze what is stored
    have hct : packA .frz lkp [⟨a, true, false, false⟩] [.agg (cellsV (ρ y))] = some ⟨HT.mk ⟨a, true, false, false⟩ [] z (), nes ++ [], u ++ [], [] ++ [], nes.filterMap NE.name ++ []⟩ := by
      simp [packA, packArg, hp]
    obtain ⟨G1, G2, t1, t2, t3, t4, t5, t6, t7, t8, t9, t10, t11⟩ := hG.take (md := .frz) (by simp) hlk hct (by simp [okA]) ⟨cellsV_wf (hw y), trivial⟩
    have hG12 := t4 rfl
    rw [hG12] at t9
    simp only [Taken.ups, List.append_nil, List.map_nil] at t1 t6 t7
    have hni : i ∉ u.map (·.1) := by
      intro hx
      obtain ⟨q', hq', he⟩ := List.mem_map.1 hx
      have := List.all_eq_true.1 hu q' hq'
      simp [he] at this
    have hli : look (updL L u) i = some (.row a xs) := by
      rw [t7 i (by simp) hni]; exact hlk _ _ hl
    have hrp : Rp G1 w a z (denL E (cellsV (ρ y))) := by
      obtain ⟨c1, e1, _, _, hd⟩ := packC_den E _ _ _ _ _ _ hp
      rw [List.append_nil] at e1; subst e1
      rw [hd]
      refine Rp.mk _ _ _ fun k e he => ?_
      have := t9.1.1 k e he
      simp only [CT.pn, Nat.zero_add, List.append_nil] at this
      cases e <;> first | exact this | exact this.elim | skip
      all_goals exfalso
      rotate_left
      · have hen : ∀ (t : Ty) (x : t.T) (j : Nat) (t' : Ty) (xs' : List (List t'.T)) (h' : Option (Nat × Nat)), (ents false t x)[j]? ≠ some (.deep t' xs' h') := by
          intro t
          induction t with
          | pair a b iha ihb =>
            intro x j t' xs' h' he
            simp only [ents] at he
            by_cases hk : j < (ents false a x.1).length
            · rw [List.getElem?_append_left hk] at he; exact iha _ _ _ _ _ he
            · rw [List.getElem?_append_right (by omega)] at he; exact ihb _ _ _ _ _ he
          | slice a => intro x j t' xs' h' he; cases j <;> simp [ents] at he
          | nf => intro x j t' xs' h' he; cases j <;> simp [ents] at he
          | _ => intro x j t' xs' h' he; simp [ents] at he
        exact hen _ _ _ _ _ _ he
      have hen : ∀ (t : Ty) (x : t.T) (j : Nat) (t' : Ty) (xs' : List t'.T), (ents false t x)[j]? ≠ some (.row t' xs') := by
        intro t
        induction t with
        | pair a b iha ihb =>
          intro x j t' xs' he
          simp only [ents] at he
          by_cases hk : j < (ents false a x.1).length
          · rw [List.getElem?_append_left hk] at he; exact iha _ _ _ _ he
          · rw [List.getElem?_append_right (by omega)] at he; exact ihb _ _ _ _ he
        | slice a => intro x j t' xs' he; cases j <;> simp [ents] at he
        | nf => intro x j t' xs' he; cases j <;> simp [ents] at he
        | _ => intro x j t' xs' he; simp [ents] at he
      exact hen _ _ _ _ _ he
    obtain ⟨w', s1, s2⟩ := step c w E G1 (updL L u) t1 hli hw z _ hrp hrp.flatV (fun arr ty fz _ _ => by rw [Nat.add_zero])
    have eu : updL L (u ++ [(i, .row a (xs.set k z))]) = upd (updL L u) (i, .row a (xs.set k z)) := by rw [updL_append]; rfl
    rw [eu]
    exact ⟨w', E, _, s1, .inr ⟨rfl, rfl⟩, ⟨G1, s2⟩, fun n hn => ⟨rfl, al_upd rfl n (t6 n hn)⟩, rfl, trivial⟩
  · split at h
    rotate_left
    · cases h
    rename_i hnsl
    split at h
    rotate_left
    · cases h
    rename_i z nes u hp
    simp only [pr, Option.some.injEq, Prod.mk.injEq] at h
    obtain ⟨rfl, rfl⟩ := h
    refine runOk_of fun c w E hh hw => ?_
    obtain ⟨G, hG⟩ := hh
    obtain ⟨c1, e1, hc1, _, hd⟩ := packC_den E _ _ _ _ _ _ hp
    rw [List.append_nil] at e1; subst e1
    have hrp : Rp G w a z (denL E (splice (unp a (gd a xs k) 0) off (cellsV (ρ y)))) := by
      rw [hd]
      refine Rp.mk _ _ _ fun k e he => ?_
      have : (ents false a z).length = 0 := by rw [ents_length]; exact hnsl
      rw [List.getElem?_eq_none (by omega)] at he; cases he
    have hflat : Flat (denL E (cellsV (ρ y))) := by
      have hf := hrp.flatV
      intro u hu
      have hs := splice_spl E (cellsV (ρ y)) (unp a (gd a xs k) 0) off
      obtain ⟨j, hj, rfl⟩ := List.getElem_of_mem hu
      refine hf _ ?_
      have hj2 : j < q.size := by rw [denL_length, hlen] at hj; exact hj
      have : (spl (denL E (unp a (gd a xs k) 0)).toArray off (denL E (cellsV (ρ y))))[off + j]? = (denL E (cellsV (ρ y)))[j]? := by
        rw [spl_get, if_pos ⟨by omega, by omega, by simp [denL_length, unp_length]; omega⟩]
        congr 1; omega
      rw [← hs, List.getElem?_toArray, List.getElem?_eq_getElem hj] at this
      exact List.mem_of_getElem? this
    obtain ⟨w', s1, s2⟩ := step c w E G L hG (hlk _ _ hl) hw z _ hrp hflat (by
      intro arr ty fz h1 h2
      apply Array.ext_getElem?
      intro j
      rw [spl_get, spl_get, denL_length, denL_length, hlen, splice_length, unp_length]
      have hse : ∀ m : Nat, (denL E (splice (unp a (gd a xs k) 0) off (cellsV (ρ y))))[m]? = (spl (denL E (unp a (gd a xs k) 0)).toArray off (denL E (cellsV (ρ y))))[m]? := by
        intro m; rw [← splice_spl]; simp
      have hold : denL E (unp a (gd a xs k) 0) = cellsAt arr (((E.nm i).off + k * a.sz)) a.sz := by
        obtain ⟨ms, h4, _⟩ := h2.out
        rw [h4, unp_den]
        exact enc_congr _ _ fun j hj => by omega
      by_cases hj1 : ((E.nm i).off + k * a.sz) + off ≤ j ∧ j < ((E.nm i).off + k * a.sz) + off + q.size ∧ j < arr.size
      · rw [if_pos hj1, if_pos (by omega), hse, spl_get, denL_length, hlen, if_pos ⟨by omega, by omega, by simp [denL_length, unp_length]; omega⟩]
        congr 1; omega
      · rw [if_neg hj1]
        by_cases hj2 : ((E.nm i).off + k * a.sz) ≤ j ∧ j < ((E.nm i).off + k * a.sz) + a.sz ∧ j < arr.size
        · have e1 : ((denL E (unp a (gd a xs k) 0)).toArray)[j - ((E.nm i).off + k * a.sz)]? = arr[j]? := by
            rw [List.getElem?_toArray, hold, cellsAt_get, if_pos (by omega)]
            congr 1; omega
          rw [if_pos hj2, hse, spl_get, denL_length, hlen, if_neg (by omega), e1]
        · rw [if_neg hj2])
    exact ⟨w', E, _, s1, .inr ⟨rfl, rfl⟩, ⟨G, s2⟩, fun n hn => ⟨rfl, al_upd rfl n hn⟩, rfl, trivial⟩

theorem storeArr_ok {o : Oper} {ρ : Operand → SV} {t : TypeId} {x y : Operand} (hop : o.op = .store t x y) {q : TypeInfo} (hq : P.info? t = some q) {i k sz off len : Nat} (hx : ρ x = .el i k sz off)
    {a : Ty} {xs : List a.T} (hl : lkp i = some (.row a xs)) (hlk : ∀ n e, lkp n = some e → look L n = some e) {v : SV} {ups : Ups}
    (h : storeArr q.size len a xs i k off (ρ y) pr = some (v, ups)) : RunOk TB P o ρ L v ups := by
  unfold storeArr at h
  split at h
  rotate_left
  · cases h
  rename_i hc
  obtain ⟨rfl, rfl, hnsl, hlen, hfl, hraw⟩ := hc
  split at h
  rotate_left
  · cases h
  rename_i ys u hp
  split at h
  rotate_left
  · cases h
  rename_i hxl
  simp only [pr, Option.some.injEq, Prod.mk.injEq] at h
  obtain ⟨rfl, rfl⟩ := h
  refine runOk_of fun c w E hh hw => ?_
  obtain ⟨G, hG⟩ := hh
  obtain ⟨l1, l2, l3⟩ := packL_rows (c := c) (G := G) (w := w) (E := E) (L := L) len (cellsV (ρ y)) ys u hp (cellsV_wf (hw y)) (noNames_known .frz)
  have hl' := hlk _ _ hl
  have hwx := hw x
  rw [hx] at hwx
  obtain ⟨hal, hk, hn⟩ := hwx
  obtain ⟨e1, e2, e3⟩ := hG.ent i _ hl'
  rcases e3 with ⟨h4, _⟩ | ⟨_, h5, h6, h7, arr2, ty, h8, h9, h10⟩
  · rw [hn] at h4; cases h4
  have hadr : (E.nm i).off + (0 * sz + 0) = (E.nm i).off := by omega
  have hsz : (E.nm i).off + len * a.sz ≤ arr2.size := by
    have := Nat.mul_le_mul_right a.sz h7
    rw [hxl] at this; omega
  obtain ⟨w', s1, s2, s3, s4, s5⟩ := run_storeCellsF (P := P) (off := (E.nm i).off) (denL E (cellsV (ρ y))) w arr2 0 (fun j hj => (E.nm i).fr_out hj) h8 (flat_of hfl) (by rw [denL_length, l2]; omega)
  rw [Nat.add_zero] at s4
  have hst : Holds c G w' E (upd L (i, .row a ys)) := by
    refine hG.setRow hl' hn (by omega) s2 s3 s5 ?_
    intro arr3 ty3 q1 q2 q3
    rw [h8] at q1
    simp only [Option.some.injEq, Obj.cells.injEq] at q1
    obtain ⟨rfl, rfl, _⟩ := q1
    refine ⟨_, s4, spl_size _ _ _, ?_⟩
    intro j z hz
    have hj : j < len := by
      rw [← l1]
      rcases Nat.lt_or_ge j ys.length with h | h
      · exact h
      · rw [List.getElem?_eq_none h] at hz; cases hz
    have hr := l3 j z hz
    have hb : (j + 1) * a.sz ≤ len * a.sz := Nat.mul_le_mul_right _ hj
    rw [Nat.add_mul, Nat.one_mul] at hb
    have e : cellsAt (spl arr2 (E.nm i).off (denL E (cellsV (ρ y)))) ((E.nm i).off + j * a.sz) a.sz = cellsAt (denL E (cellsV (ρ y))).toArray (0 + j * a.sz) a.sz := by
      apply List.ext_getElem?
      intro m
      rw [cellsAt_get, cellsAt_get]
      by_cases hm : m < a.sz
      · rw [spl_get, denL_length, l2]
        simp only [hm, if_true]
        rw [if_pos ⟨by omega, by omega, by omega⟩]
        rw [List.getElem?_toArray]
        congr 1; omega
      · simp [hm]
    rw [e]
    exact hr
  refine ⟨w', E, .skip, ?_, .inr ⟨rfl, rfl⟩, ⟨G, hst⟩, fun n hn => ⟨rfl, al_upd rfl n hn⟩, rfl, trivial⟩
  simp only [execOp, hop, hx, SV.den, Sem.run_bind]
  rw [hadr, run_storeAt hq hraw hlen s1]
  rfl

theorem storeD_ok {o : Oper} {ρ : Operand → SV} {t : TypeId} {x y : Operand} (hop : o.op = .store t x y) {q : TypeInfo} (hq : P.info? t = some q) {i k sz off : Nat} (hx : ρ x = .el i k sz off)
    {a : Ty} {xss : List (List a.T)} {h' : Option (Nat × Nat)} (hl : lkp i = some (.deep a xss h')) (hlk : ∀ n e, lkp n = some e → look L n = some e) {v : SV} {ups : Ups}
    (h : storeD lkp q.size a xss h' i k sz off (ρ y) pr = some (v, ups)) : RunOk TB P o ρ L v ups := by
  unfold storeD at h
  split at h
  rotate_left
  · cases h
  rename_i hc
  obtain ⟨hq1, rfl, rfl⟩ := hc
  split at h
  rotate_left
  · cases h
  rename_i j hy
  split at h
  rotate_left
  · cases h
  rename_i t' ys hj
  split at h
  rotate_left
  · cases h
  rename_i he
  subst he
  have hi' := hlk _ _ hl
  have hj' := hlk _ _ hj
  obtain ⟨hh, rfl, rfl⟩ : (∀ k' j', h' = some (k', j') → k' = k) ∧ v = undefV ∧ ups = [(j, .dead), (i, .deep t' (xss.set k ys) none)] := by
    split at h
    · simp only [pr, Option.some.injEq, Prod.mk.injEq] at h
      exact ⟨fun k' j' he => (by cases he), h.1.symm, h.2.symm⟩
    · rename_i k0 j0
      split at h
      rotate_left
      · cases h
      rename_i hkk
      simp only [pr, Option.some.injEq, Prod.mk.injEq] at h
      exact ⟨fun k' j' he => (by simp only [Option.some.injEq, Prod.mk.injEq] at he; omega), h.1.symm, h.2.symm⟩
  refine runOk_of fun c w E hH hw => ?_
  obtain ⟨G, hG⟩ := hH
  have hwx := hw x
  rw [hx] at hwx
  obtain ⟨hal, hk, hn⟩ := hwx
  have hd := hG.dp i _ _ _ hi'
  have hlen := hd.len
  have hoff := hd.off
  obtain ⟨arr, ty, hblk, hsz⟩ : ∃ arr ty, w.heap[(E.nm i).blk]? = some (.cells arr ty (0, 0)) ∧ k < arr.size := by
    rcases hd.cs with ⟨h1, _⟩ | ⟨h1, h2, h3, arr, ty, hs, h4, h5, _⟩
    · rw [hn] at h1; cases h1
    · exact ⟨arr, ty, h4, by omega⟩
  have hcv : denL E (cellsV (ρ y)) = [.slice (E.nm j).ad (E.nm j).len (E.nm j).cap] := by rw [hy]; rfl
  obtain ⟨w', s1, s2, s3, s4, s5⟩ := run_storeCells (P := P) (off := k) (denL E (cellsV (ρ y))) w arr 0 hblk (by
      rw [hcv]
      intro u hu
      simp only [List.mem_singleton] at hu; subst hu
      exact ⟨fun c h => (by cases h), fun c h => (by cases h)⟩) (by rw [hcv]; simp; omega)
  rw [hcv, Nat.add_zero] at s4
  simp only [spl] at s4
  have h1 := hG.putD (w' := w') hi' hj' hh (by omega) s2 s3 s5 (fun arr2 ty2 _ ha _ => by
    rw [hblk] at ha
    simp only [Option.some.injEq, Obj.cells.injEq] at ha
    obtain ⟨rfl, rfl, _⟩ := ha
    exact ⟨_, s4⟩)
  refine ⟨w', _, .skip, ?_, .inr ⟨rfl, rfl⟩, ⟨G, h1⟩, fun n hn => ⟨?_, al_upd rfl n (al_upd rfl n hn)⟩, rfl, trivial⟩
  · simp only [execOp, hop, hx, SV.den, Sem.run_bind]
    have e : (E.nm i).off + (k * 1 + 0) = k := by omega
    rw [e, run_storeAt hq (by rw [hy]; rfl) (by rw [hy, hq1]; rfl) s1]
    rfl
  · by_cases hni : n = i
    · subst hni; exact (E.setD_eq _ _ _).1
    · exact (E.setD_ne _ _ hni).1

theorem storeE_ok {o : Oper} {ρ : Operand → SV} {t : TypeId} {x y : Operand} (hop : o.op = .store t x y) (hlk : ∀ n e, lkp n = some e → look L n = some e) {v : SV} {ups : Ups}
    (h : storeE P lkp t (ρ x) (ρ y) pr = some (v, ups)) : RunOk TB P o ρ L v ups := by
  unfold storeE at h
  split at h
  rotate_left
  · cases h
  rename_i q hq
  split at h
  · rename_i i off hx
    split at h
    rotate_left
    · cases h
    rename_i cs hl
    split at h
    rotate_left
    · cases h
    rename_i hc
    obtain ⟨c1, c2, c3, c4⟩ := hc
    simp only [pr, Option.some.injEq, Prod.mk.injEq] at h
    obtain ⟨rfl, rfl⟩ := h
    refine runOk_of fun c w E hh hw => ?_
    obtain ⟨G, hG⟩ := hh
    obtain ⟨h1, h2, h3, h4, ⟨ty, h5⟩, h6⟩ := hG.ent i _ (hlk _ _ hl)
    obtain ⟨w', s1, s2, s3, s4, s5⟩ := run_storeCells (P := P) (off := (E.nm i).pp.pre.length + off) (denL E (cellsV (ρ y))) w _ 0 h5 (flat_of c2) (by rw [Nm.arr_size, denL_length, denL_length]; omega)
    rw [Nat.add_zero, ← splice_arr E (E.nm i) _ cs off c4] at s4
    have hset : E.set i (E.nm i) = E := by
      refine env_ext (fun k => ?_) rfl (fun _ => rfl)
      by_cases hk : k = i
      · subst hk; rw [Env.set_eq]
      · exact E.set_ne _ hk
    have hwf : wfL E (upd L (i, .box (splice cs off (cellsV (ρ y))))) (splice cs off (cellsV (ρ y))) := by
      refine wfL_mem.2 fun u hu => ?_
      refine (wf_ext (fun n hn => al_upd rfl n hn) (fun _ _ => rfl) u ?_).1
      rcases splice_mem hu with hu | hu
      · exact wfL_mem.1 h6 u hu
      · exact wfL_mem.1 (cellsV_wf (hw y)) u hu
    have := hG.change (i := i) (e' := .box (splice cs off (cellsV (ρ y)))) (m := E.nm i) (w' := w') (look_lt (hlk _ _ hl)) s2 (by omega) (fun _ => rfl) rfl
      (fun b _ hb => s5 b (fun he => hb (by simp [Ent.own, he])))
      (fun b hb => by simp only [Ent.own, Option.some.injEq] at hb; subst hb; exact ⟨h4, h3⟩)
      (fun k f hk hf b hb he => hG.inj k i f (.box cs) b hk hf (hlk _ _ hl) hb (.inl (by simpa [Ent.own] using he)))
      (fun _ => by rw [hset]; exact ⟨h1, h2, h3, h4, ⟨ty, s4⟩, hwf⟩)
    rw [hset] at this
    refine ⟨w', E, .skip, ?_, .inr ⟨rfl, rfl⟩, ⟨G, this⟩, fun n hn => ⟨rfl, al_upd rfl n hn⟩, rfl, trivial⟩
    simp only [execOp, hop, hx, SV.den, Sem.run_bind]
    rw [h2, run_storeAt hq c3 c1 s1]
    rfl
  · rename_i i k sz off hx
    split at h
    · rename_i a xs hl
      split at h
      · exact storeArr_ok hop hq hx hl hlk h
      · exact storeEl_ok hop hq hx hl hlk h
    · rename_i a xss hh hl
      exact storeD_ok hop hq hx hl hlk h
    · cases h
  · cases h
end

end Go.V3
