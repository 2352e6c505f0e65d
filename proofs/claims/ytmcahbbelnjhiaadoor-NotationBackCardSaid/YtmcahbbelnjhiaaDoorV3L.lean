/-
  Part L: what is reckoned of new memory and of slices is what the machine does.
-/
import Derived.Test.YtmcahbbelnjhiaaDoorV3K
set_option linter.unusedVariables false
namespace Go.V3
open Go
variable {TB : Tb}

section
variable {P : Program} {lkp : Nat → Option Ent} {L : Store}

/-- A new block under a new name, as a row or as a box. -/
theorem Holds.newBlk {c : Cfg TB} {G : Nat → Prop} {w w' : World} {E : Env} (h : Holds c G w E L) {bs : Nat} (hl : look L bs = some .rsv) {ob : Obj} (hw : w'.heap = w.heap.push ob) (hr : Rest w w') {e : Ent} {m : Nm} (hne : e.isRsv = false)
    (hm : m.blk = w.heap.size ∧ m.off = 0 ∧ m.nil = false) (hok : w'.heap[w.heap.size]? = some ob → ¬ c.Old w.heap.size → ¬ G w.heap.size → (∀ b, G b → w'.heap[b]? = w.heap[b]?) → EntOk c G w' (E.set bs m) (upd L (bs, e)) m e) (hd : e.isDeep = false := by rfl) :
    Holds c G w' (E.set bs m) (upd L (bs, e)) ∧ (∀ n, Al L n → (E.set bs m).nm n = E.nm n ∧ Al (upd L (bs, e)) n) := by
  have hnew : w'.heap[w.heap.size]? = some ob := by rw [hw]; simp
  have hsame : ∀ b, b < w.heap.size → w'.heap[b]? = w.heap[b]? := by
    intro b hb
    rw [hw, Array.getElem?_push, if_neg (by omega)]
  have hold : ¬ c.Old w.heap.size := fun hx => by have := hx.1; have := h.size; omega
  have hG : ¬ G w.heap.size := fun hx => by have := h.gin _ hx; omega
  have hbo : ∀ b, e.own m = some b → b = w.heap.size := by
    intro b hb
    cases e with
    | box cs => simp only [Ent.own, Option.some.injEq] at hb; rw [← hb]; exact hm.1
    | row t xs => simp only [Ent.own, hm.2.2, Bool.false_eq_true, if_false, Option.some.injEq] at hb; rw [← hb]; exact hm.1
    | map xs => simp only [Ent.own, Option.some.injEq] at hb; rw [← hb]; exact hm.1
    | _ => cases hb
  refine ⟨h.change (look_lt hl) hr (by rw [hw]; simp) (fun hx => absurd hx (not_al hl)) hne (fun b hb _ => hsame b hb) (fun b hb => by rw [hbo b hb]; exact ⟨hold, hG⟩) ?_ ?_ hd, ?_⟩
  · intro k f _ hf b hb he
    have := h.ow_lt hf hb
    rw [hbo b he] at this
    omega
  · intro _
    exact hok hnew hold hG (fun b hb => hsame b (h.gin b hb))
  · intro n hn
    have hni : n ≠ bs := fun he => not_al (he ▸ hl) hn
    exact ⟨E.set_ne m hni, al_upd hne n hn⟩

/-- A new row, kept or written no more. -/
theorem Hd.fin {c : Cfg TB} {G : Nat → Prop} {w w' : World} {E : Env} (h : Holds c G w E L) {bs : Nat} (hl : look L bs = some .rsv) {arr : Array Value} {ty : TypeId} (hw : w'.heap = w.heap.push (.cells arr ty (0, 0))) (hr : Rest w w') {a : Ty} {xs : List a.T} {cap : Nat} (keep : Bool)
    (hsz : arr.size = cap * a.sz) (hle : xs.length ≤ cap) (hrow : RowsIn (Rp G w a) a.sz arr 0 xs) :
    Hd c w' (E.set bs ⟨w.heap.size, 0, false, xs.length, cap, none⟩) (updL L (fin keep bs a xs)) ∧ (∀ n, Al L n → (E.set bs ⟨w.heap.size, 0, false, xs.length, cap, none⟩).nm n = E.nm n ∧ Al (updL L (fin keep bs a xs)) n) ∧ Al (updL L (fin keep bs a xs)) bs := by
  obtain ⟨h1, h2⟩ := h.newBlk hl hw hr (e := .row a xs) (m := ⟨w.heap.size, 0, false, xs.length, cap, none⟩) rfl ⟨rfl, rfl, rfl⟩
    (fun hnew hold hG hsame => ⟨rfl, trivial, .inr ⟨rfl, hG, hold, hle, arr, ty, hnew, by show 0 + cap * a.sz ≤ arr.size; omega, hrow.imp fun x vs hx => Rp.mono hsame (fun _ h => h) a x vs hx⟩⟩)
  have hlk : look (upd L (bs, .row a xs)) bs = some (.row a xs) := by rw [look_upd (look_lt hl), if_pos rfl]
  cases keep with
  | true => exact ⟨⟨G, h1⟩, h2, ⟨_, hlk, rfl⟩⟩
  | false =>
    have h3 := h1.freeze hlk
    refine ⟨⟨_, h3⟩, fun n hn => ⟨(h2 n hn).1, al_upd rfl n (h2 n hn).2⟩, al_upd rfl bs ⟨_, hlk, rfl⟩⟩

theorem Holds.known {c : Cfg TB} {G : Nat → Prop} {w : World} {E : Env} (h : Holds c G w E L) (hlk : ∀ n e, lkp n = some e → look L n = some e) {u : Ups} (hu : ∀ q ∈ u, ∃ t ys e, lkp q.1 = some e ∧ OwnE e t ys ∧ q.2 = .shr t ys) :
    ∃ G', Holds c G' w E (updL L u) ∧ (∀ n, Al L n → Al (updL L u) n) ∧ Known .frz lkp E c G' w [] u [] ∧ (∀ n, n ∉ u.map (·.1) → look (updL L u) n = look L n) ∧ (∀ b, G b → G' b) := by
  obtain ⟨G1, h1, hg1, ha1, hk1, hq1⟩ := h.freezes u (fun q hq => by
    obtain ⟨t, ys, e0, hl, ho0, e⟩ := hu q hq
    exact ⟨t, ys, .inl ⟨e0, hlk _ _ hl, ho0⟩, e⟩)
  refine ⟨G1, h1, ha1, ⟨?_, ?_, fun i t ys _ hx => by simp at hx, fun i t ys _ hx => by simp at hx, fun i cs _ hx => by simp at hx⟩, ?_, hg1⟩
  · intro i t ys hl
    rcases hk1 i _ (hlk _ _ hl) with hx | ⟨_, _, hx, _⟩
    · exact h1.ent i _ hx
    · cases hx
  · rintro i t ys e0 hl ho0 (⟨hx, _⟩ | hx)
    · cases hx
    · exact h1.ent i _ (hq1 _ hx)
  · intro n hn
    cases hl : look L n with
    | some e =>
      rcases hk1 n e hl with hx | ⟨t, ys, _, _, hx⟩
      · exact hx
      · exact absurd (List.mem_map.2 ⟨_, hx, rfl⟩) hn
    | none =>
      have hge : L.length ≤ n := by
        rcases Nat.lt_or_ge n L.length with h' | h'
        · unfold look at hl; rw [List.getElem?_eq_getElem h'] at hl; cases hl
        · exact h'
      unfold look
      rw [List.getElem?_eq_none (by rw [updL_length]; exact hge)]

theorem packC_frz_ups {a : Ty} {cs : List SV} {x : a.T} {r : List SV} {nes : List NE} {u : Ups} (h : packC .frz lkp a cs = some (x, r, nes, u)) : ∀ q ∈ u, ∃ t ys e, lkp q.1 = some e ∧ OwnE e t ys ∧ q.2 = .shr t ys := by
  intro q hq
  obtain ⟨_, g2⟩ := packC_get _ _ _ _ _ _ h
  obtain ⟨k, t, s, xs, ne, uk, hs, hne, hqk⟩ := g2 q hq
  rcases packS_ups hs with rfl | ⟨i, t', ys, e', hl, hoe, _, _, rfl⟩ | hx
  · cases hqk
  · rw [List.mem_singleton] at hqk; subst hqk; exact ⟨t', ys, e', hl, hoe, rfl⟩
  · cases hx
theorem packL_ups {a : Ty} : ∀ (n : Nat) (cs : List SV) (xs : List a.T) (u : Ups), packL lkp a n cs = some (xs, u) → ∀ q ∈ u, ∃ t ys e, lkp q.1 = some e ∧ OwnE e t ys ∧ q.2 = .shr t ys := by
  intro n
  induction n with
  | zero =>
    intro cs xs u h
    cases cs with
    | nil => simp only [packL, Option.some.injEq, Prod.mk.injEq] at h; obtain ⟨rfl, rfl⟩ := h; intro q hq; cases hq
    | cons v r => simp [packL] at h
  | succ n ih =>
    intro cs xs u h
    simp only [packL] at h
    split at h
    rotate_left
    · cases h
    rename_i x r nes u1 hp
    split at h
    rotate_left
    · cases h
    rename_i xs' u2 hq
    simp only [Option.some.injEq, Prod.mk.injEq] at h
    obtain ⟨rfl, rfl⟩ := h
    intro q hq'
    rcases List.mem_append.1 hq' with hq' | hq'
    · exact packC_frz_ups hp q hq'
    · exact ih _ _ _ hq q hq'

theorem ofCell_wf (E : Env) (v : Value) : (ofCell v).wf E L := by
  cases v with
  | int k n => cases k <;> first | trivial | (simp only [ofCell]; split <;> trivial)
  | float k n => cases k <;> trivial
  | slice a l c => simp only [ofCell]; split <;> trivial
  | _ => trivial
theorem zeroE_wf (E : Env) {t : TypeId} {z : List SV} (h : zeroE P t = some z) : wfL E L z := by
  unfold zeroE at h
  split at h
  · split at h
    · simp only [Option.some.injEq] at h
      subst h
      refine wfL_mem.2 fun v hv => ?_
      obtain ⟨u, _, rfl⟩ := List.mem_map.1 hv
      exact ofCell_wf E u
    · cases h
  · cases h

theorem splice_wf {E : Env} {cs vs : List SV} (off : Nat) (h1 : wfL E L cs) (h2 : wfL E L vs) : wfL E L (splice cs off vs) :=
  wfL_mem.2 fun u hu => (splice_mem hu).elim (wfL_mem.1 h1 u) (wfL_mem.1 h2 u)
theorem fillV_wf {E : Env} {place : Nat → Option (Nat × Nat)} : ∀ (l : List (Nat × SV)) (cs cs' : List SV), fillV place cs l = some cs' → wfL E L cs → (∀ q ∈ l, q.2.wf E L) → wfL E L cs'
  | [], cs, cs', h, hw, _ => by simp only [fillV, Option.some.injEq] at h; subst h; exact hw
  | (i, v) :: r, cs, cs', h, hw, hl => by
    simp only [fillV] at h
    split at h
    · cases h
    · split at h
      · exact fillV_wf r _ _ h (splice_wf _ hw (cellsV_wf (hl (i, v) (by simp)))) (fun q hq => hl q (by simp [hq]))
      · cases h
theorem fresh_wf {E : Env} {z : List SV} (h : wfL E L z) (n size : Nat) : wfL E L (fresh z n size) := by
  refine wfL_mem.2 fun v hv => ?_
  unfold fresh at hv
  obtain ⟨i, _, rfl⟩ := List.mem_map.1 hv
  simp only [List.getD]
  cases hz : z[i % size]? with
  | none => exact trivial
  | some u => exact wfL_mem.1 h u (List.mem_of_getElem? hz)

theorem buildSliceE_ok {o : Oper} {ρ : Operand → SV} {t : TypeId} {len : Nat} {parts : Array (Nat × Operand)} (hop : o.op = .buildSlice t len parts) {keep : Bool} {bs : Nat} (hlk : ∀ n e, lkp n = some e → look L n = some e) {v : SV} {ups : Ups}
    (h : buildSliceE P lkp t len (parts.toList.map fun q => (q.1, ρ q.2)) keep bs pr = some (v, ups)) : RunOk TB P o ρ L v ups := by
  unfold buildSliceE at h
  split at h
  rotate_left
  · cases h
  rename_i e hu
  split at h
  rotate_left
  · cases h
  rename_i q z a hq hz hty
  split at h
  rotate_left
  · cases h
  rename_i hc
  obtain ⟨hzl, hqa, hsz, hna, hnew⟩ := hc
  split at h
  rotate_left
  · cases h
  rename_i cs hf
  split at h
  rotate_left
  · cases h
  rename_i xs u hp
  simp only [pr, Option.some.injEq, Prod.mk.injEq] at h
  obtain ⟨rfl, rfl⟩ := h
  have hbs : look L bs = some .rsv := hlk _ _ (by have := newOk_spec hnew 0 (by omega); simpa using this)
  refine runOk_of fun c w E hh hw => ?_
  obtain ⟨G, hG⟩ := hh
  have hups := packL_ups _ _ _ _ hp
  obtain ⟨G', k1, k2, k3, k4, _⟩ := hG.known hlk hups
  have hwcs : wfL E L cs := fillV_wf _ _ _ hf (fresh_wf (zeroE_wf E hz) _ _) (by
    intro q' hq'
    obtain ⟨y, _, rfl⟩ := List.mem_map.1 hq'
    exact hw y.2)
  obtain ⟨l1, l2, l3⟩ := packL_rows _ _ _ _ hp hwcs k3
  have hbs1 : look (updL L u) bs = some .rsv := by
    rw [k4 bs]; exact hbs
    intro hx
    obtain ⟨q', hq', he⟩ := List.mem_map.1 hx
    obtain ⟨t', ys, e', hl, hoe, _⟩ := hups q' hq'
    have := hlk _ _ hl
    rw [he, hbs] at this; cases this; cases hoe
  obtain ⟨f1, f2, f3⟩ := Hd.fin k1 hbs1 (w' := w.alloc (.cells (denL E cs).toArray e)) (ty := e) rfl ⟨rfl, rfl, rfl⟩ (a := a) (xs := xs) (cap := len) keep (by simp [denL_length, l2]) (by omega) l3
  rw [updL_append]
  refine ⟨w.alloc (.cells (denL E cs).toArray e), _, _, ?_, .inl rfl, f1, fun n hn => f2 n (k2 n hn), rfl, f3⟩
  obtain ⟨zv, hzr, hzc⟩ := zeroE_run (E := E) (P := P) w hz
  simp only [execOp, hop, SV.den, Env.set_eq, Nm.ad, Bool.false_eq_true, if_false, l1]
  refine run_next ?_
  have hfill := fill_sound (E := E) _ _ _ _ hna hf
  rw [fresh_cells hzl] at hfill
  have hparts : (List.map (fun q => (q.1, q.2.den E)) (List.map (fun y => (y.1, ρ y.2)) parts.toList)) = (parts.map fun (i, x) => (i, (ρ x).den E)).toList := by
    rw [List.map_map, Array.toList_map]; rfl
  rw [hparts] at hfill
  simp only [Array.toArray_toList] at hfill
  have h24 : ¬ (len * q.size > 2 ^ 24) := by
    have : (2 : Nat) ^ 24 = 16777216 := rfl
    omega
  simp only [Instr.buildSlice, Sem.run_bind, run_underlying hu, Result.andThen, sizeOf, typeInfo]
  by_cases h0 : len * q.size = 0
  · have hr : Array.range 0 = #[] := by decide
    rw [h0, hr] at hfill
    simp [hq, h0, hr, newRow]
    simp at hfill
    simp [hfill]
  · simp [hq, h24, h0, hzr, hzc, newRow]
    simp at hfill
    simp [hfill]

theorem run_buildSlice {o : Oper} {ρ : Operand → SV} {E : Env} {w : World} {t e : TypeId} {len : Nat} {parts : Array (Nat × Operand)} (hop : o.op = .buildSlice t len parts) {q : TypeInfo} {z cs : List SV} (hu : P.underlying t = some (.slice e)) (hq : P.info? e = some q) (hz : zeroE P e = some z)
    (hzl : z.length = q.size) (hsz : len * q.size ≤ 16777216) (hna : noRawAgg (parts.toList.map fun q => (q.1, ρ q.2)) = true) (hf : fillV (fun i => some (i * q.size, q.size)) (fresh z (len * q.size) q.size) (parts.toList.map fun q => (q.1, ρ q.2)) = some cs) :
    (execOp (fun x => (ρ x).den E) o).run P w = .ok (.value (.slice (some ⟨w.heap.size, 0, none⟩) len len)) (w.alloc (.cells (denL E cs).toArray e)) := by
  obtain ⟨zv, hzr, hzc⟩ := zeroE_run (E := E) (P := P) w hz
  simp only [execOp, hop]
  refine run_next ?_
  have hfill := fill_sound (E := E) _ _ _ _ hna hf
  rw [fresh_cells hzl] at hfill
  have hparts : (List.map (fun q => (q.1, q.2.den E)) (List.map (fun y => (y.1, ρ y.2)) parts.toList)) = (parts.map fun (i, x) => (i, (ρ x).den E)).toList := by
    rw [List.map_map, Array.toList_map]; rfl
  rw [hparts] at hfill
  simp only [Array.toArray_toList] at hfill
  have h24 : ¬ (len * q.size > 2 ^ 24) := by
    have : (2 : Nat) ^ 24 = 16777216 := rfl
    omega
  simp only [Instr.buildSlice, Sem.run_bind, run_underlying hu, Result.andThen, sizeOf, typeInfo]
  by_cases h0 : len * q.size = 0
  · have hr : Array.range 0 = #[] := by decide
    rw [h0, hr] at hfill
    simp [hq, h0, hr, newRow]
    simp at hfill
    simp [hfill]
  · simp [hq, h24, h0, hzr, hzc, newRow]
    simp at hfill
    simp [hfill]

/-- A new slice of slices. -/
theorem Holds.giveD {c : Cfg TB} {G : Nat → Prop} {w w' : World} {E : Env} (h : Holds c G w E L) {bs : Nat} (hl : look L bs = some .rsv) (hr : Rest w w') (hs : w.heap.size ≤ w'.heap.size) {m : Nm} {l : List Nat} {t : Ty} {xss : List (List t.T)}
    (hw : ∀ b, b < w.heap.size → b ∉ l → w'.heap[b]? = w.heap[b]?) (hno : ∀ b ∈ l, NoOwn E L b) (hd : ∀ (E' : Env) (L' : Store), DeepOk c G w' E' L' m l t xss none) :
    Holds c G w' (E.setD bs m l) (upd L (bs, .deep t xss none)) ∧ (∀ n, Al L n → (E.setD bs m l).nm n = E.nm n ∧ Al (upd L (bs, .deep t xss none)) n) ∧ Al (upd L (bs, .deep t xss none)) bs ∧ (E.setD bs m l).nm bs = m := by
  have how : ∀ b, (Ent.deep t xss none).ow (E.setD bs m l) bs b ↔ b ∈ l := fun b => by rw [Ent.ow_deep, (E.setD_eq _ _ _).2]
  refine ⟨h.changeE (look_lt hl) hr hs (fun hx => absurd hx (not_al hl)) (fun k hk => E.setD_ne _ _ hk) rfl (fun b hb hn => hw b hb (fun hx => hn ((how b).2 hx)))
    (fun b hb => by have := (hd E L).all b ((how b).1 hb); exact ⟨this.2.1, this.1⟩) (fun k f _ hf b hb he => hno b ((how b).1 he) k f hf hb) trivial ?_, ?_, ⟨_, by rw [look_upd (look_lt hl), if_pos rfl], rfl⟩, (E.setD_eq _ _ _).1⟩
  · intro t' xs' q he
    cases he
    rw [(E.setD_eq _ _ _).1, (E.setD_eq _ _ _).2]
    exact hd _ _
  · intro n hn
    have hni : n ≠ bs := fun he => not_al (he ▸ hl) hn
    exact ⟨(E.setD_ne _ _ hni).1, al_upd rfl n hn⟩
theorem noOwn_new {c : Cfg TB} {G : Nat → Prop} {w : World} {E : Env} (h : Holds c G w E L) : NoOwn E L w.heap.size := by
  intro n e he hb
  have := h.ow_lt he hb
  omega
theorem noOwn_kill {c : Cfg TB} {G : Nat → Prop} {w : World} {E : Env} (h : Holds c G w E L) {i b : Nat} {e : Ent} (hi : look L i = some e) (hb : e.ow E i b) : NoOwn E (upd L (i, .dead)) b := by
  intro n f hf hfb
  rw [look_upd (look_lt hi)] at hf
  by_cases hn : n = i
  · subst hn
    simp only [if_true, Option.some.injEq] at hf; subst hf
    rcases hfb with hfb | ⟨hfb, _⟩ <;> cases hfb
  · rw [if_neg hn] at hf
    exact h.inj n i f e b hn hf hi hfb hb
theorem NoOwn.kill {E : Env} {b : Nat} (h : NoOwn E L b) {i : Nat} (hi : i < L.length) : NoOwn E (upd L (i, .dead)) b := by
  intro n f hf hfb
  rw [look_upd hi] at hf
  by_cases hn : n = i
  · simp only [hn, if_true, Option.some.injEq] at hf; subst hf
    rcases hfb with hfb | ⟨hfb, _⟩ <;> cases hfb
  · rw [if_neg hn] at hf
    exact h n f hf hfb

theorem makeD_ok {o : Oper} {ρ : Operand → SV} {t : TypeId} {l cp : Operand} (hop : o.op = .makeSlice t l cp) {bs : Nat} (hlk : ∀ n e, lkp n = some e → look L n = some e) {v : SV} {ups : Ups}
    (h : makeD P lkp t (ρ l) (ρ cp) bs pr = some (v, ups)) : RunOk TB P o ρ L v ups := by
  unfold makeD at h
  split at h
  rotate_left
  · cases h
  rename_i e hu
  split at h
  rotate_left
  · cases h
  rename_i q a k n k' m hq hz hty hl hcp
  split at h
  rotate_left
  · cases h
  rename_i hc
  obtain ⟨hqs, hqb, hnew⟩ := hc
  split at h
  rotate_left
  · cases h
  rename_i hn
  obtain ⟨h0, h1, h2⟩ := hn
  simp only [pr, Option.some.injEq, Prod.mk.injEq] at h
  obtain ⟨rfl, rfl⟩ := h
  have hbs : look L bs = some .rsv := hlk _ _ (by have := newOk_spec hnew 0 (by omega); simpa using this)
  refine runOk_of fun c w E hh hw => ?_
  obtain ⟨G, hG⟩ := hh
  have hm64 : I64 m := by
    have : (1 : Int) ≤ q.bytes := by omega
    have : m * 1 ≤ m * q.bytes := Int.mul_le_mul_of_nonneg_left this (by omega)
    exact ⟨by omega, by omega⟩
  have hrun := run_makeSlice (E := E) (k := k) (k' := k') w hu hq hz (by rw [hqs]; rfl) h0 h1 h2 hm64
  have hold : ¬ c.Old w.heap.size := fun hx => by have := hx.1; have := hG.size; omega
  have hGn : ¬ G w.heap.size := fun hx => by have := hG.gin _ hx; omega
  have hsame : ∀ (o : Obj) (b : Nat), b < w.heap.size → (w.alloc o).heap[b]? = w.heap[b]? := by
    intro o b hb
    show (w.heap.push o)[b]? = _
    rw [Array.getElem?_push, if_neg (by omega)]
  have hnewb : ∀ (o : Obj), (w.alloc o).heap[w.heap.size]? = some o := by
    intro o
    show (w.heap.push o)[w.heap.size]? = _
    simp
  obtain ⟨g1, g2, g3, g4⟩ := hG.giveD (w' := w.alloc (.cells ((Array.range (m.toNat * ([SV.nils] : List SV).length)).map fun i => (denL E [SV.nils]).toArray[i % (denL E [SV.nils]).toArray.size]!) e)) hbs ⟨rfl, rfl, rfl⟩ (by show _ ≤ (w.heap.push _).size; simp) (m := ⟨w.heap.size, 0, false, n.toNat, m.toNat, none⟩) (l := [w.heap.size]) (t := a) (xss := List.replicate n.toNat [])
    (fun b hb _ => hsame _ b hb) (by intro b hb; simp only [List.mem_singleton] at hb; subst hb; exact noOwn_new hG)
    (by
      intro E' L'
      refine ⟨by simp, rfl, by simp, ?_, .inr ⟨rfl, by simp, by simp; omega, _, e, fun _ => ⟨0, 0, true, 0, 0, none⟩, hnewb _, by simp, ?_, ?_, ?_, fun _ _ he => by cases he⟩⟩
      · intro b hb
        simp only [List.mem_singleton] at hb; subst hb
        exact ⟨hGn, hold, _, _, _, hnewb _⟩
      · intro i hi
        simp only [List.length_replicate] at hi
        rw [Array.getElem?_map, Array.getElem?_range, if_pos (by simp; omega)]
        have : i % (denL E [SV.nils]).toArray.size = 0 := Nat.mod_one i
        simp only [Option.map_some, this]
        rfl
      · intro i xs hi _
        rw [List.getElem?_replicate] at hi
        split at hi
        · simp only [Option.some.injEq] at hi; subst hi
          exact ⟨⟨rfl, trivial, .inl ⟨rfl, rfl, rfl⟩⟩, fun hx => by cases hx⟩
        · cases hi
      · intro i j _ _ _ _ _ hx; cases hx)
  refine ⟨_, _, _, ?_, .inl rfl, ⟨G, g1⟩, g2, rfl, g3⟩
  simp only [execOp, hop, hl, hcp, SV.den]
  rw [g4]
  exact run_next hrun

theorem buildD_ok {o : Oper} {ρ : Operand → SV} {t : TypeId} {len : Nat} {parts : Array (Nat × Operand)} (hop : o.op = .buildSlice t len parts) {bs : Nat} (hlk : ∀ n e, lkp n = some e → look L n = some e) {v : SV} {ups : Ups}
    (h : buildD P lkp t len (parts.toList.map fun q => (q.1, ρ q.2)) bs pr = some (v, ups)) : RunOk TB P o ρ L v ups := by
  unfold buildD at h
  split at h
  rotate_left
  · cases h
  rename_i e hu
  split at h
  rotate_left
  · rename_i q a hq hz hty hparts
    split at h
    rotate_left
    · cases h
    rename_i hc
    obtain ⟨hqs, rfl, hnew⟩ := hc
    simp only [pr, Option.some.injEq, Prod.mk.injEq] at h
    obtain ⟨rfl, rfl⟩ := h
    have hbs : look L bs = some .rsv := hlk _ _ (by have := newOk_spec hnew 0 (by omega); simpa using this)
    refine runOk_of fun c w E hh hw => ?_
    obtain ⟨G, hG⟩ := hh
    have hrun := run_buildSlice (E := E) (w := w) (cs := [.nils]) hop hu hq hz (by rw [hqs]; rfl) (by rw [hqs]; omega) (by rw [hparts]; rfl) (by rw [hparts, hqs]; rfl)
    have hold : ¬ c.Old w.heap.size := fun hx => by have := hx.1; have := hG.size; omega
    have hGn : ¬ G w.heap.size := fun hx => by have := hG.gin _ hx; omega
    have hnewb : ∀ (o : Obj), (w.alloc o).heap[w.heap.size]? = some o := by
      intro o
      show (w.heap.push o)[w.heap.size]? = _
      simp
    have hsame : ∀ (o : Obj) (b : Nat), b < w.heap.size → (w.alloc o).heap[b]? = w.heap[b]? := by
      intro o b hb
      show (w.heap.push o)[b]? = _
      rw [Array.getElem?_push, if_neg (by omega)]
    obtain ⟨g1, g2, g3, g4⟩ := hG.giveD (w' := w.alloc (.cells (denL E [SV.nils]).toArray e)) hbs ⟨rfl, rfl, rfl⟩ (by show _ ≤ (w.heap.push _).size; simp) (m := ⟨w.heap.size, 0, false, 1, 1, none⟩) (l := [w.heap.size]) (t := a) (xss := [[]])
      (fun b hb _ => hsame _ b hb) (by intro b hb; simp only [List.mem_singleton] at hb; subst hb; exact noOwn_new hG)
      (by
        intro E' L'
        refine ⟨rfl, rfl, by simp, ?_, .inr ⟨rfl, by simp, by simp, _, e, fun _ => ⟨0, 0, true, 0, 0, none⟩, hnewb _, by simp [denL], ?_, ?_, ?_, fun _ _ he => by cases he⟩⟩
        · intro b hb
          simp only [List.mem_singleton] at hb; subst hb
          exact ⟨hGn, hold, _, _, _, hnewb _⟩
        · intro i hi
          simp only [List.length_singleton] at hi
          have : i = 0 := by omega
          subst this
          rfl
        · intro i xs hi _
          cases i with
          | succ i => simp at hi
          | zero =>
            simp only [List.getElem?_cons_zero, Option.some.injEq] at hi; subst hi
            exact ⟨⟨rfl, trivial, .inl ⟨rfl, rfl, rfl⟩⟩, fun hx => by cases hx⟩
        · intro i j _ _ _ _ _ hx; cases hx)
    refine ⟨_, _, _, hrun, .inl ?_, ⟨G, g1⟩, g2, rfl, g3⟩
    simp only [SV.den]; rw [g4]; rfl
  · cases h
  rename_i q a j hq hz hty hparts
  split at h
  rotate_left
  · cases h
  rename_i t' ys hj
  split at h
  rotate_left
  · cases h
  rename_i he
  subst he
  split at h
  rotate_left
  · cases h
  rename_i hc
  obtain ⟨hqs, rfl, hnew⟩ := hc
  simp only [pr, Option.some.injEq, Prod.mk.injEq] at h
  obtain ⟨rfl, rfl⟩ := h
  have hbs : look L bs = some .rsv := hlk _ _ (by have := newOk_spec hnew 0 (by omega); simpa using this)
  have hj' := hlk _ _ hj
  refine runOk_of fun c w E hh hw => ?_
  obtain ⟨G, hG⟩ := hh
  have hrun := run_buildSlice (E := E) (w := w) (cs := [.slw j]) hop hu hq hz (by rw [hqs]; rfl) (by rw [hqs]; omega) (by rw [hparts]; rfl) (by rw [hparts, hqs]; rfl)
  have hold : ¬ c.Old w.heap.size := fun hx => by have := hx.1; have := hG.size; omega
  have hGn : ¬ G w.heap.size := fun hx => by have := hG.gin _ hx; omega
  have hkill := hG.kill (look_lt hj')
  have hjb : j ≠ bs := by rintro rfl; rw [hj'] at hbs; cases hbs
  have hbs1 : look (upd L (j, .dead)) bs = some .rsv := by rw [look_upd (look_lt hj'), if_neg (fun he => hjb he.symm)]; exact hbs
  have hown := hG.ent j _ hj'
  have hjo : (E.nm j).nil = false → (Ent.row t' ys).ow E j (E.nm j).blk := fun hn => .inl (by simp [Ent.own, hn])
  have hnewb : ∀ (o : Obj), (w.alloc o).heap[w.heap.size]? = some o := by
    intro o
    show (w.heap.push o)[w.heap.size]? = _
    simp
  have hsame : ∀ (o : Obj) (b : Nat), b < w.heap.size → (w.alloc o).heap[b]? = w.heap[b]? := by
    intro o b hb
    show (w.heap.push o)[b]? = _
    rw [Array.getElem?_push, if_neg (by omega)]
  have hlt : (E.nm j).nil = false → (E.nm j).blk < w.heap.size := fun hn => hG.ow_lt hj' (hjo hn)
  obtain ⟨g1, g2, g3, g4⟩ := hkill.giveD (w' := w.alloc (.cells (denL E [SV.slw j]).toArray e)) hbs1 ⟨rfl, rfl, rfl⟩ (by show _ ≤ (w.heap.push _).size; simp) (m := ⟨w.heap.size, 0, false, 1, 1, none⟩) (l := addB (E.nm j) [w.heap.size]) (t := t') (xss := [ys])
    (fun b hb _ => hsame _ b hb)
    (by
      intro b hb
      rcases addB_mem.1 hb with hb | ⟨hn, rfl⟩
      · simp only [List.mem_singleton] at hb; subst hb; exact noOwn_new hkill
      · exact noOwn_kill hG hj' (hjo hn))
    (by
      intro E' L'
      have hin := hown.inner
      refine ⟨rfl, rfl, ?_, ?_, .inr ⟨rfl, addB_mem.2 (.inl (by simp)), by simp, _, e, fun _ => E.nm j, hnewb _, by simp [denL], ?_, ?_, ?_, fun _ _ he => by cases he⟩⟩
      · unfold addB
        split
        · simp
        · rename_i hn
          have := hlt (by simpa using hn)
          simp; omega
      · intro b hb
        rcases addB_mem.1 hb with hb | ⟨hn, rfl⟩
        · simp only [List.mem_singleton] at hb; subst hb
          exact ⟨hGn, hold, _, _, _, hnewb _⟩
        · obtain ⟨q1, q2, -⟩ := hG.ow_ok hj' (hjo hn)
          obtain ⟨-, -, hrow⟩ := hG.ent _ _ hj'
          rcases hrow with ⟨hnn, _⟩ | ⟨_, _, _, _, arr, ty, q3, _⟩
          · rw [hn] at hnn; cases hnn
          · exact ⟨q1, q2, arr, ty, _, by rw [hsame _ _ (hlt hn)]; exact q3⟩
      · intro i hi
        simp only [List.length_singleton] at hi
        have : i = 0 := by omega
        subst this
        rfl
      · intro i xs hi _
        cases i with
        | succ i => simp at hi
        | zero =>
          simp only [List.getElem?_cons_zero, Option.some.injEq] at hi
          subst hi
          refine ⟨hin.mono (fun x vs hx => Rp.mono (fun b hb => hsame _ b (hG.gin b hb)) (fun _ h => h) _ x vs hx) (fun hn => hsame _ _ (hlt hn)), fun hn => ⟨addB_mem.2 (.inr ⟨hn, rfl⟩), ?_⟩⟩
          have := hlt hn
          show (E.nm j).blk ≠ w.heap.size
          omega
      · intro i i' hi hi' hii
        simp at hi hi'
        omega)
  refine ⟨_, _, _, hrun, .inl ?_, ⟨G, g1⟩, fun n hn => ?_, rfl, g3⟩
  · simp only [SV.den]; rw [g4]; rfl
  · obtain ⟨q1, q2⟩ := g2 n (al_upd rfl n hn)
    exact ⟨q1, q2⟩

theorem makeSliceE_ok {o : Oper} {ρ : Operand → SV} {t : TypeId} {l cp : Operand} (hop : o.op = .makeSlice t l cp) {keep : Bool} {bs : Nat} (hlk : ∀ n e, lkp n = some e → look L n = some e) {v : SV} {ups : Ups}
    (h : makeSliceE P lkp t (ρ l) (ρ cp) keep bs pr = some (v, ups)) : RunOk TB P o ρ L v ups := by
  unfold makeSliceE at h
  split at h
  rotate_left
  · cases h
  rename_i e hu
  split at h
  rotate_left
  · cases h
  rename_i q z a k n k' m hq hz hty hl hcp
  split at h
  rotate_left
  · cases h
  rename_i zv nes u0 hpz
  split at h
  rotate_left
  · cases h
  rename_i hc
  obtain ⟨hzl, hqa, hqb, hnew⟩ := hc
  split at h
  rotate_left
  · cases h
  rename_i hn
  obtain ⟨h0, h1, h2⟩ := hn
  simp only [pr, Option.some.injEq, Prod.mk.injEq] at h
  obtain ⟨rfl, rfl⟩ := h
  have hbs : look L bs = some .rsv := hlk _ _ (by have := newOk_spec hnew 0 (by omega); simpa using this)
  refine runOk_of fun c w E hh hw => ?_
  obtain ⟨G, hG⟩ := hh
  have hm64 : I64 m := by
    have : (1 : Int) ≤ q.bytes := by omega
    have : m * 1 ≤ m * q.bytes := Int.mul_le_mul_of_nonneg_left this (by omega)
    exact ⟨by omega, by omega⟩
  have hrp : Rp G w a zv (denL E z) := by
    obtain ⟨c1, e1, _, _, hd⟩ := packC_den E _ _ _ _ _ _ hpz
    rw [List.append_nil] at e1; subst e1
    rw [hd]
    refine Rp.mk _ _ _ fun k e he => ?_
    obtain ⟨g1, _⟩ := packC_get _ _ _ _ _ _ hpz
    rcases g1 k false e he with rfl | ⟨t, s, ys, ne, uk, hs, hne, hsc, hsub, rfl⟩
    · trivial
    have hnf : nesF E nes k = ne.nm E := by simp [nesF, hne]
    rw [hnf]
    exact packS_shr (L := L) hs (by simp) (wfL_mem.1 (zeroE_wf E hz) s hsc) (fun i t ys h => by simp [noNames] at h) (fun i t ys e _ h => by simp [noNames] at h)
  have hrow : RowsIn (Rp G w a) a.sz ((Array.range (m.toNat * z.length)).map fun i => (denL E z).toArray[i % (denL E z).toArray.size]!) 0 (List.replicate n.toNat zv) := by
    intro i x hx
    rw [List.getElem?_replicate] at hx
    split at hx
    · rename_i hi
      simp only [Option.some.injEq] at hx; subst hx
      have hzs : z.length = a.sz := by omega
      have hlt : (i + 1) * a.sz ≤ m.toNat * a.sz := Nat.mul_le_mul_right _ (by omega)
      rw [Nat.add_mul] at hlt
      have : cellsAt ((Array.range (m.toNat * z.length)).map fun i => (denL E z).toArray[i % (denL E z).toArray.size]!) (0 + i * a.sz) a.sz = denL E z := by
        apply List.ext_getElem?
        intro j
        rw [cellsAt_get]
        split
        · rename_i hj
          rw [Nat.zero_add, Array.getElem?_map, Array.getElem?_range, if_pos (by rw [hzs]; omega)]
          have e1 : (denL E z).toArray.size = a.sz := by simp [denL_length, hzs]
          simp only [Option.map_some, e1]
          have hmod : (i * a.sz + j) % a.sz = j := by rw [Nat.mul_comm, Nat.mul_add_mod, Nat.mod_eq_of_lt hj]
          have hjl : j < (denL E z).length := by rw [denL_length, hzs]; exact hj
          rw [hmod, List.getElem?_eq_getElem hjl]
          simp [hjl]
        · rw [List.getElem?_eq_none (by rw [denL_length]; omega)]
      rw [this]; exact hrp
    · cases hx
  have hlen : (List.replicate n.toNat zv).length = n.toNat := by simp
  obtain ⟨f1, f2, f3⟩ := Hd.fin hG hbs (w' := w.alloc (.cells ((Array.range (m.toNat * z.length)).map fun i => (denL E z).toArray[i % (denL E z).toArray.size]!) e)) (ty := e) rfl ⟨rfl, rfl, rfl⟩ (a := a) (xs := List.replicate n.toNat zv) (cap := m.toNat) keep
    (by simp; rw [hzl, hqa]) (by rw [hlen]; omega) hrow
  refine ⟨_, _, _, ?_, .inl rfl, f1, f2, rfl, f3⟩
  simp only [execOp, hop, hl, hcp, SV.den, Env.set_eq, Nm.ad, Bool.false_eq_true, if_false, hlen]
  exact run_next (run_makeSlice (E := E) w hu hq hz hzl h0 h1 h2 hm64)

theorem allocE_ok {o : Oper} {ρ : Operand → SV} {t : TypeId} (hop : o.op = .alloc t) {keep : Bool} {bs : Nat} (hlk : ∀ n e, lkp n = some e → look L n = some e) {v : SV} {ups : Ups}
    (h : allocE P lkp t keep bs pr = some (v, ups)) : RunOk TB P o ρ L v ups := by
  unfold allocE at h
  split at h
  rotate_left
  · cases h
  rename_i z hz
  split at h
  rotate_left
  · cases h
  rename_i hnew
  have hbs : look L bs = some .rsv := hlk _ _ (by have := newOk_spec hnew 0 (by omega); simpa using this)
  have hrun : ∀ (E : Env) (w : World), (execOp (fun x => (ρ x).den E) o).run P w = .ok (.value (.pointer (some ⟨w.heap.size, 0, none⟩))) (w.alloc (.cells (denL E z).toArray t)) := by
    intro E w
    obtain ⟨zv, hzr, hzc⟩ := zeroE_run (E := E) (P := P) w hz
    simp only [execOp, hop]
    refine run_next ?_
    simp only [Instr.alloc, Sem.run_bind, hzr, Result.andThen]
    simp [run_newVar, hzc]
  split at h
  · rename_i len e _
    split at h
    rotate_left
    · cases h
    rename_i a q hty hq
    split at h
    rotate_left
    · cases h
    rename_i hc
    obtain ⟨hqa, hns, hlen⟩ := hc
    split at h
    rotate_left
    · cases h
    rename_i xs u hp
    simp only [pr, Option.some.injEq, Prod.mk.injEq] at h
    obtain ⟨rfl, rfl⟩ := h
    refine runOk_of fun c w E hh hw => ?_
    obtain ⟨G, hG⟩ := hh
    obtain ⟨l1, l2, l3⟩ := packL_rows (L := L) (c := c) (G := G) (w := w) (E := E) _ _ _ _ hp (zeroE_wf E hz) (noNames_known .frz)
    obtain ⟨f1, f2, f3⟩ := Hd.fin hG hbs (w' := w.alloc (.cells (denL E z).toArray t)) (ty := t) rfl ⟨rfl, rfl, rfl⟩ (a := a) (xs := xs) (cap := len) keep (by simp [denL_length, l2]) (by omega) l3
    refine ⟨_, _, _, hrun E w, .inl ?_, f1, f2, rfl, ⟨f3, by rw [Env.set_eq]; show 0 < xs.length; omega, by rw [Env.set_eq]⟩⟩
    simp only [SV.den, Env.set_eq]
    simp
  · split at h
    rotate_left
    · cases h
    simp only [pr, Option.some.injEq, Prod.mk.injEq] at h
    obtain ⟨rfl, rfl⟩ := h
    refine runOk_of fun c w E hh hw => ?_
    obtain ⟨G, hG⟩ := hh
    have hwz : ∀ (E' : Env) (L' : Store), wfL E' L' z ∧ denL E' z = denL E z := by
      intro E' L'
      have : ∀ (E1 : Env) (L1 : Store) (l : List Value), wfL E1 L1 (l.map ofCell) ∧ denL E1 (l.map ofCell) = l := fun E1 L1 l =>
        ⟨wfL_mem.2 fun v hv => by obtain ⟨u, _, rfl⟩ := List.mem_map.1 hv; exact ofCell_wf E1 u, denL_ofCell l⟩
      unfold zeroE at hz
      split at hz
      · split at hz
        · simp only [Option.some.injEq] at hz
          subst hz
          exact ⟨(this _ _ _).1, by rw [(this E' L' _).2, (this E L _).2]⟩
        · cases hz
      · cases hz
    obtain ⟨k1, k2⟩ := hG.newBlk hbs (w' := w.alloc (.cells (denL E z).toArray t)) (ob := .cells (denL E z).toArray t (0, 0)) rfl ⟨rfl, rfl, rfl⟩ (e := .box z) (m := ⟨w.heap.size, 0, false, 0, 0, none⟩) rfl ⟨rfl, rfl, rfl⟩
      (fun hnew hold hG hsame => ⟨rfl, rfl, hG, hold, ⟨t, by rw [(hwz (E.set bs ⟨w.heap.size, 0, false, 0, 0, none⟩) L).2, Nm.arr_nil _ rfl rfl]; exact hnew⟩, (hwz _ _).1⟩)
    refine ⟨_, _, _, hrun E w, .inl ?_, ⟨G, k1⟩, k2, rfl, ?_⟩
    · simp only [SV.den, Env.set_eq]
    · exact ⟨.box z, by show look (upd L (bs, .box z)) bs = _; rw [look_upd (look_lt hbs), if_pos rfl], rfl⟩

theorem boxE_ok {o : Oper} {ρ : Operand → SV} {t : TypeId} {x : Operand} (hop : o.op = .box t x) {bs : Nat} (hlk : ∀ n e, lkp n = some e → look L n = some e) {v : SV} {ups : Ups}
    (h : boxE lkp (ρ x) bs pr = some (v, ups)) : RunOk TB P o ρ L v ups := by
  unfold boxE at h
  split at h
  rotate_left
  · cases h
  rename_i hc
  obtain ⟨hr, hnew⟩ := hc
  have hbs : look L bs = some .rsv := hlk _ _ (by have := newOk_spec hnew 0 (by omega); simpa using this)
  simp only [pr, Option.some.injEq, Prod.mk.injEq] at h
  obtain ⟨rfl, rfl⟩ := h
  refine runOk_of fun c w E hh hw => ?_
  obtain ⟨G, hG⟩ := hh
  have hcell := cellsV_den (E := E) (ρ x) hr
  have hext : ∀ m : Nm, wfL (E.set bs m) (upd L (bs, .box (cellsV (ρ x)))) (cellsV (ρ x)) ∧ denL (E.set bs m) (cellsV (ρ x)) = denL E (cellsV (ρ x)) := by
    intro m
    exact wfL_ext (fun n hn => al_upd rfl n hn) (fun n hn => E.set_ne m (fun he => not_al (he ▸ hbs) hn)) _ (cellsV_wf (hw x))
  obtain ⟨k1, k2⟩ := hG.newBlk hbs (w' := w.alloc (.cells (denL E (cellsV (ρ x))).toArray t)) (ob := .cells (denL E (cellsV (ρ x))).toArray t (0, 0)) rfl ⟨rfl, rfl, rfl⟩ (e := .box (cellsV (ρ x))) (m := ⟨w.heap.size, 0, false, 0, 0, none⟩) rfl ⟨rfl, rfl, rfl⟩
    (fun hnew hold hG hsame => ⟨rfl, rfl, hG, hold, ⟨t, by rw [(hext _).2, Nm.arr_nil _ rfl rfl]; exact hnew⟩, (hext _).1⟩)
  refine ⟨w.alloc (.cells (denL E (cellsV (ρ x))).toArray t), _, .value (.pointer (some ⟨w.heap.size, 0, none⟩)), ?_, .inl ?_, ⟨G, k1⟩, k2, rfl, ?_⟩
  · simp only [execOp, hop]
    refine run_next ?_
    simp [Instr.box, run_newVar, hcell]
  · simp only [SV.den, Env.set_eq]
  · exact ⟨.box (cellsV (ρ x)), by show look (upd L (bs, .box (cellsV (ρ x)))) bs = _; rw [look_upd (look_lt hbs), if_pos rfl], rfl⟩
end

theorem splice_eq : ∀ (vs cs : List SV) (off : Nat), off + vs.length ≤ cs.length → splice cs off vs = cs.take off ++ vs ++ cs.drop (off + vs.length)
  | [], cs, off, h => by simp [splice]
  | v :: r, cs, off, h => by
    simp only [List.length_cons] at h
    rw [splice, splice_eq r _ _ (by rw [List.length_set]; omega)]
    have e1 : (cs.set off v).take (off + 1) = cs.take off ++ [v] := by
      rw [List.take_add_one, List.getElem?_set_self (by omega), List.take_set_of_le (Nat.le_refl _)]
      rfl
    rw [e1, List.drop_set_of_lt (by omega), List.length_cons, show off + 1 + r.length = off + (r.length + 1) from by omega]
    simp
/-- A part of a box becomes a box of its own. -/
theorem Holds.carve {c : Cfg TB} {G : Nat → Prop} {w : World} {E : Env} {L : Store} (h : Holds c G w E L) {i j : Nat} {cs : List SV} (hi : look L i = some (.box cs)) (hj : look L j = some .rsv) (off n : Nat) (hn : off + n ≤ cs.length) :
    Holds c G w (E.set j { blk := (E.nm i).blk, off := (E.nm i).off + off, nil := false, len := 0, cap := 0, odd := none, pp := ⟨(E.nm i).pp.pre ++ denL E (cs.take off), denL E (cs.drop (off + n)) ++ (E.nm i).pp.post⟩ }) (upd (upd L (i, .dead)) (j, .box ((cs.drop off).take n))) := by
  obtain ⟨h1, h2, h3, h4, ⟨ty, h5⟩, h6⟩ := h.ent i _ hi
  have hij : j ≠ i := by rintro rfl; rw [hi] at hj; cases hj
  have hk := h.kill (look_lt hi)
  have hj1 : look (upd L (i, .dead)) j = some .rsv := by rw [look_upd (look_lt hi), if_neg hij]; exact hj
  have hal : ∀ k, Al L k → k ≠ j := fun k hk he => not_al hj (he ▸ hk)
  have hsame : ∀ l, wfL E L l → ∀ m : Nm, wfL (E.set j m) (upd (upd L (i, .dead)) (j, .box ((cs.drop off).take n))) l ∧ denL (E.set j m) l = denL E l := fun l hl m =>
    wfL_ext (fun k hk => al_upd rfl k (al_upd rfl k hk)) (fun k hk => E.set_ne m (hal k hk)) l hl
  have hpart := wfL_mem.2 (fun v hv => wfL_mem.1 h6 v (List.mem_of_mem_drop (List.mem_of_mem_take hv)) : ∀ v ∈ (cs.drop off).take n, v.wf E L)
  refine hk.change (i := j) (e' := .box ((cs.drop off).take n)) (w' := w) (look_lt hj1) (.refl _) (Nat.le_refl _) (fun hx => absurd hx (not_al hj1)) rfl (fun _ _ _ => rfl) ?_ ?_ ?_
  · intro b hb
    simp only [Ent.own, Option.some.injEq] at hb
    subst hb
    exact ⟨h4, h3⟩
  · intro k f hkj hf b hb he
    simp only [Ent.own, Option.some.injEq] at he
    rw [look_upd (look_lt hi)] at hf
    by_cases hki : k = i
    · subst hki; simp only [if_true, Option.some.injEq] at hf; subst hf; rcases hb with hb | ⟨hb, _⟩ <;> cases hb
    · rw [if_neg hki] at hf
      exact h.inj k i f (.box cs) b hki hf hi hb (.inl (by simp [Ent.own, he]))
  · intro _
    refine ⟨rfl, by simp [h2, denL_length]; omega, h3, h4, ⟨ty, ?_⟩, (hsame _ hpart _).1⟩
    rw [(hsame _ hpart _).2, h5]
    congr 2
    simp only [Nm.arr]
    congr 1
    have e : cs = cs.take off ++ ((cs.drop off).take n ++ cs.drop (off + n)) := by
      rw [← List.drop_drop, List.take_append_drop, List.take_append_drop]
    conv => lhs; rw [e]
    simp only [denL_append, List.append_assoc]
/-- A box gets its part back. -/
theorem Holds.mend {c : Cfg TB} {G : Nat → Prop} {w : World} {E : Env} {L : Store} (h : Holds c G w E L) {i j : Nat} {cs cs' : List SV} (hij : i ≠ j) (hi : i < L.length) (hj : look L j = some (.box cs')) (off : Nat) (hn : off + cs'.length ≤ cs.length)
    (hb : (E.nm j).blk = (E.nm i).blk) (hnil : (E.nm i).nil = false) (ho : (E.nm i).off = (E.nm i).pp.pre.length)
    (hpre : (E.nm j).pp.pre = (E.nm i).pp.pre ++ denL E (cs.take off)) (hpost : (E.nm j).pp.post = denL E (cs.drop (off + cs'.length)) ++ (E.nm i).pp.post) (hcs : wfL E L cs) :
    Holds c G w E (upd (upd L (j, .dead)) (i, .box (splice cs off cs'))) := by
  obtain ⟨h1, h2, h3, h4, ⟨ty, h5⟩, h6⟩ := h.ent j _ hj
  have hk := h.kill (look_lt hj)
  have hset : E.set i (E.nm i) = E := by
    refine env_ext (fun k => ?_) rfl (fun _ => rfl)
    by_cases hk : k = i
    · subst hk; rw [Env.set_eq]
    · exact E.set_ne _ hk
  have := hk.change (i := i) (e' := .box (splice cs off cs')) (m := E.nm i) (w' := w) (by rw [upd_length]; exact hi) (.refl _) (Nat.le_refl _) (fun _ => rfl) rfl (fun _ _ _ => rfl) ?_ ?_ ?_
  · rw [hset] at this; exact this
  · intro b hb'
    simp only [Ent.own, Option.some.injEq] at hb'
    subst hb'
    rw [← hb]
    exact ⟨h4, h3⟩
  · intro k f hki hf b hb' he
    simp only [Ent.own, Option.some.injEq] at he
    rw [look_upd (look_lt hj)] at hf
    by_cases hkj : k = j
    · subst hkj; simp only [if_true, Option.some.injEq] at hf; subst hf; rcases hb' with hb' | ⟨hb', _⟩ <;> cases hb'
    · rw [if_neg hkj] at hf
      exact h.inj k j f (.box cs') b hkj hf hj hb' (.inl (by simp [Ent.own, hb, he]))
  · intro _
    rw [hset]
    refine ⟨hnil, ho, by rw [← hb]; exact h3, by rw [← hb]; exact h4, ⟨ty, ?_⟩, ?_⟩
    · rw [← hb, h5]
      congr 2
      simp only [Nm.arr]
      rw [splice_eq _ _ _ hn, hpre, hpost]
      simp only [denL_append, List.append_assoc]
    · refine (wfL_ext (fun k hk => al_upd rfl k (al_upd rfl k hk)) (fun _ _ => rfl) _ ?_).1
      refine wfL_mem.2 fun u hu => ?_
      rcases splice_mem hu with hu | hu
      · exact wfL_mem.1 hcs u hu
      · exact wfL_mem.1 h6 u hu

theorem callP_ok {P : Program} {fi : FnI} {base : Nat} {lkp : Nat → Option Ent} {args : List SV} {v : SV} {ups : Ups} (h : callP fi base lkp args (fun v u => some (v, u)) = some (v, ups)) {f : FuncId} (hc : CallsV P TB f fi)
    {L : Store} (hlk : ∀ n e, lkp n = some e → look L n = some e) {c : Cfg TB} {w : World} {E : Env} (hh : Hd c w E L) (hw : wfL E L args) :
    Calls P f (denL E args).toArray w (fun e w' => ∃ E', e = .returned (v.den E') ∧ Hd c w' E' (updL L ups) ∧ (∀ n, Al L n → E'.nm n = E.nm n ∧ Al (updL L ups) n) ∧ E'.ds = E.ds ∧ v.wf E' (updL L ups)) := by
  unfold callP at h
  split at h
  · exact callE_ok h hc hlk hh hw
  rename_i p i off n cs hf
  have hfp : findPart lkp fi.ps args 0 = some (p, i, off, n, cs) := by
    split at hf
    · exact hf
    · cases hf
  obtain ⟨-, hap, hbx⟩ := findPart_ok _ _ _ hfp
  rw [Nat.sub_zero] at hap
  split at h
  rotate_left
  · cases h
  rename_i hck
  obtain ⟨hn, hnew⟩ := hck
  generalize hj : base + (cnts fi.rs + nsls fi.os) = j at h hnew
  have hjr := hlk _ _ (newOk_spec hnew 0 (by omega))
  rw [Nat.add_zero] at hjr
  have hbi := hlk _ _ hbx
  obtain ⟨G, hG⟩ := hh
  obtain ⟨h1, h2, h3, h4, -, h6⟩ := hG.ent i _ hbi
  have hcv := hG.carve hbi hjr off n hn
  generalize hm : ({ blk := (E.nm i).blk, off := (E.nm i).off + off, nil := false, len := 0, cap := 0, odd := none, pp := ⟨(E.nm i).pp.pre ++ denL E (cs.take off), denL E (cs.drop (off + n)) ++ (E.nm i).pp.post⟩ } : Nm) = m at hcv
  have hij : j ≠ i := by rintro rfl; rw [hbi] at hjr; cases hjr
  have hal : ∀ k, Al L k → k ≠ j := fun k hk he => not_al hjr (he ▸ hk)
  have hal2 : ∀ k, Al L k → Al (upd (upd L (i, .dead)) (j, .box ((cs.drop off).take n))) k := fun k hk => al_upd rfl k (al_upd rfl k hk)
  have hsame : ∀ l, wfL E L l → wfL (E.set j m) (upd (upd L (i, .dead)) (j, .box ((cs.drop off).take n))) l ∧ denL (E.set j m) l = denL E l := fun l hl =>
    wfL_ext hal2 (fun k hk => E.set_ne m (hal k hk)) l hl
  have hjL : j < (upd L (i, Ent.dead)).length := by rw [upd_length]; exact look_lt hjr
  have hj2 : look (upd (upd L (i, .dead)) (j, .box ((cs.drop off).take n))) j = some (.box ((cs.drop off).take n)) := by rw [look_upd hjL, if_pos rfl]
  have hi2 : look (upd (upd L (i, .dead)) (j, .box ((cs.drop off).take n))) i = some .dead := by rw [look_upd hjL, if_neg (fun he => hij he.symm), look_upd (look_lt hbi), if_pos rfl]
  rw [callE_nat, Option.bind_eq_some_iff] at h
  obtain ⟨⟨v0, u⟩, hcall, h⟩ := h
  simp only at h
  split at h
  rotate_left
  · cases h
  rename_i cs' hlb
  split at h
  rotate_left
  · cases h
  rename_i hlen
  simp only [Option.some.injEq, Prod.mk.injEq] at h
  obtain ⟨rfl, rfl⟩ := h
  have hargs : wfL (E.set j m) (upd (upd L (i, .dead)) (j, .box ((cs.drop off).take n))) (args.set p (.loc j 0)) := by
    refine wfL_mem.2 fun x hx => ?_
    rcases List.mem_or_eq_of_mem_set hx with hx | rfl
    · exact wfL_mem.1 (hsame _ hw).1 x hx
    · exact ⟨_, hj2, rfl⟩
  have hden : denL (E.set j m) (args.set p (.loc j 0)) = denL E args := by
    rw [denL_set]
    rw [(hsame _ hw).2]
    apply List.ext_getElem?
    intro k
    rw [List.getElem?_set]
    split
    · rename_i hpk
      subst hpk
      rw [denL_get?, hap]
      have hlt : p < (denL E args).length := by rw [denL_length]; exact (List.getElem?_eq_some_iff.1 hap).1
      rw [if_pos hlt, Option.map_some]
      simp only [SV.den, Env.set_eq, ← hm, Nat.add_zero]
    · rfl
  have hr := callE_ok hcall hc (L := upd (upd L (i, .dead)) (j, .box ((cs.drop off).take n))) (fun k e he => by
    split at he
    · cases he
    · rename_i hki
      split at he
      · rename_i hkj
        subst hkj
        simp only [Option.some.injEq] at he
        subst he
        exact hj2
      · rename_i hkj
        rw [look_upd hjL, if_neg hkj, look_upd (look_lt hbi), if_neg hki]
        exact hlk _ _ he) ⟨G, hcv⟩ hargs
  rw [hden] at hr
  refine hr.mono ?_
  rintro e w' ⟨E', he, ⟨G', hH⟩, hnm, hds, hv⟩
  have hj3 : look (updL (upd (upd L (i, .dead)) (j, .box ((cs.drop off).take n))) u) j = some (.box cs') := lastBox_ok j u (upd (upd L (i, .dead)) (j, .box ((cs.drop off).take n))) none (fun _ h => by cases h) (by rw [upd_length]; exact hjL) hlb
  have hal3 : ∀ k, Al L k → Al (updL (upd (upd L (i, .dead)) (j, .box ((cs.drop off).take n))) u) k := fun k hk => (hnm k (hal2 k hk)).2
  have hnmE : ∀ k, Al L k → E'.nm k = E.nm k := fun k hk => by rw [(hnm k (hal2 k hk)).1, E.set_ne m (hal k hk)]
  have hnj : E'.nm j = m := by rw [(hnm j ⟨_, hj2, rfl⟩).1, Env.set_eq]
  have hni : E'.nm i = E.nm i := hnmE i ⟨_, hbi, rfl⟩
  have hcs : ∀ l, (∀ x ∈ l, x ∈ cs) → wfL E' (updL (upd (upd L (i, .dead)) (j, .box ((cs.drop off).take n))) u) l ∧ denL E' l = denL E l := fun l hl =>
    wfL_ext hal3 hnmE l (wfL_mem.2 fun x hx => wfL_mem.1 h6 x (hl x hx))
  have hmend := hH.mend (i := i) (j := j) (cs := cs) (fun he => hij he.symm) (look_lt (hal3 i ⟨_, hbi, rfl⟩).choose_spec.1) hj3 off (by rw [hlen]; exact hn)
    (by rw [hnj, hni, ← hm]) (by rw [hni]; exact h1) (by rw [hni]; exact h2)
    (by rw [hnj, hni, (hcs _ (fun x hx => List.mem_of_mem_take hx)).2, ← hm]) (by rw [hnj, hni, hlen, (hcs _ (fun x hx => List.mem_of_mem_drop hx)).2, ← hm]) (hcs cs fun _ h => h).1
  have eu : updL L ([(i, .dead), (j, .box ((cs.drop off).take n))] ++ (u ++ [(j, .dead), (i, .box (splice cs off cs'))])) = upd (upd (updL (upd (upd L (i, .dead)) (j, .box ((cs.drop off).take n))) u) (j, .dead)) (i, .box (splice cs off cs')) := by
    rw [updL_append, updL_append]
    rfl
  rw [eu]
  refine ⟨E', he, ⟨G', hmend⟩, fun k hk => ⟨hnmE k hk, al_upd rfl k (al_upd rfl k (hal3 k hk))⟩, hds, ?_⟩
  exact (wf_ext (fun k hk => al_upd rfl k (al_upd rfl k hk)) (fun _ _ => rfl) v0 hv).1
end Go.V3
