/-
  Part I: what the machine does to rows of cells.
-/
import Derived.Test.YtmcahbbelnjhiaaDoorV3H
set_option linter.unusedVariables false
namespace Go.V3
open Go
variable {TB : Tb}

def spl (arr : Array Value) (off : Nat) : List Value → Array Value
  | [] => arr
  | v :: r => spl (arr.setIfInBounds off v) (off + 1) r

theorem spl_size (vs : List Value) : ∀ (arr : Array Value) (off : Nat), (spl arr off vs).size = arr.size := by
  induction vs with
  | nil => intros; rfl
  | cons v r ih => intro arr off; simp [spl, ih]
theorem spl_get (vs : List Value) : ∀ (arr : Array Value) (off i : Nat), (spl arr off vs)[i]? = if off ≤ i ∧ i < off + vs.length ∧ i < arr.size then vs[i - off]? else arr[i]? := by
  induction vs with
  | nil => intro arr off i; rw [if_neg (by simp; omega)]; rfl
  | cons v r ih =>
    intro arr off i
    simp only [spl, ih, Array.size_setIfInBounds, Array.getElem?_setIfInBounds, List.length_cons]
    by_cases h1 : i = off
    · subst h1
      by_cases h2 : i < arr.size
      · rw [if_neg (by omega), if_pos rfl, if_pos h2, if_pos (by omega)]; simp
      · rw [if_neg (by omega), if_pos rfl, if_neg h2, if_neg (by omega), Array.getElem?_eq_none (by omega)]
    · by_cases h3 : off + 1 ≤ i ∧ i < off + 1 + r.length ∧ i < arr.size
      · rw [if_pos h3, if_pos (by omega)]
        have : i - off = (i - (off + 1)) + 1 := by omega
        rw [this]; simp
      · rw [if_neg h3, if_neg (fun h => h1 h.symm), if_neg (by omega)]

theorem cellsAt_get (arr : Array Value) (off n j : Nat) : (cellsAt arr off n)[j]? = if j < n then arr[off + j]? else none := by
  unfold cellsAt
  rw [List.getElem?_take]
  split
  · rw [List.getElem?_drop]; simp
  · rfl
theorem cellsAt_spl_out {arr : Array Value} {o p n : Nat} {vs : List Value} (h : p + n ≤ o ∨ o + vs.length ≤ p) : cellsAt (spl arr o vs) p n = cellsAt arr p n := by
  apply List.ext_getElem?
  intro j
  rw [cellsAt_get, cellsAt_get]
  split
  · rw [spl_get, if_neg (by omega)]
  · rfl
theorem cellsAt_spl_in {arr : Array Value} {o : Nat} {vs : List Value} (h : o + vs.length ≤ arr.size) : cellsAt (spl arr o vs) o vs.length = vs := by
  apply List.ext_getElem?
  intro j
  rw [cellsAt_get]
  split
  · rw [spl_get, if_pos (by omega)]
    congr 1; omega
  · rw [List.getElem?_eq_none (by omega)]

theorem mul_le_of_lt {i j k : Nat} (h : i < j) : (i + 1) * k ≤ j * k := Nat.mul_le_mul_right _ h

/-- One element is written. -/
theorem RowsIn.set {α : Type} {R : α → List Value → Prop} {sz : Nat} {arr : Array Value} {off : Nat} {xs : List α} (h : RowsIn R sz arr off xs) {k : Nat} {v : α} {vs : List Value} (hv : R v vs) (hl : vs.length = sz) (hk : k < xs.length) (ha : off + xs.length * sz ≤ arr.size) :
    RowsIn R sz (spl arr (off + k * sz) vs) off (xs.set k v) := by
  intro i x hx
  rw [List.getElem?_set] at hx
  have hk2 := mul_le_of_lt (k := sz) hk
  rw [Nat.add_mul] at hk2
  split at hx
  · rename_i hki
    subst hki
    simp only [Option.some.injEq] at hx; subst hx
    have := cellsAt_spl_in (arr := arr) (o := off + k * sz) (vs := vs) (by rw [hl]; omega)
    rw [hl] at this
    rw [this]
    exact hv
  · rename_i hki
    rw [cellsAt_spl_out]
    · exact h i x hx
    · rcases Nat.lt_or_gt_of_ne hki with h1 | h1
      · right; have := mul_le_of_lt (k := sz) h1; rw [Nat.add_mul] at this; omega
      · left; have := mul_le_of_lt (k := sz) h1; rw [Nat.add_mul] at this; omega

/-- Rows behind rows. -/
theorem RowsIn.append {α : Type} {R : α → List Value → Prop} {sz : Nat} {arr : Array Value} {off : Nat} {xs ys : List α} (h : RowsIn R sz arr off xs) (h2 : RowsIn R sz arr (off + xs.length * sz) ys) : RowsIn R sz arr off (xs ++ ys) := by
  intro i x hx
  by_cases hi : i < xs.length
  · rw [List.getElem?_append_left hi] at hx; exact h i x hx
  · rw [List.getElem?_append_right (by omega)] at hx
    have := h2 _ x hx
    have e : off + xs.length * sz + (i - xs.length) * sz = off + i * sz := by
      have : xs.length + (i - xs.length) = i := by omega
      rw [Nat.add_assoc, ← Nat.add_mul, this]
    rw [e] at this; exact this
theorem RowsIn.of_cells {α : Type} {R : α → List Value → Prop} {sz : Nat} {arr arr' : Array Value} {o o' : Nat} {xs : List α} (h : RowsIn R sz arr o xs) (he : cellsAt arr' o' (xs.length * sz) = cellsAt arr o (xs.length * sz)) : RowsIn R sz arr' o' xs := by
  intro i x hx
  have hi : i < xs.length := by
    rcases Nat.lt_or_ge i xs.length with h1 | h1
    · exact h1
    · rw [List.getElem?_eq_none h1] at hx; cases hx
  have hm := mul_le_of_lt (k := sz) hi
  rw [Nat.add_mul] at hm
  have e : ∀ (a : Array Value) (p : Nat), cellsAt a (p + i * sz) sz = ((cellsAt a p (xs.length * sz)).drop (i * sz)).take sz := by
    intro a p
    apply List.ext_getElem?
    intro j
    rw [cellsAt_get, List.getElem?_take]
    split
    · rw [List.getElem?_drop, cellsAt_get, if_pos (by omega), Nat.add_assoc]
    · rfl
  rw [e, he, ← e]
  exact h i x hx

section
variable {P : Program}

theorem setCell_get (w : World) (a : Addr) (v : Value) (k : Nat) : (w.setCell a v).heap[k]? = if a.block = k then (match w.heap[k]? with
    | some (.cells c e f) => some (.cells (if a.spot.isSome then c else c.setIfInBounds a.off v) e f)
    | o => o) else w.heap[k]? := by
  show (w.heap.modify a.block _)[k]? = _
  rw [Array.getElem?_modify]
  split
  · cases w.heap[k]? with
    | none => rfl
    | some o => cases o <;> rfl
  · rfl

/-- No cell of a row is an aggregate: what the machine stores in one step. -/
def Flat (vs : List Value) : Prop := ∀ v ∈ vs, (∀ c, v ≠ .agg c) ∧ (∀ c, v ≠ .tuple c)

theorem Rp.flatV {G : Nat → Prop} {w : World} (t : Ty) (x : t.T) (vs : List Value) (h : Rp G w t x vs) : Flat vs := by
  induction t generalizing vs with
  | pair a b iha ihb =>
    obtain ⟨v1, v2, rfl, h1, h2⟩ := h
    intro v hv
    rcases List.mem_append.1 hv with hv | hv
    · exact iha _ _ h1 v hv
    · exact ihb _ _ h2 v hv
  | slice a =>
    obtain ⟨m, rfl, _⟩ := h
    intro v hv; simp only [List.mem_singleton] at hv; subst hv
    exact ⟨fun c h => (by cases h), fun c h => (by cases h)⟩
  | nf =>
    obtain ⟨m, rfl⟩ := h
    intro v hv; simp only [List.mem_singleton] at hv; subst hv
    exact ⟨fun c h => (by cases h), fun c h => (by cases h)⟩
  | _ =>
    simp only [Rp] at h; subst h
    intro v hv; simp only [List.mem_singleton] at hv; subst hv
    exact ⟨fun c h => (by cases h), fun c h => (by cases h)⟩

/-- Cells of a block are written. -/
theorem run_storeCellsF {b off : Nat} {ty : TypeId} {fz : Nat × Nat} (vs : List Value) : ∀ (w : World) (arr : Array Value) (k : Nat), (∀ j, j < arr.size → ¬ (fz.1 ≤ j ∧ j < fz.2)) → w.heap[b]? = some (.cells arr ty fz) → Flat vs → off + k + vs.length ≤ arr.size →
    ∃ w', (storeCells ⟨b, off, none⟩ vs k).run P w = .ok () w' ∧ Rest w w' ∧ w'.heap.size = w.heap.size ∧ w'.heap[b]? = some (.cells (spl arr (off + k) vs) ty fz) ∧ ∀ j, j ≠ b → w'.heap[j]? = w.heap[j]? := by
  induction vs with
  | nil => intro w arr k _ h _ _; exact ⟨w, rfl, .refl _, rfl, h, fun _ _ => rfl⟩
  | cons v r ih =>
    intro w arr k hz h hf hn
    simp only [List.length_cons] at hn
    have hlt : off + k < arr.size := by omega
    have hcell : w.cell? ⟨b, off + k, none⟩ = some arr[off + k] := by simp [World.cell?, h, hlt]
    have hfz : w.frozen? ⟨b, off + k, none⟩ = false := by
      have := hz (off + k) hlt
      simp only [World.frozen?, h]
      simpa using this
    have hst : (store ((⟨b, off, none⟩ : Addr).add k) v).run P w = .ok () (w.setCell ⟨b, off + k, none⟩ v) := by
      rw [add_loc]
      obtain ⟨hv1, hv2⟩ := hf v (by simp)
      unfold store
      cases v <;> first | exact absurd rfl (hv1 _) | exact absurd rfl (hv2 _) | (simp only [Sem.run, hcell, hfz]; rfl)
    have h' : (w.setCell ⟨b, off + k, none⟩ v).heap[b]? = some (.cells (arr.setIfInBounds (off + k) v) ty fz) := by
      rw [setCell_get, if_pos rfl, h]; rfl
    obtain ⟨w', h1, h2, h3, h4, h5⟩ := ih _ _ (k + 1) (fun j hj => hz j (by simpa using hj)) h' (fun u hu => hf u (by simp [hu])) (by simp; omega)
    refine ⟨w', ?_, ?_, ?_, h4, ?_⟩
    · simp only [storeCells, Sem.run_bind, hst, Result.andThen]; exact h1
    · have hr : Rest w (w.setCell ⟨b, off + k, none⟩ v) := ⟨rfl, rfl, rfl⟩
      exact hr.trans h2
    · rw [h3]; simp [World.setCell]
    · intro j hj
      rw [h5 j hj, setCell_get, if_neg (fun he => hj he.symm)]

theorem run_storeCells {b off : Nat} {ty : TypeId} (vs : List Value) (w : World) (arr : Array Value) (k : Nat) (h : w.heap[b]? = some (.cells arr ty (0, 0))) (hf : Flat vs) (hn : off + k + vs.length ≤ arr.size) :
    ∃ w', (storeCells ⟨b, off, none⟩ vs k).run P w = .ok () w' ∧ Rest w w' ∧ w'.heap.size = w.heap.size ∧ w'.heap[b]? = some (.cells (spl arr (off + k) vs) ty (0, 0)) ∧ ∀ j, j ≠ b → w'.heap[j]? = w.heap[j]? :=
  run_storeCellsF vs w arr k (fun j _ => by simp) h hf hn

/-- Cells of a block are read. -/
theorem run_loadCells {b off : Nat} {ty : TypeId} {fz : Nat × Nat} (w : World) {arr : Array Value} (h : w.heap[b]? = some (.cells arr ty fz)) {n : Nat} (hn : off + n ≤ arr.size) : (loadCells ⟨b, off, none⟩ n).run P w = .ok (cellsAt arr off n).toArray w := by
  have hl : (cellsAt arr off n).length = n := by unfold cellsAt; simp; omega
  have := run_loadCells_list (P := P) w ⟨b, off, none⟩ (cellsAt arr off n) (fun j v hj => by
    rw [cellsAt_get] at hj
    split at hj
    · rw [add_loc]; simp [World.cell?, h, hj]
    · cases hj)
  rw [hl] at this
  exact this

theorem run_firstCells {w : World} {m : Nm} {arr : Array Value} {ty : TypeId} {fz : Nat × Nat} {size : Nat} (hn : m.nil = false) (h : w.heap[m.blk]? = some (.cells arr ty fz)) (hs : m.off + m.len * size ≤ arr.size) :
    (Builtin.firstCells size m.len (.slice m.ad m.len m.cap)).run P w = .ok (cellsAt arr m.off (m.len * size)).toArray w := by
  simp only [Nm.ad, hn, Bool.false_eq_true, if_false]
  exact run_loadCells w h hs
theorem run_firstCells_none (w : World) (size n l c : Nat) : (Builtin.firstCells size n (.slice none l c)).run P w = .ok #[] w := rfl

theorem run_newVar (w : World) (t : TypeId) (v : Value) : (newVar t v).run P w = .ok ⟨w.heap.size, 0, none⟩ (w.alloc (.cells v.cells t)) := by
  simp [newVar, newRow]

theorem run_next {s : Sem Value} {w w' : World} {v : Value} (h : s.run P w = .ok v w') : (do pure (Next.value (← s)) : Sem Next).run P w = .ok (.value v) w' := by
  rw [Sem.run_bind, h]; rfl

theorem run_append_in {w : World} {t0 t1 : TypeId} {ts : Array TypeId} {ty e e1 : TypeId} {q : TypeInfo} {a b : Option Addr} {len cap n c : Nat} {news : List Value} {w' : World}
    (h0 : ts[0]? = some t0) (h1 : ts[1]? = some t1) (hu : P.underlying t0 = some (.slice e)) (hu1 : P.underlying t1 = some (.slice e1)) (hq : P.info? e = some q)
    (hnew : (Builtin.firstCells q.size n (.slice b n c)).run P w = .ok news.toArray w) (hcap : len + n ≤ cap)
    (hst : match a with | some p => (storeCells (p.add (len * q.size)) news).run P w = .ok () w' | none => w' = w) :
    (Builtin.append_ ts ty #[.slice a len cap, .slice b n c]).run P w = .ok (.slice a (len + n) cap) w' := by
  cases a with
  | none =>
    simp only at hst; subst hst
    simp [Builtin.append_, h0, h1, run_underlying hu, run_underlying hu1, sizeOf, typeInfo, hq, Builtin.lenOf, hcap, hnew]
  | some p =>
    simp only at hst
    simp [Builtin.append_, h0, h1, run_underlying hu, run_underlying hu1, sizeOf, typeInfo, hq, Builtin.lenOf, hcap, hnew, hst]

theorem run_append_grow {w : World} {t0 t1 : TypeId} {ts : Array TypeId} {ty e e1 : TypeId} {q : TypeInfo} {zv : Value} {a b : Option Addr} {len cap n c : Nat} {news olds : List Value}
    (h0 : ts[0]? = some t0) (h1 : ts[1]? = some t1) (hu : P.underlying t0 = some (.slice e)) (hu1 : P.underlying t1 = some (.slice e1)) (hq : P.info? e = some q) (hz : q.zero = some zv) (hb : q.bytes ≠ 0)
    (hnew : (Builtin.firstCells q.size n (.slice b n c)).run P w.drew = .ok news.toArray w.drew) (hold : (Builtin.firstCells q.size len (.slice a len cap)).run P w.drew = .ok olds.toArray w.drew)
    (hcap : cap < len + n) (hby : (len + n) * q.bytes ≤ 140737488355328) :
    ∃ c', len + n ≤ c' ∧ (Builtin.append_ ts ty #[.slice a len cap, .slice b n c]).run P w = .ok (.slice (some ⟨w.heap.size, 0, none⟩) (len + n) c')
      (w.drew.alloc (.cells (olds.toArray ++ news.toArray ++ Builtin.zeroCells zv.cells (c' - (len + n))) e)) := by
  have h48 : ¬ (281474976710656 < Builtin.nextslicecap (len + n) cap * q.bytes) := by
    have := growslice_fits (need := len + n) (old := cap) (bytes := q.bytes) hcap hby
    omega
  have hnc : ¬ (len + n ≤ cap) := by omega
  refine ⟨grownCap w (len + n) cap e, Nat.le_add_right _ _, ?_⟩
  simp [Builtin.append_, h0, h1, run_underlying hu, run_underlying hu1, sizeOf, typeInfo, zeroValue, hq, hz, Builtin.lenOf, hnc, hb, h48, Question.forced, hnew, hold, newRow, grownCap]
  congr 2
  apply Array.ext'
  simp [List.append_assoc]

theorem run_makeSlice {E : Env} (w : World) {t e : TypeId} {q : TypeInfo} {z : List SV} {k k' : IntKind} {n m : Int} (hu : P.underlying t = some (.slice e)) (hq : P.info? e = some q) (hz : zeroE P e = some z) (hs : z.length = q.size)
    (h0 : 0 ≤ n) (h1 : n ≤ m) (h2 : m * q.bytes ≤ 140737488355328) (h3 : I64 m) :
    (Instr.makeSlice t (.int k n) (.int k' m)).run P w = .ok (.slice (some ⟨w.heap.size, 0, none⟩) n.toNat m.toNat)
      (w.alloc (.cells ((Array.range (m.toNat * z.length)).map fun i => (denL E z).toArray[i % (denL E z).toArray.size]!) e)) := by
  obtain ⟨zv, hzr, hzc⟩ := zeroE_run (E := E) (P := P) w hz
  have hn : I64 n := ⟨by have := h3.1; omega, by have := h3.2; omega⟩
  have e1 := InK.wrap (k := .i64) hn
  have e2 := InK.wrap (k := .i64) h3
  have c1 : ¬ m < 0 := by omega
  have hm2 : (q.bytes : Int) * m ≤ 140737488355328 := by rw [Int.mul_comm]; exact h2
  have c2 : ¬ (281474976710656 < (q.bytes : Int) * m) := by omega
  have c3 : ¬ n < 0 := by omega
  have c4 : ¬ m < n := by omega
  by_cases hz0 : m.toNat * q.size = 0
  · simp [Instr.makeSlice, run_underlying hu, asInt, asIntOf, typeInfo, hq, e1, e2, c1, c2, c3, c4, askRoom, sizeOf, hz0, newRow, hs]
    rw [show Array.range 0 = #[] from by decide]
    simp
  · simp [Instr.makeSlice, run_underlying hu, asInt, asIntOf, typeInfo, hq, e1, e2, c1, c2, c3, c4, askRoom, sizeOf, hz0, newRow, hs, hzr, hzc]
end

def fresh (z : List SV) (n size : Nat) : List SV := (List.range n).map fun i => z.getD (i % size) undefV

theorem fresh_cells {E : Env} {z : List SV} {len size : Nat} (h : z.length = size) :
    denL E (fresh z (len * size) size) = ((Array.range (len * size)).map fun i => (denL E z).toArray[i % (denL E z).toArray.size]!).toList := by
  unfold fresh
  rw [denL_map, List.map_map, Array.toList_map, Array.toList_range]
  apply List.map_congr_left
  intro i hi
  subst h
  rcases Nat.eq_zero_or_pos z.length with h0 | h0
  · rw [h0] at hi; simp at hi
  · have hl : i % z.length < z.length := Nat.mod_lt _ h0
    have e : (denL E z).toArray.size = z.length := by simp [denL_length]
    rw [e]
    simp [denL_get?, List.getElem?_eq_getElem hl]

end Go.V3
