/-
  The second part: memory, calls, regions, code; and that what is reckoned is enough.
-/
import Derived.Test.YtdkigndboblimaaVmA
namespace Go.Vm
open Go

inductive Sh where
  | int (k : IntKind)
  | u64 | bool | str | sl | ptr | raw

inductive RSh where
  | one (s : Sh)
  | agg (cs : List Sh)

inductive FSh where
  | one (r : RSh)
  | tup (rs : List RSh)

def exSh : Sh → (SV → Prop) → Prop
  | .int k, F => ∃ n : Int, F (.int k n)
  | .u64, F => ∃ x : BitVec 64, F (.u64 x)
  | .bool, F => ∃ b : Bool, F (.bool b)
  | .str, F => ∃ s : ByteArray, F (.str s)
  | .sl, F => ∃ (a : Option Addr) (l c : Nat), F (.sl a l c)
  | .ptr, F => ∃ a : Option Addr, F (.ptr a)
  | .raw, F => ∃ v : Value, F (.raw v)
def exShs : List Sh → (List SV → Prop) → Prop
  | [], F => F []
  | s :: r, F => exSh s fun v => exShs r fun vs => F (v :: vs)
def exR : RSh → (SV → Prop) → Prop
  | .one s, F => exSh s F
  | .agg cs, F => exShs cs fun vs => F (.agg vs)
def exRs : List RSh → (List SV → Prop) → Prop
  | [], F => F []
  | s :: r, F => exR s fun v => exRs r fun vs => F (v :: vs)
def exF : FSh → (SV → Prop) → Prop
  | .one r, F => exR r F
  | .tup rs, F => exRs rs fun vs => F (.tup vs)

def allSh : Sh → (SV → Prop) → Prop
  | .int k, F => ∀ n : Int, F (.int k n)
  | .u64, F => ∀ x : BitVec 64, F (.u64 x)
  | .bool, F => ∀ b : Bool, F (.bool b)
  | .str, F => ∀ s : ByteArray, F (.str s)
  | .sl, F => ∀ (a : Option Addr) (l c : Nat), F (.sl a l c)
  | .ptr, F => ∀ a : Option Addr, F (.ptr a)
  | .raw, F => ∀ v : Value, F (.raw v)
def allShs : List Sh → (List SV → Prop) → Prop
  | [], F => F []
  | s :: r, F => allSh s fun v => allShs r fun vs => F (v :: vs)
def allR : RSh → (SV → Prop) → Prop
  | .one s, F => allSh s F
  | .agg cs, F => allShs cs fun vs => F (.agg vs)
def allRs : List RSh → (List SV → Prop) → Prop
  | [], F => F []
  | s :: r, F => allR s fun v => allRs r fun vs => F (v :: vs)

def hasSh : Sh → SV → Bool
  | .int k, .int k' _ => decide (k = k')
  | .u64, .u64 _ => true
  | .bool, .bool _ => true
  | .str, .str _ => true
  | .sl, .sl _ _ _ => true
  | .ptr, .ptr _ => true
  | .raw, .raw _ => true
  | _, _ => false
def hasShs : List Sh → List SV → Bool
  | [], [] => true
  | s :: r, v :: vs => hasSh s v && hasShs r vs
  | _, _ => false
def hasR : RSh → SV → Bool
  | .one s, v => hasSh s v
  | .agg cs, .agg vs => hasShs cs vs
  | _, _ => false
def hasRs : List RSh → List SV → Bool
  | [], [] => true
  | s :: r, v :: vs => hasR s v && hasRs r vs
  | _, _ => false

theorem exSh_out {s : Sh} {F : SV → Prop} (h : exSh s F) : ∃ v, F v := by
  cases s <;> simp only [exSh] at h
  case sl => obtain ⟨a, l, c, h⟩ := h; exact ⟨_, h⟩
  all_goals obtain ⟨n, h⟩ := h; exact ⟨_, h⟩
theorem exShs_out {s : List Sh} {F : List SV → Prop} (h : exShs s F) : ∃ v, v.length = s.length ∧ F v := by
  induction s generalizing F with
  | nil => exact ⟨[], rfl, h⟩
  | cons s r ih =>
    obtain ⟨v, h⟩ := exSh_out h
    obtain ⟨vs, hl, h⟩ := ih h
    exact ⟨v :: vs, by simp [hl], h⟩
theorem exR_out {s : RSh} {F : SV → Prop} (h : exR s F) : ∃ v, F v := by
  cases s with
  | one s => exact exSh_out h
  | agg cs => obtain ⟨vs, _, h⟩ := exShs_out h; exact ⟨_, h⟩
theorem exRs_out {s : List RSh} {F : List SV → Prop} (h : exRs s F) : ∃ v, F v := by
  induction s generalizing F with
  | nil => exact ⟨[], h⟩
  | cons s r ih =>
    obtain ⟨v, h⟩ := exR_out h
    obtain ⟨vs, h⟩ := ih h
    exact ⟨v :: vs, h⟩
theorem exF_out {s : FSh} {F : SV → Prop} (h : exF s F) : ∃ v, F v := by
  cases s with
  | one s => exact exR_out h
  | tup cs => obtain ⟨vs, h⟩ := exRs_out h; exact ⟨_, h⟩

theorem allSh_at {s : Sh} {F : SV → Prop} (h : allSh s F) {v : SV} (hv : hasSh s v = true) : F v := by
  cases s <;> cases v <;> simp only [hasSh, allSh, decide_eq_true_eq, Bool.false_eq_true] at hv h
  case int.int => subst hv; exact h _
  case sl.sl => exact h _ _ _
  all_goals exact h _
theorem allShs_at {s : List Sh} {F : List SV → Prop} (h : allShs s F) {v : List SV} (hv : hasShs s v = true) : F v := by
  induction s generalizing F v with
  | nil => cases v with
    | nil => exact h
    | cons => simp [hasShs] at hv
  | cons s r ih => cases v with
    | nil => simp [hasShs] at hv
    | cons v vs =>
      simp only [hasShs, Bool.and_eq_true] at hv
      exact ih (allSh_at h hv.1) hv.2
theorem allR_at {s : RSh} {F : SV → Prop} (h : allR s F) {v : SV} (hv : hasR s v = true) : F v := by
  cases s with
  | one s => exact allSh_at h hv
  | agg cs => cases v <;> simp only [hasR, Bool.false_eq_true] at hv; exact allShs_at h hv
theorem allRs_at {s : List RSh} {F : List SV → Prop} (h : allRs s F) {v : List SV} (hv : hasRs s v = true) : F v := by
  induction s generalizing F v with
  | nil => cases v with
    | nil => exact h
    | cons => simp [hasRs] at hv
  | cons s r ih => cases v with
    | nil => simp [hasRs] at hv
    | cons v vs =>
      simp only [hasRs, Bool.and_eq_true] at hv
      exact ih (allR_at h hv.1) hv.2

def shOf : TypeDesc → Sh
  | .bool => .bool
  | .int .u64 => .u64
  | .int k => .int k
  | .string => .str
  | .slice _ => .sl
  | .pointer _ => .ptr
  | _ => .raw

def cellShs (P : Program) : Nat → TypeId → Option (List Sh)
  | 0, _ => none
  | n + 1, t => match P.underlying t with
    | some (.struct fs) => fs.toList.foldr (fun f acc => match cellShs P n f.type, acc with | some l, some r => some (l ++ r) | _, _ => none) (some [])
    | some (.array k e) => (cellShs P n e).map fun l => (List.replicate k l).flatten
    | some d => some [shOf d]
    | none => none

def rshOf (P : Program) (t : TypeId) : Option RSh :=
  match P.underlying t with
  | some (.struct _) => (cellShs P 6 t).map .agg
  | some (.array _ _) => (cellShs P 6 t).map .agg
  | some d => some (.one (shOf d))
  | none => none

def rshsOf (P : Program) : List TypeId → Option (List RSh)
  | [] => some []
  | t :: r => match rshOf P t, rshsOf P r with
    | some s, some l => some (s :: l)
    | _, _ => none

def fshOf (P : Program) (t : TypeId) : Option FSh :=
  match P.underlying t with
  | some (.tuple ts) => (rshsOf P ts.toList).map .tup
  | _ => (rshOf P t).map .one

/-! Memory. -/
def hcell (h : Heap) (a : Addr) : Option Value :=
  match h[a.block]? with
  | some (.cells c _ _) => if a.spot.isSome then none else c[a.off]?
  | _ => none
def hfrozen (h : Heap) (a : Addr) : Bool :=
  match h[a.block]? with
  | some (.cells _ _ (lo, hi)) => lo ≤ a.off && a.off < hi
  | _ => false
def hset (h : Heap) (a : Addr) (v : Value) : Heap :=
  h.modify a.block fun
    | .cells c elem frozen => .cells (if a.spot.isSome then c else c.setIfInBounds a.off v) elem frozen
    | o => o
def hput (h : Heap) (a : Addr) : List Value → Nat → Heap
  | [], _ => h
  | v :: r, i => hput (hset h (a.add i) v) a r (i + 1)

/-- What is read. -/
def HLd (h : Heap) (p : Option Addr) (vs : List SV) : Prop := ∃ a, p = some a ∧ ∀ i, i < vs.length → hcell h (a.add i) = (vs[i]?).map SV.den
/-- What may be written. -/
def HWr (h : Heap) (p : Option Addr) (n : Nat) : Prop := ∃ a, p = some a ∧ ∀ i, i < n → (hcell h (a.add i)).isSome = true ∧ hfrozen h (a.add i) = false
/-- What was written. -/
def HSt (h : Heap) (p : Option Addr) (vs : List SV) (h' : Heap) : Prop := ∃ a, p = some a ∧ h' = hput h a (denL vs) 0
/-- A new block. -/
def HNew (h : Heap) (cs : List SV) (t : TypeId) (b : Nat) (h' : Heap) : Prop := b = h.size ∧ h' = h.push (.cells (denL cs).toArray t (0, 0))
/-- A new block of n variables that are zero. -/
def HZero (h : Heap) (n : Nat) (z : List SV) (t : TypeId) (b : Nat) (h' : Heap) : Prop :=
  b = h.size ∧ h' = h.push (.cells ((Array.range (n * z.length)).map fun i => (denL z).toArray[i % (denL z).toArray.size]!) t (0, 0))

theorem hcell_world (w : World) (a : Addr) : w.cell? a = hcell w.heap a := rfl
theorem hfrozen_world (w : World) (a : Addr) : w.frozen? a = hfrozen w.heap a := rfl
theorem hset_world (w : World) (a : Addr) (v : Value) : w.setCell a v = { w with heap := hset w.heap a v } := rfl

def HRd (h : Heap) (p : Option Addr) (vs : List Value) : Prop := vs = [] ∨ ∃ a, p = some a ∧ ∀ i, i < vs.length → hcell h (a.add i) = vs[i]?
def HWr0 (h : Heap) (p : Option Addr) (n : Nat) : Prop := n = 0 ∨ HWr h p n

/-- No cell of a read row is an aggregate: what the machine stores in one step. -/
def Flat (vs : List Value) : Prop := ∀ v ∈ vs, (∀ c, v ≠ .agg c) ∧ (∀ c, v ≠ .tuple c)
def flatB : SV → Bool
  | .agg _ => false
  | .tup _ => false
  | .raw (.agg _) => false
  | .raw (.tuple _) => false
  | _ => true
/-- What an append asks. -/
def AppPre (h : Heap) (a : Option Addr) (len cap : Nat) (b : Option Addr) (n size bytes : Nat) : Prop :=
  (∃ news : List Value, news.length = n * size ∧ HRd h b news ∧ (len + n ≤ cap → Flat news)) ∧
  (len + n ≤ cap → HWr0 h (padd a (len * size)) (n * size)) ∧
  (cap < len + n → (∃ olds : List Value, olds.length = len * size ∧ HRd h a olds) ∧ (len + n) * bytes ≤ 140737488355328)

/-- What an append gives. -/
def HApp (h : Heap) (a : Option Addr) (len cap : Nat) (b : Option Addr) (n : Nat) (e : TypeId) (size : Nat) (z : List SV) (a' : Option Addr) (c' : Nat) (h' : Heap) : Prop :=
  ∃ news : List Value, news.length = n * size ∧ HRd h b news ∧
    ((len + n ≤ cap ∧ a' = a ∧ c' = cap ∧ h' = (match a with | some p => hput h (p.add (len * size)) news 0 | none => h)) ∨
     (cap < len + n ∧ ∃ olds : List Value, olds.length = len * size ∧ HRd h a olds ∧ len + n ≤ c' ∧ a' = some ⟨h.size, 0, none⟩ ∧
        h' = h.push (.cells (olds.toArray ++ news.toArray ++ Builtin.zeroCells (denL z).toArray (c' - (len + n))) e (0, 0))))

section
variable {P : Program} (w : World)

theorem HRd.cells {h : Heap} {p : Option Addr} {vs : List Value} {a : Addr} (hr : HRd h p vs) (hp : p = some a) : ∀ j v, vs[j]? = some v → hcell h (a.add j) = some v := by
  intro j v hv
  rcases hr with rfl | ⟨a', ha, hc⟩
  · simp at hv
  · rw [hp] at ha
    simp only [Option.some.injEq] at ha
    subst ha
    have hj : j < vs.length := by
      rcases Nat.lt_or_ge j vs.length with h | h
      · exact h
      · simp [List.getElem?_eq_none h] at hv
    rw [hc j hj, hv]

theorem run_firstCells {h : Heap} (hw : w.heap = h) {p : Option Addr} {vs : List Value} {n c size : Nat} (hr : HRd h p vs) (hl : vs.length = n * size) (hn : p = none → vs = []) :
    (Builtin.firstCells size n (.slice p n c)).run P w = .ok vs.toArray w := by
  subst hw
  cases p with
  | none => rw [hn rfl]; rfl
  | some a =>
    show (loadCells a (n * size)).run P w = _
    rw [← hl]
    exact run_loadCells_list w a vs (hr.cells rfl)

theorem HRd.none_nil {h : Heap} {vs : List Value} (hr : HRd h none vs) : vs = [] := by
  rcases hr with rfl | ⟨a, ha, _⟩
  · rfl
  · cases ha

theorem hset_get (h : Heap) (a : Addr) (v : Value) (k : Nat) : (hset h a v)[k]? = if a.block = k then (match h[k]? with
    | some (.cells c e f) => some (.cells (if a.spot.isSome then c else c.setIfInBounds a.off v) e f)
    | o => o) else h[k]? := by
  unfold hset
  rw [Array.getElem?_modify]
  split
  · cases h[k]? with
    | none => rfl
    | some o => cases o <;> rfl
  · rfl

theorem hcell_hset {h : Heap} {a b : Addr} {v u : Value} (hb : hcell h b = some u) : (hcell (hset h a v) b).isSome = true := by
  unfold hcell at *
  rw [hset_get]
  by_cases hab : a.block = b.block
  · rw [if_pos hab]
    cases hc : h[b.block]? with
    | none => simp [hc] at hb
    | some o =>
      cases o <;> simp only [hc, reduceCtorEq] at hb ⊢
      rename_i c e f
      split at hb
      · cases hb
      · rename_i hs
        rw [if_neg hs]
        split
        · simp [hb]
        · rw [Array.getElem?_setIfInBounds]
          split
          · split
            · rfl
            · rename_i h3 h4
              rw [h3] at h4
              have := Array.getElem?_eq_none (xs := c) (i := b.off) (by omega)
              rw [this] at hb; cases hb
          · simp [hb]
  · rw [if_neg hab, hb]; rfl

theorem hcell_hset_isSome {h : Heap} {a b : Addr} {v : Value} (hb : (hcell h b).isSome = true) : (hcell (hset h a v) b).isSome = true := by
  obtain ⟨u, hu⟩ := Option.isSome_iff_exists.1 hb
  exact hcell_hset hu

theorem hfrozen_hset {h : Heap} {a b : Addr} {v : Value} : hfrozen (hset h a v) b = hfrozen h b := by
  unfold hfrozen
  rw [hset_get]
  by_cases hab : a.block = b.block
  · rw [if_pos hab]
    cases hc : h[b.block]? with
    | none => rfl
    | some o => cases o <;> rfl
  · rw [if_neg hab]

theorem run_storeCells (a : Addr) (vs : List Value) (i : Nat) (hv : ∀ v ∈ vs, (∀ c, v ≠ .agg c) ∧ (∀ c, v ≠ .tuple c)) (hw : ∀ j, i ≤ j → j < i + vs.length → (hcell w.heap (a.add j)).isSome = true ∧ hfrozen w.heap (a.add j) = false) :
    (storeCells a vs i).run P w = .ok () { w with heap := hput w.heap a vs i } := by
  induction vs generalizing i w with
  | nil => rfl
  | cons v r ih =>
    simp only [storeCells, Sem.run_bind]
    obtain ⟨h1, h2⟩ := hw i (Nat.le_refl _) (by simp)
    obtain ⟨u, hu⟩ := Option.isSome_iff_exists.1 h1
    have hst : (store (a.add i) v).run P w = .ok () { w with heap := hset w.heap (a.add i) v } := by
      obtain ⟨hv1, hv2⟩ := hv v (by simp)
      have hu' : w.cell? (a.add i) = some u := hu
      have hf' : w.frozen? (a.add i) = false := h2
      unfold store
      cases v <;> first | exact absurd rfl (hv1 _) | exact absurd rfl (hv2 _) | (simp only [Sem.run, hu', hf']; rfl)
    rw [hst]
    simp only [Result.andThen]
    rw [ih _ (i + 1) (fun v' hv' => hv v' (by simp [hv']))]
    · rfl
    · intro j hj1 hj2
      obtain ⟨h3, h4⟩ := hw j (by omega) (by simp; omega)
      exact ⟨hcell_hset_isSome h3, by rw [hfrozen_hset]; exact h4⟩

theorem flat_of {vs : List SV} (h : vs.all flatB = true) : Flat (denL vs) := by
  induction vs with
  | nil => intro v hv; cases hv
  | cons x r ih =>
    simp only [List.all_cons, Bool.and_eq_true] at h
    intro v hv
    rcases List.mem_cons.1 hv with rfl | hv
    · cases x with
      | raw u => cases u <;> simp_all [flatB, SV.den]
      | _ => simp_all [flatB, SV.den]
    · exact ih h.2 v hv

set_option maxHeartbeats 1000000 in
theorem run_append {t0 t1 : TypeId} {ts : Array TypeId} {ty e : TypeId} {q : TypeInfo} {z : List SV} {zv : Value} {e1 : TypeId} {a b : Option Addr} {len cap n c : Nat}
    (h0 : ts[0]? = some t0) (h1 : ts[1]? = some t1) (hu : P.underlying t0 = some (.slice e)) (hu1 : P.underlying t1 = some (.slice e1))
    (hq : P.info? e = some q) (hz : q.zero = some zv) (hzc : zv.cells = (denL z).toArray) (hb : q.bytes ≠ 0)
    (hp : AppPre w.heap a len cap b n q.size q.bytes) :
    ∃ a' c' w', (Builtin.append_ ts ty #[.slice a len cap, .slice b n c]).run P w = .ok (.slice a' (len + n) c') w' ∧ Rest w w' ∧ HApp w.heap a len cap b n e q.size z a' c' w'.heap := by
  obtain ⟨⟨news, hnl, hnr, hflat⟩, hp2, hp3⟩ := hp
  have hn0 : b = none → news = [] := fun h => by subst h; exact hnr.none_nil
  by_cases hcap : len + n ≤ cap
  · have hfl := hflat hcap
    have hcells := run_firstCells (P := P) w rfl (p := b) (n := n) (c := c) (size := q.size) hnr hnl hn0
    have hwr := hp2 hcap
    cases a with
    | none =>
      refine ⟨none, cap, w, ?_, Rest.refl w, news, hnl, hnr, .inl ⟨hcap, rfl, rfl, rfl⟩⟩
      simp [Builtin.append_, h0, h1, run_underlying hu, run_underlying hu1, sizeOf, typeInfo, hq, Builtin.lenOf, hcap, hcells]
    | some p =>
      have hst : (storeCells (p.add (len * q.size)) news).run P w = .ok () { w with heap := hput w.heap (p.add (len * q.size)) news 0 } := by
        refine run_storeCells w _ news 0 hfl ?_
        intro j _ hj
        rcases hwr with h0' | ⟨a', ha', hc'⟩
        · rw [← hnl] at h0'; omega
        · simp only [padd, Option.map_some, Option.some.injEq] at ha'
          subst ha'
          exact hc' j (by omega)
      refine ⟨some p, cap, { w with heap := hput w.heap (p.add (len * q.size)) news 0 }, ?_, ⟨rfl, rfl, rfl⟩, news, hnl, hnr, .inl ⟨hcap, rfl, rfl, rfl⟩⟩
      simp [Builtin.append_, h0, h1, run_underlying hu, run_underlying hu1, sizeOf, typeInfo, hq, Builtin.lenOf, hcap, hcells, hst]
  · have hlt : cap < len + n := by omega
    obtain ⟨⟨olds, hol, hor⟩, hby⟩ := hp3 hlt
    have ho0 : a = none → olds = [] := fun h => by subst h; exact hor.none_nil
    have h48 : ¬ (281474976710656 < Builtin.nextslicecap (len + n) cap * q.bytes) := by
      have := growslice_fits (need := len + n) (old := cap) (bytes := q.bytes) hlt hby
      omega
    have hnew := run_firstCells (P := P) w.drew rfl (p := b) (n := n) (c := c) (size := q.size) hnr hnl hn0
    have hold := run_firstCells (P := P) w.drew rfl (p := a) (n := len) (c := cap) (size := q.size) hor hol ho0
    refine ⟨some ⟨w.heap.size, 0, none⟩, grownCap w (len + n) cap e, w.drew.alloc (.cells (olds.toArray ++ news.toArray ++ Builtin.zeroCells zv.cells (grownCap w (len + n) cap e - (len + n))) e), ?_, ⟨rfl, rfl, rfl⟩, news, hnl, hnr, .inr ⟨hlt, olds, hol, hor, ?_, rfl, ?_⟩⟩
    · simp [Builtin.append_, h0, h1, run_underlying hu, run_underlying hu1, sizeOf, typeInfo, zeroValue, hq, hz, Builtin.lenOf, hcap, hb, h48, Question.forced, hnew, hold, newRow, grownCap]
      congr 2
      apply Array.ext'
      simp [List.append_assoc]
    · exact Nat.le_add_right _ _
    · rw [hzc]; rfl

theorem HLd.cells {h : Heap} {p : Option Addr} {vs : List SV} (hl : HLd h p vs) : ∃ a, p = some a ∧ ∀ j v, (denL vs)[j]? = some v → hcell h (a.add j) = some v := by
  obtain ⟨a, ha, hc⟩ := hl
  refine ⟨a, ha, fun j v hv => ?_⟩
  have hj : j < vs.length := by
    rcases Nat.lt_or_ge j vs.length with h | h
    · exact h
    · rw [denL_get?, List.getElem?_eq_none h] at hv; cases hv
  rw [hc j hj, ← hv, denL_get?]

theorem run_load_agg {t : TypeId} {q : TypeInfo} {d : TypeDesc} {p : Option Addr} {vs : List SV} (hq : P.info? t = some q) (hd : P.underlying t = some d) (ha : isAggT P t = true)
    (hl : HLd w.heap p vs) (hn : vs.length = q.size) : (Instr.loadAt t (.pointer p)).run P w = .ok (.agg (denL vs).toArray) w := by
  obtain ⟨a, rfl, hc⟩ := hl.cells
  have := run_loadCells_list (P := P) w a (denL vs) hc
  rw [denL_length, hn] at this
  simp [Instr.loadAt, Instr.sureAddr, loadVar, isAggT_run w hd, ha, sizeOf, typeInfo, hq, this]

theorem run_load_one {t : TypeId} {d : TypeDesc} {p : Option Addr} {v : SV} (hd : P.underlying t = some d) (ha : isAggT P t = false)
    (hl : HLd w.heap p [v]) : (Instr.loadAt t (.pointer p)).run P w = .ok v.den w := by
  obtain ⟨a, rfl, hc⟩ := hl
  have h0 := hc 0 (by simp)
  have h1 : w.cell? a = some v.den := by
    have : a.add 0 = a := rfl
    rw [this] at h0
    exact h0
  simp [Instr.loadAt, Instr.sureAddr, loadVar, isAggT_run w hd, ha, h1]

theorem run_store {t : TypeId} {q : TypeInfo} {p : Option Addr} {v : SV} {vs : List SV} (hq : P.info? t = some q) (hv : v.den.cells = (denL vs).toArray) (hn : vs.length = q.size) (hf : vs.all flatB = true)
    (hw : HWr w.heap p vs.length) : ∃ h', HSt w.heap p vs h' ∧ (Instr.storeAt t (.pointer p) v.den).run P w = .ok () { w with heap := h' } := by
  obtain ⟨a, rfl, hc⟩ := hw
  refine ⟨hput w.heap a (denL vs) 0, ⟨a, rfl, rfl⟩, ?_⟩
  have hst := run_storeCells (P := P) w a (denL vs) 0 (flat_of hf) (fun j _ hj => hc j (by rw [denL_length] at hj; omega))
  simp only [Instr.storeAt, Instr.sureAddr, storeVar, sizeOf, typeInfo, Sem.run_bind, Sem.run_pure, Result.andThen]
  simp [hq, hv, denL_length, hn, hst]

theorem run_newVar (t : TypeId) (v : Value) : (newVar t v).run P w = .ok ⟨w.heap.size, 0, none⟩ (w.alloc (.cells v.cells t)) := by
  simp [newVar, newRow]

theorem alloc_heap (o : Obj) : (w.alloc o).heap = w.heap.push o := rfl

theorem run_makeSlice {t e : TypeId} {q : TypeInfo} {z : List SV} {k k' : IntKind} {n m : Int} (hu : P.underlying t = some (.slice e)) (hq : P.info? e = some q) (hz : zeroE P e = some z) (hs : z.length = q.size)
    (h0 : 0 ≤ n) (h1 : n ≤ m) (h2 : m * q.bytes ≤ 140737488355328) (h3 : I64 m) :
    (Instr.makeSlice t (.int k n) (.int k' m)).run P w = .ok (.slice (some ⟨w.heap.size, 0, none⟩) n.toNat m.toNat)
      (w.alloc (.cells ((Array.range (m.toNat * z.length)).map fun i => (denL z).toArray[i % (denL z).toArray.size]!) e)) := by
  obtain ⟨zv, hzr, hzc⟩ := zeroE_run (P := P) w hz
  have hn : I64 n := ⟨by have := h3.1; omega, by have := h3.2; omega⟩
  have e1 := InK.wrap (k := .i64) hn
  have e2 := InK.wrap (k := .i64) h3
  have c1 : ¬ m < 0 := by omega
  have hm2 : (q.bytes : Int) * m ≤ 140737488355328 := by rw [Int.mul_comm]; exact h2
  have c2 : ¬ (281474976710656 < (q.bytes : Int) * m) := by omega
  have c3 : ¬ n < 0 := by omega
  have c4 : ¬ m < n := by omega
  by_cases hz0 : m.toNat * q.size = 0
  · simp [Instr.makeSlice, run_underlying hu, asInt, asIntOf, typeInfo, hq, e1, e2, c1, c2, c3, c4, askRoom, sizeOf, hz0, newRow, hs]
    rw [show Array.range 0 = #[] from by decide]
    simp
  · simp [Instr.makeSlice, run_underlying hu, asInt, asIntOf, typeInfo, hq, e1, e2, c1, c2, c3, c4, askRoom, sizeOf, hz0, newRow, hs, hzr, hzc]

end

/-! Calls. -/
def norm : SV → SV
  | .prop p d => .bool (@decide p d)
  | .blit b => .bool b
  | v => v
theorem norm_den (v : SV) : (norm v).den = v.den := by cases v <;> rfl

def CalleeRuns (P : Program) (f : FuncId) : Prop := ∀ args w, (callFunc f args).run P w = .ok (.enter f args) w

/-- A call of a Go function, at a heap. -/
def CallsH (P : Program) (f : FuncId) (args : List SV) (h : Heap) (Q : SV → Heap → Prop) : Prop :=
  CalleeRuns P f ∧ ∀ w : World, w.heap = h → Calls P f (denL args).toArray w (fun e w' => ∃ r : SV, e = .returned r.den ∧ Q r w'.heap ∧ Rest w w')

theorem CallsH.mono {P : Program} {f : FuncId} {args : List SV} {h : Heap} {Q Q' : SV → Heap → Prop} (hc : CallsH P f args h Q) (hq : ∀ r h', Q r h' → Q' r h') : CallsH P f args h Q' :=
  ⟨hc.1, fun w hw => (hc.2 w hw).mono fun _ _ ⟨r, he, hr, hs⟩ => ⟨r, he, hq _ _ hr, hs⟩⟩

structure LoopAnn where
  live : List (Nat × RSh)
  dead : List Nat

structure Cx where
  modes : List (Nat × Nat)
  pure : FuncId → List SV → Pu
  loops : List (Nat × LoopAnn)
  tails : List (Nat × Nat)

def Cx.Ok (P : Program) (cx : Cx) : Prop :=
  ∀ n args p v, cx.pure n args = some (p, v) → p.getD True → ∀ h, CallsH P n args h (fun r h' => r.den = v.den ∧ h' = h)

def lk {α : Type} (l : List (Nat × α)) (k : Nat) : Option α :=
  match l with
  | [] => none
  | (a, b) :: r => if a = k then some b else lk r k

def goCall (P : Program) (cx : Cx) (n : FuncId) (args : List SV) (rt : TypeId) (h : Heap) (K : SV → Heap → Prop) : Prop :=
  match cx.pure n args with
  | some (none, v) => K v h
  | some (some p, v) => p ∧ K v h
  | none => match fshOf P rt with
    | some sh => CallsH P n args h (fun r h' => exF sh fun v => r = v ∧ K v h')
    | none => False

def vcMem (P : Program) (cx : Cx) (rt : TypeId) (ρ : Operand → SV) (h : Heap) (K : SV → Heap → Prop) : Op → Prop
  | .load t a => match ρ a, P.info? t, P.underlying t with
    | .ptr p, some q, some d =>
      if isAggT P t then match cellShs P 6 t with
        | some shs => if shs.length = q.size then exShs shs fun vs => HLd h p vs ∧ K (.agg vs) h else False
        | none => False
      else exSh (shOf d) fun v => HLd h p [v] ∧ K v h
    | _, _, _ => False
  | .store t a x => match ρ a, P.info? t with
    | .ptr p, some q =>
      if (cellsV (ρ x)).length = q.size ∧ (cellsV (ρ x)).all flatB = true ∧ isRawAgg (ρ x) = false then
        HWr h p (cellsV (ρ x)).length ∧ ∀ h', HSt h p (cellsV (ρ x)) h' → K undefV h'
      else False
    | _, _ => False
  | .alloc t => match zeroE P t with
    | some z => ∀ b h', HNew h z t b h' → K (.ptr (some ⟨b, 0, none⟩)) h'
    | none => False
  | .box t x => if isRawAgg (ρ x) = true then False else ∀ b h', HNew h (cellsV (ρ x)) t b h' → K (.ptr (some ⟨b, 0, none⟩)) h'
  | .buildSlice t len parts => match P.underlying t with
    | some (.slice e) => match P.info? e, zeroE P e with
      | some q, some z =>
        if z.length = q.size ∧ len * q.size ≤ 16777216 ∧ noRawAgg (parts.toList.map fun y => (y.1, ρ y.2)) = true then
          match fillV (fun i => some (i * q.size, q.size)) ((List.range (len * q.size)).map fun i => z.getD (i % q.size) undefV) (parts.toList.map fun y => (y.1, ρ y.2)) with
          | some cs => ∀ b h', HNew h cs e b h' → K (.sl (some ⟨b, 0, none⟩) len len) h'
          | none => False
        else False
      | _, _ => False
    | _ => False
  | .makeSlice t l c => match P.underlying t, ρ l, ρ c with
    | some (.slice e), .int _ n, .int _ m => match P.info? e, zeroE P e with
      | some q, some z =>
        if z.length = q.size then
          (0 ≤ n ∧ n ≤ m ∧ m * q.bytes ≤ 140737488355328 ∧ I64 m) ∧ ∀ b h', HZero h m.toNat z e b h' → K (.sl (some ⟨b, 0, none⟩) n.toNat m.toNat) h'
        else False
      | _, _ => False
    | _, _, _ => False
  | .makeFunc fn first caps => K (.raw (.func fn (first.map fun x => (ρ x).den) (caps.map fun x => (ρ x).den))) h
  | .call { callee := .builtin .append, args, argTypes } => match args.toList.map ρ, argTypes.toList with
    | [.sl a len cap, .sl b n _], [t0, t1] => match P.underlying t0, P.underlying t1 with
      | some (.slice e), some (.slice _) => match P.info? e, zeroE P e with
        | some q, some z =>
          if q.bytes = 0 then False else
          AppPre h a len cap b n q.size q.bytes ∧ ∀ a' c' h', HApp h a len cap b n e q.size z a' c' h' → K (.sl a' (len + n) c') h'
        | _, _ => False
      | _, _ => False
    | _, _ => False
  | .call { callee := .value f, args, .. } => match ρ f with
    | .raw (.func (.func n) first cap) => goCall P cx n (first.toList.map ofCell ++ args.toList.map (fun x => norm (ρ x)) ++ cap.toList.map ofCell) rt h K
    | _ => False
  | _ => False

def modeOf (cx : Cx) : Option Tmp → Nat
  | some t => (lk cx.modes t).getD 0
  | none => 0

def vcOp (P : Program) (cx : Cx) (o : Oper) (ρ : Operand → SV) (h : Heap) (K : SV → Heap → Prop) : Prop :=
  match pureOp P (modeOf cx o.dst) ρ o.op with
  | some (none, v) => K v h
  | some (some p, v) => p ∧ K v h
  | none => vcMem P cx o.type ρ h K o.op

section
variable {P : Program}

/-- What is to be shown of an operation. -/
def OpOk (P : Program) (o : Oper) (ρ : Operand → SV) (h : Heap) (K : SV → Heap → Prop) : Prop :=
  ∀ (w : World), w.heap = h → ∀ (a : Act), (a.eval = fun x => (ρ x).den) → ∀ (next : Act → World → Prop) (Q : Exit → Act → World → Prop),
    (∀ v w', Rest w w' → K v w'.heap → next (a.put o.dst v.den) w') → o.wp P a w next Q

theorem opOk_value {o : Oper} {ρ : Operand → SV} {h : Heap} {K : SV → Heap → Prop} {v : SV}
    (hr : ∀ w : World, w.heap = h → ∃ w', (execOp (fun x => (ρ x).den) o).run P w = .ok (.value v.den) w' ∧ Rest w w' ∧ K v w'.heap) : OpOk P o ρ h K := by
  intro w hw a ha next Q hn
  obtain ⟨w', h1, h2, h3⟩ := hr w hw
  show o.upon P a next Q ((execOp a.eval o).run P w)
  rw [ha, h1]
  exact hn v w' h2 h3

theorem goCall_ok {cx : Cx} (hcx : cx.Ok P) {o : Oper} {n : FuncId} {args : List SV} {ρ : Operand → SV} {h : Heap} {K : SV → Heap → Prop}
    (hrun : ∀ w : World, (execOp (fun x => (ρ x).den) o).run P w = (callFunc n (denL args).toArray).run P w) (hg : goCall P cx n args o.type h K) : OpOk P o ρ h K := by
  have fin : CallsH P n args h (fun r h' => ∃ v : SV, r.den = v.den ∧ K v h') → OpOk P o ρ h K := by
    rintro ⟨h1, h2⟩ w hw a ha next Q hn
    show o.upon P a next Q ((execOp a.eval o).run P w)
    rw [ha, hrun, h1]
    refine (h2 w hw).mono ?_
    rintro e w' ⟨r, rfl, ⟨v, hv, hk⟩, hrest⟩
    show next (a.put o.dst r.den) w'
    rw [hv]
    exact hn v w' hrest hk
  unfold goCall at hg
  split at hg
  · rename_i v hp
    exact fin ((hcx n args none v hp trivial h).mono fun r h' ⟨h1, h2⟩ => ⟨v, h1, by rw [h2]; exact hg⟩)
  · rename_i p v hp
    exact fin ((hcx n args (some p) v hp hg.1 h).mono fun r h' ⟨h1, h2⟩ => ⟨v, h1, by rw [h2]; exact hg.2⟩)
  · split at hg
    · refine fin (hg.mono fun r h' hx => ?_)
      obtain ⟨v, hv, hk⟩ := exF_out hx
      exact ⟨v, by rw [hv], hk⟩
    · exact hg.elim

theorem denL_ofCells (l : Array Value) : denL (l.toList.map ofCell) = l.toList := denL_ofCell l.toList

theorem run_next {s : Sem Value} {w w' : World} {v : Value} (h : s.run P w = .ok v w') : (do pure (Next.value (← s)) : Sem Next).run P w = .ok (.value v) w' := by
  rw [Sem.run_bind, h]; rfl

theorem get_mod {z : List SV} {i : Nat} (h : 0 < z.length) : (z.getD (i % z.length) undefV).den = (denL z).toArray[i % (denL z).toArray.size]! := by
  have hl : i % z.length < z.length := Nat.mod_lt _ h
  have e : (denL z).toArray.size = z.length := by simp [denL_length]
  rw [e]
  simp [denL_get?, List.getElem?_eq_getElem hl]

theorem fresh_cells {z : List SV} {len size : Nat} (h : z.length = size) :
    denL ((List.range (len * size)).map fun i => z.getD (i % size) undefV) = ((Array.range (len * size)).map fun i => (denL z).toArray[i % (denL z).toArray.size]!).toList := by
  rw [denL_map, List.map_map, Array.toList_map, Array.toList_range]
  apply List.map_congr_left
  intro i hi
  subst h
  rcases Nat.eq_zero_or_pos z.length with h0 | h0
  · rw [h0] at hi; simp at hi
  · exact get_mod h0

theorem vcMem_ok {cx : Cx} (hcx : cx.Ok P) {o : Oper} {ρ : Operand → SV} {h : Heap} {K : SV → Heap → Prop} (hv : vcMem P cx o.type ρ h K o.op) : OpOk P o ρ h K := by
  generalize hop : o.op = op at hv
  unfold vcMem at hv
  split at hv
  · -- load
    split at hv
    · rename_i t x _ _ _ p q d hx hq hd
      split at hv
      · rename_i ha
        split at hv
        · rename_i shs _
          split at hv
          · rename_i hlen
            obtain ⟨vs, hl, hld, hk⟩ := exShs_out hv
            refine opOk_value (v := .agg vs) fun w hw => ⟨w, ?_, Rest.refl w, by rw [hw]; exact hk⟩
            subst hw
            simp only [execOp, hop, hx, SV.den]
            exact run_next (run_load_agg w hq hd ha hld (by omega))
          · exact hv.elim
        · exact hv.elim
      · rename_i ha
        obtain ⟨v, hld, hk⟩ := exSh_out hv
        refine opOk_value (v := v) fun w hw => ⟨w, ?_, Rest.refl w, by rw [hw]; exact hk⟩
        subst hw
        simp only [execOp, hop, hx, SV.den]
        exact run_next (run_load_one w hd (by simpa using ha) hld)
    · exact hv.elim
  · -- store
    split at hv
    · rename_i t x y _ _ p q hx hq
      split at hv
      · rename_i hc
        obtain ⟨hlen, hfl, hra⟩ := hc
        obtain ⟨hwr, hk⟩ := hv
        intro w hw a ha next Q hn
        subst hw
        have hcell := cellsV_den (ρ y) (by intro u hu c hc'; subst hc'; rw [hu] at hra; simp [isRawAgg] at hra)
        obtain ⟨h', hst, hrun⟩ := run_store (P := P) w (v := ρ y) hq hcell hlen hfl hwr
        show o.upon P a next Q ((execOp a.eval o).run P w)
        have : (execOp a.eval o).run P w = .ok .skip { w with heap := h' } := by
          rw [ha]
          simp only [execOp, hop, hx, SV.den, Sem.run_bind, hrun, Result.andThen]
          rfl
        rw [this]
        exact hn undefV { w with heap := h' } ⟨rfl, rfl, rfl⟩ (hk h' hst)
      · exact hv.elim
    · exact hv.elim
  · -- alloc
    split at hv
    · rename_i t _ z hz
      refine opOk_value (v := .ptr (some ⟨h.size, 0, none⟩)) fun w hw => ?_
      subst hw
      obtain ⟨zv, hzr, hzc⟩ := zeroE_run (P := P) w hz
      refine ⟨w.alloc (.cells zv.cells t), ?_, ⟨rfl, rfl, rfl⟩, hv w.heap.size _ ⟨rfl, by rw [alloc_heap, hzc]⟩⟩
      simp only [execOp, hop]
      refine run_next ?_
      simp only [Instr.alloc, Sem.run_bind, hzr, Result.andThen]
      simp [run_newVar, SV.den]
    · exact hv.elim
  · -- box
    split at hv
    · exact hv.elim
    · rename_i t x hra
      refine opOk_value (v := .ptr (some ⟨h.size, 0, none⟩)) fun w hw => ?_
      subst hw
      have hcell := cellsV_den (ρ x) (by intro u hu c hc'; subst hc'; rw [hu] at hra; simp [isRawAgg] at hra)
      refine ⟨w.alloc (.cells (ρ x).den.cells t), ?_, ⟨rfl, rfl, rfl⟩, hv w.heap.size _ ⟨rfl, by rw [alloc_heap, hcell]⟩⟩
      simp only [execOp, hop]
      refine run_next ?_
      simp [Instr.box, run_newVar, SV.den]
  · -- buildSlice
    split at hv
    · rename_i t len parts _ e hu
      split at hv
      · rename_i q z hq hz
        split at hv
        · rename_i hc
          obtain ⟨hzl, hsz, hna⟩ := hc
          split at hv
          · rename_i cs hf
            refine opOk_value (v := .sl (some ⟨h.size, 0, none⟩) len len) fun w hw => ?_
            subst hw
            obtain ⟨zv, hzr, hzc⟩ := zeroE_run (P := P) w hz
            refine ⟨w.alloc (.cells (denL cs).toArray e), ?_, ⟨rfl, rfl, rfl⟩, hv w.heap.size _ ⟨rfl, rfl⟩⟩
            simp only [execOp, hop]
            refine run_next ?_
            have hfill := fill_sound _ _ _ _ hna hf
            rw [fresh_cells hzl] at hfill
            have hparts : (List.map (fun q => (q.1, q.2.den)) (List.map (fun y => (y.1, ρ y.2)) parts.toList)) = (parts.map fun (i, x) => (i, (ρ x).den)).toList := by
              rw [List.map_map, Array.toList_map]; rfl
            rw [hparts] at hfill
            simp only [Array.toArray_toList] at hfill
            have h24 : ¬ (len * q.size > 2 ^ 24) := by have : (2 : Nat) ^ 24 = 16777216 := rfl
                                                       omega
            simp only [Instr.buildSlice, Sem.run_bind, run_underlying hu, Result.andThen, sizeOf, typeInfo]
            by_cases h0 : len * q.size = 0
            · have hr : Array.range 0 = #[] := by decide
              rw [h0, hr] at hfill
              simp [hq, h0, hr, newRow, SV.den]
              simp at hfill
              simp [hfill]
            · simp [hq, h24, h0, hzr, hzc, newRow, SV.den]
              simp at hfill
              simp [hfill]
          · exact hv.elim
        · exact hv.elim
      · exact hv.elim
    · exact hv.elim
  · -- makeSlice
    split at hv
    · rename_i t l c _ _ _ e k n k' m hu hl hc
      split at hv
      · rename_i q z hq hz
        split at hv
        · rename_i hzl
          obtain ⟨⟨h0, h1, h2, h3⟩, hk⟩ := hv
          refine opOk_value (v := .sl (some ⟨h.size, 0, none⟩) n.toNat m.toNat) fun w hw => ?_
          subst hw
          refine ⟨w.alloc (.cells ((Array.range (m.toNat * z.length)).map fun i => (denL z).toArray[i % (denL z).toArray.size]!) e), ?_, ⟨rfl, rfl, rfl⟩, hk w.heap.size _ ⟨rfl, rfl⟩⟩
          simp only [execOp, hop, hl, hc, SV.den]
          exact run_next (run_makeSlice w hu hq hz hzl h0 h1 h2 h3)
        · exact hv.elim
      · exact hv.elim
    · exact hv.elim
  · -- makeFunc
    rename_i fn first caps
    refine opOk_value (v := .raw (.func fn (first.map fun x => (ρ x).den) (caps.map fun x => (ρ x).den))) fun w hw => ⟨w, ?_, Rest.refl w, by rw [hw]; exact hv⟩
    simp only [execOp, hop]
    rfl
  · -- append
    rename_i args ts
    split at hv
    · rename_i a len cap b n c t0 t1 hargs hts
      split at hv
      · rename_i e e1 hu hu1
        split at hv
        · rename_i q z hq hz
          split at hv
          · exact hv.elim
          · rename_i hb
            obtain ⟨hpre, hk⟩ := hv
            intro w hw act ha next Q hn
            subst hw
            have hz' := hz
            unfold zeroE at hz'
            rw [hq] at hz'
            simp only at hz'
            split at hz'
            · rename_i zv hzv
              simp only [Option.some.injEq] at hz'
              have hts0 : ts[0]? = some t0 := by rw [← Array.getElem?_toList, hts]; rfl
              have hts1 : ts[1]? = some t1 := by rw [← Array.getElem?_toList, hts]; rfl
              obtain ⟨a', c', w', hrun, hrest, happ⟩ := run_append (P := P) w (ty := o.type) (c := c) (z := z) hts0 hts1 hu hu1 hq hzv (by rw [← hz', denL_ofCell]) hb hpre
              have hargs' : (args.map fun x => (ρ x).den) = #[.slice a len cap, .slice b n c] := by
                apply Array.ext'
                have : (args.toList.map ρ).map SV.den = [.slice a len cap, .slice b n c] := by rw [hargs]; rfl
                rw [List.map_map] at this
                rw [Array.toList_map]
                exact this
              show o.upon P act next Q ((execOp act.eval o).run P w)
              rw [ha]
              simp only [execOp, hop, resolve, invoke, Sem.run_bind, Sem.run_pure, Result.andThen, hargs', builtin, hrun]
              exact hn (.sl a' (len + n) c') w' hrest (hk a' c' w'.heap happ)
            · cases hz'
        · exact hv.elim
      · exact hv.elim
    · exact hv.elim
  · -- call
    rename_i f args ts
    split at hv
    · rename_i n first cap hf
      refine goCall_ok hcx (fun w => ?_) hv
      simp only [execOp, hop, resolve, invoke, Sem.run_bind, hf, SV.den, Deferred.ofValue, Sem.run_pure, Result.andThen]
      congr 2
      apply Array.ext'
      simp only [denL_append, denL_ofCells, Array.toList_append, Array.toList_map]
      congr 2
      rw [denL_map, List.map_map]
      apply List.map_congr_left
      intro x _
      exact (norm_den _).symm
    · exact hv.elim
  · exact hv.elim

end

end Go.Vm
