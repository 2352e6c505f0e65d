/-
  Part B: types of plain values, how values lie in memory, and what holds of memory while a call runs.
-/
import Derived.Test.YtmcahbbelnjhiaaDoorV3A
set_option linter.unusedVariables false
namespace Go.V3
open Go
/-- What lies in package-level variables that nobody writes. -/
abbrev Tb : Type := List (Nat × Array Value)
variable {TB : Tb}

inductive Ty where
  | int (k : IntKind)
  | u64 | bool | str | flt
  | pair (a b : Ty)
  | slice (a : Ty)
  | kv
  | nf
  | nile
  deriving DecidableEq

@[reducible] def Ty.T : Ty → Type
  | .int _ => Int
  | .u64 => BitVec 64
  | .bool => Bool
  | .str => ByteArray
  | .flt => Nat
  | .pair a b => a.T × b.T
  | .slice a => List a.T
  | .kv => Int × Bool
  | .nf => Option Nat
  | .nile => Unit
def Ty.sz : Ty → Nat
  | .pair a b => a.sz + b.sz
  | _ => 1
def Ty.nsl : Ty → Nat
  | .pair a b => a.nsl + b.nsl
  | .slice _ => 1
  | .nf => 1
  | _ => 0
def Ty.dflt : (t : Ty) → t.T
  | .int _ => (0 : Int)
  | .u64 => 0#64
  | .bool => false
  | .str => ⟨#[]⟩
  | .flt => (0 : Nat)
  | .pair a b => (a.dflt, b.dflt)
  | .slice _ => []
  | .kv => ((0 : Int), false)
  | .nf => (none : Option Nat)
  | .nile => ()
/-- An element of a list, and a value of no use outside of it. -/
def gd (t : Ty) (xs : List t.T) (k : Nat) : t.T := xs.getD k t.dflt
def subl {α : Type} (xs : List α) (lo n : Nat) : List α := (xs.drop lo).take n

/-- A value's cells, its slices named from n on. -/
def unp : (t : Ty) → t.T → Nat → List SV
  | .int k, x, _ => [.int k x]
  | .u64, x, _ => [.u64 x]
  | .bool, x, _ => [.bool x]
  | .str, x, _ => [.str x]
  | .flt, x, _ => [.flt x]
  | .pair a b, x, n => unp a x.1 n ++ unp b x.2 (n + a.nsl)
  | .slice _, _, n => [.slw n]
  | .kv, x, _ => [.int .i64 x.1]
  | .nf, x, n => [.nf x n]
  | .nile, _, _ => [.raw .nilIface]

/-- What a name stands for. -/
inductive Ent where
  | rsv
  | dead
  | box (cs : List SV)
  | row (t : Ty) (xs : List t.T)
  | shr (t : Ty) (xs : List t.T)
  | deep (t : Ty) (xss : List (List t.T)) (h : Option (Nat × Nat))
  | map (xs : List (Int × Bool))
def Ent.isRsv : Ent → Bool
  | .rsv => true
  | _ => false
def Ty.isSl : Ty → Bool
  | .slice _ => true
  | .kv => true
  | _ => false
def Ty.isKv : Ty → Bool
  | .kv => true
  | _ => false
/-- A slice handed over whole: of slices, with the slices. A map stands as a slice of its pairs. -/
def ownEnt : (a : Ty) → List a.T → Ent
  | .slice b, x => .deep b x none
  | .int k, x => .row (.int k) x
  | .u64, x => .row .u64 x
  | .bool, x => .row .bool x
  | .str, x => .row .str x
  | .flt, x => .row .flt x
  | .pair a b, x => .row (.pair a b) x
  | .kv, x => .map x
  | .nf, x => .row .nf x
  | .nile, x => .row .nile x
def ents (own : Bool) : (t : Ty) → t.T → List Ent
  | .int _, _ => []
  | .u64, _ => []
  | .bool, _ => []
  | .str, _ => []
  | .flt, _ => []
  | .pair a b, x => ents own a x.1 ++ ents own b x.2
  | .slice a, x => [match own with | true => ownEnt a x | false => .shr a x]
  | .kv, _ => []
  | .nf, _ => [.dead]
  | .nile, _ => []

theorem ownEnt_flat {a : Ty} (h : a.isSl = false) (x : List a.T) : ownEnt a x = .row a x := by
  cases a <;> first | rfl | cases h
theorem ownEnt_rsv (a : Ty) (x : List a.T) : (ownEnt a x).isRsv = false := by cases a <;> rfl

/-- The cells in memory, slices at these places. -/
def enc : (t : Ty) → t.T → (Nat → Nm) → List Value
  | .int k, x, _ => [.int k x]
  | .u64, x, _ => [.int .u64 ((x : BitVec 64).toNat : Int)]
  | .bool, x, _ => [.bool x]
  | .str, x, _ => [.string x]
  | .flt, x, _ => [.float .f64 x]
  | .pair a b, x, m => enc a x.1 m ++ enc b x.2 (fun k => m (a.nsl + k))
  | .slice _, _, m => [.slice (m 0).ad (m 0).len (m 0).cap]
  | .kv, x, _ => [.int .i64 x.1]
  | .nf, x, m => [.float .f64 ((x : Option Nat).getD (nanOf (m 0).blk))]
  | .nile, _, _ => [.nilIface]

theorem unp_den (E : Env) (t : Ty) (x : t.T) (n : Nat) : denL E (unp t x n) = enc t x (fun k => E.nm (n + k)) := by
  induction t generalizing n with
  | pair a b iha ihb => simp [unp, enc, denL_append, iha, ihb, Nat.add_assoc]
  | _ => rfl
theorem enc_congr (t : Ty) (x : t.T) {f g : Nat → Nm} (h : ∀ k, k < t.nsl → f k = g k) : enc t x f = enc t x g := by
  induction t generalizing f g with
  | pair a b iha ihb =>
    simp only [enc]
    rw [iha x.1 (fun k hk => h k (by simp [Ty.nsl]; omega)), ihb x.2 (fun k hk => h _ (by simp [Ty.nsl]; omega))]
  | slice a => simp only [enc]; rw [h 0 (by simp [Ty.nsl])]
  | nf => simp only [enc]; rw [h 0 (by simp [Ty.nsl])]
  | _ => rfl
theorem enc_length (t : Ty) (x : t.T) (f : Nat → Nm) : (enc t x f).length = t.sz := by
  induction t generalizing f with
  | pair a b iha ihb => simp [enc, Ty.sz, iha, ihb]
  | _ => rfl
theorem unp_length (t : Ty) (x : t.T) (n : Nat) : (unp t x n).length = t.sz := by
  induction t generalizing n with
  | pair a b iha ihb => simp [unp, Ty.sz, iha, ihb]
  | _ => rfl
theorem ents_length (o : Bool) (t : Ty) (x : t.T) : (ents o t x).length = t.nsl := by
  induction t with
  | pair a b iha ihb => simp [ents, Ty.nsl, iha, ihb]
  | _ => rfl
theorem sz_pos (t : Ty) : 0 < t.sz := by
  induction t with
  | pair a b iha ihb => simp [Ty.sz]; omega
  | _ => simp [Ty.sz]

/-! How values lie in memory. -/
def cellsAt (arr : Array Value) (off n : Nat) : List Value := (arr.toList.drop off).take n
def RowsIn {α : Type} (R : α → List Value → Prop) (sz : Nat) (arr : Array Value) (off : Nat) (xs : List α) : Prop :=
  ∀ i x, xs[i]? = some x → R x (cellsAt arr (off + i * sz) sz)
/-- A slice that nobody writes. -/
def Shr {α : Type} (R : α → List Value → Prop) (sz : Nat) (G : Nat → Prop) (w : World) (m : Nm) (xs : List α) : Prop :=
  m.len = xs.length ∧ m.len ≤ m.cap ∧ (xs = [] ∨ (m.nil = false ∧ G m.blk ∧ ∃ arr ty fz, w.heap[m.blk]? = some (.cells arr ty fz) ∧ RowsIn R sz arr m.off xs))
/-- A value and its cells, in blocks that nobody writes. -/
def Rp (G : Nat → Prop) (w : World) : (t : Ty) → t.T → List Value → Prop
  | .int k, x, vs => vs = [.int k x]
  | .u64, x, vs => vs = [.int .u64 ((x : BitVec 64).toNat : Int)]
  | .bool, x, vs => vs = [.bool x]
  | .str, x, vs => vs = [.string x]
  | .flt, x, vs => vs = [.float .f64 x]
  | .pair a b, x, vs => ∃ v1 v2, vs = v1 ++ v2 ∧ Rp G w a x.1 v1 ∧ Rp G w b x.2 v2
  | .slice a, x, vs => ∃ m : Nm, vs = [.slice m.ad m.len m.cap] ∧ Shr (Rp G w a) a.sz G w m x
  | .kv, x, vs => vs = [.int .i64 x.1]
  | .nf, x, vs => ∃ k, vs = [.float .f64 ((x : Option Nat).getD (nanOf k))]
  | .nile, _, vs => vs = [.nilIface]

theorem RowsIn.imp {α : Type} {R R' : α → List Value → Prop} {sz : Nat} {arr : Array Value} {off : Nat} {xs : List α} (h : RowsIn R sz arr off xs) (hr : ∀ x vs, R x vs → R' x vs) : RowsIn R' sz arr off xs :=
  fun i x hx => hr _ _ (h i x hx)
theorem Shr.mono {α : Type} {R R' : α → List Value → Prop} {sz : Nat} {G G' : Nat → Prop} {w w' : World} {m : Nm} {xs : List α} (h : Shr R sz G w m xs) (hr : ∀ x vs, R x vs → R' x vs)
    (hw : ∀ b, G b → w'.heap[b]? = w.heap[b]?) (hg : ∀ b, G b → G' b) : Shr R' sz G' w' m xs := by
  obtain ⟨h1, h0, h2⟩ := h
  refine ⟨h1, h0, h2.imp id ?_⟩
  rintro ⟨a, b, arr, ty, fz, c, d⟩
  exact ⟨a, hg _ b, arr, ty, fz, by rw [hw _ b]; exact c, d.imp hr⟩
theorem Rp.mono {G G' : Nat → Prop} {w w' : World} (hw : ∀ b, G b → w'.heap[b]? = w.heap[b]?) (hg : ∀ b, G b → G' b) (t : Ty) (x : t.T) (vs : List Value) (h : Rp G w t x vs) : Rp G' w' t x vs := by
  induction t generalizing vs with
  | pair a b iha ihb =>
    obtain ⟨v1, v2, h0, h1, h2⟩ := h
    exact ⟨v1, v2, h0, iha _ _ h1, ihb _ _ h2⟩
  | slice a ih =>
    obtain ⟨m, h0, h1⟩ := h
    exact ⟨m, h0, h1.mono (fun x vs hx => ih x vs hx) hw hg⟩
  | _ => exact h
theorem Rp.length {G : Nat → Prop} {w : World} (t : Ty) (x : t.T) (vs : List Value) (h : Rp G w t x vs) : vs.length = t.sz := by
  induction t generalizing vs with
  | pair a b iha ihb =>
    obtain ⟨v1, v2, rfl, h1, h2⟩ := h
    simp [Ty.sz, iha _ _ h1, ihb _ _ h2]
  | slice a => obtain ⟨m, rfl, _⟩ := h; rfl
  | nf => obtain ⟨m, rfl⟩ := h; rfl
  | _ => (simp only [Rp] at h; rw [h]; rfl)

/-- What a name that nobody writes through stands for. -/
def SEnt (G : Nat → Prop) (w : World) (m : Nm) : Ent → Prop
  | .shr a xs => Shr (Rp G w a) a.sz G w m xs
  | .dead => True
  | _ => False

theorem Rp.out {G : Nat → Prop} {w : World} (t : Ty) (x : t.T) (vs : List Value) (h : Rp G w t x vs) : ∃ m : Nat → Nm, vs = enc t x m ∧ ∀ k e, (ents false t x)[k]? = some e → SEnt G w (m k) e := by
  induction t generalizing vs with
  | pair a b iha ihb =>
    obtain ⟨v1, v2, rfl, h1, h2⟩ := h
    obtain ⟨m1, e1, s1⟩ := iha _ _ h1
    obtain ⟨m2, e2, s2⟩ := ihb _ _ h2
    refine ⟨fun k => if k < a.nsl then m1 k else m2 (k - a.nsl), ?_, ?_⟩
    · simp only [enc]
      rw [e1, e2]
      congr 1
      · exact enc_congr _ _ fun k hk => by simp [hk]
      · exact enc_congr _ _ fun k hk => by
          have : ¬ (a.nsl + k < a.nsl) := by omega
          simp [this]
    · intro k e he
      simp only [ents] at he
      by_cases hk : k < a.nsl
      · rw [List.getElem?_append_left (by rw [ents_length]; exact hk)] at he
        simp only [hk, if_true]; exact s1 k e he
      · rw [List.getElem?_append_right (by rw [ents_length]; omega), ents_length] at he
        simp only [hk, if_false]; exact s2 _ e he
  | slice a =>
    obtain ⟨m, rfl, h1⟩ := h
    refine ⟨fun _ => m, rfl, ?_⟩
    intro k e he
    cases k with
    | zero => simp only [ents, List.getElem?_cons_zero, Option.some.injEq] at he; subst he; exact h1
    | succ k => simp [ents] at he
  | nf =>
    obtain ⟨k0, rfl⟩ := h
    refine ⟨fun _ => ⟨k0, 0, true, 0, 0, none⟩, rfl, ?_⟩
    intro k e he
    cases k with
    | zero => simp only [ents, List.getElem?_cons_zero, Option.some.injEq] at he; subst he; trivial
    | succ k => simp [ents] at he
  | _ => exact ⟨fun _ => ⟨0, 0, true, 0, 0, none⟩, h, fun k e he => by simp [ents] at he⟩
theorem Rp.mk {G : Nat → Prop} {w : World} (t : Ty) (x : t.T) (m : Nat → Nm) (h : ∀ k e, (ents false t x)[k]? = some e → SEnt G w (m k) e) : Rp G w t x (enc t x m) := by
  induction t generalizing m with
  | pair a b iha ihb =>
    refine ⟨_, _, rfl, iha x.1 m ?_, ihb x.2 _ ?_⟩
    · intro k e he
      have hk : k < a.nsl := by
        rcases Nat.lt_or_ge k (ents false a x.1).length with h1 | h1
        · rwa [ents_length] at h1
        · rw [List.getElem?_eq_none h1] at he; cases he
      exact h k e (by simp only [ents]; rw [List.getElem?_append_left (by rw [ents_length]; exact hk)]; exact he)
    · intro k e he
      exact h (a.nsl + k) e (by simp only [ents]; rw [List.getElem?_append_right (by rw [ents_length]; omega), ents_length]; simpa using he)
  | slice a => exact ⟨m 0, rfl, h 0 _ rfl⟩
  | nf => exact ⟨_, rfl⟩
  | _ => rfl

/-- What stays while a call runs: the world at its start, and the blocks that it was handed to write. -/
structure Cfg (TB : Tb) where
  w0 : World
  io : Nat → Prop
  g0 : Nat → Prop
def Cfg.Old (c : Cfg TB) (b : Nat) : Prop := b < c.w0.heap.size ∧ ¬ c.io b
def Cfg.Tab (c : Cfg TB) : Prop := ∀ q ∈ TB, c.Old q.1 ∧ ∃ ty fz, c.w0.heap[q.1]? = some (.cells q.2 ty fz)

/-- A slice of the call's own. -/
def Own {α : Type} (R : α → List Value → Prop) (sz : Nat) (c : Cfg TB) (G : Nat → Prop) (w : World) (m : Nm) (xs : List α) : Prop :=
  m.len = xs.length ∧ True ∧ ((m.nil = true ∧ xs = [] ∧ m.cap = 0) ∨
    (m.nil = false ∧ ¬ G m.blk ∧ ¬ c.Old m.blk ∧ xs.length ≤ m.cap ∧ ∃ arr ty, w.heap[m.blk]? = some (.cells arr ty (m.fr arr.size)) ∧ m.off + m.cap * sz ≤ arr.size ∧ RowsIn R sz arr m.off xs))

theorem own_cap {α : Type} {R : α → List Value → Prop} {sz : Nat} {c : Cfg TB} {G : Nat → Prop} {w : World} {m : Nm} {xs : List α} (h : Own R sz c G w m xs) : m.len ≤ m.cap := by
  obtain ⟨h1, h2, h3⟩ := h
  rcases h3 with ⟨_, rfl, h4⟩ | ⟨_, _, _, h7, _⟩
  · simp at h1; omega
  · omega

/-- A slice of a slice's own. -/
def Inner {α : Type} (R : α → List Value → Prop) (sz : Nat) (w : World) (m : Nm) (xs : List α) : Prop :=
  m.len = xs.length ∧ True ∧ ((m.nil = true ∧ xs = [] ∧ m.cap = 0) ∨
    (m.nil = false ∧ xs.length ≤ m.cap ∧ ∃ arr ty, w.heap[m.blk]? = some (.cells arr ty (m.fr arr.size)) ∧ m.off + m.cap * sz ≤ arr.size ∧ RowsIn R sz arr m.off xs))

abbrev Store := List (Nat × Ent)
def look (L : Store) (n : Nat) : Option Ent := match L[n]? with
  | some q => some q.2
  | none => none
/-- A name in use. -/
def Al (L : Store) (n : Nat) : Prop := ∃ e, look L n = some e ∧ e.isRsv = false

mutual
/-- What a value names is there. -/
def SV.wf (E : Env) (L : Store) : SV → Prop
  | .loc i _ => Al L i
  | .slw i => Al L i
  | .sub i lo n _ => Al L i ∧ lo + n ≤ (E.nm i).len
  | .el i k _ _ => Al L i ∧ k < (E.nm i).len ∧ (E.nm i).nil = false
  | .unk _ => False
  | .nf _ i => Al L i
  | .agg cs => wfL E L cs
  | .tup vs => wfL E L vs
  | .mpv i => Al L i
  | .clo _ cs => wfL E L cs
  | _ => True
def wfL (E : Env) (L : Store) : List SV → Prop
  | [] => True
  | v :: r => v.wf E L ∧ wfL E L r
end
theorem wfL_mem {E : Env} {L : Store} {l : List SV} : wfL E L l ↔ ∀ v ∈ l, v.wf E L := by
  induction l with
  | nil => simp [wfL]
  | cons v r ih => simp [wfL, ih]

mutual
theorem wf_ext {E E' : Env} {L L' : Store} (hL : ∀ n, Al L n → Al L' n) (hE : ∀ n, Al L n → E'.nm n = E.nm n) : ∀ (v : SV), v.wf E L → v.wf E' L' ∧ v.den E' = v.den E
  | .loc i _, h => ⟨hL _ h, by simp only [SV.den]; rw [hE _ h]⟩
  | .slw i, h => ⟨hL _ h, by simp only [SV.den]; rw [hE _ h]⟩
  | .sub i lo n sz, h => ⟨⟨hL _ h.1, by rw [hE _ h.1]; exact h.2⟩, by simp only [SV.den]; rw [hE _ h.1]⟩
  | .el i k sz off, h => ⟨⟨hL _ h.1, by rw [hE _ h.1]; exact h.2.1, by rw [hE _ h.1]; exact h.2.2⟩, by simp only [SV.den]; rw [hE _ h.1]⟩
  | .unk _, h => h.elim
  | .agg cs, h => by
    obtain ⟨h1, h2⟩ := wfL_ext hL hE cs h
    exact ⟨h1, by simp only [SV.den]; rw [h2]⟩
  | .tup cs, h => by
    obtain ⟨h1, h2⟩ := wfL_ext hL hE cs h
    exact ⟨h1, by simp only [SV.den]; rw [h2]⟩
  | .mpv i, h => ⟨hL _ h, by simp only [SV.den]; rw [hE _ h]⟩
  | .clo _ cs, h => by
    obtain ⟨h1, h2⟩ := wfL_ext hL hE cs h
    exact ⟨h1, by simp only [SV.den]; rw [h2]⟩
  | .int _ _, _ => ⟨trivial, rfl⟩
  | .u64 _, _ => ⟨trivial, rfl⟩
  | .bool _, _ => ⟨trivial, rfl⟩
  | .blit _, _ => ⟨trivial, rfl⟩
  | .prop _ _, _ => ⟨trivial, rfl⟩
  | .str _, _ => ⟨trivial, rfl⟩
  | .flt _, _ => ⟨trivial, rfl⟩
  | .nf _ i, h => ⟨hL _ h, by simp only [SV.den]; rw [hE _ h]⟩
  | .nils, _ => ⟨trivial, rfl⟩
  | .ptr _, _ => ⟨trivial, rfl⟩
  | .raw _, _ => ⟨trivial, rfl⟩
theorem wfL_ext {E E' : Env} {L L' : Store} (hL : ∀ n, Al L n → Al L' n) (hE : ∀ n, Al L n → E'.nm n = E.nm n) : ∀ (l : List SV), wfL E L l → wfL E' L' l ∧ denL E' l = denL E l
  | [], _ => ⟨trivial, rfl⟩
  | v :: r, h => by
    obtain ⟨h1, h2⟩ := wf_ext hL hE v h.1
    obtain ⟨h3, h4⟩ := wfL_ext hL hE r h.2
    exact ⟨⟨h1, h3⟩, by simp only [denL]; rw [h2, h4]⟩
end

def Ent.own : Ent → Nm → Option Nat
  | .box _, m => some m.blk
  | .row _ _, m => if m.nil = true then none else some m.blk
  | .map _, m => some m.blk
  | _, _ => none
def Ent.isDeep : Ent → Bool
  | .deep _ _ _ => true
  | _ => false
/-- The blocks that a name owns. -/
def Ent.ow (e : Ent) (E : Env) (n b : Nat) : Prop := e.own (E.nm n) = some b ∨ (e.isDeep = true ∧ b ∈ E.ins.l n)

/-- A slice of slices, all of the call's own. 'h': the slice at a place is another name's for now. -/
structure DeepOk (c : Cfg TB) (G : Nat → Prop) (w : World) (E : Env) (L : Store) (m : Nm) (l : List Nat) (t : Ty) (xss : List (List t.T)) (h : Option (Nat × Nat)) : Prop where
  len : m.len = xss.length
  off : m.off = 0
  nd : l.Nodup
  all : ∀ b ∈ l, ¬ G b ∧ ¬ c.Old b ∧ ∃ arr ty fz, w.heap[b]? = some (.cells arr ty fz)
  cs : (m.nil = true ∧ xss = [] ∧ m.cap = 0) ∨ (m.nil = false ∧ m.blk ∈ l ∧ xss.length ≤ m.cap ∧ ∃ (arr : Array Value) (ty : TypeId) (hs : Nat → Nm), w.heap[m.blk]? = some (.cells arr ty (0, 0)) ∧ arr.size = m.cap ∧
    (∀ k, k < xss.length → arr[k]? = some (.slice (hs k).ad (hs k).len (hs k).cap)) ∧
    (∀ k xs, xss[k]? = some xs → (∀ j, h ≠ some (k, j)) → Inner (Rp G w t) t.sz w (hs k) xs ∧ ((hs k).nil = false → (hs k).blk ∈ l ∧ (hs k).blk ≠ m.blk)) ∧
    (∀ k k', k < xss.length → k' < xss.length → k ≠ k' → (∀ j, h ≠ some (k, j)) → (∀ j, h ≠ some (k', j)) → (hs k).nil = false → (hs k').nil = false → (hs k).blk ≠ (hs k').blk) ∧
    (∀ k j, h = some (k, j) → k < xss.length → hs k = E.nm j ∧ Al L j))

/-- What a map holds. -/
def MapIs (es : Array MapEntry) (xs : List (Int × Bool)) : Prop := es.toList.map (fun e => (e.key, e.val)) = xs.map (fun q => ((.int .i64 q.1 : Value), (.bool q.2 : Value)))
def EntOk (c : Cfg TB) (G : Nat → Prop) (w : World) (E : Env) (L : Store) (m : Nm) : Ent → Prop
  | .rsv => True
  | .dead => True
  | .box cs => m.nil = false ∧ m.off = m.pp.pre.length ∧ ¬ G m.blk ∧ ¬ c.Old m.blk ∧ (∃ ty, w.heap[m.blk]? = some (.cells (m.arr (denL E cs)) ty (0, 0))) ∧ wfL E L cs
  | .row t xs => Own (Rp G w t) t.sz c G w m xs
  | .shr t xs => Shr (Rp G w t) t.sz G w m xs
  | .deep _ _ _ => True
  | .map xs => m.nil = false ∧ m.off = 0 ∧ ¬ G m.blk ∧ ¬ c.Old m.blk ∧ ∃ es ck, w.heap[m.blk]? = some (.map es ck) ∧ MapIs es xs

structure Holds (c : Cfg TB) (G : Nat → Prop) (w : World) (E : Env) (L : Store) : Prop where
  rest : Rest c.w0 w
  size : c.w0.heap.size ≤ w.heap.size
  old : ∀ b, c.Old b → w.heap[b]? = c.w0.heap[b]?
  gin : ∀ b, G b → b < w.heap.size
  glo : ∀ b, c.g0 b → G b
  ghi : ∀ b, G b → c.g0 b ∨ ¬ c.Old b
  ent : ∀ n e, look L n = some e → EntOk c G w E L (E.nm n) e
  dp : ∀ n t xss h, look L n = some (.deep t xss h) → DeepOk c G w E L (E.nm n) (E.ins.l n) t xss h
  inj : ∀ n k e f b, n ≠ k → look L n = some e → look L k = some f → e.ow E n b → ¬ f.ow E k b
  tab : c.Tab

theorem blk_lt {w : World} {b : Nat} {o : Obj} (h : w.heap[b]? = some o) : b < w.heap.size := by
  rcases Nat.lt_or_ge b w.heap.size with h1 | h1
  · exact h1
  · rw [Array.getElem?_eq_none h1] at h; cases h

theorem Inner.mono {α : Type} {R R' : α → List Value → Prop} {sz : Nat} {w w' : World} {m : Nm} {xs : List α} (h : Inner R sz w m xs) (hr : ∀ x vs, R x vs → R' x vs) (hw : m.nil = false → w'.heap[m.blk]? = w.heap[m.blk]?) : Inner R' sz w' m xs := by
  obtain ⟨h1, h2, h3⟩ := h
  refine ⟨h1, h2, h3.imp id ?_⟩
  rintro ⟨h4, h5, arr, ty, h6, h7, h8⟩
  exact ⟨h4, h5, arr, ty, by rw [hw h4]; exact h6, h7, h8.imp hr⟩

theorem DeepOk.mono {c : Cfg TB} {G G' : Nat → Prop} {w w' : World} {E E' : Env} {L L' : Store} {m : Nm} {l : List Nat} {t : Ty} {xss : List (List t.T)} {h : Option (Nat × Nat)} (k : DeepOk c G w E L m l t xss h)
    (hL : ∀ n, Al L n → Al L' n) (hE : ∀ n, Al L n → E'.nm n = E.nm n) (hw : ∀ b, G b → w'.heap[b]? = w.heap[b]?) (hg : ∀ b, G b → G' b)
    (ho : ∀ b ∈ l, w'.heap[b]? = w.heap[b]? ∧ ¬ G' b) : DeepOk c G' w' E' L' m l t xss h := by
  refine ⟨k.len, k.off, k.nd, fun b hb => ⟨(ho b hb).2, (k.all b hb).2.1, ?_⟩, k.cs.imp id ?_⟩
  · rw [(ho b hb).1]; exact (k.all b hb).2.2
  · rintro ⟨h1, h2, h3, arr, ty, hs, h4, h5, h6, h7, h8, h9⟩
    refine ⟨h1, h2, h3, arr, ty, hs, by rw [(ho _ h2).1]; exact h4, h5, h6, fun k xs hk hj => ?_, h8, fun k j hk hl => ?_⟩
    · obtain ⟨q1, q2⟩ := h7 k xs hk hj
      exact ⟨q1.mono (fun x vs hx => Rp.mono hw hg t x vs hx) (fun hn => (ho _ (q2 hn).1).1), q2⟩
    · obtain ⟨q1, q2⟩ := h9 k j hk hl
      exact ⟨by rw [hE _ q2]; exact q1, hL _ q2⟩
theorem DeepOk.cfg {c c' : Cfg TB} {G : Nat → Prop} {w : World} {E : Env} {L : Store} {m : Nm} {l : List Nat} {t : Ty} {xss : List (List t.T)} {h : Option (Nat × Nat)} (k : DeepOk c G w E L m l t xss h)
    (hc : ∀ b ∈ l, ¬ c'.Old b) : DeepOk c' G w E L m l t xss h :=
  ⟨k.len, k.off, k.nd, fun b hb => ⟨(k.all b hb).1, hc b hb, (k.all b hb).2.2⟩, k.cs⟩
/-- Without a place that is another name's, the environment does not matter. -/
theorem DeepOk.env {c : Cfg TB} {G : Nat → Prop} {w : World} {E E' : Env} {L L' : Store} {m m' : Nm} {l : List Nat} {t : Ty} {xss : List (List t.T)} (k : DeepOk c G w E L m l t xss none)
    (hm : m'.blk = m.blk ∧ m'.off = m.off ∧ m'.nil = m.nil ∧ m'.len = m.len ∧ m'.cap = m.cap) : DeepOk c G w E' L' m' l t xss none := by
  obtain ⟨e1, e2, e3, e4, e5⟩ := hm
  obtain ⟨k1, k2, k3, k4, k5⟩ := k
  refine ⟨by rw [e4]; exact k1, by rw [e2]; exact k2, k3, k4, ?_⟩
  rw [e1, e3, e5]
  refine k5.imp id ?_
  rintro ⟨h1, h2, h3, arr, ty, hs, h4, h5, h6, h7, h8, h9⟩
  exact ⟨h1, h2, h3, arr, ty, hs, h4, h5, h6, h7, h8, fun k j hk => by cases hk⟩

/-- The owner of a block. -/
theorem EntOk.own_ok {c : Cfg TB} {G : Nat → Prop} {w : World} {E : Env} {L : Store} {m : Nm} {e : Ent} (h : EntOk c G w E L m e) {b : Nat} (hb : e.own m = some b) : b = m.blk ∧ m.nil = false ∧ True ∧ ¬ G b ∧ ¬ c.Old b ∧ ∃ o, w.heap[b]? = some o := by
  cases e with
  | map xs =>
    simp only [Ent.own, Option.some.injEq] at hb; subst hb
    obtain ⟨h1, h2, h3, h4, es, ck, h5, _⟩ := h
    exact ⟨rfl, h1, trivial, h3, h4, _, h5⟩
  | box cs =>
    simp only [Ent.own, Option.some.injEq] at hb; subst hb
    obtain ⟨h1, h2, h3, h4, ⟨ty, h5⟩, _⟩ := h
    exact ⟨rfl, h1, trivial, h3, h4, _, h5⟩
  | row t xs =>
    simp only [Ent.own] at hb
    split at hb
    · cases hb
    · rename_i hn
      simp only [Option.some.injEq] at hb; subst hb
      obtain ⟨h1, h2, h3⟩ := h
      rcases h3 with ⟨h4, _⟩ | ⟨h4, h5, h6, h7, arr, ty, h8, _⟩
      · exact absurd h4 hn
      · exact ⟨rfl, h4, h2, h5, h6, _, h8⟩
  | _ => cases hb

/-- An entry at a world in which its own block, and all that nobody writes, is as it was. -/
theorem EntOk.mono {c : Cfg TB} {G G' : Nat → Prop} {w w' : World} {E E' : Env} {L L' : Store} {m : Nm} {e : Ent} (h : EntOk c G w E L m e)
    (hL : ∀ n, Al L n → Al L' n) (hE : ∀ n, Al L n → E'.nm n = E.nm n) (hw : ∀ b, G b → w'.heap[b]? = w.heap[b]?) (hg : ∀ b, G b → G' b)
    (ho : ∀ b, e.own m = some b → w'.heap[b]? = w.heap[b]? ∧ ¬ G' b) : EntOk c G' w' E' L' m e := by
  cases e with
  | rsv => trivial
  | dead => trivial
  | deep _ _ _ => trivial
  | map xs =>
    obtain ⟨h1, h2, h3, h4, es, ck, h5, h6⟩ := h
    obtain ⟨k1, k2⟩ := ho _ rfl
    exact ⟨h1, h2, k2, h4, es, ck, by rw [k1]; exact h5, h6⟩
  | box cs =>
    obtain ⟨h1, h2, h3, h4, ⟨ty, h5⟩, h6⟩ := h
    obtain ⟨k1, k2⟩ := ho _ rfl
    obtain ⟨q1, q2⟩ := wfL_ext hL hE cs h6
    exact ⟨h1, h2, k2, h4, ⟨ty, by rw [k1, q2]; exact h5⟩, q1⟩
  | row t xs =>
    obtain ⟨h1, h2, h3⟩ := h
    refine ⟨h1, h2, h3.imp id ?_⟩
    rintro ⟨h4, h5, h6, h7, arr, ty, h8, h9, h10⟩
    obtain ⟨k1, k2⟩ := ho m.blk (by simp [Ent.own, h4])
    exact ⟨h4, k2, h6, h7, arr, ty, by rw [k1]; exact h8, h9, h10.imp fun x vs hx => Rp.mono hw hg t x vs hx⟩
  | shr t xs => exact Shr.mono h (fun x vs hx => Rp.mono hw hg t x vs hx) hw hg

/-! Changes of the store. -/
def upd (L : Store) (q : Nat × Ent) : Store := match L[q.1]? with
  | some (v, _) => L.set q.1 (v + 1, q.2)
  | none => L
def updL (L : Store) (l : List (Nat × Ent)) : Store := l.foldl upd L

theorem upd_length (L : Store) (q : Nat × Ent) : (upd L q).length = L.length := by
  unfold upd; split <;> simp
theorem updL_length (L : Store) (l : List (Nat × Ent)) : (updL L l).length = L.length := by
  induction l generalizing L with
  | nil => rfl
  | cons q r ih => simp only [updL, List.foldl_cons]; exact (ih _).trans (upd_length _ _)
theorem look_lt {L : Store} {n : Nat} {e : Ent} (h : look L n = some e) : n < L.length := by
  rcases Nat.lt_or_ge n L.length with h1 | h1
  · exact h1
  · unfold look at h; rw [List.getElem?_eq_none h1] at h; cases h
theorem look_upd {L : Store} {q : Nat × Ent} (hq : q.1 < L.length) (n : Nat) : look (upd L q) n = if n = q.1 then some q.2 else look L n := by
  unfold upd
  rw [List.getElem?_eq_getElem hq]
  unfold look
  simp only [List.getElem?_set]
  by_cases h : n = q.1
  · subst h; simp [hq]
  · rw [if_neg h, if_neg (fun h' => h h'.symm)]
theorem al_upd {L : Store} {q : Nat × Ent} (hr : q.2.isRsv = false) (n : Nat) (h : Al L n) : Al (upd L q) n := by
  by_cases hq : q.1 < L.length
  · obtain ⟨e, h1, h2⟩ := h
    unfold Al
    rw [look_upd hq]
    by_cases hn : n = q.1
    · exact ⟨q.2, by simp [hn], hr⟩
    · exact ⟨e, by simp [hn, h1], h2⟩
  · unfold upd
    rw [List.getElem?_eq_none (by omega)]
    exact h

theorem Ent.ow_own {e : Ent} {E : Env} {n b : Nat} (h : e.own (E.nm n) = some b) : e.ow E n b := .inl h
theorem Ent.ow_flat {e : Ent} (hd : e.isDeep = false) {E : Env} {n b : Nat} : e.ow E n b ↔ e.own (E.nm n) = some b := by
  unfold Ent.ow; rw [hd]; simp
theorem Ent.ow_deep {t : Ty} {xss : List (List t.T)} {h : Option (Nat × Nat)} {E : Env} {n b : Nat} : (Ent.deep t xss h).ow E n b ↔ b ∈ E.ins.l n := by
  simp [Ent.ow, Ent.own, Ent.isDeep]
/-- What is owned. -/
theorem Holds.ow_ok {c : Cfg TB} {G : Nat → Prop} {w : World} {E : Env} {L : Store} (h : Holds c G w E L) {n : Nat} {e : Ent} (he : look L n = some e) {b : Nat} (hb : e.ow E n b) : ¬ G b ∧ ¬ c.Old b ∧ ∃ o, w.heap[b]? = some o := by
  rcases hb with hb | ⟨hd, hb⟩
  · obtain ⟨_, _, _, h4, h5, h6⟩ := (h.ent n e he).own_ok hb
    exact ⟨h4, h5, h6⟩
  · cases e with
    | deep t xss q =>
      obtain ⟨h1, h2, arr, ty, _, h3⟩ := (h.dp n t xss q he).all b hb
      exact ⟨h1, h2, _, h3⟩
    | _ => cases hd
theorem Holds.ow_lt {c : Cfg TB} {G : Nat → Prop} {w : World} {E : Env} {L : Store} (h : Holds c G w E L) {n : Nat} {e : Ent} (he : look L n = some e) {b : Nat} (hb : e.ow E n b) : b < w.heap.size := by
  obtain ⟨_, _, o, h6⟩ := h.ow_ok he hb
  exact blk_lt h6

/-- Nothing but marks of the world has turned. -/
theorem Holds.world {c : Cfg TB} {G : Nat → Prop} {w w' : World} {E : Env} {L : Store} (h : Holds c G w E L) (hh : w'.heap = w.heap) (hr : Rest w w') : Holds c G w' E L :=
  ⟨h.rest.trans hr, by rw [hh]; exact h.size, fun b hb => by rw [hh]; exact h.old b hb, fun b hb => by rw [hh]; exact h.gin b hb, h.glo, h.ghi,
   fun n e he => (h.ent n e he).mono (fun _ h => h) (fun _ _ => rfl) (fun b _ => by rw [hh]) (fun _ h => h) (fun b hb => ⟨by rw [hh], ((h.ent n e he).own_ok hb).2.2.2.1⟩),
   fun n t xss q he => (h.dp n t xss q he).mono (fun _ h => h) (fun _ _ => rfl) (fun b _ => by rw [hh]) (fun _ h => h) (fun b hb => ⟨by rw [hh], ((h.dp n t xss q he).all b hb).1⟩), h.inj, h.tab⟩

/-- What is owned may be written no more. -/
theorem Holds.frz {c : Cfg TB} {G : Nat → Prop} {w : World} {E : Env} {L : Store} (h : Holds c G w E L) {i : Nat} {e : Ent} {a : Ty} {ys : List a.T} (hi : look L i = some e)
    (hs : Shr (Rp (fun b => G b ∨ e.ow E i b) w a) a.sz (fun b => G b ∨ e.ow E i b) w (E.nm i) ys) : Holds c (fun b => G b ∨ e.ow E i b) w E (upd L (i, .shr a ys)) := by
  have hlt := look_lt hi
  have hl := fun n => look_upd (q := (i, Ent.shr a ys)) hlt n
  refine ⟨h.rest, h.size, h.old, ?_, fun b hb => .inl (h.glo b hb), ?_, ?_, ?_, ?_, h.tab⟩
  · rintro b (hb | hb)
    · exact h.gin b hb
    · exact h.ow_lt hi hb
  · rintro b (hb | hb)
    · exact h.ghi b hb
    · exact .inr (h.ow_ok hi hb).2.1
  · intro n f he
    rw [hl] at he
    by_cases hn : n = i
    · subst hn
      simp only [if_true, Option.some.injEq] at he
      subst he
      exact hs
    · rw [if_neg hn] at he
      refine (h.ent n f he).mono (fun k hk => al_upd rfl k hk) (fun _ _ => rfl) (fun _ _ => rfl) (fun b hb => .inl hb) (fun b hb => ⟨rfl, ?_⟩)
      rintro (hx | hx)
      · exact ((h.ent n f he).own_ok hb).2.2.2.1 hx
      · exact h.inj n i f e b hn he hi (.inl hb) hx
  · intro n t xss q he
    rw [hl] at he
    by_cases hn : n = i
    · simp only [hn, if_true, Option.some.injEq] at he; cases he
    · rw [if_neg hn] at he
      refine (h.dp n t xss q he).mono (fun k hk => al_upd rfl k hk) (fun _ _ => rfl) (fun _ _ => rfl) (fun b hb => .inl hb) (fun b hb => ⟨rfl, ?_⟩)
      rintro (hx | hx)
      · exact ((h.dp n t xss q he).all b hb).1 hx
      · exact h.inj n i _ e b hn he hi (Ent.ow_deep.2 hb) hx
  · intro n k f g b hnk hn hk hf hg
    rw [hl] at hn hk
    have hn' : n ≠ i := by
      rintro rfl
      simp only [if_true, Option.some.injEq] at hn; subst hn
      rcases hf with hf | ⟨hf, _⟩ <;> cases hf
    have hk' : k ≠ i := by
      rintro rfl
      simp only [if_true, Option.some.injEq] at hk; subst hk
      rcases hg with hg | ⟨hg, _⟩ <;> cases hg
    rw [if_neg hn'] at hn
    rw [if_neg hk'] at hk
    exact h.inj n k f g b hnk hn hk hf hg

/-- A slice of the call's own is written no more. -/
theorem Holds.freeze {c : Cfg TB} {G : Nat → Prop} {w : World} {E : Env} {L : Store} (h : Holds c G w E L) {i : Nat} {t : Ty} {xs : List t.T} (hi : look L i = some (.row t xs)) :
    Holds c (fun b => G b ∨ (Ent.row t xs).own (E.nm i) = some b) w E (upd L (i, .shr t xs)) := by
  have e1 : (fun b => G b ∨ (Ent.row t xs).ow E i b) = (fun b => G b ∨ (Ent.row t xs).own (E.nm i) = some b) := by
    funext b; rw [Ent.ow_flat rfl]
  rw [← e1]
  refine h.frz hi ?_
  rw [e1]
  obtain ⟨h1, h2, h3⟩ := h.ent i _ hi
  refine ⟨h1, own_cap (h.ent i _ hi), ?_⟩
  rcases h3 with ⟨_, h4, _⟩ | ⟨h4, h5, h6, h7, arr, ty, h8, h9, h10⟩
  · exact .inl h4
  · refine .inr ⟨h4, .inr (by simp [Ent.own, h4]), arr, ty, _, h8, ?_⟩
    exact h10.imp fun x vs hx => Rp.mono (fun _ _ => rfl) (fun b hb => .inl hb) t x vs hx

/-- A slice of slices of the call's own, read. -/
theorem DeepOk.shr {c : Cfg TB} {G G' : Nat → Prop} {w : World} {E : Env} {L : Store} {m : Nm} {l : List Nat} {t : Ty} {xss : List (List t.T)} (k : DeepOk c G w E L m l t xss none) (hr : ∀ x vs, Rp G w t x vs → Rp G' w t x vs) (hg : ∀ b ∈ l, G' b) :
    Shr (Rp G' w (.slice t)) 1 G' w m xss := by
  obtain ⟨k1, k2, k3, k4, k5⟩ := k
  rcases k5 with ⟨h1, h2, h3⟩ | ⟨h1, h2, h3, arr, ty, hs, h4, h5, h6, h7, h8, h9⟩
  · exact ⟨k1, by rw [k1, h2]; simp, .inl h2⟩
  · refine ⟨k1, by omega, .inr ⟨h1, hg _ h2, arr, ty, _, h4, ?_⟩⟩
    intro k xs hk
    have hlt : k < xss.length := by
      rcases Nat.lt_or_ge k xss.length with h' | h'
      · exact h'
      · rw [List.getElem?_eq_none h'] at hk; cases hk
    obtain ⟨q1, q2⟩ := h7 k xs hk (fun j hj => by cases hj)
    refine ⟨hs k, ?_, ?_⟩
    · have ha := h6 k hlt
      show cellsAt arr (m.off + k * 1) 1 = _
      rw [k2]
      unfold cellsAt
      apply List.ext_getElem?
      intro j
      rw [List.getElem?_take]
      cases j with
      | zero => simp [List.getElem?_drop, ha]
      | succ j => simp
    · obtain ⟨p1, p2, p3⟩ := q1
      rcases p3 with ⟨p4, p5, p6⟩ | ⟨p4, p5, arr', ty', p6, p7, p8⟩
      · exact ⟨p1, by rw [p1, p5]; simp, .inl p5⟩
      · exact ⟨p1, by omega, .inr ⟨p4, hg _ (q2 p4).1, arr', ty', _, p6, p8.imp hr⟩⟩
/-- A slice of slices of the call's own is written no more. -/
theorem Holds.freezeD {c : Cfg TB} {G : Nat → Prop} {w : World} {E : Env} {L : Store} (h : Holds c G w E L) {i : Nat} {t : Ty} {xss : List (List t.T)} (hi : look L i = some (.deep t xss none)) :
    Holds c (fun b => G b ∨ b ∈ E.ins.l i) w E (upd L (i, .shr (.slice t) xss)) := by
  have e1 : (fun b => G b ∨ (Ent.deep t xss none).ow E i b) = (fun b => G b ∨ b ∈ E.ins.l i) := by
    funext b; rw [Ent.ow_deep]
  rw [← e1]
  refine h.frz hi ?_
  rw [e1]
  exact (h.dp i t xss none hi).shr (fun x vs hx => Rp.mono (fun _ _ => rfl) (fun b hb => .inl hb) t x vs hx) (fun b hb => .inr hb)

/-- A name is used no more. -/
theorem Holds.kill {c : Cfg TB} {G : Nat → Prop} {w : World} {E : Env} {L : Store} (h : Holds c G w E L) {i : Nat} (hi : i < L.length) : Holds c G w E (upd L (i, .dead)) := by
  have hl := fun n => look_upd (q := (i, Ent.dead)) hi n
  refine ⟨h.rest, h.size, h.old, h.gin, h.glo, h.ghi, ?_, ?_, ?_, h.tab⟩
  · intro n e he
    rw [hl] at he
    by_cases hn : n = i
    · simp only [hn, if_true, Option.some.injEq] at he; subst he; trivial
    · rw [if_neg hn] at he
      exact (h.ent n e he).mono (fun k hk => al_upd rfl k hk) (fun _ _ => rfl) (fun _ _ => rfl) (fun b hb => hb) (fun b hb => ⟨rfl, ((h.ent n e he).own_ok hb).2.2.2.1⟩)
  · intro n t xss q he
    rw [hl] at he
    by_cases hn : n = i
    · simp only [hn, if_true, Option.some.injEq] at he; cases he
    · rw [if_neg hn] at he
      exact (h.dp n t xss q he).mono (fun k hk => al_upd rfl k hk) (fun _ _ => rfl) (fun _ _ => rfl) (fun b hb => hb) (fun b hb => ⟨rfl, ((h.dp n t xss q he).all b hb).1⟩)
  · intro n k e f b hnk hn hk he hf
    rw [hl] at hn hk
    have hn' : n ≠ i := by
      rintro rfl
      simp only [if_true, Option.some.injEq] at hn; subst hn
      rcases he with he | ⟨he, _⟩ <;> cases he
    have hk' : k ≠ i := by
      rintro rfl
      simp only [if_true, Option.some.injEq] at hk; subst hk
      rcases hf with hf | ⟨hf, _⟩ <;> cases hf
    rw [if_neg hn'] at hn
    rw [if_neg hk'] at hk
    exact h.inj n k e f b hnk hn hk he hf

def Env.set (E : Env) (n : Nat) (m : Nm) : Env := { E with nm := fun k => if k = n then m else E.nm k }
theorem Env.set_ne (E : Env) {n k : Nat} (m : Nm) (h : k ≠ n) : (E.set n m).nm k = E.nm k := by simp [Env.set, h]
theorem Env.set_eq (E : Env) (n : Nat) (m : Nm) : (E.set n m).nm n = m := by simp [Env.set]
/-- A name, and the blocks that it owns. -/
def Env.setD (E : Env) (n : Nat) (m : Nm) (l : List Nat) : Env := { E with nm := fun k => if k = n then m else E.nm k, ins := ⟨fun k => if k = n then l else E.ins.l k⟩ }
theorem Env.setD_ne (E : Env) {n k : Nat} (m : Nm) (l : List Nat) (h : k ≠ n) : (E.setD n m l).nm k = E.nm k ∧ (E.setD n m l).ins.l k = E.ins.l k := by simp [Env.setD, h]
theorem Env.setD_eq (E : Env) (n : Nat) (m : Nm) (l : List Nat) : (E.setD n m l).nm n = m ∧ (E.setD n m l).ins.l n = l := by simp [Env.setD]

/-- A reserved name is not in use. -/
theorem not_al {L : Store} {n : Nat} (h : look L n = some .rsv) : ¬ Al L n := by
  rintro ⟨e, h1, h2⟩
  rw [h] at h1; simp only [Option.some.injEq] at h1; subst h1; cases h2

/-- The same, of any entry. -/
theorem Holds.changeE {c : Cfg TB} {G : Nat → Prop} {w w' : World} {E E' : Env} {L : Store} (h : Holds c G w E L) {i : Nat} {e' : Ent} (hi : i < L.length)
    (hr : Rest w w') (hs : w.heap.size ≤ w'.heap.size)
    (hE : Al L i → E'.nm i = E.nm i) (hEo : ∀ k, k ≠ i → E'.nm k = E.nm k ∧ E'.ins.l k = E.ins.l k) (hne : e'.isRsv = false)
    (hw : ∀ b, b < w.heap.size → ¬ e'.ow E' i b → w'.heap[b]? = w.heap[b]?)
    (hold : ∀ b, e'.ow E' i b → ¬ c.Old b ∧ ¬ G b)
    (hown : ∀ k f, k ≠ i → look L k = some f → ∀ b, f.ow E k b → ¬ e'.ow E' i b)
    (hok : EntOk c G w' E' (upd L (i, e')) (E'.nm i) e') (hdp : ∀ t xss q, e' = .deep t xss q → DeepOk c G w' E' (upd L (i, e')) (E'.nm i) (E'.ins.l i) t xss q) : Holds c G w' E' (upd L (i, e')) := by
  have hl := fun n => look_upd (q := (i, e')) hi n
  have hEn : ∀ n, Al L n → E'.nm n = E.nm n := by
    intro n hn
    by_cases hni : n = i
    · subst hni; exact hE hn
    · exact (hEo n hni).1
  have how : ∀ k (f : Ent) b, k ≠ i → f.ow E' k b → f.ow E k b := by
    intro k f b hk hb
    unfold Ent.ow at hb ⊢
    rw [(hEo k hk).1, (hEo k hk).2] at hb
    exact hb
  have hG : ∀ b, G b → w'.heap[b]? = w.heap[b]? := fun b hb => hw b (h.gin b hb) (fun ho => (hold b ho).2 hb)
  refine ⟨h.rest.trans hr, Nat.le_trans h.size hs, ?_, fun b hb => Nat.lt_of_lt_of_le (h.gin b hb) hs, h.glo, h.ghi, ?_, ?_, ?_, h.tab⟩
  · intro b hb
    rw [hw b (Nat.lt_of_lt_of_le hb.1 h.size) (fun ho => (hold b ho).1 hb)]
    exact h.old b hb
  · intro n e he
    rw [hl] at he
    by_cases hn : n = i
    · subst hn
      simp only [if_true, Option.some.injEq] at he; subst he
      exact hok
    · rw [if_neg hn] at he
      rw [(hEo n hn).1]
      refine (h.ent n e he).mono (fun k hk => al_upd hne k hk) hEn hG (fun _ hb => hb) (fun b hb => ?_)
      exact ⟨hw b (h.ow_lt he (.inl hb)) (hown n e hn he b (.inl hb)), (h.ow_ok he (.inl hb)).1⟩
  · intro n t xss q he
    rw [hl] at he
    by_cases hn : n = i
    · subst hn
      simp only [if_true, Option.some.injEq] at he; subst he
      exact hdp _ _ _ rfl
    · rw [if_neg hn] at he
      rw [(hEo n hn).1, (hEo n hn).2]
      refine (h.dp n t xss q he).mono (fun k hk => al_upd hne k hk) hEn hG (fun _ hb => hb) (fun b hb => ?_)
      exact ⟨hw b (h.ow_lt he (Ent.ow_deep.2 hb)) (hown n _ hn he b (Ent.ow_deep.2 hb)), (h.ow_ok he (Ent.ow_deep.2 hb)).1⟩
  · intro n k e f b hnk hn hk he hf
    rw [hl] at hn hk
    by_cases hni : n = i
    · subst hni
      simp only [if_true, Option.some.injEq] at hn; subst hn
      rw [if_neg (fun h => hnk h.symm)] at hk
      exact hown k f (fun h => hnk h.symm) hk b (how k f b (fun h => hnk h.symm) hf) he
    · rw [if_neg hni] at hn
      by_cases hki : k = i
      · subst hki
        simp only [if_true, Option.some.injEq] at hk; subst hk
        exact hown n e hni hn b (how n e b hni he) hf
      · rw [if_neg hki] at hk
        exact h.inj n k e f b hnk hn hk (how n e b hni he) (how k f b hki hf)

/-- A world that turned in one block of its own at most, and a name that stands for something else now. -/
theorem Holds.change {c : Cfg TB} {G : Nat → Prop} {w w' : World} {E : Env} {L : Store} (h : Holds c G w E L) {i : Nat} {e' : Ent} {m : Nm} (hi : i < L.length)
    (hr : Rest w w') (hs : w.heap.size ≤ w'.heap.size)
    (hE : Al L i → m = E.nm i) (hne : e'.isRsv = false)
    (hw : ∀ b, b < w.heap.size → e'.own m ≠ some b → w'.heap[b]? = w.heap[b]?)
    (hold : ∀ b, e'.own m = some b → ¬ c.Old b ∧ ¬ G b)
    (hown : ∀ k f, k ≠ i → look L k = some f → ∀ b, f.ow E k b → e'.own m ≠ some b)
    (hok : Holds c G w E L → EntOk c G w' (E.set i m) (upd L (i, e')) m e') (hd : e'.isDeep = false := by rfl) : Holds c G w' (E.set i m) (upd L (i, e')) := by
  have e1 : ∀ b, e'.ow (E.set i m) i b ↔ e'.own m = some b := fun b => by rw [Ent.ow_flat hd, Env.set_eq]
  refine h.changeE hi hr hs (fun ha => by rw [Env.set_eq]; exact hE ha) (fun k hk => ⟨E.set_ne m hk, rfl⟩) hne (fun b hb ho => hw b hb (fun hx => ho ((e1 b).2 hx))) (fun b hb => hold b ((e1 b).1 hb))
    (fun k f hk hf b hb ho => hown k f hk hf b hb ((e1 b).1 ho)) (by rw [Env.set_eq]; exact hok h) (fun t xss q he => by subst he; cases hd)

theorem Holds.changeL {c : Cfg TB} {G : Nat → Prop} {w w' : World} {E : Env} {L : Store} (h : Holds c G w E L) {i : Nat} {e' : Ent} {m : Nm} (l : List Nat) (hi : i < L.length)
    (hr : Rest w w') (hs : w.heap.size ≤ w'.heap.size)
    (hE : Al L i → m = E.nm i) (hne : e'.isRsv = false)
    (hw : ∀ b, b < w.heap.size → e'.own m ≠ some b → w'.heap[b]? = w.heap[b]?)
    (hold : ∀ b, e'.own m = some b → ¬ c.Old b ∧ ¬ G b)
    (hown : ∀ k f, k ≠ i → look L k = some f → ∀ b, f.ow E k b → e'.own m ≠ some b)
    (hok : Holds c G w E L → EntOk c G w' (E.setD i m l) (upd L (i, e')) m e') (hd : e'.isDeep = false := by rfl) : Holds c G w' (E.setD i m l) (upd L (i, e')) := by
  have e1 : ∀ b, e'.ow (E.setD i m l) i b ↔ e'.own m = some b := fun b => by rw [Ent.ow_flat hd, (E.setD_eq i m l).1]
  refine h.changeE hi hr hs (fun ha => by rw [(E.setD_eq i m l).1]; exact hE ha) (fun k hk => E.setD_ne m l hk) hne (fun b hb ho => hw b hb (fun hx => ho ((e1 b).2 hx))) (fun b hb => hold b ((e1 b).1 hb))
    (fun k f hk hf b hb ho => hown k f hk hf b hb ((e1 b).1 ho)) (by rw [(E.setD_eq i m l).1]; exact hok h) (fun t xss q he => by subst he; cases hd)

end Go.V3
