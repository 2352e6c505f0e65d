/-
  Part Q: code, reckoned; and what a loop carries.
-/
import Derived.Test.YtmcahbbelnjhiaaDoorV3P
import Derived.LoopN
set_option linter.unusedVariables false
namespace Go.V3
open Go
variable {TB : Tb}

/-! Loops. -/
def iterN {σ β : Type} (f : σ → Option (σ ⊕ β)) : Nat → σ → Option β
  | 0, _ => none
  | n + 1, s => match f s with
    | none => none
    | some (.inl s') => iterN f n s'
    | some (.inr b) => some b
open Classical in
/-- What a loop comes to, if it ends. -/
noncomputable def loopO {σ β : Type} (f : σ → Option (σ ⊕ β)) (s : σ) : Option β :=
  if h : ∃ b, ∃ n, iterN f n s = some b then some h.choose else none
theorem iterN_succ {σ β : Type} {f : σ → Option (σ ⊕ β)} : ∀ {n : Nat} {s : σ} {b : β}, iterN f n s = some b → iterN f (n + 1) s = some b
  | 0, s, b, h => by cases h
  | n + 1, s, b, h => by
    rw [iterN] at h ⊢
    split
    · rename_i hf; rw [hf] at h; cases h
    · rename_i s' hf; rw [hf] at h; exact iterN_succ h
    · rename_i b' hf; rw [hf] at h; exact h
theorem iterN_le {σ β : Type} {f : σ → Option (σ ⊕ β)} {n m : Nat} {s : σ} {b : β} (h : iterN f n s = some b) (hm : n ≤ m) : iterN f m s = some b := by
  induction hm with
  | refl => exact h
  | step _ ih => exact iterN_succ ih
theorem loopO_spec {σ β : Type} {f : σ → Option (σ ⊕ β)} {s : σ} {b : β} : loopO f s = some b ↔ ∃ n, iterN f n s = some b := by
  unfold loopO
  constructor
  · intro h
    split at h
    · rename_i hx
      simp only [Option.some.injEq] at h
      rw [← h]; exact hx.choose_spec
    · cases h
  · rintro ⟨n, hn⟩
    have hx : ∃ b, ∃ n, iterN f n s = some b := ⟨b, n, hn⟩
    rw [dif_pos hx]
    obtain ⟨m, hm⟩ := hx.choose_spec
    have h1 := iterN_le hn (Nat.le_max_left n m)
    have h2 := iterN_le hm (Nat.le_max_right n m)
    rw [h1] at h2
    exact h2.symm
theorem loopO_eq {σ β : Type} (f : σ → Option (σ ⊕ β)) (s : σ) : loopO f s = match f s with
    | none => none
    | some (.inl s') => loopO f s'
    | some (.inr b) => some b := by
  have key : ∀ b, loopO f s = some b ↔ (match f s with
    | none => none
    | some (.inl s') => loopO f s'
    | some (.inr b) => some b) = some b := by
    intro b
    rw [loopO_spec]
    constructor
    · rintro ⟨n, hn⟩
      cases n with
      | zero => cases hn
      | succ n =>
        rw [iterN] at hn
        split at hn
        · cases hn
        · rename_i s' hf
          first | exact loopO_spec.2 ⟨n, hn⟩ | (rw [hf]; exact loopO_spec.2 ⟨n, hn⟩)
        · rename_i b' hf
          first | exact hn | (rw [hf]; exact hn)
    · intro h
      split at h
      · cases h
      · rename_i s' hf
        obtain ⟨n, hn⟩ := loopO_spec.1 h
        exact ⟨n + 1, by rw [iterN, hf]; exact hn⟩
      · rename_i b' hf
        exact ⟨1, by rw [iterN, hf]; exact h⟩
  cases h1 : loopO f s with
  | some b => exact ((key b).1 h1).symm
  | none =>
    cases h2 : (match f s with
    | none => none
    | some (.inl s') => loopO f s'
    | some (.inr b) => some b : Option β) with
    | none => rfl
    | some b => rw [(key b).2 h2] at h1; cases h1

def writes : Code → List Nat
  | .region _ ops _ => ops.toList.filterMap (·.dst)
  | .seq a b => writes a ++ writes b
  | .cond _ a b => writes a ++ writes b
  | .block _ c => writes c
  | .loop c => writes c
  | .scope c => writes c
  | _ => []

def HT.app : (as bs : List CT) → HT as → HT bs → HT (as ++ bs)
  | [], _, _, y => y
  | [_], bs, x, y => HT.mk _ bs x y
  | _ :: d :: r, bs, x, y => (x.1, HT.app (d :: r) bs x.2 y)
theorem HT.left_app : ∀ (as bs : List CT) (x : HT as) (y : HT bs), HT.left as bs (HT.app as bs x y) = x
  | [], _, _, _ => rfl
  | [c], bs, x, y => HT.hd_mk c bs x y
  | c :: d :: r, bs, x, y => by
    show (x.1, HT.left (d :: r) bs (HT.app (d :: r) bs x.2 y)) = x
    rw [HT.left_app (d :: r) bs x.2 y]
theorem HT.right_app : ∀ (as bs : List CT) (x : HT as) (y : HT bs), HT.right as bs (HT.app as bs x y) = y
  | [], _, _, _ => rfl
  | [c], bs, x, y => HT.tl_mk c bs x y
  | c :: d :: r, bs, x, y => by
    show HT.right (d :: r) bs (HT.app (d :: r) bs x.2 y) = y
    exact HT.right_app (d :: r) bs x.2 y

def rowCT (a : Ty) : CT := ⟨.slice a, false, true, false⟩
@[reducible] def Ann.csA (ann : Ann) : List CT := ann.live.map (·.2) ++ ann.boxes.map (·.2)
@[reducible] def Ann.csR (ann : Ann) : List CT := ann.rows.map fun q => rowCT q.2
abbrev Ann.T (ann : Ann) : Type := HT (ann.csA ++ ann.csR)

def boxCells (lkp : Nat → Option Ent) : List (Nat × CT) → Option (List SV)
  | [] => some []
  | (n, c) :: r => match lkp n with
    | some (.box cs) => (match boxCells lkp r with
      | some l => (match c.agg with
        | true => some (.agg cs :: l)
        | false => (match cs with
          | [v] => some (v :: l)
          | _ => none))
      | none => none)
    | _ => none
def packR (lkp : Nat → Option Ent) : (rows : List (Nat × Ty)) → Option (HT (rows.map fun q => rowCT q.2))
  | [] => some ()
  | (n, a) :: r => match lkp n with
    | some (.row t xs) => if h : t = a then (if a.isSl = true then none else match packR lkp r with
      | some y => some (HT.mk (rowCT a) (r.map fun q => rowCT q.2) (castL h xs) y)
      | none => none) else none
    | some (.deep t xss none) => if h : Ty.slice t = a then (match packR lkp r with
      | some y => some (HT.mk (rowCT a) (r.map fun q => rowCT q.2) (castL h xss) y)
      | none => none) else none
    | some (.map xs) => if h : Ty.kv = a then (match packR lkp r with
      | some y => some (HT.mk (rowCT a) (r.map fun q => rowCT q.2) (castL h xs) y)
      | none => none) else none
    | _ => none

def ver (L : Store) (n : Nat) : Nat := match L[n]? with
  | some q => q.1
  | none => 0
def isRsv (L : Store) (n : Nat) : Bool := match look L n with
  | some .rsv => true
  | _ => false
def inUse (L : Store) (n : Nat) : Bool := match look L n with
  | some e => !e.isRsv
  | none => false
/-- The names that a loop or a join sets. -/
def Ann.sets (ann : Ann) : List Nat := ann.lost ++ (List.range (cnts ann.csA)).map (fun k => ann.base + k) ++ ann.boxes.map (·.1) ++ ann.rows.map (·.1)
def okSt (ann : Ann) (L0 L : Store) (on : List Nat) (fz : Ups) : Bool :=
  decide ann.sets.Nodup && (List.range (cnts ann.csA)).all (fun k => isRsv L0 (ann.base + k)) && (ann.boxes.map (·.1) ++ ann.rows.map (·.1) ++ ann.lost).all (fun n => inUse L0 n) &&
  (ann.boxes.map (·.1) ++ ann.rows.map (·.1)).all (fun n => !on.contains n && !(fz.map (·.1)).contains n) &&
  (List.range L0.length).all (fun n => isRsv L0 n || ann.sets.contains n || (ver L0 n == ver L n && !on.contains n && !(fz.map (·.1)).contains n)) &&
  ann.csA.all (fun c => !c.ptr)

def packSt (ann : Ann) (L0 : Store) (fr : List SV) (L : Store) : Option ann.T :=
  match boxCells (look L) ann.boxes with
  | none => none
  | some bs => match packA .frz (look L) ann.csA (ann.live.map (fun q => fr.getD q.1 undefV) ++ bs) with
    | none => none
    | some a => match packR (look L) ann.rows with
      | none => none
      | some y => match okA a && okSt ann L0 L a.on a.fz && ann.live.all (fun q => !isUnk (fr.getD q.1 undefV)) with
        | true => some (HT.app ann.csA ann.csR a.x y)
        | false => none

def entsL : (cs : List CT) → HT cs → List Ent
  | [], _ => []
  | c :: r, x => ents c.own c.t (HT.hd c r x) ++ entsL r (HT.tl c r x)
def boxUps : List (Nat × CT) → List SV → Ups
  | (n, _) :: r, v :: vs => (n, .box (cellsV v)) :: boxUps r vs
  | _, _ => []
def rowUps : (rows : List (Nat × Ty)) → HT (rows.map fun q => rowCT q.2) → Ups
  | [], _ => []
  | (n, a) :: r, x => (n, ownEnt a (HT.hd (rowCT a) (r.map fun q => rowCT q.2) x)) :: rowUps r (HT.tl (rowCT a) (r.map fun q => rowCT q.2) x)
def Ann.svs (ann : Ann) (s : ann.T) : List SV := outSVs ann.csA (HT.left ann.csA ann.csR s) ann.base
def hdUps (ann : Ann) (s : ann.T) : Ups :=
  ann.lost.map (fun n => (n, .dead)) ++ (nameFrom ann.base (entsL ann.csA (HT.left ann.csA ann.csR s)) ++ (boxUps ann.boxes ((ann.svs s).drop ann.live.length) ++ rowUps ann.rows (HT.right ann.csA ann.csR s)))
def setAll (fr : List SV) : List (Nat × SV) → List SV
  | [] => fr
  | (t, v) :: r => setAll (fr.set t v) r
def hdFr (ann : Ann) (fr : List SV) (s : ann.T) : List SV := setAll (setAll fr (ann.dead.map fun t => (t, .unk t))) ((ann.live.map (·.1)).zip (ann.svs s))
def wrOk (ann : Ann) (ws : List Nat) : Bool := ws.all (fun t => (ann.live.map (·.1)).contains t || ann.dead.contains t) && (ann.live.map (·.1)).all ws.contains && ann.dead.all ws.contains && decide (ann.live.map (·.1) ++ ann.dead).Nodup

def firstId : Code → Option Nat
  | .region id _ _ => some id
  | .seq a b => (match firstId a with
    | some i => some i
    | none => firstId b)
  | .cond _ a b => (match firstId a with
    | some i => some i
    | none => firstId b)
  | .block _ c => firstId c
  | .loop c => firstId c
  | .scope c => firstId c
  | _ => none
def joinAt (cx : Cx) (b : Code) : Option Ann := match firstId b with
  | some i => lk cx.joins i
  | none => none

/-- Slices that were taken out of slices of slices come back. -/
def closeN (L : Store) (n : Nat) : Store := match look L n with
  | some (.deep t xss h) => (match closeD (look L) n t xss h with
    | some (_, u) => updL L u
    | none => L)
  | _ => L
def closeRs : List (Nat × Ty) → Store → Store
  | [], L => L
  | q :: r, L => closeRs r (closeN L q.1)
/-- Before a region: a slice is taken out of a slice of slices. -/
def openE {α : Type} (cx : Cx) (id : Nat) (fr : List SV) (L : Store) (K : Store → Option α) : Option α := match lk cx.opens id with
  | none => K L
  | some (s, t, bs) => (match fr.getD s undefV, idxOf (fr.getD t undefV) with
    | .slw i, some n => (match look L i with
      | some (.deep a xss h) => (match newOk (look L) bs 1 with
        | true => (match closeD (look L) i a xss h with
          | some (ys, u) => if 0 ≤ n ∧ n < (ys.length : Int) then K (updL L (u ++ [(bs, .dead), (i, .deep a ys (some (n.toNat, bs))), (bs, .row a (ys.getD n.toNat []))])) else none
          | none => none)
        | false => none)
      | _ => none)
    | _, _ => none)
noncomputable def rk (P : Program) (cx : Cx) : Code → (α : Type) → Nat → (Exit → List SV → Store → Option α) → List SV → Store → Option α
  | .skip, _, _, K, fr, L => K .normal fr L
  | .label _, _, _, K, fr, L => K .normal fr L
  | .ret, _, _, K, fr, L => K .ret fr L
  | .exit id, _, _, K, fr, L => K (.exit id) fr L
  | .region id ops draw, _, _, K, fr, L => openE cx id fr L (fun L => match draw with
    | true => (match topoB ops.toList ops.toList 0 && P.follows .mixedOrders with
      | true => rkDs P cx ops.toList ops.toList 0 [] fr L (fun fr' L' => K .normal fr' L')
      | false => none)
    | false => rkOps P cx ops.toList ops.toList 0 fr L (fun fr' L' => K .normal fr' L'))
  | .seq a b, α, bid, K, fr, L => (match joinAt cx b with
    | none => rk P cx a α bid (fun e fr' L' => match e with
      | .normal => rk P cx b α bid K fr' L'
      | e => K e fr' L') fr L
    | some ann => (match wrOk ann (writes a) with
      | true => (rk P cx a (ann.T ⊕ α) bid (fun e fr' L' => match e with
        | .normal => (packSt ann (closeRs ann.rows L) fr' (closeRs ann.rows L')).map Sum.inl
        | e => (K e fr' L').map Sum.inr) fr (closeRs ann.rows L)).bind (fun r => match r with
          | .inl s => rk P cx b α bid K (hdFr ann fr s) (updL (closeRs ann.rows L) (hdUps ann s))
          | .inr b => some b)
      | false => none))
  | .cond c x y, α, bid, K, fr, L => (match ev fr c with
    | .blit b => (match b with
      | true => rk P cx x α bid K fr L
      | false => rk P cx y α bid K fr L)
    | .bool b => if b = true then rk P cx x α bid K fr L else rk P cx y α bid K fr L
    | .prop p d => @ite _ p d (rk P cx x α bid K fr L) (rk P cx y α bid K fr L)
    | _ => none)
  | .block id c, α, _, K, fr, L => rk P cx c α id (fun e fr' L' => match e with
    | .exit i => if i = id then K .normal fr' L' else K (.exit i) fr' L'
    | e => K e fr' L') fr L
  | .scope c, α, bid, K, fr, L => rk P cx c α bid (fun e fr' L' => match e with
    | .goto _ => none
    | e => K e fr' L') fr L
  | .loop c, α, bid, K, fr, L => (match lk cx.loops bid with
    | none => none
    | some ann => (match wrOk ann (writes c) with
      | true => (match packSt ann (closeRs ann.rows L) fr (closeRs ann.rows L) with
        | none => none
        | some s0 => loopO (fun s => rk P cx c (ann.T ⊕ α) bid (fun e fr' L' => match e with
          | .normal => (packSt ann (closeRs ann.rows L) fr' (closeRs ann.rows L')).map Sum.inl
          | e => (K e fr' L').map Sum.inr) (hdFr ann fr s) (updL (closeRs ann.rows L) (hdUps ann s))) s0)
      | false => none))
  | _, _, _, _, _, _ => none

end Go.V3
