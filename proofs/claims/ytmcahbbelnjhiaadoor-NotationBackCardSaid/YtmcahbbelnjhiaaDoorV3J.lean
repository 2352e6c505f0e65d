/-
  Part J: one operation, reckoned.
-/
import Derived.Test.YtmcahbbelnjhiaaDoorV3I
set_option linter.unusedVariables false
namespace Go.V3
open Go
variable {TB : Tb}

/-- What a walk is told. -/
structure Ann where
  live : List (Nat × CT)
  boxes : List (Nat × CT)
  rows : List (Nat × Ty)
  dead : List Nat
  lost : List Nat
  base : Nat
/-- Functions that the machine itself gives. -/
inductive Xt where
  | f64bits
  | f64from
def Xt.sem : Xt → Array Value → Sem Value
  | .f64bits => Extern.MathFloatBits.float64bits
  | .f64from => Extern.MathFloatBits.float64frombits
def xtE (e : Xt) (args : List SV) : Pu :=
  match e, args with
  | .f64bits, [.nf o _] => chk (o.isSome = true ∧ o.getD 0 < 18446744073709551616) (.u64 (BitVec.ofNat 64 (o.getD 0)))
  | .f64bits, [.flt b] => chk (b < 18446744073709551616) (.u64 (BitVec.ofNat 64 b))
  | .f64from, [.u64 x] => val (.flt x.toNat)
  | _, _ => none
structure Cx where
  nm : List (Nat × Nat × Nat)
  keep : List Nat
  fns : FuncId → Option FnI
  loops : List (Nat × Ann)
  joins : List (Nat × Ann)
  tb : Tb
  exts : List (Nat × Xt)
  lets : List Nat
  frzs : List Nat := []
  shal : List Nat := []
  opens : List (Nat × (Nat × Nat × Nat)) := []
/-- A value with a name of its own in what is printed. -/
def letv {β α : Type} (x : β) (K : β → Option α) : Option α := K x
def letK {α : Type} (b : Bool) (v : SV) (K : SV → Option α) : Option α := match b, v with
  | true, .u64 x => letv x fun x => K (.u64 x)
  | true, .int k n => letv n fun n => K (.int k n)
  | _, v => K v
theorem letK_eq {α : Type} (b : Bool) (v : SV) (K : SV → Option α) : letK b v K = K v := by
  unfold letK letv; split <;> rfl
def Cx.letd (cx : Cx) : Option Tmp → Bool
  | some d => cx.lets.contains d
  | none => false
def Cx.deepd (cx : Cx) : Option Tmp → Bool
  | some d => !cx.shal.contains d
  | none => true
def Cx.frzd (cx : Cx) : Option Tmp → Bool
  | some d => cx.frzs.contains d
  | none => false
/-- The cell of a table of numbers. -/
def tget (arr : Array Value) (k : Nat) : Int := match arr[k]? with
  | some (.int _ n) => n
  | _ => 0
def intsB (k : IntKind) : List Value → Bool
  | [] => true
  | .int k' _ :: r => decide (k = k') && intsB k r
  | _ :: _ => false
def lk {α : Type} (l : List (Nat × α)) (k : Nat) : Option α :=
  match l with
  | [] => none
  | (a, b) :: r => if a = k then some b else lk r k
def Cx.rng (cx : Cx) : Option Tmp → Nat × Nat
  | some d => (match lk cx.nm d with
    | some q => q
    | none => (0, 0))
  | none => (0, 0)
def Cx.base (cx : Cx) (d : Option Tmp) : Nat := (cx.rng d).1
def Cx.keeps (cx : Cx) : Option Tmp → Bool
  | some d => cx.keep.contains d
  | none => false

def tyL : List (Option Ty) → Option Ty
  | [] => none
  | [x] => x
  | x :: r => match x, tyL r with
    | some a, some b => some (.pair a b)
    | _, _ => none
def tyOf (P : Program) : Nat → TypeId → Option Ty
  | 0, _ => none
  | n + 1, t => match P.underlying t with
    | some (.int k) => some (match k with | .u64 => .u64 | k => .int k)
    | some .bool => some .bool
    | some .string => some .str
    | some (.float .f64) => some .flt
    | some (.slice e) => (match tyOf P n e with | some a => some (.slice a) | none => none)
    | some (.struct fs) => tyL (fs.toList.map fun f => tyOf P n f.type)
    | _ => none
def noNames : Nat → Option Ent := fun _ => none
/-- A type's zero. -/
def zeroT (P : Program) (e : TypeId) (a : Ty) : Option a.T := match zeroE P e with
  | some z => (match packC .lend noNames a z with
    | some (v, [], _, _) => some v
    | _ => none)
  | none => none

/-- Maps of numbers to truths. -/
def mget : List (Int × Bool) → Int → Option Bool
  | [], _ => none
  | (a, b) :: r, k => if k = a then some b else mget r k
def mset : List (Int × Bool) → Int → Bool → List (Int × Bool)
  | [], k, v => [(k, v)]
  | (a, b) :: r, k, v => if k = a then (k, v) :: r else (a, b) :: mset r k v
def isMapT (P : Program) (t : TypeId) : Bool := match P.underlying t with
  | some (.map k e) => (match P.underlying k, P.info? e with
    | some (.int _), some q => (match q.zero with
      | some (.bool false) => true
      | _ => false)
    | _, _ => false)
  | _ => false
def fin (keep : Bool) (bs : Nat) (a : Ty) (xs : List a.T) : Ups := (bs, .row a xs) :: (match keep with
  | true => []
  | false => [(bs, .shr a xs)])

section
variable (P : Program) (cx : Cx) (lkp : Nat → Option Ent) {α : Type}

def loadEl (agg : Bool) (n : Nat) (a : Ty) (xs : List a.T) (k sz off bs : Nat) (K : SV → Ups → Option α) : Option α :=
  if sz = a.sz ∧ off + n ≤ a.sz ∧ newOk lkp bs a.nsl = true then (match agg with
    | true => K (.agg (((unp a (gd a xs k) bs).drop off).take n)) (nameFrom bs (ents false a (gd a xs k)))
    | false => (match (unp a (gd a xs k) bs)[off]? with
      | some v => K v (nameFrom bs (ents false a (gd a xs k)))
      | none => none)) else none

/-- The slice that was taken out of a slice of slices comes back. -/
def closeD (i : Nat) (t : Ty) (xss : List (List t.T)) (h : Option (Nat × Nat)) : Option (List (List t.T) × Ups) :=
  match h with
  | none => some (xss, [])
  | some (k, j) => (match lkp j with
    | some (.row t' ys) => if he : t' = t then some (xss.set k (castL he ys), [(j, .dead), (i, .deep t (xss.set k (castL he ys)) none)]) else none
    | _ => none)

/-- A slice is taken out of a slice of slices, or is looked at again. -/
def takeE (deep : Bool) (t : Ty) (xss : List (List t.T)) (h : Option (Nat × Nat)) (i k sz off bs : Nat) (K : SV → Ups → Option α) : Option α :=
  if sz = 1 ∧ off = 0 then (match newOk lkp bs 1 && (deep || h.isNone) with
    | true => (match closeD lkp i t xss h with
      | some (ys, u) => K (.slw bs) (u ++ [(bs, .dead), (i, .deep t ys (some (k, bs))), (bs, .row t (ys.getD k []))])
      | none => none)
    | false => (match h with
      | some (k0, j) => if k = k0 then K (.slw j) [] else none
      | none => none)) else none

def loadE (deep : Bool) (t : TypeId) (x : SV) (bs : Nat) (K : SV → Ups → Option α) : Option α :=
  match P.info? t, P.underlying t with
  | some q, some _ => (match x with
    | .loc i off => (match lkp i with
      | some (.box cs) => (match isAggT P t with
        | true => if off + q.size ≤ cs.length then K (.agg ((cs.drop off).take q.size)) [] else none
        | false => (match cs[off]? with
          | some v => K v []
          | none => none))
      | _ => none)
    | .el i k sz off => (match lkp i with
      | some (.row a xs) => loadEl lkp (isAggT P t) q.size a xs k sz off bs K
      | some (.shr a xs) => loadEl lkp (isAggT P t) q.size a xs k sz off bs K
      | some (.deep a xss h) => (match isAggT P t with
        | true => none
        | false => takeE lkp deep a xss h i k sz off bs K)
      | _ => none)
    | _ => none)
  | _, _ => none

/-- A cell of a table is read. -/
def loadT (t : TypeId) (g off : Nat) (K : SV → Ups → Option α) : Option α :=
  match lk cx.tb g, P.underlying t, P.info? t with
  | some arr, some (.int k), some _ => (match k with
    | .u64 => none
    | k => if intsB k arr.toList = true then (if off < arr.size then K (.int k (tget arr off)) [] else none) else none)
  | _, _, _ => none

def flatB : SV → Bool
  | .agg _ => false
  | .tup _ => false
  | .raw (.agg _) => false
  | .raw (.tuple _) => false
  | .unk _ => false
  | _ => true

def storeEl (n : Nat) (a : Ty) (xs : List a.T) (i k sz off : Nat) (v : SV) (K : SV → Ups → Option α) : Option α :=
  if sz = a.sz ∧ off + n ≤ a.sz ∧ (cellsV v).length = n ∧ isRawAgg v = false then
    (if off = 0 ∧ n = a.sz then (match packC .frz lkp a (cellsV v) with
      | some (y, [], _, u) => (match u.all (fun q => !(q.1 == i)) with
        | true => K undefV (u ++ [(i, .row a (xs.set k y))])
        | false => none)
      | _ => none)
    else if a.nsl = 0 then (match packC .lend noNames a (splice (unp a (gd a xs k) 0) off (cellsV v)) with
      | some (y, [], _, _) => K undefV [(i, .row a (xs.set k y))]
      | _ => none)
    else none)
  else none

def packL (a : Ty) : Nat → List SV → Option (List a.T × Ups)
  | 0, [] => some ([], [])
  | 0, _ :: _ => none
  | n + 1, cs => match packC .frz lkp a cs with
    | some (x, r, _, u) => (match packL a n r with
      | some (xs, u') => some (x :: xs, u ++ u')
      | none => none)
    | none => none

/-- A whole array is stored. -/
def storeArr (n len : Nat) (a : Ty) (xs : List a.T) (i k off : Nat) (v : SV) (K : SV → Ups → Option α) : Option α :=
  if k = 0 ∧ off = 0 ∧ a.nsl = 0 ∧ (cellsV v).length = n ∧ (cellsV v).all flatB = true ∧ isRawAgg v = false then
    (match packL noNames a len (cellsV v) with
    | some (ys, _) => if xs.length = len then K undefV [(i, .row a ys)] else none
    | none => none)
  else none

/-- A slice is put into a slice of slices. -/
def storeD (n : Nat) (t : Ty) (xss : List (List t.T)) (h : Option (Nat × Nat)) (i k sz off : Nat) (v : SV) (K : SV → Ups → Option α) : Option α :=
  if n = 1 ∧ sz = 1 ∧ off = 0 then (match v with
    | .slw j => (match lkp j with
      | some (.row t' ys) => if he : t' = t then (match h with
        | none => K undefV [(j, .dead), (i, .deep t (xss.set k (castL he ys)) none)]
        | some (k0, _) => if k = k0 then K undefV [(j, .dead), (i, .deep t (xss.set k (castL he ys)) none)] else none) else none
      | _ => none)
    | _ => none) else none

def storeE (t : TypeId) (x v : SV) (K : SV → Ups → Option α) : Option α :=
  match P.info? t with
  | some q => (match x with
    | .loc i off => (match lkp i with
      | some (.box cs) => if (cellsV v).length = q.size ∧ (cellsV v).all flatB = true ∧ isRawAgg v = false ∧ off + (cellsV v).length ≤ cs.length then K undefV [(i, .box (splice cs off (cellsV v)))] else none
      | _ => none)
    | .el i k sz off => (match lkp i with
      | some (.row a xs) => (match P.underlying t with
        | some (.array len _) => storeArr q.size len a xs i k off v K
        | _ => storeEl lkp q.size a xs i k sz off v K)
      | some (.deep a xss h) => storeD lkp q.size a xss h i k sz off v K
      | _ => none)
    | _ => none)
  | none => none

def allocE (t : TypeId) (keep : Bool) (bs : Nat) (K : SV → Ups → Option α) : Option α :=
  match zeroE P t with
  | some z => if newOk lkp bs 1 = true then (match P.underlying t with
    | some (.array len e) => (match tyOf P 8 e, P.info? e with
      | some a, some q => if q.size = a.sz ∧ a.nsl = 0 ∧ 0 < len then (match packL noNames a len z with
        | some (xs, _) => K (.el bs 0 a.sz 0) (fin keep bs a xs)
        | none => none) else none
      | _, _ => none)
    | _ => if noRawAgg (z.map fun v => (0, v)) = true then K (.loc bs 0) [(bs, .box z)] else none) else none
  | none => none

def boxE (x : SV) (bs : Nat) (K : SV → Ups → Option α) : Option α :=
  if isRawAgg x = false ∧ newOk lkp bs 1 = true then K (.loc bs 0) [(bs, .box (cellsV x))] else none

def buildSliceE (t : TypeId) (len : Nat) (parts : List (Nat × SV)) (keep : Bool) (bs : Nat) (K : SV → Ups → Option α) : Option α :=
  match P.underlying t with
  | some (.slice e) => (match P.info? e, zeroE P e, tyOf P 8 e with
    | some q, some z, some a =>
      if z.length = q.size ∧ q.size = a.sz ∧ len * q.size ≤ 16777216 ∧ noRawAgg parts = true ∧ newOk lkp bs 1 = true then
        (match fillV (fun i => some (i * q.size, q.size)) (fresh z (len * q.size) q.size) parts with
        | some cs => (match packL lkp a len cs with
          | some (xs, u) => K (.slw bs) (u ++ fin keep bs a xs)
          | none => none)
        | none => none)
      else none
    | _, _, _ => none)
  | _ => none

def makeSliceE (t : TypeId) (l c : SV) (keep : Bool) (bs : Nat) (K : SV → Ups → Option α) : Option α :=
  match P.underlying t with
  | some (.slice e) => (match P.info? e, zeroE P e, tyOf P 8 e, l, c with
    | some q, some z, some a, .int _ n, .int _ m => (match packC .lend noNames a z with
      | some (zv, [], _, _) =>
        if z.length = q.size ∧ q.size = a.sz ∧ q.bytes ≠ 0 ∧ newOk lkp bs 1 = true then
          (if 0 ≤ n ∧ n ≤ m ∧ m * q.bytes ≤ 140737488355328 then K (.slw bs) (fin keep bs a (List.replicate n.toNat zv)) else none)
        else none
      | _ => none)
    | _, _, _, _, _ => none)
  | _ => none

/-- Slices of slices, all of the call's own. -/
def slOfSl (t : TypeId) : Bool := match P.underlying t with
  | some (.slice e) => (match P.underlying e with
    | some (.slice _) => true
    | _ => false)
  | _ => false
def makeD (t : TypeId) (l c : SV) (bs : Nat) (K : SV → Ups → Option α) : Option α :=
  match P.underlying t with
  | some (.slice e) => (match P.info? e, zeroE P e, tyOf P 8 e, l, c with
    | some q, some [.nils], some (.slice a), .int _ n, .int _ m =>
      if q.size = 1 ∧ q.bytes ≠ 0 ∧ newOk lkp bs 1 = true then
        (if 0 ≤ n ∧ n ≤ m ∧ m * q.bytes ≤ 140737488355328 then K (.slw bs) [(bs, .deep a (List.replicate n.toNat []) none)] else none)
      else none
    | _, _, _, _, _ => none)
  | _ => none
def buildD (t : TypeId) (len : Nat) (parts : List (Nat × SV)) (bs : Nat) (K : SV → Ups → Option α) : Option α :=
  match P.underlying t with
  | some (.slice e) => (match P.info? e, zeroE P e, tyOf P 8 e, parts with
    | some q, some [.nils], some (.slice a), [(0, .slw j)] => (match lkp j with
      | some (.row t' ys) => if he : t' = a then
        (if q.size = 1 ∧ len = 1 ∧ newOk lkp bs 1 = true then K (.slw bs) [(j, .dead), (bs, .deep a [castL he ys] none)] else none) else none
      | _ => none)
    | some q, some [.nils], some (.slice a), [(0, .nils)] => if q.size = 1 ∧ len = 1 ∧ newOk lkp bs 1 = true then K (.slw bs) [(bs, .deep a [[]] none)] else none
    | _, _, _, _ => none)
  | _ => none
def isDeepV : SV → Bool
  | .slw i => (match lkp i with
    | some (.deep _ _ _) => true
    | _ => false)
  | _ => false
def deepV (a : Ty) : SV → Option (List (List a.T) × Ups)
  | .nils => some ([], [])
  | .slw i => (match lkp i with
    | some (.deep t xss none) => if he : t = a then some (castL (congrArg Ty.slice he) xss, [(i, .dead)]) else none
    | _ => none)
  | _ => none
def finD (keep : Bool) (bs : Nat) (a : Ty) (xss : List (List a.T)) : Ups := match keep with
  | true => []
  | false => [(bs, .shr (.slice a) xss)]
def appendD (ts : List TypeId) (x y : SV) (keep : Bool) (bs : Nat) (K : SV → Ups → Option α) : Option α :=
  match ts with
  | [t0, t1] => (match P.underlying t0, P.underlying t1 with
    | some (.slice e), some (.slice _) => (match P.info? e, zeroE P e, tyOf P 8 e with
      | some q, some [.nils], some (.slice a) =>
        if q.size = 1 ∧ q.bytes ≠ 0 ∧ newOk lkp bs 1 = true then
          (match deepV lkp a x, deepV lkp a y with
          | some (xs, u1), some (ys, u2) => (match u1.all (fun q => u2.all (fun r => !(r.1 == q.1))) with
            | true => if (xs.length + ys.length) * q.bytes ≤ 140737488355328 then K (.slw bs) (u1 ++ u2 ++ [(bs, .deep a (xs ++ ys) none)] ++ finD keep bs a (xs ++ ys)) else none
            | false => none)
          | _, _ => none)
        else none
      | _, _, _ => none)
    | _, _ => none)
  | _ => none

def lenS (a : Ty) : SV → Option Nat
  | .nils => some 0
  | .slw i => (match lkp i with
    | some (.row t xs) => if t = a then some xs.length else none
    | some (.shr t xs) => if t = a then some xs.length else none
    | _ => none)
  | .sub _ _ n _ => some n
  | _ => none

/-- A slice's length, whatever its elements are. -/
def lenS' : SV → Option Nat
  | .nils => some 0
  | .slw i => (match lkp i with
    | some (.row _ xs) => some xs.length
    | some (.shr _ xs) => some xs.length
    | some (.deep _ xss _) => some xss.length
    | _ => none)
  | .sub _ _ n _ => some n
  | _ => none

def appendE (ts : List TypeId) (x y : SV) (keep : Bool) (bs : Nat) (K : SV → Ups → Option α) : Option α :=
  match ts with
  | [t0, t1] => (match P.underlying t0, P.underlying t1 with
    | some (.slice e), some (.slice _) => (match P.info? e, zeroE P e, tyOf P 8 e with
      | some q, some z, some a =>
        if z.length = q.size ∧ q.size = a.sz ∧ q.bytes ≠ 0 ∧ newOk lkp bs 1 = true then
          (match packApp lkp a x, packS (match a.nsl with | 0 => .lend | _ => .frz) lkp a y with
          | some (xs, _, u1), some (ys, ne, u2) =>
            (match u1.all (fun q => u2.all (fun r => !(r.1 == q.1))) with
            | true => if (xs.length + ys.length) * q.bytes ≤ 140737488355328 then K (.slw bs) (u2 ++ u1 ++ fin keep bs a (xs ++ ys)) else none
            | false => none)
          | _, _ => none)
        else none
      | _, _, _ => none)
    | _, _ => none)
  | _ => none

def sliceN (t : TypeId) (x : SV) (low high : Option SV) (keep : Bool) (bs : Nat) (K : SV → Ups → Option α) : Option α :=
  match P.underlying t with
  | some (.slice e) => (match P.info? e, x with
    | some q, .slw i => (match lkp i with
      | some (.row a xs) => (match keep with
        | false => if q.size = a.sz then (match bnd high xs.length, bnd low 0 with
          | some (h, hn), some (l, ln) => if Bd l h hn xs.length then K (.sub i ln (hn - ln) a.sz) [] else none
          | _, _ => none) else none
        | true => if q.size = a.sz ∧ newOk lkp bs 1 = true then (match bnd high xs.length, bnd low 0 with
          | some (h, hn), some (l, ln) => if Bd l h hn xs.length then K (.slw bs) [(i, .dead), (bs, .row a (subl xs ln (hn - ln)))] else none
          | _, _ => none) else none)
      | some (.shr a xs) => if q.size = a.sz ∧ newOk lkp bs 1 = true then (match bnd high xs.length, bnd low 0 with
        | some (h, hn), some (l, ln) => if Bd l h hn xs.length then K (.slw bs) [(bs, .shr a (subl xs ln (hn - ln)))] else none
        | _, _ => none) else none
      | _ => none)
    | _, _ => none)
  | _ => none

def indexN (t : TypeId) (x i : SV) (K : SV → Ups → Option α) : Option α :=
  match P.underlying t, idxOf i with
  | some (.slice e), some n => (match P.info? e, x with
    | some q, .slw j => (match lkp j with
      | some (.row a xs) => if q.size = a.sz then (if 0 ≤ n ∧ n < (xs.length : Int) then K (.el j n.toNat a.sz 0) [] else none) else none
      | some (.shr a xs) => if q.size = a.sz then (if 0 ≤ n ∧ n < (xs.length : Int) then K (.el j n.toNat a.sz 0) [] else none) else none
      | some (.deep _ xss _) => if q.size = 1 then (if 0 ≤ n ∧ n < (xss.length : Int) then K (.el j n.toNat 1 0) [] else none) else none
      | _ => none)
    | some q, .sub j lo len sz => (match lkp j with
      | some (.row a _) => if q.size = sz ∧ sz = a.sz then (if 0 ≤ n ∧ n < (len : Int) then K (.el j (lo + n.toNat) sz 0) [] else none) else none
      | _ => none)
    | _, _ => none)
  | some (.array len e), some n => (match P.info? e, x with
    | some q, .el j k sz off => (match lkp j with
      | some (.row a xs) => if q.size = a.sz ∧ sz = a.sz ∧ k = 0 ∧ off = 0 then (if (0 ≤ n ∧ n < (len : Int)) ∧ n < (xs.length : Int) then K (.el j n.toNat a.sz 0) [] else none) else none
      | _ => none)
    | _, _ => none)
  | _, _ => none

def makeMapE (bs : Nat) (K : SV → Ups → Option α) : Option α :=
  if newOk lkp bs 1 = true then K (.mpv bs) [(bs, .map [])] else none
def lookupE (t : TypeId) (x i : SV) (ok : Bool) (K : SV → Ups → Option α) : Option α :=
  match x, i with
  | .mpv j, .int .i64 n => (match lkp j with
    | some (.map xs) => (match isMapT P t with
      | true => (match ok with
        | true => K (.tup [.bool ((mget xs n).getD false), .bool (mget xs n).isSome]) []
        | false => K (.bool ((mget xs n).getD false)) [])
      | false => none)
    | _ => none)
  | _, _ => none
def mapSetE (t : TypeId) (x i v : SV) (K : SV → Ups → Option α) : Option α :=
  match x, i, toB v with
  | .mpv j, .int .i64 n, some b => (match lkp j with
    | some (.map xs) => (match isMapT P t with
      | true => K undefV [(j, .map (mset xs n b))]
      | false => none)
    | _ => none)
  | _, _, _ => none
/-- Bytes as a string, and a string's bytes. -/
def bstr (xs : List Int) : ByteArray := xs.foldl (fun r n => r.push (UInt8.ofNat n.toNat)) ByteArray.empty
def sbytes (s : ByteArray) : List Int := s.data.toList.map fun b => (b.toNat : Int)
def isU8 (P : Program) (e : TypeId) : Bool := match P.underlying e with
  | some (.int .u8) => true
  | _ => false
def convB (s d : TypeId) (x : SV) (kp : Bool) (bs : Nat) (K : SV → Ups → Option α) : Option α :=
  match P.underlying s, P.underlying d with
  | some (.slice e), some .string => (match isU8 P e with
    | true => (match isDeepV lkp x with
      | true => none
      | false => (match packS .lend lkp (.int .u8) x with
        | some (xs, _, _) => K (.str (bstr xs)) []
        | none => none))
    | false => none)
  | some .string, some (.slice e) => (match isU8 P e && newOk lkp bs 1 with
    | true => (match x with
      | .str t => K (.slw bs) (fin kp bs (.int .u8) (sbytes t))
      | _ => none)
    | false => none)
  | _, _ => none
def memE (dst : Option Tmp) (ρ : Operand → SV) (K : SV → Ups → Option α) : Op → Option α
  | .load t x => (match ρ x with
    | .ptr (some ⟨g, off, none⟩) => loadT P cx t g off K
    | v => loadE P lkp (cx.deepd dst) t v (cx.base dst) K)
  | .store t x y => storeE P lkp t (ρ x) (ρ y) K
  | .alloc t => allocE P lkp t (cx.keeps dst) (cx.base dst) K
  | .box _ x => boxE lkp (ρ x) (cx.base dst) K
  | .buildSlice t len parts => (match cx.keeps dst && (cx.deepd dst && slOfSl P t) with
    | true => buildD P lkp t len (parts.toList.map fun q => (q.1, ρ q.2)) (cx.base dst) K
    | false => buildSliceE P lkp t len (parts.toList.map fun q => (q.1, ρ q.2)) (cx.keeps dst) (cx.base dst) K)
  | .makeSlice t l c => (match cx.keeps dst && (cx.deepd dst && slOfSl P t) with
    | true => makeD P lkp t (ρ l) (ρ c) (cx.base dst) K
    | false => makeSliceE P lkp t (ρ l) (ρ c) (cx.keeps dst) (cx.base dst) K)
  | .slice t x l h none => sliceN P lkp t (ρ x) (l.map ρ) (h.map ρ) (cx.keeps dst) (cx.base dst) K
  | .indexAddr t x i => indexN P lkp t (ρ x) (ρ i) K
  | .call { callee := .builtin .len, args, argTypes } => (match args.toList.map ρ, argTypes.toList with
    | [x], [t] => (match P.underlying t, lenS' lkp x with
      | some (.slice _), some n => K (.int .i64 n) []
      | _, _ => none)
    | _, _ => none)
  | .call { callee := .builtin .append, args, argTypes } => (match args.toList.map ρ with
    | [x, y] => (match isDeepV lkp y with
      | true => appendD P lkp argTypes.toList x y (cx.keeps dst) (cx.base dst) K
      | false => appendE P lkp argTypes.toList x y (cx.keeps dst) (cx.base dst) K)
    | _ => none)
  | .makeMap _ none => makeMapE lkp (cx.base dst) K
  | .convert s d x => convB P lkp s d (ρ x) (cx.keeps dst) (cx.base dst) K
  | .binOp .quo _ x y _ => (match ρ x, ρ y with
    | .flt a, .flt b => (match newOk lkp (cx.base dst) 1 with
      | true => K (.nf (fArith .quo a b) (cx.base dst)) [((cx.base dst), .dead)]
      | false => none)
    | _, _ => none)
  | .lookup t x i ok => lookupE P lkp t (ρ x) (ρ i) ok K
  | .mapUpdate t x i v => mapSetE P lkp t (ρ x) (ρ i) (ρ v) K
  | .call { callee := .value f, args, .. } => (match fnOf (ρ f) with
    | some (n, cs) => (match cx.fns n with
      | some fi => callP fi (cx.base dst) lkp (args.toList.map ρ ++ cs) K
      | none => (match lk cx.exts n with
        | some e => (match xtE e (args.toList.map ρ ++ cs) with
          | some (none, v) => K v []
          | some (some q, v) => @ite _ q.p q.d (K v []) none
          | none => none)
        | none => none))
    | _ => none)
  | _ => none

/-- A slice of slices is written no more. -/
def freezeV (v : SV) (K : SV → Ups → Option α) : Option α :=
  match v with
  | .slw i => (match lkp i with
    | some (.deep t xss h) => (match closeD lkp i t xss h with
      | some (ys, u) => K (.slw i) (u ++ [(i, .shr (.slice t) ys)])
      | none => none)
    | _ => K (.slw i) [])
  | v => K v []
def freezeE (ρ : Operand → SV) (K : SV → Ups → Option α) : Op → Option α
  | .move x => freezeV lkp (ρ x) K
  | .assign x => freezeV lkp (ρ x) K
  | _ => none
/-- A quotient that may be none. -/
def Op.isQuo : Op → Bool
  | .binOp .quo _ _ _ _ => true
  | _ => false
def core0 (dst : Option Tmp) (ρ : Operand → SV) (K : SV → Ups → Option α) (op : Op) : Option α :=
  match (match cx.keeps dst && Op.isQuo op with
    | true => none
    | false => pureOp P ρ op) with
  | some (none, v) => letK (cx.letd dst) v fun v => K v []
  | some (some q, v) => @ite _ q.p q.d (letK (cx.letd dst) v fun v => K v []) none
  | none => memE P cx lkp dst ρ K op
def core (dst : Option Tmp) (ρ : Operand → SV) (K : SV → Ups → Option α) (op : Op) : Option α :=
  match cx.frzd dst with
  | true => freezeE lkp ρ K op
  | false => core0 P cx lkp dst ρ K op
end

/-! A continuation is used once. -/
section
variable {P : Program} {cx : Cx} {lkp : Nat → Option Ent} {α : Type}

def pr (v : SV) (u : Ups) : Option (SV × Ups) := some (v, u)

theorem bind_ite {β γ : Type} {p : Prop} [Decidable p] {x y : Option β} {f : β → Option γ} : (if p then x else y).bind f = if p then x.bind f else y.bind f := by split <;> rfl

theorem loadEl_nat (agg : Bool) (n : Nat) (a : Ty) (xs : List a.T) (k sz off bs : Nat) (K : SV → Ups → Option α) :
    loadEl lkp agg n a xs k sz off bs K = (loadEl lkp agg n a xs k sz off bs pr).bind (fun q => K q.1 q.2) := by
  unfold loadEl
  split
  · cases agg
    · simp only; split <;> rfl
    · rfl
  · rfl
theorem takeE_nat (deep : Bool) (t : Ty) (xss : List (List t.T)) (h : Option (Nat × Nat)) (i k sz off bs : Nat) (K : SV → Ups → Option α) :
    takeE lkp deep t xss h i k sz off bs K = (takeE lkp deep t xss h i k sz off bs pr).bind (fun q => K q.1 q.2) := by
  unfold takeE
  repeat' split
  all_goals rfl
theorem loadE_nat (deep : Bool) (t : TypeId) (x : SV) (bs : Nat) (K : SV → Ups → Option α) : loadE P lkp deep t x bs K = (loadE P lkp deep t x bs pr).bind (fun q => K q.1 q.2) := by
  unfold loadE
  repeat' split
  all_goals first | rfl | exact loadEl_nat _ _ _ _ _ _ _ _ _ | exact takeE_nat _ _ _ _ _ _ _ _ _ _
theorem storeE_nat (t : TypeId) (x v : SV) (K : SV → Ups → Option α) : storeE P lkp t x v K = (storeE P lkp t x v pr).bind (fun q => K q.1 q.2) := by
  unfold storeE storeEl storeArr storeD
  repeat' split
  all_goals rfl
theorem allocE_nat (t : TypeId) (keep : Bool) (bs : Nat) (K : SV → Ups → Option α) : allocE P lkp t keep bs K = (allocE P lkp t keep bs pr).bind (fun q => K q.1 q.2) := by
  unfold allocE
  repeat' split
  all_goals rfl
theorem boxE_nat (x : SV) (bs : Nat) (K : SV → Ups → Option α) : boxE lkp x bs K = (boxE lkp x bs pr).bind (fun q => K q.1 q.2) := by
  unfold boxE; split <;> rfl
theorem buildSliceE_nat (t : TypeId) (len : Nat) (parts : List (Nat × SV)) (keep : Bool) (bs : Nat) (K : SV → Ups → Option α) : buildSliceE P lkp t len parts keep bs K = (buildSliceE P lkp t len parts keep bs pr).bind (fun q => K q.1 q.2) := by
  unfold buildSliceE
  repeat' split
  all_goals rfl
theorem makeSliceE_nat (t : TypeId) (l c : SV) (keep : Bool) (bs : Nat) (K : SV → Ups → Option α) : makeSliceE P lkp t l c keep bs K = (makeSliceE P lkp t l c keep bs pr).bind (fun q => K q.1 q.2) := by
  unfold makeSliceE
  repeat' split
  all_goals rfl
theorem appendE_nat (ts : List TypeId) (x y : SV) (keep : Bool) (bs : Nat) (K : SV → Ups → Option α) : appendE P lkp ts x y keep bs K = (appendE P lkp ts x y keep bs pr).bind (fun q => K q.1 q.2) := by
  unfold appendE
  repeat' split
  all_goals rfl
theorem makeD_nat (t : TypeId) (l c : SV) (bs : Nat) (K : SV → Ups → Option α) : makeD P lkp t l c bs K = (makeD P lkp t l c bs pr).bind (fun q => K q.1 q.2) := by
  unfold makeD
  repeat' split
  all_goals rfl
theorem buildD_nat (t : TypeId) (len : Nat) (parts : List (Nat × SV)) (bs : Nat) (K : SV → Ups → Option α) : buildD P lkp t len parts bs K = (buildD P lkp t len parts bs pr).bind (fun q => K q.1 q.2) := by
  unfold buildD
  repeat' split
  all_goals rfl
theorem appendD_nat (ts : List TypeId) (x y : SV) (keep : Bool) (bs : Nat) (K : SV → Ups → Option α) : appendD P lkp ts x y keep bs K = (appendD P lkp ts x y keep bs pr).bind (fun q => K q.1 q.2) := by
  unfold appendD
  repeat' split
  all_goals rfl
theorem freezeE_nat (ρ : Operand → SV) (K : SV → Ups → Option α) (op : Op) : freezeE lkp ρ K op = (freezeE lkp ρ pr op).bind (fun q => K q.1 q.2) := by
  unfold freezeE freezeV
  repeat' split
  all_goals rfl
theorem sliceN_nat (t : TypeId) (x : SV) (low high : Option SV) (keep : Bool) (bs : Nat) (K : SV → Ups → Option α) : sliceN P lkp t x low high keep bs K = (sliceN P lkp t x low high keep bs pr).bind (fun q => K q.1 q.2) := by
  unfold sliceN
  repeat' split
  all_goals rfl
theorem indexN_nat (t : TypeId) (x i : SV) (K : SV → Ups → Option α) : indexN P lkp t x i K = (indexN P lkp t x i pr).bind (fun q => K q.1 q.2) := by
  unfold indexN
  repeat' split
  all_goals rfl
theorem callE_nat (fi : FnI) (base : Nat) (args : List SV) (K : SV → Ups → Option α) : callE fi base lkp args K = (callE fi base lkp args pr).bind (fun q => K q.1 q.2) := by
  unfold callE
  split
  · rfl
  · split
    · rfl
    · split
      · rfl
      · split
        · rw [Option.bind_assoc]; rfl
        · rfl
theorem callP_nat (fi : FnI) (base : Nat) (args : List SV) (K : SV → Ups → Option α) : callP fi base lkp args K = (callP fi base lkp args pr).bind (fun q => K q.1 q.2) := by
  unfold callP
  split
  · exact callE_nat _ _ _ _
  · split
    · rw [callE_nat]
      conv => rhs; arg 1; rw [callE_nat]
      rw [Option.bind_assoc]
      congr 1
      funext q
      split
      · split <;> rfl
      · rfl
    · rfl
theorem memE_nat (dst : Option Tmp) (ρ : Operand → SV) (K : SV → Ups → Option α) (op : Op) : memE P cx lkp dst ρ K op = (memE P cx lkp dst ρ pr op).bind (fun q => K q.1 q.2) := by
  unfold memE
  split
  · split
    · unfold loadT
      repeat' split
      all_goals rfl
    · exact loadE_nat _ _ _ _ _
  · exact storeE_nat _ _ _ _
  · exact allocE_nat _ _ _ _
  · exact boxE_nat _ _ _
  · split
    · exact buildD_nat _ _ _ _ _
    · exact buildSliceE_nat _ _ _ _ _ _
  · split
    · exact makeD_nat _ _ _ _ _
    · exact makeSliceE_nat _ _ _ _ _ _
  · exact sliceN_nat _ _ _ _ _ _ _
  · exact indexN_nat _ _ _ _
  · repeat' split
    all_goals rfl
  · split
    · split
      · exact appendD_nat _ _ _ _ _ _
      · exact appendE_nat _ _ _ _ _ _
    · rfl
  · unfold makeMapE
    split <;> rfl
  · unfold convB
    repeat' split
    all_goals rfl
  · repeat' split
    all_goals rfl
  · unfold lookupE
    repeat' split
    all_goals rfl
  · unfold mapSetE
    repeat' split
    all_goals rfl
  · split
    · split
      · exact callP_nat _ _ _ _
      · split
        · split
          · rfl
          · rename_i q v _
            have := q.d
            by_cases hp : q.p <;> simp [hp, pr]
          · rfl
        · rfl
    · rfl
  · rfl
theorem core_nat (dst : Option Tmp) (ρ : Operand → SV) (K : SV → Ups → Option α) (op : Op) : core P cx lkp dst ρ K op = (core P cx lkp dst ρ pr op).bind (fun q => K q.1 q.2) := by
  unfold core
  split
  · exact freezeE_nat _ _ _
  unfold core0
  simp only [letK_eq]
  split
  · rfl
  · rename_i q v _
    have := q.d
    by_cases hp : q.p <;> simp [hp, pr]
  · exact memE_nat _ _ _ _
end

end Go.V3
