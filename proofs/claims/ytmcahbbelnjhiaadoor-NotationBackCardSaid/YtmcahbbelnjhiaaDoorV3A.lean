/-
  A checked reckoner of what functions compute, in plain values: pure operations.
-/
import Derived.WalkKit
import Derived.Deep.Quiet
import Derived.Deep.LoopGhost
import Derived.Scope
set_option linter.unusedVariables false
namespace Go.V3
open Go

/-- Where a name's cells lie: the block, the place in it, and for a slice its length and capacity. -/
structure InsL where
  l : List Nat
attribute [class] InsL
instance insNil : InsL := ⟨[]⟩
structure InsF where
  l : Nat → List Nat
attribute [class] InsF
instance insFNil : InsF := ⟨fun _ => []⟩
/-- What lies before and behind a box that is a part of a block. -/
structure InsP where
  pre : List Value
  post : List Value
attribute [class] InsP
instance insPNil : InsP := ⟨[], []⟩
/-- Whether the cell behind a block's last one is kept from being written. -/
structure InsZ where
  b : Bool
attribute [class] InsZ
instance insZNil : InsZ := ⟨false⟩
/-- 'ins': for a slice of slices of a call's own, all its blocks. -/
structure Nm where
  blk : Nat
  off : Nat
  nil : Bool
  len : Nat
  cap : Nat
  odd : Option Addr
  [ins : InsL]
  [pp : InsP]
  [fz : InsZ]
/-- The cells of a block of n cells that may not be written (none of the n). -/
def Nm.fr (m : Nm) (n : Nat) : Nat × Nat := bif m.fz.b then (n, n + 1) else (0, 0)
theorem Nm.fr_out (m : Nm) {n k : Nat} (h : k < n) : ¬ ((m.fr n).1 ≤ k ∧ k < (m.fr n).2) := by
  unfold Nm.fr
  cases m.fz.b
  · simp
  · simp; omega
/-- The block of a box with these cells. -/
def Nm.arr (m : Nm) (l : List Value) : Array Value := (m.pp.pre ++ l ++ m.pp.post).toArray
def Nm.ad (m : Nm) : Option Addr := if m.nil = true then m.odd else some ⟨m.blk, m.off, none⟩
/-- What the names stand for, and what lies in slots that nobody reads. -/
structure Env where
  nm : Nat → Nm
  ds : Nat → Value
  [ins : InsF]

/-- A value with its parts in view. 'loc i off': the address of the cell 'off' of the box named i. 'el i k sz off': of a cell of the element k of the row named i. 'slw i': the row named i as a slice; 'sub': a part of it. 'mpv i': the map named i. 'clo': a function with what it holds. -/
inductive SV where
  | int (k : IntKind) (n : Int)
  | u64 (x : BitVec 64)
  | bool (b : Bool)
  | blit (b : Bool)
  | prop (p : Prop) (d : Decidable p)
  | str (s : ByteArray)
  | flt (n : Nat)
  | nf (o : Option Nat) (i : Nat)
  | nils
  | ptr (a : Option Addr)
  | loc (i off : Nat)
  | el (i k sz off : Nat)
  | slw (i : Nat)
  | sub (i lo n sz : Nat)
  | unk (t : Nat)
  | raw (v : Value)
  | agg (cs : List SV)
  | tup (vs : List SV)
  | mpv (i : Nat)
  | clo (f : FuncId) (cs : List SV)

/-- The bits of a number that is none. -/
def nanOf (k : Nat) : Nat := (k % 2) * 2 ^ 63 + 0x7ff0000000000000 + 1 + (k / 2) % (2 ^ 52 - 1)
def padd (a : Option Addr) (n : Nat) : Option Addr := a.map (·.add n)

mutual
def SV.den (E : Env) : SV → Value
  | .int k n => .int k n
  | .u64 x => .int .u64 (x.toNat : Int)
  | .bool b => .bool b
  | .blit b => .bool b
  | .prop p d => .bool (@decide p d)
  | .str s => .string s
  | .flt n => .float .f64 n
  | .nf o i => .float .f64 (o.getD (nanOf (E.nm i).blk))
  | .nils => .slice none 0 0
  | .ptr a => .pointer a
  | .loc i off => .pointer (some ⟨(E.nm i).blk, (E.nm i).off + off, none⟩)
  | .el i k sz off => .pointer (some ⟨(E.nm i).blk, (E.nm i).off + (k * sz + off), none⟩)
  | .slw i => .slice (E.nm i).ad (E.nm i).len (E.nm i).cap
  | .sub i lo n sz => .slice (if (E.nm i).cap = lo then (E.nm i).ad else padd (E.nm i).ad (lo * sz)) n ((E.nm i).cap - lo)
  | .unk t => E.ds t
  | .raw v => v
  | .agg cs => .agg (denL E cs).toArray
  | .tup vs => .tuple (denL E vs).toArray
  | .mpv i => .map (some (E.nm i).blk)
  | .clo f cs => .func (.func f) #[] (denL E cs).toArray
def denL (E : Env) : List SV → List Value
  | [] => []
  | v :: r => v.den E :: denL E r
end

section
variable {E : Env}

theorem denL_map (l : List SV) : denL E l = l.map (SV.den E) := by
  induction l with
  | nil => rfl
  | cons v r ih => simp [denL, ih]

def undefV : SV := .raw undef

def ev (fr : List SV) : Operand → SV
  | .tmp t => fr.getD t undefV
  | .const v => match v with
    | .int .u64 n => if 0 ≤ n ∧ n < 18446744073709551616 then .u64 (BitVec.ofNat 64 n.toNat) else .raw (.int .u64 n)
    | .int k n => .int k n
    | .bool b => .blit b
    | .string s => .str s
    | .float .f64 n => .flt n
    | .slice none 0 0 => .nils
    | .pointer a => .ptr a
    | v => .raw v
  | .global g => .ptr (some ⟨g, 0, none⟩)
  | .func f => .raw (.func (.func f) #[] #[])

def Sim (E : Env) (fr : List SV) (a : Act) : Prop := a.tmps = (denL E fr).toArray ∧ a.defers = []

theorem denL_getD (fr : List SV) (t : Nat) : (denL E fr).getD t undef = ((fr.getD t undefV).den E) := by
  induction fr generalizing t with
  | nil => simp [denL, undefV, SV.den]
  | cons v r ih => cases t with
    | zero => simp [denL]
    | succ t => simpa [denL] using ih t

theorem ev_den {fr : List SV} {a : Act} (h : Sim E fr a) (x : Operand) : a.eval x = ((ev fr x).den E) := by
  cases x with
  | tmp t =>
    show a.tmps.getD t undef = _
    rw [h.1]
    have := denL_getD (E := E) fr t
    simpa [ev] using this
  | const v =>
    show v = _
    cases v with
    | int k n =>
      cases k <;> try rfl
      simp only [ev]
      split
      · rename_i hn
        simp only [SV.den, BitVec.toNat_ofNat]
        congr 1
        omega
      · rfl
    | float k n => cases k <;> rfl
    | slice a l c =>
      simp only [ev]
      split <;> first | rfl | (simp_all [SV.den])
    | _ => rfl
  | global g => rfl
  | func f => rfl

theorem ev_fun {fr : List SV} {a : Act} (h : Sim E fr a) : a.eval = fun x => ((ev fr x).den E) := funext (ev_den h)

def putV (fr : List SV) (dst : Option Tmp) (v : SV) : List SV :=
  match dst with
  | some d => fr.set d v
  | none => fr

theorem denL_set (fr : List SV) (d : Nat) (v : SV) : denL E (fr.set d v) = (denL E fr).set d (v.den E) := by
  induction fr generalizing d with
  | nil => rfl
  | cons x r ih => cases d with
    | zero => rfl
    | succ d => simp [denL, ih]

theorem Sim.put {fr : List SV} {a : Act} (h : Sim E fr a) (dst : Option Tmp) (v : SV) : Sim E (putV fr dst v) (a.put dst (v.den E)) := by
  cases dst with
  | none => exact h
  | some d =>
    refine ⟨?_, h.2⟩
    show a.tmps.setIfInBounds d (v.den E) = _
    rw [h.1]
    simp [putV, denL_set]

/-- The streams, the machine outside and the tape are as they were. -/
structure Rest (w w' : World) : Prop where
  os : w'.os = w.os
  tape : w'.tape = w.tape
  output : w'.output = w.output

theorem Rest.refl (w : World) : Rest w w := ⟨rfl, rfl, rfl⟩
theorem Rest.trans {a b c : World} (h : Rest a b) (k : Rest b c) : Rest a c := ⟨k.os.trans h.os, k.tape.trans h.tape, k.output.trans h.output⟩

/-- In range for a Go int, a Go uint64, and by kind. -/
def I64 (e : Int) : Prop := -9223372036854775808 ≤ e ∧ e ≤ 9223372036854775807
def U64 (e : Int) : Prop := 0 ≤ e ∧ e ≤ 18446744073709551615
def InK : IntKind → Int → Prop
  | .i64, e => I64 e
  | .u64, e => U64 e
  | .i8, e => -128 ≤ e ∧ e ≤ 127
  | .i16, e => -32768 ≤ e ∧ e ≤ 32767
  | .i32, e => -2147483648 ≤ e ∧ e ≤ 2147483647
  | .u8, e => 0 ≤ e ∧ e ≤ 255
  | .u16, e => 0 ≤ e ∧ e ≤ 65535
  | .u32, e => 0 ≤ e ∧ e ≤ 4294967295

theorem InK.wrap {k : IntKind} {e : Int} (h : InK k e) : k.wrap e = e := by
  cases k
  · exact IntWalk.i8_in e h
  · exact IntWalk.i16_in e h
  · exact IntWalk.i32_in e h
  · exact IntWalk.i64_in e h
  · exact IntWalk.u8_in e h
  · exact IntWalk.u16_in e h
  · exact IntWalk.u32_in e h
  · exact IntWalk.u64_in e h

def sget (s : ByteArray) (i : Nat) : Int := ((s.data[i]?.getD 0).toNat : Int)

structure DP where
  p : Prop
  d : Decidable p
def cnd : Option DP → Prop
  | none => True
  | some q => q.p
abbrev Pu := Option (Option DP × SV)
def val (v : SV) : Pu := some (none, v)
def chk (p : Prop) [d : Decidable p] (v : SV) : Pu := some (some ⟨p, d⟩, v)

/-- The count of a shift. -/
def cnt : SV → Option (DP × Nat)
  | .int _ n => some (⟨0 ≤ n, inferInstance⟩, n.toNat)
  | .u64 x => some (⟨True, inferInstance⟩, x.toNat)
  | _ => none

def shE (op : BinOp) (x c : SV) : Pu :=
  match cnt c with
  | none => none
  | some (q, n) => match op, x with
    | .shl, .int .i64 a => @chk q.p q.d (.int .i64 (IntKind.i64.wrap (a * 2 ^ min n 64)))
    | .shr, .int .i64 a => @chk q.p q.d (.int .i64 (a / 2 ^ min n 64))
    | .shl, .u64 b => @chk q.p q.d (.u64 (b <<< n))
    | .shr, .u64 b => @chk q.p q.d (.u64 (b >>> n))
    | _, _ => none

/-- Bits of two Go ints. -/
def iBits (op : BinOp) (a b : Int) : Int :=
  let x := BitVec.ofInt 64 a
  let y := BitVec.ofInt 64 b
  IntKind.i64.wrap (match op with | .and => x &&& y | .or => x ||| y | .xor => x ^^^ y | _ => x &&& ~~~y).toNat

def intE (op : BinOp) (k : IntKind) (a b : Int) : Pu :=
  match op with
  | .add => val (.int k (k.wrap (a + b)))
  | .sub => val (.int k (k.wrap (a - b)))
  | .mul => val (.int k (k.wrap (a * b)))
  | .quo => chk (¬ b = 0) (.int k (k.wrap (a.tdiv b)))
  | .rem => chk (¬ b = 0) (.int k (a.tmod b))
  | .and | .or | .xor | .andNot => match k with | .i64 => val (.int .i64 (iBits op a b)) | _ => none
  | .eql => val (.prop (a = b) inferInstance)
  | .neq => val (.prop (¬ a = b) inferInstance)
  | .lss => val (.prop (a < b) inferInstance)
  | .leq => val (.prop (a ≤ b) inferInstance)
  | .gtr => val (.prop (a > b) inferInstance)
  | .geq => val (.prop (a ≥ b) inferInstance)
  | _ => none

def u64E (op : BinOp) (a b : BitVec 64) : Pu :=
  match op with
  | .add => val (.u64 (a + b))
  | .sub => val (.u64 (a - b))
  | .mul => val (.u64 (a * b))
  | .quo => chk (¬ b = 0#64) (.u64 (a / b))
  | .rem => chk (¬ b = 0#64) (.u64 (a % b))
  | .and => val (.u64 (a &&& b))
  | .or => val (.u64 (a ||| b))
  | .xor => val (.u64 (a ^^^ b))
  | .andNot => val (.u64 (a &&& ~~~b))
  | .eql => val (.prop (a = b) inferInstance)
  | .neq => val (.prop (¬ a = b) inferInstance)
  | .lss => val (.prop (a.toNat < b.toNat) inferInstance)
  | .leq => val (.prop (a.toNat ≤ b.toNat) inferInstance)
  | .gtr => val (.prop (a.toNat > b.toNat) inferInstance)
  | .geq => val (.prop (a.toNat ≥ b.toNat) inferInstance)
  | _ => none

/-! Floats, as they lie in their bits. -/
def fOrd (a b : Nat) : Option Ordering := FloatKind.f64.format.order a b
def fNeg (a : Nat) : Nat := Op.negFloat .f64 a
def fArith (op : BinOp) (a b : Nat) : Option Nat := match op with
  | .add => FloatKind.f64.format.add a b
  | .sub => FloatKind.f64.format.sub a b
  | .mul => FloatKind.f64.format.mul a b
  | .quo => FloatKind.f64.format.div a b
  | _ => none
def fOfInt (n : Int) : Nat := FloatKind.f64.nearest n
/-- A float made whole. -/
def fToInt (a : Nat) : Option Int := (FloatKind.f64.decode a).toInt .zero
def fIn (k : IntKind) (a : Nat) : Bool := match fToInt a with
  | some n => decide (k.min ≤ n ∧ n ≤ k.max)
  | none => false
def fNegative (a : Nat) : Bool := (FloatKind.f64.decode a).neg
def fMax (a b : Nat) : Nat := match fOrd a b with
  | some .lt => b
  | some .gt => a
  | _ => if fNegative a = true then b else a
def fMin (a b : Nat) : Nat := match fOrd a b with
  | some .lt => a
  | some .gt => b
  | _ => if fNegative a = true then a else b
def fltE (op : BinOp) (a b : Nat) : Pu :=
  match op with
  | .add | .sub | .mul | .quo => chk ((fArith op a b).isSome = true) (.flt ((fArith op a b).getD 0))
  | .eql => val (.prop (fOrd a b = some .eq) inferInstance)
  | .neq => val (.prop (¬ fOrd a b = some .eq) inferInstance)
  | .lss => val (.prop (fOrd a b = some .lt) inferInstance)
  | .leq => val (.prop (fOrd a b = some .lt ∨ fOrd a b = some .eq) inferInstance)
  | .gtr => val (.prop (fOrd a b = some .gt) inferInstance)
  | .geq => val (.prop (fOrd a b = some .gt ∨ fOrd a b = some .eq) inferInstance)
  | _ => none

/-- The order of two numbers of which either may be none. -/
def fOrdO (a b : Option Nat) : Option Ordering := match a, b with
  | some a, some b => fOrd a b
  | _, _ => none
def nfE (op : BinOp) (a b : Option Nat) : Pu :=
  match op with
  | .eql => val (.prop (fOrdO a b = some .eq) inferInstance)
  | .neq => val (.prop (¬ fOrdO a b = some .eq) inferInstance)
  | .lss => val (.prop (fOrdO a b = some .lt) inferInstance)
  | .leq => val (.prop (fOrdO a b = some .lt ∨ fOrdO a b = some .eq) inferInstance)
  | .gtr => val (.prop (fOrdO a b = some .gt) inferInstance)
  | .geq => val (.prop (fOrdO a b = some .gt ∨ fOrdO a b = some .eq) inferInstance)
  | _ => none

def toB : SV → Option Bool
  | .bool b => some b
  | .blit b => some b
  | .prop p d => some (@decide p d)
  | _ => none

def binE (P : Program) (op : BinOp) (t : TypeId) (x y : SV) : Pu :=
  match op with
  | .shl | .shr => shE op x y
  | op => match x, y with
    | .int k a, .int k' b => if k = k' then intE op k a b else none
    | .u64 a, .u64 b => u64E op a b
    | .str a, .str b => match op with
      | .eql => val (.prop (a = b) inferInstance)
      | .neq => val (.prop (¬ a = b) inferInstance)
      | .add => chk (a.size + b.size ≤ 9223372036854775807) (.str (a ++ b))
      | _ => none
    | .flt a, .flt b => fltE op a b
    | .nf a _, .nf b _ => nfE op a b
    | .nf a _, .flt b => nfE op a (some b)
    | .flt a, .nf b _ => nfE op (some a) b
    | x, y => match toB x, toB y, P.underlying t, op with
      | some a, some b, some .bool, .eql => val (.prop (a = b) inferInstance)
      | some a, some b, some .bool, .neq => val (.prop (¬ a = b) inferInstance)
      | _, _, _, _ => none

def unE (op : UnOp) (x : SV) : Pu :=
  match op, x with
  | .not, .bool b => val (.bool (!b))
  | .not, .blit b => val (.blit (!b))
  | .not, .prop p _ => val (.prop (¬ p) inferInstance)
  | .neg, .int .i64 n => val (.int .i64 (IntKind.i64.wrap (0 - n)))
  | .neg, .u64 x => val (.u64 (0#64 - x))
  | .neg, .flt b => val (.flt (fNeg b))
  | .xor, .u64 x => val (.u64 (~~~x))
  | _, _ => none

def convE (P : Program) (src dst : TypeId) (x : SV) : Pu :=
  match P.underlying src, P.underlying dst, x with
  | some (.int _), some (.int kd), .int _ n => match kd with
    | .u64 => val (.u64 (BitVec.ofInt 64 n))
    | kd => val (.int kd (kd.wrap n))
  | some (.int _), some (.int kd), .u64 b => match kd with
    | .u64 => val (.u64 b)
    | kd => val (.int kd (kd.wrap b.toNat))
  | some .string, some .string, .str s => val (.str s)
  | some (.int _), some (.float .f64), .int _ n => val (.flt (fOfInt n))
  | some (.int _), some (.float .f64), .u64 x => val (.flt (fOfInt (x.toNat : Int)))
  | some (.float _), some (.int kd), .flt b => (match kd with
    | .u64 => chk (fIn .u64 b = true) (.u64 (BitVec.ofInt 64 ((fToInt b).getD 0)))
    | kd => chk (fIn kd b = true) (.int kd ((fToInt b).getD 0)))
  | some (.float _), some (.float .f64), .flt b => val (.flt b)
  | _, _, _ => none

def isAggT (P : Program) (t : TypeId) : Bool :=
  match P.underlying t with
  | some (.struct _) => true
  | some (.array _ _) => true
  | _ => false

/-- A part of an aggregate's cells. -/
def partE (P : Program) (t : TypeId) (cs : List SV) (off : Nat) : Pu :=
  match P.info? t, P.underlying t with
  | some i, some _ => if isAggT P t then val (.agg ((cs.drop off).take i.size)) else match cs[off]? with
    | some v => val v
    | none => none
  | _, _ => none

def allB : List Bool → Bool
  | [] => true
  | [b] => b
  | b :: r => b && allB r
/-- Are two fields, numbers, alike? -/
def fldEq (P : Program) (f : Field) (xs ys : List SV) : Option Bool :=
  match f.name != "_", P.underlying f.type, xs[f.offset]?, ys[f.offset]?, P.info? f.type with
  | true, some (.int _), some (.int k a), some (.int k' b), some _ => if k = k' then some (decide (a = b)) else none
  | _, _, _, _, _ => none
def fldsEq (P : Program) (xs ys : List SV) : List Field → Option (List Bool)
  | [] => some []
  | f :: r => match fldEq P f xs ys, fldsEq P xs ys r with
    | some b, some l => some (b :: l)
    | _, _ => none
def aggE (P : Program) (op : BinOp) (t : TypeId) (xs ys : List SV) : Pu :=
  match P.underlying t with
  | some (.struct fs) => match P.stoodInHeld t || P.eqGuardType P.depth t with
    | true => none
    | false => match fldsEq P xs ys fs.toList, op with
      | some bs, .eql => val (.bool (allB bs))
      | some bs, .neq => val (.bool (!allB bs))
      | _, _ => none
  | _ => none
def bin2E (P : Program) (op : BinOp) (t : TypeId) (x y : SV) : Pu :=
  match x, y with
  | .agg xs, .agg ys => aggE P op t xs ys
  | x, y => binE P op t x y

def fieldE (P : Program) (t : TypeId) (x : SV) (f : Nat) : Pu :=
  match P.underlying t, x with
  | some (.struct fs), .agg cs => match fs[f]? with
    | some fd => partE P fd.type cs fd.offset
    | none => none
  | _, _ => none

def extractE (x : SV) (i : Nat) : Pu :=
  match x with
  | .tup vs => match vs[i]? with
    | some v => val v
    | none => none
  | _ => none

def cellsV : SV → List SV
  | .agg cs => cs
  | v => [v]

def splice (cs : List SV) (off : Nat) : List SV → List SV
  | [] => cs
  | v :: r => splice (cs.set off v) (off + 1) r

def fillV (place : Nat → Option (Nat × Nat)) (cs : List SV) : List (Nat × SV) → Option (List SV)
  | [] => some cs
  | (i, v) :: rest => match place i with
    | none => none
    | some (off, size) => if (cellsV v).length = size ∧ off + (cellsV v).length ≤ cs.length then fillV place (splice cs off (cellsV v)) rest else none

/-- No part is a bare aggregate. -/
def isRawAgg : SV → Bool
  | .raw (.agg _) => true
  | .unk _ => true
  | _ => false
def noRawAgg (l : List (Nat × SV)) : Bool := l.all fun q => !isRawAgg q.2

def ofCell : Value → SV
  | .int .u64 n => if 0 ≤ n ∧ n < 18446744073709551616 then .u64 (BitVec.ofNat 64 n.toNat) else .raw (.int .u64 n)
  | .int k n => .int k n
  | .bool b => .blit b
  | .string s => .str s
  | .float .f64 n => .flt n
  | .slice none 0 0 => .nils
  | .pointer a => .ptr a
  | v => .raw v

def zeroE (P : Program) (t : TypeId) : Option (List SV) :=
  match P.info? t with
  | some i => match i.zero with
    | some z => some (z.cells.toList.map ofCell)
    | none => none
  | none => none

def structPlaces (P : Program) : List Field → Option (List (Nat × Nat))
  | [] => some []
  | f :: r => match P.info? f.type, structPlaces P r with
    | some i, some l => some ((f.offset, i.size) :: l)
    | _, _ => none

def buildE (P : Program) (t : TypeId) (parts : List (Nat × SV)) : Pu :=
  if noRawAgg parts = false then none else
  match zeroE P t, P.underlying t with
  | some z, some (.struct fs) => match structPlaces P fs.toList with
    | some pl => match fillV (fun i => pl[i]?) z parts with
      | some cs => val (.agg cs)
      | none => none
    | none => none
  | some z, some (.array _ e) => match P.info? e with
    | some i => match fillV (fun j => some (j * i.size, i.size)) z parts with
      | some cs => val (.agg cs)
      | none => none
    | none => none
  | _, _ => none

def idxOf : SV → Option Int
  | .int _ n => some n
  | .u64 x => some x.toNat
  | _ => none

def indexAddrE (P : Program) (t : TypeId) (x i : SV) : Pu :=
  match P.underlying t, x, idxOf i with
  | some (.array len e), .loc i off, some n => match P.info? e with
    | some q => chk (0 ≤ n ∧ n < len) (.loc i (off + n.toNat * q.size))
    | none => none
  | some (.array len e), .ptr (some ⟨g, off, none⟩), some n => match P.info? e with
    | some q => if q.size = 1 then chk (0 ≤ n ∧ n < len) (.ptr (some ⟨g, off + n.toNat, none⟩)) else none
    | none => none
  | _, _, _ => none

def fieldAddrE (P : Program) (t : TypeId) (x : SV) (f : Nat) : Pu :=
  match P.underlying t, x with
  | some (.struct fs), .loc i off => match fs[f]? with
    | some fd => match P.info? fd.type with
      | some q => if q.size = 0 then none else val (.loc i (off + fd.offset))
      | none => none
    | none => none
  | some (.struct fs), .el i k sz off => match fs[f]? with
    | some fd => match P.info? fd.type with
      | some q => if q.size = 0 then none else val (.el i k sz (off + fd.offset))
      | none => none
    | none => none
  | _, _ => none

/-- The bounds of a slice expression: the condition and the two places. -/
def bnd (x : Option SV) (d : Nat) : Option (Option Int × Nat) :=
  match x with
  | none => some (none, d)
  | some x => match idxOf x with
    | some n => some (some n, n.toNat)
    | none => none

@[reducible] def Bd (l : Option Int) (h : Option Int) (hn cap : Nat) : Prop :=
  (match h with | some n => 0 ≤ n ∧ n ≤ cap | none => True) ∧ (match l with | some n => 0 ≤ n ∧ n ≤ hn | none => True)
instance (l h : Option Int) (hn cap : Nat) : Decidable (Bd l h hn cap) :=
  match h, l with
  | some n, some m => inferInstanceAs (Decidable ((0 ≤ n ∧ n ≤ cap) ∧ (0 ≤ m ∧ m ≤ hn)))
  | some n, none => inferInstanceAs (Decidable ((0 ≤ n ∧ n ≤ cap) ∧ True))
  | none, some m => inferInstanceAs (Decidable (True ∧ (0 ≤ m ∧ m ≤ hn)))
  | none, none => inferInstanceAs (Decidable (True ∧ True))

def sliceE (P : Program) (t : TypeId) (x : SV) (low high max : Option SV) : Pu :=
  match P.underlying t, x, max with
  | some .string, .str s, none => match bnd high s.size, bnd low 0 with
    | some (h, hn), some (l, ln) => chk (Bd l h hn s.size) (.str (s.extract ln hn))
    | _, _ => none
  | _, _, _ => none

def indexE (P : Program) (t : TypeId) (x i : SV) : Pu :=
  match P.underlying t, x, idxOf i with
  | some .string, .str s, some n => chk (0 ≤ n ∧ n < s.size) (.int .u8 (sget s n.toNat))
  | _, _, _ => none

def lenE (P : Program) (t : TypeId) (x : SV) : Pu :=
  match P.underlying t, x with
  | some .string, .str s => val (.int .i64 s.size)
  | some (.array n _), _ => val (.int .i64 n)
  | _, _ => none

def builtinE (P : Program) (b : Builtin) (argTypes : List TypeId) (args : List SV) : Pu :=
  match b, argTypes, args with
  | .len, t :: _, x :: _ => lenE P t x
  | .max, _, [.int k a, .int k' b] => if k = k' then val (.int k (if b > a then b else a)) else none
  | .min, _, [.int k a, .int k' b] => if k = k' then val (.int k (if b < a then b else a)) else none
  | .max, _, [.flt a, .flt b] => chk ((fOrd a b).isSome = true) (.flt (fMax a b))
  | .min, _, [.flt a, .flt b] => chk ((fOrd a b).isSome = true) (.flt (fMin a b))
  | _, _, _ => none

def pureOp (P : Program) (ρ : Operand → SV) : Op → Pu
  | .move x => val (ρ x)
  | .assign x => val (ρ x)
  | .pick c a b => match ρ c with
    | .blit t => val (if t then ρ a else ρ b)
    | _ => none
  | .binOp op t x y _ => bin2E P op t (ρ x) (ρ y)
  | .unOp op _ x => unE op (ρ x)
  | .convert src dst x => convE P src dst (ρ x)
  | .extract x i => extractE (ρ x) i
  | .field t x f => fieldE P t (ρ x) f
  | .build t parts => buildE P t (parts.toList.map fun q => (q.1, ρ q.2))
  | .indexAddr t x i => indexAddrE P t (ρ x) (ρ i)
  | .fieldAddr t x f => fieldAddrE P t (ρ x) f
  | .slice t x l h m => sliceE P t (ρ x) (l.map ρ) (h.map ρ) (m.map ρ)
  | .index t x i => indexE P t (ρ x) (ρ i)
  | .nilCheck x => match ρ x with
    | .el i k sz off => val (.el i k sz off)
    | .loc i off => val (.loc i off)
    | .clo f cs => val (.clo f cs)
    | _ => none
  | .makeFunc fn first captured => match fn, first with
    | .func f, ⟨[]⟩ => val (.clo f (captured.toList.map ρ))
    | _, _ => none
  | .call { callee := .builtin b, args, argTypes } => builtinE P b argTypes.toList (args.toList.map ρ)
  | _ => none

/-! Soundness of the pure parts. -/
section
variable {P : Program} (w : World)

theorem toB_den {x : SV} {b : Bool} (h : toB x = some b) : (x.den E) = .bool b := by
  cases x <;> simp_all [toB, SV.den]

theorem cnt_den {c : SV} {q : DP} {n : Nat} (h : cnt c = some (q, n)) (hp : q.p) : ∃ k y, (c.den E) = .int k y ∧ 0 ≤ y ∧ y.toNat = n := by
  cases c <;> simp only [cnt, Option.some.injEq, Prod.mk.injEq, reduceCtorEq] at h
  case int k y => obtain ⟨rfl, rfl⟩ := h; exact ⟨k, y, rfl, hp, rfl⟩
  case u64 x => obtain ⟨rfl, rfl⟩ := h; exact ⟨.u64, x.toNat, rfl, by omega, by simp⟩

theorem u64_wrap_nat (n : Nat) (h : n < 2 ^ 64) : IntKind.u64.wrap (n : Int) = n := IntWalk.u64_in _ ⟨by omega, by omega⟩

theorem u64_wrap_emod (n : Int) : IntKind.u64.wrap n = n % 18446744073709551616 := IntKind.wrap_u64 n

def Pu.ok (r : Pu) (R : SV → Prop) : Prop := ∀ p v, r = some (p, v) → cnd p → R v
theorem ok_val {v : SV} {R : SV → Prop} (h : R v) : (val v).ok R := by
  intro p v' he _; simp only [val, Option.some.injEq, Prod.mk.injEq] at he; obtain ⟨-, rfl⟩ := he; exact h
theorem ok_chk {q : Prop} [Decidable q] {v : SV} {R : SV → Prop} (h : q → R v) : (chk q v).ok R := by
  intro p v' he hp; simp only [chk, Option.some.injEq, Prod.mk.injEq] at he; obtain ⟨rfl, rfl⟩ := he; exact h hp
theorem ok_none {R : SV → Prop} : Pu.ok none R := by intro p v h; cases h

/-- What an operation is to give. -/
def Runs (E : Env) (P : Program) (s : Sem Value) (w : World) (v : SV) : Prop := s.run P w = .ok (v.den E) w

theorem run_shl {k : IntKind} {a y : Int} {yk : IntKind} (hy : 0 ≤ y) : (Op.shift .shl k a yk y).run P w = .ok (.int k (k.wrap (a * 2 ^ (min y.toNat k.bits)))) w := by
  unfold Op.shift; rw [if_neg (by omega)]; rfl
theorem run_shr {k : IntKind} {a y : Int} {yk : IntKind} (hy : 0 ≤ y) : (Op.shift .shr k a yk y).run P w = .ok (.int k (a.fdiv (2 ^ (min y.toNat k.bits)))) w := by
  unfold Op.shift; rw [if_neg (by omega)]; rfl

theorem pow_cast (n : Nat) : (2 : Int) ^ n = ((2 ^ n : Nat) : Int) := by simp

theorem shl_u64 (b : BitVec 64) (n : Nat) : IntKind.u64.wrap ((b.toNat : Int) * 2 ^ min n 64) = ((b <<< n).toNat : Int) := by
  have h1 : ((b.toNat : Int) * 2 ^ min n 64) = ((b.toNat * 2 ^ min n 64 : Nat) : Int) := by rw [pow_cast]; rfl
  rw [u64_wrap_emod, h1, BitVec.toNat_shiftLeft, Nat.shiftLeft_eq]
  have h2 : (18446744073709551616 : Int) = ((2 ^ 64 : Nat) : Int) := rfl
  rw [h2, ← Int.natCast_emod]
  congr 1
  rcases Nat.le_total n 64 with hn | hn
  · rw [Nat.min_eq_left hn]
  · rw [Nat.min_eq_right hn]
    obtain ⟨d, rfl⟩ := Nat.exists_eq_add_of_le hn
    rw [Nat.pow_add, ← Nat.mul_assoc, Nat.mul_right_comm, Nat.mul_mod_left, Nat.mul_mod_left]

theorem fdiv_pow (a : Int) (n : Nat) : a.fdiv (2 ^ n) = a / 2 ^ n := Int.fdiv_eq_ediv_of_nonneg _ (Int.le_of_lt (Int.pow_pos (by decide)))

theorem shr_u64 (b : BitVec 64) (n : Nat) : (b.toNat : Int).fdiv (2 ^ min n 64) = ((b >>> n).toNat : Int) := by
  rw [fdiv_pow, pow_cast]
  have h1 : ((b.toNat : Int) / ((2 ^ min n 64 : Nat) : Int)) = ((b.toNat / 2 ^ min n 64 : Nat) : Int) := rfl
  rw [h1, BitVec.toNat_ushiftRight, Nat.shiftRight_eq_div_pow]
  congr 1
  rcases Nat.le_total n 64 with hn | hn
  · rw [Nat.min_eq_left hn]
  · rw [Nat.min_eq_right hn]
    have hb := b.isLt
    rw [Nat.div_eq_of_lt hb, Nat.div_eq_of_lt (Nat.lt_of_lt_of_le hb (Nat.pow_le_pow_right (by decide) hn))]

theorem binOp_shl (t : TypeId) {k yk : IntKind} {a y : Int} : binOp .shl t (.int k a) (.int yk y) = Op.shift .shl k a yk y := rfl
theorem binOp_shr (t : TypeId) {k yk : IntKind} {a y : Int} : binOp .shr t (.int k a) (.int yk y) = Op.shift .shr k a yk y := rfl

theorem shE_ok (op : BinOp) (x c : SV) (t : TypeId) : (shE op x c).ok (Runs E P (binOp op t (x.den E) (c.den E)) w) := by
  unfold shE
  split
  · exact ok_none
  · rename_i q n hc
    split
    · refine @ok_chk _ q.d _ _ fun h1 => ?_
      obtain ⟨yk, y, hcd, hy, rfl⟩ := cnt_den hc h1
      rw [Runs, hcd]
      simp only [SV.den, binOp_shl, run_shl w hy, IntKind.bits]
    · refine @ok_chk _ q.d _ _ fun h1 => ?_
      obtain ⟨yk, y, hcd, hy, rfl⟩ := cnt_den hc h1
      rw [Runs, hcd]
      simp only [SV.den, binOp_shr, run_shr w hy, IntKind.bits, fdiv_pow]
    · refine @ok_chk _ q.d _ _ fun h1 => ?_
      obtain ⟨yk, y, hcd, hy, rfl⟩ := cnt_den hc h1
      rw [Runs, hcd]
      simp only [SV.den, binOp_shl, run_shl w hy, IntKind.bits, shl_u64]
    · refine @ok_chk _ q.d _ _ fun h1 => ?_
      obtain ⟨yk, y, hcd, hy, rfl⟩ := cnt_den hc h1
      rw [Runs, hcd]
      simp only [SV.den, binOp_shr, run_shr w hy, IntKind.bits, shr_u64]
    · exact ok_none

theorem intE_ok (op : BinOp) (k : IntKind) (a b : Int) (t : TypeId) (h1 : op ≠ .shl) (h2 : op ≠ .shr) :
    (intE op k a b).ok (Runs E P (binOp op t (.int k a) (.int k b)) w) := by
  have hk : ¬ (k ≠ k) := by simp
  cases op <;> simp only [intE, ne_eq, not_true, reduceCtorEq, not_false_eq_true] at *
  case add => exact ok_val (by simp [Runs, binOp, Op.intArith, SV.den])
  case sub => exact ok_val (by simp [Runs, binOp, Op.intArith, SV.den])
  case mul => exact ok_val (by simp [Runs, binOp, Op.intArith, SV.den])
  case quo => exact ok_chk fun h => by simp [Runs, binOp, Op.intDiv, SV.den, h]
  case rem => exact ok_chk fun h => by simp [Runs, binOp, Op.intDiv, SV.den, h]
  case and => split <;> first | exact ok_none | exact ok_val rfl
  case or => split <;> first | exact ok_none | exact ok_val rfl
  case xor => split <;> first | exact ok_none | exact ok_val rfl
  case andNot => split <;> first | exact ok_none | exact ok_val rfl
  case eql => exact ok_val (by simp [Runs, binOp, Op.intCmp, SV.den]; rfl)
  case neq => exact ok_val (by simp [Runs, binOp, Op.intCmp, SV.den]; rfl)
  case lss => exact ok_val (by simp [Runs, binOp, Op.intCmp, SV.den])
  case leq => exact ok_val (by simp [Runs, binOp, Op.intCmp, SV.den])
  case gtr => exact ok_val (by simp [Runs, binOp, Op.intCmp, SV.den])
  case geq => exact ok_val (by simp [Runs, binOp, Op.intCmp, SV.den])

theorem u64_cast_eq (a b : BitVec 64) : ((a.toNat : Int) = (b.toNat : Int)) ↔ a = b := by
  rw [Int.ofNat_inj]; exact BitVec.toNat_inj
theorem ofInt_cast (a : BitVec 64) : BitVec.ofInt 64 (a.toNat : Int) = a := by simp

theorem u64E_ok (op : BinOp) (a b : BitVec 64) (t : TypeId) (h1 : op ≠ .shl) (h2 : op ≠ .shr) :
    (u64E op a b).ok (Runs E P (binOp op t (.int .u64 a.toNat) (.int .u64 b.toNat)) w) := by
  have hlt := fun x : BitVec 64 => x.isLt
  have hw : ∀ x : BitVec 64, IntKind.u64.wrap (x.toNat : Int) = x.toNat := fun x => u64_wrap_nat _ x.isLt
  have h64 : (18446744073709551616 : Int) = ((2 ^ 64 : Nat) : Int) := rfl
  have hm : ∀ n : Nat, (n : Int) % 18446744073709551616 = ((n % 2 ^ 64 : Nat) : Int) := fun n => rfl
  have key : ∀ (v : Value) (o : SV), (∀ x, o = .u64 x → v = .int .u64 (x.toNat : Int)) → (∃ x, o = .u64 x) → (Result.ok v w = Result.ok (o.den E) w) := by
    rintro v o h ⟨x, rfl⟩; rw [h x rfl]; rfl
  cases op <;> simp only [u64E, ne_eq, not_true, reduceCtorEq, not_false_eq_true] at *
  case add =>
    refine ok_val ?_
    have e : IntKind.u64.wrap ((a.toNat : Int) + b.toNat) = ((a + b).toNat : Int) := by
      rw [u64_wrap_emod, BitVec.toNat_add, ← Int.natCast_add, hm]
    show Result.ok (Value.int .u64 (IntKind.u64.wrap ((a.toNat : Int) + b.toNat))) w = _
    rw [e]; rfl
  case sub =>
    refine ok_val ?_
    have e : IntKind.u64.wrap ((a.toNat : Int) - b.toNat) = ((a - b).toNat : Int) := by
      rw [u64_wrap_emod, BitVec.toNat_sub]
      have := hlt a; have := hlt b
      omega
    show Result.ok (Value.int .u64 (IntKind.u64.wrap ((a.toNat : Int) - b.toNat))) w = _
    rw [e]; rfl
  case mul =>
    refine ok_val ?_
    have e : IntKind.u64.wrap ((a.toNat : Int) * b.toNat) = ((a * b).toNat : Int) := by
      rw [u64_wrap_emod, BitVec.toNat_mul, ← Int.natCast_mul, hm]
    show Result.ok (Value.int .u64 (IntKind.u64.wrap ((a.toNat : Int) * b.toNat))) w = _
    rw [e]; rfl
  case quo =>
    refine ok_chk fun h => ?_
    have h0 : ¬ (b.toNat : Int) = 0 := by
      intro h'; apply h; apply BitVec.eq_of_toNat_eq; have : b.toNat = 0 := by omega
      rw [this]; rfl
    have e : IntKind.u64.wrap ((a.toNat : Int).tdiv b.toNat) = ((a / b).toNat : Int) := by
      rw [Int.tdiv_eq_ediv_of_nonneg (by omega), ← hw (a / b), BitVec.toNat_udiv]; rfl
    have e2 : (binOp .quo t (.int .u64 a.toNat) (.int .u64 b.toNat)).run P w = .ok (.int .u64 (IntKind.u64.wrap ((a.toNat : Int).tdiv b.toNat))) w := by
      show (Op.intDiv .quo .u64 a.toNat b.toNat).run P w = _
      unfold Op.intDiv; rw [if_neg h0]; rfl
    rw [Runs, e2, e]; rfl
  case rem =>
    refine ok_chk fun h => ?_
    have h0 : ¬ (b.toNat : Int) = 0 := by
      intro h'; apply h; apply BitVec.eq_of_toNat_eq; have : b.toNat = 0 := by omega
      rw [this]; rfl
    have e : ((a.toNat : Int).tmod b.toNat) = ((a % b).toNat : Int) := by
      rw [Int.tmod_eq_emod_of_nonneg (by omega), BitVec.toNat_umod]; rfl
    have e2 : (binOp .rem t (.int .u64 a.toNat) (.int .u64 b.toNat)).run P w = .ok (.int .u64 ((a.toNat : Int).tmod b.toNat)) w := by
      show (Op.intDiv .rem .u64 a.toNat b.toNat).run P w = _
      unfold Op.intDiv; rw [if_neg h0]; rfl
    rw [Runs, e2, e]; rfl
  case and =>
    refine ok_val ?_
    show Result.ok (Value.int .u64 (IntKind.u64.wrap ((BitVec.ofInt 64 a.toNat &&& BitVec.ofInt 64 b.toNat).toNat : Int))) w = _
    rw [ofInt_cast, ofInt_cast, hw]; rfl
  case or =>
    refine ok_val ?_
    show Result.ok (Value.int .u64 (IntKind.u64.wrap ((BitVec.ofInt 64 a.toNat ||| BitVec.ofInt 64 b.toNat).toNat : Int))) w = _
    rw [ofInt_cast, ofInt_cast, hw]; rfl
  case xor =>
    refine ok_val ?_
    show Result.ok (Value.int .u64 (IntKind.u64.wrap ((BitVec.ofInt 64 a.toNat ^^^ BitVec.ofInt 64 b.toNat).toNat : Int))) w = _
    rw [ofInt_cast, ofInt_cast, hw]; rfl
  case andNot =>
    refine ok_val ?_
    show Result.ok (Value.int .u64 (IntKind.u64.wrap ((BitVec.ofInt 64 a.toNat &&& ~~~ BitVec.ofInt 64 b.toNat).toNat : Int))) w = _
    rw [ofInt_cast, ofInt_cast, hw]; rfl
  case eql =>
    refine ok_val ?_
    show Result.ok (Value.bool ((a.toNat : Int) == (b.toNat : Int))) w = Result.ok (Value.bool (decide (a = b))) w
    congr 2; rw [Bool.eq_iff_iff, beq_iff_eq, decide_eq_true_iff]; exact u64_cast_eq a b
  case neq =>
    refine ok_val ?_
    show Result.ok (Value.bool ((a.toNat : Int) != (b.toNat : Int))) w = Result.ok (Value.bool (decide (¬ a = b))) w
    congr 2; rw [Bool.eq_iff_iff, bne_iff_ne, decide_eq_true_iff, ne_eq, u64_cast_eq]
  case lss => exact ok_val (by simp [Runs, binOp, Op.intCmp, SV.den])
  case leq => exact ok_val (by simp [Runs, binOp, Op.intCmp, SV.den])
  case gtr => exact ok_val (by simp [Runs, binOp, Op.intCmp, SV.den])
  case geq => exact ok_val (by simp [Runs, binOp, Op.intCmp, SV.den])

theorem equalIn_bool (d : Nat) {t : TypeId} (h : P.underlying t = some .bool) (a b : Bool) : (Op.equalIn (d + 1) t (.bool a) (.bool b)).run P w = .ok (a == b) w := by
  simp [Op.equalIn, run_underlying h]
theorem run_equal_bool {t : TypeId} (h : P.underlying t = some .bool) (a b : Bool) : (Op.equal t (.bool a) (.bool b)).run P w = .ok (a == b) w :=
  equalIn_bool w 9999 h a b
theorem equalIn_slice_nil (d : Nat) {t e : TypeId} (h : P.underlying t = some (.slice e)) (a : Option Addr) (l c l' c' : Nat) : (Op.equalIn (d + 1) t (.slice a l c) (.slice none l' c')).run P w = .ok a.isNone w := by
  cases a <;> simp [Op.equalIn, run_underlying h]
theorem run_equal_slice_nil {t e : TypeId} (h : P.underlying t = some (.slice e)) (a : Option Addr) (l c l' c' : Nat) : (Op.equal t (.slice a l c) (.slice none l' c')).run P w = .ok a.isNone w :=
  equalIn_slice_nil w 9999 h a l c l' c'
theorem str_eq (a b : ByteArray) : (a.toList == b.toList) = decide (a = b) := by
  rw [Bool.eq_iff_iff, beq_iff_eq, decide_eq_true_iff, ByteArray.toList_eq, ByteArray.toList_eq]
  constructor
  · intro h; cases a; cases b; simp at h; simp [h]
  · rintro rfl; rfl

theorem fltE_ok (op : BinOp) (a b : Nat) (t : TypeId) : (fltE op a b).ok (Runs E P (binOp op t (.float .f64 a) (.float .f64 b)) w) := by
  have arith : ∀ op : BinOp, (∀ r, fArith op a b = some r → (Op.floatArith op .f64 a b).run P w = .ok (.float .f64 r) w) → (chk ((fArith op a b).isSome = true) (.flt ((fArith op a b).getD 0)) : Pu).ok (Runs E P (Op.floatArith op .f64 a b) w) := by
    intro op hr
    refine ok_chk fun h => ?_
    obtain ⟨r, h1⟩ := Option.isSome_iff_exists.1 h
    rw [Runs, hr r h1, h1]; rfl
  have cmp : ∀ (c : Bool) (p : Prop) [Decidable p], (c = true ↔ p) → Result.ok (Value.bool c) w = Result.ok ((SV.prop p inferInstance).den E) w := by
    intro c p _ h
    have : c = decide p := by rw [Bool.eq_iff_iff, h, decide_eq_true_iff]
    rw [this]; rfl
  cases op <;> simp only [fltE]
  case add => exact arith .add fun r h => by simp only [fArith] at h; simp [Op.floatArith, h]
  case sub => exact arith .sub fun r h => by simp only [fArith] at h; simp [Op.floatArith, h]
  case mul => exact arith .mul fun r h => by simp only [fArith] at h; simp [Op.floatArith, h]
  case quo => exact arith .quo fun r h => by simp only [fArith] at h; simp [Op.floatArith, h]
  case eql => exact ok_val (cmp (fOrd a b == some .eq) _ (by simp))
  case neq => exact ok_val (cmp (fOrd a b != some .eq) _ (by simp))
  case lss => exact ok_val (cmp (fOrd a b == some .lt) _ (by simp))
  case leq => exact ok_val (cmp (fOrd a b == some .lt || fOrd a b == some .eq) _ (by simp))
  case gtr => exact ok_val (cmp (fOrd a b == some .gt) _ (by simp))
  case geq => exact ok_val (cmp (fOrd a b == some .gt || fOrd a b == some .eq) _ (by simp))
  all_goals exact ok_none

theorem read_nanOf (k : Nat) : ∃ s f, FloatKind.f64.format.read (nanOf k) = .nan s f := by
  unfold Ieee.Format.read
  have hb : FloatKind.f64.format.binade = 4503599627370496 := by decide
  have hs : FloatKind.f64.format.signWeight = 9223372036854775808 := by decide
  have hi : FloatKind.f64.format.infRung = 9218868437227405312 := by decide
  simp only [hb, hs, hi]
  have h' : 9218868437227405312 < nanOf k % 9223372036854775808 := by
    show 9218868437227405312 < ((k % 2) * 9223372036854775808 + 9218868437227405312 + 1 + (k / 2) % 4503599627370495) % 9223372036854775808
    have hq : (k / 2) % 4503599627370495 < 4503599627370495 := Nat.mod_lt _ (by decide)
    have hp : k % 2 < 2 := Nat.mod_lt _ (by decide)
    generalize k % 2 = p at *
    generalize (k / 2) % 4503599627370495 = q at *
    omega
  rw [if_neg (by omega), if_neg (by omega), if_neg (by omega)]
  exact ⟨_, _, rfl⟩
theorem fOrd_nan (k b : Nat) : fOrd (nanOf k) b = none ∧ fOrd b (nanOf k) = none := by
  obtain ⟨s, f, h⟩ := read_nanOf k
  unfold fOrd Ieee.Format.order
  rw [h]
  refine ⟨rfl, ?_⟩
  unfold Ieee.Datum.order
  cases FloatKind.f64.format.read b <;> rfl
theorem fOrdO_den (a b : Option Nat) (k j : Nat) : fOrd (a.getD (nanOf k)) (b.getD (nanOf j)) = fOrdO a b := by
  cases a with
  | none => exact (fOrd_nan k _).1
  | some a => cases b with
    | none => exact (fOrd_nan j _).2
    | some b => rfl
theorem nfE_ok (op : BinOp) (a b : Option Nat) (k j : Nat) (t : TypeId) : (nfE op a b).ok (Runs E P (binOp op t (.float .f64 (a.getD (nanOf k))) (.float .f64 (b.getD (nanOf j)))) w) := by
  have cmp : ∀ (c : Bool) (p : Prop) [Decidable p], (c = true ↔ p) → Result.ok (Value.bool c) w = Result.ok ((SV.prop p inferInstance).den E) w := by
    intro c p _ h
    have : c = decide p := by rw [Bool.eq_iff_iff, h, decide_eq_true_iff]
    rw [this]; rfl
  have e := fOrdO_den a b k j
  generalize a.getD (nanOf k) = A at e ⊢
  generalize b.getD (nanOf j) = B at e ⊢
  cases op <;> simp only [nfE]
  case eql => exact ok_val (cmp (fOrd A B == some .eq) _ (by rw [e]; simp))
  case neq => exact ok_val (cmp (fOrd A B != some .eq) _ (by rw [e]; simp))
  case lss => exact ok_val (cmp (fOrd A B == some .lt) _ (by rw [e]; simp))
  case leq => exact ok_val (cmp (fOrd A B == some .lt || fOrd A B == some .eq) _ (by rw [e]; simp))
  case gtr => exact ok_val (cmp (fOrd A B == some .gt) _ (by rw [e]; simp))
  case geq => exact ok_val (cmp (fOrd A B == some .gt || fOrd A B == some .eq) _ (by rw [e]; simp))
  all_goals exact ok_none
theorem binE_ok (op : BinOp) (t : TypeId) (x y : SV) : (binE P op t x y).ok (Runs E P (binOp op t (x.den E) (y.den E)) w) := by
  unfold binE
  split
  · exact shE_ok w _ x y t
  · exact shE_ok w _ x y t
  · rename_i h1 h2
    split
    · split
      · rename_i hk; subst hk
        exact intE_ok w op _ _ _ t h1 h2
      · exact ok_none
    · exact u64E_ok w op _ _ t h1 h2
    · split
      · refine ok_val ?_
        rename_i a b _
        show Result.ok (Value.bool (a.toList == b.toList)) w = Result.ok (Value.bool (decide (a = b))) w
        rw [str_eq]
      · refine ok_val ?_
        rename_i a b _
        show Result.ok (Value.bool (!(a.toList == b.toList))) w = Result.ok (Value.bool (decide (¬ a = b))) w
        rw [str_eq, decide_not]
      · refine ok_chk fun hsz => ?_
        rename_i a b _
        show (if ((a.size + b.size : Nat) : Int) > IntKind.i64.max then (unsupported _ : Sem Value) else pure (.string (a ++ b))).run P w = _
        rw [if_neg (by have : IntKind.i64.max = 9223372036854775807 := by decide
                       omega)]
        rfl
      · exact ok_none
    · exact fltE_ok w _ _ _ t
    · exact nfE_ok w _ _ _ _ _ t
    · exact nfE_ok w _ _ (some _) _ 0 t
    · exact nfE_ok w _ (some _) _ 0 _ t
    · split
      · rename_i ha hb hu
        refine ok_val ?_
        rw [Runs, toB_den ha, toB_den hb]
        simp [binOp, SV.den, run_equal_bool w hu]; rfl
      · rename_i ha hb hu
        refine ok_val ?_
        rw [Runs, toB_den ha, toB_den hb]
        simp [binOp, SV.den, run_equal_bool w hu]; rfl
      · exact ok_none

theorem unE_ok (op : UnOp) (x : SV) : (unE op x).ok (Runs E P (Op.unary op (x.den E)) w) := by
  unfold unE
  split
  · exact ok_val (show Sem.run _ _ _ = _ from rfl)
  · exact ok_val (show Sem.run _ _ _ = _ from rfl)
  · exact ok_val (by simp [Runs, Op.unary, SV.den])
  · exact ok_val (by simp only [Runs, Op.unary, SV.den, Op.intArith]; rfl)
  · rename_i x
    refine ok_val ?_
    have e : IntKind.u64.wrap ((0 : Int) - (x.toNat : Int)) = ((0#64 - x).toNat : Int) := by
      rw [u64_wrap_emod, BitVec.toNat_sub]
      have := x.isLt
      simp only [BitVec.toNat_ofNat]
      omega
    show Result.ok (Value.int .u64 (IntKind.u64.wrap ((0 : Int) - (x.toNat : Int)))) w = _
    rw [e]; rfl
  · exact ok_val rfl
  · rename_i x
    refine ok_val ?_
    have hw : ∀ x : BitVec 64, IntKind.u64.wrap (x.toNat : Int) = x.toNat := fun x => u64_wrap_nat _ x.isLt
    have : BitVec.ofInt 64 (IntKind.u64.max) ^^^ x = ~~~x := by
      have : BitVec.ofInt 64 (IntKind.u64.max) = BitVec.allOnes 64 := by decide
      rw [this, BitVec.allOnes_xor]
    show Result.ok (Value.int .u64 (IntKind.u64.wrap ((BitVec.ofInt 64 (IntKind.u64.max) ^^^ BitVec.ofInt 64 (x.toNat : Int)).toNat : Int))) w = _
    rw [ofInt_cast, this, hw]; rfl
  · exact ok_none

theorem wrap_ofInt (n : Int) : IntKind.u64.wrap n = ((BitVec.ofInt 64 n).toNat : Int) := by
  rw [u64_wrap_emod, BitVec.toNat_ofInt]
  have : (0:Int) ≤ n % 18446744073709551616 := by omega
  simp; omega

theorem run_convert_ii {src dst : TypeId} {ks kd k : IntKind} (hs : P.underlying src = some (.int ks)) (hd : P.underlying dst = some (.int kd)) (n : Int) :
    (convert src dst (.int k n)).run P w = .ok (.int kd (kd.wrap n)) w := by
  simp [convert, run_underlying hs, run_underlying hd, Conv.intToInt]

theorem convE_ok (src dst : TypeId) (x : SV) : (convE P src dst x).ok (Runs E P (convert src dst (x.den E)) w) := by
  unfold convE
  split
  · rename_i hs hd
    split
    · exact ok_val (by simp only [Runs, SV.den, run_convert_ii w hs hd, wrap_ofInt])
    · exact ok_val (by simp only [Runs, SV.den, run_convert_ii w hs hd])
  · rename_i hs hd
    split
    · exact ok_val (by simp only [Runs, SV.den, run_convert_ii w hs hd]; rw [u64_wrap_nat _ (BitVec.isLt _)])
    · exact ok_val (by simp only [Runs, SV.den, run_convert_ii w hs hd])
  · rename_i hs hd
    exact ok_val (by simp [Runs, convert, run_underlying hs, run_underlying hd, SV.den])
  · rename_i hs hd
    exact ok_val (by simp [Runs, convert, run_underlying hs, run_underlying hd, SV.den, Conv.intToFloat, fOfInt])
  · rename_i hs hd
    exact ok_val (by simp [Runs, convert, run_underlying hs, run_underlying hd, SV.den, Conv.intToFloat, fOfInt])
  · rename_i hs hd
    rename_i fk kd0 b
    have key : ∀ kd : IntKind, P.underlying dst = some (.int kd) → fIn kd b = true → (convert src dst (.float .f64 b)).run P w = .ok (.int kd ((fToInt b).getD 0)) w := by
      intro kd hd h
      unfold fIn at h
      split at h
      · rename_i n hn
        simp only [decide_eq_true_eq] at h
        have hn' := hn
        unfold fToInt at hn'
        simp [convert, run_underlying hs, run_underlying hd, Conv.floatToInt, hn', hn, h.1, h.2]
      · cases h
    split
    · refine ok_chk fun h => ?_
      refine (key .u64 hd h).trans ?_
      unfold fIn at h
      split at h
      · rename_i n hn
        simp only [decide_eq_true_eq] at h
        have h1 : (0 : Int) ≤ n := h.1
        have h2 : n ≤ 18446744073709551615 := h.2
        rw [hn]
        show Result.ok (Value.int .u64 n) w = Result.ok (Value.int .u64 ((BitVec.ofInt 64 n).toNat : Int)) w
        rw [BitVec.toNat_ofInt]
        congr 2
        have : ((n % ((2 ^ 64 : Nat) : Int)).toNat : Int) = n := by
          rw [Int.emod_eq_of_lt h1 (by omega)]; omega
        exact this.symm
      · cases h
    · exact ok_chk fun h => key _ hd h
  · rename_i hs hd
    exact ok_val (by simp [Runs, convert, run_underlying hs, run_underlying hd, SV.den, Conv.floatToFloat])
  · exact ok_none

theorem eqGuard_run (op : BinOp) (t : TypeId) (x y : Operand) {a : Value} (b : Value) (h1 : ∀ c, a ≠ .agg c) (h2 : a ≠ .nilIface) : (eqGuard op t x y a b).run P w = .ok () w := by
  cases a <;> first | exact absurd rfl h2 | exact absurd rfl (h1 _) | (cases op <;> rfl)

theorem binE_plain {op : BinOp} {t : TypeId} {x y : SV} {r : Option DP × SV} (h : binE P op t x y = some r) : (∀ c, (x.den E) ≠ .agg c) ∧ (x.den E) ≠ .nilIface := by
  have hb : (∃ v, x = .raw v) ∨ (∃ v, x = .agg v) ∨ (∃ v, x = .unk v) ∨ ((∀ c, (x.den E) ≠ .agg c) ∧ (x.den E) ≠ .nilIface) := by
    cases x with
    | raw v => exact .inl ⟨v, rfl⟩
    | agg v => exact .inr (.inl ⟨v, rfl⟩)
    | unk v => exact .inr (.inr (.inl ⟨v, rfl⟩))
    | _ => exact .inr (.inr (.inr ⟨fun c hc => by simp [SV.den] at hc, fun hc => by simp [SV.den] at hc⟩))
  rcases hb with ⟨v, rfl⟩ | ⟨v, rfl⟩ | ⟨v, rfl⟩ | hb
  · exfalso
    unfold binE at h
    split at h
    · unfold shE at h; split at h <;> simp at h
    · unfold shE at h; split at h <;> simp at h
    · split at h <;> simp_all [toB]
  · exfalso
    unfold binE at h
    split at h
    · unfold shE at h; split at h <;> simp at h
    · unfold shE at h; split at h <;> simp at h
    · split at h <;> simp_all [toB]
  · exfalso
    unfold binE at h
    split at h
    · unfold shE at h; split at h <;> simp at h
    · unfold shE at h; split at h <;> simp at h
    · split at h <;> simp_all [toB]
  · exact hb

theorem denL_append (a b : List SV) : denL E (a ++ b) = denL E a ++ denL E b := by simp [denL_map]
theorem denL_length (a : List SV) : (denL E a).length = a.length := by simp [denL_map]
theorem denL_get? (a : List SV) (i : Nat) : (denL E a)[i]? = (a[i]?).map (SV.den E) := by simp [denL_map]

theorem isAggT_run {t : TypeId} {d : TypeDesc} (h : P.underlying t = some d) : (isAgg t).run P w = .ok (isAggT P t) w := by
  unfold isAgg isAggT
  rw [h]
  cases d <;> simp [run_underlying h]

theorem partE_ok (t : TypeId) (cs : List SV) (off : Nat) : (partE P t cs off).ok fun v => (part t (denL E cs).toArray off).run P w = .ok (v.den E) w := by
  unfold partE
  split
  · rename_i i d hi hd
    split
    · rename_i ha
      refine ok_val ?_
      simp [part, isAggT_run w hd, ha, sizeOf, typeInfo, hi, SV.den, denL_map, List.map_take, List.map_drop]
    · rename_i ha
      split
      · rename_i v hv
        refine ok_val ?_
        simp [part, isAggT_run w hd, ha, denL_get?, hv]
      · exact ok_none
  · exact ok_none

theorem allB_cons (b : Bool) : ∀ l, allB (b :: l) = (b && allB l)
  | [] => by simp [allB]
  | _ :: _ => rfl
theorem equalIn_int {t : TypeId} {kk : IntKind} (hu : P.underlying t = some (.int kk)) (d : Nat) (k : IntKind) (a b : Int) :
    (Op.equalIn (d + 1) t (.int k a) (.int k b)).run P w = .ok (decide (a = b)) w := by
  rw [Op.equalIn, Sem.run_bind, run_underlying hu]
  show (if k = k then pure (a == b) else stuck "==: kinds differ" : Sem Bool).run P w = _
  rw [if_pos rfl]
  rfl
/-- One field of a struct comparison. -/
def eqStep (d : Nat) (X Y : Array Value) (f : Field) : Sem (ForInStep (Option Bool × Unit)) :=
  if f.name ≠ "_" then do
    if !(← Op.equalIn d f.type (← part f.type X f.offset) (← part f.type Y f.offset)) then pure (ForInStep.done (some false, ()))
    else pure (ForInStep.yield (none, ()))
  else pure (ForInStep.yield (none, ()))
theorem eqStep_run {f : Field} {d : Nat} {xs ys : List SV} {b : Bool} (h : fldEq P f xs ys = some b) :
    (eqStep (d + 1) (denL E xs).toArray (denL E ys).toArray f).run P w = .ok (if b = true then .yield (none, ()) else .done (some false, ())) w := by
  unfold fldEq at h
  split at h
  · rename_i k0 k a k' c i hn hu hx hy hi
    split at h
    · rename_i hk
      subst hk
      simp only [Option.some.injEq] at h
      subst h
      have hn' : f.name ≠ "_" := by simpa using hn
      have h0 : isAggT P f.type = false := by unfold isAggT; rw [hu]
      have hp : ∀ zs : List SV, ∀ n, zs[f.offset]? = some (.int k n) → (part f.type (denL E zs).toArray f.offset).run P w = .ok (.int k n) w := by
        intro zs n hz
        simp [part, isAggT_run w hu, h0, denL_get?, hz, SV.den]
      unfold eqStep
      rw [if_pos hn']
      simp only [Sem.run_bind, hp xs a hx, hp ys c hy, Result.andThen, equalIn_int w hu]
      by_cases hac : a = c
      · simp [hac]
      · simp [hac]
    · cases h
  · cases h

theorem fldsEq_run (d : Nat) (xs ys : List SV) : ∀ (fs : List Field) (bs : List Bool), fldsEq P xs ys fs = some bs →
    (forIn fs ((none, ()) : Option Bool × Unit) (fun f _ => eqStep (d + 1) (denL E xs).toArray (denL E ys).toArray f) : Sem (Option Bool × Unit)).run P w = .ok (if allB bs = true then none else some false, ()) w
  | [], bs, h => by
    simp only [fldsEq, Option.some.injEq] at h
    subst h
    simp [allB]
  | f :: r, bs, h => by
    rw [fldsEq] at h
    split at h
    · rename_i b l hb hl
      simp only [Option.some.injEq] at h
      subst h
      rw [List.forIn_cons, Sem.run_bind, eqStep_run w hb, allB_cons]
      cases b with
      | true => exact fldsEq_run d xs ys r l hl
      | false => rfl
    · cases h

theorem equal_agg {t : TypeId} {fs : Array Field} {xs ys : List SV} {bs : List Bool} (hu : P.underlying t = some (.struct fs)) (hs : P.stoodInHeld t = false) (h : fldsEq P xs ys fs.toList = some bs) :
    (Op.equal t (.agg (denL E xs).toArray) (.agg (denL E ys).toArray)).run P w = .ok (allB bs) w := by
  have h1 := fldsEq_run (E := E) (P := P) w 9998 xs ys fs.toList bs h
  rw [Op.equal, Op.maxDepth, Op.equalIn, Sem.run_bind, run_underlying hu]
  unfold eqStep at h1
  have hp : (program : Sem Program).run P w = .ok P w := rfl
  simp only [Result.andThen, Sem.run_bind, hp, hs, Bool.false_eq_true, if_false]
  rw [← Array.forIn_toList]
  erw [h1]
  by_cases hb : allB bs = true
  · simp [hb]
  · simp only [Bool.not_eq_true] at hb
    rw [hb]; rfl

theorem aggE_ok (op : BinOp) (t : TypeId) (xs ys : List SV) (x y : Operand) : (aggE P op t xs ys).ok (Runs E P (do eqGuard op t x y (.agg (denL E xs).toArray) (.agg (denL E ys).toArray); binOp op t (.agg (denL E xs).toArray) (.agg (denL E ys).toArray)) w) := by
  unfold aggE
  split
  · rename_i fs hu
    split
    · exact ok_none
    · rename_i hg
      simp only [Bool.or_eq_false_iff] at hg
      split
      · rename_i bs hb
        refine ok_val ?_
        have h := equal_agg (E := E) (P := P) w hu hg.1 hb
        rw [Runs, Sem.run_bind]
        have h2 : (eqGuard .eql t x y (.agg (denL E xs).toArray) (.agg (denL E ys).toArray)).run P w = .ok () w := by
          simp [eqGuard, hg.2]
        rw [h2]
        show (do pure (.bool (← Op.equal t (.agg (denL E xs).toArray) (.agg (denL E ys).toArray))) : Sem Value).run P w = _
        rw [Sem.run_bind, h]
        rfl
      · rename_i bs hb
        refine ok_val ?_
        have h := equal_agg (E := E) (P := P) w hu hg.1 hb
        rw [Runs, Sem.run_bind]
        have h2 : (eqGuard .neq t x y (.agg (denL E xs).toArray) (.agg (denL E ys).toArray)).run P w = .ok () w := by
          simp [eqGuard, hg.2]
        rw [h2]
        show (do pure (.bool (!(← Op.equal t (.agg (denL E xs).toArray) (.agg (denL E ys).toArray)))) : Sem Value).run P w = _
        rw [Sem.run_bind, h]
        rfl
      · exact ok_none
  · exact ok_none

theorem fieldE_ok (t : TypeId) (x : SV) (f : Nat) : (fieldE P t x f).ok (Runs E P (Instr.field t (x.den E) f) w) := by
  unfold fieldE
  split
  · rename_i fs cs hu
    split
    · rename_i fd hf
      have h := partE_ok (E := E) (P := P) w fd.type cs fd.offset
      intro p v he hp
      have := h p v he hp
      rw [Runs]
      simp only [Instr.field, SV.den, Sem.run_bind, run_underlying hu, Result.andThen, hf]
      simpa [asAgg] using this
    · exact ok_none
  · exact ok_none

theorem extractE_ok (x : SV) (i : Nat) : (extractE x i).ok (Runs E P (Instr.extract (x.den E) i) w) := by
  unfold extractE
  split
  · split
    · rename_i v hv
      refine ok_val ?_
      simp [Runs, Instr.extract, SV.den, denL_get?, hv]
    · exact ok_none
  · exact ok_none

theorem cellsV_den (v : SV) (h : isRawAgg v = false) : (v.den E).cells = (denL E (cellsV v)).toArray := by
  cases v with
  | raw u => cases u <;> first | rfl | simp [isRawAgg] at h
  | unk t => simp [isRawAgg] at h
  | _ => rfl

theorem denL_splice (cs : List SV) (off : Nat) (vs : List SV) : denL E (splice cs off vs) = (vs.zipIdx off).foldl (fun c (x, j) => c.set j (x.den E)) (denL E cs) := by
  induction vs generalizing cs off with
  | nil => rfl
  | cons v r ih => simp [splice, ih, denL_set]

theorem splice_length (cs : List SV) (off : Nat) (vs : List SV) : (splice cs off vs).length = cs.length := by
  induction vs generalizing cs off with
  | nil => rfl
  | cons v r ih => simp [splice, ih]

theorem fill_cells (off : Nat) (vs : List Value) (cs : Array Value) (k : Nat) :
    (vs.zipIdx k).foldl (fun cs (c, j) => cs.setIfInBounds (off + j) c) cs = ((vs.zipIdx (off + k)).foldl (fun c (x, j) => c.set j x) cs.toList).toArray := by
  induction vs generalizing cs k with
  | nil => simp
  | cons v r ih =>
    simp only [List.zipIdx_cons, List.foldl_cons]
    rw [ih]
    simp [Nat.add_assoc]

theorem fill_sound (place : Nat → Option (Nat × Nat)) (cs cs' : List SV) (l : List (Nat × SV)) (hn : noRawAgg l = true) (h : fillV place cs l = some cs') :
    Instr.fill place (denL E cs).toArray (l.map fun q => (q.1, q.2.den E)) = some (denL E cs').toArray := by
  induction l generalizing cs with
  | nil => simp only [fillV, Option.some.injEq] at h; subst h; rfl
  | cons q r ih =>
    obtain ⟨i, v⟩ := q
    simp only [noRawAgg, List.all_cons, Bool.and_eq_true, Bool.not_eq_true'] at hn
    simp only [fillV] at h
    cases hp : place i with
    | none => simp [hp] at h
    | some os =>
      obtain ⟨off, size⟩ := os
      simp only [hp] at h
      split at h
      · rename_i hc
        have hcell := cellsV_den (E := E) v hn.1
        have hlen : (v.den E).cells.size = (cellsV v).length := by rw [hcell]; simp [denL_length]
        simp only [List.map_cons, Instr.fill, hp, hlen]
        have e1 : ((cellsV v).length != size || decide (off + (cellsV v).length > (denL E cs).toArray.size)) = false := by
          simp [denL_length]; omega
        rw [if_neg (by simp [denL_length]; omega)]
        have e2 : ((v.den E).cells.zipIdx.foldl (fun cs (c, j) => cs.setIfInBounds (off + j) c) (denL E cs).toArray) = (denL E (splice cs off (cellsV v))).toArray := by
          rw [hcell]
          have := fill_cells off (denL E (cellsV v)) (denL E cs).toArray 0
          simp only [Nat.add_zero] at this
          rw [denL_splice]
          simp only [denL_map, List.zipIdx_map, List.foldl_map] at this ⊢
          simp at this ⊢
          rw [List.zipIdx_map, List.foldl_map]
          exact this
        rw [e2]
        exact ih _ hn.2 h
      · cases h

theorem ofCell_den (v : Value) : ((ofCell v).den E) = v := by
  cases v with
  | int k n =>
    cases k <;> try rfl
    simp only [ofCell]
    split
    · rename_i hn
      simp only [SV.den, BitVec.toNat_ofNat]
      congr 1
      omega
    · rfl
  | float k n => cases k <;> rfl
  | slice a l c =>
    simp only [ofCell]
    split <;> first | rfl | (simp_all [SV.den])
  | _ => rfl

theorem denL_ofCell (l : List Value) : denL E (l.map ofCell) = l := by
  induction l with
  | nil => rfl
  | cons v r ih => simp [denL, ih, ofCell_den]

theorem zeroE_run {t : TypeId} {z : List SV} (h : zeroE P t = some z) : ∃ zv, (zeroValue t).run P w = .ok zv w ∧ zv.cells = (denL E z).toArray := by
  unfold zeroE at h
  split at h
  · rename_i i hi
    split at h
    · rename_i zv hz
      simp only [Option.some.injEq] at h
      subst h
      refine ⟨zv, by simp [zeroValue, typeInfo, hi, hz], ?_⟩
      rw [denL_ofCell]
    · cases h
  · cases h

theorem structPlaces_run {fs : List Field} {pl : List (Nat × Nat)} (h : structPlaces P fs = some pl) :
    (fs.mapM fun f => do pure (f.offset, ← sizeOf f.type) : Sem (List (Nat × Nat))).run P w = .ok pl w := by
  induction fs generalizing pl with
  | nil => simp only [structPlaces, Option.some.injEq] at h; subst h; rfl
  | cons f r ih =>
    simp only [structPlaces] at h
    split at h
    · rename_i i l hi hl
      simp only [Option.some.injEq] at h
      subst h
      have hsz : (sizeOf f.type).run P w = .ok i.size w := by simp [sizeOf, typeInfo, hi]
      simp only [List.mapM_cons, Sem.run_bind, hsz, Result.andThen, Sem.run_pure, ih hl]
    · cases h

theorem buildE_ok (t : TypeId) (parts : List (Nat × SV)) : (buildE P t parts).ok (Runs E P (Instr.build t (parts.map fun q => (q.1, q.2.den E)).toArray) w) := by
  unfold buildE
  split
  · exact ok_none
  rename_i hn
  have hn : noRawAgg parts = true := by simpa using hn
  split
  · rename_i z fs hz hu
    obtain ⟨zv, hzr, hzc⟩ := zeroE_run (E := E) w hz
    split
    · rename_i pl hpl
      split
      · rename_i cs hf
        refine ok_val ?_
        have h1 := structPlaces_run w hpl
        have h2 := fill_sound (E := E) (fun i => pl[i]?) z cs parts hn hf
        have h3 : (fs.mapM fun f => do pure (f.offset, ← sizeOf f.type) : Sem (Array (Nat × Nat))).run P w = .ok pl.toArray w := by
          rw [Array.mapM_eq_mapM_toList, map_eq_pure_bind, Sem.run_bind, h1]
          rfl
        rw [Runs]
        simp only [Instr.build, Sem.run_bind, hzr, Result.andThen, run_underlying hu, h3, hzc]
        simp only [List.getElem?_toArray, h2]
        rfl
      · exact ok_none
    · exact ok_none
  · rename_i z n e hz hu
    obtain ⟨zv, hzr, hzc⟩ := zeroE_run (E := E) w hz
    split
    · rename_i i hi
      split
      · rename_i cs hf
        refine ok_val ?_
        have h2 := fill_sound (E := E) _ z cs parts hn hf
        rw [Runs]
        simp only [Instr.build, Sem.run_bind, hzr, Result.andThen, run_underlying hu, sizeOf, typeInfo, hzc]
        simp [hi, h2, SV.den]
      · exact ok_none
    · exact ok_none
  · exact ok_none

theorem idxOf_den {x : SV} {n : Int} (h : idxOf x = some n) : ∃ k, (x.den E) = .int k n := by
  cases x <;> simp only [idxOf, Option.some.injEq, reduceCtorEq] at h
  case int k y => subst h; exact ⟨k, rfl⟩
  case u64 y => subst h; exact ⟨.u64, rfl⟩

theorem add_loc (b off n : Nat) : (⟨b, off, none⟩ : Addr).add n = ⟨b, off + n, none⟩ := by
  unfold Addr.add
  split
  · rename_i h; subst h; rfl
  · rfl

theorem indexAddrE_ok (t : TypeId) (x i : SV) : (indexAddrE P t x i).ok (Runs E P (Instr.indexAt t (x.den E) (i.den E)) w) := by
  unfold indexAddrE
  split
  · rename_i hu hx
    split
    · rename_i q hq
      refine ok_chk ?_
      rintro ⟨h2, h3⟩
      obtain ⟨k, hk⟩ := idxOf_den (E := E) hx
      rw [Runs, hk]
      simp [Instr.indexAt, asIntOf, SV.den, run_underlying hu, sizeOf, typeInfo, hq, h2, h3, Instr.sureAddr, add_loc, Nat.add_assoc]
    · exact ok_none
  · rename_i hu hx
    split
    · rename_i q hq
      split
      · rename_i h1
        refine ok_chk ?_
        rintro ⟨h2, h3⟩
        obtain ⟨k, hk⟩ := idxOf_den (E := E) hx
        rw [Runs, hk]
        simp [Instr.indexAt, asIntOf, SV.den, run_underlying hu, sizeOf, typeInfo, hq, h1, h2, h3, Instr.sureAddr, Addr.add]
      · exact ok_none
    · exact ok_none
  · exact ok_none

theorem fieldAddrE_ok (t : TypeId) (x : SV) (f : Nat) : (fieldAddrE P t x f).ok (Runs E P (Instr.fieldAt t (x.den E) f) w) := by
  unfold fieldAddrE
  split
  · rename_i fs i off hu
    split
    · rename_i fd hf
      split
      · rename_i q hq
        split
        · exact ok_none
        · rename_i h0
          refine ok_val ?_
          simp [Runs, Instr.fieldAt, SV.den, run_underlying hu, hf, Instr.sureAddr, fieldPlace, sizeOf, typeInfo, hq, h0, add_loc, Nat.add_assoc]
      · exact ok_none
    · exact ok_none
  · rename_i fs i k sz off hu
    split
    · rename_i fd hf
      split
      · rename_i q hq
        split
        · exact ok_none
        · rename_i h0
          refine ok_val ?_
          simp [Runs, Instr.fieldAt, SV.den, run_underlying hu, hf, Instr.sureAddr, fieldPlace, sizeOf, typeInfo, hq, h0, add_loc, Nat.add_assoc]
      · exact ok_none
    · exact ok_none
  · exact ok_none

theorem run_bound {x : SV} {n : Int} (h : idxOf x = some n) (y : Nat) (c : BoundsCode) (h0 : 0 ≤ n) (h1 : n ≤ y) : (Instr.sliceBound (x.den E) y c).run P w = .ok n.toNat w := by
  obtain ⟨k, hk⟩ := idxOf_den h
  rw [hk]
  simp [Instr.sliceBound, asIntOf, h0, h1]

theorem bounds_run {low high : Option SV} {h l : Option Int} {hn ln len cap d : Nat} (b : Bool) (hh : bnd high d = some (h, hn)) (hl : bnd low 0 = some (l, ln)) (hd : d = len) (hb : Bd l h hn cap) :
    (Instr.sliceBounds b len cap (low.map (SV.den E)) (high.map (SV.den E)) none).run P w = .ok (ln, hn, cap) w := by
  subst hd
  unfold bnd at hh hl
  obtain ⟨b1, b2⟩ := hb
  cases high with
  | none =>
    simp only [Option.some.injEq, Prod.mk.injEq] at hh
    obtain ⟨rfl, rfl⟩ := hh
    cases low with
    | none =>
      simp only [Option.some.injEq, Prod.mk.injEq] at hl
      obtain ⟨rfl, rfl⟩ := hl
      simp [Instr.sliceBounds]
    | some x =>
      simp only at hl
      split at hl
      · rename_i n hx
        simp only [Option.some.injEq, Prod.mk.injEq] at hl
        obtain ⟨rfl, rfl⟩ := hl
        simp [Instr.sliceBounds, run_bound w hx _ _ b2.1 b2.2]
      · cases hl
  | some y =>
    simp only at hh
    split at hh
    · rename_i m hy
      simp only [Option.some.injEq, Prod.mk.injEq] at hh
      obtain ⟨rfl, rfl⟩ := hh
      cases low with
      | none =>
        simp only [Option.some.injEq, Prod.mk.injEq] at hl
        obtain ⟨rfl, rfl⟩ := hl
        simp [Instr.sliceBounds, run_bound w hy _ _ b1.1 b1.2]
      | some x =>
        simp only at hl
        split at hl
        · rename_i n hx
          simp only [Option.some.injEq, Prod.mk.injEq] at hl
          obtain ⟨rfl, rfl⟩ := hl
          simp [Instr.sliceBounds, run_bound w hy _ _ b1.1 b1.2, run_bound w hx _ _ b2.1 b2.2]
        · cases hl
    · cases hh

theorem sliceE_ok (t : TypeId) (x : SV) (low high max : Option SV) : (sliceE P t x low high max).ok (Runs E P (Instr.sliceAt t (x.den E) (low.map (SV.den E)) (high.map (SV.den E)) (max.map (SV.den E))) w) := by
  unfold sliceE
  split
  · rename_i s hu
    split
    · rename_i h hn l ln hh hl
      refine ok_chk fun hb => ?_
      simp only [Runs, Instr.sliceAt, Option.map_none, SV.den, Sem.run_bind, run_underlying hu, Result.andThen]
      simp only [Instr.slice, Sem.run_bind, run_underlying hu, Result.andThen]
      simp [bounds_run w false hh hl rfl hb]
    · exact ok_none
  · exact ok_none

theorem indexE_ok (t : TypeId) (x i : SV) : (indexE P t x i).ok (Runs E P (Instr.index t (x.den E) (i.den E)) w) := by
  unfold indexE
  split
  · rename_i s n hu hx
    refine ok_chk ?_
    rintro ⟨h0, h1⟩
    obtain ⟨k, hk⟩ := idxOf_den hx
    have hlt : n.toNat < s.size := by omega
    have hb : s[n.toNat]? = some s[n.toNat] := getElem?_pos s n.toNat hlt
    have hb' : s.data[n.toNat]? = some s[n.toNat] := by
      have : n.toNat < s.data.size := hlt
      rw [Array.getElem?_eq_getElem this]; rfl
    rw [Runs, hk]
    simp only [Instr.index, asIntOf, SV.den, Sem.run_bind, Sem.run_pure, Result.andThen, run_underlying hu, h0, if_true, hb, sget, hb']
    rfl
  · exact ok_none

theorem lenE_ok (t : TypeId) (ts : List TypeId) (x : SV) (xs : List Value) (r : TypeId) : (lenE P t x).ok (Runs E P (Builtin.len_ (t :: ts).toArray r ((x.den E) :: xs).toArray) w) := by
  unfold lenE
  split
  · rename_i hu
    exact ok_val (by simp [Runs, Builtin.len_, run_underlying hu, SV.den, goInt])
  · rename_i hu
    exact ok_val (by simp [Runs, Builtin.len_, run_underlying hu, SV.den, goInt])
  · exact ok_none

theorem builtinE_ok (b : Builtin) (ts : List TypeId) (xs : List SV) (r : TypeId) (cs : Array Bool) :
    (builtinE P b ts xs).ok fun v => (builtin b ts.toArray r cs (xs.map (SV.den E)).toArray).run P w = .ok (.value (v.den E)) w := by
  unfold builtinE
  split
  · rename_i t ts x xs
    have h := lenE_ok (E := E) (P := P) w t ts x (xs.map (SV.den E)) r
    intro p v he hp
    have := h p v he hp
    rw [Runs] at this
    simp only [List.map_cons, builtin, Sem.run_bind, this, Result.andThen]
    rfl
  · split
    · rename_i hk; subst hk
      refine ok_val ?_
      simp [builtin, Builtin.max_, Builtin.max2, SV.den]
    · exact ok_none
  · split
    · rename_i hk; subst hk
      refine ok_val ?_
      simp [builtin, Builtin.min_, Builtin.min2, SV.den]
    · exact ok_none
  · rename_i a b
    refine ok_chk fun h => ?_
    obtain ⟨o, ho⟩ := Option.isSome_iff_exists.1 h
    have ho' := ho
    unfold fOrd at ho'
    cases o <;> simp [builtin, Builtin.max_, Builtin.max2, SV.den, ho', ho, fMax, fNegative] <;> rfl
  · rename_i a b
    refine ok_chk fun h => ?_
    obtain ⟨o, ho⟩ := Option.isSome_iff_exists.1 h
    have ho' := ho
    unfold fOrd at ho'
    cases o <;> simp [builtin, Builtin.min_, Builtin.min2, SV.den, ho', ho, fMin, fNegative] <;> rfl
  · exact ok_none

theorem Pu.ok.mono {r : Pu} {R R' : SV → Prop} (h : r.ok R) (hr : ∀ v, R v → R' v) : r.ok R' := fun p v he hp => hr v (h p v he hp)

theorem run_value {s : Sem Value} {v : SV} (h : Runs E P s w v) : (do pure (Next.value (← s)) : Sem Next).run P w = .ok (.value (v.den E)) w := by
  rw [Sem.run_bind, h]; rfl

theorem pureOp_ok (ρ : Operand → SV) (op : Op) :
    (pureOp P ρ op).ok fun v => ∀ o : Oper, o.op = op → (execOp (fun x => ((ρ x).den E)) o).run P w = .ok (.value (v.den E)) w := by
  unfold pureOp
  split
  · exact ok_val fun o ho => by simp [execOp, ho]
  · exact ok_val fun o ho => by simp [execOp, ho]
  · split
    · rename_i t hc
      refine ok_val fun o ho => ?_
      simp [execOp, ho, hc, SV.den, asBool]
      cases t <;> simp
    · exact ok_none
  · rename_i op' t x y _
    intro p v he hp o ho
    by_cases hag : ∃ xs ys, ρ x = .agg xs ∧ ρ y = .agg ys
    · obtain ⟨xs, ys, hx, hy⟩ := hag
      rw [hx, hy] at he
      have h := aggE_ok (E := E) (P := P) w op' t xs ys x y p v he hp
      simp only [execOp, ho, hx, hy]
      exact run_value w h
    have he : binE P op' t (ρ x) (ρ y) = some (p, v) := by
      rw [← he, bin2E]
      intro xs ys h1 h2
      exact absurd ⟨xs, ys, h1, h2⟩ hag
    have h := binE_ok (E := E) (P := P) w op' t (ρ x) (ρ y) p v he hp
    obtain ⟨h1, h2⟩ := binE_plain he
    have hg := eqGuard_run (P := P) w op' t x y ((ρ y).den E) h1 h2
    rw [Runs] at h
    simp only [execOp, ho]
    refine run_value w ?_
    rw [Runs, Sem.run_bind, hg]
    exact h
  · exact (unE_ok w _ _).mono fun v h o ho => by simp only [execOp, ho]; exact run_value w h
  · exact (convE_ok w _ _ _).mono fun v h o ho => by simp only [execOp, ho]; exact run_value w h
  · exact (extractE_ok w _ _).mono fun v h o ho => by simp only [execOp, ho]; exact run_value w h
  · exact (fieldE_ok w _ _ _).mono fun v h o ho => by simp only [execOp, ho]; exact run_value w h
  · rename_i t parts
    refine (buildE_ok (E := E) w _ _).mono fun v h o ho => ?_
    simp only [execOp, ho]
    refine run_value w ?_
    have : (parts.map fun (i, x) => (i, ((ρ x).den E))) = (List.map (fun q => (q.1, q.2.den E)) (List.map (fun q => (q.1, ρ q.2)) parts.toList)).toArray := by
      rw [List.map_map]; simp [Function.comp_def]
      rw [← Array.toList_map]
    rw [this]
    exact h
  · exact (indexAddrE_ok w _ _ _).mono fun v h o ho => by simp only [execOp, ho]; exact run_value w h
  · exact (fieldAddrE_ok w _ _ _).mono fun v h o ho => by simp only [execOp, ho]; exact run_value w h
  · refine (sliceE_ok (E := E) w _ _ _ _ _).mono fun v h o ho => ?_
    simp only [execOp, ho]
    refine run_value w ?_
    simpa [Option.map_map, Function.comp_def] using h
  · exact (indexE_ok w _ _ _).mono fun v h o ho => by simp only [execOp, ho]; exact run_value w h
  · split
    · rename_i i k sz off hx
      exact ok_val fun o ho => by simp [execOp, ho, hx, SV.den]
    · rename_i i off hx
      exact ok_val fun o ho => by simp [execOp, ho, hx, SV.den]
    · rename_i f cs hx
      exact ok_val fun o ho => by simp [execOp, ho, hx, SV.den]
    · exact ok_none
  · rename_i fn first captured
    split
    · rename_i f
      refine ok_val fun o ho => ?_
      have e : (captured.map fun x => ((ρ x).den E)) = ((captured.toList.map ρ).map (SV.den E)).toArray := by
        rw [List.map_map, ← Array.toList_map]; rfl
      simp only [execOp, ho, Instr.makeFunc, SV.den, denL_map]
      rw [e]
      simp
    · exact ok_none
  · rename_i b args ts
    intro p v he hp o ho
    have h := fun cs => builtinE_ok (E := E) (P := P) w b ts.toList (args.toList.map ρ) o.type cs p v he hp
    simp only [Array.toArray_toList] at h
    simp only [execOp, ho, resolve, invoke, Sem.run_bind, Sem.run_pure, Result.andThen]
    have e : (Array.map (fun x => ((ρ x).den E)) args) = ((args.toList.map ρ).map (SV.den E)).toArray := by
      rw [List.map_map, ← Array.toList_map]; rfl
    rw [e]
    exact h _
  · exact ok_none

end

end
end Go.V3
