/-
  A checked reckoner of conditions for walks: 'vc' reckons, out of a function's code, what is to be shown of a call; 'calls_of_vc' says that this is enough. No program in sight.
-/
import Derived.WalkKit
import Derived.Deep.Quiet
import Derived.StillTail
import Derived.Scope
namespace Go.Vm
open Go

/-- A value with its parts in view. -/
inductive SV where
  | int (k : IntKind) (n : Int)
  | u64 (x : BitVec 64)
  | bool (b : Bool)
  | blit (b : Bool)
  | prop (p : Prop) (d : Decidable p)
  | str (s : ByteArray)
  | sl (a : Option Addr) (len cap : Nat)
  | ptr (a : Option Addr)
  | raw (v : Value)
  | agg (cs : List SV)
  | tup (vs : List SV)

mutual
def SV.den : SV → Value
  | .int k n => .int k n
  | .u64 x => .int .u64 (x.toNat : Int)
  | .bool b => .bool b
  | .blit b => .bool b
  | .prop p d => .bool (@decide p d)
  | .str s => .string s
  | .sl a l c => .slice a l c
  | .ptr a => .pointer a
  | .raw v => v
  | .agg cs => .agg (denL cs).toArray
  | .tup vs => .tuple (denL vs).toArray
def denL : List SV → List Value
  | [] => []
  | v :: r => v.den :: denL r
end

theorem denL_map (l : List SV) : denL l = l.map SV.den := by
  induction l with
  | nil => rfl
  | cons v r ih => simp [denL, ih]

abbrev Heap := Array Obj

def undefV : SV := .raw undef

def ev (fr : List SV) : Operand → SV
  | .tmp t => fr.getD t undefV
  | .const v => match v with
    | .int .u64 n => if 0 ≤ n ∧ n < 18446744073709551616 then .u64 (BitVec.ofNat 64 n.toNat) else .raw (.int .u64 n)
    | .int k n => .int k n
    | .bool b => .blit b
    | .string s => .str s
    | .slice a l c => .sl a l c
    | .pointer a => .ptr a
    | v => .raw v
  | .global g => .ptr (some ⟨g, 0, none⟩)
  | .func f => .raw (.func (.func f) #[] #[])

def Sim (fr : List SV) (a : Act) : Prop := a.tmps = (denL fr).toArray ∧ a.defers = []

theorem denL_getD (fr : List SV) (t : Nat) : (denL fr).getD t undef = (fr.getD t undefV).den := by
  induction fr generalizing t with
  | nil => simp [denL, undefV, SV.den]
  | cons v r ih => cases t with
    | zero => simp [denL]
    | succ t => simpa [denL] using ih t

theorem ev_den {fr : List SV} {a : Act} (h : Sim fr a) (x : Operand) : a.eval x = (ev fr x).den := by
  cases x with
  | tmp t =>
    show a.tmps.getD t undef = _
    rw [h.1]
    have := denL_getD fr t
    simpa [ev] using this
  | const v =>
    show v = _
    cases v with
    | int k n =>
      cases k <;> try rfl
      simp only [ev]
      split
      · rename_i hn
        simp only [SV.den, BitVec.toNat_ofNat]
        congr 1
        omega
      · rfl
    | _ => rfl
  | global g => rfl
  | func f => rfl

theorem ev_fun {fr : List SV} {a : Act} (h : Sim fr a) : a.eval = fun x => (ev fr x).den := funext (ev_den h)

def putV (fr : List SV) (dst : Option Tmp) (v : SV) : List SV :=
  match dst with
  | some d => fr.set d v
  | none => fr

theorem denL_set (fr : List SV) (d : Nat) (v : SV) : denL (fr.set d v) = (denL fr).set d v.den := by
  induction fr generalizing d with
  | nil => rfl
  | cons x r ih => cases d with
    | zero => rfl
    | succ d => simp [denL, ih]

theorem Sim.put {fr : List SV} {a : Act} (h : Sim fr a) (dst : Option Tmp) (v : SV) : Sim (putV fr dst v) (a.put dst v.den) := by
  cases dst with
  | none => exact h
  | some d =>
    refine ⟨?_, h.2⟩
    show a.tmps.setIfInBounds d v.den = _
    rw [h.1]
    simp [putV, denL_set]

/-- The streams, the machine outside and the tape are as they were. -/
structure Rest (w w' : World) : Prop where
  os : w'.os = w.os
  tape : w'.tape = w.tape
  output : w'.output = w.output

theorem Rest.refl (w : World) : Rest w w := ⟨rfl, rfl, rfl⟩
theorem Rest.trans {a b c : World} (h : Rest a b) (k : Rest b c) : Rest a c := ⟨k.os.trans h.os, k.tape.trans h.tape, k.output.trans h.output⟩

/-- In range for a Go int, a Go uint64, and by kind. -/
def I64 (e : Int) : Prop := -9223372036854775808 ≤ e ∧ e ≤ 9223372036854775807
def U64 (e : Int) : Prop := 0 ≤ e ∧ e ≤ 18446744073709551615
def InK : IntKind → Int → Prop
  | .i64, e => I64 e
  | .u64, e => U64 e
  | .i8, e => -128 ≤ e ∧ e ≤ 127
  | .i16, e => -32768 ≤ e ∧ e ≤ 32767
  | .i32, e => -2147483648 ≤ e ∧ e ≤ 2147483647
  | .u8, e => 0 ≤ e ∧ e ≤ 255
  | .u16, e => 0 ≤ e ∧ e ≤ 65535
  | .u32, e => 0 ≤ e ∧ e ≤ 4294967295

theorem InK.wrap {k : IntKind} {e : Int} (h : InK k e) : k.wrap e = e := by
  cases k
  · exact IntWalk.i8_in e h
  · exact IntWalk.i16_in e h
  · exact IntWalk.i32_in e h
  · exact IntWalk.i64_in e h
  · exact IntWalk.u8_in e h
  · exact IntWalk.u16_in e h
  · exact IntWalk.u32_in e h
  · exact IntWalk.u64_in e h

/-- An address some cells behind another. -/
def padd (a : Option Addr) (n : Nat) : Option Addr := a.map (·.add n)
def Ix (a : Option Addr) (len : Nat) (i : Int) : Prop := a.isSome = true ∧ 0 ≤ i ∧ i < len
def sget (s : ByteArray) (i : Nat) : Int := ((s.data[i]?.getD 0).toNat : Int)

abbrev Pu := Option (Option Prop × SV)
def val (v : SV) : Pu := some (none, v)
def chk (p : Prop) (v : SV) : Pu := some (some p, v)

/-- The count of a shift. -/
def cnt : SV → Option (Prop × Nat)
  | .int _ n => some (0 ≤ n, n.toNat)
  | .u64 x => some (True, x.toNat)
  | _ => none

def shE (m : Nat) (op : BinOp) (x c : SV) : Pu :=
  match cnt c with
  | none => none
  | some (p, n) => match op, x with
    | .shl, .int .i64 a => if m = 0 then chk (p ∧ n < 64 ∧ I64 (a * 2 ^ n)) (.int .i64 (a * 2 ^ n)) else chk p (.int .i64 (IntKind.i64.wrap (a * 2 ^ min n 64)))
    | .shr, .int .i64 a => if m = 0 then chk (p ∧ n < 64) (.int .i64 (a / 2 ^ n)) else chk p (.int .i64 (a.fdiv (2 ^ min n 64)))
    | .shl, .u64 b => chk p (.u64 (b <<< n))
    | .shr, .u64 b => chk p (.u64 (b >>> n))
    | _, _ => none

/-- Bits of two Go ints. -/
def iBits (op : BinOp) (a b : Int) : Int :=
  let x := BitVec.ofInt 64 a
  let y := BitVec.ofInt 64 b
  IntKind.i64.wrap (match op with | .and => x &&& y | .or => x ||| y | .xor => x ^^^ y | _ => x &&& ~~~y).toNat

def intE (m : Nat) (op : BinOp) (k : IntKind) (a b : Int) : Pu :=
  match op with
  | .add => if m = 0 then chk (InK k (a + b)) (.int k (a + b)) else val (.int k (k.wrap (a + b)))
  | .sub => if m = 0 then chk (InK k (a - b)) (.int k (a - b)) else val (.int k (k.wrap (a - b)))
  | .mul => if m = 0 then chk (InK k (a * b)) (.int k (a * b)) else val (.int k (k.wrap (a * b)))
  | .quo => if m = 0 then chk (0 ≤ a ∧ 0 < b ∧ InK k (a / b)) (.int k (a / b)) else chk (b ≠ 0) (.int k (k.wrap (a.tdiv b)))
  | .rem => if m = 0 then chk (0 ≤ a ∧ 0 < b) (.int k (a % b)) else chk (b ≠ 0) (.int k (a.tmod b))
  | .and | .or | .xor | .andNot => match k with | .i64 => val (.int .i64 (iBits op a b)) | _ => none
  | .eql => val (.prop (a = b) inferInstance)
  | .neq => val (.prop (¬ a = b) inferInstance)
  | .lss => val (.prop (a < b) inferInstance)
  | .leq => val (.prop (a ≤ b) inferInstance)
  | .gtr => val (.prop (a > b) inferInstance)
  | .geq => val (.prop (a ≥ b) inferInstance)
  | _ => none

def u64E (op : BinOp) (a b : BitVec 64) : Pu :=
  match op with
  | .add => val (.u64 (a + b))
  | .sub => val (.u64 (a - b))
  | .mul => val (.u64 (a * b))
  | .quo => chk (¬ b = 0#64) (.u64 (a / b))
  | .rem => chk (¬ b = 0#64) (.u64 (a % b))
  | .and => val (.u64 (a &&& b))
  | .or => val (.u64 (a ||| b))
  | .xor => val (.u64 (a ^^^ b))
  | .andNot => val (.u64 (a &&& ~~~b))
  | .eql => val (.prop (a = b) inferInstance)
  | .neq => val (.prop (¬ a = b) inferInstance)
  | .lss => val (.prop (a.toNat < b.toNat) inferInstance)
  | .leq => val (.prop (a.toNat ≤ b.toNat) inferInstance)
  | .gtr => val (.prop (a.toNat > b.toNat) inferInstance)
  | .geq => val (.prop (a.toNat ≥ b.toNat) inferInstance)
  | _ => none

def toB : SV → Option Bool
  | .bool b => some b
  | .blit b => some b
  | .prop p d => some (@decide p d)
  | _ => none

def binE (P : Program) (m : Nat) (op : BinOp) (t : TypeId) (x y : SV) : Pu :=
  match op with
  | .shl | .shr => shE m op x y
  | op => match x, y with
    | .int k a, .int k' b => if k = k' then intE m op k a b else none
    | .u64 a, .u64 b => u64E op a b
    | .str a, .str b => match op with
      | .eql => val (.prop (a = b) inferInstance)
      | .neq => val (.prop (¬ a = b) inferInstance)
      | _ => none
    | .sl a _ _, .sl none _ _ => match P.underlying t, op with
      | some (.slice _), .eql => val (.bool a.isNone)
      | some (.slice _), .neq => val (.bool (!a.isNone))
      | _, _ => none
    | x, y => match toB x, toB y, P.underlying t, op with
      | some a, some b, some .bool, .eql => val (.prop (a = b) inferInstance)
      | some a, some b, some .bool, .neq => val (.prop (¬ a = b) inferInstance)
      | _, _, _, _ => none

def unE (op : UnOp) (x : SV) : Pu :=
  match op, x with
  | .not, .bool b => val (.bool (!b))
  | .not, .blit b => val (.blit (!b))
  | .not, .prop p _ => val (.prop (¬ p) inferInstance)
  | .neg, .int .i64 n => chk (I64 (0 - n)) (.int .i64 (0 - n))
  | .xor, .u64 x => val (.u64 (~~~x))
  | _, _ => none

def convE (P : Program) (m : Nat) (src dst : TypeId) (x : SV) : Pu :=
  match P.underlying src, P.underlying dst, x with
  | some (.int _), some (.int kd), .int _ n =>
    if m = 2 then (match kd with | .u64 => val (.u64 (BitVec.ofInt 64 n)) | _ => none)
    else if m = 1 then val (.int kd (kd.wrap n))
    else chk (InK kd n) (.int kd n)
  | some (.int _), some (.int kd), .u64 b => match kd with
    | .u64 => val (.u64 b)
    | kd => if m = 1 then val (.int kd (kd.wrap b.toNat)) else chk (InK kd b.toNat) (.int kd b.toNat)
  | some .string, some .string, .str s => val (.str s)
  | _, _, _ => none


def isAggT (P : Program) (t : TypeId) : Bool :=
  match P.underlying t with
  | some (.struct _) => true
  | some (.array _ _) => true
  | _ => false

/-- A part of an aggregate's cells. -/
def partE (P : Program) (t : TypeId) (cs : List SV) (off : Nat) : Pu :=
  match P.info? t, P.underlying t with
  | some i, some _ => if isAggT P t then val (.agg ((cs.drop off).take i.size)) else match cs[off]? with
    | some v => val v
    | none => none
  | _, _ => none

def fieldE (P : Program) (t : TypeId) (x : SV) (f : Nat) : Pu :=
  match P.underlying t, x with
  | some (.struct fs), .agg cs => match fs[f]? with
    | some fd => partE P fd.type cs fd.offset
    | none => none
  | _, _ => none

def extractE (x : SV) (i : Nat) : Pu :=
  match x with
  | .tup vs => match vs[i]? with
    | some v => val v
    | none => none
  | _ => none

def cellsV : SV → List SV
  | .agg cs => cs
  | v => [v]

def splice (cs : List SV) (off : Nat) : List SV → List SV
  | [] => cs
  | v :: r => splice (cs.set off v) (off + 1) r

def fillV (place : Nat → Option (Nat × Nat)) (cs : List SV) : List (Nat × SV) → Option (List SV)
  | [] => some cs
  | (i, v) :: rest => match place i with
    | none => none
    | some (off, size) => if (cellsV v).length = size ∧ off + (cellsV v).length ≤ cs.length then fillV place (splice cs off (cellsV v)) rest else none

/-- No part is a bare aggregate. -/
def isRawAgg : SV → Bool
  | .raw (.agg _) => true
  | _ => false
def noRawAgg (l : List (Nat × SV)) : Bool := l.all fun q => !isRawAgg q.2

def ofCell : Value → SV
  | .int .u64 n => if 0 ≤ n ∧ n < 18446744073709551616 then .u64 (BitVec.ofNat 64 n.toNat) else .raw (.int .u64 n)
  | .int k n => .int k n
  | .bool b => .blit b
  | .string s => .str s
  | .slice a l c => .sl a l c
  | .pointer a => .ptr a
  | v => .raw v

def zeroE (P : Program) (t : TypeId) : Option (List SV) :=
  match P.info? t with
  | some i => match i.zero with
    | some z => some (z.cells.toList.map ofCell)
    | none => none
  | none => none

def structPlaces (P : Program) : List Field → Option (List (Nat × Nat))
  | [] => some []
  | f :: r => match P.info? f.type, structPlaces P r with
    | some i, some l => some ((f.offset, i.size) :: l)
    | _, _ => none

def buildE (P : Program) (t : TypeId) (parts : List (Nat × SV)) : Pu :=
  if noRawAgg parts = false then none else
  match zeroE P t, P.underlying t with
  | some z, some (.struct fs) => match structPlaces P fs.toList with
    | some pl => match fillV (fun i => pl[i]?) z parts with
      | some cs => val (.agg cs)
      | none => none
    | none => none
  | some z, some (.array _ e) => match P.info? e with
    | some i => match fillV (fun j => some (j * i.size, i.size)) z parts with
      | some cs => val (.agg cs)
      | none => none
    | none => none
  | _, _ => none

def idxOf : SV → Option Int
  | .int _ n => some n
  | .u64 x => some x.toNat
  | _ => none

def indexAddrE (P : Program) (t : TypeId) (x i : SV) : Pu :=
  match P.underlying t, x, idxOf i with
  | some (.slice e), .sl a len _, some n => match P.info? e with
    | some q => chk (Ix a len n) (.ptr (padd a (n.toNat * q.size)))
    | none => none
  | some (.array len e), .ptr a, some n => match P.info? e with
    | some q => chk (Ix a len n) (.ptr (padd a (n.toNat * q.size)))
    | none => none
  | _, _, _ => none

def fieldAddrE (P : Program) (t : TypeId) (x : SV) (f : Nat) : Pu :=
  match P.underlying t, x with
  | some (.struct fs), .ptr a => match fs[f]? with
    | some fd => match P.info? fd.type with
      | some q => if q.size = 0 then none else chk (a.isSome = true) (.ptr (padd a fd.offset))
      | none => none
    | none => none
  | _, _ => none

/-- The bounds of a slice expression: the condition and the two places. -/
def bnd (x : Option SV) (d : Nat) : Option (Option Int × Nat) :=
  match x with
  | none => some (none, d)
  | some x => match idxOf x with
    | some n => some (some n, n.toNat)
    | none => none

def Bd (l : Option Int) (h : Option Int) (hn cap : Nat) : Prop :=
  (match h with | some n => 0 ≤ n ∧ n ≤ cap | none => True) ∧ (match l with | some n => 0 ≤ n ∧ n ≤ hn | none => True)

def sliceE (P : Program) (t : TypeId) (x : SV) (low high max : Option SV) : Pu :=
  match P.underlying t, x, max with
  | some (.slice e), .sl a len cap, none => match P.info? e, bnd high len, bnd low 0 with
    | some q, some (h, hn), some (l, ln) => chk (Bd l h hn cap) (.sl (if cap = ln then a else padd a (ln * q.size)) (hn - ln) (cap - ln))
    | _, _, _ => none
  | some .string, .str s, none => match bnd high s.size, bnd low 0 with
    | some (h, hn), some (l, ln) => chk (Bd l h hn s.size) (.str (s.extract ln hn))
    | _, _ => none
  | _, _, _ => none

def indexE (P : Program) (t : TypeId) (x i : SV) : Pu :=
  match P.underlying t, x, idxOf i with
  | some .string, .str s, some n => chk (0 ≤ n ∧ n < s.size) (.int .u8 (sget s n.toNat))
  | _, _, _ => none

def lenE (P : Program) (t : TypeId) (x : SV) : Pu :=
  match P.underlying t, x with
  | some .string, .str s => val (.int .i64 s.size)
  | some (.slice _), .sl _ n _ => val (.int .i64 n)
  | some (.array n _), _ => val (.int .i64 n)
  | _, _ => none

def builtinE (P : Program) (b : Builtin) (argTypes : List TypeId) (args : List SV) : Pu :=
  match b, argTypes, args with
  | .len, t :: _, x :: _ => lenE P t x
  | .max, _, [.int k a, .int k' b] => if k = k' then val (.int k (if b > a then b else a)) else none
  | .min, _, [.int k a, .int k' b] => if k = k' then val (.int k (if b < a then b else a)) else none
  | _, _, _ => none

def pureOp (P : Program) (m : Nat) (ρ : Operand → SV) : Op → Pu
  | .move x => val (ρ x)
  | .assign x => val (ρ x)
  | .pick c a b => match ρ c with
    | .blit t => val (if t then ρ a else ρ b)
    | _ => none
  | .binOp op t x y _ => binE P m op t (ρ x) (ρ y)
  | .unOp op _ x => unE op (ρ x)
  | .convert src dst x => convE P m src dst (ρ x)
  | .extract x i => extractE (ρ x) i
  | .field t x f => fieldE P t (ρ x) f
  | .build t parts => buildE P t (parts.toList.map fun q => (q.1, ρ q.2))
  | .indexAddr t x i => indexAddrE P t (ρ x) (ρ i)
  | .fieldAddr t x f => fieldAddrE P t (ρ x) f
  | .slice t x l h m => sliceE P t (ρ x) (l.map ρ) (h.map ρ) (m.map ρ)
  | .index t x i => indexE P t (ρ x) (ρ i)
  | .nilCheck x => match ρ x with
    | .ptr a => chk (a.isSome = true) (.ptr a)
    | _ => none
  | .call { callee := .builtin b, args, argTypes } => builtinE P b argTypes.toList (args.toList.map ρ)
  | _ => none

/-! Soundness of the pure parts. -/
section
variable {P : Program} (w : World)

theorem toB_den {x : SV} {b : Bool} (h : toB x = some b) : x.den = .bool b := by
  cases x <;> simp_all [toB, SV.den]

theorem cnt_den {c : SV} {p : Prop} {n : Nat} (h : cnt c = some (p, n)) (hp : p) : ∃ k y, c.den = .int k y ∧ 0 ≤ y ∧ y.toNat = n := by
  cases c <;> simp only [cnt, Option.some.injEq, Prod.mk.injEq, reduceCtorEq] at h
  case int k y => obtain ⟨rfl, rfl⟩ := h; exact ⟨k, y, rfl, hp, rfl⟩
  case u64 x => obtain ⟨rfl, rfl⟩ := h; exact ⟨.u64, x.toNat, rfl, by omega, by simp⟩

theorem u64_wrap_nat (n : Nat) (h : n < 2 ^ 64) : IntKind.u64.wrap (n : Int) = n := IntWalk.u64_in _ ⟨by omega, by omega⟩

theorem u64_wrap_emod (n : Int) : IntKind.u64.wrap n = n % 18446744073709551616 := IntKind.wrap_u64 n

def Pu.ok (r : Pu) (R : SV → Prop) : Prop := ∀ p v, r = some (p, v) → p.getD True → R v
theorem ok_val {v : SV} {R : SV → Prop} (h : R v) : (val v).ok R := by
  intro p v' he _; simp only [val, Option.some.injEq, Prod.mk.injEq] at he; obtain ⟨-, rfl⟩ := he; exact h
theorem ok_chk {q : Prop} {v : SV} {R : SV → Prop} (h : q → R v) : (chk q v).ok R := by
  intro p v' he hp; simp only [chk, Option.some.injEq, Prod.mk.injEq] at he; obtain ⟨rfl, rfl⟩ := he; exact h hp
theorem ok_none {R : SV → Prop} : Pu.ok none R := by intro p v h; cases h

/-- What an operation is to give. -/
def Runs (P : Program) (s : Sem Value) (w : World) (v : SV) : Prop := s.run P w = .ok v.den w

theorem run_shl {k : IntKind} {a y : Int} {yk : IntKind} (hy : 0 ≤ y) : (Op.shift .shl k a yk y).run P w = .ok (.int k (k.wrap (a * 2 ^ (min y.toNat k.bits)))) w := by
  unfold Op.shift; rw [if_neg (by omega)]; rfl
theorem run_shr {k : IntKind} {a y : Int} {yk : IntKind} (hy : 0 ≤ y) : (Op.shift .shr k a yk y).run P w = .ok (.int k (a.fdiv (2 ^ (min y.toNat k.bits)))) w := by
  unfold Op.shift; rw [if_neg (by omega)]; rfl

theorem pow_cast (n : Nat) : (2 : Int) ^ n = ((2 ^ n : Nat) : Int) := by simp

theorem shl_u64 (b : BitVec 64) (n : Nat) : IntKind.u64.wrap ((b.toNat : Int) * 2 ^ min n 64) = ((b <<< n).toNat : Int) := by
  have h1 : ((b.toNat : Int) * 2 ^ min n 64) = ((b.toNat * 2 ^ min n 64 : Nat) : Int) := by rw [pow_cast]; rfl
  rw [u64_wrap_emod, h1, BitVec.toNat_shiftLeft, Nat.shiftLeft_eq]
  have h2 : (18446744073709551616 : Int) = ((2 ^ 64 : Nat) : Int) := rfl
  rw [h2, ← Int.natCast_emod]
  congr 1
  rcases Nat.le_total n 64 with hn | hn
  · rw [Nat.min_eq_left hn]
  · rw [Nat.min_eq_right hn]
    obtain ⟨d, rfl⟩ := Nat.exists_eq_add_of_le hn
    rw [Nat.pow_add, ← Nat.mul_assoc, Nat.mul_right_comm, Nat.mul_mod_left, Nat.mul_mod_left]

theorem fdiv_pow (a : Int) (n : Nat) : a.fdiv (2 ^ n) = a / 2 ^ n := Int.fdiv_eq_ediv_of_nonneg _ (Int.le_of_lt (Int.pow_pos (by decide)))

theorem shr_u64 (b : BitVec 64) (n : Nat) : (b.toNat : Int).fdiv (2 ^ min n 64) = ((b >>> n).toNat : Int) := by
  rw [fdiv_pow, pow_cast]
  have h1 : ((b.toNat : Int) / ((2 ^ min n 64 : Nat) : Int)) = ((b.toNat / 2 ^ min n 64 : Nat) : Int) := rfl
  rw [h1, BitVec.toNat_ushiftRight, Nat.shiftRight_eq_div_pow]
  congr 1
  rcases Nat.le_total n 64 with hn | hn
  · rw [Nat.min_eq_left hn]
  · rw [Nat.min_eq_right hn]
    have hb := b.isLt
    rw [Nat.div_eq_of_lt hb, Nat.div_eq_of_lt (Nat.lt_of_lt_of_le hb (Nat.pow_le_pow_right (by decide) hn))]

theorem binOp_shl (t : TypeId) {k yk : IntKind} {a y : Int} : binOp .shl t (.int k a) (.int yk y) = Op.shift .shl k a yk y := rfl
theorem binOp_shr (t : TypeId) {k yk : IntKind} {a y : Int} : binOp .shr t (.int k a) (.int yk y) = Op.shift .shr k a yk y := rfl

theorem shE_ok (m : Nat) (op : BinOp) (x c : SV) (t : TypeId) : (shE m op x c).ok (Runs P (binOp op t x.den c.den) w) := by
  unfold shE
  split
  · exact ok_none
  · rename_i pc n hc
    split
    · split
      · refine ok_chk ?_
        rintro ⟨h1, h2, h3⟩
        obtain ⟨yk, y, hcd, hy, rfl⟩ := cnt_den hc h1
        have : min y.toNat IntKind.i64.bits = y.toNat := by simp [IntKind.bits]; omega
        rw [Runs, hcd]
        simp only [SV.den, binOp_shl, run_shl w hy, this, InK.wrap (k := .i64) h3]
      · refine ok_chk fun h1 => ?_
        obtain ⟨yk, y, hcd, hy, rfl⟩ := cnt_den hc h1
        rw [Runs, hcd]
        simp only [SV.den, binOp_shl, run_shl w hy, IntKind.bits]
    · split
      · refine ok_chk ?_
        rintro ⟨h1, h2⟩
        obtain ⟨yk, y, hcd, hy, rfl⟩ := cnt_den hc h1
        have : min y.toNat IntKind.i64.bits = y.toNat := by simp [IntKind.bits]; omega
        rw [Runs, hcd]
        simp only [SV.den, binOp_shr, run_shr w hy, this, fdiv_pow]
      · refine ok_chk fun h1 => ?_
        obtain ⟨yk, y, hcd, hy, rfl⟩ := cnt_den hc h1
        rw [Runs, hcd]
        simp only [SV.den, binOp_shr, run_shr w hy, IntKind.bits]
    · refine ok_chk fun h1 => ?_
      obtain ⟨yk, y, hcd, hy, rfl⟩ := cnt_den hc h1
      rw [Runs, hcd]
      simp only [SV.den, binOp_shl, run_shl w hy, IntKind.bits, shl_u64]
    · refine ok_chk fun h1 => ?_
      obtain ⟨yk, y, hcd, hy, rfl⟩ := cnt_den hc h1
      rw [Runs, hcd]
      simp only [SV.den, binOp_shr, run_shr w hy, IntKind.bits, shr_u64]
    · exact ok_none

theorem intE_ok (m : Nat) (op : BinOp) (k : IntKind) (a b : Int) (t : TypeId) (h1 : op ≠ .shl) (h2 : op ≠ .shr) :
    (intE m op k a b).ok (Runs P (binOp op t (.int k a) (.int k b)) w) := by
  have hk : ¬ (k ≠ k) := by simp
  cases op <;> simp only [intE, ne_eq, not_true, reduceCtorEq, not_false_eq_true] at *
  case add => 
    split
    · exact ok_chk fun h => by simp [Runs, binOp, Op.intArith, SV.den, h.wrap]
    · exact ok_val (by simp [Runs, binOp, Op.intArith, SV.den])
  case sub => 
    split
    · exact ok_chk fun h => by simp [Runs, binOp, Op.intArith, SV.den, h.wrap]
    · exact ok_val (by simp [Runs, binOp, Op.intArith, SV.den])
  case mul => 
    split
    · exact ok_chk fun h => by simp [Runs, binOp, Op.intArith, SV.den, h.wrap]
    · exact ok_val (by simp [Runs, binOp, Op.intArith, SV.den])
  case quo =>
    split
    · refine ok_chk fun ⟨h1, h2, h3⟩ => ?_
      have h0 : ¬ b = 0 := by omega
      simp [Runs, binOp, Op.intDiv, SV.den, h0, Int.tdiv_eq_ediv_of_nonneg h1, h3.wrap]
    · exact ok_chk fun h => by simp [Runs, binOp, Op.intDiv, SV.den, h]
  case rem =>
    split
    · refine ok_chk fun ⟨h1, h2⟩ => ?_
      have h0 : ¬ b = 0 := by omega
      simp [Runs, binOp, Op.intDiv, SV.den, h0, Int.tmod_eq_emod_of_nonneg h1]
    · exact ok_chk fun h => by simp [Runs, binOp, Op.intDiv, SV.den, h]
  case and => split <;> first | exact ok_none | exact ok_val rfl
  case or => split <;> first | exact ok_none | exact ok_val rfl
  case xor => split <;> first | exact ok_none | exact ok_val rfl
  case andNot => split <;> first | exact ok_none | exact ok_val rfl
  case eql => exact ok_val (by simp [Runs, binOp, Op.intCmp, SV.den]; rfl)
  case neq => exact ok_val (by simp [Runs, binOp, Op.intCmp, SV.den]; rfl)
  case lss => exact ok_val (by simp [Runs, binOp, Op.intCmp, SV.den])
  case leq => exact ok_val (by simp [Runs, binOp, Op.intCmp, SV.den])
  case gtr => exact ok_val (by simp [Runs, binOp, Op.intCmp, SV.den])
  case geq => exact ok_val (by simp [Runs, binOp, Op.intCmp, SV.den])

theorem u64_cast_eq (a b : BitVec 64) : ((a.toNat : Int) = (b.toNat : Int)) ↔ a = b := by
  rw [Int.ofNat_inj]; exact BitVec.toNat_inj
theorem ofInt_cast (a : BitVec 64) : BitVec.ofInt 64 (a.toNat : Int) = a := by simp

theorem u64E_ok (op : BinOp) (a b : BitVec 64) (t : TypeId) (h1 : op ≠ .shl) (h2 : op ≠ .shr) :
    (u64E op a b).ok (Runs P (binOp op t (.int .u64 a.toNat) (.int .u64 b.toNat)) w) := by
  have hlt := fun x : BitVec 64 => x.isLt
  have hw : ∀ x : BitVec 64, IntKind.u64.wrap (x.toNat : Int) = x.toNat := fun x => u64_wrap_nat _ x.isLt
  have h64 : (18446744073709551616 : Int) = ((2 ^ 64 : Nat) : Int) := rfl
  have hm : ∀ n : Nat, (n : Int) % 18446744073709551616 = ((n % 2 ^ 64 : Nat) : Int) := fun n => rfl
  have key : ∀ (v : Value) (o : SV), (∀ x, o = .u64 x → v = .int .u64 (x.toNat : Int)) → (∃ x, o = .u64 x) → (Result.ok v w = Result.ok o.den w) := by
    rintro v o h ⟨x, rfl⟩; rw [h x rfl]; rfl
  cases op <;> simp only [u64E, ne_eq, not_true, reduceCtorEq, not_false_eq_true] at *
  case add =>
    refine ok_val ?_
    have e : IntKind.u64.wrap ((a.toNat : Int) + b.toNat) = ((a + b).toNat : Int) := by
      rw [u64_wrap_emod, BitVec.toNat_add, ← Int.natCast_add, hm]
    show Result.ok (Value.int .u64 (IntKind.u64.wrap ((a.toNat : Int) + b.toNat))) w = _
    rw [e]; rfl
  case sub =>
    refine ok_val ?_
    have e : IntKind.u64.wrap ((a.toNat : Int) - b.toNat) = ((a - b).toNat : Int) := by
      rw [u64_wrap_emod, BitVec.toNat_sub]
      have := hlt a; have := hlt b
      omega
    show Result.ok (Value.int .u64 (IntKind.u64.wrap ((a.toNat : Int) - b.toNat))) w = _
    rw [e]; rfl
  case mul =>
    refine ok_val ?_
    have e : IntKind.u64.wrap ((a.toNat : Int) * b.toNat) = ((a * b).toNat : Int) := by
      rw [u64_wrap_emod, BitVec.toNat_mul, ← Int.natCast_mul, hm]
    show Result.ok (Value.int .u64 (IntKind.u64.wrap ((a.toNat : Int) * b.toNat))) w = _
    rw [e]; rfl
  case quo =>
    refine ok_chk fun h => ?_
    have h0 : ¬ (b.toNat : Int) = 0 := by
      intro h'; apply h; apply BitVec.eq_of_toNat_eq; have : b.toNat = 0 := by omega
      rw [this]; rfl
    have e : IntKind.u64.wrap ((a.toNat : Int).tdiv b.toNat) = ((a / b).toNat : Int) := by
      rw [Int.tdiv_eq_ediv_of_nonneg (by omega), ← hw (a / b), BitVec.toNat_udiv]; rfl
    have e2 : (binOp .quo t (.int .u64 a.toNat) (.int .u64 b.toNat)).run P w = .ok (.int .u64 (IntKind.u64.wrap ((a.toNat : Int).tdiv b.toNat))) w := by
      show (Op.intDiv .quo .u64 a.toNat b.toNat).run P w = _
      unfold Op.intDiv; rw [if_neg h0]; rfl
    rw [Runs, e2, e]; rfl
  case rem =>
    refine ok_chk fun h => ?_
    have h0 : ¬ (b.toNat : Int) = 0 := by
      intro h'; apply h; apply BitVec.eq_of_toNat_eq; have : b.toNat = 0 := by omega
      rw [this]; rfl
    have e : ((a.toNat : Int).tmod b.toNat) = ((a % b).toNat : Int) := by
      rw [Int.tmod_eq_emod_of_nonneg (by omega), BitVec.toNat_umod]; rfl
    have e2 : (binOp .rem t (.int .u64 a.toNat) (.int .u64 b.toNat)).run P w = .ok (.int .u64 ((a.toNat : Int).tmod b.toNat)) w := by
      show (Op.intDiv .rem .u64 a.toNat b.toNat).run P w = _
      unfold Op.intDiv; rw [if_neg h0]; rfl
    rw [Runs, e2, e]; rfl
  case and =>
    refine ok_val ?_
    show Result.ok (Value.int .u64 (IntKind.u64.wrap ((BitVec.ofInt 64 a.toNat &&& BitVec.ofInt 64 b.toNat).toNat : Int))) w = _
    rw [ofInt_cast, ofInt_cast, hw]; rfl
  case or =>
    refine ok_val ?_
    show Result.ok (Value.int .u64 (IntKind.u64.wrap ((BitVec.ofInt 64 a.toNat ||| BitVec.ofInt 64 b.toNat).toNat : Int))) w = _
    rw [ofInt_cast, ofInt_cast, hw]; rfl
  case xor =>
    refine ok_val ?_
    show Result.ok (Value.int .u64 (IntKind.u64.wrap ((BitVec.ofInt 64 a.toNat ^^^ BitVec.ofInt 64 b.toNat).toNat : Int))) w = _
    rw [ofInt_cast, ofInt_cast, hw]; rfl
  case andNot =>
    refine ok_val ?_
    show Result.ok (Value.int .u64 (IntKind.u64.wrap ((BitVec.ofInt 64 a.toNat &&& ~~~ BitVec.ofInt 64 b.toNat).toNat : Int))) w = _
    rw [ofInt_cast, ofInt_cast, hw]; rfl
  case eql =>
    refine ok_val ?_
    show Result.ok (Value.bool ((a.toNat : Int) == (b.toNat : Int))) w = Result.ok (Value.bool (decide (a = b))) w
    congr 2; rw [Bool.eq_iff_iff, beq_iff_eq, decide_eq_true_iff]; exact u64_cast_eq a b
  case neq =>
    refine ok_val ?_
    show Result.ok (Value.bool ((a.toNat : Int) != (b.toNat : Int))) w = Result.ok (Value.bool (decide (¬ a = b))) w
    congr 2; rw [Bool.eq_iff_iff, bne_iff_ne, decide_eq_true_iff, ne_eq, u64_cast_eq]
  case lss => exact ok_val (by simp [Runs, binOp, Op.intCmp, SV.den])
  case leq => exact ok_val (by simp [Runs, binOp, Op.intCmp, SV.den])
  case gtr => exact ok_val (by simp [Runs, binOp, Op.intCmp, SV.den])
  case geq => exact ok_val (by simp [Runs, binOp, Op.intCmp, SV.den])

theorem equalIn_bool (d : Nat) {t : TypeId} (h : P.underlying t = some .bool) (a b : Bool) : (Op.equalIn (d + 1) t (.bool a) (.bool b)).run P w = .ok (a == b) w := by
  simp [Op.equalIn, run_underlying h]
theorem run_equal_bool {t : TypeId} (h : P.underlying t = some .bool) (a b : Bool) : (Op.equal t (.bool a) (.bool b)).run P w = .ok (a == b) w :=
  equalIn_bool w 9999 h a b
theorem equalIn_slice_nil (d : Nat) {t e : TypeId} (h : P.underlying t = some (.slice e)) (a : Option Addr) (l c l' c' : Nat) : (Op.equalIn (d + 1) t (.slice a l c) (.slice none l' c')).run P w = .ok a.isNone w := by
  cases a <;> simp [Op.equalIn, run_underlying h]
theorem run_equal_slice_nil {t e : TypeId} (h : P.underlying t = some (.slice e)) (a : Option Addr) (l c l' c' : Nat) : (Op.equal t (.slice a l c) (.slice none l' c')).run P w = .ok a.isNone w :=
  equalIn_slice_nil w 9999 h a l c l' c'
theorem str_eq (a b : ByteArray) : (a.toList == b.toList) = decide (a = b) := by
  rw [Bool.eq_iff_iff, beq_iff_eq, decide_eq_true_iff, ByteArray.toList_eq, ByteArray.toList_eq]
  constructor
  · intro h; cases a; cases b; simp at h; simp [h]
  · rintro rfl; rfl

theorem binE_ok (m : Nat) (op : BinOp) (t : TypeId) (x y : SV) : (binE P m op t x y).ok (Runs P (binOp op t x.den y.den) w) := by
  unfold binE
  split
  · exact shE_ok w m _ x y t
  · exact shE_ok w m _ x y t
  · rename_i h1 h2
    split
    · split
      · rename_i hk; subst hk
        exact intE_ok w m op _ _ _ t h1 h2
      · exact ok_none
    · exact u64E_ok w op _ _ t h1 h2
    · split
      · refine ok_val ?_
        rename_i a b _
        show Result.ok (Value.bool (a.toList == b.toList)) w = Result.ok (Value.bool (decide (a = b))) w
        rw [str_eq]
      · refine ok_val ?_
        rename_i a b _
        show Result.ok (Value.bool (!(a.toList == b.toList))) w = Result.ok (Value.bool (decide (¬ a = b))) w
        rw [str_eq, decide_not]
      · exact ok_none
    · split
      · rename_i hu
        exact ok_val (by simp [Runs, binOp, SV.den, run_equal_slice_nil w hu])
      · rename_i hu
        exact ok_val (by simp [Runs, binOp, SV.den, run_equal_slice_nil w hu])
      · exact ok_none
    · split
      · rename_i ha hb hu
        refine ok_val ?_
        rw [Runs, toB_den ha, toB_den hb]
        simp [binOp, SV.den, run_equal_bool w hu]; rfl
      · rename_i ha hb hu
        refine ok_val ?_
        rw [Runs, toB_den ha, toB_den hb]
        simp [binOp, SV.den, run_equal_bool w hu]; rfl
      · exact ok_none

theorem unE_ok (op : UnOp) (x : SV) : (unE op x).ok (Runs P (Op.unary op x.den) w) := by
  unfold unE
  split
  · exact ok_val (show Sem.run _ _ _ = _ from rfl)
  · exact ok_val (show Sem.run _ _ _ = _ from rfl)
  · exact ok_val (by simp [Runs, Op.unary, SV.den])
  · refine ok_chk fun h => ?_
    have := InK.wrap (k := .i64) h
    simp only [Runs, Op.unary, SV.den, Op.intArith, this]; rfl
  · rename_i x
    refine ok_val ?_
    have hw : ∀ x : BitVec 64, IntKind.u64.wrap (x.toNat : Int) = x.toNat := fun x => u64_wrap_nat _ x.isLt
    have : BitVec.ofInt 64 (IntKind.u64.max) ^^^ x = ~~~x := by
      have : BitVec.ofInt 64 (IntKind.u64.max) = BitVec.allOnes 64 := by decide
      rw [this, BitVec.allOnes_xor]
    show Result.ok (Value.int .u64 (IntKind.u64.wrap ((BitVec.ofInt 64 (IntKind.u64.max) ^^^ BitVec.ofInt 64 (x.toNat : Int)).toNat : Int))) w = _
    rw [ofInt_cast, this, hw]; rfl
  · exact ok_none

theorem wrap_ofInt (n : Int) : IntKind.u64.wrap n = ((BitVec.ofInt 64 n).toNat : Int) := by
  rw [u64_wrap_emod, BitVec.toNat_ofInt]
  have : (0:Int) ≤ n % 18446744073709551616 := by omega
  simp; omega

theorem run_convert_ii {src dst : TypeId} {ks kd k : IntKind} (hs : P.underlying src = some (.int ks)) (hd : P.underlying dst = some (.int kd)) (n : Int) :
    (convert src dst (.int k n)).run P w = .ok (.int kd (kd.wrap n)) w := by
  simp [convert, run_underlying hs, run_underlying hd, Conv.intToInt]

theorem convE_ok (m : Nat) (src dst : TypeId) (x : SV) : (convE P m src dst x).ok (Runs P (convert src dst x.den) w) := by
  unfold convE
  split
  · rename_i hs hd
    split
    · split
      · exact ok_val (by simp only [Runs, SV.den, run_convert_ii w hs hd, wrap_ofInt])
      · exact ok_none
    · split
      · exact ok_val (by simp only [Runs, SV.den, run_convert_ii w hs hd])
      · exact ok_chk fun h => by simp only [Runs, SV.den, run_convert_ii w hs hd, h.wrap]
  · rename_i hs hd
    split
    · exact ok_val (by simp only [Runs, SV.den, run_convert_ii w hs hd]; rw [u64_wrap_nat _ (BitVec.isLt _)])
    · split
      · exact ok_val (by simp only [Runs, SV.den, run_convert_ii w hs hd])
      · exact ok_chk fun h => by simp only [Runs, SV.den, run_convert_ii w hs hd, h.wrap]
  · rename_i hs hd
    exact ok_val (by simp [Runs, convert, run_underlying hs, run_underlying hd, SV.den])
  · exact ok_none

theorem eqGuard_run (op : BinOp) (t : TypeId) (x y : Operand) {a : Value} (b : Value) (h1 : ∀ c, a ≠ .agg c) (h2 : a ≠ .nilIface) : (eqGuard op t x y a b).run P w = .ok () w := by
  cases a <;> first | exact absurd rfl h2 | exact absurd rfl (h1 _) | (cases op <;> rfl)

theorem binE_plain {m : Nat} {op : BinOp} {t : TypeId} {x y : SV} {r : Option Prop × SV} (h : binE P m op t x y = some r) : (∀ c, x.den ≠ .agg c) ∧ x.den ≠ .nilIface := by
  cases x with
  | raw v =>
    exfalso
    unfold binE at h
    split at h
    · unfold shE at h; split at h <;> simp at h
    · unfold shE at h; split at h <;> simp at h
    · split at h <;> simp_all [toB]
  | agg cs =>
    exfalso
    unfold binE at h
    split at h
    · unfold shE at h; split at h <;> simp at h
    · unfold shE at h; split at h <;> simp at h
    · split at h <;> simp_all [toB]
  | _ => exact ⟨fun c hc => by simp [SV.den] at hc, fun hc => by simp [SV.den] at hc⟩

theorem denL_append (a b : List SV) : denL (a ++ b) = denL a ++ denL b := by simp [denL_map]
theorem denL_length (a : List SV) : (denL a).length = a.length := by simp [denL_map]
theorem denL_get? (a : List SV) (i : Nat) : (denL a)[i]? = (a[i]?).map SV.den := by simp [denL_map]

theorem isAggT_run {t : TypeId} {d : TypeDesc} (h : P.underlying t = some d) : (isAgg t).run P w = .ok (isAggT P t) w := by
  unfold isAgg isAggT
  rw [h]
  cases d <;> simp [run_underlying h]

theorem partE_ok (t : TypeId) (cs : List SV) (off : Nat) : (partE P t cs off).ok fun v => (part t (denL cs).toArray off).run P w = .ok v.den w := by
  unfold partE
  split
  · rename_i i d hi hd
    split
    · rename_i ha
      refine ok_val ?_
      simp [part, isAggT_run w hd, ha, sizeOf, typeInfo, hi, SV.den, denL_map, List.map_take, List.map_drop]
    · rename_i ha
      split
      · rename_i v hv
        refine ok_val ?_
        simp [part, isAggT_run w hd, ha, denL_get?, hv]
      · exact ok_none
  · exact ok_none

theorem fieldE_ok (t : TypeId) (x : SV) (f : Nat) : (fieldE P t x f).ok (Runs P (Instr.field t x.den f) w) := by
  unfold fieldE
  split
  · rename_i fs cs hu
    split
    · rename_i fd hf
      have h := partE_ok (P := P) w fd.type cs fd.offset
      intro p v he hp
      have := h p v he hp
      rw [Runs]
      simp only [Instr.field, SV.den, Sem.run_bind, run_underlying hu, Result.andThen, hf]
      simpa [asAgg] using this
    · exact ok_none
  · exact ok_none

theorem extractE_ok (x : SV) (i : Nat) : (extractE x i).ok (Runs P (Instr.extract x.den i) w) := by
  unfold extractE
  split
  · split
    · rename_i v hv
      refine ok_val ?_
      simp [Runs, Instr.extract, SV.den, denL_get?, hv]
    · exact ok_none
  · exact ok_none

theorem cellsV_den (v : SV) (h : ∀ u, v = .raw u → ∀ c, u ≠ .agg c) : v.den.cells = (denL (cellsV v)).toArray := by
  cases v with
  | raw u => 
    cases u <;> first | rfl | exact absurd rfl (h _ rfl _)
  | _ => rfl

theorem denL_splice (cs : List SV) (off : Nat) (vs : List SV) : denL (splice cs off vs) = (vs.zipIdx off).foldl (fun c (x, j) => c.set j x.den) (denL cs) := by
  induction vs generalizing cs off with
  | nil => rfl
  | cons v r ih => simp [splice, ih, denL_set]

theorem splice_length (cs : List SV) (off : Nat) (vs : List SV) : (splice cs off vs).length = cs.length := by
  induction vs generalizing cs off with
  | nil => rfl
  | cons v r ih => simp [splice, ih]

theorem fill_cells (off : Nat) (vs : List Value) (cs : Array Value) (k : Nat) :
    (vs.zipIdx k).foldl (fun cs (c, j) => cs.setIfInBounds (off + j) c) cs = ((vs.zipIdx (off + k)).foldl (fun c (x, j) => c.set j x) cs.toList).toArray := by
  induction vs generalizing cs k with
  | nil => simp
  | cons v r ih =>
    simp only [List.zipIdx_cons, List.foldl_cons]
    rw [ih]
    simp [Nat.add_assoc]

theorem fill_sound (place : Nat → Option (Nat × Nat)) (cs cs' : List SV) (l : List (Nat × SV)) (hn : noRawAgg l = true) (h : fillV place cs l = some cs') :
    Instr.fill place (denL cs).toArray (l.map fun q => (q.1, q.2.den)) = some (denL cs').toArray := by
  induction l generalizing cs with
  | nil => simp only [fillV, Option.some.injEq] at h; subst h; rfl
  | cons q r ih =>
    obtain ⟨i, v⟩ := q
    simp only [noRawAgg, List.all_cons, Bool.and_eq_true, Bool.not_eq_true'] at hn
    simp only [fillV] at h
    cases hp : place i with
    | none => simp [hp] at h
    | some os =>
      obtain ⟨off, size⟩ := os
      simp only [hp] at h
      split at h
      · rename_i hc
        have hcell := cellsV_den v (by intro u hu c hc'; subst hu; subst hc'; simp [isRawAgg] at hn)
        have hlen : v.den.cells.size = (cellsV v).length := by rw [hcell]; simp [denL_length]
        simp only [List.map_cons, Instr.fill, hp, hlen]
        have e1 : ((cellsV v).length != size || decide (off + (cellsV v).length > (denL cs).toArray.size)) = false := by
          simp [denL_length]; omega
        rw [if_neg (by simp [denL_length]; omega)]
        have e2 : (v.den.cells.zipIdx.foldl (fun cs (c, j) => cs.setIfInBounds (off + j) c) (denL cs).toArray) = (denL (splice cs off (cellsV v))).toArray := by
          rw [hcell]
          have := fill_cells off (denL (cellsV v)) (denL cs).toArray 0
          simp only [Nat.add_zero] at this
          rw [denL_splice]
          simp only [denL_map, List.zipIdx_map, List.foldl_map] at this ⊢
          simp at this ⊢
          rw [List.zipIdx_map, List.foldl_map]
          exact this
        rw [e2]
        exact ih _ hn.2 h
      · cases h

theorem ofCell_den (v : Value) : (ofCell v).den = v := by
  cases v with
  | int k n =>
    cases k <;> try rfl
    simp only [ofCell]
    split
    · rename_i hn
      simp only [SV.den, BitVec.toNat_ofNat]
      congr 1
      omega
    · rfl
  | _ => rfl

theorem denL_ofCell (l : List Value) : denL (l.map ofCell) = l := by
  induction l with
  | nil => rfl
  | cons v r ih => simp [denL, ih, ofCell_den]

theorem zeroE_run {t : TypeId} {z : List SV} (h : zeroE P t = some z) : ∃ zv, (zeroValue t).run P w = .ok zv w ∧ zv.cells = (denL z).toArray := by
  unfold zeroE at h
  split at h
  · rename_i i hi
    split at h
    · rename_i zv hz
      simp only [Option.some.injEq] at h
      subst h
      refine ⟨zv, by simp [zeroValue, typeInfo, hi, hz], ?_⟩
      rw [denL_ofCell]
    · cases h
  · cases h

theorem structPlaces_run {fs : List Field} {pl : List (Nat × Nat)} (h : structPlaces P fs = some pl) :
    (fs.mapM fun f => do pure (f.offset, ← sizeOf f.type) : Sem (List (Nat × Nat))).run P w = .ok pl w := by
  induction fs generalizing pl with
  | nil => simp only [structPlaces, Option.some.injEq] at h; subst h; rfl
  | cons f r ih =>
    simp only [structPlaces] at h
    split at h
    · rename_i i l hi hl
      simp only [Option.some.injEq] at h
      subst h
      have hsz : (sizeOf f.type).run P w = .ok i.size w := by simp [sizeOf, typeInfo, hi]
      simp only [List.mapM_cons, Sem.run_bind, hsz, Result.andThen, Sem.run_pure, ih hl]
    · cases h

theorem buildE_ok (t : TypeId) (parts : List (Nat × SV)) : (buildE P t parts).ok (Runs P (Instr.build t (parts.map fun q => (q.1, q.2.den)).toArray) w) := by
  unfold buildE
  split
  · exact ok_none
  rename_i hn
  have hn : noRawAgg parts = true := by simpa using hn
  split
  · rename_i z fs hz hu
    obtain ⟨zv, hzr, hzc⟩ := zeroE_run w hz
    split
    · rename_i pl hpl
      split
      · rename_i cs hf
        refine ok_val ?_
        have h1 := structPlaces_run w hpl
        have h2 := fill_sound (fun i => pl[i]?) z cs parts hn hf
        have h3 : (fs.mapM fun f => do pure (f.offset, ← sizeOf f.type) : Sem (Array (Nat × Nat))).run P w = .ok pl.toArray w := by
          rw [Array.mapM_eq_mapM_toList, map_eq_pure_bind, Sem.run_bind, h1]
          rfl
        rw [Runs]
        simp only [Instr.build, Sem.run_bind, hzr, Result.andThen, run_underlying hu, h3, hzc]
        simp only [List.getElem?_toArray, h2]
        rfl
      · exact ok_none
    · exact ok_none
  · rename_i z n e hz hu
    obtain ⟨zv, hzr, hzc⟩ := zeroE_run w hz
    split
    · rename_i i hi
      split
      · rename_i cs hf
        refine ok_val ?_
        have h2 := fill_sound _ z cs parts hn hf
        rw [Runs]
        simp only [Instr.build, Sem.run_bind, hzr, Result.andThen, run_underlying hu, sizeOf, typeInfo, hzc]
        simp [hi, h2, SV.den]
      · exact ok_none
    · exact ok_none
  · exact ok_none

theorem idxOf_den {x : SV} {n : Int} (h : idxOf x = some n) : ∃ k, x.den = .int k n := by
  cases x <;> simp only [idxOf, Option.some.injEq, reduceCtorEq] at h
  case int k y => subst h; exact ⟨k, rfl⟩
  case u64 y => subst h; exact ⟨.u64, rfl⟩

theorem indexAddrE_ok (t : TypeId) (x i : SV) : (indexAddrE P t x i).ok (Runs P (Instr.indexAt t x.den i.den) w) := by
  unfold indexAddrE
  split
  · rename_i hu hx
    split
    · rename_i q hq
      refine ok_chk ?_
      rintro ⟨h1, h2, h3⟩
      obtain ⟨k, hk⟩ := idxOf_den hx
      obtain ⟨a, rfl⟩ := Option.isSome_iff_exists.1 h1
      rw [Runs, hk]
      simp [Instr.indexAt, asIntOf, SV.den, run_underlying hu, sizeOf, typeInfo, hq, h2, h3, padd]
    · exact ok_none
  · rename_i hu hx
    split
    · rename_i q hq
      refine ok_chk ?_
      rintro ⟨h1, h2, h3⟩
      obtain ⟨k, hk⟩ := idxOf_den hx
      obtain ⟨a, rfl⟩ := Option.isSome_iff_exists.1 h1
      rw [Runs, hk]
      simp [Instr.indexAt, asIntOf, SV.den, run_underlying hu, sizeOf, typeInfo, hq, h2, h3, padd, Instr.sureAddr]
    · exact ok_none
  · exact ok_none

theorem fieldAddrE_ok (t : TypeId) (x : SV) (f : Nat) : (fieldAddrE P t x f).ok (Runs P (Instr.fieldAt t x.den f) w) := by
  unfold fieldAddrE
  split
  · rename_i fs a hu
    split
    · rename_i fd hf
      split
      · rename_i q hq
        split
        · exact ok_none
        · rename_i h0
          refine ok_chk fun h1 => ?_
          obtain ⟨a, rfl⟩ := Option.isSome_iff_exists.1 h1
          simp [Runs, Instr.fieldAt, SV.den, run_underlying hu, hf, Instr.sureAddr, fieldPlace, sizeOf, typeInfo, hq, h0, padd]
      · exact ok_none
    · exact ok_none
  · exact ok_none

theorem run_bound {x : SV} {n : Int} (h : idxOf x = some n) (y : Nat) (c : BoundsCode) (h0 : 0 ≤ n) (h1 : n ≤ y) : (Instr.sliceBound x.den y c).run P w = .ok n.toNat w := by
  obtain ⟨k, hk⟩ := idxOf_den h
  rw [hk]
  simp [Instr.sliceBound, asIntOf, h0, h1]

theorem bounds_run {low high : Option SV} {h l : Option Int} {hn ln len cap d : Nat} (b : Bool) (hh : bnd high d = some (h, hn)) (hl : bnd low 0 = some (l, ln)) (hd : d = len) (hb : Bd l h hn cap) :
    (Instr.sliceBounds b len cap (low.map SV.den) (high.map SV.den) none).run P w = .ok (ln, hn, cap) w := by
  subst hd
  unfold bnd at hh hl
  obtain ⟨b1, b2⟩ := hb
  cases high with
  | none =>
    simp only [Option.some.injEq, Prod.mk.injEq] at hh
    obtain ⟨rfl, rfl⟩ := hh
    cases low with
    | none =>
      simp only [Option.some.injEq, Prod.mk.injEq] at hl
      obtain ⟨rfl, rfl⟩ := hl
      simp [Instr.sliceBounds]
    | some x =>
      simp only at hl
      split at hl
      · rename_i n hx
        simp only [Option.some.injEq, Prod.mk.injEq] at hl
        obtain ⟨rfl, rfl⟩ := hl
        simp [Instr.sliceBounds, run_bound w hx _ _ b2.1 b2.2]
      · cases hl
  | some y =>
    simp only at hh
    split at hh
    · rename_i m hy
      simp only [Option.some.injEq, Prod.mk.injEq] at hh
      obtain ⟨rfl, rfl⟩ := hh
      cases low with
      | none =>
        simp only [Option.some.injEq, Prod.mk.injEq] at hl
        obtain ⟨rfl, rfl⟩ := hl
        simp [Instr.sliceBounds, run_bound w hy _ _ b1.1 b1.2]
      | some x =>
        simp only at hl
        split at hl
        · rename_i n hx
          simp only [Option.some.injEq, Prod.mk.injEq] at hl
          obtain ⟨rfl, rfl⟩ := hl
          simp [Instr.sliceBounds, run_bound w hy _ _ b1.1 b1.2, run_bound w hx _ _ b2.1 b2.2]
        · cases hl
    · cases hh

theorem sliceE_ok (t : TypeId) (x : SV) (low high max : Option SV) : (sliceE P t x low high max).ok (Runs P (Instr.sliceAt t x.den (low.map SV.den) (high.map SV.den) (max.map SV.den)) w) := by
  unfold sliceE
  split
  · rename_i e a len cap hu
    split
    · rename_i q h hn l ln hq hh hl
      refine ok_chk fun hb => ?_
      simp only [Runs, Instr.sliceAt, Option.map_none, SV.den, Sem.run_bind, run_underlying hu, Result.andThen]
      simp only [Instr.slice, Sem.run_bind, run_underlying hu, Result.andThen, bounds_run w true hh hl rfl hb, sizeOf, typeInfo]
      simp [hq, padd]
    · exact ok_none
  · rename_i s hu
    split
    · rename_i h hn l ln hh hl
      refine ok_chk fun hb => ?_
      simp only [Runs, Instr.sliceAt, Option.map_none, SV.den, Sem.run_bind, run_underlying hu, Result.andThen]
      simp only [Instr.slice, Sem.run_bind, run_underlying hu, Result.andThen]
      simp [bounds_run w false hh hl rfl hb]
    · exact ok_none
  · exact ok_none

theorem indexE_ok (t : TypeId) (x i : SV) : (indexE P t x i).ok (Runs P (Instr.index t x.den i.den) w) := by
  unfold indexE
  split
  · rename_i s n hu hx
    refine ok_chk ?_
    rintro ⟨h0, h1⟩
    obtain ⟨k, hk⟩ := idxOf_den hx
    have hlt : n.toNat < s.size := by omega
    have hb : s[n.toNat]? = some s[n.toNat] := getElem?_pos s n.toNat hlt
    have hb' : s.data[n.toNat]? = some s[n.toNat] := by
      have : n.toNat < s.data.size := hlt
      rw [Array.getElem?_eq_getElem this]; rfl
    rw [Runs, hk]
    simp only [Instr.index, asIntOf, SV.den, Sem.run_bind, Sem.run_pure, Result.andThen, run_underlying hu, h0, if_true, hb, sget, hb']
    rfl
  · exact ok_none

theorem lenE_ok (t : TypeId) (ts : List TypeId) (x : SV) (xs : List Value) (r : TypeId) : (lenE P t x).ok (Runs P (Builtin.len_ (t :: ts).toArray r (x.den :: xs).toArray) w) := by
  unfold lenE
  split
  · rename_i hu
    exact ok_val (by simp [Runs, Builtin.len_, run_underlying hu, SV.den, goInt])
  · rename_i hu
    exact ok_val (by simp [Runs, Builtin.len_, run_underlying hu, SV.den, goInt])
  · rename_i hu
    exact ok_val (by simp [Runs, Builtin.len_, run_underlying hu, SV.den, goInt])
  · exact ok_none

theorem builtinE_ok (b : Builtin) (ts : List TypeId) (xs : List SV) (r : TypeId) (cs : Array Bool) :
    (builtinE P b ts xs).ok fun v => (builtin b ts.toArray r cs (xs.map SV.den).toArray).run P w = .ok (.value v.den) w := by
  unfold builtinE
  split
  · rename_i t ts x xs
    have h := lenE_ok (P := P) w t ts x (xs.map SV.den) r
    intro p v he hp
    have := h p v he hp
    rw [Runs] at this
    simp only [List.map_cons, builtin, Sem.run_bind, this, Result.andThen]
    rfl
  · split
    · rename_i hk; subst hk
      refine ok_val ?_
      simp [builtin, Builtin.max_, Builtin.max2, SV.den]
    · exact ok_none
  · split
    · rename_i hk; subst hk
      refine ok_val ?_
      simp [builtin, Builtin.min_, Builtin.min2, SV.den]
    · exact ok_none
  · exact ok_none

theorem Pu.ok.mono {r : Pu} {R R' : SV → Prop} (h : r.ok R) (hr : ∀ v, R v → R' v) : r.ok R' := fun p v he hp => hr v (h p v he hp)

theorem run_value {s : Sem Value} {v : SV} (h : Runs P s w v) : (do pure (Next.value (← s)) : Sem Next).run P w = .ok (.value v.den) w := by
  rw [Sem.run_bind, h]; rfl

theorem pureOp_ok (m : Nat) (ρ : Operand → SV) (op : Op) :
    (pureOp P m ρ op).ok fun v => ∀ o : Oper, o.op = op → (execOp (fun x => (ρ x).den) o).run P w = .ok (.value v.den) w := by
  unfold pureOp
  split
  · exact ok_val fun o ho => by simp [execOp, ho]
  · exact ok_val fun o ho => by simp [execOp, ho]
  · split
    · rename_i t hc
      refine ok_val fun o ho => ?_
      simp [execOp, ho, hc, SV.den, asBool]
      cases t <;> simp
    · exact ok_none
  · rename_i op' t x y _
    intro p v he hp o ho
    have h := binE_ok (P := P) w m op' t (ρ x) (ρ y) p v he hp
    obtain ⟨h1, h2⟩ := binE_plain he
    have hg := eqGuard_run (P := P) w op' t x y (ρ y).den h1 h2
    rw [Runs] at h
    simp only [execOp, ho]
    refine run_value w ?_
    rw [Runs, Sem.run_bind, hg]
    exact h
  · exact (unE_ok w _ _).mono fun v h o ho => by simp only [execOp, ho]; exact run_value w h
  · exact (convE_ok w _ _ _ _).mono fun v h o ho => by simp only [execOp, ho]; exact run_value w h
  · exact (extractE_ok w _ _).mono fun v h o ho => by simp only [execOp, ho]; exact run_value w h
  · exact (fieldE_ok w _ _ _).mono fun v h o ho => by simp only [execOp, ho]; exact run_value w h
  · rename_i t parts
    refine (buildE_ok w _ _).mono fun v h o ho => ?_
    simp only [execOp, ho]
    refine run_value w ?_
    have : (parts.map fun (i, x) => (i, (ρ x).den)) = (List.map (fun q => (q.1, q.2.den)) (List.map (fun q => (q.1, ρ q.2)) parts.toList)).toArray := by
      rw [List.map_map]; simp [Function.comp_def]
      rw [← Array.toList_map]
    rw [this]
    exact h
  · exact (indexAddrE_ok w _ _ _).mono fun v h o ho => by simp only [execOp, ho]; exact run_value w h
  · exact (fieldAddrE_ok w _ _ _).mono fun v h o ho => by simp only [execOp, ho]; exact run_value w h
  · refine (sliceE_ok w _ _ _ _ _).mono fun v h o ho => ?_
    simp only [execOp, ho]
    refine run_value w ?_
    simpa [Option.map_map, Function.comp_def] using h
  · exact (indexE_ok w _ _ _).mono fun v h o ho => by simp only [execOp, ho]; exact run_value w h
  · split
    · rename_i x a hx
      refine ok_chk fun h1 o ho => ?_
      obtain ⟨a, rfl⟩ := Option.isSome_iff_exists.1 h1
      simp [execOp, ho, hx, SV.den]
    · exact ok_none
  · rename_i b args ts
    intro p v he hp o ho
    have h := fun cs => builtinE_ok (P := P) w b ts.toList (args.toList.map ρ) o.type cs p v he hp
    simp only [Array.toArray_toList] at h
    simp only [execOp, ho, resolve, invoke, Sem.run_bind, Sem.run_pure, Result.andThen]
    have e : (Array.map (fun x => (ρ x).den) args) = ((args.toList.map ρ).map SV.den).toArray := by
      rw [List.map_map, ← Array.toList_map]; rfl
    rw [e]
    exact h _
  · exact ok_none

end

end Go.Vm
