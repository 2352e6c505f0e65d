import Derived.WalkKit
import Derived.Deep.Quiet
import Derived.Deep.LoopGhost
import Derived.Scope
set_option linter.unusedVariables false
set_option linter.unusedSimpArgs false
namespace Go.V3
abbrev AR := @Option.some.injEq
abbrev BP := @Prod.mk.injEq
abbrev KA := @List.getElem?_eq_getElem
abbrev DU := @List.mem_append
abbrev N8 := @List.getElem?_eq_none
abbrev U9 := @List.getElem?_cons_zero
abbrev BC := @if_neg
abbrev PG := @Bool.and_eq_true
abbrev Q7 := @List.all_eq_true
abbrev BQ := @if_pos
abbrev OG := @List.getElem?_append_right
abbrev DB := @List.mem_map
abbrev QE := @List.getElem?_append_left
abbrev LA := @List.mem_singleton
abbrev GR := @Nat.lt_or_ge
abbrev OH := @decide_eq_true_eq
abbrev I6 := @Nat.add_assoc
abbrev UY := @List.mem_of_getElem?
abbrev HE := @Nat.le_refl
abbrev XT := @Array.getElem?_toList
abbrev Q8 := @List.ext_getElem?
abbrev JK := @Nat.add_zero
abbrev VB := @List.map_congr_left
abbrev SQ := @List.nodup_append
abbrev KB := @Nat.zero_add
abbrev MK := @List.mem_cons
abbrev XU := @Bool.false_eq_true
abbrev OI := @List.map_cons
abbrev SR := @List.length_set
abbrev Y8 := @List.getElem?_drop
abbrev VC := @Option.bind_some
abbrev g_ := @List.getElem?_toArray
abbrev Y9 := @Bool.not_eq_true'
abbrev mY := @List.getElem?_cons_succ
abbrev mZ := @List.getElem?_replicate
abbrev PL := @List.map_map
abbrev qC := @List.getElem?_eq_some_iff
abbrev XV := @List.cons.injEq
abbrev XW := @Option.map_some
abbrev tT := @Array.getElem?_append_left
abbrev hC := @List.getElem?_take
abbrev Y_ := @List.append_nil
abbrev jQ := @Array.getElem?_push
abbrev xV := @Array.getElem?_setIfInBounds
abbrev m0 := @List.mem_cons_of_mem
abbrev dN := @Array.toList_map
abbrev hD := @List.append_assoc
abbrev jR := @Nat.lt_of_lt_of_le
abbrev GJ := @if_true
abbrev Q9 := @Nat.add_mul
abbrev tU := @decide_eq_false_iff_not
abbrev tV := @Option.bind_eq_some_iff
abbrev hI := @List.length_cons
abbrev qD := @List.contains_eq_mem
abbrev qE := @Nat.mul_le_mul_right
abbrev tW := @Array.getElem?_eq_none
abbrev hJ := @List.nodup_cons
abbrev qF := @List.length_append
abbrev SS := @Array.ext'
abbrev jS := @List.nodup_nil
abbrev ABF := @List.length_singleton
abbrev AD5 := @Option.isSome_iff_exists
abbrev xW := @List.mem_filterMap
abbrev Q_ := @if_false
abbrev xX := @Function.comp_def
abbrev xY := @List.getElem?_set
abbrev tX := @Option.map_none
abbrev tY := @List.map_append
abbrev ABG := @List.getElem_of_mem
abbrev AD6 := @List.getElem?_set_self
abbrev ABH := @BitVec.toNat_ofNat
abbrev AD7 := @List.mem_iff_getElem?
abbrev tZ := @List.mem_range
abbrev AD8 := @List.getElem?_set_ne
abbrev hM := @beq_iff_eq
abbrev xZ := @Bool.or_eq_true
abbrev ABI := @List.getElem?_map
abbrev ABJ := @List.flatMap_def
abbrev AD9 := @decide_eq_true_iff
abbrev ZA := @congrArg
abbrev ADA := @Array.ext_getElem?
abbrev ABK := @Bool.eq_iff_iff
abbrev AFT := @List.contains_iff_mem
abbrev AIH := @Array.getElem?_append_right
abbrev x0 := @List.all_cons
abbrev AFU := @List.mem_of_mem_take
abbrev AFV := @List.mem_of_mem_drop
abbrev ADB := @List.cons_append
abbrev AFW := @List.getElem?_range
abbrev AFX := @List.replicate_succ
abbrev AFY := @Array.getElem?_map
abbrev AII := @List.length_eq_zero_iff
abbrev AFZ := @Option.bind_assoc
abbrev x5 := @Nat.mul_one
abbrev AIJ := @BitVec.eq_of_toNat_eq
abbrev ABL := @List.map_nil
abbrev AG0 := @Nat.mod_eq_of_lt
abbrev AG1 := @Option.getD_some
abbrev AG2 := @List.getElem_mem
abbrev AIK := @Array.toArray_toList
abbrev ADC := @Array.getElem?_range
abbrev X6 := @eq_false
abbrev ADD := @List.map_eq_nil_iff
abbrev ADE := @BitVec.toNat_ofInt
abbrev t_ := @Nat.zero_mul
abbrev ADF := @Nat.eq_zero_or_pos
abbrev AA1 := @List.drop_zero
open Go
structure AIL where
 l:List Nat
attribute [class] AIL
instance AN8:AIL:=⟨[]⟩
structure AIM where
 l:Nat->List Nat
attribute [class] AIM
instance AMX:AIM:=⟨fun _=>[]⟩
structure AIN where
 pre:List Value
 post:List Value
attribute [class] AIN
instance AMY:AIN:=⟨[],[]⟩
structure AIO where
 b:Bool
attribute [class] AIO
instance AMZ:AIO:=⟨false⟩
structure QF where
 l:List Deferred
attribute [class] QF
instance AG3:QF:=⟨[]⟩
structure Hd0 where
 A_:Nat
 off:Nat
 nil:Bool
 len:Nat
 cap:Nat
 PN:Option Addr
 fz:Bool
structure AIP where
 l:Nat->Hd0
attribute [class] AIP
instance AN0:AIP:=⟨fun _=>⟨0,0,true,0,0,none,false⟩⟩
structure Nm where
 A_:Nat
 off:Nat
 nil:Bool
 len:Nat
 cap:Nat
 PN:Option Addr
 [ins:AIL]
 [pp:AIN]
 [fz:AIO]
 [hd:AIP]
def Nm.fr (m:Nm) (n:Nat):Nat×Nat:=bif m.fz.b then (n,n+1) else (0,0)
theorem Nm.jT (m:Nm) {n k:Nat} (h:k<n):¬((m.fr n).1<=k/\k<(m.fr n).2):=by
 unfold Nm.fr
 cases m.fz.b
 ·simp
 ·simp;omega
def Nm.arr (m:Nm) (l:List Value):Array Value:=(m.pp.pre++l++m.pp.post).toArray
def Nm.ad (m:Nm):Option Addr:=if m.nil=true then m.PN else some ⟨m.A_,m.off,none⟩
def Hd0.nm (h:Hd0):Nm:={ A_:=h.A_,off:=h.off,nil:=h.nil,len:=h.len,cap:=h.cap,PN:=h.PN,fz:=⟨h.fz⟩ }
def Nm.h0 (m:Nm):Hd0:=⟨m.A_,m.off,m.nil,m.len,m.cap,m.PN,m.fz.b⟩
def Nm.hn (m:Nm) (k:Nat):Nm:=(m.hd.l k).nm
structure Env where
 nm:Nat->Nm
 ds:Nat->Value
 [ins:AIM]
inductive SV where
 |int (k:IntKind) (n:Int)
 |u64 (x:BitVec 64)
 |bool (b:Bool)
 |HF (b:Bool)
 |prop (p:Prop) (d:Decidable p)
 |str (s:ByteArray)
 |N9 (n:Nat)
 |nf (o:Option Nat) (i:Nat)
 |GS
 |ptr (a:Option Addr)
 |loc (i off:Nat)
 |el (i k sz off:Nat)
 |H9 (i:Nat)
 |sub (i lo n sz:Nat)
 |dJ (t:Nat)
 |raw (v:Value)
 |agg (cs:List SV)
 |oO (vs:List SV)
 |mpv (i:Nat)
 |NP (f:FuncId) (cs:List SV)
 |tsl (i k q:Nat)
 |tel (i k q j:Nat)
 |bsl (i lo n c:Nat)
def PV (k:Nat):Nat:=(k%2)*2 ^ 63+0x7ff0000000000000+1+(k / 2)%(2 ^ 52-1)
def XX (a:Option Addr) (n:Nat):Option Addr:=a.map (·.add n)
mutual
def SV.den (E:Env):SV->Value
 | .int k n=> .int k n
 | .u64 x=> .int .u64 (x.toNat:Int)
 | .bool b=> .bool b
 | .HF b=> .bool b
 | .prop p d=> .bool (@decide p d)
 | .str s=> .string s
 | .N9 n=> .float .f64 n
 | .nf o i=> .float .f64 (o.getD (PV (E.nm i).A_))
 | .GS=> .slice none 0 0
 | .ptr a=> .pointer a
 | .loc i off=> .pointer (some ⟨(E.nm i).A_,(E.nm i).off+off,none⟩)
 | .el i k sz off=> .pointer (some ⟨(E.nm i).A_,(E.nm i).off+(k*sz+off),none⟩)
 | .H9 i=> .slice (E.nm i).ad (E.nm i).len (E.nm i).cap
 | .sub i lo n sz=> .slice (if (E.nm i).cap=lo then (E.nm i).ad else XX (E.nm i).ad (lo*sz)) n ((E.nm i).cap-lo)
 | .dJ t=>E.ds t
 | .raw v=>v
 | .agg cs=> .agg (AH E cs).toArray
 | .oO vs=> .tuple (AH E vs).toArray
 | .mpv i=> .map (some (E.nm i).A_)
 | .NP f cs=> .func (.func f) #[] (AH E cs).toArray
 | .tsl i k q=> .slice ((E.nm i).hn (k*2+q)).ad ((E.nm i).hn (k*2+q)).len ((E.nm i).hn (k*2+q)).cap
 | .tel i k q j=> .pointer (some ⟨((E.nm i).hn (k*2+q)).A_,((E.nm i).hn (k*2+q)).off+j,none⟩)
 | .bsl i lo n c=> .slice (some ⟨(E.nm i).A_,(E.nm i).off+lo,none⟩) n c
def AH (E:Env):List SV->List Value
 | []=>[]
 |v::r=>v.den E::AH E r
end
section
variable {E:Env}
theorem CX (l:List SV):AH E l=l.map (SV.den E):=by
 induction l with
 |nil=>rfl
 |cons v r ih=>simp [AH,ih]
def AQ:SV:= .raw undef
def ev (fr:List SV):Operand->SV
 | .tmp t=>fr.getD t AQ
 | .const v=>match v with
  | .int .u64 n=>if 0<=n/\n<18446744073709551616 then .u64 (BitVec.ofNat 64 n.toNat) else .raw (.int .u64 n)
  | .int k n=> .int k n
  | .bool b=> .HF b
  | .string s=> .str s
  | .float .f64 n=> .N9 n
  | .slice none 0 0=> .GS
  | .pointer a=> .ptr a
  |v=> .raw v
 | .global g=> .ptr (some ⟨g,0,none⟩)
 | .func f=> .raw (.func (.func f) #[] #[])
def Sim [dd:QF] (E:Env) (fr:List SV) (a:Act):Prop:=a.tmps=(AH E fr).toArray/\a.defers=dd.l
theorem oP (fr:List SV) (t:Nat):(AH E fr).getD t undef=((fr.getD t AQ).den E):=by
 induction fr generalizing t with
 |nil=>simp [AH,AQ,SV.den]
 |cons v r ih=>cases t with
  |zero=>simp [AH]
  |succ t=>simpa [AH] using ih t
theorem LN [QF] {fr:List SV} {a:Act} (h:Sim E fr a) (x:Operand):a.eval x=((ev fr x).den E):=by
 cases x with
 |tmp t=>
  show a.tmps.getD t undef=_
  rw[h.1]
  have:=oP (E:=E) fr t
  simpa [ev] using this
 |const v=>
  show v=_
  cases v with
  |int k n=>
   cases k <;> try rfl
   simp only[ev]
   split
   ·rename_i hn
    simp only[SV.den,ABH]
    congr 1
    omega
   ·rfl
  |float k n=>cases k <;> rfl
  |slice a l c=>
   simp only[ev]
   split <;> first|rfl|(simp_all [SV.den])
  |_=>rfl
 |global g=>rfl
 |func f=>rfl
def LO (fr:List SV) (dst:Option Tmp) (v:SV):List SV:=
 match dst with
 |some d=>fr.set d v
 |none=>fr
theorem VD (fr:List SV) (d:Nat) (v:SV):AH E (fr.set d v)=(AH E fr).set d (v.den E):=by
 induction fr generalizing d with
 |nil=>rfl
 |cons x r ih=>cases d with
  |zero=>rfl
  |succ d=>simp [AH,ih]
theorem Sim.put [QF] {fr:List SV} {a:Act} (h:Sim E fr a) (dst:Option Tmp) (v:SV):Sim E (LO fr dst v) (a.put dst (v.den E)):=by
 cases dst with
 |none=>exact h
 |some d=>
  refine⟨?_,h.2⟩
  show a.tmps.setIfInBounds d (v.den E)=_
  rw[h.1]
  simp [LO,VD]
structure Rest (w w' :World):Prop where
 os:w'.os=w.os
 tape:w'.tape=w.tape
 output:w'.output=w.output
theorem Rest.refl (w:World):Rest w w:=⟨rfl,rfl,rfl⟩
theorem Rest.trans {a b c:World} (h:Rest a b) (k:Rest b c):Rest a c:=⟨k.os.trans h.os,k.tape.trans h.tape,k.output.trans h.output⟩
def I64 (e:Int):Prop:= -9223372036854775808<=e/\e<=9223372036854775807
def U64 (e:Int):Prop:=0<=e/\e<=18446744073709551615
def InK:IntKind->Int->Prop
 | .i64,e=>I64 e
 | .u64,e=>U64 e
 | .i8,e=> -128<=e/\e<=127
 | .i16,e=> -32768<=e/\e<=32767
 | .i32,e=> -2147483648<=e/\e<=2147483647
 | .u8,e=>0<=e/\e<=255
 | .u16,e=>0<=e/\e<=65535
 | .u32,e=>0<=e/\e<=4294967295
theorem InK.wrap {k:IntKind} {e:Int} (h:InK k e):k.wrap e=e:=by
 cases k
 ·exact IntWalk.i8_in e h
 ·exact IntWalk.i16_in e h
 ·exact IntWalk.i32_in e h
 ·exact IntWalk.i64_in e h
 ·exact IntWalk.u8_in e h
 ·exact IntWalk.u16_in e h
 ·exact IntWalk.u32_in e h
 ·exact IntWalk.u64_in e h
def hN (s:ByteArray) (i:Nat):Int:=((s.data[i]?.getD 0).toNat:Int)
structure DP where
 p:Prop
 d:Decidable p
def cnd:Option DP->Prop
 |none=>True
 |some q=>q.p
abbrev Pu:=Option (Option DP×SV)
def val (v:SV):Pu:=some (none,v)
def ZB (p:Prop) [d:Decidable p] (v:SV):Pu:=some (some ⟨p,d⟩,v)
def cnt:SV->Option (DP×Nat)
 | .int _ n=>some (⟨0<=n,inferInstance⟩,n.toNat)
 | .u64 x=>some (⟨True,inferInstance⟩,x.toNat)
 |_=>none
def shE (op:BinOp) (x c:SV):Pu:=
 match cnt c with
 |none=>none
 |some (q,n)=>match op,x with
  | .shl,.int .i64 a=> @ZB q.p q.d (.int .i64 (IntKind.i64.wrap (a*2 ^ min n 64)))
  | .shr,.int .i64 a=> @ZB q.p q.d (.int .i64 (a / 2 ^ min n 64))
  | .shl,.u64 b=> @ZB q.p q.d (.u64 (b <<< n))
  | .shr,.u64 b=> @ZB q.p q.d (.u64 (b >>> n))
  |_,_=>none
def oQ (op:BinOp) (a b:Int):Int:=
 let x:=BitVec.ofInt 64 a
 let y:=BitVec.ofInt 64 b
 IntKind.i64.wrap (match op with| .and=>x &&& y| .or=>x|||y| .xor=>x ^^^ y|_=>x &&& ~~~y).toNat
def AG4 (op:BinOp) (k:IntKind) (a b:Int):Pu:=
 match op with
 | .add=>val (.int k (k.wrap (a+b)))
 | .sub=>val (.int k (k.wrap (a-b)))
 | .mul=>val (.int k (k.wrap (a*b)))
 | .quo=>ZB (¬b=0) (.int k (k.wrap (a.tdiv b)))
 | .rem=>ZB (¬b=0) (.int k (a.tmod b))
 | .and| .or| .xor| .andNot=>match k with| .i64=>val (.int .i64 (oQ op a b))|_=>none
 | .eql=>val (.prop (a=b) inferInstance)
 | .neq=>val (.prop (¬a=b) inferInstance)
 | .lss=>val (.prop (a<b) inferInstance)
 | .leq=>val (.prop (a<=b) inferInstance)
 | .gtr=>val (.prop (a>b) inferInstance)
 | .geq=>val (.prop (a≥b) inferInstance)
 |_=>none
def AG5 (op:BinOp) (a b:BitVec 64):Pu:=
 match op with
 | .add=>val (.u64 (a+b))
 | .sub=>val (.u64 (a-b))
 | .mul=>val (.u64 (a*b))
 | .quo=>ZB (¬b=0#64) (.u64 (a / b))
 | .rem=>ZB (¬b=0#64) (.u64 (a%b))
 | .and=>val (.u64 (a &&& b))
 | .or=>val (.u64 (a|||b))
 | .xor=>val (.u64 (a ^^^ b))
 | .andNot=>val (.u64 (a &&& ~~~b))
 | .eql=>val (.prop (a=b) inferInstance)
 | .neq=>val (.prop (¬a=b) inferInstance)
 | .lss=>val (.prop (a.toNat<b.toNat) inferInstance)
 | .leq=>val (.prop (a.toNat<=b.toNat) inferInstance)
 | .gtr=>val (.prop (a.toNat>b.toNat) inferInstance)
 | .geq=>val (.prop (a.toNat≥b.toNat) inferInstance)
 |_=>none
def DZ (a b:Nat):Option Ordering:=FloatKind.f64.format.order a b
def AKF (a:Nat):Nat:=Op.negFloat .f64 a
def D_ (op:BinOp) (a b:Nat):Option Nat:=match op with
 | .add=>FloatKind.f64.format.add a b
 | .sub=>FloatKind.f64.format.sub a b
 | .mul=>FloatKind.f64.format.mul a b
 | .quo=>FloatKind.f64.format.div a b
 |_=>none
def dO (n:Int):Nat:=FloatKind.f64.nearest n
def ZC (a:Nat):Option Int:=(FloatKind.f64.decode a).toInt .zero
def fIn (k:IntKind) (a:Nat):Bool:=match ZC a with
 |some n=>decide (k.min<=n/\n<=k.max)
 |none=>false
def W8 (a:Nat):Bool:=(FloatKind.f64.decode a).neg
def AKG (a b:Nat):Nat:=match DZ a b with
 |some .lt=>b
 |some .gt=>a
 |_=>if W8 a=true then b else a
def AKH (a b:Nat):Nat:=match DZ a b with
 |some .lt=>a
 |some .gt=>b
 |_=>if W8 a=true then a else b
def AG6 (op:BinOp) (a b:Nat):Pu:=
 match op with
 | .add| .sub| .mul| .quo=>ZB ((D_ op a b).isSome=true) (.N9 ((D_ op a b).getD 0))
 | .eql=>val (.prop (DZ a b=some .eq) inferInstance)
 | .neq=>val (.prop (¬DZ a b=some .eq) inferInstance)
 | .lss=>val (.prop (DZ a b=some .lt) inferInstance)
 | .leq=>val (.prop (DZ a b=some .lt\/DZ a b=some .eq) inferInstance)
 | .gtr=>val (.prop (DZ a b=some .gt) inferInstance)
 | .geq=>val (.prop (DZ a b=some .gt\/DZ a b=some .eq) inferInstance)
 |_=>none
def aK (a b:Option Nat):Option Ordering:=match a,b with
 |some a,some b=>DZ a b
 |_,_=>none
def nfE (op:BinOp) (a b:Option Nat):Pu:=
 match op with
 | .eql=>val (.prop (aK a b=some .eq) inferInstance)
 | .neq=>val (.prop (¬aK a b=some .eq) inferInstance)
 | .lss=>val (.prop (aK a b=some .lt) inferInstance)
 | .leq=>val (.prop (aK a b=some .lt\/aK a b=some .eq) inferInstance)
 | .gtr=>val (.prop (aK a b=some .gt) inferInstance)
 | .geq=>val (.prop (aK a b=some .gt\/aK a b=some .eq) inferInstance)
 |_=>none
def uA:SV->Option Bool
 | .bool b=>some b
 | .HF b=>some b
 | .prop p d=>some (@decide p d)
 |_=>none
def qG (P:Program) (op:BinOp) (t:TypeId) (x y:SV):Pu:=
 match op with
 | .shl| .shr=>shE op x y
 |op=>match x,y with
  | .int k a,.int k' b=>if k=k' then AG4 op k a b else none
  | .u64 a,.u64 b=>AG5 op a b
  | .str a,.str b=>match op with
   | .eql=>val (.prop (a=b) inferInstance)
   | .neq=>val (.prop (¬a=b) inferInstance)
   | .add=>ZB (a.size+b.size<=9223372036854775807) (.str (a++b))
   |_=>none
  | .N9 a,.N9 b=>AG6 op a b
  | .nf a _,.nf b _=>nfE op a b
  | .nf a _,.N9 b=>nfE op a (some b)
  | .N9 a,.nf b _=>nfE op (some a) b
  |x,y=>match uA x,uA y,P.underlying t,op with
   |some a,some b,some .bool,.eql=>val (.prop (a=b) inferInstance)
   |some a,some b,some .bool,.neq=>val (.prop (¬a=b) inferInstance)
   |_,_,_,_=>none
def unE (op:UnOp) (x:SV):Pu:=
 match op,x with
 | .not,.bool b=>val (.bool (!b))
 | .not,.HF b=>val (.HF (!b))
 | .not,.prop p _=>val (.prop (¬p) inferInstance)
 | .neg,.int .i64 n=>val (.int .i64 (IntKind.i64.wrap (0-n)))
 | .neg,.u64 x=>val (.u64 (0#64-x))
 | .neg,.N9 b=>val (.N9 (AKF b))
 | .xor,.u64 x=>val (.u64 (~~~x))
 |_,_=>none
def AA2 (P:Program) (src dst:TypeId) (x:SV):Pu:=
 match P.underlying src,P.underlying dst,x with
 |some (.int _),some (.int kd),.int _ n=>match kd with
  | .u64=>val (.u64 (BitVec.ofInt 64 n))
  |kd=>val (.int kd (kd.wrap n))
 |some (.int _),some (.int kd),.u64 b=>match kd with
  | .u64=>val (.u64 b)
  |kd=>val (.int kd (kd.wrap b.toNat))
 |some .string,some .string,.str s=>val (.str s)
 |some (.int _),some (.float .f64),.int _ n=>val (.N9 (dO n))
 |some (.int _),some (.float .f64),.u64 x=>val (.N9 (dO (x.toNat:Int)))
 |some (.float _),some (.int kd),.N9 b=>(match kd with
  | .u64=>ZB (fIn .u64 b=true) (.u64 (BitVec.ofInt 64 ((ZC b).getD 0)))
  |kd=>ZB (fIn kd b=true) (.int kd ((ZC b).getD 0)))
 |some (.float _),some (.float .f64),.N9 b=>val (.N9 b)
 |_,_,_=>none
def FI (P:Program) (t:TypeId):Bool:=
 match P.underlying t with
 |some (.struct _)=>true
 |some (.array _ _)=>true
 |_=>false
def uB (P:Program) (t:TypeId) (cs:List SV) (off:Nat):Pu:=
 match P.info? t,P.underlying t with
 |some i,some _=>if FI P t then val (.agg ((cs.drop off).take i.size)) else match cs[off]? with
  |some v=>val v
  |none=>none
 |_,_=>none
def jU:List Bool->Bool
 | []=>true
 | [b]=>b
 |b::r=>b && jU r
def ADG (P:Program) (f:Field) (xs ys:List SV):Option Bool:=
 match f.name != "_", P.underlying f.type, xs[f.offset]?, ys[f.offset]?, P.info? f.type with
 |true,some (.int _),some (.int k a),some (.int k' b),some _=>if k=k' then some (decide (a=b)) else none
 |true,some .bool,some u,some v,some _=>(match uA u,uA v with
  |some a,some b=>some (a==b)
  |_,_=>none)
 |_,_,_,_,_=>none
def dP (P:Program) (xs ys:List SV):List Field->Option (List Bool)
 | []=>some []
 |f::r=>match ADG P f xs ys,dP P xs ys r with
  |some b,some l=>some (b::l)
  |_,_=>none
def AG7 (P:Program) (op:BinOp) (t:TypeId) (xs ys:List SV):Pu:=
 match P.underlying t with
 |some (.struct fs)=>match P.stoodInHeld t||P.eqGuardType P.depth t with
  |true=>none
  |false=>match dP P xs ys fs.toList,op with
   |some bs,.eql=>val (.bool (jU bs))
   |some bs,.neq=>val (.bool (!jU bs))
   |_,_=>none
 |_=>none
def ADH (P:Program) (op:BinOp) (t:TypeId) (x y:SV):Pu:=
 match x,y with
 | .agg xs,.agg ys=>AG7 P op t xs ys
 |x,y=>qG P op t x y
def qH (P:Program) (t:TypeId) (x:SV) (f:Nat):Pu:=
 match P.underlying t,x with
 |some (.struct fs),.agg cs=>match fs[f]? with
  |some fd=>uB P fd.type cs fd.offset
  |none=>none
 |_,_=>none
def aL (x:SV) (i:Nat):Pu:=
 match x with
 | .oO vs=>match vs[i]? with
  |some v=>val v
  |none=>none
 |_=>none
def AZ:SV->List SV
 | .agg cs=>cs
 |v=>[v]
def B5 (cs:List SV) (off:Nat):List SV->List SV
 | []=>cs
 |v::r=>B5 (cs.set off v) (off+1) r
def T4 (place:Nat->Option (Nat×Nat)) (cs:List SV):List (Nat×SV)->Option (List SV)
 | []=>some cs
 |(i,v)::rest=>match place i with
  |none=>none
  |some (off,size)=>if (AZ v).length=size/\off+(AZ v).length<=cs.length then T4 place (B5 cs off (AZ v)) rest else none
def I7:SV->Bool
 | .raw (.agg _)=>true
 | .dJ _=>true
 |_=>false
def ML (l:List (Nat×SV)):Bool:=l.all fun q=> !I7 q.2
def M6:Value->SV
 | .int .u64 n=>if 0<=n/\n<18446744073709551616 then .u64 (BitVec.ofNat 64 n.toNat) else .raw (.int .u64 n)
 | .int k n=> .int k n
 | .bool b=> .HF b
 | .string s=> .str s
 | .float .f64 n=> .N9 n
 | .slice none 0 0=> .GS
 | .pointer a=> .ptr a
 |v=> .raw v
def H2 (P:Program) (t:TypeId):Option (List SV):=
 match P.info? t with
 |some i=>match i.zero with
  |some z=>some (z.cells.toList.map M6)
  |none=>none
 |none=>none
def KC (P:Program):List Field->Option (List (Nat×Nat))
 | []=>some []
 |f::r=>match P.info? f.type,KC P r with
  |some i,some l=>some ((f.offset,i.size)::l)
  |_,_=>none
def qI (P:Program) (t:TypeId) (parts:List (Nat×SV)):Pu:=
 if ML parts=false then none else
 match H2 P t,P.underlying t with
 |some z,some (.struct fs)=>match KC P fs.toList with
  |some pl=>match T4 (fun i=>pl[i]?) z parts with
   |some cs=>val (.agg cs)
   |none=>none
  |none=>none
 |some z,some (.array _ e)=>match P.info? e with
  |some i=>match T4 (fun j=>some (j*i.size,i.size)) z parts with
   |some cs=>val (.agg cs)
   |none=>none
  |none=>none
 |_,_=>none
def idxOf:SV->Option Int
 | .int _ n=>some n
 | .u64 x=>some x.toNat
 |_=>none
def SU (P:Program) (t:TypeId) (x i:SV):Pu:=
 match P.underlying t,x,idxOf i with
 |some (.array len e),.loc i off,some n=>match P.info? e with
  |some q=>ZB (0<=n/\n<len) (.loc i (off+n.toNat*q.size))
  |none=>none
 |some (.array len e),.ptr (some ⟨g,off,none⟩),some n=>match P.info? e with
  |some q=>if q.size=1 then ZB (0<=n/\n<len) (.ptr (some ⟨g,off+n.toNat,none⟩)) else none
  |none=>none
 |_,_,_=>none
def SW (P:Program) (t:TypeId) (x:SV) (f:Nat):Pu:=
 match P.underlying t,x with
 |some (.struct fs),.loc i off=>match fs[f]? with
  |some fd=>match P.info? fd.type with
   |some q=>if q.size=0 then none else val (.loc i (off+fd.offset))
   |none=>none
  |none=>none
 |some (.struct fs),.el i k sz off=>match fs[f]? with
  |some fd=>match P.info? fd.type with
   |some q=>if q.size=0 then none else val (.el i k sz (off+fd.offset))
   |none=>none
  |none=>none
 |_,_=>none
def oR (x:Option SV) (d:Nat):Option (Option Int×Nat):=
 match x with
 |none=>some (none,d)
 |some x=>match idxOf x with
  |some n=>some (some n,n.toNat)
  |none=>none
@[reducible] def Bd (l:Option Int) (h:Option Int) (hn cap:Nat):Prop:=
 (match h with|some n=>0<=n/\n<=cap|none=>True)/\(match l with|some n=>0<=n/\n<=hn|none=>True)
instance (l h:Option Int) (hn cap:Nat):Decidable (Bd l h hn cap):=
 match h,l with
 |some n,some m=>inferInstanceAs (Decidable ((0<=n/\n<=cap)/\(0<=m/\m<=hn)))
 |some n,none=>inferInstanceAs (Decidable ((0<=n/\n<=cap)/\True))
 |none,some m=>inferInstanceAs (Decidable (True/\(0<=m/\m<=hn)))
 |none,none=>inferInstanceAs (Decidable (True/\True))
def qJ (P:Program) (t:TypeId) (x:SV) (low high max:Option SV):Pu:=
 match P.underlying t,x,max with
 |some .string,.str s,none=>match oR high s.size,oR low 0 with
  |some (h,hn),some (l,ln)=>ZB (Bd l h hn s.size) (.str (s.extract ln hn))
  |_,_=>none
 |_,_,_=>none
def qK (P:Program) (t:TypeId) (x i:SV):Pu:=
 match P.underlying t,x,idxOf i with
 |some .string,.str s,some n=>ZB (0<=n/\n<s.size) (.int .u8 (hN s n.toNat))
 |_,_,_=>none
def AG8 (P:Program) (t:TypeId) (x:SV):Pu:=
 match P.underlying t,x with
 |some .string,.str s=>val (.int .i64 s.size)
 |some (.array n _),_=>val (.int .i64 n)
 |_,_=>none
def aM (P:Program) (b:Builtin) (argTypes:List TypeId) (args:List SV):Pu:=
 match b,argTypes,args with
 | .len,t::_,x::_=>AG8 P t x
 | .max,_,[.int k a,.int k' b]=>if k=k' then val (.int k (if b>a then b else a)) else none
 | .min,_,[.int k a,.int k' b]=>if k=k' then val (.int k (if b<a then b else a)) else none
 | .max,_,[.N9 a,.N9 b]=>ZB ((DZ a b).isSome=true) (.N9 (AKG a b))
 | .min,_,[.N9 a,.N9 b]=>ZB ((DZ a b).isSome=true) (.N9 (AKH a b))
 |_,_,_=>none
def VE (P:Program) (ρ:Operand->SV):Op->Pu
 | .move x=>val (ρ x)
 | .assign x=>val (ρ x)
 | .pick c a b=>match ρ c with
  | .HF t=>val (if t then ρ a else ρ b)
  |_=>none
 | .binOp op t x y _=>ADH P op t (ρ x) (ρ y)
 | .unOp op _ x=>unE op (ρ x)
 | .convert src dst x=>AA2 P src dst (ρ x)
 | .extract x i=>aL (ρ x) i
 | .field t x f=>qH P t (ρ x) f
 | .build t parts=>qI P t (parts.toList.map fun q=>(q.1,ρ q.2))
 | .indexAddr t x i=>SU P t (ρ x) (ρ i)
 | .fieldAddr t x f=>SW P t (ρ x) f
 | .slice t x l h m=>qJ P t (ρ x) (l.map ρ) (h.map ρ) (m.map ρ)
 | .index t x i=>qK P t (ρ x) (ρ i)
 | .nilCheck x=>match ρ x with
  | .el i k sz off=>val (.el i k sz off)
  | .loc i off=>val (.loc i off)
  | .NP f cs=>val (.NP f cs)
  |_=>none
 | .makeFunc fn first captured=>match fn,first with
  | .func f,⟨[]⟩=>val (.NP f (captured.toList.map ρ))
  |_,_=>none
 | .call { callee:= .builtin b,args,argTypes }=>aM P b argTypes.toList (args.toList.map ρ)
 |_=>none
section
variable {P:Program} (w:World)
theorem NQ {x:SV} {b:Bool} (h:uA x=some b):(x.den E)= .bool b:=by
 cases x <;> simp_all [uA,SV.den]
theorem jG {c:SV} {q:DP} {n:Nat} (h:cnt c=some (q,n)) (hp:q.p):∃ k y,(c.den E)= .int k y/\0<=y/\y.toNat=n:=by
 cases c <;> simp only[cnt,AR,BP,reduceCtorEq] at h
 case int k y=>obtain⟨rfl,rfl⟩:=h;exact⟨k,y,rfl,hp,rfl⟩
 case u64 x=>obtain⟨rfl,rfl⟩:=h;exact⟨.u64,x.toNat,rfl,by omega,by simp⟩
theorem SX (n:Nat) (h:n<2 ^ 64):IntKind.u64.wrap (n:Int)=n:=IntWalk.u64_in _ ⟨by omega,by omega⟩
theorem HO (n:Int):IntKind.u64.wrap n=n%18446744073709551616:=IntKind.wrap_u64 n
def Pu.ok (r:Pu) (R:SV->Prop):Prop:=∀ p v,r=some (p,v)->cnd p->R v
theorem AX {v:SV} {R:SV->Prop} (h:R v):(val v).ok R:=by
 intro p v' he _;simp only[val,AR,BP] at he;obtain⟨-,rfl⟩:=he;exact h
theorem F1 {q:Prop} [Decidable q] {v:SV} {R:SV->Prop} (h:q->R v):(ZB q v).ok R:=by
 intro p v' he hp;simp only[ZB,AR,BP] at he;obtain⟨rfl,rfl⟩:=he;exact h hp
theorem ok_none {R:SV->Prop}:Pu.ok none R:=by intro p v h;cases h
def CB (E:Env) (P:Program) (s:Sem Value) (w:World) (v:SV):Prop:=s.run P w= .ok (v.den E) w
theorem AA3 {k:IntKind} {a y:Int} {yk:IntKind} (hy:0<=y):(Op.shift .shl k a yk y).run P w= .ok (.int k (k.wrap (a*2 ^ (min y.toNat k.bits)))) w:=by
 unfold Op.shift;rw[BC (by omega)];rfl
theorem AA4 {k:IntKind} {a y:Int} {yk:IntKind} (hy:0<=y):(Op.shift .shr k a yk y).run P w= .ok (.int k (a.fdiv (2 ^ (min y.toNat k.bits)))) w:=by
 unfold Op.shift;rw[BC (by omega)];rfl
theorem uC (n:Nat):(2:Int) ^ n=((2 ^ n:Nat):Int):=by simp
theorem AG9 (b:BitVec 64) (n:Nat):IntKind.u64.wrap ((b.toNat:Int)*2 ^ min n 64)=((b <<< n).toNat:Int):=by
 have h1:((b.toNat:Int)*2 ^ min n 64)=((b.toNat*2 ^ min n 64:Nat):Int):=by rw[uC];rfl
 rw[HO,h1,BitVec.toNat_shiftLeft,Nat.shiftLeft_eq]
 have h2:(18446744073709551616:Int)=((2 ^ 64:Nat):Int):=rfl
 rw[h2,←Int.natCast_emod]
 congr 1
 rcases Nat.le_total n 64 with hn|hn
 ·rw[Nat.min_eq_left hn]
 ·rw[Nat.min_eq_right hn]
  obtain⟨d,rfl⟩:=Nat.exists_eq_add_of_le hn
  rw[Nat.pow_add,←Nat.mul_assoc,Nat.mul_right_comm,Nat.mul_mod_left,Nat.mul_mod_left]
theorem fdiv_pow (a:Int) (n:Nat):a.fdiv (2 ^ n)=a / 2 ^ n:=Int.fdiv_eq_ediv_of_nonneg _ (Int.le_of_lt (Int.pow_pos (by decide)))
theorem AGA (b:BitVec 64) (n:Nat):(b.toNat:Int).fdiv (2 ^ min n 64)=((b >>> n).toNat:Int):=by
 rw[fdiv_pow,uC]
 have h1:((b.toNat:Int) / ((2 ^ min n 64:Nat):Int))=((b.toNat / 2 ^ min n 64:Nat):Int):=rfl
 rw[h1,BitVec.toNat_ushiftRight,Nat.shiftRight_eq_div_pow]
 congr 1
 rcases Nat.le_total n 64 with hn|hn
 ·rw[Nat.min_eq_left hn]
 ·rw[Nat.min_eq_right hn]
  have hb:=b.isLt
  rw[Nat.div_eq_of_lt hb,Nat.div_eq_of_lt (jR hb (Nat.pow_le_pow_right (by decide) hn))]
theorem binOp_shl (t:TypeId) {k yk:IntKind} {a y:Int}:binOp .shl t (.int k a) (.int yk y)=Op.shift .shl k a yk y:=rfl
theorem binOp_shr (t:TypeId) {k yk:IntKind} {a y:Int}:binOp .shr t (.int k a) (.int yk y)=Op.shift .shr k a yk y:=rfl
theorem ADI (op:BinOp) (x c:SV) (t:TypeId):(shE op x c).ok (CB E P (binOp op t (x.den E) (c.den E)) w):=by
 unfold shE
 split
 ·exact ok_none
 ·rename_i q n hc
  split
  ·refine @F1 _ q.d _ _ fun h1=> ?_
   obtain⟨yk,y,hcd,hy,rfl⟩:=jG hc h1
   rw[CB,hcd]
   simp only[SV.den,binOp_shl,AA3 w hy,IntKind.bits]
  ·refine @F1 _ q.d _ _ fun h1=> ?_
   obtain⟨yk,y,hcd,hy,rfl⟩:=jG hc h1
   rw[CB,hcd]
   simp only[SV.den,binOp_shr,AA4 w hy,IntKind.bits,fdiv_pow]
  ·refine @F1 _ q.d _ _ fun h1=> ?_
   obtain⟨yk,y,hcd,hy,rfl⟩:=jG hc h1
   rw[CB,hcd]
   simp only[SV.den,binOp_shl,AA3 w hy,IntKind.bits,AG9]
  ·refine @F1 _ q.d _ _ fun h1=> ?_
   obtain⟨yk,y,hcd,hy,rfl⟩:=jG hc h1
   rw[CB,hcd]
   simp only[SV.den,binOp_shr,AA4 w hy,IntKind.bits,AGA]
  ·exact ok_none
theorem AGB (op:BinOp) (k:IntKind) (a b:Int) (t:TypeId) (h1:op≠ .shl) (h2:op≠ .shr):
  (AG4 op k a b).ok (CB E P (binOp op t (.int k a) (.int k b)) w):=by
 have hk:¬(k≠k):=by simp
 cases op <;> simp only[AG4,ne_eq,not_true,reduceCtorEq,not_false_eq_true] at*
 case add=>exact AX (by simp [CB,binOp,Op.intArith,SV.den])
 case sub=>exact AX (by simp [CB,binOp,Op.intArith,SV.den])
 case mul=>exact AX (by simp [CB,binOp,Op.intArith,SV.den])
 case quo=>exact F1 fun h=>by simp [CB,binOp,Op.intDiv,SV.den,h]
 case rem=>exact F1 fun h=>by simp [CB,binOp,Op.intDiv,SV.den,h]
 case and=>split <;> first|exact ok_none|exact AX rfl
 case or=>split <;> first|exact ok_none|exact AX rfl
 case xor=>split <;> first|exact ok_none|exact AX rfl
 case andNot=>split <;> first|exact ok_none|exact AX rfl
 case eql=>exact AX (by simp [CB,binOp,Op.intCmp,SV.den];rfl)
 case neq=>exact AX (by simp [CB,binOp,Op.intCmp,SV.den];rfl)
 case lss=>exact AX (by simp [CB,binOp,Op.intCmp,SV.den])
 case leq=>exact AX (by simp [CB,binOp,Op.intCmp,SV.den])
 case gtr=>exact AX (by simp [CB,binOp,Op.intCmp,SV.den])
 case geq=>exact AX (by simp [CB,binOp,Op.intCmp,SV.den])
theorem fE (a b:BitVec 64):((a.toNat:Int)=(b.toNat:Int))↔a=b:=by
 rw[Int.ofNat_inj];exact BitVec.toNat_inj
theorem GU (a:BitVec 64):BitVec.ofInt 64 (a.toNat:Int)=a:=by simp
theorem AGC (op:BinOp) (a b:BitVec 64) (t:TypeId) (h1:op≠ .shl) (h2:op≠ .shr):
  (AG5 op a b).ok (CB E P (binOp op t (.int .u64 a.toNat) (.int .u64 b.toNat)) w):=by
 have CP:=fun x:BitVec 64=>x.isLt
 have hw:∀ x:BitVec 64,IntKind.u64.wrap (x.toNat:Int)=x.toNat:=fun x=>SX _ x.isLt
 have h64:(18446744073709551616:Int)=((2 ^ 64:Nat):Int):=rfl
 have hm:∀ n:Nat,(n:Int)%18446744073709551616=((n%2 ^ 64:Nat):Int):=fun n=>rfl
 have key:∀ (v:Value) (o:SV),(∀ x,o= .u64 x->v= .int .u64 (x.toNat:Int))->(∃ x,o= .u64 x)->(Result.ok v w=Result.ok (o.den E) w):=by
  rintro v o h ⟨x,rfl⟩;rw[h x rfl];rfl
 cases op <;> simp only[AG5,ne_eq,not_true,reduceCtorEq,not_false_eq_true] at*
 case add=>
  refine AX ?_
  have e:IntKind.u64.wrap ((a.toNat:Int)+b.toNat)=((a+b).toNat:Int):=by
   rw[HO,BitVec.toNat_add,←Int.natCast_add,hm]
  show Result.ok (Value.int .u64 (IntKind.u64.wrap ((a.toNat:Int)+b.toNat))) w=_
  rw[e];rfl
 case sub=>
  refine AX ?_
  have e:IntKind.u64.wrap ((a.toNat:Int)-b.toNat)=((a-b).toNat:Int):=by
   rw[HO,BitVec.toNat_sub]
   have:=CP a;have:=CP b
   omega
  show Result.ok (Value.int .u64 (IntKind.u64.wrap ((a.toNat:Int)-b.toNat))) w=_
  rw[e];rfl
 case mul=>
  refine AX ?_
  have e:IntKind.u64.wrap ((a.toNat:Int)*b.toNat)=((a*b).toNat:Int):=by
   rw[HO,BitVec.toNat_mul,←Int.natCast_mul,hm]
  show Result.ok (Value.int .u64 (IntKind.u64.wrap ((a.toNat:Int)*b.toNat))) w=_
  rw[e];rfl
 case quo=>
  refine F1 fun h=> ?_
  have h0:¬(b.toNat:Int)=0:=by
   intro h';apply h;apply AIJ;have:b.toNat=0:=by omega
   rw[this];rfl
  have e:IntKind.u64.wrap ((a.toNat:Int).tdiv b.toNat)=((a / b).toNat:Int):=by
   rw[Int.tdiv_eq_ediv_of_nonneg (by omega),←hw (a / b),BitVec.toNat_udiv];rfl
  have e2:(binOp .quo t (.int .u64 a.toNat) (.int .u64 b.toNat)).run P w= .ok (.int .u64 (IntKind.u64.wrap ((a.toNat:Int).tdiv b.toNat))) w:=by
   show (Op.intDiv .quo .u64 a.toNat b.toNat).run P w=_
   unfold Op.intDiv;rw[BC h0];rfl
  rw[CB,e2,e];rfl
 case rem=>
  refine F1 fun h=> ?_
  have h0:¬(b.toNat:Int)=0:=by
   intro h';apply h;apply AIJ;have:b.toNat=0:=by omega
   rw[this];rfl
  have e:((a.toNat:Int).tmod b.toNat)=((a%b).toNat:Int):=by
   rw[Int.tmod_eq_emod_of_nonneg (by omega),BitVec.toNat_umod];rfl
  have e2:(binOp .rem t (.int .u64 a.toNat) (.int .u64 b.toNat)).run P w= .ok (.int .u64 ((a.toNat:Int).tmod b.toNat)) w:=by
   show (Op.intDiv .rem .u64 a.toNat b.toNat).run P w=_
   unfold Op.intDiv;rw[BC h0];rfl
  rw[CB,e2,e];rfl
 case and=>
  refine AX ?_
  show Result.ok (Value.int .u64 (IntKind.u64.wrap ((BitVec.ofInt 64 a.toNat &&& BitVec.ofInt 64 b.toNat).toNat:Int))) w=_
  rw[GU,GU,hw];rfl
 case or=>
  refine AX ?_
  show Result.ok (Value.int .u64 (IntKind.u64.wrap ((BitVec.ofInt 64 a.toNat|||BitVec.ofInt 64 b.toNat).toNat:Int))) w=_
  rw[GU,GU,hw];rfl
 case xor=>
  refine AX ?_
  show Result.ok (Value.int .u64 (IntKind.u64.wrap ((BitVec.ofInt 64 a.toNat ^^^ BitVec.ofInt 64 b.toNat).toNat:Int))) w=_
  rw[GU,GU,hw];rfl
 case andNot=>
  refine AX ?_
  show Result.ok (Value.int .u64 (IntKind.u64.wrap ((BitVec.ofInt 64 a.toNat &&& ~~~ BitVec.ofInt 64 b.toNat).toNat:Int))) w=_
  rw[GU,GU,hw];rfl
 case eql=>
  refine AX ?_
  show Result.ok (Value.bool ((a.toNat:Int)==(b.toNat:Int))) w=Result.ok (Value.bool (decide (a=b))) w
  congr 2;rw[ABK,hM,AD9];exact fE a b
 case neq=>
  refine AX ?_
  show Result.ok (Value.bool ((a.toNat:Int) !=(b.toNat:Int))) w=Result.ok (Value.bool (decide (¬a=b))) w
  congr 2;rw[ABK,bne_iff_ne,AD9,ne_eq,fE]
 case lss=>exact AX (by simp [CB,binOp,Op.intCmp,SV.den])
 case leq=>exact AX (by simp [CB,binOp,Op.intCmp,SV.den])
 case gtr=>exact AX (by simp [CB,binOp,Op.intCmp,SV.den])
 case geq=>exact AX (by simp [CB,binOp,Op.intCmp,SV.den])
theorem aN (d:Nat) {t:TypeId} (h:P.underlying t=some .bool) (a b:Bool):(Op.equalIn (d+1) t (.bool a) (.bool b)).run P w= .ok (a==b) w:=by
 simp [Op.equalIn,run_underlying h]
theorem run_equal_bool {t:TypeId} (h:P.underlying t=some .bool) (a b:Bool):(Op.equal t (.bool a) (.bool b)).run P w= .ok (a==b) w:=
 aN w 9999 h a b
theorem aO (d:Nat) {t e:TypeId} (h:P.underlying t=some (.slice e)) (a:Option Addr) (l c l' c' :Nat):(Op.equalIn (d+1) t (.slice a l c) (.slice none l' c')).run P w= .ok a.isNone w:=by
 cases a <;> simp [Op.equalIn,run_underlying h]
theorem XY {t e:TypeId} (h:P.underlying t=some (.slice e)) (a:Option Addr) (l c l' c' :Nat):(Op.equal t (.slice a l c) (.slice none l' c')).run P w= .ok a.isNone w:=
 aO w 9999 h a l c l' c'
theorem ADJ (a b:ByteArray):(a.toList==b.toList)=decide (a=b):=by
 rw[ABK,hM,AD9,ByteArray.toList_eq,ByteArray.toList_eq]
 constructor
 ·intro h;cases a;cases b;simp at h;simp [h]
 ·rintro rfl;rfl
theorem AGD (op:BinOp) (a b:Nat) (t:TypeId):(AG6 op a b).ok (CB E P (binOp op t (.float .f64 a) (.float .f64 b)) w):=by
 have arith:∀ op:BinOp,(∀ r,D_ op a b=some r->(Op.floatArith op .f64 a b).run P w= .ok (.float .f64 r) w)->(ZB ((D_ op a b).isSome=true) (.N9 ((D_ op a b).getD 0)):Pu).ok (CB E P (Op.floatArith op .f64 a b) w):=by
  intro op hr
  refine F1 fun h=> ?_
  obtain⟨r,h1⟩:=AD5.1 h
  rw[CB,hr r h1,h1];rfl
 have cmp:∀ (c:Bool) (p:Prop) [Decidable p],(c=true↔p)->Result.ok (Value.bool c) w=Result.ok ((SV.prop p inferInstance).den E) w:=by
  intro c p _ h
  have:c=decide p:=by rw[ABK,h,AD9]
  rw[this];rfl
 cases op <;> simp only[AG6]
 case add=>exact arith .add fun r h=>by simp only[D_] at h;simp [Op.floatArith,h]
 case sub=>exact arith .sub fun r h=>by simp only[D_] at h;simp [Op.floatArith,h]
 case mul=>exact arith .mul fun r h=>by simp only[D_] at h;simp [Op.floatArith,h]
 case quo=>exact arith .quo fun r h=>by simp only[D_] at h;simp [Op.floatArith,h]
 case eql=>exact AX (cmp (DZ a b==some .eq) _ (by simp))
 case neq=>exact AX (cmp (DZ a b !=some .eq) _ (by simp))
 case lss=>exact AX (cmp (DZ a b==some .lt) _ (by simp))
 case leq=>exact AX (cmp (DZ a b==some .lt||DZ a b==some .eq) _ (by simp))
 case gtr=>exact AX (cmp (DZ a b==some .gt) _ (by simp))
 case geq=>exact AX (cmp (DZ a b==some .gt||DZ a b==some .eq) _ (by simp))
 all_goals exact ok_none
theorem x6 (k:Nat):∃ s f,FloatKind.f64.format.read (PV k)= .nan s f:=by
 unfold Ieee.Format.read
 have hb:FloatKind.f64.format.binade=4503599627370496:=by decide
 have hs:FloatKind.f64.format.signWeight=9223372036854775808:=by decide
 have hi:FloatKind.f64.format.infRung=9218868437227405312:=by decide
 simp only[hb,hs,hi]
 have h' :9218868437227405312<PV k%9223372036854775808:=by
  show 9218868437227405312<((k%2)*9223372036854775808+9218868437227405312+1+(k / 2)%4503599627370495)%9223372036854775808
  have hq:(k / 2)%4503599627370495<4503599627370495:=Nat.mod_lt _ (by decide)
  have hp:k%2<2:=Nat.mod_lt _ (by decide)
  generalize k%2=p at*
  generalize (k / 2)%4503599627370495=q at*
  omega
 rw[BC (by omega),BC (by omega),BC (by omega)]
 exact⟨_,_,rfl⟩
theorem uD (k b:Nat):DZ (PV k) b=none/\DZ b (PV k)=none:=by
 obtain⟨s,f,h⟩:=x6 k
 unfold DZ Ieee.Format.order
 rw[h]
 refine⟨rfl, ?_⟩
 unfold Ieee.Datum.order
 cases FloatKind.f64.format.read b <;> rfl
theorem ABM (a b:Option Nat) (k j:Nat):DZ (a.getD (PV k)) (b.getD (PV j))=aK a b:=by
 cases a with
 |none=>exact (uD k _).1
 |some a=>cases b with
  |none=>exact (uD j _).2
  |some b=>rfl
theorem x7 (op:BinOp) (a b:Option Nat) (k j:Nat) (t:TypeId):(nfE op a b).ok (CB E P (binOp op t (.float .f64 (a.getD (PV k))) (.float .f64 (b.getD (PV j)))) w):=by
 have cmp:∀ (c:Bool) (p:Prop) [Decidable p],(c=true↔p)->Result.ok (Value.bool c) w=Result.ok ((SV.prop p inferInstance).den E) w:=by
  intro c p _ h
  have:c=decide p:=by rw[ABK,h,AD9]
  rw[this];rfl
 have e:=ABM a b k j
 generalize a.getD (PV k)=A at e ⊢
 generalize b.getD (PV j)=B at e ⊢
 cases op <;> simp only[nfE]
 case eql=>exact AX (cmp (DZ A B==some .eq) _ (by rw[e];simp))
 case neq=>exact AX (cmp (DZ A B !=some .eq) _ (by rw[e];simp))
 case lss=>exact AX (cmp (DZ A B==some .lt) _ (by rw[e];simp))
 case leq=>exact AX (cmp (DZ A B==some .lt||DZ A B==some .eq) _ (by rw[e];simp))
 case gtr=>exact AX (cmp (DZ A B==some .gt) _ (by rw[e];simp))
 case geq=>exact AX (cmp (DZ A B==some .gt||DZ A B==some .eq) _ (by rw[e];simp))
 all_goals exact ok_none
theorem AGE (op:BinOp) (t:TypeId) (x y:SV):(qG P op t x y).ok (CB E P (binOp op t (x.den E) (y.den E)) w):=by
 unfold qG
 split
 ·exact ADI w _ x y t
 ·exact ADI w _ x y t
 ·rename_i h1 h2
  split
  ·split
   ·rename_i hk;subst hk
    exact AGB w op _ _ _ t h1 h2
   ·exact ok_none
  ·exact AGC w op _ _ t h1 h2
  ·split
   ·refine AX ?_
    rename_i a b _
    show Result.ok (Value.bool (a.toList==b.toList)) w=Result.ok (Value.bool (decide (a=b))) w
    rw[ADJ]
   ·refine AX ?_
    rename_i a b _
    show Result.ok (Value.bool (!(a.toList==b.toList))) w=Result.ok (Value.bool (decide (¬a=b))) w
    rw[ADJ,decide_not]
   ·refine F1 fun ZD=> ?_
    rename_i a b _
    show (if ((a.size+b.size:Nat):Int)>IntKind.i64.max then (unsupported _:Sem Value) else pure (.string (a++b))).run P w=_
    rw[BC (by have:IntKind.i64.max=9223372036854775807:=(by decide);omega)]
    rfl
   ·exact ok_none
  ·exact AGD w _ _ _ t
  ·exact x7 w _ _ _ _ _ t
  ·exact x7 w _ _ (some _) _ 0 t
  ·exact x7 w _ (some _) _ 0 _ t
  ·split
   ·rename_i ha hb hu
    refine AX ?_
    rw[CB,NQ ha,NQ hb]
    simp [binOp,SV.den,run_equal_bool w hu];rfl
   ·rename_i ha hb hu
    refine AX ?_
    rw[CB,NQ ha,NQ hb]
    simp [binOp,SV.den,run_equal_bool w hu];rfl
   ·exact ok_none
theorem AIQ (op:UnOp) (x:SV):(unE op x).ok (CB E P (Op.unary op (x.den E)) w):=by
 unfold unE
 split
 ·exact AX (show Sem.run _ _ _=_ from rfl)
 ·exact AX (show Sem.run _ _ _=_ from rfl)
 ·exact AX (by simp [CB,Op.unary,SV.den])
 ·exact AX (by simp only[CB,Op.unary,SV.den,Op.intArith];rfl)
 ·rename_i x
  refine AX ?_
  have e:IntKind.u64.wrap ((0:Int)-(x.toNat:Int))=((0#64-x).toNat:Int):=by
   rw[HO,BitVec.toNat_sub]
   have:=x.isLt
   simp only[ABH]
   omega
  show Result.ok (Value.int .u64 (IntKind.u64.wrap ((0:Int)-(x.toNat:Int)))) w=_
  rw[e];rfl
 ·exact AX rfl
 ·rename_i x
  refine AX ?_
  have hw:∀ x:BitVec 64,IntKind.u64.wrap (x.toNat:Int)=x.toNat:=fun x=>SX _ x.isLt
  have:BitVec.ofInt 64 (IntKind.u64.max) ^^^ x= ~~~x:=by
   have:BitVec.ofInt 64 (IntKind.u64.max)=BitVec.allOnes 64:=by decide
   rw[this,BitVec.allOnes_xor]
  show Result.ok (Value.int .u64 (IntKind.u64.wrap ((BitVec.ofInt 64 (IntKind.u64.max) ^^^ BitVec.ofInt 64 (x.toNat:Int)).toNat:Int))) w=_
  rw[GU,this,hw];rfl
 ·exact ok_none
theorem x8 (n:Int):IntKind.u64.wrap n=((BitVec.ofInt 64 n).toNat:Int):=by
 rw[HO,ADE]
 have:(0:Int)<=n%18446744073709551616:=by omega
 simp;omega
theorem KD {src dst:TypeId} {ks kd k:IntKind} (hs:P.underlying src=some (.int ks)) (hd:P.underlying dst=some (.int kd)) (n:Int):
  (convert src dst (.int k n)).run P w= .ok (.int kd (kd.wrap n)) w:=by
 simp [convert,run_underlying hs,run_underlying hd,Conv.intToInt]
theorem ADK (src dst:TypeId) (x:SV):(AA2 P src dst x).ok (CB E P (convert src dst (x.den E)) w):=by
 unfold AA2
 split
 ·rename_i hs hd
  split
  ·exact AX (by simp only[CB,SV.den,KD w hs hd,x8])
  ·exact AX (by simp only[CB,SV.den,KD w hs hd])
 ·rename_i hs hd
  split
  ·exact AX (by simp only[CB,SV.den,KD w hs hd];rw[SX _ (BitVec.isLt _)])
  ·exact AX (by simp only[CB,SV.den,KD w hs hd])
 ·rename_i hs hd
  exact AX (by simp [CB,convert,run_underlying hs,run_underlying hd,SV.den])
 ·rename_i hs hd
  exact AX (by simp [CB,convert,run_underlying hs,run_underlying hd,SV.den,Conv.intToFloat,dO])
 ·rename_i hs hd
  exact AX (by simp [CB,convert,run_underlying hs,run_underlying hd,SV.den,Conv.intToFloat,dO])
 ·rename_i hs hd
  rename_i fk kd0 b
  have key:∀ kd:IntKind,P.underlying dst=some (.int kd)->fIn kd b=true->(convert src dst (.float .f64 b)).run P w= .ok (.int kd ((ZC b).getD 0)) w:=by
   intro kd hd h
   unfold fIn at h
   split at h
   ·rename_i n hn
    simp only[OH] at h
    have hn' :=hn
    unfold ZC at hn'
    simp [convert,run_underlying hs,run_underlying hd,Conv.floatToInt,hn',hn,h.1,h.2]
   ·cases h
  split
  ·refine F1 fun h=> ?_
   refine (key .u64 hd h).trans ?_
   unfold fIn at h
   split at h
   ·rename_i n hn
    simp only[OH] at h
    have h1:(0:Int)<=n:=h.1
    have h2:n<=18446744073709551615:=h.2
    rw[hn]
    show Result.ok (Value.int .u64 n) w=Result.ok (Value.int .u64 ((BitVec.ofInt 64 n).toNat:Int)) w
    rw[ADE]
    congr 2
    have:((n%((2 ^ 64:Nat):Int)).toNat:Int)=n:=by
     rw[Int.emod_eq_of_lt h1 (by omega)];omega
    exact this.symm
   ·cases h
  ·exact F1 fun h=>key _ hd h
 ·rename_i hs hd
  exact AX (by simp [CB,convert,run_underlying hs,run_underlying hd,SV.den,Conv.floatToFloat])
 ·exact ok_none
theorem fF (op:BinOp) (t:TypeId) (x y:Operand) {a:Value} (b:Value) (h1:∀ c,a≠ .agg c) (h2:a≠ .nilIface):(eqGuard op t x y a b).run P w= .ok () w:=by
 cases a <;> first|exact absurd rfl h2|exact absurd rfl (h1 _)|(cases op <;> rfl)
theorem x9 {op:BinOp} {t:TypeId} {x y:SV} {r:Option DP×SV} (h:qG P op t x y=some r):(∀ c,(x.den E)≠ .agg c)/\(x.den E)≠ .nilIface:=by
 have hb:(∃ v,x= .raw v)\/(∃ v,x= .agg v)\/(∃ v,x= .dJ v)\/((∀ c,(x.den E)≠ .agg c)/\(x.den E)≠ .nilIface):=by
  cases x with
  |raw v=>exact .inl ⟨v,rfl⟩
  |agg v=>exact .inr (.inl ⟨v,rfl⟩)
  |dJ v=>exact .inr (.inr (.inl ⟨v,rfl⟩))
  |_=>exact .inr (.inr (.inr ⟨fun c hc=>by simp [SV.den] at hc,fun hc=>by simp [SV.den] at hc⟩))
 rcases hb with ⟨v,rfl⟩|⟨v,rfl⟩|⟨v,rfl⟩|hb
 ·exfalso
  unfold qG at h
  split at h
  ·unfold shE at h;split at h <;> simp at h
  ·unfold shE at h;split at h <;> simp at h
  ·split at h <;> simp_all [uA]
 ·exfalso
  unfold qG at h
  split at h
  ·unfold shE at h;split at h <;> simp at h
  ·unfold shE at h;split at h <;> simp at h
  ·split at h <;> simp_all [uA]
 ·exfalso
  unfold qG at h
  split at h
  ·unfold shE at h;split at h <;> simp at h
  ·unfold shE at h;split at h <;> simp at h
  ·split at h <;> simp_all [uA]
 ·exact hb
theorem DO (a b:List SV):AH E (a++b)=AH E a++AH E b:=by simp [CX]
theorem AL (a:List SV):(AH E a).length=a.length:=by simp [CX]
theorem C5 (a:List SV) (i:Nat):(AH E a)[i]? =(a[i]?).map (SV.den E):=by simp [CX]
theorem H_ {t:TypeId} {d:TypeDesc} (h:P.underlying t=some d):(isAgg t).run P w= .ok (FI P t) w:=by
 unfold isAgg FI
 rw[h]
 cases d <;> simp [run_underlying h]
theorem ADL (t:TypeId) (cs:List SV) (off:Nat):(uB P t cs off).ok fun v=>(part t (AH E cs).toArray off).run P w= .ok (v.den E) w:=by
 unfold uB
 split
 ·rename_i i d hi hd
  split
  ·rename_i ha
   refine AX ?_
   simp [part,H_ w hd,ha,sizeOf,typeInfo,hi,SV.den,CX,List.map_take,List.map_drop]
  ·rename_i ha
   split
   ·rename_i v hv
    refine AX ?_
    simp [part,H_ w hd,ha,C5,hv]
   ·exact ok_none
 ·exact ok_none
theorem ABN (b:Bool):∀ l,jU (b::l)=(b && jU l)
 | []=>by simp [jU]
 |_::_=>rfl
theorem uE {t:TypeId} {kk:IntKind} (hu:P.underlying t=some (.int kk)) (d:Nat) (k:IntKind) (a b:Int):
  (Op.equalIn (d+1) t (.int k a) (.int k b)).run P w= .ok (decide (a=b)) w:=by
 rw[Op.equalIn,Sem.run_bind,run_underlying hu]
 show (if k = k then pure (a == b) else stuck "==: kinds differ" : Sem Bool).run P w = _
 rw[BQ rfl]
 rfl
def jV (d:Nat) (X Y:Array Value) (f:Field):Sem (ForInStep (Option Bool×Unit)):=
 if f.name ≠ "_" then do
  if !(<-Op.equalIn d f.type (<-part f.type X f.offset) (<-part f.type Y f.offset)) then pure (ForInStep.done (some false,()))
  else pure (ForInStep.yield (none,()))
 else pure (ForInStep.yield (none,()))
theorem x_ {f:Field} {d:Nat} {xs ys:List SV} {b:Bool} (h:ADG P f xs ys=some b):
  (jV (d+1) (AH E xs).toArray (AH E ys).toArray f).run P w= .ok (if b=true then .yield (none,()) else .done (some false,())) w:=by
 unfold ADG at h
 split at h
 ·rename_i k0 k a k' c i hn hu hx hy hi
  split at h
  ·rename_i hk
   subst hk
   simp only[AR] at h
   subst h
   have hn' : f.name ≠ "_" := by simpa using hn
   have h0:FI P f.type=false:=by unfold FI;rw[hu]
   have hp:∀ zs:List SV,∀ n,zs[f.offset]? =some (.int k n)->(part f.type (AH E zs).toArray f.offset).run P w= .ok (.int k n) w:=by
    intro zs n hz
    simp [part,H_ w hu,h0,C5,hz,SV.den]
   unfold jV
   rw[BQ hn']
   simp only[Sem.run_bind,hp xs a hx,hp ys c hy,Result.andThen,uE w hu]
   by_cases hac:a=c
   ·simp [hac]
   ·simp [hac]
  ·cases h
 ·rename_i k0 u v i hn hu hx hy hi
  split at h
  ·rename_i a c ha hc
   simp only[AR] at h
   subst h
   have hn' : f.name ≠ "_" := by simpa using hn
   have h0:FI P f.type=false:=by unfold FI;rw[hu]
   have hp:∀ zs:List SV,∀ (z:SV) (n:Bool),zs[f.offset]? =some z->uA z=some n->(part f.type (AH E zs).toArray f.offset).run P w= .ok (.bool n) w:=by
    intro zs z n hz hn
    rw[<-NQ hn (E:=E)]
    simp [part,H_ w hu,h0,C5,hz]
   unfold jV
   rw[BQ hn']
   simp only[Sem.run_bind,hp xs _ a hx ha,hp ys _ c hy hc,Result.andThen,aN w _ hu]
   by_cases hac:a=c
   ·simp [hac]
   ·simp [hac]
  ·cases h
 ·cases h
theorem jW (d:Nat) (xs ys:List SV):∀ (fs:List Field) (bs:List Bool),dP P xs ys fs=some bs→
  (forIn fs ((none,()):Option Bool×Unit) (fun f _=>jV (d+1) (AH E xs).toArray (AH E ys).toArray f):Sem (Option Bool×Unit)).run P w= .ok (if jU bs=true then none else some false,()) w
 | [],bs,h=>by
  simp only[dP,AR] at h
  subst h
  simp [jU]
 |f::r,bs,h=>by
  rw[dP] at h
  split at h
  ·rename_i b l hb hl
   simp only[AR] at h
   subst h
   rw[List.forIn_cons,Sem.run_bind,x_ w hb,ABN]
   cases b with
   |true=>exact jW d xs ys r l hl
   |false=>rfl
  ·cases h
theorem oS {t:TypeId} {fs:Array Field} {xs ys:List SV} {bs:List Bool} (hu:P.underlying t=some (.struct fs)) (hs:P.stoodInHeld t=false) (h:dP P xs ys fs.toList=some bs):
  (Op.equal t (.agg (AH E xs).toArray) (.agg (AH E ys).toArray)).run P w= .ok (jU bs) w:=by
 have h1:=jW (E:=E) (P:=P) w 9998 xs ys fs.toList bs h
 rw[Op.equal,Op.maxDepth,Op.equalIn,Sem.run_bind,run_underlying hu]
 unfold jV at h1
 have hp:(program:Sem Program).run P w= .ok P w:=rfl
 simp only[Result.andThen,Sem.run_bind,hp,hs,XU,Q_]
 rw[<-Array.forIn_toList]
 erw [h1]
 by_cases hb:jU bs=true
 ·simp [hb]
 ·simp only[Bool.not_eq_true] at hb
  rw[hb];rfl
theorem AGF (op:BinOp) (t:TypeId) (xs ys:List SV) (x y:Operand):(AG7 P op t xs ys).ok (CB E P (do eqGuard op t x y (.agg (AH E xs).toArray) (.agg (AH E ys).toArray);binOp op t (.agg (AH E xs).toArray) (.agg (AH E ys).toArray)) w):=by
 unfold AG7
 split
 ·rename_i fs hu
  split
  ·exact ok_none
  ·rename_i hg
   simp only[Bool.or_eq_false_iff] at hg
   split
   ·rename_i bs hb
    refine AX ?_
    have h:=oS (E:=E) (P:=P) w hu hg.1 hb
    rw[CB,Sem.run_bind]
    have h2:(eqGuard .eql t x y (.agg (AH E xs).toArray) (.agg (AH E ys).toArray)).run P w= .ok () w:=by
     simp [eqGuard,hg.2]
    rw[h2]
    show (do pure (.bool (<-Op.equal t (.agg (AH E xs).toArray) (.agg (AH E ys).toArray))):Sem Value).run P w=_
    rw[Sem.run_bind,h]
    rfl
   ·rename_i bs hb
    refine AX ?_
    have h:=oS (E:=E) (P:=P) w hu hg.1 hb
    rw[CB,Sem.run_bind]
    have h2:(eqGuard .neq t x y (.agg (AH E xs).toArray) (.agg (AH E ys).toArray)).run P w= .ok () w:=by
     simp [eqGuard,hg.2]
    rw[h2]
    show (do pure (.bool (!(<-Op.equal t (.agg (AH E xs).toArray) (.agg (AH E ys).toArray)))):Sem Value).run P w=_
    rw[Sem.run_bind,h]
    rfl
   ·exact ok_none
 ·exact ok_none
theorem ABO (t:TypeId) (x:SV) (f:Nat):(qH P t x f).ok (CB E P (Instr.field t (x.den E) f) w):=by
 unfold qH
 split
 ·rename_i fs cs hu
  split
  ·rename_i fd hf
   have h:=ADL (E:=E) (P:=P) w fd.type cs fd.offset
   intro p v he hp
   have:=h p v he hp
   rw[CB]
   simp only[Instr.field,SV.den,Sem.run_bind,run_underlying hu,Result.andThen,hf]
   simpa [asAgg] using this
  ·exact ok_none
 ·exact ok_none
theorem uF (x:SV) (i:Nat):(aL x i).ok (CB E P (Instr.extract (x.den E) i) w):=by
 unfold aL
 split
 ·split
  ·rename_i v hv
   refine AX ?_
   simp [CB,Instr.extract,SV.den,C5,hv]
  ·exact ok_none
 ·exact ok_none
theorem ZE (v:SV) (h:I7 v=false):(v.den E).cells=(AH E (AZ v)).toArray:=by
 cases v with
 |raw u=>cases u <;> first|rfl|simp [I7] at h
 |dJ t=>simp [I7] at h
 |_=>rfl
theorem uG (cs:List SV) (off:Nat) (vs:List SV):AH E (B5 cs off vs)=(vs.zipIdx off).foldl (fun c (x,j)=>c.set j (x.den E)) (AH E cs):=by
 induction vs generalizing cs off with
 |nil=>rfl
 |cons v r ih=>simp [B5,ih,VD]
theorem X7 (cs:List SV) (off:Nat) (vs:List SV):(B5 cs off vs).length=cs.length:=by
 induction vs generalizing cs off with
 |nil=>rfl
 |cons v r ih=>simp [B5,ih]
theorem yA (off:Nat) (vs:List Value) (cs:Array Value) (k:Nat):
  (vs.zipIdx k).foldl (fun cs (c,j)=>cs.setIfInBounds (off+j) c) cs=((vs.zipIdx (off+k)).foldl (fun c (x,j)=>c.set j x) cs.toList).toArray:=by
 induction vs generalizing cs k with
 |nil=>simp
 |cons v r ih=>
  simp only[List.zipIdx_cons,List.foldl_cons]
  rw[ih]
  simp [I6]
theorem SY (place:Nat->Option (Nat×Nat)) (cs ZF :List SV) (l:List (Nat×SV)) (hn:ML l=true) (h:T4 place cs l=some ZF):
  Instr.fill place (AH E cs).toArray (l.map fun q=>(q.1,q.2.den E))=some (AH E ZF).toArray:=by
 induction l generalizing cs with
 |nil=>simp only[T4,AR] at h;subst h;rfl
 |cons q r ih=>
  obtain⟨i,v⟩:=q
  simp only[ML,x0,PG,Y9] at hn
  simp only[T4] at h
  cases hp:place i with
  |none=>simp [hp] at h
  |some os=>
   obtain⟨off,size⟩:=os
   simp only[hp] at h
   split at h
   ·rename_i hc
    have MM:=ZE (E:=E) v hn.1
    have hlen:(v.den E).cells.size=(AZ v).length:=by rw[MM];simp [AL]
    simp only[OI,Instr.fill,hp,hlen]
    have e1:((AZ v).length !=size||decide (off+(AZ v).length>(AH E cs).toArray.size))=false:=by
     simp [AL];omega
    rw[BC (by simp [AL];omega)]
    have e2:((v.den E).cells.zipIdx.foldl (fun cs (c,j)=>cs.setIfInBounds (off+j) c) (AH E cs).toArray)=(AH E (B5 cs off (AZ v))).toArray:=by
     rw[MM]
     have:=yA off (AH E (AZ v)) (AH E cs).toArray 0
     simp only[JK] at this
     rw[uG]
     simp only[CX,List.zipIdx_map,List.foldl_map] at this ⊢
     simp at this ⊢
     rw[List.zipIdx_map,List.foldl_map]
     exact this
    rw[e2]
    exact ih _ hn.2 h
   ·cases h
theorem yB (v:Value):((M6 v).den E)=v:=by
 cases v with
 |int k n=>
  cases k <;> try rfl
  simp only[M6]
  split
  ·rename_i hn
   simp only[SV.den,ABH]
   congr 1
   omega
  ·rfl
 |float k n=>cases k <;> rfl
 |slice a l c=>
  simp only[M6]
  split <;> first|rfl|(simp_all [SV.den])
 |_=>rfl
theorem PW (l:List Value):AH E (l.map M6)=l:=by
 induction l with
 |nil=>rfl
 |cons v r ih=>simp [AH,ih,yB]
theorem LP {t:TypeId} {z:List SV} (h:H2 P t=some z):∃ zv,(zeroValue t).run P w= .ok zv w/\zv.cells=(AH E z).toArray:=by
 unfold H2 at h
 split at h
 ·rename_i i hi
  split at h
  ·rename_i zv hz
   simp only[AR] at h
   subst h
   refine⟨zv,by simp [zeroValue,typeInfo,hi,hz], ?_⟩
   rw[PW]
  ·cases h
 ·cases h
theorem dQ {fs:List Field} {pl:List (Nat×Nat)} (h:KC P fs=some pl):
  (fs.mapM fun f=>do pure (f.offset,←sizeOf f.type):Sem (List (Nat×Nat))).run P w= .ok pl w:=by
 induction fs generalizing pl with
 |nil=>simp only[KC,AR] at h;subst h;rfl
 |cons f r ih=>
  simp only[KC] at h
  split at h
  ·rename_i i l hi hl
   simp only[AR] at h
   subst h
   have ZD:(sizeOf f.type).run P w= .ok i.size w:=by simp [sizeOf,typeInfo,hi]
   simp only[List.mapM_cons,Sem.run_bind,ZD,Result.andThen,Sem.run_pure,ih hl]
  ·cases h
theorem ABP (t:TypeId) (parts:List (Nat×SV)):(qI P t parts).ok (CB E P (Instr.build t (parts.map fun q=>(q.1,q.2.den E)).toArray) w):=by
 unfold qI
 split
 ·exact ok_none
 rename_i hn
 have hn:ML parts=true:=by simpa using hn
 split
 ·rename_i z fs hz hu
  obtain⟨zv,hzr,qL⟩:=LP (E:=E) w hz
  split
  ·rename_i pl hpl
   split
   ·rename_i cs hf
    refine AX ?_
    have h1:=dQ w hpl
    have h2:=SY (E:=E) (fun i=>pl[i]?) z cs parts hn hf
    have h3:(fs.mapM fun f=>do pure (f.offset,←sizeOf f.type):Sem (Array (Nat×Nat))).run P w= .ok pl.toArray w:=by
     rw[Array.mapM_eq_mapM_toList,map_eq_pure_bind,Sem.run_bind,h1]
     rfl
    rw[CB]
    simp only[Instr.build,Sem.run_bind,hzr,Result.andThen,run_underlying hu,h3,qL]
    simp only[g_,h2]
    rfl
   ·exact ok_none
  ·exact ok_none
 ·rename_i z n e hz hu
  obtain⟨zv,hzr,qL⟩:=LP (E:=E) w hz
  split
  ·rename_i i hi
   split
   ·rename_i cs hf
    refine AX ?_
    have h2:=SY (E:=E) _ z cs parts hn hf
    rw[CB]
    simp only[Instr.build,Sem.run_bind,hzr,Result.andThen,run_underlying hu,sizeOf,typeInfo,qL]
    simp [hi,h2,SV.den]
   ·exact ok_none
  ·exact ok_none
 ·exact ok_none
theorem N_ {x:SV} {n:Int} (h:idxOf x=some n):∃ k,(x.den E)= .int k n:=by
 cases x <;> simp only[idxOf,AR,reduceCtorEq] at h
 case int k y=>subst h;exact⟨k,rfl⟩
 case u64 y=>subst h;exact⟨.u64,rfl⟩
theorem DJ (b off n:Nat):(⟨b,off,none⟩:Addr).add n=⟨b,off+n,none⟩:=by
 unfold Addr.add
 split
 ·rename_i h;subst h;rfl
 ·rfl
theorem m3 (t:TypeId) (x i:SV):(SU P t x i).ok (CB E P (Instr.indexAt t (x.den E) (i.den E)) w):=by
 unfold SU
 split
 ·rename_i hu hx
  split
  ·rename_i q hq
   refine F1 ?_
   rintro⟨h2,h3⟩
   obtain⟨k,hk⟩:=N_ (E:=E) hx
   rw[CB,hk]
   simp [Instr.indexAt,asIntOf,SV.den,run_underlying hu,sizeOf,typeInfo,hq,h2,h3,Instr.sureAddr,DJ,I6]
  ·exact ok_none
 ·rename_i hu hx
  split
  ·rename_i q hq
   split
   ·rename_i h1
    refine F1 ?_
    rintro⟨h2,h3⟩
    obtain⟨k,hk⟩:=N_ (E:=E) hx
    rw[CB,hk]
    simp [Instr.indexAt,asIntOf,SV.den,run_underlying hu,sizeOf,typeInfo,hq,h1,h2,h3,Instr.sureAddr,Addr.add]
   ·exact ok_none
  ·exact ok_none
 ·exact ok_none
theorem m4 (t:TypeId) (x:SV) (f:Nat):(SW P t x f).ok (CB E P (Instr.fieldAt t (x.den E) f) w):=by
 unfold SW
 split
 ·rename_i fs i off hu
  split
  ·rename_i fd hf
   split
   ·rename_i q hq
    split
    ·exact ok_none
    ·rename_i h0
     refine AX ?_
     simp [CB,Instr.fieldAt,SV.den,run_underlying hu,hf,Instr.sureAddr,fieldPlace,sizeOf,typeInfo,hq,h0,DJ,I6]
   ·exact ok_none
  ·exact ok_none
 ·rename_i fs i k sz off hu
  split
  ·rename_i fd hf
   split
   ·rename_i q hq
    split
    ·exact ok_none
    ·rename_i h0
     refine AX ?_
     simp [CB,Instr.fieldAt,SV.den,run_underlying hu,hf,Instr.sureAddr,fieldPlace,sizeOf,typeInfo,hq,h0,DJ,I6]
   ·exact ok_none
  ·exact ok_none
 ·exact ok_none
theorem W9 {x:SV} {n:Int} (h:idxOf x=some n) (y:Nat) (c:BoundsCode) (h0:0<=n) (h1:n<=y):(Instr.sliceBound (x.den E) y c).run P w= .ok n.toNat w:=by
 obtain⟨k,hk⟩:=N_ h
 rw[hk]
 simp [Instr.sliceBound,asIntOf,h0,h1]
theorem jX {low high:Option SV} {h l:Option Int} {hn ln len cap d:Nat} (b:Bool) (hh:oR high d=some (h,hn)) (hl:oR low 0=some (l,ln)) (hd:d=len) (hb:Bd l h hn cap):
  (Instr.sliceBounds b len cap (low.map (SV.den E)) (high.map (SV.den E)) none).run P w= .ok (ln,hn,cap) w:=by
 subst hd
 unfold oR at hh hl
 obtain⟨b1,b2⟩:=hb
 cases high with
 |none=>
  simp only[AR,BP] at hh
  obtain⟨rfl,rfl⟩:=hh
  cases low with
  |none=>
   simp only[AR,BP] at hl
   obtain⟨rfl,rfl⟩:=hl
   simp [Instr.sliceBounds]
  |some x=>
   simp only at hl
   split at hl
   ·rename_i n hx
    simp only[AR,BP] at hl
    obtain⟨rfl,rfl⟩:=hl
    simp [Instr.sliceBounds,W9 w hx _ _ b2.1 b2.2]
   ·cases hl
 |some y=>
  simp only at hh
  split at hh
  ·rename_i m hy
   simp only[AR,BP] at hh
   obtain⟨rfl,rfl⟩:=hh
   cases low with
   |none=>
    simp only[AR,BP] at hl
    obtain⟨rfl,rfl⟩:=hl
    simp [Instr.sliceBounds,W9 w hy _ _ b1.1 b1.2]
   |some x=>
    simp only at hl
    split at hl
    ·rename_i n hx
     simp only[AR,BP] at hl
     obtain⟨rfl,rfl⟩:=hl
     simp [Instr.sliceBounds,W9 w hy _ _ b1.1 b1.2,W9 w hx _ _ b2.1 b2.2]
    ·cases hl
  ·cases hh
theorem ABQ (t:TypeId) (x:SV) (low high max:Option SV):(qJ P t x low high max).ok (CB E P (Instr.sliceAt t (x.den E) (low.map (SV.den E)) (high.map (SV.den E)) (max.map (SV.den E))) w):=by
 unfold qJ
 split
 ·rename_i s hu
  split
  ·rename_i h hn l ln hh hl
   refine F1 fun hb=> ?_
   simp only[CB,Instr.sliceAt,tX,SV.den,Sem.run_bind,run_underlying hu,Result.andThen]
   simp only[Instr.slice,Sem.run_bind,run_underlying hu,Result.andThen]
   simp [jX w false hh hl rfl hb]
  ·exact ok_none
 ·exact ok_none
theorem ABR (t:TypeId) (x i:SV):(qK P t x i).ok (CB E P (Instr.index t (x.den E) (i.den E)) w):=by
 unfold qK
 split
 ·rename_i s n hu hx
  refine F1 ?_
  rintro⟨h0,h1⟩
  obtain⟨k,hk⟩:=N_ hx
  have CP:n.toNat<s.size:=by omega
  have hb:s[n.toNat]? =some s[n.toNat]:=getElem?_pos s n.toNat CP
  have W_ :s.data[n.toNat]? =some s[n.toNat]:=by
   have:n.toNat<s.data.size:=CP
   rw[Array.getElem?_eq_getElem this];rfl
  rw[CB,hk]
  simp only[Instr.index,asIntOf,SV.den,Sem.run_bind,Sem.run_pure,Result.andThen,run_underlying hu,h0,GJ,hb,hN,W_]
  rfl
 ·exact ok_none
theorem AGG (t:TypeId) (ts:List TypeId) (x:SV) (xs:List Value) (r:TypeId):(AG8 P t x).ok (CB E P (Builtin.len_ (t::ts).toArray r ((x.den E)::xs).toArray) w):=by
 unfold AG8
 split
 ·rename_i hu
  exact AX (by simp [CB,Builtin.len_,run_underlying hu,SV.den,goInt])
 ·rename_i hu
  exact AX (by simp [CB,Builtin.len_,run_underlying hu,SV.den,goInt])
 ·exact ok_none
theorem uH (b:Builtin) (ts:List TypeId) (xs:List SV) (r:TypeId) (cs:Array Bool):
  (aM P b ts xs).ok fun v=>(builtin b ts.toArray r cs (xs.map (SV.den E)).toArray).run P w= .ok (.value (v.den E)) w:=by
 unfold aM
 split
 ·rename_i t ts x xs
  have h:=AGG (E:=E) (P:=P) w t ts x (xs.map (SV.den E)) r
  intro p v he hp
  have:=h p v he hp
  rw[CB] at this
  simp only[OI,builtin,Sem.run_bind,this,Result.andThen]
  rfl
 ·split
  ·rename_i hk;subst hk
   refine AX ?_
   simp [builtin,Builtin.max_,Builtin.max2,SV.den]
  ·exact ok_none
 ·split
  ·rename_i hk;subst hk
   refine AX ?_
   simp [builtin,Builtin.min_,Builtin.min2,SV.den]
  ·exact ok_none
 ·rename_i a b
  refine F1 fun h=> ?_
  obtain⟨o,ho⟩:=AD5.1 h
  have ho' :=ho
  unfold DZ at ho'
  cases o <;> simp [builtin,Builtin.max_,Builtin.max2,SV.den,ho',ho,AKG,W8] <;> rfl
 ·rename_i a b
  refine F1 fun h=> ?_
  obtain⟨o,ho⟩:=AD5.1 h
  have ho' :=ho
  unfold DZ at ho'
  cases o <;> simp [builtin,Builtin.min_,Builtin.min2,SV.den,ho',ho,AKH,W8] <;> rfl
 ·exact ok_none
theorem Pu.ok.mono {r:Pu} {R R' :SV->Prop} (h:r.ok R) (hr:∀ v,R v->R' v):r.ok R' :=fun p v he hp=>hr v (h p v he hp)
theorem F2 {s:Sem Value} {v:SV} (h:CB E P s w v):(do pure (Next.value (<-s)):Sem Next).run P w= .ok (.value (v.den E)) w:=by
 rw[Sem.run_bind,h];rfl
theorem ABS (ρ:Operand->SV) (op:Op):
  (VE P ρ op).ok fun v=>∀ o:Oper,o.op=op->(execOp (fun x=>((ρ x).den E)) o).run P w= .ok (.value (v.den E)) w:=by
 unfold VE
 split
 ·exact AX fun o ho=>by simp [execOp,ho]
 ·exact AX fun o ho=>by simp [execOp,ho]
 ·split
  ·rename_i t hc
   refine AX fun o ho=> ?_
   simp [execOp,ho,hc,SV.den,asBool]
   cases t <;> simp
  ·exact ok_none
 ·rename_i op' t x y _
  intro p v he hp o ho
  by_cases hag:∃ xs ys,ρ x= .agg xs/\ρ y= .agg ys
  ·obtain⟨xs,ys,hx,hy⟩:=hag
   rw[hx,hy] at he
   have h:=AGF (E:=E) (P:=P) w op' t xs ys x y p v he hp
   simp only[execOp,ho,hx,hy]
   exact F2 w h
  have he:qG P op' t (ρ x) (ρ y)=some (p,v):=by
   rw[<-he,ADH]
   intro xs ys h1 h2
   exact absurd ⟨xs,ys,h1,h2⟩ hag
  have h:=AGE (E:=E) (P:=P) w op' t (ρ x) (ρ y) p v he hp
  obtain⟨h1,h2⟩:=x9 he
  have hg:=fF (P:=P) w op' t x y ((ρ y).den E) h1 h2
  rw[CB] at h
  simp only[execOp,ho]
  refine F2 w ?_
  rw[CB,Sem.run_bind,hg]
  exact h
 ·exact (AIQ w _ _).mono fun v h o ho=>by simp only[execOp,ho];exact F2 w h
 ·exact (ADK w _ _ _).mono fun v h o ho=>by simp only[execOp,ho];exact F2 w h
 ·exact (uF w _ _).mono fun v h o ho=>by simp only[execOp,ho];exact F2 w h
 ·exact (ABO w _ _ _).mono fun v h o ho=>by simp only[execOp,ho];exact F2 w h
 ·rename_i t parts
  refine (ABP (E:=E) w _ _).mono fun v h o ho=> ?_
  simp only[execOp,ho]
  refine F2 w ?_
  have:(parts.map fun (i,x)=>(i,((ρ x).den E)))=(List.map (fun q=>(q.1,q.2.den E)) (List.map (fun q=>(q.1,ρ q.2)) parts.toList)).toArray:=by
   rw[PL];simp [xX]
   rw[<-dN]
  rw[this]
  exact h
 ·exact (m3 w _ _ _).mono fun v h o ho=>by simp only[execOp,ho];exact F2 w h
 ·exact (m4 w _ _ _).mono fun v h o ho=>by simp only[execOp,ho];exact F2 w h
 ·refine (ABQ (E:=E) w _ _ _ _ _).mono fun v h o ho=> ?_
  simp only[execOp,ho]
  refine F2 w ?_
  simpa [Option.map_map,xX] using h
 ·exact (ABR w _ _ _).mono fun v h o ho=>by simp only[execOp,ho];exact F2 w h
 ·split
  ·rename_i i k sz off hx
   exact AX fun o ho=>by simp [execOp,ho,hx,SV.den]
  ·rename_i i off hx
   exact AX fun o ho=>by simp [execOp,ho,hx,SV.den]
  ·rename_i f cs hx
   exact AX fun o ho=>by simp [execOp,ho,hx,SV.den]
  ·exact ok_none
 ·rename_i fn first captured
  split
  ·rename_i f
   refine AX fun o ho=> ?_
   have e:(captured.map fun x=>((ρ x).den E))=((captured.toList.map ρ).map (SV.den E)).toArray:=by
    rw[PL,←dN];rfl
   simp only[execOp,ho,Instr.makeFunc,SV.den,CX]
   rw[e]
   simp
  ·exact ok_none
 ·rename_i b args ts
  intro p v he hp o ho
  have h:=fun cs=>uH (E:=E) (P:=P) w b ts.toList (args.toList.map ρ) o.type cs p v he hp
  simp only[AIK] at h
  simp only[execOp,ho,resolve,invoke,Sem.run_bind,Sem.run_pure,Result.andThen]
  have e:(Array.map (fun x=>((ρ x).den E)) args)=((args.toList.map ρ).map (SV.den E)).toArray:=by
   rw[PL,←dN];rfl
  rw[e]
  exact h _
 ·exact ok_none
end
end
end Go.V3
namespace Go.V3
open Go
abbrev Tb:Type:=List (Nat×Array Value)
variable {TB:Tb}
inductive Ty where
 |int (k:IntKind)
 |u64|bool|str|N9
 |pair (a b:Ty)
 |slice (a:Ty)
 |kv
 |nf
 |m5
 |sl (a:Ty)
 deriving DecidableEq
@[reducible] def Ty.T:Ty->Type
 | .int _=>Int
 | .u64=>BitVec 64
 | .bool=>Bool
 | .str=>ByteArray
 | .N9=>Nat
 | .pair a b=>a.T×b.T
 | .slice a=>List a.T
 | .kv=>Int×Bool
 | .nf=>Option Nat
 | .m5=>Unit
 | .sl a=>List a.T
def Ty.sz:Ty->Nat
 | .pair a b=>a.sz+b.sz
 |_=>1
def Ty.EG:Ty->Nat
 | .pair a b=>a.EG+b.EG
 | .slice _=>1
 | .nf=>1
 | .sl _=>1
 |_=>0
def Ty.AIR:(t:Ty)->t.T
 | .int _=>(0:Int)
 | .u64=>0#64
 | .bool=>false
 | .str=>⟨#[]⟩
 | .N9=>(0:Nat)
 | .pair a b=>(a.AIR,b.AIR)
 | .slice _=>[]
 | .kv=>((0:Int),false)
 | .nf=>(none:Option Nat)
 | .m5=>()
 | .sl _=>[]
def gd (t:Ty) (xs:List t.T) (k:Nat):t.T:=xs.getD k t.AIR
def DQ {α:Type} (xs:List α) (lo n:Nat):List α:=(xs.drop lo).take n
def E3:(t:Ty)->t.T->Nat->List SV
 | .int k,x,_=>[.int k x]
 | .u64,x,_=>[.u64 x]
 | .bool,x,_=>[.bool x]
 | .str,x,_=>[.str x]
 | .N9,x,_=>[.N9 x]
 | .pair a b,x,n=>E3 a x.1 n++E3 b x.2 (n+a.EG)
 | .slice _,_,n=>[.H9 n]
 | .kv,x,_=>[.int .i64 x.1]
 | .nf,x,n=>[.nf x n]
 | .m5,_,_=>[.raw .nilIface]
 | .sl _,_,n=>[.H9 n]
inductive AO where
 |HP
 |dead
 |box (cs:List SV)
 |row (t:Ty) (xs:List t.T)
 |shr (t:Ty) (xs:List t.T)
 |deep (t:Ty) (xss:List (List t.T)) (h:Option (Nat×Nat))
 |map (xs:List (Int×Bool))
 |ptr (j:Nat)
 |tree (t1 t2:Ty) (xs:List (List t1.T×List t2.T))
 |fmp (xs:List (Int×Nat))
def AO.EA:AO->Bool
 | .HP=>true
 |_=>false
def Ty.hO:Ty->Bool
 | .slice _=>true
 | .kv=>true
 | .pair (.slice _) (.slice _)=>true
 |_=>false
def Ty.AIS:Ty->Bool
 | .kv=>true
 |_=>false
def F3:(a:Ty)->List a.T->AO
 | .slice b,x=> .deep b x none
 | .int k,x=> .row (.int k) x
 | .u64,x=> .row .u64 x
 | .bool,x=> .row .bool x
 | .str,x=> .row .str x
 | .N9,x=> .row .N9 x
 | .pair (.slice a) (.slice b),x=> .tree a b x
 | .pair a b,x=> .row (.pair a b) x
 | .kv,x=> .map x
 | .nf,x=> .row .nf x
 | .m5,x=> .row .m5 x
 | .sl b,x=> .row (.sl b) x
def A7 (own:Bool):(t:Ty)->t.T->List AO
 | .int _,_=>[]
 | .u64,_=>[]
 | .bool,_=>[]
 | .str,_=>[]
 | .N9,_=>[]
 | .pair a b,x=>A7 own a x.1++A7 own b x.2
 | .slice a,x=>[match own with|true=>F3 a x|false=> .shr a x]
 | .kv,_=>[]
 | .nf,_=>[.dead]
 | .m5,_=>[]
 | .sl a,x=>[.shr a x]
theorem IA {a:Ty} (h:a.hO=false) (x:List a.T):F3 a x= .row a x:=by
 cases a with
 |pair a b=>cases a <;> cases b <;> first|rfl|cases h
 |_=>first|rfl|cases h
theorem ZG (a:Ty) (x:List a.T):(F3 a x).EA=false:=by
 cases a with
 |pair a b=>cases a <;> cases b <;> rfl
 |_=>rfl
def enc:(t:Ty)->t.T->(Nat->Nm)->List Value
 | .int k,x,_=>[.int k x]
 | .u64,x,_=>[.int .u64 ((x:BitVec 64).toNat:Int)]
 | .bool,x,_=>[.bool x]
 | .str,x,_=>[.string x]
 | .N9,x,_=>[.float .f64 x]
 | .pair a b,x,m=>enc a x.1 m++enc b x.2 (fun k=>m (a.EG+k))
 | .slice _,_,m=>[.slice (m 0).ad (m 0).len (m 0).cap]
 | .kv,x,_=>[.int .i64 x.1]
 | .nf,x,m=>[.float .f64 ((x:Option Nat).getD (PV (m 0).A_))]
 | .m5,_,_=>[.nilIface]
 | .sl _,_,m=>[.slice (m 0).ad (m 0).len (m 0).cap]
theorem SZ (E:Env) (t:Ty) (x:t.T) (n:Nat):AH E (E3 t x n)=enc t x (fun k=>E.nm (n+k)):=by
 induction t generalizing n with
 |pair a b PH PI=>simp [E3,enc,DO,PH,PI,I6]
 |_=>rfl
theorem E5 (t:Ty) (x:t.T) {f g:Nat->Nm} (h:∀ k,k<t.EG->f k=g k):enc t x f=enc t x g:=by
 induction t generalizing f g with
 |pair a b PH PI=>
  simp only[enc]
  rw[PH x.1 (fun k hk=>h k (by simp [Ty.EG];omega)),PI x.2 (fun k hk=>h _ (by simp [Ty.EG];omega))]
 |slice a=>simp only[enc];rw[h 0 (by simp [Ty.EG])]
 |sl a=>simp only[enc];rw[h 0 (by simp [Ty.EG])]
 |nf=>simp only[enc];rw[h 0 (by simp [Ty.EG])]
 |_=>rfl
theorem yC (t:Ty) (x:t.T) (f:Nat->Nm):(enc t x f).length=t.sz:=by
 induction t generalizing f with
 |pair a b PH PI=>simp [enc,Ty.sz,PH,PI]
 |_=>rfl
theorem CW (t:Ty) (x:t.T) (n:Nat):(E3 t x n).length=t.sz:=by
 induction t generalizing n with
 |pair a b PH PI=>simp [E3,Ty.sz,PH,PI]
 |_=>rfl
theorem AW (o:Bool) (t:Ty) (x:t.T):(A7 o t x).length=t.EG:=by
 induction t with
 |pair a b PH PI=>simp [A7,Ty.EG,PH,PI]
 |_=>rfl
theorem yD (t:Ty):0<t.sz:=by
 induction t with
 |pair a b PH PI=>simp [Ty.sz];omega
 |_=>simp [Ty.sz]
def A4 (arr:Array Value) (off n:Nat):List Value:=(arr.toList.drop off).take n
def RowsIn {α:Type} (R:α->List Value->Prop) (sz:Nat) (arr:Array Value) (off:Nat) (xs:List α):Prop:=
 ∀ i x,xs[i]? =some x->R x (A4 arr (off+i*sz) sz)
def dK {α:Type} (R:α->List Value->Prop) (sz:Nat) (G:Nat->Prop) (w:World) (m:Nm) (xs:List α):Prop:=
 m.len=xs.length/\m.len<=m.cap/\(xs=[]\/(m.nil=false/\G m.A_/\∃ arr ty fz,w.heap[m.A_]? =some (.cells arr ty fz)/\RowsIn R sz arr m.off xs))
def Rp (G:Nat->Prop) (w:World):(t:Ty)->t.T->List Value->Prop
 | .int k,x,vs=>vs=[.int k x]
 | .u64,x,vs=>vs=[.int .u64 ((x:BitVec 64).toNat:Int)]
 | .bool,x,vs=>vs=[.bool x]
 | .str,x,vs=>vs=[.string x]
 | .N9,x,vs=>vs=[.float .f64 x]
 | .pair a b,x,vs=>∃ v1 v2,vs=v1++v2/\Rp G w a x.1 v1/\Rp G w b x.2 v2
 | .slice a,x,vs=>∃ m:Nm,vs=[.slice m.ad m.len m.cap]/\dK (Rp G w a) a.sz G w m x
 | .kv,x,vs=>vs=[.int .i64 x.1]
 | .nf,x,vs=>∃ k,vs=[.float .f64 ((x:Option Nat).getD (PV k))]
 | .m5,_,vs=>vs=[.nilIface]
 | .sl a,x,vs=>∃ m:Nm,vs=[.slice m.ad m.len m.cap]/\dK (Rp G w a) a.sz G w m x
theorem RowsIn.imp {α:Type} {R R' :α->List Value->Prop} {sz:Nat} {arr:Array Value} {off:Nat} {xs:List α} (h:RowsIn R sz arr off xs) (hr:∀ x vs,R x vs->R' x vs):RowsIn R' sz arr off xs:=
 fun i x hx=>hr _ _ (h i x hx)
theorem dK.mono {α:Type} {R R' :α->List Value->Prop} {sz:Nat} {G G' :Nat->Prop} {w w' :World} {m:Nm} {xs:List α} (h:dK R sz G w m xs) (hr:∀ x vs,R x vs->R' x vs)
  (hw:∀ b,G b->w'.heap[b]? =w.heap[b]?) (hg:∀ b,G b->G' b):dK R' sz G' w' m xs:=by
 obtain⟨h1,h0,h2⟩:=h
 refine⟨h1,h0,h2.imp id ?_⟩
 rintro⟨a,b,arr,ty,fz,c,d⟩
 exact⟨a,hg _ b,arr,ty,fz,by rw[hw _ b];exact c,d.imp hr⟩
theorem Rp.mono {G G' :Nat->Prop} {w w' :World} (hw:∀ b,G b->w'.heap[b]? =w.heap[b]?) (hg:∀ b,G b->G' b) (t:Ty) (x:t.T) (vs:List Value) (h:Rp G w t x vs):Rp G' w' t x vs:=by
 induction t generalizing vs with
 |pair a b PH PI=>
  obtain⟨v1,v2,h0,h1,h2⟩:=h
  exact⟨v1,v2,h0,PH _ _ h1,PI _ _ h2⟩
 |slice a ih=>
  obtain⟨m,h0,h1⟩:=h
  exact⟨m,h0,h1.mono (fun x vs hx=>ih x vs hx) hw hg⟩
 |sl a ih=>
  obtain⟨m,h0,h1⟩:=h
  exact⟨m,h0,h1.mono (fun x vs hx=>ih x vs hx) hw hg⟩
 |_=>exact h
theorem Rp.length {G:Nat->Prop} {w:World} (t:Ty) (x:t.T) (vs:List Value) (h:Rp G w t x vs):vs.length=t.sz:=by
 induction t generalizing vs with
 |pair a b PH PI=>
  obtain⟨v1,v2,rfl,h1,h2⟩:=h
  simp [Ty.sz,PH _ _ h1,PI _ _ h2]
 |slice a=>obtain⟨m,rfl,_⟩:=h;rfl
 |sl a=>obtain⟨m,rfl,_⟩:=h;rfl
 |nf=>obtain⟨m,rfl⟩:=h;rfl
 |_=>(simp only[Rp] at h;rw[h];rfl)
def AIT (G:Nat->Prop) (w:World) (m:Nm):AO->Prop
 | .shr a xs=>dK (Rp G w a) a.sz G w m xs
 | .dead=>True
 |_=>False
theorem Rp.out {G:Nat->Prop} {w:World} (t:Ty) (x:t.T) (vs:List Value) (h:Rp G w t x vs):∃ m:Nat->Nm,vs=enc t x m/\∀ k e,(A7 false t x)[k]? =some e->AIT G w (m k) e:=by
 induction t generalizing vs with
 |pair a b PH PI=>
  obtain⟨v1,v2,rfl,h1,h2⟩:=h
  obtain⟨m1,e1,s1⟩:=PH _ _ h1
  obtain⟨m2,e2,s2⟩:=PI _ _ h2
  refine⟨fun k=>if k<a.EG then m1 k else m2 (k-a.EG), ?_, ?_⟩
  ·simp only[enc]
   rw[e1,e2]
   congr 1
   ·exact E5 _ _ fun k hk=>by simp [hk]
   ·exact E5 _ _ fun k hk=>by
     have:¬(a.EG+k<a.EG):=by omega
     simp [this]
  ·intro k e he
   simp only[A7] at he
   by_cases hk:k<a.EG
   ·rw[QE (by rw[AW];exact hk)] at he
    simp only[hk,GJ];exact s1 k e he
   ·rw[OG (by rw[AW];omega),AW] at he
    simp only[hk,Q_];exact s2 _ e he
 |slice a=>
  obtain⟨m,rfl,h1⟩:=h
  refine⟨fun _=>m,rfl, ?_⟩
  intro k e he
  cases k with
  |zero=>simp only[A7,U9,AR] at he;subst he;exact h1
  |succ k=>simp [A7] at he
 |sl a=>
  obtain⟨m,rfl,h1⟩:=h
  refine⟨fun _=>m,rfl, ?_⟩
  intro k e he
  cases k with
  |zero=>simp only[A7,U9,AR] at he;subst he;exact h1
  |succ k=>simp [A7] at he
 |nf=>
  obtain⟨k0,rfl⟩:=h
  refine⟨fun _=>⟨k0,0,true,0,0,none⟩,rfl, ?_⟩
  intro k e he
  cases k with
  |zero=>simp only[A7,U9,AR] at he;subst he;trivial
  |succ k=>simp [A7] at he
 |_=>exact⟨fun _=>⟨0,0,true,0,0,none⟩,h,fun k e he=>by simp [A7] at he⟩
theorem Rp.mk {G:Nat->Prop} {w:World} (t:Ty) (x:t.T) (m:Nat->Nm) (h:∀ k e,(A7 false t x)[k]? =some e->AIT G w (m k) e):Rp G w t x (enc t x m):=by
 induction t generalizing m with
 |pair a b PH PI=>
  refine⟨_,_,rfl,PH x.1 m ?_,PI x.2 _ ?_⟩
  ·intro k e he
   have hk:k<a.EG:=by
    rcases GR k (A7 false a x.1).length with h1|h1
    ·rwa [AW] at h1
    ·rw[N8 h1] at he;cases he
   exact h k e (by simp only[A7];rw[QE (by rw[AW];exact hk)];exact he)
  ·intro k e he
   exact h (a.EG+k) e (by simp only[A7];rw[OG (by rw[AW];omega),AW];simpa using he)
 |slice a=>exact⟨m 0,rfl,h 0 _ rfl⟩
 |sl a=>exact⟨m 0,rfl,h 0 _ rfl⟩
 |nf=>exact⟨_,rfl⟩
 |_=>rfl
structure B4 (TB:Tb) where
 w0:World
 io:Nat->Prop
 g0:Nat->Prop
def B4.Old (c:B4 TB) (b:Nat):Prop:=b<c.w0.heap.size/\¬c.io b
def B4.Tab (c:B4 TB):Prop:=∀ q∈TB,c.Old q.1/\∃ ty fz,c.w0.heap[q.1]? =some (.cells q.2 ty fz)
def Own {α:Type} (R:α->List Value->Prop) (sz:Nat) (c:B4 TB) (G:Nat->Prop) (w:World) (m:Nm) (xs:List α):Prop:=
 m.len=xs.length/\True/\((m.nil=true/\xs=[]/\m.cap=0)∨
  (m.nil=false/\¬G m.A_/\¬c.Old m.A_/\xs.length<=m.cap/\∃ arr ty,w.heap[m.A_]? =some (.cells arr ty (m.fr arr.size))/\m.off+m.cap*sz<=arr.size/\RowsIn R sz arr m.off xs))
theorem XA {α:Type} {R:α->List Value->Prop} {sz:Nat} {c:B4 TB} {G:Nat->Prop} {w:World} {m:Nm} {xs:List α} (h:Own R sz c G w m xs):m.len<=m.cap:=by
 obtain⟨h1,h2,h3⟩:=h
 rcases h3 with ⟨_,rfl,h4⟩|⟨_,_,_,h7,_⟩
 ·simp at h1;omega
 ·omega
def DC {α:Type} (R:α->List Value->Prop) (sz:Nat) (w:World) (m:Nm) (xs:List α):Prop:=
 m.len=xs.length/\True/\((m.nil=true/\xs=[]/\m.cap=0)∨
  (m.nil=false/\xs.length<=m.cap/\∃ arr ty,w.heap[m.A_]? =some (.cells arr ty (m.fr arr.size))/\m.off+m.cap*sz<=arr.size/\RowsIn R sz arr m.off xs))
abbrev AE:=List (Nat×AO)
def look (L:AE) (n:Nat):Option AO:=match L[n]? with
 |some q=>some q.2
 |none=>none
def Al (L:AE) (n:Nat):Prop:=∃ e,look L n=some e/\e.EA=false
mutual
def SV.wf (E:Env) (L:AE):SV->Prop
 | .loc i _=>Al L i
 | .H9 i=>Al L i
 | .sub i lo n _=>Al L i/\lo+n<=(E.nm i).len
 | .el i k _ _=>Al L i/\k<(E.nm i).len/\(E.nm i).nil=false
 | .dJ _=>False
 | .nf _ i=>Al L i
 | .agg cs=>GV E L cs
 | .oO vs=>GV E L vs
 | .mpv i=>Al L i
 | .NP _ cs=>GV E L cs
 | .tsl i k q=>Al L i/\k<(E.nm i).len/\q<2
 | .tel i k q j=>Al L i/\k<(E.nm i).len/\q<2/\j<((E.nm i).hn (k*2+q)).len
 | .bsl i _ _ _=>Al L i
 |_=>True
def GV (E:Env) (L:AE):List SV->Prop
 | []=>True
 |v::r=>v.wf E L/\GV E L r
end
theorem A3 {E:Env} {L:AE} {l:List SV}:GV E L l↔∀ v∈l,v.wf E L:=by
 induction l with
 |nil=>simp [GV]
 |cons v r ih=>simp [GV,ih]
mutual
theorem QG {E E' :Env} {L L' :AE} (hL:∀ n,Al L n->Al L' n) (hE:∀ n,Al L n->E'.nm n=E.nm n):∀ (v:SV),v.wf E L->v.wf E' L' /\v.den E' =v.den E
 | .loc i _,h=>⟨hL _ h,by simp only[SV.den];rw[hE _ h]⟩
 | .H9 i,h=>⟨hL _ h,by simp only[SV.den];rw[hE _ h]⟩
 | .sub i lo n sz,h=>⟨⟨hL _ h.1,by rw[hE _ h.1];exact h.2⟩,by simp only[SV.den];rw[hE _ h.1]⟩
 | .el i k sz off,h=>⟨⟨hL _ h.1,by rw[hE _ h.1];exact h.2.1,by rw[hE _ h.1];exact h.2.2⟩,by simp only[SV.den];rw[hE _ h.1]⟩
 | .dJ _,h=>h.elim
 | .agg cs,h=>by
  obtain⟨h1,h2⟩:=EH hL hE cs h
  exact⟨h1,by simp only[SV.den];rw[h2]⟩
 | .oO cs,h=>by
  obtain⟨h1,h2⟩:=EH hL hE cs h
  exact⟨h1,by simp only[SV.den];rw[h2]⟩
 | .mpv i,h=>⟨hL _ h,by simp only[SV.den];rw[hE _ h]⟩
 | .bsl i _ _ _,h=>⟨hL _ h,by simp only[SV.den];rw[hE _ h]⟩
 | .tsl i k q,h=>⟨⟨hL _ h.1,by rw[hE _ h.1];exact h.2⟩,by simp only[SV.den];rw[hE _ h.1]⟩
 | .tel i k q j,h=>⟨⟨hL _ h.1,by rw[hE _ h.1];exact h.2⟩,by simp only[SV.den];rw[hE _ h.1]⟩
 | .NP _ cs,h=>by
  obtain⟨h1,h2⟩:=EH hL hE cs h
  exact⟨h1,by simp only[SV.den];rw[h2]⟩
 | .int _ _,_=>⟨trivial,rfl⟩
 | .u64 _,_=>⟨trivial,rfl⟩
 | .bool _,_=>⟨trivial,rfl⟩
 | .HF _,_=>⟨trivial,rfl⟩
 | .prop _ _,_=>⟨trivial,rfl⟩
 | .str _,_=>⟨trivial,rfl⟩
 | .N9 _,_=>⟨trivial,rfl⟩
 | .nf _ i,h=>⟨hL _ h,by simp only[SV.den];rw[hE _ h]⟩
 | .GS,_=>⟨trivial,rfl⟩
 | .ptr _,_=>⟨trivial,rfl⟩
 | .raw _,_=>⟨trivial,rfl⟩
theorem EH {E E' :Env} {L L' :AE} (hL:∀ n,Al L n->Al L' n) (hE:∀ n,Al L n->E'.nm n=E.nm n):∀ (l:List SV),GV E L l->GV E' L' l/\AH E' l=AH E l
 | [],_=>⟨trivial,rfl⟩
 |v::r,h=>by
  obtain⟨h1,h2⟩:=QG hL hE v h.1
  obtain⟨h3,h4⟩:=EH hL hE r h.2
  exact⟨⟨h1,h3⟩,by simp only[AH];rw[h2,h4]⟩
end
def AO.own:AO->Nm->Option Nat
 | .box _,m=>some m.A_
 | .row _ _,m=>if m.nil=true then none else some m.A_
 | .map _,m=>some m.A_
 | .fmp _,m=>some m.A_
 |_,_=>none
def AO.LQ:AO->Bool
 | .deep _ _ _=>true
 |_=>false
def AO.JL:AO->Bool
 | .tree _ _ _=>true
 |_=>false
def AO.ow (e:AO) (E:Env) (n b:Nat):Prop:=e.own (E.nm n)=some b\/(e.LQ=true/\b∈E.ins.l n)\/(e.JL=true/\b∈(E.nm n).ins.l)
structure C0 (c:B4 TB) (G:Nat->Prop) (w:World) (m:Nm) (t1 t2:Ty) (xs:List (List t1.T×List t2.T)):Prop where
 len:m.len=xs.length
 off:m.off=0
 nd:m.ins.l.Nodup
 all:∀ b∈m.ins.l,¬G b/\¬c.Old b/\∃ arr ty fz,w.heap[b]? =some (.cells arr ty fz)
 cs:(m.nil=true/\xs=[]/\m.cap=0)\/(m.nil=false/\m.A_∈m.ins.l/\xs.length<=m.cap/\∃ (arr:Array Value) (ty:TypeId),w.heap[m.A_]? =some (.cells arr ty (0,0))/\arr.size=m.cap*2∧
  (∀ k,k<xs.length*2->arr[k]? =some (.slice (m.hn k).ad (m.hn k).len (m.hn k).cap))∧
  (∀ k x,xs[k]? =some x->DC (Rp G w t1) t1.sz w (m.hn (k*2)) x.1/\DC (Rp G w t2) t2.sz w (m.hn (k*2+1)) x.2)∧
  (∀ k,k<xs.length*2->(m.hn k).nil=false->(m.hn k).A_∈m.ins.l/\(m.hn k).A_≠m.A_)∧
  (∀ k k',k<xs.length*2->k' <xs.length*2->k≠k' ->(m.hn k).nil=false->(m.hn k').nil=false->(m.hn k).A_≠(m.hn k').A_))
structure C8 (c:B4 TB) (G:Nat->Prop) (w:World) (E:Env) (L:AE) (m:Nm) (l:List Nat) (t:Ty) (xss:List (List t.T)) (h:Option (Nat×Nat)):Prop where
 len:m.len=xss.length
 off:m.off=0
 nd:l.Nodup
 all:∀ b∈l,¬G b/\¬c.Old b/\∃ arr ty fz,w.heap[b]? =some (.cells arr ty fz)
 cs:(m.nil=true/\xss=[]/\m.cap=0)\/(m.nil=false/\m.A_∈l/\xss.length<=m.cap/\∃ (arr:Array Value) (ty:TypeId) (hs:Nat->Nm),w.heap[m.A_]? =some (.cells arr ty (0,0))/\arr.size=m.cap∧
  (∀ k,k<xss.length->arr[k]? =some (.slice (hs k).ad (hs k).len (hs k).cap))∧
  (∀ k xs,xss[k]? =some xs->(∀ j,h≠some (k,j))->DC (Rp G w t) t.sz w (hs k) xs/\((hs k).nil=false->(hs k).A_∈l/\(hs k).A_≠m.A_))∧
  (∀ k k',k<xss.length->k' <xss.length->k≠k' ->(∀ j,h≠some (k,j))->(∀ j,h≠some (k',j))->(hs k).nil=false->(hs k').nil=false->(hs k).A_≠(hs k').A_)∧
  (∀ k j,h=some (k,j)->k<xss.length->hs k=E.nm j/\Al L j))
theorem C0.cfg {c c' :B4 TB} {G:Nat->Prop} {w:World} {m:Nm} {t1 t2:Ty} {xs:List (List t1.T×List t2.T)} (k:C0 c G w m t1 t2 xs) (hc:∀ b∈m.ins.l,¬c'.Old b):C0 c' G w m t1 t2 xs:=
 ⟨k.len,k.off,k.nd,fun b hb=>⟨(k.all b hb).1,hc b hb,(k.all b hb).2.2⟩,k.cs⟩
theorem C0.nil {c:B4 TB} {G G' :Nat->Prop} {w:World} {m:Nm} {t1 t2:Ty} (k:C0 c G w m t1 t2 []) (hg:∀ b,G' b->G b):C0 c G' w m t1 t2 []:=by
 refine⟨k.len,k.off,k.nd,fun b hb=>⟨fun hx=>(k.all b hb).1 (hg _ hx),(k.all b hb).2⟩, ?_⟩
 rcases k.cs with hc|⟨q1,q2,q3,arr,ty,q4,q5,q6,q7,q8,q9⟩
 ·exact .inl hc
 ·exact .inr ⟨q1,q2,q3,arr,ty,q4,q5,q6,fun k x hk=>by simp at hk,q8,q9⟩
def AA5 (es:Array MapEntry) (xs:List (Int×Bool)):Prop:=es.toList.map (fun e=>(e.key,e.val))=xs.map (fun q=>((.int .i64 q.1:Value),(.bool q.2:Value)))
def uI (es:Array MapEntry) (xs:List (Int×Nat)):Prop:=es.toList.map (fun e=>(e.key,e.val))=xs.map (fun q=>((.int .i64 q.1:Value),(.func (.func q.2) #[] #[]:Value)))
def T5 (c:B4 TB) (G:Nat->Prop) (w:World) (E:Env) (L:AE) (m:Nm):AO->Prop
 | .HP=>True
 | .dead=>True
 | .box cs=>m.nil=false/\m.off=m.pp.pre.length/\¬G m.A_/\¬c.Old m.A_/\(∃ ty,w.heap[m.A_]? =some (.cells (m.arr (AH E cs)) ty (0,0)))/\GV E L cs
 | .row t xs=>Own (Rp G w t) t.sz c G w m xs
 | .shr t xs=>dK (Rp G w t) t.sz G w m xs
 | .deep _ _ _=>True
 | .map xs=>m.nil=false/\m.off=0/\¬G m.A_/\¬c.Old m.A_/\∃ es ck,w.heap[m.A_]? =some (.map es ck)/\AA5 es xs
 | .fmp xs=>m.nil=false/\m.off=0/\¬G m.A_/\¬c.Old m.A_/\∃ es ck,w.heap[m.A_]? =some (.map es ck)/\uI es xs
 | .tree t1 t2 xs=>C0 c G w m t1 t2 xs
 | .ptr j=>c.Old m.A_/\(∃ arr ty fz,c.w0.heap[m.A_]? =some (.cells arr ty fz)/\arr[m.off]? =some (.pointer (some ⟨(E.nm j).A_,(E.nm j).off,none⟩)))/\Al L j
structure AK (c:B4 TB) (G:Nat->Prop) (w:World) (E:Env) (L:AE):Prop where
 rest:Rest c.w0 w
 size:c.w0.heap.size<=w.heap.size
 old:∀ b,c.Old b->w.heap[b]? =c.w0.heap[b]?
 jY:∀ b,G b->b<w.heap.size
 glo:∀ b,c.g0 b->G b
 ghi:∀ b,G b->c.g0 b\/¬c.Old b
 F0:∀ n e,look L n=some e->T5 c G w E L (E.nm n) e
 dp:∀ n t xss h,look L n=some (.deep t xss h)->C8 c G w E L (E.nm n) (E.ins.l n) t xss h
 inj:∀ n k e f b,n≠k->look L n=some e->look L k=some f->e.ow E n b->¬f.ow E k b
 tab:c.Tab
theorem LR {w:World} {b:Nat} {o:Obj} (h:w.heap[b]? =some o):b<w.heap.size:=by
 rcases GR b w.heap.size with h1|h1
 ·exact h1
 ·rw[tW h1] at h;cases h
theorem DC.mono {α:Type} {R R' :α->List Value->Prop} {sz:Nat} {w w' :World} {m:Nm} {xs:List α} (h:DC R sz w m xs) (hr:∀ x vs,R x vs->R' x vs) (hw:m.nil=false->w'.heap[m.A_]? =w.heap[m.A_]?):DC R' sz w' m xs:=by
 obtain⟨h1,h2,h3⟩:=h
 refine⟨h1,h2,h3.imp id ?_⟩
 rintro⟨h4,h5,arr,ty,h6,h7,h8⟩
 exact⟨h4,h5,arr,ty,by rw[hw h4];exact h6,h7,h8.imp hr⟩
theorem C8.mono {c:B4 TB} {G G' :Nat->Prop} {w w' :World} {E E' :Env} {L L' :AE} {m:Nm} {l:List Nat} {t:Ty} {xss:List (List t.T)} {h:Option (Nat×Nat)} (k:C8 c G w E L m l t xss h)
  (hL:∀ n,Al L n->Al L' n) (hE:∀ n,Al L n->E'.nm n=E.nm n) (hw:∀ b,G b->w'.heap[b]? =w.heap[b]?) (hg:∀ b,G b->G' b)
  (ho:∀ b∈l,w'.heap[b]? =w.heap[b]?∧¬G' b):C8 c G' w' E' L' m l t xss h:=by
 refine⟨k.len,k.off,k.nd,fun b hb=>⟨(ho b hb).2,(k.all b hb).2.1, ?_⟩,k.cs.imp id ?_⟩
 ·rw[(ho b hb).1];exact (k.all b hb).2.2
 ·rintro⟨h1,h2,h3,arr,ty,hs,h4,h5,h6,h7,h8,h9⟩
  refine⟨h1,h2,h3,arr,ty,hs,by rw[(ho _ h2).1];exact h4,h5,h6,fun k xs hk hj=> ?_,h8,fun k j hk hl=> ?_⟩
  ·obtain⟨q1,q2⟩:=h7 k xs hk hj
   exact⟨q1.mono (fun x vs hx=>Rp.mono hw hg t x vs hx) (fun hn=>(ho _ (q2 hn).1).1),q2⟩
  ·obtain⟨q1,q2⟩:=h9 k j hk hl
   exact⟨by rw[hE _ q2];exact q1,hL _ q2⟩
theorem C8.cfg {c c' :B4 TB} {G:Nat->Prop} {w:World} {E:Env} {L:AE} {m:Nm} {l:List Nat} {t:Ty} {xss:List (List t.T)} {h:Option (Nat×Nat)} (k:C8 c G w E L m l t xss h)
  (hc:∀ b∈l,¬c'.Old b):C8 c' G w E L m l t xss h:=
 ⟨k.len,k.off,k.nd,fun b hb=>⟨(k.all b hb).1,hc b hb,(k.all b hb).2.2⟩,k.cs⟩
theorem C8.env {c:B4 TB} {G:Nat->Prop} {w:World} {E E' :Env} {L L' :AE} {m m' :Nm} {l:List Nat} {t:Ty} {xss:List (List t.T)} (k:C8 c G w E L m l t xss none)
  (hm:m'.A_=m.A_/\m'.off=m.off/\m'.nil=m.nil/\m'.len=m.len/\m'.cap=m.cap):C8 c G w E' L' m' l t xss none:=by
 obtain⟨e1,e2,e3,e4,e5⟩:=hm
 obtain⟨k1,k2,k3,k4,k5⟩:=k
 refine⟨by rw[e4];exact k1,by rw[e2];exact k2,k3,k4, ?_⟩
 rw[e1,e3,e5]
 refine k5.imp id ?_
 rintro⟨h1,h2,h3,arr,ty,hs,h4,h5,h6,h7,h8,h9⟩
 exact⟨h1,h2,h3,arr,ty,hs,h4,h5,h6,h7,h8,fun k j hk=>by cases hk⟩
theorem T5.dR {c:B4 TB} {G:Nat->Prop} {w:World} {E:Env} {L:AE} {m:Nm} {e:AO} (h:T5 c G w E L m e) {b:Nat} (hb:e.own m=some b):b=m.A_/\m.nil=false/\True/\¬G b/\¬c.Old b/\∃ o,w.heap[b]? =some o:=by
 cases e with
 |map xs=>
  simp only[AO.own,AR] at hb;subst hb
  obtain⟨h1,h2,h3,h4,es,ck,h5,_⟩:=h
  exact⟨rfl,h1,trivial,h3,h4,_,h5⟩
 |fmp xs=>
  simp only[AO.own,AR] at hb;subst hb
  obtain⟨h1,h2,h3,h4,es,ck,h5,_⟩:=h
  exact⟨rfl,h1,trivial,h3,h4,_,h5⟩
 |box cs=>
  simp only[AO.own,AR] at hb;subst hb
  obtain⟨h1,h2,h3,h4,⟨ty,h5⟩,_⟩:=h
  exact⟨rfl,h1,trivial,h3,h4,_,h5⟩
 |row t xs=>
  simp only[AO.own] at hb
  split at hb
  ·cases hb
  ·rename_i hn
   simp only[AR] at hb;subst hb
   obtain⟨h1,h2,h3⟩:=h
   rcases h3 with ⟨h4,_⟩|⟨h4,h5,h6,h7,arr,ty,h8,_⟩
   ·exact absurd h4 hn
   ·exact⟨rfl,h4,h2,h5,h6,_,h8⟩
 |_=>cases hb
theorem T5.mono {c:B4 TB} {G G' :Nat->Prop} {w w' :World} {E E' :Env} {L L' :AE} {m:Nm} {e:AO} (h:T5 c G w E L m e)
  (hL:∀ n,Al L n->Al L' n) (hE:∀ n,Al L n->E'.nm n=E.nm n) (hw:∀ b,G b->w'.heap[b]? =w.heap[b]?) (hg:∀ b,G b->G' b)
  (ho:∀ b,e.own m=some b->w'.heap[b]? =w.heap[b]?∧¬G' b) (hot:e.JL=true->∀ b∈m.ins.l,w'.heap[b]? =w.heap[b]?∧¬G' b):T5 c G' w' E' L' m e:=by
 cases e with
 |tree t1 t2 xs=>
  have hot:=hot rfl
  refine⟨h.len,h.off,h.nd,fun b hb=> ?_, ?_⟩
  ·obtain⟨q1,q2,arr,ty,fz,q3⟩:=h.all b hb
   exact⟨(hot b hb).2,q2,arr,ty,fz,by rw[(hot b hb).1];exact q3⟩
  ·rcases h.cs with hc|⟨q1,q2,q3,arr,ty,q4,q5,q6,q7,q8,q9⟩
   ·exact .inl hc
   ·refine .inr ⟨q1,q2,q3,arr,ty,by rw[(hot _ q2).1];exact q4,q5,q6,fun k x hk=> ?_,q8,q9⟩
    have hkl:k<xs.length:=(qC.1 hk).1
    obtain⟨r1,r2⟩:=q7 k x hk
    exact⟨r1.mono (fun x vs hx=>Rp.mono hw hg t1 x vs hx) (fun hn=>(hot _ (q8 (k*2) (by omega) hn).1).1),r2.mono (fun x vs hx=>Rp.mono hw hg t2 x vs hx) (fun hn=>(hot _ (q8 (k*2+1) (by omega) hn).1).1)⟩
 |HP=>trivial
 |dead=>trivial
 |deep _ _ _=>trivial
 |map xs=>
  obtain⟨h1,h2,h3,h4,es,ck,h5,h6⟩:=h
  obtain⟨k1,k2⟩:=ho _ rfl
  exact⟨h1,h2,k2,h4,es,ck,by rw[k1];exact h5,h6⟩
 |fmp xs=>
  obtain⟨h1,h2,h3,h4,es,ck,h5,h6⟩:=h
  obtain⟨k1,k2⟩:=ho _ rfl
  exact⟨h1,h2,k2,h4,es,ck,by rw[k1];exact h5,h6⟩
 |box cs=>
  obtain⟨h1,h2,h3,h4,⟨ty,h5⟩,h6⟩:=h
  obtain⟨k1,k2⟩:=ho _ rfl
  obtain⟨q1,q2⟩:=EH hL hE cs h6
  exact⟨h1,h2,k2,h4,⟨ty,by rw[k1,q2];exact h5⟩,q1⟩
 |row t xs=>
  obtain⟨h1,h2,h3⟩:=h
  refine⟨h1,h2,h3.imp id ?_⟩
  rintro⟨h4,h5,h6,h7,arr,ty,h8,h9,tJ⟩
  obtain⟨k1,k2⟩:=ho m.A_ (by simp [AO.own,h4])
  exact⟨h4,k2,h6,h7,arr,ty,by rw[k1];exact h8,h9,tJ.imp fun x vs hx=>Rp.mono hw hg t x vs hx⟩
 |shr t xs=>exact dK.mono h (fun x vs hx=>Rp.mono hw hg t x vs hx) hw hg
 |ptr j=>
  obtain⟨h1,⟨arr,ty,fz,h2,h3⟩,h4⟩:=h
  exact⟨h1,⟨arr,ty,fz,h2,by rw[hE j h4];exact h3⟩,hL j h4⟩
def BS (L:AE) (q:Nat×AO):AE:=match L[q.1]? with
 |some (v,_)=>L.set q.1 (v+1,q.2)
 |none=>L
def AD (L:AE) (l:List (Nat×AO)):AE:=l.foldl BS L
theorem DG (L:AE) (q:Nat×AO):(BS L q).length=L.length:=by
 unfold BS;split <;> simp
theorem JT (L:AE) (l:List (Nat×AO)):(AD L l).length=L.length:=by
 induction l generalizing L with
 |nil=>rfl
 |cons q r ih=>simp only[AD,List.foldl_cons];exact (ih _).trans (DG _ _)
theorem AJ {L:AE} {n:Nat} {e:AO} (h:look L n=some e):n<L.length:=by
 rcases GR n L.length with h1|h1
 ·exact h1
 ·unfold look at h;rw[N8 h1] at h;cases h
theorem AT {L:AE} {q:Nat×AO} (hq:q.1<L.length) (n:Nat):look (BS L q) n=if n=q.1 then some q.2 else look L n:=by
 unfold BS
 rw[KA hq]
 unfold look
 simp only[xY]
 by_cases h:n=q.1
 ·subst h;simp [hq]
 ·rw[BC h,BC (fun h' =>h h'.symm)]
theorem A1 {L:AE} {q:Nat×AO} (hr:q.2.EA=false) (n:Nat) (h:Al L n):Al (BS L q) n:=by
 by_cases hq:q.1<L.length
 ·obtain⟨e,h1,h2⟩:=h
  unfold Al
  rw[AT hq]
  by_cases hn:n=q.1
  ·exact⟨q.2,by simp [hn],hr⟩
  ·exact⟨e,by simp [hn,h1],h2⟩
 ·unfold BS
  rw[N8 (by omega)]
  exact h
theorem AO.XB {e:AO} (hd:e.LQ=false) {E:Env} {n b:Nat} (ht:e.JL=false:=by rfl):e.ow E n b↔e.own (E.nm n)=some b:=by
 unfold AO.ow;rw[hd,ht];simp
theorem AO.XC {t1 t2:Ty} {xs:List (List t1.T×List t2.T)} {E:Env} {n b:Nat}:(AO.tree t1 t2 xs).ow E n b↔b∈(E.nm n).ins.l:=by
 simp [AO.ow,AO.own,AO.LQ,AO.JL]
theorem AO.JU {e:AO} (ht:e.JL=true) {E:Env} {n b:Nat} (hb:b∈(E.nm n).ins.l):e.ow E n b:= .inr (.inr ⟨ht,hb⟩)
theorem AO.C9 {t:Ty} {xss:List (List t.T)} {h:Option (Nat×Nat)} {E:Env} {n b:Nat}:(AO.deep t xss h).ow E n b↔b∈E.ins.l n:=by
 simp [AO.ow,AO.own,AO.LQ,AO.JL]
theorem AK.KE {c:B4 TB} {G:Nat->Prop} {w:World} {E:Env} {L:AE} (h:AK c G w E L) {n:Nat} {e:AO} (he:look L n=some e) {b:Nat} (hb:e.ow E n b):¬G b/\¬c.Old b/\∃ o,w.heap[b]? =some o:=by
 rcases hb with hb|⟨hd,hb⟩|⟨hd,hb⟩
 ·obtain⟨_,_,_,h4,h5,h6⟩:=(h.F0 n e he).dR hb
  exact⟨h4,h5,h6⟩
 ·cases e with
  |deep t xss q=>
   obtain⟨h1,h2,arr,ty,_,h3⟩:=(h.dp n t xss q he).all b hb
   exact⟨h1,h2,_,h3⟩
  |_=>cases hd
 ·cases e with
  |tree t1 t2 xs=>
   obtain⟨h1,h2,arr,ty,_,h3⟩:=(h.F0 n _ he).all b hb
   exact⟨h1,h2,_,h3⟩
  |_=>cases hd
theorem AK.X8 {c:B4 TB} {G:Nat->Prop} {w:World} {E:Env} {L:AE} (h:AK c G w E L) {n:Nat} {e:AO} (he:look L n=some e) {b:Nat} (hb:e.ow E n b):b<w.heap.size:=by
 obtain⟨_,_,o,h6⟩:=h.KE he hb
 exact LR h6
theorem AK.world {c:B4 TB} {G:Nat->Prop} {w w' :World} {E:Env} {L:AE} (h:AK c G w E L) (hh:w'.heap=w.heap) (hr:Rest w w'):AK c G w' E L:=
 ⟨h.rest.trans hr,by rw[hh];exact h.size,fun b hb=>by rw[hh];exact h.old b hb,fun b hb=>by rw[hh];exact h.jY b hb,h.glo,h.ghi,
  fun n e he=>(h.F0 n e he).mono (fun _ h=>h) (fun _ _=>rfl) (fun b _=>by rw[hh]) (fun _ h=>h) (fun b hb=>⟨by rw[hh],((h.F0 n e he).dR hb).2.2.2.1⟩) (fun ht b hb=>⟨by rw[hh],(h.KE he (AO.JU ht hb)).1⟩),
  fun n t xss q he=>(h.dp n t xss q he).mono (fun _ h=>h) (fun _ _=>rfl) (fun b _=>by rw[hh]) (fun _ h=>h) (fun b hb=>⟨by rw[hh],((h.dp n t xss q he).all b hb).1⟩),h.inj,h.tab⟩
theorem AK.XD {c:B4 TB} {G:Nat->Prop} {w:World} {E:Env} {L:AE} (h:AK c G w E L) {i:Nat} {e:AO} {a:Ty} {ys:List a.T} (hi:look L i=some e)
  (hs:dK (Rp (fun b=>G b\/e.ow E i b) w a) a.sz (fun b=>G b\/e.ow E i b) w (E.nm i) ys):AK c (fun b=>G b\/e.ow E i b) w E (BS L (i,.shr a ys)):=by
 have CP:=AJ hi
 have hl:=fun n=>AT (q:=(i,AO.shr a ys)) CP n
 refine⟨h.rest,h.size,h.old, ?_,fun b hb=> .inl (h.glo b hb), ?_, ?_, ?_, ?_,h.tab⟩
 ·rintro b (hb|hb)
  ·exact h.jY b hb
  ·exact h.X8 hi hb
 ·rintro b (hb|hb)
  ·exact h.ghi b hb
  ·exact .inr (h.KE hi hb).2.1
 ·intro n f he
  rw[hl] at he
  by_cases hn:n=i
  ·subst hn
   simp only[GJ,AR] at he
   subst he
   exact hs
  ·rw[BC hn] at he
   refine (h.F0 n f he).mono (fun k hk=>A1 rfl k hk) (fun _ _=>rfl) (fun _ _=>rfl) (fun b hb=> .inl hb) (fun b hb=>⟨rfl, ?_⟩) (fun ht b hb=>⟨rfl, ?_⟩)
   ·rintro (hx|hx)
    ·exact ((h.F0 n f he).dR hb).2.2.2.1 hx
    ·exact h.inj n i f e b hn he hi (.inl hb) hx
   ·rintro (hx|hx)
    ·exact (h.KE he (AO.JU ht hb)).1 hx
    ·exact h.inj n i f e b hn he hi (AO.JU ht hb) hx
 ·intro n t xss q he
  rw[hl] at he
  by_cases hn:n=i
  ·simp only[hn,GJ,AR] at he;cases he
  ·rw[BC hn] at he
   refine (h.dp n t xss q he).mono (fun k hk=>A1 rfl k hk) (fun _ _=>rfl) (fun _ _=>rfl) (fun b hb=> .inl hb) (fun b hb=>⟨rfl, ?_⟩)
   rintro (hx|hx)
   ·exact ((h.dp n t xss q he).all b hb).1 hx
   ·exact h.inj n i _ e b hn he hi (AO.C9.2 hb) hx
 ·intro n k f g b hnk hn hk hf hg
  rw[hl] at hn hk
  have hn' :n≠i:=by
   rintro rfl
   simp only[GJ,AR] at hn;subst hn
   rcases hf with hf|⟨hf,_⟩|⟨hf,_⟩ <;> cases hf
  have OA :k≠i:=by
   rintro rfl
   simp only[GJ,AR] at hk;subst hk
   rcases hg with hg|⟨hg,_⟩|⟨hg,_⟩ <;> cases hg
  rw[BC hn'] at hn
  rw[BC OA] at hk
  exact h.inj n k f g b hnk hn hk hf hg
theorem AK.freeze {c:B4 TB} {G:Nat->Prop} {w:World} {E:Env} {L:AE} (h:AK c G w E L) {i:Nat} {t:Ty} {xs:List t.T} (hi:look L i=some (.row t xs)):
  AK c (fun b=>G b\/(AO.row t xs).own (E.nm i)=some b) w E (BS L (i,.shr t xs)):=by
 have e1:(fun b=>G b\/(AO.row t xs).ow E i b)=(fun b=>G b\/(AO.row t xs).own (E.nm i)=some b):=by
  funext b;rw[AO.XB rfl]
 rw[<-e1]
 refine h.XD hi ?_
 rw[e1]
 obtain⟨h1,h2,h3⟩:=h.F0 i _ hi
 refine⟨h1,XA (h.F0 i _ hi), ?_⟩
 rcases h3 with ⟨_,h4,_⟩|⟨h4,h5,h6,h7,arr,ty,h8,h9,tJ⟩
 ·exact .inl h4
 ·refine .inr ⟨h4,.inr (by simp [AO.own,h4]),arr,ty,_,h8, ?_⟩
  exact tJ.imp fun x vs hx=>Rp.mono (fun _ _=>rfl) (fun b hb=> .inl hb) t x vs hx
theorem C8.shr {c:B4 TB} {G G' :Nat->Prop} {w:World} {E:Env} {L:AE} {m:Nm} {l:List Nat} {t:Ty} {xss:List (List t.T)} (k:C8 c G w E L m l t xss none) (hr:∀ x vs,Rp G w t x vs->Rp G' w t x vs) (hg:∀ b∈l,G' b):
  dK (Rp G' w (.slice t)) 1 G' w m xss:=by
 obtain⟨k1,k2,k3,k4,k5⟩:=k
 rcases k5 with ⟨h1,h2,h3⟩|⟨h1,h2,h3,arr,ty,hs,h4,h5,h6,h7,h8,h9⟩
 ·exact⟨k1,by rw[k1,h2];simp,.inl h2⟩
 ·refine⟨k1,by omega,.inr ⟨h1,hg _ h2,arr,ty,_,h4, ?_⟩⟩
  intro k xs hk
  have CP:k<xss.length:=by
   rcases GR k xss.length with h' |h'
   ·exact h'
   ·rw[N8 h'] at hk;cases hk
  obtain⟨q1,q2⟩:=h7 k xs hk (fun j hj=>by cases hj)
  refine⟨hs k, ?_, ?_⟩
  ·have ha:=h6 k CP
   show A4 arr (m.off+k*1) 1=_
   rw[k2]
   unfold A4
   apply Q8
   intro j
   rw[hC]
   cases j with
   |zero=>simp [Y8,ha]
   |succ j=>simp
  ·obtain⟨p1,p2,p3⟩:=q1
   rcases p3 with ⟨p4,p5,p6⟩|⟨p4,p5,UZ,xQ,p6,p7,p8⟩
   ·exact⟨p1,by rw[p1,p5];simp,.inl p5⟩
   ·exact⟨p1,by omega,.inr ⟨p4,hg _ (q2 p4).1,UZ,xQ,_,p6,p8.imp hr⟩⟩
theorem AK.qM {c:B4 TB} {G:Nat->Prop} {w:World} {E:Env} {L:AE} (h:AK c G w E L) {i:Nat} {t:Ty} {xss:List (List t.T)} (hi:look L i=some (.deep t xss none)):
  AK c (fun b=>G b\/b∈E.ins.l i) w E (BS L (i,.shr (.slice t) xss)):=by
 have e1:(fun b=>G b\/(AO.deep t xss none).ow E i b)=(fun b=>G b\/b∈E.ins.l i):=by
  funext b;rw[AO.C9]
 rw[<-e1]
 refine h.XD hi ?_
 rw[e1]
 exact (h.dp i t xss none hi).shr (fun x vs hx=>Rp.mono (fun _ _=>rfl) (fun b hb=> .inl hb) t x vs hx) (fun b hb=> .inr hb)
theorem C0.shr {c:B4 TB} {G G' :Nat->Prop} {w:World} {m:Nm} {t1 t2:Ty} {xs:List (List t1.T×List t2.T)} (k:C0 c G w m t1 t2 xs) (hr:∀ t (x:Ty.T t) vs,Rp G w t x vs->Rp G' w t x vs) (hg:∀ b∈m.ins.l,G' b):
  dK (Rp G' w (.pair (.slice t1) (.slice t2))) 2 G' w m xs:=by
 obtain⟨k1,k2,k3,k4,k5⟩:=k
 rcases k5 with ⟨h1,h2,h3⟩|⟨h1,h2,h3,arr,ty,h4,h5,h6,h7,h8,h9⟩
 ·exact⟨k1,by rw[k1,h2];simp,.inl h2⟩
 ·refine⟨k1,by omega,.inr ⟨h1,hg _ h2,arr,ty,_,h4, ?_⟩⟩
  intro k x hk
  have CP:k<xs.length:=(qC.1 hk).1
  obtain⟨q1,q2⟩:=h7 k x hk
  have inn:∀ (t:Ty) (y:List t.T) (j:Nat),j<xs.length*2->DC (Rp G w t) t.sz w (m.hn j) y->dK (Rp G' w t) t.sz G' w (m.hn j) y:=by
   intro t y j hj hi
   obtain⟨p1,p2,p3⟩:=hi
   rcases p3 with ⟨p4,p5,p6⟩|⟨p4,p5,UZ,xQ,p6,p7,p8⟩
   ·exact⟨p1,by rw[p1,p5];simp,.inl p5⟩
   ·exact⟨p1,by omega,.inr ⟨p4,hg _ (h8 j hj p4).1,UZ,xQ,_,p6,p8.imp (hr t)⟩⟩
  refine⟨[.slice (m.hn (k*2)).ad (m.hn (k*2)).len (m.hn (k*2)).cap],[.slice (m.hn (k*2+1)).ad (m.hn (k*2+1)).len (m.hn (k*2+1)).cap], ?_,⟨_,rfl,inn t1 x.1 _ (by omega) q1⟩,⟨_,rfl,inn t2 x.2 _ (by omega) q2⟩⟩
  have a1:=h6 (k*2) (by omega)
  have a2:=h6 (k*2+1) (by omega)
  rw[k2]
  unfold A4
  apply Q8
  intro j
  rw[hC,KB]
  match j with
  |0=>simp [Y8,a1]
  |1=>simp [Y8,a2]
  |j+2=>simp;omega
theorem AK.AGH {c:B4 TB} {G:Nat->Prop} {w:World} {E:Env} {L:AE} (h:AK c G w E L) {i:Nat} {t1 t2:Ty} {xs:List (List t1.T×List t2.T)} (hi:look L i=some (.tree t1 t2 xs)):
  AK c (fun b=>G b\/b∈(E.nm i).ins.l) w E (BS L (i,.shr (.pair (.slice t1) (.slice t2)) xs)):=by
 have e1:(fun b=>G b\/(AO.tree t1 t2 xs).ow E i b)=(fun b=>G b\/b∈(E.nm i).ins.l):=by
  funext b;rw[AO.XC]
 rw[<-e1]
 refine h.XD hi ?_
 rw[e1]
 exact (h.F0 i _ hi).shr (fun t x vs hx=>Rp.mono (fun _ _=>rfl) (fun b hb=> .inl hb) t x vs hx) (fun b hb=> .inr hb)
theorem AK.kill {c:B4 TB} {G:Nat->Prop} {w:World} {E:Env} {L:AE} (h:AK c G w E L) {i:Nat} (hi:i<L.length):AK c G w E (BS L (i,.dead)):=by
 have hl:=fun n=>AT (q:=(i,AO.dead)) hi n
 refine⟨h.rest,h.size,h.old,h.jY,h.glo,h.ghi, ?_, ?_, ?_,h.tab⟩
 ·intro n e he
  rw[hl] at he
  by_cases hn:n=i
  ·simp only[hn,GJ,AR] at he;subst he;trivial
  ·rw[BC hn] at he
   exact (h.F0 n e he).mono (fun k hk=>A1 rfl k hk) (fun _ _=>rfl) (fun _ _=>rfl) (fun b hb=>hb) (fun b hb=>⟨rfl,((h.F0 n e he).dR hb).2.2.2.1⟩) (fun ht b hb=>⟨rfl,(h.KE he (AO.JU ht hb)).1⟩)
 ·intro n t xss q he
  rw[hl] at he
  by_cases hn:n=i
  ·simp only[hn,GJ,AR] at he;cases he
  ·rw[BC hn] at he
   exact (h.dp n t xss q he).mono (fun k hk=>A1 rfl k hk) (fun _ _=>rfl) (fun _ _=>rfl) (fun b hb=>hb) (fun b hb=>⟨rfl,((h.dp n t xss q he).all b hb).1⟩)
 ·intro n k e f b hnk hn hk he hf
  rw[hl] at hn hk
  have hn' :n≠i:=by
   rintro rfl
   simp only[GJ,AR] at hn;subst hn
   rcases he with he|⟨he,_⟩|⟨he,_⟩ <;> cases he
  have OA :k≠i:=by
   rintro rfl
   simp only[GJ,AR] at hk;subst hk
   rcases hf with hf|⟨hf,_⟩|⟨hf,_⟩ <;> cases hf
  rw[BC hn'] at hn
  rw[BC OA] at hk
  exact h.inj n k e f b hnk hn hk he hf
def Env.set (E:Env) (n:Nat) (m:Nm):Env:={ E with nm:=fun k=>if k=n then m else E.nm k }
theorem Env.DR (E:Env) {n k:Nat} (m:Nm) (h:k≠n):(E.set n m).nm k=E.nm k:=by simp [Env.set,h]
theorem Env.B6 (E:Env) (n:Nat) (m:Nm):(E.set n m).nm n=m:=by simp [Env.set]
def Env.M7 (E:Env) (n:Nat) (m:Nm) (l:List Nat):Env:={ E with nm:=fun k=>if k=n then m else E.nm k,ins:=⟨fun k=>if k=n then l else E.ins.l k⟩ }
theorem Env.IS (E:Env) {n k:Nat} (m:Nm) (l:List Nat) (h:k≠n):(E.M7 n m l).nm k=E.nm k/\(E.M7 n m l).ins.l k=E.ins.l k:=by simp [Env.M7,h]
theorem Env.CQ (E:Env) (n:Nat) (m:Nm) (l:List Nat):(E.M7 n m l).nm n=m/\(E.M7 n m l).ins.l n=l:=by simp [Env.M7]
theorem CJ {L:AE} {n:Nat} (h:look L n=some .HP):¬Al L n:=by
 rintro⟨e,h1,h2⟩
 rw[h] at h1;simp only[AR] at h1;subst h1;cases h2
theorem AK.NR {c:B4 TB} {G:Nat->Prop} {w w' :World} {E E' :Env} {L:AE} (h:AK c G w E L) {i:Nat} {e' :AO} (hi:i<L.length)
  (hr:Rest w w') (hs:w.heap.size<=w'.heap.size)
  (hE:Al L i->E'.nm i=E.nm i) (hEo:∀ k,k≠i->E'.nm k=E.nm k/\E'.ins.l k=E.ins.l k) (KF:e'.EA=false)
  (hw:∀ b,b<w.heap.size->¬e'.ow E' i b->w'.heap[b]? =w.heap[b]?)
  (hold:∀ b,e'.ow E' i b->¬c.Old b/\¬G b)
  (DV:∀ k f,k≠i->look L k=some f->∀ b,f.ow E k b->¬e'.ow E' i b)
  (XZ:T5 c G w' E' (BS L (i,e')) (E'.nm i) e') (hdp:∀ t xss q,e' = .deep t xss q->C8 c G w' E' (BS L (i,e')) (E'.nm i) (E'.ins.l i) t xss q):AK c G w' E' (BS L (i,e')):=by
 have hl:=fun n=>AT (q:=(i,e')) hi n
 have hEn:∀ n,Al L n->E'.nm n=E.nm n:=by
  intro n hn
  by_cases M8:n=i
  ·subst M8;exact hE hn
  ·exact (hEo n M8).1
 have U_:∀ k (f:AO) b,k≠i->f.ow E' k b->f.ow E k b:=by
  intro k f b hk hb
  unfold AO.ow at hb ⊢
  rw[(hEo k hk).1,(hEo k hk).2] at hb
  exact hb
 have hG:∀ b,G b->w'.heap[b]? =w.heap[b]? :=fun b hb=>hw b (h.jY b hb) (fun ho=>(hold b ho).2 hb)
 refine⟨h.rest.trans hr,Nat.le_trans h.size hs, ?_,fun b hb=>jR (h.jY b hb) hs,h.glo,h.ghi, ?_, ?_, ?_,h.tab⟩
 ·intro b hb
  rw[hw b (jR hb.1 h.size) (fun ho=>(hold b ho).1 hb)]
  exact h.old b hb
 ·intro n e he
  rw[hl] at he
  by_cases hn:n=i
  ·subst hn
   simp only[GJ,AR] at he;subst he
   exact XZ
  ·rw[BC hn] at he
   rw[(hEo n hn).1]
   refine (h.F0 n e he).mono (fun k hk=>A1 KF k hk) hEn hG (fun _ hb=>hb) (fun b hb=> ?_) (fun ht b hb=> ?_)
   ·exact⟨hw b (h.X8 he (.inl hb)) (DV n e hn he b (.inl hb)),(h.KE he (.inl hb)).1⟩
   ·exact⟨hw b (h.X8 he (AO.JU ht hb)) (DV n e hn he b (AO.JU ht hb)),(h.KE he (AO.JU ht hb)).1⟩
 ·intro n t xss q he
  rw[hl] at he
  by_cases hn:n=i
  ·subst hn
   simp only[GJ,AR] at he;subst he
   exact hdp _ _ _ rfl
  ·rw[BC hn] at he
   rw[(hEo n hn).1,(hEo n hn).2]
   refine (h.dp n t xss q he).mono (fun k hk=>A1 KF k hk) hEn hG (fun _ hb=>hb) (fun b hb=> ?_)
   exact⟨hw b (h.X8 he (AO.C9.2 hb)) (DV n _ hn he b (AO.C9.2 hb)),(h.KE he (AO.C9.2 hb)).1⟩
 ·intro n k e f b hnk hn hk he hf
  rw[hl] at hn hk
  by_cases M8:n=i
  ·subst M8
   simp only[GJ,AR] at hn;subst hn
   rw[BC (fun h=>hnk h.symm)] at hk
   exact DV k f (fun h=>hnk h.symm) hk b (U_ k f b (fun h=>hnk h.symm) hf) he
  ·rw[BC M8] at hn
   by_cases X9:k=i
   ·subst X9
    simp only[GJ,AR] at hk;subst hk
    exact DV n e M8 hn b (U_ n e b M8 he) hf
   ·rw[BC X9] at hk
    exact h.inj n k e f b hnk hn hk (U_ n e b M8 he) (U_ k f b X9 hf)
theorem AK.change {c:B4 TB} {G:Nat->Prop} {w w' :World} {E:Env} {L:AE} (h:AK c G w E L) {i:Nat} {e' :AO} {m:Nm} (hi:i<L.length)
  (hr:Rest w w') (hs:w.heap.size<=w'.heap.size)
  (hE:Al L i->m=E.nm i) (KF:e'.EA=false)
  (hw:∀ b,b<w.heap.size->e'.own m≠some b->w'.heap[b]? =w.heap[b]?)
  (hold:∀ b,e'.own m=some b->¬c.Old b/\¬G b)
  (DV:∀ k f,k≠i->look L k=some f->∀ b,f.ow E k b->e'.own m≠some b)
  (XZ:AK c G w E L->T5 c G w' (E.set i m) (BS L (i,e')) m e') (hd:e'.LQ=false:=by rfl) (ht:e'.JL=false:=by rfl):AK c G w' (E.set i m) (BS L (i,e')):=by
 have e1:∀ b,e'.ow (E.set i m) i b↔e'.own m=some b:=fun b=>by rw[AO.XB hd ht,Env.B6]
 refine h.NR hi hr hs (fun ha=>by rw[Env.B6];exact hE ha) (fun k hk=>⟨E.DR m hk,rfl⟩) KF (fun b hb ho=>hw b hb (fun hx=>ho ((e1 b).2 hx))) (fun b hb=>hold b ((e1 b).1 hb))
  (fun k f hk hf b hb ho=>DV k f hk hf b hb ((e1 b).1 ho)) (by rw[Env.B6];exact XZ h) (fun t xss q he=>by subst he;cases hd)
theorem AK.AGI {c:B4 TB} {G:Nat->Prop} {w w' :World} {E:Env} {L:AE} (h:AK c G w E L) {i:Nat} {e' :AO} {m:Nm} (l:List Nat) (hi:i<L.length)
  (hr:Rest w w') (hs:w.heap.size<=w'.heap.size)
  (hE:Al L i->m=E.nm i) (KF:e'.EA=false)
  (hw:∀ b,b<w.heap.size->e'.own m≠some b->w'.heap[b]? =w.heap[b]?)
  (hold:∀ b,e'.own m=some b->¬c.Old b/\¬G b)
  (DV:∀ k f,k≠i->look L k=some f->∀ b,f.ow E k b->e'.own m≠some b)
  (XZ:AK c G w E L->T5 c G w' (E.M7 i m l) (BS L (i,e')) m e') (hd:e'.LQ=false:=by rfl) (ht:e'.JL=false:=by rfl):AK c G w' (E.M7 i m l) (BS L (i,e')):=by
 have e1:∀ b,e'.ow (E.M7 i m l) i b↔e'.own m=some b:=fun b=>by rw[AO.XB hd ht,(E.CQ i m l).1]
 refine h.NR hi hr hs (fun ha=>by rw[(E.CQ i m l).1];exact hE ha) (fun k hk=>E.IS m l hk) KF (fun b hb ho=>hw b hb (fun hx=>ho ((e1 b).2 hx))) (fun b hb=>hold b ((e1 b).1 hb))
  (fun k f hk hf b hb ho=>DV k f hk hf b hb ((e1 b).1 ho)) (by rw[(E.CQ i m l).1];exact XZ h) (fun t xss q he=>by subst he;cases hd)
end Go.V3
namespace Go.V3
open Go
variable {TB:Tb}
inductive PM where
 |S0|XD|own
def Env.nx (E:Env) (i:Nat):Nm:={ E.nm i with ins:=⟨E.ins.l i⟩ }
inductive NE where
 |nil
 |whole (i:Nat)
 |deep (i:Nat)
 |sub (i lo n sz:Nat)
def NE.nm (E:Env):NE->Nm
 | .nil=>⟨0,0,true,0,0,none⟩
 | .whole i=>E.nm i
 | .deep i=>E.nx i
 | .sub i lo n sz=>if (E.nm i).cap=lo then { A_:=(E.nm i).A_,off:=(E.nm i).off,nil:=(E.nm i).nil,len:=n,cap:=(E.nm i).cap-lo,PN:=(E.nm i).PN,fz:=(E.nm i).fz } else { A_:=(E.nm i).A_,off:=(E.nm i).off+lo*sz,nil:=(E.nm i).nil,len:=n,cap:=(E.nm i).cap-lo,PN:=XX (E.nm i).PN (lo*sz),fz:=(E.nm i).fz }
def NE.name:NE->Option Nat
 | .nil=>none
 | .whole i=>some i
 | .deep i=>some i
 | .sub i _ _ _=>some i
def BU (E:Env) (nes:List NE) (k:Nat):Nm:=match nes[k]? with
 |some ne=>ne.nm E
 |none=>⟨0,0,true,0,0,none⟩
abbrev BH:=List (Nat×AO)
inductive U0:AO->(t:Ty)->List t.T->Prop
 |row (t:Ty) (xs:List t.T):U0 (.row t xs) t xs
 |deep (t:Ty) (xss:List (List t.T)):U0 (.deep t xss none) (.slice t) xss
 |tree (t1 t2:Ty) (xs:List (List t1.T×List t2.T)):U0 (.tree t1 t2 xs) (.pair (.slice t1) (.slice t2)) xs
theorem U0.HP {e:AO} {t:Ty} {xs:List t.T} (h:U0 e t xs):e.EA=false:=by cases h <;> rfl
def D3 {t a:Ty} (h:t=a) (xs:List t.T):List a.T:=h ▸ xs
def IW (md:PM) (AI:Nat->Option AO) (a:Ty):SV->Option (List a.T×NE×BH)
 | .GS=>if a.AIS=true then none else some ([],.nil,[])
 | .H9 i=>match AI i with
  |some (.shr t xs)=>if h:t=a then (match md with
    | .own=>none
    |_=>some (D3 h xs,.whole i,[])) else none
  |some (.row t xs)=>if h:t=a then (match md with
    | .S0=>some (D3 h xs,.whole i,[])
    | .XD=>some (D3 h xs,.whole i,[(i,.shr t xs)])
    | .own=>if a.hO=true then none else some (D3 h xs,.whole i,[(i,.dead)])) else none
  |some (.deep t xss none)=>if h:Ty.slice t=a then (match md with
    | .S0=>some (D3 h xss,.whole i,[])
    | .XD=>some (D3 h xss,.whole i,[(i,.shr (.slice t) xss)])
    | .own=>some (D3 h xss,.deep i,[(i,.dead)])) else none
  |some (.tree t1 t2 xs)=>if h:Ty.pair (.slice t1) (.slice t2)=a then (match md with
    | .S0=>some (D3 h xs,.whole i,[])
    | .XD=>some (D3 h xs,.whole i,[(i,.shr (.pair (.slice t1) (.slice t2)) xs)])
    | .own=>some (D3 h xs,.whole i,[(i,.dead)])) else none
  |_=>none
 | .sub i lo n sz=>if sz=a.sz then match AI i with
  |some (.shr t xs)=>if h:t=a then (match md with
    | .own=>none
    |_=>some (DQ (D3 h xs) lo n,.sub i lo n sz,[])) else none
  |some (.row t xs)=>if h:t=a then (match md with
    | .S0=>some (DQ (D3 h xs) lo n,.sub i lo n sz,[])
    | .XD=>some (DQ (D3 h xs) lo n,.sub i lo n sz,[(i,.shr t xs)])
    | .own=>none) else none
  |_=>none
  else none
 |_=>none
def CU (md:PM) (AI:Nat->Option AO):(t:Ty)->List SV->Option (t.T×List SV×List NE×BH)
 | .int k,cs=>match cs with
  | .int k' n::r=>if k' =k then some (n,r,[],[]) else none
  |_=>none
 | .u64,cs=>match cs with
  | .u64 x::r=>some (x,r,[],[])
  |_=>none
 | .bool,cs=>match cs with
  |v::r=>match uA v with
   |some b=>some (b,r,[],[])
   |none=>none
  |_=>none
 | .str,cs=>match cs with
  | .str s::r=>some (s,r,[],[])
  |_=>none
 | .N9,cs=>match cs with
  | .N9 n::r=>some (n,r,[],[])
  |_=>none
 | .pair a b,cs=>match CU md AI a cs with
  |none=>none
  |some (x,r,n1,u1)=>match CU md AI b r with
   |none=>none
   |some (y,r',n2,u2)=>some ((x,y),r',n1++n2,u1++u2)
 | .slice a,cs=>match cs with
  |v::r=>match IW md AI a v with
   |some (xs,ne,u)=>some (xs,r,[ne],u)
   |none=>none
  |_=>none
 | .kv,_=>none
 | .nf,cs=>match cs with
  | .N9 n::r=>some ((some n:Option Nat),r,[.nil],[])
  | .nf o i::r=>some (o,r,[.whole i],[])
  |_=>none
 | .m5,cs=>match cs with
  | .raw .nilIface::r=>some ((),r,[],[])
  |_=>none
 | .sl a,cs=>match cs with
  | .GS::r=>some ([],r,[.nil],[])
  | .H9 i::r=>match AI i with
   |some (.shr t xs)=>if h:t=a then some (D3 h xs,r,[.whole i],[]) else none
   |_=>none
  |_=>none
theorem dS {md:PM} {AI:Nat->Option AO} {a:Ty} {v:SV} {xs:List a.T} {ne:NE} {u:BH} (h:IW md AI a v=some (xs,ne,u)) (E:Env):
  v.den E= .slice (ne.nm E).ad (ne.nm E).len (ne.nm E).cap:=by
 cases v with
 |GS=>
  simp only[IW] at h
  split at h
  ·cases h
  simp only[AR,BP] at h
  obtain⟨-,rfl, -⟩:=h
  rfl
 |H9 i=>
  simp only[IW] at h
  repeat' split at h
  all_goals first|(cases h;done)|(simp only[AR,BP] at h;obtain⟨-,rfl, -⟩:=h;rfl)
 |sub i lo n sz=>
  have hk:SV.den E (.sub i lo n sz)= .slice ((NE.sub i lo n sz).nm E).ad ((NE.sub i lo n sz).nm E).len ((NE.sub i lo n sz).nm E).cap:=by
   simp only[SV.den,NE.nm]
   split
   ·simp [Nm.ad]
   ·simp only[Nm.ad,XX]
    split
    ·rfl
    ·simp [DJ]
  simp only[IW] at h
  repeat' split at h
  all_goals first|(cases h;done)|(simp only[AR,BP] at h;obtain⟨-,rfl, -⟩:=h;exact hk)
 |_=>simp [IW] at h
theorem IB (E:Env) (a b:List NE):(∀ k,k<a.length->BU E (a++b) k=BU E a k)/\(∀ k,BU E (a++b) (a.length+k)=BU E b k):=by
 refine⟨fun k hk=> ?_,fun k=> ?_⟩
 ·simp [BU,QE hk]
 ·simp only[BU]
  rw[OG (by omega)]
  simp
theorem E8 {md:PM} {AI:Nat->Option AO} (E:Env):∀ (t:Ty) (cs:List SV) (x:t.T) (r:List SV) (nes:List NE) (u:BH),CU md AI t cs=some (x,r,nes,u)→
  ∃ c1,cs=c1++r/\c1.length=t.sz/\nes.length=t.EG/\AH E c1=enc t x (BU E nes):=by
 intro t
 induction t with
 |int k=>
  intro cs x r nes u h
  simp only[CU] at h
  repeat' split at h
  all_goals first|(cases h;done)|skip
  rename_i hk
  simp only[AR,BP] at h
  obtain⟨rfl,rfl,rfl,rfl⟩:=h
  subst hk
  exact⟨[_],rfl,rfl,rfl,rfl⟩
 |u64=>
  intro cs x r nes u h
  simp only[CU] at h
  repeat' split at h
  all_goals first|(cases h;done)|(simp only[AR,BP] at h;obtain⟨rfl,rfl,rfl,rfl⟩:=h;exact⟨[_],rfl,rfl,rfl,rfl⟩)
 |bool=>
  intro cs x r nes u h
  simp only[CU] at h
  repeat' split at h
  all_goals first|(cases h;done)|skip
  rename_i hb
  simp only[AR,BP] at h
  obtain⟨rfl,rfl,rfl,rfl⟩:=h
  exact⟨[_],rfl,rfl,rfl,by simp [AH,NQ hb,enc]⟩
 |str=>
  intro cs x r nes u h
  simp only[CU] at h
  repeat' split at h
  all_goals first|(cases h;done)|(simp only[AR,BP] at h;obtain⟨rfl,rfl,rfl,rfl⟩:=h;exact⟨[_],rfl,rfl,rfl,rfl⟩)
 |N9=>
  intro cs x r nes u h
  simp only[CU] at h
  repeat' split at h
  all_goals first|(cases h;done)|(simp only[AR,BP] at h;obtain⟨rfl,rfl,rfl,rfl⟩:=h;exact⟨[_],rfl,rfl,rfl,rfl⟩)
 |pair a b PH PI=>
  intro cs x r nes u h
  simp only[CU] at h
  repeat' split at h
  all_goals first|(cases h;done)|skip
  rename_i _ x1 r1 n1 u1 h1 _ x2 r2 n2 u2 h2
  simp only[AR,BP] at h
  obtain⟨rfl,rfl,rfl,rfl⟩:=h
  obtain⟨c1,e1,l1,m1,d1⟩:=PH _ _ _ _ _ h1
  obtain⟨c2,e2,l2,m2,d2⟩:=PI _ _ _ _ _ h2
  refine⟨c1++c2,by rw[e1,e2,hD],by simp [Ty.sz,l1,l2],by simp [Ty.EG,m1,m2], ?_⟩
  rw[DO,d1,d2]
  simp only[enc]
  obtain⟨k1,k2⟩:=IB E n1 n2
  congr 1
  ·exact E5 _ _ fun k hk=>(k1 k (by omega)).symm
  ·exact E5 _ _ fun k hk=>by rw[<-m1];exact (k2 k).symm
 |slice a ih=>
  intro cs x r nes u h
  simp only[CU] at h
  repeat' split at h
  all_goals first|(cases h;done)|skip
  rename_i hs
  simp only[AR,BP] at h
  obtain⟨rfl,rfl,rfl,rfl⟩:=h
  exact⟨[_],rfl,rfl,rfl,by simp [AH,enc,dS hs E,BU]⟩
 |kv=>intro cs x r nes u h;simp [CU] at h
 |nf=>
  intro cs x r nes u h
  simp only[CU] at h
  repeat' split at h
  all_goals first|(cases h;done)|(simp only[AR,BP] at h;obtain⟨rfl,rfl,rfl,rfl⟩:=h;exact⟨[_],rfl,rfl,rfl,rfl⟩)
 |sl a ih=>
  intro cs x r nes u h
  simp only[CU] at h
  repeat' split at h
  all_goals first|(cases h;done)|(simp only[AR,BP] at h;obtain⟨rfl,rfl,rfl,rfl⟩:=h;exact⟨[_],rfl,rfl,rfl,rfl⟩)
 |m5=>
  intro cs x r nes u h
  simp only[CU] at h
  repeat' split at h
  all_goals first|(cases h;done)|(simp only[AR,BP] at h;obtain⟨_,rfl,rfl,rfl⟩:=h;exact⟨[_],rfl,rfl,rfl,rfl⟩)
theorem aP {α:Type} {R:α->List Value->Prop} {sz:Nat} {G:Nat->Prop} {w:World} {m:Nm} {xs:List α} (h:dK R sz G w m xs) {lo n:Nat} (hl:lo+n<=m.len):
  dK R sz G w (if m.cap=lo then { A_:=m.A_,off:=m.off,nil:=m.nil,len:=n,cap:=m.cap-lo,PN:=m.PN,fz:=m.fz } else { A_:=m.A_,off:=m.off+lo*sz,nil:=m.nil,len:=n,cap:=m.cap-lo,PN:=XX m.PN (lo*sz),fz:=m.fz }) (DQ xs lo n):=by
 obtain⟨h1,h0,h2⟩:=h
 by_cases hc:m.cap=lo
 ·have hn:n=0:=by omega
  subst hn
  rw[BQ hc]
  exact⟨by simp [DQ],by simp,.inl (by simp [DQ])⟩
 ·rw[BC hc]
  refine⟨by simp [DQ];omega,by simp;omega, ?_⟩
  rcases h2 with rfl|⟨a,b,arr,ty,fz,h3,h4⟩
  ·left;simp [DQ]
  ·right
   refine⟨a,b,arr,ty,fz,h3, ?_⟩
   intro i x hx
   simp only[DQ] at hx
   rw[hC] at hx
   split at hx
   ·rw[Y8] at hx
    have:=h4 _ _ hx
    rw[Q9] at this
    rw[I6]
    exact this
   ·cases hx
theorem AGJ {α:Type} {R R' :α->List Value->Prop} {sz:Nat} {c:B4 TB} {G G' :Nat->Prop} {w:World} {m:Nm} {xs:List α} (h:Own R sz c G w m xs) (hr:∀ x vs,R x vs->R' x vs) (hg:m.nil=false->G' m.A_):
  dK R' sz G' w m xs:=by
 have hc:=XA h
 obtain⟨h1,h2,h3⟩:=h
 refine⟨h1,hc, ?_⟩
 rcases h3 with ⟨_,h4,_⟩|⟨h4,h5,h6,h7,arr,ty,h8,h9,tJ⟩
 ·exact .inl h4
 ·exact .inr ⟨h4,hg h4,arr,ty,_,h8,tJ.imp hr⟩
theorem dT {md:PM} {AI:Nat->Option AO} {a:Ty} {v:SV} {xs:List a.T} {ne:NE} {u:BH} (h:IW md AI a v=some (xs,ne,u)):
  u=[]\/(∃ i t ys e,AI i=some e/\U0 e t ys/\md= .XD/\ne.name=some i/\u=[(i,.shr t ys)])\/md= .own:=by
 unfold IW at h
 repeat' split at h
 all_goals first|(cases h;done)|skip
 all_goals (simp only[AR,BP] at h;obtain⟨-,rfl,rfl⟩:=h)
 all_goals first|(exact .inl rfl)|exact .inr (.inr rfl)|(right;left;exact⟨_,_,_,_,(by assumption),.row _ _,rfl,rfl,rfl⟩)|(right;left;exact⟨_,_,_,_,(by assumption),.deep _ _,rfl,rfl,rfl⟩)|(right;left;exact⟨_,_,_,_,(by assumption),.tree _ _ _,rfl,rfl,rfl⟩)
theorem XE {md:PM} {AI:Nat->Option AO} {a:Ty} {v:SV} {xs:List a.T} {ne:NE} {u:BH} (h:IW md AI a v=some (xs,ne,u)) (hP:md≠ .own) {E:Env} {L:AE} (hv:v.wf E L) {G:Nat->Prop} {w:World}
  (h1:∀ i t ys,AI i=some (.shr t ys)->dK (Rp G w t) t.sz G w (E.nm i) ys)
  (h2:∀ i t ys e,ne.name=some i->AI i=some e->U0 e t ys->md= .S0\/(i,.shr t ys)∈u->dK (Rp G w t) t.sz G w (E.nm i) ys):AIT G w (ne.nm E) (.shr a xs):=by
 unfold IW at h
 repeat' split at h
 all_goals first|(cases h;done)|skip
 all_goals (simp only[AR,BP] at h;obtain⟨rfl,rfl,rfl⟩:=h)
 all_goals first|exact absurd rfl hP|skip
 ·exact⟨rfl,HE _,.inl rfl⟩
 ·rename_i hl he _ _;subst he;exact h1 _ _ _ hl
 ·rename_i hl he _;subst he;exact h2 _ _ _ _ rfl hl (.row _ _) (.inl rfl)
 ·rename_i hl he _;subst he;exact h2 _ _ _ _ rfl hl (.row _ _) (.inr (LA.2 rfl))
 ·rename_i hl he _;subst he;exact h2 _ _ _ _ rfl hl (.deep _ _) (.inl rfl)
 ·rename_i hl he _;subst he;exact h2 _ _ _ _ rfl hl (.deep _ _) (.inr (LA.2 rfl))
 ·rename_i hl he _;subst he;exact h2 _ _ _ _ rfl hl (.tree _ _ _) (.inl rfl)
 ·rename_i hl he _;subst he;exact h2 _ _ _ _ rfl hl (.tree _ _ _) (.inr (LA.2 rfl))
 ·rename_i hz _ _ _ hl he _ _;subst he;subst hz;exact aP (h1 _ _ _ hl) hv.2
 ·rename_i hz _ _ _ hl he _;subst he;subst hz;exact aP (h2 _ _ _ _ rfl hl (.row _ _) (.inl rfl)) hv.2
 ·rename_i hz _ _ _ hl he _;subst he;subst hz;exact aP (h2 _ _ _ _ rfl hl (.row _ _) (.inr (LA.2 rfl))) hv.2
theorem dU {AI:Nat->Option AO} {a:Ty} {v:SV} {xs:List a.T} {ne:NE} {u:BH} (h:IW .own AI a v=some (xs,ne,u)):
  (ne= .nil/\xs=[]/\u=[]/\a.AIS=false)\/∃ i,((ne= .whole i/\a.hO=false)\/(ne= .deep i/\∃ b,a= .slice b)\/(ne= .whole i/\∃ b1 b2,a= .pair (.slice b1) (.slice b2)))/\AI i=some (F3 a xs)/\u=[(i,.dead)]:=by
 cases v with
 |GS=>
  simp only[IW] at h
  split at h
  ·cases h
  rename_i hk
  simp only[AR,BP] at h
  obtain⟨rfl,rfl,rfl⟩:=h
  exact .inl ⟨rfl,rfl,rfl,by simpa using hk⟩
 |H9 i=>
  simp only[IW] at h
  split at h
  ·split at h <;> cases h
  ·rename_i t ys hl
   split at h
   ·rename_i he
    subst he
    split at h
    ·cases h
    rename_i U1
    have U1:t.hO=false:=by simpa using U1
    simp only[AR,BP] at h
    obtain⟨rfl,rfl,rfl⟩:=h
    exact .inr ⟨i,.inl ⟨rfl,U1⟩,by rw[hl];exact ZA some (IA U1 ys).symm,rfl⟩
   ·cases h
  ·rename_i t yss hl
   split at h
   ·rename_i he
    subst he
    simp only[AR,BP] at h
    obtain⟨rfl,rfl,rfl⟩:=h
    exact .inr ⟨i,.inr (.inl ⟨rfl,_,rfl⟩),hl,rfl⟩
   ·cases h
  ·rename_i t1 t2 ys hl
   split at h
   ·rename_i he
    subst he
    simp only[AR,BP] at h
    obtain⟨rfl,rfl,rfl⟩:=h
    exact .inr ⟨i,.inr (.inr ⟨rfl,_,_,rfl⟩),hl,rfl⟩
   ·cases h
  ·cases h
 |sub i lo n sz=>
  simp only[IW] at h
  repeat' split at h
  all_goals cases h
 |_=>simp [IW] at h
def S1 (AI:Nat->Option AO) (a:Ty):SV->Option (List a.T×NE×BH)
 | .GS=>some ([],.nil,[])
 | .H9 i=>match AI i with
  |some (.row t xs)=>if h:t=a then some (D3 h xs,.whole i,[(i,.dead)]) else none
  |_=>none
 | .sub i 0 n _=>match AI i with
  |some (.row t xs)=>if h:t=a then some (DQ (D3 h xs) 0 n,.whole i,[(i,.dead)]) else none
  |_=>none
 |_=>none
def Nm.cut (m:Nm) (n:Nat):Nm:={ A_:=m.A_,off:=m.off,nil:=m.nil,len:=n,cap:=m.cap,PN:=m.PN,fz:=m.fz }
theorem uJ {AI:Nat->Option AO} {a:Ty} {v:SV} {xs:List a.T} {ne:NE} {u:BH} (h:S1 AI a v=some (xs,ne,u)):
  (v= .GS/\ne= .nil/\xs=[]/\u=[])\/∃ (i:Nat) (zs:List a.T) (n:Nat),AI i=some (.row a zs)/\u=[(i,.dead)]/\xs=DQ zs 0 n/\∀ (E:Env) (L:AE),v.wf E L->(E.nm i).len=zs.length->n<=zs.length/\v.den E= .slice (E.nm i).ad n (E.nm i).cap:=by
 cases v with
 |GS=>
  simp only[S1,AR,BP] at h
  obtain⟨rfl,rfl,rfl⟩:=h
  exact .inl ⟨rfl,rfl,rfl,rfl⟩
 |H9 i=>
  simp only[S1] at h
  split at h
  ·rename_i t ys hl
   split at h
   ·rename_i he
    subst he
    simp only[AR,BP] at h
    obtain⟨rfl,rfl,rfl⟩:=h
    refine .inr ⟨i,ys,ys.length,hl,rfl,by simp [D3,DQ],fun E L _ hlen=>⟨HE _,by simp only[SV.den];rw[hlen]⟩⟩
   ·cases h
  ·cases h
 |sub i lo n sz=>
  cases lo with
  |succ _=>simp [S1] at h
  |zero=>
  simp only[S1] at h
  split at h
  ·rename_i t ys hl
   split at h
   ·rename_i he
    subst he
    simp only[AR,BP] at h
    obtain⟨rfl,rfl,rfl⟩:=h
    refine .inr ⟨i,ys,n,hl,rfl,rfl,fun E L hw hlen=>⟨by have:=hw.2;omega, ?_⟩⟩
    simp only[SV.den,XX,t_,Nat.sub_zero]
    congr 1
    split
    ·rfl
    ·cases (E.nm i).ad with
     |none=>rfl
     |some p=>rfl
   ·cases h
  ·cases h
 |_=>simp [S1] at h
def ADM (AI:Nat->Option AO) (a:Ty) (xs:List a.T) (ne:NE):Prop:=(ne= .nil/\xs=[])\/∃ i,ne= .whole i/\AI i=some (.shr a xs)
theorem ADM.ok {AI:Nat->Option AO} {a:Ty} {xs:List a.T} {ne:NE} (h:ADM AI a xs ne) {G:Nat->Prop} {w:World} {E:Env} (hk:∀ i t ys,AI i=some (.shr t ys)->dK (Rp G w t) t.sz G w (E.nm i) ys):dK (Rp G w a) a.sz G w (ne.nm E) xs:=by
 rcases h with ⟨rfl,rfl⟩|⟨i,rfl,hl⟩
 ·exact⟨rfl,HE _,.inl rfl⟩
 ·exact hk _ _ _ hl
theorem OB {md:PM} {AI:Nat->Option AO}:∀ (t:Ty) (cs:List SV) (x:t.T) (r:List SV) (nes:List NE) (u:BH),CU md AI t cs=some (x,r,nes,u)→
  (∀ (k:Nat) (o:Bool) (e:AO),(A7 o t x)[k]? =some e->e= .dead\/(∃ (a:Ty) (xs:List a.T) (ne:NE),ADM AI a xs ne/\nes[k]? =some ne/\e= .shr a xs)\/∃ (a:Ty) (v:SV) (xs:List a.T) (ne:NE) (uk:BH),IW md AI a v=some (xs,ne,uk)/\nes[k]? =some ne/\v∈cs/\(∀ q∈uk,q∈u)/\e=(match o with|true=>F3 a xs|false=>AO.shr a xs))∧
  (∀ q∈u,∃ (k:Nat) (a:Ty) (v:SV) (xs:List a.T) (ne:NE) (uk:BH),IW md AI a v=some (xs,ne,uk)/\nes[k]? =some ne/\q∈uk):=by
 intro t
 induction t with
 |pair a b PH PI=>
  intro cs x r nes u h
  simp only[CU] at h
  repeat' split at h
  all_goals first|(cases h;done)|skip
  rename_i _ x1 r1 n1 u1 h1 _ x2 r2 n2 u2 h2
  simp only[AR,BP] at h
  obtain⟨rfl,rfl,rfl,rfl⟩:=h
  obtain⟨c1,e1,l1,m1,_⟩:=E8 ⟨fun _=>⟨0,0,true,0,0,none⟩,fun _=>undef⟩ _ _ _ _ _ _ h1
  obtain⟨p1,q1⟩:=PH _ _ _ _ _ h1
  obtain⟨p2,q2⟩:=PI _ _ _ _ _ h2
  refine⟨?_, ?_⟩
  ·intro k o e he
   simp only[A7] at he
   by_cases hk:k<a.EG
   ·rw[QE (by rw[AW];exact hk)] at he
    rcases p1 k o e he with hd|⟨a',xs,ne,g1,g2,g3⟩|⟨a',v,xs,ne,uk,g1,g2,g3,g4,g5⟩
    ·exact .inl hd
    ·exact .inr (.inl ⟨a',xs,ne,g1,by rw[QE (by omega)];exact g2,g3⟩)
    exact .inr <| .inr ⟨a',v,xs,ne,uk,g1,by rw[QE (by omega)];exact g2,g3,fun q hq=>DU.2 (.inl (g4 q hq)),g5⟩
   ·rw[OG (by rw[AW];omega),AW] at he
    rcases p2 _ o e he with hd|⟨a',xs,ne,g1,g2,g3⟩|⟨a',v,xs,ne,uk,g1,g2,g3,g4,g5⟩
    ·exact .inl hd
    ·exact .inr (.inl ⟨a',xs,ne,g1,by rw[OG (by omega),m1];exact g2,g3⟩)
    exact .inr <| .inr ⟨a',v,xs,ne,uk,g1,by rw[OG (by omega),m1];exact g2,by rw[e1];exact DU.2 (.inr g3),fun q hq=>DU.2 (.inr (g4 q hq)),g5⟩
  ·intro q hq
   rcases DU.1 hq with hq|hq
   ·obtain⟨k,a',v,xs,ne,uk,g1,g2,g3⟩:=q1 q hq
    have hk:k<n1.length:=by
     rcases GR k n1.length with h1|h1
     ·exact h1
     ·rw[N8 h1] at g2;cases g2
    exact⟨k,a',v,xs,ne,uk,g1,by rw[QE hk];exact g2,g3⟩
   ·obtain⟨k,a',v,xs,ne,uk,g1,g2,g3⟩:=q2 q hq
    exact⟨n1.length+k,a',v,xs,ne,uk,g1,by rw[OG (by omega)];simpa using g2,g3⟩
 |slice a ih=>
  intro cs x r nes u h
  simp only[CU] at h
  repeat' split at h
  all_goals first|(cases h;done)|skip
  rename_i v r' _ xs ne u' hs
  simp only[AR,BP] at h
  obtain⟨rfl,rfl,rfl,rfl⟩:=h
  refine⟨?_,fun q hq=>⟨0,_,_,_,_,_,hs,rfl,hq⟩⟩
  intro k o e he
  cases k with
  |zero=>
   simp only[A7,U9,AR] at he
   exact .inr (.inr ⟨_,_,_,_,_,hs,rfl,by simp,fun _ h=>h,he.symm⟩)
  |succ k=>simp [A7] at he
 |sl a ih=>
  intro cs x r nes u h
  simp only[CU] at h
  repeat' split at h
  all_goals first|(cases h;done)|skip
  ·simp only[AR,BP] at h
   obtain⟨rfl,rfl,rfl,rfl⟩:=h
   refine⟨fun k o e he=> ?_,fun q hq=>by cases hq⟩
   cases k with
   |zero=>
    simp only[A7,U9,AR] at he
    exact .inr (.inl ⟨_,_,_,.inl ⟨rfl,rfl⟩,rfl,he.symm⟩)
   |succ k=>simp [A7] at he
  ·rename_i hl hta
   subst hta
   simp only[AR,BP] at h
   obtain⟨rfl,rfl,rfl,rfl⟩:=h
   refine⟨fun k o e he=> ?_,fun q hq=>by cases hq⟩
   cases k with
   |zero=>
    simp only[A7,U9,AR] at he
    exact .inr (.inl ⟨_,_,_,.inr ⟨_,rfl,hl⟩,rfl,he.symm⟩)
   |succ k=>simp [A7] at he
 |nf=>
  intro cs x r nes u h
  simp only[CU] at h
  repeat' split at h
  all_goals first|(cases h;done)|skip
  all_goals (simp only[AR,BP] at h;obtain⟨rfl,rfl,rfl,rfl⟩:=h;refine⟨fun k o e he=> .inl ?_,fun q hq=>by cases hq⟩;cases k with
   |zero=>simp only[A7,U9,AR] at he;exact he.symm
   |succ k=>simp [A7] at he)
 |_=>
  intro cs x r nes u h
  simp only[CU] at h
  repeat' split at h
  all_goals first|(cases h;done)|skip
  all_goals (simp only[AR,BP] at h;obtain⟨_,rfl,rfl,rfl⟩:=h;exact⟨fun k o e he=>by simp [A7] at he,fun q hq=>by cases hq⟩)
theorem AK.qN {c:B4 TB} {w:World} {E:Env}:∀ (u:BH) {G:Nat->Prop} {L:AE},AK c G w E L->(∀ q∈u,∃ t ys,((∃ e,look L q.1=some e/\U0 e t ys)\/look L q.1=some (.shr t ys))/\q.2= .shr t ys)→
  ∃ G',AK c G' w E (AD L u)/\(∀ b,G b->G' b)/\(∀ n,Al L n->Al (AD L u) n)∧
   (∀ n e,look L n=some e->look (AD L u) n=some e\/(∃ t ys,U0 e t ys/\look (AD L u) n=some (.shr t ys)/\(n,.shr t ys)∈u))/\(∀ q∈u,look (AD L u) q.1=some q.2)
 | [],G,L,h,_=>⟨G,h,fun _ hb=>hb,fun _ hn=>hn,fun n e he=> .inl he,fun q hq=>by cases hq⟩
 |q::r,G,L,h,hu=>by
  obtain⟨t,ys,hq,tK⟩:=hu q (by simp)
  obtain⟨i,e⟩:=q
  simp only at tK hq
  subst tK
  have CP:i<L.length:=by rcases hq with ⟨_,h1,_⟩|h1 <;> exact AJ h1
  have hl:=fun n=>AT (L:=L) (q:=(i,AO.shr t ys)) CP n
  obtain⟨G1,h1,hg1⟩:∃ G1,AK c G1 w E (BS L (i,.shr t ys))/\∀ b,G b->G1 b:=by
   rcases hq with ⟨e,hq,ho⟩|hq
   ·cases ho with
    |row=>exact⟨_,h.freeze hq,fun b hb=> .inl hb⟩
    |deep=>exact⟨_,h.qM hq,fun b hb=> .inl hb⟩
    |tree=>exact⟨_,h.AGH hq,fun b hb=> .inl hb⟩
   ·refine⟨G, ?_,fun _ hb=>hb⟩
    have:=h.change (i:=i) (e' := .shr t ys) (m:=E.nm i) (w' :=w) CP (.refl _) (HE _) (fun _=>rfl) rfl (fun _ _ _=>rfl) (fun b hb=>by cases hb) (fun _ _ _ _ _ _ hb=>by cases hb) (fun h=>h.F0 i _ hq)
    have he:E.set i (E.nm i)=E:=by
     have:(fun k=>if k=i then E.nm i else E.nm k)=E.nm:=by funext k;split <;> simp_all
     simp only[Env.set,this]
    rw[he] at this
    exact this
  have AGK:∀ {e1:AO} {t1 t2:Ty} {y1:List t1.T} {y2:List t2.T},U0 e1 t1 y1->U0 e1 t2 y2->(AO.shr t1 y1)= .shr t2 y2:=by
   intro e1 t1 t2 y1 y2 a b
   cases a <;> cases b <;> rfl
  obtain⟨G2,h2,hg2,ha2,PJ,tK⟩:=AK.qN r h1 (by
   intro p hp
   obtain⟨t',ys',mW,tL⟩:=hu p (by simp [hp])
   by_cases hpi:p.1=i
   ·refine⟨t,ys,.inr (by rw[hl,BQ hpi]), ?_⟩
    rw[hpi] at mW
    rw[tL]
    rcases hq with ⟨e,hq,ho⟩|hq <;> rcases mW with ⟨e',mW,ho'⟩|mW <;> rw[hq] at mW <;> simp only[AR] at mW
    ·subst mW;exact AGK ho' ho
    ·subst mW;cases ho
    ·subst mW;cases ho'
    ·exact mW.symm
   ·refine⟨t',ys', ?_,tL⟩
    rw[hl,BC hpi];exact mW)
  refine⟨G2,h2,fun b hb=>hg2 b (hg1 b hb),fun n hn=>ha2 n (A1 rfl n hn), ?_, ?_⟩
  ·intro n e he
   by_cases hn:n=i
   ·subst hn
    have hx:=PJ n (.shr t ys) (by rw[hl,BQ rfl])
    have hx' :look (AD L ((n,.shr t ys)::r)) n=some (.shr t ys):=by
     rcases hx with hx|⟨_,_,hx,_⟩
     ·exact hx
     ·cases hx
    rcases hq with ⟨e',hq,ho⟩|hq
    ·rw[hq] at he;simp only[AR] at he;subst he
     exact .inr ⟨t,ys,ho,hx',by simp⟩
    ·rw[hq] at he;simp only[AR] at he;subst he
     exact .inl hx'
   ·rcases PJ n e (by rw[hl,BC hn];exact he) with hx|⟨t',ys',hx1,hx2,hx3⟩
    ·exact .inl hx
    ·exact .inr ⟨t',ys',hx1,hx2,by simp [hx3]⟩
  ·intro p hp
   rcases MK.1 hp with rfl|hp
   ·rcases PJ i (.shr t ys) (by rw[hl,BQ rfl]) with hx|⟨_,_,hx,_⟩
    ·exact hx
    ·cases hx
   ·exact tK p hp
end Go.V3
namespace Go.V3
open Go
variable {TB:Tb}
structure CT where
 t:Ty
 agg:Bool
 own:Bool
 ptr:Bool
@[reducible] def HT:List CT->Type
 | []=>Unit
 |c::r=>match r with
  | []=>c.t.T
  |_::_=>c.t.T×HT r
def HT.hd:(c:CT)->(r:List CT)->HT (c::r)->c.t.T
 |_,[],x=>x
 |_,_::_,x=>x.1
def HT.tl:(c:CT)->(r:List CT)->HT (c::r)->HT r
 |_,[],_=>()
 |_,_::_,x=>x.2
def HT.mk:(c:CT)->(r:List CT)->c.t.T->HT r->HT (c::r)
 |_,[],x,_=>x
 |_,_::_,x,y=>(x,y)
theorem HT.uK (c:CT) (r:List CT) (x:c.t.T) (y:HT r):HT.hd c r (HT.mk c r x y)=x:=by cases r <;> rfl
theorem HT.uL (c:CT) (r:List CT) (x:c.t.T) (y:HT r):HT.tl c r (HT.mk c r x y)=y:=by cases r <;> rfl
def CT.pn (c:CT):Nat:=match c.ptr with|true=>1|false=>0
def CT.cnt (c:CT):Nat:=c.pn+c.t.EG
def cnts:List CT->Nat
 | []=>0
 |c::r=>c.cnt+cnts r
def BL:Nat->List AO->BH
 |_,[]=>[]
 |n,e::r=>(n,e)::BL (n+1) r
def OJ (c:CT) (x:c.t.T) (n:Nat):SV:=match c.ptr with
 |true=> .loc n 0
 |false=>match c.agg with
  |true=> .agg (E3 c.t x n)
  |false=>(E3 c.t x n).headD AQ
def outSVs:(cs:List CT)->HT cs->Nat->List SV
 | [],_,_=>[]
 |c::r,x,n=>OJ c (HT.hd c r x) n::outSVs r (HT.tl c r x) (n+c.cnt)
def KG (c:CT) (x:c.t.T) (n:Nat):BH:=match c.ptr with
 |true=>BL (n+1) (A7 c.own c.t x)++ [(n,.box (E3 c.t x (n+1)))]
 |false=>BL n (A7 c.own c.t x)
def B2:(cs:List CT)->HT cs->Nat->BH
 | [],_,_=>[]
 |c::r,x,n=>KG c (HT.hd c r x) n++B2 r (HT.tl c r x) (n+c.cnt)
def aQ (c:B4 TB) (G:Nat->Prop) (w:World) (m:Nm):AO->Prop
 | .row t xs=>Own (Rp G w t) t.sz c G w m xs
 | .shr t xs=>dK (Rp G w t) t.sz G w m xs
 | .deep t xss h=>h=none/\C8 c G w ⟨fun _=>m,fun _=>undef⟩ [] m m.ins.l t xss none
 | .tree t1 t2 xs=>C0 c G w m t1 t2 xs
 | .dead=>True
 |_=>False
def AO.QH (e:AO) (m:Nm):List Nat:=match e with
 | .deep _ _ _=>m.ins.l
 | .tree _ _ _=>m.ins.l
 |e=>(e.own m).toList
theorem AO.qO {e:AO} {E:Env} {n b:Nat} {m:Nm} (h1:E.nm n=m) (h2:E.ins.l n=m.ins.l):e.ow E n b↔b∈e.QH m:=by
 cases e <;> simp [AO.ow,AO.own,AO.QH,AO.LQ,AO.JL,h1,h2]
 all_goals exact⟨fun h=>h.symm,fun h=>h.symm⟩
def AO.ABT (e:AO) (E:Env) (n:Nat):List Nat:=match e with
 | .deep _ _ _=>E.ins.l n
 | .tree _ _ _=>(E.nm n).ins.l
 |e=>(e.own (E.nm n)).toList
theorem AO.AKI {e:AO} {E:Env} {n b:Nat}:e.ow E n b↔b∈e.ABT E n:=by
 cases e
 case row t x=>show (AO.row t x).own (E.nm n)=some b\/_↔b∈((AO.row t x).own (E.nm n)).toList;simp [AO.LQ,AO.JL]
 case box t=>show (AO.box t).own (E.nm n)=some b\/_↔b∈((AO.box t).own (E.nm n)).toList;simp [AO.LQ,AO.JL]
 case map t=>show (AO.map t).own (E.nm n)=some b\/_↔b∈((AO.map t).own (E.nm n)).toList;simp [AO.LQ,AO.JL]
 case fmp t=>show (AO.fmp t).own (E.nm n)=some b\/_↔b∈((AO.fmp t).own (E.nm n)).toList;simp [AO.LQ,AO.JL]
 all_goals simp [AO.ow,AO.own,AO.ABT,AO.LQ,AO.JL]
theorem aQ.nil (c:B4 TB) (G:Nat->Prop) (w:World) (a:Ty) (ha:a.AIS=false):aQ c G w ⟨0,0,true,0,0,none⟩ (F3 a []):=by
 cases a
 case kv=>cases ha
 case slice a=>exact⟨rfl,{ len:=rfl,off:=rfl,nd:=jS,all:=fun b hb=>(by cases hb),cs:= .inl ⟨rfl,rfl,rfl⟩ }⟩
 case pair a b=>cases a <;> cases b <;> first|exact⟨rfl,trivial,.inl ⟨rfl,rfl,rfl⟩⟩|exact⟨rfl,rfl,jS,fun b hb=>(by cases hb),.inl ⟨rfl,rfl,rfl⟩⟩
 all_goals exact⟨rfl,trivial,.inl ⟨rfl,rfl,rfl⟩⟩
theorem AO.uM {e:AO} {m:Nm} {b:Nat} (h:e.own m=some b):b∈e.QH m:=by
 cases e <;> first|cases h;done|simp [AO.QH,h]
theorem aQ.jZ {c:B4 TB} {G:Nat->Prop} {w:World} {m:Nm} {e:AO} (h:aQ c G w m e) {b:Nat} (hb:b∈e.QH m):¬c.Old b/\¬G b/\b<w.heap.size:=by
 cases e with
 |row t xs=>
  have h' :T5 c G w ⟨fun _=>m,fun _=>undef⟩ [] m (.row t xs):=h
  have W_ :(AO.row t xs).own m=some b:=by simpa [AO.QH] using hb
  obtain⟨_,_,_,h4,h5,o,h6⟩:=h'.dR W_
  exact⟨h5,h4,LR h6⟩
 |deep t xss q=>
  obtain⟨h1,h2,arr,ty,_,h3⟩:=h.2.all b hb
  exact⟨h2,h1,LR h3⟩
 |tree t1 t2 xs=>
  obtain⟨h1,h2,arr,ty,_,h3⟩:=h.all b hb
  exact⟨h2,h1,LR h3⟩
 |shr t xs=>simp [AO.QH,AO.own] at hb
 |dead=>simp [AO.QH,AO.own] at hb
 |_=>exact h.elim
def D0 (c:B4 TB) (G:Nat->Prop) (w:World) (d:CT) (x:d.t.T) (ms:Nat->Nm):Prop:=
 (∀ j e,(A7 d.own d.t x)[j]? =some e->aQ c G w (ms (d.pn+j)) e)∧
 (d.ptr=true->(ms 0).nil=false/\(ms 0).off=(ms 0).pp.pre.length/\¬G (ms 0).A_/\¬c.Old (ms 0).A_/\∃ ty,w.heap[(ms 0).A_]? =some (.cells ((ms 0).arr (enc d.t x (fun j=>ms (d.pn+j)))) ty (0,0)))
def PS (c:B4 TB) (G:Nat->Prop) (w:World):(cs:List CT)->HT cs->(Nat->Nm)->Prop
 | [],_,_=>True
 |d::r,x,ms=>D0 c G w d (HT.hd d r x) ms/\PS c G w r (HT.tl d r x) (fun k=>ms (d.cnt+k))
def DX:List AO->(Nat->Nm)->List Nat
 | [],_=>[]
 |e::r,ms=>e.QH (ms 0)++DX r (fun k=>ms (k+1))
def IX (d:CT) (x:d.t.T) (ms:Nat->Nm):List Nat:=(match d.ptr with|true=>[(ms 0).A_]|false=>[])++DX (A7 d.own d.t x) (fun j=>ms (d.pn+j))
def BA:(cs:List CT)->HT cs->(Nat->Nm)->List Nat
 | [],_,_=>[]
 |d::r,x,ms=>IX d (HT.hd d r x) ms++BA r (HT.tl d r x) (fun k=>ms (d.cnt+k))
def FT (E:Env) (L:AE) (b:Nat):Prop:=∀ n e,look L n=some e->¬e.ow E n b
def Env.put (E:Env) (n cnt:Nat) (ms:Nat->Nm):Env:={ E with nm:=fun k=>if n<=k/\k<n+cnt then ms (k-n) else E.nm k,ins:=⟨fun k=>if n<=k/\k<n+cnt then (ms (k-n)).ins.l else E.ins.l k⟩ }
theorem Env.ZH (E:Env) (n cnt:Nat) (ms:Nat->Nm) {j:Nat} (h:j<cnt):(E.put n cnt ms).nm (n+j)=ms j:=by
 simp only[Env.put]
 rw[BQ ⟨by omega,by omega⟩]
 congr 1;omega
theorem Env.PX (E:Env) (n cnt:Nat) (ms:Nat->Nm) {k:Nat} (h:k<n\/n+cnt<=k):(E.put n cnt ms).nm k=E.nm k:=by
 simp only[Env.put]
 rw[BC (by omega)]
theorem Env.AA6 (E:Env) (n cnt:Nat) (ms:Nat->Nm) {j:Nat} (h:j<cnt):(E.put n cnt ms).ins.l (n+j)=(ms j).ins.l:=by
 simp only[Env.put]
 rw[BQ ⟨by omega,by omega⟩]
 congr 3;omega
theorem Env.ADN (E:Env) (n cnt:Nat) (ms:Nat->Nm) {k:Nat} (h:k<n\/n+cnt<=k):(E.put n cnt ms).ins.l k=E.ins.l k:=by
 simp only[Env.put]
 rw[BC (by omega)]
theorem AO.VF {e:AO} {E:Env} {n cnt:Nat} {ms:Nat->Nm} {j b:Nat} (h:j<cnt):e.ow (E.put n cnt ms) (n+j) b↔b∈e.QH (ms j):=AO.qO (E.ZH n cnt ms h) (E.AA6 n cnt ms h)
theorem AO.XF {e:AO} {E E' :Env} {n b:Nat} (h:E'.nm n=E.nm n/\E'.ins.l n=E.ins.l n):e.ow E' n b↔e.ow E n b:=by unfold AO.ow;rw[h.1,h.2]
theorem AO.dV {e:AO} {E:Env} {n cnt:Nat} {ms:Nat->Nm} {k b:Nat} (h:k<n\/n+cnt<=k):e.ow (E.put n cnt ms) k b↔e.ow E k b:=AO.XF ⟨E.PX n cnt ms h,E.ADN n cnt ms h⟩
theorem GW {E E' :Env} (h:∀ k,E.nm k=E'.nm k) (h2:E.ds=E'.ds) (h3:∀ k,E.ins.l k=E'.ins.l k):E=E' :=by
 obtain @⟨a,b,⟨d⟩⟩:=E
 obtain @⟨a',b',⟨d'⟩⟩:=E'
 have e1:a=a' :=funext h
 have e2:b=b' :=h2
 have e3:d=d' :=funext h3
 subst e1 e2 e3
 rfl
theorem E9 {f:AO} {b:Nat}:∀ (es:List AO) (j:Nat) (ms:Nat->Nm),es[j]? =some f->b∈f.QH (ms j)->b∈DX es ms
 | [],j,ms,h,_=>by simp at h
 |e::r,0,ms,h,hb=>by
  simp only[U9,AR] at h;subst h
  simp only[DX];exact DU.2 (.inl hb)
 |e::r,j+1,ms,h,hb=>by
  simp only[mY] at h
  simp only[DX]
  exact DU.2 (.inr (E9 r j (fun k=>ms (k+1)) h hb))
theorem AK.aR {c:B4 TB} {G:Nat->Prop} {w:World}:∀ (es:List AO) {E:Env} {L:AE} {n:Nat} {ms:Nat->Nm},AK c G w E L->(∀ j,j<es.length->look L (n+j)=some .HP)→
  (∀ j e,es[j]? =some e->aQ c G w (ms j) e)->(DX es ms).Nodup->(∀ b∈DX es ms,FT E L b)→
  AK c G w (E.put n es.length ms) (AD L (BL n es))/\(∀ k,look (AD L (BL n es)) k=if n<=k/\k<n+es.length then es[k-n]? else look L k)
 | [],E,L,n,ms,h,_,_,_,_=>by
  have e1:E.put n 0 ms=E:=GW (fun k=>by simp only[Env.put];rw[BC (by omega)]) rfl (fun k=>by simp only[Env.put];rw[BC (by omega)])
  refine⟨by rw[List.length_nil,e1];exact h,fun k=> ?_⟩
  rw[BC (by simp)];rfl
 |e::r,E,L,n,ms,h,hl,hm,JM,aS=>by
  have h0:look L n=some .HP:=hl 0 (by simp)
  have CP:=AJ h0
  have A8:=fun k=>AT (L:=L) (q:=(n,e)) CP k
  have hm0:=hm 0 e rfl
  have KF:e.EA=false:=by cases e <;> first|rfl|exact hm0.elim
  have DV:∀ b,b∈e.QH (ms 0)->¬c.Old b/\¬G b:=fun b hb=>⟨(hm0.jZ hb).1,(hm0.jZ hb).2.1⟩
  have uN:∀ b,b∈e.QH (ms 0)->b∈DX (e::r) ms:=by
   intro b hb
   simp only[DX]
   exact DU.2 (.inl hb)
  have U_:∀ b,e.ow (E.M7 n (ms 0) (ms 0).ins.l) n b↔b∈e.QH (ms 0):=fun b=>AO.qO (E.CQ _ _ _).1 (E.CQ _ _ _).2
  have h1:AK c G w (E.M7 n (ms 0) (ms 0).ins.l) (BS L (n,e)):=by
   refine h.NR CP (.refl _) (HE _) (fun I8=>absurd I8 (CJ h0)) (fun k hk=>E.IS _ _ hk) KF (fun _ _ _=>rfl) (fun b hb=>DV b ((U_ b).1 hb)) ?_ ?_ ?_
   ·intro k f hk hf b hb he
    exact aS b (uN b ((U_ b).1 he)) k f hf hb
   ·rw[(E.CQ _ _ _).1]
    cases e with
    |row t xs=>exact hm0
    |shr t xs=>exact hm0
    |deep t xss q=>trivial
    |dead=>trivial
    |tree t1 t2 xs=>exact hm0
    |_=>exact hm0.elim
   ·intro t xss q he
    subst he
    obtain⟨rfl,hm0⟩:=hm0
    rw[(E.CQ _ _ _).1,(E.CQ _ _ _).2]
    exact hm0.env ⟨rfl,rfl,rfl,rfl,rfl⟩
  have AGL :(DX r (fun k=>ms (k+1))).Nodup:=(SQ.1 JM).2.1
  obtain⟨h2,h3⟩:=AK.aR r (n:=n+1) (ms:=fun k=>ms (k+1)) h1 (by
    intro j hj
    rw[A8,BC (by simp;omega)]
    have:=hl (j+1) (by simp;omega)
    rw[<-this];congr 1;omega)
   (fun j e' he' =>hm (j+1) e' (by simpa using he')) AGL (by
    intro b hb k f hf LS
    rw[A8] at hf
    by_cases hk:k=n
    ·subst hk
     simp only[GJ,AR] at hf
     subst hf
     exact (SQ.1 JM).2.2 b ((U_ b).1 LS) b hb rfl
    ·rw[BC hk] at hf
     rw[AO.XF (E.IS _ _ hk)] at LS
     exact aS b (by simp only[DX];exact DU.2 (.inr hb)) k f hf LS)
  have e1:(E.M7 n (ms 0) (ms 0).ins.l).put (n+1) r.length (fun k=>ms (k+1))=E.put n (e::r).length ms:=by
   refine GW (fun k=> ?_) rfl (fun k=> ?_)
   all_goals simp only[Env.put,Env.M7,hI]
   all_goals by_cases hk:k=n
   all_goals first|subst hk|skip
   ·rw[BC (by omega),BQ rfl,BQ ⟨by omega,by omega⟩]
    congr 1;omega
   ·by_cases PJ:n+1<=k/\k<n+1+r.length
    ·rw[BQ PJ,BQ ⟨by omega,by omega⟩]
     congr 1;omega
    ·rw[BC PJ,BC hk,BC (by omega)]
   ·rw[BC (by omega),BQ rfl,BQ ⟨by omega,by omega⟩]
    congr 3;omega
   ·by_cases PJ:n+1<=k/\k<n+1+r.length
    ·rw[BQ PJ,BQ ⟨by omega,by omega⟩]
     congr 3;omega
    ·rw[BC PJ,BC hk,BC (by omega)]
  refine⟨by rw[<-e1];exact h2,fun k=> ?_⟩
  have:=h3 k
  show look (AD (BS L (n,e)) (BL (n+1) r)) k=_
  rw[this,A8,hI]
  by_cases hk:k=n
  ·subst hk
   rw[BC (by omega),BQ rfl,BQ ⟨by omega,by omega⟩]
   simp
  ·by_cases PJ:n+1<=k/\k<n+1+r.length
   ·rw[BQ PJ,BQ ⟨by omega,by omega⟩]
    have:k-n=(k-(n+1))+1:=by omega
    rw[this];simp
   ·rw[BC PJ,BC hk,BC (by omega)]
theorem A0 (L:AE) (a b:BH):AD L (a++b)=AD (AD L a) b:=by simp [AD]
theorem RA {o:Bool} {t:Ty} {x:t.T} {e:AO} {j:Nat} (h:(A7 o t x)[j]? =some e):e.EA=false:=by
 induction t generalizing j with
 |pair a b PH PI=>
  simp only[A7] at h
  by_cases hk:j<(A7 o a x.1).length
  ·rw[QE hk] at h;exact PH h
  ·rw[OG (by omega)] at h;exact PI h
 |slice a=>
  cases j with
  |zero=>simp only[A7,U9,AR] at h;subst h;cases o <;> first|rfl|exact ZG _ _
  |succ j=>simp [A7] at h
 |nf=>
  cases j with
  |zero=>simp only[A7,U9,AR] at h;subst h;rfl
  |succ j=>simp [A7] at h
 |sl a=>
  cases j with
  |zero=>simp only[A7,U9,AR] at h;subst h;rfl
  |succ j=>simp [A7] at h
 |_=>simp [A7] at h
theorem j3 {E:Env} {L:AE} (t:Ty) (x:t.T) (n:Nat) (h:∀ j,j<t.EG->Al L (n+j)):GV E L (E3 t x n):=by
 induction t generalizing n with
 |pair a b PH PI=>
  simp only[E3]
  rw[A3]
  intro v hv
  rcases DU.1 hv with hv|hv
  ·exact A3.1 (PH x.1 n (fun j hj=>h j (by simp [Ty.EG];omega))) v hv
  ·exact A3.1 (PI x.2 _ (fun j hj=>by rw[I6];exact h _ (by simp [Ty.EG];omega))) v hv
 |slice a=>exact⟨h 0 (by simp [Ty.EG]),trivial⟩
 |nf=>exact⟨h 0 (by simp [Ty.EG]),trivial⟩
 |sl a=>exact⟨h 0 (by simp [Ty.EG]),trivial⟩
 |_=>exact⟨trivial,trivial⟩
theorem AK.AA7 {c:B4 TB} {G:Nat->Prop} {w:World} {E:Env} {L:AE} (h:AK c G w E L) (d:CT) (x:d.t.T) {n:Nat} {ms:Nat->Nm} (hl:∀ j,j<d.cnt->look L (n+j)=some .HP)
  (hc:D0 c G w d x ms) (JM:(IX d x ms).Nodup) (aS:∀ b∈IX d x ms,FT E L b):
  AK c G w (E.put n d.cnt ms) (AD L (KG d x n))/\(∀ k,(n<=k/\k<n+d.cnt->Al (AD L (KG d x n)) k)/\(¬(n<=k/\k<n+d.cnt)->look (AD L (KG d x n)) k=look L k))∧
   (OJ d x n).wf (E.put n d.cnt ms) (AD L (KG d x n))∧
   (∀ k f b,n<=k/\k<n+d.cnt->look (AD L (KG d x n)) k=some f->f.ow (E.put n d.cnt ms) k b->b∈IX d x ms):=by
 unfold KG OJ
 unfold D0 CT.cnt IX CT.pn at*
 cases hp:d.ptr with
 |false=>
  simp only[hp,KB,List.nil_append] at*
  obtain⟨h1,h2⟩:=AK.aR (A7 d.own d.t x) (n:=n) (ms:=ms) h (fun j hj=>hl j (by rw[AW] at hj;exact hj)) hc.1 JM aS
  rw[AW] at h1 h2
  have I8:∀ k,n<=k/\k<n+d.t.EG->Al (AD L (BL n (A7 d.own d.t x))) k:=by
   intro k hk
   have CP:k-n<(A7 d.own d.t x).length:=by rw[AW];omega
   refine⟨(A7 d.own d.t x)[k-n], ?_,RA (KA CP)⟩
   rw[h2,BQ hk,KA CP]
  refine⟨h1,fun k=>⟨I8 k,fun hk=>by rw[h2,BC hk]⟩, ?_, ?_⟩
  rotate_left
  ·intro k f b hk hf hb
   rw[h2,BQ hk] at hf
   have e0:k=n+(k-n):=by omega
   rw[e0,AO.VF (by omega)] at hb
   exact E9 _ _ _ hf hb
  have hw:GV (E.put n d.t.EG ms) (AD L (BL n (A7 d.own d.t x))) (E3 d.t x n):=j3 _ _ _ fun j hj=>I8 _ ⟨by omega,by omega⟩
  cases hd:d.agg with
  |true=>exact hw
  |false=>
   show SV.wf _ _ ((E3 d.t x n).headD AQ)
   cases hu:E3 d.t x n with
   |nil=>trivial
   |cons v r=>rw[hu] at hw;exact hw.1
 |true=>
  simp only[hp] at*
  obtain⟨hc1,uO⟩:=hc
  obtain⟨b1,b2,b3,b4,ty,b5⟩:=uO trivial
  have RB:=SQ.1 JM
  obtain⟨h1,h2⟩:=AK.aR (A7 d.own d.t x) (n:=n+1) (ms:=fun j=>ms (1+j)) h (fun j hj=>by have:=hl (1+j) (by rw[AW] at hj;omega);rw[<-this];congr 1;omega) hc1 RB.2.1
   (fun b hb=>aS b (DU.2 (.inr hb)))
  rw[AW] at h1 h2
  have h0:look (AD L (BL (n+1) (A7 d.own d.t x))) n=some .HP:=by
   rw[h2,BC (by omega)];exact hl 0 (by omega)
  have CP:=AJ h0
  have A8:=fun k=>AT (q:=(n,AO.box (E3 d.t x (n+1)))) CP k
  have I8:∀ k,n<=k/\k<n+(1+d.t.EG)->Al (BS (AD L (BL (n+1) (A7 d.own d.t x))) (n,AO.box (E3 d.t x (n+1)))) k:=by
   intro k hk
   by_cases hkn:k=n
   ·exact⟨.box (E3 d.t x (n+1)),by rw[A8,BQ hkn],rfl⟩
   ·have CP:k-(n+1)<(A7 d.own d.t x).length:=by rw[AW];omega
    refine⟨(A7 d.own d.t x)[k-(n+1)], ?_,RA (KA CP)⟩
    rw[A8,BC hkn,h2,BQ (by omega),KA CP]
  have e1:(E.put (n+1) d.t.EG (fun j=>ms (1+j))).M7 n (ms 0) (ms 0).ins.l=E.put n (1+d.t.EG) ms:=by
   refine GW (fun k=> ?_) rfl (fun k=> ?_)
   all_goals simp only[Env.put,Env.M7]
   all_goals by_cases hk:k=n
   all_goals first|subst hk|skip
   ·rw[BQ rfl,BQ (by omega)]
    congr 1;omega
   ·rw[BC hk]
    by_cases PJ:n+1<=k/\k<n+1+d.t.EG
    ·rw[BQ PJ,BQ (by omega)]
     congr 1;omega
    ·rw[BC PJ,BC (by omega)]
   ·rw[BQ rfl,BQ (by omega)]
    congr 3;omega
   ·rw[BC hk]
    by_cases PJ:n+1<=k/\k<n+1+d.t.EG
    ·rw[BQ PJ,BQ (by omega)]
     congr 3;omega
    ·rw[BC PJ,BC (by omega)]
  have fG:GV (E.put n (1+d.t.EG) ms) (BS (AD L (BL (n+1) (A7 d.own d.t x))) (n,AO.box (E3 d.t x (n+1)))) (E3 d.t x (n+1)):=
   j3 _ _ _ fun j hj=>I8 _ (by omega)
  have h3:=h1.AGI (i:=n) (e' := .box (E3 d.t x (n+1))) (m:=ms 0) (w' :=w) (ms 0).ins.l CP (.refl _) (HE _) (fun hx=>absurd hx (CJ h0)) rfl (fun _ _ _=>rfl)
   (fun b hb=>by simp only[AO.own,AR] at hb;subst hb;exact⟨b4,b3⟩)
   (by
    intro k f hk hf b hb he
    simp only[AO.own,AR] at he
    subst he
    rw[h2] at hf
    by_cases PJ:n+1<=k/\k<n+1+d.t.EG
    ·rw[BQ PJ] at hf
     have XG:(ms 0).A_∈DX (A7 d.own d.t x) (fun j=>ms (1+j)):=by
      have:k=n+1+(k-(n+1)):=by omega
      rw[this,AO.VF (by omega)] at hb
      exact E9 _ _ _ hf hb
     exact RB.2.2 _ (by simp) _ XG rfl
    ·rw[BC PJ] at hf
     rw[AO.dV (by omega)] at hb
     exact aS _ (DU.2 (.inl (by simp))) k f hf hb)
   (by
    intro _
    rw[e1]
    refine⟨b1,b2,b3,b4,⟨ty, ?_⟩,fG⟩
    rw[b5,SZ]
    congr 3
    apply E5
    intro j hj
    show ms (1+j)=(E.put n (1+d.t.EG) ms).nm (n+1+j)
    rw[I6,Env.ZH _ _ _ _ (by omega)])
  rw[e1] at h3
  rw[A0]
  refine⟨h3,fun k=>⟨I8 k,fun hk=> ?_⟩,I8 n (by omega), ?_⟩
  ·show look (BS _ _) k=_
   rw[A8,BC (by omega),h2,BC (by omega)]
  ·intro k f b hk hf hb
   have hf' :look (BS (AD L (BL (n+1) (A7 d.own d.t x))) (n,AO.box (E3 d.t x (n+1)))) k=some f:=hf
   rw[A8] at hf'
   by_cases hkn:k=n
   ·subst hkn
    simp only[GJ,AR] at hf'
    subst hf'
    have W_ :=(AO.VF (e:= .box (E3 d.t x (k+1))) (E:=E) (n:=k) (cnt:=1+d.t.EG) (ms:=ms) (j:=0) (b:=b) (by omega)).1 (by simpa using hb)
    simp only[AO.QH,AO.own,Option.toList_some,LA] at W_
    exact DU.2 (.inl (by simp [W_]))
   ·rw[BC hkn,h2,BQ (by omega)] at hf'
    have e0:k=n+(1+(k-(n+1))):=by omega
    rw[e0,AO.VF (by omega)] at hb
    exact DU.2 (.inr (E9 _ _ (fun j=>ms (1+j)) hf' hb))
theorem AK.aT {c:B4 TB} {G:Nat->Prop} {w:World}:∀ (cs:List CT) {E:Env} {L:AE} (x:HT cs) {n:Nat} {ms:Nat->Nm},AK c G w E L->(∀ j,j<cnts cs->look L (n+j)=some .HP)→
  PS c G w cs x ms->(BA cs x ms).Nodup->(∀ b∈BA cs x ms,FT E L b)→
  AK c G w (E.put n (cnts cs) ms) (AD L (B2 cs x n))/\(∀ k,(n<=k/\k<n+cnts cs->Al (AD L (B2 cs x n)) k)/\(¬(n<=k/\k<n+cnts cs)->look (AD L (B2 cs x n)) k=look L k))∧
   GV (E.put n (cnts cs) ms) (AD L (B2 cs x n)) (outSVs cs x n)
 | [],E,L,x,n,ms,h,_,_,_,_=>by
  have e1:E.put n 0 ms=E:=GW (fun k=>by simp only[Env.put];rw[BC (by omega)]) rfl (fun k=>by simp only[Env.put];rw[BC (by omega)])
  refine⟨by simp only[cnts,e1];exact h,fun k=>⟨fun hk=>by simp [cnts] at hk;omega,fun _=>rfl⟩,trivial⟩
 |d::r,E,L,x,n,ms,h,hl,hp,JM,aS=>by
  have RB:=SQ.1 JM
  obtain⟨h1,h2,h3,h4⟩:=h.AA7 d (HT.hd d r x) (n:=n) (ms:=ms) (fun j hj=>hl j (by simp [cnts];omega)) hp.1 RB.1 (fun b hb=>aS b (DU.2 (.inl hb)))
  obtain⟨k1,k2,k3⟩:=AK.aT r (HT.tl d r x) (n:=n+d.cnt) (ms:=fun k=>ms (d.cnt+k)) h1
   (by
    intro j hj
    rw[(h2 _).2 (by omega),I6]
    exact hl _ (by simp [cnts];omega)) hp.2 RB.2.1
   (by
    intro b hb k f hf LS
    by_cases hk:n<=k/\k<n+d.cnt
    ·exact RB.2.2 b (h4 k f b hk hf LS) b hb rfl
    ·rw[(h2 k).2 hk] at hf
     rw[AO.dV (by omega)] at LS
     exact aS b (DU.2 (.inr hb)) k f hf LS)
  have e1:(E.put n d.cnt ms).put (n+d.cnt) (cnts r) (fun k=>ms (d.cnt+k))=E.put n (cnts (d::r)) ms:=by
   show _=E.put n (d.cnt+cnts r) ms
   refine GW (fun k=> ?_) rfl (fun k=> ?_)
   all_goals simp only[Env.put]
   all_goals by_cases hk:n+d.cnt<=k/\k<n+d.cnt+cnts r
   ·rw[BQ hk,BQ (by omega)]
    congr 1;omega
   ·rw[BC hk]
    by_cases PJ:n<=k/\k<n+d.cnt
    ·rw[BQ PJ,BQ (by omega)]
    ·rw[BC PJ,BC (by omega)]
   ·rw[BQ hk,BQ (by omega)]
    congr 3;omega
   ·rw[BC hk]
    by_cases PJ:n<=k/\k<n+d.cnt
    ·rw[BQ PJ,BQ (by omega)]
    ·rw[BC PJ,BC (by omega)]
  have e2:AD L (B2 (d::r) x n)=AD (AD L (KG d (HT.hd d r x) n)) (B2 r (HT.tl d r x) (n+d.cnt)):=by
   simp only[B2,A0]
  rw[e1] at k1 k3
  rw[e2]
  have I8:∀ k,Al (AD L (KG d (HT.hd d r x) n)) k->Al (AD (AD L (KG d (HT.hd d r x) n)) (B2 r (HT.tl d r x) (n+d.cnt))) k:=by
   intro k hk
   by_cases PJ:n+d.cnt<=k/\k<n+d.cnt+cnts r
   ·exact (k2 k).1 PJ
   ·obtain⟨e,oT,he2⟩:=hk
    exact⟨e,by rw[(k2 k).2 PJ];exact oT,he2⟩
  refine⟨k1,fun k=>⟨fun hk=> ?_,fun hk=> ?_⟩, ?_,k3⟩
  ·simp only[cnts] at hk
   by_cases PJ:n+d.cnt<=k/\k<n+d.cnt+cnts r
   ·exact (k2 k).1 PJ
   ·exact I8 k ((h2 k).1 (by omega))
  ·simp only[cnts] at hk
   rw[(k2 k).2 (by omega),(h2 k).2 (by omega)]
  ·refine (QG I8 (fun k hk=> ?_) _ h3).1
   rw[<-e1]
   refine Env.PX _ _ _ _ ?_
   rcases GR k (n+d.cnt) with CP|hge
   ·exact .inl CP
   ·right
    rcases GR k (n+d.cnt+cnts r) with yE|ADO
    ·exfalso
     have:look (AD L (KG d (HT.hd d r x) n)) k=some .HP:=by
      rw[(h2 k).2 (by omega)]
      have:=hl (k-n) (by simp [cnts];omega)
      have e:n+(k-n)=k:=by omega
      rw[e] at this;exact this
     exact CJ this hk
    ·exact ADO
structure IC (T:Type) where
 x:T
 nes:List NE
 fz:BH
 on:List Nat
 ln:List Nat
def KH (md:PM) (AI:Nat->Option AO) (c:CT) (v:SV):Option (IC c.t.T):=
 match c.ptr with
 |true=>match v with
  | .loc i off=>if off=0 then (match AI i with
   |some (.box cs)=>match c.own with
    |true=>match CU .own AI c.t cs with
     |some (x,[],nes,u)=>some ⟨x,.whole i::nes,[],i::u.map (·.1),[]⟩
     |_=>none
    |false=>match CU md AI c.t cs with
     |some (x,[],nes,u)=>some ⟨x,.whole i::nes,u,[i],nes.filterMap NE.name⟩
     |_=>none
   |_=>none) else none
  |_=>none
 |false=>match (match c.agg,v with
   |true,.agg cs=>some cs
   |true,_=>none
   |false,v=>some [v]) with
  |none=>none
  |some cs=>match c.own with
   |true=>match CU .own AI c.t cs with
    |some (x,[],nes,u)=>some ⟨x,nes,[],u.map (·.1),[]⟩
    |_=>none
   |false=>match CU md AI c.t cs with
    |some (x,[],nes,u)=>some ⟨x,nes,u,[],nes.filterMap NE.name⟩
    |_=>none
def FU (md:PM) (AI:Nat->Option AO):(cs:List CT)->List SV->Option (IC (HT cs))
 | [],[]=>some ⟨(),[],[],[],[]⟩
 |c::r,v::vs=>match KH md AI c v with
  |none=>none
  |some a=>match FU md AI r vs with
   |none=>none
   |some b=>some ⟨HT.mk c r a.x b.x,a.nes++b.nes,a.fz++b.fz,a.on++b.on,a.ln++b.ln⟩
 |_,_=>none
def okA {T:Type} (a:IC T):Bool:=decide a.on.Nodup && a.on.all fun i=> !a.ln.contains i
def IC.BF {T:Type} (a:IC T):BH:=a.fz++a.on.map fun i=>(i,.dead)
end Go.V3
namespace Go.V3
open Go
variable {TB:Tb}
theorem HQ {md:PM} {AI:Nat->Option AO} {c:CT} {v:SV} {a:IC c.t.T} (h:KH md AI c v=some a):
  ∃ (cs:List SV) (u:BH) (nes:List NE) (x:c.t.T),CU (if c.own=true then .own else md) AI c.t cs=some (x,[],nes,u)/\a.x=x∧
   ((c.ptr=true/\∃ i,v= .loc i 0/\AI i=some (.box cs)/\a.nes= .whole i::nes/\a.on=i::(if c.own=true then u.map (·.1) else []))∨
    (c.ptr=false/\((c.agg=true/\v= .agg cs)\/(c.agg=false/\cs=[v]))/\a.nes=nes/\a.on=(if c.own=true then u.map (·.1) else [])))∧
   a.fz=(if c.own=true then [] else u)/\a.ln=(if c.own=true then [] else nes.filterMap NE.name):=by
 unfold KH at h
 split at h
 ·rename_i hp
  split at h
  ·rename_i i off
   split at h
   ·rename_i ho
    subst ho
    split at h
    ·rename_i cs hl
     split at h
     ·rename_i DV
      split at h
      ·rename_i x nes u hk
       simp only[AR] at h;subst h
       exact⟨cs,u,nes,x,by simp [DV,hk],rfl,.inl ⟨hp,i,rfl,hl,rfl,by simp [DV]⟩,by simp [DV],by simp [DV]⟩
      ·cases h
     ·rename_i DV
      split at h
      ·rename_i x nes u hk
       simp only[AR] at h;subst h
       exact⟨cs,u,nes,x,by simp [DV,hk],rfl,.inl ⟨hp,i,rfl,hl,rfl,by simp [DV]⟩,by simp [DV],by simp [DV]⟩
      ·cases h
    ·cases h
   ·cases h
  ·cases h
 ·rename_i hp
  split at h
  ·cases h
  ·rename_i cs oU
   have hag:(c.agg=true/\v= .agg cs)\/(c.agg=false/\cs=[v]):=by
    split at oU
    ·rename_i ha;simp only[AR] at oU;exact .inl ⟨ha,by rw[oU]⟩
    ·cases oU
    ·rename_i ha;simp only[AR] at oU;exact .inr ⟨ha,oU.symm⟩
   split at h
   ·rename_i DV
    split at h
    ·rename_i x nes u hk
     simp only[AR] at h;subst h
     exact⟨cs,u,nes,x,by simp [DV,hk],rfl,.inr ⟨hp,hag,rfl,by simp [DV]⟩,by simp [DV],by simp [DV]⟩
    ·cases h
   ·rename_i DV
    split at h
    ·rename_i x nes u hk
     simp only[AR] at h;subst h
     exact⟨cs,u,nes,x,by simp [DV,hk],rfl,.inr ⟨hp,hag,rfl,by simp [DV]⟩,by simp [DV],by simp [DV]⟩
    ·cases h
theorem LU {md:PM} {AI:Nat->Option AO} {c:CT} {r:List CT} {vs:List SV} {a:IC (HT (c::r))} (h:FU md AI (c::r) vs=some a):
  ∃ v vs' a1 a2,vs=v::vs' /\KH md AI c v=some a1/\FU md AI r vs' =some a2/\a=⟨HT.mk c r a1.x a2.x,a1.nes++a2.nes,a1.fz++a2.fz,a1.on++a2.on,a1.ln++a2.ln⟩:=by
 cases vs with
 |nil=>simp [FU] at h
 |cons v vs' =>
  simp only[FU] at h
  split at h
  ·cases h
  ·split at h
   ·cases h
   ·simp only[AR] at h
    exact⟨v,vs',_,_,rfl,by assumption,by assumption,h.symm⟩
theorem MN {md:PM} {AI:Nat->Option AO} {c:CT} {v:SV} {a:IC c.t.T} (h:KH md AI c v=some a):a.nes.length=c.cnt:=by
 obtain⟨cs,u,nes,x,h1,rfl,h2,_⟩:=HQ h
 obtain⟨_,_,_,hn,_⟩:=E8 ⟨fun _=>⟨0,0,true,0,0,none⟩,fun _=>undef⟩ _ _ _ _ _ _ h1
 unfold CT.cnt CT.pn
 rcases h2 with ⟨hp,i,_,_,e,_⟩|⟨hp,_,e,_⟩
 ·rw[e,hp];simp [hn];omega
 ·rw[e,hp];simp [hn]
theorem uP {md:PM} {AI:Nat->Option AO} {c:CT} {v:SV} {a:IC c.t.T} (h:KH md AI c v=some a) (E Em:Env) (n:Nat) (hm:∀ k,k<c.cnt->Em.nm (n+k)=BU E a.nes k):
  v.den E=(OJ c a.x n).den Em:=by
 obtain⟨cs,u,nes,x,h1,rfl,h2,_⟩:=HQ h
 obtain⟨c1,e1,l1,hn,hd⟩:=E8 E _ _ _ _ _ _ h1
 rw[Y_] at e1;subst e1
 unfold CT.cnt CT.pn at hm
 unfold OJ
 rcases h2 with ⟨hp,i,rfl,_,e,_⟩|⟨hp,hag,e,_⟩
 ·rw[hp] at hm ⊢
  rw[e] at hm
  have h0:=hm 0 (by simp;omega)
  simp only[JK,BU,U9,NE.nm] at h0
  simp only[SV.den,h0]
 ·rw[hp] at hm ⊢
  rw[e] at hm
  have hen:enc c.t a.x (BU E nes)=AH Em (E3 c.t a.x n):=by
   rw[SZ]
   exact E5 _ _ fun k hk=>(hm k (by simpa using hk)).symm
  rcases hag with ⟨ha,rfl⟩|⟨ha,rfl⟩
  ·rw[ha];simp only[SV.den];rw[hd,hen]
  ·rw[ha]
   simp only
   rw[hen] at hd
   cases hu:E3 c.t a.x n with
   |nil=>rw[hu] at hd;simp [AH] at hd
   |cons y r=>rw[hu] at hd;simp only[AH,XV] at hd;exact hd.1
theorem RC {md:PM} {AI:Nat->Option AO} (E:Env):∀ (cs:List CT) (vs:List SV) (a:IC (HT cs)),FU md AI cs vs=some a->a.nes.length=cnts cs∧
  ∀ (Em:Env) (n:Nat),(∀ k,k<cnts cs->Em.nm (n+k)=BU E a.nes k)->AH E vs=AH Em (outSVs cs a.x n):=by
 intro cs
 induction cs with
 |nil=>
  intro vs a h
  cases vs with
  |nil=>simp only[FU,AR] at h;subst h;exact⟨rfl,fun _ _ _=>rfl⟩
  |cons v r=>simp [FU] at h
 |cons c r ih=>
  intro vs a h
  obtain⟨v,vs',a1,a2,rfl,h1,h2,rfl⟩:=LU h
  obtain⟨l2,d2⟩:=ih _ _ h2
  have l1:=MN h1
  obtain⟨k1,k2⟩:=IB E a1.nes a2.nes
  refine⟨by simp [cnts,l1,l2],fun Em n hm=> ?_⟩
  simp only[AH,outSVs,HT.uK,HT.uL]
  rw[uP h1 E Em n (fun k hk=>by rw[hm k (by simp [cnts];omega)];exact k1 k (by omega))]
  rw[d2 Em (n+c.cnt) (fun k hk=>by rw[I6,hm _ (by simp [cnts];omega)];rw[<-l1];exact k2 k)]
structure aU (md:PM) (AI:Nat->Option AO) (E:Env) (c:B4 TB) (G:Nat->Prop) (w:World) (on:List Nat) (fz:BH) (ln:List Nat):Prop where
 shr:∀ i t ys,AI i=some (.shr t ys)->dK (Rp G w t) t.sz G w (E.nm i) ys
 XD:∀ i t ys e,AI i=some e->U0 e t ys->(md= .S0/\i∈ln)\/(i,.shr t ys)∈fz->dK (Rp G w t) t.sz G w (E.nm i) ys
 row:∀ i t ys,AI i=some (.row t ys)->i∈on->Own (Rp G w t) t.sz c G w (E.nm i) ys
 deep:∀ i t ys,AI i=some (.deep t ys none)->i∈on->aQ c G w (E.nx i) (.deep t ys none)
 tree:∀ i t1 t2 ys,AI i=some (.tree t1 t2 ys)->i∈on->C0 c G w (E.nm i) t1 t2 ys
 box:∀ i cs,AI i=some (.box cs)->i∈on->(E.nm i).nil=false/\(E.nm i).off=(E.nm i).pp.pre.length/\¬G (E.nm i).A_/\¬c.Old (E.nm i).A_/\(∃ ty,w.heap[(E.nm i).A_]? =some (.cells ((E.nm i).arr (AH E cs)) ty (0,0)))
theorem aU.sub {md:PM} {AI:Nat->Option AO} {E:Env} {c:B4 TB} {G:Nat->Prop} {w:World} {on on' :List Nat} {fz fz' :BH} {ln ln' :List Nat} (h:aU md AI E c G w on fz ln)
  (h1:∀ i∈on',i∈on) (h2:∀ q∈fz',q∈fz) (h3:∀ i∈ln',i∈ln):aU md AI E c G w on' fz' ln' :=
 ⟨h.shr,fun i t ys e hl ho hx=>h.XD i t ys e hl ho (hx.imp (fun ⟨a,b⟩=>⟨a,h3 _ b⟩) (h2 _)),fun i t ys hl hx=>h.row i t ys hl (h1 _ hx),fun i t ys hl hx=>h.deep i t ys hl (h1 _ hx),fun i t1 t2 ys hl hx=>h.tree i t1 t2 ys hl (h1 _ hx),fun i cs hl hx=>h.box i cs hl (h1 _ hx)⟩
def RD (AI:Nat->Option AO) (E:Env) (i:Nat):List Nat:=match AI i with
 |some e=>e.ABT E i
 |none=>[]
theorem S2 (a b:List AO) (ms:Nat->Nm):DX (a++b) ms=DX a ms++DX b (fun k=>ms (a.length+k)):=by
 induction a generalizing ms with
 |nil=>simp [DX]
 |cons e r ih=>
  simp only[ADB,DX,ih,hD,hI]
  congr 3
  funext k
  congr 1;omega
theorem MO (es:List AO) {f g:Nat->Nm} (h:∀ k,k<es.length->f k=g k):DX es f=DX es g:=by
 induction es generalizing f g with
 |nil=>rfl
 |cons e r ih=>
  simp only[DX]
  rw[h 0 (by simp),ih (fun k hk=>h (k+1) (by simp;omega))]
theorem dW (t:Ty) (x:t.T) (ms:Nat->Nm):DX (A7 false t x) ms=[]:=by
 induction t generalizing ms with
 |pair a b PH PI=>simp [A7,S2,PH,PI]
 |slice a=>simp [A7,DX,AO.QH,AO.own]
 |sl a=>simp [A7,DX,AO.QH,AO.own]
 |_=>rfl
theorem yF {AI:Nat->Option AO} {E:Env}:∀ (t:Ty) (cs:List SV) (x:t.T) (r:List SV) (nes:List NE) (u:BH),CU .own AI t cs=some (x,r,nes,u)→
  DX (A7 true t x) (BU E nes)=(u.map (·.1)).flatMap (RD AI E):=by
 intro t
 induction t with
 |pair a b PH PI=>
  intro cs x r nes u h
  simp only[CU] at h
  repeat' split at h
  all_goals first|(cases h;done)|skip
  rename_i _ x1 r1 n1 u1 h1 _ x2 r2 n2 u2 h2
  simp only[AR,BP] at h
  obtain⟨rfl,rfl,rfl,rfl⟩:=h
  obtain⟨_,_,_,m1,_⟩:=E8 E _ _ _ _ _ _ h1
  obtain⟨_,_,_,m2,_⟩:=E8 E _ _ _ _ _ _ h2
  obtain⟨k1,k2⟩:=IB E n1 n2
  simp only[A7,S2,tY,List.flatMap_append]
  rw[<-PH _ _ _ _ _ h1,←PI _ _ _ _ _ h2]
  congr 1
  ·exact MO _ fun k hk=>k1 k (by rw[AW] at hk;omega)
  ·rw[AW,←m1];exact MO _ fun k hk=>k2 k
 |slice a ih=>
  intro cs x r nes u h
  simp only[CU] at h
  repeat' split at h
  all_goals first|(cases h;done)|skip
  rename_i v r' _ xs ne u' hs
  simp only[AR,BP] at h
  obtain⟨rfl,rfl,rfl,rfl⟩:=h
  rcases dU hs with ⟨rfl,rfl,rfl,hk⟩|⟨i,hx,hl,rfl⟩
  ·cases a with
   |pair a b=>cases a <;> cases b <;> rfl
   |_=>first|rfl|cases hk
  ·simp only[A7,DX,BU,U9,Y_,OI,ABL,List.flatMap_cons,List.flatMap_nil]
   have:RD AI E i=(F3 a xs).ABT E i:=by simp [RD,hl]
   rw[this]
   rcases hx with ⟨rfl,U1⟩|⟨rfl,b,rfl⟩|⟨rfl,b1,b2,rfl⟩
   ·rw[IA U1];rfl
   ·rfl
   ·rfl
 |_=>
  intro cs x r nes u h
  simp only[CU] at h
  repeat' split at h
  all_goals first|(cases h;done)|skip
  all_goals (simp only[AR,BP] at h;obtain⟨_,rfl,rfl,rfl⟩:=h;rfl)
theorem qP {md:PM} {AI:Nat->Option AO} {E:Env} {c:CT} {v:SV} {a:IC c.t.T} (h:KH md AI c v=some a):IX c a.x (BU E a.nes)=a.on.flatMap (RD AI E):=by
 obtain⟨cs,u,nes,x,h1,rfl,h2,_⟩:=HQ h
 have XG:DX (A7 c.own c.t a.x) (BU E nes)=(if c.own=true then u.map (·.1) else []).flatMap (RD AI E):=by
  cases ho:c.own with
  |true=>rw[ho] at h1;simp only[GJ] at h1 ⊢;exact yF _ _ _ _ _ _ h1
  |false=>rw[dW];rfl
 unfold IX CT.pn
 rcases h2 with ⟨hp,i,rfl,hl,e1,e2⟩|⟨hp,hag,e1,e2⟩
 ·rw[hp,e1,e2]
  have hb:RD AI E i=[(E.nm i).A_]:=by simp [RD,hl,AO.ABT,AO.own]
  rw[List.flatMap_cons,hb]
  congr 1
  rw[<-XG]
  apply MO
  intro k _
  simp only[BU]
  rw[Nat.add_comm,mY]
 ·rw[hp,e1,e2,←XG]
  simp
theorem yG {md:PM} {AI:Nat->Option AO} {E:Env}:∀ (cs:List CT) (vs:List SV) (a:IC (HT cs)),FU md AI cs vs=some a->BA cs a.x (BU E a.nes)=a.on.flatMap (RD AI E):=by
 intro cs
 induction cs with
 |nil=>
  intro vs a h
  cases vs with
  |nil=>simp only[FU,AR] at h;subst h;rfl
  |cons v r=>simp [FU] at h
 |cons c r ih=>
  intro vs a h
  obtain⟨v,vs',a1,a2,rfl,h1,h2,rfl⟩:=LU h
  have l1:=MN h1
  obtain⟨k1,k2⟩:=IB E a1.nes a2.nes
  simp only[BA,HT.uK,HT.uL,List.flatMap_append]
  rw[<-qP h1,←ih _ _ h2]
  have AKJ:∀ (d:CT) (x:d.t.T) (f g:Nat->Nm),(∀ k,k<d.cnt->f k=g k)->IX d x f=IX d x g:=by
   intro d x f g hfg
   unfold IX
   unfold CT.cnt at hfg
   congr 1
   ·cases hp:d.ptr with
    |true=>simp only;rw[hfg 0 (by simp [CT.pn,hp];omega)]
    |false=>rfl
   ·exact MO _ fun k hk=>hfg _ (by rw[AW] at hk;omega)
  have AKK:∀ (ds:List CT) (x:HT ds) (f g:Nat->Nm),(∀ k,k<cnts ds->f k=g k)->BA ds x f=BA ds x g:=by
   intro ds
   induction ds with
   |nil=>intros;rfl
   |cons d s ihs=>
    intro x f g hfg
    simp only[BA]
    rw[AKJ d _ f g (fun k hk=>hfg k (by simp [cnts];omega)),ihs _ _ (fun k=>g (d.cnt+k)) (fun k hk=>hfg _ (by simp [cnts];omega))]
  obtain⟨l2,_⟩:=RC E _ _ _ h2
  congr 1
  ·exact AKJ _ _ _ _ fun k hk=>k1 k (by omega)
  ·rw[<-l1];exact AKK _ _ _ _ fun k hk=>k2 k
theorem D0.congr {c:B4 TB} {G:Nat->Prop} {w:World} {d:CT} {x:d.t.T} {f g:Nat->Nm} (h:D0 c G w d x f) (hfg:∀ k,k<d.cnt->f k=g k):D0 c G w d x g:=by
 obtain⟨h1,h2⟩:=h
 unfold CT.cnt at hfg
 refine⟨fun j e he=> ?_,fun hp=> ?_⟩
 ·have hj:j<d.t.EG:=by
   rcases GR j (A7 d.own d.t x).length with h|h
   ·rwa [AW] at h
   ·rw[N8 h] at he;cases he
  rw[<-hfg _ (by omega)]
  exact h1 j e he
 ·have h0:=hfg 0 (by simp [CT.pn,hp];omega)
  rw[<-h0]
  obtain⟨a,b,c,d',ty,e⟩:=h2 hp
  refine⟨a,b,c,d',ty, ?_⟩
  rw[e]
  congr 3
  exact E5 _ _ fun k hk=>hfg _ (by omega)
theorem PS.congr {c:B4 TB} {G:Nat->Prop} {w:World}:∀ (cs:List CT) {x:HT cs} {f g:Nat->Nm},PS c G w cs x f->(∀ k,k<cnts cs->f k=g k)->PS c G w cs x g
 | [],_,_,_,_,_=>trivial
 |d::r,x,f,g,h,hfg=>⟨h.1.congr fun k hk=>hfg k (by simp [cnts];omega),PS.congr r h.2 fun k hk=>hfg _ (by simp [cnts];omega)⟩
theorem yH {md:PM} (hP:md≠ .own) {AI:Nat->Option AO} {c:CT} {v:SV} {a:IC c.t.T} (h:KH md AI c v=some a) {E:Env} {L:AE} (hw:v.wf E L) (hwb:∀ i cs,AI i=some (.box cs)->GV E L cs)
  {cf:B4 TB} {G:Nat->Prop} {w:World} (hk:aU md AI E cf G w a.on a.fz a.ln):D0 cf G w c a.x (BU E a.nes):=by
 obtain⟨cs,u,nes,x,h1,rfl,h2,h3,h4⟩:=HQ h
 have hwc:GV E L cs:=by
  rcases h2 with ⟨_,i,_,hl,_⟩|⟨_,hag,_⟩
  ·exact hwb i cs hl
  ·rcases hag with ⟨_,rfl⟩|⟨_,rfl⟩
   ·exact hw
   ·exact⟨hw,trivial⟩
 obtain⟨c1,e1,_,hn,hd⟩:=E8 E _ _ _ _ _ _ h1
 rw[Y_] at e1;subst e1
 obtain⟨g1,g2⟩:=OB _ _ _ _ _ _ h1
 have hon:∀ q∈u,c.own=true->q.1∈a.on:=by
  intro q hq ho
  rcases h2 with ⟨_,i,_,_,_,e⟩|⟨_,_,_,e⟩
  ·rw[e,BQ ho];exact m0 _ (DB.2 ⟨q,hq,rfl⟩)
  ·rw[e,BQ ho];exact DB.2 ⟨q,hq,rfl⟩
 have AHQ:∀ j e,(A7 c.own c.t a.x)[j]? =some e->aQ cf G w (BU E nes j) e:=by
  intro j e he
  rcases g1 j c.own e he with rfl|⟨t,xs,ne,hs,KF,rfl⟩|⟨t,s,xs,ne,uk,hs,KF,tM,X0,rfl⟩
  ·trivial
  ·have uQ:BU E nes j=ne.nm E:=by simp [BU,KF]
   rw[uQ]
   exact hs.ok hk.shr
  have uQ:BU E nes j=ne.nm E:=by simp [BU,KF]
  rw[uQ]
  cases ho:c.own with
  |true=>
   rw[ho] at hs
   simp only[GJ] at hs
   rcases dU hs with ⟨rfl,rfl,rfl,hkv⟩|⟨i,hx,hl,rfl⟩
   ·exact aQ.nil cf G w t hkv
   ·rcases hx with ⟨rfl,U1⟩|⟨rfl,U1⟩|⟨rfl,U1⟩
    ·simp only
     rw[IA U1] at hl ⊢
     exact hk.row i t xs hl (hon (i,.dead) (X0 _ (by simp)) ho)
    ·obtain⟨b,rfl⟩:=U1
     exact hk.deep i b xs hl (hon (i,.dead) (X0 _ (by simp)) ho)
    ·obtain⟨b1,b2,rfl⟩:=U1
     exact hk.tree i b1 b2 xs hl (hon (i,.dead) (X0 _ (by simp)) ho)
  |false=>
   rw[ho] at hs
   simp only[XU,Q_] at hs h3 h4
   rw[ho] at h3 h4
   simp only[XU,Q_] at h3 h4
   refine XE hs hP (A3.1 hwc s tM) hk.shr ?_
   intro i t' ys e' hnn hl xR hx
   refine hk.XD i t' ys e' hl xR ?_
   rcases hx with hx|hx
   ·left
    refine⟨hx, ?_⟩
    rw[h4]
    exact xW.2 ⟨ne,UY KF,hnn⟩
   ·right
    rw[h3]
    exact X0 _ hx
 unfold D0 CT.pn
 rcases h2 with ⟨hp,i,rfl,hl,e1,e2⟩|⟨hp,hag,e1,e2⟩
 ·rw[hp,e1]
  have h0:BU E (.whole i::nes) 0=E.nm i:=rfl
  have hs:∀ j,BU E (.whole i::nes) (1+j)=BU E nes j:=fun j=>by simp only[BU];rw[Nat.add_comm,mY]
  refine⟨fun j e he=> ?_,fun _=> ?_⟩
  ·simp only[hs];exact AHQ j e he
  ·obtain⟨b1,b2,b3,b4,ty,b5⟩:=hk.box i _ hl (by rw[e2];simp)
   rw[h0]
   refine⟨b1,b2,b3,b4,ty, ?_⟩
   rw[b5,hd]
   congr 3
   exact E5 _ _ fun j _=>(hs j).symm
 ·rw[hp,e1]
  refine⟨fun j e he=> ?_,fun hx=>by cases hx⟩
  simp only[KB];exact AHQ j e he
theorem ADP {md:PM} (hP:md≠ .own) {AI:Nat->Option AO} {E:Env} {L:AE} (hwb:∀ i cs,AI i=some (.box cs)->GV E L cs) {cf:B4 TB} {G:Nat->Prop} {w:World}:
  ∀ (cs:List CT) (vs:List SV) (a:IC (HT cs)),FU md AI cs vs=some a->GV E L vs->aU md AI E cf G w a.on a.fz a.ln->PS cf G w cs a.x (BU E a.nes):=by
 intro cs
 induction cs with
 |nil=>intros;trivial
 |cons c r ih=>
  intro vs a h hw hk
  obtain⟨v,vs',a1,a2,rfl,h1,h2,rfl⟩:=LU h
  have l1:=MN h1
  obtain⟨l2,_⟩:=RC E _ _ _ h2
  obtain⟨k1,k2⟩:=IB E a1.nes a2.nes
  refine⟨?_, ?_⟩
  ·simp only[HT.uK]
   refine (yH hP h1 hw.1 hwb (hk.sub (by simp;intros;simp [*]) (by simp;intros;simp [*]) (by simp;intros;simp [*]))).congr fun k hk=>(k1 k (by omega)).symm
  ·simp only[HT.uL]
   refine (ih _ _ h2 hw.2 (hk.sub (by simp;intros;simp [*]) (by simp;intros;simp [*]) (by simp;intros;simp [*]))).congr _ fun k hk=> ?_
   rw[<-l1];exact (k2 k).symm
end Go.V3
namespace Go.V3
open Go
variable {TB:Tb}
theorem m6 {md:PM} (hP:md≠ .own) {AI:Nat->Option AO} {c:CT} {v:SV} {a:IC c.t.T} (h:KH md AI c v=some a):
  (∀ q∈a.fz,∃ t ys e,AI q.1=some e/\U0 e t ys/\q.2= .shr t ys/\q.1∈a.ln)/\(∀ i∈a.on,∃ e,AI i=some e/\e.EA=false):=by
 obtain⟨cs,u,nes,x,h1,rfl,h2,h3,h4⟩:=HQ h
 obtain⟨_,g2⟩:=OB _ _ _ _ _ _ h1
 refine⟨fun q hq=> ?_,fun i hi=> ?_⟩
 ·rw[h3] at hq
  cases ho:c.own with
  |true=>rw[ho] at hq;cases hq
  |false=>
   rw[ho] at hq h4 g2
   simp only[XU,Q_] at hq h4 g2
   obtain⟨k,t,s,xs,ne,uk,hs,KF,hqk⟩:=g2 q hq
   rcases dT hs with rfl|⟨i,t',ys,e',hl,xR,_,hn,rfl⟩|hx
   ·cases hqk
   ·rw[LA] at hqk;subst hqk
    refine⟨t',ys,e',hl,xR,rfl, ?_⟩
    rw[h4]
    exact xW.2 ⟨ne,UY KF,hn⟩
   ·exact absurd hx hP
 ·have hu:∀ q∈u,c.own=true->∃ e,AI q.1=some e/\e.EA=false:=by
   intro q hq ho
   rw[ho] at g2
   simp only[GJ] at g2
   obtain⟨k,t,s,xs,ne,uk,hs,KF,hqk⟩:=g2 q hq
   rcases dU hs with ⟨_,_,rfl,_⟩|⟨i,_,hl,rfl⟩
   ·cases hqk
   ·rw[LA] at hqk;subst hqk;exact⟨_,hl,ZG _ _⟩
  have XG:∀ i∈(if c.own=true then u.map (·.1) else []),∃ e,AI i=some e/\e.EA=false:=by
   intro i hi
   split at hi
   ·rename_i ho
    obtain⟨q,hq,rfl⟩:=DB.1 hi
    exact hu q hq ho
   ·cases hi
  rcases h2 with ⟨_,i',rfl,hl,_,e2⟩|⟨_,_,_,e2⟩
  ·rw[e2] at hi
   rcases MK.1 hi with rfl|hi
   ·exact⟨_,hl,rfl⟩
   ·exact XG i hi
  ·rw[e2] at hi
   exact XG i hi
theorem VG {md:PM} (hP:md≠ .own) {AI:Nat->Option AO}:∀ (cs:List CT) (vs:List SV) (a:IC (HT cs)),FU md AI cs vs=some a→
  (∀ q∈a.fz,∃ t ys e,AI q.1=some e/\U0 e t ys/\q.2= .shr t ys/\q.1∈a.ln)/\(∀ i∈a.on,∃ e,AI i=some e/\e.EA=false):=by
 intro cs
 induction cs with
 |nil=>
  intro vs a h
  cases vs with
  |nil=>simp only[FU,AR] at h;subst h;exact⟨fun q hq=>(by simp at hq),fun i hi=>(by simp at hi)⟩
  |cons v r=>simp [FU] at h
 |cons c r ih=>
  intro vs a h
  obtain⟨v,vs',a1,a2,rfl,h1,h2,rfl⟩:=LU h
  obtain⟨p1,p2⟩:=m6 hP h1
  obtain⟨q1,q2⟩:=ih _ _ h2
  refine⟨fun q hq=> ?_,fun i hi=> ?_⟩
  ·rcases DU.1 hq with hq|hq
   ·obtain⟨t,ys,e,a,a',b,c⟩:=p1 q hq;exact⟨t,ys,e,a,a',b,DU.2 (.inl c)⟩
   ·obtain⟨t,ys,e,a,a',b,c⟩:=q1 q hq;exact⟨t,ys,e,a,a',b,DU.2 (.inr c)⟩
  ·rcases DU.1 hi with hi|hi
   ·exact p2 i hi
   ·exact q2 i hi
theorem AK.AHR {c:B4 TB} {G:Nat->Prop} {w:World} {E:Env}:∀ (on:List Nat) {L:AE},AK c G w E L->(∀ i∈on,i<L.length)→
  AK c G w E (AD L (on.map fun i=>(i,.dead)))/\(∀ n,Al L n->Al (AD L (on.map fun i=>(i,.dead))) n)∧
   ∀ n,look (AD L (on.map fun i=>(i,.dead))) n=if n∈on then some .dead else look L n
 | [],L,h,_=>⟨h,fun _ h=>h,fun n=>by simp [AD]⟩
 |i::r,L,h,hl=>by
  obtain⟨h1,h2,h3⟩:=AK.AHR r (h.kill (hl i (by simp))) (fun k hk=>by rw[DG];exact hl k (by simp [hk]))
  refine⟨h1,fun n hn=>h2 n (A1 rfl n hn),fun n=> ?_⟩
  show look (AD (BS L (i,.dead)) (r.map fun i=>(i,.dead))) n=_
  rw[h3,AT (hl i (by simp))]
  by_cases hn:n=i
  ·subst hn;simp
  ·by_cases hr:n∈r <;> simp [hn,hr]
theorem AK.take {c:B4 TB} {G:Nat->Prop} {w:World} {E:Env} {L:AE} (h:AK c G w E L) {md:PM} (hP:md≠ .own) {AI:Nat->Option AO} (A8:∀ n e,AI n=some e->look L n=some e)
  {cs:List CT} {vs:List SV} {a:IC (HT cs)} (hp:FU md AI cs vs=some a) (ho:okA a=true) (hw:GV E L vs):
  ∃ G1 G2,AK c G1 w E (AD L a.BF)/\(∀ b,G b->G1 b)/\(∀ b,G1 b->G2 b)/\(md= .XD->G2=G1)∧
   (∀ b,G2 b->G1 b\/∃ n e,look (AD L a.BF) n=some e/\e.ow E n b)/\(∀ n,Al L n->Al (AD L a.BF) n)∧
   (∀ n,n∉a.on->n∉a.fz.map (·.1)->look (AD L a.BF) n=look L n)/\(∀ n∈a.on,look (AD L a.BF) n=some .dead)∧
   PS c G2 w cs a.x (BU E a.nes)/\(BA cs a.x (BU E a.nes)).Nodup/\∀ b∈BA cs a.x (BU E a.nes),FT E (AD L a.BF) b:=by
 obtain⟨n1,n2⟩:=VG hP cs vs a hp
 simp only[okA,PG,OH,Q7,Y9,qD,tU] at ho
 obtain⟨JM,RE⟩:=ho
 obtain⟨G1,h1,hg1,ha1,hk1,yI⟩:=h.qN a.fz (fun q hq=>by
  obtain⟨t,ys,e0,hl,ho0,e,_⟩:=n1 q hq
  exact⟨t,ys,.inl ⟨e0,A8 _ _ hl,ho0⟩,e⟩)
 have uR:∀ i∈a.on,i∉a.fz.map (·.1):=by
  intro i hi hx
  obtain⟨q,hq,rfl⟩:=DB.1 hx
  obtain⟨_,_,_,_,_,_,hln⟩:=n1 q hq
  exact RE _ hi hln
 have BJ:∀ n,n∉a.fz.map (·.1)->look (AD L a.fz) n=look L n:=by
  intro n hn
  cases hl:look L n with
  |some e=>
   rcases hk1 n e hl with hx|⟨t,ys,_,_,hx⟩
   ·exact hx
   ·exact absurd (DB.2 ⟨_,hx,rfl⟩) hn
  |none=>
   have hge:L.length<=n:=by
    rcases GR n L.length with h' |h'
    ·unfold look at hl;rw[KA h'] at hl;cases hl
    ·exact h'
   unfold look
   rw[N8 (by rw[JT];exact hge)]
 have AKL:∀ i∈a.on,i<(AD L a.fz).length:=by
  intro i hi
  rw[JT]
  obtain⟨e,hl,_⟩:=n2 i hi
  exact AJ (A8 _ _ hl)
 obtain⟨h2,ha2,j4⟩:=h1.AHR a.on AKL
 have AN9:AD L a.BF=AD (AD L a.fz) (a.on.map fun i=>(i,.dead)):=by rw[IC.BF,A0]
 rw[<-AN9] at h2 ha2 j4
 have VH:∀ n,n∉a.on->n∉a.fz.map (·.1)->look (AD L a.BF) n=look L n:=by
  intro n hn hf
  rw[j4,BC hn,BJ n hf]
 let G2:Nat->Prop:=fun b=>G1 b\/(md= .S0/\∃ n e,look (AD L a.BF) n=some e/\e.ow E n b)
 have uS:∀ b,G1 b->G2 b:=fun b hb=> .inl hb
 have ABU:∀ i∈a.on,∀ e,look L i=some e->∀ b,e.ow E i b->¬G2 b/\FT E (AD L a.BF) b:=by
  intro i hi e he b hb
  have oT:look (AD L a.fz) i=some e:=by rw[BJ i (uR i hi)];exact he
  have aS:FT E (AD L a.BF) b:=by
   intro n f hf LS
   rw[j4] at hf
   by_cases hn:n∈a.on
   ·rw[BQ hn] at hf;simp only[AR] at hf;subst hf;rcases LS with LS|⟨LS,_⟩|⟨LS,_⟩ <;> cases LS
   ·rw[BC hn] at hf
    refine h1.inj n i f e b (fun hx=>hn (hx ▸ hi)) hf oT LS hb
  refine⟨?_,aS⟩
  rintro (hx|⟨_,n,f,hx,hxb⟩)
  ·exact (h1.KE oT hb).1 hx
  ·exact aS n _ hx hxb
 have j5:=fun t x vs=>Rp.mono (w:=w) (w' :=w) (fun b (_:G1 b)=>rfl) uS t x vs
 have ADQ:aU md AI E c G2 w a.on a.fz a.ln:=by
  refine⟨?_, ?_, ?_, ?_, ?_, ?_⟩
  ·intro i t ys hl
   rcases hk1 i _ (A8 _ _ hl) with hx|⟨_,_,hx,_⟩
   ·exact dK.mono (h1.F0 i _ hx) (j5 t) (fun _ _=>rfl) uS
   ·cases hx
  ·rintro i t ys e0 hl xR (⟨hx,hln⟩|hx)
   ·have ANA:i∉a.on:=fun hi=>RE i hi hln
    rcases hk1 i _ (A8 _ _ hl) with hx1|⟨t',ys',hx1,hx2,_⟩
    ·have hx3:look (AD L a.BF) i=some e0:=by rw[j4,BC ANA];exact hx1
     cases xR with
     |row=>exact AGJ (h1.F0 i _ hx1) (j5 t) (fun hn=> .inr ⟨hx,i,_,hx3,.inl (by simp [AO.own,hn])⟩)
     |deep b=>exact (h1.dp i _ _ _ hx1).shr (j5 b) (fun b hb=> .inr ⟨hx,i,_,hx3,AO.C9.2 hb⟩)
     |tree b1 b2=>exact (h1.F0 i _ hx1).shr j5 (fun b hb=> .inr ⟨hx,i,_,hx3,AO.XC.2 hb⟩)
    ·have:(AO.shr t' ys')= .shr t ys:=by cases hx1 <;> cases xR <;> rfl
     rw[this] at hx2
     exact dK.mono (h1.F0 i _ hx2) (j5 t) (fun _ _=>rfl) uS
   ·exact dK.mono (h1.F0 i _ (yI _ hx)) (j5 t) (fun _ _=>rfl) uS
  ·intro i t ys hl hi
   have oT:look (AD L a.fz) i=some (.row t ys):=by rw[BJ i (uR i hi)];exact A8 _ _ hl
   obtain⟨p1,p2,p3⟩:=h1.F0 i _ oT
   refine⟨p1,p2,p3.imp id ?_⟩
   rintro⟨p4,p5,p6,p7,arr,ty,p8,p9,p10⟩
   exact⟨p4,(ABU i hi _ (A8 _ _ hl) _ (.inl (by simp [AO.own,p4]))).1,p6,p7,arr,ty,p8,p9,p10.imp (j5 t)⟩
  ·intro i t ys hl hi
   have oT:look (AD L a.fz) i=some (.deep t ys none):=by rw[BJ i (uR i hi)];exact A8 _ _ hl
   refine⟨rfl, ?_⟩
   refine ((h1.dp i t ys none oT).mono (fun _ h=>h) (fun _ _=>rfl) (fun _ _=>rfl) uS (fun b hb=>⟨rfl, ?_⟩)).env ⟨rfl,rfl,rfl,rfl,rfl⟩
   exact (ABU i hi _ (A8 _ _ hl) _ (AO.C9.2 hb)).1
  ·intro i t1 t2 ys hl hi
   have oT:look (AD L a.fz) i=some (.tree t1 t2 ys):=by rw[BJ i (uR i hi)];exact A8 _ _ hl
   have hx:T5 c G2 w E L (E.nm i) (.tree t1 t2 ys):=(h1.F0 i _ oT).mono (fun _ h=>by
     obtain⟨e,q1,q2⟩:=h
     rcases Classical.em (∃ e,look L _=some e/\e.EA=false) with hx|hx
     ·exact hx
     ·exact absurd (by
       cases uT :look L _ with
       |none=>
        exfalso
        have hge:L.length<=_:=Nat.le_of_not_lt fun CP=>by
         unfold look at uT;rw[KA CP] at uT;cases uT
        unfold look at q1
        rw[N8 (by rw[JT];exact hge)] at q1
        cases q1
       |some e' =>
        rcases hk1 _ _ uT with hz|⟨t,ys,hz,hz2,_⟩
        ·rw[hz] at q1;simp only[AR] at q1;subst q1;exact⟨_,rfl,q2⟩
        ·exact⟨_,rfl,hz.HP⟩) hx) (fun _ _=>rfl) (fun _ _=>rfl) uS (fun b hb=>by cases hb) (fun _ b hb=>⟨rfl,(ABU i hi _ (A8 _ _ hl) _ (AO.XC.2 hb)).1⟩)
   exact hx
  ·intro i cs hl hi
   have oT:look (AD L a.fz) i=some (.box cs):=by rw[BJ i (uR i hi)];exact A8 _ _ hl
   obtain⟨p1,p2,p3,p4,p5,p6⟩:=h1.F0 i _ oT
   exact⟨p1,p2,(ABU i hi _ (A8 _ _ hl) _ (.inl rfl)).1,p4,p5⟩
 have hwb:∀ i cs,AI i=some (.box cs)->GV E L cs:=fun i cs hl=>(h.F0 i _ (A8 _ _ hl)).2.2.2.2.2
 have ADR:=yG (E:=E) cs vs a hp
 have ABV:∀ i∈a.on,∀ b∈RD AI E i,∃ e,look L i=some e/\e.ow E i b:=by
  intro i _ b hb
  unfold RD at hb
  split at hb
  ·rename_i e hl;exact⟨e,A8 _ _ hl,AO.AKI.2 hb⟩
  ·cases hb
 have AKM:∀ i∈a.on,(RD AI E i).Nodup:=by
  intro i _
  unfold RD
  split
  ·rename_i e hl
   cases e with
   |deep t x q=>exact (h.dp i t x q (A8 _ _ hl)).nd
   |tree t1 t2 xs=>exact (h.F0 i _ (A8 _ _ hl)).nd
   |row t x=>show (((AO.row t x).own (E.nm i)).toList).Nodup;cases (AO.row t x).own (E.nm i) <;> simp
   |box t=>show (((AO.box t).own (E.nm i)).toList).Nodup;cases (AO.box t).own (E.nm i) <;> simp
   |_=>simp [AO.ABT,AO.own]
  ·exact jS
 refine⟨G1,G2,h2,hg1,uS, ?_, ?_,fun n hn=>ha2 n (ha1 n hn),VH,fun n hn=>by rw[j4,BQ hn],ADP hP hwb cs vs a hp hw ADQ, ?_, ?_⟩
 ·intro hf
  funext b
  simp only[eq_iff_iff]
  refine⟨?_,uS b⟩
  rintro (hx|⟨hx,_⟩)
  ·exact hx
  ·rw[hf] at hx;cases hx
 ·rintro b (hx|⟨_,hx⟩)
  ·exact .inl hx
  ·exact .inr hx
 ·rw[ADR]
  clear ADR ADQ h2 ha2 j4 VH ABU RE
  have:∀ (on:List Nat),on.Nodup->(∀ i∈on,i∈a.on)->(on.flatMap (RD AI E)).Nodup:=by
   intro on
   induction on with
   |nil=>intros;simp
   |cons i r ih=>
    intro JM XG
    rw[hJ] at JM
    have ih' :=ih JM.2 (fun k hk=>XG k (by simp [hk]))
    rw[List.flatMap_cons]
    refine SQ.2 ⟨AKM i (XG i (by simp)),ih', ?_⟩
    rintro b hb b' hm rfl
    obtain⟨k,hk,hkb⟩:=List.mem_flatMap.1 hm
    obtain⟨e,he,heb⟩:=ABV i (XG i (by simp)) b hb
    obtain⟨f,hf,LS⟩:=ABV k (XG k (by simp [hk])) b hkb
    exact h.inj i k e f b (fun hx=>JM.1 (hx ▸ hk)) he hf heb LS
  exact this a.on JM (fun _ h=>h)
 ·intro b hb
  rw[ADR] at hb
  obtain⟨i,hi,hib⟩:=List.mem_flatMap.1 hb
  obtain⟨e,he,heb⟩:=ABV i hi b hib
  exact (ABU i hi e he b heb).2
end Go.V3
namespace Go.V3
open Go
variable {TB:Tb}
def CalleeRuns (P:Program) (f:FuncId):Prop:=∀ args w,(callFunc f args).run P w= .ok (.enter f args) w
def HT.left:(zas bs:List CT)->HT (zas++bs)->HT zas
 | [],_,_=>()
 | [_],bs,x=>HT.hd _ bs x
 |c::d::r,bs,x=>(x.1,HT.left (d::r) bs x.2)
def HT.right:(zas bs:List CT)->HT (zas++bs)->HT bs
 | [],_,x=>x
 |c::r,bs,x=>HT.right r bs (HT.tl c (r++bs) x)
inductive Sh where
 |one
 |NP (f:FuncId) (k:Nat)
 |pp (n:Nat)
def foldA:List Sh->List SV->List SV
 | [],vs=>vs
 | .one::r,v::vs=>v::foldA r vs
 | .one::_,[]=>[]
 | .NP f k::r,vs=> .NP f (vs.take k)::foldA r (vs.drop k)
 | .pp n::r,_::vs=> .loc n 0::foldA r vs
 | .pp _::_,[]=>[]
def XH (ne:Option NE) (o:Nat):Bool:=match ne with
 |some (.whole i)=>i==o
 |_=>false
def uU (AI:Nat->Option AO) (i:Nat):Option Nat:=match AI i with
 |some (.box [.loc j 0])=>some j
 |_=>none
def m7:SV->Option (FuncId×List SV)
 | .NP f cs=>some (f,cs)
 | .raw (.func (.func f) ⟨[]⟩ ⟨[]⟩)=>some (f,[])
 |_=>none
def OK (AI:Nat->Option AO):List Sh->List SV->Option (List SV)
 | [],vs=>some vs
 | .one::r,v::vs=>(match OK AI r vs with
  |some us=>some (v::us)
  |none=>none)
 | .one::_,[]=>none
 | .NP _ _::_,[]=>none
 | .NP f k::r,v::vs=>(match m7 v with
  |some (f',cs)=>if f' =f/\cs.length=k then (match OK AI r vs with
   |some us=>some (cs++us)
   |none=>none) else none
  |none=>none)
 | .pp _::_,[]=>none
 | .pp _::r,v::vs=>(match v with
  | .loc i off=>if off=0 then (match uU AI i,OK AI r vs with
   |some j,some us=>some (.loc j 0::us)
   |_,_=>none) else none
  |_=>none)
def ZI:List Sh->List SV->List (Nat×Nat)
 | .one::r,_::vs=>ZI r vs
 | .NP _ _::r,_::vs=>ZI r vs
 | .pp n::r,.loc i _::vs=>(n,i)::ZI r vs
 | .pp _::r,_::vs=>ZI r vs
 |_,_=>[]
theorem aV {v:SV} {f:FuncId} {cs:List SV} (h:m7 v=some (f,cs)) (E:Env):v.den E= .func (.func f) #[] (AH E cs).toArray:=by
 unfold m7 at h
 split at h
 ·simp only[AR,BP] at h
  obtain⟨rfl,rfl⟩:=h
  simp [SV.den]
 ·simp only[AR,BP] at h
  obtain⟨rfl,rfl⟩:=h
  rfl
 ·cases h
theorem AA8 {v:SV} {f:FuncId} {cs:List SV} (h:m7 v=some (f,cs)) {E:Env} {L:AE} (hv:v.wf E L):GV E L cs:=by
 unfold m7 at h
 split at h
 ·simp only[AR,BP] at h
  obtain⟨rfl,rfl⟩:=h
  simpa [SV.wf] using hv
 ·simp only[AR,BP] at h
  obtain⟨rfl,rfl⟩:=h
  trivial
 ·cases h
theorem XI {AI:Nat->Option AO} {E Em:Env}:∀ (sh:List Sh) (vs us uV :List SV),OK AI sh vs=some us->AH E us=AH Em uV ->(∀ q∈ZI sh vs,Em.nm q.1=E.nm q.2)->AH Em (foldA sh uV)=AH E vs
 | [],vs,us,uV,h,hd,_=>by simp only[OK,AR] at h;subst h;exact hd.symm
 | .one::r,[],us,uV,h,_,_=>by simp [OK] at h
 | .one::r,v::vs,us,uV,h,hd,hp=>by
  simp only[OK] at h
  split at h
  ·rename_i us1 hu
   simp only[AR] at h;subst h
   cases uV with
   |nil=>simp [AH] at hd
   |cons u ur=>
    simp only[AH,XV] at hd
    simp only[foldA,AH]
    rw[XI r vs us1 ur hu hd.2 hp,hd.1]
  ·cases h
 | .NP f k::r,[],us,uV,h,_,_=>by simp [OK] at h
 | .NP f k::r,v::vs,us,uV,h,hd,hp=>by
  simp only[OK] at h
  split at h
  ·rename_i f' cs hf
   split at h
   ·rename_i hc
    obtain⟨rfl,rfl⟩:=hc
    split at h
    ·rename_i us1 hu
     simp only[AR] at h;subst h
     have e1:AH Em (uV.take cs.length)=AH E cs:=by
      rw[CX,List.map_take,←CX,←hd,DO]
      have:(AH E cs).length=cs.length:=AL _
      rw[<-this,List.take_left]
     have e2:AH E us1=AH Em (uV.drop cs.length):=by
      rw[CX (E:=Em),List.map_drop,←CX,←hd,DO]
      have:(AH E cs).length=cs.length:=AL _
      rw[<-this,List.drop_left]
     simp only[foldA,AH,SV.den]
     rw[e1,XI r vs us1 _ hu e2 hp,aV hf E]
    ·cases h
   ·cases h
  ·cases h
 | .pp n::r,[],us,uV,h,_,_=>by simp [OK] at h
 | .pp n::r,v::vs,us,uV,h,hd,hp=>by
  simp only[OK] at h
  split at h
  ·rename_i i off
   split at h
   ·rename_i h0
    subst h0
    split at h
    ·rename_i j us1 hj hu
     simp only[AR] at h;subst h
     cases uV with
     |nil=>simp [AH] at hd
     |cons u ur=>
      simp only[AH,XV] at hd
      simp only[foldA,AH]
      rw[XI r vs us1 ur hu hd.2 (fun q hq=>hp q (by simp [ZI,hq]))]
      have:=hp (n,i) (by simp [ZI])
      simp only at this
      simp only[SV.den,this]
    ·cases h
   ·cases h
  ·cases h
theorem jH {AI:Nat->Option AO} {E:Env} {L:AE} (hb:∀ i j,uU AI i=some j->Al L j):∀ (sh:List Sh) (vs us:List SV),OK AI sh vs=some us->GV E L vs->GV E L us
 | [],vs,us,h,hw=>by simp only[OK,AR] at h;subst h;exact hw
 | .one::r,[],us,h,_=>by simp [OK] at h
 | .one::r,v::vs,us,h,hw=>by
  simp only[OK] at h
  split at h
  ·rename_i uV hu
   simp only[AR] at h;subst h
   exact⟨hw.1,jH hb r vs uV hu hw.2⟩
  ·cases h
 | .NP f k::r,[],us,h,_=>by simp [OK] at h
 | .NP f k::r,v::vs,us,h,hw=>by
  simp only[OK] at h
  split at h
  ·rename_i f' cs hf
   split at h
   ·rename_i hc
    split at h
    ·rename_i uV hu
     simp only[AR] at h;subst h
     have h1:=A3.1 (AA8 hf hw.1)
     have h2:=A3.1 (jH hb r vs uV hu hw.2)
     exact A3.2 fun v hv=>(DU.1 hv).elim (h1 v) (h2 v)
    ·cases h
   ·cases h
  ·cases h
 | .pp n::r,[],us,h,_=>by simp [OK] at h
 | .pp n::r,v::vs,us,h,hw=>by
  simp only[OK] at h
  split at h
  ·split at h
   ·split at h
    ·rename_i j us1 hj hu
     simp only[AR] at h;subst h
     exact⟨hb _ _ hj,jH hb r vs us1 hu hw.2⟩
    ·cases h
   ·cases h
  ·cases h
theorem aW {E:Env} {L:AE}:∀ (sh:List Sh) (vs:List SV),(∀ n,Sh.pp n∈sh->Al L n)->GV E L vs->GV E L (foldA sh vs)
 | [],_,_,h=>h
 | .one::_,[],_,_=>trivial
 | .one::r,v::vs,hp,h=>⟨h.1,aW r vs (fun n hn=>hp n (by simp [hn])) h.2⟩
 | .pp _::_,[],_,_=>trivial
 | .pp n::r,v::vs,hp,h=>⟨hp n (by simp),aW r vs (fun n hn=>hp n (by simp [hn])) h.2⟩
 | .NP f k::r,vs,hp,h=>by
  have hm:=A3.1 h
  exact⟨A3.2 fun v hv=>hm v (AFU hv),aW r _ (fun n hn=>hp n (by simp [hn])) (A3.2 fun v hv=>hm v (AFV hv))⟩
structure FnI where
 ps:List CT
 rs:List CT
 os:List CT
 bk:List Nat
 sh:List Sh:=[]
 pin:List (Nat×Nat×Nat×Nat):=[]
 cl:List (Nat×Ty):=[]
 X1:List (Nat×Nat):=[]
 ro:List Nat:=[]
 F:HT ps->Option (HT (rs++os))
def MP:List SV->SV
 | [v]=>v
 |vs=> .oO vs
def ID:List CT->Nat->List Nat
 | [],_=>[]
 |d::r,n=>n::ID r (n+d.cnt)
def VI:List CT->Nat->Nat->List (Nat×Nat)
 | [],_,_=>[]
 |d::r,a,b=>match d.ptr with
  |true=>(List.range d.t.EG).map (fun j=>(a+1+j,b+j))++VI r (a+d.cnt) (b+d.t.EG)
  |false=>VI r (a+d.cnt) b
theorem MQ:∀ (cs:List CT) (a b a' b' :Nat),VI cs (a+a') (b+b')=(VI cs a' b').map (fun q=>(a+q.1,b+q.2))
 | [],_,_,_,_=>rfl
 |d::r,a,b,a',b' =>by
  simp only[VI]
  cases d.ptr with
  |true=>
   simp only[tY,PL]
   rw[show a+a' +d.cnt=a+(a' +d.cnt) by omega,show b+b' +d.t.EG=b+(b' +d.t.EG) by omega,MQ r a b]
   congr 1
   apply VB
   intro j _
   simp only[Function.comp]
   congr 1 <;> omega
  |false=>
   simp only
   rw[show a+a' +d.cnt=a+(a' +d.cnt) by omega,MQ r a b]
def Ty.oV:Ty->Bool
 | .slice a=> !a.hO
 |_=>false
def okO (d:CT):Bool:=d.ptr||(d.own && !d.agg && d.t.oV)
def L9 (nes:List NE):List Nat->Option (List Nat)
 | []=>some []
 |q::r=>match nes[q]? with
  |some (.whole i)=>(match L9 nes r with
   |some l=>some (i::l)
   |none=>none)
  |_=>none
theorem aX {nes:List NE} (E:Env):∀ (bk is:List Nat),L9 nes bk=some is->bk.map (BU E nes)=is.map E.nm
 | [],is,h=>by simp only[L9,AR] at h;subst h;rfl
 |q::r,is,h=>by
  simp only[L9] at h
  split at h
  ·rename_i i hi
   split at h
   ·rename_i l hl
    simp only[AR] at h
    subst h
    simp only[OI,aX E r l hl]
    congr 1
    simp [BU,hi,NE.nm]
   ·cases h
  ·cases h
def EB (ms:Nat->Nm):Env:={ nm:=ms,ds:=fun _=>undef,ins:=⟨fun k=>(ms k).ins.l⟩ }
def AKN (X1:List (Nat×Nat)) (l:List Nat) (w:World) (ms:Nat->Nm):Prop:=∀ q∈X1,(ms q.1).A_<w.heap.size/\(ms q.1).A_∉l∧
 ∃ arr ty fz,w.heap[(ms q.1).A_]? =some (.cells arr ty fz)/\arr[(ms q.1).off]? =some (.pointer (some ⟨(ms q.2).A_,(ms q.2).off,none⟩))
def yJ (w w' :World) (b:Nat):Prop:=∃ arr ty xQ,w.heap[b]? =some (.cells arr ty (0,0))/\w'.heap[b]? =some (.cells arr xQ (0,0))
def CallsV (P:Program) (TB:Tb) (f:FuncId) (fi:FnI):Prop:=
 CalleeRuns P f/\∀ (x:HT fi.ps) (r:HT (fi.rs++fi.os)),fi.F x=some r->∀ (w:World) (G:Nat->Prop) (ms:Nat->Nm),(∀ b,G b->b<w.heap.size)→
  PS (⟨w,fun b=>b∈BA fi.ps x ms,G⟩:B4 TB) G w fi.ps x ms->(BA fi.ps x ms).Nodup->(⟨w,fun b=>b∈BA fi.ps x ms,G⟩:B4 TB).Tab->AKN fi.X1 (BA fi.ps x ms) w ms→
  Calls P f (AH (EB ms) (foldA fi.sh (outSVs fi.ps x 0))).toArray w (fun e w' =>∃ G' ms',e= .returned ((MP (outSVs fi.rs (HT.left fi.rs fi.os r) 0)).den (EB ms'))∧
   Rest w w' /\w.heap.size<=w'.heap.size/\(∀ b,b<w.heap.size->b∉BA fi.ps x ms->w'.heap[b]? =w.heap[b]?)∧
   (∀ b,G b->G' b)/\(∀ b,G' b->G b\/w.heap.size<=b\/b∈BA fi.ps x ms)/\(∀ b,G' b->b<w'.heap.size)∧
   PS (⟨w,fun b=>b∈BA fi.ps x ms,G⟩:B4 TB) G' w' (fi.rs++fi.os) r ms' /\(BA (fi.rs++fi.os) r ms').Nodup∧
   (ID fi.os (cnts fi.rs)).map ms' =fi.bk.map ms/\(∀ q∈fi.pin,ms' q.1=ms q.2.2.1)/\∀ i∈fi.ro,yJ w w' (ms i).A_)
def OL:List CT->Nat
 | []=>0
 |d::r=>(match d.ptr with
  |true=>d.t.EG
  |false=>0)+OL r
def nameAt (i:Nat):List AO->BH
 |e::_=>[(i,e)]
 | []=>[]
def C_:(cs:List CT)->HT cs->Nat->List Nat->BH
 | [],_,_,_=>[]
 |_::_,_,_,[]=>[]
 |d::r,x,n,i::is=>match d.ptr with
  |true=>BL n (A7 d.own d.t (HT.hd d r x))++ [(i,.box (E3 d.t (HT.hd d r x) n))]++C_ r (HT.tl d r x) (n+d.t.EG) is
  |false=>nameAt i (A7 d.own d.t (HT.hd d r x))++C_ r (HT.tl d r x) n is
def Ty.flat:Ty->Bool
 | .pair a b=>a.flat && b.flat
 | .slice a=>a.EG==0 && !a.hO
 | .sl _=>false
 |_=>true
def CT.aY (d:CT):Bool:=d.t.EG==0||(d.own && d.t.flat)
def FnI.md (fi:FnI):PM:=match (fi.rs++fi.os).all CT.aY with
 |true=> .S0
 |false=> .XD
def j6 (own:Bool):(t:Ty)->t.T->Bool
 | .pair a b,x=>j6 own a x.1 && j6 own b x.2
 | .slice a,x=>(x:List a.T).isEmpty||(own && a.EG==0 && !a.hO)
 | .sl _,_=>false
 |_,_=>true
def fH:(cs:List CT)->HT cs->Bool
 | [],_=>true
 |d::r,x=>j6 d.own d.t (HT.hd d r x) && fH r (HT.tl d r x)
def EC (AI:Nat->Option AO) (base n:Nat):Bool:=(List.range n).all fun k=>match AI (base+k) with
 |some .HP=>true
 |_=>false
def uW (k:Nat):BH->Option AO->Option AO
 | [],o=>o
 |(n,e)::r,o=>uW k r (if n=k then some e else o)
def m8 (k o:Nat):SV->SV
 | .H9 j=>if j=k then .H9 o else .H9 j
 |v=>v
def jI (k o i:Nat) (u:BH):BH:=match uW k u none,uW o u none,uW i u none with
 |some (.row t xs),some .dead,some (.box cs)=>u++ [(k,.dead),(o,.row t xs),(i,.box (cs.map (m8 k o)))]
 |_,_,_=>u
def KI (base:Nat) (nes:List NE) (on:List Nat):List (Nat×Nat×Nat×Nat)->BH->BH
 | [],u=>u
 |(_,b,j,jb)::r,u=>match nes[j]?,nes[jb]? with
  |some (.whole o),some (.whole i)=>(match on.contains o && on.contains i with
   |true=>KI base nes on r (jI (base+b) o i u)
   |false=>KI base nes on r u)
  |_,_=>KI base nes on r u
def uX (fi:FnI) (AI:Nat->Option AO) (vs:List SV) (nes:List NE) (on:List Nat):Bool:=
 (ZI fi.sh vs).all (fun q=>decide (cnts fi.ps<=q.1) && !on.contains q.2) && decide ((ZI fi.sh vs).map (·.1)).Nodup &&
 fi.X1.all fun p=>(ZI fi.sh vs).any (fun q=>q.1==p.1 && match uU AI q.2 with
  |some j=>XH nes[p.2]? j
  |none=>false)
def AA9 (fi:FnI):Bool:=fi.pin.all fun q=>(VI fi.os (cnts fi.rs) (cnts fi.rs)).contains (q.1,q.2.1)
def fI (fi:FnI) (base:Nat) (AI:Nat->Option AO) (args:List SV) {α:Type} (K:SV->BH->Option α):Option α:=
 match OK AI fi.sh args with
 |none=>none
 |some us=>match FU fi.md AI fi.ps us with
 |none=>none
 |some a=>match L9 a.nes fi.bk with
  |none=>none
  |some is=>match okA a && EC AI base (cnts fi.rs+OL fi.os) && (is.length==fi.os.length) && fi.os.all okO && (decide is.Nodup && is.all (fun i=>a.on.contains i)) && AA9 fi && uX fi AI args a.nes a.on with
   |true=>(fi.F a.x).bind fun r=>K (MP (outSVs fi.rs (HT.left fi.rs fi.os r) base))
     (KI base a.nes a.on fi.pin (a.BF++(B2 fi.rs (HT.left fi.rs fi.os r) base++C_ fi.os (HT.right fi.rs fi.os r) (base+cnts fi.rs) is)))
   |false=>none
def oW (fi:FnI) (base:Nat) (AI:Nat->Option AO) (args:List SV) {α:Type} (K:SV->BH->Option α):Option α:=
 match OK AI fi.sh args with
 |none=>none
 |some us=>match FU .S0 AI fi.ps us with
 |none=>none
 |some a=>match L9 a.nes fi.bk with
  |none=>none
  |some is=>match okA a && EC AI base (cnts fi.rs+OL fi.os) && (is.length==fi.os.length) && fi.os.all okO && (decide is.Nodup && is.all (fun i=>a.on.contains i)) && AA9 fi && uX fi AI args a.nes a.on with
   |true=>(fi.F a.x).bind fun r=>bif fH (fi.rs++fi.os) r then K (MP (outSVs fi.rs (HT.left fi.rs fi.os r) base))
     (KI base a.nes a.on fi.pin (a.BF++(B2 fi.rs (HT.left fi.rs fi.os r) base++C_ fi.os (HT.right fi.rs fi.os r) (base+cnts fi.rs) is)))
     else fI fi base AI args K
   |false=>none
theorem PS.split {c:B4 TB} {G:Nat->Prop} {w:World}:∀ (zas bs:List CT) (x:HT (zas++bs)) (ms:Nat->Nm),(PS c G w (zas++bs) x ms↔PS c G w zas (HT.left zas bs x) ms/\PS c G w bs (HT.right zas bs x) (fun k=>ms (cnts zas+k)))∧
  BA (zas++bs) x ms=BA zas (HT.left zas bs x) ms++BA bs (HT.right zas bs x) (fun k=>ms (cnts zas+k))
 | [],bs,x,ms=>by simp [PS,BA,cnts,HT.right]
 |d::r,bs,x,ms=>by
  have hh:HT.hd d r (HT.left (d::r) bs x)=HT.hd d (r++bs) x:=by cases r <;> rfl
  have ht:HT.tl d r (HT.left (d::r) bs x)=HT.left r bs (HT.tl d (r++bs) x):=by cases r <;> rfl
  obtain⟨i1,i2⟩:=PS.split (c:=c) (G:=G) (w:=w) r bs (HT.tl d (r++bs) x) (fun k=>ms (d.cnt+k))
  have e:(fun k=>ms (cnts (d::r)+k))=(fun k=>ms (d.cnt+(cnts r+k))):=by
   funext k;simp [cnts,I6]
  have k1:PS c G w (d::r++bs) x ms↔D0 c G w d (HT.hd d (r++bs) x) ms/\PS c G w (r++bs) (HT.tl d (r++bs) x) (fun k=>ms (d.cnt+k)):=Iff.rfl
  have k2:PS c G w (d::r) (HT.left (d::r) bs x) ms↔D0 c G w d (HT.hd d r (HT.left (d::r) bs x)) ms/\PS c G w r (HT.tl d r (HT.left (d::r) bs x)) (fun k=>ms (d.cnt+k)):=Iff.rfl
  have k3:BA (d::r++bs) x ms=IX d (HT.hd d (r++bs) x) ms++BA (r++bs) (HT.tl d (r++bs) x) (fun k=>ms (d.cnt+k)):=rfl
  have k4:BA (d::r) (HT.left (d::r) bs x) ms=IX d (HT.hd d r (HT.left (d::r) bs x)) ms++BA r (HT.tl d r (HT.left (d::r) bs x)) (fun k=>ms (d.cnt+k)):=rfl
  have k5:HT.right (d::r) bs x=HT.right r bs (HT.tl d (r++bs) x):=rfl
  rw[hh,ht] at k2 k4
  refine⟨?_, ?_⟩
  ·rw[k1,k2,k5,e,i1,and_assoc]
  ·rw[k3,k4,k5,e,i2,hD]
theorem D0.cfg {c c' :B4 TB} {G:Nat->Prop} {w:World} {d:CT} {x:d.t.T} {ms:Nat->Nm} (h:D0 c G w d x ms) (hc:∀ b,¬c.Old b->¬c'.Old b):D0 c' G w d x ms:=by
 refine⟨fun j e he=> ?_,fun hp=> ?_⟩
 ·have:=h.1 j e he
  cases e with
  |row t xs=>
   obtain⟨h1,h2,h3⟩:=this
   exact⟨h1,h2,h3.imp id fun ⟨a,b,c,d⟩=>⟨a,b,hc _ c,d⟩⟩
  |deep t xs q=>exact⟨this.1,this.2.cfg fun b hb=>hc _ (this.2.all b hb).2.1⟩
  |tree t1 t2 xs=>exact C0.cfg this fun b hb=>hc _ (this.all b hb).2.1
  |_=>exact this
 ·obtain⟨a,b,c,d,e⟩:=h.2 hp
  exact⟨a,b,c,hc _ d,e⟩
theorem PS.cfg {c c' :B4 TB} {G:Nat->Prop} {w:World} (hc:∀ b,¬c.Old b->¬c'.Old b):∀ (cs:List CT) {x:HT cs} {ms:Nat->Nm},PS c G w cs x ms->PS c' G w cs x ms
 | [],_,_,_=>trivial
 |_::r,_,_,h=>⟨h.1.cfg hc,PS.cfg hc r h.2⟩
theorem Rp.flat {G G' :Nat->Prop} {w:World} (t:Ty) (ht:t.EG=0) (x:t.T) (vs:List Value) (h:Rp G w t x vs):Rp G' w t x vs:=by
 induction t generalizing vs with
 |pair a b PH PI=>
  simp only[Ty.EG] at ht
  obtain⟨v1,v2,h0,h1,h2⟩:=h
  exact⟨v1,v2,h0,PH (by omega) _ _ h1,PI (by omega) _ _ h2⟩
 |slice a=>simp [Ty.EG] at ht
 |sl a=>simp [Ty.EG] at ht
 |_=>exact h
theorem ABW {t:Ty} (hf:t.flat=true) {x:t.T} {o:Bool} {j:Nat} {e:AO} (he:(A7 o t x)[j]? =some e):e= .dead\/∃ (a:Ty) (xs:List a.T),a.EG=0/\e=(if o=true then AO.row a xs else AO.shr a xs):=by
 induction t generalizing j with
 |pair a b PH PI=>
  simp only[Ty.flat,PG] at hf
  simp only[A7] at he
  by_cases hk:j<(A7 o a x.1).length
  ·rw[QE hk] at he;exact PH hf.1 he
  ·rw[OG (by omega)] at he;exact PI hf.2 he
 |slice a=>
  cases j with
  |zero=>
   simp only[A7,U9,AR] at he
   simp only[Ty.flat,PG,hM,Y9] at hf
   obtain⟨ha,U1⟩:=hf
   refine .inr ⟨a,x,ha, ?_⟩
   rw[<-he];cases o
   ·rfl
   ·exact IA U1 x
  |succ j=>simp [A7] at he
 |nf=>
  cases j with
  |zero=>simp only[A7,U9,AR] at he;exact .inl he.symm
  |succ j=>simp [A7] at he
 |sl a=>cases hf
 |_=>simp [A7] at he
theorem D0.aY {c:B4 TB} {G G' :Nat->Prop} {w:World} {d:CT} {x:d.t.T} {ms:Nat->Nm} (h:D0 c G w d x ms) (hd:d.aY=true) (hg:∀ b,G' b->G b):D0 c G' w d x ms:=by
 refine⟨fun j e he=> ?_,fun hp=> ?_⟩
 ·have hm:=h.1 j e he
  simp only[CT.aY,xZ,PG,hM] at hd
  rcases hd with hd|⟨ho,hf⟩
  ·exfalso
   have:(A7 d.own d.t x).length=0:=by rw[AW];exact hd
   rw[N8 (by omega)] at he;cases he
  ·rcases ABW hf he with rfl|⟨a,xs,ha,rfl⟩
   ·trivial
   rw[ho] at hm ⊢
   obtain⟨h1,h2,h3⟩:=hm
   refine⟨h1,h2,h3.imp id ?_⟩
   rintro⟨p1,p2,p3,p4,arr,ty,p5,p6,p7⟩
   exact⟨p1,fun hx=>p2 (hg _ hx),p3,p4,arr,ty,p5,p6,p7.imp fun x vs hx=>Rp.flat a ha x vs hx⟩
 ·obtain⟨a,b,c,d,e⟩:=h.2 hp
  exact⟨a,b,fun hx=>c (hg _ hx),d,e⟩
theorem PS.aY {c:B4 TB} {G G' :Nat->Prop} {w:World} (hg:∀ b,G' b->G b):∀ (cs:List CT) {x:HT cs} {ms:Nat->Nm},cs.all CT.aY=true->PS c G w cs x ms->PS c G' w cs x ms
 | [],_,_,_,_=>trivial
 |d::r,_,_,hd,h=>by
  simp only[x0,PG] at hd
  exact⟨h.1.aY hd.1 hg,PS.aY hg r hd.2 h.2⟩
theorem yK {own:Bool}:∀ (t:Ty) (x:t.T) {j:Nat} {e:AO},j6 own t x=true->(A7 own t x)[j]? =some e->e= .dead\/∃ (a:Ty) (xs:List a.T),(e=(match own with|true=>F3 a xs|false=> .shr a xs))/\(xs=[]\/(own=true/\a.EG=0/\a.hO=false)):=by
 intro t
 induction t with
 |pair a b PH PI=>
  intro x j e h he
  simp only[j6,PG] at h
  simp only[A7] at he
  by_cases hk:j<(A7 own a x.1).length
  ·rw[QE hk] at he;exact PH _ h.1 he
  ·rw[OG (by omega)] at he;exact PI _ h.2 he
 |slice a=>
  intro x j e h he
  cases j with
  |zero=>
   simp only[A7,U9,AR] at he
   refine .inr ⟨a,x,he.symm, ?_⟩
   simp only[j6,xZ,PG,hM,Y9] at h
   rcases h with h|⟨⟨h1,h2⟩,h3⟩
   ·exact .inl (List.isEmpty_iff.1 h)
   ·exact .inr ⟨h1,h2,h3⟩
  |succ j=>simp [A7] at he
 |nf=>
  intro x j e h he
  cases j with
  |zero=>simp only[A7,U9,AR] at he;exact .inl he.symm
  |succ j=>simp [A7] at he
 |sl a=>intro x j e h he;cases h
 |_=>intro x j e h he;simp [A7] at he
theorem D0.AAA {c:B4 TB} {G G' :Nat->Prop} {w:World} {d:CT} {x:d.t.T} {ms:Nat->Nm} (h:D0 c G w d x ms) (hd:j6 d.own d.t x=true) (hg:∀ b,G' b->G b):D0 c G' w d x ms:=by
 refine⟨fun j e he=> ?_,fun hp=> ?_⟩
 ·have hm:=h.1 j e he
  rcases yK d.t x hd he with rfl|⟨a,xs,rfl,hx⟩
  ·trivial
  cases ho:d.own with
  |false=>
   rw[ho] at hm
   rcases hx with rfl|⟨hx,_⟩
   ·obtain⟨h1,h2,_⟩:=hm
    exact⟨h1,h2,.inl rfl⟩
   ·rw[ho] at hx;cases hx
  |true=>
   rw[ho] at hm
   simp only at hm ⊢
   rcases hx with rfl|⟨_,ha,U1⟩
   ·cases a with
    |slice b=>
     obtain⟨e0,hm⟩:=hm
     refine⟨e0,⟨hm.len,hm.off,hm.nd,fun b hb=>⟨fun hx=>(hm.all b hb).1 (hg _ hx),(hm.all b hb).2⟩, ?_⟩⟩
     rcases hm.cs with hc|⟨q1,q2,q3,arr,ty,hs,q4,q5,q6,q7,q8,q9⟩
     ·exact .inl hc
     ·exact .inr ⟨q1,q2,q3,arr,ty,hs,q4,q5,q6,fun k xs hk=>by simp at hk,q8,q9⟩
    |kv=>exact hm.elim
    |pair a1 a2=>
     have key:∀ (q:AO),q=F3 (.pair a1 a2) []->aQ c G w (ms (d.pn+j)) q->aQ c G' w (ms (d.pn+j)) q:=by
      intro q hq hm
      have tK:(∃ t1 t2,q= .tree t1 t2 [])\/q= .row (.pair a1 a2) []:=by
       rw[hq]
       cases a1 <;> cases a2 <;> first|exact .inr rfl|exact .inl ⟨_,_,rfl⟩
      rcases tK with ⟨t1,t2,rfl⟩|rfl
      ·exact C0.nil hm hg
      ·obtain⟨h1,h2,h3⟩:=hm
       refine⟨h1,h2,h3.imp id ?_⟩
       rintro⟨p1,p2,p3,p4,arr,ty,p5,p6,p7⟩
       exact⟨p1,fun hx=>p2 (hg _ hx),p3,p4,arr,ty,p5,p6,fun i x hx=>by simp at hx⟩
     exact key _ rfl hm
    |_=>
     obtain⟨h1,h2,h3⟩:=hm
     refine⟨h1,h2,h3.imp id ?_⟩
     rintro⟨p1,p2,p3,p4,arr,ty,p5,p6,p7⟩
     exact⟨p1,fun hx=>p2 (hg _ hx),p3,p4,arr,ty,p5,p6,fun i x hx=>by simp at hx⟩
   ·rw[IA U1] at hm ⊢
    obtain⟨h1,h2,h3⟩:=hm
    refine⟨h1,h2,h3.imp id ?_⟩
    rintro⟨p1,p2,p3,p4,arr,ty,p5,p6,p7⟩
    exact⟨p1,fun hx=>p2 (hg _ hx),p3,p4,arr,ty,p5,p6,p7.imp fun x vs hx=>Rp.flat a ha x vs hx⟩
 ·obtain⟨a,b,c,d,e⟩:=h.2 hp
  exact⟨a,b,fun hx=>c (hg _ hx),d,e⟩
theorem PS.AAA {c:B4 TB} {G G' :Nat->Prop} {w:World} (hg:∀ b,G' b->G b):∀ (cs:List CT) {x:HT cs} {ms:Nat->Nm},fH cs x=true->PS c G w cs x ms->PS c G' w cs x ms
 | [],_,_,_,_=>trivial
 |d::r,_,_,hd,h=>by
  simp only[fH,PG] at hd
  exact⟨h.1.AAA hd.1 hg,PS.AAA hg r hd.2 h.2⟩
theorem fJ:∀ (cs:List CT) {x:HT cs} {ms ms' :Nat->Nm},(∀ k,k<cnts cs->ms' k=ms k)->BA cs x ms' =BA cs x ms
 | [],_,_,_,_=>rfl
 |d::r,x,ms,ms',he=>by
  simp only[BA]
  rw[fJ r (ms:=fun k=>ms (d.cnt+k)) (ms' :=fun k=>ms' (d.cnt+k)) (fun k hk=>he _ (by simp [cnts];omega))]
  congr 1
  unfold IX
  congr 1
  ·cases hp:d.ptr with
   |true=>simp only;rw[he 0 (by simp [cnts,CT.cnt,CT.pn,hp];omega)]
   |false=>rfl
  ·exact MO _ fun k hk=>he _ (by rw[AW] at hk;simp [cnts,CT.cnt];omega)
theorem AK.after {c:B4 TB} {G G' :Nat->Prop} {w w' :World} {E:Env} {L:AE} (h:AK c G w E L) (hr:Rest w w') (hs:w.heap.size<=w'.heap.size) (hold:∀ b,c.Old b->w'.heap[b]? =w.heap[b]?)
  (hG:∀ b,G b->w'.heap[b]? =w.heap[b]?) (hg:∀ b,G b->G' b) (hgi:∀ b,G' b->b<w'.heap.size) (hgh:∀ b,G' b->G b\/¬c.Old b)
  (DV:∀ n e b,look L n=some e->e.ow E n b->w'.heap[b]? =w.heap[b]?∧¬G' b):AK c G' w' E L:=
 ⟨h.rest.trans hr,Nat.le_trans h.size hs,fun b hb=>(hold b hb).trans (h.old b hb),hgi,fun b hb=>hg b (h.glo b hb),fun b hb=>(hgh b hb).elim (h.ghi b) .inr,
  fun n e he=>(h.F0 n e he).mono (fun _ h=>h) (fun _ _=>rfl) hG hg (fun b hb=>DV n e b he (.inl hb)) (fun ht b hb=>DV n e b he (AO.JU ht hb)),
  fun n t xss q he=>(h.dp n t xss q he).mono (fun _ h=>h) (fun _ _=>rfl) hG hg (fun b hb=>DV n _ b he (AO.C9.2 hb)),h.inj,h.tab⟩
theorem AK.j7 {c:B4 TB} {G:Nat->Prop} {w:World}:∀ (cs:List CT) {E:Env} {L:AE} (x:HT cs) {n:Nat} {ms:Nat->Nm} (is:List Nat),AK c G w E L->cs.all okO=true->is.length=cs.length→
  is.Nodup->(∀ j,j<OL cs->look L (n+j)=some .HP)->(∀ i∈is,look L i=some .dead)->(ID cs 0).map ms=is.map E.nm→
  PS c G w cs x ms->(BA cs x ms).Nodup->(∀ b∈BA cs x ms,FT E L b)→
  ∃ E',AK c G w E' (AD L (C_ cs x n is))/\(∀ k,Al L k->E'.nm k=E.nm k/\Al (AD L (C_ cs x n is)) k)/\E'.ds=E.ds/\(∀ k,¬(n<=k/\k<n+OL cs)->k∉is->look (AD L (C_ cs x n is)) k=look L k)/\∀ q∈VI cs 0 0,E'.nm (n+q.2)=ms q.1
 | [],E,L,x,n,ms,is,h,_,hl,_,_,_,_,_,_,_=>by
  exact⟨E,h,fun k hk=>⟨rfl,hk⟩,rfl,fun _ _ _=>rfl,fun q hq=>by cases hq⟩
 |d::r,E,L,x,n,ms,[],h,_,hl,_,_,_,_,_,_,_=>by simp at hl
 |d::r,E,L,x,n,ms,i::is,h,hp,hl,AIU,hrs,RF,ZJ,hps,JM,aS=>by
  simp only[x0,PG] at hp
  have shift:∀ (cs:List CT) (a b:Nat),(ID cs (a+b))=(ID cs b).map (fun k=>a+k):=by
   intro cs
   induction cs with
   |nil=>intros;rfl
   |cons e s ihs=>
    intro a b
    simp only[ID]
    rw[I6,ihs]
    simp
  have AAB:=hJ.1 AIU
  have hi0:=RF i (by simp)
  cases hpt:d.ptr with
  |false=>
   obtain⟨t,ag,ow,pt⟩:=d
   simp only at hpt
   subst hpt
   have XZ:=hp.1
   simp only[okO,Bool.false_or,PG,Y9] at XZ
   obtain⟨⟨rfl,rfl⟩,U1⟩:=XZ
   cases t with
   |slice a=>
    obtain⟨⟨hc1, -⟩,AIV⟩:=hps
    have qQ:(CT.mk (.slice a) false true false).cnt=1:=rfl
    have U1:a.hO=false:=by simpa [Ty.oV] using U1
    have hen:A7 true (.slice a) (HT.hd (CT.mk (.slice a) false true false) r x)=[.row a (HT.hd (CT.mk (.slice a) false true false) r x)]:=by
     show [F3 a _]=_
     rw[IA U1]
    have aZ:aQ c G w (ms 0) (.row a (HT.hd (CT.mk (.slice a) false true false) r x)):=hc1 0 _ (by show (A7 true (.slice a) _)[0]? =_;rw[hen];rfl)
    have hoc:BA (CT.mk (.slice a) false true false::r) x ms=((AO.row a (HT.hd (CT.mk (.slice a) false true false) r x)).own (ms 0)).toList++BA r (HT.tl (CT.mk (.slice a) false true false) r x) (fun k=>ms (1+k)):=by
     show (([]++DX (A7 true (.slice a) (HT.hd (CT.mk (.slice a) false true false) r x)) (fun j=>ms (0+j)))++_)=_
     rw[hen]
     show (([]++(((AO.row a (HT.hd (CT.mk (.slice a) false true false) r x)).own (ms 0)).toList++ []))++_)=_
     simp
     rfl
    rw[hoc] at JM aS
    have RB:=SQ.1 JM
    simp only[ID,OI,XV] at ZJ
    obtain⟨uY,ADS⟩:=ZJ
    have CP:=AJ hi0
    have A8:=fun k=>AT (q:=(i,AO.row a (HT.hd (CT.mk (.slice a) false true false) r x))) CP k
    have hEi:E.set i (ms 0)=E:=by
     refine GW (fun k=> ?_) rfl (fun _=>rfl)
     by_cases hk:k=i
     ·subst hk;rw[Env.B6,uY]
     ·exact Env.DR _ _ hk
    have h3:=h.change (i:=i) (e' := .row a (HT.hd (CT.mk (.slice a) false true false) r x)) (m:=ms 0) (w' :=w) CP (.refl _) (HE _) (fun _=>uY) rfl (fun _ _ _=>rfl)
     (fun b hb=>by have:=aQ.jZ (e:= .row a _) aZ (AO.uM hb);exact⟨this.1,this.2.1⟩)
     (by
      intro k f hk hf b hb he
      exact aS b (DU.2 (.inl (by rw[he];simp))) k f hf hb)
     (by intro _;exact aZ)
    rw[hEi] at h3
    have AIW:∀ b∈BA r (HT.tl (CT.mk (.slice a) false true false) r x) (fun k=>ms (1+k)),FT E (BS L (i,AO.row a (HT.hd (CT.mk (.slice a) false true false) r x))) b:=by
     intro b hb k f hf LS
     rw[A8] at hf
     by_cases X9:k=i
     ·subst X9
      simp only[GJ,AR] at hf;subst hf
      rw[AO.XB rfl,←uY] at LS
      exact RB.2.2 b (by rw[LS];simp) b hb rfl
     ·rw[BC X9] at hf
      exact aS b (DU.2 (.inr hb)) k f hf LS
    have yL :(ID r 0).map (fun k=>ms (1+k))=is.map E.nm:=by
     rw[<-ADS]
     have e:=shift r 1 0
     rw[JK] at e
     rw[qQ,KB,e,PL]
     rfl
    obtain⟨E',k1,k2,k3,k4,k5⟩:=AK.j7 r (HT.tl (CT.mk (.slice a) false true false) r x) (n:=n) (ms:=fun k=>ms (1+k)) is h3 hp.2 (by simpa using hl) AAB.2
     (by
      intro j hj
      rw[A8]
      have hr:=hrs j (by simp [OL];omega)
      have KF:¬(n+j=i):=by
       intro hx;rw[hx,hi0] at hr;cases hr
      rw[BC KF];exact hr)
     (by
      intro k hk
      have X9:¬k=i:=fun hx=>AAB.1 (hx ▸ hk)
      rw[A8,BC X9];exact RF k (by simp [hk]))
     yL AIV RB.2.1 AIW
    have eu:AD L (C_ (CT.mk (.slice a) false true false::r) x n (i::is))=AD (BS L (i,AO.row a (HT.hd (CT.mk (.slice a) false true false) r x))) (C_ r (HT.tl (CT.mk (.slice a) false true false) r x) n is):=by
     simp only[C_,A0]
     rw[show nameAt i (A7 (CT.mk (.slice a) false true false).own (CT.mk (.slice a) false true false).t (HT.hd (CT.mk (.slice a) false true false) r x))=[(i,AO.row a (HT.hd (CT.mk (.slice a) false true false) r x))] from by rw[hen];rfl]
     rfl
    rw[eu]
    refine⟨E',k1,fun k hk=>k2 k (A1 rfl k hk),k3,fun k hk yM=> ?_,fun q hq=> ?_⟩
    ·simp only[OL] at hk
     simp only[MK,not_or] at yM
     rw[k4 k (by omega) yM.2,A8,BC yM.1]
    ·have e:=MQ r 1 0 0 0
     simp only[VI,qQ] at hq
     rw[JK,JK] at e
     rw[KB,e] at hq
     obtain⟨q',VJ,rfl⟩:=DB.1 hq
     have:=k5 q' VJ
     simp only[KB]
     exact this
   |_=>simp [Ty.oV] at U1
  |true=>
  have hpn:d.pn=1:=by simp [CT.pn,hpt]
  have qQ:d.cnt=1+d.t.EG:=by simp [CT.cnt,hpn]
  obtain⟨⟨hc1,uO⟩,AIV⟩:=hps
  obtain⟨b1,b2,b3,b4,ty,b5⟩:=uO hpt
  rw[hpn] at hc1 b5
  have RB:=SQ.1 JM
  have hoc:IX d (HT.hd d r x) ms=(ms 0).A_::DX (A7 d.own d.t (HT.hd d r x)) (fun j=>ms (1+j)):=by
   unfold IX;rw[hpn,hpt];rfl
  rw[hoc] at RB
  simp only[ID,OI,XV] at ZJ
  obtain⟨uY,ADS⟩:=ZJ
  have ADT:=hJ.1 RB.1
  have U1:∀ j,j<d.t.EG->look L (n+j)=some .HP:=fun j hj=>hrs j (by simp [OL,hpt];omega)
  obtain⟨h1,h2⟩:=h.aR (A7 d.own d.t (HT.hd d r x)) (n:=n) (ms:=fun j=>ms (1+j)) (fun j hj=>U1 j (by rw[AW] at hj;exact hj)) hc1 ADT.2
   (fun b hb=>aS b (DU.2 (.inl (by rw[hoc];exact m0 _ hb))))
  rw[AW] at h1 h2
  have ANB:¬(n<=i/\i<n+d.t.EG):=by
   intro hx
   have:=U1 (i-n) (by omega)
   have e:n+(i-n)=i:=by omega
   rw[e,hi0] at this;cases this
  have hi1:look (AD L (BL n (A7 d.own d.t (HT.hd d r x)))) i=some .dead:=by rw[h2,BC ANB];exact hi0
  have CP:=AJ hi1
  have A8:=fun k=>AT (q:=(i,AO.box (E3 d.t (HT.hd d r x) n))) CP k
  have hEi:(E.put n d.t.EG (fun j=>ms (1+j))).nm i=ms 0:=by
   rw[Env.PX _ _ _ _ (by omega),←uY]
  have ABX:∀ k,Al L k->Al (AD L (BL n (A7 d.own d.t (HT.hd d r x)))) k:=by
   intro k hk
   by_cases hkn:n<=k/\k<n+d.t.EG
   ·exfalso
    have:=U1 (k-n) (by omega)
    have e:n+(k-n)=k:=by omega
    rw[e] at this
    exact CJ this hk
   ·obtain⟨e,oT,he2⟩:=hk
    exact⟨e,by rw[h2,BC hkn];exact oT,he2⟩
  have fG:GV (E.put n d.t.EG (fun j=>ms (1+j))) (BS (AD L (BL n (A7 d.own d.t (HT.hd d r x)))) (i,AO.box (E3 d.t (HT.hd d r x) n))) (E3 d.t (HT.hd d r x) n):=by
   refine j3 _ _ _ fun j hj=>A1 rfl _ ?_
   have CP:j<(A7 d.own d.t (HT.hd d r x)).length:=by rw[AW];exact hj
   refine⟨(A7 d.own d.t (HT.hd d r x))[j], ?_,RA (KA CP)⟩
   rw[h2,BQ ⟨by omega,by omega⟩]
   have e:n+j-n=j:=by omega
   rw[e,KA CP]
  have AKO:(E.put n d.t.EG (fun j=>ms (1+j))).set i (ms 0)=E.put n d.t.EG (fun j=>ms (1+j)):=by
   refine GW (fun k=> ?_) rfl (fun _=>rfl)
   by_cases hk:k=i
   ·subst hk;rw[Env.B6,hEi]
   ·exact Env.DR _ _ hk
  have h3:=h1.change (i:=i) (e' := .box (E3 d.t (HT.hd d r x) n)) (m:=ms 0) (w' :=w) CP (.refl _) (HE _) (fun _=>hEi.symm) rfl (fun _ _ _=>rfl)
   (fun b hb=>by simp only[AO.own,AR] at hb;subst hb;exact⟨b4,b3⟩)
   (by
    intro k f hk hf b hb he
    simp only[AO.own,AR] at he
    subst he
    rw[h2] at hf
    by_cases PJ:n<=k/\k<n+d.t.EG
    ·rw[BQ PJ] at hf
     have e:k=n+(k-n):=by omega
     rw[e,AO.VF (by omega)] at hb
     exact ADT.1 (E9 _ _ (fun j=>ms (1+j)) hf hb)
    ·rw[BC PJ] at hf
     rw[AO.dV (by omega)] at hb
     exact aS _ (DU.2 (.inl (by rw[hoc];simp))) k f hf hb)
   (by
    intro _
    rw[AKO]
    refine⟨b1,b2,b3,b4,⟨ty, ?_⟩,fG⟩
    rw[b5,SZ]
    congr 3
    apply E5
    intro j hj
    exact (Env.ZH E n d.t.EG (fun j=>ms (1+j)) hj).symm)
  rw[AKO] at h3
  have AIW:∀ b∈BA r (HT.tl d r x) (fun k=>ms (d.cnt+k)),FT (E.put n d.t.EG (fun j=>ms (1+j))) (BS (AD L (BL n (A7 d.own d.t (HT.hd d r x)))) (i,AO.box (E3 d.t (HT.hd d r x) n))) b:=by
   intro b hb k f hf LS
   rw[A8] at hf
   by_cases X9:k=i
   ·subst X9
    simp only[GJ,AR] at hf;subst hf
    rw[AO.XB rfl,hEi] at LS
    simp only[AO.own,AR] at LS
    exact RB.2.2 _ (by simp) b hb LS
   ·rw[BC X9,h2] at hf
    by_cases PJ:n<=k/\k<n+d.t.EG
    ·rw[BQ PJ] at hf
     have e:k=n+(k-n):=by omega
     rw[e,AO.VF (by omega)] at LS
     exact RB.2.2 b (m0 _ (E9 _ _ (fun j=>ms (1+j)) hf LS)) b hb rfl
    ·rw[BC PJ] at hf
     rw[AO.dV (by omega)] at LS
     exact aS b (DU.2 (.inr hb)) k f hf LS
  have yL :(ID r 0).map (fun k=>ms (d.cnt+k))=is.map E.nm:=by
   rw[<-ADS]
   have e:=shift r d.cnt 0
   rw[JK] at e
   rw[KB,e,PL]
   rfl
  obtain⟨E',k1,k2,k3,k4,k5⟩:=AK.j7 r (HT.tl d r x) (n:=n+d.t.EG) (ms:=fun k=>ms (d.cnt+k)) is h3 hp.2 (by simpa using hl) AAB.2
   (by
    intro j hj
    rw[A8]
    have hr:=hrs (d.t.EG+j) (by simp [OL,hpt];omega)
    rw[<-I6] at hr
    have KF:¬(n+d.t.EG+j=i):=by
     intro hx;rw[hx,hi0] at hr;cases hr
    rw[BC KF,h2,BC (by omega)]
    exact hr)
   (by
    intro k hk
    have X9:¬k=i:=fun hx=>AAB.1 (hx ▸ hk)
    have hd:=RF k (by simp [hk])
    rw[A8,BC X9,h2,BC]
    ·exact hd
    ·intro hx
     have:=U1 (k-n) (by omega)
     have e:n+(k-n)=k:=by omega
     rw[e,hd] at this;cases this)
   (by
    rw[yL]
    apply VB
    intro k hk
    have hd:=RF k (by simp [hk])
    refine (Env.PX _ _ _ _ ?_).symm
    rcases GR k n with CP|hge
    ·exact .inl CP
    ·right
     rcases GR k (n+d.t.EG) with yE|ADO
     ·exfalso
      have:=U1 (k-n) (by omega)
      have e:n+(k-n)=k:=by omega
      rw[e,hd] at this;cases this
     ·exact ADO) AIV RB.2.1 AIW
  have eu:AD L (C_ (d::r) x n (i::is))=AD (BS (AD L (BL n (A7 d.own d.t (HT.hd d r x)))) (i,AO.box (E3 d.t (HT.hd d r x) n))) (C_ r (HT.tl d r x) (n+d.t.EG) is):=by
   simp only[C_,hpt,A0]
   rfl
  rw[eu]
  refine⟨E',k1,fun k hk=> ?_,by rw[k3];rfl,fun k hk yM=> ?_,fun q hq=> ?_⟩
  ·obtain⟨q1,q2⟩:=k2 k (A1 rfl k (ABX k hk))
   refine⟨q1.trans (Env.PX _ _ _ _ ?_),q2⟩
   rcases GR k n with CP|hge
   ·exact .inl CP
   ·right
    rcases GR k (n+d.t.EG) with yE|ADO
    ·exfalso
     have:=U1 (k-n) (by omega)
     have e:n+(k-n)=k:=by omega
     rw[e] at this
     exact CJ this hk
    ·exact ADO
  ·simp only[OL,hpt] at hk
   simp only[MK,not_or] at yM
   rw[k4 k (by omega) yM.2,A8,BC yM.1,h2,BC (by omega)]
  ·simp only[VI,hpt] at hq
   rcases DU.1 hq with hq|hq
   ·obtain⟨j,hj,rfl⟩:=DB.1 hq
    have hj:=tZ.1 hj
    simp only[KB]
    have AKP:j<(A7 d.own d.t (HT.hd d r x)).length:=by rw[AW];exact hj
    have I8:Al (AD L (BL n (A7 d.own d.t (HT.hd d r x)))) (n+j):=by
     refine⟨(A7 d.own d.t (HT.hd d r x))[j], ?_,RA (KA AKP)⟩
     rw[h2,BQ ⟨by omega,by omega⟩]
     have e:n+j-n=j:=by omega
     rw[e,KA AKP]
    rw[(k2 (n+j) (A1 rfl _ I8)).1,Env.ZH _ _ _ _ hj]
   ·have e:=MQ r d.cnt d.t.EG 0 0
    rw[JK,JK] at e
    rw[KB,KB,e] at hq
    obtain⟨q',VJ,rfl⟩:=DB.1 hq
    have:=k5 q' VJ
    rw[I6] at this
    exact this
end Go.V3
namespace Go.V3
open Go
variable {TB:Tb}
def Hd (c:B4 TB) (w:World) (E:Env) (L:AE):Prop:=∃ G,AK c G w E L
theorem oX {b:Nat}:∀ (es:List AO) (ms:Nat->Nm),b∈DX es ms->∃ (j:Nat) (e:AO),es[j]? =some e/\b∈e.QH (ms j)
 | [],ms,h=>by simp [DX] at h
 |e::r,ms,h=>by
  simp only[DX] at h
  rcases DU.1 h with h|h
  ·exact⟨0,e,rfl,h⟩
  ·obtain⟨j,f,h1,h2⟩:=oX r _ h
   exact⟨j+1,f,by simpa using h1,h2⟩
theorem D0.jZ {c:B4 TB} {G:Nat->Prop} {w:World} {d:CT} {x:d.t.T} {ms:Nat->Nm} (h:D0 c G w d x ms) {b:Nat} (hb:b∈IX d x ms):¬c.Old b/\¬G b/\b<w.heap.size:=by
 unfold IX at hb
 rcases DU.1 hb with hb|hb
 ·cases hp:d.ptr with
  |true=>
   rw[hp] at hb
   simp only[LA] at hb
   subst hb
   obtain⟨h1,h2,h3,h4,ty,h5⟩:=h.2 hp
   refine⟨h4,h3, ?_⟩
   rcases GR (ms 0).A_ w.heap.size with h6|h6
   ·exact h6
   ·rw[tW h6] at h5;cases h5
  |false=>rw[hp] at hb;cases hb
 ·obtain⟨j,e,h1,h2⟩:=oX _ _ hb
  exact (h.1 j e h1).jZ h2
theorem PS.jZ {c:B4 TB} {G:Nat->Prop} {w:World} {b:Nat}:∀ (cs:List CT) {x:HT cs} {ms:Nat->Nm},PS c G w cs x ms->b∈BA cs x ms->¬c.Old b/\¬G b/\b<w.heap.size
 | [],_,_,_,hb=>by cases hb
 |d::r,_,_,h,hb=>by
  rcases DU.1 hb with hb|hb
  ·exact h.1.jZ hb
  ·exact PS.jZ r h.2 hb
theorem D0.io {c:B4 TB} {G:Nat->Prop} {w:World} {d:CT} {x:d.t.T} {ms:Nat->Nm} (h:D0 c G w d x ms) (c' :B4 TB) (hc:∀ b∈IX d x ms,¬c'.Old b):D0 c' G w d x ms:=by
 refine⟨fun j e he=> ?_,fun hp=> ?_⟩
 ·have hm:=h.1 j e he
  cases e with
  |row t xs=>
   obtain⟨h1,h2,h3⟩:=hm
   refine⟨h1,h2,h3.imp id fun ⟨a,b,_,d'⟩=>⟨a,b,hc _ ?_,d'⟩⟩
   refine DU.2 (.inr (E9 _ j _ he (AO.uM ?_)))
   simp [AO.own,a]
  |deep t xs q=>exact⟨hm.1,hm.2.cfg fun b hb=>hc b (DU.2 (.inr (E9 _ j _ he hb)))⟩
  |tree t1 t2 xs=>exact C0.cfg hm fun b hb=>hc b (DU.2 (.inr (E9 _ j _ he hb)))
  |_=>exact hm
 ·obtain⟨a,b,c1,d1,e⟩:=h.2 hp
  refine⟨a,b,c1,hc _ ?_,e⟩
  unfold IX
  rw[hp]
  simp
theorem PS.io {c:B4 TB} {G:Nat->Prop} {w:World} (c' :B4 TB):∀ (cs:List CT) {x:HT cs} {ms:Nat->Nm},PS c G w cs x ms->(∀ b∈BA cs x ms,¬c'.Old b)->PS c' G w cs x ms
 | [],_,_,_,_=>trivial
 |d::r,_,_,h,hc=>⟨h.1.io c' fun b hb=>hc b (DU.2 (.inl hb)),PS.io c' r h.2 fun b hb=>hc b (DU.2 (.inr hb))⟩
theorem ABY (d:CT) (x:d.t.T) {E E2:Env} {n m:Nat} (h:∀ k,k<d.cnt->E.nm (n+k)=E2.nm (m+k)):(OJ d x n).den E=(OJ d x m).den E2:=by
 unfold CT.cnt CT.pn at h
 unfold OJ
 cases hp:d.ptr with
 |true=>
  rw[hp] at h
  have h0:=h 0 (by simp;omega)
  simp only[JK] at h0
  simp only[SV.den,h0]
 |false=>
  rw[hp] at h
  simp only[KB] at h
  have hu:AH E (E3 d.t x n)=AH E2 (E3 d.t x m):=by
   rw[SZ,SZ]
   exact E5 _ _ fun k hk=>h k hk
  cases d.agg with
  |true=>simp only[SV.den,hu]
  |false=>
   simp only
   cases h1:E3 d.t x n with
   |nil=>
    have:(E3 d.t x n).length=(E3 d.t x m).length:=by rw[CW,CW]
    rw[h1] at this
    cases h2:E3 d.t x m with
    |nil=>rfl
    |cons _ _=>rw[h2] at this;simp at this
   |cons v r=>
    cases h2:E3 d.t x m with
    |nil=>
     have:(E3 d.t x n).length=(E3 d.t x m).length:=by rw[CW,CW]
     rw[h1,h2] at this;simp at this
    |cons v' r' =>
     rw[h1,h2] at hu
     simp only[AH,XV] at hu
     exact hu.1
theorem j8:∀ (cs:List CT) (x:HT cs) {E E2:Env} {n m:Nat},(∀ k,k<cnts cs->E.nm (n+k)=E2.nm (m+k))->AH E (outSVs cs x n)=AH E2 (outSVs cs x m)
 | [],_,_,_,_,_,_=>rfl
 |d::r,x,E,E2,n,m,h=>by
  simp only[outSVs,AH]
  rw[ABY d _ (fun k hk=>h k (by simp [cnts];omega)),j8 r _ (n:=n+d.cnt) (m:=m+d.cnt) (fun k hk=>by rw[I6,I6];exact h _ (by simp [cnts];omega))]
theorem oY {l l2:List SV} {E E2:Env} (h:AH E l=AH E2 l2):(MP l).den E=(MP l2).den E2:=by
 match l,l2 with
 | [],[]=>rfl
 | [],_::_=>simp [AH] at h
 |_::_,[]=>simp [AH] at h
 | [v],[v2]=>simp only[AH,XV] at h;exact h.1
 | [v],_::_::_=>simp [AH] at h
 |_::_::_,[v]=>simp [AH] at h
 |_::_::_,_::_::_=>simp only[MP,SV.den,h]
theorem ADU {l:List SV} {E:Env} {L:AE} (h:GV E L l):(MP l).wf E L:=by
 match l with
 | []=>exact h
 | [v]=>exact h.1
 |_::_::_=>exact h
theorem BI {AI:Nat->Option AO} {base n:Nat} (h:EC AI base n=true):∀ j,j<n->AI (base+j)=some .HP:=by
 intro j hj
 simp only[EC,Q7,tZ] at h
 have:=h j hj
 split at this
 ·assumption
 ·cases this
theorem a7 (j:Nat):∀ (u:BH) (L:AE) (o:Option AO) {e:AO},(∀ e,o=some e->look L j=some e)->j<L.length->uW j u o=some e->look (AD L u) j=some e
 | [],L,o,e,ho,_,h=>ho e h
 |(n,f)::r,L,o,e,ho,hj,h=>by
  refine a7 j r (BS L (n,f)) _ (fun e' h' => ?_) (by rw[DG];exact hj) h
  split at h'
  ·rename_i hn
   subst hn
   simp only[AR] at h'
   subst h'
   rw[AT hj,BQ rfl]
  ·rename_i hn
   have:=ho e' h'
   by_cases hq:n<L.length
   ·rw[AT hq,BC (fun he=>hn he.symm)];exact this
   ·unfold BS
    rw[N8 (by simpa using hq)]
    exact this
theorem ADV {E:Env} {k o:Nat} (h:E.nm k=E.nm o) (v:SV):(m8 k o v).den E=v.den E:=by
 cases v with
 |H9 j=>
  simp only[m8]
  split
  ·rename_i hj;subst hj;simp only[SV.den,h]
  ·rfl
 |_=>rfl
theorem AGM {E:Env} {L:AE} {k o:Nat} (h:Al L o) {v:SV} (hv:v.wf E L):(m8 k o v).wf E L:=by
 cases v with
 |H9 j=>
  simp only[m8]
  split
  ·exact h
  ·exact hv
 |_=>exact hv
theorem VK (E:Env) (i:Nat):E.set i (E.nm i)=E:=by
 refine GW (fun k=> ?_) rfl (fun _=>rfl)
 by_cases hk:k=i
 ·subst hk;rw[Env.B6]
 ·exact E.DR _ hk
theorem AK.RG {c:B4 TB} {G:Nat->Prop} {w:World} {E:Env} {L:AE} (h:AK c G w E L) {k o:Nat} {t:Ty} {xs:List t.T} (hk:look L k=some (.row t xs)) (ho:look L o=some .dead) (he:E.nm k=E.nm o):
  AK c G w E (BS (BS L (k,.dead)) (o,.row t xs)):=by
 have hkl:=AJ hk
 have hol:=AJ ho
 have KF:o≠k:=by intro hx;subst hx;rw[hk] at ho;cases ho
 have h1:=h.kill hkl
 have DV:∀ b,(AO.row t xs).own (E.nm o)=some b->(AO.row t xs).ow E k b:=fun b hb=> .inl (by rw[he];exact hb)
 have h2:=h1.change (i:=o) (e' := .row t xs) (m:=E.nm o) (w' :=w) (by rw[DG];exact hol) (.refl _) (HE _) (fun _=>rfl) rfl (fun _ _ _=>rfl)
  (fun b hb=>⟨(h.KE hk (DV b hb)).2.1,(h.KE hk (DV b hb)).1⟩)
  (fun n f hn hf b hb hx=>by
   rw[AT hkl] at hf
   by_cases hnk:n=k
   ·rw[BQ hnk] at hf
    simp only[AR] at hf
    subst hf
    rcases hb with hb|⟨hb,_⟩|⟨hb,_⟩ <;> cases hb
   ·rw[BC hnk] at hf
    exact h.inj n k f _ b hnk hf hk hb (DV b hx))
  (fun _=>by
   have:=h.F0 k _ hk
   rw[he] at this
   exact this)
 rw[VK] at h2
 exact h2
theorem AK.AKQ {c:B4 TB} {G:Nat->Prop} {w:World} {E:Env} {L:AE} (h:AK c G w E L) {i:Nat} {cs ZF :List SV} (hi:look L i=some (.box cs)) (hd:AH E ZF =AH E cs) (hw:GV E (BS L (i,.box ZF)) ZF):
  AK c G w E (BS L (i,.box ZF)):=by
 obtain⟨h1,h2,h3,h4,⟨ty,h5⟩,h6⟩:=h.F0 i _ hi
 have:=h.change (i:=i) (e' := .box ZF) (m:=E.nm i) (w' :=w) (AJ hi) (.refl _) (HE _) (fun _=>rfl) rfl (fun _ _ _=>rfl)
  (fun b hb=>by simp only[AO.own,AR] at hb;subst hb;exact⟨h4,h3⟩)
  (fun k f hk hf b hb he=>h.inj k i f (.box cs) b hk hf hi hb (.inl (by simpa [AO.own] using he)))
  (fun _=>by rw[VK];exact⟨h1,h2,h3,h4,⟨ty,by rw[hd];exact h5⟩,hw⟩)
 rw[VK] at this
 exact this
theorem oZ {c:B4 TB} {G:Nat->Prop} {w:World} {E:Env} {L:AE} (h:AK c G w E L) {k o i:Nat} {t:Ty} {xs:List t.T} {cs:List SV} (hk:look L k=some (.row t xs)) (ho:look L o=some .dead) (hi:look L i=some (.box cs)) (he:E.nm k=E.nm o):
  AK c G w E (AD L [(k,.dead),(o,.row t xs),(i,.box (cs.map (m8 k o)))])/\∀ n,Al L n->Al (AD L [(k,.dead),(o,.row t xs),(i,.box (cs.map (m8 k o)))]) n:=by
 have h1:=h.RG hk ho he
 have hik:i≠k:=by intro hx;subst hx;rw[hk] at hi;cases hi
 have hio:i≠o:=by intro hx;subst hx;rw[ho] at hi;cases hi
 have hi1:look (BS (BS L (k,.dead)) (o,.row t xs)) i=some (.box cs):=by
  rw[AT (by rw[DG];exact AJ ho),BC hio,AT (AJ hk),BC hik];exact hi
 have dL:∀ n,Al (BS (BS L (k,.dead)) (o,.row t xs)) n->Al (BS (BS (BS L (k,.dead)) (o,.row t xs)) (i,.box (cs.map (m8 k o)))) n:=fun n hn=>A1 rfl n hn
 have AIX:∀ n,Al L n->Al (BS (BS L (k,.dead)) (o,.row t xs)) n:=fun n hn=>A1 rfl n (A1 rfl n hn)
 have VL:AH E (cs.map (m8 k o))=AH E cs:=by
  rw[CX,CX,PL]
  apply VB
  intro v _
  exact ADV he v
 have fG:=(h.F0 i _ hi).2.2.2.2.2
 refine⟨h1.AKQ hi1 VL (A3.2 fun v hv=> ?_),fun n hn=>dL n (AIX n hn)⟩
 obtain⟨u,hu,rfl⟩:=DB.1 hv
 refine AGM (dL o (AIX o ⟨_,ho,rfl⟩)) ?_
 exact (QG (fun n hn=>dL n (AIX n hn)) (fun _ _=>rfl) u (A3.1 fG u hu)).1
theorem yN {c:B4 TB} {w:World} {E:Env} {L:AE} {u:BH} (h:Hd c w E (AD L u)) {k o i:Nat} (he:E.nm k=E.nm o) (hk:k<L.length) (ho:o<L.length) (hi:i<L.length):
  Hd c w E (AD L (jI k o i u))/\∀ n,Al (AD L u) n->Al (AD L (jI k o i u)) n:=by
 unfold jI
 split
 ·rename_i t xs cs h1 h2 h3
  obtain⟨G,hG⟩:=h
  obtain⟨r1,r2⟩:=oZ hG (a7 k u L none (fun _ hx=>by cases hx) hk h1) (a7 o u L none (fun _ hx=>by cases hx) ho h2) (a7 i u L none (fun _ hx=>by cases hx) hi h3) he
  rw[A0]
  exact⟨⟨G,r1⟩,r2⟩
 ·exact⟨h,fun _ hn=>hn⟩
theorem XJ {c:B4 TB} {w:World} {E:Env} {L:AE} {base:Nat} {nes:List NE} {on:List Nat} (hon:∀ i∈on,i<L.length):∀ (pins:List (Nat×Nat×Nat×Nat)) (u:BH),Hd c w E (AD L u)→
  (∀ q∈pins,base+q.2.1<L.length/\∀ o∈on,nes[q.2.2.1]? =some (.whole o)->E.nm (base+q.2.1)=E.nm o)→
  Hd c w E (AD L (KI base nes on pins u))/\∀ n,Al (AD L u) n->Al (AD L (KI base nes on pins u)) n
 | [],u,h,_=>⟨h,fun _ hn=>hn⟩
 |(a,b,j,jb)::r,u,h,hp=>by
  unfold KI
  obtain⟨p1,p2⟩:=hp _ (by simp:(a,b,j,jb)∈(a,b,j,jb)::r)
  split
  ·rename_i o i h1 h2
   split
   ·rename_i hc
    simp only[PG,AFT] at hc
    obtain⟨q1,q2⟩:=yN h (p2 o hc.1 h1) p1 (hon o hc.1) (hon i hc.2)
    obtain⟨r1,r2⟩:=XJ hon r _ q1 (fun q hq=>hp q (by simp [hq]))
    exact⟨r1,fun n hn=>r2 n (q2 n hn)⟩
   ·exact XJ hon r _ h (fun q hq=>hp q (by simp [hq]))
  ·exact XJ hon r _ h (fun q hq=>hp q (by simp [hq]))
set_option maxHeartbeats 1000000 in
theorem dX {P:Program} {fi:FnI} {base:Nat} {AI:Nat->Option AO} {args us:List SV} {md:PM} (hP:md≠ .own) (hus:OK AI fi.sh args=some us) {a:IC (HT fi.ps)} (hp:FU md AI fi.ps us=some a)
  {is:List Nat} (tN:L9 a.nes fi.bk=some is)
  (uZ:(okA a && EC AI base (cnts fi.rs+OL fi.os) && (is.length==fi.os.length) && fi.os.all okO && (decide is.Nodup && is.all (fun i=>a.on.contains i)) && AA9 fi && uX fi AI args a.nes a.on)=true)
  {r:HT (fi.rs++fi.os)} (hr:fi.F a.x=some r) (ADW:md= .XD\/fH (fi.rs++fi.os) r=true\/(fi.rs++fi.os).all CT.aY=true) {f:FuncId} (hc:CallsV P TB f fi)
  {L:AE} (A8:∀ n e,AI n=some e->look L n=some e) {c:B4 TB} {w:World} {E:Env} (hh:Hd c w E L) (hw:GV E L args):
  Calls P f (AH E args).toArray w (fun e w' =>∃ E',e= .returned ((MP (outSVs fi.rs (HT.left fi.rs fi.os r) base)).den E')∧
   Hd c w' E' (AD L (KI base a.nes a.on fi.pin (a.BF++(B2 fi.rs (HT.left fi.rs fi.os r) base++C_ fi.os (HT.right fi.rs fi.os r) (base+cnts fi.rs) is))))∧
   (∀ n,Al L n->E'.nm n=E.nm n/\Al (AD L (KI base a.nes a.on fi.pin (a.BF++(B2 fi.rs (HT.left fi.rs fi.os r) base++C_ fi.os (HT.right fi.rs fi.os r) (base+cnts fi.rs) is)))) n)/\E'.ds=E.ds∧
   (MP (outSVs fi.rs (HT.left fi.rs fi.os r) base)).wf E' (AD L (KI base a.nes a.on fi.pin (a.BF++(B2 fi.rs (HT.left fi.rs fi.os r) base++C_ fi.os (HT.right fi.rs fi.os r) (base+cnts fi.rs) is))))∧
   ∀ p∈fi.ro,∀ i,a.nes[p]? =some (.whole i)->yJ w w' (E.nm i).A_):=by
 obtain⟨G,hG⟩:=hh
 have u4:∀ i j,uU AI i=some j->look L i=some (.box [.loc j 0])/\Al L j:=by
  intro i j h
  unfold uU at h
  split at h
  ·rename_i j' hl
   simp only[AR] at h;subst h
   exact⟨A8 _ _ hl,(hG.F0 i _ (A8 _ _ hl)).2.2.2.2.2.1⟩
  ·cases h
 have hw:=jH (fun i j h=>(u4 i j h).2) _ _ _ hus hw
 simp only[PG,hM,OH,Q7 (p:=fun i=>a.on.contains i),AFT] at uZ
 obtain⟨⟨⟨⟨⟨⟨XZ,BV⟩,hlen⟩,AGN⟩,AIU,AKR⟩,AIY⟩,AKS⟩:=uZ
 obtain⟨G1,G2,t1,t2,t3,t4,t5,t6,t7,t8,t9,t10,t11⟩:=hG.take hP A8 hp XZ hw
 have o0:=fun j hj=>A8 _ _ (BI BV j hj)
 obtain⟨n1,n2⟩:=VG hP _ _ _ hp
 have AIZ:∀ k,look L k=some .HP->k∉a.on/\k∉a.fz.map (·.1):=by
  intro k hk
  refine⟨fun hx=> ?_,fun hx=> ?_⟩
  ·obtain⟨e,hl,he⟩:=n2 k hx
   have:=A8 _ _ hl;rw[hk] at this;cases this;cases he
  ·obtain⟨q,hq,rfl⟩:=DB.1 hx
   obtain⟨t,ys,e,hl,ho,_⟩:=n1 q hq
   have:=A8 _ _ hl;rw[hk] at this;cases this;cases ho
 have u5:∀ j,j<cnts fi.rs+OL fi.os->look (AD L a.BF) (base+j)=some .HP:=by
  intro j hj
  obtain⟨q1,q2⟩:=AIZ _ (o0 j hj)
  rw[t7 _ q1 q2];exact o0 j hj
 have AKT:∀ b,G2 b->b<w.heap.size:=by
  intro b hb
  rcases t5 b hb with hx|⟨n,e,hx,hxb⟩
  ·exact t1.jY b hx
  ·exact t1.X8 hx hxb
 have AGO:=PS.io (⟨w,fun b=>b∈BA fi.ps a.x (BU E a.nes),G2⟩:B4 TB) _ t9 (fun b hb=>fun hx=>hx.2 hb)
 have ADX:(⟨w,fun b=>b∈BA fi.ps a.x (BU E a.nes),G2⟩:B4 TB).Tab:=fun q hq=>by
  obtain⟨o1,ty,fz,o2⟩:=t1.tab q hq
  refine⟨⟨jR o1.1 t1.size,fun hy=>(PS.jZ _ t9 hy).1 o1⟩,ty,fz, ?_⟩
  show w.heap[q.1]? =_
  rw[t1.old q.1 o1];exact o2
 obtain⟨u6,VL⟩:=RC E _ _ _ hp
 simp only[uX,PG,OH] at AKS
 obtain⟨⟨pp1,pp2⟩,pp3⟩:=AKS
 let msX:Nat->Nm:=fun k=>match (ZI fi.sh args).find? (fun q=>q.1==k) with
  |some q=>E.nm q.2
  |none=>BU E a.nes k
 have yO:∀ k,k<cnts fi.ps->msX k=BU E a.nes k:=by
  intro k hk
  have:(ZI fi.sh args).find? (fun q=>q.1==k)=none:=by
   rw[List.find?_eq_none]
   intro q hq he
   have:=Q7.1 pp1 q hq
   simp only[PG,OH] at this
   have he' :q.1=k:=by simpa using he
   omega
  show (match (ZI fi.sh args).find? (fun q=>q.1==k) with|some q=>E.nm q.2|none=>BU E a.nes k)=_
  rw[this]
 have AKU:∀ q∈ZI fi.sh args,msX q.1=E.nm q.2:=by
  intro q hq
  have key:∀ (l:List (Nat×Nat)),(l.map (·.1)).Nodup->q∈l->l.find? (fun z=>z.1==q.1)=some q:=by
   intro l
   induction l with
   |nil=>intro _ h;cases h
   |cons z r ih=>
    intro hn hz
    simp only[OI,hJ] at hn
    rcases MK.1 hz with rfl|hz
    ·simp
    ·have KF:(z.1==q.1)=false:=by
      rw[beq_eq_false_iff_ne]
      intro he
      exact hn.1 (he ▸ DB.2 ⟨q,hz,rfl⟩)
     rw[List.find?_cons,KF]
     exact ih hn.2 hz
  show (match (ZI fi.sh args).find? (fun z=>z.1==q.1) with|some q=>E.nm q.2|none=>BU E a.nes q.1)=_
  rw[key _ pp2 hq]
 have hX:BA fi.ps a.x msX=BA fi.ps a.x (BU E a.nes):=fJ _ yO
 have hpp:AKN fi.X1 (BA fi.ps a.x (BU E a.nes)) w msX:=by
  intro p hp'
  obtain⟨q,hq,tK⟩:=List.any_eq_true.1 (Q7.1 pp3 p hp')
  simp only[PG,hM] at tK
  obtain⟨yI,tK⟩:=tK
  split at tK
  rotate_left
  ·cases tK
  rename_i j hj
  obtain⟨b1,b2⟩:=u4 _ _ hj
  obtain⟨e1,e2,e3,e4,⟨ty,e5⟩,_⟩:=hG.F0 _ _ b1
  have hmp:=AKU q hq
  rw[yI] at hmp
  have aS:q.2∉a.on:=by
   have:=Q7.1 pp1 q hq
   simp only[PG,OH,Y9,qD,tU] at this
   exact this.2
  have uQ:q.2∉a.fz.map (·.1):=by
   intro hx
   obtain⟨z,hz,he⟩:=DB.1 hx
   obtain⟨n1',_⟩:=VG hP _ _ _ hp
   obtain⟨t,ys,e,hl,ho,_⟩:=n1' z hz
   have:=A8 _ _ hl
   rw[he,b1] at this
   cases this;cases ho
  have AJ0:look (AD L a.BF) q.2=some (.box [.loc j 0]):=by rw[t7 _ aS uQ];exact b1
  have uN:(E.nm q.2).A_∉BA fi.ps a.x (BU E a.nes):=fun hx=>t11 _ hx q.2 _ AJ0 (.inl rfl)
  unfold XH at tK
  split at tK
  rotate_left
  ·cases tK
  rename_i i' u7
  have dM:i' =j:=by simpa using tK
  subst dM
  have CP:p.2<cnts fi.ps:=by
   rw[<-u6]
   rcases GR p.2 a.nes.length with h|h
   ·exact h
   ·rw[N8 h] at u7;cases u7
  have hm2:msX p.2=E.nm i' :=by
   rw[yO _ CP]
   simp only[BU,u7,NE.nm]
  refine⟨by rw[hmp];exact LR e5,by rw[hmp];exact uN, ?_⟩
  refine⟨(E.nm q.2).arr (AH E [.loc i' 0]),ty,(0,0),by rw[hmp];exact e5, ?_⟩
  rw[hmp,hm2,e2]
  unfold Nm.arr
  rw[g_,hD,OG (HE _)]
  simp [AH,SV.den]
 have AAC:=hc.2 a.x r hr w G2 msX AKT (by rw[hX];exact PS.congr _ AGO fun k hk=>(yO k hk).symm) (by rw[hX];exact t10) (by rw[hX];exact ADX) (by rw[hX];exact hpp)
 have AKV:AH (EB msX) (foldA fi.sh (outSVs fi.ps a.x 0))=AH E args:=by
  refine XI _ _ _ _ hus (VL (EB msX) 0 fun k hk=> ?_) fun q hq=> ?_
  ·rw[KB];exact yO k hk
  ·exact AKU q hq
 rw[AKV,hX] at AAC
 refine AAC.mono ?_
 rintro e w' ⟨G',ms',rfl,VM,AHS,BJ,hgg,hgn,hgi,AGP,AGL,ZJ,AKW,hro⟩
 have ANC:∀ (bk is:List Nat),L9 a.nes bk=some is->bk.map msX=bk.map (BU E a.nes):=by
  intro bk
  induction bk with
  |nil=>intro is _;rfl
  |cons q rr ihq=>
   intro is h
   simp only[L9] at h
   split at h
   ·rename_i i hi
    split at h
    ·rename_i l hl
     have hq:q<cnts fi.ps:=by
      rw[<-u6]
      rcases GR q a.nes.length with h|h
      ·exact h
      ·rw[N8 h] at hi;cases hi
     simp only[OI]
     rw[yO q hq,ihq _ hl]
    ·cases h
   ·cases h
 rw[ANC _ _ tN] at ZJ
 let G'' :Nat->Prop:=fun b=>G1 b\/(G' b/\(w.heap.size<=b\/b∈BA fi.ps a.x (BU E a.nes)))
 have hio:∀ b∈BA fi.ps a.x (BU E a.nes),¬c.Old b/\¬G2 b/\b<w.heap.size:=fun b hb=>PS.jZ _ t9 hb
 have AJ1:∀ b,G1 b->w'.heap[b]? =w.heap[b]? :=fun b hb=>BJ b (t1.jY b hb) (fun hx=>(hio b hx).2.1 (t3 b hb))
 have hold:∀ b,c.Old b->w'.heap[b]? =w.heap[b]? :=fun b hb=>BJ b (jR hb.1 t1.size) (fun hx=>(hio b hx).1 hb)
 have ADY:AK c G'' w' E (AD L a.BF):=by
  refine t1.after VM AHS hold AJ1 (fun b hb=> .inl hb) ?_ ?_ ?_
  ·rintro b (hb|⟨hb,_⟩)
   ·exact jR (t1.jY b hb) AHS
   ·exact hgi b hb
  ·rintro b (hb|⟨hb,hx⟩)
   ·exact .inl hb
   ·right
    rintro⟨hb1,hb2⟩
    rcases hx with hx|hx
    ·have:=t1.size;omega
    ·exact (hio b hx).1 ⟨hb1,hb2⟩
  ·intro n e b he hb
   have CP:=t1.X8 he hb
   have ADT:b∉BA fi.ps a.x (BU E a.nes):=fun hx=>t11 b hx n e he hb
   refine⟨BJ b CP ADT, ?_⟩
   rintro (hx|⟨hx,hy⟩)
   ·exact (t1.KE he hb).1 hx
   ·rcases hy with hy|hy
    ·omega
    ·exact ADT hy
 have AND:∀ b,¬(B4.mk (TB:=TB) w (fun b=>b∈BA fi.ps a.x (BU E a.nes)) G2).Old b->¬c.Old b:=by
  rintro b hb hx
  refine hb ⟨jR hx.1 t1.size,fun hy=>(hio b hy).1 hx⟩
 have ANE:PS c G'' w' (fi.rs++fi.os) r ms' :=by
  refine PS.cfg AND _ ?_
  by_cases hR:(fi.rs++fi.os).all CT.aY=true
  ·refine PS.aY ?_ _ hR AGP
   rintro b (hb|⟨hb,_⟩)
   ·exact hgg b (t3 b hb)
   ·exact hb
  rcases ADW with ANF|hgv|hx
  ·have e12:=t4 ANF
   have:G'' =G' :=by
    funext b
    simp only[eq_iff_iff]
    refine⟨?_,fun hb=> ?_⟩
    ·rintro (hb|⟨hb,_⟩)
     ·exact hgg b (t3 b hb)
     ·exact hb
    ·rcases hgn b hb with hx|hx
     ·rw[e12] at hx;exact .inl hx
     ·exact .inr ⟨hb,hx⟩
   rw[this];exact AGP
  ·refine PS.AAA ?_ _ hgv AGP
   rintro b (hb|⟨hb,_⟩)
   ·exact hgg b (t3 b hb)
   ·exact hb
  ·exact absurd hx hR
 have ABZ:∀ b∈BA (fi.rs++fi.os) r ms',FT E (AD L a.BF) b:=by
  intro b hb n e he heb
  have h1:=(PS.jZ _ AGP hb).1
  have CP:=t1.X8 he heb
  exact h1 ⟨CP,fun hx=>t11 b hx n e he heb⟩
 obtain⟨ANG,ANH⟩:=PS.split (c:=c) (G:=G'') (w:=w') fi.rs fi.os r ms'
 obtain⟨AKX,ANI⟩:=ANG.1 ANE
 rw[ANH] at AGL ABZ
 have RB:=SQ.1 AGL
 obtain⟨a1,a2,a3⟩:=AK.aT fi.rs (HT.left fi.rs fi.os r) (n:=base) (ms:=ms') ADY (fun j hj=>u5 j (by omega)) AKX RB.1 (fun b hb=>ABZ b (DU.2 (.inl hb)))
 have ABX:∀ k,Al (AD L a.BF) k->Al (AD (AD L a.BF) (B2 fi.rs (HT.left fi.rs fi.os r) base)) k/\(E.put base (cnts fi.rs) ms').nm k=E.nm k:=by
  intro k hk
  by_cases hkb:base<=k/\k<base+cnts fi.rs
  ·exfalso
   have:=u5 (k-base) (by omega)
   have e:base+(k-base)=k:=by omega
   rw[e] at this
   exact CJ this hk
  ·obtain⟨f,hf1,hf2⟩:=hk
   exact⟨⟨f,by rw[(a2 k).2 hkb];exact hf1,hf2⟩,Env.PX _ _ _ _ (by omega)⟩
 have s2:=aX E _ _ tN
 simp only[okA,PG,OH] at XZ
 have RF:∀ i∈is,look (AD (AD L a.BF) (B2 fi.rs (HT.left fi.rs fi.os r) base)) i=some .dead/\¬(base<=i/\i<base+cnts fi.rs):=by
  intro i hi
  have hd:=t8 i (AKR i hi)
  have hb:¬(base<=i/\i<base+cnts fi.rs):=by
   intro hx
   have:=u5 (i-base) (by omega)
   have e:base+(i-base)=i:=by omega
   rw[e,hd] at this;cases this
  exact⟨by rw[(a2 i).2 hb];exact hd,hb⟩
 have shift:∀ (cs:List CT) (a b:Nat),(ID cs (a+b))=(ID cs b).map (fun k=>a+k):=by
  intro cs
  induction cs with
  |nil=>intros;rfl
  |cons e s ihs=>
   intro a b
   simp only[ID]
   rw[I6,ihs]
   simp
 obtain⟨E',b1,b2,b3,b4,b5⟩:=AK.j7 fi.os (HT.right fi.rs fi.os r) (n:=base+cnts fi.rs) (ms:=fun k=>ms' (cnts fi.rs+k)) is a1 AGN hlen
  AIU
  (by
   intro j hj
   rw[(a2 _).2 (by omega),I6]
   exact u5 _ (by omega))
  (fun i hi=>(RF i hi).1)
  (by
   have e1:(ID fi.os 0).map (fun k=>ms' (cnts fi.rs+k))=is.map E.nm:=by
    rw[<-s2,←ZJ]
    have:=shift fi.os (cnts fi.rs) 0
    rw[JK] at this
    rw[this,PL];rfl
   rw[e1]
   apply VB
   intro i hi
   exact (Env.PX _ _ _ _ (by have:=(RF i hi).2;omega)).symm)
  ANI RB.2.1
  (by
   intro b hb k f hf LS
   by_cases hkb:base<=k/\k<base+cnts fi.rs
   ·
    have:b∈BA fi.rs (HT.left fi.rs fi.os r) ms' :=by
     have key:∀ (cs:List CT) (x:HT cs) {E:Env} {L:AE} {n:Nat} {ms:Nat->Nm},AK c G'' w' E L->(∀ j,j<cnts cs->look L (n+j)=some .HP)->PS c G'' w' cs x ms->(BA cs x ms).Nodup->(∀ b∈BA cs x ms,FT E L b)→
       ∀ k f b,n<=k/\k<n+cnts cs->look (AD L (B2 cs x n)) k=some f->f.ow (E.put n (cnts cs) ms) k b->b∈BA cs x ms:=by
      intro cs
      induction cs with
      |nil=>intro x E L n ms _ _ _ _ _ k f b hk;simp [cnts] at hk;omega
      |cons d rr ihh=>
       intro x E L n ms hH hl hPS hND hNO k f b hk hf LS
       have AGQ:=SQ.1 hND
       obtain⟨c1,c2,c3,c4⟩:=hH.AA7 d (HT.hd d rr x) (n:=n) (ms:=ms) (fun j hj=>hl j (by simp [cnts];omega)) hPS.1 AGQ.1 (fun b hb=>hNO b (DU.2 (.inl hb)))
       have eu:AD L (B2 (d::rr) x n)=AD (AD L (KG d (HT.hd d rr x) n)) (B2 rr (HT.tl d rr x) (n+d.cnt)):=by
        simp only[B2,A0]
       rw[eu] at hf
       have j4:∀ j,j<cnts rr->look (AD L (KG d (HT.hd d rr x) n)) (n+d.cnt+j)=some .HP:=by
        intro j hj
        rw[(c2 _).2 (by omega),I6]
        exact hl _ (by simp [cnts];omega)
       have AGR:∀ b∈BA rr (HT.tl d rr x) (fun k=>ms (d.cnt+k)),FT (E.put n d.cnt ms) (AD L (KG d (HT.hd d rr x) n)) b:=by
        intro b hb k f hf LS
        by_cases hk:n<=k/\k<n+d.cnt
        ·exact AGQ.2.2 b (c4 k f b hk hf LS) b hb rfl
        ·rw[(c2 k).2 hk] at hf
         rw[AO.dV (by omega)] at LS
         exact hNO b (DU.2 (.inr hb)) k f hf LS
       obtain⟨d1,d2,d3⟩:=AK.aT rr (HT.tl d rr x) (n:=n+d.cnt) (ms:=fun k=>ms (d.cnt+k)) c1 j4 hPS.2 AGQ.2.1 AGR
       simp only[cnts] at hk LS
       rw[AO.qO (m:=ms (k-n)) (by
        have e:k=n+(k-n):=by omega
        conv=>lhs;rw[e]
        rw[Env.ZH _ _ _ _ (by omega)]) (by
        have e:k=n+(k-n):=by omega
        conv=>lhs;rw[e]
        rw[Env.AA6 _ _ _ _ (by omega)])] at LS
       by_cases PJ:n+d.cnt<=k
       ·refine DU.2 (.inr (ihh (HT.tl d rr x) c1 j4 hPS.2 AGQ.2.1 AGR k f b ⟨PJ,by omega⟩ hf ?_))
        have e:k=n+d.cnt+(k-(n+d.cnt)):=by omega
        rw[e,AO.VF (by omega)]
        have e2:d.cnt+(k-(n+d.cnt))=k-n:=by omega
        rw[e2];exact LS
       ·rw[(d2 k).2 (by omega)] at hf
        refine DU.2 (.inl (c4 k f b ⟨hk.1,by omega⟩ hf ?_))
        have e:k=n+(k-n):=by omega
        rw[e,AO.VF (by omega)];exact LS
     exact key fi.rs _ ADY (fun j hj=>u5 j (by omega)) AKX RB.1 (fun b hb=>ABZ b (DU.2 (.inl hb))) k f b hkb hf LS
    exact RB.2.2 b this b hb rfl
   ·rw[(a2 k).2 hkb] at hf
    rw[AO.dV (by omega)] at LS
    exact ABZ b (DU.2 (.inr hb)) k f hf LS)
 have eu:AD L (a.BF++(B2 fi.rs (HT.left fi.rs fi.os r) base++C_ fi.os (HT.right fi.rs fi.os r) (base+cnts fi.rs) is))=
   AD (AD (AD L a.BF) (B2 fi.rs (HT.left fi.rs fi.os r) base)) (C_ fi.os (HT.right fi.rs fi.os r) (base+cnts fi.rs) is):=by
  rw[A0,A0]
 have AJ2:∀ k,k<cnts fi.rs->E'.nm (base+k)=ms' k:=by
  intro k hk
  have I8:Al (AD (AD L a.BF) (B2 fi.rs (HT.left fi.rs fi.os r) base)) (base+k):=(a2 _).1 ⟨by omega,by omega⟩
  rw[(b2 _ I8).1,Env.ZH _ _ _ _ hk]
 have ANJ:∀ k,Al L k->E'.nm k=E.nm k:=fun k hk=>by
  obtain⟨q1,q2⟩:=ABX k (t6 k hk)
  exact ((b2 k q1).1).trans q2
 obtain⟨z1,z2⟩:=XJ (c:=c) (w:=w') (E:=E') (L:=L) (base:=base) (nes:=a.nes) (on:=a.on) (fun i hi=>by obtain⟨e,he,_⟩:=n2 i hi;exact AJ (A8 _ _ he)) fi.pin (a.BF++(B2 fi.rs (HT.left fi.rs fi.os r) base++C_ fi.os (HT.right fi.rs fi.os r) (base+cnts fi.rs) is))
  ⟨G'',by rw[eu];exact b1⟩ (by
   intro q hq
   have hpm:=Q7.1 AIY q hq
   simp only[AFT] at hpm
   have hsh:=MQ fi.os (cnts fi.rs) (cnts fi.rs) 0 0
   rw[JK] at hsh
   rw[hsh] at hpm
   obtain⟨q',VJ,he⟩:=DB.1 hpm
   have hb5:=b5 q' VJ
   simp only[BP] at he
   rw[I6,he.2] at hb5
   have uN:∀ (cs:List CT) (x y:Nat) (q:Nat×Nat),q∈VI cs x y->y<=q.2/\q.2<y+OL cs:=by
    intro cs
    induction cs with
    |nil=>intro x y q h;cases h
    |cons d r ih=>
     intro x y q h
     simp only[VI] at h
     cases hp:d.ptr with
     |true=>
      simp only[hp] at h
      simp only[OL,hp]
      rcases DU.1 h with h|h
      ·obtain⟨j,hj,rfl⟩:=DB.1 h
       have:=tZ.1 hj
       simp only;omega
      ·have:=ih _ _ _ h;omega
     |false=>
      simp only[hp] at h
      simp only[OL,hp]
      have:=ih _ _ _ h;omega
   have hm:=uN _ _ _ _ VJ
   refine⟨AJ (o0 q.2.1 (by omega)),fun o hon ho=> ?_⟩
   obtain⟨e,oT,he2⟩:=n2 o hon
   have hql:q.2.2.1<cnts fi.ps:=by
    rw[<-u6]
    rcases GR q.2.2.1 a.nes.length with h|h
    ·exact h
    ·rw[N8 h] at ho;cases ho
   rw[hb5,ANJ o ⟨e,A8 _ _ oT,he2⟩,he.1,AKW q hq,yO _ hql]
   simp [BU,ho,NE.nm])
 refine⟨E', ?_,z1,fun k hk=> ?_,b3, ?_,fun p hp' i hi=> ?_⟩
 ·congr 1
  refine oY (j8 _ _ fun k hk=> ?_)
  rw[AJ2 k hk]
  simp [EB]
 ·obtain⟨q1,q2⟩:=ABX k (t6 k hk)
  obtain⟨q3,q4⟩:=b2 k q1
  exact⟨q3.trans q2,z2 k (by rw[eu];exact q4)⟩
 ·refine ADU (EH (fun k hk=>z2 k (by rw[eu];exact (b2 k hk).2)) (fun k hk=>(b2 k hk).1) _ a3).1
 ·have hql:p<cnts fi.ps:=by
   rw[<-u6]
   rcases GR p a.nes.length with h|h
   ·exact h
   ·rw[N8 h] at hi;cases hi
  have:=hro p hp'
  rw[yO _ hql] at this
  simp only[BU,hi,NE.nm] at this
  exact this
theorem j9 {P:Program} {fi:FnI} {base:Nat} {AI:Nat->Option AO} {args:List SV} {v:SV} {BF:BH} (h:fI fi base AI args (fun v u=>some (v,u))=some (v,BF)) {f:FuncId} (hc:CallsV P TB f fi)
  {L:AE} (A8:∀ n e,AI n=some e->look L n=some e) {c:B4 TB} {w:World} {E:Env} (hh:Hd c w E L) (hw:GV E L args):
  Calls P f (AH E args).toArray w (fun e w' =>∃ E',e= .returned (v.den E')/\Hd c w' E' (AD L BF)/\(∀ n,Al L n->E'.nm n=E.nm n/\Al (AD L BF) n)/\E'.ds=E.ds/\v.wf E' (AD L BF)):=by
 unfold fI at h
 split at h
 ·cases h
 rename_i us hus
 split at h
 ·cases h
 rename_i a hp
 split at h
 ·cases h
 rename_i is tN
 split at h
 rotate_left
 ·cases h
 rename_i uZ
 rw[tV] at h
 obtain⟨r,hr,h⟩:=h
 simp only[AR,BP] at h
 obtain⟨rfl,rfl⟩:=h
 have hP:fi.md≠ .own:=by unfold FnI.md;split <;> simp
 refine (dX hP hus hp tN uZ hr ?_ hc A8 hh hw).mono fun e w' ⟨E',q1,q2,q3,q4,q5,_⟩=>⟨E',q1,q2,q3,q4,q5⟩
 cases hR:(fi.rs++fi.os).all CT.aY with
 |true=>exact .inr (.inr rfl)
 |false=>left;unfold FnI.md;rw[hR]
theorem ADZ {P:Program} {fi:FnI} {base:Nat} {AI:Nat->Option AO} {args:List SV} {v:SV} {BF:BH} (h:oW fi base AI args (fun v u=>some (v,u))=some (v,BF)) {f:FuncId} (hc:CallsV P TB f fi)
  {L:AE} (A8:∀ n e,AI n=some e->look L n=some e) {c:B4 TB} {w:World} {E:Env} (hh:Hd c w E L) (hw:GV E L args):
  Calls P f (AH E args).toArray w (fun e w' =>∃ E',e= .returned (v.den E')/\Hd c w' E' (AD L BF)/\(∀ n,Al L n->E'.nm n=E.nm n/\Al (AD L BF) n)/\E'.ds=E.ds/\v.wf E' (AD L BF)):=by
 unfold oW at h
 split at h
 ·cases h
 rename_i us hus
 split at h
 ·cases h
 rename_i a hp
 split at h
 ·cases h
 rename_i is tN
 split at h
 rotate_left
 ·cases h
 rename_i uZ
 rw[tV] at h
 obtain⟨r,hr,h⟩:=h
 cases hg:fH (fi.rs++fi.os) r with
 |true=>
  rw[hg] at h
  simp only[cond_true,AR,BP] at h
  obtain⟨rfl,rfl⟩:=h
  exact (dX (by simp) hus hp tN uZ hr (.inr (.inl hg)) hc A8 hh hw).mono fun e w' ⟨E',q1,q2,q3,q4,q5,_⟩=>⟨E',q1,q2,q3,q4,q5⟩
 |false=>
  rw[hg] at h
  exact j9 h hc A8 hh hw
def I9 (AI:Nat->Option AO):List CT->List SV->Nat->Option (Nat×Nat×Nat×Nat×List SV)
 |c::r,v::vs,p=>(match c.ptr,v with
  |true,.loc i off=>(match AI i with
   |some (.box cs)=>if c.t.sz<cs.length then some (p,i,off,c.t.sz,cs) else I9 AI r vs (p+1)
   |_=>I9 AI r vs (p+1))
  |_,_=>I9 AI r vs (p+1))
 |_,_,_=>none
theorem fK {AI:Nat->Option AO}:∀ (ps:List CT) (vs:List SV) (k:Nat) {p i off n:Nat} {cs:List SV},I9 AI ps vs k=some (p,i,off,n,cs)→
  k<=p/\vs[p-k]? =some (.loc i off)/\AI i=some (.box cs)
 | [],_,_,_,_,_,_,_,h=>by simp [I9] at h
 |_::_,[],_,_,_,_,_,_,h=>by simp [I9] at h
 |c::r,v::vs,k,p,i,off,n,cs,h=>by
  have step:I9 AI r vs (k+1)=some (p,i,off,n,cs)->k<=p/\(v::vs)[p-k]? =some (.loc i off)/\AI i=some (.box cs):=by
   intro h'
   obtain⟨h1,h2,h3⟩:=fK r vs (k+1) h'
   refine⟨by omega, ?_,h3⟩
   rw[show p-k=(p-(k+1))+1 from by omega,mY]
   exact h2
  unfold I9 at h
  split at h
  ·split at h
   ·rename_i ZF hl
    split at h
    ·simp only[AR,BP] at h
     obtain⟨rfl,rfl,rfl, -,rfl⟩:=h
     exact⟨HE _,by simp,hl⟩
    ·exact step h
   ·exact step h
  ·exact step h
def jJ (j:Nat):BH->Option (List SV)->Option (List SV)
 | [],o=>o
 |(n,e)::r,o=>jJ j r (if n=j then (match e with
  | .box cs=>some cs
  |_=>none) else o)
theorem ZK (j:Nat):∀ (u:BH) (L:AE) (o:Option (List SV)) {cs:List SV},(∀ cs,o=some cs->look L j=some (.box cs))->j<L.length->jJ j u o=some cs->look (AD L u) j=some (.box cs)
 | [],L,o,cs,ho,_,h=>ho cs h
 |(n,e)::r,L,o,cs,ho,hj,h=>by
  refine ZK j r (BS L (n,e)) _ (fun ZF h' => ?_) (by rw[DG];exact hj) h
  split at h'
  ·rename_i hn
   subst hn
   split at h'
   ·simp only[AR] at h'
    subst h'
    rw[AT hj,BQ rfl]
   ·cases h'
  ·rename_i hn
   have:=ho ZF h'
   by_cases hq:n<L.length
   ·rw[AT hq,BC (fun he=>hn he.symm)];exact this
   ·unfold BS
    rw[N8 (by simpa using hq)]
    exact this
def o7 (fi:FnI) (base:Nat) (AI:Nat->Option AO) (args:List SV) {α:Type} (K:SV->BH->Option α):Option α:=
 match (match fi.sh with
  | []=>I9 AI fi.ps args 0
  |_=>none) with
 |none=>fI fi base AI args K
 |some (p,i,off,n,cs)=>
  if off+n<=cs.length/\EC AI (base+(cnts fi.rs+OL fi.os)) 1=true then
   fI fi base (fun k=>if k=i then none else if k=base+(cnts fi.rs+OL fi.os) then some (.box ((cs.drop off).take n)) else AI k) (args.set p (.loc (base+(cnts fi.rs+OL fi.os)) 0)) fun v u=>
    match jJ (base+(cnts fi.rs+OL fi.os)) u none with
    |some ZF =>if ZF.length=n then K v ([(i,.dead),(base+(cnts fi.rs+OL fi.os),.box ((cs.drop off).take n))]++(u++ [(base+(cnts fi.rs+OL fi.os),.dead),(i,.box (B5 cs off ZF))])) else none
    |none=>none
  else none
def qR (nes:List NE) (ro:List Nat):List Nat:=ro.filterMap fun (p:Nat)=>match nes[p]? with
 |some (NE.whole i)=>some i
 |_=>none
def AKY (AI:Nat->Option AO) (U:BH) (ns:List Nat):Bool:=ns.all fun i=>(match AI i with
 |some (.box _)=>true
 |_=>false) && (jJ i U none).isSome
def o8 (fi:FnI) (base:Nat) (AI:Nat->Option AO) (args:List SV) {α:Type} (K:SV->BH->Option α):Option α:=
 match OK AI fi.sh args with
 |none=>none
 |some us=>match FU fi.md AI fi.ps us with
 |none=>none
 |some a=>match L9 a.nes fi.bk with
  |none=>none
  |some is=>match okA a && EC AI base (cnts fi.rs+OL fi.os) && (is.length==fi.os.length) && fi.os.all okO && (decide is.Nodup && is.all (fun i=>a.on.contains i)) && AA9 fi && uX fi AI args a.nes a.on with
   |true=>(fi.F a.x).bind fun r=>(match AKY AI (KI base a.nes a.on fi.pin (a.BF++(B2 fi.rs (HT.left fi.rs fi.os r) base++C_ fi.os (HT.right fi.rs fi.os r) (base+cnts fi.rs) is))) (qR a.nes fi.ro) with
    |true=>K (MP (outSVs fi.rs (HT.left fi.rs fi.os r) base))
     ((KI base a.nes a.on fi.pin (a.BF++(B2 fi.rs (HT.left fi.rs fi.os r) base++C_ fi.os (HT.right fi.rs fi.os r) (base+cnts fi.rs) is))).filter fun q=> !(qR a.nes fi.ro).contains q.1)
    |false=>none)
   |false=>none
theorem AK.words {c:B4 TB} {G:Nat->Prop} {w:World} {E:Env} {L1 L2:AE} (h:AK c G w E L1)
  (hl:∀ n,look L2 n=look L1 n\/∃ yP tO,look L1 n=some (.box yP)/\look L2 n=some (.box tO)/\AH E yP=AH E tO/\GV E L2 tO):AK c G w E L2/\∀ n,Al L1 n↔Al L2 n:=by
 have I8:∀ n,Al L1 n↔Al L2 n:=by
  intro n
  rcases hl n with h1|⟨yP,tO,h1,h2,_⟩
  ·unfold Al;rw[h1]
  ·exact⟨fun _=>⟨_,h2,rfl⟩,fun _=>⟨_,h1,rfl⟩⟩
 have U_:∀ n e b,look L2 n=some e->e.ow E n b->∃ e',look L1 n=some e' /\e'.ow E n b:=by
  intro n e b he hb
  rcases hl n with h1|⟨yP,tO,h1,h2,_⟩
  ·exact⟨e,by rw[<-h1];exact he,hb⟩
  ·rw[h2] at he
   simp only[AR] at he
   subst he
   exact⟨_,h1,hb⟩
 refine⟨⟨h.rest,h.size,h.old,h.jY,h.glo,h.ghi,fun n e he=> ?_,fun n t xss q he=> ?_,fun n k e f b KF he hf hb W_ => ?_,h.tab⟩,I8⟩
 ·rcases hl n with h1|⟨yP,tO,h1,h2,h3,h4⟩
  ·have:=h.F0 n e (by rw[<-h1];exact he)
   exact this.mono (fun n hn=>(I8 n).1 hn) (fun _ _=>rfl) (fun _ _=>rfl) (fun _ h=>h) (fun b hb=>⟨rfl,(this.dR hb).2.2.2.1⟩) (fun ht b hb=>⟨rfl,by
    cases e with
    |tree t1 t2 xs=>exact (C0.all this b hb).1
    |_=>cases ht⟩)
  ·rw[h2] at he
   simp only[AR] at he
   subst he
   obtain⟨q1,q2,q3,q4,⟨ty,q5⟩,q6⟩:=h.F0 n _ h1
   exact⟨q1,q2,q3,q4,⟨ty,by rw[<-h3];exact q5⟩,h4⟩
 ·rcases hl n with h1|⟨yP,tO,h1,h2,h3,h4⟩
  ·have:=h.dp n t xss q (by rw[<-h1];exact he)
   exact this.mono (fun n hn=>(I8 n).1 hn) (fun _ _=>rfl) (fun _ _=>rfl) (fun _ h=>h) (fun b hb=>⟨rfl,(this.all b hb).1⟩)
  ·rw[h2] at he;cases he
 ·obtain⟨e',e1,e2⟩:=U_ n e b he hb
  obtain⟨f',f1,f2⟩:=U_ k f b hf W_
  exact h.inj n k e' f' b KF e1 f1 e2 f2
theorem VN {p:Nat->Bool} {n:Nat} (hn:p n=true):∀ (u:BH) (L1 L2:AE),L1[n]? =L2[n]?→(AD L1 u)[n]? =(AD L2 (u.filter fun q=>p q.1))[n]?
 | [],L1,L2,h=>h
 |q::r,L1,L2,h=>by
  have hu:∀ L:AE,(BS L q)[n]? =if q.1=n then (match L[n]? with|some (v,_)=>some (v+1,q.2)|none=>none) else L[n]? :=by
   intro L
   unfold BS
   by_cases hq:q.1=n
   ·subst hq
    rw[BQ rfl]
    cases hL:L[q.1]? with
    |none=>simp only[hL]
    |some z=>
     simp only
     have:=(qC.1 hL).1
     rw[AD6 this]
   ·rw[BC hq]
    cases hL:L[q.1]? with
    |none=>rfl
    |some z=>simp only;rw[AD8 hq]
  show (AD (BS L1 q) r)[n]? =_
  cases hq:p q.1 with
  |true=>
   rw[List.filter_cons,BQ hq]
   exact VN hn r _ _ (by rw[hu,hu,h])
  |false=>
   rw[List.filter_cons,BC (by simp [hq])]
   refine VN hn r _ _ ?_
   rw[hu,BC,h]
   rintro rfl
   rw[hq] at hn;cases hn
theorem u9 {n:Nat}:∀ (u:BH) (L:AE),(∀ q∈u,q.1≠n)->look (AD L u) n=look L n
 | [],L,_=>rfl
 |q::r,L,h=>by
  show look (AD (BS L q) r) n=_
  rw[u9 r _ fun z hz=>h z (by simp [hz])]
  unfold look BS
  cases hL:L[q.1]? with
  |none=>rfl
  |some z=>simp only;rw[AD8 (h q (by simp))]
theorem AE0 {P:Program} {fi:FnI} {base:Nat} {AI:Nat->Option AO} {args:List SV} {v:SV} {BF:BH} (h:o8 fi base AI args (fun v u=>some (v,u))=some (v,BF)) {f:FuncId} (hc:CallsV P TB f fi)
  {L:AE} (A8:∀ n e,AI n=some e->look L n=some e) {c:B4 TB} {w:World} {E:Env} (hh:Hd c w E L) (hw:GV E L args):
  Calls P f (AH E args).toArray w (fun e w' =>∃ E',e= .returned (v.den E')/\Hd c w' E' (AD L BF)/\(∀ n,Al L n->E'.nm n=E.nm n/\Al (AD L BF) n)/\E'.ds=E.ds/\v.wf E' (AD L BF)):=by
 unfold o8 at h
 split at h
 ·cases h
 rename_i us hus
 split at h
 ·cases h
 rename_i a hp
 split at h
 ·cases h
 rename_i is tN
 split at h
 rotate_left
 ·cases h
 rename_i uZ
 rw[tV] at h
 obtain⟨r,hr,h⟩:=h
 split at h
 rotate_left
 ·cases h
 rename_i hro
 simp only[AR,BP] at h
 obtain⟨rfl,rfl⟩:=h
 have hP:fi.md≠ .own:=by unfold FnI.md;split <;> simp
 have ADW:fi.md= .XD\/fH (fi.rs++fi.os) r=true\/(fi.rs++fi.os).all CT.aY=true:=by
  cases hR:(fi.rs++fi.os).all CT.aY with
  |true=>exact .inr (.inr rfl)
  |false=>left;unfold FnI.md;rw[hR]
 obtain⟨G0,hG0⟩:=hh
 refine (dX hP hus hp tN uZ hr ADW hc A8 ⟨G0,hG0⟩ hw).mono ?_
 generalize KI base a.nes a.on fi.pin (a.BF++(B2 fi.rs (HT.left fi.rs fi.os r) base++C_ fi.os (HT.right fi.rs fi.os r) (base+cnts fi.rs) is))=U at hro ⊢
 rintro e w' ⟨E',q1,⟨G,q2⟩,q3,q4,q5,q6⟩
 have key:∀ n,look (AD L (U.filter fun q=> !(qR a.nes fi.ro).contains q.1)) n=look (AD L U) n\/∃ yP tO,look (AD L U) n=some (.box yP)/\look (AD L (U.filter fun q=> !(qR a.nes fi.ro).contains q.1)) n=some (.box tO)/\AH E' yP=AH E' tO/\GV E L tO:=by
  intro n
  by_cases hn:n∈qR a.nes fi.ro
  ·right
   have hc1:=Q7.1 hro n hn
   simp only[PG] at hc1
   obtain⟨hb1,hb2⟩:=hc1
   split at hb1
   rotate_left
   ·cases hb1
   rename_i tO j4
   have hL:=A8 _ _ j4
   obtain⟨yP,hl1⟩:=AD5.1 hb2
   have h1:look (AD L U) n=some (.box yP):=ZK n U L none (by simp) (AJ hL) hl1
   have h2:look (AD L (U.filter fun q=> !(qR a.nes fi.ro).contains q.1)) n=some (.box tO):=by
    rw[u9,hL]
    intro q hq he
    have:=(List.mem_filter.1 hq).2
    rw[he] at this
    simp [hn] at this
   obtain⟨p,mW,tL⟩:=xW.1 hn
   have hst:yJ w w' (E.nm n).A_:=by
    refine q6 p mW n ?_
    split at tL
    ·rename_i i hi;simp only[AR] at tL;rw[<-tL];exact hi
    ·cases tL
   obtain⟨arr,ty,xQ,s1,s2⟩:=hst
   obtain⟨e1,e2,e3,e4,⟨ty1,e5⟩,e6⟩:=hG0.F0 n _ hL
   obtain⟨f1,f2,f3,f4,⟨ty2,f5⟩,f6⟩:=q2.F0 n _ h1
   have hnm:=(q3 n ⟨_,hL,rfl⟩).1
   rw[hnm] at f5
   have g1:=e5.symm.trans s1
   have g2:=f5.symm.trans s2
   simp only[AR,Obj.cells.injEq] at g1 g2
   have g3:=g2.1.trans g1.1.symm
   have g4:AH E' yP=AH E tO:=by
    unfold Nm.arr at g3
    have:=ZA Array.toList g3
    simpa using this
   refine⟨yP,tO,h1,h2, ?_,e6⟩
   rw[g4,(EH (L' :=AD L U) (fun k hk=>(q3 k hk).2) (fun k hk=>(q3 k hk).1) _ e6).2]
  ·left
   unfold look
   rw[<-VN (p:=fun k=> !(qR a.nes fi.ro).contains k) (by simp [hn]) U L L rfl]
 have I8:∀ n,Al (AD L U) n->Al (AD L (U.filter fun q=> !(qR a.nes fi.ro).contains q.1)) n:=by
  intro n hn
  rcases key n with h1|⟨_,tO,_,h2,_⟩
  ·unfold Al at hn ⊢;rw[h1];exact hn
  ·exact⟨_,h2,rfl⟩
 obtain⟨r1,r2⟩:=q2.words (L2:=AD L (U.filter fun q=> !(qR a.nes fi.ro).contains q.1)) fun n=>(key n).imp id fun ⟨yP,tO,h1,h2,h3,h4⟩=>⟨yP,tO,h1,h2,h3,(EH (fun k hk=>I8 k (q3 k hk).2) (fun k hk=>(q3 k hk).1) _ h4).1⟩
 exact⟨E',q1,⟨G,r1⟩,fun n hn=>⟨(q3 n hn).1,I8 n (q3 n hn).2⟩,q4,(QG I8 (fun _ _=>rfl) _ q5).1⟩
def fL (d:Bool) (fi:FnI) (base:Nat) (AI:Nat->Option AO) (args:List SV) {α:Type} (K:SV->BH->Option α):Option α:=match d with
 |true=>oW fi base AI args K
 |false=>(match fi.ro with
  | []=>o7 fi base AI args K
  |_=>o8 fi base AI args K)
end Go.V3
namespace Go.V3
open Go
variable {TB:Tb}
def ZL (arr:Array Value) (off:Nat):List Value->Array Value
 | []=>arr
 |v::r=>ZL (arr.setIfInBounds off v) (off+1) r
theorem I_ (vs:List Value):∀ (arr:Array Value) (off:Nat),(ZL arr off vs).size=arr.size:=by
 induction vs with
 |nil=>intros;rfl
 |cons v r ih=>intro arr off;simp [ZL,ih]
theorem GX (vs:List Value):∀ (arr:Array Value) (off i:Nat),(ZL arr off vs)[i]? =if off<=i/\i<off+vs.length/\i<arr.size then vs[i-off]? else arr[i]? :=by
 induction vs with
 |nil=>intro arr off i;rw[BC (by simp;omega)];rfl
 |cons v r ih=>
  intro arr off i
  simp only[ZL,ih,Array.size_setIfInBounds,xV,hI]
  by_cases h1:i=off
  ·subst h1
   by_cases h2:i<arr.size
   ·rw[BC (by omega),BQ rfl,BQ h2,BQ (by omega)];simp
   ·rw[BC (by omega),BQ rfl,BC h2,BC (by omega),tW (by omega)]
  ·by_cases h3:off+1<=i/\i<off+1+r.length/\i<arr.size
   ·rw[BQ h3,BQ (by omega)]
    have:i-off=(i-(off+1))+1:=by omega
    rw[this];simp
   ·rw[BC h3,BC (fun h=>h1 h.symm),BC (by omega)]
theorem BE (arr:Array Value) (off n j:Nat):(A4 arr off n)[j]? =if j<n then arr[off+j]? else none:=by
 unfold A4
 rw[hC]
 split
 ·rw[Y8];simp
 ·rfl
theorem T6 {arr:Array Value} {o p n:Nat} {vs:List Value} (h:p+n<=o\/o+vs.length<=p):A4 (ZL arr o vs) p n=A4 arr p n:=by
 apply Q8
 intro j
 rw[BE,BE]
 split
 ·rw[GX,BC (by omega)]
 ·rfl
theorem VO {arr:Array Value} {o:Nat} {vs:List Value} (h:o+vs.length<=arr.size):A4 (ZL arr o vs) o vs.length=vs:=by
 apply Q8
 intro j
 rw[BE]
 split
 ·rw[GX,BQ (by omega)]
  congr 1;omega
 ·rw[N8 (by omega)]
theorem NS {i j k:Nat} (h:i<j):(i+1)*k<=j*k:=qE _ h
theorem RowsIn.set {α:Type} {R:α->List Value->Prop} {sz:Nat} {arr:Array Value} {off:Nat} {xs:List α} (h:RowsIn R sz arr off xs) {k:Nat} {v:α} {vs:List Value} (hv:R v vs) (hl:vs.length=sz) (hk:k<xs.length) (ha:off+xs.length*sz<=arr.size):
  RowsIn R sz (ZL arr (off+k*sz) vs) off (xs.set k v):=by
 intro i x hx
 rw[xY] at hx
 have PJ:=NS (k:=sz) hk
 rw[Q9] at PJ
 split at hx
 ·rename_i X9
  subst X9
  simp only[AR] at hx;subst hx
  have:=VO (arr:=arr) (o:=off+k*sz) (vs:=vs) (by rw[hl];omega)
  rw[hl] at this
  rw[this]
  exact hv
 ·rename_i X9
  rw[T6]
  ·exact h i x hx
  ·rcases Nat.lt_or_gt_of_ne X9 with h1|h1
   ·right;have:=NS (k:=sz) h1;rw[Q9] at this;omega
   ·left;have:=NS (k:=sz) h1;rw[Q9] at this;omega
theorem RowsIn.append {α:Type} {R:α->List Value->Prop} {sz:Nat} {arr:Array Value} {off:Nat} {xs ys:List α} (h:RowsIn R sz arr off xs) (h2:RowsIn R sz arr (off+xs.length*sz) ys):RowsIn R sz arr off (xs++ys):=by
 intro i x hx
 by_cases hi:i<xs.length
 ·rw[QE hi] at hx;exact h i x hx
 ·rw[OG (by omega)] at hx
  have:=h2 _ x hx
  have e:off+xs.length*sz+(i-xs.length)*sz=off+i*sz:=by
   have:xs.length+(i-xs.length)=i:=by omega
   rw[I6,←Q9,this]
  rw[e] at this;exact this
theorem RowsIn.u_ {α:Type} {R:α->List Value->Prop} {sz:Nat} {arr UZ :Array Value} {o o' :Nat} {xs:List α} (h:RowsIn R sz arr o xs) (he:A4 UZ o' (xs.length*sz)=A4 arr o (xs.length*sz)):RowsIn R sz UZ o' xs:=by
 intro i x hx
 have hi:i<xs.length:=by
  rcases GR i xs.length with h1|h1
  ·exact h1
  ·rw[N8 h1] at hx;cases hx
 have hm:=NS (k:=sz) hi
 rw[Q9] at hm
 have e:∀ (a:Array Value) (p:Nat),A4 a (p+i*sz) sz=((A4 a p (xs.length*sz)).drop (i*sz)).take sz:=by
  intro a p
  apply Q8
  intro j
  rw[BE,hC]
  split
  ·rw[Y8,BE,BQ (by omega),I6]
  ·rfl
 rw[e,he,←e]
 exact h i x hx
section
variable {P:Program}
theorem fM (w:World) (a:Addr) (v:Value) (k:Nat):(w.setCell a v).heap[k]? =if a.block=k then (match w.heap[k]? with
  |some (.cells c e f)=>some (.cells (if a.spot.isSome then c else c.setIfInBounds a.off v) e f)
  |o=>o) else w.heap[k]? :=by
 show (w.heap.modify a.block _)[k]? =_
 rw[Array.getElem?_modify]
 split
 ·cases w.heap[k]? with
  |none=>rfl
  |some o=>cases o <;> rfl
 ·rfl
def Flat (vs:List Value):Prop:=∀ v∈vs,(∀ c,v≠ .agg c)/\(∀ c,v≠ .tuple c)
theorem Rp.AAD {G:Nat->Prop} {w:World} (t:Ty) (x:t.T) (vs:List Value) (h:Rp G w t x vs):Flat vs:=by
 induction t generalizing vs with
 |pair a b PH PI=>
  obtain⟨v1,v2,rfl,h1,h2⟩:=h
  intro v hv
  rcases DU.1 hv with hv|hv
  ·exact PH _ _ h1 v hv
  ·exact PI _ _ h2 v hv
 |slice a=>
  obtain⟨m,rfl,_⟩:=h
  intro v hv;simp only[LA] at hv;subst hv
  exact⟨fun c h=>(by cases h),fun c h=>(by cases h)⟩
 |sl a=>
  obtain⟨m,rfl,_⟩:=h
  intro v hv;simp only[LA] at hv;subst hv
  exact⟨fun c h=>(by cases h),fun c h=>(by cases h)⟩
 |nf=>
  obtain⟨m,rfl⟩:=h
  intro v hv;simp only[LA] at hv;subst hv
  exact⟨fun c h=>(by cases h),fun c h=>(by cases h)⟩
 |_=>
  simp only[Rp] at h;subst h
  intro v hv;simp only[LA] at hv;subst hv
  exact⟨fun c h=>(by cases h),fun c h=>(by cases h)⟩
theorem E_ {b off:Nat} {ty:TypeId} {fz:Nat×Nat} (vs:List Value):∀ (w:World) (arr:Array Value) (k:Nat),(∀ j,j<arr.size->¬(fz.1<=j/\j<fz.2))->w.heap[b]? =some (.cells arr ty fz)->Flat vs->off+k+vs.length<=arr.size→
  ∃ w',(storeCells ⟨b,off,none⟩ vs k).run P w= .ok () w' /\Rest w w' /\w'.heap.size=w.heap.size/\w'.heap[b]? =some (.cells (ZL arr (off+k) vs) ty fz)/\∀ j,j≠b->w'.heap[j]? =w.heap[j]? :=by
 induction vs with
 |nil=>intro w arr k _ h _ _;exact⟨w,rfl,.refl _,rfl,h,fun _ _=>rfl⟩
 |cons v r ih=>
  intro w arr k hz h hf hn
  simp only[hI] at hn
  have CP:off+k<arr.size:=by omega
  have MM:w.cell? ⟨b,off+k,none⟩=some arr[off+k]:=by simp [World.cell?,h,CP]
  have hfz:w.frozen? ⟨b,off+k,none⟩=false:=by
   have:=hz (off+k) CP
   simp only[World.frozen?,h]
   simpa using this
  have hst:(store ((⟨b,off,none⟩:Addr).add k) v).run P w= .ok () (w.setCell ⟨b,off+k,none⟩ v):=by
   rw[DJ]
   obtain⟨hv1,hv2⟩:=hf v (by simp)
   unfold store
   cases v <;> first|exact absurd rfl (hv1 _)|exact absurd rfl (hv2 _)|(simp only[Sem.run,MM,hfz];rfl)
  have h' :(w.setCell ⟨b,off+k,none⟩ v).heap[b]? =some (.cells (arr.setIfInBounds (off+k) v) ty fz):=by
   rw[fM,BQ rfl,h];rfl
  obtain⟨w',h1,h2,h3,h4,h5⟩:=ih _ _ (k+1) (fun j hj=>hz j (by simpa using hj)) h' (fun u hu=>hf u (by simp [hu])) (by simp;omega)
  refine⟨w', ?_, ?_, ?_,h4, ?_⟩
  ·simp only[storeCells,Sem.run_bind,hst,Result.andThen];exact h1
  ·have hr:Rest w (w.setCell ⟨b,off+k,none⟩ v):=⟨rfl,rfl,rfl⟩
   exact hr.trans h2
  ·rw[h3];simp [World.setCell]
  ·intro j hj
   rw[h5 j hj,fM,BC (fun he=>hj he.symm)]
theorem KJ {b off:Nat} {ty:TypeId} (vs:List Value) (w:World) (arr:Array Value) (k:Nat) (h:w.heap[b]? =some (.cells arr ty (0,0))) (hf:Flat vs) (hn:off+k+vs.length<=arr.size):
  ∃ w',(storeCells ⟨b,off,none⟩ vs k).run P w= .ok () w' /\Rest w w' /\w'.heap.size=w.heap.size/\w'.heap[b]? =some (.cells (ZL arr (off+k) vs) ty (0,0))/\∀ j,j≠b->w'.heap[j]? =w.heap[j]? :=
 E_ vs w arr k (fun j _=>by simp) h hf hn
theorem run_loadCells {b off:Nat} {ty:TypeId} {fz:Nat×Nat} (w:World) {arr:Array Value} (h:w.heap[b]? =some (.cells arr ty fz)) {n:Nat} (hn:off+n<=arr.size):(loadCells ⟨b,off,none⟩ n).run P w= .ok (A4 arr off n).toArray w:=by
 have hl:(A4 arr off n).length=n:=by unfold A4;simp;omega
 have:=run_loadCells_list (P:=P) w ⟨b,off,none⟩ (A4 arr off n) (fun j v hj=>by
  rw[BE] at hj
  split at hj
  ·rw[DJ];simp [World.cell?,h,hj]
  ·cases hj)
 rw[hl] at this
 exact this
theorem OM {w:World} {m:Nm} {arr:Array Value} {ty:TypeId} {fz:Nat×Nat} {size:Nat} (hn:m.nil=false) (h:w.heap[m.A_]? =some (.cells arr ty fz)) (hs:m.off+m.len*size<=arr.size):
  (Builtin.firstCells size m.len (.slice m.ad m.len m.cap)).run P w= .ok (A4 arr m.off (m.len*size)).toArray w:=by
 simp only[Nm.ad,hn,XU,Q_]
 exact run_loadCells w h hs
theorem j_ (w:World) (t:TypeId) (v:Value):(newVar t v).run P w= .ok ⟨w.heap.size,0,none⟩ (w.alloc (.cells v.cells t)):=by
 simp [newVar,newRow]
theorem BB {s:Sem Value} {w w' :World} {v:Value} (h:s.run P w= .ok v w'):(do pure (Next.value (<-s)):Sem Next).run P w= .ok (.value v) w' :=by
 rw[Sem.run_bind,h];rfl
theorem FJ {w:World} {t0 t1:TypeId} {ts:Array TypeId} {ty e e1:TypeId} {q:TypeInfo} {a b:Option Addr} {len cap n c:Nat} {news:List Value} {w' :World}
  (h0:ts[0]? =some t0) (h1:ts[1]? =some t1) (hu:P.underlying t0=some (.slice e)) (tP:P.underlying t1=some (.slice e1)) (hq:P.info? e=some q)
  (BV:(Builtin.firstCells q.size n (.slice b n c)).run P w= .ok news.toArray w) (hS:len+n<=cap)
  (hst:match a with|some p=>(storeCells (p.add (len*q.size)) news).run P w= .ok () w' |none=>w' =w):
  (Builtin.append_ ts ty #[.slice a len cap,.slice b n c]).run P w= .ok (.slice a (len+n) cap) w' :=by
 cases a with
 |none=>
  simp only at hst;subst hst
  simp [Builtin.append_,h0,h1,run_underlying hu,run_underlying tP,sizeOf,typeInfo,hq,Builtin.lenOf,hS,BV]
 |some p=>
  simp only at hst
  simp [Builtin.append_,h0,h1,run_underlying hu,run_underlying tP,sizeOf,typeInfo,hq,Builtin.lenOf,hS,BV,hst]
theorem run_append_grow {w:World} {t0 t1:TypeId} {ts:Array TypeId} {ty e e1:TypeId} {q:TypeInfo} {zv:Value} {a b:Option Addr} {len cap n c:Nat} {news olds:List Value}
  (h0:ts[0]? =some t0) (h1:ts[1]? =some t1) (hu:P.underlying t0=some (.slice e)) (tP:P.underlying t1=some (.slice e1)) (hq:P.info? e=some q) (hz:q.zero=some zv) (hb:q.bytes≠0)
  (BV:(Builtin.firstCells q.size n (.slice b n c)).run P w.drew= .ok news.toArray w.drew) (hold:(Builtin.firstCells q.size len (.slice a len cap)).run P w.drew= .ok olds.toArray w.drew)
  (hS:cap<len+n) (hby:(len+n)*q.bytes<=140737488355328):
  ∃ c',len+n<=c' /\(Builtin.append_ ts ty #[.slice a len cap,.slice b n c]).run P w= .ok (.slice (some ⟨w.heap.size,0,none⟩) (len+n) c')
   (w.drew.alloc (.cells (olds.toArray++news.toArray++Builtin.zeroCells zv.cells (c' -(len+n))) e)):=by
 have h48:¬(281474976710656<Builtin.nextslicecap (len+n) cap*q.bytes):=by
  have:=growslice_fits (need:=len+n) (old:=cap) (bytes:=q.bytes) hS hby
  omega
 have hnc:¬(len+n<=cap):=by omega
 refine⟨grownCap w (len+n) cap e,Nat.le_add_right _ _, ?_⟩
 simp [Builtin.append_,h0,h1,run_underlying hu,run_underlying tP,sizeOf,typeInfo,zeroValue,hq,hz,Builtin.lenOf,hnc,hb,h48,Question.forced,BV,hold,newRow,grownCap]
 congr 2
 apply SS
 simp [hD]
theorem run_makeSlice {E:Env} (w:World) {t e:TypeId} {q:TypeInfo} {z:List SV} {k k' :IntKind} {n m:Int} (hu:P.underlying t=some (.slice e)) (hq:P.info? e=some q) (hz:H2 P e=some z) (hs:z.length=q.size)
  (h0:0<=n) (h1:n<=m) (h2:m*q.bytes<=140737488355328) (h3:I64 m):
  (Instr.makeSlice t (.int k n) (.int k' m)).run P w= .ok (.slice (some ⟨w.heap.size,0,none⟩) n.toNat m.toNat)
   (w.alloc (.cells ((Array.range (m.toNat*z.length)).map fun i=>(AH E z).toArray[i%(AH E z).toArray.size]!) e)):=by
 obtain⟨zv,hzr,qL⟩:=LP (E:=E) (P:=P) w hz
 have hn:I64 n:=⟨by have:=h3.1;omega,by have:=h3.2;omega⟩
 have e1:=InK.wrap (k:= .i64) hn
 have e2:=InK.wrap (k:= .i64) h3
 have c1:¬m<0:=by omega
 have hm2:(q.bytes:Int)*m<=140737488355328:=by rw[Int.mul_comm];exact h2
 have c2:¬(281474976710656<(q.bytes:Int)*m):=by omega
 have c3:¬n<0:=by omega
 have c4:¬m<n:=by omega
 by_cases hz0:m.toNat*q.size=0
 ·simp [Instr.makeSlice,run_underlying hu,asInt,asIntOf,typeInfo,hq,e1,e2,c1,c2,c3,c4,askRoom,sizeOf,hz0,newRow,hs]
  rw[show Array.range 0= #[] from by decide]
  simp
 ·simp [Instr.makeSlice,run_underlying hu,asInt,asIntOf,typeInfo,hq,e1,e2,c1,c2,c3,c4,askRoom,sizeOf,hz0,newRow,hs,hzr,qL]
end
def fresh (z:List SV) (n size:Nat):List SV:=(List.range n).map fun i=>z.getD (i%size) AQ
theorem fN {E:Env} {z:List SV} {len size:Nat} (h:z.length=size):
  AH E (fresh z (len*size) size)=((Array.range (len*size)).map fun i=>(AH E z).toArray[i%(AH E z).toArray.size]!).toList:=by
 unfold fresh
 rw[CX,PL,dN,Array.toList_range]
 apply VB
 intro i hi
 subst h
 rcases ADF z.length with h0|h0
 ·rw[h0] at hi;simp at hi
 ·have hl:i%z.length<z.length:=Nat.mod_lt _ h0
  have e:(AH E z).toArray.size=z.length:=by simp [AL]
  rw[e]
  simp [C5,KA hl]
end Go.V3
