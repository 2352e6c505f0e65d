import Derived.WalkKit
import Derived.Deep.Quiet
import Derived.Deep.LoopGhost
import Derived.Scope
set_option linter.unusedVariables false
set_option linter.unusedSimpArgs false
namespace Go.V3
abbrev AY := @Option.some.injEq
abbrev A9 := @Option.bind_some
abbrev AA := @if_pos
abbrev AB := @if_neg
abbrev C3 := @Prod.mk.injEq
abbrev EV := @List.mem_append
abbrev NB := @List.getElem?_eq_getElem
abbrev I3 := @Int.toNat_natCast
abbrev SO := @List.getElem?_eq_none
abbrev I4 := @not_not_intro
abbrev HW := @List.length_singleton
abbrev F6 := @List.mem_singleton
abbrev C0 := @List.mem_map
abbrev ER := @List.length_set
abbrev G4 := @Bool.and_eq_true
abbrev I5 := @List.length_append
abbrev IQ := @decide_eq_true_eq
abbrev G5 := @List.append_nil
abbrev O1 := @List.getElem?_cons_zero
abbrev I6 := @List.append_assoc
abbrev ED := @Nat.le_refl
abbrev F7 := @List.mem_cons
abbrev T5 := @List.getElem?_append_right
abbrev T6 := @List.getElem?_append_left
abbrev J9 := @List.all_eq_true
abbrev HX := @decide_eq_true
abbrev N2 := @decide_eq_true_iff
abbrev GY := @Nat.lt_or_ge
abbrev S7 := @List.mem_cons_of_mem
abbrev N3 := @List.length_cons
abbrev MV := @decide_eq_false
abbrev PL := @List.nodup_append
abbrev I7 := @Nat.zero_add
abbrev YK := @decide_eq_false_iff_not
abbrev T7 := @List.map_congr_left
abbrev RM := @Bool.not_eq_true'
abbrev K0 := @List.map_cons
abbrev T8 := @Bool.false_eq_true
abbrev SP := @List.take_length
abbrev NI := @Nat.add_assoc
abbrev T9 := @List.ext_getElem?
abbrev L3 := @Nat.add_zero
abbrev YL := @List.mem_of_getElem?
abbrev ZP := @List.length_replicate
abbrev gM := @Array.getElem?_toList
abbrev T_ := @List.nodup_cons
abbrev ZQ := @List.getElem?_drop
abbrev ZR := @List.pairwise_cons
abbrev qP := @List.getD_eq_getElem?_getD
abbrev U7 := @List.length_nil
abbrev VM := @Option.some.inj
abbrev YM := @Nat.mod_eq_of_lt
abbrev WW := @List.length_map
abbrev uA := @List.getElem?_eq_some_iff
abbrev qQ := @List.getElem?_replicate
abbrev uB := @Classical.byContradiction
abbrev YN := @List.mem_filter
abbrev AAO := @Int.mul_le_mul_of_nonneg_right
abbrev oX := @List.length_filter_le
abbrev jG := @List.getElem?_take
abbrev gN := @of_decide_eq_true
abbrev l8 := @List.length_pos_iff
abbrev S8 := @List.map_map
abbrev ZS := @List.map_append
abbrev ZT := @Option.map_some
abbrev GA := @if_true
abbrev uC := @List.getElem?_cons_succ
abbrev qR := @List.getElem?_toArray
abbrev qS := @Nat.mul_le_mul_right
abbrev AAP := @Array.getElem?_append_left
abbrev oY := @BitVec.toNat_ofNat
abbrev oZ := @Nat.lt_of_lt_of_le
abbrev gO := @Bool.eq_iff_iff
abbrev dR := @List.nodup_nil
abbrev qT := @List.getElem_of_mem
abbrev qU := @Int.toNat_of_nonneg
abbrev xX := @Int.le_ediv_iff_mul_le
abbrev jH := @List.cons.injEq
abbrev qV := @BitVec.toNat_ofInt
abbrev xY := @BitVec.eq_of_toNat_eq
abbrev AIN := @Nat.and_two_pow_sub_one_eq_mod
abbrev AAQ := @Option.bind_eq_some_iff
abbrev o7 := @decide_eq_decide
abbrev qW := @List.getElem?_set
abbrev AE8 := @List.pairwise_iff_getElem
abbrev xZ := @List.contains_eq_mem
abbrev x5 := @List.mem_iff_getElem
abbrev AAR := @Array.getElem?_eq_none
abbrev AAS := @Int.ediv_lt_iff_lt_mul
abbrev o8 := @List.nil_append
abbrev x6 := @Array.getElem?_push
abbrev l9 := @List.mem_range
abbrev qX := @List.getElem_map
abbrev qY := @List.filter_cons
abbrev ZU := @Nat.add_mul
abbrev x7 := @List.filter_append
abbrev AE9 := @Nat.div_div_eq_div_mul
abbrev AIO := @List.drop_eq_getElem_cons
abbrev AIP := @Decidable.byContradiction
abbrev AIQ := @List.getElem_append_right
abbrev fV := @Nat.div_eq_of_lt
abbrev I9 := @if_false
abbrev fW := @Array.toList_map
abbrev AAT := @Int.mul_le_mul_of_nonneg_left
abbrev AAU := @Array.getElem?_setIfInBounds
abbrev S9 := @Int.le_refl
abbrev nM := @Int.emod_lt_of_pos
abbrev P9 := @Nat.mod_lt
abbrev qZ := @List.pairwise_append
abbrev jI := @Option.getD_some
abbrev nN := @List.filter_congr
abbrev nO := @Int.compare_eq_lt
abbrev nP := @Int.compare_eq_gt
abbrev AAV := @Nat.shiftRight_eq_div_pow
abbrev AAW := @Nat.add_mul_mod_self_left
abbrev jJ := @List.foldl_cons
abbrev vI := @List.take_append_drop
abbrev jK := @Nat.two_pow_pos
abbrev jL := @Int.emod_nonneg
abbrev YA := @iff_of_false
abbrev AAX := @BitVec.toNat_ushiftRight
abbrev nQ := @List.cons_append
abbrev nR := @List.mem_flatten
abbrev vJ := @List.mem_of_mem_take
abbrev vK := @List.mem_of_mem_drop
abbrev vL := @List.mem_append_left
abbrev ZV := @Int.add_zero
abbrev q_ := @BitVec.toNat_udiv
abbrev UH := @beq_iff_eq
abbrev rA := @Function.comp_def
abbrev nS := @Bool.or_eq_true
abbrev YB := @iff_of_true
abbrev vM := @List.filter_sublist
abbrev N5 := @congrArg
abbrev rB := @List.not_mem_nil
abbrev rC := @BitVec.toNat_and
abbrev fX := @Nat.le_trans
abbrev fY := @Nat.mul_comm
abbrev YC := @Array.ext'
open Go
structure ATO where
 l:List Nat
attribute [class] ATO
instance AZA:ATO:=⟨[]⟩
structure ATP where
 l:Nat->List Nat
attribute [class] ATP
instance AZ6:ATP:=⟨fun _=>[]⟩
structure ATQ where
 pre:List Value
 post:List Value
attribute [class] ATQ
instance AZ7:ATQ:=⟨[],[]⟩
structure ATR where
 b:Bool
attribute [class] ATR
instance AZ8:ATR:=⟨false⟩
structure Hd0 where
 B5:Nat
 off:Nat
 nil:Bool
 len:Nat
 cap:Nat
 UA:Option Addr
 fz:Bool
structure ATS where
 l:Nat->Hd0
attribute [class] ATS
instance AZ9:ATS:=⟨fun _=>⟨0,0,true,0,0,none,false⟩⟩
structure Nm where
 B5:Nat
 off:Nat
 nil:Bool
 len:Nat
 cap:Nat
 UA:Option Addr
 [ins:ATO]
 [pp:ATQ]
 [fz:ATR]
 [hd:ATS]
def Nm.fr (m:Nm) (n:Nat):Nat×Nat:=bif m.fz.b then (n,n+1) else (0,0)
theorem Nm.x8 (m:Nm) {n k:Nat} (h:k<n):¬((m.fr n).1<=k/\k<(m.fr n).2):=by
 unfold Nm.fr
 cases m.fz.b
 ·simp
 ·simp;omega
def Nm.arr (m:Nm) (l:List Value):Array Value:=(m.pp.pre++l++m.pp.post).toArray
def Nm.ad (m:Nm):Option Addr:=if m.nil=true then m.UA else some ⟨m.B5,m.off,none⟩
def Hd0.nm (h:Hd0):Nm:={ B5:=h.B5,off:=h.off,nil:=h.nil,len:=h.len,cap:=h.cap,UA:=h.UA,fz:=⟨h.fz⟩ }
def Nm.h0 (m:Nm):Hd0:=⟨m.B5,m.off,m.nil,m.len,m.cap,m.UA,m.fz.b⟩
def Nm.hn (m:Nm) (k:Nat):Nm:=(m.hd.l k).nm
structure Env where
 nm:Nat->Nm
 ds:Nat->Value
 [ins:ATP]
inductive SV where
 |int (k:IntKind) (n:Int)
 |u64 (x:BitVec 64)
 |bool (b:Bool)
 |NJ (b:Bool)
 |prop (p:Prop) (d:Decidable p)
 |str (s:ByteArray)
 |NC (n:Nat)
 |nf (o:Option Nat) (i:Nat)
 |KX
 |ptr (a:Option Addr)
 |loc (i off:Nat)
 |el (i k sz off:Nat)
 |MB (i:Nat)
 |sub (i lo n sz:Nat)
 |l5 (t:Nat)
 |raw (v:Value)
 |agg (cs:List SV)
 |tup (vs:List SV)
 |mpv (i:Nat)
 |vN (f:FuncId) (cs:List SV)
 |tsl (i k q:Nat)
 |tel (i k q j:Nat)
def UI (k:Nat):Nat:=(k%2)*2 ^ 63+0x7ff0000000000000+1+(k / 2)%(2 ^ 52-1)
def l_ (a:Option Addr) (n:Nat):Option Addr:=a.map (·.add n)
mutual
def SV.den (E:Env):SV->Value
 | .int k n=> .int k n
 | .u64 x=> .int .u64 (x.toNat:Int)
 | .bool b=> .bool b
 | .NJ b=> .bool b
 | .prop p d=> .bool (@decide p d)
 | .str s=> .string s
 | .NC n=> .float .f64 n
 | .nf o i=> .float .f64 (o.getD (UI (E.nm i).B5))
 | .KX=> .slice none 0 0
 | .ptr a=> .pointer a
 | .loc i off=> .pointer (some ⟨(E.nm i).B5,(E.nm i).off+off,none⟩)
 | .el i k sz off=> .pointer (some ⟨(E.nm i).B5,(E.nm i).off+(k*sz+off),none⟩)
 | .MB i=> .slice (E.nm i).ad (E.nm i).len (E.nm i).cap
 | .sub i lo n sz=> .slice (if (E.nm i).cap=lo then (E.nm i).ad else l_ (E.nm i).ad (lo*sz)) n ((E.nm i).cap-lo)
 | .l5 t=>E.ds t
 | .raw v=>v
 | .agg cs=> .agg (AK E cs).toArray
 | .tup vs=> .tuple (AK E vs).toArray
 | .mpv i=> .map (some (E.nm i).B5)
 | .vN f cs=> .func (.func f) #[] (AK E cs).toArray
 | .tsl i k q=> .slice ((E.nm i).hn (k*2+q)).ad ((E.nm i).hn (k*2+q)).len ((E.nm i).hn (k*2+q)).cap
 | .tel i k q j=> .pointer (some ⟨((E.nm i).hn (k*2+q)).B5,((E.nm i).hn (k*2+q)).off+j,none⟩)
def AK (E:Env):List SV->List Value
 | []=>[]
 |v::r=>v.den E::AK E r
end
section
variable {E:Env}
theorem EW (l:List SV):AK E l=l.map (SV.den E):=by
 induction l with
 |nil=>rfl
 |cons v r ih=>simp [AK,ih]
def AV:SV:= .raw undef
def ev (fr:List SV):Operand->SV
 | .tmp t=>fr.getD t AV
 | .const v=>match v with
  | .int .u64 n=>if 0<=n/\n<18446744073709551616 then .u64 (BitVec.ofNat 64 n.toNat) else .raw (.int .u64 n)
  | .int k n=> .int k n
  | .bool b=> .NJ b
  | .string s=> .str s
  | .float .f64 n=> .NC n
  | .slice none 0 0=> .KX
  | .pointer a=> .ptr a
  |v=> .raw v
 | .global g=> .ptr (some ⟨g,0,none⟩)
 | .func f=> .raw (.func (.func f) #[] #[])
def Sim (E:Env) (fr:List SV) (a:Act):Prop:=a.tmps=(AK E fr).toArray/\a.defers=[]
theorem vO (fr:List SV) (t:Nat):(AK E fr).getD t undef=((fr.getD t AV).den E):=by
 induction fr generalizing t with
 |nil=>simp [AK,AV,SV.den]
 |cons v r ih=>cases t with
  |zero=>simp [AK]
  |succ t=>simpa [AK] using ih t
theorem S_ {fr:List SV} {a:Act} (h:Sim E fr a) (x:Operand):a.eval x=((ev fr x).den E):=by
 cases x with
 |tmp t=>
  show a.tmps.getD t undef=_
  rw[h.1]
  have:=vO (E:=E) fr t
  simpa [ev] using this
 |const v=>
  show v=_
  cases v with
  |int k n=>
   cases k <;> try rfl
   simp only[ev]
   split
   ·rename_i hn
    simp only[SV.den,oY]
    congr 1
    omega
   ·rfl
  |float k n=>cases k <;> rfl
  |slice a l c=>
   simp only[ev]
   split <;> first|rfl|(simp_all [SV.den])
  |_=>rfl
 |global g=>rfl
 |func f=>rfl
def P_ (fr:List SV) (dst:Option Tmp) (v:SV):List SV:=
 match dst with
 |some d=>fr.set d v
 |none=>fr
theorem ZW (fr:List SV) (d:Nat) (v:SV):AK E (fr.set d v)=(AK E fr).set d (v.den E):=by
 induction fr generalizing d with
 |nil=>rfl
 |cons x r ih=>cases d with
  |zero=>rfl
  |succ d=>simp [AK,ih]
theorem Sim.put {fr:List SV} {a:Act} (h:Sim E fr a) (dst:Option Tmp) (v:SV):Sim E (P_ fr dst v) (a.put dst (v.den E)):=by
 cases dst with
 |none=>exact h
 |some d=>
  refine⟨?_,h.2⟩
  show a.tmps.setIfInBounds d (v.den E)=_
  rw[h.1]
  simp [P_,ZW]
structure Rest (w w' :World):Prop where
 os:w'.os=w.os
 tape:w'.tape=w.tape
 output:w'.output=w.output
theorem Rest.refl (w:World):Rest w w:=⟨rfl,rfl,rfl⟩
theorem Rest.trans {a b c:World} (h:Rest a b) (k:Rest b c):Rest a c:=⟨k.os.trans h.os,k.tape.trans h.tape,k.output.trans h.output⟩
def I64 (e:Int):Prop:= -9223372036854775808<=e/\e<=9223372036854775807
def U64 (e:Int):Prop:=0<=e/\e<=18446744073709551615
def InK:IntKind->Int->Prop
 | .i64,e=>I64 e
 | .u64,e=>U64 e
 | .i8,e=> -128<=e/\e<=127
 | .i16,e=> -32768<=e/\e<=32767
 | .i32,e=> -2147483648<=e/\e<=2147483647
 | .u8,e=>0<=e/\e<=255
 | .u16,e=>0<=e/\e<=65535
 | .u32,e=>0<=e/\e<=4294967295
theorem InK.wrap {k:IntKind} {e:Int} (h:InK k e):k.wrap e=e:=by
 cases k
 ·exact IntWalk.i8_in e h
 ·exact IntWalk.i16_in e h
 ·exact IntWalk.i32_in e h
 ·exact IntWalk.i64_in e h
 ·exact IntWalk.u8_in e h
 ·exact IntWalk.u16_in e h
 ·exact IntWalk.u32_in e h
 ·exact IntWalk.u64_in e h
def JY (s:ByteArray) (i:Nat):Int:=((s.data[i]?.getD 0).toNat:Int)
structure DP where
 p:Prop
 d:Decidable p
def cnd:Option DP->Prop
 |none=>True
 |some q=>q.p
abbrev Pu:=Option (Option DP×SV)
def val (v:SV):Pu:=some (none,v)
def T0 (p:Prop) [d:Decidable p] (v:SV):Pu:=some (some ⟨p,d⟩,v)
def cnt:SV->Option (DP×Nat)
 | .int _ n=>some (⟨0<=n,inferInstance⟩,n.toNat)
 | .u64 x=>some (⟨True,inferInstance⟩,x.toNat)
 |_=>none
def shE (op:BinOp) (x c:SV):Pu:=
 match cnt c with
 |none=>none
 |some (q,n)=>match op,x with
  | .shl,.int .i64 a=> @T0 q.p q.d (.int .i64 (IntKind.i64.wrap (a*2 ^ min n 64)))
  | .shr,.int .i64 a=> @T0 q.p q.d (.int .i64 (a / 2 ^ min n 64))
  | .shl,.u64 b=> @T0 q.p q.d (.u64 (b <<< n))
  | .shr,.u64 b=> @T0 q.p q.d (.u64 (b >>> n))
  |_,_=>none
def vP (op:BinOp) (a b:Int):Int:=
 let x:=BitVec.ofInt 64 a
 let y:=BitVec.ofInt 64 b
 IntKind.i64.wrap (match op with| .and=>x &&& y| .or=>x|||y| .xor=>x ^^^ y|_=>x &&& ~~~y).toNat
def APJ (op:BinOp) (k:IntKind) (a b:Int):Pu:=
 match op with
 | .add=>val (.int k (k.wrap (a+b)))
 | .sub=>val (.int k (k.wrap (a-b)))
 | .mul=>val (.int k (k.wrap (a*b)))
 | .quo=>T0 (¬b=0) (.int k (k.wrap (a.tdiv b)))
 | .rem=>T0 (¬b=0) (.int k (a.tmod b))
 | .and| .or| .xor| .andNot=>match k with| .i64=>val (.int .i64 (vP op a b))|_=>none
 | .eql=>val (.prop (a=b) inferInstance)
 | .neq=>val (.prop (¬a=b) inferInstance)
 | .lss=>val (.prop (a<b) inferInstance)
 | .leq=>val (.prop (a<=b) inferInstance)
 | .gtr=>val (.prop (a>b) inferInstance)
 | .geq=>val (.prop (a≥b) inferInstance)
 |_=>none
def APK (op:BinOp) (a b:BitVec 64):Pu:=
 match op with
 | .add=>val (.u64 (a+b))
 | .sub=>val (.u64 (a-b))
 | .mul=>val (.u64 (a*b))
 | .quo=>T0 (¬b=0#64) (.u64 (a / b))
 | .rem=>T0 (¬b=0#64) (.u64 (a%b))
 | .and=>val (.u64 (a &&& b))
 | .or=>val (.u64 (a|||b))
 | .xor=>val (.u64 (a ^^^ b))
 | .andNot=>val (.u64 (a &&& ~~~b))
 | .eql=>val (.prop (a=b) inferInstance)
 | .neq=>val (.prop (¬a=b) inferInstance)
 | .lss=>val (.prop (a.toNat<b.toNat) inferInstance)
 | .leq=>val (.prop (a.toNat<=b.toNat) inferInstance)
 | .gtr=>val (.prop (a.toNat>b.toNat) inferInstance)
 | .geq=>val (.prop (a.toNat≥b.toNat) inferInstance)
 |_=>none
def C4 (a b:Nat):Option Ordering:=FloatKind.f64.format.order a b
def AWA (a:Nat):Nat:=Op.negFloat .f64 a
def FI (op:BinOp) (a b:Nat):Option Nat:=match op with
 | .add=>FloatKind.f64.format.add a b
 | .sub=>FloatKind.f64.format.sub a b
 | .mul=>FloatKind.f64.format.mul a b
 | .quo=>FloatKind.f64.format.div a b
 |_=>none
def ZX (n:Int):Nat:=FloatKind.f64.nearest n
def WX (a:Nat):Option Int:=(FloatKind.f64.decode a).toInt .zero
def fIn (k:IntKind) (a:Nat):Bool:=match WX a with
 |some n=>decide (k.min<=n/\n<=k.max)
 |none=>false
def cR (a:Nat):Bool:=(FloatKind.f64.decode a).neg
def AWB (a b:Nat):Nat:=match C4 a b with
 |some .lt=>b
 |some .gt=>a
 |_=>if cR a=true then b else a
def AWC (a b:Nat):Nat:=match C4 a b with
 |some .lt=>a
 |some .gt=>b
 |_=>if cR a=true then a else b
def APL (op:BinOp) (a b:Nat):Pu:=
 match op with
 | .add| .sub| .mul| .quo=>T0 ((FI op a b).isSome=true) (.NC ((FI op a b).getD 0))
 | .eql=>val (.prop (C4 a b=some .eq) inferInstance)
 | .neq=>val (.prop (¬C4 a b=some .eq) inferInstance)
 | .lss=>val (.prop (C4 a b=some .lt) inferInstance)
 | .leq=>val (.prop (C4 a b=some .lt\/C4 a b=some .eq) inferInstance)
 | .gtr=>val (.prop (C4 a b=some .gt) inferInstance)
 | .geq=>val (.prop (C4 a b=some .gt\/C4 a b=some .eq) inferInstance)
 |_=>none
def jM (a b:Option Nat):Option Ordering:=match a,b with
 |some a,some b=>C4 a b
 |_,_=>none
def nfE (op:BinOp) (a b:Option Nat):Pu:=
 match op with
 | .eql=>val (.prop (jM a b=some .eq) inferInstance)
 | .neq=>val (.prop (¬jM a b=some .eq) inferInstance)
 | .lss=>val (.prop (jM a b=some .lt) inferInstance)
 | .leq=>val (.prop (jM a b=some .lt\/jM a b=some .eq) inferInstance)
 | .gtr=>val (.prop (jM a b=some .gt) inferInstance)
 | .geq=>val (.prop (jM a b=some .gt\/jM a b=some .eq) inferInstance)
 |_=>none
def toB:SV->Option Bool
 | .bool b=>some b
 | .NJ b=>some b
 | .prop p d=>some (@decide p d)
 |_=>none
def x9 (P:Program) (op:BinOp) (t:TypeId) (x y:SV):Pu:=
 match op with
 | .shl| .shr=>shE op x y
 |op=>match x,y with
  | .int k a,.int k' b=>if k=k' then APJ op k a b else none
  | .u64 a,.u64 b=>APK op a b
  | .str a,.str b=>match op with
   | .eql=>val (.prop (a=b) inferInstance)
   | .neq=>val (.prop (¬a=b) inferInstance)
   | .add=>T0 (a.size+b.size<=9223372036854775807) (.str (a++b))
   |_=>none
  | .NC a,.NC b=>APL op a b
  | .nf a _,.nf b _=>nfE op a b
  | .nf a _,.NC b=>nfE op a (some b)
  | .NC a,.nf b _=>nfE op (some a) b
  |x,y=>match toB x,toB y,P.underlying t,op with
   |some a,some b,some .bool,.eql=>val (.prop (a=b) inferInstance)
   |some a,some b,some .bool,.neq=>val (.prop (¬a=b) inferInstance)
   |_,_,_,_=>none
def unE (op:UnOp) (x:SV):Pu:=
 match op,x with
 | .not,.bool b=>val (.bool (!b))
 | .not,.NJ b=>val (.NJ (!b))
 | .not,.prop p _=>val (.prop (¬p) inferInstance)
 | .neg,.int .i64 n=>val (.int .i64 (IntKind.i64.wrap (0-n)))
 | .neg,.u64 x=>val (.u64 (0#64-x))
 | .neg,.NC b=>val (.NC (AWA b))
 | .xor,.u64 x=>val (.u64 (~~~x))
 |_,_=>none
def AGJ (P:Program) (src dst:TypeId) (x:SV):Pu:=
 match P.underlying src,P.underlying dst,x with
 |some (.int _),some (.int kd),.int _ n=>match kd with
  | .u64=>val (.u64 (BitVec.ofInt 64 n))
  |kd=>val (.int kd (kd.wrap n))
 |some (.int _),some (.int kd),.u64 b=>match kd with
  | .u64=>val (.u64 b)
  |kd=>val (.int kd (kd.wrap b.toNat))
 |some .string,some .string,.str s=>val (.str s)
 |some (.int _),some (.float .f64),.int _ n=>val (.NC (ZX n))
 |some (.int _),some (.float .f64),.u64 x=>val (.NC (ZX (x.toNat:Int)))
 |some (.float _),some (.int kd),.NC b=>(match kd with
  | .u64=>T0 (fIn .u64 b=true) (.u64 (BitVec.ofInt 64 ((WX b).getD 0)))
  |kd=>T0 (fIn kd b=true) (.int kd ((WX b).getD 0)))
 |some (.float _),some (.float .f64),.NC b=>val (.NC b)
 |_,_,_=>none
def HY (P:Program) (t:TypeId):Bool:=
 match P.underlying t with
 |some (.struct _)=>true
 |some (.array _ _)=>true
 |_=>false
def AAY (P:Program) (t:TypeId) (cs:List SV) (off:Nat):Pu:=
 match P.info? t,P.underlying t with
 |some i,some _=>if HY P t then val (.agg ((cs.drop off).take i.size)) else match cs[off]? with
  |some v=>val v
  |none=>none
 |_,_=>none
def gP:List Bool->Bool
 | []=>true
 | [b]=>b
 |b::r=>b && gP r
def AL4 (P:Program) (f:Field) (xs ys:List SV):Option Bool:=
 match f.name != "_", P.underlying f.type, xs[f.offset]?, ys[f.offset]?, P.info? f.type with
 |true,some (.int _),some (.int k a),some (.int k' b),some _=>if k=k' then some (decide (a=b)) else none
 |_,_,_,_,_=>none
def mA (P:Program) (xs ys:List SV):List Field->Option (List Bool)
 | []=>some []
 |f::r=>match AL4 P f xs ys,mA P xs ys r with
  |some b,some l=>some (b::l)
  |_,_=>none
def APM (P:Program) (op:BinOp) (t:TypeId) (xs ys:List SV):Pu:=
 match P.underlying t with
 |some (.struct fs)=>match P.stoodInHeld t||P.eqGuardType P.depth t with
  |true=>none
  |false=>match mA P xs ys fs.toList,op with
   |some bs,.eql=>val (.bool (gP bs))
   |some bs,.neq=>val (.bool (!gP bs))
   |_,_=>none
 |_=>none
def AL5 (P:Program) (op:BinOp) (t:TypeId) (x y:SV):Pu:=
 match x,y with
 | .agg xs,.agg ys=>APM P op t xs ys
 |x,y=>x9 P op t x y
def x_ (P:Program) (t:TypeId) (x:SV) (f:Nat):Pu:=
 match P.underlying t,x with
 |some (.struct fs),.agg cs=>match fs[f]? with
  |some fd=>AAY P fd.type cs fd.offset
  |none=>none
 |_,_=>none
def jN (x:SV) (i:Nat):Pu:=
 match x with
 | .tup vs=>match vs[i]? with
  |some v=>val v
  |none=>none
 |_=>none
def BD:SV->List SV
 | .agg cs=>cs
 |v=>[v]
def DJ (cs:List SV) (off:Nat):List SV->List SV
 | []=>cs
 |v::r=>DJ (cs.set off v) (off+1) r
def ZY (place:Nat->Option (Nat×Nat)) (cs:List SV):List (Nat×SV)->Option (List SV)
 | []=>some cs
 |(i,v)::rest=>match place i with
  |none=>none
  |some (off,size)=>if (BD v).length=size/\off+(BD v).length<=cs.length then ZY place (DJ cs off (BD v)) rest else none
def MW:SV->Bool
 | .raw (.agg _)=>true
 | .l5 _=>true
 |_=>false
def TC (l:List (Nat×SV)):Bool:=l.all fun q=> !MW q.2
def RN:Value->SV
 | .int .u64 n=>if 0<=n/\n<18446744073709551616 then .u64 (BitVec.ofNat 64 n.toNat) else .raw (.int .u64 n)
 | .int k n=> .int k n
 | .bool b=> .NJ b
 | .string s=> .str s
 | .float .f64 n=> .NC n
 | .slice none 0 0=> .KX
 | .pointer a=> .ptr a
 |v=> .raw v
def MX (P:Program) (t:TypeId):Option (List SV):=
 match P.info? t with
 |some i=>match i.zero with
  |some z=>some (z.cells.toList.map RN)
  |none=>none
 |none=>none
def N6 (P:Program):List Field->Option (List (Nat×Nat))
 | []=>some []
 |f::r=>match P.info? f.type,N6 P r with
  |some i,some l=>some ((f.offset,i.size)::l)
  |_,_=>none
def yA (P:Program) (t:TypeId) (parts:List (Nat×SV)):Pu:=
 if TC parts=false then none else
 match MX P t,P.underlying t with
 |some z,some (.struct fs)=>match N6 P fs.toList with
  |some pl=>match ZY (fun i=>pl[i]?) z parts with
   |some cs=>val (.agg cs)
   |none=>none
  |none=>none
 |some z,some (.array _ e)=>match P.info? e with
  |some i=>match ZY (fun j=>some (j*i.size,i.size)) z parts with
   |some cs=>val (.agg cs)
   |none=>none
  |none=>none
 |_,_=>none
def idxOf:SV->Option Int
 | .int _ n=>some n
 | .u64 x=>some x.toNat
 |_=>none
def WY (P:Program) (t:TypeId) (x i:SV):Pu:=
 match P.underlying t,x,idxOf i with
 |some (.array len e),.loc i off,some n=>match P.info? e with
  |some q=>T0 (0<=n/\n<len) (.loc i (off+n.toNat*q.size))
  |none=>none
 |some (.array len e),.ptr (some ⟨g,off,none⟩),some n=>match P.info? e with
  |some q=>if q.size=1 then T0 (0<=n/\n<len) (.ptr (some ⟨g,off+n.toNat,none⟩)) else none
  |none=>none
 |_,_,_=>none
def WZ (P:Program) (t:TypeId) (x:SV) (f:Nat):Pu:=
 match P.underlying t,x with
 |some (.struct fs),.loc i off=>match fs[f]? with
  |some fd=>match P.info? fd.type with
   |some q=>if q.size=0 then none else val (.loc i (off+fd.offset))
   |none=>none
  |none=>none
 |some (.struct fs),.el i k sz off=>match fs[f]? with
  |some fd=>match P.info? fd.type with
   |some q=>if q.size=0 then none else val (.el i k sz (off+fd.offset))
   |none=>none
  |none=>none
 |_,_=>none
def bnd (x:Option SV) (d:Nat):Option (Option Int×Nat):=
 match x with
 |none=>some (none,d)
 |some x=>match idxOf x with
  |some n=>some (some n,n.toNat)
  |none=>none
@[reducible] def Bd (l:Option Int) (h:Option Int) (hn cap:Nat):Prop:=
 (match h with|some n=>0<=n/\n<=cap|none=>True)/\(match l with|some n=>0<=n/\n<=hn|none=>True)
instance (l h:Option Int) (hn cap:Nat):Decidable (Bd l h hn cap):=
 match h,l with
 |some n,some m=>inferInstanceAs (Decidable ((0<=n/\n<=cap)/\(0<=m/\m<=hn)))
 |some n,none=>inferInstanceAs (Decidable ((0<=n/\n<=cap)/\True))
 |none,some m=>inferInstanceAs (Decidable (True/\(0<=m/\m<=hn)))
 |none,none=>inferInstanceAs (Decidable (True/\True))
def yB (P:Program) (t:TypeId) (x:SV) (low high max:Option SV):Pu:=
 match P.underlying t,x,max with
 |some .string,.str s,none=>match bnd high s.size,bnd low 0 with
  |some (h,hn),some (l,ln)=>T0 (Bd l h hn s.size) (.str (s.extract ln hn))
  |_,_=>none
 |_,_,_=>none
def yC (P:Program) (t:TypeId) (x i:SV):Pu:=
 match P.underlying t,x,idxOf i with
 |some .string,.str s,some n=>T0 (0<=n/\n<s.size) (.int .u8 (JY s n.toNat))
 |_,_,_=>none
def APN (P:Program) (t:TypeId) (x:SV):Pu:=
 match P.underlying t,x with
 |some .string,.str s=>val (.int .i64 s.size)
 |some (.array n _),_=>val (.int .i64 n)
 |_,_=>none
def jO (P:Program) (b:Builtin) (argTypes:List TypeId) (args:List SV):Pu:=
 match b,argTypes,args with
 | .len,t::_,x::_=>APN P t x
 | .max,_,[.int k a,.int k' b]=>if k=k' then val (.int k (if b>a then b else a)) else none
 | .min,_,[.int k a,.int k' b]=>if k=k' then val (.int k (if b<a then b else a)) else none
 | .max,_,[.NC a,.NC b]=>T0 ((C4 a b).isSome=true) (.NC (AWB a b))
 | .min,_,[.NC a,.NC b]=>T0 ((C4 a b).isSome=true) (.NC (AWC a b))
 |_,_,_=>none
def ZZ (P:Program) (ρ:Operand->SV):Op->Pu
 | .move x=>val (ρ x)
 | .assign x=>val (ρ x)
 | .pick c a b=>match ρ c with
  | .NJ t=>val (if t then ρ a else ρ b)
  |_=>none
 | .binOp op t x y _=>AL5 P op t (ρ x) (ρ y)
 | .unOp op _ x=>unE op (ρ x)
 | .convert src dst x=>AGJ P src dst (ρ x)
 | .extract x i=>jN (ρ x) i
 | .field t x f=>x_ P t (ρ x) f
 | .build t parts=>yA P t (parts.toList.map fun q=>(q.1,ρ q.2))
 | .indexAddr t x i=>WY P t (ρ x) (ρ i)
 | .fieldAddr t x f=>WZ P t (ρ x) f
 | .slice t x l h m=>yB P t (ρ x) (l.map ρ) (h.map ρ) (m.map ρ)
 | .index t x i=>yC P t (ρ x) (ρ i)
 | .nilCheck x=>match ρ x with
  | .el i k sz off=>val (.el i k sz off)
  | .loc i off=>val (.loc i off)
  | .vN f cs=>val (.vN f cs)
  |_=>none
 | .makeFunc fn first captured=>match fn,first with
  | .func f,⟨[]⟩=>val (.vN f (captured.toList.map ρ))
  |_,_=>none
 | .call { callee:= .builtin b,args,argTypes }=>jO P b argTypes.toList (args.toList.map ρ)
 |_=>none
section
variable {P:Program} (w:World)
theorem UJ {x:SV} {b:Bool} (h:toB x=some b):(x.den E)= .bool b:=by
 cases x <;> simp_all [toB,SV.den]
theorem pR {c:SV} {q:DP} {n:Nat} (h:cnt c=some (q,n)) (hp:q.p):∃ k y,(c.den E)= .int k y/\0<=y/\y.toNat=n:=by
 cases c <;> simp only[cnt,AY,C3,reduceCtorEq] at h
 case int k y=>obtain⟨rfl,rfl⟩:=h;exact⟨k,y,rfl,hp,rfl⟩
 case u64 x=>obtain⟨rfl,rfl⟩:=h;exact⟨.u64,x.toNat,rfl,by omega,by simp⟩
theorem W0 (n:Nat) (h:n<2 ^ 64):IntKind.u64.wrap (n:Int)=n:=IntWalk.u64_in _ ⟨by omega,by omega⟩
theorem J5 (n:Int):IntKind.u64.wrap n=n%18446744073709551616:=IntKind.wrap_u64 n
def Pu.ok (r:Pu) (R:SV->Prop):Prop:=∀ p v,r=some (p,v)->cnd p->R v
theorem BC {v:SV} {R:SV->Prop} (h:R v):(val v).ok R:=by
 intro p v' he _;simp only[val,AY,C3] at he;obtain⟨-,rfl⟩:=he;exact h
theorem IS {q:Prop} [Decidable q] {v:SV} {R:SV->Prop} (h:q->R v):(T0 q v).ok R:=by
 intro p v' he hp;simp only[T0,AY,C3] at he;obtain⟨rfl,rfl⟩:=he;exact h hp
theorem ok_none {R:SV->Prop}:Pu.ok none R:=by intro p v h;cases h
def DX (E:Env) (P:Program) (s:Sem Value) (w:World) (v:SV):Prop:=s.run P w= .ok (v.den E) w
theorem AGK {k:IntKind} {a y:Int} {yk:IntKind} (hy:0<=y):(Op.shift .shl k a yk y).run P w= .ok (.int k (k.wrap (a*2 ^ (min y.toNat k.bits)))) w:=by
 unfold Op.shift;rw[AB (by omega)];rfl
theorem AGL {k:IntKind} {a y:Int} {yk:IntKind} (hy:0<=y):(Op.shift .shr k a yk y).run P w= .ok (.int k (a.fdiv (2 ^ (min y.toNat k.bits)))) w:=by
 unfold Op.shift;rw[AB (by omega)];rfl
theorem AAZ (n:Nat):(2:Int) ^ n=((2 ^ n:Nat):Int):=by simp
theorem APO (b:BitVec 64) (n:Nat):IntKind.u64.wrap ((b.toNat:Int)*2 ^ min n 64)=((b <<< n).toNat:Int):=by
 have h1:((b.toNat:Int)*2 ^ min n 64)=((b.toNat*2 ^ min n 64:Nat):Int):=by rw[AAZ];rfl
 rw[J5,h1,BitVec.toNat_shiftLeft,Nat.shiftLeft_eq]
 have h2:(18446744073709551616:Int)=((2 ^ 64:Nat):Int):=rfl
 rw[h2,←Int.natCast_emod]
 congr 1
 rcases Nat.le_total n 64 with hn|hn
 ·rw[Nat.min_eq_left hn]
 ·rw[Nat.min_eq_right hn]
  obtain⟨d,rfl⟩:=Nat.exists_eq_add_of_le hn
  rw[Nat.pow_add,←Nat.mul_assoc,Nat.mul_right_comm,Nat.mul_mod_left,Nat.mul_mod_left]
theorem fdiv_pow (a:Int) (n:Nat):a.fdiv (2 ^ n)=a / 2 ^ n:=Int.fdiv_eq_ediv_of_nonneg _ (Int.le_of_lt (Int.pow_pos (by decide)))
theorem APP (b:BitVec 64) (n:Nat):(b.toNat:Int).fdiv (2 ^ min n 64)=((b >>> n).toNat:Int):=by
 rw[fdiv_pow,AAZ]
 have h1:((b.toNat:Int) / ((2 ^ min n 64:Nat):Int))=((b.toNat / 2 ^ min n 64:Nat):Int):=rfl
 rw[h1,AAX,AAV]
 congr 1
 rcases Nat.le_total n 64 with hn|hn
 ·rw[Nat.min_eq_left hn]
 ·rw[Nat.min_eq_right hn]
  have hb:=b.isLt
  rw[fV hb,fV (oZ hb (Nat.pow_le_pow_right (by decide) hn))]
theorem binOp_shl (t:TypeId) {k yk:IntKind} {a y:Int}:binOp .shl t (.int k a) (.int yk y)=Op.shift .shl k a yk y:=rfl
theorem binOp_shr (t:TypeId) {k yk:IntKind} {a y:Int}:binOp .shr t (.int k a) (.int yk y)=Op.shift .shr k a yk y:=rfl
theorem AL6 (op:BinOp) (x c:SV) (t:TypeId):(shE op x c).ok (DX E P (binOp op t (x.den E) (c.den E)) w):=by
 unfold shE
 split
 ·exact ok_none
 ·rename_i q n hc
  split
  ·refine @IS _ q.d _ _ fun h1=> ?_
   obtain⟨yk,y,hcd,hy,rfl⟩:=pR hc h1
   rw[DX,hcd]
   simp only[SV.den,binOp_shl,AGK w hy,IntKind.bits]
  ·refine @IS _ q.d _ _ fun h1=> ?_
   obtain⟨yk,y,hcd,hy,rfl⟩:=pR hc h1
   rw[DX,hcd]
   simp only[SV.den,binOp_shr,AGL w hy,IntKind.bits,fdiv_pow]
  ·refine @IS _ q.d _ _ fun h1=> ?_
   obtain⟨yk,y,hcd,hy,rfl⟩:=pR hc h1
   rw[DX,hcd]
   simp only[SV.den,binOp_shl,AGK w hy,IntKind.bits,APO]
  ·refine @IS _ q.d _ _ fun h1=> ?_
   obtain⟨yk,y,hcd,hy,rfl⟩:=pR hc h1
   rw[DX,hcd]
   simp only[SV.den,binOp_shr,AGL w hy,IntKind.bits,APP]
  ·exact ok_none
theorem APQ (op:BinOp) (k:IntKind) (a b:Int) (t:TypeId) (h1:op≠ .shl) (h2:op≠ .shr):
  (APJ op k a b).ok (DX E P (binOp op t (.int k a) (.int k b)) w):=by
 have hk:¬(k≠k):=by simp
 cases op <;> simp only[APJ,ne_eq,not_true,reduceCtorEq,not_false_eq_true] at*
 case add=>exact BC (by simp [DX,binOp,Op.intArith,SV.den])
 case sub=>exact BC (by simp [DX,binOp,Op.intArith,SV.den])
 case mul=>exact BC (by simp [DX,binOp,Op.intArith,SV.den])
 case quo=>exact IS fun h=>by simp [DX,binOp,Op.intDiv,SV.den,h]
 case rem=>exact IS fun h=>by simp [DX,binOp,Op.intDiv,SV.den,h]
 case and=>split <;> first|exact ok_none|exact BC rfl
 case or=>split <;> first|exact ok_none|exact BC rfl
 case xor=>split <;> first|exact ok_none|exact BC rfl
 case andNot=>split <;> first|exact ok_none|exact BC rfl
 case eql=>exact BC (by simp [DX,binOp,Op.intCmp,SV.den];rfl)
 case neq=>exact BC (by simp [DX,binOp,Op.intCmp,SV.den];rfl)
 case lss=>exact BC (by simp [DX,binOp,Op.intCmp,SV.den])
 case leq=>exact BC (by simp [DX,binOp,Op.intCmp,SV.den])
 case gtr=>exact BC (by simp [DX,binOp,Op.intCmp,SV.den])
 case geq=>exact BC (by simp [DX,binOp,Op.intCmp,SV.den])
theorem nT (a b:BitVec 64):((a.toNat:Int)=(b.toNat:Int))↔a=b:=by
 rw[Int.ofNat_inj];exact BitVec.toNat_inj
theorem JA (a:BitVec 64):BitVec.ofInt 64 (a.toNat:Int)=a:=by simp
theorem APR (op:BinOp) (a b:BitVec 64) (t:TypeId) (h1:op≠ .shl) (h2:op≠ .shr):
  (APK op a b).ok (DX E P (binOp op t (.int .u64 a.toNat) (.int .u64 b.toNat)) w):=by
 have C7:=fun x:BitVec 64=>x.isLt
 have hw:∀ x:BitVec 64,IntKind.u64.wrap (x.toNat:Int)=x.toNat:=fun x=>W0 _ x.isLt
 have h64:(18446744073709551616:Int)=((2 ^ 64:Nat):Int):=rfl
 have hm:∀ n:Nat,(n:Int)%18446744073709551616=((n%2 ^ 64:Nat):Int):=fun n=>rfl
 have key:∀ (v:Value) (o:SV),(∀ x,o= .u64 x->v= .int .u64 (x.toNat:Int))->(∃ x,o= .u64 x)->(Result.ok v w=Result.ok (o.den E) w):=by
  rintro v o h ⟨x,rfl⟩;rw[h x rfl];rfl
 cases op <;> simp only[APK,ne_eq,not_true,reduceCtorEq,not_false_eq_true] at*
 case add=>
  refine BC ?_
  have e:IntKind.u64.wrap ((a.toNat:Int)+b.toNat)=((a+b).toNat:Int):=by
   rw[J5,BitVec.toNat_add,←Int.natCast_add,hm]
  show Result.ok (Value.int .u64 (IntKind.u64.wrap ((a.toNat:Int)+b.toNat))) w=_
  rw[e];rfl
 case sub=>
  refine BC ?_
  have e:IntKind.u64.wrap ((a.toNat:Int)-b.toNat)=((a-b).toNat:Int):=by
   rw[J5,BitVec.toNat_sub]
   have:=C7 a;have:=C7 b
   omega
  show Result.ok (Value.int .u64 (IntKind.u64.wrap ((a.toNat:Int)-b.toNat))) w=_
  rw[e];rfl
 case mul=>
  refine BC ?_
  have e:IntKind.u64.wrap ((a.toNat:Int)*b.toNat)=((a*b).toNat:Int):=by
   rw[J5,BitVec.toNat_mul,←Int.natCast_mul,hm]
  show Result.ok (Value.int .u64 (IntKind.u64.wrap ((a.toNat:Int)*b.toNat))) w=_
  rw[e];rfl
 case quo=>
  refine IS fun h=> ?_
  have h0:¬(b.toNat:Int)=0:=by
   intro h';apply h;apply xY;have:b.toNat=0:=by omega
   rw[this];rfl
  have e:IntKind.u64.wrap ((a.toNat:Int).tdiv b.toNat)=((a / b).toNat:Int):=by
   rw[Int.tdiv_eq_ediv_of_nonneg (by omega),←hw (a / b),q_];rfl
  have e2:(binOp .quo t (.int .u64 a.toNat) (.int .u64 b.toNat)).run P w= .ok (.int .u64 (IntKind.u64.wrap ((a.toNat:Int).tdiv b.toNat))) w:=by
   show (Op.intDiv .quo .u64 a.toNat b.toNat).run P w=_
   unfold Op.intDiv;rw[AB h0];rfl
  rw[DX,e2,e];rfl
 case rem=>
  refine IS fun h=> ?_
  have h0:¬(b.toNat:Int)=0:=by
   intro h';apply h;apply xY;have:b.toNat=0:=by omega
   rw[this];rfl
  have e:((a.toNat:Int).tmod b.toNat)=((a%b).toNat:Int):=by
   rw[Int.tmod_eq_emod_of_nonneg (by omega),BitVec.toNat_umod];rfl
  have e2:(binOp .rem t (.int .u64 a.toNat) (.int .u64 b.toNat)).run P w= .ok (.int .u64 ((a.toNat:Int).tmod b.toNat)) w:=by
   show (Op.intDiv .rem .u64 a.toNat b.toNat).run P w=_
   unfold Op.intDiv;rw[AB h0];rfl
  rw[DX,e2,e];rfl
 case and=>
  refine BC ?_
  show Result.ok (Value.int .u64 (IntKind.u64.wrap ((BitVec.ofInt 64 a.toNat &&& BitVec.ofInt 64 b.toNat).toNat:Int))) w=_
  rw[JA,JA,hw];rfl
 case or=>
  refine BC ?_
  show Result.ok (Value.int .u64 (IntKind.u64.wrap ((BitVec.ofInt 64 a.toNat|||BitVec.ofInt 64 b.toNat).toNat:Int))) w=_
  rw[JA,JA,hw];rfl
 case xor=>
  refine BC ?_
  show Result.ok (Value.int .u64 (IntKind.u64.wrap ((BitVec.ofInt 64 a.toNat ^^^ BitVec.ofInt 64 b.toNat).toNat:Int))) w=_
  rw[JA,JA,hw];rfl
 case andNot=>
  refine BC ?_
  show Result.ok (Value.int .u64 (IntKind.u64.wrap ((BitVec.ofInt 64 a.toNat &&& ~~~ BitVec.ofInt 64 b.toNat).toNat:Int))) w=_
  rw[JA,JA,hw];rfl
 case eql=>
  refine BC ?_
  show Result.ok (Value.bool ((a.toNat:Int)==(b.toNat:Int))) w=Result.ok (Value.bool (decide (a=b))) w
  congr 2;rw[gO,UH,N2];exact nT a b
 case neq=>
  refine BC ?_
  show Result.ok (Value.bool ((a.toNat:Int) !=(b.toNat:Int))) w=Result.ok (Value.bool (decide (¬a=b))) w
  congr 2;rw[gO,bne_iff_ne,N2,ne_eq,nT]
 case lss=>exact BC (by simp [DX,binOp,Op.intCmp,SV.den])
 case leq=>exact BC (by simp [DX,binOp,Op.intCmp,SV.den])
 case gtr=>exact BC (by simp [DX,binOp,Op.intCmp,SV.den])
 case geq=>exact BC (by simp [DX,binOp,Op.intCmp,SV.den])
theorem yD (d:Nat) {t:TypeId} (h:P.underlying t=some .bool) (a b:Bool):(Op.equalIn (d+1) t (.bool a) (.bool b)).run P w= .ok (a==b) w:=by
 simp [Op.equalIn,run_underlying h]
theorem run_equal_bool {t:TypeId} (h:P.underlying t=some .bool) (a b:Bool):(Op.equal t (.bool a) (.bool b)).run P w= .ok (a==b) w:=
 yD w 9999 h a b
theorem AL7 (a b:ByteArray):(a.toList==b.toList)=decide (a=b):=by
 rw[gO,UH,N2,ByteArray.toList_eq,ByteArray.toList_eq]
 constructor
 ·intro h;cases a;cases b;simp at h;simp [h]
 ·rintro rfl;rfl
theorem APS (op:BinOp) (a b:Nat) (t:TypeId):(APL op a b).ok (DX E P (binOp op t (.float .f64 a) (.float .f64 b)) w):=by
 have arith:∀ op:BinOp,(∀ r,FI op a b=some r->(Op.floatArith op .f64 a b).run P w= .ok (.float .f64 r) w)->(T0 ((FI op a b).isSome=true) (.NC ((FI op a b).getD 0)):Pu).ok (DX E P (Op.floatArith op .f64 a b) w):=by
  intro op hr
  refine IS fun h=> ?_
  obtain⟨r,h1⟩:=Option.isSome_iff_exists.1 h
  rw[DX,hr r h1,h1];rfl
 have cmp:∀ (c:Bool) (p:Prop) [Decidable p],(c=true↔p)->Result.ok (Value.bool c) w=Result.ok ((SV.prop p inferInstance).den E) w:=by
  intro c p _ h
  have:c=decide p:=by rw[gO,h,N2]
  rw[this];rfl
 cases op <;> simp only[APL]
 case add=>exact arith .add fun r h=>by simp only[FI] at h;simp [Op.floatArith,h]
 case sub=>exact arith .sub fun r h=>by simp only[FI] at h;simp [Op.floatArith,h]
 case mul=>exact arith .mul fun r h=>by simp only[FI] at h;simp [Op.floatArith,h]
 case quo=>exact arith .quo fun r h=>by simp only[FI] at h;simp [Op.floatArith,h]
 case eql=>exact BC (cmp (C4 a b==some .eq) _ (by simp))
 case neq=>exact BC (cmp (C4 a b !=some .eq) _ (by simp))
 case lss=>exact BC (cmp (C4 a b==some .lt) _ (by simp))
 case leq=>exact BC (cmp (C4 a b==some .lt||C4 a b==some .eq) _ (by simp))
 case gtr=>exact BC (cmp (C4 a b==some .gt) _ (by simp))
 case geq=>exact BC (cmp (C4 a b==some .gt||C4 a b==some .eq) _ (by simp))
 all_goals exact ok_none
theorem AEA (k:Nat):∃ s f,FloatKind.f64.format.read (UI k)= .nan s f:=by
 unfold Ieee.Format.read
 have hb:FloatKind.f64.format.binade=4503599627370496:=by decide
 have hs:FloatKind.f64.format.signWeight=9223372036854775808:=by decide
 have hi:FloatKind.f64.format.infRung=9218868437227405312:=by decide
 simp only[hb,hs,hi]
 have h' :9218868437227405312<UI k%9223372036854775808:=by
  show 9218868437227405312<((k%2)*9223372036854775808+9218868437227405312+1+(k / 2)%4503599627370495)%9223372036854775808
  have hq:(k / 2)%4503599627370495<4503599627370495:=P9 _ (by decide)
  have hp:k%2<2:=P9 _ (by decide)
  generalize k%2=p at*
  generalize (k / 2)%4503599627370495=q at*
  omega
 rw[AB (by omega),AB (by omega),AB (by omega)]
 exact⟨_,_,rfl⟩
theorem AB0 (k b:Nat):C4 (UI k) b=none/\C4 b (UI k)=none:=by
 obtain⟨s,f,h⟩:=AEA k
 unfold C4 Ieee.Format.order
 rw[h]
 refine⟨rfl, ?_⟩
 unfold Ieee.Datum.order
 cases FloatKind.f64.format.read b <;> rfl
theorem AIR (a b:Option Nat) (k j:Nat):C4 (a.getD (UI k)) (b.getD (UI j))=jM a b:=by
 cases a with
 |none=>exact (AB0 k _).1
 |some a=>cases b with
  |none=>exact (AB0 j _).2
  |some b=>rfl
theorem AEB (op:BinOp) (a b:Option Nat) (k j:Nat) (t:TypeId):(nfE op a b).ok (DX E P (binOp op t (.float .f64 (a.getD (UI k))) (.float .f64 (b.getD (UI j)))) w):=by
 have cmp:∀ (c:Bool) (p:Prop) [Decidable p],(c=true↔p)->Result.ok (Value.bool c) w=Result.ok ((SV.prop p inferInstance).den E) w:=by
  intro c p _ h
  have:c=decide p:=by rw[gO,h,N2]
  rw[this];rfl
 have e:=AIR a b k j
 generalize a.getD (UI k)=A at e ⊢
 generalize b.getD (UI j)=B at e ⊢
 cases op <;> simp only[nfE]
 case eql=>exact BC (cmp (C4 A B==some .eq) _ (by rw[e];simp))
 case neq=>exact BC (cmp (C4 A B !=some .eq) _ (by rw[e];simp))
 case lss=>exact BC (cmp (C4 A B==some .lt) _ (by rw[e];simp))
 case leq=>exact BC (cmp (C4 A B==some .lt||C4 A B==some .eq) _ (by rw[e];simp))
 case gtr=>exact BC (cmp (C4 A B==some .gt) _ (by rw[e];simp))
 case geq=>exact BC (cmp (C4 A B==some .gt||C4 A B==some .eq) _ (by rw[e];simp))
 all_goals exact ok_none
theorem APT (op:BinOp) (t:TypeId) (x y:SV):(x9 P op t x y).ok (DX E P (binOp op t (x.den E) (y.den E)) w):=by
 unfold x9
 split
 ·exact AL6 w _ x y t
 ·exact AL6 w _ x y t
 ·rename_i h1 h2
  split
  ·split
   ·rename_i hk;subst hk
    exact APQ w op _ _ _ t h1 h2
   ·exact ok_none
  ·exact APR w op _ _ t h1 h2
  ·split
   ·refine BC ?_
    rename_i a b _
    show Result.ok (Value.bool (a.toList==b.toList)) w=Result.ok (Value.bool (decide (a=b))) w
    rw[AL7]
   ·refine BC ?_
    rename_i a b _
    show Result.ok (Value.bool (!(a.toList==b.toList))) w=Result.ok (Value.bool (decide (¬a=b))) w
    rw[AL7,decide_not]
   ·refine IS fun YO=> ?_
    rename_i a b _
    show (if ((a.size+b.size:Nat):Int)>IntKind.i64.max then (unsupported _:Sem Value) else pure (.string (a++b))).run P w=_
    rw[AB (by have:IntKind.i64.max=9223372036854775807:=(by decide);omega)]
    rfl
   ·exact ok_none
  ·exact APS w _ _ _ t
  ·exact AEB w _ _ _ _ _ t
  ·exact AEB w _ _ (some _) _ 0 t
  ·exact AEB w _ (some _) _ 0 _ t
  ·split
   ·rename_i ha hb hu
    refine BC ?_
    rw[DX,UJ ha,UJ hb]
    simp [binOp,SV.den,run_equal_bool w hu];rfl
   ·rename_i ha hb hu
    refine BC ?_
    rw[DX,UJ ha,UJ hb]
    simp [binOp,SV.den,run_equal_bool w hu];rfl
   ·exact ok_none
theorem ATT (op:UnOp) (x:SV):(unE op x).ok (DX E P (Op.unary op (x.den E)) w):=by
 unfold unE
 split
 ·exact BC (show Sem.run _ _ _=_ from rfl)
 ·exact BC (show Sem.run _ _ _=_ from rfl)
 ·exact BC (by simp [DX,Op.unary,SV.den])
 ·exact BC (by simp only[DX,Op.unary,SV.den,Op.intArith];rfl)
 ·rename_i x
  refine BC ?_
  have e:IntKind.u64.wrap ((0:Int)-(x.toNat:Int))=((0#64-x).toNat:Int):=by
   rw[J5,BitVec.toNat_sub]
   have:=x.isLt
   simp only[oY]
   omega
  show Result.ok (Value.int .u64 (IntKind.u64.wrap ((0:Int)-(x.toNat:Int)))) w=_
  rw[e];rfl
 ·exact BC rfl
 ·rename_i x
  refine BC ?_
  have hw:∀ x:BitVec 64,IntKind.u64.wrap (x.toNat:Int)=x.toNat:=fun x=>W0 _ x.isLt
  have:BitVec.ofInt 64 (IntKind.u64.max) ^^^ x= ~~~x:=by
   have:BitVec.ofInt 64 (IntKind.u64.max)=BitVec.allOnes 64:=by decide
   rw[this,BitVec.allOnes_xor]
  show Result.ok (Value.int .u64 (IntKind.u64.wrap ((BitVec.ofInt 64 (IntKind.u64.max) ^^^ BitVec.ofInt 64 (x.toNat:Int)).toNat:Int))) w=_
  rw[JA,this,hw];rfl
 ·exact ok_none
theorem AEC (n:Int):IntKind.u64.wrap n=((BitVec.ofInt 64 n).toNat:Int):=by
 rw[J5,qV]
 have:(0:Int)<=n%18446744073709551616:=by omega
 simp;omega
theorem N7 {src dst:TypeId} {ks kd k:IntKind} (hs:P.underlying src=some (.int ks)) (hd:P.underlying dst=some (.int kd)) (n:Int):
  (convert src dst (.int k n)).run P w= .ok (.int kd (kd.wrap n)) w:=by
 simp [convert,run_underlying hs,run_underlying hd,Conv.intToInt]
theorem AL8 (src dst:TypeId) (x:SV):(AGJ P src dst x).ok (DX E P (convert src dst (x.den E)) w):=by
 unfold AGJ
 split
 ·rename_i hs hd
  split
  ·exact BC (by simp only[DX,SV.den,N7 w hs hd,AEC])
  ·exact BC (by simp only[DX,SV.den,N7 w hs hd])
 ·rename_i hs hd
  split
  ·exact BC (by simp only[DX,SV.den,N7 w hs hd];rw[W0 _ (BitVec.isLt _)])
  ·exact BC (by simp only[DX,SV.den,N7 w hs hd])
 ·rename_i hs hd
  exact BC (by simp [DX,convert,run_underlying hs,run_underlying hd,SV.den])
 ·rename_i hs hd
  exact BC (by simp [DX,convert,run_underlying hs,run_underlying hd,SV.den,Conv.intToFloat,ZX])
 ·rename_i hs hd
  exact BC (by simp [DX,convert,run_underlying hs,run_underlying hd,SV.den,Conv.intToFloat,ZX])
 ·rename_i hs hd
  rename_i fk kd0 b
  have key:∀ kd:IntKind,P.underlying dst=some (.int kd)->fIn kd b=true->(convert src dst (.float .f64 b)).run P w= .ok (.int kd ((WX b).getD 0)) w:=by
   intro kd hd h
   unfold fIn at h
   split at h
   ·rename_i n hn
    simp only[IQ] at h
    have hn' :=hn
    unfold WX at hn'
    simp [convert,run_underlying hs,run_underlying hd,Conv.floatToInt,hn',hn,h.1,h.2]
   ·cases h
  split
  ·refine IS fun h=> ?_
   refine (key .u64 hd h).trans ?_
   unfold fIn at h
   split at h
   ·rename_i n hn
    simp only[IQ] at h
    have h1:(0:Int)<=n:=h.1
    have h2:n<=18446744073709551615:=h.2
    rw[hn]
    show Result.ok (Value.int .u64 n) w=Result.ok (Value.int .u64 ((BitVec.ofInt 64 n).toNat:Int)) w
    rw[qV]
    congr 2
    have:((n%((2 ^ 64:Nat):Int)).toNat:Int)=n:=by
     rw[Int.emod_eq_of_lt h1 (by omega)];omega
    exact this.symm
   ·cases h
  ·exact IS fun h=>key _ hd h
 ·rename_i hs hd
  exact BC (by simp [DX,convert,run_underlying hs,run_underlying hd,SV.den,Conv.floatToFloat])
 ·exact ok_none
theorem AB1 (op:BinOp) (t:TypeId) (x y:Operand) {a:Value} (b:Value) (h1:∀ c,a≠ .agg c) (h2:a≠ .nilIface):(eqGuard op t x y a b).run P w= .ok () w:=by
 cases a <;> first|exact absurd rfl h2|exact absurd rfl (h1 _)|(cases op <;> rfl)
theorem AED {op:BinOp} {t:TypeId} {x y:SV} {r:Option DP×SV} (h:x9 P op t x y=some r):(∀ c,(x.den E)≠ .agg c)/\(x.den E)≠ .nilIface:=by
 have hb:(∃ v,x= .raw v)\/(∃ v,x= .agg v)\/(∃ v,x= .l5 v)\/((∀ c,(x.den E)≠ .agg c)/\(x.den E)≠ .nilIface):=by
  cases x with
  |raw v=>exact .inl ⟨v,rfl⟩
  |agg v=>exact .inr (.inl ⟨v,rfl⟩)
  |l5 v=>exact .inr (.inr (.inl ⟨v,rfl⟩))
  |_=>exact .inr (.inr (.inr ⟨fun c hc=>by simp [SV.den] at hc,fun hc=>by simp [SV.den] at hc⟩))
 rcases hb with ⟨v,rfl⟩|⟨v,rfl⟩|⟨v,rfl⟩|hb
 ·exfalso
  unfold x9 at h
  split at h
  ·unfold shE at h;split at h <;> simp at h
  ·unfold shE at h;split at h <;> simp at h
  ·split at h <;> simp_all [toB]
 ·exfalso
  unfold x9 at h
  split at h
  ·unfold shE at h;split at h <;> simp at h
  ·unfold shE at h;split at h <;> simp at h
  ·split at h <;> simp_all [toB]
 ·exfalso
  unfold x9 at h
  split at h
  ·unfold shE at h;split at h <;> simp at h
  ·unfold shE at h;split at h <;> simp at h
  ·split at h <;> simp_all [toB]
 ·exact hb
theorem FW (a b:List SV):AK E (a++b)=AK E a++AK E b:=by simp [EW]
theorem AT (a:List SV):(AK E a).length=a.length:=by simp [EW]
theorem FJ (a:List SV) (i:Nat):(AK E a)[i]? =(a[i]?).map (SV.den E):=by simp [EW]
theorem NK {t:TypeId} {d:TypeDesc} (h:P.underlying t=some d):(isAgg t).run P w= .ok (HY P t) w:=by
 unfold isAgg HY
 rw[h]
 cases d <;> simp [run_underlying h]
theorem AL9 (t:TypeId) (cs:List SV) (off:Nat):(AAY P t cs off).ok fun v=>(part t (AK E cs).toArray off).run P w= .ok (v.den E) w:=by
 unfold AAY
 split
 ·rename_i i d hi hd
  split
  ·rename_i ha
   refine BC ?_
   simp [part,NK w hd,ha,sizeOf,typeInfo,hi,SV.den,EW,List.map_take,List.map_drop]
  ·rename_i ha
   split
   ·rename_i v hv
    refine BC ?_
    simp [part,NK w hd,ha,FJ,hv]
   ·exact ok_none
 ·exact ok_none
theorem AIS (b:Bool):∀ l,gP (b::l)=(b && gP l)
 | []=>by simp [gP]
 |_::_=>rfl
theorem AB2 {t:TypeId} {kk:IntKind} (hu:P.underlying t=some (.int kk)) (d:Nat) (k:IntKind) (a b:Int):
  (Op.equalIn (d+1) t (.int k a) (.int k b)).run P w= .ok (decide (a=b)) w:=by
 rw[Op.equalIn,Sem.run_bind,run_underlying hu]
 show (if k = k then pure (a == b) else stuck "==: kinds differ" : Sem Bool).run P w = _
 rw[AA rfl]
 rfl
def yE (d:Nat) (X Y:Array Value) (f:Field):Sem (ForInStep (Option Bool×Unit)):=
 if f.name ≠ "_" then do
  if !(<-Op.equalIn d f.type (<-part f.type X f.offset) (<-part f.type Y f.offset)) then pure (ForInStep.done (some false,()))
  else pure (ForInStep.yield (none,()))
 else pure (ForInStep.yield (none,()))
theorem AEE {f:Field} {d:Nat} {xs ys:List SV} {b:Bool} (h:AL4 P f xs ys=some b):
  (yE (d+1) (AK E xs).toArray (AK E ys).toArray f).run P w= .ok (if b=true then .yield (none,()) else .done (some false,())) w:=by
 unfold AL4 at h
 split at h
 ·rename_i k0 k a k' c i hn hu hx hy hi
  split at h
  ·rename_i hk
   subst hk
   simp only[AY] at h
   subst h
   have hn' : f.name ≠ "_" := by simpa using hn
   have h0:HY P f.type=false:=by unfold HY;rw[hu]
   have hp:∀ zs:List SV,∀ n,zs[f.offset]? =some (.int k n)->(part f.type (AK E zs).toArray f.offset).run P w= .ok (.int k n) w:=by
    intro zs n hz
    simp [part,NK w hu,h0,FJ,hz,SV.den]
   unfold yE
   rw[AA hn']
   simp only[Sem.run_bind,hp xs a hx,hp ys c hy,Result.andThen,AB2 w hu]
   by_cases hac:a=c
   ·simp [hac]
   ·simp [hac]
  ·cases h
 ·cases h
theorem rD (d:Nat) (xs ys:List SV):∀ (fs:List Field) (bs:List Bool),mA P xs ys fs=some bs→
  (forIn fs ((none,()):Option Bool×Unit) (fun f _=>yE (d+1) (AK E xs).toArray (AK E ys).toArray f):Sem (Option Bool×Unit)).run P w= .ok (if gP bs=true then none else some false,()) w
 | [],bs,h=>by
  simp only[mA,AY] at h
  subst h
  simp [gP]
 |f::r,bs,h=>by
  rw[mA] at h
  split at h
  ·rename_i b l hb hl
   simp only[AY] at h
   subst h
   rw[List.forIn_cons,Sem.run_bind,AEE w hb,AIS]
   cases b with
   |true=>exact rD d xs ys r l hl
   |false=>rfl
  ·cases h
theorem vQ {t:TypeId} {fs:Array Field} {xs ys:List SV} {bs:List Bool} (hu:P.underlying t=some (.struct fs)) (hs:P.stoodInHeld t=false) (h:mA P xs ys fs.toList=some bs):
  (Op.equal t (.agg (AK E xs).toArray) (.agg (AK E ys).toArray)).run P w= .ok (gP bs) w:=by
 have h1:=rD (E:=E) (P:=P) w 9998 xs ys fs.toList bs h
 rw[Op.equal,Op.maxDepth,Op.equalIn,Sem.run_bind,run_underlying hu]
 unfold yE at h1
 have hp:(program:Sem Program).run P w= .ok P w:=rfl
 simp only[Result.andThen,Sem.run_bind,hp,hs,T8,I9]
 rw[<-Array.forIn_toList]
 erw [h1]
 by_cases hb:gP bs=true
 ·simp [hb]
 ·simp only[Bool.not_eq_true] at hb
  rw[hb];rfl
theorem APU (op:BinOp) (t:TypeId) (xs ys:List SV) (x y:Operand):(APM P op t xs ys).ok (DX E P (do eqGuard op t x y (.agg (AK E xs).toArray) (.agg (AK E ys).toArray);binOp op t (.agg (AK E xs).toArray) (.agg (AK E ys).toArray)) w):=by
 unfold APM
 split
 ·rename_i fs hu
  split
  ·exact ok_none
  ·rename_i hg
   simp only[Bool.or_eq_false_iff] at hg
   split
   ·rename_i bs hb
    refine BC ?_
    have h:=vQ (E:=E) (P:=P) w hu hg.1 hb
    rw[DX,Sem.run_bind]
    have h2:(eqGuard .eql t x y (.agg (AK E xs).toArray) (.agg (AK E ys).toArray)).run P w= .ok () w:=by
     simp [eqGuard,hg.2]
    rw[h2]
    show (do pure (.bool (<-Op.equal t (.agg (AK E xs).toArray) (.agg (AK E ys).toArray))):Sem Value).run P w=_
    rw[Sem.run_bind,h]
    rfl
   ·rename_i bs hb
    refine BC ?_
    have h:=vQ (E:=E) (P:=P) w hu hg.1 hb
    rw[DX,Sem.run_bind]
    have h2:(eqGuard .neq t x y (.agg (AK E xs).toArray) (.agg (AK E ys).toArray)).run P w= .ok () w:=by
     simp [eqGuard,hg.2]
    rw[h2]
    show (do pure (.bool (!(<-Op.equal t (.agg (AK E xs).toArray) (.agg (AK E ys).toArray)))):Sem Value).run P w=_
    rw[Sem.run_bind,h]
    rfl
   ·exact ok_none
 ·exact ok_none
theorem AIT (t:TypeId) (x:SV) (f:Nat):(x_ P t x f).ok (DX E P (Instr.field t (x.den E) f) w):=by
 unfold x_
 split
 ·rename_i fs cs hu
  split
  ·rename_i fd hf
   have h:=AL9 (E:=E) (P:=P) w fd.type cs fd.offset
   intro p v he hp
   have:=h p v he hp
   rw[DX]
   simp only[Instr.field,SV.den,Sem.run_bind,run_underlying hu,Result.andThen,hf]
   simpa [asAgg] using this
  ·exact ok_none
 ·exact ok_none
theorem AB3 (x:SV) (i:Nat):(jN x i).ok (DX E P (Instr.extract (x.den E) i) w):=by
 unfold jN
 split
 ·split
  ·rename_i v hv
   refine BC ?_
   simp [DX,Instr.extract,SV.den,FJ,hv]
  ·exact ok_none
 ·exact ok_none
theorem gQ (v:SV) (h:MW v=false):(v.den E).cells=(AK E (BD v)).toArray:=by
 cases v with
 |raw u=>cases u <;> first|rfl|simp [MW] at h
 |l5 t=>simp [MW] at h
 |_=>rfl
theorem AB4 (cs:List SV) (off:Nat) (vs:List SV):AK E (DJ cs off vs)=(vs.zipIdx off).foldl (fun c (x,j)=>c.set j (x.den E)) (AK E cs):=by
 induction vs generalizing cs off with
 |nil=>rfl
 |cons v r ih=>simp [DJ,ih,ZW]
theorem fZ (cs:List SV) (off:Nat) (vs:List SV):(DJ cs off vs).length=cs.length:=by
 induction vs generalizing cs off with
 |nil=>rfl
 |cons v r ih=>simp [DJ,ih]
theorem AEF (off:Nat) (vs:List Value) (cs:Array Value) (k:Nat):
  (vs.zipIdx k).foldl (fun cs (c,j)=>cs.setIfInBounds (off+j) c) cs=((vs.zipIdx (off+k)).foldl (fun c (x,j)=>c.set j x) cs.toList).toArray:=by
 induction vs generalizing cs k with
 |nil=>simp
 |cons v r ih=>
  simp only[List.zipIdx_cons,jJ]
  rw[ih]
  simp [NI]
theorem W1 (place:Nat->Option (Nat×Nat)) (cs gR :List SV) (l:List (Nat×SV)) (hn:TC l=true) (h:ZY place cs l=some gR):
  Instr.fill place (AK E cs).toArray (l.map fun q=>(q.1,q.2.den E))=some (AK E gR).toArray:=by
 induction l generalizing cs with
 |nil=>simp only[ZY,AY] at h;subst h;rfl
 |cons q r ih=>
  obtain⟨i,v⟩:=q
  simp only[TC,List.all_cons,G4,RM] at hn
  simp only[ZY] at h
  cases hp:place i with
  |none=>simp [hp] at h
  |some os=>
   obtain⟨off,size⟩:=os
   simp only[hp] at h
   split at h
   ·rename_i hc
    have QA:=gQ (E:=E) v hn.1
    have hlen:(v.den E).cells.size=(BD v).length:=by rw[QA];simp [AT]
    simp only[K0,Instr.fill,hp,hlen]
    have e1:((BD v).length !=size||decide (off+(BD v).length>(AK E cs).toArray.size))=false:=by
     simp [AT];omega
    rw[AB (by simp [AT];omega)]
    have e2:((v.den E).cells.zipIdx.foldl (fun cs (c,j)=>cs.setIfInBounds (off+j) c) (AK E cs).toArray)=(AK E (DJ cs off (BD v))).toArray:=by
     rw[QA]
     have:=AEF off (AK E (BD v)) (AK E cs).toArray 0
     simp only[L3] at this
     rw[AB4]
     simp only[EW,List.zipIdx_map,List.foldl_map] at this ⊢
     simp at this ⊢
     rw[List.zipIdx_map,List.foldl_map]
     exact this
    rw[e2]
    exact ih _ hn.2 h
   ·cases h
theorem AEG (v:Value):((RN v).den E)=v:=by
 cases v with
 |int k n=>
  cases k <;> try rfl
  simp only[RN]
  split
  ·rename_i hn
   simp only[SV.den,oY]
   congr 1
   omega
  ·rfl
 |float k n=>cases k <;> rfl
 |slice a l c=>
  simp only[RN]
  split <;> first|rfl|(simp_all [SV.den])
 |_=>rfl
theorem UK (l:List Value):AK E (l.map RN)=l:=by
 induction l with
 |nil=>rfl
 |cons v r ih=>simp [AK,ih,AEG]
theorem S0 {t:TypeId} {z:List SV} (h:MX P t=some z):∃ zv,(zeroValue t).run P w= .ok zv w/\zv.cells=(AK E z).toArray:=by
 unfold MX at h
 split at h
 ·rename_i i hi
  split at h
  ·rename_i zv hz
   simp only[AY] at h
   subst h
   refine⟨zv,by simp [zeroValue,typeInfo,hi,hz], ?_⟩
   rw[UK]
  ·cases h
 ·cases h
theorem mB {fs:List Field} {pl:List (Nat×Nat)} (h:N6 P fs=some pl):
  (fs.mapM fun f=>do pure (f.offset,←sizeOf f.type):Sem (List (Nat×Nat))).run P w= .ok pl w:=by
 induction fs generalizing pl with
 |nil=>simp only[N6,AY] at h;subst h;rfl
 |cons f r ih=>
  simp only[N6] at h
  split at h
  ·rename_i i l hi hl
   simp only[AY] at h
   subst h
   have YO:(sizeOf f.type).run P w= .ok i.size w:=by simp [sizeOf,typeInfo,hi]
   simp only[List.mapM_cons,Sem.run_bind,YO,Result.andThen,Sem.run_pure,ih hl]
  ·cases h
theorem AIU (t:TypeId) (parts:List (Nat×SV)):(yA P t parts).ok (DX E P (Instr.build t (parts.map fun q=>(q.1,q.2.den E)).toArray) w):=by
 unfold yA
 split
 ·exact ok_none
 rename_i hn
 have hn:TC parts=true:=by simpa using hn
 split
 ·rename_i z fs hz hu
  obtain⟨zv,hzr,hzc⟩:=S0 (E:=E) w hz
  split
  ·rename_i pl hpl
   split
   ·rename_i cs hf
    refine BC ?_
    have h1:=mB w hpl
    have h2:=W1 (E:=E) (fun i=>pl[i]?) z cs parts hn hf
    have h3:(fs.mapM fun f=>do pure (f.offset,←sizeOf f.type):Sem (Array (Nat×Nat))).run P w= .ok pl.toArray w:=by
     rw[Array.mapM_eq_mapM_toList,map_eq_pure_bind,Sem.run_bind,h1]
     rfl
    rw[DX]
    simp only[Instr.build,Sem.run_bind,hzr,Result.andThen,run_underlying hu,h3,hzc]
    simp only[qR,h2]
    rfl
   ·exact ok_none
  ·exact ok_none
 ·rename_i z n e hz hu
  obtain⟨zv,hzr,hzc⟩:=S0 (E:=E) w hz
  split
  ·rename_i i hi
   split
   ·rename_i cs hf
    refine BC ?_
    have h2:=W1 (E:=E) _ z cs parts hn hf
    rw[DX]
    simp only[Instr.build,Sem.run_bind,hzr,Result.andThen,run_underlying hu,sizeOf,typeInfo,hzc]
    simp [hi,h2,SV.den]
   ·exact ok_none
  ·exact ok_none
 ·exact ok_none
theorem S1 {x:SV} {n:Int} (h:idxOf x=some n):∃ k,(x.den E)= .int k n:=by
 cases x <;> simp only[idxOf,AY,reduceCtorEq] at h
 case int k y=>subst h;exact⟨k,rfl⟩
 case u64 y=>subst h;exact⟨.u64,rfl⟩
theorem G_ (b off n:Nat):(⟨b,off,none⟩:Addr).add n=⟨b,off+n,none⟩:=by
 unfold Addr.add
 split
 ·rename_i h;subst h;rfl
 ·rfl
theorem uD (t:TypeId) (x i:SV):(WY P t x i).ok (DX E P (Instr.indexAt t (x.den E) (i.den E)) w):=by
 unfold WY
 split
 ·rename_i hu hx
  split
  ·rename_i q hq
   refine IS ?_
   rintro⟨h2,h3⟩
   obtain⟨k,hk⟩:=S1 (E:=E) hx
   rw[DX,hk]
   simp [Instr.indexAt,asIntOf,SV.den,run_underlying hu,sizeOf,typeInfo,hq,h2,h3,Instr.sureAddr,G_,NI]
  ·exact ok_none
 ·rename_i hu hx
  split
  ·rename_i q hq
   split
   ·rename_i h1
    refine IS ?_
    rintro⟨h2,h3⟩
    obtain⟨k,hk⟩:=S1 (E:=E) hx
    rw[DX,hk]
    simp [Instr.indexAt,asIntOf,SV.den,run_underlying hu,sizeOf,typeInfo,hq,h1,h2,h3,Instr.sureAddr,Addr.add]
   ·exact ok_none
  ·exact ok_none
 ·exact ok_none
theorem uE (t:TypeId) (x:SV) (f:Nat):(WZ P t x f).ok (DX E P (Instr.fieldAt t (x.den E) f) w):=by
 unfold WZ
 split
 ·rename_i fs i off hu
  split
  ·rename_i fd hf
   split
   ·rename_i q hq
    split
    ·exact ok_none
    ·rename_i h0
     refine BC ?_
     simp [DX,Instr.fieldAt,SV.den,run_underlying hu,hf,Instr.sureAddr,fieldPlace,sizeOf,typeInfo,hq,h0,G_,NI]
   ·exact ok_none
  ·exact ok_none
 ·rename_i fs i k sz off hu
  split
  ·rename_i fd hf
   split
   ·rename_i q hq
    split
    ·exact ok_none
    ·rename_i h0
     refine BC ?_
     simp [DX,Instr.fieldAt,SV.den,run_underlying hu,hf,Instr.sureAddr,fieldPlace,sizeOf,typeInfo,hq,h0,G_,NI]
   ·exact ok_none
  ·exact ok_none
 ·exact ok_none
theorem cS {x:SV} {n:Int} (h:idxOf x=some n) (y:Nat) (c:BoundsCode) (h0:0<=n) (h1:n<=y):(Instr.sliceBound (x.den E) y c).run P w= .ok n.toNat w:=by
 obtain⟨k,hk⟩:=S1 h
 rw[hk]
 simp [Instr.sliceBound,asIntOf,h0,h1]
theorem rE {low high:Option SV} {h l:Option Int} {hn ln len cap d:Nat} (b:Bool) (hh:bnd high d=some (h,hn)) (hl:bnd low 0=some (l,ln)) (hd:d=len) (hb:Bd l h hn cap):
  (Instr.sliceBounds b len cap (low.map (SV.den E)) (high.map (SV.den E)) none).run P w= .ok (ln,hn,cap) w:=by
 subst hd
 unfold bnd at hh hl
 obtain⟨b1,b2⟩:=hb
 cases high with
 |none=>
  simp only[AY,C3] at hh
  obtain⟨rfl,rfl⟩:=hh
  cases low with
  |none=>
   simp only[AY,C3] at hl
   obtain⟨rfl,rfl⟩:=hl
   simp [Instr.sliceBounds]
  |some x=>
   simp only at hl
   split at hl
   ·rename_i n hx
    simp only[AY,C3] at hl
    obtain⟨rfl,rfl⟩:=hl
    simp [Instr.sliceBounds,cS w hx _ _ b2.1 b2.2]
   ·cases hl
 |some y=>
  simp only at hh
  split at hh
  ·rename_i m hy
   simp only[AY,C3] at hh
   obtain⟨rfl,rfl⟩:=hh
   cases low with
   |none=>
    simp only[AY,C3] at hl
    obtain⟨rfl,rfl⟩:=hl
    simp [Instr.sliceBounds,cS w hy _ _ b1.1 b1.2]
   |some x=>
    simp only at hl
    split at hl
    ·rename_i n hx
     simp only[AY,C3] at hl
     obtain⟨rfl,rfl⟩:=hl
     simp [Instr.sliceBounds,cS w hy _ _ b1.1 b1.2,cS w hx _ _ b2.1 b2.2]
    ·cases hl
  ·cases hh
theorem AIV (t:TypeId) (x:SV) (low high max:Option SV):(yB P t x low high max).ok (DX E P (Instr.sliceAt t (x.den E) (low.map (SV.den E)) (high.map (SV.den E)) (max.map (SV.den E))) w):=by
 unfold yB
 split
 ·rename_i s hu
  split
  ·rename_i h hn l ln hh hl
   refine IS fun hb=> ?_
   simp only[DX,Instr.sliceAt,Option.map_none,SV.den,Sem.run_bind,run_underlying hu,Result.andThen]
   simp only[Instr.slice,Sem.run_bind,run_underlying hu,Result.andThen]
   simp [rE w false hh hl rfl hb]
  ·exact ok_none
 ·exact ok_none
theorem AIW (t:TypeId) (x i:SV):(yC P t x i).ok (DX E P (Instr.index t (x.den E) (i.den E)) w):=by
 unfold yC
 split
 ·rename_i s n hu hx
  refine IS ?_
  rintro⟨h0,h1⟩
  obtain⟨k,hk⟩:=S1 hx
  have C7:n.toNat<s.size:=by omega
  have hb:s[n.toNat]? =some s[n.toNat]:=getElem?_pos s n.toNat C7
  have RZ :s.data[n.toNat]? =some s[n.toNat]:=by
   have:n.toNat<s.data.size:=C7
   rw[Array.getElem?_eq_getElem this];rfl
  rw[DX,hk]
  simp only[Instr.index,asIntOf,SV.den,Sem.run_bind,Sem.run_pure,Result.andThen,run_underlying hu,h0,GA,hb,JY,RZ]
  rfl
 ·exact ok_none
theorem APV (t:TypeId) (ts:List TypeId) (x:SV) (xs:List Value) (r:TypeId):(APN P t x).ok (DX E P (Builtin.len_ (t::ts).toArray r ((x.den E)::xs).toArray) w):=by
 unfold APN
 split
 ·rename_i hu
  exact BC (by simp [DX,Builtin.len_,run_underlying hu,SV.den,goInt])
 ·rename_i hu
  exact BC (by simp [DX,Builtin.len_,run_underlying hu,SV.den,goInt])
 ·exact ok_none
theorem AB5 (b:Builtin) (ts:List TypeId) (xs:List SV) (r:TypeId) (cs:Array Bool):
  (jO P b ts xs).ok fun v=>(builtin b ts.toArray r cs (xs.map (SV.den E)).toArray).run P w= .ok (.value (v.den E)) w:=by
 unfold jO
 split
 ·rename_i t ts x xs
  have h:=APV (E:=E) (P:=P) w t ts x (xs.map (SV.den E)) r
  intro p v he hp
  have:=h p v he hp
  rw[DX] at this
  simp only[K0,builtin,Sem.run_bind,this,Result.andThen]
  rfl
 ·split
  ·rename_i hk;subst hk
   refine BC ?_
   simp [builtin,Builtin.max_,Builtin.max2,SV.den]
  ·exact ok_none
 ·split
  ·rename_i hk;subst hk
   refine BC ?_
   simp [builtin,Builtin.min_,Builtin.min2,SV.den]
  ·exact ok_none
 ·rename_i a b
  refine IS fun h=> ?_
  obtain⟨o,ho⟩:=Option.isSome_iff_exists.1 h
  have ho' :=ho
  unfold C4 at ho'
  cases o <;> simp [builtin,Builtin.max_,Builtin.max2,SV.den,ho',ho,AWB,cR] <;> rfl
 ·rename_i a b
  refine IS fun h=> ?_
  obtain⟨o,ho⟩:=Option.isSome_iff_exists.1 h
  have ho' :=ho
  unfold C4 at ho'
  cases o <;> simp [builtin,Builtin.min_,Builtin.min2,SV.den,ho',ho,AWC,cR] <;> rfl
 ·exact ok_none
theorem Pu.ok.mono {r:Pu} {R R' :SV->Prop} (h:r.ok R) (hr:∀ v,R v->R' v):r.ok R' :=fun p v he hp=>hr v (h p v he hp)
theorem IT {s:Sem Value} {v:SV} (h:DX E P s w v):(do pure (Next.value (<-s)):Sem Next).run P w= .ok (.value (v.den E)) w:=by
 rw[Sem.run_bind,h];rfl
theorem AIX (ρ:Operand->SV) (op:Op):
  (ZZ P ρ op).ok fun v=>∀ o:Oper,o.op=op->(execOp (fun x=>((ρ x).den E)) o).run P w= .ok (.value (v.den E)) w:=by
 unfold ZZ
 split
 ·exact BC fun o ho=>by simp [execOp,ho]
 ·exact BC fun o ho=>by simp [execOp,ho]
 ·split
  ·rename_i t hc
   refine BC fun o ho=> ?_
   simp [execOp,ho,hc,SV.den,asBool]
   cases t <;> simp
  ·exact ok_none
 ·rename_i op' t x y _
  intro p v he hp o ho
  by_cases hag:∃ xs ys,ρ x= .agg xs/\ρ y= .agg ys
  ·obtain⟨xs,ys,hx,hy⟩:=hag
   rw[hx,hy] at he
   have h:=APU (E:=E) (P:=P) w op' t xs ys x y p v he hp
   simp only[execOp,ho,hx,hy]
   exact IT w h
  have he:x9 P op' t (ρ x) (ρ y)=some (p,v):=by
   rw[<-he,AL5]
   intro xs ys h1 h2
   exact absurd ⟨xs,ys,h1,h2⟩ hag
  have h:=APT (E:=E) (P:=P) w op' t (ρ x) (ρ y) p v he hp
  obtain⟨h1,h2⟩:=AED he
  have hg:=AB1 (P:=P) w op' t x y ((ρ y).den E) h1 h2
  rw[DX] at h
  simp only[execOp,ho]
  refine IT w ?_
  rw[DX,Sem.run_bind,hg]
  exact h
 ·exact (ATT w _ _).mono fun v h o ho=>by simp only[execOp,ho];exact IT w h
 ·exact (AL8 w _ _ _).mono fun v h o ho=>by simp only[execOp,ho];exact IT w h
 ·exact (AB3 w _ _).mono fun v h o ho=>by simp only[execOp,ho];exact IT w h
 ·exact (AIT w _ _ _).mono fun v h o ho=>by simp only[execOp,ho];exact IT w h
 ·rename_i t parts
  refine (AIU (E:=E) w _ _).mono fun v h o ho=> ?_
  simp only[execOp,ho]
  refine IT w ?_
  have:(parts.map fun (i,x)=>(i,((ρ x).den E)))=(List.map (fun q=>(q.1,q.2.den E)) (List.map (fun q=>(q.1,ρ q.2)) parts.toList)).toArray:=by
   rw[S8];simp [rA]
   rw[<-fW]
  rw[this]
  exact h
 ·exact (uD w _ _ _).mono fun v h o ho=>by simp only[execOp,ho];exact IT w h
 ·exact (uE w _ _ _).mono fun v h o ho=>by simp only[execOp,ho];exact IT w h
 ·refine (AIV (E:=E) w _ _ _ _ _).mono fun v h o ho=> ?_
  simp only[execOp,ho]
  refine IT w ?_
  simpa [Option.map_map,rA] using h
 ·exact (AIW w _ _ _).mono fun v h o ho=>by simp only[execOp,ho];exact IT w h
 ·split
  ·rename_i i k sz off hx
   exact BC fun o ho=>by simp [execOp,ho,hx,SV.den]
  ·rename_i i off hx
   exact BC fun o ho=>by simp [execOp,ho,hx,SV.den]
  ·rename_i f cs hx
   exact BC fun o ho=>by simp [execOp,ho,hx,SV.den]
  ·exact ok_none
 ·rename_i fn first captured
  split
  ·rename_i f
   refine BC fun o ho=> ?_
   have e:(captured.map fun x=>((ρ x).den E))=((captured.toList.map ρ).map (SV.den E)).toArray:=by
    rw[S8,←fW];rfl
   simp only[execOp,ho,Instr.makeFunc,SV.den,EW]
   rw[e]
   simp
  ·exact ok_none
 ·rename_i b args ts
  intro p v he hp o ho
  have h:=fun cs=>AB5 (E:=E) (P:=P) w b ts.toList (args.toList.map ρ) o.type cs p v he hp
  simp only[Array.toArray_toList] at h
  simp only[execOp,ho,resolve,invoke,Sem.run_bind,Sem.run_pure,Result.andThen]
  have e:(Array.map (fun x=>((ρ x).den E)) args)=((args.toList.map ρ).map (SV.den E)).toArray:=by
   rw[S8,←fW];rfl
  rw[e]
  exact h _
 ·exact ok_none
end
end
end Go.V3
namespace Go.V3
open Go
abbrev Tb:Type:=List (Nat×Array Value)
variable {TB:Tb}
inductive Ty where
 |int (k:IntKind)
 |u64|bool|str|NC
 |pair (a b:Ty)
 |slice (a:Ty)
 |kv
 |nf
 |uF
 deriving DecidableEq
@[reducible] def Ty.T:Ty->Type
 | .int _=>Int
 | .u64=>BitVec 64
 | .bool=>Bool
 | .str=>ByteArray
 | .NC=>Nat
 | .pair a b=>a.T×b.T
 | .slice a=>List a.T
 | .kv=>Int×Bool
 | .nf=>Option Nat
 | .uF=>Unit
def Ty.sz:Ty->Nat
 | .pair a b=>a.sz+b.sz
 |_=>1
def Ty.GN:Ty->Nat
 | .pair a b=>a.GN+b.GN
 | .slice _=>1
 | .nf=>1
 |_=>0
def Ty.ATU:(t:Ty)->t.T
 | .int _=>(0:Int)
 | .u64=>0#64
 | .bool=>false
 | .str=>⟨#[]⟩
 | .NC=>(0:Nat)
 | .pair a b=>(a.ATU,b.ATU)
 | .slice _=>[]
 | .kv=>((0:Int),false)
 | .nf=>(none:Option Nat)
 | .uF=>()
def gd (t:Ty) (xs:List t.T) (k:Nat):t.T:=xs.getD k t.ATU
def BX {α:Type} (xs:List α) (lo n:Nat):List α:=(xs.drop lo).take n
def HH:(t:Ty)->t.T->Nat->List SV
 | .int k,x,_=>[.int k x]
 | .u64,x,_=>[.u64 x]
 | .bool,x,_=>[.bool x]
 | .str,x,_=>[.str x]
 | .NC,x,_=>[.NC x]
 | .pair a b,x,n=>HH a x.1 n++HH b x.2 (n+a.GN)
 | .slice _,_,n=>[.MB n]
 | .kv,x,_=>[.int .i64 x.1]
 | .nf,x,n=>[.nf x n]
 | .uF,_,_=>[.raw .nilIface]
inductive AW where
 |KI
 |dead
 |box (cs:List SV)
 |row (t:Ty) (xs:List t.T)
 |shr (t:Ty) (xs:List t.T)
 |deep (t:Ty) (xss:List (List t.T)) (h:Option (Nat×Nat))
 |map (xs:List (Int×Bool))
 |ptr (j:Nat)
 |tree (t1 t2:Ty) (xs:List (List t1.T×List t2.T))
def AW.G6:AW->Bool
 | .KI=>true
 |_=>false
def Ty.o9:Ty->Bool
 | .slice _=>true
 | .kv=>true
 | .pair (.slice _) (.slice _)=>true
 |_=>false
def Ty.ATV:Ty->Bool
 | .kv=>true
 |_=>false
def IU:(a:Ty)->List a.T->AW
 | .slice b,x=> .deep b x none
 | .int k,x=> .row (.int k) x
 | .u64,x=> .row .u64 x
 | .bool,x=> .row .bool x
 | .str,x=> .row .str x
 | .NC,x=> .row .NC x
 | .pair (.slice a) (.slice b),x=> .tree a b x
 | .pair a b,x=> .row (.pair a b) x
 | .kv,x=> .map x
 | .nf,x=> .row .nf x
 | .uF,x=> .row .uF x
def BY (own:Bool):(t:Ty)->t.T->List AW
 | .int _,_=>[]
 | .u64,_=>[]
 | .bool,_=>[]
 | .str,_=>[]
 | .NC,_=>[]
 | .pair a b,x=>BY own a x.1++BY own b x.2
 | .slice a,x=>[match own with|true=>IU a x|false=> .shr a x]
 | .kv,_=>[]
 | .nf,_=>[.dead]
 | .uF,_=>[]
theorem K1 {a:Ty} (h:a.o9=false) (x:List a.T):IU a x= .row a x:=by
 cases a with
 |pair a b=>cases a <;> cases b <;> first|rfl|cases h
 |_=>first|rfl|cases h
theorem gS (a:Ty) (x:List a.T):(IU a x).G6=false:=by
 cases a with
 |pair a b=>cases a <;> cases b <;> rfl
 |_=>rfl
def enc:(t:Ty)->t.T->(Nat->Nm)->List Value
 | .int k,x,_=>[.int k x]
 | .u64,x,_=>[.int .u64 ((x:BitVec 64).toNat:Int)]
 | .bool,x,_=>[.bool x]
 | .str,x,_=>[.string x]
 | .NC,x,_=>[.float .f64 x]
 | .pair a b,x,m=>enc a x.1 m++enc b x.2 (fun k=>m (a.GN+k))
 | .slice _,_,m=>[.slice (m 0).ad (m 0).len (m 0).cap]
 | .kv,x,_=>[.int .i64 x.1]
 | .nf,x,m=>[.float .f64 ((x:Option Nat).getD (UI (m 0).B5))]
 | .uF,_,_=>[.nilIface]
theorem UL (E:Env) (t:Ty) (x:t.T) (n:Nat):AK E (HH t x n)=enc t x (fun k=>E.nm (n+k)):=by
 induction t generalizing n with
 |pair a b T1 T3=>simp [HH,enc,FW,T1,T3,NI]
 |_=>rfl
theorem GZ (t:Ty) (x:t.T) {f g:Nat->Nm} (h:∀ k,k<t.GN->f k=g k):enc t x f=enc t x g:=by
 induction t generalizing f g with
 |pair a b T1 T3=>
  simp only[enc]
  rw[T1 x.1 (fun k hk=>h k (by simp [Ty.GN];omega)),T3 x.2 (fun k hk=>h _ (by simp [Ty.GN];omega))]
 |slice a=>simp only[enc];rw[h 0 (by simp [Ty.GN])]
 |nf=>simp only[enc];rw[h 0 (by simp [Ty.GN])]
 |_=>rfl
theorem AEH (t:Ty) (x:t.T) (f:Nat->Nm):(enc t x f).length=t.sz:=by
 induction t generalizing f with
 |pair a b T1 T3=>simp [enc,Ty.sz,T1,T3]
 |_=>rfl
theorem EL (t:Ty) (x:t.T) (n:Nat):(HH t x n).length=t.sz:=by
 induction t generalizing n with
 |pair a b T1 T3=>simp [HH,Ty.sz,T1,T3]
 |_=>rfl
theorem A_ (o:Bool) (t:Ty) (x:t.T):(BY o t x).length=t.GN:=by
 induction t with
 |pair a b T1 T3=>simp [BY,Ty.GN,T1,T3]
 |_=>rfl
theorem AEI (t:Ty):0<t.sz:=by
 induction t with
 |pair a b T1 T3=>simp [Ty.sz];omega
 |_=>simp [Ty.sz]
def BH (arr:Array Value) (off n:Nat):List Value:=(arr.toList.drop off).take n
def RowsIn {α:Type} (R:α->List Value->Prop) (sz:Nat) (arr:Array Value) (off:Nat) (xs:List α):Prop:=
 ∀ i x,xs[i]? =some x->R x (BH arr (off+i*sz) sz)
def o_ {α:Type} (R:α->List Value->Prop) (sz:Nat) (G:Nat->Prop) (w:World) (m:Nm) (xs:List α):Prop:=
 m.len=xs.length/\m.len<=m.cap/\(xs=[]\/(m.nil=false/\G m.B5/\∃ arr ty fz,w.heap[m.B5]? =some (.cells arr ty fz)/\RowsIn R sz arr m.off xs))
def Rp (G:Nat->Prop) (w:World):(t:Ty)->t.T->List Value->Prop
 | .int k,x,vs=>vs=[.int k x]
 | .u64,x,vs=>vs=[.int .u64 ((x:BitVec 64).toNat:Int)]
 | .bool,x,vs=>vs=[.bool x]
 | .str,x,vs=>vs=[.string x]
 | .NC,x,vs=>vs=[.float .f64 x]
 | .pair a b,x,vs=>∃ v1 v2,vs=v1++v2/\Rp G w a x.1 v1/\Rp G w b x.2 v2
 | .slice a,x,vs=>∃ m:Nm,vs=[.slice m.ad m.len m.cap]/\o_ (Rp G w a) a.sz G w m x
 | .kv,x,vs=>vs=[.int .i64 x.1]
 | .nf,x,vs=>∃ k,vs=[.float .f64 ((x:Option Nat).getD (UI k))]
 | .uF,_,vs=>vs=[.nilIface]
theorem RowsIn.imp {α:Type} {R R' :α->List Value->Prop} {sz:Nat} {arr:Array Value} {off:Nat} {xs:List α} (h:RowsIn R sz arr off xs) (hr:∀ x vs,R x vs->R' x vs):RowsIn R' sz arr off xs:=
 fun i x hx=>hr _ _ (h i x hx)
theorem o_.mono {α:Type} {R R' :α->List Value->Prop} {sz:Nat} {G G' :Nat->Prop} {w w' :World} {m:Nm} {xs:List α} (h:o_ R sz G w m xs) (hr:∀ x vs,R x vs->R' x vs)
  (hw:∀ b,G b->w'.heap[b]? =w.heap[b]?) (hg:∀ b,G b->G' b):o_ R' sz G' w' m xs:=by
 obtain⟨h1,h0,h2⟩:=h
 refine⟨h1,h0,h2.imp id ?_⟩
 rintro⟨a,b,arr,ty,fz,c,d⟩
 exact⟨a,hg _ b,arr,ty,fz,by rw[hw _ b];exact c,d.imp hr⟩
theorem Rp.mono {G G' :Nat->Prop} {w w' :World} (hw:∀ b,G b->w'.heap[b]? =w.heap[b]?) (hg:∀ b,G b->G' b) (t:Ty) (x:t.T) (vs:List Value) (h:Rp G w t x vs):Rp G' w' t x vs:=by
 induction t generalizing vs with
 |pair a b T1 T3=>
  obtain⟨v1,v2,h0,h1,h2⟩:=h
  exact⟨v1,v2,h0,T1 _ _ h1,T3 _ _ h2⟩
 |slice a ih=>
  obtain⟨m,h0,h1⟩:=h
  exact⟨m,h0,h1.mono (fun x vs hx=>ih x vs hx) hw hg⟩
 |_=>exact h
theorem Rp.length {G:Nat->Prop} {w:World} (t:Ty) (x:t.T) (vs:List Value) (h:Rp G w t x vs):vs.length=t.sz:=by
 induction t generalizing vs with
 |pair a b T1 T3=>
  obtain⟨v1,v2,rfl,h1,h2⟩:=h
  simp [Ty.sz,T1 _ _ h1,T3 _ _ h2]
 |slice a=>obtain⟨m,rfl,_⟩:=h;rfl
 |nf=>obtain⟨m,rfl⟩:=h;rfl
 |_=>(simp only[Rp] at h;rw[h];rfl)
def ATW (G:Nat->Prop) (w:World) (m:Nm):AW->Prop
 | .shr a xs=>o_ (Rp G w a) a.sz G w m xs
 | .dead=>True
 |_=>False
theorem Rp.out {G:Nat->Prop} {w:World} (t:Ty) (x:t.T) (vs:List Value) (h:Rp G w t x vs):∃ m:Nat->Nm,vs=enc t x m/\∀ k e,(BY false t x)[k]? =some e->ATW G w (m k) e:=by
 induction t generalizing vs with
 |pair a b T1 T3=>
  obtain⟨v1,v2,rfl,h1,h2⟩:=h
  obtain⟨m1,e1,s1⟩:=T1 _ _ h1
  obtain⟨m2,e2,s2⟩:=T3 _ _ h2
  refine⟨fun k=>if k<a.GN then m1 k else m2 (k-a.GN), ?_, ?_⟩
  ·simp only[enc]
   rw[e1,e2]
   congr 1
   ·exact GZ _ _ fun k hk=>by simp [hk]
   ·exact GZ _ _ fun k hk=>by
     have:¬(a.GN+k<a.GN):=by omega
     simp [this]
  ·intro k e he
   simp only[BY] at he
   by_cases hk:k<a.GN
   ·rw[T6 (by rw[A_];exact hk)] at he
    simp only[hk,GA];exact s1 k e he
   ·rw[T5 (by rw[A_];omega),A_] at he
    simp only[hk,I9];exact s2 _ e he
 |slice a=>
  obtain⟨m,rfl,h1⟩:=h
  refine⟨fun _=>m,rfl, ?_⟩
  intro k e he
  cases k with
  |zero=>simp only[BY,O1,AY] at he;subst he;exact h1
  |succ k=>simp [BY] at he
 |nf=>
  obtain⟨k0,rfl⟩:=h
  refine⟨fun _=>⟨k0,0,true,0,0,none⟩,rfl, ?_⟩
  intro k e he
  cases k with
  |zero=>simp only[BY,O1,AY] at he;subst he;trivial
  |succ k=>simp [BY] at he
 |_=>exact⟨fun _=>⟨0,0,true,0,0,none⟩,h,fun k e he=>by simp [BY] at he⟩
theorem Rp.mk {G:Nat->Prop} {w:World} (t:Ty) (x:t.T) (m:Nat->Nm) (h:∀ k e,(BY false t x)[k]? =some e->ATW G w (m k) e):Rp G w t x (enc t x m):=by
 induction t generalizing m with
 |pair a b T1 T3=>
  refine⟨_,_,rfl,T1 x.1 m ?_,T3 x.2 _ ?_⟩
  ·intro k e he
   have hk:k<a.GN:=by
    rcases GY k (BY false a x.1).length with h1|h1
    ·rwa [A_] at h1
    ·rw[SO h1] at he;cases he
   exact h k e (by simp only[BY];rw[T6 (by rw[A_];exact hk)];exact he)
  ·intro k e he
   exact h (a.GN+k) e (by simp only[BY];rw[T5 (by rw[A_];omega),A_];simpa using he)
 |slice a=>exact⟨m 0,rfl,h 0 _ rfl⟩
 |nf=>exact⟨_,rfl⟩
 |_=>rfl
structure DN (TB:Tb) where
 w0:World
 io:Nat->Prop
 g0:Nat->Prop
def DN.Old (c:DN TB) (b:Nat):Prop:=b<c.w0.heap.size/\¬c.io b
def DN.Tab (c:DN TB):Prop:=∀ q∈TB,c.Old q.1/\∃ ty fz,c.w0.heap[q.1]? =some (.cells q.2 ty fz)
def Own {α:Type} (R:α->List Value->Prop) (sz:Nat) (c:DN TB) (G:Nat->Prop) (w:World) (m:Nm) (xs:List α):Prop:=
 m.len=xs.length/\True/\((m.nil=true/\xs=[]/\m.cap=0)∨
  (m.nil=false/\¬G m.B5/\¬c.Old m.B5/\xs.length<=m.cap/\∃ arr ty,w.heap[m.B5]? =some (.cells arr ty (m.fr arr.size))/\m.off+m.cap*sz<=arr.size/\RowsIn R sz arr m.off xs))
theorem cT {α:Type} {R:α->List Value->Prop} {sz:Nat} {c:DN TB} {G:Nat->Prop} {w:World} {m:Nm} {xs:List α} (h:Own R sz c G w m xs):m.len<=m.cap:=by
 obtain⟨h1,h2,h3⟩:=h
 rcases h3 with ⟨_,rfl,h4⟩|⟨_,_,_,h7,_⟩
 ·simp at h1;omega
 ·omega
def FF {α:Type} (R:α->List Value->Prop) (sz:Nat) (w:World) (m:Nm) (xs:List α):Prop:=
 m.len=xs.length/\True/\((m.nil=true/\xs=[]/\m.cap=0)∨
  (m.nil=false/\xs.length<=m.cap/\∃ arr ty,w.heap[m.B5]? =some (.cells arr ty (m.fr arr.size))/\m.off+m.cap*sz<=arr.size/\RowsIn R sz arr m.off xs))
abbrev AJ:=List (Nat×AW)
def look (L:AJ) (n:Nat):Option AW:=match L[n]? with
 |some q=>some q.2
 |none=>none
def Al (L:AJ) (n:Nat):Prop:=∃ e,look L n=some e/\e.G6=false
mutual
def SV.wf (E:Env) (L:AJ):SV->Prop
 | .loc i _=>Al L i
 | .MB i=>Al L i
 | .sub i lo n _=>Al L i/\lo+n<=(E.nm i).len
 | .el i k _ _=>Al L i/\k<(E.nm i).len/\(E.nm i).nil=false
 | .l5 _=>False
 | .nf _ i=>Al L i
 | .agg cs=>KJ E L cs
 | .tup vs=>KJ E L vs
 | .mpv i=>Al L i
 | .vN _ cs=>KJ E L cs
 | .tsl i k q=>Al L i/\k<(E.nm i).len/\q<2
 | .tel i k q j=>Al L i/\k<(E.nm i).len/\q<2/\j<((E.nm i).hn (k*2+q)).len
 |_=>True
def KJ (E:Env) (L:AJ):List SV->Prop
 | []=>True
 |v::r=>v.wf E L/\KJ E L r
end
theorem BP {E:Env} {L:AJ} {l:List SV}:KJ E L l↔∀ v∈l,v.wf E L:=by
 induction l with
 |nil=>simp [KJ]
 |cons v r ih=>simp [KJ,ih]
mutual
theorem W2 {E E' :Env} {L L' :AJ} (hL:∀ n,Al L n->Al L' n) (hE:∀ n,Al L n->E'.nm n=E.nm n):∀ (v:SV),v.wf E L->v.wf E' L' /\v.den E' =v.den E
 | .loc i _,h=>⟨hL _ h,by simp only[SV.den];rw[hE _ h]⟩
 | .MB i,h=>⟨hL _ h,by simp only[SV.den];rw[hE _ h]⟩
 | .sub i lo n sz,h=>⟨⟨hL _ h.1,by rw[hE _ h.1];exact h.2⟩,by simp only[SV.den];rw[hE _ h.1]⟩
 | .el i k sz off,h=>⟨⟨hL _ h.1,by rw[hE _ h.1];exact h.2.1,by rw[hE _ h.1];exact h.2.2⟩,by simp only[SV.den];rw[hE _ h.1]⟩
 | .l5 _,h=>h.elim
 | .agg cs,h=>by
  obtain⟨h1,h2⟩:=KK hL hE cs h
  exact⟨h1,by simp only[SV.den];rw[h2]⟩
 | .tup cs,h=>by
  obtain⟨h1,h2⟩:=KK hL hE cs h
  exact⟨h1,by simp only[SV.den];rw[h2]⟩
 | .mpv i,h=>⟨hL _ h,by simp only[SV.den];rw[hE _ h]⟩
 | .tsl i k q,h=>⟨⟨hL _ h.1,by rw[hE _ h.1];exact h.2⟩,by simp only[SV.den];rw[hE _ h.1]⟩
 | .tel i k q j,h=>⟨⟨hL _ h.1,by rw[hE _ h.1];exact h.2⟩,by simp only[SV.den];rw[hE _ h.1]⟩
 | .vN _ cs,h=>by
  obtain⟨h1,h2⟩:=KK hL hE cs h
  exact⟨h1,by simp only[SV.den];rw[h2]⟩
 | .int _ _,_=>⟨trivial,rfl⟩
 | .u64 _,_=>⟨trivial,rfl⟩
 | .bool _,_=>⟨trivial,rfl⟩
 | .NJ _,_=>⟨trivial,rfl⟩
 | .prop _ _,_=>⟨trivial,rfl⟩
 | .str _,_=>⟨trivial,rfl⟩
 | .NC _,_=>⟨trivial,rfl⟩
 | .nf _ i,h=>⟨hL _ h,by simp only[SV.den];rw[hE _ h]⟩
 | .KX,_=>⟨trivial,rfl⟩
 | .ptr _,_=>⟨trivial,rfl⟩
 | .raw _,_=>⟨trivial,rfl⟩
theorem KK {E E' :Env} {L L' :AJ} (hL:∀ n,Al L n->Al L' n) (hE:∀ n,Al L n->E'.nm n=E.nm n):∀ (l:List SV),KJ E L l->KJ E' L' l/\AK E' l=AK E l
 | [],_=>⟨trivial,rfl⟩
 |v::r,h=>by
  obtain⟨h1,h2⟩:=W2 hL hE v h.1
  obtain⟨h3,h4⟩:=KK hL hE r h.2
  exact⟨⟨h1,h3⟩,by simp only[AK];rw[h2,h4]⟩
end
def AW.own:AW->Nm->Option Nat
 | .box _,m=>some m.B5
 | .row _ _,m=>if m.nil=true then none else some m.B5
 | .map _,m=>some m.B5
 |_,_=>none
def AW.RO:AW->Bool
 | .deep _ _ _=>true
 |_=>false
def AW.N8:AW->Bool
 | .tree _ _ _=>true
 |_=>false
def AW.ow (e:AW) (E:Env) (n b:Nat):Prop:=e.own (E.nm n)=some b\/(e.RO=true/\b∈E.ins.l n)\/(e.N8=true/\b∈(E.nm n).ins.l)
structure EX (c:DN TB) (G:Nat->Prop) (w:World) (m:Nm) (t1 t2:Ty) (xs:List (List t1.T×List t2.T)):Prop where
 len:m.len=xs.length
 off:m.off=0
 nd:m.ins.l.Nodup
 all:∀ b∈m.ins.l,¬G b/\¬c.Old b/\∃ arr ty fz,w.heap[b]? =some (.cells arr ty fz)
 cs:(m.nil=true/\xs=[]/\m.cap=0)\/(m.nil=false/\m.B5∈m.ins.l/\xs.length<=m.cap/\∃ (arr:Array Value) (ty:TypeId),w.heap[m.B5]? =some (.cells arr ty (0,0))/\arr.size=m.cap*2∧
  (∀ k,k<xs.length*2->arr[k]? =some (.slice (m.hn k).ad (m.hn k).len (m.hn k).cap))∧
  (∀ k x,xs[k]? =some x->FF (Rp G w t1) t1.sz w (m.hn (k*2)) x.1/\FF (Rp G w t2) t2.sz w (m.hn (k*2+1)) x.2)∧
  (∀ k,k<xs.length*2->(m.hn k).nil=false->(m.hn k).B5∈m.ins.l/\(m.hn k).B5≠m.B5)∧
  (∀ k k',k<xs.length*2->k' <xs.length*2->k≠k' ->(m.hn k).nil=false->(m.hn k').nil=false->(m.hn k).B5≠(m.hn k').B5))
structure FB (c:DN TB) (G:Nat->Prop) (w:World) (E:Env) (L:AJ) (m:Nm) (l:List Nat) (t:Ty) (xss:List (List t.T)) (h:Option (Nat×Nat)):Prop where
 len:m.len=xss.length
 off:m.off=0
 nd:l.Nodup
 all:∀ b∈l,¬G b/\¬c.Old b/\∃ arr ty fz,w.heap[b]? =some (.cells arr ty fz)
 cs:(m.nil=true/\xss=[]/\m.cap=0)\/(m.nil=false/\m.B5∈l/\xss.length<=m.cap/\∃ (arr:Array Value) (ty:TypeId) (hs:Nat->Nm),w.heap[m.B5]? =some (.cells arr ty (0,0))/\arr.size=m.cap∧
  (∀ k,k<xss.length->arr[k]? =some (.slice (hs k).ad (hs k).len (hs k).cap))∧
  (∀ k xs,xss[k]? =some xs->(∀ j,h≠some (k,j))->FF (Rp G w t) t.sz w (hs k) xs/\((hs k).nil=false->(hs k).B5∈l/\(hs k).B5≠m.B5))∧
  (∀ k k',k<xss.length->k' <xss.length->k≠k' ->(∀ j,h≠some (k,j))->(∀ j,h≠some (k',j))->(hs k).nil=false->(hs k').nil=false->(hs k).B5≠(hs k').B5)∧
  (∀ k j,h=some (k,j)->k<xss.length->hs k=E.nm j/\Al L j))
theorem EX.cfg {c c' :DN TB} {G:Nat->Prop} {w:World} {m:Nm} {t1 t2:Ty} {xs:List (List t1.T×List t2.T)} (k:EX c G w m t1 t2 xs) (hc:∀ b∈m.ins.l,¬c'.Old b):EX c' G w m t1 t2 xs:=
 ⟨k.len,k.off,k.nd,fun b hb=>⟨(k.all b hb).1,hc b hb,(k.all b hb).2.2⟩,k.cs⟩
theorem EX.nil {c:DN TB} {G G' :Nat->Prop} {w:World} {m:Nm} {t1 t2:Ty} (k:EX c G w m t1 t2 []) (hg:∀ b,G' b->G b):EX c G' w m t1 t2 []:=by
 refine⟨k.len,k.off,k.nd,fun b hb=>⟨fun hx=>(k.all b hb).1 (hg _ hx),(k.all b hb).2⟩, ?_⟩
 rcases k.cs with hc|⟨q1,q2,q3,arr,ty,q4,q5,q6,q7,q8,q9⟩
 ·exact .inl hc
 ·exact .inr ⟨q1,q2,q3,arr,ty,q4,q5,q6,fun k x hk=>by simp at hk,q8,q9⟩
def AGM (es:Array MapEntry) (xs:List (Int×Bool)):Prop:=es.toList.map (fun e=>(e.key,e.val))=xs.map (fun q=>((.int .i64 q.1:Value),(.bool q.2:Value)))
def YD (c:DN TB) (G:Nat->Prop) (w:World) (E:Env) (L:AJ) (m:Nm):AW->Prop
 | .KI=>True
 | .dead=>True
 | .box cs=>m.nil=false/\m.off=m.pp.pre.length/\¬G m.B5/\¬c.Old m.B5/\(∃ ty,w.heap[m.B5]? =some (.cells (m.arr (AK E cs)) ty (0,0)))/\KJ E L cs
 | .row t xs=>Own (Rp G w t) t.sz c G w m xs
 | .shr t xs=>o_ (Rp G w t) t.sz G w m xs
 | .deep _ _ _=>True
 | .map xs=>m.nil=false/\m.off=0/\¬G m.B5/\¬c.Old m.B5/\∃ es ck,w.heap[m.B5]? =some (.map es ck)/\AGM es xs
 | .tree t1 t2 xs=>EX c G w m t1 t2 xs
 | .ptr j=>c.Old m.B5/\(∃ arr ty fz,c.w0.heap[m.B5]? =some (.cells arr ty fz)/\arr[m.off]? =some (.pointer (some ⟨(E.nm j).B5,(E.nm j).off,none⟩)))/\Al L j
structure AS (c:DN TB) (G:Nat->Prop) (w:World) (E:Env) (L:AJ):Prop where
 rest:Rest c.w0 w
 size:c.w0.heap.size<=w.heap.size
 old:∀ b,c.Old b->w.heap[b]? =c.w0.heap[b]?
 tV:∀ b,G b->b<w.heap.size
 glo:∀ b,c.g0 b->G b
 ghi:∀ b,G b->c.g0 b\/¬c.Old b
 KY:∀ n e,look L n=some e->YD c G w E L (E.nm n) e
 dp:∀ n t xss h,look L n=some (.deep t xss h)->FB c G w E L (E.nm n) (E.ins.l n) t xss h
 inj:∀ n k e f b,n≠k->look L n=some e->look L k=some f->e.ow E n b->¬f.ow E k b
 tab:c.Tab
theorem RP {w:World} {b:Nat} {o:Obj} (h:w.heap[b]? =some o):b<w.heap.size:=by
 rcases GY b w.heap.size with h1|h1
 ·exact h1
 ·rw[AAR h1] at h;cases h
theorem FF.mono {α:Type} {R R' :α->List Value->Prop} {sz:Nat} {w w' :World} {m:Nm} {xs:List α} (h:FF R sz w m xs) (hr:∀ x vs,R x vs->R' x vs) (hw:m.nil=false->w'.heap[m.B5]? =w.heap[m.B5]?):FF R' sz w' m xs:=by
 obtain⟨h1,h2,h3⟩:=h
 refine⟨h1,h2,h3.imp id ?_⟩
 rintro⟨h4,h5,arr,ty,h6,h7,h8⟩
 exact⟨h4,h5,arr,ty,by rw[hw h4];exact h6,h7,h8.imp hr⟩
theorem FB.mono {c:DN TB} {G G' :Nat->Prop} {w w' :World} {E E' :Env} {L L' :AJ} {m:Nm} {l:List Nat} {t:Ty} {xss:List (List t.T)} {h:Option (Nat×Nat)} (k:FB c G w E L m l t xss h)
  (hL:∀ n,Al L n->Al L' n) (hE:∀ n,Al L n->E'.nm n=E.nm n) (hw:∀ b,G b->w'.heap[b]? =w.heap[b]?) (hg:∀ b,G b->G' b)
  (ho:∀ b∈l,w'.heap[b]? =w.heap[b]?∧¬G' b):FB c G' w' E' L' m l t xss h:=by
 refine⟨k.len,k.off,k.nd,fun b hb=>⟨(ho b hb).2,(k.all b hb).2.1, ?_⟩,k.cs.imp id ?_⟩
 ·rw[(ho b hb).1];exact (k.all b hb).2.2
 ·rintro⟨h1,h2,h3,arr,ty,hs,h4,h5,h6,h7,h8,h9⟩
  refine⟨h1,h2,h3,arr,ty,hs,by rw[(ho _ h2).1];exact h4,h5,h6,fun k xs hk hj=> ?_,h8,fun k j hk hl=> ?_⟩
  ·obtain⟨q1,q2⟩:=h7 k xs hk hj
   exact⟨q1.mono (fun x vs hx=>Rp.mono hw hg t x vs hx) (fun hn=>(ho _ (q2 hn).1).1),q2⟩
  ·obtain⟨q1,q2⟩:=h9 k j hk hl
   exact⟨by rw[hE _ q2];exact q1,hL _ q2⟩
theorem FB.cfg {c c' :DN TB} {G:Nat->Prop} {w:World} {E:Env} {L:AJ} {m:Nm} {l:List Nat} {t:Ty} {xss:List (List t.T)} {h:Option (Nat×Nat)} (k:FB c G w E L m l t xss h)
  (hc:∀ b∈l,¬c'.Old b):FB c' G w E L m l t xss h:=
 ⟨k.len,k.off,k.nd,fun b hb=>⟨(k.all b hb).1,hc b hb,(k.all b hb).2.2⟩,k.cs⟩
theorem FB.env {c:DN TB} {G:Nat->Prop} {w:World} {E E' :Env} {L L' :AJ} {m m' :Nm} {l:List Nat} {t:Ty} {xss:List (List t.T)} (k:FB c G w E L m l t xss none)
  (hm:m'.B5=m.B5/\m'.off=m.off/\m'.nil=m.nil/\m'.len=m.len/\m'.cap=m.cap):FB c G w E' L' m' l t xss none:=by
 obtain⟨e1,e2,e3,e4,e5⟩:=hm
 obtain⟨k1,k2,k3,k4,k5⟩:=k
 refine⟨by rw[e4];exact k1,by rw[e2];exact k2,k3,k4, ?_⟩
 rw[e1,e3,e5]
 refine k5.imp id ?_
 rintro⟨h1,h2,h3,arr,ty,hs,h4,h5,h6,h7,h8,h9⟩
 exact⟨h1,h2,h3,arr,ty,hs,h4,h5,h6,h7,h8,fun k j hk=>by cases hk⟩
theorem YD.rF {c:DN TB} {G:Nat->Prop} {w:World} {E:Env} {L:AJ} {m:Nm} {e:AW} (h:YD c G w E L m e) {b:Nat} (hb:e.own m=some b):b=m.B5/\m.nil=false/\True/\¬G b/\¬c.Old b/\∃ o,w.heap[b]? =some o:=by
 cases e with
 |map xs=>
  simp only[AW.own,AY] at hb;subst hb
  obtain⟨h1,h2,h3,h4,es,ck,h5,_⟩:=h
  exact⟨rfl,h1,trivial,h3,h4,_,h5⟩
 |box cs=>
  simp only[AW.own,AY] at hb;subst hb
  obtain⟨h1,h2,h3,h4,⟨ty,h5⟩,_⟩:=h
  exact⟨rfl,h1,trivial,h3,h4,_,h5⟩
 |row t xs=>
  simp only[AW.own] at hb
  split at hb
  ·cases hb
  ·rename_i hn
   simp only[AY] at hb;subst hb
   obtain⟨h1,h2,h3⟩:=h
   rcases h3 with ⟨h4,_⟩|⟨h4,h5,h6,h7,arr,ty,h8,_⟩
   ·exact absurd h4 hn
   ·exact⟨rfl,h4,h2,h5,h6,_,h8⟩
 |_=>cases hb
theorem YD.mono {c:DN TB} {G G' :Nat->Prop} {w w' :World} {E E' :Env} {L L' :AJ} {m:Nm} {e:AW} (h:YD c G w E L m e)
  (hL:∀ n,Al L n->Al L' n) (hE:∀ n,Al L n->E'.nm n=E.nm n) (hw:∀ b,G b->w'.heap[b]? =w.heap[b]?) (hg:∀ b,G b->G' b)
  (ho:∀ b,e.own m=some b->w'.heap[b]? =w.heap[b]?∧¬G' b) (hot:e.N8=true->∀ b∈m.ins.l,w'.heap[b]? =w.heap[b]?∧¬G' b):YD c G' w' E' L' m e:=by
 cases e with
 |tree t1 t2 xs=>
  have hot:=hot rfl
  refine⟨h.len,h.off,h.nd,fun b hb=> ?_, ?_⟩
  ·obtain⟨q1,q2,arr,ty,fz,q3⟩:=h.all b hb
   exact⟨(hot b hb).2,q2,arr,ty,fz,by rw[(hot b hb).1];exact q3⟩
  ·rcases h.cs with hc|⟨q1,q2,q3,arr,ty,q4,q5,q6,q7,q8,q9⟩
   ·exact .inl hc
   ·refine .inr ⟨q1,q2,q3,arr,ty,by rw[(hot _ q2).1];exact q4,q5,q6,fun k x hk=> ?_,q8,q9⟩
    have yF:k<xs.length:=(uA.1 hk).1
    obtain⟨r1,r2⟩:=q7 k x hk
    exact⟨r1.mono (fun x vs hx=>Rp.mono hw hg t1 x vs hx) (fun hn=>(hot _ (q8 (k*2) (by omega) hn).1).1),r2.mono (fun x vs hx=>Rp.mono hw hg t2 x vs hx) (fun hn=>(hot _ (q8 (k*2+1) (by omega) hn).1).1)⟩
 |KI=>trivial
 |dead=>trivial
 |deep _ _ _=>trivial
 |map xs=>
  obtain⟨h1,h2,h3,h4,es,ck,h5,h6⟩:=h
  obtain⟨k1,k2⟩:=ho _ rfl
  exact⟨h1,h2,k2,h4,es,ck,by rw[k1];exact h5,h6⟩
 |box cs=>
  obtain⟨h1,h2,h3,h4,⟨ty,h5⟩,h6⟩:=h
  obtain⟨k1,k2⟩:=ho _ rfl
  obtain⟨q1,q2⟩:=KK hL hE cs h6
  exact⟨h1,h2,k2,h4,⟨ty,by rw[k1,q2];exact h5⟩,q1⟩
 |row t xs=>
  obtain⟨h1,h2,h3⟩:=h
  refine⟨h1,h2,h3.imp id ?_⟩
  rintro⟨h4,h5,h6,h7,arr,ty,h8,h9,uG⟩
  obtain⟨k1,k2⟩:=ho m.B5 (by simp [AW.own,h4])
  exact⟨h4,k2,h6,h7,arr,ty,by rw[k1];exact h8,h9,uG.imp fun x vs hx=>Rp.mono hw hg t x vs hx⟩
 |shr t xs=>exact o_.mono h (fun x vs hx=>Rp.mono hw hg t x vs hx) hw hg
 |ptr j=>
  obtain⟨h1,⟨arr,ty,fz,h2,h3⟩,h4⟩:=h
  exact⟨h1,⟨arr,ty,fz,h2,by rw[hE j h4];exact h3⟩,hL j h4⟩
def C5 (L:AJ) (q:Nat×AW):AJ:=match L[q.1]? with
 |some (v,_)=>L.set q.1 (v+1,q.2)
 |none=>L
def AI (L:AJ) (l:List (Nat×AW)):AJ:=l.foldl C5 L
theorem FK (L:AJ) (q:Nat×AW):(C5 L q).length=L.length:=by
 unfold C5;split <;> simp
theorem NQ (L:AJ) (l:List (Nat×AW)):(AI L l).length=L.length:=by
 induction l generalizing L with
 |nil=>rfl
 |cons q r ih=>simp only[AI,jJ];exact (ih _).trans (FK _ _)
theorem AP {L:AJ} {n:Nat} {e:AW} (h:look L n=some e):n<L.length:=by
 rcases GY n L.length with h1|h1
 ·exact h1
 ·unfold look at h;rw[SO h1] at h;cases h
theorem AZ {L:AJ} {q:Nat×AW} (hq:q.1<L.length) (n:Nat):look (C5 L q) n=if n=q.1 then some q.2 else look L n:=by
 unfold C5
 rw[NB hq]
 unfold look
 simp only[qW]
 by_cases h:n=q.1
 ·subst h;simp [hq]
 ·rw[AB h,AB (fun h' =>h h'.symm)]
theorem BM {L:AJ} {q:Nat×AW} (hr:q.2.G6=false) (n:Nat) (h:Al L n):Al (C5 L q) n:=by
 by_cases hq:q.1<L.length
 ·obtain⟨e,h1,h2⟩:=h
  unfold Al
  rw[AZ hq]
  by_cases hn:n=q.1
  ·exact⟨q.2,by simp [hn],hr⟩
  ·exact⟨e,by simp [hn,h1],h2⟩
 ·unfold C5
  rw[SO (by omega)]
  exact h
theorem AW.cU {e:AW} (hd:e.RO=false) {E:Env} {n b:Nat} (ht:e.N8=false:=by rfl):e.ow E n b↔e.own (E.nm n)=some b:=by
 unfold AW.ow;rw[hd,ht];simp
theorem AW.cV {t1 t2:Ty} {xs:List (List t1.T×List t2.T)} {E:Env} {n b:Nat}:(AW.tree t1 t2 xs).ow E n b↔b∈(E.nm n).ins.l:=by
 simp [AW.ow,AW.own,AW.RO,AW.N8]
theorem AW.NR {e:AW} (ht:e.N8=true) {E:Env} {n b:Nat} (hb:b∈(E.nm n).ins.l):e.ow E n b:= .inr (.inr ⟨ht,hb⟩)
theorem AW.FE {t:Ty} {xss:List (List t.T)} {h:Option (Nat×Nat)} {E:Env} {n b:Nat}:(AW.deep t xss h).ow E n b↔b∈E.ins.l n:=by
 simp [AW.ow,AW.own,AW.RO,AW.N8]
theorem AS.O3 {c:DN TB} {G:Nat->Prop} {w:World} {E:Env} {L:AJ} (h:AS c G w E L) {n:Nat} {e:AW} (he:look L n=some e) {b:Nat} (hb:e.ow E n b):¬G b/\¬c.Old b/\∃ o,w.heap[b]? =some o:=by
 rcases hb with hb|⟨hd,hb⟩|⟨hd,hb⟩
 ·obtain⟨_,_,_,h4,h5,h6⟩:=(h.KY n e he).rF hb
  exact⟨h4,h5,h6⟩
 ·cases e with
  |deep t xss q=>
   obtain⟨h1,h2,arr,ty,_,h3⟩:=(h.dp n t xss q he).all b hb
   exact⟨h1,h2,_,h3⟩
  |_=>cases hd
 ·cases e with
  |tree t1 t2 xs=>
   obtain⟨h1,h2,arr,ty,_,h3⟩:=(h.KY n _ he).all b hb
   exact⟨h1,h2,_,h3⟩
  |_=>cases hd
theorem AS.f_ {c:DN TB} {G:Nat->Prop} {w:World} {E:Env} {L:AJ} (h:AS c G w E L) {n:Nat} {e:AW} (he:look L n=some e) {b:Nat} (hb:e.ow E n b):b<w.heap.size:=by
 obtain⟨_,_,o,h6⟩:=h.O3 he hb
 exact RP h6
theorem AS.world {c:DN TB} {G:Nat->Prop} {w w' :World} {E:Env} {L:AJ} (h:AS c G w E L) (hh:w'.heap=w.heap) (hr:Rest w w'):AS c G w' E L:=
 ⟨h.rest.trans hr,by rw[hh];exact h.size,fun b hb=>by rw[hh];exact h.old b hb,fun b hb=>by rw[hh];exact h.tV b hb,h.glo,h.ghi,
  fun n e he=>(h.KY n e he).mono (fun _ h=>h) (fun _ _=>rfl) (fun b _=>by rw[hh]) (fun _ h=>h) (fun b hb=>⟨by rw[hh],((h.KY n e he).rF hb).2.2.2.1⟩) (fun ht b hb=>⟨by rw[hh],(h.O3 he (AW.NR ht hb)).1⟩),
  fun n t xss q he=>(h.dp n t xss q he).mono (fun _ h=>h) (fun _ _=>rfl) (fun b _=>by rw[hh]) (fun _ h=>h) (fun b hb=>⟨by rw[hh],((h.dp n t xss q he).all b hb).1⟩),h.inj,h.tab⟩
theorem AS.dS {c:DN TB} {G:Nat->Prop} {w:World} {E:Env} {L:AJ} (h:AS c G w E L) {i:Nat} {e:AW} {a:Ty} {ys:List a.T} (hi:look L i=some e)
  (hs:o_ (Rp (fun b=>G b\/e.ow E i b) w a) a.sz (fun b=>G b\/e.ow E i b) w (E.nm i) ys):AS c (fun b=>G b\/e.ow E i b) w E (C5 L (i,.shr a ys)):=by
 have C7:=AP hi
 have hl:=fun n=>AZ (q:=(i,AW.shr a ys)) C7 n
 refine⟨h.rest,h.size,h.old, ?_,fun b hb=> .inl (h.glo b hb), ?_, ?_, ?_, ?_,h.tab⟩
 ·rintro b (hb|hb)
  ·exact h.tV b hb
  ·exact h.f_ hi hb
 ·rintro b (hb|hb)
  ·exact h.ghi b hb
  ·exact .inr (h.O3 hi hb).2.1
 ·intro n f he
  rw[hl] at he
  by_cases hn:n=i
  ·subst hn
   simp only[GA,AY] at he
   subst he
   exact hs
  ·rw[AB hn] at he
   refine (h.KY n f he).mono (fun k hk=>BM rfl k hk) (fun _ _=>rfl) (fun _ _=>rfl) (fun b hb=> .inl hb) (fun b hb=>⟨rfl, ?_⟩) (fun ht b hb=>⟨rfl, ?_⟩)
   ·rintro (hx|hx)
    ·exact ((h.KY n f he).rF hb).2.2.2.1 hx
    ·exact h.inj n i f e b hn he hi (.inl hb) hx
   ·rintro (hx|hx)
    ·exact (h.O3 he (AW.NR ht hb)).1 hx
    ·exact h.inj n i f e b hn he hi (AW.NR ht hb) hx
 ·intro n t xss q he
  rw[hl] at he
  by_cases hn:n=i
  ·simp only[hn,GA,AY] at he;cases he
  ·rw[AB hn] at he
   refine (h.dp n t xss q he).mono (fun k hk=>BM rfl k hk) (fun _ _=>rfl) (fun _ _=>rfl) (fun b hb=> .inl hb) (fun b hb=>⟨rfl, ?_⟩)
   rintro (hx|hx)
   ·exact ((h.dp n t xss q he).all b hb).1 hx
   ·exact h.inj n i _ e b hn he hi (AW.FE.2 hb) hx
 ·intro n k f g b hnk hn hk hf hg
  rw[hl] at hn hk
  have hn' :n≠i:=by
   rintro rfl
   simp only[GA,AY] at hn;subst hn
   rcases hf with hf|⟨hf,_⟩|⟨hf,_⟩ <;> cases hf
  have MC :k≠i:=by
   rintro rfl
   simp only[GA,AY] at hk;subst hk
   rcases hg with hg|⟨hg,_⟩|⟨hg,_⟩ <;> cases hg
  rw[AB hn'] at hn
  rw[AB MC] at hk
  exact h.inj n k f g b hnk hn hk hf hg
theorem AS.freeze {c:DN TB} {G:Nat->Prop} {w:World} {E:Env} {L:AJ} (h:AS c G w E L) {i:Nat} {t:Ty} {xs:List t.T} (hi:look L i=some (.row t xs)):
  AS c (fun b=>G b\/(AW.row t xs).own (E.nm i)=some b) w E (C5 L (i,.shr t xs)):=by
 have e1:(fun b=>G b\/(AW.row t xs).ow E i b)=(fun b=>G b\/(AW.row t xs).own (E.nm i)=some b):=by
  funext b;rw[AW.cU rfl]
 rw[<-e1]
 refine h.dS hi ?_
 rw[e1]
 obtain⟨h1,h2,h3⟩:=h.KY i _ hi
 refine⟨h1,cT (h.KY i _ hi), ?_⟩
 rcases h3 with ⟨_,h4,_⟩|⟨h4,h5,h6,h7,arr,ty,h8,h9,uG⟩
 ·exact .inl h4
 ·refine .inr ⟨h4,.inr (by simp [AW.own,h4]),arr,ty,_,h8, ?_⟩
  exact uG.imp fun x vs hx=>Rp.mono (fun _ _=>rfl) (fun b hb=> .inl hb) t x vs hx
theorem FB.shr {c:DN TB} {G G' :Nat->Prop} {w:World} {E:Env} {L:AJ} {m:Nm} {l:List Nat} {t:Ty} {xss:List (List t.T)} (k:FB c G w E L m l t xss none) (hr:∀ x vs,Rp G w t x vs->Rp G' w t x vs) (hg:∀ b∈l,G' b):
  o_ (Rp G' w (.slice t)) 1 G' w m xss:=by
 obtain⟨k1,k2,k3,k4,k5⟩:=k
 rcases k5 with ⟨h1,h2,h3⟩|⟨h1,h2,h3,arr,ty,hs,h4,h5,h6,h7,h8,h9⟩
 ·exact⟨k1,by rw[k1,h2];simp,.inl h2⟩
 ·refine⟨k1,by omega,.inr ⟨h1,hg _ h2,arr,ty,_,h4, ?_⟩⟩
  intro k xs hk
  have C7:k<xss.length:=by
   rcases GY k xss.length with h' |h'
   ·exact h'
   ·rw[SO h'] at hk;cases hk
  obtain⟨q1,q2⟩:=h7 k xs hk (fun j hj=>by cases hj)
  refine⟨hs k, ?_, ?_⟩
  ·have ha:=h6 k C7
   show BH arr (m.off+k*1) 1=_
   rw[k2]
   unfold BH
   apply T9
   intro j
   rw[jG]
   cases j with
   |zero=>simp [ZQ,ha]
   |succ j=>simp
  ·obtain⟨p1,p2,p3⟩:=q1
   rcases p3 with ⟨p4,p5,p6⟩|⟨p4,p5,W3,ty',p6,p7,p8⟩
   ·exact⟨p1,by rw[p1,p5];simp,.inl p5⟩
   ·exact⟨p1,by omega,.inr ⟨p4,hg _ (q2 p4).1,W3,ty',_,p6,p8.imp hr⟩⟩
theorem AS.yG {c:DN TB} {G:Nat->Prop} {w:World} {E:Env} {L:AJ} (h:AS c G w E L) {i:Nat} {t:Ty} {xss:List (List t.T)} (hi:look L i=some (.deep t xss none)):
  AS c (fun b=>G b\/b∈E.ins.l i) w E (C5 L (i,.shr (.slice t) xss)):=by
 have e1:(fun b=>G b\/(AW.deep t xss none).ow E i b)=(fun b=>G b\/b∈E.ins.l i):=by
  funext b;rw[AW.FE]
 rw[<-e1]
 refine h.dS hi ?_
 rw[e1]
 exact (h.dp i t xss none hi).shr (fun x vs hx=>Rp.mono (fun _ _=>rfl) (fun b hb=> .inl hb) t x vs hx) (fun b hb=> .inr hb)
theorem EX.shr {c:DN TB} {G G' :Nat->Prop} {w:World} {m:Nm} {t1 t2:Ty} {xs:List (List t1.T×List t2.T)} (k:EX c G w m t1 t2 xs) (hr:∀ t (x:Ty.T t) vs,Rp G w t x vs->Rp G' w t x vs) (hg:∀ b∈m.ins.l,G' b):
  o_ (Rp G' w (.pair (.slice t1) (.slice t2))) 2 G' w m xs:=by
 obtain⟨k1,k2,k3,k4,k5⟩:=k
 rcases k5 with ⟨h1,h2,h3⟩|⟨h1,h2,h3,arr,ty,h4,h5,h6,h7,h8,h9⟩
 ·exact⟨k1,by rw[k1,h2];simp,.inl h2⟩
 ·refine⟨k1,by omega,.inr ⟨h1,hg _ h2,arr,ty,_,h4, ?_⟩⟩
  intro k x hk
  have C7:k<xs.length:=(uA.1 hk).1
  obtain⟨q1,q2⟩:=h7 k x hk
  have gT:∀ (t:Ty) (y:List t.T) (j:Nat),j<xs.length*2->FF (Rp G w t) t.sz w (m.hn j) y->o_ (Rp G' w t) t.sz G' w (m.hn j) y:=by
   intro t y j hj hi
   obtain⟨p1,p2,p3⟩:=hi
   rcases p3 with ⟨p4,p5,p6⟩|⟨p4,p5,W3,ty',p6,p7,p8⟩
   ·exact⟨p1,by rw[p1,p5];simp,.inl p5⟩
   ·exact⟨p1,by omega,.inr ⟨p4,hg _ (h8 j hj p4).1,W3,ty',_,p6,p8.imp (hr t)⟩⟩
  refine⟨[.slice (m.hn (k*2)).ad (m.hn (k*2)).len (m.hn (k*2)).cap],[.slice (m.hn (k*2+1)).ad (m.hn (k*2+1)).len (m.hn (k*2+1)).cap], ?_,⟨_,rfl,gT t1 x.1 _ (by omega) q1⟩,⟨_,rfl,gT t2 x.2 _ (by omega) q2⟩⟩
  have a1:=h6 (k*2) (by omega)
  have a2:=h6 (k*2+1) (by omega)
  rw[k2]
  unfold BH
  apply T9
  intro j
  rw[jG,I7]
  match j with
  |0=>simp [ZQ,a1]
  |1=>simp [ZQ,a2]
  |j+2=>simp;omega
theorem AS.APW {c:DN TB} {G:Nat->Prop} {w:World} {E:Env} {L:AJ} (h:AS c G w E L) {i:Nat} {t1 t2:Ty} {xs:List (List t1.T×List t2.T)} (hi:look L i=some (.tree t1 t2 xs)):
  AS c (fun b=>G b\/b∈(E.nm i).ins.l) w E (C5 L (i,.shr (.pair (.slice t1) (.slice t2)) xs)):=by
 have e1:(fun b=>G b\/(AW.tree t1 t2 xs).ow E i b)=(fun b=>G b\/b∈(E.nm i).ins.l):=by
  funext b;rw[AW.cV]
 rw[<-e1]
 refine h.dS hi ?_
 rw[e1]
 exact (h.KY i _ hi).shr (fun t x vs hx=>Rp.mono (fun _ _=>rfl) (fun b hb=> .inl hb) t x vs hx) (fun b hb=> .inr hb)
theorem AS.kill {c:DN TB} {G:Nat->Prop} {w:World} {E:Env} {L:AJ} (h:AS c G w E L) {i:Nat} (hi:i<L.length):AS c G w E (C5 L (i,.dead)):=by
 have hl:=fun n=>AZ (q:=(i,AW.dead)) hi n
 refine⟨h.rest,h.size,h.old,h.tV,h.glo,h.ghi, ?_, ?_, ?_,h.tab⟩
 ·intro n e he
  rw[hl] at he
  by_cases hn:n=i
  ·simp only[hn,GA,AY] at he;subst he;trivial
  ·rw[AB hn] at he
   exact (h.KY n e he).mono (fun k hk=>BM rfl k hk) (fun _ _=>rfl) (fun _ _=>rfl) (fun b hb=>hb) (fun b hb=>⟨rfl,((h.KY n e he).rF hb).2.2.2.1⟩) (fun ht b hb=>⟨rfl,(h.O3 he (AW.NR ht hb)).1⟩)
 ·intro n t xss q he
  rw[hl] at he
  by_cases hn:n=i
  ·simp only[hn,GA,AY] at he;cases he
  ·rw[AB hn] at he
   exact (h.dp n t xss q he).mono (fun k hk=>BM rfl k hk) (fun _ _=>rfl) (fun _ _=>rfl) (fun b hb=>hb) (fun b hb=>⟨rfl,((h.dp n t xss q he).all b hb).1⟩)
 ·intro n k e f b hnk hn hk he hf
  rw[hl] at hn hk
  have hn' :n≠i:=by
   rintro rfl
   simp only[GA,AY] at hn;subst hn
   rcases he with he|⟨he,_⟩|⟨he,_⟩ <;> cases he
  have MC :k≠i:=by
   rintro rfl
   simp only[GA,AY] at hk;subst hk
   rcases hf with hf|⟨hf,_⟩|⟨hf,_⟩ <;> cases hf
  rw[AB hn'] at hn
  rw[AB MC] at hk
  exact h.inj n k e f b hnk hn hk he hf
def Env.set (E:Env) (n:Nat) (m:Nm):Env:={ E with nm:=fun k=>if k=n then m else E.nm k }
theorem Env.GO (E:Env) {n k:Nat} (m:Nm) (h:k≠n):(E.set n m).nm k=E.nm k:=by simp [Env.set,h]
theorem Env.EE (E:Env) (n:Nat) (m:Nm):(E.set n m).nm n=m:=by simp [Env.set]
def Env.RQ (E:Env) (n:Nat) (m:Nm) (l:List Nat):Env:={ E with nm:=fun k=>if k=n then m else E.nm k,ins:=⟨fun k=>if k=n then l else E.ins.l k⟩ }
theorem Env.L4 (E:Env) {n k:Nat} (m:Nm) (l:List Nat) (h:k≠n):(E.RQ n m l).nm k=E.nm k/\(E.RQ n m l).ins.l k=E.ins.l k:=by simp [Env.RQ,h]
theorem Env.EI (E:Env) (n:Nat) (m:Nm) (l:List Nat):(E.RQ n m l).nm n=m/\(E.RQ n m l).ins.l n=l:=by simp [Env.RQ]
theorem EF {L:AJ} {n:Nat} (h:look L n=some .KI):¬Al L n:=by
 rintro⟨e,h1,h2⟩
 rw[h] at h1;simp only[AY] at h1;subst h1;cases h2
theorem AS.SQ {c:DN TB} {G:Nat->Prop} {w w' :World} {E E' :Env} {L:AJ} (h:AS c G w E L) {i:Nat} {e' :AW} (hi:i<L.length)
  (hr:Rest w w') (hs:w.heap.size<=w'.heap.size)
  (hE:Al L i->E'.nm i=E.nm i) (hEo:∀ k,k≠i->E'.nm k=E.nm k/\E'.ins.l k=E.ins.l k) (CJ:e'.G6=false)
  (hw:∀ b,b<w.heap.size->¬e'.ow E' i b->w'.heap[b]? =w.heap[b]?)
  (hold:∀ b,e'.ow E' i b->¬c.Old b/\¬G b)
  (CO:∀ k f,k≠i->look L k=some f->∀ b,f.ow E k b->¬e'.ow E' i b)
  (RL:YD c G w' E' (C5 L (i,e')) (E'.nm i) e') (hdp:∀ t xss q,e' = .deep t xss q->FB c G w' E' (C5 L (i,e')) (E'.nm i) (E'.ins.l i) t xss q):AS c G w' E' (C5 L (i,e')):=by
 have hl:=fun n=>AZ (q:=(i,e')) hi n
 have hEn:∀ n,Al L n->E'.nm n=E.nm n:=by
  intro n hn
  by_cases RR:n=i
  ·subst RR;exact hE hn
  ·exact (hEo n RR).1
 have dT:∀ k (f:AW) b,k≠i->f.ow E' k b->f.ow E k b:=by
  intro k f b hk hb
  unfold AW.ow at hb ⊢
  rw[(hEo k hk).1,(hEo k hk).2] at hb
  exact hb
 have hG:∀ b,G b->w'.heap[b]? =w.heap[b]? :=fun b hb=>hw b (h.tV b hb) (fun ho=>(hold b ho).2 hb)
 refine⟨h.rest.trans hr,fX h.size hs, ?_,fun b hb=>oZ (h.tV b hb) hs,h.glo,h.ghi, ?_, ?_, ?_,h.tab⟩
 ·intro b hb
  rw[hw b (oZ hb.1 h.size) (fun ho=>(hold b ho).1 hb)]
  exact h.old b hb
 ·intro n e he
  rw[hl] at he
  by_cases hn:n=i
  ·subst hn
   simp only[GA,AY] at he;subst he
   exact RL
  ·rw[AB hn] at he
   rw[(hEo n hn).1]
   refine (h.KY n e he).mono (fun k hk=>BM CJ k hk) hEn hG (fun _ hb=>hb) (fun b hb=> ?_) (fun ht b hb=> ?_)
   ·exact⟨hw b (h.f_ he (.inl hb)) (CO n e hn he b (.inl hb)),(h.O3 he (.inl hb)).1⟩
   ·exact⟨hw b (h.f_ he (AW.NR ht hb)) (CO n e hn he b (AW.NR ht hb)),(h.O3 he (AW.NR ht hb)).1⟩
 ·intro n t xss q he
  rw[hl] at he
  by_cases hn:n=i
  ·subst hn
   simp only[GA,AY] at he;subst he
   exact hdp _ _ _ rfl
  ·rw[AB hn] at he
   rw[(hEo n hn).1,(hEo n hn).2]
   refine (h.dp n t xss q he).mono (fun k hk=>BM CJ k hk) hEn hG (fun _ hb=>hb) (fun b hb=> ?_)
   exact⟨hw b (h.f_ he (AW.FE.2 hb)) (CO n _ hn he b (AW.FE.2 hb)),(h.O3 he (AW.FE.2 hb)).1⟩
 ·intro n k e f b hnk hn hk he hf
  rw[hl] at hn hk
  by_cases RR:n=i
  ·subst RR
   simp only[GA,AY] at hn;subst hn
   rw[AB (fun h=>hnk h.symm)] at hk
   exact CO k f (fun h=>hnk h.symm) hk b (dT k f b (fun h=>hnk h.symm) hf) he
  ·rw[AB RR] at hn
   by_cases gA:k=i
   ·subst gA
    simp only[GA,AY] at hk;subst hk
    exact CO n e RR hn b (dT n e b RR he) hf
   ·rw[AB gA] at hk
    exact h.inj n k e f b hnk hn hk (dT n e b RR he) (dT k f b gA hf)
theorem AS.change {c:DN TB} {G:Nat->Prop} {w w' :World} {E:Env} {L:AJ} (h:AS c G w E L) {i:Nat} {e' :AW} {m:Nm} (hi:i<L.length)
  (hr:Rest w w') (hs:w.heap.size<=w'.heap.size)
  (hE:Al L i->m=E.nm i) (CJ:e'.G6=false)
  (hw:∀ b,b<w.heap.size->e'.own m≠some b->w'.heap[b]? =w.heap[b]?)
  (hold:∀ b,e'.own m=some b->¬c.Old b/\¬G b)
  (CO:∀ k f,k≠i->look L k=some f->∀ b,f.ow E k b->e'.own m≠some b)
  (RL:AS c G w E L->YD c G w' (E.set i m) (C5 L (i,e')) m e') (hd:e'.RO=false:=by rfl) (ht:e'.N8=false:=by rfl):AS c G w' (E.set i m) (C5 L (i,e')):=by
 have e1:∀ b,e'.ow (E.set i m) i b↔e'.own m=some b:=fun b=>by rw[AW.cU hd ht,Env.EE]
 refine h.SQ hi hr hs (fun ha=>by rw[Env.EE];exact hE ha) (fun k hk=>⟨E.GO m hk,rfl⟩) CJ (fun b hb ho=>hw b hb (fun hx=>ho ((e1 b).2 hx))) (fun b hb=>hold b ((e1 b).1 hb))
  (fun k f hk hf b hb ho=>CO k f hk hf b hb ((e1 b).1 ho)) (by rw[Env.EE];exact RL h) (fun t xss q he=>by subst he;cases hd)
theorem AS.APX {c:DN TB} {G:Nat->Prop} {w w' :World} {E:Env} {L:AJ} (h:AS c G w E L) {i:Nat} {e' :AW} {m:Nm} (l:List Nat) (hi:i<L.length)
  (hr:Rest w w') (hs:w.heap.size<=w'.heap.size)
  (hE:Al L i->m=E.nm i) (CJ:e'.G6=false)
  (hw:∀ b,b<w.heap.size->e'.own m≠some b->w'.heap[b]? =w.heap[b]?)
  (hold:∀ b,e'.own m=some b->¬c.Old b/\¬G b)
  (CO:∀ k f,k≠i->look L k=some f->∀ b,f.ow E k b->e'.own m≠some b)
  (RL:AS c G w E L->YD c G w' (E.RQ i m l) (C5 L (i,e')) m e') (hd:e'.RO=false:=by rfl) (ht:e'.N8=false:=by rfl):AS c G w' (E.RQ i m l) (C5 L (i,e')):=by
 have e1:∀ b,e'.ow (E.RQ i m l) i b↔e'.own m=some b:=fun b=>by rw[AW.cU hd ht,(E.EI i m l).1]
 refine h.SQ hi hr hs (fun ha=>by rw[(E.EI i m l).1];exact hE ha) (fun k hk=>E.L4 m l hk) CJ (fun b hb ho=>hw b hb (fun hx=>ho ((e1 b).2 hx))) (fun b hb=>hold b ((e1 b).1 hb))
  (fun k f hk hf b hb ho=>CO k f hk hf b hb ((e1 b).1 ho)) (by rw[(E.EI i m l).1];exact RL h) (fun t xss q he=>by subst he;cases hd)
end Go.V3
namespace Go.V3
open Go
variable {TB:Tb}
inductive PM where
 |Z0|dS|own
def Env.nx (E:Env) (i:Nat):Nm:={ E.nm i with ins:=⟨E.ins.l i⟩ }
inductive NE where
 |nil
 |whole (i:Nat)
 |deep (i:Nat)
 |sub (i lo n sz:Nat)
def NE.nm (E:Env):NE->Nm
 | .nil=>⟨0,0,true,0,0,none⟩
 | .whole i=>E.nm i
 | .deep i=>E.nx i
 | .sub i lo n sz=>if (E.nm i).cap=lo then { B5:=(E.nm i).B5,off:=(E.nm i).off,nil:=(E.nm i).nil,len:=n,cap:=(E.nm i).cap-lo,UA:=(E.nm i).UA,fz:=(E.nm i).fz } else { B5:=(E.nm i).B5,off:=(E.nm i).off+lo*sz,nil:=(E.nm i).nil,len:=n,cap:=(E.nm i).cap-lo,UA:=l_ (E.nm i).UA (lo*sz),fz:=(E.nm i).fz }
def NE.name:NE->Option Nat
 | .nil=>none
 | .whole i=>some i
 | .deep i=>some i
 | .sub i _ _ _=>some i
def DY (E:Env) (nes:List NE) (k:Nat):Nm:=match nes[k]? with
 |some ne=>ne.nm E
 |none=>⟨0,0,true,0,0,none⟩
abbrev CW:=List (Nat×AW)
inductive YP:AW->(t:Ty)->List t.T->Prop
 |row (t:Ty) (xs:List t.T):YP (.row t xs) t xs
 |deep (t:Ty) (xss:List (List t.T)):YP (.deep t xss none) (.slice t) xss
 |tree (t1 t2:Ty) (xs:List (List t1.T×List t2.T)):YP (.tree t1 t2 xs) (.pair (.slice t1) (.slice t2)) xs
theorem YP.KI {e:AW} {t:Ty} {xs:List t.T} (h:YP e t xs):e.G6=false:=by cases h <;> rfl
def GU {t a:Ty} (h:t=a) (xs:List t.T):List a.T:=h ▸ xs
def MD (md:PM) (AQ:Nat->Option AW) (a:Ty):SV->Option (List a.T×NE×CW)
 | .KX=>if a.ATV=true then none else some ([],.nil,[])
 | .MB i=>match AQ i with
  |some (.shr t xs)=>if h:t=a then (match md with
    | .own=>none
    |_=>some (GU h xs,.whole i,[])) else none
  |some (.row t xs)=>if h:t=a then (match md with
    | .Z0=>some (GU h xs,.whole i,[])
    | .dS=>some (GU h xs,.whole i,[(i,.shr t xs)])
    | .own=>if a.o9=true then none else some (GU h xs,.whole i,[(i,.dead)])) else none
  |some (.deep t xss none)=>if h:Ty.slice t=a then (match md with
    | .Z0=>some (GU h xss,.whole i,[])
    | .dS=>some (GU h xss,.whole i,[(i,.shr (.slice t) xss)])
    | .own=>some (GU h xss,.deep i,[(i,.dead)])) else none
  |some (.tree t1 t2 xs)=>if h:Ty.pair (.slice t1) (.slice t2)=a then (match md with
    | .Z0=>some (GU h xs,.whole i,[])
    | .dS=>some (GU h xs,.whole i,[(i,.shr (.pair (.slice t1) (.slice t2)) xs)])
    | .own=>some (GU h xs,.whole i,[(i,.dead)])) else none
  |_=>none
 | .sub i lo n sz=>if sz=a.sz then match AQ i with
  |some (.shr t xs)=>if h:t=a then (match md with
    | .own=>none
    |_=>some (BX (GU h xs) lo n,.sub i lo n sz,[])) else none
  |some (.row t xs)=>if h:t=a then (match md with
    | .Z0=>some (BX (GU h xs) lo n,.sub i lo n sz,[])
    | .dS=>some (BX (GU h xs) lo n,.sub i lo n sz,[(i,.shr t xs)])
    | .own=>none) else none
  |_=>none
  else none
 |_=>none
def FA (md:PM) (AQ:Nat->Option AW):(t:Ty)->List SV->Option (t.T×List SV×List NE×CW)
 | .int k,cs=>match cs with
  | .int k' n::r=>if k' =k then some (n,r,[],[]) else none
  |_=>none
 | .u64,cs=>match cs with
  | .u64 x::r=>some (x,r,[],[])
  |_=>none
 | .bool,cs=>match cs with
  |v::r=>match toB v with
   |some b=>some (b,r,[],[])
   |none=>none
  |_=>none
 | .str,cs=>match cs with
  | .str s::r=>some (s,r,[],[])
  |_=>none
 | .NC,cs=>match cs with
  | .NC n::r=>some (n,r,[],[])
  |_=>none
 | .pair a b,cs=>match FA md AQ a cs with
  |none=>none
  |some (x,r,n1,u1)=>match FA md AQ b r with
   |none=>none
   |some (y,r',n2,u2)=>some ((x,y),r',n1++n2,u1++u2)
 | .slice a,cs=>match cs with
  |v::r=>match MD md AQ a v with
   |some (xs,ne,u)=>some (xs,r,[ne],u)
   |none=>none
  |_=>none
 | .kv,_=>none
 | .nf,cs=>match cs with
  | .NC n::r=>some ((some n:Option Nat),r,[.nil],[])
  | .nf o i::r=>some (o,r,[.whole i],[])
  |_=>none
 | .uF,cs=>match cs with
  | .raw .nilIface::r=>some ((),r,[],[])
  |_=>none
theorem mC {md:PM} {AQ:Nat->Option AW} {a:Ty} {v:SV} {xs:List a.T} {ne:NE} {u:CW} (h:MD md AQ a v=some (xs,ne,u)) (E:Env):
  v.den E= .slice (ne.nm E).ad (ne.nm E).len (ne.nm E).cap:=by
 cases v with
 |KX=>
  simp only[MD] at h
  split at h
  ·cases h
  simp only[AY,C3] at h
  obtain⟨-,rfl, -⟩:=h
  rfl
 |MB i=>
  simp only[MD] at h
  repeat' split at h
  all_goals first|(cases h;done)|(simp only[AY,C3] at h;obtain⟨-,rfl, -⟩:=h;rfl)
 |sub i lo n sz=>
  have hk:SV.den E (.sub i lo n sz)= .slice ((NE.sub i lo n sz).nm E).ad ((NE.sub i lo n sz).nm E).len ((NE.sub i lo n sz).nm E).cap:=by
   simp only[SV.den,NE.nm]
   split
   ·simp [Nm.ad]
   ·simp only[Nm.ad,l_]
    split
    ·rfl
    ·simp [G_]
  simp only[MD] at h
  repeat' split at h
  all_goals first|(cases h;done)|(simp only[AY,C3] at h;obtain⟨-,rfl, -⟩:=h;exact hk)
 |_=>simp [MD] at h
theorem K2 (E:Env) (a b:List NE):(∀ k,k<a.length->DY E (a++b) k=DY E a k)/\(∀ k,DY E (a++b) (a.length+k)=DY E b k):=by
 refine⟨fun k hk=> ?_,fun k=> ?_⟩
 ·simp [DY,T6 hk]
 ·simp only[DY]
  rw[T5 (by omega)]
  simp
theorem IV {md:PM} {AQ:Nat->Option AW} (E:Env):∀ (t:Ty) (cs:List SV) (x:t.T) (r:List SV) (nes:List NE) (u:CW),FA md AQ t cs=some (x,r,nes,u)→
  ∃ c1,cs=c1++r/\c1.length=t.sz/\nes.length=t.GN/\AK E c1=enc t x (DY E nes):=by
 intro t
 induction t with
 |int k=>
  intro cs x r nes u h
  simp only[FA] at h
  repeat' split at h
  all_goals first|(cases h;done)|skip
  rename_i hk
  simp only[AY,C3] at h
  obtain⟨rfl,rfl,rfl,rfl⟩:=h
  subst hk
  exact⟨[_],rfl,rfl,rfl,rfl⟩
 |u64=>
  intro cs x r nes u h
  simp only[FA] at h
  repeat' split at h
  all_goals first|(cases h;done)|(simp only[AY,C3] at h;obtain⟨rfl,rfl,rfl,rfl⟩:=h;exact⟨[_],rfl,rfl,rfl,rfl⟩)
 |bool=>
  intro cs x r nes u h
  simp only[FA] at h
  repeat' split at h
  all_goals first|(cases h;done)|skip
  rename_i hb
  simp only[AY,C3] at h
  obtain⟨rfl,rfl,rfl,rfl⟩:=h
  exact⟨[_],rfl,rfl,rfl,by simp [AK,UJ hb,enc]⟩
 |str=>
  intro cs x r nes u h
  simp only[FA] at h
  repeat' split at h
  all_goals first|(cases h;done)|(simp only[AY,C3] at h;obtain⟨rfl,rfl,rfl,rfl⟩:=h;exact⟨[_],rfl,rfl,rfl,rfl⟩)
 |NC=>
  intro cs x r nes u h
  simp only[FA] at h
  repeat' split at h
  all_goals first|(cases h;done)|(simp only[AY,C3] at h;obtain⟨rfl,rfl,rfl,rfl⟩:=h;exact⟨[_],rfl,rfl,rfl,rfl⟩)
 |pair a b T1 T3=>
  intro cs x r nes u h
  simp only[FA] at h
  repeat' split at h
  all_goals first|(cases h;done)|skip
  rename_i _ x1 r1 n1 u1 h1 _ x2 r2 n2 u2 h2
  simp only[AY,C3] at h
  obtain⟨rfl,rfl,rfl,rfl⟩:=h
  obtain⟨c1,e1,l1,m1,d1⟩:=T1 _ _ _ _ _ h1
  obtain⟨c2,e2,l2,m2,d2⟩:=T3 _ _ _ _ _ h2
  refine⟨c1++c2,by rw[e1,e2,I6],by simp [Ty.sz,l1,l2],by simp [Ty.GN,m1,m2], ?_⟩
  rw[FW,d1,d2]
  simp only[enc]
  obtain⟨k1,k2⟩:=K2 E n1 n2
  congr 1
  ·exact GZ _ _ fun k hk=>(k1 k (by omega)).symm
  ·exact GZ _ _ fun k hk=>by rw[<-m1];exact (k2 k).symm
 |slice a ih=>
  intro cs x r nes u h
  simp only[FA] at h
  repeat' split at h
  all_goals first|(cases h;done)|skip
  rename_i hs
  simp only[AY,C3] at h
  obtain⟨rfl,rfl,rfl,rfl⟩:=h
  exact⟨[_],rfl,rfl,rfl,by simp [AK,enc,mC hs E,DY]⟩
 |kv=>intro cs x r nes u h;simp [FA] at h
 |nf=>
  intro cs x r nes u h
  simp only[FA] at h
  repeat' split at h
  all_goals first|(cases h;done)|(simp only[AY,C3] at h;obtain⟨rfl,rfl,rfl,rfl⟩:=h;exact⟨[_],rfl,rfl,rfl,rfl⟩)
 |uF=>
  intro cs x r nes u h
  simp only[FA] at h
  repeat' split at h
  all_goals first|(cases h;done)|(simp only[AY,C3] at h;obtain⟨_,rfl,rfl,rfl⟩:=h;exact⟨[_],rfl,rfl,rfl,rfl⟩)
theorem jP {α:Type} {R:α->List Value->Prop} {sz:Nat} {G:Nat->Prop} {w:World} {m:Nm} {xs:List α} (h:o_ R sz G w m xs) {lo n:Nat} (hl:lo+n<=m.len):
  o_ R sz G w (if m.cap=lo then { B5:=m.B5,off:=m.off,nil:=m.nil,len:=n,cap:=m.cap-lo,UA:=m.UA,fz:=m.fz } else { B5:=m.B5,off:=m.off+lo*sz,nil:=m.nil,len:=n,cap:=m.cap-lo,UA:=l_ m.UA (lo*sz),fz:=m.fz }) (BX xs lo n):=by
 obtain⟨h1,h0,h2⟩:=h
 by_cases hc:m.cap=lo
 ·have hn:n=0:=by omega
  subst hn
  rw[AA hc]
  exact⟨by simp [BX],by simp,.inl (by simp [BX])⟩
 ·rw[AB hc]
  refine⟨by simp [BX];omega,by simp;omega, ?_⟩
  rcases h2 with rfl|⟨a,b,arr,ty,fz,h3,h4⟩
  ·left;simp [BX]
  ·right
   refine⟨a,b,arr,ty,fz,h3, ?_⟩
   intro i x hx
   simp only[BX] at hx
   rw[jG] at hx
   split at hx
   ·rw[ZQ] at hx
    have:=h4 _ _ hx
    rw[ZU] at this
    rw[NI]
    exact this
   ·cases hx
theorem APY {α:Type} {R R' :α->List Value->Prop} {sz:Nat} {c:DN TB} {G G' :Nat->Prop} {w:World} {m:Nm} {xs:List α} (h:Own R sz c G w m xs) (hr:∀ x vs,R x vs->R' x vs) (hg:m.nil=false->G' m.B5):
  o_ R' sz G' w m xs:=by
 have hc:=cT h
 obtain⟨h1,h2,h3⟩:=h
 refine⟨h1,hc, ?_⟩
 rcases h3 with ⟨_,h4,_⟩|⟨h4,h5,h6,h7,arr,ty,h8,h9,uG⟩
 ·exact .inl h4
 ·exact .inr ⟨h4,hg h4,arr,ty,_,h8,uG.imp hr⟩
theorem mD {md:PM} {AQ:Nat->Option AW} {a:Ty} {v:SV} {xs:List a.T} {ne:NE} {u:CW} (h:MD md AQ a v=some (xs,ne,u)):
  u=[]\/(∃ i t ys e,AQ i=some e/\YP e t ys/\md= .dS/\ne.name=some i/\u=[(i,.shr t ys)])\/md= .own:=by
 unfold MD at h
 repeat' split at h
 all_goals first|(cases h;done)|skip
 all_goals (simp only[AY,C3] at h;obtain⟨-,rfl,rfl⟩:=h)
 all_goals first|(exact .inl rfl)|exact .inr (.inr rfl)|(right;left;exact⟨_,_,_,_,(by assumption),.row _ _,rfl,rfl,rfl⟩)|(right;left;exact⟨_,_,_,_,(by assumption),.deep _ _,rfl,rfl,rfl⟩)|(right;left;exact⟨_,_,_,_,(by assumption),.tree _ _ _,rfl,rfl,rfl⟩)
theorem mE {md:PM} {AQ:Nat->Option AW} {a:Ty} {v:SV} {xs:List a.T} {ne:NE} {u:CW} (h:MD md AQ a v=some (xs,ne,u)) (rG:md≠ .own) {E:Env} {L:AJ} (hv:v.wf E L) {G:Nat->Prop} {w:World}
  (h1:∀ i t ys,AQ i=some (.shr t ys)->o_ (Rp G w t) t.sz G w (E.nm i) ys)
  (h2:∀ i t ys e,ne.name=some i->AQ i=some e->YP e t ys->md= .Z0\/(i,.shr t ys)∈u->o_ (Rp G w t) t.sz G w (E.nm i) ys):ATW G w (ne.nm E) (.shr a xs):=by
 unfold MD at h
 repeat' split at h
 all_goals first|(cases h;done)|skip
 all_goals (simp only[AY,C3] at h;obtain⟨rfl,rfl,rfl⟩:=h)
 all_goals first|exact absurd rfl rG|skip
 ·exact⟨rfl,ED _,.inl rfl⟩
 ·rename_i hl he _ _;subst he;exact h1 _ _ _ hl
 ·rename_i hl he _;subst he;exact h2 _ _ _ _ rfl hl (.row _ _) (.inl rfl)
 ·rename_i hl he _;subst he;exact h2 _ _ _ _ rfl hl (.row _ _) (.inr (F6.2 rfl))
 ·rename_i hl he _;subst he;exact h2 _ _ _ _ rfl hl (.deep _ _) (.inl rfl)
 ·rename_i hl he _;subst he;exact h2 _ _ _ _ rfl hl (.deep _ _) (.inr (F6.2 rfl))
 ·rename_i hl he _;subst he;exact h2 _ _ _ _ rfl hl (.tree _ _ _) (.inl rfl)
 ·rename_i hl he _;subst he;exact h2 _ _ _ _ rfl hl (.tree _ _ _) (.inr (F6.2 rfl))
 ·rename_i hz _ _ _ hl he _ _;subst he;subst hz;exact jP (h1 _ _ _ hl) hv.2
 ·rename_i hz _ _ _ hl he _;subst he;subst hz;exact jP (h2 _ _ _ _ rfl hl (.row _ _) (.inl rfl)) hv.2
 ·rename_i hz _ _ _ hl he _;subst he;subst hz;exact jP (h2 _ _ _ _ rfl hl (.row _ _) (.inr (F6.2 rfl))) hv.2
theorem mF {AQ:Nat->Option AW} {a:Ty} {v:SV} {xs:List a.T} {ne:NE} {u:CW} (h:MD .own AQ a v=some (xs,ne,u)):
  (ne= .nil/\xs=[]/\u=[]/\a.ATV=false)\/∃ i,((ne= .whole i/\a.o9=false)\/(ne= .deep i/\∃ b,a= .slice b)\/(ne= .whole i/\∃ b1 b2,a= .pair (.slice b1) (.slice b2)))/\AQ i=some (IU a xs)/\u=[(i,.dead)]:=by
 cases v with
 |KX=>
  simp only[MD] at h
  split at h
  ·cases h
  rename_i hk
  simp only[AY,C3] at h
  obtain⟨rfl,rfl,rfl⟩:=h
  exact .inl ⟨rfl,rfl,rfl,by simpa using hk⟩
 |MB i=>
  simp only[MD] at h
  split at h
  ·split at h <;> cases h
  ·rename_i t ys hl
   split at h
   ·rename_i he
    subst he
    split at h
    ·cases h
    rename_i O4
    have O4:t.o9=false:=by simpa using O4
    simp only[AY,C3] at h
    obtain⟨rfl,rfl,rfl⟩:=h
    exact .inr ⟨i,.inl ⟨rfl,O4⟩,by rw[hl];exact N5 some (K1 O4 ys).symm,rfl⟩
   ·cases h
  ·rename_i t yss hl
   split at h
   ·rename_i he
    subst he
    simp only[AY,C3] at h
    obtain⟨rfl,rfl,rfl⟩:=h
    exact .inr ⟨i,.inr (.inl ⟨rfl,_,rfl⟩),hl,rfl⟩
   ·cases h
  ·rename_i t1 t2 ys hl
   split at h
   ·rename_i he
    subst he
    simp only[AY,C3] at h
    obtain⟨rfl,rfl,rfl⟩:=h
    exact .inr ⟨i,.inr (.inr ⟨rfl,_,_,rfl⟩),hl,rfl⟩
   ·cases h
  ·cases h
 |sub i lo n sz=>
  simp only[MD] at h
  repeat' split at h
  all_goals cases h
 |_=>simp [MD] at h
def W4 (AQ:Nat->Option AW) (a:Ty):SV->Option (List a.T×NE×CW)
 | .KX=>some ([],.nil,[])
 | .MB i=>match AQ i with
  |some (.row t xs)=>if h:t=a then some (GU h xs,.whole i,[(i,.dead)]) else none
  |_=>none
 | .sub i 0 n _=>match AQ i with
  |some (.row t xs)=>if h:t=a then some (BX (GU h xs) 0 n,.whole i,[(i,.dead)]) else none
  |_=>none
 |_=>none
def Nm.cut (m:Nm) (n:Nat):Nm:={ B5:=m.B5,off:=m.off,nil:=m.nil,len:=n,cap:=m.cap,UA:=m.UA,fz:=m.fz }
theorem AB6 {AQ:Nat->Option AW} {a:Ty} {v:SV} {xs:List a.T} {ne:NE} {u:CW} (h:W4 AQ a v=some (xs,ne,u)):
  (v= .KX/\ne= .nil/\xs=[]/\u=[])\/∃ (i:Nat) (zs:List a.T) (n:Nat),AQ i=some (.row a zs)/\u=[(i,.dead)]/\xs=BX zs 0 n/\∀ (E:Env) (L:AJ),v.wf E L->(E.nm i).len=zs.length->n<=zs.length/\v.den E= .slice (E.nm i).ad n (E.nm i).cap:=by
 cases v with
 |KX=>
  simp only[W4,AY,C3] at h
  obtain⟨rfl,rfl,rfl⟩:=h
  exact .inl ⟨rfl,rfl,rfl,rfl⟩
 |MB i=>
  simp only[W4] at h
  split at h
  ·rename_i t ys hl
   split at h
   ·rename_i he
    subst he
    simp only[AY,C3] at h
    obtain⟨rfl,rfl,rfl⟩:=h
    refine .inr ⟨i,ys,ys.length,hl,rfl,by simp [GU,BX],fun E L _ hlen=>⟨ED _,by simp only[SV.den];rw[hlen]⟩⟩
   ·cases h
  ·cases h
 |sub i lo n sz=>
  cases lo with
  |succ _=>simp [W4] at h
  |zero=>
  simp only[W4] at h
  split at h
  ·rename_i t ys hl
   split at h
   ·rename_i he
    subst he
    simp only[AY,C3] at h
    obtain⟨rfl,rfl,rfl⟩:=h
    refine .inr ⟨i,ys,n,hl,rfl,rfl,fun E L hw hlen=>⟨by have:=hw.2;omega, ?_⟩⟩
    simp only[SV.den,l_,Nat.zero_mul,Nat.sub_zero]
    congr 1
    split
    ·rfl
    ·cases (E.nm i).ad with
     |none=>rfl
     |some p=>rfl
   ·cases h
  ·cases h
 |_=>simp [W4] at h
theorem VN {md:PM} {AQ:Nat->Option AW}:∀ (t:Ty) (cs:List SV) (x:t.T) (r:List SV) (nes:List NE) (u:CW),FA md AQ t cs=some (x,r,nes,u)→
  (∀ (k:Nat) (o:Bool) (e:AW),(BY o t x)[k]? =some e->e= .dead\/∃ (a:Ty) (v:SV) (xs:List a.T) (ne:NE) (uk:CW),MD md AQ a v=some (xs,ne,uk)/\nes[k]? =some ne/\v∈cs/\(∀ q∈uk,q∈u)/\e=(match o with|true=>IU a xs|false=>AW.shr a xs))∧
  (∀ q∈u,∃ (k:Nat) (a:Ty) (v:SV) (xs:List a.T) (ne:NE) (uk:CW),MD md AQ a v=some (xs,ne,uk)/\nes[k]? =some ne/\q∈uk):=by
 intro t
 induction t with
 |pair a b T1 T3=>
  intro cs x r nes u h
  simp only[FA] at h
  repeat' split at h
  all_goals first|(cases h;done)|skip
  rename_i _ x1 r1 n1 u1 h1 _ x2 r2 n2 u2 h2
  simp only[AY,C3] at h
  obtain⟨rfl,rfl,rfl,rfl⟩:=h
  obtain⟨c1,e1,l1,m1,_⟩:=IV ⟨fun _=>⟨0,0,true,0,0,none⟩,fun _=>undef⟩ _ _ _ _ _ _ h1
  obtain⟨p1,q1⟩:=T1 _ _ _ _ _ h1
  obtain⟨p2,q2⟩:=T3 _ _ _ _ _ h2
  refine⟨?_, ?_⟩
  ·intro k o e he
   simp only[BY] at he
   by_cases hk:k<a.GN
   ·rw[T6 (by rw[A_];exact hk)] at he
    rcases p1 k o e he with hd|⟨a',v,xs,ne,uk,g1,g2,g3,g4,g5⟩
    ·exact .inl hd
    exact .inr ⟨a',v,xs,ne,uk,g1,by rw[T6 (by omega)];exact g2,g3,fun q hq=>EV.2 (.inl (g4 q hq)),g5⟩
   ·rw[T5 (by rw[A_];omega),A_] at he
    rcases p2 _ o e he with hd|⟨a',v,xs,ne,uk,g1,g2,g3,g4,g5⟩
    ·exact .inl hd
    exact .inr ⟨a',v,xs,ne,uk,g1,by rw[T5 (by omega),m1];exact g2,by rw[e1];exact EV.2 (.inr g3),fun q hq=>EV.2 (.inr (g4 q hq)),g5⟩
  ·intro q hq
   rcases EV.1 hq with hq|hq
   ·obtain⟨k,a',v,xs,ne,uk,g1,g2,g3⟩:=q1 q hq
    have hk:k<n1.length:=by
     rcases GY k n1.length with h1|h1
     ·exact h1
     ·rw[SO h1] at g2;cases g2
    exact⟨k,a',v,xs,ne,uk,g1,by rw[T6 hk];exact g2,g3⟩
   ·obtain⟨k,a',v,xs,ne,uk,g1,g2,g3⟩:=q2 q hq
    exact⟨n1.length+k,a',v,xs,ne,uk,g1,by rw[T5 (by omega)];simpa using g2,g3⟩
 |slice a ih=>
  intro cs x r nes u h
  simp only[FA] at h
  repeat' split at h
  all_goals first|(cases h;done)|skip
  rename_i v r' _ xs ne u' hs
  simp only[AY,C3] at h
  obtain⟨rfl,rfl,rfl,rfl⟩:=h
  refine⟨?_,fun q hq=>⟨0,_,_,_,_,_,hs,rfl,hq⟩⟩
  intro k o e he
  cases k with
  |zero=>
   simp only[BY,O1,AY] at he
   exact .inr ⟨_,_,_,_,_,hs,rfl,by simp,fun _ h=>h,he.symm⟩
  |succ k=>simp [BY] at he
 |nf=>
  intro cs x r nes u h
  simp only[FA] at h
  repeat' split at h
  all_goals first|(cases h;done)|skip
  all_goals (simp only[AY,C3] at h;obtain⟨rfl,rfl,rfl,rfl⟩:=h;refine⟨fun k o e he=> .inl ?_,fun q hq=>by cases hq⟩;cases k with
   |zero=>simp only[BY,O1,AY] at he;exact he.symm
   |succ k=>simp [BY] at he)
 |_=>
  intro cs x r nes u h
  simp only[FA] at h
  repeat' split at h
  all_goals first|(cases h;done)|skip
  all_goals (simp only[AY,C3] at h;obtain⟨_,rfl,rfl,rfl⟩:=h;exact⟨fun k o e he=>by simp [BY] at he,fun q hq=>by cases hq⟩)
theorem AS.yH {c:DN TB} {w:World} {E:Env}:∀ (u:CW) {G:Nat->Prop} {L:AJ},AS c G w E L->(∀ q∈u,∃ t ys,((∃ e,look L q.1=some e/\YP e t ys)\/look L q.1=some (.shr t ys))/\q.2= .shr t ys)→
  ∃ G',AS c G' w E (AI L u)/\(∀ b,G b->G' b)/\(∀ n,Al L n->Al (AI L u) n)∧
   (∀ n e,look L n=some e->look (AI L u) n=some e\/(∃ t ys,YP e t ys/\look (AI L u) n=some (.shr t ys)/\(n,.shr t ys)∈u))/\(∀ q∈u,look (AI L u) q.1=some q.2)
 | [],G,L,h,_=>⟨G,h,fun _ hb=>hb,fun _ hn=>hn,fun n e he=> .inl he,fun q hq=>by cases hq⟩
 |q::r,G,L,h,hu=>by
  obtain⟨t,ys,hq,vR⟩:=hu q (by simp)
  obtain⟨i,e⟩:=q
  simp only at vR hq
  subst vR
  have C7:i<L.length:=by rcases hq with ⟨_,h1,_⟩|h1 <;> exact AP h1
  have hl:=fun n=>AZ (L:=L) (q:=(i,AW.shr t ys)) C7 n
  obtain⟨G1,h1,hg1⟩:∃ G1,AS c G1 w E (C5 L (i,.shr t ys))/\∀ b,G b->G1 b:=by
   rcases hq with ⟨e,hq,ho⟩|hq
   ·cases ho with
    |row=>exact⟨_,h.freeze hq,fun b hb=> .inl hb⟩
    |deep=>exact⟨_,h.yG hq,fun b hb=> .inl hb⟩
    |tree=>exact⟨_,h.APW hq,fun b hb=> .inl hb⟩
   ·refine⟨G, ?_,fun _ hb=>hb⟩
    have:=h.change (i:=i) (e' := .shr t ys) (m:=E.nm i) (w' :=w) C7 (.refl _) (ED _) (fun _=>rfl) rfl (fun _ _ _=>rfl) (fun b hb=>by cases hb) (fun _ _ _ _ _ _ hb=>by cases hb) (fun h=>h.KY i _ hq)
    have he:E.set i (E.nm i)=E:=by
     have:(fun k=>if k=i then E.nm i else E.nm k)=E.nm:=by funext k;split <;> simp_all
     simp only[Env.set,this]
    rw[he] at this
    exact this
  have APZ:∀ {e1:AW} {t1 t2:Ty} {y1:List t1.T} {y2:List t2.T},YP e1 t1 y1->YP e1 t2 y2->(AW.shr t1 y1)= .shr t2 y2:=by
   intro e1 t1 t2 y1 y2 a b
   cases a <;> cases b <;> rfl
  obtain⟨G2,h2,hg2,ha2,N9,vR⟩:=AS.yH r h1 (by
   intro p hp
   obtain⟨t',ys',pS,hp2⟩:=hu p (by simp [hp])
   by_cases hpi:p.1=i
   ·refine⟨t,ys,.inr (by rw[hl,AA hpi]), ?_⟩
    rw[hpi] at pS
    rw[hp2]
    rcases hq with ⟨e,hq,ho⟩|hq <;> rcases pS with ⟨e',pS,ho'⟩|pS <;> rw[hq] at pS <;> simp only[AY] at pS
    ·subst pS;exact APZ ho' ho
    ·subst pS;cases ho
    ·subst pS;cases ho'
    ·exact pS.symm
   ·refine⟨t',ys', ?_,hp2⟩
    rw[hl,AB hpi];exact pS)
  refine⟨G2,h2,fun b hb=>hg2 b (hg1 b hb),fun n hn=>ha2 n (BM rfl n hn), ?_, ?_⟩
  ·intro n e he
   by_cases hn:n=i
   ·subst hn
    have hx:=N9 n (.shr t ys) (by rw[hl,AA rfl])
    have hx' :look (AI L ((n,.shr t ys)::r)) n=some (.shr t ys):=by
     rcases hx with hx|⟨_,_,hx,_⟩
     ·exact hx
     ·cases hx
    rcases hq with ⟨e',hq,ho⟩|hq
    ·rw[hq] at he;simp only[AY] at he;subst he
     exact .inr ⟨t,ys,ho,hx',by simp⟩
    ·rw[hq] at he;simp only[AY] at he;subst he
     exact .inl hx'
   ·rcases N9 n e (by rw[hl,AB hn];exact he) with hx|⟨t',ys',yI,hx2,hx3⟩
    ·exact .inl hx
    ·exact .inr ⟨t',ys',yI,hx2,by simp [hx3]⟩
  ·intro p hp
   rcases F7.1 hp with rfl|hp
   ·rcases N9 i (.shr t ys) (by rw[hl,AA rfl]) with hx|⟨_,_,hx,_⟩
    ·exact hx
    ·cases hx
   ·exact vR p hp
end Go.V3
namespace Go.V3
open Go
variable {TB:Tb}
structure CT where
 t:Ty
 agg:Bool
 own:Bool
 ptr:Bool
@[reducible] def HT:List CT->Type
 | []=>Unit
 |c::r=>match r with
  | []=>c.t.T
  |_::_=>c.t.T×HT r
def HT.hd:(c:CT)->(r:List CT)->HT (c::r)->c.t.T
 |_,[],x=>x
 |_,_::_,x=>x.1
def HT.tl:(c:CT)->(r:List CT)->HT (c::r)->HT r
 |_,[],_=>()
 |_,_::_,x=>x.2
def HT.mk:(c:CT)->(r:List CT)->c.t.T->HT r->HT (c::r)
 |_,[],x,_=>x
 |_,_::_,x,y=>(x,y)
theorem HT.nU (c:CT) (r:List CT) (x:c.t.T) (y:HT r):HT.hd c r (HT.mk c r x y)=x:=by cases r <;> rfl
theorem HT.nV (c:CT) (r:List CT) (x:c.t.T) (y:HT r):HT.tl c r (HT.mk c r x y)=y:=by cases r <;> rfl
def CT.pn (c:CT):Nat:=match c.ptr with|true=>1|false=>0
def CT.cnt (c:CT):Nat:=c.pn+c.t.GN
def cnts:List CT->Nat
 | []=>0
 |c::r=>c.cnt+cnts r
def CK:Nat->List AW->CW
 |_,[]=>[]
 |n,e::r=>(n,e)::CK (n+1) r
def R2 (c:CT) (x:c.t.T) (n:Nat):SV:=match c.ptr with
 |true=> .loc n 0
 |false=>match c.agg with
  |true=> .agg (HH c.t x n)
  |false=>(HH c.t x n).headD AV
def outSVs:(cs:List CT)->HT cs->Nat->List SV
 | [],_,_=>[]
 |c::r,x,n=>R2 c (HT.hd c r x) n::outSVs r (HT.tl c r x) (n+c.cnt)
def N_ (c:CT) (x:c.t.T) (n:Nat):CW:=match c.ptr with
 |true=>CK (n+1) (BY c.own c.t x)++ [(n,.box (HH c.t x (n+1)))]
 |false=>CK n (BY c.own c.t x)
def D8:(cs:List CT)->HT cs->Nat->CW
 | [],_,_=>[]
 |c::r,x,n=>N_ c (HT.hd c r x) n++D8 r (HT.tl c r x) (n+c.cnt)
def gU (c:DN TB) (G:Nat->Prop) (w:World) (m:Nm):AW->Prop
 | .row t xs=>Own (Rp G w t) t.sz c G w m xs
 | .shr t xs=>o_ (Rp G w t) t.sz G w m xs
 | .deep t xss h=>h=none/\FB c G w ⟨fun _=>m,fun _=>undef⟩ [] m m.ins.l t xss none
 | .tree t1 t2 xs=>EX c G w m t1 t2 xs
 | .dead=>True
 |_=>False
def AW.VO (e:AW) (m:Nm):List Nat:=match e with
 | .deep _ _ _=>m.ins.l
 | .tree _ _ _=>m.ins.l
 |e=>(e.own m).toList
theorem AW.yJ {e:AW} {E:Env} {n b:Nat} {m:Nm} (h1:E.nm n=m) (h2:E.ins.l n=m.ins.l):e.ow E n b↔b∈e.VO m:=by
 cases e <;> simp [AW.ow,AW.own,AW.VO,AW.RO,AW.N8,h1,h2]
 all_goals exact⟨fun h=>h.symm,fun h=>h.symm⟩
def AW.AIY (e:AW) (E:Env) (n:Nat):List Nat:=match e with
 | .deep _ _ _=>E.ins.l n
 | .tree _ _ _=>(E.nm n).ins.l
 |e=>(e.own (E.nm n)).toList
theorem AW.AWD {e:AW} {E:Env} {n b:Nat}:e.ow E n b↔b∈e.AIY E n:=by
 cases e
 case row t x=>show (AW.row t x).own (E.nm n)=some b\/_↔b∈((AW.row t x).own (E.nm n)).toList;simp [AW.RO,AW.N8]
 case box t=>show (AW.box t).own (E.nm n)=some b\/_↔b∈((AW.box t).own (E.nm n)).toList;simp [AW.RO,AW.N8]
 case map t=>show (AW.map t).own (E.nm n)=some b\/_↔b∈((AW.map t).own (E.nm n)).toList;simp [AW.RO,AW.N8]
 all_goals simp [AW.ow,AW.own,AW.AIY,AW.RO,AW.N8]
theorem gU.nil (c:DN TB) (G:Nat->Prop) (w:World) (a:Ty) (ha:a.ATV=false):gU c G w ⟨0,0,true,0,0,none⟩ (IU a []):=by
 cases a
 case kv=>cases ha
 case slice a=>exact⟨rfl,{ len:=rfl,off:=rfl,nd:=dR,all:=fun b hb=>(by cases hb),cs:= .inl ⟨rfl,rfl,rfl⟩ }⟩
 case pair a b=>cases a <;> cases b <;> first|exact⟨rfl,trivial,.inl ⟨rfl,rfl,rfl⟩⟩|exact⟨rfl,rfl,dR,fun b hb=>(by cases hb),.inl ⟨rfl,rfl,rfl⟩⟩
 all_goals exact⟨rfl,trivial,.inl ⟨rfl,rfl,rfl⟩⟩
theorem AW.AB7 {e:AW} {m:Nm} {b:Nat} (h:e.own m=some b):b∈e.VO m:=by
 cases e <;> first|cases h;done|simp [AW.VO,h]
theorem gU.rH {c:DN TB} {G:Nat->Prop} {w:World} {m:Nm} {e:AW} (h:gU c G w m e) {b:Nat} (hb:b∈e.VO m):¬c.Old b/\¬G b/\b<w.heap.size:=by
 cases e with
 |row t xs=>
  have h' :YD c G w ⟨fun _=>m,fun _=>undef⟩ [] m (.row t xs):=h
  have RZ :(AW.row t xs).own m=some b:=by simpa [AW.VO] using hb
  obtain⟨_,_,_,h4,h5,o,h6⟩:=h'.rF RZ
  exact⟨h5,h4,RP h6⟩
 |deep t xss q=>
  obtain⟨h1,h2,arr,ty,_,h3⟩:=h.2.all b hb
  exact⟨h2,h1,RP h3⟩
 |tree t1 t2 xs=>
  obtain⟨h1,h2,arr,ty,_,h3⟩:=h.all b hb
  exact⟨h2,h1,RP h3⟩
 |shr t xs=>simp [AW.VO,AW.own] at hb
 |dead=>simp [AW.VO,AW.own] at hb
 |_=>exact h.elim
def F8 (c:DN TB) (G:Nat->Prop) (w:World) (d:CT) (x:d.t.T) (ms:Nat->Nm):Prop:=
 (∀ j e,(BY d.own d.t x)[j]? =some e->gU c G w (ms (d.pn+j)) e)∧
 (d.ptr=true->(ms 0).nil=false/\(ms 0).off=(ms 0).pp.pre.length/\¬G (ms 0).B5/\¬c.Old (ms 0).B5/\∃ ty,w.heap[(ms 0).B5]? =some (.cells ((ms 0).arr (enc d.t x (fun j=>ms (d.pn+j)))) ty (0,0)))
def PS (c:DN TB) (G:Nat->Prop) (w:World):(cs:List CT)->HT cs->(Nat->Nm)->Prop
 | [],_,_=>True
 |d::r,x,ms=>F8 c G w d (HT.hd d r x) ms/\PS c G w r (HT.tl d r x) (fun k=>ms (d.cnt+k))
def GB:List AW->(Nat->Nm)->List Nat
 | [],_=>[]
 |e::r,ms=>e.VO (ms 0)++GB r (fun k=>ms (k+1))
def ME (d:CT) (x:d.t.T) (ms:Nat->Nm):List Nat:=(match d.ptr with|true=>[(ms 0).B5]|false=>[])++GB (BY d.own d.t x) (fun j=>ms (d.pn+j))
def B6:(cs:List CT)->HT cs->(Nat->Nm)->List Nat
 | [],_,_=>[]
 |d::r,x,ms=>ME d (HT.hd d r x) ms++B6 r (HT.tl d r x) (fun k=>ms (d.cnt+k))
def H5 (E:Env) (L:AJ) (b:Nat):Prop:=∀ n e,look L n=some e->¬e.ow E n b
def Env.put (E:Env) (n cnt:Nat) (ms:Nat->Nm):Env:={ E with nm:=fun k=>if n<=k/\k<n+cnt then ms (k-n) else E.nm k,ins:=⟨fun k=>if n<=k/\k<n+cnt then (ms (k-n)).ins.l else E.ins.l k⟩ }
theorem Env.gV (E:Env) (n cnt:Nat) (ms:Nat->Nm) {j:Nat} (h:j<cnt):(E.put n cnt ms).nm (n+j)=ms j:=by
 simp only[Env.put]
 rw[AA ⟨by omega,by omega⟩]
 congr 1;omega
theorem Env.UM (E:Env) (n cnt:Nat) (ms:Nat->Nm) {k:Nat} (h:k<n\/n+cnt<=k):(E.put n cnt ms).nm k=E.nm k:=by
 simp only[Env.put]
 rw[AB (by omega)]
theorem Env.AGN (E:Env) (n cnt:Nat) (ms:Nat->Nm) {j:Nat} (h:j<cnt):(E.put n cnt ms).ins.l (n+j)=(ms j).ins.l:=by
 simp only[Env.put]
 rw[AA ⟨by omega,by omega⟩]
 congr 3;omega
theorem Env.ALA (E:Env) (n cnt:Nat) (ms:Nat->Nm) {k:Nat} (h:k<n\/n+cnt<=k):(E.put n cnt ms).ins.l k=E.ins.l k:=by
 simp only[Env.put]
 rw[AB (by omega)]
theorem AW.Z1 {e:AW} {E:Env} {n cnt:Nat} {ms:Nat->Nm} {j b:Nat} (h:j<cnt):e.ow (E.put n cnt ms) (n+j) b↔b∈e.VO (ms j):=AW.yJ (E.gV n cnt ms h) (E.AGN n cnt ms h)
theorem AW.cW {e:AW} {E E' :Env} {n b:Nat} (h:E'.nm n=E.nm n/\E'.ins.l n=E.ins.l n):e.ow E' n b↔e.ow E n b:=by unfold AW.ow;rw[h.1,h.2]
theorem AW.mG {e:AW} {E:Env} {n cnt:Nat} {ms:Nat->Nm} {k b:Nat} (h:k<n\/n+cnt<=k):e.ow (E.put n cnt ms) k b↔e.ow E k b:=AW.cW ⟨E.UM n cnt ms h,E.ALA n cnt ms h⟩
theorem KL {E E' :Env} (h:∀ k,E.nm k=E'.nm k) (h2:E.ds=E'.ds) (h3:∀ k,E.ins.l k=E'.ins.l k):E=E' :=by
 obtain @⟨a,b,⟨d⟩⟩:=E
 obtain @⟨a',b',⟨d'⟩⟩:=E'
 have e1:a=a' :=funext h
 have e2:b=b' :=h2
 have e3:d=d' :=funext h3
 subst e1 e2 e3
 rfl
theorem HF {f:AW} {b:Nat}:∀ (es:List AW) (j:Nat) (ms:Nat->Nm),es[j]? =some f->b∈f.VO (ms j)->b∈GB es ms
 | [],j,ms,h,_=>by simp at h
 |e::r,0,ms,h,hb=>by
  simp only[O1,AY] at h;subst h
  simp only[GB];exact EV.2 (.inl hb)
 |e::r,j+1,ms,h,hb=>by
  simp only[uC] at h
  simp only[GB]
  exact EV.2 (.inr (HF r j (fun k=>ms (k+1)) h hb))
theorem AS.jQ {c:DN TB} {G:Nat->Prop} {w:World}:∀ (es:List AW) {E:Env} {L:AJ} {n:Nat} {ms:Nat->Nm},AS c G w E L->(∀ j,j<es.length->look L (n+j)=some .KI)→
  (∀ j e,es[j]? =some e->gU c G w (ms j) e)->(GB es ms).Nodup->(∀ b∈GB es ms,H5 E L b)→
  AS c G w (E.put n es.length ms) (AI L (CK n es))/\(∀ k,look (AI L (CK n es)) k=if n<=k/\k<n+es.length then es[k-n]? else look L k)
 | [],E,L,n,ms,h,_,_,_,_=>by
  have e1:E.put n 0 ms=E:=KL (fun k=>by simp only[Env.put];rw[AB (by omega)]) rfl (fun k=>by simp only[Env.put];rw[AB (by omega)])
  refine⟨by rw[U7,e1];exact h,fun k=> ?_⟩
  rw[AB (by simp)];rfl
 |e::r,E,L,n,ms,h,hl,hm,H8,VK=>by
  have h0:look L n=some .KI:=hl 0 (by simp)
  have C7:=AP h0
  have B4:=fun k=>AZ (L:=L) (q:=(n,e)) C7 k
  have hm0:=hm 0 e rfl
  have CJ:e.G6=false:=by cases e <;> first|rfl|exact hm0.elim
  have CO:∀ b,b∈e.VO (ms 0)->¬c.Old b/\¬G b:=fun b hb=>⟨(hm0.rH hb).1,(hm0.rH hb).2.1⟩
  have U8:∀ b,b∈e.VO (ms 0)->b∈GB (e::r) ms:=by
   intro b hb
   simp only[GB]
   exact EV.2 (.inl hb)
  have dT:∀ b,e.ow (E.RQ n (ms 0) (ms 0).ins.l) n b↔b∈e.VO (ms 0):=fun b=>AW.yJ (E.EI _ _ _).1 (E.EI _ _ _).2
  have h1:AS c G w (E.RQ n (ms 0) (ms 0).ins.l) (C5 L (n,e)):=by
   refine h.SQ C7 (.refl _) (ED _) (fun NS=>absurd NS (EF h0)) (fun k hk=>E.L4 _ _ hk) CJ (fun _ _ _=>rfl) (fun b hb=>CO b ((dT b).1 hb)) ?_ ?_ ?_
   ·intro k f hk hf b hb he
    exact VK b (U8 b ((dT b).1 he)) k f hf hb
   ·rw[(E.EI _ _ _).1]
    cases e with
    |row t xs=>exact hm0
    |shr t xs=>exact hm0
    |deep t xss q=>trivial
    |dead=>trivial
    |tree t1 t2 xs=>exact hm0
    |_=>exact hm0.elim
   ·intro t xss q he
    subst he
    obtain⟨rfl,hm0⟩:=hm0
    rw[(E.EI _ _ _).1,(E.EI _ _ _).2]
    exact hm0.env ⟨rfl,rfl,rfl,rfl,rfl⟩
  have AQ0 :(GB r (fun k=>ms (k+1))).Nodup:=(PL.1 H8).2.1
  obtain⟨h2,h3⟩:=AS.jQ r (n:=n+1) (ms:=fun k=>ms (k+1)) h1 (by
    intro j hj
    rw[B4,AB (by simp;omega)]
    have:=hl (j+1) (by simp;omega)
    rw[<-this];congr 1;omega)
   (fun j e' uH =>hm (j+1) e' (by simpa using uH)) AQ0 (by
    intro b hb k f hf PN
    rw[B4] at hf
    by_cases hk:k=n
    ·subst hk
     simp only[GA,AY] at hf
     subst hf
     exact (PL.1 H8).2.2 b ((dT b).1 PN) b hb rfl
    ·rw[AB hk] at hf
     rw[AW.cW (E.L4 _ _ hk)] at PN
     exact VK b (by simp only[GB];exact EV.2 (.inr hb)) k f hf PN)
  have e1:(E.RQ n (ms 0) (ms 0).ins.l).put (n+1) r.length (fun k=>ms (k+1))=E.put n (e::r).length ms:=by
   refine KL (fun k=> ?_) rfl (fun k=> ?_)
   all_goals simp only[Env.put,Env.RQ,N3]
   all_goals by_cases hk:k=n
   all_goals first|subst hk|skip
   ·rw[AB (by omega),AA rfl,AA ⟨by omega,by omega⟩]
    congr 1;omega
   ·by_cases N9:n+1<=k/\k<n+1+r.length
    ·rw[AA N9,AA ⟨by omega,by omega⟩]
     congr 1;omega
    ·rw[AB N9,AB hk,AB (by omega)]
   ·rw[AB (by omega),AA rfl,AA ⟨by omega,by omega⟩]
    congr 3;omega
   ·by_cases N9:n+1<=k/\k<n+1+r.length
    ·rw[AA N9,AA ⟨by omega,by omega⟩]
     congr 3;omega
    ·rw[AB N9,AB hk,AB (by omega)]
  refine⟨by rw[<-e1];exact h2,fun k=> ?_⟩
  have:=h3 k
  show look (AI (C5 L (n,e)) (CK (n+1) r)) k=_
  rw[this,B4,N3]
  by_cases hk:k=n
  ·subst hk
   rw[AB (by omega),AA rfl,AA ⟨by omega,by omega⟩]
   simp
  ·by_cases N9:n+1<=k/\k<n+1+r.length
   ·rw[AA N9,AA ⟨by omega,by omega⟩]
    have:k-n=(k-(n+1))+1:=by omega
    rw[this];simp
   ·rw[AB N9,AB hk,AB (by omega)]
theorem BG (L:AJ) (a b:CW):AI L (a++b)=AI (AI L a) b:=by simp [AI]
theorem VP {o:Bool} {t:Ty} {x:t.T} {e:AW} {j:Nat} (h:(BY o t x)[j]? =some e):e.G6=false:=by
 induction t generalizing j with
 |pair a b T1 T3=>
  simp only[BY] at h
  by_cases hk:j<(BY o a x.1).length
  ·rw[T6 hk] at h;exact T1 h
  ·rw[T5 (by omega)] at h;exact T3 h
 |slice a=>
  cases j with
  |zero=>simp only[BY,O1,AY] at h;subst h;cases o <;> first|rfl|exact gS _ _
  |succ j=>simp [BY] at h
 |nf=>
  cases j with
  |zero=>simp only[BY,O1,AY] at h;subst h;rfl
  |succ j=>simp [BY] at h
 |_=>simp [BY] at h
theorem rI {E:Env} {L:AJ} (t:Ty) (x:t.T) (n:Nat) (h:∀ j,j<t.GN->Al L (n+j)):KJ E L (HH t x n):=by
 induction t generalizing n with
 |pair a b T1 T3=>
  simp only[HH]
  rw[BP]
  intro v hv
  rcases EV.1 hv with hv|hv
  ·exact BP.1 (T1 x.1 n (fun j hj=>h j (by simp [Ty.GN];omega))) v hv
  ·exact BP.1 (T3 x.2 _ (fun j hj=>by rw[NI];exact h _ (by simp [Ty.GN];omega))) v hv
 |slice a=>exact⟨h 0 (by simp [Ty.GN]),trivial⟩
 |nf=>exact⟨h 0 (by simp [Ty.GN]),trivial⟩
 |_=>exact⟨trivial,trivial⟩
theorem AS.AGO {c:DN TB} {G:Nat->Prop} {w:World} {E:Env} {L:AJ} (h:AS c G w E L) (d:CT) (x:d.t.T) {n:Nat} {ms:Nat->Nm} (hl:∀ j,j<d.cnt->look L (n+j)=some .KI)
  (hc:F8 c G w d x ms) (H8:(ME d x ms).Nodup) (VK:∀ b∈ME d x ms,H5 E L b):
  AS c G w (E.put n d.cnt ms) (AI L (N_ d x n))/\(∀ k,(n<=k/\k<n+d.cnt->Al (AI L (N_ d x n)) k)/\(¬(n<=k/\k<n+d.cnt)->look (AI L (N_ d x n)) k=look L k))∧
   (R2 d x n).wf (E.put n d.cnt ms) (AI L (N_ d x n))∧
   (∀ k f b,n<=k/\k<n+d.cnt->look (AI L (N_ d x n)) k=some f->f.ow (E.put n d.cnt ms) k b->b∈ME d x ms):=by
 unfold N_ R2
 unfold F8 CT.cnt ME CT.pn at*
 cases hp:d.ptr with
 |false=>
  simp only[hp,I7,o8] at*
  obtain⟨h1,h2⟩:=AS.jQ (BY d.own d.t x) (n:=n) (ms:=ms) h (fun j hj=>hl j (by rw[A_] at hj;exact hj)) hc.1 H8 VK
  rw[A_] at h1 h2
  have NS:∀ k,n<=k/\k<n+d.t.GN->Al (AI L (CK n (BY d.own d.t x))) k:=by
   intro k hk
   have C7:k-n<(BY d.own d.t x).length:=by rw[A_];omega
   refine⟨(BY d.own d.t x)[k-n], ?_,VP (NB C7)⟩
   rw[h2,AA hk,NB C7]
  refine⟨h1,fun k=>⟨NS k,fun hk=>by rw[h2,AB hk]⟩, ?_, ?_⟩
  rotate_left
  ·intro k f b hk hf hb
   rw[h2,AA hk] at hf
   have e0:k=n+(k-n):=by omega
   rw[e0,AW.Z1 (by omega)] at hb
   exact HF _ _ _ hf hb
  have hw:KJ (E.put n d.t.GN ms) (AI L (CK n (BY d.own d.t x))) (HH d.t x n):=rI _ _ _ fun j hj=>NS _ ⟨by omega,by omega⟩
  cases hd:d.agg with
  |true=>exact hw
  |false=>
   show SV.wf _ _ ((HH d.t x n).headD AV)
   cases hu:HH d.t x n with
   |nil=>trivial
   |cons v r=>rw[hu] at hw;exact hw.1
 |true=>
  simp only[hp] at*
  obtain⟨hc1,hc2⟩:=hc
  obtain⟨b1,b2,b3,b4,ty,b5⟩:=hc2 trivial
  have VQ:=PL.1 H8
  obtain⟨h1,h2⟩:=AS.jQ (BY d.own d.t x) (n:=n+1) (ms:=fun j=>ms (1+j)) h (fun j hj=>by have:=hl (1+j) (by rw[A_] at hj;omega);rw[<-this];congr 1;omega) hc1 VQ.2.1
   (fun b hb=>VK b (EV.2 (.inr hb)))
  rw[A_] at h1 h2
  have h0:look (AI L (CK (n+1) (BY d.own d.t x))) n=some .KI:=by
   rw[h2,AB (by omega)];exact hl 0 (by omega)
  have C7:=AP h0
  have B4:=fun k=>AZ (q:=(n,AW.box (HH d.t x (n+1)))) C7 k
  have NS:∀ k,n<=k/\k<n+(1+d.t.GN)->Al (C5 (AI L (CK (n+1) (BY d.own d.t x))) (n,AW.box (HH d.t x (n+1)))) k:=by
   intro k hk
   by_cases hkn:k=n
   ·exact⟨.box (HH d.t x (n+1)),by rw[B4,AA hkn],rfl⟩
   ·have C7:k-(n+1)<(BY d.own d.t x).length:=by rw[A_];omega
    refine⟨(BY d.own d.t x)[k-(n+1)], ?_,VP (NB C7)⟩
    rw[B4,AB hkn,h2,AA (by omega),NB C7]
  have e1:(E.put (n+1) d.t.GN (fun j=>ms (1+j))).RQ n (ms 0) (ms 0).ins.l=E.put n (1+d.t.GN) ms:=by
   refine KL (fun k=> ?_) rfl (fun k=> ?_)
   all_goals simp only[Env.put,Env.RQ]
   all_goals by_cases hk:k=n
   all_goals first|subst hk|skip
   ·rw[AA rfl,AA (by omega)]
    congr 1;omega
   ·rw[AB hk]
    by_cases N9:n+1<=k/\k<n+1+d.t.GN
    ·rw[AA N9,AA (by omega)]
     congr 1;omega
    ·rw[AB N9,AB (by omega)]
   ·rw[AA rfl,AA (by omega)]
    congr 3;omega
   ·rw[AB hk]
    by_cases N9:n+1<=k/\k<n+1+d.t.GN
    ·rw[AA N9,AA (by omega)]
     congr 3;omega
    ·rw[AB N9,AB (by omega)]
  have nW:KJ (E.put n (1+d.t.GN) ms) (C5 (AI L (CK (n+1) (BY d.own d.t x))) (n,AW.box (HH d.t x (n+1)))) (HH d.t x (n+1)):=
   rI _ _ _ fun j hj=>NS _ (by omega)
  have h3:=h1.APX (i:=n) (e' := .box (HH d.t x (n+1))) (m:=ms 0) (w' :=w) (ms 0).ins.l C7 (.refl _) (ED _) (fun hx=>absurd hx (EF h0)) rfl (fun _ _ _=>rfl)
   (fun b hb=>by simp only[AW.own,AY] at hb;subst hb;exact⟨b4,b3⟩)
   (by
    intro k f hk hf b hb he
    simp only[AW.own,AY] at he
    subst he
    rw[h2] at hf
    by_cases N9:n+1<=k/\k<n+1+d.t.GN
    ·rw[AA N9] at hf
     have ND:(ms 0).B5∈GB (BY d.own d.t x) (fun j=>ms (1+j)):=by
      have:k=n+1+(k-(n+1)):=by omega
      rw[this,AW.Z1 (by omega)] at hb
      exact HF _ _ _ hf hb
     exact VQ.2.2 _ (by simp) _ ND rfl
    ·rw[AB N9] at hf
     rw[AW.mG (by omega)] at hb
     exact VK _ (EV.2 (.inl (by simp))) k f hf hb)
   (by
    intro _
    rw[e1]
    refine⟨b1,b2,b3,b4,⟨ty, ?_⟩,nW⟩
    rw[b5,UL]
    congr 3
    apply GZ
    intro j hj
    show ms (1+j)=(E.put n (1+d.t.GN) ms).nm (n+1+j)
    rw[NI,Env.gV _ _ _ _ (by omega)])
  rw[e1] at h3
  rw[BG]
  refine⟨h3,fun k=>⟨NS k,fun hk=> ?_⟩,NS n (by omega), ?_⟩
  ·show look (C5 _ _) k=_
   rw[B4,AB (by omega),h2,AB (by omega)]
  ·intro k f b hk hf hb
   have hf' :look (C5 (AI L (CK (n+1) (BY d.own d.t x))) (n,AW.box (HH d.t x (n+1)))) k=some f:=hf
   rw[B4] at hf'
   by_cases hkn:k=n
   ·subst hkn
    simp only[GA,AY] at hf'
    subst hf'
    have RZ :=(AW.Z1 (e:= .box (HH d.t x (k+1))) (E:=E) (n:=k) (cnt:=1+d.t.GN) (ms:=ms) (j:=0) (b:=b) (by omega)).1 (by simpa using hb)
    simp only[AW.VO,AW.own,Option.toList_some,F6] at RZ
    exact EV.2 (.inl (by simp [RZ]))
   ·rw[AB hkn,h2,AA (by omega)] at hf'
    have e0:k=n+(1+(k-(n+1))):=by omega
    rw[e0,AW.Z1 (by omega)] at hb
    exact EV.2 (.inr (HF _ _ (fun j=>ms (1+j)) hf' hb))
theorem AS.jR {c:DN TB} {G:Nat->Prop} {w:World}:∀ (cs:List CT) {E:Env} {L:AJ} (x:HT cs) {n:Nat} {ms:Nat->Nm},AS c G w E L->(∀ j,j<cnts cs->look L (n+j)=some .KI)→
  PS c G w cs x ms->(B6 cs x ms).Nodup->(∀ b∈B6 cs x ms,H5 E L b)→
  AS c G w (E.put n (cnts cs) ms) (AI L (D8 cs x n))/\(∀ k,(n<=k/\k<n+cnts cs->Al (AI L (D8 cs x n)) k)/\(¬(n<=k/\k<n+cnts cs)->look (AI L (D8 cs x n)) k=look L k))∧
   KJ (E.put n (cnts cs) ms) (AI L (D8 cs x n)) (outSVs cs x n)
 | [],E,L,x,n,ms,h,_,_,_,_=>by
  have e1:E.put n 0 ms=E:=KL (fun k=>by simp only[Env.put];rw[AB (by omega)]) rfl (fun k=>by simp only[Env.put];rw[AB (by omega)])
  refine⟨by simp only[cnts,e1];exact h,fun k=>⟨fun hk=>by simp [cnts] at hk;omega,fun _=>rfl⟩,trivial⟩
 |d::r,E,L,x,n,ms,h,hl,hp,H8,VK=>by
  have VQ:=PL.1 H8
  obtain⟨h1,h2,h3,h4⟩:=h.AGO d (HT.hd d r x) (n:=n) (ms:=ms) (fun j hj=>hl j (by simp [cnts];omega)) hp.1 VQ.1 (fun b hb=>VK b (EV.2 (.inl hb)))
  obtain⟨k1,k2,k3⟩:=AS.jR r (HT.tl d r x) (n:=n+d.cnt) (ms:=fun k=>ms (d.cnt+k)) h1
   (by
    intro j hj
    rw[(h2 _).2 (by omega),NI]
    exact hl _ (by simp [cnts];omega)) hp.2 VQ.2.1
   (by
    intro b hb k f hf PN
    by_cases hk:n<=k/\k<n+d.cnt
    ·exact VQ.2.2 b (h4 k f b hk hf PN) b hb rfl
    ·rw[(h2 k).2 hk] at hf
     rw[AW.mG (by omega)] at PN
     exact VK b (EV.2 (.inr hb)) k f hf PN)
  have e1:(E.put n d.cnt ms).put (n+d.cnt) (cnts r) (fun k=>ms (d.cnt+k))=E.put n (cnts (d::r)) ms:=by
   show _=E.put n (d.cnt+cnts r) ms
   refine KL (fun k=> ?_) rfl (fun k=> ?_)
   all_goals simp only[Env.put]
   all_goals by_cases hk:n+d.cnt<=k/\k<n+d.cnt+cnts r
   ·rw[AA hk,AA (by omega)]
    congr 1;omega
   ·rw[AB hk]
    by_cases N9:n<=k/\k<n+d.cnt
    ·rw[AA N9,AA (by omega)]
    ·rw[AB N9,AB (by omega)]
   ·rw[AA hk,AA (by omega)]
    congr 3;omega
   ·rw[AB hk]
    by_cases N9:n<=k/\k<n+d.cnt
    ·rw[AA N9,AA (by omega)]
    ·rw[AB N9,AB (by omega)]
  have e2:AI L (D8 (d::r) x n)=AI (AI L (N_ d (HT.hd d r x) n)) (D8 r (HT.tl d r x) (n+d.cnt)):=by
   simp only[D8,BG]
  rw[e1] at k1 k3
  rw[e2]
  have NS:∀ k,Al (AI L (N_ d (HT.hd d r x) n)) k->Al (AI (AI L (N_ d (HT.hd d r x) n)) (D8 r (HT.tl d r x) (n+d.cnt))) k:=by
   intro k hk
   by_cases N9:n+d.cnt<=k/\k<n+d.cnt+cnts r
   ·exact (k2 k).1 N9
   ·obtain⟨e,rJ,he2⟩:=hk
    exact⟨e,by rw[(k2 k).2 N9];exact rJ,he2⟩
  refine⟨k1,fun k=>⟨fun hk=> ?_,fun hk=> ?_⟩, ?_,k3⟩
  ·simp only[cnts] at hk
   by_cases N9:n+d.cnt<=k/\k<n+d.cnt+cnts r
   ·exact (k2 k).1 N9
   ·exact NS k ((h2 k).1 (by omega))
  ·simp only[cnts] at hk
   rw[(k2 k).2 (by omega),(h2 k).2 (by omega)]
  ·refine (W2 NS (fun k hk=> ?_) _ h3).1
   rw[<-e1]
   refine Env.UM _ _ _ _ ?_
   rcases GY k (n+d.cnt) with C7|hge
   ·exact .inl C7
   ·right
    rcases GY k (n+d.cnt+cnts r) with AEJ|ALB
    ·exfalso
     have:look (AI L (N_ d (HT.hd d r x) n)) k=some .KI:=by
      rw[(h2 k).2 (by omega)]
      have:=hl (k-n) (by simp [cnts];omega)
      have e:n+(k-n)=k:=by omega
      rw[e] at this;exact this
     exact EF this hk
    ·exact ALB
structure K3 (T:Type) where
 x:T
 nes:List NE
 fz:CW
 on:List Nat
 ln:List Nat
def OA (md:PM) (AQ:Nat->Option AW) (c:CT) (v:SV):Option (K3 c.t.T):=
 match c.ptr with
 |true=>match v with
  | .loc i off=>if off=0 then (match AQ i with
   |some (.box cs)=>match c.own with
    |true=>match FA .own AQ c.t cs with
     |some (x,[],nes,u)=>some ⟨x,.whole i::nes,[],i::u.map (·.1),[]⟩
     |_=>none
    |false=>match FA md AQ c.t cs with
     |some (x,[],nes,u)=>some ⟨x,.whole i::nes,u,[i],nes.filterMap NE.name⟩
     |_=>none
   |_=>none) else none
  |_=>none
 |false=>match (match c.agg,v with
   |true,.agg cs=>some cs
   |true,_=>none
   |false,v=>some [v]) with
  |none=>none
  |some cs=>match c.own with
   |true=>match FA .own AQ c.t cs with
    |some (x,[],nes,u)=>some ⟨x,nes,[],u.map (·.1),[]⟩
    |_=>none
   |false=>match FA md AQ c.t cs with
    |some (x,[],nes,u)=>some ⟨x,nes,u,[],nes.filterMap NE.name⟩
    |_=>none
def IW (md:PM) (AQ:Nat->Option AW):(cs:List CT)->List SV->Option (K3 (HT cs))
 | [],[]=>some ⟨(),[],[],[],[]⟩
 |c::r,v::vs=>match OA md AQ c v with
  |none=>none
  |some a=>match IW md AQ r vs with
   |none=>none
   |some b=>some ⟨HT.mk c r a.x b.x,a.nes++b.nes,a.fz++b.fz,a.on++b.on,a.ln++b.ln⟩
 |_,_=>none
def okA {T:Type} (a:K3 T):Bool:=decide a.on.Nodup && a.on.all fun i=> !a.ln.contains i
def K3.C2 {T:Type} (a:K3 T):CW:=a.fz++a.on.map fun i=>(i,.dead)
end Go.V3
namespace Go.V3
open Go
variable {TB:Tb}
theorem J6 {md:PM} {AQ:Nat->Option AW} {c:CT} {v:SV} {a:K3 c.t.T} (h:OA md AQ c v=some a):
  ∃ (cs:List SV) (u:CW) (nes:List NE) (x:c.t.T),FA (if c.own=true then .own else md) AQ c.t cs=some (x,[],nes,u)/\a.x=x∧
   ((c.ptr=true/\∃ i,v= .loc i 0/\AQ i=some (.box cs)/\a.nes= .whole i::nes/\a.on=i::(if c.own=true then u.map (·.1) else []))∨
    (c.ptr=false/\((c.agg=true/\v= .agg cs)\/(c.agg=false/\cs=[v]))/\a.nes=nes/\a.on=(if c.own=true then u.map (·.1) else [])))∧
   a.fz=(if c.own=true then [] else u)/\a.ln=(if c.own=true then [] else nes.filterMap NE.name):=by
 unfold OA at h
 split at h
 ·rename_i hp
  split at h
  ·rename_i i off
   split at h
   ·rename_i ho
    subst ho
    split at h
    ·rename_i cs hl
     split at h
     ·rename_i CO
      split at h
      ·rename_i x nes u hk
       simp only[AY] at h;subst h
       exact⟨cs,u,nes,x,by simp [CO,hk],rfl,.inl ⟨hp,i,rfl,hl,rfl,by simp [CO]⟩,by simp [CO],by simp [CO]⟩
      ·cases h
     ·rename_i CO
      split at h
      ·rename_i x nes u hk
       simp only[AY] at h;subst h
       exact⟨cs,u,nes,x,by simp [CO,hk],rfl,.inl ⟨hp,i,rfl,hl,rfl,by simp [CO]⟩,by simp [CO],by simp [CO]⟩
      ·cases h
    ·cases h
   ·cases h
  ·cases h
 ·rename_i hp
  split at h
  ·cases h
  ·rename_i cs hcs
   have hag:(c.agg=true/\v= .agg cs)\/(c.agg=false/\cs=[v]):=by
    split at hcs
    ·rename_i ha;simp only[AY] at hcs;exact .inl ⟨ha,by rw[hcs]⟩
    ·cases hcs
    ·rename_i ha;simp only[AY] at hcs;exact .inr ⟨ha,hcs.symm⟩
   split at h
   ·rename_i CO
    split at h
    ·rename_i x nes u hk
     simp only[AY] at h;subst h
     exact⟨cs,u,nes,x,by simp [CO,hk],rfl,.inr ⟨hp,hag,rfl,by simp [CO]⟩,by simp [CO],by simp [CO]⟩
    ·cases h
   ·rename_i CO
    split at h
    ·rename_i x nes u hk
     simp only[AY] at h;subst h
     exact⟨cs,u,nes,x,by simp [CO,hk],rfl,.inr ⟨hp,hag,rfl,by simp [CO]⟩,by simp [CO],by simp [CO]⟩
    ·cases h
theorem PO {md:PM} {AQ:Nat->Option AW} {c:CT} {r:List CT} {vs:List SV} {a:K3 (HT (c::r))} (h:IW md AQ (c::r) vs=some a):
  ∃ v vs' a1 a2,vs=v::vs' /\OA md AQ c v=some a1/\IW md AQ r vs' =some a2/\a=⟨HT.mk c r a1.x a2.x,a1.nes++a2.nes,a1.fz++a2.fz,a1.on++a2.on,a1.ln++a2.ln⟩:=by
 cases vs with
 |nil=>simp [IW] at h
 |cons v vs' =>
  simp only[IW] at h
  split at h
  ·cases h
  ·split at h
   ·cases h
   ·simp only[AY] at h
    exact⟨v,vs',_,_,rfl,by assumption,by assumption,h.symm⟩
theorem QB {md:PM} {AQ:Nat->Option AW} {c:CT} {v:SV} {a:K3 c.t.T} (h:OA md AQ c v=some a):a.nes.length=c.cnt:=by
 obtain⟨cs,u,nes,x,h1,rfl,h2,_⟩:=J6 h
 obtain⟨_,_,_,hn,_⟩:=IV ⟨fun _=>⟨0,0,true,0,0,none⟩,fun _=>undef⟩ _ _ _ _ _ _ h1
 unfold CT.cnt CT.pn
 rcases h2 with ⟨hp,i,_,_,e,_⟩|⟨hp,_,e,_⟩
 ·rw[e,hp];simp [hn];omega
 ·rw[e,hp];simp [hn]
theorem AB8 {md:PM} {AQ:Nat->Option AW} {c:CT} {v:SV} {a:K3 c.t.T} (h:OA md AQ c v=some a) (E Em:Env) (n:Nat) (hm:∀ k,k<c.cnt->Em.nm (n+k)=DY E a.nes k):
  v.den E=(R2 c a.x n).den Em:=by
 obtain⟨cs,u,nes,x,h1,rfl,h2,_⟩:=J6 h
 obtain⟨c1,e1,l1,hn,hd⟩:=IV E _ _ _ _ _ _ h1
 rw[G5] at e1;subst e1
 unfold CT.cnt CT.pn at hm
 unfold R2
 rcases h2 with ⟨hp,i,rfl,_,e,_⟩|⟨hp,hag,e,_⟩
 ·rw[hp] at hm ⊢
  rw[e] at hm
  have h0:=hm 0 (by simp;omega)
  simp only[L3,DY,O1,NE.nm] at h0
  simp only[SV.den,h0]
 ·rw[hp] at hm ⊢
  rw[e] at hm
  have hen:enc c.t a.x (DY E nes)=AK Em (HH c.t a.x n):=by
   rw[UL]
   exact GZ _ _ fun k hk=>(hm k (by simpa using hk)).symm
  rcases hag with ⟨ha,rfl⟩|⟨ha,rfl⟩
  ·rw[ha];simp only[SV.den];rw[hd,hen]
  ·rw[ha]
   simp only
   rw[hen] at hd
   cases hu:HH c.t a.x n with
   |nil=>rw[hu] at hd;simp [AK] at hd
   |cons y r=>rw[hu] at hd;simp only[AK,jH] at hd;exact hd.1
theorem VR {md:PM} {AQ:Nat->Option AW} (E:Env):∀ (cs:List CT) (vs:List SV) (a:K3 (HT cs)),IW md AQ cs vs=some a->a.nes.length=cnts cs∧
  ∀ (Em:Env) (n:Nat),(∀ k,k<cnts cs->Em.nm (n+k)=DY E a.nes k)->AK E vs=AK Em (outSVs cs a.x n):=by
 intro cs
 induction cs with
 |nil=>
  intro vs a h
  cases vs with
  |nil=>simp only[IW,AY] at h;subst h;exact⟨rfl,fun _ _ _=>rfl⟩
  |cons v r=>simp [IW] at h
 |cons c r ih=>
  intro vs a h
  obtain⟨v,vs',a1,a2,rfl,h1,h2,rfl⟩:=PO h
  obtain⟨l2,d2⟩:=ih _ _ h2
  have l1:=QB h1
  obtain⟨k1,k2⟩:=K2 E a1.nes a2.nes
  refine⟨by simp [cnts,l1,l2],fun Em n hm=> ?_⟩
  simp only[AK,outSVs,HT.nU,HT.nV]
  rw[AB8 h1 E Em n (fun k hk=>by rw[hm k (by simp [cnts];omega)];exact k1 k (by omega))]
  rw[d2 Em (n+c.cnt) (fun k hk=>by rw[NI,hm _ (by simp [cnts];omega)];rw[<-l1];exact k2 k)]
structure jS (md:PM) (AQ:Nat->Option AW) (E:Env) (c:DN TB) (G:Nat->Prop) (w:World) (on:List Nat) (fz:CW) (ln:List Nat):Prop where
 shr:∀ i t ys,AQ i=some (.shr t ys)->o_ (Rp G w t) t.sz G w (E.nm i) ys
 dS:∀ i t ys e,AQ i=some e->YP e t ys->(md= .Z0/\i∈ln)\/(i,.shr t ys)∈fz->o_ (Rp G w t) t.sz G w (E.nm i) ys
 row:∀ i t ys,AQ i=some (.row t ys)->i∈on->Own (Rp G w t) t.sz c G w (E.nm i) ys
 deep:∀ i t ys,AQ i=some (.deep t ys none)->i∈on->gU c G w (E.nx i) (.deep t ys none)
 tree:∀ i t1 t2 ys,AQ i=some (.tree t1 t2 ys)->i∈on->EX c G w (E.nm i) t1 t2 ys
 box:∀ i cs,AQ i=some (.box cs)->i∈on->(E.nm i).nil=false/\(E.nm i).off=(E.nm i).pp.pre.length/\¬G (E.nm i).B5/\¬c.Old (E.nm i).B5/\(∃ ty,w.heap[(E.nm i).B5]? =some (.cells ((E.nm i).arr (AK E cs)) ty (0,0)))
theorem jS.sub {md:PM} {AQ:Nat->Option AW} {E:Env} {c:DN TB} {G:Nat->Prop} {w:World} {on on' :List Nat} {fz fz' :CW} {ln ln' :List Nat} (h:jS md AQ E c G w on fz ln)
  (h1:∀ i∈on',i∈on) (h2:∀ q∈fz',q∈fz) (h3:∀ i∈ln',i∈ln):jS md AQ E c G w on' fz' ln' :=
 ⟨h.shr,fun i t ys e hl ho hx=>h.dS i t ys e hl ho (hx.imp (fun ⟨a,b⟩=>⟨a,h3 _ b⟩) (h2 _)),fun i t ys hl hx=>h.row i t ys hl (h1 _ hx),fun i t ys hl hx=>h.deep i t ys hl (h1 _ hx),fun i t1 t2 ys hl hx=>h.tree i t1 t2 ys hl (h1 _ hx),fun i cs hl hx=>h.box i cs hl (h1 _ hx)⟩
def VT (AQ:Nat->Option AW) (E:Env) (i:Nat):List Nat:=match AQ i with
 |some e=>e.AIY E i
 |none=>[]
theorem W5 (a b:List AW) (ms:Nat->Nm):GB (a++b) ms=GB a ms++GB b (fun k=>ms (a.length+k)):=by
 induction a generalizing ms with
 |nil=>simp [GB]
 |cons e r ih=>
  simp only[nQ,GB,ih,I6,N3]
  congr 3
  funext k
  congr 1;omega
theorem QC (es:List AW) {f g:Nat->Nm} (h:∀ k,k<es.length->f k=g k):GB es f=GB es g:=by
 induction es generalizing f g with
 |nil=>rfl
 |cons e r ih=>
  simp only[GB]
  rw[h 0 (by simp),ih (fun k hk=>h (k+1) (by simp;omega))]
theorem cX (t:Ty) (x:t.T) (ms:Nat->Nm):GB (BY false t x) ms=[]:=by
 induction t generalizing ms with
 |pair a b T1 T3=>simp [BY,W5,T1,T3]
 |slice a=>simp [BY,GB,AW.VO,AW.own]
 |_=>rfl
theorem AEK {AQ:Nat->Option AW} {E:Env}:∀ (t:Ty) (cs:List SV) (x:t.T) (r:List SV) (nes:List NE) (u:CW),FA .own AQ t cs=some (x,r,nes,u)→
  GB (BY true t x) (DY E nes)=(u.map (·.1)).flatMap (VT AQ E):=by
 intro t
 induction t with
 |pair a b T1 T3=>
  intro cs x r nes u h
  simp only[FA] at h
  repeat' split at h
  all_goals first|(cases h;done)|skip
  rename_i _ x1 r1 n1 u1 h1 _ x2 r2 n2 u2 h2
  simp only[AY,C3] at h
  obtain⟨rfl,rfl,rfl,rfl⟩:=h
  obtain⟨_,_,_,m1,_⟩:=IV E _ _ _ _ _ _ h1
  obtain⟨_,_,_,m2,_⟩:=IV E _ _ _ _ _ _ h2
  obtain⟨k1,k2⟩:=K2 E n1 n2
  simp only[BY,W5,ZS,List.flatMap_append]
  rw[<-T1 _ _ _ _ _ h1,←T3 _ _ _ _ _ h2]
  congr 1
  ·exact QC _ fun k hk=>k1 k (by rw[A_] at hk;omega)
  ·rw[A_,←m1];exact QC _ fun k hk=>k2 k
 |slice a ih=>
  intro cs x r nes u h
  simp only[FA] at h
  repeat' split at h
  all_goals first|(cases h;done)|skip
  rename_i v r' _ xs ne u' hs
  simp only[AY,C3] at h
  obtain⟨rfl,rfl,rfl,rfl⟩:=h
  rcases mF hs with ⟨rfl,rfl,rfl,hk⟩|⟨i,hx,hl,rfl⟩
  ·cases a with
   |pair a b=>cases a <;> cases b <;> rfl
   |_=>first|rfl|cases hk
  ·simp only[BY,GB,DY,O1,G5,K0,List.map_nil,List.flatMap_cons,List.flatMap_nil]
   have:VT AQ E i=(IU a xs).AIY E i:=by simp [VT,hl]
   rw[this]
   rcases hx with ⟨rfl,O4⟩|⟨rfl,b,rfl⟩|⟨rfl,b1,b2,rfl⟩
   ·rw[K1 O4];rfl
   ·rfl
   ·rfl
 |_=>
  intro cs x r nes u h
  simp only[FA] at h
  repeat' split at h
  all_goals first|(cases h;done)|skip
  all_goals (simp only[AY,C3] at h;obtain⟨_,rfl,rfl,rfl⟩:=h;rfl)
theorem yK {md:PM} {AQ:Nat->Option AW} {E:Env} {c:CT} {v:SV} {a:K3 c.t.T} (h:OA md AQ c v=some a):ME c a.x (DY E a.nes)=a.on.flatMap (VT AQ E):=by
 obtain⟨cs,u,nes,x,h1,rfl,h2,_⟩:=J6 h
 have ND:GB (BY c.own c.t a.x) (DY E nes)=(if c.own=true then u.map (·.1) else []).flatMap (VT AQ E):=by
  cases ho:c.own with
  |true=>rw[ho] at h1;simp only[GA] at h1 ⊢;exact AEK _ _ _ _ _ _ h1
  |false=>rw[cX];rfl
 unfold ME CT.pn
 rcases h2 with ⟨hp,i,rfl,hl,e1,e2⟩|⟨hp,hag,e1,e2⟩
 ·rw[hp,e1,e2]
  have hb:VT AQ E i=[(E.nm i).B5]:=by simp [VT,hl,AW.AIY,AW.own]
  rw[List.flatMap_cons,hb]
  congr 1
  rw[<-ND]
  apply QC
  intro k _
  simp only[DY]
  rw[Nat.add_comm,uC]
 ·rw[hp,e1,e2,←ND]
  simp
theorem AEL {md:PM} {AQ:Nat->Option AW} {E:Env}:∀ (cs:List CT) (vs:List SV) (a:K3 (HT cs)),IW md AQ cs vs=some a->B6 cs a.x (DY E a.nes)=a.on.flatMap (VT AQ E):=by
 intro cs
 induction cs with
 |nil=>
  intro vs a h
  cases vs with
  |nil=>simp only[IW,AY] at h;subst h;rfl
  |cons v r=>simp [IW] at h
 |cons c r ih=>
  intro vs a h
  obtain⟨v,vs',a1,a2,rfl,h1,h2,rfl⟩:=PO h
  have l1:=QB h1
  obtain⟨k1,k2⟩:=K2 E a1.nes a2.nes
  simp only[B6,HT.nU,HT.nV,List.flatMap_append]
  rw[<-yK h1,←ih _ _ h2]
  have AWE:∀ (d:CT) (x:d.t.T) (f g:Nat->Nm),(∀ k,k<d.cnt->f k=g k)->ME d x f=ME d x g:=by
   intro d x f g hfg
   unfold ME
   unfold CT.cnt at hfg
   congr 1
   ·cases hp:d.ptr with
    |true=>simp only;rw[hfg 0 (by simp [CT.pn,hp];omega)]
    |false=>rfl
   ·exact QC _ fun k hk=>hfg _ (by rw[A_] at hk;omega)
  have AWF:∀ (ds:List CT) (x:HT ds) (f g:Nat->Nm),(∀ k,k<cnts ds->f k=g k)->B6 ds x f=B6 ds x g:=by
   intro ds
   induction ds with
   |nil=>intros;rfl
   |cons d s ihs=>
    intro x f g hfg
    simp only[B6]
    rw[AWE d _ f g (fun k hk=>hfg k (by simp [cnts];omega)),ihs _ _ (fun k=>g (d.cnt+k)) (fun k hk=>hfg _ (by simp [cnts];omega))]
  obtain⟨l2,_⟩:=VR E _ _ _ h2
  congr 1
  ·exact AWE _ _ _ _ fun k hk=>k1 k (by omega)
  ·rw[<-l1];exact AWF _ _ _ _ fun k hk=>k2 k
theorem F8.congr {c:DN TB} {G:Nat->Prop} {w:World} {d:CT} {x:d.t.T} {f g:Nat->Nm} (h:F8 c G w d x f) (hfg:∀ k,k<d.cnt->f k=g k):F8 c G w d x g:=by
 obtain⟨h1,h2⟩:=h
 unfold CT.cnt at hfg
 refine⟨fun j e he=> ?_,fun hp=> ?_⟩
 ·have hj:j<d.t.GN:=by
   rcases GY j (BY d.own d.t x).length with h|h
   ·rwa [A_] at h
   ·rw[SO h] at he;cases he
  rw[<-hfg _ (by omega)]
  exact h1 j e he
 ·have h0:=hfg 0 (by simp [CT.pn,hp];omega)
  rw[<-h0]
  obtain⟨a,b,c,d',ty,e⟩:=h2 hp
  refine⟨a,b,c,d',ty, ?_⟩
  rw[e]
  congr 3
  exact GZ _ _ fun k hk=>hfg _ (by omega)
theorem PS.congr {c:DN TB} {G:Nat->Prop} {w:World}:∀ (cs:List CT) {x:HT cs} {f g:Nat->Nm},PS c G w cs x f->(∀ k,k<cnts cs->f k=g k)->PS c G w cs x g
 | [],_,_,_,_,_=>trivial
 |d::r,x,f,g,h,hfg=>⟨h.1.congr fun k hk=>hfg k (by simp [cnts];omega),PS.congr r h.2 fun k hk=>hfg _ (by simp [cnts];omega)⟩
theorem AEM {md:PM} (rG:md≠ .own) {AQ:Nat->Option AW} {c:CT} {v:SV} {a:K3 c.t.T} (h:OA md AQ c v=some a) {E:Env} {L:AJ} (hw:v.wf E L) (hwb:∀ i cs,AQ i=some (.box cs)->KJ E L cs)
  {cf:DN TB} {G:Nat->Prop} {w:World} (hk:jS md AQ E cf G w a.on a.fz a.ln):F8 cf G w c a.x (DY E a.nes):=by
 obtain⟨cs,u,nes,x,h1,rfl,h2,h3,h4⟩:=J6 h
 have hwc:KJ E L cs:=by
  rcases h2 with ⟨_,i,_,hl,_⟩|⟨_,hag,_⟩
  ·exact hwb i cs hl
  ·rcases hag with ⟨_,rfl⟩|⟨_,rfl⟩
   ·exact hw
   ·exact⟨hw,trivial⟩
 obtain⟨c1,e1,_,hn,hd⟩:=IV E _ _ _ _ _ _ h1
 rw[G5] at e1;subst e1
 obtain⟨g1,g2⟩:=VN _ _ _ _ _ _ h1
 have hon:∀ q∈u,c.own=true->q.1∈a.on:=by
  intro q hq ho
  rcases h2 with ⟨_,i,_,_,_,e⟩|⟨_,_,_,e⟩
  ·rw[e,AA ho];exact S7 _ (C0.2 ⟨q,hq,rfl⟩)
  ·rw[e,AA ho];exact C0.2 ⟨q,hq,rfl⟩
 have ASN:∀ j e,(BY c.own c.t a.x)[j]? =some e->gU cf G w (DY E nes j) e:=by
  intro j e he
  rcases g1 j c.own e he with rfl|⟨t,s,xs,ne,uk,hs,CJ,hsc,JB,rfl⟩
  ·trivial
  have hnf:DY E nes j=ne.nm E:=by simp [DY,CJ]
  rw[hnf]
  cases ho:c.own with
  |true=>
   rw[ho] at hs
   simp only[GA] at hs
   rcases mF hs with ⟨rfl,rfl,rfl,hkv⟩|⟨i,hx,hl,rfl⟩
   ·exact gU.nil cf G w t hkv
   ·rcases hx with ⟨rfl,O4⟩|⟨rfl,O4⟩|⟨rfl,O4⟩
    ·simp only
     rw[K1 O4] at hl ⊢
     exact hk.row i t xs hl (hon (i,.dead) (JB _ (by simp)) ho)
    ·obtain⟨b,rfl⟩:=O4
     exact hk.deep i b xs hl (hon (i,.dead) (JB _ (by simp)) ho)
    ·obtain⟨b1,b2,rfl⟩:=O4
     exact hk.tree i b1 b2 xs hl (hon (i,.dead) (JB _ (by simp)) ho)
  |false=>
   rw[ho] at hs
   simp only[T8,I9] at hs h3 h4
   rw[ho] at h3 h4
   simp only[T8,I9] at h3 h4
   refine mE hs rG (BP.1 hwc s hsc) hk.shr ?_
   intro i t' ys e' vS hl hoe hx
   refine hk.dS i t' ys e' hl hoe ?_
   rcases hx with hx|hx
   ·left
    refine⟨hx, ?_⟩
    rw[h4]
    exact List.mem_filterMap.2 ⟨ne,YL CJ,vS⟩
   ·right
    rw[h3]
    exact JB _ hx
 unfold F8 CT.pn
 rcases h2 with ⟨hp,i,rfl,hl,e1,e2⟩|⟨hp,hag,e1,e2⟩
 ·rw[hp,e1]
  have h0:DY E (.whole i::nes) 0=E.nm i:=rfl
  have hs:∀ j,DY E (.whole i::nes) (1+j)=DY E nes j:=fun j=>by simp only[DY];rw[Nat.add_comm,uC]
  refine⟨fun j e he=> ?_,fun _=> ?_⟩
  ·simp only[hs];exact ASN j e he
  ·obtain⟨b1,b2,b3,b4,ty,b5⟩:=hk.box i _ hl (by rw[e2];simp)
   rw[h0]
   refine⟨b1,b2,b3,b4,ty, ?_⟩
   rw[b5,hd]
   congr 3
   exact GZ _ _ fun j _=>(hs j).symm
 ·rw[hp,e1]
  refine⟨fun j e he=> ?_,fun hx=>by cases hx⟩
  simp only[I7];exact ASN j e he
theorem ALC {md:PM} (rG:md≠ .own) {AQ:Nat->Option AW} {E:Env} {L:AJ} (hwb:∀ i cs,AQ i=some (.box cs)->KJ E L cs) {cf:DN TB} {G:Nat->Prop} {w:World}:
  ∀ (cs:List CT) (vs:List SV) (a:K3 (HT cs)),IW md AQ cs vs=some a->KJ E L vs->jS md AQ E cf G w a.on a.fz a.ln->PS cf G w cs a.x (DY E a.nes):=by
 intro cs
 induction cs with
 |nil=>intros;trivial
 |cons c r ih=>
  intro vs a h hw hk
  obtain⟨v,vs',a1,a2,rfl,h1,h2,rfl⟩:=PO h
  have l1:=QB h1
  obtain⟨l2,_⟩:=VR E _ _ _ h2
  obtain⟨k1,k2⟩:=K2 E a1.nes a2.nes
  refine⟨?_, ?_⟩
  ·simp only[HT.nU]
   refine (AEM rG h1 hw.1 hwb (hk.sub (by simp;intros;simp [*]) (by simp;intros;simp [*]) (by simp;intros;simp [*]))).congr fun k hk=>(k1 k (by omega)).symm
  ·simp only[HT.nV]
   refine (ih _ _ h2 hw.2 (hk.sub (by simp;intros;simp [*]) (by simp;intros;simp [*]) (by simp;intros;simp [*]))).congr _ fun k hk=> ?_
   rw[<-l1];exact (k2 k).symm
end Go.V3
namespace Go.V3
open Go
variable {TB:Tb}
theorem uI {md:PM} (rG:md≠ .own) {AQ:Nat->Option AW} {c:CT} {v:SV} {a:K3 c.t.T} (h:OA md AQ c v=some a):
  (∀ q∈a.fz,∃ t ys e,AQ q.1=some e/\YP e t ys/\q.2= .shr t ys/\q.1∈a.ln)/\(∀ i∈a.on,∃ e,AQ i=some e/\e.G6=false):=by
 obtain⟨cs,u,nes,x,h1,rfl,h2,h3,h4⟩:=J6 h
 obtain⟨_,g2⟩:=VN _ _ _ _ _ _ h1
 refine⟨fun q hq=> ?_,fun i hi=> ?_⟩
 ·rw[h3] at hq
  cases ho:c.own with
  |true=>rw[ho] at hq;cases hq
  |false=>
   rw[ho] at hq h4 g2
   simp only[T8,I9] at hq h4 g2
   obtain⟨k,t,s,xs,ne,uk,hs,CJ,hqk⟩:=g2 q hq
   rcases mD hs with rfl|⟨i,t',ys,e',hl,hoe,_,hn,rfl⟩|hx
   ·cases hqk
   ·rw[F6] at hqk;subst hqk
    refine⟨t',ys,e',hl,hoe,rfl, ?_⟩
    rw[h4]
    exact List.mem_filterMap.2 ⟨ne,YL CJ,hn⟩
   ·exact absurd hx rG
 ·have hu:∀ q∈u,c.own=true->∃ e,AQ q.1=some e/\e.G6=false:=by
   intro q hq ho
   rw[ho] at g2
   simp only[GA] at g2
   obtain⟨k,t,s,xs,ne,uk,hs,CJ,hqk⟩:=g2 q hq
   rcases mF hs with ⟨_,_,rfl,_⟩|⟨i,_,hl,rfl⟩
   ·cases hqk
   ·rw[F6] at hqk;subst hqk;exact⟨_,hl,gS _ _⟩
  have ND:∀ i∈(if c.own=true then u.map (·.1) else []),∃ e,AQ i=some e/\e.G6=false:=by
   intro i hi
   split at hi
   ·rename_i ho
    obtain⟨q,hq,rfl⟩:=C0.1 hi
    exact hu q hq ho
   ·cases hi
  rcases h2 with ⟨_,i',rfl,hl,_,e2⟩|⟨_,_,_,e2⟩
  ·rw[e2] at hi
   rcases F7.1 hi with rfl|hi
   ·exact⟨_,hl,rfl⟩
   ·exact ND i hi
  ·rw[e2] at hi
   exact ND i hi
theorem Z2 {md:PM} (rG:md≠ .own) {AQ:Nat->Option AW}:∀ (cs:List CT) (vs:List SV) (a:K3 (HT cs)),IW md AQ cs vs=some a→
  (∀ q∈a.fz,∃ t ys e,AQ q.1=some e/\YP e t ys/\q.2= .shr t ys/\q.1∈a.ln)/\(∀ i∈a.on,∃ e,AQ i=some e/\e.G6=false):=by
 intro cs
 induction cs with
 |nil=>
  intro vs a h
  cases vs with
  |nil=>simp only[IW,AY] at h;subst h;exact⟨fun q hq=>(by simp at hq),fun i hi=>(by simp at hi)⟩
  |cons v r=>simp [IW] at h
 |cons c r ih=>
  intro vs a h
  obtain⟨v,vs',a1,a2,rfl,h1,h2,rfl⟩:=PO h
  obtain⟨p1,p2⟩:=uI rG h1
  obtain⟨q1,q2⟩:=ih _ _ h2
  refine⟨fun q hq=> ?_,fun i hi=> ?_⟩
  ·rcases EV.1 hq with hq|hq
   ·obtain⟨t,ys,e,a,a',b,c⟩:=p1 q hq;exact⟨t,ys,e,a,a',b,EV.2 (.inl c)⟩
   ·obtain⟨t,ys,e,a,a',b,c⟩:=q1 q hq;exact⟨t,ys,e,a,a',b,EV.2 (.inr c)⟩
  ·rcases EV.1 hi with hi|hi
   ·exact p2 i hi
   ·exact q2 i hi
theorem AS.ASO {c:DN TB} {G:Nat->Prop} {w:World} {E:Env}:∀ (on:List Nat) {L:AJ},AS c G w E L->(∀ i∈on,i<L.length)→
  AS c G w E (AI L (on.map fun i=>(i,.dead)))/\(∀ n,Al L n->Al (AI L (on.map fun i=>(i,.dead))) n)∧
   ∀ n,look (AI L (on.map fun i=>(i,.dead))) n=if n∈on then some .dead else look L n
 | [],L,h,_=>⟨h,fun _ h=>h,fun n=>by simp [AI]⟩
 |i::r,L,h,hl=>by
  obtain⟨h1,h2,h3⟩:=AS.ASO r (h.kill (hl i (by simp))) (fun k hk=>by rw[FK];exact hl k (by simp [hk]))
  refine⟨h1,fun n hn=>h2 n (BM rfl n hn),fun n=> ?_⟩
  show look (AI (C5 L (i,.dead)) (r.map fun i=>(i,.dead))) n=_
  rw[h3,AZ (hl i (by simp))]
  by_cases hn:n=i
  ·subst hn;simp
  ·by_cases hr:n∈r <;> simp [hn,hr]
theorem AS.take {c:DN TB} {G:Nat->Prop} {w:World} {E:Env} {L:AJ} (h:AS c G w E L) {md:PM} (rG:md≠ .own) {AQ:Nat->Option AW} (B4:∀ n e,AQ n=some e->look L n=some e)
  {cs:List CT} {vs:List SV} {a:K3 (HT cs)} (hp:IW md AQ cs vs=some a) (ho:okA a=true) (hw:KJ E L vs):
  ∃ G1 G2,AS c G1 w E (AI L a.C2)/\(∀ b,G b->G1 b)/\(∀ b,G1 b->G2 b)/\(md= .dS->G2=G1)∧
   (∀ b,G2 b->G1 b\/∃ n e,look (AI L a.C2) n=some e/\e.ow E n b)/\(∀ n,Al L n->Al (AI L a.C2) n)∧
   (∀ n,n∉a.on->n∉a.fz.map (·.1)->look (AI L a.C2) n=look L n)/\(∀ n∈a.on,look (AI L a.C2) n=some .dead)∧
   PS c G2 w cs a.x (DY E a.nes)/\(B6 cs a.x (DY E a.nes)).Nodup/\∀ b∈B6 cs a.x (DY E a.nes),H5 E (AI L a.C2) b:=by
 obtain⟨n1,n2⟩:=Z2 rG cs vs a hp
 simp only[okA,G4,IQ,J9,RM,xZ,YK] at ho
 obtain⟨H8,VU⟩:=ho
 obtain⟨G1,h1,hg1,ha1,hk1,hq1⟩:=h.yH a.fz (fun q hq=>by
  obtain⟨t,ys,e0,hl,ho0,e,_⟩:=n1 q hq
  exact⟨t,ys,.inl ⟨e0,B4 _ _ hl,ho0⟩,e⟩)
 have AB9:∀ i∈a.on,i∉a.fz.map (·.1):=by
  intro i hi hx
  obtain⟨q,hq,rfl⟩:=C0.1 hx
  obtain⟨_,_,_,_,_,_,hln⟩:=n1 q hq
  exact VU _ hi hln
 have CD:∀ n,n∉a.fz.map (·.1)->look (AI L a.fz) n=look L n:=by
  intro n hn
  cases hl:look L n with
  |some e=>
   rcases hk1 n e hl with hx|⟨t,ys,_,_,hx⟩
   ·exact hx
   ·exact absurd (C0.2 ⟨_,hx,rfl⟩) hn
  |none=>
   have hge:L.length<=n:=by
    rcases GY n L.length with h' |h'
    ·unfold look at hl;rw[NB h'] at hl;cases hl
    ·exact h'
   unfold look
   rw[SO (by rw[NQ];exact hge)]
 have AWG:∀ i∈a.on,i<(AI L a.fz).length:=by
  intro i hi
  rw[NQ]
  obtain⟨e,hl,_⟩:=n2 i hi
  exact AP (B4 _ _ hl)
 obtain⟨h2,ha2,mH⟩:=h1.ASO a.on AWG
 have AZB:AI L a.C2=AI (AI L a.fz) (a.on.map fun i=>(i,.dead)):=by rw[K3.C2,BG]
 rw[<-AZB] at h2 ha2 mH
 have Z3:∀ n,n∉a.on->n∉a.fz.map (·.1)->look (AI L a.C2) n=look L n:=by
  intro n hn hf
  rw[mH,AB hn,CD n hf]
 let G2:Nat->Prop:=fun b=>G1 b\/(md= .Z0/\∃ n e,look (AI L a.C2) n=some e/\e.ow E n b)
 have ABA:∀ b,G1 b->G2 b:=fun b hb=> .inl hb
 have ABB:∀ i∈a.on,∀ e,look L i=some e->∀ b,e.ow E i b->¬G2 b/\H5 E (AI L a.C2) b:=by
  intro i hi e he b hb
  have rJ:look (AI L a.fz) i=some e:=by rw[CD i (AB9 i hi)];exact he
  have VK:H5 E (AI L a.C2) b:=by
   intro n f hf PN
   rw[mH] at hf
   by_cases hn:n∈a.on
   ·rw[AA hn] at hf;simp only[AY] at hf;subst hf;rcases PN with PN|⟨PN,_⟩|⟨PN,_⟩ <;> cases PN
   ·rw[AB hn] at hf
    refine h1.inj n i f e b (fun hx=>hn (hx ▸ hi)) hf rJ PN hb
  refine⟨?_,VK⟩
  rintro (hx|⟨_,n,f,hx,hxb⟩)
  ·exact (h1.O3 rJ hb).1 hx
  ·exact VK n _ hx hxb
 have nX:=fun t x vs=>Rp.mono (w:=w) (w' :=w) (fun b (_:G1 b)=>rfl) ABA t x vs
 have ALD:jS md AQ E c G2 w a.on a.fz a.ln:=by
  refine⟨?_, ?_, ?_, ?_, ?_, ?_⟩
  ·intro i t ys hl
   rcases hk1 i _ (B4 _ _ hl) with hx|⟨_,_,hx,_⟩
   ·exact o_.mono (h1.KY i _ hx) (nX t) (fun _ _=>rfl) ABA
   ·cases hx
  ·rintro i t ys e0 hl hoe (⟨hx,hln⟩|hx)
   ·have AZC:i∉a.on:=fun hi=>VU i hi hln
    rcases hk1 i _ (B4 _ _ hl) with yI|⟨t',ys',yI,hx2,_⟩
    ·have hx3:look (AI L a.C2) i=some e0:=by rw[mH,AB AZC];exact yI
     cases hoe with
     |row=>exact APY (h1.KY i _ yI) (nX t) (fun hn=> .inr ⟨hx,i,_,hx3,.inl (by simp [AW.own,hn])⟩)
     |deep b=>exact (h1.dp i _ _ _ yI).shr (nX b) (fun b hb=> .inr ⟨hx,i,_,hx3,AW.FE.2 hb⟩)
     |tree b1 b2=>exact (h1.KY i _ yI).shr nX (fun b hb=> .inr ⟨hx,i,_,hx3,AW.cV.2 hb⟩)
    ·have:(AW.shr t' ys')= .shr t ys:=by cases yI <;> cases hoe <;> rfl
     rw[this] at hx2
     exact o_.mono (h1.KY i _ hx2) (nX t) (fun _ _=>rfl) ABA
   ·exact o_.mono (h1.KY i _ (hq1 _ hx)) (nX t) (fun _ _=>rfl) ABA
  ·intro i t ys hl hi
   have rJ:look (AI L a.fz) i=some (.row t ys):=by rw[CD i (AB9 i hi)];exact B4 _ _ hl
   obtain⟨p1,p2,p3⟩:=h1.KY i _ rJ
   refine⟨p1,p2,p3.imp id ?_⟩
   rintro⟨p4,p5,p6,p7,arr,ty,p8,p9,p10⟩
   exact⟨p4,(ABB i hi _ (B4 _ _ hl) _ (.inl (by simp [AW.own,p4]))).1,p6,p7,arr,ty,p8,p9,p10.imp (nX t)⟩
  ·intro i t ys hl hi
   have rJ:look (AI L a.fz) i=some (.deep t ys none):=by rw[CD i (AB9 i hi)];exact B4 _ _ hl
   refine⟨rfl, ?_⟩
   refine ((h1.dp i t ys none rJ).mono (fun _ h=>h) (fun _ _=>rfl) (fun _ _=>rfl) ABA (fun b hb=>⟨rfl, ?_⟩)).env ⟨rfl,rfl,rfl,rfl,rfl⟩
   exact (ABB i hi _ (B4 _ _ hl) _ (AW.FE.2 hb)).1
  ·intro i t1 t2 ys hl hi
   have rJ:look (AI L a.fz) i=some (.tree t1 t2 ys):=by rw[CD i (AB9 i hi)];exact B4 _ _ hl
   have hx:YD c G2 w E L (E.nm i) (.tree t1 t2 ys):=(h1.KY i _ rJ).mono (fun _ h=>by
     obtain⟨e,q1,q2⟩:=h
     rcases Classical.em (∃ e,look L _=some e/\e.G6=false) with hx|hx
     ·exact hx
     ·exact absurd (by
       cases vT :look L _ with
       |none=>
        exfalso
        have hge:L.length<=_:=Nat.le_of_not_lt fun C7=>by
         unfold look at vT;rw[NB C7] at vT;cases vT
        unfold look at q1
        rw[SO (by rw[NQ];exact hge)] at q1
        cases q1
       |some e' =>
        rcases hk1 _ _ vT with hz|⟨t,ys,hz,hz2,_⟩
        ·rw[hz] at q1;simp only[AY] at q1;subst q1;exact⟨_,rfl,q2⟩
        ·exact⟨_,rfl,hz.KI⟩) hx) (fun _ _=>rfl) (fun _ _=>rfl) ABA (fun b hb=>by cases hb) (fun _ b hb=>⟨rfl,(ABB i hi _ (B4 _ _ hl) _ (AW.cV.2 hb)).1⟩)
   exact hx
  ·intro i cs hl hi
   have rJ:look (AI L a.fz) i=some (.box cs):=by rw[CD i (AB9 i hi)];exact B4 _ _ hl
   obtain⟨p1,p2,p3,p4,p5,p6⟩:=h1.KY i _ rJ
   exact⟨p1,p2,(ABB i hi _ (B4 _ _ hl) _ (.inl rfl)).1,p4,p5⟩
 have hwb:∀ i cs,AQ i=some (.box cs)->KJ E L cs:=fun i cs hl=>(h.KY i _ (B4 _ _ hl)).2.2.2.2.2
 have ALE:=AEL (E:=E) cs vs a hp
 have AIZ:∀ i∈a.on,∀ b∈VT AQ E i,∃ e,look L i=some e/\e.ow E i b:=by
  intro i _ b hb
  unfold VT at hb
  split at hb
  ·rename_i e hl;exact⟨e,B4 _ _ hl,AW.AWD.2 hb⟩
  ·cases hb
 have AWH:∀ i∈a.on,(VT AQ E i).Nodup:=by
  intro i _
  unfold VT
  split
  ·rename_i e hl
   cases e with
   |deep t x q=>exact (h.dp i t x q (B4 _ _ hl)).nd
   |tree t1 t2 xs=>exact (h.KY i _ (B4 _ _ hl)).nd
   |row t x=>show (((AW.row t x).own (E.nm i)).toList).Nodup;cases (AW.row t x).own (E.nm i) <;> simp
   |box t=>show (((AW.box t).own (E.nm i)).toList).Nodup;cases (AW.box t).own (E.nm i) <;> simp
   |_=>simp [AW.AIY,AW.own]
  ·exact dR
 refine⟨G1,G2,h2,hg1,ABA, ?_, ?_,fun n hn=>ha2 n (ha1 n hn),Z3,fun n hn=>by rw[mH,AA hn],ALC rG hwb cs vs a hp hw ALD, ?_, ?_⟩
 ·intro hf
  funext b
  simp only[eq_iff_iff]
  refine⟨?_,ABA b⟩
  rintro (hx|⟨hx,_⟩)
  ·exact hx
  ·rw[hf] at hx;cases hx
 ·rintro b (hx|⟨_,hx⟩)
  ·exact .inl hx
  ·exact .inr hx
 ·rw[ALE]
  clear ALE ALD h2 ha2 mH Z3 ABB VU
  have:∀ (on:List Nat),on.Nodup->(∀ i∈on,i∈a.on)->(on.flatMap (VT AQ E)).Nodup:=by
   intro on
   induction on with
   |nil=>intros;simp
   |cons i r ih=>
    intro H8 ND
    rw[T_] at H8
    have ih' :=ih H8.2 (fun k hk=>ND k (by simp [hk]))
    rw[List.flatMap_cons]
    refine PL.2 ⟨AWH i (ND i (by simp)),ih', ?_⟩
    rintro b hb b' hm rfl
    obtain⟨k,hk,hkb⟩:=List.mem_flatMap.1 hm
    obtain⟨e,he,heb⟩:=AIZ i (ND i (by simp)) b hb
    obtain⟨f,hf,PN⟩:=AIZ k (ND k (by simp [hk])) b hkb
    exact h.inj i k e f b (fun hx=>H8.1 (hx ▸ hk)) he hf heb PN
  exact this a.on H8 (fun _ h=>h)
 ·intro b hb
  rw[ALE] at hb
  obtain⟨i,hi,hib⟩:=List.mem_flatMap.1 hb
  obtain⟨e,he,heb⟩:=AIZ i hi b hib
  exact (ABB i hi e he b heb).2
end Go.V3
namespace Go.V3
open Go
variable {TB:Tb}
def CalleeRuns (P:Program) (f:FuncId):Prop:=∀ args w,(callFunc f args).run P w= .ok (.enter f args) w
def HT.left:(zas bs:List CT)->HT (zas++bs)->HT zas
 | [],_,_=>()
 | [_],bs,x=>HT.hd _ bs x
 |c::d::r,bs,x=>(x.1,HT.left (d::r) bs x.2)
def HT.right:(zas bs:List CT)->HT (zas++bs)->HT bs
 | [],_,x=>x
 |c::r,bs,x=>HT.right r bs (HT.tl c (r++bs) x)
inductive Sh where
 |one
 |vN (f:FuncId) (k:Nat)
 |pp (n:Nat)
def foldA:List Sh->List SV->List SV
 | [],vs=>vs
 | .one::r,v::vs=>v::foldA r vs
 | .one::_,[]=>[]
 | .vN f k::r,vs=> .vN f (vs.take k)::foldA r (vs.drop k)
 | .pp n::r,_::vs=> .loc n 0::foldA r vs
 | .pp _::_,[]=>[]
def cY (ne:Option NE) (o:Nat):Bool:=match ne with
 |some (.whole i)=>i==o
 |_=>false
def ABC (AQ:Nat->Option AW) (i:Nat):Option Nat:=match AQ i with
 |some (.box [.loc j 0])=>some j
 |_=>none
def AJ0:SV->Option (FuncId×List SV)
 | .vN f cs=>some (f,cs)
 | .raw (.func (.func f) ⟨[]⟩ ⟨[]⟩)=>some (f,[])
 |_=>none
def UB (AQ:Nat->Option AW):List Sh->List SV->Option (List SV)
 | [],vs=>some vs
 | .one::r,v::vs=>(match UB AQ r vs with
  |some us=>some (v::us)
  |none=>none)
 | .one::_,[]=>none
 | .vN _ _::_,[]=>none
 | .vN f k::r,v::vs=>(match AJ0 v with
  |some (f',cs)=>if f' =f/\cs.length=k then (match UB AQ r vs with
   |some us=>some (cs++us)
   |none=>none) else none
  |none=>none)
 | .pp _::_,[]=>none
 | .pp _::r,v::vs=>(match v with
  | .loc i off=>if off=0 then (match ABC AQ i,UB AQ r vs with
   |some j,some us=>some (.loc j 0::us)
   |_,_=>none) else none
  |_=>none)
def gW:List Sh->List SV->List (Nat×Nat)
 | .one::r,_::vs=>gW r vs
 | .vN _ _::r,_::vs=>gW r vs
 | .pp n::r,.loc i _::vs=>(n,i)::gW r vs
 | .pp _::r,_::vs=>gW r vs
 |_,_=>[]
theorem ABD {v:SV} {f:FuncId} {cs:List SV} (h:AJ0 v=some (f,cs)) (E:Env):v.den E= .func (.func f) #[] (AK E cs).toArray:=by
 unfold AJ0 at h
 split at h
 ·simp only[AY,C3] at h
  obtain⟨rfl,rfl⟩:=h
  simp [SV.den]
 ·simp only[AY,C3] at h
  obtain⟨rfl,rfl⟩:=h
  rfl
 ·cases h
theorem AGP {v:SV} {f:FuncId} {cs:List SV} (h:AJ0 v=some (f,cs)) {E:Env} {L:AJ} (hv:v.wf E L):KJ E L cs:=by
 unfold AJ0 at h
 split at h
 ·simp only[AY,C3] at h
  obtain⟨rfl,rfl⟩:=h
  simpa [SV.wf] using hv
 ·simp only[AY,C3] at h
  obtain⟨rfl,rfl⟩:=h
  trivial
 ·cases h
theorem cZ {AQ:Nat->Option AW} {E Em:Env}:∀ (sh:List Sh) (vs us us' :List SV),UB AQ sh vs=some us->AK E us=AK Em us' ->(∀ q∈gW sh vs,Em.nm q.1=E.nm q.2)->AK Em (foldA sh us')=AK E vs
 | [],vs,us,us',h,hd,_=>by simp only[UB,AY] at h;subst h;exact hd.symm
 | .one::r,[],us,us',h,_,_=>by simp [UB] at h
 | .one::r,v::vs,us,us',h,hd,hp=>by
  simp only[UB] at h
  split at h
  ·rename_i us1 hu
   simp only[AY] at h;subst h
   cases us' with
   |nil=>simp [AK] at hd
   |cons u ur=>
    simp only[AK,jH] at hd
    simp only[foldA,AK]
    rw[cZ r vs us1 ur hu hd.2 hp,hd.1]
  ·cases h
 | .vN f k::r,[],us,us',h,_,_=>by simp [UB] at h
 | .vN f k::r,v::vs,us,us',h,hd,hp=>by
  simp only[UB] at h
  split at h
  ·rename_i f' cs hf
   split at h
   ·rename_i hc
    obtain⟨rfl,rfl⟩:=hc
    split at h
    ·rename_i us1 hu
     simp only[AY] at h;subst h
     have e1:AK Em (us'.take cs.length)=AK E cs:=by
      rw[EW,List.map_take,←EW,←hd,FW]
      have:(AK E cs).length=cs.length:=AT _
      rw[<-this,List.take_left]
     have e2:AK E us1=AK Em (us'.drop cs.length):=by
      rw[EW (E:=Em),List.map_drop,←EW,←hd,FW]
      have:(AK E cs).length=cs.length:=AT _
      rw[<-this,List.drop_left]
     simp only[foldA,AK,SV.den]
     rw[e1,cZ r vs us1 _ hu e2 hp,ABD hf E]
    ·cases h
   ·cases h
  ·cases h
 | .pp n::r,[],us,us',h,_,_=>by simp [UB] at h
 | .pp n::r,v::vs,us,us',h,hd,hp=>by
  simp only[UB] at h
  split at h
  ·rename_i i off
   split at h
   ·rename_i h0
    subst h0
    split at h
    ·rename_i j us1 hj hu
     simp only[AY] at h;subst h
     cases us' with
     |nil=>simp [AK] at hd
     |cons u ur=>
      simp only[AK,jH] at hd
      simp only[foldA,AK]
      rw[cZ r vs us1 ur hu hd.2 (fun q hq=>hp q (by simp [gW,hq]))]
      have:=hp (n,i) (by simp [gW])
      simp only at this
      simp only[SV.den,this]
    ·cases h
   ·cases h
  ·cases h
theorem pT {AQ:Nat->Option AW} {E:Env} {L:AJ} (hb:∀ i j,ABC AQ i=some j->Al L j):∀ (sh:List Sh) (vs us:List SV),UB AQ sh vs=some us->KJ E L vs->KJ E L us
 | [],vs,us,h,hw=>by simp only[UB,AY] at h;subst h;exact hw
 | .one::r,[],us,h,_=>by simp [UB] at h
 | .one::r,v::vs,us,h,hw=>by
  simp only[UB] at h
  split at h
  ·rename_i us' hu
   simp only[AY] at h;subst h
   exact⟨hw.1,pT hb r vs us' hu hw.2⟩
  ·cases h
 | .vN f k::r,[],us,h,_=>by simp [UB] at h
 | .vN f k::r,v::vs,us,h,hw=>by
  simp only[UB] at h
  split at h
  ·rename_i f' cs hf
   split at h
   ·rename_i hc
    split at h
    ·rename_i us' hu
     simp only[AY] at h;subst h
     have h1:=BP.1 (AGP hf hw.1)
     have h2:=BP.1 (pT hb r vs us' hu hw.2)
     exact BP.2 fun v hv=>(EV.1 hv).elim (h1 v) (h2 v)
    ·cases h
   ·cases h
  ·cases h
 | .pp n::r,[],us,h,_=>by simp [UB] at h
 | .pp n::r,v::vs,us,h,hw=>by
  simp only[UB] at h
  split at h
  ·split at h
   ·split at h
    ·rename_i j us1 hj hu
     simp only[AY] at h;subst h
     exact⟨hb _ _ hj,pT hb r vs us1 hu hw.2⟩
    ·cases h
   ·cases h
  ·cases h
theorem jT {E:Env} {L:AJ}:∀ (sh:List Sh) (vs:List SV),(∀ n,Sh.pp n∈sh->Al L n)->KJ E L vs->KJ E L (foldA sh vs)
 | [],_,_,h=>h
 | .one::_,[],_,_=>trivial
 | .one::r,v::vs,hp,h=>⟨h.1,jT r vs (fun n hn=>hp n (by simp [hn])) h.2⟩
 | .pp _::_,[],_,_=>trivial
 | .pp n::r,v::vs,hp,h=>⟨hp n (by simp),jT r vs (fun n hn=>hp n (by simp [hn])) h.2⟩
 | .vN f k::r,vs,hp,h=>by
  have hm:=BP.1 h
  exact⟨BP.2 fun v hv=>hm v (vJ hv),jT r _ (fun n hn=>hp n (by simp [hn])) (BP.2 fun v hv=>hm v (vK hv))⟩
structure FnI where
 ps:List CT
 rs:List CT
 os:List CT
 bk:List Nat
 sh:List Sh:=[]
 pin:List (Nat×Nat×Nat×Nat):=[]
 cl:List (Nat×Ty):=[]
 mI:List (Nat×Nat):=[]
 F:HT ps->Option (HT (rs++os))
def R3:List SV->SV
 | [v]=>v
 |vs=> .tup vs
def K4:List CT->Nat->List Nat
 | [],_=>[]
 |d::r,n=>n::K4 r (n+d.cnt)
def Z4:List CT->Nat->Nat->List (Nat×Nat)
 | [],_,_=>[]
 |d::r,a,b=>match d.ptr with
  |true=>(List.range d.t.GN).map (fun j=>(a+1+j,b+j))++Z4 r (a+d.cnt) (b+d.t.GN)
  |false=>Z4 r (a+d.cnt) b
theorem QD:∀ (cs:List CT) (a b a' b' :Nat),Z4 cs (a+a') (b+b')=(Z4 cs a' b').map (fun q=>(a+q.1,b+q.2))
 | [],_,_,_,_=>rfl
 |d::r,a,b,a',b' =>by
  simp only[Z4]
  cases d.ptr with
  |true=>
   simp only[ZS,S8]
   rw[show a+a' +d.cnt=a+(a' +d.cnt) by omega,show b+b' +d.t.GN=b+(b' +d.t.GN) by omega,QD r a b]
   congr 1
   apply T7
   intro j _
   simp only[Function.comp]
   congr 1 <;> omega
  |false=>
   simp only
   rw[show a+a' +d.cnt=a+(a' +d.cnt) by omega,QD r a b]
def Ty.vU:Ty->Bool
 | .slice a=> !a.o9
 |_=>false
def okO (d:CT):Bool:=d.ptr||(d.own && !d.agg && d.t.vU)
def SR (nes:List NE):List Nat->Option (List Nat)
 | []=>some []
 |q::r=>match nes[q]? with
  |some (.whole i)=>(match SR nes r with
   |some l=>some (i::l)
   |none=>none)
  |_=>none
theorem jU {nes:List NE} (E:Env):∀ (bk is:List Nat),SR nes bk=some is->bk.map (DY E nes)=is.map E.nm
 | [],is,h=>by simp only[SR,AY] at h;subst h;rfl
 |q::r,is,h=>by
  simp only[SR] at h
  split at h
  ·rename_i i hi
   split at h
   ·rename_i l hl
    simp only[AY] at h
    subst h
    simp only[K0,jU E r l hl]
    congr 1
    simp [DY,hi,NE.nm]
   ·cases h
  ·cases h
def G7 (ms:Nat->Nm):Env:={ nm:=ms,ds:=fun _=>undef,ins:=⟨fun k=>(ms k).ins.l⟩ }
def AWI (mI:List (Nat×Nat)) (l:List Nat) (w:World) (ms:Nat->Nm):Prop:=∀ q∈mI,(ms q.1).B5<w.heap.size/\(ms q.1).B5∉l∧
 ∃ arr ty fz,w.heap[(ms q.1).B5]? =some (.cells arr ty fz)/\arr[(ms q.1).off]? =some (.pointer (some ⟨(ms q.2).B5,(ms q.2).off,none⟩))
def CallsV (P:Program) (TB:Tb) (f:FuncId) (fi:FnI):Prop:=
 CalleeRuns P f/\∀ (x:HT fi.ps) (r:HT (fi.rs++fi.os)),fi.F x=some r->∀ (w:World) (G:Nat->Prop) (ms:Nat->Nm),(∀ b,G b->b<w.heap.size)→
  PS (⟨w,fun b=>b∈B6 fi.ps x ms,G⟩:DN TB) G w fi.ps x ms->(B6 fi.ps x ms).Nodup->(⟨w,fun b=>b∈B6 fi.ps x ms,G⟩:DN TB).Tab->AWI fi.mI (B6 fi.ps x ms) w ms→
  Calls P f (AK (G7 ms) (foldA fi.sh (outSVs fi.ps x 0))).toArray w (fun e w' =>∃ G' ms',e= .returned ((R3 (outSVs fi.rs (HT.left fi.rs fi.os r) 0)).den (G7 ms'))∧
   Rest w w' /\w.heap.size<=w'.heap.size/\(∀ b,b<w.heap.size->b∉B6 fi.ps x ms->w'.heap[b]? =w.heap[b]?)∧
   (∀ b,G b->G' b)/\(∀ b,G' b->G b\/w.heap.size<=b\/b∈B6 fi.ps x ms)/\(∀ b,G' b->b<w'.heap.size)∧
   PS (⟨w,fun b=>b∈B6 fi.ps x ms,G⟩:DN TB) G' w' (fi.rs++fi.os) r ms' /\(B6 (fi.rs++fi.os) r ms').Nodup∧
   (K4 fi.os (cnts fi.rs)).map ms' =fi.bk.map ms/\∀ q∈fi.pin,ms' q.1=ms q.2.2.1)
def UC:List CT->Nat
 | []=>0
 |d::r=>(match d.ptr with
  |true=>d.t.GN
  |false=>0)+UC r
def nameAt (i:Nat):List AW->CW
 |e::_=>[(i,e)]
 | []=>[]
def GP:(cs:List CT)->HT cs->Nat->List Nat->CW
 | [],_,_,_=>[]
 |_::_,_,_,[]=>[]
 |d::r,x,n,i::is=>match d.ptr with
  |true=>CK n (BY d.own d.t (HT.hd d r x))++ [(i,.box (HH d.t (HT.hd d r x) n))]++GP r (HT.tl d r x) (n+d.t.GN) is
  |false=>nameAt i (BY d.own d.t (HT.hd d r x))++GP r (HT.tl d r x) n is
def Ty.flat:Ty->Bool
 | .pair a b=>a.flat && b.flat
 | .slice a=>a.GN==0 && !a.o9
 |_=>true
def CT.good (d:CT):Bool:=d.t.GN==0||(d.own && d.t.flat)
def FnI.md (fi:FnI):PM:=match (fi.rs++fi.os).all CT.good with
 |true=> .Z0
 |false=> .dS
def rK (own:Bool):(t:Ty)->t.T->Bool
 | .pair a b,x=>rK own a x.1 && rK own b x.2
 | .slice a,x=>(x:List a.T).isEmpty||(own && a.GN==0 && !a.o9)
 |_,_=>true
def YE:(cs:List CT)->HT cs->Bool
 | [],_=>true
 |d::r,x=>rK d.own d.t (HT.hd d r x) && YE r (HT.tl d r x)
def H6 (AQ:Nat->Option AW) (base n:Nat):Bool:=(List.range n).all fun k=>match AQ (base+k) with
 |some .KI=>true
 |_=>false
def ABE (k:Nat):CW->Option AW->Option AW
 | [],o=>o
 |(n,e)::r,o=>ABE k r (if n=k then some e else o)
def uJ (k o:Nat):SV->SV
 | .MB j=>if j=k then .MB o else .MB j
 |v=>v
def pU (k o i:Nat) (u:CW):CW:=match ABE k u none,ABE o u none,ABE i u none with
 |some (.row t xs),some .dead,some (.box cs)=>u++ [(k,.dead),(o,.row t xs),(i,.box (cs.map (uJ k o)))]
 |_,_,_=>u
def TD (base:Nat) (nes:List NE) (on:List Nat):List (Nat×Nat×Nat×Nat)->CW->CW
 | [],u=>u
 |(_,b,j,jb)::r,u=>match nes[j]?,nes[jb]? with
  |some (.whole o),some (.whole i)=>(match on.contains o && on.contains i with
   |true=>TD base nes on r (pU (base+b) o i u)
   |false=>TD base nes on r u)
  |_,_=>TD base nes on r u
def AGQ (fi:FnI) (AQ:Nat->Option AW) (vs:List SV) (nes:List NE) (on:List Nat):Bool:=
 (gW fi.sh vs).all (fun q=>decide (cnts fi.ps<=q.1) && !on.contains q.2) && decide ((gW fi.sh vs).map (·.1)).Nodup &&
 fi.mI.all fun p=>(gW fi.sh vs).any (fun q=>q.1==p.1 && match ABC AQ q.2 with
  |some j=>cY nes[p.2]? j
  |none=>false)
def ALF (fi:FnI):Bool:=fi.pin.all fun q=>(Z4 fi.os (cnts fi.rs) (cnts fi.rs)).contains (q.1,q.2.1)
def nY (fi:FnI) (base:Nat) (AQ:Nat->Option AW) (args:List SV) {α:Type} (K:SV->CW->Option α):Option α:=
 match UB AQ fi.sh args with
 |none=>none
 |some us=>match IW fi.md AQ fi.ps us with
 |none=>none
 |some a=>match SR a.nes fi.bk with
  |none=>none
  |some is=>match okA a && H6 AQ base (cnts fi.rs+UC fi.os) && (is.length==fi.os.length) && fi.os.all okO && (decide is.Nodup && is.all (fun i=>a.on.contains i)) && ALF fi && AGQ fi AQ args a.nes a.on with
   |true=>(fi.F a.x).bind fun r=>K (R3 (outSVs fi.rs (HT.left fi.rs fi.os r) base))
     (TD base a.nes a.on fi.pin (a.C2++(D8 fi.rs (HT.left fi.rs fi.os r) base++GP fi.os (HT.right fi.rs fi.os r) (base+cnts fi.rs) is)))
   |false=>none
def vV (fi:FnI) (base:Nat) (AQ:Nat->Option AW) (args:List SV) {α:Type} (K:SV->CW->Option α):Option α:=
 match UB AQ fi.sh args with
 |none=>none
 |some us=>match IW .Z0 AQ fi.ps us with
 |none=>none
 |some a=>match SR a.nes fi.bk with
  |none=>none
  |some is=>match okA a && H6 AQ base (cnts fi.rs+UC fi.os) && (is.length==fi.os.length) && fi.os.all okO && (decide is.Nodup && is.all (fun i=>a.on.contains i)) && ALF fi && AGQ fi AQ args a.nes a.on with
   |true=>(fi.F a.x).bind fun r=>bif YE (fi.rs++fi.os) r then K (R3 (outSVs fi.rs (HT.left fi.rs fi.os r) base))
     (TD base a.nes a.on fi.pin (a.C2++(D8 fi.rs (HT.left fi.rs fi.os r) base++GP fi.os (HT.right fi.rs fi.os r) (base+cnts fi.rs) is)))
     else nY fi base AQ args K
   |false=>none
theorem PS.split {c:DN TB} {G:Nat->Prop} {w:World}:∀ (zas bs:List CT) (x:HT (zas++bs)) (ms:Nat->Nm),(PS c G w (zas++bs) x ms↔PS c G w zas (HT.left zas bs x) ms/\PS c G w bs (HT.right zas bs x) (fun k=>ms (cnts zas+k)))∧
  B6 (zas++bs) x ms=B6 zas (HT.left zas bs x) ms++B6 bs (HT.right zas bs x) (fun k=>ms (cnts zas+k))
 | [],bs,x,ms=>by simp [PS,B6,cnts,HT.right]
 |d::r,bs,x,ms=>by
  have hh:HT.hd d r (HT.left (d::r) bs x)=HT.hd d (r++bs) x:=by cases r <;> rfl
  have ht:HT.tl d r (HT.left (d::r) bs x)=HT.left r bs (HT.tl d (r++bs) x):=by cases r <;> rfl
  obtain⟨i1,i2⟩:=PS.split (c:=c) (G:=G) (w:=w) r bs (HT.tl d (r++bs) x) (fun k=>ms (d.cnt+k))
  have e:(fun k=>ms (cnts (d::r)+k))=(fun k=>ms (d.cnt+(cnts r+k))):=by
   funext k;simp [cnts,NI]
  have k1:PS c G w (d::r++bs) x ms↔F8 c G w d (HT.hd d (r++bs) x) ms/\PS c G w (r++bs) (HT.tl d (r++bs) x) (fun k=>ms (d.cnt+k)):=Iff.rfl
  have k2:PS c G w (d::r) (HT.left (d::r) bs x) ms↔F8 c G w d (HT.hd d r (HT.left (d::r) bs x)) ms/\PS c G w r (HT.tl d r (HT.left (d::r) bs x)) (fun k=>ms (d.cnt+k)):=Iff.rfl
  have k3:B6 (d::r++bs) x ms=ME d (HT.hd d (r++bs) x) ms++B6 (r++bs) (HT.tl d (r++bs) x) (fun k=>ms (d.cnt+k)):=rfl
  have k4:B6 (d::r) (HT.left (d::r) bs x) ms=ME d (HT.hd d r (HT.left (d::r) bs x)) ms++B6 r (HT.tl d r (HT.left (d::r) bs x)) (fun k=>ms (d.cnt+k)):=rfl
  have k5:HT.right (d::r) bs x=HT.right r bs (HT.tl d (r++bs) x):=rfl
  rw[hh,ht] at k2 k4
  refine⟨?_, ?_⟩
  ·rw[k1,k2,k5,e,i1,and_assoc]
  ·rw[k3,k4,k5,e,i2,I6]
theorem F8.cfg {c c' :DN TB} {G:Nat->Prop} {w:World} {d:CT} {x:d.t.T} {ms:Nat->Nm} (h:F8 c G w d x ms) (hc:∀ b,¬c.Old b->¬c'.Old b):F8 c' G w d x ms:=by
 refine⟨fun j e he=> ?_,fun hp=> ?_⟩
 ·have:=h.1 j e he
  cases e with
  |row t xs=>
   obtain⟨h1,h2,h3⟩:=this
   exact⟨h1,h2,h3.imp id fun ⟨a,b,c,d⟩=>⟨a,b,hc _ c,d⟩⟩
  |deep t xs q=>exact⟨this.1,this.2.cfg fun b hb=>hc _ (this.2.all b hb).2.1⟩
  |tree t1 t2 xs=>exact EX.cfg this fun b hb=>hc _ (this.all b hb).2.1
  |_=>exact this
 ·obtain⟨a,b,c,d,e⟩:=h.2 hp
  exact⟨a,b,c,hc _ d,e⟩
theorem PS.cfg {c c' :DN TB} {G:Nat->Prop} {w:World} (hc:∀ b,¬c.Old b->¬c'.Old b):∀ (cs:List CT) {x:HT cs} {ms:Nat->Nm},PS c G w cs x ms->PS c' G w cs x ms
 | [],_,_,_=>trivial
 |_::r,_,_,h=>⟨h.1.cfg hc,PS.cfg hc r h.2⟩
theorem Rp.flat {G G' :Nat->Prop} {w:World} (t:Ty) (ht:t.GN=0) (x:t.T) (vs:List Value) (h:Rp G w t x vs):Rp G' w t x vs:=by
 induction t generalizing vs with
 |pair a b T1 T3=>
  simp only[Ty.GN] at ht
  obtain⟨v1,v2,h0,h1,h2⟩:=h
  exact⟨v1,v2,h0,T1 (by omega) _ _ h1,T3 (by omega) _ _ h2⟩
 |slice a=>simp [Ty.GN] at ht
 |_=>exact h
theorem AJ1 {t:Ty} (hf:t.flat=true) {x:t.T} {o:Bool} {j:Nat} {e:AW} (he:(BY o t x)[j]? =some e):e= .dead\/∃ (a:Ty) (xs:List a.T),a.GN=0/\e=(if o=true then AW.row a xs else AW.shr a xs):=by
 induction t generalizing j with
 |pair a b T1 T3=>
  simp only[Ty.flat,G4] at hf
  simp only[BY] at he
  by_cases hk:j<(BY o a x.1).length
  ·rw[T6 hk] at he;exact T1 hf.1 he
  ·rw[T5 (by omega)] at he;exact T3 hf.2 he
 |slice a=>
  cases j with
  |zero=>
   simp only[BY,O1,AY] at he
   simp only[Ty.flat,G4,UH,RM] at hf
   obtain⟨ha,O4⟩:=hf
   refine .inr ⟨a,x,ha, ?_⟩
   rw[<-he];cases o
   ·rfl
   ·exact K1 O4 x
  |succ j=>simp [BY] at he
 |nf=>
  cases j with
  |zero=>simp only[BY,O1,AY] at he;exact .inl he.symm
  |succ j=>simp [BY] at he
 |_=>simp [BY] at he
theorem F8.good {c:DN TB} {G G' :Nat->Prop} {w:World} {d:CT} {x:d.t.T} {ms:Nat->Nm} (h:F8 c G w d x ms) (hd:d.good=true) (hg:∀ b,G' b->G b):F8 c G' w d x ms:=by
 refine⟨fun j e he=> ?_,fun hp=> ?_⟩
 ·have hm:=h.1 j e he
  simp only[CT.good,nS,G4,UH] at hd
  rcases hd with hd|⟨ho,hf⟩
  ·exfalso
   have:(BY d.own d.t x).length=0:=by rw[A_];exact hd
   rw[SO (by omega)] at he;cases he
  ·rcases AJ1 hf he with rfl|⟨a,xs,ha,rfl⟩
   ·trivial
   rw[ho] at hm ⊢
   obtain⟨h1,h2,h3⟩:=hm
   refine⟨h1,h2,h3.imp id ?_⟩
   rintro⟨p1,p2,p3,p4,arr,ty,p5,p6,p7⟩
   exact⟨p1,fun hx=>p2 (hg _ hx),p3,p4,arr,ty,p5,p6,p7.imp fun x vs hx=>Rp.flat a ha x vs hx⟩
 ·obtain⟨a,b,c,d,e⟩:=h.2 hp
  exact⟨a,b,fun hx=>c (hg _ hx),d,e⟩
theorem PS.good {c:DN TB} {G G' :Nat->Prop} {w:World} (hg:∀ b,G' b->G b):∀ (cs:List CT) {x:HT cs} {ms:Nat->Nm},cs.all CT.good=true->PS c G w cs x ms->PS c G' w cs x ms
 | [],_,_,_,_=>trivial
 |d::r,_,_,hd,h=>by
  simp only[List.all_cons,G4] at hd
  exact⟨h.1.good hd.1 hg,PS.good hg r hd.2 h.2⟩
theorem AEN {own:Bool}:∀ (t:Ty) (x:t.T) {j:Nat} {e:AW},rK own t x=true->(BY own t x)[j]? =some e->e= .dead\/∃ (a:Ty) (xs:List a.T),(e=(match own with|true=>IU a xs|false=> .shr a xs))/\(xs=[]\/(own=true/\a.GN=0/\a.o9=false)):=by
 intro t
 induction t with
 |pair a b T1 T3=>
  intro x j e h he
  simp only[rK,G4] at h
  simp only[BY] at he
  by_cases hk:j<(BY own a x.1).length
  ·rw[T6 hk] at he;exact T1 _ h.1 he
  ·rw[T5 (by omega)] at he;exact T3 _ h.2 he
 |slice a=>
  intro x j e h he
  cases j with
  |zero=>
   simp only[BY,O1,AY] at he
   refine .inr ⟨a,x,he.symm, ?_⟩
   simp only[rK,nS,G4,UH,RM] at h
   rcases h with h|⟨⟨h1,h2⟩,h3⟩
   ·exact .inl (List.isEmpty_iff.1 h)
   ·exact .inr ⟨h1,h2,h3⟩
  |succ j=>simp [BY] at he
 |nf=>
  intro x j e h he
  cases j with
  |zero=>simp only[BY,O1,AY] at he;exact .inl he.symm
  |succ j=>simp [BY] at he
 |_=>intro x j e h he;simp [BY] at he
theorem F8.AGR {c:DN TB} {G G' :Nat->Prop} {w:World} {d:CT} {x:d.t.T} {ms:Nat->Nm} (h:F8 c G w d x ms) (hd:rK d.own d.t x=true) (hg:∀ b,G' b->G b):F8 c G' w d x ms:=by
 refine⟨fun j e he=> ?_,fun hp=> ?_⟩
 ·have hm:=h.1 j e he
  rcases AEN d.t x hd he with rfl|⟨a,xs,rfl,hx⟩
  ·trivial
  cases ho:d.own with
  |false=>
   rw[ho] at hm
   rcases hx with rfl|⟨hx,_⟩
   ·obtain⟨h1,h2,_⟩:=hm
    exact⟨h1,h2,.inl rfl⟩
   ·rw[ho] at hx;cases hx
  |true=>
   rw[ho] at hm
   simp only at hm ⊢
   rcases hx with rfl|⟨_,ha,O4⟩
   ·cases a with
    |slice b=>
     obtain⟨e0,hm⟩:=hm
     refine⟨e0,⟨hm.len,hm.off,hm.nd,fun b hb=>⟨fun hx=>(hm.all b hb).1 (hg _ hx),(hm.all b hb).2⟩, ?_⟩⟩
     rcases hm.cs with hc|⟨q1,q2,q3,arr,ty,hs,q4,q5,q6,q7,q8,q9⟩
     ·exact .inl hc
     ·exact .inr ⟨q1,q2,q3,arr,ty,hs,q4,q5,q6,fun k xs hk=>by simp at hk,q8,q9⟩
    |kv=>exact hm.elim
    |pair a1 a2=>
     have key:∀ (q:AW),q=IU (.pair a1 a2) []->gU c G w (ms (d.pn+j)) q->gU c G' w (ms (d.pn+j)) q:=by
      intro q hq hm
      have vR:(∃ t1 t2,q= .tree t1 t2 [])\/q= .row (.pair a1 a2) []:=by
       rw[hq]
       cases a1 <;> cases a2 <;> first|exact .inr rfl|exact .inl ⟨_,_,rfl⟩
      rcases vR with ⟨t1,t2,rfl⟩|rfl
      ·exact EX.nil hm hg
      ·obtain⟨h1,h2,h3⟩:=hm
       refine⟨h1,h2,h3.imp id ?_⟩
       rintro⟨p1,p2,p3,p4,arr,ty,p5,p6,p7⟩
       exact⟨p1,fun hx=>p2 (hg _ hx),p3,p4,arr,ty,p5,p6,fun i x hx=>by simp at hx⟩
     exact key _ rfl hm
    |_=>
     obtain⟨h1,h2,h3⟩:=hm
     refine⟨h1,h2,h3.imp id ?_⟩
     rintro⟨p1,p2,p3,p4,arr,ty,p5,p6,p7⟩
     exact⟨p1,fun hx=>p2 (hg _ hx),p3,p4,arr,ty,p5,p6,fun i x hx=>by simp at hx⟩
   ·rw[K1 O4] at hm ⊢
    obtain⟨h1,h2,h3⟩:=hm
    refine⟨h1,h2,h3.imp id ?_⟩
    rintro⟨p1,p2,p3,p4,arr,ty,p5,p6,p7⟩
    exact⟨p1,fun hx=>p2 (hg _ hx),p3,p4,arr,ty,p5,p6,p7.imp fun x vs hx=>Rp.flat a ha x vs hx⟩
 ·obtain⟨a,b,c,d,e⟩:=h.2 hp
  exact⟨a,b,fun hx=>c (hg _ hx),d,e⟩
theorem PS.AGR {c:DN TB} {G G' :Nat->Prop} {w:World} (hg:∀ b,G' b->G b):∀ (cs:List CT) {x:HT cs} {ms:Nat->Nm},YE cs x=true->PS c G w cs x ms->PS c G' w cs x ms
 | [],_,_,_,_=>trivial
 |d::r,_,_,hd,h=>by
  simp only[YE,G4] at hd
  exact⟨h.1.AGR hd.1 hg,PS.AGR hg r hd.2 h.2⟩
theorem nZ:∀ (cs:List CT) {x:HT cs} {ms ms' :Nat->Nm},(∀ k,k<cnts cs->ms' k=ms k)->B6 cs x ms' =B6 cs x ms
 | [],_,_,_,_=>rfl
 |d::r,x,ms,ms',he=>by
  simp only[B6]
  rw[nZ r (ms:=fun k=>ms (d.cnt+k)) (ms' :=fun k=>ms' (d.cnt+k)) (fun k hk=>he _ (by simp [cnts];omega))]
  congr 1
  unfold ME
  congr 1
  ·cases hp:d.ptr with
   |true=>simp only;rw[he 0 (by simp [cnts,CT.cnt,CT.pn,hp];omega)]
   |false=>rfl
  ·exact QC _ fun k hk=>he _ (by rw[A_] at hk;simp [cnts,CT.cnt];omega)
theorem AS.after {c:DN TB} {G G' :Nat->Prop} {w w' :World} {E:Env} {L:AJ} (h:AS c G w E L) (hr:Rest w w') (hs:w.heap.size<=w'.heap.size) (hold:∀ b,c.Old b->w'.heap[b]? =w.heap[b]?)
  (hG:∀ b,G b->w'.heap[b]? =w.heap[b]?) (hg:∀ b,G b->G' b) (hgi:∀ b,G' b->b<w'.heap.size) (hgh:∀ b,G' b->G b\/¬c.Old b)
  (CO:∀ n e b,look L n=some e->e.ow E n b->w'.heap[b]? =w.heap[b]?∧¬G' b):AS c G' w' E L:=
 ⟨h.rest.trans hr,fX h.size hs,fun b hb=>(hold b hb).trans (h.old b hb),hgi,fun b hb=>hg b (h.glo b hb),fun b hb=>(hgh b hb).elim (h.ghi b) .inr,
  fun n e he=>(h.KY n e he).mono (fun _ h=>h) (fun _ _=>rfl) hG hg (fun b hb=>CO n e b he (.inl hb)) (fun ht b hb=>CO n e b he (AW.NR ht hb)),
  fun n t xss q he=>(h.dp n t xss q he).mono (fun _ h=>h) (fun _ _=>rfl) hG hg (fun b hb=>CO n _ b he (AW.FE.2 hb)),h.inj,h.tab⟩
theorem AS.rL {c:DN TB} {G:Nat->Prop} {w:World}:∀ (cs:List CT) {E:Env} {L:AJ} (x:HT cs) {n:Nat} {ms:Nat->Nm} (is:List Nat),AS c G w E L->cs.all okO=true->is.length=cs.length→
  is.Nodup->(∀ j,j<UC cs->look L (n+j)=some .KI)->(∀ i∈is,look L i=some .dead)->(K4 cs 0).map ms=is.map E.nm→
  PS c G w cs x ms->(B6 cs x ms).Nodup->(∀ b∈B6 cs x ms,H5 E L b)→
  ∃ E',AS c G w E' (AI L (GP cs x n is))/\(∀ k,Al L k->E'.nm k=E.nm k/\Al (AI L (GP cs x n is)) k)/\E'.ds=E.ds/\(∀ k,¬(n<=k/\k<n+UC cs)->k∉is->look (AI L (GP cs x n is)) k=look L k)/\∀ q∈Z4 cs 0 0,E'.nm (n+q.2)=ms q.1
 | [],E,L,x,n,ms,is,h,_,hl,_,_,_,_,_,_,_=>by
  exact⟨E,h,fun k hk=>⟨rfl,hk⟩,rfl,fun _ _ _=>rfl,fun q hq=>by cases hq⟩
 |d::r,E,L,x,n,ms,[],h,_,hl,_,_,_,_,_,_,_=>by simp at hl
 |d::r,E,L,x,n,ms,i::is,h,hp,hl,ATX,hrs,VX,U9,hps,H8,VK=>by
  simp only[List.all_cons,G4] at hp
  have shift:∀ (cs:List CT) (a b:Nat),(K4 cs (a+b))=(K4 cs b).map (fun k=>a+k):=by
   intro cs
   induction cs with
   |nil=>intros;rfl
   |cons e s ihs=>
    intro a b
    simp only[K4]
    rw[NI,ihs]
    simp
  have AGS:=T_.1 ATX
  have hi0:=VX i (by simp)
  cases hpt:d.ptr with
  |false=>
   obtain⟨t,ag,ow,pt⟩:=d
   simp only at hpt
   subst hpt
   have RL:=hp.1
   simp only[okO,Bool.false_or,G4,RM] at RL
   obtain⟨⟨rfl,rfl⟩,O4⟩:=RL
   cases t with
   |slice a=>
    obtain⟨⟨hc1, -⟩,ATY⟩:=hps
    have mJ:(CT.mk (.slice a) false true false).cnt=1:=rfl
    have O4:a.o9=false:=by simpa [Ty.vU] using O4
    have hen:BY true (.slice a) (HT.hd (CT.mk (.slice a) false true false) r x)=[.row a (HT.hd (CT.mk (.slice a) false true false) r x)]:=by
     show [IU a _]=_
     rw[K1 O4]
    have TE:gU c G w (ms 0) (.row a (HT.hd (CT.mk (.slice a) false true false) r x)):=hc1 0 _ (by show (BY true (.slice a) _)[0]? =_;rw[hen];rfl)
    have hoc:B6 (CT.mk (.slice a) false true false::r) x ms=((AW.row a (HT.hd (CT.mk (.slice a) false true false) r x)).own (ms 0)).toList++B6 r (HT.tl (CT.mk (.slice a) false true false) r x) (fun k=>ms (1+k)):=by
     show (([]++GB (BY true (.slice a) (HT.hd (CT.mk (.slice a) false true false) r x)) (fun j=>ms (0+j)))++_)=_
     rw[hen]
     show (([]++(((AW.row a (HT.hd (CT.mk (.slice a) false true false) r x)).own (ms 0)).toList++ []))++_)=_
     simp
     rfl
    rw[hoc] at H8 VK
    have VQ:=PL.1 H8
    simp only[K4,K0,jH] at U9
    obtain⟨ABF,ALG⟩:=U9
    have C7:=AP hi0
    have B4:=fun k=>AZ (q:=(i,AW.row a (HT.hd (CT.mk (.slice a) false true false) r x))) C7 k
    have hEi:E.set i (ms 0)=E:=by
     refine KL (fun k=> ?_) rfl (fun _=>rfl)
     by_cases hk:k=i
     ·subst hk;rw[Env.EE,ABF]
     ·exact Env.GO _ _ hk
    have h3:=h.change (i:=i) (e' := .row a (HT.hd (CT.mk (.slice a) false true false) r x)) (m:=ms 0) (w' :=w) C7 (.refl _) (ED _) (fun _=>ABF) rfl (fun _ _ _=>rfl)
     (fun b hb=>by have:=gU.rH (e:= .row a _) TE (AW.AB7 hb);exact⟨this.1,this.2.1⟩)
     (by
      intro k f hk hf b hb he
      exact VK b (EV.2 (.inl (by rw[he];simp))) k f hf hb)
     (by intro _;exact TE)
    rw[hEi] at h3
    have ATZ:∀ b∈B6 r (HT.tl (CT.mk (.slice a) false true false) r x) (fun k=>ms (1+k)),H5 E (C5 L (i,AW.row a (HT.hd (CT.mk (.slice a) false true false) r x))) b:=by
     intro b hb k f hf PN
     rw[B4] at hf
     by_cases gA:k=i
     ·subst gA
      simp only[GA,AY] at hf;subst hf
      rw[AW.cU rfl,←ABF] at PN
      exact VQ.2.2 b (by rw[PN];simp) b hb rfl
     ·rw[AB gA] at hf
      exact VK b (EV.2 (.inr hb)) k f hf PN
    have AEO :(K4 r 0).map (fun k=>ms (1+k))=is.map E.nm:=by
     rw[<-ALG]
     have e:=shift r 1 0
     rw[L3] at e
     rw[mJ,I7,e,S8]
     rfl
    obtain⟨E',k1,k2,k3,k4,k5⟩:=AS.rL r (HT.tl (CT.mk (.slice a) false true false) r x) (n:=n) (ms:=fun k=>ms (1+k)) is h3 hp.2 (by simpa using hl) AGS.2
     (by
      intro j hj
      rw[B4]
      have hr:=hrs j (by simp [UC];omega)
      have CJ:¬(n+j=i):=by
       intro hx;rw[hx,hi0] at hr;cases hr
      rw[AB CJ];exact hr)
     (by
      intro k hk
      have gA:¬k=i:=fun hx=>AGS.1 (hx ▸ hk)
      rw[B4,AB gA];exact VX k (by simp [hk]))
     AEO ATY VQ.2.1 ATZ
    have eu:AI L (GP (CT.mk (.slice a) false true false::r) x n (i::is))=AI (C5 L (i,AW.row a (HT.hd (CT.mk (.slice a) false true false) r x))) (GP r (HT.tl (CT.mk (.slice a) false true false) r x) n is):=by
     simp only[GP,BG]
     rw[show nameAt i (BY (CT.mk (.slice a) false true false).own (CT.mk (.slice a) false true false).t (HT.hd (CT.mk (.slice a) false true false) r x))=[(i,AW.row a (HT.hd (CT.mk (.slice a) false true false) r x))] from by rw[hen];rfl]
     rfl
    rw[eu]
    refine⟨E',k1,fun k hk=>k2 k (BM rfl k hk),k3,fun k hk AEP=> ?_,fun q hq=> ?_⟩
    ·simp only[UC] at hk
     simp only[F7,not_or] at AEP
     rw[k4 k (by omega) AEP.2,B4,AB AEP.1]
    ·have e:=QD r 1 0 0 0
     simp only[Z4,mJ] at hq
     rw[L3,L3] at e
     rw[I7,e] at hq
     obtain⟨q',O5,rfl⟩:=C0.1 hq
     have:=k5 q' O5
     simp only[I7]
     exact this
   |_=>simp [Ty.vU] at O4
  |true=>
  have hpn:d.pn=1:=by simp [CT.pn,hpt]
  have mJ:d.cnt=1+d.t.GN:=by simp [CT.cnt,hpn]
  obtain⟨⟨hc1,hc2⟩,ATY⟩:=hps
  obtain⟨b1,b2,b3,b4,ty,b5⟩:=hc2 hpt
  rw[hpn] at hc1 b5
  have VQ:=PL.1 H8
  have hoc:ME d (HT.hd d r x) ms=(ms 0).B5::GB (BY d.own d.t (HT.hd d r x)) (fun j=>ms (1+j)):=by
   unfold ME;rw[hpn,hpt];rfl
  rw[hoc] at VQ
  simp only[K4,K0,jH] at U9
  obtain⟨ABF,ALG⟩:=U9
  have ALH:=T_.1 VQ.1
  have O4:∀ j,j<d.t.GN->look L (n+j)=some .KI:=fun j hj=>hrs j (by simp [UC,hpt];omega)
  obtain⟨h1,h2⟩:=h.jQ (BY d.own d.t (HT.hd d r x)) (n:=n) (ms:=fun j=>ms (1+j)) (fun j hj=>O4 j (by rw[A_] at hj;exact hj)) hc1 ALH.2
   (fun b hb=>VK b (EV.2 (.inl (by rw[hoc];exact S7 _ hb))))
  rw[A_] at h1 h2
  have AZD:¬(n<=i/\i<n+d.t.GN):=by
   intro hx
   have:=O4 (i-n) (by omega)
   have e:n+(i-n)=i:=by omega
   rw[e,hi0] at this;cases this
  have hi1:look (AI L (CK n (BY d.own d.t (HT.hd d r x)))) i=some .dead:=by rw[h2,AB AZD];exact hi0
  have C7:=AP hi1
  have B4:=fun k=>AZ (q:=(i,AW.box (HH d.t (HT.hd d r x) n))) C7 k
  have hEi:(E.put n d.t.GN (fun j=>ms (1+j))).nm i=ms 0:=by
   rw[Env.UM _ _ _ _ (by omega),←ABF]
  have AJ2:∀ k,Al L k->Al (AI L (CK n (BY d.own d.t (HT.hd d r x)))) k:=by
   intro k hk
   by_cases hkn:n<=k/\k<n+d.t.GN
   ·exfalso
    have:=O4 (k-n) (by omega)
    have e:n+(k-n)=k:=by omega
    rw[e] at this
    exact EF this hk
   ·obtain⟨e,rJ,he2⟩:=hk
    exact⟨e,by rw[h2,AB hkn];exact rJ,he2⟩
  have nW:KJ (E.put n d.t.GN (fun j=>ms (1+j))) (C5 (AI L (CK n (BY d.own d.t (HT.hd d r x)))) (i,AW.box (HH d.t (HT.hd d r x) n))) (HH d.t (HT.hd d r x) n):=by
   refine rI _ _ _ fun j hj=>BM rfl _ ?_
   have C7:j<(BY d.own d.t (HT.hd d r x)).length:=by rw[A_];exact hj
   refine⟨(BY d.own d.t (HT.hd d r x))[j], ?_,VP (NB C7)⟩
   rw[h2,AA ⟨by omega,by omega⟩]
   have e:n+j-n=j:=by omega
   rw[e,NB C7]
  have AWJ:(E.put n d.t.GN (fun j=>ms (1+j))).set i (ms 0)=E.put n d.t.GN (fun j=>ms (1+j)):=by
   refine KL (fun k=> ?_) rfl (fun _=>rfl)
   by_cases hk:k=i
   ·subst hk;rw[Env.EE,hEi]
   ·exact Env.GO _ _ hk
  have h3:=h1.change (i:=i) (e' := .box (HH d.t (HT.hd d r x) n)) (m:=ms 0) (w' :=w) C7 (.refl _) (ED _) (fun _=>hEi.symm) rfl (fun _ _ _=>rfl)
   (fun b hb=>by simp only[AW.own,AY] at hb;subst hb;exact⟨b4,b3⟩)
   (by
    intro k f hk hf b hb he
    simp only[AW.own,AY] at he
    subst he
    rw[h2] at hf
    by_cases N9:n<=k/\k<n+d.t.GN
    ·rw[AA N9] at hf
     have e:k=n+(k-n):=by omega
     rw[e,AW.Z1 (by omega)] at hb
     exact ALH.1 (HF _ _ (fun j=>ms (1+j)) hf hb)
    ·rw[AB N9] at hf
     rw[AW.mG (by omega)] at hb
     exact VK _ (EV.2 (.inl (by rw[hoc];simp))) k f hf hb)
   (by
    intro _
    rw[AWJ]
    refine⟨b1,b2,b3,b4,⟨ty, ?_⟩,nW⟩
    rw[b5,UL]
    congr 3
    apply GZ
    intro j hj
    exact (Env.gV E n d.t.GN (fun j=>ms (1+j)) hj).symm)
  rw[AWJ] at h3
  have ATZ:∀ b∈B6 r (HT.tl d r x) (fun k=>ms (d.cnt+k)),H5 (E.put n d.t.GN (fun j=>ms (1+j))) (C5 (AI L (CK n (BY d.own d.t (HT.hd d r x)))) (i,AW.box (HH d.t (HT.hd d r x) n))) b:=by
   intro b hb k f hf PN
   rw[B4] at hf
   by_cases gA:k=i
   ·subst gA
    simp only[GA,AY] at hf;subst hf
    rw[AW.cU rfl,hEi] at PN
    simp only[AW.own,AY] at PN
    exact VQ.2.2 _ (by simp) b hb PN
   ·rw[AB gA,h2] at hf
    by_cases N9:n<=k/\k<n+d.t.GN
    ·rw[AA N9] at hf
     have e:k=n+(k-n):=by omega
     rw[e,AW.Z1 (by omega)] at PN
     exact VQ.2.2 b (S7 _ (HF _ _ (fun j=>ms (1+j)) hf PN)) b hb rfl
    ·rw[AB N9] at hf
     rw[AW.mG (by omega)] at PN
     exact VK b (EV.2 (.inr hb)) k f hf PN
  have AEO :(K4 r 0).map (fun k=>ms (d.cnt+k))=is.map E.nm:=by
   rw[<-ALG]
   have e:=shift r d.cnt 0
   rw[L3] at e
   rw[I7,e,S8]
   rfl
  obtain⟨E',k1,k2,k3,k4,k5⟩:=AS.rL r (HT.tl d r x) (n:=n+d.t.GN) (ms:=fun k=>ms (d.cnt+k)) is h3 hp.2 (by simpa using hl) AGS.2
   (by
    intro j hj
    rw[B4]
    have hr:=hrs (d.t.GN+j) (by simp [UC,hpt];omega)
    rw[<-NI] at hr
    have CJ:¬(n+d.t.GN+j=i):=by
     intro hx;rw[hx,hi0] at hr;cases hr
    rw[AB CJ,h2,AB (by omega)]
    exact hr)
   (by
    intro k hk
    have gA:¬k=i:=fun hx=>AGS.1 (hx ▸ hk)
    have hd:=VX k (by simp [hk])
    rw[B4,AB gA,h2,AB]
    ·exact hd
    ·intro hx
     have:=O4 (k-n) (by omega)
     have e:n+(k-n)=k:=by omega
     rw[e,hd] at this;cases this)
   (by
    rw[AEO]
    apply T7
    intro k hk
    have hd:=VX k (by simp [hk])
    refine (Env.UM _ _ _ _ ?_).symm
    rcases GY k n with C7|hge
    ·exact .inl C7
    ·right
     rcases GY k (n+d.t.GN) with AEJ|ALB
     ·exfalso
      have:=O4 (k-n) (by omega)
      have e:n+(k-n)=k:=by omega
      rw[e,hd] at this;cases this
     ·exact ALB) ATY VQ.2.1 ATZ
  have eu:AI L (GP (d::r) x n (i::is))=AI (C5 (AI L (CK n (BY d.own d.t (HT.hd d r x)))) (i,AW.box (HH d.t (HT.hd d r x) n))) (GP r (HT.tl d r x) (n+d.t.GN) is):=by
   simp only[GP,hpt,BG]
   rfl
  rw[eu]
  refine⟨E',k1,fun k hk=> ?_,by rw[k3];rfl,fun k hk AEP=> ?_,fun q hq=> ?_⟩
  ·obtain⟨q1,q2⟩:=k2 k (BM rfl k (AJ2 k hk))
   refine⟨q1.trans (Env.UM _ _ _ _ ?_),q2⟩
   rcases GY k n with C7|hge
   ·exact .inl C7
   ·right
    rcases GY k (n+d.t.GN) with AEJ|ALB
    ·exfalso
     have:=O4 (k-n) (by omega)
     have e:n+(k-n)=k:=by omega
     rw[e] at this
     exact EF this hk
    ·exact ALB
  ·simp only[UC,hpt] at hk
   simp only[F7,not_or] at AEP
   rw[k4 k (by omega) AEP.2,B4,AB AEP.1,h2,AB (by omega)]
  ·simp only[Z4,hpt] at hq
   rcases EV.1 hq with hq|hq
   ·obtain⟨j,hj,rfl⟩:=C0.1 hq
    have hj:=l9.1 hj
    simp only[I7]
    have AWK:j<(BY d.own d.t (HT.hd d r x)).length:=by rw[A_];exact hj
    have NS:Al (AI L (CK n (BY d.own d.t (HT.hd d r x)))) (n+j):=by
     refine⟨(BY d.own d.t (HT.hd d r x))[j], ?_,VP (NB AWK)⟩
     rw[h2,AA ⟨by omega,by omega⟩]
     have e:n+j-n=j:=by omega
     rw[e,NB AWK]
    rw[(k2 (n+j) (BM rfl _ NS)).1,Env.gV _ _ _ _ hj]
   ·have e:=QD r d.cnt d.t.GN 0 0
    rw[L3,L3] at e
    rw[I7,I7,e] at hq
    obtain⟨q',O5,rfl⟩:=C0.1 hq
    have:=k5 q' O5
    rw[NI] at this
    exact this
end Go.V3
namespace Go.V3
open Go
variable {TB:Tb}
def Hd (c:DN TB) (w:World) (E:Env) (L:AJ):Prop:=∃ G,AS c G w E L
theorem vW {b:Nat}:∀ (es:List AW) (ms:Nat->Nm),b∈GB es ms->∃ (j:Nat) (e:AW),es[j]? =some e/\b∈e.VO (ms j)
 | [],ms,h=>by simp [GB] at h
 |e::r,ms,h=>by
  simp only[GB] at h
  rcases EV.1 h with h|h
  ·exact⟨0,e,rfl,h⟩
  ·obtain⟨j,f,h1,h2⟩:=vW r _ h
   exact⟨j+1,f,by simpa using h1,h2⟩
theorem F8.rH {c:DN TB} {G:Nat->Prop} {w:World} {d:CT} {x:d.t.T} {ms:Nat->Nm} (h:F8 c G w d x ms) {b:Nat} (hb:b∈ME d x ms):¬c.Old b/\¬G b/\b<w.heap.size:=by
 unfold ME at hb
 rcases EV.1 hb with hb|hb
 ·cases hp:d.ptr with
  |true=>
   rw[hp] at hb
   simp only[F6] at hb
   subst hb
   obtain⟨h1,h2,h3,h4,ty,h5⟩:=h.2 hp
   refine⟨h4,h3, ?_⟩
   rcases GY (ms 0).B5 w.heap.size with h6|h6
   ·exact h6
   ·rw[AAR h6] at h5;cases h5
  |false=>rw[hp] at hb;cases hb
 ·obtain⟨j,e,h1,h2⟩:=vW _ _ hb
  exact (h.1 j e h1).rH h2
theorem PS.rH {c:DN TB} {G:Nat->Prop} {w:World} {b:Nat}:∀ (cs:List CT) {x:HT cs} {ms:Nat->Nm},PS c G w cs x ms->b∈B6 cs x ms->¬c.Old b/\¬G b/\b<w.heap.size
 | [],_,_,_,hb=>by cases hb
 |d::r,_,_,h,hb=>by
  rcases EV.1 hb with hb|hb
  ·exact h.1.rH hb
  ·exact PS.rH r h.2 hb
theorem F8.io {c:DN TB} {G:Nat->Prop} {w:World} {d:CT} {x:d.t.T} {ms:Nat->Nm} (h:F8 c G w d x ms) (c' :DN TB) (hc:∀ b∈ME d x ms,¬c'.Old b):F8 c' G w d x ms:=by
 refine⟨fun j e he=> ?_,fun hp=> ?_⟩
 ·have hm:=h.1 j e he
  cases e with
  |row t xs=>
   obtain⟨h1,h2,h3⟩:=hm
   refine⟨h1,h2,h3.imp id fun ⟨a,b,_,d'⟩=>⟨a,b,hc _ ?_,d'⟩⟩
   refine EV.2 (.inr (HF _ j _ he (AW.AB7 ?_)))
   simp [AW.own,a]
  |deep t xs q=>exact⟨hm.1,hm.2.cfg fun b hb=>hc b (EV.2 (.inr (HF _ j _ he hb)))⟩
  |tree t1 t2 xs=>exact EX.cfg hm fun b hb=>hc b (EV.2 (.inr (HF _ j _ he hb)))
  |_=>exact hm
 ·obtain⟨a,b,c1,d1,e⟩:=h.2 hp
  refine⟨a,b,c1,hc _ ?_,e⟩
  unfold ME
  rw[hp]
  simp
theorem PS.io {c:DN TB} {G:Nat->Prop} {w:World} (c' :DN TB):∀ (cs:List CT) {x:HT cs} {ms:Nat->Nm},PS c G w cs x ms->(∀ b∈B6 cs x ms,¬c'.Old b)->PS c' G w cs x ms
 | [],_,_,_,_=>trivial
 |d::r,_,_,h,hc=>⟨h.1.io c' fun b hb=>hc b (EV.2 (.inl hb)),PS.io c' r h.2 fun b hb=>hc b (EV.2 (.inr hb))⟩
theorem AJ3 (d:CT) (x:d.t.T) {E E2:Env} {n m:Nat} (h:∀ k,k<d.cnt->E.nm (n+k)=E2.nm (m+k)):(R2 d x n).den E=(R2 d x m).den E2:=by
 unfold CT.cnt CT.pn at h
 unfold R2
 cases hp:d.ptr with
 |true=>
  rw[hp] at h
  have h0:=h 0 (by simp;omega)
  simp only[L3] at h0
  simp only[SV.den,h0]
 |false=>
  rw[hp] at h
  simp only[I7] at h
  have hu:AK E (HH d.t x n)=AK E2 (HH d.t x m):=by
   rw[UL,UL]
   exact GZ _ _ fun k hk=>h k hk
  cases d.agg with
  |true=>simp only[SV.den,hu]
  |false=>
   simp only
   cases h1:HH d.t x n with
   |nil=>
    have:(HH d.t x n).length=(HH d.t x m).length:=by rw[EL,EL]
    rw[h1] at this
    cases h2:HH d.t x m with
    |nil=>rfl
    |cons _ _=>rw[h2] at this;simp at this
   |cons v r=>
    cases h2:HH d.t x m with
    |nil=>
     have:(HH d.t x n).length=(HH d.t x m).length:=by rw[EL,EL]
     rw[h1,h2] at this;simp at this
    |cons v' r' =>
     rw[h1,h2] at hu
     simp only[AK,jH] at hu
     exact hu.1
theorem gX:∀ (cs:List CT) (x:HT cs) {E E2:Env} {n m:Nat},(∀ k,k<cnts cs->E.nm (n+k)=E2.nm (m+k))->AK E (outSVs cs x n)=AK E2 (outSVs cs x m)
 | [],_,_,_,_,_,_=>rfl
 |d::r,x,E,E2,n,m,h=>by
  simp only[outSVs,AK]
  rw[AJ3 d _ (fun k hk=>h k (by simp [cnts];omega)),gX r _ (n:=n+d.cnt) (m:=m+d.cnt) (fun k hk=>by rw[NI,NI];exact h _ (by simp [cnts];omega))]
theorem vX {l l2:List SV} {E E2:Env} (h:AK E l=AK E2 l2):(R3 l).den E=(R3 l2).den E2:=by
 match l,l2 with
 | [],[]=>rfl
 | [],_::_=>simp [AK] at h
 |_::_,[]=>simp [AK] at h
 | [v],[v2]=>simp only[AK,jH] at h;exact h.1
 | [v],_::_::_=>simp [AK] at h
 |_::_::_,[v]=>simp [AK] at h
 |_::_::_,_::_::_=>simp only[R3,SV.den,h]
theorem ALI {l:List SV} {E:Env} {L:AJ} (h:KJ E L l):(R3 l).wf E L:=by
 match l with
 | []=>exact h
 | [v]=>exact h.1
 |_::_::_=>exact h
theorem CM {AQ:Nat->Option AW} {base n:Nat} (h:H6 AQ base n=true):∀ j,j<n->AQ (base+j)=some .KI:=by
 intro j hj
 simp only[H6,J9,l9] at h
 have:=h j hj
 split at this
 ·assumption
 ·cases this
theorem jV (j:Nat):∀ (u:CW) (L:AJ) (o:Option AW) {e:AW},(∀ e,o=some e->look L j=some e)->j<L.length->ABE j u o=some e->look (AI L u) j=some e
 | [],L,o,e,ho,_,h=>ho e h
 |(n,f)::r,L,o,e,ho,hj,h=>by
  refine jV j r (C5 L (n,f)) _ (fun e' h' => ?_) (by rw[FK];exact hj) h
  split at h'
  ·rename_i hn
   subst hn
   simp only[AY] at h'
   subst h'
   rw[AZ hj,AA rfl]
  ·rename_i hn
   have:=ho e' h'
   by_cases hq:n<L.length
   ·rw[AZ hq,AB (fun he=>hn he.symm)];exact this
   ·unfold C5
    rw[SO (by simpa using hq)]
    exact this
theorem ALJ {E:Env} {k o:Nat} (h:E.nm k=E.nm o) (v:SV):(uJ k o v).den E=v.den E:=by
 cases v with
 |MB j=>
  simp only[uJ]
  split
  ·rename_i hj;subst hj;simp only[SV.den,h]
  ·rfl
 |_=>rfl
theorem AQ1 {E:Env} {L:AJ} {k o:Nat} (h:Al L o) {v:SV} (hv:v.wf E L):(uJ k o v).wf E L:=by
 cases v with
 |MB j=>
  simp only[uJ]
  split
  ·exact h
  ·exact hv
 |_=>exact hv
theorem Z5 (E:Env) (i:Nat):E.set i (E.nm i)=E:=by
 refine KL (fun k=> ?_) rfl (fun _=>rfl)
 by_cases hk:k=i
 ·subst hk;rw[Env.EE]
 ·exact E.GO _ hk
theorem AS.VY {c:DN TB} {G:Nat->Prop} {w:World} {E:Env} {L:AJ} (h:AS c G w E L) {k o:Nat} {t:Ty} {xs:List t.T} (hk:look L k=some (.row t xs)) (ho:look L o=some .dead) (he:E.nm k=E.nm o):
  AS c G w E (C5 (C5 L (k,.dead)) (o,.row t xs)):=by
 have yF:=AP hk
 have hol:=AP ho
 have CJ:o≠k:=by intro hx;subst hx;rw[hk] at ho;cases ho
 have h1:=h.kill yF
 have CO:∀ b,(AW.row t xs).own (E.nm o)=some b->(AW.row t xs).ow E k b:=fun b hb=> .inl (by rw[he];exact hb)
 have h2:=h1.change (i:=o) (e' := .row t xs) (m:=E.nm o) (w' :=w) (by rw[FK];exact hol) (.refl _) (ED _) (fun _=>rfl) rfl (fun _ _ _=>rfl)
  (fun b hb=>⟨(h.O3 hk (CO b hb)).2.1,(h.O3 hk (CO b hb)).1⟩)
  (fun n f hn hf b hb hx=>by
   rw[AZ yF] at hf
   by_cases hnk:n=k
   ·rw[AA hnk] at hf
    simp only[AY] at hf
    subst hf
    rcases hb with hb|⟨hb,_⟩|⟨hb,_⟩ <;> cases hb
   ·rw[AB hnk] at hf
    exact h.inj n k f _ b hnk hf hk hb (CO b hx))
  (fun _=>by
   have:=h.KY k _ hk
   rw[he] at this
   exact this)
 rw[Z5] at h2
 exact h2
theorem AS.AWL {c:DN TB} {G:Nat->Prop} {w:World} {E:Env} {L:AJ} (h:AS c G w E L) {i:Nat} {cs gR :List SV} (hi:look L i=some (.box cs)) (hd:AK E gR =AK E cs) (hw:KJ E (C5 L (i,.box gR)) gR):
  AS c G w E (C5 L (i,.box gR)):=by
 obtain⟨h1,h2,h3,h4,⟨ty,h5⟩,h6⟩:=h.KY i _ hi
 have:=h.change (i:=i) (e' := .box gR) (m:=E.nm i) (w' :=w) (AP hi) (.refl _) (ED _) (fun _=>rfl) rfl (fun _ _ _=>rfl)
  (fun b hb=>by simp only[AW.own,AY] at hb;subst hb;exact⟨h4,h3⟩)
  (fun k f hk hf b hb he=>h.inj k i f (.box cs) b hk hf hi hb (.inl (by simpa [AW.own] using he)))
  (fun _=>by rw[Z5];exact⟨h1,h2,h3,h4,⟨ty,by rw[hd];exact h5⟩,hw⟩)
 rw[Z5] at this
 exact this
theorem vY {c:DN TB} {G:Nat->Prop} {w:World} {E:Env} {L:AJ} (h:AS c G w E L) {k o i:Nat} {t:Ty} {xs:List t.T} {cs:List SV} (hk:look L k=some (.row t xs)) (ho:look L o=some .dead) (hi:look L i=some (.box cs)) (he:E.nm k=E.nm o):
  AS c G w E (AI L [(k,.dead),(o,.row t xs),(i,.box (cs.map (uJ k o)))])/\∀ n,Al L n->Al (AI L [(k,.dead),(o,.row t xs),(i,.box (cs.map (uJ k o)))]) n:=by
 have h1:=h.VY hk ho he
 have c_:i≠k:=by intro hx;subst hx;rw[hk] at hi;cases hi
 have hio:i≠o:=by intro hx;subst hx;rw[ho] at hi;cases hi
 have hi1:look (C5 (C5 L (k,.dead)) (o,.row t xs)) i=some (.box cs):=by
  rw[AZ (by rw[FK];exact AP ho),AB hio,AZ (AP hk),AB c_];exact hi
 have l6:∀ n,Al (C5 (C5 L (k,.dead)) (o,.row t xs)) n->Al (C5 (C5 (C5 L (k,.dead)) (o,.row t xs)) (i,.box (cs.map (uJ k o)))) n:=fun n hn=>BM rfl n hn
 have AU0:∀ n,Al L n->Al (C5 (C5 L (k,.dead)) (o,.row t xs)) n:=fun n hn=>BM rfl n (BM rfl n hn)
 have gY:AK E (cs.map (uJ k o))=AK E cs:=by
  rw[EW,EW,S8]
  apply T7
  intro v _
  exact ALJ he v
 have nW:=(h.KY i _ hi).2.2.2.2.2
 refine⟨h1.AWL hi1 gY (BP.2 fun v hv=> ?_),fun n hn=>l6 n (AU0 n hn)⟩
 obtain⟨u,hu,rfl⟩:=C0.1 hv
 refine AQ1 (l6 o (AU0 o ⟨_,ho,rfl⟩)) ?_
 exact (W2 (fun n hn=>l6 n (AU0 n hn)) (fun _ _=>rfl) u (BP.1 nW u hu)).1
theorem AEQ {c:DN TB} {w:World} {E:Env} {L:AJ} {u:CW} (h:Hd c w E (AI L u)) {k o i:Nat} (he:E.nm k=E.nm o) (hk:k<L.length) (ho:o<L.length) (hi:i<L.length):
  Hd c w E (AI L (pU k o i u))/\∀ n,Al (AI L u) n->Al (AI L (pU k o i u)) n:=by
 unfold pU
 split
 ·rename_i t xs cs h1 h2 h3
  obtain⟨G,hG⟩:=h
  obtain⟨r1,r2⟩:=vY hG (jV k u L none (fun _ hx=>by cases hx) hk h1) (jV o u L none (fun _ hx=>by cases hx) ho h2) (jV i u L none (fun _ hx=>by cases hx) hi h3) he
  rw[BG]
  exact⟨⟨G,r1⟩,r2⟩
 ·exact⟨h,fun _ hn=>hn⟩
theorem dA {c:DN TB} {w:World} {E:Env} {L:AJ} {base:Nat} {nes:List NE} {on:List Nat} (hon:∀ i∈on,i<L.length):∀ (pins:List (Nat×Nat×Nat×Nat)) (u:CW),Hd c w E (AI L u)→
  (∀ q∈pins,base+q.2.1<L.length/\∀ o∈on,nes[q.2.2.1]? =some (.whole o)->E.nm (base+q.2.1)=E.nm o)→
  Hd c w E (AI L (TD base nes on pins u))/\∀ n,Al (AI L u) n->Al (AI L (TD base nes on pins u)) n
 | [],u,h,_=>⟨h,fun _ hn=>hn⟩
 |(a,b,j,jb)::r,u,h,hp=>by
  unfold TD
  obtain⟨p1,p2⟩:=hp _ (by simp:(a,b,j,jb)∈(a,b,j,jb)::r)
  split
  ·rename_i o i h1 h2
   split
   ·rename_i hc
    simp only[G4,List.contains_iff_mem] at hc
    obtain⟨q1,q2⟩:=AEQ h (p2 o hc.1 h1) p1 (hon o hc.1) (hon i hc.2)
    obtain⟨r1,r2⟩:=dA hon r _ q1 (fun q hq=>hp q (by simp [hq]))
    exact⟨r1,fun n hn=>r2 n (q2 n hn)⟩
   ·exact dA hon r _ h (fun q hq=>hp q (by simp [hq]))
  ·exact dA hon r _ h (fun q hq=>hp q (by simp [hq]))
set_option maxHeartbeats 1000000 in
theorem vZ {P:Program} {fi:FnI} {base:Nat} {AQ:Nat->Option AW} {args us:List SV} {md:PM} (rG:md≠ .own) (hus:UB AQ fi.sh args=some us) {a:K3 (HT fi.ps)} (hp:IW md AQ fi.ps us=some a)
  {is:List Nat} (hbk:SR a.nes fi.bk=some is)
  (hck:(okA a && H6 AQ base (cnts fi.rs+UC fi.os) && (is.length==fi.os.length) && fi.os.all okO && (decide is.Nodup && is.all (fun i=>a.on.contains i)) && ALF fi && AGQ fi AQ args a.nes a.on)=true)
  {r:HT (fi.rs++fi.os)} (hr:fi.F a.x=some r) (AWM:md= .dS\/YE (fi.rs++fi.os) r=true\/(fi.rs++fi.os).all CT.good=true) {f:FuncId} (hc:CallsV P TB f fi)
  {L:AJ} (B4:∀ n e,AQ n=some e->look L n=some e) {c:DN TB} {w:World} {E:Env} (hh:Hd c w E L) (hw:KJ E L args):
  Calls P f (AK E args).toArray w (fun e w' =>∃ E',e= .returned ((R3 (outSVs fi.rs (HT.left fi.rs fi.os r) base)).den E')∧
   Hd c w' E' (AI L (TD base a.nes a.on fi.pin (a.C2++(D8 fi.rs (HT.left fi.rs fi.os r) base++GP fi.os (HT.right fi.rs fi.os r) (base+cnts fi.rs) is))))∧
   (∀ n,Al L n->E'.nm n=E.nm n/\Al (AI L (TD base a.nes a.on fi.pin (a.C2++(D8 fi.rs (HT.left fi.rs fi.os r) base++GP fi.os (HT.right fi.rs fi.os r) (base+cnts fi.rs) is)))) n)/\E'.ds=E.ds∧
   (R3 (outSVs fi.rs (HT.left fi.rs fi.os r) base)).wf E' (AI L (TD base a.nes a.on fi.pin (a.C2++(D8 fi.rs (HT.left fi.rs fi.os r) base++GP fi.os (HT.right fi.rs fi.os r) (base+cnts fi.rs) is))))):=by
 obtain⟨G,hG⟩:=hh
 have ABG:∀ i j,ABC AQ i=some j->look L i=some (.box [.loc j 0])/\Al L j:=by
  intro i j h
  unfold ABC at h
  split at h
  ·rename_i j' hl
   simp only[AY] at h;subst h
   exact⟨B4 _ _ hl,(hG.KY i _ (B4 _ _ hl)).2.2.2.2.2.1⟩
  ·cases h
 have hw:=pT (fun i j h=>(ABG i j h).2) _ _ _ hus hw
 simp only[G4,UH,IQ,J9 (p:=fun i=>a.on.contains i),List.contains_iff_mem] at hck
 obtain⟨⟨⟨⟨⟨⟨RL,DC⟩,hlen⟩,AQ2⟩,ATX,AWN⟩,AU1⟩,AWO⟩:=hck
 obtain⟨G1,G2,t1,t2,t3,t4,t5,t6,t7,t8,t9,t10,t11⟩:=hG.take rG B4 hp RL hw
 have v_:=fun j hj=>B4 _ _ (CM DC j hj)
 obtain⟨n1,n2⟩:=Z2 rG _ _ _ hp
 have AU2:∀ k,look L k=some .KI->k∉a.on/\k∉a.fz.map (·.1):=by
  intro k hk
  refine⟨fun hx=> ?_,fun hx=> ?_⟩
  ·obtain⟨e,hl,he⟩:=n2 k hx
   have:=B4 _ _ hl;rw[hk] at this;cases this;cases he
  ·obtain⟨q,hq,rfl⟩:=C0.1 hx
   obtain⟨t,ys,e,hl,ho,_⟩:=n1 q hq
   have:=B4 _ _ hl;rw[hk] at this;cases this;cases ho
 have ABH:∀ j,j<cnts fi.rs+UC fi.os->look (AI L a.C2) (base+j)=some .KI:=by
  intro j hj
  obtain⟨q1,q2⟩:=AU2 _ (v_ j hj)
  rw[t7 _ q1 q2];exact v_ j hj
 have AWP:∀ b,G2 b->b<w.heap.size:=by
  intro b hb
  rcases t5 b hb with hx|⟨n,e,hx,hxb⟩
  ·exact t1.tV b hx
  ·exact t1.f_ hx hxb
 have AQ3:=PS.io (⟨w,fun b=>b∈B6 fi.ps a.x (DY E a.nes),G2⟩:DN TB) _ t9 (fun b hb=>fun hx=>hx.2 hb)
 have ALK:(⟨w,fun b=>b∈B6 fi.ps a.x (DY E a.nes),G2⟩:DN TB).Tab:=fun q hq=>by
  obtain⟨o1,ty,fz,o2⟩:=t1.tab q hq
  refine⟨⟨oZ o1.1 t1.size,fun hy=>(PS.rH _ t9 hy).1 o1⟩,ty,fz, ?_⟩
  show w.heap[q.1]? =_
  rw[t1.old q.1 o1];exact o2
 obtain⟨AGT,gY⟩:=VR E _ _ _ hp
 simp only[AGQ,G4,IQ] at AWO
 obtain⟨⟨pp1,pp2⟩,pp3⟩:=AWO
 let msX:Nat->Nm:=fun k=>match (gW fi.sh args).find? (fun q=>q.1==k) with
  |some q=>E.nm q.2
  |none=>DY E a.nes k
 have AJ4:∀ k,k<cnts fi.ps->msX k=DY E a.nes k:=by
  intro k hk
  have:(gW fi.sh args).find? (fun q=>q.1==k)=none:=by
   rw[List.find?_eq_none]
   intro q hq he
   have:=J9.1 pp1 q hq
   simp only[G4,IQ] at this
   have uH :q.1=k:=by simpa using he
   omega
  show (match (gW fi.sh args).find? (fun q=>q.1==k) with|some q=>E.nm q.2|none=>DY E a.nes k)=_
  rw[this]
 have AWQ:∀ q∈gW fi.sh args,msX q.1=E.nm q.2:=by
  intro q hq
  have key:∀ (l:List (Nat×Nat)),(l.map (·.1)).Nodup->q∈l->l.find? (fun z=>z.1==q.1)=some q:=by
   intro l
   induction l with
   |nil=>intro _ h;cases h
   |cons z r ih=>
    intro hn hz
    simp only[K0,T_] at hn
    rcases F7.1 hz with rfl|hz
    ·simp
    ·have CJ:(z.1==q.1)=false:=by
      rw[beq_eq_false_iff_ne]
      intro he
      exact hn.1 (he ▸ C0.2 ⟨q,hz,rfl⟩)
     rw[List.find?_cons,CJ]
     exact ih hn.2 hz
  show (match (gW fi.sh args).find? (fun z=>z.1==q.1) with|some q=>E.nm q.2|none=>DY E a.nes q.1)=_
  rw[key _ pp2 hq]
 have hX:B6 fi.ps a.x msX=B6 fi.ps a.x (DY E a.nes):=nZ _ AJ4
 have hpp:AWI fi.mI (B6 fi.ps a.x (DY E a.nes)) w msX:=by
  intro p hp'
  obtain⟨q,hq,vR⟩:=List.any_eq_true.1 (J9.1 pp3 p hp')
  simp only[G4,UH] at vR
  obtain⟨hq1,vR⟩:=vR
  split at vR
  rotate_left
  ·cases vR
  rename_i j hj
  obtain⟨b1,b2⟩:=ABG _ _ hj
  obtain⟨e1,e2,e3,e4,⟨ty,e5⟩,_⟩:=hG.KY _ _ b1
  have hmp:=AWQ q hq
  rw[hq1] at hmp
  have VK:q.2∉a.on:=by
   have:=J9.1 pp1 q hq
   simp only[G4,IQ,RM,xZ,YK] at this
   exact this.2
  have hnf:q.2∉a.fz.map (·.1):=by
   intro hx
   obtain⟨z,hz,he⟩:=C0.1 hx
   obtain⟨n1',_⟩:=Z2 rG _ _ _ hp
   obtain⟨t,ys,e,hl,ho,_⟩:=n1' z hz
   have:=B4 _ _ hl
   rw[he,b1] at this
   cases this;cases ho
  have AU3:look (AI L a.C2) q.2=some (.box [.loc j 0]):=by rw[t7 _ VK hnf];exact b1
  have U8:(E.nm q.2).B5∉B6 fi.ps a.x (DY E a.nes):=fun hx=>t11 _ hx q.2 _ AU3 (.inl rfl)
  unfold cY at vR
  split at vR
  rotate_left
  ·cases vR
  rename_i i' J_
  have jD:i' =j:=by simpa using vR
  subst jD
  have C7:p.2<cnts fi.ps:=by
   rw[<-AGT]
   rcases GY p.2 a.nes.length with h|h
   ·exact h
   ·rw[SO h] at J_;cases J_
  have hm2:msX p.2=E.nm i' :=by
   rw[AJ4 _ C7]
   simp only[DY,J_,NE.nm]
  refine⟨by rw[hmp];exact RP e5,by rw[hmp];exact U8, ?_⟩
  refine⟨(E.nm q.2).arr (AK E [.loc i' 0]),ty,(0,0),by rw[hmp];exact e5, ?_⟩
  rw[hmp,hm2,e2]
  unfold Nm.arr
  rw[qR,I6,T5 (ED _)]
  simp [AK,SV.den]
 have AGU:=hc.2 a.x r hr w G2 msX AWP (by rw[hX];exact PS.congr _ AQ3 fun k hk=>(AJ4 k hk).symm) (by rw[hX];exact t10) (by rw[hX];exact ALK) (by rw[hX];exact hpp)
 have AWR:AK (G7 msX) (foldA fi.sh (outSVs fi.ps a.x 0))=AK E args:=by
  refine cZ _ _ _ _ hus (gY (G7 msX) 0 fun k hk=> ?_) fun q hq=> ?_
  ·rw[I7];exact AJ4 k hk
  ·exact AWQ q hq
 rw[AWR,hX] at AGU
 refine AGU.mono ?_
 rintro e w' ⟨G',ms',rfl,Z6,ASP,CD,hgg,hgn,hgi,AQ4,AQ0,U9,AWS⟩
 have AZE:∀ (bk is:List Nat),SR a.nes bk=some is->bk.map msX=bk.map (DY E a.nes):=by
  intro bk
  induction bk with
  |nil=>intro is _;rfl
  |cons q rr ihq=>
   intro is h
   simp only[SR] at h
   split at h
   ·rename_i i hi
    split at h
    ·rename_i l hl
     have hq:q<cnts fi.ps:=by
      rw[<-AGT]
      rcases GY q a.nes.length with h|h
      ·exact h
      ·rw[SO h] at hi;cases hi
     simp only[K0]
     rw[AJ4 q hq,ihq _ hl]
    ·cases h
   ·cases h
 rw[AZE _ _ hbk] at U9
 let G'' :Nat->Prop:=fun b=>G1 b\/(G' b/\(w.heap.size<=b\/b∈B6 fi.ps a.x (DY E a.nes)))
 have hio:∀ b∈B6 fi.ps a.x (DY E a.nes),¬c.Old b/\¬G2 b/\b<w.heap.size:=fun b hb=>PS.rH _ t9 hb
 have AU4:∀ b,G1 b->w'.heap[b]? =w.heap[b]? :=fun b hb=>CD b (t1.tV b hb) (fun hx=>(hio b hx).2.1 (t3 b hb))
 have hold:∀ b,c.Old b->w'.heap[b]? =w.heap[b]? :=fun b hb=>CD b (oZ hb.1 t1.size) (fun hx=>(hio b hx).1 hb)
 have yL:AS c G'' w' E (AI L a.C2):=by
  refine t1.after Z6 ASP hold AU4 (fun b hb=> .inl hb) ?_ ?_ ?_
  ·rintro b (hb|⟨hb,_⟩)
   ·exact oZ (t1.tV b hb) ASP
   ·exact hgi b hb
  ·rintro b (hb|⟨hb,hx⟩)
   ·exact .inl hb
   ·right
    rintro⟨dB,uK⟩
    rcases hx with hx|hx
    ·have:=t1.size;omega
    ·exact (hio b hx).1 ⟨dB,uK⟩
  ·intro n e b he hb
   have C7:=t1.f_ he hb
   have ALH:b∉B6 fi.ps a.x (DY E a.nes):=fun hx=>t11 b hx n e he hb
   refine⟨CD b C7 ALH, ?_⟩
   rintro (hx|⟨hx,hy⟩)
   ·exact (t1.O3 he hb).1 hx
   ·rcases hy with hy|hy
    ·omega
    ·exact ALH hy
 have AZF:∀ b,¬(DN.mk (TB:=TB) w (fun b=>b∈B6 fi.ps a.x (DY E a.nes)) G2).Old b->¬c.Old b:=by
  rintro b hb hx
  refine hb ⟨oZ hx.1 t1.size,fun hy=>(hio b hy).1 hx⟩
 have AZG:PS c G'' w' (fi.rs++fi.os) r ms' :=by
  refine PS.cfg AZF _ ?_
  by_cases Z7:(fi.rs++fi.os).all CT.good=true
  ·refine PS.good ?_ _ Z7 AQ4
   rintro b (hb|⟨hb,_⟩)
   ·exact hgg b (t3 b hb)
   ·exact hb
  rcases AWM with AZH|hgv|hx
  ·have e12:=t4 AZH
   have:G'' =G' :=by
    funext b
    simp only[eq_iff_iff]
    refine⟨?_,fun hb=> ?_⟩
    ·rintro (hb|⟨hb,_⟩)
     ·exact hgg b (t3 b hb)
     ·exact hb
    ·rcases hgn b hb with hx|hx
     ·rw[e12] at hx;exact .inl hx
     ·exact .inr ⟨hb,hx⟩
   rw[this];exact AQ4
  ·refine PS.AGR ?_ _ hgv AQ4
   rintro b (hb|⟨hb,_⟩)
   ·exact hgg b (t3 b hb)
   ·exact hb
  ·exact absurd hx Z7
 have AJ5:∀ b∈B6 (fi.rs++fi.os) r ms',H5 E (AI L a.C2) b:=by
  intro b hb n e he heb
  have h1:=(PS.rH _ AQ4 hb).1
  have C7:=t1.f_ he heb
  exact h1 ⟨C7,fun hx=>t11 b hx n e he heb⟩
 obtain⟨AZI,AZJ⟩:=PS.split (c:=c) (G:=G'') (w:=w') fi.rs fi.os r ms'
 obtain⟨AWT,AZK⟩:=AZI.1 AZG
 rw[AZJ] at AQ0 AJ5
 have VQ:=PL.1 AQ0
 obtain⟨a1,a2,a3⟩:=AS.jR fi.rs (HT.left fi.rs fi.os r) (n:=base) (ms:=ms') yL (fun j hj=>ABH j (by omega)) AWT VQ.1 (fun b hb=>AJ5 b (EV.2 (.inl hb)))
 have AJ2:∀ k,Al (AI L a.C2) k->Al (AI (AI L a.C2) (D8 fi.rs (HT.left fi.rs fi.os r) base)) k/\(E.put base (cnts fi.rs) ms').nm k=E.nm k:=by
  intro k hk
  by_cases hkb:base<=k/\k<base+cnts fi.rs
  ·exfalso
   have:=ABH (k-base) (by omega)
   have e:base+(k-base)=k:=by omega
   rw[e] at this
   exact EF this hk
  ·obtain⟨f,hf1,pA⟩:=hk
   exact⟨⟨f,by rw[(a2 k).2 hkb];exact hf1,pA⟩,Env.UM _ _ _ _ (by omega)⟩
 have s2:=jU E _ _ hbk
 simp only[okA,G4,IQ] at RL
 have VX:∀ i∈is,look (AI (AI L a.C2) (D8 fi.rs (HT.left fi.rs fi.os r) base)) i=some .dead/\¬(base<=i/\i<base+cnts fi.rs):=by
  intro i hi
  have hd:=t8 i (AWN i hi)
  have hb:¬(base<=i/\i<base+cnts fi.rs):=by
   intro hx
   have:=ABH (i-base) (by omega)
   have e:base+(i-base)=i:=by omega
   rw[e,hd] at this;cases this
  exact⟨by rw[(a2 i).2 hb];exact hd,hb⟩
 have shift:∀ (cs:List CT) (a b:Nat),(K4 cs (a+b))=(K4 cs b).map (fun k=>a+k):=by
  intro cs
  induction cs with
  |nil=>intros;rfl
  |cons e s ihs=>
   intro a b
   simp only[K4]
   rw[NI,ihs]
   simp
 obtain⟨E',b1,b2,b3,b4,b5⟩:=AS.rL fi.os (HT.right fi.rs fi.os r) (n:=base+cnts fi.rs) (ms:=fun k=>ms' (cnts fi.rs+k)) is a1 AQ2 hlen
  ATX
  (by
   intro j hj
   rw[(a2 _).2 (by omega),NI]
   exact ABH _ (by omega))
  (fun i hi=>(VX i hi).1)
  (by
   have e1:(K4 fi.os 0).map (fun k=>ms' (cnts fi.rs+k))=is.map E.nm:=by
    rw[<-s2,←U9]
    have:=shift fi.os (cnts fi.rs) 0
    rw[L3] at this
    rw[this,S8];rfl
   rw[e1]
   apply T7
   intro i hi
   exact (Env.UM _ _ _ _ (by have:=(VX i hi).2;omega)).symm)
  AZK VQ.2.1
  (by
   intro b hb k f hf PN
   by_cases hkb:base<=k/\k<base+cnts fi.rs
   ·
    have:b∈B6 fi.rs (HT.left fi.rs fi.os r) ms' :=by
     have key:∀ (cs:List CT) (x:HT cs) {E:Env} {L:AJ} {n:Nat} {ms:Nat->Nm},AS c G'' w' E L->(∀ j,j<cnts cs->look L (n+j)=some .KI)->PS c G'' w' cs x ms->(B6 cs x ms).Nodup->(∀ b∈B6 cs x ms,H5 E L b)→
       ∀ k f b,n<=k/\k<n+cnts cs->look (AI L (D8 cs x n)) k=some f->f.ow (E.put n (cnts cs) ms) k b->b∈B6 cs x ms:=by
      intro cs
      induction cs with
      |nil=>intro x E L n ms _ _ _ _ _ k f b hk;simp [cnts] at hk;omega
      |cons d rr ihh=>
       intro x E L n ms hH hl hPS hND hNO k f b hk hf PN
       have AQ5:=PL.1 hND
       obtain⟨c1,c2,c3,c4⟩:=hH.AGO d (HT.hd d rr x) (n:=n) (ms:=ms) (fun j hj=>hl j (by simp [cnts];omega)) hPS.1 AQ5.1 (fun b hb=>hNO b (EV.2 (.inl hb)))
       have eu:AI L (D8 (d::rr) x n)=AI (AI L (N_ d (HT.hd d rr x) n)) (D8 rr (HT.tl d rr x) (n+d.cnt)):=by
        simp only[D8,BG]
       rw[eu] at hf
       have mH:∀ j,j<cnts rr->look (AI L (N_ d (HT.hd d rr x) n)) (n+d.cnt+j)=some .KI:=by
        intro j hj
        rw[(c2 _).2 (by omega),NI]
        exact hl _ (by simp [cnts];omega)
       have AQ6:∀ b∈B6 rr (HT.tl d rr x) (fun k=>ms (d.cnt+k)),H5 (E.put n d.cnt ms) (AI L (N_ d (HT.hd d rr x) n)) b:=by
        intro b hb k f hf PN
        by_cases hk:n<=k/\k<n+d.cnt
        ·exact AQ5.2.2 b (c4 k f b hk hf PN) b hb rfl
        ·rw[(c2 k).2 hk] at hf
         rw[AW.mG (by omega)] at PN
         exact hNO b (EV.2 (.inr hb)) k f hf PN
       obtain⟨d1,d2,d3⟩:=AS.jR rr (HT.tl d rr x) (n:=n+d.cnt) (ms:=fun k=>ms (d.cnt+k)) c1 mH hPS.2 AQ5.2.1 AQ6
       simp only[cnts] at hk PN
       rw[AW.yJ (m:=ms (k-n)) (by
        have e:k=n+(k-n):=by omega
        conv=>lhs;rw[e]
        rw[Env.gV _ _ _ _ (by omega)]) (by
        have e:k=n+(k-n):=by omega
        conv=>lhs;rw[e]
        rw[Env.AGN _ _ _ _ (by omega)])] at PN
       by_cases N9:n+d.cnt<=k
       ·refine EV.2 (.inr (ihh (HT.tl d rr x) c1 mH hPS.2 AQ5.2.1 AQ6 k f b ⟨N9,by omega⟩ hf ?_))
        have e:k=n+d.cnt+(k-(n+d.cnt)):=by omega
        rw[e,AW.Z1 (by omega)]
        have e2:d.cnt+(k-(n+d.cnt))=k-n:=by omega
        rw[e2];exact PN
       ·rw[(d2 k).2 (by omega)] at hf
        refine EV.2 (.inl (c4 k f b ⟨hk.1,by omega⟩ hf ?_))
        have e:k=n+(k-n):=by omega
        rw[e,AW.Z1 (by omega)];exact PN
     exact key fi.rs _ yL (fun j hj=>ABH j (by omega)) AWT VQ.1 (fun b hb=>AJ5 b (EV.2 (.inl hb))) k f b hkb hf PN
    exact VQ.2.2 b this b hb rfl
   ·rw[(a2 k).2 hkb] at hf
    rw[AW.mG (by omega)] at PN
    exact AJ5 b (EV.2 (.inr hb)) k f hf PN)
 have eu:AI L (a.C2++(D8 fi.rs (HT.left fi.rs fi.os r) base++GP fi.os (HT.right fi.rs fi.os r) (base+cnts fi.rs) is))=
   AI (AI (AI L a.C2) (D8 fi.rs (HT.left fi.rs fi.os r) base)) (GP fi.os (HT.right fi.rs fi.os r) (base+cnts fi.rs) is):=by
  rw[BG,BG]
 have AU5:∀ k,k<cnts fi.rs->E'.nm (base+k)=ms' k:=by
  intro k hk
  have NS:Al (AI (AI L a.C2) (D8 fi.rs (HT.left fi.rs fi.os r) base)) (base+k):=(a2 _).1 ⟨by omega,by omega⟩
  rw[(b2 _ NS).1,Env.gV _ _ _ _ hk]
 have AZL:∀ k,Al L k->E'.nm k=E.nm k:=fun k hk=>by
  obtain⟨q1,q2⟩:=AJ2 k (t6 k hk)
  exact ((b2 k q1).1).trans q2
 obtain⟨z1,z2⟩:=dA (c:=c) (w:=w') (E:=E') (L:=L) (base:=base) (nes:=a.nes) (on:=a.on) (fun i hi=>by obtain⟨e,he,_⟩:=n2 i hi;exact AP (B4 _ _ he)) fi.pin (a.C2++(D8 fi.rs (HT.left fi.rs fi.os r) base++GP fi.os (HT.right fi.rs fi.os r) (base+cnts fi.rs) is))
  ⟨G'',by rw[eu];exact b1⟩ (by
   intro q hq
   have hpm:=J9.1 AU1 q hq
   simp only[List.contains_iff_mem] at hpm
   have tW:=QD fi.os (cnts fi.rs) (cnts fi.rs) 0 0
   rw[L3] at tW
   rw[tW] at hpm
   obtain⟨q',O5,he⟩:=C0.1 hpm
   have hb5:=b5 q' O5
   simp only[C3] at he
   rw[NI,he.2] at hb5
   have U8:∀ (cs:List CT) (x y:Nat) (q:Nat×Nat),q∈Z4 cs x y->y<=q.2/\q.2<y+UC cs:=by
    intro cs
    induction cs with
    |nil=>intro x y q h;cases h
    |cons d r ih=>
     intro x y q h
     simp only[Z4] at h
     cases hp:d.ptr with
     |true=>
      simp only[hp] at h
      simp only[UC,hp]
      rcases EV.1 h with h|h
      ·obtain⟨j,hj,rfl⟩:=C0.1 h
       have:=l9.1 hj
       simp only;omega
      ·have:=ih _ _ _ h;omega
     |false=>
      simp only[hp] at h
      simp only[UC,hp]
      have:=ih _ _ _ h;omega
   have hm:=U8 _ _ _ _ O5
   refine⟨AP (v_ q.2.1 (by omega)),fun o hon ho=> ?_⟩
   obtain⟨e,rJ,he2⟩:=n2 o hon
   have hql:q.2.2.1<cnts fi.ps:=by
    rw[<-AGT]
    rcases GY q.2.2.1 a.nes.length with h|h
    ·exact h
    ·rw[SO h] at ho;cases ho
   rw[hb5,AZL o ⟨e,B4 _ _ rJ,he2⟩,he.1,AWS q hq,AJ4 _ hql]
   simp [DY,ho,NE.nm])
 refine⟨E', ?_,z1,fun k hk=> ?_,b3, ?_⟩
 ·congr 1
  refine vX (gX _ _ fun k hk=> ?_)
  rw[AU5 k hk]
  simp [G7]
 ·obtain⟨q1,q2⟩:=AJ2 k (t6 k hk)
  obtain⟨q3,q4⟩:=b2 k q1
  exact⟨q3.trans q2,z2 k (by rw[eu];exact q4)⟩
 ·refine ALI (KK (fun k hk=>z2 k (by rw[eu];exact (b2 k hk).2)) (fun k hk=>(b2 k hk).1) _ a3).1
theorem rM {P:Program} {fi:FnI} {base:Nat} {AQ:Nat->Option AW} {args:List SV} {v:SV} {C2:CW} (h:nY fi base AQ args (fun v u=>some (v,u))=some (v,C2)) {f:FuncId} (hc:CallsV P TB f fi)
  {L:AJ} (B4:∀ n e,AQ n=some e->look L n=some e) {c:DN TB} {w:World} {E:Env} (hh:Hd c w E L) (hw:KJ E L args):
  Calls P f (AK E args).toArray w (fun e w' =>∃ E',e= .returned (v.den E')/\Hd c w' E' (AI L C2)/\(∀ n,Al L n->E'.nm n=E.nm n/\Al (AI L C2) n)/\E'.ds=E.ds/\v.wf E' (AI L C2)):=by
 unfold nY at h
 split at h
 ·cases h
 rename_i us hus
 split at h
 ·cases h
 rename_i a hp
 split at h
 ·cases h
 rename_i is hbk
 split at h
 rotate_left
 ·cases h
 rename_i hck
 rw[AAQ] at h
 obtain⟨r,hr,h⟩:=h
 simp only[AY,C3] at h
 obtain⟨rfl,rfl⟩:=h
 have rG:fi.md≠ .own:=by unfold FnI.md;split <;> simp
 refine vZ rG hus hp hbk hck hr ?_ hc B4 hh hw
 cases Z7:(fi.rs++fi.os).all CT.good with
 |true=>exact .inr (.inr rfl)
 |false=>left;unfold FnI.md;rw[Z7]
theorem ALL {P:Program} {fi:FnI} {base:Nat} {AQ:Nat->Option AW} {args:List SV} {v:SV} {C2:CW} (h:vV fi base AQ args (fun v u=>some (v,u))=some (v,C2)) {f:FuncId} (hc:CallsV P TB f fi)
  {L:AJ} (B4:∀ n e,AQ n=some e->look L n=some e) {c:DN TB} {w:World} {E:Env} (hh:Hd c w E L) (hw:KJ E L args):
  Calls P f (AK E args).toArray w (fun e w' =>∃ E',e= .returned (v.den E')/\Hd c w' E' (AI L C2)/\(∀ n,Al L n->E'.nm n=E.nm n/\Al (AI L C2) n)/\E'.ds=E.ds/\v.wf E' (AI L C2)):=by
 unfold vV at h
 split at h
 ·cases h
 rename_i us hus
 split at h
 ·cases h
 rename_i a hp
 split at h
 ·cases h
 rename_i is hbk
 split at h
 rotate_left
 ·cases h
 rename_i hck
 rw[AAQ] at h
 obtain⟨r,hr,h⟩:=h
 cases hg:YE (fi.rs++fi.os) r with
 |true=>
  rw[hg] at h
  simp only[cond_true,AY,C3] at h
  obtain⟨rfl,rfl⟩:=h
  exact vZ (by simp) hus hp hbk hck hr (.inr (.inl hg)) hc B4 hh hw
 |false=>
  rw[hg] at h
  exact rM h hc B4 hh hw
def MY (AQ:Nat->Option AW):List CT->List SV->Nat->Option (Nat×Nat×Nat×Nat×List SV)
 |c::r,v::vs,p=>(match c.ptr,v with
  |true,.loc i off=>(match AQ i with
   |some (.box cs)=>if c.t.sz<cs.length then some (p,i,off,c.t.sz,cs) else MY AQ r vs (p+1)
   |_=>MY AQ r vs (p+1))
  |_,_=>MY AQ r vs (p+1))
 |_,_,_=>none
theorem n5 {AQ:Nat->Option AW}:∀ (ps:List CT) (vs:List SV) (k:Nat) {p i off n:Nat} {cs:List SV},MY AQ ps vs k=some (p,i,off,n,cs)→
  k<=p/\vs[p-k]? =some (.loc i off)/\AQ i=some (.box cs)
 | [],_,_,_,_,_,_,_,h=>by simp [MY] at h
 |_::_,[],_,_,_,_,_,_,h=>by simp [MY] at h
 |c::r,v::vs,k,p,i,off,n,cs,h=>by
  have step:MY AQ r vs (k+1)=some (p,i,off,n,cs)->k<=p/\(v::vs)[p-k]? =some (.loc i off)/\AQ i=some (.box cs):=by
   intro h'
   obtain⟨h1,h2,h3⟩:=n5 r vs (k+1) h'
   refine⟨by omega, ?_,h3⟩
   rw[show p-k=(p-(k+1))+1 from by omega,uC]
   exact h2
  unfold MY at h
  split at h
  ·split at h
   ·rename_i gR hl
    split at h
    ·simp only[AY,C3] at h
     obtain⟨rfl,rfl,rfl, -,rfl⟩:=h
     exact⟨ED _,by simp,hl⟩
    ·exact step h
   ·exact step h
  ·exact step h
def yM (j:Nat):CW->Option (List SV)->Option (List SV)
 | [],o=>o
 |(n,e)::r,o=>yM j r (if n=j then (match e with
  | .box cs=>some cs
  |_=>none) else o)
theorem rN (j:Nat):∀ (u:CW) (L:AJ) (o:Option (List SV)) {cs:List SV},(∀ cs,o=some cs->look L j=some (.box cs))->j<L.length->yM j u o=some cs->look (AI L u) j=some (.box cs)
 | [],L,o,cs,ho,_,h=>ho cs h
 |(n,e)::r,L,o,cs,ho,hj,h=>by
  refine rN j r (C5 L (n,e)) _ (fun gR h' => ?_) (by rw[FK];exact hj) h
  split at h'
  ·rename_i hn
   subst hn
   split at h'
   ·simp only[AY] at h'
    subst h'
    rw[AZ hj,AA rfl]
   ·cases h'
  ·rename_i hn
   have:=ho gR h'
   by_cases hq:n<L.length
   ·rw[AZ hq,AB (fun he=>hn he.symm)];exact this
   ·unfold C5
    rw[SO (by simpa using hq)]
    exact this
def wA (fi:FnI) (base:Nat) (AQ:Nat->Option AW) (args:List SV) {α:Type} (K:SV->CW->Option α):Option α:=
 match (match fi.sh with
  | []=>MY AQ fi.ps args 0
  |_=>none) with
 |none=>nY fi base AQ args K
 |some (p,i,off,n,cs)=>
  if off+n<=cs.length/\H6 AQ (base+(cnts fi.rs+UC fi.os)) 1=true then
   nY fi base (fun k=>if k=i then none else if k=base+(cnts fi.rs+UC fi.os) then some (.box ((cs.drop off).take n)) else AQ k) (args.set p (.loc (base+(cnts fi.rs+UC fi.os)) 0)) fun v u=>
    match yM (base+(cnts fi.rs+UC fi.os)) u none with
    |some gR =>if gR.length=n then K v ([(i,.dead),(base+(cnts fi.rs+UC fi.os),.box ((cs.drop off).take n))]++(u++ [(base+(cnts fi.rs+UC fi.os),.dead),(i,.box (DJ cs off gR))])) else none
    |none=>none
  else none
def AGV (d:Bool) (fi:FnI) (base:Nat) (AQ:Nat->Option AW) (args:List SV) {α:Type} (K:SV->CW->Option α):Option α:=match d with
 |true=>vV fi base AQ args K
 |false=>wA fi base AQ args K
end Go.V3
namespace Go.V3
open Go
variable {TB:Tb}
def pV (arr:Array Value) (off:Nat):List Value->Array Value
 | []=>arr
 |v::r=>pV (arr.setIfInBounds off v) (off+1) r
theorem QE (vs:List Value):∀ (arr:Array Value) (off:Nat),(pV arr off vs).size=arr.size:=by
 induction vs with
 |nil=>intros;rfl
 |cons v r ih=>intro arr off;simp [pV,ih]
theorem JC (vs:List Value):∀ (arr:Array Value) (off i:Nat),(pV arr off vs)[i]? =if off<=i/\i<off+vs.length/\i<arr.size then vs[i-off]? else arr[i]? :=by
 induction vs with
 |nil=>intro arr off i;rw[AB (by simp;omega)];rfl
 |cons v r ih=>
  intro arr off i
  simp only[pV,ih,Array.size_setIfInBounds,AAU,N3]
  by_cases h1:i=off
  ·subst h1
   by_cases h2:i<arr.size
   ·rw[AB (by omega),AA rfl,AA h2,AA (by omega)];simp
   ·rw[AB (by omega),AA rfl,AB h2,AB (by omega),AAR (by omega)]
  ·by_cases h3:off+1<=i/\i<off+1+r.length/\i<arr.size
   ·rw[AA h3,AA (by omega)]
    have:i-off=(i-(off+1))+1:=by omega
    rw[this];simp
   ·rw[AB h3,AB (fun h=>h1 h.symm),AB (by omega)]
theorem B9 (arr:Array Value) (off n j:Nat):(BH arr off n)[j]? =if j<n then arr[off+j]? else none:=by
 unfold BH
 rw[jG]
 split
 ·rw[ZQ];simp
 ·rfl
theorem YF {arr:Array Value} {o p n:Nat} {vs:List Value} (h:p+n<=o\/o+vs.length<=p):BH (pV arr o vs) p n=BH arr p n:=by
 apply T9
 intro j
 rw[B9,B9]
 split
 ·rw[JC,AB (by omega)]
 ·rfl
theorem Z8 {arr:Array Value} {o:Nat} {vs:List Value} (h:o+vs.length<=arr.size):BH (pV arr o vs) o vs.length=vs:=by
 apply T9
 intro j
 rw[B9]
 split
 ·rw[JC,AA (by omega)]
  congr 1;omega
 ·rw[SO (by omega)]
theorem SS {i j k:Nat} (h:i<j):(i+1)*k<=j*k:=qS _ h
theorem RowsIn.set {α:Type} {R:α->List Value->Prop} {sz:Nat} {arr:Array Value} {off:Nat} {xs:List α} (h:RowsIn R sz arr off xs) {k:Nat} {v:α} {vs:List Value} (hv:R v vs) (hl:vs.length=sz) (hk:k<xs.length) (ha:off+xs.length*sz<=arr.size):
  RowsIn R sz (pV arr (off+k*sz) vs) off (xs.set k v):=by
 intro i x hx
 rw[qW] at hx
 have N9:=SS (k:=sz) hk
 rw[ZU] at N9
 split at hx
 ·rename_i gA
  subst gA
  simp only[AY] at hx;subst hx
  have:=Z8 (arr:=arr) (o:=off+k*sz) (vs:=vs) (by rw[hl];omega)
  rw[hl] at this
  rw[this]
  exact hv
 ·rename_i gA
  rw[YF]
  ·exact h i x hx
  ·rcases Nat.lt_or_gt_of_ne gA with h1|h1
   ·right;have:=SS (k:=sz) h1;rw[ZU] at this;omega
   ·left;have:=SS (k:=sz) h1;rw[ZU] at this;omega
theorem RowsIn.append {α:Type} {R:α->List Value->Prop} {sz:Nat} {arr:Array Value} {off:Nat} {xs ys:List α} (h:RowsIn R sz arr off xs) (h2:RowsIn R sz arr (off+xs.length*sz) ys):RowsIn R sz arr off (xs++ys):=by
 intro i x hx
 by_cases hi:i<xs.length
 ·rw[T6 hi] at hx;exact h i x hx
 ·rw[T5 (by omega)] at hx
  have:=h2 _ x hx
  have e:off+xs.length*sz+(i-xs.length)*sz=off+i*sz:=by
   have:xs.length+(i-xs.length)=i:=by omega
   rw[NI,←ZU,this]
  rw[e] at this;exact this
theorem RowsIn.ABI {α:Type} {R:α->List Value->Prop} {sz:Nat} {arr W3 :Array Value} {o o' :Nat} {xs:List α} (h:RowsIn R sz arr o xs) (he:BH W3 o' (xs.length*sz)=BH arr o (xs.length*sz)):RowsIn R sz W3 o' xs:=by
 intro i x hx
 have hi:i<xs.length:=by
  rcases GY i xs.length with h1|h1
  ·exact h1
  ·rw[SO h1] at hx;cases hx
 have hm:=SS (k:=sz) hi
 rw[ZU] at hm
 have e:∀ (a:Array Value) (p:Nat),BH a (p+i*sz) sz=((BH a p (xs.length*sz)).drop (i*sz)).take sz:=by
  intro a p
  apply T9
  intro j
  rw[B9,jG]
  split
  ·rw[ZQ,B9,AA (by omega),NI]
  ·rfl
 rw[e,he,←e]
 exact h i x hx
section
variable {P:Program}
theorem n6 (w:World) (a:Addr) (v:Value) (k:Nat):(w.setCell a v).heap[k]? =if a.block=k then (match w.heap[k]? with
  |some (.cells c e f)=>some (.cells (if a.spot.isSome then c else c.setIfInBounds a.off v) e f)
  |o=>o) else w.heap[k]? :=by
 show (w.heap.modify a.block _)[k]? =_
 rw[Array.getElem?_modify]
 split
 ·cases w.heap[k]? with
  |none=>rfl
  |some o=>cases o <;> rfl
 ·rfl
def Flat (vs:List Value):Prop:=∀ v∈vs,(∀ c,v≠ .agg c)/\(∀ c,v≠ .tuple c)
theorem Rp.AGW {G:Nat->Prop} {w:World} (t:Ty) (x:t.T) (vs:List Value) (h:Rp G w t x vs):Flat vs:=by
 induction t generalizing vs with
 |pair a b T1 T3=>
  obtain⟨v1,v2,rfl,h1,h2⟩:=h
  intro v hv
  rcases EV.1 hv with hv|hv
  ·exact T1 _ _ h1 v hv
  ·exact T3 _ _ h2 v hv
 |slice a=>
  obtain⟨m,rfl,_⟩:=h
  intro v hv;simp only[F6] at hv;subst hv
  exact⟨fun c h=>(by cases h),fun c h=>(by cases h)⟩
 |nf=>
  obtain⟨m,rfl⟩:=h
  intro v hv;simp only[F6] at hv;subst hv
  exact⟨fun c h=>(by cases h),fun c h=>(by cases h)⟩
 |_=>
  simp only[Rp] at h;subst h
  intro v hv;simp only[F6] at hv;subst hv
  exact⟨fun c h=>(by cases h),fun c h=>(by cases h)⟩
theorem JZ {b off:Nat} {ty:TypeId} {fz:Nat×Nat} (vs:List Value):∀ (w:World) (arr:Array Value) (k:Nat),(∀ j,j<arr.size->¬(fz.1<=j/\j<fz.2))->w.heap[b]? =some (.cells arr ty fz)->Flat vs->off+k+vs.length<=arr.size→
  ∃ w',(storeCells ⟨b,off,none⟩ vs k).run P w= .ok () w' /\Rest w w' /\w'.heap.size=w.heap.size/\w'.heap[b]? =some (.cells (pV arr (off+k) vs) ty fz)/\∀ j,j≠b->w'.heap[j]? =w.heap[j]? :=by
 induction vs with
 |nil=>intro w arr k _ h _ _;exact⟨w,rfl,.refl _,rfl,h,fun _ _=>rfl⟩
 |cons v r ih=>
  intro w arr k hz h hf hn
  simp only[N3] at hn
  have C7:off+k<arr.size:=by omega
  have QA:w.cell? ⟨b,off+k,none⟩=some arr[off+k]:=by simp [World.cell?,h,C7]
  have hfz:w.frozen? ⟨b,off+k,none⟩=false:=by
   have:=hz (off+k) C7
   simp only[World.frozen?,h]
   simpa using this
  have hst:(store ((⟨b,off,none⟩:Addr).add k) v).run P w= .ok () (w.setCell ⟨b,off+k,none⟩ v):=by
   rw[G_]
   obtain⟨hv1,hv2⟩:=hf v (by simp)
   unfold store
   cases v <;> first|exact absurd rfl (hv1 _)|exact absurd rfl (hv2 _)|(simp only[Sem.run,QA,hfz];rfl)
  have h' :(w.setCell ⟨b,off+k,none⟩ v).heap[b]? =some (.cells (arr.setIfInBounds (off+k) v) ty fz):=by
   rw[n6,AA rfl,h];rfl
  obtain⟨w',h1,h2,h3,h4,h5⟩:=ih _ _ (k+1) (fun j hj=>hz j (by simpa using hj)) h' (fun u hu=>hf u (by simp [hu])) (by simp;omega)
  refine⟨w', ?_, ?_, ?_,h4, ?_⟩
  ·simp only[storeCells,Sem.run_bind,hst,Result.andThen];exact h1
  ·have hr:Rest w (w.setCell ⟨b,off+k,none⟩ v):=⟨rfl,rfl,rfl⟩
   exact hr.trans h2
  ·rw[h3];simp [World.setCell]
  ·intro j hj
   rw[h5 j hj,n6,AB (fun he=>hj he.symm)]
theorem OC {b off:Nat} {ty:TypeId} (vs:List Value) (w:World) (arr:Array Value) (k:Nat) (h:w.heap[b]? =some (.cells arr ty (0,0))) (hf:Flat vs) (hn:off+k+vs.length<=arr.size):
  ∃ w',(storeCells ⟨b,off,none⟩ vs k).run P w= .ok () w' /\Rest w w' /\w'.heap.size=w.heap.size/\w'.heap[b]? =some (.cells (pV arr (off+k) vs) ty (0,0))/\∀ j,j≠b->w'.heap[j]? =w.heap[j]? :=
 JZ vs w arr k (fun j _=>by simp) h hf hn
theorem run_loadCells {b off:Nat} {ty:TypeId} {fz:Nat×Nat} (w:World) {arr:Array Value} (h:w.heap[b]? =some (.cells arr ty fz)) {n:Nat} (hn:off+n<=arr.size):(loadCells ⟨b,off,none⟩ n).run P w= .ok (BH arr off n).toArray w:=by
 have hl:(BH arr off n).length=n:=by unfold BH;simp;omega
 have:=run_loadCells_list (P:=P) w ⟨b,off,none⟩ (BH arr off n) (fun j v hj=>by
  rw[B9] at hj
  split at hj
  ·rw[G_];simp [World.cell?,h,hj]
  ·cases hj)
 rw[hl] at this
 exact this
theorem TF {w:World} {m:Nm} {arr:Array Value} {ty:TypeId} {fz:Nat×Nat} {size:Nat} (hn:m.nil=false) (h:w.heap[m.B5]? =some (.cells arr ty fz)) (hs:m.off+m.len*size<=arr.size):
  (Builtin.firstCells size m.len (.slice m.ad m.len m.cap)).run P w= .ok (BH arr m.off (m.len*size)).toArray w:=by
 simp only[Nm.ad,hn,T8,I9]
 exact run_loadCells w h hs
theorem rO (w:World) (t:TypeId) (v:Value):(newVar t v).run P w= .ok ⟨w.heap.size,0,none⟩ (w.alloc (.cells v.cells t)):=by
 simp [newVar,newRow]
theorem CL {s:Sem Value} {w w' :World} {v:Value} (h:s.run P w= .ok v w'):(do pure (Next.value (<-s)):Sem Next).run P w= .ok (.value v) w' :=by
 rw[Sem.run_bind,h];rfl
theorem HZ {w:World} {t0 t1:TypeId} {ts:Array TypeId} {ty e e1:TypeId} {q:TypeInfo} {a b:Option Addr} {len cap n c:Nat} {news:List Value} {w' :World}
  (h0:ts[0]? =some t0) (h1:ts[1]? =some t1) (hu:P.underlying t0=some (.slice e)) (hu1:P.underlying t1=some (.slice e1)) (hq:P.info? e=some q)
  (DC:(Builtin.firstCells q.size n (.slice b n c)).run P w= .ok news.toArray w) (dU:len+n<=cap)
  (hst:match a with|some p=>(storeCells (p.add (len*q.size)) news).run P w= .ok () w' |none=>w' =w):
  (Builtin.append_ ts ty #[.slice a len cap,.slice b n c]).run P w= .ok (.slice a (len+n) cap) w' :=by
 cases a with
 |none=>
  simp only at hst;subst hst
  simp [Builtin.append_,h0,h1,run_underlying hu,run_underlying hu1,sizeOf,typeInfo,hq,Builtin.lenOf,dU,DC]
 |some p=>
  simp only at hst
  simp [Builtin.append_,h0,h1,run_underlying hu,run_underlying hu1,sizeOf,typeInfo,hq,Builtin.lenOf,dU,DC,hst]
theorem run_append_grow {w:World} {t0 t1:TypeId} {ts:Array TypeId} {ty e e1:TypeId} {q:TypeInfo} {zv:Value} {a b:Option Addr} {len cap n c:Nat} {news olds:List Value}
  (h0:ts[0]? =some t0) (h1:ts[1]? =some t1) (hu:P.underlying t0=some (.slice e)) (hu1:P.underlying t1=some (.slice e1)) (hq:P.info? e=some q) (hz:q.zero=some zv) (hb:q.bytes≠0)
  (DC:(Builtin.firstCells q.size n (.slice b n c)).run P w.drew= .ok news.toArray w.drew) (hold:(Builtin.firstCells q.size len (.slice a len cap)).run P w.drew= .ok olds.toArray w.drew)
  (dU:cap<len+n) (hby:(len+n)*q.bytes<=140737488355328):
  ∃ c',len+n<=c' /\(Builtin.append_ ts ty #[.slice a len cap,.slice b n c]).run P w= .ok (.slice (some ⟨w.heap.size,0,none⟩) (len+n) c')
   (w.drew.alloc (.cells (olds.toArray++news.toArray++Builtin.zeroCells zv.cells (c' -(len+n))) e)):=by
 have h48:¬(281474976710656<Builtin.nextslicecap (len+n) cap*q.bytes):=by
  have:=growslice_fits (need:=len+n) (old:=cap) (bytes:=q.bytes) dU hby
  omega
 have hnc:¬(len+n<=cap):=by omega
 refine⟨grownCap w (len+n) cap e,Nat.le_add_right _ _, ?_⟩
 simp [Builtin.append_,h0,h1,run_underlying hu,run_underlying hu1,sizeOf,typeInfo,zeroValue,hq,hz,Builtin.lenOf,hnc,hb,h48,Question.forced,DC,hold,newRow,grownCap]
 congr 2
 apply YC
 simp [I6]
theorem run_makeSlice {E:Env} (w:World) {t e:TypeId} {q:TypeInfo} {z:List SV} {k k' :IntKind} {n m:Int} (hu:P.underlying t=some (.slice e)) (hq:P.info? e=some q) (hz:MX P e=some z) (hs:z.length=q.size)
  (h0:0<=n) (h1:n<=m) (h2:m*q.bytes<=140737488355328) (h3:I64 m):
  (Instr.makeSlice t (.int k n) (.int k' m)).run P w= .ok (.slice (some ⟨w.heap.size,0,none⟩) n.toNat m.toNat)
   (w.alloc (.cells ((Array.range (m.toNat*z.length)).map fun i=>(AK E z).toArray[i%(AK E z).toArray.size]!) e)):=by
 obtain⟨zv,hzr,hzc⟩:=S0 (E:=E) (P:=P) w hz
 have hn:I64 n:=⟨by have:=h3.1;omega,by have:=h3.2;omega⟩
 have e1:=InK.wrap (k:= .i64) hn
 have e2:=InK.wrap (k:= .i64) h3
 have c1:¬m<0:=by omega
 have hm2:(q.bytes:Int)*m<=140737488355328:=by rw[Int.mul_comm];exact h2
 have c2:¬(281474976710656<(q.bytes:Int)*m):=by omega
 have c3:¬n<0:=by omega
 have c4:¬m<n:=by omega
 by_cases hz0:m.toNat*q.size=0
 ·simp [Instr.makeSlice,run_underlying hu,asInt,asIntOf,typeInfo,hq,e1,e2,c1,c2,c3,c4,askRoom,sizeOf,hz0,newRow,hs]
  rw[show Array.range 0= #[] from by decide]
  simp
 ·simp [Instr.makeSlice,run_underlying hu,asInt,asIntOf,typeInfo,hq,e1,e2,c1,c2,c3,c4,askRoom,sizeOf,hz0,newRow,hs,hzr,hzc]
end
def fresh (z:List SV) (n size:Nat):List SV:=(List.range n).map fun i=>z.getD (i%size) AV
theorem n7 {E:Env} {z:List SV} {len size:Nat} (h:z.length=size):
  AK E (fresh z (len*size) size)=((Array.range (len*size)).map fun i=>(AK E z).toArray[i%(AK E z).toArray.size]!).toList:=by
 unfold fresh
 rw[EW,S8,fW,Array.toList_range]
 apply T7
 intro i hi
 subst h
 rcases Nat.eq_zero_or_pos z.length with h0|h0
 ·rw[h0] at hi;simp at hi
 ·have hl:i%z.length<z.length:=P9 _ h0
  have e:(AK E z).toArray.size=z.length:=by simp [AT]
  rw[e]
  simp [FJ,NB hl]
end Go.V3
