import Derived.WalkKit
import Derived.Deep.Quiet
import Derived.Deep.LoopGhost
import Derived.Scope
set_option linter.unusedVariables false
set_option linter.unusedSimpArgs false
namespace Go.V3
abbrev BA := @Option.some.injEq
abbrev AZ := @Option.bind_some
abbrev AA := @if_pos
abbrev AD := @if_neg
abbrev DH := @Prod.mk.injEq
abbrev FG := @List.mem_append
abbrev HX := @Int.toNat_natCast
abbrev OT := @List.getElem?_eq_getElem
abbrev H_ := @not_not_intro
abbrev UX := @List.getElem?_eq_none
abbrev IC := @List.length_singleton
abbrev EW := @List.length_set
abbrev HA := @List.mem_singleton
abbrev DD := @List.mem_map
abbrev JK := @List.length_append
abbrev ID := @Bool.and_eq_true
abbrev HH := @List.append_nil
abbrev JL := @decide_eq_true_eq
abbrev GA := @List.mem_cons
abbrev J_ := @List.append_assoc
abbrev QP := @List.getElem?_cons_zero
abbrev EY := @Nat.le_refl
abbrev NO := @decide_eq_true_iff
abbrev V_ := @List.getElem?_append_right
abbrev IV := @decide_eq_true
abbrev MM := @of_decide_eq_true
abbrev WA := @List.getElem?_append_left
abbrev LP := @List.all_eq_true
abbrev IA := @Nat.lt_or_ge
abbrev UY := @List.mem_cons_of_mem
abbrev O0 := @List.length_cons
abbrev NZ := @decide_eq_false
abbrev RF := @List.nodup_append
abbrev KK := @Nat.zero_add
abbrev aY := @decide_eq_false_iff_not
abbrev XV := @List.length_replicate
abbrev WB := @List.map_congr_left
abbrev TZ := @Bool.not_eq_true'
abbrev MN := @List.map_cons
abbrev VF := @Bool.false_eq_true
abbrev SD := @List.take_length
abbrev RG := @List.length_map
abbrev O1 := @Nat.add_assoc
abbrev WC := @List.ext_getElem?
abbrev NP := @Nat.add_zero
abbrev aZ := @List.mem_of_getElem?
abbrev VG := @List.length_nil
abbrev kX := @Array.getElem?_toList
abbrev WD := @List.nodup_cons
abbrev cP := @List.getElem?_drop
abbrev cQ := @List.pairwise_cons
abbrev vE := @List.getD_eq_getElem?_getD
abbrev mO := @List.length_filter_le
abbrev vF := @Classical.byContradiction
abbrev XW := @Option.some.inj
abbrev a9 := @Nat.mod_eq_of_lt
abbrev mP := @List.getElem_of_mem
abbrev mQ := @List.length_pos_iff
abbrev zB := @List.getElem?_eq_some_iff
abbrev vG := @List.getElem?_replicate
abbrev a_ := @Bool.eq_iff_iff
abbrev bA := @List.map_append
abbrev bB := @List.mem_filter
abbrev AEV := @Int.mul_le_mul_of_nonneg_right
abbrev mR := @List.getElem?_take
abbrev AEW := @Int.mul_le_mul_of_nonneg_left
abbrev VH := @List.map_map
abbrev cR := @Option.map_some
abbrev HJ := @if_true
abbrev zC := @List.getElem?_cons_succ
abbrev vH := @List.getElem?_toArray
abbrev AC9 := @Decidable.byContradiction
abbrev vI := @Nat.mul_le_mul_right
abbrev AEX := @Array.getElem?_append_left
abbrev tF := @BitVec.toNat_ofNat
abbrev tG := @Nat.lt_of_lt_of_le
abbrev tH := @List.filter_append
abbrev iF := @List.nodup_nil
abbrev vJ := @Int.toNat_of_nonneg
abbrev ACA := @Int.le_ediv_iff_mul_le
abbrev pU := @List.not_mem_nil
abbrev mS := @List.cons.injEq
abbrev vK := @BitVec.toNat_ofInt
abbrev ACB := @BitVec.eq_of_toNat_eq
abbrev AO6 := @Nat.and_two_pow_sub_one_eq_mod
abbrev AEY := @Option.bind_eq_some_iff
abbrev tI := @decide_eq_decide
abbrev vL := @List.getElem?_set
abbrev AIW := @List.pairwise_iff_getElem
abbrev ACC := @List.contains_eq_mem
abbrev ACD := @List.mem_iff_getElem
abbrev AEZ := @Array.getElem?_eq_none
abbrev AF0 := @Int.ediv_lt_iff_lt_mul
abbrev tJ := @List.nil_append
abbrev ACE := @Array.getElem?_push
abbrev bC := @Int.le_refl
abbrev pV := @List.mem_range
abbrev vM := @List.getElem_map
abbrev vN := @List.filter_cons
abbrev cS := @Nat.add_mul
abbrev KA := @if_false
abbrev vO := @Nat.div_div_eq_div_mul
abbrev AA6 := @List.drop_eq_getElem_cons
abbrev AA7 := @List.getElem_append_right
abbrev kC := @Nat.div_eq_of_lt
abbrev kD := @Array.toList_map
abbrev AF1 := @Array.getElem?_setIfInBounds
abbrev kE := @List.foldl_cons
abbrev rQ := @Int.emod_lt_of_pos
abbrev SE := @Nat.mod_lt
abbrev vP := @List.pairwise_append
abbrev mT := @Option.getD_some
abbrev mU := @List.mem_flatten
abbrev rR := @List.filter_congr
abbrev rS := @Int.compare_eq_lt
abbrev rT := @Int.compare_eq_gt
abbrev AF2 := @Nat.shiftRight_eq_div_pow
abbrev AF3 := @Nat.add_mul_mod_self_left
abbrev AA8 := @List.take_append_drop
abbrev mV := @Nat.two_pow_pos
abbrev mW := @Int.emod_nonneg
abbrev aJ := @Int.add_zero
abbrev aK := @iff_of_false
abbrev AF4 := @BitVec.toNat_ushiftRight
abbrev vQ := @List.mem_cons_self
abbrev rU := @List.cons_append
abbrev rV := @List.length_take
abbrev AA9 := @List.mem_of_mem_take
abbrev AAA := @List.mem_of_mem_drop
abbrev AAB := @List.mem_append_left
abbrev vR := @BitVec.toNat_udiv
abbrev WN := @beq_iff_eq
abbrev vS := @Function.comp_def
abbrev rW := @Bool.or_eq_true
abbrev aL := @iff_of_true
abbrev AL8 := @Int.mul_lt_mul_of_pos_right
abbrev AL9 := @Nat.mul_lt_mul_of_pos_right
abbrev AAC := @List.filter_sublist
abbrev PR := @congrArg
abbrev AF5 := @List.take_of_length_le
abbrev vT := @BitVec.toNat_and
abbrev kF := @Nat.le_trans
abbrev AAD := @List.mem_filterMap
abbrev AF6 := @List.mem_iff_getElem?
abbrev kG := @Nat.mul_comm
abbrev ALA := @List.mem_or_eq_of_mem_set
abbrev AF7 := @BitVec.ofInt_natCast
abbrev AF8 := @Nat.add_mul_div_left
abbrev ALB := @Option.isSome_iff_exists
abbrev aM := @Array.ext'
abbrev ALC := @List.set_eq_of_length_le
abbrev AAE := @List.foldl_append
abbrev mX := @Nat.sub_self
abbrev AQL := @List.eq_nil_iff_forall_not_mem
abbrev ALD := @Nat.exists_eq_add_of_le
abbrev ALE := @List.pairwise_singleton
abbrev AAF := @List.mem_flatMap
abbrev AAG := @List.flatMap_def
abbrev ALF := @List.getElem?_set_self
abbrev ALG := @List.contains_iff_mem
abbrev AQM := @Array.getElem?_append_right
abbrev mY := @Nat.zero_le
abbrev ALH := @Int.mul_ediv_add_emod
abbrev ALI := @List.singleton_append
abbrev vU := @Nat.mul_assoc
abbrev AF9 := @BitVec.toNat_umod
abbrev vV := @List.all_cons
abbrev AFA := @List.flatMap_cons
abbrev AFB := @List.getElem?_map
abbrev AFC := @Int.compare_eq_eq
abbrev vW := @List.sum_cons
abbrev ALJ := @List.getElem?_set_ne
abbrev AQN := @Array.getElem?_eq_getElem
abbrev AAH := @List.drop_zero
abbrev AFD := @List.length_drop
abbrev AFE := @List.getElem_mem
abbrev ALK := @List.getElem?_range
abbrev rX := @Int.one_mul
abbrev ALL := @List.flatten_append
abbrev ALM := @List.filter_eq_self
abbrev ALN := @Function.comp_apply
abbrev vX := @List.map_nil
abbrev AQO := @List.length_erase_of_mem
abbrev AFF := @Int.natCast_add
abbrev ALO := @Nat.eq_zero_or_pos
abbrev ALP := @Array.ext_getElem?
abbrev AQP := @List.length_eq_zero_iff
abbrev AQQ := @Int.eq_ofNat_of_zero_le
abbrev AQR := @Int.ediv_eq_zero_of_lt
abbrev AQS := @List.length_pos_of_mem
abbrev AQT := @List.getElem_singleton
abbrev vY := @Nat.pow_add
abbrev ALQ := @Int.emod_eq_of_lt
abbrev vZ := @Nat.mul_one
abbrev v_ := @Int.add_mul
abbrev ALR := @List.pairwise_map
abbrev AFG := @Int.mul_nonneg
abbrev AFH := @Nat.mul_le_mul
abbrev cT := @or_false
abbrev AAI := @Nat.zero_mul
abbrev AAJ := @Int.mul_comm
abbrev ALS := @Bool.not_eq_true
abbrev AQU := @Nat.pow_le_pow_right
abbrev AQV := @Array.toArray_toList
abbrev ALT := @Int.natCast_mul
abbrev ALU := @Option.map_none
abbrev AQW := @List.take_set_of_le
abbrev AQX := @List.drop_set_of_lt
abbrev AFI := @Nat.sub_zero
abbrev AFJ := @Nat.add_comm
abbrev AQY := @Array.getElem?_map
abbrev mZ := @true_and
abbrev AFK := @Nat.pow_succ
abbrev AQZ := @Nat.eq_or_lt_of_le
abbrev AR0 := @Nat.mul_div_cancel
abbrev AR1 := @Option.isSome_some
abbrev AR2 := @List.set_cons_zero
abbrev ALV := @List.drop_drop
abbrev m9 := @Iff.rfl
open Go
structure AZR where
 l:List Nat
attribute [class] AZR
instance A5G:AZR:=⟨[]⟩
structure AZS where
 l:Nat->List Nat
attribute [class] AZS
instance A5C:AZS:=⟨fun _=>[]⟩
structure AZT where
 pre:List Value
 post:List Value
attribute [class] AZT
instance A5D:AZT:=⟨[],[]⟩
structure AZU where
 b:Bool
attribute [class] AZU
instance A5E:AZU:=⟨false⟩
structure Hd0 where
 CE:Nat
 off:Nat
 nil:Bool
 len:Nat
 cap:Nat
 WE:Option Addr
 fz:Bool
structure AZV where
 l:Nat->Hd0
attribute [class] AZV
instance A5F:AZV:=⟨fun _=>⟨0,0,true,0,0,none,false⟩⟩
structure Nm where
 CE:Nat
 off:Nat
 nil:Bool
 len:Nat
 cap:Nat
 WE:Option Addr
 [ins:AZR]
 [pp:AZT]
 [fz:AZU]
 [hd:AZV]
def Nm.fr (m:Nm) (n:Nat):Nat×Nat:=bif m.fz.b then (n,n+1) else (0,0)
theorem Nm.ACF (m:Nm) {n k:Nat} (h:k<n):¬((m.fr n).1<=k/\k<(m.fr n).2):=by
 unfold Nm.fr
 cases m.fz.b
 ·simp
 ·simp;omega
def Nm.arr (m:Nm) (l:List Value):Array Value:=(m.pp.pre++l++m.pp.post).toArray
def Nm.ad (m:Nm):Option Addr:=if m.nil=true then m.WE else some ⟨m.CE,m.off,none⟩
def Hd0.nm (h:Hd0):Nm:={ CE:=h.CE,off:=h.off,nil:=h.nil,len:=h.len,cap:=h.cap,WE:=h.WE,fz:=⟨h.fz⟩ }
def Nm.h0 (m:Nm):Hd0:=⟨m.CE,m.off,m.nil,m.len,m.cap,m.WE,m.fz.b⟩
def Nm.hn (m:Nm) (k:Nat):Nm:=(m.hd.l k).nm
structure Env where
 nm:Nat->Nm
 ds:Nat->Value
 [ins:AZS]
inductive SV where
 |int (k:IntKind) (n:Int)
 |u64 (x:BitVec 64)
 |bool (b:Bool)
 |O2 (b:Bool)
 |prop (p:Prop) (d:Decidable p)
 |str (s:ByteArray)
 |QT (n:Nat)
 |nf (o:Option Nat) (i:Nat)
 |MJ
 |ptr (a:Option Addr)
 |loc (i off:Nat)
 |el (i k sz off:Nat)
 |NV (i:Nat)
 |sub (i lo n sz:Nat)
 |pO (t:Nat)
 |raw (v:Value)
 |agg (cs:List SV)
 |tup (vs:List SV)
 |mpv (i:Nat)
 |clo (f:FuncId) (cs:List SV)
 |tsl (i k q:Nat)
 |tel (i k q j:Nat)
def WO (k:Nat):Nat:=(k%2)*2 ^ 63+0x7ff0000000000000+1+(k / 2)%(2 ^ 52-1)
def pW (a:Option Addr) (n:Nat):Option Addr:=a.map (·.add n)
mutual
def SV.den (E:Env):SV->Value
 | .int k n=> .int k n
 | .u64 x=> .int .u64 (x.toNat:Int)
 | .bool b=> .bool b
 | .O2 b=> .bool b
 | .prop p d=> .bool (@decide p d)
 | .str s=> .string s
 | .QT n=> .float .f64 n
 | .nf o i=> .float .f64 (o.getD (WO (E.nm i).CE))
 | .MJ=> .slice none 0 0
 | .ptr a=> .pointer a
 | .loc i off=> .pointer (some ⟨(E.nm i).CE,(E.nm i).off+off,none⟩)
 | .el i k sz off=> .pointer (some ⟨(E.nm i).CE,(E.nm i).off+(k*sz+off),none⟩)
 | .NV i=> .slice (E.nm i).ad (E.nm i).len (E.nm i).cap
 | .sub i lo n sz=> .slice (if (E.nm i).cap=lo then (E.nm i).ad else pW (E.nm i).ad (lo*sz)) n ((E.nm i).cap-lo)
 | .pO t=>E.ds t
 | .raw v=>v
 | .agg cs=> .agg (AN E cs).toArray
 | .tup vs=> .tuple (AN E vs).toArray
 | .mpv i=> .map (some (E.nm i).CE)
 | .clo f cs=> .func (.func f) #[] (AN E cs).toArray
 | .tsl i k q=> .slice ((E.nm i).hn (k*2+q)).ad ((E.nm i).hn (k*2+q)).len ((E.nm i).hn (k*2+q)).cap
 | .tel i k q j=> .pointer (some ⟨((E.nm i).hn (k*2+q)).CE,((E.nm i).hn (k*2+q)).off+j,none⟩)
def AN (E:Env):List SV->List Value
 | []=>[]
 |v::r=>v.den E::AN E r
end
section
variable {E:Env}
theorem FO (l:List SV):AN E l=l.map (SV.den E):=by
 induction l with
 |nil=>rfl
 |cons v r ih=>simp [AN,ih]
def AW:SV:= .raw undef
def ev (fr:List SV):Operand->SV
 | .tmp t=>fr.getD t AW
 | .const v=>match v with
  | .int .u64 n=>if 0<=n/\n<18446744073709551616 then .u64 (BitVec.ofNat 64 n.toNat) else .raw (.int .u64 n)
  | .int k n=> .int k n
  | .bool b=> .O2 b
  | .string s=> .str s
  | .float .f64 n=> .QT n
  | .slice none 0 0=> .MJ
  | .pointer a=> .ptr a
  |v=> .raw v
 | .global g=> .ptr (some ⟨g,0,none⟩)
 | .func f=> .raw (.func (.func f) #[] #[])
def Sim (E:Env) (fr:List SV) (a:Act):Prop:=a.tmps=(AN E fr).toArray/\a.defers=[]
theorem AAK (fr:List SV) (t:Nat):(AN E fr).getD t undef=((fr.getD t AW).den E):=by
 induction fr generalizing t with
 |nil=>simp [AN,AW,SV.den]
 |cons v r ih=>cases t with
  |zero=>simp [AN]
  |succ t=>simpa [AN] using ih t
theorem VI {fr:List SV} {a:Act} (h:Sim E fr a) (x:Operand):a.eval x=((ev fr x).den E):=by
 cases x with
 |tmp t=>
  show a.tmps.getD t undef=_
  rw[h.1]
  have:=AAK (E:=E) fr t
  simpa [ev] using this
 |const v=>
  show v=_
  cases v with
  |int k n=>
   cases k <;> try rfl
   simp only[ev]
   split
   ·rename_i hn
    simp only[SV.den,tF]
    congr 1
    omega
   ·rfl
  |float k n=>cases k <;> rfl
  |slice a l c=>
   simp only[ev]
   split <;> first|rfl|(simp_all [SV.den])
  |_=>rfl
 |global g=>rfl
 |func f=>rfl
def SF (fr:List SV) (dst:Option Tmp) (v:SV):List SV:=
 match dst with
 |some d=>fr.set d v
 |none=>fr
theorem cU (fr:List SV) (d:Nat) (v:SV):AN E (fr.set d v)=(AN E fr).set d (v.den E):=by
 induction fr generalizing d with
 |nil=>rfl
 |cons x r ih=>cases d with
  |zero=>rfl
  |succ d=>simp [AN,ih]
theorem Sim.put {fr:List SV} {a:Act} (h:Sim E fr a) (dst:Option Tmp) (v:SV):Sim E (SF fr dst v) (a.put dst (v.den E)):=by
 cases dst with
 |none=>exact h
 |some d=>
  refine⟨?_,h.2⟩
  show a.tmps.setIfInBounds d (v.den E)=_
  rw[h.1]
  simp [SF,cU]
structure Rest (w w' :World):Prop where
 os:w'.os=w.os
 tape:w'.tape=w.tape
 output:w'.output=w.output
theorem Rest.refl (w:World):Rest w w:=⟨rfl,rfl,rfl⟩
theorem Rest.trans {a b c:World} (h:Rest a b) (k:Rest b c):Rest a c:=⟨k.os.trans h.os,k.tape.trans h.tape,k.output.trans h.output⟩
def I64 (e:Int):Prop:= -9223372036854775808<=e/\e<=9223372036854775807
def U64 (e:Int):Prop:=0<=e/\e<=18446744073709551615
def InK:IntKind->Int->Prop
 | .i64,e=>I64 e
 | .u64,e=>U64 e
 | .i8,e=> -128<=e/\e<=127
 | .i16,e=> -32768<=e/\e<=32767
 | .i32,e=> -2147483648<=e/\e<=2147483647
 | .u8,e=>0<=e/\e<=255
 | .u16,e=>0<=e/\e<=65535
 | .u32,e=>0<=e/\e<=4294967295
theorem InK.wrap {k:IntKind} {e:Int} (h:InK k e):k.wrap e=e:=by
 cases k
 ·exact IntWalk.i8_in e h
 ·exact IntWalk.i16_in e h
 ·exact IntWalk.i32_in e h
 ·exact IntWalk.i64_in e h
 ·exact IntWalk.u8_in e h
 ·exact IntWalk.u16_in e h
 ·exact IntWalk.u32_in e h
 ·exact IntWalk.u64_in e h
def LB (s:ByteArray) (i:Nat):Int:=((s.data[i]?.getD 0).toNat:Int)
structure DP where
 p:Prop
 d:Decidable p
def cnd:Option DP->Prop
 |none=>True
 |some q=>q.p
abbrev Pu:=Option (Option DP×SV)
def val (v:SV):Pu:=some (none,v)
def UZ (p:Prop) [d:Decidable p] (v:SV):Pu:=some (some ⟨p,d⟩,v)
def cnt:SV->Option (DP×Nat)
 | .int _ n=>some (⟨0<=n,inferInstance⟩,n.toNat)
 | .u64 x=>some (⟨True,inferInstance⟩,x.toNat)
 |_=>none
def shE (op:BinOp) (x c:SV):Pu:=
 match cnt c with
 |none=>none
 |some (q,n)=>match op,x with
  | .shl,.int .i64 a=> @UZ q.p q.d (.int .i64 (IntKind.i64.wrap (a*2 ^ min n 64)))
  | .shr,.int .i64 a=> @UZ q.p q.d (.int .i64 (a / 2 ^ min n 64))
  | .shl,.u64 b=> @UZ q.p q.d (.u64 (b <<< n))
  | .shr,.u64 b=> @UZ q.p q.d (.u64 (b >>> n))
  |_,_=>none
def AAL (op:BinOp) (a b:Int):Int:=
 let x:=BitVec.ofInt 64 a
 let y:=BitVec.ofInt 64 b
 IntKind.i64.wrap (match op with| .and=>x &&& y| .or=>x|||y| .xor=>x ^^^ y|_=>x &&& ~~~y).toNat
def AVK (op:BinOp) (k:IntKind) (a b:Int):Pu:=
 match op with
 | .add=>val (.int k (k.wrap (a+b)))
 | .sub=>val (.int k (k.wrap (a-b)))
 | .mul=>val (.int k (k.wrap (a*b)))
 | .quo=>UZ (¬b=0) (.int k (k.wrap (a.tdiv b)))
 | .rem=>UZ (¬b=0) (.int k (a.tmod b))
 | .and| .or| .xor| .andNot=>match k with| .i64=>val (.int .i64 (AAL op a b))|_=>none
 | .eql=>val (.prop (a=b) inferInstance)
 | .neq=>val (.prop (¬a=b) inferInstance)
 | .lss=>val (.prop (a<b) inferInstance)
 | .leq=>val (.prop (a<=b) inferInstance)
 | .gtr=>val (.prop (a>b) inferInstance)
 | .geq=>val (.prop (a≥b) inferInstance)
 |_=>none
def AVL (op:BinOp) (a b:BitVec 64):Pu:=
 match op with
 | .add=>val (.u64 (a+b))
 | .sub=>val (.u64 (a-b))
 | .mul=>val (.u64 (a*b))
 | .quo=>UZ (¬b=0#64) (.u64 (a / b))
 | .rem=>UZ (¬b=0#64) (.u64 (a%b))
 | .and=>val (.u64 (a &&& b))
 | .or=>val (.u64 (a|||b))
 | .xor=>val (.u64 (a ^^^ b))
 | .andNot=>val (.u64 (a &&& ~~~b))
 | .eql=>val (.prop (a=b) inferInstance)
 | .neq=>val (.prop (¬a=b) inferInstance)
 | .lss=>val (.prop (a.toNat<b.toNat) inferInstance)
 | .leq=>val (.prop (a.toNat<=b.toNat) inferInstance)
 | .gtr=>val (.prop (a.toNat>b.toNat) inferInstance)
 | .geq=>val (.prop (a.toNat≥b.toNat) inferInstance)
 |_=>none
def DJ (a b:Nat):Option Ordering:=FloatKind.f64.format.order a b
def A2H (a:Nat):Nat:=Op.negFloat .f64 a
def GL (op:BinOp) (a b:Nat):Option Nat:=match op with
 | .add=>FloatKind.f64.format.add a b
 | .sub=>FloatKind.f64.format.sub a b
 | .mul=>FloatKind.f64.format.mul a b
 | .quo=>FloatKind.f64.format.div a b
 |_=>none
def cV (n:Int):Nat:=FloatKind.f64.nearest n
def Y4 (a:Nat):Option Int:=(FloatKind.f64.decode a).toInt .zero
def fIn (k:IntKind) (a:Nat):Bool:=match Y4 a with
 |some n=>decide (k.min<=n/\n<=k.max)
 |none=>false
def gJ (a:Nat):Bool:=(FloatKind.f64.decode a).neg
def A2I (a b:Nat):Nat:=match DJ a b with
 |some .lt=>b
 |some .gt=>a
 |_=>if gJ a=true then b else a
def A2J (a b:Nat):Nat:=match DJ a b with
 |some .lt=>a
 |some .gt=>b
 |_=>if gJ a=true then a else b
def AVM (op:BinOp) (a b:Nat):Pu:=
 match op with
 | .add| .sub| .mul| .quo=>UZ ((GL op a b).isSome=true) (.QT ((GL op a b).getD 0))
 | .eql=>val (.prop (DJ a b=some .eq) inferInstance)
 | .neq=>val (.prop (¬DJ a b=some .eq) inferInstance)
 | .lss=>val (.prop (DJ a b=some .lt) inferInstance)
 | .leq=>val (.prop (DJ a b=some .lt\/DJ a b=some .eq) inferInstance)
 | .gtr=>val (.prop (DJ a b=some .gt) inferInstance)
 | .geq=>val (.prop (DJ a b=some .gt\/DJ a b=some .eq) inferInstance)
 |_=>none
def m_ (a b:Option Nat):Option Ordering:=match a,b with
 |some a,some b=>DJ a b
 |_,_=>none
def nfE (op:BinOp) (a b:Option Nat):Pu:=
 match op with
 | .eql=>val (.prop (m_ a b=some .eq) inferInstance)
 | .neq=>val (.prop (¬m_ a b=some .eq) inferInstance)
 | .lss=>val (.prop (m_ a b=some .lt) inferInstance)
 | .leq=>val (.prop (m_ a b=some .lt\/m_ a b=some .eq) inferInstance)
 | .gtr=>val (.prop (m_ a b=some .gt) inferInstance)
 | .geq=>val (.prop (m_ a b=some .gt\/m_ a b=some .eq) inferInstance)
 |_=>none
def toB:SV->Option Bool
 | .bool b=>some b
 | .O2 b=>some b
 | .prop p d=>some (@decide p d)
 |_=>none
def ACG (P:Program) (op:BinOp) (t:TypeId) (x y:SV):Pu:=
 match op with
 | .shl| .shr=>shE op x y
 |op=>match x,y with
  | .int k a,.int k' b=>if k=k' then AVK op k a b else none
  | .u64 a,.u64 b=>AVL op a b
  | .str a,.str b=>match op with
   | .eql=>val (.prop (a=b) inferInstance)
   | .neq=>val (.prop (¬a=b) inferInstance)
   | .add=>UZ (a.size+b.size<=9223372036854775807) (.str (a++b))
   |_=>none
  | .QT a,.QT b=>AVM op a b
  | .nf a _,.nf b _=>nfE op a b
  | .nf a _,.QT b=>nfE op a (some b)
  | .QT a,.nf b _=>nfE op (some a) b
  |x,y=>match toB x,toB y,P.underlying t,op with
   |some a,some b,some .bool,.eql=>val (.prop (a=b) inferInstance)
   |some a,some b,some .bool,.neq=>val (.prop (¬a=b) inferInstance)
   |_,_,_,_=>none
def unE (op:UnOp) (x:SV):Pu:=
 match op,x with
 | .not,.bool b=>val (.bool (!b))
 | .not,.O2 b=>val (.O2 (!b))
 | .not,.prop p _=>val (.prop (¬p) inferInstance)
 | .neg,.int .i64 n=>val (.int .i64 (IntKind.i64.wrap (0-n)))
 | .neg,.u64 x=>val (.u64 (0#64-x))
 | .neg,.QT b=>val (.QT (A2H b))
 | .xor,.u64 x=>val (.u64 (~~~x))
 |_,_=>none
def ALW (P:Program) (src dst:TypeId) (x:SV):Pu:=
 match P.underlying src,P.underlying dst,x with
 |some (.int _),some (.int kd),.int _ n=>match kd with
  | .u64=>val (.u64 (BitVec.ofInt 64 n))
  |kd=>val (.int kd (kd.wrap n))
 |some (.int _),some (.int kd),.u64 b=>match kd with
  | .u64=>val (.u64 b)
  |kd=>val (.int kd (kd.wrap b.toNat))
 |some .string,some .string,.str s=>val (.str s)
 |some (.int _),some (.float .f64),.int _ n=>val (.QT (cV n))
 |some (.int _),some (.float .f64),.u64 x=>val (.QT (cV (x.toNat:Int)))
 |some (.float _),some (.int kd),.QT b=>(match kd with
  | .u64=>UZ (fIn .u64 b=true) (.u64 (BitVec.ofInt 64 ((Y4 b).getD 0)))
  |kd=>UZ (fIn kd b=true) (.int kd ((Y4 b).getD 0)))
 |some (.float _),some (.float .f64),.QT b=>val (.QT b)
 |_,_,_=>none
def IE (P:Program) (t:TypeId):Bool:=
 match P.underlying t with
 |some (.struct _)=>true
 |some (.array _ _)=>true
 |_=>false
def AFL (P:Program) (t:TypeId) (cs:List SV) (off:Nat):Pu:=
 match P.info? t,P.underlying t with
 |some i,some _=>if IE P t then val (.agg ((cs.drop off).take i.size)) else match cs[off]? with
  |some v=>val v
  |none=>none
 |_,_=>none
def Y5:List Bool->Bool
 | []=>true
 | [b]=>b
 |b::r=>b && Y5 r
def AR3 (P:Program) (f:Field) (xs ys:List SV):Option Bool:=
 match f.name != "_", P.underlying f.type, xs[f.offset]?, ys[f.offset]?, P.info? f.type with
 |true,some (.int _),some (.int k a),some (.int k' b),some _=>if k=k' then some (decide (a=b)) else none
 |_,_,_,_,_=>none
def pX (P:Program) (xs ys:List SV):List Field->Option (List Bool)
 | []=>some []
 |f::r=>match AR3 P f xs ys,pX P xs ys r with
  |some b,some l=>some (b::l)
  |_,_=>none
def AVN (P:Program) (op:BinOp) (t:TypeId) (xs ys:List SV):Pu:=
 match P.underlying t with
 |some (.struct fs)=>match P.stoodInHeld t||P.eqGuardType P.depth t with
  |true=>none
  |false=>match pX P xs ys fs.toList,op with
   |some bs,.eql=>val (.bool (Y5 bs))
   |some bs,.neq=>val (.bool (!Y5 bs))
   |_,_=>none
 |_=>none
def AR4 (P:Program) (op:BinOp) (t:TypeId) (x y:SV):Pu:=
 match x,y with
 | .agg xs,.agg ys=>AVN P op t xs ys
 |x,y=>ACG P op t x y
def ACH (P:Program) (t:TypeId) (x:SV) (f:Nat):Pu:=
 match P.underlying t,x with
 |some (.struct fs),.agg cs=>match fs[f]? with
  |some fd=>AFL P fd.type cs fd.offset
  |none=>none
 |_,_=>none
def nA (x:SV) (i:Nat):Pu:=
 match x with
 | .tup vs=>match vs[i]? with
  |some v=>val v
  |none=>none
 |_=>none
def BL:SV->List SV
 | .agg cs=>cs
 |v=>[v]
def D_ (cs:List SV) (off:Nat):List SV->List SV
 | []=>cs
 |v::r=>D_ (cs.set off v) (off+1) r
def cW (place:Nat->Option (Nat×Nat)) (cs:List SV):List (Nat×SV)->Option (List SV)
 | []=>some cs
 |(i,v)::rest=>match place i with
  |none=>none
  |some (off,size)=>if (BL v).length=size/\off+(BL v).length<=cs.length then cW place (D_ cs off (BL v)) rest else none
def OG:SV->Bool
 | .raw (.agg _)=>true
 | .pO _=>true
 |_=>false
def VJ (l:List (Nat×SV)):Bool:=l.all fun q=> !OG q.2
def T0:Value->SV
 | .int .u64 n=>if 0<=n/\n<18446744073709551616 then .u64 (BitVec.ofNat 64 n.toNat) else .raw (.int .u64 n)
 | .int k n=> .int k n
 | .bool b=> .O2 b
 | .string s=> .str s
 | .float .f64 n=> .QT n
 | .slice none 0 0=> .MJ
 | .pointer a=> .ptr a
 |v=> .raw v
def OH (P:Program) (t:TypeId):Option (List SV):=
 match P.info? t with
 |some i=>match i.zero with
  |some z=>some (z.cells.toList.map T0)
  |none=>none
 |none=>none
def PT (P:Program):List Field->Option (List (Nat×Nat))
 | []=>some []
 |f::r=>match P.info? f.type,PT P r with
  |some i,some l=>some ((f.offset,i.size)::l)
  |_,_=>none
def ACI (P:Program) (t:TypeId) (parts:List (Nat×SV)):Pu:=
 if VJ parts=false then none else
 match OH P t,P.underlying t with
 |some z,some (.struct fs)=>match PT P fs.toList with
  |some pl=>match cW (fun i=>pl[i]?) z parts with
   |some cs=>val (.agg cs)
   |none=>none
  |none=>none
 |some z,some (.array _ e)=>match P.info? e with
  |some i=>match cW (fun j=>some (j*i.size,i.size)) z parts with
   |some cs=>val (.agg cs)
   |none=>none
  |none=>none
 |_,_=>none
def idxOf:SV->Option Int
 | .int _ n=>some n
 | .u64 x=>some x.toNat
 |_=>none
def Y6 (P:Program) (t:TypeId) (x i:SV):Pu:=
 match P.underlying t,x,idxOf i with
 |some (.array len e),.loc i off,some n=>match P.info? e with
  |some q=>UZ (0<=n/\n<len) (.loc i (off+n.toNat*q.size))
  |none=>none
 |some (.array len e),.ptr (some ⟨g,off,none⟩),some n=>match P.info? e with
  |some q=>if q.size=1 then UZ (0<=n/\n<len) (.ptr (some ⟨g,off+n.toNat,none⟩)) else none
  |none=>none
 |_,_,_=>none
def Y7 (P:Program) (t:TypeId) (x:SV) (f:Nat):Pu:=
 match P.underlying t,x with
 |some (.struct fs),.loc i off=>match fs[f]? with
  |some fd=>match P.info? fd.type with
   |some q=>if q.size=0 then none else val (.loc i (off+fd.offset))
   |none=>none
  |none=>none
 |some (.struct fs),.el i k sz off=>match fs[f]? with
  |some fd=>match P.info? fd.type with
   |some q=>if q.size=0 then none else val (.el i k sz (off+fd.offset))
   |none=>none
  |none=>none
 |_,_=>none
def bnd (x:Option SV) (d:Nat):Option (Option Int×Nat):=
 match x with
 |none=>some (none,d)
 |some x=>match idxOf x with
  |some n=>some (some n,n.toNat)
  |none=>none
@[reducible] def Bd (l:Option Int) (h:Option Int) (hn cap:Nat):Prop:=
 (match h with|some n=>0<=n/\n<=cap|none=>True)/\(match l with|some n=>0<=n/\n<=hn|none=>True)
instance (l h:Option Int) (hn cap:Nat):Decidable (Bd l h hn cap):=
 match h,l with
 |some n,some m=>inferInstanceAs (Decidable ((0<=n/\n<=cap)/\(0<=m/\m<=hn)))
 |some n,none=>inferInstanceAs (Decidable ((0<=n/\n<=cap)/\True))
 |none,some m=>inferInstanceAs (Decidable (True/\(0<=m/\m<=hn)))
 |none,none=>inferInstanceAs (Decidable (True/\True))
def ACJ (P:Program) (t:TypeId) (x:SV) (low high max:Option SV):Pu:=
 match P.underlying t,x,max with
 |some .string,.str s,none=>match bnd high s.size,bnd low 0 with
  |some (h,hn),some (l,ln)=>UZ (Bd l h hn s.size) (.str (s.extract ln hn))
  |_,_=>none
 |_,_,_=>none
def ACK (P:Program) (t:TypeId) (x i:SV):Pu:=
 match P.underlying t,x,idxOf i with
 |some .string,.str s,some n=>UZ (0<=n/\n<s.size) (.int .u8 (LB s n.toNat))
 |_,_,_=>none
def AVO (P:Program) (t:TypeId) (x:SV):Pu:=
 match P.underlying t,x with
 |some .string,.str s=>val (.int .i64 s.size)
 |some (.array n _),_=>val (.int .i64 n)
 |_,_=>none
def nB (P:Program) (b:Builtin) (argTypes:List TypeId) (args:List SV):Pu:=
 match b,argTypes,args with
 | .len,t::_,x::_=>AVO P t x
 | .max,_,[.int k a,.int k' b]=>if k=k' then val (.int k (if b>a then b else a)) else none
 | .min,_,[.int k a,.int k' b]=>if k=k' then val (.int k (if b<a then b else a)) else none
 | .max,_,[.QT a,.QT b]=>UZ ((DJ a b).isSome=true) (.QT (A2I a b))
 | .min,_,[.QT a,.QT b]=>UZ ((DJ a b).isSome=true) (.QT (A2J a b))
 |_,_,_=>none
def cX (P:Program) (ρ:Operand->SV):Op->Pu
 | .move x=>val (ρ x)
 | .assign x=>val (ρ x)
 | .pick c a b=>match ρ c with
  | .O2 t=>val (if t then ρ a else ρ b)
  |_=>none
 | .binOp op t x y _=>AR4 P op t (ρ x) (ρ y)
 | .unOp op _ x=>unE op (ρ x)
 | .convert src dst x=>ALW P src dst (ρ x)
 | .extract x i=>nA (ρ x) i
 | .field t x f=>ACH P t (ρ x) f
 | .build t parts=>ACI P t (parts.toList.map fun q=>(q.1,ρ q.2))
 | .indexAddr t x i=>Y6 P t (ρ x) (ρ i)
 | .fieldAddr t x f=>Y7 P t (ρ x) f
 | .slice t x l h m=>ACJ P t (ρ x) (l.map ρ) (h.map ρ) (m.map ρ)
 | .index t x i=>ACK P t (ρ x) (ρ i)
 | .nilCheck x=>match ρ x with
  | .el i k sz off=>val (.el i k sz off)
  | .loc i off=>val (.loc i off)
  | .clo f cs=>val (.clo f cs)
  |_=>none
 | .makeFunc fn first captured=>match fn,first with
  | .func f,⟨[]⟩=>val (.clo f (captured.toList.map ρ))
  |_,_=>none
 | .call { callee:= .builtin b,args,argTypes }=>nB P b argTypes.toList (args.toList.map ρ)
 |_=>none
section
variable {P:Program} (w:World)
theorem WQ {x:SV} {b:Bool} (h:toB x=some b):(x.den E)= .bool b:=by
 cases x <;> simp_all [toB,SV.den]
theorem uF {c:SV} {q:DP} {n:Nat} (h:cnt c=some (q,n)) (hp:q.p):∃ k y,(c.den E)= .int k y/\0<=y/\y.toNat=n:=by
 cases c <;> simp only[cnt,BA,DH,reduceCtorEq] at h
 case int k y=>obtain⟨rfl,rfl⟩:=h;exact⟨k,y,rfl,hp,rfl⟩
 case u64 x=>obtain⟨rfl,rfl⟩:=h;exact⟨.u64,x.toNat,rfl,by omega,by simp⟩
theorem Y8 (n:Nat) (h:n<2 ^ 64):IntKind.u64.wrap (n:Int)=n:=IntWalk.u64_in _ ⟨by omega,by omega⟩
theorem LK (n:Int):IntKind.u64.wrap n=n%18446744073709551616:=IntKind.wrap_u64 n
def Pu.ok (r:Pu) (R:SV->Prop):Prop:=∀ p v,r=some (p,v)->cnd p->R v
theorem BJ {v:SV} {R:SV->Prop} (h:R v):(val v).ok R:=by
 intro p v' he _;simp only[val,BA,DH] at he;obtain⟨-,rfl⟩:=he;exact h
theorem KB {q:Prop} [Decidable q] {v:SV} {R:SV->Prop} (h:q->R v):(UZ q v).ok R:=by
 intro p v' he hp;simp only[UZ,BA,DH] at he;obtain⟨rfl,rfl⟩:=he;exact h hp
theorem ok_none {R:SV->Prop}:Pu.ok none R:=by intro p v h;cases h
def EL (E:Env) (P:Program) (s:Sem Value) (w:World) (v:SV):Prop:=s.run P w= .ok (v.den E) w
theorem ALX {k:IntKind} {a y:Int} {yk:IntKind} (hy:0<=y):(Op.shift .shl k a yk y).run P w= .ok (.int k (k.wrap (a*2 ^ (min y.toNat k.bits)))) w:=by
 unfold Op.shift;rw[AD (by omega)];rfl
theorem ALY {k:IntKind} {a y:Int} {yk:IntKind} (hy:0<=y):(Op.shift .shr k a yk y).run P w= .ok (.int k (a.fdiv (2 ^ (min y.toNat k.bits)))) w:=by
 unfold Op.shift;rw[AD (by omega)];rfl
theorem AFM (n:Nat):(2:Int) ^ n=((2 ^ n:Nat):Int):=by simp
theorem AVP (b:BitVec 64) (n:Nat):IntKind.u64.wrap ((b.toNat:Int)*2 ^ min n 64)=((b <<< n).toNat:Int):=by
 have h1:((b.toNat:Int)*2 ^ min n 64)=((b.toNat*2 ^ min n 64:Nat):Int):=by rw[AFM];rfl
 rw[LK,h1,BitVec.toNat_shiftLeft,Nat.shiftLeft_eq]
 have h2:(18446744073709551616:Int)=((2 ^ 64:Nat):Int):=rfl
 rw[h2,←Int.natCast_emod]
 congr 1
 rcases Nat.le_total n 64 with hn|hn
 ·rw[Nat.min_eq_left hn]
 ·rw[Nat.min_eq_right hn]
  obtain⟨d,rfl⟩:=ALD hn
  rw[vY,←vU,Nat.mul_right_comm,Nat.mul_mod_left,Nat.mul_mod_left]
theorem fdiv_pow (a:Int) (n:Nat):a.fdiv (2 ^ n)=a / 2 ^ n:=Int.fdiv_eq_ediv_of_nonneg _ (Int.le_of_lt (Int.pow_pos (by decide)))
theorem AVQ (b:BitVec 64) (n:Nat):(b.toNat:Int).fdiv (2 ^ min n 64)=((b >>> n).toNat:Int):=by
 rw[fdiv_pow,AFM]
 have h1:((b.toNat:Int) / ((2 ^ min n 64:Nat):Int))=((b.toNat / 2 ^ min n 64:Nat):Int):=rfl
 rw[h1,AF4,AF2]
 congr 1
 rcases Nat.le_total n 64 with hn|hn
 ·rw[Nat.min_eq_left hn]
 ·rw[Nat.min_eq_right hn]
  have hb:=b.isLt
  rw[kC hb,kC (tG hb (AQU (by decide) hn))]
theorem binOp_shl (t:TypeId) {k yk:IntKind} {a y:Int}:binOp .shl t (.int k a) (.int yk y)=Op.shift .shl k a yk y:=rfl
theorem binOp_shr (t:TypeId) {k yk:IntKind} {a y:Int}:binOp .shr t (.int k a) (.int yk y)=Op.shift .shr k a yk y:=rfl
theorem AR5 (op:BinOp) (x c:SV) (t:TypeId):(shE op x c).ok (EL E P (binOp op t (x.den E) (c.den E)) w):=by
 unfold shE
 split
 ·exact ok_none
 ·rename_i q n hc
  split
  ·refine @KB _ q.d _ _ fun h1=> ?_
   obtain⟨yk,y,hcd,hy,rfl⟩:=uF hc h1
   rw[EL,hcd]
   simp only[SV.den,binOp_shl,ALX w hy,IntKind.bits]
  ·refine @KB _ q.d _ _ fun h1=> ?_
   obtain⟨yk,y,hcd,hy,rfl⟩:=uF hc h1
   rw[EL,hcd]
   simp only[SV.den,binOp_shr,ALY w hy,IntKind.bits,fdiv_pow]
  ·refine @KB _ q.d _ _ fun h1=> ?_
   obtain⟨yk,y,hcd,hy,rfl⟩:=uF hc h1
   rw[EL,hcd]
   simp only[SV.den,binOp_shl,ALX w hy,IntKind.bits,AVP]
  ·refine @KB _ q.d _ _ fun h1=> ?_
   obtain⟨yk,y,hcd,hy,rfl⟩:=uF hc h1
   rw[EL,hcd]
   simp only[SV.den,binOp_shr,ALY w hy,IntKind.bits,AVQ]
  ·exact ok_none
theorem AVR (op:BinOp) (k:IntKind) (a b:Int) (t:TypeId) (h1:op≠ .shl) (h2:op≠ .shr):
  (AVK op k a b).ok (EL E P (binOp op t (.int k a) (.int k b)) w):=by
 have hk:¬(k≠k):=by simp
 cases op <;> simp only[AVK,ne_eq,not_true,reduceCtorEq,not_false_eq_true] at*
 case add=>exact BJ (by simp [EL,binOp,Op.intArith,SV.den])
 case sub=>exact BJ (by simp [EL,binOp,Op.intArith,SV.den])
 case mul=>exact BJ (by simp [EL,binOp,Op.intArith,SV.den])
 case quo=>exact KB fun h=>by simp [EL,binOp,Op.intDiv,SV.den,h]
 case rem=>exact KB fun h=>by simp [EL,binOp,Op.intDiv,SV.den,h]
 case and=>split <;> first|exact ok_none|exact BJ rfl
 case or=>split <;> first|exact ok_none|exact BJ rfl
 case xor=>split <;> first|exact ok_none|exact BJ rfl
 case andNot=>split <;> first|exact ok_none|exact BJ rfl
 case eql=>exact BJ (by simp [EL,binOp,Op.intCmp,SV.den];rfl)
 case neq=>exact BJ (by simp [EL,binOp,Op.intCmp,SV.den];rfl)
 case lss=>exact BJ (by simp [EL,binOp,Op.intCmp,SV.den])
 case leq=>exact BJ (by simp [EL,binOp,Op.intCmp,SV.den])
 case gtr=>exact BJ (by simp [EL,binOp,Op.intCmp,SV.den])
 case geq=>exact BJ (by simp [EL,binOp,Op.intCmp,SV.den])
theorem rY (a b:BitVec 64):((a.toNat:Int)=(b.toNat:Int))↔a=b:=by
 rw[Int.ofNat_inj];exact BitVec.toNat_inj
theorem KO (a:BitVec 64):BitVec.ofInt 64 (a.toNat:Int)=a:=by simp
theorem AVS (op:BinOp) (a b:BitVec 64) (t:TypeId) (h1:op≠ .shl) (h2:op≠ .shr):
  (AVL op a b).ok (EL E P (binOp op t (.int .u64 a.toNat) (.int .u64 b.toNat)) w):=by
 have DO:=fun x:BitVec 64=>x.isLt
 have hw:∀ x:BitVec 64,IntKind.u64.wrap (x.toNat:Int)=x.toNat:=fun x=>Y8 _ x.isLt
 have h64:(18446744073709551616:Int)=((2 ^ 64:Nat):Int):=rfl
 have hm:∀ n:Nat,(n:Int)%18446744073709551616=((n%2 ^ 64:Nat):Int):=fun n=>rfl
 have key:∀ (v:Value) (o:SV),(∀ x,o= .u64 x->v= .int .u64 (x.toNat:Int))->(∃ x,o= .u64 x)->(Result.ok v w=Result.ok (o.den E) w):=by
  rintro v o h ⟨x,rfl⟩;rw[h x rfl];rfl
 cases op <;> simp only[AVL,ne_eq,not_true,reduceCtorEq,not_false_eq_true] at*
 case add=>
  refine BJ ?_
  have e:IntKind.u64.wrap ((a.toNat:Int)+b.toNat)=((a+b).toNat:Int):=by
   rw[LK,BitVec.toNat_add,←AFF,hm]
  show Result.ok (Value.int .u64 (IntKind.u64.wrap ((a.toNat:Int)+b.toNat))) w=_
  rw[e];rfl
 case sub=>
  refine BJ ?_
  have e:IntKind.u64.wrap ((a.toNat:Int)-b.toNat)=((a-b).toNat:Int):=by
   rw[LK,BitVec.toNat_sub]
   have:=DO a;have:=DO b
   omega
  show Result.ok (Value.int .u64 (IntKind.u64.wrap ((a.toNat:Int)-b.toNat))) w=_
  rw[e];rfl
 case mul=>
  refine BJ ?_
  have e:IntKind.u64.wrap ((a.toNat:Int)*b.toNat)=((a*b).toNat:Int):=by
   rw[LK,BitVec.toNat_mul,←ALT,hm]
  show Result.ok (Value.int .u64 (IntKind.u64.wrap ((a.toNat:Int)*b.toNat))) w=_
  rw[e];rfl
 case quo=>
  refine KB fun h=> ?_
  have h0:¬(b.toNat:Int)=0:=by
   intro h';apply h;apply ACB;have:b.toNat=0:=by omega
   rw[this];rfl
  have e:IntKind.u64.wrap ((a.toNat:Int).tdiv b.toNat)=((a / b).toNat:Int):=by
   rw[Int.tdiv_eq_ediv_of_nonneg (by omega),←hw (a / b),vR];rfl
  have e2:(binOp .quo t (.int .u64 a.toNat) (.int .u64 b.toNat)).run P w= .ok (.int .u64 (IntKind.u64.wrap ((a.toNat:Int).tdiv b.toNat))) w:=by
   show (Op.intDiv .quo .u64 a.toNat b.toNat).run P w=_
   unfold Op.intDiv;rw[AD h0];rfl
  rw[EL,e2,e];rfl
 case rem=>
  refine KB fun h=> ?_
  have h0:¬(b.toNat:Int)=0:=by
   intro h';apply h;apply ACB;have:b.toNat=0:=by omega
   rw[this];rfl
  have e:((a.toNat:Int).tmod b.toNat)=((a%b).toNat:Int):=by
   rw[Int.tmod_eq_emod_of_nonneg (by omega),AF9];rfl
  have e2:(binOp .rem t (.int .u64 a.toNat) (.int .u64 b.toNat)).run P w= .ok (.int .u64 ((a.toNat:Int).tmod b.toNat)) w:=by
   show (Op.intDiv .rem .u64 a.toNat b.toNat).run P w=_
   unfold Op.intDiv;rw[AD h0];rfl
  rw[EL,e2,e];rfl
 case and=>
  refine BJ ?_
  show Result.ok (Value.int .u64 (IntKind.u64.wrap ((BitVec.ofInt 64 a.toNat &&& BitVec.ofInt 64 b.toNat).toNat:Int))) w=_
  rw[KO,KO,hw];rfl
 case or=>
  refine BJ ?_
  show Result.ok (Value.int .u64 (IntKind.u64.wrap ((BitVec.ofInt 64 a.toNat|||BitVec.ofInt 64 b.toNat).toNat:Int))) w=_
  rw[KO,KO,hw];rfl
 case xor=>
  refine BJ ?_
  show Result.ok (Value.int .u64 (IntKind.u64.wrap ((BitVec.ofInt 64 a.toNat ^^^ BitVec.ofInt 64 b.toNat).toNat:Int))) w=_
  rw[KO,KO,hw];rfl
 case andNot=>
  refine BJ ?_
  show Result.ok (Value.int .u64 (IntKind.u64.wrap ((BitVec.ofInt 64 a.toNat &&& ~~~ BitVec.ofInt 64 b.toNat).toNat:Int))) w=_
  rw[KO,KO,hw];rfl
 case eql=>
  refine BJ ?_
  show Result.ok (Value.bool ((a.toNat:Int)==(b.toNat:Int))) w=Result.ok (Value.bool (decide (a=b))) w
  congr 2;rw[a_,WN,NO];exact rY a b
 case neq=>
  refine BJ ?_
  show Result.ok (Value.bool ((a.toNat:Int) !=(b.toNat:Int))) w=Result.ok (Value.bool (decide (¬a=b))) w
  congr 2;rw[a_,bne_iff_ne,NO,ne_eq,rY]
 case lss=>exact BJ (by simp [EL,binOp,Op.intCmp,SV.den])
 case leq=>exact BJ (by simp [EL,binOp,Op.intCmp,SV.den])
 case gtr=>exact BJ (by simp [EL,binOp,Op.intCmp,SV.den])
 case geq=>exact BJ (by simp [EL,binOp,Op.intCmp,SV.den])
theorem ACL (d:Nat) {t:TypeId} (h:P.underlying t=some .bool) (a b:Bool):(Op.equalIn (d+1) t (.bool a) (.bool b)).run P w= .ok (a==b) w:=by
 simp [Op.equalIn,run_underlying h]
theorem run_equal_bool {t:TypeId} (h:P.underlying t=some .bool) (a b:Bool):(Op.equal t (.bool a) (.bool b)).run P w= .ok (a==b) w:=
 ACL w 9999 h a b
theorem AR6 (a b:ByteArray):(a.toList==b.toList)=decide (a=b):=by
 rw[a_,WN,NO,ByteArray.toList_eq,ByteArray.toList_eq]
 constructor
 ·intro h;cases a;cases b;simp at h;simp [h]
 ·rintro rfl;rfl
theorem AVT (op:BinOp) (a b:Nat) (t:TypeId):(AVM op a b).ok (EL E P (binOp op t (.float .f64 a) (.float .f64 b)) w):=by
 have arith:∀ op:BinOp,(∀ r,GL op a b=some r->(Op.floatArith op .f64 a b).run P w= .ok (.float .f64 r) w)->(UZ ((GL op a b).isSome=true) (.QT ((GL op a b).getD 0)):Pu).ok (EL E P (Op.floatArith op .f64 a b) w):=by
  intro op hr
  refine KB fun h=> ?_
  obtain⟨r,h1⟩:=ALB.1 h
  rw[EL,hr r h1,h1];rfl
 have cmp:∀ (c:Bool) (p:Prop) [Decidable p],(c=true↔p)->Result.ok (Value.bool c) w=Result.ok ((SV.prop p inferInstance).den E) w:=by
  intro c p _ h
  have:c=decide p:=by rw[a_,h,NO]
  rw[this];rfl
 cases op <;> simp only[AVM]
 case add=>exact arith .add fun r h=>by simp only[GL] at h;simp [Op.floatArith,h]
 case sub=>exact arith .sub fun r h=>by simp only[GL] at h;simp [Op.floatArith,h]
 case mul=>exact arith .mul fun r h=>by simp only[GL] at h;simp [Op.floatArith,h]
 case quo=>exact arith .quo fun r h=>by simp only[GL] at h;simp [Op.floatArith,h]
 case eql=>exact BJ (cmp (DJ a b==some .eq) _ (by simp))
 case neq=>exact BJ (cmp (DJ a b !=some .eq) _ (by simp))
 case lss=>exact BJ (cmp (DJ a b==some .lt) _ (by simp))
 case leq=>exact BJ (cmp (DJ a b==some .lt||DJ a b==some .eq) _ (by simp))
 case gtr=>exact BJ (cmp (DJ a b==some .gt) _ (by simp))
 case geq=>exact BJ (cmp (DJ a b==some .gt||DJ a b==some .eq) _ (by simp))
 all_goals exact ok_none
theorem AIX (k:Nat):∃ s f,FloatKind.f64.format.read (WO k)= .nan s f:=by
 unfold Ieee.Format.read
 have hb:FloatKind.f64.format.binade=4503599627370496:=by decide
 have hs:FloatKind.f64.format.signWeight=9223372036854775808:=by decide
 have hi:FloatKind.f64.format.infRung=9218868437227405312:=by decide
 simp only[hb,hs,hi]
 have h' :9218868437227405312<WO k%9223372036854775808:=by
  show 9218868437227405312<((k%2)*9223372036854775808+9218868437227405312+1+(k / 2)%4503599627370495)%9223372036854775808
  have hq:(k / 2)%4503599627370495<4503599627370495:=SE _ (by decide)
  have hp:k%2<2:=SE _ (by decide)
  generalize k%2=p at*
  generalize (k / 2)%4503599627370495=q at*
  omega
 rw[AD (by omega),AD (by omega),AD (by omega)]
 exact⟨_,_,rfl⟩
theorem AFN (k b:Nat):DJ (WO k) b=none/\DJ b (WO k)=none:=by
 obtain⟨s,f,h⟩:=AIX k
 unfold DJ Ieee.Format.order
 rw[h]
 refine⟨rfl, ?_⟩
 unfold Ieee.Datum.order
 cases FloatKind.f64.format.read b <;> rfl
theorem AO7 (a b:Option Nat) (k j:Nat):DJ (a.getD (WO k)) (b.getD (WO j))=m_ a b:=by
 cases a with
 |none=>exact (AFN k _).1
 |some a=>cases b with
  |none=>exact (AFN j _).2
  |some b=>rfl
theorem AIY (op:BinOp) (a b:Option Nat) (k j:Nat) (t:TypeId):(nfE op a b).ok (EL E P (binOp op t (.float .f64 (a.getD (WO k))) (.float .f64 (b.getD (WO j)))) w):=by
 have cmp:∀ (c:Bool) (p:Prop) [Decidable p],(c=true↔p)->Result.ok (Value.bool c) w=Result.ok ((SV.prop p inferInstance).den E) w:=by
  intro c p _ h
  have:c=decide p:=by rw[a_,h,NO]
  rw[this];rfl
 have e:=AO7 a b k j
 generalize a.getD (WO k)=A at e ⊢
 generalize b.getD (WO j)=B at e ⊢
 cases op <;> simp only[nfE]
 case eql=>exact BJ (cmp (DJ A B==some .eq) _ (by rw[e];simp))
 case neq=>exact BJ (cmp (DJ A B !=some .eq) _ (by rw[e];simp))
 case lss=>exact BJ (cmp (DJ A B==some .lt) _ (by rw[e];simp))
 case leq=>exact BJ (cmp (DJ A B==some .lt||DJ A B==some .eq) _ (by rw[e];simp))
 case gtr=>exact BJ (cmp (DJ A B==some .gt) _ (by rw[e];simp))
 case geq=>exact BJ (cmp (DJ A B==some .gt||DJ A B==some .eq) _ (by rw[e];simp))
 all_goals exact ok_none
theorem AVU (op:BinOp) (t:TypeId) (x y:SV):(ACG P op t x y).ok (EL E P (binOp op t (x.den E) (y.den E)) w):=by
 unfold ACG
 split
 ·exact AR5 w _ x y t
 ·exact AR5 w _ x y t
 ·rename_i h1 h2
  split
  ·split
   ·rename_i hk;subst hk
    exact AVR w op _ _ _ t h1 h2
   ·exact ok_none
  ·exact AVS w op _ _ t h1 h2
  ·split
   ·refine BJ ?_
    rename_i a b _
    show Result.ok (Value.bool (a.toList==b.toList)) w=Result.ok (Value.bool (decide (a=b))) w
    rw[AR6]
   ·refine BJ ?_
    rename_i a b _
    show Result.ok (Value.bool (!(a.toList==b.toList))) w=Result.ok (Value.bool (decide (¬a=b))) w
    rw[AR6,decide_not]
   ·refine KB fun bD=> ?_
    rename_i a b _
    show (if ((a.size+b.size:Nat):Int)>IntKind.i64.max then (unsupported _:Sem Value) else pure (.string (a++b))).run P w=_
    rw[AD (by have:IntKind.i64.max=9223372036854775807:=(by decide);omega)]
    rfl
   ·exact ok_none
  ·exact AVT w _ _ _ t
  ·exact AIY w _ _ _ _ _ t
  ·exact AIY w _ _ (some _) _ 0 t
  ·exact AIY w _ (some _) _ 0 _ t
  ·split
   ·rename_i ha hb hu
    refine BJ ?_
    rw[EL,WQ ha,WQ hb]
    simp [binOp,SV.den,run_equal_bool w hu];rfl
   ·rename_i ha hb hu
    refine BJ ?_
    rw[EL,WQ ha,WQ hb]
    simp [binOp,SV.den,run_equal_bool w hu];rfl
   ·exact ok_none
theorem AZW (op:UnOp) (x:SV):(unE op x).ok (EL E P (Op.unary op (x.den E)) w):=by
 unfold unE
 split
 ·exact BJ (show Sem.run _ _ _=_ from rfl)
 ·exact BJ (show Sem.run _ _ _=_ from rfl)
 ·exact BJ (by simp [EL,Op.unary,SV.den])
 ·exact BJ (by simp only[EL,Op.unary,SV.den,Op.intArith];rfl)
 ·rename_i x
  refine BJ ?_
  have e:IntKind.u64.wrap ((0:Int)-(x.toNat:Int))=((0#64-x).toNat:Int):=by
   rw[LK,BitVec.toNat_sub]
   have:=x.isLt
   simp only[tF]
   omega
  show Result.ok (Value.int .u64 (IntKind.u64.wrap ((0:Int)-(x.toNat:Int)))) w=_
  rw[e];rfl
 ·exact BJ rfl
 ·rename_i x
  refine BJ ?_
  have hw:∀ x:BitVec 64,IntKind.u64.wrap (x.toNat:Int)=x.toNat:=fun x=>Y8 _ x.isLt
  have:BitVec.ofInt 64 (IntKind.u64.max) ^^^ x= ~~~x:=by
   have:BitVec.ofInt 64 (IntKind.u64.max)=BitVec.allOnes 64:=by decide
   rw[this,BitVec.allOnes_xor]
  show Result.ok (Value.int .u64 (IntKind.u64.wrap ((BitVec.ofInt 64 (IntKind.u64.max) ^^^ BitVec.ofInt 64 (x.toNat:Int)).toNat:Int))) w=_
  rw[KO,this,hw];rfl
 ·exact ok_none
theorem AIZ (n:Int):IntKind.u64.wrap n=((BitVec.ofInt 64 n).toNat:Int):=by
 rw[LK,vK]
 have:(0:Int)<=n%18446744073709551616:=by omega
 simp;omega
theorem PU {src dst:TypeId} {ks kd k:IntKind} (hs:P.underlying src=some (.int ks)) (hd:P.underlying dst=some (.int kd)) (n:Int):
  (convert src dst (.int k n)).run P w= .ok (.int kd (kd.wrap n)) w:=by
 simp [convert,run_underlying hs,run_underlying hd,Conv.intToInt]
theorem AR7 (src dst:TypeId) (x:SV):(ALW P src dst x).ok (EL E P (convert src dst (x.den E)) w):=by
 unfold ALW
 split
 ·rename_i hs hd
  split
  ·exact BJ (by simp only[EL,SV.den,PU w hs hd,AIZ])
  ·exact BJ (by simp only[EL,SV.den,PU w hs hd])
 ·rename_i hs hd
  split
  ·exact BJ (by simp only[EL,SV.den,PU w hs hd];rw[Y8 _ (BitVec.isLt _)])
  ·exact BJ (by simp only[EL,SV.den,PU w hs hd])
 ·rename_i hs hd
  exact BJ (by simp [EL,convert,run_underlying hs,run_underlying hd,SV.den])
 ·rename_i hs hd
  exact BJ (by simp [EL,convert,run_underlying hs,run_underlying hd,SV.den,Conv.intToFloat,cV])
 ·rename_i hs hd
  exact BJ (by simp [EL,convert,run_underlying hs,run_underlying hd,SV.den,Conv.intToFloat,cV])
 ·rename_i hs hd
  rename_i fk kd0 b
  have key:∀ kd:IntKind,P.underlying dst=some (.int kd)->fIn kd b=true->(convert src dst (.float .f64 b)).run P w= .ok (.int kd ((Y4 b).getD 0)) w:=by
   intro kd hd h
   unfold fIn at h
   split at h
   ·rename_i n hn
    simp only[JL] at h
    have hn' :=hn
    unfold Y4 at hn'
    simp [convert,run_underlying hs,run_underlying hd,Conv.floatToInt,hn',hn,h.1,h.2]
   ·cases h
  split
  ·refine KB fun h=> ?_
   refine (key .u64 hd h).trans ?_
   unfold fIn at h
   split at h
   ·rename_i n hn
    simp only[JL] at h
    have h1:(0:Int)<=n:=h.1
    have h2:n<=18446744073709551615:=h.2
    rw[hn]
    show Result.ok (Value.int .u64 n) w=Result.ok (Value.int .u64 ((BitVec.ofInt 64 n).toNat:Int)) w
    rw[vK]
    congr 2
    have:((n%((2 ^ 64:Nat):Int)).toNat:Int)=n:=by
     rw[ALQ h1 (by omega)];omega
    exact this.symm
   ·cases h
  ·exact KB fun h=>key _ hd h
 ·rename_i hs hd
  exact BJ (by simp [EL,convert,run_underlying hs,run_underlying hd,SV.den,Conv.floatToFloat])
 ·exact ok_none
theorem AFO (op:BinOp) (t:TypeId) (x y:Operand) {a:Value} (b:Value) (h1:∀ c,a≠ .agg c) (h2:a≠ .nilIface):(eqGuard op t x y a b).run P w= .ok () w:=by
 cases a <;> first|exact absurd rfl h2|exact absurd rfl (h1 _)|(cases op <;> rfl)
theorem AJ0 {op:BinOp} {t:TypeId} {x y:SV} {r:Option DP×SV} (h:ACG P op t x y=some r):(∀ c,(x.den E)≠ .agg c)/\(x.den E)≠ .nilIface:=by
 have hb:(∃ v,x= .raw v)\/(∃ v,x= .agg v)\/(∃ v,x= .pO v)\/((∀ c,(x.den E)≠ .agg c)/\(x.den E)≠ .nilIface):=by
  cases x with
  |raw v=>exact .inl ⟨v,rfl⟩
  |agg v=>exact .inr (.inl ⟨v,rfl⟩)
  |pO v=>exact .inr (.inr (.inl ⟨v,rfl⟩))
  |_=>exact .inr (.inr (.inr ⟨fun c hc=>by simp [SV.den] at hc,fun hc=>by simp [SV.den] at hc⟩))
 rcases hb with ⟨v,rfl⟩|⟨v,rfl⟩|⟨v,rfl⟩|hb
 ·exfalso
  unfold ACG at h
  split at h
  ·unfold shE at h;split at h <;> simp at h
  ·unfold shE at h;split at h <;> simp at h
  ·split at h <;> simp_all [toB]
 ·exfalso
  unfold ACG at h
  split at h
  ·unfold shE at h;split at h <;> simp at h
  ·unfold shE at h;split at h <;> simp at h
  ·split at h <;> simp_all [toB]
 ·exfalso
  unfold ACG at h
  split at h
  ·unfold shE at h;split at h <;> simp at h
  ·unfold shE at h;split at h <;> simp at h
  ·split at h <;> simp_all [toB]
 ·exact hb
theorem G4 (a b:List SV):AN E (a++b)=AN E a++AN E b:=by simp [FO]
theorem AT (a:List SV):(AN E a).length=a.length:=by simp [FO]
theorem GM (a:List SV) (i:Nat):(AN E a)[i]? =(a[i]?).map (SV.den E):=by simp [FO]
theorem O3 {t:TypeId} {d:TypeDesc} (h:P.underlying t=some d):(isAgg t).run P w= .ok (IE P t) w:=by
 unfold isAgg IE
 rw[h]
 cases d <;> simp [run_underlying h]
theorem AR8 (t:TypeId) (cs:List SV) (off:Nat):(AFL P t cs off).ok fun v=>(part t (AN E cs).toArray off).run P w= .ok (v.den E) w:=by
 unfold AFL
 split
 ·rename_i i d hi hd
  split
  ·rename_i ha
   refine BJ ?_
   simp [part,O3 w hd,ha,sizeOf,typeInfo,hi,SV.den,FO,List.map_take,List.map_drop]
  ·rename_i ha
   split
   ·rename_i v hv
    refine BJ ?_
    simp [part,O3 w hd,ha,GM,hv]
   ·exact ok_none
 ·exact ok_none
theorem AO8 (b:Bool):∀ l,Y5 (b::l)=(b && Y5 l)
 | []=>by simp [Y5]
 |_::_=>rfl
theorem AFP {t:TypeId} {kk:IntKind} (hu:P.underlying t=some (.int kk)) (d:Nat) (k:IntKind) (a b:Int):
  (Op.equalIn (d+1) t (.int k a) (.int k b)).run P w= .ok (decide (a=b)) w:=by
 rw[Op.equalIn,Sem.run_bind,run_underlying hu]
 show (if k = k then pure (a == b) else stuck "==: kinds differ" : Sem Bool).run P w = _
 rw[AA rfl]
 rfl
def ACN (d:Nat) (X Y:Array Value) (f:Field):Sem (ForInStep (Option Bool×Unit)):=
 if f.name ≠ "_" then do
  if !(<-Op.equalIn d f.type (<-part f.type X f.offset) (<-part f.type Y f.offset)) then pure (ForInStep.done (some false,()))
  else pure (ForInStep.yield (none,()))
 else pure (ForInStep.yield (none,()))
theorem AJ1 {f:Field} {d:Nat} {xs ys:List SV} {b:Bool} (h:AR3 P f xs ys=some b):
  (ACN (d+1) (AN E xs).toArray (AN E ys).toArray f).run P w= .ok (if b=true then .yield (none,()) else .done (some false,())) w:=by
 unfold AR3 at h
 split at h
 ·rename_i k0 k a k' c i hn hu hx hy hi
  split at h
  ·rename_i hk
   subst hk
   simp only[BA] at h
   subst h
   have hn' : f.name ≠ "_" := by simpa using hn
   have h0:IE P f.type=false:=by unfold IE;rw[hu]
   have hp:∀ zs:List SV,∀ n,zs[f.offset]? =some (.int k n)->(part f.type (AN E zs).toArray f.offset).run P w= .ok (.int k n) w:=by
    intro zs n hz
    simp [part,O3 w hu,h0,GM,hz,SV.den]
   unfold ACN
   rw[AA hn']
   simp only[Sem.run_bind,hp xs a hx,hp ys c hy,Result.andThen,AFP w hu]
   by_cases hac:a=c
   ·simp [hac]
   ·simp [hac]
  ·cases h
 ·cases h
theorem wA (d:Nat) (xs ys:List SV):∀ (fs:List Field) (bs:List Bool),pX P xs ys fs=some bs→
  (forIn fs ((none,()):Option Bool×Unit) (fun f _=>ACN (d+1) (AN E xs).toArray (AN E ys).toArray f):Sem (Option Bool×Unit)).run P w= .ok (if Y5 bs=true then none else some false,()) w
 | [],bs,h=>by
  simp only[pX,BA] at h
  subst h
  simp [Y5]
 |f::r,bs,h=>by
  rw[pX] at h
  split at h
  ·rename_i b l hb hl
   simp only[BA] at h
   subst h
   rw[List.forIn_cons,Sem.run_bind,AJ1 w hb,AO8]
   cases b with
   |true=>exact wA d xs ys r l hl
   |false=>rfl
  ·cases h
theorem AAM {t:TypeId} {fs:Array Field} {xs ys:List SV} {bs:List Bool} (hu:P.underlying t=some (.struct fs)) (hs:P.stoodInHeld t=false) (h:pX P xs ys fs.toList=some bs):
  (Op.equal t (.agg (AN E xs).toArray) (.agg (AN E ys).toArray)).run P w= .ok (Y5 bs) w:=by
 have h1:=wA (E:=E) (P:=P) w 9998 xs ys fs.toList bs h
 rw[Op.equal,Op.maxDepth,Op.equalIn,Sem.run_bind,run_underlying hu]
 unfold ACN at h1
 have hp:(program:Sem Program).run P w= .ok P w:=rfl
 simp only[Result.andThen,Sem.run_bind,hp,hs,VF,KA]
 rw[<-Array.forIn_toList]
 erw [h1]
 by_cases hb:Y5 bs=true
 ·simp [hb]
 ·simp only[ALS] at hb
  rw[hb];rfl
theorem AVV (op:BinOp) (t:TypeId) (xs ys:List SV) (x y:Operand):(AVN P op t xs ys).ok (EL E P (do eqGuard op t x y (.agg (AN E xs).toArray) (.agg (AN E ys).toArray);binOp op t (.agg (AN E xs).toArray) (.agg (AN E ys).toArray)) w):=by
 unfold AVN
 split
 ·rename_i fs hu
  split
  ·exact ok_none
  ·rename_i hg
   simp only[Bool.or_eq_false_iff] at hg
   split
   ·rename_i bs hb
    refine BJ ?_
    have h:=AAM (E:=E) (P:=P) w hu hg.1 hb
    rw[EL,Sem.run_bind]
    have h2:(eqGuard .eql t x y (.agg (AN E xs).toArray) (.agg (AN E ys).toArray)).run P w= .ok () w:=by
     simp [eqGuard,hg.2]
    rw[h2]
    show (do pure (.bool (<-Op.equal t (.agg (AN E xs).toArray) (.agg (AN E ys).toArray))):Sem Value).run P w=_
    rw[Sem.run_bind,h]
    rfl
   ·rename_i bs hb
    refine BJ ?_
    have h:=AAM (E:=E) (P:=P) w hu hg.1 hb
    rw[EL,Sem.run_bind]
    have h2:(eqGuard .neq t x y (.agg (AN E xs).toArray) (.agg (AN E ys).toArray)).run P w= .ok () w:=by
     simp [eqGuard,hg.2]
    rw[h2]
    show (do pure (.bool (!(<-Op.equal t (.agg (AN E xs).toArray) (.agg (AN E ys).toArray)))):Sem Value).run P w=_
    rw[Sem.run_bind,h]
    rfl
   ·exact ok_none
 ·exact ok_none
theorem AO9 (t:TypeId) (x:SV) (f:Nat):(ACH P t x f).ok (EL E P (Instr.field t (x.den E) f) w):=by
 unfold ACH
 split
 ·rename_i fs cs hu
  split
  ·rename_i fd hf
   have h:=AR8 (E:=E) (P:=P) w fd.type cs fd.offset
   intro p v he hp
   have:=h p v he hp
   rw[EL]
   simp only[Instr.field,SV.den,Sem.run_bind,run_underlying hu,Result.andThen,hf]
   simpa [asAgg] using this
  ·exact ok_none
 ·exact ok_none
theorem AFQ (x:SV) (i:Nat):(nA x i).ok (EL E P (Instr.extract (x.den E) i) w):=by
 unfold nA
 split
 ·split
  ·rename_i v hv
   refine BJ ?_
   simp [EL,Instr.extract,SV.den,GM,hv]
  ·exact ok_none
 ·exact ok_none
theorem kY (v:SV) (h:OG v=false):(v.den E).cells=(AN E (BL v)).toArray:=by
 cases v with
 |raw u=>cases u <;> first|rfl|simp [OG] at h
 |pO t=>simp [OG] at h
 |_=>rfl
theorem AFR (cs:List SV) (off:Nat) (vs:List SV):AN E (D_ cs off vs)=(vs.zipIdx off).foldl (fun c (x,j)=>c.set j (x.den E)) (AN E cs):=by
 induction vs generalizing cs off with
 |nil=>rfl
 |cons v r ih=>simp [D_,ih,cU]
theorem kH (cs:List SV) (off:Nat) (vs:List SV):(D_ cs off vs).length=cs.length:=by
 induction vs generalizing cs off with
 |nil=>rfl
 |cons v r ih=>simp [D_,ih]
theorem AJ2 (off:Nat) (vs:List Value) (cs:Array Value) (k:Nat):
  (vs.zipIdx k).foldl (fun cs (c,j)=>cs.setIfInBounds (off+j) c) cs=((vs.zipIdx (off+k)).foldl (fun c (x,j)=>c.set j x) cs.toList).toArray:=by
 induction vs generalizing cs k with
 |nil=>simp
 |cons v r ih=>
  simp only[List.zipIdx_cons,kE]
  rw[ih]
  simp [O1]
theorem Y9 (place:Nat->Option (Nat×Nat)) (cs kZ :List SV) (l:List (Nat×SV)) (hn:VJ l=true) (h:cW place cs l=some kZ):
  Instr.fill place (AN E cs).toArray (l.map fun q=>(q.1,q.2.den E))=some (AN E kZ).toArray:=by
 induction l generalizing cs with
 |nil=>simp only[cW,BA] at h;subst h;rfl
 |cons q r ih=>
  obtain⟨i,v⟩:=q
  simp only[VJ,vV,ID,TZ] at hn
  simp only[cW] at h
  cases hp:place i with
  |none=>simp [hp] at h
  |some os=>
   obtain⟨off,size⟩:=os
   simp only[hp] at h
   split at h
   ·rename_i hc
    have SG:=kY (E:=E) v hn.1
    have hlen:(v.den E).cells.size=(BL v).length:=by rw[SG];simp [AT]
    simp only[MN,Instr.fill,hp,hlen]
    have e1:((BL v).length !=size||decide (off+(BL v).length>(AN E cs).toArray.size))=false:=by
     simp [AT];omega
    rw[AD (by simp [AT];omega)]
    have e2:((v.den E).cells.zipIdx.foldl (fun cs (c,j)=>cs.setIfInBounds (off+j) c) (AN E cs).toArray)=(AN E (D_ cs off (BL v))).toArray:=by
     rw[SG]
     have:=AJ2 off (AN E (BL v)) (AN E cs).toArray 0
     simp only[NP] at this
     rw[AFR]
     simp only[FO,List.zipIdx_map,List.foldl_map] at this ⊢
     simp at this ⊢
     rw[List.zipIdx_map,List.foldl_map]
     exact this
    rw[e2]
    exact ih _ hn.2 h
   ·cases h
theorem AJ3 (v:Value):((T0 v).den E)=v:=by
 cases v with
 |int k n=>
  cases k <;> try rfl
  simp only[T0]
  split
  ·rename_i hn
   simp only[SV.den,tF]
   congr 1
   omega
  ·rfl
 |float k n=>cases k <;> rfl
 |slice a l c=>
  simp only[T0]
  split <;> first|rfl|(simp_all [SV.den])
 |_=>rfl
theorem WR (l:List Value):AN E (l.map T0)=l:=by
 induction l with
 |nil=>rfl
 |cons v r ih=>simp [AN,ih,AJ3]
theorem U_ {t:TypeId} {z:List SV} (h:OH P t=some z):∃ zv,(zeroValue t).run P w= .ok zv w/\zv.cells=(AN E z).toArray:=by
 unfold OH at h
 split at h
 ·rename_i i hi
  split at h
  ·rename_i zv hz
   simp only[BA] at h
   subst h
   refine⟨zv,by simp [zeroValue,typeInfo,hi,hz], ?_⟩
   rw[WR]
  ·cases h
 ·cases h
theorem pY {fs:List Field} {pl:List (Nat×Nat)} (h:PT P fs=some pl):
  (fs.mapM fun f=>do pure (f.offset,←sizeOf f.type):Sem (List (Nat×Nat))).run P w= .ok pl w:=by
 induction fs generalizing pl with
 |nil=>simp only[PT,BA] at h;subst h;rfl
 |cons f r ih=>
  simp only[PT] at h
  split at h
  ·rename_i i l hi hl
   simp only[BA] at h
   subst h
   have bD:(sizeOf f.type).run P w= .ok i.size w:=by simp [sizeOf,typeInfo,hi]
   simp only[List.mapM_cons,Sem.run_bind,bD,Result.andThen,Sem.run_pure,ih hl]
  ·cases h
theorem AOA (t:TypeId) (parts:List (Nat×SV)):(ACI P t parts).ok (EL E P (Instr.build t (parts.map fun q=>(q.1,q.2.den E)).toArray) w):=by
 unfold ACI
 split
 ·exact ok_none
 rename_i hn
 have hn:VJ parts=true:=by simpa using hn
 split
 ·rename_i z fs hz hu
  obtain⟨zv,hzr,hzc⟩:=U_ (E:=E) w hz
  split
  ·rename_i pl hpl
   split
   ·rename_i cs hf
    refine BJ ?_
    have h1:=pY w hpl
    have h2:=Y9 (E:=E) (fun i=>pl[i]?) z cs parts hn hf
    have h3:(fs.mapM fun f=>do pure (f.offset,←sizeOf f.type):Sem (Array (Nat×Nat))).run P w= .ok pl.toArray w:=by
     rw[Array.mapM_eq_mapM_toList,map_eq_pure_bind,Sem.run_bind,h1]
     rfl
    rw[EL]
    simp only[Instr.build,Sem.run_bind,hzr,Result.andThen,run_underlying hu,h3,hzc]
    simp only[vH,h2]
    rfl
   ·exact ok_none
  ·exact ok_none
 ·rename_i z n e hz hu
  obtain⟨zv,hzr,hzc⟩:=U_ (E:=E) w hz
  split
  ·rename_i i hi
   split
   ·rename_i cs hf
    refine BJ ?_
    have h2:=Y9 (E:=E) _ z cs parts hn hf
    rw[EL]
    simp only[Instr.build,Sem.run_bind,hzr,Result.andThen,run_underlying hu,sizeOf,typeInfo,hzc]
    simp [hi,h2,SV.den]
   ·exact ok_none
  ·exact ok_none
 ·exact ok_none
theorem VA {x:SV} {n:Int} (h:idxOf x=some n):∃ k,(x.den E)= .int k n:=by
 cases x <;> simp only[idxOf,BA,reduceCtorEq] at h
 case int k y=>subst h;exact⟨k,rfl⟩
 case u64 y=>subst h;exact⟨.u64,rfl⟩
theorem IQ (b off n:Nat):(⟨b,off,none⟩:Addr).add n=⟨b,off+n,none⟩:=by
 unfold Addr.add
 split
 ·rename_i h;subst h;rfl
 ·rfl
theorem zD (t:TypeId) (x i:SV):(Y6 P t x i).ok (EL E P (Instr.indexAt t (x.den E) (i.den E)) w):=by
 unfold Y6
 split
 ·rename_i hu hx
  split
  ·rename_i q hq
   refine KB ?_
   rintro⟨h2,h3⟩
   obtain⟨k,hk⟩:=VA (E:=E) hx
   rw[EL,hk]
   simp [Instr.indexAt,asIntOf,SV.den,run_underlying hu,sizeOf,typeInfo,hq,h2,h3,Instr.sureAddr,IQ,O1]
  ·exact ok_none
 ·rename_i hu hx
  split
  ·rename_i q hq
   split
   ·rename_i h1
    refine KB ?_
    rintro⟨h2,h3⟩
    obtain⟨k,hk⟩:=VA (E:=E) hx
    rw[EL,hk]
    simp [Instr.indexAt,asIntOf,SV.den,run_underlying hu,sizeOf,typeInfo,hq,h1,h2,h3,Instr.sureAddr,Addr.add]
   ·exact ok_none
  ·exact ok_none
 ·exact ok_none
theorem zE (t:TypeId) (x:SV) (f:Nat):(Y7 P t x f).ok (EL E P (Instr.fieldAt t (x.den E) f) w):=by
 unfold Y7
 split
 ·rename_i fs i off hu
  split
  ·rename_i fd hf
   split
   ·rename_i q hq
    split
    ·exact ok_none
    ·rename_i h0
     refine BJ ?_
     simp [EL,Instr.fieldAt,SV.den,run_underlying hu,hf,Instr.sureAddr,fieldPlace,sizeOf,typeInfo,hq,h0,IQ,O1]
   ·exact ok_none
  ·exact ok_none
 ·rename_i fs i k sz off hu
  split
  ·rename_i fd hf
   split
   ·rename_i q hq
    split
    ·exact ok_none
    ·rename_i h0
     refine BJ ?_
     simp [EL,Instr.fieldAt,SV.den,run_underlying hu,hf,Instr.sureAddr,fieldPlace,sizeOf,typeInfo,hq,h0,IQ,O1]
   ·exact ok_none
  ·exact ok_none
 ·exact ok_none
theorem gK {x:SV} {n:Int} (h:idxOf x=some n) (y:Nat) (c:BoundsCode) (h0:0<=n) (h1:n<=y):(Instr.sliceBound (x.den E) y c).run P w= .ok n.toNat w:=by
 obtain⟨k,hk⟩:=VA h
 rw[hk]
 simp [Instr.sliceBound,asIntOf,h0,h1]
theorem wB {low high:Option SV} {h l:Option Int} {hn ln len cap d:Nat} (b:Bool) (hh:bnd high d=some (h,hn)) (hl:bnd low 0=some (l,ln)) (hd:d=len) (hb:Bd l h hn cap):
  (Instr.sliceBounds b len cap (low.map (SV.den E)) (high.map (SV.den E)) none).run P w= .ok (ln,hn,cap) w:=by
 subst hd
 unfold bnd at hh hl
 obtain⟨b1,b2⟩:=hb
 cases high with
 |none=>
  simp only[BA,DH] at hh
  obtain⟨rfl,rfl⟩:=hh
  cases low with
  |none=>
   simp only[BA,DH] at hl
   obtain⟨rfl,rfl⟩:=hl
   simp [Instr.sliceBounds]
  |some x=>
   simp only at hl
   split at hl
   ·rename_i n hx
    simp only[BA,DH] at hl
    obtain⟨rfl,rfl⟩:=hl
    simp [Instr.sliceBounds,gK w hx _ _ b2.1 b2.2]
   ·cases hl
 |some y=>
  simp only at hh
  split at hh
  ·rename_i m hy
   simp only[BA,DH] at hh
   obtain⟨rfl,rfl⟩:=hh
   cases low with
   |none=>
    simp only[BA,DH] at hl
    obtain⟨rfl,rfl⟩:=hl
    simp [Instr.sliceBounds,gK w hy _ _ b1.1 b1.2]
   |some x=>
    simp only at hl
    split at hl
    ·rename_i n hx
     simp only[BA,DH] at hl
     obtain⟨rfl,rfl⟩:=hl
     simp [Instr.sliceBounds,gK w hy _ _ b1.1 b1.2,gK w hx _ _ b2.1 b2.2]
    ·cases hl
  ·cases hh
theorem AOB (t:TypeId) (x:SV) (low high max:Option SV):(ACJ P t x low high max).ok (EL E P (Instr.sliceAt t (x.den E) (low.map (SV.den E)) (high.map (SV.den E)) (max.map (SV.den E))) w):=by
 unfold ACJ
 split
 ·rename_i s hu
  split
  ·rename_i h hn l ln hh hl
   refine KB fun hb=> ?_
   simp only[EL,Instr.sliceAt,ALU,SV.den,Sem.run_bind,run_underlying hu,Result.andThen]
   simp only[Instr.slice,Sem.run_bind,run_underlying hu,Result.andThen]
   simp [wB w false hh hl rfl hb]
  ·exact ok_none
 ·exact ok_none
theorem AOC (t:TypeId) (x i:SV):(ACK P t x i).ok (EL E P (Instr.index t (x.den E) (i.den E)) w):=by
 unfold ACK
 split
 ·rename_i s n hu hx
  refine KB ?_
  rintro⟨h0,h1⟩
  obtain⟨k,hk⟩:=VA hx
  have DO:n.toNat<s.size:=by omega
  have hb:s[n.toNat]? =some s[n.toNat]:=getElem?_pos s n.toNat DO
  have UA :s.data[n.toNat]? =some s[n.toNat]:=by
   have:n.toNat<s.data.size:=DO
   rw[AQN this];rfl
  rw[EL,hk]
  simp only[Instr.index,asIntOf,SV.den,Sem.run_bind,Sem.run_pure,Result.andThen,run_underlying hu,h0,HJ,hb,LB,UA]
  rfl
 ·exact ok_none
theorem AVW (t:TypeId) (ts:List TypeId) (x:SV) (xs:List Value) (r:TypeId):(AVO P t x).ok (EL E P (Builtin.len_ (t::ts).toArray r ((x.den E)::xs).toArray) w):=by
 unfold AVO
 split
 ·rename_i hu
  exact BJ (by simp [EL,Builtin.len_,run_underlying hu,SV.den,goInt])
 ·rename_i hu
  exact BJ (by simp [EL,Builtin.len_,run_underlying hu,SV.den,goInt])
 ·exact ok_none
theorem AFS (b:Builtin) (ts:List TypeId) (xs:List SV) (r:TypeId) (cs:Array Bool):
  (nB P b ts xs).ok fun v=>(builtin b ts.toArray r cs (xs.map (SV.den E)).toArray).run P w= .ok (.value (v.den E)) w:=by
 unfold nB
 split
 ·rename_i t ts x xs
  have h:=AVW (E:=E) (P:=P) w t ts x (xs.map (SV.den E)) r
  intro p v he hp
  have:=h p v he hp
  rw[EL] at this
  simp only[MN,builtin,Sem.run_bind,this,Result.andThen]
  rfl
 ·split
  ·rename_i hk;subst hk
   refine BJ ?_
   simp [builtin,Builtin.max_,Builtin.max2,SV.den]
  ·exact ok_none
 ·split
  ·rename_i hk;subst hk
   refine BJ ?_
   simp [builtin,Builtin.min_,Builtin.min2,SV.den]
  ·exact ok_none
 ·rename_i a b
  refine KB fun h=> ?_
  obtain⟨o,ho⟩:=ALB.1 h
  have ho' :=ho
  unfold DJ at ho'
  cases o <;> simp [builtin,Builtin.max_,Builtin.max2,SV.den,ho',ho,A2I,gJ] <;> rfl
 ·rename_i a b
  refine KB fun h=> ?_
  obtain⟨o,ho⟩:=ALB.1 h
  have ho' :=ho
  unfold DJ at ho'
  cases o <;> simp [builtin,Builtin.min_,Builtin.min2,SV.den,ho',ho,A2J,gJ] <;> rfl
 ·exact ok_none
theorem Pu.ok.mono {r:Pu} {R R' :SV->Prop} (h:r.ok R) (hr:∀ v,R v->R' v):r.ok R' :=fun p v he hp=>hr v (h p v he hp)
theorem KC {s:Sem Value} {v:SV} (h:EL E P s w v):(do pure (Next.value (<-s)):Sem Next).run P w= .ok (.value (v.den E)) w:=by
 rw[Sem.run_bind,h];rfl
theorem AOD (ρ:Operand->SV) (op:Op):
  (cX P ρ op).ok fun v=>∀ o:Oper,o.op=op->(execOp (fun x=>((ρ x).den E)) o).run P w= .ok (.value (v.den E)) w:=by
 unfold cX
 split
 ·exact BJ fun o ho=>by simp [execOp,ho]
 ·exact BJ fun o ho=>by simp [execOp,ho]
 ·split
  ·rename_i t hc
   refine BJ fun o ho=> ?_
   simp [execOp,ho,hc,SV.den,asBool]
   cases t <;> simp
  ·exact ok_none
 ·rename_i op' t x y _
  intro p v he hp o ho
  by_cases hag:∃ xs ys,ρ x= .agg xs/\ρ y= .agg ys
  ·obtain⟨xs,ys,hx,hy⟩:=hag
   rw[hx,hy] at he
   have h:=AVV (E:=E) (P:=P) w op' t xs ys x y p v he hp
   simp only[execOp,ho,hx,hy]
   exact KC w h
  have he:ACG P op' t (ρ x) (ρ y)=some (p,v):=by
   rw[<-he,AR4]
   intro xs ys h1 h2
   exact absurd ⟨xs,ys,h1,h2⟩ hag
  have h:=AVU (E:=E) (P:=P) w op' t (ρ x) (ρ y) p v he hp
  obtain⟨h1,h2⟩:=AJ0 he
  have hg:=AFO (P:=P) w op' t x y ((ρ y).den E) h1 h2
  rw[EL] at h
  simp only[execOp,ho]
  refine KC w ?_
  rw[EL,Sem.run_bind,hg]
  exact h
 ·exact (AZW w _ _).mono fun v h o ho=>by simp only[execOp,ho];exact KC w h
 ·exact (AR7 w _ _ _).mono fun v h o ho=>by simp only[execOp,ho];exact KC w h
 ·exact (AFQ w _ _).mono fun v h o ho=>by simp only[execOp,ho];exact KC w h
 ·exact (AO9 w _ _ _).mono fun v h o ho=>by simp only[execOp,ho];exact KC w h
 ·rename_i t parts
  refine (AOA (E:=E) w _ _).mono fun v h o ho=> ?_
  simp only[execOp,ho]
  refine KC w ?_
  have:(parts.map fun (i,x)=>(i,((ρ x).den E)))=(List.map (fun q=>(q.1,q.2.den E)) (List.map (fun q=>(q.1,ρ q.2)) parts.toList)).toArray:=by
   rw[VH];simp [vS]
   rw[<-kD]
  rw[this]
  exact h
 ·exact (zD w _ _ _).mono fun v h o ho=>by simp only[execOp,ho];exact KC w h
 ·exact (zE w _ _ _).mono fun v h o ho=>by simp only[execOp,ho];exact KC w h
 ·refine (AOB (E:=E) w _ _ _ _ _).mono fun v h o ho=> ?_
  simp only[execOp,ho]
  refine KC w ?_
  simpa [Option.map_map,vS] using h
 ·exact (AOC w _ _ _).mono fun v h o ho=>by simp only[execOp,ho];exact KC w h
 ·split
  ·rename_i i k sz off hx
   exact BJ fun o ho=>by simp [execOp,ho,hx,SV.den]
  ·rename_i i off hx
   exact BJ fun o ho=>by simp [execOp,ho,hx,SV.den]
  ·rename_i f cs hx
   exact BJ fun o ho=>by simp [execOp,ho,hx,SV.den]
  ·exact ok_none
 ·rename_i fn first captured
  split
  ·rename_i f
   refine BJ fun o ho=> ?_
   have e:(captured.map fun x=>((ρ x).den E))=((captured.toList.map ρ).map (SV.den E)).toArray:=by
    rw[VH,←kD];rfl
   simp only[execOp,ho,Instr.makeFunc,SV.den,FO]
   rw[e]
   simp
  ·exact ok_none
 ·rename_i b args ts
  intro p v he hp o ho
  have h:=fun cs=>AFS (E:=E) (P:=P) w b ts.toList (args.toList.map ρ) o.type cs p v he hp
  simp only[AQV] at h
  simp only[execOp,ho,resolve,invoke,Sem.run_bind,Sem.run_pure,Result.andThen]
  have e:(Array.map (fun x=>((ρ x).den E)) args)=((args.toList.map ρ).map (SV.den E)).toArray:=by
   rw[VH,←kD];rfl
  rw[e]
  exact h _
 ·exact ok_none
end
end
end Go.V3
namespace Go.V3
open Go
abbrev Tb:Type:=List (Nat×Array Value)
variable {TB:Tb}
inductive Ty where
 |int (k:IntKind)
 |u64|bool|str|QT
 |pair (a b:Ty)
 |slice (a:Ty)
 |kv
 |nf
 |zF
 deriving DecidableEq
@[reducible] def Ty.T:Ty->Type
 | .int _=>Int
 | .u64=>BitVec 64
 | .bool=>Bool
 | .str=>ByteArray
 | .QT=>Nat
 | .pair a b=>a.T×b.T
 | .slice a=>List a.T
 | .kv=>Int×Bool
 | .nf=>Option Nat
 | .zF=>Unit
def Ty.sz:Ty->Nat
 | .pair a b=>a.sz+b.sz
 |_=>1
def Ty.HW:Ty->Nat
 | .pair a b=>a.HW+b.HW
 | .slice _=>1
 | .nf=>1
 |_=>0
def Ty.AZX:(t:Ty)->t.T
 | .int _=>(0:Int)
 | .u64=>0#64
 | .bool=>false
 | .str=>⟨#[]⟩
 | .QT=>(0:Nat)
 | .pair a b=>(a.AZX,b.AZX)
 | .slice _=>[]
 | .kv=>((0:Int),false)
 | .nf=>(none:Option Nat)
 | .zF=>()
def gd (t:Ty) (xs:List t.T) (k:Nat):t.T:=xs.getD k t.AZX
def B9 {α:Type} (xs:List α) (lo n:Nat):List α:=(xs.drop lo).take n
def IY:(t:Ty)->t.T->Nat->List SV
 | .int k,x,_=>[.int k x]
 | .u64,x,_=>[.u64 x]
 | .bool,x,_=>[.bool x]
 | .str,x,_=>[.str x]
 | .QT,x,_=>[.QT x]
 | .pair a b,x,n=>IY a x.1 n++IY b x.2 (n+a.HW)
 | .slice _,_,n=>[.NV n]
 | .kv,x,_=>[.int .i64 x.1]
 | .nf,x,n=>[.nf x n]
 | .zF,_,_=>[.raw .nilIface]
inductive AX where
 |L5
 |dead
 |box (cs:List SV)
 |row (t:Ty) (xs:List t.T)
 |shr (t:Ty) (xs:List t.T)
 |deep (t:Ty) (xss:List (List t.T)) (h:Option (Nat×Nat))
 |map (xs:List (Int×Bool))
 |ptr (j:Nat)
 |tree (t1 t2:Ty) (xs:List (List t1.T×List t2.T))
def AX.IF:AX->Bool
 | .L5=>true
 |_=>false
def Ty.tK:Ty->Bool
 | .slice _=>true
 | .kv=>true
 | .pair (.slice _) (.slice _)=>true
 |_=>false
def Ty.AZY:Ty->Bool
 | .kv=>true
 |_=>false
def KD:(a:Ty)->List a.T->AX
 | .slice b,x=> .deep b x none
 | .int k,x=> .row (.int k) x
 | .u64,x=> .row .u64 x
 | .bool,x=> .row .bool x
 | .str,x=> .row .str x
 | .QT,x=> .row .QT x
 | .pair (.slice a) (.slice b),x=> .tree a b x
 | .pair a b,x=> .row (.pair a b) x
 | .kv,x=> .map x
 | .nf,x=> .row .nf x
 | .zF,x=> .row .zF x
def B_ (own:Bool):(t:Ty)->t.T->List AX
 | .int _,_=>[]
 | .u64,_=>[]
 | .bool,_=>[]
 | .str,_=>[]
 | .QT,_=>[]
 | .pair a b,x=>B_ own a x.1++B_ own b x.2
 | .slice a,x=>[match own with|true=>KD a x|false=> .shr a x]
 | .kv,_=>[]
 | .nf,_=>[.dead]
 | .zF,_=>[]
theorem MO {a:Ty} (h:a.tK=false) (x:List a.T):KD a x= .row a x:=by
 cases a with
 |pair a b=>cases a <;> cases b <;> first|rfl|cases h
 |_=>first|rfl|cases h
theorem k9 (a:Ty) (x:List a.T):(KD a x).IF=false:=by
 cases a with
 |pair a b=>cases a <;> cases b <;> rfl
 |_=>rfl
def enc:(t:Ty)->t.T->(Nat->Nm)->List Value
 | .int k,x,_=>[.int k x]
 | .u64,x,_=>[.int .u64 ((x:BitVec 64).toNat:Int)]
 | .bool,x,_=>[.bool x]
 | .str,x,_=>[.string x]
 | .QT,x,_=>[.float .f64 x]
 | .pair a b,x,m=>enc a x.1 m++enc b x.2 (fun k=>m (a.HW+k))
 | .slice _,_,m=>[.slice (m 0).ad (m 0).len (m 0).cap]
 | .kv,x,_=>[.int .i64 x.1]
 | .nf,x,m=>[.float .f64 ((x:Option Nat).getD (WO (m 0).CE))]
 | .zF,_,_=>[.nilIface]
theorem WS (E:Env) (t:Ty) (x:t.T) (n:Nat):AN E (IY t x n)=enc t x (fun k=>E.nm (n+k)):=by
 induction t generalizing n with
 |pair a b V7 V8=>simp [IY,enc,G4,V7,V8,O1]
 |_=>rfl
theorem IB (t:Ty) (x:t.T) {f g:Nat->Nm} (h:∀ k,k<t.HW->f k=g k):enc t x f=enc t x g:=by
 induction t generalizing f g with
 |pair a b V7 V8=>
  simp only[enc]
  rw[V7 x.1 (fun k hk=>h k (by simp [Ty.HW];omega)),V8 x.2 (fun k hk=>h _ (by simp [Ty.HW];omega))]
 |slice a=>simp only[enc];rw[h 0 (by simp [Ty.HW])]
 |nf=>simp only[enc];rw[h 0 (by simp [Ty.HW])]
 |_=>rfl
theorem AJ4 (t:Ty) (x:t.T) (f:Nat->Nm):(enc t x f).length=t.sz:=by
 induction t generalizing f with
 |pair a b V7 V8=>simp [enc,Ty.sz,V7,V8]
 |_=>rfl
theorem FA (t:Ty) (x:t.T) (n:Nat):(IY t x n).length=t.sz:=by
 induction t generalizing n with
 |pair a b V7 V8=>simp [IY,Ty.sz,V7,V8]
 |_=>rfl
theorem BI (o:Bool) (t:Ty) (x:t.T):(B_ o t x).length=t.HW:=by
 induction t with
 |pair a b V7 V8=>simp [B_,Ty.HW,V7,V8]
 |_=>rfl
theorem AJ5 (t:Ty):0<t.sz:=by
 induction t with
 |pair a b V7 V8=>simp [Ty.sz];omega
 |_=>simp [Ty.sz]
def BR (arr:Array Value) (off n:Nat):List Value:=(arr.toList.drop off).take n
def RowsIn {α:Type} (R:α->List Value->Prop) (sz:Nat) (arr:Array Value) (off:Nat) (xs:List α):Prop:=
 ∀ i x,xs[i]? =some x->R x (BR arr (off+i*sz) sz)
def tL {α:Type} (R:α->List Value->Prop) (sz:Nat) (G:Nat->Prop) (w:World) (m:Nm) (xs:List α):Prop:=
 m.len=xs.length/\m.len<=m.cap/\(xs=[]\/(m.nil=false/\G m.CE/\∃ arr ty fz,w.heap[m.CE]? =some (.cells arr ty fz)/\RowsIn R sz arr m.off xs))
def Rp (G:Nat->Prop) (w:World):(t:Ty)->t.T->List Value->Prop
 | .int k,x,vs=>vs=[.int k x]
 | .u64,x,vs=>vs=[.int .u64 ((x:BitVec 64).toNat:Int)]
 | .bool,x,vs=>vs=[.bool x]
 | .str,x,vs=>vs=[.string x]
 | .QT,x,vs=>vs=[.float .f64 x]
 | .pair a b,x,vs=>∃ v1 v2,vs=v1++v2/\Rp G w a x.1 v1/\Rp G w b x.2 v2
 | .slice a,x,vs=>∃ m:Nm,vs=[.slice m.ad m.len m.cap]/\tL (Rp G w a) a.sz G w m x
 | .kv,x,vs=>vs=[.int .i64 x.1]
 | .nf,x,vs=>∃ k,vs=[.float .f64 ((x:Option Nat).getD (WO k))]
 | .zF,_,vs=>vs=[.nilIface]
theorem RowsIn.imp {α:Type} {R R' :α->List Value->Prop} {sz:Nat} {arr:Array Value} {off:Nat} {xs:List α} (h:RowsIn R sz arr off xs) (hr:∀ x vs,R x vs->R' x vs):RowsIn R' sz arr off xs:=
 fun i x hx=>hr _ _ (h i x hx)
theorem tL.mono {α:Type} {R R' :α->List Value->Prop} {sz:Nat} {G G' :Nat->Prop} {w w' :World} {m:Nm} {xs:List α} (h:tL R sz G w m xs) (hr:∀ x vs,R x vs->R' x vs)
  (hw:∀ b,G b->w'.heap[b]? =w.heap[b]?) (hg:∀ b,G b->G' b):tL R' sz G' w' m xs:=by
 obtain⟨h1,h0,h2⟩:=h
 refine⟨h1,h0,h2.imp id ?_⟩
 rintro⟨a,b,arr,ty,fz,c,d⟩
 exact⟨a,hg _ b,arr,ty,fz,by rw[hw _ b];exact c,d.imp hr⟩
theorem Rp.mono {G G' :Nat->Prop} {w w' :World} (hw:∀ b,G b->w'.heap[b]? =w.heap[b]?) (hg:∀ b,G b->G' b) (t:Ty) (x:t.T) (vs:List Value) (h:Rp G w t x vs):Rp G' w' t x vs:=by
 induction t generalizing vs with
 |pair a b V7 V8=>
  obtain⟨v1,v2,h0,h1,h2⟩:=h
  exact⟨v1,v2,h0,V7 _ _ h1,V8 _ _ h2⟩
 |slice a ih=>
  obtain⟨m,h0,h1⟩:=h
  exact⟨m,h0,h1.mono (fun x vs hx=>ih x vs hx) hw hg⟩
 |_=>exact h
theorem Rp.length {G:Nat->Prop} {w:World} (t:Ty) (x:t.T) (vs:List Value) (h:Rp G w t x vs):vs.length=t.sz:=by
 induction t generalizing vs with
 |pair a b V7 V8=>
  obtain⟨v1,v2,rfl,h1,h2⟩:=h
  simp [Ty.sz,V7 _ _ h1,V8 _ _ h2]
 |slice a=>obtain⟨m,rfl,_⟩:=h;rfl
 |nf=>obtain⟨m,rfl⟩:=h;rfl
 |_=>(simp only[Rp] at h;rw[h];rfl)
def AZZ (G:Nat->Prop) (w:World) (m:Nm):AX->Prop
 | .shr a xs=>tL (Rp G w a) a.sz G w m xs
 | .dead=>True
 |_=>False
theorem Rp.out {G:Nat->Prop} {w:World} (t:Ty) (x:t.T) (vs:List Value) (h:Rp G w t x vs):∃ m:Nat->Nm,vs=enc t x m/\∀ k e,(B_ false t x)[k]? =some e->AZZ G w (m k) e:=by
 induction t generalizing vs with
 |pair a b V7 V8=>
  obtain⟨v1,v2,rfl,h1,h2⟩:=h
  obtain⟨m1,e1,s1⟩:=V7 _ _ h1
  obtain⟨m2,e2,s2⟩:=V8 _ _ h2
  refine⟨fun k=>if k<a.HW then m1 k else m2 (k-a.HW), ?_, ?_⟩
  ·simp only[enc]
   rw[e1,e2]
   congr 1
   ·exact IB _ _ fun k hk=>by simp [hk]
   ·exact IB _ _ fun k hk=>by
     have:¬(a.HW+k<a.HW):=by omega
     simp [this]
  ·intro k e he
   simp only[B_] at he
   by_cases hk:k<a.HW
   ·rw[WA (by rw[BI];exact hk)] at he
    simp only[hk,HJ];exact s1 k e he
   ·rw[V_ (by rw[BI];omega),BI] at he
    simp only[hk,KA];exact s2 _ e he
 |slice a=>
  obtain⟨m,rfl,h1⟩:=h
  refine⟨fun _=>m,rfl, ?_⟩
  intro k e he
  cases k with
  |zero=>simp only[B_,QP,BA] at he;subst he;exact h1
  |succ k=>simp [B_] at he
 |nf=>
  obtain⟨k0,rfl⟩:=h
  refine⟨fun _=>⟨k0,0,true,0,0,none⟩,rfl, ?_⟩
  intro k e he
  cases k with
  |zero=>simp only[B_,QP,BA] at he;subst he;trivial
  |succ k=>simp [B_] at he
 |_=>exact⟨fun _=>⟨0,0,true,0,0,none⟩,h,fun k e he=>by simp [B_] at he⟩
theorem Rp.mk {G:Nat->Prop} {w:World} (t:Ty) (x:t.T) (m:Nat->Nm) (h:∀ k e,(B_ false t x)[k]? =some e->AZZ G w (m k) e):Rp G w t x (enc t x m):=by
 induction t generalizing m with
 |pair a b V7 V8=>
  refine⟨_,_,rfl,V7 x.1 m ?_,V8 x.2 _ ?_⟩
  ·intro k e he
   have hk:k<a.HW:=by
    rcases IA k (B_ false a x.1).length with h1|h1
    ·rwa [BI] at h1
    ·rw[UX h1] at he;cases he
   exact h k e (by simp only[B_];rw[WA (by rw[BI];exact hk)];exact he)
  ·intro k e he
   exact h (a.HW+k) e (by simp only[B_];rw[V_ (by rw[BI];omega),BI];simpa using he)
 |slice a=>exact⟨m 0,rfl,h 0 _ rfl⟩
 |nf=>exact⟨_,rfl⟩
 |_=>rfl
structure EC (TB:Tb) where
 w0:World
 io:Nat->Prop
 g0:Nat->Prop
def EC.Old (c:EC TB) (b:Nat):Prop:=b<c.w0.heap.size/\¬c.io b
def EC.Tab (c:EC TB):Prop:=∀ q∈TB,c.Old q.1/\∃ ty fz,c.w0.heap[q.1]? =some (.cells q.2 ty fz)
def Own {α:Type} (R:α->List Value->Prop) (sz:Nat) (c:EC TB) (G:Nat->Prop) (w:World) (m:Nm) (xs:List α):Prop:=
 m.len=xs.length/\True/\((m.nil=true/\xs=[]/\m.cap=0)∨
  (m.nil=false/\¬G m.CE/\¬c.Old m.CE/\xs.length<=m.cap/\∃ arr ty,w.heap[m.CE]? =some (.cells arr ty (m.fr arr.size))/\m.off+m.cap*sz<=arr.size/\RowsIn R sz arr m.off xs))
theorem gL {α:Type} {R:α->List Value->Prop} {sz:Nat} {c:EC TB} {G:Nat->Prop} {w:World} {m:Nm} {xs:List α} (h:Own R sz c G w m xs):m.len<=m.cap:=by
 obtain⟨h1,h2,h3⟩:=h
 rcases h3 with ⟨_,rfl,h4⟩|⟨_,_,_,h7,_⟩
 ·simp at h1;omega
 ·omega
def GG {α:Type} (R:α->List Value->Prop) (sz:Nat) (w:World) (m:Nm) (xs:List α):Prop:=
 m.len=xs.length/\True/\((m.nil=true/\xs=[]/\m.cap=0)∨
  (m.nil=false/\xs.length<=m.cap/\∃ arr ty,w.heap[m.CE]? =some (.cells arr ty (m.fr arr.size))/\m.off+m.cap*sz<=arr.size/\RowsIn R sz arr m.off xs))
abbrev AL:=List (Nat×AX)
def look (L:AL) (n:Nat):Option AX:=match L[n]? with
 |some q=>some q.2
 |none=>none
def Al (L:AL) (n:Nat):Prop:=∃ e,look L n=some e/\e.IF=false
mutual
def SV.wf (E:Env) (L:AL):SV->Prop
 | .loc i _=>Al L i
 | .NV i=>Al L i
 | .sub i lo n _=>Al L i/\lo+n<=(E.nm i).len
 | .el i k _ _=>Al L i/\k<(E.nm i).len/\(E.nm i).nil=false
 | .pO _=>False
 | .nf _ i=>Al L i
 | .agg cs=>L7 E L cs
 | .tup vs=>L7 E L vs
 | .mpv i=>Al L i
 | .clo _ cs=>L7 E L cs
 | .tsl i k q=>Al L i/\k<(E.nm i).len/\q<2
 | .tel i k q j=>Al L i/\k<(E.nm i).len/\q<2/\j<((E.nm i).hn (k*2+q)).len
 |_=>True
def L7 (E:Env) (L:AL):List SV->Prop
 | []=>True
 |v::r=>v.wf E L/\L7 E L r
end
theorem B0 {E:Env} {L:AL} {l:List SV}:L7 E L l↔∀ v∈l,v.wf E L:=by
 induction l with
 |nil=>simp [L7]
 |cons v r ih=>simp [L7,ih]
mutual
theorem Y_ {E E' :Env} {L L' :AL} (hL:∀ n,Al L n->Al L' n) (hE:∀ n,Al L n->E'.nm n=E.nm n):∀ (v:SV),v.wf E L->v.wf E' L' /\v.den E' =v.den E
 | .loc i _,h=>⟨hL _ h,by simp only[SV.den];rw[hE _ h]⟩
 | .NV i,h=>⟨hL _ h,by simp only[SV.den];rw[hE _ h]⟩
 | .sub i lo n sz,h=>⟨⟨hL _ h.1,by rw[hE _ h.1];exact h.2⟩,by simp only[SV.den];rw[hE _ h.1]⟩
 | .el i k sz off,h=>⟨⟨hL _ h.1,by rw[hE _ h.1];exact h.2.1,by rw[hE _ h.1];exact h.2.2⟩,by simp only[SV.den];rw[hE _ h.1]⟩
 | .pO _,h=>h.elim
 | .agg cs,h=>by
  obtain⟨h1,h2⟩:=L8 hL hE cs h
  exact⟨h1,by simp only[SV.den];rw[h2]⟩
 | .tup cs,h=>by
  obtain⟨h1,h2⟩:=L8 hL hE cs h
  exact⟨h1,by simp only[SV.den];rw[h2]⟩
 | .mpv i,h=>⟨hL _ h,by simp only[SV.den];rw[hE _ h]⟩
 | .tsl i k q,h=>⟨⟨hL _ h.1,by rw[hE _ h.1];exact h.2⟩,by simp only[SV.den];rw[hE _ h.1]⟩
 | .tel i k q j,h=>⟨⟨hL _ h.1,by rw[hE _ h.1];exact h.2⟩,by simp only[SV.den];rw[hE _ h.1]⟩
 | .clo _ cs,h=>by
  obtain⟨h1,h2⟩:=L8 hL hE cs h
  exact⟨h1,by simp only[SV.den];rw[h2]⟩
 | .int _ _,_=>⟨trivial,rfl⟩
 | .u64 _,_=>⟨trivial,rfl⟩
 | .bool _,_=>⟨trivial,rfl⟩
 | .O2 _,_=>⟨trivial,rfl⟩
 | .prop _ _,_=>⟨trivial,rfl⟩
 | .str _,_=>⟨trivial,rfl⟩
 | .QT _,_=>⟨trivial,rfl⟩
 | .nf _ i,h=>⟨hL _ h,by simp only[SV.den];rw[hE _ h]⟩
 | .MJ,_=>⟨trivial,rfl⟩
 | .ptr _,_=>⟨trivial,rfl⟩
 | .raw _,_=>⟨trivial,rfl⟩
theorem L8 {E E' :Env} {L L' :AL} (hL:∀ n,Al L n->Al L' n) (hE:∀ n,Al L n->E'.nm n=E.nm n):∀ (l:List SV),L7 E L l->L7 E' L' l/\AN E' l=AN E l
 | [],_=>⟨trivial,rfl⟩
 |v::r,h=>by
  obtain⟨h1,h2⟩:=Y_ hL hE v h.1
  obtain⟨h3,h4⟩:=L8 hL hE r h.2
  exact⟨⟨h1,h3⟩,by simp only[AN];rw[h2,h4]⟩
end
def AX.own:AX->Nm->Option Nat
 | .box _,m=>some m.CE
 | .row _ _,m=>if m.nil=true then none else some m.CE
 | .map _,m=>some m.CE
 |_,_=>none
def AX.T1:AX->Bool
 | .deep _ _ _=>true
 |_=>false
def AX.PV:AX->Bool
 | .tree _ _ _=>true
 |_=>false
def AX.ow (e:AX) (E:Env) (n b:Nat):Prop:=e.own (E.nm n)=some b\/(e.T1=true/\b∈E.ins.l n)\/(e.PV=true/\b∈(E.nm n).ins.l)
structure FP (c:EC TB) (G:Nat->Prop) (w:World) (m:Nm) (t1 t2:Ty) (xs:List (List t1.T×List t2.T)):Prop where
 len:m.len=xs.length
 off:m.off=0
 nd:m.ins.l.Nodup
 all:∀ b∈m.ins.l,¬G b/\¬c.Old b/\∃ arr ty fz,w.heap[b]? =some (.cells arr ty fz)
 cs:(m.nil=true/\xs=[]/\m.cap=0)\/(m.nil=false/\m.CE∈m.ins.l/\xs.length<=m.cap/\∃ (arr:Array Value) (ty:TypeId),w.heap[m.CE]? =some (.cells arr ty (0,0))/\arr.size=m.cap*2∧
  (∀ k,k<xs.length*2->arr[k]? =some (.slice (m.hn k).ad (m.hn k).len (m.hn k).cap))∧
  (∀ k x,xs[k]? =some x->GG (Rp G w t1) t1.sz w (m.hn (k*2)) x.1/\GG (Rp G w t2) t2.sz w (m.hn (k*2+1)) x.2)∧
  (∀ k,k<xs.length*2->(m.hn k).nil=false->(m.hn k).CE∈m.ins.l/\(m.hn k).CE≠m.CE)∧
  (∀ k k',k<xs.length*2->k' <xs.length*2->k≠k' ->(m.hn k).nil=false->(m.hn k').nil=false->(m.hn k).CE≠(m.hn k').CE))
structure GD (c:EC TB) (G:Nat->Prop) (w:World) (E:Env) (L:AL) (m:Nm) (l:List Nat) (t:Ty) (xss:List (List t.T)) (h:Option (Nat×Nat)):Prop where
 len:m.len=xss.length
 off:m.off=0
 nd:l.Nodup
 all:∀ b∈l,¬G b/\¬c.Old b/\∃ arr ty fz,w.heap[b]? =some (.cells arr ty fz)
 cs:(m.nil=true/\xss=[]/\m.cap=0)\/(m.nil=false/\m.CE∈l/\xss.length<=m.cap/\∃ (arr:Array Value) (ty:TypeId) (hs:Nat->Nm),w.heap[m.CE]? =some (.cells arr ty (0,0))/\arr.size=m.cap∧
  (∀ k,k<xss.length->arr[k]? =some (.slice (hs k).ad (hs k).len (hs k).cap))∧
  (∀ k xs,xss[k]? =some xs->(∀ j,h≠some (k,j))->GG (Rp G w t) t.sz w (hs k) xs/\((hs k).nil=false->(hs k).CE∈l/\(hs k).CE≠m.CE))∧
  (∀ k k',k<xss.length->k' <xss.length->k≠k' ->(∀ j,h≠some (k,j))->(∀ j,h≠some (k',j))->(hs k).nil=false->(hs k').nil=false->(hs k).CE≠(hs k').CE)∧
  (∀ k j,h=some (k,j)->k<xss.length->hs k=E.nm j/\Al L j))
theorem FP.cfg {c c' :EC TB} {G:Nat->Prop} {w:World} {m:Nm} {t1 t2:Ty} {xs:List (List t1.T×List t2.T)} (k:FP c G w m t1 t2 xs) (hc:∀ b∈m.ins.l,¬c'.Old b):FP c' G w m t1 t2 xs:=
 ⟨k.len,k.off,k.nd,fun b hb=>⟨(k.all b hb).1,hc b hb,(k.all b hb).2.2⟩,k.cs⟩
theorem FP.nil {c:EC TB} {G G' :Nat->Prop} {w:World} {m:Nm} {t1 t2:Ty} (k:FP c G w m t1 t2 []) (hg:∀ b,G' b->G b):FP c G' w m t1 t2 []:=by
 refine⟨k.len,k.off,k.nd,fun b hb=>⟨fun hx=>(k.all b hb).1 (hg _ hx),(k.all b hb).2⟩, ?_⟩
 rcases k.cs with hc|⟨q1,q2,q3,arr,ty,q4,q5,q6,q7,q8,q9⟩
 ·exact .inl hc
 ·exact .inr ⟨q1,q2,q3,arr,ty,q4,q5,q6,fun k x hk=>by simp at hk,q8,q9⟩
def ALZ (es:Array MapEntry) (xs:List (Int×Bool)):Prop:=es.toList.map (fun e=>(e.key,e.val))=xs.map (fun q=>((.int .i64 q.1:Value),(.bool q.2:Value)))
def aN (c:EC TB) (G:Nat->Prop) (w:World) (E:Env) (L:AL) (m:Nm):AX->Prop
 | .L5=>True
 | .dead=>True
 | .box cs=>m.nil=false/\m.off=m.pp.pre.length/\¬G m.CE/\¬c.Old m.CE/\(∃ ty,w.heap[m.CE]? =some (.cells (m.arr (AN E cs)) ty (0,0)))/\L7 E L cs
 | .row t xs=>Own (Rp G w t) t.sz c G w m xs
 | .shr t xs=>tL (Rp G w t) t.sz G w m xs
 | .deep _ _ _=>True
 | .map xs=>m.nil=false/\m.off=0/\¬G m.CE/\¬c.Old m.CE/\∃ es ck,w.heap[m.CE]? =some (.map es ck)/\ALZ es xs
 | .tree t1 t2 xs=>FP c G w m t1 t2 xs
 | .ptr j=>c.Old m.CE/\(∃ arr ty fz,c.w0.heap[m.CE]? =some (.cells arr ty fz)/\arr[m.off]? =some (.pointer (some ⟨(E.nm j).CE,(E.nm j).off,none⟩)))/\Al L j
structure AS (c:EC TB) (G:Nat->Prop) (w:World) (E:Env) (L:AL):Prop where
 rest:Rest c.w0 w
 size:c.w0.heap.size<=w.heap.size
 old:∀ b,c.Old b->w.heap[b]? =c.w0.heap[b]?
 y9:∀ b,G b->b<w.heap.size
 glo:∀ b,c.g0 b->G b
 ghi:∀ b,G b->c.g0 b\/¬c.Old b
 MK:∀ n e,look L n=some e->aN c G w E L (E.nm n) e
 dp:∀ n t xss h,look L n=some (.deep t xss h)->GD c G w E L (E.nm n) (E.ins.l n) t xss h
 inj:∀ n k e f b,n≠k->look L n=some e->look L k=some f->e.ow E n b->¬f.ow E k b
 tab:c.Tab
theorem T3 {w:World} {b:Nat} {o:Obj} (h:w.heap[b]? =some o):b<w.heap.size:=by
 rcases IA b w.heap.size with h1|h1
 ·exact h1
 ·rw[AEZ h1] at h;cases h
theorem GG.mono {α:Type} {R R' :α->List Value->Prop} {sz:Nat} {w w' :World} {m:Nm} {xs:List α} (h:GG R sz w m xs) (hr:∀ x vs,R x vs->R' x vs) (hw:m.nil=false->w'.heap[m.CE]? =w.heap[m.CE]?):GG R' sz w' m xs:=by
 obtain⟨h1,h2,h3⟩:=h
 refine⟨h1,h2,h3.imp id ?_⟩
 rintro⟨h4,h5,arr,ty,h6,h7,h8⟩
 exact⟨h4,h5,arr,ty,by rw[hw h4];exact h6,h7,h8.imp hr⟩
theorem GD.mono {c:EC TB} {G G' :Nat->Prop} {w w' :World} {E E' :Env} {L L' :AL} {m:Nm} {l:List Nat} {t:Ty} {xss:List (List t.T)} {h:Option (Nat×Nat)} (k:GD c G w E L m l t xss h)
  (hL:∀ n,Al L n->Al L' n) (hE:∀ n,Al L n->E'.nm n=E.nm n) (hw:∀ b,G b->w'.heap[b]? =w.heap[b]?) (hg:∀ b,G b->G' b)
  (ho:∀ b∈l,w'.heap[b]? =w.heap[b]?∧¬G' b):GD c G' w' E' L' m l t xss h:=by
 refine⟨k.len,k.off,k.nd,fun b hb=>⟨(ho b hb).2,(k.all b hb).2.1, ?_⟩,k.cs.imp id ?_⟩
 ·rw[(ho b hb).1];exact (k.all b hb).2.2
 ·rintro⟨h1,h2,h3,arr,ty,hs,h4,h5,h6,h7,h8,h9⟩
  refine⟨h1,h2,h3,arr,ty,hs,by rw[(ho _ h2).1];exact h4,h5,h6,fun k xs hk hj=> ?_,h8,fun k j hk hl=> ?_⟩
  ·obtain⟨q1,q2⟩:=h7 k xs hk hj
   exact⟨q1.mono (fun x vs hx=>Rp.mono hw hg t x vs hx) (fun hn=>(ho _ (q2 hn).1).1),q2⟩
  ·obtain⟨q1,q2⟩:=h9 k j hk hl
   exact⟨by rw[hE _ q2];exact q1,hL _ q2⟩
theorem GD.cfg {c c' :EC TB} {G:Nat->Prop} {w:World} {E:Env} {L:AL} {m:Nm} {l:List Nat} {t:Ty} {xss:List (List t.T)} {h:Option (Nat×Nat)} (k:GD c G w E L m l t xss h)
  (hc:∀ b∈l,¬c'.Old b):GD c' G w E L m l t xss h:=
 ⟨k.len,k.off,k.nd,fun b hb=>⟨(k.all b hb).1,hc b hb,(k.all b hb).2.2⟩,k.cs⟩
theorem GD.env {c:EC TB} {G:Nat->Prop} {w:World} {E E' :Env} {L L' :AL} {m m' :Nm} {l:List Nat} {t:Ty} {xss:List (List t.T)} (k:GD c G w E L m l t xss none)
  (hm:m'.CE=m.CE/\m'.off=m.off/\m'.nil=m.nil/\m'.len=m.len/\m'.cap=m.cap):GD c G w E' L' m' l t xss none:=by
 obtain⟨e1,e2,e3,e4,e5⟩:=hm
 obtain⟨k1,k2,k3,k4,k5⟩:=k
 refine⟨by rw[e4];exact k1,by rw[e2];exact k2,k3,k4, ?_⟩
 rw[e1,e3,e5]
 refine k5.imp id ?_
 rintro⟨h1,h2,h3,arr,ty,hs,h4,h5,h6,h7,h8,h9⟩
 exact⟨h1,h2,h3,arr,ty,hs,h4,h5,h6,h7,h8,fun k j hk=>by cases hk⟩
theorem aN.wC {c:EC TB} {G:Nat->Prop} {w:World} {E:Env} {L:AL} {m:Nm} {e:AX} (h:aN c G w E L m e) {b:Nat} (hb:e.own m=some b):b=m.CE/\m.nil=false/\True/\¬G b/\¬c.Old b/\∃ o,w.heap[b]? =some o:=by
 cases e with
 |map xs=>
  simp only[AX.own,BA] at hb;subst hb
  obtain⟨h1,h2,h3,h4,es,ck,h5,_⟩:=h
  exact⟨rfl,h1,trivial,h3,h4,_,h5⟩
 |box cs=>
  simp only[AX.own,BA] at hb;subst hb
  obtain⟨h1,h2,h3,h4,⟨ty,h5⟩,_⟩:=h
  exact⟨rfl,h1,trivial,h3,h4,_,h5⟩
 |row t xs=>
  simp only[AX.own] at hb
  split at hb
  ·cases hb
  ·rename_i hn
   simp only[BA] at hb;subst hb
   obtain⟨h1,h2,h3⟩:=h
   rcases h3 with ⟨h4,_⟩|⟨h4,h5,h6,h7,arr,ty,h8,_⟩
   ·exact absurd h4 hn
   ·exact⟨rfl,h4,h2,h5,h6,_,h8⟩
 |_=>cases hb
theorem aN.mono {c:EC TB} {G G' :Nat->Prop} {w w' :World} {E E' :Env} {L L' :AL} {m:Nm} {e:AX} (h:aN c G w E L m e)
  (hL:∀ n,Al L n->Al L' n) (hE:∀ n,Al L n->E'.nm n=E.nm n) (hw:∀ b,G b->w'.heap[b]? =w.heap[b]?) (hg:∀ b,G b->G' b)
  (ho:∀ b,e.own m=some b->w'.heap[b]? =w.heap[b]?∧¬G' b) (hot:e.PV=true->∀ b∈m.ins.l,w'.heap[b]? =w.heap[b]?∧¬G' b):aN c G' w' E' L' m e:=by
 cases e with
 |tree t1 t2 xs=>
  have hot:=hot rfl
  refine⟨h.len,h.off,h.nd,fun b hb=> ?_, ?_⟩
  ·obtain⟨q1,q2,arr,ty,fz,q3⟩:=h.all b hb
   exact⟨(hot b hb).2,q2,arr,ty,fz,by rw[(hot b hb).1];exact q3⟩
  ·rcases h.cs with hc|⟨q1,q2,q3,arr,ty,q4,q5,q6,q7,q8,q9⟩
   ·exact .inl hc
   ·refine .inr ⟨q1,q2,q3,arr,ty,by rw[(hot _ q2).1];exact q4,q5,q6,fun k x hk=> ?_,q8,q9⟩
    have hkl:k<xs.length:=(zB.1 hk).1
    obtain⟨r1,r2⟩:=q7 k x hk
    exact⟨r1.mono (fun x vs hx=>Rp.mono hw hg t1 x vs hx) (fun hn=>(hot _ (q8 (k*2) (by omega) hn).1).1),r2.mono (fun x vs hx=>Rp.mono hw hg t2 x vs hx) (fun hn=>(hot _ (q8 (k*2+1) (by omega) hn).1).1)⟩
 |L5=>trivial
 |dead=>trivial
 |deep _ _ _=>trivial
 |map xs=>
  obtain⟨h1,h2,h3,h4,es,ck,h5,h6⟩:=h
  obtain⟨k1,k2⟩:=ho _ rfl
  exact⟨h1,h2,k2,h4,es,ck,by rw[k1];exact h5,h6⟩
 |box cs=>
  obtain⟨h1,h2,h3,h4,⟨ty,h5⟩,h6⟩:=h
  obtain⟨k1,k2⟩:=ho _ rfl
  obtain⟨q1,q2⟩:=L8 hL hE cs h6
  exact⟨h1,h2,k2,h4,⟨ty,by rw[k1,q2];exact h5⟩,q1⟩
 |row t xs=>
  obtain⟨h1,h2,h3⟩:=h
  refine⟨h1,h2,h3.imp id ?_⟩
  rintro⟨h4,h5,h6,h7,arr,ty,h8,h9,zG⟩
  obtain⟨k1,k2⟩:=ho m.CE (by simp [AX.own,h4])
  exact⟨h4,k2,h6,h7,arr,ty,by rw[k1];exact h8,h9,zG.imp fun x vs hx=>Rp.mono hw hg t x vs hx⟩
 |shr t xs=>exact tL.mono h (fun x vs hx=>Rp.mono hw hg t x vs hx) hw hg
 |ptr j=>
  obtain⟨h1,⟨arr,ty,fz,h2,h3⟩,h4⟩:=h
  exact⟨h1,⟨arr,ty,fz,h2,by rw[hE j h4];exact h3⟩,hL j h4⟩
def DK (L:AL) (q:Nat×AX):AL:=match L[q.1]? with
 |some (v,_)=>L.set q.1 (v+1,q.2)
 |none=>L
def AK (L:AL) (l:List (Nat×AX)):AL:=l.foldl DK L
theorem GN (L:AL) (q:Nat×AX):(DK L q).length=L.length:=by
 unfold DK;split <;> simp
theorem O_ (L:AL) (l:List (Nat×AX)):(AK L l).length=L.length:=by
 induction l generalizing L with
 |nil=>rfl
 |cons q r ih=>simp only[AK,kE];exact (ih _).trans (GN _ _)
theorem AQ {L:AL} {n:Nat} {e:AX} (h:look L n=some e):n<L.length:=by
 rcases IA n L.length with h1|h1
 ·exact h1
 ·unfold look at h;rw[UX h1] at h;cases h
theorem BC {L:AL} {q:Nat×AX} (hq:q.1<L.length) (n:Nat):look (DK L q) n=if n=q.1 then some q.2 else look L n:=by
 unfold DK
 rw[OT hq]
 unfold look
 simp only[vL]
 by_cases h:n=q.1
 ·subst h;simp [hq]
 ·rw[AD h,AD (fun h' =>h h'.symm)]
theorem BZ {L:AL} {q:Nat×AX} (hr:q.2.IF=false) (n:Nat) (h:Al L n):Al (DK L q) n:=by
 by_cases hq:q.1<L.length
 ·obtain⟨e,h1,h2⟩:=h
  unfold Al
  rw[BC hq]
  by_cases hn:n=q.1
  ·exact⟨q.2,by simp [hn],hr⟩
  ·exact⟨e,by simp [hn,h1],h2⟩
 ·unfold DK
  rw[UX (by omega)]
  exact h
theorem AX.gM {e:AX} (hd:e.T1=false) {E:Env} {n b:Nat} (ht:e.PV=false:=by rfl):e.ow E n b↔e.own (E.nm n)=some b:=by
 unfold AX.ow;rw[hd,ht];simp
theorem AX.gN {t1 t2:Ty} {xs:List (List t1.T×List t2.T)} {E:Env} {n b:Nat}:(AX.tree t1 t2 xs).ow E n b↔b∈(E.nm n).ins.l:=by
 simp [AX.ow,AX.own,AX.T1,AX.PV]
theorem AX.PA {e:AX} (ht:e.PV=true) {E:Env} {n b:Nat} (hb:b∈(E.nm n).ins.l):e.ow E n b:= .inr (.inr ⟨ht,hb⟩)
theorem AX.GF {t:Ty} {xss:List (List t.T)} {h:Option (Nat×Nat)} {E:Env} {n b:Nat}:(AX.deep t xss h).ow E n b↔b∈E.ins.l n:=by
 simp [AX.ow,AX.own,AX.T1,AX.PV]
theorem AS.QU {c:EC TB} {G:Nat->Prop} {w:World} {E:Env} {L:AL} (h:AS c G w E L) {n:Nat} {e:AX} (he:look L n=some e) {b:Nat} (hb:e.ow E n b):¬G b/\¬c.Old b/\∃ o,w.heap[b]? =some o:=by
 rcases hb with hb|⟨hd,hb⟩|⟨hd,hb⟩
 ·obtain⟨_,_,_,h4,h5,h6⟩:=(h.MK n e he).wC hb
  exact⟨h4,h5,h6⟩
 ·cases e with
  |deep t xss q=>
   obtain⟨h1,h2,arr,ty,_,h3⟩:=(h.dp n t xss q he).all b hb
   exact⟨h1,h2,_,h3⟩
  |_=>cases hd
 ·cases e with
  |tree t1 t2 xs=>
   obtain⟨h1,h2,arr,ty,_,h3⟩:=(h.MK n _ he).all b hb
   exact⟨h1,h2,_,h3⟩
  |_=>cases hd
theorem AS.kI {c:EC TB} {G:Nat->Prop} {w:World} {E:Env} {L:AL} (h:AS c G w E L) {n:Nat} {e:AX} (he:look L n=some e) {b:Nat} (hb:e.ow E n b):b<w.heap.size:=by
 obtain⟨_,_,o,h6⟩:=h.QU he hb
 exact T3 h6
theorem AS.world {c:EC TB} {G:Nat->Prop} {w w' :World} {E:Env} {L:AL} (h:AS c G w E L) (hh:w'.heap=w.heap) (hr:Rest w w'):AS c G w' E L:=
 ⟨h.rest.trans hr,by rw[hh];exact h.size,fun b hb=>by rw[hh];exact h.old b hb,fun b hb=>by rw[hh];exact h.y9 b hb,h.glo,h.ghi,
  fun n e he=>(h.MK n e he).mono (fun _ h=>h) (fun _ _=>rfl) (fun b _=>by rw[hh]) (fun _ h=>h) (fun b hb=>⟨by rw[hh],((h.MK n e he).wC hb).2.2.2.1⟩) (fun ht b hb=>⟨by rw[hh],(h.QU he (AX.PA ht hb)).1⟩),
  fun n t xss q he=>(h.dp n t xss q he).mono (fun _ h=>h) (fun _ _=>rfl) (fun b _=>by rw[hh]) (fun _ h=>h) (fun b hb=>⟨by rw[hh],((h.dp n t xss q he).all b hb).1⟩),h.inj,h.tab⟩
theorem AS.iG {c:EC TB} {G:Nat->Prop} {w:World} {E:Env} {L:AL} (h:AS c G w E L) {i:Nat} {e:AX} {a:Ty} {ys:List a.T} (hi:look L i=some e)
  (hs:tL (Rp (fun b=>G b\/e.ow E i b) w a) a.sz (fun b=>G b\/e.ow E i b) w (E.nm i) ys):AS c (fun b=>G b\/e.ow E i b) w E (DK L (i,.shr a ys)):=by
 have DO:=AQ hi
 have hl:=fun n=>BC (q:=(i,AX.shr a ys)) DO n
 refine⟨h.rest,h.size,h.old, ?_,fun b hb=> .inl (h.glo b hb), ?_, ?_, ?_, ?_,h.tab⟩
 ·rintro b (hb|hb)
  ·exact h.y9 b hb
  ·exact h.kI hi hb
 ·rintro b (hb|hb)
  ·exact h.ghi b hb
  ·exact .inr (h.QU hi hb).2.1
 ·intro n f he
  rw[hl] at he
  by_cases hn:n=i
  ·subst hn
   simp only[HJ,BA] at he
   subst he
   exact hs
  ·rw[AD hn] at he
   refine (h.MK n f he).mono (fun k hk=>BZ rfl k hk) (fun _ _=>rfl) (fun _ _=>rfl) (fun b hb=> .inl hb) (fun b hb=>⟨rfl, ?_⟩) (fun ht b hb=>⟨rfl, ?_⟩)
   ·rintro (hx|hx)
    ·exact ((h.MK n f he).wC hb).2.2.2.1 hx
    ·exact h.inj n i f e b hn he hi (.inl hb) hx
   ·rintro (hx|hx)
    ·exact (h.QU he (AX.PA ht hb)).1 hx
    ·exact h.inj n i f e b hn he hi (AX.PA ht hb) hx
 ·intro n t xss q he
  rw[hl] at he
  by_cases hn:n=i
  ·simp only[hn,HJ,BA] at he;cases he
  ·rw[AD hn] at he
   refine (h.dp n t xss q he).mono (fun k hk=>BZ rfl k hk) (fun _ _=>rfl) (fun _ _=>rfl) (fun b hb=> .inl hb) (fun b hb=>⟨rfl, ?_⟩)
   rintro (hx|hx)
   ·exact ((h.dp n t xss q he).all b hb).1 hx
   ·exact h.inj n i _ e b hn he hi (AX.GF.2 hb) hx
 ·intro n k f g b hnk hn hk hf hg
  rw[hl] at hn hk
  have hn' :n≠i:=by
   rintro rfl
   simp only[HJ,BA] at hn;subst hn
   rcases hf with hf|⟨hf,_⟩|⟨hf,_⟩ <;> cases hf
  have NW :k≠i:=by
   rintro rfl
   simp only[HJ,BA] at hk;subst hk
   rcases hg with hg|⟨hg,_⟩|⟨hg,_⟩ <;> cases hg
  rw[AD hn'] at hn
  rw[AD NW] at hk
  exact h.inj n k f g b hnk hn hk hf hg
theorem AS.freeze {c:EC TB} {G:Nat->Prop} {w:World} {E:Env} {L:AL} (h:AS c G w E L) {i:Nat} {t:Ty} {xs:List t.T} (hi:look L i=some (.row t xs)):
  AS c (fun b=>G b\/(AX.row t xs).own (E.nm i)=some b) w E (DK L (i,.shr t xs)):=by
 have e1:(fun b=>G b\/(AX.row t xs).ow E i b)=(fun b=>G b\/(AX.row t xs).own (E.nm i)=some b):=by
  funext b;rw[AX.gM rfl]
 rw[<-e1]
 refine h.iG hi ?_
 rw[e1]
 obtain⟨h1,h2,h3⟩:=h.MK i _ hi
 refine⟨h1,gL (h.MK i _ hi), ?_⟩
 rcases h3 with ⟨_,h4,_⟩|⟨h4,h5,h6,h7,arr,ty,h8,h9,zG⟩
 ·exact .inl h4
 ·refine .inr ⟨h4,.inr (by simp [AX.own,h4]),arr,ty,_,h8, ?_⟩
  exact zG.imp fun x vs hx=>Rp.mono (fun _ _=>rfl) (fun b hb=> .inl hb) t x vs hx
theorem GD.shr {c:EC TB} {G G' :Nat->Prop} {w:World} {E:Env} {L:AL} {m:Nm} {l:List Nat} {t:Ty} {xss:List (List t.T)} (k:GD c G w E L m l t xss none) (hr:∀ x vs,Rp G w t x vs->Rp G' w t x vs) (hg:∀ b∈l,G' b):
  tL (Rp G' w (.slice t)) 1 G' w m xss:=by
 obtain⟨k1,k2,k3,k4,k5⟩:=k
 rcases k5 with ⟨h1,h2,h3⟩|⟨h1,h2,h3,arr,ty,hs,h4,h5,h6,h7,h8,h9⟩
 ·exact⟨k1,by rw[k1,h2];simp,.inl h2⟩
 ·refine⟨k1,by omega,.inr ⟨h1,hg _ h2,arr,ty,_,h4, ?_⟩⟩
  intro k xs hk
  have DO:k<xss.length:=by
   rcases IA k xss.length with h' |h'
   ·exact h'
   ·rw[UX h'] at hk;cases hk
  obtain⟨q1,q2⟩:=h7 k xs hk (fun j hj=>by cases hj)
  refine⟨hs k, ?_, ?_⟩
  ·have ha:=h6 k DO
   show BR arr (m.off+k*1) 1=_
   rw[k2]
   unfold BR
   apply WC
   intro j
   rw[mR]
   cases j with
   |zero=>simp [cP,ha]
   |succ j=>simp
  ·obtain⟨p1,p2,p3⟩:=q1
   rcases p3 with ⟨p4,p5,p6⟩|⟨p4,p5,ZA,ty',p6,p7,p8⟩
   ·exact⟨p1,by rw[p1,p5];simp,.inl p5⟩
   ·exact⟨p1,by omega,.inr ⟨p4,hg _ (q2 p4).1,ZA,ty',_,p6,p8.imp hr⟩⟩
theorem AS.ACO {c:EC TB} {G:Nat->Prop} {w:World} {E:Env} {L:AL} (h:AS c G w E L) {i:Nat} {t:Ty} {xss:List (List t.T)} (hi:look L i=some (.deep t xss none)):
  AS c (fun b=>G b\/b∈E.ins.l i) w E (DK L (i,.shr (.slice t) xss)):=by
 have e1:(fun b=>G b\/(AX.deep t xss none).ow E i b)=(fun b=>G b\/b∈E.ins.l i):=by
  funext b;rw[AX.GF]
 rw[<-e1]
 refine h.iG hi ?_
 rw[e1]
 exact (h.dp i t xss none hi).shr (fun x vs hx=>Rp.mono (fun _ _=>rfl) (fun b hb=> .inl hb) t x vs hx) (fun b hb=> .inr hb)
theorem FP.shr {c:EC TB} {G G' :Nat->Prop} {w:World} {m:Nm} {t1 t2:Ty} {xs:List (List t1.T×List t2.T)} (k:FP c G w m t1 t2 xs) (hr:∀ t (x:Ty.T t) vs,Rp G w t x vs->Rp G' w t x vs) (hg:∀ b∈m.ins.l,G' b):
  tL (Rp G' w (.pair (.slice t1) (.slice t2))) 2 G' w m xs:=by
 obtain⟨k1,k2,k3,k4,k5⟩:=k
 rcases k5 with ⟨h1,h2,h3⟩|⟨h1,h2,h3,arr,ty,h4,h5,h6,h7,h8,h9⟩
 ·exact⟨k1,by rw[k1,h2];simp,.inl h2⟩
 ·refine⟨k1,by omega,.inr ⟨h1,hg _ h2,arr,ty,_,h4, ?_⟩⟩
  intro k x hk
  have DO:k<xs.length:=(zB.1 hk).1
  obtain⟨q1,q2⟩:=h7 k x hk
  have cO:∀ (t:Ty) (y:List t.T) (j:Nat),j<xs.length*2->GG (Rp G w t) t.sz w (m.hn j) y->tL (Rp G' w t) t.sz G' w (m.hn j) y:=by
   intro t y j hj hi
   obtain⟨p1,p2,p3⟩:=hi
   rcases p3 with ⟨p4,p5,p6⟩|⟨p4,p5,ZA,ty',p6,p7,p8⟩
   ·exact⟨p1,by rw[p1,p5];simp,.inl p5⟩
   ·exact⟨p1,by omega,.inr ⟨p4,hg _ (h8 j hj p4).1,ZA,ty',_,p6,p8.imp (hr t)⟩⟩
  refine⟨[.slice (m.hn (k*2)).ad (m.hn (k*2)).len (m.hn (k*2)).cap],[.slice (m.hn (k*2+1)).ad (m.hn (k*2+1)).len (m.hn (k*2+1)).cap], ?_,⟨_,rfl,cO t1 x.1 _ (by omega) q1⟩,⟨_,rfl,cO t2 x.2 _ (by omega) q2⟩⟩
  have a1:=h6 (k*2) (by omega)
  have a2:=h6 (k*2+1) (by omega)
  rw[k2]
  unfold BR
  apply WC
  intro j
  rw[mR,KK]
  match j with
  |0=>simp [cP,a1]
  |1=>simp [cP,a2]
  |j+2=>simp;omega
theorem AS.AVX {c:EC TB} {G:Nat->Prop} {w:World} {E:Env} {L:AL} (h:AS c G w E L) {i:Nat} {t1 t2:Ty} {xs:List (List t1.T×List t2.T)} (hi:look L i=some (.tree t1 t2 xs)):
  AS c (fun b=>G b\/b∈(E.nm i).ins.l) w E (DK L (i,.shr (.pair (.slice t1) (.slice t2)) xs)):=by
 have e1:(fun b=>G b\/(AX.tree t1 t2 xs).ow E i b)=(fun b=>G b\/b∈(E.nm i).ins.l):=by
  funext b;rw[AX.gN]
 rw[<-e1]
 refine h.iG hi ?_
 rw[e1]
 exact (h.MK i _ hi).shr (fun t x vs hx=>Rp.mono (fun _ _=>rfl) (fun b hb=> .inl hb) t x vs hx) (fun b hb=> .inr hb)
theorem AS.kill {c:EC TB} {G:Nat->Prop} {w:World} {E:Env} {L:AL} (h:AS c G w E L) {i:Nat} (hi:i<L.length):AS c G w E (DK L (i,.dead)):=by
 have hl:=fun n=>BC (q:=(i,AX.dead)) hi n
 refine⟨h.rest,h.size,h.old,h.y9,h.glo,h.ghi, ?_, ?_, ?_,h.tab⟩
 ·intro n e he
  rw[hl] at he
  by_cases hn:n=i
  ·simp only[hn,HJ,BA] at he;subst he;trivial
  ·rw[AD hn] at he
   exact (h.MK n e he).mono (fun k hk=>BZ rfl k hk) (fun _ _=>rfl) (fun _ _=>rfl) (fun b hb=>hb) (fun b hb=>⟨rfl,((h.MK n e he).wC hb).2.2.2.1⟩) (fun ht b hb=>⟨rfl,(h.QU he (AX.PA ht hb)).1⟩)
 ·intro n t xss q he
  rw[hl] at he
  by_cases hn:n=i
  ·simp only[hn,HJ,BA] at he;cases he
  ·rw[AD hn] at he
   exact (h.dp n t xss q he).mono (fun k hk=>BZ rfl k hk) (fun _ _=>rfl) (fun _ _=>rfl) (fun b hb=>hb) (fun b hb=>⟨rfl,((h.dp n t xss q he).all b hb).1⟩)
 ·intro n k e f b hnk hn hk he hf
  rw[hl] at hn hk
  have hn' :n≠i:=by
   rintro rfl
   simp only[HJ,BA] at hn;subst hn
   rcases he with he|⟨he,_⟩|⟨he,_⟩ <;> cases he
  have NW :k≠i:=by
   rintro rfl
   simp only[HJ,BA] at hk;subst hk
   rcases hf with hf|⟨hf,_⟩|⟨hf,_⟩ <;> cases hf
  rw[AD hn'] at hn
  rw[AD NW] at hk
  exact h.inj n k e f b hnk hn hk he hf
def Env.set (E:Env) (n:Nat) (m:Nm):Env:={ E with nm:=fun k=>if k=n then m else E.nm k }
theorem Env.HY (E:Env) {n k:Nat} (m:Nm) (h:k≠n):(E.set n m).nm k=E.nm k:=by simp [Env.set,h]
theorem Env.EZ (E:Env) (n:Nat) (m:Nm):(E.set n m).nm n=m:=by simp [Env.set]
def Env.T4 (E:Env) (n:Nat) (m:Nm) (l:List Nat):Env:={ E with nm:=fun k=>if k=n then m else E.nm k,ins:=⟨fun k=>if k=n then l else E.ins.l k⟩ }
theorem Env.NQ (E:Env) {n k:Nat} (m:Nm) (l:List Nat) (h:k≠n):(E.T4 n m l).nm k=E.nm k/\(E.T4 n m l).ins.l k=E.ins.l k:=by simp [Env.T4,h]
theorem Env.E8 (E:Env) (n:Nat) (m:Nm) (l:List Nat):(E.T4 n m l).nm n=m/\(E.T4 n m l).ins.l n=l:=by simp [Env.T4]
theorem E3 {L:AL} {n:Nat} (h:look L n=some .L5):¬Al L n:=by
 rintro⟨e,h1,h2⟩
 rw[h] at h1;simp only[BA] at h1;subst h1;cases h2
theorem AS.U0 {c:EC TB} {G:Nat->Prop} {w w' :World} {E E' :Env} {L:AL} (h:AS c G w E L) {i:Nat} {e' :AX} (hi:i<L.length)
  (hr:Rest w w') (hs:w.heap.size<=w'.heap.size)
  (hE:Al L i->E'.nm i=E.nm i) (hEo:∀ k,k≠i->E'.nm k=E.nm k/\E'.ins.l k=E.ins.l k) (CU:e'.IF=false)
  (hw:∀ b,b<w.heap.size->¬e'.ow E' i b->w'.heap[b]? =w.heap[b]?)
  (hold:∀ b,e'.ow E' i b->¬c.Old b/\¬G b)
  (C1:∀ k f,k≠i->look L k=some f->∀ b,f.ow E k b->¬e'.ow E' i b)
  (QV:aN c G w' E' (DK L (i,e')) (E'.nm i) e') (hdp:∀ t xss q,e' = .deep t xss q->GD c G w' E' (DK L (i,e')) (E'.nm i) (E'.ins.l i) t xss q):AS c G w' E' (DK L (i,e')):=by
 have hl:=fun n=>BC (q:=(i,e')) hi n
 have hEn:∀ n,Al L n->E'.nm n=E.nm n:=by
  intro n hn
  by_cases T5:n=i
  ·subst T5;exact hE hn
  ·exact (hEo n T5).1
 have iH:∀ k (f:AX) b,k≠i->f.ow E' k b->f.ow E k b:=by
  intro k f b hk hb
  unfold AX.ow at hb ⊢
  rw[(hEo k hk).1,(hEo k hk).2] at hb
  exact hb
 have hG:∀ b,G b->w'.heap[b]? =w.heap[b]? :=fun b hb=>hw b (h.y9 b hb) (fun ho=>(hold b ho).2 hb)
 refine⟨h.rest.trans hr,kF h.size hs, ?_,fun b hb=>tG (h.y9 b hb) hs,h.glo,h.ghi, ?_, ?_, ?_,h.tab⟩
 ·intro b hb
  rw[hw b (tG hb.1 h.size) (fun ho=>(hold b ho).1 hb)]
  exact h.old b hb
 ·intro n e he
  rw[hl] at he
  by_cases hn:n=i
  ·subst hn
   simp only[HJ,BA] at he;subst he
   exact QV
  ·rw[AD hn] at he
   rw[(hEo n hn).1]
   refine (h.MK n e he).mono (fun k hk=>BZ CU k hk) hEn hG (fun _ hb=>hb) (fun b hb=> ?_) (fun ht b hb=> ?_)
   ·exact⟨hw b (h.kI he (.inl hb)) (C1 n e hn he b (.inl hb)),(h.QU he (.inl hb)).1⟩
   ·exact⟨hw b (h.kI he (AX.PA ht hb)) (C1 n e hn he b (AX.PA ht hb)),(h.QU he (AX.PA ht hb)).1⟩
 ·intro n t xss q he
  rw[hl] at he
  by_cases hn:n=i
  ·subst hn
   simp only[HJ,BA] at he;subst he
   exact hdp _ _ _ rfl
  ·rw[AD hn] at he
   rw[(hEo n hn).1,(hEo n hn).2]
   refine (h.dp n t xss q he).mono (fun k hk=>BZ CU k hk) hEn hG (fun _ hb=>hb) (fun b hb=> ?_)
   exact⟨hw b (h.kI he (AX.GF.2 hb)) (C1 n _ hn he b (AX.GF.2 hb)),(h.QU he (AX.GF.2 hb)).1⟩
 ·intro n k e f b hnk hn hk he hf
  rw[hl] at hn hk
  by_cases T5:n=i
  ·subst T5
   simp only[HJ,BA] at hn;subst hn
   rw[AD (fun h=>hnk h.symm)] at hk
   exact C1 k f (fun h=>hnk h.symm) hk b (iH k f b (fun h=>hnk h.symm) hf) he
  ·rw[AD T5] at hn
   by_cases kJ:k=i
   ·subst kJ
    simp only[HJ,BA] at hk;subst hk
    exact C1 n e T5 hn b (iH n e b T5 he) hf
   ·rw[AD kJ] at hk
    exact h.inj n k e f b hnk hn hk (iH n e b T5 he) (iH k f b kJ hf)
theorem AS.change {c:EC TB} {G:Nat->Prop} {w w' :World} {E:Env} {L:AL} (h:AS c G w E L) {i:Nat} {e' :AX} {m:Nm} (hi:i<L.length)
  (hr:Rest w w') (hs:w.heap.size<=w'.heap.size)
  (hE:Al L i->m=E.nm i) (CU:e'.IF=false)
  (hw:∀ b,b<w.heap.size->e'.own m≠some b->w'.heap[b]? =w.heap[b]?)
  (hold:∀ b,e'.own m=some b->¬c.Old b/\¬G b)
  (C1:∀ k f,k≠i->look L k=some f->∀ b,f.ow E k b->e'.own m≠some b)
  (QV:AS c G w E L->aN c G w' (E.set i m) (DK L (i,e')) m e') (hd:e'.T1=false:=by rfl) (ht:e'.PV=false:=by rfl):AS c G w' (E.set i m) (DK L (i,e')):=by
 have e1:∀ b,e'.ow (E.set i m) i b↔e'.own m=some b:=fun b=>by rw[AX.gM hd ht,Env.EZ]
 refine h.U0 hi hr hs (fun ha=>by rw[Env.EZ];exact hE ha) (fun k hk=>⟨E.HY m hk,rfl⟩) CU (fun b hb ho=>hw b hb (fun hx=>ho ((e1 b).2 hx))) (fun b hb=>hold b ((e1 b).1 hb))
  (fun k f hk hf b hb ho=>C1 k f hk hf b hb ((e1 b).1 ho)) (by rw[Env.EZ];exact QV h) (fun t xss q he=>by subst he;cases hd)
theorem AS.AVY {c:EC TB} {G:Nat->Prop} {w w' :World} {E:Env} {L:AL} (h:AS c G w E L) {i:Nat} {e' :AX} {m:Nm} (l:List Nat) (hi:i<L.length)
  (hr:Rest w w') (hs:w.heap.size<=w'.heap.size)
  (hE:Al L i->m=E.nm i) (CU:e'.IF=false)
  (hw:∀ b,b<w.heap.size->e'.own m≠some b->w'.heap[b]? =w.heap[b]?)
  (hold:∀ b,e'.own m=some b->¬c.Old b/\¬G b)
  (C1:∀ k f,k≠i->look L k=some f->∀ b,f.ow E k b->e'.own m≠some b)
  (QV:AS c G w E L->aN c G w' (E.T4 i m l) (DK L (i,e')) m e') (hd:e'.T1=false:=by rfl) (ht:e'.PV=false:=by rfl):AS c G w' (E.T4 i m l) (DK L (i,e')):=by
 have e1:∀ b,e'.ow (E.T4 i m l) i b↔e'.own m=some b:=fun b=>by rw[AX.gM hd ht,(E.E8 i m l).1]
 refine h.U0 hi hr hs (fun ha=>by rw[(E.E8 i m l).1];exact hE ha) (fun k hk=>E.NQ m l hk) CU (fun b hb ho=>hw b hb (fun hx=>ho ((e1 b).2 hx))) (fun b hb=>hold b ((e1 b).1 hb))
  (fun k f hk hf b hb ho=>C1 k f hk hf b hb ((e1 b).1 ho)) (by rw[(E.E8 i m l).1];exact QV h) (fun t xss q he=>by subst he;cases hd)
end Go.V3
namespace Go.V3
open Go
variable {TB:Tb}
inductive PM where
 |cY|iG|own
def Env.nx (E:Env) (i:Nat):Nm:={ E.nm i with ins:=⟨E.ins.l i⟩ }
inductive NE where
 |nil
 |whole (i:Nat)
 |deep (i:Nat)
 |sub (i lo n sz:Nat)
def NE.nm (E:Env):NE->Nm
 | .nil=>⟨0,0,true,0,0,none⟩
 | .whole i=>E.nm i
 | .deep i=>E.nx i
 | .sub i lo n sz=>if (E.nm i).cap=lo then { CE:=(E.nm i).CE,off:=(E.nm i).off,nil:=(E.nm i).nil,len:=n,cap:=(E.nm i).cap-lo,WE:=(E.nm i).WE,fz:=(E.nm i).fz } else { CE:=(E.nm i).CE,off:=(E.nm i).off+lo*sz,nil:=(E.nm i).nil,len:=n,cap:=(E.nm i).cap-lo,WE:=pW (E.nm i).WE (lo*sz),fz:=(E.nm i).fz }
def NE.name:NE->Option Nat
 | .nil=>none
 | .whole i=>some i
 | .deep i=>some i
 | .sub i _ _ _=>some i
def EM (E:Env) (nes:List NE) (k:Nat):Nm:=match nes[k]? with
 |some ne=>ne.nm E
 |none=>⟨0,0,true,0,0,none⟩
abbrev C7:=List (Nat×AX)
inductive bE:AX->(t:Ty)->List t.T->Prop
 |row (t:Ty) (xs:List t.T):bE (.row t xs) t xs
 |deep (t:Ty) (xss:List (List t.T)):bE (.deep t xss none) (.slice t) xss
 |tree (t1 t2:Ty) (xs:List (List t1.T×List t2.T)):bE (.tree t1 t2 xs) (.pair (.slice t1) (.slice t2)) xs
theorem bE.L5 {e:AX} {t:Ty} {xs:List t.T} (h:bE e t xs):e.IF=false:=by cases h <;> rfl
def H6 {t a:Ty} (h:t=a) (xs:List t.T):List a.T:=h ▸ xs
def NX (md:PM) (AR:Nat->Option AX) (a:Ty):SV->Option (List a.T×NE×C7)
 | .MJ=>if a.AZY=true then none else some ([],.nil,[])
 | .NV i=>match AR i with
  |some (.shr t xs)=>if h:t=a then (match md with
    | .own=>none
    |_=>some (H6 h xs,.whole i,[])) else none
  |some (.row t xs)=>if h:t=a then (match md with
    | .cY=>some (H6 h xs,.whole i,[])
    | .iG=>some (H6 h xs,.whole i,[(i,.shr t xs)])
    | .own=>if a.tK=true then none else some (H6 h xs,.whole i,[(i,.dead)])) else none
  |some (.deep t xss none)=>if h:Ty.slice t=a then (match md with
    | .cY=>some (H6 h xss,.whole i,[])
    | .iG=>some (H6 h xss,.whole i,[(i,.shr (.slice t) xss)])
    | .own=>some (H6 h xss,.deep i,[(i,.dead)])) else none
  |some (.tree t1 t2 xs)=>if h:Ty.pair (.slice t1) (.slice t2)=a then (match md with
    | .cY=>some (H6 h xs,.whole i,[])
    | .iG=>some (H6 h xs,.whole i,[(i,.shr (.pair (.slice t1) (.slice t2)) xs)])
    | .own=>some (H6 h xs,.whole i,[(i,.dead)])) else none
  |_=>none
 | .sub i lo n sz=>if sz=a.sz then match AR i with
  |some (.shr t xs)=>if h:t=a then (match md with
    | .own=>none
    |_=>some (B9 (H6 h xs) lo n,.sub i lo n sz,[])) else none
  |some (.row t xs)=>if h:t=a then (match md with
    | .cY=>some (B9 (H6 h xs) lo n,.sub i lo n sz,[])
    | .iG=>some (B9 (H6 h xs) lo n,.sub i lo n sz,[(i,.shr t xs)])
    | .own=>none) else none
  |_=>none
  else none
 |_=>none
def GC (md:PM) (AR:Nat->Option AX):(t:Ty)->List SV->Option (t.T×List SV×List NE×C7)
 | .int k,cs=>match cs with
  | .int k' n::r=>if k' =k then some (n,r,[],[]) else none
  |_=>none
 | .u64,cs=>match cs with
  | .u64 x::r=>some (x,r,[],[])
  |_=>none
 | .bool,cs=>match cs with
  |v::r=>match toB v with
   |some b=>some (b,r,[],[])
   |none=>none
  |_=>none
 | .str,cs=>match cs with
  | .str s::r=>some (s,r,[],[])
  |_=>none
 | .QT,cs=>match cs with
  | .QT n::r=>some (n,r,[],[])
  |_=>none
 | .pair a b,cs=>match GC md AR a cs with
  |none=>none
  |some (x,r,n1,u1)=>match GC md AR b r with
   |none=>none
   |some (y,r',n2,u2)=>some ((x,y),r',n1++n2,u1++u2)
 | .slice a,cs=>match cs with
  |v::r=>match NX md AR a v with
   |some (xs,ne,u)=>some (xs,r,[ne],u)
   |none=>none
  |_=>none
 | .kv,_=>none
 | .nf,cs=>match cs with
  | .QT n::r=>some ((some n:Option Nat),r,[.nil],[])
  | .nf o i::r=>some (o,r,[.whole i],[])
  |_=>none
 | .zF,cs=>match cs with
  | .raw .nilIface::r=>some ((),r,[],[])
  |_=>none
theorem pZ {md:PM} {AR:Nat->Option AX} {a:Ty} {v:SV} {xs:List a.T} {ne:NE} {u:C7} (h:NX md AR a v=some (xs,ne,u)) (E:Env):
  v.den E= .slice (ne.nm E).ad (ne.nm E).len (ne.nm E).cap:=by
 cases v with
 |MJ=>
  simp only[NX] at h
  split at h
  ·cases h
  simp only[BA,DH] at h
  obtain⟨-,rfl, -⟩:=h
  rfl
 |NV i=>
  simp only[NX] at h
  repeat' split at h
  all_goals first|(cases h;done)|(simp only[BA,DH] at h;obtain⟨-,rfl, -⟩:=h;rfl)
 |sub i lo n sz=>
  have hk:SV.den E (.sub i lo n sz)= .slice ((NE.sub i lo n sz).nm E).ad ((NE.sub i lo n sz).nm E).len ((NE.sub i lo n sz).nm E).cap:=by
   simp only[SV.den,NE.nm]
   split
   ·simp [Nm.ad]
   ·simp only[Nm.ad,pW]
    split
    ·rfl
    ·simp [IQ]
  simp only[NX] at h
  repeat' split at h
  all_goals first|(cases h;done)|(simp only[BA,DH] at h;obtain⟨-,rfl, -⟩:=h;exact hk)
 |_=>simp [NX] at h
theorem MP (E:Env) (a b:List NE):(∀ k,k<a.length->EM E (a++b) k=EM E a k)/\(∀ k,EM E (a++b) (a.length+k)=EM E b k):=by
 refine⟨fun k hk=> ?_,fun k=> ?_⟩
 ·simp [EM,WA hk]
 ·simp only[EM]
  rw[V_ (by omega)]
  simp
theorem KE {md:PM} {AR:Nat->Option AX} (E:Env):∀ (t:Ty) (cs:List SV) (x:t.T) (r:List SV) (nes:List NE) (u:C7),GC md AR t cs=some (x,r,nes,u)→
  ∃ c1,cs=c1++r/\c1.length=t.sz/\nes.length=t.HW/\AN E c1=enc t x (EM E nes):=by
 intro t
 induction t with
 |int k=>
  intro cs x r nes u h
  simp only[GC] at h
  repeat' split at h
  all_goals first|(cases h;done)|skip
  rename_i hk
  simp only[BA,DH] at h
  obtain⟨rfl,rfl,rfl,rfl⟩:=h
  subst hk
  exact⟨[_],rfl,rfl,rfl,rfl⟩
 |u64=>
  intro cs x r nes u h
  simp only[GC] at h
  repeat' split at h
  all_goals first|(cases h;done)|(simp only[BA,DH] at h;obtain⟨rfl,rfl,rfl,rfl⟩:=h;exact⟨[_],rfl,rfl,rfl,rfl⟩)
 |bool=>
  intro cs x r nes u h
  simp only[GC] at h
  repeat' split at h
  all_goals first|(cases h;done)|skip
  rename_i hb
  simp only[BA,DH] at h
  obtain⟨rfl,rfl,rfl,rfl⟩:=h
  exact⟨[_],rfl,rfl,rfl,by simp [AN,WQ hb,enc]⟩
 |str=>
  intro cs x r nes u h
  simp only[GC] at h
  repeat' split at h
  all_goals first|(cases h;done)|(simp only[BA,DH] at h;obtain⟨rfl,rfl,rfl,rfl⟩:=h;exact⟨[_],rfl,rfl,rfl,rfl⟩)
 |QT=>
  intro cs x r nes u h
  simp only[GC] at h
  repeat' split at h
  all_goals first|(cases h;done)|(simp only[BA,DH] at h;obtain⟨rfl,rfl,rfl,rfl⟩:=h;exact⟨[_],rfl,rfl,rfl,rfl⟩)
 |pair a b V7 V8=>
  intro cs x r nes u h
  simp only[GC] at h
  repeat' split at h
  all_goals first|(cases h;done)|skip
  rename_i _ x1 r1 n1 u1 h1 _ x2 r2 n2 u2 h2
  simp only[BA,DH] at h
  obtain⟨rfl,rfl,rfl,rfl⟩:=h
  obtain⟨c1,e1,l1,m1,d1⟩:=V7 _ _ _ _ _ h1
  obtain⟨c2,e2,l2,m2,d2⟩:=V8 _ _ _ _ _ h2
  refine⟨c1++c2,by rw[e1,e2,J_],by simp [Ty.sz,l1,l2],by simp [Ty.HW,m1,m2], ?_⟩
  rw[G4,d1,d2]
  simp only[enc]
  obtain⟨k1,k2⟩:=MP E n1 n2
  congr 1
  ·exact IB _ _ fun k hk=>(k1 k (by omega)).symm
  ·exact IB _ _ fun k hk=>by rw[<-m1];exact (k2 k).symm
 |slice a ih=>
  intro cs x r nes u h
  simp only[GC] at h
  repeat' split at h
  all_goals first|(cases h;done)|skip
  rename_i hs
  simp only[BA,DH] at h
  obtain⟨rfl,rfl,rfl,rfl⟩:=h
  exact⟨[_],rfl,rfl,rfl,by simp [AN,enc,pZ hs E,EM]⟩
 |kv=>intro cs x r nes u h;simp [GC] at h
 |nf=>
  intro cs x r nes u h
  simp only[GC] at h
  repeat' split at h
  all_goals first|(cases h;done)|(simp only[BA,DH] at h;obtain⟨rfl,rfl,rfl,rfl⟩:=h;exact⟨[_],rfl,rfl,rfl,rfl⟩)
 |zF=>
  intro cs x r nes u h
  simp only[GC] at h
  repeat' split at h
  all_goals first|(cases h;done)|(simp only[BA,DH] at h;obtain⟨_,rfl,rfl,rfl⟩:=h;exact⟨[_],rfl,rfl,rfl,rfl⟩)
theorem nC {α:Type} {R:α->List Value->Prop} {sz:Nat} {G:Nat->Prop} {w:World} {m:Nm} {xs:List α} (h:tL R sz G w m xs) {lo n:Nat} (hl:lo+n<=m.len):
  tL R sz G w (if m.cap=lo then { CE:=m.CE,off:=m.off,nil:=m.nil,len:=n,cap:=m.cap-lo,WE:=m.WE,fz:=m.fz } else { CE:=m.CE,off:=m.off+lo*sz,nil:=m.nil,len:=n,cap:=m.cap-lo,WE:=pW m.WE (lo*sz),fz:=m.fz }) (B9 xs lo n):=by
 obtain⟨h1,h0,h2⟩:=h
 by_cases hc:m.cap=lo
 ·have hn:n=0:=by omega
  subst hn
  rw[AA hc]
  exact⟨by simp [B9],by simp,.inl (by simp [B9])⟩
 ·rw[AD hc]
  refine⟨by simp [B9];omega,by simp;omega, ?_⟩
  rcases h2 with rfl|⟨a,b,arr,ty,fz,h3,h4⟩
  ·left;simp [B9]
  ·right
   refine⟨a,b,arr,ty,fz,h3, ?_⟩
   intro i x hx
   simp only[B9] at hx
   rw[mR] at hx
   split at hx
   ·rw[cP] at hx
    have:=h4 _ _ hx
    rw[cS] at this
    rw[O1]
    exact this
   ·cases hx
theorem AVZ {α:Type} {R R' :α->List Value->Prop} {sz:Nat} {c:EC TB} {G G' :Nat->Prop} {w:World} {m:Nm} {xs:List α} (h:Own R sz c G w m xs) (hr:∀ x vs,R x vs->R' x vs) (hg:m.nil=false->G' m.CE):
  tL R' sz G' w m xs:=by
 have hc:=gL h
 obtain⟨h1,h2,h3⟩:=h
 refine⟨h1,hc, ?_⟩
 rcases h3 with ⟨_,h4,_⟩|⟨h4,h5,h6,h7,arr,ty,h8,h9,zG⟩
 ·exact .inl h4
 ·exact .inr ⟨h4,hg h4,arr,ty,_,h8,zG.imp hr⟩
theorem p_ {md:PM} {AR:Nat->Option AX} {a:Ty} {v:SV} {xs:List a.T} {ne:NE} {u:C7} (h:NX md AR a v=some (xs,ne,u)):
  u=[]\/(∃ i t ys e,AR i=some e/\bE e t ys/\md= .iG/\ne.name=some i/\u=[(i,.shr t ys)])\/md= .own:=by
 unfold NX at h
 repeat' split at h
 all_goals first|(cases h;done)|skip
 all_goals (simp only[BA,DH] at h;obtain⟨-,rfl,rfl⟩:=h)
 all_goals first|(exact .inl rfl)|exact .inr (.inr rfl)|(right;left;exact⟨_,_,_,_,(by assumption),.row _ _,rfl,rfl,rfl⟩)|(right;left;exact⟨_,_,_,_,(by assumption),.deep _ _,rfl,rfl,rfl⟩)|(right;left;exact⟨_,_,_,_,(by assumption),.tree _ _ _,rfl,rfl,rfl⟩)
theorem qA {md:PM} {AR:Nat->Option AX} {a:Ty} {v:SV} {xs:List a.T} {ne:NE} {u:C7} (h:NX md AR a v=some (xs,ne,u)) (wD:md≠ .own) {E:Env} {L:AL} (hv:v.wf E L) {G:Nat->Prop} {w:World}
  (h1:∀ i t ys,AR i=some (.shr t ys)->tL (Rp G w t) t.sz G w (E.nm i) ys)
  (h2:∀ i t ys e,ne.name=some i->AR i=some e->bE e t ys->md= .cY\/(i,.shr t ys)∈u->tL (Rp G w t) t.sz G w (E.nm i) ys):AZZ G w (ne.nm E) (.shr a xs):=by
 unfold NX at h
 repeat' split at h
 all_goals first|(cases h;done)|skip
 all_goals (simp only[BA,DH] at h;obtain⟨rfl,rfl,rfl⟩:=h)
 all_goals first|exact absurd rfl wD|skip
 ·exact⟨rfl,EY _,.inl rfl⟩
 ·rename_i hl he _ _;subst he;exact h1 _ _ _ hl
 ·rename_i hl he _;subst he;exact h2 _ _ _ _ rfl hl (.row _ _) (.inl rfl)
 ·rename_i hl he _;subst he;exact h2 _ _ _ _ rfl hl (.row _ _) (.inr (HA.2 rfl))
 ·rename_i hl he _;subst he;exact h2 _ _ _ _ rfl hl (.deep _ _) (.inl rfl)
 ·rename_i hl he _;subst he;exact h2 _ _ _ _ rfl hl (.deep _ _) (.inr (HA.2 rfl))
 ·rename_i hl he _;subst he;exact h2 _ _ _ _ rfl hl (.tree _ _ _) (.inl rfl)
 ·rename_i hl he _;subst he;exact h2 _ _ _ _ rfl hl (.tree _ _ _) (.inr (HA.2 rfl))
 ·rename_i hz _ _ _ hl he _ _;subst he;subst hz;exact nC (h1 _ _ _ hl) hv.2
 ·rename_i hz _ _ _ hl he _;subst he;subst hz;exact nC (h2 _ _ _ _ rfl hl (.row _ _) (.inl rfl)) hv.2
 ·rename_i hz _ _ _ hl he _;subst he;subst hz;exact nC (h2 _ _ _ _ rfl hl (.row _ _) (.inr (HA.2 rfl))) hv.2
theorem qB {AR:Nat->Option AX} {a:Ty} {v:SV} {xs:List a.T} {ne:NE} {u:C7} (h:NX .own AR a v=some (xs,ne,u)):
  (ne= .nil/\xs=[]/\u=[]/\a.AZY=false)\/∃ i,((ne= .whole i/\a.tK=false)\/(ne= .deep i/\∃ b,a= .slice b)\/(ne= .whole i/\∃ b1 b2,a= .pair (.slice b1) (.slice b2)))/\AR i=some (KD a xs)/\u=[(i,.dead)]:=by
 cases v with
 |MJ=>
  simp only[NX] at h
  split at h
  ·cases h
  rename_i hk
  simp only[BA,DH] at h
  obtain⟨rfl,rfl,rfl⟩:=h
  exact .inl ⟨rfl,rfl,rfl,by simpa using hk⟩
 |NV i=>
  simp only[NX] at h
  split at h
  ·split at h <;> cases h
  ·rename_i t ys hl
   split at h
   ·rename_i he
    subst he
    split at h
    ·cases h
    rename_i QO
    have QO:t.tK=false:=by simpa using QO
    simp only[BA,DH] at h
    obtain⟨rfl,rfl,rfl⟩:=h
    exact .inr ⟨i,.inl ⟨rfl,QO⟩,by rw[hl];exact PR some (MO QO ys).symm,rfl⟩
   ·cases h
  ·rename_i t yss hl
   split at h
   ·rename_i he
    subst he
    simp only[BA,DH] at h
    obtain⟨rfl,rfl,rfl⟩:=h
    exact .inr ⟨i,.inr (.inl ⟨rfl,_,rfl⟩),hl,rfl⟩
   ·cases h
  ·rename_i t1 t2 ys hl
   split at h
   ·rename_i he
    subst he
    simp only[BA,DH] at h
    obtain⟨rfl,rfl,rfl⟩:=h
    exact .inr ⟨i,.inr (.inr ⟨rfl,_,_,rfl⟩),hl,rfl⟩
   ·cases h
  ·cases h
 |sub i lo n sz=>
  simp only[NX] at h
  repeat' split at h
  all_goals cases h
 |_=>simp [NX] at h
def ZB (AR:Nat->Option AX) (a:Ty):SV->Option (List a.T×NE×C7)
 | .MJ=>some ([],.nil,[])
 | .NV i=>match AR i with
  |some (.row t xs)=>if h:t=a then some (H6 h xs,.whole i,[(i,.dead)]) else none
  |_=>none
 | .sub i 0 n _=>match AR i with
  |some (.row t xs)=>if h:t=a then some (B9 (H6 h xs) 0 n,.whole i,[(i,.dead)]) else none
  |_=>none
 |_=>none
def Nm.cut (m:Nm) (n:Nat):Nm:={ CE:=m.CE,off:=m.off,nil:=m.nil,len:=n,cap:=m.cap,WE:=m.WE,fz:=m.fz }
theorem AFT {AR:Nat->Option AX} {a:Ty} {v:SV} {xs:List a.T} {ne:NE} {u:C7} (h:ZB AR a v=some (xs,ne,u)):
  (v= .MJ/\ne= .nil/\xs=[]/\u=[])\/∃ (i:Nat) (zs:List a.T) (n:Nat),AR i=some (.row a zs)/\u=[(i,.dead)]/\xs=B9 zs 0 n/\∀ (E:Env) (L:AL),v.wf E L->(E.nm i).len=zs.length->n<=zs.length/\v.den E= .slice (E.nm i).ad n (E.nm i).cap:=by
 cases v with
 |MJ=>
  simp only[ZB,BA,DH] at h
  obtain⟨rfl,rfl,rfl⟩:=h
  exact .inl ⟨rfl,rfl,rfl,rfl⟩
 |NV i=>
  simp only[ZB] at h
  split at h
  ·rename_i t ys hl
   split at h
   ·rename_i he
    subst he
    simp only[BA,DH] at h
    obtain⟨rfl,rfl,rfl⟩:=h
    refine .inr ⟨i,ys,ys.length,hl,rfl,by simp [H6,B9],fun E L _ hlen=>⟨EY _,by simp only[SV.den];rw[hlen]⟩⟩
   ·cases h
  ·cases h
 |sub i lo n sz=>
  cases lo with
  |succ _=>simp [ZB] at h
  |zero=>
  simp only[ZB] at h
  split at h
  ·rename_i t ys hl
   split at h
   ·rename_i he
    subst he
    simp only[BA,DH] at h
    obtain⟨rfl,rfl,rfl⟩:=h
    refine .inr ⟨i,ys,n,hl,rfl,rfl,fun E L hw hlen=>⟨by have:=hw.2;omega, ?_⟩⟩
    simp only[SV.den,pW,AAI,AFI]
    congr 1
    split
    ·rfl
    ·cases (E.nm i).ad with
     |none=>rfl
     |some p=>rfl
   ·cases h
  ·cases h
 |_=>simp [ZB] at h
theorem XX {md:PM} {AR:Nat->Option AX}:∀ (t:Ty) (cs:List SV) (x:t.T) (r:List SV) (nes:List NE) (u:C7),GC md AR t cs=some (x,r,nes,u)→
  (∀ (k:Nat) (o:Bool) (e:AX),(B_ o t x)[k]? =some e->e= .dead\/∃ (a:Ty) (v:SV) (xs:List a.T) (ne:NE) (uk:C7),NX md AR a v=some (xs,ne,uk)/\nes[k]? =some ne/\v∈cs/\(∀ q∈uk,q∈u)/\e=(match o with|true=>KD a xs|false=>AX.shr a xs))∧
  (∀ q∈u,∃ (k:Nat) (a:Ty) (v:SV) (xs:List a.T) (ne:NE) (uk:C7),NX md AR a v=some (xs,ne,uk)/\nes[k]? =some ne/\q∈uk):=by
 intro t
 induction t with
 |pair a b V7 V8=>
  intro cs x r nes u h
  simp only[GC] at h
  repeat' split at h
  all_goals first|(cases h;done)|skip
  rename_i _ x1 r1 n1 u1 h1 _ x2 r2 n2 u2 h2
  simp only[BA,DH] at h
  obtain⟨rfl,rfl,rfl,rfl⟩:=h
  obtain⟨c1,e1,l1,m1,_⟩:=KE ⟨fun _=>⟨0,0,true,0,0,none⟩,fun _=>undef⟩ _ _ _ _ _ _ h1
  obtain⟨p1,q1⟩:=V7 _ _ _ _ _ h1
  obtain⟨p2,q2⟩:=V8 _ _ _ _ _ h2
  refine⟨?_, ?_⟩
  ·intro k o e he
   simp only[B_] at he
   by_cases hk:k<a.HW
   ·rw[WA (by rw[BI];exact hk)] at he
    rcases p1 k o e he with hd|⟨a',v,xs,ne,uk,g1,g2,g3,g4,g5⟩
    ·exact .inl hd
    exact .inr ⟨a',v,xs,ne,uk,g1,by rw[WA (by omega)];exact g2,g3,fun q hq=>FG.2 (.inl (g4 q hq)),g5⟩
   ·rw[V_ (by rw[BI];omega),BI] at he
    rcases p2 _ o e he with hd|⟨a',v,xs,ne,uk,g1,g2,g3,g4,g5⟩
    ·exact .inl hd
    exact .inr ⟨a',v,xs,ne,uk,g1,by rw[V_ (by omega),m1];exact g2,by rw[e1];exact FG.2 (.inr g3),fun q hq=>FG.2 (.inr (g4 q hq)),g5⟩
  ·intro q hq
   rcases FG.1 hq with hq|hq
   ·obtain⟨k,a',v,xs,ne,uk,g1,g2,g3⟩:=q1 q hq
    have hk:k<n1.length:=by
     rcases IA k n1.length with h1|h1
     ·exact h1
     ·rw[UX h1] at g2;cases g2
    exact⟨k,a',v,xs,ne,uk,g1,by rw[WA hk];exact g2,g3⟩
   ·obtain⟨k,a',v,xs,ne,uk,g1,g2,g3⟩:=q2 q hq
    exact⟨n1.length+k,a',v,xs,ne,uk,g1,by rw[V_ (by omega)];simpa using g2,g3⟩
 |slice a ih=>
  intro cs x r nes u h
  simp only[GC] at h
  repeat' split at h
  all_goals first|(cases h;done)|skip
  rename_i v r' _ xs ne u' hs
  simp only[BA,DH] at h
  obtain⟨rfl,rfl,rfl,rfl⟩:=h
  refine⟨?_,fun q hq=>⟨0,_,_,_,_,_,hs,rfl,hq⟩⟩
  intro k o e he
  cases k with
  |zero=>
   simp only[B_,QP,BA] at he
   exact .inr ⟨_,_,_,_,_,hs,rfl,by simp,fun _ h=>h,he.symm⟩
  |succ k=>simp [B_] at he
 |nf=>
  intro cs x r nes u h
  simp only[GC] at h
  repeat' split at h
  all_goals first|(cases h;done)|skip
  all_goals (simp only[BA,DH] at h;obtain⟨rfl,rfl,rfl,rfl⟩:=h;refine⟨fun k o e he=> .inl ?_,fun q hq=>by cases hq⟩;cases k with
   |zero=>simp only[B_,QP,BA] at he;exact he.symm
   |succ k=>simp [B_] at he)
 |_=>
  intro cs x r nes u h
  simp only[GC] at h
  repeat' split at h
  all_goals first|(cases h;done)|skip
  all_goals (simp only[BA,DH] at h;obtain⟨_,rfl,rfl,rfl⟩:=h;exact⟨fun k o e he=>by simp [B_] at he,fun q hq=>by cases hq⟩)
theorem AS.ACP {c:EC TB} {w:World} {E:Env}:∀ (u:C7) {G:Nat->Prop} {L:AL},AS c G w E L->(∀ q∈u,∃ t ys,((∃ e,look L q.1=some e/\bE e t ys)\/look L q.1=some (.shr t ys))/\q.2= .shr t ys)→
  ∃ G',AS c G' w E (AK L u)/\(∀ b,G b->G' b)/\(∀ n,Al L n->Al (AK L u) n)∧
   (∀ n e,look L n=some e->look (AK L u) n=some e\/(∃ t ys,bE e t ys/\look (AK L u) n=some (.shr t ys)/\(n,.shr t ys)∈u))/\(∀ q∈u,look (AK L u) q.1=some q.2)
 | [],G,L,h,_=>⟨G,h,fun _ hb=>hb,fun _ hn=>hn,fun n e he=> .inl he,fun q hq=>by cases hq⟩
 |q::r,G,L,h,hu=>by
  obtain⟨t,ys,hq,hq2⟩:=hu q (by simp)
  obtain⟨i,e⟩:=q
  simp only at hq2 hq
  subst hq2
  have DO:i<L.length:=by rcases hq with ⟨_,h1,_⟩|h1 <;> exact AQ h1
  have hl:=fun n=>BC (L:=L) (q:=(i,AX.shr t ys)) DO n
  obtain⟨G1,h1,hg1⟩:∃ G1,AS c G1 w E (DK L (i,.shr t ys))/\∀ b,G b->G1 b:=by
   rcases hq with ⟨e,hq,ho⟩|hq
   ·cases ho with
    |row=>exact⟨_,h.freeze hq,fun b hb=> .inl hb⟩
    |deep=>exact⟨_,h.ACO hq,fun b hb=> .inl hb⟩
    |tree=>exact⟨_,h.AVX hq,fun b hb=> .inl hb⟩
   ·refine⟨G, ?_,fun _ hb=>hb⟩
    have:=h.change (i:=i) (e' := .shr t ys) (m:=E.nm i) (w' :=w) DO (.refl _) (EY _) (fun _=>rfl) rfl (fun _ _ _=>rfl) (fun b hb=>by cases hb) (fun _ _ _ _ _ _ hb=>by cases hb) (fun h=>h.MK i _ hq)
    have he:E.set i (E.nm i)=E:=by
     have:(fun k=>if k=i then E.nm i else E.nm k)=E.nm:=by funext k;split <;> simp_all
     simp only[Env.set,this]
    rw[he] at this
    exact this
  have AW0:∀ {e1:AX} {t1 t2:Ty} {y1:List t1.T} {y2:List t2.T},bE e1 t1 y1->bE e1 t2 y2->(AX.shr t1 y1)= .shr t2 y2:=by
   intro e1 t1 t2 y1 y2 a b
   cases a <;> cases b <;> rfl
  obtain⟨G2,h2,hg2,ha2,PW,hq2⟩:=AS.ACP r h1 (by
   intro p hp
   obtain⟨t',ys',uG,hp2⟩:=hu p (by simp [hp])
   by_cases hpi:p.1=i
   ·refine⟨t,ys,.inr (by rw[hl,AA hpi]), ?_⟩
    rw[hpi] at uG
    rw[hp2]
    rcases hq with ⟨e,hq,ho⟩|hq <;> rcases uG with ⟨e',uG,ho'⟩|uG <;> rw[hq] at uG <;> simp only[BA] at uG
    ·subst uG;exact AW0 ho' ho
    ·subst uG;cases ho
    ·subst uG;cases ho'
    ·exact uG.symm
   ·refine⟨t',ys', ?_,hp2⟩
    rw[hl,AD hpi];exact uG)
  refine⟨G2,h2,fun b hb=>hg2 b (hg1 b hb),fun n hn=>ha2 n (BZ rfl n hn), ?_, ?_⟩
  ·intro n e he
   by_cases hn:n=i
   ·subst hn
    have hx:=PW n (.shr t ys) (by rw[hl,AA rfl])
    have hx' :look (AK L ((n,.shr t ys)::r)) n=some (.shr t ys):=by
     rcases hx with hx|⟨_,_,hx,_⟩
     ·exact hx
     ·cases hx
    rcases hq with ⟨e',hq,ho⟩|hq
    ·rw[hq] at he;simp only[BA] at he;subst he
     exact .inr ⟨t,ys,ho,hx',by simp⟩
    ·rw[hq] at he;simp only[BA] at he;subst he
     exact .inl hx'
   ·rcases PW n e (by rw[hl,AD hn];exact he) with hx|⟨t',ys',hx1,hx2,hx3⟩
    ·exact .inl hx
    ·exact .inr ⟨t',ys',hx1,hx2,by simp [hx3]⟩
  ·intro p hp
   rcases GA.1 hp with rfl|hp
   ·rcases PW i (.shr t ys) (by rw[hl,AA rfl]) with hx|⟨_,_,hx,_⟩
    ·exact hx
    ·cases hx
   ·exact hq2 p hp
end Go.V3
namespace Go.V3
open Go
variable {TB:Tb}
structure CT where
 t:Ty
 agg:Bool
 own:Bool
 ptr:Bool
@[reducible] def HT:List CT->Type
 | []=>Unit
 |c::r=>match r with
  | []=>c.t.T
  |_::_=>c.t.T×HT r
def HT.hd:(c:CT)->(r:List CT)->HT (c::r)->c.t.T
 |_,[],x=>x
 |_,_::_,x=>x.1
def HT.tl:(c:CT)->(r:List CT)->HT (c::r)->HT r
 |_,[],_=>()
 |_,_::_,x=>x.2
def HT.mk:(c:CT)->(r:List CT)->c.t.T->HT r->HT (c::r)
 |_,[],x,_=>x
 |_,_::_,x,y=>(x,y)
theorem HT.rZ (c:CT) (r:List CT) (x:c.t.T) (y:HT r):HT.hd c r (HT.mk c r x y)=x:=by cases r <;> rfl
theorem HT.r_ (c:CT) (r:List CT) (x:c.t.T) (y:HT r):HT.tl c r (HT.mk c r x y)=y:=by cases r <;> rfl
def CT.pn (c:CT):Nat:=match c.ptr with|true=>1|false=>0
def CT.cnt (c:CT):Nat:=c.pn+c.t.HW
def cnts:List CT->Nat
 | []=>0
 |c::r=>c.cnt+cnts r
def CW:Nat->List AX->C7
 |_,[]=>[]
 |n,e::r=>(n,e)::CW (n+1) r
def UB (c:CT) (x:c.t.T) (n:Nat):SV:=match c.ptr with
 |true=> .loc n 0
 |false=>match c.agg with
  |true=> .agg (IY c.t x n)
  |false=>(IY c.t x n).headD AW
def outSVs:(cs:List CT)->HT cs->Nat->List SV
 | [],_,_=>[]
 |c::r,x,n=>UB c (HT.hd c r x) n::outSVs r (HT.tl c r x) (n+c.cnt)
def PX (c:CT) (x:c.t.T) (n:Nat):C7:=match c.ptr with
 |true=>CW (n+1) (B_ c.own c.t x)++ [(n,.box (IY c.t x (n+1)))]
 |false=>CW n (B_ c.own c.t x)
def ET:(cs:List CT)->HT cs->Nat->C7
 | [],_,_=>[]
 |c::r,x,n=>PX c (HT.hd c r x) n++ET r (HT.tl c r x) (n+c.cnt)
def k_ (c:EC TB) (G:Nat->Prop) (w:World) (m:Nm):AX->Prop
 | .row t xs=>Own (Rp G w t) t.sz c G w m xs
 | .shr t xs=>tL (Rp G w t) t.sz G w m xs
 | .deep t xss h=>h=none/\GD c G w ⟨fun _=>m,fun _=>undef⟩ [] m m.ins.l t xss none
 | .tree t1 t2 xs=>FP c G w m t1 t2 xs
 | .dead=>True
 |_=>False
def AX.XY (e:AX) (m:Nm):List Nat:=match e with
 | .deep _ _ _=>m.ins.l
 | .tree _ _ _=>m.ins.l
 |e=>(e.own m).toList
theorem AX.ACQ {e:AX} {E:Env} {n b:Nat} {m:Nm} (h1:E.nm n=m) (h2:E.ins.l n=m.ins.l):e.ow E n b↔b∈e.XY m:=by
 cases e <;> simp [AX.ow,AX.own,AX.XY,AX.T1,AX.PV,h1,h2]
 all_goals exact⟨fun h=>h.symm,fun h=>h.symm⟩
def AX.AOE (e:AX) (E:Env) (n:Nat):List Nat:=match e with
 | .deep _ _ _=>E.ins.l n
 | .tree _ _ _=>(E.nm n).ins.l
 |e=>(e.own (E.nm n)).toList
theorem AX.A2K {e:AX} {E:Env} {n b:Nat}:e.ow E n b↔b∈e.AOE E n:=by
 cases e
 case row t x=>show (AX.row t x).own (E.nm n)=some b\/_↔b∈((AX.row t x).own (E.nm n)).toList;simp [AX.T1,AX.PV]
 case box t=>show (AX.box t).own (E.nm n)=some b\/_↔b∈((AX.box t).own (E.nm n)).toList;simp [AX.T1,AX.PV]
 case map t=>show (AX.map t).own (E.nm n)=some b\/_↔b∈((AX.map t).own (E.nm n)).toList;simp [AX.T1,AX.PV]
 all_goals simp [AX.ow,AX.own,AX.AOE,AX.T1,AX.PV]
theorem k_.nil (c:EC TB) (G:Nat->Prop) (w:World) (a:Ty) (ha:a.AZY=false):k_ c G w ⟨0,0,true,0,0,none⟩ (KD a []):=by
 cases a
 case kv=>cases ha
 case slice a=>exact⟨rfl,{ len:=rfl,off:=rfl,nd:=iF,all:=fun b hb=>(by cases hb),cs:= .inl ⟨rfl,rfl,rfl⟩ }⟩
 case pair a b=>cases a <;> cases b <;> first|exact⟨rfl,trivial,.inl ⟨rfl,rfl,rfl⟩⟩|exact⟨rfl,rfl,iF,fun b hb=>(by cases hb),.inl ⟨rfl,rfl,rfl⟩⟩
 all_goals exact⟨rfl,trivial,.inl ⟨rfl,rfl,rfl⟩⟩
theorem AX.AFU {e:AX} {m:Nm} {b:Nat} (h:e.own m=some b):b∈e.XY m:=by
 cases e <;> first|cases h;done|simp [AX.XY,h]
theorem k_.wE {c:EC TB} {G:Nat->Prop} {w:World} {m:Nm} {e:AX} (h:k_ c G w m e) {b:Nat} (hb:b∈e.XY m):¬c.Old b/\¬G b/\b<w.heap.size:=by
 cases e with
 |row t xs=>
  have h' :aN c G w ⟨fun _=>m,fun _=>undef⟩ [] m (.row t xs):=h
  have UA :(AX.row t xs).own m=some b:=by simpa [AX.XY] using hb
  obtain⟨_,_,_,h4,h5,o,h6⟩:=h'.wC UA
  exact⟨h5,h4,T3 h6⟩
 |deep t xss q=>
  obtain⟨h1,h2,arr,ty,_,h3⟩:=h.2.all b hb
  exact⟨h2,h1,T3 h3⟩
 |tree t1 t2 xs=>
  obtain⟨h1,h2,arr,ty,_,h3⟩:=h.all b hb
  exact⟨h2,h1,T3 h3⟩
 |shr t xs=>simp [AX.XY,AX.own] at hb
 |dead=>simp [AX.XY,AX.own] at hb
 |_=>exact h.elim
def HE (c:EC TB) (G:Nat->Prop) (w:World) (d:CT) (x:d.t.T) (ms:Nat->Nm):Prop:=
 (∀ j e,(B_ d.own d.t x)[j]? =some e->k_ c G w (ms (d.pn+j)) e)∧
 (d.ptr=true->(ms 0).nil=false/\(ms 0).off=(ms 0).pp.pre.length/\¬G (ms 0).CE/\¬c.Old (ms 0).CE/\∃ ty,w.heap[(ms 0).CE]? =some (.cells ((ms 0).arr (enc d.t x (fun j=>ms (d.pn+j)))) ty (0,0)))
def PS (c:EC TB) (G:Nat->Prop) (w:World):(cs:List CT)->HT cs->(Nat->Nm)->Prop
 | [],_,_=>True
 |d::r,x,ms=>HE c G w d (HT.hd d r x) ms/\PS c G w r (HT.tl d r x) (fun k=>ms (d.cnt+k))
def HK:List AX->(Nat->Nm)->List Nat
 | [],_=>[]
 |e::r,ms=>e.XY (ms 0)++HK r (fun k=>ms (k+1))
def NY (d:CT) (x:d.t.T) (ms:Nat->Nm):List Nat:=(match d.ptr with|true=>[(ms 0).CE]|false=>[])++HK (B_ d.own d.t x) (fun j=>ms (d.pn+j))
def CF:(cs:List CT)->HT cs->(Nat->Nm)->List Nat
 | [],_,_=>[]
 |d::r,x,ms=>NY d (HT.hd d r x) ms++CF r (HT.tl d r x) (fun k=>ms (d.cnt+k))
def JH (E:Env) (L:AL) (b:Nat):Prop:=∀ n e,look L n=some e->¬e.ow E n b
def Env.put (E:Env) (n cnt:Nat) (ms:Nat->Nm):Env:={ E with nm:=fun k=>if n<=k/\k<n+cnt then ms (k-n) else E.nm k,ins:=⟨fun k=>if n<=k/\k<n+cnt then (ms (k-n)).ins.l else E.ins.l k⟩ }
theorem Env.lA (E:Env) (n cnt:Nat) (ms:Nat->Nm) {j:Nat} (h:j<cnt):(E.put n cnt ms).nm (n+j)=ms j:=by
 simp only[Env.put]
 rw[AA ⟨by omega,by omega⟩]
 congr 1;omega
theorem Env.WT (E:Env) (n cnt:Nat) (ms:Nat->Nm) {k:Nat} (h:k<n\/n+cnt<=k):(E.put n cnt ms).nm k=E.nm k:=by
 simp only[Env.put]
 rw[AD (by omega)]
theorem Env.AM0 (E:Env) (n cnt:Nat) (ms:Nat->Nm) {j:Nat} (h:j<cnt):(E.put n cnt ms).ins.l (n+j)=(ms j).ins.l:=by
 simp only[Env.put]
 rw[AA ⟨by omega,by omega⟩]
 congr 3;omega
theorem Env.AR9 (E:Env) (n cnt:Nat) (ms:Nat->Nm) {k:Nat} (h:k<n\/n+cnt<=k):(E.put n cnt ms).ins.l k=E.ins.l k:=by
 simp only[Env.put]
 rw[AD (by omega)]
theorem AX.cZ {e:AX} {E:Env} {n cnt:Nat} {ms:Nat->Nm} {j b:Nat} (h:j<cnt):e.ow (E.put n cnt ms) (n+j) b↔b∈e.XY (ms j):=AX.ACQ (E.lA n cnt ms h) (E.AM0 n cnt ms h)
theorem AX.gO {e:AX} {E E' :Env} {n b:Nat} (h:E'.nm n=E.nm n/\E'.ins.l n=E.ins.l n):e.ow E' n b↔e.ow E n b:=by unfold AX.ow;rw[h.1,h.2]
theorem AX.qC {e:AX} {E:Env} {n cnt:Nat} {ms:Nat->Nm} {k b:Nat} (h:k<n\/n+cnt<=k):e.ow (E.put n cnt ms) k b↔e.ow E k b:=AX.gO ⟨E.WT n cnt ms h,E.AR9 n cnt ms h⟩
theorem L9 {E E' :Env} (h:∀ k,E.nm k=E'.nm k) (h2:E.ds=E'.ds) (h3:∀ k,E.ins.l k=E'.ins.l k):E=E' :=by
 obtain @⟨a,b,⟨d⟩⟩:=E
 obtain @⟨a',b',⟨d'⟩⟩:=E'
 have e1:a=a' :=funext h
 have e2:b=b' :=h2
 have e3:d=d' :=funext h3
 subst e1 e2 e3
 rfl
theorem IX {f:AX} {b:Nat}:∀ (es:List AX) (j:Nat) (ms:Nat->Nm),es[j]? =some f->b∈f.XY (ms j)->b∈HK es ms
 | [],j,ms,h,_=>by simp at h
 |e::r,0,ms,h,hb=>by
  simp only[QP,BA] at h;subst h
  simp only[HK];exact FG.2 (.inl hb)
 |e::r,j+1,ms,h,hb=>by
  simp only[zC] at h
  simp only[HK]
  exact FG.2 (.inr (IX r j (fun k=>ms (k+1)) h hb))
theorem AS.nD {c:EC TB} {G:Nat->Prop} {w:World}:∀ (es:List AX) {E:Env} {L:AL} {n:Nat} {ms:Nat->Nm},AS c G w E L->(∀ j,j<es.length->look L (n+j)=some .L5)→
  (∀ j e,es[j]? =some e->k_ c G w (ms j) e)->(HK es ms).Nodup->(∀ b∈HK es ms,JH E L b)→
  AS c G w (E.put n es.length ms) (AK L (CW n es))/\(∀ k,look (AK L (CW n es)) k=if n<=k/\k<n+es.length then es[k-n]? else look L k)
 | [],E,L,n,ms,h,_,_,_,_=>by
  have e1:E.put n 0 ms=E:=L9 (fun k=>by simp only[Env.put];rw[AD (by omega)]) rfl (fun k=>by simp only[Env.put];rw[AD (by omega)])
  refine⟨by rw[VG,e1];exact h,fun k=> ?_⟩
  rw[AD (by simp)];rfl
 |e::r,E,L,n,ms,h,hl,hm,JE,XU=>by
  have h0:look L n=some .L5:=hl 0 (by simp)
  have DO:=AQ h0
  have CD:=fun k=>BC (L:=L) (q:=(n,e)) DO k
  have hm0:=hm 0 e rfl
  have CU:e.IF=false:=by cases e <;> first|rfl|exact hm0.elim
  have C1:∀ b,b∈e.XY (ms 0)->¬c.Old b/\¬G b:=fun b hb=>⟨(hm0.wE hb).1,(hm0.wE hb).2.1⟩
  have XE:∀ b,b∈e.XY (ms 0)->b∈HK (e::r) ms:=by
   intro b hb
   simp only[HK]
   exact FG.2 (.inl hb)
  have iH:∀ b,e.ow (E.T4 n (ms 0) (ms 0).ins.l) n b↔b∈e.XY (ms 0):=fun b=>AX.ACQ (E.E8 _ _ _).1 (E.E8 _ _ _).2
  have h1:AS c G w (E.T4 n (ms 0) (ms 0).ins.l) (DK L (n,e)):=by
   refine h.U0 DO (.refl _) (EY _) (fun PB=>absurd PB (E3 h0)) (fun k hk=>E.NQ _ _ hk) CU (fun _ _ _=>rfl) (fun b hb=>C1 b ((iH b).1 hb)) ?_ ?_ ?_
   ·intro k f hk hf b hb he
    exact XU b (XE b ((iH b).1 he)) k f hf hb
   ·rw[(E.E8 _ _ _).1]
    cases e with
    |row t xs=>exact hm0
    |shr t xs=>exact hm0
    |deep t xss q=>trivial
    |dead=>trivial
    |tree t1 t2 xs=>exact hm0
    |_=>exact hm0.elim
   ·intro t xss q he
    subst he
    obtain⟨rfl,hm0⟩:=hm0
    rw[(E.E8 _ _ _).1,(E.E8 _ _ _).2]
    exact hm0.env ⟨rfl,rfl,rfl,rfl,rfl⟩
  have AW1 :(HK r (fun k=>ms (k+1))).Nodup:=(RF.1 JE).2.1
  obtain⟨h2,h3⟩:=AS.nD r (n:=n+1) (ms:=fun k=>ms (k+1)) h1 (by
    intro j hj
    rw[CD,AD (by simp;omega)]
    have:=hl (j+1) (by simp;omega)
    rw[<-this];congr 1;omega)
   (fun j e' zH =>hm (j+1) e' (by simpa using zH)) AW1 (by
    intro b hb k f hf RH
    rw[CD] at hf
    by_cases hk:k=n
    ·subst hk
     simp only[HJ,BA] at hf
     subst hf
     exact (RF.1 JE).2.2 b ((iH b).1 RH) b hb rfl
    ·rw[AD hk] at hf
     rw[AX.gO (E.NQ _ _ hk)] at RH
     exact XU b (by simp only[HK];exact FG.2 (.inr hb)) k f hf RH)
  have e1:(E.T4 n (ms 0) (ms 0).ins.l).put (n+1) r.length (fun k=>ms (k+1))=E.put n (e::r).length ms:=by
   refine L9 (fun k=> ?_) rfl (fun k=> ?_)
   all_goals simp only[Env.put,Env.T4,O0]
   all_goals by_cases hk:k=n
   all_goals first|subst hk|skip
   ·rw[AD (by omega),AA rfl,AA ⟨by omega,by omega⟩]
    congr 1;omega
   ·by_cases PW:n+1<=k/\k<n+1+r.length
    ·rw[AA PW,AA ⟨by omega,by omega⟩]
     congr 1;omega
    ·rw[AD PW,AD hk,AD (by omega)]
   ·rw[AD (by omega),AA rfl,AA ⟨by omega,by omega⟩]
    congr 3;omega
   ·by_cases PW:n+1<=k/\k<n+1+r.length
    ·rw[AA PW,AA ⟨by omega,by omega⟩]
     congr 3;omega
    ·rw[AD PW,AD hk,AD (by omega)]
  refine⟨by rw[<-e1];exact h2,fun k=> ?_⟩
  have:=h3 k
  show look (AK (DK L (n,e)) (CW (n+1) r)) k=_
  rw[this,CD,O0]
  by_cases hk:k=n
  ·subst hk
   rw[AD (by omega),AA rfl,AA ⟨by omega,by omega⟩]
   simp
  ·by_cases PW:n+1<=k/\k<n+1+r.length
   ·rw[AA PW,AA ⟨by omega,by omega⟩]
    have:k-n=(k-(n+1))+1:=by omega
    rw[this];simp
   ·rw[AD PW,AD hk,AD (by omega)]
theorem BQ (L:AL) (a b:C7):AK L (a++b)=AK (AK L a) b:=by simp [AK]
theorem XZ {o:Bool} {t:Ty} {x:t.T} {e:AX} {j:Nat} (h:(B_ o t x)[j]? =some e):e.IF=false:=by
 induction t generalizing j with
 |pair a b V7 V8=>
  simp only[B_] at h
  by_cases hk:j<(B_ o a x.1).length
  ·rw[WA hk] at h;exact V7 h
  ·rw[V_ (by omega)] at h;exact V8 h
 |slice a=>
  cases j with
  |zero=>simp only[B_,QP,BA] at h;subst h;cases o <;> first|rfl|exact k9 _ _
  |succ j=>simp [B_] at h
 |nf=>
  cases j with
  |zero=>simp only[B_,QP,BA] at h;subst h;rfl
  |succ j=>simp [B_] at h
 |_=>simp [B_] at h
theorem wF {E:Env} {L:AL} (t:Ty) (x:t.T) (n:Nat) (h:∀ j,j<t.HW->Al L (n+j)):L7 E L (IY t x n):=by
 induction t generalizing n with
 |pair a b V7 V8=>
  simp only[IY]
  rw[B0]
  intro v hv
  rcases FG.1 hv with hv|hv
  ·exact B0.1 (V7 x.1 n (fun j hj=>h j (by simp [Ty.HW];omega))) v hv
  ·exact B0.1 (V8 x.2 _ (fun j hj=>by rw[O1];exact h _ (by simp [Ty.HW];omega))) v hv
 |slice a=>exact⟨h 0 (by simp [Ty.HW]),trivial⟩
 |nf=>exact⟨h 0 (by simp [Ty.HW]),trivial⟩
 |_=>exact⟨trivial,trivial⟩
theorem AS.AM1 {c:EC TB} {G:Nat->Prop} {w:World} {E:Env} {L:AL} (h:AS c G w E L) (d:CT) (x:d.t.T) {n:Nat} {ms:Nat->Nm} (hl:∀ j,j<d.cnt->look L (n+j)=some .L5)
  (hc:HE c G w d x ms) (JE:(NY d x ms).Nodup) (XU:∀ b∈NY d x ms,JH E L b):
  AS c G w (E.put n d.cnt ms) (AK L (PX d x n))/\(∀ k,(n<=k/\k<n+d.cnt->Al (AK L (PX d x n)) k)/\(¬(n<=k/\k<n+d.cnt)->look (AK L (PX d x n)) k=look L k))∧
   (UB d x n).wf (E.put n d.cnt ms) (AK L (PX d x n))∧
   (∀ k f b,n<=k/\k<n+d.cnt->look (AK L (PX d x n)) k=some f->f.ow (E.put n d.cnt ms) k b->b∈NY d x ms):=by
 unfold PX UB
 unfold HE CT.cnt NY CT.pn at*
 cases hp:d.ptr with
 |false=>
  simp only[hp,KK,tJ] at*
  obtain⟨h1,h2⟩:=AS.nD (B_ d.own d.t x) (n:=n) (ms:=ms) h (fun j hj=>hl j (by rw[BI] at hj;exact hj)) hc.1 JE XU
  rw[BI] at h1 h2
  have PB:∀ k,n<=k/\k<n+d.t.HW->Al (AK L (CW n (B_ d.own d.t x))) k:=by
   intro k hk
   have DO:k-n<(B_ d.own d.t x).length:=by rw[BI];omega
   refine⟨(B_ d.own d.t x)[k-n], ?_,XZ (OT DO)⟩
   rw[h2,AA hk,OT DO]
  refine⟨h1,fun k=>⟨PB k,fun hk=>by rw[h2,AD hk]⟩, ?_, ?_⟩
  rotate_left
  ·intro k f b hk hf hb
   rw[h2,AA hk] at hf
   have e0:k=n+(k-n):=by omega
   rw[e0,AX.cZ (by omega)] at hb
   exact IX _ _ _ hf hb
  have hw:L7 (E.put n d.t.HW ms) (AK L (CW n (B_ d.own d.t x))) (IY d.t x n):=wF _ _ _ fun j hj=>PB _ ⟨by omega,by omega⟩
  cases hd:d.agg with
  |true=>exact hw
  |false=>
   show SV.wf _ _ ((IY d.t x n).headD AW)
   cases hu:IY d.t x n with
   |nil=>trivial
   |cons v r=>rw[hu] at hw;exact hw.1
 |true=>
  simp only[hp] at*
  obtain⟨hc1,hc2⟩:=hc
  obtain⟨b1,b2,b3,b4,ty,b5⟩:=hc2 trivial
  have X0:=RF.1 JE
  obtain⟨h1,h2⟩:=AS.nD (B_ d.own d.t x) (n:=n+1) (ms:=fun j=>ms (1+j)) h (fun j hj=>by have:=hl (1+j) (by rw[BI] at hj;omega);rw[<-this];congr 1;omega) hc1 X0.2.1
   (fun b hb=>XU b (FG.2 (.inr hb)))
  rw[BI] at h1 h2
  have h0:look (AK L (CW (n+1) (B_ d.own d.t x))) n=some .L5:=by
   rw[h2,AD (by omega)];exact hl 0 (by omega)
  have DO:=AQ h0
  have CD:=fun k=>BC (q:=(n,AX.box (IY d.t x (n+1)))) DO k
  have PB:∀ k,n<=k/\k<n+(1+d.t.HW)->Al (DK (AK L (CW (n+1) (B_ d.own d.t x))) (n,AX.box (IY d.t x (n+1)))) k:=by
   intro k hk
   by_cases hkn:k=n
   ·exact⟨.box (IY d.t x (n+1)),by rw[CD,AA hkn],rfl⟩
   ·have DO:k-(n+1)<(B_ d.own d.t x).length:=by rw[BI];omega
    refine⟨(B_ d.own d.t x)[k-(n+1)], ?_,XZ (OT DO)⟩
    rw[CD,AD hkn,h2,AA (by omega),OT DO]
  have e1:(E.put (n+1) d.t.HW (fun j=>ms (1+j))).T4 n (ms 0) (ms 0).ins.l=E.put n (1+d.t.HW) ms:=by
   refine L9 (fun k=> ?_) rfl (fun k=> ?_)
   all_goals simp only[Env.put,Env.T4]
   all_goals by_cases hk:k=n
   all_goals first|subst hk|skip
   ·rw[AA rfl,AA (by omega)]
    congr 1;omega
   ·rw[AD hk]
    by_cases PW:n+1<=k/\k<n+1+d.t.HW
    ·rw[AA PW,AA (by omega)]
     congr 1;omega
    ·rw[AD PW,AD (by omega)]
   ·rw[AA rfl,AA (by omega)]
    congr 3;omega
   ·rw[AD hk]
    by_cases PW:n+1<=k/\k<n+1+d.t.HW
    ·rw[AA PW,AA (by omega)]
     congr 3;omega
    ·rw[AD PW,AD (by omega)]
  have sA:L7 (E.put n (1+d.t.HW) ms) (DK (AK L (CW (n+1) (B_ d.own d.t x))) (n,AX.box (IY d.t x (n+1)))) (IY d.t x (n+1)):=
   wF _ _ _ fun j hj=>PB _ (by omega)
  have h3:=h1.AVY (i:=n) (e' := .box (IY d.t x (n+1))) (m:=ms 0) (w' :=w) (ms 0).ins.l DO (.refl _) (EY _) (fun hx=>absurd hx (E3 h0)) rfl (fun _ _ _=>rfl)
   (fun b hb=>by simp only[AX.own,BA] at hb;subst hb;exact⟨b4,b3⟩)
   (by
    intro k f hk hf b hb he
    simp only[AX.own,BA] at he
    subst he
    rw[h2] at hf
    by_cases PW:n+1<=k/\k<n+1+d.t.HW
    ·rw[AA PW] at hf
     have OU:(ms 0).CE∈HK (B_ d.own d.t x) (fun j=>ms (1+j)):=by
      have:k=n+1+(k-(n+1)):=by omega
      rw[this,AX.cZ (by omega)] at hb
      exact IX _ _ _ hf hb
     exact X0.2.2 _ (by simp) _ OU rfl
    ·rw[AD PW] at hf
     rw[AX.qC (by omega)] at hb
     exact XU _ (FG.2 (.inl (by simp))) k f hf hb)
   (by
    intro _
    rw[e1]
    refine⟨b1,b2,b3,b4,⟨ty, ?_⟩,sA⟩
    rw[b5,WS]
    congr 3
    apply IB
    intro j hj
    show ms (1+j)=(E.put n (1+d.t.HW) ms).nm (n+1+j)
    rw[O1,Env.lA _ _ _ _ (by omega)])
  rw[e1] at h3
  rw[BQ]
  refine⟨h3,fun k=>⟨PB k,fun hk=> ?_⟩,PB n (by omega), ?_⟩
  ·show look (DK _ _) k=_
   rw[CD,AD (by omega),h2,AD (by omega)]
  ·intro k f b hk hf hb
   have hf' :look (DK (AK L (CW (n+1) (B_ d.own d.t x))) (n,AX.box (IY d.t x (n+1)))) k=some f:=hf
   rw[CD] at hf'
   by_cases hkn:k=n
   ·subst hkn
    simp only[HJ,BA] at hf'
    subst hf'
    have UA :=(AX.cZ (e:= .box (IY d.t x (k+1))) (E:=E) (n:=k) (cnt:=1+d.t.HW) (ms:=ms) (j:=0) (b:=b) (by omega)).1 (by simpa using hb)
    simp only[AX.XY,AX.own,Option.toList_some,HA] at UA
    exact FG.2 (.inl (by simp [UA]))
   ·rw[AD hkn,h2,AA (by omega)] at hf'
    have e0:k=n+(1+(k-(n+1))):=by omega
    rw[e0,AX.cZ (by omega)] at hb
    exact FG.2 (.inr (IX _ _ (fun j=>ms (1+j)) hf' hb))
theorem AS.nE {c:EC TB} {G:Nat->Prop} {w:World}:∀ (cs:List CT) {E:Env} {L:AL} (x:HT cs) {n:Nat} {ms:Nat->Nm},AS c G w E L->(∀ j,j<cnts cs->look L (n+j)=some .L5)→
  PS c G w cs x ms->(CF cs x ms).Nodup->(∀ b∈CF cs x ms,JH E L b)→
  AS c G w (E.put n (cnts cs) ms) (AK L (ET cs x n))/\(∀ k,(n<=k/\k<n+cnts cs->Al (AK L (ET cs x n)) k)/\(¬(n<=k/\k<n+cnts cs)->look (AK L (ET cs x n)) k=look L k))∧
   L7 (E.put n (cnts cs) ms) (AK L (ET cs x n)) (outSVs cs x n)
 | [],E,L,x,n,ms,h,_,_,_,_=>by
  have e1:E.put n 0 ms=E:=L9 (fun k=>by simp only[Env.put];rw[AD (by omega)]) rfl (fun k=>by simp only[Env.put];rw[AD (by omega)])
  refine⟨by simp only[cnts,e1];exact h,fun k=>⟨fun hk=>by simp [cnts] at hk;omega,fun _=>rfl⟩,trivial⟩
 |d::r,E,L,x,n,ms,h,hl,hp,JE,XU=>by
  have X0:=RF.1 JE
  obtain⟨h1,h2,h3,h4⟩:=h.AM1 d (HT.hd d r x) (n:=n) (ms:=ms) (fun j hj=>hl j (by simp [cnts];omega)) hp.1 X0.1 (fun b hb=>XU b (FG.2 (.inl hb)))
  obtain⟨k1,k2,k3⟩:=AS.nE r (HT.tl d r x) (n:=n+d.cnt) (ms:=fun k=>ms (d.cnt+k)) h1
   (by
    intro j hj
    rw[(h2 _).2 (by omega),O1]
    exact hl _ (by simp [cnts];omega)) hp.2 X0.2.1
   (by
    intro b hb k f hf RH
    by_cases hk:n<=k/\k<n+d.cnt
    ·exact X0.2.2 b (h4 k f b hk hf RH) b hb rfl
    ·rw[(h2 k).2 hk] at hf
     rw[AX.qC (by omega)] at RH
     exact XU b (FG.2 (.inr hb)) k f hf RH)
  have e1:(E.put n d.cnt ms).put (n+d.cnt) (cnts r) (fun k=>ms (d.cnt+k))=E.put n (cnts (d::r)) ms:=by
   show _=E.put n (d.cnt+cnts r) ms
   refine L9 (fun k=> ?_) rfl (fun k=> ?_)
   all_goals simp only[Env.put]
   all_goals by_cases hk:n+d.cnt<=k/\k<n+d.cnt+cnts r
   ·rw[AA hk,AA (by omega)]
    congr 1;omega
   ·rw[AD hk]
    by_cases PW:n<=k/\k<n+d.cnt
    ·rw[AA PW,AA (by omega)]
    ·rw[AD PW,AD (by omega)]
   ·rw[AA hk,AA (by omega)]
    congr 3;omega
   ·rw[AD hk]
    by_cases PW:n<=k/\k<n+d.cnt
    ·rw[AA PW,AA (by omega)]
    ·rw[AD PW,AD (by omega)]
  have e2:AK L (ET (d::r) x n)=AK (AK L (PX d (HT.hd d r x) n)) (ET r (HT.tl d r x) (n+d.cnt)):=by
   simp only[ET,BQ]
  rw[e1] at k1 k3
  rw[e2]
  have PB:∀ k,Al (AK L (PX d (HT.hd d r x) n)) k->Al (AK (AK L (PX d (HT.hd d r x) n)) (ET r (HT.tl d r x) (n+d.cnt))) k:=by
   intro k hk
   by_cases PW:n+d.cnt<=k/\k<n+d.cnt+cnts r
   ·exact (k2 k).1 PW
   ·obtain⟨e,wG,he2⟩:=hk
    exact⟨e,by rw[(k2 k).2 PW];exact wG,he2⟩
  refine⟨k1,fun k=>⟨fun hk=> ?_,fun hk=> ?_⟩, ?_,k3⟩
  ·simp only[cnts] at hk
   by_cases PW:n+d.cnt<=k/\k<n+d.cnt+cnts r
   ·exact (k2 k).1 PW
   ·exact PB k ((h2 k).1 (by omega))
  ·simp only[cnts] at hk
   rw[(k2 k).2 (by omega),(h2 k).2 (by omega)]
  ·refine (Y_ PB (fun k hk=> ?_) _ h3).1
   rw[<-e1]
   refine Env.WT _ _ _ _ ?_
   rcases IA k (n+d.cnt) with DO|hge
   ·exact .inl DO
   ·right
    rcases IA k (n+d.cnt+cnts r) with AJ6|ARA
    ·exfalso
     have:look (AK L (PX d (HT.hd d r x) n)) k=some .L5:=by
      rw[(h2 k).2 (by omega)]
      have:=hl (k-n) (by simp [cnts];omega)
      have e:n+(k-n)=k:=by omega
      rw[e] at this;exact this
     exact E3 this hk
    ·exact ARA
structure MQ (T:Type) where
 x:T
 nes:List NE
 fz:C7
 on:List Nat
 ln:List Nat
def PY (md:PM) (AR:Nat->Option AX) (c:CT) (v:SV):Option (MQ c.t.T):=
 match c.ptr with
 |true=>match v with
  | .loc i off=>if off=0 then (match AR i with
   |some (.box cs)=>match c.own with
    |true=>match GC .own AR c.t cs with
     |some (x,[],nes,u)=>some ⟨x,.whole i::nes,[],i::u.map (·.1),[]⟩
     |_=>none
    |false=>match GC md AR c.t cs with
     |some (x,[],nes,u)=>some ⟨x,.whole i::nes,u,[i],nes.filterMap NE.name⟩
     |_=>none
   |_=>none) else none
  |_=>none
 |false=>match (match c.agg,v with
   |true,.agg cs=>some cs
   |true,_=>none
   |false,v=>some [v]) with
  |none=>none
  |some cs=>match c.own with
   |true=>match GC .own AR c.t cs with
    |some (x,[],nes,u)=>some ⟨x,nes,[],u.map (·.1),[]⟩
    |_=>none
   |false=>match GC md AR c.t cs with
    |some (x,[],nes,u)=>some ⟨x,nes,u,[],nes.filterMap NE.name⟩
    |_=>none
def KF (md:PM) (AR:Nat->Option AX):(cs:List CT)->List SV->Option (MQ (HT cs))
 | [],[]=>some ⟨(),[],[],[],[]⟩
 |c::r,v::vs=>match PY md AR c v with
  |none=>none
  |some a=>match KF md AR r vs with
   |none=>none
   |some b=>some ⟨HT.mk c r a.x b.x,a.nes++b.nes,a.fz++b.fz,a.on++b.on,a.ln++b.ln⟩
 |_,_=>none
def okA {T:Type} (a:MQ T):Bool:=decide a.on.Nodup && a.on.all fun i=> !a.ln.contains i
def MQ.DG {T:Type} (a:MQ T):C7:=a.fz++a.on.map fun i=>(i,.dead)
end Go.V3
namespace Go.V3
open Go
variable {TB:Tb}
theorem LL {md:PM} {AR:Nat->Option AX} {c:CT} {v:SV} {a:MQ c.t.T} (h:PY md AR c v=some a):
  ∃ (cs:List SV) (u:C7) (nes:List NE) (x:c.t.T),GC (if c.own=true then .own else md) AR c.t cs=some (x,[],nes,u)/\a.x=x∧
   ((c.ptr=true/\∃ i,v= .loc i 0/\AR i=some (.box cs)/\a.nes= .whole i::nes/\a.on=i::(if c.own=true then u.map (·.1) else []))∨
    (c.ptr=false/\((c.agg=true/\v= .agg cs)\/(c.agg=false/\cs=[v]))/\a.nes=nes/\a.on=(if c.own=true then u.map (·.1) else [])))∧
   a.fz=(if c.own=true then [] else u)/\a.ln=(if c.own=true then [] else nes.filterMap NE.name):=by
 unfold PY at h
 split at h
 ·rename_i hp
  split at h
  ·rename_i i off
   split at h
   ·rename_i ho
    subst ho
    split at h
    ·rename_i cs hl
     split at h
     ·rename_i C1
      split at h
      ·rename_i x nes u hk
       simp only[BA] at h;subst h
       exact⟨cs,u,nes,x,by simp [C1,hk],rfl,.inl ⟨hp,i,rfl,hl,rfl,by simp [C1]⟩,by simp [C1],by simp [C1]⟩
      ·cases h
     ·rename_i C1
      split at h
      ·rename_i x nes u hk
       simp only[BA] at h;subst h
       exact⟨cs,u,nes,x,by simp [C1,hk],rfl,.inl ⟨hp,i,rfl,hl,rfl,by simp [C1]⟩,by simp [C1],by simp [C1]⟩
      ·cases h
    ·cases h
   ·cases h
  ·cases h
 ·rename_i hp
  split at h
  ·cases h
  ·rename_i cs hcs
   have hag:(c.agg=true/\v= .agg cs)\/(c.agg=false/\cs=[v]):=by
    split at hcs
    ·rename_i ha;simp only[BA] at hcs;exact .inl ⟨ha,by rw[hcs]⟩
    ·cases hcs
    ·rename_i ha;simp only[BA] at hcs;exact .inr ⟨ha,hcs.symm⟩
   split at h
   ·rename_i C1
    split at h
    ·rename_i x nes u hk
     simp only[BA] at h;subst h
     exact⟨cs,u,nes,x,by simp [C1,hk],rfl,.inr ⟨hp,hag,rfl,by simp [C1]⟩,by simp [C1],by simp [C1]⟩
    ·cases h
   ·rename_i C1
    split at h
    ·rename_i x nes u hk
     simp only[BA] at h;subst h
     exact⟨cs,u,nes,x,by simp [C1,hk],rfl,.inr ⟨hp,hag,rfl,by simp [C1]⟩,by simp [C1],by simp [C1]⟩
    ·cases h
theorem RI {md:PM} {AR:Nat->Option AX} {c:CT} {r:List CT} {vs:List SV} {a:MQ (HT (c::r))} (h:KF md AR (c::r) vs=some a):
  ∃ v vs' a1 a2,vs=v::vs' /\PY md AR c v=some a1/\KF md AR r vs' =some a2/\a=⟨HT.mk c r a1.x a2.x,a1.nes++a2.nes,a1.fz++a2.fz,a1.on++a2.on,a1.ln++a2.ln⟩:=by
 cases vs with
 |nil=>simp [KF] at h
 |cons v vs' =>
  simp only[KF] at h
  split at h
  ·cases h
  ·split at h
   ·cases h
   ·simp only[BA] at h
    exact⟨v,vs',_,_,rfl,by assumption,by assumption,h.symm⟩
theorem SH {md:PM} {AR:Nat->Option AX} {c:CT} {v:SV} {a:MQ c.t.T} (h:PY md AR c v=some a):a.nes.length=c.cnt:=by
 obtain⟨cs,u,nes,x,h1,rfl,h2,_⟩:=LL h
 obtain⟨_,_,_,hn,_⟩:=KE ⟨fun _=>⟨0,0,true,0,0,none⟩,fun _=>undef⟩ _ _ _ _ _ _ h1
 unfold CT.cnt CT.pn
 rcases h2 with ⟨hp,i,_,_,e,_⟩|⟨hp,_,e,_⟩
 ·rw[e,hp];simp [hn];omega
 ·rw[e,hp];simp [hn]
theorem AFV {md:PM} {AR:Nat->Option AX} {c:CT} {v:SV} {a:MQ c.t.T} (h:PY md AR c v=some a) (E Em:Env) (n:Nat) (hm:∀ k,k<c.cnt->Em.nm (n+k)=EM E a.nes k):
  v.den E=(UB c a.x n).den Em:=by
 obtain⟨cs,u,nes,x,h1,rfl,h2,_⟩:=LL h
 obtain⟨c1,e1,l1,hn,hd⟩:=KE E _ _ _ _ _ _ h1
 rw[HH] at e1;subst e1
 unfold CT.cnt CT.pn at hm
 unfold UB
 rcases h2 with ⟨hp,i,rfl,_,e,_⟩|⟨hp,hag,e,_⟩
 ·rw[hp] at hm ⊢
  rw[e] at hm
  have h0:=hm 0 (by simp;omega)
  simp only[NP,EM,QP,NE.nm] at h0
  simp only[SV.den,h0]
 ·rw[hp] at hm ⊢
  rw[e] at hm
  have hen:enc c.t a.x (EM E nes)=AN Em (IY c.t a.x n):=by
   rw[WS]
   exact IB _ _ fun k hk=>(hm k (by simpa using hk)).symm
  rcases hag with ⟨ha,rfl⟩|⟨ha,rfl⟩
  ·rw[ha];simp only[SV.den];rw[hd,hen]
  ·rw[ha]
   simp only
   rw[hen] at hd
   cases hu:IY c.t a.x n with
   |nil=>rw[hu] at hd;simp [AN] at hd
   |cons y r=>rw[hu] at hd;simp only[AN,mS] at hd;exact hd.1
theorem X1 {md:PM} {AR:Nat->Option AX} (E:Env):∀ (cs:List CT) (vs:List SV) (a:MQ (HT cs)),KF md AR cs vs=some a->a.nes.length=cnts cs∧
  ∀ (Em:Env) (n:Nat),(∀ k,k<cnts cs->Em.nm (n+k)=EM E a.nes k)->AN E vs=AN Em (outSVs cs a.x n):=by
 intro cs
 induction cs with
 |nil=>
  intro vs a h
  cases vs with
  |nil=>simp only[KF,BA] at h;subst h;exact⟨rfl,fun _ _ _=>rfl⟩
  |cons v r=>simp [KF] at h
 |cons c r ih=>
  intro vs a h
  obtain⟨v,vs',a1,a2,rfl,h1,h2,rfl⟩:=RI h
  obtain⟨l2,d2⟩:=ih _ _ h2
  have l1:=SH h1
  obtain⟨k1,k2⟩:=MP E a1.nes a2.nes
  refine⟨by simp [cnts,l1,l2],fun Em n hm=> ?_⟩
  simp only[AN,outSVs,HT.rZ,HT.r_]
  rw[AFV h1 E Em n (fun k hk=>by rw[hm k (by simp [cnts];omega)];exact k1 k (by omega))]
  rw[d2 Em (n+c.cnt) (fun k hk=>by rw[O1,hm _ (by simp [cnts];omega)];rw[<-l1];exact k2 k)]
structure nF (md:PM) (AR:Nat->Option AX) (E:Env) (c:EC TB) (G:Nat->Prop) (w:World) (on:List Nat) (fz:C7) (ln:List Nat):Prop where
 shr:∀ i t ys,AR i=some (.shr t ys)->tL (Rp G w t) t.sz G w (E.nm i) ys
 iG:∀ i t ys e,AR i=some e->bE e t ys->(md= .cY/\i∈ln)\/(i,.shr t ys)∈fz->tL (Rp G w t) t.sz G w (E.nm i) ys
 row:∀ i t ys,AR i=some (.row t ys)->i∈on->Own (Rp G w t) t.sz c G w (E.nm i) ys
 deep:∀ i t ys,AR i=some (.deep t ys none)->i∈on->k_ c G w (E.nx i) (.deep t ys none)
 tree:∀ i t1 t2 ys,AR i=some (.tree t1 t2 ys)->i∈on->FP c G w (E.nm i) t1 t2 ys
 box:∀ i cs,AR i=some (.box cs)->i∈on->(E.nm i).nil=false/\(E.nm i).off=(E.nm i).pp.pre.length/\¬G (E.nm i).CE/\¬c.Old (E.nm i).CE/\(∃ ty,w.heap[(E.nm i).CE]? =some (.cells ((E.nm i).arr (AN E cs)) ty (0,0)))
theorem nF.sub {md:PM} {AR:Nat->Option AX} {E:Env} {c:EC TB} {G:Nat->Prop} {w:World} {on on' :List Nat} {fz fz' :C7} {ln ln' :List Nat} (h:nF md AR E c G w on fz ln)
  (h1:∀ i∈on',i∈on) (h2:∀ q∈fz',q∈fz) (h3:∀ i∈ln',i∈ln):nF md AR E c G w on' fz' ln' :=
 ⟨h.shr,fun i t ys e hl ho hx=>h.iG i t ys e hl ho (hx.imp (fun ⟨a,b⟩=>⟨a,h3 _ b⟩) (h2 _)),fun i t ys hl hx=>h.row i t ys hl (h1 _ hx),fun i t ys hl hx=>h.deep i t ys hl (h1 _ hx),fun i t1 t2 ys hl hx=>h.tree i t1 t2 ys hl (h1 _ hx),fun i cs hl hx=>h.box i cs hl (h1 _ hx)⟩
def X2 (AR:Nat->Option AX) (E:Env) (i:Nat):List Nat:=match AR i with
 |some e=>e.AOE E i
 |none=>[]
theorem ZC (a b:List AX) (ms:Nat->Nm):HK (a++b) ms=HK a ms++HK b (fun k=>ms (a.length+k)):=by
 induction a generalizing ms with
 |nil=>simp [HK]
 |cons e r ih=>
  simp only[rU,HK,ih,J_,O0]
  congr 3
  funext k
  congr 1;omega
theorem SI (es:List AX) {f g:Nat->Nm} (h:∀ k,k<es.length->f k=g k):HK es f=HK es g:=by
 induction es generalizing f g with
 |nil=>rfl
 |cons e r ih=>
  simp only[HK]
  rw[h 0 (by simp),ih (fun k hk=>h (k+1) (by simp;omega))]
theorem gP (t:Ty) (x:t.T) (ms:Nat->Nm):HK (B_ false t x) ms=[]:=by
 induction t generalizing ms with
 |pair a b V7 V8=>simp [B_,ZC,V7,V8]
 |slice a=>simp [B_,HK,AX.XY,AX.own]
 |_=>rfl
theorem AJ7 {AR:Nat->Option AX} {E:Env}:∀ (t:Ty) (cs:List SV) (x:t.T) (r:List SV) (nes:List NE) (u:C7),GC .own AR t cs=some (x,r,nes,u)→
  HK (B_ true t x) (EM E nes)=(u.map (·.1)).flatMap (X2 AR E):=by
 intro t
 induction t with
 |pair a b V7 V8=>
  intro cs x r nes u h
  simp only[GC] at h
  repeat' split at h
  all_goals first|(cases h;done)|skip
  rename_i _ x1 r1 n1 u1 h1 _ x2 r2 n2 u2 h2
  simp only[BA,DH] at h
  obtain⟨rfl,rfl,rfl,rfl⟩:=h
  obtain⟨_,_,_,m1,_⟩:=KE E _ _ _ _ _ _ h1
  obtain⟨_,_,_,m2,_⟩:=KE E _ _ _ _ _ _ h2
  obtain⟨k1,k2⟩:=MP E n1 n2
  simp only[B_,ZC,bA,List.flatMap_append]
  rw[<-V7 _ _ _ _ _ h1,←V8 _ _ _ _ _ h2]
  congr 1
  ·exact SI _ fun k hk=>k1 k (by rw[BI] at hk;omega)
  ·rw[BI,←m1];exact SI _ fun k hk=>k2 k
 |slice a ih=>
  intro cs x r nes u h
  simp only[GC] at h
  repeat' split at h
  all_goals first|(cases h;done)|skip
  rename_i v r' _ xs ne u' hs
  simp only[BA,DH] at h
  obtain⟨rfl,rfl,rfl,rfl⟩:=h
  rcases qB hs with ⟨rfl,rfl,rfl,hk⟩|⟨i,hx,hl,rfl⟩
  ·cases a with
   |pair a b=>cases a <;> cases b <;> rfl
   |_=>first|rfl|cases hk
  ·simp only[B_,HK,EM,QP,HH,MN,vX,AFA,List.flatMap_nil]
   have:X2 AR E i=(KD a xs).AOE E i:=by simp [X2,hl]
   rw[this]
   rcases hx with ⟨rfl,QO⟩|⟨rfl,b,rfl⟩|⟨rfl,b1,b2,rfl⟩
   ·rw[MO QO];rfl
   ·rfl
   ·rfl
 |_=>
  intro cs x r nes u h
  simp only[GC] at h
  repeat' split at h
  all_goals first|(cases h;done)|skip
  all_goals (simp only[BA,DH] at h;obtain⟨_,rfl,rfl,rfl⟩:=h;rfl)
theorem ACR {md:PM} {AR:Nat->Option AX} {E:Env} {c:CT} {v:SV} {a:MQ c.t.T} (h:PY md AR c v=some a):NY c a.x (EM E a.nes)=a.on.flatMap (X2 AR E):=by
 obtain⟨cs,u,nes,x,h1,rfl,h2,_⟩:=LL h
 have OU:HK (B_ c.own c.t a.x) (EM E nes)=(if c.own=true then u.map (·.1) else []).flatMap (X2 AR E):=by
  cases ho:c.own with
  |true=>rw[ho] at h1;simp only[HJ] at h1 ⊢;exact AJ7 _ _ _ _ _ _ h1
  |false=>rw[gP];rfl
 unfold NY CT.pn
 rcases h2 with ⟨hp,i,rfl,hl,e1,e2⟩|⟨hp,hag,e1,e2⟩
 ·rw[hp,e1,e2]
  have hb:X2 AR E i=[(E.nm i).CE]:=by simp [X2,hl,AX.AOE,AX.own]
  rw[AFA,hb]
  congr 1
  rw[<-OU]
  apply SI
  intro k _
  simp only[EM]
  rw[AFJ,zC]
 ·rw[hp,e1,e2,←OU]
  simp
theorem AJ8 {md:PM} {AR:Nat->Option AX} {E:Env}:∀ (cs:List CT) (vs:List SV) (a:MQ (HT cs)),KF md AR cs vs=some a->CF cs a.x (EM E a.nes)=a.on.flatMap (X2 AR E):=by
 intro cs
 induction cs with
 |nil=>
  intro vs a h
  cases vs with
  |nil=>simp only[KF,BA] at h;subst h;rfl
  |cons v r=>simp [KF] at h
 |cons c r ih=>
  intro vs a h
  obtain⟨v,vs',a1,a2,rfl,h1,h2,rfl⟩:=RI h
  have l1:=SH h1
  obtain⟨k1,k2⟩:=MP E a1.nes a2.nes
  simp only[CF,HT.rZ,HT.r_,List.flatMap_append]
  rw[<-ACR h1,←ih _ _ h2]
  have A2L:∀ (d:CT) (x:d.t.T) (f g:Nat->Nm),(∀ k,k<d.cnt->f k=g k)->NY d x f=NY d x g:=by
   intro d x f g hfg
   unfold NY
   unfold CT.cnt at hfg
   congr 1
   ·cases hp:d.ptr with
    |true=>simp only;rw[hfg 0 (by simp [CT.pn,hp];omega)]
    |false=>rfl
   ·exact SI _ fun k hk=>hfg _ (by rw[BI] at hk;omega)
  have A2M:∀ (ds:List CT) (x:HT ds) (f g:Nat->Nm),(∀ k,k<cnts ds->f k=g k)->CF ds x f=CF ds x g:=by
   intro ds
   induction ds with
   |nil=>intros;rfl
   |cons d s ihs=>
    intro x f g hfg
    simp only[CF]
    rw[A2L d _ f g (fun k hk=>hfg k (by simp [cnts];omega)),ihs _ _ (fun k=>g (d.cnt+k)) (fun k hk=>hfg _ (by simp [cnts];omega))]
  obtain⟨l2,_⟩:=X1 E _ _ _ h2
  congr 1
  ·exact A2L _ _ _ _ fun k hk=>k1 k (by omega)
  ·rw[<-l1];exact A2M _ _ _ _ fun k hk=>k2 k
theorem HE.congr {c:EC TB} {G:Nat->Prop} {w:World} {d:CT} {x:d.t.T} {f g:Nat->Nm} (h:HE c G w d x f) (hfg:∀ k,k<d.cnt->f k=g k):HE c G w d x g:=by
 obtain⟨h1,h2⟩:=h
 unfold CT.cnt at hfg
 refine⟨fun j e he=> ?_,fun hp=> ?_⟩
 ·have hj:j<d.t.HW:=by
   rcases IA j (B_ d.own d.t x).length with h|h
   ·rwa [BI] at h
   ·rw[UX h] at he;cases he
  rw[<-hfg _ (by omega)]
  exact h1 j e he
 ·have h0:=hfg 0 (by simp [CT.pn,hp];omega)
  rw[<-h0]
  obtain⟨a,b,c,d',ty,e⟩:=h2 hp
  refine⟨a,b,c,d',ty, ?_⟩
  rw[e]
  congr 3
  exact IB _ _ fun k hk=>hfg _ (by omega)
theorem PS.congr {c:EC TB} {G:Nat->Prop} {w:World}:∀ (cs:List CT) {x:HT cs} {f g:Nat->Nm},PS c G w cs x f->(∀ k,k<cnts cs->f k=g k)->PS c G w cs x g
 | [],_,_,_,_,_=>trivial
 |d::r,x,f,g,h,hfg=>⟨h.1.congr fun k hk=>hfg k (by simp [cnts];omega),PS.congr r h.2 fun k hk=>hfg _ (by simp [cnts];omega)⟩
theorem AJ9 {md:PM} (wD:md≠ .own) {AR:Nat->Option AX} {c:CT} {v:SV} {a:MQ c.t.T} (h:PY md AR c v=some a) {E:Env} {L:AL} (hw:v.wf E L) (hwb:∀ i cs,AR i=some (.box cs)->L7 E L cs)
  {cf:EC TB} {G:Nat->Prop} {w:World} (hk:nF md AR E cf G w a.on a.fz a.ln):HE cf G w c a.x (EM E a.nes):=by
 obtain⟨cs,u,nes,x,h1,rfl,h2,h3,h4⟩:=LL h
 have hwc:L7 E L cs:=by
  rcases h2 with ⟨_,i,_,hl,_⟩|⟨_,hag,_⟩
  ·exact hwb i cs hl
  ·rcases hag with ⟨_,rfl⟩|⟨_,rfl⟩
   ·exact hw
   ·exact⟨hw,trivial⟩
 obtain⟨c1,e1,_,hn,hd⟩:=KE E _ _ _ _ _ _ h1
 rw[HH] at e1;subst e1
 obtain⟨g1,g2⟩:=XX _ _ _ _ _ _ h1
 have hon:∀ q∈u,c.own=true->q.1∈a.on:=by
  intro q hq ho
  rcases h2 with ⟨_,i,_,_,_,e⟩|⟨_,_,_,e⟩
  ·rw[e,AA ho];exact UY _ (DD.2 ⟨q,hq,rfl⟩)
  ·rw[e,AA ho];exact DD.2 ⟨q,hq,rfl⟩
 have AYK:∀ j e,(B_ c.own c.t a.x)[j]? =some e->k_ cf G w (EM E nes j) e:=by
  intro j e he
  rcases g1 j c.own e he with rfl|⟨t,s,xs,ne,uk,hs,CU,hsc,KP,rfl⟩
  ·trivial
  have hnf:EM E nes j=ne.nm E:=by simp [EM,CU]
  rw[hnf]
  cases ho:c.own with
  |true=>
   rw[ho] at hs
   simp only[HJ] at hs
   rcases qB hs with ⟨rfl,rfl,rfl,hkv⟩|⟨i,hx,hl,rfl⟩
   ·exact k_.nil cf G w t hkv
   ·rcases hx with ⟨rfl,QO⟩|⟨rfl,QO⟩|⟨rfl,QO⟩
    ·simp only
     rw[MO QO] at hl ⊢
     exact hk.row i t xs hl (hon (i,.dead) (KP _ (by simp)) ho)
    ·obtain⟨b,rfl⟩:=QO
     exact hk.deep i b xs hl (hon (i,.dead) (KP _ (by simp)) ho)
    ·obtain⟨b1,b2,rfl⟩:=QO
     exact hk.tree i b1 b2 xs hl (hon (i,.dead) (KP _ (by simp)) ho)
  |false=>
   rw[ho] at hs
   simp only[VF,KA] at hs h3 h4
   rw[ho] at h3 h4
   simp only[VF,KA] at h3 h4
   refine qA hs wD (B0.1 hwc s hsc) hk.shr ?_
   intro i t' ys e' hnn hl hoe hx
   refine hk.iG i t' ys e' hl hoe ?_
   rcases hx with hx|hx
   ·left
    refine⟨hx, ?_⟩
    rw[h4]
    exact AAD.2 ⟨ne,aZ CU,hnn⟩
   ·right
    rw[h3]
    exact KP _ hx
 unfold HE CT.pn
 rcases h2 with ⟨hp,i,rfl,hl,e1,e2⟩|⟨hp,hag,e1,e2⟩
 ·rw[hp,e1]
  have h0:EM E (.whole i::nes) 0=E.nm i:=rfl
  have hs:∀ j,EM E (.whole i::nes) (1+j)=EM E nes j:=fun j=>by simp only[EM];rw[AFJ,zC]
  refine⟨fun j e he=> ?_,fun _=> ?_⟩
  ·simp only[hs];exact AYK j e he
  ·obtain⟨b1,b2,b3,b4,ty,b5⟩:=hk.box i _ hl (by rw[e2];simp)
   rw[h0]
   refine⟨b1,b2,b3,b4,ty, ?_⟩
   rw[b5,hd]
   congr 3
   exact IB _ _ fun j _=>(hs j).symm
 ·rw[hp,e1]
  refine⟨fun j e he=> ?_,fun hx=>by cases hx⟩
  simp only[KK];exact AYK j e he
theorem ARB {md:PM} (wD:md≠ .own) {AR:Nat->Option AX} {E:Env} {L:AL} (hwb:∀ i cs,AR i=some (.box cs)->L7 E L cs) {cf:EC TB} {G:Nat->Prop} {w:World}:
  ∀ (cs:List CT) (vs:List SV) (a:MQ (HT cs)),KF md AR cs vs=some a->L7 E L vs->nF md AR E cf G w a.on a.fz a.ln->PS cf G w cs a.x (EM E a.nes):=by
 intro cs
 induction cs with
 |nil=>intros;trivial
 |cons c r ih=>
  intro vs a h hw hk
  obtain⟨v,vs',a1,a2,rfl,h1,h2,rfl⟩:=RI h
  have l1:=SH h1
  obtain⟨l2,_⟩:=X1 E _ _ _ h2
  obtain⟨k1,k2⟩:=MP E a1.nes a2.nes
  refine⟨?_, ?_⟩
  ·simp only[HT.rZ]
   refine (AJ9 wD h1 hw.1 hwb (hk.sub (by simp;intros;simp [*]) (by simp;intros;simp [*]) (by simp;intros;simp [*]))).congr fun k hk=>(k1 k (by omega)).symm
  ·simp only[HT.r_]
   refine (ih _ _ h2 hw.2 (hk.sub (by simp;intros;simp [*]) (by simp;intros;simp [*]) (by simp;intros;simp [*]))).congr _ fun k hk=> ?_
   rw[<-l1];exact (k2 k).symm
end Go.V3
namespace Go.V3
open Go
variable {TB:Tb}
theorem zI {md:PM} (wD:md≠ .own) {AR:Nat->Option AX} {c:CT} {v:SV} {a:MQ c.t.T} (h:PY md AR c v=some a):
  (∀ q∈a.fz,∃ t ys e,AR q.1=some e/\bE e t ys/\q.2= .shr t ys/\q.1∈a.ln)/\(∀ i∈a.on,∃ e,AR i=some e/\e.IF=false):=by
 obtain⟨cs,u,nes,x,h1,rfl,h2,h3,h4⟩:=LL h
 obtain⟨_,g2⟩:=XX _ _ _ _ _ _ h1
 refine⟨fun q hq=> ?_,fun i hi=> ?_⟩
 ·rw[h3] at hq
  cases ho:c.own with
  |true=>rw[ho] at hq;cases hq
  |false=>
   rw[ho] at hq h4 g2
   simp only[VF,KA] at hq h4 g2
   obtain⟨k,t,s,xs,ne,uk,hs,CU,hqk⟩:=g2 q hq
   rcases p_ hs with rfl|⟨i,t',ys,e',hl,hoe,_,hn,rfl⟩|hx
   ·cases hqk
   ·rw[HA] at hqk;subst hqk
    refine⟨t',ys,e',hl,hoe,rfl, ?_⟩
    rw[h4]
    exact AAD.2 ⟨ne,aZ CU,hn⟩
   ·exact absurd hx wD
 ·have hu:∀ q∈u,c.own=true->∃ e,AR q.1=some e/\e.IF=false:=by
   intro q hq ho
   rw[ho] at g2
   simp only[HJ] at g2
   obtain⟨k,t,s,xs,ne,uk,hs,CU,hqk⟩:=g2 q hq
   rcases qB hs with ⟨_,_,rfl,_⟩|⟨i,_,hl,rfl⟩
   ·cases hqk
   ·rw[HA] at hqk;subst hqk;exact⟨_,hl,k9 _ _⟩
  have OU:∀ i∈(if c.own=true then u.map (·.1) else []),∃ e,AR i=some e/\e.IF=false:=by
   intro i hi
   split at hi
   ·rename_i ho
    obtain⟨q,hq,rfl⟩:=DD.1 hi
    exact hu q hq ho
   ·cases hi
  rcases h2 with ⟨_,i',rfl,hl,_,e2⟩|⟨_,_,_,e2⟩
  ·rw[e2] at hi
   rcases GA.1 hi with rfl|hi
   ·exact⟨_,hl,rfl⟩
   ·exact OU i hi
  ·rw[e2] at hi
   exact OU i hi
theorem c_ {md:PM} (wD:md≠ .own) {AR:Nat->Option AX}:∀ (cs:List CT) (vs:List SV) (a:MQ (HT cs)),KF md AR cs vs=some a→
  (∀ q∈a.fz,∃ t ys e,AR q.1=some e/\bE e t ys/\q.2= .shr t ys/\q.1∈a.ln)/\(∀ i∈a.on,∃ e,AR i=some e/\e.IF=false):=by
 intro cs
 induction cs with
 |nil=>
  intro vs a h
  cases vs with
  |nil=>simp only[KF,BA] at h;subst h;exact⟨fun q hq=>(by simp at hq),fun i hi=>(by simp at hi)⟩
  |cons v r=>simp [KF] at h
 |cons c r ih=>
  intro vs a h
  obtain⟨v,vs',a1,a2,rfl,h1,h2,rfl⟩:=RI h
  obtain⟨p1,p2⟩:=zI wD h1
  obtain⟨q1,q2⟩:=ih _ _ h2
  refine⟨fun q hq=> ?_,fun i hi=> ?_⟩
  ·rcases FG.1 hq with hq|hq
   ·obtain⟨t,ys,e,a,a',b,c⟩:=p1 q hq;exact⟨t,ys,e,a,a',b,FG.2 (.inl c)⟩
   ·obtain⟨t,ys,e,a,a',b,c⟩:=q1 q hq;exact⟨t,ys,e,a,a',b,FG.2 (.inr c)⟩
  ·rcases FG.1 hi with hi|hi
   ·exact p2 i hi
   ·exact q2 i hi
theorem AS.AYL {c:EC TB} {G:Nat->Prop} {w:World} {E:Env}:∀ (on:List Nat) {L:AL},AS c G w E L->(∀ i∈on,i<L.length)→
  AS c G w E (AK L (on.map fun i=>(i,.dead)))/\(∀ n,Al L n->Al (AK L (on.map fun i=>(i,.dead))) n)∧
   ∀ n,look (AK L (on.map fun i=>(i,.dead))) n=if n∈on then some .dead else look L n
 | [],L,h,_=>⟨h,fun _ h=>h,fun n=>by simp [AK]⟩
 |i::r,L,h,hl=>by
  obtain⟨h1,h2,h3⟩:=AS.AYL r (h.kill (hl i (by simp))) (fun k hk=>by rw[GN];exact hl k (by simp [hk]))
  refine⟨h1,fun n hn=>h2 n (BZ rfl n hn),fun n=> ?_⟩
  show look (AK (DK L (i,.dead)) (r.map fun i=>(i,.dead))) n=_
  rw[h3,BC (hl i (by simp))]
  by_cases hn:n=i
  ·subst hn;simp
  ·by_cases hr:n∈r <;> simp [hn,hr]
theorem AS.take {c:EC TB} {G:Nat->Prop} {w:World} {E:Env} {L:AL} (h:AS c G w E L) {md:PM} (wD:md≠ .own) {AR:Nat->Option AX} (CD:∀ n e,AR n=some e->look L n=some e)
  {cs:List CT} {vs:List SV} {a:MQ (HT cs)} (hp:KF md AR cs vs=some a) (ho:okA a=true) (hw:L7 E L vs):
  ∃ G1 G2,AS c G1 w E (AK L a.DG)/\(∀ b,G b->G1 b)/\(∀ b,G1 b->G2 b)/\(md= .iG->G2=G1)∧
   (∀ b,G2 b->G1 b\/∃ n e,look (AK L a.DG) n=some e/\e.ow E n b)/\(∀ n,Al L n->Al (AK L a.DG) n)∧
   (∀ n,n∉a.on->n∉a.fz.map (·.1)->look (AK L a.DG) n=look L n)/\(∀ n∈a.on,look (AK L a.DG) n=some .dead)∧
   PS c G2 w cs a.x (EM E a.nes)/\(CF cs a.x (EM E a.nes)).Nodup/\∀ b∈CF cs a.x (EM E a.nes),JH E (AK L a.DG) b:=by
 obtain⟨n1,n2⟩:=c_ wD cs vs a hp
 simp only[okA,ID,JL,LP,TZ,ACC,aY] at ho
 obtain⟨JE,X3⟩:=ho
 obtain⟨G1,h1,hg1,ha1,hk1,hq1⟩:=h.ACP a.fz (fun q hq=>by
  obtain⟨t,ys,e0,hl,ho0,e,_⟩:=n1 q hq
  exact⟨t,ys,.inl ⟨e0,CD _ _ hl,ho0⟩,e⟩)
 have AFW:∀ i∈a.on,i∉a.fz.map (·.1):=by
  intro i hi hx
  obtain⟨q,hq,rfl⟩:=DD.1 hx
  obtain⟨_,_,_,_,_,_,hln⟩:=n1 q hq
  exact X3 _ hi hln
 have CP:∀ n,n∉a.fz.map (·.1)->look (AK L a.fz) n=look L n:=by
  intro n hn
  cases hl:look L n with
  |some e=>
   rcases hk1 n e hl with hx|⟨t,ys,_,_,hx⟩
   ·exact hx
   ·exact absurd (DD.2 ⟨_,hx,rfl⟩) hn
  |none=>
   have hge:L.length<=n:=by
    rcases IA n L.length with h' |h'
    ·unfold look at hl;rw[OT h'] at hl;cases hl
    ·exact h'
   unfold look
   rw[UX (by rw[O_];exact hge)]
 have A2N:∀ i∈a.on,i<(AK L a.fz).length:=by
  intro i hi
  rw[O_]
  obtain⟨e,hl,_⟩:=n2 i hi
  exact AQ (CD _ _ hl)
 obtain⟨h2,ha2,lB⟩:=h1.AYL a.on A2N
 have A5H:AK L a.DG=AK (AK L a.fz) (a.on.map fun i=>(i,.dead)):=by rw[MQ.DG,BQ]
 rw[<-A5H] at h2 ha2 lB
 have dA:∀ n,n∉a.on->n∉a.fz.map (·.1)->look (AK L a.DG) n=look L n:=by
  intro n hn hf
  rw[lB,AD hn,CP n hf]
 let G2:Nat->Prop:=fun b=>G1 b\/(md= .cY/\∃ n e,look (AK L a.DG) n=some e/\e.ow E n b)
 have AFX:∀ b,G1 b->G2 b:=fun b hb=> .inl hb
 have AFY:∀ i∈a.on,∀ e,look L i=some e->∀ b,e.ow E i b->¬G2 b/\JH E (AK L a.DG) b:=by
  intro i hi e he b hb
  have wG:look (AK L a.fz) i=some e:=by rw[CP i (AFW i hi)];exact he
  have XU:JH E (AK L a.DG) b:=by
   intro n f hf RH
   rw[lB] at hf
   by_cases hn:n∈a.on
   ·rw[AA hn] at hf;simp only[BA] at hf;subst hf;rcases RH with RH|⟨RH,_⟩|⟨RH,_⟩ <;> cases RH
   ·rw[AD hn] at hf
    refine h1.inj n i f e b (fun hx=>hn (hx ▸ hi)) hf wG RH hb
  refine⟨?_,XU⟩
  rintro (hx|⟨_,n,f,hx,hxb⟩)
  ·exact (h1.QU wG hb).1 hx
  ·exact XU n _ hx hxb
 have sB:=fun t x vs=>Rp.mono (w:=w) (w' :=w) (fun b (_:G1 b)=>rfl) AFX t x vs
 have ARC:nF md AR E c G2 w a.on a.fz a.ln:=by
  refine⟨?_, ?_, ?_, ?_, ?_, ?_⟩
  ·intro i t ys hl
   rcases hk1 i _ (CD _ _ hl) with hx|⟨_,_,hx,_⟩
   ·exact tL.mono (h1.MK i _ hx) (sB t) (fun _ _=>rfl) AFX
   ·cases hx
  ·rintro i t ys e0 hl hoe (⟨hx,hln⟩|hx)
   ·have A5I:i∉a.on:=fun hi=>X3 i hi hln
    rcases hk1 i _ (CD _ _ hl) with hx1|⟨t',ys',hx1,hx2,_⟩
    ·have hx3:look (AK L a.DG) i=some e0:=by rw[lB,AD A5I];exact hx1
     cases hoe with
     |row=>exact AVZ (h1.MK i _ hx1) (sB t) (fun hn=> .inr ⟨hx,i,_,hx3,.inl (by simp [AX.own,hn])⟩)
     |deep b=>exact (h1.dp i _ _ _ hx1).shr (sB b) (fun b hb=> .inr ⟨hx,i,_,hx3,AX.GF.2 hb⟩)
     |tree b1 b2=>exact (h1.MK i _ hx1).shr sB (fun b hb=> .inr ⟨hx,i,_,hx3,AX.gN.2 hb⟩)
    ·have:(AX.shr t' ys')= .shr t ys:=by cases hx1 <;> cases hoe <;> rfl
     rw[this] at hx2
     exact tL.mono (h1.MK i _ hx2) (sB t) (fun _ _=>rfl) AFX
   ·exact tL.mono (h1.MK i _ (hq1 _ hx)) (sB t) (fun _ _=>rfl) AFX
  ·intro i t ys hl hi
   have wG:look (AK L a.fz) i=some (.row t ys):=by rw[CP i (AFW i hi)];exact CD _ _ hl
   obtain⟨p1,p2,p3⟩:=h1.MK i _ wG
   refine⟨p1,p2,p3.imp id ?_⟩
   rintro⟨p4,p5,p6,p7,arr,ty,p8,p9,p10⟩
   exact⟨p4,(AFY i hi _ (CD _ _ hl) _ (.inl (by simp [AX.own,p4]))).1,p6,p7,arr,ty,p8,p9,p10.imp (sB t)⟩
  ·intro i t ys hl hi
   have wG:look (AK L a.fz) i=some (.deep t ys none):=by rw[CP i (AFW i hi)];exact CD _ _ hl
   refine⟨rfl, ?_⟩
   refine ((h1.dp i t ys none wG).mono (fun _ h=>h) (fun _ _=>rfl) (fun _ _=>rfl) AFX (fun b hb=>⟨rfl, ?_⟩)).env ⟨rfl,rfl,rfl,rfl,rfl⟩
   exact (AFY i hi _ (CD _ _ hl) _ (AX.GF.2 hb)).1
  ·intro i t1 t2 ys hl hi
   have wG:look (AK L a.fz) i=some (.tree t1 t2 ys):=by rw[CP i (AFW i hi)];exact CD _ _ hl
   have hx:aN c G2 w E L (E.nm i) (.tree t1 t2 ys):=(h1.MK i _ wG).mono (fun _ h=>by
     obtain⟨e,q1,q2⟩:=h
     rcases Classical.em (∃ e,look L _=some e/\e.IF=false) with hx|hx
     ·exact hx
     ·exact absurd (by
       cases hl' :look L _ with
       |none=>
        exfalso
        have hge:L.length<=_:=Nat.le_of_not_lt fun DO=>by
         unfold look at hl';rw[OT DO] at hl';cases hl'
        unfold look at q1
        rw[UX (by rw[O_];exact hge)] at q1
        cases q1
       |some e' =>
        rcases hk1 _ _ hl' with hz|⟨t,ys,hz,hz2,_⟩
        ·rw[hz] at q1;simp only[BA] at q1;subst q1;exact⟨_,rfl,q2⟩
        ·exact⟨_,rfl,hz.L5⟩) hx) (fun _ _=>rfl) (fun _ _=>rfl) AFX (fun b hb=>by cases hb) (fun _ b hb=>⟨rfl,(AFY i hi _ (CD _ _ hl) _ (AX.gN.2 hb)).1⟩)
   exact hx
  ·intro i cs hl hi
   have wG:look (AK L a.fz) i=some (.box cs):=by rw[CP i (AFW i hi)];exact CD _ _ hl
   obtain⟨p1,p2,p3,p4,p5,p6⟩:=h1.MK i _ wG
   exact⟨p1,p2,(AFY i hi _ (CD _ _ hl) _ (.inl rfl)).1,p4,p5⟩
 have hwb:∀ i cs,AR i=some (.box cs)->L7 E L cs:=fun i cs hl=>(h.MK i _ (CD _ _ hl)).2.2.2.2.2
 have ARD:=AJ8 (E:=E) cs vs a hp
 have AOF:∀ i∈a.on,∀ b∈X2 AR E i,∃ e,look L i=some e/\e.ow E i b:=by
  intro i _ b hb
  unfold X2 at hb
  split at hb
  ·rename_i e hl;exact⟨e,CD _ _ hl,AX.A2K.2 hb⟩
  ·cases hb
 have A2O:∀ i∈a.on,(X2 AR E i).Nodup:=by
  intro i _
  unfold X2
  split
  ·rename_i e hl
   cases e with
   |deep t x q=>exact (h.dp i t x q (CD _ _ hl)).nd
   |tree t1 t2 xs=>exact (h.MK i _ (CD _ _ hl)).nd
   |row t x=>show (((AX.row t x).own (E.nm i)).toList).Nodup;cases (AX.row t x).own (E.nm i) <;> simp
   |box t=>show (((AX.box t).own (E.nm i)).toList).Nodup;cases (AX.box t).own (E.nm i) <;> simp
   |_=>simp [AX.AOE,AX.own]
  ·exact iF
 refine⟨G1,G2,h2,hg1,AFX, ?_, ?_,fun n hn=>ha2 n (ha1 n hn),dA,fun n hn=>by rw[lB,AA hn],ARB wD hwb cs vs a hp hw ARC, ?_, ?_⟩
 ·intro hf
  funext b
  simp only[eq_iff_iff]
  refine⟨?_,AFX b⟩
  rintro (hx|⟨hx,_⟩)
  ·exact hx
  ·rw[hf] at hx;cases hx
 ·rintro b (hx|⟨_,hx⟩)
  ·exact .inl hx
  ·exact .inr hx
 ·rw[ARD]
  clear ARD ARC h2 ha2 lB dA AFY X3
  have:∀ (on:List Nat),on.Nodup->(∀ i∈on,i∈a.on)->(on.flatMap (X2 AR E)).Nodup:=by
   intro on
   induction on with
   |nil=>intros;simp
   |cons i r ih=>
    intro JE OU
    rw[WD] at JE
    have ih' :=ih JE.2 (fun k hk=>OU k (by simp [hk]))
    rw[AFA]
    refine RF.2 ⟨A2O i (OU i (by simp)),ih', ?_⟩
    rintro b hb b' hm rfl
    obtain⟨k,hk,hkb⟩:=AAF.1 hm
    obtain⟨e,he,heb⟩:=AOF i (OU i (by simp)) b hb
    obtain⟨f,hf,RH⟩:=AOF k (OU k (by simp [hk])) b hkb
    exact h.inj i k e f b (fun hx=>JE.1 (hx ▸ hk)) he hf heb RH
  exact this a.on JE (fun _ h=>h)
 ·intro b hb
  rw[ARD] at hb
  obtain⟨i,hi,hib⟩:=AAF.1 hb
  obtain⟨e,he,heb⟩:=AOF i hi b hib
  exact (AFY i hi e he b heb).2
end Go.V3
namespace Go.V3
open Go
variable {TB:Tb}
def CalleeRuns (P:Program) (f:FuncId):Prop:=∀ args w,(callFunc f args).run P w= .ok (.enter f args) w
def HT.left:(zas bs:List CT)->HT (zas++bs)->HT zas
 | [],_,_=>()
 | [_],bs,x=>HT.hd _ bs x
 |c::d::r,bs,x=>(x.1,HT.left (d::r) bs x.2)
def HT.right:(zas bs:List CT)->HT (zas++bs)->HT bs
 | [],_,x=>x
 |c::r,bs,x=>HT.right r bs (HT.tl c (r++bs) x)
inductive Sh where
 |one
 |clo (f:FuncId) (k:Nat)
 |pp (n:Nat)
def foldA:List Sh->List SV->List SV
 | [],vs=>vs
 | .one::r,v::vs=>v::foldA r vs
 | .one::_,[]=>[]
 | .clo f k::r,vs=> .clo f (vs.take k)::foldA r (vs.drop k)
 | .pp n::r,_::vs=> .loc n 0::foldA r vs
 | .pp _::_,[]=>[]
def gQ (ne:Option NE) (o:Nat):Bool:=match ne with
 |some (.whole i)=>i==o
 |_=>false
def AFZ (AR:Nat->Option AX) (i:Nat):Option Nat:=match AR i with
 |some (.box [.loc j 0])=>some j
 |_=>none
def AOG:SV->Option (FuncId×List SV)
 | .clo f cs=>some (f,cs)
 | .raw (.func (.func f) ⟨[]⟩ ⟨[]⟩)=>some (f,[])
 |_=>none
def WG (AR:Nat->Option AX):List Sh->List SV->Option (List SV)
 | [],vs=>some vs
 | .one::r,v::vs=>(match WG AR r vs with
  |some us=>some (v::us)
  |none=>none)
 | .one::_,[]=>none
 | .clo _ _::_,[]=>none
 | .clo f k::r,v::vs=>(match AOG v with
  |some (f',cs)=>if f' =f/\cs.length=k then (match WG AR r vs with
   |some us=>some (cs++us)
   |none=>none) else none
  |none=>none)
 | .pp _::_,[]=>none
 | .pp _::r,v::vs=>(match v with
  | .loc i off=>if off=0 then (match AFZ AR i,WG AR r vs with
   |some j,some us=>some (.loc j 0::us)
   |_,_=>none) else none
  |_=>none)
def lC:List Sh->List SV->List (Nat×Nat)
 | .one::r,_::vs=>lC r vs
 | .clo _ _::r,_::vs=>lC r vs
 | .pp n::r,.loc i _::vs=>(n,i)::lC r vs
 | .pp _::r,_::vs=>lC r vs
 |_,_=>[]
theorem AG0 {v:SV} {f:FuncId} {cs:List SV} (h:AOG v=some (f,cs)) (E:Env):v.den E= .func (.func f) #[] (AN E cs).toArray:=by
 unfold AOG at h
 split at h
 ·simp only[BA,DH] at h
  obtain⟨rfl,rfl⟩:=h
  simp [SV.den]
 ·simp only[BA,DH] at h
  obtain⟨rfl,rfl⟩:=h
  rfl
 ·cases h
theorem AM2 {v:SV} {f:FuncId} {cs:List SV} (h:AOG v=some (f,cs)) {E:Env} {L:AL} (hv:v.wf E L):L7 E L cs:=by
 unfold AOG at h
 split at h
 ·simp only[BA,DH] at h
  obtain⟨rfl,rfl⟩:=h
  simpa [SV.wf] using hv
 ·simp only[BA,DH] at h
  obtain⟨rfl,rfl⟩:=h
  trivial
 ·cases h
theorem gR {AR:Nat->Option AX} {E Em:Env}:∀ (sh:List Sh) (vs us us' :List SV),WG AR sh vs=some us->AN E us=AN Em us' ->(∀ q∈lC sh vs,Em.nm q.1=E.nm q.2)->AN Em (foldA sh us')=AN E vs
 | [],vs,us,us',h,hd,_=>by simp only[WG,BA] at h;subst h;exact hd.symm
 | .one::r,[],us,us',h,_,_=>by simp [WG] at h
 | .one::r,v::vs,us,us',h,hd,hp=>by
  simp only[WG] at h
  split at h
  ·rename_i us1 hu
   simp only[BA] at h;subst h
   cases us' with
   |nil=>simp [AN] at hd
   |cons u ur=>
    simp only[AN,mS] at hd
    simp only[foldA,AN]
    rw[gR r vs us1 ur hu hd.2 hp,hd.1]
  ·cases h
 | .clo f k::r,[],us,us',h,_,_=>by simp [WG] at h
 | .clo f k::r,v::vs,us,us',h,hd,hp=>by
  simp only[WG] at h
  split at h
  ·rename_i f' cs hf
   split at h
   ·rename_i hc
    obtain⟨rfl,rfl⟩:=hc
    split at h
    ·rename_i us1 hu
     simp only[BA] at h;subst h
     have e1:AN Em (us'.take cs.length)=AN E cs:=by
      rw[FO,List.map_take,←FO,←hd,G4]
      have:(AN E cs).length=cs.length:=AT _
      rw[<-this,List.take_left]
     have e2:AN E us1=AN Em (us'.drop cs.length):=by
      rw[FO (E:=Em),List.map_drop,←FO,←hd,G4]
      have:(AN E cs).length=cs.length:=AT _
      rw[<-this,List.drop_left]
     simp only[foldA,AN,SV.den]
     rw[e1,gR r vs us1 _ hu e2 hp,AG0 hf E]
    ·cases h
   ·cases h
  ·cases h
 | .pp n::r,[],us,us',h,_,_=>by simp [WG] at h
 | .pp n::r,v::vs,us,us',h,hd,hp=>by
  simp only[WG] at h
  split at h
  ·rename_i i off
   split at h
   ·rename_i h0
    subst h0
    split at h
    ·rename_i j us1 hj hu
     simp only[BA] at h;subst h
     cases us' with
     |nil=>simp [AN] at hd
     |cons u ur=>
      simp only[AN,mS] at hd
      simp only[foldA,AN]
      rw[gR r vs us1 ur hu hd.2 (fun q hq=>hp q (by simp [lC,hq]))]
      have:=hp (n,i) (by simp [lC])
      simp only at this
      simp only[SV.den,this]
    ·cases h
   ·cases h
  ·cases h
theorem uH {AR:Nat->Option AX} {E:Env} {L:AL} (hb:∀ i j,AFZ AR i=some j->Al L j):∀ (sh:List Sh) (vs us:List SV),WG AR sh vs=some us->L7 E L vs->L7 E L us
 | [],vs,us,h,hw=>by simp only[WG,BA] at h;subst h;exact hw
 | .one::r,[],us,h,_=>by simp [WG] at h
 | .one::r,v::vs,us,h,hw=>by
  simp only[WG] at h
  split at h
  ·rename_i us' hu
   simp only[BA] at h;subst h
   exact⟨hw.1,uH hb r vs us' hu hw.2⟩
  ·cases h
 | .clo f k::r,[],us,h,_=>by simp [WG] at h
 | .clo f k::r,v::vs,us,h,hw=>by
  simp only[WG] at h
  split at h
  ·rename_i f' cs hf
   split at h
   ·rename_i hc
    split at h
    ·rename_i us' hu
     simp only[BA] at h;subst h
     have h1:=B0.1 (AM2 hf hw.1)
     have h2:=B0.1 (uH hb r vs us' hu hw.2)
     exact B0.2 fun v hv=>(FG.1 hv).elim (h1 v) (h2 v)
    ·cases h
   ·cases h
  ·cases h
 | .pp n::r,[],us,h,_=>by simp [WG] at h
 | .pp n::r,v::vs,us,h,hw=>by
  simp only[WG] at h
  split at h
  ·split at h
   ·split at h
    ·rename_i j us1 hj hu
     simp only[BA] at h;subst h
     exact⟨hb _ _ hj,uH hb r vs us1 hu hw.2⟩
    ·cases h
   ·cases h
  ·cases h
theorem nG {E:Env} {L:AL}:∀ (sh:List Sh) (vs:List SV),(∀ n,Sh.pp n∈sh->Al L n)->L7 E L vs->L7 E L (foldA sh vs)
 | [],_,_,h=>h
 | .one::_,[],_,_=>trivial
 | .one::r,v::vs,hp,h=>⟨h.1,nG r vs (fun n hn=>hp n (by simp [hn])) h.2⟩
 | .pp _::_,[],_,_=>trivial
 | .pp n::r,v::vs,hp,h=>⟨hp n (by simp),nG r vs (fun n hn=>hp n (by simp [hn])) h.2⟩
 | .clo f k::r,vs,hp,h=>by
  have hm:=B0.1 h
  exact⟨B0.2 fun v hv=>hm v (AA9 hv),nG r _ (fun n hn=>hp n (by simp [hn])) (B0.2 fun v hv=>hm v (AAA hv))⟩
structure FnI where
 ps:List CT
 rs:List CT
 os:List CT
 bk:List Nat
 sh:List Sh:=[]
 pin:List (Nat×Nat×Nat×Nat):=[]
 cl:List (Nat×Ty):=[]
 qD:List (Nat×Nat):=[]
 F:HT ps->Option (HT (rs++os))
def UC:List SV->SV
 | [v]=>v
 |vs=> .tup vs
def MR:List CT->Nat->List Nat
 | [],_=>[]
 |d::r,n=>n::MR r (n+d.cnt)
def dB:List CT->Nat->Nat->List (Nat×Nat)
 | [],_,_=>[]
 |d::r,a,b=>match d.ptr with
  |true=>(List.range d.t.HW).map (fun j=>(a+1+j,b+j))++dB r (a+d.cnt) (b+d.t.HW)
  |false=>dB r (a+d.cnt) b
theorem SJ:∀ (cs:List CT) (a b a' b' :Nat),dB cs (a+a') (b+b')=(dB cs a' b').map (fun q=>(a+q.1,b+q.2))
 | [],_,_,_,_=>rfl
 |d::r,a,b,a',b' =>by
  simp only[dB]
  cases d.ptr with
  |true=>
   simp only[bA,VH]
   rw[show a+a' +d.cnt=a+(a' +d.cnt) by omega,show b+b' +d.t.HW=b+(b' +d.t.HW) by omega,SJ r a b]
   congr 1
   apply WB
   intro j _
   simp only[Function.comp]
   congr 1 <;> omega
  |false=>
   simp only
   rw[show a+a' +d.cnt=a+(a' +d.cnt) by omega,SJ r a b]
def Ty.AAN:Ty->Bool
 | .slice a=> !a.tK
 |_=>false
def okO (d:CT):Bool:=d.ptr||(d.own && !d.agg && d.t.AAN)
def U1 (nes:List NE):List Nat->Option (List Nat)
 | []=>some []
 |q::r=>match nes[q]? with
  |some (.whole i)=>(match U1 nes r with
   |some l=>some (i::l)
   |none=>none)
  |_=>none
theorem nH {nes:List NE} (E:Env):∀ (bk is:List Nat),U1 nes bk=some is->bk.map (EM E nes)=is.map E.nm
 | [],is,h=>by simp only[U1,BA] at h;subst h;rfl
 |q::r,is,h=>by
  simp only[U1] at h
  split at h
  ·rename_i i hi
   split at h
   ·rename_i l hl
    simp only[BA] at h
    subst h
    simp only[MN,nH E r l hl]
    congr 1
    simp [EM,hi,NE.nm]
   ·cases h
  ·cases h
def IG (ms:Nat->Nm):Env:={ nm:=ms,ds:=fun _=>undef,ins:=⟨fun k=>(ms k).ins.l⟩ }
def A2P (qD:List (Nat×Nat)) (l:List Nat) (w:World) (ms:Nat->Nm):Prop:=∀ q∈qD,(ms q.1).CE<w.heap.size/\(ms q.1).CE∉l∧
 ∃ arr ty fz,w.heap[(ms q.1).CE]? =some (.cells arr ty fz)/\arr[(ms q.1).off]? =some (.pointer (some ⟨(ms q.2).CE,(ms q.2).off,none⟩))
def CallsV (P:Program) (TB:Tb) (f:FuncId) (fi:FnI):Prop:=
 CalleeRuns P f/\∀ (x:HT fi.ps) (r:HT (fi.rs++fi.os)),fi.F x=some r->∀ (w:World) (G:Nat->Prop) (ms:Nat->Nm),(∀ b,G b->b<w.heap.size)→
  PS (⟨w,fun b=>b∈CF fi.ps x ms,G⟩:EC TB) G w fi.ps x ms->(CF fi.ps x ms).Nodup->(⟨w,fun b=>b∈CF fi.ps x ms,G⟩:EC TB).Tab->A2P fi.qD (CF fi.ps x ms) w ms→
  Calls P f (AN (IG ms) (foldA fi.sh (outSVs fi.ps x 0))).toArray w (fun e w' =>∃ G' ms',e= .returned ((UC (outSVs fi.rs (HT.left fi.rs fi.os r) 0)).den (IG ms'))∧
   Rest w w' /\w.heap.size<=w'.heap.size/\(∀ b,b<w.heap.size->b∉CF fi.ps x ms->w'.heap[b]? =w.heap[b]?)∧
   (∀ b,G b->G' b)/\(∀ b,G' b->G b\/w.heap.size<=b\/b∈CF fi.ps x ms)/\(∀ b,G' b->b<w'.heap.size)∧
   PS (⟨w,fun b=>b∈CF fi.ps x ms,G⟩:EC TB) G' w' (fi.rs++fi.os) r ms' /\(CF (fi.rs++fi.os) r ms').Nodup∧
   (MR fi.os (cnts fi.rs)).map ms' =fi.bk.map ms/\∀ q∈fi.pin,ms' q.1=ms q.2.2.1)
def WH:List CT->Nat
 | []=>0
 |d::r=>(match d.ptr with
  |true=>d.t.HW
  |false=>0)+WH r
def nameAt (i:Nat):List AX->C7
 |e::_=>[(i,e)]
 | []=>[]
def HZ:(cs:List CT)->HT cs->Nat->List Nat->C7
 | [],_,_,_=>[]
 |_::_,_,_,[]=>[]
 |d::r,x,n,i::is=>match d.ptr with
  |true=>CW n (B_ d.own d.t (HT.hd d r x))++ [(i,.box (IY d.t (HT.hd d r x) n))]++HZ r (HT.tl d r x) (n+d.t.HW) is
  |false=>nameAt i (B_ d.own d.t (HT.hd d r x))++HZ r (HT.tl d r x) n is
def Ty.flat:Ty->Bool
 | .pair a b=>a.flat && b.flat
 | .slice a=>a.HW==0 && !a.tK
 |_=>true
def CT.good (d:CT):Bool:=d.t.HW==0||(d.own && d.t.flat)
def FnI.md (fi:FnI):PM:=match (fi.rs++fi.os).all CT.good with
 |true=> .cY
 |false=> .iG
def wH (own:Bool):(t:Ty)->t.T->Bool
 | .pair a b,x=>wH own a x.1 && wH own b x.2
 | .slice a,x=>(x:List a.T).isEmpty||(own && a.HW==0 && !a.tK)
 |_,_=>true
def aO:(cs:List CT)->HT cs->Bool
 | [],_=>true
 |d::r,x=>wH d.own d.t (HT.hd d r x) && aO r (HT.tl d r x)
def JI (AR:Nat->Option AX) (base n:Nat):Bool:=(List.range n).all fun k=>match AR (base+k) with
 |some .L5=>true
 |_=>false
def AG1 (k:Nat):C7->Option AX->Option AX
 | [],o=>o
 |(n,e)::r,o=>AG1 k r (if n=k then some e else o)
def zJ (k o:Nat):SV->SV
 | .NV j=>if j=k then .NV o else .NV j
 |v=>v
def uI (k o i:Nat) (u:C7):C7:=match AG1 k u none,AG1 o u none,AG1 i u none with
 |some (.row t xs),some .dead,some (.box cs)=>u++ [(k,.dead),(o,.row t xs),(i,.box (cs.map (zJ k o)))]
 |_,_,_=>u
def VK (base:Nat) (nes:List NE) (on:List Nat):List (Nat×Nat×Nat×Nat)->C7->C7
 | [],u=>u
 |(_,b,j,jb)::r,u=>match nes[j]?,nes[jb]? with
  |some (.whole o),some (.whole i)=>(match on.contains o && on.contains i with
   |true=>VK base nes on r (uI (base+b) o i u)
   |false=>VK base nes on r u)
  |_,_=>VK base nes on r u
def AM3 (fi:FnI) (AR:Nat->Option AX) (vs:List SV) (nes:List NE) (on:List Nat):Bool:=
 (lC fi.sh vs).all (fun q=>decide (cnts fi.ps<=q.1) && !on.contains q.2) && decide ((lC fi.sh vs).map (·.1)).Nodup &&
 fi.qD.all fun p=>(lC fi.sh vs).any (fun q=>q.1==p.1 && match AFZ AR q.2 with
  |some j=>gQ nes[p.2]? j
  |none=>false)
def ARE (fi:FnI):Bool:=fi.pin.all fun q=>(dB fi.os (cnts fi.rs) (cnts fi.rs)).contains (q.1,q.2.1)
def sC (fi:FnI) (base:Nat) (AR:Nat->Option AX) (args:List SV) {α:Type} (K:SV->C7->Option α):Option α:=
 match WG AR fi.sh args with
 |none=>none
 |some us=>match KF fi.md AR fi.ps us with
 |none=>none
 |some a=>match U1 a.nes fi.bk with
  |none=>none
  |some is=>match okA a && JI AR base (cnts fi.rs+WH fi.os) && (is.length==fi.os.length) && fi.os.all okO && (decide is.Nodup && is.all (fun i=>a.on.contains i)) && ARE fi && AM3 fi AR args a.nes a.on with
   |true=>(fi.F a.x).bind fun r=>K (UC (outSVs fi.rs (HT.left fi.rs fi.os r) base))
     (VK base a.nes a.on fi.pin (a.DG++(ET fi.rs (HT.left fi.rs fi.os r) base++HZ fi.os (HT.right fi.rs fi.os r) (base+cnts fi.rs) is)))
   |false=>none
def AAO (fi:FnI) (base:Nat) (AR:Nat->Option AX) (args:List SV) {α:Type} (K:SV->C7->Option α):Option α:=
 match WG AR fi.sh args with
 |none=>none
 |some us=>match KF .cY AR fi.ps us with
 |none=>none
 |some a=>match U1 a.nes fi.bk with
  |none=>none
  |some is=>match okA a && JI AR base (cnts fi.rs+WH fi.os) && (is.length==fi.os.length) && fi.os.all okO && (decide is.Nodup && is.all (fun i=>a.on.contains i)) && ARE fi && AM3 fi AR args a.nes a.on with
   |true=>(fi.F a.x).bind fun r=>bif aO (fi.rs++fi.os) r then K (UC (outSVs fi.rs (HT.left fi.rs fi.os r) base))
     (VK base a.nes a.on fi.pin (a.DG++(ET fi.rs (HT.left fi.rs fi.os r) base++HZ fi.os (HT.right fi.rs fi.os r) (base+cnts fi.rs) is)))
     else sC fi base AR args K
   |false=>none
theorem PS.split {c:EC TB} {G:Nat->Prop} {w:World}:∀ (zas bs:List CT) (x:HT (zas++bs)) (ms:Nat->Nm),(PS c G w (zas++bs) x ms↔PS c G w zas (HT.left zas bs x) ms/\PS c G w bs (HT.right zas bs x) (fun k=>ms (cnts zas+k)))∧
  CF (zas++bs) x ms=CF zas (HT.left zas bs x) ms++CF bs (HT.right zas bs x) (fun k=>ms (cnts zas+k))
 | [],bs,x,ms=>by simp [PS,CF,cnts,HT.right]
 |d::r,bs,x,ms=>by
  have hh:HT.hd d r (HT.left (d::r) bs x)=HT.hd d (r++bs) x:=by cases r <;> rfl
  have ht:HT.tl d r (HT.left (d::r) bs x)=HT.left r bs (HT.tl d (r++bs) x):=by cases r <;> rfl
  obtain⟨i1,i2⟩:=PS.split (c:=c) (G:=G) (w:=w) r bs (HT.tl d (r++bs) x) (fun k=>ms (d.cnt+k))
  have e:(fun k=>ms (cnts (d::r)+k))=(fun k=>ms (d.cnt+(cnts r+k))):=by
   funext k;simp [cnts,O1]
  have k1:PS c G w (d::r++bs) x ms↔HE c G w d (HT.hd d (r++bs) x) ms/\PS c G w (r++bs) (HT.tl d (r++bs) x) (fun k=>ms (d.cnt+k)):=m9
  have k2:PS c G w (d::r) (HT.left (d::r) bs x) ms↔HE c G w d (HT.hd d r (HT.left (d::r) bs x)) ms/\PS c G w r (HT.tl d r (HT.left (d::r) bs x)) (fun k=>ms (d.cnt+k)):=m9
  have k3:CF (d::r++bs) x ms=NY d (HT.hd d (r++bs) x) ms++CF (r++bs) (HT.tl d (r++bs) x) (fun k=>ms (d.cnt+k)):=rfl
  have k4:CF (d::r) (HT.left (d::r) bs x) ms=NY d (HT.hd d r (HT.left (d::r) bs x)) ms++CF r (HT.tl d r (HT.left (d::r) bs x)) (fun k=>ms (d.cnt+k)):=rfl
  have k5:HT.right (d::r) bs x=HT.right r bs (HT.tl d (r++bs) x):=rfl
  rw[hh,ht] at k2 k4
  refine⟨?_, ?_⟩
  ·rw[k1,k2,k5,e,i1,and_assoc]
  ·rw[k3,k4,k5,e,i2,J_]
theorem HE.cfg {c c' :EC TB} {G:Nat->Prop} {w:World} {d:CT} {x:d.t.T} {ms:Nat->Nm} (h:HE c G w d x ms) (hc:∀ b,¬c.Old b->¬c'.Old b):HE c' G w d x ms:=by
 refine⟨fun j e he=> ?_,fun hp=> ?_⟩
 ·have:=h.1 j e he
  cases e with
  |row t xs=>
   obtain⟨h1,h2,h3⟩:=this
   exact⟨h1,h2,h3.imp id fun ⟨a,b,c,d⟩=>⟨a,b,hc _ c,d⟩⟩
  |deep t xs q=>exact⟨this.1,this.2.cfg fun b hb=>hc _ (this.2.all b hb).2.1⟩
  |tree t1 t2 xs=>exact FP.cfg this fun b hb=>hc _ (this.all b hb).2.1
  |_=>exact this
 ·obtain⟨a,b,c,d,e⟩:=h.2 hp
  exact⟨a,b,c,hc _ d,e⟩
theorem PS.cfg {c c' :EC TB} {G:Nat->Prop} {w:World} (hc:∀ b,¬c.Old b->¬c'.Old b):∀ (cs:List CT) {x:HT cs} {ms:Nat->Nm},PS c G w cs x ms->PS c' G w cs x ms
 | [],_,_,_=>trivial
 |_::r,_,_,h=>⟨h.1.cfg hc,PS.cfg hc r h.2⟩
theorem Rp.flat {G G' :Nat->Prop} {w:World} (t:Ty) (ht:t.HW=0) (x:t.T) (vs:List Value) (h:Rp G w t x vs):Rp G' w t x vs:=by
 induction t generalizing vs with
 |pair a b V7 V8=>
  simp only[Ty.HW] at ht
  obtain⟨v1,v2,h0,h1,h2⟩:=h
  exact⟨v1,v2,h0,V7 (by omega) _ _ h1,V8 (by omega) _ _ h2⟩
 |slice a=>simp [Ty.HW] at ht
 |_=>exact h
theorem AOH {t:Ty} (hf:t.flat=true) {x:t.T} {o:Bool} {j:Nat} {e:AX} (he:(B_ o t x)[j]? =some e):e= .dead\/∃ (a:Ty) (xs:List a.T),a.HW=0/\e=(if o=true then AX.row a xs else AX.shr a xs):=by
 induction t generalizing j with
 |pair a b V7 V8=>
  simp only[Ty.flat,ID] at hf
  simp only[B_] at he
  by_cases hk:j<(B_ o a x.1).length
  ·rw[WA hk] at he;exact V7 hf.1 he
  ·rw[V_ (by omega)] at he;exact V8 hf.2 he
 |slice a=>
  cases j with
  |zero=>
   simp only[B_,QP,BA] at he
   simp only[Ty.flat,ID,WN,TZ] at hf
   obtain⟨ha,QO⟩:=hf
   refine .inr ⟨a,x,ha, ?_⟩
   rw[<-he];cases o
   ·rfl
   ·exact MO QO x
  |succ j=>simp [B_] at he
 |nf=>
  cases j with
  |zero=>simp only[B_,QP,BA] at he;exact .inl he.symm
  |succ j=>simp [B_] at he
 |_=>simp [B_] at he
theorem HE.good {c:EC TB} {G G' :Nat->Prop} {w:World} {d:CT} {x:d.t.T} {ms:Nat->Nm} (h:HE c G w d x ms) (hd:d.good=true) (hg:∀ b,G' b->G b):HE c G' w d x ms:=by
 refine⟨fun j e he=> ?_,fun hp=> ?_⟩
 ·have hm:=h.1 j e he
  simp only[CT.good,rW,ID,WN] at hd
  rcases hd with hd|⟨ho,hf⟩
  ·exfalso
   have:(B_ d.own d.t x).length=0:=by rw[BI];exact hd
   rw[UX (by omega)] at he;cases he
  ·rcases AOH hf he with rfl|⟨a,xs,ha,rfl⟩
   ·trivial
   rw[ho] at hm ⊢
   obtain⟨h1,h2,h3⟩:=hm
   refine⟨h1,h2,h3.imp id ?_⟩
   rintro⟨p1,p2,p3,p4,arr,ty,p5,p6,p7⟩
   exact⟨p1,fun hx=>p2 (hg _ hx),p3,p4,arr,ty,p5,p6,p7.imp fun x vs hx=>Rp.flat a ha x vs hx⟩
 ·obtain⟨a,b,c,d,e⟩:=h.2 hp
  exact⟨a,b,fun hx=>c (hg _ hx),d,e⟩
theorem PS.good {c:EC TB} {G G' :Nat->Prop} {w:World} (hg:∀ b,G' b->G b):∀ (cs:List CT) {x:HT cs} {ms:Nat->Nm},cs.all CT.good=true->PS c G w cs x ms->PS c G' w cs x ms
 | [],_,_,_,_=>trivial
 |d::r,_,_,hd,h=>by
  simp only[vV,ID] at hd
  exact⟨h.1.good hd.1 hg,PS.good hg r hd.2 h.2⟩
theorem AJA {own:Bool}:∀ (t:Ty) (x:t.T) {j:Nat} {e:AX},wH own t x=true->(B_ own t x)[j]? =some e->e= .dead\/∃ (a:Ty) (xs:List a.T),(e=(match own with|true=>KD a xs|false=> .shr a xs))/\(xs=[]\/(own=true/\a.HW=0/\a.tK=false)):=by
 intro t
 induction t with
 |pair a b V7 V8=>
  intro x j e h he
  simp only[wH,ID] at h
  simp only[B_] at he
  by_cases hk:j<(B_ own a x.1).length
  ·rw[WA hk] at he;exact V7 _ h.1 he
  ·rw[V_ (by omega)] at he;exact V8 _ h.2 he
 |slice a=>
  intro x j e h he
  cases j with
  |zero=>
   simp only[B_,QP,BA] at he
   refine .inr ⟨a,x,he.symm, ?_⟩
   simp only[wH,rW,ID,WN,TZ] at h
   rcases h with h|⟨⟨h1,h2⟩,h3⟩
   ·exact .inl (List.isEmpty_iff.1 h)
   ·exact .inr ⟨h1,h2,h3⟩
  |succ j=>simp [B_] at he
 |nf=>
  intro x j e h he
  cases j with
  |zero=>simp only[B_,QP,BA] at he;exact .inl he.symm
  |succ j=>simp [B_] at he
 |_=>intro x j e h he;simp [B_] at he
theorem HE.AM4 {c:EC TB} {G G' :Nat->Prop} {w:World} {d:CT} {x:d.t.T} {ms:Nat->Nm} (h:HE c G w d x ms) (hd:wH d.own d.t x=true) (hg:∀ b,G' b->G b):HE c G' w d x ms:=by
 refine⟨fun j e he=> ?_,fun hp=> ?_⟩
 ·have hm:=h.1 j e he
  rcases AJA d.t x hd he with rfl|⟨a,xs,rfl,hx⟩
  ·trivial
  cases ho:d.own with
  |false=>
   rw[ho] at hm
   rcases hx with rfl|⟨hx,_⟩
   ·obtain⟨h1,h2,_⟩:=hm
    exact⟨h1,h2,.inl rfl⟩
   ·rw[ho] at hx;cases hx
  |true=>
   rw[ho] at hm
   simp only at hm ⊢
   rcases hx with rfl|⟨_,ha,QO⟩
   ·cases a with
    |slice b=>
     obtain⟨e0,hm⟩:=hm
     refine⟨e0,⟨hm.len,hm.off,hm.nd,fun b hb=>⟨fun hx=>(hm.all b hb).1 (hg _ hx),(hm.all b hb).2⟩, ?_⟩⟩
     rcases hm.cs with hc|⟨q1,q2,q3,arr,ty,hs,q4,q5,q6,q7,q8,q9⟩
     ·exact .inl hc
     ·exact .inr ⟨q1,q2,q3,arr,ty,hs,q4,q5,q6,fun k xs hk=>by simp at hk,q8,q9⟩
    |kv=>exact hm.elim
    |pair a1 a2=>
     have key:∀ (q:AX),q=KD (.pair a1 a2) []->k_ c G w (ms (d.pn+j)) q->k_ c G' w (ms (d.pn+j)) q:=by
      intro q hq hm
      have hq2:(∃ t1 t2,q= .tree t1 t2 [])\/q= .row (.pair a1 a2) []:=by
       rw[hq]
       cases a1 <;> cases a2 <;> first|exact .inr rfl|exact .inl ⟨_,_,rfl⟩
      rcases hq2 with ⟨t1,t2,rfl⟩|rfl
      ·exact FP.nil hm hg
      ·obtain⟨h1,h2,h3⟩:=hm
       refine⟨h1,h2,h3.imp id ?_⟩
       rintro⟨p1,p2,p3,p4,arr,ty,p5,p6,p7⟩
       exact⟨p1,fun hx=>p2 (hg _ hx),p3,p4,arr,ty,p5,p6,fun i x hx=>by simp at hx⟩
     exact key _ rfl hm
    |_=>
     obtain⟨h1,h2,h3⟩:=hm
     refine⟨h1,h2,h3.imp id ?_⟩
     rintro⟨p1,p2,p3,p4,arr,ty,p5,p6,p7⟩
     exact⟨p1,fun hx=>p2 (hg _ hx),p3,p4,arr,ty,p5,p6,fun i x hx=>by simp at hx⟩
   ·rw[MO QO] at hm ⊢
    obtain⟨h1,h2,h3⟩:=hm
    refine⟨h1,h2,h3.imp id ?_⟩
    rintro⟨p1,p2,p3,p4,arr,ty,p5,p6,p7⟩
    exact⟨p1,fun hx=>p2 (hg _ hx),p3,p4,arr,ty,p5,p6,p7.imp fun x vs hx=>Rp.flat a ha x vs hx⟩
 ·obtain⟨a,b,c,d,e⟩:=h.2 hp
  exact⟨a,b,fun hx=>c (hg _ hx),d,e⟩
theorem PS.AM4 {c:EC TB} {G G' :Nat->Prop} {w:World} (hg:∀ b,G' b->G b):∀ (cs:List CT) {x:HT cs} {ms:Nat->Nm},aO cs x=true->PS c G w cs x ms->PS c G' w cs x ms
 | [],_,_,_,_=>trivial
 |d::r,_,_,hd,h=>by
  simp only[aO,ID] at hd
  exact⟨h.1.AM4 hd.1 hg,PS.AM4 hg r hd.2 h.2⟩
theorem sD:∀ (cs:List CT) {x:HT cs} {ms ms' :Nat->Nm},(∀ k,k<cnts cs->ms' k=ms k)->CF cs x ms' =CF cs x ms
 | [],_,_,_,_=>rfl
 |d::r,x,ms,ms',he=>by
  simp only[CF]
  rw[sD r (ms:=fun k=>ms (d.cnt+k)) (ms' :=fun k=>ms' (d.cnt+k)) (fun k hk=>he _ (by simp [cnts];omega))]
  congr 1
  unfold NY
  congr 1
  ·cases hp:d.ptr with
   |true=>simp only;rw[he 0 (by simp [cnts,CT.cnt,CT.pn,hp];omega)]
   |false=>rfl
  ·exact SI _ fun k hk=>he _ (by rw[BI] at hk;simp [cnts,CT.cnt];omega)
theorem AS.after {c:EC TB} {G G' :Nat->Prop} {w w' :World} {E:Env} {L:AL} (h:AS c G w E L) (hr:Rest w w') (hs:w.heap.size<=w'.heap.size) (hold:∀ b,c.Old b->w'.heap[b]? =w.heap[b]?)
  (hG:∀ b,G b->w'.heap[b]? =w.heap[b]?) (hg:∀ b,G b->G' b) (hgi:∀ b,G' b->b<w'.heap.size) (hgh:∀ b,G' b->G b\/¬c.Old b)
  (C1:∀ n e b,look L n=some e->e.ow E n b->w'.heap[b]? =w.heap[b]?∧¬G' b):AS c G' w' E L:=
 ⟨h.rest.trans hr,kF h.size hs,fun b hb=>(hold b hb).trans (h.old b hb),hgi,fun b hb=>hg b (h.glo b hb),fun b hb=>(hgh b hb).elim (h.ghi b) .inr,
  fun n e he=>(h.MK n e he).mono (fun _ h=>h) (fun _ _=>rfl) hG hg (fun b hb=>C1 n e b he (.inl hb)) (fun ht b hb=>C1 n e b he (AX.PA ht hb)),
  fun n t xss q he=>(h.dp n t xss q he).mono (fun _ h=>h) (fun _ _=>rfl) hG hg (fun b hb=>C1 n _ b he (AX.GF.2 hb)),h.inj,h.tab⟩
theorem AS.wI {c:EC TB} {G:Nat->Prop} {w:World}:∀ (cs:List CT) {E:Env} {L:AL} (x:HT cs) {n:Nat} {ms:Nat->Nm} (is:List Nat),AS c G w E L->cs.all okO=true->is.length=cs.length→
  is.Nodup->(∀ j,j<WH cs->look L (n+j)=some .L5)->(∀ i∈is,look L i=some .dead)->(MR cs 0).map ms=is.map E.nm→
  PS c G w cs x ms->(CF cs x ms).Nodup->(∀ b∈CF cs x ms,JH E L b)→
  ∃ E',AS c G w E' (AK L (HZ cs x n is))/\(∀ k,Al L k->E'.nm k=E.nm k/\Al (AK L (HZ cs x n is)) k)/\E'.ds=E.ds/\(∀ k,¬(n<=k/\k<n+WH cs)->k∉is->look (AK L (HZ cs x n is)) k=look L k)/\∀ q∈dB cs 0 0,E'.nm (n+q.2)=ms q.1
 | [],E,L,x,n,ms,is,h,_,hl,_,_,_,_,_,_,_=>by
  exact⟨E,h,fun k hk=>⟨rfl,hk⟩,rfl,fun _ _ _=>rfl,fun q hq=>by cases hq⟩
 |d::r,E,L,x,n,ms,[],h,_,hl,_,_,_,_,_,_,_=>by simp at hl
 |d::r,E,L,x,n,ms,i::is,h,hp,hl,A00,hrs,X4,XF,hps,JE,XU=>by
  simp only[vV,ID] at hp
  have shift:∀ (cs:List CT) (a b:Nat),(MR cs (a+b))=(MR cs b).map (fun k=>a+k):=by
   intro cs
   induction cs with
   |nil=>intros;rfl
   |cons e s ihs=>
    intro a b
    simp only[MR]
    rw[O1,ihs]
    simp
  have AM5:=WD.1 A00
  have hi0:=X4 i (by simp)
  cases hpt:d.ptr with
  |false=>
   obtain⟨t,ag,ow,pt⟩:=d
   simp only at hpt
   subst hpt
   have QV:=hp.1
   simp only[okO,Bool.false_or,ID,TZ] at QV
   obtain⟨⟨rfl,rfl⟩,QO⟩:=QV
   cases t with
   |slice a=>
    obtain⟨⟨hc1, -⟩,A01⟩:=hps
    have qE:(CT.mk (.slice a) false true false).cnt=1:=rfl
    have QO:a.tK=false:=by simpa [Ty.AAN] using QO
    have hen:B_ true (.slice a) (HT.hd (CT.mk (.slice a) false true false) r x)=[.row a (HT.hd (CT.mk (.slice a) false true false) r x)]:=by
     show [KD a _]=_
     rw[MO QO]
    have QQ:k_ c G w (ms 0) (.row a (HT.hd (CT.mk (.slice a) false true false) r x)):=hc1 0 _ (by show (B_ true (.slice a) _)[0]? =_;rw[hen];rfl)
    have hoc:CF (CT.mk (.slice a) false true false::r) x ms=((AX.row a (HT.hd (CT.mk (.slice a) false true false) r x)).own (ms 0)).toList++CF r (HT.tl (CT.mk (.slice a) false true false) r x) (fun k=>ms (1+k)):=by
     show (([]++HK (B_ true (.slice a) (HT.hd (CT.mk (.slice a) false true false) r x)) (fun j=>ms (0+j)))++_)=_
     rw[hen]
     show (([]++(((AX.row a (HT.hd (CT.mk (.slice a) false true false) r x)).own (ms 0)).toList++ []))++_)=_
     simp
     rfl
    rw[hoc] at JE XU
    have X0:=RF.1 JE
    simp only[MR,MN,mS] at XF
    obtain⟨AG2,ARF⟩:=XF
    have DO:=AQ hi0
    have CD:=fun k=>BC (q:=(i,AX.row a (HT.hd (CT.mk (.slice a) false true false) r x))) DO k
    have hEi:E.set i (ms 0)=E:=by
     refine L9 (fun k=> ?_) rfl (fun _=>rfl)
     by_cases hk:k=i
     ·subst hk;rw[Env.EZ,AG2]
     ·exact Env.HY _ _ hk
    have h3:=h.change (i:=i) (e' := .row a (HT.hd (CT.mk (.slice a) false true false) r x)) (m:=ms 0) (w' :=w) DO (.refl _) (EY _) (fun _=>AG2) rfl (fun _ _ _=>rfl)
     (fun b hb=>by have:=k_.wE (e:= .row a _) QQ (AX.AFU hb);exact⟨this.1,this.2.1⟩)
     (by
      intro k f hk hf b hb he
      exact XU b (FG.2 (.inl (by rw[he];simp))) k f hf hb)
     (by intro _;exact QQ)
    rw[hEi] at h3
    have A02:∀ b∈CF r (HT.tl (CT.mk (.slice a) false true false) r x) (fun k=>ms (1+k)),JH E (DK L (i,AX.row a (HT.hd (CT.mk (.slice a) false true false) r x))) b:=by
     intro b hb k f hf RH
     rw[CD] at hf
     by_cases kJ:k=i
     ·subst kJ
      simp only[HJ,BA] at hf;subst hf
      rw[AX.gM rfl,←AG2] at RH
      exact X0.2.2 b (by rw[RH];simp) b hb rfl
     ·rw[AD kJ] at hf
      exact XU b (FG.2 (.inr hb)) k f hf RH
    have AJB :(MR r 0).map (fun k=>ms (1+k))=is.map E.nm:=by
     rw[<-ARF]
     have e:=shift r 1 0
     rw[NP] at e
     rw[qE,KK,e,VH]
     rfl
    obtain⟨E',k1,k2,k3,k4,k5⟩:=AS.wI r (HT.tl (CT.mk (.slice a) false true false) r x) (n:=n) (ms:=fun k=>ms (1+k)) is h3 hp.2 (by simpa using hl) AM5.2
     (by
      intro j hj
      rw[CD]
      have hr:=hrs j (by simp [WH];omega)
      have CU:¬(n+j=i):=by
       intro hx;rw[hx,hi0] at hr;cases hr
      rw[AD CU];exact hr)
     (by
      intro k hk
      have kJ:¬k=i:=fun hx=>AM5.1 (hx ▸ hk)
      rw[CD,AD kJ];exact X4 k (by simp [hk]))
     AJB A01 X0.2.1 A02
    have eu:AK L (HZ (CT.mk (.slice a) false true false::r) x n (i::is))=AK (DK L (i,AX.row a (HT.hd (CT.mk (.slice a) false true false) r x))) (HZ r (HT.tl (CT.mk (.slice a) false true false) r x) n is):=by
     simp only[HZ,BQ]
     rw[show nameAt i (B_ (CT.mk (.slice a) false true false).own (CT.mk (.slice a) false true false).t (HT.hd (CT.mk (.slice a) false true false) r x))=[(i,AX.row a (HT.hd (CT.mk (.slice a) false true false) r x))] from by rw[hen];rfl]
     rfl
    rw[eu]
    refine⟨E',k1,fun k hk=>k2 k (BZ rfl k hk),k3,fun k hk AJC=> ?_,fun q hq=> ?_⟩
    ·simp only[WH] at hk
     simp only[GA,not_or] at AJC
     rw[k4 k (by omega) AJC.2,CD,AD AJC.1]
    ·have e:=SJ r 1 0 0 0
     simp only[dB,qE] at hq
     rw[NP,NP] at e
     rw[KK,e] at hq
     obtain⟨q',QW,rfl⟩:=DD.1 hq
     have:=k5 q' QW
     simp only[KK]
     exact this
   |_=>simp [Ty.AAN] at QO
  |true=>
  have hpn:d.pn=1:=by simp [CT.pn,hpt]
  have qE:d.cnt=1+d.t.HW:=by simp [CT.cnt,hpn]
  obtain⟨⟨hc1,hc2⟩,A01⟩:=hps
  obtain⟨b1,b2,b3,b4,ty,b5⟩:=hc2 hpt
  rw[hpn] at hc1 b5
  have X0:=RF.1 JE
  have hoc:NY d (HT.hd d r x) ms=(ms 0).CE::HK (B_ d.own d.t (HT.hd d r x)) (fun j=>ms (1+j)):=by
   unfold NY;rw[hpn,hpt];rfl
  rw[hoc] at X0
  simp only[MR,MN,mS] at XF
  obtain⟨AG2,ARF⟩:=XF
  have ARG:=WD.1 X0.1
  have QO:∀ j,j<d.t.HW->look L (n+j)=some .L5:=fun j hj=>hrs j (by simp [WH,hpt];omega)
  obtain⟨h1,h2⟩:=h.nD (B_ d.own d.t (HT.hd d r x)) (n:=n) (ms:=fun j=>ms (1+j)) (fun j hj=>QO j (by rw[BI] at hj;exact hj)) hc1 ARG.2
   (fun b hb=>XU b (FG.2 (.inl (by rw[hoc];exact UY _ hb))))
  rw[BI] at h1 h2
  have A5J:¬(n<=i/\i<n+d.t.HW):=by
   intro hx
   have:=QO (i-n) (by omega)
   have e:n+(i-n)=i:=by omega
   rw[e,hi0] at this;cases this
  have hi1:look (AK L (CW n (B_ d.own d.t (HT.hd d r x)))) i=some .dead:=by rw[h2,AD A5J];exact hi0
  have DO:=AQ hi1
  have CD:=fun k=>BC (q:=(i,AX.box (IY d.t (HT.hd d r x) n))) DO k
  have hEi:(E.put n d.t.HW (fun j=>ms (1+j))).nm i=ms 0:=by
   rw[Env.WT _ _ _ _ (by omega),←AG2]
  have AOI:∀ k,Al L k->Al (AK L (CW n (B_ d.own d.t (HT.hd d r x)))) k:=by
   intro k hk
   by_cases hkn:n<=k/\k<n+d.t.HW
   ·exfalso
    have:=QO (k-n) (by omega)
    have e:n+(k-n)=k:=by omega
    rw[e] at this
    exact E3 this hk
   ·obtain⟨e,wG,he2⟩:=hk
    exact⟨e,by rw[h2,AD hkn];exact wG,he2⟩
  have sA:L7 (E.put n d.t.HW (fun j=>ms (1+j))) (DK (AK L (CW n (B_ d.own d.t (HT.hd d r x)))) (i,AX.box (IY d.t (HT.hd d r x) n))) (IY d.t (HT.hd d r x) n):=by
   refine wF _ _ _ fun j hj=>BZ rfl _ ?_
   have DO:j<(B_ d.own d.t (HT.hd d r x)).length:=by rw[BI];exact hj
   refine⟨(B_ d.own d.t (HT.hd d r x))[j], ?_,XZ (OT DO)⟩
   rw[h2,AA ⟨by omega,by omega⟩]
   have e:n+j-n=j:=by omega
   rw[e,OT DO]
  have A2Q:(E.put n d.t.HW (fun j=>ms (1+j))).set i (ms 0)=E.put n d.t.HW (fun j=>ms (1+j)):=by
   refine L9 (fun k=> ?_) rfl (fun _=>rfl)
   by_cases hk:k=i
   ·subst hk;rw[Env.EZ,hEi]
   ·exact Env.HY _ _ hk
  have h3:=h1.change (i:=i) (e' := .box (IY d.t (HT.hd d r x) n)) (m:=ms 0) (w' :=w) DO (.refl _) (EY _) (fun _=>hEi.symm) rfl (fun _ _ _=>rfl)
   (fun b hb=>by simp only[AX.own,BA] at hb;subst hb;exact⟨b4,b3⟩)
   (by
    intro k f hk hf b hb he
    simp only[AX.own,BA] at he
    subst he
    rw[h2] at hf
    by_cases PW:n<=k/\k<n+d.t.HW
    ·rw[AA PW] at hf
     have e:k=n+(k-n):=by omega
     rw[e,AX.cZ (by omega)] at hb
     exact ARG.1 (IX _ _ (fun j=>ms (1+j)) hf hb)
    ·rw[AD PW] at hf
     rw[AX.qC (by omega)] at hb
     exact XU _ (FG.2 (.inl (by rw[hoc];simp))) k f hf hb)
   (by
    intro _
    rw[A2Q]
    refine⟨b1,b2,b3,b4,⟨ty, ?_⟩,sA⟩
    rw[b5,WS]
    congr 3
    apply IB
    intro j hj
    exact (Env.lA E n d.t.HW (fun j=>ms (1+j)) hj).symm)
  rw[A2Q] at h3
  have A02:∀ b∈CF r (HT.tl d r x) (fun k=>ms (d.cnt+k)),JH (E.put n d.t.HW (fun j=>ms (1+j))) (DK (AK L (CW n (B_ d.own d.t (HT.hd d r x)))) (i,AX.box (IY d.t (HT.hd d r x) n))) b:=by
   intro b hb k f hf RH
   rw[CD] at hf
   by_cases kJ:k=i
   ·subst kJ
    simp only[HJ,BA] at hf;subst hf
    rw[AX.gM rfl,hEi] at RH
    simp only[AX.own,BA] at RH
    exact X0.2.2 _ (by simp) b hb RH
   ·rw[AD kJ,h2] at hf
    by_cases PW:n<=k/\k<n+d.t.HW
    ·rw[AA PW] at hf
     have e:k=n+(k-n):=by omega
     rw[e,AX.cZ (by omega)] at RH
     exact X0.2.2 b (UY _ (IX _ _ (fun j=>ms (1+j)) hf RH)) b hb rfl
    ·rw[AD PW] at hf
     rw[AX.qC (by omega)] at RH
     exact XU b (FG.2 (.inr hb)) k f hf RH
  have AJB :(MR r 0).map (fun k=>ms (d.cnt+k))=is.map E.nm:=by
   rw[<-ARF]
   have e:=shift r d.cnt 0
   rw[NP] at e
   rw[KK,e,VH]
   rfl
  obtain⟨E',k1,k2,k3,k4,k5⟩:=AS.wI r (HT.tl d r x) (n:=n+d.t.HW) (ms:=fun k=>ms (d.cnt+k)) is h3 hp.2 (by simpa using hl) AM5.2
   (by
    intro j hj
    rw[CD]
    have hr:=hrs (d.t.HW+j) (by simp [WH,hpt];omega)
    rw[<-O1] at hr
    have CU:¬(n+d.t.HW+j=i):=by
     intro hx;rw[hx,hi0] at hr;cases hr
    rw[AD CU,h2,AD (by omega)]
    exact hr)
   (by
    intro k hk
    have kJ:¬k=i:=fun hx=>AM5.1 (hx ▸ hk)
    have hd:=X4 k (by simp [hk])
    rw[CD,AD kJ,h2,AD]
    ·exact hd
    ·intro hx
     have:=QO (k-n) (by omega)
     have e:n+(k-n)=k:=by omega
     rw[e,hd] at this;cases this)
   (by
    rw[AJB]
    apply WB
    intro k hk
    have hd:=X4 k (by simp [hk])
    refine (Env.WT _ _ _ _ ?_).symm
    rcases IA k n with DO|hge
    ·exact .inl DO
    ·right
     rcases IA k (n+d.t.HW) with AJ6|ARA
     ·exfalso
      have:=QO (k-n) (by omega)
      have e:n+(k-n)=k:=by omega
      rw[e,hd] at this;cases this
     ·exact ARA) A01 X0.2.1 A02
  have eu:AK L (HZ (d::r) x n (i::is))=AK (DK (AK L (CW n (B_ d.own d.t (HT.hd d r x)))) (i,AX.box (IY d.t (HT.hd d r x) n))) (HZ r (HT.tl d r x) (n+d.t.HW) is):=by
   simp only[HZ,hpt,BQ]
   rfl
  rw[eu]
  refine⟨E',k1,fun k hk=> ?_,by rw[k3];rfl,fun k hk AJC=> ?_,fun q hq=> ?_⟩
  ·obtain⟨q1,q2⟩:=k2 k (BZ rfl k (AOI k hk))
   refine⟨q1.trans (Env.WT _ _ _ _ ?_),q2⟩
   rcases IA k n with DO|hge
   ·exact .inl DO
   ·right
    rcases IA k (n+d.t.HW) with AJ6|ARA
    ·exfalso
     have:=QO (k-n) (by omega)
     have e:n+(k-n)=k:=by omega
     rw[e] at this
     exact E3 this hk
    ·exact ARA
  ·simp only[WH,hpt] at hk
   simp only[GA,not_or] at AJC
   rw[k4 k (by omega) AJC.2,CD,AD AJC.1,h2,AD (by omega)]
  ·simp only[dB,hpt] at hq
   rcases FG.1 hq with hq|hq
   ·obtain⟨j,hj,rfl⟩:=DD.1 hq
    have hj:=pV.1 hj
    simp only[KK]
    have A2R:j<(B_ d.own d.t (HT.hd d r x)).length:=by rw[BI];exact hj
    have PB:Al (AK L (CW n (B_ d.own d.t (HT.hd d r x)))) (n+j):=by
     refine⟨(B_ d.own d.t (HT.hd d r x))[j], ?_,XZ (OT A2R)⟩
     rw[h2,AA ⟨by omega,by omega⟩]
     have e:n+j-n=j:=by omega
     rw[e,OT A2R]
    rw[(k2 (n+j) (BZ rfl _ PB)).1,Env.lA _ _ _ _ hj]
   ·have e:=SJ r d.cnt d.t.HW 0 0
    rw[NP,NP] at e
    rw[KK,KK,e] at hq
    obtain⟨q',QW,rfl⟩:=DD.1 hq
    have:=k5 q' QW
    rw[O1] at this
    exact this
end Go.V3
namespace Go.V3
open Go
variable {TB:Tb}
def Hd (c:EC TB) (w:World) (E:Env) (L:AL):Prop:=∃ G,AS c G w E L
theorem AAP {b:Nat}:∀ (es:List AX) (ms:Nat->Nm),b∈HK es ms->∃ (j:Nat) (e:AX),es[j]? =some e/\b∈e.XY (ms j)
 | [],ms,h=>by simp [HK] at h
 |e::r,ms,h=>by
  simp only[HK] at h
  rcases FG.1 h with h|h
  ·exact⟨0,e,rfl,h⟩
  ·obtain⟨j,f,h1,h2⟩:=AAP r _ h
   exact⟨j+1,f,by simpa using h1,h2⟩
theorem HE.wE {c:EC TB} {G:Nat->Prop} {w:World} {d:CT} {x:d.t.T} {ms:Nat->Nm} (h:HE c G w d x ms) {b:Nat} (hb:b∈NY d x ms):¬c.Old b/\¬G b/\b<w.heap.size:=by
 unfold NY at hb
 rcases FG.1 hb with hb|hb
 ·cases hp:d.ptr with
  |true=>
   rw[hp] at hb
   simp only[HA] at hb
   subst hb
   obtain⟨h1,h2,h3,h4,ty,h5⟩:=h.2 hp
   refine⟨h4,h3, ?_⟩
   rcases IA (ms 0).CE w.heap.size with h6|h6
   ·exact h6
   ·rw[AEZ h6] at h5;cases h5
  |false=>rw[hp] at hb;cases hb
 ·obtain⟨j,e,h1,h2⟩:=AAP _ _ hb
  exact (h.1 j e h1).wE h2
theorem PS.wE {c:EC TB} {G:Nat->Prop} {w:World} {b:Nat}:∀ (cs:List CT) {x:HT cs} {ms:Nat->Nm},PS c G w cs x ms->b∈CF cs x ms->¬c.Old b/\¬G b/\b<w.heap.size
 | [],_,_,_,hb=>by cases hb
 |d::r,_,_,h,hb=>by
  rcases FG.1 hb with hb|hb
  ·exact h.1.wE hb
  ·exact PS.wE r h.2 hb
theorem HE.io {c:EC TB} {G:Nat->Prop} {w:World} {d:CT} {x:d.t.T} {ms:Nat->Nm} (h:HE c G w d x ms) (c' :EC TB) (hc:∀ b∈NY d x ms,¬c'.Old b):HE c' G w d x ms:=by
 refine⟨fun j e he=> ?_,fun hp=> ?_⟩
 ·have hm:=h.1 j e he
  cases e with
  |row t xs=>
   obtain⟨h1,h2,h3⟩:=hm
   refine⟨h1,h2,h3.imp id fun ⟨a,b,_,d'⟩=>⟨a,b,hc _ ?_,d'⟩⟩
   refine FG.2 (.inr (IX _ j _ he (AX.AFU ?_)))
   simp [AX.own,a]
  |deep t xs q=>exact⟨hm.1,hm.2.cfg fun b hb=>hc b (FG.2 (.inr (IX _ j _ he hb)))⟩
  |tree t1 t2 xs=>exact FP.cfg hm fun b hb=>hc b (FG.2 (.inr (IX _ j _ he hb)))
  |_=>exact hm
 ·obtain⟨a,b,c1,d1,e⟩:=h.2 hp
  refine⟨a,b,c1,hc _ ?_,e⟩
  unfold NY
  rw[hp]
  simp
theorem PS.io {c:EC TB} {G:Nat->Prop} {w:World} (c' :EC TB):∀ (cs:List CT) {x:HT cs} {ms:Nat->Nm},PS c G w cs x ms->(∀ b∈CF cs x ms,¬c'.Old b)->PS c' G w cs x ms
 | [],_,_,_,_=>trivial
 |d::r,_,_,h,hc=>⟨h.1.io c' fun b hb=>hc b (FG.2 (.inl hb)),PS.io c' r h.2 fun b hb=>hc b (FG.2 (.inr hb))⟩
theorem AOJ (d:CT) (x:d.t.T) {E E2:Env} {n m:Nat} (h:∀ k,k<d.cnt->E.nm (n+k)=E2.nm (m+k)):(UB d x n).den E=(UB d x m).den E2:=by
 unfold CT.cnt CT.pn at h
 unfold UB
 cases hp:d.ptr with
 |true=>
  rw[hp] at h
  have h0:=h 0 (by simp;omega)
  simp only[NP] at h0
  simp only[SV.den,h0]
 |false=>
  rw[hp] at h
  simp only[KK] at h
  have hu:AN E (IY d.t x n)=AN E2 (IY d.t x m):=by
   rw[WS,WS]
   exact IB _ _ fun k hk=>h k hk
  cases d.agg with
  |true=>simp only[SV.den,hu]
  |false=>
   simp only
   cases h1:IY d.t x n with
   |nil=>
    have:(IY d.t x n).length=(IY d.t x m).length:=by rw[FA,FA]
    rw[h1] at this
    cases h2:IY d.t x m with
    |nil=>rfl
    |cons _ _=>rw[h2] at this;simp at this
   |cons v r=>
    cases h2:IY d.t x m with
    |nil=>
     have:(IY d.t x n).length=(IY d.t x m).length:=by rw[FA,FA]
     rw[h1,h2] at this;simp at this
    |cons v' r' =>
     rw[h1,h2] at hu
     simp only[AN,mS] at hu
     exact hu.1
theorem lD:∀ (cs:List CT) (x:HT cs) {E E2:Env} {n m:Nat},(∀ k,k<cnts cs->E.nm (n+k)=E2.nm (m+k))->AN E (outSVs cs x n)=AN E2 (outSVs cs x m)
 | [],_,_,_,_,_,_=>rfl
 |d::r,x,E,E2,n,m,h=>by
  simp only[outSVs,AN]
  rw[AOJ d _ (fun k hk=>h k (by simp [cnts];omega)),lD r _ (n:=n+d.cnt) (m:=m+d.cnt) (fun k hk=>by rw[O1,O1];exact h _ (by simp [cnts];omega))]
theorem AAQ {l l2:List SV} {E E2:Env} (h:AN E l=AN E2 l2):(UC l).den E=(UC l2).den E2:=by
 match l,l2 with
 | [],[]=>rfl
 | [],_::_=>simp [AN] at h
 |_::_,[]=>simp [AN] at h
 | [v],[v2]=>simp only[AN,mS] at h;exact h.1
 | [v],_::_::_=>simp [AN] at h
 |_::_::_,[v]=>simp [AN] at h
 |_::_::_,_::_::_=>simp only[UC,SV.den,h]
theorem ARH {l:List SV} {E:Env} {L:AL} (h:L7 E L l):(UC l).wf E L:=by
 match l with
 | []=>exact h
 | [v]=>exact h.1
 |_::_::_=>exact h
theorem CZ {AR:Nat->Option AX} {base n:Nat} (h:JI AR base n=true):∀ j,j<n->AR (base+j)=some .L5:=by
 intro j hj
 simp only[JI,LP,pV] at h
 have:=h j hj
 split at this
 ·assumption
 ·cases this
theorem nI (j:Nat):∀ (u:C7) (L:AL) (o:Option AX) {e:AX},(∀ e,o=some e->look L j=some e)->j<L.length->AG1 j u o=some e->look (AK L u) j=some e
 | [],L,o,e,ho,_,h=>ho e h
 |(n,f)::r,L,o,e,ho,hj,h=>by
  refine nI j r (DK L (n,f)) _ (fun e' h' => ?_) (by rw[GN];exact hj) h
  split at h'
  ·rename_i hn
   subst hn
   simp only[BA] at h'
   subst h'
   rw[BC hj,AA rfl]
  ·rename_i hn
   have:=ho e' h'
   by_cases hq:n<L.length
   ·rw[BC hq,AD (fun he=>hn he.symm)];exact this
   ·unfold DK
    rw[UX (by simpa using hq)]
    exact this
theorem ARI {E:Env} {k o:Nat} (h:E.nm k=E.nm o) (v:SV):(zJ k o v).den E=v.den E:=by
 cases v with
 |NV j=>
  simp only[zJ]
  split
  ·rename_i hj;subst hj;simp only[SV.den,h]
  ·rfl
 |_=>rfl
theorem AW2 {E:Env} {L:AL} {k o:Nat} (h:Al L o) {v:SV} (hv:v.wf E L):(zJ k o v).wf E L:=by
 cases v with
 |NV j=>
  simp only[zJ]
  split
  ·exact h
  ·exact hv
 |_=>exact hv
theorem dC (E:Env) (i:Nat):E.set i (E.nm i)=E:=by
 refine L9 (fun k=> ?_) rfl (fun _=>rfl)
 by_cases hk:k=i
 ·subst hk;rw[Env.EZ]
 ·exact E.HY _ hk
theorem AS.X5 {c:EC TB} {G:Nat->Prop} {w:World} {E:Env} {L:AL} (h:AS c G w E L) {k o:Nat} {t:Ty} {xs:List t.T} (hk:look L k=some (.row t xs)) (ho:look L o=some .dead) (he:E.nm k=E.nm o):
  AS c G w E (DK (DK L (k,.dead)) (o,.row t xs)):=by
 have hkl:=AQ hk
 have hol:=AQ ho
 have CU:o≠k:=by intro hx;subst hx;rw[hk] at ho;cases ho
 have h1:=h.kill hkl
 have C1:∀ b,(AX.row t xs).own (E.nm o)=some b->(AX.row t xs).ow E k b:=fun b hb=> .inl (by rw[he];exact hb)
 have h2:=h1.change (i:=o) (e' := .row t xs) (m:=E.nm o) (w' :=w) (by rw[GN];exact hol) (.refl _) (EY _) (fun _=>rfl) rfl (fun _ _ _=>rfl)
  (fun b hb=>⟨(h.QU hk (C1 b hb)).2.1,(h.QU hk (C1 b hb)).1⟩)
  (fun n f hn hf b hb hx=>by
   rw[BC hkl] at hf
   by_cases hnk:n=k
   ·rw[AA hnk] at hf
    simp only[BA] at hf
    subst hf
    rcases hb with hb|⟨hb,_⟩|⟨hb,_⟩ <;> cases hb
   ·rw[AD hnk] at hf
    exact h.inj n k f _ b hnk hf hk hb (C1 b hx))
  (fun _=>by
   have:=h.MK k _ hk
   rw[he] at this
   exact this)
 rw[dC] at h2
 exact h2
theorem AS.A2S {c:EC TB} {G:Nat->Prop} {w:World} {E:Env} {L:AL} (h:AS c G w E L) {i:Nat} {cs kZ :List SV} (hi:look L i=some (.box cs)) (hd:AN E kZ =AN E cs) (hw:L7 E (DK L (i,.box kZ)) kZ):
  AS c G w E (DK L (i,.box kZ)):=by
 obtain⟨h1,h2,h3,h4,⟨ty,h5⟩,h6⟩:=h.MK i _ hi
 have:=h.change (i:=i) (e' := .box kZ) (m:=E.nm i) (w' :=w) (AQ hi) (.refl _) (EY _) (fun _=>rfl) rfl (fun _ _ _=>rfl)
  (fun b hb=>by simp only[AX.own,BA] at hb;subst hb;exact⟨h4,h3⟩)
  (fun k f hk hf b hb he=>h.inj k i f (.box cs) b hk hf hi hb (.inl (by simpa [AX.own] using he)))
  (fun _=>by rw[dC];exact⟨h1,h2,h3,h4,⟨ty,by rw[hd];exact h5⟩,hw⟩)
 rw[dC] at this
 exact this
theorem AAR {c:EC TB} {G:Nat->Prop} {w:World} {E:Env} {L:AL} (h:AS c G w E L) {k o i:Nat} {t:Ty} {xs:List t.T} {cs:List SV} (hk:look L k=some (.row t xs)) (ho:look L o=some .dead) (hi:look L i=some (.box cs)) (he:E.nm k=E.nm o):
  AS c G w E (AK L [(k,.dead),(o,.row t xs),(i,.box (cs.map (zJ k o)))])/\∀ n,Al L n->Al (AK L [(k,.dead),(o,.row t xs),(i,.box (cs.map (zJ k o)))]) n:=by
 have h1:=h.X5 hk ho he
 have gS:i≠k:=by intro hx;subst hx;rw[hk] at hi;cases hi
 have hio:i≠o:=by intro hx;subst hx;rw[ho] at hi;cases hi
 have hi1:look (DK (DK L (k,.dead)) (o,.row t xs)) i=some (.box cs):=by
  rw[BC (by rw[GN];exact AQ ho),AD hio,BC (AQ hk),AD gS];exact hi
 have pP:∀ n,Al (DK (DK L (k,.dead)) (o,.row t xs)) n->Al (DK (DK (DK L (k,.dead)) (o,.row t xs)) (i,.box (cs.map (zJ k o)))) n:=fun n hn=>BZ rfl n hn
 have A03:∀ n,Al L n->Al (DK (DK L (k,.dead)) (o,.row t xs)) n:=fun n hn=>BZ rfl n (BZ rfl n hn)
 have lE:AN E (cs.map (zJ k o))=AN E cs:=by
  rw[FO,FO,VH]
  apply WB
  intro v _
  exact ARI he v
 have sA:=(h.MK i _ hi).2.2.2.2.2
 refine⟨h1.A2S hi1 lE (B0.2 fun v hv=> ?_),fun n hn=>pP n (A03 n hn)⟩
 obtain⟨u,hu,rfl⟩:=DD.1 hv
 refine AW2 (pP o (A03 o ⟨_,ho,rfl⟩)) ?_
 exact (Y_ (fun n hn=>pP n (A03 n hn)) (fun _ _=>rfl) u (B0.1 sA u hu)).1
theorem AJD {c:EC TB} {w:World} {E:Env} {L:AL} {u:C7} (h:Hd c w E (AK L u)) {k o i:Nat} (he:E.nm k=E.nm o) (hk:k<L.length) (ho:o<L.length) (hi:i<L.length):
  Hd c w E (AK L (uI k o i u))/\∀ n,Al (AK L u) n->Al (AK L (uI k o i u)) n:=by
 unfold uI
 split
 ·rename_i t xs cs h1 h2 h3
  obtain⟨G,hG⟩:=h
  obtain⟨r1,r2⟩:=AAR hG (nI k u L none (fun _ hx=>by cases hx) hk h1) (nI o u L none (fun _ hx=>by cases hx) ho h2) (nI i u L none (fun _ hx=>by cases hx) hi h3) he
  rw[BQ]
  exact⟨⟨G,r1⟩,r2⟩
 ·exact⟨h,fun _ hn=>hn⟩
theorem gT {c:EC TB} {w:World} {E:Env} {L:AL} {base:Nat} {nes:List NE} {on:List Nat} (hon:∀ i∈on,i<L.length):∀ (pins:List (Nat×Nat×Nat×Nat)) (u:C7),Hd c w E (AK L u)→
  (∀ q∈pins,base+q.2.1<L.length/\∀ o∈on,nes[q.2.2.1]? =some (.whole o)->E.nm (base+q.2.1)=E.nm o)→
  Hd c w E (AK L (VK base nes on pins u))/\∀ n,Al (AK L u) n->Al (AK L (VK base nes on pins u)) n
 | [],u,h,_=>⟨h,fun _ hn=>hn⟩
 |(a,b,j,jb)::r,u,h,hp=>by
  unfold VK
  obtain⟨p1,p2⟩:=hp _ (by simp:(a,b,j,jb)∈(a,b,j,jb)::r)
  split
  ·rename_i o i h1 h2
   split
   ·rename_i hc
    simp only[ID,ALG] at hc
    obtain⟨q1,q2⟩:=AJD h (p2 o hc.1 h1) p1 (hon o hc.1) (hon i hc.2)
    obtain⟨r1,r2⟩:=gT hon r _ q1 (fun q hq=>hp q (by simp [hq]))
    exact⟨r1,fun n hn=>r2 n (q2 n hn)⟩
   ·exact gT hon r _ h (fun q hq=>hp q (by simp [hq]))
  ·exact gT hon r _ h (fun q hq=>hp q (by simp [hq]))
set_option maxHeartbeats 1000000 in
theorem AAS {P:Program} {fi:FnI} {base:Nat} {AR:Nat->Option AX} {args us:List SV} {md:PM} (wD:md≠ .own) (hus:WG AR fi.sh args=some us) {a:MQ (HT fi.ps)} (hp:KF md AR fi.ps us=some a)
  {is:List Nat} (hbk:U1 a.nes fi.bk=some is)
  (hck:(okA a && JI AR base (cnts fi.rs+WH fi.os) && (is.length==fi.os.length) && fi.os.all okO && (decide is.Nodup && is.all (fun i=>a.on.contains i)) && ARE fi && AM3 fi AR args a.nes a.on)=true)
  {r:HT (fi.rs++fi.os)} (hr:fi.F a.x=some r) (A2T:md= .iG\/aO (fi.rs++fi.os) r=true\/(fi.rs++fi.os).all CT.good=true) {f:FuncId} (hc:CallsV P TB f fi)
  {L:AL} (CD:∀ n e,AR n=some e->look L n=some e) {c:EC TB} {w:World} {E:Env} (hh:Hd c w E L) (hw:L7 E L args):
  Calls P f (AN E args).toArray w (fun e w' =>∃ E',e= .returned ((UC (outSVs fi.rs (HT.left fi.rs fi.os r) base)).den E')∧
   Hd c w' E' (AK L (VK base a.nes a.on fi.pin (a.DG++(ET fi.rs (HT.left fi.rs fi.os r) base++HZ fi.os (HT.right fi.rs fi.os r) (base+cnts fi.rs) is))))∧
   (∀ n,Al L n->E'.nm n=E.nm n/\Al (AK L (VK base a.nes a.on fi.pin (a.DG++(ET fi.rs (HT.left fi.rs fi.os r) base++HZ fi.os (HT.right fi.rs fi.os r) (base+cnts fi.rs) is)))) n)/\E'.ds=E.ds∧
   (UC (outSVs fi.rs (HT.left fi.rs fi.os r) base)).wf E' (AK L (VK base a.nes a.on fi.pin (a.DG++(ET fi.rs (HT.left fi.rs fi.os r) base++HZ fi.os (HT.right fi.rs fi.os r) (base+cnts fi.rs) is))))):=by
 obtain⟨G,hG⟩:=hh
 have AG3:∀ i j,AFZ AR i=some j->look L i=some (.box [.loc j 0])/\Al L j:=by
  intro i j h
  unfold AFZ at h
  split at h
  ·rename_i j' hl
   simp only[BA] at h;subst h
   exact⟨CD _ _ hl,(hG.MK i _ (CD _ _ hl)).2.2.2.2.2.1⟩
  ·cases h
 have hw:=uH (fun i j h=>(AG3 i j h).2) _ _ _ hus hw
 simp only[ID,WN,JL,LP (p:=fun i=>a.on.contains i),ALG] at hck
 obtain⟨⟨⟨⟨⟨⟨QV,DZ⟩,hlen⟩,AW3⟩,A00,A2U⟩,A04⟩,A2V⟩:=hck
 obtain⟨G1,G2,t1,t2,t3,t4,t5,t6,t7,t8,t9,t10,t11⟩:=hG.take wD CD hp QV hw
 have AAT:=fun j hj=>CD _ _ (CZ DZ j hj)
 obtain⟨n1,n2⟩:=c_ wD _ _ _ hp
 have A05:∀ k,look L k=some .L5->k∉a.on/\k∉a.fz.map (·.1):=by
  intro k hk
  refine⟨fun hx=> ?_,fun hx=> ?_⟩
  ·obtain⟨e,hl,he⟩:=n2 k hx
   have:=CD _ _ hl;rw[hk] at this;cases this;cases he
  ·obtain⟨q,hq,rfl⟩:=DD.1 hx
   obtain⟨t,ys,e,hl,ho,_⟩:=n1 q hq
   have:=CD _ _ hl;rw[hk] at this;cases this;cases ho
 have AG4:∀ j,j<cnts fi.rs+WH fi.os->look (AK L a.DG) (base+j)=some .L5:=by
  intro j hj
  obtain⟨q1,q2⟩:=A05 _ (AAT j hj)
  rw[t7 _ q1 q2];exact AAT j hj
 have A2W:∀ b,G2 b->b<w.heap.size:=by
  intro b hb
  rcases t5 b hb with hx|⟨n,e,hx,hxb⟩
  ·exact t1.y9 b hx
  ·exact t1.kI hx hxb
 have AW4:=PS.io (⟨w,fun b=>b∈CF fi.ps a.x (EM E a.nes),G2⟩:EC TB) _ t9 (fun b hb=>fun hx=>hx.2 hb)
 have ARJ:(⟨w,fun b=>b∈CF fi.ps a.x (EM E a.nes),G2⟩:EC TB).Tab:=fun q hq=>by
  obtain⟨o1,ty,fz,o2⟩:=t1.tab q hq
  refine⟨⟨tG o1.1 t1.size,fun hy=>(PS.wE _ t9 hy).1 o1⟩,ty,fz, ?_⟩
  show w.heap[q.1]? =_
  rw[t1.old q.1 o1];exact o2
 obtain⟨AM6,lE⟩:=X1 E _ _ _ hp
 simp only[AM3,ID,JL] at A2V
 obtain⟨⟨pp1,pp2⟩,pp3⟩:=A2V
 let msX:Nat->Nm:=fun k=>match (lC fi.sh args).find? (fun q=>q.1==k) with
  |some q=>E.nm q.2
  |none=>EM E a.nes k
 have AOK:∀ k,k<cnts fi.ps->msX k=EM E a.nes k:=by
  intro k hk
  have:(lC fi.sh args).find? (fun q=>q.1==k)=none:=by
   rw[List.find?_eq_none]
   intro q hq he
   have:=LP.1 pp1 q hq
   simp only[ID,JL] at this
   have zH :q.1=k:=by simpa using he
   omega
  show (match (lC fi.sh args).find? (fun q=>q.1==k) with|some q=>E.nm q.2|none=>EM E a.nes k)=_
  rw[this]
 have A2X:∀ q∈lC fi.sh args,msX q.1=E.nm q.2:=by
  intro q hq
  have key:∀ (l:List (Nat×Nat)),(l.map (·.1)).Nodup->q∈l->l.find? (fun z=>z.1==q.1)=some q:=by
   intro l
   induction l with
   |nil=>intro _ h;cases h
   |cons z r ih=>
    intro hn hz
    simp only[MN,WD] at hn
    rcases GA.1 hz with rfl|hz
    ·simp
    ·have CU:(z.1==q.1)=false:=by
      rw[beq_eq_false_iff_ne]
      intro he
      exact hn.1 (he ▸ DD.2 ⟨q,hz,rfl⟩)
     rw[List.find?_cons,CU]
     exact ih hn.2 hz
  show (match (lC fi.sh args).find? (fun z=>z.1==q.1) with|some q=>E.nm q.2|none=>EM E a.nes q.1)=_
  rw[key _ pp2 hq]
 have hX:CF fi.ps a.x msX=CF fi.ps a.x (EM E a.nes):=sD _ AOK
 have hpp:A2P fi.qD (CF fi.ps a.x (EM E a.nes)) w msX:=by
  intro p hp'
  obtain⟨q,hq,hq2⟩:=List.any_eq_true.1 (LP.1 pp3 p hp')
  simp only[ID,WN] at hq2
  obtain⟨hq1,hq2⟩:=hq2
  split at hq2
  rotate_left
  ·cases hq2
  rename_i j hj
  obtain⟨b1,b2⟩:=AG3 _ _ hj
  obtain⟨e1,e2,e3,e4,⟨ty,e5⟩,_⟩:=hG.MK _ _ b1
  have hmp:=A2X q hq
  rw[hq1] at hmp
  have XU:q.2∉a.on:=by
   have:=LP.1 pp1 q hq
   simp only[ID,JL,TZ,ACC,aY] at this
   exact this.2
  have hnf:q.2∉a.fz.map (·.1):=by
   intro hx
   obtain⟨z,hz,he⟩:=DD.1 hx
   obtain⟨n1',_⟩:=c_ wD _ _ _ hp
   obtain⟨t,ys,e,hl,ho,_⟩:=n1' z hz
   have:=CD _ _ hl
   rw[he,b1] at this
   cases this;cases ho
  have A06:look (AK L a.DG) q.2=some (.box [.loc j 0]):=by rw[t7 _ XU hnf];exact b1
  have XE:(E.nm q.2).CE∉CF fi.ps a.x (EM E a.nes):=fun hx=>t11 _ hx q.2 _ A06 (.inl rfl)
  unfold gQ at hq2
  split at hq2
  rotate_left
  ·cases hq2
  rename_i i' LQ
  have mK:i' =j:=by simpa using hq2
  subst mK
  have DO:p.2<cnts fi.ps:=by
   rw[<-AM6]
   rcases IA p.2 a.nes.length with h|h
   ·exact h
   ·rw[UX h] at LQ;cases LQ
  have hm2:msX p.2=E.nm i' :=by
   rw[AOK _ DO]
   simp only[EM,LQ,NE.nm]
  refine⟨by rw[hmp];exact T3 e5,by rw[hmp];exact XE, ?_⟩
  refine⟨(E.nm q.2).arr (AN E [.loc i' 0]),ty,(0,0),by rw[hmp];exact e5, ?_⟩
  rw[hmp,hm2,e2]
  unfold Nm.arr
  rw[vH,J_,V_ (EY _)]
  simp [AN,SV.den]
 have AM7:=hc.2 a.x r hr w G2 msX A2W (by rw[hX];exact PS.congr _ AW4 fun k hk=>(AOK k hk).symm) (by rw[hX];exact t10) (by rw[hX];exact ARJ) (by rw[hX];exact hpp)
 have A2Y:AN (IG msX) (foldA fi.sh (outSVs fi.ps a.x 0))=AN E args:=by
  refine gR _ _ _ _ hus (lE (IG msX) 0 fun k hk=> ?_) fun q hq=> ?_
  ·rw[KK];exact AOK k hk
  ·exact A2X q hq
 rw[A2Y,hX] at AM7
 refine AM7.mono ?_
 rintro e w' ⟨G',ms',rfl,dD,AYM,CP,hgg,hgn,hgi,AW5,AW1,XF,A2Z⟩
 have A5K:∀ (bk is:List Nat),U1 a.nes bk=some is->bk.map msX=bk.map (EM E a.nes):=by
  intro bk
  induction bk with
  |nil=>intro is _;rfl
  |cons q rr ihq=>
   intro is h
   simp only[U1] at h
   split at h
   ·rename_i i hi
    split at h
    ·rename_i l hl
     have hq:q<cnts fi.ps:=by
      rw[<-AM6]
      rcases IA q a.nes.length with h|h
      ·exact h
      ·rw[UX h] at hi;cases hi
     simp only[MN]
     rw[AOK q hq,ihq _ hl]
    ·cases h
   ·cases h
 rw[A5K _ _ hbk] at XF
 let G'' :Nat->Prop:=fun b=>G1 b\/(G' b/\(w.heap.size<=b\/b∈CF fi.ps a.x (EM E a.nes)))
 have hio:∀ b∈CF fi.ps a.x (EM E a.nes),¬c.Old b/\¬G2 b/\b<w.heap.size:=fun b hb=>PS.wE _ t9 hb
 have A07:∀ b,G1 b->w'.heap[b]? =w.heap[b]? :=fun b hb=>CP b (t1.y9 b hb) (fun hx=>(hio b hx).2.1 (t3 b hb))
 have hold:∀ b,c.Old b->w'.heap[b]? =w.heap[b]? :=fun b hb=>CP b (tG hb.1 t1.size) (fun hx=>(hio b hx).1 hb)
 have ACS:AS c G'' w' E (AK L a.DG):=by
  refine t1.after dD AYM hold A07 (fun b hb=> .inl hb) ?_ ?_ ?_
  ·rintro b (hb|⟨hb,_⟩)
   ·exact tG (t1.y9 b hb) AYM
   ·exact hgi b hb
  ·rintro b (hb|⟨hb,hx⟩)
   ·exact .inl hb
   ·right
    rintro⟨WU,uJ⟩
    rcases hx with hx|hx
    ·have:=t1.size;omega
    ·exact (hio b hx).1 ⟨WU,uJ⟩
  ·intro n e b he hb
   have DO:=t1.kI he hb
   have ARG:b∉CF fi.ps a.x (EM E a.nes):=fun hx=>t11 b hx n e he hb
   refine⟨CP b DO ARG, ?_⟩
   rintro (hx|⟨hx,hy⟩)
   ·exact (t1.QU he hb).1 hx
   ·rcases hy with hy|hy
    ·omega
    ·exact ARG hy
 have A5L:∀ b,¬(EC.mk (TB:=TB) w (fun b=>b∈CF fi.ps a.x (EM E a.nes)) G2).Old b->¬c.Old b:=by
  rintro b hb hx
  refine hb ⟨tG hx.1 t1.size,fun hy=>(hio b hy).1 hx⟩
 have A5M:PS c G'' w' (fi.rs++fi.os) r ms' :=by
  refine PS.cfg A5L _ ?_
  by_cases ZD:(fi.rs++fi.os).all CT.good=true
  ·refine PS.good ?_ _ ZD AW5
   rintro b (hb|⟨hb,_⟩)
   ·exact hgg b (t3 b hb)
   ·exact hb
  rcases A2T with A5N|hgv|hx
  ·have e12:=t4 A5N
   have:G'' =G' :=by
    funext b
    simp only[eq_iff_iff]
    refine⟨?_,fun hb=> ?_⟩
    ·rintro (hb|⟨hb,_⟩)
     ·exact hgg b (t3 b hb)
     ·exact hb
    ·rcases hgn b hb with hx|hx
     ·rw[e12] at hx;exact .inl hx
     ·exact .inr ⟨hb,hx⟩
   rw[this];exact AW5
  ·refine PS.AM4 ?_ _ hgv AW5
   rintro b (hb|⟨hb,_⟩)
   ·exact hgg b (t3 b hb)
   ·exact hb
  ·exact absurd hx ZD
 have AOL:∀ b∈CF (fi.rs++fi.os) r ms',JH E (AK L a.DG) b:=by
  intro b hb n e he heb
  have h1:=(PS.wE _ AW5 hb).1
  have DO:=t1.kI he heb
  exact h1 ⟨DO,fun hx=>t11 b hx n e he heb⟩
 obtain⟨A5O,A5P⟩:=PS.split (c:=c) (G:=G'') (w:=w') fi.rs fi.os r ms'
 obtain⟨A30,A5Q⟩:=A5O.1 A5M
 rw[A5P] at AW1 AOL
 have X0:=RF.1 AW1
 obtain⟨a1,a2,a3⟩:=AS.nE fi.rs (HT.left fi.rs fi.os r) (n:=base) (ms:=ms') ACS (fun j hj=>AG4 j (by omega)) A30 X0.1 (fun b hb=>AOL b (FG.2 (.inl hb)))
 have AOI:∀ k,Al (AK L a.DG) k->Al (AK (AK L a.DG) (ET fi.rs (HT.left fi.rs fi.os r) base)) k/\(E.put base (cnts fi.rs) ms').nm k=E.nm k:=by
  intro k hk
  by_cases hkb:base<=k/\k<base+cnts fi.rs
  ·exfalso
   have:=AG4 (k-base) (by omega)
   have e:base+(k-base)=k:=by omega
   rw[e] at this
   exact E3 this hk
  ·obtain⟨f,hf1,tM⟩:=hk
   exact⟨⟨f,by rw[(a2 k).2 hkb];exact hf1,tM⟩,Env.WT _ _ _ _ (by omega)⟩
 have s2:=nH E _ _ hbk
 simp only[okA,ID,JL] at QV
 have X4:∀ i∈is,look (AK (AK L a.DG) (ET fi.rs (HT.left fi.rs fi.os r) base)) i=some .dead/\¬(base<=i/\i<base+cnts fi.rs):=by
  intro i hi
  have hd:=t8 i (A2U i hi)
  have hb:¬(base<=i/\i<base+cnts fi.rs):=by
   intro hx
   have:=AG4 (i-base) (by omega)
   have e:base+(i-base)=i:=by omega
   rw[e,hd] at this;cases this
  exact⟨by rw[(a2 i).2 hb];exact hd,hb⟩
 have shift:∀ (cs:List CT) (a b:Nat),(MR cs (a+b))=(MR cs b).map (fun k=>a+k):=by
  intro cs
  induction cs with
  |nil=>intros;rfl
  |cons e s ihs=>
   intro a b
   simp only[MR]
   rw[O1,ihs]
   simp
 obtain⟨E',b1,b2,b3,b4,b5⟩:=AS.wI fi.os (HT.right fi.rs fi.os r) (n:=base+cnts fi.rs) (ms:=fun k=>ms' (cnts fi.rs+k)) is a1 AW3 hlen
  A00
  (by
   intro j hj
   rw[(a2 _).2 (by omega),O1]
   exact AG4 _ (by omega))
  (fun i hi=>(X4 i hi).1)
  (by
   have e1:(MR fi.os 0).map (fun k=>ms' (cnts fi.rs+k))=is.map E.nm:=by
    rw[<-s2,←XF]
    have:=shift fi.os (cnts fi.rs) 0
    rw[NP] at this
    rw[this,VH];rfl
   rw[e1]
   apply WB
   intro i hi
   exact (Env.WT _ _ _ _ (by have:=(X4 i hi).2;omega)).symm)
  A5Q X0.2.1
  (by
   intro b hb k f hf RH
   by_cases hkb:base<=k/\k<base+cnts fi.rs
   ·
    have:b∈CF fi.rs (HT.left fi.rs fi.os r) ms' :=by
     have key:∀ (cs:List CT) (x:HT cs) {E:Env} {L:AL} {n:Nat} {ms:Nat->Nm},AS c G'' w' E L->(∀ j,j<cnts cs->look L (n+j)=some .L5)->PS c G'' w' cs x ms->(CF cs x ms).Nodup->(∀ b∈CF cs x ms,JH E L b)→
       ∀ k f b,n<=k/\k<n+cnts cs->look (AK L (ET cs x n)) k=some f->f.ow (E.put n (cnts cs) ms) k b->b∈CF cs x ms:=by
      intro cs
      induction cs with
      |nil=>intro x E L n ms _ _ _ _ _ k f b hk;simp [cnts] at hk;omega
      |cons d rr ihh=>
       intro x E L n ms hH hl hPS hND hNO k f b hk hf RH
       have AW6:=RF.1 hND
       obtain⟨c1,c2,c3,c4⟩:=hH.AM1 d (HT.hd d rr x) (n:=n) (ms:=ms) (fun j hj=>hl j (by simp [cnts];omega)) hPS.1 AW6.1 (fun b hb=>hNO b (FG.2 (.inl hb)))
       have eu:AK L (ET (d::rr) x n)=AK (AK L (PX d (HT.hd d rr x) n)) (ET rr (HT.tl d rr x) (n+d.cnt)):=by
        simp only[ET,BQ]
       rw[eu] at hf
       have lB:∀ j,j<cnts rr->look (AK L (PX d (HT.hd d rr x) n)) (n+d.cnt+j)=some .L5:=by
        intro j hj
        rw[(c2 _).2 (by omega),O1]
        exact hl _ (by simp [cnts];omega)
       have AW7:∀ b∈CF rr (HT.tl d rr x) (fun k=>ms (d.cnt+k)),JH (E.put n d.cnt ms) (AK L (PX d (HT.hd d rr x) n)) b:=by
        intro b hb k f hf RH
        by_cases hk:n<=k/\k<n+d.cnt
        ·exact AW6.2.2 b (c4 k f b hk hf RH) b hb rfl
        ·rw[(c2 k).2 hk] at hf
         rw[AX.qC (by omega)] at RH
         exact hNO b (FG.2 (.inr hb)) k f hf RH
       obtain⟨d1,d2,d3⟩:=AS.nE rr (HT.tl d rr x) (n:=n+d.cnt) (ms:=fun k=>ms (d.cnt+k)) c1 lB hPS.2 AW6.2.1 AW7
       simp only[cnts] at hk RH
       rw[AX.ACQ (m:=ms (k-n)) (by
        have e:k=n+(k-n):=by omega
        conv=>lhs;rw[e]
        rw[Env.lA _ _ _ _ (by omega)]) (by
        have e:k=n+(k-n):=by omega
        conv=>lhs;rw[e]
        rw[Env.AM0 _ _ _ _ (by omega)])] at RH
       by_cases PW:n+d.cnt<=k
       ·refine FG.2 (.inr (ihh (HT.tl d rr x) c1 lB hPS.2 AW6.2.1 AW7 k f b ⟨PW,by omega⟩ hf ?_))
        have e:k=n+d.cnt+(k-(n+d.cnt)):=by omega
        rw[e,AX.cZ (by omega)]
        have e2:d.cnt+(k-(n+d.cnt))=k-n:=by omega
        rw[e2];exact RH
       ·rw[(d2 k).2 (by omega)] at hf
        refine FG.2 (.inl (c4 k f b ⟨hk.1,by omega⟩ hf ?_))
        have e:k=n+(k-n):=by omega
        rw[e,AX.cZ (by omega)];exact RH
     exact key fi.rs _ ACS (fun j hj=>AG4 j (by omega)) A30 X0.1 (fun b hb=>AOL b (FG.2 (.inl hb))) k f b hkb hf RH
    exact X0.2.2 b this b hb rfl
   ·rw[(a2 k).2 hkb] at hf
    rw[AX.qC (by omega)] at RH
    exact AOL b (FG.2 (.inr hb)) k f hf RH)
 have eu:AK L (a.DG++(ET fi.rs (HT.left fi.rs fi.os r) base++HZ fi.os (HT.right fi.rs fi.os r) (base+cnts fi.rs) is))=
   AK (AK (AK L a.DG) (ET fi.rs (HT.left fi.rs fi.os r) base)) (HZ fi.os (HT.right fi.rs fi.os r) (base+cnts fi.rs) is):=by
  rw[BQ,BQ]
 have A08:∀ k,k<cnts fi.rs->E'.nm (base+k)=ms' k:=by
  intro k hk
  have PB:Al (AK (AK L a.DG) (ET fi.rs (HT.left fi.rs fi.os r) base)) (base+k):=(a2 _).1 ⟨by omega,by omega⟩
  rw[(b2 _ PB).1,Env.lA _ _ _ _ hk]
 have A5R:∀ k,Al L k->E'.nm k=E.nm k:=fun k hk=>by
  obtain⟨q1,q2⟩:=AOI k (t6 k hk)
  exact ((b2 k q1).1).trans q2
 obtain⟨z1,z2⟩:=gT (c:=c) (w:=w') (E:=E') (L:=L) (base:=base) (nes:=a.nes) (on:=a.on) (fun i hi=>by obtain⟨e,he,_⟩:=n2 i hi;exact AQ (CD _ _ he)) fi.pin (a.DG++(ET fi.rs (HT.left fi.rs fi.os r) base++HZ fi.os (HT.right fi.rs fi.os r) (base+cnts fi.rs) is))
  ⟨G'',by rw[eu];exact b1⟩ (by
   intro q hq
   have hpm:=LP.1 A04 q hq
   simp only[ALG] at hpm
   have uK:=SJ fi.os (cnts fi.rs) (cnts fi.rs) 0 0
   rw[NP] at uK
   rw[uK] at hpm
   obtain⟨q',QW,he⟩:=DD.1 hpm
   have hb5:=b5 q' QW
   simp only[DH] at he
   rw[O1,he.2] at hb5
   have XE:∀ (cs:List CT) (x y:Nat) (q:Nat×Nat),q∈dB cs x y->y<=q.2/\q.2<y+WH cs:=by
    intro cs
    induction cs with
    |nil=>intro x y q h;cases h
    |cons d r ih=>
     intro x y q h
     simp only[dB] at h
     cases hp:d.ptr with
     |true=>
      simp only[hp] at h
      simp only[WH,hp]
      rcases FG.1 h with h|h
      ·obtain⟨j,hj,rfl⟩:=DD.1 h
       have:=pV.1 hj
       simp only;omega
      ·have:=ih _ _ _ h;omega
     |false=>
      simp only[hp] at h
      simp only[WH,hp]
      have:=ih _ _ _ h;omega
   have hm:=XE _ _ _ _ QW
   refine⟨AQ (AAT q.2.1 (by omega)),fun o hon ho=> ?_⟩
   obtain⟨e,wG,he2⟩:=n2 o hon
   have hql:q.2.2.1<cnts fi.ps:=by
    rw[<-AM6]
    rcases IA q.2.2.1 a.nes.length with h|h
    ·exact h
    ·rw[UX h] at ho;cases ho
   rw[hb5,A5R o ⟨e,CD _ _ wG,he2⟩,he.1,A2Z q hq,AOK _ hql]
   simp [EM,ho,NE.nm])
 refine⟨E', ?_,z1,fun k hk=> ?_,b3, ?_⟩
 ·congr 1
  refine AAQ (lD _ _ fun k hk=> ?_)
  rw[A08 k hk]
  simp [IG]
 ·obtain⟨q1,q2⟩:=AOI k (t6 k hk)
  obtain⟨q3,q4⟩:=b2 k q1
  exact⟨q3.trans q2,z2 k (by rw[eu];exact q4)⟩
 ·refine ARH (L8 (fun k hk=>z2 k (by rw[eu];exact (b2 k hk).2)) (fun k hk=>(b2 k hk).1) _ a3).1
theorem wJ {P:Program} {fi:FnI} {base:Nat} {AR:Nat->Option AX} {args:List SV} {v:SV} {DG:C7} (h:sC fi base AR args (fun v u=>some (v,u))=some (v,DG)) {f:FuncId} (hc:CallsV P TB f fi)
  {L:AL} (CD:∀ n e,AR n=some e->look L n=some e) {c:EC TB} {w:World} {E:Env} (hh:Hd c w E L) (hw:L7 E L args):
  Calls P f (AN E args).toArray w (fun e w' =>∃ E',e= .returned (v.den E')/\Hd c w' E' (AK L DG)/\(∀ n,Al L n->E'.nm n=E.nm n/\Al (AK L DG) n)/\E'.ds=E.ds/\v.wf E' (AK L DG)):=by
 unfold sC at h
 split at h
 ·cases h
 rename_i us hus
 split at h
 ·cases h
 rename_i a hp
 split at h
 ·cases h
 rename_i is hbk
 split at h
 rotate_left
 ·cases h
 rename_i hck
 rw[AEY] at h
 obtain⟨r,hr,h⟩:=h
 simp only[BA,DH] at h
 obtain⟨rfl,rfl⟩:=h
 have wD:fi.md≠ .own:=by unfold FnI.md;split <;> simp
 refine AAS wD hus hp hbk hck hr ?_ hc CD hh hw
 cases ZD:(fi.rs++fi.os).all CT.good with
 |true=>exact .inr (.inr rfl)
 |false=>left;unfold FnI.md;rw[ZD]
theorem ARK {P:Program} {fi:FnI} {base:Nat} {AR:Nat->Option AX} {args:List SV} {v:SV} {DG:C7} (h:AAO fi base AR args (fun v u=>some (v,u))=some (v,DG)) {f:FuncId} (hc:CallsV P TB f fi)
  {L:AL} (CD:∀ n e,AR n=some e->look L n=some e) {c:EC TB} {w:World} {E:Env} (hh:Hd c w E L) (hw:L7 E L args):
  Calls P f (AN E args).toArray w (fun e w' =>∃ E',e= .returned (v.den E')/\Hd c w' E' (AK L DG)/\(∀ n,Al L n->E'.nm n=E.nm n/\Al (AK L DG) n)/\E'.ds=E.ds/\v.wf E' (AK L DG)):=by
 unfold AAO at h
 split at h
 ·cases h
 rename_i us hus
 split at h
 ·cases h
 rename_i a hp
 split at h
 ·cases h
 rename_i is hbk
 split at h
 rotate_left
 ·cases h
 rename_i hck
 rw[AEY] at h
 obtain⟨r,hr,h⟩:=h
 cases hg:aO (fi.rs++fi.os) r with
 |true=>
  rw[hg] at h
  simp only[cond_true,BA,DH] at h
  obtain⟨rfl,rfl⟩:=h
  exact AAS (by simp) hus hp hbk hck hr (.inr (.inl hg)) hc CD hh hw
 |false=>
  rw[hg] at h
  exact wJ h hc CD hh hw
def OI (AR:Nat->Option AX):List CT->List SV->Nat->Option (Nat×Nat×Nat×Nat×List SV)
 |c::r,v::vs,p=>(match c.ptr,v with
  |true,.loc i off=>(match AR i with
   |some (.box cs)=>if c.t.sz<cs.length then some (p,i,off,c.t.sz,cs) else OI AR r vs (p+1)
   |_=>OI AR r vs (p+1))
  |_,_=>OI AR r vs (p+1))
 |_,_,_=>none
theorem sE {AR:Nat->Option AX}:∀ (ps:List CT) (vs:List SV) (k:Nat) {p i off n:Nat} {cs:List SV},OI AR ps vs k=some (p,i,off,n,cs)→
  k<=p/\vs[p-k]? =some (.loc i off)/\AR i=some (.box cs)
 | [],_,_,_,_,_,_,_,h=>by simp [OI] at h
 |_::_,[],_,_,_,_,_,_,h=>by simp [OI] at h
 |c::r,v::vs,k,p,i,off,n,cs,h=>by
  have step:OI AR r vs (k+1)=some (p,i,off,n,cs)->k<=p/\(v::vs)[p-k]? =some (.loc i off)/\AR i=some (.box cs):=by
   intro h'
   obtain⟨h1,h2,h3⟩:=sE r vs (k+1) h'
   refine⟨by omega, ?_,h3⟩
   rw[show p-k=(p-(k+1))+1 from by omega,zC]
   exact h2
  unfold OI at h
  split at h
  ·split at h
   ·rename_i kZ hl
    split at h
    ·simp only[BA,DH] at h
     obtain⟨rfl,rfl,rfl, -,rfl⟩:=h
     exact⟨EY _,by simp,hl⟩
    ·exact step h
   ·exact step h
  ·exact step h
def ACT (j:Nat):C7->Option (List SV)->Option (List SV)
 | [],o=>o
 |(n,e)::r,o=>ACT j r (if n=j then (match e with
  | .box cs=>some cs
  |_=>none) else o)
theorem wK (j:Nat):∀ (u:C7) (L:AL) (o:Option (List SV)) {cs:List SV},(∀ cs,o=some cs->look L j=some (.box cs))->j<L.length->ACT j u o=some cs->look (AK L u) j=some (.box cs)
 | [],L,o,cs,ho,_,h=>ho cs h
 |(n,e)::r,L,o,cs,ho,hj,h=>by
  refine wK j r (DK L (n,e)) _ (fun kZ h' => ?_) (by rw[GN];exact hj) h
  split at h'
  ·rename_i hn
   subst hn
   split at h'
   ·simp only[BA] at h'
    subst h'
    rw[BC hj,AA rfl]
   ·cases h'
  ·rename_i hn
   have:=ho kZ h'
   by_cases hq:n<L.length
   ·rw[BC hq,AD (fun he=>hn he.symm)];exact this
   ·unfold DK
    rw[UX (by simpa using hq)]
    exact this
def AAU (fi:FnI) (base:Nat) (AR:Nat->Option AX) (args:List SV) {α:Type} (K:SV->C7->Option α):Option α:=
 match (match fi.sh with
  | []=>OI AR fi.ps args 0
  |_=>none) with
 |none=>sC fi base AR args K
 |some (p,i,off,n,cs)=>
  if off+n<=cs.length/\JI AR (base+(cnts fi.rs+WH fi.os)) 1=true then
   sC fi base (fun k=>if k=i then none else if k=base+(cnts fi.rs+WH fi.os) then some (.box ((cs.drop off).take n)) else AR k) (args.set p (.loc (base+(cnts fi.rs+WH fi.os)) 0)) fun v u=>
    match ACT (base+(cnts fi.rs+WH fi.os)) u none with
    |some kZ =>if kZ.length=n then K v ([(i,.dead),(base+(cnts fi.rs+WH fi.os),.box ((cs.drop off).take n))]++(u++ [(base+(cnts fi.rs+WH fi.os),.dead),(i,.box (D_ cs off kZ))])) else none
    |none=>none
  else none
def AM8 (d:Bool) (fi:FnI) (base:Nat) (AR:Nat->Option AX) (args:List SV) {α:Type} (K:SV->C7->Option α):Option α:=match d with
 |true=>AAO fi base AR args K
 |false=>AAU fi base AR args K
end Go.V3
namespace Go.V3
open Go
variable {TB:Tb}
def uL (arr:Array Value) (off:Nat):List Value->Array Value
 | []=>arr
 |v::r=>uL (arr.setIfInBounds off v) (off+1) r
theorem SK (vs:List Value):∀ (arr:Array Value) (off:Nat),(uL arr off vs).size=arr.size:=by
 induction vs with
 |nil=>intros;rfl
 |cons v r ih=>intro arr off;simp [uL,ih]
theorem KQ (vs:List Value):∀ (arr:Array Value) (off i:Nat),(uL arr off vs)[i]? =if off<=i/\i<off+vs.length/\i<arr.size then vs[i-off]? else arr[i]? :=by
 induction vs with
 |nil=>intro arr off i;rw[AD (by simp;omega)];rfl
 |cons v r ih=>
  intro arr off i
  simp only[uL,ih,Array.size_setIfInBounds,AF1,O0]
  by_cases h1:i=off
  ·subst h1
   by_cases h2:i<arr.size
   ·rw[AD (by omega),AA rfl,AA h2,AA (by omega)];simp
   ·rw[AD (by omega),AA rfl,AD h2,AD (by omega),AEZ (by omega)]
  ·by_cases h3:off+1<=i/\i<off+1+r.length/\i<arr.size
   ·rw[AA h3,AA (by omega)]
    have:i-off=(i-(off+1))+1:=by omega
    rw[this];simp
   ·rw[AD h3,AD (fun h=>h1 h.symm),AD (by omega)]
theorem CJ (arr:Array Value) (off n j:Nat):(BR arr off n)[j]? =if j<n then arr[off+j]? else none:=by
 unfold BR
 rw[mR]
 split
 ·rw[cP];simp
 ·rfl
theorem aP {arr:Array Value} {o p n:Nat} {vs:List Value} (h:p+n<=o\/o+vs.length<=p):BR (uL arr o vs) p n=BR arr p n:=by
 apply WC
 intro j
 rw[CJ,CJ]
 split
 ·rw[KQ,AD (by omega)]
 ·rfl
theorem dE {arr:Array Value} {o:Nat} {vs:List Value} (h:o+vs.length<=arr.size):BR (uL arr o vs) o vs.length=vs:=by
 apply WC
 intro j
 rw[CJ]
 split
 ·rw[KQ,AA (by omega)]
  congr 1;omega
 ·rw[UX (by omega)]
theorem U2 {i j k:Nat} (h:i<j):(i+1)*k<=j*k:=vI _ h
theorem RowsIn.set {α:Type} {R:α->List Value->Prop} {sz:Nat} {arr:Array Value} {off:Nat} {xs:List α} (h:RowsIn R sz arr off xs) {k:Nat} {v:α} {vs:List Value} (hv:R v vs) (hl:vs.length=sz) (hk:k<xs.length) (ha:off+xs.length*sz<=arr.size):
  RowsIn R sz (uL arr (off+k*sz) vs) off (xs.set k v):=by
 intro i x hx
 rw[vL] at hx
 have PW:=U2 (k:=sz) hk
 rw[cS] at PW
 split at hx
 ·rename_i kJ
  subst kJ
  simp only[BA] at hx;subst hx
  have:=dE (arr:=arr) (o:=off+k*sz) (vs:=vs) (by rw[hl];omega)
  rw[hl] at this
  rw[this]
  exact hv
 ·rename_i kJ
  rw[aP]
  ·exact h i x hx
  ·rcases Nat.lt_or_gt_of_ne kJ with h1|h1
   ·right;have:=U2 (k:=sz) h1;rw[cS] at this;omega
   ·left;have:=U2 (k:=sz) h1;rw[cS] at this;omega
theorem RowsIn.append {α:Type} {R:α->List Value->Prop} {sz:Nat} {arr:Array Value} {off:Nat} {xs ys:List α} (h:RowsIn R sz arr off xs) (h2:RowsIn R sz arr (off+xs.length*sz) ys):RowsIn R sz arr off (xs++ys):=by
 intro i x hx
 by_cases hi:i<xs.length
 ·rw[WA hi] at hx;exact h i x hx
 ·rw[V_ (by omega)] at hx
  have:=h2 _ x hx
  have e:off+xs.length*sz+(i-xs.length)*sz=off+i*sz:=by
   have:xs.length+(i-xs.length)=i:=by omega
   rw[O1,←cS,this]
  rw[e] at this;exact this
theorem RowsIn.AG5 {α:Type} {R:α->List Value->Prop} {sz:Nat} {arr ZA :Array Value} {o o' :Nat} {xs:List α} (h:RowsIn R sz arr o xs) (he:BR ZA o' (xs.length*sz)=BR arr o (xs.length*sz)):RowsIn R sz ZA o' xs:=by
 intro i x hx
 have hi:i<xs.length:=by
  rcases IA i xs.length with h1|h1
  ·exact h1
  ·rw[UX h1] at hx;cases hx
 have hm:=U2 (k:=sz) hi
 rw[cS] at hm
 have e:∀ (a:Array Value) (p:Nat),BR a (p+i*sz) sz=((BR a p (xs.length*sz)).drop (i*sz)).take sz:=by
  intro a p
  apply WC
  intro j
  rw[CJ,mR]
  split
  ·rw[cP,CJ,AA (by omega),O1]
  ·rfl
 rw[e,he,←e]
 exact h i x hx
section
variable {P:Program}
theorem sF (w:World) (a:Addr) (v:Value) (k:Nat):(w.setCell a v).heap[k]? =if a.block=k then (match w.heap[k]? with
  |some (.cells c e f)=>some (.cells (if a.spot.isSome then c else c.setIfInBounds a.off v) e f)
  |o=>o) else w.heap[k]? :=by
 show (w.heap.modify a.block _)[k]? =_
 rw[Array.getElem?_modify]
 split
 ·cases w.heap[k]? with
  |none=>rfl
  |some o=>cases o <;> rfl
 ·rfl
def Flat (vs:List Value):Prop:=∀ v∈vs,(∀ c,v≠ .agg c)/\(∀ c,v≠ .tuple c)
theorem Rp.AM9 {G:Nat->Prop} {w:World} (t:Ty) (x:t.T) (vs:List Value) (h:Rp G w t x vs):Flat vs:=by
 induction t generalizing vs with
 |pair a b V7 V8=>
  obtain⟨v1,v2,rfl,h1,h2⟩:=h
  intro v hv
  rcases FG.1 hv with hv|hv
  ·exact V7 _ _ h1 v hv
  ·exact V8 _ _ h2 v hv
 |slice a=>
  obtain⟨m,rfl,_⟩:=h
  intro v hv;simp only[HA] at hv;subst hv
  exact⟨fun c h=>(by cases h),fun c h=>(by cases h)⟩
 |nf=>
  obtain⟨m,rfl⟩:=h
  intro v hv;simp only[HA] at hv;subst hv
  exact⟨fun c h=>(by cases h),fun c h=>(by cases h)⟩
 |_=>
  simp only[Rp] at h;subst h
  intro v hv;simp only[HA] at hv;subst hv
  exact⟨fun c h=>(by cases h),fun c h=>(by cases h)⟩
theorem LC {b off:Nat} {ty:TypeId} {fz:Nat×Nat} (vs:List Value):∀ (w:World) (arr:Array Value) (k:Nat),(∀ j,j<arr.size->¬(fz.1<=j/\j<fz.2))->w.heap[b]? =some (.cells arr ty fz)->Flat vs->off+k+vs.length<=arr.size→
  ∃ w',(storeCells ⟨b,off,none⟩ vs k).run P w= .ok () w' /\Rest w w' /\w'.heap.size=w.heap.size/\w'.heap[b]? =some (.cells (uL arr (off+k) vs) ty fz)/\∀ j,j≠b->w'.heap[j]? =w.heap[j]? :=by
 induction vs with
 |nil=>intro w arr k _ h _ _;exact⟨w,rfl,.refl _,rfl,h,fun _ _=>rfl⟩
 |cons v r ih=>
  intro w arr k hz h hf hn
  simp only[O0] at hn
  have DO:off+k<arr.size:=by omega
  have SG:w.cell? ⟨b,off+k,none⟩=some arr[off+k]:=by simp [World.cell?,h,DO]
  have hfz:w.frozen? ⟨b,off+k,none⟩=false:=by
   have:=hz (off+k) DO
   simp only[World.frozen?,h]
   simpa using this
  have hst:(store ((⟨b,off,none⟩:Addr).add k) v).run P w= .ok () (w.setCell ⟨b,off+k,none⟩ v):=by
   rw[IQ]
   obtain⟨hv1,hv2⟩:=hf v (by simp)
   unfold store
   cases v <;> first|exact absurd rfl (hv1 _)|exact absurd rfl (hv2 _)|(simp only[Sem.run,SG,hfz];rfl)
  have h' :(w.setCell ⟨b,off+k,none⟩ v).heap[b]? =some (.cells (arr.setIfInBounds (off+k) v) ty fz):=by
   rw[sF,AA rfl,h];rfl
  obtain⟨w',h1,h2,h3,h4,h5⟩:=ih _ _ (k+1) (fun j hj=>hz j (by simpa using hj)) h' (fun u hu=>hf u (by simp [hu])) (by simp;omega)
  refine⟨w', ?_, ?_, ?_,h4, ?_⟩
  ·simp only[storeCells,Sem.run_bind,hst,Result.andThen];exact h1
  ·have hr:Rest w (w.setCell ⟨b,off+k,none⟩ v):=⟨rfl,rfl,rfl⟩
   exact hr.trans h2
  ·rw[h3];simp [World.setCell]
  ·intro j hj
   rw[h5 j hj,sF,AD (fun he=>hj he.symm)]
theorem PZ {b off:Nat} {ty:TypeId} (vs:List Value) (w:World) (arr:Array Value) (k:Nat) (h:w.heap[b]? =some (.cells arr ty (0,0))) (hf:Flat vs) (hn:off+k+vs.length<=arr.size):
  ∃ w',(storeCells ⟨b,off,none⟩ vs k).run P w= .ok () w' /\Rest w w' /\w'.heap.size=w.heap.size/\w'.heap[b]? =some (.cells (uL arr (off+k) vs) ty (0,0))/\∀ j,j≠b->w'.heap[j]? =w.heap[j]? :=
 LC vs w arr k (fun j _=>by simp) h hf hn
theorem run_loadCells {b off:Nat} {ty:TypeId} {fz:Nat×Nat} (w:World) {arr:Array Value} (h:w.heap[b]? =some (.cells arr ty fz)) {n:Nat} (hn:off+n<=arr.size):(loadCells ⟨b,off,none⟩ n).run P w= .ok (BR arr off n).toArray w:=by
 have hl:(BR arr off n).length=n:=by unfold BR;simp;omega
 have:=run_loadCells_list (P:=P) w ⟨b,off,none⟩ (BR arr off n) (fun j v hj=>by
  rw[CJ] at hj
  split at hj
  ·rw[IQ];simp [World.cell?,h,hj]
  ·cases hj)
 rw[hl] at this
 exact this
theorem VL {w:World} {m:Nm} {arr:Array Value} {ty:TypeId} {fz:Nat×Nat} {size:Nat} (hn:m.nil=false) (h:w.heap[m.CE]? =some (.cells arr ty fz)) (hs:m.off+m.len*size<=arr.size):
  (Builtin.firstCells size m.len (.slice m.ad m.len m.cap)).run P w= .ok (BR arr m.off (m.len*size)).toArray w:=by
 simp only[Nm.ad,hn,VF,KA]
 exact run_loadCells w h hs
theorem wL (w:World) (t:TypeId) (v:Value):(newVar t v).run P w= .ok ⟨w.heap.size,0,none⟩ (w.alloc (.cells v.cells t)):=by
 simp [newVar,newRow]
theorem CX {s:Sem Value} {w w' :World} {v:Value} (h:s.run P w= .ok v w'):(do pure (Next.value (<-s)):Sem Next).run P w= .ok (.value v) w' :=by
 rw[Sem.run_bind,h];rfl
theorem JF {w:World} {t0 t1:TypeId} {ts:Array TypeId} {ty e e1:TypeId} {q:TypeInfo} {a b:Option Addr} {len cap n c:Nat} {news:List Value} {w' :World}
  (h0:ts[0]? =some t0) (h1:ts[1]? =some t1) (hu:P.underlying t0=some (.slice e)) (hu1:P.underlying t1=some (.slice e1)) (hq:P.info? e=some q)
  (DZ:(Builtin.firstCells q.size n (.slice b n c)).run P w= .ok news.toArray w) (bF:len+n<=cap)
  (hst:match a with|some p=>(storeCells (p.add (len*q.size)) news).run P w= .ok () w' |none=>w' =w):
  (Builtin.append_ ts ty #[.slice a len cap,.slice b n c]).run P w= .ok (.slice a (len+n) cap) w' :=by
 cases a with
 |none=>
  simp only at hst;subst hst
  simp [Builtin.append_,h0,h1,run_underlying hu,run_underlying hu1,sizeOf,typeInfo,hq,Builtin.lenOf,bF,DZ]
 |some p=>
  simp only at hst
  simp [Builtin.append_,h0,h1,run_underlying hu,run_underlying hu1,sizeOf,typeInfo,hq,Builtin.lenOf,bF,DZ,hst]
theorem run_append_grow {w:World} {t0 t1:TypeId} {ts:Array TypeId} {ty e e1:TypeId} {q:TypeInfo} {zv:Value} {a b:Option Addr} {len cap n c:Nat} {news olds:List Value}
  (h0:ts[0]? =some t0) (h1:ts[1]? =some t1) (hu:P.underlying t0=some (.slice e)) (hu1:P.underlying t1=some (.slice e1)) (hq:P.info? e=some q) (hz:q.zero=some zv) (hb:q.bytes≠0)
  (DZ:(Builtin.firstCells q.size n (.slice b n c)).run P w.drew= .ok news.toArray w.drew) (hold:(Builtin.firstCells q.size len (.slice a len cap)).run P w.drew= .ok olds.toArray w.drew)
  (bF:cap<len+n) (hby:(len+n)*q.bytes<=140737488355328):
  ∃ c',len+n<=c' /\(Builtin.append_ ts ty #[.slice a len cap,.slice b n c]).run P w= .ok (.slice (some ⟨w.heap.size,0,none⟩) (len+n) c')
   (w.drew.alloc (.cells (olds.toArray++news.toArray++Builtin.zeroCells zv.cells (c' -(len+n))) e)):=by
 have h48:¬(281474976710656<Builtin.nextslicecap (len+n) cap*q.bytes):=by
  have:=growslice_fits (need:=len+n) (old:=cap) (bytes:=q.bytes) bF hby
  omega
 have hnc:¬(len+n<=cap):=by omega
 refine⟨grownCap w (len+n) cap e,Nat.le_add_right _ _, ?_⟩
 simp [Builtin.append_,h0,h1,run_underlying hu,run_underlying hu1,sizeOf,typeInfo,zeroValue,hq,hz,Builtin.lenOf,hnc,hb,h48,Question.forced,DZ,hold,newRow,grownCap]
 congr 2
 apply aM
 simp [J_]
theorem run_makeSlice {E:Env} (w:World) {t e:TypeId} {q:TypeInfo} {z:List SV} {k k' :IntKind} {n m:Int} (hu:P.underlying t=some (.slice e)) (hq:P.info? e=some q) (hz:OH P e=some z) (hs:z.length=q.size)
  (h0:0<=n) (h1:n<=m) (h2:m*q.bytes<=140737488355328) (h3:I64 m):
  (Instr.makeSlice t (.int k n) (.int k' m)).run P w= .ok (.slice (some ⟨w.heap.size,0,none⟩) n.toNat m.toNat)
   (w.alloc (.cells ((Array.range (m.toNat*z.length)).map fun i=>(AN E z).toArray[i%(AN E z).toArray.size]!) e)):=by
 obtain⟨zv,hzr,hzc⟩:=U_ (E:=E) (P:=P) w hz
 have hn:I64 n:=⟨by have:=h3.1;omega,by have:=h3.2;omega⟩
 have e1:=InK.wrap (k:= .i64) hn
 have e2:=InK.wrap (k:= .i64) h3
 have c1:¬m<0:=by omega
 have hm2:(q.bytes:Int)*m<=140737488355328:=by rw[AAJ];exact h2
 have c2:¬(281474976710656<(q.bytes:Int)*m):=by omega
 have c3:¬n<0:=by omega
 have c4:¬m<n:=by omega
 by_cases hz0:m.toNat*q.size=0
 ·simp [Instr.makeSlice,run_underlying hu,asInt,asIntOf,typeInfo,hq,e1,e2,c1,c2,c3,c4,askRoom,sizeOf,hz0,newRow,hs]
  rw[show Array.range 0= #[] from by decide]
  simp
 ·simp [Instr.makeSlice,run_underlying hu,asInt,asIntOf,typeInfo,hq,e1,e2,c1,c2,c3,c4,askRoom,sizeOf,hz0,newRow,hs,hzr,hzc]
end
def fresh (z:List SV) (n size:Nat):List SV:=(List.range n).map fun i=>z.getD (i%size) AW
theorem sG {E:Env} {z:List SV} {len size:Nat} (h:z.length=size):
  AN E (fresh z (len*size) size)=((Array.range (len*size)).map fun i=>(AN E z).toArray[i%(AN E z).toArray.size]!).toList:=by
 unfold fresh
 rw[FO,VH,kD,Array.toList_range]
 apply WB
 intro i hi
 subst h
 rcases ALO z.length with h0|h0
 ·rw[h0] at hi;simp at hi
 ·have hl:i%z.length<z.length:=SE _ h0
  have e:(AN E z).toArray.size=z.length:=by simp [AT]
  rw[e]
  simp [GM,OT hl]
end Go.V3
