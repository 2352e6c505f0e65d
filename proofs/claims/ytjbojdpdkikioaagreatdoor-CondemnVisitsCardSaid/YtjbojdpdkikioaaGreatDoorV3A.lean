import Derived.WalkKit
import Derived.Deep.Quiet
import Derived.Deep.LoopGhost
import Derived.Scope
set_option linter.unusedVariables false
set_option linter.unusedSimpArgs false
namespace Go.V3
abbrev AX := @Option.some.injEq
abbrev BC := @Option.bind_some
abbrev AB := @if_pos
abbrev AD := @if_neg
abbrev DB := @Prod.mk.injEq
abbrev EY := @List.mem_append
abbrev NH := @List.getElem?_eq_getElem
abbrev H6 := @Int.toNat_natCast
abbrev T3 := @List.getElem?_eq_none
abbrev IN := @not_not_intro
abbrev H7 := @List.length_singleton
abbrev GO := @List.mem_singleton
abbrev C6 := @List.mem_map
abbrev EP := @List.length_set
abbrev GG := @List.append_nil
abbrev JG := @List.length_append
abbrev HQ := @Bool.and_eq_true
abbrev IW := @decide_eq_true_eq
abbrev OS := @List.getElem?_cons_zero
abbrev JH := @List.append_assoc
abbrev GD := @List.mem_cons
abbrev HF := @decide_eq_true
abbrev EL := @Nat.le_refl
abbrev JV := @List.all_eq_true
abbrev VH := @List.getElem?_append_right
abbrev VI := @List.getElem?_append_left
abbrev NI := @decide_eq_true_iff
abbrev GS := @Nat.lt_or_ge
abbrev NZ := @List.length_cons
abbrev QA := @List.nodup_append
abbrev VJ := @List.mem_cons_of_mem
abbrev KU := @List.map_cons
abbrev QX := @of_decide_eq_true
abbrev VK := @List.map_congr_left
abbrev aV := @decide_eq_false_iff_not
abbrev T4 := @Bool.not_eq_true'
abbrev VL := @Bool.false_eq_true
abbrev QB := @decide_eq_false
abbrev QY := @List.length_map
abbrev T5 := @List.take_length
abbrev N0 := @Nat.add_assoc
abbrev VM := @List.ext_getElem?
abbrev ML := @Nat.zero_add
abbrev ZO := @List.mem_of_getElem?
abbrev aW := @List.length_replicate
abbrev NJ := @Nat.add_zero
abbrev T6 := @Option.some.inj
abbrev UM := @List.nodup_cons
abbrev iX := @Array.getElem?_toList
abbrev iY := @List.length_filter_le
abbrev VN := @List.length_nil
abbrev fJ := @List.getElem_of_mem
abbrev fK := @List.length_pos_iff
abbrev aX := @List.getElem?_drop
abbrev aY := @List.pairwise_cons
abbrev sC := @List.getD_eq_getElem?_getD
abbrev WY := @List.mem_filter
abbrev vU := @List.getElem?_eq_some_iff
abbrev sD := @List.getElem?_replicate
abbrev vV := @Classical.byContradiction
abbrev ZP := @Bool.eq_iff_iff
abbrev ZQ := @List.map_append
abbrev ACE := @Int.mul_le_mul_of_nonneg_right
abbrev kQ := @List.getElem?_take
abbrev ACF := @Int.mul_le_mul_of_nonneg_left
abbrev UN := @List.map_map
abbrev aZ := @Option.map_some
abbrev G4 := @if_true
abbrev vW := @List.getElem?_cons_succ
abbrev sE := @List.getElem?_toArray
abbrev AA3 := @List.pairwise_iff_getElem
abbrev AA4 := @List.drop_eq_getElem_cons
abbrev ACG := @Array.getElem?_append_left
abbrev kR := @List.filter_cons
abbrev qN := @Nat.lt_of_lt_of_le
abbrev iZ := @List.cons.injEq
abbrev qO := @List.filter_append
abbrev fL := @List.nodup_nil
abbrev sF := @Int.toNat_of_nonneg
abbrev AA5 := @Array.getElem?_eq_none
abbrev AA6 := @Int.le_ediv_iff_mul_le
abbrev sG := @BitVec.toNat_ofInt
abbrev i_ := @List.mem_range
abbrev ACH := @Option.bind_eq_some_iff
abbrev nI := @List.nil_append
abbrev qP := @decide_eq_decide
abbrev sH := @List.getElem?_set
abbrev AA7 := @List.contains_eq_mem
abbrev AA8 := @List.mem_iff_getElem
abbrev ACI := @Int.ediv_lt_iff_lt_mul
abbrev AA9 := @Array.getElem?_push
abbrev AAA := @List.filter_eq_self
abbrev sI := @List.getElem_map
abbrev sJ := @List.length_take
abbrev a_ := @Nat.add_mul
abbrev AAB := @BitVec.toNat_ofNat
abbrev ALF := @Decidable.byContradiction
abbrev ALG := @List.getElem_append_right
abbrev QZ := @if_false
abbrev vX := @Array.toList_map
abbrev S7 := @Int.le_refl
abbrev sK := @List.take_append_drop
abbrev ACJ := @Array.getElem?_setIfInBounds
abbrev oX := @Int.emod_lt_of_pos
abbrev oY := @List.mem_cons_self
abbrev sL := @Nat.mul_le_mul_right
abbrev sM := @List.pairwise_append
abbrev WZ := @Nat.le_trans
abbrev kS := @List.not_mem_nil
abbrev kT := @List.mem_flatten
abbrev xG := @List.filter_eq_nil_iff
abbrev oZ := @Int.compare_eq_lt
abbrev o7 := @Int.compare_eq_gt
abbrev MS := @congrArg
abbrev kU := @List.foldl_cons
abbrev ZB := @Nat.sub_self
abbrev kV := @Int.emod_nonneg
abbrev ZC := @Int.add_zero
abbrev o8 := @Nat.mod_eq_of_lt
abbrev xH := @List.mem_of_mem_take
abbrev xI := @List.mem_of_mem_drop
abbrev xJ := @List.mem_append_left
abbrev bA := @iff_of_false
abbrev sN := @BitVec.toNat_udiv
abbrev VZ := @beq_iff_eq
abbrev sO := @Function.comp_def
abbrev sP := @List.filter_congr
abbrev sQ := @List.getElem_take
abbrev o9 := @Bool.or_eq_true
abbrev AII := @Int.mul_lt_mul_of_pos_right
abbrev xK := @List.filter_sublist
abbrev ACK := @List.take_of_length_le
abbrev sR := @List.cons_append
abbrev xL := @List.mem_filterMap
abbrev ACL := @List.mem_iff_getElem?
abbrev AIJ := @List.mem_or_eq_of_mem_set
abbrev o_ := @List.drop_zero
abbrev ACN := @BitVec.ofInt_natCast
abbrev AIK := @Option.isSome_iff_exists
abbrev ZD := @Array.ext'
abbrev AIL := @List.set_eq_of_length_le
abbrev xM := @List.getElem?_map
abbrev ANT := @List.eq_nil_iff_forall_not_mem
abbrev ANU := @Nat.and_two_pow_sub_one_eq_mod
abbrev AIM := @Nat.exists_eq_add_of_le
abbrev AIN := @BitVec.eq_of_getLsbD_eq
abbrev iG := @iff_of_true
abbrev AIO := @List.pairwise_singleton
abbrev xN := @List.mem_flatMap
abbrev xO := @Option.getD_some
abbrev xP := @List.flatMap_def
abbrev xQ := @List.length_drop
abbrev AIP := @List.getElem?_set_self
abbrev ACO := @Nat.eq_zero_or_pos
abbrev AIQ := @BitVec.eq_of_toNat_eq
abbrev pA := @List.map_nil
abbrev AIR := @List.contains_iff_mem
abbrev ANV := @Array.getElem?_append_right
abbrev kW := @Nat.zero_le
abbrev xR := @Nat.two_pow_pos
abbrev AIS := @Int.mul_ediv_add_emod
abbrev AIT := @List.singleton_append
abbrev ACP := @BitVec.toNat_umod
abbrev sS := @List.all_cons
abbrev ACQ := @List.flatMap_cons
abbrev ACR := @Int.compare_eq_eq
abbrev ACS := @List.foldl_append
abbrev sT := @List.sum_cons
abbrev AIU := @List.getElem?_set_ne
abbrev ANW := @Nat.shiftRight_eq_div_pow
abbrev ANX := @Array.getElem?_eq_getElem
abbrev ACT := @List.getElem_mem
abbrev pB := @Nat.mul_one
abbrev AIV := @List.getElem?_range
abbrev ANY := @BitVec.toNat_ushiftRight
abbrev sU := @Nat.mul_comm
abbrev ANZ := @List.length_erase_of_mem
abbrev ACU := @Int.natCast_add
abbrev AIW := @Array.ext_getElem?
abbrev AO0 := @List.length_eq_zero_iff
abbrev AO1 := @Int.eq_ofNat_of_zero_le
abbrev AO2 := @Int.ediv_eq_zero_of_lt
abbrev AO3 := @List.length_pos_of_mem
abbrev AO4 := @List.drop_eq_nil_of_le
abbrev AO5 := @List.getElem_singleton
abbrev AIX := @Int.emod_eq_of_lt
abbrev sV := @Int.add_mul
abbrev sW := @Int.one_mul
abbrev AIY := @List.pairwise_map
abbrev ACV := @List.drop_drop
abbrev ACW := @List.take_zero
abbrev ACX := @Int.mul_nonneg
abbrev xS := @Nat.zero_mul
abbrev xT := @Nat.sub_zero
abbrev xU := @Int.mul_comm
abbrev AIZ := @Nat.div_eq_of_lt
abbrev AJ0 := @Bool.not_eq_true
abbrev AO6 := @Nat.pow_le_pow_right
abbrev AO7 := @Array.toArray_toList
abbrev AO8 := @List.range_eq_range'
abbrev ACY := @Nat.mul_assoc
abbrev iH := @true_and
abbrev AJ1 := @Int.natCast_mul
abbrev AJ2 := @Option.map_none
abbrev AO9 := @List.take_set_of_le
abbrev AOA := @List.drop_set_of_lt
abbrev AOB := @List.take_succ_cons
abbrev AOC := @List.flatten_append
abbrev AOD := @Function.comp_apply
abbrev AOE := @Array.getElem?_map
abbrev AOF := @BitVec.getLsbD_and
abbrev AOG := @Nat.eq_or_lt_of_le
abbrev AOH := @List.set_cons_zero
abbrev AJ3 := @Nat.mul_le_mul
abbrev xV := @Nat.mod_lt
abbrev kX := @Iff.rfl
abbrev sX := @or_false
open Go
structure AX0 where
 l:List Nat
attribute [class] AX0
instance A2T:AX0:=⟨[]⟩
structure AX1 where
 l:Nat->List Nat
attribute [class] AX1
instance A2P:AX1:=⟨fun _=>[]⟩
structure AX2 where
 pre:List Value
 post:List Value
attribute [class] AX2
instance A2Q:AX2:=⟨[],[]⟩
structure AX3 where
 b:Bool
attribute [class] AX3
instance A2R:AX3:=⟨false⟩
structure Hd0 where
 B_:Nat
 off:Nat
 nil:Bool
 len:Nat
 cap:Nat
 VO:Option Addr
 fz:Bool
structure AX4 where
 l:Nat->Hd0
attribute [class] AX4
instance A2S:AX4:=⟨fun _=>⟨0,0,true,0,0,none,false⟩⟩
structure Nm where
 B_:Nat
 off:Nat
 nil:Bool
 len:Nat
 cap:Nat
 VO:Option Addr
 [ins:AX0]
 [pp:AX2]
 [fz:AX3]
 [hd:AX4]
def Nm.fr (m:Nm) (n:Nat):Nat×Nat:=bif m.fz.b then (n,n+1) else (0,0)
theorem Nm.AAC (m:Nm) {n k:Nat} (h:k<n):¬((m.fr n).1<=k/\k<(m.fr n).2):=by
 unfold Nm.fr
 cases m.fz.b
 ·simp
 ·simp;omega
def Nm.arr (m:Nm) (l:List Value):Array Value:=(m.pp.pre++l++m.pp.post).toArray
def Nm.ad (m:Nm):Option Addr:=if m.nil=true then m.VO else some ⟨m.B_,m.off,none⟩
def Hd0.nm (h:Hd0):Nm:={ B_:=h.B_,off:=h.off,nil:=h.nil,len:=h.len,cap:=h.cap,VO:=h.VO,fz:=⟨h.fz⟩ }
def Nm.h0 (m:Nm):Hd0:=⟨m.B_,m.off,m.nil,m.len,m.cap,m.VO,m.fz.b⟩
def Nm.hn (m:Nm) (k:Nat):Nm:=(m.hd.l k).nm
structure Env where
 nm:Nat->Nm
 ds:Nat->Value
 [ins:AX1]
inductive SV where
 |int (k:IntKind) (n:Int)
 |u64 (x:BitVec 64)
 |bool (b:Bool)
 |N1 (b:Bool)
 |prop (p:Prop) (d:Decidable p)
 |str (s:ByteArray)
 |QP (n:Nat)
 |nf (o:Option Nat) (i:Nat)
 |LJ
 |ptr (a:Option Addr)
 |loc (i off:Nat)
 |el (i k sz off:Nat)
 |MT (i:Nat)
 |sub (i lo n sz:Nat)
 |nF (t:Nat)
 |raw (v:Value)
 |agg (cs:List SV)
 |tup (vs:List SV)
 |mpv (i:Nat)
 |xW (f:FuncId) (cs:List SV)
 |tsl (i k q:Nat)
 |tel (i k q j:Nat)
def V0 (k:Nat):Nat:=(k%2)*2 ^ 63+0x7ff0000000000000+1+(k / 2)%(2 ^ 52-1)
def nJ (a:Option Addr) (n:Nat):Option Addr:=a.map (·.add n)
mutual
def SV.den (E:Env):SV->Value
 | .int k n=> .int k n
 | .u64 x=> .int .u64 (x.toNat:Int)
 | .bool b=> .bool b
 | .N1 b=> .bool b
 | .prop p d=> .bool (@decide p d)
 | .str s=> .string s
 | .QP n=> .float .f64 n
 | .nf o i=> .float .f64 (o.getD (V0 (E.nm i).B_))
 | .LJ=> .slice none 0 0
 | .ptr a=> .pointer a
 | .loc i off=> .pointer (some ⟨(E.nm i).B_,(E.nm i).off+off,none⟩)
 | .el i k sz off=> .pointer (some ⟨(E.nm i).B_,(E.nm i).off+(k*sz+off),none⟩)
 | .MT i=> .slice (E.nm i).ad (E.nm i).len (E.nm i).cap
 | .sub i lo n sz=> .slice (if (E.nm i).cap=lo then (E.nm i).ad else nJ (E.nm i).ad (lo*sz)) n ((E.nm i).cap-lo)
 | .nF t=>E.ds t
 | .raw v=>v
 | .agg cs=> .agg (AL E cs).toArray
 | .tup vs=> .tuple (AL E vs).toArray
 | .mpv i=> .map (some (E.nm i).B_)
 | .xW f cs=> .func (.func f) #[] (AL E cs).toArray
 | .tsl i k q=> .slice ((E.nm i).hn (k*2+q)).ad ((E.nm i).hn (k*2+q)).len ((E.nm i).hn (k*2+q)).cap
 | .tel i k q j=> .pointer (some ⟨((E.nm i).hn (k*2+q)).B_,((E.nm i).hn (k*2+q)).off+j,none⟩)
def AL (E:Env):List SV->List Value
 | []=>[]
 |v::r=>v.den E::AL E r
end
section
variable {E:Env}
theorem FB (l:List SV):AL E l=l.map (SV.den E):=by
 induction l with
 |nil=>rfl
 |cons v r ih=>simp [AL,ih]
def AV:SV:= .raw undef
def ev (fr:List SV):Operand->SV
 | .tmp t=>fr.getD t AV
 | .const v=>match v with
  | .int .u64 n=>if 0<=n/\n<18446744073709551616 then .u64 (BitVec.ofNat 64 n.toNat) else .raw (.int .u64 n)
  | .int k n=> .int k n
  | .bool b=> .N1 b
  | .string s=> .str s
  | .float .f64 n=> .QP n
  | .slice none 0 0=> .LJ
  | .pointer a=> .ptr a
  |v=> .raw v
 | .global g=> .ptr (some ⟨g,0,none⟩)
 | .func f=> .raw (.func (.func f) #[] #[])
def Sim (E:Env) (fr:List SV) (a:Act):Prop:=a.tmps=(AL E fr).toArray/\a.defers=[]
theorem xX (fr:List SV) (t:Nat):(AL E fr).getD t undef=((fr.getD t AV).den E):=by
 induction fr generalizing t with
 |nil=>simp [AL,AV,SV.den]
 |cons v r ih=>cases t with
  |zero=>simp [AL]
  |succ t=>simpa [AL] using ih t
theorem UO {fr:List SV} {a:Act} (h:Sim E fr a) (x:Operand):a.eval x=((ev fr x).den E):=by
 cases x with
 |tmp t=>
  show a.tmps.getD t undef=_
  rw[h.1]
  have:=xX (E:=E) fr t
  simpa [ev] using this
 |const v=>
  show v=_
  cases v with
  |int k n=>
   cases k <;> try rfl
   simp only[ev]
   split
   ·rename_i hn
    simp only[SV.den,AAB]
    congr 1
    omega
   ·rfl
  |float k n=>cases k <;> rfl
  |slice a l c=>
   simp only[ev]
   split <;> first|rfl|(simp_all [SV.den])
  |_=>rfl
 |global g=>rfl
 |func f=>rfl
def Q0 (fr:List SV) (dst:Option Tmp) (v:SV):List SV:=
 match dst with
 |some d=>fr.set d v
 |none=>fr
theorem bB (fr:List SV) (d:Nat) (v:SV):AL E (fr.set d v)=(AL E fr).set d (v.den E):=by
 induction fr generalizing d with
 |nil=>rfl
 |cons x r ih=>cases d with
  |zero=>rfl
  |succ d=>simp [AL,ih]
theorem Sim.put {fr:List SV} {a:Act} (h:Sim E fr a) (dst:Option Tmp) (v:SV):Sim E (Q0 fr dst v) (a.put dst (v.den E)):=by
 cases dst with
 |none=>exact h
 |some d=>
  refine⟨?_,h.2⟩
  show a.tmps.setIfInBounds d (v.den E)=_
  rw[h.1]
  simp [Q0,bB]
structure Rest (w w' :World):Prop where
 os:w'.os=w.os
 tape:w'.tape=w.tape
 output:w'.output=w.output
theorem Rest.refl (w:World):Rest w w:=⟨rfl,rfl,rfl⟩
theorem Rest.trans {a b c:World} (h:Rest a b) (k:Rest b c):Rest a c:=⟨k.os.trans h.os,k.tape.trans h.tape,k.output.trans h.output⟩
def I64 (e:Int):Prop:= -9223372036854775808<=e/\e<=9223372036854775807
def U64 (e:Int):Prop:=0<=e/\e<=18446744073709551615
def InK:IntKind->Int->Prop
 | .i64,e=>I64 e
 | .u64,e=>U64 e
 | .i8,e=> -128<=e/\e<=127
 | .i16,e=> -32768<=e/\e<=32767
 | .i32,e=> -2147483648<=e/\e<=2147483647
 | .u8,e=>0<=e/\e<=255
 | .u16,e=>0<=e/\e<=65535
 | .u32,e=>0<=e/\e<=4294967295
theorem InK.wrap {k:IntKind} {e:Int} (h:InK k e):k.wrap e=e:=by
 cases k
 ·exact IntWalk.i8_in e h
 ·exact IntWalk.i16_in e h
 ·exact IntWalk.i32_in e h
 ·exact IntWalk.i64_in e h
 ·exact IntWalk.u8_in e h
 ·exact IntWalk.u16_in e h
 ·exact IntWalk.u32_in e h
 ·exact IntWalk.u64_in e h
def KH (s:ByteArray) (i:Nat):Int:=((s.data[i]?.getD 0).toNat:Int)
structure DP where
 p:Prop
 d:Decidable p
def cnd:Option DP->Prop
 |none=>True
 |some q=>q.p
abbrev Pu:=Option (Option DP×SV)
def val (v:SV):Pu:=some (none,v)
def UP (p:Prop) [d:Decidable p] (v:SV):Pu:=some (some ⟨p,d⟩,v)
def cnt:SV->Option (DP×Nat)
 | .int _ n=>some (⟨0<=n,inferInstance⟩,n.toNat)
 | .u64 x=>some (⟨True,inferInstance⟩,x.toNat)
 |_=>none
def shE (op:BinOp) (x c:SV):Pu:=
 match cnt c with
 |none=>none
 |some (q,n)=>match op,x with
  | .shl,.int .i64 a=> @UP q.p q.d (.int .i64 (IntKind.i64.wrap (a*2 ^ min n 64)))
  | .shr,.int .i64 a=> @UP q.p q.d (.int .i64 (a / 2 ^ min n 64))
  | .shl,.u64 b=> @UP q.p q.d (.u64 (b <<< n))
  | .shr,.u64 b=> @UP q.p q.d (.u64 (b >>> n))
  |_,_=>none
def ACZ (op:BinOp) (a b:Int):Int:=
 let x:=BitVec.ofInt 64 a
 let y:=BitVec.ofInt 64 b
 IntKind.i64.wrap (match op with| .and=>x &&& y| .or=>x|||y| .xor=>x ^^^ y|_=>x &&& ~~~y).toNat
def AST (op:BinOp) (k:IntKind) (a b:Int):Pu:=
 match op with
 | .add=>val (.int k (k.wrap (a+b)))
 | .sub=>val (.int k (k.wrap (a-b)))
 | .mul=>val (.int k (k.wrap (a*b)))
 | .quo=>UP (¬b=0) (.int k (k.wrap (a.tdiv b)))
 | .rem=>UP (¬b=0) (.int k (a.tmod b))
 | .and| .or| .xor| .andNot=>match k with| .i64=>val (.int .i64 (ACZ op a b))|_=>none
 | .eql=>val (.prop (a=b) inferInstance)
 | .neq=>val (.prop (¬a=b) inferInstance)
 | .lss=>val (.prop (a<b) inferInstance)
 | .leq=>val (.prop (a<=b) inferInstance)
 | .gtr=>val (.prop (a>b) inferInstance)
 | .geq=>val (.prop (a≥b) inferInstance)
 |_=>none
def ASU (op:BinOp) (a b:BitVec 64):Pu:=
 match op with
 | .add=>val (.u64 (a+b))
 | .sub=>val (.u64 (a-b))
 | .mul=>val (.u64 (a*b))
 | .quo=>UP (¬b=0#64) (.u64 (a / b))
 | .rem=>UP (¬b=0#64) (.u64 (a%b))
 | .and=>val (.u64 (a &&& b))
 | .or=>val (.u64 (a|||b))
 | .xor=>val (.u64 (a ^^^ b))
 | .andNot=>val (.u64 (a &&& ~~~b))
 | .eql=>val (.prop (a=b) inferInstance)
 | .neq=>val (.prop (¬a=b) inferInstance)
 | .lss=>val (.prop (a.toNat<b.toNat) inferInstance)
 | .leq=>val (.prop (a.toNat<=b.toNat) inferInstance)
 | .gtr=>val (.prop (a.toNat>b.toNat) inferInstance)
 | .geq=>val (.prop (a.toNat≥b.toNat) inferInstance)
 |_=>none
def D5 (a b:Nat):Option Ordering:=FloatKind.f64.format.order a b
def A2U (a:Nat):Nat:=Op.negFloat .f64 a
def JW (op:BinOp) (a b:Nat):Option Nat:=match op with
 | .add=>FloatKind.f64.format.add a b
 | .sub=>FloatKind.f64.format.sub a b
 | .mul=>FloatKind.f64.format.mul a b
 | .quo=>FloatKind.f64.format.div a b
 |_=>none
def bC (n:Int):Nat:=FloatKind.f64.nearest n
def sY (a:Nat):Option Int:=(FloatKind.f64.decode a).toInt .zero
def fIn (k:IntKind) (a:Nat):Bool:=match sY a with
 |some n=>decide (k.min<=n/\n<=k.max)
 |none=>false
def eJ (a:Nat):Bool:=(FloatKind.f64.decode a).neg
def AZV (a b:Nat):Nat:=match D5 a b with
 |some .lt=>b
 |some .gt=>a
 |_=>if eJ a=true then b else a
def AZW (a b:Nat):Nat:=match D5 a b with
 |some .lt=>a
 |some .gt=>b
 |_=>if eJ a=true then a else b
def ASV (op:BinOp) (a b:Nat):Pu:=
 match op with
 | .add| .sub| .mul| .quo=>UP ((JW op a b).isSome=true) (.QP ((JW op a b).getD 0))
 | .eql=>val (.prop (D5 a b=some .eq) inferInstance)
 | .neq=>val (.prop (¬D5 a b=some .eq) inferInstance)
 | .lss=>val (.prop (D5 a b=some .lt) inferInstance)
 | .leq=>val (.prop (D5 a b=some .lt\/D5 a b=some .eq) inferInstance)
 | .gtr=>val (.prop (D5 a b=some .gt) inferInstance)
 | .geq=>val (.prop (D5 a b=some .gt\/D5 a b=some .eq) inferInstance)
 |_=>none
def kY (a b:Option Nat):Option Ordering:=match a,b with
 |some a,some b=>D5 a b
 |_,_=>none
def nfE (op:BinOp) (a b:Option Nat):Pu:=
 match op with
 | .eql=>val (.prop (kY a b=some .eq) inferInstance)
 | .neq=>val (.prop (¬kY a b=some .eq) inferInstance)
 | .lss=>val (.prop (kY a b=some .lt) inferInstance)
 | .leq=>val (.prop (kY a b=some .lt\/kY a b=some .eq) inferInstance)
 | .gtr=>val (.prop (kY a b=some .gt) inferInstance)
 | .geq=>val (.prop (kY a b=some .gt\/kY a b=some .eq) inferInstance)
 |_=>none
def toB:SV->Option Bool
 | .bool b=>some b
 | .N1 b=>some b
 | .prop p d=>some (@decide p d)
 |_=>none
def AAD (P:Program) (op:BinOp) (t:TypeId) (x y:SV):Pu:=
 match op with
 | .shl| .shr=>shE op x y
 |op=>match x,y with
  | .int k a,.int k' b=>if k=k' then AST op k a b else none
  | .u64 a,.u64 b=>ASU op a b
  | .str a,.str b=>match op with
   | .eql=>val (.prop (a=b) inferInstance)
   | .neq=>val (.prop (¬a=b) inferInstance)
   | .add=>UP (a.size+b.size<=9223372036854775807) (.str (a++b))
   |_=>none
  | .QP a,.QP b=>ASV op a b
  | .nf a _,.nf b _=>nfE op a b
  | .nf a _,.QP b=>nfE op a (some b)
  | .QP a,.nf b _=>nfE op (some a) b
  |x,y=>match toB x,toB y,P.underlying t,op with
   |some a,some b,some .bool,.eql=>val (.prop (a=b) inferInstance)
   |some a,some b,some .bool,.neq=>val (.prop (¬a=b) inferInstance)
   |_,_,_,_=>none
def unE (op:UnOp) (x:SV):Pu:=
 match op,x with
 | .not,.bool b=>val (.bool (!b))
 | .not,.N1 b=>val (.N1 (!b))
 | .not,.prop p _=>val (.prop (¬p) inferInstance)
 | .neg,.int .i64 n=>val (.int .i64 (IntKind.i64.wrap (0-n)))
 | .neg,.u64 x=>val (.u64 (0#64-x))
 | .neg,.QP b=>val (.QP (A2U b))
 | .xor,.u64 x=>val (.u64 (~~~x))
 |_,_=>none
def AJ4 (P:Program) (src dst:TypeId) (x:SV):Pu:=
 match P.underlying src,P.underlying dst,x with
 |some (.int _),some (.int kd),.int _ n=>match kd with
  | .u64=>val (.u64 (BitVec.ofInt 64 n))
  |kd=>val (.int kd (kd.wrap n))
 |some (.int _),some (.int kd),.u64 b=>match kd with
  | .u64=>val (.u64 b)
  |kd=>val (.int kd (kd.wrap b.toNat))
 |some .string,some .string,.str s=>val (.str s)
 |some (.int _),some (.float .f64),.int _ n=>val (.QP (bC n))
 |some (.int _),some (.float .f64),.u64 x=>val (.QP (bC (x.toNat:Int)))
 |some (.float _),some (.int kd),.QP b=>(match kd with
  | .u64=>UP (fIn .u64 b=true) (.u64 (BitVec.ofInt 64 ((sY b).getD 0)))
  |kd=>UP (fIn kd b=true) (.int kd ((sY b).getD 0)))
 |some (.float _),some (.float .f64),.QP b=>val (.QP b)
 |_,_,_=>none
def GU (P:Program) (t:TypeId):Bool:=
 match P.underlying t with
 |some (.struct _)=>true
 |some (.array _ _)=>true
 |_=>false
def AD0 (P:Program) (t:TypeId) (cs:List SV) (off:Nat):Pu:=
 match P.info? t,P.underlying t with
 |some i,some _=>if GU P t then val (.agg ((cs.drop off).take i.size)) else match cs[off]? with
  |some v=>val v
  |none=>none
 |_,_=>none
def WI:List Bool->Bool
 | []=>true
 | [b]=>b
 |b::r=>b && WI r
def AOI (P:Program) (f:Field) (xs ys:List SV):Option Bool:=
 match f.name != "_", P.underlying f.type, xs[f.offset]?, ys[f.offset]?, P.info? f.type with
 |true,some (.int _),some (.int k a),some (.int k' b),some _=>if k=k' then some (decide (a=b)) else none
 |true,some .bool,some u,some v,some _=>(match toB u,toB v with
  |some a,some b=>some (a==b)
  |_,_=>none)
 |_,_,_,_,_=>none
def nK (P:Program) (xs ys:List SV):List Field->Option (List Bool)
 | []=>some []
 |f::r=>match AOI P f xs ys,nK P xs ys r with
  |some b,some l=>some (b::l)
  |_,_=>none
def ASW (P:Program) (op:BinOp) (t:TypeId) (xs ys:List SV):Pu:=
 match P.underlying t with
 |some (.struct fs)=>match P.stoodInHeld t||P.eqGuardType P.depth t with
  |true=>none
  |false=>match nK P xs ys fs.toList,op with
   |some bs,.eql=>val (.bool (WI bs))
   |some bs,.neq=>val (.bool (!WI bs))
   |_,_=>none
 |_=>none
def AOJ (P:Program) (op:BinOp) (t:TypeId) (x y:SV):Pu:=
 match x,y with
 | .agg xs,.agg ys=>ASW P op t xs ys
 |x,y=>AAD P op t x y
def AAE (P:Program) (t:TypeId) (x:SV) (f:Nat):Pu:=
 match P.underlying t,x with
 |some (.struct fs),.agg cs=>match fs[f]? with
  |some fd=>AD0 P fd.type cs fd.offset
  |none=>none
 |_,_=>none
def kZ (x:SV) (i:Nat):Pu:=
 match x with
 | .tup vs=>match vs[i]? with
  |some v=>val v
  |none=>none
 |_=>none
def BI:SV->List SV
 | .agg cs=>cs
 |v=>[v]
def DT (cs:List SV) (off:Nat):List SV->List SV
 | []=>cs
 |v::r=>DT (cs.set off v) (off+1) r
def bD (place:Nat->Option (Nat×Nat)) (cs:List SV):List (Nat×SV)->Option (List SV)
 | []=>some cs
 |(i,v)::rest=>match place i with
  |none=>none
  |some (off,size)=>if (BI v).length=size/\off+(BI v).length<=cs.length then bD place (DT cs off (BI v)) rest else none
def NK:SV->Bool
 | .raw (.agg _)=>true
 | .nF _=>true
 |_=>false
def UQ (l:List (Nat×SV)):Bool:=l.all fun q=> !NK q.2
def SR:Value->SV
 | .int .u64 n=>if 0<=n/\n<18446744073709551616 then .u64 (BitVec.ofNat 64 n.toNat) else .raw (.int .u64 n)
 | .int k n=> .int k n
 | .bool b=> .N1 b
 | .string s=> .str s
 | .float .f64 n=> .QP n
 | .slice none 0 0=> .LJ
 | .pointer a=> .ptr a
 |v=> .raw v
def NL (P:Program) (t:TypeId):Option (List SV):=
 match P.info? t with
 |some i=>match i.zero with
  |some z=>some (z.cells.toList.map SR)
  |none=>none
 |none=>none
def OT (P:Program):List Field->Option (List (Nat×Nat))
 | []=>some []
 |f::r=>match P.info? f.type,OT P r with
  |some i,some l=>some ((f.offset,i.size)::l)
  |_,_=>none
def AAF (P:Program) (t:TypeId) (parts:List (Nat×SV)):Pu:=
 if UQ parts=false then none else
 match NL P t,P.underlying t with
 |some z,some (.struct fs)=>match OT P fs.toList with
  |some pl=>match bD (fun i=>pl[i]?) z parts with
   |some cs=>val (.agg cs)
   |none=>none
  |none=>none
 |some z,some (.array _ e)=>match P.info? e with
  |some i=>match bD (fun j=>some (j*i.size,i.size)) z parts with
   |some cs=>val (.agg cs)
   |none=>none
  |none=>none
 |_,_=>none
def idxOf:SV->Option Int
 | .int _ n=>some n
 | .u64 x=>some x.toNat
 |_=>none
def X6 (P:Program) (t:TypeId) (x i:SV):Pu:=
 match P.underlying t,x,idxOf i with
 |some (.array len e),.loc i off,some n=>match P.info? e with
  |some q=>UP (0<=n/\n<len) (.loc i (off+n.toNat*q.size))
  |none=>none
 |some (.array len e),.ptr (some ⟨g,off,none⟩),some n=>match P.info? e with
  |some q=>if q.size=1 then UP (0<=n/\n<len) (.ptr (some ⟨g,off+n.toNat,none⟩)) else none
  |none=>none
 |_,_,_=>none
def X7 (P:Program) (t:TypeId) (x:SV) (f:Nat):Pu:=
 match P.underlying t,x with
 |some (.struct fs),.loc i off=>match fs[f]? with
  |some fd=>match P.info? fd.type with
   |some q=>if q.size=0 then none else val (.loc i (off+fd.offset))
   |none=>none
  |none=>none
 |some (.struct fs),.el i k sz off=>match fs[f]? with
  |some fd=>match P.info? fd.type with
   |some q=>if q.size=0 then none else val (.el i k sz (off+fd.offset))
   |none=>none
  |none=>none
 |_,_=>none
def bnd (x:Option SV) (d:Nat):Option (Option Int×Nat):=
 match x with
 |none=>some (none,d)
 |some x=>match idxOf x with
  |some n=>some (some n,n.toNat)
  |none=>none
@[reducible] def Bd (l:Option Int) (h:Option Int) (hn cap:Nat):Prop:=
 (match h with|some n=>0<=n/\n<=cap|none=>True)/\(match l with|some n=>0<=n/\n<=hn|none=>True)
instance (l h:Option Int) (hn cap:Nat):Decidable (Bd l h hn cap):=
 match h,l with
 |some n,some m=>inferInstanceAs (Decidable ((0<=n/\n<=cap)/\(0<=m/\m<=hn)))
 |some n,none=>inferInstanceAs (Decidable ((0<=n/\n<=cap)/\True))
 |none,some m=>inferInstanceAs (Decidable (True/\(0<=m/\m<=hn)))
 |none,none=>inferInstanceAs (Decidable (True/\True))
def AAG (P:Program) (t:TypeId) (x:SV) (low high max:Option SV):Pu:=
 match P.underlying t,x,max with
 |some .string,.str s,none=>match bnd high s.size,bnd low 0 with
  |some (h,hn),some (l,ln)=>UP (Bd l h hn s.size) (.str (s.extract ln hn))
  |_,_=>none
 |_,_,_=>none
def AAH (P:Program) (t:TypeId) (x i:SV):Pu:=
 match P.underlying t,x,idxOf i with
 |some .string,.str s,some n=>UP (0<=n/\n<s.size) (.int .u8 (KH s n.toNat))
 |_,_,_=>none
def ASX (P:Program) (t:TypeId) (x:SV):Pu:=
 match P.underlying t,x with
 |some .string,.str s=>val (.int .i64 s.size)
 |some (.array n _),_=>val (.int .i64 n)
 |_,_=>none
def k_ (P:Program) (b:Builtin) (argTypes:List TypeId) (args:List SV):Pu:=
 match b,argTypes,args with
 | .len,t::_,x::_=>ASX P t x
 | .max,_,[.int k a,.int k' b]=>if k=k' then val (.int k (if b>a then b else a)) else none
 | .min,_,[.int k a,.int k' b]=>if k=k' then val (.int k (if b<a then b else a)) else none
 | .max,_,[.QP a,.QP b]=>UP ((D5 a b).isSome=true) (.QP (AZV a b))
 | .min,_,[.QP a,.QP b]=>UP ((D5 a b).isSome=true) (.QP (AZW a b))
 |_,_,_=>none
def bE (P:Program) (ρ:Operand->SV):Op->Pu
 | .move x=>val (ρ x)
 | .assign x=>val (ρ x)
 | .pick c a b=>match ρ c with
  | .N1 t=>val (if t then ρ a else ρ b)
  |_=>none
 | .binOp op t x y _=>AOJ P op t (ρ x) (ρ y)
 | .unOp op _ x=>unE op (ρ x)
 | .convert src dst x=>AJ4 P src dst (ρ x)
 | .extract x i=>kZ (ρ x) i
 | .field t x f=>AAE P t (ρ x) f
 | .build t parts=>AAF P t (parts.toList.map fun q=>(q.1,ρ q.2))
 | .indexAddr t x i=>X6 P t (ρ x) (ρ i)
 | .fieldAddr t x f=>X7 P t (ρ x) f
 | .slice t x l h m=>AAG P t (ρ x) (l.map ρ) (h.map ρ) (m.map ρ)
 | .index t x i=>AAH P t (ρ x) (ρ i)
 | .nilCheck x=>match ρ x with
  | .el i k sz off=>val (.el i k sz off)
  | .loc i off=>val (.loc i off)
  | .xW f cs=>val (.xW f cs)
  |_=>none
 | .makeFunc fn first captured=>match fn,first with
  | .func f,⟨[]⟩=>val (.xW f (captured.toList.map ρ))
  |_,_=>none
 | .call { callee:= .builtin b,args,argTypes }=>k_ P b argTypes.toList (args.toList.map ρ)
 |_=>none
section
variable {P:Program} (w:World)
theorem T7 {x:SV} {b:Bool} (h:toB x=some b):(x.den E)= .bool b:=by
 cases x <;> simp_all [toB,SV.den]
theorem rI {c:SV} {q:DP} {n:Nat} (h:cnt c=some (q,n)) (hp:q.p):∃ k y,(c.den E)= .int k y/\0<=y/\y.toNat=n:=by
 cases c <;> simp only[cnt,AX,DB,reduceCtorEq] at h
 case int k y=>obtain⟨rfl,rfl⟩:=h;exact⟨k,y,rfl,hp,rfl⟩
 case u64 x=>obtain⟨rfl,rfl⟩:=h;exact⟨.u64,x.toNat,rfl,by omega,by simp⟩
theorem X8 (n:Nat) (h:n<2 ^ 64):IntKind.u64.wrap (n:Int)=n:=IntWalk.u64_in _ ⟨by omega,by omega⟩
theorem KQ (n:Int):IntKind.u64.wrap n=n%18446744073709551616:=IntKind.wrap_u64 n
def Pu.ok (r:Pu) (R:SV->Prop):Prop:=∀ p v,r=some (p,v)->cnd p->R v
theorem BF {v:SV} {R:SV->Prop} (h:R v):(val v).ok R:=by
 intro p v' he _;simp only[val,AX,DB] at he;obtain⟨-,rfl⟩:=he;exact h
theorem JI {q:Prop} [Decidable q] {v:SV} {R:SV->Prop} (h:q->R v):(UP q v).ok R:=by
 intro p v' he hp;simp only[UP,AX,DB] at he;obtain⟨rfl,rfl⟩:=he;exact h hp
theorem ok_none {R:SV->Prop}:Pu.ok none R:=by intro p v h;cases h
def D6 (E:Env) (P:Program) (s:Sem Value) (w:World) (v:SV):Prop:=s.run P w= .ok (v.den E) w
theorem AJ5 {k:IntKind} {a y:Int} {yk:IntKind} (hy:0<=y):(Op.shift .shl k a yk y).run P w= .ok (.int k (k.wrap (a*2 ^ (min y.toNat k.bits)))) w:=by
 unfold Op.shift;rw[AD (by omega)];rfl
theorem AJ6 {k:IntKind} {a y:Int} {yk:IntKind} (hy:0<=y):(Op.shift .shr k a yk y).run P w= .ok (.int k (a.fdiv (2 ^ (min y.toNat k.bits)))) w:=by
 unfold Op.shift;rw[AD (by omega)];rfl
theorem AD1 (n:Nat):(2:Int) ^ n=((2 ^ n:Nat):Int):=by simp
theorem ASY (b:BitVec 64) (n:Nat):IntKind.u64.wrap ((b.toNat:Int)*2 ^ min n 64)=((b <<< n).toNat:Int):=by
 have h1:((b.toNat:Int)*2 ^ min n 64)=((b.toNat*2 ^ min n 64:Nat):Int):=by rw[AD1];rfl
 rw[KQ,h1,BitVec.toNat_shiftLeft,Nat.shiftLeft_eq]
 have h2:(18446744073709551616:Int)=((2 ^ 64:Nat):Int):=rfl
 rw[h2,←Int.natCast_emod]
 congr 1
 rcases Nat.le_total n 64 with hn|hn
 ·rw[Nat.min_eq_left hn]
 ·rw[Nat.min_eq_right hn]
  obtain⟨d,rfl⟩:=AIM hn
  rw[Nat.pow_add,←ACY,Nat.mul_right_comm,Nat.mul_mod_left,Nat.mul_mod_left]
theorem fdiv_pow (a:Int) (n:Nat):a.fdiv (2 ^ n)=a / 2 ^ n:=Int.fdiv_eq_ediv_of_nonneg _ (Int.le_of_lt (Int.pow_pos (by decide)))
theorem ASZ (b:BitVec 64) (n:Nat):(b.toNat:Int).fdiv (2 ^ min n 64)=((b >>> n).toNat:Int):=by
 rw[fdiv_pow,AD1]
 have h1:((b.toNat:Int) / ((2 ^ min n 64:Nat):Int))=((b.toNat / 2 ^ min n 64:Nat):Int):=rfl
 rw[h1,ANY,ANW]
 congr 1
 rcases Nat.le_total n 64 with hn|hn
 ·rw[Nat.min_eq_left hn]
 ·rw[Nat.min_eq_right hn]
  have hb:=b.isLt
  rw[AIZ hb,AIZ (qN hb (AO6 (by decide) hn))]
theorem binOp_shl (t:TypeId) {k yk:IntKind} {a y:Int}:binOp .shl t (.int k a) (.int yk y)=Op.shift .shl k a yk y:=rfl
theorem binOp_shr (t:TypeId) {k yk:IntKind} {a y:Int}:binOp .shr t (.int k a) (.int yk y)=Op.shift .shr k a yk y:=rfl
theorem AOK (op:BinOp) (x c:SV) (t:TypeId):(shE op x c).ok (D6 E P (binOp op t (x.den E) (c.den E)) w):=by
 unfold shE
 split
 ·exact ok_none
 ·rename_i q n hc
  split
  ·refine @JI _ q.d _ _ fun h1=> ?_
   obtain⟨yk,y,hcd,hy,rfl⟩:=rI hc h1
   rw[D6,hcd]
   simp only[SV.den,binOp_shl,AJ5 w hy,IntKind.bits]
  ·refine @JI _ q.d _ _ fun h1=> ?_
   obtain⟨yk,y,hcd,hy,rfl⟩:=rI hc h1
   rw[D6,hcd]
   simp only[SV.den,binOp_shr,AJ6 w hy,IntKind.bits,fdiv_pow]
  ·refine @JI _ q.d _ _ fun h1=> ?_
   obtain⟨yk,y,hcd,hy,rfl⟩:=rI hc h1
   rw[D6,hcd]
   simp only[SV.den,binOp_shl,AJ5 w hy,IntKind.bits,ASY]
  ·refine @JI _ q.d _ _ fun h1=> ?_
   obtain⟨yk,y,hcd,hy,rfl⟩:=rI hc h1
   rw[D6,hcd]
   simp only[SV.den,binOp_shr,AJ6 w hy,IntKind.bits,ASZ]
  ·exact ok_none
theorem AT0 (op:BinOp) (k:IntKind) (a b:Int) (t:TypeId) (h1:op≠ .shl) (h2:op≠ .shr):
  (AST op k a b).ok (D6 E P (binOp op t (.int k a) (.int k b)) w):=by
 have hk:¬(k≠k):=by simp
 cases op <;> simp only[AST,ne_eq,not_true,reduceCtorEq,not_false_eq_true] at*
 case add=>exact BF (by simp [D6,binOp,Op.intArith,SV.den])
 case sub=>exact BF (by simp [D6,binOp,Op.intArith,SV.den])
 case mul=>exact BF (by simp [D6,binOp,Op.intArith,SV.den])
 case quo=>exact JI fun h=>by simp [D6,binOp,Op.intDiv,SV.den,h]
 case rem=>exact JI fun h=>by simp [D6,binOp,Op.intDiv,SV.den,h]
 case and=>split <;> first|exact ok_none|exact BF rfl
 case or=>split <;> first|exact ok_none|exact BF rfl
 case xor=>split <;> first|exact ok_none|exact BF rfl
 case andNot=>split <;> first|exact ok_none|exact BF rfl
 case eql=>exact BF (by simp [D6,binOp,Op.intCmp,SV.den];rfl)
 case neq=>exact BF (by simp [D6,binOp,Op.intCmp,SV.den];rfl)
 case lss=>exact BF (by simp [D6,binOp,Op.intCmp,SV.den])
 case leq=>exact BF (by simp [D6,binOp,Op.intCmp,SV.den])
 case gtr=>exact BF (by simp [D6,binOp,Op.intCmp,SV.den])
 case geq=>exact BF (by simp [D6,binOp,Op.intCmp,SV.den])
theorem pC (a b:BitVec 64):((a.toNat:Int)=(b.toNat:Int))↔a=b:=by
 rw[Int.ofNat_inj];exact BitVec.toNat_inj
theorem JX (a:BitVec 64):BitVec.ofInt 64 (a.toNat:Int)=a:=by simp
theorem AT1 (op:BinOp) (a b:BitVec 64) (t:TypeId) (h1:op≠ .shl) (h2:op≠ .shr):
  (ASU op a b).ok (D6 E P (binOp op t (.int .u64 a.toNat) (.int .u64 b.toNat)) w):=by
 have DM:=fun x:BitVec 64=>x.isLt
 have hw:∀ x:BitVec 64,IntKind.u64.wrap (x.toNat:Int)=x.toNat:=fun x=>X8 _ x.isLt
 have h64:(18446744073709551616:Int)=((2 ^ 64:Nat):Int):=rfl
 have hm:∀ n:Nat,(n:Int)%18446744073709551616=((n%2 ^ 64:Nat):Int):=fun n=>rfl
 have key:∀ (v:Value) (o:SV),(∀ x,o= .u64 x->v= .int .u64 (x.toNat:Int))->(∃ x,o= .u64 x)->(Result.ok v w=Result.ok (o.den E) w):=by
  rintro v o h ⟨x,rfl⟩;rw[h x rfl];rfl
 cases op <;> simp only[ASU,ne_eq,not_true,reduceCtorEq,not_false_eq_true] at*
 case add=>
  refine BF ?_
  have e:IntKind.u64.wrap ((a.toNat:Int)+b.toNat)=((a+b).toNat:Int):=by
   rw[KQ,BitVec.toNat_add,←ACU,hm]
  show Result.ok (Value.int .u64 (IntKind.u64.wrap ((a.toNat:Int)+b.toNat))) w=_
  rw[e];rfl
 case sub=>
  refine BF ?_
  have e:IntKind.u64.wrap ((a.toNat:Int)-b.toNat)=((a-b).toNat:Int):=by
   rw[KQ,BitVec.toNat_sub]
   have:=DM a;have:=DM b
   omega
  show Result.ok (Value.int .u64 (IntKind.u64.wrap ((a.toNat:Int)-b.toNat))) w=_
  rw[e];rfl
 case mul=>
  refine BF ?_
  have e:IntKind.u64.wrap ((a.toNat:Int)*b.toNat)=((a*b).toNat:Int):=by
   rw[KQ,BitVec.toNat_mul,←AJ1,hm]
  show Result.ok (Value.int .u64 (IntKind.u64.wrap ((a.toNat:Int)*b.toNat))) w=_
  rw[e];rfl
 case quo=>
  refine JI fun h=> ?_
  have h0:¬(b.toNat:Int)=0:=by
   intro h';apply h;apply AIQ;have:b.toNat=0:=by omega
   rw[this];rfl
  have e:IntKind.u64.wrap ((a.toNat:Int).tdiv b.toNat)=((a / b).toNat:Int):=by
   rw[Int.tdiv_eq_ediv_of_nonneg (by omega),←hw (a / b),sN];rfl
  have e2:(binOp .quo t (.int .u64 a.toNat) (.int .u64 b.toNat)).run P w= .ok (.int .u64 (IntKind.u64.wrap ((a.toNat:Int).tdiv b.toNat))) w:=by
   show (Op.intDiv .quo .u64 a.toNat b.toNat).run P w=_
   unfold Op.intDiv;rw[AD h0];rfl
  rw[D6,e2,e];rfl
 case rem=>
  refine JI fun h=> ?_
  have h0:¬(b.toNat:Int)=0:=by
   intro h';apply h;apply AIQ;have:b.toNat=0:=by omega
   rw[this];rfl
  have e:((a.toNat:Int).tmod b.toNat)=((a%b).toNat:Int):=by
   rw[Int.tmod_eq_emod_of_nonneg (by omega),ACP];rfl
  have e2:(binOp .rem t (.int .u64 a.toNat) (.int .u64 b.toNat)).run P w= .ok (.int .u64 ((a.toNat:Int).tmod b.toNat)) w:=by
   show (Op.intDiv .rem .u64 a.toNat b.toNat).run P w=_
   unfold Op.intDiv;rw[AD h0];rfl
  rw[D6,e2,e];rfl
 case and=>
  refine BF ?_
  show Result.ok (Value.int .u64 (IntKind.u64.wrap ((BitVec.ofInt 64 a.toNat &&& BitVec.ofInt 64 b.toNat).toNat:Int))) w=_
  rw[JX,JX,hw];rfl
 case or=>
  refine BF ?_
  show Result.ok (Value.int .u64 (IntKind.u64.wrap ((BitVec.ofInt 64 a.toNat|||BitVec.ofInt 64 b.toNat).toNat:Int))) w=_
  rw[JX,JX,hw];rfl
 case xor=>
  refine BF ?_
  show Result.ok (Value.int .u64 (IntKind.u64.wrap ((BitVec.ofInt 64 a.toNat ^^^ BitVec.ofInt 64 b.toNat).toNat:Int))) w=_
  rw[JX,JX,hw];rfl
 case andNot=>
  refine BF ?_
  show Result.ok (Value.int .u64 (IntKind.u64.wrap ((BitVec.ofInt 64 a.toNat &&& ~~~ BitVec.ofInt 64 b.toNat).toNat:Int))) w=_
  rw[JX,JX,hw];rfl
 case eql=>
  refine BF ?_
  show Result.ok (Value.bool ((a.toNat:Int)==(b.toNat:Int))) w=Result.ok (Value.bool (decide (a=b))) w
  congr 2;rw[ZP,VZ,NI];exact pC a b
 case neq=>
  refine BF ?_
  show Result.ok (Value.bool ((a.toNat:Int) !=(b.toNat:Int))) w=Result.ok (Value.bool (decide (¬a=b))) w
  congr 2;rw[ZP,bne_iff_ne,NI,ne_eq,pC]
 case lss=>exact BF (by simp [D6,binOp,Op.intCmp,SV.den])
 case leq=>exact BF (by simp [D6,binOp,Op.intCmp,SV.den])
 case gtr=>exact BF (by simp [D6,binOp,Op.intCmp,SV.den])
 case geq=>exact BF (by simp [D6,binOp,Op.intCmp,SV.den])
theorem lA (d:Nat) {t:TypeId} (h:P.underlying t=some .bool) (a b:Bool):(Op.equalIn (d+1) t (.bool a) (.bool b)).run P w= .ok (a==b) w:=by
 simp [Op.equalIn,run_underlying h]
theorem run_equal_bool {t:TypeId} (h:P.underlying t=some .bool) (a b:Bool):(Op.equal t (.bool a) (.bool b)).run P w= .ok (a==b) w:=
 lA w 9999 h a b
theorem AOL (a b:ByteArray):(a.toList==b.toList)=decide (a=b):=by
 rw[ZP,VZ,NI,ByteArray.toList_eq,ByteArray.toList_eq]
 constructor
 ·intro h;cases a;cases b;simp at h;simp [h]
 ·rintro rfl;rfl
theorem AT2 (op:BinOp) (a b:Nat) (t:TypeId):(ASV op a b).ok (D6 E P (binOp op t (.float .f64 a) (.float .f64 b)) w):=by
 have arith:∀ op:BinOp,(∀ r,JW op a b=some r->(Op.floatArith op .f64 a b).run P w= .ok (.float .f64 r) w)->(UP ((JW op a b).isSome=true) (.QP ((JW op a b).getD 0)):Pu).ok (D6 E P (Op.floatArith op .f64 a b) w):=by
  intro op hr
  refine JI fun h=> ?_
  obtain⟨r,h1⟩:=AIK.1 h
  rw[D6,hr r h1,h1];rfl
 have cmp:∀ (c:Bool) (p:Prop) [Decidable p],(c=true↔p)->Result.ok (Value.bool c) w=Result.ok ((SV.prop p inferInstance).den E) w:=by
  intro c p _ h
  have:c=decide p:=by rw[ZP,h,NI]
  rw[this];rfl
 cases op <;> simp only[ASV]
 case add=>exact arith .add fun r h=>by simp only[JW] at h;simp [Op.floatArith,h]
 case sub=>exact arith .sub fun r h=>by simp only[JW] at h;simp [Op.floatArith,h]
 case mul=>exact arith .mul fun r h=>by simp only[JW] at h;simp [Op.floatArith,h]
 case quo=>exact arith .quo fun r h=>by simp only[JW] at h;simp [Op.floatArith,h]
 case eql=>exact BF (cmp (D5 a b==some .eq) _ (by simp))
 case neq=>exact BF (cmp (D5 a b !=some .eq) _ (by simp))
 case lss=>exact BF (cmp (D5 a b==some .lt) _ (by simp))
 case leq=>exact BF (cmp (D5 a b==some .lt||D5 a b==some .eq) _ (by simp))
 case gtr=>exact BF (cmp (D5 a b==some .gt) _ (by simp))
 case geq=>exact BF (cmp (D5 a b==some .gt||D5 a b==some .eq) _ (by simp))
 all_goals exact ok_none
theorem AGA (k:Nat):∃ s f,FloatKind.f64.format.read (V0 k)= .nan s f:=by
 unfold Ieee.Format.read
 have hb:FloatKind.f64.format.binade=4503599627370496:=by decide
 have hs:FloatKind.f64.format.signWeight=9223372036854775808:=by decide
 have hi:FloatKind.f64.format.infRung=9218868437227405312:=by decide
 simp only[hb,hs,hi]
 have h' :9218868437227405312<V0 k%9223372036854775808:=by
  show 9218868437227405312<((k%2)*9223372036854775808+9218868437227405312+1+(k / 2)%4503599627370495)%9223372036854775808
  have hq:(k / 2)%4503599627370495<4503599627370495:=xV _ (by decide)
  have hp:k%2<2:=xV _ (by decide)
  generalize k%2=p at*
  generalize (k / 2)%4503599627370495=q at*
  omega
 rw[AD (by omega),AD (by omega),AD (by omega)]
 exact⟨_,_,rfl⟩
theorem AD2 (k b:Nat):D5 (V0 k) b=none/\D5 b (V0 k)=none:=by
 obtain⟨s,f,h⟩:=AGA k
 unfold D5 Ieee.Format.order
 rw[h]
 refine⟨rfl, ?_⟩
 unfold Ieee.Datum.order
 cases FloatKind.f64.format.read b <;> rfl
theorem ALH (a b:Option Nat) (k j:Nat):D5 (a.getD (V0 k)) (b.getD (V0 j))=kY a b:=by
 cases a with
 |none=>exact (AD2 k _).1
 |some a=>cases b with
  |none=>exact (AD2 j _).2
  |some b=>rfl
theorem AGB (op:BinOp) (a b:Option Nat) (k j:Nat) (t:TypeId):(nfE op a b).ok (D6 E P (binOp op t (.float .f64 (a.getD (V0 k))) (.float .f64 (b.getD (V0 j)))) w):=by
 have cmp:∀ (c:Bool) (p:Prop) [Decidable p],(c=true↔p)->Result.ok (Value.bool c) w=Result.ok ((SV.prop p inferInstance).den E) w:=by
  intro c p _ h
  have:c=decide p:=by rw[ZP,h,NI]
  rw[this];rfl
 have e:=ALH a b k j
 generalize a.getD (V0 k)=A at e ⊢
 generalize b.getD (V0 j)=B at e ⊢
 cases op <;> simp only[nfE]
 case eql=>exact BF (cmp (D5 A B==some .eq) _ (by rw[e];simp))
 case neq=>exact BF (cmp (D5 A B !=some .eq) _ (by rw[e];simp))
 case lss=>exact BF (cmp (D5 A B==some .lt) _ (by rw[e];simp))
 case leq=>exact BF (cmp (D5 A B==some .lt||D5 A B==some .eq) _ (by rw[e];simp))
 case gtr=>exact BF (cmp (D5 A B==some .gt) _ (by rw[e];simp))
 case geq=>exact BF (cmp (D5 A B==some .gt||D5 A B==some .eq) _ (by rw[e];simp))
 all_goals exact ok_none
theorem AT3 (op:BinOp) (t:TypeId) (x y:SV):(AAD P op t x y).ok (D6 E P (binOp op t (x.den E) (y.den E)) w):=by
 unfold AAD
 split
 ·exact AOK w _ x y t
 ·exact AOK w _ x y t
 ·rename_i h1 h2
  split
  ·split
   ·rename_i hk;subst hk
    exact AT0 w op _ _ _ t h1 h2
   ·exact ok_none
  ·exact AT1 w op _ _ t h1 h2
  ·split
   ·refine BF ?_
    rename_i a b _
    show Result.ok (Value.bool (a.toList==b.toList)) w=Result.ok (Value.bool (decide (a=b))) w
    rw[AOL]
   ·refine BF ?_
    rename_i a b _
    show Result.ok (Value.bool (!(a.toList==b.toList))) w=Result.ok (Value.bool (decide (¬a=b))) w
    rw[AOL,decide_not]
   ·refine JI fun ZR=> ?_
    rename_i a b _
    show (if ((a.size+b.size:Nat):Int)>IntKind.i64.max then (unsupported _:Sem Value) else pure (.string (a++b))).run P w=_
    rw[AD (by have:IntKind.i64.max=9223372036854775807:=(by decide);omega)]
    rfl
   ·exact ok_none
  ·exact AT2 w _ _ _ t
  ·exact AGB w _ _ _ _ _ t
  ·exact AGB w _ _ (some _) _ 0 t
  ·exact AGB w _ (some _) _ 0 _ t
  ·split
   ·rename_i ha hb hu
    refine BF ?_
    rw[D6,T7 ha,T7 hb]
    simp [binOp,SV.den,run_equal_bool w hu];rfl
   ·rename_i ha hb hu
    refine BF ?_
    rw[D6,T7 ha,T7 hb]
    simp [binOp,SV.den,run_equal_bool w hu];rfl
   ·exact ok_none
theorem AX5 (op:UnOp) (x:SV):(unE op x).ok (D6 E P (Op.unary op (x.den E)) w):=by
 unfold unE
 split
 ·exact BF (show Sem.run _ _ _=_ from rfl)
 ·exact BF (show Sem.run _ _ _=_ from rfl)
 ·exact BF (by simp [D6,Op.unary,SV.den])
 ·exact BF (by simp only[D6,Op.unary,SV.den,Op.intArith];rfl)
 ·rename_i x
  refine BF ?_
  have e:IntKind.u64.wrap ((0:Int)-(x.toNat:Int))=((0#64-x).toNat:Int):=by
   rw[KQ,BitVec.toNat_sub]
   have:=x.isLt
   simp only[AAB]
   omega
  show Result.ok (Value.int .u64 (IntKind.u64.wrap ((0:Int)-(x.toNat:Int)))) w=_
  rw[e];rfl
 ·exact BF rfl
 ·rename_i x
  refine BF ?_
  have hw:∀ x:BitVec 64,IntKind.u64.wrap (x.toNat:Int)=x.toNat:=fun x=>X8 _ x.isLt
  have:BitVec.ofInt 64 (IntKind.u64.max) ^^^ x= ~~~x:=by
   have:BitVec.ofInt 64 (IntKind.u64.max)=BitVec.allOnes 64:=by decide
   rw[this,BitVec.allOnes_xor]
  show Result.ok (Value.int .u64 (IntKind.u64.wrap ((BitVec.ofInt 64 (IntKind.u64.max) ^^^ BitVec.ofInt 64 (x.toNat:Int)).toNat:Int))) w=_
  rw[JX,this,hw];rfl
 ·exact ok_none
theorem AGC (n:Int):IntKind.u64.wrap n=((BitVec.ofInt 64 n).toNat:Int):=by
 rw[KQ,sG]
 have:(0:Int)<=n%18446744073709551616:=by omega
 simp;omega
theorem OU {src dst:TypeId} {ks kd k:IntKind} (hs:P.underlying src=some (.int ks)) (hd:P.underlying dst=some (.int kd)) (n:Int):
  (convert src dst (.int k n)).run P w= .ok (.int kd (kd.wrap n)) w:=by
 simp [convert,run_underlying hs,run_underlying hd,Conv.intToInt]
theorem AOM (src dst:TypeId) (x:SV):(AJ4 P src dst x).ok (D6 E P (convert src dst (x.den E)) w):=by
 unfold AJ4
 split
 ·rename_i hs hd
  split
  ·exact BF (by simp only[D6,SV.den,OU w hs hd,AGC])
  ·exact BF (by simp only[D6,SV.den,OU w hs hd])
 ·rename_i hs hd
  split
  ·exact BF (by simp only[D6,SV.den,OU w hs hd];rw[X8 _ (BitVec.isLt _)])
  ·exact BF (by simp only[D6,SV.den,OU w hs hd])
 ·rename_i hs hd
  exact BF (by simp [D6,convert,run_underlying hs,run_underlying hd,SV.den])
 ·rename_i hs hd
  exact BF (by simp [D6,convert,run_underlying hs,run_underlying hd,SV.den,Conv.intToFloat,bC])
 ·rename_i hs hd
  exact BF (by simp [D6,convert,run_underlying hs,run_underlying hd,SV.den,Conv.intToFloat,bC])
 ·rename_i hs hd
  rename_i fk kd0 b
  have key:∀ kd:IntKind,P.underlying dst=some (.int kd)->fIn kd b=true->(convert src dst (.float .f64 b)).run P w= .ok (.int kd ((sY b).getD 0)) w:=by
   intro kd hd h
   unfold fIn at h
   split at h
   ·rename_i n hn
    simp only[IW] at h
    have hn' :=hn
    unfold sY at hn'
    simp [convert,run_underlying hs,run_underlying hd,Conv.floatToInt,hn',hn,h.1,h.2]
   ·cases h
  split
  ·refine JI fun h=> ?_
   refine (key .u64 hd h).trans ?_
   unfold fIn at h
   split at h
   ·rename_i n hn
    simp only[IW] at h
    have h1:(0:Int)<=n:=h.1
    have h2:n<=18446744073709551615:=h.2
    rw[hn]
    show Result.ok (Value.int .u64 n) w=Result.ok (Value.int .u64 ((BitVec.ofInt 64 n).toNat:Int)) w
    rw[sG]
    congr 2
    have:((n%((2 ^ 64:Nat):Int)).toNat:Int)=n:=by
     rw[AIX h1 (by omega)];omega
    exact this.symm
   ·cases h
  ·exact JI fun h=>key _ hd h
 ·rename_i hs hd
  exact BF (by simp [D6,convert,run_underlying hs,run_underlying hd,SV.den,Conv.floatToFloat])
 ·exact ok_none
theorem AD3 (op:BinOp) (t:TypeId) (x y:Operand) {a:Value} (b:Value) (h1:∀ c,a≠ .agg c) (h2:a≠ .nilIface):(eqGuard op t x y a b).run P w= .ok () w:=by
 cases a <;> first|exact absurd rfl h2|exact absurd rfl (h1 _)|(cases op <;> rfl)
theorem AGD {op:BinOp} {t:TypeId} {x y:SV} {r:Option DP×SV} (h:AAD P op t x y=some r):(∀ c,(x.den E)≠ .agg c)/\(x.den E)≠ .nilIface:=by
 have hb:(∃ v,x= .raw v)\/(∃ v,x= .agg v)\/(∃ v,x= .nF v)\/((∀ c,(x.den E)≠ .agg c)/\(x.den E)≠ .nilIface):=by
  cases x with
  |raw v=>exact .inl ⟨v,rfl⟩
  |agg v=>exact .inr (.inl ⟨v,rfl⟩)
  |nF v=>exact .inr (.inr (.inl ⟨v,rfl⟩))
  |_=>exact .inr (.inr (.inr ⟨fun c hc=>by simp [SV.den] at hc,fun hc=>by simp [SV.den] at hc⟩))
 rcases hb with ⟨v,rfl⟩|⟨v,rfl⟩|⟨v,rfl⟩|hb
 ·exfalso
  unfold AAD at h
  split at h
  ·unfold shE at h;split at h <;> simp at h
  ·unfold shE at h;split at h <;> simp at h
  ·split at h <;> simp_all [toB]
 ·exfalso
  unfold AAD at h
  split at h
  ·unfold shE at h;split at h <;> simp at h
  ·unfold shE at h;split at h <;> simp at h
  ·split at h <;> simp_all [toB]
 ·exfalso
  unfold AAD at h
  split at h
  ·unfold shE at h;split at h <;> simp at h
  ·unfold shE at h;split at h <;> simp at h
  ·split at h <;> simp_all [toB]
 ·exact hb
theorem GH (a b:List SV):AL E (a++b)=AL E a++AL E b:=by simp [FB]
theorem AS (a:List SV):(AL E a).length=a.length:=by simp [FB]
theorem FJ (a:List SV) (i:Nat):(AL E a)[i]? =(a[i]?).map (SV.den E):=by simp [FB]
theorem LM {t:TypeId} {d:TypeDesc} (h:P.underlying t=some d):(isAgg t).run P w= .ok (GU P t) w:=by
 unfold isAgg GU
 rw[h]
 cases d <;> simp [run_underlying h]
theorem AON (t:TypeId) (cs:List SV) (off:Nat):(AD0 P t cs off).ok fun v=>(part t (AL E cs).toArray off).run P w= .ok (v.den E) w:=by
 unfold AD0
 split
 ·rename_i i d hi hd
  split
  ·rename_i ha
   refine BF ?_
   simp [part,LM w hd,ha,sizeOf,typeInfo,hi,SV.den,FB,List.map_take,List.map_drop]
  ·rename_i ha
   split
   ·rename_i v hv
    refine BF ?_
    simp [part,LM w hd,ha,FJ,hv]
   ·exact ok_none
 ·exact ok_none
theorem ALI (b:Bool):∀ l,WI (b::l)=(b && WI l)
 | []=>by simp [WI]
 |_::_=>rfl
theorem AD4 {t:TypeId} {kk:IntKind} (hu:P.underlying t=some (.int kk)) (d:Nat) (k:IntKind) (a b:Int):
  (Op.equalIn (d+1) t (.int k a) (.int k b)).run P w= .ok (decide (a=b)) w:=by
 rw[Op.equalIn,Sem.run_bind,run_underlying hu]
 show (if k = k then pure (a == b) else stuck "==: kinds differ" : Sem Bool).run P w = _
 rw[AB rfl]
 rfl
def sZ (d:Nat) (X Y:Array Value) (f:Field):Sem (ForInStep (Option Bool×Unit)):=
 if f.name ≠ "_" then do
  if !(<-Op.equalIn d f.type (<-part f.type X f.offset) (<-part f.type Y f.offset)) then pure (ForInStep.done (some false,()))
  else pure (ForInStep.yield (none,()))
 else pure (ForInStep.yield (none,()))
theorem AGE {f:Field} {d:Nat} {xs ys:List SV} {b:Bool} (h:AOI P f xs ys=some b):
  (sZ (d+1) (AL E xs).toArray (AL E ys).toArray f).run P w= .ok (if b=true then .yield (none,()) else .done (some false,())) w:=by
 unfold AOI at h
 split at h
 ·rename_i k0 k a k' c i hn hu hx hy hi
  split at h
  ·rename_i hk
   subst hk
   simp only[AX] at h
   subst h
   have hn' : f.name ≠ "_" := by simpa using hn
   have h0:GU P f.type=false:=by unfold GU;rw[hu]
   have hp:∀ zs:List SV,∀ n,zs[f.offset]? =some (.int k n)->(part f.type (AL E zs).toArray f.offset).run P w= .ok (.int k n) w:=by
    intro zs n hz
    simp [part,LM w hu,h0,FJ,hz,SV.den]
   unfold sZ
   rw[AB hn']
   simp only[Sem.run_bind,hp xs a hx,hp ys c hy,Result.andThen,AD4 w hu]
   by_cases hac:a=c
   ·simp [hac]
   ·simp [hac]
  ·cases h
 ·rename_i k0 u v i hn hu hx hy hi
  split at h
  ·rename_i a c ha hc
   simp only[AX] at h
   subst h
   have hn' : f.name ≠ "_" := by simpa using hn
   have h0:GU P f.type=false:=by unfold GU;rw[hu]
   have hp:∀ zs:List SV,∀ (z:SV) (n:Bool),zs[f.offset]? =some z->toB z=some n->(part f.type (AL E zs).toArray f.offset).run P w= .ok (.bool n) w:=by
    intro zs z n hz hn
    rw[<-T7 hn (E:=E)]
    simp [part,LM w hu,h0,FJ,hz]
   unfold sZ
   rw[AB hn']
   simp only[Sem.run_bind,hp xs _ a hx ha,hp ys _ c hy hc,Result.andThen,lA w _ hu]
   by_cases hac:a=c
   ·simp [hac]
   ·simp [hac]
  ·cases h
 ·cases h
theorem s_ (d:Nat) (xs ys:List SV):∀ (fs:List Field) (bs:List Bool),nK P xs ys fs=some bs→
  (forIn fs ((none,()):Option Bool×Unit) (fun f _=>sZ (d+1) (AL E xs).toArray (AL E ys).toArray f):Sem (Option Bool×Unit)).run P w= .ok (if WI bs=true then none else some false,()) w
 | [],bs,h=>by
  simp only[nK,AX] at h
  subst h
  simp [WI]
 |f::r,bs,h=>by
  rw[nK] at h
  split at h
  ·rename_i b l hb hl
   simp only[AX] at h
   subst h
   rw[List.forIn_cons,Sem.run_bind,AGE w hb,ALI]
   cases b with
   |true=>exact s_ d xs ys r l hl
   |false=>rfl
  ·cases h
theorem xY {t:TypeId} {fs:Array Field} {xs ys:List SV} {bs:List Bool} (hu:P.underlying t=some (.struct fs)) (hs:P.stoodInHeld t=false) (h:nK P xs ys fs.toList=some bs):
  (Op.equal t (.agg (AL E xs).toArray) (.agg (AL E ys).toArray)).run P w= .ok (WI bs) w:=by
 have h1:=s_ (E:=E) (P:=P) w 9998 xs ys fs.toList bs h
 rw[Op.equal,Op.maxDepth,Op.equalIn,Sem.run_bind,run_underlying hu]
 unfold sZ at h1
 have hp:(program:Sem Program).run P w= .ok P w:=rfl
 simp only[Result.andThen,Sem.run_bind,hp,hs,VL,QZ]
 rw[<-Array.forIn_toList]
 erw [h1]
 by_cases hb:WI bs=true
 ·simp [hb]
 ·simp only[AJ0] at hb
  rw[hb];rfl
theorem AT4 (op:BinOp) (t:TypeId) (xs ys:List SV) (x y:Operand):(ASW P op t xs ys).ok (D6 E P (do eqGuard op t x y (.agg (AL E xs).toArray) (.agg (AL E ys).toArray);binOp op t (.agg (AL E xs).toArray) (.agg (AL E ys).toArray)) w):=by
 unfold ASW
 split
 ·rename_i fs hu
  split
  ·exact ok_none
  ·rename_i hg
   simp only[Bool.or_eq_false_iff] at hg
   split
   ·rename_i bs hb
    refine BF ?_
    have h:=xY (E:=E) (P:=P) w hu hg.1 hb
    rw[D6,Sem.run_bind]
    have h2:(eqGuard .eql t x y (.agg (AL E xs).toArray) (.agg (AL E ys).toArray)).run P w= .ok () w:=by
     simp [eqGuard,hg.2]
    rw[h2]
    show (do pure (.bool (<-Op.equal t (.agg (AL E xs).toArray) (.agg (AL E ys).toArray))):Sem Value).run P w=_
    rw[Sem.run_bind,h]
    rfl
   ·rename_i bs hb
    refine BF ?_
    have h:=xY (E:=E) (P:=P) w hu hg.1 hb
    rw[D6,Sem.run_bind]
    have h2:(eqGuard .neq t x y (.agg (AL E xs).toArray) (.agg (AL E ys).toArray)).run P w= .ok () w:=by
     simp [eqGuard,hg.2]
    rw[h2]
    show (do pure (.bool (!(<-Op.equal t (.agg (AL E xs).toArray) (.agg (AL E ys).toArray)))):Sem Value).run P w=_
    rw[Sem.run_bind,h]
    rfl
   ·exact ok_none
 ·exact ok_none
theorem ALJ (t:TypeId) (x:SV) (f:Nat):(AAE P t x f).ok (D6 E P (Instr.field t (x.den E) f) w):=by
 unfold AAE
 split
 ·rename_i fs cs hu
  split
  ·rename_i fd hf
   have h:=AON (E:=E) (P:=P) w fd.type cs fd.offset
   intro p v he hp
   have:=h p v he hp
   rw[D6]
   simp only[Instr.field,SV.den,Sem.run_bind,run_underlying hu,Result.andThen,hf]
   simpa [asAgg] using this
  ·exact ok_none
 ·exact ok_none
theorem AD5 (x:SV) (i:Nat):(kZ x i).ok (D6 E P (Instr.extract (x.den E) i) w):=by
 unfold kZ
 split
 ·split
  ·rename_i v hv
   refine BF ?_
   simp [D6,Instr.extract,SV.den,FJ,hv]
  ·exact ok_none
 ·exact ok_none
theorem jA (v:SV) (h:NK v=false):(v.den E).cells=(AL E (BI v)).toArray:=by
 cases v with
 |raw u=>cases u <;> first|rfl|simp [NK] at h
 |nF t=>simp [NK] at h
 |_=>rfl
theorem AD6 (cs:List SV) (off:Nat) (vs:List SV):AL E (DT cs off vs)=(vs.zipIdx off).foldl (fun c (x,j)=>c.set j (x.den E)) (AL E cs):=by
 induction vs generalizing cs off with
 |nil=>rfl
 |cons v r ih=>simp [DT,ih,bB]
theorem iI (cs:List SV) (off:Nat) (vs:List SV):(DT cs off vs).length=cs.length:=by
 induction vs generalizing cs off with
 |nil=>rfl
 |cons v r ih=>simp [DT,ih]
theorem AGF (off:Nat) (vs:List Value) (cs:Array Value) (k:Nat):
  (vs.zipIdx k).foldl (fun cs (c,j)=>cs.setIfInBounds (off+j) c) cs=((vs.zipIdx (off+k)).foldl (fun c (x,j)=>c.set j x) cs.toList).toArray:=by
 induction vs generalizing cs k with
 |nil=>simp
 |cons v r ih=>
  simp only[List.zipIdx_cons,kU]
  rw[ih]
  simp [N0]
theorem X9 (place:Nat->Option (Nat×Nat)) (cs jB :List SV) (l:List (Nat×SV)) (hn:UQ l=true) (h:bD place cs l=some jB):
  Instr.fill place (AL E cs).toArray (l.map fun q=>(q.1,q.2.den E))=some (AL E jB).toArray:=by
 induction l generalizing cs with
 |nil=>simp only[bD,AX] at h;subst h;rfl
 |cons q r ih=>
  obtain⟨i,v⟩:=q
  simp only[UQ,sS,HQ,T4] at hn
  simp only[bD] at h
  cases hp:place i with
  |none=>simp [hp] at h
  |some os=>
   obtain⟨off,size⟩:=os
   simp only[hp] at h
   split at h
   ·rename_i hc
    have Q1:=jA (E:=E) v hn.1
    have hlen:(v.den E).cells.size=(BI v).length:=by rw[Q1];simp [AS]
    simp only[KU,Instr.fill,hp,hlen]
    have e1:((BI v).length !=size||decide (off+(BI v).length>(AL E cs).toArray.size))=false:=by
     simp [AS];omega
    rw[AD (by simp [AS];omega)]
    have e2:((v.den E).cells.zipIdx.foldl (fun cs (c,j)=>cs.setIfInBounds (off+j) c) (AL E cs).toArray)=(AL E (DT cs off (BI v))).toArray:=by
     rw[Q1]
     have:=AGF off (AL E (BI v)) (AL E cs).toArray 0
     simp only[NJ] at this
     rw[AD6]
     simp only[FB,List.zipIdx_map,List.foldl_map] at this ⊢
     simp at this ⊢
     rw[List.zipIdx_map,List.foldl_map]
     exact this
    rw[e2]
    exact ih _ hn.2 h
   ·cases h
theorem AGG (v:Value):((SR v).den E)=v:=by
 cases v with
 |int k n=>
  cases k <;> try rfl
  simp only[SR]
  split
  ·rename_i hn
   simp only[SV.den,AAB]
   congr 1
   omega
  ·rfl
 |float k n=>cases k <;> rfl
 |slice a l c=>
  simp only[SR]
  split <;> first|rfl|(simp_all [SV.den])
 |_=>rfl
theorem V1 (l:List Value):AL E (l.map SR)=l:=by
 induction l with
 |nil=>rfl
 |cons v r ih=>simp [AL,ih,AGG]
theorem UF {t:TypeId} {z:List SV} (h:NL P t=some z):∃ zv,(zeroValue t).run P w= .ok zv w/\zv.cells=(AL E z).toArray:=by
 unfold NL at h
 split at h
 ·rename_i i hi
  split at h
  ·rename_i zv hz
   simp only[AX] at h
   subst h
   refine⟨zv,by simp [zeroValue,typeInfo,hi,hz], ?_⟩
   rw[V1]
  ·cases h
 ·cases h
theorem nL {fs:List Field} {pl:List (Nat×Nat)} (h:OT P fs=some pl):
  (fs.mapM fun f=>do pure (f.offset,←sizeOf f.type):Sem (List (Nat×Nat))).run P w= .ok pl w:=by
 induction fs generalizing pl with
 |nil=>simp only[OT,AX] at h;subst h;rfl
 |cons f r ih=>
  simp only[OT] at h
  split at h
  ·rename_i i l hi hl
   simp only[AX] at h
   subst h
   have ZR:(sizeOf f.type).run P w= .ok i.size w:=by simp [sizeOf,typeInfo,hi]
   simp only[List.mapM_cons,Sem.run_bind,ZR,Result.andThen,Sem.run_pure,ih hl]
  ·cases h
theorem ALK (t:TypeId) (parts:List (Nat×SV)):(AAF P t parts).ok (D6 E P (Instr.build t (parts.map fun q=>(q.1,q.2.den E)).toArray) w):=by
 unfold AAF
 split
 ·exact ok_none
 rename_i hn
 have hn:UQ parts=true:=by simpa using hn
 split
 ·rename_i z fs hz hu
  obtain⟨zv,hzr,hzc⟩:=UF (E:=E) w hz
  split
  ·rename_i pl hpl
   split
   ·rename_i cs hf
    refine BF ?_
    have h1:=nL w hpl
    have h2:=X9 (E:=E) (fun i=>pl[i]?) z cs parts hn hf
    have h3:(fs.mapM fun f=>do pure (f.offset,←sizeOf f.type):Sem (Array (Nat×Nat))).run P w= .ok pl.toArray w:=by
     rw[Array.mapM_eq_mapM_toList,map_eq_pure_bind,Sem.run_bind,h1]
     rfl
    rw[D6]
    simp only[Instr.build,Sem.run_bind,hzr,Result.andThen,run_underlying hu,h3,hzc]
    simp only[sE,h2]
    rfl
   ·exact ok_none
  ·exact ok_none
 ·rename_i z n e hz hu
  obtain⟨zv,hzr,hzc⟩:=UF (E:=E) w hz
  split
  ·rename_i i hi
   split
   ·rename_i cs hf
    refine BF ?_
    have h2:=X9 (E:=E) _ z cs parts hn hf
    rw[D6]
    simp only[Instr.build,Sem.run_bind,hzr,Result.andThen,run_underlying hu,sizeOf,typeInfo,hzc]
    simp [hi,h2,SV.den]
   ·exact ok_none
  ·exact ok_none
 ·exact ok_none
theorem UG {x:SV} {n:Int} (h:idxOf x=some n):∃ k,(x.den E)= .int k n:=by
 cases x <;> simp only[idxOf,AX,reduceCtorEq] at h
 case int k y=>subst h;exact⟨k,rfl⟩
 case u64 y=>subst h;exact⟨.u64,rfl⟩
theorem H2 (b off n:Nat):(⟨b,off,none⟩:Addr).add n=⟨b,off+n,none⟩:=by
 unfold Addr.add
 split
 ·rename_i h;subst h;rfl
 ·rfl
theorem vY (t:TypeId) (x i:SV):(X6 P t x i).ok (D6 E P (Instr.indexAt t (x.den E) (i.den E)) w):=by
 unfold X6
 split
 ·rename_i hu hx
  split
  ·rename_i q hq
   refine JI ?_
   rintro⟨h2,h3⟩
   obtain⟨k,hk⟩:=UG (E:=E) hx
   rw[D6,hk]
   simp [Instr.indexAt,asIntOf,SV.den,run_underlying hu,sizeOf,typeInfo,hq,h2,h3,Instr.sureAddr,H2,N0]
  ·exact ok_none
 ·rename_i hu hx
  split
  ·rename_i q hq
   split
   ·rename_i h1
    refine JI ?_
    rintro⟨h2,h3⟩
    obtain⟨k,hk⟩:=UG (E:=E) hx
    rw[D6,hk]
    simp [Instr.indexAt,asIntOf,SV.den,run_underlying hu,sizeOf,typeInfo,hq,h1,h2,h3,Instr.sureAddr,Addr.add]
   ·exact ok_none
  ·exact ok_none
 ·exact ok_none
theorem vZ (t:TypeId) (x:SV) (f:Nat):(X7 P t x f).ok (D6 E P (Instr.fieldAt t (x.den E) f) w):=by
 unfold X7
 split
 ·rename_i fs i off hu
  split
  ·rename_i fd hf
   split
   ·rename_i q hq
    split
    ·exact ok_none
    ·rename_i h0
     refine BF ?_
     simp [D6,Instr.fieldAt,SV.den,run_underlying hu,hf,Instr.sureAddr,fieldPlace,sizeOf,typeInfo,hq,h0,H2,N0]
   ·exact ok_none
  ·exact ok_none
 ·rename_i fs i k sz off hu
  split
  ·rename_i fd hf
   split
   ·rename_i q hq
    split
    ·exact ok_none
    ·rename_i h0
     refine BF ?_
     simp [D6,Instr.fieldAt,SV.den,run_underlying hu,hf,Instr.sureAddr,fieldPlace,sizeOf,typeInfo,hq,h0,H2,N0]
   ·exact ok_none
  ·exact ok_none
 ·exact ok_none
theorem eK {x:SV} {n:Int} (h:idxOf x=some n) (y:Nat) (c:BoundsCode) (h0:0<=n) (h1:n<=y):(Instr.sliceBound (x.den E) y c).run P w= .ok n.toNat w:=by
 obtain⟨k,hk⟩:=UG h
 rw[hk]
 simp [Instr.sliceBound,asIntOf,h0,h1]
theorem tA {low high:Option SV} {h l:Option Int} {hn ln len cap d:Nat} (b:Bool) (hh:bnd high d=some (h,hn)) (hl:bnd low 0=some (l,ln)) (hd:d=len) (hb:Bd l h hn cap):
  (Instr.sliceBounds b len cap (low.map (SV.den E)) (high.map (SV.den E)) none).run P w= .ok (ln,hn,cap) w:=by
 subst hd
 unfold bnd at hh hl
 obtain⟨b1,b2⟩:=hb
 cases high with
 |none=>
  simp only[AX,DB] at hh
  obtain⟨rfl,rfl⟩:=hh
  cases low with
  |none=>
   simp only[AX,DB] at hl
   obtain⟨rfl,rfl⟩:=hl
   simp [Instr.sliceBounds]
  |some x=>
   simp only at hl
   split at hl
   ·rename_i n hx
    simp only[AX,DB] at hl
    obtain⟨rfl,rfl⟩:=hl
    simp [Instr.sliceBounds,eK w hx _ _ b2.1 b2.2]
   ·cases hl
 |some y=>
  simp only at hh
  split at hh
  ·rename_i m hy
   simp only[AX,DB] at hh
   obtain⟨rfl,rfl⟩:=hh
   cases low with
   |none=>
    simp only[AX,DB] at hl
    obtain⟨rfl,rfl⟩:=hl
    simp [Instr.sliceBounds,eK w hy _ _ b1.1 b1.2]
   |some x=>
    simp only at hl
    split at hl
    ·rename_i n hx
     simp only[AX,DB] at hl
     obtain⟨rfl,rfl⟩:=hl
     simp [Instr.sliceBounds,eK w hy _ _ b1.1 b1.2,eK w hx _ _ b2.1 b2.2]
    ·cases hl
  ·cases hh
theorem ALL (t:TypeId) (x:SV) (low high max:Option SV):(AAG P t x low high max).ok (D6 E P (Instr.sliceAt t (x.den E) (low.map (SV.den E)) (high.map (SV.den E)) (max.map (SV.den E))) w):=by
 unfold AAG
 split
 ·rename_i s hu
  split
  ·rename_i h hn l ln hh hl
   refine JI fun hb=> ?_
   simp only[D6,Instr.sliceAt,AJ2,SV.den,Sem.run_bind,run_underlying hu,Result.andThen]
   simp only[Instr.slice,Sem.run_bind,run_underlying hu,Result.andThen]
   simp [tA w false hh hl rfl hb]
  ·exact ok_none
 ·exact ok_none
theorem ALM (t:TypeId) (x i:SV):(AAH P t x i).ok (D6 E P (Instr.index t (x.den E) (i.den E)) w):=by
 unfold AAH
 split
 ·rename_i s n hu hx
  refine JI ?_
  rintro⟨h0,h1⟩
  obtain⟨k,hk⟩:=UG hx
  have DM:n.toNat<s.size:=by omega
  have hb:s[n.toNat]? =some s[n.toNat]:=getElem?_pos s n.toNat DM
  have SQ :s.data[n.toNat]? =some s[n.toNat]:=by
   have:n.toNat<s.data.size:=DM
   rw[ANX this];rfl
  rw[D6,hk]
  simp only[Instr.index,asIntOf,SV.den,Sem.run_bind,Sem.run_pure,Result.andThen,run_underlying hu,h0,G4,hb,KH,SQ]
  rfl
 ·exact ok_none
theorem AT5 (t:TypeId) (ts:List TypeId) (x:SV) (xs:List Value) (r:TypeId):(ASX P t x).ok (D6 E P (Builtin.len_ (t::ts).toArray r ((x.den E)::xs).toArray) w):=by
 unfold ASX
 split
 ·rename_i hu
  exact BF (by simp [D6,Builtin.len_,run_underlying hu,SV.den,goInt])
 ·rename_i hu
  exact BF (by simp [D6,Builtin.len_,run_underlying hu,SV.den,goInt])
 ·exact ok_none
theorem AD7 (b:Builtin) (ts:List TypeId) (xs:List SV) (r:TypeId) (cs:Array Bool):
  (k_ P b ts xs).ok fun v=>(builtin b ts.toArray r cs (xs.map (SV.den E)).toArray).run P w= .ok (.value (v.den E)) w:=by
 unfold k_
 split
 ·rename_i t ts x xs
  have h:=AT5 (E:=E) (P:=P) w t ts x (xs.map (SV.den E)) r
  intro p v he hp
  have:=h p v he hp
  rw[D6] at this
  simp only[KU,builtin,Sem.run_bind,this,Result.andThen]
  rfl
 ·split
  ·rename_i hk;subst hk
   refine BF ?_
   simp [builtin,Builtin.max_,Builtin.max2,SV.den]
  ·exact ok_none
 ·split
  ·rename_i hk;subst hk
   refine BF ?_
   simp [builtin,Builtin.min_,Builtin.min2,SV.den]
  ·exact ok_none
 ·rename_i a b
  refine JI fun h=> ?_
  obtain⟨o,ho⟩:=AIK.1 h
  have ho' :=ho
  unfold D5 at ho'
  cases o <;> simp [builtin,Builtin.max_,Builtin.max2,SV.den,ho',ho,AZV,eJ] <;> rfl
 ·rename_i a b
  refine JI fun h=> ?_
  obtain⟨o,ho⟩:=AIK.1 h
  have ho' :=ho
  unfold D5 at ho'
  cases o <;> simp [builtin,Builtin.min_,Builtin.min2,SV.den,ho',ho,AZW,eJ] <;> rfl
 ·exact ok_none
theorem Pu.ok.mono {r:Pu} {R R' :SV->Prop} (h:r.ok R) (hr:∀ v,R v->R' v):r.ok R' :=fun p v he hp=>hr v (h p v he hp)
theorem JJ {s:Sem Value} {v:SV} (h:D6 E P s w v):(do pure (Next.value (<-s)):Sem Next).run P w= .ok (.value (v.den E)) w:=by
 rw[Sem.run_bind,h];rfl
theorem ALN (ρ:Operand->SV) (op:Op):
  (bE P ρ op).ok fun v=>∀ o:Oper,o.op=op->(execOp (fun x=>((ρ x).den E)) o).run P w= .ok (.value (v.den E)) w:=by
 unfold bE
 split
 ·exact BF fun o ho=>by simp [execOp,ho]
 ·exact BF fun o ho=>by simp [execOp,ho]
 ·split
  ·rename_i t hc
   refine BF fun o ho=> ?_
   simp [execOp,ho,hc,SV.den,asBool]
   cases t <;> simp
  ·exact ok_none
 ·rename_i op' t x y _
  intro p v he hp o ho
  by_cases hag:∃ xs ys,ρ x= .agg xs/\ρ y= .agg ys
  ·obtain⟨xs,ys,hx,hy⟩:=hag
   rw[hx,hy] at he
   have h:=AT4 (E:=E) (P:=P) w op' t xs ys x y p v he hp
   simp only[execOp,ho,hx,hy]
   exact JJ w h
  have he:AAD P op' t (ρ x) (ρ y)=some (p,v):=by
   rw[<-he,AOJ]
   intro xs ys h1 h2
   exact absurd ⟨xs,ys,h1,h2⟩ hag
  have h:=AT3 (E:=E) (P:=P) w op' t (ρ x) (ρ y) p v he hp
  obtain⟨h1,h2⟩:=AGD he
  have hg:=AD3 (P:=P) w op' t x y ((ρ y).den E) h1 h2
  rw[D6] at h
  simp only[execOp,ho]
  refine JJ w ?_
  rw[D6,Sem.run_bind,hg]
  exact h
 ·exact (AX5 w _ _).mono fun v h o ho=>by simp only[execOp,ho];exact JJ w h
 ·exact (AOM w _ _ _).mono fun v h o ho=>by simp only[execOp,ho];exact JJ w h
 ·exact (AD5 w _ _).mono fun v h o ho=>by simp only[execOp,ho];exact JJ w h
 ·exact (ALJ w _ _ _).mono fun v h o ho=>by simp only[execOp,ho];exact JJ w h
 ·rename_i t parts
  refine (ALK (E:=E) w _ _).mono fun v h o ho=> ?_
  simp only[execOp,ho]
  refine JJ w ?_
  have:(parts.map fun (i,x)=>(i,((ρ x).den E)))=(List.map (fun q=>(q.1,q.2.den E)) (List.map (fun q=>(q.1,ρ q.2)) parts.toList)).toArray:=by
   rw[UN];simp [sO]
   rw[<-vX]
  rw[this]
  exact h
 ·exact (vY w _ _ _).mono fun v h o ho=>by simp only[execOp,ho];exact JJ w h
 ·exact (vZ w _ _ _).mono fun v h o ho=>by simp only[execOp,ho];exact JJ w h
 ·refine (ALL (E:=E) w _ _ _ _ _).mono fun v h o ho=> ?_
  simp only[execOp,ho]
  refine JJ w ?_
  simpa [Option.map_map,sO] using h
 ·exact (ALM w _ _ _).mono fun v h o ho=>by simp only[execOp,ho];exact JJ w h
 ·split
  ·rename_i i k sz off hx
   exact BF fun o ho=>by simp [execOp,ho,hx,SV.den]
  ·rename_i i off hx
   exact BF fun o ho=>by simp [execOp,ho,hx,SV.den]
  ·rename_i f cs hx
   exact BF fun o ho=>by simp [execOp,ho,hx,SV.den]
  ·exact ok_none
 ·rename_i fn first captured
  split
  ·rename_i f
   refine BF fun o ho=> ?_
   have e:(captured.map fun x=>((ρ x).den E))=((captured.toList.map ρ).map (SV.den E)).toArray:=by
    rw[UN,←vX];rfl
   simp only[execOp,ho,Instr.makeFunc,SV.den,FB]
   rw[e]
   simp
  ·exact ok_none
 ·rename_i b args ts
  intro p v he hp o ho
  have h:=fun cs=>AD7 (E:=E) (P:=P) w b ts.toList (args.toList.map ρ) o.type cs p v he hp
  simp only[AO7] at h
  simp only[execOp,ho,resolve,invoke,Sem.run_bind,Sem.run_pure,Result.andThen]
  have e:(Array.map (fun x=>((ρ x).den E)) args)=((args.toList.map ρ).map (SV.den E)).toArray:=by
   rw[UN,←vX];rfl
  rw[e]
  exact h _
 ·exact ok_none
end
end
end Go.V3
namespace Go.V3
open Go
abbrev Tb:Type:=List (Nat×Array Value)
variable {TB:Tb}
inductive Ty where
 |int (k:IntKind)
 |u64|bool|str|QP
 |pair (a b:Ty)
 |slice (a:Ty)
 |kv
 |nf
 |v_
 deriving DecidableEq
@[reducible] def Ty.T:Ty->Type
 | .int _=>Int
 | .u64=>BitVec 64
 | .bool=>Bool
 | .str=>ByteArray
 | .QP=>Nat
 | .pair a b=>a.T×b.T
 | .slice a=>List a.T
 | .kv=>Int×Bool
 | .nf=>Option Nat
 | .v_=>Unit
def Ty.sz:Ty->Nat
 | .pair a b=>a.sz+b.sz
 |_=>1
def Ty.HE:Ty->Nat
 | .pair a b=>a.HE+b.HE
 | .slice _=>1
 | .nf=>1
 |_=>0
def Ty.AX6:(t:Ty)->t.T
 | .int _=>(0:Int)
 | .u64=>0#64
 | .bool=>false
 | .str=>⟨#[]⟩
 | .QP=>(0:Nat)
 | .pair a b=>(a.AX6,b.AX6)
 | .slice _=>[]
 | .kv=>((0:Int),false)
 | .nf=>(none:Option Nat)
 | .v_=>()
def gd (t:Ty) (xs:List t.T) (k:Nat):t.T:=xs.getD k t.AX6
def B5 {α:Type} (xs:List α) (lo n:Nat):List α:=(xs.drop lo).take n
def H_:(t:Ty)->t.T->Nat->List SV
 | .int k,x,_=>[.int k x]
 | .u64,x,_=>[.u64 x]
 | .bool,x,_=>[.bool x]
 | .str,x,_=>[.str x]
 | .QP,x,_=>[.QP x]
 | .pair a b,x,n=>H_ a x.1 n++H_ b x.2 (n+a.HE)
 | .slice _,_,n=>[.MT n]
 | .kv,x,_=>[.int .i64 x.1]
 | .nf,x,n=>[.nf x n]
 | .v_,_,_=>[.raw .nilIface]
inductive AW where
 |K5
 |dead
 |box (cs:List SV)
 |row (t:Ty) (xs:List t.T)
 |shr (t:Ty) (xs:List t.T)
 |deep (t:Ty) (xss:List (List t.T)) (h:Option (Nat×Nat))
 |map (xs:List (Int×Bool))
 |ptr (j:Nat)
 |tree (t1 t2:Ty) (xs:List (List t1.T×List t2.T))
def AW.HR:AW->Bool
 | .K5=>true
 |_=>false
def Ty.qQ:Ty->Bool
 | .slice _=>true
 | .kv=>true
 | .pair (.slice _) (.slice _)=>true
 |_=>false
def Ty.AX7:Ty->Bool
 | .kv=>true
 |_=>false
def JK:(a:Ty)->List a.T->AW
 | .slice b,x=> .deep b x none
 | .int k,x=> .row (.int k) x
 | .u64,x=> .row .u64 x
 | .bool,x=> .row .bool x
 | .str,x=> .row .str x
 | .QP,x=> .row .QP x
 | .pair (.slice a) (.slice b),x=> .tree a b x
 | .pair a b,x=> .row (.pair a b) x
 | .kv,x=> .map x
 | .nf,x=> .row .nf x
 | .v_,x=> .row .v_ x
def B6 (own:Bool):(t:Ty)->t.T->List AW
 | .int _,_=>[]
 | .u64,_=>[]
 | .bool,_=>[]
 | .str,_=>[]
 | .QP,_=>[]
 | .pair a b,x=>B6 own a x.1++B6 own b x.2
 | .slice a,x=>[match own with|true=>JK a x|false=> .shr a x]
 | .kv,_=>[]
 | .nf,_=>[.dead]
 | .v_,_=>[]
theorem LN {a:Ty} (h:a.qQ=false) (x:List a.T):JK a x= .row a x:=by
 cases a with
 |pair a b=>cases a <;> cases b <;> first|rfl|cases h
 |_=>first|rfl|cases h
theorem jC (a:Ty) (x:List a.T):(JK a x).HR=false:=by
 cases a with
 |pair a b=>cases a <;> cases b <;> rfl
 |_=>rfl
def enc:(t:Ty)->t.T->(Nat->Nm)->List Value
 | .int k,x,_=>[.int k x]
 | .u64,x,_=>[.int .u64 ((x:BitVec 64).toNat:Int)]
 | .bool,x,_=>[.bool x]
 | .str,x,_=>[.string x]
 | .QP,x,_=>[.float .f64 x]
 | .pair a b,x,m=>enc a x.1 m++enc b x.2 (fun k=>m (a.HE+k))
 | .slice _,_,m=>[.slice (m 0).ad (m 0).len (m 0).cap]
 | .kv,x,_=>[.int .i64 x.1]
 | .nf,x,m=>[.float .f64 ((x:Option Nat).getD (V0 (m 0).B_))]
 | .v_,_,_=>[.nilIface]
theorem V2 (E:Env) (t:Ty) (x:t.T) (n:Nat):AL E (H_ t x n)=enc t x (fun k=>E.nm (n+k)):=by
 induction t generalizing n with
 |pair a b VE VF=>simp [H_,enc,GH,VE,VF,N0]
 |_=>rfl
theorem HP (t:Ty) (x:t.T) {f g:Nat->Nm} (h:∀ k,k<t.HE->f k=g k):enc t x f=enc t x g:=by
 induction t generalizing f g with
 |pair a b VE VF=>
  simp only[enc]
  rw[VE x.1 (fun k hk=>h k (by simp [Ty.HE];omega)),VF x.2 (fun k hk=>h _ (by simp [Ty.HE];omega))]
 |slice a=>simp only[enc];rw[h 0 (by simp [Ty.HE])]
 |nf=>simp only[enc];rw[h 0 (by simp [Ty.HE])]
 |_=>rfl
theorem AGH (t:Ty) (x:t.T) (f:Nat->Nm):(enc t x f).length=t.sz:=by
 induction t generalizing f with
 |pair a b VE VF=>simp [enc,Ty.sz,VE,VF]
 |_=>rfl
theorem ER (t:Ty) (x:t.T) (n:Nat):(H_ t x n).length=t.sz:=by
 induction t generalizing n with
 |pair a b VE VF=>simp [H_,Ty.sz,VE,VF]
 |_=>rfl
theorem BE (o:Bool) (t:Ty) (x:t.T):(B6 o t x).length=t.HE:=by
 induction t with
 |pair a b VE VF=>simp [B6,Ty.HE,VE,VF]
 |_=>rfl
theorem AGI (t:Ty):0<t.sz:=by
 induction t with
 |pair a b VE VF=>simp [Ty.sz];omega
 |_=>simp [Ty.sz]
def BN (arr:Array Value) (off n:Nat):List Value:=(arr.toList.drop off).take n
def RowsIn {α:Type} (R:α->List Value->Prop) (sz:Nat) (arr:Array Value) (off:Nat) (xs:List α):Prop:=
 ∀ i x,xs[i]? =some x->R x (BN arr (off+i*sz) sz)
def qR {α:Type} (R:α->List Value->Prop) (sz:Nat) (G:Nat->Prop) (w:World) (m:Nm) (xs:List α):Prop:=
 m.len=xs.length/\m.len<=m.cap/\(xs=[]\/(m.nil=false/\G m.B_/\∃ arr ty fz,w.heap[m.B_]? =some (.cells arr ty fz)/\RowsIn R sz arr m.off xs))
def Rp (G:Nat->Prop) (w:World):(t:Ty)->t.T->List Value->Prop
 | .int k,x,vs=>vs=[.int k x]
 | .u64,x,vs=>vs=[.int .u64 ((x:BitVec 64).toNat:Int)]
 | .bool,x,vs=>vs=[.bool x]
 | .str,x,vs=>vs=[.string x]
 | .QP,x,vs=>vs=[.float .f64 x]
 | .pair a b,x,vs=>∃ v1 v2,vs=v1++v2/\Rp G w a x.1 v1/\Rp G w b x.2 v2
 | .slice a,x,vs=>∃ m:Nm,vs=[.slice m.ad m.len m.cap]/\qR (Rp G w a) a.sz G w m x
 | .kv,x,vs=>vs=[.int .i64 x.1]
 | .nf,x,vs=>∃ k,vs=[.float .f64 ((x:Option Nat).getD (V0 k))]
 | .v_,_,vs=>vs=[.nilIface]
theorem RowsIn.imp {α:Type} {R R' :α->List Value->Prop} {sz:Nat} {arr:Array Value} {off:Nat} {xs:List α} (h:RowsIn R sz arr off xs) (hr:∀ x vs,R x vs->R' x vs):RowsIn R' sz arr off xs:=
 fun i x hx=>hr _ _ (h i x hx)
theorem qR.mono {α:Type} {R R' :α->List Value->Prop} {sz:Nat} {G G' :Nat->Prop} {w w' :World} {m:Nm} {xs:List α} (h:qR R sz G w m xs) (hr:∀ x vs,R x vs->R' x vs)
  (hw:∀ b,G b->w'.heap[b]? =w.heap[b]?) (hg:∀ b,G b->G' b):qR R' sz G' w' m xs:=by
 obtain⟨h1,h0,h2⟩:=h
 refine⟨h1,h0,h2.imp id ?_⟩
 rintro⟨a,b,arr,ty,fz,c,d⟩
 exact⟨a,hg _ b,arr,ty,fz,by rw[hw _ b];exact c,d.imp hr⟩
theorem Rp.mono {G G' :Nat->Prop} {w w' :World} (hw:∀ b,G b->w'.heap[b]? =w.heap[b]?) (hg:∀ b,G b->G' b) (t:Ty) (x:t.T) (vs:List Value) (h:Rp G w t x vs):Rp G' w' t x vs:=by
 induction t generalizing vs with
 |pair a b VE VF=>
  obtain⟨v1,v2,h0,h1,h2⟩:=h
  exact⟨v1,v2,h0,VE _ _ h1,VF _ _ h2⟩
 |slice a ih=>
  obtain⟨m,h0,h1⟩:=h
  exact⟨m,h0,h1.mono (fun x vs hx=>ih x vs hx) hw hg⟩
 |_=>exact h
theorem Rp.length {G:Nat->Prop} {w:World} (t:Ty) (x:t.T) (vs:List Value) (h:Rp G w t x vs):vs.length=t.sz:=by
 induction t generalizing vs with
 |pair a b VE VF=>
  obtain⟨v1,v2,rfl,h1,h2⟩:=h
  simp [Ty.sz,VE _ _ h1,VF _ _ h2]
 |slice a=>obtain⟨m,rfl,_⟩:=h;rfl
 |nf=>obtain⟨m,rfl⟩:=h;rfl
 |_=>(simp only[Rp] at h;rw[h];rfl)
def AX8 (G:Nat->Prop) (w:World) (m:Nm):AW->Prop
 | .shr a xs=>qR (Rp G w a) a.sz G w m xs
 | .dead=>True
 |_=>False
theorem Rp.out {G:Nat->Prop} {w:World} (t:Ty) (x:t.T) (vs:List Value) (h:Rp G w t x vs):∃ m:Nat->Nm,vs=enc t x m/\∀ k e,(B6 false t x)[k]? =some e->AX8 G w (m k) e:=by
 induction t generalizing vs with
 |pair a b VE VF=>
  obtain⟨v1,v2,rfl,h1,h2⟩:=h
  obtain⟨m1,e1,s1⟩:=VE _ _ h1
  obtain⟨m2,e2,s2⟩:=VF _ _ h2
  refine⟨fun k=>if k<a.HE then m1 k else m2 (k-a.HE), ?_, ?_⟩
  ·simp only[enc]
   rw[e1,e2]
   congr 1
   ·exact HP _ _ fun k hk=>by simp [hk]
   ·exact HP _ _ fun k hk=>by
     have:¬(a.HE+k<a.HE):=by omega
     simp [this]
  ·intro k e he
   simp only[B6] at he
   by_cases hk:k<a.HE
   ·rw[VI (by rw[BE];exact hk)] at he
    simp only[hk,G4];exact s1 k e he
   ·rw[VH (by rw[BE];omega),BE] at he
    simp only[hk,QZ];exact s2 _ e he
 |slice a=>
  obtain⟨m,rfl,h1⟩:=h
  refine⟨fun _=>m,rfl, ?_⟩
  intro k e he
  cases k with
  |zero=>simp only[B6,OS,AX] at he;subst he;exact h1
  |succ k=>simp [B6] at he
 |nf=>
  obtain⟨k0,rfl⟩:=h
  refine⟨fun _=>⟨k0,0,true,0,0,none⟩,rfl, ?_⟩
  intro k e he
  cases k with
  |zero=>simp only[B6,OS,AX] at he;subst he;trivial
  |succ k=>simp [B6] at he
 |_=>exact⟨fun _=>⟨0,0,true,0,0,none⟩,h,fun k e he=>by simp [B6] at he⟩
theorem Rp.mk {G:Nat->Prop} {w:World} (t:Ty) (x:t.T) (m:Nat->Nm) (h:∀ k e,(B6 false t x)[k]? =some e->AX8 G w (m k) e):Rp G w t x (enc t x m):=by
 induction t generalizing m with
 |pair a b VE VF=>
  refine⟨_,_,rfl,VE x.1 m ?_,VF x.2 _ ?_⟩
  ·intro k e he
   have hk:k<a.HE:=by
    rcases GS k (B6 false a x.1).length with h1|h1
    ·rwa [BE] at h1
    ·rw[T3 h1] at he;cases he
   exact h k e (by simp only[B6];rw[VI (by rw[BE];exact hk)];exact he)
  ·intro k e he
   exact h (a.HE+k) e (by simp only[B6];rw[VH (by rw[BE];omega),BE];simpa using he)
 |slice a=>exact⟨m 0,rfl,h 0 _ rfl⟩
 |nf=>exact⟨_,rfl⟩
 |_=>rfl
structure DW (TB:Tb) where
 w0:World
 io:Nat->Prop
 g0:Nat->Prop
def DW.Old (c:DW TB) (b:Nat):Prop:=b<c.w0.heap.size/\¬c.io b
def DW.Tab (c:DW TB):Prop:=∀ q∈TB,c.Old q.1/\∃ ty fz,c.w0.heap[q.1]? =some (.cells q.2 ty fz)
def Own {α:Type} (R:α->List Value->Prop) (sz:Nat) (c:DW TB) (G:Nat->Prop) (w:World) (m:Nm) (xs:List α):Prop:=
 m.len=xs.length/\True/\((m.nil=true/\xs=[]/\m.cap=0)∨
  (m.nil=false/\¬G m.B_/\¬c.Old m.B_/\xs.length<=m.cap/\∃ arr ty,w.heap[m.B_]? =some (.cells arr ty (m.fr arr.size))/\m.off+m.cap*sz<=arr.size/\RowsIn R sz arr m.off xs))
theorem eL {α:Type} {R:α->List Value->Prop} {sz:Nat} {c:DW TB} {G:Nat->Prop} {w:World} {m:Nm} {xs:List α} (h:Own R sz c G w m xs):m.len<=m.cap:=by
 obtain⟨h1,h2,h3⟩:=h
 rcases h3 with ⟨_,rfl,h4⟩|⟨_,_,_,h7,_⟩
 ·simp at h1;omega
 ·omega
def FY {α:Type} (R:α->List Value->Prop) (sz:Nat) (w:World) (m:Nm) (xs:List α):Prop:=
 m.len=xs.length/\True/\((m.nil=true/\xs=[]/\m.cap=0)∨
  (m.nil=false/\xs.length<=m.cap/\∃ arr ty,w.heap[m.B_]? =some (.cells arr ty (m.fr arr.size))/\m.off+m.cap*sz<=arr.size/\RowsIn R sz arr m.off xs))
abbrev AK:=List (Nat×AW)
def look (L:AK) (n:Nat):Option AW:=match L[n]? with
 |some q=>some q.2
 |none=>none
def Al (L:AK) (n:Nat):Prop:=∃ e,look L n=some e/\e.HR=false
mutual
def SV.wf (E:Env) (L:AK):SV->Prop
 | .loc i _=>Al L i
 | .MT i=>Al L i
 | .sub i lo n _=>Al L i/\lo+n<=(E.nm i).len
 | .el i k _ _=>Al L i/\k<(E.nm i).len/\(E.nm i).nil=false
 | .nF _=>False
 | .nf _ i=>Al L i
 | .agg cs=>K6 E L cs
 | .tup vs=>K6 E L vs
 | .mpv i=>Al L i
 | .xW _ cs=>K6 E L cs
 | .tsl i k q=>Al L i/\k<(E.nm i).len/\q<2
 | .tel i k q j=>Al L i/\k<(E.nm i).len/\q<2/\j<((E.nm i).hn (k*2+q)).len
 |_=>True
def K6 (E:Env) (L:AK):List SV->Prop
 | []=>True
 |v::r=>v.wf E L/\K6 E L r
end
theorem BW {E:Env} {L:AK} {l:List SV}:K6 E L l↔∀ v∈l,v.wf E L:=by
 induction l with
 |nil=>simp [K6]
 |cons v r ih=>simp [K6,ih]
mutual
theorem X_ {E E' :Env} {L L' :AK} (hL:∀ n,Al L n->Al L' n) (hE:∀ n,Al L n->E'.nm n=E.nm n):∀ (v:SV),v.wf E L->v.wf E' L' /\v.den E' =v.den E
 | .loc i _,h=>⟨hL _ h,by simp only[SV.den];rw[hE _ h]⟩
 | .MT i,h=>⟨hL _ h,by simp only[SV.den];rw[hE _ h]⟩
 | .sub i lo n sz,h=>⟨⟨hL _ h.1,by rw[hE _ h.1];exact h.2⟩,by simp only[SV.den];rw[hE _ h.1]⟩
 | .el i k sz off,h=>⟨⟨hL _ h.1,by rw[hE _ h.1];exact h.2.1,by rw[hE _ h.1];exact h.2.2⟩,by simp only[SV.den];rw[hE _ h.1]⟩
 | .nF _,h=>h.elim
 | .agg cs,h=>by
  obtain⟨h1,h2⟩:=K7 hL hE cs h
  exact⟨h1,by simp only[SV.den];rw[h2]⟩
 | .tup cs,h=>by
  obtain⟨h1,h2⟩:=K7 hL hE cs h
  exact⟨h1,by simp only[SV.den];rw[h2]⟩
 | .mpv i,h=>⟨hL _ h,by simp only[SV.den];rw[hE _ h]⟩
 | .tsl i k q,h=>⟨⟨hL _ h.1,by rw[hE _ h.1];exact h.2⟩,by simp only[SV.den];rw[hE _ h.1]⟩
 | .tel i k q j,h=>⟨⟨hL _ h.1,by rw[hE _ h.1];exact h.2⟩,by simp only[SV.den];rw[hE _ h.1]⟩
 | .xW _ cs,h=>by
  obtain⟨h1,h2⟩:=K7 hL hE cs h
  exact⟨h1,by simp only[SV.den];rw[h2]⟩
 | .int _ _,_=>⟨trivial,rfl⟩
 | .u64 _,_=>⟨trivial,rfl⟩
 | .bool _,_=>⟨trivial,rfl⟩
 | .N1 _,_=>⟨trivial,rfl⟩
 | .prop _ _,_=>⟨trivial,rfl⟩
 | .str _,_=>⟨trivial,rfl⟩
 | .QP _,_=>⟨trivial,rfl⟩
 | .nf _ i,h=>⟨hL _ h,by simp only[SV.den];rw[hE _ h]⟩
 | .LJ,_=>⟨trivial,rfl⟩
 | .ptr _,_=>⟨trivial,rfl⟩
 | .raw _,_=>⟨trivial,rfl⟩
theorem K7 {E E' :Env} {L L' :AK} (hL:∀ n,Al L n->Al L' n) (hE:∀ n,Al L n->E'.nm n=E.nm n):∀ (l:List SV),K6 E L l->K6 E' L' l/\AL E' l=AL E l
 | [],_=>⟨trivial,rfl⟩
 |v::r,h=>by
  obtain⟨h1,h2⟩:=X_ hL hE v h.1
  obtain⟨h3,h4⟩:=K7 hL hE r h.2
  exact⟨⟨h1,h3⟩,by simp only[AL];rw[h2,h4]⟩
end
def AW.own:AW->Nm->Option Nat
 | .box _,m=>some m.B_
 | .row _ _,m=>if m.nil=true then none else some m.B_
 | .map _,m=>some m.B_
 |_,_=>none
def AW.SU:AW->Bool
 | .deep _ _ _=>true
 |_=>false
def AW.OV:AW->Bool
 | .tree _ _ _=>true
 |_=>false
def AW.ow (e:AW) (E:Env) (n b:Nat):Prop:=e.own (E.nm n)=some b\/(e.SU=true/\b∈E.ins.l n)\/(e.OV=true/\b∈(E.nm n).ins.l)
structure FC (c:DW TB) (G:Nat->Prop) (w:World) (m:Nm) (t1 t2:Ty) (xs:List (List t1.T×List t2.T)):Prop where
 len:m.len=xs.length
 off:m.off=0
 nd:m.ins.l.Nodup
 all:∀ b∈m.ins.l,¬G b/\¬c.Old b/\∃ arr ty fz,w.heap[b]? =some (.cells arr ty fz)
 cs:(m.nil=true/\xs=[]/\m.cap=0)\/(m.nil=false/\m.B_∈m.ins.l/\xs.length<=m.cap/\∃ (arr:Array Value) (ty:TypeId),w.heap[m.B_]? =some (.cells arr ty (0,0))/\arr.size=m.cap*2∧
  (∀ k,k<xs.length*2->arr[k]? =some (.slice (m.hn k).ad (m.hn k).len (m.hn k).cap))∧
  (∀ k x,xs[k]? =some x->FY (Rp G w t1) t1.sz w (m.hn (k*2)) x.1/\FY (Rp G w t2) t2.sz w (m.hn (k*2+1)) x.2)∧
  (∀ k,k<xs.length*2->(m.hn k).nil=false->(m.hn k).B_∈m.ins.l/\(m.hn k).B_≠m.B_)∧
  (∀ k k',k<xs.length*2->k' <xs.length*2->k≠k' ->(m.hn k).nil=false->(m.hn k').nil=false->(m.hn k).B_≠(m.hn k').B_))
structure FT (c:DW TB) (G:Nat->Prop) (w:World) (E:Env) (L:AK) (m:Nm) (l:List Nat) (t:Ty) (xss:List (List t.T)) (h:Option (Nat×Nat)):Prop where
 len:m.len=xss.length
 off:m.off=0
 nd:l.Nodup
 all:∀ b∈l,¬G b/\¬c.Old b/\∃ arr ty fz,w.heap[b]? =some (.cells arr ty fz)
 cs:(m.nil=true/\xss=[]/\m.cap=0)\/(m.nil=false/\m.B_∈l/\xss.length<=m.cap/\∃ (arr:Array Value) (ty:TypeId) (hs:Nat->Nm),w.heap[m.B_]? =some (.cells arr ty (0,0))/\arr.size=m.cap∧
  (∀ k,k<xss.length->arr[k]? =some (.slice (hs k).ad (hs k).len (hs k).cap))∧
  (∀ k xs,xss[k]? =some xs->(∀ j,h≠some (k,j))->FY (Rp G w t) t.sz w (hs k) xs/\((hs k).nil=false->(hs k).B_∈l/\(hs k).B_≠m.B_))∧
  (∀ k k',k<xss.length->k' <xss.length->k≠k' ->(∀ j,h≠some (k,j))->(∀ j,h≠some (k',j))->(hs k).nil=false->(hs k').nil=false->(hs k).B_≠(hs k').B_)∧
  (∀ k j,h=some (k,j)->k<xss.length->hs k=E.nm j/\Al L j))
theorem FC.cfg {c c' :DW TB} {G:Nat->Prop} {w:World} {m:Nm} {t1 t2:Ty} {xs:List (List t1.T×List t2.T)} (k:FC c G w m t1 t2 xs) (hc:∀ b∈m.ins.l,¬c'.Old b):FC c' G w m t1 t2 xs:=
 ⟨k.len,k.off,k.nd,fun b hb=>⟨(k.all b hb).1,hc b hb,(k.all b hb).2.2⟩,k.cs⟩
theorem FC.nil {c:DW TB} {G G' :Nat->Prop} {w:World} {m:Nm} {t1 t2:Ty} (k:FC c G w m t1 t2 []) (hg:∀ b,G' b->G b):FC c G' w m t1 t2 []:=by
 refine⟨k.len,k.off,k.nd,fun b hb=>⟨fun hx=>(k.all b hb).1 (hg _ hx),(k.all b hb).2⟩, ?_⟩
 rcases k.cs with hc|⟨q1,q2,q3,arr,ty,q4,q5,q6,q7,q8,q9⟩
 ·exact .inl hc
 ·exact .inr ⟨q1,q2,q3,arr,ty,q4,q5,q6,fun k x hk=>by simp at hk,q8,q9⟩
def AJ7 (es:Array MapEntry) (xs:List (Int×Bool)):Prop:=es.toList.map (fun e=>(e.key,e.val))=xs.map (fun q=>((.int .i64 q.1:Value),(.bool q.2:Value)))
def ZE (c:DW TB) (G:Nat->Prop) (w:World) (E:Env) (L:AK) (m:Nm):AW->Prop
 | .K5=>True
 | .dead=>True
 | .box cs=>m.nil=false/\m.off=m.pp.pre.length/\¬G m.B_/\¬c.Old m.B_/\(∃ ty,w.heap[m.B_]? =some (.cells (m.arr (AL E cs)) ty (0,0)))/\K6 E L cs
 | .row t xs=>Own (Rp G w t) t.sz c G w m xs
 | .shr t xs=>qR (Rp G w t) t.sz G w m xs
 | .deep _ _ _=>True
 | .map xs=>m.nil=false/\m.off=0/\¬G m.B_/\¬c.Old m.B_/\∃ es ck,w.heap[m.B_]? =some (.map es ck)/\AJ7 es xs
 | .tree t1 t2 xs=>FC c G w m t1 t2 xs
 | .ptr j=>c.Old m.B_/\(∃ arr ty fz,c.w0.heap[m.B_]? =some (.cells arr ty fz)/\arr[m.off]? =some (.pointer (some ⟨(E.nm j).B_,(E.nm j).off,none⟩)))/\Al L j
structure AR (c:DW TB) (G:Nat->Prop) (w:World) (E:Env) (L:AK):Prop where
 rest:Rest c.w0 w
 size:c.w0.heap.size<=w.heap.size
 old:∀ b,c.Old b->w.heap[b]? =c.w0.heap[b]?
 vR:∀ b,G b->b<w.heap.size
 glo:∀ b,c.g0 b->G b
 ghi:∀ b,G b->c.g0 b\/¬c.Old b
 LK:∀ n e,look L n=some e->ZE c G w E L (E.nm n) e
 dp:∀ n t xss h,look L n=some (.deep t xss h)->FT c G w E L (E.nm n) (E.ins.l n) t xss h
 inj:∀ n k e f b,n≠k->look L n=some e->look L k=some f->e.ow E n b->¬f.ow E k b
 tab:c.Tab
theorem SW {w:World} {b:Nat} {o:Obj} (h:w.heap[b]? =some o):b<w.heap.size:=by
 rcases GS b w.heap.size with h1|h1
 ·exact h1
 ·rw[AA5 h1] at h;cases h
theorem FY.mono {α:Type} {R R' :α->List Value->Prop} {sz:Nat} {w w' :World} {m:Nm} {xs:List α} (h:FY R sz w m xs) (hr:∀ x vs,R x vs->R' x vs) (hw:m.nil=false->w'.heap[m.B_]? =w.heap[m.B_]?):FY R' sz w' m xs:=by
 obtain⟨h1,h2,h3⟩:=h
 refine⟨h1,h2,h3.imp id ?_⟩
 rintro⟨h4,h5,arr,ty,h6,h7,h8⟩
 exact⟨h4,h5,arr,ty,by rw[hw h4];exact h6,h7,h8.imp hr⟩
theorem FT.mono {c:DW TB} {G G' :Nat->Prop} {w w' :World} {E E' :Env} {L L' :AK} {m:Nm} {l:List Nat} {t:Ty} {xss:List (List t.T)} {h:Option (Nat×Nat)} (k:FT c G w E L m l t xss h)
  (hL:∀ n,Al L n->Al L' n) (hE:∀ n,Al L n->E'.nm n=E.nm n) (hw:∀ b,G b->w'.heap[b]? =w.heap[b]?) (hg:∀ b,G b->G' b)
  (ho:∀ b∈l,w'.heap[b]? =w.heap[b]?∧¬G' b):FT c G' w' E' L' m l t xss h:=by
 refine⟨k.len,k.off,k.nd,fun b hb=>⟨(ho b hb).2,(k.all b hb).2.1, ?_⟩,k.cs.imp id ?_⟩
 ·rw[(ho b hb).1];exact (k.all b hb).2.2
 ·rintro⟨h1,h2,h3,arr,ty,hs,h4,h5,h6,h7,h8,h9⟩
  refine⟨h1,h2,h3,arr,ty,hs,by rw[(ho _ h2).1];exact h4,h5,h6,fun k xs hk hj=> ?_,h8,fun k j hk hl=> ?_⟩
  ·obtain⟨q1,q2⟩:=h7 k xs hk hj
   exact⟨q1.mono (fun x vs hx=>Rp.mono hw hg t x vs hx) (fun hn=>(ho _ (q2 hn).1).1),q2⟩
  ·obtain⟨q1,q2⟩:=h9 k j hk hl
   exact⟨by rw[hE _ q2];exact q1,hL _ q2⟩
theorem FT.cfg {c c' :DW TB} {G:Nat->Prop} {w:World} {E:Env} {L:AK} {m:Nm} {l:List Nat} {t:Ty} {xss:List (List t.T)} {h:Option (Nat×Nat)} (k:FT c G w E L m l t xss h)
  (hc:∀ b∈l,¬c'.Old b):FT c' G w E L m l t xss h:=
 ⟨k.len,k.off,k.nd,fun b hb=>⟨(k.all b hb).1,hc b hb,(k.all b hb).2.2⟩,k.cs⟩
theorem FT.env {c:DW TB} {G:Nat->Prop} {w:World} {E E' :Env} {L L' :AK} {m m' :Nm} {l:List Nat} {t:Ty} {xss:List (List t.T)} (k:FT c G w E L m l t xss none)
  (hm:m'.B_=m.B_/\m'.off=m.off/\m'.nil=m.nil/\m'.len=m.len/\m'.cap=m.cap):FT c G w E' L' m' l t xss none:=by
 obtain⟨e1,e2,e3,e4,e5⟩:=hm
 obtain⟨k1,k2,k3,k4,k5⟩:=k
 refine⟨by rw[e4];exact k1,by rw[e2];exact k2,k3,k4, ?_⟩
 rw[e1,e3,e5]
 refine k5.imp id ?_
 rintro⟨h1,h2,h3,arr,ty,hs,h4,h5,h6,h7,h8,h9⟩
 exact⟨h1,h2,h3,arr,ty,hs,h4,h5,h6,h7,h8,fun k j hk=>by cases hk⟩
theorem ZE.tB {c:DW TB} {G:Nat->Prop} {w:World} {E:Env} {L:AK} {m:Nm} {e:AW} (h:ZE c G w E L m e) {b:Nat} (hb:e.own m=some b):b=m.B_/\m.nil=false/\True/\¬G b/\¬c.Old b/\∃ o,w.heap[b]? =some o:=by
 cases e with
 |map xs=>
  simp only[AW.own,AX] at hb;subst hb
  obtain⟨h1,h2,h3,h4,es,ck,h5,_⟩:=h
  exact⟨rfl,h1,trivial,h3,h4,_,h5⟩
 |box cs=>
  simp only[AW.own,AX] at hb;subst hb
  obtain⟨h1,h2,h3,h4,⟨ty,h5⟩,_⟩:=h
  exact⟨rfl,h1,trivial,h3,h4,_,h5⟩
 |row t xs=>
  simp only[AW.own] at hb
  split at hb
  ·cases hb
  ·rename_i hn
   simp only[AX] at hb;subst hb
   obtain⟨h1,h2,h3⟩:=h
   rcases h3 with ⟨h4,_⟩|⟨h4,h5,h6,h7,arr,ty,h8,_⟩
   ·exact absurd h4 hn
   ·exact⟨rfl,h4,h2,h5,h6,_,h8⟩
 |_=>cases hb
theorem ZE.mono {c:DW TB} {G G' :Nat->Prop} {w w' :World} {E E' :Env} {L L' :AK} {m:Nm} {e:AW} (h:ZE c G w E L m e)
  (hL:∀ n,Al L n->Al L' n) (hE:∀ n,Al L n->E'.nm n=E.nm n) (hw:∀ b,G b->w'.heap[b]? =w.heap[b]?) (hg:∀ b,G b->G' b)
  (ho:∀ b,e.own m=some b->w'.heap[b]? =w.heap[b]?∧¬G' b) (hot:e.OV=true->∀ b∈m.ins.l,w'.heap[b]? =w.heap[b]?∧¬G' b):ZE c G' w' E' L' m e:=by
 cases e with
 |tree t1 t2 xs=>
  have hot:=hot rfl
  refine⟨h.len,h.off,h.nd,fun b hb=> ?_, ?_⟩
  ·obtain⟨q1,q2,arr,ty,fz,q3⟩:=h.all b hb
   exact⟨(hot b hb).2,q2,arr,ty,fz,by rw[(hot b hb).1];exact q3⟩
  ·rcases h.cs with hc|⟨q1,q2,q3,arr,ty,q4,q5,q6,q7,q8,q9⟩
   ·exact .inl hc
   ·refine .inr ⟨q1,q2,q3,arr,ty,by rw[(hot _ q2).1];exact q4,q5,q6,fun k x hk=> ?_,q8,q9⟩
    have hkl:k<xs.length:=(vU.1 hk).1
    obtain⟨r1,r2⟩:=q7 k x hk
    exact⟨r1.mono (fun x vs hx=>Rp.mono hw hg t1 x vs hx) (fun hn=>(hot _ (q8 (k*2) (by omega) hn).1).1),r2.mono (fun x vs hx=>Rp.mono hw hg t2 x vs hx) (fun hn=>(hot _ (q8 (k*2+1) (by omega) hn).1).1)⟩
 |K5=>trivial
 |dead=>trivial
 |deep _ _ _=>trivial
 |map xs=>
  obtain⟨h1,h2,h3,h4,es,ck,h5,h6⟩:=h
  obtain⟨k1,k2⟩:=ho _ rfl
  exact⟨h1,h2,k2,h4,es,ck,by rw[k1];exact h5,h6⟩
 |box cs=>
  obtain⟨h1,h2,h3,h4,⟨ty,h5⟩,h6⟩:=h
  obtain⟨k1,k2⟩:=ho _ rfl
  obtain⟨q1,q2⟩:=K7 hL hE cs h6
  exact⟨h1,h2,k2,h4,⟨ty,by rw[k1,q2];exact h5⟩,q1⟩
 |row t xs=>
  obtain⟨h1,h2,h3⟩:=h
  refine⟨h1,h2,h3.imp id ?_⟩
  rintro⟨h4,h5,h6,h7,arr,ty,h8,h9,tC⟩
  obtain⟨k1,k2⟩:=ho m.B_ (by simp [AW.own,h4])
  exact⟨h4,k2,h6,h7,arr,ty,by rw[k1];exact h8,h9,tC.imp fun x vs hx=>Rp.mono hw hg t x vs hx⟩
 |shr t xs=>exact qR.mono h (fun x vs hx=>Rp.mono hw hg t x vs hx) hw hg
 |ptr j=>
  obtain⟨h1,⟨arr,ty,fz,h2,h3⟩,h4⟩:=h
  exact⟨h1,⟨arr,ty,fz,h2,by rw[hE j h4];exact h3⟩,hL j h4⟩
def DE (L:AK) (q:Nat×AW):AK:=match L[q.1]? with
 |some (v,_)=>L.set q.1 (v+1,q.2)
 |none=>L
def AI (L:AK) (l:List (Nat×AW)):AK:=l.foldl DE L
theorem F5 (L:AK) (q:Nat×AW):(DE L q).length=L.length:=by
 unfold DE;split <;> simp
theorem OC (L:AK) (l:List (Nat×AW)):(AI L l).length=L.length:=by
 induction l generalizing L with
 |nil=>rfl
 |cons q r ih=>simp only[AI,kU];exact (ih _).trans (F5 _ _)
theorem AO {L:AK} {n:Nat} {e:AW} (h:look L n=some e):n<L.length:=by
 rcases GS n L.length with h1|h1
 ·exact h1
 ·unfold look at h;rw[T3 h1] at h;cases h
theorem AZ {L:AK} {q:Nat×AW} (hq:q.1<L.length) (n:Nat):look (DE L q) n=if n=q.1 then some q.2 else look L n:=by
 unfold DE
 rw[NH hq]
 unfold look
 simp only[sH]
 by_cases h:n=q.1
 ·subst h;simp [hq]
 ·rw[AD h,AD (fun h' =>h h'.symm)]
theorem BU {L:AK} {q:Nat×AW} (hr:q.2.HR=false) (n:Nat) (h:Al L n):Al (DE L q) n:=by
 by_cases hq:q.1<L.length
 ·obtain⟨e,h1,h2⟩:=h
  unfold Al
  rw[AZ hq]
  by_cases hn:n=q.1
  ·exact⟨q.2,by simp [hn],hr⟩
  ·exact⟨e,by simp [hn,h1],h2⟩
 ·unfold DE
  rw[T3 (by omega)]
  exact h
theorem AW.eM {e:AW} (hd:e.SU=false) {E:Env} {n b:Nat} (ht:e.OV=false:=by rfl):e.ow E n b↔e.own (E.nm n)=some b:=by
 unfold AW.ow;rw[hd,ht];simp
theorem AW.eN {t1 t2:Ty} {xs:List (List t1.T×List t2.T)} {E:Env} {n b:Nat}:(AW.tree t1 t2 xs).ow E n b↔b∈(E.nm n).ins.l:=by
 simp [AW.ow,AW.own,AW.SU,AW.OV]
theorem AW.OD {e:AW} (ht:e.OV=true) {E:Env} {n b:Nat} (hb:b∈(E.nm n).ins.l):e.ow E n b:= .inr (.inr ⟨ht,hb⟩)
theorem AW.FX {t:Ty} {xss:List (List t.T)} {h:Option (Nat×Nat)} {E:Env} {n b:Nat}:(AW.deep t xss h).ow E n b↔b∈E.ins.l n:=by
 simp [AW.ow,AW.own,AW.SU,AW.OV]
theorem AR.PR {c:DW TB} {G:Nat->Prop} {w:World} {E:Env} {L:AK} (h:AR c G w E L) {n:Nat} {e:AW} (he:look L n=some e) {b:Nat} (hb:e.ow E n b):¬G b/\¬c.Old b/\∃ o,w.heap[b]? =some o:=by
 rcases hb with hb|⟨hd,hb⟩|⟨hd,hb⟩
 ·obtain⟨_,_,_,h4,h5,h6⟩:=(h.LK n e he).tB hb
  exact⟨h4,h5,h6⟩
 ·cases e with
  |deep t xss q=>
   obtain⟨h1,h2,arr,ty,_,h3⟩:=(h.dp n t xss q he).all b hb
   exact⟨h1,h2,_,h3⟩
  |_=>cases hd
 ·cases e with
  |tree t1 t2 xs=>
   obtain⟨h1,h2,arr,ty,_,h3⟩:=(h.LK n _ he).all b hb
   exact⟨h1,h2,_,h3⟩
  |_=>cases hd
theorem AR.iJ {c:DW TB} {G:Nat->Prop} {w:World} {E:Env} {L:AK} (h:AR c G w E L) {n:Nat} {e:AW} (he:look L n=some e) {b:Nat} (hb:e.ow E n b):b<w.heap.size:=by
 obtain⟨_,_,o,h6⟩:=h.PR he hb
 exact SW h6
theorem AR.world {c:DW TB} {G:Nat->Prop} {w w' :World} {E:Env} {L:AK} (h:AR c G w E L) (hh:w'.heap=w.heap) (hr:Rest w w'):AR c G w' E L:=
 ⟨h.rest.trans hr,by rw[hh];exact h.size,fun b hb=>by rw[hh];exact h.old b hb,fun b hb=>by rw[hh];exact h.vR b hb,h.glo,h.ghi,
  fun n e he=>(h.LK n e he).mono (fun _ h=>h) (fun _ _=>rfl) (fun b _=>by rw[hh]) (fun _ h=>h) (fun b hb=>⟨by rw[hh],((h.LK n e he).tB hb).2.2.2.1⟩) (fun ht b hb=>⟨by rw[hh],(h.PR he (AW.OD ht hb)).1⟩),
  fun n t xss q he=>(h.dp n t xss q he).mono (fun _ h=>h) (fun _ _=>rfl) (fun b _=>by rw[hh]) (fun _ h=>h) (fun b hb=>⟨by rw[hh],((h.dp n t xss q he).all b hb).1⟩),h.inj,h.tab⟩
theorem AR.fM {c:DW TB} {G:Nat->Prop} {w:World} {E:Env} {L:AK} (h:AR c G w E L) {i:Nat} {e:AW} {a:Ty} {ys:List a.T} (hi:look L i=some e)
  (hs:qR (Rp (fun b=>G b\/e.ow E i b) w a) a.sz (fun b=>G b\/e.ow E i b) w (E.nm i) ys):AR c (fun b=>G b\/e.ow E i b) w E (DE L (i,.shr a ys)):=by
 have DM:=AO hi
 have hl:=fun n=>AZ (q:=(i,AW.shr a ys)) DM n
 refine⟨h.rest,h.size,h.old, ?_,fun b hb=> .inl (h.glo b hb), ?_, ?_, ?_, ?_,h.tab⟩
 ·rintro b (hb|hb)
  ·exact h.vR b hb
  ·exact h.iJ hi hb
 ·rintro b (hb|hb)
  ·exact h.ghi b hb
  ·exact .inr (h.PR hi hb).2.1
 ·intro n f he
  rw[hl] at he
  by_cases hn:n=i
  ·subst hn
   simp only[G4,AX] at he
   subst he
   exact hs
  ·rw[AD hn] at he
   refine (h.LK n f he).mono (fun k hk=>BU rfl k hk) (fun _ _=>rfl) (fun _ _=>rfl) (fun b hb=> .inl hb) (fun b hb=>⟨rfl, ?_⟩) (fun ht b hb=>⟨rfl, ?_⟩)
   ·rintro (hx|hx)
    ·exact ((h.LK n f he).tB hb).2.2.2.1 hx
    ·exact h.inj n i f e b hn he hi (.inl hb) hx
   ·rintro (hx|hx)
    ·exact (h.PR he (AW.OD ht hb)).1 hx
    ·exact h.inj n i f e b hn he hi (AW.OD ht hb) hx
 ·intro n t xss q he
  rw[hl] at he
  by_cases hn:n=i
  ·simp only[hn,G4,AX] at he;cases he
  ·rw[AD hn] at he
   refine (h.dp n t xss q he).mono (fun k hk=>BU rfl k hk) (fun _ _=>rfl) (fun _ _=>rfl) (fun b hb=> .inl hb) (fun b hb=>⟨rfl, ?_⟩)
   rintro (hx|hx)
   ·exact ((h.dp n t xss q he).all b hb).1 hx
   ·exact h.inj n i _ e b hn he hi (AW.FX.2 hb) hx
 ·intro n k f g b hnk hn hk hf hg
  rw[hl] at hn hk
  have hn' :n≠i:=by
   rintro rfl
   simp only[G4,AX] at hn;subst hn
   rcases hf with hf|⟨hf,_⟩|⟨hf,_⟩ <;> cases hf
  have MU :k≠i:=by
   rintro rfl
   simp only[G4,AX] at hk;subst hk
   rcases hg with hg|⟨hg,_⟩|⟨hg,_⟩ <;> cases hg
  rw[AD hn'] at hn
  rw[AD MU] at hk
  exact h.inj n k f g b hnk hn hk hf hg
theorem AR.freeze {c:DW TB} {G:Nat->Prop} {w:World} {E:Env} {L:AK} (h:AR c G w E L) {i:Nat} {t:Ty} {xs:List t.T} (hi:look L i=some (.row t xs)):
  AR c (fun b=>G b\/(AW.row t xs).own (E.nm i)=some b) w E (DE L (i,.shr t xs)):=by
 have e1:(fun b=>G b\/(AW.row t xs).ow E i b)=(fun b=>G b\/(AW.row t xs).own (E.nm i)=some b):=by
  funext b;rw[AW.eM rfl]
 rw[<-e1]
 refine h.fM hi ?_
 rw[e1]
 obtain⟨h1,h2,h3⟩:=h.LK i _ hi
 refine⟨h1,eL (h.LK i _ hi), ?_⟩
 rcases h3 with ⟨_,h4,_⟩|⟨h4,h5,h6,h7,arr,ty,h8,h9,tC⟩
 ·exact .inl h4
 ·refine .inr ⟨h4,.inr (by simp [AW.own,h4]),arr,ty,_,h8, ?_⟩
  exact tC.imp fun x vs hx=>Rp.mono (fun _ _=>rfl) (fun b hb=> .inl hb) t x vs hx
theorem FT.shr {c:DW TB} {G G' :Nat->Prop} {w:World} {E:Env} {L:AK} {m:Nm} {l:List Nat} {t:Ty} {xss:List (List t.T)} (k:FT c G w E L m l t xss none) (hr:∀ x vs,Rp G w t x vs->Rp G' w t x vs) (hg:∀ b∈l,G' b):
  qR (Rp G' w (.slice t)) 1 G' w m xss:=by
 obtain⟨k1,k2,k3,k4,k5⟩:=k
 rcases k5 with ⟨h1,h2,h3⟩|⟨h1,h2,h3,arr,ty,hs,h4,h5,h6,h7,h8,h9⟩
 ·exact⟨k1,by rw[k1,h2];simp,.inl h2⟩
 ·refine⟨k1,by omega,.inr ⟨h1,hg _ h2,arr,ty,_,h4, ?_⟩⟩
  intro k xs hk
  have DM:k<xss.length:=by
   rcases GS k xss.length with h' |h'
   ·exact h'
   ·rw[T3 h'] at hk;cases hk
  obtain⟨q1,q2⟩:=h7 k xs hk (fun j hj=>by cases hj)
  refine⟨hs k, ?_, ?_⟩
  ·have ha:=h6 k DM
   show BN arr (m.off+k*1) 1=_
   rw[k2]
   unfold BN
   apply VM
   intro j
   rw[kQ]
   cases j with
   |zero=>simp [aX,ha]
   |succ j=>simp
  ·obtain⟨p1,p2,p3⟩:=q1
   rcases p3 with ⟨p4,p5,p6⟩|⟨p4,p5,YA,ty',p6,p7,p8⟩
   ·exact⟨p1,by rw[p1,p5];simp,.inl p5⟩
   ·exact⟨p1,by omega,.inr ⟨p4,hg _ (q2 p4).1,YA,ty',_,p6,p8.imp hr⟩⟩
theorem AR.AAI {c:DW TB} {G:Nat->Prop} {w:World} {E:Env} {L:AK} (h:AR c G w E L) {i:Nat} {t:Ty} {xss:List (List t.T)} (hi:look L i=some (.deep t xss none)):
  AR c (fun b=>G b\/b∈E.ins.l i) w E (DE L (i,.shr (.slice t) xss)):=by
 have e1:(fun b=>G b\/(AW.deep t xss none).ow E i b)=(fun b=>G b\/b∈E.ins.l i):=by
  funext b;rw[AW.FX]
 rw[<-e1]
 refine h.fM hi ?_
 rw[e1]
 exact (h.dp i t xss none hi).shr (fun x vs hx=>Rp.mono (fun _ _=>rfl) (fun b hb=> .inl hb) t x vs hx) (fun b hb=> .inr hb)
theorem FC.shr {c:DW TB} {G G' :Nat->Prop} {w:World} {m:Nm} {t1 t2:Ty} {xs:List (List t1.T×List t2.T)} (k:FC c G w m t1 t2 xs) (hr:∀ t (x:Ty.T t) vs,Rp G w t x vs->Rp G' w t x vs) (hg:∀ b∈m.ins.l,G' b):
  qR (Rp G' w (.pair (.slice t1) (.slice t2))) 2 G' w m xs:=by
 obtain⟨k1,k2,k3,k4,k5⟩:=k
 rcases k5 with ⟨h1,h2,h3⟩|⟨h1,h2,h3,arr,ty,h4,h5,h6,h7,h8,h9⟩
 ·exact⟨k1,by rw[k1,h2];simp,.inl h2⟩
 ·refine⟨k1,by omega,.inr ⟨h1,hg _ h2,arr,ty,_,h4, ?_⟩⟩
  intro k x hk
  have DM:k<xs.length:=(vU.1 hk).1
  obtain⟨q1,q2⟩:=h7 k x hk
  have jD:∀ (t:Ty) (y:List t.T) (j:Nat),j<xs.length*2->FY (Rp G w t) t.sz w (m.hn j) y->qR (Rp G' w t) t.sz G' w (m.hn j) y:=by
   intro t y j hj hi
   obtain⟨p1,p2,p3⟩:=hi
   rcases p3 with ⟨p4,p5,p6⟩|⟨p4,p5,YA,ty',p6,p7,p8⟩
   ·exact⟨p1,by rw[p1,p5];simp,.inl p5⟩
   ·exact⟨p1,by omega,.inr ⟨p4,hg _ (h8 j hj p4).1,YA,ty',_,p6,p8.imp (hr t)⟩⟩
  refine⟨[.slice (m.hn (k*2)).ad (m.hn (k*2)).len (m.hn (k*2)).cap],[.slice (m.hn (k*2+1)).ad (m.hn (k*2+1)).len (m.hn (k*2+1)).cap], ?_,⟨_,rfl,jD t1 x.1 _ (by omega) q1⟩,⟨_,rfl,jD t2 x.2 _ (by omega) q2⟩⟩
  have a1:=h6 (k*2) (by omega)
  have a2:=h6 (k*2+1) (by omega)
  rw[k2]
  unfold BN
  apply VM
  intro j
  rw[kQ,ML]
  match j with
  |0=>simp [aX,a1]
  |1=>simp [aX,a2]
  |j+2=>simp;omega
theorem AR.AT6 {c:DW TB} {G:Nat->Prop} {w:World} {E:Env} {L:AK} (h:AR c G w E L) {i:Nat} {t1 t2:Ty} {xs:List (List t1.T×List t2.T)} (hi:look L i=some (.tree t1 t2 xs)):
  AR c (fun b=>G b\/b∈(E.nm i).ins.l) w E (DE L (i,.shr (.pair (.slice t1) (.slice t2)) xs)):=by
 have e1:(fun b=>G b\/(AW.tree t1 t2 xs).ow E i b)=(fun b=>G b\/b∈(E.nm i).ins.l):=by
  funext b;rw[AW.eN]
 rw[<-e1]
 refine h.fM hi ?_
 rw[e1]
 exact (h.LK i _ hi).shr (fun t x vs hx=>Rp.mono (fun _ _=>rfl) (fun b hb=> .inl hb) t x vs hx) (fun b hb=> .inr hb)
theorem AR.kill {c:DW TB} {G:Nat->Prop} {w:World} {E:Env} {L:AK} (h:AR c G w E L) {i:Nat} (hi:i<L.length):AR c G w E (DE L (i,.dead)):=by
 have hl:=fun n=>AZ (q:=(i,AW.dead)) hi n
 refine⟨h.rest,h.size,h.old,h.vR,h.glo,h.ghi, ?_, ?_, ?_,h.tab⟩
 ·intro n e he
  rw[hl] at he
  by_cases hn:n=i
  ·simp only[hn,G4,AX] at he;subst he;trivial
  ·rw[AD hn] at he
   exact (h.LK n e he).mono (fun k hk=>BU rfl k hk) (fun _ _=>rfl) (fun _ _=>rfl) (fun b hb=>hb) (fun b hb=>⟨rfl,((h.LK n e he).tB hb).2.2.2.1⟩) (fun ht b hb=>⟨rfl,(h.PR he (AW.OD ht hb)).1⟩)
 ·intro n t xss q he
  rw[hl] at he
  by_cases hn:n=i
  ·simp only[hn,G4,AX] at he;cases he
  ·rw[AD hn] at he
   exact (h.dp n t xss q he).mono (fun k hk=>BU rfl k hk) (fun _ _=>rfl) (fun _ _=>rfl) (fun b hb=>hb) (fun b hb=>⟨rfl,((h.dp n t xss q he).all b hb).1⟩)
 ·intro n k e f b hnk hn hk he hf
  rw[hl] at hn hk
  have hn' :n≠i:=by
   rintro rfl
   simp only[G4,AX] at hn;subst hn
   rcases he with he|⟨he,_⟩|⟨he,_⟩ <;> cases he
  have MU :k≠i:=by
   rintro rfl
   simp only[G4,AX] at hk;subst hk
   rcases hf with hf|⟨hf,_⟩|⟨hf,_⟩ <;> cases hf
  rw[AD hn'] at hn
  rw[AD MU] at hk
  exact h.inj n k e f b hnk hn hk he hf
def Env.set (E:Env) (n:Nat) (m:Nm):Env:={ E with nm:=fun k=>if k=n then m else E.nm k }
theorem Env.HG (E:Env) {n k:Nat} (m:Nm) (h:k≠n):(E.set n m).nm k=E.nm k:=by simp [Env.set,h]
theorem Env.EI (E:Env) (n:Nat) (m:Nm):(E.set n m).nm n=m:=by simp [Env.set]
def Env.SX (E:Env) (n:Nat) (m:Nm) (l:List Nat):Env:={ E with nm:=fun k=>if k=n then m else E.nm k,ins:=⟨fun k=>if k=n then l else E.ins.l k⟩ }
theorem Env.MM (E:Env) {n k:Nat} (m:Nm) (l:List Nat) (h:k≠n):(E.SX n m l).nm k=E.nm k/\(E.SX n m l).ins.l k=E.ins.l k:=by simp [Env.SX,h]
theorem Env.EM (E:Env) (n:Nat) (m:Nm) (l:List Nat):(E.SX n m l).nm n=m/\(E.SX n m l).ins.l n=l:=by simp [Env.SX]
theorem EJ {L:AK} {n:Nat} (h:look L n=some .K5):¬Al L n:=by
 rintro⟨e,h1,h2⟩
 rw[h] at h1;simp only[AX] at h1;subst h1;cases h2
theorem AR.T8 {c:DW TB} {G:Nat->Prop} {w w' :World} {E E' :Env} {L:AK} (h:AR c G w E L) {i:Nat} {e' :AW} (hi:i<L.length)
  (hr:Rest w w') (hs:w.heap.size<=w'.heap.size)
  (hE:Al L i->E'.nm i=E.nm i) (hEo:∀ k,k≠i->E'.nm k=E.nm k/\E'.ins.l k=E.ins.l k) (CO:e'.HR=false)
  (hw:∀ b,b<w.heap.size->¬e'.ow E' i b->w'.heap[b]? =w.heap[b]?)
  (hold:∀ b,e'.ow E' i b->¬c.Old b/\¬G b)
  (DC:∀ k f,k≠i->look L k=some f->∀ b,f.ow E k b->¬e'.ow E' i b)
  (QQ:ZE c G w' E' (DE L (i,e')) (E'.nm i) e') (hdp:∀ t xss q,e' = .deep t xss q->FT c G w' E' (DE L (i,e')) (E'.nm i) (E'.ins.l i) t xss q):AR c G w' E' (DE L (i,e')):=by
 have hl:=fun n=>AZ (q:=(i,e')) hi n
 have hEn:∀ n,Al L n->E'.nm n=E.nm n:=by
  intro n hn
  by_cases SY:n=i
  ·subst SY;exact hE hn
  ·exact (hEo n SY).1
 have fN:∀ k (f:AW) b,k≠i->f.ow E' k b->f.ow E k b:=by
  intro k f b hk hb
  unfold AW.ow at hb ⊢
  rw[(hEo k hk).1,(hEo k hk).2] at hb
  exact hb
 have hG:∀ b,G b->w'.heap[b]? =w.heap[b]? :=fun b hb=>hw b (h.vR b hb) (fun ho=>(hold b ho).2 hb)
 refine⟨h.rest.trans hr,WZ h.size hs, ?_,fun b hb=>qN (h.vR b hb) hs,h.glo,h.ghi, ?_, ?_, ?_,h.tab⟩
 ·intro b hb
  rw[hw b (qN hb.1 h.size) (fun ho=>(hold b ho).1 hb)]
  exact h.old b hb
 ·intro n e he
  rw[hl] at he
  by_cases hn:n=i
  ·subst hn
   simp only[G4,AX] at he;subst he
   exact QQ
  ·rw[AD hn] at he
   rw[(hEo n hn).1]
   refine (h.LK n e he).mono (fun k hk=>BU CO k hk) hEn hG (fun _ hb=>hb) (fun b hb=> ?_) (fun ht b hb=> ?_)
   ·exact⟨hw b (h.iJ he (.inl hb)) (DC n e hn he b (.inl hb)),(h.PR he (.inl hb)).1⟩
   ·exact⟨hw b (h.iJ he (AW.OD ht hb)) (DC n e hn he b (AW.OD ht hb)),(h.PR he (AW.OD ht hb)).1⟩
 ·intro n t xss q he
  rw[hl] at he
  by_cases hn:n=i
  ·subst hn
   simp only[G4,AX] at he;subst he
   exact hdp _ _ _ rfl
  ·rw[AD hn] at he
   rw[(hEo n hn).1,(hEo n hn).2]
   refine (h.dp n t xss q he).mono (fun k hk=>BU CO k hk) hEn hG (fun _ hb=>hb) (fun b hb=> ?_)
   exact⟨hw b (h.iJ he (AW.FX.2 hb)) (DC n _ hn he b (AW.FX.2 hb)),(h.PR he (AW.FX.2 hb)).1⟩
 ·intro n k e f b hnk hn hk he hf
  rw[hl] at hn hk
  by_cases SY:n=i
  ·subst SY
   simp only[G4,AX] at hn;subst hn
   rw[AD (fun h=>hnk h.symm)] at hk
   exact DC k f (fun h=>hnk h.symm) hk b (fN k f b (fun h=>hnk h.symm) hf) he
  ·rw[AD SY] at hn
   by_cases iK:k=i
   ·subst iK
    simp only[G4,AX] at hk;subst hk
    exact DC n e SY hn b (fN n e b SY he) hf
   ·rw[AD iK] at hk
    exact h.inj n k e f b hnk hn hk (fN n e b SY he) (fN k f b iK hf)
theorem AR.change {c:DW TB} {G:Nat->Prop} {w w' :World} {E:Env} {L:AK} (h:AR c G w E L) {i:Nat} {e' :AW} {m:Nm} (hi:i<L.length)
  (hr:Rest w w') (hs:w.heap.size<=w'.heap.size)
  (hE:Al L i->m=E.nm i) (CO:e'.HR=false)
  (hw:∀ b,b<w.heap.size->e'.own m≠some b->w'.heap[b]? =w.heap[b]?)
  (hold:∀ b,e'.own m=some b->¬c.Old b/\¬G b)
  (DC:∀ k f,k≠i->look L k=some f->∀ b,f.ow E k b->e'.own m≠some b)
  (QQ:AR c G w E L->ZE c G w' (E.set i m) (DE L (i,e')) m e') (hd:e'.SU=false:=by rfl) (ht:e'.OV=false:=by rfl):AR c G w' (E.set i m) (DE L (i,e')):=by
 have e1:∀ b,e'.ow (E.set i m) i b↔e'.own m=some b:=fun b=>by rw[AW.eM hd ht,Env.EI]
 refine h.T8 hi hr hs (fun ha=>by rw[Env.EI];exact hE ha) (fun k hk=>⟨E.HG m hk,rfl⟩) CO (fun b hb ho=>hw b hb (fun hx=>ho ((e1 b).2 hx))) (fun b hb=>hold b ((e1 b).1 hb))
  (fun k f hk hf b hb ho=>DC k f hk hf b hb ((e1 b).1 ho)) (by rw[Env.EI];exact QQ h) (fun t xss q he=>by subst he;cases hd)
theorem AR.AT7 {c:DW TB} {G:Nat->Prop} {w w' :World} {E:Env} {L:AK} (h:AR c G w E L) {i:Nat} {e' :AW} {m:Nm} (l:List Nat) (hi:i<L.length)
  (hr:Rest w w') (hs:w.heap.size<=w'.heap.size)
  (hE:Al L i->m=E.nm i) (CO:e'.HR=false)
  (hw:∀ b,b<w.heap.size->e'.own m≠some b->w'.heap[b]? =w.heap[b]?)
  (hold:∀ b,e'.own m=some b->¬c.Old b/\¬G b)
  (DC:∀ k f,k≠i->look L k=some f->∀ b,f.ow E k b->e'.own m≠some b)
  (QQ:AR c G w E L->ZE c G w' (E.SX i m l) (DE L (i,e')) m e') (hd:e'.SU=false:=by rfl) (ht:e'.OV=false:=by rfl):AR c G w' (E.SX i m l) (DE L (i,e')):=by
 have e1:∀ b,e'.ow (E.SX i m l) i b↔e'.own m=some b:=fun b=>by rw[AW.eM hd ht,(E.EM i m l).1]
 refine h.T8 hi hr hs (fun ha=>by rw[(E.EM i m l).1];exact hE ha) (fun k hk=>E.MM m l hk) CO (fun b hb ho=>hw b hb (fun hx=>ho ((e1 b).2 hx))) (fun b hb=>hold b ((e1 b).1 hb))
  (fun k f hk hf b hb ho=>DC k f hk hf b hb ((e1 b).1 ho)) (by rw[(E.EM i m l).1];exact QQ h) (fun t xss q he=>by subst he;cases hd)
end Go.V3
namespace Go.V3
open Go
variable {TB:Tb}
inductive PM where
 |bF|fM|own
def Env.nx (E:Env) (i:Nat):Nm:={ E.nm i with ins:=⟨E.ins.l i⟩ }
inductive NE where
 |nil
 |whole (i:Nat)
 |deep (i:Nat)
 |sub (i lo n sz:Nat)
def NE.nm (E:Env):NE->Nm
 | .nil=>⟨0,0,true,0,0,none⟩
 | .whole i=>E.nm i
 | .deep i=>E.nx i
 | .sub i lo n sz=>if (E.nm i).cap=lo then { B_:=(E.nm i).B_,off:=(E.nm i).off,nil:=(E.nm i).nil,len:=n,cap:=(E.nm i).cap-lo,VO:=(E.nm i).VO,fz:=(E.nm i).fz } else { B_:=(E.nm i).B_,off:=(E.nm i).off+lo*sz,nil:=(E.nm i).nil,len:=n,cap:=(E.nm i).cap-lo,VO:=nJ (E.nm i).VO (lo*sz),fz:=(E.nm i).fz }
def NE.name:NE->Option Nat
 | .nil=>none
 | .whole i=>some i
 | .deep i=>some i
 | .sub i _ _ _=>some i
def D7 (E:Env) (nes:List NE) (k:Nat):Nm:=match nes[k]? with
 |some ne=>ne.nm E
 |none=>⟨0,0,true,0,0,none⟩
abbrev C8:=List (Nat×AW)
inductive ZS:AW->(t:Ty)->List t.T->Prop
 |row (t:Ty) (xs:List t.T):ZS (.row t xs) t xs
 |deep (t:Ty) (xss:List (List t.T)):ZS (.deep t xss none) (.slice t) xss
 |tree (t1 t2:Ty) (xs:List (List t1.T×List t2.T)):ZS (.tree t1 t2 xs) (.pair (.slice t1) (.slice t2)) xs
theorem ZS.K5 {e:AW} {t:Ty} {xs:List t.T} (h:ZS e t xs):e.HR=false:=by cases h <;> rfl
def HM {t a:Ty} (h:t=a) (xs:List t.T):List a.T:=h ▸ xs
def MV (md:PM) (AP:Nat->Option AW) (a:Ty):SV->Option (List a.T×NE×C8)
 | .LJ=>if a.AX7=true then none else some ([],.nil,[])
 | .MT i=>match AP i with
  |some (.shr t xs)=>if h:t=a then (match md with
    | .own=>none
    |_=>some (HM h xs,.whole i,[])) else none
  |some (.row t xs)=>if h:t=a then (match md with
    | .bF=>some (HM h xs,.whole i,[])
    | .fM=>some (HM h xs,.whole i,[(i,.shr t xs)])
    | .own=>if a.qQ=true then none else some (HM h xs,.whole i,[(i,.dead)])) else none
  |some (.deep t xss none)=>if h:Ty.slice t=a then (match md with
    | .bF=>some (HM h xss,.whole i,[])
    | .fM=>some (HM h xss,.whole i,[(i,.shr (.slice t) xss)])
    | .own=>some (HM h xss,.deep i,[(i,.dead)])) else none
  |some (.tree t1 t2 xs)=>if h:Ty.pair (.slice t1) (.slice t2)=a then (match md with
    | .bF=>some (HM h xs,.whole i,[])
    | .fM=>some (HM h xs,.whole i,[(i,.shr (.pair (.slice t1) (.slice t2)) xs)])
    | .own=>some (HM h xs,.whole i,[(i,.dead)])) else none
  |_=>none
 | .sub i lo n sz=>if sz=a.sz then match AP i with
  |some (.shr t xs)=>if h:t=a then (match md with
    | .own=>none
    |_=>some (B5 (HM h xs) lo n,.sub i lo n sz,[])) else none
  |some (.row t xs)=>if h:t=a then (match md with
    | .bF=>some (B5 (HM h xs) lo n,.sub i lo n sz,[])
    | .fM=>some (B5 (HM h xs) lo n,.sub i lo n sz,[(i,.shr t xs)])
    | .own=>none) else none
  |_=>none
  else none
 |_=>none
def FQ (md:PM) (AP:Nat->Option AW):(t:Ty)->List SV->Option (t.T×List SV×List NE×C8)
 | .int k,cs=>match cs with
  | .int k' n::r=>if k' =k then some (n,r,[],[]) else none
  |_=>none
 | .u64,cs=>match cs with
  | .u64 x::r=>some (x,r,[],[])
  |_=>none
 | .bool,cs=>match cs with
  |v::r=>match toB v with
   |some b=>some (b,r,[],[])
   |none=>none
  |_=>none
 | .str,cs=>match cs with
  | .str s::r=>some (s,r,[],[])
  |_=>none
 | .QP,cs=>match cs with
  | .QP n::r=>some (n,r,[],[])
  |_=>none
 | .pair a b,cs=>match FQ md AP a cs with
  |none=>none
  |some (x,r,n1,u1)=>match FQ md AP b r with
   |none=>none
   |some (y,r',n2,u2)=>some ((x,y),r',n1++n2,u1++u2)
 | .slice a,cs=>match cs with
  |v::r=>match MV md AP a v with
   |some (xs,ne,u)=>some (xs,r,[ne],u)
   |none=>none
  |_=>none
 | .kv,_=>none
 | .nf,cs=>match cs with
  | .QP n::r=>some ((some n:Option Nat),r,[.nil],[])
  | .nf o i::r=>some (o,r,[.whole i],[])
  |_=>none
 | .v_,cs=>match cs with
  | .raw .nilIface::r=>some ((),r,[],[])
  |_=>none
theorem nM {md:PM} {AP:Nat->Option AW} {a:Ty} {v:SV} {xs:List a.T} {ne:NE} {u:C8} (h:MV md AP a v=some (xs,ne,u)) (E:Env):
  v.den E= .slice (ne.nm E).ad (ne.nm E).len (ne.nm E).cap:=by
 cases v with
 |LJ=>
  simp only[MV] at h
  split at h
  ·cases h
  simp only[AX,DB] at h
  obtain⟨-,rfl, -⟩:=h
  rfl
 |MT i=>
  simp only[MV] at h
  repeat' split at h
  all_goals first|(cases h;done)|(simp only[AX,DB] at h;obtain⟨-,rfl, -⟩:=h;rfl)
 |sub i lo n sz=>
  have hk:SV.den E (.sub i lo n sz)= .slice ((NE.sub i lo n sz).nm E).ad ((NE.sub i lo n sz).nm E).len ((NE.sub i lo n sz).nm E).cap:=by
   simp only[SV.den,NE.nm]
   split
   ·simp [Nm.ad]
   ·simp only[Nm.ad,nJ]
    split
    ·rfl
    ·simp [H2]
  simp only[MV] at h
  repeat' split at h
  all_goals first|(cases h;done)|(simp only[AX,DB] at h;obtain⟨-,rfl, -⟩:=h;exact hk)
 |_=>simp [MV] at h
theorem LO (E:Env) (a b:List NE):(∀ k,k<a.length->D7 E (a++b) k=D7 E a k)/\(∀ k,D7 E (a++b) (a.length+k)=D7 E b k):=by
 refine⟨fun k hk=> ?_,fun k=> ?_⟩
 ·simp [D7,VI hk]
 ·simp only[D7]
  rw[VH (by omega)]
  simp
theorem JL {md:PM} {AP:Nat->Option AW} (E:Env):∀ (t:Ty) (cs:List SV) (x:t.T) (r:List SV) (nes:List NE) (u:C8),FQ md AP t cs=some (x,r,nes,u)→
  ∃ c1,cs=c1++r/\c1.length=t.sz/\nes.length=t.HE/\AL E c1=enc t x (D7 E nes):=by
 intro t
 induction t with
 |int k=>
  intro cs x r nes u h
  simp only[FQ] at h
  repeat' split at h
  all_goals first|(cases h;done)|skip
  rename_i hk
  simp only[AX,DB] at h
  obtain⟨rfl,rfl,rfl,rfl⟩:=h
  subst hk
  exact⟨[_],rfl,rfl,rfl,rfl⟩
 |u64=>
  intro cs x r nes u h
  simp only[FQ] at h
  repeat' split at h
  all_goals first|(cases h;done)|(simp only[AX,DB] at h;obtain⟨rfl,rfl,rfl,rfl⟩:=h;exact⟨[_],rfl,rfl,rfl,rfl⟩)
 |bool=>
  intro cs x r nes u h
  simp only[FQ] at h
  repeat' split at h
  all_goals first|(cases h;done)|skip
  rename_i hb
  simp only[AX,DB] at h
  obtain⟨rfl,rfl,rfl,rfl⟩:=h
  exact⟨[_],rfl,rfl,rfl,by simp [AL,T7 hb,enc]⟩
 |str=>
  intro cs x r nes u h
  simp only[FQ] at h
  repeat' split at h
  all_goals first|(cases h;done)|(simp only[AX,DB] at h;obtain⟨rfl,rfl,rfl,rfl⟩:=h;exact⟨[_],rfl,rfl,rfl,rfl⟩)
 |QP=>
  intro cs x r nes u h
  simp only[FQ] at h
  repeat' split at h
  all_goals first|(cases h;done)|(simp only[AX,DB] at h;obtain⟨rfl,rfl,rfl,rfl⟩:=h;exact⟨[_],rfl,rfl,rfl,rfl⟩)
 |pair a b VE VF=>
  intro cs x r nes u h
  simp only[FQ] at h
  repeat' split at h
  all_goals first|(cases h;done)|skip
  rename_i _ x1 r1 n1 u1 h1 _ x2 r2 n2 u2 h2
  simp only[AX,DB] at h
  obtain⟨rfl,rfl,rfl,rfl⟩:=h
  obtain⟨c1,e1,l1,m1,d1⟩:=VE _ _ _ _ _ h1
  obtain⟨c2,e2,l2,m2,d2⟩:=VF _ _ _ _ _ h2
  refine⟨c1++c2,by rw[e1,e2,JH],by simp [Ty.sz,l1,l2],by simp [Ty.HE,m1,m2], ?_⟩
  rw[GH,d1,d2]
  simp only[enc]
  obtain⟨k1,k2⟩:=LO E n1 n2
  congr 1
  ·exact HP _ _ fun k hk=>(k1 k (by omega)).symm
  ·exact HP _ _ fun k hk=>by rw[<-m1];exact (k2 k).symm
 |slice a ih=>
  intro cs x r nes u h
  simp only[FQ] at h
  repeat' split at h
  all_goals first|(cases h;done)|skip
  rename_i hs
  simp only[AX,DB] at h
  obtain⟨rfl,rfl,rfl,rfl⟩:=h
  exact⟨[_],rfl,rfl,rfl,by simp [AL,enc,nM hs E,D7]⟩
 |kv=>intro cs x r nes u h;simp [FQ] at h
 |nf=>
  intro cs x r nes u h
  simp only[FQ] at h
  repeat' split at h
  all_goals first|(cases h;done)|(simp only[AX,DB] at h;obtain⟨rfl,rfl,rfl,rfl⟩:=h;exact⟨[_],rfl,rfl,rfl,rfl⟩)
 |v_=>
  intro cs x r nes u h
  simp only[FQ] at h
  repeat' split at h
  all_goals first|(cases h;done)|(simp only[AX,DB] at h;obtain⟨_,rfl,rfl,rfl⟩:=h;exact⟨[_],rfl,rfl,rfl,rfl⟩)
theorem lB {α:Type} {R:α->List Value->Prop} {sz:Nat} {G:Nat->Prop} {w:World} {m:Nm} {xs:List α} (h:qR R sz G w m xs) {lo n:Nat} (hl:lo+n<=m.len):
  qR R sz G w (if m.cap=lo then { B_:=m.B_,off:=m.off,nil:=m.nil,len:=n,cap:=m.cap-lo,VO:=m.VO,fz:=m.fz } else { B_:=m.B_,off:=m.off+lo*sz,nil:=m.nil,len:=n,cap:=m.cap-lo,VO:=nJ m.VO (lo*sz),fz:=m.fz }) (B5 xs lo n):=by
 obtain⟨h1,h0,h2⟩:=h
 by_cases hc:m.cap=lo
 ·have hn:n=0:=by omega
  subst hn
  rw[AB hc]
  exact⟨by simp [B5],by simp,.inl (by simp [B5])⟩
 ·rw[AD hc]
  refine⟨by simp [B5];omega,by simp;omega, ?_⟩
  rcases h2 with rfl|⟨a,b,arr,ty,fz,h3,h4⟩
  ·left;simp [B5]
  ·right
   refine⟨a,b,arr,ty,fz,h3, ?_⟩
   intro i x hx
   simp only[B5] at hx
   rw[kQ] at hx
   split at hx
   ·rw[aX] at hx
    have:=h4 _ _ hx
    rw[a_] at this
    rw[N0]
    exact this
   ·cases hx
theorem AT8 {α:Type} {R R' :α->List Value->Prop} {sz:Nat} {c:DW TB} {G G' :Nat->Prop} {w:World} {m:Nm} {xs:List α} (h:Own R sz c G w m xs) (hr:∀ x vs,R x vs->R' x vs) (hg:m.nil=false->G' m.B_):
  qR R' sz G' w m xs:=by
 have hc:=eL h
 obtain⟨h1,h2,h3⟩:=h
 refine⟨h1,hc, ?_⟩
 rcases h3 with ⟨_,h4,_⟩|⟨h4,h5,h6,h7,arr,ty,h8,h9,tC⟩
 ·exact .inl h4
 ·exact .inr ⟨h4,hg h4,arr,ty,_,h8,tC.imp hr⟩
theorem nN {md:PM} {AP:Nat->Option AW} {a:Ty} {v:SV} {xs:List a.T} {ne:NE} {u:C8} (h:MV md AP a v=some (xs,ne,u)):
  u=[]\/(∃ i t ys e,AP i=some e/\ZS e t ys/\md= .fM/\ne.name=some i/\u=[(i,.shr t ys)])\/md= .own:=by
 unfold MV at h
 repeat' split at h
 all_goals first|(cases h;done)|skip
 all_goals (simp only[AX,DB] at h;obtain⟨-,rfl,rfl⟩:=h)
 all_goals first|(exact .inl rfl)|exact .inr (.inr rfl)|(right;left;exact⟨_,_,_,_,(by assumption),.row _ _,rfl,rfl,rfl⟩)|(right;left;exact⟨_,_,_,_,(by assumption),.deep _ _,rfl,rfl,rfl⟩)|(right;left;exact⟨_,_,_,_,(by assumption),.tree _ _ _,rfl,rfl,rfl⟩)
theorem nO {md:PM} {AP:Nat->Option AW} {a:Ty} {v:SV} {xs:List a.T} {ne:NE} {u:C8} (h:MV md AP a v=some (xs,ne,u)) (tD:md≠ .own) {E:Env} {L:AK} (hv:v.wf E L) {G:Nat->Prop} {w:World}
  (h1:∀ i t ys,AP i=some (.shr t ys)->qR (Rp G w t) t.sz G w (E.nm i) ys)
  (h2:∀ i t ys e,ne.name=some i->AP i=some e->ZS e t ys->md= .bF\/(i,.shr t ys)∈u->qR (Rp G w t) t.sz G w (E.nm i) ys):AX8 G w (ne.nm E) (.shr a xs):=by
 unfold MV at h
 repeat' split at h
 all_goals first|(cases h;done)|skip
 all_goals (simp only[AX,DB] at h;obtain⟨rfl,rfl,rfl⟩:=h)
 all_goals first|exact absurd rfl tD|skip
 ·exact⟨rfl,EL _,.inl rfl⟩
 ·rename_i hl he _ _;subst he;exact h1 _ _ _ hl
 ·rename_i hl he _;subst he;exact h2 _ _ _ _ rfl hl (.row _ _) (.inl rfl)
 ·rename_i hl he _;subst he;exact h2 _ _ _ _ rfl hl (.row _ _) (.inr (GO.2 rfl))
 ·rename_i hl he _;subst he;exact h2 _ _ _ _ rfl hl (.deep _ _) (.inl rfl)
 ·rename_i hl he _;subst he;exact h2 _ _ _ _ rfl hl (.deep _ _) (.inr (GO.2 rfl))
 ·rename_i hl he _;subst he;exact h2 _ _ _ _ rfl hl (.tree _ _ _) (.inl rfl)
 ·rename_i hl he _;subst he;exact h2 _ _ _ _ rfl hl (.tree _ _ _) (.inr (GO.2 rfl))
 ·rename_i hz _ _ _ hl he _ _;subst he;subst hz;exact lB (h1 _ _ _ hl) hv.2
 ·rename_i hz _ _ _ hl he _;subst he;subst hz;exact lB (h2 _ _ _ _ rfl hl (.row _ _) (.inl rfl)) hv.2
 ·rename_i hz _ _ _ hl he _;subst he;subst hz;exact lB (h2 _ _ _ _ rfl hl (.row _ _) (.inr (GO.2 rfl))) hv.2
theorem nP {AP:Nat->Option AW} {a:Ty} {v:SV} {xs:List a.T} {ne:NE} {u:C8} (h:MV .own AP a v=some (xs,ne,u)):
  (ne= .nil/\xs=[]/\u=[]/\a.AX7=false)\/∃ i,((ne= .whole i/\a.qQ=false)\/(ne= .deep i/\∃ b,a= .slice b)\/(ne= .whole i/\∃ b1 b2,a= .pair (.slice b1) (.slice b2)))/\AP i=some (JK a xs)/\u=[(i,.dead)]:=by
 cases v with
 |LJ=>
  simp only[MV] at h
  split at h
  ·cases h
  rename_i hk
  simp only[AX,DB] at h
  obtain⟨rfl,rfl,rfl⟩:=h
  exact .inl ⟨rfl,rfl,rfl,by simpa using hk⟩
 |MT i=>
  simp only[MV] at h
  split at h
  ·split at h <;> cases h
  ·rename_i t ys hl
   split at h
   ·rename_i he
    subst he
    split at h
    ·cases h
    rename_i PO
    have PO:t.qQ=false:=by simpa using PO
    simp only[AX,DB] at h
    obtain⟨rfl,rfl,rfl⟩:=h
    exact .inr ⟨i,.inl ⟨rfl,PO⟩,by rw[hl];exact MS some (LN PO ys).symm,rfl⟩
   ·cases h
  ·rename_i t yss hl
   split at h
   ·rename_i he
    subst he
    simp only[AX,DB] at h
    obtain⟨rfl,rfl,rfl⟩:=h
    exact .inr ⟨i,.inr (.inl ⟨rfl,_,rfl⟩),hl,rfl⟩
   ·cases h
  ·rename_i t1 t2 ys hl
   split at h
   ·rename_i he
    subst he
    simp only[AX,DB] at h
    obtain⟨rfl,rfl,rfl⟩:=h
    exact .inr ⟨i,.inr (.inr ⟨rfl,_,_,rfl⟩),hl,rfl⟩
   ·cases h
  ·cases h
 |sub i lo n sz=>
  simp only[MV] at h
  repeat' split at h
  all_goals cases h
 |_=>simp [MV] at h
def YB (AP:Nat->Option AW) (a:Ty):SV->Option (List a.T×NE×C8)
 | .LJ=>some ([],.nil,[])
 | .MT i=>match AP i with
  |some (.row t xs)=>if h:t=a then some (HM h xs,.whole i,[(i,.dead)]) else none
  |_=>none
 | .sub i 0 n _=>match AP i with
  |some (.row t xs)=>if h:t=a then some (B5 (HM h xs) 0 n,.whole i,[(i,.dead)]) else none
  |_=>none
 |_=>none
def Nm.cut (m:Nm) (n:Nat):Nm:={ B_:=m.B_,off:=m.off,nil:=m.nil,len:=n,cap:=m.cap,VO:=m.VO,fz:=m.fz }
theorem AD8 {AP:Nat->Option AW} {a:Ty} {v:SV} {xs:List a.T} {ne:NE} {u:C8} (h:YB AP a v=some (xs,ne,u)):
  (v= .LJ/\ne= .nil/\xs=[]/\u=[])\/∃ (i:Nat) (zs:List a.T) (n:Nat),AP i=some (.row a zs)/\u=[(i,.dead)]/\xs=B5 zs 0 n/\∀ (E:Env) (L:AK),v.wf E L->(E.nm i).len=zs.length->n<=zs.length/\v.den E= .slice (E.nm i).ad n (E.nm i).cap:=by
 cases v with
 |LJ=>
  simp only[YB,AX,DB] at h
  obtain⟨rfl,rfl,rfl⟩:=h
  exact .inl ⟨rfl,rfl,rfl,rfl⟩
 |MT i=>
  simp only[YB] at h
  split at h
  ·rename_i t ys hl
   split at h
   ·rename_i he
    subst he
    simp only[AX,DB] at h
    obtain⟨rfl,rfl,rfl⟩:=h
    refine .inr ⟨i,ys,ys.length,hl,rfl,by simp [HM,B5],fun E L _ hlen=>⟨EL _,by simp only[SV.den];rw[hlen]⟩⟩
   ·cases h
  ·cases h
 |sub i lo n sz=>
  cases lo with
  |succ _=>simp [YB] at h
  |zero=>
  simp only[YB] at h
  split at h
  ·rename_i t ys hl
   split at h
   ·rename_i he
    subst he
    simp only[AX,DB] at h
    obtain⟨rfl,rfl,rfl⟩:=h
    refine .inr ⟨i,ys,n,hl,rfl,rfl,fun E L hw hlen=>⟨by have:=hw.2;omega, ?_⟩⟩
    simp only[SV.den,nJ,xS,xT]
    congr 1
    split
    ·rfl
    ·cases (E.nm i).ad with
     |none=>rfl
     |some p=>rfl
   ·cases h
  ·cases h
 |_=>simp [YB] at h
theorem W0 {md:PM} {AP:Nat->Option AW}:∀ (t:Ty) (cs:List SV) (x:t.T) (r:List SV) (nes:List NE) (u:C8),FQ md AP t cs=some (x,r,nes,u)→
  (∀ (k:Nat) (o:Bool) (e:AW),(B6 o t x)[k]? =some e->e= .dead\/∃ (a:Ty) (v:SV) (xs:List a.T) (ne:NE) (uk:C8),MV md AP a v=some (xs,ne,uk)/\nes[k]? =some ne/\v∈cs/\(∀ q∈uk,q∈u)/\e=(match o with|true=>JK a xs|false=>AW.shr a xs))∧
  (∀ q∈u,∃ (k:Nat) (a:Ty) (v:SV) (xs:List a.T) (ne:NE) (uk:C8),MV md AP a v=some (xs,ne,uk)/\nes[k]? =some ne/\q∈uk):=by
 intro t
 induction t with
 |pair a b VE VF=>
  intro cs x r nes u h
  simp only[FQ] at h
  repeat' split at h
  all_goals first|(cases h;done)|skip
  rename_i _ x1 r1 n1 u1 h1 _ x2 r2 n2 u2 h2
  simp only[AX,DB] at h
  obtain⟨rfl,rfl,rfl,rfl⟩:=h
  obtain⟨c1,e1,l1,m1,_⟩:=JL ⟨fun _=>⟨0,0,true,0,0,none⟩,fun _=>undef⟩ _ _ _ _ _ _ h1
  obtain⟨p1,q1⟩:=VE _ _ _ _ _ h1
  obtain⟨p2,q2⟩:=VF _ _ _ _ _ h2
  refine⟨?_, ?_⟩
  ·intro k o e he
   simp only[B6] at he
   by_cases hk:k<a.HE
   ·rw[VI (by rw[BE];exact hk)] at he
    rcases p1 k o e he with hd|⟨a',v,xs,ne,uk,g1,g2,g3,g4,g5⟩
    ·exact .inl hd
    exact .inr ⟨a',v,xs,ne,uk,g1,by rw[VI (by omega)];exact g2,g3,fun q hq=>EY.2 (.inl (g4 q hq)),g5⟩
   ·rw[VH (by rw[BE];omega),BE] at he
    rcases p2 _ o e he with hd|⟨a',v,xs,ne,uk,g1,g2,g3,g4,g5⟩
    ·exact .inl hd
    exact .inr ⟨a',v,xs,ne,uk,g1,by rw[VH (by omega),m1];exact g2,by rw[e1];exact EY.2 (.inr g3),fun q hq=>EY.2 (.inr (g4 q hq)),g5⟩
  ·intro q hq
   rcases EY.1 hq with hq|hq
   ·obtain⟨k,a',v,xs,ne,uk,g1,g2,g3⟩:=q1 q hq
    have hk:k<n1.length:=by
     rcases GS k n1.length with h1|h1
     ·exact h1
     ·rw[T3 h1] at g2;cases g2
    exact⟨k,a',v,xs,ne,uk,g1,by rw[VI hk];exact g2,g3⟩
   ·obtain⟨k,a',v,xs,ne,uk,g1,g2,g3⟩:=q2 q hq
    exact⟨n1.length+k,a',v,xs,ne,uk,g1,by rw[VH (by omega)];simpa using g2,g3⟩
 |slice a ih=>
  intro cs x r nes u h
  simp only[FQ] at h
  repeat' split at h
  all_goals first|(cases h;done)|skip
  rename_i v r' _ xs ne u' hs
  simp only[AX,DB] at h
  obtain⟨rfl,rfl,rfl,rfl⟩:=h
  refine⟨?_,fun q hq=>⟨0,_,_,_,_,_,hs,rfl,hq⟩⟩
  intro k o e he
  cases k with
  |zero=>
   simp only[B6,OS,AX] at he
   exact .inr ⟨_,_,_,_,_,hs,rfl,by simp,fun _ h=>h,he.symm⟩
  |succ k=>simp [B6] at he
 |nf=>
  intro cs x r nes u h
  simp only[FQ] at h
  repeat' split at h
  all_goals first|(cases h;done)|skip
  all_goals (simp only[AX,DB] at h;obtain⟨rfl,rfl,rfl,rfl⟩:=h;refine⟨fun k o e he=> .inl ?_,fun q hq=>by cases hq⟩;cases k with
   |zero=>simp only[B6,OS,AX] at he;exact he.symm
   |succ k=>simp [B6] at he)
 |_=>
  intro cs x r nes u h
  simp only[FQ] at h
  repeat' split at h
  all_goals first|(cases h;done)|skip
  all_goals (simp only[AX,DB] at h;obtain⟨_,rfl,rfl,rfl⟩:=h;exact⟨fun k o e he=>by simp [B6] at he,fun q hq=>by cases hq⟩)
theorem AR.AAJ {c:DW TB} {w:World} {E:Env}:∀ (u:C8) {G:Nat->Prop} {L:AK},AR c G w E L->(∀ q∈u,∃ t ys,((∃ e,look L q.1=some e/\ZS e t ys)\/look L q.1=some (.shr t ys))/\q.2= .shr t ys)→
  ∃ G',AR c G' w E (AI L u)/\(∀ b,G b->G' b)/\(∀ n,Al L n->Al (AI L u) n)∧
   (∀ n e,look L n=some e->look (AI L u) n=some e\/(∃ t ys,ZS e t ys/\look (AI L u) n=some (.shr t ys)/\(n,.shr t ys)∈u))/\(∀ q∈u,look (AI L u) q.1=some q.2)
 | [],G,L,h,_=>⟨G,h,fun _ hb=>hb,fun _ hn=>hn,fun n e he=> .inl he,fun q hq=>by cases hq⟩
 |q::r,G,L,h,hu=>by
  obtain⟨t,ys,hq,xZ⟩:=hu q (by simp)
  obtain⟨i,e⟩:=q
  simp only at xZ hq
  subst xZ
  have DM:i<L.length:=by rcases hq with ⟨_,h1,_⟩|h1 <;> exact AO h1
  have hl:=fun n=>AZ (L:=L) (q:=(i,AW.shr t ys)) DM n
  obtain⟨G1,h1,hg1⟩:∃ G1,AR c G1 w E (DE L (i,.shr t ys))/\∀ b,G b->G1 b:=by
   rcases hq with ⟨e,hq,ho⟩|hq
   ·cases ho with
    |row=>exact⟨_,h.freeze hq,fun b hb=> .inl hb⟩
    |deep=>exact⟨_,h.AAI hq,fun b hb=> .inl hb⟩
    |tree=>exact⟨_,h.AT6 hq,fun b hb=> .inl hb⟩
   ·refine⟨G, ?_,fun _ hb=>hb⟩
    have:=h.change (i:=i) (e' := .shr t ys) (m:=E.nm i) (w' :=w) DM (.refl _) (EL _) (fun _=>rfl) rfl (fun _ _ _=>rfl) (fun b hb=>by cases hb) (fun _ _ _ _ _ _ hb=>by cases hb) (fun h=>h.LK i _ hq)
    have he:E.set i (E.nm i)=E:=by
     have:(fun k=>if k=i then E.nm i else E.nm k)=E.nm:=by funext k;split <;> simp_all
     simp only[Env.set,this]
    rw[he] at this
    exact this
  have AT9:∀ {e1:AW} {t1 t2:Ty} {y1:List t1.T} {y2:List t2.T},ZS e1 t1 y1->ZS e1 t2 y2->(AW.shr t1 y1)= .shr t2 y2:=by
   intro e1 t1 t2 y1 y2 a b
   cases a <;> cases b <;> rfl
  obtain⟨G2,h2,hg2,ha2,OW,xZ⟩:=AR.AAJ r h1 (by
   intro p hp
   obtain⟨t',ys',rJ,hp2⟩:=hu p (by simp [hp])
   by_cases hpi:p.1=i
   ·refine⟨t,ys,.inr (by rw[hl,AB hpi]), ?_⟩
    rw[hpi] at rJ
    rw[hp2]
    rcases hq with ⟨e,hq,ho⟩|hq <;> rcases rJ with ⟨e',rJ,ho'⟩|rJ <;> rw[hq] at rJ <;> simp only[AX] at rJ
    ·subst rJ;exact AT9 ho' ho
    ·subst rJ;cases ho
    ·subst rJ;cases ho'
    ·exact rJ.symm
   ·refine⟨t',ys', ?_,hp2⟩
    rw[hl,AD hpi];exact rJ)
  refine⟨G2,h2,fun b hb=>hg2 b (hg1 b hb),fun n hn=>ha2 n (BU rfl n hn), ?_, ?_⟩
  ·intro n e he
   by_cases hn:n=i
   ·subst hn
    have hx:=OW n (.shr t ys) (by rw[hl,AB rfl])
    have hx' :look (AI L ((n,.shr t ys)::r)) n=some (.shr t ys):=by
     rcases hx with hx|⟨_,_,hx,_⟩
     ·exact hx
     ·cases hx
    rcases hq with ⟨e',hq,ho⟩|hq
    ·rw[hq] at he;simp only[AX] at he;subst he
     exact .inr ⟨t,ys,ho,hx',by simp⟩
    ·rw[hq] at he;simp only[AX] at he;subst he
     exact .inl hx'
   ·rcases OW n e (by rw[hl,AD hn];exact he) with hx|⟨t',ys',x5,hx2,hx3⟩
    ·exact .inl hx
    ·exact .inr ⟨t',ys',x5,hx2,by simp [hx3]⟩
  ·intro p hp
   rcases GD.1 hp with rfl|hp
   ·rcases OW i (.shr t ys) (by rw[hl,AB rfl]) with hx|⟨_,_,hx,_⟩
    ·exact hx
    ·cases hx
   ·exact xZ p hp
end Go.V3
namespace Go.V3
open Go
variable {TB:Tb}
structure CT where
 t:Ty
 agg:Bool
 own:Bool
 ptr:Bool
@[reducible] def HT:List CT->Type
 | []=>Unit
 |c::r=>match r with
  | []=>c.t.T
  |_::_=>c.t.T×HT r
def HT.hd:(c:CT)->(r:List CT)->HT (c::r)->c.t.T
 |_,[],x=>x
 |_,_::_,x=>x.1
def HT.tl:(c:CT)->(r:List CT)->HT (c::r)->HT r
 |_,[],_=>()
 |_,_::_,x=>x.2
def HT.mk:(c:CT)->(r:List CT)->c.t.T->HT r->HT (c::r)
 |_,[],x,_=>x
 |_,_::_,x,y=>(x,y)
theorem HT.pD (c:CT) (r:List CT) (x:c.t.T) (y:HT r):HT.hd c r (HT.mk c r x y)=x:=by cases r <;> rfl
theorem HT.pE (c:CT) (r:List CT) (x:c.t.T) (y:HT r):HT.tl c r (HT.mk c r x y)=y:=by cases r <;> rfl
def CT.pn (c:CT):Nat:=match c.ptr with|true=>1|false=>0
def CT.cnt (c:CT):Nat:=c.pn+c.t.HE
def cnts:List CT->Nat
 | []=>0
 |c::r=>c.cnt+cnts r
def CX:Nat->List AW->C8
 |_,[]=>[]
 |n,e::r=>(n,e)::CX (n+1) r
def S8 (c:CT) (x:c.t.T) (n:Nat):SV:=match c.ptr with
 |true=> .loc n 0
 |false=>match c.agg with
  |true=> .agg (H_ c.t x n)
  |false=>(H_ c.t x n).headD AV
def outSVs:(cs:List CT)->HT cs->Nat->List SV
 | [],_,_=>[]
 |c::r,x,n=>S8 c (HT.hd c r x) n::outSVs r (HT.tl c r x) (n+c.cnt)
def OX (c:CT) (x:c.t.T) (n:Nat):C8:=match c.ptr with
 |true=>CX (n+1) (B6 c.own c.t x)++ [(n,.box (H_ c.t x (n+1)))]
 |false=>CX n (B6 c.own c.t x)
def EC:(cs:List CT)->HT cs->Nat->C8
 | [],_,_=>[]
 |c::r,x,n=>OX c (HT.hd c r x) n++EC r (HT.tl c r x) (n+c.cnt)
def jE (c:DW TB) (G:Nat->Prop) (w:World) (m:Nm):AW->Prop
 | .row t xs=>Own (Rp G w t) t.sz c G w m xs
 | .shr t xs=>qR (Rp G w t) t.sz G w m xs
 | .deep t xss h=>h=none/\FT c G w ⟨fun _=>m,fun _=>undef⟩ [] m m.ins.l t xss none
 | .tree t1 t2 xs=>FC c G w m t1 t2 xs
 | .dead=>True
 |_=>False
def AW.W1 (e:AW) (m:Nm):List Nat:=match e with
 | .deep _ _ _=>m.ins.l
 | .tree _ _ _=>m.ins.l
 |e=>(e.own m).toList
theorem AW.AAK {e:AW} {E:Env} {n b:Nat} {m:Nm} (h1:E.nm n=m) (h2:E.ins.l n=m.ins.l):e.ow E n b↔b∈e.W1 m:=by
 cases e <;> simp [AW.ow,AW.own,AW.W1,AW.SU,AW.OV,h1,h2]
 all_goals exact⟨fun h=>h.symm,fun h=>h.symm⟩
def AW.ALO (e:AW) (E:Env) (n:Nat):List Nat:=match e with
 | .deep _ _ _=>E.ins.l n
 | .tree _ _ _=>(E.nm n).ins.l
 |e=>(e.own (E.nm n)).toList
theorem AW.AZX {e:AW} {E:Env} {n b:Nat}:e.ow E n b↔b∈e.ALO E n:=by
 cases e
 case row t x=>show (AW.row t x).own (E.nm n)=some b\/_↔b∈((AW.row t x).own (E.nm n)).toList;simp [AW.SU,AW.OV]
 case box t=>show (AW.box t).own (E.nm n)=some b\/_↔b∈((AW.box t).own (E.nm n)).toList;simp [AW.SU,AW.OV]
 case map t=>show (AW.map t).own (E.nm n)=some b\/_↔b∈((AW.map t).own (E.nm n)).toList;simp [AW.SU,AW.OV]
 all_goals simp [AW.ow,AW.own,AW.ALO,AW.SU,AW.OV]
theorem jE.nil (c:DW TB) (G:Nat->Prop) (w:World) (a:Ty) (ha:a.AX7=false):jE c G w ⟨0,0,true,0,0,none⟩ (JK a []):=by
 cases a
 case kv=>cases ha
 case slice a=>exact⟨rfl,{ len:=rfl,off:=rfl,nd:=fL,all:=fun b hb=>(by cases hb),cs:= .inl ⟨rfl,rfl,rfl⟩ }⟩
 case pair a b=>cases a <;> cases b <;> first|exact⟨rfl,trivial,.inl ⟨rfl,rfl,rfl⟩⟩|exact⟨rfl,rfl,fL,fun b hb=>(by cases hb),.inl ⟨rfl,rfl,rfl⟩⟩
 all_goals exact⟨rfl,trivial,.inl ⟨rfl,rfl,rfl⟩⟩
theorem AW.AD9 {e:AW} {m:Nm} {b:Nat} (h:e.own m=some b):b∈e.W1 m:=by
 cases e <;> first|cases h;done|simp [AW.W1,h]
theorem jE.tE {c:DW TB} {G:Nat->Prop} {w:World} {m:Nm} {e:AW} (h:jE c G w m e) {b:Nat} (hb:b∈e.W1 m):¬c.Old b/\¬G b/\b<w.heap.size:=by
 cases e with
 |row t xs=>
  have h' :ZE c G w ⟨fun _=>m,fun _=>undef⟩ [] m (.row t xs):=h
  have SQ :(AW.row t xs).own m=some b:=by simpa [AW.W1] using hb
  obtain⟨_,_,_,h4,h5,o,h6⟩:=h'.tB SQ
  exact⟨h5,h4,SW h6⟩
 |deep t xss q=>
  obtain⟨h1,h2,arr,ty,_,h3⟩:=h.2.all b hb
  exact⟨h2,h1,SW h3⟩
 |tree t1 t2 xs=>
  obtain⟨h1,h2,arr,ty,_,h3⟩:=h.all b hb
  exact⟨h2,h1,SW h3⟩
 |shr t xs=>simp [AW.W1,AW.own] at hb
 |dead=>simp [AW.W1,AW.own] at hb
 |_=>exact h.elim
def GW (c:DW TB) (G:Nat->Prop) (w:World) (d:CT) (x:d.t.T) (ms:Nat->Nm):Prop:=
 (∀ j e,(B6 d.own d.t x)[j]? =some e->jE c G w (ms (d.pn+j)) e)∧
 (d.ptr=true->(ms 0).nil=false/\(ms 0).off=(ms 0).pp.pre.length/\¬G (ms 0).B_/\¬c.Old (ms 0).B_/\∃ ty,w.heap[(ms 0).B_]? =some (.cells ((ms 0).arr (enc d.t x (fun j=>ms (d.pn+j)))) ty (0,0)))
def PS (c:DW TB) (G:Nat->Prop) (w:World):(cs:List CT)->HT cs->(Nat->Nm)->Prop
 | [],_,_=>True
 |d::r,x,ms=>GW c G w d (HT.hd d r x) ms/\PS c G w r (HT.tl d r x) (fun k=>ms (d.cnt+k))
def G5:List AW->(Nat->Nm)->List Nat
 | [],_=>[]
 |e::r,ms=>e.W1 (ms 0)++G5 r (fun k=>ms (k+1))
def MW (d:CT) (x:d.t.T) (ms:Nat->Nm):List Nat:=(match d.ptr with|true=>[(ms 0).B_]|false=>[])++G5 (B6 d.own d.t x) (fun j=>ms (d.pn+j))
def CA:(cs:List CT)->HT cs->(Nat->Nm)->List Nat
 | [],_,_=>[]
 |d::r,x,ms=>MW d (HT.hd d r x) ms++CA r (HT.tl d r x) (fun k=>ms (d.cnt+k))
def IU (E:Env) (L:AK) (b:Nat):Prop:=∀ n e,look L n=some e->¬e.ow E n b
def Env.put (E:Env) (n cnt:Nat) (ms:Nat->Nm):Env:={ E with nm:=fun k=>if n<=k/\k<n+cnt then ms (k-n) else E.nm k,ins:=⟨fun k=>if n<=k/\k<n+cnt then (ms (k-n)).ins.l else E.ins.l k⟩ }
theorem Env.jF (E:Env) (n cnt:Nat) (ms:Nat->Nm) {j:Nat} (h:j<cnt):(E.put n cnt ms).nm (n+j)=ms j:=by
 simp only[Env.put]
 rw[AB ⟨by omega,by omega⟩]
 congr 1;omega
theorem Env.V4 (E:Env) (n cnt:Nat) (ms:Nat->Nm) {k:Nat} (h:k<n\/n+cnt<=k):(E.put n cnt ms).nm k=E.nm k:=by
 simp only[Env.put]
 rw[AD (by omega)]
theorem Env.AJ8 (E:Env) (n cnt:Nat) (ms:Nat->Nm) {j:Nat} (h:j<cnt):(E.put n cnt ms).ins.l (n+j)=(ms j).ins.l:=by
 simp only[Env.put]
 rw[AB ⟨by omega,by omega⟩]
 congr 3;omega
theorem Env.AOO (E:Env) (n cnt:Nat) (ms:Nat->Nm) {k:Nat} (h:k<n\/n+cnt<=k):(E.put n cnt ms).ins.l k=E.ins.l k:=by
 simp only[Env.put]
 rw[AD (by omega)]
theorem AW.bG {e:AW} {E:Env} {n cnt:Nat} {ms:Nat->Nm} {j b:Nat} (h:j<cnt):e.ow (E.put n cnt ms) (n+j) b↔b∈e.W1 (ms j):=AW.AAK (E.jF n cnt ms h) (E.AJ8 n cnt ms h)
theorem AW.eO {e:AW} {E E' :Env} {n b:Nat} (h:E'.nm n=E.nm n/\E'.ins.l n=E.ins.l n):e.ow E' n b↔e.ow E n b:=by unfold AW.ow;rw[h.1,h.2]
theorem AW.nQ {e:AW} {E:Env} {n cnt:Nat} {ms:Nat->Nm} {k b:Nat} (h:k<n\/n+cnt<=k):e.ow (E.put n cnt ms) k b↔e.ow E k b:=AW.eO ⟨E.V4 n cnt ms h,E.AOO n cnt ms h⟩
theorem K8 {E E' :Env} (h:∀ k,E.nm k=E'.nm k) (h2:E.ds=E'.ds) (h3:∀ k,E.ins.l k=E'.ins.l k):E=E' :=by
 obtain @⟨a,b,⟨d⟩⟩:=E
 obtain @⟨a',b',⟨d'⟩⟩:=E'
 have e1:a=a' :=funext h
 have e2:b=b' :=h2
 have e3:d=d' :=funext h3
 subst e1 e2 e3
 rfl
theorem H8 {f:AW} {b:Nat}:∀ (es:List AW) (j:Nat) (ms:Nat->Nm),es[j]? =some f->b∈f.W1 (ms j)->b∈G5 es ms
 | [],j,ms,h,_=>by simp at h
 |e::r,0,ms,h,hb=>by
  simp only[OS,AX] at h;subst h
  simp only[G5];exact EY.2 (.inl hb)
 |e::r,j+1,ms,h,hb=>by
  simp only[vW] at h
  simp only[G5]
  exact EY.2 (.inr (H8 r j (fun k=>ms (k+1)) h hb))
theorem AR.lC {c:DW TB} {G:Nat->Prop} {w:World}:∀ (es:List AW) {E:Env} {L:AK} {n:Nat} {ms:Nat->Nm},AR c G w E L->(∀ j,j<es.length->look L (n+j)=some .K5)→
  (∀ j e,es[j]? =some e->jE c G w (ms j) e)->(G5 es ms).Nodup->(∀ b∈G5 es ms,IU E L b)→
  AR c G w (E.put n es.length ms) (AI L (CX n es))/\(∀ k,look (AI L (CX n es)) k=if n<=k/\k<n+es.length then es[k-n]? else look L k)
 | [],E,L,n,ms,h,_,_,_,_=>by
  have e1:E.put n 0 ms=E:=K8 (fun k=>by simp only[Env.put];rw[AD (by omega)]) rfl (fun k=>by simp only[Env.put];rw[AD (by omega)])
  refine⟨by rw[VN,e1];exact h,fun k=> ?_⟩
  rw[AD (by simp)];rfl
 |e::r,E,L,n,ms,h,hl,hm,H9,WX=>by
  have h0:look L n=some .K5:=hl 0 (by simp)
  have DM:=AO h0
  have B9:=fun k=>AZ (L:=L) (q:=(n,e)) DM k
  have hm0:=hm 0 e rfl
  have CO:e.HR=false:=by cases e <;> first|rfl|exact hm0.elim
  have DC:∀ b,b∈e.W1 (ms 0)->¬c.Old b/\¬G b:=fun b hb=>⟨(hm0.tE hb).1,(hm0.tE hb).2.1⟩
  have WJ:∀ b,b∈e.W1 (ms 0)->b∈G5 (e::r) ms:=by
   intro b hb
   simp only[G5]
   exact EY.2 (.inl hb)
  have fN:∀ b,e.ow (E.SX n (ms 0) (ms 0).ins.l) n b↔b∈e.W1 (ms 0):=fun b=>AW.AAK (E.EM _ _ _).1 (E.EM _ _ _).2
  have h1:AR c G w (E.SX n (ms 0) (ms 0).ins.l) (DE L (n,e)):=by
   refine h.T8 DM (.refl _) (EL _) (fun MY=>absurd MY (EJ h0)) (fun k hk=>E.MM _ _ hk) CO (fun _ _ _=>rfl) (fun b hb=>DC b ((fN b).1 hb)) ?_ ?_ ?_
   ·intro k f hk hf b hb he
    exact WX b (WJ b ((fN b).1 he)) k f hf hb
   ·rw[(E.EM _ _ _).1]
    cases e with
    |row t xs=>exact hm0
    |shr t xs=>exact hm0
    |deep t xss q=>trivial
    |dead=>trivial
    |tree t1 t2 xs=>exact hm0
    |_=>exact hm0.elim
   ·intro t xss q he
    subst he
    obtain⟨rfl,hm0⟩:=hm0
    rw[(E.EM _ _ _).1,(E.EM _ _ _).2]
    exact hm0.env ⟨rfl,rfl,rfl,rfl,rfl⟩
  have ATA :(G5 r (fun k=>ms (k+1))).Nodup:=(QA.1 H9).2.1
  obtain⟨h2,h3⟩:=AR.lC r (n:=n+1) (ms:=fun k=>ms (k+1)) h1 (by
    intro j hj
    rw[B9,AD (by simp;omega)]
    have:=hl (j+1) (by simp;omega)
    rw[<-this];congr 1;omega)
   (fun j e' wA =>hm (j+1) e' (by simpa using wA)) ATA (by
    intro b hb k f hf QC
    rw[B9] at hf
    by_cases hk:k=n
    ·subst hk
     simp only[G4,AX] at hf
     subst hf
     exact (QA.1 H9).2.2 b ((fN b).1 QC) b hb rfl
    ·rw[AD hk] at hf
     rw[AW.eO (E.MM _ _ hk)] at QC
     exact WX b (by simp only[G5];exact EY.2 (.inr hb)) k f hf QC)
  have e1:(E.SX n (ms 0) (ms 0).ins.l).put (n+1) r.length (fun k=>ms (k+1))=E.put n (e::r).length ms:=by
   refine K8 (fun k=> ?_) rfl (fun k=> ?_)
   all_goals simp only[Env.put,Env.SX,NZ]
   all_goals by_cases hk:k=n
   all_goals first|subst hk|skip
   ·rw[AD (by omega),AB rfl,AB ⟨by omega,by omega⟩]
    congr 1;omega
   ·by_cases OW:n+1<=k/\k<n+1+r.length
    ·rw[AB OW,AB ⟨by omega,by omega⟩]
     congr 1;omega
    ·rw[AD OW,AD hk,AD (by omega)]
   ·rw[AD (by omega),AB rfl,AB ⟨by omega,by omega⟩]
    congr 3;omega
   ·by_cases OW:n+1<=k/\k<n+1+r.length
    ·rw[AB OW,AB ⟨by omega,by omega⟩]
     congr 3;omega
    ·rw[AD OW,AD hk,AD (by omega)]
  refine⟨by rw[<-e1];exact h2,fun k=> ?_⟩
  have:=h3 k
  show look (AI (DE L (n,e)) (CX (n+1) r)) k=_
  rw[this,B9,NZ]
  by_cases hk:k=n
  ·subst hk
   rw[AD (by omega),AB rfl,AB ⟨by omega,by omega⟩]
   simp
  ·by_cases OW:n+1<=k/\k<n+1+r.length
   ·rw[AB OW,AB ⟨by omega,by omega⟩]
    have:k-n=(k-(n+1))+1:=by omega
    rw[this];simp
   ·rw[AD OW,AD hk,AD (by omega)]
theorem BM (L:AK) (a b:C8):AI L (a++b)=AI (AI L a) b:=by simp [AI]
theorem W2 {o:Bool} {t:Ty} {x:t.T} {e:AW} {j:Nat} (h:(B6 o t x)[j]? =some e):e.HR=false:=by
 induction t generalizing j with
 |pair a b VE VF=>
  simp only[B6] at h
  by_cases hk:j<(B6 o a x.1).length
  ·rw[VI hk] at h;exact VE h
  ·rw[VH (by omega)] at h;exact VF h
 |slice a=>
  cases j with
  |zero=>simp only[B6,OS,AX] at h;subst h;cases o <;> first|rfl|exact jC _ _
  |succ j=>simp [B6] at h
 |nf=>
  cases j with
  |zero=>simp only[B6,OS,AX] at h;subst h;rfl
  |succ j=>simp [B6] at h
 |_=>simp [B6] at h
theorem tF {E:Env} {L:AK} (t:Ty) (x:t.T) (n:Nat) (h:∀ j,j<t.HE->Al L (n+j)):K6 E L (H_ t x n):=by
 induction t generalizing n with
 |pair a b VE VF=>
  simp only[H_]
  rw[BW]
  intro v hv
  rcases EY.1 hv with hv|hv
  ·exact BW.1 (VE x.1 n (fun j hj=>h j (by simp [Ty.HE];omega))) v hv
  ·exact BW.1 (VF x.2 _ (fun j hj=>by rw[N0];exact h _ (by simp [Ty.HE];omega))) v hv
 |slice a=>exact⟨h 0 (by simp [Ty.HE]),trivial⟩
 |nf=>exact⟨h 0 (by simp [Ty.HE]),trivial⟩
 |_=>exact⟨trivial,trivial⟩
theorem AR.AJ9 {c:DW TB} {G:Nat->Prop} {w:World} {E:Env} {L:AK} (h:AR c G w E L) (d:CT) (x:d.t.T) {n:Nat} {ms:Nat->Nm} (hl:∀ j,j<d.cnt->look L (n+j)=some .K5)
  (hc:GW c G w d x ms) (H9:(MW d x ms).Nodup) (WX:∀ b∈MW d x ms,IU E L b):
  AR c G w (E.put n d.cnt ms) (AI L (OX d x n))/\(∀ k,(n<=k/\k<n+d.cnt->Al (AI L (OX d x n)) k)/\(¬(n<=k/\k<n+d.cnt)->look (AI L (OX d x n)) k=look L k))∧
   (S8 d x n).wf (E.put n d.cnt ms) (AI L (OX d x n))∧
   (∀ k f b,n<=k/\k<n+d.cnt->look (AI L (OX d x n)) k=some f->f.ow (E.put n d.cnt ms) k b->b∈MW d x ms):=by
 unfold OX S8
 unfold GW CT.cnt MW CT.pn at*
 cases hp:d.ptr with
 |false=>
  simp only[hp,ML,nI] at*
  obtain⟨h1,h2⟩:=AR.lC (B6 d.own d.t x) (n:=n) (ms:=ms) h (fun j hj=>hl j (by rw[BE] at hj;exact hj)) hc.1 H9 WX
  rw[BE] at h1 h2
  have MY:∀ k,n<=k/\k<n+d.t.HE->Al (AI L (CX n (B6 d.own d.t x))) k:=by
   intro k hk
   have DM:k-n<(B6 d.own d.t x).length:=by rw[BE];omega
   refine⟨(B6 d.own d.t x)[k-n], ?_,W2 (NH DM)⟩
   rw[h2,AB hk,NH DM]
  refine⟨h1,fun k=>⟨MY k,fun hk=>by rw[h2,AD hk]⟩, ?_, ?_⟩
  rotate_left
  ·intro k f b hk hf hb
   rw[h2,AB hk] at hf
   have e0:k=n+(k-n):=by omega
   rw[e0,AW.bG (by omega)] at hb
   exact H8 _ _ _ hf hb
  have hw:K6 (E.put n d.t.HE ms) (AI L (CX n (B6 d.own d.t x))) (H_ d.t x n):=tF _ _ _ fun j hj=>MY _ ⟨by omega,by omega⟩
  cases hd:d.agg with
  |true=>exact hw
  |false=>
   show SV.wf _ _ ((H_ d.t x n).headD AV)
   cases hu:H_ d.t x n with
   |nil=>trivial
   |cons v r=>rw[hu] at hw;exact hw.1
 |true=>
  simp only[hp] at*
  obtain⟨hc1,hc2⟩:=hc
  obtain⟨b1,b2,b3,b4,ty,b5⟩:=hc2 trivial
  have W3:=QA.1 H9
  obtain⟨h1,h2⟩:=AR.lC (B6 d.own d.t x) (n:=n+1) (ms:=fun j=>ms (1+j)) h (fun j hj=>by have:=hl (1+j) (by rw[BE] at hj;omega);rw[<-this];congr 1;omega) hc1 W3.2.1
   (fun b hb=>WX b (EY.2 (.inr hb)))
  rw[BE] at h1 h2
  have h0:look (AI L (CX (n+1) (B6 d.own d.t x))) n=some .K5:=by
   rw[h2,AD (by omega)];exact hl 0 (by omega)
  have DM:=AO h0
  have B9:=fun k=>AZ (q:=(n,AW.box (H_ d.t x (n+1)))) DM k
  have MY:∀ k,n<=k/\k<n+(1+d.t.HE)->Al (DE (AI L (CX (n+1) (B6 d.own d.t x))) (n,AW.box (H_ d.t x (n+1)))) k:=by
   intro k hk
   by_cases hkn:k=n
   ·exact⟨.box (H_ d.t x (n+1)),by rw[B9,AB hkn],rfl⟩
   ·have DM:k-(n+1)<(B6 d.own d.t x).length:=by rw[BE];omega
    refine⟨(B6 d.own d.t x)[k-(n+1)], ?_,W2 (NH DM)⟩
    rw[B9,AD hkn,h2,AB (by omega),NH DM]
  have e1:(E.put (n+1) d.t.HE (fun j=>ms (1+j))).SX n (ms 0) (ms 0).ins.l=E.put n (1+d.t.HE) ms:=by
   refine K8 (fun k=> ?_) rfl (fun k=> ?_)
   all_goals simp only[Env.put,Env.SX]
   all_goals by_cases hk:k=n
   all_goals first|subst hk|skip
   ·rw[AB rfl,AB (by omega)]
    congr 1;omega
   ·rw[AD hk]
    by_cases OW:n+1<=k/\k<n+1+d.t.HE
    ·rw[AB OW,AB (by omega)]
     congr 1;omega
    ·rw[AD OW,AD (by omega)]
   ·rw[AB rfl,AB (by omega)]
    congr 3;omega
   ·rw[AD hk]
    by_cases OW:n+1<=k/\k<n+1+d.t.HE
    ·rw[AB OW,AB (by omega)]
     congr 3;omega
    ·rw[AD OW,AD (by omega)]
  have pF:K6 (E.put n (1+d.t.HE) ms) (DE (AI L (CX (n+1) (B6 d.own d.t x))) (n,AW.box (H_ d.t x (n+1)))) (H_ d.t x (n+1)):=
   tF _ _ _ fun j hj=>MY _ (by omega)
  have h3:=h1.AT7 (i:=n) (e' := .box (H_ d.t x (n+1))) (m:=ms 0) (w' :=w) (ms 0).ins.l DM (.refl _) (EL _) (fun hx=>absurd hx (EJ h0)) rfl (fun _ _ _=>rfl)
   (fun b hb=>by simp only[AW.own,AX] at hb;subst hb;exact⟨b4,b3⟩)
   (by
    intro k f hk hf b hb he
    simp only[AW.own,AX] at he
    subst he
    rw[h2] at hf
    by_cases OW:n+1<=k/\k<n+1+d.t.HE
    ·rw[AB OW] at hf
     have OE:(ms 0).B_∈G5 (B6 d.own d.t x) (fun j=>ms (1+j)):=by
      have:k=n+1+(k-(n+1)):=by omega
      rw[this,AW.bG (by omega)] at hb
      exact H8 _ _ _ hf hb
     exact W3.2.2 _ (by simp) _ OE rfl
    ·rw[AD OW] at hf
     rw[AW.nQ (by omega)] at hb
     exact WX _ (EY.2 (.inl (by simp))) k f hf hb)
   (by
    intro _
    rw[e1]
    refine⟨b1,b2,b3,b4,⟨ty, ?_⟩,pF⟩
    rw[b5,V2]
    congr 3
    apply HP
    intro j hj
    show ms (1+j)=(E.put n (1+d.t.HE) ms).nm (n+1+j)
    rw[N0,Env.jF _ _ _ _ (by omega)])
  rw[e1] at h3
  rw[BM]
  refine⟨h3,fun k=>⟨MY k,fun hk=> ?_⟩,MY n (by omega), ?_⟩
  ·show look (DE _ _) k=_
   rw[B9,AD (by omega),h2,AD (by omega)]
  ·intro k f b hk hf hb
   have hf' :look (DE (AI L (CX (n+1) (B6 d.own d.t x))) (n,AW.box (H_ d.t x (n+1)))) k=some f:=hf
   rw[B9] at hf'
   by_cases hkn:k=n
   ·subst hkn
    simp only[G4,AX] at hf'
    subst hf'
    have SQ :=(AW.bG (e:= .box (H_ d.t x (k+1))) (E:=E) (n:=k) (cnt:=1+d.t.HE) (ms:=ms) (j:=0) (b:=b) (by omega)).1 (by simpa using hb)
    simp only[AW.W1,AW.own,Option.toList_some,GO] at SQ
    exact EY.2 (.inl (by simp [SQ]))
   ·rw[AD hkn,h2,AB (by omega)] at hf'
    have e0:k=n+(1+(k-(n+1))):=by omega
    rw[e0,AW.bG (by omega)] at hb
    exact EY.2 (.inr (H8 _ _ (fun j=>ms (1+j)) hf' hb))
theorem AR.lD {c:DW TB} {G:Nat->Prop} {w:World}:∀ (cs:List CT) {E:Env} {L:AK} (x:HT cs) {n:Nat} {ms:Nat->Nm},AR c G w E L->(∀ j,j<cnts cs->look L (n+j)=some .K5)→
  PS c G w cs x ms->(CA cs x ms).Nodup->(∀ b∈CA cs x ms,IU E L b)→
  AR c G w (E.put n (cnts cs) ms) (AI L (EC cs x n))/\(∀ k,(n<=k/\k<n+cnts cs->Al (AI L (EC cs x n)) k)/\(¬(n<=k/\k<n+cnts cs)->look (AI L (EC cs x n)) k=look L k))∧
   K6 (E.put n (cnts cs) ms) (AI L (EC cs x n)) (outSVs cs x n)
 | [],E,L,x,n,ms,h,_,_,_,_=>by
  have e1:E.put n 0 ms=E:=K8 (fun k=>by simp only[Env.put];rw[AD (by omega)]) rfl (fun k=>by simp only[Env.put];rw[AD (by omega)])
  refine⟨by simp only[cnts,e1];exact h,fun k=>⟨fun hk=>by simp [cnts] at hk;omega,fun _=>rfl⟩,trivial⟩
 |d::r,E,L,x,n,ms,h,hl,hp,H9,WX=>by
  have W3:=QA.1 H9
  obtain⟨h1,h2,h3,h4⟩:=h.AJ9 d (HT.hd d r x) (n:=n) (ms:=ms) (fun j hj=>hl j (by simp [cnts];omega)) hp.1 W3.1 (fun b hb=>WX b (EY.2 (.inl hb)))
  obtain⟨k1,k2,k3⟩:=AR.lD r (HT.tl d r x) (n:=n+d.cnt) (ms:=fun k=>ms (d.cnt+k)) h1
   (by
    intro j hj
    rw[(h2 _).2 (by omega),N0]
    exact hl _ (by simp [cnts];omega)) hp.2 W3.2.1
   (by
    intro b hb k f hf QC
    by_cases hk:n<=k/\k<n+d.cnt
    ·exact W3.2.2 b (h4 k f b hk hf QC) b hb rfl
    ·rw[(h2 k).2 hk] at hf
     rw[AW.nQ (by omega)] at QC
     exact WX b (EY.2 (.inr hb)) k f hf QC)
  have e1:(E.put n d.cnt ms).put (n+d.cnt) (cnts r) (fun k=>ms (d.cnt+k))=E.put n (cnts (d::r)) ms:=by
   show _=E.put n (d.cnt+cnts r) ms
   refine K8 (fun k=> ?_) rfl (fun k=> ?_)
   all_goals simp only[Env.put]
   all_goals by_cases hk:n+d.cnt<=k/\k<n+d.cnt+cnts r
   ·rw[AB hk,AB (by omega)]
    congr 1;omega
   ·rw[AD hk]
    by_cases OW:n<=k/\k<n+d.cnt
    ·rw[AB OW,AB (by omega)]
    ·rw[AD OW,AD (by omega)]
   ·rw[AB hk,AB (by omega)]
    congr 3;omega
   ·rw[AD hk]
    by_cases OW:n<=k/\k<n+d.cnt
    ·rw[AB OW,AB (by omega)]
    ·rw[AD OW,AD (by omega)]
  have e2:AI L (EC (d::r) x n)=AI (AI L (OX d (HT.hd d r x) n)) (EC r (HT.tl d r x) (n+d.cnt)):=by
   simp only[EC,BM]
  rw[e1] at k1 k3
  rw[e2]
  have MY:∀ k,Al (AI L (OX d (HT.hd d r x) n)) k->Al (AI (AI L (OX d (HT.hd d r x) n)) (EC r (HT.tl d r x) (n+d.cnt))) k:=by
   intro k hk
   by_cases OW:n+d.cnt<=k/\k<n+d.cnt+cnts r
   ·exact (k2 k).1 OW
   ·obtain⟨e,tG,he2⟩:=hk
    exact⟨e,by rw[(k2 k).2 OW];exact tG,he2⟩
  refine⟨k1,fun k=>⟨fun hk=> ?_,fun hk=> ?_⟩, ?_,k3⟩
  ·simp only[cnts] at hk
   by_cases OW:n+d.cnt<=k/\k<n+d.cnt+cnts r
   ·exact (k2 k).1 OW
   ·exact MY k ((h2 k).1 (by omega))
  ·simp only[cnts] at hk
   rw[(k2 k).2 (by omega),(h2 k).2 (by omega)]
  ·refine (X_ MY (fun k hk=> ?_) _ h3).1
   rw[<-e1]
   refine Env.V4 _ _ _ _ ?_
   rcases GS k (n+d.cnt) with DM|hge
   ·exact .inl DM
   ·right
    rcases GS k (n+d.cnt+cnts r) with AGJ|AOP
    ·exfalso
     have:look (AI L (OX d (HT.hd d r x) n)) k=some .K5:=by
      rw[(h2 k).2 (by omega)]
      have:=hl (k-n) (by simp [cnts];omega)
      have e:n+(k-n)=k:=by omega
      rw[e] at this;exact this
     exact EJ this hk
    ·exact AOP
structure LP (T:Type) where
 x:T
 nes:List NE
 fz:C8
 on:List Nat
 ln:List Nat
def OY (md:PM) (AP:Nat->Option AW) (c:CT) (v:SV):Option (LP c.t.T):=
 match c.ptr with
 |true=>match v with
  | .loc i off=>if off=0 then (match AP i with
   |some (.box cs)=>match c.own with
    |true=>match FQ .own AP c.t cs with
     |some (x,[],nes,u)=>some ⟨x,.whole i::nes,[],i::u.map (·.1),[]⟩
     |_=>none
    |false=>match FQ md AP c.t cs with
     |some (x,[],nes,u)=>some ⟨x,.whole i::nes,u,[i],nes.filterMap NE.name⟩
     |_=>none
   |_=>none) else none
  |_=>none
 |false=>match (match c.agg,v with
   |true,.agg cs=>some cs
   |true,_=>none
   |false,v=>some [v]) with
  |none=>none
  |some cs=>match c.own with
   |true=>match FQ .own AP c.t cs with
    |some (x,[],nes,u)=>some ⟨x,nes,[],u.map (·.1),[]⟩
    |_=>none
   |false=>match FQ md AP c.t cs with
    |some (x,[],nes,u)=>some ⟨x,nes,u,[],nes.filterMap NE.name⟩
    |_=>none
def JM (md:PM) (AP:Nat->Option AW):(cs:List CT)->List SV->Option (LP (HT cs))
 | [],[]=>some ⟨(),[],[],[],[]⟩
 |c::r,v::vs=>match OY md AP c v with
  |none=>none
  |some a=>match JM md AP r vs with
   |none=>none
   |some b=>some ⟨HT.mk c r a.x b.x,a.nes++b.nes,a.fz++b.fz,a.on++b.on,a.ln++b.ln⟩
 |_,_=>none
def okA {T:Type} (a:LP T):Bool:=decide a.on.Nodup && a.on.all fun i=> !a.ln.contains i
def LP.DD {T:Type} (a:LP T):C8:=a.fz++a.on.map fun i=>(i,.dead)
end Go.V3
namespace Go.V3
open Go
variable {TB:Tb}
theorem KR {md:PM} {AP:Nat->Option AW} {c:CT} {v:SV} {a:LP c.t.T} (h:OY md AP c v=some a):
  ∃ (cs:List SV) (u:C8) (nes:List NE) (x:c.t.T),FQ (if c.own=true then .own else md) AP c.t cs=some (x,[],nes,u)/\a.x=x∧
   ((c.ptr=true/\∃ i,v= .loc i 0/\AP i=some (.box cs)/\a.nes= .whole i::nes/\a.on=i::(if c.own=true then u.map (·.1) else []))∨
    (c.ptr=false/\((c.agg=true/\v= .agg cs)\/(c.agg=false/\cs=[v]))/\a.nes=nes/\a.on=(if c.own=true then u.map (·.1) else [])))∧
   a.fz=(if c.own=true then [] else u)/\a.ln=(if c.own=true then [] else nes.filterMap NE.name):=by
 unfold OY at h
 split at h
 ·rename_i hp
  split at h
  ·rename_i i off
   split at h
   ·rename_i ho
    subst ho
    split at h
    ·rename_i cs hl
     split at h
     ·rename_i DC
      split at h
      ·rename_i x nes u hk
       simp only[AX] at h;subst h
       exact⟨cs,u,nes,x,by simp [DC,hk],rfl,.inl ⟨hp,i,rfl,hl,rfl,by simp [DC]⟩,by simp [DC],by simp [DC]⟩
      ·cases h
     ·rename_i DC
      split at h
      ·rename_i x nes u hk
       simp only[AX] at h;subst h
       exact⟨cs,u,nes,x,by simp [DC,hk],rfl,.inl ⟨hp,i,rfl,hl,rfl,by simp [DC]⟩,by simp [DC],by simp [DC]⟩
      ·cases h
    ·cases h
   ·cases h
  ·cases h
 ·rename_i hp
  split at h
  ·cases h
  ·rename_i cs hcs
   have hag:(c.agg=true/\v= .agg cs)\/(c.agg=false/\cs=[v]):=by
    split at hcs
    ·rename_i ha;simp only[AX] at hcs;exact .inl ⟨ha,by rw[hcs]⟩
    ·cases hcs
    ·rename_i ha;simp only[AX] at hcs;exact .inr ⟨ha,hcs.symm⟩
   split at h
   ·rename_i DC
    split at h
    ·rename_i x nes u hk
     simp only[AX] at h;subst h
     exact⟨cs,u,nes,x,by simp [DC,hk],rfl,.inr ⟨hp,hag,rfl,by simp [DC]⟩,by simp [DC],by simp [DC]⟩
    ·cases h
   ·rename_i DC
    split at h
    ·rename_i x nes u hk
     simp only[AX] at h;subst h
     exact⟨cs,u,nes,x,by simp [DC,hk],rfl,.inr ⟨hp,hag,rfl,by simp [DC]⟩,by simp [DC],by simp [DC]⟩
    ·cases h
theorem QD {md:PM} {AP:Nat->Option AW} {c:CT} {r:List CT} {vs:List SV} {a:LP (HT (c::r))} (h:JM md AP (c::r) vs=some a):
  ∃ v vs' a1 a2,vs=v::vs' /\OY md AP c v=some a1/\JM md AP r vs' =some a2/\a=⟨HT.mk c r a1.x a2.x,a1.nes++a2.nes,a1.fz++a2.fz,a1.on++a2.on,a1.ln++a2.ln⟩:=by
 cases vs with
 |nil=>simp [JM] at h
 |cons v vs' =>
  simp only[JM] at h
  split at h
  ·cases h
  ·split at h
   ·cases h
   ·simp only[AX] at h
    exact⟨v,vs',_,_,rfl,by assumption,by assumption,h.symm⟩
theorem Q2 {md:PM} {AP:Nat->Option AW} {c:CT} {v:SV} {a:LP c.t.T} (h:OY md AP c v=some a):a.nes.length=c.cnt:=by
 obtain⟨cs,u,nes,x,h1,rfl,h2,_⟩:=KR h
 obtain⟨_,_,_,hn,_⟩:=JL ⟨fun _=>⟨0,0,true,0,0,none⟩,fun _=>undef⟩ _ _ _ _ _ _ h1
 unfold CT.cnt CT.pn
 rcases h2 with ⟨hp,i,_,_,e,_⟩|⟨hp,_,e,_⟩
 ·rw[e,hp];simp [hn];omega
 ·rw[e,hp];simp [hn]
theorem ADA {md:PM} {AP:Nat->Option AW} {c:CT} {v:SV} {a:LP c.t.T} (h:OY md AP c v=some a) (E Em:Env) (n:Nat) (hm:∀ k,k<c.cnt->Em.nm (n+k)=D7 E a.nes k):
  v.den E=(S8 c a.x n).den Em:=by
 obtain⟨cs,u,nes,x,h1,rfl,h2,_⟩:=KR h
 obtain⟨c1,e1,l1,hn,hd⟩:=JL E _ _ _ _ _ _ h1
 rw[GG] at e1;subst e1
 unfold CT.cnt CT.pn at hm
 unfold S8
 rcases h2 with ⟨hp,i,rfl,_,e,_⟩|⟨hp,hag,e,_⟩
 ·rw[hp] at hm ⊢
  rw[e] at hm
  have h0:=hm 0 (by simp;omega)
  simp only[NJ,D7,OS,NE.nm] at h0
  simp only[SV.den,h0]
 ·rw[hp] at hm ⊢
  rw[e] at hm
  have hen:enc c.t a.x (D7 E nes)=AL Em (H_ c.t a.x n):=by
   rw[V2]
   exact HP _ _ fun k hk=>(hm k (by simpa using hk)).symm
  rcases hag with ⟨ha,rfl⟩|⟨ha,rfl⟩
  ·rw[ha];simp only[SV.den];rw[hd,hen]
  ·rw[ha]
   simp only
   rw[hen] at hd
   cases hu:H_ c.t a.x n with
   |nil=>rw[hu] at hd;simp [AL] at hd
   |cons y r=>rw[hu] at hd;simp only[AL,iZ] at hd;exact hd.1
theorem W4 {md:PM} {AP:Nat->Option AW} (E:Env):∀ (cs:List CT) (vs:List SV) (a:LP (HT cs)),JM md AP cs vs=some a->a.nes.length=cnts cs∧
  ∀ (Em:Env) (n:Nat),(∀ k,k<cnts cs->Em.nm (n+k)=D7 E a.nes k)->AL E vs=AL Em (outSVs cs a.x n):=by
 intro cs
 induction cs with
 |nil=>
  intro vs a h
  cases vs with
  |nil=>simp only[JM,AX] at h;subst h;exact⟨rfl,fun _ _ _=>rfl⟩
  |cons v r=>simp [JM] at h
 |cons c r ih=>
  intro vs a h
  obtain⟨v,vs',a1,a2,rfl,h1,h2,rfl⟩:=QD h
  obtain⟨l2,d2⟩:=ih _ _ h2
  have l1:=Q2 h1
  obtain⟨k1,k2⟩:=LO E a1.nes a2.nes
  refine⟨by simp [cnts,l1,l2],fun Em n hm=> ?_⟩
  simp only[AL,outSVs,HT.pD,HT.pE]
  rw[ADA h1 E Em n (fun k hk=>by rw[hm k (by simp [cnts];omega)];exact k1 k (by omega))]
  rw[d2 Em (n+c.cnt) (fun k hk=>by rw[N0,hm _ (by simp [cnts];omega)];rw[<-l1];exact k2 k)]
structure lE (md:PM) (AP:Nat->Option AW) (E:Env) (c:DW TB) (G:Nat->Prop) (w:World) (on:List Nat) (fz:C8) (ln:List Nat):Prop where
 shr:∀ i t ys,AP i=some (.shr t ys)->qR (Rp G w t) t.sz G w (E.nm i) ys
 fM:∀ i t ys e,AP i=some e->ZS e t ys->(md= .bF/\i∈ln)\/(i,.shr t ys)∈fz->qR (Rp G w t) t.sz G w (E.nm i) ys
 row:∀ i t ys,AP i=some (.row t ys)->i∈on->Own (Rp G w t) t.sz c G w (E.nm i) ys
 deep:∀ i t ys,AP i=some (.deep t ys none)->i∈on->jE c G w (E.nx i) (.deep t ys none)
 tree:∀ i t1 t2 ys,AP i=some (.tree t1 t2 ys)->i∈on->FC c G w (E.nm i) t1 t2 ys
 box:∀ i cs,AP i=some (.box cs)->i∈on->(E.nm i).nil=false/\(E.nm i).off=(E.nm i).pp.pre.length/\¬G (E.nm i).B_/\¬c.Old (E.nm i).B_/\(∃ ty,w.heap[(E.nm i).B_]? =some (.cells ((E.nm i).arr (AL E cs)) ty (0,0)))
theorem lE.sub {md:PM} {AP:Nat->Option AW} {E:Env} {c:DW TB} {G:Nat->Prop} {w:World} {on on' :List Nat} {fz fz' :C8} {ln ln' :List Nat} (h:lE md AP E c G w on fz ln)
  (h1:∀ i∈on',i∈on) (h2:∀ q∈fz',q∈fz) (h3:∀ i∈ln',i∈ln):lE md AP E c G w on' fz' ln' :=
 ⟨h.shr,fun i t ys e hl ho hx=>h.fM i t ys e hl ho (hx.imp (fun ⟨a,b⟩=>⟨a,h3 _ b⟩) (h2 _)),fun i t ys hl hx=>h.row i t ys hl (h1 _ hx),fun i t ys hl hx=>h.deep i t ys hl (h1 _ hx),fun i t1 t2 ys hl hx=>h.tree i t1 t2 ys hl (h1 _ hx),fun i cs hl hx=>h.box i cs hl (h1 _ hx)⟩
def W5 (AP:Nat->Option AW) (E:Env) (i:Nat):List Nat:=match AP i with
 |some e=>e.ALO E i
 |none=>[]
theorem YC (a b:List AW) (ms:Nat->Nm):G5 (a++b) ms=G5 a ms++G5 b (fun k=>ms (a.length+k)):=by
 induction a generalizing ms with
 |nil=>simp [G5]
 |cons e r ih=>
  simp only[sR,G5,ih,JH,NZ]
  congr 3
  funext k
  congr 1;omega
theorem Q3 (es:List AW) {f g:Nat->Nm} (h:∀ k,k<es.length->f k=g k):G5 es f=G5 es g:=by
 induction es generalizing f g with
 |nil=>rfl
 |cons e r ih=>
  simp only[G5]
  rw[h 0 (by simp),ih (fun k hk=>h (k+1) (by simp;omega))]
theorem eP (t:Ty) (x:t.T) (ms:Nat->Nm):G5 (B6 false t x) ms=[]:=by
 induction t generalizing ms with
 |pair a b VE VF=>simp [B6,YC,VE,VF]
 |slice a=>simp [B6,G5,AW.W1,AW.own]
 |_=>rfl
theorem AGK {AP:Nat->Option AW} {E:Env}:∀ (t:Ty) (cs:List SV) (x:t.T) (r:List SV) (nes:List NE) (u:C8),FQ .own AP t cs=some (x,r,nes,u)→
  G5 (B6 true t x) (D7 E nes)=(u.map (·.1)).flatMap (W5 AP E):=by
 intro t
 induction t with
 |pair a b VE VF=>
  intro cs x r nes u h
  simp only[FQ] at h
  repeat' split at h
  all_goals first|(cases h;done)|skip
  rename_i _ x1 r1 n1 u1 h1 _ x2 r2 n2 u2 h2
  simp only[AX,DB] at h
  obtain⟨rfl,rfl,rfl,rfl⟩:=h
  obtain⟨_,_,_,m1,_⟩:=JL E _ _ _ _ _ _ h1
  obtain⟨_,_,_,m2,_⟩:=JL E _ _ _ _ _ _ h2
  obtain⟨k1,k2⟩:=LO E n1 n2
  simp only[B6,YC,ZQ,List.flatMap_append]
  rw[<-VE _ _ _ _ _ h1,←VF _ _ _ _ _ h2]
  congr 1
  ·exact Q3 _ fun k hk=>k1 k (by rw[BE] at hk;omega)
  ·rw[BE,←m1];exact Q3 _ fun k hk=>k2 k
 |slice a ih=>
  intro cs x r nes u h
  simp only[FQ] at h
  repeat' split at h
  all_goals first|(cases h;done)|skip
  rename_i v r' _ xs ne u' hs
  simp only[AX,DB] at h
  obtain⟨rfl,rfl,rfl,rfl⟩:=h
  rcases nP hs with ⟨rfl,rfl,rfl,hk⟩|⟨i,hx,hl,rfl⟩
  ·cases a with
   |pair a b=>cases a <;> cases b <;> rfl
   |_=>first|rfl|cases hk
  ·simp only[B6,G5,D7,OS,GG,KU,pA,ACQ,List.flatMap_nil]
   have:W5 AP E i=(JK a xs).ALO E i:=by simp [W5,hl]
   rw[this]
   rcases hx with ⟨rfl,PO⟩|⟨rfl,b,rfl⟩|⟨rfl,b1,b2,rfl⟩
   ·rw[LN PO];rfl
   ·rfl
   ·rfl
 |_=>
  intro cs x r nes u h
  simp only[FQ] at h
  repeat' split at h
  all_goals first|(cases h;done)|skip
  all_goals (simp only[AX,DB] at h;obtain⟨_,rfl,rfl,rfl⟩:=h;rfl)
theorem AAL {md:PM} {AP:Nat->Option AW} {E:Env} {c:CT} {v:SV} {a:LP c.t.T} (h:OY md AP c v=some a):MW c a.x (D7 E a.nes)=a.on.flatMap (W5 AP E):=by
 obtain⟨cs,u,nes,x,h1,rfl,h2,_⟩:=KR h
 have OE:G5 (B6 c.own c.t a.x) (D7 E nes)=(if c.own=true then u.map (·.1) else []).flatMap (W5 AP E):=by
  cases ho:c.own with
  |true=>rw[ho] at h1;simp only[G4] at h1 ⊢;exact AGK _ _ _ _ _ _ h1
  |false=>rw[eP];rfl
 unfold MW CT.pn
 rcases h2 with ⟨hp,i,rfl,hl,e1,e2⟩|⟨hp,hag,e1,e2⟩
 ·rw[hp,e1,e2]
  have hb:W5 AP E i=[(E.nm i).B_]:=by simp [W5,hl,AW.ALO,AW.own]
  rw[ACQ,hb]
  congr 1
  rw[<-OE]
  apply Q3
  intro k _
  simp only[D7]
  rw[Nat.add_comm,vW]
 ·rw[hp,e1,e2,←OE]
  simp
theorem AGL {md:PM} {AP:Nat->Option AW} {E:Env}:∀ (cs:List CT) (vs:List SV) (a:LP (HT cs)),JM md AP cs vs=some a->CA cs a.x (D7 E a.nes)=a.on.flatMap (W5 AP E):=by
 intro cs
 induction cs with
 |nil=>
  intro vs a h
  cases vs with
  |nil=>simp only[JM,AX] at h;subst h;rfl
  |cons v r=>simp [JM] at h
 |cons c r ih=>
  intro vs a h
  obtain⟨v,vs',a1,a2,rfl,h1,h2,rfl⟩:=QD h
  have l1:=Q2 h1
  obtain⟨k1,k2⟩:=LO E a1.nes a2.nes
  simp only[CA,HT.pD,HT.pE,List.flatMap_append]
  rw[<-AAL h1,←ih _ _ h2]
  have AZY:∀ (d:CT) (x:d.t.T) (f g:Nat->Nm),(∀ k,k<d.cnt->f k=g k)->MW d x f=MW d x g:=by
   intro d x f g hfg
   unfold MW
   unfold CT.cnt at hfg
   congr 1
   ·cases hp:d.ptr with
    |true=>simp only;rw[hfg 0 (by simp [CT.pn,hp];omega)]
    |false=>rfl
   ·exact Q3 _ fun k hk=>hfg _ (by rw[BE] at hk;omega)
  have AZZ:∀ (ds:List CT) (x:HT ds) (f g:Nat->Nm),(∀ k,k<cnts ds->f k=g k)->CA ds x f=CA ds x g:=by
   intro ds
   induction ds with
   |nil=>intros;rfl
   |cons d s ihs=>
    intro x f g hfg
    simp only[CA]
    rw[AZY d _ f g (fun k hk=>hfg k (by simp [cnts];omega)),ihs _ _ (fun k=>g (d.cnt+k)) (fun k hk=>hfg _ (by simp [cnts];omega))]
  obtain⟨l2,_⟩:=W4 E _ _ _ h2
  congr 1
  ·exact AZY _ _ _ _ fun k hk=>k1 k (by omega)
  ·rw[<-l1];exact AZZ _ _ _ _ fun k hk=>k2 k
theorem GW.congr {c:DW TB} {G:Nat->Prop} {w:World} {d:CT} {x:d.t.T} {f g:Nat->Nm} (h:GW c G w d x f) (hfg:∀ k,k<d.cnt->f k=g k):GW c G w d x g:=by
 obtain⟨h1,h2⟩:=h
 unfold CT.cnt at hfg
 refine⟨fun j e he=> ?_,fun hp=> ?_⟩
 ·have hj:j<d.t.HE:=by
   rcases GS j (B6 d.own d.t x).length with h|h
   ·rwa [BE] at h
   ·rw[T3 h] at he;cases he
  rw[<-hfg _ (by omega)]
  exact h1 j e he
 ·have h0:=hfg 0 (by simp [CT.pn,hp];omega)
  rw[<-h0]
  obtain⟨a,b,c,d',ty,e⟩:=h2 hp
  refine⟨a,b,c,d',ty, ?_⟩
  rw[e]
  congr 3
  exact HP _ _ fun k hk=>hfg _ (by omega)
theorem PS.congr {c:DW TB} {G:Nat->Prop} {w:World}:∀ (cs:List CT) {x:HT cs} {f g:Nat->Nm},PS c G w cs x f->(∀ k,k<cnts cs->f k=g k)->PS c G w cs x g
 | [],_,_,_,_,_=>trivial
 |d::r,x,f,g,h,hfg=>⟨h.1.congr fun k hk=>hfg k (by simp [cnts];omega),PS.congr r h.2 fun k hk=>hfg _ (by simp [cnts];omega)⟩
theorem AGM {md:PM} (tD:md≠ .own) {AP:Nat->Option AW} {c:CT} {v:SV} {a:LP c.t.T} (h:OY md AP c v=some a) {E:Env} {L:AK} (hw:v.wf E L) (hwb:∀ i cs,AP i=some (.box cs)->K6 E L cs)
  {cf:DW TB} {G:Nat->Prop} {w:World} (hk:lE md AP E cf G w a.on a.fz a.ln):GW cf G w c a.x (D7 E a.nes):=by
 obtain⟨cs,u,nes,x,h1,rfl,h2,h3,h4⟩:=KR h
 have hwc:K6 E L cs:=by
  rcases h2 with ⟨_,i,_,hl,_⟩|⟨_,hag,_⟩
  ·exact hwb i cs hl
  ·rcases hag with ⟨_,rfl⟩|⟨_,rfl⟩
   ·exact hw
   ·exact⟨hw,trivial⟩
 obtain⟨c1,e1,_,hn,hd⟩:=JL E _ _ _ _ _ _ h1
 rw[GG] at e1;subst e1
 obtain⟨g1,g2⟩:=W0 _ _ _ _ _ _ h1
 have hon:∀ q∈u,c.own=true->q.1∈a.on:=by
  intro q hq ho
  rcases h2 with ⟨_,i,_,_,_,e⟩|⟨_,_,_,e⟩
  ·rw[e,AB ho];exact VJ _ (C6.2 ⟨q,hq,rfl⟩)
  ·rw[e,AB ho];exact C6.2 ⟨q,hq,rfl⟩
 have AVR:∀ j e,(B6 c.own c.t a.x)[j]? =some e->jE cf G w (D7 E nes j) e:=by
  intro j e he
  rcases g1 j c.own e he with rfl|⟨t,s,xs,ne,uk,hs,CO,hsc,IP,rfl⟩
  ·trivial
  have hnf:D7 E nes j=ne.nm E:=by simp [D7,CO]
  rw[hnf]
  cases ho:c.own with
  |true=>
   rw[ho] at hs
   simp only[G4] at hs
   rcases nP hs with ⟨rfl,rfl,rfl,hkv⟩|⟨i,hx,hl,rfl⟩
   ·exact jE.nil cf G w t hkv
   ·rcases hx with ⟨rfl,PO⟩|⟨rfl,PO⟩|⟨rfl,PO⟩
    ·simp only
     rw[LN PO] at hl ⊢
     exact hk.row i t xs hl (hon (i,.dead) (IP _ (by simp)) ho)
    ·obtain⟨b,rfl⟩:=PO
     exact hk.deep i b xs hl (hon (i,.dead) (IP _ (by simp)) ho)
    ·obtain⟨b1,b2,rfl⟩:=PO
     exact hk.tree i b1 b2 xs hl (hon (i,.dead) (IP _ (by simp)) ho)
  |false=>
   rw[ho] at hs
   simp only[VL,QZ] at hs h3 h4
   rw[ho] at h3 h4
   simp only[VL,QZ] at h3 h4
   refine nO hs tD (BW.1 hwc s hsc) hk.shr ?_
   intro i t' ys e' x6 hl hoe hx
   refine hk.fM i t' ys e' hl hoe ?_
   rcases hx with hx|hx
   ·left
    refine⟨hx, ?_⟩
    rw[h4]
    exact xL.2 ⟨ne,ZO CO,x6⟩
   ·right
    rw[h3]
    exact IP _ hx
 unfold GW CT.pn
 rcases h2 with ⟨hp,i,rfl,hl,e1,e2⟩|⟨hp,hag,e1,e2⟩
 ·rw[hp,e1]
  have h0:D7 E (.whole i::nes) 0=E.nm i:=rfl
  have hs:∀ j,D7 E (.whole i::nes) (1+j)=D7 E nes j:=fun j=>by simp only[D7];rw[Nat.add_comm,vW]
  refine⟨fun j e he=> ?_,fun _=> ?_⟩
  ·simp only[hs];exact AVR j e he
  ·obtain⟨b1,b2,b3,b4,ty,b5⟩:=hk.box i _ hl (by rw[e2];simp)
   rw[h0]
   refine⟨b1,b2,b3,b4,ty, ?_⟩
   rw[b5,hd]
   congr 3
   exact HP _ _ fun j _=>(hs j).symm
 ·rw[hp,e1]
  refine⟨fun j e he=> ?_,fun hx=>by cases hx⟩
  simp only[ML];exact AVR j e he
theorem AOQ {md:PM} (tD:md≠ .own) {AP:Nat->Option AW} {E:Env} {L:AK} (hwb:∀ i cs,AP i=some (.box cs)->K6 E L cs) {cf:DW TB} {G:Nat->Prop} {w:World}:
  ∀ (cs:List CT) (vs:List SV) (a:LP (HT cs)),JM md AP cs vs=some a->K6 E L vs->lE md AP E cf G w a.on a.fz a.ln->PS cf G w cs a.x (D7 E a.nes):=by
 intro cs
 induction cs with
 |nil=>intros;trivial
 |cons c r ih=>
  intro vs a h hw hk
  obtain⟨v,vs',a1,a2,rfl,h1,h2,rfl⟩:=QD h
  have l1:=Q2 h1
  obtain⟨l2,_⟩:=W4 E _ _ _ h2
  obtain⟨k1,k2⟩:=LO E a1.nes a2.nes
  refine⟨?_, ?_⟩
  ·simp only[HT.pD]
   refine (AGM tD h1 hw.1 hwb (hk.sub (by simp;intros;simp [*]) (by simp;intros;simp [*]) (by simp;intros;simp [*]))).congr fun k hk=>(k1 k (by omega)).symm
  ·simp only[HT.pE]
   refine (ih _ _ h2 hw.2 (hk.sub (by simp;intros;simp [*]) (by simp;intros;simp [*]) (by simp;intros;simp [*]))).congr _ fun k hk=> ?_
   rw[<-l1];exact (k2 k).symm
end Go.V3
namespace Go.V3
open Go
variable {TB:Tb}
theorem wB {md:PM} (tD:md≠ .own) {AP:Nat->Option AW} {c:CT} {v:SV} {a:LP c.t.T} (h:OY md AP c v=some a):
  (∀ q∈a.fz,∃ t ys e,AP q.1=some e/\ZS e t ys/\q.2= .shr t ys/\q.1∈a.ln)/\(∀ i∈a.on,∃ e,AP i=some e/\e.HR=false):=by
 obtain⟨cs,u,nes,x,h1,rfl,h2,h3,h4⟩:=KR h
 obtain⟨_,g2⟩:=W0 _ _ _ _ _ _ h1
 refine⟨fun q hq=> ?_,fun i hi=> ?_⟩
 ·rw[h3] at hq
  cases ho:c.own with
  |true=>rw[ho] at hq;cases hq
  |false=>
   rw[ho] at hq h4 g2
   simp only[VL,QZ] at hq h4 g2
   obtain⟨k,t,s,xs,ne,uk,hs,CO,hqk⟩:=g2 q hq
   rcases nN hs with rfl|⟨i,t',ys,e',hl,hoe,_,hn,rfl⟩|hx
   ·cases hqk
   ·rw[GO] at hqk;subst hqk
    refine⟨t',ys,e',hl,hoe,rfl, ?_⟩
    rw[h4]
    exact xL.2 ⟨ne,ZO CO,hn⟩
   ·exact absurd hx tD
 ·have hu:∀ q∈u,c.own=true->∃ e,AP q.1=some e/\e.HR=false:=by
   intro q hq ho
   rw[ho] at g2
   simp only[G4] at g2
   obtain⟨k,t,s,xs,ne,uk,hs,CO,hqk⟩:=g2 q hq
   rcases nP hs with ⟨_,_,rfl,_⟩|⟨i,_,hl,rfl⟩
   ·cases hqk
   ·rw[GO] at hqk;subst hqk;exact⟨_,hl,jC _ _⟩
  have OE:∀ i∈(if c.own=true then u.map (·.1) else []),∃ e,AP i=some e/\e.HR=false:=by
   intro i hi
   split at hi
   ·rename_i ho
    obtain⟨q,hq,rfl⟩:=C6.1 hi
    exact hu q hq ho
   ·cases hi
  rcases h2 with ⟨_,i',rfl,hl,_,e2⟩|⟨_,_,_,e2⟩
  ·rw[e2] at hi
   rcases GD.1 hi with rfl|hi
   ·exact⟨_,hl,rfl⟩
   ·exact OE i hi
  ·rw[e2] at hi
   exact OE i hi
theorem bH {md:PM} (tD:md≠ .own) {AP:Nat->Option AW}:∀ (cs:List CT) (vs:List SV) (a:LP (HT cs)),JM md AP cs vs=some a→
  (∀ q∈a.fz,∃ t ys e,AP q.1=some e/\ZS e t ys/\q.2= .shr t ys/\q.1∈a.ln)/\(∀ i∈a.on,∃ e,AP i=some e/\e.HR=false):=by
 intro cs
 induction cs with
 |nil=>
  intro vs a h
  cases vs with
  |nil=>simp only[JM,AX] at h;subst h;exact⟨fun q hq=>(by simp at hq),fun i hi=>(by simp at hi)⟩
  |cons v r=>simp [JM] at h
 |cons c r ih=>
  intro vs a h
  obtain⟨v,vs',a1,a2,rfl,h1,h2,rfl⟩:=QD h
  obtain⟨p1,p2⟩:=wB tD h1
  obtain⟨q1,q2⟩:=ih _ _ h2
  refine⟨fun q hq=> ?_,fun i hi=> ?_⟩
  ·rcases EY.1 hq with hq|hq
   ·obtain⟨t,ys,e,a,a',b,c⟩:=p1 q hq;exact⟨t,ys,e,a,a',b,EY.2 (.inl c)⟩
   ·obtain⟨t,ys,e,a,a',b,c⟩:=q1 q hq;exact⟨t,ys,e,a,a',b,EY.2 (.inr c)⟩
  ·rcases EY.1 hi with hi|hi
   ·exact p2 i hi
   ·exact q2 i hi
theorem AR.AVS {c:DW TB} {G:Nat->Prop} {w:World} {E:Env}:∀ (on:List Nat) {L:AK},AR c G w E L->(∀ i∈on,i<L.length)→
  AR c G w E (AI L (on.map fun i=>(i,.dead)))/\(∀ n,Al L n->Al (AI L (on.map fun i=>(i,.dead))) n)∧
   ∀ n,look (AI L (on.map fun i=>(i,.dead))) n=if n∈on then some .dead else look L n
 | [],L,h,_=>⟨h,fun _ h=>h,fun n=>by simp [AI]⟩
 |i::r,L,h,hl=>by
  obtain⟨h1,h2,h3⟩:=AR.AVS r (h.kill (hl i (by simp))) (fun k hk=>by rw[F5];exact hl k (by simp [hk]))
  refine⟨h1,fun n hn=>h2 n (BU rfl n hn),fun n=> ?_⟩
  show look (AI (DE L (i,.dead)) (r.map fun i=>(i,.dead))) n=_
  rw[h3,AZ (hl i (by simp))]
  by_cases hn:n=i
  ·subst hn;simp
  ·by_cases hr:n∈r <;> simp [hn,hr]
theorem AR.take {c:DW TB} {G:Nat->Prop} {w:World} {E:Env} {L:AK} (h:AR c G w E L) {md:PM} (tD:md≠ .own) {AP:Nat->Option AW} (B9:∀ n e,AP n=some e->look L n=some e)
  {cs:List CT} {vs:List SV} {a:LP (HT cs)} (hp:JM md AP cs vs=some a) (ho:okA a=true) (hw:K6 E L vs):
  ∃ G1 G2,AR c G1 w E (AI L a.DD)/\(∀ b,G b->G1 b)/\(∀ b,G1 b->G2 b)/\(md= .fM->G2=G1)∧
   (∀ b,G2 b->G1 b\/∃ n e,look (AI L a.DD) n=some e/\e.ow E n b)/\(∀ n,Al L n->Al (AI L a.DD) n)∧
   (∀ n,n∉a.on->n∉a.fz.map (·.1)->look (AI L a.DD) n=look L n)/\(∀ n∈a.on,look (AI L a.DD) n=some .dead)∧
   PS c G2 w cs a.x (D7 E a.nes)/\(CA cs a.x (D7 E a.nes)).Nodup/\∀ b∈CA cs a.x (D7 E a.nes),IU E (AI L a.DD) b:=by
 obtain⟨n1,n2⟩:=bH tD cs vs a hp
 simp only[okA,HQ,IW,JV,T4,AA7,aV] at ho
 obtain⟨H9,W6⟩:=ho
 obtain⟨G1,h1,hg1,ha1,hk1,hq1⟩:=h.AAJ a.fz (fun q hq=>by
  obtain⟨t,ys,e0,hl,ho0,e,_⟩:=n1 q hq
  exact⟨t,ys,.inl ⟨e0,B9 _ _ hl,ho0⟩,e⟩)
 have ADB:∀ i∈a.on,i∉a.fz.map (·.1):=by
  intro i hi hx
  obtain⟨q,hq,rfl⟩:=C6.1 hx
  obtain⟨_,_,_,_,_,_,hln⟩:=n1 q hq
  exact W6 _ hi hln
 have CP:∀ n,n∉a.fz.map (·.1)->look (AI L a.fz) n=look L n:=by
  intro n hn
  cases hl:look L n with
  |some e=>
   rcases hk1 n e hl with hx|⟨t,ys,_,_,hx⟩
   ·exact hx
   ·exact absurd (C6.2 ⟨_,hx,rfl⟩) hn
  |none=>
   have hge:L.length<=n:=by
    rcases GS n L.length with h' |h'
    ·unfold look at hl;rw[NH h'] at hl;cases hl
    ·exact h'
   unfold look
   rw[T3 (by rw[OC];exact hge)]
 have A00:∀ i∈a.on,i<(AI L a.fz).length:=by
  intro i hi
  rw[OC]
  obtain⟨e,hl,_⟩:=n2 i hi
  exact AO (B9 _ _ hl)
 obtain⟨h2,ha2,lF⟩:=h1.AVS a.on A00
 have A2V:AI L a.DD=AI (AI L a.fz) (a.on.map fun i=>(i,.dead)):=by rw[LP.DD,BM]
 rw[<-A2V] at h2 ha2 lF
 have bI:∀ n,n∉a.on->n∉a.fz.map (·.1)->look (AI L a.DD) n=look L n:=by
  intro n hn hf
  rw[lF,AD hn,CP n hf]
 let G2:Nat->Prop:=fun b=>G1 b\/(md= .bF/\∃ n e,look (AI L a.DD) n=some e/\e.ow E n b)
 have ADC:∀ b,G1 b->G2 b:=fun b hb=> .inl hb
 have ADD:∀ i∈a.on,∀ e,look L i=some e->∀ b,e.ow E i b->¬G2 b/\IU E (AI L a.DD) b:=by
  intro i hi e he b hb
  have tG:look (AI L a.fz) i=some e:=by rw[CP i (ADB i hi)];exact he
  have WX:IU E (AI L a.DD) b:=by
   intro n f hf QC
   rw[lF] at hf
   by_cases hn:n∈a.on
   ·rw[AB hn] at hf;simp only[AX] at hf;subst hf;rcases QC with QC|⟨QC,_⟩|⟨QC,_⟩ <;> cases QC
   ·rw[AD hn] at hf
    refine h1.inj n i f e b (fun hx=>hn (hx ▸ hi)) hf tG QC hb
  refine⟨?_,WX⟩
  rintro (hx|⟨_,n,f,hx,hxb⟩)
  ·exact (h1.PR tG hb).1 hx
  ·exact WX n _ hx hxb
 have pG:=fun t x vs=>Rp.mono (w:=w) (w' :=w) (fun b (_:G1 b)=>rfl) ADC t x vs
 have AOR:lE md AP E c G2 w a.on a.fz a.ln:=by
  refine⟨?_, ?_, ?_, ?_, ?_, ?_⟩
  ·intro i t ys hl
   rcases hk1 i _ (B9 _ _ hl) with hx|⟨_,_,hx,_⟩
   ·exact qR.mono (h1.LK i _ hx) (pG t) (fun _ _=>rfl) ADC
   ·cases hx
  ·rintro i t ys e0 hl hoe (⟨hx,hln⟩|hx)
   ·have A2W:i∉a.on:=fun hi=>W6 i hi hln
    rcases hk1 i _ (B9 _ _ hl) with x5|⟨t',ys',x5,hx2,_⟩
    ·have hx3:look (AI L a.DD) i=some e0:=by rw[lF,AD A2W];exact x5
     cases hoe with
     |row=>exact AT8 (h1.LK i _ x5) (pG t) (fun hn=> .inr ⟨hx,i,_,hx3,.inl (by simp [AW.own,hn])⟩)
     |deep b=>exact (h1.dp i _ _ _ x5).shr (pG b) (fun b hb=> .inr ⟨hx,i,_,hx3,AW.FX.2 hb⟩)
     |tree b1 b2=>exact (h1.LK i _ x5).shr pG (fun b hb=> .inr ⟨hx,i,_,hx3,AW.eN.2 hb⟩)
    ·have:(AW.shr t' ys')= .shr t ys:=by cases x5 <;> cases hoe <;> rfl
     rw[this] at hx2
     exact qR.mono (h1.LK i _ hx2) (pG t) (fun _ _=>rfl) ADC
   ·exact qR.mono (h1.LK i _ (hq1 _ hx)) (pG t) (fun _ _=>rfl) ADC
  ·intro i t ys hl hi
   have tG:look (AI L a.fz) i=some (.row t ys):=by rw[CP i (ADB i hi)];exact B9 _ _ hl
   obtain⟨p1,p2,p3⟩:=h1.LK i _ tG
   refine⟨p1,p2,p3.imp id ?_⟩
   rintro⟨p4,p5,p6,p7,arr,ty,p8,p9,p10⟩
   exact⟨p4,(ADD i hi _ (B9 _ _ hl) _ (.inl (by simp [AW.own,p4]))).1,p6,p7,arr,ty,p8,p9,p10.imp (pG t)⟩
  ·intro i t ys hl hi
   have tG:look (AI L a.fz) i=some (.deep t ys none):=by rw[CP i (ADB i hi)];exact B9 _ _ hl
   refine⟨rfl, ?_⟩
   refine ((h1.dp i t ys none tG).mono (fun _ h=>h) (fun _ _=>rfl) (fun _ _=>rfl) ADC (fun b hb=>⟨rfl, ?_⟩)).env ⟨rfl,rfl,rfl,rfl,rfl⟩
   exact (ADD i hi _ (B9 _ _ hl) _ (AW.FX.2 hb)).1
  ·intro i t1 t2 ys hl hi
   have tG:look (AI L a.fz) i=some (.tree t1 t2 ys):=by rw[CP i (ADB i hi)];exact B9 _ _ hl
   have hx:ZE c G2 w E L (E.nm i) (.tree t1 t2 ys):=(h1.LK i _ tG).mono (fun _ h=>by
     obtain⟨e,q1,q2⟩:=h
     rcases Classical.em (∃ e,look L _=some e/\e.HR=false) with hx|hx
     ·exact hx
     ·exact absurd (by
       cases x7 :look L _ with
       |none=>
        exfalso
        have hge:L.length<=_:=Nat.le_of_not_lt fun DM=>by
         unfold look at x7;rw[NH DM] at x7;cases x7
        unfold look at q1
        rw[T3 (by rw[OC];exact hge)] at q1
        cases q1
       |some e' =>
        rcases hk1 _ _ x7 with hz|⟨t,ys,hz,hz2,_⟩
        ·rw[hz] at q1;simp only[AX] at q1;subst q1;exact⟨_,rfl,q2⟩
        ·exact⟨_,rfl,hz.K5⟩) hx) (fun _ _=>rfl) (fun _ _=>rfl) ADC (fun b hb=>by cases hb) (fun _ b hb=>⟨rfl,(ADD i hi _ (B9 _ _ hl) _ (AW.eN.2 hb)).1⟩)
   exact hx
  ·intro i cs hl hi
   have tG:look (AI L a.fz) i=some (.box cs):=by rw[CP i (ADB i hi)];exact B9 _ _ hl
   obtain⟨p1,p2,p3,p4,p5,p6⟩:=h1.LK i _ tG
   exact⟨p1,p2,(ADD i hi _ (B9 _ _ hl) _ (.inl rfl)).1,p4,p5⟩
 have hwb:∀ i cs,AP i=some (.box cs)->K6 E L cs:=fun i cs hl=>(h.LK i _ (B9 _ _ hl)).2.2.2.2.2
 have AOS:=AGL (E:=E) cs vs a hp
 have ALP:∀ i∈a.on,∀ b∈W5 AP E i,∃ e,look L i=some e/\e.ow E i b:=by
  intro i _ b hb
  unfold W5 at hb
  split at hb
  ·rename_i e hl;exact⟨e,B9 _ _ hl,AW.AZX.2 hb⟩
  ·cases hb
 have A01:∀ i∈a.on,(W5 AP E i).Nodup:=by
  intro i _
  unfold W5
  split
  ·rename_i e hl
   cases e with
   |deep t x q=>exact (h.dp i t x q (B9 _ _ hl)).nd
   |tree t1 t2 xs=>exact (h.LK i _ (B9 _ _ hl)).nd
   |row t x=>show (((AW.row t x).own (E.nm i)).toList).Nodup;cases (AW.row t x).own (E.nm i) <;> simp
   |box t=>show (((AW.box t).own (E.nm i)).toList).Nodup;cases (AW.box t).own (E.nm i) <;> simp
   |_=>simp [AW.ALO,AW.own]
  ·exact fL
 refine⟨G1,G2,h2,hg1,ADC, ?_, ?_,fun n hn=>ha2 n (ha1 n hn),bI,fun n hn=>by rw[lF,AB hn],AOQ tD hwb cs vs a hp hw AOR, ?_, ?_⟩
 ·intro hf
  funext b
  simp only[eq_iff_iff]
  refine⟨?_,ADC b⟩
  rintro (hx|⟨hx,_⟩)
  ·exact hx
  ·rw[hf] at hx;cases hx
 ·rintro b (hx|⟨_,hx⟩)
  ·exact .inl hx
  ·exact .inr hx
 ·rw[AOS]
  clear AOS AOR h2 ha2 lF bI ADD W6
  have:∀ (on:List Nat),on.Nodup->(∀ i∈on,i∈a.on)->(on.flatMap (W5 AP E)).Nodup:=by
   intro on
   induction on with
   |nil=>intros;simp
   |cons i r ih=>
    intro H9 OE
    rw[UM] at H9
    have ih' :=ih H9.2 (fun k hk=>OE k (by simp [hk]))
    rw[ACQ]
    refine QA.2 ⟨A01 i (OE i (by simp)),ih', ?_⟩
    rintro b hb b' hm rfl
    obtain⟨k,hk,hkb⟩:=xN.1 hm
    obtain⟨e,he,heb⟩:=ALP i (OE i (by simp)) b hb
    obtain⟨f,hf,QC⟩:=ALP k (OE k (by simp [hk])) b hkb
    exact h.inj i k e f b (fun hx=>H9.1 (hx ▸ hk)) he hf heb QC
  exact this a.on H9 (fun _ h=>h)
 ·intro b hb
  rw[AOS] at hb
  obtain⟨i,hi,hib⟩:=xN.1 hb
  obtain⟨e,he,heb⟩:=ALP i hi b hib
  exact (ADD i hi e he b heb).2
end Go.V3
namespace Go.V3
open Go
variable {TB:Tb}
def CalleeRuns (P:Program) (f:FuncId):Prop:=∀ args w,(callFunc f args).run P w= .ok (.enter f args) w
def HT.left:(zas bs:List CT)->HT (zas++bs)->HT zas
 | [],_,_=>()
 | [_],bs,x=>HT.hd _ bs x
 |c::d::r,bs,x=>(x.1,HT.left (d::r) bs x.2)
def HT.right:(zas bs:List CT)->HT (zas++bs)->HT bs
 | [],_,x=>x
 |c::r,bs,x=>HT.right r bs (HT.tl c (r++bs) x)
inductive Sh where
 |one
 |xW (f:FuncId) (k:Nat)
 |pp (n:Nat)
def foldA:List Sh->List SV->List SV
 | [],vs=>vs
 | .one::r,v::vs=>v::foldA r vs
 | .one::_,[]=>[]
 | .xW f k::r,vs=> .xW f (vs.take k)::foldA r (vs.drop k)
 | .pp n::r,_::vs=> .loc n 0::foldA r vs
 | .pp _::_,[]=>[]
def eQ (ne:Option NE) (o:Nat):Bool:=match ne with
 |some (.whole i)=>i==o
 |_=>false
def ADE (AP:Nat->Option AW) (i:Nat):Option Nat:=match AP i with
 |some (.box [.loc j 0])=>some j
 |_=>none
def ALQ:SV->Option (FuncId×List SV)
 | .xW f cs=>some (f,cs)
 | .raw (.func (.func f) ⟨[]⟩ ⟨[]⟩)=>some (f,[])
 |_=>none
def VP (AP:Nat->Option AW):List Sh->List SV->Option (List SV)
 | [],vs=>some vs
 | .one::r,v::vs=>(match VP AP r vs with
  |some us=>some (v::us)
  |none=>none)
 | .one::_,[]=>none
 | .xW _ _::_,[]=>none
 | .xW f k::r,v::vs=>(match ALQ v with
  |some (f',cs)=>if f' =f/\cs.length=k then (match VP AP r vs with
   |some us=>some (cs++us)
   |none=>none) else none
  |none=>none)
 | .pp _::_,[]=>none
 | .pp _::r,v::vs=>(match v with
  | .loc i off=>if off=0 then (match ADE AP i,VP AP r vs with
   |some j,some us=>some (.loc j 0::us)
   |_,_=>none) else none
  |_=>none)
def jG:List Sh->List SV->List (Nat×Nat)
 | .one::r,_::vs=>jG r vs
 | .xW _ _::r,_::vs=>jG r vs
 | .pp n::r,.loc i _::vs=>(n,i)::jG r vs
 | .pp _::r,_::vs=>jG r vs
 |_,_=>[]
theorem ADF {v:SV} {f:FuncId} {cs:List SV} (h:ALQ v=some (f,cs)) (E:Env):v.den E= .func (.func f) #[] (AL E cs).toArray:=by
 unfold ALQ at h
 split at h
 ·simp only[AX,DB] at h
  obtain⟨rfl,rfl⟩:=h
  simp [SV.den]
 ·simp only[AX,DB] at h
  obtain⟨rfl,rfl⟩:=h
  rfl
 ·cases h
theorem AJA {v:SV} {f:FuncId} {cs:List SV} (h:ALQ v=some (f,cs)) {E:Env} {L:AK} (hv:v.wf E L):K6 E L cs:=by
 unfold ALQ at h
 split at h
 ·simp only[AX,DB] at h
  obtain⟨rfl,rfl⟩:=h
  simpa [SV.wf] using hv
 ·simp only[AX,DB] at h
  obtain⟨rfl,rfl⟩:=h
  trivial
 ·cases h
theorem eR {AP:Nat->Option AW} {E Em:Env}:∀ (sh:List Sh) (vs us us' :List SV),VP AP sh vs=some us->AL E us=AL Em us' ->(∀ q∈jG sh vs,Em.nm q.1=E.nm q.2)->AL Em (foldA sh us')=AL E vs
 | [],vs,us,us',h,hd,_=>by simp only[VP,AX] at h;subst h;exact hd.symm
 | .one::r,[],us,us',h,_,_=>by simp [VP] at h
 | .one::r,v::vs,us,us',h,hd,hp=>by
  simp only[VP] at h
  split at h
  ·rename_i us1 hu
   simp only[AX] at h;subst h
   cases us' with
   |nil=>simp [AL] at hd
   |cons u ur=>
    simp only[AL,iZ] at hd
    simp only[foldA,AL]
    rw[eR r vs us1 ur hu hd.2 hp,hd.1]
  ·cases h
 | .xW f k::r,[],us,us',h,_,_=>by simp [VP] at h
 | .xW f k::r,v::vs,us,us',h,hd,hp=>by
  simp only[VP] at h
  split at h
  ·rename_i f' cs hf
   split at h
   ·rename_i hc
    obtain⟨rfl,rfl⟩:=hc
    split at h
    ·rename_i us1 hu
     simp only[AX] at h;subst h
     have e1:AL Em (us'.take cs.length)=AL E cs:=by
      rw[FB,List.map_take,←FB,←hd,GH]
      have:(AL E cs).length=cs.length:=AS _
      rw[<-this,List.take_left]
     have e2:AL E us1=AL Em (us'.drop cs.length):=by
      rw[FB (E:=Em),List.map_drop,←FB,←hd,GH]
      have:(AL E cs).length=cs.length:=AS _
      rw[<-this,List.drop_left]
     simp only[foldA,AL,SV.den]
     rw[e1,eR r vs us1 _ hu e2 hp,ADF hf E]
    ·cases h
   ·cases h
  ·cases h
 | .pp n::r,[],us,us',h,_,_=>by simp [VP] at h
 | .pp n::r,v::vs,us,us',h,hd,hp=>by
  simp only[VP] at h
  split at h
  ·rename_i i off
   split at h
   ·rename_i h0
    subst h0
    split at h
    ·rename_i j us1 hj hu
     simp only[AX] at h;subst h
     cases us' with
     |nil=>simp [AL] at hd
     |cons u ur=>
      simp only[AL,iZ] at hd
      simp only[foldA,AL]
      rw[eR r vs us1 ur hu hd.2 (fun q hq=>hp q (by simp [jG,hq]))]
      have:=hp (n,i) (by simp [jG])
      simp only at this
      simp only[SV.den,this]
    ·cases h
   ·cases h
  ·cases h
theorem rK {AP:Nat->Option AW} {E:Env} {L:AK} (hb:∀ i j,ADE AP i=some j->Al L j):∀ (sh:List Sh) (vs us:List SV),VP AP sh vs=some us->K6 E L vs->K6 E L us
 | [],vs,us,h,hw=>by simp only[VP,AX] at h;subst h;exact hw
 | .one::r,[],us,h,_=>by simp [VP] at h
 | .one::r,v::vs,us,h,hw=>by
  simp only[VP] at h
  split at h
  ·rename_i us' hu
   simp only[AX] at h;subst h
   exact⟨hw.1,rK hb r vs us' hu hw.2⟩
  ·cases h
 | .xW f k::r,[],us,h,_=>by simp [VP] at h
 | .xW f k::r,v::vs,us,h,hw=>by
  simp only[VP] at h
  split at h
  ·rename_i f' cs hf
   split at h
   ·rename_i hc
    split at h
    ·rename_i us' hu
     simp only[AX] at h;subst h
     have h1:=BW.1 (AJA hf hw.1)
     have h2:=BW.1 (rK hb r vs us' hu hw.2)
     exact BW.2 fun v hv=>(EY.1 hv).elim (h1 v) (h2 v)
    ·cases h
   ·cases h
  ·cases h
 | .pp n::r,[],us,h,_=>by simp [VP] at h
 | .pp n::r,v::vs,us,h,hw=>by
  simp only[VP] at h
  split at h
  ·split at h
   ·split at h
    ·rename_i j us1 hj hu
     simp only[AX] at h;subst h
     exact⟨hb _ _ hj,rK hb r vs us1 hu hw.2⟩
    ·cases h
   ·cases h
  ·cases h
theorem lG {E:Env} {L:AK}:∀ (sh:List Sh) (vs:List SV),(∀ n,Sh.pp n∈sh->Al L n)->K6 E L vs->K6 E L (foldA sh vs)
 | [],_,_,h=>h
 | .one::_,[],_,_=>trivial
 | .one::r,v::vs,hp,h=>⟨h.1,lG r vs (fun n hn=>hp n (by simp [hn])) h.2⟩
 | .pp _::_,[],_,_=>trivial
 | .pp n::r,v::vs,hp,h=>⟨hp n (by simp),lG r vs (fun n hn=>hp n (by simp [hn])) h.2⟩
 | .xW f k::r,vs,hp,h=>by
  have hm:=BW.1 h
  exact⟨BW.2 fun v hv=>hm v (xH hv),lG r _ (fun n hn=>hp n (by simp [hn])) (BW.2 fun v hv=>hm v (xI hv))⟩
structure FnI where
 ps:List CT
 rs:List CT
 os:List CT
 bk:List Nat
 sh:List Sh:=[]
 pin:List (Nat×Nat×Nat×Nat):=[]
 cl:List (Nat×Ty):=[]
 nR:List (Nat×Nat):=[]
 F:HT ps->Option (HT (rs++os))
def S9:List SV->SV
 | [v]=>v
 |vs=> .tup vs
def LQ:List CT->Nat->List Nat
 | [],_=>[]
 |d::r,n=>n::LQ r (n+d.cnt)
def bJ:List CT->Nat->Nat->List (Nat×Nat)
 | [],_,_=>[]
 |d::r,a,b=>match d.ptr with
  |true=>(List.range d.t.HE).map (fun j=>(a+1+j,b+j))++bJ r (a+d.cnt) (b+d.t.HE)
  |false=>bJ r (a+d.cnt) b
theorem Q4:∀ (cs:List CT) (a b a' b' :Nat),bJ cs (a+a') (b+b')=(bJ cs a' b').map (fun q=>(a+q.1,b+q.2))
 | [],_,_,_,_=>rfl
 |d::r,a,b,a',b' =>by
  simp only[bJ]
  cases d.ptr with
  |true=>
   simp only[ZQ,UN]
   rw[show a+a' +d.cnt=a+(a' +d.cnt) by omega,show b+b' +d.t.HE=b+(b' +d.t.HE) by omega,Q4 r a b]
   congr 1
   apply VK
   intro j _
   simp only[Function.comp]
   congr 1 <;> omega
  |false=>
   simp only
   rw[show a+a' +d.cnt=a+(a' +d.cnt) by omega,Q4 r a b]
def Ty.x8:Ty->Bool
 | .slice a=> !a.qQ
 |_=>false
def okO (d:CT):Bool:=d.ptr||(d.own && !d.agg && d.t.x8)
def T9 (nes:List NE):List Nat->Option (List Nat)
 | []=>some []
 |q::r=>match nes[q]? with
  |some (.whole i)=>(match T9 nes r with
   |some l=>some (i::l)
   |none=>none)
  |_=>none
theorem lH {nes:List NE} (E:Env):∀ (bk is:List Nat),T9 nes bk=some is->bk.map (D7 E nes)=is.map E.nm
 | [],is,h=>by simp only[T9,AX] at h;subst h;rfl
 |q::r,is,h=>by
  simp only[T9] at h
  split at h
  ·rename_i i hi
   split at h
   ·rename_i l hl
    simp only[AX] at h
    subst h
    simp only[KU,lH E r l hl]
    congr 1
    simp [D7,hi,NE.nm]
   ·cases h
  ·cases h
def HS (ms:Nat->Nm):Env:={ nm:=ms,ds:=fun _=>undef,ins:=⟨fun k=>(ms k).ins.l⟩ }
def A02 (nR:List (Nat×Nat)) (l:List Nat) (w:World) (ms:Nat->Nm):Prop:=∀ q∈nR,(ms q.1).B_<w.heap.size/\(ms q.1).B_∉l∧
 ∃ arr ty fz,w.heap[(ms q.1).B_]? =some (.cells arr ty fz)/\arr[(ms q.1).off]? =some (.pointer (some ⟨(ms q.2).B_,(ms q.2).off,none⟩))
def CallsV (P:Program) (TB:Tb) (f:FuncId) (fi:FnI):Prop:=
 CalleeRuns P f/\∀ (x:HT fi.ps) (r:HT (fi.rs++fi.os)),fi.F x=some r->∀ (w:World) (G:Nat->Prop) (ms:Nat->Nm),(∀ b,G b->b<w.heap.size)→
  PS (⟨w,fun b=>b∈CA fi.ps x ms,G⟩:DW TB) G w fi.ps x ms->(CA fi.ps x ms).Nodup->(⟨w,fun b=>b∈CA fi.ps x ms,G⟩:DW TB).Tab->A02 fi.nR (CA fi.ps x ms) w ms→
  Calls P f (AL (HS ms) (foldA fi.sh (outSVs fi.ps x 0))).toArray w (fun e w' =>∃ G' ms',e= .returned ((S9 (outSVs fi.rs (HT.left fi.rs fi.os r) 0)).den (HS ms'))∧
   Rest w w' /\w.heap.size<=w'.heap.size/\(∀ b,b<w.heap.size->b∉CA fi.ps x ms->w'.heap[b]? =w.heap[b]?)∧
   (∀ b,G b->G' b)/\(∀ b,G' b->G b\/w.heap.size<=b\/b∈CA fi.ps x ms)/\(∀ b,G' b->b<w'.heap.size)∧
   PS (⟨w,fun b=>b∈CA fi.ps x ms,G⟩:DW TB) G' w' (fi.rs++fi.os) r ms' /\(CA (fi.rs++fi.os) r ms').Nodup∧
   (LQ fi.os (cnts fi.rs)).map ms' =fi.bk.map ms/\∀ q∈fi.pin,ms' q.1=ms q.2.2.1)
def VQ:List CT->Nat
 | []=>0
 |d::r=>(match d.ptr with
  |true=>d.t.HE
  |false=>0)+VQ r
def nameAt (i:Nat):List AW->C8
 |e::_=>[(i,e)]
 | []=>[]
def HH:(cs:List CT)->HT cs->Nat->List Nat->C8
 | [],_,_,_=>[]
 |_::_,_,_,[]=>[]
 |d::r,x,n,i::is=>match d.ptr with
  |true=>CX n (B6 d.own d.t (HT.hd d r x))++ [(i,.box (H_ d.t (HT.hd d r x) n))]++HH r (HT.tl d r x) (n+d.t.HE) is
  |false=>nameAt i (B6 d.own d.t (HT.hd d r x))++HH r (HT.tl d r x) n is
def Ty.flat:Ty->Bool
 | .pair a b=>a.flat && b.flat
 | .slice a=>a.HE==0 && !a.qQ
 |_=>true
def CT.good (d:CT):Bool:=d.t.HE==0||(d.own && d.t.flat)
def FnI.md (fi:FnI):PM:=match (fi.rs++fi.os).all CT.good with
 |true=> .bF
 |false=> .fM
def tH (own:Bool):(t:Ty)->t.T->Bool
 | .pair a b,x=>tH own a x.1 && tH own b x.2
 | .slice a,x=>(x:List a.T).isEmpty||(own && a.HE==0 && !a.qQ)
 |_,_=>true
def ZF:(cs:List CT)->HT cs->Bool
 | [],_=>true
 |d::r,x=>tH d.own d.t (HT.hd d r x) && ZF r (HT.tl d r x)
def IV (AP:Nat->Option AW) (base n:Nat):Bool:=(List.range n).all fun k=>match AP (base+k) with
 |some .K5=>true
 |_=>false
def ADG (k:Nat):C8->Option AW->Option AW
 | [],o=>o
 |(n,e)::r,o=>ADG k r (if n=k then some e else o)
def wC (k o:Nat):SV->SV
 | .MT j=>if j=k then .MT o else .MT j
 |v=>v
def rL (k o i:Nat) (u:C8):C8:=match ADG k u none,ADG o u none,ADG i u none with
 |some (.row t xs),some .dead,some (.box cs)=>u++ [(k,.dead),(o,.row t xs),(i,.box (cs.map (wC k o)))]
 |_,_,_=>u
def UR (base:Nat) (nes:List NE) (on:List Nat):List (Nat×Nat×Nat×Nat)->C8->C8
 | [],u=>u
 |(_,b,j,jb)::r,u=>match nes[j]?,nes[jb]? with
  |some (.whole o),some (.whole i)=>(match on.contains o && on.contains i with
   |true=>UR base nes on r (rL (base+b) o i u)
   |false=>UR base nes on r u)
  |_,_=>UR base nes on r u
def AJB (fi:FnI) (AP:Nat->Option AW) (vs:List SV) (nes:List NE) (on:List Nat):Bool:=
 (jG fi.sh vs).all (fun q=>decide (cnts fi.ps<=q.1) && !on.contains q.2) && decide ((jG fi.sh vs).map (·.1)).Nodup &&
 fi.nR.all fun p=>(jG fi.sh vs).any (fun q=>q.1==p.1 && match ADE AP q.2 with
  |some j=>eQ nes[p.2]? j
  |none=>false)
def AOT (fi:FnI):Bool:=fi.pin.all fun q=>(bJ fi.os (cnts fi.rs) (cnts fi.rs)).contains (q.1,q.2.1)
def pH (fi:FnI) (base:Nat) (AP:Nat->Option AW) (args:List SV) {α:Type} (K:SV->C8->Option α):Option α:=
 match VP AP fi.sh args with
 |none=>none
 |some us=>match JM fi.md AP fi.ps us with
 |none=>none
 |some a=>match T9 a.nes fi.bk with
  |none=>none
  |some is=>match okA a && IV AP base (cnts fi.rs+VQ fi.os) && (is.length==fi.os.length) && fi.os.all okO && (decide is.Nodup && is.all (fun i=>a.on.contains i)) && AOT fi && AJB fi AP args a.nes a.on with
   |true=>(fi.F a.x).bind fun r=>K (S9 (outSVs fi.rs (HT.left fi.rs fi.os r) base))
     (UR base a.nes a.on fi.pin (a.DD++(EC fi.rs (HT.left fi.rs fi.os r) base++HH fi.os (HT.right fi.rs fi.os r) (base+cnts fi.rs) is)))
   |false=>none
def x9 (fi:FnI) (base:Nat) (AP:Nat->Option AW) (args:List SV) {α:Type} (K:SV->C8->Option α):Option α:=
 match VP AP fi.sh args with
 |none=>none
 |some us=>match JM .bF AP fi.ps us with
 |none=>none
 |some a=>match T9 a.nes fi.bk with
  |none=>none
  |some is=>match okA a && IV AP base (cnts fi.rs+VQ fi.os) && (is.length==fi.os.length) && fi.os.all okO && (decide is.Nodup && is.all (fun i=>a.on.contains i)) && AOT fi && AJB fi AP args a.nes a.on with
   |true=>(fi.F a.x).bind fun r=>bif ZF (fi.rs++fi.os) r then K (S9 (outSVs fi.rs (HT.left fi.rs fi.os r) base))
     (UR base a.nes a.on fi.pin (a.DD++(EC fi.rs (HT.left fi.rs fi.os r) base++HH fi.os (HT.right fi.rs fi.os r) (base+cnts fi.rs) is)))
     else pH fi base AP args K
   |false=>none
theorem PS.split {c:DW TB} {G:Nat->Prop} {w:World}:∀ (zas bs:List CT) (x:HT (zas++bs)) (ms:Nat->Nm),(PS c G w (zas++bs) x ms↔PS c G w zas (HT.left zas bs x) ms/\PS c G w bs (HT.right zas bs x) (fun k=>ms (cnts zas+k)))∧
  CA (zas++bs) x ms=CA zas (HT.left zas bs x) ms++CA bs (HT.right zas bs x) (fun k=>ms (cnts zas+k))
 | [],bs,x,ms=>by simp [PS,CA,cnts,HT.right]
 |d::r,bs,x,ms=>by
  have hh:HT.hd d r (HT.left (d::r) bs x)=HT.hd d (r++bs) x:=by cases r <;> rfl
  have ht:HT.tl d r (HT.left (d::r) bs x)=HT.left r bs (HT.tl d (r++bs) x):=by cases r <;> rfl
  obtain⟨i1,i2⟩:=PS.split (c:=c) (G:=G) (w:=w) r bs (HT.tl d (r++bs) x) (fun k=>ms (d.cnt+k))
  have e:(fun k=>ms (cnts (d::r)+k))=(fun k=>ms (d.cnt+(cnts r+k))):=by
   funext k;simp [cnts,N0]
  have k1:PS c G w (d::r++bs) x ms↔GW c G w d (HT.hd d (r++bs) x) ms/\PS c G w (r++bs) (HT.tl d (r++bs) x) (fun k=>ms (d.cnt+k)):=kX
  have k2:PS c G w (d::r) (HT.left (d::r) bs x) ms↔GW c G w d (HT.hd d r (HT.left (d::r) bs x)) ms/\PS c G w r (HT.tl d r (HT.left (d::r) bs x)) (fun k=>ms (d.cnt+k)):=kX
  have k3:CA (d::r++bs) x ms=MW d (HT.hd d (r++bs) x) ms++CA (r++bs) (HT.tl d (r++bs) x) (fun k=>ms (d.cnt+k)):=rfl
  have k4:CA (d::r) (HT.left (d::r) bs x) ms=MW d (HT.hd d r (HT.left (d::r) bs x)) ms++CA r (HT.tl d r (HT.left (d::r) bs x)) (fun k=>ms (d.cnt+k)):=rfl
  have k5:HT.right (d::r) bs x=HT.right r bs (HT.tl d (r++bs) x):=rfl
  rw[hh,ht] at k2 k4
  refine⟨?_, ?_⟩
  ·rw[k1,k2,k5,e,i1,and_assoc]
  ·rw[k3,k4,k5,e,i2,JH]
theorem GW.cfg {c c' :DW TB} {G:Nat->Prop} {w:World} {d:CT} {x:d.t.T} {ms:Nat->Nm} (h:GW c G w d x ms) (hc:∀ b,¬c.Old b->¬c'.Old b):GW c' G w d x ms:=by
 refine⟨fun j e he=> ?_,fun hp=> ?_⟩
 ·have:=h.1 j e he
  cases e with
  |row t xs=>
   obtain⟨h1,h2,h3⟩:=this
   exact⟨h1,h2,h3.imp id fun ⟨a,b,c,d⟩=>⟨a,b,hc _ c,d⟩⟩
  |deep t xs q=>exact⟨this.1,this.2.cfg fun b hb=>hc _ (this.2.all b hb).2.1⟩
  |tree t1 t2 xs=>exact FC.cfg this fun b hb=>hc _ (this.all b hb).2.1
  |_=>exact this
 ·obtain⟨a,b,c,d,e⟩:=h.2 hp
  exact⟨a,b,c,hc _ d,e⟩
theorem PS.cfg {c c' :DW TB} {G:Nat->Prop} {w:World} (hc:∀ b,¬c.Old b->¬c'.Old b):∀ (cs:List CT) {x:HT cs} {ms:Nat->Nm},PS c G w cs x ms->PS c' G w cs x ms
 | [],_,_,_=>trivial
 |_::r,_,_,h=>⟨h.1.cfg hc,PS.cfg hc r h.2⟩
theorem Rp.flat {G G' :Nat->Prop} {w:World} (t:Ty) (ht:t.HE=0) (x:t.T) (vs:List Value) (h:Rp G w t x vs):Rp G' w t x vs:=by
 induction t generalizing vs with
 |pair a b VE VF=>
  simp only[Ty.HE] at ht
  obtain⟨v1,v2,h0,h1,h2⟩:=h
  exact⟨v1,v2,h0,VE (by omega) _ _ h1,VF (by omega) _ _ h2⟩
 |slice a=>simp [Ty.HE] at ht
 |_=>exact h
theorem ALR {t:Ty} (hf:t.flat=true) {x:t.T} {o:Bool} {j:Nat} {e:AW} (he:(B6 o t x)[j]? =some e):e= .dead\/∃ (a:Ty) (xs:List a.T),a.HE=0/\e=(if o=true then AW.row a xs else AW.shr a xs):=by
 induction t generalizing j with
 |pair a b VE VF=>
  simp only[Ty.flat,HQ] at hf
  simp only[B6] at he
  by_cases hk:j<(B6 o a x.1).length
  ·rw[VI hk] at he;exact VE hf.1 he
  ·rw[VH (by omega)] at he;exact VF hf.2 he
 |slice a=>
  cases j with
  |zero=>
   simp only[B6,OS,AX] at he
   simp only[Ty.flat,HQ,VZ,T4] at hf
   obtain⟨ha,PO⟩:=hf
   refine .inr ⟨a,x,ha, ?_⟩
   rw[<-he];cases o
   ·rfl
   ·exact LN PO x
  |succ j=>simp [B6] at he
 |nf=>
  cases j with
  |zero=>simp only[B6,OS,AX] at he;exact .inl he.symm
  |succ j=>simp [B6] at he
 |_=>simp [B6] at he
theorem GW.good {c:DW TB} {G G' :Nat->Prop} {w:World} {d:CT} {x:d.t.T} {ms:Nat->Nm} (h:GW c G w d x ms) (hd:d.good=true) (hg:∀ b,G' b->G b):GW c G' w d x ms:=by
 refine⟨fun j e he=> ?_,fun hp=> ?_⟩
 ·have hm:=h.1 j e he
  simp only[CT.good,o9,HQ,VZ] at hd
  rcases hd with hd|⟨ho,hf⟩
  ·exfalso
   have:(B6 d.own d.t x).length=0:=by rw[BE];exact hd
   rw[T3 (by omega)] at he;cases he
  ·rcases ALR hf he with rfl|⟨a,xs,ha,rfl⟩
   ·trivial
   rw[ho] at hm ⊢
   obtain⟨h1,h2,h3⟩:=hm
   refine⟨h1,h2,h3.imp id ?_⟩
   rintro⟨p1,p2,p3,p4,arr,ty,p5,p6,p7⟩
   exact⟨p1,fun hx=>p2 (hg _ hx),p3,p4,arr,ty,p5,p6,p7.imp fun x vs hx=>Rp.flat a ha x vs hx⟩
 ·obtain⟨a,b,c,d,e⟩:=h.2 hp
  exact⟨a,b,fun hx=>c (hg _ hx),d,e⟩
theorem PS.good {c:DW TB} {G G' :Nat->Prop} {w:World} (hg:∀ b,G' b->G b):∀ (cs:List CT) {x:HT cs} {ms:Nat->Nm},cs.all CT.good=true->PS c G w cs x ms->PS c G' w cs x ms
 | [],_,_,_,_=>trivial
 |d::r,_,_,hd,h=>by
  simp only[sS,HQ] at hd
  exact⟨h.1.good hd.1 hg,PS.good hg r hd.2 h.2⟩
theorem AGN {own:Bool}:∀ (t:Ty) (x:t.T) {j:Nat} {e:AW},tH own t x=true->(B6 own t x)[j]? =some e->e= .dead\/∃ (a:Ty) (xs:List a.T),(e=(match own with|true=>JK a xs|false=> .shr a xs))/\(xs=[]\/(own=true/\a.HE=0/\a.qQ=false)):=by
 intro t
 induction t with
 |pair a b VE VF=>
  intro x j e h he
  simp only[tH,HQ] at h
  simp only[B6] at he
  by_cases hk:j<(B6 own a x.1).length
  ·rw[VI hk] at he;exact VE _ h.1 he
  ·rw[VH (by omega)] at he;exact VF _ h.2 he
 |slice a=>
  intro x j e h he
  cases j with
  |zero=>
   simp only[B6,OS,AX] at he
   refine .inr ⟨a,x,he.symm, ?_⟩
   simp only[tH,o9,HQ,VZ,T4] at h
   rcases h with h|⟨⟨h1,h2⟩,h3⟩
   ·exact .inl (List.isEmpty_iff.1 h)
   ·exact .inr ⟨h1,h2,h3⟩
  |succ j=>simp [B6] at he
 |nf=>
  intro x j e h he
  cases j with
  |zero=>simp only[B6,OS,AX] at he;exact .inl he.symm
  |succ j=>simp [B6] at he
 |_=>intro x j e h he;simp [B6] at he
theorem GW.AJC {c:DW TB} {G G' :Nat->Prop} {w:World} {d:CT} {x:d.t.T} {ms:Nat->Nm} (h:GW c G w d x ms) (hd:tH d.own d.t x=true) (hg:∀ b,G' b->G b):GW c G' w d x ms:=by
 refine⟨fun j e he=> ?_,fun hp=> ?_⟩
 ·have hm:=h.1 j e he
  rcases AGN d.t x hd he with rfl|⟨a,xs,rfl,hx⟩
  ·trivial
  cases ho:d.own with
  |false=>
   rw[ho] at hm
   rcases hx with rfl|⟨hx,_⟩
   ·obtain⟨h1,h2,_⟩:=hm
    exact⟨h1,h2,.inl rfl⟩
   ·rw[ho] at hx;cases hx
  |true=>
   rw[ho] at hm
   simp only at hm ⊢
   rcases hx with rfl|⟨_,ha,PO⟩
   ·cases a with
    |slice b=>
     obtain⟨e0,hm⟩:=hm
     refine⟨e0,⟨hm.len,hm.off,hm.nd,fun b hb=>⟨fun hx=>(hm.all b hb).1 (hg _ hx),(hm.all b hb).2⟩, ?_⟩⟩
     rcases hm.cs with hc|⟨q1,q2,q3,arr,ty,hs,q4,q5,q6,q7,q8,q9⟩
     ·exact .inl hc
     ·exact .inr ⟨q1,q2,q3,arr,ty,hs,q4,q5,q6,fun k xs hk=>by simp at hk,q8,q9⟩
    |kv=>exact hm.elim
    |pair a1 a2=>
     have key:∀ (q:AW),q=JK (.pair a1 a2) []->jE c G w (ms (d.pn+j)) q->jE c G' w (ms (d.pn+j)) q:=by
      intro q hq hm
      have xZ:(∃ t1 t2,q= .tree t1 t2 [])\/q= .row (.pair a1 a2) []:=by
       rw[hq]
       cases a1 <;> cases a2 <;> first|exact .inr rfl|exact .inl ⟨_,_,rfl⟩
      rcases xZ with ⟨t1,t2,rfl⟩|rfl
      ·exact FC.nil hm hg
      ·obtain⟨h1,h2,h3⟩:=hm
       refine⟨h1,h2,h3.imp id ?_⟩
       rintro⟨p1,p2,p3,p4,arr,ty,p5,p6,p7⟩
       exact⟨p1,fun hx=>p2 (hg _ hx),p3,p4,arr,ty,p5,p6,fun i x hx=>by simp at hx⟩
     exact key _ rfl hm
    |_=>
     obtain⟨h1,h2,h3⟩:=hm
     refine⟨h1,h2,h3.imp id ?_⟩
     rintro⟨p1,p2,p3,p4,arr,ty,p5,p6,p7⟩
     exact⟨p1,fun hx=>p2 (hg _ hx),p3,p4,arr,ty,p5,p6,fun i x hx=>by simp at hx⟩
   ·rw[LN PO] at hm ⊢
    obtain⟨h1,h2,h3⟩:=hm
    refine⟨h1,h2,h3.imp id ?_⟩
    rintro⟨p1,p2,p3,p4,arr,ty,p5,p6,p7⟩
    exact⟨p1,fun hx=>p2 (hg _ hx),p3,p4,arr,ty,p5,p6,p7.imp fun x vs hx=>Rp.flat a ha x vs hx⟩
 ·obtain⟨a,b,c,d,e⟩:=h.2 hp
  exact⟨a,b,fun hx=>c (hg _ hx),d,e⟩
theorem PS.AJC {c:DW TB} {G G' :Nat->Prop} {w:World} (hg:∀ b,G' b->G b):∀ (cs:List CT) {x:HT cs} {ms:Nat->Nm},ZF cs x=true->PS c G w cs x ms->PS c G' w cs x ms
 | [],_,_,_,_=>trivial
 |d::r,_,_,hd,h=>by
  simp only[ZF,HQ] at hd
  exact⟨h.1.AJC hd.1 hg,PS.AJC hg r hd.2 h.2⟩
theorem pI:∀ (cs:List CT) {x:HT cs} {ms ms' :Nat->Nm},(∀ k,k<cnts cs->ms' k=ms k)->CA cs x ms' =CA cs x ms
 | [],_,_,_,_=>rfl
 |d::r,x,ms,ms',he=>by
  simp only[CA]
  rw[pI r (ms:=fun k=>ms (d.cnt+k)) (ms' :=fun k=>ms' (d.cnt+k)) (fun k hk=>he _ (by simp [cnts];omega))]
  congr 1
  unfold MW
  congr 1
  ·cases hp:d.ptr with
   |true=>simp only;rw[he 0 (by simp [cnts,CT.cnt,CT.pn,hp];omega)]
   |false=>rfl
  ·exact Q3 _ fun k hk=>he _ (by rw[BE] at hk;simp [cnts,CT.cnt];omega)
theorem AR.after {c:DW TB} {G G' :Nat->Prop} {w w' :World} {E:Env} {L:AK} (h:AR c G w E L) (hr:Rest w w') (hs:w.heap.size<=w'.heap.size) (hold:∀ b,c.Old b->w'.heap[b]? =w.heap[b]?)
  (hG:∀ b,G b->w'.heap[b]? =w.heap[b]?) (hg:∀ b,G b->G' b) (hgi:∀ b,G' b->b<w'.heap.size) (hgh:∀ b,G' b->G b\/¬c.Old b)
  (DC:∀ n e b,look L n=some e->e.ow E n b->w'.heap[b]? =w.heap[b]?∧¬G' b):AR c G' w' E L:=
 ⟨h.rest.trans hr,WZ h.size hs,fun b hb=>(hold b hb).trans (h.old b hb),hgi,fun b hb=>hg b (h.glo b hb),fun b hb=>(hgh b hb).elim (h.ghi b) .inr,
  fun n e he=>(h.LK n e he).mono (fun _ h=>h) (fun _ _=>rfl) hG hg (fun b hb=>DC n e b he (.inl hb)) (fun ht b hb=>DC n e b he (AW.OD ht hb)),
  fun n t xss q he=>(h.dp n t xss q he).mono (fun _ h=>h) (fun _ _=>rfl) hG hg (fun b hb=>DC n _ b he (AW.FX.2 hb)),h.inj,h.tab⟩
theorem AR.tI {c:DW TB} {G:Nat->Prop} {w:World}:∀ (cs:List CT) {E:Env} {L:AK} (x:HT cs) {n:Nat} {ms:Nat->Nm} (is:List Nat),AR c G w E L->cs.all okO=true->is.length=cs.length→
  is.Nodup->(∀ j,j<VQ cs->look L (n+j)=some .K5)->(∀ i∈is,look L i=some .dead)->(LQ cs 0).map ms=is.map E.nm→
  PS c G w cs x ms->(CA cs x ms).Nodup->(∀ b∈CA cs x ms,IU E L b)→
  ∃ E',AR c G w E' (AI L (HH cs x n is))/\(∀ k,Al L k->E'.nm k=E.nm k/\Al (AI L (HH cs x n is)) k)/\E'.ds=E.ds/\(∀ k,¬(n<=k/\k<n+VQ cs)->k∉is->look (AI L (HH cs x n is)) k=look L k)/\∀ q∈bJ cs 0 0,E'.nm (n+q.2)=ms q.1
 | [],E,L,x,n,ms,is,h,_,hl,_,_,_,_,_,_,_=>by
  exact⟨E,h,fun k hk=>⟨rfl,hk⟩,rfl,fun _ _ _=>rfl,fun q hq=>by cases hq⟩
 |d::r,E,L,x,n,ms,[],h,_,hl,_,_,_,_,_,_,_=>by simp at hl
 |d::r,E,L,x,n,ms,i::is,h,hp,hl,AX9,hrs,W7,ZT,hps,H9,WX=>by
  simp only[sS,HQ] at hp
  have shift:∀ (cs:List CT) (a b:Nat),(LQ cs (a+b))=(LQ cs b).map (fun k=>a+k):=by
   intro cs
   induction cs with
   |nil=>intros;rfl
   |cons e s ihs=>
    intro a b
    simp only[LQ]
    rw[N0,ihs]
    simp
  have AJD:=UM.1 AX9
  have hi0:=W7 i (by simp)
  cases hpt:d.ptr with
  |false=>
   obtain⟨t,ag,ow,pt⟩:=d
   simp only at hpt
   subst hpt
   have QQ:=hp.1
   simp only[okO,Bool.false_or,HQ,T4] at QQ
   obtain⟨⟨rfl,rfl⟩,PO⟩:=QQ
   cases t with
   |slice a=>
    obtain⟨⟨hc1, -⟩,AXA⟩:=hps
    have nS:(CT.mk (.slice a) false true false).cnt=1:=rfl
    have PO:a.qQ=false:=by simpa [Ty.x8] using PO
    have hen:B6 true (.slice a) (HT.hd (CT.mk (.slice a) false true false) r x)=[.row a (HT.hd (CT.mk (.slice a) false true false) r x)]:=by
     show [JK a _]=_
     rw[LN PO]
    have OQ:jE c G w (ms 0) (.row a (HT.hd (CT.mk (.slice a) false true false) r x)):=hc1 0 _ (by show (B6 true (.slice a) _)[0]? =_;rw[hen];rfl)
    have hoc:CA (CT.mk (.slice a) false true false::r) x ms=((AW.row a (HT.hd (CT.mk (.slice a) false true false) r x)).own (ms 0)).toList++CA r (HT.tl (CT.mk (.slice a) false true false) r x) (fun k=>ms (1+k)):=by
     show (([]++G5 (B6 true (.slice a) (HT.hd (CT.mk (.slice a) false true false) r x)) (fun j=>ms (0+j)))++_)=_
     rw[hen]
     show (([]++(((AW.row a (HT.hd (CT.mk (.slice a) false true false) r x)).own (ms 0)).toList++ []))++_)=_
     simp
     rfl
    rw[hoc] at H9 WX
    have W3:=QA.1 H9
    simp only[LQ,KU,iZ] at ZT
    obtain⟨ADH,AOU⟩:=ZT
    have DM:=AO hi0
    have B9:=fun k=>AZ (q:=(i,AW.row a (HT.hd (CT.mk (.slice a) false true false) r x))) DM k
    have hEi:E.set i (ms 0)=E:=by
     refine K8 (fun k=> ?_) rfl (fun _=>rfl)
     by_cases hk:k=i
     ·subst hk;rw[Env.EI,ADH]
     ·exact Env.HG _ _ hk
    have h3:=h.change (i:=i) (e' := .row a (HT.hd (CT.mk (.slice a) false true false) r x)) (m:=ms 0) (w' :=w) DM (.refl _) (EL _) (fun _=>ADH) rfl (fun _ _ _=>rfl)
     (fun b hb=>by have:=jE.tE (e:= .row a _) OQ (AW.AD9 hb);exact⟨this.1,this.2.1⟩)
     (by
      intro k f hk hf b hb he
      exact WX b (EY.2 (.inl (by rw[he];simp))) k f hf hb)
     (by intro _;exact OQ)
    rw[hEi] at h3
    have AXB:∀ b∈CA r (HT.tl (CT.mk (.slice a) false true false) r x) (fun k=>ms (1+k)),IU E (DE L (i,AW.row a (HT.hd (CT.mk (.slice a) false true false) r x))) b:=by
     intro b hb k f hf QC
     rw[B9] at hf
     by_cases iK:k=i
     ·subst iK
      simp only[G4,AX] at hf;subst hf
      rw[AW.eM rfl,←ADH] at QC
      exact W3.2.2 b (by rw[QC];simp) b hb rfl
     ·rw[AD iK] at hf
      exact WX b (EY.2 (.inr hb)) k f hf QC
    have AGO :(LQ r 0).map (fun k=>ms (1+k))=is.map E.nm:=by
     rw[<-AOU]
     have e:=shift r 1 0
     rw[NJ] at e
     rw[nS,ML,e,UN]
     rfl
    obtain⟨E',k1,k2,k3,k4,k5⟩:=AR.tI r (HT.tl (CT.mk (.slice a) false true false) r x) (n:=n) (ms:=fun k=>ms (1+k)) is h3 hp.2 (by simpa using hl) AJD.2
     (by
      intro j hj
      rw[B9]
      have hr:=hrs j (by simp [VQ];omega)
      have CO:¬(n+j=i):=by
       intro hx;rw[hx,hi0] at hr;cases hr
      rw[AD CO];exact hr)
     (by
      intro k hk
      have iK:¬k=i:=fun hx=>AJD.1 (hx ▸ hk)
      rw[B9,AD iK];exact W7 k (by simp [hk]))
     AGO AXA W3.2.1 AXB
    have eu:AI L (HH (CT.mk (.slice a) false true false::r) x n (i::is))=AI (DE L (i,AW.row a (HT.hd (CT.mk (.slice a) false true false) r x))) (HH r (HT.tl (CT.mk (.slice a) false true false) r x) n is):=by
     simp only[HH,BM]
     rw[show nameAt i (B6 (CT.mk (.slice a) false true false).own (CT.mk (.slice a) false true false).t (HT.hd (CT.mk (.slice a) false true false) r x))=[(i,AW.row a (HT.hd (CT.mk (.slice a) false true false) r x))] from by rw[hen];rfl]
     rfl
    rw[eu]
    refine⟨E',k1,fun k hk=>k2 k (BU rfl k hk),k3,fun k hk AGP=> ?_,fun q hq=> ?_⟩
    ·simp only[VQ] at hk
     simp only[GD,not_or] at AGP
     rw[k4 k (by omega) AGP.2,B9,AD AGP.1]
    ·have e:=Q4 r 1 0 0 0
     simp only[bJ,nS] at hq
     rw[NJ,NJ] at e
     rw[ML,e] at hq
     obtain⟨q',PT,rfl⟩:=C6.1 hq
     have:=k5 q' PT
     simp only[ML]
     exact this
   |_=>simp [Ty.x8] at PO
  |true=>
  have hpn:d.pn=1:=by simp [CT.pn,hpt]
  have nS:d.cnt=1+d.t.HE:=by simp [CT.cnt,hpn]
  obtain⟨⟨hc1,hc2⟩,AXA⟩:=hps
  obtain⟨b1,b2,b3,b4,ty,b5⟩:=hc2 hpt
  rw[hpn] at hc1 b5
  have W3:=QA.1 H9
  have hoc:MW d (HT.hd d r x) ms=(ms 0).B_::G5 (B6 d.own d.t (HT.hd d r x)) (fun j=>ms (1+j)):=by
   unfold MW;rw[hpn,hpt];rfl
  rw[hoc] at W3
  simp only[LQ,KU,iZ] at ZT
  obtain⟨ADH,AOU⟩:=ZT
  have AOV:=UM.1 W3.1
  have PO:∀ j,j<d.t.HE->look L (n+j)=some .K5:=fun j hj=>hrs j (by simp [VQ,hpt];omega)
  obtain⟨h1,h2⟩:=h.lC (B6 d.own d.t (HT.hd d r x)) (n:=n) (ms:=fun j=>ms (1+j)) (fun j hj=>PO j (by rw[BE] at hj;exact hj)) hc1 AOV.2
   (fun b hb=>WX b (EY.2 (.inl (by rw[hoc];exact VJ _ hb))))
  rw[BE] at h1 h2
  have A2X:¬(n<=i/\i<n+d.t.HE):=by
   intro hx
   have:=PO (i-n) (by omega)
   have e:n+(i-n)=i:=by omega
   rw[e,hi0] at this;cases this
  have hi1:look (AI L (CX n (B6 d.own d.t (HT.hd d r x)))) i=some .dead:=by rw[h2,AD A2X];exact hi0
  have DM:=AO hi1
  have B9:=fun k=>AZ (q:=(i,AW.box (H_ d.t (HT.hd d r x) n))) DM k
  have hEi:(E.put n d.t.HE (fun j=>ms (1+j))).nm i=ms 0:=by
   rw[Env.V4 _ _ _ _ (by omega),←ADH]
  have ALS:∀ k,Al L k->Al (AI L (CX n (B6 d.own d.t (HT.hd d r x)))) k:=by
   intro k hk
   by_cases hkn:n<=k/\k<n+d.t.HE
   ·exfalso
    have:=PO (k-n) (by omega)
    have e:n+(k-n)=k:=by omega
    rw[e] at this
    exact EJ this hk
   ·obtain⟨e,tG,he2⟩:=hk
    exact⟨e,by rw[h2,AD hkn];exact tG,he2⟩
  have pF:K6 (E.put n d.t.HE (fun j=>ms (1+j))) (DE (AI L (CX n (B6 d.own d.t (HT.hd d r x)))) (i,AW.box (H_ d.t (HT.hd d r x) n))) (H_ d.t (HT.hd d r x) n):=by
   refine tF _ _ _ fun j hj=>BU rfl _ ?_
   have DM:j<(B6 d.own d.t (HT.hd d r x)).length:=by rw[BE];exact hj
   refine⟨(B6 d.own d.t (HT.hd d r x))[j], ?_,W2 (NH DM)⟩
   rw[h2,AB ⟨by omega,by omega⟩]
   have e:n+j-n=j:=by omega
   rw[e,NH DM]
  have A03:(E.put n d.t.HE (fun j=>ms (1+j))).set i (ms 0)=E.put n d.t.HE (fun j=>ms (1+j)):=by
   refine K8 (fun k=> ?_) rfl (fun _=>rfl)
   by_cases hk:k=i
   ·subst hk;rw[Env.EI,hEi]
   ·exact Env.HG _ _ hk
  have h3:=h1.change (i:=i) (e' := .box (H_ d.t (HT.hd d r x) n)) (m:=ms 0) (w' :=w) DM (.refl _) (EL _) (fun _=>hEi.symm) rfl (fun _ _ _=>rfl)
   (fun b hb=>by simp only[AW.own,AX] at hb;subst hb;exact⟨b4,b3⟩)
   (by
    intro k f hk hf b hb he
    simp only[AW.own,AX] at he
    subst he
    rw[h2] at hf
    by_cases OW:n<=k/\k<n+d.t.HE
    ·rw[AB OW] at hf
     have e:k=n+(k-n):=by omega
     rw[e,AW.bG (by omega)] at hb
     exact AOV.1 (H8 _ _ (fun j=>ms (1+j)) hf hb)
    ·rw[AD OW] at hf
     rw[AW.nQ (by omega)] at hb
     exact WX _ (EY.2 (.inl (by rw[hoc];simp))) k f hf hb)
   (by
    intro _
    rw[A03]
    refine⟨b1,b2,b3,b4,⟨ty, ?_⟩,pF⟩
    rw[b5,V2]
    congr 3
    apply HP
    intro j hj
    exact (Env.jF E n d.t.HE (fun j=>ms (1+j)) hj).symm)
  rw[A03] at h3
  have AXB:∀ b∈CA r (HT.tl d r x) (fun k=>ms (d.cnt+k)),IU (E.put n d.t.HE (fun j=>ms (1+j))) (DE (AI L (CX n (B6 d.own d.t (HT.hd d r x)))) (i,AW.box (H_ d.t (HT.hd d r x) n))) b:=by
   intro b hb k f hf QC
   rw[B9] at hf
   by_cases iK:k=i
   ·subst iK
    simp only[G4,AX] at hf;subst hf
    rw[AW.eM rfl,hEi] at QC
    simp only[AW.own,AX] at QC
    exact W3.2.2 _ (by simp) b hb QC
   ·rw[AD iK,h2] at hf
    by_cases OW:n<=k/\k<n+d.t.HE
    ·rw[AB OW] at hf
     have e:k=n+(k-n):=by omega
     rw[e,AW.bG (by omega)] at QC
     exact W3.2.2 b (VJ _ (H8 _ _ (fun j=>ms (1+j)) hf QC)) b hb rfl
    ·rw[AD OW] at hf
     rw[AW.nQ (by omega)] at QC
     exact WX b (EY.2 (.inr hb)) k f hf QC
  have AGO :(LQ r 0).map (fun k=>ms (d.cnt+k))=is.map E.nm:=by
   rw[<-AOU]
   have e:=shift r d.cnt 0
   rw[NJ] at e
   rw[ML,e,UN]
   rfl
  obtain⟨E',k1,k2,k3,k4,k5⟩:=AR.tI r (HT.tl d r x) (n:=n+d.t.HE) (ms:=fun k=>ms (d.cnt+k)) is h3 hp.2 (by simpa using hl) AJD.2
   (by
    intro j hj
    rw[B9]
    have hr:=hrs (d.t.HE+j) (by simp [VQ,hpt];omega)
    rw[<-N0] at hr
    have CO:¬(n+d.t.HE+j=i):=by
     intro hx;rw[hx,hi0] at hr;cases hr
    rw[AD CO,h2,AD (by omega)]
    exact hr)
   (by
    intro k hk
    have iK:¬k=i:=fun hx=>AJD.1 (hx ▸ hk)
    have hd:=W7 k (by simp [hk])
    rw[B9,AD iK,h2,AD]
    ·exact hd
    ·intro hx
     have:=PO (k-n) (by omega)
     have e:n+(k-n)=k:=by omega
     rw[e,hd] at this;cases this)
   (by
    rw[AGO]
    apply VK
    intro k hk
    have hd:=W7 k (by simp [hk])
    refine (Env.V4 _ _ _ _ ?_).symm
    rcases GS k n with DM|hge
    ·exact .inl DM
    ·right
     rcases GS k (n+d.t.HE) with AGJ|AOP
     ·exfalso
      have:=PO (k-n) (by omega)
      have e:n+(k-n)=k:=by omega
      rw[e,hd] at this;cases this
     ·exact AOP) AXA W3.2.1 AXB
  have eu:AI L (HH (d::r) x n (i::is))=AI (DE (AI L (CX n (B6 d.own d.t (HT.hd d r x)))) (i,AW.box (H_ d.t (HT.hd d r x) n))) (HH r (HT.tl d r x) (n+d.t.HE) is):=by
   simp only[HH,hpt,BM]
   rfl
  rw[eu]
  refine⟨E',k1,fun k hk=> ?_,by rw[k3];rfl,fun k hk AGP=> ?_,fun q hq=> ?_⟩
  ·obtain⟨q1,q2⟩:=k2 k (BU rfl k (ALS k hk))
   refine⟨q1.trans (Env.V4 _ _ _ _ ?_),q2⟩
   rcases GS k n with DM|hge
   ·exact .inl DM
   ·right
    rcases GS k (n+d.t.HE) with AGJ|AOP
    ·exfalso
     have:=PO (k-n) (by omega)
     have e:n+(k-n)=k:=by omega
     rw[e] at this
     exact EJ this hk
    ·exact AOP
  ·simp only[VQ,hpt] at hk
   simp only[GD,not_or] at AGP
   rw[k4 k (by omega) AGP.2,B9,AD AGP.1,h2,AD (by omega)]
  ·simp only[bJ,hpt] at hq
   rcases EY.1 hq with hq|hq
   ·obtain⟨j,hj,rfl⟩:=C6.1 hq
    have hj:=i_.1 hj
    simp only[ML]
    have A04:j<(B6 d.own d.t (HT.hd d r x)).length:=by rw[BE];exact hj
    have MY:Al (AI L (CX n (B6 d.own d.t (HT.hd d r x)))) (n+j):=by
     refine⟨(B6 d.own d.t (HT.hd d r x))[j], ?_,W2 (NH A04)⟩
     rw[h2,AB ⟨by omega,by omega⟩]
     have e:n+j-n=j:=by omega
     rw[e,NH A04]
    rw[(k2 (n+j) (BU rfl _ MY)).1,Env.jF _ _ _ _ hj]
   ·have e:=Q4 r d.cnt d.t.HE 0 0
    rw[NJ,NJ] at e
    rw[ML,ML,e] at hq
    obtain⟨q',PT,rfl⟩:=C6.1 hq
    have:=k5 q' PT
    rw[N0] at this
    exact this
end Go.V3
namespace Go.V3
open Go
variable {TB:Tb}
def Hd (c:DW TB) (w:World) (E:Env) (L:AK):Prop:=∃ G,AR c G w E L
theorem x_ {b:Nat}:∀ (es:List AW) (ms:Nat->Nm),b∈G5 es ms->∃ (j:Nat) (e:AW),es[j]? =some e/\b∈e.W1 (ms j)
 | [],ms,h=>by simp [G5] at h
 |e::r,ms,h=>by
  simp only[G5] at h
  rcases EY.1 h with h|h
  ·exact⟨0,e,rfl,h⟩
  ·obtain⟨j,f,h1,h2⟩:=x_ r _ h
   exact⟨j+1,f,by simpa using h1,h2⟩
theorem GW.tE {c:DW TB} {G:Nat->Prop} {w:World} {d:CT} {x:d.t.T} {ms:Nat->Nm} (h:GW c G w d x ms) {b:Nat} (hb:b∈MW d x ms):¬c.Old b/\¬G b/\b<w.heap.size:=by
 unfold MW at hb
 rcases EY.1 hb with hb|hb
 ·cases hp:d.ptr with
  |true=>
   rw[hp] at hb
   simp only[GO] at hb
   subst hb
   obtain⟨h1,h2,h3,h4,ty,h5⟩:=h.2 hp
   refine⟨h4,h3, ?_⟩
   rcases GS (ms 0).B_ w.heap.size with h6|h6
   ·exact h6
   ·rw[AA5 h6] at h5;cases h5
  |false=>rw[hp] at hb;cases hb
 ·obtain⟨j,e,h1,h2⟩:=x_ _ _ hb
  exact (h.1 j e h1).tE h2
theorem PS.tE {c:DW TB} {G:Nat->Prop} {w:World} {b:Nat}:∀ (cs:List CT) {x:HT cs} {ms:Nat->Nm},PS c G w cs x ms->b∈CA cs x ms->¬c.Old b/\¬G b/\b<w.heap.size
 | [],_,_,_,hb=>by cases hb
 |d::r,_,_,h,hb=>by
  rcases EY.1 hb with hb|hb
  ·exact h.1.tE hb
  ·exact PS.tE r h.2 hb
theorem GW.io {c:DW TB} {G:Nat->Prop} {w:World} {d:CT} {x:d.t.T} {ms:Nat->Nm} (h:GW c G w d x ms) (c' :DW TB) (hc:∀ b∈MW d x ms,¬c'.Old b):GW c' G w d x ms:=by
 refine⟨fun j e he=> ?_,fun hp=> ?_⟩
 ·have hm:=h.1 j e he
  cases e with
  |row t xs=>
   obtain⟨h1,h2,h3⟩:=hm
   refine⟨h1,h2,h3.imp id fun ⟨a,b,_,d'⟩=>⟨a,b,hc _ ?_,d'⟩⟩
   refine EY.2 (.inr (H8 _ j _ he (AW.AD9 ?_)))
   simp [AW.own,a]
  |deep t xs q=>exact⟨hm.1,hm.2.cfg fun b hb=>hc b (EY.2 (.inr (H8 _ j _ he hb)))⟩
  |tree t1 t2 xs=>exact FC.cfg hm fun b hb=>hc b (EY.2 (.inr (H8 _ j _ he hb)))
  |_=>exact hm
 ·obtain⟨a,b,c1,d1,e⟩:=h.2 hp
  refine⟨a,b,c1,hc _ ?_,e⟩
  unfold MW
  rw[hp]
  simp
theorem PS.io {c:DW TB} {G:Nat->Prop} {w:World} (c' :DW TB):∀ (cs:List CT) {x:HT cs} {ms:Nat->Nm},PS c G w cs x ms->(∀ b∈CA cs x ms,¬c'.Old b)->PS c' G w cs x ms
 | [],_,_,_,_=>trivial
 |d::r,_,_,h,hc=>⟨h.1.io c' fun b hb=>hc b (EY.2 (.inl hb)),PS.io c' r h.2 fun b hb=>hc b (EY.2 (.inr hb))⟩
theorem ALT (d:CT) (x:d.t.T) {E E2:Env} {n m:Nat} (h:∀ k,k<d.cnt->E.nm (n+k)=E2.nm (m+k)):(S8 d x n).den E=(S8 d x m).den E2:=by
 unfold CT.cnt CT.pn at h
 unfold S8
 cases hp:d.ptr with
 |true=>
  rw[hp] at h
  have h0:=h 0 (by simp;omega)
  simp only[NJ] at h0
  simp only[SV.den,h0]
 |false=>
  rw[hp] at h
  simp only[ML] at h
  have hu:AL E (H_ d.t x n)=AL E2 (H_ d.t x m):=by
   rw[V2,V2]
   exact HP _ _ fun k hk=>h k hk
  cases d.agg with
  |true=>simp only[SV.den,hu]
  |false=>
   simp only
   cases h1:H_ d.t x n with
   |nil=>
    have:(H_ d.t x n).length=(H_ d.t x m).length:=by rw[ER,ER]
    rw[h1] at this
    cases h2:H_ d.t x m with
    |nil=>rfl
    |cons _ _=>rw[h2] at this;simp at this
   |cons v r=>
    cases h2:H_ d.t x m with
    |nil=>
     have:(H_ d.t x n).length=(H_ d.t x m).length:=by rw[ER,ER]
     rw[h1,h2] at this;simp at this
    |cons v' r' =>
     rw[h1,h2] at hu
     simp only[AL,iZ] at hu
     exact hu.1
theorem jH:∀ (cs:List CT) (x:HT cs) {E E2:Env} {n m:Nat},(∀ k,k<cnts cs->E.nm (n+k)=E2.nm (m+k))->AL E (outSVs cs x n)=AL E2 (outSVs cs x m)
 | [],_,_,_,_,_,_=>rfl
 |d::r,x,E,E2,n,m,h=>by
  simp only[outSVs,AL]
  rw[ALT d _ (fun k hk=>h k (by simp [cnts];omega)),jH r _ (n:=n+d.cnt) (m:=m+d.cnt) (fun k hk=>by rw[N0,N0];exact h _ (by simp [cnts];omega))]
theorem yA {l l2:List SV} {E E2:Env} (h:AL E l=AL E2 l2):(S9 l).den E=(S9 l2).den E2:=by
 match l,l2 with
 | [],[]=>rfl
 | [],_::_=>simp [AL] at h
 |_::_,[]=>simp [AL] at h
 | [v],[v2]=>simp only[AL,iZ] at h;exact h.1
 | [v],_::_::_=>simp [AL] at h
 |_::_::_,[v]=>simp [AL] at h
 |_::_::_,_::_::_=>simp only[S9,SV.den,h]
theorem AOW {l:List SV} {E:Env} {L:AK} (h:K6 E L l):(S9 l).wf E L:=by
 match l with
 | []=>exact h
 | [v]=>exact h.1
 |_::_::_=>exact h
theorem CZ {AP:Nat->Option AW} {base n:Nat} (h:IV AP base n=true):∀ j,j<n->AP (base+j)=some .K5:=by
 intro j hj
 simp only[IV,JV,i_] at h
 have:=h j hj
 split at this
 ·assumption
 ·cases this
theorem lI (j:Nat):∀ (u:C8) (L:AK) (o:Option AW) {e:AW},(∀ e,o=some e->look L j=some e)->j<L.length->ADG j u o=some e->look (AI L u) j=some e
 | [],L,o,e,ho,_,h=>ho e h
 |(n,f)::r,L,o,e,ho,hj,h=>by
  refine lI j r (DE L (n,f)) _ (fun e' h' => ?_) (by rw[F5];exact hj) h
  split at h'
  ·rename_i hn
   subst hn
   simp only[AX] at h'
   subst h'
   rw[AZ hj,AB rfl]
  ·rename_i hn
   have:=ho e' h'
   by_cases hq:n<L.length
   ·rw[AZ hq,AD (fun he=>hn he.symm)];exact this
   ·unfold DE
    rw[T3 (by simpa using hq)]
    exact this
theorem AOX {E:Env} {k o:Nat} (h:E.nm k=E.nm o) (v:SV):(wC k o v).den E=v.den E:=by
 cases v with
 |MT j=>
  simp only[wC]
  split
  ·rename_i hj;subst hj;simp only[SV.den,h]
  ·rfl
 |_=>rfl
theorem ATB {E:Env} {L:AK} {k o:Nat} (h:Al L o) {v:SV} (hv:v.wf E L):(wC k o v).wf E L:=by
 cases v with
 |MT j=>
  simp only[wC]
  split
  ·exact h
  ·exact hv
 |_=>exact hv
theorem bK (E:Env) (i:Nat):E.set i (E.nm i)=E:=by
 refine K8 (fun k=> ?_) rfl (fun _=>rfl)
 by_cases hk:k=i
 ·subst hk;rw[Env.EI]
 ·exact E.HG _ hk
theorem AR.W8 {c:DW TB} {G:Nat->Prop} {w:World} {E:Env} {L:AK} (h:AR c G w E L) {k o:Nat} {t:Ty} {xs:List t.T} (hk:look L k=some (.row t xs)) (ho:look L o=some .dead) (he:E.nm k=E.nm o):
  AR c G w E (DE (DE L (k,.dead)) (o,.row t xs)):=by
 have hkl:=AO hk
 have hol:=AO ho
 have CO:o≠k:=by intro hx;subst hx;rw[hk] at ho;cases ho
 have h1:=h.kill hkl
 have DC:∀ b,(AW.row t xs).own (E.nm o)=some b->(AW.row t xs).ow E k b:=fun b hb=> .inl (by rw[he];exact hb)
 have h2:=h1.change (i:=o) (e' := .row t xs) (m:=E.nm o) (w' :=w) (by rw[F5];exact hol) (.refl _) (EL _) (fun _=>rfl) rfl (fun _ _ _=>rfl)
  (fun b hb=>⟨(h.PR hk (DC b hb)).2.1,(h.PR hk (DC b hb)).1⟩)
  (fun n f hn hf b hb hx=>by
   rw[AZ hkl] at hf
   by_cases hnk:n=k
   ·rw[AB hnk] at hf
    simp only[AX] at hf
    subst hf
    rcases hb with hb|⟨hb,_⟩|⟨hb,_⟩ <;> cases hb
   ·rw[AD hnk] at hf
    exact h.inj n k f _ b hnk hf hk hb (DC b hx))
  (fun _=>by
   have:=h.LK k _ hk
   rw[he] at this
   exact this)
 rw[bK] at h2
 exact h2
theorem AR.A05 {c:DW TB} {G:Nat->Prop} {w:World} {E:Env} {L:AK} (h:AR c G w E L) {i:Nat} {cs jB :List SV} (hi:look L i=some (.box cs)) (hd:AL E jB =AL E cs) (hw:K6 E (DE L (i,.box jB)) jB):
  AR c G w E (DE L (i,.box jB)):=by
 obtain⟨h1,h2,h3,h4,⟨ty,h5⟩,h6⟩:=h.LK i _ hi
 have:=h.change (i:=i) (e' := .box jB) (m:=E.nm i) (w' :=w) (AO hi) (.refl _) (EL _) (fun _=>rfl) rfl (fun _ _ _=>rfl)
  (fun b hb=>by simp only[AW.own,AX] at hb;subst hb;exact⟨h4,h3⟩)
  (fun k f hk hf b hb he=>h.inj k i f (.box cs) b hk hf hi hb (.inl (by simpa [AW.own] using he)))
  (fun _=>by rw[bK];exact⟨h1,h2,h3,h4,⟨ty,by rw[hd];exact h5⟩,hw⟩)
 rw[bK] at this
 exact this
theorem yB {c:DW TB} {G:Nat->Prop} {w:World} {E:Env} {L:AK} (h:AR c G w E L) {k o i:Nat} {t:Ty} {xs:List t.T} {cs:List SV} (hk:look L k=some (.row t xs)) (ho:look L o=some .dead) (hi:look L i=some (.box cs)) (he:E.nm k=E.nm o):
  AR c G w E (AI L [(k,.dead),(o,.row t xs),(i,.box (cs.map (wC k o)))])/\∀ n,Al L n->Al (AI L [(k,.dead),(o,.row t xs),(i,.box (cs.map (wC k o)))]) n:=by
 have h1:=h.W8 hk ho he
 have eS:i≠k:=by intro hx;subst hx;rw[hk] at hi;cases hi
 have hio:i≠o:=by intro hx;subst hx;rw[ho] at hi;cases hi
 have hi1:look (DE (DE L (k,.dead)) (o,.row t xs)) i=some (.box cs):=by
  rw[AZ (by rw[F5];exact AO ho),AD hio,AZ (AO hk),AD eS];exact hi
 have nG:∀ n,Al (DE (DE L (k,.dead)) (o,.row t xs)) n->Al (DE (DE (DE L (k,.dead)) (o,.row t xs)) (i,.box (cs.map (wC k o)))) n:=fun n hn=>BU rfl n hn
 have AXC:∀ n,Al L n->Al (DE (DE L (k,.dead)) (o,.row t xs)) n:=fun n hn=>BU rfl n (BU rfl n hn)
 have jI:AL E (cs.map (wC k o))=AL E cs:=by
  rw[FB,FB,UN]
  apply VK
  intro v _
  exact AOX he v
 have pF:=(h.LK i _ hi).2.2.2.2.2
 refine⟨h1.A05 hi1 jI (BW.2 fun v hv=> ?_),fun n hn=>nG n (AXC n hn)⟩
 obtain⟨u,hu,rfl⟩:=C6.1 hv
 refine ATB (nG o (AXC o ⟨_,ho,rfl⟩)) ?_
 exact (X_ (fun n hn=>nG n (AXC n hn)) (fun _ _=>rfl) u (BW.1 pF u hu)).1
theorem AGQ {c:DW TB} {w:World} {E:Env} {L:AK} {u:C8} (h:Hd c w E (AI L u)) {k o i:Nat} (he:E.nm k=E.nm o) (hk:k<L.length) (ho:o<L.length) (hi:i<L.length):
  Hd c w E (AI L (rL k o i u))/\∀ n,Al (AI L u) n->Al (AI L (rL k o i u)) n:=by
 unfold rL
 split
 ·rename_i t xs cs h1 h2 h3
  obtain⟨G,hG⟩:=h
  obtain⟨r1,r2⟩:=yB hG (lI k u L none (fun _ hx=>by cases hx) hk h1) (lI o u L none (fun _ hx=>by cases hx) ho h2) (lI i u L none (fun _ hx=>by cases hx) hi h3) he
  rw[BM]
  exact⟨⟨G,r1⟩,r2⟩
 ·exact⟨h,fun _ hn=>hn⟩
theorem eT {c:DW TB} {w:World} {E:Env} {L:AK} {base:Nat} {nes:List NE} {on:List Nat} (hon:∀ i∈on,i<L.length):∀ (pins:List (Nat×Nat×Nat×Nat)) (u:C8),Hd c w E (AI L u)→
  (∀ q∈pins,base+q.2.1<L.length/\∀ o∈on,nes[q.2.2.1]? =some (.whole o)->E.nm (base+q.2.1)=E.nm o)→
  Hd c w E (AI L (UR base nes on pins u))/\∀ n,Al (AI L u) n->Al (AI L (UR base nes on pins u)) n
 | [],u,h,_=>⟨h,fun _ hn=>hn⟩
 |(a,b,j,jb)::r,u,h,hp=>by
  unfold UR
  obtain⟨p1,p2⟩:=hp _ (by simp:(a,b,j,jb)∈(a,b,j,jb)::r)
  split
  ·rename_i o i h1 h2
   split
   ·rename_i hc
    simp only[HQ,AIR] at hc
    obtain⟨q1,q2⟩:=AGQ h (p2 o hc.1 h1) p1 (hon o hc.1) (hon i hc.2)
    obtain⟨r1,r2⟩:=eT hon r _ q1 (fun q hq=>hp q (by simp [hq]))
    exact⟨r1,fun n hn=>r2 n (q2 n hn)⟩
   ·exact eT hon r _ h (fun q hq=>hp q (by simp [hq]))
  ·exact eT hon r _ h (fun q hq=>hp q (by simp [hq]))
set_option maxHeartbeats 1000000 in
theorem yC {P:Program} {fi:FnI} {base:Nat} {AP:Nat->Option AW} {args us:List SV} {md:PM} (tD:md≠ .own) (hus:VP AP fi.sh args=some us) {a:LP (HT fi.ps)} (hp:JM md AP fi.ps us=some a)
  {is:List Nat} (hbk:T9 a.nes fi.bk=some is)
  (hck:(okA a && IV AP base (cnts fi.rs+VQ fi.os) && (is.length==fi.os.length) && fi.os.all okO && (decide is.Nodup && is.all (fun i=>a.on.contains i)) && AOT fi && AJB fi AP args a.nes a.on)=true)
  {r:HT (fi.rs++fi.os)} (hr:fi.F a.x=some r) (A06:md= .fM\/ZF (fi.rs++fi.os) r=true\/(fi.rs++fi.os).all CT.good=true) {f:FuncId} (hc:CallsV P TB f fi)
  {L:AK} (B9:∀ n e,AP n=some e->look L n=some e) {c:DW TB} {w:World} {E:Env} (hh:Hd c w E L) (hw:K6 E L args):
  Calls P f (AL E args).toArray w (fun e w' =>∃ E',e= .returned ((S9 (outSVs fi.rs (HT.left fi.rs fi.os r) base)).den E')∧
   Hd c w' E' (AI L (UR base a.nes a.on fi.pin (a.DD++(EC fi.rs (HT.left fi.rs fi.os r) base++HH fi.os (HT.right fi.rs fi.os r) (base+cnts fi.rs) is))))∧
   (∀ n,Al L n->E'.nm n=E.nm n/\Al (AI L (UR base a.nes a.on fi.pin (a.DD++(EC fi.rs (HT.left fi.rs fi.os r) base++HH fi.os (HT.right fi.rs fi.os r) (base+cnts fi.rs) is)))) n)/\E'.ds=E.ds∧
   (S9 (outSVs fi.rs (HT.left fi.rs fi.os r) base)).wf E' (AI L (UR base a.nes a.on fi.pin (a.DD++(EC fi.rs (HT.left fi.rs fi.os r) base++HH fi.os (HT.right fi.rs fi.os r) (base+cnts fi.rs) is))))):=by
 obtain⟨G,hG⟩:=hh
 have ADI:∀ i j,ADE AP i=some j->look L i=some (.box [.loc j 0])/\Al L j:=by
  intro i j h
  unfold ADE at h
  split at h
  ·rename_i j' hl
   simp only[AX] at h;subst h
   exact⟨B9 _ _ hl,(hG.LK i _ (B9 _ _ hl)).2.2.2.2.2.1⟩
  ·cases h
 have hw:=rK (fun i j h=>(ADI i j h).2) _ _ _ hus hw
 simp only[HQ,VZ,IW,JV (p:=fun i=>a.on.contains i),AIR] at hck
 obtain⟨⟨⟨⟨⟨⟨QQ,DR⟩,hlen⟩,ATC⟩,AX9,A07⟩,AXD⟩,A08⟩:=hck
 obtain⟨G1,G2,t1,t2,t3,t4,t5,t6,t7,t8,t9,t10,t11⟩:=hG.take tD B9 hp QQ hw
 have yD:=fun j hj=>B9 _ _ (CZ DR j hj)
 obtain⟨n1,n2⟩:=bH tD _ _ _ hp
 have AXE:∀ k,look L k=some .K5->k∉a.on/\k∉a.fz.map (·.1):=by
  intro k hk
  refine⟨fun hx=> ?_,fun hx=> ?_⟩
  ·obtain⟨e,hl,he⟩:=n2 k hx
   have:=B9 _ _ hl;rw[hk] at this;cases this;cases he
  ·obtain⟨q,hq,rfl⟩:=C6.1 hx
   obtain⟨t,ys,e,hl,ho,_⟩:=n1 q hq
   have:=B9 _ _ hl;rw[hk] at this;cases this;cases ho
 have ADJ:∀ j,j<cnts fi.rs+VQ fi.os->look (AI L a.DD) (base+j)=some .K5:=by
  intro j hj
  obtain⟨q1,q2⟩:=AXE _ (yD j hj)
  rw[t7 _ q1 q2];exact yD j hj
 have A09:∀ b,G2 b->b<w.heap.size:=by
  intro b hb
  rcases t5 b hb with hx|⟨n,e,hx,hxb⟩
  ·exact t1.vR b hx
  ·exact t1.iJ hx hxb
 have ATD:=PS.io (⟨w,fun b=>b∈CA fi.ps a.x (D7 E a.nes),G2⟩:DW TB) _ t9 (fun b hb=>fun hx=>hx.2 hb)
 have AOY:(⟨w,fun b=>b∈CA fi.ps a.x (D7 E a.nes),G2⟩:DW TB).Tab:=fun q hq=>by
  obtain⟨o1,ty,fz,o2⟩:=t1.tab q hq
  refine⟨⟨qN o1.1 t1.size,fun hy=>(PS.tE _ t9 hy).1 o1⟩,ty,fz, ?_⟩
  show w.heap[q.1]? =_
  rw[t1.old q.1 o1];exact o2
 obtain⟨AJE,jI⟩:=W4 E _ _ _ hp
 simp only[AJB,HQ,IW] at A08
 obtain⟨⟨pp1,pp2⟩,pp3⟩:=A08
 let msX:Nat->Nm:=fun k=>match (jG fi.sh args).find? (fun q=>q.1==k) with
  |some q=>E.nm q.2
  |none=>D7 E a.nes k
 have ALU:∀ k,k<cnts fi.ps->msX k=D7 E a.nes k:=by
  intro k hk
  have:(jG fi.sh args).find? (fun q=>q.1==k)=none:=by
   rw[List.find?_eq_none]
   intro q hq he
   have:=JV.1 pp1 q hq
   simp only[HQ,IW] at this
   have wA :q.1=k:=by simpa using he
   omega
  show (match (jG fi.sh args).find? (fun q=>q.1==k) with|some q=>E.nm q.2|none=>D7 E a.nes k)=_
  rw[this]
 have A0A:∀ q∈jG fi.sh args,msX q.1=E.nm q.2:=by
  intro q hq
  have key:∀ (l:List (Nat×Nat)),(l.map (·.1)).Nodup->q∈l->l.find? (fun z=>z.1==q.1)=some q:=by
   intro l
   induction l with
   |nil=>intro _ h;cases h
   |cons z r ih=>
    intro hn hz
    simp only[KU,UM] at hn
    rcases GD.1 hz with rfl|hz
    ·simp
    ·have CO:(z.1==q.1)=false:=by
      rw[beq_eq_false_iff_ne]
      intro he
      exact hn.1 (he ▸ C6.2 ⟨q,hz,rfl⟩)
     rw[List.find?_cons,CO]
     exact ih hn.2 hz
  show (match (jG fi.sh args).find? (fun z=>z.1==q.1) with|some q=>E.nm q.2|none=>D7 E a.nes q.1)=_
  rw[key _ pp2 hq]
 have hX:CA fi.ps a.x msX=CA fi.ps a.x (D7 E a.nes):=pI _ ALU
 have hpp:A02 fi.nR (CA fi.ps a.x (D7 E a.nes)) w msX:=by
  intro p hp'
  obtain⟨q,hq,xZ⟩:=List.any_eq_true.1 (JV.1 pp3 p hp')
  simp only[HQ,VZ] at xZ
  obtain⟨hq1,xZ⟩:=xZ
  split at xZ
  rotate_left
  ·cases xZ
  rename_i j hj
  obtain⟨b1,b2⟩:=ADI _ _ hj
  obtain⟨e1,e2,e3,e4,⟨ty,e5⟩,_⟩:=hG.LK _ _ b1
  have hmp:=A0A q hq
  rw[hq1] at hmp
  have WX:q.2∉a.on:=by
   have:=JV.1 pp1 q hq
   simp only[HQ,IW,T4,AA7,aV] at this
   exact this.2
  have hnf:q.2∉a.fz.map (·.1):=by
   intro hx
   obtain⟨z,hz,he⟩:=C6.1 hx
   obtain⟨n1',_⟩:=bH tD _ _ _ hp
   obtain⟨t,ys,e,hl,ho,_⟩:=n1' z hz
   have:=B9 _ _ hl
   rw[he,b1] at this
   cases this;cases ho
  have AXF:look (AI L a.DD) q.2=some (.box [.loc j 0]):=by rw[t7 _ WX hnf];exact b1
  have WJ:(E.nm q.2).B_∉CA fi.ps a.x (D7 E a.nes):=fun hx=>t11 _ hx q.2 _ AXF (.inl rfl)
  unfold eQ at xZ
  split at xZ
  rotate_left
  ·cases xZ
  rename_i i' KV
  have kL:i' =j:=by simpa using xZ
  subst kL
  have DM:p.2<cnts fi.ps:=by
   rw[<-AJE]
   rcases GS p.2 a.nes.length with h|h
   ·exact h
   ·rw[T3 h] at KV;cases KV
  have hm2:msX p.2=E.nm i' :=by
   rw[ALU _ DM]
   simp only[D7,KV,NE.nm]
  refine⟨by rw[hmp];exact SW e5,by rw[hmp];exact WJ, ?_⟩
  refine⟨(E.nm q.2).arr (AL E [.loc i' 0]),ty,(0,0),by rw[hmp];exact e5, ?_⟩
  rw[hmp,hm2,e2]
  unfold Nm.arr
  rw[sE,JH,VH (EL _)]
  simp [AL,SV.den]
 have AJF:=hc.2 a.x r hr w G2 msX A09 (by rw[hX];exact PS.congr _ ATD fun k hk=>(ALU k hk).symm) (by rw[hX];exact t10) (by rw[hX];exact AOY) (by rw[hX];exact hpp)
 have A0B:AL (HS msX) (foldA fi.sh (outSVs fi.ps a.x 0))=AL E args:=by
  refine eR _ _ _ _ hus (jI (HS msX) 0 fun k hk=> ?_) fun q hq=> ?_
  ·rw[ML];exact ALU k hk
  ·exact A0A q hq
 rw[A0B,hX] at AJF
 refine AJF.mono ?_
 rintro e w' ⟨G',ms',rfl,bL,AVT,CP,hgg,hgn,hgi,ATE,ATA,ZT,A0C⟩
 have A2Y:∀ (bk is:List Nat),T9 a.nes bk=some is->bk.map msX=bk.map (D7 E a.nes):=by
  intro bk
  induction bk with
  |nil=>intro is _;rfl
  |cons q rr ihq=>
   intro is h
   simp only[T9] at h
   split at h
   ·rename_i i hi
    split at h
    ·rename_i l hl
     have hq:q<cnts fi.ps:=by
      rw[<-AJE]
      rcases GS q a.nes.length with h|h
      ·exact h
      ·rw[T3 h] at hi;cases hi
     simp only[KU]
     rw[ALU q hq,ihq _ hl]
    ·cases h
   ·cases h
 rw[A2Y _ _ hbk] at ZT
 let G'' :Nat->Prop:=fun b=>G1 b\/(G' b/\(w.heap.size<=b\/b∈CA fi.ps a.x (D7 E a.nes)))
 have hio:∀ b∈CA fi.ps a.x (D7 E a.nes),¬c.Old b/\¬G2 b/\b<w.heap.size:=fun b hb=>PS.tE _ t9 hb
 have AXG:∀ b,G1 b->w'.heap[b]? =w.heap[b]? :=fun b hb=>CP b (t1.vR b hb) (fun hx=>(hio b hx).2.1 (t3 b hb))
 have hold:∀ b,c.Old b->w'.heap[b]? =w.heap[b]? :=fun b hb=>CP b (qN hb.1 t1.size) (fun hx=>(hio b hx).1 hb)
 have AAM:AR c G'' w' E (AI L a.DD):=by
  refine t1.after bL AVT hold AXG (fun b hb=> .inl hb) ?_ ?_ ?_
  ·rintro b (hb|⟨hb,_⟩)
   ·exact qN (t1.vR b hb) AVT
   ·exact hgi b hb
  ·rintro b (hb|⟨hb,hx⟩)
   ·exact .inl hb
   ·right
    rintro⟨X5,rM⟩
    rcases hx with hx|hx
    ·have:=t1.size;omega
    ·exact (hio b hx).1 ⟨X5,rM⟩
  ·intro n e b he hb
   have DM:=t1.iJ he hb
   have AOV:b∉CA fi.ps a.x (D7 E a.nes):=fun hx=>t11 b hx n e he hb
   refine⟨CP b DM AOV, ?_⟩
   rintro (hx|⟨hx,hy⟩)
   ·exact (t1.PR he hb).1 hx
   ·rcases hy with hy|hy
    ·omega
    ·exact AOV hy
 have A2Z:∀ b,¬(DW.mk (TB:=TB) w (fun b=>b∈CA fi.ps a.x (D7 E a.nes)) G2).Old b->¬c.Old b:=by
  rintro b hb hx
  refine hb ⟨qN hx.1 t1.size,fun hy=>(hio b hy).1 hx⟩
 have A30:PS c G'' w' (fi.rs++fi.os) r ms' :=by
  refine PS.cfg A2Z _ ?_
  by_cases SZ:(fi.rs++fi.os).all CT.good=true
  ·refine PS.good ?_ _ SZ ATE
   rintro b (hb|⟨hb,_⟩)
   ·exact hgg b (t3 b hb)
   ·exact hb
  rcases A06 with A31|hgv|hx
  ·have e12:=t4 A31
   have:G'' =G' :=by
    funext b
    simp only[eq_iff_iff]
    refine⟨?_,fun hb=> ?_⟩
    ·rintro (hb|⟨hb,_⟩)
     ·exact hgg b (t3 b hb)
     ·exact hb
    ·rcases hgn b hb with hx|hx
     ·rw[e12] at hx;exact .inl hx
     ·exact .inr ⟨hb,hx⟩
   rw[this];exact ATE
  ·refine PS.AJC ?_ _ hgv ATE
   rintro b (hb|⟨hb,_⟩)
   ·exact hgg b (t3 b hb)
   ·exact hb
  ·exact absurd hx SZ
 have ALV:∀ b∈CA (fi.rs++fi.os) r ms',IU E (AI L a.DD) b:=by
  intro b hb n e he heb
  have h1:=(PS.tE _ ATE hb).1
  have DM:=t1.iJ he heb
  exact h1 ⟨DM,fun hx=>t11 b hx n e he heb⟩
 obtain⟨A32,A33⟩:=PS.split (c:=c) (G:=G'') (w:=w') fi.rs fi.os r ms'
 obtain⟨A0D,A34⟩:=A32.1 A30
 rw[A33] at ATA ALV
 have W3:=QA.1 ATA
 obtain⟨a1,a2,a3⟩:=AR.lD fi.rs (HT.left fi.rs fi.os r) (n:=base) (ms:=ms') AAM (fun j hj=>ADJ j (by omega)) A0D W3.1 (fun b hb=>ALV b (EY.2 (.inl hb)))
 have ALS:∀ k,Al (AI L a.DD) k->Al (AI (AI L a.DD) (EC fi.rs (HT.left fi.rs fi.os r) base)) k/\(E.put base (cnts fi.rs) ms').nm k=E.nm k:=by
  intro k hk
  by_cases hkb:base<=k/\k<base+cnts fi.rs
  ·exfalso
   have:=ADJ (k-base) (by omega)
   have e:base+(k-base)=k:=by omega
   rw[e] at this
   exact EJ this hk
  ·obtain⟨f,hf1,qS⟩:=hk
   exact⟨⟨f,by rw[(a2 k).2 hkb];exact hf1,qS⟩,Env.V4 _ _ _ _ (by omega)⟩
 have s2:=lH E _ _ hbk
 simp only[okA,HQ,IW] at QQ
 have W7:∀ i∈is,look (AI (AI L a.DD) (EC fi.rs (HT.left fi.rs fi.os r) base)) i=some .dead/\¬(base<=i/\i<base+cnts fi.rs):=by
  intro i hi
  have hd:=t8 i (A07 i hi)
  have hb:¬(base<=i/\i<base+cnts fi.rs):=by
   intro hx
   have:=ADJ (i-base) (by omega)
   have e:base+(i-base)=i:=by omega
   rw[e,hd] at this;cases this
  exact⟨by rw[(a2 i).2 hb];exact hd,hb⟩
 have shift:∀ (cs:List CT) (a b:Nat),(LQ cs (a+b))=(LQ cs b).map (fun k=>a+k):=by
  intro cs
  induction cs with
  |nil=>intros;rfl
  |cons e s ihs=>
   intro a b
   simp only[LQ]
   rw[N0,ihs]
   simp
 obtain⟨E',b1,b2,b3,b4,b5⟩:=AR.tI fi.os (HT.right fi.rs fi.os r) (n:=base+cnts fi.rs) (ms:=fun k=>ms' (cnts fi.rs+k)) is a1 ATC hlen
  AX9
  (by
   intro j hj
   rw[(a2 _).2 (by omega),N0]
   exact ADJ _ (by omega))
  (fun i hi=>(W7 i hi).1)
  (by
   have e1:(LQ fi.os 0).map (fun k=>ms' (cnts fi.rs+k))=is.map E.nm:=by
    rw[<-s2,←ZT]
    have:=shift fi.os (cnts fi.rs) 0
    rw[NJ] at this
    rw[this,UN];rfl
   rw[e1]
   apply VK
   intro i hi
   exact (Env.V4 _ _ _ _ (by have:=(W7 i hi).2;omega)).symm)
  A34 W3.2.1
  (by
   intro b hb k f hf QC
   by_cases hkb:base<=k/\k<base+cnts fi.rs
   ·
    have:b∈CA fi.rs (HT.left fi.rs fi.os r) ms' :=by
     have key:∀ (cs:List CT) (x:HT cs) {E:Env} {L:AK} {n:Nat} {ms:Nat->Nm},AR c G'' w' E L->(∀ j,j<cnts cs->look L (n+j)=some .K5)->PS c G'' w' cs x ms->(CA cs x ms).Nodup->(∀ b∈CA cs x ms,IU E L b)→
       ∀ k f b,n<=k/\k<n+cnts cs->look (AI L (EC cs x n)) k=some f->f.ow (E.put n (cnts cs) ms) k b->b∈CA cs x ms:=by
      intro cs
      induction cs with
      |nil=>intro x E L n ms _ _ _ _ _ k f b hk;simp [cnts] at hk;omega
      |cons d rr ihh=>
       intro x E L n ms hH hl hPS hND hNO k f b hk hf QC
       have ATF:=QA.1 hND
       obtain⟨c1,c2,c3,c4⟩:=hH.AJ9 d (HT.hd d rr x) (n:=n) (ms:=ms) (fun j hj=>hl j (by simp [cnts];omega)) hPS.1 ATF.1 (fun b hb=>hNO b (EY.2 (.inl hb)))
       have eu:AI L (EC (d::rr) x n)=AI (AI L (OX d (HT.hd d rr x) n)) (EC rr (HT.tl d rr x) (n+d.cnt)):=by
        simp only[EC,BM]
       rw[eu] at hf
       have lF:∀ j,j<cnts rr->look (AI L (OX d (HT.hd d rr x) n)) (n+d.cnt+j)=some .K5:=by
        intro j hj
        rw[(c2 _).2 (by omega),N0]
        exact hl _ (by simp [cnts];omega)
       have ATG:∀ b∈CA rr (HT.tl d rr x) (fun k=>ms (d.cnt+k)),IU (E.put n d.cnt ms) (AI L (OX d (HT.hd d rr x) n)) b:=by
        intro b hb k f hf QC
        by_cases hk:n<=k/\k<n+d.cnt
        ·exact ATF.2.2 b (c4 k f b hk hf QC) b hb rfl
        ·rw[(c2 k).2 hk] at hf
         rw[AW.nQ (by omega)] at QC
         exact hNO b (EY.2 (.inr hb)) k f hf QC
       obtain⟨d1,d2,d3⟩:=AR.lD rr (HT.tl d rr x) (n:=n+d.cnt) (ms:=fun k=>ms (d.cnt+k)) c1 lF hPS.2 ATF.2.1 ATG
       simp only[cnts] at hk QC
       rw[AW.AAK (m:=ms (k-n)) (by
        have e:k=n+(k-n):=by omega
        conv=>lhs;rw[e]
        rw[Env.jF _ _ _ _ (by omega)]) (by
        have e:k=n+(k-n):=by omega
        conv=>lhs;rw[e]
        rw[Env.AJ8 _ _ _ _ (by omega)])] at QC
       by_cases OW:n+d.cnt<=k
       ·refine EY.2 (.inr (ihh (HT.tl d rr x) c1 lF hPS.2 ATF.2.1 ATG k f b ⟨OW,by omega⟩ hf ?_))
        have e:k=n+d.cnt+(k-(n+d.cnt)):=by omega
        rw[e,AW.bG (by omega)]
        have e2:d.cnt+(k-(n+d.cnt))=k-n:=by omega
        rw[e2];exact QC
       ·rw[(d2 k).2 (by omega)] at hf
        refine EY.2 (.inl (c4 k f b ⟨hk.1,by omega⟩ hf ?_))
        have e:k=n+(k-n):=by omega
        rw[e,AW.bG (by omega)];exact QC
     exact key fi.rs _ AAM (fun j hj=>ADJ j (by omega)) A0D W3.1 (fun b hb=>ALV b (EY.2 (.inl hb))) k f b hkb hf QC
    exact W3.2.2 b this b hb rfl
   ·rw[(a2 k).2 hkb] at hf
    rw[AW.nQ (by omega)] at QC
    exact ALV b (EY.2 (.inr hb)) k f hf QC)
 have eu:AI L (a.DD++(EC fi.rs (HT.left fi.rs fi.os r) base++HH fi.os (HT.right fi.rs fi.os r) (base+cnts fi.rs) is))=
   AI (AI (AI L a.DD) (EC fi.rs (HT.left fi.rs fi.os r) base)) (HH fi.os (HT.right fi.rs fi.os r) (base+cnts fi.rs) is):=by
  rw[BM,BM]
 have AXH:∀ k,k<cnts fi.rs->E'.nm (base+k)=ms' k:=by
  intro k hk
  have MY:Al (AI (AI L a.DD) (EC fi.rs (HT.left fi.rs fi.os r) base)) (base+k):=(a2 _).1 ⟨by omega,by omega⟩
  rw[(b2 _ MY).1,Env.jF _ _ _ _ hk]
 have A35:∀ k,Al L k->E'.nm k=E.nm k:=fun k hk=>by
  obtain⟨q1,q2⟩:=ALS k (t6 k hk)
  exact ((b2 k q1).1).trans q2
 obtain⟨z1,z2⟩:=eT (c:=c) (w:=w') (E:=E') (L:=L) (base:=base) (nes:=a.nes) (on:=a.on) (fun i hi=>by obtain⟨e,he,_⟩:=n2 i hi;exact AO (B9 _ _ he)) fi.pin (a.DD++(EC fi.rs (HT.left fi.rs fi.os r) base++HH fi.os (HT.right fi.rs fi.os r) (base+cnts fi.rs) is))
  ⟨G'',by rw[eu];exact b1⟩ (by
   intro q hq
   have hpm:=JV.1 AXD q hq
   simp only[AIR] at hpm
   have rN:=Q4 fi.os (cnts fi.rs) (cnts fi.rs) 0 0
   rw[NJ] at rN
   rw[rN] at hpm
   obtain⟨q',PT,he⟩:=C6.1 hpm
   have hb5:=b5 q' PT
   simp only[DB] at he
   rw[N0,he.2] at hb5
   have WJ:∀ (cs:List CT) (x y:Nat) (q:Nat×Nat),q∈bJ cs x y->y<=q.2/\q.2<y+VQ cs:=by
    intro cs
    induction cs with
    |nil=>intro x y q h;cases h
    |cons d r ih=>
     intro x y q h
     simp only[bJ] at h
     cases hp:d.ptr with
     |true=>
      simp only[hp] at h
      simp only[VQ,hp]
      rcases EY.1 h with h|h
      ·obtain⟨j,hj,rfl⟩:=C6.1 h
       have:=i_.1 hj
       simp only;omega
      ·have:=ih _ _ _ h;omega
     |false=>
      simp only[hp] at h
      simp only[VQ,hp]
      have:=ih _ _ _ h;omega
   have hm:=WJ _ _ _ _ PT
   refine⟨AO (yD q.2.1 (by omega)),fun o hon ho=> ?_⟩
   obtain⟨e,tG,he2⟩:=n2 o hon
   have hql:q.2.2.1<cnts fi.ps:=by
    rw[<-AJE]
    rcases GS q.2.2.1 a.nes.length with h|h
    ·exact h
    ·rw[T3 h] at ho;cases ho
   rw[hb5,A35 o ⟨e,B9 _ _ tG,he2⟩,he.1,A0C q hq,ALU _ hql]
   simp [D7,ho,NE.nm])
 refine⟨E', ?_,z1,fun k hk=> ?_,b3, ?_⟩
 ·congr 1
  refine yA (jH _ _ fun k hk=> ?_)
  rw[AXH k hk]
  simp [HS]
 ·obtain⟨q1,q2⟩:=ALS k (t6 k hk)
  obtain⟨q3,q4⟩:=b2 k q1
  exact⟨q3.trans q2,z2 k (by rw[eu];exact q4)⟩
 ·refine AOW (K7 (fun k hk=>z2 k (by rw[eu];exact (b2 k hk).2)) (fun k hk=>(b2 k hk).1) _ a3).1
theorem tJ {P:Program} {fi:FnI} {base:Nat} {AP:Nat->Option AW} {args:List SV} {v:SV} {DD:C8} (h:pH fi base AP args (fun v u=>some (v,u))=some (v,DD)) {f:FuncId} (hc:CallsV P TB f fi)
  {L:AK} (B9:∀ n e,AP n=some e->look L n=some e) {c:DW TB} {w:World} {E:Env} (hh:Hd c w E L) (hw:K6 E L args):
  Calls P f (AL E args).toArray w (fun e w' =>∃ E',e= .returned (v.den E')/\Hd c w' E' (AI L DD)/\(∀ n,Al L n->E'.nm n=E.nm n/\Al (AI L DD) n)/\E'.ds=E.ds/\v.wf E' (AI L DD)):=by
 unfold pH at h
 split at h
 ·cases h
 rename_i us hus
 split at h
 ·cases h
 rename_i a hp
 split at h
 ·cases h
 rename_i is hbk
 split at h
 rotate_left
 ·cases h
 rename_i hck
 rw[ACH] at h
 obtain⟨r,hr,h⟩:=h
 simp only[AX,DB] at h
 obtain⟨rfl,rfl⟩:=h
 have tD:fi.md≠ .own:=by unfold FnI.md;split <;> simp
 refine yC tD hus hp hbk hck hr ?_ hc B9 hh hw
 cases SZ:(fi.rs++fi.os).all CT.good with
 |true=>exact .inr (.inr rfl)
 |false=>left;unfold FnI.md;rw[SZ]
theorem AOZ {P:Program} {fi:FnI} {base:Nat} {AP:Nat->Option AW} {args:List SV} {v:SV} {DD:C8} (h:x9 fi base AP args (fun v u=>some (v,u))=some (v,DD)) {f:FuncId} (hc:CallsV P TB f fi)
  {L:AK} (B9:∀ n e,AP n=some e->look L n=some e) {c:DW TB} {w:World} {E:Env} (hh:Hd c w E L) (hw:K6 E L args):
  Calls P f (AL E args).toArray w (fun e w' =>∃ E',e= .returned (v.den E')/\Hd c w' E' (AI L DD)/\(∀ n,Al L n->E'.nm n=E.nm n/\Al (AI L DD) n)/\E'.ds=E.ds/\v.wf E' (AI L DD)):=by
 unfold x9 at h
 split at h
 ·cases h
 rename_i us hus
 split at h
 ·cases h
 rename_i a hp
 split at h
 ·cases h
 rename_i is hbk
 split at h
 rotate_left
 ·cases h
 rename_i hck
 rw[ACH] at h
 obtain⟨r,hr,h⟩:=h
 cases hg:ZF (fi.rs++fi.os) r with
 |true=>
  rw[hg] at h
  simp only[cond_true,AX,DB] at h
  obtain⟨rfl,rfl⟩:=h
  exact yC (by simp) hus hp hbk hck hr (.inr (.inl hg)) hc B9 hh hw
 |false=>
  rw[hg] at h
  exact tJ h hc B9 hh hw
def NM (AP:Nat->Option AW):List CT->List SV->Nat->Option (Nat×Nat×Nat×Nat×List SV)
 |c::r,v::vs,p=>(match c.ptr,v with
  |true,.loc i off=>(match AP i with
   |some (.box cs)=>if c.t.sz<cs.length then some (p,i,off,c.t.sz,cs) else NM AP r vs (p+1)
   |_=>NM AP r vs (p+1))
  |_,_=>NM AP r vs (p+1))
 |_,_,_=>none
theorem pJ {AP:Nat->Option AW}:∀ (ps:List CT) (vs:List SV) (k:Nat) {p i off n:Nat} {cs:List SV},NM AP ps vs k=some (p,i,off,n,cs)→
  k<=p/\vs[p-k]? =some (.loc i off)/\AP i=some (.box cs)
 | [],_,_,_,_,_,_,_,h=>by simp [NM] at h
 |_::_,[],_,_,_,_,_,_,h=>by simp [NM] at h
 |c::r,v::vs,k,p,i,off,n,cs,h=>by
  have step:NM AP r vs (k+1)=some (p,i,off,n,cs)->k<=p/\(v::vs)[p-k]? =some (.loc i off)/\AP i=some (.box cs):=by
   intro h'
   obtain⟨h1,h2,h3⟩:=pJ r vs (k+1) h'
   refine⟨by omega, ?_,h3⟩
   rw[show p-k=(p-(k+1))+1 from by omega,vW]
   exact h2
  unfold NM at h
  split at h
  ·split at h
   ·rename_i jB hl
    split at h
    ·simp only[AX,DB] at h
     obtain⟨rfl,rfl,rfl, -,rfl⟩:=h
     exact⟨EL _,by simp,hl⟩
    ·exact step h
   ·exact step h
  ·exact step h
def AAN (j:Nat):C8->Option (List SV)->Option (List SV)
 | [],o=>o
 |(n,e)::r,o=>AAN j r (if n=j then (match e with
  | .box cs=>some cs
  |_=>none) else o)
theorem tK (j:Nat):∀ (u:C8) (L:AK) (o:Option (List SV)) {cs:List SV},(∀ cs,o=some cs->look L j=some (.box cs))->j<L.length->AAN j u o=some cs->look (AI L u) j=some (.box cs)
 | [],L,o,cs,ho,_,h=>ho cs h
 |(n,e)::r,L,o,cs,ho,hj,h=>by
  refine tK j r (DE L (n,e)) _ (fun jB h' => ?_) (by rw[F5];exact hj) h
  split at h'
  ·rename_i hn
   subst hn
   split at h'
   ·simp only[AX] at h'
    subst h'
    rw[AZ hj,AB rfl]
   ·cases h'
  ·rename_i hn
   have:=ho jB h'
   by_cases hq:n<L.length
   ·rw[AZ hq,AD (fun he=>hn he.symm)];exact this
   ·unfold DE
    rw[T3 (by simpa using hq)]
    exact this
def yE (fi:FnI) (base:Nat) (AP:Nat->Option AW) (args:List SV) {α:Type} (K:SV->C8->Option α):Option α:=
 match (match fi.sh with
  | []=>NM AP fi.ps args 0
  |_=>none) with
 |none=>pH fi base AP args K
 |some (p,i,off,n,cs)=>
  if off+n<=cs.length/\IV AP (base+(cnts fi.rs+VQ fi.os)) 1=true then
   pH fi base (fun k=>if k=i then none else if k=base+(cnts fi.rs+VQ fi.os) then some (.box ((cs.drop off).take n)) else AP k) (args.set p (.loc (base+(cnts fi.rs+VQ fi.os)) 0)) fun v u=>
    match AAN (base+(cnts fi.rs+VQ fi.os)) u none with
    |some jB =>if jB.length=n then K v ([(i,.dead),(base+(cnts fi.rs+VQ fi.os),.box ((cs.drop off).take n))]++(u++ [(base+(cnts fi.rs+VQ fi.os),.dead),(i,.box (DT cs off jB))])) else none
    |none=>none
  else none
def AJG (d:Bool) (fi:FnI) (base:Nat) (AP:Nat->Option AW) (args:List SV) {α:Type} (K:SV->C8->Option α):Option α:=match d with
 |true=>x9 fi base AP args K
 |false=>yE fi base AP args K
end Go.V3
namespace Go.V3
open Go
variable {TB:Tb}
def rO (arr:Array Value) (off:Nat):List Value->Array Value
 | []=>arr
 |v::r=>rO (arr.setIfInBounds off v) (off+1) r
theorem Q5 (vs:List Value):∀ (arr:Array Value) (off:Nat),(rO arr off vs).size=arr.size:=by
 induction vs with
 |nil=>intros;rfl
 |cons v r ih=>intro arr off;simp [rO,ih]
theorem JY (vs:List Value):∀ (arr:Array Value) (off i:Nat),(rO arr off vs)[i]? =if off<=i/\i<off+vs.length/\i<arr.size then vs[i-off]? else arr[i]? :=by
 induction vs with
 |nil=>intro arr off i;rw[AD (by simp;omega)];rfl
 |cons v r ih=>
  intro arr off i
  simp only[rO,ih,Array.size_setIfInBounds,ACJ,NZ]
  by_cases h1:i=off
  ·subst h1
   by_cases h2:i<arr.size
   ·rw[AD (by omega),AB rfl,AB h2,AB (by omega)];simp
   ·rw[AD (by omega),AB rfl,AD h2,AD (by omega),AA5 (by omega)]
  ·by_cases h3:off+1<=i/\i<off+1+r.length/\i<arr.size
   ·rw[AB h3,AB (by omega)]
    have:i-off=(i-(off+1))+1:=by omega
    rw[this];simp
   ·rw[AD h3,AD (fun h=>h1 h.symm),AD (by omega)]
theorem CE (arr:Array Value) (off n j:Nat):(BN arr off n)[j]? =if j<n then arr[off+j]? else none:=by
 unfold BN
 rw[kQ]
 split
 ·rw[aX];simp
 ·rfl
theorem ZG {arr:Array Value} {o p n:Nat} {vs:List Value} (h:p+n<=o\/o+vs.length<=p):BN (rO arr o vs) p n=BN arr p n:=by
 apply VM
 intro j
 rw[CE,CE]
 split
 ·rw[JY,AD (by omega)]
 ·rfl
theorem bM {arr:Array Value} {o:Nat} {vs:List Value} (h:o+vs.length<=arr.size):BN (rO arr o vs) o vs.length=vs:=by
 apply VM
 intro j
 rw[CE]
 split
 ·rw[JY,AB (by omega)]
  congr 1;omega
 ·rw[T3 (by omega)]
theorem T_ {i j k:Nat} (h:i<j):(i+1)*k<=j*k:=sL _ h
theorem RowsIn.set {α:Type} {R:α->List Value->Prop} {sz:Nat} {arr:Array Value} {off:Nat} {xs:List α} (h:RowsIn R sz arr off xs) {k:Nat} {v:α} {vs:List Value} (hv:R v vs) (hl:vs.length=sz) (hk:k<xs.length) (ha:off+xs.length*sz<=arr.size):
  RowsIn R sz (rO arr (off+k*sz) vs) off (xs.set k v):=by
 intro i x hx
 rw[sH] at hx
 have OW:=T_ (k:=sz) hk
 rw[a_] at OW
 split at hx
 ·rename_i iK
  subst iK
  simp only[AX] at hx;subst hx
  have:=bM (arr:=arr) (o:=off+k*sz) (vs:=vs) (by rw[hl];omega)
  rw[hl] at this
  rw[this]
  exact hv
 ·rename_i iK
  rw[ZG]
  ·exact h i x hx
  ·rcases Nat.lt_or_gt_of_ne iK with h1|h1
   ·right;have:=T_ (k:=sz) h1;rw[a_] at this;omega
   ·left;have:=T_ (k:=sz) h1;rw[a_] at this;omega
theorem RowsIn.append {α:Type} {R:α->List Value->Prop} {sz:Nat} {arr:Array Value} {off:Nat} {xs ys:List α} (h:RowsIn R sz arr off xs) (h2:RowsIn R sz arr (off+xs.length*sz) ys):RowsIn R sz arr off (xs++ys):=by
 intro i x hx
 by_cases hi:i<xs.length
 ·rw[VI hi] at hx;exact h i x hx
 ·rw[VH (by omega)] at hx
  have:=h2 _ x hx
  have e:off+xs.length*sz+(i-xs.length)*sz=off+i*sz:=by
   have:xs.length+(i-xs.length)=i:=by omega
   rw[N0,←a_,this]
  rw[e] at this;exact this
theorem RowsIn.ADK {α:Type} {R:α->List Value->Prop} {sz:Nat} {arr YA :Array Value} {o o' :Nat} {xs:List α} (h:RowsIn R sz arr o xs) (he:BN YA o' (xs.length*sz)=BN arr o (xs.length*sz)):RowsIn R sz YA o' xs:=by
 intro i x hx
 have hi:i<xs.length:=by
  rcases GS i xs.length with h1|h1
  ·exact h1
  ·rw[T3 h1] at hx;cases hx
 have hm:=T_ (k:=sz) hi
 rw[a_] at hm
 have e:∀ (a:Array Value) (p:Nat),BN a (p+i*sz) sz=((BN a p (xs.length*sz)).drop (i*sz)).take sz:=by
  intro a p
  apply VM
  intro j
  rw[CE,kQ]
  split
  ·rw[aX,CE,AB (by omega),N0]
  ·rfl
 rw[e,he,←e]
 exact h i x hx
section
variable {P:Program}
theorem pK (w:World) (a:Addr) (v:Value) (k:Nat):(w.setCell a v).heap[k]? =if a.block=k then (match w.heap[k]? with
  |some (.cells c e f)=>some (.cells (if a.spot.isSome then c else c.setIfInBounds a.off v) e f)
  |o=>o) else w.heap[k]? :=by
 show (w.heap.modify a.block _)[k]? =_
 rw[Array.getElem?_modify]
 split
 ·cases w.heap[k]? with
  |none=>rfl
  |some o=>cases o <;> rfl
 ·rfl
def Flat (vs:List Value):Prop:=∀ v∈vs,(∀ c,v≠ .agg c)/\(∀ c,v≠ .tuple c)
theorem Rp.AJH {G:Nat->Prop} {w:World} (t:Ty) (x:t.T) (vs:List Value) (h:Rp G w t x vs):Flat vs:=by
 induction t generalizing vs with
 |pair a b VE VF=>
  obtain⟨v1,v2,rfl,h1,h2⟩:=h
  intro v hv
  rcases EY.1 hv with hv|hv
  ·exact VE _ _ h1 v hv
  ·exact VF _ _ h2 v hv
 |slice a=>
  obtain⟨m,rfl,_⟩:=h
  intro v hv;simp only[GO] at hv;subst hv
  exact⟨fun c h=>(by cases h),fun c h=>(by cases h)⟩
 |nf=>
  obtain⟨m,rfl⟩:=h
  intro v hv;simp only[GO] at hv;subst hv
  exact⟨fun c h=>(by cases h),fun c h=>(by cases h)⟩
 |_=>
  simp only[Rp] at h;subst h
  intro v hv;simp only[GO] at hv;subst hv
  exact⟨fun c h=>(by cases h),fun c h=>(by cases h)⟩
theorem KI {b off:Nat} {ty:TypeId} {fz:Nat×Nat} (vs:List Value):∀ (w:World) (arr:Array Value) (k:Nat),(∀ j,j<arr.size->¬(fz.1<=j/\j<fz.2))->w.heap[b]? =some (.cells arr ty fz)->Flat vs->off+k+vs.length<=arr.size→
  ∃ w',(storeCells ⟨b,off,none⟩ vs k).run P w= .ok () w' /\Rest w w' /\w'.heap.size=w.heap.size/\w'.heap[b]? =some (.cells (rO arr (off+k) vs) ty fz)/\∀ j,j≠b->w'.heap[j]? =w.heap[j]? :=by
 induction vs with
 |nil=>intro w arr k _ h _ _;exact⟨w,rfl,.refl _,rfl,h,fun _ _=>rfl⟩
 |cons v r ih=>
  intro w arr k hz h hf hn
  simp only[NZ] at hn
  have DM:off+k<arr.size:=by omega
  have Q1:w.cell? ⟨b,off+k,none⟩=some arr[off+k]:=by simp [World.cell?,h,DM]
  have hfz:w.frozen? ⟨b,off+k,none⟩=false:=by
   have:=hz (off+k) DM
   simp only[World.frozen?,h]
   simpa using this
  have hst:(store ((⟨b,off,none⟩:Addr).add k) v).run P w= .ok () (w.setCell ⟨b,off+k,none⟩ v):=by
   rw[H2]
   obtain⟨hv1,hv2⟩:=hf v (by simp)
   unfold store
   cases v <;> first|exact absurd rfl (hv1 _)|exact absurd rfl (hv2 _)|(simp only[Sem.run,Q1,hfz];rfl)
  have h' :(w.setCell ⟨b,off+k,none⟩ v).heap[b]? =some (.cells (arr.setIfInBounds (off+k) v) ty fz):=by
   rw[pK,AB rfl,h];rfl
  obtain⟨w',h1,h2,h3,h4,h5⟩:=ih _ _ (k+1) (fun j hj=>hz j (by simpa using hj)) h' (fun u hu=>hf u (by simp [hu])) (by simp;omega)
  refine⟨w', ?_, ?_, ?_,h4, ?_⟩
  ·simp only[storeCells,Sem.run_bind,hst,Result.andThen];exact h1
  ·have hr:Rest w (w.setCell ⟨b,off+k,none⟩ v):=⟨rfl,rfl,rfl⟩
   exact hr.trans h2
  ·rw[h3];simp [World.setCell]
  ·intro j hj
   rw[h5 j hj,pK,AD (fun he=>hj he.symm)]
theorem OZ {b off:Nat} {ty:TypeId} (vs:List Value) (w:World) (arr:Array Value) (k:Nat) (h:w.heap[b]? =some (.cells arr ty (0,0))) (hf:Flat vs) (hn:off+k+vs.length<=arr.size):
  ∃ w',(storeCells ⟨b,off,none⟩ vs k).run P w= .ok () w' /\Rest w w' /\w'.heap.size=w.heap.size/\w'.heap[b]? =some (.cells (rO arr (off+k) vs) ty (0,0))/\∀ j,j≠b->w'.heap[j]? =w.heap[j]? :=
 KI vs w arr k (fun j _=>by simp) h hf hn
theorem run_loadCells {b off:Nat} {ty:TypeId} {fz:Nat×Nat} (w:World) {arr:Array Value} (h:w.heap[b]? =some (.cells arr ty fz)) {n:Nat} (hn:off+n<=arr.size):(loadCells ⟨b,off,none⟩ n).run P w= .ok (BN arr off n).toArray w:=by
 have hl:(BN arr off n).length=n:=by unfold BN;simp;omega
 have:=run_loadCells_list (P:=P) w ⟨b,off,none⟩ (BN arr off n) (fun j v hj=>by
  rw[CE] at hj
  split at hj
  ·rw[H2];simp [World.cell?,h,hj]
  ·cases hj)
 rw[hl] at this
 exact this
theorem US {w:World} {m:Nm} {arr:Array Value} {ty:TypeId} {fz:Nat×Nat} {size:Nat} (hn:m.nil=false) (h:w.heap[m.B_]? =some (.cells arr ty fz)) (hs:m.off+m.len*size<=arr.size):
  (Builtin.firstCells size m.len (.slice m.ad m.len m.cap)).run P w= .ok (BN arr m.off (m.len*size)).toArray w:=by
 simp only[Nm.ad,hn,VL,QZ]
 exact run_loadCells w h hs
theorem tL (w:World) (t:TypeId) (v:Value):(newVar t v).run P w= .ok ⟨w.heap.size,0,none⟩ (w.alloc (.cells v.cells t)):=by
 simp [newVar,newRow]
theorem CY {s:Sem Value} {w w' :World} {v:Value} (h:s.run P w= .ok v w'):(do pure (Next.value (<-s)):Sem Next).run P w= .ok (.value v) w' :=by
 rw[Sem.run_bind,h];rfl
theorem IQ {w:World} {t0 t1:TypeId} {ts:Array TypeId} {ty e e1:TypeId} {q:TypeInfo} {a b:Option Addr} {len cap n c:Nat} {news:List Value} {w' :World}
  (h0:ts[0]? =some t0) (h1:ts[1]? =some t1) (hu:P.underlying t0=some (.slice e)) (hu1:P.underlying t1=some (.slice e1)) (hq:P.info? e=some q)
  (DR:(Builtin.firstCells q.size n (.slice b n c)).run P w= .ok news.toArray w) (qT:len+n<=cap)
  (hst:match a with|some p=>(storeCells (p.add (len*q.size)) news).run P w= .ok () w' |none=>w' =w):
  (Builtin.append_ ts ty #[.slice a len cap,.slice b n c]).run P w= .ok (.slice a (len+n) cap) w' :=by
 cases a with
 |none=>
  simp only at hst;subst hst
  simp [Builtin.append_,h0,h1,run_underlying hu,run_underlying hu1,sizeOf,typeInfo,hq,Builtin.lenOf,qT,DR]
 |some p=>
  simp only at hst
  simp [Builtin.append_,h0,h1,run_underlying hu,run_underlying hu1,sizeOf,typeInfo,hq,Builtin.lenOf,qT,DR,hst]
theorem run_append_grow {w:World} {t0 t1:TypeId} {ts:Array TypeId} {ty e e1:TypeId} {q:TypeInfo} {zv:Value} {a b:Option Addr} {len cap n c:Nat} {news olds:List Value}
  (h0:ts[0]? =some t0) (h1:ts[1]? =some t1) (hu:P.underlying t0=some (.slice e)) (hu1:P.underlying t1=some (.slice e1)) (hq:P.info? e=some q) (hz:q.zero=some zv) (hb:q.bytes≠0)
  (DR:(Builtin.firstCells q.size n (.slice b n c)).run P w.drew= .ok news.toArray w.drew) (hold:(Builtin.firstCells q.size len (.slice a len cap)).run P w.drew= .ok olds.toArray w.drew)
  (qT:cap<len+n) (hby:(len+n)*q.bytes<=140737488355328):
  ∃ c',len+n<=c' /\(Builtin.append_ ts ty #[.slice a len cap,.slice b n c]).run P w= .ok (.slice (some ⟨w.heap.size,0,none⟩) (len+n) c')
   (w.drew.alloc (.cells (olds.toArray++news.toArray++Builtin.zeroCells zv.cells (c' -(len+n))) e)):=by
 have h48:¬(281474976710656<Builtin.nextslicecap (len+n) cap*q.bytes):=by
  have:=growslice_fits (need:=len+n) (old:=cap) (bytes:=q.bytes) qT hby
  omega
 have hnc:¬(len+n<=cap):=by omega
 refine⟨grownCap w (len+n) cap e,Nat.le_add_right _ _, ?_⟩
 simp [Builtin.append_,h0,h1,run_underlying hu,run_underlying hu1,sizeOf,typeInfo,zeroValue,hq,hz,Builtin.lenOf,hnc,hb,h48,Question.forced,DR,hold,newRow,grownCap]
 congr 2
 apply ZD
 simp [JH]
theorem run_makeSlice {E:Env} (w:World) {t e:TypeId} {q:TypeInfo} {z:List SV} {k k' :IntKind} {n m:Int} (hu:P.underlying t=some (.slice e)) (hq:P.info? e=some q) (hz:NL P e=some z) (hs:z.length=q.size)
  (h0:0<=n) (h1:n<=m) (h2:m*q.bytes<=140737488355328) (h3:I64 m):
  (Instr.makeSlice t (.int k n) (.int k' m)).run P w= .ok (.slice (some ⟨w.heap.size,0,none⟩) n.toNat m.toNat)
   (w.alloc (.cells ((Array.range (m.toNat*z.length)).map fun i=>(AL E z).toArray[i%(AL E z).toArray.size]!) e)):=by
 obtain⟨zv,hzr,hzc⟩:=UF (E:=E) (P:=P) w hz
 have hn:I64 n:=⟨by have:=h3.1;omega,by have:=h3.2;omega⟩
 have e1:=InK.wrap (k:= .i64) hn
 have e2:=InK.wrap (k:= .i64) h3
 have c1:¬m<0:=by omega
 have hm2:(q.bytes:Int)*m<=140737488355328:=by rw[xU];exact h2
 have c2:¬(281474976710656<(q.bytes:Int)*m):=by omega
 have c3:¬n<0:=by omega
 have c4:¬m<n:=by omega
 by_cases hz0:m.toNat*q.size=0
 ·simp [Instr.makeSlice,run_underlying hu,asInt,asIntOf,typeInfo,hq,e1,e2,c1,c2,c3,c4,askRoom,sizeOf,hz0,newRow,hs]
  rw[show Array.range 0= #[] from by decide]
  simp
 ·simp [Instr.makeSlice,run_underlying hu,asInt,asIntOf,typeInfo,hq,e1,e2,c1,c2,c3,c4,askRoom,sizeOf,hz0,newRow,hs,hzr,hzc]
end
def fresh (z:List SV) (n size:Nat):List SV:=(List.range n).map fun i=>z.getD (i%size) AV
theorem pL {E:Env} {z:List SV} {len size:Nat} (h:z.length=size):
  AL E (fresh z (len*size) size)=((Array.range (len*size)).map fun i=>(AL E z).toArray[i%(AL E z).toArray.size]!).toList:=by
 unfold fresh
 rw[FB,UN,vX,Array.toList_range]
 apply VK
 intro i hi
 subst h
 rcases ACO z.length with h0|h0
 ·rw[h0] at hi;simp at hi
 ·have hl:i%z.length<z.length:=xV _ h0
  have e:(AL E z).toArray.size=z.length:=by simp [AS]
  rw[e]
  simp [FJ,NH hl]
end Go.V3
